/- Contracts of functions that the law reaches: YtiadnhbclipmhaaGreatDoorTP32. Written for this claim. -/
import Derived.Test.YtiadnhbclipmhaaGreatDoorTP30
namespace Go.Proofs.YtiadnhbclipmhaaGreatDoor
open Go Go.Sx Go.ChangeShapes Go.WideShapes Go.ChangeAt Go.RowKit
set_option linter.unusedVariables false
set_option linter.unusedSimpArgs false
set_option maxRecDepth 100000
def saneN : List NodeT := [⟨1, [97], 0⟩, ⟨2, [98], 2⟩]
def saneL : List LkdT := [⟨1, [⟨0, 2⟩, ⟨0, 2⟩]⟩, ⟨2, [⟨1, 0⟩, ⟨1, 0⟩]⟩]
structure HopT where
  from_ : Int
  to : Int
  level : Int
instance : Inhabited HopT := ⟨⟨0, 0, 0⟩⟩
def encH (x : HopT) : List D := [.int .i64 x.from_, .int .i64 x.to, .int .i64 x.level]
abbrev EH : List Nat := (4000000 + 79) :: EE
theorem eokH : EOk Tryz.prog EH := by
  refine ⟨by kernel_rfl, ?_⟩
  intro T hT
  rw [memN_iff, List.mem_cons] at hT
  rcases hT with rfl | hT
  · exact ⟨by kernel_rfl, by kernel_rfl⟩
  · exact eok.2 T (memN_iff.2 hT)
theorem hop0 (x y : NodeT) (lv : Nat) : Sx.Spec Tryz.prog GG 67 [nodeS y, .d (.int .i64 lv), .ptr 1000 0, .ptr 1001 0] [(1000, .box [.d (.val (.slice none 0 0))]), (1001, boxN x)] (.tup [])
    [(1000, .box [.d (encL encH 3 [⟨x.id, y.id, lv⟩])]), (1001, boxN y)] := by
  have cH : Tryz.prog.cellsOf 125 = 3 := by kernel_rfl
  have bH : Tryz.prog.bytesOf 125 = 24 := by kernel_rfl
  refine spec_intro (E := EH) (fn := Tryz.f67) eokH (by kernel_rfl) (by kernel_rfl) Tryz.call67 (by kernel_rfl) (by kernel_rfl) ?_
  conv => whnf
  repeat' first | ((first | refine Bt ?_ | refine Bf ?_ | refine Ni ?_ ?_ | refine Wq ?_ | refine Di ?_ | refine Oi ?_); conv => whnf)
  all_goals try simp only [cH, bH]
  all_goals first
    | exact Lf | exact ⟨by omega, by omega⟩
    | exact ⟨LeS.refl _, LeL.cons (LeS.d (dle_lit (by first | rfl | exact cH) rfl (row_one (jlt3 (DLe.of_eq rfl) (DLe.of_eq rfl) (DLe.of_eq rfl))))) LeL.nil, LeL.refl _, trivial⟩
theorem end0 (f t lv : Int) (g : Int) : Sx.Spec Tryz.prog GG 34 [.d (.int .i64 g), .d (encL encH 3 [⟨f, t, lv⟩])] [] (.d (.int .i64 t)) [] := by
  refine spec_intro (E := EE) (fn := Tryz.f34) eok (by kernel_rfl) (by kernel_rfl) Tryz.call34 (by kernel_rfl) (by kernel_rfl) ?_
  conv => whnf
  repeat' first | ((first | refine Bt ?_ | refine Bf ?_ | refine Ni ?_ ?_ | refine Wq ?_ | refine Di ?_ | refine Oi ?_); conv => whnf)
  all_goals first
    | exact ⟨LeS.refl _, trivial⟩
    | (constructor <;> (show _ ; decide))
    | exact ⟨show (0 : Int) ≤ 0 by decide, show (0 : Int) < 1 by decide⟩
def saneX (k : Nat) : NodeT := if k = 0 then ⟨1, [97], 0⟩ else ⟨2, [98], 2⟩
def saneO (k : Nat) : SV := if k = 0 then .d (.val (.slice none 0 0)) else .d (encL encH 3 [⟨1, 2, 1⟩])
theorem saneS : Sml saneN := by
  refine ⟨checkF_iff.1 (by decide), by decide⟩
set_option maxHeartbeats 1000000 in
theorem route0 : Sx.Spec Tryz.prog GG 33 [.d (encL encN 3 saneN), .d (encL encLk 2 saneL), .d (.int .i64 1), .d (.str [98])] [] (.tup [.d (encL encH 3 [⟨1, 2, 1⟩]), .d (.int .i64 0)]) [] := by
  have hmade := made_self (nodes := saneN) (ls := saneL) 3000 3001 (by decide) (by decide) (by decide) ⟨by decide, by decide⟩
  have hv := validKeyp_spec [98]
  have hk1 : decide ((([98] : List UInt8).length : Int) ≤ 64) = true := rfl
  rw [hk1] at hv
  have hchk := check_ok0 saneS
  have hh := (hop0 ⟨1, [97], 0⟩ ⟨2, [98], 2⟩ 1).at2 13 11 (by decide) (by decide)
  simp only [renL, renS, renB, boxN, if_true, show ¬ (1001 : Nat) = 1000 by decide, show ¬ (1002 : Nat) = 1000 by decide, show ¬ (1002 : Nat) = 1001 by decide, if_false] at hh
  have hl1 := (slink0 (nodes := saneN) (ls := saneL) (id := 1) (lv := 1) (side := 1) (b := true) (x := ⟨2, [98], 2⟩) rfl (fun _ => rfl) (fun h => by cases h) ⟨rfl, by decide⟩).at2 3000 3001 (by decide) (by decide)
  have hl2 := (slink0 (nodes := saneN) (ls := saneL) (id := 2) (lv := 1) (side := 1) (b := false) (x := default) rfl (fun h => by cases h) (fun _ => rfl) ⟨rfl, by decide⟩).at2 3000 3001 (by decide) (by decide)
  have hl3 := (slink0 (nodes := saneN) (ls := saneL) (id := 2) (lv := 0) (side := 1) (b := false) (x := default) rfl (fun h => by cases h) (fun _ => rfl) ⟨rfl, by decide⟩).at2 3000 3001 (by decide) (by decide)
  have hl4 := (slink0 (nodes := saneN) (ls := saneL) (id := 2) (lv := 0) (side := 0) (b := true) (x := ⟨1, [97], 0⟩) rfl (fun _ => rfl) (fun h => by cases h) ⟨rfl, by decide⟩).at2 3000 3001 (by decide) (by decide)
  simp only [renL, renS, renB, if_true, show ¬ (1001 : Nat) = 1000 by decide, if_false] at hl1 hl2 hl3 hl4
  refine spec_intro (E := EE) (fn := Tryz.f33) eok (by kernel_rfl) (by kernel_rfl) Tryz.call33 (by kernel_rfl) (by kernel_rfl) ?_
  conv => whnf
  repeat' first | ((first | refine Ci hchk ?_ | refine Ci hv ?_ | refine Ci hmade ?_ | refine Bt ?_ | refine Bf ?_ | refine Ni ?_ ?_ | refine Wq ?_ | refine Di ?_ | refine Oi ?_); conv => whnf)
  · refine loop_auto [10, 11, 13, 14, 15, 0 + 1 + 1 + 1] [10, 3000, 3001] (fun k : Nat => [(16, .d (.int .i64 (1 - (k : Int))))]) (fun k => [(11, boxN (saneX k)), (13, .box [saneO k])])
      (fun k => k ≤ 2) (fun k => 3 - k) 0 ?_ (fun k hk => ?_) (by decide)
    · conv => whnf
      repeat' first | ((first | refine Bt ?_ | refine Bf ?_ | refine Ni ?_ ?_ | refine Wq ?_ | refine Di ?_ | refine Oi ?_); conv => whnf) | (refine bc_intro (fun _ => ?_) (fun _ => ?_) <;> (conv => whnf))
      all_goals try first | exact Lq
      all_goals first | exact row_nil | exact DLe.of_eq rfl
    · rcases (show k = 0 ∨ k = 1 ∨ k = 2 by omega) with rfl | rfl | rfl
      · conv => whnf
        repeat' first | ((first | refine Bt ?_ | refine Bf ?_ | refine Ni ?_ ?_ | refine Wq ?_ | refine Di ?_ | refine Oi ?_); conv => whnf)
        refine loop_auto [10, 11, 13, 14, 15, 0 + 1 + 1 + 1, 16] [10, 3000, 3001] (fun k : Nat => []) (fun k => [(11, boxN (saneX k)), (13, .box [saneO k])])
          (fun k => k ≤ 1) (fun k => 2 - k) 0 ?_ (fun k hk => ?_) (by decide)
        · conv => whnf
          repeat' first | ((first | refine Bt ?_ | refine Bf ?_ | refine Ni ?_ ?_ | refine Wq ?_ | refine Di ?_ | refine Oi ?_); conv => whnf) | (refine bc_intro (fun _ => ?_) (fun _ => ?_) <;> (conv => whnf))
          all_goals try first | exact Lq
        · rcases (show k = 0 ∨ k = 1 by omega) with rfl | rfl
          · conv => whnf
            repeat' first | ((first | refine Ci hl1 ?_ | refine Ci hh ?_ | refine NextVC.mk 1 ?_ ?_ ?_ | refine Bt ?_ | refine Bf ?_ | refine Ni ?_ ?_ | refine Wq ?_ | refine Di ?_ | refine Oi ?_); conv => whnf)
            all_goals first
              | exact Lf | exact ⟨trivial, trivial, trivial, trivial⟩ | exact ⟨rfl, rfl, rfl, rfl⟩
              | exact GMapLe.of_eq (fun _ => rfl) (fun _ _ _ _ => rfl)
              | exact DLe.of_eq rfl
              | decide
          · conv => whnf
            repeat' first | ((first | refine Ci hl2 ?_ | refine NextVC.mk 1 ?_ ?_ ?_ | refine Bt ?_ | refine Bf ?_ | refine Ni ?_ ?_ | refine Wq ?_ | refine Di ?_ | refine Oi ?_); conv => whnf)
            all_goals first
              | exact Lf | exact ⟨trivial, trivial, trivial, trivial⟩ | exact ⟨rfl, rfl, rfl, rfl⟩
              | exact GMapLe.of_eq (fun _ => rfl) (fun _ _ _ _ => rfl)
              | exact DLe.of_eq rfl
              | decide
      · conv => whnf
        repeat' first | ((first | refine Bt ?_ | refine Bf ?_ | refine Ni ?_ ?_ | refine Wq ?_ | refine Di ?_ | refine Oi ?_); conv => whnf)
        refine loop_auto [10, 11, 13, 14, 15, 0 + 1 + 1 + 1, 16] [10, 3000, 3001, 11, 13] (fun k : Nat => []) (fun k => []) (fun k => k = 0) (fun k => 1 - k) 0 ?_ (fun k hk => ?_) rfl
        · conv => whnf
          repeat' first | ((first | refine Bt ?_ | refine Bf ?_ | refine Ni ?_ ?_ | refine Wq ?_ | refine Di ?_ | refine Oi ?_); conv => whnf) | (refine bc_intro (fun _ => ?_) (fun _ => ?_) <;> (conv => whnf))
          all_goals try first | exact Lq
        · subst hk
          conv => whnf
          repeat' first | ((first | refine Ci hl3 ?_ | refine NextVC.mk 2 ?_ ?_ ?_ | refine Bt ?_ | refine Bf ?_ | refine Ni ?_ ?_ | refine Wq ?_ | refine Di ?_ | refine Oi ?_); conv => whnf)
          all_goals first
            | exact Lf | exact ⟨trivial, trivial, trivial, trivial⟩ | exact ⟨rfl, rfl, rfl, rfl⟩
            | exact GMapLe.of_eq (fun _ => rfl) (fun _ _ _ _ => rfl)
            | exact DLe.of_eq rfl
            | decide
      · conv => whnf
        repeat' first | ((first | refine Ci hl4 ?_ | refine Bt ?_ | refine Bf ?_ | refine Ni ?_ ?_ | refine Wq ?_ | refine Di ?_ | refine Oi ?_); conv => whnf)
        all_goals first | exact ⟨LeS.refl _, trivial⟩
  all_goals first | exact ⟨rfl, rfl, by kernel_rfl, by kernel_rfl⟩
end Go.Proofs.YtiadnhbclipmhaaGreatDoor

namespace Go.Proofs.YtiadnhbclipmhaaGreatDoor
open Go Go.Sx Go.ChangeShapes Go.WideShapes Go.ChangeAt Go.RowKit
set_option linter.unusedVariables false
set_option linter.unusedSimpArgs false
set_option maxRecDepth 100000
theorem eok0 : EOk Tryz.prog [] := ⟨by kernel_rfl, fun T hT => by cases hT⟩
def saneP : List PeerT := [⟨2, [1], 0, 0, []⟩]
theorem sane_links : linksF saneN (runF saneN 1 4 (normalF saneN saneP)) 1 = saneL := by decide
theorem sane_ideal : builtF (sortN saneN) (buildL (sortN saneN) 1) = saneL := by decide
theorem saneLB : LksB saneL := by
  constructor <;> decide
abbrev litN (K : Nat) : D := .list 2 K (tabF (fun _ j => [D.int .i64 0, D.str [], D.int .u32 0].getD j default) [(0, [D.int .i64 1, D.str [97], D.int .u32 0]), (1, [D.int .i64 2, D.str [98], D.int .u32 2])])
abbrev litP (K J : Nat) : D := .list 1 K (tabF (fun _ j => [D.int .i64 0, D.val (.slice none 0 0), D.int .i64 0, D.int .i64 0, D.val (.slice none 0 0)].getD j default)
  [(0, [D.int .i64 2, D.list 1 J (tabF (fun _ j => [D.int .i64 0].getD j default) [(0, [D.int .i64 1])]), D.int .i64 0, D.int .i64 0, D.val (.slice none 0 0)])])
theorem litN_le {K : Nat} (hK : K = 3) : DLe (litN K) (encL encN 3 saneN) := dle_lit hK rfl ⟨fun i j hi hj =>
  match i, j, hi, hj with
  | 0, 0, _, _ => DLe.refl _
  | 0, 1, _, _ => DLe.refl _
  | 0, 2, _, _ => DLe.refl _
  | 1, 0, _, _ => DLe.refl _
  | 1, 1, _, _ => DLe.refl _
  | 1, 2, _, _ => DLe.refl _⟩
theorem litP_le {K J : Nat} (hK : K = 5) (hJ : J = 1) : DLe (litP K J) (encL encP 5 saneP) := dle_lit hK rfl ⟨fun i j hi hj =>
  match i, j, hi, hj with
  | 0, 0, _, _ => DLe.refl _
  | 0, 1, _, _ => dle_lit (enc := encZ) (L := [1]) hJ rfl (row_one (jlt1 (DLe.of_eq rfl)))
  | 0, 2, _, _ => DLe.refl _
  | 0, 3, _, _ => DLe.refl _
  | 0, 4, _, _ => DLe.nil⟩
theorem sane0 : Sx.Spec Tryz.prog GG 14 [] [] (.d (.bool true)) [] := by
  have hrun := run_d (nodes := saneN) (ps := saneP) (h := 1) (n := 4) ⟨saneS, ⟨by decide, fun p hp => by simp only [saneP, List.mem_singleton] at hp; subst hp; exact ⟨by decide, by decide⟩⟩, by decide, by decide⟩
  have hlk := links_d (nodes := saneN) (ps := runF saneN 1 4 (normalF saneN saneP)) (h := 1) ⟨saneS, runB ⟨by decide, fun p hp => by simp only [saneP, List.mem_singleton] at hp; subst hp; exact ⟨by decide, by decide⟩⟩ (by decide) (by decide), by decide⟩
  have hex := exact_spec (nodes := saneN) (l := saneL) (h := 1) ⟨saneS, by decide, saneLB⟩
  rw [sane_ideal, decide_eq_true rfl] at hex
  rw [sane_links] at hlk
  obtain ⟨RP, hRP⟩ : ∃ RP, RP = runF saneN 1 4 (normalF saneN saneP) := ⟨_, rfl⟩
  rw [← hRP] at hrun hlk
  have hrun2 := hrun.arg (LeL.cons (LeS.d (litN_le (K := Tryz.prog.cellsOf 31) (by kernel_rfl))) (LeL.cons (LeS.d (litP_le (K := Tryz.prog.cellsOf 45) (J := Tryz.prog.cellsOf 3) (by kernel_rfl) (by kernel_rfl))) (LeL.refl _)))
  have hlk2 := hlk.arg (LeL.cons (LeS.d (litN_le (K := Tryz.prog.cellsOf 31) (by kernel_rfl))) (LeL.refl _))
  have hro2 := route0.arg (LeL.cons (LeS.d (litN_le (K := Tryz.prog.cellsOf 31) (by kernel_rfl))) (LeL.refl _))
  have hex2 := hex.arg (LeL.cons (LeS.d (litN_le (K := Tryz.prog.cellsOf 31) (by kernel_rfl))) (LeL.refl _))
  have hend := end0 1 2 1 1
  refine spec_intro (E := []) (fn := Tryz.f14) eok0 (by kernel_rfl) (by kernel_rfl) Tryz.call14 (by kernel_rfl) (by kernel_rfl) ?_
  conv => whnf
  repeat' first | ((first | refine Ci hrun2 ?_ | refine Ci hlk2 ?_ | refine Ci hro2 ?_ | refine Ci hex2 ?_ | refine Ci hend ?_ | refine Bt ?_ | refine Bf ?_ | refine Ni ?_ ?_ | refine Wq ?_ | refine Di ?_ | refine Oi ?_); conv => whnf)
  all_goals first | exact ⟨LeS.refl _, trivial⟩
end Go.Proofs.YtiadnhbclipmhaaGreatDoor
