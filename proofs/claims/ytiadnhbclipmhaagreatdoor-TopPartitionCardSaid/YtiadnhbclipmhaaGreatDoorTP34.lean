/- Contracts of functions that the law reaches: YtiadnhbclipmhaaGreatDoorTP34. Written for this claim. -/
import Derived.Test.YtiadnhbclipmhaaGreatDoorTP32
import Derived.Test.YtiadnhbclipmhaaGreatDoorSxInsr
import Derived.Test.YtiadnhbclipmhaaGreatDoorSxPub2
namespace Go.Proofs.YtiadnhbclipmhaaGreatDoor
open Go Go.Sx Go.ChangeShapes Go.WideShapes Go.ChangeAt Go.RowKit
set_option linter.unusedVariables false
set_option linter.unusedSimpArgs false
set_option maxRecDepth 100000
abbrev ET : List Nat := (8000000 + 8) :: (8000000 + 7) :: (8000000 + 12) :: EE
theorem eokT : EOk Tryz.prog ET := by
  refine ⟨by kernel_rfl, ?_⟩
  intro T hT
  rw [memN_iff, List.mem_cons, List.mem_cons, List.mem_cons] at hT
  rcases hT with rfl | rfl | rfl | hT
  · exact ⟨by kernel_rfl, by kernel_rfl⟩
  · exact ⟨by kernel_rfl, by kernel_rfl⟩
  · exact ⟨by kernel_rfl, by kernel_rfl⟩
  · exact eok.2 T (memN_iff.2 hT)
def partF (p : List NodeT) (ps : List PeerT) (h : Nat) : List PeerT := runF p h (p.length * (h + 1)) (normalF p ps)
def knowF (ps : List PeerT) (i : Nat) (v : Int) : List PeerT := ps.set i { ps.getD i default with known := (ps.getD i default).known ++ [v] }
structure Laws : Prop where
  part : ∀ (p : List NodeT) (ps : List PeerT) (h : Nat), Sml p → JInv p p.length 100 ps → ConnS p ps → h ≤ 2 → linksF p (partF p ps h) h = builtF (sortN p) (buildL (sortN p) h)
  mrg : ∀ (a b : List NodeT) (h : Nat), Sml (a ++ b) → h ≤ 2 → MrgB a (builtF (sortN a) (buildL (sortN a) h)) b (builtF (sortN b) (buildL (sortN b) h)) h
  both : ∀ (all a b : List NodeT) (pa pb : List PeerT) (h i j : Nat), Sml all → (a ++ b).Perm all → JInv a a.length 100 pa → ConnS a pa → JInv b b.length 100 pb → ConnS b pb → h ≤ 2 → i < a.length → j < b.length →
    linksF all (partF all (knowF (partF a pa h ++ partF b pb h) i (b.getD j default).id) h) h = mergedF (builtF (sortN a) (buildL (sortN a) h) ++ builtF (sortN b) (buildL (sortN b) h)) h (sortN (a ++ b))
  one : ∀ (all a b : List NodeT) (pa pb : List PeerT) (h : Nat), Sml all → (a ++ b).Perm all → JInv a a.length 100 pa → ConnS a pa → JInv b b.length 100 pb → ConnS b pb → h ≤ 2 → (a = [] ∨ b = []) →
    linksF all (partF all (partF a pa h ++ partF b pb h) h) h = mergedF (builtF (sortN a) (buildL (sortN a) h) ++ builtF (sortN b) (buildL (sortN b) h)) h (sortN (a ++ b))
theorem rst_left {a b : List NodeT} (h : Rst (a ++ b)) : Rst a :=
  ⟨by have := h.len; simp at this; omega, fun x hx => h.ok x (by simp [hx]), by have := h.ids; rw [List.map_append] at this; exact (List.nodup_append.1 this).1, by have := h.keys; rw [List.map_append] at this; exact (List.nodup_append.1 this).1⟩
theorem rst_right {a b : List NodeT} (h : Rst (a ++ b)) : Rst b :=
  ⟨by have := h.len; simp at this; omega, fun x hx => h.ok x (by simp [hx]), by have := h.ids; rw [List.map_append] at this; exact (List.nodup_append.1 this).2.1, by have := h.keys; rw [List.map_append] at this; exact (List.nodup_append.1 this).2.1⟩
theorem linksB {nodes : List NodeT} {ps : List PeerT} {h : Nat} (hn : nodes.length ≤ 64) (hh : h ≤ 16) : LksB (linksF nodes ps h) := by
  refine ⟨by rw [links_len]; omega, fun x hx => ?_⟩
  obtain ⟨p, _, rfl⟩ := List.mem_map.1 hx
  show ((List.range (h + 1)).map _).length ≤ 1000
  rw [List.length_map, List.length_range]; omega
set_option maxHeartbeats 2000000 in
theorem top_walk (W : Laws) {l : List Int} (hl : ∀ x ∈ l, -9223372036854775808 ≤ x ∧ x < 9223372036854775808) : Sx.Spec Tryz.prog GG 3 [.d (encL encI 1 l)] [] (.d (.bool true)) [] := by
  have cN : Tryz.prog.cellsOf 31 = 3 := by kernel_rfl
  have bN : Tryz.prog.bytesOf 31 = 32 := by kernel_rfl
  obtain ⟨⟨tp, a0⟩, hT0, hnew⟩ := new_ex 1000 hl
  simp only at hT0 hnew
  obtain ⟨⟨all, a1⟩, ⟨⟨hr, hl7⟩, hT1⟩, hsome⟩ := some_ex 1000 (l := tp) (a := a0) (n := 7) ⟨hT0, by decide, by decide⟩
  simp only at hr hl7 hT1 hsome
  obtain ⟨⟨hv, a2⟩, ⟨⟨hv1, hv2⟩, hT2⟩, hnx⟩ := next_ex 1000 (l := tp) (a := a1) (n := 3) ⟨hT1, by decide, by decide⟩
  simp only at hv1 hv2 hT2 hnx
  obtain ⟨h, rfl⟩ := Int.eq_ofNat_of_zero_le hv1
  have hh2 : h ≤ 2 := by omega
  have hal : all.length ≤ 7 := by omega
  refine spec_introF (E := ET) (fn := Tryz.f3) eokT (by kernel_rfl) (by kernel_rfl) Tryz.call3 (by kernel_rfl) (by kernel_rfl) (by kernel_rfl) ?_
  conv => whnf
  repeat' first | ((first | refine Ci hnew ?_ | refine Ci hsome ?_ | refine Ci hnx ?_ | refine Bt ?_ | refine Bf ?_ | refine Ni ?_ ?_ | refine Wq ?_ | refine Di ?_ | refine Oi ?_); conv => whnf)
  refine loop_auto [3, 4, 5] [] (fun x : Nat × List NodeT × List NodeT × Nat => [(7, .d (.int .i64 x.1)), (6, .ptr 2006 0)]) (fun x => [(1000, tapeB tp x.2.2.2), (2006, .box [.osl 3000 3 0 x.2.1.length, .osl 3001 3 0 x.2.2.1.length]), (3000, .row 31 3 x.2.1.length (cellOf encN x.2.1)), (3001, .row 31 3 x.2.2.1.length (cellOf encN x.2.2.1))])
    (fun x => x.1 ≤ all.length ∧ (x.2.1 ++ x.2.2.1).Perm (all.take x.1) ∧ TapeOk tp x.2.2.2) (fun x => all.length - x.1) (0, [], [], a2) ?_ (fun x hx => ?_) ⟨Nat.zero_le _, .refl _, hT2⟩
  · conv => whnf
    repeat' first | ((first | refine Bt ?_ | refine Bf ?_ | refine Ni ?_ ?_ | refine Wq ?_ | refine Di ?_ | refine Oi ?_); conv => whnf) | (refine bc_intro (fun _ => ?_) (fun _ => ?_) <;> (conv => whnf))
    all_goals try first | exact Lq
  · obtain ⟨i, p0, p1, a3⟩ := x
    obtain ⟨hi, hp, hT3⟩ := hx
    simp only at hi hp hT3
    conv => whnf
    refine bc_intro (fun hlt => ?_) (fun hlt => ?_)
    · have hlt0 : i < all.length := by simpa using hlt
      have hw1 : IntKind.i64.wrap ((i : Int) + 1) = ((i + 1 : Nat) : Int) := wrap_succ (n := 1000) (by omega) (by omega)
      have hpl := hp.length_eq
      rw [List.length_append, List.length_take] at hpl
      obtain ⟨⟨nv, a4⟩, ⟨⟨n1, n2⟩, hT4⟩, hnx2⟩ := next_ex 1000 (l := tp) (a := a3) (n := 2) ⟨hT3, by decide, by decide⟩
      simp only at n1 n2 hT4 hnx2
      rcases (show nv = 0 ∨ nv = 1 by omega) with rfl | rfl
      · have hpm : ((p0 ++ [all.getD i default]) ++ p1).Perm (all.take (i + 1)) := by
          rw [take_snoc hlt0, List.append_assoc]
          refine List.Perm.trans (List.Perm.append_left p0 List.perm_append_comm) ?_
          rw [← List.append_assoc]
          exact hp.append_right _
        conv => whnf
        repeat' first | ((first | refine Ci hnx2 ?_ | refine NextVC.mk (i + 1, p0 ++ [all.getD i default], p1, a4) ?_ ?_ ?_ | refine Bt ?_ | refine Bf ?_ | refine Ni ?_ ?_ | refine Wq ?_ | refine Di ?_ | refine Oi ?_); conv => whnf)
        all_goals try simp only [hw1, cN, bN, Int.toNat_natCast, Nat.zero_add, List.length_append, List.length_singleton]
        all_goals first | exact Lf | exact ⟨by omega, by omega⟩ | exact ⟨trivial, by omega, by omega⟩ | exact ⟨by omega, hpm, hT4⟩ | exact ⟨by decide, by decide⟩ | exact row_snoc rfl (RowLe.refl _ _ _) (jlt3 (DLe.of_eq rfl) (DLe.of_eq rfl) (DLe.of_eq rfl))
      · have hpm : (p0 ++ (p1 ++ [all.getD i default])).Perm (all.take (i + 1)) := by
          rw [take_snoc hlt0, ← List.append_assoc]
          exact hp.append_right _
        conv => whnf
        repeat' first | ((first | refine Ci hnx2 ?_ | refine NextVC.mk (i + 1, p0, p1 ++ [all.getD i default], a4) ?_ ?_ ?_ | refine Bt ?_ | refine Bf ?_ | refine Ni ?_ ?_ | refine Wq ?_ | refine Di ?_ | refine Oi ?_); conv => whnf)
        all_goals try simp only [hw1, cN, bN, Int.toNat_natCast, Nat.zero_add, List.length_append, List.length_singleton]
        all_goals first | exact Lf | exact ⟨by omega, by omega⟩ | exact ⟨trivial, by omega, by omega⟩ | exact ⟨by omega, hpm, hT4⟩ | exact ⟨by decide, by decide⟩ | exact row_snoc rfl (RowLe.refl _ _ _) (jlt3 (DLe.of_eq rfl) (DLe.of_eq rfl) (DLe.of_eq rfl))
    · have hlt0 : all.length ≤ i := by simpa using hlt
      rw [take_ge hlt0] at hp
      have hpl := hp.length_eq
      rw [List.length_append] at hpl
      have hrp : Rst (p0 ++ p1) := hr.perm hp
      have hS : Sml all := ⟨hr, by omega⟩
      have hS01 : Sml (p0 ++ p1) := ⟨hrp, by rw [List.length_append]; omega⟩
      have hS0 : Sml p0 := ⟨rst_left hrp, by omega⟩
      have hS1 : Sml p1 := ⟨rst_right hrp, by omega⟩
      have hN0 : p0.length * (h + 1) ≤ 7 * 3 := Nat.mul_le_mul (by omega) (by omega)
      have hN1 : p1.length * (h + 1) ≤ 7 * 3 := Nat.mul_le_mul (by omega) (by omega)
      obtain ⟨⟨ps0, b1⟩, ⟨⟨hJ0, hC0⟩, hT5⟩, hj0⟩ := joined_d 1000 (l := tp) (a := a3) (nodes := p0) (h := h) ⟨hT3, hS0.r, by omega, by omega⟩
      obtain ⟨⟨ps1, b2⟩, ⟨⟨hJ1, hC1⟩, hT6⟩, hj1⟩ := joined_d 1000 (l := tp) (a := b1) (nodes := p1) (h := h) ⟨hT5, hS1.r, by omega, by omega⟩
      simp only at hJ0 hC0 hT5 hj0 hJ1 hC1 hT6 hj1
      have hB0 := hJ0.prsB (by omega)
      have hB1 := hJ1.prsB (by omega)
      obtain ⟨⟨nk, rows, get⟩, hR, hrun0⟩ := run0 (nodes := p0) (ps := ps0) (h := h) (n := p0.length * (h + 1)) ⟨hS0, hB0, by omega, by omega⟩
      simp only at hR hrun0
      have hrun0 := hrun0.new2 5001 900001 (by decide) (by decide)
      simp only [renL, renS, renB, if_true, show ¬ (900000 : Nat) = 2000 by decide, if_false] at hrun0
      have hrun1 := run_d (nodes := p1) (ps := ps1) (h := h) (n := p1.length * (h + 1)) ⟨hS1, hB1, by omega, by omega⟩
      have hPB0 : PrsB (partF p0 ps0 h) := runB hB0 (by omega) (by omega)
      have hPB1 : PrsB (partF p1 ps1 h) := runB hB1 (by omega) (by omega)
      have hlk0 := (links0_spec (nodes := p0) (ps := partF p0 ps0 h) (h := h) ⟨hS0, hPB0, by omega⟩).new2 5002 900002 (by decide) (by decide)
      simp only [renL, renS, renB, if_true, show ¬ (900000 : Nat) = 2000 by decide, if_false] at hlk0
      have hlk1 := links_d (nodes := p1) (ps := partF p1 ps1 h) (h := h) ⟨hS1, hPB1, by omega⟩
      have hrd0 := rounds_spec p0.length h ⟨by omega, by omega⟩
      have hrd1 := rounds_spec p1.length h ⟨by omega, by omega⟩
      have hcell : ∀ a b, a < p0.length → b < 5 → FOk rows (get a b) ∧ DLe (fcD rows (get a b)) (cellOf encP (partF p0 ps0 h) a b) := fun a b ha hb => hR.cells ha hb
      have hpfl : (partF p0 ps0 h).length = p0.length := run_len
      have hle0 : LeL [.d (encL encN 3 p0), .d (.list p0.length 5 fun a b => fcD rows (get (0 + a) b)), .d (.int .i64 h)] [.d (encL encN 3 p0), .d (encL encP 5 (partF p0 ps0 h)), .d (.int .i64 h)] :=
        LeL.cons (LeS.refl _) (LeL.cons (LeS.d (DLe.rows hpfl.symm ⟨fun a b ha hb => by rw [Nat.zero_add]; exact (hcell a b (by omega) hb).2⟩)) (LeL.refl _))
      have hlk0b := hlk0.arg hle0
      have e0 := W.part p0 ps0 h hS0 hJ0 hC0 hh2
      have e1 := W.part p1 ps1 h hS1 hJ1 hC1 hh2
      have hM := W.mrg p0 p1 h hS01 hh2
      obtain ⟨L0, hL0⟩ : ∃ L, L = linksF p0 (partF p0 ps0 h) h := ⟨_, rfl⟩
      obtain ⟨L1, hL1⟩ : ∃ L, L = linksF p1 (partF p1 ps1 h) h := ⟨_, rfl⟩
      rw [← hL0] at hlk0b e0
      rw [← hL1] at hlk1 e1
      obtain ⟨P1, hP1⟩ : ∃ P, P = partF p1 ps1 h := ⟨_, rfl⟩
      have hP1l : P1.length = p1.length := by rw [hP1]; exact run_len
      rw [show runF p1 h (p1.length * (h + 1)) (normalF p1 ps1) = P1 from hP1.symm] at hrun1
      rw [← hP1] at hlk1
      have hLB0 : LksB L0 := by rw [e0]; exact hM.la
      have hLB1 : LksB L1 := by rw [e1]; exact hM.lb
      have hL0l : L0.length = p0.length := by rw [hL0]; exact links_len
      have hex0 := exact_spec (nodes := p0) (l := L0) (h := h) ⟨hS0, by omega, hLB0⟩
      have hex1 := exact_spec (nodes := p1) (l := L1) (h := h) ⟨hS1, by omega, hLB1⟩
      rw [decide_eq_true e0] at hex0
      rw [decide_eq_true e1] at hex1
      have hlkc : ∀ a b, a < p0.length → b < 2 → FOk (famLk 64 L0) (getLk L0 a b) ∧ DLe (fcD (famLk 64 L0) (getLk L0 a b)) (cellOf encLk L0 a b) := fun a b ha hb => famLk_cell (by omega) hb
      have hex0b := hex0.arg (show LeL [.d (encL encN 3 p0), .d (.list p0.length 2 fun a b => fcD (famLk 64 L0) (getLk L0 (0 + a) b)), .d (.int .i64 h)] [.d (encL encN 3 p0), .d (encL encLk 2 L0), .d (.int .i64 h)] from
        LeL.cons (LeS.refl _) (LeL.cons (LeS.d (DLe.rows hL0l.symm ⟨fun a b ha hb => by rw [Nat.zero_add]; exact (hlkc a b (by omega) hb).2⟩)) (LeL.refl _)))
      have hft : (!true) = false := rfl
      have cP : Tryz.prog.cellsOf 45 = 5 := by kernel_rfl
      have bP : Tryz.prog.bytesOf 45 = 72 := by kernel_rfl
      have hfl1 : FlatB (.frow 900002 62 2 p0.length (getLk L0)) := flat_getLk
      have hfl2 : FlatB (.fam p0.length (famLk 64 L0)) := flat_famLk
      conv => whnf
      repeat' first | ((first | refine Bt ?_ | refine Bf ?_ | refine Ni ?_ ?_ | refine Wq ?_ | refine Di ?_ | refine Oi ?_); conv => whnf)
      refine loop_pub [3000, 3001] ?_
      conv => whnf
      refine loop_auto [3, 4, 5] [] (fun k : Nat => [(11, .d (.int .i64 k)), (6, .ptr 2006 0), (10, .ptr 2010 0), (9, if k = 0 then .d (.val (.slice none 0 0)) else if k = 1 then .osl 5082 5 0 p0.length else .osl 5082 5 0 (p0.length + p1.length))])
        (fun k => (2006, .box [.d (encL encN 3 p0), .d (encL encN 3 p1)]) :: if k = 0 then [(1000, tapeB tp a3), (2010, .box [.d (.val (.slice none 0 0)), .d (.val (.slice none 0 0))])]
          else if k = 1 then [(1000, tapeB tp b1), (2010, .box [.osl 5002 2 0 p0.length, .d (.val (.slice none 0 0))]), (5002, .frow 900002 62 2 p0.length (getLk L0)), (900002, .fam p0.length (famLk 64 L0)), (5082, .frow 900001 45 5 p0.length get), (900001, .fam nk rows)]
          else [(1000, tapeB tp b2), (2010, .box [.osl 5002 2 0 p0.length, .d (encL encLk 2 L1)]), (5002, .frow 900002 62 2 p0.length (getLk L0)), (900002, .fam p0.length (famLk 64 L0)), (5082, .frow 900001 45 5 (p0.length + p1.length) (fun a b => if a < p0.length then get a b else .d (cellOf encP P1 (a - p0.length) b))), (900001, .fam nk rows)])
        (fun k => k ≤ 2) (fun k => 2 - k) 0 ?_ (fun k hk => ?_) (by decide)
      · conv => whnf
        repeat' first | ((first | refine Bt ?_ | refine Bf ?_ | refine Ni ?_ ?_ | refine Wq ?_ | refine Di ?_ | refine Oi ?_); conv => whnf) | (refine bc_intro (fun _ => ?_) (fun _ => ?_) <;> (conv => whnf))
        all_goals try first | exact Lq
        all_goals exact DLe.rows rfl row_zero
      · rcases (show k = 0 ∨ k = 1 ∨ k = 2 by omega) with rfl | rfl | rfl
        · conv => whnf
          repeat' first | ((first | refine Ci hj0 ?_ | refine Ci hrun0 ?_ | refine Ci hrd0 ?_ | refine Ci hlk0b ?_ | refine Ci hex0b ?_ | refine NextVC.mk 1 ?_ ?_ ?_ | refine Bt ?_ | refine Bf ?_ | refine Ni ?_ ?_ | refine Wq ?_ | refine Di ?_ | refine Oi ?_); conv => whnf)
          all_goals try simp only [cP, bP, hP1l]
          all_goals first
            | exact Lf | exact ⟨by omega, by omega⟩ | exact ⟨by decide, by decide⟩ | exact ⟨trivial, by omega, by omega⟩
            | decide
            | exact DLe.of_eq rfl | exact FamLe.refl _ | exact FRowLe.refl _ _ _
            | exact fun a b ha hb => by rw [Nat.zero_add]; exact (hlkc a b ha hb).1
            | exact fun a b ha hb => by rw [Nat.zero_add]; exact (hcell a b ha hb).1
        · conv => whnf
          repeat' first | ((first | refine Ci hj1 ?_ | refine Ci hrun1 ?_ | refine Ci hrd1 ?_ | refine Ci hlk1 ?_ | refine Ci hex1 ?_ | refine NextVC.mk 2 ?_ ?_ ?_ | refine Bt ?_ | refine Bf ?_ | refine Ni ?_ ?_ | refine Wq ?_ | refine Di ?_ | refine Oi ?_); conv => whnf)
          all_goals try simp only [cP, bP, hP1l]
          all_goals first
            | exact Lf | exact ⟨by omega, by omega⟩ | exact ⟨by decide, by decide⟩ | exact ⟨trivial, by omega, by omega⟩
            | decide
            | exact DLe.of_eq rfl | exact FamLe.refl _ | exact FRowLe.refl _ _ _
            | exact fun a b ha hb => by rw [Nat.zero_add]; exact (hlkc a b ha hb).1
            | exact fun a b ha hb => by rw [Nat.zero_add]; exact (hcell a b ha hb).1
        · rw [← e0, ← e1] at hM
          have hmg := (merge_d hM).arg (show LeL [.d (encL encN 3 p0), .d (.list p0.length 2 fun a b => fcD (famLk 64 L0) (getLk L0 (0 + a) b)), .d (encL encN 3 p1), .d (encL encLk 2 L1), .d (.int .i64 h)] [.d (encL encN 3 p0), .d (encL encLk 2 L0), .d (encL encN 3 p1), .d (encL encLk 2 L1), .d (.int .i64 h)] from
            LeL.cons (LeS.refl _) (LeL.cons (LeS.d (DLe.rows hL0l.symm ⟨fun a b ha hb => by rw [Nat.zero_add]; exact (hlkc a b (by omega) hb).2⟩)) (LeL.refl _)))
          obtain ⟨M, hMd⟩ : ∃ M, M = mergedF (L0 ++ L1) h (sortN (p0 ++ p1)) := ⟨_, rfl⟩
          rw [← hMd] at hmg
          have hrdA := rounds_spec all.length h ⟨by omega, by omega⟩
          obtain ⟨P0, hP0⟩ : ∃ P, P = partF p0 ps0 h := ⟨_, rfl⟩
          rw [← hP0] at hcell hpfl
          have hPB : PrsB (P0 ++ P1) := ⟨by rw [List.length_append]; omega, fun p hp => by rcases List.mem_append.1 hp with h | h; exact (hP0 ▸ hPB0).ok p h; exact (hP1 ▸ hPB1).ok p h⟩
          have hNA : all.length * (h + 1) ≤ 7 * 3 := Nat.mul_le_mul (by omega) (by omega)
          have hpc : ∀ a b, a < p0.length + p1.length → b < 5 → FOk rows (if a < p0.length then get a b else .d (cellOf encP P1 (a - p0.length) b)) ∧ DLe (fcD rows (if a < p0.length then get a b else .d (cellOf encP P1 (a - p0.length) b))) (cellOf encP (P0 ++ P1) a b) := by
            intro a b ha hb
            by_cases e : a < p0.length
            · rw [if_pos e]
              have := hcell a b e hb
              rw [show cellOf encP (P0 ++ P1) a b = cellOf encP P0 a b by simp only [cellOf, getD_append_left (show a < P0.length by omega)]]
              exact this
            · rw [if_neg e]
              refine ⟨trivial, ?_⟩
              rw [show cellOf encP (P0 ++ P1) a b = cellOf encP P1 (a - p0.length) b by simp only [cellOf, getD_append_right (show ¬ a < P0.length by omega), hpfl]]
              exact DLe.refl _
          by_cases hne : p0.length = 0 ∨ p1.length = 0
          · have hW := W.one all p0 p1 ps0 ps1 h hS hp hJ0 hC0 hJ1 hC1 hh2 (by rcases hne with h | h; exact .inl (List.eq_nil_of_length_eq_zero h); exact .inr (List.eq_nil_of_length_eq_zero h))
            rw [← hP0, ← hP1, ← e0, ← e1, ← hMd] at hW
            have hrunA := run_d (nodes := all) (ps := P0 ++ P1) (h := h) (n := all.length * (h + 1)) ⟨hS, hPB, by omega, by omega⟩
            have hlkA := links_d (nodes := all) (ps := partF all (P0 ++ P1) h) (h := h) ⟨hS, runB hPB (by omega) (by omega), by omega⟩
            have hMB : LksB M := hW ▸ linksB (by omega) (by omega)
            rw [hW] at hlkA
            have hsame := ref6Same_spec M M ⟨hMB, hMB⟩
            rw [decide_eq_true rfl] at hsame
            have hrunA2 := hrunA.arg (show LeL [.d (encL encN 3 all), .d (.list (p0.length + p1.length) 5 fun a b => fcD rows (if 0 + a < p0.length then get (0 + a) b else .d (cellOf encP P1 (0 + a - p0.length) b))), .d (.int .i64 h), .d (.int .i64 ((all.length * (h + 1) : Nat) : Int))] [.d (encL encN 3 all), .d (encL encP 5 (P0 ++ P1)), .d (.int .i64 h), .d (.int .i64 ((all.length * (h + 1) : Nat) : Int))] from
              LeL.cons (LeS.refl _) (LeL.cons (LeS.d (DLe.rows (by rw [List.length_append]; omega) ⟨fun a b ha hb => by rw [Nat.zero_add]; exact (hpc a b (by rw [List.length_append] at ha; omega) hb).2⟩)) (LeL.refl _)))
            rw [show runF all h (all.length * (h + 1)) (normalF all (P0 ++ P1)) = partF all (P0 ++ P1) h from rfl] at hrunA2
            obtain ⟨R, hRd⟩ : ∃ R, R = partF all (P0 ++ P1) h := ⟨_, rfl⟩
            rw [← hRd] at hrunA2 hlkA
            have hz1 : ((0 : Int) == 0) = true := rfl
            have htt : true = true := rfl
            rcases Nat.eq_zero_or_pos p0.length with hz | hz
            · have hc1 : decide ((p0.length : Int) > 0) = false := by rw [hz]; rfl
              conv => whnf
              repeat' first | ((first | refine Ci hmg ?_ | refine Ci hrdA ?_ | refine Ci hrunA2 ?_ | refine Ci hlkA ?_ | refine Ci hsame ?_ | refine Ci sane0 ?_ | refine Bt ?_ | refine Bf ?_ | refine Ni ?_ ?_ | refine Wq ?_ | refine Di ?_ | refine Oi ?_); conv => whnf)
              all_goals first
                | exact ⟨LeS.refl _, trivial⟩ | exact ⟨by decide, by decide⟩
                | exact fun a b ha hb => (hlkc a b ha hb).1
                | exact fun a b ha hb => by rw [Nat.zero_add]; exact (hlkc a b ha hb).1
                | exact fun a b ha hb => (hpc a b ha hb).1
                | exact fun a b ha hb => by rw [Nat.zero_add]; exact (hpc a b ha hb).1
            · have hc1 : decide ((p0.length : Int) > 0) = true := by simp; omega
              have hc2 : decide ((p1.length : Int) > 0) = false := by rw [hne.resolve_left (by omega)]; rfl
              conv => whnf
              repeat' first | ((first | refine Ci hmg ?_ | refine Ci hrdA ?_ | refine Ci hrunA2 ?_ | refine Ci hlkA ?_ | refine Ci hsame ?_ | refine Ci sane0 ?_ | refine Bt ?_ | refine Bf ?_ | refine Ni ?_ ?_ | refine Wq ?_ | refine Di ?_ | refine Oi ?_); conv => whnf)
              all_goals first
                | exact ⟨LeS.refl _, trivial⟩ | exact ⟨by decide, by decide⟩
                | exact fun a b ha hb => (hlkc a b ha hb).1
                | exact fun a b ha hb => by rw [Nat.zero_add]; exact (hlkc a b ha hb).1
                | exact fun a b ha hb => (hpc a b ha hb).1
                | exact fun a b ha hb => by rw [Nat.zero_add]; exact (hpc a b ha hb).1
          · have hn0 : 0 < p0.length := by omega
            have hn1 : 0 < p1.length := by omega
            obtain ⟨⟨iv, b3⟩, ⟨⟨i1, i2⟩, hT7⟩, hnxI⟩ := next_ex 1000 (l := tp) (a := b2) (n := (p0.length : Int)) ⟨hT6, by omega, by omega⟩
            simp only at i1 i2 hT7 hnxI
            obtain ⟨i0, rfl⟩ := Int.eq_ofNat_of_zero_le i1
            have hi0 : i0 < p0.length := by omega
            obtain ⟨⟨jv, b4⟩, ⟨⟨j1, j2⟩, hT8⟩, hnxJ⟩ := next_ex 1000 (l := tp) (a := b3) (n := (p1.length : Int)) ⟨hT7, by omega, by omega⟩
            simp only at j1 j2 hT8 hnxJ
            obtain ⟨j0, rfl⟩ := Int.eq_ofNat_of_zero_le j1
            have hj0' : j0 < p1.length := by omega
            have hc1 : decide ((p0.length : Int) > 0) = true := by simp; omega
            have hc2 : decide ((p1.length : Int) > 0) = true := by simp; omega
            have hc3 : (((p0.length + p1.length : Nat) : Int) != (all.length : Int)) = false := by rw [hpl]; simp
            have hc4 : (!(((p0.length + p1.length : Nat) : Int) == (all.length : Int))) = false := hc3
            obtain ⟨key, hget, hNP⟩ := hR.2 (Nat.mul_pos hn0 (by omega))
            rw [show runF p0 h (p0.length * (h + 1)) (normalF p0 ps0) = P0 from hP0.symm] at hget hNP
            have hNPc := hNP.cell i0 (by rw [hpfl]; exact hi0)
            obtain ⟨kk, gg, q1, q2, q3, q4⟩ := hNPc
            have hkk : key i0 = kk := by injection q1
            have hgi : get (0 + ((i0 : Nat) : Int).toNat) 1 = .fs kk 1 (P0.getD i0 default).known.length := by
              rw [Nat.zero_add, Int.toNat_natCast, hget]; exact q1
            have cI : Tryz.prog.cellsOf 3 = 1 := by kernel_rfl
            have bI : Tryz.prog.bytesOf 3 = 8 := by kernel_rfl
            have hPk : PrsB (knowF (P0 ++ P1) i0 (p1.getD j0 default).id) := by
              have hia : i0 < (P0 ++ P1).length := by rw [List.length_append]; omega
              refine ⟨by unfold knowF; rw [List.length_set]; exact hPB.len, fun p hp => ?_⟩
              rcases List.mem_or_eq_of_mem_set hp with hp | rfl
              · exact hPB.ok p hp
              · refine ⟨?_, (hPB.at hia).near⟩
                have e : (P0 ++ P1).getD i0 default = P0.getD i0 default := getD_append_left (by omega)
                have e2 : (P0.getD i0 default).known.length ≤ p0.length := by
                  rw [hP0]
                  obtain ⟨n', hn'⟩ : ∃ n', p0.length * (h + 1) = n' + 1 := ⟨p0.length * (h + 1) - 1, by have := Nat.mul_pos hn0 (show 0 < h + 1 by omega); omega⟩
                  unfold partF
                  rw [hn']
                  show ((rRoundF p0 (runF p0 h n' (normalF p0 ps0)) h).getD i0 default).known.length ≤ _
                  unfold rRoundF
                  rw [map_getD (by rw [normal_len]; exact hi0)]
                  exact refs_len2
                show (((P0 ++ P1).getD i0 default).known ++ [(p1.getD j0 default).id]).length ≤ 1000
                rw [List.length_append, List.length_singleton, e]; omega
            have hkl : (P0.getD i0 default).known.length ≤ 999 := by
              have := (hPk.at (i := i0) (by unfold knowF; rw [List.length_set, List.length_append]; omega)).known
              unfold knowF at this
              rw [set_get (by rw [List.length_append]; omega), if_pos rfl, getD_append_left (show i0 < P0.length by omega)] at this
              simp only [List.length_append, List.length_singleton] at this
              omega
            have hkc := know_cells (rows := rows) (nk := nk) (sz := Tryz.prog.cellsOf 3) (P1 := P1) (id := (p1.getD j0 default).id) (get0 := fun a b => if a < p0.length then get a b else .d (cellOf encP P1 (a - p0.length) b)) (g := fun a j => if a < (P0.getD i0 default).known.length then rowGet rows kk a j else tabF (fun _ j => [D.int .i64 0].getD j default) [(0, [cellOf encN p1 ((j0 : Nat) : Int).toNat (0 + 0)])] (a - (P0.getD i0 default).known.length) j)
              hNP (by rw [hpfl]; exact hi0) hkk cI rfl (row_snoc rfl ⟨fun a b ha hb => by simp only [rowGet, q3]; exact q4.le a b ha hb⟩ (fun j hj => by
                have : j = 0 := by omega
                subst this
                rw [Int.toNat_natCast]; exact DLe.refl _)) (fun a b ha => by rw [hpfl] at ha; simp only [if_pos ha, hget]) (fun a b ha => by rw [hpfl] at ha ⊢; simp only [if_neg ha])
            rw [hpfl, hP1l] at hkc
            have hW := W.both all p0 p1 ps0 ps1 h i0 j0 hS hp hJ0 hC0 hJ1 hC1 hh2 hi0 hj0'
            rw [← hP0, ← hP1, ← e0, ← e1, ← hMd] at hW
            have hrunA := run_d (nodes := all) (ps := knowF (P0 ++ P1) i0 (p1.getD j0 default).id) (h := h) (n := all.length * (h + 1)) ⟨hS, hPk, by omega, by omega⟩
            have hlkA := links_d (nodes := all) (ps := partF all (knowF (P0 ++ P1) i0 (p1.getD j0 default).id) h) (h := h) ⟨hS, runB hPk (by omega) (by omega), by omega⟩
            have hMB : LksB M := hW ▸ linksB (by omega) (by omega)
            rw [hW] at hlkA
            have hsame := ref6Same_spec M M ⟨hMB, hMB⟩
            rw [decide_eq_true rfl] at hsame
            have hi0k : 0 + ((i0 : Nat) : Int).toNat = i0 := by rw [Nat.zero_add, Int.toNat_natCast]
            have hkc2 : ∀ a b, a < p0.length + p1.length → b < 5 → FOk (kRows rows 3 (Tryz.prog.cellsOf 3) kk nk ((P0.getD i0 default).known.length + 1) (fun a j => if a < (P0.getD i0 default).known.length then rowGet rows kk a j else tabF (fun _ j => [D.int .i64 0].getD j default) [(0, [cellOf encN p1 ((j0 : Nat) : Int).toNat (0 + 0)])] (a - (P0.getD i0 default).known.length) j)) (kGet (fun a b => if a < p0.length then get a b else .d (cellOf encP P1 (a - p0.length) b)) (0 + ((i0 : Nat) : Int).toNat) nk (Tryz.prog.cellsOf 3) ((P0.getD i0 default).known.length + 1) (0 + a) b) ∧ DLe (fcD (kRows rows 3 (Tryz.prog.cellsOf 3) kk nk ((P0.getD i0 default).known.length + 1) (fun a j => if a < (P0.getD i0 default).known.length then rowGet rows kk a j else tabF (fun _ j => [D.int .i64 0].getD j default) [(0, [cellOf encN p1 ((j0 : Nat) : Int).toNat (0 + 0)])] (a - (P0.getD i0 default).known.length) j)) (kGet (fun a b => if a < p0.length then get a b else .d (cellOf encP P1 (a - p0.length) b)) (0 + ((i0 : Nat) : Int).toNat) nk (Tryz.prog.cellsOf 3) ((P0.getD i0 default).known.length + 1) (0 + a) b)) (cellOf encP (knowF (P0 ++ P1) i0 (p1.getD j0 default).id) a b) := fun a b ha hb => by
              have e : 0 + a = a := Nat.zero_add a
              rw [hi0k, e]; exact hkc a b ha hb
            have hrunA2 := hrunA.arg (show LeL [.d (encL encN 3 all), .d (.list (p0.length + p1.length) 5 fun a b => fcD (kRows rows 3 (Tryz.prog.cellsOf 3) kk nk ((P0.getD i0 default).known.length + 1) (fun a j => if a < (P0.getD i0 default).known.length then rowGet rows kk a j else tabF (fun _ j => [D.int .i64 0].getD j default) [(0, [cellOf encN p1 ((j0 : Nat) : Int).toNat (0 + 0)])] (a - (P0.getD i0 default).known.length) j)) (kGet (fun a b => if a < p0.length then get a b else .d (cellOf encP P1 (a - p0.length) b)) (0 + ((i0 : Nat) : Int).toNat) nk (Tryz.prog.cellsOf 3) ((P0.getD i0 default).known.length + 1) (0 + a) b)), .d (.int .i64 h), .d (.int .i64 ((all.length * (h + 1) : Nat) : Int))] [.d (encL encN 3 all), .d (encL encP 5 (knowF (P0 ++ P1) i0 (p1.getD j0 default).id)), .d (.int .i64 h), .d (.int .i64 ((all.length * (h + 1) : Nat) : Int))] from
              LeL.cons (LeS.refl _) (LeL.cons (LeS.d (DLe.rows (by unfold knowF; rw [List.length_set, List.length_append]; omega) ⟨fun a b ha hb => (hkc2 a b (by unfold knowF at ha; rw [List.length_set, List.length_append] at ha; omega) hb).2⟩)) (LeL.refl _)))
            rw [show runF all h (all.length * (h + 1)) (normalF all (knowF (P0 ++ P1) i0 (p1.getD j0 default).id)) = partF all (knowF (P0 ++ P1) i0 (p1.getD j0 default).id) h from rfl] at hrunA2
            obtain ⟨R, hRd⟩ : ∃ R, R = partF all (knowF (P0 ++ P1) i0 (p1.getD j0 default).id) h := ⟨_, rfl⟩
            rw [← hRd] at hrunA2 hlkA
            have hz1 : ((0 : Int) == 0) = true := rfl
            have htt : true = true := rfl
            conv => whnf
            repeat' first | ((first | refine Ci hmg ?_ | refine Ci hnxI ?_ | refine Ci hnxJ ?_ | refine Ci hrdA ?_ | refine Ci sane0 ?_ | refine Bt ?_ | refine Bf ?_ | refine Ni ?_ ?_ | refine Wq ?_ | refine Di ?_ | refine Oi ?_); conv => whnf)
            · dsimp only
              rw [if_pos (show 0 + ((i0 : Nat) : Int).toNat < p0.length by rw [Nat.zero_add, Int.toNat_natCast]; exact hi0)]
              rw [hgi]
              conv => whnf
              repeat' first | ((first | refine Ci hrdA ?_ | refine Ci hrunA2 ?_ | refine Ci hlkA ?_ | refine Ci hsame ?_ | refine Ci sane0 ?_ | refine Bt ?_ | refine Bf ?_ | refine Ni ?_ ?_ | refine Wq ?_ | refine Di ?_ | refine Oi ?_); conv => whnf)
              all_goals first
                | exact ⟨LeS.refl _, trivial⟩ | exact ⟨by decide, by decide⟩ | exact ⟨by omega, by omega⟩
                | (simp only [Int.toNat_natCast, Nat.zero_add]; omega)
                | exact ⟨⟨_, q3, rfl, cI.symm, rfl⟩, by rw [bI]; omega, by omega⟩
                | exact fun a b ha hb => (hlkc a b ha hb).1
                | exact fun a b ha hb => by rw [Nat.zero_add]; exact (hlkc a b ha hb).1
                | exact fun a b ha hb => (hkc2 a b ha hb).1
                | exact fun a b ha hb => by have h9 := (hkc2 a b ha hb).1; have e9 : 0 + a = a := Nat.zero_add a; rw [e9] at h9; exact h9
            all_goals first
              | exact ⟨by decide, by decide⟩ | exact ⟨by omega, by omega⟩
              | (simp only [Int.toNat_natCast, Nat.zero_add]; omega)
              | exact fun a b ha hb => (hlkc a b ha hb).1
              | exact fun a b ha hb => by rw [Nat.zero_add]; exact (hlkc a b ha hb).1
end Go.Proofs.YtiadnhbclipmhaaGreatDoor
