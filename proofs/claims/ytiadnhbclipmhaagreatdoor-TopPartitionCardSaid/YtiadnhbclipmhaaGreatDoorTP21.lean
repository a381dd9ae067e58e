/- Contracts of functions that the law reaches: YtiadnhbclipmhaaGreatDoorTP21. Written for this claim. -/
import Derived.Test.YtiadnhbclipmhaaGreatDoorTP18
import Derived.Test.YtiadnhbclipmhaaGreatDoorTPGr
import Derived.Test.YtiadnhbclipmhaaGreatDoorSxInsr
import Derived.Test.YtiadnhbclipmhaaGreatDoorSxPub2
namespace Go.Proofs.YtiadnhbclipmhaaGreatDoor
open Go Go.Sx Go.ChangeShapes Go.WideShapes Go.ChangeAt Go.RowKit
set_option linter.unusedVariables false
set_option linter.unusedSimpArgs false
set_option maxRecDepth 100000
theorem growN_at (m : Nat) {n : Nat} {g : Nat → Nat → D} : n ≤ 2000 → Sx.Spec Tryz.prog GG 55 [.d (.val (.slice none 0 0)), .d (.int .i64 n)] [] (.osl m 3 0 0) [(m, .row 31 3 0 g)] := fun h =>
  (growNil_spec (G := GG) (n := n) (g := g) Tryz.growN (sz := 3) (bytes := 32) (z := (Tryz.prog.info? 31).get!.zero.get!) (by kernel_rfl) (by kernel_rfl) (by decide) Tryz.call55 (by omega) (by omega)).new1 m
theorem growL_at (m : Nat) {n : Nat} {g : Nat → Nat → D} : n ≤ 2000 → Sx.Spec Tryz.prog GG 61 [.d (.val (.slice none 0 0)), .d (.int .i64 n)] [] (.osl m 2 0 0) [(m, .row 62 2 0 g)] := fun h =>
  (growNil_spec (G := GG) (n := n) (g := g) Tryz.growL (sz := 2) (bytes := 32) (z := (Tryz.prog.info? 62).get!.zero.get!) (by kernel_rfl) (by kernel_rfl) (by decide) Tryz.call61 (by omega) (by omega)).new1 m
def encQ {α : Type} [Inhabited α] (enc : α → List D) (k : Nat) (c : List α) : List D := [encL enc k c]
def sumL {α : Type} (Ls : List (List α)) : Nat := (Ls.map (·.length)).sum
theorem flat_len {α : Type} {Ls : List (List α)} : Ls.flatten.length = sumL Ls := by rw [List.length_flatten]; rfl
theorem sum_take {α : Type} {Ls : List (List α)} {i : Nat} (h : i < Ls.length) : sumL (Ls.take (i + 1)) = sumL (Ls.take i) + (Ls.getD i default).length := by
  unfold sumL; rw [take_snoc h, List.map_append, List.sum_append]; simp
theorem sum_le {α : Type} {Ls : List (List α)} {i : Nat} : sumL (Ls.take i) ≤ sumL Ls := by
  conv => rhs; rw [← List.take_append_drop i Ls]
  unfold sumL; rw [List.map_append, List.sum_append]; omega
theorem concatN_spec (Ls : List (List NodeT)) : (Ls.length ≤ 1000 ∧ sumL Ls ≤ 1000) → Sx.Spec Tryz.prog GG 27 [.d (encL (encQ encN 3) 1 Ls)] [] (.osl 2000 3 0 (sumL Ls)) [(2000, .row 31 3 (sumL Ls) (cellOf encN Ls.flatten))] := by
  rintro ⟨hl, hs⟩
  have cB : Tryz.prog.cellsOf 31 = 3 := by kernel_rfl
  have bB : Tryz.prog.bytesOf 31 = 32 := by kernel_rfl
  refine spec_intro (E := EE) (fn := Tryz.f27) eok (by kernel_rfl) (by kernel_rfl) Tryz.call27 (by kernel_rfl) (by kernel_rfl) ?_
  conv => whnf
  repeat' first | ((first | refine Bt ?_ | refine Bf ?_ | refine Ni ?_ ?_ | refine Wq ?_ | refine Di ?_ | refine Oi ?_); conv => whnf)
  refine loop_auto [0, 9, 10, 2] [] (fun i : Nat => [(11, .d (.int .i64 i)), (3, .d (.int .i64 (sumL (Ls.take i))))]) (fun _ => []) (fun i => i ≤ Ls.length) (fun i => Ls.length - i) 0 ?_ (fun i hi => ?_) (Nat.zero_le _)
  · conv => whnf
    repeat' first | ((first | refine Bt ?_ | refine Bf ?_ | refine Ni ?_ ?_ | refine Wq ?_ | refine Di ?_ | refine Oi ?_); conv => whnf) | (refine bc_intro (fun _ => ?_) (fun _ => ?_) <;> (conv => whnf))
    all_goals try first | exact Lq
  · have hle := sum_le (Ls := Ls) (i := i)
    conv => whnf
    refine bc_intro (fun hlt => ?_) (fun hlt => ?_)
    · have hlt0 : i < Ls.length := by simpa using hlt
      have hle2 := sum_le (Ls := Ls) (i := i + 1)
      have hst := sum_take hlt0
      have hw1 : IntKind.i64.wrap ((i : Int) + 1) = ((i + 1 : Nat) : Int) := wrap_succ (n := 1000) (by omega) (by omega)
      have hw2 : IntKind.i64.wrap ((sumL (Ls.take i) : Int) + ((Ls.getD (i : Int).toNat default).length : Int)) = ((sumL (Ls.take (i + 1)) : Nat) : Int) := by
        simp only [Int.toNat_natCast]; rw [hst]; rw [wrap_of (by omega) (by omega)]; omega
      conv => whnf
      repeat' first | ((first | refine NextVC.mk (i + 1) ?_ ?_ ?_ | refine Bt ?_ | refine Bf ?_ | refine Ni ?_ ?_ | refine Wq ?_ | refine Di ?_ | refine Oi ?_); conv => whnf)
      · refine bc_intro (fun hb => ?_) (fun hb => ?_)
        · rw [hw2, decide_eq_true_eq] at hb; omega
        · conv => whnf
          repeat' first | ((first | refine NextVC.mk (i + 1) ?_ ?_ ?_ | refine Bt ?_ | refine Bf ?_ | refine Ni ?_ ?_ | refine Wq ?_ | refine Di ?_ | refine Oi ?_); conv => whnf)
          all_goals try simp only [hw1, hw2]
          all_goals first | exact Lf | exact ⟨by omega, by omega⟩
      all_goals exact ⟨by omega, by omega⟩
    · have hlt0 : Ls.length ≤ i := by simpa using hlt
      have e0 : i = Ls.length := by omega
      subst e0
      rw [take_ge (Nat.le_refl _)]
      conv => whnf
      repeat' first | ((first | refine call_if (growN_at 3000 (g := cellOf encN ([] : List NodeT))) Fl (Ni ?_ ?_) | refine Bt ?_ | refine Bf ?_ | refine Ni ?_ ?_ | refine Wq ?_ | refine Di ?_ | refine Oi ?_); conv => whnf)
      · refine loop_auto [0, 25, 26, 2] [] (fun i : Nat => [(27, .d (.int .i64 i)), (6, .osl 3000 3 0 (sumL (Ls.take i)))]) (fun i => [(3000, .row 31 3 (sumL (Ls.take i)) (cellOf encN (Ls.take i).flatten))]) (fun i => i ≤ Ls.length) (fun i => Ls.length - i) 0 ?_ (fun i hi => ?_) (Nat.zero_le _)
        · conv => whnf
          repeat' first | ((first | refine Bt ?_ | refine Bf ?_ | refine Ni ?_ ?_ | refine Wq ?_ | refine Di ?_ | refine Oi ?_); conv => whnf) | (refine bc_intro (fun _ => ?_) (fun _ => ?_) <;> (conv => whnf))
          all_goals try first | exact Lq
          all_goals exact row_nil
        · have hle := sum_le (Ls := Ls) (i := i)
          conv => whnf
          refine bc_intro (fun hlt => ?_) (fun hlt => ?_)
          · have hlt0 : i < Ls.length := by simpa using hlt
            have hle2 := sum_le (Ls := Ls) (i := i + 1)
            have hst := sum_take hlt0
            have hw1 : IntKind.i64.wrap ((i : Int) + 1) = ((i + 1 : Nat) : Int) := wrap_succ (n := 1000) (by omega) (by omega)
            have hft : (Ls.take (i + 1)).flatten = (Ls.take i).flatten ++ Ls.getD i default := by rw [take_snoc hlt0, List.flatten_append]; simp
            conv => whnf
            repeat' first | ((first | refine NextVC.mk (i + 1) ?_ ?_ ?_ | refine Bt ?_ | refine Bf ?_ | refine Ni ?_ ?_ | refine Wq ?_ | refine Di ?_ | refine Oi ?_); conv => whnf)
            all_goals try simp only [hw1, cB, bB, Int.toNat_natCast]
            all_goals first
              | exact Lf | exact ⟨by omega, by omega⟩ | exact ⟨trivial, by omega, by omega⟩ | exact ⟨trivial, trivial, hst.symm⟩
              | (rw [hft, hst]; exact row_append (by rw [flat_len]) (RowLe.refl _ _ _) (RowLe.refl _ _ _))
          · have hlt0 : Ls.length ≤ i := by simpa using hlt
            rw [take_ge hlt0]
            conv => whnf
            repeat' first | ((first | refine Bt ?_ | refine Bf ?_ | refine Ni ?_ ?_ | refine Wq ?_ | refine Di ?_ | refine Oi ?_); conv => whnf)
            all_goals first | exact Lf | exact RowLe.refl _ _ _
      · omega
theorem concatN_at (m : Nat) (Ls : List (List NodeT)) : (Ls.length ≤ 1000 ∧ sumL Ls ≤ 1000) → Sx.Spec Tryz.prog GG 27 [.d (encL (encQ encN 3) 1 Ls)] [] (.osl m 3 0 (sumL Ls)) [(m, .row 31 3 (sumL Ls) (cellOf encN Ls.flatten))] := fun h => (concatN_spec Ls h).new1 m
theorem concatL_spec (Ls : List (List LkdT)) : (Ls.length ≤ 1000 ∧ sumL Ls ≤ 1000) → Sx.Spec Tryz.prog GG 30 [.d (encL (encQ encLk 2) 1 Ls)] [] (.osl 2000 2 0 (sumL Ls)) [(2000, .row 62 2 (sumL Ls) (cellOf encLk Ls.flatten))] := by
  rintro ⟨hl, hs⟩
  have cB : Tryz.prog.cellsOf 62 = 2 := by kernel_rfl
  have bB : Tryz.prog.bytesOf 62 = 32 := by kernel_rfl
  refine spec_intro (E := EE) (fn := Tryz.f30) eok (by kernel_rfl) (by kernel_rfl) Tryz.call30 (by kernel_rfl) (by kernel_rfl) ?_
  conv => whnf
  repeat' first | ((first | refine Bt ?_ | refine Bf ?_ | refine Ni ?_ ?_ | refine Wq ?_ | refine Di ?_ | refine Oi ?_); conv => whnf)
  refine loop_auto [0, 9, 10, 2] [] (fun i : Nat => [(11, .d (.int .i64 i)), (3, .d (.int .i64 (sumL (Ls.take i))))]) (fun _ => []) (fun i => i ≤ Ls.length) (fun i => Ls.length - i) 0 ?_ (fun i hi => ?_) (Nat.zero_le _)
  · conv => whnf
    repeat' first | ((first | refine Bt ?_ | refine Bf ?_ | refine Ni ?_ ?_ | refine Wq ?_ | refine Di ?_ | refine Oi ?_); conv => whnf) | (refine bc_intro (fun _ => ?_) (fun _ => ?_) <;> (conv => whnf))
    all_goals try first | exact Lq
  · have hle := sum_le (Ls := Ls) (i := i)
    conv => whnf
    refine bc_intro (fun hlt => ?_) (fun hlt => ?_)
    · have hlt0 : i < Ls.length := by simpa using hlt
      have hle2 := sum_le (Ls := Ls) (i := i + 1)
      have hst := sum_take hlt0
      have hw1 : IntKind.i64.wrap ((i : Int) + 1) = ((i + 1 : Nat) : Int) := wrap_succ (n := 1000) (by omega) (by omega)
      have hw2 : IntKind.i64.wrap ((sumL (Ls.take i) : Int) + ((Ls.getD (i : Int).toNat default).length : Int)) = ((sumL (Ls.take (i + 1)) : Nat) : Int) := by
        simp only [Int.toNat_natCast]; rw [hst]; rw [wrap_of (by omega) (by omega)]; omega
      conv => whnf
      repeat' first | ((first | refine NextVC.mk (i + 1) ?_ ?_ ?_ | refine Bt ?_ | refine Bf ?_ | refine Ni ?_ ?_ | refine Wq ?_ | refine Di ?_ | refine Oi ?_); conv => whnf)
      · refine bc_intro (fun hb => ?_) (fun hb => ?_)
        · rw [hw2, decide_eq_true_eq] at hb; omega
        · conv => whnf
          repeat' first | ((first | refine NextVC.mk (i + 1) ?_ ?_ ?_ | refine Bt ?_ | refine Bf ?_ | refine Ni ?_ ?_ | refine Wq ?_ | refine Di ?_ | refine Oi ?_); conv => whnf)
          all_goals try simp only [hw1, hw2]
          all_goals first | exact Lf | exact ⟨by omega, by omega⟩
      all_goals exact ⟨by omega, by omega⟩
    · have hlt0 : Ls.length ≤ i := by simpa using hlt
      have e0 : i = Ls.length := by omega
      subst e0
      rw [take_ge (Nat.le_refl _)]
      conv => whnf
      repeat' first | ((first | refine call_if (growL_at 3000 (g := cellOf encLk ([] : List LkdT))) Fl (Ni ?_ ?_) | refine Bt ?_ | refine Bf ?_ | refine Ni ?_ ?_ | refine Wq ?_ | refine Di ?_ | refine Oi ?_); conv => whnf)
      · refine loop_auto [0, 25, 26, 2] [] (fun i : Nat => [(27, .d (.int .i64 i)), (6, .osl 3000 2 0 (sumL (Ls.take i)))]) (fun i => [(3000, .row 62 2 (sumL (Ls.take i)) (cellOf encLk (Ls.take i).flatten))]) (fun i => i ≤ Ls.length) (fun i => Ls.length - i) 0 ?_ (fun i hi => ?_) (Nat.zero_le _)
        · conv => whnf
          repeat' first | ((first | refine Bt ?_ | refine Bf ?_ | refine Ni ?_ ?_ | refine Wq ?_ | refine Di ?_ | refine Oi ?_); conv => whnf) | (refine bc_intro (fun _ => ?_) (fun _ => ?_) <;> (conv => whnf))
          all_goals try first | exact Lq
          all_goals exact row_nil
        · have hle := sum_le (Ls := Ls) (i := i)
          conv => whnf
          refine bc_intro (fun hlt => ?_) (fun hlt => ?_)
          · have hlt0 : i < Ls.length := by simpa using hlt
            have hle2 := sum_le (Ls := Ls) (i := i + 1)
            have hst := sum_take hlt0
            have hw1 : IntKind.i64.wrap ((i : Int) + 1) = ((i + 1 : Nat) : Int) := wrap_succ (n := 1000) (by omega) (by omega)
            have hft : (Ls.take (i + 1)).flatten = (Ls.take i).flatten ++ Ls.getD i default := by rw [take_snoc hlt0, List.flatten_append]; simp
            conv => whnf
            repeat' first | ((first | refine NextVC.mk (i + 1) ?_ ?_ ?_ | refine Bt ?_ | refine Bf ?_ | refine Ni ?_ ?_ | refine Wq ?_ | refine Di ?_ | refine Oi ?_); conv => whnf)
            all_goals try simp only [hw1, cB, bB, Int.toNat_natCast]
            all_goals first
              | exact Lf | exact ⟨by omega, by omega⟩ | exact ⟨trivial, by omega, by omega⟩ | exact ⟨trivial, trivial, hst.symm⟩
              | (rw [hft, hst]; exact row_append (by rw [flat_len]) (RowLe.refl _ _ _) (RowLe.refl _ _ _))
          · have hlt0 : Ls.length ≤ i := by simpa using hlt
            rw [take_ge hlt0]
            conv => whnf
            repeat' first | ((first | refine Bt ?_ | refine Bf ?_ | refine Ni ?_ ?_ | refine Wq ?_ | refine Di ?_ | refine Oi ?_); conv => whnf)
            all_goals first | exact Lf | exact RowLe.refl _ _ _
      · omega
theorem concatL_at (m : Nat) (Ls : List (List LkdT)) : (Ls.length ≤ 1000 ∧ sumL Ls ≤ 1000) → Sx.Spec Tryz.prog GG 30 [.d (encL (encQ encLk 2) 1 Ls)] [] (.osl m 2 0 (sumL Ls)) [(m, .row 62 2 (sumL Ls) (cellOf encLk Ls.flatten))] := fun h => (concatL_spec Ls h).new1 m
theorem clone0 (ls : List LkdT) : (ls.length ≤ 1000 ∧ ∀ x ∈ ls, x.levels.length ≤ 1000) → Sx.Spec Tryz.prog GG 29 [.d (encL encLk 2 ls)] [] (.osl 2000 2 0 ls.length) [(2000, .frow 900000 62 2 ls.length (getLk ls)), (900000, .fam ls.length (famLk 64 ls))] := by
  rintro ⟨hl, hb⟩
  have cP : Tryz.prog.cellsOf 62 = 2 := by kernel_rfl
  have bP : Tryz.prog.bytesOf 62 = 32 := by kernel_rfl
  refine spec_introF (E := EE) (fn := Tryz.f29) eok (by kernel_rfl) (by kernel_rfl) Tryz.call29 (by kernel_rfl) (by kernel_rfl) (by kernel_rfl) ?_
  conv => whnf
  repeat' first | ((first | refine Bt ?_ | refine Bf ?_ | refine Ni ?_ ?_ | refine Wq ?_ | refine Di ?_ | refine Oi ?_); conv => whnf)
  refine loop_auto [0, 6, 7] [] (fun i : Nat => [(8, .d (.int .i64 i)), (3, .osl 2000 2 0 i)]) (fun i => [(2000, .frow 900000 62 2 i (getLk (ls.take i))), (900000, .fam i (famLk 64 (ls.take i)))])
    (fun i => i ≤ ls.length) (fun i => ls.length - i) 0 ?_ (fun i hi => ?_) (Nat.zero_le _)
  · conv => whnf
    repeat' first | ((first | refine Bt ?_ | refine Bf ?_ | refine Ni ?_ ?_ | refine Wq ?_ | refine Di ?_ | refine Oi ?_); conv => whnf) | (refine bc_intro (fun _ => ?_) (fun _ => ?_) <;> (conv => whnf))
    all_goals try first | exact Lq
    all_goals exact famLk_nil
  · conv => whnf
    refine bc_intro (fun hlt => ?_) (fun hlt => ?_)
    · have hlt0 : i < ls.length := by simpa using hlt
      have hw1 : IntKind.i64.wrap ((i : Int) + 1) = ((i + 1 : Nat) : Int) := wrap_succ (n := 1000) (by omega) (by omega)
      have hzb := hb _ (getD_mem2 hlt0)
      have htl : i = (ls.take i).length := by rw [List.length_take]; omega
      conv => whnf
      repeat' first | ((first | refine Cf (cloneK_at 4001) ?_ ?_ | refine NextVC.mk (i + 1) ?_ ?_ ?_ | refine Bt ?_ | refine Bf ?_ | refine Ni ?_ ?_ | refine Wq ?_ | refine Di ?_ | refine Oi ?_); conv => whnf)
      all_goals try simp only [hw1, cP, bP, Int.toNat_natCast]
      all_goals first
        | exact Lf | exact ⟨by omega, by omega⟩ | exact ⟨trivial, by omega, by omega⟩
        | (rw [take_snoc hlt0]; exact famLk_push htl rfl (RowLe.refl _ _ _))
        | (rw [take_snoc hlt0]; exact getLk_push htl rfl rfl rfl)
        | omega
    · have hlt0 : ls.length ≤ i := by simpa using hlt
      have e0 : i = ls.length := by omega
      subst e0
      rw [take_ge (Nat.le_refl _)]
      conv => whnf
      repeat' first | ((first | refine Bt ?_ | refine Bf ?_ | refine Ni ?_ ?_ | refine Wq ?_ | refine Di ?_ | refine Oi ?_); conv => whnf)
      all_goals first | exact Lf
theorem mask_word {w lv : Nat} (hw : w ≤ 65535) (hl : lv ≤ 16) : IntKind.u32.wrap ↑(BitVec.ofInt IntKind.u32.bits (w : Int) &&& BitVec.ofInt IntKind.u32.bits (IntKind.u32.wrap (IntKind.u32.wrap (1 * 2 ^ min lv IntKind.u32.bits) - 1))).toNat = ((w % 2 ^ lv : Nat) : Int) := by
  have e : min lv IntKind.u32.bits = lv := by show min lv 32 = lv; omega
  have h2 : (2 : Nat) ^ lv ≤ 2 ^ 16 := Nat.pow_le_pow_right (by decide) hl
  have h3 : 1 ≤ (2 : Nat) ^ lv := Nat.one_le_two_pow
  have e0 : (1 : Int) * 2 ^ lv = ((2 ^ lv : Nat) : Int) := by simp
  have e1 : IntKind.u32.wrap (1 * 2 ^ lv) = ((2 ^ lv : Nat) : Int) := by rw [e0, u32wrap]; omega
  have e2 : IntKind.u32.wrap (((2 ^ lv : Nat) : Int) - 1) = ((2 ^ lv - 1 : Nat) : Int) := by rw [u32wrap]; omega
  rw [e, e1, e2, BitVec.toNat_and, bv32 (by omega), bv32 (by omega), Nat.and_two_pow_sub_one_eq_mod, u32wrap]
  have : w % 2 ^ lv ≤ w := Nat.mod_le _ _
  omega
theorem places0 (x : NodeT) (h : Nat) : (x.word ≤ 65535 ∧ h ≤ 16) → Sx.Spec Tryz.prog GG 32 [nodeS x, .d (.int .i64 h)] [] (.d (encL encPl 2 (placesF x h))) [] := by
  rintro ⟨hw, h16⟩
  have cP : Tryz.prog.cellsOf 77 = 2 := by kernel_rfl
  have bP : Tryz.prog.bytesOf 77 = 16 := by kernel_rfl
  have hw1 : IntKind.i64.wrap ((h : Int) + 1) = ((h + 1 : Nat) : Int) := wrap_succ (n := 1000) (by omega) (by omega)
  refine spec_intro (E := EE) (fn := Tryz.f32) eok (by kernel_rfl) (by kernel_rfl) Tryz.call32 (by kernel_rfl) (by kernel_rfl) ?_
  conv => whnf
  repeat' first | ((first | refine Bt ?_ | refine Bf ?_ | refine Ni ?_ ?_ | refine Wq ?_ | refine Di ?_ | refine Oi ?_); conv => whnf)
  refine loop_auto [2, 8] [2] (fun x : Nat × List PlcT => [(9, .d (.int .i64 x.1)), (5, .osl 3000 2 0 x.2.length)]) (fun x => [(3000, .row 77 2 x.2.length (cellOf encPl x.2))])
    (fun y => (y.1 ≤ h + 1 ∧ y.2.length = y.1) ∧ y.2 = (List.range y.1).map fun lv => ⟨lv, x.word % 2 ^ lv⟩) (fun y => h + 1 - y.1) (0, []) ?_ (fun y hy => ?_) ⟨⟨Nat.zero_le _, rfl⟩, rfl⟩
  · conv => whnf
    repeat' first | ((first | refine Bt ?_ | refine Bf ?_ | refine Ni ?_ ?_ | refine Wq ?_ | refine Di ?_ | refine Oi ?_); conv => whnf) | (refine bc_intro (fun _ => ?_) (fun _ => ?_) <;> (conv => whnf))
    all_goals try first | exact Lq
    all_goals exact row_nil
  · obtain ⟨lv, L⟩ := y
    obtain ⟨⟨h1, h2⟩, hf⟩ := hy
    simp only at h1 h2 hf
    have hs2 : lv < h + 1 → IntKind.i64.wrap ((lv : Int) + 1) = ((lv + 1 : Nat) : Int) := fun h => wrap_succ (n := 1000) (by omega) (by omega)
    conv => whnf
    refine bc_intro (fun hjt => ?_) (fun hjt => ?_)
    · have hjt0 : lv < h + 1 := by rw [hw1, decide_eq_true_eq] at hjt; simp only at hjt; omega
      have hsj := hs2 hjt0
      have hfn : L ++ [⟨lv, x.word % 2 ^ lv⟩] = (List.range (lv + 1)).map fun lv => (⟨lv, x.word % 2 ^ lv⟩ : PlcT) := by rw [List.range_succ, List.map_append, ← hf]; rfl
      conv => whnf
      repeat' first | ((first | refine NextVC.mk (lv + 1, L ++ [⟨lv, x.word % 2 ^ lv⟩]) ?_ ?_ ?_ | refine Bt ?_ | refine Bf ?_ | refine Ni ?_ ?_ | refine Wq ?_ | refine Di ?_ | refine Oi ?_); conv => whnf)
      all_goals try simp only [cP, bP, Int.toNat_natCast, hsj, List.length_append, List.length_singleton]
      all_goals first | exact Lf | exact ⟨trivial, by omega, by omega⟩ | exact ⟨by omega, by omega⟩ | exact ⟨⟨by omega, by omega⟩, hfn⟩ | exact row_snoc rfl (RowLe.refl _ _ _) (jlt2 (DLe.of_eq rfl) (DLe.of_eq (congrArg (D.int .u32) (mask_word hw (show lv ≤ 16 by omega)))))
    · have hjt0 : h + 1 ≤ lv := by rw [hw1, decide_eq_false_iff_not] at hjt; simp only at hjt; omega
      have e2 : lv = h + 1 := by omega
      subst e2
      have e3 : L = placesF x h := hf
      subst e3
      conv => whnf
      repeat' first | ((first | refine Bt ?_ | refine Bf ?_ | refine Ni ?_ ?_ | refine Wq ?_ | refine Di ?_ | refine Oi ?_); conv => whnf)
      exact ⟨LeS.d (DLe.rows rfl row_zero), trivial⟩
end Go.Proofs.YtiadnhbclipmhaaGreatDoor

namespace Go.Proofs.YtiadnhbclipmhaaGreatDoor
open Go Go.Sx Go.ChangeShapes Go.WideShapes Go.ChangeAt Go.RowKit
set_option linter.unusedVariables false
set_option linter.unusedSimpArgs false
set_option maxRecDepth 100000
theorem concatN2 (m : Nat) (a b : List NodeT) : (a ++ b).length ≤ 1000 → Sx.Spec Tryz.prog GG 27 [.d (encL (encQ encN 3) 1 [a, b])] [] (.osl m 3 0 (a ++ b).length) [(m, .row 31 3 (a ++ b).length (cellOf encN (a ++ b)))] := fun h => by
  have e1 : sumL [a, b] = (a ++ b).length := by simp [sumL]
  have e2 : [a, b].flatten = a ++ b := by simp
  have := concatN_at m [a, b] ⟨by simp, by rw [e1]; exact h⟩
  rw [e1, e2] at this
  exact this
theorem concatL2 (m : Nat) (a b : List LkdT) : (a ++ b).length ≤ 1000 → Sx.Spec Tryz.prog GG 30 [.d (encL (encQ encLk 2) 1 [a, b])] [] (.osl m 2 0 (a ++ b).length) [(m, .row 62 2 (a ++ b).length (cellOf encLk (a ++ b)))] := fun h => by
  have e1 : sumL [a, b] = (a ++ b).length := by simp [sumL]
  have e2 : [a, b].flatten = a ++ b := by simp
  have := concatL_at m [a, b] ⟨by simp, by rw [e1]; exact h⟩
  rw [e1, e2] at this
  exact this
theorem lit2_le {α : Type} [Inhabited α] {enc : α → List D} {k K : Nat} {a b : List α} (hK : K = 1) : DLe (.list 2 K (tabF (fun _ j => [D.val (Value.slice none 0 0)].getD j default) [(0, [encL enc k a]), (1, [encL enc k b])])) (encL (encQ enc k) 1 [a, b]) := by
  refine dle_lit hK rfl ⟨fun i j hi hj => ?_⟩
  match i, j, hi, hj with
  | 0, 0, _, _ => exact DLe.refl _
  | 1, 0, _, _ => exact DLe.refl _
structure MrgB (a : List NodeT) (al : List LkdT) (b : List NodeT) (bl : List LkdT) (h : Nat) : Prop where
  sa : Sml a
  sb : Sml b
  sab : Sml (a ++ b)
  ea : al = builtF (sortN a) (buildL (sortN a) h)
  eb : bl = builtF (sortN b) (buildL (sortN b) h)
  h16 : h ≤ 16
  la : LksB al
  lb : LksB bl
  cl : (al ++ bl).length = (a ++ b).length
  ids : ∀ x ∈ a ++ b, ∃ y ∈ al ++ bl, y.id = x.id
  nd : ((al ++ bl).map (·.id)).Nodup
  lv : ∀ y ∈ al ++ bl, y.levels.length = h + 1
set_option maxHeartbeats 1000000 in
theorem merge0 {a : List NodeT} {al : List LkdT} {b : List NodeT} {bl : List LkdT} {h : Nat} : MrgB a al b bl h →
    Sx.Spec Tryz.prog GG 12 [.d (encL encN 3 a), .d (encL encLk 2 al), .d (encL encN 3 b), .d (encL encLk 2 bl), .d (.int .i64 h)] [] (.tup [.osl 2000 2 0 (a ++ b).length, .d (.int .i64 0)])
      [(2000, .frow 900000 62 2 (a ++ b).length (getM (al ++ bl) (sortN (a ++ b)) h)), (900000, .fam (a ++ b).length (famL 64 2 encK (mAll (al ++ bl) h (sortN (a ++ b))).1))] := by
  intro hM
  have h16 := hM.h16
  have hal := exact_spec (l := al) ⟨hM.sa, h16, hM.la⟩
  have hbl := exact_spec (l := bl) ⟨hM.sb, h16, hM.lb⟩
  rw [decide_eq_true hM.ea] at hal
  rw [decide_eq_true hM.eb] at hbl
  have hn := hM.sab.l20
  have hcl := hM.cl
  have hids := hM.ids
  have hlv := hM.lv
  have hSab := hM.sab
  have hsl := sortN_len (a ++ b)
  have hcN : Sx.Spec Tryz.prog GG 27 [.d (encL (encQ encN 3) 1 [a, b])] [] (.osl 4001 3 0 (a ++ b).length) [(4001, .row 31 3 (a ++ b).length (cellOf encN (a ++ b)))] := concatN2 4001 a b (by omega)
  have hcL : Sx.Spec Tryz.prog GG 30 [.d (encL (encQ encLk 2) 1 [al, bl])] [] (.osl 4002 2 0 (al ++ bl).length) [(4002, .row 62 2 (al ++ bl).length (cellOf encLk (al ++ bl)))] := concatL2 4002 al bl (by omega)
  have hclone := (clone0 (al ++ bl) ⟨by omega, fun x hx => by rw [hlv x hx]; omega⟩).new2 4003 900001 (by decide) (by decide)
  simp only [renL, renS, renB, if_true, show ¬ (900000 : Nat) = 2000 by decide, if_false] at hclone
  have hsort := sort_at 4004 ⟨hM.sab.r, hn⟩
  have hnd := hM.nd
  have hshp0 : ShpL (al ++ bl).length h ((al ++ bl).map (·.levels)) := ⟨by simp, fun r hr => by rw [map_getD hr]; exact hlv _ (getD_mem2 hr)⟩
  have hin : ∀ x ∈ sortN (a ++ b), ∃ y ∈ al ++ bl, y.id = x.id := fun x hx => hids x (sortN_mem.1 hx)
  have hwd : ∀ x ∈ sortN (a ++ b), x.word ≤ 65535 := fun x hx => hSab.wd x (sortN_mem.1 hx)
  generalize hS : sortN (a ++ b) = s at *
  generalize hCL : al ++ bl = cl at *
  generalize hAB : a ++ b = ab at *
  have hg1 : decide ((h : Int) < 0) = false := by simp
  have hg2 : decide ((h : Int) > 16) = false := by simp; omega
  have hcN2 := hcN.arg (LeL.cons (LeS.d (lit2_le (K := Tryz.prog.cellsOf 25) (by kernel_rfl))) LeL.nil)
  have hcL2 := hcL.arg (LeL.cons (LeS.d (lit2_le (K := Tryz.prog.cellsOf 33) (by kernel_rfl))) LeL.nil)
  have hchk : Sx.Spec Tryz.prog GG 28 [.d (.list ab.length 3 fun i j => cellOf encN ab (0 + i) j)] [] (.d (.int .i64 0)) [] := (check_ok0 hSab).arg (LeL.cons (LeS.d (DLe.rows rfl row_zero)) LeL.nil)
  have hsort2 : Sx.Spec Tryz.prog GG 31 [.d (.list ab.length 3 fun i j => cellOf encN ab (0 + i) j)] [] (.osl 4004 3 0 ab.length) [(4004, .row 31 3 ab.length (cellOf encN s))] := hsort.arg (LeL.cons (LeS.d (DLe.rows rfl row_zero)) LeL.nil)
  have hlecl : LeL [.d (.list cl.length 2 fun i j => cellOf encLk cl (0 + i) j)] [.d (encL encLk 2 cl)] := LeL.cons (LeS.d (DLe.rows rfl row_zero)) LeL.nil
  have hclone2 := hclone.arg hlecl
  have hg3 : (!true) = false := rfl
  have hg4 : decide (¬ ((0 : Int) = 0)) = false := by simp
  have hg5 : ((0 : Int) != 0) = false := rfl
  have hfl1 : FlatB (.frow 900001 62 2 cl.length (getLk cl)) := flat_getLk
  have hfl2 : FlatB (.fam cl.length (famLk 64 cl)) := flat_famLk
  have cP : Tryz.prog.cellsOf 62 = 2 := by kernel_rfl
  have bP : Tryz.prog.bytesOf 62 = 32 := by kernel_rfl
  refine spec_introF (E := EE) (fn := Tryz.f12) eok (by kernel_rfl) (by kernel_rfl) Tryz.call12 (by kernel_rfl) (by kernel_rfl) (by kernel_rfl) ?_
  conv => whnf
  repeat' first | ((first | refine Ci hal ?_ | refine Ci hbl ?_ | refine Ci hcN2 ?_ | refine Ci hchk ?_ | refine Ci hcL2 ?_ | refine Ci hclone2 ?_ | refine Bt ?_ | refine Bf ?_ | refine Ni ?_ ?_ | refine Wq ?_ | refine Di ?_ | refine Oi ?_); conv => whnf)
  refine loop_gmap (d := 52) (fn' := 900001) rfl rfl ?_
  refine loop_auto [4, 12, 58] [4001] (fun i : Nat => [(59, .d (.int .i64 i)), (14, .mp 2014), (57, .osl 2003 2 0 cl.length)]) (fun i => [(2014, .gmap 900000 false [.i64] true 2 (mHas (cl.take i)) (mGet cl)), (2003, .frow 900000 62 2 cl.length (getLk cl)), (900000, .fam cl.length (famLk 64 cl))])
    (fun i => i ≤ cl.length) (fun i => cl.length - i) 0 ?_ (fun i hi => ?_) (Nat.zero_le _)
  · conv => whnf
    repeat' first | ((first | refine Bt ?_ | refine Bf ?_ | refine Ni ?_ ?_ | refine Wq ?_ | refine Di ?_ | refine Oi ?_); conv => whnf) | (refine bc_intro (fun _ => ?_) (fun _ => ?_) <;> (conv => whnf))
    all_goals try first | exact Lq
    all_goals exact GMapLe.of_eq (fun q => rfl) (fun q c hq hc => by cases hq)
  · conv => whnf
    refine bc_intro (fun hlt => ?_) (fun hlt => ?_)
    · have hlt0 : i < cl.length := by simpa using hlt
      have hw1 : IntKind.i64.wrap ((i : Int) + 1) = ((i + 1 : Nat) : Int) := wrap_succ (n := 1000) (by omega) (by omega)
      conv => whnf
      repeat' first | ((first | refine NextVC.mk (i + 1) ?_ ?_ ?_ | refine Bt ?_ | refine Bf ?_ | refine Ni ?_ ?_ | refine Wq ?_ | refine Di ?_ | refine Oi ?_); conv => whnf)
      all_goals try simp only [hw1, cP, bP, Int.toNat_natCast]
      all_goals first
        | exact Lf | exact ⟨by omega, by omega⟩ | exact ⟨trivial, trivial, by kernel_rfl, trivial⟩
        | (simp only [Nat.zero_add]
           refine GMapLe.of_eq (fun q => (mHas_take hlt0).symm) (fun q c hq hc => ?_)
           by_cases e : q = [(cl.getD i default).id]
           · subst e
             simp only [if_true, mGet, rankL_at hnd hlt0]
             match c, hc with
             | 0, _ => rfl
             | 1, _ => rfl
           · simp only [if_neg e])
    · have hlt0 : cl.length ≤ i := by simpa using hlt
      have e0 : i = cl.length := by omega
      subst e0
      rw [take_ge (Nat.le_refl _)]
      have hfl3 : FlatB (.row 31 3 ab.length (cellOf encN s)) := fun i j _ hj => jlt3 (p := fun j => flatD (cellOf encN s i j) = true) rfl rfl rfl j hj
      conv => whnf
      repeat' first | ((first | refine Ci hsort2 ?_ | refine Bt ?_ | refine Bf ?_ | refine Ni ?_ ?_ | refine Wq ?_ | refine Di ?_ | refine Oi ?_); conv => whnf)
      refine loop_auto [4, 14, 70, 71] [2014, 4004] (fun x : Nat × (List (List LinkT) × List (List Int × Int)) => [(72, .d (.int .i64 x.1)), (17, .mp 2017), (18, .osl 2018 2 0 x.1)]) (fun x => [(2017, .gmap 900000 true [.i64, .u32] false 1 (hasL x.2.2) (lGet x.2.2)), (2018, .frow 900000 62 2 x.1 (getM cl s h)), (900000, .fam cl.length (famL 64 2 encK x.2.1))])
        (fun x => x.1 ≤ s.length ∧ ShpL cl.length h x.2.1 ∧ LastOk cl x.2.2 ∧ (s.drop x.1).foldl (mNode cl h) x.2 = mAll cl h s) (fun x => s.length - x.1) (0, (cl.map (·.levels), [])) ?_ (fun x hx => ?_) ⟨Nat.zero_le _, hshp0, (fun y hy => by cases hy), rfl⟩
      · conv => whnf
        repeat' first | ((first | refine Bt ?_ | refine Bf ?_ | refine Ni ?_ ?_ | refine Wq ?_ | refine Di ?_ | refine Oi ?_); conv => whnf) | (refine bc_intro (fun _ => ?_) (fun _ => ?_) <;> (conv => whnf))
        all_goals try first | exact Lq
        all_goals exact GMapLe.of_eq (fun q => rfl) (fun q c hq hc => by cases hq)
      · obtain ⟨i, S⟩ := x
        obtain ⟨hi, hsh, hlo, hf⟩ := hx
        simp only at hi hsh hlo hf
        conv => whnf
        refine bc_intro (fun hlt2 => ?_) (fun hlt2 => ?_)
        · have hlt3 : i < s.length := by rw [decide_eq_true_eq] at hlt2; simp only at hlt2; omega
          have hw2 : IntKind.i64.wrap ((i : Int) + 1) = ((i + 1 : Nat) : Int) := wrap_succ (n := 1000) (by omega) (by omega)
          obtain ⟨x, hx⟩ : ∃ x, x = s.getD i default := ⟨_, rfl⟩
          have hxi := hin x (by rw [hx]; exact getD_mem2 hlt3)
          have hmh : mHas cl [x.id] = true := mHas_one.2 hxi
          have hrk := rankL_lt hxi
          have hrg := rankL_get hxi
          have hxw := hwd x (by rw [hx]; exact getD_mem2 hlt3)
          obtain ⟨PL, hPL⟩ : ∃ PL, PL = placesF x h := ⟨_, rfl⟩
          have hpl : PL.length = h + 1 := by rw [hPL]; exact places_len
          have hpsp : Sx.Spec Tryz.prog GG 32 [nodeS (s.getD (0 + (i : Int).toNat) default), .d (.int .i64 h)] [] (.d (encL encPl 2 PL)) [] := by rw [Nat.zero_add, Int.toNat_natCast, ← hx, hPL]; exact places0 x h ⟨hxw, h16⟩
          have hf2 : (s.drop (i + 1)).foldl (mNode cl h) (PL.foldl (mStep cl x.id) S) = mAll cl h s := by
            rw [← hf, drop_step hlt3, List.foldl_cons, ← hx, hPL]; rfl
          generalize hT : PL.foldl (mStep cl x.id) S = T at hf2
          have hmh2 : mHas cl [(s.getD (0 + (i : Int).toNat) default).id] = true := by rw [Nat.zero_add, Int.toNat_natCast, ← hx]; exact hmh
          conv => whnf
          repeat' first | ((first | refine Ci hpsp ?_ | refine Bt ?_ | refine Bf ?_ | refine Ni ?_ ?_ | refine Wq ?_ | refine Di ?_ | refine Oi ?_); conv => whnf)
          · refine loop_auto [4, 14, 20, 70, 71, 72, 18, 85, 86] [2014, 4004, 20, 82] (fun y : Nat × (List (List LinkT) × List (List Int × Int)) => [(87, .d (.int .i64 y.1)), (17, .mp 2017)]) (fun y => [(2017, .gmap 900000 true [.i64, .u32] false 1 (hasL y.2.2) (lGet y.2.2)), (900000, .fam cl.length (famL 64 2 encK y.2.1))])
              (fun y => y.1 ≤ PL.length ∧ ShpL cl.length h y.2.1 ∧ LastOk cl y.2.2 ∧ (PL.drop y.1).foldl (mStep cl x.id) y.2 = T) (fun y => PL.length - y.1) (0, S) ?_ (fun y hy => ?_) ⟨Nat.zero_le _, hsh, hlo, hT⟩
            · conv => whnf
              repeat' first | ((first | refine Bt ?_ | refine Bf ?_ | refine Ni ?_ ?_ | refine Wq ?_ | refine Di ?_ | refine Oi ?_); conv => whnf) | (refine bc_intro (fun _ => ?_) (fun _ => ?_) <;> (conv => whnf))
              all_goals try first | exact Lq
            · obtain ⟨j, U⟩ := y
              obtain ⟨hj, hsh2, hlo2, hg⟩ := hy
              simp only at hj hsh2 hlo2 hg
              conv => whnf
              refine bc_intro (fun hlt4 => ?_) (fun hlt4 => ?_)
              · have hlt5 : j < PL.length := by simpa using hlt4
                have hw3 : IntKind.i64.wrap ((j : Int) + 1) = ((j + 1 : Nat) : Int) := wrap_succ (n := 1000) (by omega) (by omega)
                have hpj : (PL.getD j default).lv = j := by rw [hPL, places_get (by omega)]
                have hg2' : (PL.drop (j + 1)).foldl (mStep cl x.id) (mStep cl x.id U (PL.getD j default)) = T := by rw [← hg, drop_step hlt5, List.foldl_cons]
                obtain ⟨q, hq⟩ : ∃ q, q = PL.getD j default := ⟨_, rfl⟩
                rw [← hq] at hpj hg2'
                have hsh3 := mStep_shp (p := q) hsh2 hlo2 hxi
                cases hhas : hasL U.2 [(q.lv : Int), (q.bits : Int)] with
                | false =>
                  have hhas2 : hasL U.2 [((PL.getD (j : Int).toNat default).lv : Int), ((PL.getD (j : Int).toNat default).bits : Int)] = false := by rw [Int.toNat_natCast, ← hq]; exact hhas
                  have hE : mStep cl x.id U q = (U.1, ([(q.lv : Int), (q.bits : Int)], x.id) :: U.2) := by unfold mStep mStepL; rw [hhas]; rfl
                  rw [hE] at hg2'
                  conv => whnf
                  repeat' first | ((first | refine NextVC.mk (j + 1, (U.1, ([(q.lv : Int), (q.bits : Int)], x.id) :: U.2)) ?_ ?_ ?_ | refine Bt ?_ | refine Bf ?_ | refine Ni ?_ ?_ | refine Wq ?_ | refine Di ?_ | refine Oi ?_); conv => whnf)
                  all_goals try simp only [hw3, Int.toNat_natCast, Nat.zero_add, ← hq, ← hx]
                  all_goals first
                    | exact Lf | exact ⟨by omega, by omega⟩ | exact ⟨trivial, trivial, by kernel_rfl, by kernel_rfl⟩ | exact FRowLe.refl _ _ _
                    | exact GMapLe.of_eq (fun _ => rfl) (fun _ _ _ _ => rfl)
                    | exact ⟨by omega, hsh2, hlo2.cons hxi, hg2'⟩
                    | (refine GMapLe.of_eq (fun r => hasL_cons.symm) (fun r c hr hc => ?_)
                       have hc : c = 0 := by omega
                       subst hc
                       simp only [lGet, valL_cons]
                       by_cases e : r = [(q.lv : Int), (q.bits : Int)]
                       · simp only [if_pos e]; rw [hx]; rfl
                       · simp only [if_neg e])
                | true =>
                  have hhas2 : hasL U.2 [((PL.getD (j : Int).toNat default).lv : Int), ((PL.getD (j : Int).toNat default).bits : Int)] = true := by rw [Int.toNat_natCast, ← hq]; exact hhas
                  obtain ⟨v, hv⟩ : ∃ v, v = valL U.2 [(q.lv : Int), (q.bits : Int)] := ⟨_, rfl⟩
                  have hvi : ∃ x ∈ cl, x.id = v := by rw [hv]; exact hlo2.val hhas
                  have hmv : mHas cl [valL U.2 [((PL.getD (j : Int).toNat default).lv : Int), ((PL.getD (j : Int).toNat default).bits : Int)]] = true := by rw [Int.toNat_natCast, ← hq, ← hv]; exact mHas_one.2 hvi
                  have hE : mStep cl x.id U q = (setLf (setRt U.1 (rankL cl [v]) j x.id) (rankL cl [x.id]) j v, ([(q.lv : Int), (q.bits : Int)], x.id) :: U.2) := by unfold mStep mStepL; rw [hhas, if_pos rfl, hpj, hv, hpj]
                  have hvr := rankL_lt hvi
                  have hvg := rankL_get hvi
                  have hl1 := hlv _ (getD_mem2 hvr)
                  have hl2 := hlv _ (getD_mem2 hrk)
                  have hR1 : rankL cl [v] < U.1.length := by rw [hsh2.1]; exact hvr
                  have hR2 : rankL cl [x.id] < (setRt U.1 (rankL cl [v]) j x.id).length := by rw [(hsh2.setRt hvr).1]; exact hrk
                  have hR3 : rankL cl [x.id] < U.1.length := by rw [hsh2.1]; exact hrk
                  have hL3 : j < (U.1.getD (rankL cl [x.id]) default).length := by rw [hsh2.2 _ hrk]; omega
                  have hL1 : j < (U.1.getD (rankL cl [v]) default).length := by rw [hsh2.2 _ hvr]; omega
                  have hL2 : j < ((setRt U.1 (rankL cl [v]) j x.id).getD (rankL cl [x.id]) default).length := by rw [(hsh2.setRt hvr).2 _ hrk]; omega
                  rw [hE] at hg2'
                  conv => whnf
                  repeat' first | ((first | refine NextVC.mk (j + 1, (setLf (setRt U.1 (rankL cl [v]) j x.id) (rankL cl [x.id]) j v, ([(q.lv : Int), (q.bits : Int)], x.id) :: U.2)) ?_ ?_ ?_ | refine Bt ?_ | refine Bf ?_ | refine Ni ?_ ?_ | refine Wq ?_ | refine Di ?_ | refine Oi ?_); conv => whnf)
                  all_goals try simp only [hw3, Int.toNat_natCast, Nat.zero_add, ← hq, ← hx, ← hv]
                  all_goals first
                    | exact Lf | exact ⟨by omega, by omega⟩ | exact ⟨trivial, trivial, by kernel_rfl, by kernel_rfl⟩ | exact FRowLe.refl _ _ _
                    | exact GMapLe.of_eq (fun _ => rfl) (fun _ _ _ _ => rfl)
                    | exact ⟨by omega, (hsh2.setRt hvr).setLf hrk, hlo2.cons hxi, hg2'⟩
                    | (refine GMapLe.of_eq (fun r => hasL_cons.symm) (fun r c hr hc => ?_)
                       have hc : c = 0 := by omega
                       subst hc
                       simp only [lGet, valL_cons]
                       by_cases e : r = [(q.lv : Int), (q.bits : Int)]
                       · simp only [if_pos e]; rw [hx]; rfl
                       · simp only [if_neg e])
                    | exact ⟨_, famL_at hR1, rfl, hL1⟩
                    | exact FamLe.trans (FamLe.mod (famL_set (x := (U.1.getD (rankL cl [v]) default).set j ⟨((U.1.getD (rankL cl [v]) default).getD j default).left, x.id⟩) (fun _ => ⟨rfl, rfl, rfl⟩) hR1 (List.length_set ..) (fun r hr => by subst hr; rw [hx]; exact updRt hL1)) (fun _ => ⟨rfl, rfl, rfl⟩) (fun r r' h => upd_mono h)) (famL_set (fun _ => ⟨rfl, rfl, rfl⟩) hR2 (List.length_set ..) (fun r hr => by subst hr; exact updLf hL2))
                    | (split
                       · rw [famL_at hR1]; exact ⟨_, rfl, rfl, hL1⟩
                       · rw [famL_at hR3]; exact ⟨_, rfl, rfl, hL3⟩)
              · have hlt5 : PL.length ≤ j := by simpa using hlt4
                rw [List.drop_eq_nil_of_le hlt5] at hg
                have e : U = T := hg
                subst e
                conv => whnf
                repeat' first | ((first | refine NextVC.mk (i + 1, U) ?_ ?_ ?_ | refine Bt ?_ | refine Bf ?_ | refine Ni ?_ ?_ | refine Wq ?_ | refine Di ?_ | refine Oi ?_); conv => whnf)
                all_goals try simp only [hw2, Int.toNat_natCast, Nat.zero_add, ← hx]
                all_goals first
                  | exact Lf | exact ⟨by omega, by omega⟩ | exact ⟨by omega, hsh2, hlo2, hf2⟩ | exact ⟨trivial, by kernel_rfl, trivial⟩ | exact ⟨by kernel_rfl, trivial, trivial⟩ | exact getM_push (by rw [← hx]; exact hrg) (by rw [← hx]) (hlv _ (getD_mem2 hrk))
                  | exact GMapLe.of_eq (fun _ => rfl) (fun _ _ _ _ => rfl)
          all_goals try simp only [cP, bP, Int.toNat_natCast, Nat.zero_add]
          all_goals first | exact ⟨trivial, trivial, by kernel_rfl, by kernel_rfl⟩ | exact ⟨trivial, trivial, by kernel_rfl, trivial⟩ | exact ⟨by omega, by omega⟩ | exact ⟨trivial, by omega, by omega⟩ | omega
        · have hlt3 : s.length ≤ i := by rw [decide_eq_false_iff_not] at hlt2; simp only at hlt2; omega
          have e0 : i = ab.length := by omega
          rw [List.drop_eq_nil_of_le hlt3] at hf
          have e : S = mAll cl h s := hf
          subst e e0
          conv => whnf
          repeat' first | ((first | refine Bt ?_ | refine Bf ?_ | refine Ni ?_ ?_ | refine Wq ?_ | refine Di ?_ | refine Oi ?_); conv => whnf)
          all_goals first | exact Lf
  all_goals first | exact hSab
theorem merge_d {a : List NodeT} {al : List LkdT} {b : List NodeT} {bl : List LkdT} {h : Nat} : MrgB a al b bl h →
    Sx.Spec Tryz.prog GG 12 [.d (encL encN 3 a), .d (encL encLk 2 al), .d (encL encN 3 b), .d (encL encLk 2 bl), .d (.int .i64 h)] [] (.tup [.d (encL encLk 2 (mergedF (al ++ bl) h (sortN (a ++ b)))), .d (.int .i64 0)]) [] := fun hM => by
  have hsl := sortN_len (a ++ b)
  have hin : ∀ x ∈ sortN (a ++ b), ∃ y ∈ al ++ bl, y.id = x.id := fun x hx => hM.ids x (sortN_mem.1 hx)
  have hshp0 : ShpL (al ++ bl).length h ((al ++ bl).map (·.levels)) := ⟨by simp, fun r hr => by rw [map_getD hr]; exact hM.lv _ (getD_mem2 hr)⟩
  have hsh := (mAll_ok (sortN (a ++ b)) ((al ++ bl).map (·.levels), []) hin hshp0 (fun y hy => by cases hy)).1
  have hcell : ∀ i j, i < (a ++ b).length → j < 2 → _ := fun i j hi hj => getM_cell (E := 64) (i := i) (j := j) hsh (fun i hi => rankL_lt (hin _ (getD_mem2 hi))) (by rw [hsl]; exact hi) hj
  have := Spec.pubNest (post0 := []) (pre := []) (m := 2000) (fn := 900000) (merge0 hM) rfl (fun i j hi hj => (hcell i j hi hj).1) (by simp) (by simp [pubV, pubC, Nat.beq_refl, inS, inL])
  simp only [pubV, pubC, Nat.beq_refl] at this
  refine this.res (LeS.tup (LeL.cons (LeS.d (DLe.rows (by simp only [mergedF, List.length_map, List.length_range, hsl]) ⟨fun i j hi hj => ?_⟩)) (LeL.refl _))) (by simp [inS, inL])
  have hi : i < (a ++ b).length := by simpa only [mergedF, List.length_map, List.length_range, hsl] using hi
  rw [Nat.zero_add]
  exact (hcell i j hi hj).2
end Go.Proofs.YtiadnhbclipmhaaGreatDoor
