/- Contracts of functions that the law reaches: YtohenbaodklohaaDoorCol4. Written for this claim. -/
import Derived.Test.YtohenbaodklohaaDoorCol3
namespace Go.Proofs.YtohenbaodklohaaDoor
open Go Go.Sx Go.ChangeShapes Go.WideShapes Go.ChangeAt Go.RowKit
set_option linter.unusedVariables false
set_option linter.unusedSimpArgs false
set_option maxRecDepth 100000
theorem getD_cutA {α : Type} {ms : List α} {d : α} {p i : Nat} (hp : p < ms.length) (hi : i + 1 < ms.length) : (ms.take p ++ ms.drop (p + 1)).getD i d = ms.getD (if i < p then i else i + 1) d := by
  split
  · rename_i h
    rw [getD_append_left (by simp; omega)]
    simp [List.getD, List.getElem?_take, h]
  · rename_i h
    rw [getD_append_right (by simp; omega)]
    simp only [List.length_take, List.getD, List.getElem?_drop]
    congr 2
    omega
theorem cut_cellA {α : Type} [Inhabited α] {enc : α → List D} {ms : List α} {p i j a b c : Nat} (hp : p < ms.length) (hi : i + 1 < ms.length) (ha : a = p) (hb : i < p → b = i) (hc : p ≤ i → c = i + 1) : (if i < a then cellOf enc ms b j else cellOf enc ms c j) = cellOf enc (ms.take p ++ ms.drop (p + 1)) i j := by
  subst ha
  simp only [cellOf]
  rw [getD_cutA hp hi]
  split
  · rename_i h; rw [hb h]
  · rename_i h; rw [hc (by omega)]
theorem step_out {c : SwpT} {l : List StoT} (h : c.pos < 0 ∨ (l.length : Int) ≤ c.pos) : stepS c l = ((c, l), false) := by rw [stepS, if_pos h]
theorem step_dead {c : SwpT} {l : List StoT} (h : 0 ≤ c.pos) (h2 : c.pos < (l.length : Int)) (hd : deadS c.marks c.ser (l.getD c.pos.toNat default) = true) : stepS c l = ((c, l.take c.pos.toNat ++ l.drop (c.pos.toNat + 1)), true) := by
  rw [stepS, if_neg (by omega), if_pos hd]
theorem step_live {c : SwpT} {l : List StoT} (h : 0 ≤ c.pos) (h2 : c.pos < (l.length : Int)) (hd : deadS c.marks c.ser (l.getD c.pos.toNat default) = false) : stepS c l = (({ c with pos := c.pos + 1 }, l), true) := by
  rw [stepS, if_neg (by omega), if_neg (by rw [hd]; simp)]
set_option maxHeartbeats 1000000 in
theorem stepp_spec (c : SwpT) (l : List StoT) : (StoB 1000000 l ∧ MrkB c.marks) → Sx.Spec Tryd.prog GG 19 [.agg (swpL c), .d (encL encSto 33 l)] [] (.tup [.agg (swpL (stepS c l).1.1), .d (encL encSto 33 (stepS c l).1.2), .d (.bool (stepS c l).2)]) [] := by
  rintro ⟨h, hm⟩
  have hl := h.len
  have hw : 0 ≤ c.pos → c.pos < (l.length : Int) → IntKind.i64.wrap (c.pos + 1) = c.pos + 1 := fun h1 h2 => wrap_of (by omega) (by omega)
  refine spec_intro (E := EE) (fn := Tryd.f19) eok (by kernel_rfl) (by kernel_rfl) Tryd.call19 (by kernel_rfl) (by kernel_rfl) ?_
  conv => whnf
  repeat' first
    | (refine call_if (kmarks_spec _) (by first | exact .inl rfl | exact .inr ⟨rfl, rfl⟩) (need_intro ?_ ?_); (conv => whnf))
    | (refine call_if (whole_at 1000 l) (by first | exact .inl rfl | exact .inr ⟨rfl, rfl⟩) (need_intro ?_ ?_); (conv => whnf))
    | (refine call_if (deadp_spec c.marks c.ser (l.getD (0 + c.pos.toNat) default)) (by first | exact .inl rfl | exact .inr ⟨rfl, rfl⟩) (need_intro ?_ ?_); (conv => whnf))
    | (refine call_if (deadp_spec c.marks c.ser (l.getD c.pos.toNat default)) (by first | exact .inl rfl | exact .inr ⟨rfl, rfl⟩) (need_intro ?_ ?_); (conv => whnf))
    | (refine bc_true (by assumption) ?_; (conv => whnf))
    | (refine bc_false (by assumption) ?_; (conv => whnf))
    | (refine bc_intro (fun _ => ?_) (fun _ => ?_) <;> (conv => whnf))
    | (refine need_intro ?_ ?_; (conv => whnf))
    | (refine wk_refl ?_; (conv => whnf))
    | (refine draw_intro (by kernel_rfl) ?_; (conv => whnf))
    | (refine ord_intro (by kernel_rfl) ?_; (conv => whnf))
  all_goals try simp only [cellsSto, bytesSto, cellsMrk, bytesMrk, cellsIntG, bytesIntG, true_and, and_true, decide_eq_true_eq, decide_eq_false_iff_not, beq_iff_eq, bne_iff_ne, beq_eq_false_iff_ne, bne_eq_false_iff_eq, ne_eq, Decidable.not_not, Bool.not_eq_true', Bool.not_eq_false', Int.toNat_natCast] at *
  all_goals try simp only [Option.getD_some, Option.getD_none, Nat.zero_add] at *
  all_goals try first
    | omega
    | exact hm
    | exact ⟨by omega, by omega⟩
    | exact ⟨by omega, by omega, by omega⟩
    | exact ⟨⟨trivial, RowLe.refl _ _ _⟩, h⟩
    | exact ⟨RowLe.refl _ _ _, h⟩
    | (rw [step_out (.inl (by assumption))]
       exact ⟨LeS.tup (LeL.cons (LeS.refl _) (LeL.cons (by first | exact LeS.refl _ | exact les_own rfl) (LeL.cons (LeS.refl _) LeL.nil))), trivial⟩)
    | (rw [step_out (.inr (by assumption))]
       exact ⟨LeS.tup (LeL.cons (LeS.refl _) (LeL.cons (by first | exact LeS.refl _ | exact les_own rfl) (LeL.cons (LeS.refl _) LeL.nil))), trivial⟩)
  all_goals
    have h1 : 0 ≤ c.pos := by omega
    have h2 : c.pos < (l.length : Int) := by omega
    have h3 := hw h1 h2
    simp only [h3] at *
  all_goals try first
    | omega
    | exact ⟨by omega, by omega⟩
    | exact ⟨by omega, by omega, by omega⟩
    | (rw [step_live h1 h2 (by assumption)]
       exact ⟨LeS.tup (LeL.cons (LeS.refl _) (LeL.cons (by first | exact LeS.refl _ | exact les_own rfl) (LeL.cons (LeS.refl _) LeL.nil))), trivial⟩)
    | (rw [step_dead h1 h2 (by assumption)]
       have hlen : (l.take c.pos.toNat ++ l.drop (c.pos.toNat + 1)).length + 1 = l.length := by simp only [List.length_append, List.length_take, List.length_drop]; omega
       refine ⟨LeS.tup (LeL.cons (LeS.refl _) (LeL.cons (LeS.d (DLe.rows ?_ ?_)) (LeL.cons (LeS.refl _) LeL.nil))), trivial⟩
       · simp only; omega
       · exact .of_eq fun i j hi _ => cut_cellA (p := c.pos.toNat) (by omega) (by simp only at hi; omega) (by omega) (by omega) (by omega))
    | trace_state
theorem sameC_at (c : CopyT) : SmallC c → Sx.Spec Tryd.prog GG 53 [.agg (copyL c), .agg (copyL c)] [] (.d (.bool true)) [] := fun h => by
  have := samer_spec c c ⟨h, h⟩
  rw [sameC_refl] at this
  exact this
theorem all_at {α : Type} [Inhabited α] {p : α → Bool} {l : List α} {i : Nat} (h : i < l.length) : (l.drop i).all p = (p (l.getD i default) && (l.drop (i + 1)).all p) := by
  rw [drop_cons' h, List.all_cons]
theorem all_done {α : Type} {p : α → Bool} {l : List α} {i : Nat} (h : l.length ≤ i) : (l.drop i).all p = true := by
  rw [List.drop_eq_nil_of_le h]; rfl
theorem find_smallC {l : List StoT} {n g : Int} (h : StoB 1000000 l) : SmallC (findS l n g).1.copy := by
  cases hf : (findS l n g).2 with
  | true => exact h.small _ (find_mem hf).1
  | false =>
    have : ∀ {l : List StoT}, (findS l n g).2 = false → (findS l n g).1 = noSto := by
      intro l
      induction l with
      | nil => intro _; rfl
      | cons x l ih =>
        intro h
        simp only [findS] at h ⊢
        split
        · rename_i hk; rw [if_pos hk] at h; cases h
        · rename_i hk; rw [if_neg hk] at h; exact ih h
    rw [this hf]; simp [noSto, SmallC, noCopy, noPart]
set_option maxHeartbeats 1000000 in
theorem completep_spec (l : List StoT) (gs : List GrpT) : (StoB 1000000 l ∧ NetB gs) → Sx.Spec Tryd.prog GG 20 [.d (encL encSto 33 l), .d (encL encGrp 3 gs)] [] (.d (.bool (completeS l gs))) [] := by
  rintro ⟨h, hn⟩
  have hl := hn.len
  refine spec_intro (E := EE) (fn := Tryd.f20) eok (by kernel_rfl) (by kernel_rfl) Tryd.call20 (by kernel_rfl) (by kernel_rfl) ?_
  conv => whnf
  repeat' first
    | (refine bc_true (by assumption) ?_; (conv => whnf))
    | (refine bc_false (by assumption) ?_; (conv => whnf))
    | (refine need_intro ?_ ?_; (conv => whnf))
    | (refine wk_refl ?_; (conv => whnf))
    | (refine draw_intro (by kernel_rfl) ?_; (conv => whnf))
    | (refine ord_intro (by kernel_rfl) ?_; (conv => whnf))
  refine loop_auto [0, 4, 11, 12] [] (fun i : Nat × Unit => [(13, .d (.int .i64 i.1))]) (fun i => []) (fun i => i.1 ≤ gs.length ∧ completeS l gs = completeS l (gs.drop i.1)) (fun i => gs.length - i.1) (0, ()) ?_ (fun i hi => ?_) ⟨by simp, rfl⟩
  · conv => whnf
    repeat' first
      | (refine bc_true (by assumption) ?_; (conv => whnf))
      | (refine bc_false (by assumption) ?_; (conv => whnf))
      | (refine bc_intro (fun _ => ?_) (fun _ => ?_) <;> (conv => whnf))
      | (refine need_intro ?_ ?_; (conv => whnf))
      | (refine wk_refl ?_; (conv => whnf))
      | (refine draw_intro (by kernel_rfl) ?_; (conv => whnf))
      | (refine ord_intro (by kernel_rfl) ?_; (conv => whnf))
    all_goals first | exact trivial | exact DLe.refl _ | exact DLe.nil | exact RowLe.refl _ _ _ | exact ⟨rfl, rfl⟩ | exact ⟨rfl, rfl, rfl⟩ | trace_state
  · obtain ⟨i, u⟩ := i
    obtain ⟨hi, hc⟩ := hi
    simp only at hi hc
    have hs : IntKind.i64.wrap ((i : Int) + 1) = ((i + 1 : Nat) : Int) := wrap_succ (n := 2000000) (by omega) (by omega)
    have hg := net_at hn i
    have hgl := hg.len
    conv => whnf
    repeat' first
      | (refine bc_true (by assumption) ?_; (conv => whnf))
      | (refine bc_false (by assumption) ?_; (conv => whnf))
      | (refine need_intro ?_ ?_; (conv => whnf))
      | (refine wk_refl ?_; (conv => whnf))
      | (refine draw_intro (by kernel_rfl) ?_; (conv => whnf))
      | (refine ord_intro (by kernel_rfl) ?_; (conv => whnf))
    refine bc_intro (fun h0 => ?_) (fun h0 => ?_)
    · conv => whnf
      repeat' first
        | (refine bc_true (by assumption) ?_; (conv => whnf))
        | (refine bc_false (by assumption) ?_; (conv => whnf))
        | (refine need_intro ?_ ?_; (conv => whnf))
        | (refine wk_refl ?_; (conv => whnf))
        | (refine draw_intro (by kernel_rfl) ?_; (conv => whnf))
        | (refine ord_intro (by kernel_rfl) ?_; (conv => whnf))
      all_goals simp only [decide_eq_true_eq] at h0
      have ha : completeS l (gs.drop i) = (completeG l (gs.getD i default) && completeS l (gs.drop (i + 1))) := all_at (by omega)
      all_goals try (exact ⟨by simp only; omega, by simp only at h0 ⊢; omega⟩)
      refine loop_auto [0, 4, 11, 12, 13, 6, 18, 19] [6] (fun j : Nat => [(20, .d (.int .i64 j))]) (fun j => []) (fun j => j ≤ (gs.getD i default).mem.length ∧ completeG l (gs.getD i default) = ((gs.getD i default).mem.drop j).all (needS l (gs.getD i default).num)) (fun j => (gs.getD i default).mem.length - j) 0 ?_ (fun j hj => ?_) ⟨by omega, rfl⟩
      · conv => whnf
        repeat' first
          | (refine bc_true (by assumption) ?_; (conv => whnf))
          | (refine bc_false (by assumption) ?_; (conv => whnf))
          | (refine bc_intro (fun _ => ?_) (fun _ => ?_) <;> (conv => whnf))
          | (refine need_intro ?_ ?_; (conv => whnf))
          | (refine wk_refl ?_; (conv => whnf))
          | (refine draw_intro (by kernel_rfl) ?_; (conv => whnf))
          | (refine ord_intro (by kernel_rfl) ?_; (conv => whnf))
        all_goals first | exact trivial | exact DLe.refl _ | exact DLe.nil | exact RowLe.refl _ _ _ | exact ⟨rfl, rfl⟩ | exact ⟨rfl, rfl, rfl⟩ | trace_state
      · obtain ⟨hj, hcj⟩ := hj
        have hsj : IntKind.i64.wrap ((j : Int) + 1) = ((j + 1 : Nat) : Int) := wrap_succ (n := 2000000) (by omega) (by omega)
        have hmj := mem_small hg j
        have hfs := find_smallC (n := ((gs.getD i default).mem.getD j default).id) (g := (gs.getD i default).num) h
        have hat := fun h => all_at (p := needS l (gs.getD i default).num) (l := (gs.getD i default).mem) (i := j) h
        conv => whnf
        repeat' first
          | (refine call_if (findp_spec l ((gs.getD i default).mem.getD j default).id (gs.getD i default).num) (by first | exact .inl rfl | exact .inr ⟨rfl, rfl⟩) (need_intro ?_ ?_); (conv => whnf))
          | (refine call_if (samep_spec _ ((gs.getD i default).mem.getD j default).copy) (by first | exact .inl rfl | exact .inr ⟨rfl, rfl⟩) (need_intro ?_ ?_); (conv => whnf))
          | (refine NextVC.mk (i + 1, ()) ?_ ?_ ?_; (conv => whnf))
          | (refine NextVC.mk (j + 1) ?_ ?_ ?_; (conv => whnf))
          | (refine bc_true (by assumption) ?_; (conv => whnf))
          | (refine bc_false (by assumption) ?_; (conv => whnf))
          | (refine bc_intro (fun _ => ?_) (fun _ => ?_) <;> (conv => whnf))
          | (refine need_intro ?_ ?_; (conv => whnf))
          | (refine wk_refl ?_; (conv => whnf))
          | (refine draw_intro (by kernel_rfl) ?_; (conv => whnf))
          | (refine ord_intro (by kernel_rfl) ?_; (conv => whnf))
        all_goals try simp only [cellsSto, bytesSto, cellsMrk, bytesMrk, cellsIntG, bytesIntG, true_and, and_true, decide_eq_true_eq, decide_eq_false_iff_not, beq_iff_eq, bne_iff_ne, beq_eq_false_iff_ne, bne_eq_false_iff_eq, ne_eq, Decidable.not_not, Bool.not_eq_true', Bool.not_eq_false', Int.toNat_natCast] at *
        all_goals first
          | exact trivial
          | omega
          | exact h
          | exact DLe.refl _
          | exact DLe.of_eq (by rw [hs])
          | exact DLe.of_eq (by rw [hsj])
          | exact ⟨by omega, by omega⟩
          | exact ⟨hfs, hmj⟩
          | (refine ⟨by omega, ?_⟩
             have h9 : needS l (gs.getD i default).num ((gs.getD i default).mem.getD j default) = true := by simp only [needS]; simp_all
             rw [hcj, hat (by omega), h9]; rfl)
          | (refine ⟨by omega, ?_⟩
             have h9 : completeG l (gs.getD i default) = true := by rw [hcj, all_done (by omega)]
             rw [hc, ha, h9]; rfl)
          | (refine ⟨LeS.of_eq ?_, trivial⟩
             have h9 : needS l (gs.getD i default).num ((gs.getD i default).mem.getD j default) = false := by simp only [needS]; simp_all
             rw [hc, ha, hcj, hat (by omega), h9]; rfl)
          | trace_state
    · conv => whnf
      repeat' first
        | (refine bc_true (by assumption) ?_; (conv => whnf))
        | (refine bc_false (by assumption) ?_; (conv => whnf))
        | (refine bc_intro (fun _ => ?_) (fun _ => ?_) <;> (conv => whnf))
        | (refine need_intro ?_ ?_; (conv => whnf))
        | (refine wk_refl ?_; (conv => whnf))
        | (refine draw_intro (by kernel_rfl) ?_; (conv => whnf))
        | (refine ord_intro (by kernel_rfl) ?_; (conv => whnf))
      all_goals try simp only [cellsSto, bytesSto, cellsMrk, bytesMrk, cellsIntG, bytesIntG, true_and, and_true, decide_eq_true_eq, decide_eq_false_iff_not, beq_iff_eq, bne_iff_ne, beq_eq_false_iff_ne, bne_eq_false_iff_eq, ne_eq, Decidable.not_not, Bool.not_eq_true', Bool.not_eq_false', Int.toNat_natCast] at *
      refine ⟨LeS.of_eq ?_, trivial⟩
      have : completeS l (gs.drop i) = true := all_done (by omega)
      rw [hc, this]
theorem completep_at (l : List StoT) (gs : List GrpT) {n m : Nat} {g g2 : Nat → Nat → D} : ((n = l.length ∧ RowLe n 33 g (cellOf encSto l)) ∧ (m = gs.length ∧ RowLe m 3 g2 (cellOf encGrp gs)) ∧ StoB 1000000 l ∧ NetB gs) → Sx.Spec Tryd.prog GG 20 [.d (.list n 33 g), .d (.list m 3 g2)] [] (.d (.bool (completeS l gs))) [] := fun ⟨⟨e, hr⟩, ⟨e2, hr2⟩, h⟩ => by
  subst e; subst e2
  exact (completep_spec l gs h).arg (LeL.cons (LeS.d (DLe.rows rfl hr)) (LeL.cons (LeS.d (DLe.rows rfl hr2)) LeL.nil))
set_option maxHeartbeats 1000000 in
theorem completer_spec (l : List StoT) (gs : List GrpT) : (StoB 1000000 l ∧ NetB gs) → Sx.Spec Tryd.prog GG 21 [.d (encL encSto 33 l), .d (encL encGrp 3 gs)] [] (.d (.bool (completeS l gs))) [] := by
  rintro ⟨h, hn⟩
  have hl := hn.len
  refine spec_intro (E := EE) (fn := Tryd.f21) eok (by kernel_rfl) (by kernel_rfl) Tryd.call21 (by kernel_rfl) (by kernel_rfl) ?_
  conv => whnf
  repeat' first
    | (refine bc_true (by assumption) ?_; (conv => whnf))
    | (refine bc_false (by assumption) ?_; (conv => whnf))
    | (refine need_intro ?_ ?_; (conv => whnf))
    | (refine wk_refl ?_; (conv => whnf))
    | (refine draw_intro (by kernel_rfl) ?_; (conv => whnf))
    | (refine ord_intro (by kernel_rfl) ?_; (conv => whnf))
  refine loop_auto [0, 4, 11, 12] [] (fun i : Nat × Unit => [(13, .d (.int .i64 i.1))]) (fun i => []) (fun i => i.1 ≤ gs.length ∧ completeS l gs = completeS l (gs.drop i.1)) (fun i => gs.length - i.1) (0, ()) ?_ (fun i hi => ?_) ⟨by simp, rfl⟩
  · conv => whnf
    repeat' first
      | (refine bc_true (by assumption) ?_; (conv => whnf))
      | (refine bc_false (by assumption) ?_; (conv => whnf))
      | (refine bc_intro (fun _ => ?_) (fun _ => ?_) <;> (conv => whnf))
      | (refine need_intro ?_ ?_; (conv => whnf))
      | (refine wk_refl ?_; (conv => whnf))
      | (refine draw_intro (by kernel_rfl) ?_; (conv => whnf))
      | (refine ord_intro (by kernel_rfl) ?_; (conv => whnf))
    all_goals first | exact trivial | exact DLe.refl _ | exact DLe.nil | exact RowLe.refl _ _ _ | exact ⟨rfl, rfl⟩ | exact ⟨rfl, rfl, rfl⟩ | trace_state
  · obtain ⟨i, u⟩ := i
    obtain ⟨hi, hc⟩ := hi
    simp only at hi hc
    have hs : IntKind.i64.wrap ((i : Int) + 1) = ((i + 1 : Nat) : Int) := wrap_succ (n := 2000000) (by omega) (by omega)
    have hg := net_at hn i
    have hgl := hg.len
    conv => whnf
    repeat' first
      | (refine bc_true (by assumption) ?_; (conv => whnf))
      | (refine bc_false (by assumption) ?_; (conv => whnf))
      | (refine need_intro ?_ ?_; (conv => whnf))
      | (refine wk_refl ?_; (conv => whnf))
      | (refine draw_intro (by kernel_rfl) ?_; (conv => whnf))
      | (refine ord_intro (by kernel_rfl) ?_; (conv => whnf))
    refine bc_intro (fun h0 => ?_) (fun h0 => ?_)
    · conv => whnf
      repeat' first
        | (refine bc_true (by assumption) ?_; (conv => whnf))
        | (refine bc_false (by assumption) ?_; (conv => whnf))
        | (refine need_intro ?_ ?_; (conv => whnf))
        | (refine wk_refl ?_; (conv => whnf))
        | (refine draw_intro (by kernel_rfl) ?_; (conv => whnf))
        | (refine ord_intro (by kernel_rfl) ?_; (conv => whnf))
      all_goals simp only [decide_eq_true_eq] at h0
      have ha : completeS l (gs.drop i) = (completeG l (gs.getD i default) && completeS l (gs.drop (i + 1))) := all_at (by omega)
      all_goals try (exact ⟨by simp only; omega, by simp only at h0 ⊢; omega⟩)
      refine loop_auto [0, 4, 11, 12, 13, 6, 18, 19] [6] (fun j : Nat => [(20, .d (.int .i64 j))]) (fun j => []) (fun j => j ≤ (gs.getD i default).mem.length ∧ completeG l (gs.getD i default) = ((gs.getD i default).mem.drop j).all (needS l (gs.getD i default).num)) (fun j => (gs.getD i default).mem.length - j) 0 ?_ (fun j hj => ?_) ⟨by omega, rfl⟩
      · conv => whnf
        repeat' first
          | (refine bc_true (by assumption) ?_; (conv => whnf))
          | (refine bc_false (by assumption) ?_; (conv => whnf))
          | (refine bc_intro (fun _ => ?_) (fun _ => ?_) <;> (conv => whnf))
          | (refine need_intro ?_ ?_; (conv => whnf))
          | (refine wk_refl ?_; (conv => whnf))
          | (refine draw_intro (by kernel_rfl) ?_; (conv => whnf))
          | (refine ord_intro (by kernel_rfl) ?_; (conv => whnf))
        all_goals first | exact trivial | exact DLe.refl _ | exact DLe.nil | exact RowLe.refl _ _ _ | exact ⟨rfl, rfl⟩ | exact ⟨rfl, rfl, rfl⟩ | trace_state
      · obtain ⟨hj, hcj⟩ := hj
        have hsj : IntKind.i64.wrap ((j : Int) + 1) = ((j + 1 : Nat) : Int) := wrap_succ (n := 2000000) (by omega) (by omega)
        have hmj := mem_small hg j
        have hfs := find_smallC (n := ((gs.getD i default).mem.getD j default).id) (g := (gs.getD i default).num) h
        have hat := fun h => all_at (p := needS l (gs.getD i default).num) (l := (gs.getD i default).mem) (i := j) h
        conv => whnf
        repeat' first
          | (refine call_if (findr_spec l ((gs.getD i default).mem.getD j default).id (gs.getD i default).num) (by first | exact .inl rfl | exact .inr ⟨rfl, rfl⟩) (need_intro ?_ ?_); (conv => whnf))
          | (refine call_if (samer_spec _ ((gs.getD i default).mem.getD j default).copy) (by first | exact .inl rfl | exact .inr ⟨rfl, rfl⟩) (need_intro ?_ ?_); (conv => whnf))
          | (refine NextVC.mk (i + 1, ()) ?_ ?_ ?_; (conv => whnf))
          | (refine NextVC.mk (j + 1) ?_ ?_ ?_; (conv => whnf))
          | (refine bc_true (by assumption) ?_; (conv => whnf))
          | (refine bc_false (by assumption) ?_; (conv => whnf))
          | (refine bc_intro (fun _ => ?_) (fun _ => ?_) <;> (conv => whnf))
          | (refine need_intro ?_ ?_; (conv => whnf))
          | (refine wk_refl ?_; (conv => whnf))
          | (refine draw_intro (by kernel_rfl) ?_; (conv => whnf))
          | (refine ord_intro (by kernel_rfl) ?_; (conv => whnf))
        all_goals try simp only [cellsSto, bytesSto, cellsMrk, bytesMrk, cellsIntG, bytesIntG, true_and, and_true, decide_eq_true_eq, decide_eq_false_iff_not, beq_iff_eq, bne_iff_ne, beq_eq_false_iff_ne, bne_eq_false_iff_eq, ne_eq, Decidable.not_not, Bool.not_eq_true', Bool.not_eq_false', Int.toNat_natCast] at *
        all_goals first
          | exact trivial
          | omega
          | exact h
          | exact DLe.refl _
          | exact DLe.of_eq (by rw [hs])
          | exact DLe.of_eq (by rw [hsj])
          | exact ⟨by omega, by omega⟩
          | exact ⟨hfs, hmj⟩
          | (refine ⟨by omega, ?_⟩
             have h9 : needS l (gs.getD i default).num ((gs.getD i default).mem.getD j default) = true := by simp only [needS]; simp_all
             rw [hcj, hat (by omega), h9]; rfl)
          | (refine ⟨by omega, ?_⟩
             have h9 : completeG l (gs.getD i default) = true := by rw [hcj, all_done (by omega)]
             rw [hc, ha, h9]; rfl)
          | (refine ⟨LeS.of_eq ?_, trivial⟩
             have h9 : needS l (gs.getD i default).num ((gs.getD i default).mem.getD j default) = false := by simp only [needS]; simp_all
             rw [hc, ha, hcj, hat (by omega), h9]; rfl)
          | trace_state
    · conv => whnf
      repeat' first
        | (refine bc_true (by assumption) ?_; (conv => whnf))
        | (refine bc_false (by assumption) ?_; (conv => whnf))
        | (refine bc_intro (fun _ => ?_) (fun _ => ?_) <;> (conv => whnf))
        | (refine need_intro ?_ ?_; (conv => whnf))
        | (refine wk_refl ?_; (conv => whnf))
        | (refine draw_intro (by kernel_rfl) ?_; (conv => whnf))
        | (refine ord_intro (by kernel_rfl) ?_; (conv => whnf))
      all_goals try simp only [cellsSto, bytesSto, cellsMrk, bytesMrk, cellsIntG, bytesIntG, true_and, and_true, decide_eq_true_eq, decide_eq_false_iff_not, beq_iff_eq, bne_iff_ne, beq_eq_false_iff_ne, bne_eq_false_iff_eq, ne_eq, Decidable.not_not, Bool.not_eq_true', Bool.not_eq_false', Int.toNat_natCast] at *
      refine ⟨LeS.of_eq ?_, trivial⟩
      have : completeS l (gs.drop i) = true := all_done (by omega)
      rw [hc, this]
theorem completer_at (l : List StoT) (gs : List GrpT) {n m : Nat} {g g2 : Nat → Nat → D} : ((n = l.length ∧ RowLe n 33 g (cellOf encSto l)) ∧ (m = gs.length ∧ RowLe m 3 g2 (cellOf encGrp gs)) ∧ StoB 1000000 l ∧ NetB gs) → Sx.Spec Tryd.prog GG 21 [.d (.list n 33 g), .d (.list m 3 g2)] [] (.d (.bool (completeS l gs))) [] := fun ⟨⟨e, hr⟩, ⟨e2, hr2⟩, h⟩ => by
  subst e; subst e2
  exact (completer_spec l gs h).arg (LeL.cons (LeS.d (DLe.rows rfl hr)) (LeL.cons (LeS.d (DLe.rows rfl hr2)) LeL.nil))
end Go.Proofs.YtohenbaodklohaaDoor
