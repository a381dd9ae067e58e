/- Contracts of functions that the law reaches: YtcllahjpinbiaaaDoorColL. Written for this claim. -/
import Derived.Test.YtcllahjpinbiaaaDoorNet
import Derived.Test.YtcllahjpinbiaaaDoorSxTab
namespace Go.Proofs.YtcllahjpinbiaaaDoor
open Go Go.Sx Go.ChangeShapes Go.WideShapes Go.ChangeAt Go.WideMaps Go.WideElems Go.RowKit
set_option linter.unusedVariables false
set_option linter.unusedSimpArgs false
set_option maxRecDepth 100000
theorem sto_nil_le (n g s : Int) (lk : List UInt8) (lt : Bool) (hk : List UInt8) (ht : Bool) : LeL [.d (.int .i64 n), .d (.int .i64 g), .d (.int .i64 s), .d (.str lk), .d (.bool lt), .d (.str hk), .d (.bool ht), .d (.int .i64 0), .d (.int .i64 0), .d (.val (.slice none 0 0)), .d (.val (.slice none 0 0)),
  .d (.int .i64 0), .d (.int .i64 0), .d (.int .i64 0), .d (.int .i64 0), .d (.int .i64 0), .d (.str []), .d (.bool false), .d (.str []), .d (.bool false), .d (.val (.slice none 0 0)),
  .d (.int .i64 0), .d (.int .i64 0), .d (.int .i64 0), .d (.int .i64 0), .d (.int .i64 0), .d (.str []), .d (.bool false), .d (.str []), .d (.bool false), .d (.val (.slice none 0 0)), .d (.int .i64 0), .d (.int .i64 0)] (stoL ⟨n, g, s, rawC lk lt hk ht 0 0 []⟩) := by
  dsimp only [stoL, copyL, rawC, noPart]
  repeat' first
    | exact LeL.nil
    | refine LeL.cons ?_ ?_
  all_goals first
    | exact LeS.refl _
    | exact les_nil rfl
theorem stored0 {l : List Int} {a : Nat} : TapeOk l a → ∃ x : StoT × Nat, (((0 ≤ x.1.ser ∧ x.1.ser ≤ 9) ∧ SmallC x.1.copy) ∧ TapeOk l x.2) ∧ Sx.Spec Tryd.prog GG 25 [.ptr 1000 0] [(1000, tapeB l a)] (.agg (stoL x.1)) [(1000, tapeB l x.2)] := by
  intro h
  refine spec_some (E := EE) (fn := Tryd.f25) _ _ _ false eok (by kernel_rfl) (by kernel_rfl) Tryd.call25 (by kernel_rfl) (fun _ => by kernel_rfl) (fun _ => by kernel_rfl) ?_
  conv => whnf
  repeat' first
    | (refine call_some_if (pickQ_ex _ (fun _ => True)) (fun _ => by first | exact .inl rfl | exact .inr ⟨rfl, rfl⟩) (need_intro ?_ ?_); rintro ⟨p, b⟩ ⟨q1, q2⟩; (conv => whnf))
    | (refine call_some_if (next_ex (n := 4) _) (fun _ => by first | exact .inl rfl | exact .inr ⟨rfl, rfl⟩) (need_intro ?_ ?_); rintro ⟨v, b⟩ ⟨⟨v1, v2⟩, v3⟩; (conv => whnf))
    | (refine call_some_if (next_ex _) (fun _ => by first | exact .inl rfl | exact .inr ⟨rfl, rfl⟩) (need_intro ?_ ?_); rintro ⟨s, b⟩ ⟨⟨s1, s2⟩, s3⟩; (conv => whnf))
    | (refine call_some_if (range_ex _) (fun _ => by first | exact .inl rfl | exact .inr ⟨rfl, rfl⟩) (need_intro ?_ ?_); rintro ⟨k, t, k2, t2, b⟩ ⟨h1, h2, h3⟩; (conv => whnf))
    | (refine bc_true (by assumption) ?_; (conv => whnf))
    | (refine bc_false (by assumption) ?_; (conv => whnf))
    | (refine bc_intro (fun _ => ?_) (fun _ => ?_) <;> (conv => whnf))
    | (refine need_intro ?_ ?_; (conv => whnf))
    | (refine wk_refl ?_; (conv => whnf))
    | (refine draw_intro (by kernel_rfl) ?_; (conv => whnf))
    | (refine ord_intro (by kernel_rfl) ?_; (conv => whnf))
  all_goals try first
    | assumption
    | exact ⟨by assumption, by omega, by omega⟩
    | exact ⟨by assumption, ⟨by omega, by omega⟩, by repeat' first | exact trivial | exact ⟨_, rfl, trivial⟩ | apply And.intro⟩
  all_goals first
    | exact ⟨(⟨_, _, _, rawC _ _ _ _ 0 0 []⟩, _), ⟨⟨⟨s1, by simp only; omega⟩, by simp [SmallC, noPart]⟩, by assumption⟩, LeS.agg (sto_nil_le _ _ _ _ _ _ _), LeL.refl _, trivial⟩
    | trace_state
theorem stored_ex (m : Nat) {l : List Int} {a : Nat} : TapeOk l a → ∃ x : StoT × Nat, (((0 ≤ x.1.ser ∧ x.1.ser ≤ 9) ∧ SmallC x.1.copy) ∧ TapeOk l x.2) ∧ Sx.Spec Tryd.prog GG 25 [.ptr m 0] [(m, tapeB l a)] (.agg (stoL x.1)) [(m, tapeB l x.2)] := fun h => by
  obtain ⟨x, hx, hs⟩ := stored0 h
  exact ⟨x, hx, hs.at m⟩
/-- a drawn store -/
structure StoQ (n : Nat) (l : List StoT) : Prop where
  b : StoB n l
  ser : ∀ s ∈ l, s.ser ≤ 9
theorem stoq_nil {n : Nat} : StoQ n [] := ⟨stob_nil, by simp⟩
theorem stoq_snoc {n : Nat} {l : List StoT} {s : StoT} (h : StoQ n l) (hs : SmallC s.copy) (h9 : s.ser ≤ 9) (hl : l.length < n) : StoQ n (l ++ [s]) := by
  refine ⟨⟨by simp; omega, fun x hx => ?_⟩, fun x hx => ?_⟩
  · rw [List.mem_append, List.mem_singleton] at hx
    rcases hx with hx | rfl
    · exact h.b.small x hx
    · exact hs
  · rw [List.mem_append, List.mem_singleton] at hx
    rcases hx with hx | rfl
    · exact h.ser x hx
    · exact h9
set_option maxHeartbeats 2000000 in
theorem store0 {l : List Int} {a : Nat} : TapeOk l a → ∃ x : List StoT × Nat, (StoQ 7 x.1 ∧ TapeOk l x.2) ∧ Sx.Spec Tryd.prog GG 18 [.ptr 1000 0] [(1000, tapeB l a)] (.d (encL encSto 33 x.1)) [(1000, tapeB l x.2)] := by
  intro h
  refine spec_some (E := EE) (fn := Tryd.f18) _ _ _ false eok (by kernel_rfl) (by kernel_rfl) Tryd.call18 (by kernel_rfl) (fun _ => by kernel_rfl) (fun _ => by kernel_rfl) ?_
  conv => whnf
  repeat' first
    | (refine call_some_if (next_ex _) (fun _ => by first | exact .inl rfl | exact .inr ⟨rfl, rfl⟩) (need_intro ?_ ?_); rintro ⟨v, b⟩ ⟨⟨q1, q2⟩, h6⟩; (conv => whnf))
    | (refine bc_true (by assumption) ?_; (conv => whnf))
    | (refine bc_false (by assumption) ?_; (conv => whnf))
    | (refine need_intro ?_ ?_; (conv => whnf))
    | (refine wk_refl ?_; (conv => whnf))
    | (refine draw_intro (by kernel_rfl) ?_; (conv => whnf))
    | (refine ord_intro (by kernel_rfl) ?_; (conv => whnf))
  all_goals try simp only at *
  all_goals try first
    | assumption
    | exact ⟨by assumption, by omega, by omega⟩
  refine loop_auto [0, 2] [] (fun x : List StoT × Int × Nat => [(4, .d (.int .i64 x.2.1)), (3, .osl 500 33 0 x.1.length)]) (fun x => [(500, .row 59 33 x.1.length (cellOf encSto x.1)), (1000, tapeB l x.2.2)]) (fun x => ((0 ≤ x.2.1 ∧ (x.1.length : Int) + x.2.1 ≤ 7) ∧ StoQ 7 x.1) ∧ TapeOk l x.2.2) (fun x => x.2.1.toNat) ([], v, b) ?_ (fun x hx => ?_) ⟨⟨⟨q1, by simp only [List.length_nil]; omega⟩, stoq_nil⟩, h6⟩
  · conv => whnf
    repeat' first
      | (refine bc_true (by assumption) ?_; (conv => whnf))
      | (refine bc_false (by assumption) ?_; (conv => whnf))
      | (refine bc_intro (fun _ => ?_) (fun _ => ?_) <;> (conv => whnf))
      | (refine need_intro ?_ ?_; (conv => whnf))
      | (refine wk_refl ?_; (conv => whnf))
      | (refine draw_intro (by kernel_rfl) ?_; (conv => whnf))
      | (refine ord_intro (by kernel_rfl) ?_; (conv => whnf))
    all_goals first | exact trivial | exact DLe.refl _ | exact DLe.nil | exact RowLe.refl _ _ _ | exact ⟨rfl, rfl⟩ | exact ⟨rfl, rfl, rfl⟩ | trace_state
  · obtain ⟨xs, i, b⟩ := x
    obtain ⟨⟨⟨hi, hl⟩, hq⟩, hb⟩ := hx
    simp only at hi hl hq hb
    have hs : 0 < i → IntKind.i64.wrap (i - 1) = i - 1 := fun _ => wrap_of (by omega) (by omega)
    conv => whnf
    repeat' first
      | (refine call_some_if (stored_ex _) (fun _ => by first | exact .inl rfl | exact .inr ⟨rfl, rfl⟩) (need_intro ?_ ?_); rintro ⟨s, b⟩ ⟨⟨⟨s1, s2⟩, s3⟩, h6⟩; (conv => whnf))
      | (refine NextVC.mk (xs ++ [s], i - 1, b) ?_ ?_ ?_; (conv => whnf))
      | (refine bc_true (by assumption) ?_; (conv => whnf))
      | (refine bc_false (by assumption) ?_; (conv => whnf))
      | (refine bc_intro (fun _ => ?_) (fun _ => ?_) <;> (conv => whnf))
      | (refine need_intro ?_ ?_; (conv => whnf))
      | (refine wk_refl ?_; (conv => whnf))
      | (refine draw_intro (by kernel_rfl) ?_; (conv => whnf))
      | (refine ord_intro (by kernel_rfl) ?_; (conv => whnf))
    all_goals try simp only [cellsSto, bytesSto, cellsMrk, bytesMrk, cellsIntG, bytesIntG, true_and, and_true, decide_eq_true_eq, decide_eq_false_iff_not, beq_iff_eq, bne_iff_ne, beq_eq_false_iff_ne, bne_eq_false_iff_eq, ne_eq, Decidable.not_not, Bool.not_eq_true', Bool.not_eq_false', Int.toNat_natCast] at *
    all_goals first
      | exact trivial
      | assumption
      | omega
      | exact DLe.refl _
      | exact DLe.of_eq (by rw [hs (by omega)])
      | exact ⟨by omega, by omega⟩
      | exact ⟨trivial, by omega, by omega⟩
      | exact ⟨trivial, trivial, by simp only [List.length_append, List.length_singleton]⟩
      | exact ⟨cellsSto, trivial, by simp only [List.length_append, List.length_singleton]⟩
      | exact ⟨trivial, cellsSto, by simp only [List.length_append, List.length_singleton]⟩
      | (simp only [List.length_append, List.length_singleton]; done)
      | (simp only [List.length_append, List.length_singleton]
         refine row_snocA (x := s) rfl (RowLe.refl _ _ _) ?_
         repeat' first
           | exact trivial
           | exact DLe.refl _
           | apply And.intro
         done)
      | exact ⟨⟨⟨by omega, by simp only [List.length_append, List.length_singleton]; omega⟩, stoq_snoc hq (by assumption) (by assumption) (by omega)⟩, by assumption⟩
      | exact ⟨(xs, _), ⟨hq, by assumption⟩, les_own rfl, LeL.refl _, trivial⟩
      | trace_state
theorem storeL_ex (m : Nat) {l : List Int} {a : Nat} : TapeOk l a → ∃ x : List StoT × Nat, (StoQ 7 x.1 ∧ TapeOk l x.2) ∧ Sx.Spec Tryd.prog GG 18 [.ptr m 0] [(m, tapeB l a)] (.d (encL encSto 33 x.1)) [(m, tapeB l x.2)] := fun h => by
  obtain ⟨x, hx, hs⟩ := store0 h
  exact ⟨x, hx, hs.at m⟩
/-- small stores -/
def smS (s : StoT) : Bool := decide ((s.copy.rows.length : Int) ≤ 20) && (decide ((s.copy.pend.length : Int) ≤ 20) && (decide ((s.copy.out.rows.length : Int) ≤ 20) && decide ((s.copy.inn.rows.length : Int) ≤ 20)))
def smallS (l : List StoT) : Bool := l.all smS && decide ((l.length : Int) ≤ 30)
theorem smallS_b {l : List StoT} (h : smallS l = true) : StoB 30 l := by
  simp only [smallS, Bool.and_eq_true, List.all_eq_true, decide_eq_true_eq] at h
  refine ⟨by omega, fun s hs => ?_⟩
  have := h.1 s hs
  simp only [smS, Bool.and_eq_true, decide_eq_true_eq] at this
  unfold SmallC; omega
set_option maxHeartbeats 1000000 in
theorem small34_spec (l : List StoT) : l.length ≤ 9223372036854775807 → Sx.Spec Tryd.prog GG 9 [.d (encL encSto 33 l)] [] (.d (.bool (smallS l))) [] := by
  intro hl
  refine spec_intro (E := EE) (fn := Tryd.f9) eok (by kernel_rfl) (by kernel_rfl) Tryd.call9 (by kernel_rfl) (by kernel_rfl) ?_
  conv => whnf
  repeat' first
    | (refine bc_true (by assumption) ?_; (conv => whnf))
    | (refine bc_false (by assumption) ?_; (conv => whnf))
    | (refine need_intro ?_ ?_; (conv => whnf))
    | (refine wk_refl ?_; (conv => whnf))
    | (refine draw_intro (by kernel_rfl) ?_; (conv => whnf))
    | (refine ord_intro (by kernel_rfl) ?_; (conv => whnf))
  refine loop_auto [0, 2, 5, 6] [] (fun i : Nat => [(7, .d (.int .i64 i))]) (fun i => []) (fun i => i ≤ l.length ∧ l.all smS = (l.drop i).all smS) (fun i => l.length - i) 0 ?_ (fun i hi => ?_) ⟨by omega, rfl⟩
  · conv => whnf
    repeat' first
      | (refine bc_true (by assumption) ?_; (conv => whnf))
      | (refine bc_false (by assumption) ?_; (conv => whnf))
      | (refine bc_intro (fun _ => ?_) (fun _ => ?_) <;> (conv => whnf))
      | (refine need_intro ?_ ?_; (conv => whnf))
      | (refine wk_refl ?_; (conv => whnf))
      | (refine draw_intro (by kernel_rfl) ?_; (conv => whnf))
      | (refine ord_intro (by kernel_rfl) ?_; (conv => whnf))
    all_goals first | exact trivial | exact DLe.refl _ | exact DLe.nil | exact RowLe.refl _ _ _ | exact ⟨rfl, rfl⟩ | exact ⟨rfl, rfl, rfl⟩ | trace_state
  · obtain ⟨hi, ha⟩ := hi
    have hs : i < l.length → IntKind.i64.wrap ((i : Int) + 1) = ((i + 1 : Nat) : Int) := fun h => wrap_of (by omega) (by omega)
    have hst := fun h => all_at (p := smS) (l := l) (i := i) h
    have hbad : i < l.length → smS (l.getD i default) = false → smallS l = false := fun h e => by
      unfold smallS
      rw [ha, hst h, e]; rfl
    have hgood : i < l.length → smS (l.getD i default) = true → l.all smS = (l.drop (i + 1)).all smS := fun h e => by
      rw [ha, hst h, e]; rfl
    have hfin : ¬ i < l.length → smallS l = decide ((l.length : Int) ≤ 30) := fun h => by
      unfold smallS
      rw [ha, all_done (by omega)]; rfl
    conv => whnf
    repeat' first
      | (refine NextVC.mk (i + 1) ?_ ?_ ?_; (conv => whnf))
      | (refine bc_true (by assumption) ?_; (conv => whnf))
      | (refine bc_false (by assumption) ?_; (conv => whnf))
      | (refine bc_intro (fun _ => ?_) (fun _ => ?_) <;> (conv => whnf))
      | (refine need_intro ?_ ?_; (conv => whnf))
      | (refine wk_refl ?_; (conv => whnf))
      | (refine draw_intro (by kernel_rfl) ?_; (conv => whnf))
      | (refine ord_intro (by kernel_rfl) ?_; (conv => whnf))
    all_goals try simp only [decide_eq_true_eq, decide_eq_false_iff_not, Int.toNat_natCast] at *
    all_goals first
      | exact trivial
      | omega
      | exact DLe.refl _
      | exact DLe.of_eq (by rw [hs (by omega)])
      | exact ⟨by omega, by omega⟩
      | exact ⟨by omega, hgood (by omega) (by simp only [smS, Bool.and_eq_true, decide_eq_true_eq]; omega)⟩
      | (refine ⟨LeS.of_eq ?_, trivial⟩
         rw [hbad (by omega) (by simp only [smS, Bool.and_eq_false_iff, decide_eq_false_iff_not]; omega)]
         done)
      | (refine ⟨LeS.of_eq ?_, trivial⟩
         rw [hfin (by omega)]
         done)
      | trace_state
theorem small34_at (l : List StoT) {n : Nat} {g : Nat → Nat → D} : ((n = l.length ∧ RowLe n 33 g (cellOf encSto l)) ∧ l.length ≤ 1000) → Sx.Spec Tryd.prog GG 9 [.d (.list n 33 g)] [] (.d (.bool (smallS l))) [] := fun ⟨⟨e, hr⟩, h⟩ => by
  subst e
  exact (small34_spec l (by omega)).arg (LeL.cons (LeS.d (DLe.rows rfl hr)) LeL.nil)
/-! saving -/
theorem storep_d (l : List StoT) (s : StoT) : (StoB 999000 l ∧ SmallC s.copy) → Sx.Spec Tryd.prog GG 26 [.d (encL encSto 33 l), .agg (stoL s)] [] (.d (encL encSto 33 (storeS l s))) [] := fun h => (storep_at 1000 l s h).pub1
theorem storer_d (l : List StoT) (s : StoT) : (StoB 999000 l ∧ SmallC s.copy) → Sx.Spec Tryd.prog GG 28 [.d (encL encSto 33 l), .agg (stoL s)] [] (.d (encL encSto 33 (storeS l s))) [] := fun h => (storer_at 1000 l s h).pub1
theorem save_small {x : List StoT} {num ser : Int} {ms : List MemT} {n : Nat} (h : StoB n x) (hm : ∀ m ∈ ms, SmallC m.copy) (i : Nat) : StoB (n + i) (saveS x num ser (ms.take i)) :=
  (stob_save h (fun m hm' => hm m (List.mem_of_mem_take hm'))).mono (by simp only [List.length_take]; omega)
set_option maxHeartbeats 1000000 in
theorem save0 (x : List StoT) (g : GrpT) (ser : Int) : (StoB 900000 x ∧ GrpB 1000 g) → Sx.Spec Tryd.prog GG 34 [.d (encL encSto 33 x), .agg (grpL g), .d (.int .i64 ser)] [] (.d (encL encSto 33 (saveS x g.num ser g.mem))) [] := by
  rintro ⟨h, hg⟩
  have hl := hg.len
  have hsv := fun i => save_small (num := g.num) (ser := ser) (ms := g.mem) h (fun m hm => (hg.small m hm).1) i
  refine spec_intro (E := EE) (fn := Tryd.f34) eok (by kernel_rfl) (by kernel_rfl) Tryd.call34 (by kernel_rfl) (by kernel_rfl) ?_
  conv => whnf
  repeat' first
    | (refine bc_true (by assumption) ?_; (conv => whnf))
    | (refine bc_false (by assumption) ?_; (conv => whnf))
    | (refine need_intro ?_ ?_; (conv => whnf))
    | (refine wk_refl ?_; (conv => whnf))
    | (refine draw_intro (by kernel_rfl) ?_; (conv => whnf))
    | (refine ord_intro (by kernel_rfl) ?_; (conv => whnf))
  refine loop_auto [2, 4, 6, 10, 11] [4] (fun i : Nat => [(12, .d (.int .i64 i)), (0, .d (encL encSto 33 (saveS x g.num ser (g.mem.take i))))]) (fun i => []) (fun i => i ≤ g.mem.length) (fun i => g.mem.length - i) 0 ?_ (fun i hi => ?_) (by omega)
  · conv => whnf
    repeat' first
      | (refine bc_true (by assumption) ?_; (conv => whnf))
      | (refine bc_false (by assumption) ?_; (conv => whnf))
      | (refine bc_intro (fun _ => ?_) (fun _ => ?_) <;> (conv => whnf))
      | (refine need_intro ?_ ?_; (conv => whnf))
      | (refine wk_refl ?_; (conv => whnf))
      | (refine draw_intro (by kernel_rfl) ?_; (conv => whnf))
      | (refine ord_intro (by kernel_rfl) ?_; (conv => whnf))
    all_goals first | exact trivial | exact DLe.refl _ | exact DLe.nil | exact RowLe.refl _ _ _ | exact ⟨rfl, rfl⟩ | exact ⟨rfl, rfl, rfl⟩ | trace_state
  · have hs : IntKind.i64.wrap ((i : Int) + 1) = ((i + 1 : Nat) : Int) := wrap_succ (n := 2000000) (by omega) (by omega)
    have hmi := mem_small hg i
    have ht := fun h => save_take (x := x) (num := g.num) (ser := ser) (ms := g.mem) (i := i) h
    have ht1 : i < g.mem.length → (g.mem.getD i default).up = true → saveS x g.num ser (g.mem.take (i + 1)) = storeS (saveS x g.num ser (g.mem.take i)) ⟨(g.mem.getD i default).id, g.num, ser, (g.mem.getD i default).copy⟩ := fun h1 h2 => by rw [ht h1, if_pos h2]
    have ht2 : i < g.mem.length → (g.mem.getD i default).up = false → saveS x g.num ser (g.mem.take (i + 1)) = saveS x g.num ser (g.mem.take i) := fun h1 h2 => by rw [ht h1, if_neg (by rw [h2]; simp)]
    have hsb := (hsv i).mono (m := 999000) (by omega)
    conv => whnf
    repeat' first
      | (refine call_if (storep_d (saveS x g.num ser (g.mem.take i)) ⟨(g.mem.getD i default).id, g.num, ser, (g.mem.getD i default).copy⟩) (by first | exact .inl rfl | exact .inr ⟨rfl, rfl⟩) (need_intro ?_ ?_); (conv => whnf))
      | (refine NextVC.mk (i + 1) ?_ ?_ ?_; (conv => whnf))
      | (refine bc_true (by assumption) ?_; (conv => whnf))
      | (refine bc_false (by assumption) ?_; (conv => whnf))
      | (refine bc_intro (fun _ => ?_) (fun _ => ?_) <;> (conv => whnf))
      | (refine need_intro ?_ ?_; (conv => whnf))
      | (refine wk_refl ?_; (conv => whnf))
      | (refine draw_intro (by kernel_rfl) ?_; (conv => whnf))
      | (refine ord_intro (by kernel_rfl) ?_; (conv => whnf))
    all_goals try simp only [cellsSto, bytesSto, cellsMrk, bytesMrk, cellsIntG, bytesIntG, true_and, and_true, decide_eq_true_eq, decide_eq_false_iff_not, beq_iff_eq, bne_iff_ne, beq_eq_false_iff_ne, bne_eq_false_iff_eq, ne_eq, Decidable.not_not, Bool.not_eq_true', Bool.not_eq_false', Int.toNat_natCast] at *
    all_goals first
      | exact trivial
      | omega
      | exact DLe.refl _
      | exact ⟨hsb, hmi⟩
      | exact DLe.of_eq (by rw [hs])
      | exact ⟨by omega, by omega⟩
      | (rw [ht2 (by omega) (by assumption)]; exact DLe.refl _)
      | (rw [ht1 (by omega) (by assumption)]; exact DLe.refl _)
      | (have e : i = g.mem.length := by omega
         subst e
         refine ⟨?_, trivial⟩
         rw [List.take_length]
         exact LeS.refl _)
      | trace_state
theorem save_at (x : List StoT) (g : GrpT) (ser : Int) {n : Nat} {gf : Nat → Nat → D} : ((n = x.length ∧ RowLe n 33 gf (cellOf encSto x)) ∧ StoB 900000 x ∧ GrpB 1000 g) → Sx.Spec Tryd.prog GG 34 [.d (.list n 33 gf), .agg (grpL g), .d (.int .i64 ser)] [] (.d (encL encSto 33 (saveS x g.num ser g.mem))) [] := fun ⟨⟨e, hr⟩, h⟩ => by
  subst e
  exact (save0 x g ser h).arg (LeL.cons (LeS.d (DLe.rows rfl hr)) (LeL.refl _))
/-! the example of chapter 34 -/
def awB : GrpT := ⟨7, true, memL' (rawC [] false [] true 0 0 []) [1, 2]⟩
theorem awB_new : newG 7 [1, 2] (rawC [] false [] true 0 0 []) = (awB, 0) := by kernel_rfl
theorem copy_nil_le (lk : List UInt8) (lt : Bool) (hk : List UInt8) (ht : Bool) : LeL [.d (.str lk), .d (.bool lt), .d (.str hk), .d (.bool ht), .d (.int .i64 0), .d (.int .i64 0), .d (.val (.slice none 0 0)), .d (.val (.slice none 0 0)),
  .d (.int .i64 0), .d (.int .i64 0), .d (.int .i64 0), .d (.int .i64 0), .d (.int .i64 0), .d (.str []), .d (.bool false), .d (.str []), .d (.bool false), .d (.val (.slice none 0 0)),
  .d (.int .i64 0), .d (.int .i64 0), .d (.int .i64 0), .d (.int .i64 0), .d (.int .i64 0), .d (.str []), .d (.bool false), .d (.str []), .d (.bool false), .d (.val (.slice none 0 0)), .d (.int .i64 0), .d (.int .i64 0)] (copyL (rawC lk lt hk ht 0 0 [])) := by
  dsimp only [copyL, rawC, noPart]
  repeat' first
    | exact LeL.nil
    | refine LeL.cons ?_ ?_
  all_goals first
    | exact LeS.refl _
    | exact les_nil rfl
theorem new7_aw {get : Nat → Nat → D} (h : RowLe 2 1 get (cellOf encI [1, 2])) : Sx.Spec Tryd.prog GG 49 [.d (.int .i64 7), .d (.list 2 1 get), .agg [.d (.str []), .d (.bool false), .d (.str []), .d (.bool true), .d (.int .i64 0), .d (.int .i64 0), .d (.val (.slice none 0 0)), .d (.val (.slice none 0 0)),
  .d (.int .i64 0), .d (.int .i64 0), .d (.int .i64 0), .d (.int .i64 0), .d (.int .i64 0), .d (.str []), .d (.bool false), .d (.str []), .d (.bool false), .d (.val (.slice none 0 0)),
  .d (.int .i64 0), .d (.int .i64 0), .d (.int .i64 0), .d (.int .i64 0), .d (.int .i64 0), .d (.str []), .d (.bool false), .d (.str []), .d (.bool false), .d (.val (.slice none 0 0)), .d (.int .i64 0), .d (.int .i64 0)]] [] (.tup [.agg (grpL awB), .d (.int .i64 0)]) [] := by
  have := (newgr_spec 7 [1, 2] (rawC [] false [] true 0 0 []) ⟨⟨by decide, by decide, by decide, by decide⟩, by decide⟩).arg (LeL.cons (LeS.refl _) (LeL.cons (LeS.d (DLe.rows rfl h)) (LeL.cons (LeS.agg (copy_nil_le [] false [] true)) LeL.nil)))
  rw [awB_new] at this
  exact this
theorem awB_net : NetB [awB] := ⟨by decide, fun g hg => by
  rw [List.mem_singleton] at hg
  subst hg
  refine ⟨by decide, fun m hm => ?_⟩
  simp only [awB, memL', List.mem_map] at hm
  obtain ⟨_, _, rfl⟩ := hm
  exact ⟨by simp [noPart], by unfold I64; simp⟩⟩
theorem marks_aw {g : Nat → Nat → D} (h : RowLe 1 3 g (cellOf encGrp [awB])) : Sx.Spec Tryd.prog GG 15 [.d (.list 1 3 g)] [] (.d (encL encMrk 2 (marksS [awB]))) [] := marksp_at [awB] ⟨⟨rfl, h⟩, awB_net⟩
theorem dead_aw (n g s : Int) (r : Bool) (e : deadS (marksS [awB]) 5 ⟨n, g, s, rawC [] false [] false 0 0 []⟩ = r) : Sx.Spec Tryd.prog GG 23 [.d (encL encMrk 2 (marksS [awB])), .d (.int .i64 5), .agg [.d (.int .i64 n), .d (.int .i64 g), .d (.int .i64 s), .d (.str []), .d (.bool false), .d (.str []), .d (.bool false), .d (.int .i64 0), .d (.int .i64 0), .d (.val (.slice none 0 0)), .d (.val (.slice none 0 0)),
  .d (.int .i64 0), .d (.int .i64 0), .d (.int .i64 0), .d (.int .i64 0), .d (.int .i64 0), .d (.str []), .d (.bool false), .d (.str []), .d (.bool false), .d (.val (.slice none 0 0)),
  .d (.int .i64 0), .d (.int .i64 0), .d (.int .i64 0), .d (.int .i64 0), .d (.int .i64 0), .d (.str []), .d (.bool false), .d (.str []), .d (.bool false), .d (.val (.slice none 0 0)), .d (.int .i64 0), .d (.int .i64 0)]] [] (.d (.bool r)) [] := by
  have := (deadp_spec (marksS [awB]) 5 ⟨n, g, s, rawC [] false [] false 0 0 []⟩ (marks_b awB_net)).arg (LeL.cons (LeS.refl _) (LeL.cons (LeS.refl _) (LeL.cons (LeS.agg (sto_nil_le n g s [] false [] false)) LeL.nil)))
  rw [e] at this
  exact this
theorem awake34_spec : Sx.Spec Tryd.prog GG 10 [] [] (.d (.bool true)) [] := by
  refine spec_intro (E := EE) (fn := Tryd.f10) eok (by kernel_rfl) (by kernel_rfl) Tryd.call10 (by kernel_rfl) (by kernel_rfl) ?_
  conv => whnf
  repeat' first
    | (refine call_intro (new7_aw (.all (by repeat' first | exact trivial | exact rfl | apply And.intro))) ?_ (by first | exact .inl rfl | exact .inr ⟨rfl, rfl⟩); (conv => whnf))
    | (refine call_intro (all_spec) ?_ (by first | exact .inl rfl | exact .inr ⟨rfl, rfl⟩); (conv => whnf))
    | (refine call_intro (marks_aw (.all (by repeat' first | exact trivial | exact rfl | apply And.intro))) ?_ (by first | exact .inl rfl | exact .inr ⟨rfl, rfl⟩); (conv => whnf))
    | (refine call_intro (dead_aw 2 7 4 false (by kernel_rfl)) ?_ (by first | exact .inl rfl | exact .inr ⟨rfl, rfl⟩); (conv => whnf))
    | (refine call_intro (dead_aw 3 7 5 true (by kernel_rfl)) ?_ (by first | exact .inl rfl | exact .inr ⟨rfl, rfl⟩); (conv => whnf))
    | (refine call_intro (dead_aw 3 7 6 false (by kernel_rfl)) ?_ (by first | exact .inl rfl | exact .inr ⟨rfl, rfl⟩); (conv => whnf))
    | (refine bc_true (by assumption) ?_; (conv => whnf))
    | (refine bc_false (by assumption) ?_; (conv => whnf))
    | (refine bc_intro (fun _ => ?_) (fun _ => ?_) <;> (conv => whnf))
    | (refine need_intro ?_ ?_; (conv => whnf))
    | (refine wk_refl ?_; (conv => whnf))
    | (refine draw_intro (by kernel_rfl) ?_; (conv => whnf))
    | (refine ord_intro (by kernel_rfl) ?_; (conv => whnf))
  all_goals first
    | decide
    | exact ⟨LeS.refl _, trivial⟩
    | trace_state
end Go.Proofs.YtcllahjpinbiaaaDoor
