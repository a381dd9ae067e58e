/- Contracts of functions that the law reaches: YtggehonedmbnjaaQBase. Written for this claim. -/
import Derived.Test.YtggehonedmbnjaaSxCac
import Derived.Test.YtggehonedmbnjaaSxTab
import Derived.Test.YtggehonedmbnjaaRows
import Derived.Test.YtggehonedmbnjaaProg
namespace Go.Proofs.Ytggehonedmbnjaa
open Go Go.Sx Go.ChangeShapes Go.WideShapes Go.ChangeAt Go.RowKit
set_option linter.unusedVariables false
set_option linter.unusedSimpArgs false
set_option maxRecDepth 100000
abbrev EE : List Nat := [29]
theorem eok : EOk Try.prog EE := by
  refine ⟨by kernel_rfl, ?_⟩
  intro T hT
  simp only [memN_iff] at hT
  simp only [List.mem_cons, List.not_mem_nil, or_false] at hT
  rcases hT with rfl <;> exact ⟨by kernel_rfl, by kernel_rfl⟩
def letterS : Nat → List UInt8
  | 0 => [97]
  | 1 => [98]
  | 2 => [99]
  | 3 => [0]
  | 4 => [255]
  | _ => [109]
theorem letterS_len : ∀ n, (letterS n).length = 1
  | 0 => rfl
  | 1 => rfl
  | 2 => rfl
  | 3 => rfl
  | 4 => rfl
  | _ + 5 => rfl
def GG : Nat → Option (Nat × (Nat → D))
  | _ => none
/-! keys, bounds, ranges -/
theorem validKeyp_spec (k : List UInt8) : Sx.Spec Try.prog GG 22 [.d (.str k)] [] (.d (.bool (decide ((k.length : Int) ≤ 64)))) [] := by
  refine spec_intro (E := EE) (fn := Try.f22) eok (by kernel_rfl) (by kernel_rfl) Try.call22 (by kernel_rfl) (by kernel_rfl) ?_
  conv => whnf
  repeat' first
    | (refine bc_true (by assumption) ?_; (conv => whnf))
    | (refine bc_false (by assumption) ?_; (conv => whnf))
    | (refine bc_intro (fun _ => ?_) (fun _ => ?_) <;> (conv => whnf))
    | (refine need_intro ?_ ?_; (conv => whnf))
    | (refine wk_refl ?_; (conv => whnf))
    | (refine draw_intro (by kernel_rfl) ?_; (conv => whnf))
    | (refine ord_intro (by kernel_rfl) ?_; (conv => whnf))
  exact ⟨LeS.refl _, trivial⟩
theorem validKeyr_spec (k : List UInt8) : Sx.Spec Try.prog GG 42 [.d (.str k)] [] (.d (.bool (decide ((k.length : Int) ≤ 64)))) [] := by
  refine spec_intro (E := EE) (fn := Try.f42) eok (by kernel_rfl) (by kernel_rfl) Try.call42 (by kernel_rfl) (by kernel_rfl) ?_
  conv => whnf
  repeat' first
    | (refine bc_true (by assumption) ?_; (conv => whnf))
    | (refine bc_false (by assumption) ?_; (conv => whnf))
    | (refine bc_intro (fun _ => ?_) (fun _ => ?_) <;> (conv => whnf))
    | (refine need_intro ?_ ?_; (conv => whnf))
    | (refine wk_refl ?_; (conv => whnf))
    | (refine draw_intro (by kernel_rfl) ?_; (conv => whnf))
    | (refine ord_intro (by kernel_rfl) ?_; (conv => whnf))
  exact ⟨LeS.refl _, trivial⟩
/-! the tape -/
def encI (n : Int) : List D := [.int .i64 n]
structure TapeOk (l : List Int) (a : Nat) : Prop where
  h1 : l.length ≤ 600
  h2 : a ≤ l.length
  h3 : ∀ x ∈ l, -9223372036854775808 ≤ x ∧ x < 9223372036854775808
abbrev tapeB (l : List Int) (a : Nat) : Blk := .box [.d (encL encI 1 l), .d (.int .i64 a)]
theorem TapeOk.get {l : List Int} {a i : Nat} (h : TapeOk l a) (hi : i < l.length) : -9223372036854775808 ≤ l.getD i default ∧ l.getD i default < 9223372036854775808 := by
  have : l.getD i default = l[i] := by simp [List.getD, hi]
  rw [this]
  exact h.h3 _ (List.getElem_mem hi)
theorem wrap_pred {n : Nat} (hn : n ≤ 9223372036854775806) : IntKind.i64.wrap (((n + 1 : Nat) : Int) - 1) = n := by
  rw [wrap_of (by omega) (by omega)]; omega
theorem mod_spec (v n : Int) : ((0 < n ∧ n < 9223372036854775808) ∧ -9223372036854775808 ≤ v ∧ v < 9223372036854775808) → Sx.Spec Try.prog GG 32 [.d (.int .i64 v), .d (.int .i64 n)] [] (.d (.int .i64 (v % n))) [] := by
  rintro ⟨hn, hv⟩
  have r1 := Int.tmod_lt_of_pos v hn.1
  have r2 := Int.lt_tmod_of_pos v hn.1
  have e0 : v % n = if v.tmod n < 0 then v.tmod n + n else v.tmod n := by
    have h1 := Int.tmod_add_mul_tdiv v n
    have h2 := Int.emod_add_mul_ediv v n
    have h3 := Int.emod_nonneg v (by omega : n ≠ 0)
    have h4 := Int.emod_lt_of_pos v hn.1
    rw [Int.tmod_eq_emod]
    split <;> split at * <;> omega
  refine spec_intro (E := EE) (fn := Try.f32) eok (by kernel_rfl) (by kernel_rfl) Try.call32 (by kernel_rfl) (by kernel_rfl) ?_
  conv => whnf
  repeat' first
    | (refine bc_true (by assumption) ?_; (conv => whnf))
    | (refine bc_false (by assumption) ?_; (conv => whnf))
    | (refine bc_intro (fun _ => ?_) (fun _ => ?_) <;> (conv => whnf))
    | (refine need_intro ?_ ?_; (conv => whnf))
    | (refine wk_refl ?_; (conv => whnf))
    | (refine draw_intro (by kernel_rfl) ?_; (conv => whnf))
    | (refine ord_intro (by kernel_rfl) ?_; (conv => whnf))
  all_goals try simp only [decide_eq_true_eq, decide_eq_false_iff_not] at *
  all_goals first
    | omega
    | (refine ⟨LeS.of_eq ?_, trivial⟩; rw [wrap_of (by omega) (by omega), e0, if_pos (by assumption)])
    | (refine ⟨LeS.of_eq ?_, trivial⟩; rw [e0, if_neg (by assumption)])
theorem next0 {l : List Int} {a : Nat} {n : Int} : (TapeOk l a ∧ -9223372036854775808 ≤ n ∧ n < 9223372036854775808) →
    ∃ x : Int × Nat, ((0 ≤ x.1 ∧ (x.1 < n ∨ x.1 = 0)) ∧ TapeOk l x.2) ∧ Sx.Spec Try.prog GG 11 [.ptr 1000 0, .d (.int .i64 n)] [(1000, tapeB l a)] (.d (.int .i64 x.1)) [(1000, tapeB l x.2)] := by
  rintro ⟨h, hn⟩
  have h1 := h.h1
  have h2 := h.h2
  have w1 : IntKind.i64.wrap ((a : Int) + 1) = ((a + 1 : Nat) : Int) := wrap_succ (n := 601) (by omega) (by omega)
  have w2 := wrap_pred (n := a) (by omega)
  refine spec_some (E := EE) (fn := Try.f11) _ _ _ false eok (by kernel_rfl) (by kernel_rfl) Try.call11 (by kernel_rfl) (fun _ => by kernel_rfl) (fun _ => by kernel_rfl) ?_
  conv => whnf
  repeat' first
    | (refine call_if (mod_spec _ _) (by first | exact .inl rfl | exact .inr ⟨rfl, rfl⟩) (need_intro ?_ ?_); (conv => whnf))
    | (refine bc_true (by assumption) ?_; (conv => whnf))
    | (refine bc_false (by assumption) ?_; (conv => whnf))
    | (refine bc_intro (fun _ => ?_) (fun _ => ?_) <;> (conv => whnf))
    | (refine need_intro ?_ ?_; (conv => whnf))
    | (refine wk_refl ?_; (conv => whnf))
    | (refine draw_intro (by kernel_rfl) ?_; (conv => whnf))
    | (refine ord_intro (by kernel_rfl) ?_; (conv => whnf))
  all_goals try simp only [w1, w2, decide_eq_true_eq, decide_eq_false_iff_not] at *
  · exact ⟨(0, a), ⟨⟨Int.le_refl 0, .inr rfl⟩, h⟩, LeS.refl _, LeL.refl _, trivial⟩
  · exact ⟨(0, a), ⟨⟨Int.le_refl 0, .inr rfl⟩, h⟩, LeS.refl _, LeL.refl _, trivial⟩
  · refine ⟨(_, _), ?_, LeS.refl _, LeL.refl _, trivial⟩
    exact ⟨⟨Int.emod_nonneg _ (by omega), .inl (Int.emod_lt_of_pos _ (by omega))⟩, ⟨h1, by simp only; omega, h.h3⟩⟩
  · exact ⟨⟨by omega, by omega⟩, h.get (by omega)⟩
  · exact ⟨by omega, by omega⟩
theorem next_ex (m : Nat) {l : List Int} {a : Nat} {n : Int} : (TapeOk l a ∧ -9223372036854775808 ≤ n ∧ n < 9223372036854775808) →
    ∃ x : Int × Nat, ((0 ≤ x.1 ∧ (x.1 < n ∨ x.1 = 0)) ∧ TapeOk l x.2) ∧ Sx.Spec Try.prog GG 11 [.ptr m 0, .d (.int .i64 n)] [(m, tapeB l a)] (.d (.int .i64 x.1)) [(m, tapeB l x.2)] := fun h => by
  obtain ⟨x, hx, hs⟩ := next0 (n := n) h
  exact ⟨x, hx, hs.at m⟩
theorem bool0 {l : List Int} {a : Nat} {n : Int} : (TapeOk l a ∧ 0 ≤ n ∧ n < 9223372036854775808) →
    ∃ x : Bool × Nat, TapeOk l x.2 ∧ Sx.Spec Try.prog GG 15 [.ptr 1000 0, .d (.int .i64 n)] [(1000, tapeB l a)] (.d (.bool x.1)) [(1000, tapeB l x.2)] := by
  rintro ⟨h, hn⟩
  refine spec_some (E := EE) (fn := Try.f15) _ _ _ false eok (by kernel_rfl) (by kernel_rfl) Try.call15 (by kernel_rfl) (fun _ => by kernel_rfl) (fun _ => by kernel_rfl) ?_
  conv => whnf
  repeat' first
    | (refine call_some_if (next_ex _) (fun _ => by first | exact .inl rfl | exact .inr ⟨rfl, rfl⟩) (need_intro ?_ ?_); rintro ⟨v, b⟩ ⟨⟨h1, h2⟩, h3⟩; (conv => whnf))
    | (refine bc_true (by assumption) ?_; (conv => whnf))
    | (refine bc_false (by assumption) ?_; (conv => whnf))
    | (refine bc_intro (fun _ => ?_) (fun _ => ?_) <;> (conv => whnf))
    | (refine need_intro ?_ ?_; (conv => whnf))
    | (refine wk_refl ?_; (conv => whnf))
    | (refine draw_intro (by kernel_rfl) ?_; (conv => whnf))
    | (refine ord_intro (by kernel_rfl) ?_; (conv => whnf))
  · exact ⟨(_, _), h3, LeS.refl _, LeL.refl _, trivial⟩
  · exact ⟨h, by omega, hn.2⟩
theorem bool_ex (m : Nat) {l : List Int} {a : Nat} {n : Int} : (TapeOk l a ∧ 0 ≤ n ∧ n < 9223372036854775808) →
    ∃ x : Bool × Nat, TapeOk l x.2 ∧ Sx.Spec Try.prog GG 15 [.ptr m 0, .d (.int .i64 n)] [(m, tapeB l a)] (.d (.bool x.1)) [(m, tapeB l x.2)] := fun h => by
  obtain ⟨x, hx, hs⟩ := bool0 (n := n) h
  exact ⟨x, hx, hs.at m⟩
/-! letters -/
theorem long_ex {s : List UInt8} {n : Int} : (s.length ≤ 1 ∧ 0 ≤ n ∧ n ≤ 100) → ∃ x : List UInt8, (x.length : Int) ≤ n ∧ Sx.Spec Try.prog GG 33 [.d (.str s), .d (.int .i64 n)] [] (.d (.str x)) [] := by
  rintro ⟨hs, hn⟩
  refine spec_some (E := EE) (fn := Try.f33) _ _ _ false eok (by kernel_rfl) (by kernel_rfl) Try.call33 (by kernel_rfl) (fun _ => by kernel_rfl) (fun _ => by kernel_rfl) ?_
  conv => whnf
  repeat' first
    | (refine bc_true (by assumption) ?_; (conv => whnf))
    | (refine bc_false (by assumption) ?_; (conv => whnf))
    | (refine bc_intro (fun _ => ?_) (fun _ => ?_) <;> (conv => whnf))
    | (refine need_intro ?_ ?_; (conv => whnf))
    | (refine wk_refl ?_; (conv => whnf))
    | (refine draw_intro (by kernel_rfl) ?_; (conv => whnf))
    | (refine ord_intro (by kernel_rfl) ?_; (conv => whnf))
  refine loop_auto [0, 0 + 1] [] (fun x : Nat × List UInt8 => [(5, .d (.str x.2)), (6, .d (.int .i64 x.1))]) (fun _ => []) (fun x => (x.1 : Int) ≤ n ∧ (x.2.length : Int) ≤ x.1) (fun x => n.toNat - x.1) (0, []) ?_ (fun x hx => ?_) ⟨by simp; omega, by simp⟩
  · conv => whnf
    repeat' first
      | (refine bc_true (by assumption) ?_; (conv => whnf))
      | (refine bc_false (by assumption) ?_; (conv => whnf))
      | (refine bc_intro (fun _ => ?_) (fun _ => ?_) <;> (conv => whnf))
      | (refine need_intro ?_ ?_; (conv => whnf))
      | (refine wk_refl ?_; (conv => whnf))
      | (refine draw_intro (by kernel_rfl) ?_; (conv => whnf))
      | (refine ord_intro (by kernel_rfl) ?_; (conv => whnf))
    all_goals first | exact ⟨rfl, rfl⟩ | exact ⟨rfl, rfl, rfl⟩ | exact DLe.refl _ | exact RowLe.refl _ _ _ | exact trivial
  · have e1 : IntKind.i64.wrap ((x.1 : Int) + 1) = ((x.1 + 1 : Nat) : Int) := wrap_succ (n := 101) (by omega) (by omega)
    conv => whnf
    repeat' first
      | (refine NextVC.mk (x.1 + 1, x.2 ++ s) ?_ ?_ ?_; (conv => whnf))
      | (refine bc_true (by assumption) ?_; (conv => whnf))
      | (refine bc_false (by assumption) ?_; (conv => whnf))
      | (refine bc_intro (fun _ => ?_) (fun _ => ?_) <;> (conv => whnf))
      | (refine need_intro ?_ ?_; (conv => whnf))
      | (refine wk_refl ?_; (conv => whnf))
      | (refine draw_intro (by kernel_rfl) ?_; (conv => whnf))
      | (refine ord_intro (by kernel_rfl) ?_; (conv => whnf))
    all_goals try simp only [decide_eq_true_eq, decide_eq_false_iff_not, List.length_append] at *
    all_goals first
      | exact trivial
      | omega
      | exact DLe.refl _
      | exact DLe.of_eq (by rw [e1])
      | exact ⟨by omega, by omega⟩
      | (refine ⟨x.2, ?_, LeS.refl _, trivial⟩; omega)
theorem value0 {l : List Int} {a : Nat} : TapeOk l a → ∃ x : List UInt8 × Nat, ((x.1.length : Int) ≤ 64 ∧ TapeOk l x.2) ∧ Sx.Spec Try.prog GG 14 [.ptr 1000 0] [(1000, tapeB l a)] (.d (.str x.1)) [(1000, tapeB l x.2)] := by
  intro h
  refine spec_some (E := EE) (fn := Try.f14) _ _ _ false eok (by kernel_rfl) (by kernel_rfl) Try.call14 (by kernel_rfl) (fun _ => by kernel_rfl) (fun _ => by kernel_rfl) ?_
  conv => whnf
  repeat' first
    | (refine call_some_if (next_ex _) (fun _ => by first | exact .inl rfl | exact .inr ⟨rfl, rfl⟩) (need_intro ?_ ?_); rintro ⟨v, b⟩ ⟨⟨h1, h2⟩, h3⟩; (conv => whnf))
    | (refine call_some_if (long_ex) (fun _ => by first | exact .inl rfl | exact .inr ⟨rfl, rfl⟩) (need_intro ?_ ?_); rintro x hx; (conv => whnf))
    | (refine bc_true (by assumption) ?_; (conv => whnf))
    | (refine bc_false (by assumption) ?_; (conv => whnf))
    | (refine bc_intro (fun _ => ?_) (fun _ => ?_) <;> (conv => whnf))
    | (refine need_intro ?_ ?_; (conv => whnf))
    | (refine wk_refl ?_; (conv => whnf))
    | (refine draw_intro (by kernel_rfl) ?_; (conv => whnf))
    | (refine ord_intro (by kernel_rfl) ?_; (conv => whnf))
  all_goals try simp only [decide_eq_true_eq, decide_eq_false_iff_not, beq_iff_eq, beq_eq_false_iff_ne, letterS_len] at *
  all_goals try first
    | assumption
    | exact ⟨by assumption, by omega, by omega⟩
    | exact ⟨by omega, by omega, by omega⟩
    | exact ⟨by omega, by omega⟩
  all_goals try first
    | (refine ⟨(_, _), ⟨?_, by assumption⟩, LeS.refl _, LeL.refl _, trivial⟩; first | assumption | (simp; done))
    | exact ⟨by simp, by omega, by omega⟩
    | exact ⟨by simp; omega, by simp; omega⟩
  rename_i v _ _ _ _ _ _
  have hv : v = 0 ∨ v = 1 ∨ v = 2 ∨ v = 3 ∨ v = 4 ∨ v = 5 := by omega
  rcases hv with rfl | rfl | rfl | rfl | rfl | rfl <;> (refine ⟨(_, _), ⟨?_, by assumption⟩, LeS.refl _, LeL.refl _, trivial⟩; simp)
/-! more of the tape -/
theorem value_ex (m : Nat) {l : List Int} {a : Nat} : TapeOk l a → ∃ x : List UInt8 × Nat, ((x.1.length : Int) ≤ 64 ∧ TapeOk l x.2) ∧ Sx.Spec Try.prog GG 14 [.ptr m 0] [(m, tapeB l a)] (.d (.str x.1)) [(m, tapeB l x.2)] := fun h => by
  obtain ⟨x, hx, hs⟩ := value0 h
  exact ⟨x, hx, hs.at m⟩
/-- a table of at most n rows whose keys a range contains -/
structure RowsQ (lk : List UInt8) (lt : Bool) (hk : List UInt8) (ht : Bool) (n : Int) (rows : List Row) : Prop where
  ok : TabOk rows
  len : (rows.length : Int) ≤ n
  within : ∀ r ∈ rows, containsR lk lt hk ht r.1 = true
theorem RowsQ.nil {lk : List UInt8} {lt : Bool} {hk : List UInt8} {ht : Bool} {n : Int} (h : 0 ≤ n) : RowsQ lk lt hk ht n [] := ⟨tabOk_nil, by simpa using h, by simp⟩
theorem RowsQ.put {lk : List UInt8} {lt : Bool} {hk : List UInt8} {ht : Bool} {n : Int} {rows : List Row} {k v : List UInt8} (h : RowsQ lk lt hk ht n rows) (hc : containsR lk lt hk ht k = true) : RowsQ lk lt hk ht (n + 1) (putF rows k v).1 := by
  have hp := put_ok (k := k) (v := v) h.ok
  have hl := h.len
  refine ⟨hp.1, by omega, fun r hr => ?_⟩
  unfold putF at hr
  split at hr
  · simp at hr
  · split at hr
    · simp at hr
    · rcases ins_mem.1 hr with rfl | hr
      · exact hc
      · exact h.within r (without_ne hr).1
/-- a new tape -/
theorem new_ex (m : Nat) {l : List Int} (hl : ∀ x ∈ l, -9223372036854775808 ≤ x ∧ x < 9223372036854775808) : ∃ x : List Int × Nat, TapeOk x.1 x.2 ∧
    Sx.Spec Try.prog GG 9 [.d (encL encI 1 l)] [] (.ptr m 0) [(m, tapeB x.1 x.2)] := by
  have key : ∃ x : List Int × Nat, TapeOk x.1 x.2 ∧ Sx.Spec Try.prog GG 9 [.d (encL encI 1 l)] [] (.ptr 1000 0) [(1000, tapeB x.1 x.2)] := by
    refine spec_some (E := EE) (fn := Try.f9) _ _ _ true eok (by kernel_rfl) (by kernel_rfl) Try.call9 (by kernel_rfl) (fun _ => by kernel_rfl) (fun _ => by kernel_rfl) ?_
    conv => whnf
    repeat' first
      | (refine bc_true (by assumption) ?_; (conv => whnf))
      | (refine bc_false (by assumption) ?_; (conv => whnf))
      | (refine bc_intro (fun _ => ?_) (fun _ => ?_) <;> (conv => whnf))
      | (refine need_intro ?_ ?_; (conv => whnf))
      | (refine wk_refl ?_; (conv => whnf))
      | (refine draw_intro (by kernel_rfl) ?_; (conv => whnf))
      | (refine ord_intro (by kernel_rfl) ?_; (conv => whnf))
    all_goals simp only [decide_eq_true_eq, decide_eq_false_iff_not] at *
    · refine ⟨(l.take 600, 0), ⟨by simp; omega, by simp, fun x hx => hl x (List.mem_of_mem_take hx)⟩, ?_⟩
      conv => whnf
      repeat' first
        | (refine bc_true (by assumption) ?_; (conv => whnf))
        | (refine bc_false (by assumption) ?_; (conv => whnf))
        | (refine bc_intro (fun _ => ?_) (fun _ => ?_) <;> (conv => whnf))
        | (refine need_intro ?_ ?_; (conv => whnf))
        | (refine wk_refl ?_; (conv => whnf))
        | (refine draw_intro (by kernel_rfl) ?_; (conv => whnf))
        | (refine ord_intro (by kernel_rfl) ?_; (conv => whnf))
      all_goals first
        | exact trivial
        | exact DLe.refl _
        | (refine DLe.rows (by simp; omega) (.of_eq fun i j hi hj => ?_)
           have hi : i < 600 := by simp at hi; omega
           simp [cellOf, List.getD, List.getElem?_take, hi])
    · simp
      omega
    · refine ⟨(l, 0), ⟨by simp only; omega, by simp, hl⟩, ?_⟩
      conv => whnf
      repeat' first
        | (refine bc_true (by assumption) ?_; (conv => whnf))
        | (refine bc_false (by assumption) ?_; (conv => whnf))
        | (refine bc_intro (fun _ => ?_) (fun _ => ?_) <;> (conv => whnf))
        | (refine need_intro ?_ ?_; (conv => whnf))
        | (refine wk_refl ?_; (conv => whnf))
        | (refine draw_intro (by kernel_rfl) ?_; (conv => whnf))
        | (refine ord_intro (by kernel_rfl) ?_; (conv => whnf))
      all_goals first
        | exact trivial
        | exact DLe.refl _
  obtain ⟨x, hx, hs⟩ := key
  exact ⟨x, hx, hs.new1 m⟩
theorem ex_rows {l : List Int} {b n N : Nat} {g : Nat → Nat → D} {o : List (Nat × Blk)} (hT : TapeOk l b) (hn : n ≤ N) (ho : lookO o 1000 = some (tapeB l b)) (h : ∀ i, i < n → ∃ k v, g i 0 = .str k ∧ g i 1 = .str v) :
    ∃ x : List Row × Nat, (x.1.length ≤ N ∧ TapeOk l x.2) ∧ Fin (.d (.list n 2 g)) o (.d (encL encRow 2 x.1)) [(1000, tapeB l x.2)] := by
  obtain ⟨xs, e1, e2⟩ := rows_of h
  refine ⟨(xs, b), ⟨by simp only; omega, hT⟩, e2, ?_⟩
  simp only [postK, ho]
  exact ⟨LeL.refl _, trivial⟩
def encLse (x : LseT) : List D := [.str x.key, .str x.val, .bool x.has, encL encI 1 x.hold, encL encI 1 x.fly, .bool x.wait, .str x.nxt.1, .str x.nxt.2.1, .bool x.nxt.2.2]
abbrev lseL (x : LseT) : List SV := [.d (.str x.key), .d (.str x.val), .d (.bool x.has), .d (encL encI 1 x.hold), .d (encL encI 1 x.fly), .d (.bool x.wait), .d (.str x.nxt.1), .d (.str x.nxt.2.1), .d (.bool x.nxt.2.2)]
abbrev wrL (w : Wr) : List SV := [.d (.str w.1), .d (.str w.2.1), .d (.bool w.2.2)]
theorem cellsLse : Try.prog.cellsOf 61 = 9 := by kernel_rfl
theorem bytesLse : Try.prog.bytesOf 61 = 136 := by kernel_rfl
theorem cellsI : Try.prog.cellsOf 3 = 1 := by kernel_rfl
theorem bytesI : Try.prog.bytesOf 3 = 8 := by kernel_rfl
theorem validWp_spec (k v : List UInt8) (d : Bool) : Sx.Spec Try.prog GG 29 [.agg [.d (.str k), .d (.str v), .d (.bool d)]] [] (.d (.bool (validW k v d))) [] := by
  refine spec_intro (E := EE) (fn := Try.f29) eok (by kernel_rfl) (by kernel_rfl) Try.call29 (by kernel_rfl) (by kernel_rfl) ?_
  conv => whnf
  repeat' first
    | (refine call_intro (validKeyp_spec _) ?_ (by first | exact .inl rfl | exact .inr ⟨rfl, rfl⟩); (conv => whnf))
    | (refine bc_true (by assumption) ?_; (conv => whnf))
    | (refine bc_false (by assumption) ?_; (conv => whnf))
    | (refine bc_intro (fun _ => ?_) (fun _ => ?_) <;> (conv => whnf))
    | (refine need_intro ?_ ?_; (conv => whnf))
    | (refine wk_refl ?_; (conv => whnf))
    | (refine draw_intro (by kernel_rfl) ?_; (conv => whnf))
    | (refine ord_intro (by kernel_rfl) ?_; (conv => whnf))
  all_goals exact ⟨LeS.of_eq (by first | (simp_all [validW]; done) | (simp_all [validW]; omega) | (simp_all [validW]; intros; omega)), trivial⟩
theorem validWr_spec (k v : List UInt8) (d : Bool) : Sx.Spec Try.prog GG 43 [.agg [.d (.str k), .d (.str v), .d (.bool d)]] [] (.d (.bool (validW k v d))) [] := by
  refine spec_intro (E := EE) (fn := Try.f43) eok (by kernel_rfl) (by kernel_rfl) Try.call43 (by kernel_rfl) (by kernel_rfl) ?_
  conv => whnf
  repeat' first
    | (refine call_intro (validKeyr_spec _) ?_ (by first | exact .inl rfl | exact .inr ⟨rfl, rfl⟩); (conv => whnf))
    | (refine bc_true (by assumption) ?_; (conv => whnf))
    | (refine bc_false (by assumption) ?_; (conv => whnf))
    | (refine bc_intro (fun _ => ?_) (fun _ => ?_) <;> (conv => whnf))
    | (refine need_intro ?_ ?_; (conv => whnf))
    | (refine wk_refl ?_; (conv => whnf))
    | (refine draw_intro (by kernel_rfl) ?_; (conv => whnf))
    | (refine ord_intro (by kernel_rfl) ?_; (conv => whnf))
  all_goals exact ⟨LeS.of_eq (by first | (simp_all [validW]; done) | (simp_all [validW]; omega) | (simp_all [validW]; intros; omega)), trivial⟩
theorem numberedp_spec (n : Int) : Sx.Spec Try.prog GG 21 [.d (.int .i64 n)] [] (.d (.bool (numOk n))) [] := by
  refine spec_intro (E := EE) (fn := Try.f21) eok (by kernel_rfl) (by kernel_rfl) Try.call21 (by kernel_rfl) (by kernel_rfl) ?_
  conv => whnf
  repeat' first
    | (refine bc_true (by assumption) ?_; (conv => whnf))
    | (refine bc_false (by assumption) ?_; (conv => whnf))
    | (refine bc_intro (fun _ => ?_) (fun _ => ?_) <;> (conv => whnf))
    | (refine need_intro ?_ ?_; (conv => whnf))
    | (refine wk_refl ?_; (conv => whnf))
    | (refine draw_intro (by kernel_rfl) ?_; (conv => whnf))
    | (refine ord_intro (by kernel_rfl) ?_; (conv => whnf))
  all_goals exact ⟨LeS.of_eq (by first | (simp_all [numOk]; done) | (simp_all [numOk]; omega)), trivial⟩
theorem has_at {l : List Int} {n : Int} {i : Nat} (h : i < l.length) : (l.drop i).contains n = (l.getD i default == n || (l.drop (i + 1)).contains n) := by
  rw [drop_cons' h, List.contains_cons]
  congr 1
  rw [Bool.eq_iff_iff]; simp only [beq_iff_eq]; exact eq_comm
theorem has_done {l : List Int} {n : Int} {i : Nat} (h : l.length ≤ i) : (l.drop i).contains n = false := by
  rw [List.drop_eq_nil_of_le h]; rfl
theorem hasp_spec (l : List Int) (n : Int) : l.length ≤ 4294967296 → Sx.Spec Try.prog GG 26 [.d (encL encI 1 l), .d (.int .i64 n)] [] (.d (.bool (l.contains n))) [] := by
  intro hl
  refine spec_intro (E := EE) (fn := Try.f26) eok (by kernel_rfl) (by kernel_rfl) Try.call26 (by kernel_rfl) (by kernel_rfl) ?_
  conv => whnf
  repeat' first
    | (refine bc_true (by assumption) ?_; (conv => whnf))
    | (refine bc_false (by assumption) ?_; (conv => whnf))
    | (refine need_intro ?_ ?_; (conv => whnf))
    | (refine wk_refl ?_; (conv => whnf))
    | (refine draw_intro (by kernel_rfl) ?_; (conv => whnf))
    | (refine ord_intro (by kernel_rfl) ?_; (conv => whnf))
  refine loop_auto [1, 7, 8] [] (fun i : Nat => [(9, .d (.int .i64 i))]) (fun i => []) (fun i => i ≤ l.length ∧ l.contains n = (l.drop i).contains n) (fun i => l.length - i) 0 ?_ (fun i hi => ?_) ⟨by omega, by simp⟩
  · conv => whnf
    repeat' first
      | (refine bc_true (by assumption) ?_; (conv => whnf))
      | (refine bc_false (by assumption) ?_; (conv => whnf))
      | (refine bc_intro (fun _ => ?_) (fun _ => ?_) <;> (conv => whnf))
      | (refine need_intro ?_ ?_; (conv => whnf))
      | (refine wk_refl ?_; (conv => whnf))
      | (refine draw_intro (by kernel_rfl) ?_; (conv => whnf))
      | (refine ord_intro (by kernel_rfl) ?_; (conv => whnf))
    all_goals first | exact trivial | exact DLe.refl _ | exact DLe.nil | exact RowLe.refl _ _ _ | exact ⟨rfl, rfl⟩ | exact ⟨rfl, rfl, rfl⟩ | trace_state
  · obtain ⟨hi, hc⟩ := hi
    have hs : IntKind.i64.wrap ((i : Int) + 1) = ((i + 1 : Nat) : Int) := wrap_succ (n := 4294967297) (by omega) (by omega)
    conv => whnf
    repeat' first
      | (refine NextVC.mk (i + 1) ?_ ?_ ?_; (conv => whnf))
      | (refine bc_true (by assumption) ?_; (conv => whnf))
      | (refine bc_false (by assumption) ?_; (conv => whnf))
      | (refine bc_intro (fun _ => ?_) (fun _ => ?_) <;> (conv => whnf))
      | (refine need_intro ?_ ?_; (conv => whnf))
      | (refine wk_refl ?_; (conv => whnf))
      | (refine draw_intro (by kernel_rfl) ?_; (conv => whnf))
      | (refine ord_intro (by kernel_rfl) ?_; (conv => whnf))
    all_goals try simp only [cellsLse, bytesLse, cellsI, bytesI, true_and, and_true, decide_eq_true_eq, decide_eq_false_iff_not, beq_iff_eq, bne_iff_ne, beq_eq_false_iff_ne, bne_eq_false_iff_eq, ne_eq, Decidable.not_not, Bool.not_eq_true', Bool.not_eq_false', Int.toNat_natCast] at *
    all_goals first
      | exact trivial
      | omega
      | exact DLe.refl _
      | exact DLe.of_eq (by rw [hs])
      | exact ⟨by omega, by omega⟩
      | (refine ⟨by omega, ?_⟩
         rw [hc, has_at (by omega)]
         have hx : (l.getD i default == n) = false := by simpa using ‹_›
         rw [hx]; rfl)
      | (refine ⟨LeS.of_eq ?_, trivial⟩
         rw [hc, has_at (by omega)]
         have hx : (l.getD i default == n) = true := by simpa using ‹_›
         rw [hx]; rfl)
      | (refine ⟨LeS.of_eq ?_, trivial⟩
         rw [hc, has_done (by omega)])
      | trace_state
theorem ascendp_spec (l : List Int) : l.length ≤ 4294967296 → Sx.Spec Try.prog GG 36 [.d (encL encI 1 l)] [] (.d (.bool (ascN l))) [] := by
  intro hl
  refine spec_intro (E := EE) (fn := Try.f36) eok (by kernel_rfl) (by kernel_rfl) Try.call36 (by kernel_rfl) (by kernel_rfl) ?_
  conv => whnf
  repeat' first
    | (refine bc_true (by assumption) ?_; (conv => whnf))
    | (refine bc_false (by assumption) ?_; (conv => whnf))
    | (refine need_intro ?_ ?_; (conv => whnf))
    | (refine wk_refl ?_; (conv => whnf))
    | (refine draw_intro (by kernel_rfl) ?_; (conv => whnf))
    | (refine ord_intro (by kernel_rfl) ?_; (conv => whnf))
  refine loop_auto [0, 5, 6] [] (fun i : Nat => [(7, .d (.int .i64 i))]) (fun i => []) (fun i => i ≤ l.length ∧ ∀ j, j < i → okN l j = true) (fun i => l.length - i) 0 ?_ (fun i hi => ?_) ⟨by omega, fun j hj => absurd hj (Nat.not_lt_zero j)⟩
  · conv => whnf
    repeat' first
      | (refine bc_true (by assumption) ?_; (conv => whnf))
      | (refine bc_false (by assumption) ?_; (conv => whnf))
      | (refine bc_intro (fun _ => ?_) (fun _ => ?_) <;> (conv => whnf))
      | (refine need_intro ?_ ?_; (conv => whnf))
      | (refine wk_refl ?_; (conv => whnf))
      | (refine draw_intro (by kernel_rfl) ?_; (conv => whnf))
      | (refine ord_intro (by kernel_rfl) ?_; (conv => whnf))
    all_goals first | exact trivial | exact DLe.refl _ | exact DLe.nil | exact RowLe.refl _ _ _ | exact ⟨rfl, rfl⟩ | exact ⟨rfl, rfl, rfl⟩ | trace_state
  · obtain ⟨hi, hc⟩ := hi
    have hs : IntKind.i64.wrap ((i : Int) + 1) = ((i + 1 : Nat) : Int) := wrap_succ (n := 4294967297) (by omega) (by omega)
    have hw : 0 < i → IntKind.i64.wrap ((i : Int) - 1) = ((i - 1 : Nat) : Int) := fun h => by rw [wrap_of (by omega) (by omega)]; omega
    have hcl : okN l i = (numOk (l.getD i default) && (i == 0 || decide (l.getD (i - 1) default < l.getD i default))) := rfl
    conv => whnf
    repeat' first
      | (refine call_intro (numberedp_spec _) ?_ (by first | exact .inl rfl | exact .inr ⟨rfl, rfl⟩); (conv => whnf))
      | (refine NextVC.mk (i + 1) ?_ ?_ ?_; (conv => whnf))
      | (refine bc_true (by assumption) ?_; (conv => whnf))
      | (refine bc_false (by assumption) ?_; (conv => whnf))
      | (refine bc_intro (fun _ => ?_) (fun _ => ?_) <;> (conv => whnf))
      | (refine need_intro ?_ ?_; (conv => whnf))
      | (refine wk_refl ?_; (conv => whnf))
      | (refine draw_intro (by kernel_rfl) ?_; (conv => whnf))
      | (refine ord_intro (by kernel_rfl) ?_; (conv => whnf))
    all_goals try simp only [cellsLse, bytesLse, cellsI, bytesI, true_and, and_true, decide_eq_true_eq, decide_eq_false_iff_not, beq_iff_eq, bne_iff_ne, beq_eq_false_iff_ne, bne_eq_false_iff_eq, ne_eq, Decidable.not_not, Bool.not_eq_true', Bool.not_eq_false', Int.toNat_natCast] at *
    all_goals try rw [hw (by omega)] at *
    all_goals try simp only [cellsLse, bytesLse, cellsI, bytesI, true_and, and_true, decide_eq_true_eq, decide_eq_false_iff_not, beq_iff_eq, bne_iff_ne, beq_eq_false_iff_ne, bne_eq_false_iff_eq, ne_eq, Decidable.not_not, Bool.not_eq_true', Bool.not_eq_false', Int.toNat_natCast] at *
    all_goals first
      | exact trivial
      | omega
      | exact DLe.refl _
      | exact DLe.of_eq (by rw [hs])
      | exact ⟨by omega, by omega⟩
      | (refine ⟨by omega, fun j hj => ?_⟩
         by_cases e : j = i
         · subst e
           rw [hcl]
           by_cases h0 : j = 0
           · simp_all
           · have : 0 < j := by omega
             simp_all
         · exact hc j (by omega))
      | (refine ⟨LeS.of_eq ?_, trivial⟩
         refine congrArg (fun b => SV.d (.bool b)) (Eq.symm (allR_false (i := i) (by omega) ?_))
         rw [hcl]
         by_cases h0 : i = 0
         · simp_all
         · have : 0 < i := by omega
           simp_all
           done)
      | (refine ⟨LeS.of_eq ?_, trivial⟩
         exact congrArg (fun b => SV.d (.bool b)) (Eq.symm (allR_true (fun j hj => hc j (by omega)))))
      | trace_state
theorem fitsp_spec (v : List UInt8) (has : Bool) : Sx.Spec Try.prog GG 23 [.d (.str v), .d (.bool has)] [] (.d (.bool (fitsV v has))) [] := by
  refine spec_intro (E := EE) (fn := Try.f23) eok (by kernel_rfl) (by kernel_rfl) Try.call23 (by kernel_rfl) (by kernel_rfl) ?_
  conv => whnf
  repeat' first
    | (refine bc_true (by assumption) ?_; (conv => whnf))
    | (refine bc_false (by assumption) ?_; (conv => whnf))
    | (refine bc_intro (fun _ => ?_) (fun _ => ?_) <;> (conv => whnf))
    | (refine need_intro ?_ ?_; (conv => whnf))
    | (refine wk_refl ?_; (conv => whnf))
    | (refine draw_intro (by kernel_rfl) ?_; (conv => whnf))
    | (refine ord_intro (by kernel_rfl) ?_; (conv => whnf))
  all_goals exact ⟨LeS.of_eq (by first | (simp_all [fitsV]; done) | (simp_all [fitsV]; omega)), trivial⟩
theorem keptp_spec (x : LseT) : (x.hold.length ≤ 4294967296 ∧ x.fly.length ≤ 4294967296) → Sx.Spec Try.prog GG 31 [.agg (lseL x)] [] (.d (.bool (keptL x))) [] := by
  rintro ⟨h1, h2⟩
  have hw : IntKind.i64.wrap ((x.hold.length : Int) + (x.fly.length : Int)) = (x.hold.length : Int) + x.fly.length := wrap_of (by omega) (by omega)
  refine spec_intro (E := EE) (fn := Try.f31) eok (by kernel_rfl) (by kernel_rfl) Try.call31 (by kernel_rfl) (by kernel_rfl) ?_
  conv => whnf
  repeat' first
    | (refine bc_true (by assumption) ?_; (conv => whnf))
    | (refine bc_false (by assumption) ?_; (conv => whnf))
    | (refine bc_intro (fun _ => ?_) (fun _ => ?_) <;> (conv => whnf))
    | (refine need_intro ?_ ?_; (conv => whnf))
    | (refine wk_refl ?_; (conv => whnf))
    | (refine draw_intro (by kernel_rfl) ?_; (conv => whnf))
    | (refine ord_intro (by kernel_rfl) ?_; (conv => whnf))
  all_goals try rw [hw]
  all_goals exact ⟨LeS.of_eq (by first | (simp_all [keptL]; done) | (simp_all [keptL]; omega)), trivial⟩
end Go.Proofs.Ytggehonedmbnjaa
