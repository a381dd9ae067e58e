/- Contracts of functions that the law reaches: YtiadnhbclipmhaaGreatDoorTPBase. Written for this claim. -/
import Derived.Test.YtiadnhbclipmhaaGreatDoorSxTop
import Derived.Test.YtiadnhbclipmhaaGreatDoorSxArg
import Derived.Test.YtiadnhbclipmhaaGreatDoorSxTab
import Derived.Test.YtiadnhbclipmhaaGreatDoorRows
import Derived.Test.YtiadnhbclipmhaaGreatDoorProg
namespace Go.Proofs.YtiadnhbclipmhaaGreatDoor
open Go Go.Sx Go.ChangeShapes Go.WideShapes Go.ChangeAt Go.RowKit
set_option linter.unusedVariables false
set_option linter.unusedSimpArgs false
set_option maxRecDepth 100000
abbrev EE : List Nat := [31, 64, 58, 77, 7000000, 6000000 + 33, 6000000 + 32, 6000000 + 102, 6000000 + 69, 6000000 + 72, 6000000 + 128, 6000000 + 119, 6000000 + 120]
theorem eok : EOk Tryz.prog EE := by
  refine ⟨by kernel_rfl, ?_⟩
  intro T hT
  simp only [memN_iff] at hT
  simp only [List.mem_cons, List.not_mem_nil, or_false] at hT
  rcases hT with rfl | rfl | rfl | rfl | rfl | rfl | rfl | rfl | rfl | rfl | rfl | rfl | rfl <;> exact ⟨by kernel_rfl, by kernel_rfl⟩
def letterS : Nat → List UInt8
  | 0 => [97]
  | 1 => [98]
  | 2 => [99]
  | 3 => [0]
  | 4 => [255]
  | _ => [109]
theorem letterS_len : ∀ n, (letterS n).length = 1
  | 0 => rfl
  | 1 => rfl
  | 2 => rfl
  | 3 => rfl
  | 4 => rfl
  | _ + 5 => rfl
def tz32 (n : Nat) : Int := ([0, 1, 28, 2, 29, 14, 24, 3, 30, 22, 20, 15, 25, 17, 4, 8, 31, 27, 13, 23, 21, 19, 16, 7, 26, 12, 18, 6, 11, 5, 10, 9] : List Int).getD n 0
def GG : Nat → Option (Nat × (Nat → D))
  | 0 => some (6, fun j => .str (letterS j))
  | 1 => some (32, fun j => .int .u8 (tz32 j))
  | _ => none
theorem validKeyp_spec (k : List UInt8) : Sx.Spec Tryz.prog GG 56 [.d (.str k)] [] (.d (.bool (decide ((k.length : Int) ≤ 64)))) [] := by
  refine spec_intro (E := EE) (fn := Tryz.f56) eok (by kernel_rfl) (by kernel_rfl) Tryz.call56 (by kernel_rfl) (by kernel_rfl) ?_
  conv => whnf
  repeat' first | ((first | refine Bt ?_ | refine Bf ?_ | refine Ni ?_ ?_ | refine Wq ?_ | refine Di ?_ | refine Oi ?_); conv => whnf) | (refine bc_intro (fun _ => ?_) (fun _ => ?_) <;> (conv => whnf))
  exact ⟨LeS.refl _, trivial⟩
theorem validKeyr_spec (k : List UInt8) : Sx.Spec Tryz.prog GG 85 [.d (.str k)] [] (.d (.bool (decide ((k.length : Int) ≤ 64)))) [] := by
  refine spec_intro (E := EE) (fn := Tryz.f85) eok (by kernel_rfl) (by kernel_rfl) Tryz.call85 (by kernel_rfl) (by kernel_rfl) ?_
  conv => whnf
  repeat' first | ((first | refine Bt ?_ | refine Bf ?_ | refine Ni ?_ ?_ | refine Wq ?_ | refine Di ?_ | refine Oi ?_); conv => whnf) | (refine bc_intro (fun _ => ?_) (fun _ => ?_) <;> (conv => whnf))
  exact ⟨LeS.refl _, trivial⟩
def encI (n : Int) : List D := [.int .i64 n]
structure TapeOk (l : List Int) (a : Nat) : Prop where
  h1 : l.length ≤ 600
  h2 : a ≤ l.length
  h3 : ∀ x ∈ l, -9223372036854775808 ≤ x ∧ x < 9223372036854775808
abbrev tapeB (l : List Int) (a : Nat) : Blk := .box [.d (encL encI 1 l), .d (.int .i64 a)]
theorem TapeOk.get {l : List Int} {a i : Nat} (h : TapeOk l a) (hi : i < l.length) : -9223372036854775808 ≤ l.getD i default ∧ l.getD i default < 9223372036854775808 := by
  have : l.getD i default = l[i] := by simp [List.getD, hi]
  rw [this]
  exact h.h3 _ (List.getElem_mem hi)
theorem wrap_pred {n : Nat} (hn : n ≤ 9223372036854775806) : IntKind.i64.wrap (((n + 1 : Nat) : Int) - 1) = n := by
  rw [wrap_of (by omega) (by omega)]; omega
theorem mod_spec (v n : Int) : ((0 < n ∧ n < 9223372036854775808) ∧ -9223372036854775808 ≤ v ∧ v < 9223372036854775808) → Sx.Spec Tryz.prog GG 18 [.d (.int .i64 v), .d (.int .i64 n)] [] (.d (.int .i64 (v % n))) [] := by
  rintro ⟨hn, hv⟩
  have r1 := Int.tmod_lt_of_pos v hn.1
  have r2 := Int.lt_tmod_of_pos v hn.1
  have e0 : v % n = if v.tmod n < 0 then v.tmod n + n else v.tmod n := by
    have h1 := Int.tmod_add_mul_tdiv v n
    have h2 := Int.emod_add_mul_ediv v n
    have h3 := Int.emod_nonneg v (by omega : n ≠ 0)
    have h4 := Int.emod_lt_of_pos v hn.1
    rw [Int.tmod_eq_emod]
    split <;> split at * <;> omega
  refine spec_intro (E := EE) (fn := Tryz.f18) eok (by kernel_rfl) (by kernel_rfl) Tryz.call18 (by kernel_rfl) (by kernel_rfl) ?_
  conv => whnf
  repeat' first | ((first | refine Bt ?_ | refine Bf ?_ | refine Ni ?_ ?_ | refine Wq ?_ | refine Di ?_ | refine Oi ?_); conv => whnf) | (refine bc_intro (fun _ => ?_) (fun _ => ?_) <;> (conv => whnf))
  all_goals try simp only [decide_eq_true_eq, decide_eq_false_iff_not] at *
  all_goals first | omega | (refine ⟨LeS.of_eq ?_, trivial⟩; rw [wrap_of (by omega) (by omega), e0, if_pos (by assumption)]) | (refine ⟨LeS.of_eq ?_, trivial⟩; rw [e0, if_neg (by assumption)])
theorem next0 {l : List Int} {a : Nat} {n : Int} : (TapeOk l a ∧ -9223372036854775808 ≤ n ∧ n < 9223372036854775808) →
    ∃ x : Int × Nat, ((0 ≤ x.1 ∧ (x.1 < n ∨ x.1 = 0)) ∧ TapeOk l x.2) ∧ Sx.Spec Tryz.prog GG 6 [.ptr 1000 0, .d (.int .i64 n)] [(1000, tapeB l a)] (.d (.int .i64 x.1)) [(1000, tapeB l x.2)] := by
  rintro ⟨h, hn⟩
  have h1 := h.h1
  have h2 := h.h2
  have w1 : IntKind.i64.wrap ((a : Int) + 1) = ((a + 1 : Nat) : Int) := wrap_succ (n := 601) (by omega) (by omega)
  have w2 := wrap_pred (n := a) (by omega)
  refine spec_some (E := EE) (fn := Tryz.f6) _ _ _ false eok (by kernel_rfl) (by kernel_rfl) Tryz.call6 (by kernel_rfl) (fun _ => by kernel_rfl) (fun _ => by kernel_rfl) ?_
  conv => whnf
  repeat' first | ((first | refine Cf (mod_spec _ _) ?_ ?_ | refine Bt ?_ | refine Bf ?_ | refine Ni ?_ ?_ | refine Wq ?_ | refine Di ?_ | refine Oi ?_); conv => whnf) | (refine bc_intro (fun _ => ?_) (fun _ => ?_) <;> (conv => whnf))
  all_goals try simp only [w1, w2, decide_eq_true_eq, decide_eq_false_iff_not] at *
  · exact ⟨(0, a), ⟨⟨Int.le_refl 0, .inr rfl⟩, h⟩, LeS.refl _, LeL.refl _, trivial⟩
  · exact ⟨(0, a), ⟨⟨Int.le_refl 0, .inr rfl⟩, h⟩, LeS.refl _, LeL.refl _, trivial⟩
  · refine ⟨(_, _), ?_, LeS.refl _, LeL.refl _, trivial⟩
    exact ⟨⟨Int.emod_nonneg _ (by omega), .inl (Int.emod_lt_of_pos _ (by omega))⟩, ⟨h1, by simp only; omega, h.h3⟩⟩
  · exact ⟨⟨by omega, by omega⟩, h.get (by omega)⟩
  · exact ⟨by omega, by omega⟩
theorem next_ex (m : Nat) {l : List Int} {a : Nat} {n : Int} : (TapeOk l a ∧ -9223372036854775808 ≤ n ∧ n < 9223372036854775808) →
    ∃ x : Int × Nat, ((0 ≤ x.1 ∧ (x.1 < n ∨ x.1 = 0)) ∧ TapeOk l x.2) ∧ Sx.Spec Tryz.prog GG 6 [.ptr m 0, .d (.int .i64 n)] [(m, tapeB l a)] (.d (.int .i64 x.1)) [(m, tapeB l x.2)] := fun h => by
  obtain ⟨x, hx, hs⟩ := next0 (n := n) h
  exact ⟨x, hx, hs.at m⟩
theorem bool0 {l : List Int} {a : Nat} {n : Int} : (TapeOk l a ∧ 0 ≤ n ∧ n < 9223372036854775808) →
    ∃ x : Bool × Nat, TapeOk l x.2 ∧ Sx.Spec Tryz.prog GG 22 [.ptr 1000 0, .d (.int .i64 n)] [(1000, tapeB l a)] (.d (.bool x.1)) [(1000, tapeB l x.2)] := by
  rintro ⟨h, hn⟩
  refine spec_some (E := EE) (fn := Tryz.f22) _ _ _ false eok (by kernel_rfl) (by kernel_rfl) Tryz.call22 (by kernel_rfl) (fun _ => by kernel_rfl) (fun _ => by kernel_rfl) ?_
  conv => whnf
  repeat' first | ((first | refine call_some_if (next_ex _) (fun _ => Fl) (Ni ?_ ?_); rintro ⟨v, b⟩ ⟨⟨h1, h2⟩, h3⟩ | refine Bt ?_ | refine Bf ?_ | refine Ni ?_ ?_ | refine Wq ?_ | refine Di ?_ | refine Oi ?_); conv => whnf) | (refine bc_intro (fun _ => ?_) (fun _ => ?_) <;> (conv => whnf))
  · exact ⟨(_, _), h3, LeS.refl _, LeL.refl _, trivial⟩
  · exact ⟨h, by omega, hn.2⟩
theorem bool_ex (m : Nat) {l : List Int} {a : Nat} {n : Int} : (TapeOk l a ∧ 0 ≤ n ∧ n < 9223372036854775808) →
    ∃ x : Bool × Nat, TapeOk l x.2 ∧ Sx.Spec Tryz.prog GG 22 [.ptr m 0, .d (.int .i64 n)] [(m, tapeB l a)] (.d (.bool x.1)) [(m, tapeB l x.2)] := fun h => by
  obtain ⟨x, hx, hs⟩ := bool0 (n := n) h
  exact ⟨x, hx, hs.at m⟩
theorem long_ex {s : List UInt8} {n : Int} : (s.length ≤ 1 ∧ 0 ≤ n ∧ n ≤ 100) → ∃ x : List UInt8, (x.length : Int) ≤ n ∧ Sx.Spec Tryz.prog GG 36 [.d (.str s), .d (.int .i64 n)] [] (.d (.str x)) [] := by
  rintro ⟨hs, hn⟩
  refine spec_some (E := EE) (fn := Tryz.f36) _ _ _ false eok (by kernel_rfl) (by kernel_rfl) Tryz.call36 (by kernel_rfl) (fun _ => by kernel_rfl) (fun _ => by kernel_rfl) ?_
  conv => whnf
  repeat' first | ((first | refine Bt ?_ | refine Bf ?_ | refine Ni ?_ ?_ | refine Wq ?_ | refine Di ?_ | refine Oi ?_); conv => whnf) | (refine bc_intro (fun _ => ?_) (fun _ => ?_) <;> (conv => whnf))
  refine loop_auto [0, 0 + 1] [] (fun x : Nat × List UInt8 => [(5, .d (.str x.2)), (6, .d (.int .i64 x.1))]) (fun _ => []) (fun x => (x.1 : Int) ≤ n ∧ (x.2.length : Int) ≤ x.1) (fun x => n.toNat - x.1) (0, []) ?_ (fun x hx => ?_) ⟨by simp; omega, by simp⟩
  · conv => whnf
    repeat' first | ((first | refine Bt ?_ | refine Bf ?_ | refine Ni ?_ ?_ | refine Wq ?_ | refine Di ?_ | refine Oi ?_); conv => whnf) | (refine bc_intro (fun _ => ?_) (fun _ => ?_) <;> (conv => whnf))
    all_goals try first | exact Lq
  · have e1 : IntKind.i64.wrap ((x.1 : Int) + 1) = ((x.1 + 1 : Nat) : Int) := wrap_succ (n := 101) (by omega) (by omega)
    conv => whnf
    repeat' first | ((first | refine NextVC.mk (x.1 + 1, x.2 ++ s) ?_ ?_ ?_ | refine Bt ?_ | refine Bf ?_ | refine Ni ?_ ?_ | refine Wq ?_ | refine Di ?_ | refine Oi ?_); conv => whnf) | (refine bc_intro (fun _ => ?_) (fun _ => ?_) <;> (conv => whnf))
    all_goals try simp only [decide_eq_true_eq, decide_eq_false_iff_not, List.length_append] at *
    all_goals first | exact trivial | omega | exact DLe.refl _ | exact DLe.of_eq (by rw [e1]) | exact ⟨by omega, by omega⟩ | (refine ⟨x.2, ?_, LeS.refl _, trivial⟩; omega)
theorem key0 {l : List Int} {a : Nat} : TapeOk l a → ∃ x : List UInt8 × Nat, ((x.1.length : Int) ≤ 64 ∧ TapeOk l x.2) ∧ Sx.Spec Tryz.prog GG 16 [.ptr 1000 0] [(1000, tapeB l a)] (.d (.str x.1)) [(1000, tapeB l x.2)] := by
  intro h
  refine spec_some (E := EE) (fn := Tryz.f16) _ _ _ false eok (by kernel_rfl) (by kernel_rfl) Tryz.call16 (by kernel_rfl) (fun _ => by kernel_rfl) (fun _ => by kernel_rfl) ?_
  conv => whnf
  repeat' first | ((first | refine call_some_if (next_ex _) (fun _ => Fl) (Ni ?_ ?_); rintro ⟨v, b⟩ ⟨⟨h1, h2⟩, h3⟩ | refine call_some_if (long_ex) (fun _ => Fl) (Ni ?_ ?_); rintro x hx | refine Bt ?_ | refine Bf ?_ | refine Ni ?_ ?_ | refine Wq ?_ | refine Di ?_ | refine Oi ?_); conv => whnf) | (refine bc_intro (fun _ => ?_) (fun _ => ?_) <;> (conv => whnf))
  all_goals try simp only [decide_eq_true_eq, decide_eq_false_iff_not, beq_iff_eq, beq_eq_false_iff_ne, letterS_len] at *
  all_goals try first
    | exact ⟨by assumption, by omega, by omega⟩ | exact ⟨by omega, by omega, by omega⟩ | exact ⟨by omega, by omega⟩
    | (refine ⟨(_, _), ⟨?_, by assumption⟩, LeS.refl _, LeL.refl _, trivial⟩; first | assumption | simp)
  have e1 : IntKind.i64.wrap (1 + v) = 1 + v := wrap_of (by omega) (by omega)
  rw [e1]
  refine loop_auto [0] [] (fun x : Int × List UInt8 × Nat => [(3, .d (.str x.2.1)), (4, .d (.int .i64 x.1))]) (fun x => [(1000, tapeB l x.2.2)]) (fun x => 0 ≤ x.1 ∧ x.1 ≤ 3 ∧ (x.2.1.length : Int) ≤ 3 - x.1 ∧ TapeOk l x.2.2) (fun x => x.1.toNat) (1 + v, [], b) ?_ (fun x hx => ?_) ⟨by simp only; omega, by simp only; omega, by simp; omega, h3⟩
  · conv => whnf
    repeat' first | ((first | refine Bt ?_ | refine Bf ?_ | refine Ni ?_ ?_ | refine Wq ?_ | refine Di ?_ | refine Oi ?_); conv => whnf) | (refine bc_intro (fun _ => ?_) (fun _ => ?_) <;> (conv => whnf))
    all_goals try first | exact Lq
  · obtain ⟨k, o, c⟩ := x
    obtain ⟨k1, k2, k3, k4⟩ := hx
    simp only at k1 k2 k3 k4
    have e2 : 0 < k → IntKind.i64.wrap (k - 1) = k - 1 := fun _ => wrap_of (by omega) (by omega)
    conv => whnf
    repeat' first | ((first | refine call_some_if (next_ex _) (fun _ => Fl) (Ni ?_ ?_); rintro ⟨u, d⟩ ⟨⟨g1, g2⟩, g3⟩ | refine NextVC.mk (k - 1, o ++ letterS (u.toNat * Tryz.prog.cellsOf 9 + 0), d) ?_ ?_ ?_ | refine Bt ?_ | refine Bf ?_ | refine Ni ?_ ?_ | refine Wq ?_ | refine Di ?_ | refine Oi ?_); conv => whnf) | (refine bc_intro (fun _ => ?_) (fun _ => ?_) <;> (conv => whnf))
    all_goals try simp only [decide_eq_true_eq, decide_eq_false_iff_not, List.length_append, letterS_len] at *
    all_goals first | exact trivial | exact ⟨by assumption, by omega, by omega⟩ | exact ⟨by omega, by omega⟩ | omega | exact DLe.refl _ | exact DLe.of_eq (by rw [e2 (by omega)]) | exact ⟨by omega, by omega, by omega, by assumption⟩ | (refine ⟨(_, _), ⟨?_, by assumption⟩, LeS.refl _, LeL.refl _, trivial⟩; simp only; omega)
theorem key_ex (m : Nat) {l : List Int} {a : Nat} : TapeOk l a → ∃ x : List UInt8 × Nat, ((x.1.length : Int) ≤ 64 ∧ TapeOk l x.2) ∧ Sx.Spec Tryz.prog GG 16 [.ptr m 0] [(m, tapeB l a)] (.d (.str x.1)) [(m, tapeB l x.2)] := fun h => by
  obtain ⟨x, hx, hs⟩ := key0 h
  exact ⟨x, hx, hs.at m⟩
theorem pick0 {l : List Int} {a : Nat} {xs : List Int} : (TapeOk l a ∧ 0 < xs.length ∧ xs.length ≤ 1000) → ∃ x : Int × Nat, (x.1 ∈ xs ∧ TapeOk l x.2) ∧
    Sx.Spec Tryz.prog GG 37 [.ptr 1000 0, .d (encL encI 1 xs)] [(1000, tapeB l a)] (.d (.int .i64 x.1)) [(1000, tapeB l x.2)] := by
  rintro ⟨h, hn⟩
  refine spec_some (E := EE) (fn := Tryz.f37) _ _ _ false eok (by kernel_rfl) (by kernel_rfl) Tryz.call37 (by kernel_rfl) (fun _ => by kernel_rfl) (fun _ => by kernel_rfl) ?_
  conv => whnf
  repeat' first | ((first | refine call_some_if (next_ex _) (fun _ => Fl) (Ni ?_ ?_); rintro ⟨v, b⟩ ⟨⟨h1, h2⟩, h3⟩ | refine Bt ?_ | refine Bf ?_ | refine Ni ?_ ?_ | refine Wq ?_ | refine Di ?_ | refine Oi ?_); conv => whnf) | (refine bc_intro (fun _ => ?_) (fun _ => ?_) <;> (conv => whnf))
  · refine ⟨(_, _), ⟨?_, by assumption⟩, LeS.refl _, LeL.refl _, trivial⟩
    have hv : v.toNat < xs.length := by omega
    show xs.getD v.toNat default ∈ xs
    have e : xs.getD v.toNat default = xs[v.toNat] := by simp only [List.getD, List.getElem?_eq_getElem hv, Option.getD_some]
    rw [e]
    exact List.getElem_mem hv
  · exact ⟨by omega, by omega⟩
  · exact ⟨h, by omega, by omega⟩
theorem pick_ex (m : Nat) {l : List Int} {a : Nat} (xs : List Int) {n : Nat} {g : Nat → Nat → D} (hg : RowLe n 1 g (cellOf encI xs)) : (n = xs.length ∧ TapeOk l a ∧ 0 < xs.length ∧ xs.length ≤ 1000) → ∃ x : Int × Nat, (x.1 ∈ xs ∧ TapeOk l x.2) ∧
    Sx.Spec Tryz.prog GG 37 [.ptr m 0, .d (.list n 1 g)] [(m, tapeB l a)] (.d (.int .i64 x.1)) [(m, tapeB l x.2)] := by
  rintro ⟨rfl, h, hn⟩
  obtain ⟨x, hx, hs⟩ := pick0 (xs := xs) ⟨h, hn⟩
  exact ⟨x, hx, (hs.at m).arg (LeL.cons (LeS.refl _) (LeL.cons (LeS.d (DLe.rows rfl hg)) LeL.nil))⟩
theorem new_ex (m : Nat) {l : List Int} (hl : ∀ x ∈ l, -9223372036854775808 ≤ x ∧ x < 9223372036854775808) : ∃ x : List Int × Nat, TapeOk x.1 x.2 ∧
    Sx.Spec Tryz.prog GG 4 [.d (encL encI 1 l)] [] (.ptr m 0) [(m, tapeB x.1 x.2)] := by
  have key : ∃ x : List Int × Nat, TapeOk x.1 x.2 ∧ Sx.Spec Tryz.prog GG 4 [.d (encL encI 1 l)] [] (.ptr 1000 0) [(1000, tapeB x.1 x.2)] := by
    refine spec_some (E := EE) (fn := Tryz.f4) _ _ _ true eok (by kernel_rfl) (by kernel_rfl) Tryz.call4 (by kernel_rfl) (fun _ => by kernel_rfl) (fun _ => by kernel_rfl) ?_
    conv => whnf
    repeat' first | ((first | refine Bt ?_ | refine Bf ?_ | refine Ni ?_ ?_ | refine Wq ?_ | refine Di ?_ | refine Oi ?_); conv => whnf) | (refine bc_intro (fun _ => ?_) (fun _ => ?_) <;> (conv => whnf))
    all_goals simp only [decide_eq_true_eq, decide_eq_false_iff_not] at *
    · refine ⟨(l.take 600, 0), ⟨by simp; omega, by simp, fun x hx => hl x (List.mem_of_mem_take hx)⟩, ?_⟩
      conv => whnf
      repeat' first | ((first | refine Bt ?_ | refine Bf ?_ | refine Ni ?_ ?_ | refine Wq ?_ | refine Di ?_ | refine Oi ?_); conv => whnf) | (refine bc_intro (fun _ => ?_) (fun _ => ?_) <;> (conv => whnf))
      all_goals first
        | exact trivial | exact DLe.refl _
        | (refine DLe.rows (by simp; omega) (.of_eq fun i j hi hj => ?_)
           have hi : i < 600 := by simp at hi; omega
           simp [cellOf, List.getD, List.getElem?_take, hi])
    · simp
      omega
    · refine ⟨(l, 0), ⟨by simp only; omega, by simp, hl⟩, ?_⟩
      conv => whnf
      repeat' first | ((first | refine Bt ?_ | refine Bf ?_ | refine Ni ?_ ?_ | refine Wq ?_ | refine Di ?_ | refine Oi ?_); conv => whnf) | (refine bc_intro (fun _ => ?_) (fun _ => ?_) <;> (conv => whnf))
      all_goals first | exact trivial | exact DLe.refl _
  obtain ⟨x, hx, hs⟩ := key
  exact ⟨x, hx, hs.new1 m⟩
def I64 (n : Int) : Prop := -9223372036854775808 ≤ n ∧ n < 9223372036854775808
end Go.Proofs.YtiadnhbclipmhaaGreatDoor

namespace Go.Proofs.YtiadnhbclipmhaaGreatDoor
open Go Go.Sx Go.ChangeShapes Go.WideShapes Go.ChangeAt Go.RowKit
set_option linter.unusedVariables false
set_option linter.unusedSimpArgs false
set_option maxRecDepth 100000
theorem validWp_spec (n : Nat) : Sx.Spec Tryz.prog GG 57 [.d (.int .u32 (n : Int))] [] (.d (.bool (decide (n ≤ 65535)))) [] := by
  refine spec_intro (E := EE) (fn := Tryz.f57) eok (by kernel_rfl) (by kernel_rfl) Tryz.call57 (by kernel_rfl) (by kernel_rfl) ?_
  conv => whnf
  repeat' first | ((first | refine Bt ?_ | refine Bf ?_ | refine Ni ?_ ?_ | refine Wq ?_ | refine Di ?_ | refine Oi ?_); conv => whnf) | (refine bc_intro (fun _ => ?_) (fun _ => ?_) <;> (conv => whnf))
  exact ⟨LeS.of_eq (congrArg (fun b => SV.d (.bool b)) (decide_eq_decide.2 (by omega))), trivial⟩
theorem validWr_spec (n : Nat) : Sx.Spec Tryz.prog GG 86 [.d (.int .u32 (n : Int))] [] (.d (.bool (decide (n ≤ 65535)))) [] := by
  refine spec_intro (E := EE) (fn := Tryz.f86) eok (by kernel_rfl) (by kernel_rfl) Tryz.call86 (by kernel_rfl) (by kernel_rfl) ?_
  conv => whnf
  repeat' first | ((first | refine Bt ?_ | refine Bf ?_ | refine Ni ?_ ?_ | refine Wq ?_ | refine Di ?_ | refine Oi ?_); conv => whnf) | (refine bc_intro (fun _ => ?_) (fun _ => ?_) <;> (conv => whnf))
  exact ⟨LeS.of_eq (congrArg (fun b => SV.d (.bool b)) (decide_eq_decide.2 (by omega))), trivial⟩
abbrev boxN (x : NodeT) : Blk := .box [.d (.int .i64 x.id), .d (.str x.key), .d (.int .u32 (x.word : Int))]
theorem check1_spec (x y : NodeT) : Sx.Spec Tryz.prog GG 59 [nodeS y, .ptr 1000 0] [(1000, boxN x)] (.d (.bool (clash x y))) [(1000, boxN x)] := by
  refine spec_intro (E := EE) (fn := Tryz.f59) eok (by kernel_rfl) (by kernel_rfl) Tryz.call59 (by kernel_rfl) (by kernel_rfl) ?_
  conv => whnf
  repeat' first | ((first | refine Bt ?_ | refine Bf ?_ | refine Ni ?_ ?_ | refine Wq ?_ | refine Di ?_ | refine Oi ?_); conv => whnf) | (refine bc_intro (fun _ => ?_) (fun _ => ?_) <;> (conv => whnf))
  all_goals exact ⟨LeS.of_eq (by rename_i h; simp only [clash, h, Bool.true_or, Bool.false_or]), LeL.refl _, trivial⟩
theorem find1_spec (id : Int) (y : NodeT) : Sx.Spec Tryz.prog GG 79 [nodeS y, .ptr 1000 0] [(1000, .box [.d (.int .i64 id)])] (.d (.bool (y.id == id))) [(1000, .box [.d (.int .i64 id)])] := by
  refine spec_intro (E := EE) (fn := Tryz.f79) eok (by kernel_rfl) (by kernel_rfl) Tryz.call79 (by kernel_rfl) (by kernel_rfl) ?_
  conv => whnf
  repeat' first | ((first | refine Bt ?_ | refine Bf ?_ | refine Ni ?_ ?_ | refine Wq ?_ | refine Di ?_ | refine Oi ?_); conv => whnf) | (refine bc_intro (fun _ => ?_) (fun _ => ?_) <;> (conv => whnf))
  all_goals exact ⟨LeS.refl _, LeL.refl _, trivial⟩
theorem idxChk_spec (x : NodeT) (xs : List NodeT) : xs.length ≤ 1000 → Sx.Spec Tryz.prog GG 78 [.d (encL encN 3 xs), .clo 59 [.ptr 1000 0]] [(1000, boxN x)] (.d (.int .i64 (idxP (clash x) xs 0))) [(1000, boxN x)] := by
  intro hl
  refine spec_intro (E := EE) (fn := Tryz.f78) eok (by kernel_rfl) (by kernel_rfl) Tryz.call78 (by kernel_rfl) (by kernel_rfl) ?_
  conv => whnf
  repeat' first | ((first | refine Bt ?_ | refine Bf ?_ | refine Ni ?_ ?_ | refine Wq ?_ | refine Di ?_ | refine Oi ?_); conv => whnf) | (refine bc_intro (fun _ => ?_) (fun _ => ?_) <;> (conv => whnf))
  refine loop_auto [0, 0 + 1, 6, 7] [1000] (fun i : Nat => [(8, .d (.int .i64 i))]) (fun _ => []) (fun i => i ≤ xs.length ∧ idxP (clash x) xs 0 = idxP (clash x) (xs.drop i) i) (fun i => xs.length - i) 0 ?_ (fun i hi => ?_) ⟨Nat.zero_le _, by simp⟩
  · conv => whnf
    repeat' first | ((first | refine Bt ?_ | refine Bf ?_ | refine Ni ?_ ?_ | refine Wq ?_ | refine Di ?_ | refine Oi ?_); conv => whnf) | (refine bc_intro (fun _ => ?_) (fun _ => ?_) <;> (conv => whnf))
    all_goals try first | exact Lq
  · obtain ⟨h1, h2⟩ := hi
    have e1 : i < xs.length → IntKind.i64.wrap ((i : Int) + 1) = ((i + 1 : Nat) : Int) := fun h => wrap_succ (n := 1000) (by omega) (by omega)
    conv => whnf
    repeat' first | ((first | refine Ci (check1_spec _ _) ?_ | refine NextVC.mk (i + 1) ?_ ?_ ?_ | refine Bt ?_ | refine Bf ?_ | refine Ni ?_ ?_ | refine Wq ?_ | refine Di ?_ | refine Oi ?_); conv => whnf) | (refine bc_intro (fun _ => ?_) (fun _ => ?_) <;> (conv => whnf))
    all_goals try simp only [decide_eq_true_eq, decide_eq_false_iff_not] at *
    all_goals first | exact trivial | exact DLe.refl _ | omega | exact DLe.of_eq (by rw [e1 (by omega)]) | (refine ⟨LeS.of_eq ?_, LeL.refl _, trivial⟩; rw [h2, idxP_end (by omega)]) | (refine ⟨LeS.of_eq ?_, LeL.refl _, trivial⟩; rw [h2, idxP_step (by omega)]; simp_all) | (refine ⟨by omega, ?_⟩; rw [h2, idxP_step (by omega)]; simp_all)
theorem idxFind_spec (id : Int) (xs : List NodeT) : xs.length ≤ 1000 → Sx.Spec Tryz.prog GG 78 [.d (encL encN 3 xs), .clo 79 [.ptr 1000 0]] [(1000, .box [.d (.int .i64 id)])] (.d (.int .i64 (idxP (fun y => y.id == id) xs 0))) [(1000, .box [.d (.int .i64 id)])] := by
  intro hl
  refine spec_intro (E := EE) (fn := Tryz.f78) eok (by kernel_rfl) (by kernel_rfl) Tryz.call78 (by kernel_rfl) (by kernel_rfl) ?_
  conv => whnf
  repeat' first | ((first | refine Bt ?_ | refine Bf ?_ | refine Ni ?_ ?_ | refine Wq ?_ | refine Di ?_ | refine Oi ?_); conv => whnf) | (refine bc_intro (fun _ => ?_) (fun _ => ?_) <;> (conv => whnf))
  refine loop_auto [0, 0 + 1, 6, 7] [1000] (fun i : Nat => [(8, .d (.int .i64 i))]) (fun _ => []) (fun i => i ≤ xs.length ∧ idxP (fun y => y.id == id) xs 0 = idxP (fun y => y.id == id) (xs.drop i) i) (fun i => xs.length - i) 0 ?_ (fun i hi => ?_) ⟨Nat.zero_le _, by simp⟩
  · conv => whnf
    repeat' first | ((first | refine Bt ?_ | refine Bf ?_ | refine Ni ?_ ?_ | refine Wq ?_ | refine Di ?_ | refine Oi ?_); conv => whnf) | (refine bc_intro (fun _ => ?_) (fun _ => ?_) <;> (conv => whnf))
    all_goals try first | exact Lq
  · obtain ⟨h1, h2⟩ := hi
    have e1 : i < xs.length → IntKind.i64.wrap ((i : Int) + 1) = ((i + 1 : Nat) : Int) := fun h => wrap_succ (n := 1000) (by omega) (by omega)
    conv => whnf
    repeat' first | ((first | refine Ci (find1_spec _ _) ?_ | refine NextVC.mk (i + 1) ?_ ?_ ?_ | refine Bt ?_ | refine Bf ?_ | refine Ni ?_ ?_ | refine Wq ?_ | refine Di ?_ | refine Oi ?_); conv => whnf) | (refine bc_intro (fun _ => ?_) (fun _ => ?_) <;> (conv => whnf))
    all_goals try simp only [decide_eq_true_eq, decide_eq_false_iff_not] at *
    all_goals first | exact trivial | exact DLe.refl _ | omega | exact DLe.of_eq (by rw [e1 (by omega)]) | (refine ⟨LeS.of_eq ?_, LeL.refl _, trivial⟩; rw [h2, idxP_end (by omega)]) | (refine ⟨LeS.of_eq ?_, LeL.refl _, trivial⟩; rw [h2, idxP_step (by omega)]; simp_all) | (refine ⟨by omega, ?_⟩; rw [h2, idxP_step (by omega)]; simp_all)
theorem containsChk_spec (x : NodeT) (xs : List NodeT) : xs.length ≤ 1000 → Sx.Spec Tryz.prog GG 58 [.d (encL encN 3 xs), .clo 59 [.ptr 1000 0]] [(1000, boxN x)] (.d (.bool (xs.any (clash x)))) [(1000, boxN x)] := by
  intro hl
  refine spec_intro (E := EE) (fn := Tryz.f58) eok (by kernel_rfl) (by kernel_rfl) Tryz.call58 (by kernel_rfl) (by kernel_rfl) ?_
  conv => whnf
  repeat' first | ((first | refine Cf (idxChk_spec _ _) ?_ ?_ | refine Bt ?_ | refine Bf ?_ | refine Ni ?_ ?_ | refine Wq ?_ | refine Di ?_ | refine Oi ?_); conv => whnf) | (refine bc_intro (fun _ => ?_) (fun _ => ?_) <;> (conv => whnf))
  all_goals first | assumption | exact ⟨LeS.of_eq (by rw [← idxP_nonneg (p := clash x)]), LeL.refl _, trivial⟩
theorem idxFind_at (m : Nat) (id : Int) (xs : List NodeT) : xs.length ≤ 1000 → Sx.Spec Tryz.prog GG 78 [.d (encL encN 3 xs), .clo 79 [.ptr m 0]] [(m, .box [.d (.int .i64 id)])] (.d (.int .i64 (idxP (fun y => y.id == id) xs 0))) [(m, .box [.d (.int .i64 id)])] := fun h => (idxFind_spec id xs h).at m
theorem containsChk_at (m : Nat) (x : NodeT) (xs : List NodeT) : xs.length ≤ 1000 → Sx.Spec Tryz.prog GG 58 [.d (encL encN 3 xs), .clo 59 [.ptr m 0]] [(m, boxN x)] (.d (.bool (xs.any (clash x)))) [(m, boxN x)] := fun h => (containsChk_spec x xs h).at m
theorem containsChk_take (m : Nat) (xs : List NodeT) (k : Nat) {n : Nat} {x : NodeT} : (k ≤ xs.length ∧ n = k ∧ xs.length ≤ 1000) → Sx.Spec Tryz.prog GG 58 [.d (.list n 3 fun i j => cellOf encN xs (0 + i) j), .clo 59 [.ptr m 0]] [(m, boxN x)] (.d (.bool ((xs.take k).any (clash x)))) [(m, boxN x)] := by
  rintro ⟨h1, rfl, h2⟩
  refine (containsChk_at m x (xs.take n) (by simp; omega)).arg (LeL.cons (LeS.d (DLe.rows (by simp; omega) ?_)) (LeL.refl _))
  simp only [Nat.zero_add]
  have := row_take (enc := encN) (k := 3) (n := n) (xs := xs) h1
  rw [List.length_take, Nat.min_eq_left h1]
  exact this
theorem find_spec (id : Int) (xs : List NodeT) : xs.length ≤ 1000 → Sx.Spec Tryz.prog GG 47 [.d (encL encN 3 xs), .d (.int .i64 id)] [] (.tup [nodeS ((findN xs id).getD default), .d (.bool (findN xs id).isSome)]) [] := by
  intro hl
  have hf : (idxP (fun y : NodeT => y.id == id) xs 0 = -1 ∧ findN xs id = none) ∨ ∃ i, idxP (fun y : NodeT => y.id == id) xs 0 = ((i : Nat) : Int) ∧ i < xs.length ∧ findN xs id = some (xs.getD i default) := by
    rcases idxP_range (p := fun y : NodeT => y.id == id) (xs := xs) (f := 0) with ⟨h1, h2⟩ | ⟨i, h1, h2, h3, h4⟩
    · refine .inl ⟨h1, ?_⟩
      simp only [findN, List.find?_eq_none]
      intro x hx
      simpa using List.any_eq_false.1 h2 x hx
    · refine .inr ⟨i, by simpa using h1, h2, ?_⟩
      simp only [findN]
      rw [List.find?_eq_some_iff_getElem]
      refine ⟨h3, i, h2, by simp [List.getD, h2], fun j hj => ?_⟩
      have := h4 j hj
      simp only [List.getD, List.getElem?_eq_getElem (show j < xs.length by omega), Option.getD_some] at this
      simpa using this
  refine spec_intro (E := EE) (fn := Tryz.f47) eok (by kernel_rfl) (by kernel_rfl) Tryz.call47 (by kernel_rfl) (by kernel_rfl) ?_
  conv => whnf
  repeat' first | ((first | refine Cf (idxFind_at _ _ _) ?_ ?_ | refine Bt ?_ | refine Bf ?_ | refine Ni ?_ ?_ | refine Wq ?_ | refine Di ?_ | refine Oi ?_); conv => whnf) | (refine bc_intro (fun _ => ?_) (fun _ => ?_) <;> (conv => whnf))
  all_goals try simp only [decide_eq_true_eq, decide_eq_false_iff_not] at *
  · rcases hf with ⟨h1, h2⟩ | ⟨i, h1, h2, h3⟩
    · rw [h2]; exact ⟨LeS.refl _, trivial⟩
    · omega
  · rcases hf with ⟨h1, h2⟩ | ⟨i, h1, h2, h3⟩
    · omega
    · rw [h3, h1]; exact ⟨LeS.refl _, trivial⟩
  · rcases hf with ⟨h1, h2⟩ | ⟨i, h1, h2, h3⟩
    · omega
    · rw [h1]; exact ⟨by omega, by omega⟩
  · exact hl
theorem checkp_spec (xs : List NodeT) : xs.length ≤ 1000 → Sx.Spec Tryz.prog GG 28 [.d (encL encN 3 xs)] [] (.d (.int .i64 (checkF xs))) [] := by
  intro hl
  refine spec_intro (E := EE) (fn := Tryz.f28) eok (by kernel_rfl) (by kernel_rfl) Tryz.call28 (by kernel_rfl) (by kernel_rfl) ?_
  conv => whnf
  repeat' first | ((first | refine Bt ?_ | refine Bf ?_ | refine Ni ?_ ?_ | refine Wq ?_ | refine Di ?_ | refine Oi ?_); conv => whnf) | (refine bc_intro (fun _ => ?_) (fun _ => ?_) <;> (conv => whnf))
  · refine ⟨LeS.of_eq ?_, trivial⟩
    simp only [decide_eq_true_eq] at *
    unfold checkF; rw [if_pos (by omega)]
  rename_i h64
  have h64 : ¬ 64 < xs.length := by simp only [decide_eq_false_iff_not] at h64; omega
  have e1 : ∀ i : Nat, i < xs.length → IntKind.i64.wrap ((i : Int) + 1) = ((i + 1 : Nat) : Int) := fun i h => wrap_succ (n := 1000) (by omega) (by omega)
  refine loop_auto [0, 2, 10, 11] [] (fun i : Nat => [(12, .d (.int .i64 i))]) (fun _ => []) (fun i => i ≤ xs.length ∧ xs.all okN = (xs.drop i).all okN) (fun i => xs.length - i) 0 ?_ (fun i hi => ?_) ⟨Nat.zero_le _, by simp⟩
  · conv => whnf
    repeat' first | ((first | refine Bt ?_ | refine Bf ?_ | refine Ni ?_ ?_ | refine Wq ?_ | refine Di ?_ | refine Oi ?_); conv => whnf) | (refine bc_intro (fun _ => ?_) (fun _ => ?_) <;> (conv => whnf))
    all_goals try first | exact Lq
  obtain ⟨h1, h2⟩ := hi
  conv => whnf
  repeat' first | ((first | refine Ci (validKeyp_spec _) ?_ | refine Ci (validWp_spec _) ?_ | refine NextVC.mk (i + 1) ?_ ?_ ?_ | refine Bt ?_ | refine Bf ?_ | refine Ni ?_ ?_ | refine Wq ?_ | refine Di ?_ | refine Oi ?_); conv => whnf) | (refine bc_intro (fun _ => ?_) (fun _ => ?_) <;> (conv => whnf))
  all_goals try simp only [decide_eq_true_eq, decide_eq_false_iff_not] at *
  all_goals try first
    | exact trivial | exact DLe.refl _ | omega | exact DLe.of_eq (by rw [e1 _ (by omega)])
    | (refine ⟨LeS.of_eq ?_, trivial⟩
       rw [check_bad (by omega) (i := i) (by omega) h2]
       cases hh : okN (xs.getD i default) with
       | false => rfl
       | true =>
         have := okN_iff.1 hh
         simp only [Int.toNat_natCast, Bool.not_eq_true', decide_eq_false_iff_not] at *
         omega)
    | (refine ⟨by omega, ?_⟩
       rw [h2, all_step (by omega)]
       rw [okN_iff.2 (by simp only [Int.toNat_natCast, Bool.not_eq_false', decide_eq_true_eq] at *; omega), Bool.true_and])
  have hall : xs.all okN = true := by
    rw [h2, List.drop_eq_nil_of_le (by omega)]; rfl
  refine loop_auto [0, 2, 37, 38] [] (fun i : Nat => [(39, .d (.int .i64 i))]) (fun _ => []) (fun i => i ≤ xs.length ∧ dups [] xs = dups (xs.take i) (xs.drop i)) (fun i => xs.length - i) 0 ?_ (fun k hk => ?_) ⟨Nat.zero_le _, by simp⟩
  · conv => whnf
    repeat' first | ((first | refine Bt ?_ | refine Bf ?_ | refine Ni ?_ ?_ | refine Wq ?_ | refine Di ?_ | refine Oi ?_); conv => whnf) | (refine bc_intro (fun _ => ?_) (fun _ => ?_) <;> (conv => whnf))
    all_goals try first | exact Lq
  obtain ⟨k1, k2⟩ := hk
  conv => whnf
  repeat' first | ((first | refine Cf (containsChk_take _ _ k) ?_ ?_ | refine NextVC.mk (k + 1) ?_ ?_ ?_ | refine Bt ?_ | refine Bf ?_ | refine Ni ?_ ?_ | refine Wq ?_ | refine Di ?_ | refine Oi ?_); conv => whnf) | (refine bc_intro (fun _ => ?_) (fun _ => ?_) <;> (conv => whnf))
  all_goals try simp only [decide_eq_true_eq, decide_eq_false_iff_not] at *
  all_goals first
    | exact trivial | exact DLe.refl _ | omega | exact DLe.of_eq (by rw [e1 _ (by omega)]) | exact ⟨by omega, by simp only [Option.getD, Int.toNat_natCast]; omega, by omega⟩ | exact ⟨by simp only [Option.getD]; omega, by simp only [Option.getD]; omega, by simp only [Option.getD]; omega⟩ | (refine ⟨LeS.of_eq ?_, trivial⟩; rw [check_dup (by omega) (i := k) (by omega) hall k2 (by assumption)]) | (refine ⟨LeS.of_eq ?_, trivial⟩; rw [check_ok (by omega) (i := k) (by omega) hall k2])
    | (refine ⟨by omega, ?_⟩
       rw [k2, dups_step (by omega)]
       rename_i hf _
       simp only [Int.toNat_natCast] at hf
       rw [hf, Bool.false_or])
theorem check5_spec (xs : List NodeT) : xs.length ≤ 1000 → Sx.Spec Tryz.prog GG 69 [.d (encL encN 3 xs)] [] (.d (.int .i64 (checkF xs))) [] := by
  intro hl
  refine spec_intro (E := EE) (fn := Tryz.f69) eok (by kernel_rfl) (by kernel_rfl) Tryz.call69 (by kernel_rfl) (by kernel_rfl) ?_
  conv => whnf
  repeat' first | ((first | refine Bt ?_ | refine Bf ?_ | refine Ni ?_ ?_ | refine Wq ?_ | refine Di ?_ | refine Oi ?_); conv => whnf) | (refine bc_intro (fun _ => ?_) (fun _ => ?_) <;> (conv => whnf))
  · refine ⟨LeS.of_eq ?_, trivial⟩
    simp only [decide_eq_true_eq] at *
    unfold checkF; rw [if_pos (by omega)]
  rename_i h64
  have h64 : ¬ 64 < xs.length := by simp only [decide_eq_false_iff_not] at h64; omega
  have e1 : ∀ i : Nat, i < xs.length → IntKind.i64.wrap ((i : Int) + 1) = ((i + 1 : Nat) : Int) := fun i h => wrap_succ (n := 1000) (by omega) (by omega)
  refine loop_auto [0, 2] [] (fun i : Nat => [(3, .d (.int .i64 i))]) (fun _ => []) (fun i => i ≤ xs.length ∧ xs.all okN = (xs.drop i).all okN) (fun i => xs.length - i) 0 ?_ (fun i hi => ?_) ⟨Nat.zero_le _, by simp⟩
  · conv => whnf
    repeat' first | ((first | refine Bt ?_ | refine Bf ?_ | refine Ni ?_ ?_ | refine Wq ?_ | refine Di ?_ | refine Oi ?_); conv => whnf) | (refine bc_intro (fun _ => ?_) (fun _ => ?_) <;> (conv => whnf))
    all_goals try first | exact Lq
  obtain ⟨h1, h2⟩ := hi
  conv => whnf
  repeat' first | ((first | refine Ci (validKeyr_spec _) ?_ | refine Ci (validWr_spec _) ?_ | refine NextVC.mk (i + 1) ?_ ?_ ?_ | refine Bt ?_ | refine Bf ?_ | refine Ni ?_ ?_ | refine Wq ?_ | refine Di ?_ | refine Oi ?_); conv => whnf) | (refine bc_intro (fun _ => ?_) (fun _ => ?_) <;> (conv => whnf))
  all_goals try simp only [decide_eq_true_eq, decide_eq_false_iff_not] at *
  all_goals try first
    | exact trivial | exact DLe.refl _ | omega | exact DLe.of_eq (by rw [e1 _ (by omega)])
    | (refine ⟨LeS.of_eq ?_, trivial⟩
       rw [check_bad (by omega) (i := i) (by omega) h2]
       cases hh : okN (xs.getD i default) with
       | false => rfl
       | true =>
         have := okN_iff.1 hh
         simp only [Int.toNat_natCast, Bool.not_eq_true', decide_eq_false_iff_not] at *
         omega)
    | (refine ⟨by omega, ?_⟩
       rw [h2, all_step (by omega)]
       rw [okN_iff.2 (by simp only [Int.toNat_natCast, Bool.not_eq_false', decide_eq_true_eq] at *; omega), Bool.true_and])
  have hall : xs.all okN = true := by
    rw [h2, List.drop_eq_nil_of_le (by omega)]; rfl
  refine loop_auto [0, 2] [] (fun i : Nat => [(4, .d (.int .i64 i))]) (fun _ => []) (fun i => i ≤ xs.length ∧ dups [] xs = dups (xs.take i) (xs.drop i)) (fun i => xs.length - i) 0 ?_ (fun k hk => ?_) ⟨Nat.zero_le _, by simp⟩
  · conv => whnf
    repeat' first | ((first | refine Bt ?_ | refine Bf ?_ | refine Ni ?_ ?_ | refine Wq ?_ | refine Di ?_ | refine Oi ?_); conv => whnf) | (refine bc_intro (fun _ => ?_) (fun _ => ?_) <;> (conv => whnf))
    all_goals try first | exact Lq
  obtain ⟨k1, k2⟩ := hk
  conv => whnf
  repeat' first | ((first | refine Bt ?_ | refine Bf ?_ | refine Ni ?_ ?_ | refine Wq ?_ | refine Di ?_ | refine Oi ?_); conv => whnf) | (refine bc_intro (fun _ => ?_) (fun _ => ?_) <;> (conv => whnf))
  · refine loop_auto [0, 2, 4] [] (fun i : Nat × Unit => [(5, .d (.int .i64 i.1))]) (fun _ => []) (fun i => i.1 ≤ k ∧ (xs.take k).any (clash (xs.getD k default)) = ((xs.take k).drop i.1).any (clash (xs.getD k default))) (fun i => k - i.1) (0, ()) ?_ (fun j hj => ?_) ⟨Nat.zero_le _, by simp⟩
    · conv => whnf
      repeat' first | ((first | refine Bt ?_ | refine Bf ?_ | refine Ni ?_ ?_ | refine Wq ?_ | refine Di ?_ | refine Oi ?_); conv => whnf) | (refine bc_intro (fun _ => ?_) (fun _ => ?_) <;> (conv => whnf))
      all_goals try first | exact Lq
    obtain ⟨j, _⟩ := j
    obtain ⟨j1, j2⟩ := hj
    simp only at j1 j2
    simp only [decide_eq_true_eq, decide_eq_false_iff_not] at *
    conv => whnf
    repeat' first | ((first | refine NextVC.mk (j + 1, ()) ?_ ?_ ?_ | refine NextVC.mk (k + 1) ?_ ?_ ?_ | refine Bt ?_ | refine Bf ?_ | refine Ni ?_ ?_ | refine Wq ?_ | refine Di ?_ | refine Oi ?_); conv => whnf) | (refine bc_intro (fun _ => ?_) (fun _ => ?_) <;> (conv => whnf))
    all_goals try simp only [decide_eq_true_eq, decide_eq_false_iff_not] at *
    all_goals first
      | exact trivial | exact DLe.refl _ | omega | exact DLe.of_eq (by rw [e1 _ (by omega)])
      | (refine ⟨LeS.of_eq ?_, trivial⟩
         rw [check_dup (by omega) (i := k) (by omega) hall k2 (by
           rw [j2, any_take_step k1 (by omega)]
           first | rw [clash_of1 (by assumption), Bool.true_or] | rw [clash_of2 (by assumption), Bool.true_or])])
      | (refine ⟨by omega, ?_⟩
         rw [j2, any_take_step k1 (by omega), clash_not (by assumption) (by assumption), Bool.false_or])
      | (refine ⟨by omega, ?_⟩
         rw [k2, dups_step (by omega), j2, any_take_end (by omega), Bool.false_or])
  · refine ⟨LeS.of_eq ?_, trivial⟩
    simp only [decide_eq_true_eq, decide_eq_false_iff_not] at *
    rw [check_ok (by omega) (i := k) (by omega) hall k2]
theorem is5_spec (xs : List NodeT) : xs.length ≤ 1000 → Sx.Spec Tryz.prog GG 35 [.d (encL encN 3 xs)] [] (.d (.bool (checkF xs == 0))) [] := by
  intro hl
  refine spec_intro (E := EE) (fn := Tryz.f35) eok (by kernel_rfl) (by kernel_rfl) Tryz.call35 (by kernel_rfl) (by kernel_rfl) ?_
  conv => whnf
  repeat' first | ((first | refine Cf (check5_spec _) ?_ ?_ | refine Bt ?_ | refine Bf ?_ | refine Ni ?_ ?_ | refine Wq ?_ | refine Di ?_ | refine Oi ?_); conv => whnf) | (refine bc_intro (fun _ => ?_) (fun _ => ?_) <;> (conv => whnf))
  · exact ⟨LeS.refl _, trivial⟩
  · exact hl
theorem word0 {l : List Int} {a : Nat} : TapeOk l a → ∃ x : Nat × Nat, (x.1 ≤ 65535 ∧ TapeOk l x.2) ∧ Sx.Spec Tryz.prog GG 17 [.ptr 1000 0] [(1000, tapeB l a)] (.d (.int .u32 (x.1 : Int))) [(1000, tapeB l x.2)] := by
  intro h
  have w : ∀ v : Int, 0 ≤ v → v ≤ 65535 → IntKind.u32.wrap v = ((v.toNat : Nat) : Int) := by
    intro v h1 h2
    simp [IntKind.wrap, IntKind.bits, IntKind.signed]
    omega
  refine spec_some (E := EE) (fn := Tryz.f17) _ _ _ false eok (by kernel_rfl) (by kernel_rfl) Tryz.call17 (by kernel_rfl) (fun _ => by kernel_rfl) (fun _ => by kernel_rfl) ?_
  conv => whnf
  repeat' first | ((first | refine call_some_if (next_ex _) (fun _ => Fl) (Ni ?_ ?_); rintro ⟨v, b⟩ ⟨⟨h1, h2⟩, h3⟩ | refine call_some_if (pick_ex _ [0, 65535, 32768] (.of_eq fun i j hi hj => by match i, j, hi, hj with | 0, 0, _, _ => rfl | 1, 0, _, _ => rfl | 2, 0, _, _ => rfl)) (fun _ => Fl) (Ni ?_ ?_); rintro ⟨v, b⟩ ⟨h1, h2⟩ | refine Bt ?_ | refine Bf ?_ | refine Ni ?_ ?_ | refine Wq ?_ | refine Di ?_ | refine Oi ?_); conv => whnf) | (refine bc_intro (fun _ => ?_) (fun _ => ?_) <;> (conv => whnf))
  all_goals try simp only [decide_eq_true_eq, decide_eq_false_iff_not, beq_iff_eq, beq_eq_false_iff_ne, letterS_len] at *
  all_goals try first | assumption | exact ⟨by assumption, by omega, by omega⟩ | exact ⟨by omega, by omega, by omega⟩ | exact ⟨by omega, by omega⟩
  · refine ⟨(v.toNat, b), ⟨by simp only; omega, h3⟩, LeS.of_eq ?_, LeL.refl _, trivial⟩
    rw [w _ (by omega) (by omega)]
  · simp only [List.mem_cons, List.not_mem_nil, or_false] at h1
    refine ⟨(v.toNat, b), ⟨by simp only; omega, h2⟩, LeS.of_eq ?_, LeL.refl _, trivial⟩
    rw [w _ (by omega) (by omega)]
  · exact ⟨by rfl, h3, by simp, by simp⟩
  · refine ⟨(v.toNat, b), ⟨by simp only; omega, h3⟩, LeS.of_eq ?_, LeL.refl _, trivial⟩
    rw [w _ (by omega) (by omega)]
theorem word_ex (m : Nat) {l : List Int} {a : Nat} : TapeOk l a → ∃ x : Nat × Nat, (x.1 ≤ 65535 ∧ TapeOk l x.2) ∧ Sx.Spec Tryz.prog GG 17 [.ptr m 0] [(m, tapeB l a)] (.d (.int .u32 (x.1 : Int))) [(m, tapeB l x.2)] := fun h => by
  obtain ⟨x, hx, hs⟩ := word0 h
  exact ⟨x, hx, hs.at m⟩
end Go.Proofs.YtiadnhbclipmhaaGreatDoor

namespace Go.Proofs.YtiadnhbclipmhaaGreatDoor
open Go Go.Sx Go.ChangeShapes Go.WideShapes Go.ChangeAt Go.RowKit
set_option linter.unusedVariables false
set_option linter.unusedSimpArgs false
set_option maxRecDepth 100000
theorem getD_mem' {α : Type} [Inhabited α] {xs : List α} {i : Nat} (h : i < xs.length) : xs.getD i default ∈ xs := by
  simp only [List.getD, List.getElem?_eq_getElem h, Option.getD_some]; exact List.getElem_mem h
theorem idI {xs : List NodeT} (hr : Rst xs) {i : Nat} (h : i < xs.length) : I64 (xs.getD i default).id := by
  have := hr.ok _ (getD_mem' h)
  simp only [I64]; omega
theorem id0 {l : List Int} {a : Nat} {xs : List NodeT} : (TapeOk l a ∧ Rst xs) → ∃ x : Int × Nat, (I64 x.1 ∧ TapeOk l x.2) ∧ Sx.Spec Tryz.prog GG 44 [.ptr 1000 0, .d (encL encN 3 xs)] [(1000, tapeB l a)] (.d (.int .i64 x.1)) [(1000, tapeB l x.2)] := by
  rintro ⟨h, hr⟩
  have hl := hr.len
  refine spec_some (E := EE) (fn := Tryz.f44) _ _ _ false eok (by kernel_rfl) (by kernel_rfl) Tryz.call44 (by kernel_rfl) (fun _ => by kernel_rfl) (fun _ => by kernel_rfl) ?_
  conv => whnf
  repeat' first | ((first | refine call_some_if (bool_ex _) (fun _ => Fl) (Ni ?_ ?_); rintro ⟨v, b⟩ h1 | refine call_some_if (pick_ex _ [0, -1, 999, 4611686018427387904, 1] (.of_eq fun i j hi hj => by match i, j, hi, hj with | 0, 0, _, _ => rfl | 1, 0, _, _ => rfl | 2, 0, _, _ => rfl | 3, 0, _, _ => rfl | 4, 0, _, _ => rfl)) (fun _ => Fl) (Ni ?_ ?_); rintro ⟨v, b⟩ ⟨h1, h2⟩ | refine call_some_if (next_ex _) (fun _ => Fl) (Ni ?_ ?_); rintro ⟨v, b⟩ ⟨⟨h1, h2⟩, h3⟩ | refine Bt ?_ | refine Bf ?_ | refine Ni ?_ ?_ | refine Wq ?_ | refine Di ?_ | refine Oi ?_); conv => whnf) | (refine bc_intro (fun _ => ?_) (fun _ => ?_) <;> (conv => whnf))
  all_goals try simp only [decide_eq_true_eq, decide_eq_false_iff_not, beq_iff_eq, beq_eq_false_iff_ne] at *
  all_goals first
    | exact ⟨by rfl, by assumption, by simp, by simp⟩ | exact ⟨by assumption, by omega, by omega⟩ | exact ⟨by omega, by omega⟩
    | (refine ⟨(_, _), ⟨?_, by assumption⟩, LeS.refl _, LeL.refl _, trivial⟩
       first
         | exact idI hr (by omega)
         | (simp only [List.mem_cons, List.not_mem_nil, or_false] at *; simp only [I64]; omega))
theorem id_ex (m : Nat) {l : List Int} {a : Nat} {xs : List NodeT} : (TapeOk l a ∧ Rst xs) → ∃ x : Int × Nat, (I64 x.1 ∧ TapeOk l x.2) ∧ Sx.Spec Tryz.prog GG 44 [.ptr m 0, .d (encL encN 3 xs)] [(m, tapeB l a)] (.d (.int .i64 x.1)) [(m, tapeB l x.2)] := fun h => by
  obtain ⟨x, hx, hs⟩ := id0 h
  exact ⟨x, hx, hs.at m⟩
theorem is5_row {xs : List NodeT} {n K : Nat} {g : Nat → Nat → D} (hK : K = 3) (h : RowLe n 3 g (cellOf encN xs)) : (n = xs.length ∧ xs.length ≤ 1000) → Sx.Spec Tryz.prog GG 35 [.d (.list n K g)] [] (.d (.bool (checkF xs == 0))) [] := by
  rintro ⟨rfl, hl⟩
  subst hK
  exact (is5_spec xs hl).arg (LeL.cons (LeS.d (DLe.rows rfl h)) LeL.nil)
theorem snocN {o : List NodeT} {x : NodeT} {g : Nat → Nat → D} (h : ∀ j, j < 3 → DLe (g 0 j) ((encN x).getD j default)) :
    RowLe (o.length + 1) 3 (fun i j => (fun i j => if i < o.length then (fun i j => cellOf encN o (0 + i) j) i j else g (i - o.length) j) (0 + i) j) (cellOf encN (o ++ [x])) := by
  simp only [Nat.zero_add]
  exact row_snoc rfl (RowLe.refl _ _ _) h
theorem roster0 {l : List Int} {a : Nat} {n : Int} : (TapeOk l a ∧ 0 ≤ n ∧ n ≤ 20) → ∃ x : List NodeT × Nat, ((Rst x.1 ∧ (x.1.length : Int) ≤ n) ∧ TapeOk l x.2) ∧
    Sx.Spec Tryz.prog GG 15 [.ptr 1000 0, .d (.int .i64 n)] [(1000, tapeB l a)] (.d (encL encN 3 x.1)) [(1000, tapeB l x.2)] := by
  rintro ⟨h, hn⟩
  have wn : IntKind.i64.wrap (n + 1) = n + 1 := wrap_of (by omega) (by omega)
  have w3 : IntKind.i64.wrap (3 * n) = 3 * n := wrap_of (by omega) (by omega)
  have cB : Tryz.prog.cellsOf 31 = 3 := by kernel_rfl
  have bB : Tryz.prog.bytesOf 31 = 32 := by kernel_rfl
  refine spec_some (E := EE) (fn := Tryz.f15) _ _ _ false eok (by kernel_rfl) (by kernel_rfl) Tryz.call15 (by kernel_rfl) (fun _ => by kernel_rfl) (fun _ => by kernel_rfl) ?_
  conv => whnf
  repeat' first | ((first | refine call_some_if (next_ex _) (fun _ => Fl) (Ni ?_ ?_); rintro ⟨v, b⟩ ⟨⟨h1, h2⟩, h3⟩ | refine Bt ?_ | refine Bf ?_ | refine Ni ?_ ?_ | refine Wq ?_ | refine Di ?_ | refine Oi ?_); conv => whnf) | (refine bc_intro (fun _ => ?_) (fun _ => ?_) <;> (conv => whnf))
  · rw [wn] at h2
    refine loop_auto [0, 0 + 1] [] (fun x : Int × List NodeT × Nat => [(6, .d (.int .i64 x.1)), (5, .osl 500 3 0 x.2.1.length)]) (fun x => [(1000, tapeB l x.2.2), (500, .row 31 3 x.2.1.length (cellOf encN x.2.1))]) (fun x => (0 ≤ x.1 ∧ x.1 ≤ n) ∧ ((x.2.1.length : Int) ≤ n - x.1) ∧ Rst x.2.1 ∧ TapeOk l x.2.2) (fun x => x.1.toNat) (v, [], b) ?_ (fun x hx => ?_) ⟨by simp only; omega, by simp; omega, ⟨by simp, by simp, by simp, by simp⟩, h3⟩
    · conv => whnf
      repeat' first | ((first | refine Bt ?_ | refine Bf ?_ | refine Ni ?_ ?_ | refine Wq ?_ | refine Di ?_ | refine Oi ?_); conv => whnf) | (refine bc_intro (fun _ => ?_) (fun _ => ?_) <;> (conv => whnf))
      all_goals try first | exact Lq
    · obtain ⟨i, o, c⟩ := x
      obtain ⟨hi, ho, hr, hc⟩ := hx
      simp only at hi ho hr hc
      have hs : 0 < i → IntKind.i64.wrap (i - 1) = i - 1 := fun _ => wrap_of (by omega) (by omega)
      conv => whnf
      repeat' first | ((first | refine call_some_if (next_ex _) (fun _ => Fl) (Ni ?_ ?_); rintro ⟨v, b⟩ ⟨⟨h1, h2⟩, h3⟩ | refine call_some_if (key_ex _) (fun _ => Fl) (Ni ?_ ?_); rintro ⟨k, b⟩ ⟨g1, g2⟩ | refine call_some_if (word_ex _) (fun _ => Fl) (Ni ?_ ?_); rintro ⟨w, b⟩ ⟨f1, f2⟩ | refine call_if (is5_row (xs := o ++ [⟨IntKind.i64.wrap (1 + v), k, w⟩]) cB (snocN (jlt3 (DLe.of_eq rfl) (DLe.of_eq rfl) (DLe.of_eq rfl)))) Fl (Ni ?_ ?_) | refine NextVC.mk (i - 1, if checkF (o ++ [⟨IntKind.i64.wrap (1 + v), k, w⟩]) == 0 then o ++ [⟨IntKind.i64.wrap (1 + v), k, w⟩] else o, b) ?_ ?_ ?_ | refine Bt ?_ | refine Bf ?_ | refine Ni ?_ ?_ | refine Wq ?_ | refine Di ?_ | refine Oi ?_); conv => whnf) | (refine bc_intro (fun _ => ?_) (fun _ => ?_) <;> (conv => whnf))
      all_goals try simp only [decide_eq_true_eq, decide_eq_false_iff_not, cB, bB] at *
      all_goals try rw [w3] at *
      all_goals try first
        | (have hc0 : (checkF (o ++ [⟨IntKind.i64.wrap (1 + v), k, w⟩]) == 0) = true := by assumption
           simp only [hc0, if_true, List.length_append, List.length_singleton])
        | (have hc0 : (checkF (o ++ [⟨IntKind.i64.wrap (1 + v), k, w⟩]) == 0) = false := by assumption
           simp only [hc0, Bool.false_eq_true, if_false])
      all_goals first
        | exact trivial | omega | exact DLe.refl _ | exact RowLe.refl _ _ _ | exact DLe.of_eq (by rw [hs (by omega)]) | exact ⟨rfl, rfl, rfl⟩ | exact ⟨by omega, by omega⟩ | exact ⟨by omega, by omega, by omega⟩ | exact ⟨by assumption, by omega, by omega⟩ | assumption | exact row_snoc rfl (RowLe.refl _ _ _) (jlt3 (DLe.of_eq rfl) (DLe.of_eq rfl) (DLe.of_eq rfl)) | exact ⟨by simp, by simp; omega⟩ | exact ⟨by omega, by omega, checkF_iff.1 (by simpa using hc0), by assumption⟩ | exact ⟨by omega, by omega, hr, by assumption⟩
        | exact ⟨(o, c), ⟨⟨hr, by simp only; omega⟩, hc⟩, LeS.d (DLe.rows rfl (.of_eq fun i j _ _ => by rw [Nat.zero_add])), LeL.refl _, trivial⟩
  · exact ⟨h, by omega, by omega⟩
theorem roster_ex (m : Nat) {l : List Int} {a : Nat} {n : Int} : (TapeOk l a ∧ 0 ≤ n ∧ n ≤ 20) → ∃ x : List NodeT × Nat, ((Rst x.1 ∧ (x.1.length : Int) ≤ n) ∧ TapeOk l x.2) ∧
    Sx.Spec Tryz.prog GG 15 [.ptr m 0, .d (.int .i64 n)] [(m, tapeB l a)] (.d (encL encN 3 x.1)) [(m, tapeB l x.2)] := fun h => by
  obtain ⟨x, hx, hs⟩ := roster0 h
  exact ⟨x, hx, hs.at m⟩
theorem rst_one {x : NodeT} (h : 1 ≤ x.id ∧ x.id ≤ 2147483647 ∧ x.key.length ≤ 64 ∧ x.word ≤ 65535) : Rst [x] := ⟨by simp, by simpa using h, by simp, by simp⟩
theorem some0 {l : List Int} {a : Nat} {n : Int} : (TapeOk l a ∧ 1 ≤ n ∧ n ≤ 20) → ∃ x : List NodeT × Nat, ((Rst x.1 ∧ (x.1.length : Int) ≤ n) ∧ TapeOk l x.2) ∧
    Sx.Spec Tryz.prog GG 5 [.ptr 1000 0, .d (.int .i64 n)] [(1000, tapeB l a)] (.d (encL encN 3 x.1)) [(1000, tapeB l x.2)] := by
  rintro ⟨h, hn⟩
  have w3 : IntKind.i64.wrap (3 * n) = 3 * n := wrap_of (by omega) (by omega)
  have w1 : ∀ v : Int, 0 ≤ v → v ≤ 60 → IntKind.i64.wrap (1 + v) = 1 + v := fun v h1 h2 => wrap_of (by omega) (by omega)
  refine spec_some (E := EE) (fn := Tryz.f5) _ _ _ false eok (by kernel_rfl) (by kernel_rfl) Tryz.call5 (by kernel_rfl) (fun _ => by kernel_rfl) (fun _ => by kernel_rfl) ?_
  conv => whnf
  repeat' first | ((first | refine call_some_if (roster_ex _) (fun _ => Fl) (Ni ?_ ?_); rintro ⟨o, b⟩ ⟨⟨o1, o2⟩, o3⟩ | refine call_some_if (next_ex _) (fun _ => Fl) (Ni ?_ ?_); rintro ⟨v, b⟩ ⟨⟨h1, h2⟩, h3⟩ | refine call_some_if (key_ex _) (fun _ => Fl) (Ni ?_ ?_); rintro ⟨k, b⟩ ⟨g1, g2⟩ | refine call_some_if (word_ex _) (fun _ => Fl) (Ni ?_ ?_); rintro ⟨w, b⟩ ⟨f1, f2⟩ | refine Bt ?_ | refine Bf ?_ | refine Ni ?_ ?_ | refine Wq ?_ | refine Di ?_ | refine Oi ?_); conv => whnf) | (refine bc_intro (fun _ => ?_) (fun _ => ?_) <;> (conv => whnf))
  all_goals try rw [w3] at *
  all_goals first | assumption | exact ⟨by assumption, by omega, by omega⟩ | (refine ⟨([⟨IntKind.i64.wrap (1 + v), k, w⟩], b), ⟨⟨rst_one ⟨?_, ?_, by simp only at *; omega, by simp only at *; omega⟩, by simp only [List.length_singleton]; omega⟩, f2⟩, LeS.d (dle_lit (by kernel_rfl) rfl (row_one (jlt3 (DLe.of_eq rfl) (DLe.of_eq rfl) (DLe.of_eq rfl)))), LeL.refl _, trivial⟩ <;> (simp only at *; rw [w1 _ (by omega) (by omega)]; omega)) | exact ⟨(o, b), ⟨⟨o1, o2⟩, o3⟩, LeS.refl _, LeL.refl _, trivial⟩
theorem some_ex (m : Nat) {l : List Int} {a : Nat} {n : Int} : (TapeOk l a ∧ 1 ≤ n ∧ n ≤ 20) → ∃ x : List NodeT × Nat, ((Rst x.1 ∧ (x.1.length : Int) ≤ n) ∧ TapeOk l x.2) ∧
    Sx.Spec Tryz.prog GG 5 [.ptr m 0, .d (.int .i64 n)] [(m, tapeB l a)] (.d (encL encN 3 x.1)) [(m, tapeB l x.2)] := fun h => by
  obtain ⟨x, hx, hs⟩ := some0 h
  exact ⟨x, hx, hs.at m⟩
end Go.Proofs.YtiadnhbclipmhaaGreatDoor

namespace Go.Proofs.YtiadnhbclipmhaaGreatDoor
open Go Go.Sx Go.ChangeShapes Go.WideShapes Go.ChangeAt Go.RowKit
set_option linter.unusedVariables false
set_option linter.unusedSimpArgs false
set_option maxRecDepth 100000
theorem cloneN_spec {len : Nat} {get : Nat → Nat → D} : len ≤ 100000 → Sx.Spec Tryz.prog GG 62 [.d (.list len 3 get)] [] (.osl 2000 3 0 len) [(2000, .row 31 3 len get)] := by
  intro hl
  have cB : Tryz.prog.cellsOf 31 = 3 := by kernel_rfl
  have bB : Tryz.prog.bytesOf 31 = 32 := by kernel_rfl
  refine .byNil (fun h0 c => ?_) ?_
  · subst h0
    refine spec_intro (E := EE) (fn := Tryz.f62) eok (by kernel_rfl) (by kernel_rfl) Tryz.call62 (by kernel_rfl) (by kernel_rfl) ?_
    conv => whnf
    repeat' first | ((first | refine Bt ?_ | refine Bf ?_ | refine Ni ?_ ?_ | refine Wq ?_ | refine Di ?_ | refine Oi ?_); conv => whnf) | (refine bc_intro (fun _ => ?_) (fun _ => ?_) <;> (conv => whnf))
    all_goals first | exact trivial | exact ⟨rfl, rfl⟩
  · refine spec_intro (E := EE) (fn := Tryz.f62) eok (by kernel_rfl) (by kernel_rfl) Tryz.call62 (by kernel_rfl) (by kernel_rfl) ?_
    conv => whnf
    repeat' first | ((first | refine Bt ?_ | refine Bf ?_ | refine Ni ?_ ?_ | refine Wq ?_ | refine Di ?_ | refine Oi ?_); conv => whnf) | (refine bc_intro (fun _ => ?_) (fun _ => ?_) <;> (conv => whnf))
    all_goals try simp only [cB, bB] at *
    all_goals first
      | exact trivial | exact ⟨by simp only [List.length_nil, Nat.zero_add]; omega, by simp only [Nat.zero_add]; omega⟩ | exact ⟨by omega, by omega⟩ | exact ⟨rfl, rfl⟩ | exact ⟨rfl, rfl, rfl⟩ | exact ⟨trivial, trivial, Nat.zero_add _⟩
      | exact .of_eq fun i j hi hj => by simp
      | exact RowLe.refl _ _ _ | omega
theorem cloneN_at (m : Nat) {len : Nat} {get : Nat → Nat → D} : len ≤ 100000 → Sx.Spec Tryz.prog GG 62 [.d (.list len 3 get)] [] (.osl m 3 0 len) [(m, .row 31 3 len get)] := fun h => (cloneN_spec h).new1 m
theorem cloneI_spec {len : Nat} {get : Nat → Nat → D} : len ≤ 100000 → Sx.Spec Tryz.prog GG 40 [.d (.list len 1 get)] [] (.osl 2000 1 0 len) [(2000, .row 3 1 len get)] := by
  intro hl
  have cB : Tryz.prog.cellsOf 3 = 1 := by kernel_rfl
  have bB : Tryz.prog.bytesOf 3 = 8 := by kernel_rfl
  refine .byNil (fun h0 c => ?_) ?_
  · subst h0
    refine spec_intro (E := EE) (fn := Tryz.f40) eok (by kernel_rfl) (by kernel_rfl) Tryz.call40 (by kernel_rfl) (by kernel_rfl) ?_
    conv => whnf
    repeat' first | ((first | refine Bt ?_ | refine Bf ?_ | refine Ni ?_ ?_ | refine Wq ?_ | refine Di ?_ | refine Oi ?_); conv => whnf) | (refine bc_intro (fun _ => ?_) (fun _ => ?_) <;> (conv => whnf))
    all_goals first | exact trivial | exact ⟨rfl, rfl⟩
  · refine spec_intro (E := EE) (fn := Tryz.f40) eok (by kernel_rfl) (by kernel_rfl) Tryz.call40 (by kernel_rfl) (by kernel_rfl) ?_
    conv => whnf
    repeat' first | ((first | refine Bt ?_ | refine Bf ?_ | refine Ni ?_ ?_ | refine Wq ?_ | refine Di ?_ | refine Oi ?_); conv => whnf) | (refine bc_intro (fun _ => ?_) (fun _ => ?_) <;> (conv => whnf))
    all_goals try simp only [cB, bB] at *
    all_goals first
      | exact trivial | exact ⟨by simp only [List.length_nil, Nat.zero_add]; omega, by simp only [Nat.zero_add]; omega⟩ | exact ⟨by omega, by omega⟩ | exact ⟨rfl, rfl⟩ | exact ⟨rfl, rfl, rfl⟩ | exact ⟨trivial, trivial, Nat.zero_add _⟩
      | exact .of_eq fun i j hi hj => by simp
      | exact RowLe.refl _ _ _ | omega
theorem cloneI_at (m : Nat) {len : Nat} {get : Nat → Nat → D} : len ≤ 100000 → Sx.Spec Tryz.prog GG 40 [.d (.list len 1 get)] [] (.osl m 1 0 len) [(m, .row 3 1 len get)] := fun h => (cloneI_spec h).new1 m
theorem cloneR_spec {len : Nat} {get : Nat → Nat → D} : len ≤ 100000 → Sx.Spec Tryz.prog GG 41 [.d (.list len 4 get)] [] (.osl 2000 4 0 len) [(2000, .row 58 4 len get)] := by
  intro hl
  have cB : Tryz.prog.cellsOf 58 = 4 := by kernel_rfl
  have bB : Tryz.prog.bytesOf 58 = 32 := by kernel_rfl
  refine .byNil (fun h0 c => ?_) ?_
  · subst h0
    refine spec_intro (E := EE) (fn := Tryz.f41) eok (by kernel_rfl) (by kernel_rfl) Tryz.call41 (by kernel_rfl) (by kernel_rfl) ?_
    conv => whnf
    repeat' first | ((first | refine Bt ?_ | refine Bf ?_ | refine Ni ?_ ?_ | refine Wq ?_ | refine Di ?_ | refine Oi ?_); conv => whnf) | (refine bc_intro (fun _ => ?_) (fun _ => ?_) <;> (conv => whnf))
    all_goals first | exact trivial | exact ⟨rfl, rfl⟩
  · refine spec_intro (E := EE) (fn := Tryz.f41) eok (by kernel_rfl) (by kernel_rfl) Tryz.call41 (by kernel_rfl) (by kernel_rfl) ?_
    conv => whnf
    repeat' first | ((first | refine Bt ?_ | refine Bf ?_ | refine Ni ?_ ?_ | refine Wq ?_ | refine Di ?_ | refine Oi ?_); conv => whnf) | (refine bc_intro (fun _ => ?_) (fun _ => ?_) <;> (conv => whnf))
    all_goals try simp only [cB, bB] at *
    all_goals first
      | exact trivial | exact ⟨by simp only [List.length_nil, Nat.zero_add]; omega, by simp only [Nat.zero_add]; omega⟩ | exact ⟨by omega, by omega⟩ | exact ⟨rfl, rfl⟩ | exact ⟨rfl, rfl, rfl⟩ | exact ⟨trivial, trivial, Nat.zero_add _⟩
      | exact .of_eq fun i j hi hj => by simp
      | exact RowLe.refl _ _ _ | omega
theorem cloneR_at (m : Nat) {len : Nat} {get : Nat → Nat → D} : len ≤ 100000 → Sx.Spec Tryz.prog GG 41 [.d (.list len 4 get)] [] (.osl m 4 0 len) [(m, .row 58 4 len get)] := fun h => (cloneR_spec h).new1 m
theorem cloneK_spec {len : Nat} {get : Nat → Nat → D} : len ≤ 100000 → Sx.Spec Tryz.prog GG 60 [.d (.list len 2 get)] [] (.osl 2000 2 0 len) [(2000, .row 64 2 len get)] := by
  intro hl
  have cB : Tryz.prog.cellsOf 64 = 2 := by kernel_rfl
  have bB : Tryz.prog.bytesOf 64 = 16 := by kernel_rfl
  refine .byNil (fun h0 c => ?_) ?_
  · subst h0
    refine spec_intro (E := EE) (fn := Tryz.f60) eok (by kernel_rfl) (by kernel_rfl) Tryz.call60 (by kernel_rfl) (by kernel_rfl) ?_
    conv => whnf
    repeat' first | ((first | refine Bt ?_ | refine Bf ?_ | refine Ni ?_ ?_ | refine Wq ?_ | refine Di ?_ | refine Oi ?_); conv => whnf) | (refine bc_intro (fun _ => ?_) (fun _ => ?_) <;> (conv => whnf))
    all_goals first | exact trivial | exact ⟨rfl, rfl⟩
  · refine spec_intro (E := EE) (fn := Tryz.f60) eok (by kernel_rfl) (by kernel_rfl) Tryz.call60 (by kernel_rfl) (by kernel_rfl) ?_
    conv => whnf
    repeat' first | ((first | refine Bt ?_ | refine Bf ?_ | refine Ni ?_ ?_ | refine Wq ?_ | refine Di ?_ | refine Oi ?_); conv => whnf) | (refine bc_intro (fun _ => ?_) (fun _ => ?_) <;> (conv => whnf))
    all_goals try simp only [cB, bB] at *
    all_goals first
      | exact trivial | exact ⟨by simp only [List.length_nil, Nat.zero_add]; omega, by simp only [Nat.zero_add]; omega⟩ | exact ⟨by omega, by omega⟩ | exact ⟨rfl, rfl⟩ | exact ⟨rfl, rfl, rfl⟩ | exact ⟨trivial, trivial, Nat.zero_add _⟩
      | exact .of_eq fun i j hi hj => by simp
      | exact RowLe.refl _ _ _ | omega
theorem cloneK_at (m : Nat) {len : Nat} {get : Nat → Nat → D} : len ≤ 100000 → Sx.Spec Tryz.prog GG 60 [.d (.list len 2 get)] [] (.osl m 2 0 len) [(m, .row 64 2 len get)] := fun h => (cloneK_spec h).new1 m
end Go.Proofs.YtiadnhbclipmhaaGreatDoor
