/- Part of a symbolic executor over the model, proved sound, with plain laws: SxLoop. Written for these claims. -/
import Derived.Test.YtigmgeglnbjfeaaDoorSxOne
namespace Go.Sx
open Go
set_option linter.unusedVariables false
set_option linter.unusedSimpArgs false

variable {P : Program} {G : Nat → Option (Nat × (Nat → D))} {nt : Nat} {E : List Nat}

theorem lpos {α : Type} {l : List α} (h : ¬ l = []) : 0 < l.length := List.length_pos_iff.2 h
theorem wrap_of {n : Int} (h1 : -9223372036854775808 ≤ n) (h2 : n < 9223372036854775808) : IntKind.i64.wrap n = n := by
  simp [IntKind.wrap, IntKind.bits, IntKind.signed]
  split <;> omega
theorem wrap_mod (n : Int) : ∃ q : Int, IntKind.i64.wrap n = n - 18446744073709551616 * q ∧ -9223372036854775808 ≤ IntKind.i64.wrap n ∧ IntKind.i64.wrap n < 9223372036854775808 := by
  simp [IntKind.wrap, IntKind.bits, IntKind.signed]
  split
  · exact ⟨⟨n / 18446744073709551616 + 1, by omega⟩, by omega, by omega⟩
  · exact ⟨⟨n / 18446744073709551616, by omega⟩, by omega, by omega⟩
theorem wrap_succ {i n : Nat} (h : i < n) (hn : n ≤ 9223372036854775807) : IntKind.i64.wrap ((i : Int) + 1) = ((i + 1 : Nat) : Int) := by
  rw [wrap_of (by omega) (by omega)]; rfl
def filtS (keep : List Nat) (tail : List (Nat × SV)) : List (Nat × SV) → (List (Nat × SV) → Prop) → Prop
  | [], k => k tail
  | (i, v) :: l, k => match memN i keep with
    | true => filtS keep tail l fun r => k ((i, v) :: r)
    | false => filtS keep tail l k
def filtO (keep : List Nat) (tail : List (Nat × Blk)) : List (Nat × Blk) → (List (Nat × Blk) → Prop) → Prop
  | [], k => k tail
  | (i, v) :: l, k => match memN i keep with
    | true => filtO keep tail l fun r => k ((i, v) :: r)
    | false => filtO keep tail l k
def keysK (tail : List Nat) : List (Nat × Blk) → (List Nat → Prop) → Prop
  | [], k => k tail
  | (i, _) :: l, k => keysK tail l fun r => k (i :: r)
def invK (keep keepO : List Nat) (slots : List (Nat × SV)) (own : List (Nat × Blk)) : St → (St → Prop) → Prop
  | ⟨s, o, _, n0⟩, k => filtS keep slots s fun s => filtO keepO own o fun o => keysK n0 o fun nm => k ⟨s, o, nm, n0⟩

theorem filtS_eq {keep : List Nat} {tail : List (Nat × SV)} : ∀ {l : List (Nat × SV)}, ∃ r, ∀ k, filtS keep tail l k ↔ k r
  | [] => ⟨tail, fun _ => Iff.rfl⟩
  | (i, v) :: l => by
    obtain ⟨r, h⟩ := filtS_eq (keep := keep) (tail := tail) (l := l)
    cases hm : memN i keep with
    | true => exact ⟨(i, v) :: r, fun k => by simp only [filtS, hm, h]⟩
    | false => exact ⟨r, fun k => by simp only [filtS, hm, h]⟩
theorem filtO_eq {keep : List Nat} {tail : List (Nat × Blk)} : ∀ {l : List (Nat × Blk)}, ∃ r, ∀ k, filtO keep tail l k ↔ k r
  | [] => ⟨tail, fun _ => Iff.rfl⟩
  | (i, v) :: l => by
    obtain ⟨r, h⟩ := filtO_eq (keep := keep) (tail := tail) (l := l)
    cases hm : memN i keep with
    | true => exact ⟨(i, v) :: r, fun k => by simp only [filtO, hm, h]⟩
    | false => exact ⟨r, fun k => by simp only [filtO, hm, h]⟩
theorem keysK_eq {tail : List Nat} : ∀ {l : List (Nat × Blk)}, ∃ r, ∀ k, keysK tail l k ↔ k r
  | [] => ⟨tail, fun _ => Iff.rfl⟩
  | (i, v) :: l => by
    obtain ⟨r, h⟩ := keysK_eq (tail := tail) (l := l)
    exact ⟨i :: r, fun k => by simp only [keysK, h]⟩
theorem invK_eq {keep keepO : List Nat} {slots : List (Nat × SV)} {own : List (Nat × Blk)} {σ : St} : ∃ r, ∀ k, invK keep keepO slots own σ k ↔ k r := by
  obtain ⟨s, o, nm, n0⟩ := σ
  obtain ⟨s', h1⟩ := filtS_eq (keep := keep) (tail := slots) (l := s)
  obtain ⟨o', h2⟩ := filtO_eq (keep := keepO) (tail := own) (l := o)
  obtain ⟨nm', h3⟩ := keysK_eq (tail := n0) (l := o')
  exact ⟨⟨s', o', nm', n0⟩, fun k => by simp only [invK, h1, h2, h3]⟩

/-- The next round waits for its ghost. -/
inductive NextVC {X : Type} (pre : X → Prop) (μ : X → Nat) (m : Nat) (ent : X → Prop) : Prop where
  | mk (x : X) (h : ent x) (hp : pre x) (hm : μ x < m)

theorem entC_of {σ σ' : St} (h : entK σ σ') : EntC σ σ' := ⟨fun hc => entK_sound h hc⟩

/-- The rule for loops: the slots and the own blocks that stay, those that change with the ghost x. -/
theorem loop_auto {X : Type} {c : Code} {σ : St} {K : Ex → St → Prop} (keep keepO : List Nat) (slots : X → List (Nat × SV)) (own : X → List (Nat × Blk)) (pre : X → Prop) (μ : X → Nat) (x0 : X)
    (hent : invK keep keepO (slots x0) (own x0) σ fun σ' => entK σ σ')
    (step : ∀ x, pre x → invK keep keepO (slots x) (own x) σ fun σ1 => exec P G E nt c σ1 fun e σ' => match e with
      | .normal => NextVC pre μ (μ x) fun x' => invK keep keepO (slots x') (own x') σ fun σ2 => entK σ' σ2
      | .exit i => K (.exit i) σ'
      | .ret => K .ret σ')
    (h0 : pre x0) : LoopVC (fun σ K => exec P G E nt c σ K) σ K := by
  have hI : ∀ x, ∃ r, ∀ k, invK keep keepO (slots x) (own x) σ k ↔ k r := fun x => invK_eq
  have key : ∀ n x, μ x < n → pre x → loopN (fun σ K => exec P G E nt c σ K) n (Classical.choose (hI x)) K := by
    intro n
    induction n with
    | zero => intro x h; exact absurd h (Nat.not_lt_zero _)
    | succ n ih =>
      intro x hn hx
      refine exec_mono ?_ ((Classical.choose_spec (hI x) _).1 (step x hx))
      intro e σ' h
      cases e with
      | normal =>
        obtain ⟨x', h1, h2, h3⟩ := h
        exact ⟨_, entC_of ((Classical.choose_spec (hI x') _).1 h1), ih x' (by omega) h2⟩
      | exit i => exact h
      | ret => exact h
  exact ⟨_, μ x0 + 1, entC_of ((Classical.choose_spec (hI x0) _).1 hent), key _ x0 (Nat.lt_succ_self _) h0⟩

/-- n rounds at most, each run as it stands -/
def loopU (step : St → (Ex → St → Prop) → Prop) : Nat → St → (Ex → St → Prop) → Prop
  | 0, _, _ => Stuck "rounds"
  | n + 1, σ, K => step σ fun e σ' => match e with
    | .normal => loopU step n σ' K
    | .exit i => K (.exit i) σ'
    | .ret => K .ret σ'
theorem loopU_N {c : Code} : ∀ {n : Nat} {σ : St} {K : Ex → St → Prop}, loopU (fun σ K => exec P G E nt c σ K) n σ K → loopN (fun σ K => exec P G E nt c σ K) n σ K
  | 0, _, _, h => h.out.elim
  | n + 1, σ, K, h => by
    refine exec_mono ?_ (show exec P G E nt c σ _ from h)
    intro e σ' h
    cases e with
    | normal => exact ⟨σ', EntC.refl σ', loopU_N h⟩
    | exit i => exact h
    | ret => exact h
/-- a loop with a known number of rounds -/
theorem loop_unroll {c : Code} {σ : St} {K : Ex → St → Prop} (n : Nat) (h : loopU (fun σ K => exec P G E nt c σ K) n σ K) : LoopVC (fun σ K => exec P G E nt c σ K) σ K :=
  ⟨σ, n, EntC.refl σ, loopU_N h⟩

/-- all i below n, one by one -/
def AllLt (p : Nat → Prop) : Nat → Prop
  | 0 => True
  | n + 1 => AllLt p n ∧ p n
theorem AllLt.out {p : Nat → Prop} : ∀ {n : Nat}, AllLt p n → ∀ i, i < n → p i
  | 0, _, i, h => absurd h (by omega)
  | n + 1, h, i, hi => by
    by_cases e : i = n
    · subst e; exact h.2
    · exact AllLt.out h.1 i (by omega)
theorem RowLe.all {len sz : Nat} {get get' : Nat → Nat → D} (h : AllLt (fun i => AllLt (fun j => get i j = get' i j) sz) len) : RowLe len sz get get' :=
  .of_eq fun i j hi hj => (h.out i hi).out j hj

end Go.Sx
