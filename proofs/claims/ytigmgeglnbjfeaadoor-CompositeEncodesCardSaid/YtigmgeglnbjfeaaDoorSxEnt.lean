/- Part of a symbolic executor over the model, proved sound, with plain laws: SxEnt. Written for these claims. -/
import Derived.Test.YtigmgeglnbjfeaaDoorSxExec
namespace Go.Sx
open Go
set_option linter.unusedVariables false
set_option linter.unusedSimpArgs false

variable {P : Program} {G : Nat → Option (Nat × (Nat → D))} {nt : Nat} {C : Ctx} {I : Nat → Prop} {ρ : Nat → Loc} {F : Fs} {a : Act} {w : World} {E : List Nat} {T : Nat}

/-- data that says no more -/
structure DLe (x y : D) : Prop where
  le : ∀ (I : Nat → Prop) (w : World) (v : Value), RepD I w x v → RepD I w y v
theorem DLe.refl (x : D) : DLe x x := ⟨fun _ _ _ h => h⟩
theorem DLe.of_eq {x y : D} (h : x = y) : DLe x y := h ▸ DLe.refl x
theorem DLe.nil {sz : Nat} {get : Nat → Nat → D} : DLe (.val (.slice none 0 0)) (.list 0 sz get) :=
  ⟨fun _ _ _ h => by obtain ⟨rfl, _⟩ := h; exact ⟨none, 0, rfl, Nat.le_refl _, fun h => absurd h (by simp)⟩⟩
theorem DLe.list {len sz len' sz' : Nat} {get get' : Nat → Nat → D} (h1 : len = len') (h2 : 0 < len' → sz = sz') (h : ∀ i j, i < len' → j < sz' → DLe (get i j) (get' i j)) : DLe (.list len sz get) (.list len' sz' get') := by
  subst h1
  refine ⟨fun I w v hv => ?_⟩
  obtain ⟨a, cap, rfl, hc, hr⟩ := hv
  refine ⟨a, cap, rfl, hc, fun hl => ?_⟩
  obtain ⟨b, o, ha, hI, hcell⟩ := hr hl
  have h2 := h2 hl
  subst h2
  refine ⟨b, o, ha, hI, fun i j hi hj => ?_⟩
  obtain ⟨u, hu, hr⟩ := hcell i j hi hj
  exact ⟨u, hu, (h i j hi hj).le _ _ _ hr⟩

/-- rows -/
structure RowLe (len sz : Nat) (get get' : Nat → Nat → D) : Prop where
  le : ∀ i j, i < len → j < sz → DLe (get i j) (get' i j)
theorem RowLe.refl (len sz : Nat) (get : Nat → Nat → D) : RowLe len sz get get := ⟨fun _ _ _ _ => DLe.refl _⟩
theorem RowLe.of_eq {len sz : Nat} {get get' : Nat → Nat → D} (h : ∀ i j, i < len → j < sz → get i j = get' i j) : RowLe len sz get get' := ⟨fun i j hi hj => DLe.of_eq (h i j hi hj)⟩

/-! ### a state that says no more, up to names -/
abbrev Ren := List (Nat × (Nat ⊕ Nat))   -- target name ↦ source name | a nil row of that element size

def lookR : Ren → Nat → Option (Nat ⊕ Nat)
  | [], _ => none
  | (i, v) :: l, k => match Nat.beq i k with
    | true => some v
    | false => lookR l k

def bindN (n' n : Nat) (r : Ren) (k : Ren → Prop) : Prop :=
  match lookR r n' with
  | some (.inl m) => match Nat.beq m n with
    | true => k r
    | false => Stuck "name bound twice"
  | some (.inr _) => Stuck "name bound to nil"
  | none => k ((n', .inl n) :: r)
def bindNil (n' sz : Nat) (r : Ren) (k : Ren → Prop) : Prop :=
  match lookR r n' with
  | some (.inl _) => Stuck "nil bound to name"
  | some (.inr s) => match Nat.beq s sz with
    | true => k r
    | false => Stuck "nil bound twice"
  | none => k ((n', .inr sz) :: r)

mutual
def entS : SV → SV → Ren → (Ren → Prop) → Prop
  | _, .junk, r, k => k r
  | .d (.val (.slice none 0 0)), .osl n' s' o' l', r, k => Need (o' = 0 ∧ l' = 0) (bindNil n' s' r k)
  | .d x, .d y, r, k => Need (DLe x y) (k r)
  | .ptr n o, .ptr n' o', r, k => match Nat.beq o o' with
    | true => bindN n' n r k
    | false => Stuck "offset"
  | .osl n s o l, .osl n' s' o' l', r, k => Need (s = s' ∧ o = o' ∧ l = l') (bindN n' n r k)
  | .agg cs, .agg ds, r, k => entL cs ds r k
  | .tup cs, .tup ds, r, k => entL cs ds r k
  | .clo f cs, .clo g ds, r, k => match Nat.beq f g with
    | true => entL cs ds r k
    | false => Stuck "closure"
  | .cptr s g, .cptr s' g', r, k => Need (s = s' ∧ g = g') (k r)
  | .mp n, .mp n', r, k => bindN n' n r k
  | _, _, _, _ => Stuck "values"
def entL : List SV → List SV → Ren → (Ren → Prop) → Prop
  | [], [], r, k => k r
  | c :: cs, d :: ds, r, k => entS c d r fun r => entL cs ds r k
  | _, _, _, _ => Stuck "length"
end

def entSlots (s : List (Nat × SV)) : List (Nat × SV) → Ren → (Ren → Prop) → Prop
  | [], r, k => k r
  | (i, v) :: l, r, k => match look s i with
    | some u => entS u v r fun r => entSlots s l r k
    | none => Stuck "no such slot"

/-- boxes first: they may bind names of rows -/
def entBoxes (o : List (Nat × Blk)) : List (Nat × Blk) → Ren → (Ren → Prop) → Prop
  | [], r, k => k r
  | (n', .box ds) :: l, r, k => match lookR r n' with
    | some (.inl n) => match lookO o n with
      | some (.box cs) => entL cs ds r fun r => entBoxes o l r k
      | _ => Stuck "no such box"
    | some (.inr _) => Stuck "box nil"
    | none => match lookO o n' with
      | some (.box cs) => entL cs ds ((n', .inl n') :: r) fun r => entBoxes o l r k
      | _ => Stuck "no such box"
  | _ :: l, r, k => entBoxes o l r k
def entRows (o : List (Nat × Blk)) : List (Nat × Blk) → Ren → (Ren → Prop) → Prop
  | [], r, k => k r
  | (_, .box _) :: l, r, k => entRows o l r k
  | (n', .row E' sz' len' g') :: l, r, k => match lookR r n' with
    | some (.inl n) => match lookO o n with
      | some (.row E sz len g) => Need (E = E' ∧ sz = sz' ∧ len = len') (Need (RowLe len' sz' g g') (entRows o l r k))
      | _ => Stuck "no such row"
    | some (.inr s) => Need (s = sz' ∧ len' = 0) (entRows o l r k)
    | none => match lookO o n' with
      | some (.row E sz len g) => Need (E = E' ∧ sz = sz' ∧ len = len') (Need (RowLe len' sz' g g') (entRows o l ((n', .inl n') :: r) k))
      | _ => Stuck "no such row"
  | (n', .iter s' p') :: l, r, k => match lookR r n' with
    | some (.inl n) => match lookO o n with
      | some (.iter s p) => Need (s = s' ∧ p = p') (entRows o l r k)
      | _ => Stuck "no such iterator"
    | some (.inr _) => Stuck "iterator nil"
    | none => match lookO o n' with
      | some (.iter s p) => Need (s = s' ∧ p = p') (entRows o l ((n', .inl n') :: r) k)
      | _ => Stuck "no such iterator"
  | (n', .smap kd' g') :: l, r, k => match lookR r n' with
    | some (.inl n) => match lookO o n with
      | some (.smap kd g) => Need (kd = kd' ∧ g = g') (entRows o l r k)
      | _ => Stuck "no such map"
    | some (.inr _) => Stuck "map nil"
    | none => match lookO o n' with
      | some (.smap kd g) => Need (kd = kd' ∧ g = g') (entRows o l ((n', .inl n') :: r) k)
      | _ => Stuck "no such map"
  | (_, .arr _ _) :: _, _, _ => Stuck "array"

/-- own names of the target come from different names -/
def distinctR (r : Ren) : List (Nat × Blk) → List Nat → Bool
  | [], _ => true
  | (n', _) :: l, seen => match lookR r n' with
    | some (.inl n) => match memN n seen with
      | true => false
      | false => distinctR r l (n :: seen)
    | some (.inr _) => distinctR r l seen
    | none => false
/-- the first names stay -/
def stayR (r : Ren) (o : List (Nat × Blk)) : List Nat → Bool
  | [] => true
  | n :: l => match lookR r n, lookO o n with
    | some (.inl m), some _ => match Nat.beq m n with
      | true => stayR r o l
      | false => false
    | _, _ => false
def keysR : Ren → List Nat
  | [] => []
  | (n, _) :: l => n :: keysR l
def subN (l : List Nat) : List Nat → Bool
  | [] => true
  | n :: r => match memN n l with
    | true => subN l r
    | false => false

def entK : St → St → Prop
  | ⟨s, o, _, n0⟩, ⟨s', o', nm', n0'⟩ => entSlots s s' [] fun r => entBoxes o o' r fun r => entRows o o' r fun r =>
    match distinctR r o' [], stayR r o' n0, subN nm' (keysR r), subN n0' n0 with
    | true, true, true, true => True
    | _, _, _, _ => Stuck "names"

def ConcEx (G : Nat → Option (Nat × (Nat → D))) (nt : Nat) (C : Ctx) (σ : St) (a : Act) (w : World) : Prop := ∃ I ρ, Conc G nt C I ρ (toF σ) a w

/-- what a renaming means -/
def locOf (ρ : Nat → Loc) : Nat ⊕ Nat → Loc
  | .inl n => ρ n
  | .inr sz => ⟨0, 0, 0, sz, 0⟩
def rhoR (ρ : Nat → Loc) (r : Ren) (n : Nat) : Loc :=
  match lookR r n with
  | some x => locOf ρ x
  | none => ρ n
def ExtR (r r' : Ren) : Prop := ∀ n x, lookR r n = some x → lookR r' n = some x

theorem ExtR.refl (r : Ren) : ExtR r r := fun _ _ h => h
theorem ExtR.trans {r s t : Ren} (h : ExtR r s) (k : ExtR s t) : ExtR r t := fun n x e => k n x (h n x e)

theorem lookR_cons (i : Nat) (v : Nat ⊕ Nat) (l : Ren) (k : Nat) : lookR ((i, v) :: l) k = if i = k then some v else lookR l k := by
  simp only [lookR]
  split
  · rename_i h; rw [if_pos ((beq_iff _ _).1 h)]
  · rename_i h; rw [if_neg (fun e => by rw [(beq_iff _ _).2 e] at h; cases h)]
theorem ext_cons {n : Nat} {x : Nat ⊕ Nat} {r : Ren} (h : lookR r n = none) : ExtR r ((n, x) :: r) := by
  intro m y hm
  rw [lookR_cons]
  by_cases e : n = m
  · subst e; rw [h] at hm; cases hm
  · simp [e, hm]

theorem bindN_inv {n' n : Nat} {r : Ren} {k : Ren → Prop} (h : bindN n' n r k) : ∃ r', k r' ∧ ExtR r r' ∧ lookR r' n' = some (.inl n) := by
  unfold bindN at h
  split at h
  · rename_i m hm
    split at h
    · rename_i e
      have e := (beq_iff _ _).1 e
      subst e
      exact ⟨r, h, .refl r, hm⟩
    · exact h.out.elim
  · exact h.out.elim
  · rename_i hm
    exact ⟨_, h, ext_cons hm, by rw [lookR_cons]; simp⟩
theorem bindNil_inv {n' sz : Nat} {r : Ren} {k : Ren → Prop} (h : bindNil n' sz r k) : ∃ r', k r' ∧ ExtR r r' ∧ lookR r' n' = some (.inr sz) := by
  unfold bindNil at h
  split at h
  · exact h.out.elim
  · rename_i m hm
    split at h
    · rename_i e
      have e := (beq_iff _ _).1 e
      subst e
      exact ⟨r, h, .refl r, hm⟩
    · exact h.out.elim
  · rename_i hm
    exact ⟨_, h, ext_cons hm, by rw [lookR_cons]; simp⟩

/-- the names of a value are bound -/
def BoundS (r : Ren) (v : SV) : Prop := ∀ n, inS n v → (lookR r n).isSome = true
def BoundL (r : Ren) (cs : List SV) : Prop := ∀ n, inL n cs → (lookR r n).isSome = true
theorem ExtR.bound {r r' : Ren} (h : ExtR r r') {n : Nat} (hb : (lookR r n).isSome = true) : (lookR r' n).isSome = true := by
  obtain ⟨x, hx⟩ := Option.isSome_iff_exists.1 hb
  rw [h n x hx]; rfl

/-- what entS gives, read under any later renaming -/
def EntS (v v' : SV) (r : Ren) : Prop := BoundS r v' ∧ ∀ (r' : Ren), ExtR r r' → ∀ (I : Nat → Prop) (ρ : Nat → Loc) (w : World) (u : Value), RepS I ρ w v u → RepS I (rhoR ρ r') w v' u
def EntL (cs ds : List SV) (r : Ren) : Prop := BoundL r ds ∧ ∀ (r' : Ren), ExtR r r' → ∀ (I : Nat → Prop) (ρ : Nat → Loc) (w : World) (us : List Value), RepL I ρ w cs us → RepL I (rhoR ρ r') w ds us

theorem EntS.ext {v v' : SV} {r r' : Ren} (h : EntS v v' r) (e : ExtR r r') : EntS v v' r' := ⟨fun n hn => e.bound (h.1 n hn), fun r'' e' => h.2 r'' (e.trans e')⟩
theorem EntL.ext {v v' : List SV} {r r' : Ren} (h : EntL v v' r) (e : ExtR r r') : EntL v v' r' := ⟨fun n hn => e.bound (h.1 n hn), fun r'' e' => h.2 r'' (e.trans e')⟩

theorem rhoR_of {r r' : Ren} {n : Nat} {x : Nat ⊕ Nat} (h : lookR r n = some x) (e : ExtR r r') : rhoR ρ r' n = locOf ρ x := by
  unfold rhoR; rw [e n x h]

mutual
theorem entS_inv : ∀ {v v' : SV} {r : Ren} {k : Ren → Prop}, entS v v' r k → ∃ r', k r' ∧ ExtR r r' ∧ EntS v v' r' := by
  intro v v' r k h
  unfold entS at h
  split at h
  · exact ⟨r, h, .refl r, by simp [BoundS, inS], fun _ _ _ _ _ _ _ => by simp only [RepS]⟩
  · obtain ⟨⟨rfl, rfl⟩, h⟩ := h
    obtain ⟨r', h1, h2, h3⟩ := bindNil_inv h
    refine ⟨r', h1, h2, ?_, ?_⟩
    · intro n hn; simp only [inS] at hn; subst hn; rw [h3]; rfl
    · intro r'' e I ρ w u hu
      simp only [RepS, RepD] at hu ⊢
      obtain ⟨rfl, _⟩ := hu
      rw [rhoR_of h3 e]
      exact ⟨rfl, Nat.le_refl _, Nat.le_refl _, none, rfl, .inr rfl⟩
  · obtain ⟨hd, h⟩ := h
    refine ⟨r, h, .refl r, by simp [BoundS, inS], ?_⟩
    intro r'' e I ρ w u hu
    simp only [RepS] at hu ⊢
    exact hd.le _ _ _ hu
  · split at h
    · rename_i e
      have e := (beq_iff _ _).1 e
      subst e
      obtain ⟨r', h1, h2, h3⟩ := bindN_inv h
      refine ⟨r', h1, h2, ?_, ?_⟩
      · intro n hn; simp only [inS] at hn; subst hn; rw [h3]; rfl
      · intro r'' e I ρ w u hu
        simp only [RepS] at hu ⊢
        rw [rhoR_of h3 e]; exact hu
    · exact h.out.elim
  · obtain ⟨⟨rfl, rfl, rfl⟩, h⟩ := h
    obtain ⟨r', h1, h2, h3⟩ := bindN_inv h
    refine ⟨r', h1, h2, ?_, ?_⟩
    · intro n hn; simp only [inS] at hn; subst hn; rw [h3]; rfl
    · intro r'' e I ρ w u hu
      simp only [RepS] at hu ⊢
      rw [rhoR_of h3 e]; exact hu
  · obtain ⟨r', h1, h2, h3⟩ := entL_inv h
    refine ⟨r', h1, h2, fun n hn => h3.1 n (by simpa only [inS] using hn), ?_⟩
    intro r'' e I ρ w u hu
    simp only [RepS] at hu ⊢
    obtain ⟨us, hv, hr, h1⟩ := hu
    exact ⟨us, hv, h3.2 r'' e I ρ w us hr, h1⟩
  · obtain ⟨r', h1, h2, h3⟩ := entL_inv h
    refine ⟨r', h1, h2, fun n hn => h3.1 n (by simpa only [inS] using hn), ?_⟩
    intro r'' e I ρ w u hu
    simp only [RepS] at hu ⊢
    obtain ⟨us, hv, hr⟩ := hu
    exact ⟨us, hv, h3.2 r'' e I ρ w us hr⟩
  · split at h
    · rename_i e
      have e := (beq_iff _ _).1 e
      subst e
      obtain ⟨r', h1, h2, h3⟩ := entL_inv h
      refine ⟨r', h1, h2, fun n hn => h3.1 n (by simpa only [inS] using hn), ?_⟩
      intro r'' e I ρ w u hu
      simp only [RepS] at hu ⊢
      obtain ⟨us, hv, hr⟩ := hu
      exact ⟨us, hv, h3.2 r'' e I ρ w us hr⟩
    · exact h.out.elim
  · obtain ⟨⟨rfl, rfl⟩, h⟩ := h
    refine ⟨r, h, .refl r, by simp [BoundS, inS], ?_⟩
    intro r'' e I ρ w u hu
    simp only [RepS] at hu ⊢
    exact hu
  · obtain ⟨r', h1, h2, h3⟩ := bindN_inv h
    refine ⟨r', h1, h2, ?_, ?_⟩
    · intro n hn; simp only [inS] at hn; subst hn; rw [h3]; rfl
    · intro r'' e I ρ w u hu
      simp only [RepS] at hu ⊢
      rw [rhoR_of h3 e]; exact hu
  · exact h.out.elim
theorem entL_inv : ∀ {cs ds : List SV} {r : Ren} {k : Ren → Prop}, entL cs ds r k → ∃ r', k r' ∧ ExtR r r' ∧ EntL cs ds r' := by
  intro cs ds r k h
  unfold entL at h
  split at h
  · exact ⟨r, h, .refl r, by simp [BoundL, inL], fun _ _ _ _ _ _ h => h⟩
  · obtain ⟨r1, h1, e1, h2⟩ := entS_inv h
    obtain ⟨r2, h3, e2, h4⟩ := entL_inv h1
    refine ⟨r2, h3, e1.trans e2, ?_, ?_⟩
    · intro n hn
      simp only [inL] at hn
      rcases hn with hn | hn
      · exact e2.bound (h2.1 n hn)
      · exact h4.1 n hn
    · intro r'' e I ρ w us hu
      simp only [RepL] at hu ⊢
      obtain ⟨u, t, rfl, g1, g2⟩ := hu
      exact ⟨u, t, rfl, h2.2 r'' (e2.trans e) I ρ w u g1, h4.2 r'' e I ρ w t g2⟩
  · exact h.out.elim
end

end Go.Sx
