/- Part of a symbolic executor over the model, proved sound, with plain laws: SxEnt. Written for these claims. -/
import Derived.Test.YtiadnhbclipmhaaGreatDoorSxRun
set_option linter.unusedVariables false
set_option linter.unusedSimpArgs false
namespace Go.Sx
open Go
variable {P : Program} {G : Nat → Option (Nat × (Nat → D))} {nt : Nat} {C : Ctx} {I : Nat → Prop} {ρ : Nat → Loc} {F : Fs} {a : Act} {w : World} {E : List Nat} {T : Nat}
structure DLe (x y : D) : Prop where
  le : ∀ (I : Nat → Prop) (w : World) (v : Value), RepD I w x v → RepD I w y v
theorem DLe.refl (x : D) : DLe x x := ⟨fun _ _ _ h => h⟩
theorem DLe.of_eq {x y : D} (h : x = y) : DLe x y := h ▸ DLe.refl x
theorem DLe.nil {sz : Nat} {get : Nat → Nat → D} : DLe (.val (.slice none 0 0)) (.list 0 sz get) :=
  ⟨fun _ _ _ h => by obtain ⟨rfl, _⟩ := h; exact ⟨none, 0, rfl, Nat.le_refl _, fun h => absurd h (by simp)⟩⟩
theorem DLe.list {len sz len' sz' : Nat} {get get' : Nat → Nat → D} (h1 : len = len') (h2 : 0 < len' → sz = sz') (h : ∀ i j, i < len' → j < sz' → DLe (get i j) (get' i j)) : DLe (.list len sz get) (.list len' sz' get') := by
  subst h1
  refine ⟨fun I w v hv => ?_⟩
  obtain ⟨a, cap, rfl, hc, hr⟩ := hv
  refine ⟨a, cap, rfl, hc, fun hl => ?_⟩
  obtain ⟨b, o, ha, hI, hcell⟩ := hr hl
  have h2 := h2 hl
  subst h2
  refine ⟨b, o, ha, hI, fun i j hi hj => ?_⟩
  obtain ⟨u, hu, hr⟩ := hcell i j hi hj
  exact ⟨u, hu, (h i j hi hj).le _ _ _ hr⟩
structure RowLe (len sz : Nat) (get get' : Nat → Nat → D) : Prop where
  le : ∀ i j, i < len → j < sz → DLe (get i j) (get' i j)
theorem RowLe.refl (len sz : Nat) (get : Nat → Nat → D) : RowLe len sz get get := ⟨fun _ _ _ _ => DLe.refl _⟩
theorem RowLe.of_eq {len sz : Nat} {get get' : Nat → Nat → D} (h : ∀ i j, i < len → j < sz → get i j = get' i j) : RowLe len sz get get' := ⟨fun i j hi hj => DLe.of_eq (h i j hi hj)⟩
structure FCLe (x y : FC) : Prop where
  le : ∀ (I : Nat → Prop) (ρ : Nat → Loc) (fn : Nat) (w : World) (v : Value), RepF I ρ fn w x v → RepF I ρ fn w y v
theorem FCLe.refl (x : FC) : FCLe x x := ⟨fun _ _ _ _ _ h => h⟩
theorem FCLe.of_eq {x y : FC} (h : x = y) : FCLe x y := h ▸ FCLe.refl x
theorem FCLe.d {x y : D} (h : DLe x y) : FCLe (.d x) (.d y) := ⟨fun _ _ _ _ _ k => h.le _ _ _ k⟩
structure FRowLe (len sz : Nat) (get get' : Nat → Nat → FC) : Prop where
  le : ∀ i j, i < len → j < sz → FCLe (get i j) (get' i j)
theorem FRowLe.refl (len sz : Nat) (get : Nat → Nat → FC) : FRowLe len sz get get := ⟨fun _ _ _ _ => FCLe.refl _⟩
theorem FRowLe.of_eq {len sz : Nat} {get get' : Nat → Nat → FC} (h : ∀ i j, i < len → j < sz → get i j = get' i j) : FRowLe len sz get get' := ⟨fun i j hi hj => FCLe.of_eq (h i j hi hj)⟩
structure FamLe (rows rows' : Nat → Option FRow) : Prop where
  le : ∀ k r', rows' k = some r' → ∃ r, rows k = some r ∧ r.E = r'.E ∧ r.sz = r'.sz ∧ r.len = r'.len ∧ RowLe r.len r.sz r.get r'.get
theorem FamLe.refl (rows : Nat → Option FRow) : FamLe rows rows := ⟨fun k r h => ⟨r, h, rfl, rfl, rfl, RowLe.refl _ _ _⟩⟩
theorem FamLe.of_eq {rows rows' : Nat → Option FRow} (h : ∀ k, rows k = rows' k) : FamLe rows rows' := by
  rw [show rows = rows' from funext h]; exact FamLe.refl _
structure FLLe (cs ds : List FC) : Prop where
  len : cs.length = ds.length
  le : ∀ (I : Nat → Prop) (ρ : Nat → Loc) (fn : Nat) (w : World) (us : List Value), RepFL I ρ fn w cs us → RepFL I ρ fn w ds us
theorem FLLe.refl (cs : List FC) : FLLe cs cs := ⟨rfl, fun _ _ _ _ _ h => h⟩
theorem FLLe.cons {c d : FC} {cs ds : List FC} (h : FCLe c d) (k : FLLe cs ds) : FLLe (c :: cs) (d :: ds) :=
  ⟨by rw [List.length_cons, List.length_cons, k.len], fun I ρ fn w us h0 => by
    obtain ⟨u, r, rfl, h1, h2⟩ := h0
    exact ⟨u, r, rfl, h.le _ _ _ _ _ h1, k.le _ _ _ _ _ h2⟩⟩
structure GMapLe (sz : Nat) (has : List Int → Bool) (get : List Int → Nat → FC) (has' : List Int → Bool) (get' : List Int → Nat → FC) : Prop where
  eq : ∀ k, has k = has' k
  le : ∀ k j, has k = true → j < sz → FCLe (get k j) (get' k j)
theorem GMapLe.refl (sz : Nat) (has : List Int → Bool) (get : List Int → Nat → FC) : GMapLe sz has get has get := ⟨fun _ => rfl, fun _ _ _ _ => FCLe.refl _⟩
theorem GMapLe.of_eq {sz : Nat} {has has' : List Int → Bool} {get get' : List Int → Nat → FC} (h : ∀ k, has k = has' k) (hg : ∀ k j, has k = true → j < sz → get k j = get' k j) : GMapLe sz has get has' get' :=
  ⟨h, fun k j h1 h2 => FCLe.of_eq (hg k j h1 h2)⟩
abbrev Ren := List (Nat × (Nat ⊕ Nat))   -- target name ↦ source name | a nil row of that element size
def lookR : Ren → Nat → Option (Nat ⊕ Nat)
  | [], _ => none
  | (i, v) :: l, k => match Nat.beq i k with
    | true => some v
    | false => lookR l k
def bindN (n' n : Nat) (r : Ren) (k : Ren → Prop) : Prop :=
  match lookR r n' with
  | some (.inl m) => match Nat.beq m n with
    | true => k r
    | false => Stuck "name bound twice"
  | some (.inr _) => Stuck "name bound to nil"
  | none => k ((n', .inl n) :: r)
def bindNil (n' sz : Nat) (r : Ren) (k : Ren → Prop) : Prop :=
  match lookR r n' with
  | some (.inl _) => Stuck "nil bound to name"
  | some (.inr s) => match Nat.beq s sz with
    | true => k r
    | false => Stuck "nil bound twice"
  | none => k ((n', .inr sz) :: r)
mutual
def entS : SV → SV → Ren → (Ren → Prop) → Prop
  | _, .junk, r, k => k r
  | .d (.val (.slice none 0 0)), .osl n' s' o' l', r, k => Need (o' = 0 ∧ l' = 0) (bindNil n' s' r k)
  | .d x, .d y, r, k => Need (DLe x y) (k r)
  | .ptr n o, .ptr n' o', r, k => match Nat.beq o o' with
    | true => bindN n' n r k
    | false => Stuck "offset"
  | .osl n s o l, .osl n' s' o' l', r, k => Need (s = s' ∧ o = o' ∧ l = l') (bindN n' n r k)
  | .agg cs, .agg ds, r, k => entL cs ds r k
  | .tup cs, .tup ds, r, k => entL cs ds r k
  | .clo f cs, .clo g ds, r, k => match Nat.beq f g with
    | true => entL cs ds r k
    | false => Stuck "closure"
  | .cptr s g, .cptr s' g', r, k => Need (s = s' ∧ g = g') (k r)
  | .mp n, .mp n', r, k => bindN n' n r k
  | .fsl n j s l, .fsl n' j' s' l', r, k => Need (j = j' ∧ s = s' ∧ l = l') (bindN n' n r k)
  | _, _, _, _ => Stuck "values"
def entL : List SV → List SV → Ren → (Ren → Prop) → Prop
  | [], [], r, k => k r
  | c :: cs, d :: ds, r, k => entS c d r fun r => entL cs ds r k
  | _, _, _, _ => Stuck "length"
end
def entSlots (s : List (Nat × SV)) : List (Nat × SV) → Ren → (Ren → Prop) → Prop
  | [], r, k => k r
  | (i, v) :: l, r, k => match look s i with
    | some u => entS u v r fun r => entSlots s l r k
    | none => Stuck "no such slot"
def entBoxes (o : List (Nat × Blk)) : List (Nat × Blk) → Ren → (Ren → Prop) → Prop
  | [], r, k => k r
  | (n', .box ds) :: l, r, k => match lookR r n' with
    | some (.inl n) => match lookO o n with
      | some (.box cs) => entL cs ds r fun r => entBoxes o l r k
      | _ => Stuck "no such box"
    | some (.inr _) => Stuck "box nil"
    | none => match lookO o n' with
      | some (.box cs) => entL cs ds ((n', .inl n') :: r) fun r => entBoxes o l r k
      | _ => Stuck "no such box"
  | _ :: l, r, k => entBoxes o l r k
def entRows (o : List (Nat × Blk)) : List (Nat × Blk) → Ren → (Ren → Prop) → Prop
  | [], r, k => k r
  | (_, .box _) :: l, r, k => entRows o l r k
  | (n', .row E' sz' len' g') :: l, r, k => match lookR r n' with
    | some (.inl n) => match lookO o n with
      | some (.row E sz len g) => Need (E = E' ∧ sz = sz' ∧ len = len') (Need (RowLe len' sz' g g') (entRows o l r k))
      | _ => Stuck "no such row"
    | some (.inr s) => Need (s = sz' ∧ len' = 0) (entRows o l r k)
    | none => match lookO o n' with
      | some (.row E sz len g) => Need (E = E' ∧ sz = sz' ∧ len = len') (Need (RowLe len' sz' g g') (entRows o l ((n', .inl n') :: r) k))
      | _ => Stuck "no such row"
  | (n', .iter s' p') :: l, r, k => match lookR r n' with
    | some (.inl n) => match lookO o n with
      | some (.iter s p) => Need (s = s' ∧ p = p') (entRows o l r k)
      | _ => Stuck "no such iterator"
    | some (.inr _) => Stuck "iterator nil"
    | none => match lookO o n' with
      | some (.iter s p) => Need (s = s' ∧ p = p') (entRows o l ((n', .inl n') :: r) k)
      | _ => Stuck "no such iterator"
  | (n', .smap kd' g') :: l, r, k => match lookR r n' with
    | some (.inl n) => match lookO o n with
      | some (.smap kd g) => Need (kd = kd' ∧ g = g') (entRows o l r k)
      | _ => Stuck "no such map"
    | some (.inr _) => Stuck "map nil"
    | none => match lookO o n' with
      | some (.smap kd g) => Need (kd = kd' ∧ g = g') (entRows o l ((n', .inl n') :: r) k)
      | _ => Stuck "no such map"
  | (n', .arr sz' ds) :: l, r, k => match lookR r n' with
    | some (.inl n) => match lookO o n with
      | some (.arr sz cs) => Need (sz = sz') (entL cs ds r fun r => entRows o l r k)
      | _ => Stuck "no such array"
    | some (.inr _) => Stuck "array nil"
    | none => match lookO o n' with
      | some (.arr sz cs) => Need (sz = sz') (entL cs ds ((n', .inl n') :: r) fun r => entRows o l r k)
      | _ => Stuck "no such array"
  | (n', .fam nk' rows') :: l, r, k => match lookR r n' with
    | some (.inl n) => match lookO o n with
      | some (.fam nk rows) => Need (nk = nk') (Need (FamLe rows rows') (entRows o l r k))
      | _ => Stuck "no such family"
    | some (.inr _) => Stuck "family nil"
    | none => match lookO o n' with
      | some (.fam nk rows) => Need (nk = nk') (Need (FamLe rows rows') (entRows o l ((n', .inl n') :: r) k))
      | _ => Stuck "no such family"
  | (n', .frow fn' E' sz' len' g') :: l, r, k => match lookR r n' with
    | some (.inl n) => match lookO o n with
      | some (.frow fn E sz len g) => Need (E = E' ∧ sz = sz' ∧ len = len') (Need (FRowLe len' sz' g g') (bindN fn' fn r fun r => entRows o l r k))
      | _ => Stuck "no such row"
    | some (.inr s) => Need (s = sz' ∧ len' = 0) (bindN fn' fn' r fun r => entRows o l r k)
    | none => match lookO o n' with
      | some (.frow fn E sz len g) => Need (E = E' ∧ sz = sz' ∧ len = len') (Need (FRowLe len' sz' g g') (bindN fn' fn ((n', .inl n') :: r) fun r => entRows o l r k))
      | _ => Stuck "no such row"
  | (n', .gmap fn' ka' kk' va' sz' h' g') :: l, r, k => match lookR r n' with
    | some (.inl n) => match lookO o n with
      | some (.gmap fn ka kk va sz h g) => Need (ka = ka' ∧ kk = kk' ∧ va = va' ∧ sz = sz') (Need (GMapLe sz' h g h' g') (bindN fn' fn r fun r => entRows o l r k))
      | _ => Stuck "no such map"
    | some (.inr _) => Stuck "map nil"
    | none => match lookO o n' with
      | some (.gmap fn ka kk va sz h g) => Need (ka = ka' ∧ kk = kk' ∧ va = va' ∧ sz = sz') (Need (GMapLe sz' h g h' g') (bindN fn' fn ((n', .inl n') :: r) fun r => entRows o l r k))
      | _ => Stuck "no such map"
def distinctR (r : Ren) : List (Nat × Blk) → List Nat → Bool
  | [], _ => true
  | (n', _) :: l, seen => match lookR r n' with
    | some (.inl n) => match memN n seen with
      | true => false
      | false => distinctR r l (n :: seen)
    | some (.inr _) => distinctR r l seen
    | none => false
def stayR (r : Ren) (o : List (Nat × Blk)) : List Nat → Bool
  | [] => true
  | n :: l => match lookR r n, lookO o n with
    | some (.inl m), some _ => match Nat.beq m n with
      | true => stayR r o l
      | false => false
    | _, _ => false
def keysR : Ren → List Nat
  | [] => []
  | (n, _) :: l => n :: keysR l
def subN (l : List Nat) : List Nat → Bool
  | [] => true
  | n :: r => match memN n l with
    | true => subN l r
    | false => false
def entK : St → St → Prop
  | ⟨s, o, _, n0⟩, ⟨s', o', nm', n0'⟩ => entSlots s s' [] fun r => entBoxes o o' r fun r => entRows o o' r fun r =>
    match distinctR r o' [], stayR r o' n0, subN nm' (keysR r), subN n0' n0 with
    | true, true, true, true => True
    | _, _, _, _ => Stuck "names"
def locOf (ρ : Nat → Loc) : Nat ⊕ Nat → Loc
  | .inl n => ρ n
  | .inr sz => (mkL 0 0 0 sz 0)
def rhoR (ρ : Nat → Loc) (r : Ren) (n : Nat) : Loc :=
  match lookR r n with
  | some x => locOf ρ x
  | none => ρ n
def ExtR (r r' : Ren) : Prop := ∀ n x, lookR r n = some x → lookR r' n = some x
theorem ExtR.refl (r : Ren) : ExtR r r := fun _ _ h => h
theorem ExtR.trans {r s t : Ren} (h : ExtR r s) (k : ExtR s t) : ExtR r t := fun n x e => k n x (h n x e)
theorem lookR_cons (i : Nat) (v : Nat ⊕ Nat) (l : Ren) (k : Nat) : lookR ((i, v) :: l) k = if i = k then some v else lookR l k := by
  simp only [lookR]
  split
  · rename_i h; rw [if_pos ((beq_iff _ _).1 h)]
  · rename_i h; rw [if_neg (fun e => by rw [(beq_iff _ _).2 e] at h; cases h)]
theorem ext_cons {n : Nat} {x : Nat ⊕ Nat} {r : Ren} (h : lookR r n = none) : ExtR r ((n, x) :: r) := by
  intro m y hm
  rw [lookR_cons]
  by_cases e : n = m
  · subst e; rw [h] at hm; cases hm
  · simp [e, hm]
theorem bindN_inv {n' n : Nat} {r : Ren} {k : Ren → Prop} (h : bindN n' n r k) : ∃ r', k r' ∧ ExtR r r' ∧ lookR r' n' = some (.inl n) := by
  unfold bindN at h
  split at h
  · rename_i m hm
    split at h
    · rename_i e
      have e := (beq_iff _ _).1 e
      subst e
      exact ⟨r, h, .refl r, hm⟩
    · exact h.out.elim
  · exact h.out.elim
  · rename_i hm
    exact ⟨_, h, ext_cons hm, by rw [lookR_cons]; simp⟩
theorem bindNil_inv {n' sz : Nat} {r : Ren} {k : Ren → Prop} (h : bindNil n' sz r k) : ∃ r', k r' ∧ ExtR r r' ∧ lookR r' n' = some (.inr sz) := by
  unfold bindNil at h
  split at h
  · exact h.out.elim
  · rename_i m hm
    split at h
    · rename_i e
      have e := (beq_iff _ _).1 e
      subst e
      exact ⟨r, h, .refl r, hm⟩
    · exact h.out.elim
  · rename_i hm
    exact ⟨_, h, ext_cons hm, by rw [lookR_cons]; simp⟩
def BoundS (r : Ren) (v : SV) : Prop := ∀ n, inS n v → (lookR r n).isSome = true
def BoundL (r : Ren) (cs : List SV) : Prop := ∀ n, inL n cs → (lookR r n).isSome = true
theorem ExtR.bound {r r' : Ren} (h : ExtR r r') {n : Nat} (hb : (lookR r n).isSome = true) : (lookR r' n).isSome = true := by
  obtain ⟨x, hx⟩ := Option.isSome_iff_exists.1 hb
  rw [h n x hx]; rfl
def EntS (v v' : SV) (r : Ren) : Prop := BoundS r v' ∧ ∀ (r' : Ren), ExtR r r' → ∀ (I : Nat → Prop) (ρ : Nat → Loc) (w : World) (u : Value), RepS I ρ w v u → RepS I (rhoR ρ r') w v' u
def EntL (cs ds : List SV) (r : Ren) : Prop := BoundL r ds ∧ ∀ (r' : Ren), ExtR r r' → ∀ (I : Nat → Prop) (ρ : Nat → Loc) (w : World) (us : List Value), RepL I ρ w cs us → RepL I (rhoR ρ r') w ds us
theorem EntS.ext {v v' : SV} {r r' : Ren} (h : EntS v v' r) (e : ExtR r r') : EntS v v' r' := ⟨fun n hn => e.bound (h.1 n hn), fun r'' e' => h.2 r'' (e.trans e')⟩
theorem EntL.ext {v v' : List SV} {r r' : Ren} (h : EntL v v' r) (e : ExtR r r') : EntL v v' r' := ⟨fun n hn => e.bound (h.1 n hn), fun r'' e' => h.2 r'' (e.trans e')⟩
theorem rhoR_of {r r' : Ren} {n : Nat} {x : Nat ⊕ Nat} (h : lookR r n = some x) (e : ExtR r r') : rhoR ρ r' n = locOf ρ x := by
  unfold rhoR; rw [e n x h]
mutual
theorem entS_inv : ∀ {v v' : SV} {r : Ren} {k : Ren → Prop}, entS v v' r k → ∃ r', k r' ∧ ExtR r r' ∧ EntS v v' r' := by
  intro v v' r k h
  unfold entS at h
  split at h
  · exact ⟨r, h, .refl r, by simp [BoundS, inS], fun _ _ _ _ _ _ _ => by simp only [RepS]⟩
  · obtain ⟨⟨rfl, rfl⟩, h⟩ := h
    obtain ⟨r', h1, h2, h3⟩ := bindNil_inv h
    refine ⟨r', h1, h2, ?_, ?_⟩
    · intro n hn; simp only [inS] at hn; subst hn; rw [h3]; rfl
    · intro r'' e I ρ w u hu
      simp only [RepS, RepD] at hu ⊢
      obtain ⟨rfl, _⟩ := hu
      rw [rhoR_of h3 e]
      exact ⟨rfl, Nat.le_refl _, Nat.le_refl _, none, rfl, .inr rfl⟩
  · obtain ⟨hd, h⟩ := h
    refine ⟨r, h, .refl r, by simp [BoundS, inS], ?_⟩
    intro r'' e I ρ w u hu
    simp only [RepS] at hu ⊢
    exact hd.le _ _ _ hu
  · split at h
    · rename_i e
      have e := (beq_iff _ _).1 e
      subst e
      obtain ⟨r', h1, h2, h3⟩ := bindN_inv h
      refine ⟨r', h1, h2, ?_, ?_⟩
      · intro n hn; simp only [inS] at hn; subst hn; rw [h3]; rfl
      · intro r'' e I ρ w u hu
        simp only [RepS] at hu ⊢
        rw [rhoR_of h3 e]; exact hu
    · exact h.out.elim
  · obtain ⟨⟨rfl, rfl, rfl⟩, h⟩ := h
    obtain ⟨r', h1, h2, h3⟩ := bindN_inv h
    refine ⟨r', h1, h2, ?_, ?_⟩
    · intro n hn; simp only [inS] at hn; subst hn; rw [h3]; rfl
    · intro r'' e I ρ w u hu
      simp only [RepS] at hu ⊢
      rw [rhoR_of h3 e]; exact hu
  · obtain ⟨r', h1, h2, h3⟩ := entL_inv h
    refine ⟨r', h1, h2, fun n hn => h3.1 n (by simpa only [inS] using hn), ?_⟩
    intro r'' e I ρ w u hu
    simp only [RepS] at hu ⊢
    obtain ⟨us, hv, hr, h1⟩ := hu
    exact ⟨us, hv, h3.2 r'' e I ρ w us hr, h1⟩
  · obtain ⟨r', h1, h2, h3⟩ := entL_inv h
    refine ⟨r', h1, h2, fun n hn => h3.1 n (by simpa only [inS] using hn), ?_⟩
    intro r'' e I ρ w u hu
    simp only [RepS] at hu ⊢
    obtain ⟨us, hv, hr⟩ := hu
    exact ⟨us, hv, h3.2 r'' e I ρ w us hr⟩
  · split at h
    · rename_i e
      have e := (beq_iff _ _).1 e
      subst e
      obtain ⟨r', h1, h2, h3⟩ := entL_inv h
      refine ⟨r', h1, h2, fun n hn => h3.1 n (by simpa only [inS] using hn), ?_⟩
      intro r'' e I ρ w u hu
      simp only [RepS] at hu ⊢
      obtain ⟨us, hv, hr⟩ := hu
      exact ⟨us, hv, h3.2 r'' e I ρ w us hr⟩
    · exact h.out.elim
  · obtain ⟨⟨rfl, rfl⟩, h⟩ := h
    refine ⟨r, h, .refl r, by simp [BoundS, inS], ?_⟩
    intro r'' e I ρ w u hu
    simp only [RepS] at hu ⊢
    exact hu
  · obtain ⟨r', h1, h2, h3⟩ := bindN_inv h
    refine ⟨r', h1, h2, ?_, ?_⟩
    · intro n hn; simp only [inS] at hn; subst hn; rw [h3]; rfl
    · intro r'' e I ρ w u hu
      simp only [RepS] at hu ⊢
      rw [rhoR_of h3 e]; exact hu
  · obtain ⟨⟨rfl, rfl, rfl⟩, h⟩ := h
    obtain ⟨r', h1, h2, h3⟩ := bindN_inv h
    refine ⟨r', h1, h2, ?_, ?_⟩
    · intro n hn; simp only [inS] at hn; subst hn; rw [h3]; rfl
    · intro r'' e I ρ w u hu
      simp only [RepS] at hu ⊢
      rw [rhoR_of h3 e]; exact hu
  · exact h.out.elim
theorem entL_inv : ∀ {cs ds : List SV} {r : Ren} {k : Ren → Prop}, entL cs ds r k → ∃ r', k r' ∧ ExtR r r' ∧ EntL cs ds r' := by
  intro cs ds r k h
  unfold entL at h
  split at h
  · exact ⟨r, h, .refl r, by simp [BoundL, inL], fun _ _ _ _ _ _ h => h⟩
  · obtain ⟨r1, h1, e1, h2⟩ := entS_inv h
    obtain ⟨r2, h3, e2, h4⟩ := entL_inv h1
    refine ⟨r2, h3, e1.trans e2, ?_, ?_⟩
    · intro n hn
      simp only [inL] at hn
      rcases hn with hn | hn
      · exact e2.bound (h2.1 n hn)
      · exact h4.1 n hn
    · intro r'' e I ρ w us hu
      simp only [RepL] at hu ⊢
      obtain ⟨u, t, rfl, g1, g2⟩ := hu
      exact ⟨u, t, rfl, h2.2 r'' (e2.trans e) I ρ w u g1, h4.2 r'' e I ρ w t g2⟩
  · exact h.out.elim
end
end Go.Sx

namespace Go.Sx
open Go
variable {P : Program} {G : Nat → Option (Nat × (Nat → D))} {nt : Nat} {C : Ctx} {I : Nat → Prop} {ρ : Nat → Loc} {F : Fs} {a : Act} {w : World} {E : List Nat} {T : Nat}
theorem entSlots_inv {s : List (Nat × SV)} : ∀ {l : List (Nat × SV)} {r : Ren} {k : Ren → Prop}, entSlots s l r k →
    ∃ r', k r' ∧ ExtR r r' ∧ ∀ i v, look l i = some v → ∃ u, look s i = some u ∧ EntS u v r'
  | [], r, k, h => ⟨r, h, .refl r, fun _ _ h => by simp [look] at h⟩
  | (i, v) :: l, r, k, h => by
    simp only [entSlots] at h
    split at h
    · rename_i u hu
      obtain ⟨r1, h1, e1, h2⟩ := entS_inv h
      obtain ⟨r2, h3, e2, h4⟩ := entSlots_inv h1
      refine ⟨r2, h3, e1.trans e2, ?_⟩
      intro j v' hj
      rw [look_cons] at hj
      split at hj
      · rename_i e; subst e; cases hj; exact ⟨u, hu, h2.ext e2⟩
      · exact h4 j v' hj
    · exact h.out.elim
def EntB (o : List (Nat × Blk)) (r : Ren) (n' : Nat) : Blk → Prop
  | .box ds => ∃ n cs, lookR r n' = some (.inl n) ∧ lookO o n = some (.box cs) ∧ EntL cs ds r
  | .row E' sz' len' g' => (∃ n g, lookR r n' = some (.inl n) ∧ lookO o n = some (.row E' sz' len' g) ∧ RowLe len' sz' g g') ∨ (lookR r n' = some (.inr sz') ∧ len' = 0)
  | .iter s p => ∃ n, lookR r n' = some (.inl n) ∧ lookO o n = some (.iter s p)
  | .smap kd g => ∃ n, lookR r n' = some (.inl n) ∧ lookO o n = some (.smap kd g)
  | .arr sz ds => ∃ n cs, lookR r n' = some (.inl n) ∧ lookO o n = some (.arr sz cs) ∧ EntL cs ds r
  | .fam nk rows' => ∃ n rows, lookR r n' = some (.inl n) ∧ lookO o n = some (.fam nk rows) ∧ FamLe rows rows'
  | .frow fn' E sz len g' => (∃ n fn g, lookR r n' = some (.inl n) ∧ lookO o n = some (.frow fn E sz len g) ∧ FRowLe len sz g g' ∧ lookR r fn' = some (.inl fn)) ∨ (lookR r n' = some (.inr sz) ∧ len = 0 ∧ (lookR r fn').isSome = true)
  | .gmap fn' ka kk va sz h' g' => ∃ n fn h g, lookR r n' = some (.inl n) ∧ lookO o n = some (.gmap fn ka kk va sz h g) ∧ GMapLe sz h g h' g' ∧ lookR r fn' = some (.inl fn)
theorem EntB.ext {o : List (Nat × Blk)} {r r' : Ren} {n' : Nat} {b : Blk} (h : EntB o r n' b) (e : ExtR r r') : EntB o r' n' b := by
  cases b with
  | box ds => obtain ⟨n, cs, h1, h2, h3⟩ := h; exact ⟨n, cs, e _ _ h1, h2, h3.ext e⟩
  | row E' sz' len' g' =>
    rcases h with ⟨n, g, h1, h2, h3⟩ | ⟨h1, h2⟩
    · exact .inl ⟨n, g, e _ _ h1, h2, h3⟩
    · exact .inr ⟨e _ _ h1, h2⟩
  | iter s p => obtain ⟨n, h1, h2⟩ := h; exact ⟨n, e _ _ h1, h2⟩
  | smap kd g => obtain ⟨n, h1, h2⟩ := h; exact ⟨n, e _ _ h1, h2⟩
  | arr sz ds => obtain ⟨n, cs, h1, h2, h3⟩ := h; exact ⟨n, cs, e _ _ h1, h2, h3.ext e⟩
  | fam nk rows' => obtain ⟨n, rows, h1, h2, h3⟩ := h; exact ⟨n, rows, e _ _ h1, h2, h3⟩
  | frow fn' E sz len g' =>
    rcases h with ⟨n, fn, g, h1, h2, h3, h4⟩ | ⟨h1, h2, h3⟩
    · exact .inl ⟨n, fn, g, e _ _ h1, h2, h3, e _ _ h4⟩
    · exact .inr ⟨e _ _ h1, h2, e.bound h3⟩
  | gmap fn' ka kk va sz hh g' => obtain ⟨n, fn, h0, g, h1, h2, h3, h4⟩ := h; exact ⟨n, fn, h0, g, e _ _ h1, h2, h3, e _ _ h4⟩
def isBoxB : Blk → Bool
  | .box _ => true
  | _ => false
theorem entBoxes_inv {o : List (Nat × Blk)} : ∀ {l : List (Nat × Blk)} {r : Ren} {k : Ren → Prop}, entBoxes o l r k →
    ∃ r', k r' ∧ ExtR r r' ∧ ∀ n b, (n, b) ∈ l → isBoxB b = true → EntB o r' n b
  | [], r, k, h => ⟨r, h, .refl r, fun _ _ h => by simp at h⟩
  | (n', b) :: l, r, k, h => by
    have other : isBoxB b = false → entBoxes o l r k → ∃ r', k r' ∧ ExtR r r' ∧ ∀ n c, (n, c) ∈ (n', b) :: l → isBoxB c = true → EntB o r' n c := by
      intro hb h
      obtain ⟨r', h1, e, h2⟩ := entBoxes_inv h
      refine ⟨r', h1, e, fun n c hc hx => ?_⟩
      simp only [List.mem_cons, Prod.mk.injEq] at hc
      rcases hc with ⟨rfl, rfl⟩ | hc
      · rw [hb] at hx; cases hx
      · exact h2 n c hc hx
    cases b with
    | box ds =>
      have step : ∀ {r0 : Ren} {n : Nat} {cs : List SV}, ExtR r r0 → lookR r0 n' = some (.inl n) → lookO o n = some (.box cs) → entL cs ds r0 (fun r => entBoxes o l r k) →
          ∃ r', k r' ∧ ExtR r r' ∧ ∀ m c, (m, c) ∈ (n', Blk.box ds) :: l → isBoxB c = true → EntB o r' m c := by
        intro r0 n cs e0 hn ho h
        obtain ⟨r1, h1, e1, h2⟩ := entL_inv h
        obtain ⟨r2, h3, e2, h4⟩ := entBoxes_inv h1
        refine ⟨r2, h3, e0.trans (e1.trans e2), fun m c hc hx => ?_⟩
        simp only [List.mem_cons, Prod.mk.injEq] at hc
        rcases hc with ⟨rfl, rfl⟩ | hc
        · exact ⟨n, cs, e2 _ _ (e1 _ _ hn), ho, h2.ext e2⟩
        · exact h4 m c hc hx
      simp only [entBoxes] at h
      split at h
      · rename_i n hn
        split at h
        · rename_i cs ho
          exact step (.refl r) hn ho h
        · exact h.out.elim
      · exact h.out.elim
      · rename_i hn
        split at h
        · rename_i cs ho
          exact step (ext_cons hn) (by rw [lookR_cons]; simp) ho h
        · exact h.out.elim
    | row _ _ _ _ => exact other rfl h
    | iter _ _ => exact other rfl h
    | smap _ _ => exact other rfl h
    | arr _ _ => exact other rfl h
    | fam _ _ => exact other rfl h
    | frow _ _ _ _ _ => exact other rfl h
    | gmap _ _ _ _ _ _ _ => exact other rfl h
theorem entRows_inv {o : List (Nat × Blk)} : ∀ {l : List (Nat × Blk)} {r : Ren} {k : Ren → Prop}, entRows o l r k →
    ∃ r', k r' ∧ ExtR r r' ∧ ∀ n b, (n, b) ∈ l → isBoxB b = false → EntB o r' n b
  | [], r, k, h => ⟨r, h, .refl r, fun _ _ h => by simp at h⟩
  | (n', b) :: l, r, k, h => by
    have step : ∀ {r0 : Ren}, ExtR r r0 → (isBoxB b = false → EntB o r0 n' b) → entRows o l r0 k → ∃ r', k r' ∧ ExtR r r' ∧ ∀ m c, (m, c) ∈ (n', b) :: l → isBoxB c = false → EntB o r' m c := by
      intro r0 e0 hb h
      obtain ⟨r1, h1, e1, h2⟩ := entRows_inv h
      refine ⟨r1, h1, e0.trans e1, fun m c hc hx => ?_⟩
      simp only [List.mem_cons, Prod.mk.injEq] at hc
      rcases hc with ⟨rfl, rfl⟩ | hc
      · exact (hb hx).ext e1
      · exact h2 m c hc hx
    cases b with
    | box ds => exact step (.refl r) (fun h => by simp [isBoxB] at h) h
    | row E' sz' len' g' =>
      simp only [entRows] at h
      split at h
      · rename_i n hn
        split at h
        · rename_i Et sz len g ho
          obtain ⟨⟨rfl, rfl, rfl⟩, h2, h⟩ := h
          exact step (.refl r) (fun _ => .inl ⟨n, g, hn, ho, h2⟩) h
        · exact h.out.elim
      · rename_i s hn
        obtain ⟨⟨rfl, rfl⟩, h⟩ := h
        exact step (.refl r) (fun _ => .inr ⟨hn, rfl⟩) h
      · rename_i hn
        split at h
        · rename_i Et sz len g ho
          obtain ⟨⟨rfl, rfl, rfl⟩, h2, h⟩ := h
          exact step (ext_cons hn) (fun _ => .inl ⟨n', g, by rw [lookR_cons]; simp, ho, h2⟩) h
        · exact h.out.elim
    | iter s' p' =>
      simp only [entRows] at h
      split at h
      · rename_i n hn
        split at h
        · rename_i s p ho
          obtain ⟨⟨rfl, rfl⟩, h⟩ := h
          exact step (.refl r) (fun _ => ⟨n, hn, ho⟩) h
        · exact h.out.elim
      · exact h.out.elim
      · rename_i hn
        split at h
        · rename_i s p ho
          obtain ⟨⟨rfl, rfl⟩, h⟩ := h
          exact step (ext_cons hn) (fun _ => ⟨n', by rw [lookR_cons]; simp, ho⟩) h
        · exact h.out.elim
    | smap kd' g' =>
      simp only [entRows] at h
      split at h
      · rename_i n hn
        split at h
        · rename_i kd g ho
          obtain ⟨⟨rfl, rfl⟩, h⟩ := h
          exact step (.refl r) (fun _ => ⟨n, hn, ho⟩) h
        · exact h.out.elim
      · exact h.out.elim
      · rename_i hn
        split at h
        · rename_i kd g ho
          obtain ⟨⟨rfl, rfl⟩, h⟩ := h
          exact step (ext_cons hn) (fun _ => ⟨n', by rw [lookR_cons]; simp, ho⟩) h
        · exact h.out.elim
    | arr sz' ds =>
      have stepA : ∀ {r0 : Ren} {n : Nat} {cs : List SV}, ExtR r r0 → lookR r0 n' = some (.inl n) → lookO o n = some (.arr sz' cs) → entL cs ds r0 (fun r => entRows o l r k) →
          ∃ r', k r' ∧ ExtR r r' ∧ ∀ m c, (m, c) ∈ (n', Blk.arr sz' ds) :: l → isBoxB c = false → EntB o r' m c := by
        intro r0 n cs e0 hn ho h
        obtain ⟨r1, h1, e1, h2⟩ := entL_inv h
        exact step (e0.trans e1) (fun _ => ⟨n, cs, e1 _ _ hn, ho, h2⟩) h1
      simp only [entRows] at h
      split at h
      · rename_i n hn
        split at h
        · rename_i sz cs ho
          obtain ⟨rfl, h⟩ := h
          exact stepA (.refl r) hn ho h
        · exact h.out.elim
      · exact h.out.elim
      · rename_i hn
        split at h
        · rename_i sz cs ho
          obtain ⟨rfl, h⟩ := h
          exact stepA (ext_cons hn) (by rw [lookR_cons]; simp) ho h
        · exact h.out.elim
    | fam nk' rows' =>
      simp only [entRows] at h
      split at h
      · rename_i n hn
        split at h
        · rename_i nk rows ho
          obtain ⟨rfl, h2, h⟩ := h
          exact step (.refl r) (fun _ => ⟨n, rows, hn, ho, h2⟩) h
        · exact h.out.elim
      · exact h.out.elim
      · rename_i hn
        split at h
        · rename_i nk rows ho
          obtain ⟨rfl, h2, h⟩ := h
          exact step (ext_cons hn) (fun _ => ⟨n', rows, by rw [lookR_cons]; simp, ho, h2⟩) h
        · exact h.out.elim
    | frow fn' E' sz' len' g' =>
      simp only [entRows] at h
      split at h
      · rename_i n hn
        split at h
        · rename_i fn Et sz len g ho
          obtain ⟨⟨rfl, rfl, rfl⟩, h2, h⟩ := h
          obtain ⟨r1, h1, e1, h3⟩ := bindN_inv h
          exact step e1 (fun _ => .inl ⟨n, fn, g, e1 _ _ hn, ho, h2, h3⟩) h1
        · exact h.out.elim
      · rename_i s hn
        obtain ⟨⟨rfl, rfl⟩, h⟩ := h
        obtain ⟨r1, h1, e1, h3⟩ := bindN_inv h
        exact step e1 (fun _ => .inr ⟨e1 _ _ hn, rfl, by rw [h3]; rfl⟩) h1
      · rename_i hn
        split at h
        · rename_i fn Et sz len g ho
          obtain ⟨⟨rfl, rfl, rfl⟩, h2, h⟩ := h
          obtain ⟨r1, h1, e1, h3⟩ := bindN_inv h
          exact step ((ext_cons hn).trans e1) (fun _ => .inl ⟨n', fn, g, e1 _ _ (by rw [lookR_cons]; simp), ho, h2, h3⟩) h1
        · exact h.out.elim
    | gmap fn' ka' kk' va' sz' hh' g' =>
      simp only [entRows] at h
      split at h
      · rename_i n hn
        split at h
        · rename_i fn ka kk va sz hh g ho
          obtain ⟨⟨rfl, rfl, rfl, rfl⟩, h2, h⟩ := h
          obtain ⟨r1, h1, e1, h3⟩ := bindN_inv h
          exact step e1 (fun _ => ⟨n, fn, hh, g, e1 _ _ hn, ho, h2, h3⟩) h1
        · exact h.out.elim
      · exact h.out.elim
      · rename_i hn
        split at h
        · rename_i fn ka kk va sz hh g ho
          obtain ⟨⟨rfl, rfl, rfl, rfl⟩, h2, h⟩ := h
          obtain ⟨r1, h1, e1, h3⟩ := bindN_inv h
          exact step ((ext_cons hn).trans e1) (fun _ => ⟨n', fn, hh, g, e1 _ _ (by rw [lookR_cons]; simp), ho, h2, h3⟩) h1
        · exact h.out.elim
theorem memN_iff {n : Nat} : ∀ {l : List Nat}, memN n l = true ↔ n ∈ l
  | [] => by simp [memN]
  | m :: l => by
    simp only [memN]
    split
    · rename_i e; simp [(beq_iff _ _).1 e]
    · rename_i e
      have : n ≠ m := fun e' => by rw [(beq_iff _ _).2 e'] at e; cases e
      simp [this, memN_iff (l := l)]
theorem lookO_mem {b : Blk} {n : Nat} : ∀ {l : List (Nat × Blk)}, lookO l n = some b → (n, b) ∈ l
  | [], h => by simp [lookO] at h
  | (i, c) :: l, h => by
    rw [lookO_cons] at h
    split at h
    · rename_i e; subst e; cases h; simp
    · simp [lookO_mem h]
theorem keysR_iff {n : Nat} : ∀ {r : Ren}, n ∈ keysR r ↔ (lookR r n).isSome = true
  | [] => by simp [keysR, lookR]
  | (m, x) :: r => by
    rw [lookR_cons]
    by_cases e : m = n
    · simp [keysR, e]
    · simp [keysR, e, Ne.symm e, keysR_iff (r := r)]
theorem subN_iff {l : List Nat} : ∀ {r : List Nat}, subN l r = true → ∀ n ∈ r, n ∈ l
  | [], _ => by simp
  | m :: r, h => by
    simp only [subN] at h
    split at h
    · rename_i e
      intro n hn
      simp only [List.mem_cons] at hn
      rcases hn with rfl | hn
      · exact memN_iff.1 e
      · exact subN_iff h n hn
    · cases h
theorem distinctR_inv {r : Ren} : ∀ {l : List (Nat × Blk)} {seen : List Nat}, distinctR r l seen = true →
    (∀ n b, (n, b) ∈ l → (lookR r n).isSome = true) ∧ (∀ n b m, (n, b) ∈ l → lookR r n = some (.inl m) → m ∉ seen) ∧
    (∀ n b n' b' m, lookO l n = some b → lookO l n' = some b' → lookR r n = some (.inl m) → lookR r n' = some (.inl m) → n = n')
  | [], _, _ => ⟨by simp, by simp, by simp [lookO]⟩
  | (n0, b0) :: l, seen, h => by
    simp only [distinctR] at h
    split at h
    · rename_i m0 hm0
      split at h
      · cases h
      · rename_i hs
        obtain ⟨h1, h2, h3⟩ := distinctR_inv h
        have hs' : m0 ∉ seen := fun hx => by rw [memN_iff.2 hx] at hs; cases hs
        refine ⟨?_, ?_, ?_⟩
        · intro n b hn
          simp only [List.mem_cons, Prod.mk.injEq] at hn
          rcases hn with ⟨rfl, rfl⟩ | hn
          · rw [hm0]; rfl
          · exact h1 n b hn
        · intro n b m hn hm
          simp only [List.mem_cons, Prod.mk.injEq] at hn
          rcases hn with ⟨rfl, rfl⟩ | hn
          · rw [hm0] at hm; cases hm; exact hs'
          · exact fun hx => h2 n b m hn hm (List.mem_cons_of_mem _ hx)
        · intro n b n' b' m hn hn' hm hm'
          rw [lookO_cons] at hn hn'
          split at hn
          · rename_i e
            split at hn'
            · rename_i e'; rw [← e, ← e']
            · subst e
              rw [hm0] at hm; cases hm
              exact absurd (List.mem_cons_self) (h2 n' b' _ (lookO_mem hn') hm')
          · split at hn'
            · rename_i e'
              subst e'
              rw [hm0] at hm'; cases hm'
              exact absurd (List.mem_cons_self) (h2 n b _ (lookO_mem hn) hm)
            · exact h3 n b n' b' m hn hn' hm hm'
    · rename_i s0 hm0
      obtain ⟨h1, h2, h3⟩ := distinctR_inv h
      refine ⟨?_, ?_, ?_⟩
      · intro n b hn
        simp only [List.mem_cons, Prod.mk.injEq] at hn
        rcases hn with ⟨rfl, rfl⟩ | hn
        · rw [hm0]; rfl
        · exact h1 n b hn
      · intro n b m hn hm
        simp only [List.mem_cons, Prod.mk.injEq] at hn
        rcases hn with ⟨rfl, rfl⟩ | hn
        · rw [hm0] at hm; cases hm
        · exact h2 n b m hn hm
      · intro n b n' b' m hn hn' hm hm'
        rw [lookO_cons] at hn hn'
        split at hn
        · rename_i e; subst e; rw [hm0] at hm; cases hm
        · split at hn'
          · rename_i e'; subst e'; rw [hm0] at hm'; cases hm'
          · exact h3 n b n' b' m hn hn' hm hm'
    · cases h
theorem stayR_inv {r : Ren} {o : List (Nat × Blk)} : ∀ {l : List Nat}, stayR r o l = true → ∀ n ∈ l, lookR r n = some (.inl n) ∧ (lookO o n).isSome = true
  | [], _ => by simp
  | m :: l, h => by
    simp only [stayR] at h
    split at h
    · rename_i x b hx ho
      split at h
      · rename_i e
        have e := (beq_iff _ _).1 e
        subst e
        intro n hn
        simp only [List.mem_cons] at hn
        rcases hn with rfl | hn
        · exact ⟨hx, by rw [ho]; rfl⟩
        · exact stayR_inv h n hn
      · cases h
    · cases h
theorem entK_sound {σ σ' : St} (h : entK σ σ') (hc : Conc G nt C I ρ (toF σ) a w) : ∃ ρ', Conc G nt C I ρ' (toF σ') a w := by
  obtain ⟨s, o, nm, n0⟩ := σ
  obtain ⟨s', o', nm', n0'⟩ := σ'
  simp only [entK] at h
  obtain ⟨r1, h, e1, hs⟩ := entSlots_inv h
  obtain ⟨r2, h, e2, hb⟩ := entBoxes_inv h
  obtain ⟨r, h, e3, hr⟩ := entRows_inv h
  split at h
  · rename_i hd hst hsub hsub0
    obtain ⟨d1, _, d3⟩ := distinctR_inv hd
    have hst := stayR_inv hst
    have hsub := subN_iff hsub
    have hsub0 := subN_iff hsub0
    have hnm : ∀ n, (lookR r n).isSome = true → memN n nm' = true := fun n hn => memN_iff.2 (hsub n (keysR_iff.2 hn))
    have hB : ∀ n b, lookO o' n = some b → EntB o r n b := by
      intro n b hn
      have hm := lookO_mem hn
      cases hx : isBoxB b with
      | true => exact (hb n b hm hx).ext e3
      | false => exact hr n b hm hx
    have src : ∀ n b k, lookO o' n = some b → foot (rhoR ρ r n) b k → ∃ m b0, lookR r n = some (.inl m) ∧ lookO o m = some b0 ∧ foot (ρ m) b0 k ∧ rhoR ρ r n = ρ m ∧ (rowLike b → rowLike b0) := by
      intro n b k hn hl
      have hE := hB n b hn
      cases b with
      | box ds => obtain ⟨m, cs, h1, h2, h3⟩ := hE; have e := rhoR_of (ρ := ρ) h1 (.refl r); exact ⟨m, _, h1, h2, by rw [e] at hl; exact hl, e, fun h => h⟩
      | row E' sz' len' g' =>
        rcases hE with ⟨m, g, h1, h2, h3⟩ | ⟨h1, h2⟩
        · have e := rhoR_of (ρ := ρ) h1 (.refl r)
          exact ⟨m, _, h1, h2, by rw [e] at hl; exact hl, e, fun h => h⟩
        · exfalso
          rw [rhoR_of h1 (.refl r)] at hl
          exact absurd hl.1 (Nat.lt_irrefl 0)
      | iter s p => obtain ⟨m, h1, h2⟩ := hE; have e := rhoR_of (ρ := ρ) h1 (.refl r); exact ⟨m, _, h1, h2, by rw [e] at hl; exact hl, e, fun h => h⟩
      | smap kd g => obtain ⟨m, h1, h2⟩ := hE; have e := rhoR_of (ρ := ρ) h1 (.refl r); exact ⟨m, _, h1, h2, by rw [e] at hl; exact hl, e, fun h => h⟩
      | arr sz ds => obtain ⟨m, cs, h1, h2, h3⟩ := hE; have e := rhoR_of (ρ := ρ) h1 (.refl r); exact ⟨m, _, h1, h2, by rw [e] at hl; exact hl, e, fun h => h⟩
      | fam nk rows' =>
        obtain ⟨m, rows, h1, h2, h3⟩ := hE
        have e := rhoR_of (ρ := ρ) h1 (.refl r)
        rw [e] at hl
        obtain ⟨i, r', hr', hc, hk⟩ := hl
        obtain ⟨r0, hr0, _⟩ := h3.le i r' hr'
        exact ⟨m, _, h1, h2, ⟨i, r0, hr0, hc, hk⟩, e, fun h => h⟩
      | frow fn' E' sz' len' g' =>
        rcases hE with ⟨m, fn, g, h1, h2, h3, h4⟩ | ⟨h1, h2, _⟩
        · have e := rhoR_of (ρ := ρ) h1 (.refl r)
          exact ⟨m, _, h1, h2, by rw [e] at hl; exact hl, e, fun h => h⟩
        · exfalso
          rw [rhoR_of h1 (.refl r)] at hl
          exact absurd hl.1 (Nat.lt_irrefl 0)
      | gmap fn' ka kk va sz hh g' => obtain ⟨m, fn, h0, g, h1, h2, h3, h4⟩ := hE; have e := rhoR_of (ρ := ρ) h1 (.refl r); exact ⟨m, _, h1, h2, by rw [e] at hl; exact hl, e, fun h => h⟩
    have fnr : ∀ {fn' fn : Nat}, lookR r fn' = some (.inl fn) → ∀ (c : FC) (v : Value), RepF I ρ fn w c v → RepF I (rhoR ρ r) fn' w c v := by
      intro fn' fn h c v hv
      cases c with
      | d x => exact hv
      | fs k sz l =>
        simp only [RepF, RepS] at hv ⊢
        rw [rhoR_of h (.refl r)]
        exact hv
    have fnrL : ∀ {fn' fn : Nat}, lookR r fn' = some (.inl fn) → ∀ (cs : List FC) (us : List Value), RepFL I ρ fn w cs us → RepFL I (rhoR ρ r) fn' w cs us := by
      intro fn' fn h cs
      induction cs with
      | nil => intro us hu; exact hu
      | cons c cs ih =>
        rintro us ⟨u, t, rfl, h1, h2⟩
        exact ⟨u, t, rfl, fnr h c u h1, ih t h2⟩
    refine ⟨rhoR ρ r, ?_⟩
    exact {
      defers := hc.defers, size := hc.size
      slots := by
        intro k sv hk
        obtain ⟨u, hu, hE⟩ := hs k sv hk
        obtain ⟨v, hv, hrep⟩ := hc.slots k u hu
        exact ⟨v, hv, hE.2 r (e2.trans e3) I ρ w v hrep⟩
      snames := by
        intro k sv n hk hn
        obtain ⟨u, hu, hE⟩ := hs k sv hk
        exact hnm n ((e2.trans e3).bound (hE.1 n hn))
      own := by
        intro n b hn
        have hE := hB n b hn
        cases b with
        | box ds =>
          obtain ⟨m, cs, h1, h2, h3⟩ := hE
          obtain ⟨us, Et, h4, h5⟩ := hc.own m _ h2
          rw [rhoR_of h1 (.refl r)]
          exact ⟨us, Et, h4, h3.2 r (.refl r) I ρ w us h5.1, h5.2⟩
        | row E' sz' len' g' =>
          rcases hE with ⟨m, g, h1, h2, h3⟩ | ⟨h1, h2⟩
          · obtain ⟨h4, h5, h6, h7⟩ := hc.own m _ h2
            rw [rhoR_of h1 (.refl r)]
            refine ⟨h4, h5, h6, fun hcap => ?_⟩
            obtain ⟨arr, h8, h9, h10⟩ := h7 hcap
            refine ⟨arr, h8, h9, fun i j hi hj => ?_⟩
            obtain ⟨u, hu, hrep⟩ := h10 i j hi hj
            exact ⟨u, hu, (h3.le i j hi hj).le _ _ _ hrep⟩
          · rw [rhoR_of h1 (.refl r)]
            subst h2
            exact ⟨rfl, rfl, Nat.le_refl _, fun h => absurd h (by simp [locOf])⟩
        | iter s p =>
          obtain ⟨m, h1, h2⟩ := hE
          rw [rhoR_of h1 (.refl r)]
          exact hc.own m _ h2
        | smap kd g =>
          obtain ⟨m, h1, h2⟩ := hE
          rw [rhoR_of h1 (.refl r)]
          exact hc.own m _ h2
        | arr sz ds =>
          obtain ⟨m, cs, h1, h2, h3⟩ := hE
          obtain ⟨h6, h7, us, Et, h4, h5⟩ := hc.own m _ h2
          rw [rhoR_of h1 (.refl r)]
          exact ⟨h6, h7, us, Et, h4, h3.2 r (.refl r) I ρ w us h5.1, h5.2⟩
        | fam nk rows' =>
          obtain ⟨m, rows, h1, h2, h3⟩ := hE
          obtain ⟨h4, h5, h6⟩ := hc.own m _ h2
          rw [rhoR_of h1 (.refl r)]
          refine ⟨h4, fun i r' hr' => ?_, fun i i' r' r'' hr' hr'' => ?_⟩
          · obtain ⟨r0, hr0, e1, e2, e3, e4⟩ := h3.le i r' hr'
            obtain ⟨g1, g2, g3⟩ := h5 i r0 hr0
            refine ⟨g1, by rw [← e3]; exact g2, fun hcap => ?_⟩
            obtain ⟨arr, g4, g5, g6⟩ := g3 hcap
            refine ⟨arr, by rw [← e1]; exact g4, by rw [← e2]; exact g5, fun a j ha hj => ?_⟩
            rw [← e3] at ha
            rw [← e2] at hj ⊢
            obtain ⟨u, hu, hrep⟩ := g6 a j ha hj
            exact ⟨u, hu, (e4.le a j ha hj).le _ _ _ hrep⟩
          · obtain ⟨r0, hr0, _⟩ := h3.le i r' hr'
            obtain ⟨r1, hr1, _⟩ := h3.le i' r'' hr''
            exact h6 i i' r0 r1 hr0 hr1
        | frow fn' E' sz' len' g' =>
          rcases hE with ⟨m, fn, g, h1, h2, h3, hf⟩ | ⟨h1, h2, _⟩
          · obtain ⟨h4, h5, h6, h7⟩ := hc.own m _ h2
            rw [rhoR_of h1 (.refl r)]
            refine ⟨h4, h5, h6, fun hcap => ?_⟩
            obtain ⟨arr, h8, h9, h10⟩ := h7 hcap
            refine ⟨arr, h8, h9, fun i j hi hj => ?_⟩
            obtain ⟨u, hu, hrep⟩ := h10 i j hi hj
            exact ⟨u, hu, fnr hf _ _ ((h3.le i j hi hj).le _ _ _ _ _ hrep)⟩
          · rw [rhoR_of h1 (.refl r)]
            subst h2
            exact ⟨rfl, rfl, Nat.le_refl _, fun h => absurd h (by simp [locOf])⟩
        | gmap fn' ka kk va sz hh g' =>
          obtain ⟨m, fn, h0, g, h1, h2, h3, hf⟩ := hE
          obtain ⟨es, clock, h4, h5⟩ := hc.own m _ h2
          rw [rhoR_of h1 (.refl r)]
          refine ⟨es, clock, h4, h5.stamped, h5.keys, fun e he k hk hek => ?_, fun k hk hd => ?_⟩
          · obtain ⟨g0, us, g1, g2, g3, g4⟩ := h5.ent e he k hk hek
            refine ⟨by rw [← h3.eq k]; exact g0, us, g1, g2, fun j hj => ?_, g4⟩
            obtain ⟨u, hu, hr⟩ := g3 j hj
            exact ⟨u, hu, fnr hf _ _ ((h3.le k j g0 hj).le _ _ _ _ _ hr)⟩
          · exact h5.all k hk (by rw [h3.eq k]; exact hd)
      onames := by
        intro n b m hn hm
        have hE := hB n b hn
        cases b with
        | box ds => obtain ⟨k, cs, h1, h2, h3⟩ := hE; exact hnm m (h3.1 m hm)
        | row _ _ _ _ => exact hm.elim
        | iter _ _ => exact hm.elim
        | smap _ _ => exact hm.elim
        | arr sz ds => obtain ⟨k, cs, h1, h2, h3⟩ := hE; exact hnm m (h3.1 m hm)
        | fam _ _ => exact hm.elim
        | frow fn' _ _ _ _ =>
          simp only [inB] at hm
          subst hm
          rcases hE with ⟨k, fn, g, h1, h2, h3, hf⟩ | ⟨h1, h2, h3⟩
          · exact hnm _ (by rw [hf]; rfl)
          · exact hnm _ h3
        | gmap fn' _ _ _ _ _ _ =>
          simp only [inB] at hm
          subst hm
          obtain ⟨k, fn, h0, g, h1, h2, h3, hf⟩ := hE
          exact hnm _ (by rw [hf]; rfl)
      okeys := fun n b hn => hnm n (d1 n b (lookO_mem hn))
      sepF := by
        intro n b k hn hl
        obtain ⟨m, b0, h1, h2, h3, h4, _⟩ := src n b k hn hl
        exact hc.sepF m b0 k h2 h3
      freshF := by
        intro n b k hn hrow hcap
        obtain ⟨m, b0, h1, h2, h3, h4, h5⟩ := src n b k hn hcap
        rcases hc.freshF m b0 k h2 (h5 hrow) h3 with h6 | h6
        · exact .inl h6
        · have hm0 : m ∈ n0 := memN_iff.1 (hc.old m h6).1
          obtain ⟨h8, h9⟩ := hst m hm0
          obtain ⟨c, hcm⟩ := Option.isSome_iff_exists.1 h9
          have := d3 n b m c m hn hcm h1 h8
          subst this
          exact .inr h6
      injF := by
        intro n m b c k hn hm hl hl'
        obtain ⟨n1, b0, h1, h2, h3, h4, _⟩ := src n b k hn hl
        obtain ⟨m1, c0, g1, g2, g3, g4, _⟩ := src m c k hm hl'
        have := hc.injF n1 m1 b0 c0 k h2 g2 h3 g3
        subst this
        exact d3 n b m c n1 hn hm h1 g1
      ilt := hc.ilt, i0 := hc.i0, i1 := hc.i1
      old := by
        intro n hn
        obtain ⟨h1, h2, h3⟩ := hc.old n hn
        have hmem : n ∈ n0 := memN_iff.1 h1
        obtain ⟨h4, h5⟩ := hst n hmem
        refine ⟨memN_iff.2 (hsub0 n hmem), hnm n (by rw [h4]; rfl), ?_⟩
        rw [rhoR_of h4 (.refl r)]
        exact h3
      glob := hc.glob, keep := hc.keep }
  · exact h.out.elim
end Go.Sx

namespace Go.Sx
open Go
variable {P : Program} {G : Nat → Option (Nat × (Nat → D))} {nt : Nat} {C : Ctx} {I : Nat → Prop} {ρ : Nat → Loc} {F : Fs} {a : Act} {w : World} {E : List Nat} {T : Nat}
def resM (P : Program) : List ResultVar → (List SV → M Upd) → M Upd
  | [], k => k []
  | .tmp t :: l, k => .slot t fun v => resM P l fun r => k (v :: r)
  | .cell t T :: l, k => .slot t fun
    | .ptr n off => .own n fun
      | .box cs => dropK off cs fun cs => partK P T cs fun v => resM P l fun r => k (v :: r)
      | _ => .fail "result cell"
    | _ => .fail "result"
def lendBoxes : List Nat → (List Nat → M Upd) → M Upd
  | [], k => k []
  | n :: ns, k => .own n fun
    | .box cs => lendCells cs fun _ ms => lendBoxes ns fun r => k (ms ++ r)
    | _ => .fail "receiver"
def retM (P : Program) (results : List ResultVar) (n0 : List Nat) : M Upd :=
  resM P results fun vs => lendArgs vs fun vs ns => lendBoxes n0 fun ms => match vs with
    | [v] => .ret ⟨none, v, [], [], [], ns ++ ms⟩
    | vs => .ret ⟨none, .tup vs, [], [], [], ns ++ ms⟩
def M.ev1 : M Upd → St → (SV → List (Nat × Blk) → Prop) → Prop
  | .ret ⟨_, v, _, _, _, pub⟩, ⟨s, o, _, n0⟩, K => pubs n0 pub s o fun _ o => K v o
  | .slot k f, ⟨s, o, nm, n0⟩, K => match look s k with
    | some v => (f v).ev1 ⟨s, o, nm, n0⟩ K
    | none => Stuck "slot"
  | .own n f, ⟨s, o, nm, n0⟩, K => match lookO o n with
    | some v => (f v).ev1 ⟨s, o, nm, n0⟩ K
    | none => Stuck "own"
  | _, _, _ => Stuck "result"
structure LeS (x y : SV) : Prop where
  le : ∀ (I : Nat → Prop) (ρ : Nat → Loc) (w : World) (v : Value), RepS I ρ w x v → RepS I ρ w y v
theorem LeS.refl (x : SV) : LeS x x := ⟨fun _ _ _ _ h => h⟩
theorem LeS.of_eq {x y : SV} (h : x = y) : LeS x y := h ▸ LeS.refl x
structure LeL (x y : List SV) : Prop where
  le : ∀ (I : Nat → Prop) (ρ : Nat → Loc) (w : World) (v : List Value), RepL I ρ w x v → RepL I ρ w y v
theorem LeL.refl (x : List SV) : LeL x x := ⟨fun _ _ _ _ h => h⟩
theorem LeL.of_eq {x y : List SV} (h : x = y) : LeL x y := h ▸ LeL.refl x
theorem LeS.d {x y : D} (h : DLe x y) : LeS (.d x) (.d y) := ⟨fun _ _ _ _ hv => by simp only [RepS] at hv ⊢; exact h.le _ _ _ hv⟩
theorem LeL.nil : LeL [] [] := LeL.refl _
theorem LeL.cons {x y : SV} {l m : List SV} (h : LeS x y) (t : LeL l m) : LeL (x :: l) (y :: m) := ⟨fun I ρ w us hu => by
  simp only [RepL] at hu ⊢
  obtain ⟨u, r, rfl, h1, h2⟩ := hu
  exact ⟨u, r, rfl, h.le _ _ _ _ h1, t.le _ _ _ _ h2⟩⟩
theorem LeS.agg {l m : List SV} (t : LeL l m) : LeS (.agg l) (.agg m) := ⟨fun I ρ w v hv => by
  simp only [RepS] at hv ⊢
  obtain ⟨us, h1, h2, h3⟩ := hv
  exact ⟨us, h1, t.le _ _ _ _ h2, h3⟩⟩
theorem LeS.tup {l m : List SV} (t : LeL l m) : LeS (.tup l) (.tup m) := ⟨fun I ρ w v hv => by
  simp only [RepS] at hv ⊢
  obtain ⟨us, h1, h2⟩ := hv
  exact ⟨us, h1, t.le _ _ _ _ h2⟩⟩
def postK (o : List (Nat × Blk)) : List (Nat × Blk) → Prop
  | [] => True
  | (n, .box ds) :: l => match lookO o n with
    | some (.box cs) => LeL cs ds ∧ postK o l
    | _ => Stuck "post"
  | _ => Stuck "post block"
structure Fin (v : SV) (o : List (Nat × Blk)) (res : SV) (post : List (Nat × Blk)) : Prop where
  le : LeS v res
  post : postK o post
def numFrom : Nat → List SV → List (Nat × SV)
  | _, [] => []
  | i, v :: l => (i, v) :: numFrom (i + 1) l
def resL : SV → List SV
  | .tup l => l
  | v => [v]
def pnC : List SV → List SV → List Nat
  | .osl _ _ _ _ :: l, .osl _ _ _ _ :: m => pnC l m
  | .osl n _ _ _ :: l, _ :: m => n :: pnC l m
  | _ :: l, _ :: m => pnC l m
  | _, _ => []
def pnS : SV → SV → List Nat
  | .agg cs, .agg ds => pnC cs ds
  | v, r => pnC [v] [r]
def pnL : List SV → List SV → List Nat
  | v :: l, r :: m => pnS v r ++ pnL l m
  | _, _ => []
def pnB (o : List (Nat × Blk)) : List (Nat × Blk) → List Nat
  | [] => []
  | (n, .box ds) :: l => match lookO o n with
    | some (.box cs) => pnC cs ds ++ pnB o l
    | _ => pnB o l
  | _ :: l => pnB o l
def retN (P : Program) (results : List ResultVar) : M Upd := resM P results fun vs => .ret ⟨none, .tup vs, [], [], [], []⟩
def FinN (n0 : List Nat) (res : SV) (post : List (Nat × Blk)) (nm : List Nat) : SV → List (Nat × Blk) → Prop
  | .tup vs, o => match Nat.beq vs.length (resL res).length with
    | true => pubs n0 (pnL vs (resL res) ++ pnB o post) (numFrom 0 vs) o fun s o => entK ⟨s, o, nm, n0⟩ ⟨numFrom 0 (resL res), post, keysP post, n0⟩
    | false => Stuck "results"
  | _, _ => Stuck "results"
def boxesP : List (Nat × Blk) → Bool
  | [] => true
  | (_, .box _) :: l => boxesP l
  | _ => false
def plainP (post : List (Nat × Blk)) (n0 : List Nat) : Bool :=
  match Nat.beq post.length n0.length with
  | true => boxesP post
  | false => false
theorem plainP_len {post : List (Nat × Blk)} {n0 : List Nat} (h : plainP post n0 = true) : post.length = n0.length := by
  unfold plainP at h
  split at h
  · rename_i e; exact Nat.eq_of_beq_eq_true e
  · cases h
def RetE (P : Program) (results : List ResultVar) (n0 : List Nat) (res : SV) (post : List (Nat × Blk)) : St → Prop
  | ⟨s, o, nm, m0⟩ => match plainP post n0 with
    | true => (retM P results n0).ev1 ⟨s, o, nm, m0⟩ fun v o => Fin v o res post
    | false => (retN P results).ev1 ⟨s, o, nm, m0⟩ (FinN m0 res post nm)
def RetK (P : Program) (results : List ResultVar) (n0 : List Nat) (res : SV) (post : List (Nat × Blk)) : Ex → St → Prop
  | .normal, σ => RetE P results n0 res post σ
  | .ret, σ => RetE P results n0 res post σ
  | .exit _, _ => Stuck "exit"
theorem ev1_inv {K : SV → List (Nat × Blk) → Prop} : ∀ {m : M Upd} {σ : St}, m.ev1 σ K → ∃ u σ', To P G (toF σ) m u ∧ K u.v σ'.o ∧ Pubs (toF σ) u.pub (toF σ') := by
  intro m
  induction m with
  | ret u =>
    intro ⟨s, o, nm, n0⟩ h
    obtain ⟨dst, v, own, del, new, pub⟩ := u
    simp only [M.ev1] at h
    obtain ⟨s1, o1, h, p⟩ := pubs_inv (nm := nm) (n0 := n0) h
    exact ⟨_, ⟨s1, o1, nm, n0⟩, .ret _, h, p⟩
  | slot k f ih =>
    intro ⟨s, o, nm, n0⟩ h
    simp only [M.ev1] at h
    split at h
    · rename_i v hv
      obtain ⟨u, σ', t, r⟩ := ih v h
      exact ⟨u, σ', .slot hv t, r⟩
    · exact h.out.elim
  | own k f ih =>
    intro ⟨s, o, nm, n0⟩ h
    simp only [M.ev1] at h
    split at h
    · rename_i v hv
      obtain ⟨u, σ', t, r⟩ := ih v h
      exact ⟨u, σ', .own hv t, r⟩
    · exact h.out.elim
  | _ => intro σ h; simp only [M.ev1] at h; exact h.out.elim
def resOne (tmps : Array Value) : ResultVar → Sem Value
  | .tmp t => pure (tmps.getD t undef)
  | .cell a t => do loadVar t (← asAddr (tmps.getD a undef))
theorem results_eq (fn : Func) (tmps : Array Value) : results fn tmps = (fn.results.mapM (resOne tmps) >>= fun vs => pure (if h : vs.size = 1 then vs[0] else .tuple vs)) := by
  unfold results
  congr 1
def oneV : List Value → Value
  | [v] => v
  | vs => .tuple ⟨vs⟩
def oneS : List SV → SV
  | [v] => v
  | vs => .tup vs
theorem oneS_rep {cs : List SV} {us : List Value} (h : RepL I ρ w cs us) : RepS I ρ w (oneS cs) (oneV us) := by
  match cs, us, h.length, h with
  | [], [], _, h => simp only [oneS, oneV, RepS]; exact ⟨[], rfl, h⟩
  | [x], [v], _, h =>
    simp only [RepL] at h
    obtain ⟨y, r, hy, hr, _⟩ := h
    simp only [List.cons.injEq] at hy
    simp only [oneS, oneV]
    rw [hy.1]; exact hr
  | x :: y :: r, v :: z :: q, _, h => simp only [oneS, oneV, RepS]; exact ⟨_, rfl, h⟩
theorem run_results {fn : Func} {tmps : Array Value} {vs : List Value} (h : (fn.results.toList.mapM (resOne tmps)).run P w = .ok vs w) :
    (results fn tmps).run P w = .ok (oneV vs) w := by
  rw [results_eq, Array.mapM_eq_mapM_toList]
  simp only [Sem.run_bind, Sem.run_map, h, Result.andThen_ok, Sem.run_pure]
  match vs with
  | [] => rfl
  | [v] => rfl
  | v :: u :: r => simp [oneV]
theorem To.resM_inv (hc : Conc G nt C I ρ F a w) {u : Upd} : ∀ {l : List ResultVar} {k : List SV → M Upd}, To P G F (resM P l k) u →
    ∃ cs vs, To P G F (k cs) u ∧ Vals I ρ F w cs vs ∧ (l.mapM (resOne a.tmps)).run P w = .ok vs w
  | [], k, h => ⟨[], [], h, ⟨by simp [RepL], by simp [inL]⟩, by simp⟩
  | .tmp t :: l, k, h => by
    simp only [resM] at h
    obtain ⟨sv, h1, h⟩ := h.slot_inv
    obtain ⟨v, hv, hr⟩ := hc.slots t sv h1
    obtain ⟨cs, vs, h, h2, h3⟩ := To.resM_inv hc h
    refine ⟨sv :: cs, v :: vs, h, ⟨by simp only [RepL]; exact ⟨v, vs, rfl, hr, h2.rep⟩, ?_⟩, ?_⟩
    · intro n hn
      simp only [inL] at hn
      exact hn.elim (hc.snames t sv n h1) (h2.nm n)
    · have : a.tmps.getD t undef = v := by simp [Array.getD_eq_getD_getElem?, hv]
      simp only [List.mapM_cons, resOne, Sem.run_bind, Sem.run_pure, this, Result.andThen_ok, h3]
  | .cell t T :: l, k, h => by
    simp only [resM] at h
    obtain ⟨sv, h1, h⟩ := h.slot_inv
    obtain ⟨v, hv, hr⟩ := hc.slots t sv h1
    split at h
    · rename_i n off
      simp only [RepS] at hr
      obtain ⟨b, hb, h'⟩ := h.own_inv
      clear h
      split at h'
      · rename_i cs
        obtain ⟨us, Et, h4, h5⟩ := hc.own n _ hb
        obtain ⟨_, h'⟩ := To.dropK_inv h'
        obtain ⟨d, sv', v', hd, h', hv', hpv⟩ := To.partK_inv (F := F) h' ⟨h5.1.drop off, fun x hx => h5.2 x (List.mem_of_mem_drop hx)⟩
          (fun m hm => hc.onames n _ m hb (inL_sub (fun c hc => List.mem_of_mem_drop hc) hm))
        obtain ⟨cs', vs, h', h2, h3⟩ := To.resM_inv hc h'
        refine ⟨sv' :: cs', v' :: vs, h', ⟨by simp only [RepL]; exact ⟨v', vs, rfl, hv'.rep, h2.rep⟩, ?_⟩, ?_⟩
        · intro m hm
          simp only [inL] at hm
          exact hm.elim (hv'.nm m) (h2.nm m)
        · have e : a.tmps.getD t undef = .pointer (some ⟨(ρ n).b, off, none⟩) := by simp [Array.getD_eq_getD_getElem?, hv, hr]
          have hl := run_loadVar_part (P := P) (w := w) hd (ad := ⟨(ρ n).b, off, none⟩) hpv (fun j x hx => by rw [cell_box h4]; simpa using hx)
          simp only [List.mapM_cons, resOne, Sem.run_bind, e, asAddr, Sem.run_pure, hl, Result.andThen_ok, h3]
      · exact h'.fail_inv.elim
    · exact h.fail_inv.elim
theorem To.lendBoxes_inv {ρ : Nat → Loc} {w : World} {u : Upd} : ∀ {ns : List Nat} {k : List Nat → M Upd}, To P G F (lendBoxes ns k) u → ∃ ms, To P G F (k ms) u ∧ RowNames F ms
  | [], k, h => ⟨[], h, by simp [RowNames]⟩
  | n :: ns, k, h => by
    simp only [lendBoxes] at h
    obtain ⟨b, hb, h'⟩ := h.own_inv
    clear h
    split at h'
    · obtain ⟨ds, ms, h1, h2, _, _⟩ := To.lendCells_inv (ρ := ρ) (w := w) h'
      obtain ⟨ms', h3, h4⟩ := To.lendBoxes_inv (ρ := ρ) (w := w) h1
      refine ⟨ms ++ ms', h3, ?_⟩
      intro m hm
      simp only [List.mem_append] at hm
      exact hm.elim (h2 m) (h4 m)
    · exact h'.fail_inv.elim
mutual
def nmS : SV → List Nat
  | .ptr n _ => [n]
  | .optr n _ _ _ => [n]
  | .osl n _ _ _ => [n]
  | .fsl n _ _ _ => [n]
  | .fptr n _ _ _ _ => [n]
  | .mp n => [n]
  | .agg cs => nmL cs
  | .tup cs => nmL cs
  | .clo _ cs => nmL cs
  | .ifc _ cs => nmL cs
  | _ => []
def nmL : List SV → List Nat
  | [] => []
  | c :: cs => nmS c ++ nmL cs
end
mutual
theorem inS_nm {n : Nat} : ∀ {v : SV}, inS n v → n ∈ nmS v
  | .ptr _ _, h => by simp only [inS] at h; subst h; simp [nmS]
  | .optr _ _ _ _, h => by simp only [inS] at h; subst h; simp [nmS]
  | .osl _ _ _ _, h => by simp only [inS] at h; subst h; simp [nmS]
  | .fsl _ _ _ _, h => by simp only [inS] at h; subst h; simp [nmS]
  | .fptr _ _ _ _ _, h => by simp only [inS] at h; subst h; simp [nmS]
  | .mp _, h => by simp only [inS] at h; subst h; simp [nmS]
  | .agg cs, h => by simp only [inS] at h; simp only [nmS]; exact inL_nm h
  | .tup cs, h => by simp only [inS] at h; simp only [nmS]; exact inL_nm h
  | .clo _ cs, h => by simp only [inS] at h; simp only [nmS]; exact inL_nm h
  | .ifc _ cs, h => by simp only [inS] at h; simp only [nmS]; exact inL_nm h
  | .d _, h => by simp [inS] at h
  | .cptr _ _, h => by simp [inS] at h
  | .junk, h => by simp [inS] at h
theorem inL_nm {n : Nat} : ∀ {cs : List SV}, inL n cs → n ∈ nmL cs
  | [], h => by simp [inL] at h
  | c :: cs, h => by
    simp only [inL] at h
    simp only [nmL, List.mem_append]
    exact or_map h inS_nm inL_nm
end
def preB (keys : List Nat) : List (Nat × Blk) → Bool
  | [] => true
  | (_, .box cs) :: l => subN keys (nmL cs) && preB keys l
  | (_, .row _ _ _ _) :: l => preB keys l
  | (_, .gmap fn _ _ _ _ _ _) :: l => memN fn keys && preB keys l
  | _ => false
def kindB : Option Blk → Blk → Bool
  | none, _ => true
  | some (.box _), .box _ => true
  | some (.row _ _ _ _), .row _ _ _ _ => true
  | some (.gmap _ _ _ _ _ _ _), .gmap _ _ _ _ _ _ _ => true
  | _, _ => false
def postB (keys : List Nat) (pre : List (Nat × Blk)) : List (Nat × Blk) → Bool
  | [] => true
  | (n, .box cs) :: l => subN keys (nmL cs) && (kindB (lookO pre n) (.box cs) && postB keys pre l)
  | (n, .row E sz len get) :: l => kindB (lookO pre n) (.row E sz len get) && postB keys pre l
  | (n, .smap kd g) :: l => kindB (lookO pre n) (.smap kd g) && postB keys pre l
  | (n, .fam nk rows) :: l => kindB (lookO pre n) (.fam nk rows) && postB keys pre l
  | (n, .frow fn E sz len get) :: l => memN fn keys && (kindB (lookO pre n) (.frow fn E sz len get) && postB keys pre l)
  | (n, .gmap fn ka kk va sz has get) :: l => memN fn keys && (kindB (lookO pre n) (.gmap fn ka kk va sz has get) && postB keys pre l)
  | _ => false
def nodupB : List Nat → Bool
  | [] => true
  | n :: l => !(memN n l) && nodupB l
def statB (args : List SV) (pre : List (Nat × Blk)) (res : SV) (post : List (Nat × Blk)) : Bool :=
  subN (keysP pre) (nmL args) && (preB (keysP pre) pre && (postB (keysP post) pre post && (subN (keysP post) (nmS res) && ((keysP post == keysP pre ++ newP pre post) && (disjN (newP pre post) (keysP pre) && nodupB (keysP post))))))
theorem postB_inv {keys : List Nat} {pre : List (Nat × Blk)} : ∀ {l : List (Nat × Blk)}, postB keys pre l = true → ∀ n b, (n, b) ∈ l → kindB (lookO pre n) b = true ∧ ∀ m, inB m b → m ∈ keys
  | [], _ => by simp
  | (i, c) :: l, h => by
    intro n b hn
    cases c with
    | box cs =>
      simp only [postB, Bool.and_eq_true] at h
      simp only [List.mem_cons, Prod.mk.injEq] at hn
      rcases hn with ⟨rfl, rfl⟩ | hn
      · exact ⟨h.2.1, fun m hm => subN_iff h.1 m (inL_nm hm)⟩
      · exact postB_inv h.2.2 n b hn
    | row E sz len get =>
      simp only [postB, Bool.and_eq_true] at h
      simp only [List.mem_cons, Prod.mk.injEq] at hn
      rcases hn with ⟨rfl, rfl⟩ | hn
      · exact ⟨h.1, fun m hm => hm.elim⟩
      · exact postB_inv h.2 n b hn
    | smap kd g =>
      simp only [postB, Bool.and_eq_true] at h
      simp only [List.mem_cons, Prod.mk.injEq] at hn
      rcases hn with ⟨rfl, rfl⟩ | hn
      · exact ⟨h.1, fun m hm => hm.elim⟩
      · exact postB_inv h.2 n b hn
    | fam nk rows =>
      simp only [postB, Bool.and_eq_true] at h
      simp only [List.mem_cons, Prod.mk.injEq] at hn
      rcases hn with ⟨rfl, rfl⟩ | hn
      · exact ⟨h.1, fun m hm => hm.elim⟩
      · exact postB_inv h.2 n b hn
    | frow fn E sz len get =>
      simp only [postB, Bool.and_eq_true] at h
      simp only [List.mem_cons, Prod.mk.injEq] at hn
      rcases hn with ⟨rfl, rfl⟩ | hn
      · exact ⟨h.2.1, fun m hm => by simp only [inB] at hm; subst hm; exact memN_iff.1 h.1⟩
      · exact postB_inv h.2.2 n b hn
    | gmap fn ka kk va sz has get =>
      simp only [postB, Bool.and_eq_true] at h
      simp only [List.mem_cons, Prod.mk.injEq] at hn
      rcases hn with ⟨rfl, rfl⟩ | hn
      · exact ⟨h.2.1, fun m hm => by simp only [inB] at hm; subst hm; exact memN_iff.1 h.1⟩
      · exact postB_inv h.2.2 n b hn
    | iter _ _ => simp [postB] at h
    | arr _ _ => simp [postB] at h
theorem kindB_same {b c : Blk} (h : kindB (some c) b = true) : sameKind c b := by
  cases c <;> cases b <;> first | trivial | (simp [kindB] at h)
theorem nodupB_inv : ∀ {l : List Nat}, nodupB l = true → l.Nodup
  | [], _ => .nil
  | n :: l, h => by
    simp only [nodupB, Bool.and_eq_true] at h
    refine List.nodup_cons.2 ⟨fun hm => ?_, nodupB_inv h.2⟩
    rw [memN_iff.2 hm] at h
    exact absurd h.1 (by simp)
theorem lookO_of_mem {n : Nat} {b : Blk} : ∀ {l : List (Nat × Blk)}, (keysP l).Nodup → (n, b) ∈ l → lookO l n = some b
  | [], _, h => by simp at h
  | (i, c) :: l, hd, h => by
    rw [lookO_cons]
    simp only [keysP, List.map_cons, List.nodup_cons] at hd
    simp only [List.mem_cons, Prod.mk.injEq] at h
    rcases h with ⟨rfl, rfl⟩ | h
    · simp
    · rw [if_neg]
      · exact lookO_of_mem hd.2 h
      · rintro rfl
        exact hd.1 (List.mem_map.2 ⟨_, h, rfl⟩)
theorem preB_inv {keys : List Nat} : ∀ {l : List (Nat × Blk)}, preB keys l = true → ∀ n b, (n, b) ∈ l → goLike b ∧ ∀ m, inB m b → m ∈ keys
  | [], _ => by simp
  | (i, c) :: l, h => by
    intro n b hn
    cases c with
    | box cs =>
      simp only [preB, Bool.and_eq_true] at h
      simp only [List.mem_cons, Prod.mk.injEq] at hn
      rcases hn with ⟨rfl, rfl⟩ | hn
      · exact ⟨trivial, fun m hm => subN_iff h.1 m (inL_nm hm)⟩
      · exact preB_inv h.2 n b hn
    | row E sz len get =>
      simp only [preB] at h
      simp only [List.mem_cons, Prod.mk.injEq] at hn
      rcases hn with ⟨rfl, rfl⟩ | hn
      · exact ⟨trivial, fun m hm => hm.elim⟩
      · exact preB_inv h n b hn
    | iter _ _ => simp [preB] at h
    | smap _ _ => simp [preB] at h
    | arr _ _ => simp [preB] at h
    | fam _ _ => simp [preB] at h
    | frow _ _ _ _ _ => simp [preB] at h
    | gmap fn _ _ _ _ _ _ =>
      simp only [preB, Bool.and_eq_true] at h
      simp only [List.mem_cons, Prod.mk.injEq] at hn
      rcases hn with ⟨rfl, rfl⟩ | hn
      · exact ⟨trivial, fun m hm => by simp only [inB] at hm; subst hm; exact memN_iff.1 h.1⟩
      · exact preB_inv h.2 n b hn
theorem look_numFrom {k : Nat} {sv : SV} : ∀ {i : Nat} {l : List SV}, look (numFrom i l) k = some sv → i ≤ k ∧ l[k - i]? = some sv
  | i, [], h => by simp [numFrom, look] at h
  | i, v :: l, h => by
    simp only [numFrom] at h
    rw [look_cons] at h
    split at h
    · rename_i e; subst e; cases h; exact ⟨Nat.le_refl _, by simp⟩
    · rename_i e
      obtain ⟨h1, h2⟩ := look_numFrom h
      refine ⟨by omega, ?_⟩
      rw [show k - i = (k - (i + 1)) + 1 by omega]
      simpa using h2
def bodyOf (fn : Func) : Code := fn.body.getD .skip
theorem Conc.results (hc : Conc G nt C I ρ F a w) {cs : List SV} {vs : List Value} (hv : Vals I ρ F w cs vs) :
    Conc G vs.length C I ρ ⟨look (numFrom 0 cs), F.o, F.nm, F.n0⟩ { tmps := ⟨vs⟩, defers := [] } w where
  defers := rfl
  size := rfl
  slots := by
    intro k sv hk
    obtain ⟨_, h2⟩ := look_numFrom hk
    simp only [Nat.sub_zero] at h2
    obtain ⟨v, h3, hr⟩ := hv.rep.get h2
    exact ⟨v, by simpa using h3, hr⟩
  snames := by
    intro k sv n hk hn
    obtain ⟨_, h2⟩ := look_numFrom hk
    simp only [Nat.sub_zero] at h2
    exact hv.nm n (inL_mem.2 ⟨sv, List.mem_of_getElem? h2, hn⟩)
  own := hc.own
  onames := hc.onames
  okeys := hc.okeys
  sepF := hc.sepF
  freshF := hc.freshF
  injF := hc.injF
  ilt := hc.ilt
  i0 := hc.i0
  i1 := hc.i1
  old := hc.old
  glob := hc.glob
  keep := hc.keep
theorem numFrom_get : ∀ {l : List SV} {i k : Nat} {v : SV}, l[k]? = some v → look (numFrom i l) (i + k) = some v
  | [], i, k, v, h => by simp at h
  | x :: l, i, 0, v, h => by simp only [numFrom, look_cons]; simpa using h
  | x :: l, i, k + 1, v, h => by
    simp only [numFrom, look_cons]
    rw [if_neg (by omega)]
    have := numFrom_get (l := l) (i := i + 1) (k := k) (v := v) (by simpa using h)
    rw [show i + (k + 1) = i + 1 + k by omega]
    exact this
theorem RepL.of_slots : ∀ {cs : List SV} {vs : List Value}, cs.length = vs.length → (∀ (k : Nat) (v : SV), cs[k]? = some v → ∃ u, vs[k]? = some u ∧ RepS I ρ w v u) → RepL I ρ w cs vs
  | [], [], _, _ => by simp [RepL]
  | [], _ :: _, h, _ => by simp at h
  | _ :: _, [], h, _ => by simp at h
  | c :: cs, v :: vs, h, hk => by
    simp only [RepL]
    obtain ⟨u, h1, h2⟩ := hk 0 c rfl
    simp only [List.getElem?_cons_zero, Option.some.injEq] at h1
    subst h1
    exact ⟨v, vs, rfl, h2, RepL.of_slots (by simpa using h) (fun k x hx => by simpa using hk (k + 1) x (by simpa using hx))⟩
theorem resL_one {res : SV} : oneS (resL res) = res ∨ ∃ v, res = .tup [v] := by
  cases res with
  | tup l => match l with
    | [] => exact .inl rfl
    | [v] => exact .inr ⟨v, rfl⟩
    | _ :: _ :: _ => exact .inl rfl
  | _ => exact .inl rfl
def notTup1 : SV → Bool
  | .tup [_] => false
  | _ => true
theorem foot_go {L : Loc} {b : Blk} {k : Nat} (h : goLike b) (hf : foot L b k) : live L b ∧ k = L.b := by
  rcases foot_inv hf with h1 | ⟨nk, rows, rfl, _⟩
  · exact h1
  · exact h.elim
theorem spec_introX {f : FuncId} {fn : Func} {args : List SV} {pre : List (Nat × Blk)} {res : SV} {post : List (Nat × Blk)} (hE : EOk P E) (hf : P.funcs[f]? = some fn) (hb : fn.body = some (bodyOf fn))
    (henter : ∀ (vs : Array Value) (w : World), (callFunc f vs).run P w = .ok (.enter f vs) w) (hn : Nat.ble args.length fn.ntmps = true) (hstat : (statB args pre res post && notTup1 res) = true)
    (σ0 : St) (he : EntC ⟨numFrom 0 args, pre, keysP pre, keysP pre⟩ σ0) (h : exec P G E fn.ntmps (bodyOf fn) σ0 (RetK P fn.results.toList (keysP pre) res post)) : Spec P G f args pre res post := by
  simp only [statB, Bool.and_eq_true, beq_iff_eq] at hstat
  obtain ⟨⟨s1, s2, s3, s4, s5, s6, s7⟩, s8⟩ := hstat
  have s1 := subN_iff s1
  have s2 := preB_inv s2
  have s3 := postB_inv s3
  have s4 := subN_iff s4
  have s6 := disjN_inv s6
  have s7 := nodupB_inv s7
  have s9 : (keysP pre).Nodup := (List.nodup_append.1 (s5 ▸ s7)).1
  have hkind : ∀ n b c, (n, b) ∈ post → (n, c) ∈ pre → sameKind c b := fun n b c hb hc => kindB_same (by rw [← lookO_of_mem s9 hc]; exact (s3 n b hb).1)
  have hn : args.length ≤ fn.ntmps := Nat.le_of_ble_eq_true hn
  refine { keys := s5, apart := s6, rnames := fun n hn => s4 n (inS_nm hn), pnames := fun n b m hm hk => (s3 n b hm).2 m hk, kind := hkind, enter := henter, calls := ?_ }
  intro w I ρ vs hargs hpre hdis hI hG
  have hvl := hargs.length
  let C : Ctx := { I0 := I, ρ0 := ρ, N0 := fun n => n ∈ keysP pre, S0 := fun k => ∃ n b, (n, b) ∈ pre ∧ live (ρ n) b ∧ (ρ n).b = k, w0 := w }
  have hc : Conc G fn.ntmps C I ρ (toF ⟨numFrom 0 args, pre, keysP pre, keysP pre⟩) { tmps := ⟨vs⟩ ++ Array.replicate (fn.ntmps - (Array.mk vs).size) undef, defers := [] } w := by
    have hmem : ∀ n b, lookO pre n = some b → (n, b) ∈ pre := fun n b h => lookO_mem h
    have hkey : ∀ n b, (n, b) ∈ pre → memN n (keysP pre) = true := fun n b h => memN_iff.2 (List.mem_map.2 ⟨_, h, rfl⟩)
    exact {
      defers := rfl
      size := by
        have : (Array.mk vs).size = args.length := hvl
        simp [this]
        omega
      slots := by
        intro k sv hk
        obtain ⟨_, h2⟩ := look_numFrom (show look (numFrom 0 args) k = some sv from hk)
        simp only [Nat.sub_zero] at h2
        obtain ⟨v, hv, hr⟩ := hargs.get h2
        refine ⟨v, ?_, hr⟩
        have hlt : k < vs.length := (List.getElem?_eq_some_iff.1 hv).1
        rw [Array.getElem?_append_left (by simpa using hlt)]
        simpa using hv
      snames := by
        intro k sv n hk hn
        obtain ⟨_, h2⟩ := look_numFrom (show look (numFrom 0 args) k = some sv from hk)
        simp only [Nat.sub_zero] at h2
        exact memN_iff.2 (s1 n (inL_nm (inL_mem.2 ⟨sv, List.mem_of_getElem? h2, hn⟩)))
      own := fun n b hn => (hpre n b (hmem n b hn)).1
      onames := fun n b m hn hm => memN_iff.2 ((s2 n b (hmem n b hn)).2 m hm)
      okeys := fun n b hn => hkey n b (hmem n b hn)
      sepF := fun n b k hn hl => by
        obtain ⟨h1, h2⟩ := foot_go (s2 n b (hmem n b hn)).1 hl
        subst h2
        exact ⟨(hpre n b (hmem n b hn)).2 h1, .inr ⟨n, b, hmem n b hn, h1, rfl⟩⟩
      freshF := fun n b k hn _ _ => .inr (List.mem_map.2 ⟨_, hmem n b hn, rfl⟩)
      injF := fun n m b c k hn hm hl hl' => by
        obtain ⟨h1, h2⟩ := foot_go (s2 n b (hmem n b hn)).1 hl
        subst h2
        obtain ⟨h3, h4⟩ := foot_go (s2 m c (hmem m c hm)).1 hl'
        exact hdis n b m c (hmem n b hn) (hmem m c hm) h1 h3 h4
      ilt := hI
      i0 := fun _ h => h
      i1 := fun _ h => .inl h
      old := fun n hn => ⟨memN_iff.2 hn, memN_iff.2 hn, rfl⟩
      glob := hG
      keep := Keep.refl _ _ }
  obtain ⟨I9, ρ9, hc9⟩ := he.out hc
  refine calls_of_wp hf hb (wp_mono (exec_sound hE h hc9) ?_)
  intro e a' w' hg
  have fin : ∀ {σ : St} {I' : Nat → Prop} {ρ' : Nat → Loc}, RetE P fn.results.toList (keysP pre) res post σ → Conc G fn.ntmps C I' ρ' (toF σ) a' w' →
      a'.defers = [] ∧ ∃ v, (results fn a'.tmps).run P w' = .ok v w' ∧ (∃ v' I' ρ', (Ending.returned v) = .returned v' ∧ After I ρ w pre res post I' ρ' w' v') := by
    intro σ I' ρ' h hc'
    obtain ⟨ss, oo, nn, mm⟩ := σ
    simp only [RetE] at h
    split at h
    · -- nothing own is handed on
      rename_i hlen
      have hnew : newP pre post = [] := by
        have e := plainP_len hlen
        unfold newP
        rw [List.drop_eq_nil_of_le]
        simp only [keysP, List.length_map] at e ⊢
        omega
      have s5' : keysP post = keysP pre := by rw [s5, hnew, List.append_nil]
      obtain ⟨u, σ', t, hk, p⟩ := ev1_inv (P := P) (G := G) h
      obtain ⟨cs, vs', t, hvs, hres⟩ := To.resM_inv hc' t
      obtain ⟨ds, ns, t, l1, l2, l3⟩ := To.lendArgs_inv (ρ := ρ') (w := w') t
      obtain ⟨ms, t, m1⟩ := To.lendBoxes_inv (ρ := ρ') (w := w') t
      have hu : u.pub = ns ++ ms ∧ u.v = oneS ds := by
        match ds, t with
        | [], t => have := t.ret_inv; subst this; exact ⟨rfl, rfl⟩
        | [x], t => have := t.ret_inv; subst this; exact ⟨rfl, rfl⟩
        | x :: y :: r, t => have := t.ret_inv; subst this; exact ⟨rfl, rfl⟩
      obtain ⟨I2, hc2, hI2, hpub, hnm, _⟩ := p.conc hc'
      have hBk : ∀ n b, (toF ⟨ss, oo, nn, mm⟩).o n = some b → BlkOk I2 ρ' w' (ρ' n) b := fun n b hb => (hc'.own n b hb).mono hI2 (fun _ _ _ => rfl) (fun _ _ => rfl) (fun _ _ => rfl)
      have hds : RepL I2 ρ' w' ds vs' := l3 I2 vs' (fun n hn hcap => hpub n (by rw [hu.1]; simp [hn]) (l1 n hn) hcap) hBk (hvs.rep.mono hI2 (fun _ _ _ => rfl) (fun _ _ => rfl))
      have hval : RepS I2 ρ' w' u.v (oneV vs') := by
        rw [hu.2]
        exact oneS_rep hds
      have hres2 := hk.le.le _ _ _ _ hval
      have hold : ∀ n, n ∈ keysP pre → ρ n = ρ' n := fun n hn => ((hc2.old n hn).2.2).symm
      have hpost : ∀ {l : List (Nat × Blk)}, postK σ'.o l → ∀ n b, (n, b) ∈ l → ∃ cs ds, lookO σ'.o n = some (.box cs) ∧ b = .box ds ∧ LeL cs ds := by
        intro l
        induction l with
        | nil => intro _ n b hn; simp at hn
        | cons x l ih =>
          obtain ⟨i, c⟩ := x
          intro h n b hn
          cases c with
          | box es =>
            simp only [postK] at h
            split at h
            · rename_i cs hcs
              simp only [List.mem_cons, Prod.mk.injEq] at hn
              rcases hn with ⟨rfl, rfl⟩ | hn
              · exact ⟨cs, es, hcs, rfl, h.1⟩
              · exact ih h.2 n b hn
            · exact h.out.elim
          | _ => simp only [postK] at h; exact h.out.elim
      refine ⟨hc'.defers, _, run_results hres, _, I2, ρ, rfl, { old := fun _ _ => rfl, res := hres2.mono (fun _ h => h) (fun _ _ _ => rfl) (fun n hn => hold n (s5' ▸ s4 n (inS_nm hn))), own := ?_, i0 := fun b hb => hI2 b (hc'.i0 b hb), i1 := hc2.i1, ilt := hc2.ilt, keep := hc2.keep, sep := fun n b k _ hn => (by rw [hnew] at hn; cases hn), inj := fun n m b c k _ _ hn => (by rw [hnew] at hn; cases hn) }⟩
      intro n b hnb
      obtain ⟨cs', ds', h1, rfl, h2⟩ := hpost hk.post n b hnb
      have hkey : n ∈ keysP pre := by rw [← s5']; exact List.mem_map.2 ⟨_, hnb, rfl⟩
      have h3 := hc2.own n (.box cs') (by cases σ'; exact h1)
      obtain ⟨us, Et, h4, h5⟩ := h3
      rw [hold n hkey]
      refine ⟨us, Et, h4, (h2.le _ _ _ _ h5.1).mono (fun _ h => h) (fun _ _ _ => rfl) (fun m hm => hold m (s5' ▸ (s3 n _ hnb).2 m hm)), h5.2⟩
    · -- own blocks are handed on
      obtain ⟨u, σ', t, hk, p⟩ := ev1_inv (P := P) (G := G) h
      obtain ⟨cs, vs', t, hvs, hres⟩ := To.resM_inv hc' t
      have := t.ret_inv
      subst this
      obtain ⟨s1, o1, n1, m1⟩ := σ'
      have hoo : lookO o1 = lookO oo := by
        have e : ∀ {A B : Fs}, Pubs A [] B → A = B := by intro A B h; cases h; rfl
        exact congrArg Fs.o (e p).symm
      simp only [FinN] at hk
      split at hk
      · rename_i hlen
        obtain ⟨s2, o2, hk, p2⟩ := pubs_inv (nm := nn) (n0 := mm) hk
        have hcr := hc'.results hvs
        have e0 : (⟨look (numFrom 0 cs), (toF ⟨ss, oo, nn, mm⟩).o, (toF ⟨ss, oo, nn, mm⟩).nm, (toF ⟨ss, oo, nn, mm⟩).n0⟩ : Fs) = toF ⟨numFrom 0 cs, o1, nn, mm⟩ := by
          simp only [toF, hoo]
        rw [e0] at hcr
        obtain ⟨I2, hc2, hI2, _⟩ := p2.conc hcr
        obtain ⟨ρ2, hc3⟩ := entK_sound hk hc2
        have hl1 : vs'.length = cs.length := hvs.rep.length
        have hl2 := Nat.eq_of_beq_eq_true hlen
        have hval : RepL I2 ρ2 w' (resL res) vs' := RepL.of_slots (by omega) (fun k v hv => by
          have := hc3.slots k v (show look (numFrom 0 (resL res)) k = some v by simpa using numFrom_get (i := 0) hv)
          simpa using this)
        have hone : oneS (resL res) = res := by
          rcases resL_one (res := res) with h | ⟨v, rfl⟩
          · exact h
          · simp [notTup1] at s8
        have hres2 := oneS_rep hval
        rw [hone] at hres2
        have hlk : ∀ n b, (n, b) ∈ post → (toF ⟨numFrom 0 (resL res), post, keysP post, mm⟩).o n = some b := fun n b hn => lookO_of_mem s7 hn
        have hnotpre : ∀ n b k, (n, b) ∈ post → n ∈ newP pre post → foot (ρ2 n) b k → ¬ ∃ m c, (m, c) ∈ pre ∧ live (ρ m) c ∧ (ρ m).b = k := by
          rintro n b k hnb hnew hl ⟨m, c, hm, hlm, e⟩
          have hmk : m ∈ keysP pre := List.mem_map.2 ⟨_, hm, rfl⟩
          obtain ⟨c', hc'm⟩ := keysP_mem.1 (show m ∈ keysP post by rw [s5]; exact List.mem_append.2 (.inl hmk))
          have hlm' : live (ρ2 m) c' := by rw [(hc3.old m hmk).2.2]; exact (hkind m c' c hc'm hm).live.1 hlm
          have := hc3.injF m n c' b k (hlk m c' hc'm) (hlk n b hnb) (by have h := foot_live hlm'; rw [(hc3.old m hmk).2.2] at h ⊢; rw [← e]; exact h) hl
          subst this
          exact s6 m hnew hmk
        refine ⟨hc'.defers, _, run_results hres, _, I2, ρ2, rfl, { old := fun n hn => (hc3.old n hn).2.2, res := hres2, own := fun n b hn => hc3.own n b (hlk n b hn), i0 := hc3.i0, i1 := hc3.i1, ilt := hc3.ilt, keep := hc3.keep, sep := ?_, inj := ?_ }⟩
        · intro n b k hnb hnew hl
          obtain ⟨h1, h2⟩ := hc3.sepF n b k (hlk n b hnb) hl
          exact ⟨h1, h2.resolve_right (hnotpre n b k hnb hnew hl)⟩
        · intro n m b c k hnb hmc _ _ hl hl'
          exact hc3.injF n m b c k (hlk n b hnb) (hlk m c hmc) hl hl'
      · exact hk.out.elim
  cases e with
  | normal =>
    obtain ⟨σ, I', ρ', hk, hc'⟩ := hg
    exact fin hk hc'
  | ret =>
    obtain ⟨σ, I', ρ', hk, hc'⟩ := hg
    exact fin hk hc'
  | exit id => obtain ⟨σ, I', ρ', hk, hc'⟩ := hg; exact hk.out.elim
  | _ => exact hg.elim
theorem spec_intro {f : FuncId} {fn : Func} {args : List SV} {pre : List (Nat × Blk)} {res : SV} {post : List (Nat × Blk)} (hE : EOk P E) (hf : P.funcs[f]? = some fn) (hb : fn.body = some (bodyOf fn))
    (henter : ∀ (vs : Array Value) (w : World), (callFunc f vs).run P w = .ok (.enter f vs) w) (hn : Nat.ble args.length fn.ntmps = true) (hstat : (statB args pre res post && notTup1 res) = true)
    (h : exec P G E fn.ntmps (bodyOf fn) ⟨numFrom 0 args, pre, keysP pre, keysP pre⟩ (RetK P fn.results.toList (keysP pre) res post)) : Spec P G f args pre res post :=
  spec_introX hE hf hb henter hn hstat _ (EntC.refl _) h
theorem entC_fam {s : List (Nat × SV)} {o : List (Nat × Blk)} {nm n0 : List Nat} (h : memN famN nm = false) : EntC ⟨s, o, nm, n0⟩ ⟨s, (famN, .fam 0 fun _ => none) :: o, famN :: nm, n0⟩ := ⟨fun {G nt C I ρ a w} hc => by
  have hn : ¬ (toF ⟨s, o, nm, n0⟩).nm famN := by simp only [toF]; rw [h]; simp
  have h1 := hc.new (w' := w) hn (L := mkL 0 0 0 0 0) (blk := .fam 0 fun _ => none) (fun _ _ _ => rfl) (fun _ _ _ _ _ => rfl) hc.keep hc.ilt ⟨rfl, fun _ _ h => by (cases h), fun _ _ _ _ h => by (cases h)⟩ (by simp [inB])
    (by rintro j ⟨i, r, h, _⟩; cases h)
  refine ⟨I, rhoSet ρ famN (mkL 0 0 0 0 0), ?_⟩
  have e : toF ⟨s, (famN, .fam 0 fun _ => none) :: o, famN :: nm, n0⟩ = newO (toF ⟨s, o, nm, n0⟩) famN (.fam 0 fun _ => none) := by
    refine fs_ext rfl (fun q => ?_) (fun q => ?_) rfl
    · simp only [toF, newO, lookO_cons]
      by_cases e : q = famN
      · simp [e]
      · rw [if_neg e, if_neg (Ne.symm e)]
    · simp only [toF, newO, memN_iff, List.mem_cons]
  rw [e]; exact h1⟩
theorem spec_introF {f : FuncId} {fn : Func} {args : List SV} {pre : List (Nat × Blk)} {res : SV} {post : List (Nat × Blk)} (hE : EOk P E) (hf : P.funcs[f]? = some fn) (hb : fn.body = some (bodyOf fn))
    (henter : ∀ (vs : Array Value) (w : World), (callFunc f vs).run P w = .ok (.enter f vs) w) (hn : Nat.ble args.length fn.ntmps = true) (hstat : (statB args pre res post && notTup1 res) = true) (hfam : memN famN (keysP pre) = false)
    (h : exec P G E fn.ntmps (bodyOf fn) ⟨numFrom 0 args, (famN, .fam 0 fun _ => none) :: pre, famN :: keysP pre, keysP pre⟩ (RetK P fn.results.toList (keysP pre) res post)) : Spec P G f args pre res post :=
  spec_introX hE hf hb henter hn hstat _ (entC_fam hfam) h
theorem call_intro {f : FuncId} {args : List SV} {pre : List (Nat × Blk)} {bor : List Nat} {K : SV → List (Nat × Blk) → Prop} {res : SV} {post : List (Nat × Blk)} (h : Spec P G f args pre res post) (k : K res post) (hb : bor = [] ∨ (flatR res = true ∧ FlatPost post)) :
    CallVC P G f args pre bor K := .mk res post h hb k
theorem bc_true {b : Bool} {X Y : Prop} (h : b = true) (x : X) : bc b X Y := by subst h; exact x
theorem bc_false {b : Bool} {X Y : Prop} (h : b = false) (y : Y) : bc b X Y := by subst h; exact y
end Go.Sx
