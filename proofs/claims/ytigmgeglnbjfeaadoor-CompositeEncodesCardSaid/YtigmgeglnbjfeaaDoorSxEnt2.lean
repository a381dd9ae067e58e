/- Part of a symbolic executor over the model, proved sound, with plain laws: SxEnt2. Written for these claims. -/
import Derived.Test.YtigmgeglnbjfeaaDoorSxEnt
namespace Go.Sx
open Go
set_option linter.unusedVariables false
set_option linter.unusedSimpArgs false

variable {P : Program} {G : Nat → Option (Nat × (Nat → D))} {nt : Nat} {C : Ctx} {I : Nat → Prop} {ρ : Nat → Loc} {F : Fs} {a : Act} {w : World} {E : List Nat} {T : Nat}

theorem entSlots_inv {s : List (Nat × SV)} : ∀ {l : List (Nat × SV)} {r : Ren} {k : Ren → Prop}, entSlots s l r k →
    ∃ r', k r' ∧ ExtR r r' ∧ ∀ i v, look l i = some v → ∃ u, look s i = some u ∧ EntS u v r'
  | [], r, k, h => ⟨r, h, .refl r, fun _ _ h => by simp [look] at h⟩
  | (i, v) :: l, r, k, h => by
    simp only [entSlots] at h
    split at h
    · rename_i u hu
      obtain ⟨r1, h1, e1, h2⟩ := entS_inv h
      obtain ⟨r2, h3, e2, h4⟩ := entSlots_inv h1
      refine ⟨r2, h3, e1.trans e2, ?_⟩
      intro j v' hj
      rw [look_cons] at hj
      split at hj
      · rename_i e; subst e; cases hj; exact ⟨u, hu, h2.ext e2⟩
      · exact h4 j v' hj
    · exact h.out.elim

/-- what stands for an own block of the target -/
def EntB (o : List (Nat × Blk)) (r : Ren) (n' : Nat) : Blk → Prop
  | .box ds => ∃ n cs, lookR r n' = some (.inl n) ∧ lookO o n = some (.box cs) ∧ EntL cs ds r
  | .row E' sz' len' g' => (∃ n g, lookR r n' = some (.inl n) ∧ lookO o n = some (.row E' sz' len' g) ∧ RowLe len' sz' g g') ∨ (lookR r n' = some (.inr sz') ∧ len' = 0)
  | .iter s p => ∃ n, lookR r n' = some (.inl n) ∧ lookO o n = some (.iter s p)
  | .smap kd g => ∃ n, lookR r n' = some (.inl n) ∧ lookO o n = some (.smap kd g)
  | .arr _ _ => False

theorem EntB.ext {o : List (Nat × Blk)} {r r' : Ren} {n' : Nat} {b : Blk} (h : EntB o r n' b) (e : ExtR r r') : EntB o r' n' b := by
  cases b with
  | box ds => obtain ⟨n, cs, h1, h2, h3⟩ := h; exact ⟨n, cs, e _ _ h1, h2, h3.ext e⟩
  | row E' sz' len' g' =>
    rcases h with ⟨n, g, h1, h2, h3⟩ | ⟨h1, h2⟩
    · exact .inl ⟨n, g, e _ _ h1, h2, h3⟩
    · exact .inr ⟨e _ _ h1, h2⟩
  | iter s p => obtain ⟨n, h1, h2⟩ := h; exact ⟨n, e _ _ h1, h2⟩
  | smap kd g => obtain ⟨n, h1, h2⟩ := h; exact ⟨n, e _ _ h1, h2⟩
  | arr _ _ => exact h.elim

def isBoxB : Blk → Bool
  | .box _ => true
  | _ => false

theorem entBoxes_inv {o : List (Nat × Blk)} : ∀ {l : List (Nat × Blk)} {r : Ren} {k : Ren → Prop}, entBoxes o l r k →
    ∃ r', k r' ∧ ExtR r r' ∧ ∀ n b, (n, b) ∈ l → isBoxB b = true → EntB o r' n b
  | [], r, k, h => ⟨r, h, .refl r, fun _ _ h => by simp at h⟩
  | (n', b) :: l, r, k, h => by
    have other : isBoxB b = false → entBoxes o l r k → ∃ r', k r' ∧ ExtR r r' ∧ ∀ n c, (n, c) ∈ (n', b) :: l → isBoxB c = true → EntB o r' n c := by
      intro hb h
      obtain ⟨r', h1, e, h2⟩ := entBoxes_inv h
      refine ⟨r', h1, e, fun n c hc hx => ?_⟩
      simp only [List.mem_cons, Prod.mk.injEq] at hc
      rcases hc with ⟨rfl, rfl⟩ | hc
      · rw [hb] at hx; cases hx
      · exact h2 n c hc hx
    cases b with
    | box ds =>
      have step : ∀ {r0 : Ren} {n : Nat} {cs : List SV}, ExtR r r0 → lookR r0 n' = some (.inl n) → lookO o n = some (.box cs) → entL cs ds r0 (fun r => entBoxes o l r k) →
          ∃ r', k r' ∧ ExtR r r' ∧ ∀ m c, (m, c) ∈ (n', Blk.box ds) :: l → isBoxB c = true → EntB o r' m c := by
        intro r0 n cs e0 hn ho h
        obtain ⟨r1, h1, e1, h2⟩ := entL_inv h
        obtain ⟨r2, h3, e2, h4⟩ := entBoxes_inv h1
        refine ⟨r2, h3, e0.trans (e1.trans e2), fun m c hc hx => ?_⟩
        simp only [List.mem_cons, Prod.mk.injEq] at hc
        rcases hc with ⟨rfl, rfl⟩ | hc
        · exact ⟨n, cs, e2 _ _ (e1 _ _ hn), ho, h2.ext e2⟩
        · exact h4 m c hc hx
      simp only [entBoxes] at h
      split at h
      · rename_i n hn
        split at h
        · rename_i cs ho
          exact step (.refl r) hn ho h
        · exact h.out.elim
      · exact h.out.elim
      · rename_i hn
        split at h
        · rename_i cs ho
          exact step (ext_cons hn) (by rw [lookR_cons]; simp) ho h
        · exact h.out.elim
    | row _ _ _ _ => exact other rfl h
    | iter _ _ => exact other rfl h
    | smap _ _ => exact other rfl h
    | arr _ _ => exact other rfl h

theorem entRows_inv {o : List (Nat × Blk)} : ∀ {l : List (Nat × Blk)} {r : Ren} {k : Ren → Prop}, entRows o l r k →
    ∃ r', k r' ∧ ExtR r r' ∧ ∀ n b, (n, b) ∈ l → isBoxB b = false → EntB o r' n b
  | [], r, k, h => ⟨r, h, .refl r, fun _ _ h => by simp at h⟩
  | (n', b) :: l, r, k, h => by
    have step : ∀ {r0 : Ren}, ExtR r r0 → (isBoxB b = false → EntB o r0 n' b) → entRows o l r0 k → ∃ r', k r' ∧ ExtR r r' ∧ ∀ m c, (m, c) ∈ (n', b) :: l → isBoxB c = false → EntB o r' m c := by
      intro r0 e0 hb h
      obtain ⟨r1, h1, e1, h2⟩ := entRows_inv h
      refine ⟨r1, h1, e0.trans e1, fun m c hc hx => ?_⟩
      simp only [List.mem_cons, Prod.mk.injEq] at hc
      rcases hc with ⟨rfl, rfl⟩ | hc
      · exact (hb hx).ext e1
      · exact h2 m c hc hx
    cases b with
    | box ds => exact step (.refl r) (fun h => by simp [isBoxB] at h) h
    | row E' sz' len' g' =>
      simp only [entRows] at h
      split at h
      · rename_i n hn
        split at h
        · rename_i Et sz len g ho
          obtain ⟨⟨rfl, rfl, rfl⟩, h2, h⟩ := h
          exact step (.refl r) (fun _ => .inl ⟨n, g, hn, ho, h2⟩) h
        · exact h.out.elim
      · rename_i s hn
        obtain ⟨⟨rfl, rfl⟩, h⟩ := h
        exact step (.refl r) (fun _ => .inr ⟨hn, rfl⟩) h
      · rename_i hn
        split at h
        · rename_i Et sz len g ho
          obtain ⟨⟨rfl, rfl, rfl⟩, h2, h⟩ := h
          exact step (ext_cons hn) (fun _ => .inl ⟨n', g, by rw [lookR_cons]; simp, ho, h2⟩) h
        · exact h.out.elim
    | iter s' p' =>
      simp only [entRows] at h
      split at h
      · rename_i n hn
        split at h
        · rename_i s p ho
          obtain ⟨⟨rfl, rfl⟩, h⟩ := h
          exact step (.refl r) (fun _ => ⟨n, hn, ho⟩) h
        · exact h.out.elim
      · exact h.out.elim
      · rename_i hn
        split at h
        · rename_i s p ho
          obtain ⟨⟨rfl, rfl⟩, h⟩ := h
          exact step (ext_cons hn) (fun _ => ⟨n', by rw [lookR_cons]; simp, ho⟩) h
        · exact h.out.elim
    | smap kd' g' =>
      simp only [entRows] at h
      split at h
      · rename_i n hn
        split at h
        · rename_i kd g ho
          obtain ⟨⟨rfl, rfl⟩, h⟩ := h
          exact step (.refl r) (fun _ => ⟨n, hn, ho⟩) h
        · exact h.out.elim
      · exact h.out.elim
      · rename_i hn
        split at h
        · rename_i kd g ho
          obtain ⟨⟨rfl, rfl⟩, h⟩ := h
          exact step (ext_cons hn) (fun _ => ⟨n', by rw [lookR_cons]; simp, ho⟩) h
        · exact h.out.elim
    | arr _ _ => exact h.out.elim

theorem memN_iff {n : Nat} : ∀ {l : List Nat}, memN n l = true ↔ n ∈ l
  | [] => by simp [memN]
  | m :: l => by
    simp only [memN]
    split
    · rename_i e; simp [(beq_iff _ _).1 e]
    · rename_i e
      have : n ≠ m := fun e' => by rw [(beq_iff _ _).2 e'] at e; cases e
      simp [this, memN_iff (l := l)]

theorem lookO_mem {b : Blk} {n : Nat} : ∀ {l : List (Nat × Blk)}, lookO l n = some b → (n, b) ∈ l
  | [], h => by simp [lookO] at h
  | (i, c) :: l, h => by
    rw [lookO_cons] at h
    split at h
    · rename_i e; subst e; cases h; simp
    · simp [lookO_mem h]

theorem keysR_iff {n : Nat} : ∀ {r : Ren}, n ∈ keysR r ↔ (lookR r n).isSome = true
  | [] => by simp [keysR, lookR]
  | (m, x) :: r => by
    rw [lookR_cons]
    by_cases e : m = n
    · simp [keysR, e]
    · simp [keysR, e, Ne.symm e, keysR_iff (r := r)]

theorem subN_iff {l : List Nat} : ∀ {r : List Nat}, subN l r = true → ∀ n ∈ r, n ∈ l
  | [], _ => by simp
  | m :: r, h => by
    simp only [subN] at h
    split at h
    · rename_i e
      intro n hn
      simp only [List.mem_cons] at hn
      rcases hn with rfl | hn
      · exact memN_iff.1 e
      · exact subN_iff h n hn
    · cases h

theorem distinctR_inv {r : Ren} : ∀ {l : List (Nat × Blk)} {seen : List Nat}, distinctR r l seen = true →
    (∀ n b, (n, b) ∈ l → (lookR r n).isSome = true) ∧ (∀ n b m, (n, b) ∈ l → lookR r n = some (.inl m) → m ∉ seen) ∧
    (∀ n b n' b' m, lookO l n = some b → lookO l n' = some b' → lookR r n = some (.inl m) → lookR r n' = some (.inl m) → n = n')
  | [], _, _ => ⟨by simp, by simp, by simp [lookO]⟩
  | (n0, b0) :: l, seen, h => by
    simp only [distinctR] at h
    split at h
    · rename_i m0 hm0
      split at h
      · cases h
      · rename_i hs
        obtain ⟨h1, h2, h3⟩ := distinctR_inv h
        have hs' : m0 ∉ seen := fun hx => by rw [memN_iff.2 hx] at hs; cases hs
        refine ⟨?_, ?_, ?_⟩
        · intro n b hn
          simp only [List.mem_cons, Prod.mk.injEq] at hn
          rcases hn with ⟨rfl, rfl⟩ | hn
          · rw [hm0]; rfl
          · exact h1 n b hn
        · intro n b m hn hm
          simp only [List.mem_cons, Prod.mk.injEq] at hn
          rcases hn with ⟨rfl, rfl⟩ | hn
          · rw [hm0] at hm; cases hm; exact hs'
          · exact fun hx => h2 n b m hn hm (List.mem_cons_of_mem _ hx)
        · intro n b n' b' m hn hn' hm hm'
          rw [lookO_cons] at hn hn'
          split at hn
          · rename_i e
            split at hn'
            · rename_i e'; rw [← e, ← e']
            · subst e
              rw [hm0] at hm; cases hm
              exact absurd (List.mem_cons_self) (h2 n' b' _ (lookO_mem hn') hm')
          · split at hn'
            · rename_i e'
              subst e'
              rw [hm0] at hm'; cases hm'
              exact absurd (List.mem_cons_self) (h2 n b _ (lookO_mem hn) hm)
            · exact h3 n b n' b' m hn hn' hm hm'
    · rename_i s0 hm0
      obtain ⟨h1, h2, h3⟩ := distinctR_inv h
      refine ⟨?_, ?_, ?_⟩
      · intro n b hn
        simp only [List.mem_cons, Prod.mk.injEq] at hn
        rcases hn with ⟨rfl, rfl⟩ | hn
        · rw [hm0]; rfl
        · exact h1 n b hn
      · intro n b m hn hm
        simp only [List.mem_cons, Prod.mk.injEq] at hn
        rcases hn with ⟨rfl, rfl⟩ | hn
        · rw [hm0] at hm; cases hm
        · exact h2 n b m hn hm
      · intro n b n' b' m hn hn' hm hm'
        rw [lookO_cons] at hn hn'
        split at hn
        · rename_i e; subst e; rw [hm0] at hm; cases hm
        · split at hn'
          · rename_i e'; subst e'; rw [hm0] at hm'; cases hm'
          · exact h3 n b n' b' m hn hn' hm hm'
    · cases h

theorem stayR_inv {r : Ren} {o : List (Nat × Blk)} : ∀ {l : List Nat}, stayR r o l = true → ∀ n ∈ l, lookR r n = some (.inl n) ∧ (lookO o n).isSome = true
  | [], _ => by simp
  | m :: l, h => by
    simp only [stayR] at h
    split at h
    · rename_i x b hx ho
      split at h
      · rename_i e
        have e := (beq_iff _ _).1 e
        subst e
        intro n hn
        simp only [List.mem_cons] at hn
        rcases hn with rfl | hn
        · exact ⟨hx, by rw [ho]; rfl⟩
        · exact stayR_inv h n hn
      · cases h
    · cases h

theorem entK_sound {σ σ' : St} (h : entK σ σ') (hc : Conc G nt C I ρ (toF σ) a w) : ∃ ρ', Conc G nt C I ρ' (toF σ') a w := by
  obtain ⟨s, o, nm, n0⟩ := σ
  obtain ⟨s', o', nm', n0'⟩ := σ'
  simp only [entK] at h
  obtain ⟨r1, h, e1, hs⟩ := entSlots_inv h
  obtain ⟨r2, h, e2, hb⟩ := entBoxes_inv h
  obtain ⟨r, h, e3, hr⟩ := entRows_inv h
  split at h
  · rename_i hd hst hsub hsub0
    obtain ⟨d1, _, d3⟩ := distinctR_inv hd
    have hst := stayR_inv hst
    have hsub := subN_iff hsub
    have hsub0 := subN_iff hsub0
    have hnm : ∀ n, (lookR r n).isSome = true → memN n nm' = true := fun n hn => memN_iff.2 (hsub n (keysR_iff.2 hn))
    have hB : ∀ n b, lookO o' n = some b → EntB o r n b := by
      intro n b hn
      have hm := lookO_mem hn
      cases hx : isBoxB b with
      | true => exact (hb n b hm hx).ext e3
      | false => exact hr n b hm hx
    -- the source of an own block of the target
    have src : ∀ n b, lookO o' n = some b → live (rhoR ρ r n) b → ∃ m b0, lookR r n = some (.inl m) ∧ lookO o m = some b0 ∧ live (ρ m) b0 ∧ rhoR ρ r n = ρ m ∧ (rowLike b → rowLike b0) := by
      intro n b hn hl
      have hE := hB n b hn
      cases b with
      | box ds => obtain ⟨m, cs, h1, h2, h3⟩ := hE; exact ⟨m, _, h1, h2, trivial, rhoR_of h1 (.refl r), fun h => h⟩
      | row E' sz' len' g' =>
        rcases hE with ⟨m, g, h1, h2, h3⟩ | ⟨h1, h2⟩
        · have e := rhoR_of (ρ := ρ) h1 (.refl r)
          refine ⟨m, _, h1, h2, ?_, e, fun h => h⟩
          simp only [live] at hl ⊢
          rw [e] at hl
          exact hl
        · exfalso
          simp only [live] at hl
          rw [rhoR_of h1 (.refl r)] at hl
          simp [locOf] at hl
      | iter s p => obtain ⟨m, h1, h2⟩ := hE; exact ⟨m, _, h1, h2, trivial, rhoR_of h1 (.refl r), fun h => h⟩
      | smap kd g => obtain ⟨m, h1, h2⟩ := hE; exact ⟨m, _, h1, h2, trivial, rhoR_of h1 (.refl r), fun h => h⟩
      | arr _ _ => exact hE.elim
    refine ⟨rhoR ρ r, ?_⟩
    exact {
      defers := hc.defers, size := hc.size
      slots := by
        intro k sv hk
        obtain ⟨u, hu, hE⟩ := hs k sv hk
        obtain ⟨v, hv, hrep⟩ := hc.slots k u hu
        exact ⟨v, hv, hE.2 r (e2.trans e3) I ρ w v hrep⟩
      snames := by
        intro k sv n hk hn
        obtain ⟨u, hu, hE⟩ := hs k sv hk
        exact hnm n ((e2.trans e3).bound (hE.1 n hn))
      own := by
        intro n b hn
        have hE := hB n b hn
        cases b with
        | box ds =>
          obtain ⟨m, cs, h1, h2, h3⟩ := hE
          obtain ⟨us, Et, h4, h5⟩ := hc.own m _ h2
          rw [rhoR_of h1 (.refl r)]
          exact ⟨us, Et, h4, h3.2 r (.refl r) I ρ w us h5.1, h5.2⟩
        | row E' sz' len' g' =>
          rcases hE with ⟨m, g, h1, h2, h3⟩ | ⟨h1, h2⟩
          · obtain ⟨h4, h5, h6, h7⟩ := hc.own m _ h2
            rw [rhoR_of h1 (.refl r)]
            refine ⟨h4, h5, h6, fun hcap => ?_⟩
            obtain ⟨arr, h8, h9, h10⟩ := h7 hcap
            refine ⟨arr, h8, h9, fun i j hi hj => ?_⟩
            obtain ⟨u, hu, hrep⟩ := h10 i j hi hj
            exact ⟨u, hu, (h3.le i j hi hj).le _ _ _ hrep⟩
          · rw [rhoR_of h1 (.refl r)]
            subst h2
            exact ⟨rfl, rfl, Nat.le_refl _, fun h => absurd h (by simp [locOf])⟩
        | iter s p =>
          obtain ⟨m, h1, h2⟩ := hE
          rw [rhoR_of h1 (.refl r)]
          exact hc.own m _ h2
        | smap kd g =>
          obtain ⟨m, h1, h2⟩ := hE
          rw [rhoR_of h1 (.refl r)]
          exact hc.own m _ h2
        | arr _ _ => exact hE.elim
      onames := by
        intro n b m hn hm
        have hE := hB n b hn
        cases b with
        | box ds => obtain ⟨k, cs, h1, h2, h3⟩ := hE; exact hnm m (h3.1 m hm)
        | row _ _ _ _ => exact hm.elim
        | iter _ _ => exact hm.elim
        | smap _ _ => exact hm.elim
        | arr _ _ => exact hE.elim
      okeys := fun n b hn => hnm n (d1 n b (lookO_mem hn))
      sep := by
        intro n b hn hl
        obtain ⟨m, b0, h1, h2, h3, h4, _⟩ := src n b hn hl
        rw [h4]
        exact hc.sep m b0 h2 h3
      fresh := by
        intro n b hn hrow hcap
        obtain ⟨m, b0, h1, h2, h3, h4, h5⟩ := src n b hn (by cases b <;> first | exact hcap | exact hrow.elim)
        rw [h4] at hcap ⊢
        rcases hc.fresh m b0 h2 (h5 hrow) hcap with h6 | h6
        · exact .inl h6
        · have hm0 : m ∈ n0 := memN_iff.1 (hc.old m h6).1
          obtain ⟨h8, h9⟩ := hst m hm0
          obtain ⟨c, hcm⟩ := Option.isSome_iff_exists.1 h9
          have := d3 n b m c m hn hcm h1 h8
          subst this
          exact .inr h6
      inj := by
        intro n m b c hn hm hl hl' e
        obtain ⟨n1, b0, h1, h2, h3, h4, _⟩ := src n b hn hl
        obtain ⟨m1, c0, g1, g2, g3, g4, _⟩ := src m c hm hl'
        rw [h4, g4] at e
        have := hc.inj n1 m1 b0 c0 h2 g2 h3 g3 e
        subst this
        exact d3 n b m c n1 hn hm h1 g1
      ilt := hc.ilt, i0 := hc.i0, i1 := hc.i1
      old := by
        intro n hn
        obtain ⟨h1, h2, h3⟩ := hc.old n hn
        have hmem : n ∈ n0 := memN_iff.1 h1
        obtain ⟨h4, h5⟩ := hst n hmem
        refine ⟨memN_iff.2 (hsub0 n hmem), hnm n (by rw [h4]; rfl), ?_⟩
        rw [rhoR_of h4 (.refl r)]
        exact h3
      glob := hc.glob, keep := hc.keep }
  · exact h.out.elim

/-! ### loops -/
inductive EntVC (σ σ' : St) : Prop where
  | mk (h : entK σ σ')


end Go.Sx
