/- Part of a symbolic executor over the model, proved sound, with plain laws: SxRun. Written for these claims. -/
import Derived.Test.YtigmgeglnbjfeaaDoorSxCall
namespace Go.Sx
open Go
set_option linter.unusedVariables false
set_option linter.unusedSimpArgs false

variable {P : Program} {G : Nat → Option (Nat × (Nat → D))} {nt : Nat} {C : Ctx} {I : Nat → Prop} {ρ : Nat → Loc} {F : Fs} {a : Act} {w : World} {E : List Nat} {T : Nat}

def getPre : List Nat → List (Nat × Blk) → (List (Nat × Blk) → Prop) → Prop
  | [], _, k => k []
  | n :: ns, o, k => match lookO o n with
    | some (.box cs) => getPre ns o fun r => k ((n, .box cs) :: r)
    | some (.row E sz len g) => getPre ns o fun r => k ((n, .row E sz len g) :: r)
    | _ => Stuck "receiver"

/-- A call waits for its contract. -/
inductive CallVC (P : Program) (G : Nat → Option (Nat × (Nat → D))) (f : FuncId) (args : List SV) (pre : List (Nat × Blk)) (bor : List Nat) (K : SV → List (Nat × Blk) → Prop) : Prop where
  | mk (res : SV) (post : List (Nat × Blk)) (h : Spec P G f args pre res post) (hb : bor = [] ∨ (flatS res = true ∧ post = [])) (k : K res post)

def M.run (P : Program) (G : Nat → Option (Nat × (Nat → D))) : M Upd → St → (St → Prop) → Prop
  | .ret u, σ, K => applyK u σ K
  | .slot k f, ⟨s, o, nm, n0⟩, K => match look s k with
    | some v => (f v).run P G ⟨s, o, nm, n0⟩ K
    | none => Stuck "slot"
  | .own n f, ⟨s, o, nm, n0⟩, K => match lookO o n with
    | some v => (f v).run P G ⟨s, o, nm, n0⟩ K
    | none => Stuck "own"
  | .need p m, σ, K => Need p (m.run P G σ K)
  | .split b x y, σ, K => bc b (x.run P G σ K) (y.run P G σ K)
  | .call dst f args names bor pub, ⟨s, o, nm, n0⟩, K => pubs n0 pub s o fun s o => getPre names o fun pre => CallVC P G f args pre bor fun res post =>
      applyK ⟨dst, res, post, [], newP pre post, []⟩ ⟨s, o, nm, n0⟩ K
  | .fail why, _, _ => Stuck why

def toF : St → Fs
  | ⟨s, o, nm, n0⟩ => ⟨look s, lookO o, fun n => memN n nm = true, fun n => memN n n0 = true⟩

theorem beq_iff (i k : Nat) : Nat.beq i k = true ↔ i = k := ⟨Nat.eq_of_beq_eq_true, fun h => by subst h; exact Nat.beq_refl i⟩

theorem look_cons (i : Nat) (v : SV) (l : List (Nat × SV)) (k : Nat) : look ((i, v) :: l) k = if i = k then some v else look l k := by
  simp only [look]
  split
  · rename_i h; rw [if_pos ((beq_iff _ _).1 h)]
  · rename_i h; rw [if_neg (fun e => by rw [(beq_iff _ _).2 e] at h; cases h)]
theorem lookO_cons (i : Nat) (v : Blk) (l : List (Nat × Blk)) (k : Nat) : lookO ((i, v) :: l) k = if i = k then some v else lookO l k := by
  simp only [lookO]
  split
  · rename_i h; rw [if_pos ((beq_iff _ _).1 h)]
  · rename_i h; rw [if_neg (fun e => by rw [(beq_iff _ _).2 e] at h; cases h)]

theorem delS_inv {K : List (Nat × SV) → Prop} {n : Nat} : ∀ {l : List (Nat × SV)} {k : List (Nat × SV) → Prop}, delS l n k → ∃ r, k r ∧ look r = fun m => if m = n then none else look l m
  | [], k, h => ⟨[], h, by funext m; simp [look]⟩
  | (i, v) :: l, k, h => by
    simp only [delS] at h
    split at h
    · rename_i e
      have e := (beq_iff _ _).1 e
      subst e
      obtain ⟨r, h1, h2⟩ := delS_inv (K := K) h
      refine ⟨r, h1, ?_⟩
      rw [h2]
      funext m
      rw [look_cons]
      by_cases hm : m = i
      · simp [hm]
      · simp [hm, Ne.symm hm]
    · rename_i e
      have e : i ≠ n := fun e' => by rw [(beq_iff _ _).2 e'] at e; cases e
      obtain ⟨r, h1, h2⟩ := delS_inv (K := K) h
      refine ⟨_, h1, ?_⟩
      funext m
      rw [look_cons, look_cons, h2]
      by_cases hm : i = m
      · subst hm; simp [e]
      · simp [hm]
theorem delO_inv {n : Nat} : ∀ {l : List (Nat × Blk)} {k : List (Nat × Blk) → Prop}, delO l n k → ∃ r, k r ∧ lookO r = fun m => if m = n then none else lookO l m
  | [], k, h => ⟨[], h, by funext m; simp [lookO]⟩
  | (i, v) :: l, k, h => by
    simp only [delO] at h
    split at h
    · rename_i e
      have e := (beq_iff _ _).1 e
      subst e
      obtain ⟨r, h1, h2⟩ := delO_inv h
      refine ⟨r, h1, ?_⟩
      rw [h2]
      funext m
      rw [lookO_cons]
      by_cases hm : m = i
      · simp [hm]
      · simp [hm, Ne.symm hm]
    · rename_i e
      have e : i ≠ n := fun e' => by rw [(beq_iff _ _).2 e'] at e; cases e
      obtain ⟨r, h1, h2⟩ := delO_inv h
      refine ⟨_, h1, ?_⟩
      funext m
      rw [lookO_cons, lookO_cons, h2]
      by_cases hm : i = m
      · subst hm; simp [e]
      · simp [hm]

theorem delsO_inv : ∀ {ns : List Nat} {l : List (Nat × Blk)} {k : List (Nat × Blk) → Prop} {s : List (Nat × SV)} {nm n0 : List Nat}, delsO l ns k → ∃ r, k r ∧ toF ⟨s, r, nm, n0⟩ = delsF (toF ⟨s, l, nm, n0⟩) ns
  | [], l, k, _, _, _, h => ⟨l, h, rfl⟩
  | n :: ns, l, k, s, nm, n0, h => by
    obtain ⟨r1, h1, e1⟩ := delO_inv h
    obtain ⟨r2, h2, e2⟩ := delsO_inv (s := s) (nm := nm) (n0 := n0) h1
    refine ⟨r2, h2, ?_⟩
    rw [e2]
    simp only [delsF]
    congr 1
    simp only [toF, delF, e1]
theorem setsO_inv : ∀ {bs : List (Nat × Blk)} {l : List (Nat × Blk)} {k : List (Nat × Blk) → Prop} {s : List (Nat × SV)} {nm n0 : List Nat}, setsO l bs k → ∃ r, k r ∧ toF ⟨s, r, nm, n0⟩ = setsF (toF ⟨s, l, nm, n0⟩) bs
  | [], l, k, _, _, _, h => ⟨l, h, rfl⟩
  | (n, b) :: bs, l, k, s, nm, n0, h => by
    obtain ⟨r1, h1, e1⟩ := delO_inv h
    obtain ⟨r2, h2, e2⟩ := setsO_inv (s := s) (nm := nm) (n0 := n0) h1
    refine ⟨r2, h2, ?_⟩
    rw [e2]
    simp only [setsF]
    congr 1
    simp only [toF, setO]
    congr 1
    funext m
    rw [lookO_cons, e1]
    by_cases hm : n = m
    · subst hm; simp
    · simp [hm, Ne.symm hm]
theorem freshK_inv : ∀ {ns : List Nat} {nm : List Nat} {k : List Nat → Prop} {s : List (Nat × SV)} {o : List (Nat × Blk)} {n0 : List Nat}, freshK ns nm k →
    ∃ r, k r ∧ toF ⟨s, o, r, n0⟩ = nmF (toF ⟨s, o, nm, n0⟩) ns ∧ ∀ n ∈ ns, ¬ memN n nm = true
  | [], nm, k, _, _, _, h => ⟨nm, h, rfl, by simp⟩
  | n :: ns, nm, k, s, o, n0, h => by
    simp only [freshK] at h
    split at h
    · exact h.out.elim
    · rename_i hn
      obtain ⟨r, h1, h2, h3⟩ := freshK_inv (s := s) (o := o) (n0 := n0) h
      have hm : ∀ m, memN m (n :: nm) = true ↔ (m = n ∨ memN m nm = true) := by
        intro m
        simp only [memN]
        split
        · rename_i e; simp [(beq_iff _ _).1 e]
        · rename_i e
          have : m ≠ n := fun e' => by rw [(beq_iff _ _).2 e'] at e; cases e
          simp [this]
      refine ⟨r, h1, ?_, ?_⟩
      · rw [h2]
        simp only [nmF]
        congr 1
        simp only [toF]
        congr 1
        funext m
        exact propext (hm m)
      · intro m hm'
        simp only [List.mem_cons] at hm'
        rcases hm' with rfl | hm'
        · rw [hn]; simp
        · intro h4; exact h3 m hm' ((hm m).2 (.inr h4))

theorem pubCells_inv {n sz : Nat} {get : Nat → Nat → D} : ∀ {cs : List SV} {k : List SV → Prop}, pubCells n sz get cs k → k (pubC n sz get cs)
  | [], _, h => h
  | c :: cs, k, h => by
    cases c with
    | osl m s off len =>
      simp only [pubCells] at h
      split at h
      · rename_i e
        have := pubCells_inv (cs := cs) h
        simp only [pubC, e]
        exact this
      · rename_i e
        have := pubCells_inv (cs := cs) h
        simp only [pubC, e]
        exact this
    | _ => exact pubCells_inv (cs := cs) h
theorem pubSV_inv {n sz : Nat} {get : Nat → Nat → D} {v : SV} {k : SV → Prop} (h : pubSV n sz get v k) : k (pubV n sz get v) := by
  cases v with
  | osl m s off len =>
    simp only [pubSV] at h
    split at h
    · rename_i e; simp only [pubV, e]; exact h
    · rename_i e; simp only [pubV, e]; exact h
  | agg cs => exact pubCells_inv (k := fun r => k (.agg r)) h
  | tup cs => exact pubCells_inv (k := fun r => k (.tup r)) h
  | _ => exact h
theorem pubS_inv {n sz : Nat} {get : Nat → Nat → D} : ∀ {l : List (Nat × SV)} {k : List (Nat × SV) → Prop}, pubS n sz get l k → ∃ r, k r ∧ look r = fun m => (look l m).map (pubV n sz get)
  | [], k, h => ⟨[], h, by funext m; simp [look]⟩
  | (i, v) :: l, k, h => by
    have h1 := pubSV_inv h
    obtain ⟨r, h2, e⟩ := pubS_inv (l := l) h1
    refine ⟨_, h2, ?_⟩
    funext m
    rw [look_cons, look_cons, e]
    by_cases hm : i = m <;> simp [hm]
theorem pubO_inv {n sz : Nat} {get : Nat → Nat → D} : ∀ {l : List (Nat × Blk)} {k : List (Nat × Blk) → Prop}, pubO n sz get l k → ∃ r, k r ∧ lookO r = fun m => if m = n then none else (lookO l m).map (pubB n sz get)
  | [], k, h => ⟨[], h, by funext m; simp [lookO]⟩
  | (i, b) :: l, k, h => by
    have step : ∀ {k' : List (Nat × Blk) → Prop}, (∀ r, k' r → (i = n → k r) ∧ (i ≠ n → k ((i, pubB n sz get b) :: r))) → pubO n sz get l k' → ∃ r, k r ∧ lookO r = fun m => if m = n then none else (lookO ((i, b) :: l) m).map (pubB n sz get) := by
      intro k' hk h
      obtain ⟨r, h1, e⟩ := pubO_inv (l := l) h
      by_cases hin : i = n
      · refine ⟨r, (hk r h1).1 hin, ?_⟩
        rw [e]
        funext m
        rw [lookO_cons]
        by_cases hm : m = n
        · simp [hm]
        · have : i ≠ m := by omega
          simp [hm, this]
      · refine ⟨_, (hk r h1).2 hin, ?_⟩
        funext m
        rw [lookO_cons, lookO_cons, e]
        by_cases hm : i = m
        · subst hm; simp [hin]
        · simp [hm]
    cases b with
    | box cs =>
      simp only [pubO] at h
      split at h
      · rename_i e
        have e := (beq_iff _ _).1 e
        exact step (fun r hr => ⟨fun _ => hr, fun hne => (hne e).elim⟩) h
      · rename_i e
        have e : i ≠ n := fun e' => by rw [(beq_iff _ _).2 e'] at e; cases e
        exact step (fun r hr => ⟨fun h => (e h).elim, fun _ => hr⟩) (pubCells_inv h)
    | arr s cs =>
      simp only [pubO] at h
      split at h
      · rename_i e
        have e := (beq_iff _ _).1 e
        exact step (fun r hr => ⟨fun _ => hr, fun hne => (hne e).elim⟩) h
      · rename_i e
        have e : i ≠ n := fun e' => by rw [(beq_iff _ _).2 e'] at e; cases e
        exact step (fun r hr => ⟨fun h => (e h).elim, fun _ => hr⟩) (pubCells_inv h)
    | _ =>
      simp only [pubO] at h
      split at h
      · rename_i e
        have e := (beq_iff _ _).1 e
        exact step (fun r hr => ⟨fun _ => hr, fun hne => (hne e).elim⟩) h
      · rename_i e
        have e : i ≠ n := fun e' => by rw [(beq_iff _ _).2 e'] at e; cases e
        exact step (fun r hr => ⟨fun h => (e h).elim, fun _ => hr⟩) h
theorem pubs_inv : ∀ {ns : List Nat} {s : List (Nat × SV)} {o : List (Nat × Blk)} {k : List (Nat × SV) → List (Nat × Blk) → Prop} {nm n0 : List Nat}, pubs n0 ns s o k →
    ∃ s' o', k s' o' ∧ Pubs (toF ⟨s, o, nm, n0⟩) ns (toF ⟨s', o', nm, n0⟩)
  | [], s, o, k, _, _, h => ⟨s, o, h, .nil _⟩
  | n :: ns, s, o, k, nm, n0, h => by
    simp only [pubs] at h
    split at h
    · exact h.out.elim
    rename_i hn0
    have hn0 : ¬ (toF ⟨s, o, nm, n0⟩).n0 n := by simp only [toF]; rw [hn0]; simp
    split at h
    · rename_i Et sz len get hl
      obtain ⟨s1, h1, e1⟩ := pubS_inv h
      obtain ⟨o1, h2, e2⟩ := pubO_inv h1
      obtain ⟨s', o', h3, p⟩ := pubs_inv (nm := nm) (n0 := n0) h2
      refine ⟨s', o', h3, .row (show (toF ⟨s, o, nm, n0⟩).o n = _ from hl) hn0 ?_⟩
      have : pubF (toF ⟨s, o, nm, n0⟩) n sz get = toF ⟨s1, o1, nm, n0⟩ := by
        simp only [toF, pubF, e1, e2]
      rw [this]
      exact p
    · exact h.out.elim
    · rename_i hl
      obtain ⟨s', o', h3, p⟩ := pubs_inv (nm := nm) (n0 := n0) h
      exact ⟨s', o', h3, .none (show (toF ⟨s, o, nm, n0⟩).o n = _ from hl) p⟩

theorem memNb {n : Nat} : ∀ {l : List Nat}, memN n l = true ↔ n ∈ l
  | [] => by simp [memN]
  | m :: l => by
    simp only [memN]
    split
    · rename_i e; simp [(beq_iff _ _).1 e]
    · rename_i e
      have : n ≠ m := fun e' => by rw [(beq_iff _ _).2 e'] at e; cases e
      simp [this, memNb (l := l)]
theorem disjN_inv : ∀ {l m : List Nat}, disjN l m = true → ∀ n ∈ l, n ∉ m
  | [], _, _ => by simp
  | n :: l, m, h => by
    simp only [disjN] at h
    split at h
    · cases h
    · rename_i hm
      intro k hk
      rcases List.mem_cons.1 hk with rfl | hk
      · intro h'; rw [memNb.2 h'] at hm; cases hm
      · exact disjN_inv h k hk
/-- the update of the lists is the update of the state -/
theorem applyK_inv {u : Upd} {σ : St} {K : St → Prop} (h : applyK u σ K) : ∃ σ' F1, K σ' ∧ Pubs (toF σ) u.pub F1 ∧ toF σ' = finF F1 u ∧ Fresh (toF σ) u := by
  obtain ⟨dst, v, own, del, new, pub⟩ := u
  obtain ⟨s, o, nm, n0⟩ := σ
  simp only [applyK] at h
  obtain ⟨s1, o1, h, p⟩ := pubs_inv (nm := nm) (n0 := n0) h
  unfold stayK at h
  split at h
  rotate_left
  · exact h.out.elim
  rename_i hdel
  have hdel : ∀ n ∈ del, ¬ memN n n0 = true := fun n hn h' => disjN_inv hdel n hn (memNb.1 h')
  obtain ⟨o2, h, e2⟩ := delsO_inv (s := s1) (nm := nm) (n0 := n0) h
  obtain ⟨o3, h, e3⟩ := setsO_inv (s := s1) (nm := nm) (n0 := n0) h
  obtain ⟨nm4, h, e4, hf⟩ := freshK_inv (s := s1) (o := o3) (n0 := n0) h
  have e : toF ⟨s1, o3, nm4, n0⟩ = nmF (setsF (delsF (toF ⟨s1, o1, nm, n0⟩) del) own) new := by rw [e4, e3, e2]
  cases dst with
  | none => exact ⟨_, _, h, p, by simp only [finF, putS]; exact e, hf, hdel⟩
  | some d =>
    obtain ⟨s5, h, e5⟩ := delS_inv (K := fun _ => True) h
    refine ⟨_, _, h, p, ?_, hf, hdel⟩
    simp only [finF, putS, ← e]
    simp only [toF]
    congr 1
    funext k
    rw [look_cons, e5]
    by_cases hk : d = k
    · subst hk; simp
    · simp [hk, Ne.symm hk]

theorem getPre_inv : ∀ {ns : List Nat} {o : List (Nat × Blk)} {k : List (Nat × Blk) → Prop}, getPre ns o k → ∃ pre, k pre ∧ pre.map (·.1) = ns ∧ ∀ n b, (n, b) ∈ pre → lookO o n = some b ∧ goLike b
  | [], o, k, h => ⟨[], h, rfl, by simp⟩
  | n :: ns, o, k, h => by
    simp only [getPre] at h
    split at h
    · rename_i cs hl
      obtain ⟨pre, h1, h2, h3⟩ := getPre_inv h
      refine ⟨_, h1, by simp [h2], ?_⟩
      intro m b hm
      simp only [List.mem_cons, Prod.mk.injEq] at hm
      rcases hm with ⟨rfl, rfl⟩ | hm
      · exact ⟨hl, trivial⟩
      · exact h3 m b hm
    · rename_i hl
      obtain ⟨pre, h1, h2, h3⟩ := getPre_inv h
      refine ⟨_, h1, by simp [h2], ?_⟩
      intro m b hm
      simp only [List.mem_cons, Prod.mk.injEq] at hm
      rcases hm with ⟨rfl, rfl⟩ | hm
      · exact ⟨hl, trivial⟩
      · exact h3 m b hm
    · exact h.out.elim

theorem run_to {K : St → Prop} : ∀ {m : M Upd} {σ : St}, m.run P G σ K → ∃ u σ' F1, To P G (toF σ) m u ∧ K σ' ∧ Pubs (toF σ) u.pub F1 ∧ toF σ' = finF F1 u ∧ Fresh (toF σ) u := by
  intro m
  induction m with
  | ret u =>
    intro σ h
    obtain ⟨σ', F1, h1, h2, h3, h4⟩ := applyK_inv h
    exact ⟨u, σ', F1, .ret u, h1, h2, h3, h4⟩
  | slot k f ih =>
    intro ⟨s, o, nm, n0⟩ h
    simp only [M.run] at h
    split at h
    · rename_i v hv
      obtain ⟨u, σ', F1, t, r⟩ := ih v h
      exact ⟨u, σ', F1, .slot hv t, r⟩
    · exact h.out.elim
  | own k f ih =>
    intro ⟨s, o, nm, n0⟩ h
    simp only [M.run] at h
    split at h
    · rename_i v hv
      obtain ⟨u, σ', F1, t, r⟩ := ih v h
      exact ⟨u, σ', F1, .own hv t, r⟩
    · exact h.out.elim
  | need p m ih =>
    intro σ h
    simp only [M.run] at h
    obtain ⟨u, σ', F1, t, r⟩ := ih h.k
    exact ⟨u, σ', F1, .need h.h t, r⟩
  | split b x y ih1 ih2 =>
    intro σ h
    simp only [M.run, bc] at h
    split at h
    · obtain ⟨u, σ', F1, t, r⟩ := ih1 h
      exact ⟨u, σ', F1, .split1 rfl t, r⟩
    · obtain ⟨u, σ', F1, t, r⟩ := ih2 h
      exact ⟨u, σ', F1, .split2 rfl t, r⟩
  | call dst f args names bor pub =>
    intro ⟨s, o, nm, n0⟩ h
    simp only [M.run] at h
    obtain ⟨s1, o1, h, p⟩ := pubs_inv (nm := nm) (n0 := n0) h
    obtain ⟨pre, h, h1, h2⟩ := getPre_inv h
    obtain ⟨res, post, hs, hb, h⟩ := h
    obtain ⟨σ', F1, h3, h4, h5, h6⟩ := applyK_inv h
    cases h4
    refine ⟨_, σ', _, .call p ⟨h1, fun n b hn => h2 n b hn⟩ hs hb, h3, p, ?_, ⟨h6.new, by simp⟩⟩
    rw [h5]
    rfl
  | fail why => intro σ h; exact h.out.elim

end Go.Sx
