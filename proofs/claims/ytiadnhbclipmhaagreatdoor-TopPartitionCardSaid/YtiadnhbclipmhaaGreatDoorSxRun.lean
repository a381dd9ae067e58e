/- Part of a symbolic executor over the model, proved sound, with plain laws: SxRun. Written for these claims. -/
import Derived.Test.YtiadnhbclipmhaaGreatDoorSxCall
import Derived.Orders
import Derived.Scope
set_option linter.unusedVariables false
set_option linter.unusedSimpArgs false
namespace Go.Sx
open Go
variable {P : Program} {G : Nat → Option (Nat × (Nat → D))} {nt : Nat} {C : Ctx} {I : Nat → Prop} {ρ : Nat → Loc} {F : Fs} {a : Act} {w : World} {E : List Nat} {T : Nat}
def getPre : List Nat → List (Nat × Blk) → (List (Nat × Blk) → Prop) → Prop
  | [], _, k => k []
  | n :: ns, o, k => match lookO o n with
    | some (.box cs) => getPre ns o fun r => k ((n, .box cs) :: r)
    | some (.row E sz len g) => getPre ns o fun r => k ((n, .row E sz len g) :: r)
    | some (.gmap fn ka kk va sz has g) => getPre ns o fun r => k ((n, .gmap fn ka kk va sz has g) :: r)
    | _ => Stuck "receiver"
inductive CallVC (P : Program) (G : Nat → Option (Nat × (Nat → D))) (f : FuncId) (args : List SV) (pre : List (Nat × Blk)) (bor : List Nat) (K : SV → List (Nat × Blk) → Prop) : Prop where
  | mk (res : SV) (post : List (Nat × Blk)) (h : Spec P G f args pre res post) (hb : bor = [] ∨ (flatR res = true ∧ FlatPost post)) (k : K res post)
def M.run (P : Program) (G : Nat → Option (Nat × (Nat → D))) : M Upd → St → (St → Prop) → Prop
  | .ret u, σ, K => applyK u σ K
  | .slot k f, ⟨s, o, nm, n0⟩, K => match look s k with
    | some v => (f v).run P G ⟨s, o, nm, n0⟩ K
    | none => Stuck "slot"
  | .own n f, ⟨s, o, nm, n0⟩, K => match lookO o n with
    | some v => (f v).run P G ⟨s, o, nm, n0⟩ K
    | none => Stuck "own"
  | .need p m, σ, K => Need p (m.run P G σ K)
  | .split b x y, σ, K => bc b (x.run P G σ K) (y.run P G σ K)
  | .call dst f args names bor pub, ⟨s, o, nm, n0⟩, K => pubs n0 pub s o fun s o => getPre names o fun pre => CallVC P G f args pre bor fun res post =>
      applyK ⟨dst, res, post, [], newP pre post, []⟩ ⟨s, o, nm, n0⟩ K
  | .fail why, _, _ => Stuck why
def toF : St → Fs
  | ⟨s, o, nm, n0⟩ => ⟨look s, lookO o, fun n => memN n nm = true, fun n => memN n n0 = true⟩
theorem beq_iff (i k : Nat) : Nat.beq i k = true ↔ i = k := ⟨Nat.eq_of_beq_eq_true, fun h => by subst h; exact Nat.beq_refl i⟩
theorem look_cons (i : Nat) (v : SV) (l : List (Nat × SV)) (k : Nat) : look ((i, v) :: l) k = if i = k then some v else look l k := by
  simp only [look]
  split
  · rename_i h; rw [if_pos ((beq_iff _ _).1 h)]
  · rename_i h; rw [if_neg (fun e => by rw [(beq_iff _ _).2 e] at h; cases h)]
theorem lookO_cons (i : Nat) (v : Blk) (l : List (Nat × Blk)) (k : Nat) : lookO ((i, v) :: l) k = if i = k then some v else lookO l k := by
  simp only [lookO]
  split
  · rename_i h; rw [if_pos ((beq_iff _ _).1 h)]
  · rename_i h; rw [if_neg (fun e => by rw [(beq_iff _ _).2 e] at h; cases h)]
theorem delS_inv {K : List (Nat × SV) → Prop} {n : Nat} : ∀ {l : List (Nat × SV)} {k : List (Nat × SV) → Prop}, delS l n k → ∃ r, k r ∧ look r = fun m => if m = n then none else look l m
  | [], k, h => ⟨[], h, by funext m; simp [look]⟩
  | (i, v) :: l, k, h => by
    simp only [delS] at h
    split at h
    · rename_i e
      have e := (beq_iff _ _).1 e
      subst e
      obtain ⟨r, h1, h2⟩ := delS_inv (K := K) h
      refine ⟨r, h1, ?_⟩
      rw [h2]
      funext m
      rw [look_cons]
      by_cases hm : m = i
      · simp [hm]
      · simp [hm, Ne.symm hm]
    · rename_i e
      have e : i ≠ n := fun e' => by rw [(beq_iff _ _).2 e'] at e; cases e
      obtain ⟨r, h1, h2⟩ := delS_inv (K := K) h
      refine ⟨_, h1, ?_⟩
      funext m
      rw [look_cons, look_cons, h2]
      by_cases hm : i = m
      · subst hm; simp [e]
      · simp [hm]
theorem delO_inv {n : Nat} : ∀ {l : List (Nat × Blk)} {k : List (Nat × Blk) → Prop}, delO l n k → ∃ r, k r ∧ lookO r = fun m => if m = n then none else lookO l m
  | [], k, h => ⟨[], h, by funext m; simp [lookO]⟩
  | (i, v) :: l, k, h => by
    simp only [delO] at h
    split at h
    · rename_i e
      have e := (beq_iff _ _).1 e
      subst e
      obtain ⟨r, h1, h2⟩ := delO_inv h
      refine ⟨r, h1, ?_⟩
      rw [h2]
      funext m
      rw [lookO_cons]
      by_cases hm : m = i
      · simp [hm]
      · simp [hm, Ne.symm hm]
    · rename_i e
      have e : i ≠ n := fun e' => by rw [(beq_iff _ _).2 e'] at e; cases e
      obtain ⟨r, h1, h2⟩ := delO_inv h
      refine ⟨_, h1, ?_⟩
      funext m
      rw [lookO_cons, lookO_cons, h2]
      by_cases hm : i = m
      · subst hm; simp [e]
      · simp [hm]
theorem delsO_inv : ∀ {ns : List Nat} {l : List (Nat × Blk)} {k : List (Nat × Blk) → Prop} {s : List (Nat × SV)} {nm n0 : List Nat}, delsO l ns k → ∃ r, k r ∧ toF ⟨s, r, nm, n0⟩ = delsF (toF ⟨s, l, nm, n0⟩) ns
  | [], l, k, _, _, _, h => ⟨l, h, rfl⟩
  | n :: ns, l, k, s, nm, n0, h => by
    obtain ⟨r1, h1, e1⟩ := delO_inv h
    obtain ⟨r2, h2, e2⟩ := delsO_inv (s := s) (nm := nm) (n0 := n0) h1
    refine ⟨r2, h2, ?_⟩
    rw [e2]
    simp only [delsF]
    congr 1
    simp only [toF, delF, e1]
theorem setsO_inv : ∀ {bs : List (Nat × Blk)} {l : List (Nat × Blk)} {k : List (Nat × Blk) → Prop} {s : List (Nat × SV)} {nm n0 : List Nat}, setsO l bs k → ∃ r, k r ∧ toF ⟨s, r, nm, n0⟩ = setsF (toF ⟨s, l, nm, n0⟩) bs
  | [], l, k, _, _, _, h => ⟨l, h, rfl⟩
  | (n, b) :: bs, l, k, s, nm, n0, h => by
    obtain ⟨r1, h1, e1⟩ := delO_inv h
    obtain ⟨r2, h2, e2⟩ := setsO_inv (s := s) (nm := nm) (n0 := n0) h1
    refine ⟨r2, h2, ?_⟩
    rw [e2]
    simp only [setsF]
    congr 1
    simp only [toF, setO]
    congr 1
    funext m
    rw [lookO_cons, e1]
    by_cases hm : n = m
    · subst hm; simp
    · simp [hm, Ne.symm hm]
theorem freshK_inv : ∀ {ns : List Nat} {nm : List Nat} {k : List Nat → Prop} {s : List (Nat × SV)} {o : List (Nat × Blk)} {n0 : List Nat}, freshK ns nm k →
    ∃ r, k r ∧ toF ⟨s, o, r, n0⟩ = nmF (toF ⟨s, o, nm, n0⟩) ns ∧ ∀ n ∈ ns, ¬ memN n nm = true
  | [], nm, k, _, _, _, h => ⟨nm, h, rfl, by simp⟩
  | n :: ns, nm, k, s, o, n0, h => by
    simp only [freshK] at h
    split at h
    · exact h.out.elim
    · rename_i hn
      obtain ⟨r, h1, h2, h3⟩ := freshK_inv (s := s) (o := o) (n0 := n0) h
      have hm : ∀ m, memN m (n :: nm) = true ↔ (m = n ∨ memN m nm = true) := by
        intro m
        simp only [memN]
        split
        · rename_i e; simp [(beq_iff _ _).1 e]
        · rename_i e
          have : m ≠ n := fun e' => by rw [(beq_iff _ _).2 e'] at e; cases e
          simp [this]
      refine ⟨r, h1, ?_, ?_⟩
      · rw [h2]
        simp only [nmF]
        congr 1
        simp only [toF]
        congr 1
        funext m
        exact propext (hm m)
      · intro m hm'
        simp only [List.mem_cons] at hm'
        rcases hm' with rfl | hm'
        · rw [hn]; simp
        · intro h4; exact h3 m hm' ((hm m).2 (.inr h4))
theorem pubCells_inv {n sz : Nat} {get : Nat → Nat → D} : ∀ {cs : List SV} {k : List SV → Prop}, pubCells n sz get cs k → k (pubC n sz get cs)
  | [], _, h => h
  | c :: cs, k, h => by
    cases c with
    | osl m s off len =>
      simp only [pubCells] at h
      split at h
      · rename_i e
        have := pubCells_inv (cs := cs) h
        simp only [pubC, e]
        exact this
      · rename_i e
        have := pubCells_inv (cs := cs) h
        simp only [pubC, e]
        exact this
    | _ => exact pubCells_inv (cs := cs) h
theorem pubSV_inv {n sz : Nat} {get : Nat → Nat → D} {v : SV} {k : SV → Prop} (h : pubSV n sz get v k) : k (pubV n sz get v) := by
  cases v with
  | osl m s off len =>
    simp only [pubSV] at h
    split at h
    · rename_i e; simp only [pubV, e]; exact h
    · rename_i e; simp only [pubV, e]; exact h
  | agg cs => exact pubCells_inv (k := fun r => k (.agg r)) h
  | tup cs => exact pubCells_inv (k := fun r => k (.tup r)) h
  | _ => exact h
theorem pubS_inv {n sz : Nat} {get : Nat → Nat → D} : ∀ {l : List (Nat × SV)} {k : List (Nat × SV) → Prop}, pubS n sz get l k → ∃ r, k r ∧ look r = fun m => (look l m).map (pubV n sz get)
  | [], k, h => ⟨[], h, by funext m; simp [look]⟩
  | (i, v) :: l, k, h => by
    have h1 := pubSV_inv h
    obtain ⟨r, h2, e⟩ := pubS_inv (l := l) h1
    refine ⟨_, h2, ?_⟩
    funext m
    rw [look_cons, look_cons, e]
    by_cases hm : i = m <;> simp [hm]
theorem pubO_inv {n sz : Nat} {get : Nat → Nat → D} : ∀ {l : List (Nat × Blk)} {k : List (Nat × Blk) → Prop}, pubO n sz get l k → ∃ r, k r ∧ lookO r = fun m => if m = n then none else (lookO l m).map (pubB n sz get)
  | [], k, h => ⟨[], h, by funext m; simp [lookO]⟩
  | (i, b) :: l, k, h => by
    have step : ∀ {k' : List (Nat × Blk) → Prop}, (∀ r, k' r → (i = n → k r) ∧ (i ≠ n → k ((i, pubB n sz get b) :: r))) → pubO n sz get l k' → ∃ r, k r ∧ lookO r = fun m => if m = n then none else (lookO ((i, b) :: l) m).map (pubB n sz get) := by
      intro k' hk h
      obtain ⟨r, h1, e⟩ := pubO_inv (l := l) h
      by_cases hin : i = n
      · refine ⟨r, (hk r h1).1 hin, ?_⟩
        rw [e]
        funext m
        rw [lookO_cons]
        by_cases hm : m = n
        · simp [hm]
        · have : i ≠ m := by omega
          simp [hm, this]
      · refine ⟨_, (hk r h1).2 hin, ?_⟩
        funext m
        rw [lookO_cons, lookO_cons, e]
        by_cases hm : i = m
        · subst hm; simp [hin]
        · simp [hm]
    cases b with
    | box cs =>
      simp only [pubO] at h
      split at h
      · rename_i e
        have e := (beq_iff _ _).1 e
        exact step (fun r hr => ⟨fun _ => hr, fun hne => (hne e).elim⟩) h
      · rename_i e
        have e : i ≠ n := fun e' => by rw [(beq_iff _ _).2 e'] at e; cases e
        exact step (fun r hr => ⟨fun h => (e h).elim, fun _ => hr⟩) (pubCells_inv h)
    | arr s cs =>
      simp only [pubO] at h
      split at h
      · rename_i e
        have e := (beq_iff _ _).1 e
        exact step (fun r hr => ⟨fun _ => hr, fun hne => (hne e).elim⟩) h
      · rename_i e
        have e : i ≠ n := fun e' => by rw [(beq_iff _ _).2 e'] at e; cases e
        exact step (fun r hr => ⟨fun h => (e h).elim, fun _ => hr⟩) (pubCells_inv h)
    | _ =>
      simp only [pubO] at h
      split at h
      · rename_i e
        have e := (beq_iff _ _).1 e
        exact step (fun r hr => ⟨fun _ => hr, fun hne => (hne e).elim⟩) h
      · rename_i e
        have e : i ≠ n := fun e' => by rw [(beq_iff _ _).2 e'] at e; cases e
        exact step (fun r hr => ⟨fun h => (e h).elim, fun _ => hr⟩) h
theorem pubs_inv : ∀ {ns : List Nat} {s : List (Nat × SV)} {o : List (Nat × Blk)} {k : List (Nat × SV) → List (Nat × Blk) → Prop} {nm n0 : List Nat}, pubs n0 ns s o k →
    ∃ s' o', k s' o' ∧ Pubs (toF ⟨s, o, nm, n0⟩) ns (toF ⟨s', o', nm, n0⟩)
  | [], s, o, k, _, _, h => ⟨s, o, h, .nil _⟩
  | n :: ns, s, o, k, nm, n0, h => by
    simp only [pubs] at h
    split at h
    · exact h.out.elim
    rename_i hn0
    have hn0 : ¬ (toF ⟨s, o, nm, n0⟩).n0 n := by simp only [toF]; rw [hn0]; simp
    split at h
    · rename_i Et sz len get hl
      obtain ⟨s1, h1, e1⟩ := pubS_inv h
      obtain ⟨o1, h2, e2⟩ := pubO_inv h1
      obtain ⟨s', o', h3, p⟩ := pubs_inv (nm := nm) (n0 := n0) h2
      refine ⟨s', o', h3, .row (show (toF ⟨s, o, nm, n0⟩).o n = _ from hl) hn0 ?_⟩
      have : pubF (toF ⟨s, o, nm, n0⟩) n sz get = toF ⟨s1, o1, nm, n0⟩ := by
        simp only [toF, pubF, e1, e2]
      rw [this]
      exact p
    · rename_i fn Et sz len get hl
      split at h
      · exact h.out.elim
      rename_i hf0
      have hf0 : ¬ (toF ⟨s, o, nm, n0⟩).n0 fn := by simp only [toF]; rw [hf0]; simp
      split at h
      · rename_i nk rows hlf
        obtain ⟨hok, h⟩ := h
        obtain ⟨s1, h1, e1⟩ := pubS_inv h
        obtain ⟨o1, h2, e2⟩ := pubO_inv h1
        obtain ⟨o2, h2, e3⟩ := delO_inv h2
        obtain ⟨s', o', h3, p⟩ := pubs_inv (nm := nm) (n0 := n0) h2
        refine ⟨s', o', h3, .nest (show (toF ⟨s, o, nm, n0⟩).o n = _ from hl) (show (toF ⟨s, o, nm, n0⟩).o fn = _ from hlf) hok hn0 hf0 ?_⟩
        have : delF (pubF (toF ⟨s, o, nm, n0⟩) n sz fun i j => fcD rows (get i j)) fn = toF ⟨s1, o2, nm, n0⟩ := by
          simp only [toF, pubF, delF, e1, e2, e3]
        rw [this]
        exact p
      · exact h.out.elim
    · exact h.out.elim
    · rename_i hl
      obtain ⟨s', o', h3, p⟩ := pubs_inv (nm := nm) (n0 := n0) h
      exact ⟨s', o', h3, .none (show (toF ⟨s, o, nm, n0⟩).o n = _ from hl) p⟩
theorem memNb {n : Nat} : ∀ {l : List Nat}, memN n l = true ↔ n ∈ l
  | [] => by simp [memN]
  | m :: l => by
    simp only [memN]
    split
    · rename_i e; simp [(beq_iff _ _).1 e]
    · rename_i e
      have : n ≠ m := fun e' => by rw [(beq_iff _ _).2 e'] at e; cases e
      simp [this, memNb (l := l)]
theorem disjN_inv : ∀ {l m : List Nat}, disjN l m = true → ∀ n ∈ l, n ∉ m
  | [], _, _ => by simp
  | n :: l, m, h => by
    simp only [disjN] at h
    split at h
    · cases h
    · rename_i hm
      intro k hk
      rcases List.mem_cons.1 hk with rfl | hk
      · intro h'; rw [memNb.2 h'] at hm; cases hm
      · exact disjN_inv h k hk
theorem applyK_inv {u : Upd} {σ : St} {K : St → Prop} (h : applyK u σ K) : ∃ σ' F1, K σ' ∧ Pubs (toF σ) u.pub F1 ∧ toF σ' = finF F1 u ∧ Fresh (toF σ) u := by
  obtain ⟨dst, v, own, del, new, pub⟩ := u
  obtain ⟨s, o, nm, n0⟩ := σ
  simp only [applyK] at h
  obtain ⟨s1, o1, h, p⟩ := pubs_inv (nm := nm) (n0 := n0) h
  unfold stayK at h
  split at h
  rotate_left
  · exact h.out.elim
  rename_i hdel
  have hdel : ∀ n ∈ del, ¬ memN n n0 = true := fun n hn h' => disjN_inv hdel n hn (memNb.1 h')
  obtain ⟨o2, h, e2⟩ := delsO_inv (s := s1) (nm := nm) (n0 := n0) h
  obtain ⟨o3, h, e3⟩ := setsO_inv (s := s1) (nm := nm) (n0 := n0) h
  obtain ⟨nm4, h, e4, hf⟩ := freshK_inv (s := s1) (o := o3) (n0 := n0) h
  have e : toF ⟨s1, o3, nm4, n0⟩ = nmF (setsF (delsF (toF ⟨s1, o1, nm, n0⟩) del) own) new := by rw [e4, e3, e2]
  cases dst with
  | none => exact ⟨_, _, h, p, by simp only [finF, putS]; exact e, hf, hdel⟩
  | some d =>
    obtain ⟨s5, h, e5⟩ := delS_inv (K := fun _ => True) h
    refine ⟨_, _, h, p, ?_, hf, hdel⟩
    simp only [finF, putS, ← e]
    simp only [toF]
    congr 1
    funext k
    rw [look_cons, e5]
    by_cases hk : d = k
    · subst hk; simp
    · simp [hk, Ne.symm hk]
theorem getPre_inv : ∀ {ns : List Nat} {o : List (Nat × Blk)} {k : List (Nat × Blk) → Prop}, getPre ns o k → ∃ pre, k pre ∧ pre.map (·.1) = ns ∧ ∀ n b, (n, b) ∈ pre → lookO o n = some b ∧ goLike b
  | [], o, k, h => ⟨[], h, rfl, by simp⟩
  | n :: ns, o, k, h => by
    simp only [getPre] at h
    split at h
    · rename_i cs hl
      obtain ⟨pre, h1, h2, h3⟩ := getPre_inv h
      refine ⟨_, h1, by simp [h2], ?_⟩
      intro m b hm
      simp only [List.mem_cons, Prod.mk.injEq] at hm
      rcases hm with ⟨rfl, rfl⟩ | hm
      · exact ⟨hl, trivial⟩
      · exact h3 m b hm
    · rename_i hl
      obtain ⟨pre, h1, h2, h3⟩ := getPre_inv h
      refine ⟨_, h1, by simp [h2], ?_⟩
      intro m b hm
      simp only [List.mem_cons, Prod.mk.injEq] at hm
      rcases hm with ⟨rfl, rfl⟩ | hm
      · exact ⟨hl, trivial⟩
      · exact h3 m b hm
    · rename_i hl
      obtain ⟨pre, h1, h2, h3⟩ := getPre_inv h
      refine ⟨_, h1, by simp [h2], ?_⟩
      intro m b hm
      simp only [List.mem_cons, Prod.mk.injEq] at hm
      rcases hm with ⟨rfl, rfl⟩ | hm
      · exact ⟨hl, trivial⟩
      · exact h3 m b hm
    · exact h.out.elim
theorem run_to {K : St → Prop} : ∀ {m : M Upd} {σ : St}, m.run P G σ K → ∃ u σ' F1, To P G (toF σ) m u ∧ K σ' ∧ Pubs (toF σ) u.pub F1 ∧ toF σ' = finF F1 u ∧ Fresh (toF σ) u := by
  intro m
  induction m with
  | ret u =>
    intro σ h
    obtain ⟨σ', F1, h1, h2, h3, h4⟩ := applyK_inv h
    exact ⟨u, σ', F1, .ret u, h1, h2, h3, h4⟩
  | slot k f ih =>
    intro ⟨s, o, nm, n0⟩ h
    simp only [M.run] at h
    split at h
    · rename_i v hv
      obtain ⟨u, σ', F1, t, r⟩ := ih v h
      exact ⟨u, σ', F1, .slot hv t, r⟩
    · exact h.out.elim
  | own k f ih =>
    intro ⟨s, o, nm, n0⟩ h
    simp only [M.run] at h
    split at h
    · rename_i v hv
      obtain ⟨u, σ', F1, t, r⟩ := ih v h
      exact ⟨u, σ', F1, .own hv t, r⟩
    · exact h.out.elim
  | need p m ih =>
    intro σ h
    simp only [M.run] at h
    obtain ⟨u, σ', F1, t, r⟩ := ih h.k
    exact ⟨u, σ', F1, .need h.h t, r⟩
  | split b x y ih1 ih2 =>
    intro σ h
    simp only [M.run, bc] at h
    split at h
    · obtain ⟨u, σ', F1, t, r⟩ := ih1 h
      exact ⟨u, σ', F1, .split1 rfl t, r⟩
    · obtain ⟨u, σ', F1, t, r⟩ := ih2 h
      exact ⟨u, σ', F1, .split2 rfl t, r⟩
  | call dst f args names bor pub =>
    intro ⟨s, o, nm, n0⟩ h
    simp only [M.run] at h
    obtain ⟨s1, o1, h, p⟩ := pubs_inv (nm := nm) (n0 := n0) h
    obtain ⟨pre, h, h1, h2⟩ := getPre_inv h
    obtain ⟨res, post, hs, hb, h⟩ := h
    obtain ⟨σ', F1, h3, h4, h5, h6⟩ := applyK_inv h
    cases h4
    refine ⟨_, σ', _, .call p ⟨h1, fun n b hn => h2 n b hn⟩ hs hb, h3, p, ?_, ⟨h6.new, by simp⟩⟩
    rw [h5]
    rfl
  | fail why => intro σ h; exact h.out.elim
end Go.Sx

namespace Go.Sx
open Go
variable {P : Program} {G : Nat → Option (Nat × (Nat → D))} {nt : Nat} {C : Ctx} {I : Nat → Prop} {ρ : Nat → Loc} {F : Fs} {a : Act} {w : World} {E : List Nat} {T : Nat}
inductive ToR (P : Program) (G : Nat → Option (Nat × (Nat → D))) (F : Fs) : M Upd → Upd → List Nat → List Nat → Prop where
  | ret (u : Upd) (h : u.pub = []) : ToR P G F (.ret u) u [] []
  | slot {k : Nat} {f : SV → M Upd} {v : SV} {u : Upd} {rs ro : List Nat} (h : F.s k = some v) (t : ToR P G F (f v) u rs ro) : ToR P G F (.slot k f) u (k :: rs) ro
  | own {n : Nat} {f : Blk → M Upd} {b : Blk} {u : Upd} {rs ro : List Nat} (h : F.o n = some b) (t : ToR P G F (f b) u rs ro) : ToR P G F (.own n f) u rs (n :: ro)
  | need {p : Prop} {m : M Upd} {u : Upd} {rs ro : List Nat} (h : p) (t : ToR P G F m u rs ro) : ToR P G F (.need p m) u rs ro
  | split1 {b : Bool} {x y : M Upd} {u : Upd} {rs ro : List Nat} (h : b = true) (t : ToR P G F x u rs ro) : ToR P G F (.split b x y) u rs ro
  | split2 {b : Bool} {x y : M Upd} {u : Upd} {rs ro : List Nat} (h : b = false) (t : ToR P G F y u rs ro) : ToR P G F (.split b x y) u rs ro
  | call {dst : Option Nat} {f : FuncId} {args : List SV} {names bor : List Nat} {pre : List (Nat × Blk)} {res : SV} {post : List (Nat × Blk)}
      (hp : PreOk F names pre) (h : Spec P G f args pre res post) (hb : bor = [] ∨ (flatR res = true ∧ FlatPost post)) :
      ToR P G F (.call dst f args names bor []) { dst, v := res, own := post, del := [], new := newP pre post, pub := [] } [] names
theorem ToR.to {m : M Upd} {u : Upd} {rs ro : List Nat} (h : ToR P G F m u rs ro) : To P G F m u ∧ u.pub = [] := by
  induction h with
  | ret u h => exact ⟨.ret u, h⟩
  | slot h _ ih => exact ⟨.slot h ih.1, ih.2⟩
  | own h _ ih => exact ⟨.own h ih.1, ih.2⟩
  | need h _ ih => exact ⟨.need h ih.1, ih.2⟩
  | split1 h _ ih => exact ⟨.split1 h ih.1, ih.2⟩
  | split2 h _ ih => exact ⟨.split2 h ih.1, ih.2⟩
  | call hp h hb => exact ⟨.call (.nil _) hp h hb, rfl⟩
theorem ToR.local {F' : Fs} {m : M Upd} {u : Upd} {rs ro : List Nat} (h : ToR P G F m u rs ro) (hs : ∀ k ∈ rs, F'.s k = F.s k) (ho : ∀ n ∈ ro, F'.o n = F.o n) : ToR P G F' m u rs ro := by
  induction h with
  | ret u h => exact .ret u h
  | slot h _ ih => exact .slot (by rw [hs _ (by simp)]; exact h) (ih (fun k hk => hs k (by simp [hk])) ho)
  | own h _ ih => exact .own (by rw [ho _ (by simp)]; exact h) (ih hs (fun n hn => ho n (by simp [hn])))
  | need h _ ih => exact .need h (ih hs ho)
  | split1 h _ ih => exact .split1 h (ih hs ho)
  | split2 h _ ih => exact .split2 h (ih hs ho)
  | call hp h hb =>
    refine .call ⟨hp.1, fun n b hn => ?_⟩ h hb
    have hmem : n ∈ (_ : List Nat) := hp.1 ▸ List.mem_map.2 ⟨_, hn, rfl⟩
    rw [ho n hmem]
    exact hp.2 n b hn
structure Eff where
  ds : Option (Nat × Option SV)
  eo : Nat → Option (Option Blk)
  new : List Nat
def Fs.app (F : Fs) (e : Eff) : Fs :=
  ⟨match e.ds with
    | none => F.s
    | some (d, v) => fun k => if k = d then v else F.s k,
   fun m => (e.eo m).getD (F.o m), fun m => m ∈ e.new ∨ F.nm m, F.n0⟩
def lastB : List (Nat × Blk) → Nat → Option Blk
  | [], _ => none
  | (n, b) :: l, m => match lastB l m with
    | some c => some c
    | none => if m = n then some b else none
def effOf (u : Upd) : Eff :=
  ⟨u.dst.map fun d => (d, some u.v), fun m => match lastB u.own m with
    | some b => some (some b)
    | none => if m ∈ u.del then some none else none, u.new⟩
def effSkip (dst : Option Nat) : Eff := ⟨dst.map fun d => (d, some (.tup [])), fun _ => none, []⟩
theorem delsF_fs : ∀ {ns : List Nat} {F : Fs}, (delsF F ns).s = F.s ∧ (delsF F ns).nm = F.nm ∧ (delsF F ns).n0 = F.n0 ∧ ∀ m, (delsF F ns).o m = if m ∈ ns then none else F.o m
  | [], F => ⟨rfl, rfl, rfl, by simp [delsF]⟩
  | n :: ns, F => by
    obtain ⟨h1, h2, h3, h4⟩ := delsF_fs (ns := ns) (F := delF F n)
    refine ⟨h1, h2, h3, fun m => ?_⟩
    simp only [delsF]
    rw [h4]
    by_cases e : m = n <;> by_cases e' : m ∈ ns <;> simp [delF, e, e']
theorem setsF_fs : ∀ {bs : List (Nat × Blk)} {F : Fs}, (setsF F bs).s = F.s ∧ (setsF F bs).nm = F.nm ∧ (setsF F bs).n0 = F.n0 ∧ ∀ m, (setsF F bs).o m = ((lastB bs m).map some).getD (F.o m)
  | [], F => ⟨rfl, rfl, rfl, by simp [setsF, lastB]⟩
  | (n, b) :: bs, F => by
    obtain ⟨h1, h2, h3, h4⟩ := setsF_fs (bs := bs) (F := setO F n b)
    refine ⟨h1, h2, h3, fun m => ?_⟩
    simp only [setsF]
    rw [h4]
    cases hl : lastB bs m with
    | some c => simp [lastB, hl]
    | none =>
      by_cases e : m = n
      · subst e; simp [lastB, hl, setO]
      · simp [lastB, hl, setO, e]
theorem nmF_fs : ∀ {ns : List Nat} {F : Fs}, (nmF F ns).s = F.s ∧ (nmF F ns).o = F.o ∧ (nmF F ns).n0 = F.n0 ∧ ∀ m, (nmF F ns).nm m ↔ (m ∈ ns ∨ F.nm m)
  | [], F => ⟨rfl, rfl, rfl, by simp [nmF]⟩
  | n :: ns, F => by
    obtain ⟨h1, h2, h3, h4⟩ := nmF_fs (ns := ns) (F := { F with nm := fun m => m = n ∨ F.nm m })
    refine ⟨h1, h2, h3, fun m => ?_⟩
    simp only [nmF]
    rw [h4]
    simp only [List.mem_cons]
    constructor
    · rintro (h | h | h)
      · exact .inl (.inr h)
      · exact .inl (.inl h)
      · exact .inr h
    · rintro ((h | h) | h)
      · exact .inr (.inl h)
      · exact .inl h
      · exact .inr (.inr h)
theorem finF_app {u : Upd} : finF F u = F.app (effOf u) := by
  have hs := setsF_fs (bs := u.own) (F := delsF F u.del)
  have hd := delsF_fs (ns := u.del) (F := F)
  have hn := nmF_fs (ns := u.new) (F := setsF (delsF F u.del) u.own)
  have key : nmF (setsF (delsF F u.del) u.own) u.new = ⟨F.s, fun m => ((effOf u).eo m).getD (F.o m), fun m => m ∈ u.new ∨ F.nm m, F.n0⟩ := by
    cases h : nmF (setsF (delsF F u.del) u.own) u.new with
    | mk s o nm n0 =>
      rw [h] at hn
      obtain ⟨h1, h2, h3, h4⟩ := hn
      simp only at h1 h2 h3 h4
      rw [h1, hs.1, hd.1, h2, h3, hs.2.2.1, hd.2.2.1]
      congr 1
      · funext m
        rw [hs.2.2.2, hd.2.2.2]
        simp only [effOf]
        cases lastB u.own m with
        | some b => rfl
        | none => by_cases e : m ∈ u.del <;> simp [e]
      · funext m
        rw [propext (h4 m), hs.2.1, hd.2.1]
  simp only [finF, key]
  cases hdst : u.dst with
  | none => simp [putS, Fs.app, effOf, hdst]
  | some d => simp [putS, Fs.app, effOf, hdst]
inductive StepE (P : Program) (G : Nat → Option (Nat × (Nat → D))) (E : List Nat) (ops : List Oper) (o : Oper) (F : Fs) : Eff → List Nat → List Nat → Prop where
  | run {u : Upd} {rs ro : List Nat} (hg : o.guard = none) (t : ToR P G F (opX P G E o.dst o.op) u rs ro) (hf : Fresh F u) : StepE P G E ops o F (effOf u) rs ro
  | runG {u : Upd} {rs ro : List Nat} {j : Nat} {want : Bool} {oj : Oper} {d : Nat} (hg : o.guard = some (j, want)) (hj : ops[j]? = some oj) (hd : oj.dst = some d) (hb : F.s d = some (.d (.bool want)))
      (t : ToR P G F (opX P G E o.dst o.op) u rs ro) (hf : Fresh F u) : StepE P G E ops o F (effOf u) (d :: rs) ro
  | skip {j : Nat} {want : Bool} {oj : Oper} {d : Nat} (hg : o.guard = some (j, want)) (hj : ops[j]? = some oj) (hd : oj.dst = some d) (hb : F.s d = some (.d (.bool (!want))) ∨ F.s d = some (.tup [])) :
      StepE P G E ops o F (effSkip o.dst) [d] []
def Eff.ws (e : Eff) (k : Nat) : Prop := ∃ v, e.ds = some (k, v)
def Eff.wo (e : Eff) (n : Nat) : Prop := e.eo n ≠ none ∨ n ∈ e.new
theorem app_s {e : Eff} {k : Nat} (h : ¬ e.ws k) : (F.app e).s k = F.s k := by
  unfold Fs.app
  cases hd : e.ds with
  | none => rfl
  | some x =>
    obtain ⟨d, v⟩ := x
    simp only
    rw [if_neg]
    rintro rfl
    exact h ⟨v, hd⟩
theorem app_o {e : Eff} {n : Nat} (h : ¬ e.wo n) : (F.app e).o n = F.o n := by
  unfold Fs.app
  have : e.eo n = none := Classical.byContradiction fun h' => h (.inl h')
  simp [this]
theorem app_nm {e : Eff} {n : Nat} (h : ¬ e.wo n) : (F.app e).nm n ↔ F.nm n := by
  unfold Fs.app
  have : n ∉ e.new := fun h' => h (.inr h')
  simp [this]
theorem StepE.local {ops : List Oper} {o : Oper} {F' : Fs} {e : Eff} {rs ro : List Nat} (h : StepE P G E ops o F e rs ro) (hs : ∀ k ∈ rs, F'.s k = F.s k) (ho : ∀ n ∈ ro, F'.o n = F.o n)
    (hn : ∀ n, e.wo n → (F'.nm n → F.nm n)) (h0 : F'.n0 = F.n0) : StepE P G E ops o F' e rs ro := by
  cases h with
  | run hg t hf => exact .run hg (t.local hs ho) ⟨fun n hm h' => hf.new n hm (hn n (.inr hm) h'), by rw [h0]; exact hf.del⟩
  | runG hg hj hd hb t hf => exact .runG hg hj hd (by rw [hs _ (by simp)]; exact hb) (t.local (fun k hk => hs k (by simp [hk])) ho) ⟨fun n hm h' => hf.new n hm (hn n (.inr hm) h'), by rw [h0]; exact hf.del⟩
  | skip hg hj hd hb => exact .skip hg hj hd (by rw [hs _ (by simp)]; exact hb)
structure Indep (e : Eff) (rs ro : List Nat) (e' : Eff) (rs' ro' : List Nat) : Prop where
  s1 : ∀ k ∈ rs', ¬ e.ws k
  o1 : ∀ n ∈ ro', ¬ e.wo n
  s2 : ∀ k ∈ rs, ¬ e'.ws k
  o2 : ∀ n ∈ ro, ¬ e'.wo n
  s3 : ∀ k, e.ws k → ¬ e'.ws k
  o3 : ∀ n, e.wo n → ¬ e'.wo n
theorem app_comm {e e' : Eff} (hs : ∀ k, e.ws k → ¬ e'.ws k) (ho : ∀ n, e.wo n → ¬ e'.wo n) : (F.app e).app e' = (F.app e').app e := by
  have h1 : ((F.app e).app e').s = ((F.app e').app e).s := by
    funext k
    by_cases he : e.ws k
    · have hne := hs k he
      rw [app_s hne]
      obtain ⟨v, hv⟩ := he
      simp [Fs.app, hv]
    · rw [app_s (F := F.app e') he]
      by_cases he' : e'.ws k
      · obtain ⟨v, hv⟩ := he'
        simp [Fs.app, hv]
      · rw [app_s he', app_s he, app_s he']
  have h2 : ((F.app e).app e').o = ((F.app e').app e).o := by
    funext n
    by_cases he : e.wo n
    · rw [app_o (ho n he)]
      have : e'.eo n = none := Classical.byContradiction fun h' => ho n he (.inl h')
      simp [Fs.app, this]
    · rw [app_o (F := F.app e') he]
      have : e.eo n = none := Classical.byContradiction fun h' => he (.inl h')
      simp [Fs.app, this]
  have h3 : ((F.app e).app e').nm = ((F.app e').app e).nm := by
    funext n
    simp only [Fs.app]
    apply propext
    constructor
    · rintro (h | h | h)
      · exact .inr (.inl h)
      · exact .inl h
      · exact .inr (.inr h)
    · rintro (h | h | h)
      · exact .inr (.inl h)
      · exact .inl h
      · exact .inr (.inr h)
  have h4 : ((F.app e).app e').n0 = ((F.app e').app e).n0 := rfl
  cases hA : (F.app e).app e' with
  | mk s o nm n0 =>
    cases hB : (F.app e').app e with
    | mk s' o' nm' n0' =>
      rw [hA, hB] at h1 h2 h3 h4
      simp only at h1 h2 h3 h4
      subst h1; subst h2; subst h3; subst h4; rfl
structure Item' where
  i : Nat
  o : Oper
  e : Eff
  rs : List Nat
  ro : List Nat
def Chain (P : Program) (G : Nat → Option (Nat × (Nat → D))) (E : List Nat) (ops : List Oper) : Fs → List Item' → Fs → Prop
  | F, [], F' => F = F'
  | F, x :: l, F' => StepE P G E ops x.o F x.e x.rs x.ro ∧ Chain P G E ops (F.app x.e) l F'
def IndepI (x y : Item') : Prop := Indep x.e x.rs x.ro y.e y.rs y.ro
theorem chain_swap {ops : List Oper} {x y : Item'} (h : IndepI x y) (hx : StepE P G E ops x.o F x.e x.rs x.ro) (hy : StepE P G E ops y.o (F.app x.e) y.e y.rs y.ro) :
    StepE P G E ops y.o F y.e y.rs y.ro ∧ StepE P G E ops x.o (F.app y.e) x.e x.rs x.ro ∧ (F.app x.e).app y.e = (F.app y.e).app x.e := by
  refine ⟨?_, ?_, app_comm h.s3 h.o3⟩
  · refine hy.local (fun k hk => (app_s (h.s1 k hk)).symm) (fun n hn => (app_o (h.o1 n hn)).symm) (fun n hn hm => ?_) rfl
    exact .inr hm
  · refine hx.local (fun k hk => app_s (h.s2 k hk)) (fun n hn => app_o (h.o2 n hn)) (fun n hn hm => ?_) rfl
    exact (app_nm (h.o3 n hn)).1 hm
theorem chain_front {ops : List Oper} {y : Item'} {F' : Fs} : ∀ {pre post : List Item'} {F : Fs}, (∀ x ∈ pre, IndepI x y) → Chain P G E ops F (pre ++ y :: post) F' →
    StepE P G E ops y.o F y.e y.rs y.ro ∧ Chain P G E ops (F.app y.e) (pre ++ post) F'
  | [], post, F, _, h => h
  | x :: pre, post, F, hi, h => by
    obtain ⟨hx, h⟩ := h
    obtain ⟨hy, h⟩ := chain_front (pre := pre) (fun z hz => hi z (by simp [hz])) h
    obtain ⟨h1, h2, h3⟩ := chain_swap (hi x (by simp)) hx hy
    exact ⟨h1, h2, by rw [← h3]; exact h⟩
def OpLeads (P : Program) (G : Nat → Option (Nat × (Nat → D))) (nt : Nat) (E : List Nat) (ops : List Oper) : Prop :=
  ∀ (C : Ctx) (I : Nat → Prop) (ρ : Nat → Loc) (F : Fs) (a : Act) (w : World) (i : Nat) (o : Oper) (e : Eff) (rs ro : List Nat) (Q : Exit → Act → World → Prop) (K : Act → World → Prop),
    ops[i]? = some o → dstOk nt o.dst → StepE P G E ops o F e rs ro → Conc G nt C I ρ F a w → (∀ I' ρ' a' w', Conc G nt C I' ρ' (F.app e) a' w' → K a' w') → wpOp P ⟨ops⟩ Q i K a w
def dirs (o : Oper) : List Nat := (o.after.toList.filter (Region.binds .any)).map (·.on)
inductive Dep (ops : List Oper) (x : Nat) : Nat → Prop where
  | one {i : Nat} {o : Oper} (h : ops[i]? = some o) (hd : x ∈ dirs o) : Dep ops x i
  | step {y i : Nat} {o : Oper} (h : ops[i]? = some o) (hd : y ∈ dirs o) (t : Dep ops x y) : Dep ops x i
def PairsOk (ops : List Oper) : List Item' → Prop
  | [] => True
  | x :: l => (∀ y ∈ l, Dep ops x.i y.i ∨ IndepI x y) ∧ PairsOk ops l
theorem PairsOk.sub {ops : List Oper} {y : Item'} : ∀ {pre post : List Item'}, PairsOk ops (pre ++ y :: post) → PairsOk ops (pre ++ post) ∧ ∀ x ∈ pre, Dep ops x.i y.i ∨ IndepI x y
  | [], post, h => ⟨h.2, by simp⟩
  | x :: pre, post, h => by
    obtain ⟨h1, h2⟩ := h
    obtain ⟨h3, h4⟩ := PairsOk.sub (pre := pre) h2
    refine ⟨⟨fun z hz => h1 z ?_, h3⟩, ?_⟩
    · rcases List.mem_append.1 hz with h | h
      · exact List.mem_append.2 (.inl h)
      · exact List.mem_append.2 (.inr (List.mem_cons_of_mem _ h))
    · intro z hz
      simp only [List.mem_cons] at hz
      rcases hz with rfl | hz
      · exact h1 y (by simp)
      · exact h4 z hz
theorem getD_set {listed : Array Bool} {i j : Nat} (d : Bool) (hi : i < listed.size) : (listed.setIfInBounds i true).getD j d = if j = i then true else listed.getD j d := by
  by_cases e : j = i
  · subst e; simp [hi]
  · rw [if_neg e]
    exact getD_set_ne d (fun h => e h.symm)
theorem wpAny_chain {ops : List Oper} (hop : OpLeads P G nt E ops) (hdst : ∀ (i : Nat) (o : Oper), ops[i]? = some o → dstOk nt o.dst) (hord : ∀ (i : Nat) (o : Oper), ops[i]? = some o → ∀ d ∈ dirs o, d < i)
    {Q : Exit → Act → World → Prop} {F' : Fs}
    (hQ : ∀ I ρ a w, Conc G nt C I ρ F' a w → Q .normal a w) : ∀ (fuel : Nat) (l : List Item') (listed : Array Bool) (F : Fs) (I : Nat → Prop) (ρ : Nat → Loc) (a : Act) (w : World),
    l.length ≤ fuel → Chain P G E ops F l F' → PairsOk ops l → (∀ x ∈ l, ops[x.i]? = some x.o) → (l.map (·.i)).Nodup → listed.size = ops.length → (∀ i, listed.getD i true = false ↔ ∃ x ∈ l, x.i = i) →
    (∀ j, listed.getD j false = true → ∀ o, ops[j]? = some o → ∀ d ∈ dirs o, listed.getD d false = true) → Conc G nt C I ρ F a w → wpAny P .any ⟨ops⟩ Q fuel listed a w := by
  intro fuel
  induction fuel with
  | zero =>
    intro l listed F I ρ a w hl hch _ _ _ _ hlist _ hc
    have : l = [] := List.eq_nil_of_length_eq_zero (by omega)
    subst this
    have hF : F = F' := hch
    subst hF
    refine ⟨?_, hQ I ρ a w hc⟩
    apply List.eq_nil_iff_forall_not_mem.2
    intro i hi
    obtain ⟨h1, _⟩ := mem_ready.1 hi
    obtain ⟨x, hx, _⟩ := (hlist i).1 h1
    simp at hx
  | succ fuel ih =>
    intro l listed F I ρ a w hl hch hpairs hops hnd hsz hlist hdown hc
    have hnodep : ∀ x i, Dep ops x i → listed.getD i false = true → listed.getD x false = true := by
      intro x i hd
      induction hd with
      | one h hd => intro hi; exact hdown _ hi _ h _ hd
      | step h hd _ ih => intro hi; exact ih (hdown _ hi _ h _ hd)
    have hboth : ∀ k, listed.getD k true = false → listed.getD k false = true → False := by
      intro k h1 h2
      cases hg : listed[k]? with
      | none => simp [Array.getD_eq_getD_getElem?, hg] at h2
      | some b => simp [Array.getD_eq_getD_getElem?, hg] at h1 h2; rw [h2] at h1; cases h1
    have hdirs : ∀ i, i ∈ Region.ready .any ⟨ops⟩ listed → ∀ o, ops[i]? = some o → ∀ d ∈ dirs o, listed.getD d false = true := by
      intro i hi o ho d hd
      obtain ⟨h1, o', ho', hall⟩ := mem_ready.1 hi
      have ho' : ops[i]? = some o' := by simpa using ho'
      rw [ho] at ho'
      cases ho'
      simp only [dirs, List.mem_map, List.mem_filter] at hd
      obtain ⟨e, ⟨he, hb⟩, rfl⟩ := hd
      exact hall e (by simpa using he) hb
    have hready : ∀ i, i ∈ Region.ready .any ⟨ops⟩ listed → ∃ pre y post, l = pre ++ y :: post ∧ y.i = i ∧ ∀ x ∈ pre, IndepI x y := by
      intro i hi
      obtain ⟨h1, _⟩ := mem_ready.1 hi
      obtain ⟨y, hy, hyi⟩ := (hlist i).1 h1
      obtain ⟨pre, post, rfl⟩ := List.append_of_mem hy
      refine ⟨pre, y, post, rfl, hyi, fun x hx => ?_⟩
      rcases (PairsOk.sub hpairs).2 x hx with hd | hd
      · exfalso
        have hxl : listed.getD x.i true = false := (hlist x.i).2 ⟨x, by simp [hx], rfl⟩
        have hyo : ops[y.i]? = some y.o := hops y (by simp)
        have hx' : listed.getD x.i false = true := by
          cases hd with
          | one h hd => rw [hyo] at h; cases h; exact hdirs i hi _ (by rw [← hyi]; exact hyo) _ hd
          | step h hd t => rw [hyo] at h; cases h; exact hnodep _ _ t (hdirs i hi _ (by rw [← hyi]; exact hyo) _ hd)
        exact hboth _ hxl hx'
      · exact hd
    refine ⟨fun hnil => ?_, fun i hi => ?_⟩
    · -- nothing is ready: nothing is left
      cases l with
      | nil =>
        have hF : F = F' := hch
        subst hF
        exact hQ I ρ a w hc
      | cons x l =>
        exfalso
        have hlive : ∀ i, listed.getD i true = false → False := by
          intro i
          induction i using Nat.strongRecOn with
          | _ i ih2 =>
            intro hi
            obtain ⟨z, hz, hzi⟩ := (hlist i).1 hi
            have hzo : ops[i]? = some z.o := by rw [← hzi]; exact hops z hz
            by_cases hall : ∀ d ∈ dirs z.o, listed.getD d false = true
            · have : i ∈ Region.ready .any ⟨ops⟩ listed := by
                refine mem_ready.2 ⟨hi, z.o, by simpa using hzo, fun e he hb => hall e.on ?_⟩
                simp only [dirs, List.mem_map, List.mem_filter]
                exact ⟨e, ⟨by simpa using he, hb⟩, rfl⟩
              rw [hnil] at this
              cases this
            · have : ∃ d, d ∈ dirs z.o ∧ listed.getD d false ≠ true := Classical.byContradiction fun h => hall (fun d hd => Classical.byContradiction fun h' => h ⟨d, hd, h'⟩)
              obtain ⟨d, hd, hne⟩ := this
              have hlt := hord i z.o hzo d hd
              refine ih2 d hlt ?_
              have hil : i < ops.length := (List.getElem?_eq_some_iff.1 hzo).1
              have hdl : d < listed.size := by omega
              simp [Array.getD_eq_getD_getElem?, hdl] at hne ⊢
              exact hne
        exact hlive x.i ((hlist x.i).2 ⟨x, by simp, rfl⟩)
    · obtain ⟨pre, y, post, rfl, hyi, hind⟩ := hready i hi
      obtain ⟨hstep, hch'⟩ := chain_front hind hch
      have hyo : ops[y.i]? = some y.o := hops y (by simp)
      have hil : i < listed.size := by rw [hsz, ← hyi]; exact (List.getElem?_eq_some_iff.1 hyo).1
      refine hop C I ρ F a w i y.o y.e y.rs y.ro Q _ (by rw [← hyi]; exact hyo) (hdst y.i y.o hyo) hstep hc ?_
      intro I' ρ' a' w' hc'
      have hmem : ∀ x, x ∈ pre ++ post → x ∈ pre ++ y :: post := fun x hx => by
        rcases List.mem_append.1 hx with h | h
        · exact List.mem_append.2 (.inl h)
        · exact List.mem_append.2 (.inr (List.mem_cons_of_mem _ h))
      have hnd' : ((pre ++ post).map (·.i)).Nodup ∧ ∀ x ∈ pre ++ post, x.i ≠ y.i := by
        simp only [List.map_append, List.map_cons] at hnd ⊢
        rw [List.nodup_append] at hnd ⊢
        obtain ⟨n1, n2, n3⟩ := hnd
        rw [List.nodup_cons] at n2
        refine ⟨⟨n1, n2.2, fun a ha b hb => n3 a ha b (List.mem_cons_of_mem _ hb)⟩, ?_⟩
        intro x hx e
        rcases List.mem_append.1 hx with h | h
        · exact n3 x.i (List.mem_map.2 ⟨x, h, rfl⟩) y.i (by simp) e
        · exact n2.1 (by rw [← e]; exact List.mem_map.2 ⟨x, h, rfl⟩)
      refine ih (pre ++ post) _ (F.app y.e) I' ρ' a' w' (by simp at hl ⊢; omega) hch' (PairsOk.sub hpairs).1 (fun x hx => hops x (hmem x hx)) hnd'.1 (by simp [hsz]) ?_ ?_ hc'
      · intro j
        rw [getD_set true hil]
        by_cases e : j = i
        · subst e
          simp only [if_true, Bool.true_eq_false, false_iff]
          rintro ⟨x, hx, hxj⟩
          exact hnd'.2 x hx (hxj.trans hyi.symm)
        · rw [if_neg e, hlist j]
          constructor
          · rintro ⟨x, hx, hxj⟩
            refine ⟨x, ?_, hxj⟩
            rcases List.mem_append.1 hx with h | h
            · exact List.mem_append.2 (.inl h)
            · rcases List.mem_cons.1 h with h | h
              · subst h; exact absurd (hxj.symm.trans hyi) e
              · exact List.mem_append.2 (.inr h)
          · rintro ⟨x, hx, hxj⟩
            exact ⟨x, hmem x hx, hxj⟩
      · intro j hj o ho d hd
        rw [getD_set false hil] at hj ⊢
        split
        · rfl
        · split at hj
          · rename_i e; subst e; exact hdirs j hi o ho d hd
          · exact hdown j hj o ho d hd
structure Foot where
  i : Nat
  rs : List Nat
  ro : List Nat
  ws : List Nat
  wo : List Nat
def M.runR (P : Program) (G : Nat → Option (Nat × (Nat → D))) : M Upd → St → List Nat → List Nat → (Upd → List Nat → List Nat → Prop) → Prop
  | .ret ⟨dst, v, ow, del, new, []⟩, _, rs, ro, K => K ⟨dst, v, ow, del, new, []⟩ rs ro
  | .slot k f, ⟨s, o, nm, n0⟩, rs, ro, K => match look s k with
    | some v => (f v).runR P G ⟨s, o, nm, n0⟩ (k :: rs) ro K
    | none => Stuck "slot"
  | .own n f, ⟨s, o, nm, n0⟩, rs, ro, K => match lookO o n with
    | some v => (f v).runR P G ⟨s, o, nm, n0⟩ rs (n :: ro) K
    | none => Stuck "own"
  | .need p m, σ, rs, ro, K => Need p (m.runR P G σ rs ro K)
  | .split b x y, σ, rs, ro, K => bc b (x.runR P G σ rs ro K) (y.runR P G σ rs ro K)
  | .call dst f args names bor [], ⟨_, o, _, _⟩, rs, ro, K => getPre names o fun pre => CallVC P G f args pre bor fun res post => K ⟨dst, res, post, [], newP pre post, []⟩ rs (names ++ ro)
  | .fail why, _, _, _, _ => Stuck why
  | _, _, _, _, _ => Stuck "own slice into a call while the order is open"
theorem runR_inv {K : Upd → List Nat → List Nat → Prop} : ∀ {m : M Upd} {σ : St} {rs ro : List Nat}, m.runR P G σ rs ro K →
    ∃ u rs' ro' a b, K u rs' ro' ∧ ToR P G (toF σ) m u a b ∧ (∀ k ∈ a, k ∈ rs') ∧ (∀ n ∈ b, n ∈ ro') ∧ (∀ k ∈ rs, k ∈ rs') ∧ (∀ n ∈ ro, n ∈ ro') := by
  intro m
  induction m with
  | ret u =>
    intro ⟨s, o, nm, n0⟩ rs ro h
    obtain ⟨dst, v, own, del, new, pub⟩ := u
    cases pub with
    | nil => exact ⟨_, rs, ro, [], [], h, .ret _ rfl, by simp, by simp, fun _ h => h, fun _ h => h⟩
    | cons _ _ => exact h.out.elim
  | slot k f ih =>
    intro ⟨s, o, nm, n0⟩ rs ro h
    simp only [M.runR] at h
    split at h
    · rename_i v hv
      obtain ⟨u, rs', ro', a, b, h1, t, h2, h3, h4, h5⟩ := ih v h
      refine ⟨u, rs', ro', k :: a, b, h1, .slot hv t, ?_, h3, fun x hx => h4 x (by simp [hx]), h5⟩
      intro x hx
      rcases List.mem_cons.1 hx with rfl | hx
      · exact h4 x (by simp)
      · exact h2 x hx
    · exact h.out.elim
  | own k f ih =>
    intro ⟨s, o, nm, n0⟩ rs ro h
    simp only [M.runR] at h
    split at h
    · rename_i v hv
      obtain ⟨u, rs', ro', a, b, h1, t, h2, h3, h4, h5⟩ := ih v h
      refine ⟨u, rs', ro', a, k :: b, h1, .own hv t, h2, ?_, h4, fun x hx => h5 x (by simp [hx])⟩
      intro x hx
      rcases List.mem_cons.1 hx with rfl | hx
      · exact h5 x (by simp)
      · exact h3 x hx
    · exact h.out.elim
  | need p m ih =>
    intro ⟨s, o, nm, n0⟩ rs ro h
    simp only [M.runR] at h
    obtain ⟨u, rs', ro', a, b, h1, t, r⟩ := ih h.k
    exact ⟨u, rs', ro', a, b, h1, .need h.h t, r⟩
  | split b x y ih1 ih2 =>
    intro ⟨s, o, nm, n0⟩ rs ro h
    simp only [M.runR, bc] at h
    split at h
    · obtain ⟨u, rs', ro', a, b, h1, t, r⟩ := ih1 h
      exact ⟨u, rs', ro', a, b, h1, .split1 rfl t, r⟩
    · obtain ⟨u, rs', ro', a, b, h1, t, r⟩ := ih2 h
      exact ⟨u, rs', ro', a, b, h1, .split2 rfl t, r⟩
  | call dst f args names bor pub =>
    intro ⟨s, o, nm, n0⟩ rs ro h
    cases pub with
    | nil =>
      simp only [M.runR] at h
      obtain ⟨pre, h, h1, h2⟩ := getPre_inv h
      obtain ⟨res, post, hs, hb, h⟩ := h
      exact ⟨_, rs, names ++ ro, [], names, h, .call ⟨h1, fun n b hn => h2 n b hn⟩ hs hb, by simp, fun n hn => by simp [hn], fun _ h => h, fun n hn => by simp [hn]⟩
    | cons _ _ => exact h.out.elim
  | fail why => intro ⟨s, o, nm, n0⟩ rs ro h; exact h.out.elim
def optL : Option Nat → List Nat
  | none => []
  | some d => [d]
def keysO : List (Nat × Blk) → List Nat
  | [] => []
  | (n, _) :: l => n :: keysO l
def wsU : Upd → List Nat
  | ⟨none, _, _, _, _, _⟩ => []
  | ⟨some d, _, _, _, _, _⟩ => [d]
def keysU : Upd → List Nat
  | ⟨_, _, own, del, new, _⟩ => keysO own ++ (del ++ new)
def dstB (nt : Nat) : Option Nat → Bool
  | none => true
  | some d => Nat.blt d nt
def skipOp : Option Nat → St → (St → Prop) → Prop
  | some d, ⟨s, o, nm, n0⟩, K => delS s d fun s => K ⟨(d, .tup []) :: s, o, nm, n0⟩
  | none, σ, K => K σ
def litK (d : Nat) (b : Bool) : St → (St → Prop) → Prop
  | ⟨s, o, nm, n0⟩, K => delS s d fun s => K ⟨(d, .d (.bool b)) :: s, o, nm, n0⟩
def nthOp : List Oper → Nat → Option Oper
  | [], _ => none
  | x :: _, 0 => some x
  | _ :: l, n + 1 => nthOp l n
def drawOps (P : Program) (G : Nat → Option (Nat × (Nat → D))) (E : List Nat) (nt : Nat) (ops : List Oper) : Nat → List Oper → St → List Foot → (List Foot → St → Prop) → Prop
  | _, [], σ, acc, K => K acc σ
  | i, ⟨dst, op, _, _, _, none⟩ :: rest, σ, acc, K => match dstB nt dst with
    | true => (opX P G E dst op).runR P G σ [] [] fun u rs ro => applyK u σ fun σ => drawOps P G E nt ops (i + 1) rest σ (⟨i, rs, ro, wsU u, keysU u⟩ :: acc) K
    | false => Stuck "slots"
  | i, ⟨dst, op, _, _, _, some (j, want)⟩ :: rest, σ, acc, K =>
    match nthOp ops j, dstB nt dst with
    | some ⟨some d, _, _, _, _, _⟩, true => match look σ.s d with
      | some (.d (.bool b)) => bc b
          (litK d true σ fun σ => bc want
            ((opX P G E dst op).runR P G σ [d] [] fun u rs ro => applyK u σ fun σ => drawOps P G E nt ops (i + 1) rest σ (⟨i, rs, ro, wsU u, keysU u⟩ :: acc) K)
            (skipOp dst σ fun σ => drawOps P G E nt ops (i + 1) rest σ (⟨i, [d], [], optL dst, []⟩ :: acc) K))
          (litK d false σ fun σ => bc want
            (skipOp dst σ fun σ => drawOps P G E nt ops (i + 1) rest σ (⟨i, [d], [], optL dst, []⟩ :: acc) K)
            ((opX P G E dst op).runR P G σ [d] [] fun u rs ro => applyK u σ fun σ => drawOps P G E nt ops (i + 1) rest σ (⟨i, rs, ro, wsU u, keysU u⟩ :: acc) K))
      | some (.tup []) => skipOp dst σ fun σ => drawOps P G E nt ops (i + 1) rest σ (⟨i, [d], [], optL dst, []⟩ :: acc) K
      | _ => Stuck "guard value"
    | _, _ => Stuck "guard"
def dirsL : List Edge → List Nat
  | [] => []
  | ⟨_, .textOnly _⟩ :: l => dirsL l
  | ⟨_, .gcOnly _⟩ :: l => dirsL l
  | ⟨n, _⟩ :: l => n :: dirsL l
theorem dirsL_eq (o : Oper) : dirsL o.after.toList = dirs o := by
  unfold dirs
  generalize o.after.toList = l
  induction l with
  | nil => rfl
  | cons e l ih =>
    obtain ⟨n, g⟩ := e
    cases g <;> simp [dirsL, Region.binds, List.filter_cons, ih]
def anyD (rec : Nat → Bool) (x : Nat) : List Nat → Bool
  | [] => false
  | y :: l => match Nat.blt x y with
    | true => match rec y with
      | true => true
      | false => anyD rec x l
    | false => anyD rec x l
def depB (ops : List Oper) : Nat → Nat → Nat → Bool
  | 0, _, _ => false
  | f + 1, x, i => match nthOp ops i with
    | some ⟨_, _, _, _, ⟨after⟩, _⟩ => match memN x (dirsL after) with
      | true => true
      | false => anyD (depB ops f x) x (dirsL after)
    | none => false
def indepB : Foot → Foot → Bool
  | ⟨_, rs, ro, ws, wo⟩, ⟨_, rs', ro', ws', wo'⟩ => match disjN ws rs', disjN wo ro', disjN ws' rs, disjN wo' ro, disjN ws ws', disjN wo wo' with
    | true, true, true, true, true, true => true
    | _, _, _, _, _, _ => false
def pairB (ops : List Oper) (y : Foot) : List Foot → Bool
  | [] => true
  | x :: l => match indepB x y with
    | true => pairB ops y l
    | false => match depB ops 8 x.i y.i with
      | true => pairB ops y l
      | false => false
def orderB (ops : List Oper) : List Foot → Bool
  | [] => true
  | y :: l => match pairB ops y l with
    | true => orderB ops l
    | false => false
def ltAll (i : Nat) : List Nat → Bool
  | [] => true
  | d :: l => match Nat.blt d i with
    | true => ltAll i l
    | false => false
def ordB : Nat → List Oper → Bool
  | _, [] => true
  | i, ⟨_, _, _, _, ⟨after⟩, _⟩ :: l => match ltAll i (dirsL after) with
    | true => ordB (i + 1) l
    | false => false
theorem nthOp_eq : ∀ (l : List Oper) (n : Nat), nthOp l n = l[n]?
  | [], n => by simp [nthOp]
  | x :: l, 0 => by simp [nthOp]
  | x :: l, n + 1 => by simp [nthOp, nthOp_eq l n]
theorem anyD_inv {rec : Nat → Bool} {x : Nat} : ∀ {l : List Nat}, anyD rec x l = true → ∃ y ∈ l, rec y = true
  | [], h => by cases h
  | y :: l, h => by
    simp only [anyD] at h
    split at h
    · split at h
      · rename_i hr; exact ⟨y, by simp, hr⟩
      · obtain ⟨z, hz, hr⟩ := anyD_inv h; exact ⟨z, by simp [hz], hr⟩
    · obtain ⟨z, hz, hr⟩ := anyD_inv h; exact ⟨z, by simp [hz], hr⟩
theorem depB_inv {ops : List Oper} {x : Nat} : ∀ {f i : Nat}, depB ops f x i = true → Dep ops x i
  | 0, _, h => by cases h
  | f + 1, i, h => by
    simp only [depB] at h
    split at h
    · rename_i dst op ty pos after g ho
      rw [nthOp_eq] at ho
      have hd : dirsL after = dirs ⟨dst, op, ty, pos, ⟨after⟩, g⟩ := dirsL_eq ⟨dst, op, ty, pos, ⟨after⟩, g⟩
      split at h
      · rename_i hm
        exact .one ho (by rw [← hd]; exact memNb.1 hm)
      · obtain ⟨y, hy, hr⟩ := anyD_inv h
        exact .step ho (by rw [← hd]; exact hy) (depB_inv hr)
    · cases h
inductive All2 {α β : Type} (R : α → β → Prop) : List α → List β → Prop where
  | nil : All2 R [] []
  | cons {a : α} {b : β} {l : List α} {m : List β} (h : R a b) (t : All2 R l m) : All2 R (a :: l) (b :: m)
structure Covers (f : Foot) (x : Item') : Prop where
  i : f.i = x.i
  rs : ∀ k ∈ x.rs, k ∈ f.rs
  ro : ∀ n ∈ x.ro, n ∈ f.ro
  ws : ∀ k, x.e.ws k → k ∈ f.ws
  wo : ∀ n, x.e.wo n → n ∈ f.wo
theorem indepB_inv {f g : Foot} {x y : Item'} (h : indepB f g = true) (hx : Covers f x) (hy : Covers g y) : IndepI x y := by
  obtain ⟨i, rs, ro, ws, wo⟩ := f
  obtain ⟨i', rs', ro', ws', wo'⟩ := g
  simp only [indepB] at h
  split at h
  · rename_i h1 h2 h3 h4 h5 h6
    exact { s1 := fun k hk hw => disjN_inv h1 k (hx.ws k hw) (hy.rs k hk), o1 := fun n hn hw => disjN_inv h2 n (hx.wo n hw) (hy.ro n hn),
            s2 := fun k hk hw => disjN_inv h3 k (hy.ws k hw) (hx.rs k hk), o2 := fun n hn hw => disjN_inv h4 n (hy.wo n hw) (hx.ro n hn),
            s3 := fun k hw hw' => disjN_inv h5 k (hx.ws k hw) (hy.ws k hw'), o3 := fun n hw hw' => disjN_inv h6 n (hx.wo n hw) (hy.wo n hw') }
  · cases h
theorem pairB_inv {ops : List Oper} {g : Foot} {y : Item'} (hy : Covers g y) : ∀ {fs : List Foot} {xs : List Item'}, pairB ops g fs = true → All2 Covers fs xs → ∀ x ∈ xs, Dep ops x.i y.i ∨ IndepI x y := by
  intro fs xs h hc
  induction hc with
  | nil => simp
  | @cons f x fs xs hfx _ ih =>
    simp only [pairB] at h
    have key : (Dep ops x.i y.i ∨ IndepI x y) ∧ pairB ops g fs = true := by
      split at h
      · rename_i hi; exact ⟨.inr (indepB_inv hi hfx hy), h⟩
      · split at h
        · rename_i hd; exact ⟨.inl (by rw [← hfx.i, ← hy.i]; exact depB_inv hd), h⟩
        · cases h
    intro z hz
    rcases List.mem_cons.1 hz with rfl | hz
    · exact key.1
    · exact ih key.2 z hz
theorem pairsOk_append {ops : List Oper} : ∀ {l m : List Item'}, PairsOk ops l → PairsOk ops m → (∀ x ∈ l, ∀ y ∈ m, Dep ops x.i y.i ∨ IndepI x y) → PairsOk ops (l ++ m)
  | [], m, _, h, _ => h
  | x :: l, m, h1, h2, h3 => by
    refine ⟨fun y hy => ?_, pairsOk_append h1.2 h2 (fun z hz => h3 z (by simp [hz]))⟩
    rcases List.mem_append.1 hy with h | h
    · exact h1.1 y h
    · exact h3 x (by simp) y h
theorem orderB_inv {ops : List Oper} : ∀ {fs : List Foot} {xs : List Item'}, orderB ops fs = true → All2 Covers fs xs → PairsOk ops xs.reverse := by
  intro fs xs h hc
  induction hc with
  | nil => trivial
  | @cons f x fs xs hfx hrest ih =>
    simp only [orderB] at h
    split at h
    · rename_i hp
      have h1 := ih h
      have h2 := pairB_inv hfx hp hrest
      rw [List.reverse_cons]
      refine pairsOk_append h1 ⟨by simp, trivial⟩ ?_
      intro z hz y hy
      simp only [List.mem_singleton] at hy
      subst hy
      exact h2 z (by simpa using hz)
    · cases h
theorem ordB_inv : ∀ {ops : List Oper} {k : Nat}, ordB k ops = true → ∀ (i : Nat) (o : Oper), ops[i]? = some o → ∀ d ∈ dirs o, d < k + i
  | [], _, _ => by simp
  | ⟨dst, op, ty, pos, ⟨after⟩, g⟩ :: ops, k, h => by
    simp only [ordB] at h
    have hlt : ∀ {l : List Nat}, ltAll k l = true → ∀ d ∈ l, d < k := by
      intro l
      induction l with
      | nil => simp
      | cons d l ih =>
        intro h
        simp only [ltAll] at h
        split at h
        · rename_i hd
          intro x hx
          rcases List.mem_cons.1 hx with rfl | hx
          · exact Nat.le_of_ble_eq_true hd
          · exact ih h x hx
        · cases h
    split at h
    · rename_i hd
      intro i o ho d hdd
      cases i with
      | zero =>
        simp only [List.getElem?_cons_zero, Option.some.injEq] at ho
        subst ho
        rw [← dirsL_eq] at hdd
        simpa using hlt hd d hdd
      | succ i =>
        have := ordB_inv h i o (by simpa using ho) d hdd
        omega
    · cases h
end Go.Sx

namespace Go.Sx
open Go
variable {P : Program} {G : Nat → Option (Nat × (Nat → D))} {nt : Nat} {C : Ctx} {I : Nat → Prop} {ρ : Nat → Loc} {F : Fs} {a : Act} {w : World} {E : List Nat} {T : Nat}
inductive Ex where
  | normal | exit (id : Nat) | ret
def execOps (P : Program) (G : Nat → Option (Nat × (Nat → D))) (E : List Nat) (nt : Nat) (ops : List Oper) : List Oper → St → (St → Prop) → Prop
  | [], σ, K => K σ
  | ⟨dst, op, _, _, _, none⟩ :: rest, σ, K => match dstB nt dst with
    | true => (opX P G E dst op).run P G σ fun σ => execOps P G E nt ops rest σ K
    | false => Stuck "slots"
  | ⟨dst, op, _, _, _, some (j, want)⟩ :: rest, σ, K =>
    match nthOp ops j, dstB nt dst with
    | some ⟨some d, _, _, _, _, _⟩, true => match look σ.s d with
      | some (.d (.bool b)) => bc b
          (litK d true σ fun σ => bc want ((opX P G E dst op).run P G σ fun σ => execOps P G E nt ops rest σ K) (skipOp dst σ fun σ => execOps P G E nt ops rest σ K))
          (litK d false σ fun σ => bc want (skipOp dst σ fun σ => execOps P G E nt ops rest σ K) ((opX P G E dst op).run P G σ fun σ => execOps P G E nt ops rest σ K))
      | some (.tup []) => skipOp dst σ fun σ => execOps P G E nt ops rest σ K
      | _ => Stuck "guard value"
    | _, _ => Stuck "guard"
def Good (G : Nat → Option (Nat × (Nat → D))) (nt : Nat) (C : Ctx) (K : Ex → St → Prop) : Exit → Act → World → Prop
  | .normal, a, w => ∃ σ I ρ, K .normal σ ∧ Conc G nt C I ρ (toF σ) a w
  | .exit id, a, w => ∃ σ I ρ, K (.exit id) σ ∧ Conc G nt C I ρ (toF σ) a w
  | .ret, a, w => ∃ σ I ρ, K .ret σ ∧ Conc G nt C I ρ (toF σ) a w
  | _, _, _ => False
theorem wp_loop_ghost {X : Type} {c : Code} {Q : Exit → Act → World → Prop} (J : X → Act → World → Prop) (μ : X → Nat)
    (round : ∀ x a w, J x a w → c.wp P (Exit.then (fun a' w' => ∃ x', J x' a' w' ∧ μ x' < μ x) Q) a w) : ∀ x a w, J x a w → (Code.loop c).wp P Q a w := by
  intro x0 a0 w0 h0 b k cs
  have key : ∀ n x a w, μ x = n → J x a w →
      ∃ e a' w', Q e a' w' ∧ Arrives P (lone (b.at a (.code c :: .inLoop c :: k)) cs w) b k cs e a' w' := by
    intro n
    induction n using Nat.strongRecOn with
    | _ n ih =>
      intro x a w hn hI
      obtain ⟨e, a₁, w₁, hq, harr⟩ := round x a w hI b (.inLoop c :: k) cs
      cases e with
      | normal =>
        obtain ⟨x', hI₁, hlt⟩ := hq
        obtain ⟨e₂, a₂, w₂, hq₂, harr₂⟩ := ih (μ x') (hn ▸ hlt) x' a₁ w₁ rfl hI₁
        exact ⟨e₂, a₂, w₂, hq₂, .of_steps (Steps.trans harr (.one step_inLoop)) harr₂⟩
      | exit id => exact ⟨_, a₁, w₁, hq, .pass (x := .inLoop c) rfl (fun _ _ => .inl (by simp)) harr⟩
      | goto l => exact ⟨_, a₁, w₁, hq, .pass (x := .inLoop c) rfl (fun _ _ => .inl (by simp)) harr⟩
      | ret => exact ⟨_, a₁, w₁, hq, .pass (x := .inLoop c) rfl (fun _ _ => .inl (by simp)) harr⟩
      | panic ch => exact ⟨_, a₁, w₁, hq, .pass (x := .inLoop c) rfl (fun _ _ => .inl (by simp)) harr⟩
      | outgrown => exact ⟨_, a₁, w₁, hq, .pass (x := .inLoop c) rfl (fun _ _ => .inl (by simp)) harr⟩
  obtain ⟨e, a', w', hq, harr⟩ := key _ x0 a0 w0 rfl h0
  exact ⟨e, a', w', hq, .of_steps (.one step_loop) harr⟩
structure EntC (σ σ' : St) : Prop where
  out : ∀ {G : Nat → Option (Nat × (Nat → D))} {nt : Nat} {C : Ctx} {I : Nat → Prop} {ρ : Nat → Loc} {a : Act} {w : World}, Conc G nt C I ρ (toF σ) a w → ∃ I' ρ', Conc G nt C I' ρ' (toF σ') a w
theorem EntC.refl (σ : St) : EntC σ σ := ⟨fun h => ⟨_, _, h⟩⟩
def loopN (step : St → (Ex → St → Prop) → Prop) : Nat → St → (Ex → St → Prop) → Prop
  | 0, _, _ => False
  | n + 1, σ, K => step σ fun e σ' => match e with
    | .normal => ∃ σ'', EntC σ' σ'' ∧ loopN step n σ'' K
    | .exit i => K (.exit i) σ'
    | .ret => K .ret σ'
inductive LoopVC (step : St → (Ex → St → Prop) → Prop) (σ : St) (K : Ex → St → Prop) : Prop where
  | mk (σ0 : St) (n : Nat) (h : EntC σ σ0) (k : loopN step n σ0 K)
inductive WkVC (σ : St) (k : St → Prop) : Prop where
  | mk (σ' : St) (h : EntC σ σ') (k : k σ')
def wkK (K : Ex → St → Prop) : Ex → St → Prop
  | .normal, σ => WkVC σ (K .normal)
  | .exit i, σ => K (.exit i) σ
  | .ret, σ => K .ret σ
theorem wk_refl {σ : St} {k : St → Prop} (h : k σ) : WkVC σ k := ⟨σ, EntC.refl σ, h⟩
theorem good_wk {K : Ex → St → Prop} {e : Exit} {a : Act} {w : World} (h : Good G nt C (wkK K) e a w) : Good G nt C K e a w := by
  cases e with
  | normal =>
    obtain ⟨σ, I, ρ, ⟨σ', he, hk⟩, hc⟩ := h
    obtain ⟨I', ρ', hc'⟩ := he.out hc
    exact ⟨σ', I', ρ', hk, hc'⟩
  | exit id => exact h
  | ret => exact h
  | _ => exact h.elim
structure OrdVC (ops : List Oper) (feet : List Foot) (X : Prop) : Prop where
  h : orderB ops feet = true
  k : X
structure DrawVC (P : Program) (G : Nat → Option (Nat × (Nat → D))) (E : List Nat) (nt : Nat) (ops : List Oper) (σ : St) (K : St → Prop) : Prop where
  h : ordB 0 ops = true
  k : drawOps P G E nt ops 0 ops σ [] fun feet σ => OrdVC ops feet (K σ)
def exec (P : Program) (G : Nat → Option (Nat × (Nat → D))) (E : List Nat) (nt : Nat) : Code → St → (Ex → St → Prop) → Prop
  | .skip, σ, K => K .normal σ
  | .region _ ⟨ops⟩ false, σ, K => execOps P G E nt ops ops σ fun σ => K .normal σ
  | .region _ ⟨ops⟩ true, σ, K => DrawVC P G E nt ops σ fun σ => K .normal σ
  | .seq a b, σ, K => exec P G E nt a σ fun e σ => match e with
    | .normal => exec P G E nt b σ K
    | .exit i => K (.exit i) σ
    | .ret => K .ret σ
  | .cond (.tmp t) a b, σ, K => match look σ.s t with
    | some (.d (.bool c)) => bc c (exec P G E nt a σ (wkK K)) (exec P G E nt b σ (wkK K))
    | _ => Stuck "cond"
  | .block id c, σ, K => exec P G E nt c σ fun e σ => match e with
    | .exit i => match Nat.beq i id with
      | true => K .normal σ
      | false => K (.exit i) σ
    | .normal => K .normal σ
    | .ret => K .ret σ
  | .loop c, σ, K => LoopVC (fun σ K => exec P G E nt c σ K) σ K
  | .exit id, σ, K => K (.exit id) σ
  | .ret, σ, K => K .ret σ
  | .scope c, σ, K => exec P G E nt c σ K
  | .label _, σ, K => K .normal σ
  | _, _, _ => Stuck "code"
theorem toF_s (σ : St) : (toF σ).s = look σ.s := by cases σ; rfl
theorem litK_inv {d : Nat} {b : Bool} {σ : St} {K : St → Prop} (h : litK d b σ K) (hs : (toF σ).s d = some (.d (.bool b))) : ∃ σ', K σ' ∧ toF σ' = toF σ := by
  obtain ⟨s, o, nm, n0⟩ := σ
  obtain ⟨r, h1, h2⟩ := delS_inv (K := fun _ => True) h
  refine ⟨_, h1, ?_⟩
  simp only [toF]
  congr 1
  funext m
  rw [look_cons, h2]
  by_cases hm : d = m
  · subst hm; simp only [if_true]; exact hs.symm
  · simp [hm, Ne.symm hm]
theorem Conc.skip (hc : Conc G nt C I ρ F a w) {d : Nat} (hd : d < nt) : Conc G nt C I ρ (putS F (some d) (.tup [])) (a.put (some d) undef) w :=
  hc.put (dst := some d) hd (by simp only [RepS]; exact ⟨[], rfl, by simp [RepL]⟩) (by simp [inS, inL])
theorem skipOp_inv {σ : St} (hc : Conc G nt C I ρ (toF σ) a w) {dst : Option Nat} (hd : dstB nt dst = true) {K : St → Prop} (h : skipOp dst σ K) : ∃ σ', K σ' ∧ Conc G nt C I ρ (toF σ') (a.put dst undef) w := by
  cases dst with
  | none => exact ⟨σ, h, hc⟩
  | some d =>
    obtain ⟨s, o, nm, n0⟩ := σ
    obtain ⟨r, h1, h2⟩ := delS_inv (K := fun _ => True) h
    refine ⟨_, h1, ?_⟩
    have := hc.skip (d := d) (Nat.le_of_ble_eq_true hd)
    have e : toF ⟨(d, .tup []) :: r, o, nm, n0⟩ = putS (toF ⟨s, o, nm, n0⟩) (some d) (.tup []) := by
      simp only [toF, putS]
      congr 1
      funext m
      rw [look_cons, h2]
      by_cases hm : d = m
      · subst hm; simp
      · simp [hm, Ne.symm hm]
    rw [e]
    exact this
theorem yielded_undef {ops : List Oper} {j d : Nat} {oj : Oper} (hj : ops[j]? = some oj) (hd : oj.dst = some d) {v : Value} (hv : a.tmps[d]? = some v) (hr : RepS I ρ w (.tup []) v) : yielded ⟨ops⟩ a.tmps j = none := by
  simp only [RepS, RepL] at hr
  obtain ⟨us, rfl, rfl⟩ := hr
  simp only [yielded, List.getElem?_toArray, hj, Option.bind_some, hd, hv]
theorem execOps_sound (hE : EOk P E) {ops : List Oper} {K : St → Prop} : ∀ {rest : List Oper} {σ : St} {I : Nat → Prop} {ρ : Nat → Loc} {a : Act} {w : World}, execOps P G E nt ops rest σ K → Conc G nt C I ρ (toF σ) a w →
    wpList P ⟨ops⟩ (Good G nt C fun e σ => match e with | .normal => K σ | _ => False) rest a w
  | [], σ, I, ρ, a, w, h, hc => ⟨σ, I, ρ, h, hc⟩
  | ⟨dst, op, ty, pos, after, guard⟩ :: rest, σ, I, ρ, a, w, h, hc => by
    have doit : ∀ {σ : St}, dstB nt dst = true → (opX P G E dst op).run P G σ (fun σ => execOps P G E nt ops rest σ K) → Conc G nt C I ρ (toF σ) a w →
        (⟨dst, op, ty, pos, after, guard⟩ : Oper).wp P a w (wpList P ⟨ops⟩ (Good G nt C fun e σ => match e with | .normal => K σ | _ => False) rest) (Good G nt C fun e σ => match e with | .normal => K σ | _ => False) := by
      intro σ hd h hc
      obtain ⟨u, σ', F1, t, hk, hp, hF, hf⟩ := run_to h
      have hd' : dstOk nt dst := by
        cases dst with
        | none => trivial
        | some d => exact Nat.le_of_ble_eq_true hd
      refine opX_sound hE hc (o := ⟨dst, op, ty, pos, after, guard⟩) hd' t hp hf _ _ ?_
      intro I' ρ' v w' hc'
      rw [← hF] at hc'
      exact execOps_sound hE hk hc'
    have skip : ∀ {σ : St}, dstB nt dst = true → skipOp dst σ (fun σ => execOps P G E nt ops rest σ K) → Conc G nt C I ρ (toF σ) a w →
        wpList P ⟨ops⟩ (Good G nt C fun e σ => match e with | .normal => K σ | _ => False) rest (a.put dst undef) w := by
      intro σ hd h hc
      obtain ⟨σ', hk, hc'⟩ := skipOp_inv hc hd h
      exact execOps_sound hE hk hc'
    unfold wpList
    cases guard with
    | none =>
      simp only [Region.wanted, if_true]
      simp only [execOps] at h
      split at h
      · exact .inl (doit ‹_› h hc)
      · exact h.out.elim
    | some g =>
      obtain ⟨j, want⟩ := g
      simp only [execOps] at h
      split at h
      · rename_i d _ _ _ _ _ hj hd
        split at h
        · rename_i b hb
          have hs : (toF σ).s d = some (.d (.bool b)) := by rw [toF_s]; exact hb
          obtain ⟨v, hv, hr⟩ := hc.slots d _ hs
          have hv' := rep_bool hr
          subst hv'
          have hy : yielded ⟨ops⟩ a.tmps j = some b := by
            rw [nthOp_eq] at hj
            simp only [yielded, List.getElem?_toArray, hj, Option.bind_some, hv]
          simp only [Region.wanted, hy]
          have lit : ∀ {K' : St → Prop}, litK d b σ K' → ∃ σ', K' σ' ∧ Conc G nt C I ρ (toF σ') a w := by
            intro K' h
            obtain ⟨σ', h1, h2⟩ := litK_inv h hs
            exact ⟨σ', h1, by rw [h2]; exact hc⟩
          cases b <;> cases want <;> simp only [bc] at h <;> obtain ⟨σ', h1, h2⟩ := lit h
          · simp only [beq_self_eq_true, if_true]
            exact .inl (doit hd h1 h2)
          · simp only [reduceCtorEq, beq_iff_eq, Option.some.injEq, Bool.false_eq_true, if_false]
            exact skip hd h1 h2
          · simp only [reduceCtorEq, beq_iff_eq, Option.some.injEq, Bool.true_eq_false, if_false]
            exact skip hd h1 h2
          · simp only [beq_self_eq_true, if_true]
            exact .inl (doit hd h1 h2)
        · rename_i hb
          have hs : (toF σ).s d = some (.tup []) := by rw [toF_s]; exact hb
          obtain ⟨v, hv, hr⟩ := hc.slots d _ hs
          rw [nthOp_eq] at hj
          have hy := yielded_undef hj rfl hv hr
          have hne : ((none : Option Bool) == some want) = false := rfl
          simp only [Region.wanted, hy, hne, Bool.false_eq_true, if_false]
          exact skip hd h hc
        · exact h.out.elim
      · exact h.out.elim
theorem opLeads (hE : EOk P E) {ops : List Oper} : OpLeads P G nt E ops := by
  intro C I ρ F a w i o e rs ro Q K ho hd hs hc hK
  unfold wpOp
  have ho' : (Array.mk ops)[i]? = some o := by simpa using ho
  simp only [ho']
  have run : ∀ {u : Upd} {rs ro : List Nat}, ToR P G F (opX P G E o.dst o.op) u rs ro → Fresh F u → e = effOf u → o.wp P a w K Q := by
    intro u rs ro t hf he
    obtain ⟨t1, hp⟩ := t.to
    refine opX_sound hE hc hd t1 (F1 := F) (by rw [hp]; exact .nil _) hf _ _ ?_
    intro I' ρ' v w' hc'
    rw [finF_app, ← he] at hc'
    exact hK I' ρ' _ w' hc'
  cases hs with
  | run hg t hf =>
    simp only [Region.wanted, hg, if_true]
    exact .inl (run t hf rfl)
  | @runG u rs ro j want oj d hg hj hdj hb t hf =>
    obtain ⟨v, hv, hr⟩ := hc.slots d _ hb
    have hv' := rep_bool hr
    subst hv'
    have hj' : (Array.mk ops)[j]? = some oj := by simpa using hj
    have hy : yielded ⟨ops⟩ a.tmps j = some want := by simp only [yielded, hj', Option.bind_some, hdj, hv]
    simp only [Region.wanted, hg, hy, beq_self_eq_true, if_true]
    exact .inl (run t hf rfl)
  | @skip j want oj d hg hj hdj hb =>
    have hj' : (Array.mk ops)[j]? = some oj := by simpa using hj
    have hw : (yielded ⟨ops⟩ a.tmps j == some want) = false := by
      rcases hb with hb | hb
      · obtain ⟨v, hv, hr⟩ := hc.slots d _ hb
        have hv' := rep_bool hr
        subst hv'
        have hy : yielded ⟨ops⟩ a.tmps j = some (!want) := by simp only [yielded, hj', Option.bind_some, hdj, hv]
        rw [hy]
        cases want <;> rfl
      · obtain ⟨v, hv, hr⟩ := hc.slots d _ hb
        rw [yielded_undef hj hdj hv hr]
        rfl
    simp only [Region.wanted, hg, hw, Bool.false_eq_true, if_false]
    refine hK I ρ _ w ?_
    cases hdst : o.dst with
    | none =>
      have : F.app (effSkip none) = F := by cases F; simp [Fs.app, effSkip]
      rw [this]; exact hc
    | some d' =>
      rw [hdst] at hd
      have e : F.app (effSkip (some d')) = putS F (some d') (.tup []) := by cases F; simp [Fs.app, effSkip, putS]
      rw [e]
      exact hc.skip hd
theorem keysO_mem {n : Nat} : ∀ {l : List (Nat × Blk)}, lastB l n ≠ none → n ∈ keysO l
  | [], h => by simp [lastB] at h
  | (m, b) :: l, h => by
    simp only [lastB] at h
    cases hl : lastB l n with
    | some c => simp [keysO, keysO_mem (l := l) (n := n) (by rw [hl]; simp)]
    | none =>
      rw [hl] at h
      simp only [ne_eq, ite_eq_right_iff, reduceCtorEq, imp_false, Decidable.not_not] at h
      simp [keysO, h]
theorem skipOp_toF {dst : Option Nat} {σ : St} {K : St → Prop} (h : skipOp dst σ K) : ∃ σ', K σ' ∧ toF σ' = (toF σ).app (effSkip dst) := by
  obtain ⟨s, o, nm, n0⟩ := σ
  cases dst with
  | none => exact ⟨_, h, by simp [Fs.app, effSkip]⟩
  | some d =>
    obtain ⟨r, h1, h2⟩ := delS_inv (K := fun _ => True) h
    refine ⟨_, h1, ?_⟩
    simp only [toF, Fs.app, effSkip, Option.map_some]
    have : look ((d, SV.tup []) :: r) = fun k => if k = d then some (.tup []) else look s k := by
      funext m
      rw [look_cons, h2]
      by_cases hm : d = m
      · subst hm; simp
      · simp [hm, Ne.symm hm]
    rw [this]
    simp
theorem drawOps_inv {ops : List Oper} {K : List Foot → St → Prop} : ∀ {rest : List Oper} {i : Nat} {σ : St} {acc : List Foot}, drawOps P G E nt ops i rest σ acc K → (∀ k, rest[k]? = ops[i + k]?) →
    ∃ xs feet σ', K (feet ++ acc) σ' ∧ All2 Covers feet xs.reverse ∧ Chain P G E ops (toF σ) xs (toF σ') ∧ (∀ x ∈ xs, ops[x.i]? = some x.o ∧ dstOk nt x.o.dst) ∧ xs.map (·.i) = List.range' i rest.length
  | [], i, σ, acc, h, _ => ⟨[], [], σ, h, .nil, rfl, by simp, by simp⟩
  | ⟨dst, op, ty, pos, after, guard⟩ :: rest, i, σ, acc, h, hr => by
    have ho : ops[i]? = some ⟨dst, op, ty, pos, after, guard⟩ := by simpa using (hr 0).symm
    have hr' : ∀ k, rest[k]? = ops[i + 1 + k]? := fun k => by
      have := hr (k + 1)
      simp only [List.getElem?_cons_succ] at this
      rw [this]
      congr 1; omega
    have dok : dstB nt dst = true → dstOk nt dst := by
      intro hd
      cases dst with
      | none => trivial
      | some d => exact Nat.le_of_ble_eq_true hd
    have all2_snoc : ∀ {fs : List Foot} {ys : List Item'} {f : Foot} {y : Item'}, All2 Covers fs ys → Covers f y → All2 Covers (fs ++ [f]) (ys ++ [y]) := by
      intro fs ys f y h hf
      induction h with
      | nil => exact .cons hf .nil
      | cons h _ ih => exact .cons h ih
    have step : ∀ {σ1 : St} {f : Foot} {e : Eff} {rs ro : List Nat}, dstB nt dst = true → Covers f ⟨i, ⟨dst, op, ty, pos, after, guard⟩, e, rs, ro⟩ → StepE P G E ops ⟨dst, op, ty, pos, after, guard⟩ (toF σ) e rs ro →
        toF σ1 = (toF σ).app e → drawOps P G E nt ops (i + 1) rest σ1 (f :: acc) K →
        ∃ xs feet σ', K (feet ++ acc) σ' ∧ All2 Covers feet xs.reverse ∧ Chain P G E ops (toF σ) xs (toF σ') ∧ (∀ x ∈ xs, ops[x.i]? = some x.o ∧ dstOk nt x.o.dst) ∧ xs.map (·.i) = List.range' i (rest.length + 1) := by
      intro σ1 f e rs ro hd hcov hstep hF h
      obtain ⟨xs, feet, σ', h1, h2, h3, h4, h5⟩ := drawOps_inv h hr'
      refine ⟨⟨i, ⟨dst, op, ty, pos, after, guard⟩, e, rs, ro⟩ :: xs, feet ++ [f], σ', by simpa using h1, ?_, ⟨hstep, by rw [← hF]; exact h3⟩, ?_, ?_⟩
      · rw [List.reverse_cons]
        exact all2_snoc h2 hcov
      · intro x hx
        rcases List.mem_cons.1 hx with rfl | hx
        · exact ⟨ho, dok hd⟩
        · exact h4 x hx
      · simp only [List.map_cons, h5, List.range'_succ]
    have covU : ∀ {u : Upd} {a b rs ro : List Nat} {o : Oper}, (∀ k ∈ a, k ∈ rs) → (∀ n ∈ b, n ∈ ro) → Covers ⟨i, rs, ro, wsU u, keysU u⟩ ⟨i, o, effOf u, a, b⟩ := by
      intro u a b rs ro o ha hb
      obtain ⟨d', v, own, del, new, pub⟩ := u
      refine ⟨rfl, ha, hb, ?_, ?_⟩
      · rintro k ⟨v', hv⟩
        simp only [effOf, Option.map_eq_some_iff, Prod.mk.injEq] at hv
        obtain ⟨d, hd, rfl, _⟩ := hv
        subst hd; simp [wsU]
      · rintro n (hn | hn)
        · simp only [keysU, List.mem_append]
          simp only [effOf] at hn
          cases hl : lastB own n with
          | some c => exact .inl (keysO_mem (by rw [hl]; simp))
          | none =>
            rw [hl] at hn
            simp only [ne_eq, ite_eq_right_iff, reduceCtorEq, imp_false, Decidable.not_not] at hn
            exact .inr (.inl hn)
        · simp only [keysU, List.mem_append]
          exact .inr (.inr hn)
    have skipC : ∀ {d : Nat} {o : Oper}, Covers ⟨i, [d], [], optL dst, []⟩ ⟨i, o, effSkip dst, [d], []⟩ := by
      intro d o
      refine ⟨rfl, fun _ h => h, fun _ h => h, ?_, ?_⟩
      · rintro k ⟨v', hv⟩
        simp only [effSkip, Option.map_eq_some_iff, Prod.mk.injEq] at hv
        obtain ⟨d, hd, rfl, _⟩ := hv
        rw [hd]; simp [optL]
      · rintro n (hn | hn)
        · exact (hn rfl).elim
        · simp [effSkip] at hn
    have doit : ∀ {σ1 : St} {pre : List Nat}, dstB nt dst = true → toF σ1 = toF σ →
        (opX P G E dst op).runR P G σ1 pre [] (fun u rs ro => applyK u σ1 fun σ => drawOps P G E nt ops (i + 1) rest σ (⟨i, rs, ro, wsU u, keysU u⟩ :: acc) K) →
        (∀ {u : Upd} {rs ro : List Nat}, ToR P G (toF σ) (opX P G E dst op) u rs ro → Fresh (toF σ) u → StepE P G E ops ⟨dst, op, ty, pos, after, guard⟩ (toF σ) (effOf u) (pre ++ rs) ro) →
        ∃ xs feet σ', K (feet ++ acc) σ' ∧ All2 Covers feet xs.reverse ∧ Chain P G E ops (toF σ) xs (toF σ') ∧ (∀ x ∈ xs, ops[x.i]? = some x.o ∧ dstOk nt x.o.dst) ∧ xs.map (·.i) = List.range' i (rest.length + 1) := by
      intro σ1 pre hd hF h hst
      obtain ⟨u, rs', ro', x, y, h1, t, h2, h3, h4, h5⟩ := runR_inv h
      rw [hF] at t
      obtain ⟨σ2, F1, k1, k2, k3, k4⟩ := applyK_inv h1
      have hpub := t.to.2
      rw [hpub] at k2
      cases k2
      rw [hF] at k3 k4
      rw [finF_app] at k3
      refine step hd (covU (u := u) (a := pre ++ x) (b := y) (fun k hk => ?_) h3) (hst t k4) k3 k1
      rcases List.mem_append.1 hk with hk | hk
      · exact h4 k hk
      · exact h2 k hk
    have skip : ∀ {σ1 : St} {d : Nat}, dstB nt dst = true → toF σ1 = toF σ → skipOp dst σ1 (fun σ => drawOps P G E nt ops (i + 1) rest σ (⟨i, [d], [], optL dst, []⟩ :: acc) K) →
        StepE P G E ops ⟨dst, op, ty, pos, after, guard⟩ (toF σ) (effSkip dst) [d] [] →
        ∃ xs feet σ', K (feet ++ acc) σ' ∧ All2 Covers feet xs.reverse ∧ Chain P G E ops (toF σ) xs (toF σ') ∧ (∀ x ∈ xs, ops[x.i]? = some x.o ∧ dstOk nt x.o.dst) ∧ xs.map (·.i) = List.range' i (rest.length + 1) := by
      intro σ1 d hd hF h hst
      obtain ⟨σ2, h1, h2⟩ := skipOp_toF h
      rw [hF] at h2
      exact step hd skipC hst h2 h1
    cases guard with
    | none =>
      simp only [drawOps] at h
      split at h
      · exact doit (pre := []) ‹_› rfl h (fun t hf => .run rfl t hf)
      · exact h.out.elim
    | some g =>
      obtain ⟨j, want⟩ := g
      simp only [drawOps] at h
      split at h
      · rename_i d _ _ _ _ _ hj hd
        split at h
        · rename_i b hb
          have hs : (toF σ).s d = some (.d (.bool b)) := by rw [toF_s]; exact hb
          rw [nthOp_eq] at hj
          cases b <;> cases want <;> simp only [bc] at h <;> obtain ⟨σ', h1, h2⟩ := litK_inv h hs
          · exact doit (pre := [d]) hd h2 h1 (fun t hf => .runG rfl hj rfl hs t hf)
          · exact skip hd h2 h1 (.skip rfl hj rfl (.inl hs))
          · exact skip hd h2 h1 (.skip rfl hj rfl (.inl hs))
          · exact doit (pre := [d]) hd h2 h1 (fun t hf => .runG rfl hj rfl hs t hf)
        · rename_i hb
          have hs : (toF σ).s d = some (.tup []) := by rw [toF_s]; exact hb
          rw [nthOp_eq] at hj
          exact skip hd rfl h (.skip rfl hj rfl (.inr hs))
        · exact h.out.elim
      · exact h.out.elim
theorem exec_sound (hE : EOk P E) : ∀ {c : Code} {σ : St} {K : Ex → St → Prop} {I : Nat → Prop} {ρ : Nat → Loc} {a : Act} {w : World}, exec P G E nt c σ K → Conc G nt C I ρ (toF σ) a w → c.wp P (Good G nt C K) a w := by
  intro c
  induction c with
  | scope c ih =>
    intro σ K I ρ a w h hc
    refine wp_scope_straight (wp_mono (ih h hc) ?_)
    intro e a w hg
    cases e with
    | goto l => exact hg.elim
    | _ => exact hg
  | label l => intro σ K I ρ a w h hc; exact wp_label ⟨σ, I, ρ, h, hc⟩
  | skip => intro σ K I ρ a w h hc; exact wp_skip ⟨σ, I, ρ, h, hc⟩
  | region id ops draw =>
    intro σ K I ρ a w h hc
    obtain ⟨ops⟩ := ops
    have fin : ∀ e a w, Good G nt C (fun e σ => match e with | .normal => K .normal σ | _ => False) e a w → Good G nt C K e a w := by
      intro e a w hg
      cases e with
      | normal => exact hg
      | exit id => obtain ⟨_, _, _, h, _⟩ := hg; exact h.elim
      | ret => obtain ⟨_, _, _, h, _⟩ := hg; exact h.elim
      | _ => exact hg.elim
    cases draw with
    | false => exact wp_mono (wp_region_list (execOps_sound hE h hc)) fin
    | true =>
      obtain ⟨hord, h⟩ := h
      · obtain ⟨xs, feet, σ', h1, h2, h3, h4, h5⟩ := drawOps_inv h (fun k => by simp)
        obtain ⟨hord2, h1⟩ := h1
        · rw [List.append_nil] at hord2
          have hpairs := orderB_inv hord2 h2
          rw [List.reverse_reverse] at hpairs
          have hat : ∀ (i : Nat) (o : Oper), ops[i]? = some o → ∃ x ∈ xs, x.i = i := by
            intro i o ho
            have hl := (List.getElem?_eq_some_iff.1 ho).1
            have : i ∈ xs.map (·.i) := by rw [h5]; simp; exact hl
            obtain ⟨x, hx, hxi⟩ := List.mem_map.1 this
            exact ⟨x, hx, hxi⟩
          have hlen : xs.length = ops.length := by
            have := congrArg List.length h5
            simpa using this
          refine wp_region_any hE.mixed (wpAny_chain (opLeads hE) ?_ ?_ (C := C) (Q := Good G nt C K) (F' := toF σ') (fun I ρ a w hc => ⟨σ', I, ρ, h1, hc⟩) ops.length xs _ (toF σ) I ρ a _ (by omega) h3 hpairs (fun x hx => (h4 x hx).1) ?_ ?_ ?_ ?_ hc.drew)
          · intro i o ho
            obtain ⟨x, hx, hxi⟩ := hat i o ho
            have := h4 x hx
            rw [hxi, ho] at this
            obtain ⟨e1, e2⟩ := this
            cases e1
            exact e2
          · intro i o ho d hdd
            have := ordB_inv hord i o ho d hdd
            omega
          · rw [h5]; exact List.nodup_range'
          · simp
          · intro i
            constructor
            · intro hf
              have hi : i < ops.length := by
                refine Classical.byContradiction fun hge => ?_
                simp [Array.getD_eq_getD_getElem?, Array.getElem?_replicate, hge] at hf
              obtain ⟨x, hx, hxi⟩ := hat i _ (List.getElem?_eq_getElem hi)
              exact ⟨x, hx, hxi⟩
            · rintro ⟨x, hx, rfl⟩
              have := (List.getElem?_eq_some_iff.1 (h4 x hx).1).1
              simp [Array.getD_eq_getD_getElem?, Array.getElem?_replicate, this]
          · intro j hj
            exfalso
            by_cases hl : j < ops.length <;> simp [Array.getD_eq_getD_getElem?, Array.getElem?_replicate, hl] at hj
  | seq x y ihx ihy =>
    intro σ K I ρ a w h hc
    refine wp_seq (wp_mono (ihx h hc) ?_)
    intro e a w hg
    cases e with
    | normal =>
      obtain ⟨σ', I', ρ', hk, hc'⟩ := hg
      exact ihy hk hc'
    | exit id => exact hg
    | ret => exact hg
    | _ => exact hg.elim
  | cond c x y ihx ihy =>
    intro σ K I ρ a w h hc
    cases c with
    | tmp t =>
      simp only [exec] at h
      split at h
      · rename_i b hb
        have hs : (toF σ).s t = some (.d (.bool b)) := by rw [toF_s]; exact hb
        obtain ⟨v, hv, hr⟩ := hc.slots t _ hs
        have hv' := rep_bool hr
        subst hv'
        have he : a.eval (.tmp t) = .bool b := by simp [Act.eval, hv]
        cases b with
        | true => exact wp_cond_true he (wp_mono (ihx h hc) (fun _ _ _ => good_wk))
        | false => exact wp_cond_false he (wp_mono (ihy h hc) (fun _ _ _ => good_wk))
      · exact h.out.elim
    | _ => exact h.out.elim
  | block id c ih =>
    intro σ K I ρ a w h hc
    refine wp_block (wp_mono (ih h hc) ?_)
    intro e a w hg
    cases e with
    | normal => exact hg
    | exit i =>
      obtain ⟨σ', I', ρ', hk, hc'⟩ := hg
      simp only [Exit.inBlock]
      simp only at hk
      split at hk
      · rename_i e
        have e := (beq_iff _ _).1 e
        rw [if_pos e]
        exact ⟨σ', I', ρ', hk, hc'⟩
      · rename_i e
        rw [if_neg (fun e' => by rw [(beq_iff _ _).2 e'] at e; cases e)]
        exact ⟨σ', I', ρ', hk, hc'⟩
    | ret => exact hg
    | _ => exact hg.elim
  | loop c ih =>
    intro σ K I ρ a w h hc
    obtain ⟨σ0, n, he, hk⟩ := h
    obtain ⟨I', ρ', hc'⟩ := he.out hc
    refine wp_loop_ghost (X := Nat) (J := fun n a w => ∃ σ I ρ, loopN (fun σ K => exec P G E nt c σ K) n σ K ∧ Conc G nt C I ρ (toF σ) a w) id ?_ n a w ⟨σ0, I', ρ', hk, hc'⟩
    rintro n a w ⟨σ, I, ρ, h, hc⟩
    cases n with
    | zero => exact h.elim
    | succ n =>
      refine wp_mono (ih h hc) ?_
      intro e a w hg
      cases e with
      | normal =>
        obtain ⟨σ', I', ρ', ⟨σ'', h1, h2⟩, hc'⟩ := hg
        obtain ⟨I'', ρ'', hc''⟩ := h1.out hc'
        exact ⟨n, ⟨σ'', I'', ρ'', h2, hc''⟩, Nat.lt_succ_self n⟩
      | exit id => exact hg
      | ret => exact hg
      | _ => exact hg.elim
  | exit id => intro σ K I ρ a w h hc; exact wp_exit ⟨σ, I, ρ, h, hc⟩
  | ret => intro σ K I ρ a w h hc; exact wp_ret ⟨σ, I, ρ, h, hc⟩
  | _ => intro σ K I ρ a w h hc; exact h.out.elim
end Go.Sx
