/- Part of a symbolic executor over the model, proved sound, with plain laws: SxDraw. Written for these claims. -/
import Derived.Test.YtigmgeglnbjfeaaDoorSxRun
import Derived.Orders
namespace Go.Sx
open Go
set_option linter.unusedVariables false
set_option linter.unusedSimpArgs false

variable {P : Program} {G : Nat → Option (Nat × (Nat → D))} {nt : Nat} {C : Ctx} {I : Nat → Prop} {ρ : Nat → Loc} {F : Fs} {a : Act} {w : World} {E : List Nat} {T : Nat}

/-! ### runs with what they read -/
inductive ToR (P : Program) (G : Nat → Option (Nat × (Nat → D))) (F : Fs) : M Upd → Upd → List Nat → List Nat → Prop where
  | ret (u : Upd) (h : u.pub = []) : ToR P G F (.ret u) u [] []
  | slot {k : Nat} {f : SV → M Upd} {v : SV} {u : Upd} {rs ro : List Nat} (h : F.s k = some v) (t : ToR P G F (f v) u rs ro) : ToR P G F (.slot k f) u (k :: rs) ro
  | own {n : Nat} {f : Blk → M Upd} {b : Blk} {u : Upd} {rs ro : List Nat} (h : F.o n = some b) (t : ToR P G F (f b) u rs ro) : ToR P G F (.own n f) u rs (n :: ro)
  | need {p : Prop} {m : M Upd} {u : Upd} {rs ro : List Nat} (h : p) (t : ToR P G F m u rs ro) : ToR P G F (.need p m) u rs ro
  | split1 {b : Bool} {x y : M Upd} {u : Upd} {rs ro : List Nat} (h : b = true) (t : ToR P G F x u rs ro) : ToR P G F (.split b x y) u rs ro
  | split2 {b : Bool} {x y : M Upd} {u : Upd} {rs ro : List Nat} (h : b = false) (t : ToR P G F y u rs ro) : ToR P G F (.split b x y) u rs ro
  | call {dst : Option Nat} {f : FuncId} {args : List SV} {names bor : List Nat} {pre : List (Nat × Blk)} {res : SV} {post : List (Nat × Blk)}
      (hp : PreOk F names pre) (h : Spec P G f args pre res post) (hb : bor = [] ∨ (flatS res = true ∧ post = [])) :
      ToR P G F (.call dst f args names bor []) { dst, v := res, own := post, del := [], new := newP pre post, pub := [] } [] names

theorem ToR.to {m : M Upd} {u : Upd} {rs ro : List Nat} (h : ToR P G F m u rs ro) : To P G F m u ∧ u.pub = [] := by
  induction h with
  | ret u h => exact ⟨.ret u, h⟩
  | slot h _ ih => exact ⟨.slot h ih.1, ih.2⟩
  | own h _ ih => exact ⟨.own h ih.1, ih.2⟩
  | need h _ ih => exact ⟨.need h ih.1, ih.2⟩
  | split1 h _ ih => exact ⟨.split1 h ih.1, ih.2⟩
  | split2 h _ ih => exact ⟨.split2 h ih.1, ih.2⟩
  | call hp h hb => exact ⟨.call (.nil _) hp h hb, rfl⟩

theorem ToR.local {F' : Fs} {m : M Upd} {u : Upd} {rs ro : List Nat} (h : ToR P G F m u rs ro) (hs : ∀ k ∈ rs, F'.s k = F.s k) (ho : ∀ n ∈ ro, F'.o n = F.o n) : ToR P G F' m u rs ro := by
  induction h with
  | ret u h => exact .ret u h
  | slot h _ ih => exact .slot (by rw [hs _ (by simp)]; exact h) (ih (fun k hk => hs k (by simp [hk])) ho)
  | own h _ ih => exact .own (by rw [ho _ (by simp)]; exact h) (ih hs (fun n hn => ho n (by simp [hn])))
  | need h _ ih => exact .need h (ih hs ho)
  | split1 h _ ih => exact .split1 h (ih hs ho)
  | split2 h _ ih => exact .split2 h (ih hs ho)
  | call hp h hb =>
    refine .call ⟨hp.1, fun n b hn => ?_⟩ h hb
    have hmem : n ∈ (_ : List Nat) := hp.1 ▸ List.mem_map.2 ⟨_, hn, rfl⟩
    rw [ho n hmem]
    exact hp.2 n b hn

/-! ### effects -/
structure Eff where
  ds : Option (Nat × Option SV)
  eo : Nat → Option (Option Blk)
  new : List Nat

def Fs.app (F : Fs) (e : Eff) : Fs :=
  ⟨match e.ds with
    | none => F.s
    | some (d, v) => fun k => if k = d then v else F.s k,
   fun m => (e.eo m).getD (F.o m), fun m => m ∈ e.new ∨ F.nm m, F.n0⟩

def lastB : List (Nat × Blk) → Nat → Option Blk
  | [], _ => none
  | (n, b) :: l, m => match lastB l m with
    | some c => some c
    | none => if m = n then some b else none
def effOf (u : Upd) : Eff :=
  ⟨u.dst.map fun d => (d, some u.v), fun m => match lastB u.own m with
    | some b => some (some b)
    | none => if m ∈ u.del then some none else none, u.new⟩
def effSkip (dst : Option Nat) : Eff := ⟨dst.map fun d => (d, some (.tup [])), fun _ => none, []⟩

theorem delsF_fs : ∀ {ns : List Nat} {F : Fs}, (delsF F ns).s = F.s ∧ (delsF F ns).nm = F.nm ∧ (delsF F ns).n0 = F.n0 ∧ ∀ m, (delsF F ns).o m = if m ∈ ns then none else F.o m
  | [], F => ⟨rfl, rfl, rfl, by simp [delsF]⟩
  | n :: ns, F => by
    obtain ⟨h1, h2, h3, h4⟩ := delsF_fs (ns := ns) (F := delF F n)
    refine ⟨h1, h2, h3, fun m => ?_⟩
    simp only [delsF]
    rw [h4]
    by_cases e : m = n <;> by_cases e' : m ∈ ns <;> simp [delF, e, e']
theorem setsF_fs : ∀ {bs : List (Nat × Blk)} {F : Fs}, (setsF F bs).s = F.s ∧ (setsF F bs).nm = F.nm ∧ (setsF F bs).n0 = F.n0 ∧ ∀ m, (setsF F bs).o m = ((lastB bs m).map some).getD (F.o m)
  | [], F => ⟨rfl, rfl, rfl, by simp [setsF, lastB]⟩
  | (n, b) :: bs, F => by
    obtain ⟨h1, h2, h3, h4⟩ := setsF_fs (bs := bs) (F := setO F n b)
    refine ⟨h1, h2, h3, fun m => ?_⟩
    simp only [setsF]
    rw [h4]
    cases hl : lastB bs m with
    | some c => simp [lastB, hl]
    | none =>
      by_cases e : m = n
      · subst e; simp [lastB, hl, setO]
      · simp [lastB, hl, setO, e]
theorem nmF_fs : ∀ {ns : List Nat} {F : Fs}, (nmF F ns).s = F.s ∧ (nmF F ns).o = F.o ∧ (nmF F ns).n0 = F.n0 ∧ ∀ m, (nmF F ns).nm m ↔ (m ∈ ns ∨ F.nm m)
  | [], F => ⟨rfl, rfl, rfl, by simp [nmF]⟩
  | n :: ns, F => by
    obtain ⟨h1, h2, h3, h4⟩ := nmF_fs (ns := ns) (F := { F with nm := fun m => m = n ∨ F.nm m })
    refine ⟨h1, h2, h3, fun m => ?_⟩
    simp only [nmF]
    rw [h4]
    simp only [List.mem_cons]
    constructor
    · rintro (h | h | h)
      · exact .inl (.inr h)
      · exact .inl (.inl h)
      · exact .inr h
    · rintro ((h | h) | h)
      · exact .inr (.inl h)
      · exact .inl h
      · exact .inr (.inr h)

theorem finF_app {u : Upd} : finF F u = F.app (effOf u) := by
  have hs := setsF_fs (bs := u.own) (F := delsF F u.del)
  have hd := delsF_fs (ns := u.del) (F := F)
  have hn := nmF_fs (ns := u.new) (F := setsF (delsF F u.del) u.own)
  have key : nmF (setsF (delsF F u.del) u.own) u.new = ⟨F.s, fun m => ((effOf u).eo m).getD (F.o m), fun m => m ∈ u.new ∨ F.nm m, F.n0⟩ := by
    cases h : nmF (setsF (delsF F u.del) u.own) u.new with
    | mk s o nm n0 =>
      rw [h] at hn
      obtain ⟨h1, h2, h3, h4⟩ := hn
      simp only at h1 h2 h3 h4
      rw [h1, hs.1, hd.1, h2, h3, hs.2.2.1, hd.2.2.1]
      congr 1
      · funext m
        rw [hs.2.2.2, hd.2.2.2]
        simp only [effOf]
        cases lastB u.own m with
        | some b => rfl
        | none => by_cases e : m ∈ u.del <;> simp [e]
      · funext m
        rw [propext (h4 m), hs.2.1, hd.2.1]
  simp only [finF, key]
  cases hdst : u.dst with
  | none => simp [putS, Fs.app, effOf, hdst]
  | some d => simp [putS, Fs.app, effOf, hdst]

/-! ### one operation of a region -/
inductive StepE (P : Program) (G : Nat → Option (Nat × (Nat → D))) (E : List Nat) (ops : List Oper) (o : Oper) (F : Fs) : Eff → List Nat → List Nat → Prop where
  | run {u : Upd} {rs ro : List Nat} (hg : o.guard = none) (t : ToR P G F (opM P G E o.dst o.op) u rs ro) (hf : Fresh F u) : StepE P G E ops o F (effOf u) rs ro
  | runG {u : Upd} {rs ro : List Nat} {j : Nat} {want : Bool} {oj : Oper} {d : Nat} (hg : o.guard = some (j, want)) (hj : ops[j]? = some oj) (hd : oj.dst = some d) (hb : F.s d = some (.d (.bool want)))
      (t : ToR P G F (opM P G E o.dst o.op) u rs ro) (hf : Fresh F u) : StepE P G E ops o F (effOf u) (d :: rs) ro
  | skip {j : Nat} {want : Bool} {oj : Oper} {d : Nat} (hg : o.guard = some (j, want)) (hj : ops[j]? = some oj) (hd : oj.dst = some d) (hb : F.s d = some (.d (.bool (!want))) ∨ F.s d = some (.tup [])) :
      StepE P G E ops o F (effSkip o.dst) [d] []

/-- what an effect writes -/
def Eff.ws (e : Eff) (k : Nat) : Prop := ∃ v, e.ds = some (k, v)
def Eff.wo (e : Eff) (n : Nat) : Prop := e.eo n ≠ none ∨ n ∈ e.new

theorem app_s {e : Eff} {k : Nat} (h : ¬ e.ws k) : (F.app e).s k = F.s k := by
  unfold Fs.app
  cases hd : e.ds with
  | none => rfl
  | some x =>
    obtain ⟨d, v⟩ := x
    simp only
    rw [if_neg]
    rintro rfl
    exact h ⟨v, hd⟩
theorem app_o {e : Eff} {n : Nat} (h : ¬ e.wo n) : (F.app e).o n = F.o n := by
  unfold Fs.app
  have : e.eo n = none := Classical.byContradiction fun h' => h (.inl h')
  simp [this]
theorem app_nm {e : Eff} {n : Nat} (h : ¬ e.wo n) : (F.app e).nm n ↔ F.nm n := by
  unfold Fs.app
  have : n ∉ e.new := fun h' => h (.inr h')
  simp [this]

theorem StepE.local {ops : List Oper} {o : Oper} {F' : Fs} {e : Eff} {rs ro : List Nat} (h : StepE P G E ops o F e rs ro) (hs : ∀ k ∈ rs, F'.s k = F.s k) (ho : ∀ n ∈ ro, F'.o n = F.o n)
    (hn : ∀ n, e.wo n → (F'.nm n → F.nm n)) (h0 : F'.n0 = F.n0) : StepE P G E ops o F' e rs ro := by
  cases h with
  | run hg t hf => exact .run hg (t.local hs ho) ⟨fun n hm h' => hf.new n hm (hn n (.inr hm) h'), by rw [h0]; exact hf.del⟩
  | runG hg hj hd hb t hf => exact .runG hg hj hd (by rw [hs _ (by simp)]; exact hb) (t.local (fun k hk => hs k (by simp [hk])) ho) ⟨fun n hm h' => hf.new n hm (hn n (.inr hm) h'), by rw [h0]; exact hf.del⟩
  | skip hg hj hd hb => exact .skip hg hj hd (by rw [hs _ (by simp)]; exact hb)

/-- neither reads what the other writes, and they write apart -/
structure Indep (e : Eff) (rs ro : List Nat) (e' : Eff) (rs' ro' : List Nat) : Prop where
  s1 : ∀ k ∈ rs', ¬ e.ws k
  o1 : ∀ n ∈ ro', ¬ e.wo n
  s2 : ∀ k ∈ rs, ¬ e'.ws k
  o2 : ∀ n ∈ ro, ¬ e'.wo n
  s3 : ∀ k, e.ws k → ¬ e'.ws k
  o3 : ∀ n, e.wo n → ¬ e'.wo n

theorem app_comm {e e' : Eff} (hs : ∀ k, e.ws k → ¬ e'.ws k) (ho : ∀ n, e.wo n → ¬ e'.wo n) : (F.app e).app e' = (F.app e').app e := by
  have h1 : ((F.app e).app e').s = ((F.app e').app e).s := by
    funext k
    by_cases he : e.ws k
    · have hne := hs k he
      rw [app_s hne]
      obtain ⟨v, hv⟩ := he
      simp [Fs.app, hv]
    · rw [app_s (F := F.app e') he]
      by_cases he' : e'.ws k
      · obtain ⟨v, hv⟩ := he'
        simp [Fs.app, hv]
      · rw [app_s he', app_s he, app_s he']
  have h2 : ((F.app e).app e').o = ((F.app e').app e).o := by
    funext n
    by_cases he : e.wo n
    · rw [app_o (ho n he)]
      have : e'.eo n = none := Classical.byContradiction fun h' => ho n he (.inl h')
      simp [Fs.app, this]
    · rw [app_o (F := F.app e') he]
      have : e.eo n = none := Classical.byContradiction fun h' => he (.inl h')
      simp [Fs.app, this]
  have h3 : ((F.app e).app e').nm = ((F.app e').app e).nm := by
    funext n
    simp only [Fs.app]
    apply propext
    constructor
    · rintro (h | h | h)
      · exact .inr (.inl h)
      · exact .inl h
      · exact .inr (.inr h)
    · rintro (h | h | h)
      · exact .inr (.inl h)
      · exact .inl h
      · exact .inr (.inr h)
  have h4 : ((F.app e).app e').n0 = ((F.app e').app e).n0 := rfl
  cases hA : (F.app e).app e' with
  | mk s o nm n0 =>
    cases hB : (F.app e').app e with
    | mk s' o' nm' n0' =>
      rw [hA, hB] at h1 h2 h3 h4
      simp only at h1 h2 h3 h4
      subst h1; subst h2; subst h3; subst h4; rfl

/-! ### a row of operations, each with its effect -/
structure Item' where
  i : Nat
  o : Oper
  e : Eff
  rs : List Nat
  ro : List Nat

def Chain (P : Program) (G : Nat → Option (Nat × (Nat → D))) (E : List Nat) (ops : List Oper) : Fs → List Item' → Fs → Prop
  | F, [], F' => F = F'
  | F, x :: l, F' => StepE P G E ops x.o F x.e x.rs x.ro ∧ Chain P G E ops (F.app x.e) l F'

def IndepI (x y : Item') : Prop := Indep x.e x.rs x.ro y.e y.rs y.ro

theorem chain_swap {ops : List Oper} {x y : Item'} (h : IndepI x y) (hx : StepE P G E ops x.o F x.e x.rs x.ro) (hy : StepE P G E ops y.o (F.app x.e) y.e y.rs y.ro) :
    StepE P G E ops y.o F y.e y.rs y.ro ∧ StepE P G E ops x.o (F.app y.e) x.e x.rs x.ro ∧ (F.app x.e).app y.e = (F.app y.e).app x.e := by
  refine ⟨?_, ?_, app_comm h.s3 h.o3⟩
  · refine hy.local (fun k hk => (app_s (h.s1 k hk)).symm) (fun n hn => (app_o (h.o1 n hn)).symm) (fun n hn hm => ?_) rfl
    exact .inr hm
  · refine hx.local (fun k hk => app_s (h.s2 k hk)) (fun n hn => app_o (h.o2 n hn)) (fun n hn hm => ?_) rfl
    exact (app_nm (h.o3 n hn)).1 hm

theorem chain_front {ops : List Oper} {y : Item'} {F' : Fs} : ∀ {pre post : List Item'} {F : Fs}, (∀ x ∈ pre, IndepI x y) → Chain P G E ops F (pre ++ y :: post) F' →
    StepE P G E ops y.o F y.e y.rs y.ro ∧ Chain P G E ops (F.app y.e) (pre ++ post) F'
  | [], post, F, _, h => h
  | x :: pre, post, F, hi, h => by
    obtain ⟨hx, h⟩ := h
    obtain ⟨hy, h⟩ := chain_front (pre := pre) (fun z hz => hi z (by simp [hz])) h
    obtain ⟨h1, h2, h3⟩ := chain_swap (hi x (by simp)) hx hy
    exact ⟨h1, h2, by rw [← h3]; exact h⟩

/-! ### any order -/
/-- one operation at a state: it leads to the state with its effect -/
def OpLeads (P : Program) (G : Nat → Option (Nat × (Nat → D))) (nt : Nat) (E : List Nat) (ops : List Oper) : Prop :=
  ∀ (C : Ctx) (I : Nat → Prop) (ρ : Nat → Loc) (F : Fs) (a : Act) (w : World) (i : Nat) (o : Oper) (e : Eff) (rs ro : List Nat) (Q : Exit → Act → World → Prop) (K : Act → World → Prop),
    ops[i]? = some o → dstOk nt o.dst → StepE P G E ops o F e rs ro → Conc G nt C I ρ F a w → (∀ I' ρ' a' w', Conc G nt C I' ρ' (F.app e) a' w' → K a' w') → wpOp P ⟨ops⟩ Q i K a w

/-- the direct edges that bind -/
def dirs (o : Oper) : List Nat := (o.after.toList.filter (Region.binds .any)).map (·.on)

/-- what the remaining row has to satisfy: what is not ordered is independent -/
inductive Dep (ops : List Oper) (x : Nat) : Nat → Prop where
  | one {i : Nat} {o : Oper} (h : ops[i]? = some o) (hd : x ∈ dirs o) : Dep ops x i
  | step {y i : Nat} {o : Oper} (h : ops[i]? = some o) (hd : y ∈ dirs o) (t : Dep ops x y) : Dep ops x i

def PairsOk (ops : List Oper) : List Item' → Prop
  | [] => True
  | x :: l => (∀ y ∈ l, Dep ops x.i y.i ∨ IndepI x y) ∧ PairsOk ops l

theorem PairsOk.sub {ops : List Oper} {y : Item'} : ∀ {pre post : List Item'}, PairsOk ops (pre ++ y :: post) → PairsOk ops (pre ++ post) ∧ ∀ x ∈ pre, Dep ops x.i y.i ∨ IndepI x y
  | [], post, h => ⟨h.2, by simp⟩
  | x :: pre, post, h => by
    obtain ⟨h1, h2⟩ := h
    obtain ⟨h3, h4⟩ := PairsOk.sub (pre := pre) h2
    refine ⟨⟨fun z hz => h1 z ?_, h3⟩, ?_⟩
    · rcases List.mem_append.1 hz with h | h
      · exact List.mem_append.2 (.inl h)
      · exact List.mem_append.2 (.inr (List.mem_cons_of_mem _ h))
    · intro z hz
      simp only [List.mem_cons] at hz
      rcases hz with rfl | hz
      · exact h1 y (by simp)
      · exact h4 z hz

theorem getD_set {listed : Array Bool} {i j : Nat} (d : Bool) (hi : i < listed.size) : (listed.setIfInBounds i true).getD j d = if j = i then true else listed.getD j d := by
  by_cases e : j = i
  · subst e; simp [hi]
  · rw [if_neg e]
    exact getD_set_ne d (fun h => e h.symm)

theorem wpAny_chain {ops : List Oper} (hop : OpLeads P G nt E ops) (hdst : ∀ (i : Nat) (o : Oper), ops[i]? = some o → dstOk nt o.dst) (hord : ∀ (i : Nat) (o : Oper), ops[i]? = some o → ∀ d ∈ dirs o, d < i)
    {Q : Exit → Act → World → Prop} {F' : Fs}
    (hQ : ∀ I ρ a w, Conc G nt C I ρ F' a w → Q .normal a w) : ∀ (fuel : Nat) (l : List Item') (listed : Array Bool) (F : Fs) (I : Nat → Prop) (ρ : Nat → Loc) (a : Act) (w : World),
    l.length ≤ fuel → Chain P G E ops F l F' → PairsOk ops l → (∀ x ∈ l, ops[x.i]? = some x.o) → (l.map (·.i)).Nodup → listed.size = ops.length → (∀ i, listed.getD i true = false ↔ ∃ x ∈ l, x.i = i) →
    (∀ j, listed.getD j false = true → ∀ o, ops[j]? = some o → ∀ d ∈ dirs o, listed.getD d false = true) → Conc G nt C I ρ F a w → wpAny P .any ⟨ops⟩ Q fuel listed a w := by
  intro fuel
  induction fuel with
  | zero =>
    intro l listed F I ρ a w hl hch _ _ _ _ hlist _ hc
    have : l = [] := List.eq_nil_of_length_eq_zero (by omega)
    subst this
    have hF : F = F' := hch
    subst hF
    refine ⟨?_, hQ I ρ a w hc⟩
    apply List.eq_nil_iff_forall_not_mem.2
    intro i hi
    obtain ⟨h1, _⟩ := mem_ready.1 hi
    obtain ⟨x, hx, _⟩ := (hlist i).1 h1
    simp at hx
  | succ fuel ih =>
    intro l listed F I ρ a w hl hch hpairs hops hnd hsz hlist hdown hc
    -- an unlisted operation depends on no other but through unlisted ones
    have hnodep : ∀ x i, Dep ops x i → listed.getD i false = true → listed.getD x false = true := by
      intro x i hd
      induction hd with
      | one h hd => intro hi; exact hdown _ hi _ h _ hd
      | step h hd _ ih => intro hi; exact ih (hdown _ hi _ h _ hd)
    have hboth : ∀ k, listed.getD k true = false → listed.getD k false = true → False := by
      intro k h1 h2
      cases hg : listed[k]? with
      | none => simp [Array.getD_eq_getD_getElem?, hg] at h2
      | some b => simp [Array.getD_eq_getD_getElem?, hg] at h1 h2; rw [h2] at h1; cases h1
    have hdirs : ∀ i, i ∈ Region.ready .any ⟨ops⟩ listed → ∀ o, ops[i]? = some o → ∀ d ∈ dirs o, listed.getD d false = true := by
      intro i hi o ho d hd
      obtain ⟨h1, o', ho', hall⟩ := mem_ready.1 hi
      have ho' : ops[i]? = some o' := by simpa using ho'
      rw [ho] at ho'
      cases ho'
      simp only [dirs, List.mem_map, List.mem_filter] at hd
      obtain ⟨e, ⟨he, hb⟩, rfl⟩ := hd
      exact hall e (by simpa using he) hb
    have hready : ∀ i, i ∈ Region.ready .any ⟨ops⟩ listed → ∃ pre y post, l = pre ++ y :: post ∧ y.i = i ∧ ∀ x ∈ pre, IndepI x y := by
      intro i hi
      obtain ⟨h1, _⟩ := mem_ready.1 hi
      obtain ⟨y, hy, hyi⟩ := (hlist i).1 h1
      obtain ⟨pre, post, rfl⟩ := List.append_of_mem hy
      refine ⟨pre, y, post, rfl, hyi, fun x hx => ?_⟩
      rcases (PairsOk.sub hpairs).2 x hx with hd | hd
      · exfalso
        have hxl : listed.getD x.i true = false := (hlist x.i).2 ⟨x, by simp [hx], rfl⟩
        have hyo : ops[y.i]? = some y.o := hops y (by simp)
        have hx' : listed.getD x.i false = true := by
          cases hd with
          | one h hd => rw [hyo] at h; cases h; exact hdirs i hi _ (by rw [← hyi]; exact hyo) _ hd
          | step h hd t => rw [hyo] at h; cases h; exact hnodep _ _ t (hdirs i hi _ (by rw [← hyi]; exact hyo) _ hd)
        exact hboth _ hxl hx'
      · exact hd
    refine ⟨fun hnil => ?_, fun i hi => ?_⟩
    · -- nothing is ready: nothing is left
      cases l with
      | nil =>
        have hF : F = F' := hch
        subst hF
        exact hQ I ρ a w hc
      | cons x l =>
        exfalso
        have hlive : ∀ i, listed.getD i true = false → False := by
          intro i
          induction i using Nat.strongRecOn with
          | _ i ih2 =>
            intro hi
            obtain ⟨z, hz, hzi⟩ := (hlist i).1 hi
            have hzo : ops[i]? = some z.o := by rw [← hzi]; exact hops z hz
            by_cases hall : ∀ d ∈ dirs z.o, listed.getD d false = true
            · have : i ∈ Region.ready .any ⟨ops⟩ listed := by
                refine mem_ready.2 ⟨hi, z.o, by simpa using hzo, fun e he hb => hall e.on ?_⟩
                simp only [dirs, List.mem_map, List.mem_filter]
                exact ⟨e, ⟨by simpa using he, hb⟩, rfl⟩
              rw [hnil] at this
              cases this
            · have : ∃ d, d ∈ dirs z.o ∧ listed.getD d false ≠ true := Classical.byContradiction fun h => hall (fun d hd => Classical.byContradiction fun h' => h ⟨d, hd, h'⟩)
              obtain ⟨d, hd, hne⟩ := this
              have hlt := hord i z.o hzo d hd
              refine ih2 d hlt ?_
              have hil : i < ops.length := (List.getElem?_eq_some_iff.1 hzo).1
              have hdl : d < listed.size := by omega
              simp [Array.getD_eq_getD_getElem?, hdl] at hne ⊢
              exact hne
        exact hlive x.i ((hlist x.i).2 ⟨x, by simp, rfl⟩)
    · obtain ⟨pre, y, post, rfl, hyi, hind⟩ := hready i hi
      obtain ⟨hstep, hch'⟩ := chain_front hind hch
      have hyo : ops[y.i]? = some y.o := hops y (by simp)
      have hil : i < listed.size := by rw [hsz, ← hyi]; exact (List.getElem?_eq_some_iff.1 hyo).1
      refine hop C I ρ F a w i y.o y.e y.rs y.ro Q _ (by rw [← hyi]; exact hyo) (hdst y.i y.o hyo) hstep hc ?_
      intro I' ρ' a' w' hc'
      have hmem : ∀ x, x ∈ pre ++ post → x ∈ pre ++ y :: post := fun x hx => by
        rcases List.mem_append.1 hx with h | h
        · exact List.mem_append.2 (.inl h)
        · exact List.mem_append.2 (.inr (List.mem_cons_of_mem _ h))
      have hnd' : ((pre ++ post).map (·.i)).Nodup ∧ ∀ x ∈ pre ++ post, x.i ≠ y.i := by
        simp only [List.map_append, List.map_cons] at hnd ⊢
        rw [List.nodup_append] at hnd ⊢
        obtain ⟨n1, n2, n3⟩ := hnd
        rw [List.nodup_cons] at n2
        refine ⟨⟨n1, n2.2, fun a ha b hb => n3 a ha b (List.mem_cons_of_mem _ hb)⟩, ?_⟩
        intro x hx e
        rcases List.mem_append.1 hx with h | h
        · exact n3 x.i (List.mem_map.2 ⟨x, h, rfl⟩) y.i (by simp) e
        · exact n2.1 (by rw [← e]; exact List.mem_map.2 ⟨x, h, rfl⟩)
      refine ih (pre ++ post) _ (F.app y.e) I' ρ' a' w' (by simp at hl ⊢; omega) hch' (PairsOk.sub hpairs).1 (fun x hx => hops x (hmem x hx)) hnd'.1 (by simp [hsz]) ?_ ?_ hc'
      · intro j
        rw [getD_set true hil]
        by_cases e : j = i
        · subst e
          simp only [if_true, Bool.true_eq_false, false_iff]
          rintro ⟨x, hx, hxj⟩
          exact hnd'.2 x hx (hxj.trans hyi.symm)
        · rw [if_neg e, hlist j]
          constructor
          · rintro ⟨x, hx, hxj⟩
            refine ⟨x, ?_, hxj⟩
            rcases List.mem_append.1 hx with h | h
            · exact List.mem_append.2 (.inl h)
            · rcases List.mem_cons.1 h with h | h
              · subst h; exact absurd (hxj.symm.trans hyi) e
              · exact List.mem_append.2 (.inr h)
          · rintro ⟨x, hx, hxj⟩
            exact ⟨x, hmem x hx, hxj⟩
      · intro j hj o ho d hd
        rw [getD_set false hil] at hj ⊢
        split
        · rfl
        · split at hj
          · rename_i e; subst e; exact hdirs j hi o ho d hd
          · exact hdown j hj o ho d hd

/-! ### the run in the order of the text, with what each operation reads and writes -/
structure Foot where
  i : Nat
  rs : List Nat
  ro : List Nat
  ws : List Nat
  wo : List Nat

def M.runR (P : Program) (G : Nat → Option (Nat × (Nat → D))) : M Upd → St → List Nat → List Nat → (Upd → List Nat → List Nat → Prop) → Prop
  | .ret ⟨dst, v, ow, del, new, []⟩, _, rs, ro, K => K ⟨dst, v, ow, del, new, []⟩ rs ro
  | .slot k f, ⟨s, o, nm, n0⟩, rs, ro, K => match look s k with
    | some v => (f v).runR P G ⟨s, o, nm, n0⟩ (k :: rs) ro K
    | none => Stuck "slot"
  | .own n f, ⟨s, o, nm, n0⟩, rs, ro, K => match lookO o n with
    | some v => (f v).runR P G ⟨s, o, nm, n0⟩ rs (n :: ro) K
    | none => Stuck "own"
  | .need p m, σ, rs, ro, K => Need p (m.runR P G σ rs ro K)
  | .split b x y, σ, rs, ro, K => bc b (x.runR P G σ rs ro K) (y.runR P G σ rs ro K)
  | .call dst f args names bor [], ⟨_, o, _, _⟩, rs, ro, K => getPre names o fun pre => CallVC P G f args pre bor fun res post => K ⟨dst, res, post, [], newP pre post, []⟩ rs (names ++ ro)
  | .fail why, _, _, _, _ => Stuck why
  | _, _, _, _, _ => Stuck "own slice into a call while the order is open"

theorem runR_inv {K : Upd → List Nat → List Nat → Prop} : ∀ {m : M Upd} {σ : St} {rs ro : List Nat}, m.runR P G σ rs ro K →
    ∃ u rs' ro' a b, K u rs' ro' ∧ ToR P G (toF σ) m u a b ∧ (∀ k ∈ a, k ∈ rs') ∧ (∀ n ∈ b, n ∈ ro') ∧ (∀ k ∈ rs, k ∈ rs') ∧ (∀ n ∈ ro, n ∈ ro') := by
  intro m
  induction m with
  | ret u =>
    intro ⟨s, o, nm, n0⟩ rs ro h
    obtain ⟨dst, v, own, del, new, pub⟩ := u
    cases pub with
    | nil => exact ⟨_, rs, ro, [], [], h, .ret _ rfl, by simp, by simp, fun _ h => h, fun _ h => h⟩
    | cons _ _ => exact h.out.elim
  | slot k f ih =>
    intro ⟨s, o, nm, n0⟩ rs ro h
    simp only [M.runR] at h
    split at h
    · rename_i v hv
      obtain ⟨u, rs', ro', a, b, h1, t, h2, h3, h4, h5⟩ := ih v h
      refine ⟨u, rs', ro', k :: a, b, h1, .slot hv t, ?_, h3, fun x hx => h4 x (by simp [hx]), h5⟩
      intro x hx
      rcases List.mem_cons.1 hx with rfl | hx
      · exact h4 x (by simp)
      · exact h2 x hx
    · exact h.out.elim
  | own k f ih =>
    intro ⟨s, o, nm, n0⟩ rs ro h
    simp only [M.runR] at h
    split at h
    · rename_i v hv
      obtain ⟨u, rs', ro', a, b, h1, t, h2, h3, h4, h5⟩ := ih v h
      refine ⟨u, rs', ro', a, k :: b, h1, .own hv t, h2, ?_, h4, fun x hx => h5 x (by simp [hx])⟩
      intro x hx
      rcases List.mem_cons.1 hx with rfl | hx
      · exact h5 x (by simp)
      · exact h3 x hx
    · exact h.out.elim
  | need p m ih =>
    intro ⟨s, o, nm, n0⟩ rs ro h
    simp only [M.runR] at h
    obtain ⟨u, rs', ro', a, b, h1, t, r⟩ := ih h.k
    exact ⟨u, rs', ro', a, b, h1, .need h.h t, r⟩
  | split b x y ih1 ih2 =>
    intro ⟨s, o, nm, n0⟩ rs ro h
    simp only [M.runR, bc] at h
    split at h
    · obtain ⟨u, rs', ro', a, b, h1, t, r⟩ := ih1 h
      exact ⟨u, rs', ro', a, b, h1, .split1 rfl t, r⟩
    · obtain ⟨u, rs', ro', a, b, h1, t, r⟩ := ih2 h
      exact ⟨u, rs', ro', a, b, h1, .split2 rfl t, r⟩
  | call dst f args names bor pub =>
    intro ⟨s, o, nm, n0⟩ rs ro h
    cases pub with
    | nil =>
      simp only [M.runR] at h
      obtain ⟨pre, h, h1, h2⟩ := getPre_inv h
      obtain ⟨res, post, hs, hb, h⟩ := h
      exact ⟨_, rs, names ++ ro, [], names, h, .call ⟨h1, fun n b hn => h2 n b hn⟩ hs hb, by simp, fun n hn => by simp [hn], fun _ h => h, fun n hn => by simp [hn]⟩
    | cons _ _ => exact h.out.elim
  | fail why => intro ⟨s, o, nm, n0⟩ rs ro h; exact h.out.elim

def optL : Option Nat → List Nat
  | none => []
  | some d => [d]
def keysO : List (Nat × Blk) → List Nat
  | [] => []
  | (n, _) :: l => n :: keysO l
def wsU : Upd → List Nat
  | ⟨none, _, _, _, _, _⟩ => []
  | ⟨some d, _, _, _, _, _⟩ => [d]
def keysU : Upd → List Nat
  | ⟨_, _, own, del, new, _⟩ => keysO own ++ (del ++ new)

def dstB (nt : Nat) : Option Nat → Bool
  | none => true
  | some d => Nat.blt d nt
def skipOp : Option Nat → St → (St → Prop) → Prop
  | some d, ⟨s, o, nm, n0⟩, K => delS s d fun s => K ⟨(d, .tup []) :: s, o, nm, n0⟩
  | none, σ, K => K σ
def litK (d : Nat) (b : Bool) : St → (St → Prop) → Prop
  | ⟨s, o, nm, n0⟩, K => delS s d fun s => K ⟨(d, .d (.bool b)) :: s, o, nm, n0⟩
def nthOp : List Oper → Nat → Option Oper
  | [], _ => none
  | x :: _, 0 => some x
  | _ :: l, n + 1 => nthOp l n

def drawOps (P : Program) (G : Nat → Option (Nat × (Nat → D))) (E : List Nat) (nt : Nat) (ops : List Oper) : Nat → List Oper → St → List Foot → (List Foot → St → Prop) → Prop
  | _, [], σ, acc, K => K acc σ
  | i, ⟨dst, op, _, _, _, none⟩ :: rest, σ, acc, K => match dstB nt dst with
    | true => (opM P G E dst op).runR P G σ [] [] fun u rs ro => applyK u σ fun σ => drawOps P G E nt ops (i + 1) rest σ (⟨i, rs, ro, wsU u, keysU u⟩ :: acc) K
    | false => Stuck "slots"
  | i, ⟨dst, op, _, _, _, some (j, want)⟩ :: rest, σ, acc, K =>
    match nthOp ops j, dstB nt dst with
    | some ⟨some d, _, _, _, _, _⟩, true => match look σ.s d with
      | some (.d (.bool b)) => bc b
          (litK d true σ fun σ => bc want
            ((opM P G E dst op).runR P G σ [d] [] fun u rs ro => applyK u σ fun σ => drawOps P G E nt ops (i + 1) rest σ (⟨i, rs, ro, wsU u, keysU u⟩ :: acc) K)
            (skipOp dst σ fun σ => drawOps P G E nt ops (i + 1) rest σ (⟨i, [d], [], optL dst, []⟩ :: acc) K))
          (litK d false σ fun σ => bc want
            (skipOp dst σ fun σ => drawOps P G E nt ops (i + 1) rest σ (⟨i, [d], [], optL dst, []⟩ :: acc) K)
            ((opM P G E dst op).runR P G σ [d] [] fun u rs ro => applyK u σ fun σ => drawOps P G E nt ops (i + 1) rest σ (⟨i, rs, ro, wsU u, keysU u⟩ :: acc) K))
      | some (.tup []) => skipOp dst σ fun σ => drawOps P G E nt ops (i + 1) rest σ (⟨i, [d], [], optL dst, []⟩ :: acc) K
      | _ => Stuck "guard value"
    | _, _ => Stuck "guard"

def dirsL : List Edge → List Nat
  | [] => []
  | ⟨_, .textOnly _⟩ :: l => dirsL l
  | ⟨_, .gcOnly _⟩ :: l => dirsL l
  | ⟨n, _⟩ :: l => n :: dirsL l
theorem dirsL_eq (o : Oper) : dirsL o.after.toList = dirs o := by
  unfold dirs
  generalize o.after.toList = l
  induction l with
  | nil => rfl
  | cons e l ih =>
    obtain ⟨n, g⟩ := e
    cases g <;> simp [dirsL, Region.binds, List.filter_cons, ih]

def anyD (rec : Nat → Bool) (x : Nat) : List Nat → Bool
  | [] => false
  | y :: l => match Nat.blt x y with
    | true => match rec y with
      | true => true
      | false => anyD rec x l
    | false => anyD rec x l
/-- x is ordered before i by some steps -/
def depB (ops : List Oper) : Nat → Nat → Nat → Bool
  | 0, _, _ => false
  | f + 1, x, i => match nthOp ops i with
    | some ⟨_, _, _, _, ⟨after⟩, _⟩ => match memN x (dirsL after) with
      | true => true
      | false => anyD (depB ops f x) x (dirsL after)
    | none => false

/-- x stands ahead of y in the text -/
def indepB : Foot → Foot → Bool
  | ⟨_, rs, ro, ws, wo⟩, ⟨_, rs', ro', ws', wo'⟩ => match disjN ws rs', disjN wo ro', disjN ws' rs, disjN wo' ro, disjN ws ws', disjN wo wo' with
    | true, true, true, true, true, true => true
    | _, _, _, _, _, _ => false
def pairB (ops : List Oper) (y : Foot) : List Foot → Bool
  | [] => true
  | x :: l => match indepB x y with
    | true => pairB ops y l
    | false => match depB ops 8 x.i y.i with
      | true => pairB ops y l
      | false => false
/-- the row lies backward: the head is the last in the text -/
def orderB (ops : List Oper) : List Foot → Bool
  | [] => true
  | y :: l => match pairB ops y l with
    | true => orderB ops l
    | false => false
def ltAll (i : Nat) : List Nat → Bool
  | [] => true
  | d :: l => match Nat.blt d i with
    | true => ltAll i l
    | false => false
def ordB : Nat → List Oper → Bool
  | _, [] => true
  | i, ⟨_, _, _, _, ⟨after⟩, _⟩ :: l => match ltAll i (dirsL after) with
    | true => ordB (i + 1) l
    | false => false

/-! soundness of the looks -/
theorem nthOp_eq : ∀ (l : List Oper) (n : Nat), nthOp l n = l[n]?
  | [], n => by simp [nthOp]
  | x :: l, 0 => by simp [nthOp]
  | x :: l, n + 1 => by simp [nthOp, nthOp_eq l n]
theorem anyD_inv {rec : Nat → Bool} {x : Nat} : ∀ {l : List Nat}, anyD rec x l = true → ∃ y ∈ l, rec y = true
  | [], h => by cases h
  | y :: l, h => by
    simp only [anyD] at h
    split at h
    · split at h
      · rename_i hr; exact ⟨y, by simp, hr⟩
      · obtain ⟨z, hz, hr⟩ := anyD_inv h; exact ⟨z, by simp [hz], hr⟩
    · obtain ⟨z, hz, hr⟩ := anyD_inv h; exact ⟨z, by simp [hz], hr⟩
theorem depB_inv {ops : List Oper} {x : Nat} : ∀ {f i : Nat}, depB ops f x i = true → Dep ops x i
  | 0, _, h => by cases h
  | f + 1, i, h => by
    simp only [depB] at h
    split at h
    · rename_i dst op ty pos after g ho
      rw [nthOp_eq] at ho
      have hd : dirsL after = dirs ⟨dst, op, ty, pos, ⟨after⟩, g⟩ := dirsL_eq ⟨dst, op, ty, pos, ⟨after⟩, g⟩
      split at h
      · rename_i hm
        exact .one ho (by rw [← hd]; exact memNb.1 hm)
      · obtain ⟨y, hy, hr⟩ := anyD_inv h
        exact .step ho (by rw [← hd]; exact hy) (depB_inv hr)
    · cases h
inductive All2 {α β : Type} (R : α → β → Prop) : List α → List β → Prop where
  | nil : All2 R [] []
  | cons {a : α} {b : β} {l : List α} {m : List β} (h : R a b) (t : All2 R l m) : All2 R (a :: l) (b :: m)
/-- a foot that covers an effect with its reads -/
structure Covers (f : Foot) (x : Item') : Prop where
  i : f.i = x.i
  rs : ∀ k ∈ x.rs, k ∈ f.rs
  ro : ∀ n ∈ x.ro, n ∈ f.ro
  ws : ∀ k, x.e.ws k → k ∈ f.ws
  wo : ∀ n, x.e.wo n → n ∈ f.wo

theorem indepB_inv {f g : Foot} {x y : Item'} (h : indepB f g = true) (hx : Covers f x) (hy : Covers g y) : IndepI x y := by
  obtain ⟨i, rs, ro, ws, wo⟩ := f
  obtain ⟨i', rs', ro', ws', wo'⟩ := g
  simp only [indepB] at h
  split at h
  · rename_i h1 h2 h3 h4 h5 h6
    exact { s1 := fun k hk hw => disjN_inv h1 k (hx.ws k hw) (hy.rs k hk), o1 := fun n hn hw => disjN_inv h2 n (hx.wo n hw) (hy.ro n hn),
            s2 := fun k hk hw => disjN_inv h3 k (hy.ws k hw) (hx.rs k hk), o2 := fun n hn hw => disjN_inv h4 n (hy.wo n hw) (hx.ro n hn),
            s3 := fun k hw hw' => disjN_inv h5 k (hx.ws k hw) (hy.ws k hw'), o3 := fun n hw hw' => disjN_inv h6 n (hx.wo n hw) (hy.wo n hw') }
  · cases h

theorem pairB_inv {ops : List Oper} {g : Foot} {y : Item'} (hy : Covers g y) : ∀ {fs : List Foot} {xs : List Item'}, pairB ops g fs = true → All2 Covers fs xs → ∀ x ∈ xs, Dep ops x.i y.i ∨ IndepI x y := by
  intro fs xs h hc
  induction hc with
  | nil => simp
  | @cons f x fs xs hfx _ ih =>
    simp only [pairB] at h
    have key : (Dep ops x.i y.i ∨ IndepI x y) ∧ pairB ops g fs = true := by
      split at h
      · rename_i hi; exact ⟨.inr (indepB_inv hi hfx hy), h⟩
      · split at h
        · rename_i hd; exact ⟨.inl (by rw [← hfx.i, ← hy.i]; exact depB_inv hd), h⟩
        · cases h
    intro z hz
    rcases List.mem_cons.1 hz with rfl | hz
    · exact key.1
    · exact ih key.2 z hz

theorem pairsOk_append {ops : List Oper} : ∀ {l m : List Item'}, PairsOk ops l → PairsOk ops m → (∀ x ∈ l, ∀ y ∈ m, Dep ops x.i y.i ∨ IndepI x y) → PairsOk ops (l ++ m)
  | [], m, _, h, _ => h
  | x :: l, m, h1, h2, h3 => by
    refine ⟨fun y hy => ?_, pairsOk_append h1.2 h2 (fun z hz => h3 z (by simp [hz]))⟩
    rcases List.mem_append.1 hy with h | h
    · exact h1.1 y h
    · exact h3 x (by simp) y h

theorem orderB_inv {ops : List Oper} : ∀ {fs : List Foot} {xs : List Item'}, orderB ops fs = true → All2 Covers fs xs → PairsOk ops xs.reverse := by
  intro fs xs h hc
  induction hc with
  | nil => trivial
  | @cons f x fs xs hfx hrest ih =>
    simp only [orderB] at h
    split at h
    · rename_i hp
      have h1 := ih h
      have h2 := pairB_inv hfx hp hrest
      rw [List.reverse_cons]
      refine pairsOk_append h1 ⟨by simp, trivial⟩ ?_
      intro z hz y hy
      simp only [List.mem_singleton] at hy
      subst hy
      exact h2 z (by simpa using hz)
    · cases h

theorem ordB_inv : ∀ {ops : List Oper} {k : Nat}, ordB k ops = true → ∀ (i : Nat) (o : Oper), ops[i]? = some o → ∀ d ∈ dirs o, d < k + i
  | [], _, _ => by simp
  | ⟨dst, op, ty, pos, ⟨after⟩, g⟩ :: ops, k, h => by
    simp only [ordB] at h
    have hlt : ∀ {l : List Nat}, ltAll k l = true → ∀ d ∈ l, d < k := by
      intro l
      induction l with
      | nil => simp
      | cons d l ih =>
        intro h
        simp only [ltAll] at h
        split at h
        · rename_i hd
          intro x hx
          rcases List.mem_cons.1 hx with rfl | hx
          · exact Nat.le_of_ble_eq_true hd
          · exact ih h x hx
        · cases h
    split at h
    · rename_i hd
      intro i o ho d hdd
      cases i with
      | zero =>
        simp only [List.getElem?_cons_zero, Option.some.injEq] at ho
        subst ho
        rw [← dirsL_eq] at hdd
        simpa using hlt hd d hdd
      | succ i =>
        have := ordB_inv h i o (by simpa using ho) d hdd
        omega
    · cases h

end Go.Sx
