/- Part of a symbolic executor over the model, proved sound, with plain laws: SxExec. Written for these claims. -/
import Derived.Test.YtigmgeglnbjfeaaDoorSxDraw
namespace Go.Sx
open Go
set_option linter.unusedVariables false
set_option linter.unusedSimpArgs false

variable {P : Program} {G : Nat → Option (Nat × (Nat → D))} {nt : Nat} {C : Ctx} {I : Nat → Prop} {ρ : Nat → Loc} {F : Fs} {a : Act} {w : World} {E : List Nat} {T : Nat}

/-- every operation that M knows: what it comes to -/
theorem opM_sound (hE : EOk P E) (hc : Conc G nt C I ρ F a w) {o : Oper} (hd : dstOk nt o.dst) {u : Upd} (t : To P G F (opM P G E o.dst o.op) u) {F1 : Fs} (hp : Pubs F u.pub F1) (hf : Fresh F u) :
    OpOk P G nt C I ρ a w o (finF F1 u) := by
  cases ho : o.op with
  | move x => exact op_move hc (.inl ho) hd t hp
  | assign x => exact op_move hc (.inr ho) hd t hp
  | pick c x y => exact op_pick hc ho hd t hp
  | alloc T => exact op_alloc hc ho hd t hp hf
  | box T x => exact op_box hc ho hd t hp hf
  | build T ps => exact op_build hc ho hd t hp
  | buildSlice T n ps => exact op_buildSlice hc ho hd t hp hf
  | load T x => exact op_load hc ho hd t hp
  | store T x y => exact op_store hc ho hd t hp
  | nilCheck x => exact op_nilCheck hc ho hd t hp
  | binOp op T x y T' => exact op_binOp hE hc ho hd t hp
  | unOp op T x => exact op_unOp hc ho hd t hp
  | fieldAddr T x f => exact op_fieldAddr hc ho hd t hp
  | field T x f => exact op_field hc ho hd t hp
  | indexAddr T x i => exact op_indexAddr hc ho hd t hp
  | index T x i => exact op_index hc ho hd t hp
  | extract x i => exact op_extract hc ho hd t hp
  | convert s T x => exact op_convert hc ho hd t hp hf
  | makeSlice T l c => exact op_makeSlice hc ho hd t hp hf
  | slice T x lo hi mx => cases mx with
    | none => exact op_slice hc ho hd t hp
    | some m => exact op_slice3 hc ho hd t hp
  | range T x => exact op_range hc ho hd t hp hf
  | makeMap T r => cases r with
    | none => exact op_makeMap hc ho hd t hp hf
    | some _ => rw [ho] at t; exact t.fail_inv.elim
  | mapUpdate T m x y => exact op_mapUpdate hc ho hd t hp
  | lookup T x y ok => exact op_lookup hc ho hd t hp
  | next x b => cases b with
    | true => exact op_next hc ho hd t hp
    | false => rw [ho] at t; exact t.fail_inv.elim
  | makeFunc fn first caps =>
    obtain ⟨first⟩ := first
    obtain ⟨caps⟩ := caps
    cases first with
    | nil => cases fn with
      | func f => exact op_makeFunc hc ho hd t hp
      | _ => rw [ho] at t; exact t.fail_inv.elim
    | cons _ _ => cases fn <;> (rw [ho] at t; exact t.fail_inv.elim)
  | call c =>
    obtain ⟨cal, ⟨args⟩, ⟨ats⟩⟩ := c
    cases cal with
    | builtin b => exact op_builtin hc ho hd t hp hf
    | invoke r m => rw [ho] at t; exact t.fail_inv.elim
    | value x =>
      have clo : ∀ {f : FuncId} {caps : List SV} {cs : List SV}, Vals I ρ F w cs (args.map a.eval) → Val G I ρ F w (.clo f caps) (a.eval x) → To P G F (callK P E o.dst f (cs ++ caps)) u → OpOk P G nt C I ρ a w o (finF F1 u) := by
        intro f caps cs hvs hx t
        have hx' := hx.rep
        simp only [RepS] at hx'
        obtain ⟨us, hx', hr⟩ := hx'
        refine op_callK (vs := args.map a.eval ++ us) hc hd (fun he => run_call ho hx' he) ⟨hvs.rep.append hr, fun n hn => ?_⟩ t hp hf
        rw [inL_mem] at hn
        obtain ⟨c, hc', hn⟩ := hn
        simp only [List.mem_append] at hc'
        rcases hc' with hc' | hc'
        · exact hvs.nm n (inL_mem.2 ⟨c, hc', hn⟩)
        · exact hx.nm n (by simp only [inS]; exact inL_mem.2 ⟨c, hc', hn⟩)
      have gen : To P G F (evs args fun args => ev x fun
          | .clo f caps => callK P E o.dst f (args ++ caps)
          | _ => .fail "call of what") u → OpOk P G nt C I ρ a w o (finF F1 u) := by
        intro t
        obtain ⟨cs, t1, hvs⟩ := To.evs_inv hc t
        obtain ⟨sv, t2, hx⟩ := To.ev_inv hc t1
        split at t2
        · exact clo hvs hx t2
        · exact t2.fail_inv.elim
      rw [ho] at t
      cases x with
      | func f =>
        simp only [opM] at t
        obtain ⟨cs, t1, hvs⟩ := To.evs_inv hc t
        refine clo (caps := []) hvs ⟨?_, by simp [inS, inL]⟩ (by simpa using t1)
        simp only [RepS, Act.eval]
        exact ⟨[], rfl, by simp [RepL]⟩
      | tmp _ => exact gen t
      | const _ => exact gen t
      | global _ => exact gen t
  | _ => rw [ho] at t; exact t.fail_inv.elim

/-! ### code -/
inductive Ex where
  | normal | exit (id : Nat) | ret

def execOps (P : Program) (G : Nat → Option (Nat × (Nat → D))) (E : List Nat) (nt : Nat) (ops : List Oper) : List Oper → St → (St → Prop) → Prop
  | [], σ, K => K σ
  | ⟨dst, op, _, _, _, none⟩ :: rest, σ, K => match dstB nt dst with
    | true => (opM P G E dst op).run P G σ fun σ => execOps P G E nt ops rest σ K
    | false => Stuck "slots"
  | ⟨dst, op, _, _, _, some (j, want)⟩ :: rest, σ, K =>
    match nthOp ops j, dstB nt dst with
    | some ⟨some d, _, _, _, _, _⟩, true => match look σ.s d with
      | some (.d (.bool b)) => bc b
          (litK d true σ fun σ => bc want ((opM P G E dst op).run P G σ fun σ => execOps P G E nt ops rest σ K) (skipOp dst σ fun σ => execOps P G E nt ops rest σ K))
          (litK d false σ fun σ => bc want (skipOp dst σ fun σ => execOps P G E nt ops rest σ K) ((opM P G E dst op).run P G σ fun σ => execOps P G E nt ops rest σ K))
      | some (.tup []) => skipOp dst σ fun σ => execOps P G E nt ops rest σ K
      | _ => Stuck "guard value"
    | _, _ => Stuck "guard"

/-- where the code's ends are -/
def Good (G : Nat → Option (Nat × (Nat → D))) (nt : Nat) (C : Ctx) (K : Ex → St → Prop) : Exit → Act → World → Prop
  | .normal, a, w => ∃ σ I ρ, K .normal σ ∧ Conc G nt C I ρ (toF σ) a w
  | .exit id, a, w => ∃ σ I ρ, K (.exit id) σ ∧ Conc G nt C I ρ (toF σ) a w
  | .ret, a, w => ∃ σ I ρ, K .ret σ ∧ Conc G nt C I ρ (toF σ) a w
  | _, _, _ => False

theorem wp_loop_ghost {X : Type} {c : Code} {Q : Exit → Act → World → Prop} (J : X → Act → World → Prop) (μ : X → Nat)
    (round : ∀ x a w, J x a w → c.wp P (Exit.then (fun a' w' => ∃ x', J x' a' w' ∧ μ x' < μ x) Q) a w) : ∀ x a w, J x a w → (Code.loop c).wp P Q a w := by
  intro x0 a0 w0 h0 b k cs
  have key : ∀ n x a w, μ x = n → J x a w →
      ∃ e a' w', Q e a' w' ∧ Arrives P (lone (b.at a (.code c :: .inLoop c :: k)) cs w) b k cs e a' w' := by
    intro n
    induction n using Nat.strongRecOn with
    | _ n ih =>
      intro x a w hn hI
      obtain ⟨e, a₁, w₁, hq, harr⟩ := round x a w hI b (.inLoop c :: k) cs
      cases e with
      | normal =>
        obtain ⟨x', hI₁, hlt⟩ := hq
        obtain ⟨e₂, a₂, w₂, hq₂, harr₂⟩ := ih (μ x') (hn ▸ hlt) x' a₁ w₁ rfl hI₁
        exact ⟨e₂, a₂, w₂, hq₂, .of_steps (Steps.trans harr (.one step_inLoop)) harr₂⟩
      | exit id => exact ⟨_, a₁, w₁, hq, .pass (x := .inLoop c) rfl (fun _ _ => .inl (by simp)) harr⟩
      | goto l => exact ⟨_, a₁, w₁, hq, .pass (x := .inLoop c) rfl (fun _ _ => .inl (by simp)) harr⟩
      | ret => exact ⟨_, a₁, w₁, hq, .pass (x := .inLoop c) rfl (fun _ _ => .inl (by simp)) harr⟩
      | panic ch => exact ⟨_, a₁, w₁, hq, .pass (x := .inLoop c) rfl (fun _ _ => .inl (by simp)) harr⟩
      | outgrown => exact ⟨_, a₁, w₁, hq, .pass (x := .inLoop c) rfl (fun _ _ => .inl (by simp)) harr⟩
  obtain ⟨e, a', w', hq, harr⟩ := key _ x0 a0 w0 rfl h0
  exact ⟨e, a', w', hq, .of_steps (.one step_loop) harr⟩

/-- every concrete state of the one is one of the other -/
structure EntC (σ σ' : St) : Prop where
  out : ∀ {G : Nat → Option (Nat × (Nat → D))} {nt : Nat} {C : Ctx} {I : Nat → Prop} {ρ : Nat → Loc} {a : Act} {w : World}, Conc G nt C I ρ (toF σ) a w → ∃ ρ', Conc G nt C I ρ' (toF σ') a w
theorem EntC.refl (σ : St) : EntC σ σ := ⟨fun h => ⟨_, h⟩⟩
/-- n rounds at most: the next round's state follows from this one's end -/
def loopN (step : St → (Ex → St → Prop) → Prop) : Nat → St → (Ex → St → Prop) → Prop
  | 0, _, _ => False
  | n + 1, σ, K => step σ fun e σ' => match e with
    | .normal => ∃ σ'', EntC σ' σ'' ∧ loopN step n σ'' K
    | .exit i => K (.exit i) σ'
    | .ret => K .ret σ'
/-- A loop waits for its invariant. -/
inductive LoopVC (step : St → (Ex → St → Prop) → Prop) (σ : St) (K : Ex → St → Prop) : Prop where
  | mk (σ0 : St) (n : Nat) (h : EntC σ σ0) (k : loopN step n σ0 K)

/-- Where ways meet: the state may be taken for a wider one. -/
inductive WkVC (σ : St) (k : St → Prop) : Prop where
  | mk (σ' : St) (h : EntC σ σ') (k : k σ')
def wkK (K : Ex → St → Prop) : Ex → St → Prop
  | .normal, σ => WkVC σ (K .normal)
  | .exit i, σ => K (.exit i) σ
  | .ret, σ => K .ret σ
theorem wk_refl {σ : St} {k : St → Prop} (h : k σ) : WkVC σ k := ⟨σ, EntC.refl σ, h⟩
theorem good_wk {K : Ex → St → Prop} {e : Exit} {a : Act} {w : World} (h : Good G nt C (wkK K) e a w) : Good G nt C K e a w := by
  cases e with
  | normal =>
    obtain ⟨σ, I, ρ, ⟨σ', he, hk⟩, hc⟩ := h
    obtain ⟨ρ', hc'⟩ := he.out hc
    exact ⟨σ', I, ρ', hk, hc'⟩
  | exit id => exact h
  | ret => exact h
  | _ => exact h.elim
/-- The order of a region that draws it, looked at when its feet are known. -/
structure OrdVC (ops : List Oper) (feet : List Foot) (X : Prop) : Prop where
  h : orderB ops feet = true
  k : X
/-- A region that draws its order: a stop of the evaluation. -/
structure DrawVC (P : Program) (G : Nat → Option (Nat × (Nat → D))) (E : List Nat) (nt : Nat) (ops : List Oper) (σ : St) (K : St → Prop) : Prop where
  h : ordB 0 ops = true
  k : drawOps P G E nt ops 0 ops σ [] fun feet σ => OrdVC ops feet (K σ)
def exec (P : Program) (G : Nat → Option (Nat × (Nat → D))) (E : List Nat) (nt : Nat) : Code → St → (Ex → St → Prop) → Prop
  | .skip, σ, K => K .normal σ
  | .region _ ⟨ops⟩ false, σ, K => execOps P G E nt ops ops σ fun σ => K .normal σ
  | .region _ ⟨ops⟩ true, σ, K => DrawVC P G E nt ops σ fun σ => K .normal σ
  | .seq a b, σ, K => exec P G E nt a σ fun e σ => match e with
    | .normal => exec P G E nt b σ K
    | .exit i => K (.exit i) σ
    | .ret => K .ret σ
  | .cond (.tmp t) a b, σ, K => match look σ.s t with
    | some (.d (.bool c)) => bc c (exec P G E nt a σ (wkK K)) (exec P G E nt b σ (wkK K))
    | _ => Stuck "cond"
  | .block id c, σ, K => exec P G E nt c σ fun e σ => match e with
    | .exit i => match Nat.beq i id with
      | true => K .normal σ
      | false => K (.exit i) σ
    | .normal => K .normal σ
    | .ret => K .ret σ
  | .loop c, σ, K => LoopVC (fun σ K => exec P G E nt c σ K) σ K
  | .exit id, σ, K => K (.exit id) σ
  | .ret, σ, K => K .ret σ
  | _, _, _ => Stuck "code"

theorem toF_s (σ : St) : (toF σ).s = look σ.s := by cases σ; rfl

theorem litK_inv {d : Nat} {b : Bool} {σ : St} {K : St → Prop} (h : litK d b σ K) (hs : (toF σ).s d = some (.d (.bool b))) : ∃ σ', K σ' ∧ toF σ' = toF σ := by
  obtain ⟨s, o, nm, n0⟩ := σ
  obtain ⟨r, h1, h2⟩ := delS_inv (K := fun _ => True) h
  refine ⟨_, h1, ?_⟩
  simp only [toF]
  congr 1
  funext m
  rw [look_cons, h2]
  by_cases hm : d = m
  · subst hm; simp only [if_true]; exact hs.symm
  · simp [hm, Ne.symm hm]

/-- slots may be forgotten -/
theorem Conc.forget {F F' : Fs} (hc : Conc G nt C I ρ F a w) (hs : ∀ k sv, F'.s k = some sv → F.s k = some sv) (ho : F'.o = F.o) (hn : F'.nm = F.nm) (h0 : F'.n0 = F.n0) : Conc G nt C I ρ F' a w := by
  obtain ⟨s, o, nm, n0⟩ := F
  obtain ⟨s', o', nm', n0'⟩ := F'
  simp only at ho hn h0
  subst ho; subst hn; subst h0
  exact { defers := hc.defers, size := hc.size, slots := fun k sv hk => hc.slots k sv (hs k sv hk), snames := fun k sv n hk => hc.snames k sv n (hs k sv hk), own := hc.own, onames := hc.onames, okeys := hc.okeys, sep := hc.sep,
          fresh := hc.fresh, inj := hc.inj, ilt := hc.ilt, i0 := hc.i0, i1 := hc.i1, old := hc.old, glob := hc.glob, keep := hc.keep }

theorem Conc.skip (hc : Conc G nt C I ρ F a w) {d : Nat} (hd : d < nt) : Conc G nt C I ρ (putS F (some d) (.tup [])) (a.put (some d) undef) w :=
  hc.put (dst := some d) hd (by simp only [RepS]; exact ⟨[], rfl, by simp [RepL]⟩) (by simp [inS, inL])

theorem skipOp_inv {σ : St} (hc : Conc G nt C I ρ (toF σ) a w) {dst : Option Nat} (hd : dstB nt dst = true) {K : St → Prop} (h : skipOp dst σ K) : ∃ σ', K σ' ∧ Conc G nt C I ρ (toF σ') (a.put dst undef) w := by
  cases dst with
  | none => exact ⟨σ, h, hc⟩
  | some d =>
    obtain ⟨s, o, nm, n0⟩ := σ
    obtain ⟨r, h1, h2⟩ := delS_inv (K := fun _ => True) h
    refine ⟨_, h1, ?_⟩
    have := hc.skip (d := d) (Nat.le_of_ble_eq_true hd)
    have e : toF ⟨(d, .tup []) :: r, o, nm, n0⟩ = putS (toF ⟨s, o, nm, n0⟩) (some d) (.tup []) := by
      simp only [toF, putS]
      congr 1
      funext m
      rw [look_cons, h2]
      by_cases hm : d = m
      · subst hm; simp
      · simp [hm, Ne.symm hm]
    rw [e]
    exact this

theorem yielded_undef {ops : List Oper} {j d : Nat} {oj : Oper} (hj : ops[j]? = some oj) (hd : oj.dst = some d) {v : Value} (hv : a.tmps[d]? = some v) (hr : RepS I ρ w (.tup []) v) : yielded ⟨ops⟩ a.tmps j = none := by
  simp only [RepS, RepL] at hr
  obtain ⟨us, rfl, rfl⟩ := hr
  simp only [yielded, List.getElem?_toArray, hj, Option.bind_some, hd, hv]

theorem execOps_sound (hE : EOk P E) {ops : List Oper} {K : St → Prop} : ∀ {rest : List Oper} {σ : St} {I : Nat → Prop} {ρ : Nat → Loc} {a : Act} {w : World}, execOps P G E nt ops rest σ K → Conc G nt C I ρ (toF σ) a w →
    wpList P ⟨ops⟩ (Good G nt C fun e σ => match e with | .normal => K σ | _ => False) rest a w
  | [], σ, I, ρ, a, w, h, hc => ⟨σ, I, ρ, h, hc⟩
  | ⟨dst, op, ty, pos, after, guard⟩ :: rest, σ, I, ρ, a, w, h, hc => by
    have doit : ∀ {σ : St}, dstB nt dst = true → (opM P G E dst op).run P G σ (fun σ => execOps P G E nt ops rest σ K) → Conc G nt C I ρ (toF σ) a w →
        (⟨dst, op, ty, pos, after, guard⟩ : Oper).wp P a w (wpList P ⟨ops⟩ (Good G nt C fun e σ => match e with | .normal => K σ | _ => False) rest) (Good G nt C fun e σ => match e with | .normal => K σ | _ => False) := by
      intro σ hd h hc
      obtain ⟨u, σ', F1, t, hk, hp, hF, hf⟩ := run_to h
      have hd' : dstOk nt dst := by
        cases dst with
        | none => trivial
        | some d => exact Nat.le_of_ble_eq_true hd
      refine opM_sound hE hc (o := ⟨dst, op, ty, pos, after, guard⟩) hd' t hp hf _ _ ?_
      intro I' ρ' v w' hc'
      rw [← hF] at hc'
      exact execOps_sound hE hk hc'
    have skip : ∀ {σ : St}, dstB nt dst = true → skipOp dst σ (fun σ => execOps P G E nt ops rest σ K) → Conc G nt C I ρ (toF σ) a w →
        wpList P ⟨ops⟩ (Good G nt C fun e σ => match e with | .normal => K σ | _ => False) rest (a.put dst undef) w := by
      intro σ hd h hc
      obtain ⟨σ', hk, hc'⟩ := skipOp_inv hc hd h
      exact execOps_sound hE hk hc'
    unfold wpList
    cases guard with
    | none =>
      simp only [Region.wanted, if_true]
      simp only [execOps] at h
      split at h
      · exact .inl (doit ‹_› h hc)
      · exact h.out.elim
    | some g =>
      obtain ⟨j, want⟩ := g
      simp only [execOps] at h
      split at h
      · rename_i d _ _ _ _ _ hj hd
        split at h
        · rename_i b hb
          have hs : (toF σ).s d = some (.d (.bool b)) := by rw [toF_s]; exact hb
          obtain ⟨v, hv, hr⟩ := hc.slots d _ hs
          have hv' := rep_bool hr
          subst hv'
          have hy : yielded ⟨ops⟩ a.tmps j = some b := by
            rw [nthOp_eq] at hj
            simp only [yielded, List.getElem?_toArray, hj, Option.bind_some, hv]
          simp only [Region.wanted, hy]
          have lit : ∀ {K' : St → Prop}, litK d b σ K' → ∃ σ', K' σ' ∧ Conc G nt C I ρ (toF σ') a w := by
            intro K' h
            obtain ⟨σ', h1, h2⟩ := litK_inv h hs
            exact ⟨σ', h1, by rw [h2]; exact hc⟩
          cases b <;> cases want <;> simp only [bc] at h <;> obtain ⟨σ', h1, h2⟩ := lit h
          · simp only [beq_self_eq_true, if_true]
            exact .inl (doit hd h1 h2)
          · simp only [reduceCtorEq, beq_iff_eq, Option.some.injEq, Bool.false_eq_true, if_false]
            exact skip hd h1 h2
          · simp only [reduceCtorEq, beq_iff_eq, Option.some.injEq, Bool.true_eq_false, if_false]
            exact skip hd h1 h2
          · simp only [beq_self_eq_true, if_true]
            exact .inl (doit hd h1 h2)
        · rename_i hb
          have hs : (toF σ).s d = some (.tup []) := by rw [toF_s]; exact hb
          obtain ⟨v, hv, hr⟩ := hc.slots d _ hs
          rw [nthOp_eq] at hj
          have hy := yielded_undef hj rfl hv hr
          have hne : ((none : Option Bool) == some want) = false := rfl
          simp only [Region.wanted, hy, hne, Bool.false_eq_true, if_false]
          exact skip hd h hc
        · exact h.out.elim
      · exact h.out.elim

/-! ### regions that draw their order -/
theorem opLeads (hE : EOk P E) {ops : List Oper} : OpLeads P G nt E ops := by
  intro C I ρ F a w i o e rs ro Q K ho hd hs hc hK
  unfold wpOp
  have ho' : (Array.mk ops)[i]? = some o := by simpa using ho
  simp only [ho']
  have run : ∀ {u : Upd} {rs ro : List Nat}, ToR P G F (opM P G E o.dst o.op) u rs ro → Fresh F u → e = effOf u → o.wp P a w K Q := by
    intro u rs ro t hf he
    obtain ⟨t1, hp⟩ := t.to
    refine opM_sound hE hc hd t1 (F1 := F) (by rw [hp]; exact .nil _) hf _ _ ?_
    intro I' ρ' v w' hc'
    rw [finF_app, ← he] at hc'
    exact hK I' ρ' _ w' hc'
  cases hs with
  | run hg t hf =>
    simp only [Region.wanted, hg, if_true]
    exact .inl (run t hf rfl)
  | @runG u rs ro j want oj d hg hj hdj hb t hf =>
    obtain ⟨v, hv, hr⟩ := hc.slots d _ hb
    have hv' := rep_bool hr
    subst hv'
    have hj' : (Array.mk ops)[j]? = some oj := by simpa using hj
    have hy : yielded ⟨ops⟩ a.tmps j = some want := by simp only [yielded, hj', Option.bind_some, hdj, hv]
    simp only [Region.wanted, hg, hy, beq_self_eq_true, if_true]
    exact .inl (run t hf rfl)
  | @skip j want oj d hg hj hdj hb =>
    have hj' : (Array.mk ops)[j]? = some oj := by simpa using hj
    have hw : (yielded ⟨ops⟩ a.tmps j == some want) = false := by
      rcases hb with hb | hb
      · obtain ⟨v, hv, hr⟩ := hc.slots d _ hb
        have hv' := rep_bool hr
        subst hv'
        have hy : yielded ⟨ops⟩ a.tmps j = some (!want) := by simp only [yielded, hj', Option.bind_some, hdj, hv]
        rw [hy]
        cases want <;> rfl
      · obtain ⟨v, hv, hr⟩ := hc.slots d _ hb
        rw [yielded_undef hj hdj hv hr]
        rfl
    simp only [Region.wanted, hg, hw, Bool.false_eq_true, if_false]
    refine hK I ρ _ w ?_
    cases hdst : o.dst with
    | none =>
      have : F.app (effSkip none) = F := by cases F; simp [Fs.app, effSkip]
      rw [this]; exact hc
    | some d' =>
      rw [hdst] at hd
      have e : F.app (effSkip (some d')) = putS F (some d') (.tup []) := by cases F; simp [Fs.app, effSkip, putS]
      rw [e]
      exact hc.skip hd

theorem keysO_mem {n : Nat} : ∀ {l : List (Nat × Blk)}, lastB l n ≠ none → n ∈ keysO l
  | [], h => by simp [lastB] at h
  | (m, b) :: l, h => by
    simp only [lastB] at h
    cases hl : lastB l n with
    | some c => simp [keysO, keysO_mem (l := l) (n := n) (by rw [hl]; simp)]
    | none =>
      rw [hl] at h
      simp only [ne_eq, ite_eq_right_iff, reduceCtorEq, imp_false, Decidable.not_not] at h
      simp [keysO, h]

theorem skipOp_toF {dst : Option Nat} {σ : St} {K : St → Prop} (h : skipOp dst σ K) : ∃ σ', K σ' ∧ toF σ' = (toF σ).app (effSkip dst) := by
  obtain ⟨s, o, nm, n0⟩ := σ
  cases dst with
  | none => exact ⟨_, h, by simp [Fs.app, effSkip]⟩
  | some d =>
    obtain ⟨r, h1, h2⟩ := delS_inv (K := fun _ => True) h
    refine ⟨_, h1, ?_⟩
    simp only [toF, Fs.app, effSkip, Option.map_some]
    have : look ((d, SV.tup []) :: r) = fun k => if k = d then some (.tup []) else look s k := by
      funext m
      rw [look_cons, h2]
      by_cases hm : d = m
      · subst hm; simp
      · simp [hm, Ne.symm hm]
    rw [this]
    simp

theorem drawOps_inv {ops : List Oper} {K : List Foot → St → Prop} : ∀ {rest : List Oper} {i : Nat} {σ : St} {acc : List Foot}, drawOps P G E nt ops i rest σ acc K → (∀ k, rest[k]? = ops[i + k]?) →
    ∃ xs feet σ', K (feet ++ acc) σ' ∧ All2 Covers feet xs.reverse ∧ Chain P G E ops (toF σ) xs (toF σ') ∧ (∀ x ∈ xs, ops[x.i]? = some x.o ∧ dstOk nt x.o.dst) ∧ xs.map (·.i) = List.range' i rest.length
  | [], i, σ, acc, h, _ => ⟨[], [], σ, h, .nil, rfl, by simp, by simp⟩
  | ⟨dst, op, ty, pos, after, guard⟩ :: rest, i, σ, acc, h, hr => by
    have ho : ops[i]? = some ⟨dst, op, ty, pos, after, guard⟩ := by simpa using (hr 0).symm
    have hr' : ∀ k, rest[k]? = ops[i + 1 + k]? := fun k => by
      have := hr (k + 1)
      simp only [List.getElem?_cons_succ] at this
      rw [this]
      congr 1; omega
    have dok : dstB nt dst = true → dstOk nt dst := by
      intro hd
      cases dst with
      | none => trivial
      | some d => exact Nat.le_of_ble_eq_true hd
    have all2_snoc : ∀ {fs : List Foot} {ys : List Item'} {f : Foot} {y : Item'}, All2 Covers fs ys → Covers f y → All2 Covers (fs ++ [f]) (ys ++ [y]) := by
      intro fs ys f y h hf
      induction h with
      | nil => exact .cons hf .nil
      | cons h _ ih => exact .cons h ih
    -- one more operation at the head
    have step : ∀ {σ1 : St} {f : Foot} {e : Eff} {rs ro : List Nat}, dstB nt dst = true → Covers f ⟨i, ⟨dst, op, ty, pos, after, guard⟩, e, rs, ro⟩ → StepE P G E ops ⟨dst, op, ty, pos, after, guard⟩ (toF σ) e rs ro →
        toF σ1 = (toF σ).app e → drawOps P G E nt ops (i + 1) rest σ1 (f :: acc) K →
        ∃ xs feet σ', K (feet ++ acc) σ' ∧ All2 Covers feet xs.reverse ∧ Chain P G E ops (toF σ) xs (toF σ') ∧ (∀ x ∈ xs, ops[x.i]? = some x.o ∧ dstOk nt x.o.dst) ∧ xs.map (·.i) = List.range' i (rest.length + 1) := by
      intro σ1 f e rs ro hd hcov hstep hF h
      obtain ⟨xs, feet, σ', h1, h2, h3, h4, h5⟩ := drawOps_inv h hr'
      refine ⟨⟨i, ⟨dst, op, ty, pos, after, guard⟩, e, rs, ro⟩ :: xs, feet ++ [f], σ', by simpa using h1, ?_, ⟨hstep, by rw [← hF]; exact h3⟩, ?_, ?_⟩
      · rw [List.reverse_cons]
        exact all2_snoc h2 hcov
      · intro x hx
        rcases List.mem_cons.1 hx with rfl | hx
        · exact ⟨ho, dok hd⟩
        · exact h4 x hx
      · simp only [List.map_cons, h5, List.range'_succ]
    have covU : ∀ {u : Upd} {a b rs ro : List Nat} {o : Oper}, (∀ k ∈ a, k ∈ rs) → (∀ n ∈ b, n ∈ ro) → Covers ⟨i, rs, ro, wsU u, keysU u⟩ ⟨i, o, effOf u, a, b⟩ := by
      intro u a b rs ro o ha hb
      obtain ⟨d', v, own, del, new, pub⟩ := u
      refine ⟨rfl, ha, hb, ?_, ?_⟩
      · rintro k ⟨v', hv⟩
        simp only [effOf, Option.map_eq_some_iff, Prod.mk.injEq] at hv
        obtain ⟨d, hd, rfl, _⟩ := hv
        subst hd; simp [wsU]
      · rintro n (hn | hn)
        · simp only [keysU, List.mem_append]
          simp only [effOf] at hn
          cases hl : lastB own n with
          | some c => exact .inl (keysO_mem (by rw [hl]; simp))
          | none =>
            rw [hl] at hn
            simp only [ne_eq, ite_eq_right_iff, reduceCtorEq, imp_false, Decidable.not_not] at hn
            exact .inr (.inl hn)
        · simp only [keysU, List.mem_append]
          exact .inr (.inr hn)
    have skipC : ∀ {d : Nat} {o : Oper}, Covers ⟨i, [d], [], optL dst, []⟩ ⟨i, o, effSkip dst, [d], []⟩ := by
      intro d o
      refine ⟨rfl, fun _ h => h, fun _ h => h, ?_, ?_⟩
      · rintro k ⟨v', hv⟩
        simp only [effSkip, Option.map_eq_some_iff, Prod.mk.injEq] at hv
        obtain ⟨d, hd, rfl, _⟩ := hv
        rw [hd]; simp [optL]
      · rintro n (hn | hn)
        · exact (hn rfl).elim
        · simp [effSkip] at hn
    -- an operation that runs
    have doit : ∀ {σ1 : St} {pre : List Nat}, dstB nt dst = true → toF σ1 = toF σ →
        (opM P G E dst op).runR P G σ1 pre [] (fun u rs ro => applyK u σ1 fun σ => drawOps P G E nt ops (i + 1) rest σ (⟨i, rs, ro, wsU u, keysU u⟩ :: acc) K) →
        (∀ {u : Upd} {rs ro : List Nat}, ToR P G (toF σ) (opM P G E dst op) u rs ro → Fresh (toF σ) u → StepE P G E ops ⟨dst, op, ty, pos, after, guard⟩ (toF σ) (effOf u) (pre ++ rs) ro) →
        ∃ xs feet σ', K (feet ++ acc) σ' ∧ All2 Covers feet xs.reverse ∧ Chain P G E ops (toF σ) xs (toF σ') ∧ (∀ x ∈ xs, ops[x.i]? = some x.o ∧ dstOk nt x.o.dst) ∧ xs.map (·.i) = List.range' i (rest.length + 1) := by
      intro σ1 pre hd hF h hst
      obtain ⟨u, rs', ro', x, y, h1, t, h2, h3, h4, h5⟩ := runR_inv h
      rw [hF] at t
      obtain ⟨σ2, F1, k1, k2, k3, k4⟩ := applyK_inv h1
      have hpub := t.to.2
      rw [hpub] at k2
      cases k2
      rw [hF] at k3 k4
      rw [finF_app] at k3
      refine step hd (covU (u := u) (a := pre ++ x) (b := y) (fun k hk => ?_) h3) (hst t k4) k3 k1
      rcases List.mem_append.1 hk with hk | hk
      · exact h4 k hk
      · exact h2 k hk
    have skip : ∀ {σ1 : St} {d : Nat}, dstB nt dst = true → toF σ1 = toF σ → skipOp dst σ1 (fun σ => drawOps P G E nt ops (i + 1) rest σ (⟨i, [d], [], optL dst, []⟩ :: acc) K) →
        StepE P G E ops ⟨dst, op, ty, pos, after, guard⟩ (toF σ) (effSkip dst) [d] [] →
        ∃ xs feet σ', K (feet ++ acc) σ' ∧ All2 Covers feet xs.reverse ∧ Chain P G E ops (toF σ) xs (toF σ') ∧ (∀ x ∈ xs, ops[x.i]? = some x.o ∧ dstOk nt x.o.dst) ∧ xs.map (·.i) = List.range' i (rest.length + 1) := by
      intro σ1 d hd hF h hst
      obtain ⟨σ2, h1, h2⟩ := skipOp_toF h
      rw [hF] at h2
      exact step hd skipC hst h2 h1
    cases guard with
    | none =>
      simp only [drawOps] at h
      split at h
      · exact doit (pre := []) ‹_› rfl h (fun t hf => .run rfl t hf)
      · exact h.out.elim
    | some g =>
      obtain ⟨j, want⟩ := g
      simp only [drawOps] at h
      split at h
      · rename_i d _ _ _ _ _ hj hd
        split at h
        · rename_i b hb
          have hs : (toF σ).s d = some (.d (.bool b)) := by rw [toF_s]; exact hb
          rw [nthOp_eq] at hj
          cases b <;> cases want <;> simp only [bc] at h <;> obtain ⟨σ', h1, h2⟩ := litK_inv h hs
          · exact doit (pre := [d]) hd h2 h1 (fun t hf => .runG rfl hj rfl hs t hf)
          · exact skip hd h2 h1 (.skip rfl hj rfl (.inl hs))
          · exact skip hd h2 h1 (.skip rfl hj rfl (.inl hs))
          · exact doit (pre := [d]) hd h2 h1 (fun t hf => .runG rfl hj rfl hs t hf)
        · rename_i hb
          have hs : (toF σ).s d = some (.tup []) := by rw [toF_s]; exact hb
          rw [nthOp_eq] at hj
          exact skip hd rfl h (.skip rfl hj rfl (.inr hs))
        · exact h.out.elim
      · exact h.out.elim

theorem exec_sound (hE : EOk P E) : ∀ {c : Code} {σ : St} {K : Ex → St → Prop} {I : Nat → Prop} {ρ : Nat → Loc} {a : Act} {w : World}, exec P G E nt c σ K → Conc G nt C I ρ (toF σ) a w → c.wp P (Good G nt C K) a w := by
  intro c
  induction c with
  | skip => intro σ K I ρ a w h hc; exact wp_skip ⟨σ, I, ρ, h, hc⟩
  | region id ops draw =>
    intro σ K I ρ a w h hc
    obtain ⟨ops⟩ := ops
    have fin : ∀ e a w, Good G nt C (fun e σ => match e with | .normal => K .normal σ | _ => False) e a w → Good G nt C K e a w := by
      intro e a w hg
      cases e with
      | normal => exact hg
      | exit id => obtain ⟨_, _, _, h, _⟩ := hg; exact h.elim
      | ret => obtain ⟨_, _, _, h, _⟩ := hg; exact h.elim
      | _ => exact hg.elim
    cases draw with
    | false => exact wp_mono (wp_region_list (execOps_sound hE h hc)) fin
    | true =>
      obtain ⟨hord, h⟩ := h
      · obtain ⟨xs, feet, σ', h1, h2, h3, h4, h5⟩ := drawOps_inv h (fun k => by simp)
        obtain ⟨hord2, h1⟩ := h1
        · rw [List.append_nil] at hord2
          have hpairs := orderB_inv hord2 h2
          rw [List.reverse_reverse] at hpairs
          have hat : ∀ (i : Nat) (o : Oper), ops[i]? = some o → ∃ x ∈ xs, x.i = i := by
            intro i o ho
            have hl := (List.getElem?_eq_some_iff.1 ho).1
            have : i ∈ xs.map (·.i) := by rw [h5]; simp; exact hl
            obtain ⟨x, hx, hxi⟩ := List.mem_map.1 this
            exact ⟨x, hx, hxi⟩
          have hlen : xs.length = ops.length := by
            have := congrArg List.length h5
            simpa using this
          refine wp_region_any hE.mixed (wpAny_chain (opLeads hE) ?_ ?_ (C := C) (Q := Good G nt C K) (F' := toF σ') (fun I ρ a w hc => ⟨σ', I, ρ, h1, hc⟩) ops.length xs _ (toF σ) I ρ a _ (by omega) h3 hpairs (fun x hx => (h4 x hx).1) ?_ ?_ ?_ ?_ hc.drew)
          · intro i o ho
            obtain ⟨x, hx, hxi⟩ := hat i o ho
            have := h4 x hx
            rw [hxi, ho] at this
            obtain ⟨e1, e2⟩ := this
            cases e1
            exact e2
          · intro i o ho d hdd
            have := ordB_inv hord i o ho d hdd
            omega
          · rw [h5]; exact List.nodup_range'
          · simp
          · intro i
            constructor
            · intro hf
              have hi : i < ops.length := by
                refine Classical.byContradiction fun hge => ?_
                simp [Array.getD_eq_getD_getElem?, Array.getElem?_replicate, hge] at hf
              obtain ⟨x, hx, hxi⟩ := hat i _ (List.getElem?_eq_getElem hi)
              exact ⟨x, hx, hxi⟩
            · rintro ⟨x, hx, rfl⟩
              have := (List.getElem?_eq_some_iff.1 (h4 x hx).1).1
              simp [Array.getD_eq_getD_getElem?, Array.getElem?_replicate, this]
          · intro j hj
            exfalso
            by_cases hl : j < ops.length <;> simp [Array.getD_eq_getD_getElem?, Array.getElem?_replicate, hl] at hj
  | seq x y ihx ihy =>
    intro σ K I ρ a w h hc
    refine wp_seq (wp_mono (ihx h hc) ?_)
    intro e a w hg
    cases e with
    | normal =>
      obtain ⟨σ', I', ρ', hk, hc'⟩ := hg
      exact ihy hk hc'
    | exit id => exact hg
    | ret => exact hg
    | _ => exact hg.elim
  | cond c x y ihx ihy =>
    intro σ K I ρ a w h hc
    cases c with
    | tmp t =>
      simp only [exec] at h
      split at h
      · rename_i b hb
        have hs : (toF σ).s t = some (.d (.bool b)) := by rw [toF_s]; exact hb
        obtain ⟨v, hv, hr⟩ := hc.slots t _ hs
        have hv' := rep_bool hr
        subst hv'
        have he : a.eval (.tmp t) = .bool b := by simp [Act.eval, hv]
        cases b with
        | true => exact wp_cond_true he (wp_mono (ihx h hc) (fun _ _ _ => good_wk))
        | false => exact wp_cond_false he (wp_mono (ihy h hc) (fun _ _ _ => good_wk))
      · exact h.out.elim
    | _ => exact h.out.elim
  | block id c ih =>
    intro σ K I ρ a w h hc
    refine wp_block (wp_mono (ih h hc) ?_)
    intro e a w hg
    cases e with
    | normal => exact hg
    | exit i =>
      obtain ⟨σ', I', ρ', hk, hc'⟩ := hg
      simp only [Exit.inBlock]
      simp only at hk
      split at hk
      · rename_i e
        have e := (beq_iff _ _).1 e
        rw [if_pos e]
        exact ⟨σ', I', ρ', hk, hc'⟩
      · rename_i e
        rw [if_neg (fun e' => by rw [(beq_iff _ _).2 e'] at e; cases e)]
        exact ⟨σ', I', ρ', hk, hc'⟩
    | ret => exact hg
    | _ => exact hg.elim
  | loop c ih =>
    intro σ K I ρ a w h hc
    obtain ⟨σ0, n, he, hk⟩ := h
    obtain ⟨ρ', hc'⟩ := he.out hc
    refine wp_loop_ghost (X := Nat) (J := fun n a w => ∃ σ I ρ, loopN (fun σ K => exec P G E nt c σ K) n σ K ∧ Conc G nt C I ρ (toF σ) a w) id ?_ n a w ⟨σ0, I, ρ', hk, hc'⟩
    rintro n a w ⟨σ, I, ρ, h, hc⟩
    cases n with
    | zero => exact h.elim
    | succ n =>
      refine wp_mono (ih h hc) ?_
      intro e a w hg
      cases e with
      | normal =>
        obtain ⟨σ', I', ρ', ⟨σ'', h1, h2⟩, hc'⟩ := hg
        obtain ⟨ρ'', hc''⟩ := h1.out hc'
        exact ⟨n, ⟨σ'', I', ρ'', h2, hc''⟩, Nat.lt_succ_self n⟩
      | exit id => exact hg
      | ret => exact hg
      | _ => exact hg.elim
  | exit id => intro σ K I ρ a w h hc; exact wp_exit ⟨σ, I, ρ, h, hc⟩
  | ret => intro σ K I ρ a w h hc; exact wp_ret ⟨σ, I, ρ, h, hc⟩
  | _ => intro σ K I ρ a w h hc; exact h.out.elim

end Go.Sx
