/- Part of a symbolic executor over the model, proved sound, with plain laws: SxOne. Written for these claims. -/
import Derived.Test.YtigmgeglnbjfeaaDoorSxRen
namespace Go.Sx
open Go
set_option linter.unusedVariables false
set_option linter.unusedSimpArgs false

variable {P : Program} {G : Nat → Option (Nat × (Nat → D))} {nt : Nat} {E : List Nat}

/-- what is run comes to one end, whatever is asked there -/
def One {α : Type} (f : (α → Prop) → Prop) : Prop := ∀ K, f K → ∃ x, K x ∧ ∀ K' : α → Prop, K' x → f K'
theorem One.ret {α : Type} (x : α) : One fun K : α → Prop => K x := fun _ h => ⟨x, h, fun _ h => h⟩
theorem One.bind {α β : Type} {f : (α → Prop) → Prop} {g : α → (β → Prop) → Prop} (hf : One f) (hg : ∀ x, One (g x)) : One fun K => f fun x => g x K := by
  intro K h
  obtain ⟨x, h1, h2⟩ := hf _ h
  obtain ⟨y, h3, h4⟩ := hg x _ h1
  exact ⟨y, h3, fun K' hk => h2 (fun x => g x K') (h4 K' hk)⟩
theorem One.map {α β : Type} {f : (α → Prop) → Prop} (hf : One f) (g : α → β) : One fun K => f fun x => K (g x) := hf.bind (fun x => One.ret (g x))
theorem One.stuck {α : Type} (s : String) : One fun _ : α → Prop => Stuck s := fun _ h => h.out.elim
theorem One.need {α : Type} {p : Prop} {f : (α → Prop) → Prop} (hf : One f) : One fun K => Need p (f K) := by
  intro K h
  obtain ⟨x, h1, h2⟩ := hf _ h.k
  exact ⟨x, h1, fun K' hk => ⟨h.h, h2 K' hk⟩⟩
theorem One.bc {α : Type} {b : Bool} {f g : (α → Prop) → Prop} (hf : One f) (hg : One g) : One fun K => bc b (f K) (g K) := by
  cases b
  · exact hg
  · exact hf

theorem one_delS {n : Nat} : ∀ {l : List (Nat × SV)}, One (delS l n)
  | [] => One.ret _
  | (i, v) :: l => by
    cases h : Nat.beq i n with
    | true => simpa only [delS, h] using one_delS (l := l)
    | false => simpa only [delS, h] using (one_delS (l := l)).map fun r => (i, v) :: r
theorem one_delO {n : Nat} : ∀ {l : List (Nat × Blk)}, One (delO l n)
  | [] => One.ret _
  | (i, v) :: l => by
    cases h : Nat.beq i n with
    | true => simpa only [delO, h] using one_delO (l := l)
    | false => simpa only [delO, h] using (one_delO (l := l)).map fun r => (i, v) :: r
theorem one_delsO : ∀ {ns : List Nat} {l : List (Nat × Blk)}, One (delsO l ns)
  | [], l => One.ret _
  | n :: ns, l => by simpa only [delsO] using (one_delO (l := l)).bind fun r => one_delsO (ns := ns)
theorem one_setsO : ∀ {bs : List (Nat × Blk)} {l : List (Nat × Blk)}, One (setsO l bs)
  | [], l => One.ret _
  | (n, b) :: bs, l => by simpa only [setsO] using (one_delO (l := l)).bind fun r => one_setsO (bs := bs)
theorem one_fresh : ∀ {ns nm : List Nat}, One (freshK ns nm)
  | [], nm => One.ret _
  | n :: ns, nm => by
    cases h : memN n nm with
    | true => simpa only [freshK, h] using One.stuck _
    | false => simpa only [freshK, h] using one_fresh (ns := ns)
theorem one_pubCells {n sz : Nat} {get : Nat → Nat → D} : ∀ {cs : List SV}, One (pubCells n sz get cs)
  | [] => One.ret _
  | c :: cs => by
    cases c with
    | osl m s off len =>
      cases h : Nat.beq m n with
      | true => simpa only [pubCells, h] using (one_pubCells (cs := cs)).map _
      | false => simpa only [pubCells, h] using (one_pubCells (cs := cs)).map _
    | _ => exact (one_pubCells (cs := cs)).map _
theorem one_pubSV {n sz : Nat} {get : Nat → Nat → D} {v : SV} : One (pubSV n sz get v) := by
  cases v with
  | osl m s off len =>
    show One fun K => pubSV n sz get (.osl m s off len) K
    simp only [pubSV]
    split
    · exact One.ret _
    · exact One.ret _
  | agg cs => exact (one_pubCells (cs := cs)).map _
  | tup cs => exact (one_pubCells (cs := cs)).map _
  | _ => exact One.ret _
theorem one_pubS {n sz : Nat} {get : Nat → Nat → D} : ∀ {l : List (Nat × SV)}, One (pubS n sz get l)
  | [] => One.ret _
  | (i, v) :: l => one_pubSV.bind fun v => (one_pubS (l := l)).map _
theorem one_pubO {n sz : Nat} {get : Nat → Nat → D} : ∀ {l : List (Nat × Blk)}, One (pubO n sz get l)
  | [] => One.ret _
  | (i, b) :: l => by
    cases b with
    | box cs =>
      cases h : Nat.beq i n with
      | true => simpa only [pubO, h] using one_pubO (l := l)
      | false => simpa only [pubO, h] using one_pubCells.bind fun cs => (one_pubO (l := l)).map fun r => (i, Blk.box cs) :: r
    | arr s cs =>
      cases h : Nat.beq i n with
      | true => simpa only [pubO, h] using one_pubO (l := l)
      | false => simpa only [pubO, h] using one_pubCells.bind fun cs => (one_pubO (l := l)).map fun r => (i, Blk.arr s cs) :: r
    | _ =>
      cases h : Nat.beq i n with
      | true => simpa only [pubO, h] using one_pubO (l := l)
      | false => simpa only [pubO, h] using (one_pubO (l := l)).map fun r => (i, _) :: r
theorem one_pubs {n0 : List Nat} : ∀ {ns : List Nat} {s : List (Nat × SV)} {o : List (Nat × Blk)}, One fun K : List (Nat × SV) × List (Nat × Blk) → Prop => pubs n0 ns s o fun a b => K (a, b)
  | [], s, o => One.ret (s, o)
  | n :: ns, s, o => by
    cases h0 : memN n n0 with
    | true => simpa only [pubs, h0] using One.stuck _
    | false =>
      cases h : lookO o n with
      | none => simpa only [pubs, h, h0] using one_pubs (ns := ns)
      | some b => cases b with
        | row E sz len get => simpa only [pubs, h, h0] using (one_pubS (l := s)).bind fun s => (one_pubO (l := o)).bind fun o => one_pubs (ns := ns)
        | _ => simpa only [pubs, h, h0] using One.stuck _
theorem one_stay {α : Type} {del n0 : List Nat} {f : (α → Prop) → Prop} (hf : One f) : One fun K => stayK del n0 (f K) := by
  cases h : disjN del n0 with
  | true => simpa only [stayK, h] using hf
  | false => simpa only [stayK, h] using One.stuck _
theorem one_applyK {u : Upd} {σ : St} : One (applyK u σ) := by
  obtain ⟨dst, v, own, del, new, pub⟩ := u
  obtain ⟨s, o, nm, n0⟩ := σ
  cases dst with
  | none => exact (one_pubs (ns := pub) (s := s) (o := o)).bind (g := fun x (K : St → Prop) => stayK del n0 (delsO x.2 del fun o => setsO o own fun o => freshK new nm fun nm => K ⟨x.1, o, nm, n0⟩)) fun x =>
      one_stay <| one_delsO.bind fun o => one_setsO.bind fun o => one_fresh.bind fun nm => One.ret _
  | some d => exact (one_pubs (ns := pub) (s := s) (o := o)).bind (g := fun x (K : St → Prop) => stayK del n0 (delsO x.2 del fun o => setsO o own fun o => freshK new nm fun nm => delS x.1 d fun s => K ⟨(d, v) :: s, o, nm, n0⟩)) fun x =>
      one_stay <| one_delsO.bind fun o => one_setsO.bind fun o => one_fresh.bind fun nm => one_delS.bind fun s => One.ret _
theorem one_getPre : ∀ {ns : List Nat} {o : List (Nat × Blk)}, One (getPre ns o)
  | [], o => One.ret _
  | n :: ns, o => by
    cases h : lookO o n with
    | none => simpa only [getPre, h] using One.stuck _
    | some b => cases b with
      | box cs => simpa only [getPre, h] using (one_getPre (ns := ns) (o := o)).map fun r => (n, Blk.box cs) :: r
      | row E sz len g => simpa only [getPre, h] using (one_getPre (ns := ns) (o := o)).map fun r => (n, Blk.row E sz len g) :: r
      | _ => simpa only [getPre, h] using One.stuck _
theorem one_callVC {f : FuncId} {args : List SV} {pre : List (Nat × Blk)} {bor : List Nat} : One fun K : SV × List (Nat × Blk) → Prop => CallVC P G f args pre bor fun a b => K (a, b) := by
  intro K h
  obtain ⟨res, post, h, hb, k⟩ := h
  exact ⟨(res, post), k, fun K' hk => ⟨res, post, h, hb, hk⟩⟩
theorem one_run : ∀ {m : M Upd} {σ : St}, One (m.run P G σ) := by
  intro m
  induction m with
  | ret u => intro σ; exact one_applyK
  | slot k f ih =>
    intro ⟨s, o, nm, n0⟩
    show One fun K => M.run P G (.slot k f) ⟨s, o, nm, n0⟩ K
    simp only [M.run]
    split
    · exact ih _
    · exact One.stuck _
  | own k f ih =>
    intro ⟨s, o, nm, n0⟩
    show One fun K => M.run P G (.own k f) ⟨s, o, nm, n0⟩ K
    simp only [M.run]
    split
    · exact ih _
    · exact One.stuck _
  | need p m ih => intro σ; exact (ih (σ := σ)).need
  | split b x y ih1 ih2 => intro σ; exact (ih1 (σ := σ)).bc (ih2 (σ := σ))
  | call dst f args names bor pub =>
    intro ⟨s, o, nm, n0⟩
    exact (one_pubs (ns := pub) (s := s) (o := o)).bind (g := fun x K => getPre names x.2 fun pre => CallVC P G f args pre bor fun res post => applyK ⟨dst, res, post, [], newP pre post, []⟩ ⟨x.1, x.2, nm, n0⟩ K) fun x =>
      one_getPre.bind fun pre => (one_callVC (P := P) (G := G) (f := f) (args := args) (pre := pre) (bor := bor)).bind (g := fun y K => applyK ⟨dst, y.1, y.2, [], newP pre y.2, []⟩ ⟨x.1, x.2, nm, n0⟩ K) fun y => one_applyK
  | fail why => intro σ; exact One.stuck _
theorem one_runR : ∀ {m : M Upd} {σ : St} {rs ro : List Nat}, One fun K : Upd × List Nat × List Nat → Prop => m.runR P G σ rs ro fun u a b => K (u, a, b) := by
  intro m
  induction m with
  | ret u =>
    intro σ rs ro
    obtain ⟨dst, v, own, del, new, pub⟩ := u
    cases pub with
    | nil => exact One.ret (_, _, _)
    | cons _ _ => exact One.stuck _
  | slot k f ih =>
    intro ⟨s, o, nm, n0⟩ rs ro
    simp only [M.runR]
    split
    · exact ih _
    · exact One.stuck _
  | own k f ih =>
    intro ⟨s, o, nm, n0⟩ rs ro
    simp only [M.runR]
    split
    · exact ih _
    · exact One.stuck _
  | need p m ih => intro σ rs ro; exact (ih (σ := σ) (rs := rs) (ro := ro)).need
  | split b x y ih1 ih2 => intro σ rs ro; exact (ih1 (σ := σ) (rs := rs) (ro := ro)).bc (ih2 (σ := σ) (rs := rs) (ro := ro))
  | call dst f args names bor pub =>
    intro ⟨s, o, nm, n0⟩ rs ro
    cases pub with
    | nil => exact one_getPre.bind (g := fun pre (K : Upd × List Nat × List Nat → Prop) => CallVC P G f args pre bor fun res post => K (⟨dst, res, post, [], newP pre post, []⟩, rs, names ++ ro)) fun pre =>
        (one_callVC (P := P) (G := G) (f := f) (args := args) (pre := pre) (bor := bor)).bind (g := fun y (K : Upd × List Nat × List Nat → Prop) => K (⟨dst, y.1, y.2, [], newP pre y.2, []⟩, rs, names ++ ro)) fun y => One.ret (_, _, _)
    | cons _ _ => exact One.stuck _
  | fail why => intro σ rs ro; exact One.stuck _
theorem one_skip {dst : Option Nat} {σ : St} : One (skipOp dst σ) := by
  obtain ⟨s, o, nm, n0⟩ := σ
  cases dst with
  | none => exact One.ret _
  | some d => exact one_delS.bind fun s => One.ret _
theorem one_lit {d : Nat} {b : Bool} {σ : St} : One (litK d b σ) := by
  obtain ⟨s, o, nm, n0⟩ := σ
  exact one_delS.bind fun s => One.ret _
theorem one_ops {ops : List Oper} : ∀ {rest : List Oper} {σ : St}, One (execOps P G E nt ops rest σ)
  | [], σ => One.ret σ
  | ⟨dst, op, _, _, _, none⟩ :: rest, σ => by
    show One fun K => execOps P G E nt ops (⟨dst, op, _, _, _, none⟩ :: rest) σ K
    simp only [execOps]
    split
    · exact one_run.bind fun σ => one_ops (rest := rest)
    · exact One.stuck _
  | ⟨dst, op, _, _, _, some (j, want)⟩ :: rest, σ => by
    show One fun K => execOps P G E nt ops (⟨dst, op, _, _, _, some (j, want)⟩ :: rest) σ K
    simp only [execOps]
    split
    · split
      · exact (one_lit.bind fun σ => (one_run.bind fun σ => one_ops (rest := rest)).bc (one_skip.bind fun σ => one_ops (rest := rest))).bc
          (one_lit.bind fun σ => (one_skip.bind fun σ => one_ops (rest := rest)).bc (one_run.bind fun σ => one_ops (rest := rest)))
      · exact one_skip.bind fun σ => one_ops (rest := rest)
      · exact One.stuck _
    · exact One.stuck _
theorem one_draw {ops : List Oper} : ∀ {rest : List Oper} {i : Nat} {σ : St} {acc : List Foot}, One fun K : List Foot × St → Prop => drawOps P G E nt ops i rest σ acc fun a b => K (a, b)
  | [], i, σ, acc => One.ret (acc, σ)
  | ⟨dst, op, _, _, _, none⟩ :: rest, i, σ, acc => by
    simp only [drawOps]
    split
    · exact (one_runR (P := P) (G := G) (m := opM P G E dst op) (rs := []) (ro := [])).bind (g := fun x K => applyK x.1 σ fun σ => drawOps P G E nt ops (i + 1) rest σ (⟨i, x.2.1, x.2.2, wsU x.1, keysU x.1⟩ :: acc) fun a b => K (a, b)) fun x => one_applyK.bind fun σ => one_draw (rest := rest)
    · exact One.stuck _
  | ⟨dst, op, _, _, _, some (j, want)⟩ :: rest, i, σ, acc => by
    simp only [drawOps]
    split
    · split
      · exact (one_lit.bind fun σ => ((one_runR (P := P) (G := G) (m := opM P G E dst op) (rs := _) (ro := [])).bind (g := fun x K => applyK x.1 σ fun σ => drawOps P G E nt ops (i + 1) rest σ (⟨i, x.2.1, x.2.2, wsU x.1, keysU x.1⟩ :: acc) fun a b => K (a, b)) fun x => one_applyK.bind fun σ => one_draw (rest := rest)).bc (one_skip.bind fun σ => one_draw (rest := rest))).bc
          (one_lit.bind fun σ => (one_skip.bind fun σ => one_draw (rest := rest)).bc ((one_runR (P := P) (G := G) (m := opM P G E dst op) (rs := _) (ro := [])).bind (g := fun x K => applyK x.1 σ fun σ => drawOps P G E nt ops (i + 1) rest σ (⟨i, x.2.1, x.2.2, wsU x.1, keysU x.1⟩ :: acc) fun a b => K (a, b)) fun x => one_applyK.bind fun σ => one_draw (rest := rest)))
      · exact one_skip.bind fun σ => one_draw (rest := rest)
      · exact One.stuck _
    · exact One.stuck _
theorem one_loop {step : St → (Ex → St → Prop) → Prop} (hs : ∀ σ, One fun K : Ex × St → Prop => step σ fun a b => K (a, b)) : ∀ {n : Nat} {σ : St}, One fun K : Ex × St → Prop => loopN step n σ fun a b => K (a, b)
  | 0, σ => fun _ h => h.elim
  | n + 1, σ => by
    intro K h
    obtain ⟨⟨e, σ'⟩, h1, h2⟩ := hs σ (fun x => match x.1 with
      | .normal => ∃ σ'', EntC x.2 σ'' ∧ loopN step n σ'' fun a b => K (a, b)
      | .exit i => K (.exit i, x.2)
      | .ret => K (.ret, x.2)) h
    cases e with
    | normal =>
      obtain ⟨σ'', h3, h4⟩ := h1
      obtain ⟨y, h5, h6⟩ := one_loop hs (n := n) (σ := σ'') K h4
      exact ⟨y, h5, fun K' hk => h2 (fun x => match x.1 with
        | .normal => ∃ σ'', EntC x.2 σ'' ∧ loopN step n σ'' fun a b => K' (a, b)
        | .exit i => K' (.exit i, x.2)
        | .ret => K' (.ret, x.2)) ⟨σ'', h3, h6 K' hk⟩⟩
    | exit i => exact ⟨(.exit i, σ'), h1, fun K' hk => h2 (fun x => match x.1 with
        | .normal => ∃ σ'', EntC x.2 σ'' ∧ loopN step n σ'' fun a b => K' (a, b)
        | .exit i => K' (.exit i, x.2)
        | .ret => K' (.ret, x.2)) hk⟩
    | ret => exact ⟨(.ret, σ'), h1, fun K' hk => h2 (fun x => match x.1 with
        | .normal => ∃ σ'', EntC x.2 σ'' ∧ loopN step n σ'' fun a b => K' (a, b)
        | .exit i => K' (.exit i, x.2)
        | .ret => K' (.ret, x.2)) hk⟩
theorem one_wk {x : Ex × St} : One fun K : Ex × St → Prop => wkK (fun a b => K (a, b)) x.1 x.2 := by
  obtain ⟨e, σ⟩ := x
  cases e with
  | normal =>
    intro K h
    obtain ⟨σ', he, hk⟩ := h
    exact ⟨(.normal, σ'), hk, fun K' hk => ⟨σ', he, hk⟩⟩
  | exit i => exact One.ret (Ex.exit i, σ)
  | ret => exact One.ret (Ex.ret, σ)
theorem one_exec : ∀ {c : Code} {σ : St}, One fun K : Ex × St → Prop => exec P G E nt c σ fun a b => K (a, b) := by
  intro c
  induction c with
  | skip => intro σ; exact One.ret (Ex.normal, σ)
  | region i ops b =>
    intro σ
    obtain ⟨ops⟩ := ops
    cases b with
    | false => exact one_ops.bind (g := fun σ (K : Ex × St → Prop) => K (.normal, σ)) fun σ => One.ret (Ex.normal, σ)
    | true =>
      intro K h
      obtain ⟨h1, h2⟩ := h
      obtain ⟨x, ⟨h3, h4⟩, h5⟩ := one_draw (P := P) (G := G) (E := E) (nt := nt) (ops := ops) (rest := ops) (i := 0) (σ := σ) (acc := []) (fun x => OrdVC ops x.1 (K (.normal, x.2))) h2
      exact ⟨(.normal, x.2), h4, fun K' hk => ⟨h1, h5 (fun x => OrdVC ops x.1 (K' (.normal, x.2))) ⟨h3, hk⟩⟩⟩
  | seq a b iha ihb =>
    intro σ
    refine (iha (σ := σ)).bind (g := fun x (K : Ex × St → Prop) => match x.1 with
      | .normal => exec P G E nt b x.2 fun a b => K (a, b)
      | .exit i => K (.exit i, x.2)
      | .ret => K (.ret, x.2)) fun x => ?_
    obtain ⟨e, σ⟩ := x
    cases e with
    | normal => exact ihb (σ := σ)
    | exit i => exact One.ret (Ex.exit i, σ)
    | ret => exact One.ret (Ex.ret, σ)
  | cond x a b iha ihb =>
    intro σ
    cases x with
    | tmp t =>
      simp only [exec]
      split
      · exact ((iha (σ := σ)).bind (g := fun x (K : Ex × St → Prop) => wkK (fun a b => K (a, b)) x.1 x.2) fun x => one_wk).bc
          ((ihb (σ := σ)).bind (g := fun x (K : Ex × St → Prop) => wkK (fun a b => K (a, b)) x.1 x.2) fun x => one_wk)
      · exact One.stuck _
    | _ => exact One.stuck _
  | block id c ih =>
    intro σ
    refine (ih (σ := σ)).bind (g := fun x (K : Ex × St → Prop) => match x.1 with
      | .exit i => match Nat.beq i id with
        | true => K (.normal, x.2)
        | false => K (.exit i, x.2)
      | .normal => K (.normal, x.2)
      | .ret => K (.ret, x.2)) fun x => ?_
    obtain ⟨e, σ⟩ := x
    cases e with
    | normal => exact One.ret (Ex.normal, σ)
    | exit i =>
      cases h : Nat.beq i id with
      | true => simpa only [h] using One.ret (Ex.normal, σ)
      | false => simpa only [h] using One.ret (Ex.exit i, σ)
    | ret => exact One.ret (Ex.ret, σ)
  | loop c ih =>
    intro σ K h
    obtain ⟨σ0, n, he, hk⟩ := h
    obtain ⟨y, h1, h2⟩ := one_loop (fun σ => ih (σ := σ)) (n := n) (σ := σ0) K hk
    exact ⟨y, h1, fun K' hk => ⟨σ0, n, he, h2 K' hk⟩⟩
  | exit id => intro σ; exact One.ret (Ex.exit id, σ)
  | ret => intro σ; exact One.ret (Ex.ret, σ)
  | _ => intro σ; exact One.stuck _
theorem exec_mono {c : Code} {σ : St} {K K' : Ex → St → Prop} (h : ∀ e σ, K e σ → K' e σ) (hk : exec P G E nt c σ K) : exec P G E nt c σ K' := by
  obtain ⟨⟨e, σ'⟩, h1, h2⟩ := one_exec (P := P) (G := G) (E := E) (nt := nt) (c := c) (σ := σ) (fun x => K x.1 x.2) hk
  exact h2 (fun x => K' x.1 x.2) (h e σ' h1)

theorem one_ev1 : ∀ {m : M Upd} {σ : St}, One fun K : SV × List (Nat × Blk) → Prop => m.ev1 σ fun a b => K (a, b) := by
  intro m
  induction m with
  | ret u =>
    intro ⟨s, o, nm, n0⟩
    obtain ⟨dst, v, own, del, new, pub⟩ := u
    exact one_pubs.bind fun x => One.ret (v, x.2)
  | slot k f ih =>
    intro ⟨s, o, nm, n0⟩
    simp only [M.ev1]
    split
    · exact ih _
    · exact One.stuck _
  | own k f ih =>
    intro ⟨s, o, nm, n0⟩
    simp only [M.ev1]
    split
    · exact ih _
    · exact One.stuck _
  | _ => intro σ; exact One.stuck _

/-- The end of a function of which it is said what its results are like. -/
def RetQ (P : Program) (results : List ResultVar) (n0 : List Nat) (own : Bool) {X : Type} (Q : X → Prop) (res : X → SV) (post : X → List (Nat × Blk)) : St → Prop
  | ⟨s, o, nm, m0⟩ => match own with
    | false => (retM P results n0).ev1 ⟨s, o, nm, m0⟩ fun v o => ∃ x, Q x ∧ Fin v o (res x) (post x)
    | true => (retN P results).ev1 ⟨s, o, nm, m0⟩ fun v o => ∃ x, Q x ∧ FinN m0 (res x) (post x) nm v o
def RetKQ (P : Program) (results : List ResultVar) (n0 : List Nat) (own : Bool) {X : Type} (Q : X → Prop) (res : X → SV) (post : X → List (Nat × Blk)) : Ex → St → Prop
  | .normal, σ => RetQ P results n0 own Q res post σ
  | .ret, σ => RetQ P results n0 own Q res post σ
  | .exit _, _ => Stuck "exit"
/-- Some contract of a function: its results are as Q says. -/
theorem spec_some {X : Type} (Q : X → Prop) (res : X → SV) (post : X → List (Nat × Blk)) {f : FuncId} {fn : Func} {args : List SV} {pre : List (Nat × Blk)} (own : Bool) (hE : EOk P E) (hf : P.funcs[f]? = some fn) (hb : fn.body = some (bodyOf fn))
    (henter : ∀ (vs : Array Value) (w : World), (callFunc f vs).run P w = .ok (.enter f vs) w) (hn : Nat.ble args.length fn.ntmps = true) (hstat : ∀ x, (statB args pre (res x) (post x) && notTup1 (res x)) = true)
    (hown : ∀ x, plainP (post x) (keysP pre) = !own)
    (h : exec P G E fn.ntmps (bodyOf fn) ⟨numFrom 0 args, pre, keysP pre, keysP pre⟩ (RetKQ P fn.results.toList (keysP pre) own Q res post)) : ∃ x, Q x ∧ Spec P G f args pre (res x) (post x) := by
  obtain ⟨⟨e, σ'⟩, h1, h2⟩ := one_exec (P := P) (G := G) (E := E) (nt := fn.ntmps) (c := bodyOf fn) (fun x => RetKQ P fn.results.toList (keysP pre) own Q res post x.1 x.2) h
  have fin : RetQ P fn.results.toList (keysP pre) own Q res post σ' → ∃ x, Q x ∧ RetE P fn.results.toList (keysP pre) (res x) (post x) σ' := by
    intro h
    obtain ⟨s, o, nm, m0⟩ := σ'
    cases own with
    | false =>
      obtain ⟨⟨v, o'⟩, ⟨x, hq, hx⟩, h4⟩ := one_ev1 (fun y => ∃ x, Q x ∧ Fin y.1 y.2 (res x) (post x)) h
      refine ⟨x, hq, ?_⟩
      simp only [RetE, hown x, Bool.not_false]
      exact h4 (fun y => Fin y.1 y.2 (res x) (post x)) hx
    | true =>
      obtain ⟨⟨v, o'⟩, ⟨x, hq, hx⟩, h4⟩ := one_ev1 (fun y => ∃ x, Q x ∧ FinN m0 (res x) (post x) nm y.1 y.2) h
      refine ⟨x, hq, ?_⟩
      simp only [RetE, hown x, Bool.not_true]
      exact h4 (fun y => FinN m0 (res x) (post x) nm y.1 y.2) hx
  cases e with
  | normal =>
    obtain ⟨x, hq, hx⟩ := fin h1
    exact ⟨x, hq, spec_intro hE hf hb henter hn (hstat x) (h2 (fun y => RetK P fn.results.toList (keysP pre) (res x) (post x) y.1 y.2) hx)⟩
  | ret =>
    obtain ⟨x, hq, hx⟩ := fin h1
    exact ⟨x, hq, spec_intro hE hf hb henter hn (hstat x) (h2 (fun y => RetK P fn.results.toList (keysP pre) (res x) (post x) y.1 y.2) hx)⟩
  | exit i => exact h1.out.elim

end Go.Sx
