/- Part of a symbolic executor over the model, proved sound, with plain laws: SxTo. Written for these claims. -/
import Derived.Test.YtigmgeglnbjfeaaDoorSxConc
namespace Go.Sx
open Go
set_option linter.unusedVariables false
set_option linter.unusedSimpArgs false

variable {P : Program} {G : Nat → Option (Nat × (Nat → D))} {nt : Nat} {C : Ctx} {I : Nat → Prop} {ρ : Nat → Loc} {F : Fs} {a : Act} {w : World}

/-! ### what an update does to a state -/
inductive Pubs : Fs → List Nat → Fs → Prop where
  | nil (F : Fs) : Pubs F [] F
  | row {F F' : Fs} {n E sz len : Nat} {get : Nat → Nat → D} {ns : List Nat} (h : F.o n = some (.row E sz len get)) (h0 : ¬ F.n0 n) (t : Pubs (pubF F n sz get) ns F') : Pubs F (n :: ns) F'
  | none {F F' : Fs} {n : Nat} {ns : List Nat} (h : F.o n = Option.none) (t : Pubs F ns F') : Pubs F (n :: ns) F'

/-- the named boxes -/
def PreOk (F : Fs) (names : List Nat) (pre : List (Nat × Blk)) : Prop := pre.map (·.1) = names ∧ ∀ n b, (n, b) ∈ pre → F.o n = some b ∧ goLike b

/-- A run of M over a state: what it comes to. -/
inductive To (P : Program) (G : Nat → Option (Nat × (Nat → D))) (F : Fs) : M Upd → Upd → Prop where
  | ret (u : Upd) : To P G F (.ret u) u
  | slot {k : Nat} {f : SV → M Upd} {v : SV} {u : Upd} (h : F.s k = some v) (t : To P G F (f v) u) : To P G F (.slot k f) u
  | own {n : Nat} {f : Blk → M Upd} {b : Blk} {u : Upd} (h : F.o n = some b) (t : To P G F (f b) u) : To P G F (.own n f) u
  | need {p : Prop} {m : M Upd} {u : Upd} (h : p) (t : To P G F m u) : To P G F (.need p m) u
  | split1 {b : Bool} {x y : M Upd} {u : Upd} (h : b = true) (t : To P G F x u) : To P G F (.split b x y) u
  | split2 {b : Bool} {x y : M Upd} {u : Upd} (h : b = false) (t : To P G F y u) : To P G F (.split b x y) u
  | call {dst : Option Nat} {f : FuncId} {args : List SV} {names bor pub : List Nat} {F1 : Fs} {pre : List (Nat × Blk)} {res : SV} {post : List (Nat × Blk)}
      (p : Pubs F pub F1) (hp : PreOk F1 names pre) (h : Spec P G f args pre res post) (hb : bor = [] ∨ (flatS res = true ∧ post = [])) :
      To P G F (.call dst f args names bor pub) { dst, v := res, own := post, del := [], new := newP pre post, pub }

/-- the new names are new, the names that go are not the caller's -/
structure Fresh (F : Fs) (u : Upd) : Prop where
  new : ∀ n ∈ u.new, ¬ F.nm n
  del : ∀ n ∈ u.del, ¬ F.n0 n

theorem To.ret_inv {u0 u : Upd} (h : To P G F (.ret u0) u) : u = u0 := by cases h; rfl
theorem To.slot_inv {k : Nat} {f : SV → M Upd} {u : Upd} (h : To P G F (.slot k f) u) : ∃ v, F.s k = some v ∧ To P G F (f v) u := by cases h with | slot h t => exact ⟨_, h, t⟩
theorem To.own_inv {k : Nat} {f : Blk → M Upd} {u : Upd} (h : To P G F (.own k f) u) : ∃ v, F.o k = some v ∧ To P G F (f v) u := by cases h with | own h t => exact ⟨_, h, t⟩
theorem To.need_inv {p : Prop} {m : M Upd} {u : Upd} (h : To P G F (.need p m) u) : p ∧ To P G F m u := by cases h with | need h t => exact ⟨h, t⟩
theorem To.fail_inv {why : String} {u : Upd} (h : To P G F (.fail why) u) : False := by cases h

/-- Rep of names that are in use. -/
structure Val (G : Nat → Option (Nat × (Nat → D))) (I : Nat → Prop) (ρ : Nat → Loc) (F : Fs) (w : World) (sv : SV) (v : Value) : Prop where
  rep : RepS I ρ w sv v
  nm : ∀ n, inS n sv → F.nm n

structure Vals (I : Nat → Prop) (ρ : Nat → Loc) (F : Fs) (w : World) (cs : List SV) (us : List Value) : Prop where
  rep : RepL I ρ w cs us
  nm : ∀ n, inL n cs → F.nm n

theorem To.nthK_inv {k : SV → M Upd} {u : Upd} : ∀ {l : List SV} {n : Nat}, To P G F (nthK l n k) u → ∃ x, l[n]? = some x ∧ To P G F (k x) u
  | [], _, h => by simp only [nthK] at h; exact h.fail_inv.elim
  | x :: _, 0, h => ⟨x, rfl, h⟩
  | _ :: l, n + 1, h => by simpa using To.nthK_inv (l := l) (n := n) h

theorem To.dropK_inv {k : List SV → M Upd} {u : Upd} : ∀ {l : List SV} {n : Nat}, To P G F (dropK n l k) u → n ≤ l.length ∧ To P G F (k (l.drop n)) u
  | _, 0, h => ⟨Nat.zero_le _, h⟩
  | [], _ + 1, h => by simp only [dropK] at h; exact h.fail_inv.elim
  | _ :: l, n + 1, h => by
    obtain ⟨h1, h2⟩ := To.dropK_inv (l := l) (n := n) h
    exact ⟨by simp; exact h1, h2⟩

theorem To.takeK_inv {u : Upd} : ∀ {n : Nat} {l : List SV} {k : List SV → M Upd}, To P G F (takeK n l k) u → n ≤ l.length ∧ To P G F (k (l.take n)) u
  | 0, _, _, h => ⟨Nat.zero_le _, h⟩
  | _ + 1, [], _, h => by simp only [takeK] at h; exact h.fail_inv.elim
  | n + 1, x :: l, k, h => by
    obtain ⟨h1, h2⟩ := To.takeK_inv (l := l) (n := n) h
    exact ⟨by simp; exact h1, h2⟩

theorem To.overK_inv {u : Upd} : ∀ {new l : List SV} {k : List SV → M Upd}, To P G F (overK new l k) u → new.length ≤ l.length ∧ To P G F (k (new ++ l.drop new.length)) u
  | [], _, _, h => ⟨Nat.zero_le _, h⟩
  | _ :: _, [], _, h => by simp only [overK] at h; exact h.fail_inv.elim
  | y :: new, _ :: l, k, h => by
    obtain ⟨h1, h2⟩ := To.overK_inv (new := new) (l := l) h
    exact ⟨by simp; exact h1, h2⟩

theorem To.spliceK_inv {u : Upd} {new : List SV} : ∀ {n : Nat} {l : List SV} {k : List SV → M Upd}, To P G F (spliceK n new l k) u →
    n + new.length ≤ l.length ∧ To P G F (k (l.take n ++ new ++ l.drop (n + new.length))) u
  | 0, l, k, h => by
    obtain ⟨h1, h2⟩ := To.overK_inv h
    exact ⟨by omega, by simpa using h2⟩
  | n + 1, [], k, h => by simp only [spliceK] at h; exact h.fail_inv.elim
  | n + 1, x :: l, k, h => by
    obtain ⟨h1, h2⟩ := To.spliceK_inv (n := n) (l := l) h
    refine ⟨by simp; omega, ?_⟩
    rw [show n + 1 + new.length = (n + new.length) + 1 by omega]
    simpa using h2

theorem RepL.get {cs : List SV} {us : List Value} (h : RepL I ρ w cs us) : ∀ {n : Nat} {x : SV}, cs[n]? = some x → ∃ v, us[n]? = some v ∧ RepS I ρ w x v := by
  induction cs generalizing us with
  | nil => intro n x hx; simp at hx
  | cons c cs ih =>
    simp only [RepL] at h
    obtain ⟨u, r, rfl, h1, h2⟩ := h
    intro n x hx
    cases n with
    | zero => simp at hx; subst hx; exact ⟨u, rfl, h1⟩
    | succ n => simpa using ih h2 (by simpa using hx)

theorem RepL.drop {cs : List SV} {us : List Value} (h : RepL I ρ w cs us) : ∀ n : Nat, RepL I ρ w (cs.drop n) (us.drop n) := by
  induction cs generalizing us with
  | nil => intro n; simp only [RepL] at h; subst h; simp [RepL]
  | cons c cs ih =>
    intro n
    cases n with
    | zero => exact h
    | succ n =>
      simp only [RepL] at h
      obtain ⟨u, r, rfl, h1, h2⟩ := h
      simpa using ih h2 n

theorem RepL.take {cs : List SV} {us : List Value} (h : RepL I ρ w cs us) : ∀ n : Nat, RepL I ρ w (cs.take n) (us.take n) := by
  induction cs generalizing us with
  | nil => intro n; simp only [RepL] at h; subst h; simp [RepL]
  | cons c cs ih =>
    intro n
    cases n with
    | zero => simp [RepL]
    | succ n =>
      simp only [RepL] at h
      obtain ⟨u, r, rfl, h1, h2⟩ := h
      simp only [List.take_succ_cons, RepL]
      exact ⟨u, r.take n, rfl, h1, ih h2 n⟩

theorem RepL.append {cs ds : List SV} {us vs : List Value} (h : RepL I ρ w cs us) (h' : RepL I ρ w ds vs) : RepL I ρ w (cs ++ ds) (us ++ vs) := by
  induction cs generalizing us with
  | nil => simp only [RepL] at h; subst h; exact h'
  | cons c cs ih =>
    simp only [RepL] at h
    obtain ⟨u, r, rfl, h1, h2⟩ := h
    simp only [List.cons_append, RepL]
    exact ⟨u, r ++ vs, rfl, h1, ih h2⟩

theorem inL_mem {n : Nat} : ∀ {cs : List SV}, inL n cs ↔ ∃ c ∈ cs, inS n c
  | [] => by simp [inL]
  | c :: cs => by simp [inL, inL_mem (cs := cs)]

theorem inL_sub {n : Nat} {cs ds : List SV} (h : ∀ c ∈ cs, c ∈ ds) (hi : inL n cs) : inL n ds := by
  rw [inL_mem] at hi ⊢
  obtain ⟨c, hc, hn⟩ := hi
  exact ⟨c, h c hc, hn⟩

/-! constants -/
theorem To.sv1K_inv {x : Value} {k : SV → M Upd} {u : Upd} (h : To P G F (sv1K x k) u) : ∃ sv, To P G F (k sv) u ∧ RepS I ρ w sv x ∧ (∀ n, ¬ inS n sv) ∧ x.oneCell' = true := by
  unfold sv1K at h
  split at h
  · exact ⟨_, h, by simp [RepS, RepD], by simp [inS], rfl⟩
  · exact ⟨_, h, by simp [RepS, RepD], by simp [inS], rfl⟩
  · exact ⟨_, h, by simp [RepS, RepD], by simp [inS], rfl⟩
  · exact ⟨_, h, by simp [RepS, RepD, Value.oneCell'], by simp [inS], rfl⟩
  · exact ⟨_, h, by simp [RepS, RepD, Value.oneCell'], by simp [inS], rfl⟩
  · exact ⟨_, h, by simp [RepS, RepD, Value.oneCell'], by simp [inS], rfl⟩
  · exact ⟨_, h, by simp [RepS, RepD, Value.oneCell'], by simp [inS], rfl⟩
  · exact h.fail_inv.elim

theorem To.sv1s_inv {u : Upd} : ∀ {xs : List Value} {k : List SV → M Upd}, To P G F (mapK sv1K xs k) u →
    ∃ cs, To P G F (k cs) u ∧ RepL I ρ w cs xs ∧ (∀ n, ¬ inL n cs) ∧ ∀ x ∈ xs, x.oneCell' = true
  | [], k, h => ⟨[], h, by simp [RepL], by simp [inL], by simp⟩
  | x :: xs, k, h => by
    simp only [mapK] at h
    obtain ⟨sv, h1, h2, h3, h4⟩ := To.sv1K_inv (I := I) (ρ := ρ) (w := w) h
    obtain ⟨cs, h5, h6, h7, h8⟩ := To.sv1s_inv h1
    exact ⟨sv :: cs, h5, by simp only [RepL]; exact ⟨x, xs, rfl, h2, h6⟩, by simp [inL, h3, h7], by simpa [h4] using h8⟩

theorem To.svK_inv {x : Value} {k : SV → M Upd} {u : Upd} (h : To P G F (svK x k) u) : ∃ sv, To P G F (k sv) u ∧ RepS I ρ w sv x ∧ ∀ n, ¬ inS n sv := by
  unfold svK at h
  split at h
  · obtain ⟨cs, h1, h2, h3, h4⟩ := To.sv1s_inv (I := I) (ρ := ρ) (w := w) h
    exact ⟨_, h1, by simp only [RepS]; exact ⟨_, rfl, h2, h4⟩, by simpa [inS] using h3⟩
  · obtain ⟨sv, h1, h2, h3, _⟩ := To.sv1K_inv (I := I) (ρ := ρ) (w := w) h
    exact ⟨sv, h1, h2, h3⟩

/-! operands -/
theorem To.ev_inv {x : Operand} {k : SV → M Upd} {u : Upd} (hc : Conc G nt C I ρ F a w) (h : To P G F (ev x k) u) :
    ∃ sv, To P G F (k sv) u ∧ Val G I ρ F w sv (a.eval x) := by
  cases x with
  | tmp t =>
    obtain ⟨sv, h1, h2⟩ := h.slot_inv
    obtain ⟨v, hv, hr⟩ := hc.slots t sv h1
    refine ⟨sv, h2, ⟨?_, fun n hn => hc.snames t sv n h1 hn⟩⟩
    simp only [Act.eval, Array.getD_eq_getD_getElem?, hv]
    exact hr
  | const v =>
    obtain ⟨sv, h1, h2, h3⟩ := To.svK_inv (I := I) (ρ := ρ) (w := w) h
    exact ⟨sv, h1, ⟨h2, fun n hn => (h3 n hn).elim⟩⟩
  | global g => exact h.fail_inv.elim
  | func f => exact ⟨_, h, ⟨by simp only [RepS, Act.eval]; exact ⟨[], rfl, by simp [RepL]⟩, by simp [inS, inL]⟩⟩

theorem To.evs_inv {u : Upd} (hc : Conc G nt C I ρ F a w) : ∀ {xs : List Operand} {k : List SV → M Upd}, To P G F (evs xs k) u →
    ∃ cs, To P G F (k cs) u ∧ Vals I ρ F w cs (xs.map a.eval)
  | [], k, h => ⟨[], h, ⟨by simp [RepL], by simp [inL]⟩⟩
  | x :: xs, k, h => by
    simp only [evs, mapK] at h
    obtain ⟨sv, h1, h2⟩ := To.ev_inv hc h
    obtain ⟨cs, h3, h4⟩ := To.evs_inv hc (xs := xs) h1
    exact ⟨sv :: cs, h3, ⟨by simp only [RepL, List.map_cons]; exact ⟨_, _, rfl, h2.rep, h4.rep⟩, fun n hn => by
      simp only [inL] at hn
      exact hn.elim (h2.nm n) (h4.nm n)⟩⟩

/-! the cells of a value -/
theorem To.cellsK_inv {sv : SV} {v : Value} {k : List SV → M Upd} {u : Upd} (h : To P G F (cellsK sv k) u) (hv : RepS I ρ w sv v) :
    ∃ cs us, To P G F (k cs) u ∧ Cells I ρ w cs us ∧ v.cells = ⟨us⟩ ∧ ∀ n, inL n cs → inS n sv := by
  have one : ∀ x : Value, x.oneCell' = true → x.cells = #[x] := by intro x hx; cases x <;> first | rfl | (simp [Value.oneCell'] at hx)
  cases sv with
  | agg cs =>
    simp only [RepS] at hv
    obtain ⟨us, rfl, h1, h2⟩ := hv
    exact ⟨cs, us, h, ⟨h1, h2⟩, rfl, fun n hn => by simpa [inS] using hn⟩
  | d x =>
    have h1 : v.oneCell' = true := by simp only [RepS] at hv; exact hv.one
    exact ⟨[.d x], [v], h, ⟨by simp only [RepL]; exact ⟨v, [], rfl, hv, rfl⟩, by simpa using h1⟩, one v h1, by simp [inL]⟩
  | ptr n o =>
    have h1 : v.oneCell' = true := by simp only [RepS] at hv; subst hv; rfl
    exact ⟨[.ptr n o], [v], h, ⟨by simp only [RepL]; exact ⟨v, [], rfl, hv, rfl⟩, by simpa using h1⟩, one v h1, by simp [inL]⟩
  | optr n s i o =>
    have h1 : v.oneCell' = true := by simp only [RepS] at hv; rw [hv.2]; rfl
    exact ⟨[.optr n s i o], [v], h, ⟨by simp only [RepL]; exact ⟨v, [], rfl, hv, rfl⟩, by simpa using h1⟩, one v h1, by simp [inL]⟩
  | osl n s o l =>
    have h1 : v.oneCell' = true := by simp only [RepS] at hv; obtain ⟨_, _, _, b, rfl, _⟩ := hv; rfl
    exact ⟨[.osl n s o l], [v], h, ⟨by simp only [RepL]; exact ⟨v, [], rfl, hv, rfl⟩, by simpa using h1⟩, one v h1, by simp [inL]⟩
  | cptr s g =>
    have h1 : v.oneCell' = true := by simp only [RepS] at hv; obtain ⟨b, o, rfl, _⟩ := hv; rfl
    exact ⟨[.cptr s g], [v], h, ⟨by simp only [RepL]; exact ⟨v, [], rfl, hv, rfl⟩, by simpa using h1⟩, one v h1, by simp [inL]⟩
  | clo f cs =>
    have h1 : v.oneCell' = true := by simp only [RepS] at hv; obtain ⟨_, rfl, _⟩ := hv; rfl
    exact ⟨[.clo f cs], [v], h, ⟨by simp only [RepL]; exact ⟨v, [], rfl, hv, rfl⟩, by simpa using h1⟩, one v h1, by simp [inL]⟩
  | _ => exact h.fail_inv.elim

/-! types -/
theorem und_info {T : TypeId} {d : TypeDesc} (h : P.underlying T = some d) : ∃ i, P.info? T = some i ∧ P.cellsOf T = i.size := by
  unfold Program.underlying at h
  cases hi : P.info? T with
  | none => simp [hi] at h
  | some i => exact ⟨i, rfl, by simp [Program.cellsOf, hi]⟩

theorem run_sizeOf' {T : TypeId} {i : TypeInfo} (h : P.info? T = some i) : (sizeOf T).run P w = .ok i.size w := by
  simp [sizeOf, typeInfo, h]
theorem run_isAgg' {T : TypeId} {d : TypeDesc} (h : P.underlying T = some d) : (isAgg T).run P w = .ok (isAggD d) w := by
  simp only [isAgg, Sem.run_bind, run_underlying h, Result.andThen_ok]
  cases d <;> rfl

theorem kEq_eq {i j : IntKind} (h : kEq i j = true) : i = j := by cases i <;> cases j <;> first | rfl | (simp [kEq] at h)

theorem To.nthF_inv {k : Nat → Nat → M Upd} {u : Upd} : ∀ {l : List Field} {n : Nat}, To P G F (nthF l n k) u → ∃ x, l[n]? = some x ∧ To P G F (k x.offset x.type) u
  | [], _, h => by simp only [nthF] at h; exact h.fail_inv.elim
  | x :: _, 0, h => ⟨x, rfl, h⟩
  | ⟨_, _, _, _, _, _, _⟩ :: l, n + 1, h => by simpa using To.nthF_inv (l := l) (n := n) h

theorem To.fieldK_inv {T f : Nat} {k : Nat → Nat → M Upd} {u : Upd} (h : To P G F (fieldK P T f k) u) :
    ∃ fs x, P.underlying T = some (.struct fs) ∧ fs[f]? = some x ∧ To P G F (k x.offset x.type) u := by
  unfold fieldK at h
  split at h
  · rename_i fs hu
    obtain ⟨x, h1, h2⟩ := To.nthF_inv h
    exact ⟨⟨fs⟩, x, hu, by simpa using h1, h2⟩
  · exact h.fail_inv.elim

theorem To.elemK_inv {T : Nat} {k : Nat → Nat → M Upd} {u : Upd} (h : To P G F (elemK P T k) u) :
    ∃ E, P.underlying T = some (.slice E) ∧ To P G F (k E (P.cellsOf E)) u := by
  unfold elemK at h
  split at h
  · exact ⟨_, by assumption, h⟩
  · exact h.fail_inv.elim

/-- the value of type T whose cells open 'us' -/
def partVal (d : TypeDesc) (n : Nat) (us : List Value) (v : Value) : Prop :=
  if isAggD d = true then v = .agg ⟨us.take n⟩ ∧ n ≤ us.length else us[0]? = some v

theorem To.partK_inv {T : Nat} {cs : List SV} {us : List Value} {k : SV → M Upd} {u : Upd} (h : To P G F (partK P T cs k) u) (hc : Cells I ρ w cs us) (hn : ∀ n, inL n cs → F.nm n) :
    ∃ d sv v, P.underlying T = some d ∧ To P G F (k sv) u ∧ Val G I ρ F w sv v ∧ partVal d (P.cellsOf T) us v := by
  unfold partK at h
  split at h
  · exact h.fail_inv.elim
  · rename_i d hd
    split at h
    · rename_i ha
      obtain ⟨h1, h2⟩ := To.takeK_inv h
      have hl := hc.1.length
      refine ⟨d, _, .agg ⟨us.take (P.cellsOf T)⟩, hd, h2, ⟨?_, ?_⟩, ?_⟩
      · simp only [RepS]
        exact ⟨_, rfl, hc.1.take _, fun x hx => hc.2 x (List.mem_of_mem_take hx)⟩
      · intro n hin
        simp only [inS] at hin
        exact hn n (inL_sub (fun c hc => List.mem_of_mem_take hc) hin)
      · simp only [partVal, ha, if_true]
        exact ⟨trivial, by omega⟩
    · rename_i ha
      obtain ⟨x, h1, h2⟩ := To.nthK_inv h
      obtain ⟨v, hv, hr⟩ := hc.1.get h1
      refine ⟨d, x, v, hd, h2, ⟨hr, fun n hin => hn n (inL_mem.2 ⟨x, List.mem_of_getElem? h1, hin⟩)⟩, ?_⟩
      simp only [partVal, ha]
      exact hv

/-- loadVar reads the cells -/
theorem run_loadVar_part {T : Nat} {d : TypeDesc} (hd : P.underlying T = some d) {ad : Addr} {us : List Value} {v : Value} (hv : partVal d (P.cellsOf T) us v)
    (hcell : ∀ j x, us[j]? = some x → w.cell? (ad.add j) = some x) : (loadVar T ad).run P w = .ok v w := by
  obtain ⟨i, hi, hsz⟩ := und_info hd
  simp only [loadVar, Sem.run_bind, run_isAgg' hd, Result.andThen_ok]
  unfold partVal at hv
  split at hv
  · rename_i ha
    obtain ⟨rfl, hl⟩ := hv
    have hlen : (us.take (P.cellsOf T)).length = P.cellsOf T := by simp; omega
    have hld := run_loadCells_list (P := P) w ad (us.take (P.cellsOf T)) (fun j x hx => hcell j x (by rw [List.getElem?_take] at hx; split at hx <;> simp_all))
    rw [hlen] at hld
    simp only [ha, if_true, Sem.run_bind, run_sizeOf' hi, Result.andThen_ok, ← hsz, hld, Sem.run_pure]
  · rename_i ha
    have h0 := hcell 0 v hv
    have : ad.add 0 = ad := rfl
    rw [this] at h0
    simp [ha, h0]

end Go.Sx
