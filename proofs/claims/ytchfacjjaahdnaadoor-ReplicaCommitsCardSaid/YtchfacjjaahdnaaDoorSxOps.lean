/- Part of a symbolic executor over the model, proved sound, with plain laws: SxOps. Written for these claims. -/
import Derived.Test.YtchfacjjaahdnaaDoorSxTo
namespace Go.Sx
open Go
set_option linter.unusedVariables false
set_option linter.unusedSimpArgs false

variable {P : Program} {G : Nat → Option (Nat × (Nat → D))} {nt : Nat} {C : Ctx} {I : Nat → Prop} {ρ : Nat → Loc} {F : Fs} {a : Act} {w : World} {E : List Nat}

theorem Conc.pubs {F' : Fs} {ns : List Nat} (p : Pubs F ns F') (h : Conc G nt C I ρ F a w) : ∃ I', Conc G nt C I' ρ F' a w ∧ ∀ b, I b → I' b := by
  induction p generalizing I with
  | nil => exact ⟨I, h, fun _ h => h⟩
  | row hn _ ih =>
    obtain ⟨I', h1, h2⟩ := ih (h.pub hn)
    exact ⟨I', h1, fun b hb => h2 b (.inl hb)⟩
  | none _ _ ih => exact ih h

def delsF (F : Fs) : List Nat → Fs
  | [] => F
  | n :: ns => delsF (delF F n) ns
def setsF (F : Fs) : List (Nat × Blk) → Fs
  | [] => F
  | (n, b) :: ns => setsF (setO F n b) ns
def nmF (F : Fs) : List Nat → Fs
  | [] => F
  | n :: ns => nmF { F with nm := fun m => m = n ∨ F.nm m } ns
def finF (F : Fs) (u : Upd) : Fs := putS (nmF (setsF (delsF F u.del) u.own) u.new) u.dst u.v

/-- an operation that gives a value -/
theorem wp_value {o : Oper} {v : Value} {w' : World} {next : Act → World → Prop} {Q : Exit → Act → World → Prop} (h : (execOp a.eval o).run P w = .ok (.value v) w')
    (hn : next (a.put o.dst v) w') : o.wp P a w next Q := by
  unfold Oper.wp; rw [h]; exact hn
theorem wp_skip' {o : Oper} {w' : World} {next : Act → World → Prop} {Q : Exit → Act → World → Prop} (h : (execOp a.eval o).run P w = .ok .skip w')
    (hn : next (a.put o.dst undef) w') : o.wp P a w next Q := by
  unfold Oper.wp; rw [h]; exact hn

/-- what is to be shown of an operation: it comes to the updated state. -/
def OpOk (P : Program) (G : Nat → Option (Nat × (Nat → D))) (nt : Nat) (C : Ctx) (I : Nat → Prop) (ρ : Nat → Loc) (a : Act) (w : World) (o : Oper) (F' : Fs) : Prop :=
  ∀ (next : Act → World → Prop) (Q : Exit → Act → World → Prop), (∀ I' ρ' v w', Conc G nt C I' ρ' F' (a.put o.dst v) w' → next (a.put o.dst v) w') → o.wp P a w next Q

/-- the usual case: a value, the world as it was -/
theorem opOk_val (hc : Conc G nt C I ρ F a w) {o : Oper} {sv : SV} {v : Value} (hv : Val G I ρ F w sv v) (hd : dstOk nt o.dst)
    (h : (execOp a.eval o).run P w = .ok (.value v) w) : OpOk P G nt C I ρ a w o (putS F o.dst sv) :=
  fun next Q hn => wp_value h (hn I ρ v w (hc.put hd hv.rep hv.nm))

theorem upd_inv {dst : Option Nat} {sv : SV} {u : Upd} (h : To P G F (upd dst sv) u) : u = { dst, v := sv, own := [], del := [], new := [], pub := [] } := h.ret_inv
theorem dstK_inv {dst : Option Nat} {k : Nat → M Upd} {u : Upd} (h : To P G F (dstK dst k) u) : ∃ d, dst = some d ∧ To P G F (k d) u := by
  cases dst with
  | none => exact h.fail_inv.elim
  | some d => exact ⟨d, rfl, h⟩

theorem Act.eval_put_ne {d t : Nat} (v : Value) (h : t ≠ d) : (a.put (some d) v).eval (.tmp t) = a.eval (.tmp t) := by
  simp [Act.put, Act.eval, Array.getElem?_setIfInBounds_ne (Ne.symm h)]

/-! ### a new block -/
theorem heap_alloc_lt (w : World) (o : Obj) {k : Nat} (h : k < w.heap.size) : (w.alloc o).heap[k]? = w.heap[k]? := by
  show (w.heap.push o)[k]? = _
  rw [Array.getElem?_push, if_neg (by omega)]
theorem heap_alloc_self (w : World) (o : Obj) : (w.alloc o).heap[w.heap.size]? = some o := by
  show (w.heap.push o)[w.heap.size]? = _
  simp

theorem keep_alloc (S : Nat → Prop) (w : World) (o : Obj) : Keep S w (w.alloc o) :=
  ⟨rfl, rfl, rfl, by simp, fun _ hk _ => heap_alloc_lt w o hk⟩
theorem keep_drew (S : Nat → Prop) (w : World) : Keep S w w.drew := ⟨rfl, rfl, rfl, Nat.le_refl _, fun _ _ _ => rfl⟩

theorem Conc.live_lt (hc : Conc G nt C I ρ F a w) {m : Nat} {b : Blk} (hm : F.o m = some b) (hl : live (ρ m) b) : (ρ m).b < w.heap.size := by
  have h := hc.own m b hm
  cases b with
  | box cs => obtain ⟨us, Eb, h1, _⟩ := h; exact (Array.getElem?_eq_some_iff.1 h1).1
  | row E sz len get =>
    obtain ⟨_, _, _, h2⟩ := h
    obtain ⟨arr, h3, _⟩ := h2 hl
    exact h3.lt
  | iter s pos => exact (Array.getElem?_eq_some_iff.1 h).1

theorem Conc.same_alloc (hc : Conc G nt C I ρ F a w) (o : Obj) : Same I w (w.alloc o) :=
  fun b _ hb => World.cell?_of_block (heap_alloc_lt w o (hc.ilt b hb))

/-- a new block of the function's own -/
theorem Conc.newBlock (hc : Conc G nt C I ρ F a w) {n : Nat} (hn : ¬ F.nm n) {blk : Blk} {o : Obj} {cap rl sz : Nat}
    (hblk : BlkOk I ρ (w.alloc o) ⟨w.heap.size, cap, rl, sz⟩ blk) (hnames : ∀ m, inB m blk → F.nm m) :
    Conc G nt C I (rhoSet ρ n ⟨w.heap.size, cap, rl, sz⟩) (newO F n blk) a (w.alloc o) := by
  refine hc.new hn (hc.same_alloc o) (fun m b hm hl => heap_alloc_lt w o (hc.live_lt hm hl)) (hc.keep.trans (keep_alloc (fun _ => False) w o) (fun _ h => h.elim))
    (fun b hb => by have := hc.ilt b hb; simp; omega) hblk hnames ?_
  intro _
  refine ⟨fun hi => ?_, hc.keep.size, fun m b hm hl e => ?_⟩
  · have := hc.ilt _ hi; simp at this
  · have := hc.live_lt hm hl; rw [e] at this; simp at this

theorem Conc.drew (hc : Conc G nt C I ρ F a w) : Conc G nt C I ρ F a w.drew :=
  hc.world (fun _ h => h) (fun _ _ _ => rfl) (fun _ _ _ _ => rfl) (fun m b hm hl => (hc.sep m b hm hl).1) hc.ilt hc.i1 (hc.keep.trans (keep_drew (fun _ => False) w) (fun _ h => h.elim))

theorem finF_new {n : Nat} {blk : Blk} {dst : Option Nat} {sv : SV} : finF F { dst, v := sv, own := [(n, blk)], del := [], new := [n], pub := [] } = putS (newO F n blk) dst sv := rfl
theorem finF_pub {dst : Option Nat} {sv : SV} {ns : List Nat} : finF F { dst, v := sv, own := [], del := [], new := [], pub := ns } = putS F dst sv := rfl
theorem finF_val {dst : Option Nat} {sv : SV} : finF F { dst, v := sv, own := [], del := [], new := [], pub := [] } = putS F dst sv := rfl
theorem finF_set {n : Nat} {blk : Blk} {dst : Option Nat} {sv : SV} : finF F { dst, v := sv, own := [(n, blk)], del := [], new := [], pub := [] } = putS (setO F n blk) dst sv := rfl

/-! ### alloc, box -/
theorem run_newVar (T : Nat) (v : Value) : (newVar T v).run P w = .ok ⟨w.heap.size, 0, none⟩ (w.alloc (.cells v.cells T)) := by
  simp [newVar, newRow]

theorem To.zeroK_inv {T : Nat} {k : List SV → M Upd} {u : Upd} (h : To P G F (zeroK P T k) u) :
    ∃ i z cs us, P.info? T = some i ∧ i.zero = some z ∧ z.cells = ⟨us⟩ ∧ us.length = i.size ∧ To P G F (k cs) u ∧ Cells I ρ w cs us ∧ ∀ n, ¬ inL n cs := by
  unfold zeroK at h
  split at h
  · rename_i i hi
    split at h
    · rename_i cs hz
      split at h
      · rename_i hl
        obtain ⟨ds, h1, h2, h3, h4⟩ := To.sv1s_inv (I := I) (ρ := ρ) (w := w) h
        exact ⟨i, _, ds, cs, hi, hz, rfl, Nat.eq_of_beq_eq_true hl, h1, ⟨h2, h4⟩, h3⟩
      · exact h.fail_inv.elim
    · rename_i v hne hz
      split at h
      · rename_i hl
        obtain ⟨sv, h1, h2, h3, h4⟩ := To.sv1K_inv (I := I) (ρ := ρ) (w := w) h
        have hcell : v.cells = ⟨[v]⟩ := by cases v <;> first | rfl | (simp [Value.oneCell'] at h4)
        exact ⟨i, v, [sv], [v], hi, hz, hcell, Nat.eq_of_beq_eq_true hl, h1, ⟨by simp only [RepL]; exact ⟨v, [], rfl, h2, rfl⟩, by simpa using h4⟩, by simp [inL, h3]⟩
      · exact h.fail_inv.elim
    · exact h.fail_inv.elim
  · exact h.fail_inv.elim

theorem run_zeroValue' {T : TypeId} {i : TypeInfo} {z : Value} (h : P.info? T = some i) (hz : i.zero = some z) : (zeroValue T).run P w = .ok z w := by
  simp [zeroValue, typeInfo, h, hz]

theorem Cells.alloc (hc : Conc G nt C I ρ F a w) {cs : List SV} {us : List Value} (h : Cells I ρ w cs us) (o : Obj) : Cells I ρ (w.alloc o) cs us :=
  h.mono (fun _ h => h) (hc.same_alloc o) (fun _ _ => rfl)

theorem box_new (hc : Conc G nt C I ρ F a w) {n : Nat} (hn : ¬ F.nm n) {cs : List SV} {us : List Value} {T : Nat} (h : Cells I ρ w cs us) (hnm : ∀ m, inL m cs → F.nm m) :
    Conc G nt C I (rhoSet ρ n ⟨w.heap.size, 0, 0, 0⟩) (newO F n (.box cs)) a (w.alloc (.cells ⟨us⟩ T)) :=
  hc.newBlock hn ⟨us, T, heap_alloc_self w _, h.alloc hc _⟩ hnm

theorem op_alloc (hc : Conc G nt C I ρ F a w) {o : Oper} {T : Nat} (ho : o.op = .alloc T) (hd : dstOk nt o.dst) {u : Upd} (t : To P G F (opM P G E o.dst o.op) u)
    {F1 : Fs} (hp : Pubs F u.pub F1) (hf : ∀ n ∈ u.new, ¬ F.nm n) : OpOk P G nt C I ρ a w o (finF F1 u) := by
  rw [ho] at t
  obtain ⟨d, hdst, t⟩ := dstK_inv t
  obtain ⟨i, z, cs, us, hi, hz, hzc, _, t, h1, h2⟩ := To.zeroK_inv (I := I) (ρ := ρ) (w := w) t
  have := t.ret_inv; subst this
  cases hp
  rw [finF_new]
  have hcn := box_new hc (T := T) (hf d (by simp)) h1 (fun m hm => (h2 m hm).elim)
  intro next Q hn
  refine wp_value (v := .pointer (some ⟨w.heap.size, 0, none⟩)) (w' := w.alloc (.cells ⟨us⟩ T)) ?_ (hn _ _ _ _ (hcn.put (by rw [hdst] at hd ⊢; exact hd) ?_ ?_))
  · simp only [execOp, ho, Sem.run_bind, Instr.alloc, run_zeroValue' hi hz, Result.andThen_ok, run_newVar, Sem.run_pure, hzc]
  · simp [RepS, rhoSet]
  · intro m hm; simp only [inS] at hm; exact .inl hm.symm

theorem op_box (hc : Conc G nt C I ρ F a w) {o : Oper} {T : Nat} {x : Operand} (ho : o.op = .box T x) (hd : dstOk nt o.dst) {u : Upd} (t : To P G F (opM P G E o.dst o.op) u)
    {F1 : Fs} (hp : Pubs F u.pub F1) (hf : ∀ n ∈ u.new, ¬ F.nm n) : OpOk P G nt C I ρ a w o (finF F1 u) := by
  rw [ho] at t
  obtain ⟨d, hdst, t⟩ := dstK_inv t
  obtain ⟨sv, t, hv⟩ := To.ev_inv hc t
  obtain ⟨cs, us, t, h1, h2, h3⟩ := To.cellsK_inv t hv.rep
  have := t.ret_inv; subst this
  cases hp
  rw [finF_new]
  have hcn := box_new hc (T := T) (hf d (by simp)) h1 (fun m hm => hv.nm m (h3 m hm))
  intro next Q hn
  refine wp_value (v := .pointer (some ⟨w.heap.size, 0, none⟩)) (w' := w.alloc (.cells ⟨us⟩ T)) ?_ (hn _ _ _ _ (hcn.put (by rw [hdst] at hd ⊢; exact hd) ?_ ?_))
  · simp only [execOp, ho, Sem.run_bind, Instr.box, Result.andThen_ok, run_newVar, Sem.run_pure, h2]
  · simp [RepS, rhoSet]
  · intro m hm; simp only [inS] at hm; exact .inl hm.symm

theorem op_move (hc : Conc G nt C I ρ F a w) {o : Oper} {x : Operand} (ho : o.op = .move x ∨ o.op = .assign x) (hd : dstOk nt o.dst) {u : Upd} (t : To P G F (opM P G E o.dst o.op) u)
    {F1 : Fs} (hp : Pubs F u.pub F1) : OpOk P G nt C I ρ a w o (finF F1 u) := by
  have t : To P G F (ev x (upd o.dst)) u := by rcases ho with ho | ho <;> (rw [ho] at t; exact t)
  obtain ⟨sv, t, hv⟩ := To.ev_inv hc t
  have := upd_inv t; subst this
  cases hp
  refine opOk_val hc hv hd ?_
  rcases ho with ho | ho <;> simp [execOp, ho]

theorem op_pick (hc : Conc G nt C I ρ F a w) {o : Oper} {c x y : Operand} (ho : o.op = .pick c x y) (hd : dstOk nt o.dst) {u : Upd} (t : To P G F (opM P G E o.dst o.op) u)
    {F1 : Fs} (hp : Pubs F u.pub F1) : OpOk P G nt C I ρ a w o (finF F1 u) := by
  rw [ho] at t
  obtain ⟨sv, t, hv⟩ := To.ev_inv hc t
  split at t
  · rename_i b
    have hcb : a.eval c = .bool b := by have := hv.rep; simpa only [RepS, RepD] using this
    cases t with
    | split1 h t =>
      subst h
      obtain ⟨sv, t, hv⟩ := To.ev_inv hc t
      have := upd_inv t; subst this
      cases hp
      exact opOk_val hc hv hd (by simp [execOp, ho, hcb, asBool])
    | split2 h t =>
      subst h
      obtain ⟨sv, t, hv⟩ := To.ev_inv hc t
      have := upd_inv t; subst this
      cases hp
      exact opOk_val hc hv hd (by simp [execOp, ho, hcb, asBool])
  · exact t.fail_inv.elim

/-! ### load, store -/
theorem cell_box {b : Nat} {us : List Value} {E : Nat} (h : w.heap[b]? = some (.cells ⟨us⟩ E (0, 0))) (o j : Nat) : w.cell? ((⟨b, o, none⟩ : Addr).add j) = us[o + j]? := by
  rw [add_eq]; simp [World.cell?, h]

theorem To.getiK_inv {get : Nat → D} {u : Upd} : ∀ {n j : Nat} {k : List SV → M Upd}, To P G F (getiK get j n k) u → To P G F (k ((List.range n).map fun i => .d (get (j + i)))) u
  | 0, _, _, h => h
  | n + 1, j, k, h => by
    have := To.getiK_inv (n := n) h
    rw [List.range_succ_eq_map, List.map_cons, List.map_map]
    simpa [Function.comp_def, Nat.add_assoc, Nat.add_comm 1] using this

theorem RepL.of_cells {get : Nat → D} {f : Nat → Value} : ∀ {n j : Nat}, (∀ i, i < n → RepD I w (get (j + i)) (f (j + i))) →
    RepL I ρ w ((List.range n).map fun i => .d (get (j + i))) ((List.range n).map fun i => f (j + i)) := by
  intro n
  induction n with
  | zero => intro j _; simp [RepL]
  | succ n ih =>
    intro j h
    rw [List.range_succ_eq_map, List.map_cons, List.map_cons, List.map_map, List.map_map]
    simp only [RepL]
    refine ⟨_, _, rfl, by simpa [RepS] using h 0 (by omega), ?_⟩
    have := ih (j := j + 1) (fun i hi => by have := h (i + 1) (by omega); rwa [show j + (i + 1) = j + 1 + i by omega] at this)
    simpa [Function.comp_def, Nat.add_assoc, Nat.add_comm 1] using this

theorem inL_data {get : Nat → D} {n m : Nat} : ¬ inL m ((List.range n).map fun i => SV.d (get i)) := by
  rw [inL_mem]
  rintro ⟨c, hc, hn⟩
  simp only [List.mem_map] at hc
  obtain ⟨i, _, rfl⟩ := hc
  exact hn

/-- the value of type T read out of immutable cells at an address -/
theorem To.partD_inv {T sz : Nat} {get : Nat → D} {k : SV → M Upd} {u : Upd} (h : To P G F (partD P T sz get k) u) {ad : Addr}
    (hcell : ∀ j, j < sz → ∃ x, w.cell? (ad.add j) = some x ∧ RepD I w (get j) x) :
    ∃ sv v, To P G F (k sv) u ∧ Val G I ρ F w sv v ∧ (loadVar T ad).run P w = .ok v w := by
  unfold partD at h
  split at h
  · exact h.fail_inv.elim
  · rename_i d hd
    split at h
    · rename_i ha
      split at h
      · rename_i hle
        have hle : P.cellsOf T ≤ sz := Nat.le_of_ble_eq_true hle
        have t := To.getiK_inv h
        simp only [Nat.zero_add] at t
        let f : Nat → Value := fun j => (w.cell? (ad.add j)).getD undef
        have hf : ∀ j, j < sz → w.cell? (ad.add j) = some (f j) ∧ RepD I w (get j) (f j) := by
          intro j hj
          obtain ⟨x, h1, h2⟩ := hcell j hj
          have : f j = x := by simp [f, h1]
          rw [this]; exact ⟨h1, h2⟩
        have hr : RepL I ρ w ((List.range (P.cellsOf T)).map fun i => .d (get i)) ((List.range (P.cellsOf T)).map f) := by
          have := RepL.of_cells (ρ := ρ) (get := get) (f := f) (n := P.cellsOf T) (j := 0) (w := w) (I := I) (fun i hi => by simpa using (hf i (by omega)).2)
          simpa using this
        refine ⟨_, .agg ⟨(List.range (P.cellsOf T)).map f⟩, t, ⟨?_, ?_⟩, ?_⟩
        · simp only [RepS]
          refine ⟨_, rfl, hr, ?_⟩
          intro x hx
          simp only [List.mem_map, List.mem_range] at hx
          obtain ⟨j, hj, rfl⟩ := hx
          exact (hf j (by omega)).2.one
        · intro m hm
          simp only [inS] at hm
          exact (inL_data hm).elim
        · refine run_loadVar_part hd (us := (List.range (P.cellsOf T)).map f) ?_ ?_
          · unfold partVal
            rw [if_pos ha, List.take_of_length_le (by simp)]
            exact ⟨rfl, by simp⟩
          · intro j x hx
            simp only [List.getElem?_map, Option.map_eq_some_iff] at hx
            obtain ⟨i, hi, rfl⟩ := hx
            have hij := List.getElem?_eq_some_iff.1 hi
            obtain ⟨hlt, he⟩ := hij
            simp at hlt he
            subst he
            exact (hf j (by omega)).1
      · exact h.fail_inv.elim
    · rename_i ha
      split at h
      · rename_i hle
        have hle : 1 ≤ sz := Nat.le_of_ble_eq_true hle
        obtain ⟨x, h1, h2⟩ := hcell 0 (by omega)
        refine ⟨_, x, h, ⟨by simpa [RepS] using h2, by simp [inS]⟩, ?_⟩
        refine run_loadVar_part hd (us := [x]) ?_ ?_
        · unfold partVal; rw [if_neg (by simp [ha])]; rfl
        · intro j y hy
          cases j with
          | zero => simp at hy; subst hy; exact h1
          | succ j => simp at hy
      · exact h.fail_inv.elim

/-- the value of type T read out of values -/
theorem To.partDV_inv {T sz : Nat} {get : Nat → D} {k : SV → M Upd} {u : Upd} (h : To P G F (partD P T sz get k) u) {us : List Value}
    (hcell : ∀ j, j < sz → ∃ x, us[j]? = some x ∧ RepD I w (get j) x) :
    ∃ sv v d, To P G F (k sv) u ∧ Val G I ρ F w sv v ∧ P.underlying T = some d ∧ partVal d (P.cellsOf T) us v := by
  unfold partD at h
  split at h
  · exact h.fail_inv.elim
  · rename_i d hd
    split at h
    · rename_i ha
      split at h
      · rename_i hle
        have hle : P.cellsOf T ≤ sz := Nat.le_of_ble_eq_true hle
        have t := To.getiK_inv h
        simp only [Nat.zero_add] at t
        let f : Nat → Value := fun j => (us[j]?).getD undef
        have hf : ∀ j, j < sz → us[j]? = some (f j) ∧ RepD I w (get j) (f j) := by
          intro j hj
          obtain ⟨x, h1, h2⟩ := hcell j hj
          have : f j = x := by simp [f, h1]
          rw [this]; exact ⟨h1, h2⟩
        have hr : RepL I ρ w ((List.range (P.cellsOf T)).map fun i => .d (get i)) ((List.range (P.cellsOf T)).map f) := by
          have := RepL.of_cells (ρ := ρ) (get := get) (f := f) (n := P.cellsOf T) (j := 0) (w := w) (I := I) (fun i hi => by simpa using (hf i (by omega)).2)
          simpa using this
        have hlen : P.cellsOf T ≤ us.length := by
          rcases Nat.eq_zero_or_pos (P.cellsOf T) with h0 | h0
          · omega
          · have := (List.getElem?_eq_some_iff.1 (hf (P.cellsOf T - 1) (by omega)).1).1
            omega
        have he : (List.range (P.cellsOf T)).map f = us.take (P.cellsOf T) := by
          apply List.ext_getElem?
          intro j
          by_cases hj : j < P.cellsOf T
          · rw [List.getElem?_map, List.getElem?_range hj, List.getElem?_take, if_pos hj]
            exact (hf j (by omega)).1.symm
          · rw [List.getElem?_eq_none (by simp; omega), List.getElem?_eq_none (by simp; omega)]
        refine ⟨_, .agg ⟨(List.range (P.cellsOf T)).map f⟩, d, t, ⟨?_, ?_⟩, hd, ?_⟩
        · simp only [RepS]
          refine ⟨_, rfl, hr, ?_⟩
          intro x hx
          simp only [List.mem_map, List.mem_range] at hx
          obtain ⟨j, hj, rfl⟩ := hx
          exact (hf j (by omega)).2.one
        · intro m hm
          simp only [inS] at hm
          exact (inL_data hm).elim
        · unfold partVal
          rw [if_pos ha, he]
          exact ⟨rfl, hlen⟩
      · exact h.fail_inv.elim
    · rename_i ha
      split at h
      · rename_i hle
        have hle : 1 ≤ sz := Nat.le_of_ble_eq_true hle
        obtain ⟨x, h1, h2⟩ := hcell 0 (by omega)
        refine ⟨_, x, d, h, ⟨by simpa [RepS] using h2, by simp [inS]⟩, hd, ?_⟩
        unfold partVal; rw [if_neg (by simp [ha])]; exact h1
      · exact h.fail_inv.elim

theorem op_load (hc : Conc G nt C I ρ F a w) {o : Oper} {T : Nat} {x : Operand} (ho : o.op = .load T x) (hd : dstOk nt o.dst) {u : Upd} (t : To P G F (opM P G E o.dst o.op) u)
    {F1 : Fs} (hp : Pubs F u.pub F1) : OpOk P G nt C I ρ a w o (finF F1 u) := by
  rw [ho] at t
  obtain ⟨sv, t, hv⟩ := To.ev_inv hc t
  have hrun : ∀ ad v, a.eval x = .pointer (some ad) → (loadVar T ad).run P w = .ok v w → (execOp a.eval o).run P w = .ok (.value v) w := by
    intro ad v h1 h2
    simp [execOp, ho, h1, Instr.loadAt, Instr.sureAddr, h2]
  split at t
  · rename_i n off
    obtain ⟨b, hb, t⟩ := t.own_inv
    have hx : a.eval x = .pointer (some ⟨(ρ n).b, off, none⟩) := by simpa only [RepS] using hv.rep
    split at t
    · rename_i cs
      obtain ⟨us, Eb, h1, h2⟩ := hc.own n _ hb
      obtain ⟨h3, t⟩ := To.dropK_inv t
      have hdr : Cells I ρ w (cs.drop off) (us.drop off) := ⟨h2.1.drop off, fun x hx => h2.2 x (List.mem_of_mem_drop hx)⟩
      obtain ⟨d, sv, v, hd', t, hv, hpv⟩ := To.partK_inv (F := F) t hdr (fun m hm => hc.onames n _ m hb (inL_sub (fun c hc => List.mem_of_mem_drop hc) hm))
      have := upd_inv t; subst this
      cases hp
      refine opOk_val hc hv hd (hrun _ v hx (run_loadVar_part hd' hpv ?_))
      intro j y hy
      rw [cell_box h1]
      simpa using hy
    · exact t.fail_inv.elim
  · rename_i n sz i off
    obtain ⟨b, hb, t⟩ := t.own_inv
    have hx := hv.rep
    simp only [RepS] at hx
    split at t
    · rename_i E sz' len get
      obtain ⟨hi, t⟩ := t.need_inv
      obtain ⟨h1, h2, h3, h4⟩ := hc.own n _ hb
      obtain ⟨arr, h5, h6, h7⟩ := h4 (by omega)
      obtain ⟨sv, v, t, hv, hl⟩ := To.partD_inv (I := I) (ρ := ρ) (w := w) (ad := ⟨(ρ n).b, i * sz + off, none⟩) t (by
        intro j hj
        obtain ⟨y, hy, hr⟩ := h7 i (off + j) hi (by omega)
        refine ⟨y, ?_, hr⟩
        rw [add_eq]
        rw [h5.cell]
        rw [← hx.1, h2, Nat.add_assoc]
        exact hy)
      have := upd_inv t; subst this
      cases hp
      exact opOk_val hc hv hd (hrun _ v hx.2 hl)
    · exact t.fail_inv.elim
  · rename_i sz get
    have hx := hv.rep
    simp only [RepS] at hx
    obtain ⟨b, off, hx, hI, hcell⟩ := hx
    obtain ⟨sv, v, t, hv, hl⟩ := To.partD_inv (I := I) (ρ := ρ) (w := w) (ad := ⟨b, off, none⟩) t (by
      intro j hj
      rw [add_eq]
      exact hcell j hj)
    have := upd_inv t; subst this
    cases hp
    exact opOk_val hc hv hd (hrun _ v hx hl)
  · exact t.fail_inv.elim

end Go.Sx
