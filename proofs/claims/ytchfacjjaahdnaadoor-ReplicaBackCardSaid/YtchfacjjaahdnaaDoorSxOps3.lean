/- Part of a symbolic executor over the model, proved sound, with plain laws: SxOps3. Written for these claims. -/
import Derived.Test.YtchfacjjaahdnaaDoorSxOps2
namespace Go.Sx
open Go
set_option linter.unusedVariables false
set_option linter.unusedSimpArgs false

variable {P : Program} {G : Nat → Option (Nat × (Nat → D))} {nt : Nat} {C : Ctx} {I : Nat → Prop} {ρ : Nat → Loc} {F : Fs} {a : Act} {w : World} {E : List Nat} {T : Nat}

theorem op_nilCheck (hc : Conc G nt C I ρ F a w) {o : Oper} {x : Operand} (ho : o.op = .nilCheck x) (hd : dstOk nt o.dst) {u : Upd} (t : To P G F (opM P G E o.dst o.op) u)
    {F1 : Fs} (hp : Pubs F u.pub F1) : OpOk P G nt C I ρ a w o (finF F1 u) := by
  rw [ho] at t
  obtain ⟨sv, t, hv⟩ := To.ev_inv hc t
  have hrun : ∀ ad, a.eval x = .pointer (some ad) → (execOp a.eval o).run P w = .ok (.value (a.eval x)) w := by
    intro ad h1; simp [execOp, ho, h1]
  split at t
  · have := upd_inv t; subst this
    cases hp
    have hx := hv.rep
    simp only [RepS] at hx
    exact opOk_val hc hv hd (hrun _ hx)
  · have := upd_inv t; subst this
    cases hp
    have hx := hv.rep
    simp only [RepS] at hx
    exact opOk_val hc hv hd (hrun _ hx.2)
  · have := upd_inv t; subst this
    cases hp
    have hx := hv.rep
    simp only [RepS] at hx
    obtain ⟨b, off, hx, _⟩ := hx
    exact opOk_val hc hv hd (hrun _ hx)
  · exact t.fail_inv.elim

theorem rep_int {i : IntKind} {n : Int} {v : Value} (h : RepS I ρ w (.d (.int i n)) v) : v = .int i n := by simpa only [RepS, RepD] using h
theorem rep_bool {b : Bool} {v : Value} (h : RepS I ρ w (.d (.bool b)) v) : v = .bool b := by simpa only [RepS, RepD] using h
theorem rep_str {l : List UInt8} {v : Value} (h : RepS I ρ w (.d (.str l)) v) : v = .string ⟨⟨l⟩⟩ := by simpa only [RepS, RepD] using h
def valD : D → Value
  | .int k n => .int k n
  | .bool b => .bool b
  | .str l => .string ⟨⟨l⟩⟩
  | .val x => x
  | .list _ _ _ => undef
def scal : D → Prop
  | .int _ _ | .bool _ | .str _ => True
  | _ => False
theorem rep_v (x : D) (h : scal x) : RepD I w x (valD x) := by cases x <;> simp_all [RepD, valD, scal]
theorem val_d {x : D} {v : Value} (h : RepD I w x v) : Val G I ρ F w (.d x) v := ⟨by simpa only [RepS] using h, by simp [inS]⟩

theorem op_unOp (hc : Conc G nt C I ρ F a w) {o : Oper} {op : UnOp} {T : Nat} {x : Operand} (ho : o.op = .unOp op T x) (hd : dstOk nt o.dst) {u : Upd} (t : To P G F (opM P G E o.dst o.op) u)
    {F1 : Fs} (hp : Pubs F u.pub F1) : OpOk P G nt C I ρ a w o (finF F1 u) := by
  rw [ho] at t
  obtain ⟨sv, t, hv⟩ := To.ev_inv hc t
  unfold unK at t
  split at t
  · have hx := rep_int hv.rep
    have := upd_inv t; subst this
    cases hp
    exact opOk_val hc (val_d (rep_v _ trivial)) hd (by simp [execOp, ho, hx, Op.unary, Op.intArith, valD])
  · have hx := rep_bool hv.rep
    have := upd_inv t; subst this
    cases hp
    exact opOk_val hc (val_d (rep_v _ trivial)) hd (by simp [execOp, ho, hx, Op.unary, valD])
  · exact t.fail_inv.elim

/-! ### '==' -/
structure EOk (P : Program) (E : List Nat) : Prop where
  mixed : P.follows .mixedOrders = true
  eq : ∀ T, memN T E = true → P.stoodInHeld T = false ∧ P.eqGuardType P.depth T = false

theorem run_part' {t : Nat} {d : TypeDesc} (hd : P.underlying t = some d) {us : List Value} {off : Nat} {v : Value} (hv : partVal d (P.cellsOf t) (us.drop off) v) :
    (part t ⟨us⟩ off).run P w = .ok v w := by
  obtain ⟨i, hi, hsz⟩ := und_info hd
  simp only [part, Sem.run_bind, run_isAgg' hd, Result.andThen_ok]
  unfold partVal at hv
  split at hv
  · rename_i ha
    obtain ⟨rfl, hl⟩ := hv
    simp only [ha, if_true, Sem.run_bind, run_sizeOf' hi, Result.andThen_ok, Sem.run_pure, ← hsz]
    have : (Array.extract ⟨us⟩ off (off + P.cellsOf t)) = ⟨(us.drop off).take (P.cellsOf t)⟩ := by
      apply Array.ext'
      simp
    rw [this]
  · rename_i ha
    have h0 : us[off]? = some v := by simpa using hv
    have h1 : (Array.mk us)[off]? = some v := by simpa using h0
    simp [ha, h1]

/-- what '==' comes to at any depth that is enough -/
def EqRun (P : Program) (w : World) (n T : Nat) (x y : Value) (b : Bool) : Prop := ∀ d, n ≤ d → (Op.equalIn d T x y).run P w = .ok b w

theorem To.eqFieldsK_inv {n : Nat} {rec : Nat → SV → SV → (Bool → M Upd) → M Upd} {u : Upd}
    (hrec : ∀ {T : Nat} {x y : SV} {vx vy : Value} {k : Bool → M Upd}, To P G F (rec T x y k) u → RepS I ρ w x vx → RepS I ρ w y vy → (∀ m, inS m x → F.nm m) → (∀ m, inS m y → F.nm m) → ∃ b, To P G F (k b) u ∧ EqRun P w n T vx vy b) :
    ∀ {fs : List Field} {cs ds : List SV} {us vs : List Value} {k : Bool → M Upd}, To P G F (eqFieldsK P rec fs cs ds k) u → Cells I ρ w cs us → Cells I ρ w ds vs → (∀ m, inL m cs → F.nm m) → (∀ m, inL m ds → F.nm m) →
      ∃ b, To P G F (k b) u ∧ ∀ d, n ≤ d → (Op.eqFields d ⟨us⟩ ⟨vs⟩ fs).run P w = .ok b w
  | [], _, _, _, _, _, h, _, _, _, _ => ⟨true, h, fun _ _ => rfl⟩
  | ⟨name, t, off, e1, e2, e3, e4⟩ :: fs, cs, ds, us, vs, k, h, h1, h2, n1, n2 => by
    simp only [eqFieldsK] at h
    split at h
    · exact h.fail_inv.elim
    · rename_i hne
      obtain ⟨_, h⟩ := To.dropK_inv h
      obtain ⟨dd, sx, vx, hdx, h, hx, px⟩ := To.partK_inv (F := F) h ⟨h1.1.drop off, fun x hx => h1.2 x (List.mem_of_mem_drop hx)⟩ (fun m hm => n1 m (inL_sub (fun c hc => List.mem_of_mem_drop hc) hm))
      obtain ⟨_, h⟩ := To.dropK_inv h
      obtain ⟨dd', sy, vy, hdy, h, hy, py⟩ := To.partK_inv (F := F) h ⟨h2.1.drop off, fun x hx => h2.2 x (List.mem_of_mem_drop hx)⟩ (fun m hm => n2 m (inL_sub (fun c hc => List.mem_of_mem_drop hc) hm))
      obtain ⟨b, h, hb⟩ := hrec h hx.rep hy.rep hx.nm hy.nm
      have hname : name ≠ "_" := by simpa using hne
      have hstep : ∀ d, n ≤ d → (Op.eqFields d ⟨us⟩ ⟨vs⟩ (⟨name, t, off, e1, e2, e3, e4⟩ :: fs)).run P w = if b = true then (Op.eqFields d ⟨us⟩ ⟨vs⟩ fs).run P w else .ok false w := by
        intro d hd
        simp only [Op.eqFields, hname, ne_eq, not_false_eq_true, if_true, Sem.run_bind, run_part' hdx px, run_part' hdy py, Result.andThen_ok, hb d hd]
        cases b <;> simp
      split at h
      · refine ⟨b, h, fun d hd => ?_⟩
        rw [hstep d hd]
        cases b <;> simp [Op.eqFields]
      · obtain ⟨c, h, hc⟩ := To.eqFieldsK_inv hrec h h1 h2 n1 n2
        refine ⟨b && c, h, fun d hd => ?_⟩
        rw [hstep d hd, hc d hd]
        cases b <;> simp

theorem To.eqK_inv (hE : EOk P E) {u : Upd} : ∀ {n T : Nat} {x y : SV} {vx vy : Value} {k : Bool → M Upd}, To P G F (eqK P E n T x y k) u → RepS I ρ w x vx → RepS I ρ w y vy →
    (∀ m, inS m x → F.nm m) → (∀ m, inS m y → F.nm m) → ∃ b, To P G F (k b) u ∧ EqRun P w n T vx vy b
  | 0, _, _, _, _, _, _, h, _, _, _, _ => h.fail_inv.elim
  | n + 1, T, x, y, vx, vy, k, h, hx, hy, nx, ny => by
    have hd : ∀ d, n + 1 ≤ d → ∃ e, d = e + 1 ∧ n ≤ e := fun d h => ⟨d - 1, by omega, by omega⟩
    simp only [eqK] at h
    split at h
    · rename_i i hT
      split at h
      · split at h
        · rename_i h1 h2
          have e1 := kEq_eq h1
          have e2 := kEq_eq h2
          subst e1; subst e2
          refine ⟨_, h, fun d hdd => ?_⟩
          obtain ⟨e, rfl, _⟩ := hd d hdd
          rw [rep_int hx, rep_int hy]
          exact run_equalIn_int w e T _ _ _ _ hT
        · exact h.fail_inv.elim
      · exact h.fail_inv.elim
    · rename_i hT
      split at h
      · refine ⟨_, h, fun d hdd => ?_⟩
        obtain ⟨e, rfl, _⟩ := hd d hdd
        rw [rep_bool hx, rep_bool hy]
        exact run_equalIn_bool' w e T _ _ hT
      · exact h.fail_inv.elim
    · rename_i hT
      split at h
      · refine ⟨_, h, fun d hdd => ?_⟩
        obtain ⟨e, rfl, _⟩ := hd d hdd
        rw [rep_str hx, rep_str hy]
        rw [run_equalIn_string w e T _ _ hT, ByteArray.toList_eq, ByteArray.toList_eq]
      · exact h.fail_inv.elim
    · rename_i fs hT
      split at h
      · rename_i cs ds hm
        simp only [RepS] at hx hy
        obtain ⟨us, rfl, h1, h1'⟩ := hx
        obtain ⟨vs, rfl, h2, h2'⟩ := hy
        obtain ⟨b, h, hb⟩ := To.eqFieldsK_inv (n := n) (fun h a b c d => To.eqK_inv hE h a b c d) h ⟨h1, h1'⟩ ⟨h2, h2'⟩ (fun m hm => nx m (by simpa [inS] using hm)) (fun m hm => ny m (by simpa [inS] using hm))
        refine ⟨b, h, fun d hdd => ?_⟩
        obtain ⟨e, rfl, hle⟩ := hd d hdd
        have hf : P.fieldsOf T = ⟨fs⟩ := by simp [Program.fieldsOf, hT]
        rw [run_equalIn_agg w e T _ _ (by rw [hf]; exact hT) (hE.eq T hm).1, hf]
        exact hb e hle
      · exact h.fail_inv.elim
    · exact h.fail_inv.elim

theorem shiftK_inv {op : BinOp} {k j : IntKind} {x y : Int} {r : D → M Upd} {u : Upd} (h : To P G F (shiftK op k x y r) u) :
    ∃ z, To P G F (r z) u ∧ scal z ∧ (binOp op T (.int k x) (.int j y)).run P w = .ok (valD z) w := by
  cases op <;> simp only [shiftK] at h <;> first
    | exact h.fail_inv.elim
    | (obtain ⟨hne, h⟩ := h.need_inv; exact ⟨_, h, trivial, by simp [binOp, Op.shift, valD, Int.not_lt.2 hne]⟩)
theorem intOp_inv {op : BinOp} {k : IntKind} {x y : Int} {r : D → M Upd} {u : Upd} (h : To P G F (intOp op k x y r) u) :
    ∃ z, To P G F (r z) u ∧ scal z ∧ (binOp op T (.int k x) (.int k y)).run P w = .ok (valD z) w := by
  cases op <;> simp only [intOp] at h <;> first
    | exact h.fail_inv.elim
    | exact shiftK_inv h
    | (obtain ⟨hne, h⟩ := h.need_inv; exact ⟨_, h, trivial, by simp [binOp, Op.intDiv, hne, valD]⟩)
    | exact ⟨_, h, trivial, by simp [binOp, Op.intArith, Op.intCmp, Op.intBits, valD]⟩

theorem strOp_inv {op : BinOp} {x y : List UInt8} {r : D → M Upd} {u : Upd} (h : To P G F (strOp op x y r) u) :
    ∃ z, To P G F (r z) u ∧ scal z ∧ (binOp op T (.string ⟨⟨x⟩⟩) (.string ⟨⟨y⟩⟩)).run P w = .ok (valD z) w := by
  have ht : ∀ l : List UInt8, (ByteArray.mk ⟨l⟩).toList = l := fun l => by rw [ByteArray.toList_eq]
  have hs : ∀ l : List UInt8, (ByteArray.mk ⟨l⟩).size = l.length := fun l => rfl
  have hmax : IntKind.i64.max = 9223372036854775807 := rfl
  have happ : (ByteArray.mk ⟨x⟩ ++ ByteArray.mk ⟨y⟩) = ByteArray.mk ⟨x ++ y⟩ := by
    apply ByteArray.ext
    simp
  cases op <;> simp only [strOp] at h <;> first
    | exact h.fail_inv.elim
    | (obtain ⟨hle, h⟩ := h.need_inv
       refine ⟨_, h, trivial, ?_⟩
       have : ¬ ((x.length + y.length : Nat) : Int) > 9223372036854775807 := by omega
       simp only [binOp, Op.stringOp, hs, hmax, this, if_false, Sem.run_pure, happ, valD])
    | exact ⟨_, h, trivial, by simp [binOp, Op.stringOp, ht, valD]⟩

theorem run_eqGuard_scal (op : BinOp) (x y : Operand) (c d : D) (hc : scal c) (hd : scal d) : (eqGuard op T x y (valD c) (valD d)).run P w = .ok () w := by
  cases c <;> cases d <;> first | exact hc.elim | exact hd.elim | (cases op <;> simp [eqGuard, valD])

theorem op_binOp (hE : EOk P E) (hc : Conc G nt C I ρ F a w) {o : Oper} {op : BinOp} {T T' : Nat} {x y : Operand} (ho : o.op = .binOp op T x y T') (hd : dstOk nt o.dst) {u : Upd} (t : To P G F (opM P G E o.dst o.op) u)
    {F1 : Fs} (hp : Pubs F u.pub F1) : OpOk P G nt C I ρ a w o (finF F1 u) := by
  rw [ho] at t
  obtain ⟨sx, t, hx⟩ := To.ev_inv hc t
  obtain ⟨sy, t, hy⟩ := To.ev_inv hc t
  have fin : ∀ z : D, scal z → To P G F (upd o.dst (.d z)) u → (eqGuard op T x y (a.eval x) (a.eval y)).run P w = .ok () w → (binOp op T (a.eval x) (a.eval y)).run P w = .ok (valD z) w →
      OpOk P G nt C I ρ a w o (finF F1 u) := by
    intro z hz t h1 h2
    have := upd_inv t; subst this
    cases hp
    exact opOk_val hc (val_d (rep_v z hz)) hd (by simp [execOp, ho, h1, h2])
  unfold binK at t
  split at t
  · split at t
    · rename_i hk
      have hk := kEq_eq hk
      subst hk
      have ex : a.eval x = valD (.int _ _) := rep_int hx.rep
      have ey : a.eval y = valD (.int _ _) := rep_int hy.rep
      obtain ⟨z, t, hz, hr⟩ := intOp_inv (T := T) (w := w) t
      exact fin z hz t (by rw [ex, ey]; exact run_eqGuard_scal op x y _ _ trivial trivial) (by rw [ex, ey]; exact hr)
    · have ex : a.eval x = valD (.int _ _) := rep_int hx.rep
      have ey : a.eval y = valD (.int _ _) := rep_int hy.rep
      obtain ⟨z, t, hz, hr⟩ := shiftK_inv (T := T) (w := w) t
      exact fin z hz t (by rw [ex, ey]; exact run_eqGuard_scal op x y _ _ trivial trivial) (by rw [ex, ey]; exact hr)
  · have ex : a.eval x = valD (.str _) := rep_str hx.rep
    have ey : a.eval y = valD (.str _) := rep_str hy.rep
    obtain ⟨z, t, hz, hr⟩ := strOp_inv (T := T) (w := w) t
    exact fin z hz t (by rw [ex, ey]; exact run_eqGuard_scal op x y _ _ trivial trivial) (by rw [ex, ey]; exact hr)
  · have ex : a.eval x = valD (.bool _) := rep_bool hx.rep
    have ey : a.eval y = valD (.bool _) := rep_bool hy.rep
    split at t
    · have hT := ‹P.underlying T = some .bool›
      refine fin (.bool _) trivial t (by rw [ex, ey]; exact run_eqGuard_scal _ x y _ _ trivial trivial) ?_
      rw [ex, ey]
      simp [valD, binOp, Op.equal, Op.maxDepth, run_equalIn_bool' w 9999 T _ _ hT]
    · have hT := ‹P.underlying T = some .bool›
      refine fin (.bool _) trivial t (by rw [ex, ey]; exact run_eqGuard_scal _ x y _ _ trivial trivial) ?_
      rw [ex, ey]
      simp [valD, binOp, Op.equal, Op.maxDepth, run_equalIn_bool' w 9999 T _ _ hT]
    · exact t.fail_inv.elim
  · have ex := hx.rep
    have ey := hy.rep
    split at t
    · obtain ⟨b, t, hb⟩ := To.eqK_inv hE t ex ey hx.nm hy.nm
      simp only [RepS] at ex ey
      obtain ⟨us, ex, _⟩ := ex
      obtain ⟨vs, ey, _⟩ := ey
      have hb := hb 10000 (by decide)
      refine fin (.bool _) trivial t ?_ ?_
      · rw [ex, ey]; exact run_eqGuard_agg w _ T x y _ _ (hE.eq T ‹memN T E = true›).2
      · rw [ex, ey] at hb ⊢
        rw [run_eql_struct, hb]; rfl
    · obtain ⟨b, t, hb⟩ := To.eqK_inv hE t ex ey hx.nm hy.nm
      simp only [RepS] at ex ey
      obtain ⟨us, ex, _⟩ := ex
      obtain ⟨vs, ey, _⟩ := ey
      have hb := hb 10000 (by decide)
      refine fin (.bool _) trivial t ?_ ?_
      · rw [ex, ey]; exact run_eqGuard_agg w _ T x y _ _ (hE.eq T ‹memN T E = true›).2
      · rw [ex, ey] at hb ⊢
        rw [run_neq_struct, hb]; rfl
    · exact t.fail_inv.elim
  · exact t.fail_inv.elim

theorem op_fieldAddr (hc : Conc G nt C I ρ F a w) {o : Oper} {T f : Nat} {x : Operand} (ho : o.op = .fieldAddr T x f) (hd : dstOk nt o.dst) {u : Upd} (t : To P G F (opM P G E o.dst o.op) u)
    {F1 : Fs} (hp : Pubs F u.pub F1) : OpOk P G nt C I ρ a w o (finF F1 u) := by
  rw [ho] at t
  obtain ⟨sv, t, hv⟩ := To.ev_inv hc t
  obtain ⟨fs, fx, hT, hf, t⟩ := To.fieldK_inv t
  have hrun : ∀ b off, posSize P fx.type = true → a.eval x = .pointer (some ⟨b, off, none⟩) → (execOp a.eval o).run P w = .ok (.value (.pointer (some ⟨b, off + fx.offset, none⟩))) w := by
    intro b off hp h1
    unfold posSize at hp
    split at hp
    · rename_i i hi
      have hne : i.size ≠ 0 := by intro e; rw [e] at hp; simp at hp
      have hf' : fs[f]? = some fx := hf
      simp [execOp, ho, h1, Instr.fieldAt, Instr.sureAddr, run_underlying hT, hf', fieldPlace, run_sizeOf' hi, hne, add_eq]
    · simp at hp
  split at t
  · have := upd_inv t; subst this
    cases hp
    have hx := hv.rep
    simp only [RepS] at hx
    refine opOk_val hc ⟨?_, fun m hm => hv.nm m (by simpa [inS] using hm)⟩ hd (hrun _ _ ‹_› hx)
    simp only [RepS]
  · have := upd_inv t; subst this
    cases hp
    have hx := hv.rep
    simp only [RepS] at hx
    refine opOk_val hc ⟨?_, fun m hm => hv.nm m (by simpa [inS] using hm)⟩ hd (hrun _ _ ‹_› hx.2)
    simp only [RepS, Nat.add_assoc]
    exact ⟨hx.1, trivial⟩
  · have := upd_inv t; subst this
    cases hp
    have hx := hv.rep
    simp only [RepS] at hx
    obtain ⟨b, off, hx, hI, hcell⟩ := hx
    refine opOk_val hc ⟨?_, by simp [inS]⟩ hd (hrun _ _ ‹_› hx)
    simp only [RepS]
    refine ⟨_, _, rfl, hI, fun j hj => ?_⟩
    obtain ⟨y, hy, hr⟩ := hcell (fx.offset + j) (by omega)
    exact ⟨y, by rw [Nat.add_assoc]; exact hy, hr⟩
  · exact t.fail_inv.elim

theorem op_field (hc : Conc G nt C I ρ F a w) {o : Oper} {T f : Nat} {x : Operand} (ho : o.op = .field T x f) (hd : dstOk nt o.dst) {u : Upd} (t : To P G F (opM P G E o.dst o.op) u)
    {F1 : Fs} (hp : Pubs F u.pub F1) : OpOk P G nt C I ρ a w o (finF F1 u) := by
  rw [ho] at t
  obtain ⟨sv, t, hv⟩ := To.ev_inv hc t
  obtain ⟨fs, fx, hT, hf, t⟩ := To.fieldK_inv t
  split at t
  · have hx := hv.rep
    simp only [RepS] at hx
    obtain ⟨us, hx, h1, h1'⟩ := hx
    obtain ⟨_, t⟩ := To.dropK_inv t
    obtain ⟨d, sv, v, hd', t, hv', hpv⟩ := To.partK_inv (F := F) t ⟨h1.drop fx.offset, fun x hx => h1' x (List.mem_of_mem_drop hx)⟩
      (fun m hm => hv.nm m (by simp only [inS]; exact inL_sub (fun c hc => List.mem_of_mem_drop hc) hm))
    have := upd_inv t; subst this
    cases hp
    have hf' : fs[f]? = some fx := hf
    exact opOk_val hc hv' hd (by simp [execOp, ho, hx, Instr.field, run_underlying hT, hf', asAgg, run_part' hd' hpv])
  · exact t.fail_inv.elim

theorem op_extract (hc : Conc G nt C I ρ F a w) {o : Oper} {i : Nat} {x : Operand} (ho : o.op = .extract x i) (hd : dstOk nt o.dst) {u : Upd} (t : To P G F (opM P G E o.dst o.op) u)
    {F1 : Fs} (hp : Pubs F u.pub F1) : OpOk P G nt C I ρ a w o (finF F1 u) := by
  rw [ho] at t
  obtain ⟨sv, t, hv⟩ := To.ev_inv hc t
  split at t
  · have hx := hv.rep
    simp only [RepS] at hx
    obtain ⟨us, hx, h1⟩ := hx
    obtain ⟨y, hy, t⟩ := To.nthK_inv t
    obtain ⟨v, h2, h3⟩ := h1.get hy
    have := upd_inv t; subst this
    cases hp
    have h2' : (Array.mk us)[i]? = some v := by simpa using h2
    exact opOk_val hc ⟨h3, fun m hm => hv.nm m (by simp only [inS]; exact inL_mem.2 ⟨y, List.mem_of_getElem? hy, hm⟩)⟩ hd (by simp [execOp, ho, hx, Instr.extract, h2'])
  · exact t.fail_inv.elim

theorem run_index_str {T : Nat} (hT : P.underlying T = some .string) (l : List UInt8) (k : IntKind) (i : Int) (h : 0 ≤ i ∧ i < l.length) :
    (Instr.index T (.string ⟨⟨l⟩⟩) (.int k i)).run P w = .ok (.int .u8 (l.getD i.toNat 0).toNat) w := by
  have hlt : i.toNat < l.length := by omega
  have h1 : (ByteArray.mk ⟨l⟩)[i.toNat]? = some (l.getD i.toNat 0) := by
    rw [getElem?_pos (ByteArray.mk ⟨l⟩) i.toNat (by show i.toNat < l.length; omega)]
    simp only [List.getD, List.getElem?_eq_getElem hlt, Option.getD_some]
    rfl
  simp [Instr.index, asIntOf, run_underlying hT, h.1, h1]

theorem op_index (hc : Conc G nt C I ρ F a w) {o : Oper} {T : Nat} {x y : Operand} (ho : o.op = .index T x y) (hd : dstOk nt o.dst) {u : Upd} (t : To P G F (opM P G E o.dst o.op) u)
    {F1 : Fs} (hp : Pubs F u.pub F1) : OpOk P G nt C I ρ a w o (finF F1 u) := by
  rw [ho] at t
  obtain ⟨sx, t, hx⟩ := To.ev_inv hc t
  obtain ⟨sy, t, hy⟩ := To.ev_inv hc t
  split at t
  · obtain ⟨hi, t⟩ := t.need_inv
    have ex := rep_str hx.rep
    have ey := rep_int hy.rep
    have := upd_inv t; subst this
    cases hp
    have hT := ‹P.underlying T = some .string›
    refine opOk_val hc (val_d (rep_v (.int .u8 _) trivial)) hd ?_
    simp [execOp, ho, ex, ey, run_index_str hT _ _ _ hi, valD]
  · rename_i n e cs k0 i hT _
    obtain ⟨ds, hcs, t1⟩ := To.dcells_inv t
    subst hcs
    clear t
    split at t1
    · rename_i hle
      have hle : n * P.cellsOf e ≤ ds.length := Nat.le_of_ble_eq_true hle
      obtain ⟨hi, t⟩ := t1.need_inv
      have ey := rep_int hy.rep
      have hxr := hx.rep
      simp only [RepS] at hxr
      obtain ⟨us, hxe, hr, _⟩ := hxr
      have hlen := hr.length
      simp only [List.length_map] at hlen
      obtain ⟨sv, v, d, t, hv, hd', hpv⟩ := To.partDV_inv (I := I) (ρ := ρ) (w := w) (us := us.drop (i.toNat * P.cellsOf e)) t (fun j hj => by
        have hb : i.toNat * P.cellsOf e + j < ds.length := by
          have h1 : i.toNat < n := (Int.toNat_lt hi.1).2 hi.2
          have h2 := Nat.mul_le_mul_right (P.cellsOf e) (Nat.succ_le_of_lt h1)
          rw [Nat.succ_mul] at h2
          omega
        obtain ⟨x, h1, h2⟩ := hr.get (n := i.toNat * P.cellsOf e + j) (x := .d (ds.getD (i.toNat * P.cellsOf e + j) default)) (by simp [List.getD, hb])
        simp only [RepS] at h2
        exact ⟨x, by simpa using h1, h2⟩)
      have := upd_inv t; subst this
      cases hp
      obtain ⟨ie, hie, hsz⟩ := und_info hd'
      refine opOk_val hc hv hd ?_
      have hp' := run_part' (w := w) hd' hpv
      simp only [execOp, ho, hxe, ey, Instr.index, asIntOf, Sem.run_bind, Sem.run_pure, Result.andThen_ok, run_underlying hT, if_pos hi, run_sizeOf' hie, ← hsz]
      simp only [hp', Result.andThen_ok]
    · exact t1.fail_inv.elim
  · exact t.fail_inv.elim

theorem sizeIs_info {T n : Nat} (h : sizeIs P T n = true) : ∃ i, P.info? T = some i ∧ n = i.size := by
  unfold sizeIs at h
  split at h
  · exact ⟨_, by assumption, Nat.eq_of_beq_eq_true h⟩
  · simp at h

theorem run_indexAt_slice {T Et len cap b off : Nat} {i : Int} {k : IntKind} {ti : TypeInfo} (hT : P.underlying T = some (.slice Et)) (hti : P.info? Et = some ti) (hi : 0 ≤ i ∧ i < len) :
    (Instr.indexAt T (.slice (some ⟨b, off, none⟩) len cap) (.int k i)).run P w = .ok (.pointer (some ⟨b, off + i.toNat * ti.size, none⟩)) w := by
  simp [Instr.indexAt, asIntOf, run_underlying hT, hi.1, hi.2, run_sizeOf' hti, add_eq]
theorem run_indexAt_array {T Et len b off : Nat} {i : Int} {k : IntKind} {ti : TypeInfo} (hT : P.underlying T = some (.array len Et)) (hti : P.info? Et = some ti) (hi : 0 ≤ i ∧ i < len) :
    (Instr.indexAt T (.pointer (some ⟨b, off, none⟩)) (.int k i)).run P w = .ok (.pointer (some ⟨b, off + i.toNat * ti.size, none⟩)) w := by
  simp [Instr.indexAt, asIntOf, run_underlying hT, hi.1, hi.2, run_sizeOf' hti, add_eq, Instr.sureAddr]

theorem idxK_inv {T : Nat} {sx : SV} {i : Int} {k : IntKind} {r : SV → M Upd} {u : Upd} {x : Value} (h : To P G F (idxK P T sx i r) u) (hx : Val G I ρ F w sx x) :
    ∃ sv v, To P G F (r sv) u ∧ Val G I ρ F w sv v ∧ (Instr.indexAt T x (.int k i)).run P w = .ok v w := by
  unfold idxK at h
  split at h
  · rename_i Et hT
    split at h
    · split at h
      · rename_i hsz
        obtain ⟨ti, hti, rfl⟩ := sizeIs_info hsz
        obtain ⟨hi, h⟩ := h.need_inv
        have hr := hx.rep
        simp only [RepS, RepD] at hr
        obtain ⟨ad, cap, rfl, _, hr⟩ := hr
        obtain ⟨b, off, rfl, hI, hcell⟩ := hr (by omega)
        refine ⟨_, _, h, ⟨?_, by simp [inS]⟩, run_indexAt_slice hT hti hi⟩
        simp only [RepS]
        exact ⟨_, _, rfl, hI, fun j hj => hcell i.toNat j (by omega) hj⟩
      · exact h.fail_inv.elim
    · split at h
      · rename_i hsz
        obtain ⟨ti, hti, rfl⟩ := sizeIs_info hsz
        obtain ⟨hi, h⟩ := h.need_inv
        have hr := hx.rep
        simp only [RepS] at hr
        obtain ⟨h1, h2, h3, ad, rfl, h4⟩ := hr
        have h4 := h4.resolve_right (by omega)
        subst h4
        refine ⟨_, _, h, ⟨?_, fun m hm => hx.nm m (by simpa [inS] using hm)⟩, run_indexAt_slice hT hti hi⟩
        simp only [RepS, Nat.add_mul, Nat.add_zero]
        exact ⟨h1, trivial⟩
      · exact h.fail_inv.elim
    · exact h.fail_inv.elim
  · rename_i len Et hT
    split at h
    · rename_i hsz
      obtain ⟨ti, hti, hsz⟩ := sizeIs_info hsz
      split at h
      · split at h
        · rename_i hle
          have hle := Nat.le_of_ble_eq_true hle
          obtain ⟨hi, h⟩ := h.need_inv
          have hr := hx.rep
          simp only [RepS] at hr
          obtain ⟨b, off, rfl, hI, hcell⟩ := hr
          refine ⟨_, _, h, ⟨?_, by simp [inS]⟩, run_indexAt_array hT hti hi⟩
          simp only [RepS]
          refine ⟨_, _, rfl, hI, fun j hj => ?_⟩
          have hb : i.toNat * P.cellsOf Et + P.cellsOf Et ≤ len * P.cellsOf Et := by rw [← Nat.succ_mul]; exact Nat.mul_le_mul_right _ (by omega)
          obtain ⟨y, hy, hr⟩ := hcell (i.toNat * P.cellsOf Et + j) (by omega)
          exact ⟨y, by rw [Nat.add_assoc, ← hsz]; exact hy, hr⟩
        · exact h.fail_inv.elim
      · obtain ⟨hi, h⟩ := h.need_inv
        have hr := hx.rep
        simp only [RepS] at hr
        subst hr
        refine ⟨_, _, h, ⟨?_, fun m hm => hx.nm m (by simpa [inS] using hm)⟩, run_indexAt_array hT hti hi⟩
        simp only [RepS, hsz]
      · exact h.fail_inv.elim
    · exact h.fail_inv.elim
  · exact h.fail_inv.elim

theorem op_indexAddr (hc : Conc G nt C I ρ F a w) {o : Oper} {T : Nat} {x y : Operand} (ho : o.op = .indexAddr T x y) (hd : dstOk nt o.dst) {u : Upd} (t : To P G F (opM P G E o.dst o.op) u)
    {F1 : Fs} (hp : Pubs F u.pub F1) : OpOk P G nt C I ρ a w o (finF F1 u) := by
  rw [ho] at t
  have fin : ∀ sx k i, a.eval y = .int k i → Val G I ρ F w sx (a.eval x) → To P G F (idxK P T sx i (upd o.dst)) u → OpOk P G nt C I ρ a w o (finF F1 u) := by
    intro sx k i ey hx t
    obtain ⟨sv, v, t, hv, hr⟩ := idxK_inv (k := k) t hx
    have := upd_inv t; subst this
    cases hp
    exact opOk_val hc hv hd (by simp [execOp, ho, ey, hr])
  have gen : To P G F (ev x fun v => ev y fun
    | .d (.int _ i) => idxK P T v i (upd o.dst)
    | _ => .fail "indexAddr") u → OpOk P G nt C I ρ a w o (finF F1 u) := by
    intro t
    obtain ⟨sx, t, hx⟩ := To.ev_inv hc t
    obtain ⟨sy, t, hy⟩ := To.ev_inv hc t
    split at t
    · exact fin _ _ _ (rep_int hy.rep) hx t
    · exact t.fail_inv.elim
  cases x with
  | global g =>
    obtain ⟨sy, t, hy⟩ := To.ev_inv hc t
    split at t
    · split at t
      · rename_i sz get hg
        refine fin _ _ _ (rep_int hy.rep) ⟨?_, by simp [inS]⟩ t
        simp only [RepS, Act.eval]
        obtain ⟨h1, h2⟩ := hc.glob g sz get hg
        exact ⟨g, 0, rfl, h1, fun j hj => by simpa using h2 j hj⟩
      · exact t.fail_inv.elim
    · exact t.fail_inv.elim
  | tmp _ => exact gen t
  | const _ => exact gen t
  | func _ => exact gen t

end Go.Sx
