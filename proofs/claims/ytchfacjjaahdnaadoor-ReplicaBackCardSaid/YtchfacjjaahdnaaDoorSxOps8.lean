/- Part of a symbolic executor over the model, proved sound, with plain laws: SxOps8. Written for these claims. -/
import Derived.Test.YtchfacjjaahdnaaDoorSxOps7
namespace Go.Sx
open Go
set_option linter.unusedVariables false
set_option linter.unusedSimpArgs false

variable {P : Program} {G : Nat → Option (Nat × (Nat → D))} {nt : Nat} {C : Ctx} {I : Nat → Prop} {ρ : Nat → Loc} {F : Fs} {a : Act} {w : World} {E : List Nat} {T : Nat}

/-! ### conversions -/
theorem byteD_inv {d : D} {b : UInt8} (h : byteD d = some b) : ∃ n, d = .int .u8 n ∧ b = UInt8.ofNat n.toNat := by
  unfold byteD at h
  split at h
  · cases h; exact ⟨_, rfl, rfl⟩
  · cases h

theorem bytesR_inv {get : Nat → Nat → D} : ∀ {n i : Nat} {l : List UInt8}, bytesR get i n = some l → l.length = n ∧ ∀ k, k < n → ∃ m b, get (i + k) 0 = .int .u8 m ∧ l[k]? = some b ∧ b = UInt8.ofNat m.toNat
  | 0, i, l, h => by simp only [bytesR, Option.some.injEq] at h; subst h; exact ⟨rfl, by simp⟩
  | n + 1, i, l, h => by
    simp only [bytesR] at h
    split at h
    · rename_i b l' hb hl
      cases h
      obtain ⟨h1, h2⟩ := bytesR_inv hl
      refine ⟨by simp [h1], fun k hk => ?_⟩
      cases k with
      | zero =>
        obtain ⟨m, h3, h4⟩ := byteD_inv hb
        exact ⟨m, b, h3, by simp, h4⟩
      | succ k =>
        obtain ⟨m, b', h3, h4, h5⟩ := h2 k (by omega)
        exact ⟨m, b', by rw [show i + (k + 1) = i + 1 + k by omega]; exact h3, by simpa using h4, h5⟩
    · cases h

theorem fold_push (ns : List Int) : ∀ s : ByteArray, ns.foldl (fun r n => r.push (UInt8.ofNat n.toNat)) s = ⟨s.data ++ (ns.map fun n => UInt8.ofNat n.toNat).toArray⟩ := by
  induction ns with
  | nil => intro s; simp
  | cons n ns ih =>
    intro s
    simp only [List.foldl_cons, ih]
    simp [ByteArray.push]

theorem run_bytes_of {m : Nat} {g : Nat → Nat → D} {v : Value} {l : List UInt8} (hv : SrcIs I w 1 m g v) (hl : bytesR g 0 m = some l) : (Conv.bytesToString v).run P w = .ok (.string ⟨⟨l⟩⟩) w := by
  obtain ⟨h1, h2⟩ := bytesR_inv hl
  obtain ⟨ad, c, rfl, hv⟩ := hv
  cases ad with
  | none =>
    have : ¬ 0 < m := fun h => by obtain ⟨b, _, hb, _⟩ := hv h; cases hb
    have : l = [] := List.eq_nil_of_length_eq_zero (by omega)
    subst this
    simp [Conv.bytesToString]
    rfl
  | some ad =>
    have key : ∃ ns : List Int, (loadCells ad m).run P w = .ok (ns.map (Value.int .u8)).toArray w ∧ l = ns.map fun n => UInt8.ofNat n.toNat := by
      by_cases hm : 0 < m
      · obtain ⟨b, news, hb, hnl, hcell, _, hrep⟩ := hv hm
        cases hb
        have hnews : ∀ k, k < m → ∃ n, news[k]? = some (.int .u8 n) ∧ l[k]? = some (UInt8.ofNat n.toNat) := by
          intro k hk
          obtain ⟨u, hu, hr⟩ := hrep k 0 hk (by omega)
          obtain ⟨n, b', h3, h4, h5⟩ := h2 k hk
          rw [show 0 + k = k by omega] at h3
          rw [h3] at hr
          simp only [RepD] at hr
          subst hr; subst h5
          exact ⟨n, by simpa using hu, h4⟩
        refine ⟨news.map fun v => match v with | .int _ n => n | _ => 0, ?_, ?_⟩
        · have hld := run_loadCells_list (P := P) w ad news hcell
          rw [show news.length = m by omega] at hld
          rw [hld]
          congr 2
          rw [List.map_map]
          apply List.ext_getElem?
          intro k
          by_cases hk : k < m
          · obtain ⟨n, h3, _⟩ := hnews k hk
            simp [h3]
          · rw [List.getElem?_eq_none (by omega), List.getElem?_eq_none (by simp; omega)]
        · rw [List.map_map]
          apply List.ext_getElem?
          intro k
          by_cases hk : k < m
          · obtain ⟨n, h3, h4⟩ := hnews k hk
            simp [h3, h4]
          · rw [List.getElem?_eq_none (by omega), List.getElem?_eq_none (by simp; omega)]
      · have : m = 0 := by omega
        subst this
        have : l = [] := List.eq_nil_of_length_eq_zero h1
        subst this
        exact ⟨[], by have := run_loadCells_list (P := P) w ad [] (by simp); simpa using this, rfl⟩
    obtain ⟨ns, h3, rfl⟩ := key
    rw [run_bytesToString w ad m c ns h3, fold_push]
    simp

theorem To.bytesK_inv (hc : Conc G nt C I ρ F a w) {x : SV} {v : Value} {k : List UInt8 → M Upd} {u : Upd} (h : To P G F (bytesK x k) u) (hv : RepS I ρ w x v) :
    ∃ l ad m c, To P G F (k l) u ∧ v = .slice ad m c ∧ (Conv.bytesToString v).run P w = .ok (.string ⟨⟨l⟩⟩) w := by
  unfold bytesK at h
  split at h
  · simp only [RepS, RepD] at hv
    obtain ⟨rfl, _⟩ := hv
    exact ⟨[], _, _, _, h, rfl, by simp [Conv.bytesToString]; rfl⟩
  · obtain ⟨hb, h⟩ := h.need_inv
    have hs := srcIs_list hv
    obtain ⟨ad, c, e, _⟩ := id hs
    exact ⟨_, ad, _, c, h, e, run_bytes_of hs hb⟩
  · obtain ⟨b, hb, h'⟩ := h.own_inv
    clear h
    split at h'
    · obtain ⟨hb2, h'⟩ := h'.need_inv
      have hs := srcIs_osl hc hb hv
      obtain ⟨ad, c, e, _⟩ := id hs
      exact ⟨_, ad, _, c, h', e, run_bytes_of hs hb2⟩
    · exact h'.fail_inv.elim
  · exact h.fail_inv.elim

theorem op_convert (hc : Conc G nt C I ρ F a w) {o : Oper} {src T : Nat} {x : Operand} (ho : o.op = .convert src T x) (hd : dstOk nt o.dst) {u : Upd} (t : To P G F (opM P G E o.dst o.op) u)
    {F1 : Fs} (hp : Pubs F u.pub F1) (hf : ∀ n ∈ u.new, ¬ F.nm n) : OpOk P G nt C I ρ a w o (finF F1 u) := by
  rw [ho] at t
  simp only [opM] at t
  split at t
  · rename_i e he
    unfold strBytes at he
    split at he
    · rename_i e' hs hT
      split at he
      · rename_i hu
        cases he
        obtain ⟨d, hdst, t⟩ := dstK_inv t
        obtain ⟨sx, t, hx⟩ := To.ev_inv hc t
        split at t
        · rename_i l
          have := t.ret_inv; subst this
          cases hp
          rw [finF_new]
          have ex := rep_str hx.rep
          have hr := run_bytes_of_string (P := P) w src T e ⟨⟨l⟩⟩ hs hT hu
          have hge := grownCap_ge w l.length 0 e
          have hsz : (ByteArray.mk ⟨l⟩).size = l.length := rfl
          rw [hsz] at hr
          have hbs : (bytesRow (ByteArray.mk ⟨l⟩) (grownCap w l.length 0 e)).size = grownCap w l.length 0 e := by
            simp [bytesRow, hsz]
            omega
          intro next Q hn
          refine wp_value (v := .slice (some ⟨w.heap.size, 0, none⟩) l.length (grownCap w l.length 0 e)) ?_ (hn I _ _ _ ((hc.drew.newBlock (o := .cells (bytesRow (ByteArray.mk ⟨l⟩) (grownCap w l.length 0 e)) e ((bytesRow (ByteArray.mk ⟨l⟩) (grownCap w l.length 0 e)).size, (bytesRow (ByteArray.mk ⟨l⟩) (grownCap w l.length 0 e)).size + 1)) (hf d (by simp)) (cap := grownCap w l.length 0 e) (rl := l.length) (sz := 1) ?_ (by simp [inB])).put hd (osl_new hge) (by intro m hm; simp only [inS] at hm; exact .inl (hm.symm.trans (by simp)))))
          · simp only [execOp, ho, Sem.run_bind, ex, hr, Result.andThen_ok, Sem.run_pure]
          · refine ⟨rfl, rfl, hge, fun _ => ⟨_, ⟨_, heap_alloc_self w.drew _, .inr (Nat.le_refl _)⟩, by rw [hbs, Nat.mul_one], fun i j hi hj => ?_⟩⟩
            have hj : j = 0 := by omega
            subst hj
            refine ⟨.int .u8 (l.getD i 0).toNat, ?_, by simp [RepD, byteRow]⟩
            simp only [bytesRow, Nat.mul_one, Nat.add_zero]
            rw [Array.getElem?_append_left (by simpa using hi)]
            simp [List.getD, List.getElem?_eq_getElem hi]
        · exact t.fail_inv.elim
      · cases he
    · cases he
  obtain ⟨sx, t, hx⟩ := To.ev_inv hc t
  have fin : ∀ z : D, scal z → To P G F (upd o.dst (.d z)) u → (convert src T (a.eval x)).run P w = .ok (valD z) w → OpOk P G nt C I ρ a w o (finF F1 u) := by
    intro z hz t h1
    have := upd_inv t; subst this
    cases hp
    exact opOk_val hc (val_d (rep_v z hz)) hd (by simp [execOp, ho, h1])
  unfold convK at t
  split at t
  · rename_i d k hs hT
    split at t
    · have ex := rep_int hx.rep
      refine fin (.int _ _) trivial t ?_
      rw [ex]
      simp only [convert, Sem.run_bind, run_underlying hs, run_underlying hT, Result.andThen_ok]
      cases d <;> simp [Conv.intToInt, valD]
    · exact t.fail_inv.elim
  · rename_i e hs hT
    split at t
    · rename_i he
      obtain ⟨l, ad, m, c, t, ev, hr⟩ := To.bytesK_inv hc t hx.rep
      refine fin (.str l) trivial t ?_
      rw [ev] at hr ⊢
      rw [run_convert_bytes_string w src T e ad m c hs he hT, hr]
      rfl
    · exact t.fail_inv.elim
  · rename_i hs hT
    split at t
    · have ex := rep_str hx.rep
      refine fin (.str _) trivial t ?_
      rw [ex]
      simp [convert, run_underlying hs, run_underlying hT, valD]
    · exact t.fail_inv.elim
  · exact t.fail_inv.elim

/-! ### slices -/
theorem To.boundK_inv (hc : Conc G nt C I ρ F a w) {x : Option Operand} {k : Option Int → M Upd} {u : Upd} (h : To P G F (boundK x k) u) :
    ∃ lo, To P G F (k lo) u ∧ (x.map a.eval = none ∧ lo = none ∨ ∃ kd n, x.map a.eval = some (.int kd n) ∧ lo = some n) := by
  cases x with
  | none => exact ⟨none, h, .inl ⟨rfl, rfl⟩⟩
  | some x =>
    obtain ⟨sv, h, hv⟩ := To.ev_inv hc h
    split at h
    · have := rep_int hv.rep
      exact ⟨_, h, .inr ⟨_, _, congrArg some this, rfl⟩⟩
    · exact h.fail_inv.elim

theorem extract_list (l : List UInt8) (i j : Nat) : (ByteArray.mk ⟨l⟩).extract i j = ⟨⟨(l.take j).drop i⟩⟩ := by
  apply ByteArray.ext
  rw [ByteArray.data_extract]
  simp [List.extract_eq_take_drop, List.drop_take]

theorem run_slice_str (hT : P.underlying T = some .string) (l : List UInt8) (lo hi : Option Value) {i j : Nat} (hij : i ≤ j) (hj : j ≤ l.length)
    (hlo : lo = none ∧ i = 0 ∨ ∃ kd, lo = some (.int kd i)) (hhi : hi = none ∧ j = l.length ∨ ∃ kd, hi = some (.int kd j)) :
    (Instr.slice T (.string ⟨⟨l⟩⟩) lo hi none).run P w = .ok (.string ⟨⟨(l.take j).drop i⟩⟩) w := by
  have hs : (ByteArray.mk ⟨l⟩).size = l.length := rfl
  rcases hlo with ⟨rfl, rfl⟩ | ⟨kd, rfl⟩ <;> rcases hhi with ⟨rfl, rfl⟩ | ⟨kd', rfl⟩ <;>
    simp [Instr.slice, run_underlying hT, Instr.sliceBounds, Instr.sliceBound, asIntOf, hs, extract_list, hij, hj]

theorem run_slice_sl {Et len cap : Nat} {ti : TypeInfo} (hT : P.underlying T = some (.slice Et)) (hti : P.info? Et = some ti) (ad : Option Addr) (lo hi : Option Value) {i j : Nat} (hij : i ≤ j) (hj : j ≤ len) (hl : len ≤ cap)
    (hlo : lo = none ∧ i = 0 ∨ ∃ kd, lo = some (.int kd i)) (hhi : hi = none ∧ j = len ∨ ∃ kd, hi = some (.int kd j)) :
    (Instr.slice T (.slice ad len cap) lo hi none).run P w = .ok (.slice (if cap = i then ad else ad.map (·.add (i * ti.size))) (j - i) (cap - i)) w := by
  have hjc : j ≤ cap := by omega
  rcases hlo with ⟨rfl, rfl⟩ | ⟨kd, rfl⟩ <;> rcases hhi with ⟨rfl, rfl⟩ | ⟨kd', rfl⟩ <;>
    simp [Instr.slice, run_underlying hT, Instr.sliceBounds, Instr.sliceBound, asIntOf, run_sizeOf' hti, hij, hjc]

theorem list_slice {len sz : Nat} {get : Nat → Nat → D} {v : Value} (hv : RepS I ρ w (.d (.list len sz get)) v) {i j : Nat} (hij : i ≤ j) (hj : j ≤ len) :
    ∃ ad cap, v = .slice ad len cap ∧ len ≤ cap ∧ RepS I ρ w (.d (.list (j - i) sz fun a b => get (i + a) b)) (.slice (if cap = i then ad else ad.map (·.add (i * sz))) (j - i) (cap - i)) := by
  simp only [RepS, RepD] at hv
  obtain ⟨ad, cap, rfl, hc, hr⟩ := hv
  refine ⟨ad, cap, rfl, hc, ?_⟩
  simp only [RepS, RepD]
  refine ⟨_, _, rfl, by omega, fun hlt => ?_⟩
  obtain ⟨b, o, rfl, hI, hcell⟩ := hr (by omega)
  have : cap ≠ i := by omega
  refine ⟨b, o + i * sz, by simp [this, add_eq], hI, fun k m hk hm => ?_⟩
  obtain ⟨u, hu, hru⟩ := hcell (i + k) m (by omega) hm
  refine ⟨u, ?_, hru⟩
  rw [← hu, Nat.add_mul]
  congr 2
  omega

theorem osl_slice {n sz off len : Nat} {v : Value} (hv : RepS I ρ w (.osl n sz off len) v) {i j : Nat} (hij : i ≤ j) (hj : j ≤ len) :
    ∃ ad cap, v = .slice ad len cap ∧ len ≤ cap ∧ RepS I ρ w (.osl n sz (off + i) (j - i)) (.slice (if cap = i then ad else ad.map (·.add (i * sz))) (j - i) (cap - i)) := by
  simp only [RepS] at hv
  obtain ⟨h1, h2, h3, ad, rfl, h4⟩ := hv
  refine ⟨ad, _, rfl, by omega, ?_⟩
  simp only [RepS]
  refine ⟨h1, by omega, h3, _, by rw [Nat.sub_sub], ?_⟩
  rcases h4 with rfl | h4
  · by_cases hci : (ρ n).cap - off = i
    · exact .inr (by omega)
    · left
      rw [if_neg hci]
      simp [add_eq, Nat.add_mul]
  · exact .inr (by omega)

theorem op_slice (hc : Conc G nt C I ρ F a w) {o : Oper} {T : Nat} {x : Operand} {lo hi : Option Operand} (ho : o.op = .slice T x lo hi none) (hd : dstOk nt o.dst) {u : Upd} (t : To P G F (opM P G E o.dst o.op) u)
    {F1 : Fs} (hp : Pubs F u.pub F1) : OpOk P G nt C I ρ a w o (finF F1 u) := by
  rw [ho] at t
  have fin : ∀ {sv : SV} {v : Value}, Val G I ρ F w sv v → To P G F (upd o.dst sv) u → (Instr.sliceAt T (a.eval x) (lo.map a.eval) (hi.map a.eval) none).run P w = .ok v w → OpOk P G nt C I ρ a w o (finF F1 u) := by
    intro sv v hv t h1
    have := upd_inv t; subst this
    cases hp
    exact opOk_val hc hv hd (by simp [execOp, ho, h1])
  -- the bounds, as far as they are there
  have toN : ∀ {n : Int}, 0 ≤ n → ∃ m : Nat, n = m := fun h => ⟨_, (Int.toNat_of_nonneg h).symm⟩
  simp only [opM] at t
  split at t
  · rename_i hT
    have run : ∀ {l : List UInt8} {i j : Nat}, a.eval x = .string ⟨⟨l⟩⟩ → i ≤ j → j ≤ l.length → (lo.map a.eval = none ∧ i = 0 ∨ ∃ kd, lo.map a.eval = some (.int kd i)) → (hi.map a.eval = none ∧ j = l.length ∨ ∃ kd, hi.map a.eval = some (.int kd j)) →
        (Instr.sliceAt T (a.eval x) (lo.map a.eval) (hi.map a.eval) none).run P w = .ok (.string ⟨⟨(l.take j).drop i⟩⟩) w := by
      intro l i j ex h1 h2 h3 h4
      rw [ex]
      simp only [Instr.sliceAt, Sem.run_bind, run_underlying hT, Result.andThen_ok]
      exact run_slice_str hT l _ _ h1 h2 h3 h4
    obtain ⟨sx, t, hx⟩ := To.ev_inv hc t
    split at t
    · rename_i l
      have ex : a.eval x = .string ⟨⟨l⟩⟩ := rep_str hx.rep
      obtain ⟨l1, t1, hlo⟩ := To.boundK_inv hc t
      obtain ⟨l2, t2, hhi⟩ := To.boundK_inv hc t1
      unfold cutStr at t2
      split at t2
      · have hlo := hlo.resolve_right (by rintro ⟨_, _, _, h⟩; cases h)
        have hhi := hhi.resolve_right (by rintro ⟨_, _, _, h⟩; cases h)
        have := run (i := 0) (j := l.length) ex (by omega) (by omega) (.inl ⟨hlo.1, rfl⟩) (.inl ⟨hhi.1, rfl⟩)
        exact fin (val_d (rep_v (.str l) trivial)) t2 (by rw [this]; simp [valD])
      · obtain ⟨hb, t2⟩ := t2.need_inv
        have hlo := hlo.resolve_left (by rintro ⟨_, h⟩; cases h)
        have hhi := hhi.resolve_right (by rintro ⟨_, _, _, h⟩; cases h)
        obtain ⟨kd, n, e1, e2⟩ := hlo
        cases e2
        obtain ⟨m, rfl⟩ := toN hb.1
        have := run (i := m) (j := l.length) ex (by omega) (by omega) (.inr ⟨kd, e1⟩) (.inl ⟨hhi.1, rfl⟩)
        exact fin (val_d (rep_v (.str _) trivial)) t2 (by rw [this]; simp [valD])
      · obtain ⟨hb, t2⟩ := t2.need_inv
        have hlo := hlo.resolve_right (by rintro ⟨_, _, _, h⟩; cases h)
        have hhi := hhi.resolve_left (by rintro ⟨_, h⟩; cases h)
        obtain ⟨kd, n, e1, e2⟩ := hhi
        cases e2
        obtain ⟨m, rfl⟩ := toN hb.1
        have := run (i := 0) (j := m) ex (by omega) (by omega) (.inl ⟨hlo.1, rfl⟩) (.inr ⟨kd, e1⟩)
        exact fin (val_d (rep_v (.str _) trivial)) t2 (by rw [this]; simp [valD])
      · obtain ⟨hb, t2⟩ := t2.need_inv
        have hlo := hlo.resolve_left (by rintro ⟨_, h⟩; cases h)
        have hhi := hhi.resolve_left (by rintro ⟨_, h⟩; cases h)
        obtain ⟨kd, n, e1, e2⟩ := hlo
        cases e2
        obtain ⟨kd', n', e3, e4⟩ := hhi
        cases e4
        obtain ⟨m, rfl⟩ := toN hb.1
        obtain ⟨m', rfl⟩ := toN (Int.le_trans hb.1 hb.2.1)
        have := run (i := m) (j := m') ex (by omega) (by omega) (.inr ⟨kd, e1⟩) (.inr ⟨kd', e3⟩)
        exact fin (val_d (rep_v (.str _) trivial)) t2 (by rw [this]; simp [valD])
    · exact t.fail_inv.elim
  · rename_i Et hT
    obtain ⟨sx, t, hx⟩ := To.ev_inv hc t
    obtain ⟨l1, t1, hlo⟩ := To.boundK_inv hc t
    obtain ⟨l2, t2, hhi⟩ := To.boundK_inv hc t1
    have run : ∀ {ad : Option Addr} {len cap i j : Nat} {ti : TypeInfo}, P.info? Et = some ti → a.eval x = .slice ad len cap → i ≤ j → j ≤ len → len ≤ cap → l1.getD 0 = i → l2.getD len = j →
        (Instr.sliceAt T (a.eval x) (lo.map a.eval) (hi.map a.eval) none).run P w = .ok (.slice (if cap = i then ad else ad.map (·.add (i * ti.size))) (j - i) (cap - i)) w := by
      intro ad len cap i j ti hti ex h1 h2 h3 h4 h5
      rw [ex]
      simp only [Instr.sliceAt, Sem.run_bind, run_underlying hT, Result.andThen_ok]
      refine run_slice_sl hT hti ad _ _ h1 h2 h3 ?_ ?_
      · rcases hlo with ⟨e1, rfl⟩ | ⟨kd, n, e1, rfl⟩
        · exact .inl ⟨e1, by simp at h4; omega⟩
        · simp at h4; subst h4; exact .inr ⟨kd, e1⟩
      · rcases hhi with ⟨e1, rfl⟩ | ⟨kd, n, e1, rfl⟩
        · exact .inl ⟨e1, by simp at h5; omega⟩
        · simp at h5; subst h5; exact .inr ⟨kd, e1⟩
    unfold cutSl at t2
    split at t2
    · rename_i len sz get
      split at t2
      · obtain ⟨ti, hti, hsz⟩ := sizeIs_info ‹_›
        obtain ⟨hb, t2⟩ := t2.need_inv
        obtain ⟨i, hi'⟩ := toN hb.1
        obtain ⟨j, hj'⟩ := toN (Int.le_trans hb.1 hb.2.1)
        rw [hi', hj'] at hb t2
        obtain ⟨ad, cap, ex, hcap, hr⟩ := list_slice hx.rep (i := i) (j := j) (by omega) (by omega)
        have := run (i := i) (j := j) hti ex (by omega) (by omega) hcap hi' hj'
        have e1 : ((j : Int) - (i : Int)).toNat = j - i := by omega
        have e2 : (i : Int).toNat = i := by omega
        rw [e1, e2] at t2
        rw [← hsz] at this
        exact fin ⟨hr, by simp [inS]⟩ t2 this
      · exact t2.fail_inv.elim
    · rename_i n sz off len
      split at t2
      · obtain ⟨ti, hti, hsz⟩ := sizeIs_info ‹_›
        obtain ⟨hb, t2⟩ := t2.need_inv
        obtain ⟨i, hi'⟩ := toN hb.1
        obtain ⟨j, hj'⟩ := toN (Int.le_trans hb.1 hb.2.1)
        rw [hi', hj'] at hb t2
        obtain ⟨ad, cap, ex, hcap, hr⟩ := osl_slice hx.rep (i := i) (j := j) (by omega) (by omega)
        have := run (i := i) (j := j) hti ex (by omega) (by omega) hcap hi' hj'
        have e1 : ((j : Int) - (i : Int)).toNat = j - i := by omega
        have e2 : (i : Int).toNat = i := by omega
        rw [e1, e2] at t2
        rw [← hsz] at this
        exact fin ⟨hr, fun m hm => hx.nm m (by simpa only [inS] using hm)⟩ t2 this
      · exact t2.fail_inv.elim
    · split at t2
      · obtain ⟨ti, hti, _⟩ := sizeIs_info ‹_›
        obtain ⟨hb, t2⟩ := t2.need_inv
        have ex := hx.rep
        simp only [RepS, RepD] at ex
        obtain ⟨ex, _⟩ := ex
        refine fin (v := .slice none 0 0) ⟨by simp [RepS, RepD, Value.oneCell'], by simp [inS]⟩ t2 ?_
        have := run (i := 0) (j := 0) hti ex (by omega) (by omega) (by omega) (by simpa using hb.1) (by simpa using hb.2)
        simpa using this
      · exact t2.fail_inv.elim
    · exact t2.fail_inv.elim
  · exact t.fail_inv.elim

/-! ### slices with three bounds -/
theorem list_slice3 {len sz : Nat} {get : Nat → Nat → D} {v : Value} (hv : RepS I ρ w (.d (.list len sz get)) v) {i j m : Nat} (hij : i ≤ j) (hjm : j ≤ m) (hm : m ≤ len) :
    ∃ ad cap, v = .slice ad len cap ∧ len ≤ cap ∧ RepS I ρ w (.d (.list (j - i) sz fun a b => get (i + a) b)) (.slice (if m = i then ad else ad.map (·.add (i * sz))) (j - i) (m - i)) := by
  simp only [RepS, RepD] at hv
  obtain ⟨ad, cap, rfl, hc, hr⟩ := hv
  refine ⟨ad, cap, rfl, hc, ?_⟩
  simp only [RepS, RepD]
  refine ⟨_, _, rfl, by omega, fun hlt => ?_⟩
  obtain ⟨b, o, rfl, hI, hcell⟩ := hr (by omega)
  have : m ≠ i := by omega
  refine ⟨b, o + i * sz, by simp [this, add_eq], hI, fun k m hk hm => ?_⟩
  obtain ⟨u, hu, hru⟩ := hcell (i + k) m (by omega) hm
  refine ⟨u, ?_, hru⟩
  rw [← hu, Nat.add_mul]
  congr 2
  omega
theorem run_slice3 {Et len cap : Nat} {ti : TypeInfo} (hT : P.underlying T = some (.slice Et)) (hti : P.info? Et = some ti) (ad : Option Addr) (lo : Option Value) {i j m : Nat} (hij : i ≤ j) (hjm : j ≤ m) (hm : m ≤ cap)
    (hlo : lo = none ∧ i = 0 ∨ ∃ kd, lo = some (.int kd i)) {k1 k2 : IntKind} :
    (Instr.slice T (.slice ad len cap) lo (some (.int k1 j)) (some (.int k2 m))).run P w = .ok (.slice (if m = i then ad else ad.map (·.add (i * ti.size))) (j - i) (m - i)) w := by
  rcases hlo with ⟨rfl, rfl⟩ | ⟨kd, rfl⟩ <;>
    simp [Instr.slice, run_underlying hT, Instr.sliceBounds, Instr.sliceBound, asIntOf, run_sizeOf' hti, hij, hjm, hm]
theorem op_slice3 (hc : Conc G nt C I ρ F a w) {o : Oper} {T : Nat} {x mx : Operand} {lo hi : Option Operand} (ho : o.op = .slice T x lo hi (some mx)) (hd : dstOk nt o.dst) {u : Upd} (t : To P G F (opM P G E o.dst o.op) u)
    {F1 : Fs} (hp : Pubs F u.pub F1) : OpOk P G nt C I ρ a w o (finF F1 u) := by
  rw [ho] at t
  simp only [opM] at t
  split at t
  · rename_i Et hT
    obtain ⟨sx, t, hx⟩ := To.ev_inv hc t
    obtain ⟨ds, ns, t, h1, h2, h3⟩ := To.lendArgs_inv (ρ := ρ) (w := w) t
    obtain ⟨l1, t, hlo⟩ := To.boundK_inv hc t
    obtain ⟨l2, t, hhi⟩ := To.boundK_inv hc t
    obtain ⟨sm, t, hm⟩ := To.ev_inv hc t
    unfold cut3 at t
    split at t
    · rename_i len sz get hi' km m' _ _ _
      split at t
      · obtain ⟨ti, hti, hsz⟩ := sizeIs_info ‹_›
        obtain ⟨⟨hb1, hb2, hb3, hb4⟩, t⟩ := t.need_inv
        have := t.ret_inv; subst this
        obtain ⟨I1, hc1, hI, hpub, hnm, _⟩ := hp.conc hc
        have hB : ∀ n b, F.o n = some b → BlkOk I1 ρ w (ρ n) b := fun n b hb => (hc.own n b hb).mono hI (fun _ _ _ => rfl) (fun _ _ => rfl) (fun _ => rfl)
        have hr := h3 I1 [a.eval x] (fun n hn hcap => hpub n hn (h1 n hn) hcap) hB (by simp only [RepL]; exact ⟨_, _, rfl, hx.rep.mono hI (fun _ _ _ => rfl) (fun _ _ => rfl), rfl⟩)
        simp only [RepL] at hr
        obtain ⟨v, r, e, hv, _⟩ := hr
        simp only [List.cons.injEq] at e
        rw [← e.1] at hv
        have toN : ∀ {n : Int}, 0 ≤ n → ∃ m : Nat, n = m := fun h => ⟨_, (Int.toNat_of_nonneg h).symm⟩
        obtain ⟨i, hi0⟩ := toN hb1
        obtain ⟨j, hj0⟩ := toN (Int.le_trans hb1 hb2)
        obtain ⟨m, hm0⟩ := toN (Int.le_trans (Int.le_trans hb1 hb2) hb3)
        subst hj0; subst hm0
        rw [hi0] at hb2
        obtain ⟨ad, cap, ex, hcap, hrv⟩ := list_slice3 hv (i := i) (j := j) (m := m) (by omega) (by omega) (by omega)
        have em := rep_int hm.rep
        obtain ⟨kh, nh, eh, eh2⟩ := hhi.resolve_left (by rintro ⟨_, h⟩; cases h)
        cases eh2
        have hlo' : lo.map a.eval = none ∧ i = 0 ∨ ∃ kd, lo.map a.eval = some (.int kd i) := by
          rcases hlo with ⟨e1, rfl⟩ | ⟨kd, n, e1, rfl⟩
          · exact .inl ⟨e1, by simp at hi0; omega⟩
          · simp at hi0; subst hi0; exact .inr ⟨kd, e1⟩
        have hrun := run_slice3 (P := P) (w := w) (len := len) (k1 := kh) (k2 := km) hT hti ad (lo.map a.eval) (i := i) (j := j) (m := m) (by omega) (by omega) (show m ≤ cap by omega) hlo'
        rw [hi0]
        rw [finF_pub]
        have e1 : ((j : Int) - (i : Int)).toNat = j - i := by omega
        have e2 : (i : Int).toNat = i := by omega
        rw [e1, e2]
        intro next Q hn
        refine wp_value (v := .slice (if m = i then ad else ad.map (·.add (i * sz))) (j - i) (m - i)) (w' := w) ?_ (hn I1 ρ _ w (hc1.put hd hrv (by simp [inS])))
        simp only [execOp, ho, Sem.run_bind, Option.map_some, eh, em, ex, Instr.sliceAt, run_underlying hT, Result.andThen_ok, hrun, hsz, Sem.run_pure]
      · exact t.fail_inv.elim
    · exact t.fail_inv.elim
  · exact t.fail_inv.elim

/-! ### make -/
theorem op_makeSlice (hc : Conc G nt C I ρ F a w) {o : Oper} {T : Nat} {l c : Operand} (ho : o.op = .makeSlice T l c) (hd : dstOk nt o.dst) {u : Upd} (t : To P G F (opM P G E o.dst o.op) u)
    {F1 : Fs} (hp : Pubs F u.pub F1) (hf : ∀ n ∈ u.new, ¬ F.nm n) : OpOk P G nt C I ρ a w o (finF F1 u) := by
  rw [ho] at t
  simp only [opM] at t
  obtain ⟨d, hdst, t⟩ := dstK_inv t
  obtain ⟨Et, hT, t⟩ := To.elemK_inv t
  split at t
  · rename_i hz
    obtain ⟨ti, z, hti, hzz, hzs, hts, hpos⟩ := zeroOk_inv hz
    obtain ⟨i2, z2, cs, us, hi2, hz2, hzc, hul, t, h1, h2⟩ := To.zeroK_inv (I := I) (ρ := ρ) (w := w) t
    rw [hti] at hi2; cases hi2
    rw [hzz] at hz2; cases hz2
    obtain ⟨zd, e, t'⟩ := To.dcells_inv t
    subst e
    clear t
    have t := t'
    clear t'
    obtain ⟨sl, t, hl⟩ := To.ev_inv hc t
    split at t
    · rename_i kl n
      obtain ⟨sc, t, hcp⟩ := To.ev_inv hc t
      split at t
      · rename_i kc m
        obtain ⟨⟨hb1, hb2, hb3, hb4⟩, t⟩ := t.need_inv
        have := t.ret_inv; subst this
        cases hp
        rw [finF_new]
        have el := rep_int hl.rep
        have ec := rep_int hcp.rep
        have hby : P.bytesOf Et = ti.bytes := by simp [Program.bytesOf, hti]
        have hr := run_make (P := P) w T Et ti z hT hti hzz kl kc n m hb1 hb2 (by rw [← hby]; exact hb3) hb4
        have hz0 : RepL I ρ w (zd.map .d) us := h1.1
        have hzl := hz0.length
        simp only [List.length_map] at hzl
        have hrow := rowIs_zero (I := I) (w := w) (len := m.toNat) (sz := P.cellsOf Et) (us := us) (ds := zd) hpos (by omega) (fun j hj => hz0.data j (by omega))
        intro next Q hn
        refine wp_value (v := .slice (some ⟨w.heap.size, 0, none⟩) n.toNat m.toNat) ?_ (hn I _ _ _ ((hc.newBlock (o := .cells (madeCells z.cells (m.toNat * ti.size)) Et) (hf d (by simp)) (cap := m.toNat) (rl := n.toNat) (sz := P.cellsOf Et) ?_ (by simp [inB])).put hd (osl_new (by omega)) (by intro k hm; simp only [inS] at hm; exact .inl (hm.symm.trans (by simp)))))
        · simp only [execOp, ho, Sem.run_bind, el, ec, hr, Result.andThen_ok, Sem.run_pure]
        · refine ⟨rfl, rfl, by simp only; omega, fun _ => ⟨_, .of (heap_alloc_self w _), by simp [size_madeCells, hts], fun i j hi hj => ?_⟩⟩
          obtain ⟨u, hu, hr⟩ := hrow.2 i j (by omega) hj
          refine ⟨u, ?_, hr.mono (fun _ h => h) (hc.same_alloc _)⟩
          rw [hts, hzc]
          rw [← Array.getElem?_toList]
          exact hu
      · exact t.fail_inv.elim
    · exact t.fail_inv.elim
  · exact t.fail_inv.elim

/-! ### runes of a string -/
theorem op_range (hc : Conc G nt C I ρ F a w) {o : Oper} {T : Nat} {x : Operand} (ho : o.op = .range T x) (hd : dstOk nt o.dst) {u : Upd} (t : To P G F (opM P G E o.dst o.op) u)
    {F1 : Fs} (hp : Pubs F u.pub F1) (hf : ∀ n ∈ u.new, ¬ F.nm n) : OpOk P G nt C I ρ a w o (finF F1 u) := by
  rw [ho] at t
  obtain ⟨d, hdst, t⟩ := dstK_inv t
  split at t
  · rename_i hT
    obtain ⟨sv, t, hv⟩ := To.ev_inv hc t
    split at t
    · rename_i l
      have ex : a.eval x = .string ⟨⟨l⟩⟩ := rep_str hv.rep
      have := t.ret_inv; subst this
      cases hp
      rw [finF_new]
      have hcn := hc.newBlock (hf d (by simp)) (blk := .iter l 0) (o := .stringIter ⟨⟨l⟩⟩ 0) (cap := 0) (rl := 0) (sz := 0) (heap_alloc_self w _) (by simp [inB])
      intro next Q hn
      refine wp_value (v := .pointer (some ⟨w.heap.size, 0, none⟩)) (w' := w.alloc (.stringIter ⟨⟨l⟩⟩ 0)) ?_ (hn _ _ _ _ (hcn.put (by rw [hdst] at hd ⊢; exact hd) ?_ ?_))
      · simp only [execOp, ho, Sem.run_bind, ex, run_range_string w T _ hT, Result.andThen_ok, Sem.run_pure, World.iter]
      · simp [RepS, rhoSet]
      · intro m hm; simp only [inS] at hm; exact .inl hm.symm
    · exact t.fail_inv.elim
  · exact t.fail_inv.elim

def putObj (w : World) (b : Nat) (o : Obj) : World := { w with heap := w.heap.setIfInBounds b o }

theorem op_next (hc : Conc G nt C I ρ F a w) {o : Oper} {x : Operand} (ho : o.op = .next x true) (hd : dstOk nt o.dst) {u : Upd} (t : To P G F (opM P G E o.dst o.op) u)
    {F1 : Fs} (hp : Pubs F u.pub F1) : OpOk P G nt C I ρ a w o (finF F1 u) := by
  rw [ho] at t
  obtain ⟨sv, t, hv⟩ := To.ev_inv hc t
  split at t
  · rename_i n
    have ex : a.eval x = .pointer (some ⟨(ρ n).b, 0, none⟩) := by simpa only [RepS] using hv.rep
    obtain ⟨b, hb, t1⟩ := t.own_inv
    clear t
    split at t1
    · rename_i s pos
      have hobj : w.heap[(ρ n).b]? = some (.stringIter ⟨⟨s⟩⟩ pos) := hc.own n _ hb
      have hsize : (ByteArray.mk ⟨s⟩).size = s.length := rfl
      cases t1 with
      | split1 h t1 =>
        have hlt : pos < s.length := Nat.le_of_ble_eq_true h
        have := t1.ret_inv; subst this
        cases hp
        rw [finF_set]
        intro next Q hn
        refine wp_value (v := .tuple ⟨[.bool true, .int .i64 pos, .int .i32 (runeAt s pos).1]⟩) (w' := putObj w (ρ n).b (.stringIter ⟨⟨s⟩⟩ (pos + (runeAt s pos).2))) ?_ (hn I ρ _ _ (Conc.put ?_ hd ?_ ?_))
        · simp only [execOp, ho, ex, Instr.next, getObj, setObj, Sem.run_bind, Sem.run, hobj, Result.andThen, hsize, hlt, if_true, putObj]
          rfl
        · have hS := hc.sep n _ hb trivial
          have hlt' := hc.live_lt hb trivial
          refine hc.store (blk := .iter s (pos + (runeAt s pos).2)) hb (fun h => h) (fun h => h) ?_ ?_ ?_ ?_ ?_ (by simp [inB])
          · intro b o hI
            have hne : (ρ n).b ≠ b := by rintro rfl; exact hS.1 hI
            exact World.cell?_of_block (by simp [putObj, Array.getElem?_setIfInBounds_ne hne])
          · intro m b hm hne hl
            have hne' : (ρ n).b ≠ (ρ m).b := fun e => hne (hc.inj m n b _ hm hb hl trivial e.symm)
            simp [putObj, Array.getElem?_setIfInBounds_ne hne']
          · refine hc.keep.trans (T := fun k => k = (ρ n).b) ⟨rfl, rfl, rfl, by simp [putObj], fun k _ hk => ?_⟩ ?_
            · have hne : (ρ n).b ≠ k := fun e => hk e.symm
              simp [putObj, Array.getElem?_setIfInBounds_ne hne]
            · rintro i rfl; exact hS.2.symm
          · intro b hI; have := hc.ilt b hI; simpa [putObj] using this
          · show (putObj w (ρ n).b _).heap[(ρ n).b]? = _
            simp [putObj, hlt']
        · simp only [RepS, RepD]
          exact ⟨_, rfl, by simp [RepL, RepS, RepD]⟩
        · simp [inS, inL]
      | split2 h t1 =>
        have hlt : ¬ pos < s.length := fun h' => by rw [show Nat.blt pos s.length = true from Nat.ble_eq_true_of_le h'] at h; cases h
        have := upd_inv t1; subst this
        cases hp
        refine opOk_val hc (sv := .tup [.d (.bool false)]) (v := .tuple ⟨[.bool false]⟩) ⟨?_, by simp [inS, inL]⟩ hd ?_
        · simp only [RepS]; exact ⟨_, rfl, by simp [RepL, RepS, RepD]⟩
        · simp only [execOp, ho, ex, Instr.next, getObj, setObj, Sem.run_bind, Sem.run, hobj, Result.andThen, hsize, hlt, if_false]
          rfl
    · exact t1.fail_inv.elim
  · exact t.fail_inv.elim

theorem op_makeFunc (hc : Conc G nt C I ρ F a w) {o : Oper} {f : FuncId} {caps : List Operand} (ho : o.op = .makeFunc (.func f) ⟨[]⟩ ⟨caps⟩) (hd : dstOk nt o.dst) {u : Upd} (t : To P G F (opM P G E o.dst o.op) u)
    {F1 : Fs} (hp : Pubs F u.pub F1) : OpOk P G nt C I ρ a w o (finF F1 u) := by
  rw [ho] at t
  obtain ⟨cs, t, hvs⟩ := To.evs_inv hc t
  have := upd_inv t; subst this
  cases hp
  refine opOk_val hc (v := .func (.func f) #[] ⟨caps.map a.eval⟩) ⟨?_, hvs.nm⟩ hd ?_
  · simp only [RepS]; exact ⟨_, rfl, hvs.rep⟩
  · simp [execOp, ho, Instr.makeFunc]

end Go.Sx
