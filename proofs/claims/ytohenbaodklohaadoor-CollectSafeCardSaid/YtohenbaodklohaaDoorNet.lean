/- Contracts of functions that the law reaches: YtohenbaodklohaaDoorNet. Written for this claim. -/
import Derived.Test.YtohenbaodklohaaDoorCol4
import Derived.Test.YtohenbaodklohaaDoorT7
namespace Go.Proofs.YtohenbaodklohaaDoor
open Go Go.Sx Go.ChangeShapes Go.WideShapes Go.ChangeAt Go.RowKit
set_option linter.unusedVariables false
set_option linter.unusedSimpArgs false
set_option maxRecDepth 100000
/-! drawn nets of groups -/
theorem slice_tabN {rows : List Row} (h : TabOk rows) {lk : List UInt8} {lt : Bool} {hk : List UInt8} {ht : Bool} : TabOk (sliceF rows lk lt hk ht) :=
  ⟨Nat.le_trans slice_len h.len, fun r hr => h.ok r (List.mem_filter.1 hr).1, h.sorted.sub List.filter_sublist⟩
theorem newC_okN {r : Rng} {e v : Int} {rows : List Row} (hr : emptyR' r = false) (hs : stampOk e v = true) (hq : RowsQ r.1 r.2.1 r.2.2.1 r.2.2.2 900 rows) : newC r e v rows = ({ noCopy with lk := r.1, lt := r.2.1, hk := r.2.2.1, ht := r.2.2.2, se := e, sv := v, rows := rows }, 0) ∧
    validC { noCopy with lk := r.1, lt := r.2.1, hk := r.2.2.1, ht := r.2.2.2, se := e, sv := v, rows := rows } = true ∧ Small { noCopy with lk := r.1, lt := r.2.1, hk := r.2.2.1, ht := r.2.2.2, se := e, sv := v, rows := rows } := by
  have hv : validR' r = true := by
    simp only [emptyR', emptyR, Bool.or_eq_false_iff, Bool.not_eq_false'] at hr
    exact hr.1
  have hw : inAll r rows = true := inAll_iff.2 hq.within
  have hl := hq.len
  refine ⟨by simp [newC, hv, hs, withinF, hw, validT_iff.2 hq.ok], ?_, ?_, by simp [noCopy], by simp [noCopy, noPart], by simp [noCopy, noPart]⟩
  · exact valid_of hv hs hq.ok hw (by simp [noCopy]) (by simp [noCopy]; omega) (by simp [noCopy]) rfl rfl
  · simp only; omega
abbrev rawC (lk : List UInt8) (lt : Bool) (hk : List UInt8) (ht : Bool) (e v : Int) (rows : List Row) : CopyT := ⟨lk, lt, hk, ht, e, v, rows, [], noPart, noPart, 0, 0⟩
theorem newr_okN (lk : List UInt8) (lt : Bool) (hk : List UInt8) (ht : Bool) (e v : Int) (rows : List Row) : (emptyR lk lt hk ht = false ∧ stampOk e v = true ∧ RowsQ lk lt hk ht 900 rows) → Sx.Spec Tryd.prog GG 29 [.agg [.d (.str lk), .d (.bool lt), .d (.str hk), .d (.bool ht)], .agg [.d (.int .i64 e), .d (.int .i64 v)], .d (encL encRow 2 rows)] []
    (.tup [.agg (copyL (rawC lk lt hk ht e v rows)), .d (.int .i64 0)]) [] := by
  rintro ⟨h1, h2, h3⟩
  have hl := h3.len
  have := newr_spec lk lt hk ht e v rows (by omega)
  rw [(newC_okN (r := (lk, lt, hk, ht)) h1 h2 h3).1] at this
  exact this
def idsN (n : Int) (k : Nat) : List Int := (List.range k).map fun (j : Nat) => 10 * n + (j : Int)
theorem idsN_len {n : Int} {k : Nat} : (idsN n k).length = k := by simp [idsN]
theorem idsN_get {n : Int} {k i : Nat} (h : i < k) : (idsN n k).getD i default = 10 * n + (i : Int) := by simp [idsN, List.getD, h]
theorem idsN_uniq {n : Int} {k i j : Nat} (hi : i < k) (hj : j < k) (h : (idsN n k).getD i default = (idsN n k).getD j default) : i = j := by
  rw [idsN_get hi, idsN_get hj] at h; omega
theorem memL'_get {c : CopyT} {ids : List Int} {i : Nat} (h : i < ids.length) : (memL' c ids).getD i default = ⟨ids.getD i default, true, c⟩ := by simp [memL', List.getD, h]
theorem newG_net {n : Int} {k : Nat} {c : CopyT} (hn : 1 ≤ n ∧ n ≤ 1000) (hk : 1 ≤ k ∧ k ≤ 3) (hv : validC c = true) : newG n (idsN n k) c = (⟨n, true, memL' c (idsN n k)⟩, 0) := by
  have hids : (idsN n k).all numOk = true := by
    simp only [List.all_eq_true, idsN, List.mem_map, List.mem_range, forall_exists_index, and_imp]
    rintro _ j hj rfl
    simp [numOk]; omega
  have hd : dupL (idsN n k) 0 = false := by
    simp only [dupL, List.any_eq_false, List.mem_range, Bool.and_eq_true, decide_eq_true_eq, not_and, Bool.not_eq_true, idsN_len]
    intro i hi _
    rw [Bool.eq_false_iff]
    intro h
    simp only [List.contains_iff_mem] at h
    obtain ⟨j, hj, e⟩ := List.getElem_of_mem h
    simp only [List.length_take, idsN_len] at hj
    rw [List.getElem_take] at e
    have : (idsN n k).getD j default = (idsN n k).getD i default := by rw [← e]; simp [List.getD, idsN_len, show j < k by omega]
    have := idsN_uniq (by omega) hi this
    omega
  exact newG_ok (by simp [numOk]; omega) hv hids (by rw [idsN_len]; omega) (by rw [idsN_len]; omega) hd
theorem newgr_net (n : Int) (lk : List UInt8) (lt : Bool) (hk : List UInt8) (ht : Bool) (e v : Int) (rows : List Row) {m : Nat} {gf : Nat → Nat → D} : (RowLe m 1 gf (cellOf encI (idsN n m)) ∧ (1 ≤ n ∧ n ≤ 1000) ∧ (1 ≤ m ∧ m ≤ 3) ∧ validC (rawC lk lt hk ht e v rows) = true ∧ Small (rawC lk lt hk ht e v rows)) → Sx.Spec Tryd.prog GG 31 [.d (.int .i64 n), .d (.list m 1 gf), .agg (copyL (rawC lk lt hk ht e v rows))] [] (.tup [.agg (grpL ⟨n, true, memL' (rawC lk lt hk ht e v rows) (idsN n m)⟩), .d (.int .i64 0)]) [] := by
  rintro ⟨hr, hn, hk, hv, hs⟩
  have := newgr_spec n (idsN n m) _ ⟨hs, by rw [idsN_len]; omega⟩
  rw [newG_net hn hk hv] at this
  exact this.arg (LeL.cons (LeS.refl _) (LeL.cons (LeS.d (DLe.rows idsN_len.symm (by rw [idsN_len]; exact hr))) (LeL.cons (LeS.refl _) LeL.nil)))
/-- a drawn group of a net -/
structure DrawnG (i : Nat) (g : GrpT) : Prop where
  num : g.num = (i : Int) + 1
  snd : SndG g
  pm : PM g.mem
  rng : emptyR' (own0 g).copy.rng = false
  n3 : g.mem.length ≤ 3
  up : ∀ m ∈ g.mem, m.up = true
theorem drawn_new {i k : Nat} {c : CopyT} (hk : 1 ≤ k ∧ k ≤ 3) (hi : i ≤ 500) (hv : validC c = true) (hs : Small c) (ho : c.out = noPart) (hn : c.inn = noPart) (hr : emptyR' c.rng = false) : DrawnG i ⟨(i : Int) + 1, true, memL' c (idsN ((i : Int) + 1) k)⟩ := by
  have hl : (memL' c (idsN ((i : Int) + 1) k)).length = k := by rw [memL_len, idsN_len]
  have hg : ∀ j, j < k → (memL' c (idsN ((i : Int) + 1) k)).getD j default = ⟨10 * ((i : Int) + 1) + (j : Int), true, c⟩ := fun j hj => by
    rw [memL'_get (by rw [idsN_len]; exact hj), idsN_get hj]
  have hm : ∀ m ∈ memL' c (idsN ((i : Int) + 1) k), ∃ j, j < k ∧ m = ⟨10 * ((i : Int) + 1) + (j : Int), true, c⟩ := fun m hm => by
    obtain ⟨j, hj, rfl⟩ := mem_getD hm
    rw [hl] at hj
    exact ⟨j, hj, hg j hj⟩
  refine ⟨rfl, ⟨by simp only; omega, by simp only; omega, by simp [numOk]; omega, rfl, ?_, ?_, ?_⟩, ?_, ?_, by simp only; omega, ?_⟩
  · intro a b ha hb h
    simp only [hl] at ha hb
    rw [hg a ha, hg b hb] at h
    simp only at h; omega
  · intro m h
    obtain ⟨j, hj, rfl⟩ := hm m h
    exact ⟨by simp [numOk]; omega, hv, hs⟩
  · intro j h0 hj _
    simp only [hl] at hj
    simp only [own0]
    rw [hg j hj, hg 0 (by omega)]
    exact Behind.refl _
  · intro m h
    obtain ⟨j, hj, rfl⟩ := hm m h
    exact ⟨ho, hn⟩
  · simp only [own0]
    rw [hg 0 (by omega)]; exact hr
  · intro m h
    obtain ⟨j, hj, rfl⟩ := hm m h
    rfl
/-- the groups of a net -/
structure NetQ (gs : List GrpT) : Prop where
  le : gs.length ≤ 200
  all : ∀ i, i < gs.length → DrawnG i (gs.getD i default)
theorem netq_nil : NetQ [] := ⟨by simp, by simp⟩
theorem netq_snoc {gs : List GrpT} {g : GrpT} (h : NetQ gs) (hl : gs.length < 200) (hg : DrawnG gs.length g) : NetQ (gs ++ [g]) := by
  refine ⟨by simp; omega, fun i hi => ?_⟩
  simp only [List.length_append, List.length_singleton] at hi
  by_cases e : i < gs.length
  · rw [getD_append_left e]; exact h.all i e
  · have : i = gs.length := by omega
    subst this
    rw [getD_append_right (by omega), Nat.sub_self]; exact hg
theorem netq_b {gs : List GrpT} (h : NetQ gs) : NetB gs := by
  refine ⟨by have := h.le; omega, fun g hg => ?_⟩
  obtain ⟨i, hi, rfl⟩ := List.getElem_of_mem hg
  have := (h.all i hi).snd.b
  simpa [List.getD, hi] using this
theorem lo_valid {lk : List UInt8} {lt : Bool} {hk : List UInt8} {ht : Bool} (h : emptyR lk lt hk ht = false) : validB hk ht = true := by
  simp only [emptyR, Bool.or_eq_false_iff, Bool.not_eq_false', validR, Bool.and_eq_true] at h
  exact h.1.1.2
theorem rowsq_slice {rows : List Row} {lk : List UInt8} {lt : Bool} {hk : List UInt8} {ht : Bool} (h : TabOk rows) (hl : (rows.length : Int) ≤ 8) : RowsQ lk lt hk ht 900 (sliceF rows lk lt hk ht) :=
  ⟨slice_tabN h, by have := slice_len (rows := rows) (lk := lk) (lt := lt) (hk := hk) (ht := ht); omega, fun r hr => (List.mem_filter.1 hr).2⟩
def netG (gs : List GrpT) (lk : List UInt8) (lt : Bool) (hk : List UInt8) (ht : Bool) (e v : Int) (rows : List Row) (w : Int) : GrpT := GrpT.mk ((gs.length : Int) + 1) true (memL' (rawC lk lt hk ht e v (sliceF rows lk lt hk ht)) (idsN ((gs.length : Int) + 1) (1 + w).toNat))
theorem cellsGrp : Tryd.prog.cellsOf 30 = 3 := by kernel_rfl
theorem bytesGrp : Tryd.prog.bytesOf 30 = 40 := by kernel_rfl
theorem row_ids {n w0 w1 w2 : Int} {m k : Nat} {z : Nat → Nat → D} (hm : m = k) (hk : k ≤ 3) (h0 : w0 = 10 * n) (h1 : w1 = 10 * n + 1) (h2 : w2 = 10 * n + 2) : RowLe m 1 (fun i j => tabF z [(0, [.int .i64 w0]), (1, [.int .i64 w1]), (2, [.int .i64 w2])] ((0 : Int).toNat + i) j) (cellOf encI (idsN n k)) := by
  subst hm; subst h0; subst h1; subst h2
  refine .of_eq fun i j hi hj => ?_
  have : j = 0 := by omega
  subst this
  simp only [cellOf, idsN_get hi]
  match i, hi, hk with
  | 0, _, _ => simp [tabF, encI, List.getD]
  | 1, _, _ => simp [tabF, encI, List.getD]
  | 2, _, _ => simp [tabF, encI, List.getD]
  | i + 3, _, _ => omega
set_option maxHeartbeats 8000000 in
theorem net0 {l : List Int} {a : Nat} {n : Int} : (TapeOk l a ∧ 1 ≤ n ∧ n ≤ 50) → ∃ x : List GrpT × Nat, ((NetQ x.1 ∧ 1 ≤ x.1.length ∧ (x.1.length : Int) ≤ n) ∧ TapeOk l x.2) ∧
    Sx.Spec Tryd.prog GG 5 [.ptr 1000 0, .d (.int .i64 n)] [(1000, tapeB l a)] (.osl 2000 3 0 x.1.length) [(1000, tapeB l x.2), (2000, .row 30 3 x.1.length (cellOf encGrp x.1))] := by
  rintro ⟨h, hn⟩
  have wn : IntKind.i64.wrap (n - 1) = n - 1 := wrap_of (by omega) (by omega)
  refine spec_some (E := EE) (fn := Tryd.f5) _ _ _ true eok (by kernel_rfl) (by kernel_rfl) Tryd.call5 (by kernel_rfl) (fun _ => by kernel_rfl) (fun _ => by kernel_rfl) ?_
  conv => whnf
  repeat' first
    | (refine call_some_if (rows_ex _) (fun _ => by first | exact .inl rfl | exact .inr ⟨rfl, rfl⟩) (need_intro ?_ ?_); rintro ⟨rows, b⟩ ⟨⟨hq, hrl⟩, h5⟩; (conv => whnf))
    | (refine call_intro (all_spec) ?_ (by first | exact .inl rfl | exact .inr ⟨rfl, rfl⟩); (conv => whnf))
    | (refine call_some_if (cuts_ex _) (fun _ => by first | exact .inl rfl | exact .inr ⟨rfl, rfl⟩) (need_intro ?_ ?_); rintro ⟨cuts, b⟩ ⟨hcl, h6⟩; (conv => whnf))
    | (refine bc_true (by assumption) ?_; (conv => whnf))
    | (refine bc_false (by assumption) ?_; (conv => whnf))
    | (refine need_intro ?_ ?_; (conv => whnf))
    | (refine wk_refl ?_; (conv => whnf))
    | (refine draw_intro (by kernel_rfl) ?_; (conv => whnf))
    | (refine ord_intro (by kernel_rfl) ?_; (conv => whnf))
  all_goals try first
    | exact ⟨h, by omega, by omega⟩
    | exact ⟨by assumption, by rw [wn]; omega, by rw [wn]; omega⟩
  all_goals try simp only [wn] at *
  refine loop_auto [0, 4, 6, 7, 8] [] (fun x : (Nat × List GrpT) × (List UInt8 × Bool) × Nat => [(9, .d (.int .i64 x.1.1)), (5, .osl 500 3 0 x.1.2.length)]) (fun x => [(500, .row 30 3 x.1.2.length (cellOf encGrp x.1.2)), (7, .box [.d (.str x.2.1.1), .d (.bool x.2.1.2), .d (.str []), .d (.bool true)]), (1000, tapeB l x.2.2)])
    (fun x => (x.1.1 ≤ cuts.length + 1 ∧ NetQ x.1.2 ∧ x.1.2.length ≤ x.1.1 ∧ validB x.2.1.1 x.2.1.2 = true ∧ (x.1.2.length = 0 → x.2.1.1 = [] ∧ x.2.1.2 = false) ∧ (x.1.1 = cuts.length + 1 → 1 ≤ x.1.2.length)) ∧ TapeOk l x.2.2) (fun x => cuts.length + 1 - x.1.1) ((0, []), ([], false), b) ?_ (fun x hx => ?_) ⟨⟨by simp, netq_nil, by simp, by simp [validB], fun _ => ⟨rfl, rfl⟩, by simp⟩, h6⟩
  · conv => whnf
    repeat' first
      | (refine bc_true (by assumption) ?_; (conv => whnf))
      | (refine bc_false (by assumption) ?_; (conv => whnf))
      | (refine bc_intro (fun _ => ?_) (fun _ => ?_) <;> (conv => whnf))
      | (refine need_intro ?_ ?_; (conv => whnf))
      | (refine wk_refl ?_; (conv => whnf))
      | (refine draw_intro (by kernel_rfl) ?_; (conv => whnf))
      | (refine ord_intro (by kernel_rfl) ?_; (conv => whnf))
    all_goals first | exact trivial | exact DLe.refl _ | exact DLe.nil | exact RowLe.refl _ _ _ | exact ⟨rfl, rfl⟩ | exact ⟨rfl, rfl, rfl⟩ | trace_state
  · obtain ⟨⟨i, gs⟩, ⟨lk, lt⟩, b0⟩ := x
    obtain ⟨⟨hi, hN, hle, hvb, h0, hend⟩, hb⟩ := hx
    simp only at hi hN hle hvb h0 hend hb
    have hs : IntKind.i64.wrap ((i : Int) + 1) = ((i + 1 : Nat) : Int) := wrap_succ (n := 2000000) (by omega) (by omega)
    have hq' := hN.le
    have w1 : IntKind.i64.wrap ((gs.length : Int) + 1) = (gs.length : Int) + 1 := wrap_of (by omega) (by omega)
    have w2 : IntKind.i64.wrap (10 * ((gs.length : Int) + 1)) = 10 * ((gs.length : Int) + 1) := wrap_of (by omega) (by omega)
    have w3 : IntKind.i64.wrap (10 * ((gs.length : Int) + 1) + 1) = 10 * ((gs.length : Int) + 1) + 1 := wrap_of (by omega) (by omega)
    have w4 : IntKind.i64.wrap (10 * ((gs.length : Int) + 1) + 2) = 10 * ((gs.length : Int) + 1) + 2 := wrap_of (by omega) (by omega)
    have w5 : ∀ w : Int, 0 ≤ w → (w < 3 ∨ w = 0) → IntKind.i64.wrap (1 + w) = 1 + w := fun w h1 h2 => wrap_of (by omega) (by omega)
    have hst : ∀ e v : Int, 0 ≤ e → (e < 3 ∨ e = 0) → 0 ≤ v → (v < 2 ∨ v = 0) → stampOk e v = true := fun e v h1 h2 h3 h4 => stamp_of.2 ⟨⟨by omega, by omega⟩, by omega, by omega⟩
    have htop : emptyR lk lt [] true = true → 1 ≤ gs.length := fun h => by
      rcases Nat.eq_zero_or_pos gs.length with h9 | h9
      · obtain ⟨rfl, rfl⟩ := h0 h9
        exact absurd h (by decide)
      · exact h9
    have hnew : ∀ (hk : List UInt8) (ht : Bool) (e v z : Int), emptyR lk lt hk ht = false → (0 ≤ e ∧ (e < 3 ∨ e = 0)) → (0 ≤ v ∧ (v < 2 ∨ v = 0)) → (0 ≤ z ∧ (z < 3 ∨ z = 0)) →
        (validC (rawC lk lt hk ht e v (sliceF rows lk lt hk ht)) = true ∧ Small (rawC lk lt hk ht e v (sliceF rows lk lt hk ht))) ∧ DrawnG gs.length (netG gs lk lt hk ht e v rows z) := fun hk ht e v z he h1 h2 h3 => by
      obtain ⟨_, g2, g3⟩ := newC_okN (r := (lk, lt, hk, ht)) (e := e) (v := v) (rows := sliceF rows lk lt hk ht) he (hst e v h1.1 h1.2 h2.1 h2.2) (rowsq_slice hq hrl)
      exact ⟨⟨g2, g3⟩, drawn_new (c := rawC lk lt hk ht e v (sliceF rows lk lt hk ht)) ⟨by omega, by omega⟩ (by omega) g2 g3 rfl rfl he⟩
    conv => whnf
    repeat' first
      | (refine call_intro (validBoundr_spec _ _) ?_ (by first | exact .inl rfl | exact .inr ⟨rfl, rfl⟩); (conv => whnf))
      | (refine call_intro (comparer_spec _ _ _ _) ?_ (by first | exact .inl rfl | exact .inr ⟨rfl, rfl⟩); (conv => whnf))
      | (refine call_intro (emptyRr_spec _ _ _ _) ?_ (by first | exact .inl rfl | exact .inr ⟨rfl, rfl⟩); (conv => whnf))
      | (refine call_some_if (next_ex (a := b0) (n := 3) _) (fun _ => by first | exact .inl rfl | exact .inr ⟨rfl, rfl⟩) (need_intro ?_ ?_); rintro ⟨e, b⟩ ⟨⟨e1, e2⟩, e3⟩; (conv => whnf))
      | (refine call_some_if (next_ex (n := 2) _) (fun _ => by first | exact .inl rfl | exact .inr ⟨rfl, rfl⟩) (need_intro ?_ ?_); rintro ⟨v, b⟩ ⟨⟨v1, v2⟩, v3⟩; (conv => whnf))
      | (refine call_some_if (next_ex _) (fun _ => by first | exact .inl rfl | exact .inr ⟨rfl, rfl⟩) (need_intro ?_ ?_); rintro ⟨z, b⟩ ⟨⟨z1, z2⟩, z3⟩; (conv => whnf))
      | (refine call_if (slicer_spec rows _ _ _ _) (by first | exact .inl rfl | exact .inr ⟨rfl, rfl⟩) (need_intro ?_ ?_); (conv => whnf))
      | (refine call_if (newr_okN _ _ _ _ _ _ _) (by first | exact .inl rfl | exact .inr ⟨rfl, rfl⟩) (need_intro ?_ ?_); (conv => whnf))
      | (refine call_if (newgr_net _ _ _ _ _ _ _ _) (by first | exact .inl rfl | exact .inr ⟨rfl, rfl⟩) (need_intro ?_ ?_); (conv => whnf))
      | (refine NextVC.mk ((i + 1, gs ++ [netG gs lk lt ((fun _ => (cuts.getD i default).1) (show decide ((i : Int) < (cuts.length : Int)) = true by assumption)) (cuts.getD i default).2 e v rows z]), ((cuts.getD i default).1, (cuts.getD i default).2), b) ?_ ?_ ?_; (conv => whnf))
      | (refine NextVC.mk ((i + 1, gs ++ [netG gs lk lt [] true e v rows z]), ([], true), b) ?_ ?_ ?_; (conv => whnf))
      | (refine NextVC.mk ((i + 1, gs), (lk, lt), b0) ?_ ?_ ?_; (conv => whnf))
      | (refine bc_true (by assumption) ?_; (conv => whnf))
      | (refine bc_false (by assumption) ?_; (conv => whnf))
      | (refine bc_intro (fun _ => ?_) (fun _ => ?_) <;> (conv => whnf))
      | (refine need_intro ?_ ?_; (conv => whnf))
      | (refine wk_refl ?_; (conv => whnf))
      | (refine draw_intro (by kernel_rfl) ?_; (conv => whnf))
      | (refine ord_intro (by kernel_rfl) ?_; (conv => whnf))
    all_goals try simp only [cellsGrp, bytesGrp, true_and, and_true, w1, w2, w3, w4, Option.getD_some, Option.getD_none, decide_eq_true_eq, decide_eq_false_iff_not, Bool.not_eq_true', Bool.not_eq_false', List.length_append, List.length_singleton, Int.toNat_natCast] at *
    all_goals try first
      | exact trivial
      | omega
      | exact DLe.refl _
      | exact RowLe.refl _ _ _
      | exact ⟨by assumption, by omega, by omega⟩
      | exact ⟨by omega, by omega⟩
      | exact DLe.of_eq (by rw [hs])
      | exact ⟨rfl, rfl⟩
      | exact ⟨rfl, rfl, rfl⟩
      | exact ⟨trivial, trivial, trivial⟩
    all_goals try (have w6 := w5 _ z1 z2; simp only [w6] at *)
    all_goals try first
      | omega
      | exact ⟨by omega, by omega⟩
      | exact ⟨by omega, by omega, by omega⟩
      | exact ⟨by assumption, hst _ _ e1 e2 v1 v2, rowsq_slice hq hrl⟩
      | exact ⟨⟨by omega, hN, by omega, hvb, h0, by omega⟩, by assumption⟩
      | exact ⟨⟨by omega, hN, by omega, hvb, h0, fun _ => htop (by assumption)⟩, by assumption⟩
      | exact row_ids (by omega) (by omega) rfl rfl rfl
    all_goals first
      | exact row_snoc rfl (RowLe.refl _ _ _) (jlt3 (DLe.of_eq rfl) (DLe.of_eq rfl) (DLe.of_eq (by rw [Int.sub_zero]; rfl)))
      | (have hx := hnew _ _ _ _ z (by assumption) ⟨e1, e2⟩ ⟨v1, v2⟩ ⟨z1, z2⟩
         refine ⟨⟨by omega, netq_snoc hN (by omega) hx.2, by omega, lo_valid (lk := lk) (lt := lt) (by assumption), by omega, by omega⟩, by assumption⟩)
      | (have hx := hnew _ _ _ _ z (by assumption) ⟨e1, e2⟩ ⟨v1, v2⟩ ⟨z1, z2⟩
         refine ⟨row_ids rfl (by omega) rfl rfl rfl, ⟨by omega, by omega⟩, ⟨by omega, by omega⟩, hx.1.1, hx.1.2⟩)
      | (refine ⟨(gs, b0), ⟨⟨hN, hend (by omega), by simp only; omega⟩, hb⟩, ?_⟩
         conv => whnf
         repeat' first
           | (refine bc_true (by assumption) ?_; (conv => whnf))
           | (refine bc_false (by assumption) ?_; (conv => whnf))
           | (refine bc_intro (fun _ => ?_) (fun _ => ?_) <;> (conv => whnf))
           | (refine need_intro ?_ ?_; (conv => whnf))
           | (refine wk_refl ?_; (conv => whnf))
           | (refine draw_intro (by kernel_rfl) ?_; (conv => whnf))
           | (refine ord_intro (by kernel_rfl) ?_; (conv => whnf))
         all_goals first
           | exact trivial
           | exact DLe.refl _
           | exact RowLe.refl _ _ _
           | exact ⟨rfl, rfl⟩
           | exact ⟨rfl, rfl, rfl⟩
           | trace_state)
      | trace_state
theorem net_ex (m k : Nat) (hmk : m ≠ k) {l : List Int} {a : Nat} {n : Int} : (TapeOk l a ∧ 1 ≤ n ∧ n ≤ 50) → ∃ x : List GrpT × Nat, ((NetQ x.1 ∧ 1 ≤ x.1.length ∧ (x.1.length : Int) ≤ n) ∧ TapeOk l x.2) ∧
    Sx.Spec Tryd.prog GG 5 [.ptr m 0, .d (.int .i64 n)] [(m, tapeB l a)] (.osl k 3 0 x.1.length) [(m, tapeB l x.2), (k, .row 30 3 x.1.length (cellOf encGrp x.1))] := fun h => by
  obtain ⟨x, hx, hs⟩ := net0 h
  exact ⟨x, hx, hs.at1 m k (by decide) hmk⟩
end Go.Proofs.YtohenbaodklohaaDoor
