/- Contracts of functions that the law reaches: YtngdpchhogfhfaaGreatDoorNet. Written for this claim. -/
import Derived.Test.YtngdpchhogfhfaaGreatDoorTko4
import Derived.Test.YtngdpchhogfhfaaGreatDoorT7
import Derived.Test.YtngdpchhogfhfaaGreatDoorSxGrp
import Derived.Test.YtngdpchhogfhfaaGreatDoorSxCol
import Derived.Test.YtngdpchhogfhfaaGreatDoorSxHan
namespace Go.Proofs.YtngdpchhogfhfaaGreatDoor
open Go Go.Sx Go.ChangeShapes Go.WideShapes Go.ChangeAt Go.RowKit
set_option linter.unusedVariables false
set_option linter.unusedSimpArgs false
set_option maxRecDepth 100000
def encGrp (g : GrpT) : List D := [.int .i64 g.num, .bool g.opn, encL encMem 32 g.mem]
structure NetB (gs : List GrpT) : Prop where
  len : gs.length ≤ 1000
  all : ∀ g ∈ gs, GrpB 1000 g
theorem net_at {gs : List GrpT} (h : NetB gs) (i : Nat) : GrpB 1000 (gs.getD i default) := by
  rcases Nat.lt_or_ge i gs.length with hi | hi
  · exact h.all _ (getD_mem hi)
  · have e : gs.getD i default = default := by simp [List.getD, hi]
    rw [e]; exact ⟨by simp [default], by simp [default]⟩
theorem slice_tabN {rows : List Row} (h : TabOk rows) {lk : List UInt8} {lt : Bool} {hk : List UInt8} {ht : Bool} : TabOk (sliceF rows lk lt hk ht) :=
  ⟨Nat.le_trans slice_len h.len, fun r hr => h.ok r (List.mem_filter.1 hr).1, h.sorted.sub List.filter_sublist⟩
theorem newC_okN {r : Rng} {e v : Int} {rows : List Row} (hr : emptyR' r = false) (hs : stampOk e v = true) (hq : RowsQ r.1 r.2.1 r.2.2.1 r.2.2.2 900 rows) : newC r e v rows = ({ noCopy with lk := r.1, lt := r.2.1, hk := r.2.2.1, ht := r.2.2.2, se := e, sv := v, rows := rows }, 0) ∧
    validC { noCopy with lk := r.1, lt := r.2.1, hk := r.2.2.1, ht := r.2.2.2, se := e, sv := v, rows := rows } = true ∧ Small { noCopy with lk := r.1, lt := r.2.1, hk := r.2.2.1, ht := r.2.2.2, se := e, sv := v, rows := rows } := by
  have hv : validR' r = true := by
    simp only [emptyR', emptyR, Bool.or_eq_false_iff, Bool.not_eq_false'] at hr
    exact hr.1
  have hw : inAll r rows = true := inAll_iff.2 hq.within
  have hl := hq.len
  refine ⟨by simp [newC, hv, hs, withinF, hw, validT_iff.2 hq.ok], ?_, ?_, by simp [noCopy], by simp [noCopy, noPart], by simp [noCopy, noPart]⟩
  · exact valid_of hv hs hq.ok hw (by simp [noCopy]) (by simp [noCopy]; omega) (by simp [noCopy]) rfl rfl
  · simp only; omega
abbrev rawC (lk : List UInt8) (lt : Bool) (hk : List UInt8) (ht : Bool) (e v : Int) (rows : List Row) : CopyT := ⟨lk, lt, hk, ht, e, v, rows, [], noPart, noPart, 0, 0⟩
theorem newr_okN (lk : List UInt8) (lt : Bool) (hk : List UInt8) (ht : Bool) (e v : Int) (rows : List Row) : (emptyR lk lt hk ht = false ∧ stampOk e v = true ∧ RowsQ lk lt hk ht 900 rows) → Sx.Spec Tryz.prog GG 51 [.agg [.d (.str lk), .d (.bool lt), .d (.str hk), .d (.bool ht)], .agg [.d (.int .i64 e), .d (.int .i64 v)], .d (encL encRow 2 rows)] []
    (.tup [.agg (copyL (rawC lk lt hk ht e v rows)), .d (.int .i64 0)]) [] := by
  rintro ⟨h1, h2, h3⟩
  have hl := h3.len
  have := newr_spec lk lt hk ht e v rows (by omega)
  rw [(newC_okN (r := (lk, lt, hk, ht)) h1 h2 h3).1] at this
  exact this
def idsN (n : Int) (k : Nat) : List Int := (List.range k).map fun (j : Nat) => 10 * n + (j : Int)
theorem idsN_len {n : Int} {k : Nat} : (idsN n k).length = k := by simp [idsN]
theorem idsN_get {n : Int} {k i : Nat} (h : i < k) : (idsN n k).getD i default = 10 * n + (i : Int) := by simp [idsN, List.getD, h]
theorem idsN_uniq {n : Int} {k i j : Nat} (hi : i < k) (hj : j < k) (h : (idsN n k).getD i default = (idsN n k).getD j default) : i = j := by
  rw [idsN_get hi, idsN_get hj] at h; omega
theorem memL'_get {c : CopyT} {ids : List Int} {i : Nat} (h : i < ids.length) : (memL' c ids).getD i default = ⟨ids.getD i default, true, c⟩ := by simp [memL', List.getD, h]
theorem newG_net {n : Int} {k : Nat} {c : CopyT} (hn : 1 ≤ n ∧ n ≤ 1000) (hk : 1 ≤ k ∧ k ≤ 3) (hv : validC c = true) : newG n (idsN n k) c = (⟨n, true, memL' c (idsN n k)⟩, 0) := by
  have hids : (idsN n k).all numOk = true := by
    simp only [List.all_eq_true, idsN, List.mem_map, List.mem_range, forall_exists_index, and_imp]
    rintro _ j hj rfl
    simp [numOk]; omega
  have hd : dupL (idsN n k) 0 = false := by
    simp only [dupL, List.any_eq_false, List.mem_range, Bool.and_eq_true, decide_eq_true_eq, not_and, Bool.not_eq_true, idsN_len]
    intro i hi _
    rw [Bool.eq_false_iff]
    intro h
    simp only [List.contains_iff_mem] at h
    obtain ⟨j, hj, e⟩ := List.getElem_of_mem h
    simp only [List.length_take, idsN_len] at hj
    rw [List.getElem_take] at e
    have : (idsN n k).getD j default = (idsN n k).getD i default := by rw [← e]; simp [List.getD, idsN_len, show j < k by omega]
    have := idsN_uniq (by omega) hi this
    omega
  exact newG_ok (by simp [numOk]; omega) hv hids (by rw [idsN_len]; omega) (by rw [idsN_len]; omega) hd
theorem newgr_net (n : Int) (lk : List UInt8) (lt : Bool) (hk : List UInt8) (ht : Bool) (e v : Int) (rows : List Row) {m : Nat} {gf : Nat → Nat → D} : (RowLe m 1 gf (cellOf encI (idsN n m)) ∧ (1 ≤ n ∧ n ≤ 1000) ∧ (1 ≤ m ∧ m ≤ 3) ∧ validC (rawC lk lt hk ht e v rows) = true ∧ Small (rawC lk lt hk ht e v rows)) → Sx.Spec Tryz.prog GG 37 [.d (.int .i64 n), .d (.list m 1 gf), .agg (copyL (rawC lk lt hk ht e v rows))] [] (.tup [.agg (grpL ⟨n, true, memL' (rawC lk lt hk ht e v rows) (idsN n m)⟩), .d (.int .i64 0)]) [] := by
  rintro ⟨hr, hn, hk, hv, hs⟩
  have := newgr_spec n (idsN n m) _ ⟨hs, by rw [idsN_len]; omega⟩
  rw [newG_net hn hk hv] at this
  exact this.arg (LeL.cons (LeS.refl _) (LeL.cons (LeS.d (DLe.rows idsN_len.symm (by rw [idsN_len]; exact hr))) (LeL.cons (LeS.refl _) LeL.nil)))
/-- a drawn group of a net -/
structure DrawnG (i : Nat) (g : GrpT) : Prop where
  num : g.num = (i : Int) + 1
  snd : SndG g
  pm : PM g.mem
  rng : emptyR' (own0 g).copy.rng = false
  n3 : g.mem.length ≤ 3
  up : ∀ m ∈ g.mem, m.up = true
theorem drawn_new {i k : Nat} {c : CopyT} (hk : 1 ≤ k ∧ k ≤ 3) (hi : i ≤ 500) (hv : validC c = true) (hs : Small c) (ho : c.out = noPart) (hn : c.inn = noPart) (hr : emptyR' c.rng = false) : DrawnG i ⟨(i : Int) + 1, true, memL' c (idsN ((i : Int) + 1) k)⟩ := by
  have hl : (memL' c (idsN ((i : Int) + 1) k)).length = k := by rw [memL_len, idsN_len]
  have hg : ∀ j, j < k → (memL' c (idsN ((i : Int) + 1) k)).getD j default = ⟨10 * ((i : Int) + 1) + (j : Int), true, c⟩ := fun j hj => by
    rw [memL'_get (by rw [idsN_len]; exact hj), idsN_get hj]
  have hm : ∀ m ∈ memL' c (idsN ((i : Int) + 1) k), ∃ j, j < k ∧ m = ⟨10 * ((i : Int) + 1) + (j : Int), true, c⟩ := fun m hm => by
    obtain ⟨j, hj, rfl⟩ := mem_getD hm
    rw [hl] at hj
    exact ⟨j, hj, hg j hj⟩
  refine ⟨rfl, ⟨by simp only; omega, by simp only; omega, by simp [numOk]; omega, rfl, ?_, ?_, ?_⟩, ?_, ?_, by simp only; omega, ?_⟩
  · intro a b ha hb h
    simp only [hl] at ha hb
    rw [hg a ha, hg b hb] at h
    simp only at h; omega
  · intro m h
    obtain ⟨j, hj, rfl⟩ := hm m h
    exact ⟨by simp [numOk]; omega, hv, hs⟩
  · intro j h0 hj _
    simp only [hl] at hj
    simp only [own0]
    rw [hg j hj, hg 0 (by omega)]
    exact Behind.refl _
  · intro m h
    obtain ⟨j, hj, rfl⟩ := hm m h
    exact ⟨ho, hn⟩
  · simp only [own0]
    rw [hg 0 (by omega)]; exact hr
  · intro m h
    obtain ⟨j, hj, rfl⟩ := hm m h
    rfl
/-- the groups of a net -/
structure NetQ (gs : List GrpT) : Prop where
  le : gs.length ≤ 200
  all : ∀ i, i < gs.length → DrawnG i (gs.getD i default)
theorem netq_nil : NetQ [] := ⟨by simp, by simp⟩
theorem netq_snoc {gs : List GrpT} {g : GrpT} (h : NetQ gs) (hl : gs.length < 200) (hg : DrawnG gs.length g) : NetQ (gs ++ [g]) := by
  refine ⟨by simp; omega, fun i hi => ?_⟩
  simp only [List.length_append, List.length_singleton] at hi
  by_cases e : i < gs.length
  · rw [getD_append_left e]; exact h.all i e
  · have : i = gs.length := by omega
    subst this
    rw [getD_append_right (by omega), Nat.sub_self]; exact hg
theorem lo_valid {lk : List UInt8} {lt : Bool} {hk : List UInt8} {ht : Bool} (h : emptyR lk lt hk ht = false) : validB hk ht = true := by
  simp only [emptyR, Bool.or_eq_false_iff, Bool.not_eq_false', validR, Bool.and_eq_true] at h
  exact h.1.1.2
theorem rowsq_slice {rows : List Row} {lk : List UInt8} {lt : Bool} {hk : List UInt8} {ht : Bool} (h : TabOk rows) (hl : (rows.length : Int) ≤ 8) : RowsQ lk lt hk ht 900 (sliceF rows lk lt hk ht) :=
  ⟨slice_tabN h, by have := slice_len (rows := rows) (lk := lk) (lt := lt) (hk := hk) (ht := ht); omega, fun r hr => (List.mem_filter.1 hr).2⟩
def netG (gs : List GrpT) (lk : List UInt8) (lt : Bool) (hk : List UInt8) (ht : Bool) (e v : Int) (rows : List Row) (w : Int) : GrpT := GrpT.mk ((gs.length : Int) + 1) true (memL' (rawC lk lt hk ht e v (sliceF rows lk lt hk ht)) (idsN ((gs.length : Int) + 1) (1 + w).toNat))
theorem cellsGrp : Tryz.prog.cellsOf 34 = 3 := by kernel_rfl
theorem bytesGrp : Tryz.prog.bytesOf 34 = 40 := by kernel_rfl
theorem row_ids {n w0 w1 w2 : Int} {m k : Nat} {z : Nat → Nat → D} (hm : m = k) (hk : k ≤ 3) (h0 : w0 = 10 * n) (h1 : w1 = 10 * n + 1) (h2 : w2 = 10 * n + 2) : RowLe m 1 (fun i j => tabF z [(0, [.int .i64 w0]), (1, [.int .i64 w1]), (2, [.int .i64 w2])] ((0 : Int).toNat + i) j) (cellOf encI (idsN n k)) := by
  subst hm; subst h0; subst h1; subst h2
  refine .of_eq fun i j hi hj => ?_
  have : j = 0 := by omega
  subst this
  simp only [cellOf, idsN_get hi]
  match i, hi, hk with
  | 0, _, _ => simp [tabF, encI, List.getD]
  | 1, _, _ => simp [tabF, encI, List.getD]
  | 2, _, _ => simp [tabF, encI, List.getD]
  | i + 3, _, _ => omega
end Go.Proofs.YtngdpchhogfhfaaGreatDoor
