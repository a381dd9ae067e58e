/- The law ReplicaBack: the walk through its code and the claim. -/
import Derived.Test.YtchfacjjaahdnaaDoorLaw24
namespace Go.Proofs.YtchfacjjaahdnaaDoor
open Go Go.Sx Go.ChangeShapes Go.WideShapes Go.ChangeAt Go.WideMaps Go.WideElems Go.RowKit
set_option linter.unusedVariables false
set_option linter.unusedSimpArgs false
set_option maxRecDepth 100000

theorem has_facts {lk : List UInt8} {lt : Bool} {hk : List UInt8} {ht : Bool} {k : List UInt8} (h : containsR lk lt hk ht k = true) : emptyR lk lt hk ht = false ∧ (k.length : Int) ≤ 64 ∧ cmpB lk lt k false ≤ 0 ∧ cmpB k false hk ht < 0 := by
  simp only [containsR, Bool.and_eq_true, Bool.not_eq_true', decide_eq_true_eq] at h
  exact ⟨h.1.1.1, h.1.1.2, h.1.2, h.2⟩
theorem empty_of {lk : List UInt8} {lt : Bool} {hk : List UInt8} {ht : Bool} (h1 : validB lk lt = true) (h2 : validB hk ht = true) (h : cmpB lk lt hk ht < 0) : emptyR lk lt hk ht = false := by
  simp only [emptyR, validR, h1, h2, Bool.true_and, Bool.or_eq_false_iff, Bool.not_eq_false', decide_eq_true_eq, beq_eq_false_iff_ne]
  exact ⟨by omega, by omega⟩
theorem valid_of_le {lk : List UInt8} {lt : Bool} {hk : List UInt8} {ht : Bool} (h1 : validB lk lt = true) (h2 : validB hk ht = true) (h : cmpB lk lt hk ht ≤ 0) : validR lk lt hk ht = true := by
  simp only [validR, h1, h2, Bool.true_and, decide_eq_true_eq]
  exact h
theorem validB_key {k : List UInt8} (h : (k.length : Int) ≤ 64) : validB k false = true := by simp [validB]; omega
theorem cmp_le_lt {a b c : Bnd} (ha : validB a.1 a.2 = true) (hb : validB b.1 b.2 = true) (h1 : cmpBB a b ≤ 0) (h2 : cmpBB b c < 0) : cmpBB a c < 0 := by
  by_cases h : cmpBB a b = 0
  · rw [cmp_eq ha hb h]; exact h2
  · have h3 : cmpBB a b < 0 := by omega
    exact cmp_lt_trans (bk := b.1) (b := b.2) h3 h2
theorem back_split {lk : List UInt8} {lt : Bool} {hk : List UInt8} {ht : Bool} {n : Int} {rows : List Row} {k : List UInt8} (hq : RowsQ lk lt hk ht n rows) (hc : containsR lk lt hk ht k = true) : sliceF rows lk lt k false ++ sliceF rows k false hk ht = rows := by
  obtain ⟨h1, h2, h3, h4⟩ := has_facts hc
  obtain ⟨v1, v2, v3⟩ := empty_false (r := (lk, lt, hk, ht)) h1
  have fs := filter_split (p := fun r : Row => decide (cmpB r.1 false k false < 0)) (q := fun _ => true) hq.ok.sorted (by
    intro r s hrs hps
    simp only [decide_eq_true_eq] at hps ⊢
    exact cmp_lt_trans (cmp_lt.2 ⟨rfl, .inr hrs⟩) hps) (fun _ _ _ => rfl)
  have e1 : sliceF rows lk lt k false = rows.filter (fun r : Row => decide (cmpB r.1 false k false < 0)) := by
    unfold sliceF
    apply List.filter_congr
    intro x hx
    obtain ⟨_, g2, g3, g4⟩ := has_facts (hq.within x hx)
    by_cases hl : cmpB x.1 false k false < 0
    · have : cmpBB (lk, lt) (k, false) < 0 := cmp_le_lt (b := (x.1, false)) v1 (validB_key g2) g3 hl
      have he := empty_of v1 (validB_key h2) this
      simp [containsR, he, g2, g3, hl]
    · simp [containsR, hl]
  have e2 : sliceF rows k false hk ht = rows.filter (fun r : Row => true && !(decide (cmpB r.1 false k false < 0))) := by
    unfold sliceF
    apply List.filter_congr
    intro x hx
    obtain ⟨_, g2, g3, g4⟩ := has_facts (hq.within x hx)
    have he := empty_of (validB_key h2) v2 h4
    have hle : (cmpB k false x.1 false ≤ 0) ↔ ¬ (cmpB x.1 false k false < 0) := cmp_le_not
    simp only [containsR, he, g2, g4, hle, Bool.not_false, decide_true, Bool.true_and, Bool.and_true, decide_not]
  rw [e1, e2, ← fs]
  simp
theorem inter_beside {a b c : Bnd} : emptyR' (interR (a.1, a.2, b.1, b.2) (b.1, b.2, c.1, c.2)) = true := by
  unfold interR
  split
  · exact emptyR_zero
  · rename_i h
    simp only [Bool.or_eq_true, not_or, Bool.not_eq_true] at h
    obtain ⟨⟨e1, e2⟩, e3⟩ := h
    obtain ⟨_, _, h1⟩ := empty_false e1
    obtain ⟨_, _, h2⟩ := empty_false e2
    have h1' : cmpBB a b < 0 := h1
    have h2' : cmpBB b c < 0 := h2
    have m1 : maxB a b = b := by unfold maxB; rw [cmp_neg a b, if_pos (by omega)]
    have m2 : minB b c = b := by unfold minB; rw [cmp_neg b c, if_neg (by omega)]
    have e : meetR (a.1, a.2, b.1, b.2) (b.1, b.2, c.1, c.2) = (b.1, b.2, b.1, b.2) := by
      simp only [meetR]
      rw [show maxB (a.1, a.2) (b.1, b.2) = b from m1, show minB (b.1, b.2) (c.1, c.2) = b from m2]
    rw [e]
    simp [emptyR', emptyR, cmp_self]
theorem slice_tab {rows : List Row} (h : TabOk rows) {lk : List UInt8} {lt : Bool} {hk : List UInt8} {ht : Bool} : TabOk (sliceF rows lk lt hk ht) :=
  ⟨Nat.le_trans slice_len h.len, fun r hr => h.ok r (List.mem_filter.1 hr).1, h.sorted.sub List.filter_sublist⟩
theorem slice_in {rows : List Row} {r : Rng} : inAll r (sliceF rows r.1 r.2.1 r.2.2.1 r.2.2.2) = true := inAll_iff.2 fun x hx => by
  have := (List.mem_filter.1 hx).2
  exact this
def backC (r : Rng) (rows : List Row) : CopyT := { noCopy with lk := r.1, lt := r.2.1, hk := r.2.2.1, ht := r.2.2.2, se := 1, sv := 0, rows := rows }
def backP (p : Rng) (rows : List Row) : PartT := ⟨5, 1, 2, 1, 0, p.1, p.2.1, p.2.2.1, p.2.2.2, sliceF rows p.1 p.2.1 p.2.2.1 p.2.2.2⟩
def backO (a : Bnd) : CopyT := { noCopy with lk := a.1, lt := a.2, hk := a.1, ht := a.2, se := 0, sv := 0, rows := [] }
theorem new_any {r : Rng} {e v : Int} {rows : List Row} (hv : validR' r = true) (hs : stampOk e v = true) (hw : withinF r rows = true) : newC r e v rows = ({ noCopy with lk := r.1, lt := r.2.1, hk := r.2.2.1, ht := r.2.2.2, se := e, sv := v, rows := rows }, 0) := by
  simp [newC, hv, hs, hw]
/-- what the law says of the two copies, for either side -/
structure Back (r : Rng) (rows : List Row) (k : List UInt8) (side : Int) (a : Bnd) (d b o : CopyT) : Prop where
  det : detachC (backC r rows) k false side 5 1 2 = (d, 0)
  re : reattachC d = (b, 0)
  same : sameC b (backC r rows) = true
  new : newC (a.1, a.2, a.1, a.2) 0 0 [] = (backO a, 0)
  att : attachC { backO a with inn := d.out } = (o, 0)
  took : o.took = 5
  src : o.src = 1
  vd : validC d = true
  vo : validC o = true
  win : inAll d.out.rng d.out.rows = true
  sd : Small d
  so1 : Small { backO a with inn := d.out }
  so : Small o
  sb : Small b
  ld : d.rows.length ≤ 6
  lo : o.rows.length ≤ 6
theorem back_right {lk : List UInt8} {lt : Bool} {hk : List UInt8} {ht : Bool} {rows : List Row} {k : List UInt8} (hq : RowsQ lk lt hk ht 6 rows) (hc : containsR lk lt hk ht k = true) :
    ∃ d b o, Back (lk, lt, hk, ht) rows k 1 (hk, ht) d b o ∧ d.rows ++ o.rows = rows := by
  obtain ⟨h1, h2, h3, h4⟩ := has_facts hc
  obtain ⟨v1, v2, v3⟩ := empty_false (r := (lk, lt, hk, ht)) h1
  have vk := validB_key h2
  have hsp := back_split hq hc
  have hl := hq.len
  have he : emptyR k false hk ht = false := empty_of vk v2 h4
  have l1 : (sliceF rows lk lt k false).length ≤ 6 := Nat.le_trans slice_len (by omega)
  have l2 : (sliceF rows k false hk ht).length ≤ 6 := Nat.le_trans slice_len (by omega)
  have vr : validR lk lt hk ht = true := valid_of_le v1 v2 (by have : cmpB lk lt hk ht < 0 := v3; omega)
  have hin : inAll (lk, lt, hk, ht) rows = true := inAll_iff.2 hq.within
  have vc : validC (backC (lk, lt, hk, ht) rows) = true := valid_of vr rfl hq.ok hin (by simp [backC, noCopy]) (by simp [backC, noCopy]; omega) (by simp [backC, noCopy]) rfl rfl
  have vp : validPart (backP (k, false, hk, ht) rows) = true := by
    have w1 : withinF (k, false, hk, ht) (sliceF rows k false hk ht) = true := by
      rw [withinF, validT_iff.2 (slice_tab hq.ok), Bool.true_and]
      exact slice_in (r := (k, false, hk, ht))
    simp [validPart, backP, PartT.rng, w1, emptyR', he, serOk, numOk, stampOk]
  have hd : detachC (backC (lk, lt, hk, ht) rows) k false 1 5 1 2 = ({ backC (lk, lt, k, false) (sliceF rows lk lt k false) with out := backP (k, false, hk, ht) rows }, 0) := by
    unfold detachC
    rw [if_neg (by simp [detOk, vc, vk, serOk, numOk]), if_neg (by simp [quietC, backC, noCopy, noPart]), if_neg]
    · rfl
    · have e1 : cmpB k false lk lt = -(cmpB lk lt k false) := cmp_neg (lk, lt) (k, false)
      have n1 : ¬ cmpB k false lk lt < 0 := by omega
      have n2 : ¬ cmpB k false hk ht > 0 := by omega
      have g : detBad (backC (lk, lt, hk, ht) rows) k false 1 = false := by
        simp only [detBad, backC, partR, emptyR', n1, n2, decide_false, Bool.false_or]
        exact he
      rw [g]; simp
  have vd : validC { backC (lk, lt, k, false) (sliceF rows lk lt k false) with out := backP (k, false, hk, ht) rows } = true := by
    refine valid_of (valid_of_le v1 vk h3) rfl (slice_tab hq.ok) (slice_in (r := (lk, lt, k, false))) (by simp [backC, noCopy]) (by simp [backC, noCopy]; omega) (by simp [backC, noCopy]) ?_ rfl
    have hi := inter_beside (a := (lk, lt)) (b := (k, false)) (c := (hk, ht))
    simp only [partsC, outsideF, vp, backC, CopyT.rng, noCopy, noPart]
    simp [backP, hi]
  have vo : validC { backC (k, false, hk, ht) (sliceF rows k false hk ht) with se := 0, took := 5, src := 1 } = true := by
    refine valid_of (valid_of_le vk v2 (Int.le_of_lt h4)) rfl (slice_tab hq.ok) (slice_in (r := (k, false, hk, ht))) (by simp [backC, noCopy]) (by simp [backC, noCopy]; omega) (by simp [backC, noCopy]) rfl rfl
  have vo1 : validC { backO (hk, ht) with inn := backP (k, false, hk, ht) rows } = true := by
    refine valid_of (valid_of_le v2 v2 (Int.le_of_eq cmp_self)) rfl tabOk_nil rfl (by simp [backO, noCopy]) (by simp [backO, noCopy]) (by simp [backO, noCopy]) ?_ rfl
    have hi : emptyR' (interR (hk, ht, hk, ht) (k, false, hk, ht)) = true := by
      have := inter_beside (a := (k, false)) (b := (hk, ht)) (c := (hk, ht))
      rw [interR_comm]; exact this
    simp only [partsC, outsideF, vp, backO, CopyT.rng, noCopy, noPart]
    simp [backP, hi]
  have hgt : ¬ cmpB hk ht lk lt = 0 := by
    have e1 : cmpB hk ht lk lt = -(cmpB lk lt hk ht) := cmp_neg (lk, lt) (hk, ht)
    have v3' : cmpB lk lt hk ht < 0 := v3
    omega
  have hre : reattachC { backC (lk, lt, k, false) (sliceF rows lk lt k false) with out := backP (k, false, hk, ht) rows } = (backC (lk, lt, hk, ht) rows, 0) := by
    have hj : joinC { backC (lk, lt, k, false) (sliceF rows lk lt k false) with out := backP (k, false, hk, ht) rows } (backP (k, false, hk, ht) rows) = ({ backC (lk, lt, hk, ht) rows with out := backP (k, false, hk, ht) rows }, 0) := by
      unfold joinC
      rw [if_neg (by rw [vd]; simp), if_neg (by simp [backP, backC, noCopy]), if_neg (by exact hgt), if_pos (by exact cmp_self), if_neg (by simp only [backP, backC]; omega)]
      simp only [backP, backC, hsp]
    unfold reattachC
    simp only [hj]
    rfl
  have hat : attachC { backO (hk, ht) with inn := backP (k, false, hk, ht) rows } = ({ backC (k, false, hk, ht) (sliceF rows k false hk ht) with se := 0, took := 5, src := 1 }, 0) := by
    have hj : joinC { backO (hk, ht) with inn := backP (k, false, hk, ht) rows } (backP (k, false, hk, ht) rows) = ({ backC (k, false, hk, ht) (sliceF rows k false hk ht) with se := 0, inn := backP (k, false, hk, ht) rows }, 0) := by
      unfold joinC
      rw [if_neg (by rw [vo1]; simp), if_neg (by simp [backP, backO, noCopy]), if_pos (by exact cmp_self), if_neg (by simp only [backP, backO, List.length_nil]; omega)]
      simp only [backP, backO, backC, List.append_nil]
    unfold attachC
    simp only [hj]
    rfl
  refine ⟨_, _, _, ⟨hd, hre, sameC_refl _, new_any (valid_of_le v2 v2 (Int.le_of_eq cmp_self)) rfl rfl, hat, rfl, rfl, vd, vo, slice_in (r := (k, false, hk, ht)), ?_, ?_, ?_, ?_, l1, l2⟩, hsp⟩
  all_goals (refine ⟨?_, ?_, ?_, ?_⟩ <;> simp [backC, backO, backP, noCopy, noPart] <;> omega)
theorem back_none {lk : List UInt8} {lt : Bool} {hk : List UInt8} {ht : Bool} {rows : List Row} {k : List UInt8} (hq : RowsQ lk lt hk ht 6 rows) (hc : containsR lk lt hk ht k = true) (h0 : cmpB lk lt k false = 0) :
    detachC (backC (lk, lt, hk, ht) rows) k false 0 5 1 2 = (noCopy, 2) := by
  obtain ⟨h1, h2, h3, h4⟩ := has_facts hc
  obtain ⟨v1, v2, v3⟩ := empty_false (r := (lk, lt, hk, ht)) h1
  have vk := validB_key h2
  have hl := hq.len
  have vr : validR lk lt hk ht = true := valid_of_le v1 v2 (by have : cmpB lk lt hk ht < 0 := v3; omega)
  have hin : inAll (lk, lt, hk, ht) rows = true := inAll_iff.2 hq.within
  have vc : validC (backC (lk, lt, hk, ht) rows) = true := valid_of vr rfl hq.ok hin (by simp [backC, noCopy]) (by simp [backC, noCopy]; omega) (by simp [backC, noCopy]) rfl rfl
  unfold detachC
  rw [if_neg (by simp [detOk, vc, vk, serOk, numOk]), if_neg (by simp [quietC, backC, noCopy, noPart]), if_pos]
  have he : emptyR lk lt k false = true := by simp [emptyR, h0]
  have e1 : emptyR' (partR (backC (lk, lt, hk, ht) rows) k false 0) = true := he
  simp only [detBad, e1, Bool.or_true]
theorem back_left {lk : List UInt8} {lt : Bool} {hk : List UInt8} {ht : Bool} {rows : List Row} {k : List UInt8} (hq : RowsQ lk lt hk ht 6 rows) (hc : containsR lk lt hk ht k = true) (h0 : ¬ cmpB lk lt k false = 0) :
    ∃ d b o, Back (lk, lt, hk, ht) rows k 0 (lk, lt) d b o ∧ o.rows ++ d.rows = rows := by
  obtain ⟨h1, h2, h3, h4⟩ := has_facts hc
  obtain ⟨v1, v2, v3⟩ := empty_false (r := (lk, lt, hk, ht)) h1
  have vk := validB_key h2
  have hsp := back_split hq hc
  have hl := hq.len
  have h5 : cmpB lk lt k false < 0 := by omega
  have he : emptyR lk lt k false = false := empty_of v1 vk h5
  have l1 : (sliceF rows lk lt k false).length ≤ 6 := Nat.le_trans slice_len (by omega)
  have l2 : (sliceF rows k false hk ht).length ≤ 6 := Nat.le_trans slice_len (by omega)
  have vr : validR lk lt hk ht = true := valid_of_le v1 v2 (by have : cmpB lk lt hk ht < 0 := v3; omega)
  have hin : inAll (lk, lt, hk, ht) rows = true := inAll_iff.2 hq.within
  have vc : validC (backC (lk, lt, hk, ht) rows) = true := valid_of vr rfl hq.ok hin (by simp [backC, noCopy]) (by simp [backC, noCopy]; omega) (by simp [backC, noCopy]) rfl rfl
  have vp : validPart (backP (lk, lt, k, false) rows) = true := by
    have w1 : withinF (lk, lt, k, false) (sliceF rows lk lt k false) = true := by
      rw [withinF, validT_iff.2 (slice_tab hq.ok), Bool.true_and]
      exact slice_in (r := (lk, lt, k, false))
    simp [validPart, backP, PartT.rng, w1, emptyR', he, serOk, numOk, stampOk]
  have hd : detachC (backC (lk, lt, hk, ht) rows) k false 0 5 1 2 = ({ backC (k, false, hk, ht) (sliceF rows k false hk ht) with out := backP (lk, lt, k, false) rows }, 0) := by
    unfold detachC
    rw [if_neg (by simp [detOk, vc, vk, serOk, numOk]), if_neg (by simp [quietC, backC, noCopy, noPart]), if_neg]
    · rfl
    · have e1 : cmpB k false lk lt = -(cmpB lk lt k false) := cmp_neg (lk, lt) (k, false)
      have n1 : ¬ cmpB k false lk lt < 0 := by omega
      have n2 : ¬ cmpB k false hk ht > 0 := by omega
      have g : detBad (backC (lk, lt, hk, ht) rows) k false 0 = false := by
        simp only [detBad, backC, partR, emptyR', n1, n2, decide_false, Bool.false_or]
        exact he
      rw [g]; simp
  have vd : validC { backC (k, false, hk, ht) (sliceF rows k false hk ht) with out := backP (lk, lt, k, false) rows } = true := by
    refine valid_of (valid_of_le vk v2 (Int.le_of_lt h4)) rfl (slice_tab hq.ok) (slice_in (r := (k, false, hk, ht))) (by simp [backC, noCopy]) (by simp [backC, noCopy]; omega) (by simp [backC, noCopy]) ?_ rfl
    have hi : emptyR' (interR (k, false, hk, ht) (lk, lt, k, false)) = true := by
      rw [interR_comm]; exact inter_beside (a := (lk, lt)) (b := (k, false)) (c := (hk, ht))
    simp only [partsC, outsideF, vp, backC, CopyT.rng, noCopy, noPart]
    simp [backP, hi]
  have vo : validC { backC (lk, lt, k, false) (sliceF rows lk lt k false) with se := 0, took := 5, src := 1 } = true := by
    refine valid_of (valid_of_le v1 vk h3) rfl (slice_tab hq.ok) (slice_in (r := (lk, lt, k, false))) (by simp [backC, noCopy]) (by simp [backC, noCopy]; omega) (by simp [backC, noCopy]) rfl rfl
  have vo1 : validC { backO (lk, lt) with inn := backP (lk, lt, k, false) rows } = true := by
    refine valid_of (valid_of_le v1 v1 (Int.le_of_eq cmp_self)) rfl tabOk_nil rfl (by simp [backO, noCopy]) (by simp [backO, noCopy]) (by simp [backO, noCopy]) ?_ rfl
    have hi : emptyR' (interR (lk, lt, lk, lt) (lk, lt, k, false)) = true := inter_beside (a := (lk, lt)) (b := (lk, lt)) (c := (k, false))
    simp only [partsC, outsideF, vp, backO, CopyT.rng, noCopy, noPart]
    simp [backP, hi]
  have hgt : ¬ cmpB k false lk lt = 0 := by
    have e1 : cmpB k false lk lt = -(cmpB lk lt k false) := cmp_neg (lk, lt) (k, false)
    omega
  have hre : reattachC { backC (k, false, hk, ht) (sliceF rows k false hk ht) with out := backP (lk, lt, k, false) rows } = (backC (lk, lt, hk, ht) rows, 0) := by
    have hj : joinC { backC (k, false, hk, ht) (sliceF rows k false hk ht) with out := backP (lk, lt, k, false) rows } (backP (lk, lt, k, false) rows) = ({ backC (lk, lt, hk, ht) rows with out := backP (lk, lt, k, false) rows }, 0) := by
      unfold joinC
      rw [if_neg (by rw [vd]; simp), if_neg (by simp [backP, backC, noCopy]), if_pos (by exact cmp_self), if_neg (by simp only [backP, backC]; omega)]
      simp only [backP, backC, hsp]
    unfold reattachC
    simp only [hj]
    rfl
  have hat : attachC { backO (lk, lt) with inn := backP (lk, lt, k, false) rows } = ({ backC (lk, lt, k, false) (sliceF rows lk lt k false) with se := 0, took := 5, src := 1 }, 0) := by
    have hj : joinC { backO (lk, lt) with inn := backP (lk, lt, k, false) rows } (backP (lk, lt, k, false) rows) = ({ backC (lk, lt, k, false) (sliceF rows lk lt k false) with se := 0, inn := backP (lk, lt, k, false) rows }, 0) := by
      unfold joinC
      rw [if_neg (by rw [vo1]; simp), if_neg (by simp [backP, backO, noCopy]), if_neg (by exact hgt), if_pos (by exact cmp_self), if_neg (by simp only [backP, backO, List.length_nil]; omega)]
      simp only [backP, backO, backC, List.nil_append]
    unfold attachC
    simp only [hj]
    rfl
  refine ⟨_, _, _, ⟨hd, hre, sameC_refl _, new_any (valid_of_le v1 v1 (Int.le_of_eq cmp_self)) rfl rfl, hat, rfl, rfl, vd, vo, slice_in (r := (lk, lt, k, false)), ?_, ?_, ?_, ?_, l2, l1⟩, hsp⟩
  all_goals (refine ⟨?_, ?_, ?_, ?_⟩ <;> simp [backC, backO, backP, noCopy, noPart] <;> omega)
theorem new_back (lk : List UInt8) (lt : Bool) (hk : List UInt8) (ht : Bool) (rows : List Row) : (emptyR lk lt hk ht = false ∧ RowsQ lk lt hk ht 6 rows) → Sx.Spec Tryd.prog GG 32 [.agg [.d (.str lk), .d (.bool lt), .d (.str hk), .d (.bool ht)], .agg [.d (.int .i64 1), .d (.int .i64 0)], .d (encL encRow 2 rows)] []
    (.tup [.agg (copyL (backC (lk, lt, hk, ht) rows)), .d (.int .i64 0)]) [] := by
  rintro ⟨h1, h2⟩
  have hl := h2.len
  obtain ⟨v1, v2, v3⟩ := empty_false (r := (lk, lt, hk, ht)) h1
  have := newp_spec lk lt hk ht 1 0 rows (by omega)
  have hw : inAll (lk, lt, hk, ht) rows = true := inAll_iff.2 h2.within
  have e : newC (lk, lt, hk, ht) 1 0 rows = (backC (lk, lt, hk, ht) rows, 0) := new_any (valid_of_le v1 v2 (Int.le_of_lt v3)) (by simp [stampOk]) (by simp [withinF, validT_iff.2 h2.ok, hw])
  rw [e] at this
  exact this
theorem same_own {n : Nat} {g : Nat → Nat → D} (rows : List Row) : ((n = rows.length ∧ RowLe n 2 g (cellOf encRow rows)) ∧ rows.length ≤ 6) → Sx.Spec Tryd.prog GG 47 [.d (.list n 2 g), .d (encL encRow 2 rows)] [] (.d (.bool true)) [] := by
  rintro ⟨⟨rfl, h⟩, hl⟩
  have := sameRr_spec rows rows ⟨by omega, by omega⟩
  rw [same_refl] at this
  exact this.arg (LeL.cons (LeS.d (DLe.rows rfl h)) (LeL.cons (LeS.refl _) LeL.nil))
theorem backC_small {r : Rng} {rows : List Row} (h : rows.length ≤ 6) : Small (backC r rows) := by
  refine ⟨?_, ?_, ?_, ?_⟩ <;> simp [backC, noCopy, noPart] <;> omega
set_option maxHeartbeats 8000000 in
theorem replicaBack_law (l : List Int) (hl : ∀ x ∈ l, -9223372036854775808 ≤ x ∧ x < 9223372036854775808) : Sx.Spec Tryd.prog GG 7 [.d (encL encI 1 l)] [] (.d (.bool true)) [] := by
  refine spec_intro (E := EE) (fn := Tryd.f7) eok (by kernel_rfl) (by kernel_rfl) Tryd.call7 (by kernel_rfl) (by kernel_rfl) ?_
  conv => whnf
  repeat' first
    | (refine call_some (new_ex 2000 hl) (fun _ => by first | exact .inl rfl | exact .inr ⟨rfl, rfl⟩) ?_; rintro ⟨tl, ta⟩ hT; (conv => whnf))
    | (refine call_some_if (proper_ex _) (fun _ => by first | exact .inl rfl | exact .inr ⟨rfl, rfl⟩) (need_intro ?_ ?_); rintro ⟨k, t, k2, t2, b⟩ ⟨⟨h1, h2, h4⟩, h3⟩; (conv => whnf))
    | (refine call_some_if (rowsIn_ex _) (fun _ => by first | exact .inl rfl | exact .inr ⟨rfl, rfl⟩) (need_intro ?_ ?_); rintro ⟨rows, b⟩ ⟨hq, h5⟩; (conv => whnf))
    | (refine call_if (new_back _ _ _ _ _) (by first | exact .inl rfl | exact .inr ⟨rfl, rfl⟩) (need_intro ?_ ?_); (conv => whnf))
    | (refine call_some_if (keyIn_ex _) (fun _ => by first | exact .inl rfl | exact .inr ⟨rfl, rfl⟩) (need_intro ?_ ?_); rintro ⟨key, b⟩ ⟨h6, h7, h8⟩; (conv => whnf))
    | (refine call_some_if (next_ex _) (fun _ => by first | exact .inl rfl | exact .inr ⟨rfl, rfl⟩) (need_intro ?_ ?_); rintro ⟨v, b⟩ ⟨⟨h9, h10⟩, h11⟩; (conv => whnf))
    | (refine bc_true (by assumption) ?_; (conv => whnf))
    | (refine bc_false (by assumption) ?_; (conv => whnf))
    | (refine need_intro ?_ ?_; (conv => whnf))
    | (refine wk_refl ?_; (conv => whnf))
    | (refine draw_intro (by kernel_rfl) ?_; (conv => whnf))
    | (refine ord_intro (by kernel_rfl) ?_; (conv => whnf))
  all_goals try simp only at *
  all_goals try first
    | assumption
    | exact ⟨by assumption, by omega, by omega⟩
    | exact ⟨by assumption, by assumption⟩
  have hlen := hq.len
  have hv : v = 0 ∨ v = 1 := by omega
  rcases hv with rfl | rfl
  · by_cases h0 : cmpB k t key false = 0
    · have hdet := detachp_spec (backC (k, t, k2, t2) rows) key false 0 5 1 2 (backC_small (by omega))
      rw [back_none hq h7 h0] at hdet
      have e1 : cmpB key false k t = 0 := by
        have : cmpB key false k t = -(cmpB k t key false) := cmp_neg (k, t) (key, false)
        omega
      conv => whnf
      repeat' first
        | (refine call_intro (hdet) ?_ (by first | exact .inl rfl | exact .inr ⟨rfl, rfl⟩); (conv => whnf))
        | (refine call_intro (comparer_spec _ _ _ _) ?_ (by first | exact .inl rfl | exact .inr ⟨rfl, rfl⟩); (conv => whnf))
        | (refine call_intro (awake_spec) ?_ (by first | exact .inl rfl | exact .inr ⟨rfl, rfl⟩); (conv => whnf))
        | (refine bc_true (by assumption) ?_; (conv => whnf))
        | (refine bc_false (by assumption) ?_; (conv => whnf))
        | (refine bc_intro (fun _ => ?_) (fun _ => ?_) <;> (conv => whnf))
        | (refine need_intro ?_ ?_; (conv => whnf))
        | (refine wk_refl ?_; (conv => whnf))
        | (refine draw_intro (by kernel_rfl) ?_; (conv => whnf))
        | (refine ord_intro (by kernel_rfl) ?_; (conv => whnf))
      all_goals first
        | exact ⟨LeS.refl _, trivial⟩
        | (exfalso; simp [e1] at *; done)
    · obtain ⟨d, c, o, hb, hsp⟩ := back_left hq h7 h0
      have hdet := detachp_spec (backC (k, t, k2, t2) rows) key false 0 5 1 2 (backC_small (by omega))
      rw [hb.det] at hdet
      have hre := reattachp_spec d hb.sd
      rw [hb.re] at hre
      have hnew := (newp_spec k t k t 0 0 [] (by simp)).arg (LeL.cons (LeS.refl _) (LeL.cons (LeS.refl _) (LeL.cons (les_nil rfl) LeL.nil)))
      rw [hb.new] at hnew
      have hat := attachp_spec { backO (k, t) with inn := d.out } hb.so1
      rw [hb.att] at hat
      have hb1 := hb.same
      have hb2 := hb.took
      have hb3 := hb.src
      have hb4 := hb.vd
      have hb5 := hb.vo
      have hb6 := hb.win
      have hb7 := hb.ld
      have hb8 := hb.lo
      have hb9 := hb.sd.2.2.1
      have hsl := congrArg List.length hsp
      simp only [List.length_append] at hsl
      conv => whnf
      repeat' first
        | (refine call_intro (hdet) ?_ (by first | exact .inl rfl | exact .inr ⟨rfl, rfl⟩); (conv => whnf))
        | (refine call_intro (hre) ?_ (by first | exact .inl rfl | exact .inr ⟨rfl, rfl⟩); (conv => whnf))
        | (refine call_intro (hnew) ?_ (by first | exact .inl rfl | exact .inr ⟨rfl, rfl⟩); (conv => whnf))
        | (refine call_intro (hat) ?_ (by first | exact .inl rfl | exact .inr ⟨rfl, rfl⟩); (conv => whnf))
        | (refine call_if (samep_spec _ _) (by first | exact .inl rfl | exact .inr ⟨rfl, rfl⟩) (need_intro ?_ ?_); (conv => whnf))
        | (refine call_if (same_own rows) (by first | exact .inl rfl | exact .inr ⟨rfl, rfl⟩) (need_intro ?_ ?_); (conv => whnf))
        | (refine call_if (validp_spec _) (by first | exact .inl rfl | exact .inr ⟨rfl, rfl⟩) (need_intro ?_ ?_); (conv => whnf))
        | (refine call_if (withinr_spec _ _ _ _ _) (by first | exact .inl rfl | exact .inr ⟨rfl, rfl⟩) (need_intro ?_ ?_); (conv => whnf))
        | (refine call_intro (awake_spec) ?_ (by first | exact .inl rfl | exact .inr ⟨rfl, rfl⟩); (conv => whnf))
        | (refine bc_true (by assumption) ?_; (conv => whnf))
        | (refine bc_false (by assumption) ?_; (conv => whnf))
        | (refine bc_intro (fun _ => ?_) (fun _ => ?_) <;> (conv => whnf))
        | (refine need_intro ?_ ?_; (conv => whnf))
        | (refine wk_refl ?_; (conv => whnf))
        | (refine draw_intro (by kernel_rfl) ?_; (conv => whnf))
        | (refine ord_intro (by kernel_rfl) ?_; (conv => whnf))
      all_goals try simp only [cellsRow', bytesRow, decide_eq_true_eq, decide_eq_false_iff_not] at *
      all_goals try first
        | exact ⟨LeS.refl _, trivial⟩
        | exact ⟨hb.sb, backC_small (by omega)⟩
        | exact hb.sd
        | exact hb.so
        | exact ⟨trivial, by omega, by omega⟩
        | omega
        | exact ⟨by omega, by omega⟩
        | (refine ⟨⟨by omega, ?_⟩, by omega⟩; rw [← hsp]; exact row_app2)
        | (exfalso; simp [hb1, hb2, hb3, hb4, hb5, hb6] at *; done)
      all_goals trace_state
  · obtain ⟨d, c, o, hb, hsp⟩ := back_right hq h7
    have hdet := detachp_spec (backC (k, t, k2, t2) rows) key false 1 5 1 2 (backC_small (by omega))
    rw [hb.det] at hdet
    have hre := reattachp_spec d hb.sd
    rw [hb.re] at hre
    have hnew := (newp_spec k2 t2 k2 t2 0 0 [] (by simp)).arg (LeL.cons (LeS.refl _) (LeL.cons (LeS.refl _) (LeL.cons (les_nil rfl) LeL.nil)))
    rw [hb.new] at hnew
    have hat := attachp_spec { backO (k2, t2) with inn := d.out } hb.so1
    rw [hb.att] at hat
    have hb1 := hb.same
    have hb2 := hb.took
    have hb3 := hb.src
    have hb4 := hb.vd
    have hb5 := hb.vo
    have hb6 := hb.win
    have hb7 := hb.ld
    have hb8 := hb.lo
    have hb9 := hb.sd.2.2.1
    have hsl := congrArg List.length hsp
    simp only [List.length_append] at hsl
    conv => whnf
    repeat' first
      | (refine call_intro (hdet) ?_ (by first | exact .inl rfl | exact .inr ⟨rfl, rfl⟩); (conv => whnf))
      | (refine call_intro (hre) ?_ (by first | exact .inl rfl | exact .inr ⟨rfl, rfl⟩); (conv => whnf))
      | (refine call_intro (hnew) ?_ (by first | exact .inl rfl | exact .inr ⟨rfl, rfl⟩); (conv => whnf))
      | (refine call_intro (hat) ?_ (by first | exact .inl rfl | exact .inr ⟨rfl, rfl⟩); (conv => whnf))
      | (refine call_if (samep_spec _ _) (by first | exact .inl rfl | exact .inr ⟨rfl, rfl⟩) (need_intro ?_ ?_); (conv => whnf))
      | (refine call_if (same_own rows) (by first | exact .inl rfl | exact .inr ⟨rfl, rfl⟩) (need_intro ?_ ?_); (conv => whnf))
      | (refine call_if (validp_spec _) (by first | exact .inl rfl | exact .inr ⟨rfl, rfl⟩) (need_intro ?_ ?_); (conv => whnf))
      | (refine call_if (withinr_spec _ _ _ _ _) (by first | exact .inl rfl | exact .inr ⟨rfl, rfl⟩) (need_intro ?_ ?_); (conv => whnf))
      | (refine call_intro (awake_spec) ?_ (by first | exact .inl rfl | exact .inr ⟨rfl, rfl⟩); (conv => whnf))
      | (refine bc_true (by assumption) ?_; (conv => whnf))
      | (refine bc_false (by assumption) ?_; (conv => whnf))
      | (refine bc_intro (fun _ => ?_) (fun _ => ?_) <;> (conv => whnf))
      | (refine need_intro ?_ ?_; (conv => whnf))
      | (refine wk_refl ?_; (conv => whnf))
      | (refine draw_intro (by kernel_rfl) ?_; (conv => whnf))
      | (refine ord_intro (by kernel_rfl) ?_; (conv => whnf))
    all_goals try simp only [cellsRow', bytesRow, decide_eq_true_eq, decide_eq_false_iff_not] at *
    all_goals try first
      | exact ⟨LeS.refl _, trivial⟩
      | exact ⟨hb.sb, backC_small (by omega)⟩
      | exact hb.sd
      | exact hb.so
      | exact ⟨trivial, by omega, by omega⟩
      | omega
      | exact ⟨by omega, by omega⟩
      | (refine ⟨⟨by omega, ?_⟩, by omega⟩; rw [← hsp]; exact row_app2)
      | (exfalso; simp [hb1, hb2, hb3, hb4, hb5, hb6] at *; done)
    all_goals trace_state
theorem replicaBack_all (dss : List (List D)) (h : All2 (wfT Tryd.prog reachBytes 12) [22] dss) : Sx.Spec Tryd.prog GG 7 (svs Tryd.prog [22] dss) [] (.d (.bool true)) [] := by
  obtain ⟨x, rfl, hx⟩ := inv1 h
  obtain ⟨l, h1, h2, h3⟩ := ints_arg hx
  obtain ⟨_, _, rfl, _⟩ := hx
  exact (replicaBack_law l h1).arg h2
theorem replicaBack_lifted (os : Os) (started : os.Started) (H : Type) (enc : TypeId × Value → H) :
    ReturnsInHanded {} Tryd.checked os 7 .any (fun w args => (Rows.replicaBackSpec.pre enc Tryd.prog Tryd.f7 [] false w args ∧ laidMetH Tryd.prog laidL w) ∧ sizedMet enc Tryd.prog Tryd.f7 (OpenSpec.ofChange Rows.replicaBackSpec) false w args)
      (Rows.replicaBackSpec.post enc Tryd.prog Tryd.f7 false true false false) := by
  refine returnsInHanded_of_change_and (C := Tryd.checked) (X := fun w _ => laidMetH Tryd.prog laidL w) (fun _ _ _ hh h => h.of_heap hh) own started (by kernel_rfl) Tryd.func7
    (ChangeSpec.witness_shaped (enc := enc) (C := Tryd.checked) (os := os) (X := fun w _ => laidMetH Tryd.prog laidL w) false (World.doorLaid Tryd.prog 400 os) #[.slice none 0 0] 8 rfl (World.shaped_of_RefB (by kernel_rfl) (by kernel_rfl)) (by kernel_rfl) (by kernel_rfl) (by kernel_rfl) (door_met os _)) ?_
  intro W base args ds gs before hval hW hcnd hsz hL _
  refine law_contract (P := Tryd.prog) (ts := [22]) (bt := 4) (G := GG) laidOut (by rw [Tryd.params7]) (by kernel_rfl) Tryd.underlying4 (by kernel_rfl) rfl ?_ replicaBack_all hval hW hsz (gok hL)
  intro ds h
  match ds, h with
  | [_], _ => rfl
theorem replicaBack_over : Rows.replicaBackRow.holds Tryd.pinned (OpenSpec.ofChange Rows.replicaBackSpec) :=
  OpenClaim.holds_of_wide 7 Tryd.f7 rfl rfl rfl rfl rfl rfl rfl ⟨rfl, rfl, rfl, rfl, rfl⟩ rfl rfl rfl rfl rfl (by kernel_rfl) Tryd.func7 (by kernel_rfl)
    (of_decide_eq_true (by kernel_rfl)) (by unfold Func.isWrapper; first | (rw [if_pos (by decide +kernel)]; kernel_rfl) | (rw [if_neg (by decide +kernel)]; exact ⟨rfl, rfl⟩))
    (fun os started H enc _ => replicaBack_lifted os started H enc)
theorem replicaBack_plain : ∀ t ∈ [22], Tryd.prog.wantsStandIn t = false := by
  intro t ht
  simp only [List.mem_cons, List.not_mem_nil, or_false] at ht
  rcases ht with rfl <;> kernel_rfl
theorem replicaBack_proved : Rows.ReplicaBackCardSaid :=
  Claim7.holds_tied_plain_at .later [] [.data] true (true, "b8c9dcd8191ed71740a4ac80bc30765b96fa06e695fb428c9ca2be74d3c2a2d9") false
    replicaBack_over (fun _ h => by cases h) (by kernel_rfl) (fun _ h => by cases h) replicaBack_row_tie rfl ⟨rfl, rfl⟩ (by kernel_rfl) rfl
    (fun f fn hf hfn => by
      obtain rfl : f = 7 := Option.some.inj ((show Tryd.prog.funcNamed Rows.replicaBackRow.func = some 7 by kernel_rfl).symm.trans hf) |>.symm
      obtain rfl : fn = Tryd.f7 := (Option.some.inj (Tryd.func7.symm.trans hfn)).symm
      exact ⟨by kernel_rfl, fun j t ht => replicaBack_plain t (by
        rw [Tryd.params7] at ht
        exact List.mem_of_getElem? (by simpa using ht))⟩)
    (by kernel_rfl)
#print axioms replicaBack_proved

