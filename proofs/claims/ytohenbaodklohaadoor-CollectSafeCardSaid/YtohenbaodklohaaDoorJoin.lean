/- Contracts of functions that the law reaches: YtohenbaodklohaaDoorJoin. Written for this claim. -/
import Derived.Test.YtohenbaodklohaaDoorDet
import Derived.Test.YtohenbaodklohaaDoorSxTab
namespace Go.Proofs.YtohenbaodklohaaDoor
open Go Go.Sx Go.ChangeShapes Go.WideShapes Go.ChangeAt Go.RowKit
set_option linter.unusedVariables false
set_option linter.unusedSimpArgs false
set_option maxRecDepth 100000

/-! Next, join -/
theorem join_bad {c : CopyT} {p : PartT} (h : validC c = false) : joinC c p = (noCopy, 1) := by simp [joinC, h]
theorem join_state {c : CopyT} {p : PartT} (h : validC c = true) (h1 : p.serial = 0 ∨ c.pend.length > 0) : joinC c p = (noCopy, 7) := by
  unfold joinC
  rw [if_neg (by simp [h]), if_pos h1]
theorem join_full {c : CopyT} {p : PartT} (h : validC c = true) (h1 : ¬ (p.serial = 0 ∨ c.pend.length > 0)) (h2 : cmpB p.hk p.ht c.lk c.lt = 0 ∨ cmpB p.lk p.lt c.hk c.ht = 0) (h3 : c.rows.length + p.rows.length > 1024) : joinC c p = (noCopy, 16) := by
  unfold joinC
  rw [if_neg (by simp [h]), if_neg h1]
  by_cases hb : cmpB p.hk p.ht c.lk c.lt = 0
  · rw [if_pos hb, if_pos h3]
  · rw [if_neg hb, if_pos (h2.resolve_left hb), if_pos h3]
theorem join_gap {c : CopyT} {p : PartT} (h : validC c = true) (h1 : ¬ (p.serial = 0 ∨ c.pend.length > 0)) (h2 : ¬ cmpB p.hk p.ht c.lk c.lt = 0) (h3 : ¬ cmpB p.lk p.lt c.hk c.ht = 0) : joinC c p = (noCopy, 9) := by
  unfold joinC
  rw [if_neg (by simp [h]), if_neg h1, if_neg h2, if_neg h3]
theorem join_below {c : CopyT} {p : PartT} (h : validC c = true) (h1 : ¬ (p.serial = 0 ∨ c.pend.length > 0)) (h2 : cmpB p.hk p.ht c.lk c.lt = 0) (h3 : ¬ c.rows.length + p.rows.length > 1024) : joinC c p = ({ c with lk := p.lk, lt := p.lt, rows := p.rows ++ c.rows }, 0) := by
  unfold joinC
  rw [if_neg (by simp [h]), if_neg h1, if_pos h2, if_neg h3]
theorem join_above {c : CopyT} {p : PartT} (h : validC c = true) (h1 : ¬ (p.serial = 0 ∨ c.pend.length > 0)) (h2 : ¬ cmpB p.hk p.ht c.lk c.lt = 0) (hb : cmpB p.lk p.lt c.hk c.ht = 0) (h3 : ¬ c.rows.length + p.rows.length > 1024) : joinC c p = ({ c with hk := p.hk, ht := p.ht, rows := c.rows ++ p.rows }, 0) := by
  unfold joinC
  rw [if_neg (by simp [h]), if_neg h1, if_neg h2, if_pos hb, if_neg h3]
end Go.Proofs.YtohenbaodklohaaDoor
