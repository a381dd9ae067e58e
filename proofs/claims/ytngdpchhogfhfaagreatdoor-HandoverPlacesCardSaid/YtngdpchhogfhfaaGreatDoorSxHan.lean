/- Part of a symbolic executor over the model, proved sound, with plain laws: SxHan. Written for these claims. -/
import Derived.Test.YtngdpchhogfhfaaGreatDoorSxGrp
set_option linter.unusedVariables false
set_option linter.unusedSimpArgs false
namespace Go.Sx
open Go
instance : Inhabited GrpT := ⟨⟨0, false, []⟩⟩
def freezeG (f : GrpT) (bk : List UInt8) (bt : Bool) (side ser to_ : Int) : GrpT × Int :=
  if (ownerG f).2 = false then (noGrp, 14) else if f.opn = false then (noGrp, 7)
  else if ¬ (detachC (ownerG f).1.copy bk bt side ser f.num to_).2 = 0 then (noGrp, (detachC (ownerG f).1.copy bk bt side ser f.num to_).2)
  else changeG f (detachC (ownerG f).1.copy bk bt side ser f.num to_).1 []
def bothG (f t : GrpT) : Bool := (ownerG f).2 && (ownerG t).2
def nextP (c : CopyT) (p : PartT) : Bool := cmpB p.hk p.ht c.lk c.lt == 0 || cmpB p.lk p.lt c.hk c.ht == 0
def deliverG (f t : GrpT) : GrpT × Int :=
  if bothG f t = false then (noGrp, 14)
  else if (f.opn && (!((ownerG f).1.copy.out.serial == 0) && (t.opn && quietC (ownerG t).1.copy))) = false then (noGrp, 7)
  else if ¬ t.num = (ownerG f).1.copy.out.dst then (noGrp, 6)
  else if nextP (ownerG t).1.copy (ownerG f).1.copy.out = false then (noGrp, 9)
  else changeG t { (ownerG t).1.copy with inn := (ownerG f).1.copy.out } []
def installG (t : GrpT) : GrpT × Int :=
  if (ownerG t).2 = false then (noGrp, 14) else if t.opn = false then (noGrp, 7)
  else if ¬ (attachC (ownerG t).1.copy).2 = 0 then (noGrp, (attachC (ownerG t).1.copy).2)
  else changeG t (attachC (ownerG t).1.copy).1 [((ownerG t).1.copy.inn.se, (ownerG t).1.copy.inn.sv)]
def releaseG (f t : GrpT) : GrpT × Int :=
  if bothG f t = false then (noGrp, 14)
  else if (f.opn && (t.opn && !((ownerG f).1.copy.out.serial == 0))) = false then (noGrp, 7)
  else if ¬ t.num = (ownerG f).1.copy.out.dst then (noGrp, 6)
  else if ¬ (ownerG f).1.copy.out.serial = (ownerG t).1.copy.took then (noGrp, 7)
  else changeG f { (ownerG f).1.copy with out := noPart } []
def forgetG (t f : GrpT) : GrpT × Int :=
  if bothG t f = false then (noGrp, 14)
  else if (f.opn && (t.opn && !((ownerG t).1.copy.took == 0))) = false then (noGrp, 7)
  else if ¬ f.num = (ownerG t).1.copy.src then (noGrp, 6)
  else if (ownerG f).1.copy.out.serial = (ownerG t).1.copy.took then (noGrp, 7)
  else changeG t { (ownerG t).1.copy with took := 0, src := 0 } []
def refuseG (t : GrpT) : GrpT × Int :=
  if (ownerG t).2 = false then (noGrp, 14) else if (t.opn && !((ownerG t).1.copy.inn.serial == 0)) = false then (noGrp, 7)
  else changeG t { (ownerG t).1.copy with inn := noPart } []
def thawG (f t : GrpT) : GrpT × Int :=
  if bothG f t = false then (noGrp, 14)
  else if (f.opn && (t.opn && !((ownerG f).1.copy.out.serial == 0))) = false then (noGrp, 7)
  else if ¬ t.num = (ownerG f).1.copy.out.dst then (noGrp, 6)
  else if (ownerG f).1.copy.out.serial = (ownerG t).1.copy.inn.serial ∨ (ownerG f).1.copy.out.serial = (ownerG t).1.copy.took then (noGrp, 7)
  else if ¬ (reattachC (ownerG f).1.copy).2 = 0 then (noGrp, (reattachC (ownerG f).1.copy).2)
  else changeG f (reattachC (ownerG f).1.copy).1 []
/-- a phase and its opening -/
def phaseG (r : GrpT × Int) : GrpT × Int := if r.2 = 0 then ((recoverG r.1).1.1, (recoverG r.1).2) else r
def runG (f t : GrpT) (bk : List UInt8) (bt : Bool) (side ser : Int) : (GrpT × GrpT) × Int :=
  let a := phaseG (freezeG f bk bt side ser t.num)
  if ¬ a.2 = 0 then ((noGrp, noGrp), a.2) else
  let b := phaseG (deliverG a.1 t)
  if ¬ b.2 = 0 then ((noGrp, noGrp), b.2) else
  let c := phaseG (installG b.1)
  if ¬ c.2 = 0 then ((noGrp, noGrp), c.2) else
  let d := phaseG (releaseG a.1 c.1)
  if ¬ d.2 = 0 then ((noGrp, noGrp), d.2) else
  let e := phaseG (forgetG c.1 d.1)
  if ¬ e.2 = 0 then ((noGrp, noGrp), e.2) else ((d.1, e.1), 0)
def ownsG (g : GrpT) (k : List UInt8) : Bool := (ownerG g).2 && (g.opn && containsR (ownerG g).1.copy.lk (ownerG g).1.copy.lt (ownerG g).1.copy.hk (ownerG g).1.copy.ht k)
end Go.Sx

namespace Go.Sx
open Go
theorem noCopy_small : SmallC noCopy := by simp [SmallC, noCopy, noPart]
theorem det_small {c : CopyT} {bk : List UInt8} {bt : Bool} {side ser frm to_ : Int} (h : SmallC c) : SmallC (detachC c bk bt side ser frm to_).1 := by
  unfold detachC
  split
  · exact noCopy_small
  · split
    · exact noCopy_small
    · split
      · exact noCopy_small
      · have h1 := slice_len (rows := c.rows) (lk := (partR c bk bt side).1) (lt := (partR c bk bt side).2.1) (hk := (partR c bk bt side).2.2.1) (ht := (partR c bk bt side).2.2.2)
        have h2 := slice_len (rows := c.rows) (lk := (restR c bk bt side).1) (lt := (restR c bk bt side).2.1) (hk := (restR c bk bt side).2.2.1) (ht := (restR c bk bt side).2.2.2)
        obtain ⟨h3, h4, h5, h6⟩ := h
        simp only [detNew, SmallC, sliceR]
        refine ⟨?_, ?_, ?_, ?_⟩ <;> omega
theorem join_rows {c : CopyT} {p : PartT} (h : SmallC c) : SmallC (joinC c p).1 := by
  unfold joinC
  obtain ⟨h3, h4, h5, h6⟩ := h
  repeat' split
  all_goals first
    | exact noCopy_small
    | (simp only [SmallC, List.length_append]; refine ⟨?_, ?_, ?_, ?_⟩ <;> omega)
theorem att_small {c : CopyT} (h : SmallC c) : SmallC (attachC c).1 := by
  have := join_rows (p := c.inn) h
  unfold attachC
  split
  · obtain ⟨h3, h4, h5, h6⟩ := this
    exact ⟨h3, h4, h5, by simp [noPart]⟩
  · exact noCopy_small
theorem reatt_small {c : CopyT} (h : SmallC c) : SmallC (reattachC c).1 := by
  have := join_rows (p := c.out) h
  unfold reattachC
  split
  · obtain ⟨h3, h4, h5, h6⟩ := this
    exact ⟨h3, h4, by simp [noPart], h6⟩
  · exact noCopy_small
/-- the copies of the owners -/
def copiesG (l : List GrpT) : List CopyT × Bool := if l.all (fun g => (ownerG g).2) then (l.map fun g => (ownerG g).1.copy, true) else ([], false)
end Go.Sx
namespace Go.Sx
theorem quiet_no {c : CopyT} (h : (c.pend.length : Int) > 0 ∨ ¬ c.out.serial = 0 ∨ ¬ c.inn.serial = 0 ∨ ¬ c.took = 0) : quietC c = false := by
  cases hq : quietC c with
  | false => rfl
  | true =>
    simp only [quietC, Bool.and_eq_true, decide_eq_true_eq, beq_iff_eq] at hq
    obtain ⟨h1, h2, h3, h4⟩ := hq
    rcases h with h | h | h | h
    · omega
    · exact absurd h2 h
    · exact absurd h3 h
    · exact absurd h4 h
theorem quiet_yes {c : CopyT} (h1 : ¬ (c.pend.length : Int) > 0) (h2 : c.out.serial = 0) (h3 : c.inn.serial = 0) (h4 : c.took = 0) : quietC c = true := by
  simp only [quietC, Bool.and_eq_true, decide_eq_true_eq, beq_iff_eq]
  exact ⟨by omega, h2, h3, h4⟩
section
variable {f t : GrpT}
theorem deliver_down (h : bothG f t = false) : deliverG f t = (noGrp, 14) := by rw [deliverG, if_pos h]
theorem deliver_state (h : bothG f t = true) (h2 : f.opn = false ∨ (ownerG f).1.copy.out.serial = 0 ∨ t.opn = false ∨ quietC (ownerG t).1.copy = false) : deliverG f t = (noGrp, 7) := by
  rw [deliverG, if_neg (by rw [h]; simp), if_pos]
  rcases h2 with h | h | h | h <;> simp [h]
theorem deliver_go (h1 : f.opn = true) (h2 : ¬ (ownerG f).1.copy.out.serial = 0) (h3 : t.opn = true) (h4 : quietC (ownerG t).1.copy = true) : ¬ (f.opn && (!((ownerG f).1.copy.out.serial == 0) && (t.opn && quietC (ownerG t).1.copy))) = false := by simp [h1, h2, h3, h4]
theorem deliver_unk (h : bothG f t = true) (h1 : f.opn = true) (h2 : ¬ (ownerG f).1.copy.out.serial = 0) (h3 : t.opn = true) (h4 : quietC (ownerG t).1.copy = true) (h5 : ¬ t.num = (ownerG f).1.copy.out.dst) : deliverG f t = (noGrp, 6) := by
  rw [deliverG, if_neg (by rw [h]; simp), if_neg (deliver_go h1 h2 h3 h4), if_pos h5]
theorem deliver_gap (h : bothG f t = true) (h1 : f.opn = true) (h2 : ¬ (ownerG f).1.copy.out.serial = 0) (h3 : t.opn = true) (h4 : quietC (ownerG t).1.copy = true) (h5 : t.num = (ownerG f).1.copy.out.dst) (h6 : nextP (ownerG t).1.copy (ownerG f).1.copy.out = false) : deliverG f t = (noGrp, 9) := by
  rw [deliverG, if_neg (by rw [h]; simp), if_neg (deliver_go h1 h2 h3 h4), if_neg (by simpa using h5), if_pos h6]
theorem deliver_ok (h : bothG f t = true) (h1 : f.opn = true) (h2 : ¬ (ownerG f).1.copy.out.serial = 0) (h3 : t.opn = true) (h4 : quietC (ownerG t).1.copy = true) (h5 : t.num = (ownerG f).1.copy.out.dst) (h6 : nextP (ownerG t).1.copy (ownerG f).1.copy.out = true) : deliverG f t = changeG t { (ownerG t).1.copy with inn := (ownerG f).1.copy.out } [] := by
  rw [deliverG, if_neg (by rw [h]; simp), if_neg (deliver_go h1 h2 h3 h4), if_neg (by simpa using h5), if_neg (by rw [h6]; simp)]
theorem next_or {c : CopyT} {p : PartT} : nextP c p = (decide (cmpB p.hk p.ht c.lk c.lt = 0) || decide (cmpB p.lk p.lt c.hk c.ht = 0)) := by
  simp only [nextP, BEq.beq]
theorem install_down (h : (ownerG t).2 = false) : installG t = (noGrp, 14) := by rw [installG, if_pos h]
theorem install_shut (h : (ownerG t).2 = true) (h2 : t.opn = false) : installG t = (noGrp, 7) := by rw [installG, if_neg (by rw [h]; simp), if_pos h2]
theorem install_err (h : (ownerG t).2 = true) (h2 : t.opn = true) (h3 : ¬ (attachC (ownerG t).1.copy).2 = 0) : installG t = (noGrp, (attachC (ownerG t).1.copy).2) := by
  rw [installG, if_neg (by rw [h]; simp), if_neg (by rw [h2]; simp), if_pos h3]
theorem install_ok (h : (ownerG t).2 = true) (h2 : t.opn = true) (h3 : (attachC (ownerG t).1.copy).2 = 0) : installG t = changeG t (attachC (ownerG t).1.copy).1 [((ownerG t).1.copy.inn.se, (ownerG t).1.copy.inn.sv)] := by
  rw [installG, if_neg (by rw [h]; simp), if_neg (by rw [h2]; simp), if_neg (by rw [h3]; simp)]
theorem release_down (h : bothG f t = false) : releaseG f t = (noGrp, 14) := by rw [releaseG, if_pos h]
theorem release_state (h : bothG f t = true) (h2 : f.opn = false ∨ t.opn = false ∨ (ownerG f).1.copy.out.serial = 0) : releaseG f t = (noGrp, 7) := by
  rw [releaseG, if_neg (by rw [h]; simp), if_pos]
  rcases h2 with h | h | h <;> simp [h]
theorem three_go {a b c : Bool} {n : Int} (h1 : a = true) (h2 : b = true) (h3 : ¬ n = 0) : ¬ (a && (b && !(n == 0))) = false := by simp [h1, h2, h3]
theorem release_unk (h : bothG f t = true) (h1 : f.opn = true) (h2 : t.opn = true) (h3 : ¬ (ownerG f).1.copy.out.serial = 0) (h4 : ¬ t.num = (ownerG f).1.copy.out.dst) : releaseG f t = (noGrp, 6) := by
  rw [releaseG, if_neg (by rw [h]; simp), if_neg (three_go (c := true) h1 h2 h3), if_pos h4]
theorem release_not (h : bothG f t = true) (h1 : f.opn = true) (h2 : t.opn = true) (h3 : ¬ (ownerG f).1.copy.out.serial = 0) (h4 : t.num = (ownerG f).1.copy.out.dst) (h5 : ¬ (ownerG f).1.copy.out.serial = (ownerG t).1.copy.took) : releaseG f t = (noGrp, 7) := by
  rw [releaseG, if_neg (by rw [h]; simp), if_neg (three_go (c := true) h1 h2 h3), if_neg (by simpa using h4), if_pos h5]
theorem release_ok (h : bothG f t = true) (h1 : f.opn = true) (h2 : t.opn = true) (h3 : ¬ (ownerG f).1.copy.out.serial = 0) (h4 : t.num = (ownerG f).1.copy.out.dst) (h5 : (ownerG f).1.copy.out.serial = (ownerG t).1.copy.took) : releaseG f t = changeG f { (ownerG f).1.copy with out := noPart } [] := by
  rw [releaseG, if_neg (by rw [h]; simp), if_neg (three_go (c := true) h1 h2 h3), if_neg (by simpa using h4), if_neg (by simpa using h5)]
theorem forget_down (h : bothG t f = false) : forgetG t f = (noGrp, 14) := by rw [forgetG, if_pos h]
theorem forget_state (h : bothG t f = true) (h2 : f.opn = false ∨ t.opn = false ∨ (ownerG t).1.copy.took = 0) : forgetG t f = (noGrp, 7) := by
  rw [forgetG, if_neg (by rw [h]; simp), if_pos]
  rcases h2 with h | h | h <;> simp [h]
theorem forget_unk (h : bothG t f = true) (h1 : f.opn = true) (h2 : t.opn = true) (h3 : ¬ (ownerG t).1.copy.took = 0) (h4 : ¬ f.num = (ownerG t).1.copy.src) : forgetG t f = (noGrp, 6) := by
  rw [forgetG, if_neg (by rw [h]; simp), if_neg (three_go (c := true) h1 h2 h3), if_pos h4]
theorem forget_not (h : bothG t f = true) (h1 : f.opn = true) (h2 : t.opn = true) (h3 : ¬ (ownerG t).1.copy.took = 0) (h4 : f.num = (ownerG t).1.copy.src) (h5 : (ownerG f).1.copy.out.serial = (ownerG t).1.copy.took) : forgetG t f = (noGrp, 7) := by
  rw [forgetG, if_neg (by rw [h]; simp), if_neg (three_go (c := true) h1 h2 h3), if_neg (by simpa using h4), if_pos h5]
theorem forget_ok (h : bothG t f = true) (h1 : f.opn = true) (h2 : t.opn = true) (h3 : ¬ (ownerG t).1.copy.took = 0) (h4 : f.num = (ownerG t).1.copy.src) (h5 : ¬ (ownerG f).1.copy.out.serial = (ownerG t).1.copy.took) : forgetG t f = changeG t { (ownerG t).1.copy with took := 0, src := 0 } [] := by
  rw [forgetG, if_neg (by rw [h]; simp), if_neg (three_go (c := true) h1 h2 h3), if_neg (by simpa using h4), if_neg h5]
theorem refuse_down (h : (ownerG t).2 = false) : refuseG t = (noGrp, 14) := by rw [refuseG, if_pos h]
theorem refuse_state (h : (ownerG t).2 = true) (h2 : t.opn = false ∨ (ownerG t).1.copy.inn.serial = 0) : refuseG t = (noGrp, 7) := by
  rw [refuseG, if_neg (by rw [h]; simp), if_pos]
  rcases h2 with h | h <;> simp [h]
theorem refuse_ok (h : (ownerG t).2 = true) (h2 : t.opn = true) (h3 : ¬ (ownerG t).1.copy.inn.serial = 0) : refuseG t = changeG t { (ownerG t).1.copy with inn := noPart } [] := by
  rw [refuseG, if_neg (by rw [h]; simp), if_neg (by simp [h2, h3])]
theorem thaw_down (h : bothG f t = false) : thawG f t = (noGrp, 14) := by rw [thawG, if_pos h]
theorem thaw_state (h : bothG f t = true) (h2 : f.opn = false ∨ t.opn = false ∨ (ownerG f).1.copy.out.serial = 0) : thawG f t = (noGrp, 7) := by
  rw [thawG, if_neg (by rw [h]; simp), if_pos]
  rcases h2 with h | h | h <;> simp [h]
theorem thaw_unk (h : bothG f t = true) (h1 : f.opn = true) (h2 : t.opn = true) (h3 : ¬ (ownerG f).1.copy.out.serial = 0) (h4 : ¬ t.num = (ownerG f).1.copy.out.dst) : thawG f t = (noGrp, 6) := by
  rw [thawG, if_neg (by rw [h]; simp), if_neg (three_go (c := true) h1 h2 h3), if_pos h4]
theorem thaw_not (h : bothG f t = true) (h1 : f.opn = true) (h2 : t.opn = true) (h3 : ¬ (ownerG f).1.copy.out.serial = 0) (h4 : t.num = (ownerG f).1.copy.out.dst) (h5 : (ownerG f).1.copy.out.serial = (ownerG t).1.copy.inn.serial ∨ (ownerG f).1.copy.out.serial = (ownerG t).1.copy.took) : thawG f t = (noGrp, 7) := by
  rw [thawG, if_neg (by rw [h]; simp), if_neg (three_go (c := true) h1 h2 h3), if_neg (by simpa using h4), if_pos h5]
theorem thaw_err (h : bothG f t = true) (h1 : f.opn = true) (h2 : t.opn = true) (h3 : ¬ (ownerG f).1.copy.out.serial = 0) (h4 : t.num = (ownerG f).1.copy.out.dst) (h5 : ¬ (ownerG f).1.copy.out.serial = (ownerG t).1.copy.inn.serial) (h6 : ¬ (ownerG f).1.copy.out.serial = (ownerG t).1.copy.took) (h7 : ¬ (reattachC (ownerG f).1.copy).2 = 0) : thawG f t = (noGrp, (reattachC (ownerG f).1.copy).2) := by
  rw [thawG, if_neg (by rw [h]; simp), if_neg (three_go (c := true) h1 h2 h3), if_neg (by simpa using h4), if_neg (by rintro (e | e) <;> contradiction), if_pos h7]
theorem thaw_ok (h : bothG f t = true) (h1 : f.opn = true) (h2 : t.opn = true) (h3 : ¬ (ownerG f).1.copy.out.serial = 0) (h4 : t.num = (ownerG f).1.copy.out.dst) (h5 : ¬ (ownerG f).1.copy.out.serial = (ownerG t).1.copy.inn.serial) (h6 : ¬ (ownerG f).1.copy.out.serial = (ownerG t).1.copy.took) (h7 : (reattachC (ownerG f).1.copy).2 = 0) : thawG f t = changeG f (reattachC (ownerG f).1.copy).1 [] := by
  rw [thawG, if_neg (by rw [h]; simp), if_neg (three_go (c := true) h1 h2 h3), if_neg (by simpa using h4), if_neg (by rintro (e | e) <;> contradiction), if_neg (by simpa using h7)]
end
end Go.Sx
namespace Go.Sx
theorem noGrp_b : GrpB 1000 noGrp := ⟨by simp [noGrp], by simp [noGrp]⟩
section
variable {f t : GrpT} {bk : List UInt8} {bt : Bool} {side ser to_ : Int}
theorem own_smallC (h : GrpB 1000 f) : SmallC (ownerG f).1.copy := owner_small h
theorem freeze_b (h : GrpB 1000 f) : GrpB 1000 (freezeG f bk bt side ser to_).1 := by
  unfold freezeG
  repeat' split
  all_goals first | exact noGrp_b | exact change_b h (det_small (own_smallC h))
theorem deliver_b (h : GrpB 1000 f) (h2 : GrpB 1000 t) : GrpB 1000 (deliverG f t).1 := by
  have hS := own_smallC h
  have hS2 := own_smallC h2
  unfold deliverG
  repeat' split
  all_goals first | exact noGrp_b | exact change_b h2 ⟨hS2.1, hS2.2.1, hS2.2.2.1, hS.2.2.1⟩
theorem install_b (h : GrpB 1000 f) : GrpB 1000 (installG f).1 := by
  unfold installG
  repeat' split
  all_goals first | exact noGrp_b | exact change_b h (att_small (own_smallC h))
theorem release_b (h : GrpB 1000 f) : GrpB 1000 (releaseG f t).1 := by
  have hS := own_smallC h
  unfold releaseG
  repeat' split
  all_goals first | exact noGrp_b | exact change_b h ⟨hS.1, hS.2.1, by simp [noPart], hS.2.2.2⟩
theorem forget_b (h : GrpB 1000 f) : GrpB 1000 (forgetG f t).1 := by
  have hS := own_smallC h
  unfold forgetG
  repeat' split
  all_goals first | exact noGrp_b | exact change_b h ⟨hS.1, hS.2.1, hS.2.2.1, hS.2.2.2⟩
end
end Go.Sx

namespace Go.Sx
open Go
structure HSt where
  rng : Rng
  out : PartT
  inn : PartT
  took : Int
  src : Int
def hst (c : CopyT) : HSt := ⟨c.rng, c.out, c.inn, c.took, c.src⟩
def updS (cs : Nat → HSt) (i : Nat) (s : HSt) : Nat → HSt := fun j => if j = i then s else cs j
theorem updS_self {cs : Nat → HSt} {i : Nat} {s : HSt} : updS cs i s i = s := if_pos rfl
theorem updS_ne {cs : Nat → HSt} {i j : Nat} {s : HSt} (h : j ≠ i) : updS cs i s j = cs j := if_neg h
theorem updS_at {P : HSt → Prop} {cs : Nat → HSt} {i : Nat} {s : HSt} (j : Nat) (h1 : j = i → P s) (h2 : j ≠ i → P (cs j)) : P (updS cs i s j) := by
  by_cases e : j = i
  · subst e; rw [updS_self]; exact h1 rfl
  · rw [updS_ne e]; exact h2 e
def TookN (n : Nat) (cs : Nat → HSt) (i : Nat) : Prop := ∃ j : Nat, j < n ∧ (cs i).out.dst = (j : Int) + 1 ∧ (cs j).took = (cs i).out.serial
/-- the places of a key -/
def HereN (n : Nat) (cs : Nat → HSt) (k : List UInt8) (p : Nat × Bool) : Prop :=
  p.1 < n ∧ (p.2 = false → hasR (cs p.1).rng k = true) ∧ (p.2 = true → (cs p.1).out.serial ≠ 0 ∧ ¬ TookN n cs p.1 ∧ hasR (cs p.1).out.rng k = true)
structure GoodN (n : Nat) (N : Int) (cs : Nat → HSt) : Prop where
  one : ∀ k : List UInt8, (k.length : Int) ≤ 64 → ∃ p, HereN n cs k p ∧ ∀ q, HereN n cs k q → q = p
  ex1 : ∀ i, i < n → (cs i).out.serial ≠ 0 → (cs i).inn.serial = 0 ∧ (cs i).took = 0
  ex2 : ∀ i, i < n → (cs i).inn.serial ≠ 0 → (cs i).took = 0
  out : ∀ i : Nat, i < n → (cs i).out.serial ≠ 0 → (cs i).out.src = (i : Int) + 1 ∧ (cs i).out.serial ≤ N
  tk : ∀ i, i < n → (cs i).took ≤ N
  inn : ∀ i : Nat, i < n → (cs i).inn.serial ≠ 0 → (cs i).inn.dst = (i : Int) + 1 ∧ ∃ m : Nat, m < n ∧ (cs i).inn.src = (m : Int) + 1 ∧ (cs m).out = (cs i).inn
  took : ∀ i j : Nat, i < n → j < n → (cs i).out.serial ≠ 0 → (cs i).out.serial = (cs j).took → (cs i).out.dst = (j : Int) + 1 ∧ (cs j).src = (i : Int) + 1
  uniq : ∀ i j, i < n → j < n → (cs i).out.serial ≠ 0 → (cs i).out.serial = (cs j).out.serial → i = j
theorem GoodN.mono {n : Nat} {N M : Int} {cs : Nat → HSt} (h : GoodN n N cs) (hm : N ≤ M) : GoodN n M cs :=
  ⟨h.one, h.ex1, h.ex2, fun i hi ho => ⟨(h.out i hi ho).1, by have := (h.out i hi ho).2; omega⟩, fun i hi => by have := h.tk i hi; omega, h.inn, h.took, h.uniq⟩
theorem one_map {P Q : Nat × Bool → Prop} (f : Nat × Bool → Nat × Bool) (A : ∀ q, Q q → P (f q)) (B : ∀ q q', Q q → Q q' → f q = f q' → q = q') (C : ∀ p, P p → ∃ q, Q q)
    (h : ∃ p, P p ∧ ∀ q, P q → q = p) : ∃ p, Q p ∧ ∀ q, Q q → q = p := by
  obtain ⟨p, hp, hu⟩ := h
  obtain ⟨q, hq⟩ := C p hp
  exact ⟨q, hq, fun q' hq' => B q' q hq' hq ((hu _ (A _ hq')).trans (hu _ (A _ hq)).symm)⟩
theorem one_same {P Q : Nat × Bool → Prop} (A : ∀ q, Q q ↔ P q) (h : ∃ p, P p ∧ ∀ q, P q → q = p) : ∃ p, Q p ∧ ∀ q, Q q → q = p :=
  one_map id (fun q => (A q).1) (fun _ _ _ _ h => h) (fun p hp => ⟨p, (A p).2 hp⟩) h
theorem took_congr {n : Nat} {cs cs' : Nat → HSt} {i : Nat} (ho : (cs' i).out = (cs i).out) (ht : ∀ j, j < n → (cs' j).took = (cs j).took) : TookN n cs' i ↔ TookN n cs i := by
  unfold TookN
  rw [ho]
  constructor
  · rintro ⟨j, h1, h2, h3⟩; exact ⟨j, h1, h2, by rw [← ht j h1]; exact h3⟩
  · rintro ⟨j, h1, h2, h3⟩; exact ⟨j, h1, h2, by rw [ht j h1]; exact h3⟩
theorem here_congr {n : Nat} {cs cs' : Nat → HSt} {k : List UInt8} (hr : ∀ j, (cs' j).rng = (cs j).rng) (ho : ∀ j, (cs' j).out = (cs j).out) (ht : ∀ j, j < n → (cs' j).took = (cs j).took) (p : Nat × Bool) : HereN n cs' k p ↔ HereN n cs k p := by
  unfold HereN
  rw [hr, took_congr (ho _) ht, ho]
section
variable {n : Nat} {N : Int} {cs : Nat → HSt} {i : Nat}
/-- Deliver, Refuse -/
theorem good_inn {p : PartT} (h : GoodN n N cs) (hi : i < n) (hp : p.serial ≠ 0 → (cs i).out.serial = 0 ∧ (cs i).took = 0 ∧ p.dst = (i : Int) + 1 ∧ ∃ m : Nat, m < n ∧ p.src = (m : Int) + 1 ∧ (cs m).out = p) :
    GoodN n N (updS cs i { cs i with inn := p }) := by
  have hr : ∀ j, (updS cs i { cs i with inn := p } j).rng = (cs j).rng := fun j => updS_at (P := fun s => s.rng = (cs j).rng) j (fun e => by rw [e]) (fun _ => rfl)
  have ho : ∀ j, (updS cs i { cs i with inn := p } j).out = (cs j).out := fun j => updS_at (P := fun s => s.out = (cs j).out) j (fun e => by rw [e]) (fun _ => rfl)
  have ht : ∀ j, (updS cs i { cs i with inn := p } j).took = (cs j).took := fun j => updS_at (P := fun s => s.took = (cs j).took) j (fun e => by rw [e]) (fun _ => rfl)
  have hs : ∀ j, (updS cs i { cs i with inn := p } j).src = (cs j).src := fun j => updS_at (P := fun s => s.src = (cs j).src) j (fun e => by rw [e]) (fun _ => rfl)
  refine ⟨fun k hk => one_same (here_congr hr ho fun j _ => ht j) (h.one k hk), fun j hj h0 => ?_, fun j hj h0 => ?_, fun j hj h0 => ?_, fun j hj => ?_, fun j hj => ?_, fun a b ha hb => ?_, fun a b ha hb => ?_⟩
  · rw [ho] at h0
    rw [ht]
    refine ⟨?_, (h.ex1 j hj h0).2⟩
    by_cases e : j = i
    · subst e
      rw [updS_self]
      by_cases hp0 : p.serial = 0
      · exact hp0
      · exact absurd (hp hp0).1 h0
    · rw [updS_ne e]; exact (h.ex1 j hj h0).1
  · rw [ht]
    by_cases e : j = i
    · subst e
      rw [updS_self] at h0
      exact (hp h0).2.1
    · rw [updS_ne e] at h0; exact h.ex2 j hj h0
  · rw [ho] at h0 ⊢; exact h.out j hj h0
  · rw [ht]; exact h.tk j hj
  · by_cases e : j = i
    · subst e
      rw [updS_self]
      intro h0
      obtain ⟨_, _, h3, m, h4, h5, h6⟩ := hp h0
      exact ⟨h3, m, h4, h5, by rw [ho]; exact h6⟩
    · rw [updS_ne e]
      intro h0
      obtain ⟨h3, m, h4, h5, h6⟩ := h.inn j hj h0
      exact ⟨h3, m, h4, h5, by rw [ho]; exact h6⟩
  · rw [ho, ht, hs]; exact h.took a b ha hb
  · rw [ho, ho]; exact h.uniq a b ha hb
/-- Freeze -/
theorem good_freeze {p : PartT} {r : Rng} (h : GoodN n N cs) (hN : 0 ≤ N) (hi : i < n) (h0 : (cs i).out.serial = 0) (h1 : (cs i).inn.serial = 0) (h2 : (cs i).took = 0) (hp : p.serial = N + 1) (hs : p.src = (i : Int) + 1)
    (hk : ∀ k, hasR (cs i).rng k = true ↔ hasR r k = true ∨ hasR p.rng k = true) (hd : ∀ k, ¬ (hasR r k = true ∧ hasR p.rng k = true)) :
    GoodN n (N + 1) (updS cs i { cs i with rng := r, out := p }) := by
  have ht : ∀ j, (updS cs i { cs i with rng := r, out := p } j).took = (cs j).took := fun j => updS_at (P := fun s => s.took = (cs j).took) j (fun e => by rw [e]) (fun _ => rfl)
  have hinn : ∀ j, (updS cs i { cs i with rng := r, out := p } j).inn = (cs j).inn := fun j => updS_at (P := fun s => s.inn = (cs j).inn) j (fun e => by rw [e]) (fun _ => rfl)
  have hsr : ∀ j, (updS cs i { cs i with rng := r, out := p } j).src = (cs j).src := fun j => updS_at (P := fun s => s.src = (cs j).src) j (fun e => by rw [e]) (fun _ => rfl)
  have htk : ¬ TookN n (updS cs i { cs i with rng := r, out := p }) i := by
    rintro ⟨j, hj, _, h3⟩
    rw [ht, updS_self] at h3
    have := h.tk j hj
    simp only at h3
    omega
  have htj : ∀ j, j ≠ i → (TookN n (updS cs i { cs i with rng := r, out := p }) j ↔ TookN n cs j) := fun j e => took_congr (by rw [updS_ne e]) fun j _ => ht j
  refine ⟨fun k hkk => ?_, fun j hj hn => ?_, fun j hj hn => ?_, fun j hj hn => ?_, fun j hj => ?_, fun j hj hn => ?_, fun a b ha hb hn he => ?_, fun a b ha hb hn he => ?_⟩
  · refine one_map (fun q => if q.1 = i then (i, false) else q) ?_ ?_ ?_ (h.one k hkk)
    · rintro ⟨j, b⟩ ⟨hj, g1, g2⟩
      by_cases e : j = i
      · subst e
        simp only [if_true] at g1 g2 ⊢
        refine ⟨hi, fun _ => (hk k).2 ?_, fun hb => by cases hb⟩
        rw [updS_self] at g1 g2
        cases b with
        | false => exact .inl (g1 rfl)
        | true => exact .inr (g2 rfl).2.2
      · simp only at g1 g2 ⊢
        rw [if_neg e]
        rw [updS_ne e] at g1 g2
        refine ⟨hj, g1, fun hb => ?_⟩
        obtain ⟨g3, g4, g5⟩ := g2 hb
        exact ⟨g3, fun hc => g4 ((htj j e).2 hc), g5⟩
    · rintro ⟨j, b⟩ ⟨j', b'⟩ ⟨hj, g1, g2⟩ ⟨hj', g1', g2'⟩ hf
      simp only at hf g1 g2 g1' g2'
      by_cases e : j = i
      · subst e
        rw [if_pos rfl] at hf
        by_cases e' : j' = j
        · subst e'
          rw [updS_self] at g1 g2 g1' g2'
          cases b <;> cases b'
          · rfl
          · exact absurd ⟨g1 rfl, (g2' rfl).2.2⟩ (hd k)
          · exact absurd ⟨g1' rfl, (g2 rfl).2.2⟩ (hd k)
          · rfl
        · rw [if_neg e'] at hf
          simp only [Prod.mk.injEq] at hf
          exact absurd hf.1.symm e'
      · rw [if_neg e] at hf
        by_cases e' : j' = i
        · rw [if_pos e'] at hf
          simp only [Prod.mk.injEq] at hf
          exact absurd hf.1 e
        · rw [if_neg e'] at hf
          exact hf
    · rintro ⟨j, b⟩ ⟨hj, g1, g2⟩
      by_cases e : j = i
      · subst e
        cases b with
        | true => exact absurd h0 (g2 rfl).1
        | false =>
          rcases (hk k).1 (g1 rfl) with hh | hh
          · exact ⟨(j, false), hj, fun _ => by rw [updS_self]; exact hh, fun hb => by cases hb⟩
          · refine ⟨(j, true), hj, fun hb => (by cases hb), fun _ => ⟨?_, htk, ?_⟩⟩
            · rw [updS_self]; simp only; omega
            · rw [updS_self]; exact hh
      · refine ⟨(j, b), hj, fun hb => ?_, fun hb => ?_⟩
        · simp only at g1 ⊢
          rw [updS_ne e]; exact g1 hb
        · obtain ⟨g3, g4, g5⟩ := g2 hb
          simp only at g3 g4 g5 ⊢
          rw [updS_ne e, htj j e]; exact ⟨g3, g4, g5⟩
  · rw [hinn, ht]
    by_cases e : j = i
    · rw [e]; exact ⟨h1, h2⟩
    · rw [updS_ne e] at hn; exact h.ex1 j hj hn
  · rw [ht]; rw [hinn] at hn; exact h.ex2 j hj hn
  · by_cases e : j = i
    · subst e; rw [updS_self]; exact ⟨hs, by simp only; omega⟩
    · rw [updS_ne e] at hn ⊢; exact ⟨(h.out j hj hn).1, by have := (h.out j hj hn).2; omega⟩
  · rw [ht]; have := h.tk j hj; omega
  · rw [hinn] at hn ⊢
    obtain ⟨g1, m, g2, g3, g4⟩ := h.inn j hj hn
    refine ⟨g1, m, g2, g3, ?_⟩
    have : m ≠ i := by
      rintro rfl
      rw [g4] at h0
      exact hn h0
    rw [updS_ne this]; exact g4
  · rw [ht] at he
    by_cases e : a = i
    · subst e
      rw [updS_self] at he
      have := h.tk b hb
      simp only at he
      omega
    · rw [updS_ne e] at hn he ⊢
      rw [hsr]
      exact h.took a b ha hb hn he
  · by_cases e : a = i <;> by_cases e' : b = i
    · rw [e, e']
    · subst e
      rw [updS_self, updS_ne e'] at he
      simp only at he
      by_cases hb0 : (cs b).out.serial = 0
      · omega
      · have := (h.out b hb hb0).2; omega
    · subst e'
      rw [updS_self, updS_ne e] at he
      rw [updS_ne e] at hn
      have := (h.out a ha hn).2
      simp only at he
      omega
    · rw [updS_ne e, updS_ne e'] at he
      rw [updS_ne e] at hn
      exact h.uniq a b ha hb hn he
/-- Install -/
theorem good_install {r : Rng} (h : GoodN n N cs) (hi : i < n) (hp : (cs i).inn.serial ≠ 0)
    (hk : ∀ k, hasR r k = true ↔ hasR (cs i).rng k = true ∨ hasR (cs i).inn.rng k = true) :
    GoodN n N (updS cs i ⟨r, (cs i).out, noPart, (cs i).inn.serial, (cs i).inn.src⟩) := by
  generalize hs : (⟨r, (cs i).out, noPart, (cs i).inn.serial, (cs i).inn.src⟩ : HSt) = s
  obtain ⟨d1, m, hm, d2, d3⟩ := h.inn i hi hp
  have h0 : (cs i).out.serial = 0 := by
    by_cases e : (cs i).out.serial = 0
    · exact e
    · exact absurd (h.ex1 i hi e).1 hp
  have hmi : m ≠ i := by rintro rfl; rw [d3] at h0; exact hp h0
  have hmo : (cs m).out.serial ≠ 0 := by rw [d3]; exact hp
  have ho : ∀ j, (updS cs i s j).out = (cs j).out := fun j => updS_at (P := fun s => s.out = (cs j).out) j (fun e => by rw [← hs, e]) (fun _ => rfl)
  have h2 := h.ex2 i hi hp
  have htm : TookN n (updS cs i s) m := ⟨i, hi, by rw [ho, d3]; exact d1, by rw [updS_self, ho, d3, ← hs]⟩
  have htm0 : ¬ TookN n cs m := by
    rintro ⟨j, hj, e1, e2⟩
    rw [d3, d1] at e1
    have : j = i := by omega
    subst this
    rw [d3, h2] at e2
    exact hp e2.symm
  have htj : ∀ j, j < n → j ≠ m → (cs j).out.serial ≠ 0 → (TookN n (updS cs i s) j ↔ TookN n cs j) := by
    intro j hj hjm hjo
    unfold TookN
    rw [ho]
    constructor
    · rintro ⟨a, ha, e1, e2⟩
      by_cases e : a = i
      · subst e
        rw [updS_self, ← hs] at e2
        simp only at e2
        exact absurd (h.uniq j m hj hm hjo (by rw [d3]; exact e2.symm)) hjm
      · rw [updS_ne e] at e2; exact ⟨a, ha, e1, e2⟩
    · rintro ⟨a, ha, e1, e2⟩
      by_cases e : a = i
      · subst e
        rw [h2] at e2
        exact absurd e2.symm hjo
      · exact ⟨a, ha, e1, by rw [updS_ne e]; exact e2⟩
  refine ⟨fun k hkk => ?_, fun j hj hn => ?_, fun j hj hn => ?_, fun j hj hn => ?_, fun j hj => ?_, fun j hj hn => ?_, fun a b ha hb hn he => ?_, fun a b ha hb hn he => ?_⟩
  · have hone := h.one k hkk
    refine one_map (fun q => if q = (i, false) then (if hasR (cs i).rng k = true then (i, false) else (m, true)) else q) ?_ ?_ ?_ hone
    · rintro ⟨j, b⟩ ⟨hj, g1, g2⟩
      simp only at g1 g2 ⊢
      by_cases e : (j, b) = (i, false)
      · rw [if_pos e]
        simp only [Prod.mk.injEq] at e
        obtain ⟨rfl, rfl⟩ := e
        have g3 := g1 rfl
        rw [updS_self, ← hs] at g3
        by_cases e2 : hasR (cs j).rng k = true
        · rw [if_pos e2]; exact ⟨hj, fun _ => e2, fun hb => by cases hb⟩
        · rw [if_neg e2]
          refine ⟨hm, fun hb => (by cases hb), fun _ => ⟨hmo, htm0, ?_⟩⟩
          rw [d3]
          exact ((hk k).1 g3).resolve_left e2
      · rw [if_neg e]
        refine ⟨hj, fun hb => ?_, fun hb => ?_⟩
        · simp only at hb
          have : j ≠ i := by rintro rfl; exact e (by rw [hb])
          rw [updS_ne this] at g1
          exact g1 hb
        · obtain ⟨g3, g4, g5⟩ := g2 hb
          rw [ho] at g3 g5
          have : j ≠ m := by rintro rfl; exact g4 htm
          exact ⟨g3, fun hc => g4 ((htj j hj this g3).2 hc), g5⟩
    · rintro ⟨j, b⟩ ⟨j', b'⟩ ⟨hj, g1, g2⟩ ⟨hj', g1', g2'⟩ hf
      simp only at hf g1 g2 g1' g2'
      have hx : ∀ j b, ((b = true) → (updS cs i s j).out.serial ≠ 0 ∧ ¬ TookN n (updS cs i s) j ∧ hasR (updS cs i s j).out.rng k = true) → ¬ (j, b) = (i, false) → (j, b) = (if hasR (cs i).rng k = true then (i, false) else (m, true)) → False := by
        intro j b g2 e hf
        split at hf
        · exact e hf
        · simp only [Prod.mk.injEq] at hf
          obtain ⟨rfl, rfl⟩ := hf
          exact (g2 rfl).2.1 htm
      by_cases e : (j, b) = (i, false)
      · rw [if_pos e] at hf
        by_cases e' : (j', b') = (i, false)
        · rw [e, e']
        · rw [if_neg e'] at hf
          exact (hx j' b' g2' e' hf.symm).elim
      · rw [if_neg e] at hf
        by_cases e' : (j', b') = (i, false)
        · rw [if_pos e'] at hf
          exact (hx j b g2 e hf).elim
        · rw [if_neg e'] at hf
          exact hf
    · rintro ⟨j, b⟩ ⟨hj, g1, g2⟩
      simp only at g1 g2
      cases b with
      | false =>
        have g3 := g1 rfl
        by_cases e : j = i
        · subst e
          exact ⟨(j, false), hj, fun _ => by rw [updS_self, ← hs]; exact (hk k).2 (.inl g3), fun hb => by cases hb⟩
        · exact ⟨(j, false), hj, fun _ => by simp only; rw [updS_ne e]; exact g3, fun hb => by cases hb⟩
      | true =>
        obtain ⟨g3, g4, g5⟩ := g2 rfl
        by_cases e : j = m
        · subst e
          refine ⟨(i, false), hi, fun _ => ?_, fun hb => by cases hb⟩
          rw [updS_self, ← hs]
          rw [d3] at g5
          exact (hk k).2 (.inr g5)
        · refine ⟨(j, true), hj, fun hb => (by cases hb), fun _ => ?_⟩
          simp only
          rw [ho]
          exact ⟨g3, fun hc => g4 ((htj j hj e g3).1 hc), g5⟩
  · rw [ho] at hn
    have e : j ≠ i := by rintro rfl; exact hn h0
    rw [updS_ne e]; exact h.ex1 j hj hn
  · by_cases e : j = i
    · subst e
      rw [updS_self, ← hs] at hn
      exact absurd rfl hn
    · rw [updS_ne e] at hn ⊢; exact h.ex2 j hj hn
  · rw [ho] at hn ⊢; exact h.out j hj hn
  · by_cases e : j = i
    · subst e
      rw [updS_self, ← hs]
      have := (h.out m hm hmo).2
      rw [d3] at this
      exact this
    · rw [updS_ne e]; exact h.tk j hj
  · by_cases e : j = i
    · subst e
      rw [updS_self, ← hs] at hn
      exact absurd rfl hn
    · rw [updS_ne e] at hn ⊢
      obtain ⟨g1, m', g2, g3, g4⟩ := h.inn j hj hn
      exact ⟨g1, m', g2, g3, by rw [ho]; exact g4⟩
  · rw [ho] at hn he ⊢
    by_cases e : b = i
    · subst e
      rw [updS_self, ← hs] at he ⊢
      simp only at he ⊢
      have : a = m := h.uniq a m ha hm hn (by rw [d3]; exact he)
      subst this
      rw [d3]
      exact ⟨d1, d2⟩
    · rw [updS_ne e] at he ⊢; exact h.took a b ha hb hn he
  · rw [ho] at hn he
    rw [ho] at he
    exact h.uniq a b ha hb hn he
/-- Release -/
theorem good_release {j : Nat} (h : GoodN n N cs) (hi : i < n) (hj : j < n) (h0 : (cs i).out.serial ≠ 0) (hd : (cs i).out.dst = (j : Int) + 1) (ht : (cs i).out.serial = (cs j).took) :
    GoodN n N (updS cs i { cs i with out := noPart }) := by
  have hr : ∀ j, (updS cs i { cs i with out := noPart } j).rng = (cs j).rng := fun j => updS_at (P := fun s => s.rng = (cs j).rng) j (fun e => by rw [e]) (fun _ => rfl)
  have htk : ∀ j, (updS cs i { cs i with out := noPart } j).took = (cs j).took := fun j => updS_at (P := fun s => s.took = (cs j).took) j (fun e => by rw [e]) (fun _ => rfl)
  have hinn : ∀ j, (updS cs i { cs i with out := noPart } j).inn = (cs j).inn := fun j => updS_at (P := fun s => s.inn = (cs j).inn) j (fun e => by rw [e]) (fun _ => rfl)
  have hs : ∀ j, (updS cs i { cs i with out := noPart } j).src = (cs j).src := fun j => updS_at (P := fun s => s.src = (cs j).src) j (fun e => by rw [e]) (fun _ => rfl)
  have htj : ∀ j, j ≠ i → (TookN n (updS cs i { cs i with out := noPart }) j ↔ TookN n cs j) := fun j e => took_congr (by rw [updS_ne e]) fun j _ => htk j
  have hne : ∀ a, (updS cs i { cs i with out := noPart } a).out.serial ≠ 0 → a ≠ i := by
    rintro a ha rfl
    rw [updS_self] at ha
    exact ha rfl
  refine ⟨fun k hkk => one_same (fun q => ?_) (h.one k hkk), fun a ha hn => ?_, fun a ha hn => ?_, fun a ha hn => ?_, fun a ha => ?_, fun a ha hn => ?_, fun a b ha hb hn he => ?_, fun a b ha hb hn he => ?_⟩
  · obtain ⟨a, b⟩ := q
    unfold HereN
    simp only
    rw [hr]
    by_cases e : a = i
    · subst e
      refine and_congr_right fun _ => and_congr_right fun _ => ?_
      constructor
      · intro g hb; exact absurd rfl (hne a (g hb).1)
      · intro g hb; exact absurd ⟨j, hj, hd, ht.symm⟩ (g hb).2.1
    · rw [htj a e, updS_ne e]
  · have e := hne a hn
    rw [hinn, htk]
    rw [updS_ne e] at hn
    exact h.ex1 a ha hn
  · rw [hinn] at hn; rw [htk]; exact h.ex2 a ha hn
  · have e := hne a hn
    rw [updS_ne e] at hn ⊢
    exact h.out a ha hn
  · rw [htk]; exact h.tk a ha
  · rw [hinn] at hn ⊢
    obtain ⟨g1, m, g2, g3, g4⟩ := h.inn a ha hn
    refine ⟨g1, m, g2, g3, ?_⟩
    have : m ≠ i := by
      rintro rfl
      rw [g4, g1] at hd
      have e : a = j := by omega
      subst e
      rw [h.ex2 a ha hn] at ht
      exact h0 ht
    rw [updS_ne this]; exact g4
  · have e := hne a hn
    rw [updS_ne e] at hn he ⊢
    rw [htk] at he
    rw [hs]
    exact h.took a b ha hb hn he
  · have e := hne a hn
    have e' := hne b (by rw [← he]; exact hn)
    rw [updS_ne e] at hn he
    rw [updS_ne e'] at he
    exact h.uniq a b ha hb hn he
/-- Forget -/
theorem good_forget {m : Nat} (h : GoodN n N cs) (hN : 0 ≤ N) (hi : i < n) (hm : m < n) (h0 : (cs i).took ≠ 0) (hd : (cs i).src = (m : Int) + 1) (ht : (cs m).out.serial ≠ (cs i).took) :
    GoodN n N (updS cs i { cs i with took := 0, src := 0 }) := by
  have hr : ∀ j, (updS cs i { cs i with took := 0, src := 0 } j).rng = (cs j).rng := fun j => updS_at (P := fun s => s.rng = (cs j).rng) j (fun e => by rw [e]) (fun _ => rfl)
  have ho : ∀ j, (updS cs i { cs i with took := 0, src := 0 } j).out = (cs j).out := fun j => updS_at (P := fun s => s.out = (cs j).out) j (fun e => by rw [e]) (fun _ => rfl)
  have hinn : ∀ j, (updS cs i { cs i with took := 0, src := 0 } j).inn = (cs j).inn := fun j => updS_at (P := fun s => s.inn = (cs j).inn) j (fun e => by rw [e]) (fun _ => rfl)
  have htj : ∀ a, a < n → (cs a).out.serial ≠ 0 → (TookN n (updS cs i { cs i with took := 0, src := 0 }) a ↔ TookN n cs a) := by
    intro a ha hao
    unfold TookN
    rw [ho]
    constructor
    · rintro ⟨b, hb, e1, e2⟩
      by_cases e : b = i
      · subst e
        rw [updS_self] at e2
        exact absurd e2.symm hao
      · rw [updS_ne e] at e2; exact ⟨b, hb, e1, e2⟩
    · rintro ⟨b, hb, e1, e2⟩
      by_cases e : b = i
      · subst e
        have := (h.took a b ha hb hao e2.symm).2
        rw [hd] at this
        have e3 : a = m := by omega
        subst e3
        exact absurd e2.symm ht
      · exact ⟨b, hb, e1, by rw [updS_ne e]; exact e2⟩
  refine ⟨fun k hkk => one_same (fun q => ?_) (h.one k hkk), fun a ha hn => ?_, fun a ha hn => ?_, fun a ha hn => ?_, fun a ha => ?_, fun a ha hn => ?_, fun a b ha hb hn he => ?_, fun a b ha hb hn he => ?_⟩
  · unfold HereN
    rw [hr, ho]
    refine and_congr_right fun hq => and_congr_right fun _ => ?_
    constructor
    · intro g hb; obtain ⟨g1, g2, g3⟩ := g hb; exact ⟨g1, fun hc => g2 ((htj _ hq g1).2 hc), g3⟩
    · intro g hb; obtain ⟨g1, g2, g3⟩ := g hb; exact ⟨g1, fun hc => g2 ((htj _ hq g1).1 hc), g3⟩
  · rw [ho] at hn
    rw [hinn]
    refine ⟨(h.ex1 a ha hn).1, ?_⟩
    by_cases e : a = i
    · subst e; rw [updS_self]
    · rw [updS_ne e]; exact (h.ex1 a ha hn).2
  · rw [hinn] at hn
    by_cases e : a = i
    · subst e; rw [updS_self]
    · rw [updS_ne e]; exact h.ex2 a ha hn
  · rw [ho] at hn ⊢; exact h.out a ha hn
  · by_cases e : a = i
    · subst e; rw [updS_self]; exact hN
    · rw [updS_ne e]; exact h.tk a ha
  · rw [hinn] at hn ⊢
    obtain ⟨g1, m, g2, g3, g4⟩ := h.inn a ha hn
    exact ⟨g1, m, g2, g3, by rw [ho]; exact g4⟩
  · rw [ho] at hn he ⊢
    by_cases e : b = i
    · subst e
      rw [updS_self] at he
      exact absurd he hn
    · rw [updS_ne e] at he ⊢; exact h.took a b ha hb hn he
  · rw [ho] at hn he
    rw [ho] at he
    exact h.uniq a b ha hb hn he
/-- Thaw -/
theorem good_thaw {j : Nat} {r : Rng} (h : GoodN n N cs) (hi : i < n) (hj : j < n) (h0 : (cs i).out.serial ≠ 0) (hd : (cs i).out.dst = (j : Int) + 1) (hx : (cs i).out.serial ≠ (cs j).inn.serial) (ht : (cs i).out.serial ≠ (cs j).took)
    (hk : ∀ k, hasR r k = true ↔ hasR (cs i).rng k = true ∨ hasR (cs i).out.rng k = true) :
    GoodN n N (updS cs i { cs i with rng := r, out := noPart }) := by
  have htk : ∀ j, (updS cs i { cs i with rng := r, out := noPart } j).took = (cs j).took := fun j => updS_at (P := fun s => s.took = (cs j).took) j (fun e => by rw [e]) (fun _ => rfl)
  have hinn : ∀ j, (updS cs i { cs i with rng := r, out := noPart } j).inn = (cs j).inn := fun j => updS_at (P := fun s => s.inn = (cs j).inn) j (fun e => by rw [e]) (fun _ => rfl)
  have hs : ∀ j, (updS cs i { cs i with rng := r, out := noPart } j).src = (cs j).src := fun j => updS_at (P := fun s => s.src = (cs j).src) j (fun e => by rw [e]) (fun _ => rfl)
  have htj : ∀ j, j ≠ i → (TookN n (updS cs i { cs i with rng := r, out := noPart }) j ↔ TookN n cs j) := fun j e => took_congr (by rw [updS_ne e]) fun j _ => htk j
  have hti : ¬ TookN n cs i := by
    rintro ⟨a, ha, e1, e2⟩
    rw [hd] at e1
    have : a = j := by omega
    subst this
    exact ht e2.symm
  have hne : ∀ a, (updS cs i { cs i with rng := r, out := noPart } a).out.serial ≠ 0 → a ≠ i := by
    rintro a ha rfl
    rw [updS_self] at ha
    exact ha rfl
  refine ⟨fun k hkk => ?_, fun a ha hn => ?_, fun a ha hn => ?_, fun a ha hn => ?_, fun a ha => ?_, fun a ha hn => ?_, fun a b ha hb hn he => ?_, fun a b ha hb hn he => ?_⟩
  · refine one_map (fun q => if q = (i, false) then (if hasR (cs i).rng k = true then (i, false) else (i, true)) else q) ?_ ?_ ?_ (h.one k hkk)
    · rintro ⟨a, b⟩ ⟨ha, g1, g2⟩
      simp only at g1 g2 ⊢
      by_cases e : (a, b) = (i, false)
      · rw [if_pos e]
        simp only [Prod.mk.injEq] at e
        obtain ⟨rfl, rfl⟩ := e
        have g3 := g1 rfl
        rw [updS_self] at g3
        by_cases e2 : hasR (cs a).rng k = true
        · rw [if_pos e2]; exact ⟨ha, fun _ => e2, fun hb => by cases hb⟩
        · rw [if_neg e2]
          exact ⟨ha, fun hb => (by cases hb), fun _ => ⟨h0, hti, ((hk k).1 g3).resolve_left e2⟩⟩
      · rw [if_neg e]
        refine ⟨ha, fun hb => ?_, fun hb => ?_⟩
        · simp only at hb
          have : a ≠ i := by rintro rfl; exact e (by rw [hb])
          rw [updS_ne this] at g1
          exact g1 hb
        · obtain ⟨g3, g4, g5⟩ := g2 hb
          have := hne a g3
          rw [updS_ne this] at g3 g5
          exact ⟨g3, fun hc => g4 ((htj a this).2 hc), g5⟩
    · rintro ⟨a, b⟩ ⟨a', b'⟩ ⟨ha, g1, g2⟩ ⟨ha', g1', g2'⟩ hf
      simp only at hf g1 g2 g1' g2'
      have hx : ∀ a b, ((b = true) → (updS cs i { cs i with rng := r, out := noPart } a).out.serial ≠ 0 ∧ ¬ TookN n (updS cs i { cs i with rng := r, out := noPart }) a ∧ hasR (updS cs i { cs i with rng := r, out := noPart } a).out.rng k = true) → ¬ (a, b) = (i, false) → (a, b) = (if hasR (cs i).rng k = true then (i, false) else (i, true)) → False := by
        intro a b g2 e hf
        split at hf
        · exact e hf
        · simp only [Prod.mk.injEq] at hf
          obtain ⟨rfl, rfl⟩ := hf
          exact hne a (g2 rfl).1 rfl
      by_cases e : (a, b) = (i, false)
      · rw [if_pos e] at hf
        by_cases e' : (a', b') = (i, false)
        · rw [e, e']
        · rw [if_neg e'] at hf
          exact (hx a' b' g2' e' hf.symm).elim
      · rw [if_neg e] at hf
        by_cases e' : (a', b') = (i, false)
        · rw [if_pos e'] at hf
          exact (hx a b g2 e hf).elim
        · rw [if_neg e'] at hf
          exact hf
    · rintro ⟨a, b⟩ ⟨ha, g1, g2⟩
      simp only at g1 g2
      by_cases e : a = i
      · subst e
        refine ⟨(a, false), ha, fun _ => ?_, fun hb => by cases hb⟩
        rw [updS_self]
        cases b with
        | false => exact (hk k).2 (.inl (g1 rfl))
        | true => exact (hk k).2 (.inr (g2 rfl).2.2)
      · refine ⟨(a, b), ha, fun hb => ?_, fun hb => ?_⟩
        · simp only at hb ⊢
          rw [updS_ne e]; exact g1 hb
        · simp only at hb ⊢
          rw [updS_ne e, htj a e]; exact g2 hb
  · have e := hne a hn
    rw [hinn, htk]
    rw [updS_ne e] at hn
    exact h.ex1 a ha hn
  · rw [hinn] at hn; rw [htk]; exact h.ex2 a ha hn
  · have e := hne a hn
    rw [updS_ne e] at hn ⊢
    exact h.out a ha hn
  · rw [htk]; exact h.tk a ha
  · rw [hinn] at hn ⊢
    obtain ⟨g1, m, g2, g3, g4⟩ := h.inn a ha hn
    refine ⟨g1, m, g2, g3, ?_⟩
    have : m ≠ i := by
      rintro rfl
      rw [g4, g1] at hd
      have e : a = j := by omega
      subst e
      rw [g4] at hx
      exact hx rfl
    rw [updS_ne this]; exact g4
  · have e := hne a hn
    rw [updS_ne e] at hn he ⊢
    rw [htk] at he
    rw [hs]
    exact h.took a b ha hb hn he
  · have e := hne a hn
    have e' := hne b (by rw [← he]; exact hn)
    rw [updS_ne e] at hn he
    rw [updS_ne e'] at he
    exact h.uniq a b ha hb hn he
end
end Go.Sx

namespace Go.Sx
open Go
theorem low_mono {k : List UInt8} {a b : Bnd} (h : cmpB a.1 a.2 b.1 b.2 ≤ 0) (hk : cmpB k false a.1 a.2 < 0) : cmpB k false b.1 b.2 < 0 := by
  rw [cmp_lt] at hk ⊢
  rw [cmp_le] at h
  refine ⟨rfl, ?_⟩
  rcases h with h | ⟨h1, h2⟩
  · exact .inl h
  · rcases hk.2 with h3 | h3
    · rw [h1] at h3; cases h3
    · cases h4 : Op.bytesLess k b.1 with
      | true => exact .inr rfl
      | false =>
        by_cases e : k = b.1
        · rw [← e] at h2; rw [h2] at h3; cases h3
        · have := bl_trans (bl_tot h4 e) h3
          rw [h2] at this; cases this
theorem cmp_le_trans {a b c : Bnd} (h1 : cmpB a.1 a.2 b.1 b.2 ≤ 0) (h2 : cmpB b.1 b.2 c.1 c.2 ≤ 0) : cmpB a.1 a.2 c.1 c.2 ≤ 0 := by
  rw [cmp_le] at *
  rcases h2 with h2 | ⟨h2, h3⟩
  · exact .inl h2
  · rcases h1 with h1 | ⟨h1, h4⟩
    · rw [h2] at h1; cases h1
    · cases hc : c.2 with
      | true => exact .inl rfl
      | false =>
        refine .inr ⟨h1, ?_⟩
        cases h5 : Op.bytesLess c.1 a.1 with
        | false => rfl
        | true =>
          by_cases e : c.1 = b.1
          · rw [e] at h5; rw [h4] at h5; cases h5
          · have := bl_trans (bl_tot h3 e) h5
            rw [h4] at this; cases this
def mkR (a b : Bnd) : Rng := (a.1, a.2, b.1, b.2)
theorem validR_iff {a b : Bnd} : validR' (mkR a b) = true ↔ validB a.1 a.2 = true ∧ validB b.1 b.2 = true ∧ cmpB a.1 a.2 b.1 b.2 ≤ 0 := by
  show validR a.1 a.2 b.1 b.2 = true ↔ _
  simp only [validR, Bool.and_eq_true, decide_eq_true_eq, and_assoc]
theorem hasR_iff {a b : Bnd} {k : List UInt8} (hv : validR' (mkR a b) = true) : hasR (mkR a b) k = true ↔ (k.length : Int) ≤ 64 ∧ ¬ cmpB k false a.1 a.2 < 0 ∧ cmpB k false b.1 b.2 < 0 := by
  have hv' : validR a.1 a.2 b.1 b.2 = true := hv
  show containsR a.1 a.2 b.1 b.2 k = true ↔ _
  simp only [containsR, emptyR, hv', Bool.not_true, Bool.false_or, Bool.and_eq_true, Bool.not_eq_true', beq_eq_false_iff_ne, ne_eq, decide_eq_true_eq]
  rw [cmp_le_not]
  constructor
  · rintro ⟨⟨⟨_, h1⟩, h2⟩, h3⟩; exact ⟨h1, h2, h3⟩
  · rintro ⟨h1, h2, h3⟩
    refine ⟨⟨⟨fun h0 => ?_, h1⟩, h2⟩, h3⟩
    obtain ⟨g1, g2, _⟩ := validR_iff.1 hv
    have := cmp_eq (a := a) (b := b) g1 g2 h0
    subst this
    exact h2 h3
theorem has_split {a b c : Bnd} {k : List UInt8} (h1 : validR' (mkR a b) = true) (h2 : validR' (mkR b c) = true) : (hasR (mkR a c) k = true ↔ hasR (mkR a b) k = true ∨ hasR (mkR b c) k = true) ∧ ¬ (hasR (mkR a b) k = true ∧ hasR (mkR b c) k = true) := by
  obtain ⟨g1, g2, g3⟩ := validR_iff.1 h1
  obtain ⟨_, g5, g6⟩ := validR_iff.1 h2
  have h3 : validR' (mkR a c) = true := validR_iff.2 ⟨g1, g5, cmp_le_trans g3 g6⟩
  rw [hasR_iff h1, hasR_iff h2, hasR_iff h3]
  refine ⟨⟨?_, ?_⟩, ?_⟩
  · rintro ⟨l1, l2, l3⟩
    by_cases e : cmpB k false b.1 b.2 < 0
    · exact .inl ⟨l1, l2, e⟩
    · exact .inr ⟨l1, e, l3⟩
  · rintro (⟨l1, l2, l3⟩ | ⟨l1, l2, l3⟩)
    · exact ⟨l1, l2, low_mono g6 l3⟩
    · exact ⟨l1, fun h => l2 (low_mono g3 h), l3⟩
  · rintro ⟨⟨_, _, l1⟩, _, l2, _⟩; exact l2 l1
abbrev CopyT.lo (c : CopyT) : Bnd := (c.lk, c.lt)
abbrev CopyT.hi (c : CopyT) : Bnd := (c.hk, c.ht)
abbrev PartT.lo (p : PartT) : Bnd := (p.lk, p.lt)
abbrev PartT.hi (p : PartT) : Bnd := (p.hk, p.ht)
theorem crng {c : CopyT} : c.rng = mkR c.lo c.hi := rfl
theorem prng {p : PartT} : p.rng = mkR p.lo p.hi := rfl
structure Cn (c : CopyT) : Prop where
  v : validC c = true
  small : SmallC c
  out : c.out.serial = 0 → c.out = noPart
  inn : c.inn.serial = 0 → c.inn = noPart
theorem sameRng_eq {a b : Rng} (ha : validR' a = true) (hb : validR' b = true) (h : sameRng a b = true) : a = b := by
  obtain ⟨a1, a2, a3, a4⟩ := a
  obtain ⟨b1, b2, b3, b4⟩ := b
  simp only [validR', validR, Bool.and_eq_true] at ha hb
  simp only [sameRng, Bool.and_eq_true, beq_iff_eq] at h
  have e1 := cmp_eq (a := (a1, a2)) (b := (b1, b2)) ha.1.1 hb.1.1 h.1
  have e2 := cmp_eq (a := (a3, a4)) (b := (b3, b4)) ha.1.2 hb.1.2 h.2
  simp only [Prod.mk.injEq] at e1 e2
  obtain ⟨rfl, rfl⟩ := e1
  obtain ⟨rfl, rfl⟩ := e2
  rfl
theorem validPart_rng {p : PartT} (h : validPart p = true) : validR' p.rng = true := by
  have := (validPart_range h).1
  simp only [emptyR', emptyR, Bool.or_eq_false_iff, Bool.not_eq_false'] at this
  exact this.1
theorem samePart_eq {p q : PartT} (h : samePart p q = true) (hp : p.serial ≠ 0 → validPart p = true) (hq : q.serial ≠ 0 → validPart q = true) (h1 : p.serial = 0 → p = noPart) (h2 : q.serial = 0 → q = noPart) : p = q := by
  simp only [samePart, Bool.and_eq_true, Bool.or_eq_true, beq_iff_eq] at h
  obtain ⟨h3, h4⟩ := h
  by_cases h0 : p.serial = 0
  · rw [h1 h0, h2 (by rw [← h3]; exact h0)]
  · obtain ⟨h5, h6, ⟨h7, h8⟩, h9, h10⟩ := h4.resolve_left h0
    have e := sameRng_eq (validPart_rng (hp h0)) (validPart_rng (hq (by rw [← h3]; exact h0))) h9
    simp only [sameF, decide_eq_true_eq] at h10
    obtain ⟨p1, p2, p3, p4, p5, p6, p7, p8, p9, p10⟩ := p
    obtain ⟨q1, q2, q3, q4, q5, q6, q7, q8, q9, q10⟩ := q
    simp only [PartT.rng, Prod.mk.injEq] at *
    obtain ⟨rfl, rfl, rfl, rfl⟩ := e
    subst h3 h5 h6 h7 h8 h10
    rfl
theorem Cn.outv {c : CopyT} (h : Cn c) (h0 : c.out.serial ≠ 0) : validPart c.out = true := (part_valid h.v c.out (.inl rfl) h0).1
theorem Cn.innv {c : CopyT} (h : Cn c) (h0 : c.inn.serial ≠ 0) : validPart c.inn = true := (part_valid h.v c.inn (.inr rfl) h0).1
theorem Cn.rngv {c : CopyT} (h : Cn c) : validR' c.rng = true := (valid_head h.v).1
theorem same_st {a b : CopyT} (ha : Cn a) (hb : Cn b) (h : sameC a b = true) : hst a = hst b := by
  simp only [sameC, Bool.and_eq_true, beq_iff_eq] at h
  obtain ⟨h1, _, h2, h3, _, _, h4, h5⟩ := h
  unfold hst
  rw [sameRng_eq ha.rngv hb.rngv h1, samePart_eq h4 ha.outv hb.outv ha.out hb.out, samePart_eq h5 ha.innv hb.innv ha.inn hb.inn, h2, h3]
structure WfN (i : Nat) (g : GrpT) : Prop where
  num : g.num = (i : Int) + 1
  n1 : 1 ≤ g.mem.length
  n5 : g.mem.length ≤ 5
  uniq : Uniq g.mem
  all : ∀ m ∈ g.mem, Cn m.copy
  up : ∃ p, p < g.mem.length ∧ (g.mem.getD p default).up = true
def OpenEq (g : GrpT) : Prop := g.opn = true → ∀ p, p < g.mem.length → (g.mem.getD p default).up = true → hst (g.mem.getD p default).copy = hst (own0 g).copy
def SubN (g h : GrpT) : Prop := ∀ p, p < h.mem.length → (h.mem.getD p default).up = true → ∃ q, q < g.mem.length ∧ (g.mem.getD q default).up = true ∧ hst (h.mem.getD p default).copy = hst (g.mem.getD q default).copy
theorem SubN.refl (g : GrpT) : SubN g g := fun p hp hu => ⟨p, hp, hu, rfl⟩
theorem SubN.trans {g h k : GrpT} (h1 : SubN g h) (h2 : SubN h k) : SubN g k := fun p hp hu => by
  obtain ⟨q, hq, hqu, e⟩ := h2 p hp hu
  obtain ⟨r, hr, hru, e2⟩ := h1 q hq hqu
  exact ⟨r, hr, hru, e.trans e2⟩
theorem WfN.at {i : Nat} {g : GrpT} (h : WfN i g) {p : Nat} (hp : p < g.mem.length) : Cn (g.mem.getD p default).copy := h.all _ (getD_mem hp)
theorem WfN.own {i : Nat} {g : GrpT} (h : WfN i g) : Cn (own0 g).copy := h.at (p := 0) (by have := h.n1; omega)
theorem WfN.b {i : Nat} {g : GrpT} (h : WfN i g) : GrpB 1000 g := ⟨by have := h.n5; omega, fun m hm => ⟨(h.all m hm).small, by have := valid_i64 (h.all m hm).v; unfold I64; omega⟩⟩
theorem wf_set {i p : Nat} {g : GrpT} {x : MemT} (h : WfN i g) (hid : x.id = (g.mem.getD p default).id) (hc : Cn x.copy) (hu : ∃ q, q < g.mem.length ∧ ((g.mem.set p x).getD q default).up = true) : WfN i { g with mem := g.mem.set p x } := by
  refine ⟨h.num, by simpa using h.n1, by simpa using h.n5, uniq_set h.uniq hid, ?_, ?_⟩
  · intro m hm
    rcases List.mem_or_eq_of_mem_set hm with hm | rfl
    · exact h.all m hm
    · exact hc
  · obtain ⟨q, hq, hqu⟩ := hu
    exact ⟨q, by simpa using hq, hqu⟩
theorem set_up {ms : List MemT} {p q : Nat} {x : MemT} (hq : q < ms.length) (hx : x.up = (ms.getD p default).up) : ((ms.set p x).getD q default).up = (ms.getD q default).up := by
  by_cases e : q = p
  · subst e; rw [getD_set_self hq, hx]
  · rw [getD_set_ne e]
theorem wf_setc {i p : Nat} {g : GrpT} {c : CopyT} (h : WfN i g) (hc : Cn c) : WfN i { g with mem := g.mem.set p { g.mem.getD p default with copy := c } } := by
  obtain ⟨q, hq, hqu⟩ := h.up
  exact wf_set h rfl hc ⟨q, hq, by rw [set_up (p := p) (x := { g.mem.getD p default with copy := c }) hq rfl]; exact hqu⟩
theorem wf_opn {i : Nat} {g : GrpT} {b : Bool} (h : WfN i g) : WfN i { g with opn := b } := ⟨h.num, h.n1, h.n5, h.uniq, h.all, h.up⟩
theorem wf_with {i : Nat} {g : GrpT} {c : CopyT} (h : WfN i g) (hc : Cn c) : WfN i (withG g c) := wf_setc h hc
abbrev setCp (g : GrpT) (p : Nat) (c : CopyT) : List MemT := g.mem.set p { g.mem.getD p default with copy := c }
/-- members after a copy was stored -/
theorem setc_cases {g : GrpT} {p q : Nat} {c : CopyT} (hq : q < g.mem.length) : (q = p ∧ (g.mem.set p { g.mem.getD p default with copy := c }).getD q default = { g.mem.getD p default with copy := c }) ∨ (q ≠ p ∧ (g.mem.set p { g.mem.getD p default with copy := c }).getD q default = g.mem.getD q default) := by
  by_cases e : q = p
  · subst e; exact .inl ⟨rfl, getD_set_self hq⟩
  · exact .inr ⟨e, getD_set_ne e⟩
structure KeepN (i : Nat) (g h : GrpT) : Prop where
  wf : WfN i h
  oeq : OpenEq h
  sub : SubN g h
theorem KeepN.trans {i : Nat} {g h k : GrpT} (h1 : KeepN i g h) (h2 : KeepN i h k) : KeepN i g k := ⟨h2.wf, h2.oeq, h1.sub.trans h2.sub⟩
section
variable {i : Nat} {g : GrpT}
/-- the owner's copy is replaced by one of the same structure -/
theorem keep_own {c : CopyT} (hW : WfN i g) (hO : OpenEq g) (hu : (own0 g).up = true) (hc : Cn c) (hs : hst c = hst (own0 g).copy) : KeepN i g (withG g c) := by
  have hn := hW.n1
  refine ⟨wf_with hW hc, fun ho p hp hpu => ?_, fun p hp hpu => ?_⟩
  · have hp' : p < g.mem.length := by simpa [withG] using hp
    have e0 : own0 (withG g c) = { own0 g with copy := c } := getD_set_self (by omega)
    rw [e0]
    rcases setc_cases (g := g) (p := 0) (c := c) hp' with ⟨e1, e⟩ | ⟨e1, e⟩
    · show hst (List.getD (setCp g 0 c) p default).copy = _
      rw [e]
    · have hpu' : (List.getD (List.set g.mem 0 { g.mem.getD 0 default with copy := c }) p default).up = true := hpu
      show hst (List.getD (setCp g 0 c) p default).copy = _
      rw [e] at hpu' ⊢
      rw [hO ho p hp' hpu', hs]
  · have hp' : p < g.mem.length := by simpa [withG] using hp
    have hpu' : (List.getD (List.set g.mem 0 { g.mem.getD 0 default with copy := c }) p default).up = true := hpu
    rcases setc_cases (g := g) (p := 0) (c := c) hp' with ⟨e1, e⟩ | ⟨e1, e⟩
    · refine ⟨0, by omega, hu, ?_⟩
      show hst (List.getD (setCp g 0 c) p default).copy = _
      rw [e]; exact hs
    · rw [e] at hpu'
      refine ⟨p, hp', hpu', ?_⟩
      show hst (List.getD (setCp g 0 c) p default).copy = _
      rw [e]
theorem keep_propose {w : Wr} (hW : WfN i g) (hO : OpenEq g) (he : (proposeG g w).2 = 0) : KeepN i g (proposeG g w).1 := by
  obtain ⟨h1, h2, h3⟩ := propose_inv he
  obtain ⟨k1, k2⟩ := own_of h1
  rw [h3]
  rw [k1] at h2 ⊢
  obtain ⟨e, _, hv, _⟩ := append_okC h2
  have hc := hW.own
  rw [e]
  exact keep_own hW hO k2 ⟨hv, smallC_of hc.small hv rfl rfl, hc.out, hc.inn⟩ rfl
theorem keep_commit (hW : WfN i g) (hO : OpenEq g) (he : (commitG g).2 = 0) : KeepN i g (commitG g).1.1 := by
  obtain ⟨h1, _, h3, h4⟩ := commit_inv he
  obtain ⟨k1, k2⟩ := own_of h1
  rw [h4]
  rw [k1] at h3 ⊢
  obtain ⟨e, _, _, _, _, hv⟩ := commit_okC h3
  have hc := hW.own
  have hs : hst (commitC (own0 g).copy).1 = hst (own0 g).copy := by rw [e]; rfl
  exact keep_own hW hO k2 ⟨hv, smallC_of hc.small hv (by rw [e]) (by rw [e]), by rw [e]; exact hc.out, by rw [e]; exact hc.inn⟩ hs
theorem keep_replicate {id : Int} (hW : WfN i g) (hO : OpenEq g) (he : (replicateG g id).2 = 0) : KeepN i g (replicateG g id).1 := by
  obtain ⟨h1, h2, h3⟩ := replicate_inv he
  obtain ⟨i1, i2, i3⟩ := index_nat h2
  obtain ⟨k1, k2⟩ := own_of h1
  rw [replicate_ok h1 h2 h3, k1]
  generalize (indexG g.mem id 1).toNat = p at *
  have hn := hW.n1
  have e0 : (g.mem.set p { g.mem.getD p default with copy := (own0 g).copy }).getD 0 default = own0 g := getD_set_ne (by omega)
  refine ⟨wf_setc hW hW.own, fun ho q hq hqu => ?_, fun q hq hqu => ?_⟩
  · have hq' : q < g.mem.length := by simpa using hq
    show hst (List.getD (setCp g p (own0 g).copy) q default).copy = hst (List.getD (setCp g p (own0 g).copy) 0 default).copy
    rw [e0]
    rcases setc_cases (g := g) (p := p) (c := (own0 g).copy) hq' with ⟨e1, e⟩ | ⟨e1, e⟩
    · show hst (List.getD (setCp g p (own0 g).copy) q default).copy = _
      rw [e]
    · have hqu' : (List.getD (List.set g.mem p { g.mem.getD p default with copy := (own0 g).copy }) q default).up = true := hqu
      show hst (List.getD (setCp g p (own0 g).copy) q default).copy = _
      rw [e] at hqu' ⊢
      exact hO ho q hq' hqu'
  · have hq' : q < g.mem.length := by simpa using hq
    have hqu' : (List.getD (List.set g.mem p { g.mem.getD p default with copy := (own0 g).copy }) q default).up = true := hqu
    rcases setc_cases (g := g) (p := p) (c := (own0 g).copy) hq' with ⟨e1, e⟩ | ⟨e1, e⟩
    · refine ⟨0, by omega, k2, ?_⟩
      show hst (List.getD (setCp g p (own0 g).copy) q default).copy = _
      rw [e]
    · rw [e] at hqu'
      refine ⟨q, hq', hqu', ?_⟩
      show hst (List.getD (setCp g p (own0 g).copy) q default).copy = _
      rw [e]
theorem live_two {p : Nat} : ∀ {ms : List MemT}, 1 < (liveL ms).length → ∃ q, q < ms.length ∧ q ≠ p ∧ (ms.getD q default).up = true := by
  intro ms h
  have hc : ∃ a b, a < b ∧ b < ms.length ∧ (ms.getD a default).up = true ∧ (ms.getD b default).up = true := by
    induction ms with
    | nil => simp [liveL] at h
    | cons m ms ih =>
      cases hu : m.up with
      | false =>
        have : liveL (m :: ms) = liveL ms := by unfold liveL; rw [List.filter_cons_of_neg (by simp [hu])]
        rw [this] at h
        obtain ⟨a, b, h1, h2, h3, h4⟩ := ih h
        exact ⟨a + 1, b + 1, by omega, by simp; omega, by simpa using h3, by simpa using h4⟩
      | true =>
        have : liveL (m :: ms) = m.id :: liveL ms := by unfold liveL; rw [List.filter_cons_of_pos hu]; rfl
        rw [this] at h
        simp only [List.length_cons] at h
        have hne : (ms.filter (·.up)) ≠ [] := by
          intro e
          simp [liveL, e] at h
        obtain ⟨x, hx⟩ := List.exists_mem_of_ne_nil _ hne
        obtain ⟨hx1, hx2⟩ := List.mem_filter.1 hx
        obtain ⟨b, hb, rfl⟩ := mem_getD hx1
        exact ⟨0, b + 1, by omega, by simp; omega, by simpa using hu, by simpa using hx2⟩
  obtain ⟨a, b, h1, h2, h3, h4⟩ := hc
  by_cases e : a = p
  · exact ⟨b, h2, by omega, h4⟩
  · exact ⟨a, by omega, e, h3⟩
theorem keep_crash {id : Int} (hW : WfN i g) (hO : OpenEq g) (hl : 1 < (liveL g.mem).length) (he : (crashG g id).2 = 0) : KeepN i g (crashG g id).1 := by
  obtain ⟨h2, h3, h4⟩ := crash_inv he
  obtain ⟨i1, i2, i3⟩ := index_nat h2
  rw [h4]
  generalize (indexG g.mem id 0).toNat = p at *
  obtain ⟨q, hq, hqp, hqu⟩ := live_two (p := p) hl
  have hcp : ∀ q, q < g.mem.length → ((g.mem.set p { g.mem.getD p default with up := false }).getD q default).copy = (g.mem.getD q default).copy := by
    intro q hq
    by_cases e : q = p
    · subst e; rw [getD_set_self hq]
    · rw [getD_set_ne e]
  have hup : ∀ q, q < g.mem.length → ((g.mem.set p { g.mem.getD p default with up := false }).getD q default).up = true → (g.mem.getD q default).up = true := by
    intro q hq
    by_cases e : q = p
    · subst e; rw [getD_set_self hq]; intro h; cases h
    · rw [getD_set_ne e]; exact fun h => h
  have hn := hW.n1
  refine ⟨wf_set hW rfl (hW.at i1) ⟨q, hq, by rw [getD_set_ne hqp]; exact hqu⟩, fun ho r hr hru => ?_, fun r hr hru => ?_⟩
  · have hr' : r < g.mem.length := by simpa using hr
    show hst (List.getD (g.mem.set p { g.mem.getD p default with up := false }) r default).copy = hst (List.getD (g.mem.set p { g.mem.getD p default with up := false }) 0 default).copy
    rw [hcp r hr', hcp 0 (by omega)]
    exact hO ho r hr' (hup r hr' hru)
  · have hr' : r < g.mem.length := by simpa using hr
    refine ⟨r, hr', hup r hr' hru, ?_⟩
    show hst (List.getD (g.mem.set p { g.mem.getD p default with up := false }) r default).copy = _
    rw [hcp r hr']
theorem cn_stamp {c : CopyT} {e : Int} (h : Cn c) (h0 : 0 ≤ e) (h1 : e ≤ 1099511627776) : Cn { c with se := e, sv := 0 } := by
  have hv := valid_stamp h.v h0 h1
  exact ⟨hv, smallC_of h.small hv rfl rfl, h.out, h.inn⟩
theorem keep_take (hW : WfN i g) (he : (takeG g).2 = 0) : KeepN i g (takeG g).1 := by
  obtain ⟨p, _, hp, _, hu, _, hr, e⟩ := take_inv he
  obtain ⟨r1, r2, r3⟩ := renew_one' hr
  have r4 := stamp_of.1 r1
  rw [e, r2]
  refine ⟨⟨hW.num, by rw [taken_len hp]; exact hW.n1, by rw [taken_len hp]; exact hW.n5, taken_uniq hp hW.uniq, ?_, 0, by rw [taken_len hp]; have := hW.n1; omega, by rw [taken_get hp (by omega)]; exact hu⟩, fun ho => (by cases ho), fun q hq hqu => ?_⟩
  · intro m hm
    simp only [takenL, List.mem_cons, List.mem_append] at hm
    rcases hm with rfl | hm | hm
    · exact cn_stamp (hW.at hp) (by omega) (by omega)
    · exact hW.all m (List.mem_of_mem_take hm)
    · exact hW.all m (List.mem_of_mem_drop hm)
  · simp only at hq hqu ⊢
    rw [taken_len hp] at hq
    rw [taken_get hp hq] at hqu ⊢
    by_cases e0 : q = 0
    · rw [if_pos e0] at hqu ⊢
      exact ⟨p, hp, hu, rfl⟩
    · rw [if_neg e0] at hqu ⊢
      exact ⟨_, by split <;> omega, hqu, rfl⟩
theorem settleC_keep2 : ∀ (k : Nat) {c : CopyT}, (settleC k c).2 = 0 → (settleC k c).1.took = c.took ∧ (settleC k c).1.src = c.src
  | 0, c, _ => ⟨rfl, rfl⟩
  | k + 1, c, h => by
    unfold settleC at h ⊢
    split
    · exact ⟨rfl, rfl⟩
    · rename_i hp
      rw [if_neg hp] at h
      split
      · rename_i hc
        rw [if_pos hc] at h
        obtain ⟨e, _⟩ := commit_okC hc
        have := settleC_keep2 k h
        rw [e] at this ⊢
        exact this
      · rename_i hc
        rw [if_neg hc] at h
        exact absurd h hc
theorem settle_st {c : CopyT} (hc : Cn c) (h : (settleF c).2 = 0) : Cn (settleF c).1 ∧ hst (settleF c).1 = hst c := by
  obtain ⟨_, hv, h2, h3, _, _, h6, h7⟩ := settle_keep h
  have h8 : (settleF c).1.took = c.took ∧ (settleF c).1.src = c.src := by
    unfold settleF at h ⊢
    rw [if_neg (by rw [hc.v]; simp)] at h ⊢
    exact settleC_keep2 _ h
  refine ⟨⟨hv, smallC_of hc.small hv h6 h7, by rw [h6]; exact hc.out, by rw [h7]; exact hc.inn⟩, ?_⟩
  unfold hst
  rw [h2, h6, h7, h8.1, h8.2]
theorem keep_finish (hW : WfN i g) (he : (finishG g).2 = 0) : KeepN i g (finishG g).1.1 := by
  obtain ⟨h1, h2, h3, h4, h5⟩ := finish_inv he
  obtain ⟨k1, k2⟩ := own_of h1
  obtain ⟨_, _, k6⟩ := ready_inv h3
  rw [h5]
  rw [k1] at h4 k6 ⊢
  obtain ⟨hc, hs⟩ := settle_st hW.own h4
  have hn := hW.n1
  obtain ⟨w, _, sb⟩ := keep_own hW (fun ho => by rw [h2] at ho; cases ho) k2 hc hs
  refine ⟨wf_opn w, fun _ p hp hpu => ?_, sb⟩
  have hp' : p < g.mem.length := by simpa [openG, withG] using hp
  have e0 : own0 (openG g (settleF (own0 g).copy).1) = { own0 g with copy := (settleF (own0 g).copy).1 } := getD_set_self (by omega)
  rw [e0]
  have hpu' : (List.getD (List.set g.mem 0 { g.mem.getD 0 default with copy := (settleF (own0 g).copy).1 }) p default).up = true := hpu
  show hst (List.getD (setCp g 0 (settleF (own0 g).copy).1) p default).copy = hst (settleF (own0 g).copy).1
  rcases setc_cases (g := g) (p := 0) (c := (settleF (own0 g).copy).1) hp' with ⟨e1, e⟩ | ⟨e1, e⟩
  · rw [e]
  · rw [e] at hpu' ⊢
    rw [hs]
    exact same_st (hW.at hp') hW.own (k6 p (by omega) hp' hpu')
theorem keep_rec {ms : List MemT} : ∀ {g : GrpT}, WfN i g → OpenEq g → (recL ms g).2 = 0 → KeepN i g (recL ms g).1 := by
  induction ms with
  | nil => intro g h1 h2 _; exact ⟨h1, h2, SubN.refl g⟩
  | cons m ms ih =>
    intro g h1 h2 he
    unfold recL at he ⊢
    by_cases hu : m.up = true
    · rw [if_pos hu] at he ⊢
      by_cases hr : (replicateG g m.id).2 = 0
      · rw [if_neg (fun h => h hr)] at he ⊢
        have k := keep_replicate h1 h2 hr
        exact k.trans (ih k.wf k.oeq he)
      · rw [if_pos hr] at he
        exact absurd he hr
    · rw [if_neg hu] at he ⊢
      exact ih h1 h2 he
theorem keep_rec2 (hW : WfN i g) (hO : OpenEq g) (he : (rec2 g).2 = 0) : KeepN i g (rec2 g).1.1 := by
  unfold rec2 at he ⊢
  by_cases hr : (recAt g.mem 1 g).2 = 0
  · rw [if_neg (fun h => h hr)] at he ⊢
    have k := keep_rec (ms := g.mem.drop 1) hW hO hr
    exact k.trans (keep_finish k.wf he)
  · rw [if_pos hr] at he
    exact absurd he hr
theorem keep_recover (hW : WfN i g) (hO : OpenEq g) (he : (recoverG g).2 = 0) : KeepN i g (recoverG g).1.1 := by
  unfold recoverG at he ⊢
  split at he
  · rename_i hd
    rw [if_pos hd]
    by_cases ht : (takeG g).2 = 0
    · rw [if_neg (fun h => h ht)] at he ⊢
      have k := keep_take hW ht
      exact k.trans (keep_rec2 k.wf k.oeq he)
    · rw [if_pos ht] at he
      exact absurd he ht
  · rename_i hd
    rw [if_neg hd]
    split at he
    · cases he
    · rename_i h2
      rw [if_neg h2]
      exact keep_rec2 hW hO he
end
end Go.Sx

namespace Go.Sx
open Go
def ChN (gs : List GrpT) (cs : Nat → HSt) : Prop := ∀ i, i < gs.length → ∃ p, p < (gs.getD i default).mem.length ∧ ((gs.getD i default).mem.getD p default).up = true ∧ cs i = hst ((gs.getD i default).mem.getD p default).copy
structure InvN (N : Int) (gs : List GrpT) : Prop where
  N0 : 0 ≤ N
  wf : ∀ i, i < gs.length → WfN i (gs.getD i default)
  oeq : ∀ i, i < gs.length → OpenEq (gs.getD i default)
  good : ∀ cs, ChN gs cs → GoodN gs.length N cs
theorem getD_setG {gs : List GrpT} {i j : Nat} {h : GrpT} (hj : j < gs.length) : (gs.set i h).getD j default = if j = i then h else gs.getD j default := by
  by_cases e : j = i
  · subst e; rw [if_pos rfl]; simp [List.getD, hj]
  · rw [if_neg e]; simp [List.getD, List.getElem?_set_ne (Ne.symm e)]
theorem updS_id {cs : Nat → HSt} {i : Nat} {s : HSt} (h : cs i = s) : updS cs i s = cs := by
  funext j
  by_cases e : j = i
  · subst e; rw [updS_self, h]
  · rw [updS_ne e]
theorem updS_upd {cs : Nat → HSt} {i : Nat} {s t : HSt} : updS (updS cs i s) i t = updS cs i t := by
  funext j
  by_cases e : j = i
  · subst e; rw [updS_self, updS_self]
  · rw [updS_ne e, updS_ne e, updS_ne e]
theorem InvN.ch {N : Int} {gs : List GrpT} (h : InvN N gs) : ∃ cs, ChN gs cs := by
  have : ∀ i, ∃ s : HSt, i < gs.length → ∃ p, p < (gs.getD i default).mem.length ∧ ((gs.getD i default).mem.getD p default).up = true ∧ s = hst ((gs.getD i default).mem.getD p default).copy := by
    intro i
    by_cases hi : i < gs.length
    · obtain ⟨p, hp, hu⟩ := (h.wf i hi).up
      exact ⟨_, fun _ => ⟨p, hp, hu, rfl⟩⟩
    · exact ⟨hst default, fun h => absurd h hi⟩
  exact ⟨fun i => (this i).choose, fun i hi => (this i).choose_spec hi⟩
theorem inv_keep {N : Int} {gs : List GrpT} {i : Nat} {h : GrpT} (hI : InvN N gs) (hi : i < gs.length) (hk : KeepN i (gs.getD i default) h) : InvN N (gs.set i h) := by
  refine ⟨hI.N0, fun j hj => ?_, fun j hj => ?_, fun cs hc => ?_⟩
  · rw [List.length_set] at hj
    rw [getD_setG hj]
    split
    · rename_i e; subst e; exact hk.wf
    · exact hI.wf j hj
  · rw [List.length_set] at hj
    rw [getD_setG hj]
    split
    · exact hk.oeq
    · exact hI.oeq j hj
  · rw [List.length_set]
    refine hI.good cs fun j hj => ?_
    obtain ⟨p, hp, hu, e⟩ := hc j (by rw [List.length_set]; exact hj)
    rw [getD_setG hj] at hp hu e
    by_cases e2 : j = i
    · rw [if_pos e2] at hp hu e
      subst e2
      obtain ⟨q, hq, hqu, e3⟩ := hk.sub p hp hu
      exact ⟨q, hq, hqu, e.trans e3⟩
    · rw [if_neg e2] at hp hu e
      exact ⟨p, hp, hu, e⟩
theorem close_get {g : GrpT} {c : CopyT} {p : Nat} (hp : p < g.mem.length) : (closeG g c).mem.getD p default = if p = 0 then { own0 g with copy := c } else g.mem.getD p default := by
  show List.getD (List.set _ _ _) _ _ = _
  by_cases e : p = 0
  · subst e; rw [if_pos rfl, getD_set_self hp]
  · rw [if_neg e, getD_set_ne e]
theorem close_len {g : GrpT} {c : CopyT} : (closeG g c).mem.length = g.mem.length := by
  show (List.set _ _ _).length = _
  rw [List.length_set]
theorem inv_close {N M : Int} {gs : List GrpT} {i : Nat} {c : CopyT} (hI : InvN N gs) (hm : N ≤ M) (hi : i < gs.length) (hu : (own0 (gs.getD i default)).up = true) (hc : Cn c)
    (hs : ∀ cs, ChN gs cs → cs i = hst (own0 (gs.getD i default)).copy → GoodN gs.length M (updS cs i (hst c))) : InvN M (gs.set i (closeG (gs.getD i default) c)) := by
  have hW := hI.wf i hi
  have hn := hW.n1
  refine ⟨by have := hI.N0; omega, fun j hj => ?_, fun j hj => ?_, fun cs hcs => ?_⟩
  · rw [List.length_set] at hj
    rw [getD_setG hj]
    split
    · rename_i e; subst e; exact wf_opn (wf_with hW hc)
    · exact hI.wf j hj
  · rw [List.length_set] at hj
    rw [getD_setG hj]
    split
    · intro ho; cases ho
    · exact hI.oeq j hj
  · rw [List.length_set]
    have hc' : ∀ j, j < gs.length → j ≠ i → ∃ p, p < (gs.getD j default).mem.length ∧ ((gs.getD j default).mem.getD p default).up = true ∧ cs j = hst ((gs.getD j default).mem.getD p default).copy := by
      intro j hj e2
      obtain ⟨p, hp, hu, e⟩ := hcs j (by rw [List.length_set]; exact hj)
      rw [getD_setG hj, if_neg e2] at hp hu e
      exact ⟨p, hp, hu, e⟩
    obtain ⟨p, hp, hpu, e⟩ := hcs i (by rw [List.length_set]; exact hi)
    rw [getD_setG hi, if_pos rfl] at hp hpu e
    rw [close_len] at hp
    rw [close_get hp] at hpu e
    by_cases e0 : p = 0
    · rw [if_pos e0] at e
      have hch : ChN gs (updS cs i (hst (own0 (gs.getD i default)).copy)) := by
        intro j hj
        by_cases e2 : j = i
        · subst e2; exact ⟨0, by omega, hu, updS_self⟩
        · rw [updS_ne e2]; exact hc' j hj e2
      have := hs _ hch updS_self
      rw [updS_upd, updS_id e] at this
      exact this
    · rw [if_neg e0] at hpu e
      refine (hI.good cs fun j hj => ?_).mono hm
      by_cases e2 : j = i
      · subst e2; exact ⟨p, hp, hpu, e⟩
      · exact hc' j hj e2
theorem renewL_ok : ∀ {l : List (Int × Int)} {m : Int}, (renewL m l).2 = 0 → 0 ≤ m → m ≤ 1099511627776 → m < (renewL m l).1 ∧ (renewL m l).1 ≤ 1099511627776 ∧ ∀ s ∈ l, s.1 < (renewL m l).1
  | [], m, h, h0, h1 => by
    unfold renewL at h ⊢
    split at h
    · cases h
    · rename_i h2
      rw [if_neg h2]
      exact ⟨by simp only; omega, by simp only; omega, by simp⟩
  | s :: l, m, h, h0, h1 => by
    unfold renewL at h ⊢
    split at h
    · rename_i hs
      rw [if_pos hs]
      have hs' := stamp_of.1 hs
      have ih := renewL_ok h (by split <;> omega) (by split <;> omega)
      obtain ⟨i1, i2, i3⟩ := ih
      refine ⟨?_, i2, fun x hx => ?_⟩
      · split at i1 <;> split <;> omega
      · rcases List.mem_cons.1 hx with rfl | hx
        · split at i1 <;> split <;> omega
        · exact i3 x hx
    · cases h
theorem renew_ok {l : List (Int × Int)} (h : (renewF l).2 = 0) : 0 < (renewF l).1 ∧ (renewF l).1 ≤ 1099511627776 ∧ ∀ s ∈ l, s.1 < (renewF l).1 := by
  unfold renewF renewAt at *
  rw [List.drop_zero] at *
  exact renewL_ok h (by omega) (by omega)
/-- what Change makes of a copy -/
theorem change_is {g : GrpT} {c : CopyT} {l : List (Int × Int)} (he : (changeG g c l).2 = 0) (hsm : SmallC c) (ho : c.out.serial = 0 → c.out = noPart) (hn : c.inn.serial = 0 → c.inn = noPart) :
    (own0 g).up = true ∧ g.opn = true ∧ ∃ e, (own0 g).copy.se < e ∧ (∀ s ∈ l, s.1 < e) ∧ e ≤ 1099511627776 ∧ Cn { c with se := e, sv := 0 } ∧ (changeG g c l).1 = closeG g { c with se := e, sv := 0 } ∧ (renewF (((own0 g).copy.se, (own0 g).copy.sv) :: l)).1 = e := by
  obtain ⟨h1, h2, h3, h4, h5⟩ := change_inv he
  obtain ⟨k1, k2⟩ := own_of h1
  rw [k1] at h4 h5
  obtain ⟨r1, r2, r3⟩ := renew_ok h4
  refine ⟨k2, h2, _, r3 _ List.mem_cons_self, fun s hs => r3 s (List.mem_cons_of_mem _ hs), r2, ?_, h5, rfl⟩
  have hv := valid_stamp h3 (e := (renewF (((own0 g).copy.se, (own0 g).copy.sv) :: l)).1) (by omega) r2
  exact ⟨hv, smallC_of hsm hv rfl rfl, ho, hn⟩
theorem freeze_inv {f : GrpT} {bk : List UInt8} {bt : Bool} {side ser to_ : Int} (he : (freezeG f bk bt side ser to_).2 = 0) : (ownerG f).2 = true ∧ (detachC (own0 f).copy bk bt side ser f.num to_).2 = 0 ∧
    (changeG f (detachC (own0 f).copy bk bt side ser f.num to_).1 []).2 = 0 ∧ (freezeG f bk bt side ser to_).1 = (changeG f (detachC (own0 f).copy bk bt side ser f.num to_).1 []).1 := by
  unfold freezeG at he ⊢
  split at he
  · cases he
  · rename_i h1
    split at he
    · cases he
    · rename_i h2
      split at he
      · rename_i h3; exact absurd he h3
      · rename_i h3
        have h1' : (ownerG f).2 = true := by simpa using h1
        obtain ⟨k1, k2⟩ := own_of h1'
        rw [if_neg h1, if_neg h2, if_neg h3]
        rw [k1] at he h3 ⊢
        exact ⟨h1', Classical.not_not.1 h3, he, rfl⟩
theorem both_inv {f t : GrpT} (h : ¬ bothG f t = false) : (ownerG f).2 = true ∧ (ownerG t).2 = true := by
  unfold bothG at h
  simpa using h
theorem deliver_inv {f t : GrpT} (he : (deliverG f t).2 = 0) : (ownerG f).2 = true ∧ (ownerG t).2 = true ∧ f.opn = true ∧ (own0 f).copy.out.serial ≠ 0 ∧ t.opn = true ∧ quietC (own0 t).copy = true ∧ t.num = (own0 f).copy.out.dst ∧
    (changeG t { (own0 t).copy with inn := (own0 f).copy.out } []).2 = 0 ∧ (deliverG f t).1 = (changeG t { (own0 t).copy with inn := (own0 f).copy.out } []).1 := by
  unfold deliverG at he ⊢
  split at he
  · cases he
  · rename_i h1
    split at he
    · cases he
    · rename_i h2
      split at he
      · cases he
      · rename_i h3
        split at he
        · cases he
        · rename_i h4
          obtain ⟨g1, g2⟩ := both_inv h1
          obtain ⟨k1, k2⟩ := own_of g1
          obtain ⟨k3, k4⟩ := own_of g2
          rw [if_neg h1, if_neg h2, if_neg h3, if_neg h4]
          simp only [k1, k3] at h2 h3 h4 he ⊢
          simp only [Bool.not_eq_false, Bool.and_eq_true, Bool.not_eq_true', beq_eq_false_iff_ne, ne_eq] at h2
          exact ⟨g1, g2, h2.1, h2.2.1, h2.2.2.1, h2.2.2.2, Classical.not_not.1 h3, he, trivial⟩
theorem install_inv {t : GrpT} (he : (installG t).2 = 0) : (ownerG t).2 = true ∧ (attachC (own0 t).copy).2 = 0 ∧ (changeG t (attachC (own0 t).copy).1 [((own0 t).copy.inn.se, (own0 t).copy.inn.sv)]).2 = 0 ∧
    (installG t).1 = (changeG t (attachC (own0 t).copy).1 [((own0 t).copy.inn.se, (own0 t).copy.inn.sv)]).1 := by
  unfold installG at he ⊢
  split at he
  · cases he
  · rename_i h1
    split at he
    · cases he
    · rename_i h2
      split at he
      · rename_i h3; exact absurd he h3
      · rename_i h3
        have h1' : (ownerG t).2 = true := by simpa using h1
        obtain ⟨k1, k2⟩ := own_of h1'
        rw [if_neg h1, if_neg h2, if_neg h3]
        rw [k1] at he h3 ⊢
        exact ⟨h1', Classical.not_not.1 h3, he, rfl⟩
theorem three_inv {a b : Bool} {n : Int} (h : ¬ (a && (b && !(n == 0))) = false) : a = true ∧ b = true ∧ n ≠ 0 := by
  simpa using h
theorem release_inv {f t : GrpT} (he : (releaseG f t).2 = 0) : (ownerG f).2 = true ∧ (ownerG t).2 = true ∧ t.opn = true ∧ (own0 f).copy.out.serial ≠ 0 ∧ t.num = (own0 f).copy.out.dst ∧ (own0 f).copy.out.serial = (own0 t).copy.took ∧
    (changeG f { (own0 f).copy with out := noPart } []).2 = 0 ∧ (releaseG f t).1 = (changeG f { (own0 f).copy with out := noPart } []).1 := by
  unfold releaseG at he ⊢
  split at he
  · cases he
  · rename_i h1
    split at he
    · cases he
    · rename_i h2
      split at he
      · cases he
      · rename_i h3
        split at he
        · cases he
        · rename_i h4
          obtain ⟨g1, g2⟩ := both_inv h1
          obtain ⟨k1, k2⟩ := own_of g1
          obtain ⟨k3, k4⟩ := own_of g2
          rw [if_neg h1, if_neg h2, if_neg h3, if_neg h4]
          simp only [k1, k3] at h2 h3 h4 he ⊢
          obtain ⟨_, h5, h6⟩ := three_inv h2
          exact ⟨g1, g2, h5, h6, Classical.not_not.1 h3, Classical.not_not.1 h4, he, trivial⟩
theorem forget_inv {f t : GrpT} (he : (forgetG t f).2 = 0) : (ownerG t).2 = true ∧ (ownerG f).2 = true ∧ f.opn = true ∧ (own0 t).copy.took ≠ 0 ∧ f.num = (own0 t).copy.src ∧ (own0 f).copy.out.serial ≠ (own0 t).copy.took ∧
    (changeG t { (own0 t).copy with took := 0, src := 0 } []).2 = 0 ∧ (forgetG t f).1 = (changeG t { (own0 t).copy with took := 0, src := 0 } []).1 := by
  unfold forgetG at he ⊢
  split at he
  · cases he
  · rename_i h1
    split at he
    · cases he
    · rename_i h2
      split at he
      · cases he
      · rename_i h3
        split at he
        · cases he
        · rename_i h4
          obtain ⟨g1, g2⟩ := both_inv h1
          obtain ⟨k1, k2⟩ := own_of g1
          obtain ⟨k3, k4⟩ := own_of g2
          rw [if_neg h1, if_neg h2, if_neg h3, if_neg h4]
          simp only [k1, k3] at h2 h3 h4 he ⊢
          obtain ⟨h7, h5, h6⟩ := three_inv h2
          exact ⟨g1, g2, h7, h6, Classical.not_not.1 h3, h4, he, trivial⟩
theorem refuse_inv {t : GrpT} (he : (refuseG t).2 = 0) : (ownerG t).2 = true ∧ (changeG t { (own0 t).copy with inn := noPart } []).2 = 0 ∧ (refuseG t).1 = (changeG t { (own0 t).copy with inn := noPart } []).1 := by
  unfold refuseG at he ⊢
  split at he
  · cases he
  · rename_i h1
    split at he
    · cases he
    · rename_i h2
      have h1' : (ownerG t).2 = true := by simpa using h1
      obtain ⟨k1, k2⟩ := own_of h1'
      rw [if_neg h1, if_neg h2]
      simp only [k1] at he ⊢
      exact ⟨h1', he, trivial⟩
theorem thaw_inv {f t : GrpT} (he : (thawG f t).2 = 0) : (ownerG f).2 = true ∧ (ownerG t).2 = true ∧ t.opn = true ∧ (own0 f).copy.out.serial ≠ 0 ∧ t.num = (own0 f).copy.out.dst ∧ (own0 f).copy.out.serial ≠ (own0 t).copy.inn.serial ∧ (own0 f).copy.out.serial ≠ (own0 t).copy.took ∧
    (reattachC (own0 f).copy).2 = 0 ∧ (changeG f (reattachC (own0 f).copy).1 []).2 = 0 ∧ (thawG f t).1 = (changeG f (reattachC (own0 f).copy).1 []).1 := by
  unfold thawG at he ⊢
  split at he
  · cases he
  · rename_i h1
    split at he
    · cases he
    · rename_i h2
      split at he
      · cases he
      · rename_i h3
        split at he
        · cases he
        · rename_i h4
          split at he
          · rename_i h5; exact absurd he h5
          · rename_i h5
            obtain ⟨g1, g2⟩ := both_inv h1
            obtain ⟨k1, k2⟩ := own_of g1
            obtain ⟨k3, k4⟩ := own_of g2
            rw [if_neg h1, if_neg h2, if_neg h3, if_neg h4, if_neg h5]
            simp only [k1, k3] at h2 h3 h4 h5 he ⊢
            obtain ⟨h7, h8, h6⟩ := three_inv h2
            exact ⟨g1, g2, h8, h6, Classical.not_not.1 h3, fun e => h4 (.inl e), fun e => h4 (.inr e), Classical.not_not.1 h5, he, trivial⟩
theorem detach_inv {c : CopyT} {bk : List UInt8} {bt : Bool} {side ser frm to_ : Int} (he : (detachC c bk bt side ser frm to_).2 = 0) : detOk c bk bt side ser frm to_ = true ∧ quietC c = true ∧ detBad c bk bt side = false ∧ (detachC c bk bt side ser frm to_).1 = detNew c bk bt side ser frm to_ := by
  unfold detachC at he ⊢
  split at he
  · cases he
  · rename_i h1
    split at he
    · cases he
    · rename_i h2
      split at he
      · cases he
      · rename_i h3
        rw [if_neg h1, if_neg h2, if_neg h3]
        exact ⟨by simpa using h1, by simpa using h2, by simpa using h3, rfl⟩
theorem quiet_inv {c : CopyT} (h : quietC c = true) : c.pend.length = 0 ∧ c.out.serial = 0 ∧ c.inn.serial = 0 ∧ c.took = 0 := by
  simpa only [quietC, Bool.and_eq_true, decide_eq_true_eq, beq_iff_eq] using h
theorem c_rng {c : CopyT} (h : validR' c.rng = true) : validR' (mkR c.lo c.hi) = true := h
theorem p_rng {p : PartT} (h : validR' p.rng = true) : validR' (mkR p.lo p.hi) = true := h
/-- a range is cut in two -/
theorem det_ranges {c : CopyT} {bk : List UInt8} {bt : Bool} {side ser frm to_ : Int} (h1 : detOk c bk bt side ser frm to_ = true) (h3 : detBad c bk bt side = false) :
    (∀ k, hasR c.rng k = true ↔ hasR (restR c bk bt side) k = true ∨ hasR (partR c bk bt side) k = true) ∧ (∀ k, ¬ (hasR (restR c bk bt side) k = true ∧ hasR (partR c bk bt side) k = true)) := by
  simp only [detOk, Bool.and_eq_true] at h1
  obtain ⟨hv, hb, _⟩ := h1
  simp only [detBad, Bool.or_eq_false_iff, decide_eq_false_iff_not] at h3
  obtain ⟨h4, h5, _⟩ := h3
  obtain ⟨g1, g2, _⟩ := validR_iff.1 (c_rng (valid_head hv).1)
  have v1 : validR' (mkR c.lo (bk, bt)) = true := validR_iff.2 ⟨g1, hb, by rw [cmp_le_not]; exact h4⟩
  have v2 : validR' (mkR (bk, bt) c.hi) = true := validR_iff.2 ⟨hb, g2, by show cmpB bk bt c.hk c.ht ≤ 0; omega⟩
  have := fun k => has_split (k := k) v1 v2
  unfold restR partR
  by_cases hs : side = 0
  · rw [if_pos hs, if_pos hs]
    exact ⟨fun k => (this k).1.trans or_comm, fun k hh => (this k).2 ⟨hh.2, hh.1⟩⟩
  · rw [if_neg hs, if_neg hs]
    exact ⟨fun k => (this k).1, fun k => (this k).2⟩
/-- what joining a part makes of a copy -/
theorem join_is {c : CopyT} {p : PartT} (hp : p = c.out ∨ p = c.inn) (he : (joinC c p).2 = 0) : validC c = true ∧ p.serial ≠ 0 ∧ c.pend.length = 0 ∧ ∃ r : Rng, ∃ rows, (joinC c p).1 = { c with lk := r.1, lt := r.2.1, hk := r.2.2.1, ht := r.2.2.2, rows := rows } ∧ (rows = p.rows ++ c.rows ∨ rows = c.rows ++ p.rows) ∧
    (∀ k, hasR r k = true ↔ hasR c.rng k = true ∨ hasR p.rng k = true) ∧ rows.length = c.rows.length + p.rows.length ∧ validR' r = true := by
  unfold joinC at he ⊢
  split at he
  · cases he
  · rename_i h1
    split at he
    · cases he
    · rename_i h2
      have hv : validC c = true := by simpa using h1
      have hs : p.serial ≠ 0 := fun e => h2 (.inl e)
      have hpv := p_rng (validPart_rng (part_valid hv p hp hs).1)
      have hrv := c_rng (valid_head hv).1
      obtain ⟨g1, g2, _⟩ := validR_iff.1 hrv
      obtain ⟨g3, g4, _⟩ := validR_iff.1 hpv
      refine ⟨hv, hs, by omega, ?_⟩
      split at he
      · rename_i h3
        split at he
        · cases he
        · rename_i h4
          rw [if_neg h1, if_neg h2, if_pos h3, if_neg h4]
          have e := cmp_eq (a := p.hi) (b := c.lo) g4 g1 h3
          have hpv' : validR' (mkR p.lo c.lo) = true := by rw [← e]; exact hpv
          refine ⟨mkR p.lo c.hi, p.rows ++ c.rows, rfl, .inl rfl, fun k => ?_, by simp only [List.length_append]; omega, ?_⟩
          · have := (has_split (k := k) hpv' hrv).1
            rw [this, prng, e]
            exact or_comm
          · obtain ⟨_, _, l1⟩ := validR_iff.1 hpv'
            obtain ⟨_, _, l2⟩ := validR_iff.1 hrv
            exact validR_iff.2 ⟨g3, g2, cmp_le_trans l1 l2⟩
      · rename_i h3
        split at he
        · rename_i h5
          split at he
          · cases he
          · rename_i h4
            rw [if_neg h1, if_neg h2, if_neg h3, if_pos h5, if_neg h4]
            have e := cmp_eq (a := p.lo) (b := c.hi) g3 g2 h5
            have hpv' : validR' (mkR c.hi p.hi) = true := by rw [← e]; exact hpv
            refine ⟨mkR c.lo p.hi, c.rows ++ p.rows, rfl, .inr rfl, fun k => ?_, by simp only [List.length_append], ?_⟩
            · have := (has_split (k := k) hrv hpv').1
              rw [this, prng, e]
              exact Iff.rfl
            · obtain ⟨_, _, l1⟩ := validR_iff.1 hpv'
              obtain ⟨_, _, l2⟩ := validR_iff.1 hrv
              exact validR_iff.2 ⟨g1, g4, cmp_le_trans l2 l1⟩
        · cases he
theorem attach_is {c : CopyT} (he : (attachC c).2 = 0) : (joinC c c.inn).2 = 0 ∧ (attachC c).1 = { (joinC c c.inn).1 with took := c.inn.serial, src := c.inn.src, inn := noPart } := by
  unfold attachC at he ⊢
  split at he
  · rename_i h; rw [if_pos h]; exact ⟨h, rfl⟩
  · rename_i h; exact absurd he h
theorem reattach_is {c : CopyT} (he : (reattachC c).2 = 0) : (joinC c c.out).2 = 0 ∧ (reattachC c).1 = { (joinC c c.out).1 with out := noPart } := by
  unfold reattachC at he ⊢
  split at he
  · rename_i h; rw [if_pos h]; exact ⟨h, rfl⟩
  · rename_i h; exact absurd he h
section
variable {N : Int} {gs : List GrpT} {i j : Nat}
theorem open_ch (hI : InvN N gs) {cs : Nat → HSt} (hc : ChN gs cs) (hj : j < gs.length) (ho : (gs.getD j default).opn = true) : cs j = hst (own0 (gs.getD j default)).copy := by
  obtain ⟨p, hp, hu, e⟩ := hc j hj
  rw [e]
  exact hI.oeq j hj ho p hp hu
theorem inv_freeze {bk : List UInt8} {bt : Bool} {side to_ : Int} (hI : InvN N gs) (hi : i < gs.length) (he : (freezeG (gs.getD i default) bk bt side (N + 1) to_).2 = 0) : InvN (N + 1) (gs.set i (freezeG (gs.getD i default) bk bt side (N + 1) to_).1) := by
  obtain ⟨_, h2, h3, h4⟩ := freeze_inv he
  obtain ⟨d1, d2, d3, d4⟩ := detach_inv h2
  have hW := hI.wf i hi
  have hN := hI.N0
  obtain ⟨q1, q2, q3, q4⟩ := quiet_inv d2
  rw [d4] at h3 h4
  have hsm : SmallC (detNew (own0 (gs.getD i default)).copy bk bt side (N + 1) (gs.getD i default).num to_) := by rw [← d4]; exact det_small hW.own.small
  obtain ⟨u, _, e, _, _, _, hc, h5, _⟩ := change_is h3 hsm (fun h => by simp only [detNew] at h; omega) hW.own.inn
  rw [h4, h5]
  obtain ⟨r1, r2⟩ := det_ranges d1 d3
  refine inv_close hI (by omega) hi u hc fun cs hcs hci => ?_
  have := good_freeze (p := (detNew (own0 (gs.getD i default)).copy bk bt side (N + 1) (gs.getD i default).num to_).out) (r := restR (own0 (gs.getD i default)).copy bk bt side) (hI.good cs hcs) hN hi (by rw [hci]; exact q2) (by rw [hci]; exact q3) (by rw [hci]; exact q4) rfl hW.num
    (fun k => by rw [hci]; exact r1 k) r2
  rw [hci] at this
  exact this
theorem inv_deliver (hI : InvN N gs) (hi : i < gs.length) (hj : j < gs.length) (he : (deliverG (gs.getD j default) (gs.getD i default)).2 = 0) : InvN N (gs.set i (deliverG (gs.getD j default) (gs.getD i default)).1) := by
  obtain ⟨_, _, h1, h2, h3, h4, h5, h6, h7⟩ := deliver_inv he
  have hW := hI.wf i hi
  have hWj := hI.wf j hj
  obtain ⟨q1, q2, q3, q4⟩ := quiet_inv h4
  have hsm := hW.own.small
  obtain ⟨u, _, e, _, _, _, hc, h8, _⟩ := change_is h6 ⟨hsm.1, hsm.2.1, hsm.2.2.1, hWj.own.small.2.2.1⟩ hW.own.out (fun h => absurd h h2)
  rw [h7, h8]
  refine inv_close hI (by omega) hi u hc fun cs hcs hci => ?_
  have hcj := open_ch hI hcs hj h1
  have hG := hI.good cs hcs
  have := good_inn (p := (own0 (gs.getD j default)).copy.out) hG hi fun _ => ⟨by rw [hci]; exact q2, by rw [hci]; exact q4, by rw [← h5, hW.num], j, hj, ?_, by rw [hcj]; rfl⟩
  · rw [hci] at this; exact this
  · have := (hG.out j hj (by rw [hcj]; exact h2)).1
    rw [hcj] at this; exact this
theorem inv_install (hI : InvN N gs) (hi : i < gs.length) (he : (installG (gs.getD i default)).2 = 0) : InvN N (gs.set i (installG (gs.getD i default)).1) := by
  obtain ⟨_, h2, h3, h4⟩ := install_inv he
  have hW := hI.wf i hi
  have hsm := att_small hW.own.small
  obtain ⟨a1, a2⟩ := attach_is h2
  obtain ⟨v, js, _, r, rows, j1, _, j3, _⟩ := join_is (.inr rfl) a1
  rw [a2, j1] at hsm h3 h4
  obtain ⟨u, _, e, _, _, _, hc, h8, _⟩ := change_is h3 hsm hW.own.out (fun _ => rfl)
  rw [h4, h8]
  refine inv_close hI (by omega) hi u hc fun cs hcs hci => ?_
  have := good_install (r := r) (hI.good cs hcs) hi (by rw [hci]; exact js) (fun k => by rw [hci]; exact j3 k)
  rw [hci] at this
  exact this
theorem inv_release (hI : InvN N gs) (hi : i < gs.length) (hj : j < gs.length) (he : (releaseG (gs.getD i default) (gs.getD j default)).2 = 0) : InvN N (gs.set i (releaseG (gs.getD i default) (gs.getD j default)).1) := by
  obtain ⟨_, _, h1, h2, h3, h4, h5, h6⟩ := release_inv he
  have hW := hI.wf i hi
  have hsm := hW.own.small
  obtain ⟨u, _, e, _, _, _, hc, h8, _⟩ := change_is h5 ⟨hsm.1, hsm.2.1, by simp [noPart], hsm.2.2.2⟩ (fun _ => rfl) hW.own.inn
  rw [h6, h8]
  refine inv_close hI (by omega) hi u hc fun cs hcs hci => ?_
  have hcj := open_ch hI hcs hj h1
  have := good_release (hI.good cs hcs) hi hj (by rw [hci]; exact h2) (by rw [hci]; show (own0 (gs.getD i default)).copy.out.dst = _; rw [← h3, (hI.wf j hj).num]) (by rw [hci, hcj]; exact h4)
  rw [hci] at this
  exact this
theorem inv_forget (hI : InvN N gs) (hi : i < gs.length) (hj : j < gs.length) (he : (forgetG (gs.getD i default) (gs.getD j default)).2 = 0) : InvN N (gs.set i (forgetG (gs.getD i default) (gs.getD j default)).1) := by
  obtain ⟨_, _, h1, h2, h3, h4, h5, h6⟩ := forget_inv he
  have hW := hI.wf i hi
  have hsm := hW.own.small
  obtain ⟨u, _, e, _, _, _, hc, h8, _⟩ := change_is h5 ⟨hsm.1, hsm.2.1, hsm.2.2.1, hsm.2.2.2⟩ hW.own.out hW.own.inn
  rw [h6, h8]
  refine inv_close hI (by omega) hi u hc fun cs hcs hci => ?_
  have hcj := open_ch hI hcs hj h1
  have := good_forget (m := j) (hI.good cs hcs) hI.N0 hi hj (by rw [hci]; exact h2) (by rw [hci]; show (own0 (gs.getD i default)).copy.src = _; rw [← h3, (hI.wf j hj).num]) (by rw [hci, hcj]; exact h4)
  rw [hci] at this
  exact this
theorem inv_refuse (hI : InvN N gs) (hi : i < gs.length) (he : (refuseG (gs.getD i default)).2 = 0) : InvN N (gs.set i (refuseG (gs.getD i default)).1) := by
  obtain ⟨_, h5, h6⟩ := refuse_inv he
  have hW := hI.wf i hi
  have hsm := hW.own.small
  obtain ⟨u, _, e, _, _, _, hc, h8, _⟩ := change_is h5 ⟨hsm.1, hsm.2.1, hsm.2.2.1, by simp [noPart]⟩ hW.own.out (fun _ => rfl)
  rw [h6, h8]
  refine inv_close hI (by omega) hi u hc fun cs hcs hci => ?_
  have := good_inn (p := noPart) (hI.good cs hcs) hi fun h => absurd rfl h
  rw [hci] at this
  exact this
theorem inv_thaw (hI : InvN N gs) (hi : i < gs.length) (hj : j < gs.length) (he : (thawG (gs.getD i default) (gs.getD j default)).2 = 0) : InvN N (gs.set i (thawG (gs.getD i default) (gs.getD j default)).1) := by
  obtain ⟨_, _, h1, h2, h3, h4, h4', h5, h6, h7⟩ := thaw_inv he
  have hW := hI.wf i hi
  have hsm := reatt_small hW.own.small
  obtain ⟨a1, a2⟩ := reattach_is h5
  obtain ⟨v, js, _, r, rows, j1, _, j3, _⟩ := join_is (.inl rfl) a1
  rw [a2, j1] at hsm h6 h7
  obtain ⟨u, _, e, _, _, _, hc, h8, _⟩ := change_is h6 hsm (fun _ => rfl) hW.own.inn
  rw [h7, h8]
  refine inv_close hI (by omega) hi u hc fun cs hcs hci => ?_
  have hcj := open_ch hI hcs hj h1
  have := good_thaw (r := r) (hI.good cs hcs) hi hj (by rw [hci]; exact h2) (by rw [hci]; show (own0 (gs.getD i default)).copy.out.dst = _; rw [← h3, (hI.wf j hj).num]) (by rw [hci, hcj]; exact h4) (by rw [hci, hcj]; exact h4') (fun k => by rw [hci]; exact j3 k)
  rw [hci] at this
  exact this
end
inductive HEv
  | freeze (bk : List UInt8) (bt : Bool) (side : Int) | deliver | install | release | forget | refuse | thaw | recover | replicate (id : Int) | crash (id : Int) | propose (w : Wr) | commit | none
def evG (N : Int) (gs : List GrpT) (i j : Nat) : HEv → GrpT × Int
  | .freeze bk bt side => freezeG (gs.getD i default) bk bt side (N + 1) (gs.getD j default).num
  | .deliver => deliverG (gs.getD j default) (gs.getD i default)
  | .install => installG (gs.getD i default)
  | .release => releaseG (gs.getD i default) (gs.getD j default)
  | .forget => forgetG (gs.getD i default) (gs.getD j default)
  | .refuse => refuseG (gs.getD i default)
  | .thaw => thawG (gs.getD i default) (gs.getD j default)
  | .recover => ((recoverG (gs.getD i default)).1.1, (recoverG (gs.getD i default)).2)
  | .replicate id => replicateG (gs.getD i default) id
  | .crash id => if 1 < (liveL (gs.getD i default).mem).length then crashG (gs.getD i default) id else (gs.getD i default, 7)
  | .propose w => proposeG (gs.getD i default) w
  | .commit => ((commitG (gs.getD i default)).1.1, (commitG (gs.getD i default)).2)
  | .none => (gs.getD i default, 7)
def evN (N : Int) : HEv → Int
  | .freeze _ _ _ => N + 1
  | _ => N
def evS (N : Int) (gs : List GrpT) (i j : Nat) (e : HEv) : List GrpT := if (evG N gs i j e).2 = 0 then gs.set i (evG N gs i j e).1 else gs
theorem evS_len {N : Int} {gs : List GrpT} {i j : Nat} {e : HEv} : (evS N gs i j e).length = gs.length := by
  unfold evS
  split
  · rw [List.length_set]
  · rfl
theorem InvN.mono {N M : Int} {gs : List GrpT} (h : InvN N gs) (hm : N ≤ M) : InvN M gs := ⟨by have := h.N0; omega, h.wf, h.oeq, fun cs hc => (h.good cs hc).mono hm⟩
theorem evN_le {N : Int} {e : HEv} : N ≤ evN N e ∧ evN N e ≤ N + 1 := by
  cases e <;> simp only [evN] <;> omega
theorem inv_ev {N : Int} {gs : List GrpT} {i j : Nat} {e : HEv} (hI : InvN N gs) (hi : i < gs.length) (hj : j < gs.length) : InvN (evN N e) (evS N gs i j e) := by
  unfold evS
  split
  · rename_i he
    have hW := hI.wf i hi
    have hO := hI.oeq i hi
    cases e with
    | freeze bk bt side => exact inv_freeze hI hi he
    | deliver => exact inv_deliver hI hi hj he
    | install => exact inv_install hI hi he
    | release => exact inv_release hI hi hj he
    | forget => exact inv_forget hI hi hj he
    | refuse => exact inv_refuse hI hi he
    | thaw => exact inv_thaw hI hi hj he
    | recover => exact inv_keep hI hi (keep_recover hW hO he)
    | replicate id => exact inv_keep hI hi (keep_replicate hW hO he)
    | crash id =>
      simp only [evG] at he ⊢
      split at he
      · rename_i hl
        rw [if_pos hl]
        exact inv_keep hI hi (keep_crash hW hO hl he)
      · cases he
    | propose w => exact inv_keep hI hi (keep_propose hW hO he)
    | commit => exact inv_keep hI hi (keep_commit hW hO he)
    | none => cases he
  · exact hI.mono evN_le.1
end Go.Sx

namespace Go.Sx
open Go
structure FreshC (T0 : List Row) (c : CopyT) (a b : Bnd) : Prop where
  v : validC c = true
  small : SmallC c
  lo : c.lo = a
  hi : c.hi = b
  ne : emptyR' c.rng = false
  pend : c.pend = []
  out : c.out = noPart
  inn : c.inn = noPart
  took : c.took = 0
  src : c.src = 0
  se : 0 ≤ c.se ∧ c.se ≤ 5
  sv : 0 ≤ c.sv ∧ c.sv ≤ 1
  rows : c.rows = sliceR T0 (mkR a b)
structure FreshG (T0 : List Row) (i : Nat) (g : GrpT) (a b : Bnd) : Prop where
  num : g.num = (i : Int) + 1
  opn : g.opn = true
  n1 : 1 ≤ g.mem.length
  n3 : g.mem.length ≤ 3
  uniq : Uniq g.mem
  up : ∀ m ∈ g.mem, m.up = true
  ids : ∀ m ∈ g.mem, numOk m.id = true
  same : ∀ m ∈ g.mem, m.copy = (own0 g).copy
  c : FreshC T0 (own0 g).copy a b
structure TileN (T0 : List Row) (gs : List GrpT) (bs : Nat → Bnd) : Prop where
  b0 : bs 0 = ([], false)
  all : ∀ i, i < gs.length → FreshG T0 i (gs.getD i default) (bs i) (bs (i + 1))
theorem tile_nil {T0 : List Row} : TileN T0 [] (fun _ => ([], false)) := ⟨rfl, by simp⟩
theorem getD_snocL {gs : List GrpT} {g : GrpT} {i : Nat} (hi : i < gs.length + 1) : (gs ++ [g]).getD i default = if i < gs.length then gs.getD i default else g := by
  split
  · rename_i h; exact getD_append_left h
  · rename_i h
    have : i = gs.length := by omega
    subst this
    rw [getD_append_right (by omega), Nat.sub_self]; rfl
theorem tile_snoc {T0 : List Row} {gs : List GrpT} {bs : Nat → Bnd} {g : GrpT} {b : Bnd} (h : TileN T0 gs bs) (hg : FreshG T0 gs.length g (bs gs.length) b) : TileN T0 (gs ++ [g]) (fun j => if j ≤ gs.length then bs j else b) := by
  refine ⟨by simp only [Nat.zero_le, if_true]; exact h.b0, fun i hi => ?_⟩
  simp only [List.length_append, List.length_singleton] at hi
  rw [getD_snocL hi]
  by_cases e : i < gs.length
  · rw [if_pos e, if_pos (by omega), if_pos (by omega)]
    exact h.all i e
  · have : i = gs.length := by omega
    subst this
    rw [if_neg e, if_pos (by omega), if_neg (by omega)]
    exact hg
theorem TileN.vr {T0 : List Row} {gs : List GrpT} {bs : Nat → Bnd} (h : TileN T0 gs bs) {i : Nat} (hi : i < gs.length) : validR' (mkR (bs i) (bs (i + 1))) = true := by
  have hc := (h.all i hi).c
  rw [← hc.lo, ← hc.hi]
  exact c_rng (valid_head hc.v).1
theorem TileN.mono {T0 : List Row} {gs : List GrpT} {bs : Nat → Bnd} (h : TileN T0 gs bs) {i : Nat} : ∀ {d : Nat}, i + d ≤ gs.length → cmpB (bs i).1 (bs i).2 (bs (i + d)).1 (bs (i + d)).2 ≤ 0
  | 0, _ => by rw [Nat.add_zero, cmp_self]; omega
  | d + 1, hd => by
    have h1 := h.mono (i := i) (d := d) (by omega)
    have h2 := (validR_iff.1 (h.vr (i := i + d) (by omega))).2.2
    exact cmp_le_trans h1 h2
/-- each key is in one range -/
theorem tile_one {T0 : List Row} {gs : List GrpT} {bs : Nat → Bnd} (h : TileN T0 gs bs) (ht : bs gs.length = ([], true)) {k : List UInt8} (hk : (k.length : Int) ≤ 64) :
    ∃ i, (i < gs.length ∧ hasR (mkR (bs i) (bs (i + 1))) k = true) ∧ ∀ j, j < gs.length → hasR (mkR (bs j) (bs (j + 1))) k = true → j = i := by
  have hex : ∀ n, n ≤ gs.length → cmpB k false (bs n).1 (bs n).2 < 0 → ∃ i, i < n ∧ ¬ cmpB k false (bs i).1 (bs i).2 < 0 ∧ cmpB k false (bs (i + 1)).1 (bs (i + 1)).2 < 0 := by
    intro n
    induction n with
    | zero =>
      intro _ h0
      rw [h.b0] at h0
      have := cmp_lt.1 h0
      simp only [Bool.false_eq_true, false_or, true_and] at this
      cases k <;> simp [Op.bytesLess] at this
    | succ n ih =>
      intro hn h1
      by_cases h2 : cmpB k false (bs n).1 (bs n).2 < 0
      · obtain ⟨i, h3, h4, h5⟩ := ih (by omega) h2
        exact ⟨i, by omega, h4, h5⟩
      · exact ⟨n, by omega, h2, h1⟩
  obtain ⟨i, hi, h1, h2⟩ := hex gs.length (Nat.le_refl _) (by rw [ht]; exact cmp_lt.2 ⟨rfl, .inl rfl⟩)
  refine ⟨i, ⟨hi, (hasR_iff (h.vr hi)).2 ⟨hk, h1, h2⟩⟩, fun j hj hh => ?_⟩
  obtain ⟨_, h3, h4⟩ := (hasR_iff (h.vr hj)).1 hh
  rcases Nat.lt_trichotomy j i with e | e | e
  · have := h.mono (i := j + 1) (d := i - (j + 1)) (by omega)
    rw [show j + 1 + (i - (j + 1)) = i by omega] at this
    exact absurd (low_mono this h4) h1
  · exact e
  · have := h.mono (i := i + 1) (d := j - (i + 1)) (by omega)
    rw [show i + 1 + (j - (i + 1)) = j by omega] at this
    exact absurd (low_mono this h2) h3
theorem FreshC.cn {T0 : List Row} {c : CopyT} {a b : Bnd} (h : FreshC T0 c a b) : Cn c := ⟨h.v, h.small, fun _ => h.out, fun _ => h.inn⟩
theorem FreshG.at {T0 : List Row} {i : Nat} {g : GrpT} {a b : Bnd} (h : FreshG T0 i g a b) {p : Nat} (hp : p < g.mem.length) : (g.mem.getD p default).up = true ∧ (g.mem.getD p default).copy = (own0 g).copy := ⟨h.up _ (getD_mem hp), h.same _ (getD_mem hp)⟩
theorem FreshG.wf {T0 : List Row} {i : Nat} {g : GrpT} {a b : Bnd} (h : FreshG T0 i g a b) : WfN i g :=
  ⟨h.num, h.n1, by have := h.n3; omega, h.uniq, fun m hm => by rw [h.same m hm]; exact h.c.cn, 0, h.n1, (h.at h.n1).1⟩
theorem FreshG.st {T0 : List Row} {i : Nat} {g : GrpT} {a b : Bnd} (h : FreshG T0 i g a b) {p : Nat} (hp : p < g.mem.length) : hst (g.mem.getD p default).copy = ⟨mkR a b, noPart, noPart, 0, 0⟩ := by
  rw [(h.at hp).2]
  unfold hst
  rw [h.c.out, h.c.inn, h.c.took, h.c.src, crng, h.c.lo, h.c.hi]
theorem tile_inv {T0 : List Row} {gs : List GrpT} {bs : Nat → Bnd} (h : TileN T0 gs bs) (ht : bs gs.length = ([], true)) : InvN 0 gs := by
  refine ⟨by omega, fun i hi => (h.all i hi).wf, fun i hi _ p hp _ => ?_, fun cs hc => ?_⟩
  · rw [((h.all i hi).at hp).2]
  · have hcs : ∀ i, i < gs.length → cs i = ⟨mkR (bs i) (bs (i + 1)), noPart, noPart, 0, 0⟩ := fun i hi => by
      obtain ⟨p, hp, _, e⟩ := hc i hi
      rw [e, (h.all i hi).st hp]
    refine ⟨fun k hk => ?_, fun i hi h0 => ?_, fun i hi h0 => ?_, fun i hi h0 => ?_, fun i hi => ?_, fun i hi h0 => ?_, fun i j hi hj h0 => ?_, fun i j hi hj h0 => ?_⟩
    · obtain ⟨i, ⟨hi, h1⟩, h2⟩ := tile_one h ht hk
      refine ⟨(i, false), ⟨hi, fun _ => by rw [hcs i hi]; exact h1, fun hb => by cases hb⟩, ?_⟩
      rintro ⟨j, b⟩ ⟨hj, g1, g2⟩
      cases b with
      | false =>
        have := g1 rfl
        simp only at this
        rw [hcs j hj] at this
        rw [h2 j hj this]
      | true =>
        have := (g2 rfl).1
        simp only at this
        rw [hcs j hj] at this
        exact absurd rfl this
    all_goals first
      | (rw [hcs i hi] at h0; exact absurd rfl h0)
      | (rw [hcs i hi]; exact Int.le_refl _)
end Go.Sx

namespace Go.Sx
open Go
theorem Later.trans {a b c : ViewT} (h1 : Later a b) (h2 : Later b c) : Later a c := by
  unfold Later at *
  rcases h1 with h1 | h1 | rfl
  · rcases h2 with h2 | h2 | rfl
    · exact .inl (by omega)
    · exact .inl (by omega)
    · exact .inl h1
  · rcases h2 with h2 | h2 | rfl
    · exact .inl (by omega)
    · exact .inr (.inl (by omega))
    · exact .inr (.inl h1)
  · exact h2
theorem Later.se {a b : ViewT} (h : Later a b) : a.se ≤ b.se := by
  rcases h with h | h | rfl <;> omega
/-- an open group's members that are up have one epoch -/
def OneSe (g : GrpT) : Prop := g.opn = true → ∀ p, p < g.mem.length → (g.mem.getD p default).up = true → (g.mem.getD p default).copy.se = (own0 g).copy.se
def Own3 (g h : GrpT) : Prop :=
  (g.opn = true ∧ h.opn = true ∧ (own0 g).up = true ∧ hst (own0 g).copy = hst (own0 h).copy ∧ Later (viewOf (own0 g)) (viewOf (own0 h))) ∨
  (g.opn = false ∧ (own0 g).up = true ∧ hst (own0 g).copy = hst (own0 h).copy ∧ (own0 g).copy.se ≤ (own0 h).copy.se) ∨
  (∃ q, q < g.mem.length ∧ (g.mem.getD q default).up = true ∧ hst (g.mem.getD q default).copy = hst (own0 h).copy ∧ (g.mem.getD q default).copy.se < (own0 h).copy.se)
structure KeepS (g h : GrpT) : Prop where
  s1 : OneSe g → OneSe h
  mem : ∀ p, p < h.mem.length → (h.mem.getD p default).up = true → ∃ q, q < g.mem.length ∧ (g.mem.getD q default).up = true ∧ hst (g.mem.getD q default).copy = hst (h.mem.getD p default).copy ∧ (g.mem.getD q default).copy.se ≤ (h.mem.getD p default).copy.se
  own : (own0 h).up = true → Own3 g h
theorem KeepS.trans {g h k : GrpT} (h1 : KeepS g h) (h2 : KeepS h k) : KeepS g k := by
  refine ⟨fun h => h2.s1 (h1.s1 h), fun p hp hu => ?_, fun hu => ?_⟩
  · obtain ⟨q, a1, a2, a3, a4⟩ := h2.mem p hp hu
    obtain ⟨r, b1, b2, b3, b4⟩ := h1.mem q a1 a2
    exact ⟨r, b1, b2, b3.trans a3, by omega⟩
  · rcases h2.own hu with ⟨a1, a2, a3, a4, a5⟩ | ⟨a1, a2, a3, a4⟩ | ⟨q, a1, a2, a3, a4⟩
    · have hse := a5.se
      simp only [viewOf] at hse
      rcases h1.own a3 with ⟨b1, b2, b3, b4, b5⟩ | ⟨b1, b2, b3, b4⟩ | ⟨q, b1, b2, b3, b4⟩
      · exact .inl ⟨b1, a2, b3, b4.trans a4, b5.trans a5⟩
      · exact .inr (.inl ⟨b1, b2, b3.trans a4, by omega⟩)
      · exact .inr (.inr ⟨q, b1, b2, b3.trans a4, by omega⟩)
    · rcases h1.own a2 with ⟨b1, b2, b3, b4, b5⟩ | ⟨b1, b2, b3, b4⟩ | ⟨q, b1, b2, b3, b4⟩
      · rw [a1] at b2; cases b2
      · exact .inr (.inl ⟨b1, b2, b3.trans a3, by omega⟩)
      · exact .inr (.inr ⟨q, b1, b2, b3.trans a3, by omega⟩)
    · obtain ⟨r, b1, b2, b3, b4⟩ := h1.mem q a1 a2
      exact .inr (.inr ⟨r, b1, b2, b3.trans a3, by omega⟩)
theorem own3_same {g h : GrpT} (ho : h.opn = g.opn) (hu : (own0 g).up = true) (hs : hst (own0 g).copy = hst (own0 h).copy) (hl : Later (viewOf (own0 g)) (viewOf (own0 h))) : Own3 g h := by
  cases e : g.opn with
  | true => exact .inl ⟨e, by rw [ho, e], hu, hs, hl⟩
  | false => exact .inr (.inl ⟨e, hu, hs, by have := hl.se; simpa only [viewOf] using this⟩)
section
variable {i : Nat} {g : GrpT}
theorem KeepS.refl (g : GrpT) : KeepS g g := ⟨id, fun p hp hu => ⟨p, hp, hu, rfl, Int.le_refl _⟩, fun hu => own3_same rfl hu rfl (.inr (.inr rfl))⟩
end
end Go.Sx

namespace Go.Sx
open Go
section
variable {n : Nat} {cs : Nat → HSt} {i j : Nat} {k : List UInt8}
end
section
variable {N : Int} {gs : List GrpT} {i j : Nat}
end
end Go.Sx

namespace Go.Sx
open Go
def cnt (a b : Nat → Bool) : Nat → Nat
  | 0 => 0
  | m + 1 => cnt a b m + (if a m then 1 else 0) + (if b m then 1 else 0)
theorem cnt_one {a b : Nat → Bool} {P : Nat × Bool → Prop} {n : Nat} (ha : ∀ i, i < n → (a i = true ↔ P (i, false))) (hb : ∀ i, i < n → (b i = true ↔ P (i, true))) (hP : ∀ q, P q → q.1 < n)
    (h : ∃ p, P p ∧ ∀ q, P q → q = p) : cnt a b n = 1 := by
  obtain ⟨⟨i, c⟩, hp, hu⟩ := h
  have hi : i < n := hP _ hp
  have hz : ∀ j, j < n → j ≠ i → a j = false ∧ b j = false := by
    intro j hj hne
    constructor
    · cases e : a j with
      | false => rfl
      | true =>
        have := hu _ ((ha j hj).1 e)
        simp only [Prod.mk.injEq] at this
        exact absurd this.1 hne
    · cases e : b j with
      | false => rfl
      | true =>
        have := hu _ ((hb j hj).1 e)
        simp only [Prod.mk.injEq] at this
        exact absurd this.1 hne
  have hm : ∀ m, m ≤ n → cnt a b m = if i < m then 1 else 0 := by
    intro m
    induction m with
    | zero => intro _; rfl
    | succ m ih =>
      intro hm
      unfold cnt
      rw [ih (by omega)]
      by_cases e : m = i
      · subst e
        rw [if_neg (show ¬ m < m by omega), if_pos (show m < m + 1 by omega)]
        cases c with
        | false =>
          have h1 := (ha m hi).2 hp
          have h2 : b m = false := by
            cases e : b m with
            | false => rfl
            | true =>
              have := hu _ ((hb m hi).1 e)
              simp at this
          rw [h1, h2]; rfl
        | true =>
          have h1 := (hb m hi).2 hp
          have h2 : a m = false := by
            cases e : a m with
            | false => rfl
            | true =>
              have := hu _ ((ha m hi).1 e)
              simp at this
          rw [h1, h2]; rfl
      · obtain ⟨h1, h2⟩ := hz m (by omega) e
        rw [h1, h2]
        by_cases e2 : i < m
        · rw [if_pos e2, if_pos (show i < m + 1 by omega)]; rfl
        · rw [if_neg e2, if_neg (show ¬ i < m + 1 by omega)]; rfl
  rw [hm n (Nat.le_refl _), if_pos hi]
theorem cnt_le {a b : Nat → Bool} : ∀ {m : Nat}, cnt a b m ≤ 2 * m
  | 0 => Nat.le_refl _
  | m + 1 => by
    unfold cnt
    have := cnt_le (a := a) (b := b) (m := m)
    split <;> split <;> omega
def takenG (gs : List GrpT) (p : PartT) : Bool := gs.any fun h => h.num == p.dst && (own0 h).copy.took == p.serial
def plcA (gs : List GrpT) (k : List UInt8) (i : Nat) : Bool := hasR (own0 (gs.getD i default)).copy.rng k
def plcB (gs : List GrpT) (k : List UInt8) (i : Nat) : Bool := !((own0 (gs.getD i default)).copy.out.serial == 0) && (!(takenG gs (own0 (gs.getD i default)).copy.out) && hasR (own0 (gs.getD i default)).copy.out.rng k)
/-- the owners are up: they are a choice -/
def Own1 (gs : List GrpT) : Prop := ∀ i, i < gs.length → (own0 (gs.getD i default)).up = true
def csO (gs : List GrpT) (i : Nat) : HSt := hst (own0 (gs.getD i default)).copy
theorem own_ch {N : Int} {gs : List GrpT} (hI : InvN N gs) (h : Own1 gs) : ChN gs (csO gs) := fun i hi => ⟨0, by have := (hI.wf i hi).n1; omega, h i hi, rfl⟩
theorem any_iff {gs : List GrpT} {p : GrpT → Bool} : gs.any p = true ↔ ∃ j, j < gs.length ∧ p (gs.getD j default) = true := by
  rw [List.any_eq_true]
  constructor
  · rintro ⟨x, hx, hp⟩
    obtain ⟨j, hj, rfl⟩ := List.getElem_of_mem hx
    exact ⟨j, hj, by simpa [List.getD, hj] using hp⟩
  · rintro ⟨j, hj, hp⟩
    exact ⟨_, getD_mem hj, hp⟩
theorem taken_iff {N : Int} {gs : List GrpT} (hI : InvN N gs) {i : Nat} : takenG gs (own0 (gs.getD i default)).copy.out = true ↔ TookN gs.length (csO gs) i := by
  unfold takenG TookN
  rw [any_iff]
  constructor
  · rintro ⟨j, hj, hp⟩
    simp only [Bool.and_eq_true, beq_iff_eq] at hp
    exact ⟨j, hj, by rw [← (hI.wf j hj).num]; exact hp.1.symm, hp.2⟩
  · rintro ⟨j, hj, h1, h2⟩
    refine ⟨j, hj, ?_⟩
    simp only [Bool.and_eq_true, beq_iff_eq]
    exact ⟨by rw [(hI.wf j hj).num]; exact h1.symm, h2⟩
theorem plc_one {N : Int} {gs : List GrpT} (hI : InvN N gs) (h : Own1 gs) {k : List UInt8} (hk : (k.length : Int) ≤ 64) : cnt (plcA gs k) (plcB gs k) gs.length = 1 := by
  refine cnt_one (P := HereN gs.length (csO gs) k) (fun i hi => ?_) (fun i hi => ?_) (fun q hq => hq.1) ((hI.good _ (own_ch hI h)).one k hk)
  · constructor
    · intro h1; exact ⟨hi, fun _ => h1, fun h => by cases h⟩
    · intro h1; exact h1.2.1 rfl
  · unfold plcB
    rw [Bool.and_eq_true, Bool.and_eq_true, Bool.not_eq_true', Bool.not_eq_true', beq_eq_false_iff_ne]
    constructor
    · rintro ⟨h1, h2, h3⟩
      exact ⟨hi, fun h => (by cases h), fun _ => ⟨h1, fun hc => (by rw [(taken_iff hI).2 hc] at h2; cases h2), h3⟩⟩
    · intro h1
      obtain ⟨g1, g2, g3⟩ := h1.2.2 rfl
      refine ⟨g1, ?_, g3⟩
      cases e : takenG gs (own0 (gs.getD i default)).copy.out with
      | false => rfl
      | true => exact absurd ((taken_iff hI).1 e) g2
def truncG (g : GrpT) : GrpT := { g with mem := g.mem.take 1 }
def One1 (gs : List GrpT) : Prop := ∀ i, i < gs.length → (gs.getD i default).mem.length = 1
theorem one_own {N : Int} {gs : List GrpT} (hI : InvN N gs) (h : One1 gs) : Own1 gs := fun i hi => by
  obtain ⟨p, hp, hu⟩ := (hI.wf i hi).up
  have : p = 0 := by have := h i hi; omega
  subst this
  exact hu
theorem getD_map1 {gs : List GrpT} {f : GrpT → GrpT} {i : Nat} (hi : i < gs.length) : (gs.map f).getD i default = f (gs.getD i default) := by
  simp [List.getD, hi]
theorem trunc_own {g : GrpT} (h : 1 ≤ g.mem.length) : own0 (truncG g) = own0 g := by
  show (g.mem.take 1).getD 0 default = g.mem.getD 0 default
  cases g.mem with
  | nil => rfl
  | cons m ms => rfl
theorem trunc_one {g : GrpT} (h : g.mem.length = 1) : truncG g = g := by
  have : g.mem.take 1 = g.mem := List.take_of_length_le (by omega)
  unfold truncG
  rw [this]
theorem fresh_trunc {T0 : List Row} {i : Nat} {g : GrpT} {a b : Bnd} (h : FreshG T0 i g a b) : FreshG T0 i (truncG g) a b := by
  have hl : (truncG g).mem.length = 1 := by
    show (g.mem.take 1).length = 1
    have := h.n1
    rw [List.length_take]; omega
  have hm : ∀ m ∈ (truncG g).mem, m ∈ g.mem := fun m hm => List.mem_of_mem_take hm
  refine ⟨h.num, h.opn, by omega, by omega, fun i j hi hj _ => by omega, fun m hx => h.up m (hm m hx), fun m hx => h.ids m (hm m hx), fun m hx => by rw [trunc_own h.n1]; exact h.same m (hm m hx), by rw [trunc_own h.n1]; exact h.c⟩
theorem tile_trunc {T0 : List Row} {gs : List GrpT} {bs : Nat → Bnd} (h : TileN T0 gs bs) : TileN T0 (gs.map truncG) bs := by
  refine ⟨h.b0, fun i hi => ?_⟩
  rw [List.length_map] at hi
  rw [getD_map1 hi]
  exact fresh_trunc (h.all i hi)
theorem replicate_len {g : GrpT} {id : Int} (he : (replicateG g id).2 = 0) : (replicateG g id).1.mem.length = g.mem.length := by
  obtain ⟨h1, h2, h3⟩ := replicate_inv he
  rw [replicate_ok h1 h2 h3]
  simp
theorem withG_len {g : GrpT} {c : CopyT} : (withG g c).mem.length = g.mem.length := by
  show (List.set _ _ _).length = _
  rw [List.length_set]
theorem finish_len {g : GrpT} (he : (finishG g).2 = 0) : (finishG g).1.1.mem.length = g.mem.length := by
  obtain ⟨_, _, _, _, h5⟩ := finish_inv he
  rw [h5]
  exact withG_len
theorem rec_len {ms : List MemT} : ∀ {g : GrpT}, (recL ms g).2 = 0 → (recL ms g).1.mem.length = g.mem.length := by
  induction ms with
  | nil => intro g _; rfl
  | cons m ms ih =>
    intro g he
    unfold recL at he ⊢
    by_cases hu : m.up = true
    · rw [if_pos hu] at he ⊢
      by_cases hr : (replicateG g m.id).2 = 0
      · rw [if_neg (fun h => h hr)] at he ⊢
        rw [ih he, replicate_len hr]
      · rw [if_pos hr] at he
        exact absurd he hr
    · rw [if_neg hu] at he ⊢
      exact ih he
theorem rec2_len {g : GrpT} (he : (rec2 g).2 = 0) : (rec2 g).1.1.mem.length = g.mem.length := by
  unfold rec2 at he ⊢
  by_cases hr : (recAt g.mem 1 g).2 = 0
  · rw [if_neg (fun h => h hr)] at he ⊢
    rw [finish_len he]
    exact rec_len hr
  · rw [if_pos hr] at he
    exact absurd he hr
theorem take_len' {g : GrpT} (he : (takeG g).2 = 0) : (takeG g).1.mem.length = g.mem.length := by
  obtain ⟨p, _, hp, _, _, _, _, e⟩ := take_inv he
  rw [e]
  exact taken_len hp
theorem recover_len {g : GrpT} (he : (recoverG g).2 = 0) : (recoverG g).1.1.mem.length = g.mem.length := by
  unfold recoverG at he ⊢
  split at he
  · rename_i hd
    rw [if_pos hd]
    by_cases ht : (takeG g).2 = 0
    · rw [if_neg (fun h => h ht)] at he ⊢
      rw [rec2_len he, take_len' ht]
    · rw [if_pos ht] at he
      exact absurd he ht
  · rename_i hd
    rw [if_neg hd]
    split at he
    · cases he
    · rename_i h2
      rw [if_neg h2]
      exact rec2_len he
theorem change_len {g : GrpT} {c : CopyT} {l : List (Int × Int)} (he : (changeG g c l).2 = 0) : (changeG g c l).1.mem.length = g.mem.length := by
  obtain ⟨_, _, _, _, h5⟩ := change_inv he
  rw [h5]
  exact close_len
theorem ev_len {N : Int} {gs : List GrpT} {i j : Nat} {e : HEv} (he : (evG N gs i j e).2 = 0) : (evG N gs i j e).1.mem.length = (gs.getD i default).mem.length := by
  cases e with
  | freeze bk bt side =>
    obtain ⟨_, _, h3, h4⟩ := freeze_inv he
    show (freezeG _ _ _ _ _ _).1.mem.length = _
    rw [h4]; exact change_len h3
  | deliver =>
    obtain ⟨_, _, _, _, _, _, _, h3, h4⟩ := deliver_inv he
    show (deliverG _ _).1.mem.length = _
    rw [h4]; exact change_len h3
  | install =>
    obtain ⟨_, _, h3, h4⟩ := install_inv he
    show (installG _).1.mem.length = _
    rw [h4]; exact change_len h3
  | release =>
    obtain ⟨_, _, _, _, _, _, h3, h4⟩ := release_inv he
    show (releaseG _ _).1.mem.length = _
    rw [h4]; exact change_len h3
  | forget =>
    obtain ⟨_, _, _, _, _, _, h3, h4⟩ := forget_inv he
    show (forgetG _ _).1.mem.length = _
    rw [h4]; exact change_len h3
  | refuse =>
    obtain ⟨_, h3, h4⟩ := refuse_inv he
    show (refuseG _).1.mem.length = _
    rw [h4]; exact change_len h3
  | thaw =>
    obtain ⟨_, _, _, _, _, _, _, _, h3, h4⟩ := thaw_inv he
    show (thawG _ _).1.mem.length = _
    rw [h4]; exact change_len h3
  | recover => exact recover_len he
  | replicate id => exact replicate_len he
  | crash id =>
    simp only [evG] at he ⊢
    split at he
    · rename_i hl
      rw [if_pos hl]
      obtain ⟨_, _, h4⟩ := crash_inv he
      rw [h4]; simp
    · cases he
  | propose w =>
    obtain ⟨_, _, h3⟩ := propose_inv he
    show (proposeG _ _).1.mem.length = _
    rw [h3]; exact withG_len
  | commit =>
    obtain ⟨_, _, _, h3⟩ := commit_inv he
    show (commitG _).1.1.mem.length = _
    rw [h3]; exact withG_len
  | none => cases he
theorem evS_one {N : Int} {gs : List GrpT} {i j : Nat} {e : HEv} (h : One1 gs) (hi : i < gs.length) : One1 (evS N gs i j e) := by
  intro a ha
  rw [evS_len] at ha
  unfold evS
  split
  · rename_i he
    rw [getD_setG ha]
    split
    · rw [ev_len he]; exact h i hi
    · exact h a ha
  · exact h a ha
theorem trunc_all {gs : List GrpT} (h : One1 gs) : gs.map truncG = gs := by
  refine List.ext_getElem (by simp) fun i h1 h2 => ?_
  have := h i h2
  have e : gs.getD i default = gs[i] := by simp [List.getD, h2]
  rw [e] at this
  rw [List.getElem_map, trunc_one this]
theorem trunc_are {T0 : List Row} {gs : List GrpT} {bs : Nat → Bnd} (h : TileN T0 gs bs) : One1 (gs.map truncG) := by
  intro i hi
  rw [List.length_map] at hi
  rw [getD_map1 hi]
  show (List.take 1 _).length = 1
  have := (h.all i hi).n1
  rw [List.length_take]; omega
end Go.Sx

namespace Go.Sx
open Go
structure CopyR (T0 : List Row) (B : Int) (c : CopyT) : Prop where
  rows : ∀ r, r ∈ c.rows ↔ r ∈ T0 ∧ hasR c.rng r.1 = true
  out : c.out.serial ≠ 0 → ∀ r, r ∈ c.out.rows ↔ r ∈ T0 ∧ hasR c.out.rng r.1 = true
  inn : c.inn.serial ≠ 0 → ∀ r, r ∈ c.inn.rows ↔ r ∈ T0 ∧ hasR c.inn.rng r.1 = true
  pend : c.pend = []
  se : c.se ≤ B
  oe : c.out.serial ≠ 0 → c.out.se ≤ B
  ie : c.inn.serial ≠ 0 → c.inn.se ≤ B
  sv : c.sv ≤ 1
theorem CopyR.mono {T0 : List Row} {B B' : Int} {c : CopyT} (h : CopyR T0 B c) (hb : B ≤ B') : CopyR T0 B' c :=
  ⟨h.rows, h.out, h.inn, h.pend, by have := h.se; omega, fun h0 => by have := h.oe h0; omega, fun h0 => by have := h.ie h0; omega, h.sv⟩
def AllM (P : CopyT → Prop) (g : GrpT) : Prop := ∀ m ∈ g.mem, P m.copy
theorem AllM.at {P : CopyT → Prop} {g : GrpT} (h : AllM P g) {p : Nat} (hp : p < g.mem.length) : P (g.mem.getD p default).copy := h _ (getD_mem hp)
theorem AllM.imp {P Q : CopyT → Prop} {g : GrpT} (h : AllM P g) (hq : ∀ c, P c → Q c) : AllM Q g := fun m hm => hq _ (h m hm)
theorem AllM.set {P : CopyT → Prop} {g : GrpT} {p : Nat} {x : MemT} (h : AllM P g) (hx : P x.copy) : AllM P { g with mem := g.mem.set p x } := fun m hm => by
  rcases List.mem_or_eq_of_mem_set hm with hm | rfl
  · exact h m hm
  · exact hx
section
variable {T0 : List Row} {B : Int} {g f t : GrpT} {i : Nat}
end
theorem ext_gs {a b : List GrpT} (hl : a.length = b.length) (h : ∀ j, j < a.length → a.getD j default = b.getD j default) : a = b := by
  apply List.ext_getElem hl
  intro j h1 h2
  have := h j h1
  simpa [List.getD, h1, h2] using this
theorem take_ok {g : GrpT} (hd : (own0 g).up = false) (hu : ∃ p, p < g.mem.length ∧ (g.mem.getD p default).up = true) (hs : ∀ m ∈ g.mem, stampOk m.copy.se m.copy.sv = true ∧ m.copy.se < 1099511627776) : (takeG g).2 = 0 := by
  obtain ⟨p, hp, hpu⟩ := hu
  unfold takeG
  rcases heir_range (ms := g.mem) (n := g.mem.length) (f := 0) (by omega) with hr | ⟨q, k1, _, k3, k4, _⟩
  · exfalso
    have : ∀ (n f : Nat), n = g.mem.length - f → f ≤ p → heirG g.mem f = -1 → False := by
      intro n
      induction n with
      | zero => intro f hn hf _; omega
      | succ n ih =>
        intro f hn hf h
        rw [heir_step (by omega)] at h
        split at h
        · omega
        · rename_i h2
          refine ih (f + 1) (by omega) ?_ h
          by_cases e : f = p
          · subst e; exact absurd hpu h2
          · omega
    exact this _ 0 rfl (by omega) hr
  · have hq0 : q ≠ 0 := by
      rintro rfl
      have : (own0 g).up = true := k4
      rw [hd] at this; cases this
    rw [k1, if_neg (by omega), if_neg (by omega)]
    simp only [Int.toNat_natCast]
    obtain ⟨s1, s2⟩ := hs _ (getD_mem k3)
    rw [renew_one s1 s2]
    rfl
end Go.Sx
