/- Contracts of functions that the law reaches: YtggehonedmbnjaaDoorQAny. Written for this claim. -/
import Derived.Test.YtggehonedmbnjaaDoorQLw
import Derived.Test.YtggehonedmbnjaaDoorSxDL
namespace Go.Proofs.YtggehonedmbnjaaDoor
open Go Go.Sx Go.ChangeShapes Go.WideShapes Go.ChangeAt Go.WideMaps Go.WideElems Go.RowKit
set_option linter.unusedVariables false
set_option linter.unusedSimpArgs false
set_option maxRecDepth 100000
/-! leases as arguments; small -/
theorem inv4 {P : Program} {R : Nat} {a b c d : Nat} {dss : List (List D)} (h : All2 (wfT P R 12) [a, b, c, d] dss) : ∃ x y z w, dss = [x, y, z, w] ∧ wfT P R 12 a x ∧ wfT P R 12 b y ∧ wfT P R 12 c z ∧ wfT P R 12 d w := by
  cases h with
  | cons h1 h => obtain ⟨y, z, w, rfl, h2, h3, h4⟩ := inv3 h; exact ⟨_, _, _, _, rfl, h1, h2, h3, h4⟩
theorem intsD_wf {R f : Nat} {ds : List D} (h : wfT Tryd.prog R (f + 2) 22 ds) : ∃ xs : List Int, DL ds [encL encI 1 xs] := by
  obtain ⟨len, get, rfl, hlen, _, hel⟩ := h
  have c : Tryd.prog.cellsOf 3 = 1 := cellsI
  obtain ⟨xs, h1, h2, h3⟩ := list_of (α := Int) (enc := encI) (Q := fun _ => True) (k := 1) (fun _ => rfl) (len := len) (get := get) (fun i hi => by
    have := hel i hi
    rw [c] at this
    obtain ⟨n, e, hw⟩ := this
    exact ⟨n, trivial, e⟩)
  refine ⟨xs, ?_⟩
  show DL [.list len (Tryd.prog.cellsOf 3) get] _
  rw [c]
  exact DL.cons h3 DL.nil
theorem write_wfD {R f : Nat} {ds : List D} (h : wfT Tryd.prog R (f + 3) 36 ds) : ∃ w : Wr, DL ds [.str w.1, .str w.2.1, .bool w.2.2] := by
  obtain ⟨a1, r1, rfl, ⟨k, rfl, _⟩, a2, r2, rfl, ⟨v, rfl, _⟩, a3, r3, rfl, ⟨d, rfl⟩, rfl⟩ := h
  exact ⟨(k, v, d), DL.refl _⟩
theorem lse_wfD {R f : Nat} {ds : List D} (h : wfT Tryd.prog R (f + 6) 38 ds) : ∃ s : LseT, DL ds (encLse s) := by
  obtain ⟨a1, r1, rfl, ⟨k, rfl, _⟩, a2, r2, rfl, ⟨v, rfl, _⟩, a3, r3, rfl, ⟨d, rfl⟩, a4, r4, rfl, h4, a5, r5, rfl, h5, a6, r6, rfl, ⟨w, rfl⟩, a7, r7, rfl, h7, rfl⟩ := h
  obtain ⟨ho, e4⟩ := intsD_wf h4
  obtain ⟨fl, e5⟩ := intsD_wf h5
  obtain ⟨wr, e7⟩ := write_wfD h7
  refine ⟨⟨k, v, d, ho, fl, w, wr⟩, ?_⟩
  simp only [List.append_assoc, List.cons_append, List.nil_append, List.append_nil]
  exact DL.cons (DLe.refl _) (DL.cons (DLe.refl _) (DL.cons (DLe.refl _) (DL.app e4 (DL.app e5 (DL.cons (DLe.refl _) e7)))))
theorem lses_wf {R f : Nat} {ds : List D} (h : wfT Tryd.prog R (f + 7) 25 ds) : ∃ l : List LseT, l.length ≤ 9223372036854775807 ∧ LeL (ds.map .d) [.d (encL encLse 9 l)] := by
  obtain ⟨len, get, rfl, hlen, hby, hel⟩ := h
  have c : Tryd.prog.cellsOf 38 = 9 := cellsLse
  rw [c] at hel
  obtain ⟨xs, h1, h2, h3⟩ := list_ofD (α := LseT) (enc := encLse) (Q := fun _ => True) (k := 9) (fun _ => rfl) (len := len) (get := get) (fun i hi => by
    obtain ⟨m, hd⟩ := lse_wfD (hel i hi)
    exact ⟨m, trivial, hd⟩)
  refine ⟨xs, by rw [h1]; exact hlen, ?_⟩
  show LeL [.d (.list len (Tryd.prog.cellsOf 38) get)] _
  rw [c]
  exact LeL.cons (LeS.d h3) LeL.nil
def smX (x : LseT) : Bool := !(decide ((x.hold.length : Int) > 40) || decide ((x.fly.length : Int) > 40))
def smallL (l : List LseT) : Bool := l.all smX && decide ((l.length : Int) ≤ 80)
theorem sm_at {l : List LseT} {i : Nat} (h : i < l.length) : (l.drop i).all smX = (smX (l.getD i default) && (l.drop (i + 1)).all smX) := by
  rw [drop_cons' h, List.all_cons]
theorem sm_end {l : List LseT} {i : Nat} (h : l.length ≤ i) : (l.drop i).all smX = true := by
  rw [List.drop_eq_nil_of_le h]; rfl
theorem smallL_b {l : List LseT} (h : smallL l = true) : LsB l ∧ l.length ≤ 80 := by
  simp only [smallL, Bool.and_eq_true, decide_eq_true_eq, List.all_eq_true, smX, Bool.not_eq_true', Bool.or_eq_false_iff, decide_eq_false_iff_not] at h
  exact ⟨⟨by omega, fun x hx => by have := (h.1 x hx).1; omega, fun x hx => by have := (h.1 x hx).2; omega⟩, by omega⟩
theorem small_spec (l : List LseT) : l.length ≤ 9223372036854775807 → Sx.Spec Tryd.prog GG 14 [.d (encL encLse 9 l)] [] (.d (.bool (smallL l))) [] := by
  intro hl
  refine spec_intro (E := EE) (fn := Tryd.f14) eok (by kernel_rfl) (by kernel_rfl) Tryd.call14 (by kernel_rfl) (by kernel_rfl) ?_
  conv => whnf
  repeat' first
    | (refine bc_true (by assumption) ?_; (conv => whnf))
    | (refine bc_false (by assumption) ?_; (conv => whnf))
    | (refine need_intro ?_ ?_; (conv => whnf))
    | (refine wk_refl ?_; (conv => whnf))
    | (refine draw_intro (by kernel_rfl) ?_; (conv => whnf))
    | (refine ord_intro (by kernel_rfl) ?_; (conv => whnf))
  refine loop_auto [0, 5, 6] [] (fun i : Nat => [(7, .d (.int .i64 i))]) (fun i => []) (fun i => i ≤ l.length ∧ (l.drop i).all smX = l.all smX) (fun i => l.length - i) 0 ?_ (fun i hi => ?_) ⟨by omega, rfl⟩
  · conv => whnf
    repeat' first
      | (refine bc_true (by assumption) ?_; (conv => whnf))
      | (refine bc_false (by assumption) ?_; (conv => whnf))
      | (refine bc_intro (fun _ => ?_) (fun _ => ?_) <;> (conv => whnf))
      | (refine need_intro ?_ ?_; (conv => whnf))
      | (refine wk_refl ?_; (conv => whnf))
      | (refine draw_intro (by kernel_rfl) ?_; (conv => whnf))
      | (refine ord_intro (by kernel_rfl) ?_; (conv => whnf))
    all_goals first | exact trivial | exact DLe.refl _ | exact DLe.nil | exact RowLe.refl _ _ _ | exact ⟨rfl, rfl⟩ | exact ⟨rfl, rfl, rfl⟩ | trace_state
  · obtain ⟨hi, he⟩ := hi
    have hs : i < l.length → IntKind.i64.wrap ((i : Int) + 1) = ((i + 1 : Nat) : Int) := fun h => wrap_succ (n := 9223372036854775807) (by omega) (by omega)
    have h1 := fun h => sm_at (l := l) (i := i) h
    have h2 := fun h => sm_end (l := l) (i := i) h
    conv => whnf
    repeat' first
      | (refine NextVC.mk (i + 1) ?_ ?_ ?_; (conv => whnf))
      | (refine bc_true (by assumption) ?_; (conv => whnf))
      | (refine bc_false (by assumption) ?_; (conv => whnf))
      | (refine bc_intro (fun _ => ?_) (fun _ => ?_) <;> (conv => whnf))
      | (refine need_intro ?_ ?_; (conv => whnf))
      | (refine wk_refl ?_; (conv => whnf))
      | (refine draw_intro (by kernel_rfl) ?_; (conv => whnf))
      | (refine ord_intro (by kernel_rfl) ?_; (conv => whnf))
    all_goals try simp only [decide_eq_true_eq, decide_eq_false_iff_not] at *
    all_goals try simp only [Int.toNat_natCast] at *
    all_goals first
      | exact trivial
      | omega
      | exact DLe.refl _
      | exact DLe.of_eq (by rw [hs (by omega)])
      | exact ⟨by omega, by omega⟩
      | (rw [h1 (by omega)] at he
         have e : smX (l.getD i default) = true := by simp only [smX, Bool.not_eq_true', Bool.or_eq_false_iff, decide_eq_false_iff_not]; exact ⟨by omega, by omega⟩
         rw [e, Bool.true_and] at he
         exact ⟨by omega, he⟩)
      | (rw [h1 (by omega)] at he
         have e : smX (l.getD i default) = false := by simp only [smX, Bool.not_eq_false', Bool.or_eq_true, decide_eq_true_eq]; first | exact .inl (by omega) | exact .inr (by omega)
         rw [e, Bool.false_and] at he
         refine ⟨LeS.of_eq ?_, trivial⟩
         rw [smallL, ← he]; rfl)
      | (refine ⟨LeS.of_eq ?_, trivial⟩
         rw [smallL, ← he, h2 (by omega)]; rfl)
      | trace_state
end Go.Proofs.YtggehonedmbnjaaDoor
