/- Contracts of functions that the law reaches: YtfjiffbacallhaaDoorLay. Written for this claim. -/
import Derived.Test.YtfjiffbacallhaaDoorBase
import Derived.Test.YtfjiffbacallhaaDoorTie
import Derived.Test.YtfjiffbacallhaaDoorCards
import Derived.ProofKit
import Derived.LaidMore
import Derived.OpenShut
import Derived.Stop.Joined
import Derived.SevenTiedAt
namespace Go.Proofs.YtfjiffbacallhaaDoor
open Go Go.Sx Go.ChangeShapes Go.WideShapes Go.ChangeAt Go.WideMaps Go.WideElems Go.RowKit
set_option linter.unusedVariables false
set_option linter.unusedSimpArgs false
set_option maxRecDepth 100000
theorem own : ownKnob Tryd.prog.godebug = none := by kernel_rfl
theorem laidOut : laidOutB Tryd.prog = true := by kernel_rfl
abbrev laidL : List (String × DataW Unit) := [("skipgraph/skipgraphworld.letters", Rows.laid_skipgraph_skipgraphworld_letters)]
theorem gLetters : Tryd.prog.globalNamed "skipgraph/skipgraphworld.letters" = some 0 := by kernel_rfl
theorem tLetters : (Tryd.prog.globals[0]?).map (·.type) = some 70 := by kernel_rfl
theorem cString : Tryd.prog.cellsOf 9 = 1 := by kernel_rfl
theorem door_met (os : Os) (args : Array Value) : laidMetH Tryd.prog laidL ((World.doorLaid Tryd.prog 400 os).forCall (fun _ _ => 0) ⟨#[], args, []⟩).memory :=
  laidMetH_of_parts3 (fuel := 8) (laidMet_of_run' 8 (by kernel_rfl) (by kernel_rfl)) (by kernel_rfl) (by kernel_rfl)
theorem gok {W : World} (h : laidMetH Tryd.prog laidL W) : GOk GG (fun b => b < W.heap.size) W := by
  rw [MakeChecks.laidMetH_plain _ _ _ (by kernel_rfl)] at h
  obtain ⟨ps, ⟨g0, t0, cs0, f0, p0, q0, hg0, ht0, hv0, hd0, _, _⟩, _, _⟩ := h
  obtain rfl := Option.some.inj (gLetters.symm.trans hg0)
  obtain rfl := Option.some.inj (tLetters.symm.trans ht0)
  obtain ⟨xs, m1, rfl, hx1, hlen, hn3, hel⟩ := DataW.trod_array Tryd.underlying70 hd0
  simp only [Prod.mk.injEq] at hx1
  have hxs : xs.map (·.1) = [.lit (.string [97]), .lit (.string [98]), .lit (.string [99]), .lit (.string [0]), .lit (.string [255]), .lit (.string [109])] := by
    have := hx1.1
    simp only [Rows.laid_skipgraph_skipgraphworld_letters, DataW.agg.injEq] at this
    exact this.symm
  have hlet : ∀ j, j < 6 → (xs.map (·.1))[j]? = some (.lit (.string (letterS j))) := by
    intro j hj
    rw [hxs]
    match j, hj with
    | 0, _ => rfl
    | 1, _ => rfl
    | 2, _ => rfl
    | 3, _ => rfl
    | 4, _ => rfl
    | 5, _ => rfl
  have hcell : ∀ j, j < 6 → ∃ u, W.cell? ⟨0, j, none⟩ = some u ∧ RepD (fun b => b < W.heap.size) W (.str (letterS j)) u := by
    intro j hj
    have h1 := hel j hj
    rw [cString] at h1
    have h2 := hlet j hj
    rw [List.getElem?_map] at h2
    cases hxj : xs[j]? with
    | none => rw [hxj] at h2; cases h2
    | some x =>
      rw [hxj] at h1 h2
      simp only [Option.map_some, Option.some.injEq] at h2
      obtain ⟨s, e1, e2, _⟩ := DataW.trod_string Tryd.underlying9 h1
      rw [e2] at h2
      simp only [DataW.lit.injEq, Lit.string.injEq] at h2
      have h3 : cs0.toList[j]? = some (.string s) := by
        have := congrArg (·[0]?) e1
        simpa [List.getElem?_take, List.getElem?_drop] using this
      have h4 := World.var?_cell hg0 hv0 j
      refine ⟨.string s, ?_, ?_⟩
      · rw [h4]; simpa using h3
      · simp only [RepD]
        rw [← h2]
  intro g sz get hg
  match g, hg with
  | 0, hg =>
    simp only [GG, Option.some.injEq, Prod.mk.injEq] at hg
    obtain ⟨rfl, rfl⟩ := hg
    obtain ⟨u, hu, _⟩ := hcell 0 (by decide)
    exact ⟨lt_of_cell? hu, hcell⟩
theorem ints_arg {R : Nat} {ds : List D} (h : wfT Tryd.prog R 12 22 ds) : ∃ xs : List Int, (∀ x ∈ xs, -9223372036854775808 ≤ x ∧ x < 9223372036854775808) ∧ LeL (match ds with | [x] => [.d x] | _ => []) [.d (encL encI 1 xs)] ∧ svOf Tryd.prog 22 ds = (match ds with | [x] => .d x | _ => .junk) := by
  obtain ⟨len, get, rfl, _, _, hel⟩ := h
  have c : Tryd.prog.cellsOf 3 = 1 := by kernel_rfl
  obtain ⟨xs, h1, h2, h3⟩ := list_of (α := Int) (enc := encI) (Q := fun x => -9223372036854775808 ≤ x ∧ x < 9223372036854775808) (k := 1) (fun _ => rfl) (len := len) (get := get) (fun i hi => by
    have := hel i hi
    rw [c] at this
    obtain ⟨n, e, hw⟩ := this
    exact ⟨n, wf_i64 hw, e⟩)
  refine ⟨xs, h2, ?_, rfl⟩
  show LeL [.d (.list len (Tryd.prog.cellsOf 3) get)] _
  rw [c]
  exact LeL.cons (LeS.d h3) LeL.nil
theorem rows_arg {R : Nat} {ds : List D} (h : wfT Tryd.prog R 12 23 ds) : ∃ xs : List Row, xs.length ≤ maxLen ∧ (∀ x ∈ xs, x.1.length ≤ R ∧ x.2.length ≤ R) ∧ LeL (match ds with | [x] => [.d x] | _ => []) [.d (encL encRow 2 xs)] ∧ svOf Tryd.prog 23 ds = (match ds with | [x] => .d x | _ => .junk) := by
  obtain ⟨len, get, rfl, hlen, _, hel⟩ := h
  have c : Tryd.prog.cellsOf 43 = 2 := by kernel_rfl
  obtain ⟨xs, h1, h2, h3⟩ := list_of (α := Row) (enc := encRow) (Q := fun x => x.1.length ≤ R ∧ x.2.length ≤ R) (k := 2) (fun _ => rfl) (len := len) (get := get) (fun i hi => by
    have := hel i hi
    rw [c] at this
    obtain ⟨a, r1, e1, ⟨k, rfl, _, hk⟩, b, r2, rfl, ⟨v, rfl, _, hv⟩, rfl⟩ := this
    exact ⟨(k, v), ⟨hk, hv⟩, e1⟩)
  refine ⟨xs, by omega, h2, ?_, rfl⟩
  show LeL [.d (.list len (Tryd.prog.cellsOf 43) get)] _
  rw [c]
  exact LeL.cons (LeS.d h3) LeL.nil
theorem inv1 {P : Program} {R : Nat} {a : Nat} {dss : List (List D)} (h : All2 (wfT P R 12) [a] dss) : ∃ x, dss = [x] ∧ wfT P R 12 a x := by
  cases h with
  | cons h1 h => cases h; exact ⟨_, rfl, h1⟩
theorem inv2 {P : Program} {R : Nat} {a b : Nat} {dss : List (List D)} (h : All2 (wfT P R 12) [a, b] dss) : ∃ x y, dss = [x, y] ∧ wfT P R 12 a x ∧ wfT P R 12 b y := by
  cases h with
  | cons h1 h => obtain ⟨y, rfl, h2⟩ := inv1 h; exact ⟨_, _, rfl, h1, h2⟩
end Go.Proofs.YtfjiffbacallhaaDoor
