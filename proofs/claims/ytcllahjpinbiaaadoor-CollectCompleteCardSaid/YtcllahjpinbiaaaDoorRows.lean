/-
  NARROWER THAN 'FOR EVERY INPUT', by the rows' own cells (each row's printed sentence says how): CollectMarks: laid · CollectStores: laid · CollectSteps: laid · CollectComplete: laid · CollectSafe: laid · CollectCleans: laid.
  DERIVED. THE GIVEN ROWS OF THIS SEAT. 6 by the template 'for every input the law returns true; each argument reads behind the call as it read before'; 0 by the template 'total and deterministic' (their statements: YtcllahjpinbiaaaDoorTotals.lean).
  GIVEN WITH THE SEED: the statements are not yours to turn. If you find one false, say at which input.
  Laid BY PROGRAM, IN A SANDBOX (cutbox-rows.mjs): the forced cells as the released guide's own fill.sh prints them over the translation ab31d2cc7ead7006… (all of the seat's roots in one cut). By AI agents, Wed Nov 11 2026. No macro, syntax, notation, axiom, sorry.
-/
import Derived.Test.YtcllahjpinbiaaaDoorChecked
import GoSem.Claim
import GoSem.ClaimJoined
import GoSem.ClaimMapViews
import Derived.JoinedTies
import Derived.KernelRfl
namespace Go.Proofs.YtcllahjpinbiaaaDoor
/- THE CELL 'sum', in the pinned program and in every row, IS THE sha256 OF THE DUMP (.gsa) THAT YtcllahjpinbiaaaDoorProg.lean LOADS. Nothing in Lean hashes anything: it is a label: what it is worth is what the hold of that sum in a sandbox is worth. -/
noncomputable def Tryd.pinned : Pinned := { name := "ytcllahjpinbiaaadoor", sum := "ab31d2cc7ead7006d338d3ce0ee340e5288601640282da652874d29128605acc", checked := Tryd.checked }
namespace Rows
def none {H : Type} : Left H := { results := [], args := [] }

/- WHAT THE LISTED PACKAGE-LEVEL VARIABLES READ AS WHEN THE CALL BEGINS. Each datum BY PROGRAM (the guide's laid-datum.mjs) off the statement by which the dump's own 'gosem.cut.vars' lays the variable. In a bare row this is a premise. The card (YtcllahjpinbiaaaDoorCards.lean) ties it to the program's text. -/
def laid_skipgraph_skipgraphworld_letters {H : Type} : DataW H := .agg [.lit (.string [97]), .lit (.string [98]), .lit (.string [99]), .lit (.string [0]), .lit (.string [255]), .lit (.string [109])]

/-- 'skipgraphlaw34.CollectMarks': WHATEVER THE INPUT: true; the input reads as it did. -/
def collectMarksSpec : ChangeSpec := { name := "collectMarks", fn := fun _ => fun
  | [d1, d2, d3, d4] => { results := [.lit (.bool true)], args := [d1, d2, d3, d4] }
  | _ => none }
def collectMarksRow : OpenClaim := { program := "ytcllahjpinbiaaadoor", sum := "ab31d2cc7ead7006d338d3ce0ee340e5288601640282da652874d29128605acc", func := "skipgraph/skipgraphlaw34.CollectMarks", spec := "collectMarks", named := ["skipgraph/skipgraphworld.letters"], apart := false, laid := [("skipgraph/skipgraphworld.letters", laid_skipgraph_skipgraphworld_letters)] }
def CollectMarksSaid : Prop := collectMarksRow.holds Tryd.pinned (OpenSpec.ofChange collectMarksSpec)

/-- ITS FALSE NEIGHBOUR: 'it returns false'. Refute it at one input. -/
def collectMarksWrong : ChangeSpec := { name := "collectMarks", fn := fun _ => fun
  | [d1, d2, d3, d4] => { results := [.lit (.bool false)], args := [d1, d2, d3, d4] }
  | _ => none }
def CollectMarksWrongFalsely : Prop := collectMarksRow.holds Tryd.pinned (OpenSpec.ofChange collectMarksWrong)

/-- 'skipgraphlaw34.CollectStores': WHATEVER THE INPUT: true; the input reads as it did. -/
def collectStoresSpec : ChangeSpec := { name := "collectStores", fn := fun _ => fun
  | [d1, d2, d3, d4, d5] => { results := [.lit (.bool true)], args := [d1, d2, d3, d4, d5] }
  | _ => none }
def collectStoresRow : OpenClaim := { program := "ytcllahjpinbiaaadoor", sum := "ab31d2cc7ead7006d338d3ce0ee340e5288601640282da652874d29128605acc", func := "skipgraph/skipgraphlaw34.CollectStores", spec := "collectStores", named := ["skipgraph/skipgraphworld.letters"], apart := false, laid := [("skipgraph/skipgraphworld.letters", laid_skipgraph_skipgraphworld_letters)] }
def CollectStoresSaid : Prop := collectStoresRow.holds Tryd.pinned (OpenSpec.ofChange collectStoresSpec)

/-- ITS FALSE NEIGHBOUR: 'it returns false'. Refute it at one input. -/
def collectStoresWrong : ChangeSpec := { name := "collectStores", fn := fun _ => fun
  | [d1, d2, d3, d4, d5] => { results := [.lit (.bool false)], args := [d1, d2, d3, d4, d5] }
  | _ => none }
def CollectStoresWrongFalsely : Prop := collectStoresRow.holds Tryd.pinned (OpenSpec.ofChange collectStoresWrong)

/-- 'skipgraphlaw34.CollectSteps': WHATEVER THE INPUT: true; the input reads as it did. -/
def collectStepsSpec : ChangeSpec := { name := "collectSteps", fn := fun _ => fun
  | [d1, d2, d3, d4] => { results := [.lit (.bool true)], args := [d1, d2, d3, d4] }
  | _ => none }
def collectStepsRow : OpenClaim := { program := "ytcllahjpinbiaaadoor", sum := "ab31d2cc7ead7006d338d3ce0ee340e5288601640282da652874d29128605acc", func := "skipgraph/skipgraphlaw34.CollectSteps", spec := "collectSteps", named := ["skipgraph/skipgraphworld.letters"], apart := false, laid := [("skipgraph/skipgraphworld.letters", laid_skipgraph_skipgraphworld_letters)] }
def CollectStepsSaid : Prop := collectStepsRow.holds Tryd.pinned (OpenSpec.ofChange collectStepsSpec)

/-- ITS FALSE NEIGHBOUR: 'it returns false'. Refute it at one input. -/
def collectStepsWrong : ChangeSpec := { name := "collectSteps", fn := fun _ => fun
  | [d1, d2, d3, d4] => { results := [.lit (.bool false)], args := [d1, d2, d3, d4] }
  | _ => none }
def CollectStepsWrongFalsely : Prop := collectStepsRow.holds Tryd.pinned (OpenSpec.ofChange collectStepsWrong)

/-- 'skipgraphlaw34.CollectComplete': WHATEVER THE INPUT: true; the input reads as it did. -/
def collectCompleteSpec : ChangeSpec := { name := "collectComplete", fn := fun _ => fun
  | [d1, d2] => { results := [.lit (.bool true)], args := [d1, d2] }
  | _ => none }
def collectCompleteRow : OpenClaim := { program := "ytcllahjpinbiaaadoor", sum := "ab31d2cc7ead7006d338d3ce0ee340e5288601640282da652874d29128605acc", func := "skipgraph/skipgraphlaw34.CollectComplete", spec := "collectComplete", named := ["skipgraph/skipgraphworld.letters"], apart := false, laid := [("skipgraph/skipgraphworld.letters", laid_skipgraph_skipgraphworld_letters)] }
def CollectCompleteSaid : Prop := collectCompleteRow.holds Tryd.pinned (OpenSpec.ofChange collectCompleteSpec)

/-- ITS FALSE NEIGHBOUR: 'it returns false'. Refute it at one input. -/
def collectCompleteWrong : ChangeSpec := { name := "collectComplete", fn := fun _ => fun
  | [d1, d2] => { results := [.lit (.bool false)], args := [d1, d2] }
  | _ => none }
def CollectCompleteWrongFalsely : Prop := collectCompleteRow.holds Tryd.pinned (OpenSpec.ofChange collectCompleteWrong)

/-- 'skipgraphlaw34.CollectSafe': WHATEVER THE INPUT: true; the input reads as it did. -/
def collectSafeSpec : ChangeSpec := { name := "collectSafe", fn := fun _ => fun
  | [d] => { results := [.lit (.bool true)], args := [d] }
  | _ => none }
def collectSafeRow : OpenClaim := { program := "ytcllahjpinbiaaadoor", sum := "ab31d2cc7ead7006d338d3ce0ee340e5288601640282da652874d29128605acc", func := "skipgraph/skipgraphlaw34.CollectSafe", spec := "collectSafe", named := ["skipgraph/skipgraphworld.letters"], apart := false, laid := [("skipgraph/skipgraphworld.letters", laid_skipgraph_skipgraphworld_letters)] }
def CollectSafeSaid : Prop := collectSafeRow.holds Tryd.pinned (OpenSpec.ofChange collectSafeSpec)

/-- ITS FALSE NEIGHBOUR: 'it returns false'. Refute it at one input. -/
def collectSafeWrong : ChangeSpec := { name := "collectSafe", fn := fun _ => fun
  | [d] => { results := [.lit (.bool false)], args := [d] }
  | _ => none }
def CollectSafeWrongFalsely : Prop := collectSafeRow.holds Tryd.pinned (OpenSpec.ofChange collectSafeWrong)

/-- 'skipgraphlaw34.CollectCleans': WHATEVER THE INPUT: true; the input reads as it did. -/
def collectCleansSpec : ChangeSpec := { name := "collectCleans", fn := fun _ => fun
  | [d] => { results := [.lit (.bool true)], args := [d] }
  | _ => none }
def collectCleansRow : OpenClaim := { program := "ytcllahjpinbiaaadoor", sum := "ab31d2cc7ead7006d338d3ce0ee340e5288601640282da652874d29128605acc", func := "skipgraph/skipgraphlaw34.CollectCleans", spec := "collectCleans", named := ["skipgraph/skipgraphworld.letters"], apart := false, laid := [("skipgraph/skipgraphworld.letters", laid_skipgraph_skipgraphworld_letters)] }
def CollectCleansSaid : Prop := collectCleansRow.holds Tryd.pinned (OpenSpec.ofChange collectCleansSpec)

/-- ITS FALSE NEIGHBOUR: 'it returns false'. Refute it at one input. -/
def collectCleansWrong : ChangeSpec := { name := "collectCleans", fn := fun _ => fun
  | [d] => { results := [.lit (.bool false)], args := [d] }
  | _ => none }
def CollectCleansWrongFalsely : Prop := collectCleansRow.holds Tryd.pinned (OpenSpec.ofChange collectCleansWrong)

/- THE SECOND FORM. 'bulk': how many values and letters a reading holds, each counted each time it is reached (what is shared counts as often as it is met; a slice's spare places count too). A statement '..UptoSaid' is the law's where the arguments, and the package variables that the reading takes, are together of bulk at most 1048576: NARROWER than '..Said'. Prove '..Said' where nothing that the law and all that it calls make is longer than what came in: it says more and counts as full. Else prove '..UptoSaid'. A law counts once. -/
mutual
def uptoBulk {H : Type} : DataW H → Nat
  | .lit (.string bytes) => bytes.length + 1
  | .lit _ => 1
  | .nil => 1
  | .ptr d => uptoBulk d + 1
  | .slice elems spare => uptoBulkAll elems + uptoBulkAll spare + 1
  | .agg parts => uptoBulkAll parts + 1
  | .iface _ d => uptoBulk d + 1
  | .map entries => uptoBulkEntries entries + 1
  | .held _ => 1
def uptoBulkAll {H : Type} : List (DataW H) → Nat
  | [] => 0
  | d :: r => uptoBulk d + uptoBulkAll r
def uptoBulkEntries {H : Type} : List (Lit × DataW H) → Nat
  | [] => 0
  | x :: r => uptoBulkEntry x + uptoBulkEntries r
def uptoBulkEntry {H : Type} : Lit × DataW H → Nat
  | (.string bytes, d) => bytes.length + uptoBulk d + 1
  | (_, d) => uptoBulk d + 1
 end
def uptoSmall : (H : Type) → List (DataW H) → Bool := fun _ ds => decide (uptoBulkAll ds ≤ 1048576)
def OpenSpec.upto (s : _root_.Go.ChangeSpec) : _root_.Go.OpenSpec := { _root_.Go.OpenSpec.ofChange s with cond := some uptoSmall }

/-- 'skipgraphlaw34.CollectMarks', WHERE WHAT IT READS IS OF BULK AT MOST 1048576: true; the input reads as it did. -/
def collectMarksUptoRow : OpenClaim := { program := "ytcllahjpinbiaaadoor", sum := "ab31d2cc7ead7006d338d3ce0ee340e5288601640282da652874d29128605acc", func := "skipgraph/skipgraphlaw34.CollectMarks", spec := "collectMarks", named := ["skipgraph/skipgraphworld.letters"], apart := false, laid := [("skipgraph/skipgraphworld.letters", laid_skipgraph_skipgraphworld_letters)], narrowed := true }
def CollectMarksUptoSaid : Prop := collectMarksUptoRow.holds Tryd.pinned (OpenSpec.upto collectMarksSpec)

/-- 'skipgraphlaw34.CollectStores', WHERE WHAT IT READS IS OF BULK AT MOST 1048576: true; the input reads as it did. -/
def collectStoresUptoRow : OpenClaim := { program := "ytcllahjpinbiaaadoor", sum := "ab31d2cc7ead7006d338d3ce0ee340e5288601640282da652874d29128605acc", func := "skipgraph/skipgraphlaw34.CollectStores", spec := "collectStores", named := ["skipgraph/skipgraphworld.letters"], apart := false, laid := [("skipgraph/skipgraphworld.letters", laid_skipgraph_skipgraphworld_letters)], narrowed := true }
def CollectStoresUptoSaid : Prop := collectStoresUptoRow.holds Tryd.pinned (OpenSpec.upto collectStoresSpec)

/-- 'skipgraphlaw34.CollectSteps', WHERE WHAT IT READS IS OF BULK AT MOST 1048576: true; the input reads as it did. -/
def collectStepsUptoRow : OpenClaim := { program := "ytcllahjpinbiaaadoor", sum := "ab31d2cc7ead7006d338d3ce0ee340e5288601640282da652874d29128605acc", func := "skipgraph/skipgraphlaw34.CollectSteps", spec := "collectSteps", named := ["skipgraph/skipgraphworld.letters"], apart := false, laid := [("skipgraph/skipgraphworld.letters", laid_skipgraph_skipgraphworld_letters)], narrowed := true }
def CollectStepsUptoSaid : Prop := collectStepsUptoRow.holds Tryd.pinned (OpenSpec.upto collectStepsSpec)

/-- 'skipgraphlaw34.CollectComplete', WHERE WHAT IT READS IS OF BULK AT MOST 1048576: true; the input reads as it did. -/
def collectCompleteUptoRow : OpenClaim := { program := "ytcllahjpinbiaaadoor", sum := "ab31d2cc7ead7006d338d3ce0ee340e5288601640282da652874d29128605acc", func := "skipgraph/skipgraphlaw34.CollectComplete", spec := "collectComplete", named := ["skipgraph/skipgraphworld.letters"], apart := false, laid := [("skipgraph/skipgraphworld.letters", laid_skipgraph_skipgraphworld_letters)], narrowed := true }
def CollectCompleteUptoSaid : Prop := collectCompleteUptoRow.holds Tryd.pinned (OpenSpec.upto collectCompleteSpec)

/-- 'skipgraphlaw34.CollectSafe', WHERE WHAT IT READS IS OF BULK AT MOST 1048576: true; the input reads as it did. -/
def collectSafeUptoRow : OpenClaim := { program := "ytcllahjpinbiaaadoor", sum := "ab31d2cc7ead7006d338d3ce0ee340e5288601640282da652874d29128605acc", func := "skipgraph/skipgraphlaw34.CollectSafe", spec := "collectSafe", named := ["skipgraph/skipgraphworld.letters"], apart := false, laid := [("skipgraph/skipgraphworld.letters", laid_skipgraph_skipgraphworld_letters)], narrowed := true }
def CollectSafeUptoSaid : Prop := collectSafeUptoRow.holds Tryd.pinned (OpenSpec.upto collectSafeSpec)

/-- 'skipgraphlaw34.CollectCleans', WHERE WHAT IT READS IS OF BULK AT MOST 1048576: true; the input reads as it did. -/
def collectCleansUptoRow : OpenClaim := { program := "ytcllahjpinbiaaadoor", sum := "ab31d2cc7ead7006d338d3ce0ee340e5288601640282da652874d29128605acc", func := "skipgraph/skipgraphlaw34.CollectCleans", spec := "collectCleans", named := ["skipgraph/skipgraphworld.letters"], apart := false, laid := [("skipgraph/skipgraphworld.letters", laid_skipgraph_skipgraphworld_letters)], narrowed := true }
def CollectCleansUptoSaid : Prop := collectCleansUptoRow.holds Tryd.pinned (OpenSpec.upto collectCleansSpec)

end Rows
end Go.Proofs.YtcllahjpinbiaaaDoor
