/-
  NARROWER THAN 'FOR EVERY INPUT', by the rows' own cells (each row's printed sentence says how): TableValid: laid · TableReads: laid · TableBounds: laid · TablePuts: laid · TableOthers: laid · TableDiffs: laid · TableLeads: laid · TableCuts: laid.
  DERIVED. THE GIVEN ROWS OF THIS SEAT. 8 by the template 'for every input the law returns true; each argument reads behind the call as it read before'; 0 by the template 'total and deterministic' (their statements: YtkdofckkhdnmfaaDoorTotals.lean).
  GIVEN WITH THE SEED: the statements are not yours to turn. If you find one false, say at which input.
  Laid BY PROGRAM, IN A SANDBOX (cutbox-rows.mjs): the forced cells as the released guide's own fill.sh prints them over the translation 903d828e02688bb1… (all of the seat's roots in one cut). By AI agents, Wed Nov 11 2026. No macro, syntax, notation, axiom, sorry.
-/
import Derived.Test.YtkdofckkhdnmfaaDoorChecked
import GoSem.Claim
import GoSem.ClaimJoined
import GoSem.ClaimMapViews
import Derived.JoinedTies
import Derived.KernelRfl
namespace Go.Proofs.YtkdofckkhdnmfaaDoor
/- THE CELL 'sum', in the pinned program and in every row, IS THE sha256 OF THE DUMP (.gsa) THAT YtkdofckkhdnmfaaDoorProg.lean LOADS. Nothing in Lean hashes anything: it is a label: what it is worth is what the hold of that sum in a sandbox is worth. -/
noncomputable def Tryd.pinned : Pinned := { name := "ytkdofckkhdnmfaadoor", sum := "903d828e02688bb12e423ce9f2b7618326f66a233d982dfa72558da83f4c90f4", checked := Tryd.checked }
namespace Rows
def none {H : Type} : Left H := { results := [], args := [] }

/- WHAT THE LISTED PACKAGE-LEVEL VARIABLES READ AS WHEN THE CALL BEGINS. Each datum BY PROGRAM (the guide's laid-datum.mjs) off the statement by which the dump's own 'gosem.cut.vars' lays the variable. In a bare row this is a premise. The card (YtkdofckkhdnmfaaDoorCards.lean) ties it to the program's text. -/
def laid_skipgraph_skipgraphworld_letters {H : Type} : DataW H := .agg [.lit (.string [97]), .lit (.string [98]), .lit (.string [99]), .lit (.string [0]), .lit (.string [255]), .lit (.string [109])]

/-- 'skipgraphlaw20.TableValid': WHATEVER THE INPUT: true; the input reads as it did. -/
def tableValidSpec : ChangeSpec := { name := "tableValid", fn := fun _ => fun
  | [d1, d2, d3] => { results := [.lit (.bool true)], args := [d1, d2, d3] }
  | _ => none }
def tableValidRow : OpenClaim := { program := "ytkdofckkhdnmfaadoor", sum := "903d828e02688bb12e423ce9f2b7618326f66a233d982dfa72558da83f4c90f4", func := "skipgraph/skipgraphlaw20.TableValid", spec := "tableValid", named := ["skipgraph/skipgraphworld.letters"], apart := false, laid := [("skipgraph/skipgraphworld.letters", laid_skipgraph_skipgraphworld_letters)] }
def TableValidSaid : Prop := tableValidRow.holds Tryd.pinned (OpenSpec.ofChange tableValidSpec)

/-- ITS FALSE NEIGHBOUR: 'it returns false'. Refute it at one input. -/
def tableValidWrong : ChangeSpec := { name := "tableValid", fn := fun _ => fun
  | [d1, d2, d3] => { results := [.lit (.bool false)], args := [d1, d2, d3] }
  | _ => none }
def TableValidWrongFalsely : Prop := tableValidRow.holds Tryd.pinned (OpenSpec.ofChange tableValidWrong)

/-- 'skipgraphlaw20.TableReads': WHATEVER THE INPUT: true; the input reads as it did. -/
def tableReadsSpec : ChangeSpec := { name := "tableReads", fn := fun _ => fun
  | [d1, d2, d3] => { results := [.lit (.bool true)], args := [d1, d2, d3] }
  | _ => none }
def tableReadsRow : OpenClaim := { program := "ytkdofckkhdnmfaadoor", sum := "903d828e02688bb12e423ce9f2b7618326f66a233d982dfa72558da83f4c90f4", func := "skipgraph/skipgraphlaw20.TableReads", spec := "tableReads", named := ["skipgraph/skipgraphworld.letters"], apart := false, laid := [("skipgraph/skipgraphworld.letters", laid_skipgraph_skipgraphworld_letters)] }
def TableReadsSaid : Prop := tableReadsRow.holds Tryd.pinned (OpenSpec.ofChange tableReadsSpec)

/-- ITS FALSE NEIGHBOUR: 'it returns false'. Refute it at one input. -/
def tableReadsWrong : ChangeSpec := { name := "tableReads", fn := fun _ => fun
  | [d1, d2, d3] => { results := [.lit (.bool false)], args := [d1, d2, d3] }
  | _ => none }
def TableReadsWrongFalsely : Prop := tableReadsRow.holds Tryd.pinned (OpenSpec.ofChange tableReadsWrong)

/-- 'skipgraphlaw20.TableBounds': WHATEVER THE INPUT: true; the input reads as it did. -/
def tableBoundsSpec : ChangeSpec := { name := "tableBounds", fn := fun _ => fun
  | [d1, d2, d3] => { results := [.lit (.bool true)], args := [d1, d2, d3] }
  | _ => none }
def tableBoundsRow : OpenClaim := { program := "ytkdofckkhdnmfaadoor", sum := "903d828e02688bb12e423ce9f2b7618326f66a233d982dfa72558da83f4c90f4", func := "skipgraph/skipgraphlaw20.TableBounds", spec := "tableBounds", unfollowed := true, recurses := true, named := ["skipgraph/skipgraphworld.letters"], apart := false, laid := [("skipgraph/skipgraphworld.letters", laid_skipgraph_skipgraphworld_letters)] }
def TableBoundsSaid : Prop := tableBoundsRow.holds Tryd.pinned (OpenSpec.ofChange tableBoundsSpec)

/-- ITS FALSE NEIGHBOUR: 'it returns false'. Refute it at one input. -/
def tableBoundsWrong : ChangeSpec := { name := "tableBounds", fn := fun _ => fun
  | [d1, d2, d3] => { results := [.lit (.bool false)], args := [d1, d2, d3] }
  | _ => none }
def TableBoundsWrongFalsely : Prop := tableBoundsRow.holds Tryd.pinned (OpenSpec.ofChange tableBoundsWrong)

/-- 'skipgraphlaw20.TablePuts': WHATEVER THE INPUT: true; the input reads as it did. -/
def tablePutsSpec : ChangeSpec := { name := "tablePuts", fn := fun _ => fun
  | [d1, d2, d3] => { results := [.lit (.bool true)], args := [d1, d2, d3] }
  | _ => none }
def tablePutsRow : OpenClaim := { program := "ytkdofckkhdnmfaadoor", sum := "903d828e02688bb12e423ce9f2b7618326f66a233d982dfa72558da83f4c90f4", func := "skipgraph/skipgraphlaw20.TablePuts", spec := "tablePuts", unfollowed := true, recurses := true, named := ["skipgraph/skipgraphworld.letters"], apart := false, laid := [("skipgraph/skipgraphworld.letters", laid_skipgraph_skipgraphworld_letters)] }
def TablePutsSaid : Prop := tablePutsRow.holds Tryd.pinned (OpenSpec.ofChange tablePutsSpec)

/-- ITS FALSE NEIGHBOUR: 'it returns false'. Refute it at one input. -/
def tablePutsWrong : ChangeSpec := { name := "tablePuts", fn := fun _ => fun
  | [d1, d2, d3] => { results := [.lit (.bool false)], args := [d1, d2, d3] }
  | _ => none }
def TablePutsWrongFalsely : Prop := tablePutsRow.holds Tryd.pinned (OpenSpec.ofChange tablePutsWrong)

/-- 'skipgraphlaw20.TableOthers': WHATEVER THE INPUT: true; the input reads as it did. -/
def tableOthersSpec : ChangeSpec := { name := "tableOthers", fn := fun _ => fun
  | [d] => { results := [.lit (.bool true)], args := [d] }
  | _ => none }
def tableOthersRow : OpenClaim := { program := "ytkdofckkhdnmfaadoor", sum := "903d828e02688bb12e423ce9f2b7618326f66a233d982dfa72558da83f4c90f4", func := "skipgraph/skipgraphlaw20.TableOthers", spec := "tableOthers", unfollowed := true, recurses := true, named := ["skipgraph/skipgraphworld.letters"], apart := false, laid := [("skipgraph/skipgraphworld.letters", laid_skipgraph_skipgraphworld_letters)] }
def TableOthersSaid : Prop := tableOthersRow.holds Tryd.pinned (OpenSpec.ofChange tableOthersSpec)

/-- ITS FALSE NEIGHBOUR: 'it returns false'. Refute it at one input. -/
def tableOthersWrong : ChangeSpec := { name := "tableOthers", fn := fun _ => fun
  | [d] => { results := [.lit (.bool false)], args := [d] }
  | _ => none }
def TableOthersWrongFalsely : Prop := tableOthersRow.holds Tryd.pinned (OpenSpec.ofChange tableOthersWrong)

/-- 'skipgraphlaw20.TableDiffs': WHATEVER THE INPUT: true; the input reads as it did. -/
def tableDiffsSpec : ChangeSpec := { name := "tableDiffs", fn := fun _ => fun
  | [d1, d2] => { results := [.lit (.bool true)], args := [d1, d2] }
  | _ => none }
def tableDiffsRow : OpenClaim := { program := "ytkdofckkhdnmfaadoor", sum := "903d828e02688bb12e423ce9f2b7618326f66a233d982dfa72558da83f4c90f4", func := "skipgraph/skipgraphlaw20.TableDiffs", spec := "tableDiffs", unfollowed := true, recurses := true, named := ["skipgraph/skipgraphworld.letters"], apart := false, laid := [("skipgraph/skipgraphworld.letters", laid_skipgraph_skipgraphworld_letters)] }
def TableDiffsSaid : Prop := tableDiffsRow.holds Tryd.pinned (OpenSpec.ofChange tableDiffsSpec)

/-- ITS FALSE NEIGHBOUR: 'it returns false'. Refute it at one input. -/
def tableDiffsWrong : ChangeSpec := { name := "tableDiffs", fn := fun _ => fun
  | [d1, d2] => { results := [.lit (.bool false)], args := [d1, d2] }
  | _ => none }
def TableDiffsWrongFalsely : Prop := tableDiffsRow.holds Tryd.pinned (OpenSpec.ofChange tableDiffsWrong)

/-- 'skipgraphlaw20.TableLeads': WHATEVER THE INPUT: true; the input reads as it did. -/
def tableLeadsSpec : ChangeSpec := { name := "tableLeads", fn := fun _ => fun
  | [d1, d2, d3] => { results := [.lit (.bool true)], args := [d1, d2, d3] }
  | _ => none }
def tableLeadsRow : OpenClaim := { program := "ytkdofckkhdnmfaadoor", sum := "903d828e02688bb12e423ce9f2b7618326f66a233d982dfa72558da83f4c90f4", func := "skipgraph/skipgraphlaw20.TableLeads", spec := "tableLeads", unfollowed := true, recurses := true, named := ["skipgraph/skipgraphworld.letters"], apart := false, laid := [("skipgraph/skipgraphworld.letters", laid_skipgraph_skipgraphworld_letters)] }
def TableLeadsSaid : Prop := tableLeadsRow.holds Tryd.pinned (OpenSpec.ofChange tableLeadsSpec)

/-- ITS FALSE NEIGHBOUR: 'it returns false'. Refute it at one input. -/
def tableLeadsWrong : ChangeSpec := { name := "tableLeads", fn := fun _ => fun
  | [d1, d2, d3] => { results := [.lit (.bool false)], args := [d1, d2, d3] }
  | _ => none }
def TableLeadsWrongFalsely : Prop := tableLeadsRow.holds Tryd.pinned (OpenSpec.ofChange tableLeadsWrong)

/-- 'skipgraphlaw20.TableCuts': WHATEVER THE INPUT: true; the input reads as it did. -/
def tableCutsSpec : ChangeSpec := { name := "tableCuts", fn := fun _ => fun
  | [d] => { results := [.lit (.bool true)], args := [d] }
  | _ => none }
def tableCutsRow : OpenClaim := { program := "ytkdofckkhdnmfaadoor", sum := "903d828e02688bb12e423ce9f2b7618326f66a233d982dfa72558da83f4c90f4", func := "skipgraph/skipgraphlaw20.TableCuts", spec := "tableCuts", unfollowed := true, recurses := true, named := ["skipgraph/skipgraphworld.letters"], apart := false, laid := [("skipgraph/skipgraphworld.letters", laid_skipgraph_skipgraphworld_letters)] }
def TableCutsSaid : Prop := tableCutsRow.holds Tryd.pinned (OpenSpec.ofChange tableCutsSpec)

/-- ITS FALSE NEIGHBOUR: 'it returns false'. Refute it at one input. -/
def tableCutsWrong : ChangeSpec := { name := "tableCuts", fn := fun _ => fun
  | [d] => { results := [.lit (.bool false)], args := [d] }
  | _ => none }
def TableCutsWrongFalsely : Prop := tableCutsRow.holds Tryd.pinned (OpenSpec.ofChange tableCutsWrong)

/- THE SECOND FORM. 'bulk': how many values and letters a reading holds, each counted each time it is reached (what is shared counts as often as it is met; a slice's spare places count too). A statement '..UptoSaid' is the law's where the arguments, and the package variables that the reading takes, are together of bulk at most 1048576: NARROWER than '..Said'. Prove '..Said' where nothing that the law and all that it calls make is longer than what came in: it says more and counts as full. Else prove '..UptoSaid'. A law counts once. -/
mutual
def uptoBulk {H : Type} : DataW H → Nat
  | .lit (.string bytes) => bytes.length + 1
  | .lit _ => 1
  | .nil => 1
  | .ptr d => uptoBulk d + 1
  | .slice elems spare => uptoBulkAll elems + uptoBulkAll spare + 1
  | .agg parts => uptoBulkAll parts + 1
  | .iface _ d => uptoBulk d + 1
  | .map entries => uptoBulkEntries entries + 1
  | .held _ => 1
def uptoBulkAll {H : Type} : List (DataW H) → Nat
  | [] => 0
  | d :: r => uptoBulk d + uptoBulkAll r
def uptoBulkEntries {H : Type} : List (Lit × DataW H) → Nat
  | [] => 0
  | x :: r => uptoBulkEntry x + uptoBulkEntries r
def uptoBulkEntry {H : Type} : Lit × DataW H → Nat
  | (.string bytes, d) => bytes.length + uptoBulk d + 1
  | (_, d) => uptoBulk d + 1
 end
def uptoSmall : (H : Type) → List (DataW H) → Bool := fun _ ds => decide (uptoBulkAll ds ≤ 1048576)
def OpenSpec.upto (s : _root_.Go.ChangeSpec) : _root_.Go.OpenSpec := { _root_.Go.OpenSpec.ofChange s with cond := some uptoSmall }

/-- 'skipgraphlaw20.TableValid', WHERE WHAT IT READS IS OF BULK AT MOST 1048576: true; the input reads as it did. -/
def tableValidUptoRow : OpenClaim := { program := "ytkdofckkhdnmfaadoor", sum := "903d828e02688bb12e423ce9f2b7618326f66a233d982dfa72558da83f4c90f4", func := "skipgraph/skipgraphlaw20.TableValid", spec := "tableValid", named := ["skipgraph/skipgraphworld.letters"], apart := false, laid := [("skipgraph/skipgraphworld.letters", laid_skipgraph_skipgraphworld_letters)], narrowed := true }
def TableValidUptoSaid : Prop := tableValidUptoRow.holds Tryd.pinned (OpenSpec.upto tableValidSpec)

/-- 'skipgraphlaw20.TableReads', WHERE WHAT IT READS IS OF BULK AT MOST 1048576: true; the input reads as it did. -/
def tableReadsUptoRow : OpenClaim := { program := "ytkdofckkhdnmfaadoor", sum := "903d828e02688bb12e423ce9f2b7618326f66a233d982dfa72558da83f4c90f4", func := "skipgraph/skipgraphlaw20.TableReads", spec := "tableReads", named := ["skipgraph/skipgraphworld.letters"], apart := false, laid := [("skipgraph/skipgraphworld.letters", laid_skipgraph_skipgraphworld_letters)], narrowed := true }
def TableReadsUptoSaid : Prop := tableReadsUptoRow.holds Tryd.pinned (OpenSpec.upto tableReadsSpec)

/-- 'skipgraphlaw20.TableBounds', WHERE WHAT IT READS IS OF BULK AT MOST 1048576: true; the input reads as it did. -/
def tableBoundsUptoRow : OpenClaim := { program := "ytkdofckkhdnmfaadoor", sum := "903d828e02688bb12e423ce9f2b7618326f66a233d982dfa72558da83f4c90f4", func := "skipgraph/skipgraphlaw20.TableBounds", spec := "tableBounds", unfollowed := true, recurses := true, named := ["skipgraph/skipgraphworld.letters"], apart := false, laid := [("skipgraph/skipgraphworld.letters", laid_skipgraph_skipgraphworld_letters)], narrowed := true }
def TableBoundsUptoSaid : Prop := tableBoundsUptoRow.holds Tryd.pinned (OpenSpec.upto tableBoundsSpec)

/-- 'skipgraphlaw20.TablePuts', WHERE WHAT IT READS IS OF BULK AT MOST 1048576: true; the input reads as it did. -/
def tablePutsUptoRow : OpenClaim := { program := "ytkdofckkhdnmfaadoor", sum := "903d828e02688bb12e423ce9f2b7618326f66a233d982dfa72558da83f4c90f4", func := "skipgraph/skipgraphlaw20.TablePuts", spec := "tablePuts", unfollowed := true, recurses := true, named := ["skipgraph/skipgraphworld.letters"], apart := false, laid := [("skipgraph/skipgraphworld.letters", laid_skipgraph_skipgraphworld_letters)], narrowed := true }
def TablePutsUptoSaid : Prop := tablePutsUptoRow.holds Tryd.pinned (OpenSpec.upto tablePutsSpec)

/-- 'skipgraphlaw20.TableOthers', WHERE WHAT IT READS IS OF BULK AT MOST 1048576: true; the input reads as it did. -/
def tableOthersUptoRow : OpenClaim := { program := "ytkdofckkhdnmfaadoor", sum := "903d828e02688bb12e423ce9f2b7618326f66a233d982dfa72558da83f4c90f4", func := "skipgraph/skipgraphlaw20.TableOthers", spec := "tableOthers", unfollowed := true, recurses := true, named := ["skipgraph/skipgraphworld.letters"], apart := false, laid := [("skipgraph/skipgraphworld.letters", laid_skipgraph_skipgraphworld_letters)], narrowed := true }
def TableOthersUptoSaid : Prop := tableOthersUptoRow.holds Tryd.pinned (OpenSpec.upto tableOthersSpec)

/-- 'skipgraphlaw20.TableDiffs', WHERE WHAT IT READS IS OF BULK AT MOST 1048576: true; the input reads as it did. -/
def tableDiffsUptoRow : OpenClaim := { program := "ytkdofckkhdnmfaadoor", sum := "903d828e02688bb12e423ce9f2b7618326f66a233d982dfa72558da83f4c90f4", func := "skipgraph/skipgraphlaw20.TableDiffs", spec := "tableDiffs", unfollowed := true, recurses := true, named := ["skipgraph/skipgraphworld.letters"], apart := false, laid := [("skipgraph/skipgraphworld.letters", laid_skipgraph_skipgraphworld_letters)], narrowed := true }
def TableDiffsUptoSaid : Prop := tableDiffsUptoRow.holds Tryd.pinned (OpenSpec.upto tableDiffsSpec)

/-- 'skipgraphlaw20.TableLeads', WHERE WHAT IT READS IS OF BULK AT MOST 1048576: true; the input reads as it did. -/
def tableLeadsUptoRow : OpenClaim := { program := "ytkdofckkhdnmfaadoor", sum := "903d828e02688bb12e423ce9f2b7618326f66a233d982dfa72558da83f4c90f4", func := "skipgraph/skipgraphlaw20.TableLeads", spec := "tableLeads", unfollowed := true, recurses := true, named := ["skipgraph/skipgraphworld.letters"], apart := false, laid := [("skipgraph/skipgraphworld.letters", laid_skipgraph_skipgraphworld_letters)], narrowed := true }
def TableLeadsUptoSaid : Prop := tableLeadsUptoRow.holds Tryd.pinned (OpenSpec.upto tableLeadsSpec)

/-- 'skipgraphlaw20.TableCuts', WHERE WHAT IT READS IS OF BULK AT MOST 1048576: true; the input reads as it did. -/
def tableCutsUptoRow : OpenClaim := { program := "ytkdofckkhdnmfaadoor", sum := "903d828e02688bb12e423ce9f2b7618326f66a233d982dfa72558da83f4c90f4", func := "skipgraph/skipgraphlaw20.TableCuts", spec := "tableCuts", unfollowed := true, recurses := true, named := ["skipgraph/skipgraphworld.letters"], apart := false, laid := [("skipgraph/skipgraphworld.letters", laid_skipgraph_skipgraphworld_letters)], narrowed := true }
def TableCutsUptoSaid : Prop := tableCutsUptoRow.holds Tryd.pinned (OpenSpec.upto tableCutsSpec)

end Rows
end Go.Proofs.YtkdofckkhdnmfaaDoor
