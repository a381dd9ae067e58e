/-
  NARROWER THAN 'FOR EVERY INPUT', by the rows' own cells (each row's printed sentence says how): FoldOf: laid · FoldValid: laid · FoldMonoid: laid · FoldParts: laid.
  DERIVED. THE GIVEN ROWS OF THIS SEAT. 4 by the template 'for every input the law returns true; each argument reads behind the call as it read before'; 0 by the template 'total and deterministic' (their statements: YtnpemjhllmfedaaDoorTotals.lean).
  GIVEN WITH THE SEED: the statements are not yours to turn. If you find one false, say at which input.
  Laid BY PROGRAM, IN A SANDBOX (cutbox-rows.mjs): the forced cells as the released guide's own fill.sh prints them over the translation 71c315bfbb032e5b… (all of the seat's roots in one cut). By AI agents, Wed Nov 11 2026. No macro, syntax, notation, axiom, sorry.
-/
import Derived.Test.YtnpemjhllmfedaaDoorChecked
import GoSem.Claim
import GoSem.ClaimJoined
import GoSem.ClaimMapViews
import Derived.JoinedTies
import Derived.KernelRfl
namespace Go.Proofs.YtnpemjhllmfedaaDoor
/- THE CELL 'sum', in the pinned program and in every row, IS THE sha256 OF THE DUMP (.gsa) THAT YtnpemjhllmfedaaDoorProg.lean LOADS. Nothing in Lean hashes anything: it is a label: what it is worth is what the hold of that sum in a sandbox is worth. -/
noncomputable def Tryd.pinned : Pinned := { name := "ytnpemjhllmfedaadoor", sum := "71c315bfbb032e5b9a31cbb6294303925be5e0b18dfb4d80320b5d75aa3ec4a0", checked := Tryd.checked }
namespace Rows
def none {H : Type} : Left H := { results := [], args := [] }

/- WHAT THE LISTED PACKAGE-LEVEL VARIABLES READ AS WHEN THE CALL BEGINS. Each datum BY PROGRAM (the guide's laid-datum.mjs) off the statement by which the dump's own 'gosem.cut.vars' lays the variable. In a bare row this is a premise. The card (YtnpemjhllmfedaaDoorCards.lean) ties it to the program's text. -/
def laid_skipgraph_skipgraphworld_letters {H : Type} : DataW H := .agg [.lit (.string [97]), .lit (.string [98]), .lit (.string [99]), .lit (.string [0]), .lit (.string [255]), .lit (.string [109])]

/-- 'skipgraphlaw21.FoldOf': WHATEVER THE INPUT: true; the input reads as it did. -/
def foldOfSpec : ChangeSpec := { name := "foldOf", fn := fun _ => fun
  | [d1, d2] => { results := [.lit (.bool true)], args := [d1, d2] }
  | _ => none }
def foldOfRow : OpenClaim := { program := "ytnpemjhllmfedaadoor", sum := "71c315bfbb032e5b9a31cbb6294303925be5e0b18dfb4d80320b5d75aa3ec4a0", func := "skipgraph/skipgraphlaw21.FoldOf", spec := "foldOf", named := ["skipgraph/skipgraphworld.letters"], apart := false, laid := [("skipgraph/skipgraphworld.letters", laid_skipgraph_skipgraphworld_letters)] }
def FoldOfSaid : Prop := foldOfRow.holds Tryd.pinned (OpenSpec.ofChange foldOfSpec)

/-- ITS FALSE NEIGHBOUR: 'it returns false'. Refute it at one input. -/
def foldOfWrong : ChangeSpec := { name := "foldOf", fn := fun _ => fun
  | [d1, d2] => { results := [.lit (.bool false)], args := [d1, d2] }
  | _ => none }
def FoldOfWrongFalsely : Prop := foldOfRow.holds Tryd.pinned (OpenSpec.ofChange foldOfWrong)

/-- 'skipgraphlaw21.FoldValid': WHATEVER THE INPUT: true; the input reads as it did. -/
def foldValidSpec : ChangeSpec := { name := "foldValid", fn := fun _ => fun
  | [d1, d2] => { results := [.lit (.bool true)], args := [d1, d2] }
  | _ => none }
def foldValidRow : OpenClaim := { program := "ytnpemjhllmfedaadoor", sum := "71c315bfbb032e5b9a31cbb6294303925be5e0b18dfb4d80320b5d75aa3ec4a0", func := "skipgraph/skipgraphlaw21.FoldValid", spec := "foldValid", named := ["skipgraph/skipgraphworld.letters"], apart := false, laid := [("skipgraph/skipgraphworld.letters", laid_skipgraph_skipgraphworld_letters)] }
def FoldValidSaid : Prop := foldValidRow.holds Tryd.pinned (OpenSpec.ofChange foldValidSpec)

/-- ITS FALSE NEIGHBOUR: 'it returns false'. Refute it at one input. -/
def foldValidWrong : ChangeSpec := { name := "foldValid", fn := fun _ => fun
  | [d1, d2] => { results := [.lit (.bool false)], args := [d1, d2] }
  | _ => none }
def FoldValidWrongFalsely : Prop := foldValidRow.holds Tryd.pinned (OpenSpec.ofChange foldValidWrong)

/-- 'skipgraphlaw21.FoldMonoid': WHATEVER THE INPUT: true; the input reads as it did. -/
def foldMonoidSpec : ChangeSpec := { name := "foldMonoid", fn := fun _ => fun
  | [d] => { results := [.lit (.bool true)], args := [d] }
  | _ => none }
def foldMonoidRow : OpenClaim := { program := "ytnpemjhllmfedaadoor", sum := "71c315bfbb032e5b9a31cbb6294303925be5e0b18dfb4d80320b5d75aa3ec4a0", func := "skipgraph/skipgraphlaw21.FoldMonoid", spec := "foldMonoid", named := ["skipgraph/skipgraphworld.letters"], apart := false, laid := [("skipgraph/skipgraphworld.letters", laid_skipgraph_skipgraphworld_letters)] }
def FoldMonoidSaid : Prop := foldMonoidRow.holds Tryd.pinned (OpenSpec.ofChange foldMonoidSpec)

/-- ITS FALSE NEIGHBOUR: 'it returns false'. Refute it at one input. -/
def foldMonoidWrong : ChangeSpec := { name := "foldMonoid", fn := fun _ => fun
  | [d] => { results := [.lit (.bool false)], args := [d] }
  | _ => none }
def FoldMonoidWrongFalsely : Prop := foldMonoidRow.holds Tryd.pinned (OpenSpec.ofChange foldMonoidWrong)

/-- 'skipgraphlaw21.FoldParts': WHATEVER THE INPUT: true; the input reads as it did. -/
def foldPartsSpec : ChangeSpec := { name := "foldParts", fn := fun _ => fun
  | [d] => { results := [.lit (.bool true)], args := [d] }
  | _ => none }
def foldPartsRow : OpenClaim := { program := "ytnpemjhllmfedaadoor", sum := "71c315bfbb032e5b9a31cbb6294303925be5e0b18dfb4d80320b5d75aa3ec4a0", func := "skipgraph/skipgraphlaw21.FoldParts", spec := "foldParts", named := ["skipgraph/skipgraphworld.letters"], apart := false, laid := [("skipgraph/skipgraphworld.letters", laid_skipgraph_skipgraphworld_letters)] }
def FoldPartsSaid : Prop := foldPartsRow.holds Tryd.pinned (OpenSpec.ofChange foldPartsSpec)

/-- ITS FALSE NEIGHBOUR: 'it returns false'. Refute it at one input. -/
def foldPartsWrong : ChangeSpec := { name := "foldParts", fn := fun _ => fun
  | [d] => { results := [.lit (.bool false)], args := [d] }
  | _ => none }
def FoldPartsWrongFalsely : Prop := foldPartsRow.holds Tryd.pinned (OpenSpec.ofChange foldPartsWrong)

/- THE SECOND FORM. 'bulk': how many values and letters a reading holds, each counted each time it is reached (what is shared counts as often as it is met; a slice's spare places count too). A statement '..UptoSaid' is the law's where the arguments, and the package variables that the reading takes, are together of bulk at most 1048576: NARROWER than '..Said'. Prove '..Said' where nothing that the law and all that it calls make is longer than what came in: it says more and counts as full. Else prove '..UptoSaid'. A law counts once. -/
mutual
def uptoBulk {H : Type} : DataW H → Nat
  | .lit (.string bytes) => bytes.length + 1
  | .lit _ => 1
  | .nil => 1
  | .ptr d => uptoBulk d + 1
  | .slice elems spare => uptoBulkAll elems + uptoBulkAll spare + 1
  | .agg parts => uptoBulkAll parts + 1
  | .iface _ d => uptoBulk d + 1
  | .map entries => uptoBulkEntries entries + 1
  | .held _ => 1
def uptoBulkAll {H : Type} : List (DataW H) → Nat
  | [] => 0
  | d :: r => uptoBulk d + uptoBulkAll r
def uptoBulkEntries {H : Type} : List (Lit × DataW H) → Nat
  | [] => 0
  | x :: r => uptoBulkEntry x + uptoBulkEntries r
def uptoBulkEntry {H : Type} : Lit × DataW H → Nat
  | (.string bytes, d) => bytes.length + uptoBulk d + 1
  | (_, d) => uptoBulk d + 1
 end
def uptoSmall : (H : Type) → List (DataW H) → Bool := fun _ ds => decide (uptoBulkAll ds ≤ 1048576)
def OpenSpec.upto (s : _root_.Go.ChangeSpec) : _root_.Go.OpenSpec := { _root_.Go.OpenSpec.ofChange s with cond := some uptoSmall }

/-- 'skipgraphlaw21.FoldOf', WHERE WHAT IT READS IS OF BULK AT MOST 1048576: true; the input reads as it did. -/
def foldOfUptoRow : OpenClaim := { program := "ytnpemjhllmfedaadoor", sum := "71c315bfbb032e5b9a31cbb6294303925be5e0b18dfb4d80320b5d75aa3ec4a0", func := "skipgraph/skipgraphlaw21.FoldOf", spec := "foldOf", named := ["skipgraph/skipgraphworld.letters"], apart := false, laid := [("skipgraph/skipgraphworld.letters", laid_skipgraph_skipgraphworld_letters)], narrowed := true }
def FoldOfUptoSaid : Prop := foldOfUptoRow.holds Tryd.pinned (OpenSpec.upto foldOfSpec)

/-- 'skipgraphlaw21.FoldValid', WHERE WHAT IT READS IS OF BULK AT MOST 1048576: true; the input reads as it did. -/
def foldValidUptoRow : OpenClaim := { program := "ytnpemjhllmfedaadoor", sum := "71c315bfbb032e5b9a31cbb6294303925be5e0b18dfb4d80320b5d75aa3ec4a0", func := "skipgraph/skipgraphlaw21.FoldValid", spec := "foldValid", named := ["skipgraph/skipgraphworld.letters"], apart := false, laid := [("skipgraph/skipgraphworld.letters", laid_skipgraph_skipgraphworld_letters)], narrowed := true }
def FoldValidUptoSaid : Prop := foldValidUptoRow.holds Tryd.pinned (OpenSpec.upto foldValidSpec)

/-- 'skipgraphlaw21.FoldMonoid', WHERE WHAT IT READS IS OF BULK AT MOST 1048576: true; the input reads as it did. -/
def foldMonoidUptoRow : OpenClaim := { program := "ytnpemjhllmfedaadoor", sum := "71c315bfbb032e5b9a31cbb6294303925be5e0b18dfb4d80320b5d75aa3ec4a0", func := "skipgraph/skipgraphlaw21.FoldMonoid", spec := "foldMonoid", named := ["skipgraph/skipgraphworld.letters"], apart := false, laid := [("skipgraph/skipgraphworld.letters", laid_skipgraph_skipgraphworld_letters)], narrowed := true }
def FoldMonoidUptoSaid : Prop := foldMonoidUptoRow.holds Tryd.pinned (OpenSpec.upto foldMonoidSpec)

/-- 'skipgraphlaw21.FoldParts', WHERE WHAT IT READS IS OF BULK AT MOST 1048576: true; the input reads as it did. -/
def foldPartsUptoRow : OpenClaim := { program := "ytnpemjhllmfedaadoor", sum := "71c315bfbb032e5b9a31cbb6294303925be5e0b18dfb4d80320b5d75aa3ec4a0", func := "skipgraph/skipgraphlaw21.FoldParts", spec := "foldParts", named := ["skipgraph/skipgraphworld.letters"], apart := false, laid := [("skipgraph/skipgraphworld.letters", laid_skipgraph_skipgraphworld_letters)], narrowed := true }
def FoldPartsUptoSaid : Prop := foldPartsUptoRow.holds Tryd.pinned (OpenSpec.upto foldPartsSpec)

end Rows
end Go.Proofs.YtnpemjhllmfedaaDoor
