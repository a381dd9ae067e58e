/-
  NARROWER THAN 'FOR EVERY INPUT', by the rows' own cells (each row's printed sentence says how): ReplicaValid: laid · ReplicaDetaches: laid · ReplicaNew: laid · ReplicaAttaches: laid · ReplicaBack: laid · ReplicaWrites: laid · ReplicaCommits: laid · GroupDurable: laid · GroupReads: laid.
  DERIVED. THE GIVEN ROWS OF THIS SEAT. 9 by the template 'for every input the law returns true; each argument reads behind the call as it read before'; 0 by the template 'total and deterministic' (their statements: YtchfacjjaahdnaaDoorTotals.lean).
  GIVEN WITH THE SEED: the statements are not yours to turn. If you find one false, say at which input.
  Laid BY PROGRAM, IN A SANDBOX (cutbox-rows.mjs): the forced cells as the released guide's own fill.sh prints them over the translation 129cc36caf69251b… (all of the seat's roots in one cut). By AI agents, Wed Nov 11 2026. No macro, syntax, notation, axiom, sorry.
-/
import Derived.Test.YtchfacjjaahdnaaDoorChecked
import GoSem.Claim
import GoSem.ClaimJoined
import GoSem.ClaimMapViews
import Derived.JoinedTies
import Derived.KernelRfl
namespace Go.Proofs.YtchfacjjaahdnaaDoor
/- THE CELL 'sum', in the pinned program and in every row, IS THE sha256 OF THE DUMP (.gsa) THAT YtchfacjjaahdnaaDoorProg.lean LOADS. Nothing in Lean hashes anything: it is a label: what it is worth is what the hold of that sum in a sandbox is worth. -/
noncomputable def Tryd.pinned : Pinned := { name := "ytchfacjjaahdnaadoor", sum := "129cc36caf69251b61f26a285027ce8e3306b7d33412fe75f2c1ab5ba686fa1f", checked := Tryd.checked }
namespace Rows
def none {H : Type} : Left H := { results := [], args := [] }

/- WHAT THE LISTED PACKAGE-LEVEL VARIABLES READ AS WHEN THE CALL BEGINS. Each datum BY PROGRAM (the guide's laid-datum.mjs) off the statement by which the dump's own 'gosem.cut.vars' lays the variable. In a bare row this is a premise. The card (YtchfacjjaahdnaaDoorCards.lean) ties it to the program's text. -/
def laid_skipgraph_skipgraphworld_letters {H : Type} : DataW H := .agg [.lit (.string [97]), .lit (.string [98]), .lit (.string [99]), .lit (.string [0]), .lit (.string [255]), .lit (.string [109])]

/-- 'skipgraphlaw24.ReplicaValid': WHATEVER THE INPUT: true; the input reads as it did. -/
def replicaValidSpec : ChangeSpec := { name := "replicaValid", fn := fun _ => fun
  | [d1, d2] => { results := [.lit (.bool true)], args := [d1, d2] }
  | _ => none }
def replicaValidRow : OpenClaim := { program := "ytchfacjjaahdnaadoor", sum := "129cc36caf69251b61f26a285027ce8e3306b7d33412fe75f2c1ab5ba686fa1f", func := "skipgraph/skipgraphlaw24.ReplicaValid", spec := "replicaValid", named := ["skipgraph/skipgraphworld.letters"], apart := false, laid := [("skipgraph/skipgraphworld.letters", laid_skipgraph_skipgraphworld_letters)] }
def ReplicaValidSaid : Prop := replicaValidRow.holds Tryd.pinned (OpenSpec.ofChange replicaValidSpec)

/-- ITS FALSE NEIGHBOUR: 'it returns false'. Refute it at one input. -/
def replicaValidWrong : ChangeSpec := { name := "replicaValid", fn := fun _ => fun
  | [d1, d2] => { results := [.lit (.bool false)], args := [d1, d2] }
  | _ => none }
def ReplicaValidWrongFalsely : Prop := replicaValidRow.holds Tryd.pinned (OpenSpec.ofChange replicaValidWrong)

/-- 'skipgraphlaw24.ReplicaDetaches': WHATEVER THE INPUT: true; the input reads as it did. -/
def replicaDetachesSpec : ChangeSpec := { name := "replicaDetaches", fn := fun _ => fun
  | [d1, d2, d3] => { results := [.lit (.bool true)], args := [d1, d2, d3] }
  | _ => none }
def replicaDetachesRow : OpenClaim := { program := "ytchfacjjaahdnaadoor", sum := "129cc36caf69251b61f26a285027ce8e3306b7d33412fe75f2c1ab5ba686fa1f", func := "skipgraph/skipgraphlaw24.ReplicaDetaches", spec := "replicaDetaches", named := ["skipgraph/skipgraphworld.letters"], apart := false, laid := [("skipgraph/skipgraphworld.letters", laid_skipgraph_skipgraphworld_letters)] }
def ReplicaDetachesSaid : Prop := replicaDetachesRow.holds Tryd.pinned (OpenSpec.ofChange replicaDetachesSpec)

/-- ITS FALSE NEIGHBOUR: 'it returns false'. Refute it at one input. -/
def replicaDetachesWrong : ChangeSpec := { name := "replicaDetaches", fn := fun _ => fun
  | [d1, d2, d3] => { results := [.lit (.bool false)], args := [d1, d2, d3] }
  | _ => none }
def ReplicaDetachesWrongFalsely : Prop := replicaDetachesRow.holds Tryd.pinned (OpenSpec.ofChange replicaDetachesWrong)

/-- 'skipgraphlaw24.ReplicaNew': WHATEVER THE INPUT: true; the input reads as it did. -/
def replicaNewSpec : ChangeSpec := { name := "replicaNew", fn := fun _ => fun
  | [d1, d2, d3] => { results := [.lit (.bool true)], args := [d1, d2, d3] }
  | _ => none }
def replicaNewRow : OpenClaim := { program := "ytchfacjjaahdnaadoor", sum := "129cc36caf69251b61f26a285027ce8e3306b7d33412fe75f2c1ab5ba686fa1f", func := "skipgraph/skipgraphlaw24.ReplicaNew", spec := "replicaNew", named := ["skipgraph/skipgraphworld.letters"], apart := false, laid := [("skipgraph/skipgraphworld.letters", laid_skipgraph_skipgraphworld_letters)] }
def ReplicaNewSaid : Prop := replicaNewRow.holds Tryd.pinned (OpenSpec.ofChange replicaNewSpec)

/-- ITS FALSE NEIGHBOUR: 'it returns false'. Refute it at one input. -/
def replicaNewWrong : ChangeSpec := { name := "replicaNew", fn := fun _ => fun
  | [d1, d2, d3] => { results := [.lit (.bool false)], args := [d1, d2, d3] }
  | _ => none }
def ReplicaNewWrongFalsely : Prop := replicaNewRow.holds Tryd.pinned (OpenSpec.ofChange replicaNewWrong)

/-- 'skipgraphlaw24.ReplicaAttaches': WHATEVER THE INPUT: true; the input reads as it did. -/
def replicaAttachesSpec : ChangeSpec := { name := "replicaAttaches", fn := fun _ => fun
  | [d1, d2] => { results := [.lit (.bool true)], args := [d1, d2] }
  | _ => none }
def replicaAttachesRow : OpenClaim := { program := "ytchfacjjaahdnaadoor", sum := "129cc36caf69251b61f26a285027ce8e3306b7d33412fe75f2c1ab5ba686fa1f", func := "skipgraph/skipgraphlaw24.ReplicaAttaches", spec := "replicaAttaches", named := ["skipgraph/skipgraphworld.letters"], apart := false, laid := [("skipgraph/skipgraphworld.letters", laid_skipgraph_skipgraphworld_letters)] }
def ReplicaAttachesSaid : Prop := replicaAttachesRow.holds Tryd.pinned (OpenSpec.ofChange replicaAttachesSpec)

/-- ITS FALSE NEIGHBOUR: 'it returns false'. Refute it at one input. -/
def replicaAttachesWrong : ChangeSpec := { name := "replicaAttaches", fn := fun _ => fun
  | [d1, d2] => { results := [.lit (.bool false)], args := [d1, d2] }
  | _ => none }
def ReplicaAttachesWrongFalsely : Prop := replicaAttachesRow.holds Tryd.pinned (OpenSpec.ofChange replicaAttachesWrong)

/-- 'skipgraphlaw24.ReplicaBack': WHATEVER THE INPUT: true; the input reads as it did. -/
def replicaBackSpec : ChangeSpec := { name := "replicaBack", fn := fun _ => fun
  | [d] => { results := [.lit (.bool true)], args := [d] }
  | _ => none }
def replicaBackRow : OpenClaim := { program := "ytchfacjjaahdnaadoor", sum := "129cc36caf69251b61f26a285027ce8e3306b7d33412fe75f2c1ab5ba686fa1f", func := "skipgraph/skipgraphlaw24.ReplicaBack", spec := "replicaBack", named := ["skipgraph/skipgraphworld.letters"], apart := false, laid := [("skipgraph/skipgraphworld.letters", laid_skipgraph_skipgraphworld_letters)] }
def ReplicaBackSaid : Prop := replicaBackRow.holds Tryd.pinned (OpenSpec.ofChange replicaBackSpec)

/-- ITS FALSE NEIGHBOUR: 'it returns false'. Refute it at one input. -/
def replicaBackWrong : ChangeSpec := { name := "replicaBack", fn := fun _ => fun
  | [d] => { results := [.lit (.bool false)], args := [d] }
  | _ => none }
def ReplicaBackWrongFalsely : Prop := replicaBackRow.holds Tryd.pinned (OpenSpec.ofChange replicaBackWrong)

/-- 'skipgraphlaw24.ReplicaWrites': WHATEVER THE INPUT: true; the input reads as it did. -/
def replicaWritesSpec : ChangeSpec := { name := "replicaWrites", fn := fun _ => fun
  | [d1, d2] => { results := [.lit (.bool true)], args := [d1, d2] }
  | _ => none }
def replicaWritesRow : OpenClaim := { program := "ytchfacjjaahdnaadoor", sum := "129cc36caf69251b61f26a285027ce8e3306b7d33412fe75f2c1ab5ba686fa1f", func := "skipgraph/skipgraphlaw24.ReplicaWrites", spec := "replicaWrites", unfollowed := true, recurses := true, named := ["skipgraph/skipgraphworld.letters"], apart := false, laid := [("skipgraph/skipgraphworld.letters", laid_skipgraph_skipgraphworld_letters)] }
def ReplicaWritesSaid : Prop := replicaWritesRow.holds Tryd.pinned (OpenSpec.ofChange replicaWritesSpec)

/-- ITS FALSE NEIGHBOUR: 'it returns false'. Refute it at one input. -/
def replicaWritesWrong : ChangeSpec := { name := "replicaWrites", fn := fun _ => fun
  | [d1, d2] => { results := [.lit (.bool false)], args := [d1, d2] }
  | _ => none }
def ReplicaWritesWrongFalsely : Prop := replicaWritesRow.holds Tryd.pinned (OpenSpec.ofChange replicaWritesWrong)

/-- 'skipgraphlaw24.ReplicaCommits': WHATEVER THE INPUT: true; the input reads as it did. -/
def replicaCommitsSpec : ChangeSpec := { name := "replicaCommits", fn := fun _ => fun
  | [d] => { results := [.lit (.bool true)], args := [d] }
  | _ => none }
def replicaCommitsRow : OpenClaim := { program := "ytchfacjjaahdnaadoor", sum := "129cc36caf69251b61f26a285027ce8e3306b7d33412fe75f2c1ab5ba686fa1f", func := "skipgraph/skipgraphlaw24.ReplicaCommits", spec := "replicaCommits", unfollowed := true, recurses := true, named := ["skipgraph/skipgraphworld.letters"], apart := false, laid := [("skipgraph/skipgraphworld.letters", laid_skipgraph_skipgraphworld_letters)] }
def ReplicaCommitsSaid : Prop := replicaCommitsRow.holds Tryd.pinned (OpenSpec.ofChange replicaCommitsSpec)

/-- ITS FALSE NEIGHBOUR: 'it returns false'. Refute it at one input. -/
def replicaCommitsWrong : ChangeSpec := { name := "replicaCommits", fn := fun _ => fun
  | [d] => { results := [.lit (.bool false)], args := [d] }
  | _ => none }
def ReplicaCommitsWrongFalsely : Prop := replicaCommitsRow.holds Tryd.pinned (OpenSpec.ofChange replicaCommitsWrong)

/-- 'skipgraphlaw25.GroupDurable': WHATEVER THE INPUT: true; the input reads as it did. -/
def groupDurableSpec : ChangeSpec := { name := "groupDurable", fn := fun _ => fun
  | [d] => { results := [.lit (.bool true)], args := [d] }
  | _ => none }
def groupDurableRow : OpenClaim := { program := "ytchfacjjaahdnaadoor", sum := "129cc36caf69251b61f26a285027ce8e3306b7d33412fe75f2c1ab5ba686fa1f", func := "skipgraph/skipgraphlaw25.GroupDurable", spec := "groupDurable", unfollowed := true, recurses := true, named := ["skipgraph/skipgraphworld.letters"], apart := false, laid := [("skipgraph/skipgraphworld.letters", laid_skipgraph_skipgraphworld_letters)] }
def GroupDurableSaid : Prop := groupDurableRow.holds Tryd.pinned (OpenSpec.ofChange groupDurableSpec)

/-- ITS FALSE NEIGHBOUR: 'it returns false'. Refute it at one input. -/
def groupDurableWrong : ChangeSpec := { name := "groupDurable", fn := fun _ => fun
  | [d] => { results := [.lit (.bool false)], args := [d] }
  | _ => none }
def GroupDurableWrongFalsely : Prop := groupDurableRow.holds Tryd.pinned (OpenSpec.ofChange groupDurableWrong)

/-- 'skipgraphlaw25.GroupReads': WHATEVER THE INPUT: true; the input reads as it did. -/
def groupReadsSpec : ChangeSpec := { name := "groupReads", fn := fun _ => fun
  | [d] => { results := [.lit (.bool true)], args := [d] }
  | _ => none }
def groupReadsRow : OpenClaim := { program := "ytchfacjjaahdnaadoor", sum := "129cc36caf69251b61f26a285027ce8e3306b7d33412fe75f2c1ab5ba686fa1f", func := "skipgraph/skipgraphlaw25.GroupReads", spec := "groupReads", unfollowed := true, recurses := true, named := ["skipgraph/skipgraphworld.letters"], apart := false, laid := [("skipgraph/skipgraphworld.letters", laid_skipgraph_skipgraphworld_letters)] }
def GroupReadsSaid : Prop := groupReadsRow.holds Tryd.pinned (OpenSpec.ofChange groupReadsSpec)

/-- ITS FALSE NEIGHBOUR: 'it returns false'. Refute it at one input. -/
def groupReadsWrong : ChangeSpec := { name := "groupReads", fn := fun _ => fun
  | [d] => { results := [.lit (.bool false)], args := [d] }
  | _ => none }
def GroupReadsWrongFalsely : Prop := groupReadsRow.holds Tryd.pinned (OpenSpec.ofChange groupReadsWrong)

/- THE SECOND FORM. 'bulk': how many values and letters a reading holds, each counted each time it is reached (what is shared counts as often as it is met; a slice's spare places count too). A statement '..UptoSaid' is the law's where the arguments, and the package variables that the reading takes, are together of bulk at most 1048576: NARROWER than '..Said'. Prove '..Said' where nothing that the law and all that it calls make is longer than what came in: it says more and counts as full. Else prove '..UptoSaid'. A law counts once. -/
mutual
def uptoBulk {H : Type} : DataW H → Nat
  | .lit (.string bytes) => bytes.length + 1
  | .lit _ => 1
  | .nil => 1
  | .ptr d => uptoBulk d + 1
  | .slice elems spare => uptoBulkAll elems + uptoBulkAll spare + 1
  | .agg parts => uptoBulkAll parts + 1
  | .iface _ d => uptoBulk d + 1
  | .map entries => uptoBulkEntries entries + 1
  | .held _ => 1
def uptoBulkAll {H : Type} : List (DataW H) → Nat
  | [] => 0
  | d :: r => uptoBulk d + uptoBulkAll r
def uptoBulkEntries {H : Type} : List (Lit × DataW H) → Nat
  | [] => 0
  | x :: r => uptoBulkEntry x + uptoBulkEntries r
def uptoBulkEntry {H : Type} : Lit × DataW H → Nat
  | (.string bytes, d) => bytes.length + uptoBulk d + 1
  | (_, d) => uptoBulk d + 1
 end
def uptoSmall : (H : Type) → List (DataW H) → Bool := fun _ ds => decide (uptoBulkAll ds ≤ 1048576)
def OpenSpec.upto (s : _root_.Go.ChangeSpec) : _root_.Go.OpenSpec := { _root_.Go.OpenSpec.ofChange s with cond := some uptoSmall }

/-- 'skipgraphlaw24.ReplicaValid', WHERE WHAT IT READS IS OF BULK AT MOST 1048576: true; the input reads as it did. -/
def replicaValidUptoRow : OpenClaim := { program := "ytchfacjjaahdnaadoor", sum := "129cc36caf69251b61f26a285027ce8e3306b7d33412fe75f2c1ab5ba686fa1f", func := "skipgraph/skipgraphlaw24.ReplicaValid", spec := "replicaValid", named := ["skipgraph/skipgraphworld.letters"], apart := false, laid := [("skipgraph/skipgraphworld.letters", laid_skipgraph_skipgraphworld_letters)], narrowed := true }
def ReplicaValidUptoSaid : Prop := replicaValidUptoRow.holds Tryd.pinned (OpenSpec.upto replicaValidSpec)

/-- 'skipgraphlaw24.ReplicaDetaches', WHERE WHAT IT READS IS OF BULK AT MOST 1048576: true; the input reads as it did. -/
def replicaDetachesUptoRow : OpenClaim := { program := "ytchfacjjaahdnaadoor", sum := "129cc36caf69251b61f26a285027ce8e3306b7d33412fe75f2c1ab5ba686fa1f", func := "skipgraph/skipgraphlaw24.ReplicaDetaches", spec := "replicaDetaches", named := ["skipgraph/skipgraphworld.letters"], apart := false, laid := [("skipgraph/skipgraphworld.letters", laid_skipgraph_skipgraphworld_letters)], narrowed := true }
def ReplicaDetachesUptoSaid : Prop := replicaDetachesUptoRow.holds Tryd.pinned (OpenSpec.upto replicaDetachesSpec)

/-- 'skipgraphlaw24.ReplicaNew', WHERE WHAT IT READS IS OF BULK AT MOST 1048576: true; the input reads as it did. -/
def replicaNewUptoRow : OpenClaim := { program := "ytchfacjjaahdnaadoor", sum := "129cc36caf69251b61f26a285027ce8e3306b7d33412fe75f2c1ab5ba686fa1f", func := "skipgraph/skipgraphlaw24.ReplicaNew", spec := "replicaNew", named := ["skipgraph/skipgraphworld.letters"], apart := false, laid := [("skipgraph/skipgraphworld.letters", laid_skipgraph_skipgraphworld_letters)], narrowed := true }
def ReplicaNewUptoSaid : Prop := replicaNewUptoRow.holds Tryd.pinned (OpenSpec.upto replicaNewSpec)

/-- 'skipgraphlaw24.ReplicaAttaches', WHERE WHAT IT READS IS OF BULK AT MOST 1048576: true; the input reads as it did. -/
def replicaAttachesUptoRow : OpenClaim := { program := "ytchfacjjaahdnaadoor", sum := "129cc36caf69251b61f26a285027ce8e3306b7d33412fe75f2c1ab5ba686fa1f", func := "skipgraph/skipgraphlaw24.ReplicaAttaches", spec := "replicaAttaches", named := ["skipgraph/skipgraphworld.letters"], apart := false, laid := [("skipgraph/skipgraphworld.letters", laid_skipgraph_skipgraphworld_letters)], narrowed := true }
def ReplicaAttachesUptoSaid : Prop := replicaAttachesUptoRow.holds Tryd.pinned (OpenSpec.upto replicaAttachesSpec)

/-- 'skipgraphlaw24.ReplicaBack', WHERE WHAT IT READS IS OF BULK AT MOST 1048576: true; the input reads as it did. -/
def replicaBackUptoRow : OpenClaim := { program := "ytchfacjjaahdnaadoor", sum := "129cc36caf69251b61f26a285027ce8e3306b7d33412fe75f2c1ab5ba686fa1f", func := "skipgraph/skipgraphlaw24.ReplicaBack", spec := "replicaBack", named := ["skipgraph/skipgraphworld.letters"], apart := false, laid := [("skipgraph/skipgraphworld.letters", laid_skipgraph_skipgraphworld_letters)], narrowed := true }
def ReplicaBackUptoSaid : Prop := replicaBackUptoRow.holds Tryd.pinned (OpenSpec.upto replicaBackSpec)

/-- 'skipgraphlaw24.ReplicaWrites', WHERE WHAT IT READS IS OF BULK AT MOST 1048576: true; the input reads as it did. -/
def replicaWritesUptoRow : OpenClaim := { program := "ytchfacjjaahdnaadoor", sum := "129cc36caf69251b61f26a285027ce8e3306b7d33412fe75f2c1ab5ba686fa1f", func := "skipgraph/skipgraphlaw24.ReplicaWrites", spec := "replicaWrites", unfollowed := true, recurses := true, named := ["skipgraph/skipgraphworld.letters"], apart := false, laid := [("skipgraph/skipgraphworld.letters", laid_skipgraph_skipgraphworld_letters)], narrowed := true }
def ReplicaWritesUptoSaid : Prop := replicaWritesUptoRow.holds Tryd.pinned (OpenSpec.upto replicaWritesSpec)

/-- 'skipgraphlaw24.ReplicaCommits', WHERE WHAT IT READS IS OF BULK AT MOST 1048576: true; the input reads as it did. -/
def replicaCommitsUptoRow : OpenClaim := { program := "ytchfacjjaahdnaadoor", sum := "129cc36caf69251b61f26a285027ce8e3306b7d33412fe75f2c1ab5ba686fa1f", func := "skipgraph/skipgraphlaw24.ReplicaCommits", spec := "replicaCommits", unfollowed := true, recurses := true, named := ["skipgraph/skipgraphworld.letters"], apart := false, laid := [("skipgraph/skipgraphworld.letters", laid_skipgraph_skipgraphworld_letters)], narrowed := true }
def ReplicaCommitsUptoSaid : Prop := replicaCommitsUptoRow.holds Tryd.pinned (OpenSpec.upto replicaCommitsSpec)

/-- 'skipgraphlaw25.GroupDurable', WHERE WHAT IT READS IS OF BULK AT MOST 1048576: true; the input reads as it did. -/
def groupDurableUptoRow : OpenClaim := { program := "ytchfacjjaahdnaadoor", sum := "129cc36caf69251b61f26a285027ce8e3306b7d33412fe75f2c1ab5ba686fa1f", func := "skipgraph/skipgraphlaw25.GroupDurable", spec := "groupDurable", unfollowed := true, recurses := true, named := ["skipgraph/skipgraphworld.letters"], apart := false, laid := [("skipgraph/skipgraphworld.letters", laid_skipgraph_skipgraphworld_letters)], narrowed := true }
def GroupDurableUptoSaid : Prop := groupDurableUptoRow.holds Tryd.pinned (OpenSpec.upto groupDurableSpec)

/-- 'skipgraphlaw25.GroupReads', WHERE WHAT IT READS IS OF BULK AT MOST 1048576: true; the input reads as it did. -/
def groupReadsUptoRow : OpenClaim := { program := "ytchfacjjaahdnaadoor", sum := "129cc36caf69251b61f26a285027ce8e3306b7d33412fe75f2c1ab5ba686fa1f", func := "skipgraph/skipgraphlaw25.GroupReads", spec := "groupReads", unfollowed := true, recurses := true, named := ["skipgraph/skipgraphworld.letters"], apart := false, laid := [("skipgraph/skipgraphworld.letters", laid_skipgraph_skipgraphworld_letters)], narrowed := true }
def GroupReadsUptoSaid : Prop := groupReadsUptoRow.holds Tryd.pinned (OpenSpec.upto groupReadsSpec)

end Rows
end Go.Proofs.YtchfacjjaahdnaaDoor
