/-
  NARROWER THAN 'FOR EVERY INPUT', by the rows' own cells (each row's printed sentence says how): GroupNew: laid · TakeoverKeeps: laid · TakeoverOpens: laid · TakeoverSteps: laid · TakeoverAny: laid · TakeoverShows: laid · GroupSound: laid · GroupSteps: laid.
  DERIVED. THE GIVEN ROWS OF THIS SEAT. 8 by the template 'for every input the law returns true; each argument reads behind the call as it read before'; 0 by the template 'total and deterministic' (their statements: YtegbenagmciegaaGreatDoorTotals.lean).
  GIVEN WITH THE SEED: the statements are not yours to turn. If you find one false, say at which input.
  Laid BY PROGRAM, IN A SANDBOX (cutbox-rows.mjs): the forced cells as the released guide's own fill.sh prints them over the translation c0b079a638897499… (all of the seat's roots in one cut). By AI agents, Wed Nov 11 2026. No macro, syntax, notation, axiom, sorry.
-/
import Derived.Test.YtegbenagmciegaaGreatDoorChecked
import GoSem.Claim
import GoSem.ClaimJoined
import GoSem.ClaimMapViews
import Derived.JoinedTies
import Derived.KernelRfl
namespace Go.Proofs.YtegbenagmciegaaGreatDoor
/- THE CELL 'sum', in the pinned program and in every row, IS THE sha256 OF THE DUMP (.gsa) THAT YtegbenagmciegaaGreatDoorProg.lean LOADS. Nothing in Lean hashes anything: it is a label: what it is worth is what the hold of that sum in a sandbox is worth. -/
noncomputable def Tryz.pinned : Pinned := { name := "ytegbenagmciegaagreatdoor", sum := "c0b079a63889749955985b37a9fdb09a7a704be6d073b549949cf116ab34e079", checked := Tryz.checked }
namespace Rows
def none {H : Type} : Left H := { results := [], args := [] }

/- WHAT THE LISTED PACKAGE-LEVEL VARIABLES READ AS WHEN THE CALL BEGINS. Each datum BY PROGRAM (the guide's laid-datum.mjs) off the statement by which the dump's own 'gosem.cut.vars' lays the variable. In a bare row this is a premise. The card (YtegbenagmciegaaGreatDoorCards.lean) ties it to the program's text. -/
def laid_skipgraph_skipgraphworld_letters {H : Type} : DataW H := .agg [.lit (.string [97]), .lit (.string [98]), .lit (.string [99]), .lit (.string [0]), .lit (.string [255]), .lit (.string [109])]

/-- 'skipgraphlaw25.GroupNew': WHATEVER THE INPUT: true; the input reads as it did. -/
def groupNewSpec : ChangeSpec := { name := "groupNew", fn := fun _ => fun
  | [d1, d2, d3, d4] => { results := [.lit (.bool true)], args := [d1, d2, d3, d4] }
  | _ => none }
def groupNewRow : OpenClaim := { program := "ytegbenagmciegaagreatdoor", sum := "c0b079a63889749955985b37a9fdb09a7a704be6d073b549949cf116ab34e079", func := "skipgraph/skipgraphlaw25.GroupNew", spec := "groupNew", unfollowed := true, recurses := true, named := ["skipgraph/skipgraphworld.letters"], apart := false, laid := [("skipgraph/skipgraphworld.letters", laid_skipgraph_skipgraphworld_letters)] }
def GroupNewSaid : Prop := groupNewRow.holds Tryz.pinned (OpenSpec.ofChange groupNewSpec)

/-- ITS FALSE NEIGHBOUR: 'it returns false'. Refute it at one input. -/
def groupNewWrong : ChangeSpec := { name := "groupNew", fn := fun _ => fun
  | [d1, d2, d3, d4] => { results := [.lit (.bool false)], args := [d1, d2, d3, d4] }
  | _ => none }
def GroupNewWrongFalsely : Prop := groupNewRow.holds Tryz.pinned (OpenSpec.ofChange groupNewWrong)

/-- 'skipgraphlaw26.TakeoverKeeps': WHATEVER THE INPUT: true; the input reads as it did. -/
def takeoverKeepsSpec : ChangeSpec := { name := "takeoverKeeps", fn := fun _ => fun
  | [d] => { results := [.lit (.bool true)], args := [d] }
  | _ => none }
def takeoverKeepsRow : OpenClaim := { program := "ytegbenagmciegaagreatdoor", sum := "c0b079a63889749955985b37a9fdb09a7a704be6d073b549949cf116ab34e079", func := "skipgraph/skipgraphlaw26.TakeoverKeeps", spec := "takeoverKeeps", unfollowed := true, recurses := true, named := ["skipgraph/skipgraphworld.letters"], apart := false, laid := [("skipgraph/skipgraphworld.letters", laid_skipgraph_skipgraphworld_letters)] }
def TakeoverKeepsSaid : Prop := takeoverKeepsRow.holds Tryz.pinned (OpenSpec.ofChange takeoverKeepsSpec)

/-- ITS FALSE NEIGHBOUR: 'it returns false'. Refute it at one input. -/
def takeoverKeepsWrong : ChangeSpec := { name := "takeoverKeeps", fn := fun _ => fun
  | [d] => { results := [.lit (.bool false)], args := [d] }
  | _ => none }
def TakeoverKeepsWrongFalsely : Prop := takeoverKeepsRow.holds Tryz.pinned (OpenSpec.ofChange takeoverKeepsWrong)

/-- 'skipgraphlaw26.TakeoverOpens': WHATEVER THE INPUT: true; the input reads as it did. -/
def takeoverOpensSpec : ChangeSpec := { name := "takeoverOpens", fn := fun _ => fun
  | [d] => { results := [.lit (.bool true)], args := [d] }
  | _ => none }
def takeoverOpensRow : OpenClaim := { program := "ytegbenagmciegaagreatdoor", sum := "c0b079a63889749955985b37a9fdb09a7a704be6d073b549949cf116ab34e079", func := "skipgraph/skipgraphlaw26.TakeoverOpens", spec := "takeoverOpens", unfollowed := true, recurses := true, named := ["skipgraph/skipgraphworld.letters"], apart := false, laid := [("skipgraph/skipgraphworld.letters", laid_skipgraph_skipgraphworld_letters)] }
def TakeoverOpensSaid : Prop := takeoverOpensRow.holds Tryz.pinned (OpenSpec.ofChange takeoverOpensSpec)

/-- ITS FALSE NEIGHBOUR: 'it returns false'. Refute it at one input. -/
def takeoverOpensWrong : ChangeSpec := { name := "takeoverOpens", fn := fun _ => fun
  | [d] => { results := [.lit (.bool false)], args := [d] }
  | _ => none }
def TakeoverOpensWrongFalsely : Prop := takeoverOpensRow.holds Tryz.pinned (OpenSpec.ofChange takeoverOpensWrong)

/-- 'skipgraphlaw26.TakeoverSteps': WHATEVER THE INPUT: true; the input reads as it did. -/
def takeoverStepsSpec : ChangeSpec := { name := "takeoverSteps", fn := fun _ => fun
  | [d] => { results := [.lit (.bool true)], args := [d] }
  | _ => none }
def takeoverStepsRow : OpenClaim := { program := "ytegbenagmciegaagreatdoor", sum := "c0b079a63889749955985b37a9fdb09a7a704be6d073b549949cf116ab34e079", func := "skipgraph/skipgraphlaw26.TakeoverSteps", spec := "takeoverSteps", unfollowed := true, recurses := true, named := ["skipgraph/skipgraphworld.letters"], apart := false, laid := [("skipgraph/skipgraphworld.letters", laid_skipgraph_skipgraphworld_letters)] }
def TakeoverStepsSaid : Prop := takeoverStepsRow.holds Tryz.pinned (OpenSpec.ofChange takeoverStepsSpec)

/-- ITS FALSE NEIGHBOUR: 'it returns false'. Refute it at one input. -/
def takeoverStepsWrong : ChangeSpec := { name := "takeoverSteps", fn := fun _ => fun
  | [d] => { results := [.lit (.bool false)], args := [d] }
  | _ => none }
def TakeoverStepsWrongFalsely : Prop := takeoverStepsRow.holds Tryz.pinned (OpenSpec.ofChange takeoverStepsWrong)

/-- 'skipgraphlaw26.TakeoverAny': WHATEVER THE INPUT: true; the input reads as it did. -/
def takeoverAnySpec : ChangeSpec := { name := "takeoverAny", fn := fun _ => fun
  | [d1, d2, d3, d4] => { results := [.lit (.bool true)], args := [d1, d2, d3, d4] }
  | _ => none }
def takeoverAnyRow : OpenClaim := { program := "ytegbenagmciegaagreatdoor", sum := "c0b079a63889749955985b37a9fdb09a7a704be6d073b549949cf116ab34e079", func := "skipgraph/skipgraphlaw26.TakeoverAny", spec := "takeoverAny", unfollowed := true, recurses := true, named := ["skipgraph/skipgraphworld.letters"], apart := false, laid := [("skipgraph/skipgraphworld.letters", laid_skipgraph_skipgraphworld_letters)] }
def TakeoverAnySaid : Prop := takeoverAnyRow.holds Tryz.pinned (OpenSpec.ofChange takeoverAnySpec)

/-- ITS FALSE NEIGHBOUR: 'it returns false'. Refute it at one input. -/
def takeoverAnyWrong : ChangeSpec := { name := "takeoverAny", fn := fun _ => fun
  | [d1, d2, d3, d4] => { results := [.lit (.bool false)], args := [d1, d2, d3, d4] }
  | _ => none }
def TakeoverAnyWrongFalsely : Prop := takeoverAnyRow.holds Tryz.pinned (OpenSpec.ofChange takeoverAnyWrong)

/-- 'skipgraphlaw26.TakeoverShows': WHATEVER THE INPUT: true; the input reads as it did. -/
def takeoverShowsSpec : ChangeSpec := { name := "takeoverShows", fn := fun _ => fun
  | [d] => { results := [.lit (.bool true)], args := [d] }
  | _ => none }
def takeoverShowsRow : OpenClaim := { program := "ytegbenagmciegaagreatdoor", sum := "c0b079a63889749955985b37a9fdb09a7a704be6d073b549949cf116ab34e079", func := "skipgraph/skipgraphlaw26.TakeoverShows", spec := "takeoverShows", unfollowed := true, recurses := true, named := ["skipgraph/skipgraphworld.letters"], apart := false, laid := [("skipgraph/skipgraphworld.letters", laid_skipgraph_skipgraphworld_letters)] }
def TakeoverShowsSaid : Prop := takeoverShowsRow.holds Tryz.pinned (OpenSpec.ofChange takeoverShowsSpec)

/-- ITS FALSE NEIGHBOUR: 'it returns false'. Refute it at one input. -/
def takeoverShowsWrong : ChangeSpec := { name := "takeoverShows", fn := fun _ => fun
  | [d] => { results := [.lit (.bool false)], args := [d] }
  | _ => none }
def TakeoverShowsWrongFalsely : Prop := takeoverShowsRow.holds Tryz.pinned (OpenSpec.ofChange takeoverShowsWrong)

/-- 'skipgraphlaw25.GroupSound': WHATEVER THE INPUT: true; the input reads as it did. -/
def groupSoundSpec : ChangeSpec := { name := "groupSound", fn := fun _ => fun
  | [d] => { results := [.lit (.bool true)], args := [d] }
  | _ => none }
def groupSoundRow : OpenClaim := { program := "ytegbenagmciegaagreatdoor", sum := "c0b079a63889749955985b37a9fdb09a7a704be6d073b549949cf116ab34e079", func := "skipgraph/skipgraphlaw25.GroupSound", spec := "groupSound", unfollowed := true, recurses := true, named := ["skipgraph/skipgraphworld.letters"], apart := false, laid := [("skipgraph/skipgraphworld.letters", laid_skipgraph_skipgraphworld_letters)] }
def GroupSoundSaid : Prop := groupSoundRow.holds Tryz.pinned (OpenSpec.ofChange groupSoundSpec)

/-- ITS FALSE NEIGHBOUR: 'it returns false'. Refute it at one input. -/
def groupSoundWrong : ChangeSpec := { name := "groupSound", fn := fun _ => fun
  | [d] => { results := [.lit (.bool false)], args := [d] }
  | _ => none }
def GroupSoundWrongFalsely : Prop := groupSoundRow.holds Tryz.pinned (OpenSpec.ofChange groupSoundWrong)

/-- 'skipgraphlaw25.GroupSteps': WHATEVER THE INPUT: true; the input reads as it did. -/
def groupStepsSpec : ChangeSpec := { name := "groupSteps", fn := fun _ => fun
  | [d] => { results := [.lit (.bool true)], args := [d] }
  | _ => none }
def groupStepsRow : OpenClaim := { program := "ytegbenagmciegaagreatdoor", sum := "c0b079a63889749955985b37a9fdb09a7a704be6d073b549949cf116ab34e079", func := "skipgraph/skipgraphlaw25.GroupSteps", spec := "groupSteps", unfollowed := true, recurses := true, named := ["skipgraph/skipgraphworld.letters"], apart := false, laid := [("skipgraph/skipgraphworld.letters", laid_skipgraph_skipgraphworld_letters)] }
def GroupStepsSaid : Prop := groupStepsRow.holds Tryz.pinned (OpenSpec.ofChange groupStepsSpec)

/-- ITS FALSE NEIGHBOUR: 'it returns false'. Refute it at one input. -/
def groupStepsWrong : ChangeSpec := { name := "groupSteps", fn := fun _ => fun
  | [d] => { results := [.lit (.bool false)], args := [d] }
  | _ => none }
def GroupStepsWrongFalsely : Prop := groupStepsRow.holds Tryz.pinned (OpenSpec.ofChange groupStepsWrong)

/- THE SECOND FORM. 'bulk': how many values and letters a reading holds, each counted each time it is reached (what is shared counts as often as it is met; a slice's spare places count too). A statement '..UptoSaid' is the law's where the arguments, and the package variables that the reading takes, are together of bulk at most 1048576: NARROWER than '..Said'. Prove '..Said' where nothing that the law and all that it calls make is longer than what came in: it says more and counts as full. Else prove '..UptoSaid'. A law counts once. -/
mutual
def uptoBulk {H : Type} : DataW H → Nat
  | .lit (.string bytes) => bytes.length + 1
  | .lit _ => 1
  | .nil => 1
  | .ptr d => uptoBulk d + 1
  | .slice elems spare => uptoBulkAll elems + uptoBulkAll spare + 1
  | .agg parts => uptoBulkAll parts + 1
  | .iface _ d => uptoBulk d + 1
  | .map entries => uptoBulkEntries entries + 1
  | .held _ => 1
def uptoBulkAll {H : Type} : List (DataW H) → Nat
  | [] => 0
  | d :: r => uptoBulk d + uptoBulkAll r
def uptoBulkEntries {H : Type} : List (Lit × DataW H) → Nat
  | [] => 0
  | x :: r => uptoBulkEntry x + uptoBulkEntries r
def uptoBulkEntry {H : Type} : Lit × DataW H → Nat
  | (.string bytes, d) => bytes.length + uptoBulk d + 1
  | (_, d) => uptoBulk d + 1
 end
def uptoSmall : (H : Type) → List (DataW H) → Bool := fun _ ds => decide (uptoBulkAll ds ≤ 1048576)
def OpenSpec.upto (s : _root_.Go.ChangeSpec) : _root_.Go.OpenSpec := { _root_.Go.OpenSpec.ofChange s with cond := some uptoSmall }

/-- 'skipgraphlaw25.GroupNew', WHERE WHAT IT READS IS OF BULK AT MOST 1048576: true; the input reads as it did. -/
def groupNewUptoRow : OpenClaim := { program := "ytegbenagmciegaagreatdoor", sum := "c0b079a63889749955985b37a9fdb09a7a704be6d073b549949cf116ab34e079", func := "skipgraph/skipgraphlaw25.GroupNew", spec := "groupNew", unfollowed := true, recurses := true, named := ["skipgraph/skipgraphworld.letters"], apart := false, laid := [("skipgraph/skipgraphworld.letters", laid_skipgraph_skipgraphworld_letters)], narrowed := true }
def GroupNewUptoSaid : Prop := groupNewUptoRow.holds Tryz.pinned (OpenSpec.upto groupNewSpec)

/-- 'skipgraphlaw26.TakeoverKeeps', WHERE WHAT IT READS IS OF BULK AT MOST 1048576: true; the input reads as it did. -/
def takeoverKeepsUptoRow : OpenClaim := { program := "ytegbenagmciegaagreatdoor", sum := "c0b079a63889749955985b37a9fdb09a7a704be6d073b549949cf116ab34e079", func := "skipgraph/skipgraphlaw26.TakeoverKeeps", spec := "takeoverKeeps", unfollowed := true, recurses := true, named := ["skipgraph/skipgraphworld.letters"], apart := false, laid := [("skipgraph/skipgraphworld.letters", laid_skipgraph_skipgraphworld_letters)], narrowed := true }
def TakeoverKeepsUptoSaid : Prop := takeoverKeepsUptoRow.holds Tryz.pinned (OpenSpec.upto takeoverKeepsSpec)

/-- 'skipgraphlaw26.TakeoverOpens', WHERE WHAT IT READS IS OF BULK AT MOST 1048576: true; the input reads as it did. -/
def takeoverOpensUptoRow : OpenClaim := { program := "ytegbenagmciegaagreatdoor", sum := "c0b079a63889749955985b37a9fdb09a7a704be6d073b549949cf116ab34e079", func := "skipgraph/skipgraphlaw26.TakeoverOpens", spec := "takeoverOpens", unfollowed := true, recurses := true, named := ["skipgraph/skipgraphworld.letters"], apart := false, laid := [("skipgraph/skipgraphworld.letters", laid_skipgraph_skipgraphworld_letters)], narrowed := true }
def TakeoverOpensUptoSaid : Prop := takeoverOpensUptoRow.holds Tryz.pinned (OpenSpec.upto takeoverOpensSpec)

/-- 'skipgraphlaw26.TakeoverSteps', WHERE WHAT IT READS IS OF BULK AT MOST 1048576: true; the input reads as it did. -/
def takeoverStepsUptoRow : OpenClaim := { program := "ytegbenagmciegaagreatdoor", sum := "c0b079a63889749955985b37a9fdb09a7a704be6d073b549949cf116ab34e079", func := "skipgraph/skipgraphlaw26.TakeoverSteps", spec := "takeoverSteps", unfollowed := true, recurses := true, named := ["skipgraph/skipgraphworld.letters"], apart := false, laid := [("skipgraph/skipgraphworld.letters", laid_skipgraph_skipgraphworld_letters)], narrowed := true }
def TakeoverStepsUptoSaid : Prop := takeoverStepsUptoRow.holds Tryz.pinned (OpenSpec.upto takeoverStepsSpec)

/-- 'skipgraphlaw26.TakeoverAny', WHERE WHAT IT READS IS OF BULK AT MOST 1048576: true; the input reads as it did. -/
def takeoverAnyUptoRow : OpenClaim := { program := "ytegbenagmciegaagreatdoor", sum := "c0b079a63889749955985b37a9fdb09a7a704be6d073b549949cf116ab34e079", func := "skipgraph/skipgraphlaw26.TakeoverAny", spec := "takeoverAny", unfollowed := true, recurses := true, named := ["skipgraph/skipgraphworld.letters"], apart := false, laid := [("skipgraph/skipgraphworld.letters", laid_skipgraph_skipgraphworld_letters)], narrowed := true }
def TakeoverAnyUptoSaid : Prop := takeoverAnyUptoRow.holds Tryz.pinned (OpenSpec.upto takeoverAnySpec)

/-- 'skipgraphlaw26.TakeoverShows', WHERE WHAT IT READS IS OF BULK AT MOST 1048576: true; the input reads as it did. -/
def takeoverShowsUptoRow : OpenClaim := { program := "ytegbenagmciegaagreatdoor", sum := "c0b079a63889749955985b37a9fdb09a7a704be6d073b549949cf116ab34e079", func := "skipgraph/skipgraphlaw26.TakeoverShows", spec := "takeoverShows", unfollowed := true, recurses := true, named := ["skipgraph/skipgraphworld.letters"], apart := false, laid := [("skipgraph/skipgraphworld.letters", laid_skipgraph_skipgraphworld_letters)], narrowed := true }
def TakeoverShowsUptoSaid : Prop := takeoverShowsUptoRow.holds Tryz.pinned (OpenSpec.upto takeoverShowsSpec)

/-- 'skipgraphlaw25.GroupSound', WHERE WHAT IT READS IS OF BULK AT MOST 1048576: true; the input reads as it did. -/
def groupSoundUptoRow : OpenClaim := { program := "ytegbenagmciegaagreatdoor", sum := "c0b079a63889749955985b37a9fdb09a7a704be6d073b549949cf116ab34e079", func := "skipgraph/skipgraphlaw25.GroupSound", spec := "groupSound", unfollowed := true, recurses := true, named := ["skipgraph/skipgraphworld.letters"], apart := false, laid := [("skipgraph/skipgraphworld.letters", laid_skipgraph_skipgraphworld_letters)], narrowed := true }
def GroupSoundUptoSaid : Prop := groupSoundUptoRow.holds Tryz.pinned (OpenSpec.upto groupSoundSpec)

/-- 'skipgraphlaw25.GroupSteps', WHERE WHAT IT READS IS OF BULK AT MOST 1048576: true; the input reads as it did. -/
def groupStepsUptoRow : OpenClaim := { program := "ytegbenagmciegaagreatdoor", sum := "c0b079a63889749955985b37a9fdb09a7a704be6d073b549949cf116ab34e079", func := "skipgraph/skipgraphlaw25.GroupSteps", spec := "groupSteps", unfollowed := true, recurses := true, named := ["skipgraph/skipgraphworld.letters"], apart := false, laid := [("skipgraph/skipgraphworld.letters", laid_skipgraph_skipgraphworld_letters)], narrowed := true }
def GroupStepsUptoSaid : Prop := groupStepsUptoRow.holds Tryz.pinned (OpenSpec.upto groupStepsSpec)

end Rows
end Go.Proofs.YtegbenagmciegaaGreatDoor
