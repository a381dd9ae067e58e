/-
  NARROWER THAN 'FOR EVERY INPUT', by the rows' own cells (each row's printed sentence says how): CompositeDecodes: laid · CompositeRoundTrip: laid · CompositePrefixes: laid · CacheSound: laid · CompositeOrder: laid · CompositeTurns: laid · CacheSteps: laid · CacheAny: laid · CompositeEncodes: laid.
  DERIVED. THE GIVEN ROWS OF THIS SEAT. 9 by the template 'for every input the law returns true; each argument reads behind the call as it read before'; 0 by the template 'total and deterministic' (their statements: YtoommeeolmfepaaDoorTotals.lean).
  GIVEN WITH THE SEED: the statements are not yours to turn. If you find one false, say at which input.
  Laid BY PROGRAM, IN A SANDBOX (cutbox-rows.mjs): the forced cells as the released guide's own fill.sh prints them over the translation 8b28ee4158710c03… (all of the seat's roots in one cut). By AI agents, Wed Nov 11 2026. No macro, syntax, notation, axiom, sorry.
-/
import Derived.Test.YtoommeeolmfepaaDoorChecked
import GoSem.Claim
import GoSem.ClaimJoined
import GoSem.ClaimMapViews
import Derived.JoinedTies
import Derived.KernelRfl
namespace Go.Proofs.YtoommeeolmfepaaDoor
/- THE CELL 'sum', in the pinned program and in every row, IS THE sha256 OF THE DUMP (.gsa) THAT YtoommeeolmfepaaDoorProg.lean LOADS. Nothing in Lean hashes anything: it is a label: what it is worth is what the hold of that sum in a sandbox is worth. -/
noncomputable def Tryd.pinned : Pinned := { name := "ytoommeeolmfepaadoor", sum := "8b28ee4158710c039f0df8c46f466bdd729640c061237141c371e61890f08f82", checked := Tryd.checked }
namespace Rows
def none {H : Type} : Left H := { results := [], args := [] }

/- WHAT THE LISTED PACKAGE-LEVEL VARIABLES READ AS WHEN THE CALL BEGINS. Each datum BY PROGRAM (the guide's laid-datum.mjs) off the statement by which the dump's own 'gosem.cut.vars' lays the variable. In a bare row this is a premise. The card (YtoommeeolmfepaaDoorCards.lean) ties it to the program's text. -/
def laid_skipgraph_skipgraphlaw2_texts {H : Type} : DataW H := .agg [.lit (.string []), .lit (.string [97]), .lit (.string [97, 98]), .lit (.string [0]), .lit (.string [0, 255]), .lit (.string [255]), .lit (.string [97, 0]), .lit (.string [98])]
def laid_skipgraph_skipgraphworld_letters {H : Type} : DataW H := .agg [.lit (.string [97]), .lit (.string [98]), .lit (.string [99]), .lit (.string [0]), .lit (.string [255]), .lit (.string [109])]

/-- 'skipgraphlaw2.CompositeDecodes': WHATEVER THE INPUT: true; the input reads as it did. -/
def compositeDecodesSpec : ChangeSpec := { name := "compositeDecodes", fn := fun _ => fun
  | [d1, d2, d3] => { results := [.lit (.bool true)], args := [d1, d2, d3] }
  | _ => none }
def compositeDecodesRow : OpenClaim := { program := "ytoommeeolmfepaadoor", sum := "8b28ee4158710c039f0df8c46f466bdd729640c061237141c371e61890f08f82", func := "skipgraph/skipgraphlaw2.CompositeDecodes", spec := "compositeDecodes", unfollowed := true, recurses := true, named := ["skipgraph/skipgraphlaw2.texts"], apart := false, laid := [("skipgraph/skipgraphlaw2.texts", laid_skipgraph_skipgraphlaw2_texts)] }
def CompositeDecodesSaid : Prop := compositeDecodesRow.holds Tryd.pinned (OpenSpec.ofChange compositeDecodesSpec)

/-- ITS FALSE NEIGHBOUR: 'it returns false'. Refute it at one input. -/
def compositeDecodesWrong : ChangeSpec := { name := "compositeDecodes", fn := fun _ => fun
  | [d1, d2, d3] => { results := [.lit (.bool false)], args := [d1, d2, d3] }
  | _ => none }
def CompositeDecodesWrongFalsely : Prop := compositeDecodesRow.holds Tryd.pinned (OpenSpec.ofChange compositeDecodesWrong)

/-- 'skipgraphlaw2.CompositeRoundTrip': WHATEVER THE INPUT: true; the input reads as it did. -/
def compositeRoundTripSpec : ChangeSpec := { name := "compositeRoundTrip", fn := fun _ => fun
  | [d] => { results := [.lit (.bool true)], args := [d] }
  | _ => none }
def compositeRoundTripRow : OpenClaim := { program := "ytoommeeolmfepaadoor", sum := "8b28ee4158710c039f0df8c46f466bdd729640c061237141c371e61890f08f82", func := "skipgraph/skipgraphlaw2.CompositeRoundTrip", spec := "compositeRoundTrip", unfollowed := true, recurses := true, named := ["skipgraph/skipgraphlaw2.texts"], apart := false, laid := [("skipgraph/skipgraphlaw2.texts", laid_skipgraph_skipgraphlaw2_texts)] }
def CompositeRoundTripSaid : Prop := compositeRoundTripRow.holds Tryd.pinned (OpenSpec.ofChange compositeRoundTripSpec)

/-- ITS FALSE NEIGHBOUR: 'it returns false'. Refute it at one input. -/
def compositeRoundTripWrong : ChangeSpec := { name := "compositeRoundTrip", fn := fun _ => fun
  | [d] => { results := [.lit (.bool false)], args := [d] }
  | _ => none }
def CompositeRoundTripWrongFalsely : Prop := compositeRoundTripRow.holds Tryd.pinned (OpenSpec.ofChange compositeRoundTripWrong)

/-- 'skipgraphlaw2.CompositePrefixes': WHATEVER THE INPUT: true; the input reads as it did. -/
def compositePrefixesSpec : ChangeSpec := { name := "compositePrefixes", fn := fun _ => fun
  | [d1, d2] => { results := [.lit (.bool true)], args := [d1, d2] }
  | _ => none }
def compositePrefixesRow : OpenClaim := { program := "ytoommeeolmfepaadoor", sum := "8b28ee4158710c039f0df8c46f466bdd729640c061237141c371e61890f08f82", func := "skipgraph/skipgraphlaw2.CompositePrefixes", spec := "compositePrefixes", unfollowed := true, recurses := true, named := ["skipgraph/skipgraphlaw2.texts"], apart := false, laid := [("skipgraph/skipgraphlaw2.texts", laid_skipgraph_skipgraphlaw2_texts)] }
def CompositePrefixesSaid : Prop := compositePrefixesRow.holds Tryd.pinned (OpenSpec.ofChange compositePrefixesSpec)

/-- ITS FALSE NEIGHBOUR: 'it returns false'. Refute it at one input. -/
def compositePrefixesWrong : ChangeSpec := { name := "compositePrefixes", fn := fun _ => fun
  | [d1, d2] => { results := [.lit (.bool false)], args := [d1, d2] }
  | _ => none }
def CompositePrefixesWrongFalsely : Prop := compositePrefixesRow.holds Tryd.pinned (OpenSpec.ofChange compositePrefixesWrong)

/-- 'skipgraphlaw31.CacheSound': WHATEVER THE INPUT: true; the input reads as it did. -/
def cacheSoundSpec : ChangeSpec := { name := "cacheSound", fn := fun _ => fun
  | [d] => { results := [.lit (.bool true)], args := [d] }
  | _ => none }
def cacheSoundRow : OpenClaim := { program := "ytoommeeolmfepaadoor", sum := "8b28ee4158710c039f0df8c46f466bdd729640c061237141c371e61890f08f82", func := "skipgraph/skipgraphlaw31.CacheSound", spec := "cacheSound", unfollowed := true, recurses := true, named := ["skipgraph/skipgraphworld.letters"], apart := false, laid := [("skipgraph/skipgraphworld.letters", laid_skipgraph_skipgraphworld_letters)] }
def CacheSoundSaid : Prop := cacheSoundRow.holds Tryd.pinned (OpenSpec.ofChange cacheSoundSpec)

/-- ITS FALSE NEIGHBOUR: 'it returns false'. Refute it at one input. -/
def cacheSoundWrong : ChangeSpec := { name := "cacheSound", fn := fun _ => fun
  | [d] => { results := [.lit (.bool false)], args := [d] }
  | _ => none }
def CacheSoundWrongFalsely : Prop := cacheSoundRow.holds Tryd.pinned (OpenSpec.ofChange cacheSoundWrong)

/-- 'skipgraphlaw2.CompositeOrder': WHATEVER THE INPUT: true; the input reads as it did. -/
def compositeOrderSpec : ChangeSpec := { name := "compositeOrder", fn := fun _ => fun
  | [d] => { results := [.lit (.bool true)], args := [d] }
  | _ => none }
def compositeOrderRow : OpenClaim := { program := "ytoommeeolmfepaadoor", sum := "8b28ee4158710c039f0df8c46f466bdd729640c061237141c371e61890f08f82", func := "skipgraph/skipgraphlaw2.CompositeOrder", spec := "compositeOrder", inPlace := ["internal/bytealg.abigen_runtime_cmpstring"], unfollowed := true, recurses := true, named := ["skipgraph/skipgraphlaw2.texts"], apart := false, laid := [("skipgraph/skipgraphlaw2.texts", laid_skipgraph_skipgraphlaw2_texts)] }
def CompositeOrderSaid : Prop := compositeOrderRow.holds Tryd.pinned (OpenSpec.ofChange compositeOrderSpec)

/-- ITS FALSE NEIGHBOUR: 'it returns false'. Refute it at one input. -/
def compositeOrderWrong : ChangeSpec := { name := "compositeOrder", fn := fun _ => fun
  | [d] => { results := [.lit (.bool false)], args := [d] }
  | _ => none }
def CompositeOrderWrongFalsely : Prop := compositeOrderRow.holds Tryd.pinned (OpenSpec.ofChange compositeOrderWrong)

/-- 'skipgraphlaw2.CompositeTurns': WHATEVER THE INPUT: true; the input reads as it did. -/
def compositeTurnsSpec : ChangeSpec := { name := "compositeTurns", fn := fun _ => fun
  | [d] => { results := [.lit (.bool true)], args := [d] }
  | _ => none }
def compositeTurnsRow : OpenClaim := { program := "ytoommeeolmfepaadoor", sum := "8b28ee4158710c039f0df8c46f466bdd729640c061237141c371e61890f08f82", func := "skipgraph/skipgraphlaw2.CompositeTurns", spec := "compositeTurns", inPlace := ["internal/bytealg.abigen_runtime_cmpstring"], unfollowed := true, recurses := true, named := ["skipgraph/skipgraphlaw2.texts"], apart := false, laid := [("skipgraph/skipgraphlaw2.texts", laid_skipgraph_skipgraphlaw2_texts)] }
def CompositeTurnsSaid : Prop := compositeTurnsRow.holds Tryd.pinned (OpenSpec.ofChange compositeTurnsSpec)

/-- ITS FALSE NEIGHBOUR: 'it returns false'. Refute it at one input. -/
def compositeTurnsWrong : ChangeSpec := { name := "compositeTurns", fn := fun _ => fun
  | [d] => { results := [.lit (.bool false)], args := [d] }
  | _ => none }
def CompositeTurnsWrongFalsely : Prop := compositeTurnsRow.holds Tryd.pinned (OpenSpec.ofChange compositeTurnsWrong)

/-- 'skipgraphlaw31.CacheSteps': WHATEVER THE INPUT: true; the input reads as it did. -/
def cacheStepsSpec : ChangeSpec := { name := "cacheSteps", fn := fun _ => fun
  | [d] => { results := [.lit (.bool true)], args := [d] }
  | _ => none }
def cacheStepsRow : OpenClaim := { program := "ytoommeeolmfepaadoor", sum := "8b28ee4158710c039f0df8c46f466bdd729640c061237141c371e61890f08f82", func := "skipgraph/skipgraphlaw31.CacheSteps", spec := "cacheSteps", unfollowed := true, recurses := true, named := ["skipgraph/skipgraphworld.letters"], apart := false, laid := [("skipgraph/skipgraphworld.letters", laid_skipgraph_skipgraphworld_letters)] }
def CacheStepsSaid : Prop := cacheStepsRow.holds Tryd.pinned (OpenSpec.ofChange cacheStepsSpec)

/-- ITS FALSE NEIGHBOUR: 'it returns false'. Refute it at one input. -/
def cacheStepsWrong : ChangeSpec := { name := "cacheSteps", fn := fun _ => fun
  | [d] => { results := [.lit (.bool false)], args := [d] }
  | _ => none }
def CacheStepsWrongFalsely : Prop := cacheStepsRow.holds Tryd.pinned (OpenSpec.ofChange cacheStepsWrong)

/-- 'skipgraphlaw31.CacheAny': WHATEVER THE INPUT: true; the input reads as it did. -/
def cacheAnySpec : ChangeSpec := { name := "cacheAny", fn := fun _ => fun
  | [d1, d2, d3, d4] => { results := [.lit (.bool true)], args := [d1, d2, d3, d4] }
  | _ => none }
def cacheAnyRow : OpenClaim := { program := "ytoommeeolmfepaadoor", sum := "8b28ee4158710c039f0df8c46f466bdd729640c061237141c371e61890f08f82", func := "skipgraph/skipgraphlaw31.CacheAny", spec := "cacheAny", unfollowed := true, recurses := true, named := ["skipgraph/skipgraphworld.letters"], apart := false, laid := [("skipgraph/skipgraphworld.letters", laid_skipgraph_skipgraphworld_letters)] }
def CacheAnySaid : Prop := cacheAnyRow.holds Tryd.pinned (OpenSpec.ofChange cacheAnySpec)

/-- ITS FALSE NEIGHBOUR: 'it returns false'. Refute it at one input. -/
def cacheAnyWrong : ChangeSpec := { name := "cacheAny", fn := fun _ => fun
  | [d1, d2, d3, d4] => { results := [.lit (.bool false)], args := [d1, d2, d3, d4] }
  | _ => none }
def CacheAnyWrongFalsely : Prop := cacheAnyRow.holds Tryd.pinned (OpenSpec.ofChange cacheAnyWrong)

/-- 'skipgraphlaw2.CompositeEncodes': WHATEVER THE INPUT: true; the input reads as it did. -/
def compositeEncodesSpec : ChangeSpec := { name := "compositeEncodes", fn := fun _ => fun
  | [d1, d2, d3, d4] => { results := [.lit (.bool true)], args := [d1, d2, d3, d4] }
  | _ => none }
def compositeEncodesRow : OpenClaim := { program := "ytoommeeolmfepaadoor", sum := "8b28ee4158710c039f0df8c46f466bdd729640c061237141c371e61890f08f82", func := "skipgraph/skipgraphlaw2.CompositeEncodes", spec := "compositeEncodes", inPlace := ["internal/bytealg.abigen_runtime_cmpstring"], unfollowed := true, recurses := true, named := ["skipgraph/skipgraphlaw2.texts"], apart := false, laid := [("skipgraph/skipgraphlaw2.texts", laid_skipgraph_skipgraphlaw2_texts)] }
def CompositeEncodesSaid : Prop := compositeEncodesRow.holds Tryd.pinned (OpenSpec.ofChange compositeEncodesSpec)

/-- ITS FALSE NEIGHBOUR: 'it returns false'. Refute it at one input. -/
def compositeEncodesWrong : ChangeSpec := { name := "compositeEncodes", fn := fun _ => fun
  | [d1, d2, d3, d4] => { results := [.lit (.bool false)], args := [d1, d2, d3, d4] }
  | _ => none }
def CompositeEncodesWrongFalsely : Prop := compositeEncodesRow.holds Tryd.pinned (OpenSpec.ofChange compositeEncodesWrong)

/- THE SECOND FORM. 'bulk': how many values and letters a reading holds, each counted each time it is reached (what is shared counts as often as it is met; a slice's spare places count too). A statement '..UptoSaid' is the law's where the arguments, and the package variables that the reading takes, are together of bulk at most 1048576: NARROWER than '..Said'. Prove '..Said' where nothing that the law and all that it calls make is longer than what came in: it says more and counts as full. Else prove '..UptoSaid'. A law counts once. -/
mutual
def uptoBulk {H : Type} : DataW H → Nat
  | .lit (.string bytes) => bytes.length + 1
  | .lit _ => 1
  | .nil => 1
  | .ptr d => uptoBulk d + 1
  | .slice elems spare => uptoBulkAll elems + uptoBulkAll spare + 1
  | .agg parts => uptoBulkAll parts + 1
  | .iface _ d => uptoBulk d + 1
  | .map entries => uptoBulkEntries entries + 1
  | .held _ => 1
def uptoBulkAll {H : Type} : List (DataW H) → Nat
  | [] => 0
  | d :: r => uptoBulk d + uptoBulkAll r
def uptoBulkEntries {H : Type} : List (Lit × DataW H) → Nat
  | [] => 0
  | x :: r => uptoBulkEntry x + uptoBulkEntries r
def uptoBulkEntry {H : Type} : Lit × DataW H → Nat
  | (.string bytes, d) => bytes.length + uptoBulk d + 1
  | (_, d) => uptoBulk d + 1
 end
def uptoSmall : (H : Type) → List (DataW H) → Bool := fun _ ds => decide (uptoBulkAll ds ≤ 1048576)
def OpenSpec.upto (s : _root_.Go.ChangeSpec) : _root_.Go.OpenSpec := { _root_.Go.OpenSpec.ofChange s with cond := some uptoSmall }

/-- 'skipgraphlaw2.CompositeDecodes', WHERE WHAT IT READS IS OF BULK AT MOST 1048576: true; the input reads as it did. -/
def compositeDecodesUptoRow : OpenClaim := { program := "ytoommeeolmfepaadoor", sum := "8b28ee4158710c039f0df8c46f466bdd729640c061237141c371e61890f08f82", func := "skipgraph/skipgraphlaw2.CompositeDecodes", spec := "compositeDecodes", unfollowed := true, recurses := true, named := ["skipgraph/skipgraphlaw2.texts"], apart := false, laid := [("skipgraph/skipgraphlaw2.texts", laid_skipgraph_skipgraphlaw2_texts)], narrowed := true }
def CompositeDecodesUptoSaid : Prop := compositeDecodesUptoRow.holds Tryd.pinned (OpenSpec.upto compositeDecodesSpec)

/-- 'skipgraphlaw2.CompositeRoundTrip', WHERE WHAT IT READS IS OF BULK AT MOST 1048576: true; the input reads as it did. -/
def compositeRoundTripUptoRow : OpenClaim := { program := "ytoommeeolmfepaadoor", sum := "8b28ee4158710c039f0df8c46f466bdd729640c061237141c371e61890f08f82", func := "skipgraph/skipgraphlaw2.CompositeRoundTrip", spec := "compositeRoundTrip", unfollowed := true, recurses := true, named := ["skipgraph/skipgraphlaw2.texts"], apart := false, laid := [("skipgraph/skipgraphlaw2.texts", laid_skipgraph_skipgraphlaw2_texts)], narrowed := true }
def CompositeRoundTripUptoSaid : Prop := compositeRoundTripUptoRow.holds Tryd.pinned (OpenSpec.upto compositeRoundTripSpec)

/-- 'skipgraphlaw2.CompositePrefixes', WHERE WHAT IT READS IS OF BULK AT MOST 1048576: true; the input reads as it did. -/
def compositePrefixesUptoRow : OpenClaim := { program := "ytoommeeolmfepaadoor", sum := "8b28ee4158710c039f0df8c46f466bdd729640c061237141c371e61890f08f82", func := "skipgraph/skipgraphlaw2.CompositePrefixes", spec := "compositePrefixes", unfollowed := true, recurses := true, named := ["skipgraph/skipgraphlaw2.texts"], apart := false, laid := [("skipgraph/skipgraphlaw2.texts", laid_skipgraph_skipgraphlaw2_texts)], narrowed := true }
def CompositePrefixesUptoSaid : Prop := compositePrefixesUptoRow.holds Tryd.pinned (OpenSpec.upto compositePrefixesSpec)

/-- 'skipgraphlaw31.CacheSound', WHERE WHAT IT READS IS OF BULK AT MOST 1048576: true; the input reads as it did. -/
def cacheSoundUptoRow : OpenClaim := { program := "ytoommeeolmfepaadoor", sum := "8b28ee4158710c039f0df8c46f466bdd729640c061237141c371e61890f08f82", func := "skipgraph/skipgraphlaw31.CacheSound", spec := "cacheSound", unfollowed := true, recurses := true, named := ["skipgraph/skipgraphworld.letters"], apart := false, laid := [("skipgraph/skipgraphworld.letters", laid_skipgraph_skipgraphworld_letters)], narrowed := true }
def CacheSoundUptoSaid : Prop := cacheSoundUptoRow.holds Tryd.pinned (OpenSpec.upto cacheSoundSpec)

/-- 'skipgraphlaw2.CompositeOrder', WHERE WHAT IT READS IS OF BULK AT MOST 1048576: true; the input reads as it did. -/
def compositeOrderUptoRow : OpenClaim := { program := "ytoommeeolmfepaadoor", sum := "8b28ee4158710c039f0df8c46f466bdd729640c061237141c371e61890f08f82", func := "skipgraph/skipgraphlaw2.CompositeOrder", spec := "compositeOrder", inPlace := ["internal/bytealg.abigen_runtime_cmpstring"], unfollowed := true, recurses := true, named := ["skipgraph/skipgraphlaw2.texts"], apart := false, laid := [("skipgraph/skipgraphlaw2.texts", laid_skipgraph_skipgraphlaw2_texts)], narrowed := true }
def CompositeOrderUptoSaid : Prop := compositeOrderUptoRow.holds Tryd.pinned (OpenSpec.upto compositeOrderSpec)

/-- 'skipgraphlaw2.CompositeTurns', WHERE WHAT IT READS IS OF BULK AT MOST 1048576: true; the input reads as it did. -/
def compositeTurnsUptoRow : OpenClaim := { program := "ytoommeeolmfepaadoor", sum := "8b28ee4158710c039f0df8c46f466bdd729640c061237141c371e61890f08f82", func := "skipgraph/skipgraphlaw2.CompositeTurns", spec := "compositeTurns", inPlace := ["internal/bytealg.abigen_runtime_cmpstring"], unfollowed := true, recurses := true, named := ["skipgraph/skipgraphlaw2.texts"], apart := false, laid := [("skipgraph/skipgraphlaw2.texts", laid_skipgraph_skipgraphlaw2_texts)], narrowed := true }
def CompositeTurnsUptoSaid : Prop := compositeTurnsUptoRow.holds Tryd.pinned (OpenSpec.upto compositeTurnsSpec)

/-- 'skipgraphlaw31.CacheSteps', WHERE WHAT IT READS IS OF BULK AT MOST 1048576: true; the input reads as it did. -/
def cacheStepsUptoRow : OpenClaim := { program := "ytoommeeolmfepaadoor", sum := "8b28ee4158710c039f0df8c46f466bdd729640c061237141c371e61890f08f82", func := "skipgraph/skipgraphlaw31.CacheSteps", spec := "cacheSteps", unfollowed := true, recurses := true, named := ["skipgraph/skipgraphworld.letters"], apart := false, laid := [("skipgraph/skipgraphworld.letters", laid_skipgraph_skipgraphworld_letters)], narrowed := true }
def CacheStepsUptoSaid : Prop := cacheStepsUptoRow.holds Tryd.pinned (OpenSpec.upto cacheStepsSpec)

/-- 'skipgraphlaw31.CacheAny', WHERE WHAT IT READS IS OF BULK AT MOST 1048576: true; the input reads as it did. -/
def cacheAnyUptoRow : OpenClaim := { program := "ytoommeeolmfepaadoor", sum := "8b28ee4158710c039f0df8c46f466bdd729640c061237141c371e61890f08f82", func := "skipgraph/skipgraphlaw31.CacheAny", spec := "cacheAny", unfollowed := true, recurses := true, named := ["skipgraph/skipgraphworld.letters"], apart := false, laid := [("skipgraph/skipgraphworld.letters", laid_skipgraph_skipgraphworld_letters)], narrowed := true }
def CacheAnyUptoSaid : Prop := cacheAnyUptoRow.holds Tryd.pinned (OpenSpec.upto cacheAnySpec)

/-- 'skipgraphlaw2.CompositeEncodes', WHERE WHAT IT READS IS OF BULK AT MOST 1048576: true; the input reads as it did. -/
def compositeEncodesUptoRow : OpenClaim := { program := "ytoommeeolmfepaadoor", sum := "8b28ee4158710c039f0df8c46f466bdd729640c061237141c371e61890f08f82", func := "skipgraph/skipgraphlaw2.CompositeEncodes", spec := "compositeEncodes", inPlace := ["internal/bytealg.abigen_runtime_cmpstring"], unfollowed := true, recurses := true, named := ["skipgraph/skipgraphlaw2.texts"], apart := false, laid := [("skipgraph/skipgraphlaw2.texts", laid_skipgraph_skipgraphlaw2_texts)], narrowed := true }
def CompositeEncodesUptoSaid : Prop := compositeEncodesUptoRow.holds Tryd.pinned (OpenSpec.upto compositeEncodesSpec)

end Rows
end Go.Proofs.YtoommeeolmfepaaDoor
