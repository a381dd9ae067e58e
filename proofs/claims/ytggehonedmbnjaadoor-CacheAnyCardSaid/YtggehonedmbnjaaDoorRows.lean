/-
  NARROWER THAN 'FOR EVERY INPUT', by the rows' own cells (each row's printed sentence says how): CacheSound: laid · CacheSteps: laid · CacheAny: laid.
  DERIVED. THE GIVEN ROWS OF THIS SEAT. 3 by the template 'for every input the law returns true; each argument reads behind the call as it read before'; 0 by the template 'total and deterministic' (their statements: YtggehonedmbnjaaDoorTotals.lean).
  GIVEN WITH THE SEED: the statements are not yours to turn. If you find one false, say at which input.
  Laid BY PROGRAM, IN A SANDBOX (cutbox-rows.mjs): the forced cells as the released guide's own fill.sh prints them over the translation 8c76d121525f9302… (all of the seat's roots in one cut). By AI agents, Wed Nov 11 2026. No macro, syntax, notation, axiom, sorry.
-/
import Derived.Test.YtggehonedmbnjaaDoorChecked
import GoSem.Claim
import GoSem.ClaimJoined
import GoSem.ClaimMapViews
import Derived.JoinedTies
import Derived.KernelRfl
namespace Go.Proofs.YtggehonedmbnjaaDoor
/- THE CELL 'sum', in the pinned program and in every row, IS THE sha256 OF THE DUMP (.gsa) THAT YtggehonedmbnjaaDoorProg.lean LOADS. Nothing in Lean hashes anything: it is a label: what it is worth is what the hold of that sum in a sandbox is worth. -/
noncomputable def Tryd.pinned : Pinned := { name := "ytggehonedmbnjaadoor", sum := "8c76d121525f930230720436214155a638ef9d27636bf4aabf5044eb604eede5", checked := Tryd.checked }
namespace Rows
def none {H : Type} : Left H := { results := [], args := [] }

/- WHAT THE LISTED PACKAGE-LEVEL VARIABLES READ AS WHEN THE CALL BEGINS. Each datum BY PROGRAM (the guide's laid-datum.mjs) off the statement by which the dump's own 'gosem.cut.vars' lays the variable. In a bare row this is a premise. The card (YtggehonedmbnjaaDoorCards.lean) ties it to the program's text. -/
def laid_skipgraph_skipgraphworld_letters {H : Type} : DataW H := .agg [.lit (.string [97]), .lit (.string [98]), .lit (.string [99]), .lit (.string [0]), .lit (.string [255]), .lit (.string [109])]

/-- 'skipgraphlaw31.CacheSound': WHATEVER THE INPUT: true; the input reads as it did. -/
def cacheSoundSpec : ChangeSpec := { name := "cacheSound", fn := fun _ => fun
  | [d] => { results := [.lit (.bool true)], args := [d] }
  | _ => none }
def cacheSoundRow : OpenClaim := { program := "ytggehonedmbnjaadoor", sum := "8c76d121525f930230720436214155a638ef9d27636bf4aabf5044eb604eede5", func := "skipgraph/skipgraphlaw31.CacheSound", spec := "cacheSound", unfollowed := true, recurses := true, named := ["skipgraph/skipgraphworld.letters"], apart := false, laid := [("skipgraph/skipgraphworld.letters", laid_skipgraph_skipgraphworld_letters)] }
def CacheSoundSaid : Prop := cacheSoundRow.holds Tryd.pinned (OpenSpec.ofChange cacheSoundSpec)

/-- ITS FALSE NEIGHBOUR: 'it returns false'. Refute it at one input. -/
def cacheSoundWrong : ChangeSpec := { name := "cacheSound", fn := fun _ => fun
  | [d] => { results := [.lit (.bool false)], args := [d] }
  | _ => none }
def CacheSoundWrongFalsely : Prop := cacheSoundRow.holds Tryd.pinned (OpenSpec.ofChange cacheSoundWrong)

/-- 'skipgraphlaw31.CacheSteps': WHATEVER THE INPUT: true; the input reads as it did. -/
def cacheStepsSpec : ChangeSpec := { name := "cacheSteps", fn := fun _ => fun
  | [d] => { results := [.lit (.bool true)], args := [d] }
  | _ => none }
def cacheStepsRow : OpenClaim := { program := "ytggehonedmbnjaadoor", sum := "8c76d121525f930230720436214155a638ef9d27636bf4aabf5044eb604eede5", func := "skipgraph/skipgraphlaw31.CacheSteps", spec := "cacheSteps", unfollowed := true, recurses := true, named := ["skipgraph/skipgraphworld.letters"], apart := false, laid := [("skipgraph/skipgraphworld.letters", laid_skipgraph_skipgraphworld_letters)] }
def CacheStepsSaid : Prop := cacheStepsRow.holds Tryd.pinned (OpenSpec.ofChange cacheStepsSpec)

/-- ITS FALSE NEIGHBOUR: 'it returns false'. Refute it at one input. -/
def cacheStepsWrong : ChangeSpec := { name := "cacheSteps", fn := fun _ => fun
  | [d] => { results := [.lit (.bool false)], args := [d] }
  | _ => none }
def CacheStepsWrongFalsely : Prop := cacheStepsRow.holds Tryd.pinned (OpenSpec.ofChange cacheStepsWrong)

/-- 'skipgraphlaw31.CacheAny': WHATEVER THE INPUT: true; the input reads as it did. -/
def cacheAnySpec : ChangeSpec := { name := "cacheAny", fn := fun _ => fun
  | [d1, d2, d3, d4] => { results := [.lit (.bool true)], args := [d1, d2, d3, d4] }
  | _ => none }
def cacheAnyRow : OpenClaim := { program := "ytggehonedmbnjaadoor", sum := "8c76d121525f930230720436214155a638ef9d27636bf4aabf5044eb604eede5", func := "skipgraph/skipgraphlaw31.CacheAny", spec := "cacheAny", unfollowed := true, recurses := true, named := ["skipgraph/skipgraphworld.letters"], apart := false, laid := [("skipgraph/skipgraphworld.letters", laid_skipgraph_skipgraphworld_letters)] }
def CacheAnySaid : Prop := cacheAnyRow.holds Tryd.pinned (OpenSpec.ofChange cacheAnySpec)

/-- ITS FALSE NEIGHBOUR: 'it returns false'. Refute it at one input. -/
def cacheAnyWrong : ChangeSpec := { name := "cacheAny", fn := fun _ => fun
  | [d1, d2, d3, d4] => { results := [.lit (.bool false)], args := [d1, d2, d3, d4] }
  | _ => none }
def CacheAnyWrongFalsely : Prop := cacheAnyRow.holds Tryd.pinned (OpenSpec.ofChange cacheAnyWrong)

/- THE SECOND FORM. 'bulk': how many values and letters a reading holds, each counted each time it is reached (what is shared counts as often as it is met; a slice's spare places count too). A statement '..UptoSaid' is the law's where the arguments, and the package variables that the reading takes, are together of bulk at most 1048576: NARROWER than '..Said'. Prove '..Said' where nothing that the law and all that it calls make is longer than what came in: it says more and counts as full. Else prove '..UptoSaid'. A law counts once. -/
mutual
def uptoBulk {H : Type} : DataW H → Nat
  | .lit (.string bytes) => bytes.length + 1
  | .lit _ => 1
  | .nil => 1
  | .ptr d => uptoBulk d + 1
  | .slice elems spare => uptoBulkAll elems + uptoBulkAll spare + 1
  | .agg parts => uptoBulkAll parts + 1
  | .iface _ d => uptoBulk d + 1
  | .map entries => uptoBulkEntries entries + 1
  | .held _ => 1
def uptoBulkAll {H : Type} : List (DataW H) → Nat
  | [] => 0
  | d :: r => uptoBulk d + uptoBulkAll r
def uptoBulkEntries {H : Type} : List (Lit × DataW H) → Nat
  | [] => 0
  | x :: r => uptoBulkEntry x + uptoBulkEntries r
def uptoBulkEntry {H : Type} : Lit × DataW H → Nat
  | (.string bytes, d) => bytes.length + uptoBulk d + 1
  | (_, d) => uptoBulk d + 1
 end
def uptoSmall : (H : Type) → List (DataW H) → Bool := fun _ ds => decide (uptoBulkAll ds ≤ 1048576)
def OpenSpec.upto (s : _root_.Go.ChangeSpec) : _root_.Go.OpenSpec := { _root_.Go.OpenSpec.ofChange s with cond := some uptoSmall }

/-- 'skipgraphlaw31.CacheSound', WHERE WHAT IT READS IS OF BULK AT MOST 1048576: true; the input reads as it did. -/
def cacheSoundUptoRow : OpenClaim := { program := "ytggehonedmbnjaadoor", sum := "8c76d121525f930230720436214155a638ef9d27636bf4aabf5044eb604eede5", func := "skipgraph/skipgraphlaw31.CacheSound", spec := "cacheSound", unfollowed := true, recurses := true, named := ["skipgraph/skipgraphworld.letters"], apart := false, laid := [("skipgraph/skipgraphworld.letters", laid_skipgraph_skipgraphworld_letters)], narrowed := true }
def CacheSoundUptoSaid : Prop := cacheSoundUptoRow.holds Tryd.pinned (OpenSpec.upto cacheSoundSpec)

/-- 'skipgraphlaw31.CacheSteps', WHERE WHAT IT READS IS OF BULK AT MOST 1048576: true; the input reads as it did. -/
def cacheStepsUptoRow : OpenClaim := { program := "ytggehonedmbnjaadoor", sum := "8c76d121525f930230720436214155a638ef9d27636bf4aabf5044eb604eede5", func := "skipgraph/skipgraphlaw31.CacheSteps", spec := "cacheSteps", unfollowed := true, recurses := true, named := ["skipgraph/skipgraphworld.letters"], apart := false, laid := [("skipgraph/skipgraphworld.letters", laid_skipgraph_skipgraphworld_letters)], narrowed := true }
def CacheStepsUptoSaid : Prop := cacheStepsUptoRow.holds Tryd.pinned (OpenSpec.upto cacheStepsSpec)

/-- 'skipgraphlaw31.CacheAny', WHERE WHAT IT READS IS OF BULK AT MOST 1048576: true; the input reads as it did. -/
def cacheAnyUptoRow : OpenClaim := { program := "ytggehonedmbnjaadoor", sum := "8c76d121525f930230720436214155a638ef9d27636bf4aabf5044eb604eede5", func := "skipgraph/skipgraphlaw31.CacheAny", spec := "cacheAny", unfollowed := true, recurses := true, named := ["skipgraph/skipgraphworld.letters"], apart := false, laid := [("skipgraph/skipgraphworld.letters", laid_skipgraph_skipgraphworld_letters)], narrowed := true }
def CacheAnyUptoSaid : Prop := cacheAnyUptoRow.holds Tryd.pinned (OpenSpec.upto cacheAnySpec)

end Rows
end Go.Proofs.YtggehonedmbnjaaDoor
