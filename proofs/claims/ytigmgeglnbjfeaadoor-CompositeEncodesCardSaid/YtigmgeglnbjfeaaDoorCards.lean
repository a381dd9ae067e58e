/-
  DERIVED. GIVEN WITH THE SEED: THE CARDS: each row of YtigmgeglnbjfeaaDoorRows.lean that lists a variable, with what it lists TIED to the program's text (the seventh form; the later family's looks); each row that meets fmt, with fmt's text TOLD by the authors' own Lean function (tested against real Go, not proved from fmt's source: count such statements apart). THE CARD IS WHAT COUNTS. Prove the row's statement (the work); the ties are given (YtigmgeglnbjfeaaDoorTie.lean); close each card by the builder's one call (the guide's Derived/Test/ToyasCard.lean, 'card_holds'). Laid BY PROGRAM, IN A SANDBOX (cutbox-door.mjs). By AI agents, Wed Nov 11 2026. No macro, syntax, notation, axiom, sorry.
-/
import Derived.Test.YtigmgeglnbjfeaaDoorRows
import GoSem.ClaimSeven
namespace Go.Proofs.YtigmgeglnbjfeaaDoor
namespace Rows

/-- THE TIED CARD OF 'skipgraphlaw2.CompositeEncodes'. -/
def compositeEncodesCard : Claim7 := { stood := { row := compositeEncodesRow, standIns := [], harness := (true, "6209275890e942d9931ce343b4b0b747c53c85322adc5754ca0db822e20692a4"), looks := false }, kinds := [], alts := [], laidByText := true, laidKinds := [.data], laidTests := true, laidLooks := .later }
def CompositeEncodesCardSaid : Prop := Claim7.holds Tryd.pinned (.plain (OpenSpec.ofChange compositeEncodesSpec)) compositeEncodesCard

/-- THE SECOND FORM's CARD OF 'skipgraphlaw2.CompositeEncodes'. -/
def compositeEncodesUptoCard : Claim7 := { stood := { row := compositeEncodesUptoRow, standIns := [], harness := (true, "6209275890e942d9931ce343b4b0b747c53c85322adc5754ca0db822e20692a4"), looks := false }, kinds := [], alts := [], laidByText := true, laidKinds := [.data], laidTests := true, laidLooks := .later }
def CompositeEncodesUptoCardSaid : Prop := Claim7.holds Tryd.pinned (.plain (OpenSpec.upto compositeEncodesSpec)) compositeEncodesUptoCard
end Rows
end Go.Proofs.YtigmgeglnbjfeaaDoor
