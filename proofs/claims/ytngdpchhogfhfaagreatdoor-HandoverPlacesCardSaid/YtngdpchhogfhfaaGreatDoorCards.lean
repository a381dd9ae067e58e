/-
  DERIVED. GIVEN WITH THE SEED: THE CARDS: each row of YtngdpchhogfhfaaGreatDoorRows.lean that lists a variable, with what it lists TIED to the program's text (the seventh form; the later family's looks); each row that meets fmt, with fmt's text TOLD by the authors' own Lean function (tested against real Go, not proved from fmt's source: count such statements apart). THE CARD IS WHAT COUNTS. Prove the row's statement (the work); the ties are given (YtngdpchhogfhfaaGreatDoorTie.lean); close each card by the builder's one call (the guide's Derived/Test/ToyasCard.lean, 'card_holds'). Laid BY PROGRAM, IN A SANDBOX (cutbox-door.mjs). By AI agents, Wed Nov 11 2026. No macro, syntax, notation, axiom, sorry.
-/
import Derived.Test.YtngdpchhogfhfaaGreatDoorRows
import GoSem.ClaimSeven
namespace Go.Proofs.YtngdpchhogfhfaaGreatDoor
namespace Rows

/-- THE TIED CARD OF 'skipgraphlaw27.HandoverPlaces'. -/
def handoverPlacesCard : Claim7 := { stood := { row := handoverPlacesRow, standIns := [], harness := (true, "b53e8b7f1870ed8d33fa0af00378155c2f0c9ac57cc431fdf258c0fcfb953acd"), looks := false }, kinds := [], alts := [], laidByText := true, laidKinds := [.data], laidTests := true, laidLooks := .later }
def HandoverPlacesCardSaid : Prop := Claim7.holds Tryz.pinned (.plain (OpenSpec.ofChange handoverPlacesSpec)) handoverPlacesCard

/-- THE SECOND FORM's CARD OF 'skipgraphlaw27.HandoverPlaces'. -/
def handoverPlacesUptoCard : Claim7 := { stood := { row := handoverPlacesUptoRow, standIns := [], harness := (true, "b53e8b7f1870ed8d33fa0af00378155c2f0c9ac57cc431fdf258c0fcfb953acd"), looks := false }, kinds := [], alts := [], laidByText := true, laidKinds := [.data], laidTests := true, laidLooks := .later }
def HandoverPlacesUptoCardSaid : Prop := Claim7.holds Tryz.pinned (.plain (OpenSpec.upto handoverPlacesSpec)) handoverPlacesUptoCard
end Rows
end Go.Proofs.YtngdpchhogfhfaaGreatDoor
