/-
  DERIVED. GIVEN WITH THE SEED: THE CARDS: each row of YtgdgkekpfmhbbaaGreatDoorRows.lean that lists a variable, with what it lists TIED to the program's text (the seventh form; the later family's looks); each row that meets fmt, with fmt's text TOLD by the authors' own Lean function (tested against real Go, not proved from fmt's source: count such statements apart). THE CARD IS WHAT COUNTS. Prove the row's statement (the work); the ties are given (YtgdgkekpfmhbbaaGreatDoorTie.lean); close each card by the builder's one call (the guide's Derived/Test/ToyasCard.lean, 'card_holds'). Laid BY PROGRAM, IN A SANDBOX (cutbox-door.mjs). By AI agents, Wed Nov 11 2026. No macro, syntax, notation, axiom, sorry.
-/
import Derived.Test.YtgdgkekpfmhbbaaGreatDoorRows
import GoSem.ClaimSeven
namespace Go.Proofs.YtgdgkekpfmhbbaaGreatDoor
namespace Rows

/-- THE TIED CARD OF 'skipgraphtop.TopNearest'. -/
def topNearestCard : Claim7 := { stood := { row := topNearestRow, standIns := [], harness := (true, "97b36ef92a9fc295bb54161133de01178274dcd7f252ae2c0627ff065a7ea1c3"), looks := false }, kinds := [], alts := [], laidByText := true, laidKinds := [.data, .data], laidTests := true, laidLooks := .later }
def TopNearestCardSaid : Prop := Claim7.holds Tryz.pinned (.plain (OpenSpec.ofChange topNearestSpec)) topNearestCard

/-- THE SECOND FORM's CARD OF 'skipgraphtop.TopNearest'. -/
def topNearestUptoCard : Claim7 := { stood := { row := topNearestUptoRow, standIns := [], harness := (true, "97b36ef92a9fc295bb54161133de01178274dcd7f252ae2c0627ff065a7ea1c3"), looks := false }, kinds := [], alts := [], laidByText := true, laidKinds := [.data, .data], laidTests := true, laidLooks := .later }
def TopNearestUptoCardSaid : Prop := Claim7.holds Tryz.pinned (.plain (OpenSpec.upto topNearestSpec)) topNearestUptoCard
end Rows
end Go.Proofs.YtgdgkekpfmhbbaaGreatDoor
