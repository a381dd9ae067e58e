/-
  DERIVED. GIVEN WITH THE SEED: THE CARDS: each row of YtiadnhbclipmhaaGreatDoorRows.lean that lists a variable, with what it lists TIED to the program's text (the seventh form; the later family's looks); each row that meets fmt, with fmt's text TOLD by the authors' own Lean function (tested against real Go, not proved from fmt's source: count such statements apart). THE CARD IS WHAT COUNTS. Prove the row's statement (the work); the ties are given (YtiadnhbclipmhaaGreatDoorTie.lean); close each card by the builder's one call (the guide's Derived/Test/ToyasCard.lean, 'card_holds'). Laid BY PROGRAM, IN A SANDBOX (cutbox-door.mjs). By AI agents, Wed Nov 11 2026. No macro, syntax, notation, axiom, sorry.
-/
import Derived.Test.YtiadnhbclipmhaaGreatDoorRows
import GoSem.ClaimSeven
namespace Go.Proofs.YtiadnhbclipmhaaGreatDoor
namespace Rows

/-- THE TIED CARD OF 'skipgraphtop.TopPartition'. -/
def topPartitionCard : Claim7 := { stood := { row := topPartitionRow, standIns := [], harness := (true, "35c5629f0196eaee72006835843c7488909b98f0ffa5f1f6c9daeec3957c7944"), looks := false }, kinds := [], alts := [], laidByText := true, laidKinds := [.data, .data], laidTests := true, laidLooks := .later }
def TopPartitionCardSaid : Prop := Claim7.holds Tryz.pinned (.plain (OpenSpec.ofChange topPartitionSpec)) topPartitionCard

/-- THE SECOND FORM's CARD OF 'skipgraphtop.TopPartition'. -/
def topPartitionUptoCard : Claim7 := { stood := { row := topPartitionUptoRow, standIns := [], harness := (true, "35c5629f0196eaee72006835843c7488909b98f0ffa5f1f6c9daeec3957c7944"), looks := false }, kinds := [], alts := [], laidByText := true, laidKinds := [.data, .data], laidTests := true, laidLooks := .later }
def TopPartitionUptoCardSaid : Prop := Claim7.holds Tryz.pinned (.plain (OpenSpec.upto topPartitionSpec)) topPartitionUptoCard
end Rows
end Go.Proofs.YtiadnhbclipmhaaGreatDoor
