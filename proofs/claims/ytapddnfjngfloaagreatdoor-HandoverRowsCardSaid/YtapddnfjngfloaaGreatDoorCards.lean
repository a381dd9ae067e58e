/-
  DERIVED. GIVEN WITH THE SEED: THE CARDS: each row of YtapddnfjngfloaaGreatDoorRows.lean that lists a variable, with what it lists TIED to the program's text (the seventh form; the later family's looks); each row that meets fmt, with fmt's text TOLD by the authors' own Lean function (tested against real Go, not proved from fmt's source: count such statements apart). THE CARD IS WHAT COUNTS. Prove the row's statement (the work); the ties are given (YtapddnfjngfloaaGreatDoorTie.lean); close each card by the builder's one call (the guide's Derived/Test/ToyasCard.lean, 'card_holds'). Laid BY PROGRAM, IN A SANDBOX (cutbox-door.mjs). By AI agents, Wed Nov 11 2026. No macro, syntax, notation, axiom, sorry.
-/
import Derived.Test.YtapddnfjngfloaaGreatDoorRows
import GoSem.ClaimSeven
namespace Go.Proofs.YtapddnfjngfloaaGreatDoor
namespace Rows

/-- THE TIED CARD OF 'skipgraphlaw27.HandoverRuns'. -/
def handoverRunsCard : Claim7 := { stood := { row := handoverRunsRow, standIns := [], harness := (true, "cc23f5f6e7033233ec7a3d9f6085bb1cd45d467f0402e6542d17a976746fe788"), looks := false }, kinds := [], alts := [], laidByText := true, laidKinds := [.data], laidTests := true, laidLooks := .later }
def HandoverRunsCardSaid : Prop := Claim7.holds Tryz.pinned (.plain (OpenSpec.ofChange handoverRunsSpec)) handoverRunsCard

/-- THE TIED CARD OF 'skipgraphlaw27.HandoverSteps'. -/
def handoverStepsCard : Claim7 := { stood := { row := handoverStepsRow, standIns := [], harness := (true, "cc23f5f6e7033233ec7a3d9f6085bb1cd45d467f0402e6542d17a976746fe788"), looks := false }, kinds := [], alts := [], laidByText := true, laidKinds := [.data], laidTests := true, laidLooks := .later }
def HandoverStepsCardSaid : Prop := Claim7.holds Tryz.pinned (.plain (OpenSpec.ofChange handoverStepsSpec)) handoverStepsCard

/-- THE TIED CARD OF 'skipgraphlaw27.HandoverOwners'. -/
def handoverOwnersCard : Claim7 := { stood := { row := handoverOwnersRow, standIns := [], harness := (true, "cc23f5f6e7033233ec7a3d9f6085bb1cd45d467f0402e6542d17a976746fe788"), looks := false }, kinds := [], alts := [], laidByText := true, laidKinds := [.data], laidTests := true, laidLooks := .later }
def HandoverOwnersCardSaid : Prop := Claim7.holds Tryz.pinned (.plain (OpenSpec.ofChange handoverOwnersSpec)) handoverOwnersCard

/-- THE TIED CARD OF 'skipgraphlaw27.HandoverPlaces'. -/
def handoverPlacesCard : Claim7 := { stood := { row := handoverPlacesRow, standIns := [], harness := (true, "cc23f5f6e7033233ec7a3d9f6085bb1cd45d467f0402e6542d17a976746fe788"), looks := false }, kinds := [], alts := [], laidByText := true, laidKinds := [.data], laidTests := true, laidLooks := .later }
def HandoverPlacesCardSaid : Prop := Claim7.holds Tryz.pinned (.plain (OpenSpec.ofChange handoverPlacesSpec)) handoverPlacesCard

/-- THE TIED CARD OF 'skipgraphlaw27.HandoverStamps'. -/
def handoverStampsCard : Claim7 := { stood := { row := handoverStampsRow, standIns := [], harness := (true, "cc23f5f6e7033233ec7a3d9f6085bb1cd45d467f0402e6542d17a976746fe788"), looks := false }, kinds := [], alts := [], laidByText := true, laidKinds := [.data], laidTests := true, laidLooks := .later }
def HandoverStampsCardSaid : Prop := Claim7.holds Tryz.pinned (.plain (OpenSpec.ofChange handoverStampsSpec)) handoverStampsCard

/-- THE TIED CARD OF 'skipgraphlaw27.HandoverRows'. -/
def handoverRowsCard : Claim7 := { stood := { row := handoverRowsRow, standIns := [], harness := (true, "cc23f5f6e7033233ec7a3d9f6085bb1cd45d467f0402e6542d17a976746fe788"), looks := false }, kinds := [], alts := [], laidByText := true, laidKinds := [.data], laidTests := true, laidLooks := .later }
def HandoverRowsCardSaid : Prop := Claim7.holds Tryz.pinned (.plain (OpenSpec.ofChange handoverRowsSpec)) handoverRowsCard

/-- THE SECOND FORM's CARD OF 'skipgraphlaw27.HandoverRuns'. -/
def handoverRunsUptoCard : Claim7 := { stood := { row := handoverRunsUptoRow, standIns := [], harness := (true, "cc23f5f6e7033233ec7a3d9f6085bb1cd45d467f0402e6542d17a976746fe788"), looks := false }, kinds := [], alts := [], laidByText := true, laidKinds := [.data], laidTests := true, laidLooks := .later }
def HandoverRunsUptoCardSaid : Prop := Claim7.holds Tryz.pinned (.plain (OpenSpec.upto handoverRunsSpec)) handoverRunsUptoCard

/-- THE SECOND FORM's CARD OF 'skipgraphlaw27.HandoverSteps'. -/
def handoverStepsUptoCard : Claim7 := { stood := { row := handoverStepsUptoRow, standIns := [], harness := (true, "cc23f5f6e7033233ec7a3d9f6085bb1cd45d467f0402e6542d17a976746fe788"), looks := false }, kinds := [], alts := [], laidByText := true, laidKinds := [.data], laidTests := true, laidLooks := .later }
def HandoverStepsUptoCardSaid : Prop := Claim7.holds Tryz.pinned (.plain (OpenSpec.upto handoverStepsSpec)) handoverStepsUptoCard

/-- THE SECOND FORM's CARD OF 'skipgraphlaw27.HandoverOwners'. -/
def handoverOwnersUptoCard : Claim7 := { stood := { row := handoverOwnersUptoRow, standIns := [], harness := (true, "cc23f5f6e7033233ec7a3d9f6085bb1cd45d467f0402e6542d17a976746fe788"), looks := false }, kinds := [], alts := [], laidByText := true, laidKinds := [.data], laidTests := true, laidLooks := .later }
def HandoverOwnersUptoCardSaid : Prop := Claim7.holds Tryz.pinned (.plain (OpenSpec.upto handoverOwnersSpec)) handoverOwnersUptoCard

/-- THE SECOND FORM's CARD OF 'skipgraphlaw27.HandoverPlaces'. -/
def handoverPlacesUptoCard : Claim7 := { stood := { row := handoverPlacesUptoRow, standIns := [], harness := (true, "cc23f5f6e7033233ec7a3d9f6085bb1cd45d467f0402e6542d17a976746fe788"), looks := false }, kinds := [], alts := [], laidByText := true, laidKinds := [.data], laidTests := true, laidLooks := .later }
def HandoverPlacesUptoCardSaid : Prop := Claim7.holds Tryz.pinned (.plain (OpenSpec.upto handoverPlacesSpec)) handoverPlacesUptoCard

/-- THE SECOND FORM's CARD OF 'skipgraphlaw27.HandoverStamps'. -/
def handoverStampsUptoCard : Claim7 := { stood := { row := handoverStampsUptoRow, standIns := [], harness := (true, "cc23f5f6e7033233ec7a3d9f6085bb1cd45d467f0402e6542d17a976746fe788"), looks := false }, kinds := [], alts := [], laidByText := true, laidKinds := [.data], laidTests := true, laidLooks := .later }
def HandoverStampsUptoCardSaid : Prop := Claim7.holds Tryz.pinned (.plain (OpenSpec.upto handoverStampsSpec)) handoverStampsUptoCard

/-- THE SECOND FORM's CARD OF 'skipgraphlaw27.HandoverRows'. -/
def handoverRowsUptoCard : Claim7 := { stood := { row := handoverRowsUptoRow, standIns := [], harness := (true, "cc23f5f6e7033233ec7a3d9f6085bb1cd45d467f0402e6542d17a976746fe788"), looks := false }, kinds := [], alts := [], laidByText := true, laidKinds := [.data], laidTests := true, laidLooks := .later }
def HandoverRowsUptoCardSaid : Prop := Claim7.holds Tryz.pinned (.plain (OpenSpec.upto handoverRowsSpec)) handoverRowsUptoCard
end Rows
end Go.Proofs.YtapddnfjngfloaaGreatDoor
