/-
  DERIVED. GIVEN WITH THE SEED: THE CARDS: each row of YtegbenagmciegaaGreatDoorRows.lean that lists a variable, with what it lists TIED to the program's text (the seventh form; the later family's looks); each row that meets fmt, with fmt's text TOLD by the authors' own Lean function (tested against real Go, not proved from fmt's source: count such statements apart). THE CARD IS WHAT COUNTS. Prove the row's statement (the work); the ties are given (YtegbenagmciegaaGreatDoorTie.lean); close each card by the builder's one call (the guide's Derived/Test/ToyasCard.lean, 'card_holds'). Laid BY PROGRAM, IN A SANDBOX (cutbox-door.mjs). By AI agents, Wed Nov 11 2026. No macro, syntax, notation, axiom, sorry.
-/
import Derived.Test.YtegbenagmciegaaGreatDoorRows
import GoSem.ClaimSeven
namespace Go.Proofs.YtegbenagmciegaaGreatDoor
namespace Rows

/-- THE TIED CARD OF 'skipgraphlaw25.GroupNew'. -/
def groupNewCard : Claim7 := { stood := { row := groupNewRow, standIns := [], harness := (true, "b01a978d79b23bb570124d2eddeea5731d9cb684bc1d25a1536c8487172713c4"), looks := false }, kinds := [], alts := [], laidByText := true, laidKinds := [.data], laidTests := true, laidLooks := .later }
def GroupNewCardSaid : Prop := Claim7.holds Tryz.pinned (.plain (OpenSpec.ofChange groupNewSpec)) groupNewCard

/-- THE TIED CARD OF 'skipgraphlaw26.TakeoverKeeps'. -/
def takeoverKeepsCard : Claim7 := { stood := { row := takeoverKeepsRow, standIns := [], harness := (true, "b01a978d79b23bb570124d2eddeea5731d9cb684bc1d25a1536c8487172713c4"), looks := false }, kinds := [], alts := [], laidByText := true, laidKinds := [.data], laidTests := true, laidLooks := .later }
def TakeoverKeepsCardSaid : Prop := Claim7.holds Tryz.pinned (.plain (OpenSpec.ofChange takeoverKeepsSpec)) takeoverKeepsCard

/-- THE TIED CARD OF 'skipgraphlaw26.TakeoverOpens'. -/
def takeoverOpensCard : Claim7 := { stood := { row := takeoverOpensRow, standIns := [], harness := (true, "b01a978d79b23bb570124d2eddeea5731d9cb684bc1d25a1536c8487172713c4"), looks := false }, kinds := [], alts := [], laidByText := true, laidKinds := [.data], laidTests := true, laidLooks := .later }
def TakeoverOpensCardSaid : Prop := Claim7.holds Tryz.pinned (.plain (OpenSpec.ofChange takeoverOpensSpec)) takeoverOpensCard

/-- THE TIED CARD OF 'skipgraphlaw26.TakeoverSteps'. -/
def takeoverStepsCard : Claim7 := { stood := { row := takeoverStepsRow, standIns := [], harness := (true, "b01a978d79b23bb570124d2eddeea5731d9cb684bc1d25a1536c8487172713c4"), looks := false }, kinds := [], alts := [], laidByText := true, laidKinds := [.data], laidTests := true, laidLooks := .later }
def TakeoverStepsCardSaid : Prop := Claim7.holds Tryz.pinned (.plain (OpenSpec.ofChange takeoverStepsSpec)) takeoverStepsCard

/-- THE TIED CARD OF 'skipgraphlaw26.TakeoverAny'. -/
def takeoverAnyCard : Claim7 := { stood := { row := takeoverAnyRow, standIns := [], harness := (true, "b01a978d79b23bb570124d2eddeea5731d9cb684bc1d25a1536c8487172713c4"), looks := false }, kinds := [], alts := [], laidByText := true, laidKinds := [.data], laidTests := true, laidLooks := .later }
def TakeoverAnyCardSaid : Prop := Claim7.holds Tryz.pinned (.plain (OpenSpec.ofChange takeoverAnySpec)) takeoverAnyCard

/-- THE TIED CARD OF 'skipgraphlaw26.TakeoverShows'. -/
def takeoverShowsCard : Claim7 := { stood := { row := takeoverShowsRow, standIns := [], harness := (true, "b01a978d79b23bb570124d2eddeea5731d9cb684bc1d25a1536c8487172713c4"), looks := false }, kinds := [], alts := [], laidByText := true, laidKinds := [.data], laidTests := true, laidLooks := .later }
def TakeoverShowsCardSaid : Prop := Claim7.holds Tryz.pinned (.plain (OpenSpec.ofChange takeoverShowsSpec)) takeoverShowsCard

/-- THE TIED CARD OF 'skipgraphlaw25.GroupSound'. -/
def groupSoundCard : Claim7 := { stood := { row := groupSoundRow, standIns := [], harness := (true, "b01a978d79b23bb570124d2eddeea5731d9cb684bc1d25a1536c8487172713c4"), looks := false }, kinds := [], alts := [], laidByText := true, laidKinds := [.data], laidTests := true, laidLooks := .later }
def GroupSoundCardSaid : Prop := Claim7.holds Tryz.pinned (.plain (OpenSpec.ofChange groupSoundSpec)) groupSoundCard

/-- THE TIED CARD OF 'skipgraphlaw25.GroupSteps'. -/
def groupStepsCard : Claim7 := { stood := { row := groupStepsRow, standIns := [], harness := (true, "b01a978d79b23bb570124d2eddeea5731d9cb684bc1d25a1536c8487172713c4"), looks := false }, kinds := [], alts := [], laidByText := true, laidKinds := [.data], laidTests := true, laidLooks := .later }
def GroupStepsCardSaid : Prop := Claim7.holds Tryz.pinned (.plain (OpenSpec.ofChange groupStepsSpec)) groupStepsCard

/-- THE SECOND FORM's CARD OF 'skipgraphlaw25.GroupNew'. -/
def groupNewUptoCard : Claim7 := { stood := { row := groupNewUptoRow, standIns := [], harness := (true, "b01a978d79b23bb570124d2eddeea5731d9cb684bc1d25a1536c8487172713c4"), looks := false }, kinds := [], alts := [], laidByText := true, laidKinds := [.data], laidTests := true, laidLooks := .later }
def GroupNewUptoCardSaid : Prop := Claim7.holds Tryz.pinned (.plain (OpenSpec.upto groupNewSpec)) groupNewUptoCard

/-- THE SECOND FORM's CARD OF 'skipgraphlaw26.TakeoverKeeps'. -/
def takeoverKeepsUptoCard : Claim7 := { stood := { row := takeoverKeepsUptoRow, standIns := [], harness := (true, "b01a978d79b23bb570124d2eddeea5731d9cb684bc1d25a1536c8487172713c4"), looks := false }, kinds := [], alts := [], laidByText := true, laidKinds := [.data], laidTests := true, laidLooks := .later }
def TakeoverKeepsUptoCardSaid : Prop := Claim7.holds Tryz.pinned (.plain (OpenSpec.upto takeoverKeepsSpec)) takeoverKeepsUptoCard

/-- THE SECOND FORM's CARD OF 'skipgraphlaw26.TakeoverOpens'. -/
def takeoverOpensUptoCard : Claim7 := { stood := { row := takeoverOpensUptoRow, standIns := [], harness := (true, "b01a978d79b23bb570124d2eddeea5731d9cb684bc1d25a1536c8487172713c4"), looks := false }, kinds := [], alts := [], laidByText := true, laidKinds := [.data], laidTests := true, laidLooks := .later }
def TakeoverOpensUptoCardSaid : Prop := Claim7.holds Tryz.pinned (.plain (OpenSpec.upto takeoverOpensSpec)) takeoverOpensUptoCard

/-- THE SECOND FORM's CARD OF 'skipgraphlaw26.TakeoverSteps'. -/
def takeoverStepsUptoCard : Claim7 := { stood := { row := takeoverStepsUptoRow, standIns := [], harness := (true, "b01a978d79b23bb570124d2eddeea5731d9cb684bc1d25a1536c8487172713c4"), looks := false }, kinds := [], alts := [], laidByText := true, laidKinds := [.data], laidTests := true, laidLooks := .later }
def TakeoverStepsUptoCardSaid : Prop := Claim7.holds Tryz.pinned (.plain (OpenSpec.upto takeoverStepsSpec)) takeoverStepsUptoCard

/-- THE SECOND FORM's CARD OF 'skipgraphlaw26.TakeoverAny'. -/
def takeoverAnyUptoCard : Claim7 := { stood := { row := takeoverAnyUptoRow, standIns := [], harness := (true, "b01a978d79b23bb570124d2eddeea5731d9cb684bc1d25a1536c8487172713c4"), looks := false }, kinds := [], alts := [], laidByText := true, laidKinds := [.data], laidTests := true, laidLooks := .later }
def TakeoverAnyUptoCardSaid : Prop := Claim7.holds Tryz.pinned (.plain (OpenSpec.upto takeoverAnySpec)) takeoverAnyUptoCard

/-- THE SECOND FORM's CARD OF 'skipgraphlaw26.TakeoverShows'. -/
def takeoverShowsUptoCard : Claim7 := { stood := { row := takeoverShowsUptoRow, standIns := [], harness := (true, "b01a978d79b23bb570124d2eddeea5731d9cb684bc1d25a1536c8487172713c4"), looks := false }, kinds := [], alts := [], laidByText := true, laidKinds := [.data], laidTests := true, laidLooks := .later }
def TakeoverShowsUptoCardSaid : Prop := Claim7.holds Tryz.pinned (.plain (OpenSpec.upto takeoverShowsSpec)) takeoverShowsUptoCard

/-- THE SECOND FORM's CARD OF 'skipgraphlaw25.GroupSound'. -/
def groupSoundUptoCard : Claim7 := { stood := { row := groupSoundUptoRow, standIns := [], harness := (true, "b01a978d79b23bb570124d2eddeea5731d9cb684bc1d25a1536c8487172713c4"), looks := false }, kinds := [], alts := [], laidByText := true, laidKinds := [.data], laidTests := true, laidLooks := .later }
def GroupSoundUptoCardSaid : Prop := Claim7.holds Tryz.pinned (.plain (OpenSpec.upto groupSoundSpec)) groupSoundUptoCard

/-- THE SECOND FORM's CARD OF 'skipgraphlaw25.GroupSteps'. -/
def groupStepsUptoCard : Claim7 := { stood := { row := groupStepsUptoRow, standIns := [], harness := (true, "b01a978d79b23bb570124d2eddeea5731d9cb684bc1d25a1536c8487172713c4"), looks := false }, kinds := [], alts := [], laidByText := true, laidKinds := [.data], laidTests := true, laidLooks := .later }
def GroupStepsUptoCardSaid : Prop := Claim7.holds Tryz.pinned (.plain (OpenSpec.upto groupStepsSpec)) groupStepsUptoCard
end Rows
end Go.Proofs.YtegbenagmciegaaGreatDoor
