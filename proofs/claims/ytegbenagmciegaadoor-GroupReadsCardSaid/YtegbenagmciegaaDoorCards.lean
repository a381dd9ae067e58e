/-
  DERIVED. GIVEN WITH THE SEED: THE CARDS: each row of YtegbenagmciegaaDoorRows.lean that lists a variable, with what it lists TIED to the program's text (the seventh form; the later family's looks); each row that meets fmt, with fmt's text TOLD by the authors' own Lean function (tested against real Go, not proved from fmt's source: count such statements apart). THE CARD IS WHAT COUNTS. Prove the row's statement (the work); the ties are given (YtegbenagmciegaaDoorTie.lean); close each card by the builder's one call (the guide's Derived/Test/ToyasCard.lean, 'card_holds'). Laid BY PROGRAM, IN A SANDBOX (cutbox-door.mjs). By AI agents, Wed Nov 11 2026. No macro, syntax, notation, axiom, sorry.
-/
import Derived.Test.YtegbenagmciegaaDoorRows
import GoSem.ClaimSeven
namespace Go.Proofs.YtegbenagmciegaaDoor
namespace Rows

/-- THE TIED CARD OF 'skipgraphlaw25.GroupDurable'. -/
def groupDurableCard : Claim7 := { stood := { row := groupDurableRow, standIns := [], harness := (true, "799aac668b55922899e7f152319e0f580bbd25d9568e1a4f3f498f4db6bcb55f"), looks := false }, kinds := [], alts := [], laidByText := true, laidKinds := [.data], laidTests := true, laidLooks := .later }
def GroupDurableCardSaid : Prop := Claim7.holds Tryd.pinned (.plain (OpenSpec.ofChange groupDurableSpec)) groupDurableCard

/-- THE TIED CARD OF 'skipgraphlaw25.GroupReads'. -/
def groupReadsCard : Claim7 := { stood := { row := groupReadsRow, standIns := [], harness := (true, "799aac668b55922899e7f152319e0f580bbd25d9568e1a4f3f498f4db6bcb55f"), looks := false }, kinds := [], alts := [], laidByText := true, laidKinds := [.data], laidTests := true, laidLooks := .later }
def GroupReadsCardSaid : Prop := Claim7.holds Tryd.pinned (.plain (OpenSpec.ofChange groupReadsSpec)) groupReadsCard

/-- THE SECOND FORM's CARD OF 'skipgraphlaw25.GroupDurable'. -/
def groupDurableUptoCard : Claim7 := { stood := { row := groupDurableUptoRow, standIns := [], harness := (true, "799aac668b55922899e7f152319e0f580bbd25d9568e1a4f3f498f4db6bcb55f"), looks := false }, kinds := [], alts := [], laidByText := true, laidKinds := [.data], laidTests := true, laidLooks := .later }
def GroupDurableUptoCardSaid : Prop := Claim7.holds Tryd.pinned (.plain (OpenSpec.upto groupDurableSpec)) groupDurableUptoCard

/-- THE SECOND FORM's CARD OF 'skipgraphlaw25.GroupReads'. -/
def groupReadsUptoCard : Claim7 := { stood := { row := groupReadsUptoRow, standIns := [], harness := (true, "799aac668b55922899e7f152319e0f580bbd25d9568e1a4f3f498f4db6bcb55f"), looks := false }, kinds := [], alts := [], laidByText := true, laidKinds := [.data], laidTests := true, laidLooks := .later }
def GroupReadsUptoCardSaid : Prop := Claim7.holds Tryd.pinned (.plain (OpenSpec.upto groupReadsSpec)) groupReadsUptoCard
end Rows
end Go.Proofs.YtegbenagmciegaaDoor
