/-
  DERIVED. GIVEN WITH THE SEED: THE CARDS: each row of YtchfacjjaahdnaaDoorRows.lean that lists a variable, with what it lists TIED to the program's text (the seventh form; the later family's looks); each row that meets fmt, with fmt's text TOLD by the authors' own Lean function (tested against real Go, not proved from fmt's source: count such statements apart). THE CARD IS WHAT COUNTS. Prove the row's statement (the work); the ties are given (YtchfacjjaahdnaaDoorTie.lean); close each card by the builder's one call (the guide's Derived/Test/ToyasCard.lean, 'card_holds'). Laid BY PROGRAM, IN A SANDBOX (cutbox-door.mjs). By AI agents, Wed Nov 11 2026. No macro, syntax, notation, axiom, sorry.
-/
import Derived.Test.YtchfacjjaahdnaaDoorRows
import GoSem.ClaimSeven
namespace Go.Proofs.YtchfacjjaahdnaaDoor
namespace Rows

/-- THE TIED CARD OF 'skipgraphlaw24.ReplicaValid'. -/
def replicaValidCard : Claim7 := { stood := { row := replicaValidRow, standIns := [], harness := (true, "b8c9dcd8191ed71740a4ac80bc30765b96fa06e695fb428c9ca2be74d3c2a2d9"), looks := false }, kinds := [], alts := [], laidByText := true, laidKinds := [.data], laidTests := true, laidLooks := .later }
def ReplicaValidCardSaid : Prop := Claim7.holds Tryd.pinned (.plain (OpenSpec.ofChange replicaValidSpec)) replicaValidCard

/-- THE TIED CARD OF 'skipgraphlaw24.ReplicaDetaches'. -/
def replicaDetachesCard : Claim7 := { stood := { row := replicaDetachesRow, standIns := [], harness := (true, "b8c9dcd8191ed71740a4ac80bc30765b96fa06e695fb428c9ca2be74d3c2a2d9"), looks := false }, kinds := [], alts := [], laidByText := true, laidKinds := [.data], laidTests := true, laidLooks := .later }
def ReplicaDetachesCardSaid : Prop := Claim7.holds Tryd.pinned (.plain (OpenSpec.ofChange replicaDetachesSpec)) replicaDetachesCard

/-- THE TIED CARD OF 'skipgraphlaw24.ReplicaNew'. -/
def replicaNewCard : Claim7 := { stood := { row := replicaNewRow, standIns := [], harness := (true, "b8c9dcd8191ed71740a4ac80bc30765b96fa06e695fb428c9ca2be74d3c2a2d9"), looks := false }, kinds := [], alts := [], laidByText := true, laidKinds := [.data], laidTests := true, laidLooks := .later }
def ReplicaNewCardSaid : Prop := Claim7.holds Tryd.pinned (.plain (OpenSpec.ofChange replicaNewSpec)) replicaNewCard

/-- THE TIED CARD OF 'skipgraphlaw24.ReplicaAttaches'. -/
def replicaAttachesCard : Claim7 := { stood := { row := replicaAttachesRow, standIns := [], harness := (true, "b8c9dcd8191ed71740a4ac80bc30765b96fa06e695fb428c9ca2be74d3c2a2d9"), looks := false }, kinds := [], alts := [], laidByText := true, laidKinds := [.data], laidTests := true, laidLooks := .later }
def ReplicaAttachesCardSaid : Prop := Claim7.holds Tryd.pinned (.plain (OpenSpec.ofChange replicaAttachesSpec)) replicaAttachesCard

/-- THE TIED CARD OF 'skipgraphlaw24.ReplicaBack'. -/
def replicaBackCard : Claim7 := { stood := { row := replicaBackRow, standIns := [], harness := (true, "b8c9dcd8191ed71740a4ac80bc30765b96fa06e695fb428c9ca2be74d3c2a2d9"), looks := false }, kinds := [], alts := [], laidByText := true, laidKinds := [.data], laidTests := true, laidLooks := .later }
def ReplicaBackCardSaid : Prop := Claim7.holds Tryd.pinned (.plain (OpenSpec.ofChange replicaBackSpec)) replicaBackCard

/-- THE TIED CARD OF 'skipgraphlaw24.ReplicaWrites'. -/
def replicaWritesCard : Claim7 := { stood := { row := replicaWritesRow, standIns := [], harness := (true, "b8c9dcd8191ed71740a4ac80bc30765b96fa06e695fb428c9ca2be74d3c2a2d9"), looks := false }, kinds := [], alts := [], laidByText := true, laidKinds := [.data], laidTests := true, laidLooks := .later }
def ReplicaWritesCardSaid : Prop := Claim7.holds Tryd.pinned (.plain (OpenSpec.ofChange replicaWritesSpec)) replicaWritesCard

/-- THE TIED CARD OF 'skipgraphlaw24.ReplicaCommits'. -/
def replicaCommitsCard : Claim7 := { stood := { row := replicaCommitsRow, standIns := [], harness := (true, "b8c9dcd8191ed71740a4ac80bc30765b96fa06e695fb428c9ca2be74d3c2a2d9"), looks := false }, kinds := [], alts := [], laidByText := true, laidKinds := [.data], laidTests := true, laidLooks := .later }
def ReplicaCommitsCardSaid : Prop := Claim7.holds Tryd.pinned (.plain (OpenSpec.ofChange replicaCommitsSpec)) replicaCommitsCard

/-- THE TIED CARD OF 'skipgraphlaw25.GroupDurable'. -/
def groupDurableCard : Claim7 := { stood := { row := groupDurableRow, standIns := [], harness := (true, "b8c9dcd8191ed71740a4ac80bc30765b96fa06e695fb428c9ca2be74d3c2a2d9"), looks := false }, kinds := [], alts := [], laidByText := true, laidKinds := [.data], laidTests := true, laidLooks := .later }
def GroupDurableCardSaid : Prop := Claim7.holds Tryd.pinned (.plain (OpenSpec.ofChange groupDurableSpec)) groupDurableCard

/-- THE TIED CARD OF 'skipgraphlaw25.GroupReads'. -/
def groupReadsCard : Claim7 := { stood := { row := groupReadsRow, standIns := [], harness := (true, "b8c9dcd8191ed71740a4ac80bc30765b96fa06e695fb428c9ca2be74d3c2a2d9"), looks := false }, kinds := [], alts := [], laidByText := true, laidKinds := [.data], laidTests := true, laidLooks := .later }
def GroupReadsCardSaid : Prop := Claim7.holds Tryd.pinned (.plain (OpenSpec.ofChange groupReadsSpec)) groupReadsCard

/-- THE SECOND FORM's CARD OF 'skipgraphlaw24.ReplicaValid'. -/
def replicaValidUptoCard : Claim7 := { stood := { row := replicaValidUptoRow, standIns := [], harness := (true, "b8c9dcd8191ed71740a4ac80bc30765b96fa06e695fb428c9ca2be74d3c2a2d9"), looks := false }, kinds := [], alts := [], laidByText := true, laidKinds := [.data], laidTests := true, laidLooks := .later }
def ReplicaValidUptoCardSaid : Prop := Claim7.holds Tryd.pinned (.plain (OpenSpec.upto replicaValidSpec)) replicaValidUptoCard

/-- THE SECOND FORM's CARD OF 'skipgraphlaw24.ReplicaDetaches'. -/
def replicaDetachesUptoCard : Claim7 := { stood := { row := replicaDetachesUptoRow, standIns := [], harness := (true, "b8c9dcd8191ed71740a4ac80bc30765b96fa06e695fb428c9ca2be74d3c2a2d9"), looks := false }, kinds := [], alts := [], laidByText := true, laidKinds := [.data], laidTests := true, laidLooks := .later }
def ReplicaDetachesUptoCardSaid : Prop := Claim7.holds Tryd.pinned (.plain (OpenSpec.upto replicaDetachesSpec)) replicaDetachesUptoCard

/-- THE SECOND FORM's CARD OF 'skipgraphlaw24.ReplicaNew'. -/
def replicaNewUptoCard : Claim7 := { stood := { row := replicaNewUptoRow, standIns := [], harness := (true, "b8c9dcd8191ed71740a4ac80bc30765b96fa06e695fb428c9ca2be74d3c2a2d9"), looks := false }, kinds := [], alts := [], laidByText := true, laidKinds := [.data], laidTests := true, laidLooks := .later }
def ReplicaNewUptoCardSaid : Prop := Claim7.holds Tryd.pinned (.plain (OpenSpec.upto replicaNewSpec)) replicaNewUptoCard

/-- THE SECOND FORM's CARD OF 'skipgraphlaw24.ReplicaAttaches'. -/
def replicaAttachesUptoCard : Claim7 := { stood := { row := replicaAttachesUptoRow, standIns := [], harness := (true, "b8c9dcd8191ed71740a4ac80bc30765b96fa06e695fb428c9ca2be74d3c2a2d9"), looks := false }, kinds := [], alts := [], laidByText := true, laidKinds := [.data], laidTests := true, laidLooks := .later }
def ReplicaAttachesUptoCardSaid : Prop := Claim7.holds Tryd.pinned (.plain (OpenSpec.upto replicaAttachesSpec)) replicaAttachesUptoCard

/-- THE SECOND FORM's CARD OF 'skipgraphlaw24.ReplicaBack'. -/
def replicaBackUptoCard : Claim7 := { stood := { row := replicaBackUptoRow, standIns := [], harness := (true, "b8c9dcd8191ed71740a4ac80bc30765b96fa06e695fb428c9ca2be74d3c2a2d9"), looks := false }, kinds := [], alts := [], laidByText := true, laidKinds := [.data], laidTests := true, laidLooks := .later }
def ReplicaBackUptoCardSaid : Prop := Claim7.holds Tryd.pinned (.plain (OpenSpec.upto replicaBackSpec)) replicaBackUptoCard

/-- THE SECOND FORM's CARD OF 'skipgraphlaw24.ReplicaWrites'. -/
def replicaWritesUptoCard : Claim7 := { stood := { row := replicaWritesUptoRow, standIns := [], harness := (true, "b8c9dcd8191ed71740a4ac80bc30765b96fa06e695fb428c9ca2be74d3c2a2d9"), looks := false }, kinds := [], alts := [], laidByText := true, laidKinds := [.data], laidTests := true, laidLooks := .later }
def ReplicaWritesUptoCardSaid : Prop := Claim7.holds Tryd.pinned (.plain (OpenSpec.upto replicaWritesSpec)) replicaWritesUptoCard

/-- THE SECOND FORM's CARD OF 'skipgraphlaw24.ReplicaCommits'. -/
def replicaCommitsUptoCard : Claim7 := { stood := { row := replicaCommitsUptoRow, standIns := [], harness := (true, "b8c9dcd8191ed71740a4ac80bc30765b96fa06e695fb428c9ca2be74d3c2a2d9"), looks := false }, kinds := [], alts := [], laidByText := true, laidKinds := [.data], laidTests := true, laidLooks := .later }
def ReplicaCommitsUptoCardSaid : Prop := Claim7.holds Tryd.pinned (.plain (OpenSpec.upto replicaCommitsSpec)) replicaCommitsUptoCard

/-- THE SECOND FORM's CARD OF 'skipgraphlaw25.GroupDurable'. -/
def groupDurableUptoCard : Claim7 := { stood := { row := groupDurableUptoRow, standIns := [], harness := (true, "b8c9dcd8191ed71740a4ac80bc30765b96fa06e695fb428c9ca2be74d3c2a2d9"), looks := false }, kinds := [], alts := [], laidByText := true, laidKinds := [.data], laidTests := true, laidLooks := .later }
def GroupDurableUptoCardSaid : Prop := Claim7.holds Tryd.pinned (.plain (OpenSpec.upto groupDurableSpec)) groupDurableUptoCard

/-- THE SECOND FORM's CARD OF 'skipgraphlaw25.GroupReads'. -/
def groupReadsUptoCard : Claim7 := { stood := { row := groupReadsUptoRow, standIns := [], harness := (true, "b8c9dcd8191ed71740a4ac80bc30765b96fa06e695fb428c9ca2be74d3c2a2d9"), looks := false }, kinds := [], alts := [], laidByText := true, laidKinds := [.data], laidTests := true, laidLooks := .later }
def GroupReadsUptoCardSaid : Prop := Claim7.holds Tryd.pinned (.plain (OpenSpec.upto groupReadsSpec)) groupReadsUptoCard
end Rows
end Go.Proofs.YtchfacjjaahdnaaDoor
