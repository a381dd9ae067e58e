/-
  DERIVED. GIVEN WITH THE SEED: THE CARDS: each row of YtkdofckkhdnmfaaDoorRows.lean that lists a variable, with what it lists TIED to the program's text (the seventh form; the later family's looks); each row that meets fmt, with fmt's text TOLD by the authors' own Lean function (tested against real Go, not proved from fmt's source: count such statements apart). THE CARD IS WHAT COUNTS. Prove the row's statement (the work); the ties are given (YtkdofckkhdnmfaaDoorTie.lean); close each card by the builder's one call (the guide's Derived/Test/ToyasCard.lean, 'card_holds'). Laid BY PROGRAM, IN A SANDBOX (cutbox-door.mjs). By AI agents, Wed Nov 11 2026. No macro, syntax, notation, axiom, sorry.
-/
import Derived.Test.YtkdofckkhdnmfaaDoorRows
import GoSem.ClaimSeven
namespace Go.Proofs.YtkdofckkhdnmfaaDoor
namespace Rows

/-- THE TIED CARD OF 'skipgraphlaw20.TableValid'. -/
def tableValidCard : Claim7 := { stood := { row := tableValidRow, standIns := [], harness := (true, "510fec8f624df2fc206200128f363aab01a2d4b69791c4a506e6d0fecdf9ce0e"), looks := false }, kinds := [], alts := [], laidByText := true, laidKinds := [.data], laidTests := true, laidLooks := .later }
def TableValidCardSaid : Prop := Claim7.holds Tryd.pinned (.plain (OpenSpec.ofChange tableValidSpec)) tableValidCard

/-- THE TIED CARD OF 'skipgraphlaw20.TableReads'. -/
def tableReadsCard : Claim7 := { stood := { row := tableReadsRow, standIns := [], harness := (true, "510fec8f624df2fc206200128f363aab01a2d4b69791c4a506e6d0fecdf9ce0e"), looks := false }, kinds := [], alts := [], laidByText := true, laidKinds := [.data], laidTests := true, laidLooks := .later }
def TableReadsCardSaid : Prop := Claim7.holds Tryd.pinned (.plain (OpenSpec.ofChange tableReadsSpec)) tableReadsCard

/-- THE TIED CARD OF 'skipgraphlaw20.TableBounds'. -/
def tableBoundsCard : Claim7 := { stood := { row := tableBoundsRow, standIns := [], harness := (true, "510fec8f624df2fc206200128f363aab01a2d4b69791c4a506e6d0fecdf9ce0e"), looks := false }, kinds := [], alts := [], laidByText := true, laidKinds := [.data], laidTests := true, laidLooks := .later }
def TableBoundsCardSaid : Prop := Claim7.holds Tryd.pinned (.plain (OpenSpec.ofChange tableBoundsSpec)) tableBoundsCard

/-- THE TIED CARD OF 'skipgraphlaw20.TablePuts'. -/
def tablePutsCard : Claim7 := { stood := { row := tablePutsRow, standIns := [], harness := (true, "510fec8f624df2fc206200128f363aab01a2d4b69791c4a506e6d0fecdf9ce0e"), looks := false }, kinds := [], alts := [], laidByText := true, laidKinds := [.data], laidTests := true, laidLooks := .later }
def TablePutsCardSaid : Prop := Claim7.holds Tryd.pinned (.plain (OpenSpec.ofChange tablePutsSpec)) tablePutsCard

/-- THE TIED CARD OF 'skipgraphlaw20.TableOthers'. -/
def tableOthersCard : Claim7 := { stood := { row := tableOthersRow, standIns := [], harness := (true, "510fec8f624df2fc206200128f363aab01a2d4b69791c4a506e6d0fecdf9ce0e"), looks := false }, kinds := [], alts := [], laidByText := true, laidKinds := [.data], laidTests := true, laidLooks := .later }
def TableOthersCardSaid : Prop := Claim7.holds Tryd.pinned (.plain (OpenSpec.ofChange tableOthersSpec)) tableOthersCard

/-- THE TIED CARD OF 'skipgraphlaw20.TableDiffs'. -/
def tableDiffsCard : Claim7 := { stood := { row := tableDiffsRow, standIns := [], harness := (true, "510fec8f624df2fc206200128f363aab01a2d4b69791c4a506e6d0fecdf9ce0e"), looks := false }, kinds := [], alts := [], laidByText := true, laidKinds := [.data], laidTests := true, laidLooks := .later }
def TableDiffsCardSaid : Prop := Claim7.holds Tryd.pinned (.plain (OpenSpec.ofChange tableDiffsSpec)) tableDiffsCard

/-- THE TIED CARD OF 'skipgraphlaw20.TableLeads'. -/
def tableLeadsCard : Claim7 := { stood := { row := tableLeadsRow, standIns := [], harness := (true, "510fec8f624df2fc206200128f363aab01a2d4b69791c4a506e6d0fecdf9ce0e"), looks := false }, kinds := [], alts := [], laidByText := true, laidKinds := [.data], laidTests := true, laidLooks := .later }
def TableLeadsCardSaid : Prop := Claim7.holds Tryd.pinned (.plain (OpenSpec.ofChange tableLeadsSpec)) tableLeadsCard

/-- THE TIED CARD OF 'skipgraphlaw20.TableCuts'. -/
def tableCutsCard : Claim7 := { stood := { row := tableCutsRow, standIns := [], harness := (true, "510fec8f624df2fc206200128f363aab01a2d4b69791c4a506e6d0fecdf9ce0e"), looks := false }, kinds := [], alts := [], laidByText := true, laidKinds := [.data], laidTests := true, laidLooks := .later }
def TableCutsCardSaid : Prop := Claim7.holds Tryd.pinned (.plain (OpenSpec.ofChange tableCutsSpec)) tableCutsCard

/-- THE SECOND FORM's CARD OF 'skipgraphlaw20.TableValid'. -/
def tableValidUptoCard : Claim7 := { stood := { row := tableValidUptoRow, standIns := [], harness := (true, "510fec8f624df2fc206200128f363aab01a2d4b69791c4a506e6d0fecdf9ce0e"), looks := false }, kinds := [], alts := [], laidByText := true, laidKinds := [.data], laidTests := true, laidLooks := .later }
def TableValidUptoCardSaid : Prop := Claim7.holds Tryd.pinned (.plain (OpenSpec.upto tableValidSpec)) tableValidUptoCard

/-- THE SECOND FORM's CARD OF 'skipgraphlaw20.TableReads'. -/
def tableReadsUptoCard : Claim7 := { stood := { row := tableReadsUptoRow, standIns := [], harness := (true, "510fec8f624df2fc206200128f363aab01a2d4b69791c4a506e6d0fecdf9ce0e"), looks := false }, kinds := [], alts := [], laidByText := true, laidKinds := [.data], laidTests := true, laidLooks := .later }
def TableReadsUptoCardSaid : Prop := Claim7.holds Tryd.pinned (.plain (OpenSpec.upto tableReadsSpec)) tableReadsUptoCard

/-- THE SECOND FORM's CARD OF 'skipgraphlaw20.TableBounds'. -/
def tableBoundsUptoCard : Claim7 := { stood := { row := tableBoundsUptoRow, standIns := [], harness := (true, "510fec8f624df2fc206200128f363aab01a2d4b69791c4a506e6d0fecdf9ce0e"), looks := false }, kinds := [], alts := [], laidByText := true, laidKinds := [.data], laidTests := true, laidLooks := .later }
def TableBoundsUptoCardSaid : Prop := Claim7.holds Tryd.pinned (.plain (OpenSpec.upto tableBoundsSpec)) tableBoundsUptoCard

/-- THE SECOND FORM's CARD OF 'skipgraphlaw20.TablePuts'. -/
def tablePutsUptoCard : Claim7 := { stood := { row := tablePutsUptoRow, standIns := [], harness := (true, "510fec8f624df2fc206200128f363aab01a2d4b69791c4a506e6d0fecdf9ce0e"), looks := false }, kinds := [], alts := [], laidByText := true, laidKinds := [.data], laidTests := true, laidLooks := .later }
def TablePutsUptoCardSaid : Prop := Claim7.holds Tryd.pinned (.plain (OpenSpec.upto tablePutsSpec)) tablePutsUptoCard

/-- THE SECOND FORM's CARD OF 'skipgraphlaw20.TableOthers'. -/
def tableOthersUptoCard : Claim7 := { stood := { row := tableOthersUptoRow, standIns := [], harness := (true, "510fec8f624df2fc206200128f363aab01a2d4b69791c4a506e6d0fecdf9ce0e"), looks := false }, kinds := [], alts := [], laidByText := true, laidKinds := [.data], laidTests := true, laidLooks := .later }
def TableOthersUptoCardSaid : Prop := Claim7.holds Tryd.pinned (.plain (OpenSpec.upto tableOthersSpec)) tableOthersUptoCard

/-- THE SECOND FORM's CARD OF 'skipgraphlaw20.TableDiffs'. -/
def tableDiffsUptoCard : Claim7 := { stood := { row := tableDiffsUptoRow, standIns := [], harness := (true, "510fec8f624df2fc206200128f363aab01a2d4b69791c4a506e6d0fecdf9ce0e"), looks := false }, kinds := [], alts := [], laidByText := true, laidKinds := [.data], laidTests := true, laidLooks := .later }
def TableDiffsUptoCardSaid : Prop := Claim7.holds Tryd.pinned (.plain (OpenSpec.upto tableDiffsSpec)) tableDiffsUptoCard

/-- THE SECOND FORM's CARD OF 'skipgraphlaw20.TableLeads'. -/
def tableLeadsUptoCard : Claim7 := { stood := { row := tableLeadsUptoRow, standIns := [], harness := (true, "510fec8f624df2fc206200128f363aab01a2d4b69791c4a506e6d0fecdf9ce0e"), looks := false }, kinds := [], alts := [], laidByText := true, laidKinds := [.data], laidTests := true, laidLooks := .later }
def TableLeadsUptoCardSaid : Prop := Claim7.holds Tryd.pinned (.plain (OpenSpec.upto tableLeadsSpec)) tableLeadsUptoCard

/-- THE SECOND FORM's CARD OF 'skipgraphlaw20.TableCuts'. -/
def tableCutsUptoCard : Claim7 := { stood := { row := tableCutsUptoRow, standIns := [], harness := (true, "510fec8f624df2fc206200128f363aab01a2d4b69791c4a506e6d0fecdf9ce0e"), looks := false }, kinds := [], alts := [], laidByText := true, laidKinds := [.data], laidTests := true, laidLooks := .later }
def TableCutsUptoCardSaid : Prop := Claim7.holds Tryd.pinned (.plain (OpenSpec.upto tableCutsSpec)) tableCutsUptoCard
end Rows
end Go.Proofs.YtkdofckkhdnmfaaDoor
