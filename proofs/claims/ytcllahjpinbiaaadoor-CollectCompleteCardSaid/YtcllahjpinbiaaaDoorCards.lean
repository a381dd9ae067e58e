/-
  DERIVED. GIVEN WITH THE SEED: THE CARDS: each row of YtcllahjpinbiaaaDoorRows.lean that lists a variable, with what it lists TIED to the program's text (the seventh form; the later family's looks); each row that meets fmt, with fmt's text TOLD by the authors' own Lean function (tested against real Go, not proved from fmt's source: count such statements apart). THE CARD IS WHAT COUNTS. Prove the row's statement (the work); the ties are given (YtcllahjpinbiaaaDoorTie.lean); close each card by the builder's one call (the guide's Derived/Test/ToyasCard.lean, 'card_holds'). Laid BY PROGRAM, IN A SANDBOX (cutbox-door.mjs). By AI agents, Wed Nov 11 2026. No macro, syntax, notation, axiom, sorry.
-/
import Derived.Test.YtcllahjpinbiaaaDoorRows
import GoSem.ClaimSeven
namespace Go.Proofs.YtcllahjpinbiaaaDoor
namespace Rows

/-- THE TIED CARD OF 'skipgraphlaw34.CollectMarks'. -/
def collectMarksCard : Claim7 := { stood := { row := collectMarksRow, standIns := [], harness := (true, "66906a84d04c3a2d89c646eecd6f16b75eda7d321f445f2ddb9410a71b637972"), looks := false }, kinds := [], alts := [], laidByText := true, laidKinds := [.data], laidTests := true, laidLooks := .later }
def CollectMarksCardSaid : Prop := Claim7.holds Tryd.pinned (.plain (OpenSpec.ofChange collectMarksSpec)) collectMarksCard

/-- THE TIED CARD OF 'skipgraphlaw34.CollectStores'. -/
def collectStoresCard : Claim7 := { stood := { row := collectStoresRow, standIns := [], harness := (true, "66906a84d04c3a2d89c646eecd6f16b75eda7d321f445f2ddb9410a71b637972"), looks := false }, kinds := [], alts := [], laidByText := true, laidKinds := [.data], laidTests := true, laidLooks := .later }
def CollectStoresCardSaid : Prop := Claim7.holds Tryd.pinned (.plain (OpenSpec.ofChange collectStoresSpec)) collectStoresCard

/-- THE TIED CARD OF 'skipgraphlaw34.CollectSteps'. -/
def collectStepsCard : Claim7 := { stood := { row := collectStepsRow, standIns := [], harness := (true, "66906a84d04c3a2d89c646eecd6f16b75eda7d321f445f2ddb9410a71b637972"), looks := false }, kinds := [], alts := [], laidByText := true, laidKinds := [.data], laidTests := true, laidLooks := .later }
def CollectStepsCardSaid : Prop := Claim7.holds Tryd.pinned (.plain (OpenSpec.ofChange collectStepsSpec)) collectStepsCard

/-- THE TIED CARD OF 'skipgraphlaw34.CollectComplete'. -/
def collectCompleteCard : Claim7 := { stood := { row := collectCompleteRow, standIns := [], harness := (true, "66906a84d04c3a2d89c646eecd6f16b75eda7d321f445f2ddb9410a71b637972"), looks := false }, kinds := [], alts := [], laidByText := true, laidKinds := [.data], laidTests := true, laidLooks := .later }
def CollectCompleteCardSaid : Prop := Claim7.holds Tryd.pinned (.plain (OpenSpec.ofChange collectCompleteSpec)) collectCompleteCard

/-- THE TIED CARD OF 'skipgraphlaw34.CollectSafe'. -/
def collectSafeCard : Claim7 := { stood := { row := collectSafeRow, standIns := [], harness := (true, "66906a84d04c3a2d89c646eecd6f16b75eda7d321f445f2ddb9410a71b637972"), looks := false }, kinds := [], alts := [], laidByText := true, laidKinds := [.data], laidTests := true, laidLooks := .later }
def CollectSafeCardSaid : Prop := Claim7.holds Tryd.pinned (.plain (OpenSpec.ofChange collectSafeSpec)) collectSafeCard

/-- THE TIED CARD OF 'skipgraphlaw34.CollectCleans'. -/
def collectCleansCard : Claim7 := { stood := { row := collectCleansRow, standIns := [], harness := (true, "66906a84d04c3a2d89c646eecd6f16b75eda7d321f445f2ddb9410a71b637972"), looks := false }, kinds := [], alts := [], laidByText := true, laidKinds := [.data], laidTests := true, laidLooks := .later }
def CollectCleansCardSaid : Prop := Claim7.holds Tryd.pinned (.plain (OpenSpec.ofChange collectCleansSpec)) collectCleansCard

/-- THE SECOND FORM's CARD OF 'skipgraphlaw34.CollectMarks'. -/
def collectMarksUptoCard : Claim7 := { stood := { row := collectMarksUptoRow, standIns := [], harness := (true, "66906a84d04c3a2d89c646eecd6f16b75eda7d321f445f2ddb9410a71b637972"), looks := false }, kinds := [], alts := [], laidByText := true, laidKinds := [.data], laidTests := true, laidLooks := .later }
def CollectMarksUptoCardSaid : Prop := Claim7.holds Tryd.pinned (.plain (OpenSpec.upto collectMarksSpec)) collectMarksUptoCard

/-- THE SECOND FORM's CARD OF 'skipgraphlaw34.CollectStores'. -/
def collectStoresUptoCard : Claim7 := { stood := { row := collectStoresUptoRow, standIns := [], harness := (true, "66906a84d04c3a2d89c646eecd6f16b75eda7d321f445f2ddb9410a71b637972"), looks := false }, kinds := [], alts := [], laidByText := true, laidKinds := [.data], laidTests := true, laidLooks := .later }
def CollectStoresUptoCardSaid : Prop := Claim7.holds Tryd.pinned (.plain (OpenSpec.upto collectStoresSpec)) collectStoresUptoCard

/-- THE SECOND FORM's CARD OF 'skipgraphlaw34.CollectSteps'. -/
def collectStepsUptoCard : Claim7 := { stood := { row := collectStepsUptoRow, standIns := [], harness := (true, "66906a84d04c3a2d89c646eecd6f16b75eda7d321f445f2ddb9410a71b637972"), looks := false }, kinds := [], alts := [], laidByText := true, laidKinds := [.data], laidTests := true, laidLooks := .later }
def CollectStepsUptoCardSaid : Prop := Claim7.holds Tryd.pinned (.plain (OpenSpec.upto collectStepsSpec)) collectStepsUptoCard

/-- THE SECOND FORM's CARD OF 'skipgraphlaw34.CollectComplete'. -/
def collectCompleteUptoCard : Claim7 := { stood := { row := collectCompleteUptoRow, standIns := [], harness := (true, "66906a84d04c3a2d89c646eecd6f16b75eda7d321f445f2ddb9410a71b637972"), looks := false }, kinds := [], alts := [], laidByText := true, laidKinds := [.data], laidTests := true, laidLooks := .later }
def CollectCompleteUptoCardSaid : Prop := Claim7.holds Tryd.pinned (.plain (OpenSpec.upto collectCompleteSpec)) collectCompleteUptoCard

/-- THE SECOND FORM's CARD OF 'skipgraphlaw34.CollectSafe'. -/
def collectSafeUptoCard : Claim7 := { stood := { row := collectSafeUptoRow, standIns := [], harness := (true, "66906a84d04c3a2d89c646eecd6f16b75eda7d321f445f2ddb9410a71b637972"), looks := false }, kinds := [], alts := [], laidByText := true, laidKinds := [.data], laidTests := true, laidLooks := .later }
def CollectSafeUptoCardSaid : Prop := Claim7.holds Tryd.pinned (.plain (OpenSpec.upto collectSafeSpec)) collectSafeUptoCard

/-- THE SECOND FORM's CARD OF 'skipgraphlaw34.CollectCleans'. -/
def collectCleansUptoCard : Claim7 := { stood := { row := collectCleansUptoRow, standIns := [], harness := (true, "66906a84d04c3a2d89c646eecd6f16b75eda7d321f445f2ddb9410a71b637972"), looks := false }, kinds := [], alts := [], laidByText := true, laidKinds := [.data], laidTests := true, laidLooks := .later }
def CollectCleansUptoCardSaid : Prop := Claim7.holds Tryd.pinned (.plain (OpenSpec.upto collectCleansSpec)) collectCleansUptoCard
end Rows
end Go.Proofs.YtcllahjpinbiaaaDoor
