/-
  DERIVED. GIVEN WITH THE SEED: THE CARDS: each row of YtohenbaodklohaaDoorRows.lean that lists a variable, with what it lists TIED to the program's text (the seventh form; the later family's looks); each row that meets fmt, with fmt's text TOLD by the authors' own Lean function (tested against real Go, not proved from fmt's source: count such statements apart). THE CARD IS WHAT COUNTS. Prove the row's statement (the work); the ties are given (YtohenbaodklohaaDoorTie.lean); close each card by the builder's one call (the guide's Derived/Test/ToyasCard.lean, 'card_holds'). Laid BY PROGRAM, IN A SANDBOX (cutbox-door.mjs). By AI agents, Wed Nov 11 2026. No macro, syntax, notation, axiom, sorry.
-/
import Derived.Test.YtohenbaodklohaaDoorRows
import GoSem.ClaimSeven
namespace Go.Proofs.YtohenbaodklohaaDoor
namespace Rows

/-- THE TIED CARD OF 'skipgraphlaw34.CollectSafe'. -/
def collectSafeCard : Claim7 := { stood := { row := collectSafeRow, standIns := [], harness := (true, "37fb020ad622f2587e243f3a94bf69f7165420ce3bcd2abb87742bbf5a324237"), looks := false }, kinds := [], alts := [], laidByText := true, laidKinds := [.data], laidTests := true, laidLooks := .later }
def CollectSafeCardSaid : Prop := Claim7.holds Tryd.pinned (.plain (OpenSpec.ofChange collectSafeSpec)) collectSafeCard

/-- THE SECOND FORM's CARD OF 'skipgraphlaw34.CollectSafe'. -/
def collectSafeUptoCard : Claim7 := { stood := { row := collectSafeUptoRow, standIns := [], harness := (true, "37fb020ad622f2587e243f3a94bf69f7165420ce3bcd2abb87742bbf5a324237"), looks := false }, kinds := [], alts := [], laidByText := true, laidKinds := [.data], laidTests := true, laidLooks := .later }
def CollectSafeUptoCardSaid : Prop := Claim7.holds Tryd.pinned (.plain (OpenSpec.upto collectSafeSpec)) collectSafeUptoCard
end Rows
end Go.Proofs.YtohenbaodklohaaDoor
