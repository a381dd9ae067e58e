/-
  DERIVED. GIVEN WITH THE SEED: THE CARDS: each row of YtfjiffbacallhaaDoorRows.lean that lists a variable, with what it lists TIED to the program's text (the seventh form; the later family's looks); each row that meets fmt, with fmt's text TOLD by the authors' own Lean function (tested against real Go, not proved from fmt's source: count such statements apart). THE CARD IS WHAT COUNTS. Prove the row's statement (the work); the ties are given (YtfjiffbacallhaaDoorTie.lean); close each card by the builder's one call (the guide's Derived/Test/ToyasCard.lean, 'card_holds'). Laid BY PROGRAM, IN A SANDBOX (cutbox-door.mjs). By AI agents, Wed Nov 11 2026. No macro, syntax, notation, axiom, sorry.
-/
import Derived.Test.YtfjiffbacallhaaDoorRows
import GoSem.ClaimSeven
namespace Go.Proofs.YtfjiffbacallhaaDoor
namespace Rows

/-- THE TIED CARD OF 'skipgraphlaw20.TableReplaces'. -/
def tableReplacesCard : Claim7 := { stood := { row := tableReplacesRow, standIns := [], harness := (true, "fe1f430b07c0b80a057a9df4c5486de630960af01bd62413597ddaeb4beaa266"), looks := false }, kinds := [], alts := [], laidByText := true, laidKinds := [.data], laidTests := true, laidLooks := .later }
def TableReplacesCardSaid : Prop := Claim7.holds Tryd.pinned (.plain (OpenSpec.ofChange tableReplacesSpec)) tableReplacesCard

/-- THE SECOND FORM's CARD OF 'skipgraphlaw20.TableReplaces'. -/
def tableReplacesUptoCard : Claim7 := { stood := { row := tableReplacesUptoRow, standIns := [], harness := (true, "fe1f430b07c0b80a057a9df4c5486de630960af01bd62413597ddaeb4beaa266"), looks := false }, kinds := [], alts := [], laidByText := true, laidKinds := [.data], laidTests := true, laidLooks := .later }
def TableReplacesUptoCardSaid : Prop := Claim7.holds Tryd.pinned (.plain (OpenSpec.upto tableReplacesSpec)) tableReplacesUptoCard
end Rows
end Go.Proofs.YtfjiffbacallhaaDoor
