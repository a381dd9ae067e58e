/-
  DERIVED. GIVEN WITH THE SEED: THE CARDS: each row of YtnpemjhllmfedaaDoorRows.lean that lists a variable, with what it lists TIED to the program's text (the seventh form; the later family's looks); each row that meets fmt, with fmt's text TOLD by the authors' own Lean function (tested against real Go, not proved from fmt's source: count such statements apart). THE CARD IS WHAT COUNTS. Prove the row's statement (the work); the ties are given (YtnpemjhllmfedaaDoorTie.lean); close each card by the builder's one call (the guide's Derived/Test/ToyasCard.lean, 'card_holds'). Laid BY PROGRAM, IN A SANDBOX (cutbox-door.mjs). By AI agents, Wed Nov 11 2026. No macro, syntax, notation, axiom, sorry.
-/
import Derived.Test.YtnpemjhllmfedaaDoorRows
import GoSem.ClaimSeven
namespace Go.Proofs.YtnpemjhllmfedaaDoor
namespace Rows

/-- THE TIED CARD OF 'skipgraphlaw21.FoldOf'. -/
def foldOfCard : Claim7 := { stood := { row := foldOfRow, standIns := [], harness := (true, "dddf54568fe74be658ed6077bea82da1adb5b8bb0a88a9339d462c5810c9159a"), looks := false }, kinds := [], alts := [], laidByText := true, laidKinds := [.data], laidTests := true, laidLooks := .later }
def FoldOfCardSaid : Prop := Claim7.holds Tryd.pinned (.plain (OpenSpec.ofChange foldOfSpec)) foldOfCard

/-- THE TIED CARD OF 'skipgraphlaw21.FoldValid'. -/
def foldValidCard : Claim7 := { stood := { row := foldValidRow, standIns := [], harness := (true, "dddf54568fe74be658ed6077bea82da1adb5b8bb0a88a9339d462c5810c9159a"), looks := false }, kinds := [], alts := [], laidByText := true, laidKinds := [.data], laidTests := true, laidLooks := .later }
def FoldValidCardSaid : Prop := Claim7.holds Tryd.pinned (.plain (OpenSpec.ofChange foldValidSpec)) foldValidCard

/-- THE TIED CARD OF 'skipgraphlaw21.FoldMonoid'. -/
def foldMonoidCard : Claim7 := { stood := { row := foldMonoidRow, standIns := [], harness := (true, "dddf54568fe74be658ed6077bea82da1adb5b8bb0a88a9339d462c5810c9159a"), looks := false }, kinds := [], alts := [], laidByText := true, laidKinds := [.data], laidTests := true, laidLooks := .later }
def FoldMonoidCardSaid : Prop := Claim7.holds Tryd.pinned (.plain (OpenSpec.ofChange foldMonoidSpec)) foldMonoidCard

/-- THE TIED CARD OF 'skipgraphlaw21.FoldParts'. -/
def foldPartsCard : Claim7 := { stood := { row := foldPartsRow, standIns := [], harness := (true, "dddf54568fe74be658ed6077bea82da1adb5b8bb0a88a9339d462c5810c9159a"), looks := false }, kinds := [], alts := [], laidByText := true, laidKinds := [.data], laidTests := true, laidLooks := .later }
def FoldPartsCardSaid : Prop := Claim7.holds Tryd.pinned (.plain (OpenSpec.ofChange foldPartsSpec)) foldPartsCard

/-- THE SECOND FORM's CARD OF 'skipgraphlaw21.FoldOf'. -/
def foldOfUptoCard : Claim7 := { stood := { row := foldOfUptoRow, standIns := [], harness := (true, "dddf54568fe74be658ed6077bea82da1adb5b8bb0a88a9339d462c5810c9159a"), looks := false }, kinds := [], alts := [], laidByText := true, laidKinds := [.data], laidTests := true, laidLooks := .later }
def FoldOfUptoCardSaid : Prop := Claim7.holds Tryd.pinned (.plain (OpenSpec.upto foldOfSpec)) foldOfUptoCard

/-- THE SECOND FORM's CARD OF 'skipgraphlaw21.FoldValid'. -/
def foldValidUptoCard : Claim7 := { stood := { row := foldValidUptoRow, standIns := [], harness := (true, "dddf54568fe74be658ed6077bea82da1adb5b8bb0a88a9339d462c5810c9159a"), looks := false }, kinds := [], alts := [], laidByText := true, laidKinds := [.data], laidTests := true, laidLooks := .later }
def FoldValidUptoCardSaid : Prop := Claim7.holds Tryd.pinned (.plain (OpenSpec.upto foldValidSpec)) foldValidUptoCard

/-- THE SECOND FORM's CARD OF 'skipgraphlaw21.FoldMonoid'. -/
def foldMonoidUptoCard : Claim7 := { stood := { row := foldMonoidUptoRow, standIns := [], harness := (true, "dddf54568fe74be658ed6077bea82da1adb5b8bb0a88a9339d462c5810c9159a"), looks := false }, kinds := [], alts := [], laidByText := true, laidKinds := [.data], laidTests := true, laidLooks := .later }
def FoldMonoidUptoCardSaid : Prop := Claim7.holds Tryd.pinned (.plain (OpenSpec.upto foldMonoidSpec)) foldMonoidUptoCard

/-- THE SECOND FORM's CARD OF 'skipgraphlaw21.FoldParts'. -/
def foldPartsUptoCard : Claim7 := { stood := { row := foldPartsUptoRow, standIns := [], harness := (true, "dddf54568fe74be658ed6077bea82da1adb5b8bb0a88a9339d462c5810c9159a"), looks := false }, kinds := [], alts := [], laidByText := true, laidKinds := [.data], laidTests := true, laidLooks := .later }
def FoldPartsUptoCardSaid : Prop := Claim7.holds Tryd.pinned (.plain (OpenSpec.upto foldPartsSpec)) foldPartsUptoCard
end Rows
end Go.Proofs.YtnpemjhllmfedaaDoor
