/- Part of a symbolic executor over the model, proved sound, with plain laws: SxCol. Written for these claims. -/
import Derived.Test.YtngdpchhogfhfaaGreatDoorSxGrp
set_option linter.unusedVariables false
set_option linter.unusedSimpArgs false
namespace Go.Sx
open Go
structure StoT where
  node : Int
  grp : Int
  ser : Int
  copy : CopyT
instance : Inhabited StoT := ⟨⟨0, 0, 0, default⟩⟩
structure MrkT where
  grp : Int
  nodes : List Int
instance : Inhabited MrkT := ⟨⟨0, []⟩⟩
structure StoB (n : Nat) (l : List StoT) : Prop where
  len : l.length ≤ n
  small : ∀ s ∈ l, SmallC s.copy
theorem StoB.mono {n m : Nat} {l : List StoT} (h : StoB n l) (k : n ≤ m) : StoB m l := ⟨by have := h.len; omega, h.small⟩
end Go.Sx
