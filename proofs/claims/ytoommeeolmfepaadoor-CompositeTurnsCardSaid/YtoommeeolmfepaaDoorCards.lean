/-
  DERIVED. GIVEN WITH THE SEED: THE CARDS: each row of YtoommeeolmfepaaDoorRows.lean that lists a variable, with what it lists TIED to the program's text (the seventh form; the later family's looks); each row that meets fmt, with fmt's text TOLD by the authors' own Lean function (tested against real Go, not proved from fmt's source: count such statements apart). THE CARD IS WHAT COUNTS. Prove the row's statement (the work); the ties are given (YtoommeeolmfepaaDoorTie.lean); close each card by the builder's one call (the guide's Derived/Test/ToyasCard.lean, 'card_holds'). Laid BY PROGRAM, IN A SANDBOX (cutbox-door.mjs). By AI agents, Wed Nov 11 2026. No macro, syntax, notation, axiom, sorry.
-/
import Derived.Test.YtoommeeolmfepaaDoorRows
import GoSem.ClaimSeven
namespace Go.Proofs.YtoommeeolmfepaaDoor
namespace Rows

/-- THE TIED CARD OF 'skipgraphlaw2.CompositeDecodes'. -/
def compositeDecodesCard : Claim7 := { stood := { row := compositeDecodesRow, standIns := [], harness := (true, "0e52a8286e7c94b2c9a14399cff66ddebaac7128c5ef4013cc4fad5231b30964"), looks := false }, kinds := [], alts := [], laidByText := true, laidKinds := [.data], laidTests := true, laidLooks := .later }
def CompositeDecodesCardSaid : Prop := Claim7.holds Tryd.pinned (.plain (OpenSpec.ofChange compositeDecodesSpec)) compositeDecodesCard

/-- THE TIED CARD OF 'skipgraphlaw2.CompositeRoundTrip'. -/
def compositeRoundTripCard : Claim7 := { stood := { row := compositeRoundTripRow, standIns := [], harness := (true, "0e52a8286e7c94b2c9a14399cff66ddebaac7128c5ef4013cc4fad5231b30964"), looks := false }, kinds := [], alts := [], laidByText := true, laidKinds := [.data], laidTests := true, laidLooks := .later }
def CompositeRoundTripCardSaid : Prop := Claim7.holds Tryd.pinned (.plain (OpenSpec.ofChange compositeRoundTripSpec)) compositeRoundTripCard

/-- THE TIED CARD OF 'skipgraphlaw2.CompositePrefixes'. -/
def compositePrefixesCard : Claim7 := { stood := { row := compositePrefixesRow, standIns := [], harness := (true, "0e52a8286e7c94b2c9a14399cff66ddebaac7128c5ef4013cc4fad5231b30964"), looks := false }, kinds := [], alts := [], laidByText := true, laidKinds := [.data], laidTests := true, laidLooks := .later }
def CompositePrefixesCardSaid : Prop := Claim7.holds Tryd.pinned (.plain (OpenSpec.ofChange compositePrefixesSpec)) compositePrefixesCard

/-- THE TIED CARD OF 'skipgraphlaw31.CacheSound'. -/
def cacheSoundCard : Claim7 := { stood := { row := cacheSoundRow, standIns := [], harness := (true, "0e52a8286e7c94b2c9a14399cff66ddebaac7128c5ef4013cc4fad5231b30964"), looks := false }, kinds := [], alts := [], laidByText := true, laidKinds := [.data], laidTests := true, laidLooks := .later }
def CacheSoundCardSaid : Prop := Claim7.holds Tryd.pinned (.plain (OpenSpec.ofChange cacheSoundSpec)) cacheSoundCard

/-- THE TIED CARD OF 'skipgraphlaw2.CompositeOrder'. -/
def compositeOrderCard : Claim7 := { stood := { row := compositeOrderRow, standIns := [], harness := (true, "0e52a8286e7c94b2c9a14399cff66ddebaac7128c5ef4013cc4fad5231b30964"), looks := false }, kinds := [], alts := [], laidByText := true, laidKinds := [.data], laidTests := true, laidLooks := .later }
def CompositeOrderCardSaid : Prop := Claim7.holds Tryd.pinned (.plain (OpenSpec.ofChange compositeOrderSpec)) compositeOrderCard

/-- THE TIED CARD OF 'skipgraphlaw2.CompositeTurns'. -/
def compositeTurnsCard : Claim7 := { stood := { row := compositeTurnsRow, standIns := [], harness := (true, "0e52a8286e7c94b2c9a14399cff66ddebaac7128c5ef4013cc4fad5231b30964"), looks := false }, kinds := [], alts := [], laidByText := true, laidKinds := [.data], laidTests := true, laidLooks := .later }
def CompositeTurnsCardSaid : Prop := Claim7.holds Tryd.pinned (.plain (OpenSpec.ofChange compositeTurnsSpec)) compositeTurnsCard

/-- THE TIED CARD OF 'skipgraphlaw31.CacheSteps'. -/
def cacheStepsCard : Claim7 := { stood := { row := cacheStepsRow, standIns := [], harness := (true, "0e52a8286e7c94b2c9a14399cff66ddebaac7128c5ef4013cc4fad5231b30964"), looks := false }, kinds := [], alts := [], laidByText := true, laidKinds := [.data], laidTests := true, laidLooks := .later }
def CacheStepsCardSaid : Prop := Claim7.holds Tryd.pinned (.plain (OpenSpec.ofChange cacheStepsSpec)) cacheStepsCard

/-- THE TIED CARD OF 'skipgraphlaw31.CacheAny'. -/
def cacheAnyCard : Claim7 := { stood := { row := cacheAnyRow, standIns := [], harness := (true, "0e52a8286e7c94b2c9a14399cff66ddebaac7128c5ef4013cc4fad5231b30964"), looks := false }, kinds := [], alts := [], laidByText := true, laidKinds := [.data], laidTests := true, laidLooks := .later }
def CacheAnyCardSaid : Prop := Claim7.holds Tryd.pinned (.plain (OpenSpec.ofChange cacheAnySpec)) cacheAnyCard

/-- THE TIED CARD OF 'skipgraphlaw2.CompositeEncodes'. -/
def compositeEncodesCard : Claim7 := { stood := { row := compositeEncodesRow, standIns := [], harness := (true, "0e52a8286e7c94b2c9a14399cff66ddebaac7128c5ef4013cc4fad5231b30964"), looks := false }, kinds := [], alts := [], laidByText := true, laidKinds := [.data], laidTests := true, laidLooks := .later }
def CompositeEncodesCardSaid : Prop := Claim7.holds Tryd.pinned (.plain (OpenSpec.ofChange compositeEncodesSpec)) compositeEncodesCard

/-- THE SECOND FORM's CARD OF 'skipgraphlaw2.CompositeDecodes'. -/
def compositeDecodesUptoCard : Claim7 := { stood := { row := compositeDecodesUptoRow, standIns := [], harness := (true, "0e52a8286e7c94b2c9a14399cff66ddebaac7128c5ef4013cc4fad5231b30964"), looks := false }, kinds := [], alts := [], laidByText := true, laidKinds := [.data], laidTests := true, laidLooks := .later }
def CompositeDecodesUptoCardSaid : Prop := Claim7.holds Tryd.pinned (.plain (OpenSpec.upto compositeDecodesSpec)) compositeDecodesUptoCard

/-- THE SECOND FORM's CARD OF 'skipgraphlaw2.CompositeRoundTrip'. -/
def compositeRoundTripUptoCard : Claim7 := { stood := { row := compositeRoundTripUptoRow, standIns := [], harness := (true, "0e52a8286e7c94b2c9a14399cff66ddebaac7128c5ef4013cc4fad5231b30964"), looks := false }, kinds := [], alts := [], laidByText := true, laidKinds := [.data], laidTests := true, laidLooks := .later }
def CompositeRoundTripUptoCardSaid : Prop := Claim7.holds Tryd.pinned (.plain (OpenSpec.upto compositeRoundTripSpec)) compositeRoundTripUptoCard

/-- THE SECOND FORM's CARD OF 'skipgraphlaw2.CompositePrefixes'. -/
def compositePrefixesUptoCard : Claim7 := { stood := { row := compositePrefixesUptoRow, standIns := [], harness := (true, "0e52a8286e7c94b2c9a14399cff66ddebaac7128c5ef4013cc4fad5231b30964"), looks := false }, kinds := [], alts := [], laidByText := true, laidKinds := [.data], laidTests := true, laidLooks := .later }
def CompositePrefixesUptoCardSaid : Prop := Claim7.holds Tryd.pinned (.plain (OpenSpec.upto compositePrefixesSpec)) compositePrefixesUptoCard

/-- THE SECOND FORM's CARD OF 'skipgraphlaw31.CacheSound'. -/
def cacheSoundUptoCard : Claim7 := { stood := { row := cacheSoundUptoRow, standIns := [], harness := (true, "0e52a8286e7c94b2c9a14399cff66ddebaac7128c5ef4013cc4fad5231b30964"), looks := false }, kinds := [], alts := [], laidByText := true, laidKinds := [.data], laidTests := true, laidLooks := .later }
def CacheSoundUptoCardSaid : Prop := Claim7.holds Tryd.pinned (.plain (OpenSpec.upto cacheSoundSpec)) cacheSoundUptoCard

/-- THE SECOND FORM's CARD OF 'skipgraphlaw2.CompositeOrder'. -/
def compositeOrderUptoCard : Claim7 := { stood := { row := compositeOrderUptoRow, standIns := [], harness := (true, "0e52a8286e7c94b2c9a14399cff66ddebaac7128c5ef4013cc4fad5231b30964"), looks := false }, kinds := [], alts := [], laidByText := true, laidKinds := [.data], laidTests := true, laidLooks := .later }
def CompositeOrderUptoCardSaid : Prop := Claim7.holds Tryd.pinned (.plain (OpenSpec.upto compositeOrderSpec)) compositeOrderUptoCard

/-- THE SECOND FORM's CARD OF 'skipgraphlaw2.CompositeTurns'. -/
def compositeTurnsUptoCard : Claim7 := { stood := { row := compositeTurnsUptoRow, standIns := [], harness := (true, "0e52a8286e7c94b2c9a14399cff66ddebaac7128c5ef4013cc4fad5231b30964"), looks := false }, kinds := [], alts := [], laidByText := true, laidKinds := [.data], laidTests := true, laidLooks := .later }
def CompositeTurnsUptoCardSaid : Prop := Claim7.holds Tryd.pinned (.plain (OpenSpec.upto compositeTurnsSpec)) compositeTurnsUptoCard

/-- THE SECOND FORM's CARD OF 'skipgraphlaw31.CacheSteps'. -/
def cacheStepsUptoCard : Claim7 := { stood := { row := cacheStepsUptoRow, standIns := [], harness := (true, "0e52a8286e7c94b2c9a14399cff66ddebaac7128c5ef4013cc4fad5231b30964"), looks := false }, kinds := [], alts := [], laidByText := true, laidKinds := [.data], laidTests := true, laidLooks := .later }
def CacheStepsUptoCardSaid : Prop := Claim7.holds Tryd.pinned (.plain (OpenSpec.upto cacheStepsSpec)) cacheStepsUptoCard

/-- THE SECOND FORM's CARD OF 'skipgraphlaw31.CacheAny'. -/
def cacheAnyUptoCard : Claim7 := { stood := { row := cacheAnyUptoRow, standIns := [], harness := (true, "0e52a8286e7c94b2c9a14399cff66ddebaac7128c5ef4013cc4fad5231b30964"), looks := false }, kinds := [], alts := [], laidByText := true, laidKinds := [.data], laidTests := true, laidLooks := .later }
def CacheAnyUptoCardSaid : Prop := Claim7.holds Tryd.pinned (.plain (OpenSpec.upto cacheAnySpec)) cacheAnyUptoCard

/-- THE SECOND FORM's CARD OF 'skipgraphlaw2.CompositeEncodes'. -/
def compositeEncodesUptoCard : Claim7 := { stood := { row := compositeEncodesUptoRow, standIns := [], harness := (true, "0e52a8286e7c94b2c9a14399cff66ddebaac7128c5ef4013cc4fad5231b30964"), looks := false }, kinds := [], alts := [], laidByText := true, laidKinds := [.data], laidTests := true, laidLooks := .later }
def CompositeEncodesUptoCardSaid : Prop := Claim7.holds Tryd.pinned (.plain (OpenSpec.upto compositeEncodesSpec)) compositeEncodesUptoCard
end Rows
end Go.Proofs.YtoommeeolmfepaaDoor
