/-
  DERIVED. GIVEN WITH THE SEED: THE CARDS: each row of YtggehonedmbnjaaDoorRows.lean that lists a variable, with what it lists TIED to the program's text (the seventh form; the later family's looks); each row that meets fmt, with fmt's text TOLD by the authors' own Lean function (tested against real Go, not proved from fmt's source: count such statements apart). THE CARD IS WHAT COUNTS. Prove the row's statement (the work); the ties are given (YtggehonedmbnjaaDoorTie.lean); close each card by the builder's one call (the guide's Derived/Test/ToyasCard.lean, 'card_holds'). Laid BY PROGRAM, IN A SANDBOX (cutbox-door.mjs). By AI agents, Wed Nov 11 2026. No macro, syntax, notation, axiom, sorry.
-/
import Derived.Test.YtggehonedmbnjaaDoorRows
import GoSem.ClaimSeven
namespace Go.Proofs.YtggehonedmbnjaaDoor
namespace Rows

/-- THE TIED CARD OF 'skipgraphlaw31.CacheSound'. -/
def cacheSoundCard : Claim7 := { stood := { row := cacheSoundRow, standIns := [], harness := (true, "f7392d6f6347c7de36f87adb895332764d5bbbc8ab2b4e650eb51af770d7267d"), looks := false }, kinds := [], alts := [], laidByText := true, laidKinds := [.data], laidTests := true, laidLooks := .later }
def CacheSoundCardSaid : Prop := Claim7.holds Tryd.pinned (.plain (OpenSpec.ofChange cacheSoundSpec)) cacheSoundCard

/-- THE TIED CARD OF 'skipgraphlaw31.CacheSteps'. -/
def cacheStepsCard : Claim7 := { stood := { row := cacheStepsRow, standIns := [], harness := (true, "f7392d6f6347c7de36f87adb895332764d5bbbc8ab2b4e650eb51af770d7267d"), looks := false }, kinds := [], alts := [], laidByText := true, laidKinds := [.data], laidTests := true, laidLooks := .later }
def CacheStepsCardSaid : Prop := Claim7.holds Tryd.pinned (.plain (OpenSpec.ofChange cacheStepsSpec)) cacheStepsCard

/-- THE TIED CARD OF 'skipgraphlaw31.CacheAny'. -/
def cacheAnyCard : Claim7 := { stood := { row := cacheAnyRow, standIns := [], harness := (true, "f7392d6f6347c7de36f87adb895332764d5bbbc8ab2b4e650eb51af770d7267d"), looks := false }, kinds := [], alts := [], laidByText := true, laidKinds := [.data], laidTests := true, laidLooks := .later }
def CacheAnyCardSaid : Prop := Claim7.holds Tryd.pinned (.plain (OpenSpec.ofChange cacheAnySpec)) cacheAnyCard

/-- THE SECOND FORM's CARD OF 'skipgraphlaw31.CacheSound'. -/
def cacheSoundUptoCard : Claim7 := { stood := { row := cacheSoundUptoRow, standIns := [], harness := (true, "f7392d6f6347c7de36f87adb895332764d5bbbc8ab2b4e650eb51af770d7267d"), looks := false }, kinds := [], alts := [], laidByText := true, laidKinds := [.data], laidTests := true, laidLooks := .later }
def CacheSoundUptoCardSaid : Prop := Claim7.holds Tryd.pinned (.plain (OpenSpec.upto cacheSoundSpec)) cacheSoundUptoCard

/-- THE SECOND FORM's CARD OF 'skipgraphlaw31.CacheSteps'. -/
def cacheStepsUptoCard : Claim7 := { stood := { row := cacheStepsUptoRow, standIns := [], harness := (true, "f7392d6f6347c7de36f87adb895332764d5bbbc8ab2b4e650eb51af770d7267d"), looks := false }, kinds := [], alts := [], laidByText := true, laidKinds := [.data], laidTests := true, laidLooks := .later }
def CacheStepsUptoCardSaid : Prop := Claim7.holds Tryd.pinned (.plain (OpenSpec.upto cacheStepsSpec)) cacheStepsUptoCard

/-- THE SECOND FORM's CARD OF 'skipgraphlaw31.CacheAny'. -/
def cacheAnyUptoCard : Claim7 := { stood := { row := cacheAnyUptoRow, standIns := [], harness := (true, "f7392d6f6347c7de36f87adb895332764d5bbbc8ab2b4e650eb51af770d7267d"), looks := false }, kinds := [], alts := [], laidByText := true, laidKinds := [.data], laidTests := true, laidLooks := .later }
def CacheAnyUptoCardSaid : Prop := Claim7.holds Tryd.pinned (.plain (OpenSpec.upto cacheAnySpec)) cacheAnyUptoCard
end Rows
end Go.Proofs.YtggehonedmbnjaaDoor
