/-
  DERIVED. GIVEN WITH THE SEED: THE CARDS: each row of YtlbaedgmbdljpaaDoorRows.lean that lists a variable, with what it lists TIED to the program's text (the seventh form; the later family's looks); each row that meets fmt, with fmt's text TOLD by the authors' own Lean function (tested against real Go, not proved from fmt's source: count such statements apart). THE CARD IS WHAT COUNTS. Prove the row's statement (the work); the ties are given (YtlbaedgmbdljpaaDoorTie.lean); close each card by the builder's one call (the guide's Derived/Test/ToyasCard.lean, 'card_holds'). Laid BY PROGRAM, IN A SANDBOX (cutbox-door.mjs). By AI agents, Wed Nov 11 2026. No macro, syntax, notation, axiom, sorry.
-/
import Derived.Test.YtlbaedgmbdljpaaDoorRows
import GoSem.ClaimSeven
namespace Go.Proofs.YtlbaedgmbdljpaaDoor
namespace Rows

/-- THE TIED CARD OF 'wealdlaw04.FrameTells'. -/
def frameTellsCard : Claim7 := { stood := { row := frameTellsRow, standIns := [], harness := (true, "9b6314bd2c376ad85478bd446ba648b9fdee3dca184135e774d1516cf3558f15"), looks := false }, kinds := [], alts := [], laidByText := true, laidKinds := [.data], laidTests := true, laidLooks := .later }
def FrameTellsCardSaid : Prop := Claim7.holds Tryd.pinned (.plain (OpenSpec.ofChange frameTellsSpec)) frameTellsCard

/-- THE TIED CARD OF 'wealdlaw04.FrameBack'. -/
def frameBackCard : Claim7 := { stood := { row := frameBackRow, standIns := [], harness := (true, "9b6314bd2c376ad85478bd446ba648b9fdee3dca184135e774d1516cf3558f15"), looks := false }, kinds := [], alts := [], laidByText := true, laidKinds := [.data], laidTests := true, laidLooks := .later }
def FrameBackCardSaid : Prop := Claim7.holds Tryd.pinned (.plain (OpenSpec.ofChange frameBackSpec)) frameBackCard

/-- THE TIED CARD OF 'wealdlaw04.FrameTurned'. -/
def frameTurnedCard : Claim7 := { stood := { row := frameTurnedRow, standIns := [], harness := (true, "9b6314bd2c376ad85478bd446ba648b9fdee3dca184135e774d1516cf3558f15"), looks := false }, kinds := [], alts := [], laidByText := true, laidKinds := [.data], laidTests := true, laidLooks := .later }
def FrameTurnedCardSaid : Prop := Claim7.holds Tryd.pinned (.plain (OpenSpec.ofChange frameTurnedSpec)) frameTurnedCard

/-- THE TIED CARD OF 'wealdlaw04.FrameJoins'. -/
def frameJoinsCard : Claim7 := { stood := { row := frameJoinsRow, standIns := [], harness := (true, "9b6314bd2c376ad85478bd446ba648b9fdee3dca184135e774d1516cf3558f15"), looks := false }, kinds := [], alts := [], laidByText := true, laidKinds := [.data], laidTests := true, laidLooks := .later }
def FrameJoinsCardSaid : Prop := Claim7.holds Tryd.pinned (.plain (OpenSpec.ofChange frameJoinsSpec)) frameJoinsCard

/-- THE TIED CARD OF 'wealdlaw04.FrameAgain'. -/
def frameAgainCard : Claim7 := { stood := { row := frameAgainRow, standIns := [], harness := (true, "9b6314bd2c376ad85478bd446ba648b9fdee3dca184135e774d1516cf3558f15"), looks := false }, kinds := [], alts := [], laidByText := true, laidKinds := [.data], laidTests := true, laidLooks := .later }
def FrameAgainCardSaid : Prop := Claim7.holds Tryd.pinned (.plain (OpenSpec.ofChange frameAgainSpec)) frameAgainCard

/-- THE TIED CARD OF 'wealdlaw04.FrameShort'. -/
def frameShortCard : Claim7 := { stood := { row := frameShortRow, standIns := [], harness := (true, "9b6314bd2c376ad85478bd446ba648b9fdee3dca184135e774d1516cf3558f15"), looks := false }, kinds := [], alts := [], laidByText := true, laidKinds := [.data], laidTests := true, laidLooks := .later }
def FrameShortCardSaid : Prop := Claim7.holds Tryd.pinned (.plain (OpenSpec.ofChange frameShortSpec)) frameShortCard

/-- THE SECOND FORM's CARD OF 'wealdlaw04.FrameTells'. -/
def frameTellsUptoCard : Claim7 := { stood := { row := frameTellsUptoRow, standIns := [], harness := (true, "9b6314bd2c376ad85478bd446ba648b9fdee3dca184135e774d1516cf3558f15"), looks := false }, kinds := [], alts := [], laidByText := true, laidKinds := [.data], laidTests := true, laidLooks := .later }
def FrameTellsUptoCardSaid : Prop := Claim7.holds Tryd.pinned (.plain (OpenSpec.upto frameTellsSpec)) frameTellsUptoCard

/-- THE SECOND FORM's CARD OF 'wealdlaw04.FrameBack'. -/
def frameBackUptoCard : Claim7 := { stood := { row := frameBackUptoRow, standIns := [], harness := (true, "9b6314bd2c376ad85478bd446ba648b9fdee3dca184135e774d1516cf3558f15"), looks := false }, kinds := [], alts := [], laidByText := true, laidKinds := [.data], laidTests := true, laidLooks := .later }
def FrameBackUptoCardSaid : Prop := Claim7.holds Tryd.pinned (.plain (OpenSpec.upto frameBackSpec)) frameBackUptoCard

/-- THE SECOND FORM's CARD OF 'wealdlaw04.FrameTurned'. -/
def frameTurnedUptoCard : Claim7 := { stood := { row := frameTurnedUptoRow, standIns := [], harness := (true, "9b6314bd2c376ad85478bd446ba648b9fdee3dca184135e774d1516cf3558f15"), looks := false }, kinds := [], alts := [], laidByText := true, laidKinds := [.data], laidTests := true, laidLooks := .later }
def FrameTurnedUptoCardSaid : Prop := Claim7.holds Tryd.pinned (.plain (OpenSpec.upto frameTurnedSpec)) frameTurnedUptoCard

/-- THE SECOND FORM's CARD OF 'wealdlaw04.FrameJoins'. -/
def frameJoinsUptoCard : Claim7 := { stood := { row := frameJoinsUptoRow, standIns := [], harness := (true, "9b6314bd2c376ad85478bd446ba648b9fdee3dca184135e774d1516cf3558f15"), looks := false }, kinds := [], alts := [], laidByText := true, laidKinds := [.data], laidTests := true, laidLooks := .later }
def FrameJoinsUptoCardSaid : Prop := Claim7.holds Tryd.pinned (.plain (OpenSpec.upto frameJoinsSpec)) frameJoinsUptoCard

/-- THE SECOND FORM's CARD OF 'wealdlaw04.FrameAgain'. -/
def frameAgainUptoCard : Claim7 := { stood := { row := frameAgainUptoRow, standIns := [], harness := (true, "9b6314bd2c376ad85478bd446ba648b9fdee3dca184135e774d1516cf3558f15"), looks := false }, kinds := [], alts := [], laidByText := true, laidKinds := [.data], laidTests := true, laidLooks := .later }
def FrameAgainUptoCardSaid : Prop := Claim7.holds Tryd.pinned (.plain (OpenSpec.upto frameAgainSpec)) frameAgainUptoCard

/-- THE SECOND FORM's CARD OF 'wealdlaw04.FrameShort'. -/
def frameShortUptoCard : Claim7 := { stood := { row := frameShortUptoRow, standIns := [], harness := (true, "9b6314bd2c376ad85478bd446ba648b9fdee3dca184135e774d1516cf3558f15"), looks := false }, kinds := [], alts := [], laidByText := true, laidKinds := [.data], laidTests := true, laidLooks := .later }
def FrameShortUptoCardSaid : Prop := Claim7.holds Tryd.pinned (.plain (OpenSpec.upto frameShortSpec)) frameShortUptoCard
end Rows
end Go.Proofs.YtlbaedgmbdljpaaDoor
