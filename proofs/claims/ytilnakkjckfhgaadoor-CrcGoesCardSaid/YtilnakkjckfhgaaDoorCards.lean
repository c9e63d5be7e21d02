/-
  DERIVED. GIVEN WITH THE SEED: THE CARDS: each row of YtilnakkjckfhgaaDoorRows.lean that lists a variable, with what it lists TIED to the program's text (the seventh form; the later family's looks); each row that meets fmt, with fmt's text TOLD by the authors' own Lean function (tested against real Go, not proved from fmt's source: count such statements apart). THE CARD IS WHAT COUNTS. Prove the row's statement (the work); the ties are given (YtilnakkjckfhgaaDoorTie.lean); close each card by the builder's one call (the guide's Derived/Test/ToyasCard.lean, 'card_holds'). Laid BY PROGRAM, IN A SANDBOX (cutbox-door.mjs). By AI agents, Wed Nov 11 2026. No macro, syntax, notation, axiom, sorry.
-/
import Derived.Test.YtilnakkjckfhgaaDoorRows
import GoSem.ClaimSeven
namespace Go.Proofs.YtilnakkjckfhgaaDoor
namespace Rows

/-- THE TIED CARD OF 'wealdlaw03.CrcTells'. -/
def crcTellsCard : Claim7 := { stood := { row := crcTellsRow, standIns := [], harness := (true, "0e8ec7097c4b4dee8426ac6a055dd1ad84e808743d20e417da0e6eea88e908fd"), looks := false }, kinds := [], alts := [], laidByText := true, laidKinds := [.data], laidTests := true, laidLooks := .later }
def CrcTellsCardSaid : Prop := Claim7.holds Tryd.pinned (.plain (OpenSpec.ofChange crcTellsSpec)) crcTellsCard

/-- THE TIED CARD OF 'wealdlaw03.CrcGoes'. -/
def crcGoesCard : Claim7 := { stood := { row := crcGoesRow, standIns := [], harness := (true, "0e8ec7097c4b4dee8426ac6a055dd1ad84e808743d20e417da0e6eea88e908fd"), looks := false }, kinds := [], alts := [], laidByText := true, laidKinds := [.data], laidTests := true, laidLooks := .later }
def CrcGoesCardSaid : Prop := Claim7.holds Tryd.pinned (.plain (OpenSpec.ofChange crcGoesSpec)) crcGoesCard

/-- THE TIED CARD OF 'wealdlaw03.CrcBurst'. -/
def crcBurstCard : Claim7 := { stood := { row := crcBurstRow, standIns := [], harness := (true, "0e8ec7097c4b4dee8426ac6a055dd1ad84e808743d20e417da0e6eea88e908fd"), looks := false }, kinds := [], alts := [], laidByText := true, laidKinds := [.data], laidTests := true, laidLooks := .later }
def CrcBurstCardSaid : Prop := Claim7.holds Tryd.pinned (.plain (OpenSpec.ofChange crcBurstSpec)) crcBurstCard

/-- THE TIED CARD OF 'wealdlaw03.CrcTurns'. -/
def crcTurnsCard : Claim7 := { stood := { row := crcTurnsRow, standIns := [], harness := (true, "0e8ec7097c4b4dee8426ac6a055dd1ad84e808743d20e417da0e6eea88e908fd"), looks := false }, kinds := [], alts := [], laidByText := true, laidKinds := [.data], laidTests := true, laidLooks := .later }
def CrcTurnsCardSaid : Prop := Claim7.holds Tryd.pinned (.plain (OpenSpec.ofChange crcTurnsSpec)) crcTurnsCard

/-- THE TIED CARD OF 'wealdlaw03.CrcParts'. -/
def crcPartsCard : Claim7 := { stood := { row := crcPartsRow, standIns := [], harness := (true, "0e8ec7097c4b4dee8426ac6a055dd1ad84e808743d20e417da0e6eea88e908fd"), looks := false }, kinds := [], alts := [], laidByText := true, laidKinds := [.data], laidTests := true, laidLooks := .later }
def CrcPartsCardSaid : Prop := Claim7.holds Tryd.pinned (.plain (OpenSpec.ofChange crcPartsSpec)) crcPartsCard

/-- THE TIED CARD OF 'wealdlaw03.CrcSwap'. -/
def crcSwapCard : Claim7 := { stood := { row := crcSwapRow, standIns := [], harness := (true, "0e8ec7097c4b4dee8426ac6a055dd1ad84e808743d20e417da0e6eea88e908fd"), looks := false }, kinds := [], alts := [], laidByText := true, laidKinds := [.data], laidTests := true, laidLooks := .later }
def CrcSwapCardSaid : Prop := Claim7.holds Tryd.pinned (.plain (OpenSpec.ofChange crcSwapSpec)) crcSwapCard

/-- THE TIED CARD OF 'wealdlaw03.CrcFollows'. -/
def crcFollowsCard : Claim7 := { stood := { row := crcFollowsRow, standIns := [], harness := (true, "0e8ec7097c4b4dee8426ac6a055dd1ad84e808743d20e417da0e6eea88e908fd"), looks := false }, kinds := [], alts := [], laidByText := true, laidKinds := [.data], laidTests := true, laidLooks := .later }
def CrcFollowsCardSaid : Prop := Claim7.holds Tryd.pinned (.plain (OpenSpec.ofChange crcFollowsSpec)) crcFollowsCard

/-- THE SECOND FORM's CARD OF 'wealdlaw03.CrcTells'. -/
def crcTellsUptoCard : Claim7 := { stood := { row := crcTellsUptoRow, standIns := [], harness := (true, "0e8ec7097c4b4dee8426ac6a055dd1ad84e808743d20e417da0e6eea88e908fd"), looks := false }, kinds := [], alts := [], laidByText := true, laidKinds := [.data], laidTests := true, laidLooks := .later }
def CrcTellsUptoCardSaid : Prop := Claim7.holds Tryd.pinned (.plain (OpenSpec.upto crcTellsSpec)) crcTellsUptoCard

/-- THE SECOND FORM's CARD OF 'wealdlaw03.CrcGoes'. -/
def crcGoesUptoCard : Claim7 := { stood := { row := crcGoesUptoRow, standIns := [], harness := (true, "0e8ec7097c4b4dee8426ac6a055dd1ad84e808743d20e417da0e6eea88e908fd"), looks := false }, kinds := [], alts := [], laidByText := true, laidKinds := [.data], laidTests := true, laidLooks := .later }
def CrcGoesUptoCardSaid : Prop := Claim7.holds Tryd.pinned (.plain (OpenSpec.upto crcGoesSpec)) crcGoesUptoCard

/-- THE SECOND FORM's CARD OF 'wealdlaw03.CrcBurst'. -/
def crcBurstUptoCard : Claim7 := { stood := { row := crcBurstUptoRow, standIns := [], harness := (true, "0e8ec7097c4b4dee8426ac6a055dd1ad84e808743d20e417da0e6eea88e908fd"), looks := false }, kinds := [], alts := [], laidByText := true, laidKinds := [.data], laidTests := true, laidLooks := .later }
def CrcBurstUptoCardSaid : Prop := Claim7.holds Tryd.pinned (.plain (OpenSpec.upto crcBurstSpec)) crcBurstUptoCard

/-- THE SECOND FORM's CARD OF 'wealdlaw03.CrcTurns'. -/
def crcTurnsUptoCard : Claim7 := { stood := { row := crcTurnsUptoRow, standIns := [], harness := (true, "0e8ec7097c4b4dee8426ac6a055dd1ad84e808743d20e417da0e6eea88e908fd"), looks := false }, kinds := [], alts := [], laidByText := true, laidKinds := [.data], laidTests := true, laidLooks := .later }
def CrcTurnsUptoCardSaid : Prop := Claim7.holds Tryd.pinned (.plain (OpenSpec.upto crcTurnsSpec)) crcTurnsUptoCard

/-- THE SECOND FORM's CARD OF 'wealdlaw03.CrcParts'. -/
def crcPartsUptoCard : Claim7 := { stood := { row := crcPartsUptoRow, standIns := [], harness := (true, "0e8ec7097c4b4dee8426ac6a055dd1ad84e808743d20e417da0e6eea88e908fd"), looks := false }, kinds := [], alts := [], laidByText := true, laidKinds := [.data], laidTests := true, laidLooks := .later }
def CrcPartsUptoCardSaid : Prop := Claim7.holds Tryd.pinned (.plain (OpenSpec.upto crcPartsSpec)) crcPartsUptoCard

/-- THE SECOND FORM's CARD OF 'wealdlaw03.CrcSwap'. -/
def crcSwapUptoCard : Claim7 := { stood := { row := crcSwapUptoRow, standIns := [], harness := (true, "0e8ec7097c4b4dee8426ac6a055dd1ad84e808743d20e417da0e6eea88e908fd"), looks := false }, kinds := [], alts := [], laidByText := true, laidKinds := [.data], laidTests := true, laidLooks := .later }
def CrcSwapUptoCardSaid : Prop := Claim7.holds Tryd.pinned (.plain (OpenSpec.upto crcSwapSpec)) crcSwapUptoCard

/-- THE SECOND FORM's CARD OF 'wealdlaw03.CrcFollows'. -/
def crcFollowsUptoCard : Claim7 := { stood := { row := crcFollowsUptoRow, standIns := [], harness := (true, "0e8ec7097c4b4dee8426ac6a055dd1ad84e808743d20e417da0e6eea88e908fd"), looks := false }, kinds := [], alts := [], laidByText := true, laidKinds := [.data], laidTests := true, laidLooks := .later }
def CrcFollowsUptoCardSaid : Prop := Claim7.holds Tryd.pinned (.plain (OpenSpec.upto crcFollowsSpec)) crcFollowsUptoCard
end Rows
end Go.Proofs.YtilnakkjckfhgaaDoor
