/-
  DERIVED. GIVEN WITH THE SEED: THE CARDS: each row of YtpdfmfkoopdfgaaGreatDoorRows.lean that lists a variable, with what it lists TIED to the program's text (the seventh form; the later family's looks); each row that meets fmt, with fmt's text TOLD by the authors' own Lean function (tested against real Go, not proved from fmt's source: count such statements apart). THE CARD IS WHAT COUNTS. Prove the row's statement (the work); the ties are given (YtpdfmfkoopdfgaaGreatDoorTie.lean); close each card by the builder's one call (the guide's Derived/Test/ToyasCard.lean, 'card_holds'). Laid BY PROGRAM, IN A SANDBOX (cutbox-door.mjs). By AI agents, Wed Nov 11 2026. No macro, syntax, notation, axiom, sorry.
-/
import Derived.Test.YtpdfmfkoopdfgaaGreatDoorRows
import GoSem.ClaimSeven
namespace Go.Proofs.YtpdfmfkoopdfgaaGreatDoor
namespace Rows

/-- THE TIED CARD OF 'wealdlaw21.LinTells'. -/
def linTellsCard : Claim7 := { stood := { row := linTellsRow, standIns := [], harness := (true, "c0472e071bfbd4c38bb89174e07f4e25c94a8720f4594d1dac45a67984de5ac7"), looks := true }, kinds := [], alts := [], laidByText := true, laidKinds := [.data, .data, .data], laidTests := true, laidLooks := .later }
def LinTellsCardSaid : Prop := Claim7.holds Tryz.pinned (.plain (OpenSpec.ofChange linTellsSpec)) linTellsCard

/-- THE TIED CARD OF 'wealdlaw21.LinLive'. -/
def linLiveCard : Claim7 := { stood := { row := linLiveRow, standIns := [], harness := (true, "c0472e071bfbd4c38bb89174e07f4e25c94a8720f4594d1dac45a67984de5ac7"), looks := true }, kinds := [], alts := [], laidByText := true, laidKinds := [.data, .data, .data], laidTests := true, laidLooks := .later }
def LinLiveCardSaid : Prop := Claim7.holds Tryz.pinned (.plain (OpenSpec.ofChange linLiveSpec)) linLiveCard

/-- THE TIED CARD OF 'wealdlaw21.LinWider'. -/
def linWiderCard : Claim7 := { stood := { row := linWiderRow, standIns := [], harness := (true, "c0472e071bfbd4c38bb89174e07f4e25c94a8720f4594d1dac45a67984de5ac7"), looks := true }, kinds := [], alts := [], laidByText := true, laidKinds := [.data, .data, .data], laidTests := true, laidLooks := .later }
def LinWiderCardSaid : Prop := Claim7.holds Tryz.pinned (.plain (OpenSpec.ofChange linWiderSpec)) linWiderCard

/-- THE TIED CARD OF 'wealdlaw21.LinEnds'. -/
def linEndsCard : Claim7 := { stood := { row := linEndsRow, standIns := [], harness := (true, "c0472e071bfbd4c38bb89174e07f4e25c94a8720f4594d1dac45a67984de5ac7"), looks := true }, kinds := [], alts := [], laidByText := true, laidKinds := [.data, .data, .data], laidTests := true, laidLooks := .later }
def LinEndsCardSaid : Prop := Claim7.holds Tryz.pinned (.plain (OpenSpec.ofChange linEndsSpec)) linEndsCard

/-- THE TIED CARD OF 'wealdlaw21.LinEither'. -/
def linEitherCard : Claim7 := { stood := { row := linEitherRow, standIns := [], harness := (true, "c0472e071bfbd4c38bb89174e07f4e25c94a8720f4594d1dac45a67984de5ac7"), looks := true }, kinds := [], alts := [], laidByText := true, laidKinds := [.data, .data, .data], laidTests := true, laidLooks := .later }
def LinEitherCardSaid : Prop := Claim7.holds Tryz.pinned (.plain (OpenSpec.ofChange linEitherSpec)) linEitherCard

/-- THE SECOND FORM's CARD OF 'wealdlaw21.LinTells'. -/
def linTellsUptoCard : Claim7 := { stood := { row := linTellsUptoRow, standIns := [], harness := (true, "c0472e071bfbd4c38bb89174e07f4e25c94a8720f4594d1dac45a67984de5ac7"), looks := true }, kinds := [], alts := [], laidByText := true, laidKinds := [.data, .data, .data], laidTests := true, laidLooks := .later }
def LinTellsUptoCardSaid : Prop := Claim7.holds Tryz.pinned (.plain (OpenSpec.upto linTellsSpec)) linTellsUptoCard

/-- THE SECOND FORM's CARD OF 'wealdlaw21.LinLive'. -/
def linLiveUptoCard : Claim7 := { stood := { row := linLiveUptoRow, standIns := [], harness := (true, "c0472e071bfbd4c38bb89174e07f4e25c94a8720f4594d1dac45a67984de5ac7"), looks := true }, kinds := [], alts := [], laidByText := true, laidKinds := [.data, .data, .data], laidTests := true, laidLooks := .later }
def LinLiveUptoCardSaid : Prop := Claim7.holds Tryz.pinned (.plain (OpenSpec.upto linLiveSpec)) linLiveUptoCard

/-- THE SECOND FORM's CARD OF 'wealdlaw21.LinWider'. -/
def linWiderUptoCard : Claim7 := { stood := { row := linWiderUptoRow, standIns := [], harness := (true, "c0472e071bfbd4c38bb89174e07f4e25c94a8720f4594d1dac45a67984de5ac7"), looks := true }, kinds := [], alts := [], laidByText := true, laidKinds := [.data, .data, .data], laidTests := true, laidLooks := .later }
def LinWiderUptoCardSaid : Prop := Claim7.holds Tryz.pinned (.plain (OpenSpec.upto linWiderSpec)) linWiderUptoCard

/-- THE SECOND FORM's CARD OF 'wealdlaw21.LinEnds'. -/
def linEndsUptoCard : Claim7 := { stood := { row := linEndsUptoRow, standIns := [], harness := (true, "c0472e071bfbd4c38bb89174e07f4e25c94a8720f4594d1dac45a67984de5ac7"), looks := true }, kinds := [], alts := [], laidByText := true, laidKinds := [.data, .data, .data], laidTests := true, laidLooks := .later }
def LinEndsUptoCardSaid : Prop := Claim7.holds Tryz.pinned (.plain (OpenSpec.upto linEndsSpec)) linEndsUptoCard

/-- THE SECOND FORM's CARD OF 'wealdlaw21.LinEither'. -/
def linEitherUptoCard : Claim7 := { stood := { row := linEitherUptoRow, standIns := [], harness := (true, "c0472e071bfbd4c38bb89174e07f4e25c94a8720f4594d1dac45a67984de5ac7"), looks := true }, kinds := [], alts := [], laidByText := true, laidKinds := [.data, .data, .data], laidTests := true, laidLooks := .later }
def LinEitherUptoCardSaid : Prop := Claim7.holds Tryz.pinned (.plain (OpenSpec.upto linEitherSpec)) linEitherUptoCard
end Rows
end Go.Proofs.YtpdfmfkoopdfgaaGreatDoor
