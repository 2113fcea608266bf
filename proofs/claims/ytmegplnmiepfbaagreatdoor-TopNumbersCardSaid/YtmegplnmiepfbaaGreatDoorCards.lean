/-
  DERIVED. GIVEN WITH THE SEED: THE CARDS: each row of YtmegplnmiepfbaaGreatDoorRows.lean that lists a variable, with what it lists TIED to the program's text (the seventh form; the later family's looks); each row that meets fmt, with fmt's text TOLD by the authors' own Lean function (tested against real Go, not proved from fmt's source: count such statements apart). THE CARD IS WHAT COUNTS. Prove the row's statement (the work); the ties are given (YtmegplnmiepfbaaGreatDoorTie.lean); close each card by the builder's one call (the guide's Derived/Test/ToyasCard.lean, 'card_holds'). Laid BY PROGRAM, IN A SANDBOX (cutbox-door.mjs). By AI agents, Wed Nov 11 2026. No macro, syntax, notation, axiom, sorry.
-/
import Derived.Test.YtmegplnmiepfbaaGreatDoorRows
import GoSem.ClaimSeven
namespace Go.Proofs.YtmegplnmiepfbaaGreatDoor
namespace Rows

/-- THE TIED CARD OF 'herdsmantop.TopCorridor'. -/
def topCorridorCard : Claim7 := { stood := { row := topCorridorRow, standIns := [], harness := (true, "049970bab8c0bfe4f06ed97693ebac25b2e9871543ebb00ea789a9feb270e33d"), looks := true }, kinds := [], alts := [], laidByText := true, laidKinds := [.handle, .sentinel, .sentinel, .sentinel, .sentinel, .sentinel, .sentinel], laidTests := true, laidLooks := .later }
def TopCorridorCardSaid : Prop := Claim7.holds Tryz.pinned (.plain (OpenSpec.ofChange topCorridorSpec)) topCorridorCard

/-- THE TIED CARD OF 'herdsmantop.TopIds'. -/
def topIdsCard : Claim7 := { stood := { row := topIdsRow, standIns := [], harness := (true, "049970bab8c0bfe4f06ed97693ebac25b2e9871543ebb00ea789a9feb270e33d"), looks := true }, kinds := [], alts := [], laidByText := true, laidKinds := [.handle, .sentinel, .sentinel, .sentinel, .sentinel, .sentinel, .sentinel], laidTests := true, laidLooks := .later }
def TopIdsCardSaid : Prop := Claim7.holds Tryz.pinned (.plain (OpenSpec.ofChange topIdsSpec)) topIdsCard

/-- THE TIED CARD OF 'herdsmantop.TopLed'. -/
def topLedCard : Claim7 := { stood := { row := topLedRow, standIns := [], harness := (true, "049970bab8c0bfe4f06ed97693ebac25b2e9871543ebb00ea789a9feb270e33d"), looks := true }, kinds := [], alts := [], laidByText := true, laidKinds := [.handle, .sentinel, .sentinel, .sentinel, .sentinel, .sentinel, .sentinel], laidTests := true, laidLooks := .later }
def TopLedCardSaid : Prop := Claim7.holds Tryz.pinned (.plain (OpenSpec.ofChange topLedSpec)) topLedCard

/-- THE TIED CARD OF 'herdsmantop.TopFirst'. -/
def topFirstCard : Claim7 := { stood := { row := topFirstRow, standIns := [], harness := (true, "049970bab8c0bfe4f06ed97693ebac25b2e9871543ebb00ea789a9feb270e33d"), looks := true }, kinds := [], alts := [], laidByText := true, laidKinds := [.handle, .sentinel, .sentinel, .sentinel, .sentinel, .sentinel, .sentinel], laidTests := true, laidLooks := .later }
def TopFirstCardSaid : Prop := Claim7.holds Tryz.pinned (.plain (OpenSpec.ofChange topFirstSpec)) topFirstCard

/-- THE TIED CARD OF 'herdsmantop.TopNumbers'. -/
def topNumbersCard : Claim7 := { stood := { row := topNumbersRow, standIns := [], harness := (true, "049970bab8c0bfe4f06ed97693ebac25b2e9871543ebb00ea789a9feb270e33d"), looks := true }, kinds := [], alts := [], laidByText := true, laidKinds := [.handle, .sentinel, .sentinel, .sentinel, .sentinel, .sentinel, .sentinel], laidTests := true, laidLooks := .later }
def TopNumbersCardSaid : Prop := Claim7.holds Tryz.pinned (.plain (OpenSpec.ofChange topNumbersSpec)) topNumbersCard

/-- THE TIED CARD OF 'herdsmantop.TopTicks'. -/
def topTicksCard : Claim7 := { stood := { row := topTicksRow, standIns := [], harness := (true, "049970bab8c0bfe4f06ed97693ebac25b2e9871543ebb00ea789a9feb270e33d"), looks := true }, kinds := [], alts := [], laidByText := true, laidKinds := [.handle, .sentinel, .sentinel, .sentinel, .sentinel, .sentinel, .sentinel], laidTests := true, laidLooks := .later }
def TopTicksCardSaid : Prop := Claim7.holds Tryz.pinned (.plain (OpenSpec.ofChange topTicksSpec)) topTicksCard

/-- THE TIED CARD OF 'herdsmantop.TopTwins'. -/
def topTwinsCard : Claim7 := { stood := { row := topTwinsRow, standIns := [], harness := (true, "049970bab8c0bfe4f06ed97693ebac25b2e9871543ebb00ea789a9feb270e33d"), looks := true }, kinds := [], alts := [], laidByText := true, laidKinds := [.handle, .sentinel, .sentinel, .sentinel, .sentinel, .sentinel, .sentinel], laidTests := true, laidLooks := .later }
def TopTwinsCardSaid : Prop := Claim7.holds Tryz.pinned (.plain (OpenSpec.ofChange topTwinsSpec)) topTwinsCard

/-- THE SECOND FORM's CARD OF 'herdsmantop.TopCorridor'. -/
def topCorridorUptoCard : Claim7 := { stood := { row := topCorridorUptoRow, standIns := [], harness := (true, "049970bab8c0bfe4f06ed97693ebac25b2e9871543ebb00ea789a9feb270e33d"), looks := true }, kinds := [], alts := [], laidByText := true, laidKinds := [.handle, .sentinel, .sentinel, .sentinel, .sentinel, .sentinel, .sentinel], laidTests := true, laidLooks := .later }
def TopCorridorUptoCardSaid : Prop := Claim7.holds Tryz.pinned (.plain (OpenSpec.upto topCorridorSpec)) topCorridorUptoCard

/-- THE SECOND FORM's CARD OF 'herdsmantop.TopIds'. -/
def topIdsUptoCard : Claim7 := { stood := { row := topIdsUptoRow, standIns := [], harness := (true, "049970bab8c0bfe4f06ed97693ebac25b2e9871543ebb00ea789a9feb270e33d"), looks := true }, kinds := [], alts := [], laidByText := true, laidKinds := [.handle, .sentinel, .sentinel, .sentinel, .sentinel, .sentinel, .sentinel], laidTests := true, laidLooks := .later }
def TopIdsUptoCardSaid : Prop := Claim7.holds Tryz.pinned (.plain (OpenSpec.upto topIdsSpec)) topIdsUptoCard

/-- THE SECOND FORM's CARD OF 'herdsmantop.TopLed'. -/
def topLedUptoCard : Claim7 := { stood := { row := topLedUptoRow, standIns := [], harness := (true, "049970bab8c0bfe4f06ed97693ebac25b2e9871543ebb00ea789a9feb270e33d"), looks := true }, kinds := [], alts := [], laidByText := true, laidKinds := [.handle, .sentinel, .sentinel, .sentinel, .sentinel, .sentinel, .sentinel], laidTests := true, laidLooks := .later }
def TopLedUptoCardSaid : Prop := Claim7.holds Tryz.pinned (.plain (OpenSpec.upto topLedSpec)) topLedUptoCard

/-- THE SECOND FORM's CARD OF 'herdsmantop.TopFirst'. -/
def topFirstUptoCard : Claim7 := { stood := { row := topFirstUptoRow, standIns := [], harness := (true, "049970bab8c0bfe4f06ed97693ebac25b2e9871543ebb00ea789a9feb270e33d"), looks := true }, kinds := [], alts := [], laidByText := true, laidKinds := [.handle, .sentinel, .sentinel, .sentinel, .sentinel, .sentinel, .sentinel], laidTests := true, laidLooks := .later }
def TopFirstUptoCardSaid : Prop := Claim7.holds Tryz.pinned (.plain (OpenSpec.upto topFirstSpec)) topFirstUptoCard

/-- THE SECOND FORM's CARD OF 'herdsmantop.TopNumbers'. -/
def topNumbersUptoCard : Claim7 := { stood := { row := topNumbersUptoRow, standIns := [], harness := (true, "049970bab8c0bfe4f06ed97693ebac25b2e9871543ebb00ea789a9feb270e33d"), looks := true }, kinds := [], alts := [], laidByText := true, laidKinds := [.handle, .sentinel, .sentinel, .sentinel, .sentinel, .sentinel, .sentinel], laidTests := true, laidLooks := .later }
def TopNumbersUptoCardSaid : Prop := Claim7.holds Tryz.pinned (.plain (OpenSpec.upto topNumbersSpec)) topNumbersUptoCard

/-- THE SECOND FORM's CARD OF 'herdsmantop.TopTicks'. -/
def topTicksUptoCard : Claim7 := { stood := { row := topTicksUptoRow, standIns := [], harness := (true, "049970bab8c0bfe4f06ed97693ebac25b2e9871543ebb00ea789a9feb270e33d"), looks := true }, kinds := [], alts := [], laidByText := true, laidKinds := [.handle, .sentinel, .sentinel, .sentinel, .sentinel, .sentinel, .sentinel], laidTests := true, laidLooks := .later }
def TopTicksUptoCardSaid : Prop := Claim7.holds Tryz.pinned (.plain (OpenSpec.upto topTicksSpec)) topTicksUptoCard

/-- THE SECOND FORM's CARD OF 'herdsmantop.TopTwins'. -/
def topTwinsUptoCard : Claim7 := { stood := { row := topTwinsUptoRow, standIns := [], harness := (true, "049970bab8c0bfe4f06ed97693ebac25b2e9871543ebb00ea789a9feb270e33d"), looks := true }, kinds := [], alts := [], laidByText := true, laidKinds := [.handle, .sentinel, .sentinel, .sentinel, .sentinel, .sentinel, .sentinel], laidTests := true, laidLooks := .later }
def TopTwinsUptoCardSaid : Prop := Claim7.holds Tryz.pinned (.plain (OpenSpec.upto topTwinsSpec)) topTwinsUptoCard
end Rows
end Go.Proofs.YtmegplnmiepfbaaGreatDoor
