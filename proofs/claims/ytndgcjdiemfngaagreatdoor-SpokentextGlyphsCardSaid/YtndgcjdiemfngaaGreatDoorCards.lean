/-
  DERIVED. GIVEN WITH THE SEED: THE CARDS: each row of YtndgcjdiemfngaaGreatDoorRows.lean that lists a variable, with what it lists TIED to the program's text (the seventh form; the later family's looks); each row that meets fmt, with fmt's text TOLD by the authors' own Lean function (tested against real Go, not proved from fmt's source: count such statements apart). THE CARD IS WHAT COUNTS. Prove the row's statement (the work); the ties are given (YtndgcjdiemfngaaGreatDoorTie.lean); close each card by the builder's one call (the guide's Derived/Test/ToyasCard.lean, 'card_holds'). Laid BY PROGRAM, IN A SANDBOX (cutbox-door.mjs). By AI agents, Wed Nov 11 2026. No macro, syntax, notation, axiom, sorry.
-/
import Derived.Test.YtndgcjdiemfngaaGreatDoorRows
import GoSem.ClaimSeven
namespace Go.Proofs.YtndgcjdiemfngaaGreatDoor
namespace Rows

/-- THE TIED CARD OF 'narratorlaw40.SpokentextWords'. -/
def spokentextWordsCard : Claim7 := { stood := { row := spokentextWordsRow, standIns := [], harness := (true, "6f567e9c0717158ade572b4664f9aaec85c8f2be6dae808c640c8d66fd955a29"), looks := false }, kinds := [], alts := [], laidByText := true, laidKinds := [.data, .data, .data, .listed, .data, .widerDeep, .pinned, .pinned], laidTests := true, laidLooks := .later }
def SpokentextWordsCardSaid : Prop := Claim7.holds Tryz.pinned (.plain (OpenSpec.ofChange spokentextWordsSpec)) spokentextWordsCard

/-- THE TIED CARD OF 'narratorlaw40.SpokentextGlyphs'. -/
def spokentextGlyphsCard : Claim7 := { stood := { row := spokentextGlyphsRow, standIns := [], harness := (true, "6f567e9c0717158ade572b4664f9aaec85c8f2be6dae808c640c8d66fd955a29"), looks := false }, kinds := [], alts := [], laidByText := true, laidKinds := [.data, .data, .data, .listed, .data, .widerDeep, .pinned, .pinned], laidTests := true, laidLooks := .later }
def SpokentextGlyphsCardSaid : Prop := Claim7.holds Tryz.pinned (.plain (OpenSpec.ofChange spokentextGlyphsSpec)) spokentextGlyphsCard

/-- THE TIED CARD OF 'narratorlaw40.SpokentextResults'. -/
def spokentextResultsCard : Claim7 := { stood := { row := spokentextResultsRow, standIns := [], harness := (true, "6f567e9c0717158ade572b4664f9aaec85c8f2be6dae808c640c8d66fd955a29"), looks := false }, kinds := [], alts := [], laidByText := true, laidKinds := [.data, .data, .data, .listed, .data, .widerDeep, .pinned, .pinned], laidTests := true, laidLooks := .later }
def SpokentextResultsCardSaid : Prop := Claim7.holds Tryz.pinned (.plain (OpenSpec.ofChange spokentextResultsSpec)) spokentextResultsCard

/-- THE TIED CARD OF 'narratorlaw40.SpokentextRoundTrip'. -/
def spokentextRoundTripCard : Claim7 := { stood := { row := spokentextRoundTripRow, standIns := [], harness := (true, "6f567e9c0717158ade572b4664f9aaec85c8f2be6dae808c640c8d66fd955a29"), looks := false }, kinds := [], alts := [], laidByText := true, laidKinds := [.data, .listed, .data, .widerDeep, .pinned, .pinned], laidTests := true, laidLooks := .later }
def SpokentextRoundTripCardSaid : Prop := Claim7.holds Tryz.pinned (.plain (OpenSpec.ofChange spokentextRoundTripSpec)) spokentextRoundTripCard

/-- THE TIED CARD OF 'narratorlaw40.SpokentextStyles'. -/
def spokentextStylesCard : Claim7 := { stood := { row := spokentextStylesRow, standIns := [], harness := (true, "6f567e9c0717158ade572b4664f9aaec85c8f2be6dae808c640c8d66fd955a29"), looks := false }, kinds := [], alts := [], laidByText := true, laidKinds := [.data, .listed, .data, .widerDeep, .pinned, .pinned], laidTests := true, laidLooks := .later }
def SpokentextStylesCardSaid : Prop := Claim7.holds Tryz.pinned (.plain (OpenSpec.ofChange spokentextStylesSpec)) spokentextStylesCard

/-- THE TIED CARD OF 'narratorlaw40.SpokentextDistinct'. -/
def spokentextDistinctCard : Claim7 := { stood := { row := spokentextDistinctRow, standIns := [], harness := (true, "6f567e9c0717158ade572b4664f9aaec85c8f2be6dae808c640c8d66fd955a29"), looks := false }, kinds := [], alts := [], laidByText := true, laidKinds := [.data, .listed, .data, .widerDeep, .pinned, .pinned], laidTests := true, laidLooks := .later }
def SpokentextDistinctCardSaid : Prop := Claim7.holds Tryz.pinned (.plain (OpenSpec.ofChange spokentextDistinctSpec)) spokentextDistinctCard

/-- THE TIED CARD OF 'narratorlaw40.SpokentextPlain'. -/
def spokentextPlainCard : Claim7 := { stood := { row := spokentextPlainRow, standIns := [], harness := (true, "6f567e9c0717158ade572b4664f9aaec85c8f2be6dae808c640c8d66fd955a29"), looks := false }, kinds := [], alts := [], laidByText := true, laidKinds := [.data, .listed, .data, .widerDeep, .pinned, .pinned], laidTests := true, laidLooks := .later }
def SpokentextPlainCardSaid : Prop := Claim7.holds Tryz.pinned (.plain (OpenSpec.ofChange spokentextPlainSpec)) spokentextPlainCard

/-- THE TIED CARD OF 'narratorlaw40.SpokentextForm'. -/
def spokentextFormCard : Claim7 := { stood := { row := spokentextFormRow, standIns := [], harness := (true, "6f567e9c0717158ade572b4664f9aaec85c8f2be6dae808c640c8d66fd955a29"), looks := false }, kinds := [], alts := [], laidByText := true, laidKinds := [.data, .listed, .data, .widerDeep, .pinned, .pinned], laidTests := true, laidLooks := .later }
def SpokentextFormCardSaid : Prop := Claim7.holds Tryz.pinned (.plain (OpenSpec.ofChange spokentextFormSpec)) spokentextFormCard

/-- THE SECOND FORM's CARD OF 'narratorlaw40.SpokentextWords'. -/
def spokentextWordsUptoCard : Claim7 := { stood := { row := spokentextWordsUptoRow, standIns := [], harness := (true, "6f567e9c0717158ade572b4664f9aaec85c8f2be6dae808c640c8d66fd955a29"), looks := false }, kinds := [], alts := [], laidByText := true, laidKinds := [.data, .data, .data, .listed, .data, .widerDeep, .pinned, .pinned], laidTests := true, laidLooks := .later }
def SpokentextWordsUptoCardSaid : Prop := Claim7.holds Tryz.pinned (.plain (OpenSpec.upto spokentextWordsSpec)) spokentextWordsUptoCard

/-- THE SECOND FORM's CARD OF 'narratorlaw40.SpokentextGlyphs'. -/
def spokentextGlyphsUptoCard : Claim7 := { stood := { row := spokentextGlyphsUptoRow, standIns := [], harness := (true, "6f567e9c0717158ade572b4664f9aaec85c8f2be6dae808c640c8d66fd955a29"), looks := false }, kinds := [], alts := [], laidByText := true, laidKinds := [.data, .data, .data, .listed, .data, .widerDeep, .pinned, .pinned], laidTests := true, laidLooks := .later }
def SpokentextGlyphsUptoCardSaid : Prop := Claim7.holds Tryz.pinned (.plain (OpenSpec.upto spokentextGlyphsSpec)) spokentextGlyphsUptoCard

/-- THE SECOND FORM's CARD OF 'narratorlaw40.SpokentextResults'. -/
def spokentextResultsUptoCard : Claim7 := { stood := { row := spokentextResultsUptoRow, standIns := [], harness := (true, "6f567e9c0717158ade572b4664f9aaec85c8f2be6dae808c640c8d66fd955a29"), looks := false }, kinds := [], alts := [], laidByText := true, laidKinds := [.data, .data, .data, .listed, .data, .widerDeep, .pinned, .pinned], laidTests := true, laidLooks := .later }
def SpokentextResultsUptoCardSaid : Prop := Claim7.holds Tryz.pinned (.plain (OpenSpec.upto spokentextResultsSpec)) spokentextResultsUptoCard

/-- THE SECOND FORM's CARD OF 'narratorlaw40.SpokentextRoundTrip'. -/
def spokentextRoundTripUptoCard : Claim7 := { stood := { row := spokentextRoundTripUptoRow, standIns := [], harness := (true, "6f567e9c0717158ade572b4664f9aaec85c8f2be6dae808c640c8d66fd955a29"), looks := false }, kinds := [], alts := [], laidByText := true, laidKinds := [.data, .listed, .data, .widerDeep, .pinned, .pinned], laidTests := true, laidLooks := .later }
def SpokentextRoundTripUptoCardSaid : Prop := Claim7.holds Tryz.pinned (.plain (OpenSpec.upto spokentextRoundTripSpec)) spokentextRoundTripUptoCard

/-- THE SECOND FORM's CARD OF 'narratorlaw40.SpokentextStyles'. -/
def spokentextStylesUptoCard : Claim7 := { stood := { row := spokentextStylesUptoRow, standIns := [], harness := (true, "6f567e9c0717158ade572b4664f9aaec85c8f2be6dae808c640c8d66fd955a29"), looks := false }, kinds := [], alts := [], laidByText := true, laidKinds := [.data, .listed, .data, .widerDeep, .pinned, .pinned], laidTests := true, laidLooks := .later }
def SpokentextStylesUptoCardSaid : Prop := Claim7.holds Tryz.pinned (.plain (OpenSpec.upto spokentextStylesSpec)) spokentextStylesUptoCard

/-- THE SECOND FORM's CARD OF 'narratorlaw40.SpokentextDistinct'. -/
def spokentextDistinctUptoCard : Claim7 := { stood := { row := spokentextDistinctUptoRow, standIns := [], harness := (true, "6f567e9c0717158ade572b4664f9aaec85c8f2be6dae808c640c8d66fd955a29"), looks := false }, kinds := [], alts := [], laidByText := true, laidKinds := [.data, .listed, .data, .widerDeep, .pinned, .pinned], laidTests := true, laidLooks := .later }
def SpokentextDistinctUptoCardSaid : Prop := Claim7.holds Tryz.pinned (.plain (OpenSpec.upto spokentextDistinctSpec)) spokentextDistinctUptoCard

/-- THE SECOND FORM's CARD OF 'narratorlaw40.SpokentextPlain'. -/
def spokentextPlainUptoCard : Claim7 := { stood := { row := spokentextPlainUptoRow, standIns := [], harness := (true, "6f567e9c0717158ade572b4664f9aaec85c8f2be6dae808c640c8d66fd955a29"), looks := false }, kinds := [], alts := [], laidByText := true, laidKinds := [.data, .listed, .data, .widerDeep, .pinned, .pinned], laidTests := true, laidLooks := .later }
def SpokentextPlainUptoCardSaid : Prop := Claim7.holds Tryz.pinned (.plain (OpenSpec.upto spokentextPlainSpec)) spokentextPlainUptoCard

/-- THE SECOND FORM's CARD OF 'narratorlaw40.SpokentextForm'. -/
def spokentextFormUptoCard : Claim7 := { stood := { row := spokentextFormUptoRow, standIns := [], harness := (true, "6f567e9c0717158ade572b4664f9aaec85c8f2be6dae808c640c8d66fd955a29"), looks := false }, kinds := [], alts := [], laidByText := true, laidKinds := [.data, .listed, .data, .widerDeep, .pinned, .pinned], laidTests := true, laidLooks := .later }
def SpokentextFormUptoCardSaid : Prop := Claim7.holds Tryz.pinned (.plain (OpenSpec.upto spokentextFormSpec)) spokentextFormUptoCard
end Rows
end Go.Proofs.YtndgcjdiemfngaaGreatDoor
