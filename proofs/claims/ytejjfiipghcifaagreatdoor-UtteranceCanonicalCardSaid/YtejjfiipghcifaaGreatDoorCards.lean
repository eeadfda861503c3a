/-
  DERIVED. GIVEN WITH THE SEED: THE CARDS: each row of YtejjfiipghcifaaGreatDoorRows.lean that lists a variable, with what it lists TIED to the program's text (the seventh form; the later family's looks); each row that meets fmt, with fmt's text TOLD by the authors' own Lean function (tested against real Go, not proved from fmt's source: count such statements apart). THE CARD IS WHAT COUNTS. Prove the row's statement (the work); the ties are given (YtejjfiipghcifaaGreatDoorTie.lean); close each card by the builder's one call (the guide's Derived/Test/ToyasCard.lean, 'card_holds'). Laid BY PROGRAM, IN A SANDBOX (cutbox-door.mjs). By AI agents, Wed Nov 11 2026. No macro, syntax, notation, axiom, sorry.
-/
import Derived.Test.YtejjfiipghcifaaGreatDoorRows
import GoSem.ClaimSeven
namespace Go.Proofs.YtejjfiipghcifaaGreatDoor
namespace Rows

/-- THE TIED CARD OF 'narratorlaw41.UtteranceWords'. -/
def utteranceWordsCard : Claim7 := { stood := { row := utteranceWordsRow, standIns := [], harness := (true, "025391eee2d7183b758b4229fa902291d40b3b733ae7f3259625f7ccbc4da8dc"), looks := false }, kinds := [], alts := [], laidByText := true, laidKinds := [.data, .data, .data, .listed, .data, .widerDeep, .pinned, .pinned], laidTests := true, laidLooks := .later }
def UtteranceWordsCardSaid : Prop := Claim7.holds Tryz.pinned (.plain (OpenSpec.ofChange utteranceWordsSpec)) utteranceWordsCard

/-- THE TIED CARD OF 'narratorlaw41.UtteranceChanges'. -/
def utteranceChangesCard : Claim7 := { stood := { row := utteranceChangesRow, standIns := [], harness := (true, "025391eee2d7183b758b4229fa902291d40b3b733ae7f3259625f7ccbc4da8dc"), looks := false }, kinds := [], alts := [], laidByText := true, laidKinds := [.data, .data, .data, .listed, .data, .widerDeep, .pinned, .pinned], laidTests := true, laidLooks := .later }
def UtteranceChangesCardSaid : Prop := Claim7.holds Tryz.pinned (.plain (OpenSpec.ofChange utteranceChangesSpec)) utteranceChangesCard

/-- THE TIED CARD OF 'narratorlaw41.UtteranceRoundTrip'. -/
def utteranceRoundTripCard : Claim7 := { stood := { row := utteranceRoundTripRow, standIns := [], harness := (true, "025391eee2d7183b758b4229fa902291d40b3b733ae7f3259625f7ccbc4da8dc"), looks := false }, kinds := [], alts := [], laidByText := true, laidKinds := [.data, .listed, .data, .widerDeep, .pinned, .pinned], laidTests := true, laidLooks := .later }
def UtteranceRoundTripCardSaid : Prop := Claim7.holds Tryz.pinned (.plain (OpenSpec.ofChange utteranceRoundTripSpec)) utteranceRoundTripCard

/-- THE TIED CARD OF 'narratorlaw41.UtteranceCanonical'. -/
def utteranceCanonicalCard : Claim7 := { stood := { row := utteranceCanonicalRow, standIns := [], harness := (true, "025391eee2d7183b758b4229fa902291d40b3b733ae7f3259625f7ccbc4da8dc"), looks := false }, kinds := [], alts := [], laidByText := true, laidKinds := [.data, .listed, .data, .widerDeep, .pinned, .pinned], laidTests := true, laidLooks := .later }
def UtteranceCanonicalCardSaid : Prop := Claim7.holds Tryz.pinned (.plain (OpenSpec.ofChange utteranceCanonicalSpec)) utteranceCanonicalCard

/-- THE TIED CARD OF 'narratorlaw41.UtteranceConcatenation'. -/
def utteranceConcatenationCard : Claim7 := { stood := { row := utteranceConcatenationRow, standIns := [], harness := (true, "025391eee2d7183b758b4229fa902291d40b3b733ae7f3259625f7ccbc4da8dc"), looks := false }, kinds := [], alts := [], laidByText := true, laidKinds := [.data, .listed, .data, .widerDeep, .pinned, .pinned], laidTests := true, laidLooks := .later }
def UtteranceConcatenationCardSaid : Prop := Claim7.holds Tryz.pinned (.plain (OpenSpec.ofChange utteranceConcatenationSpec)) utteranceConcatenationCard

/-- THE TIED CARD OF 'narratorlaw41.UtteranceEnding'. -/
def utteranceEndingCard : Claim7 := { stood := { row := utteranceEndingRow, standIns := [], harness := (true, "025391eee2d7183b758b4229fa902291d40b3b733ae7f3259625f7ccbc4da8dc"), looks := false }, kinds := [], alts := [], laidByText := true, laidKinds := [.data, .listed, .data, .widerDeep, .pinned, .pinned], laidTests := true, laidLooks := .later }
def UtteranceEndingCardSaid : Prop := Claim7.holds Tryz.pinned (.plain (OpenSpec.ofChange utteranceEndingSpec)) utteranceEndingCard

/-- THE TIED CARD OF 'narratorlaw41.UtteranceInjective'. -/
def utteranceInjectiveCard : Claim7 := { stood := { row := utteranceInjectiveRow, standIns := [], harness := (true, "025391eee2d7183b758b4229fa902291d40b3b733ae7f3259625f7ccbc4da8dc"), looks := false }, kinds := [], alts := [], laidByText := true, laidKinds := [.data, .listed, .data, .widerDeep, .pinned, .pinned], laidTests := true, laidLooks := .later }
def UtteranceInjectiveCardSaid : Prop := Claim7.holds Tryz.pinned (.plain (OpenSpec.ofChange utteranceInjectiveSpec)) utteranceInjectiveCard

/-- THE TIED CARD OF 'narratorlaw41.UtteranceLetters'. -/
def utteranceLettersCard : Claim7 := { stood := { row := utteranceLettersRow, standIns := [], harness := (true, "025391eee2d7183b758b4229fa902291d40b3b733ae7f3259625f7ccbc4da8dc"), looks := false }, kinds := [], alts := [], laidByText := true, laidKinds := [.data, .listed, .data, .widerDeep, .pinned, .pinned], laidTests := true, laidLooks := .later }
def UtteranceLettersCardSaid : Prop := Claim7.holds Tryz.pinned (.plain (OpenSpec.ofChange utteranceLettersSpec)) utteranceLettersCard

/-- THE SECOND FORM's CARD OF 'narratorlaw41.UtteranceWords'. -/
def utteranceWordsUptoCard : Claim7 := { stood := { row := utteranceWordsUptoRow, standIns := [], harness := (true, "025391eee2d7183b758b4229fa902291d40b3b733ae7f3259625f7ccbc4da8dc"), looks := false }, kinds := [], alts := [], laidByText := true, laidKinds := [.data, .data, .data, .listed, .data, .widerDeep, .pinned, .pinned], laidTests := true, laidLooks := .later }
def UtteranceWordsUptoCardSaid : Prop := Claim7.holds Tryz.pinned (.plain (OpenSpec.upto utteranceWordsSpec)) utteranceWordsUptoCard

/-- THE SECOND FORM's CARD OF 'narratorlaw41.UtteranceChanges'. -/
def utteranceChangesUptoCard : Claim7 := { stood := { row := utteranceChangesUptoRow, standIns := [], harness := (true, "025391eee2d7183b758b4229fa902291d40b3b733ae7f3259625f7ccbc4da8dc"), looks := false }, kinds := [], alts := [], laidByText := true, laidKinds := [.data, .data, .data, .listed, .data, .widerDeep, .pinned, .pinned], laidTests := true, laidLooks := .later }
def UtteranceChangesUptoCardSaid : Prop := Claim7.holds Tryz.pinned (.plain (OpenSpec.upto utteranceChangesSpec)) utteranceChangesUptoCard

/-- THE SECOND FORM's CARD OF 'narratorlaw41.UtteranceRoundTrip'. -/
def utteranceRoundTripUptoCard : Claim7 := { stood := { row := utteranceRoundTripUptoRow, standIns := [], harness := (true, "025391eee2d7183b758b4229fa902291d40b3b733ae7f3259625f7ccbc4da8dc"), looks := false }, kinds := [], alts := [], laidByText := true, laidKinds := [.data, .listed, .data, .widerDeep, .pinned, .pinned], laidTests := true, laidLooks := .later }
def UtteranceRoundTripUptoCardSaid : Prop := Claim7.holds Tryz.pinned (.plain (OpenSpec.upto utteranceRoundTripSpec)) utteranceRoundTripUptoCard

/-- THE SECOND FORM's CARD OF 'narratorlaw41.UtteranceCanonical'. -/
def utteranceCanonicalUptoCard : Claim7 := { stood := { row := utteranceCanonicalUptoRow, standIns := [], harness := (true, "025391eee2d7183b758b4229fa902291d40b3b733ae7f3259625f7ccbc4da8dc"), looks := false }, kinds := [], alts := [], laidByText := true, laidKinds := [.data, .listed, .data, .widerDeep, .pinned, .pinned], laidTests := true, laidLooks := .later }
def UtteranceCanonicalUptoCardSaid : Prop := Claim7.holds Tryz.pinned (.plain (OpenSpec.upto utteranceCanonicalSpec)) utteranceCanonicalUptoCard

/-- THE SECOND FORM's CARD OF 'narratorlaw41.UtteranceConcatenation'. -/
def utteranceConcatenationUptoCard : Claim7 := { stood := { row := utteranceConcatenationUptoRow, standIns := [], harness := (true, "025391eee2d7183b758b4229fa902291d40b3b733ae7f3259625f7ccbc4da8dc"), looks := false }, kinds := [], alts := [], laidByText := true, laidKinds := [.data, .listed, .data, .widerDeep, .pinned, .pinned], laidTests := true, laidLooks := .later }
def UtteranceConcatenationUptoCardSaid : Prop := Claim7.holds Tryz.pinned (.plain (OpenSpec.upto utteranceConcatenationSpec)) utteranceConcatenationUptoCard

/-- THE SECOND FORM's CARD OF 'narratorlaw41.UtteranceEnding'. -/
def utteranceEndingUptoCard : Claim7 := { stood := { row := utteranceEndingUptoRow, standIns := [], harness := (true, "025391eee2d7183b758b4229fa902291d40b3b733ae7f3259625f7ccbc4da8dc"), looks := false }, kinds := [], alts := [], laidByText := true, laidKinds := [.data, .listed, .data, .widerDeep, .pinned, .pinned], laidTests := true, laidLooks := .later }
def UtteranceEndingUptoCardSaid : Prop := Claim7.holds Tryz.pinned (.plain (OpenSpec.upto utteranceEndingSpec)) utteranceEndingUptoCard

/-- THE SECOND FORM's CARD OF 'narratorlaw41.UtteranceInjective'. -/
def utteranceInjectiveUptoCard : Claim7 := { stood := { row := utteranceInjectiveUptoRow, standIns := [], harness := (true, "025391eee2d7183b758b4229fa902291d40b3b733ae7f3259625f7ccbc4da8dc"), looks := false }, kinds := [], alts := [], laidByText := true, laidKinds := [.data, .listed, .data, .widerDeep, .pinned, .pinned], laidTests := true, laidLooks := .later }
def UtteranceInjectiveUptoCardSaid : Prop := Claim7.holds Tryz.pinned (.plain (OpenSpec.upto utteranceInjectiveSpec)) utteranceInjectiveUptoCard

/-- THE SECOND FORM's CARD OF 'narratorlaw41.UtteranceLetters'. -/
def utteranceLettersUptoCard : Claim7 := { stood := { row := utteranceLettersUptoRow, standIns := [], harness := (true, "025391eee2d7183b758b4229fa902291d40b3b733ae7f3259625f7ccbc4da8dc"), looks := false }, kinds := [], alts := [], laidByText := true, laidKinds := [.data, .listed, .data, .widerDeep, .pinned, .pinned], laidTests := true, laidLooks := .later }
def UtteranceLettersUptoCardSaid : Prop := Claim7.holds Tryz.pinned (.plain (OpenSpec.upto utteranceLettersSpec)) utteranceLettersUptoCard
end Rows
end Go.Proofs.YtejjfiipghcifaaGreatDoor
