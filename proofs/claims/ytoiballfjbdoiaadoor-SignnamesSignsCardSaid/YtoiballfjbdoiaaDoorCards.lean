/-
  DERIVED. GIVEN WITH THE SEED: THE CARDS: each row of YtoiballfjbdoiaaDoorRows.lean that lists a variable, with what it lists TIED to the program's text (the seventh form; the later family's looks); each row that meets fmt, with fmt's text TOLD by the authors' own Lean function (tested against real Go, not proved from fmt's source: count such statements apart). THE CARD IS WHAT COUNTS. Prove the row's statement (the work); the ties are given (YtoiballfjbdoiaaDoorTie.lean); close each card by the builder's one call (the guide's Derived/Test/ToyasCard.lean, 'card_holds'). Laid BY PROGRAM, IN A SANDBOX (cutbox-door.mjs). By AI agents, Wed Nov 11 2026. No macro, syntax, notation, axiom, sorry.
-/
import Derived.Test.YtoiballfjbdoiaaDoorRows
import GoSem.ClaimSeven
namespace Go.Proofs.YtoiballfjbdoiaaDoor
namespace Rows

/-- THE TIED CARD OF 'narratorlaw39.SignnamesSpell'. -/
def signnamesSpellCard : Claim7 := { stood := { row := signnamesSpellRow, standIns := [], harness := (true, "38ea5e5563f79c1889dbf20c0d6e1d549e6970c8c9923c79a031cde87fdad51e"), looks := false }, kinds := [], alts := [], laidByText := true, laidKinds := [.data, .data, .listed, .data], laidTests := true, laidLooks := .later }
def SignnamesSpellCardSaid : Prop := Claim7.holds Tryd.pinned (.plain (OpenSpec.ofChange signnamesSpellSpec)) signnamesSpellCard

/-- THE TIED CARD OF 'narratorlaw39.SignnamesUnspell'. -/
def signnamesUnspellCard : Claim7 := { stood := { row := signnamesUnspellRow, standIns := [], harness := (true, "38ea5e5563f79c1889dbf20c0d6e1d549e6970c8c9923c79a031cde87fdad51e"), looks := false }, kinds := [], alts := [], laidByText := true, laidKinds := [.data, .data, .listed, .data], laidTests := true, laidLooks := .later }
def SignnamesUnspellCardSaid : Prop := Claim7.holds Tryd.pinned (.plain (OpenSpec.ofChange signnamesUnspellSpec)) signnamesUnspellCard

/-- THE TIED CARD OF 'narratorlaw39.SignnamesRoundTrip'. -/
def signnamesRoundTripCard : Claim7 := { stood := { row := signnamesRoundTripRow, standIns := [], harness := (true, "38ea5e5563f79c1889dbf20c0d6e1d549e6970c8c9923c79a031cde87fdad51e"), looks := false }, kinds := [], alts := [], laidByText := true, laidKinds := [.listed, .data], laidTests := true, laidLooks := .later }
def SignnamesRoundTripCardSaid : Prop := Claim7.holds Tryd.pinned (.plain (OpenSpec.ofChange signnamesRoundTripSpec)) signnamesRoundTripCard

/-- THE TIED CARD OF 'narratorlaw39.SignnamesCanonical'. -/
def signnamesCanonicalCard : Claim7 := { stood := { row := signnamesCanonicalRow, standIns := [], harness := (true, "38ea5e5563f79c1889dbf20c0d6e1d549e6970c8c9923c79a031cde87fdad51e"), looks := false }, kinds := [], alts := [], laidByText := true, laidKinds := [.listed, .data], laidTests := true, laidLooks := .later }
def SignnamesCanonicalCardSaid : Prop := Claim7.holds Tryd.pinned (.plain (OpenSpec.ofChange signnamesCanonicalSpec)) signnamesCanonicalCard

/-- THE TIED CARD OF 'narratorlaw39.SignnamesSequence'. -/
def signnamesSequenceCard : Claim7 := { stood := { row := signnamesSequenceRow, standIns := [], harness := (true, "38ea5e5563f79c1889dbf20c0d6e1d549e6970c8c9923c79a031cde87fdad51e"), looks := false }, kinds := [], alts := [], laidByText := true, laidKinds := [.listed, .data], laidTests := true, laidLooks := .later }
def SignnamesSequenceCardSaid : Prop := Claim7.holds Tryd.pinned (.plain (OpenSpec.ofChange signnamesSequenceSpec)) signnamesSequenceCard

/-- THE TIED CARD OF 'narratorlaw39.SignnamesNames'. -/
def signnamesNamesCard : Claim7 := { stood := { row := signnamesNamesRow, standIns := [], harness := (true, "38ea5e5563f79c1889dbf20c0d6e1d549e6970c8c9923c79a031cde87fdad51e"), looks := false }, kinds := [], alts := [], laidByText := true, laidKinds := [.listed, .data], laidTests := true, laidLooks := .later }
def SignnamesNamesCardSaid : Prop := Claim7.holds Tryd.pinned (.plain (OpenSpec.ofChange signnamesNamesSpec)) signnamesNamesCard

/-- THE TIED CARD OF 'narratorlaw39.SignnamesDistinct'. -/
def signnamesDistinctCard : Claim7 := { stood := { row := signnamesDistinctRow, standIns := [], harness := (true, "38ea5e5563f79c1889dbf20c0d6e1d549e6970c8c9923c79a031cde87fdad51e"), looks := false }, kinds := [], alts := [], laidByText := true, laidKinds := [.listed, .data], laidTests := true, laidLooks := .later }
def SignnamesDistinctCardSaid : Prop := Claim7.holds Tryd.pinned (.plain (OpenSpec.ofChange signnamesDistinctSpec)) signnamesDistinctCard

/-- THE TIED CARD OF 'narratorlaw39.SignnamesSigns'. -/
def signnamesSignsCard : Claim7 := { stood := { row := signnamesSignsRow, standIns := [], harness := (true, "38ea5e5563f79c1889dbf20c0d6e1d549e6970c8c9923c79a031cde87fdad51e"), looks := false }, kinds := [], alts := [], laidByText := true, laidKinds := [.listed, .data], laidTests := true, laidLooks := .later }
def SignnamesSignsCardSaid : Prop := Claim7.holds Tryd.pinned (.plain (OpenSpec.ofChange signnamesSignsSpec)) signnamesSignsCard

/-- THE SECOND FORM's CARD OF 'narratorlaw39.SignnamesSpell'. -/
def signnamesSpellUptoCard : Claim7 := { stood := { row := signnamesSpellUptoRow, standIns := [], harness := (true, "38ea5e5563f79c1889dbf20c0d6e1d549e6970c8c9923c79a031cde87fdad51e"), looks := false }, kinds := [], alts := [], laidByText := true, laidKinds := [.data, .data, .listed, .data], laidTests := true, laidLooks := .later }
def SignnamesSpellUptoCardSaid : Prop := Claim7.holds Tryd.pinned (.plain (OpenSpec.upto signnamesSpellSpec)) signnamesSpellUptoCard

/-- THE SECOND FORM's CARD OF 'narratorlaw39.SignnamesUnspell'. -/
def signnamesUnspellUptoCard : Claim7 := { stood := { row := signnamesUnspellUptoRow, standIns := [], harness := (true, "38ea5e5563f79c1889dbf20c0d6e1d549e6970c8c9923c79a031cde87fdad51e"), looks := false }, kinds := [], alts := [], laidByText := true, laidKinds := [.data, .data, .listed, .data], laidTests := true, laidLooks := .later }
def SignnamesUnspellUptoCardSaid : Prop := Claim7.holds Tryd.pinned (.plain (OpenSpec.upto signnamesUnspellSpec)) signnamesUnspellUptoCard

/-- THE SECOND FORM's CARD OF 'narratorlaw39.SignnamesRoundTrip'. -/
def signnamesRoundTripUptoCard : Claim7 := { stood := { row := signnamesRoundTripUptoRow, standIns := [], harness := (true, "38ea5e5563f79c1889dbf20c0d6e1d549e6970c8c9923c79a031cde87fdad51e"), looks := false }, kinds := [], alts := [], laidByText := true, laidKinds := [.listed, .data], laidTests := true, laidLooks := .later }
def SignnamesRoundTripUptoCardSaid : Prop := Claim7.holds Tryd.pinned (.plain (OpenSpec.upto signnamesRoundTripSpec)) signnamesRoundTripUptoCard

/-- THE SECOND FORM's CARD OF 'narratorlaw39.SignnamesCanonical'. -/
def signnamesCanonicalUptoCard : Claim7 := { stood := { row := signnamesCanonicalUptoRow, standIns := [], harness := (true, "38ea5e5563f79c1889dbf20c0d6e1d549e6970c8c9923c79a031cde87fdad51e"), looks := false }, kinds := [], alts := [], laidByText := true, laidKinds := [.listed, .data], laidTests := true, laidLooks := .later }
def SignnamesCanonicalUptoCardSaid : Prop := Claim7.holds Tryd.pinned (.plain (OpenSpec.upto signnamesCanonicalSpec)) signnamesCanonicalUptoCard

/-- THE SECOND FORM's CARD OF 'narratorlaw39.SignnamesSequence'. -/
def signnamesSequenceUptoCard : Claim7 := { stood := { row := signnamesSequenceUptoRow, standIns := [], harness := (true, "38ea5e5563f79c1889dbf20c0d6e1d549e6970c8c9923c79a031cde87fdad51e"), looks := false }, kinds := [], alts := [], laidByText := true, laidKinds := [.listed, .data], laidTests := true, laidLooks := .later }
def SignnamesSequenceUptoCardSaid : Prop := Claim7.holds Tryd.pinned (.plain (OpenSpec.upto signnamesSequenceSpec)) signnamesSequenceUptoCard

/-- THE SECOND FORM's CARD OF 'narratorlaw39.SignnamesNames'. -/
def signnamesNamesUptoCard : Claim7 := { stood := { row := signnamesNamesUptoRow, standIns := [], harness := (true, "38ea5e5563f79c1889dbf20c0d6e1d549e6970c8c9923c79a031cde87fdad51e"), looks := false }, kinds := [], alts := [], laidByText := true, laidKinds := [.listed, .data], laidTests := true, laidLooks := .later }
def SignnamesNamesUptoCardSaid : Prop := Claim7.holds Tryd.pinned (.plain (OpenSpec.upto signnamesNamesSpec)) signnamesNamesUptoCard

/-- THE SECOND FORM's CARD OF 'narratorlaw39.SignnamesDistinct'. -/
def signnamesDistinctUptoCard : Claim7 := { stood := { row := signnamesDistinctUptoRow, standIns := [], harness := (true, "38ea5e5563f79c1889dbf20c0d6e1d549e6970c8c9923c79a031cde87fdad51e"), looks := false }, kinds := [], alts := [], laidByText := true, laidKinds := [.listed, .data], laidTests := true, laidLooks := .later }
def SignnamesDistinctUptoCardSaid : Prop := Claim7.holds Tryd.pinned (.plain (OpenSpec.upto signnamesDistinctSpec)) signnamesDistinctUptoCard

/-- THE SECOND FORM's CARD OF 'narratorlaw39.SignnamesSigns'. -/
def signnamesSignsUptoCard : Claim7 := { stood := { row := signnamesSignsUptoRow, standIns := [], harness := (true, "38ea5e5563f79c1889dbf20c0d6e1d549e6970c8c9923c79a031cde87fdad51e"), looks := false }, kinds := [], alts := [], laidByText := true, laidKinds := [.listed, .data], laidTests := true, laidLooks := .later }
def SignnamesSignsUptoCardSaid : Prop := Claim7.holds Tryd.pinned (.plain (OpenSpec.upto signnamesSignsSpec)) signnamesSignsUptoCard
end Rows
end Go.Proofs.YtoiballfjbdoiaaDoor
