/-
  DERIVED. GIVEN WITH THE SEED: THE CARDS: each row of YticbpkghcglgkaaGreatDoorRows.lean that lists a variable, with what it lists TIED to the program's text (the seventh form; the later family's looks); each row that meets fmt, with fmt's text TOLD by the authors' own Lean function (tested against real Go, not proved from fmt's source: count such statements apart). THE CARD IS WHAT COUNTS. Prove the row's statement (the work); the ties are given (YticbpkghcglgkaaGreatDoorTie.lean); close each card by the builder's one call (the guide's Derived/Test/ToyasCard.lean, 'card_holds'). Laid BY PROGRAM, IN A SANDBOX (cutbox-door.mjs). By AI agents, Wed Nov 11 2026. No macro, syntax, notation, axiom, sorry.
-/
import Derived.Test.YticbpkghcglgkaaGreatDoorRows
import GoSem.ClaimSeven
namespace Go.Proofs.YticbpkghcglgkaaGreatDoor
namespace Rows

/-- THE TIED CARD OF 'narratorlaw42.ListenerHear'. -/
def listenerHearCard : Claim7 := { stood := { row := listenerHearRow, standIns := [], harness := (true, "71ae46e8b76b6cb3d16322b5272fbc27d67eb484e75cb72ce834218d1801ea80"), looks := false }, kinds := [], alts := [], laidByText := true, laidKinds := [.data, .data, .data, .listed, .data, .widerDeep, .pinned, .pinned], laidTests := true, laidLooks := .later }
def ListenerHearCardSaid : Prop := Claim7.holds Tryz.pinned (.plain (OpenSpec.ofChange listenerHearSpec)) listenerHearCard

/-- THE TIED CARD OF 'narratorlaw42.ListenerExact'. -/
def listenerExactCard : Claim7 := { stood := { row := listenerExactRow, standIns := [], harness := (true, "71ae46e8b76b6cb3d16322b5272fbc27d67eb484e75cb72ce834218d1801ea80"), looks := false }, kinds := [], alts := [], laidByText := true, laidKinds := [.data, .data, .data, .listed, .data, .widerDeep, .pinned, .pinned], laidTests := true, laidLooks := .later }
def ListenerExactCardSaid : Prop := Claim7.holds Tryz.pinned (.plain (OpenSpec.ofChange listenerExactSpec)) listenerExactCard

/-- THE TIED CARD OF 'narratorlaw42.ListenerSettings'. -/
def listenerSettingsCard : Claim7 := { stood := { row := listenerSettingsRow, standIns := [], harness := (true, "71ae46e8b76b6cb3d16322b5272fbc27d67eb484e75cb72ce834218d1801ea80"), looks := false }, kinds := [], alts := [], laidByText := true, laidKinds := [.data, .data, .data, .listed, .data, .widerDeep, .pinned, .pinned], laidTests := true, laidLooks := .later }
def ListenerSettingsCardSaid : Prop := Claim7.holds Tryz.pinned (.plain (OpenSpec.ofChange listenerSettingsSpec)) listenerSettingsCard

/-- THE TIED CARD OF 'narratorlaw42.ListenerComposes'. -/
def listenerComposesCard : Claim7 := { stood := { row := listenerComposesRow, standIns := [], harness := (true, "71ae46e8b76b6cb3d16322b5272fbc27d67eb484e75cb72ce834218d1801ea80"), looks := false }, kinds := [], alts := [], laidByText := true, laidKinds := [.data, .data, .data, .listed, .data, .widerDeep, .pinned, .pinned], laidTests := true, laidLooks := .later }
def ListenerComposesCardSaid : Prop := Claim7.holds Tryz.pinned (.plain (OpenSpec.ofChange listenerComposesSpec)) listenerComposesCard

/-- THE TIED CARD OF 'narratorlaw42.ListenerAll'. -/
def listenerAllCard : Claim7 := { stood := { row := listenerAllRow, standIns := [], harness := (true, "71ae46e8b76b6cb3d16322b5272fbc27d67eb484e75cb72ce834218d1801ea80"), looks := false }, kinds := [], alts := [], laidByText := true, laidKinds := [.data, .data, .data, .listed, .data, .widerDeep, .pinned, .pinned], laidTests := true, laidLooks := .later }
def ListenerAllCardSaid : Prop := Claim7.holds Tryz.pinned (.plain (OpenSpec.ofChange listenerAllSpec)) listenerAllCard

/-- THE SECOND FORM's CARD OF 'narratorlaw42.ListenerHear'. -/
def listenerHearUptoCard : Claim7 := { stood := { row := listenerHearUptoRow, standIns := [], harness := (true, "71ae46e8b76b6cb3d16322b5272fbc27d67eb484e75cb72ce834218d1801ea80"), looks := false }, kinds := [], alts := [], laidByText := true, laidKinds := [.data, .data, .data, .listed, .data, .widerDeep, .pinned, .pinned], laidTests := true, laidLooks := .later }
def ListenerHearUptoCardSaid : Prop := Claim7.holds Tryz.pinned (.plain (OpenSpec.upto listenerHearSpec)) listenerHearUptoCard

/-- THE SECOND FORM's CARD OF 'narratorlaw42.ListenerExact'. -/
def listenerExactUptoCard : Claim7 := { stood := { row := listenerExactUptoRow, standIns := [], harness := (true, "71ae46e8b76b6cb3d16322b5272fbc27d67eb484e75cb72ce834218d1801ea80"), looks := false }, kinds := [], alts := [], laidByText := true, laidKinds := [.data, .data, .data, .listed, .data, .widerDeep, .pinned, .pinned], laidTests := true, laidLooks := .later }
def ListenerExactUptoCardSaid : Prop := Claim7.holds Tryz.pinned (.plain (OpenSpec.upto listenerExactSpec)) listenerExactUptoCard

/-- THE SECOND FORM's CARD OF 'narratorlaw42.ListenerSettings'. -/
def listenerSettingsUptoCard : Claim7 := { stood := { row := listenerSettingsUptoRow, standIns := [], harness := (true, "71ae46e8b76b6cb3d16322b5272fbc27d67eb484e75cb72ce834218d1801ea80"), looks := false }, kinds := [], alts := [], laidByText := true, laidKinds := [.data, .data, .data, .listed, .data, .widerDeep, .pinned, .pinned], laidTests := true, laidLooks := .later }
def ListenerSettingsUptoCardSaid : Prop := Claim7.holds Tryz.pinned (.plain (OpenSpec.upto listenerSettingsSpec)) listenerSettingsUptoCard

/-- THE SECOND FORM's CARD OF 'narratorlaw42.ListenerComposes'. -/
def listenerComposesUptoCard : Claim7 := { stood := { row := listenerComposesUptoRow, standIns := [], harness := (true, "71ae46e8b76b6cb3d16322b5272fbc27d67eb484e75cb72ce834218d1801ea80"), looks := false }, kinds := [], alts := [], laidByText := true, laidKinds := [.data, .data, .data, .listed, .data, .widerDeep, .pinned, .pinned], laidTests := true, laidLooks := .later }
def ListenerComposesUptoCardSaid : Prop := Claim7.holds Tryz.pinned (.plain (OpenSpec.upto listenerComposesSpec)) listenerComposesUptoCard

/-- THE SECOND FORM's CARD OF 'narratorlaw42.ListenerAll'. -/
def listenerAllUptoCard : Claim7 := { stood := { row := listenerAllUptoRow, standIns := [], harness := (true, "71ae46e8b76b6cb3d16322b5272fbc27d67eb484e75cb72ce834218d1801ea80"), looks := false }, kinds := [], alts := [], laidByText := true, laidKinds := [.data, .data, .data, .listed, .data, .widerDeep, .pinned, .pinned], laidTests := true, laidLooks := .later }
def ListenerAllUptoCardSaid : Prop := Claim7.holds Tryz.pinned (.plain (OpenSpec.upto listenerAllSpec)) listenerAllUptoCard
end Rows
end Go.Proofs.YticbpkghcglgkaaGreatDoor
