/-
  DERIVED. GIVEN WITH THE SEED: THE CARDS: each row of YtholajadbbdcmaaGreatDoorRows.lean that lists a variable, with what it lists TIED to the program's text (the seventh form; the later family's looks); each row that meets fmt, with fmt's text TOLD by the authors' own Lean function (tested against real Go, not proved from fmt's source: count such statements apart). THE CARD IS WHAT COUNTS. Prove the row's statement (the work); the ties are given (YtholajadbbdcmaaGreatDoorTie.lean); close each card by the builder's one call (the guide's Derived/Test/ToyasCard.lean, 'card_holds'). Laid BY PROGRAM, IN A SANDBOX (cutbox-door.mjs). By AI agents, Wed Nov 11 2026. No macro, syntax, notation, axiom, sorry.
-/
import Derived.Test.YtholajadbbdcmaaGreatDoorRows
import GoSem.ClaimSeven
namespace Go.Proofs.YtholajadbbdcmaaGreatDoor
namespace Rows

/-- THE TIED CARD OF 'narratorlaw42.ListenerHear'. -/
def listenerHearCard : Claim7 := { stood := { row := listenerHearRow, standIns := [], harness := (true, "c56806a468ec20bf900b7e54ab6c48111f432d8bb1cacf1822694bcd0ba17aa9"), looks := false }, kinds := [], alts := [], laidByText := true, laidKinds := [.data, .data, .data, .listed, .data, .widerDeep, .pinned, .pinned], laidTests := true, laidLooks := .later }
def ListenerHearCardSaid : Prop := Claim7.holds Tryz.pinned (.plain (OpenSpec.ofChange listenerHearSpec)) listenerHearCard

/-- THE TIED CARD OF 'narratorlaw42.ListenerExact'. -/
def listenerExactCard : Claim7 := { stood := { row := listenerExactRow, standIns := [], harness := (true, "c56806a468ec20bf900b7e54ab6c48111f432d8bb1cacf1822694bcd0ba17aa9"), looks := false }, kinds := [], alts := [], laidByText := true, laidKinds := [.data, .data, .data, .listed, .data, .widerDeep, .pinned, .pinned], laidTests := true, laidLooks := .later }
def ListenerExactCardSaid : Prop := Claim7.holds Tryz.pinned (.plain (OpenSpec.ofChange listenerExactSpec)) listenerExactCard

/-- THE TIED CARD OF 'narratorlaw42.ListenerSettings'. -/
def listenerSettingsCard : Claim7 := { stood := { row := listenerSettingsRow, standIns := [], harness := (true, "c56806a468ec20bf900b7e54ab6c48111f432d8bb1cacf1822694bcd0ba17aa9"), looks := false }, kinds := [], alts := [], laidByText := true, laidKinds := [.data, .data, .data, .listed, .data, .widerDeep, .pinned, .pinned], laidTests := true, laidLooks := .later }
def ListenerSettingsCardSaid : Prop := Claim7.holds Tryz.pinned (.plain (OpenSpec.ofChange listenerSettingsSpec)) listenerSettingsCard

/-- THE TIED CARD OF 'narratorlaw42.ListenerComposes'. -/
def listenerComposesCard : Claim7 := { stood := { row := listenerComposesRow, standIns := [], harness := (true, "c56806a468ec20bf900b7e54ab6c48111f432d8bb1cacf1822694bcd0ba17aa9"), looks := false }, kinds := [], alts := [], laidByText := true, laidKinds := [.data, .data, .data, .listed, .data, .widerDeep, .pinned, .pinned], laidTests := true, laidLooks := .later }
def ListenerComposesCardSaid : Prop := Claim7.holds Tryz.pinned (.plain (OpenSpec.ofChange listenerComposesSpec)) listenerComposesCard

/-- THE TIED CARD OF 'narratorlaw42.ListenerProper'. -/
def listenerProperCard : Claim7 := { stood := { row := listenerProperRow, standIns := [], harness := (true, "c56806a468ec20bf900b7e54ab6c48111f432d8bb1cacf1822694bcd0ba17aa9"), looks := false }, kinds := [], alts := [], laidByText := true, laidKinds := [.data, .listed, .data, .widerDeep, .pinned, .pinned], laidTests := true, laidLooks := .later }
def ListenerProperCardSaid : Prop := Claim7.holds Tryz.pinned (.plain (OpenSpec.ofChange listenerProperSpec)) listenerProperCard

/-- THE TIED CARD OF 'narratorlaw42.ListenerSilence'. -/
def listenerSilenceCard : Claim7 := { stood := { row := listenerSilenceRow, standIns := [], harness := (true, "c56806a468ec20bf900b7e54ab6c48111f432d8bb1cacf1822694bcd0ba17aa9"), looks := false }, kinds := [], alts := [], laidByText := true, laidKinds := [.data, .data, .data, .listed, .data, .widerDeep, .pinned, .pinned], laidTests := true, laidLooks := .later }
def ListenerSilenceCardSaid : Prop := Claim7.holds Tryz.pinned (.plain (OpenSpec.ofChange listenerSilenceSpec)) listenerSilenceCard

/-- THE TIED CARD OF 'narratorlaw42.ListenerAll'. -/
def listenerAllCard : Claim7 := { stood := { row := listenerAllRow, standIns := [], harness := (true, "c56806a468ec20bf900b7e54ab6c48111f432d8bb1cacf1822694bcd0ba17aa9"), looks := false }, kinds := [], alts := [], laidByText := true, laidKinds := [.data, .data, .data, .listed, .data, .widerDeep, .pinned, .pinned], laidTests := true, laidLooks := .later }
def ListenerAllCardSaid : Prop := Claim7.holds Tryz.pinned (.plain (OpenSpec.ofChange listenerAllSpec)) listenerAllCard

/-- THE TIED CARD OF 'narratorlaw42.ListenerIgnores'. -/
def listenerIgnoresCard : Claim7 := { stood := { row := listenerIgnoresRow, standIns := [], harness := (true, "c56806a468ec20bf900b7e54ab6c48111f432d8bb1cacf1822694bcd0ba17aa9"), looks := false }, kinds := [], alts := [], laidByText := true, laidKinds := [.data, .listed, .data, .widerDeep, .pinned, .pinned], laidTests := true, laidLooks := .later }
def ListenerIgnoresCardSaid : Prop := Claim7.holds Tryz.pinned (.plain (OpenSpec.ofChange listenerIgnoresSpec)) listenerIgnoresCard

/-- THE SECOND FORM's CARD OF 'narratorlaw42.ListenerHear'. -/
def listenerHearUptoCard : Claim7 := { stood := { row := listenerHearUptoRow, standIns := [], harness := (true, "c56806a468ec20bf900b7e54ab6c48111f432d8bb1cacf1822694bcd0ba17aa9"), looks := false }, kinds := [], alts := [], laidByText := true, laidKinds := [.data, .data, .data, .listed, .data, .widerDeep, .pinned, .pinned], laidTests := true, laidLooks := .later }
def ListenerHearUptoCardSaid : Prop := Claim7.holds Tryz.pinned (.plain (OpenSpec.upto listenerHearSpec)) listenerHearUptoCard

/-- THE SECOND FORM's CARD OF 'narratorlaw42.ListenerExact'. -/
def listenerExactUptoCard : Claim7 := { stood := { row := listenerExactUptoRow, standIns := [], harness := (true, "c56806a468ec20bf900b7e54ab6c48111f432d8bb1cacf1822694bcd0ba17aa9"), looks := false }, kinds := [], alts := [], laidByText := true, laidKinds := [.data, .data, .data, .listed, .data, .widerDeep, .pinned, .pinned], laidTests := true, laidLooks := .later }
def ListenerExactUptoCardSaid : Prop := Claim7.holds Tryz.pinned (.plain (OpenSpec.upto listenerExactSpec)) listenerExactUptoCard

/-- THE SECOND FORM's CARD OF 'narratorlaw42.ListenerSettings'. -/
def listenerSettingsUptoCard : Claim7 := { stood := { row := listenerSettingsUptoRow, standIns := [], harness := (true, "c56806a468ec20bf900b7e54ab6c48111f432d8bb1cacf1822694bcd0ba17aa9"), looks := false }, kinds := [], alts := [], laidByText := true, laidKinds := [.data, .data, .data, .listed, .data, .widerDeep, .pinned, .pinned], laidTests := true, laidLooks := .later }
def ListenerSettingsUptoCardSaid : Prop := Claim7.holds Tryz.pinned (.plain (OpenSpec.upto listenerSettingsSpec)) listenerSettingsUptoCard

/-- THE SECOND FORM's CARD OF 'narratorlaw42.ListenerComposes'. -/
def listenerComposesUptoCard : Claim7 := { stood := { row := listenerComposesUptoRow, standIns := [], harness := (true, "c56806a468ec20bf900b7e54ab6c48111f432d8bb1cacf1822694bcd0ba17aa9"), looks := false }, kinds := [], alts := [], laidByText := true, laidKinds := [.data, .data, .data, .listed, .data, .widerDeep, .pinned, .pinned], laidTests := true, laidLooks := .later }
def ListenerComposesUptoCardSaid : Prop := Claim7.holds Tryz.pinned (.plain (OpenSpec.upto listenerComposesSpec)) listenerComposesUptoCard

/-- THE SECOND FORM's CARD OF 'narratorlaw42.ListenerProper'. -/
def listenerProperUptoCard : Claim7 := { stood := { row := listenerProperUptoRow, standIns := [], harness := (true, "c56806a468ec20bf900b7e54ab6c48111f432d8bb1cacf1822694bcd0ba17aa9"), looks := false }, kinds := [], alts := [], laidByText := true, laidKinds := [.data, .listed, .data, .widerDeep, .pinned, .pinned], laidTests := true, laidLooks := .later }
def ListenerProperUptoCardSaid : Prop := Claim7.holds Tryz.pinned (.plain (OpenSpec.upto listenerProperSpec)) listenerProperUptoCard

/-- THE SECOND FORM's CARD OF 'narratorlaw42.ListenerSilence'. -/
def listenerSilenceUptoCard : Claim7 := { stood := { row := listenerSilenceUptoRow, standIns := [], harness := (true, "c56806a468ec20bf900b7e54ab6c48111f432d8bb1cacf1822694bcd0ba17aa9"), looks := false }, kinds := [], alts := [], laidByText := true, laidKinds := [.data, .data, .data, .listed, .data, .widerDeep, .pinned, .pinned], laidTests := true, laidLooks := .later }
def ListenerSilenceUptoCardSaid : Prop := Claim7.holds Tryz.pinned (.plain (OpenSpec.upto listenerSilenceSpec)) listenerSilenceUptoCard

/-- THE SECOND FORM's CARD OF 'narratorlaw42.ListenerAll'. -/
def listenerAllUptoCard : Claim7 := { stood := { row := listenerAllUptoRow, standIns := [], harness := (true, "c56806a468ec20bf900b7e54ab6c48111f432d8bb1cacf1822694bcd0ba17aa9"), looks := false }, kinds := [], alts := [], laidByText := true, laidKinds := [.data, .data, .data, .listed, .data, .widerDeep, .pinned, .pinned], laidTests := true, laidLooks := .later }
def ListenerAllUptoCardSaid : Prop := Claim7.holds Tryz.pinned (.plain (OpenSpec.upto listenerAllSpec)) listenerAllUptoCard

/-- THE SECOND FORM's CARD OF 'narratorlaw42.ListenerIgnores'. -/
def listenerIgnoresUptoCard : Claim7 := { stood := { row := listenerIgnoresUptoRow, standIns := [], harness := (true, "c56806a468ec20bf900b7e54ab6c48111f432d8bb1cacf1822694bcd0ba17aa9"), looks := false }, kinds := [], alts := [], laidByText := true, laidKinds := [.data, .listed, .data, .widerDeep, .pinned, .pinned], laidTests := true, laidLooks := .later }
def ListenerIgnoresUptoCardSaid : Prop := Claim7.holds Tryz.pinned (.plain (OpenSpec.upto listenerIgnoresSpec)) listenerIgnoresUptoCard
end Rows
end Go.Proofs.YtholajadbbdcmaaGreatDoor
