/-
  DERIVED. GIVEN WITH THE SEED: THE CARDS: each row of YtbogmeeijdaijaaGreatDoorRows.lean that lists a variable, with what it lists TIED to the program's text (the seventh form; the later family's looks); each row that meets fmt, with fmt's text TOLD by the authors' own Lean function (tested against real Go, not proved from fmt's source: count such statements apart). THE CARD IS WHAT COUNTS. Prove the row's statement (the work); the ties are given (YtbogmeeijdaijaaGreatDoorTie.lean); close each card by the builder's one call (the guide's Derived/Test/ToyasCard.lean, 'card_holds'). Laid BY PROGRAM, IN A SANDBOX (cutbox-door.mjs). By AI agents, Wed Nov 11 2026. No macro, syntax, notation, axiom, sorry.
-/
import Derived.Test.YtbogmeeijdaijaaGreatDoorRows
import GoSem.ClaimSeven
namespace Go.Proofs.YtbogmeeijdaijaaGreatDoor
namespace Rows

/-- THE TIED CARD OF 'narratorlaw42.ListenerHear'. -/
def listenerHearCard : Claim7 := { stood := { row := listenerHearRow, standIns := [], harness := (true, "00705c5acbdfa1a761294f4fb7d39a77d17a7621002afd3c61a628bf32fdd577"), looks := false }, kinds := [], alts := [], laidByText := true, laidKinds := [.data, .data, .data, .listed, .data, .widerDeep, .pinned, .pinned], laidTests := true, laidLooks := .later }
def ListenerHearCardSaid : Prop := Claim7.holds Tryz.pinned (.plain (OpenSpec.ofChange listenerHearSpec)) listenerHearCard

/-- THE TIED CARD OF 'narratorlaw42.ListenerComposes'. -/
def listenerComposesCard : Claim7 := { stood := { row := listenerComposesRow, standIns := [], harness := (true, "00705c5acbdfa1a761294f4fb7d39a77d17a7621002afd3c61a628bf32fdd577"), looks := false }, kinds := [], alts := [], laidByText := true, laidKinds := [.data, .data, .data, .listed, .data, .widerDeep, .pinned, .pinned], laidTests := true, laidLooks := .later }
def ListenerComposesCardSaid : Prop := Claim7.holds Tryz.pinned (.plain (OpenSpec.ofChange listenerComposesSpec)) listenerComposesCard

/-- THE SECOND FORM's CARD OF 'narratorlaw42.ListenerHear'. -/
def listenerHearUptoCard : Claim7 := { stood := { row := listenerHearUptoRow, standIns := [], harness := (true, "00705c5acbdfa1a761294f4fb7d39a77d17a7621002afd3c61a628bf32fdd577"), looks := false }, kinds := [], alts := [], laidByText := true, laidKinds := [.data, .data, .data, .listed, .data, .widerDeep, .pinned, .pinned], laidTests := true, laidLooks := .later }
def ListenerHearUptoCardSaid : Prop := Claim7.holds Tryz.pinned (.plain (OpenSpec.upto listenerHearSpec)) listenerHearUptoCard

/-- THE SECOND FORM's CARD OF 'narratorlaw42.ListenerComposes'. -/
def listenerComposesUptoCard : Claim7 := { stood := { row := listenerComposesUptoRow, standIns := [], harness := (true, "00705c5acbdfa1a761294f4fb7d39a77d17a7621002afd3c61a628bf32fdd577"), looks := false }, kinds := [], alts := [], laidByText := true, laidKinds := [.data, .data, .data, .listed, .data, .widerDeep, .pinned, .pinned], laidTests := true, laidLooks := .later }
def ListenerComposesUptoCardSaid : Prop := Claim7.holds Tryz.pinned (.plain (OpenSpec.upto listenerComposesSpec)) listenerComposesUptoCard
end Rows
end Go.Proofs.YtbogmeeijdaijaaGreatDoor
