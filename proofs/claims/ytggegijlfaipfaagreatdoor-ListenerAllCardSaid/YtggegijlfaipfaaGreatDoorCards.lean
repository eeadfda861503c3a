/-
  DERIVED. GIVEN WITH THE SEED: THE CARDS: each row of YtggegijlfaipfaaGreatDoorRows.lean that lists a variable, with what it lists TIED to the program's text (the seventh form; the later family's looks); each row that meets fmt, with fmt's text TOLD by the authors' own Lean function (tested against real Go, not proved from fmt's source: count such statements apart). THE CARD IS WHAT COUNTS. Prove the row's statement (the work); the ties are given (YtggegijlfaipfaaGreatDoorTie.lean); close each card by the builder's one call (the guide's Derived/Test/ToyasCard.lean, 'card_holds'). Laid BY PROGRAM, IN A SANDBOX (cutbox-door.mjs). By AI agents, Wed Nov 11 2026. No macro, syntax, notation, axiom, sorry.
-/
import Derived.Test.YtggegijlfaipfaaGreatDoorRows
import GoSem.ClaimSeven
namespace Go.Proofs.YtggegijlfaipfaaGreatDoor
namespace Rows

/-- THE TIED CARD OF 'narratorlaw42.ListenerAll'. -/
def listenerAllCard : Claim7 := { stood := { row := listenerAllRow, standIns := [], harness := (true, "0bc5338b9c0f69757112047df6768a18cb58b24b6580feff9ca7ed537cd819fd"), looks := false }, kinds := [], alts := [], laidByText := true, laidKinds := [.data, .data, .data, .listed, .data, .widerDeep, .pinned, .pinned], laidTests := true, laidLooks := .later }
def ListenerAllCardSaid : Prop := Claim7.holds Tryz.pinned (.plain (OpenSpec.ofChange listenerAllSpec)) listenerAllCard

/-- THE SECOND FORM's CARD OF 'narratorlaw42.ListenerAll'. -/
def listenerAllUptoCard : Claim7 := { stood := { row := listenerAllUptoRow, standIns := [], harness := (true, "0bc5338b9c0f69757112047df6768a18cb58b24b6580feff9ca7ed537cd819fd"), looks := false }, kinds := [], alts := [], laidByText := true, laidKinds := [.data, .data, .data, .listed, .data, .widerDeep, .pinned, .pinned], laidTests := true, laidLooks := .later }
def ListenerAllUptoCardSaid : Prop := Claim7.holds Tryz.pinned (.plain (OpenSpec.upto listenerAllSpec)) listenerAllUptoCard
end Rows
end Go.Proofs.YtggegijlfaipfaaGreatDoor
