/-
  DERIVED. GIVEN WITH THE SEED: THE CARDS: each row of YtlndbiamiioakaaGreatDoorRows.lean that lists a variable, with what it lists TIED to the program's text (the seventh form; the later family's looks); each row that meets fmt, with fmt's text TOLD by the authors' own Lean function (tested against real Go, not proved from fmt's source: count such statements apart). THE CARD IS WHAT COUNTS. Prove the row's statement (the work); the ties are given (YtlndbiamiioakaaGreatDoorTie.lean); close each card by the builder's one call (the guide's Derived/Test/ToyasCard.lean, 'card_holds'). Laid BY PROGRAM, IN A SANDBOX (cutbox-door.mjs). By AI agents, Wed Nov 11 2026. No macro, syntax, notation, axiom, sorry.
-/
import Derived.Test.YtlndbiamiioakaaGreatDoorRows
import GoSem.ClaimSeven
namespace Go.Proofs.YtlndbiamiioakaaGreatDoor
namespace Rows

/-- THE TIED CARD OF 'narratorlaw41.UtteranceChanges'. -/
def utteranceChangesCard : Claim7 := { stood := { row := utteranceChangesRow, standIns := [], harness := (true, "ccbf2c0df0dcf5f17d01a42a35b07614b97719fb3c3054d43f746409c4875a63"), looks := false }, kinds := [], alts := [], laidByText := true, laidKinds := [.data, .data, .data, .listed, .data, .widerDeep, .pinned, .pinned], laidTests := true, laidLooks := .later }
def UtteranceChangesCardSaid : Prop := Claim7.holds Tryz.pinned (.plain (OpenSpec.ofChange utteranceChangesSpec)) utteranceChangesCard

/-- THE SECOND FORM's CARD OF 'narratorlaw41.UtteranceChanges'. -/
def utteranceChangesUptoCard : Claim7 := { stood := { row := utteranceChangesUptoRow, standIns := [], harness := (true, "ccbf2c0df0dcf5f17d01a42a35b07614b97719fb3c3054d43f746409c4875a63"), looks := false }, kinds := [], alts := [], laidByText := true, laidKinds := [.data, .data, .data, .listed, .data, .widerDeep, .pinned, .pinned], laidTests := true, laidLooks := .later }
def UtteranceChangesUptoCardSaid : Prop := Claim7.holds Tryz.pinned (.plain (OpenSpec.upto utteranceChangesSpec)) utteranceChangesUptoCard
end Rows
end Go.Proofs.YtlndbiamiioakaaGreatDoor
