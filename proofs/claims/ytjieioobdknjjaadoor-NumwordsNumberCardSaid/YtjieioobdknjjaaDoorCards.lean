/-
  DERIVED. GIVEN WITH THE SEED: THE CARDS: each row of YtjieioobdknjjaaDoorRows.lean that lists a variable, with what it lists TIED to the program's text (the seventh form; the later family's looks); each row that meets fmt, with fmt's text TOLD by the authors' own Lean function (tested against real Go, not proved from fmt's source: count such statements apart). THE CARD IS WHAT COUNTS. Prove the row's statement (the work); the ties are given (YtjieioobdknjjaaDoorTie.lean); close each card by the builder's one call (the guide's Derived/Test/ToyasCard.lean, 'card_holds'). Laid BY PROGRAM, IN A SANDBOX (cutbox-door.mjs). By AI agents, Wed Nov 11 2026. No macro, syntax, notation, axiom, sorry.
-/
import Derived.Test.YtjieioobdknjjaaDoorRows
import GoSem.ClaimSeven
namespace Go.Proofs.YtjieioobdknjjaaDoor
namespace Rows

/-- THE TIED CARD OF 'narratorlaw38.NumwordsWords'. -/
def numwordsWordsCard : Claim7 := { stood := { row := numwordsWordsRow, standIns := [], harness := (true, "b07784e4b5f3f66b9eac96818da8dcfa3b65df0b4011bd5132a3b3266dacf883"), looks := false }, kinds := [], alts := [], laidByText := true, laidKinds := [.data, .data], laidTests := true, laidLooks := .later }
def NumwordsWordsCardSaid : Prop := Claim7.holds Tryd.pinned (.plain (OpenSpec.ofChange numwordsWordsSpec)) numwordsWordsCard

/-- THE TIED CARD OF 'narratorlaw38.NumwordsNumber'. -/
def numwordsNumberCard : Claim7 := { stood := { row := numwordsNumberRow, standIns := [], harness := (true, "b07784e4b5f3f66b9eac96818da8dcfa3b65df0b4011bd5132a3b3266dacf883"), looks := false }, kinds := [], alts := [], laidByText := true, laidKinds := [.data, .data], laidTests := true, laidLooks := .later }
def NumwordsNumberCardSaid : Prop := Claim7.holds Tryd.pinned (.plain (OpenSpec.ofChange numwordsNumberSpec)) numwordsNumberCard

/-- THE SECOND FORM's CARD OF 'narratorlaw38.NumwordsWords'. -/
def numwordsWordsUptoCard : Claim7 := { stood := { row := numwordsWordsUptoRow, standIns := [], harness := (true, "b07784e4b5f3f66b9eac96818da8dcfa3b65df0b4011bd5132a3b3266dacf883"), looks := false }, kinds := [], alts := [], laidByText := true, laidKinds := [.data, .data], laidTests := true, laidLooks := .later }
def NumwordsWordsUptoCardSaid : Prop := Claim7.holds Tryd.pinned (.plain (OpenSpec.upto numwordsWordsSpec)) numwordsWordsUptoCard

/-- THE SECOND FORM's CARD OF 'narratorlaw38.NumwordsNumber'. -/
def numwordsNumberUptoCard : Claim7 := { stood := { row := numwordsNumberUptoRow, standIns := [], harness := (true, "b07784e4b5f3f66b9eac96818da8dcfa3b65df0b4011bd5132a3b3266dacf883"), looks := false }, kinds := [], alts := [], laidByText := true, laidKinds := [.data, .data], laidTests := true, laidLooks := .later }
def NumwordsNumberUptoCardSaid : Prop := Claim7.holds Tryd.pinned (.plain (OpenSpec.upto numwordsNumberSpec)) numwordsNumberUptoCard
end Rows
end Go.Proofs.YtjieioobdknjjaaDoor
