/-
  DERIVED. GIVEN WITH THE SEED: THE PROGRAM's TIES (one call each: nine closed facts by the kernel) AND EACH ROW's TIE, after the 31st guide's Derived/Test/Toyas{Tie, Card}.lean. No idea stands in it: it is a product of the set-up. Laid BY PROGRAM, IN A SANDBOX (cutbox-door.mjs). By AI agents, Wed Nov 11 2026. No macro, syntax, notation, axiom, sorry.
-/
import Derived.Test.YtjieioobdknjjaaDoorRows
import Derived.LaidByTextLater
import Derived.SevenTiedAt
import Derived.LaidSub
import Derived.LaidOnce
namespace Go.Proofs.YtjieioobdknjjaaDoor
open Go
set_option maxRecDepth 100000
theorem seatTie1 : Tryd.prog.laidByTextLater [("narrator/narratorref38.units", Rows.laid_narrator_narratorref38_units), ("narrator/narratorref38.tens", Rows.laid_narrator_narratorref38_tens)] [.data, .data] true :=
  Program.laidByTextLater_by_one 19 8 21 (by kernel_rfl) (by kernel_rfl) (by kernel_rfl) (by kernel_rfl) (by kernel_rfl) (by kernel_rfl) (fun _ _ => by kernel_rfl)
theorem noOwnUnsafe : Tryd.pinned.checked.prog.headLifts.contains "ownunsafe" = false := by kernel_rfl
theorem tie : Tryd.prog.laidByTextLater [("narrator/narratorref38.units", Rows.laid_narrator_narratorref38_units), ("narrator/narratorref38.tens", Rows.laid_narrator_narratorref38_tens)] [.data, .data] true :=
  Program.laidByTextLater.sub seatTie1 ["narrator/narratorref38.units", "narrator/narratorref38.tens"] (by kernel_rfl) (by kernel_rfl)
theorem numwordsWords_row_tie : Rows.numwordsWordsRow.laidByTextAt .later Tryd.pinned [.data, .data] true :=
  OpenClaim.laidByTextAt_later rfl rfl tie noOwnUnsafe
theorem numwordsNumber_row_tie : Rows.numwordsNumberRow.laidByTextAt .later Tryd.pinned [.data, .data] true :=
  OpenClaim.laidByTextAt_later rfl rfl tie noOwnUnsafe
theorem numwordsWordsUpto_row_tie : Rows.numwordsWordsUptoRow.laidByTextAt .later Tryd.pinned [.data, .data] true :=
  OpenClaim.laidByTextAt_later rfl rfl tie noOwnUnsafe
theorem numwordsNumberUpto_row_tie : Rows.numwordsNumberUptoRow.laidByTextAt .later Tryd.pinned [.data, .data] true :=
  OpenClaim.laidByTextAt_later rfl rfl tie noOwnUnsafe
end Go.Proofs.YtjieioobdknjjaaDoor
