/- The table of Go's strings package, as the rows list it. -/
import Derived.Test.YtoiballfjbdoiaaDoorLaid
import Derived.Test.YtoiballfjbdoiaaDoorSig1
import Derived.Lib.LaidTab
import Derived.Lay
import Derived.Deep.DeepWitnessRowRef
namespace Go.Proofs.YtoiballfjbdoiaaDoor
open Go.ChangeShapes Go.WideShapes Go.ChangeAt Go.RowKit
theorem gSpaceT : (Tryd.prog.globals[0]?).map (·.type) = some 63 := by kernel_rfl
theorem space_data {H : Type} : (Rows.laid_strings_asciiSpace : DataW H) = Lib.tabData .u8 Lib.asciiSpaceTab := by kernel_rfl
theorem sp_of {w : World} {l : List (String × DataW Unit)} (h : laidMetH Tryd.prog l w) (hf : (l.filter fun x => x.2.handleName?.isSome) = [])
    (h1 : ("strings.asciiSpace", Rows.laid_strings_asciiSpace) ∈ l) : Sp w := by
  obtain ⟨g, t, cs, fuel, p, hg, ht, hvar, hd⟩ := laid_mem h hf _ _ h1
  obtain rfl := Option.some.inj (gSpace.symm.trans hg)
  obtain rfl := Option.some.inj (gSpaceT.symm.trans ht)
  rw [space_data] at hd
  unfold Sp Lib.TabIs
  rw [hvar, ← Lib.cells_of_tab Tryd.underlying63 Tryd.underlying5 (by kernel_rfl) (by kernel_rfl) hd]
end Go.Proofs.YtoiballfjbdoiaaDoor
