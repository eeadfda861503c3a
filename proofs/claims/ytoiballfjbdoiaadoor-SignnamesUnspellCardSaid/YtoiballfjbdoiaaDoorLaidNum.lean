/- The two tables of layer 38's reference. -/
import Derived.Test.YtoiballfjbdoiaaDoorLaid
import Derived.Test.YtoiballfjbdoiaaDoorRef1
namespace Go.Proofs.YtoiballfjbdoiaaDoor
open Go.ChangeShapes Go.WideShapes Go.ChangeAt Go.RowKit
def wordsData (a n : Nat) : List (List UInt8) := (List.range n).map fun i => (wb (a + i)).data.toList
theorem units_data {H : Type} : (Rows.laid_narrator_narratorref38_units : DataW H) = .agg ((wordsData 0 20).map fun s => .lit (.string s)) := rfl
theorem tens_data {H : Type} : (Rows.laid_narrator_narratorref38_tens : DataW H) = .agg ((wordsData 20 8).map fun s => .lit (.string s)) := rfl
theorem wordsData_at (a n i : Nat) (h : i < (wordsData a n).length) : Value.string ⟨(wordsData a n)[i].toArray⟩ = .string (wb (a + i)) := by
  simp [wordsData]
theorem gUnits : Tryd.prog.globalNamed "narrator/narratorref38.units" = some 1 := by kernel_rfl
theorem gUnitsT : (Tryd.prog.globals[1]?).map (·.type) = some 65 := by kernel_rfl
theorem gTens : Tryd.prog.globalNamed "narrator/narratorref38.tens" = some 2 := by kernel_rfl
theorem gTensT : (Tryd.prog.globals[2]?).map (·.type) = some 66 := by kernel_rfl
theorem tb_of {w : World} {l : List (String × DataW Unit)} (h : laidMetH Tryd.prog l w) (hf : (l.filter fun x => x.2.handleName?.isSome) = [])
    (h1 : ("narrator/narratorref38.units", Rows.laid_narrator_narratorref38_units) ∈ l) (h2 : ("narrator/narratorref38.tens", Rows.laid_narrator_narratorref38_tens) ∈ l) : Tb w := by
  constructor
  · intro i hi
    obtain ⟨g, t, cs, fuel, p, hg, ht, hvar, hd⟩ := laid_mem h hf _ _ h1
    obtain rfl := Option.some.inj (gUnits.symm.trans hg)
    obtain rfl := Option.some.inj (gUnitsT.symm.trans ht)
    rw [World.var?_cell hg hvar, cells_strs Tryd.underlying65 Tryd.underlying9 (by kernel_rfl) (by rw [units_data] at hd; exact hd) i (by simp [wordsData]; omega), wordsData_at, Nat.zero_add]
  · intro i hi
    obtain ⟨g, t, cs, fuel, p, hg, ht, hvar, hd⟩ := laid_mem h hf _ _ h2
    obtain rfl := Option.some.inj (gTens.symm.trans hg)
    obtain rfl := Option.some.inj (gTensT.symm.trans ht)
    rw [World.var?_cell hg hvar, cells_strs Tryd.underlying66 Tryd.underlying9 (by kernel_rfl) (by rw [tens_data] at hd; exact hd) i (by simp [wordsData]; omega), wordsData_at]
end Go.Proofs.YtoiballfjbdoiaaDoor
