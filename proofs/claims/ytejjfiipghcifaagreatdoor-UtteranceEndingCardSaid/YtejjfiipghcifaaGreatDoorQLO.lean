/- Joined texts: Row. -/
import Derived.Test.YtejjfiipghcifaaGreatDoorQAA
import Derived.Test.YtejjfiipghcifaaGreatDoorQAN
set_option linter.unusedVariables false
set_option linter.unusedSimpArgs false
set_option linter.unnecessarySimpa false
namespace Go.Proofs.YtejjfiipghcifaaGreatDoor
open Go.ChangeShapes Go.WideShapes Go.ChangeAt Go.RowKit
theorem laidOut : laidOutB Tryz.prog = true := by kernel_rfl
theorem open_strs {H : Type} {enc : TypeId × Value → H} {P : Program} {w : World} {t e : TypeId} {A : Option Addr} {len cap : Nat} {d : DataW H} {p : List MemPlace} (ht : P.underlying t = some (.slice e)) (he : P.underlying e = some .string) (hC : P.cellsOf e = 1)
  (h : DataW.Trod enc P w 0 (fun _ => true) true t (.slice A len cap) d p) :
  ∃ l : List ByteArray, l.length = len ∧ len ≤ cap ∧ cap ≤ maxLen ∧ Rd w w.heap.size 1 A len (sv l) ∧ ∀ s ∈ l, s.size ≤ maxLen := by
 obtain ⟨fuel, hf⟩ := h
 rcases open_strings ht he hC hf with ⟨hcs, _⟩ | ⟨a, len', cap', ss, hcs, _, hl, hm, hz, _, hcell, hws⟩
 ·simp [Value.cells] at hcs
  obtain ⟨rfl, rfl, rfl⟩ := hcs
  exact ⟨[], rfl, Nat.le_refl _, by unfold maxLen; omega, Rd.none_, fun s hs => by cases hs⟩
 ·simp [Value.cells] at hcs
  obtain ⟨rfl, rfl, rfl⟩ := hcs
  have hz' : ss.length = cap := by simpa using hz
  refine ⟨ss.take len, by rw [List.length_take, hz']; omega, hl, hm, ⟨by simp [sv, hz']; omega, fun hn => ?_⟩, fun s hs => hws s (List.mem_of_mem_take hs)⟩
  obtain ⟨b, o, spot⟩ := a
  have h0 := hcell 0 (by omega)
  have hspot : spot = none := by simpa [Addr.add] using World.cell?_spot h0
  subst hspot
  refine ⟨b, o, rfl, by simpa [Addr.add] using cell_lt h0, fun j u hu => ?_⟩
  have hj : j < len := by
   have := (List.getElem?_eq_some_iff.1 hu).1
   simp [sv] at this
   omega
  have h1 := hcell j (by omega)
  rw [add_none] at h1
  rw [h1, ← hu]
  simp [sv, hj, List.getD_eq_getElem?_getD, List.getElem?_eq_getElem (show j < ss.length by omega)]
def ivs (k : IntKind) (l : List Int) : List Value := l.map fun n => .int k n
theorem sv_ivs_take (k : IntKind) (l : List Int) (n : Nat) : ivs k (l.take n) = (ivs k l).take n := by simp [ivs, List.map_take]
theorem open_intl {H : Type} {enc : TypeId × Value → H} {P : Program} {w : World} {t e : TypeId} {k : IntKind} {A : Option Addr} {len cap : Nat} {d : DataW H} {p : List MemPlace} (ht : P.underlying t = some (.slice e)) (he : P.underlying e = some (.int k)) (hC : P.cellsOf e = 1)
  (h : DataW.Trod enc P w 0 (fun _ => true) true t (.slice A len cap) d p) :
  ∃ l : List Int, l.length = len ∧ len ≤ cap ∧ cap ≤ maxLen ∧ Rd w w.heap.size 1 A len (ivs k l) ∧ ∀ n ∈ l, (Lit.int k n).wf = true := by
 obtain ⟨fuel, hf⟩ := h
 rcases Go.ChangeShapes.open_ints ht he hC hf with ⟨hcs, _⟩ | ⟨a, len', cap', zs, hcs, _, hl, hm, hz, _, hcell, hws⟩
 ·simp [Value.cells] at hcs
  obtain ⟨rfl, rfl, rfl⟩ := hcs
  exact ⟨[], rfl, Nat.le_refl _, by unfold maxLen; omega, Rd.none_, fun s hs => by cases hs⟩
 ·simp [Value.cells] at hcs
  obtain ⟨rfl, rfl, rfl⟩ := hcs
  have hz' : zs.length = cap := by simpa using hz
  refine ⟨zs.take len, by rw [List.length_take, hz']; omega, hl, hm, ⟨by simp [ivs, hz']; omega, fun hn => ?_⟩, fun s hs => hws s (List.mem_of_mem_take hs)⟩
  obtain ⟨b, o, spot⟩ := a
  have h0 := hcell 0 (by omega)
  have hspot : spot = none := by simpa [Addr.add] using World.cell?_spot h0
  subst hspot
  refine ⟨b, o, rfl, by simpa [Addr.add] using cell_lt h0, fun j u hu => ?_⟩
  have hj : j < len := by
   have := (List.getElem?_eq_some_iff.1 hu).1
   simp [ivs] at this
   omega
  have h1 := hcell j (by omega)
  rw [add_none] at h1
  rw [h1, ← hu]
  simp [ivs, hj, List.getD_eq_getElem?_getD, List.getElem?_eq_getElem (show j < zs.length by omega)]
end Go.Proofs.YtejjfiipghcifaaGreatDoor
