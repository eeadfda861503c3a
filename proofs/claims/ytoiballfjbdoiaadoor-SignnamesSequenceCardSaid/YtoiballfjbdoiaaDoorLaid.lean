/- Package-level variables that the row lists: what their cells hold. -/
import Derived.Test.YtoiballfjbdoiaaDoorRow
import Derived.Test.YtoiballfjbdoiaaDoorCards
import Derived.Test.YtoiballfjbdoiaaDoorTie
import Derived.Deep.DeepHandedRow
import Derived.SevenTiedAt
namespace Go.Proofs.YtoiballfjbdoiaaDoor
open Go.ChangeShapes Go.WideShapes Go.ChangeAt Go.RowKit
theorem laidVars_mem {P : Program} {w : World} : ∀ {l : List (String × DataW Unit)} {ps : List MemPlace}, DataW.LaidVars P w l ps → ∀ name d, (name, d) ∈ l →
    ∃ g t cs fuel p, P.globalNamed name = some g ∧ (P.globals[g]?).map (·.type) = some t ∧ w.var? P name = some cs ∧ DataW.trod (fun _ => ()) P w 0 (fun _ => true) false fuel t cs.toList = some (d, p) := by
  intro l
  induction l with
  | nil => intro ps _ name d h; cases h
  | cons x r ih =>
    intro ps h name d hm
    obtain ⟨n0, d0⟩ := x
    obtain ⟨g, t, cs, fuel, p, q, hg, ht, hvar, hd, hr, _⟩ := h
    rcases List.mem_cons.1 hm with e | hm
    · injection e with e1 e2
      subst e1 e2
      exact ⟨g, t, cs, fuel, p, hg, ht, hvar, hd⟩
    · exact ih hr name d hm
theorem laid_mem {P : Program} {w : World} {l : List (String × DataW Unit)} (h : laidMetH P l w) (hf : (l.filter fun x => x.2.handleName?.isSome) = []) (name : String) (d : DataW Unit) (hm : (name, d) ∈ l) :
    ∃ g t cs fuel p, P.globalNamed name = some g ∧ (P.globals[g]?).map (·.type) = some t ∧ w.var? P name = some cs ∧ DataW.trod (fun _ => ()) P w 0 (fun _ => true) false fuel t cs.toList = some (d, p) := by
  unfold laidMetH at h
  rw [hf] at h
  obtain ⟨ps, hv, _⟩ := h
  exact laidVars_mem hv name d hm
theorem cells_strs {P : Program} {w : World} {t e : TypeId} {n fuel : Nat} {cs : Array Value} {l : List (List UInt8)} {p : List MemPlace} (ht : P.underlying t = some (.array n e)) (he : P.underlying e = some .string) (hC : P.cellsOf e = 1)
    (h : DataW.trod (fun _ => ()) P w 0 (fun _ => true) false fuel t cs.toList = some (.agg (l.map fun s => .lit (.string s)), p)) : ∀ i (hi : i < l.length), cs[i]? = some (.string ⟨l[i].toArray⟩) := by
  intro i hi
  obtain ⟨xs, m, _, hx, hlen, hn, hat⟩ := DataW.trod_array ht h
  simp only [Prod.mk.injEq, DataW.agg.injEq] at hx
  obtain ⟨hx, _⟩ := hx
  have hxl : l.length = xs.length := by
    have := congrArg List.length hx
    simpa using this
  have hi' : i < xs.length := by omega
  have h1 := hat i (by omega)
  rw [hC, Nat.mul_one, List.getElem?_eq_getElem hi'] at h1
  obtain ⟨s, hs, hy, _⟩ := DataW.trod_string he h1
  have h2 : (xs.map fun x => x.1)[i]? = some xs[i].1 := by simp [hi']
  rw [← hx] at h2
  have h3 : xs[i].1 = .lit (.string l[i]) := by
    have : (l.map fun s => (DataW.lit (.string s) : DataW Unit))[i]? = some (.lit (.string l[i])) := by simp [hi]
    rw [this] at h2
    injection h2 with h2
    exact h2.symm
  rw [hy] at h3
  simp only [DataW.lit.injEq, Lit.string.injEq] at h3
  have h4 : cs.toList[i]? = some (.string s) := by
    have := congrArg (·[0]?) hs
    simp only [List.getElem?_take, List.getElem?_drop] at this
    simpa using this
  rw [Array.getElem?_toList] at h4
  rw [h4, ← h3]
end Go.Proofs.YtoiballfjbdoiaaDoor
