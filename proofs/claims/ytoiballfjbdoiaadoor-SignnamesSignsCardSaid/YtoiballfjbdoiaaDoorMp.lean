/- Maps from strings to ints and bools that read as functions. -/
import Derived.Test.YtoiballfjbdoiaaDoorKit
import Derived.Maps.Own
import Derived.Maps.OwnOps
import Derived.Maps.OwnSet
import Derived.Maps.Views
namespace Go.Proofs.YtoiballfjbdoiaaDoor
open Go.RowKit Go.WideMaps
section
variable {P : Program} {K E : TypeId}
/-- Block b is a map of at most n entries that reads as f. -/
def MapI (P : Program) (K E : TypeId) (w : World) (b n : Nat) (f : ByteArray → Option Int) : Prop :=
  ∃ D : DataW Unit, w.ownsMap P K (plainElem P E) b n D ∧ Maps.IsMap D ∧ ∀ s : ByteArray, Maps.has D (.string s.data.toList) = (f s).isSome ∧ ∀ v, f s = some v → ∀ z, D.atKey (.string s.data.toList) z = .lit (.int .i64 v)
theorem MapI.lt {w : World} {b n : Nat} {f : ByteArray → Option Int} (h : MapI P K E w b n f) : b < w.heap.size := by
  obtain ⟨D, h1, _⟩ := h
  exact h1.lt
theorem MapI.keep {w w' : World} {b n : Nat} {f : ByteArray → Option Int} (h : MapI P K E w b n f) (hb : w'.heap[b]? = w.heap[b]?) : MapI P K E w' b n f := by
  obtain ⟨D, ⟨es, clock, h0, h1⟩, h2⟩ := h
  exact ⟨D, ⟨es, clock, hb.trans h0, h1⟩, h2⟩
theorem MapI.made {w : World} {b : Nat} (hb : w.heap.size = b) : MapI P K E (w.alloc (.map #[] 0)) b 0 fun _ => none := by
  subst hb
  exact ⟨.map [], World.ownsMap_made _ _ _ _, Maps.isMap_empty, fun s => ⟨by simp [Maps.has], fun v h => by cases h⟩⟩
theorem MapI.ext {w : World} {b n : Nat} {f g : ByteArray → Option Int} (h : MapI P K E w b n f) (hfg : ∀ s, f s = g s) : MapI P K E w b n g := by
  obtain rfl : f = g := funext hfg
  exact h
theorem ba_data_inj {s t : ByteArray} (h : s.data.toList = t.data.toList) : s = t := by
  cases s; cases t
  simp only at h
  rw [Array.toList_inj.1 h]
theorem mapI_look {w : World} {ops : Array Oper} {rest : List Oper} {o : Oper} {a : Act} {Q : Exit → Act → World → Prop} (hg : o.guard = none) (m x : Operand) (t : TypeId) (hop : o.op = .lookup t m x true)
    (hK : P.underlying K = some .string) (ht : P.underlying t = some (.map K E)) (he : P.underlying E = some (.int .i64)) (hz : ∀ w : World, (zeroValue E).run P w = .ok (.int .i64 0) w)
    {b n : Nat} {f : ByteArray → Option Int} (hm : a.eval m = .map (some b)) (hown : MapI P K E w b n f) {s : ByteArray} (hx : a.eval x = .string s) (hs : s.size ≤ maxLen)
    (h : wpList P ops Q rest (a.put o.dst (.tuple #[.int .i64 ((f s).getD 0), .bool (f s).isSome])) w) : wpList P ops Q (o :: rest) a w := by
  obtain ⟨D, h1, h2, h3⟩ := hown
  refine wpList_lookup_own_ok_int w hg m x t hop K E .i64 (Maps.string_keyed hK) ht he (hz w) b n D hm h1 _ _ hx (keyOf_string_mk hK hs) fun c hc _ => ?_
  rw [(h3 s).1]
  have e : c = (f s).getD 0 := by
    cases hf : f s with
    | some v =>
      have := (h3 s).2 v hf (.lit (.int .i64 0))
      rw [this] at hc
      injection hc with hc
      injection hc with _ hc
      exact hc.symm
    | none =>
      have := (h3 s).1
      rw [hf] at this
      have h4 := Maps.atKey_of_not_has this (.lit (.int .i64 0))
      rw [h4] at hc
      injection hc with hc
      injection hc with _ hc
      exact hc.symm
  rw [e]
  exact h
theorem mapI_store {w : World} {ops : Array Oper} {rest : List Oper} {o : Oper} {a : Act} {Q : Exit → Act → World → Prop} (hg : o.guard = none) (m x v : Operand) (t : TypeId) (hop : o.op = .mapUpdate t m x v)
    (hK : P.underlying K = some .string) (ht : P.underlying t = some (.map K E)) (he : P.underlying E = some (.int .i64))
    {b n : Nat} {f : ByteArray → Option Int} (hm : a.eval m = .map (some b)) (hown : MapI P K E w b n f) {s : ByteArray} (hx : a.eval x = .string s) (hs : s.size ≤ maxLen) {z : Int} (hv : a.eval v = .int .i64 z) (hw : (Lit.int .i64 z).wf = true) (hn : n < maxLen)
    (h : ∀ w', MapI P K E w' b (n + 1) (fun k => if k = s then some z else f k) → w.grownBy w' (some b) → wpList P ops Q rest (a.put o.dst undef) w') : wpList P ops Q (o :: rest) a w := by
  obtain ⟨D, h1, h2, h3⟩ := hown
  refine wpList_mapUpdate_own w hg m x v t hop K E (Maps.string_keyed hK) ht _ b n D hm h1 hn _ _ _ hx hv (keyOf_string_mk hK hs) _ [] (plainElem_int he hw) fun w' h4 h5 => h w' ⟨_, h4, h2.put _ _, fun k => ?_⟩ h5
  by_cases hk : k = s
  · subst hk
    simp only [if_true]
    exact ⟨Maps.has_put_same h2 (by simp [WideAt.IsKeyLit]) _, fun v hv z => by injection hv with hv; subst hv; exact Maps.atKey_put_same h2 (by simp [WideAt.IsKeyLit]) _ _⟩
  · simp only [if_neg hk]
    have hne : Lit.string k.data.toList ≠ Lit.string s.data.toList := by
      intro e
      injection e with e
      exact hk (ba_data_inj e)
    refine ⟨(Maps.has_put_other hne _).trans (h3 k).1, fun v hv z => ?_⟩
    rw [Maps.atKey_put_other hne]
    exact (h3 k).2 v hv z
end
end Go.Proofs.YtoiballfjbdoiaaDoor
