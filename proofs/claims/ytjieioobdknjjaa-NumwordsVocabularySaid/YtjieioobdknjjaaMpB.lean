/- Maps from strings to bools that read as functions. -/
import Derived.Test.YtjieioobdknjjaaMp
namespace Go.Proofs.Ytjieioobdknjjaa
open Go.RowKit Go.WideMaps
section
variable {P : Program} {K E : TypeId}
theorem plainElem_bool_inv {H : Type} {P : Program} {e : TypeId} (he : P.underlying e = some .bool) {v : Value} {z : DataW H × List MemPlace} (h : plainElem P e v = some z) : ∃ a, v = .bool a ∧ z = (.lit (.bool a), []) := by
  unfold plainElem at h
  rw [he] at h
  cases v <;> simp at h
  exact ⟨_, rfl, h.symm⟩
/-- Block b is a map of at most n entries that reads as f (false where a key is missing). -/
def MapB (P : Program) (K E : TypeId) (w : World) (b n : Nat) (f : ByteArray → Bool) : Prop :=
  ∃ D : DataW Unit, w.ownsMap P K (plainElem P E) b n D ∧ Maps.IsMap D ∧ ∀ s : ByteArray, D.atKey (.string s.data.toList) (.lit (.bool false)) = .lit (.bool (f s))
theorem MapB.lt {w : World} {b n : Nat} {f : ByteArray → Bool} (h : MapB P K E w b n f) : b < w.heap.size := by
  obtain ⟨D, h1, _⟩ := h
  exact h1.lt
theorem MapB.keep {w w' : World} {b n : Nat} {f : ByteArray → Bool} (h : MapB P K E w b n f) (hb : w'.heap[b]? = w.heap[b]?) : MapB P K E w' b n f := by
  obtain ⟨D, ⟨es, clock, h0, h1⟩, h2⟩ := h
  exact ⟨D, ⟨es, clock, hb.trans h0, h1⟩, h2⟩
theorem MapB.made {w : World} {b : Nat} (hb : w.heap.size = b) : MapB P K E (w.alloc (.map #[] 0)) b 0 fun _ => false := by
  subst hb
  exact ⟨.map [], World.ownsMap_made _ _ _ _, Maps.isMap_empty, fun s => by simp [DataW.atKey]⟩
theorem MapB.ext {w : World} {b n : Nat} {f g : ByteArray → Bool} (h : MapB P K E w b n f) (hfg : ∀ s, f s = g s) : MapB P K E w b n g := by
  obtain rfl : f = g := funext hfg
  exact h
theorem mapB_look {w : World} {ops : Array Oper} {rest : List Oper} {o : Oper} {a : Act} {Q : Exit → Act → World → Prop} (hw : Region.wanted o (yielded ops a.tmps) = true) (m x : Operand) (t : TypeId) (hop : o.op = .lookup t m x false)
    (hK : P.underlying K = some .string) (ht : P.underlying t = some (.map K E)) (he : P.underlying E = some .bool) (hz : ∀ w : World, (zeroValue E).run P w = .ok (.bool false) w)
    {b n : Nat} {f : ByteArray → Bool} (hm : a.eval m = .map (some b)) (hown : MapB P K E w b n f) {s : ByteArray} (hx : a.eval x = .string s) (hs : s.size ≤ maxLen)
    (h : wpList P ops Q rest (a.put o.dst (.bool (f s))) w) : wpList P ops Q (o :: rest) a w := by
  obtain ⟨D, h1, h2, h3⟩ := hown
  refine wpList_step fun K' hK' => ?_
  rw [if_pos hw]
  obtain ⟨v, ps, hrun, hv⟩ := h1.lookup (Maps.string_keyed hK) ht (hz w) (plainElem_bool he false) (keyOf_string_mk hK hs)
  obtain ⟨b', rfl, hb'⟩ := plainElem_bool_inv he hv
  rw [h3 s] at hb'
  simp only [Prod.mk.injEq, DataW.lit.injEq, Lit.bool.injEq] at hb'
  obtain ⟨rfl, _⟩ := hb'
  unfold Oper.wp
  simp [execOp, hop, hm, hx, hrun, Result.andThen]
  exact hK' _ _ h
theorem mapB_store {w : World} {ops : Array Oper} {rest : List Oper} {o : Oper} {a : Act} {Q : Exit → Act → World → Prop} (hg : o.guard = none) (m x v : Operand) (t : TypeId) (hop : o.op = .mapUpdate t m x v)
    (hK : P.underlying K = some .string) (ht : P.underlying t = some (.map K E)) (he : P.underlying E = some .bool)
    {b n : Nat} {f : ByteArray → Bool} (hm : a.eval m = .map (some b)) (hown : MapB P K E w b n f) {s : ByteArray} (hx : a.eval x = .string s) (hs : s.size ≤ maxLen) {z : Bool} (hv : a.eval v = .bool z) (hn : n < maxLen)
    (h : ∀ w', MapB P K E w' b (n + 1) (fun k => if k = s then z else f k) → w.grownBy w' (some b) → wpList P ops Q rest (a.put o.dst undef) w') : wpList P ops Q (o :: rest) a w := by
  obtain ⟨D, h1, h2, h3⟩ := hown
  refine wpList_mapUpdate_own w hg m x v t hop K E (Maps.string_keyed hK) ht _ b n D hm h1 hn _ _ _ hx hv (keyOf_string_mk hK hs) _ [] (plainElem_bool he z) fun w' h4 h5 => h w' ⟨_, h4, h2.put _ _, fun k => ?_⟩ h5
  by_cases hk : k = s
  · subst hk
    simp only [if_true]
    exact Maps.atKey_put_same h2 (by simp [WideAt.IsKeyLit]) _ _
  · simp only [if_neg hk]
    have hne : Lit.string k.data.toList ≠ Lit.string s.data.toList := by
      intro e
      injection e with e
      exact hk (ba_data_inj e)
    rw [Maps.atKey_put_other hne]
    exact h3 k
end
end Go.Proofs.Ytjieioobdknjjaa
