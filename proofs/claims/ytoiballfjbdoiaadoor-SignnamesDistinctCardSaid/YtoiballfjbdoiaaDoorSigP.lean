/- signnames: plain facts on spellings. -/
import Derived.Test.YtoiballfjbdoiaaDoorSig3
namespace Go.Proofs.YtoiballfjbdoiaaDoor
open Go.RowKit
theorem sg_small_lt (q : Nat) (hq : q < 1000) : ∀ i ∈ smallL q, i < 32 := by
  have : ∀ q : Fin 1000, (smallL q.val).all (· < 32) = true := by decide +kernel
  have h := this ⟨q, hq⟩
  intro i hi
  have := List.all_eq_true.1 h i hi
  simpa using this
theorem nb_wb (i j : Nat) (h : i < 32) (k : j < 32) : wb j ≠ nb i := by
  have : ∀ i j : Fin 32, wb j.val ≠ nb i.val := by decide +kernel
  exact this ⟨i, h⟩ ⟨j, k⟩
theorem cB_wb (j : Nat) (k : j < 32) : wb j ≠ cB := by
  have : ∀ j : Fin 32, wb j.val ≠ cB := by decide +kernel
  exact this ⟨j, k⟩
theorem nIdx_cB : nIdx cB = none := by decide +kernel
/-- a text that begins with no word of a number -/
def NoNum (t : List ByteArray) : Prop := ∀ h t', t = h :: t' → ∀ j, j < 32 → wb j ≠ h
theorem NoNum.nil : NoNum [] := fun _ _ h => by cases h
theorem NoNum.nb {i : Nat} (hi : i < 32) (t : List ByteArray) : NoNum (nb i :: t) := fun _ _ h j hj => by cases h; exact nb_wb i j hi hj
theorem NoNum.cB (t : List ByteArray) : NoNum (cB :: t) := fun _ _ h j hj => by cases h; exact cB_wb j hj
theorem prefN_of {l : List ByteArray} {k : Nat} {v : Int} (h0 : 0 < k) (hv : numberL (l.take k) = some v) : ∀ {m : Nat}, k ≤ m → (∀ i, k < i → i ≤ m → numberL (l.take i) = none) → prefN l m = some (v, k) := by
  intro m
  induction m with
  | zero => intro h _; omega
  | succ m ih =>
    intro h hn
    rw [prefN]
    rcases Nat.lt_or_ge m k with h1 | h1
    · obtain rfl : k = m + 1 := by omega
      rw [hv]
    · rw [hn (m + 1) (by omega) (by omega)]
      exact ih h1 fun i a b => hn i a (by omega)
theorem sg_words_lt (n : Int) (h1 : -999999999 ≤ n) (h2 : n ≤ 999999999) : ∀ i ∈ wordsL n, i < 32 := by
  have hsg : ∀ q x, q < 1000 → x < 32 → ∀ i ∈ segL q x, i < 32 := by
    intro q x hq hx i hi
    unfold segL at hi
    split at hi
    · rw [List.mem_append] at hi
      rcases hi with hi | hi
      · exact sg_small_lt q hq i hi
      · simp at hi; omega
    · cases hi
  have hse : ∀ q, q < 1000 → ∀ i ∈ segE q, i < 32 := by
    intro q hq i hi
    unfold segE at hi
    split at hi
    · exact sg_small_lt q hq i hi
    · cases hi
  intro i hi
  unfold wordsL at hi
  split at hi
  · simp at hi; omega
  · rw [posL_eq, List.mem_append, List.mem_append, List.mem_append] at hi
    rcases hi with hi | (hi | hi) | hi
    · split at hi
      · simp at hi; omega
      · cases hi
    · exact hsg _ _ (by omega) (by omega) i hi
    · exact hsg _ _ (by omega) (by omega) i hi
    · exact hse _ (by omega) i hi
theorem prefix_app (n : Int) (h1 : -999999999 ≤ n) (h2 : n ≤ 999999999) (t : List ByteArray) (ht : NoNum t) : prefixL ((wordsL n).map wb ++ t) = some (n, (wordsL n).length) := by
  have hpos : 0 < (wordsL n).length := by
    rcases wordsL_pos n with h | h
    · exact h
    · omega
  have hle := wordsL_le n
  have hnum := number_words n h1 h2
  have hlen : ((wordsL n).map wb ++ t).length = (wordsL n).length + t.length := by simp
  refine prefN_of hpos ?_ (by omega) ?_
  · rw [List.take_append_of_le_length (by simp), List.take_of_length_le (by simp)]
    exact hnum
  · intro i hi1 hi2
    cases h : numberL (((wordsL n).map wb ++ t).take i) with
    | none => rfl
    | some v =>
      exfalso
      obtain ⟨a1, a2, a3, _⟩ := number_some h
      have hk : (wordsL n).length < (((wordsL n).map wb ++ t).take i).length := by rw [List.length_take, hlen]; omega
      have e : (((wordsL n).map wb ++ t).take i)[(wordsL n).length] = t[0]'(by omega) := by
        rw [List.getElem_take, List.getElem_append_right (by simp)]
        simp
      have hk2 : (wordsL n).length < ((wordsL v).map wb).length := by rw [a3]; exact hk
      have e2 : ((wordsL v).map wb)[(wordsL n).length] = (((wordsL n).map wb ++ t).take i)[(wordsL n).length] := by
        simp only [a3]
      rw [e, List.getElem_map] at e2
      cases t with
      | nil => simp only [List.length_nil, Nat.add_zero] at hlen; omega
      | cons x t' => exact ht x t' rfl _ (sg_words_lt v a1 a2 _ (List.getElem_mem _)) e2
theorem char_range {r : Int} (h : isCharB r = true) : 0 ≤ r ∧ r ≤ 1114111 := by
  have := (isCharB_iff r).1 h
  unfold isChar at this
  omega
theorem sign_isChar {r : Int} {i : Nat} (h : sIdxI r = some i) : isCharB r = true := by
  obtain ⟨_, _, a, b⟩ := sIdxI_some h
  exact (isCharB_iff r).2 (by unfold isChar; omega)
theorem spell_nil {r : Int} : spellL r = [] ↔ isCharB r = false := by
  unfold spellL
  cases h : sIdxI r with
  | some i => simp [sign_isChar h]
  | none => cases isCharB r <;> simp
theorem spell_pos {r : Int} (h : isCharB r = true) : 0 < (spellL r).length := by
  rcases Nat.eq_zero_or_pos (spellL r).length with h0 | h0
  · have := spell_nil.1 (List.length_eq_zero_iff.1 h0)
    rw [h] at this
    cases this
  · exact h0
theorem spell_noNum (r : Int) {t : List ByteArray} (ht : NoNum t) : NoNum (spellL r ++ t) := by
  unfold spellL
  cases h : sIdxI r with
  | some i => exact NoNum.nb (sIdxI_some h).1 _
  | none =>
    cases isCharB r with
    | true => exact NoNum.cB _
    | false => exact ht
theorem unspell_spell {r : Int} (hr : isCharB r = true) {t : List ByteArray} (ht : NoNum t) : unspellL (spellL r ++ t) = some (r, (spellL r).length) := by
  unfold spellL
  cases h : sIdxI r with
  | some i =>
    obtain ⟨a, b, _⟩ := sIdxI_some h
    simp only [List.cons_append, List.nil_append, unspellL, nIdx_nb i a, List.length_cons, List.length_nil, Nat.zero_add]
    rw [b]
  | none =>
    obtain ⟨a, b⟩ := char_range hr
    simp only [hr, if_true, List.cons_append, unspellL, nIdx_cB, prefix_app r (by omega) (by omega) t ht, List.length_cons, List.length_map]
    rw [unsTail_t ⟨hr, h⟩, Nat.add_comm]
theorem unspell_canon {l : List ByteArray} {r : Int} {k : Nat} (h : unspellL l = some (r, k)) : isCharB r = true ∧ 0 < k ∧ k ≤ l.length ∧ k ≤ 16 ∧ spellL r = l.take k := by
  cases l with
  | nil => cases h
  | cons s t =>
    rw [unspellL] at h
    cases hi : nIdx s with
    | some i =>
      rw [hi] at h
      simp only [Option.some.injEq, Prod.mk.injEq] at h
      obtain ⟨rfl, rfl⟩ := h
      obtain ⟨a, rfl⟩ := nIdx_some hi
      have hs : sIdxI (sChar i : Int) = some i := by
        unfold sIdxI
        rw [if_pos (by omega)]
        exact sIdx_char i a
      refine ⟨sign_isChar hs, by omega, by simp, by omega, ?_⟩
      unfold spellL
      rw [hs]
      simp
    | none =>
      rw [hi] at h
      simp only at h
      split at h
      · rename_i hc
        cases hp : prefixL t with
        | none => rw [hp] at h; cases h
        | some x =>
          obtain ⟨v, m⟩ := x
          rw [hp] at h
          by_cases hq : isCharB v = true ∧ sIdxI v = none
          · rw [unsTail_t hq] at h
            simp only [Option.some.injEq, Prod.mk.injEq] at h
            obtain ⟨rfl, rfl⟩ := h
            obtain ⟨p1, p2, p3, p4, _⟩ := prefixL_some hp
            obtain ⟨_, _, n3, _⟩ := number_some p4
            refine ⟨hq.1, by omega, by simp; omega, by omega, ?_⟩
            unfold spellL
            rw [hq.2]
            simp only [hq.1, if_true, n3, hc]
            rw [Nat.add_comm 1 m, List.take_succ_cons]
          · rw [unsTail_f hq] at h
            cases h
      · cases h
end Go.Proofs.YtoiballfjbdoiaaDoor
