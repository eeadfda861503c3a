/- Plain facts on the words of numbers and on reading them. -/
import Derived.Test.YtoiballfjbdoiaaDoorNum7
namespace Go.Proofs.YtoiballfjbdoiaaDoor
theorem valK_wb (i : Nat) (h : i < 28) : valK 28 (wb i) = some (valI i) := by
  have : ∀ i : Fin 28, valK 28 (wb i.val) = some (valI i.val) := by decide +kernel
  exact this ⟨i, h⟩
theorem wb_ne (i j : Nat) (h : i < 32) (k : j < 32) (hne : i ≠ j) : wb i ≠ wb j := by
  have : ∀ i j : Fin 32, i ≠ j → wb i.val ≠ wb j.val := by decide +kernel
  exact this ⟨i, h⟩ ⟨j, k⟩ (by intro e; injection e with e; exact hne e)
theorem step_val (a p : Int) (i : Nat) (h : i < 28) (ha : a ≤ 999999999) (hp : p + valI i ≤ 999999999) : stepN a p (wb i) = some (a, p + valI i) := by
  unfold stepN swN
  rw [if_neg (wb_ne _ _ (by omega) (by omega) (by omega)), if_neg (wb_ne _ _ (by omega) (by omega) (by omega)), if_neg (wb_ne _ _ (by omega) (by omega) (by omega)), if_neg (wb_ne _ _ (by omega) (by omega) (by omega)), valK_wb i h]
  simp only
  rw [if_neg (by omega)]
theorem step_hundred (a p : Int) (ha : a ≤ 999999999) (hp : p * 100 ≤ 999999999) : stepN a p (wb 28) = some (a, p * 100) := by
  unfold stepN swN
  rw [if_neg (wb_ne _ _ (by omega) (by omega) (by omega)), if_pos rfl]
  simp only
  rw [if_neg (by omega)]
theorem step_thousand (a p : Int) (ha : a + 1000 * p ≤ 999999999) : stepN a p (wb 29) = some (a + 1000 * p, 0) := by
  unfold stepN swN
  rw [if_neg (wb_ne _ _ (by omega) (by omega) (by omega)), if_neg (wb_ne _ _ (by omega) (by omega) (by omega)), if_pos rfl]
  simp only
  rw [if_neg (by omega)]
theorem step_million (a p : Int) (ha : a + 1000000 * p ≤ 999999999) : stepN a p (wb 30) = some (a + 1000000 * p, 0) := by
  unfold stepN swN
  rw [if_neg (wb_ne _ _ (by omega) (by omega) (by omega)), if_neg (wb_ne _ _ (by omega) (by omega) (by omega)), if_neg (wb_ne _ _ (by omega) (by omega) (by omega)), if_pos rfl]
  simp only
  rw [if_neg (by omega)]
theorem step_minus (a p : Int) (ha : a ≤ 999999999) (hp : p ≤ 999999999) : stepN a p (wb 31) = some (a, p) := by
  unfold stepN swN
  rw [if_pos rfl]
  simp only
  rw [if_neg (by omega)]
theorem loop_cons {s : ByteArray} {t : List ByteArray} {a p a' p' : Int} (h : stepN a p s = some (a', p')) : loopN (s :: t) a p = loopN t a' p' := by
  rw [loopN, h]
theorem loop_small (q : Nat) (hq : q < 1000) (a : Int) (ha : a ≤ 999999999) (t : List ByteArray) : loopN ((smallL q).map wb ++ t) a 0 = loopN t a q := by
  have hT : ∀ (j : Nat) (p : Int), j < 20 → p + j ≤ 999999999 → loopN ((smallT j).map wb ++ t) a p = loopN t a (p + j) := by
    intro j p hj hp
    unfold smallT
    by_cases h : 0 < j
    · rw [if_pos h]
      have hv : valI j = j := by unfold valI; rw [if_neg (by omega)]
      simp only [List.map_cons, List.map_nil, List.cons_append, List.nil_append]
      rw [loop_cons (step_val a p j (by omega) ha (by omega)), hv]
    · obtain rfl : j = 0 := by omega
      simp
  have hS : ∀ (k : Nat) (p : Int), k < 100 → p + k ≤ 999999999 → loopN ((smallS k).map wb ++ ((smallT (if 20 ≤ k then k % 10 else k)).map wb ++ t)) a p = loopN t a (p + k) := by
    intro k p hk hp
    unfold smallS
    by_cases h : 20 ≤ k
    · rw [if_pos h, if_pos h]
      have hv : valI (18 + k / 10) = 10 * (k / 10 : Nat) := by unfold valI; split <;> omega
      simp only [List.map_cons, List.map_nil, List.cons_append, List.nil_append]
      rw [loop_cons (step_val a p (18 + k / 10) (by omega) ha (by rw [hv]; omega)), hv, hT _ _ (by omega) (by omega)]
      congr 1
      omega
    · rw [if_neg h, if_neg h]
      simp only [List.map_nil, List.nil_append]
      rw [hT _ _ (by omega) (by omega)]
  unfold smallL smallR
  by_cases h : 100 ≤ q
  · simp only [if_pos h, List.map_append, List.map_cons, List.cons_append, List.nil_append, List.append_assoc]
    have hv : valI (q / 100) = (q / 100 : Nat) := by unfold valI; rw [if_neg (by omega)]
    rw [loop_cons (step_val a 0 (q / 100) (by omega) ha (by rw [hv]; omega)), hv, loop_cons (step_hundred a _ ha (by omega)), hS _ _ (by omega) (by omega)]
    congr 1
    omega
  · simp only [if_neg h, List.map_append, List.nil_append, List.append_assoc]
    rw [hS _ _ (by omega) (by omega)]
    congr 1
    omega
theorem loop_pos (m : Nat) (hm : m ≤ 999999999) : ∃ a p : Int, loopN ((posL m).map wb) 0 0 = some (a, p) ∧ a + p = m := by
  rw [posL_eq]
  have h1 : ∀ t, loopN ((segL (m / 1000000) 30).map wb ++ t) 0 0 = loopN t (1000000 * (m / 1000000 : Nat)) 0 := by
    intro t
    unfold segL
    by_cases h : 0 < m / 1000000
    · rw [if_pos h]
      simp only [List.map_append, List.map_cons, List.map_nil, List.append_assoc, List.cons_append, List.nil_append]
      rw [loop_small _ (by omega) 0 (by omega), loop_cons (step_million _ _ (by omega))]
      congr 1
      omega
    · rw [if_neg h]
      have : m / 1000000 = 0 := by omega
      simp [this]
  have h2 : ∀ t, loopN ((segL (m % 1000000 / 1000) 29).map wb ++ t) (1000000 * (m / 1000000 : Nat)) 0 = loopN t (1000000 * (m / 1000000 : Nat) + 1000 * (m % 1000000 / 1000 : Nat)) 0 := by
    intro t
    unfold segL
    by_cases h : 0 < m % 1000000 / 1000
    · rw [if_pos h]
      simp only [List.map_append, List.map_cons, List.map_nil, List.append_assoc, List.cons_append, List.nil_append]
      rw [loop_small _ (by omega) _ (by omega), loop_cons (step_thousand _ _ (by omega))]
    · rw [if_neg h]
      have : m % 1000000 / 1000 = 0 := by omega
      rw [this]
      simp
  have h3 : loopN ((segE (m % 1000000 % 1000)).map wb) (1000000 * (m / 1000000 : Nat) + 1000 * (m % 1000000 / 1000 : Nat)) 0 = some ((1000000 * (m / 1000000 : Nat) + 1000 * (m % 1000000 / 1000 : Nat) : Int), ((m % 1000000 % 1000 : Nat) : Int)) := by
    unfold segE
    by_cases h : 0 < m % 1000000 % 1000
    · rw [if_pos h]
      have := loop_small (m % 1000000 % 1000) (by omega) (1000000 * (m / 1000000 : Nat) + 1000 * (m % 1000000 / 1000 : Nat)) (by omega) []
      rw [List.append_nil] at this
      rw [this, loopN]
    · rw [if_neg h]
      have : m % 1000000 % 1000 = 0 := by omega
      rw [this]
      rfl
  have h4 : loopN ((segL (m / 1000000) 30 ++ segL (m % 1000000 / 1000) 29 ++ segE (m % 1000000 % 1000)).map wb) 0 0 = some ((1000000 * (m / 1000000 : Nat) + 1000 * (m % 1000000 / 1000 : Nat) : Int), ((m % 1000000 % 1000 : Nat) : Int)) := by
    rw [List.map_append, List.map_append, List.append_assoc, h1, h2, h3]
  exact ⟨_, _, h4, by omega⟩
theorem small_head (q : Nat) (hq : q < 1000) (h0 : 0 < q) : ∃ i t, smallL q = i :: t ∧ i < 28 := by
  unfold smallL smallR smallS smallT
  by_cases h : 100 ≤ q
  · exact ⟨q / 100, _, by simp only [if_pos h]; rfl, by omega⟩
  · simp only [if_neg h, List.nil_append]
    by_cases h2 : 20 ≤ q
    · exact ⟨18 + q / 10, _, by simp only [if_pos h2]; rfl, by omega⟩
    · exact ⟨q, [], by simp [h2, h0], by omega⟩
theorem pos_head (m : Nat) (hm : m ≤ 999999999) (h0 : 0 < m) : ∃ i t, posL m = i :: t ∧ i < 28 := by
  rw [posL_eq]
  unfold segL segE
  by_cases h1 : 0 < m / 1000000
  · obtain ⟨i, t, e, hi⟩ := small_head (m / 1000000) (by omega) h1
    rw [if_pos h1, e]
    exact ⟨i, _, rfl, hi⟩
  rw [if_neg h1, List.nil_append]
  by_cases h2 : 0 < m % 1000000 / 1000
  · obtain ⟨i, t, e, hi⟩ := small_head (m % 1000000 / 1000) (by omega) h2
    rw [if_pos h2, e]
    exact ⟨i, _, rfl, hi⟩
  rw [if_neg h2, List.nil_append]
  obtain ⟨i, t, e, hi⟩ := small_head (m % 1000000 % 1000) (by omega) (by omega)
  rw [if_pos (by omega), e]
  exact ⟨i, t, rfl, hi⟩
theorem wordsL_pos (n : Int) : 0 < (wordsL n).length ∨ n < -999999999 ∨ 999999999 < n := by
  by_cases hn : n < -999999999 ∨ 999999999 < n
  · exact .inr hn
  left
  unfold wordsL
  by_cases h0 : n = 0
  · rw [if_pos h0]; decide
  · rw [if_neg h0]
    obtain ⟨i, t, e, _⟩ := pos_head n.natAbs (by omega) (by omega)
    rw [e]
    simp
    omega
/-- P38.2: reading the words of a number gives the number. -/
theorem number_words (n : Int) (h1 : -999999999 ≤ n) (h2 : n ≤ 999999999) : numberL ((wordsL n).map wb) = some n := by
  have hlen := wordsL_le n
  have hpos : 0 < (wordsL n).length := by
    rcases wordsL_pos n with h | h
    · exact h
    · omega
  have hck : checkN ((wordsL n).map wb) n = some n := by unfold checkN; rw [if_pos ⟨h1, h2, rfl⟩]
  unfold numberL
  rw [if_neg (by rw [List.length_map]; omega)]
  by_cases h0 : n = 0
  · subst h0
    decide +kernel
  · obtain ⟨i, t, e, hi⟩ := pos_head n.natAbs (by omega) (by omega)
    obtain ⟨a, p, hl, hap⟩ := loop_pos n.natAbs (by omega)
    by_cases hneg : n < 0
    · have hw : wordsL n = 31 :: posL n.natAbs := by unfold wordsL; rw [if_neg h0, if_pos hneg]; rfl
      have hlo : loopN ((wordsL n).map wb) 0 0 = some (a, p) := by rw [hw, List.map_cons, loop_cons (step_minus 0 0 (by omega) (by omega)), hl]
      have hs : signN ((wordsL n).map wb) (a + p) = n := by
        rw [hw]
        show (if some (wb 31) = some (wb 31) then -(a + p) else a + p) = n
        rw [if_pos rfl]
        omega
      rw [hlo]
      simp only
      rw [hs, hck]
    · have hw : wordsL n = posL n.natAbs := by unfold wordsL; rw [if_neg h0, if_neg hneg]; rfl
      have hlo : loopN ((wordsL n).map wb) 0 0 = some (a, p) := by rw [hw, hl]
      have hs : signN ((wordsL n).map wb) (a + p) = n := by
        rw [hw, e]
        unfold signN
        rw [if_neg (by
          simp only [List.map_cons, List.head?_cons, Option.some.injEq]
          exact wb_ne _ _ (by omega) (by omega) (by omega))]
        omega
      rw [hlo]
      simp only
      rw [hs, hck]
theorem number_some {l : List ByteArray} {n : Int} (h : numberL l = some n) : -999999999 ≤ n ∧ n ≤ 999999999 ∧ (wordsL n).map wb = l ∧ 0 < l.length ∧ l.length ≤ 15 := by
  unfold numberL at h
  split at h
  · cases h
  · split at h
    · cases h
    · unfold checkN at h
      split at h
      · rename_i hc
        injection h with h
        subst h
        exact ⟨hc.1, hc.2.1, hc.2.2, by omega, by omega⟩
      · cases h
theorem prefN_some {l : List ByteArray} : ∀ {m : Nat} {n : Int} {k : Nat}, prefN l m = some (n, k) → 0 < k ∧ k ≤ m ∧ numberL (l.take k) = some n ∧ ∀ i, k < i → i ≤ m → numberL (l.take i) = none := by
  intro m
  induction m with
  | zero => intro n k h; cases h
  | succ m ih =>
    intro n k h
    rw [prefN] at h
    split at h
    · rename_i v hv
      simp only [Option.some.injEq, Prod.mk.injEq] at h
      obtain ⟨rfl, rfl⟩ := h
      exact ⟨by omega, by omega, hv, fun i h1 h2 => by omega⟩
    · rename_i hv
      obtain ⟨a, b, c, d⟩ := ih h
      refine ⟨a, by omega, c, fun i h1 h2 => ?_⟩
      rcases Nat.lt_or_ge i (m + 1) with h3 | h3
      · exact d i h1 (by omega)
      · obtain rfl : i = m + 1 := by omega
        exact hv
theorem prefN_none {l : List ByteArray} : ∀ {m : Nat}, prefN l m = none → ∀ i, 0 < i → i ≤ m → numberL (l.take i) = none := by
  intro m
  induction m with
  | zero => intro h i h1 h2; omega
  | succ m ih =>
    intro h i h1 h2
    rw [prefN] at h
    split at h
    · cases h
    · rename_i hv
      rcases Nat.lt_or_ge i (m + 1) with h3 | h3
      · exact ih h i h1 (by omega)
      · obtain rfl : i = m + 1 := by omega
        exact hv
theorem number_take_long (l : List ByteArray) (i : Nat) (h1 : 15 < i) (h2 : i ≤ l.length) : numberL (l.take i) = none := by
  unfold numberL
  rw [if_pos (by rw [List.length_take]; omega)]
theorem prefixL_some {l : List ByteArray} {n : Int} {k : Nat} (h : prefixL l = some (n, k)) : 0 < k ∧ k ≤ l.length ∧ k ≤ 15 ∧ numberL (l.take k) = some n ∧ ∀ i, k < i → i ≤ l.length → numberL (l.take i) = none := by
  obtain ⟨a, b, c, d⟩ := prefN_some h
  refine ⟨a, by omega, by omega, c, fun i h1 h2 => ?_⟩
  rcases Nat.lt_or_ge 15 i with h3 | h3
  · exact number_take_long l i h3 h2
  · exact d i h1 (by omega)
theorem prefixL_none {l : List ByteArray} (h : prefixL l = none) : ∀ i, 0 < i → i ≤ l.length → numberL (l.take i) = none := by
  intro i h1 h2
  rcases Nat.lt_or_ge 15 i with h3 | h3
  · exact number_take_long l i h3 h2
  · exact prefN_none h i h1 (by omega)
end Go.Proofs.YtoiballfjbdoiaaDoor
