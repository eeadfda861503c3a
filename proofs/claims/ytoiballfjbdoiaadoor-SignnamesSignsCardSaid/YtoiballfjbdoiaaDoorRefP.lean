/- What the reference of layer 38 computes, and that it is what the program computes. -/
import Derived.Test.YtoiballfjbdoiaaDoorNumP
namespace Go.Proofs.YtoiballfjbdoiaaDoor
open Go.RowKit
def swR (a g : Int) (s : ByteArray) : Int × Int :=
  if s = wb 28 then (a, wrap64 (100 * g)) else if s = wb 29 then (wrap64 (a + wrap64 (1000 * g)), 0) else if s = wb 30 then (wrap64 (a + wrap64 (1000000 * g)), 0) else (a, g)
def unitsR (s : ByteArray) (g : Int) : Nat → Int
  | 0 => g
  | k + 1 => if wb k = s then wrap64 (unitsR s g k + k) else unitsR s g k
def tensR (s : ByteArray) (g : Int) : Nat → Int
  | 0 => g
  | k + 1 => if wb (20 + k) = s then wrap64 (wrap64 (tensR s g k + 10 * k) + 20) else tensR s g k
def stepR (x : Int × Int) (s : ByteArray) : Int × Int := ((swR x.1 x.2 s).1, tensR s (unitsR s (swR x.1 x.2 s).2 20) 8)
def valR (l : List ByteArray) : Int :=
  let x := l.foldl stepR (0, 0)
  if l.head? = some (wb 31) then wrap64 (wrap64 (-x.1) - x.2) else wrap64 (x.1 + x.2)
def refNumberL (l : List ByteArray) : Option Int := if l.length = 0 ∨ 15 < l.length then none else checkN l (valR l)
def refPrefN (l : List ByteArray) : Nat → Option (Int × Nat)
  | 0 => none
  | k + 1 => match refNumberL (l.take (k + 1)) with
    | some n => some (n, k + 1)
    | none => refPrefN l k
theorem w64 (n : Int) (h1 : -9223372036854775808 ≤ n) (h2 : n ≤ 9223372036854775807) : wrap64 n = n := IntWalk.wrap64_in n ⟨h1, h2⟩
theorem unitsR_miss (s : ByteArray) (g : Int) : ∀ k, (∀ i, i < k → wb i ≠ s) → unitsR s g k = g := by
  intro k
  induction k with
  | zero => intro _; rfl
  | succ k ih =>
    intro h
    rw [unitsR, if_neg (h k (by omega)), ih (fun i hi => h i (by omega))]
theorem unitsR_hit (i : Nat) (g : Int) : ∀ k, k ≤ 20 → i < k → unitsR (wb i) g k = wrap64 (g + i) := by
  intro k
  induction k with
  | zero => intro _ h; omega
  | succ k ih =>
    intro h1 h2
    rw [unitsR]
    by_cases e : i = k
    · subst e
      rw [if_pos rfl, unitsR_miss _ _ _ (fun j hj => wb_ne j i (by omega) (by omega) (by omega))]
    · rw [if_neg (wb_ne k i (by omega) (by omega) (by omega)), ih (by omega) (by omega)]
theorem tensR_miss (s : ByteArray) (g : Int) : ∀ k, (∀ i, i < k → wb (20 + i) ≠ s) → tensR s g k = g := by
  intro k
  induction k with
  | zero => intro _; rfl
  | succ k ih =>
    intro h
    rw [tensR, if_neg (h k (by omega)), ih (fun i hi => h i (by omega))]
theorem tensR_hit (i : Nat) (g : Int) : ∀ k, k ≤ 8 → i < k → tensR (wb (20 + i)) g k = wrap64 (wrap64 (g + 10 * i) + 20) := by
  intro k
  induction k with
  | zero => intro _ h; omega
  | succ k ih =>
    intro h1 h2
    rw [tensR]
    by_cases e : i = k
    · subst e
      rw [if_pos rfl, tensR_miss _ _ _ (fun j hj => wb_ne _ _ (by omega) (by omega) (by omega))]
    · rw [if_neg (wb_ne _ _ (by omega) (by omega) (by omega)), ih (by omega) (by omega)]
theorem valK_inv (k : Nat) (s : ByteArray) (v : Int) (h : valK k s = some v) : ∃ i, i < k ∧ s = wb i ∧ v = valI i := by
  induction k with
  | zero => cases h
  | succ k ih =>
    rw [valK] at h
    split at h
    · rename_i hs
      injection h with h
      exact ⟨k, by omega, hs, h.symm⟩
    · obtain ⟨i, a, b, c⟩ := ih h
      exact ⟨i, by omega, b, c⟩
theorem miss_big (j : Nat) (hj : 28 ≤ j) (hj2 : j < 32) (g : Int) : tensR (wb j) (unitsR (wb j) g 20) 8 = g := by
  rw [tensR_miss _ _ _ (fun i hi => wb_ne _ _ (by omega) (by omega) (by omega)), unitsR_miss _ _ _ (fun i hi => wb_ne _ _ (by omega) (by omega) (by omega))]
theorem step_same (a p a' p' : Int) (s : ByteArray) (h : stepN a p s = some (a', p')) (ha0 : 0 ≤ a) (ha : a ≤ 999999999) (hp0 : 0 ≤ p) (hp : p ≤ 999999999) : stepR (a, p) s = (a', p') ∧ 0 ≤ a' ∧ a' ≤ 999999999 ∧ 0 ≤ p' ∧ p' ≤ 999999999 := by
  unfold stepN at h
  cases hsw : swN a p s with
  | none => rw [hsw] at h; cases h
  | some x =>
    obtain ⟨a1, p1⟩ := x
    rw [hsw] at h
    simp only at h
    have hb := swN_bd a p s a1 p1 hsw ha0 ha hp0 hp
    split at h
    · cases h
    rename_i hbig
    simp only [Option.some.injEq, Prod.mk.injEq] at h
    obtain ⟨rfl, rfl⟩ := h
    refine ⟨?_, hb.1, by omega, hb.2.2.1, by omega⟩
    unfold swN at hsw
    unfold stepR swR
    simp only
    split at hsw
    · rename_i e
      subst e
      simp only [Option.some.injEq, Prod.mk.injEq] at hsw
      obtain ⟨rfl, rfl⟩ := hsw
      rw [if_neg (wb_ne _ _ (by omega) (by omega) (by omega)), if_neg (wb_ne _ _ (by omega) (by omega) (by omega)), if_neg (wb_ne _ _ (by omega) (by omega) (by omega)), miss_big 31 (by omega) (by omega)]
    split at hsw
    · rename_i e
      subst e
      simp only [Option.some.injEq, Prod.mk.injEq] at hsw
      obtain ⟨rfl, rfl⟩ := hsw
      rw [if_pos rfl, miss_big 28 (by omega) (by omega)]
      simp only
      rw [w64 _ (by omega) (by omega), Int.mul_comm]
    split at hsw
    · rename_i e
      subst e
      simp only [Option.some.injEq, Prod.mk.injEq] at hsw
      obtain ⟨rfl, rfl⟩ := hsw
      rw [if_neg (wb_ne _ _ (by omega) (by omega) (by omega)), if_pos rfl, miss_big 29 (by omega) (by omega)]
      simp only
      rw [w64 (1000 * p) (by omega) (by omega), w64 _ (by omega) (by omega)]
    split at hsw
    · rename_i e
      subst e
      simp only [Option.some.injEq, Prod.mk.injEq] at hsw
      obtain ⟨rfl, rfl⟩ := hsw
      rw [if_neg (wb_ne _ _ (by omega) (by omega) (by omega)), if_neg (wb_ne _ _ (by omega) (by omega) (by omega)), if_pos rfl, miss_big 30 (by omega) (by omega)]
      simp only
      rw [w64 (1000000 * p) (by omega) (by omega), w64 _ (by omega) (by omega)]
    rename_i n31 n28 n29 n30
    cases hv : valK 28 s with
    | none => rw [hv] at hsw; cases hsw
    | some v =>
      rw [hv] at hsw
      simp only [Option.some.injEq, Prod.mk.injEq] at hsw
      obtain ⟨rfl, rfl⟩ := hsw
      obtain ⟨i, hi, rfl, rfl⟩ := valK_inv _ _ _ hv
      rw [if_neg n28, if_neg n29, if_neg n30]
      simp only
      have hvb := valI_bd i hi
      by_cases h20 : i < 20
      · rw [unitsR_hit i p 20 (by omega) h20, tensR_miss _ _ _ (fun j hj => wb_ne _ _ (by omega) (by omega) (by omega))]
        unfold valI
        rw [if_neg (by omega), w64 _ (by omega) (by omega)]
      · obtain ⟨j, rfl⟩ : ∃ j, i = 20 + j := ⟨i - 20, by omega⟩
        rw [unitsR_miss _ _ _ (fun j hj => wb_ne _ _ (by omega) (by omega) (by omega)), tensR_hit j p 8 (by omega) (by omega), w64 (p + 10 * j) (by omega) (by omega), w64 _ (by omega) (by omega)]
        unfold valI
        split <;> (congr 1; omega)
theorem loop_same : ∀ (l : List ByteArray) (a p a' p' : Int), loopN l a p = some (a', p') → 0 ≤ a → a ≤ 999999999 → 0 ≤ p → p ≤ 999999999 → l.foldl stepR (a, p) = (a', p') ∧ 0 ≤ a' ∧ a' ≤ 999999999 ∧ 0 ≤ p' ∧ p' ≤ 999999999 := by
  intro l
  induction l with
  | nil =>
    intro a p a' p' h h1 h2 h3 h4
    rw [loopN] at h
    simp only [Option.some.injEq, Prod.mk.injEq] at h
    obtain ⟨rfl, rfl⟩ := h
    exact ⟨rfl, h1, h2, h3, h4⟩
  | cons s t ih =>
    intro a p a' p' h h1 h2 h3 h4
    rw [loopN] at h
    cases hs : stepN a p s with
    | none => rw [hs] at h; cases h
    | some x =>
      obtain ⟨a1, p1⟩ := x
      rw [hs] at h
      obtain ⟨e, b1, b2, b3, b4⟩ := step_same a p a1 p1 s hs h1 h2 h3 h4
      rw [List.foldl_cons, e]
      exact ih a1 p1 a' p' h b1 b2 b3 b4
/-- Where the program finds a number, the reference's value is that number. -/
theorem val_of_number {l : List ByteArray} {n : Int} (h : numberL l = some n) : valR l = n := by
  unfold numberL at h
  split at h
  · cases h
  cases hl : loopN l 0 0 with
  | none => rw [hl] at h; cases h
  | some x =>
    obtain ⟨a, p⟩ := x
    rw [hl] at h
    simp only at h
    obtain ⟨e, b1, b2, b3, b4⟩ := loop_same l 0 0 a p hl (by omega) (by omega) (by omega) (by omega)
    unfold checkN at h
    split at h
    · injection h with h
      subst h
      unfold valR signN
      rw [e]
      simp only
      split
      · rw [w64 (-a) (by omega) (by omega), w64 _ (by omega) (by omega)]
        omega
      · rw [w64 _ (by omega) (by omega)]
    · cases h
theorem refNumber_eq (l : List ByteArray) : refNumberL l = numberL l := by
  cases hn : numberL l with
  | some n =>
    have hv := val_of_number hn
    obtain ⟨h1, h2, h3, h4, h5⟩ := number_some hn
    unfold refNumberL
    rw [if_neg (by omega), hv]
    unfold checkN
    rw [if_pos ⟨h1, h2, h3⟩]
  | none =>
    cases hr : refNumberL l with
    | none => rfl
    | some n =>
      exfalso
      unfold refNumberL at hr
      split at hr
      · cases hr
      unfold checkN at hr
      split at hr
      · rename_i hc
        obtain ⟨h1, h2, h3⟩ := hc
        have := number_words (valR l) h1 h2
        rw [h3, hn] at this
        cases this
      · cases hr
theorem refPref_eq (l : List ByteArray) : refPrefN l l.length = prefixL l := by
  have h1 : ∀ k, refPrefN l k = prefN l k := by
    intro k
    induction k with
    | zero => rfl
    | succ k ih =>
      rw [refPrefN, prefN, refNumber_eq, ih]
      cases numberL (l.take (k + 1)) <;> rfl
  unfold prefixL
  rw [h1]
  rcases Nat.lt_or_ge l.length 16 with h | h
  · rw [Nat.min_eq_left (by omega)]
  · rw [Nat.min_eq_right (by omega)]
    obtain ⟨d, hd⟩ : ∃ d, l.length = 15 + d := ⟨l.length - 15, by omega⟩
    have : ∀ d, 15 + d ≤ l.length → prefN l (15 + d) = prefN l 15 := by
      intro d
      induction d with
      | zero => intro _; rfl
      | succ d ih =>
        intro hle
        rw [show 15 + (d + 1) = (15 + d) + 1 from rfl, prefN, number_take_long l _ (by omega) (by omega)]
        exact ih (by omega)
    rw [hd]
    exact this d (by omega)
end Go.Proofs.YtoiballfjbdoiaaDoor
