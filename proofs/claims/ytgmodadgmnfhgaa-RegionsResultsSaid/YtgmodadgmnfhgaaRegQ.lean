/- Regions, in plain Lean: parents, nesting, checking. -/
import Derived.Test.YtgmodadgmnfhgaaRegP
namespace Go.Proofs.Ytgmodadgmnfhgaa
open Go.Lib
def properE (r : Reg) : Int := if r.kind < 1 ∨ 8 < r.kind then 9 else if r.top < 0 ∨ r.bot ≤ r.top ∨ 60 < r.bot ∨ r.left < 0 ∨ r.right ≤ r.left ∨ 132 < r.right then 2 else 0
def properB (r : Reg) : Bool := decide (properE r = 0)
structure Proper (r : Reg) : Prop where
  k1 : 1 ≤ r.kind
  k8 : r.kind ≤ 8
  t0 : 0 ≤ r.top
  tb : r.top < r.bot
  b60 : r.bot ≤ 60
  l0 : 0 ≤ r.left
  lr : r.left < r.right
  r132 : r.right ≤ 132
theorem properE_iff (r : Reg) : properE r = 0 ↔ Proper r := by
  unfold properE
  constructor
  · intro h
    split at h
    · omega
    · split at h
      · omega
      · constructor <;> omega
  · rintro ⟨h1, h2, h3, h4, h5, h6, h7, h8⟩
    rw [if_neg (by omega), if_neg (by omega)]
theorem properB_iff (r : Reg) : properB r = true ↔ Proper r := by simp [properB, properE_iff]
def inB (a b : Reg) : Bool := decide (a.top ≤ b.top) && decide (b.bot ≤ a.bot) && decide (a.left ≤ b.left) && decide (b.right ≤ a.right)
theorem inB_iff (a b : Reg) : inB a b = true ↔ a.top ≤ b.top ∧ b.bot ≤ a.bot ∧ a.left ≤ b.left ∧ b.right ≤ a.right := by
  simp [inB, and_assoc]
def area (r : Reg) : Int := (r.bot - r.top) * (r.right - r.left)
theorem area_pos {r : Reg} (h : Proper r) : 0 < area r ∧ area r ≤ 7920 := by
  obtain ⟨h1, h2, h3, h4, h5, h6, h7, h8⟩ := h
  unfold area
  constructor
  · exact Int.mul_pos (by omega) (by omega)
  · have : (r.bot - r.top) * (r.right - r.left) ≤ 60 * 132 := Int.mul_le_mul (by omega) (by omega) (by omega) (by omega)
    omega
theorem area_mono {a b : Reg} (hb : Proper b) (h : inB a b = true) : area b ≤ area a := by
  rw [inB_iff] at h
  obtain ⟨h1, h2, h3, h4⟩ := h
  unfold area
  exact Int.mul_le_mul (by omega) (by omega) (by have := hb.lr; omega) (by have := hb.tb; omega)
/-- The last of the smallest among the first k regions with p; -1: none. -/
def best (l : List Reg) (p : Reg → Bool) : Nat → Int
  | 0 => -1
  | k + 1 => if p l[k]! = true ∧ (best l p k < 0 ∨ area l[k]! ≤ area l[(best l p k).toNat]!) then k else best l p k
theorem best_rng (l : List Reg) (p : Reg → Bool) : ∀ k, -1 ≤ best l p k ∧ best l p k < k
  | 0 => by simp [best]
  | k + 1 => by
    have := best_rng l p k
    unfold best
    split <;> omega
theorem best_mono (l : List Reg) (p : Reg → Bool) (i : Nat) : ∀ k, i ≤ k → best l p i ≤ best l p k
  | 0, h => by
    obtain rfl : i = 0 := by omega
    exact Int.le_refl _
  | k + 1, h => by
    rcases Nat.lt_or_ge k i with h1 | h1
    · obtain rfl : i = k + 1 := by omega
      exact Int.le_refl _
    · have h2 := best_mono l p i k h1
      have h3 := best_rng l p k
      rw [show best l p (k + 1) = if p l[k]! = true ∧ (best l p k < 0 ∨ area l[k]! ≤ area l[(best l p k).toNat]!) then (k : Int) else best l p k from rfl]
      split <;> omega
theorem best_spec (l : List Reg) (p : Reg → Bool) : ∀ k, (best l p k < 0 → ∀ j, j < k → p l[j]! = false) ∧ (0 ≤ best l p k → p l[(best l p k).toNat]! = true ∧ ∀ j, j < k → p l[j]! = true → area l[(best l p k).toNat]! ≤ area l[j]!)
  | 0 => ⟨fun _ j hj => by omega, fun h => by simp [best] at h⟩
  | k + 1 => by
    obtain ⟨i1, i2⟩ := best_spec l p k
    have hr := best_rng l p k
    rw [show best l p (k + 1) = if p l[k]! = true ∧ (best l p k < 0 ∨ area l[k]! ≤ area l[(best l p k).toNat]!) then (k : Int) else best l p k from rfl]
    split
    · rename_i h
      obtain ⟨h1, h2⟩ := h
      refine ⟨fun h => by omega, fun _ => ?_⟩
      rw [Int.toNat_natCast]
      refine ⟨h1, fun j hj hp => ?_⟩
      rcases Nat.lt_or_ge j k with hjk | hjk
      · rcases h2 with h2 | h2
        · rw [i1 h2 j hjk] at hp; cases hp
        · exact Int.le_trans h2 ((i2 (by
            rcases Int.lt_or_le (best l p k) 0 with h0 | h0
            · rw [i1 h0 j hjk] at hp; cases hp
            · exact h0)).2 j hjk hp)
      · obtain rfl : j = k := by omega
        exact Int.le_refl _
    · rename_i h
      have hk : p l[k]! = true → ¬ (best l p k < 0) ∧ ¬ (area l[k]! ≤ area l[(best l p k).toNat]!) := fun hp => by
        constructor <;> intro h2 <;> exact h ⟨hp, by first | exact .inl h2 | exact .inr h2⟩
      refine ⟨fun h0 j hj => ?_, fun h0 => ⟨(i2 h0).1, fun j hj hp => ?_⟩⟩
      · rcases Nat.lt_or_ge j k with hjk | hjk
        · exact i1 h0 j hjk
        · obtain rfl : j = k := by omega
          cases hp : p l[j]! with
          | false => rfl
          | true => exact absurd h0 (hk hp).1
      · rcases Nat.lt_or_ge j k with hjk | hjk
        · exact (i2 h0).2 j hjk hp
        · obtain rfl : j = k := by omega
          have := (hk hp).2
          omega
theorem best_congr {l m : List Reg} {p q : Reg → Bool} : ∀ {k : Nat}, (∀ j, j < k → p l[j]! = q m[j]! ∧ area l[j]! = area m[j]!) → best l p k = best m q k
  | 0, _ => rfl
  | k + 1, h => by
    have ih := best_congr (p := p) (q := q) (fun j (hj : j < k) => h j (by omega))
    obtain ⟨h1, h2⟩ := h k (by omega)
    have hr := best_rng m q k
    rw [show best l p (k + 1) = if p l[k]! = true ∧ (best l p k < 0 ∨ area l[k]! ≤ area l[(best l p k).toNat]!) then (k : Int) else best l p k from rfl,
      show best m q (k + 1) = if q m[k]! = true ∧ (best m q k < 0 ∨ area m[k]! ≤ area m[(best m q k).toNat]!) then (k : Int) else best m q k from rfl, ih, h1, h2]
    by_cases h0 : best m q k < 0
    · simp [h0]
    · rw [(h (best m q k).toNat (by omega)).2]
def parentL (l : List Reg) (i : Nat) : Int := best l (fun r => inB r l[i]!) i
def posIn (row col : Int) (r : Reg) : Bool := decide (r.top ≤ row) && decide (row < r.bot) && decide (r.left ≤ col) && decide (col < r.right)
def atL (l : List Reg) (row col : Int) : Int := best l (posIn row col) l.length
/-- The place of x in a sorted list, looked for from k down. -/
def posL (l : List Reg) (x : Reg) : Nat → Nat
  | 0 => 0
  | k + 1 => if ltR x l[k]! = true then posL l x k else k + 1
def insR (l : List Reg) (x : Reg) : List Reg := l.take (posL l x l.length) ++ x :: l.drop (posL l x l.length)
def sortL (l : List Reg) : List Reg := l.foldl insR []
theorem sortL_snoc (l : List Reg) (x : Reg) : sortL (l ++ [x]) = insR (sortL l) x := by simp [sortL, List.foldl_append]
theorem posL_spec (l : List Reg) (x : Reg) : ∀ k, posL l x k ≤ k ∧ (∀ j, posL l x k ≤ j → j < k → ltR x l[j]! = true) ∧ (posL l x k = 0 ∨ ltR x l[posL l x k - 1]! = false)
  | 0 => ⟨Nat.le_refl _, fun j h1 h2 => by omega, .inl rfl⟩
  | k + 1 => by
    obtain ⟨h1, h2, h3⟩ := posL_spec l x k
    rw [show posL l x (k + 1) = if ltR x l[k]! = true then posL l x k else k + 1 from rfl]
    split
    · rename_i h
      refine ⟨by omega, fun j a b => ?_, h3⟩
      rcases Nat.lt_or_ge j k with c | c
      · exact h2 j a c
      · obtain rfl : j = k := by omega
        exact h
    · rename_i h
      refine ⟨Nat.le_refl _, fun j a b => by omega, .inr ?_⟩
      rw [Nat.add_sub_cancel]
      simpa using h
theorem insR_perm (l : List Reg) (x : Reg) : (insR l x).Perm (x :: l) := by
  unfold insR
  exact (List.perm_middle).trans (by rw [List.take_append_drop])
theorem insR_len (l : List Reg) (x : Reg) : (insR l x).length = l.length + 1 := by rw [(insR_perm l x).length_eq]; rfl
theorem leR_trans {a b c : Reg} (h1 : leR a b) (h2 : leR b c) : leR a c := by
  unfold leR at *
  have b1 := cmpTO.lt_le a b c
  have b2 := cmpTO.le_lt a b c
  have b3 := cmpTO.eq a b c
  omega
theorem le_of_not_lt {a b : Reg} (h : ltR a b = false) : leR b a := by
  unfold ltR at h
  have a1 := cmpTO.anti a b
  have a2 := cmpTO.anti b a
  unfold leR
  simp at h
  omega
theorem le_of_lt {a b : Reg} (h : ltR a b = true) : leR a b := by
  unfold ltR at h
  unfold leR
  simp at h
  omega
theorem get_le {l : List Reg} (h : l.Pairwise leR) {i j : Nat} (hij : i < j) (hj : j < l.length) : leR l[i]! l[j]! := by
  rw [getElem!_pos l i (by omega), getElem!_pos l j hj]
  exact List.pairwise_iff_getElem.1 h i j (by omega) hj hij
theorem insR_sorted {l : List Reg} (x : Reg) (h : l.Pairwise leR) : (insR l x).Pairwise leR := by
  obtain ⟨h1, h2, h3⟩ := posL_spec l x l.length
  unfold insR
  generalize posL l x l.length = k at *
  rw [List.pairwise_append]
  refine ⟨h.sublist (List.take_sublist _ _), List.pairwise_cons.2 ⟨fun y hy => ?_, h.sublist (List.drop_sublist _ _)⟩, fun a ha b hb => ?_⟩
  · obtain ⟨j, hj, rfl⟩ := List.getElem_of_mem hy
    rw [List.length_drop] at hj
    rw [List.getElem_drop]
    have := h2 (k + j) (by omega) (by omega)
    rw [getElem!_pos l (k + j) (by omega)] at this
    exact le_of_lt this
  · obtain ⟨i, hi, rfl⟩ := List.getElem_of_mem ha
    rw [List.length_take] at hi
    rw [List.getElem_take]
    have hax : leR l[i] x := by
      have h4 : leR l[k - 1]! x := le_of_not_lt (h3.resolve_left (by omega))
      rcases Nat.lt_or_ge i (k - 1) with c | c
      · have := get_le h c (by omega)
        rw [getElem!_pos l i (by omega)] at this
        exact leR_trans this h4
      · obtain rfl : i = k - 1 := by omega
        rwa [getElem!_pos l (k - 1) (by omega)] at h4
    rcases List.mem_cons.1 hb with rfl | hb
    · exact hax
    · obtain ⟨j, hj, rfl⟩ := List.getElem_of_mem hb
      rw [List.length_drop] at hj
      rw [List.getElem_drop]
      exact List.pairwise_iff_getElem.1 h i (k + j) (by omega) (by omega) (by omega)
theorem fold_perm : ∀ (l acc : List Reg), (l.foldl insR acc).Perm (l ++ acc)
  | [], acc => List.Perm.refl _
  | x :: l, acc => by
    rw [List.foldl_cons]
    refine (fold_perm l (insR acc x)).trans ?_
    refine (List.Perm.append_left l (insR_perm acc x)).trans ?_
    exact List.perm_middle
theorem fold_sorted : ∀ (l acc : List Reg), acc.Pairwise leR → (l.foldl insR acc).Pairwise leR
  | [], _, h => h
  | x :: l, acc, h => fold_sorted l _ (insR_sorted x h)
theorem sortL_perm (l : List Reg) : (sortL l).Perm l := by
  have := fold_perm l []
  rwa [List.append_nil] at this
theorem sortL_sorted (l : List Reg) : (sortL l).Pairwise leR := fold_sorted l [] List.Pairwise.nil
theorem sortL_len (l : List Reg) : (sortL l).length = l.length := (sortL_perm l).length_eq
/-- Whatever is sorted and has the same regions is sortL. -/
theorem sortL_unique {l m : List Reg} (h : m.Pairwise leR) (hp : m.Perm l) : m = sortL l := sorted_eq h (sortL_sorted l) (hp.trans (sortL_perm l).symm)
theorem sortL_congr {l m : List Reg} (h : l.Perm m) : sortL l = sortL m := sortL_unique (sortL_sorted l) ((sortL_perm l).trans h)
theorem sortL_id {l : List Reg} (h : l.Pairwise leR) : sortL l = l := (sortL_unique h (List.Perm.refl _)).symm
def setPar (r : Reg) (p : Int) : Reg := { r with par := p }
/-- The first k have their parents. -/
def parK (s : List Reg) (k : Nat) : List Reg := (List.range s.length).map fun i => if i < k then setPar s[i]! (parentL s i) else s[i]!
def parL (s : List Reg) : List Reg := parK s s.length
def nestL (l : List Reg) : List Reg := parL (sortL (l.filter properB))
theorem parK_len (s : List Reg) (k : Nat) : (parK s k).length = s.length := by simp [parK]
theorem parK_get {s : List Reg} {k i : Nat} (h : i < s.length) : (parK s k)[i]! = if i < k then setPar s[i]! (parentL s i) else s[i]! := by
  rw [getElem!_pos _ i (by rw [parK_len]; exact h)]
  simp [parK]
theorem parK_zero (s : List Reg) : parK s 0 = s := by
  apply List.ext_getElem (parK_len s 0)
  intro i h1 h2
  have := parK_get (k := 0) h2
  rw [getElem!_pos _ i h1, if_neg (by omega), getElem!_pos s i h2] at this
  exact this
theorem setPar_rect (r : Reg) (p : Int) : (∀ x, inB (setPar r p) x = inB r x) ∧ (∀ x, inB x (setPar r p) = inB x r) ∧ area (setPar r p) = area r ∧ properE (setPar r p) = properE r ∧ (∀ a b, posIn a b (setPar r p) = posIn a b r) := ⟨fun _ => rfl, fun _ => rfl, rfl, rfl, fun _ _ => rfl⟩
theorem parK_rect {s : List Reg} {k i : Nat} (h : i < s.length) : (∀ x, inB (parK s k)[i]! x = inB s[i]! x) ∧ (∀ x, inB x (parK s k)[i]! = inB x s[i]!) ∧ area (parK s k)[i]! = area s[i]! ∧ properE (parK s k)[i]! = properE s[i]! ∧ (∀ a b, posIn a b (parK s k)[i]! = posIn a b s[i]!) := by
  rw [parK_get h]
  split
  · exact setPar_rect _ _
  · exact ⟨fun _ => rfl, fun _ => rfl, rfl, rfl, fun _ _ => rfl⟩
theorem parent_parK {s : List Reg} {k i : Nat} (h : i < s.length) : parentL (parK s k) i = parentL s i := by
  unfold parentL
  refine best_congr fun j hj => ?_
  have h1 := parK_rect (s := s) (k := k) (i := j) (by omega)
  have h2 := parK_rect (s := s) (k := k) h
  exact ⟨by rw [h1.1, h2.2.1], h1.2.2.1⟩
theorem parK_succ {s : List Reg} {k : Nat} (h : k < s.length) : parK s (k + 1) = (parK s k).set k (setPar (parK s k)[k]! (parentL (parK s k) k)) := by
  apply List.ext_getElem (by simp [parK_len])
  intro i h1 h2
  rw [parK_len] at h1
  have e1 := parK_get (k := k + 1) h1
  have e2 := parK_get (k := k) h1
  rw [getElem!_pos _ i (by rw [parK_len]; exact h1)] at e1 e2
  rw [List.getElem_set, e1, e2, parent_parK h, parK_get h]
  rcases Nat.lt_trichotomy i k with c | c | c
  · rw [if_pos (by omega), if_neg (by omega), if_pos c]
  · subst c
    rw [if_pos (by omega), if_pos rfl, if_neg (by omega)]
  · rw [if_neg (by omega), if_neg (by omega), if_neg (by omega)]
theorem parL_len (s : List Reg) : (parL s).length = s.length := parK_len s _
theorem parL_get {s : List Reg} {i : Nat} (h : i < s.length) : (parL s)[i]! = setPar s[i]! (parentL s i) := by rw [parL, parK_get h, if_pos h]
theorem nestL_len (l : List Reg) : (nestL l).length ≤ l.length := by
  rw [nestL, parL_len, sortL_len]
  exact List.length_filter_le _ _
end Go.Proofs.Ytgmodadgmnfhgaa
