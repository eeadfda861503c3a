/- Regions, in plain Lean: nesting twice, checking, the tree. -/
import Derived.Test.YtgmodadgmnfhgaaRegQ
namespace Go.Proofs.Ytgmodadgmnfhgaa
open Go.Lib
theorem nestL_perm {l m : List Reg} (h : l.Perm m) : nestL l = nestL m := by
  unfold nestL
  rw [sortL_congr (h.filter properB)]
/-- The order without the parents. -/
def cmp7 (a b : Reg) : Int := cmpR (setPar a 0) (setPar b 0)
theorem ci_self (x : Int) : compareInt x x = 0 := compareInt_eq.2 rfl
theorem cmpR_split (a b : Reg) : cmpR a b = if cmp7 a b = 0 then compareInt a.par b.par else cmp7 a b := by
  simp only [cmp7, cmpR, keyL, firstL, setPar, ci_self]
  repeat' split
  all_goals first | rfl | omega | (exfalso; simp_all; done) | skip
theorem cmp7TO : TO cmp7 := cmpTO.pull fun r => setPar r 0
theorem cmp7_zero {a b : Reg} (h : cmp7 a b = 0) : setPar a 0 = setPar b 0 := cmpR_zero h
theorem rect_of_zero {a b : Reg} (h : cmp7 a b = 0) : (∀ x, inB x a = inB x b) ∧ (∀ x, inB a x = inB b x) ∧ area a = area b := by
  have e := cmp7_zero h
  refine ⟨fun x => ?_, fun x => ?_, ?_⟩
  · rw [← (setPar_rect a 0).2.1, ← (setPar_rect b 0).2.1, e]
  · rw [← (setPar_rect a 0).1, ← (setPar_rect b 0).1, e]
  · rw [← (setPar_rect a 0).2.2.1, ← (setPar_rect b 0).2.2.1, e]
theorem inB_self (a : Reg) : inB a a = true := by rw [inB_iff]; omega
theorem parent_up {s : List Reg} (hp : ∀ i, i < s.length → Proper s[i]!) {i j : Nat} (hij : i < j) (hj : j < s.length) (h : cmp7 s[i]! s[j]! = 0) : parentL s i < parentL s j := by
  obtain ⟨r1, r2, r3⟩ := rect_of_zero h
  have hb := best_rng s (fun r => inB r s[i]!) i
  have hm := best_mono s (fun r => inB r s[j]!) (i + 1) j hij
  have hst : best s (fun r => inB r s[j]!) (i + 1) = i := by
    have hpi : inB s[i]! s[j]! = true := by rw [← r1]; exact inB_self _
    rw [show best s (fun r => inB r s[j]!) (i + 1) = if (fun r => inB r s[j]!) s[i]! = true ∧ (best s (fun r => inB r s[j]!) i < 0 ∨ area s[i]! ≤ area s[(best s (fun r => inB r s[j]!) i).toNat]!) then (i : Int) else best s (fun r => inB r s[j]!) i from rfl]
    refine if_pos ⟨hpi, ?_⟩
    rcases Int.lt_or_le (best s (fun r => inB r s[j]!) i) 0 with h0 | h0
    · exact .inl h0
    · refine .inr ?_
      have hs := ((best_spec s (fun r => inB r s[j]!) i).2 h0).1
      simp only [← r1] at hs ⊢
      exact area_mono (hp i (by omega)) hs
  unfold parentL
  omega
theorem cmp7_setPar (a b : Reg) (p q : Int) : cmp7 (setPar a p) (setPar b q) = cmp7 a b := rfl
theorem parL_sorted {s : List Reg} (hs : s.Pairwise leR) (hp : ∀ i, i < s.length → Proper s[i]!) : (parL s).Pairwise leR := by
  rw [List.pairwise_iff_getElem]
  intro i j hi hj hij
  rw [← getElem!_pos (parL s) i hi, ← getElem!_pos (parL s) j hj]
  rw [parL_len] at hi hj
  rw [parL_get hi, parL_get hj]
  have h := get_le hs hij hj
  unfold leR at h ⊢
  rw [cmpR_split] at h ⊢
  rw [cmp7_setPar]
  split
  · rename_i h0
    have := parent_up hp hij hj h0
    show compareInt (parentL s i) (parentL s j) ≤ 0
    unfold compareInt
    rw [if_pos this]
    omega
  · rename_i h0
    rwa [if_neg h0] at h
theorem sorted_proper (l : List Reg) (i : Nat) (hi : i < (sortL (l.filter properB)).length) : Proper (sortL (l.filter properB))[i]! := by
  have hm : (sortL (l.filter properB))[i]! ∈ sortL (l.filter properB) := by
    rw [getElem!_pos _ i hi]
    exact List.getElem_mem hi
  have := (sortL_perm _).mem_iff.1 hm
  exact (properB_iff _).1 (List.mem_filter.1 this).2
theorem nest_sorted (l : List Reg) : (nestL l).Pairwise leR := parL_sorted (sortL_sorted _) (sorted_proper l)
theorem nest_lenS (l : List Reg) : (nestL l).length = (sortL (l.filter properB)).length := parL_len _
theorem nest_proper (l : List Reg) (i : Nat) (hi : i < (nestL l).length) : Proper (nestL l)[i]! := by
  rw [nest_lenS] at hi
  unfold nestL
  rw [parL_get hi, ← properE_iff, (setPar_rect _ _).2.2.2.1, properE_iff]
  exact sorted_proper l i hi
theorem nest_filter (l : List Reg) : (nestL l).filter properB = nestL l := by
  rw [List.filter_eq_self]
  intro r hr
  obtain ⟨i, hi, rfl⟩ := List.getElem_of_mem hr
  rw [properB_iff, ← getElem!_pos _ i hi]
  exact nest_proper l i hi
theorem parL_parL (s : List Reg) : parL (parL s) = parL s := by
  apply List.ext_getElem (parL_len _)
  intro i h1 h2
  rw [← getElem!_pos _ i h1, ← getElem!_pos _ i h2]
  rw [parL_get h2]
  rw [parL_len] at h2
  rw [parL_get h2]
  unfold parL
  rw [parent_parK h2]
  rfl
theorem nest_nest (l : List Reg) : nestL (nestL l) = nestL l := by
  have h : nestL (nestL l) = parL (sortL ((nestL l).filter properB)) := rfl
  rw [h, nest_filter, sortL_id (nest_sorted l)]
  exact parL_parL _
theorem nest_par (l : List Reg) (i : Nat) (hi : i < (nestL l).length) : (nestL l)[i]!.par = parentL (nestL l) i := by
  rw [nest_lenS] at hi
  unfold nestL
  rw [parL_get hi]
  unfold parL
  rw [parent_parK hi]
  rfl
def errN (l : List Reg) : Nat → Int
  | 0 => 0
  | k + 1 => if errN l k = 0 then properE l[k]! else errN l k
def ordN (l : List Reg) : Nat → Bool
  | 0 => true
  | k + 1 => ordN l k && (decide (k = 0) || !(ltR l[k]! (setPar l[k - 1]! l[k]!.par)))
def parN (l : List Reg) : Nat → Bool
  | 0 => true
  | k + 1 => parN l k && decide (l[k]!.par = parentL l k)
def checkL (l : List Reg) : Int := if 200 < l.length then 5 else if errN l l.length = 0 then (if ordN l l.length = true then (if parN l l.length = true then 0 else 11) else 10) else errN l l.length
theorem errN_stay {l : List Reg} {k : Nat} (h : errN l k ≠ 0) : ∀ m, k ≤ m → errN l m = errN l k
  | 0, hm => by
    obtain rfl : k = 0 := by omega
    rfl
  | m + 1, hm => by
    rcases Nat.lt_or_ge m k with c | c
    · obtain rfl : k = m + 1 := by omega
      rfl
    · have ih := errN_stay h m c
      rw [errN, if_neg (by rw [ih]; exact h), ih]
theorem ordN_stay {l : List Reg} {k : Nat} (h : ordN l k = false) : ∀ m, k ≤ m → ordN l m = false
  | 0, hm => by
    obtain rfl : k = 0 := by omega
    exact h
  | m + 1, hm => by
    rcases Nat.lt_or_ge m k with c | c
    · obtain rfl : k = m + 1 := by omega
      exact h
    · rw [ordN, ordN_stay h m c]; rfl
theorem parN_stay {l : List Reg} {k : Nat} (h : parN l k = false) : ∀ m, k ≤ m → parN l m = false
  | 0, hm => by
    obtain rfl : k = 0 := by omega
    exact h
  | m + 1, hm => by
    rcases Nat.lt_or_ge m k with c | c
    · obtain rfl : k = m + 1 := by omega
      exact h
    · rw [parN, parN_stay h m c]; rfl
theorem errN_ok {l : List Reg} : ∀ {k : Nat}, (∀ i, i < k → properE l[i]! = 0) → errN l k = 0
  | 0, _ => rfl
  | k + 1, h => by rw [errN, if_pos (errN_ok fun i hi => h i (by omega))]; exact h k (by omega)
theorem ordN_ok {l : List Reg} : ∀ {k : Nat}, (∀ i, 0 < i → i < k → ltR l[i]! (setPar l[i - 1]! l[i]!.par) = false) → ordN l k = true
  | 0, _ => rfl
  | k + 1, h => by
    rw [ordN, ordN_ok fun i h0 hi => h i h0 (by omega)]
    rcases Nat.eq_zero_or_pos k with c | c
    · simp [c]
    · rw [h k c (by omega)]
      simp
theorem parN_ok {l : List Reg} : ∀ {k : Nat}, (∀ i, i < k → l[i]!.par = parentL l i) → parN l k = true
  | 0, _ => rfl
  | k + 1, h => by rw [parN, parN_ok fun i hi => h i (by omega), Bool.true_and]; exact decide_eq_true (h k (by omega))
theorem check_nest (l : List Reg) (h : l.length ≤ 200) : checkL (nestL l) = 0 := by
  have hn := nestL_len l
  unfold checkL
  rw [if_neg (by omega), if_pos (errN_ok fun i hi => (properE_iff _).2 (nest_proper l i hi)), if_pos (ordN_ok fun i h0 hi => ?_), if_pos (parN_ok fun i hi => nest_par l i hi)]
  have hs := get_le (nest_sorted l) (show i - 1 < i by omega) hi
  unfold leR at hs
  unfold ltR
  rw [cmpR_split] at hs
  rw [cmpR_split]
  have a1 := cmp7TO.anti (nestL l)[i]! (nestL l)[i - 1]!
  have a2 := cmp7TO.anti (nestL l)[i - 1]! (nestL l)[i]!
  have e : cmp7 (nestL l)[i]! (setPar (nestL l)[i - 1]! (nestL l)[i]!.par) = cmp7 (nestL l)[i]! (nestL l)[i - 1]! := rfl
  rw [e]
  simp only [decide_eq_false_iff_not]
  split
  · rw [show (setPar (nestL l)[i - 1]! (nestL l)[i]!.par).par = (nestL l)[i]!.par from rfl, ci_self]
    omega
  · split at hs <;> omega
theorem nest_tree (l : List Reg) {i : Nat} (hi : i < (nestL l).length) :
    -1 ≤ (nestL l)[i]!.par ∧ (nestL l)[i]!.par < i ∧ (0 ≤ (nestL l)[i]!.par → inB (nestL l)[(nestL l)[i]!.par.toNat]! (nestL l)[i]! = true) ∧
    ∀ k, k < i → inB (nestL l)[k]! (nestL l)[i]! = true → 0 ≤ (nestL l)[i]!.par ∧ area (nestL l)[(nestL l)[i]!.par.toNat]! ≤ area (nestL l)[k]! := by
  have h1 := best_rng (nestL l) (fun r => inB r (nestL l)[i]!) i
  obtain ⟨h2, h3⟩ := best_spec (nestL l) (fun r => inB r (nestL l)[i]!) i
  rw [nest_par l i hi]
  unfold parentL
  refine ⟨h1.1, h1.2, fun h => (h3 h).1, fun k hk hc => ?_⟩
  rcases Int.lt_or_le (best (nestL l) (fun r => inB r (nestL l)[i]!) i) 0 with h0 | h0
  · have := h2 h0 k hk
    rw [hc] at this
    cases this
  · exact ⟨h0, (h3 h0).2 k hk hc⟩
/-- The indices of the children of p among the first k. -/
def kidsL (l : List Reg) (p : Int) : Nat → List Int
  | 0 => []
  | k + 1 => if l[k]!.par = p then kidsL l p k ++ [(k : Int)] else kidsL l p k
theorem kids_len (l : List Reg) (p : Int) : ∀ k, (kidsL l p k).length ≤ k
  | 0 => Nat.le_refl _
  | k + 1 => by
    have := kids_len l p k
    rw [kidsL]
    split
    · simp; omega
    · omega
theorem kids_mem {l : List Reg} {p : Int} : ∀ {k : Nat} {x : Int}, x ∈ kidsL l p k → 0 ≤ x ∧ x < k ∧ l[x.toNat]!.par = p
  | 0, x, h => by cases h
  | k + 1, x, h => by
    rw [kidsL] at h
    split at h
    · rename_i hp
      rcases List.mem_append.1 h with h | h
      · have := kids_mem h; exact ⟨this.1, by omega, this.2.2⟩
      · simp at h
        subst h
        exact ⟨by omega, by omega, by simpa using hp⟩
    · have := kids_mem h; exact ⟨this.1, by omega, this.2.2⟩
/-- How many of the first k have a parent below m. -/
def cntP (l : List Reg) (m : Int) : Nat → Nat
  | 0 => 0
  | k + 1 => cntP l m k + (if l[k]!.par < m then 1 else 0)
theorem cntP_step (l : List Reg) (m : Int) : ∀ k, cntP l (m + 1) k = cntP l m k + (kidsL l m k).length
  | 0 => rfl
  | k + 1 => by
    rw [cntP, cntP, kidsL, cntP_step l m k]
    by_cases h1 : l[k]!.par = m
    · rw [if_pos (by omega), if_pos h1, if_neg (by omega), List.length_append, List.length_singleton]
      omega
    · rw [if_neg h1]
      by_cases h2 : l[k]!.par < m
      · rw [if_pos (by omega), if_pos h2]
        omega
      · rw [if_neg (by omega), if_neg h2]
        omega
theorem cntP_low {l : List Reg} : ∀ {k : Nat}, (∀ i, i < k → -1 ≤ l[i]!.par) → cntP l (-1) k = 0
  | 0, _ => rfl
  | k + 1, h => by
    have := h k (by omega)
    rw [cntP, cntP_low fun i hi => h i (by omega), if_neg (by omega)]
theorem cntP_all {l : List Reg} {m : Int} : ∀ {k : Nat}, (∀ i, i < k → l[i]!.par < m) → cntP l m k = k
  | 0, _ => rfl
  | k + 1, h => by rw [cntP, cntP_all fun i hi => h i (by omega), if_pos (h k (by omega))]
end Go.Proofs.Ytgmodadgmnfhgaa
