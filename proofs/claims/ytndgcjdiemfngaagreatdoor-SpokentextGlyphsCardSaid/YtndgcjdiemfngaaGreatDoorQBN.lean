/- Joined texts: Ref2, RefP. -/
import Derived.Test.YtndgcjdiemfngaaGreatDoorQAF
import Derived.Test.YtndgcjdiemfngaaGreatDoorQBH
set_option linter.unusedVariables false
set_option linter.unusedSimpArgs false
set_option linter.unnecessarySimpa false
/- The reference of layer 38: positive, Words. -/
namespace Go.Proofs.YtndgcjdiemfngaaGreatDoor
open Go.RowKit
set_option maxRecDepth 100000 in
set_option maxHeartbeats 1000000 in
theorem rpos_a (n : Nat) (hn : n < 1000) (x : Int) (hx : x = n) (w : World) (ht : Tb w) :
    Calls Tryz.prog 107 #[.int .i64 x] w (GivesOwn 9 1 id w (rposL n).length (wv (rposL n))) := by
  have HS := Lib.hid (rsmall n hn w ht)
  rw [← rpos_small n hn, ← hx] at HS
  have x1 : x < 1000 := by omega
  clear ht hx hn
  go_enter Tryz.func107, Tryz.ntmps107
  go_wp2_with (go_at_call 151; refine HS.out.mono ?_; rintro e w1 ⟨A1, c1, rfl, hown1, hbel1⟩)
  go_ret
  exact ⟨A1, c1, rfl, hown1, hbel1⟩
set_option maxRecDepth 100000 in
set_option maxHeartbeats 2000000 in
theorem rpos_b (n : Nat) (h1 : 1000 ≤ n) (h2 : n < 1000000) (x : Int) (hx : x = n) (w : World) (ht : Tb w) :
    Calls Tryz.prog 107 #[.int .i64 x] w (GivesOwn 9 1 id w (rposL n).length (wv (rposL n))) := by
  have HT := Lib.hid ht
  have x1 : 1000 ≤ x := by omega
  have x2 : x < 1000000 := by omega
  have hq : n / 1000 < 1000 := by omega
  have HS : Hid (∀ w, Tb w → Calls Tryz.prog 151 #[.int .i64 (x / 1000)] w (GivesOwn 9 1 id w (rsmallL (n / 1000)).length (wv (rsmallL (n / 1000))))) := Lib.hid fun w ht => by
    have := rsmall (n / 1000) hq w ht
    rwa [show ((n / 1000 : Nat) : Int) = x / 1000 from by omega] at this
  have HR : Hid (∀ w, Tb w → Calls Tryz.prog 107 #[.int .i64 (x % 1000)] w (GivesOwn 9 1 id w (rposL (n % 1000)).length (wv (rposL (n % 1000))))) := Lib.hid fun w ht => by
    exact rpos_a (n % 1000) (by omega) (x % 1000) (by omega) w ht
  have HL := Lib.hid (rpos_thousand n (by omega) (by omega))
  have l1 := rsmallL_le (n / 1000)
  have l2 := rposL_le (n % 1000)
  by_cases c3 : n % 1000 = 0
  · have c3' : (x % 1000 != 0) = false := by rw [bne_eq_false_iff_eq]; omega
    have HL2 : Hid (rposL n = rsmallL (n / 1000) ++ [29]) := Lib.hid (by rw [HL.out, if_pos c3, List.append_nil])
    clear ht c3 hx h1 h2 hq
    generalize rsmallL (n / 1000) = L at *
    go_enter Tryz.func107, Tryz.ntmps107
    go_wp2_with (first
      | (go_at_call 151; refine (HS.out _ HT.out).mono ?_; rintro e w1 ⟨A1, c1, rfl, hown1, hbel1⟩; have z1 := hbel1.size)
      | (at_builtin; refine app_list rfl _ _ _ rfl elt_str (w.heap.size) _ rfl (hown1.alloc _) _ _ rfl (rd_built (by rfl) rfl) (by first | rfl | exact sv_one _ | exact wv_one _) (by omega) (by omega) (by first | (simp; done) | (simp; omega) | omega) ?_; intro A2 c2 w2 hown2 hbel2 hgr2 hat2; have z2 := hbel2.size; (try simp only [World.size_alloc] at z2); (try simp only [Nat.zero_add, List.nil_append] at hown2)))
    go_ret
    rw [HL2.out]
    have e : (L ++ [29]).length = L.length + 1 := by simp
    exact ⟨A2, c2, by rw [e]; rfl, by rw [e]; simpa [wv, wb] using hown2, (hbel1.alloc (by omega) _).trans (hbel2.mono (by omega))⟩
  · have c3' : (x % 1000 != 0) = true := by rw [bne_iff_ne]; omega
    have HL2 : Hid (rposL n = rsmallL (n / 1000) ++ [29] ++ rposL (n % 1000)) := Lib.hid (by rw [HL.out, if_neg c3])
    clear ht c3 hx h1 h2 hq
    generalize rsmallL (n / 1000) = L at *
    generalize rposL (n % 1000) = L' at *
    go_enter Tryz.func107, Tryz.ntmps107
    go_wp2_with (first
      | (go_at_call 151; refine (HS.out _ HT.out).mono ?_; rintro e w1 ⟨A1, c1, rfl, hown1, hbel1⟩; have z1 := hbel1.size)
      | (at_builtin; refine app_list rfl _ _ _ rfl elt_str (w.heap.size) _ rfl (hown1.alloc _) _ _ rfl (rd_built (by rfl) rfl) (by first | rfl | exact sv_one _ | exact wv_one _) (by omega) (by omega) (by first | (simp; done) | (simp; omega) | omega) ?_; intro A2 c2 w2 hown2 hbel2 hgr2 hat2; have z2 := hbel2.size; (try simp only [World.size_alloc] at z2); (try simp only [Nat.zero_add, List.nil_append] at hown2))
      | (go_at_call 107; refine (HR.out _ (HT.out.below ((hbel1.alloc (by omega) _).trans hbel2))).mono ?_; rintro e w3 ⟨A3, c3, rfl, hown3, hbel3⟩; have z3 := hbel3.size; have hown2' := own_below hown2 hbel3)
      | (at_builtin; refine app_list rfl _ _ _ rfl elt_str (w.heap.size) _ rfl (hown2') _ _ rfl (Rd.of_own hown3) (by first | rfl | exact sv_one _ | exact wv_one _) (by omega) (by omega) (by first | (simp; done) | (simp; omega) | omega) ?_; intro A4 c4 w4 hown4 hbel4 hgr4 hat4; have z4 := hbel4.size; (try simp only [World.size_alloc] at z4); (try simp only [Nat.zero_add, List.nil_append] at hown4)))
    go_ret
    rw [HL2.out]
    have e : (L ++ [29] ++ L').length = L.length + 1 + L'.length := by simp; omega
    exact ⟨A4, c4, by rw [e]; rfl, by rw [e]; simpa [wv, wb] using hown4, (((hbel1.alloc (by omega) _).trans (hbel2.mono (by omega))).trans (hbel3.mono (by omega))).trans (hbel4.mono (by omega))⟩
theorem rpos_ab (n : Nat) (h2 : n < 1000000) (x : Int) (hx : x = n) (w : World) (ht : Tb w) :
    Calls Tryz.prog 107 #[.int .i64 x] w (GivesOwn 9 1 id w (rposL n).length (wv (rposL n))) := by
  rcases Nat.lt_or_ge n 1000 with h | h
  · exact rpos_a n h x hx w ht
  · exact rpos_b n h h2 x hx w ht
set_option maxRecDepth 100000 in
set_option maxHeartbeats 2000000 in
theorem rpos_c (n : Nat) (h1 : 1000000 ≤ n) (h2 : n < 1000000000) (x : Int) (hx : x = n) (w : World) (ht : Tb w) :
    Calls Tryz.prog 107 #[.int .i64 x] w (GivesOwn 9 1 id w (rposL n).length (wv (rposL n))) := by
  have HT := Lib.hid ht
  have x1 : 1000000 ≤ x := by omega
  have x2 : x < 1000000000 := by omega
  have hq : n / 1000000 < 1000 := by omega
  have HS : Hid (∀ w, Tb w → Calls Tryz.prog 151 #[.int .i64 (x / 1000000)] w (GivesOwn 9 1 id w (rsmallL (n / 1000000)).length (wv (rsmallL (n / 1000000))))) := Lib.hid fun w ht => by
    have := rsmall (n / 1000000) hq w ht
    rwa [show ((n / 1000000 : Nat) : Int) = x / 1000000 from by omega] at this
  have HR : Hid (∀ w, Tb w → Calls Tryz.prog 107 #[.int .i64 (x % 1000000)] w (GivesOwn 9 1 id w (rposL (n % 1000000)).length (wv (rposL (n % 1000000))))) := Lib.hid fun w ht => by
    exact rpos_ab (n % 1000000) (by omega) (x % 1000000) (by omega) w ht
  have HL := Lib.hid (rpos_million n (by omega) (by omega))
  have l1 := rsmallL_le (n / 1000000)
  have l2 := rposL_le (n % 1000000)
  by_cases c3 : n % 1000000 = 0
  · have c3' : (x % 1000000 != 0) = false := by rw [bne_eq_false_iff_eq]; omega
    have HL2 : Hid (rposL n = rsmallL (n / 1000000) ++ [30]) := Lib.hid (by rw [HL.out, if_pos c3, List.append_nil])
    clear ht c3 hx h1 h2 hq
    generalize rsmallL (n / 1000000) = L at *
    go_enter Tryz.func107, Tryz.ntmps107
    go_wp2_with (first
      | (go_at_call 151; refine (HS.out _ HT.out).mono ?_; rintro e w1 ⟨A1, c1, rfl, hown1, hbel1⟩; have z1 := hbel1.size)
      | (at_builtin; refine app_list rfl _ _ _ rfl elt_str (w.heap.size) _ rfl (hown1.alloc _) _ _ rfl (rd_built (by rfl) rfl) (by first | rfl | exact sv_one _ | exact wv_one _) (by omega) (by omega) (by first | (simp; done) | (simp; omega) | omega) ?_; intro A2 c2 w2 hown2 hbel2 hgr2 hat2; have z2 := hbel2.size; (try simp only [World.size_alloc] at z2); (try simp only [Nat.zero_add, List.nil_append] at hown2)))
    go_ret
    rw [HL2.out]
    have e : (L ++ [30]).length = L.length + 1 := by simp
    exact ⟨A2, c2, by rw [e]; rfl, by rw [e]; simpa [wv, wb] using hown2, (hbel1.alloc (by omega) _).trans (hbel2.mono (by omega))⟩
  · have c3' : (x % 1000000 != 0) = true := by rw [bne_iff_ne]; omega
    have HL2 : Hid (rposL n = rsmallL (n / 1000000) ++ [30] ++ rposL (n % 1000000)) := Lib.hid (by rw [HL.out, if_neg c3])
    clear ht c3 hx h1 h2 hq
    generalize rsmallL (n / 1000000) = L at *
    generalize rposL (n % 1000000) = L' at *
    go_enter Tryz.func107, Tryz.ntmps107
    go_wp2_with (first
      | (go_at_call 151; refine (HS.out _ HT.out).mono ?_; rintro e w1 ⟨A1, c1, rfl, hown1, hbel1⟩; have z1 := hbel1.size)
      | (at_builtin; refine app_list rfl _ _ _ rfl elt_str (w.heap.size) _ rfl (hown1.alloc _) _ _ rfl (rd_built (by rfl) rfl) (by first | rfl | exact sv_one _ | exact wv_one _) (by omega) (by omega) (by first | (simp; done) | (simp; omega) | omega) ?_; intro A2 c2 w2 hown2 hbel2 hgr2 hat2; have z2 := hbel2.size; (try simp only [World.size_alloc] at z2); (try simp only [Nat.zero_add, List.nil_append] at hown2))
      | (go_at_call 107; refine (HR.out _ (HT.out.below ((hbel1.alloc (by omega) _).trans hbel2))).mono ?_; rintro e w3 ⟨A3, c3, rfl, hown3, hbel3⟩; have z3 := hbel3.size; have hown2' := own_below hown2 hbel3)
      | (at_builtin; refine app_list rfl _ _ _ rfl elt_str (w.heap.size) _ rfl (hown2') _ _ rfl (Rd.of_own hown3) (by first | rfl | exact sv_one _ | exact wv_one _) (by omega) (by omega) (by first | (simp; done) | (simp; omega) | omega) ?_; intro A4 c4 w4 hown4 hbel4 hgr4 hat4; have z4 := hbel4.size; (try simp only [World.size_alloc] at z4); (try simp only [Nat.zero_add, List.nil_append] at hown4)))
    go_ret
    rw [HL2.out]
    have e : (L ++ [30] ++ L').length = L.length + 1 + L'.length := by simp; omega
    exact ⟨A4, c4, by rw [e]; rfl, by rw [e]; simpa [wv, wb] using hown4, (((hbel1.alloc (by omega) _).trans (hbel2.mono (by omega))).trans (hbel3.mono (by omega))).trans (hbel4.mono (by omega))⟩
theorem rpos (n : Nat) (h2 : n < 1000000000) (x : Int) (hx : x = n) (w : World) (ht : Tb w) :
    Calls Tryz.prog 107 #[.int .i64 x] w (GivesOwn 9 1 id w (rposL n).length (wv (rposL n))) := by
  rcases Nat.lt_or_ge n 1000000 with h | h
  · exact rpos_ab n h x hx w ht
  · exact rpos_c n h h2 x hx w ht
theorem wordsL_eq_pos (n : Nat) : wordsL n = rposL n := by
  unfold wordsL rposL
  by_cases h0 : n = 0
  · subst h0; rfl
  · have h1 : ¬ ((n : Int) = 0) := by omega
    have h2 : ¬ ((n : Int) < 0) := by omega
    rw [if_neg h1, if_neg h2, if_neg h0, Int.natAbs_natCast]
    rfl
theorem wordsL_eq_neg (n : Nat) (h0 : 0 < n) : wordsL (-(n : Int)) = 31 :: rposL n := by
  have e : (-(n : Int)).natAbs = n := by omega
  have h1 : ¬ (-(n : Int) = 0) := by omega
  have h2 : -(n : Int) < 0 := by omega
  unfold wordsL rposL
  rw [if_neg h1, if_pos h2, if_neg (by omega), e]
  rfl
set_option maxHeartbeats 400000 in
theorem rwords_range (n : Int) (h : n < -999999999 ∨ 999999999 < n) (w : World) :
    Calls Tryz.prog 70 #[.int .i64 n] w (Gives (.tuple #[.slice none 0 0, .int .i64 2]) w) := by
  rcases h with h | h
  · go_enter Tryz.func70, Tryz.ntmps70
    go_wp2
    go_ret2
    exact ⟨rfl, Below.refl _ _⟩
  · have h' : ¬ n < -999999999 := by omega
    go_enter Tryz.func70, Tryz.ntmps70
    go_wp2
    go_ret2
    exact ⟨rfl, Below.refl _ _⟩
set_option maxRecDepth 100000 in
set_option maxHeartbeats 1000000 in
theorem rwords_in (n : Int) (h1 : -999999999 ≤ n) (h2 : n ≤ 999999999) (w : World) (ht : Tb w) :
    Calls Tryz.prog 70 #[.int .i64 n] w (GivesOwn 9 1 okPair w (wordsL n).length (wv (wordsL n))) := by
  have HT := Lib.hid ht
  clear ht
  by_cases hn : n < 0
  · obtain ⟨m, hm⟩ : ∃ m : Nat, n = -(m : Int) := ⟨n.natAbs, by omega⟩
    have hm1 : 0 < m := by omega
    have HL := Lib.hid (wordsL_eq_neg m hm1)
    have hle := rposL_le m
    have HS : Hid (∀ w, Tb w → Calls Tryz.prog 107 #[.int .i64 (-n)] w (GivesOwn 9 1 id w (rposL m).length (wv (rposL m)))) := Lib.hid fun w ht => by
      exact rpos m (by omega) (-n) (by omega) w ht
    rw [← hm] at HL
    clear hm
    generalize rposL m = L at *
    go_enter Tryz.func70, Tryz.ntmps70
    go_wp2_with (first
      | (go_at_call 107; refine (HS.out _ (HT.out.below (by exact (Below.refl _ _).alloc (Nat.le_refl _) _))).mono ?_; rintro e w1 ⟨A1, c1, rfl, hown1, hbel1⟩; have z1 := hbel1.size; simp only [World.size_alloc] at z1; have hown0 : w1.ownsRow w.heap.size 9 1 (.slice (some ⟨w.heap.size, 0, none⟩) 1 1) 1 [.string (wb 31)] := own_below (own_built (by rfl) rfl (Nat.le_refl _) (by omega)) hbel1)
      | (at_builtin; refine app_list rfl _ _ _ rfl elt_str (w.heap.size) _ rfl (hown0) _ _ rfl (Rd.of_own hown1) (by first | rfl | exact sv_one _ | exact wv_one _) (by omega) (by omega) (by first | (simp; done) | (simp; omega) | omega) ?_; intro A2 c2 w2 hown2 hbel2 hgr2 hat2; have z2 := hbel2.size; (try simp only [World.size_alloc] at z2); (try simp only [Nat.zero_add, List.nil_append] at hown2)))
    go_ret2
    rw [HL.out]
    have e : (31 :: L).length = 1 + L.length := by simp; omega
    exact ⟨A2, c2, by rw [e]; rfl, by rw [e]; simpa [wv] using hown2, (((Below.refl _ _).alloc (Nat.le_refl _) _).trans (hbel1.mono (by simp))).trans (hbel2.mono (by omega))⟩
  · obtain ⟨m, rfl⟩ : ∃ m : Nat, n = (m : Int) := ⟨n.toNat, by omega⟩
    have HL := Lib.hid (wordsL_eq_pos m)
    have HS : Hid (∀ w, Tb w → Calls Tryz.prog 107 #[.int .i64 (m : Int)] w (GivesOwn 9 1 id w (rposL m).length (wv (rposL m)))) := Lib.hid fun w ht => rpos m (by omega) m rfl w ht
    generalize rposL m = L at *
    go_enter Tryz.func70, Tryz.ntmps70
    go_wp2_with (go_at_call 107; refine (HS.out _ HT.out).mono ?_; rintro e w1 ⟨A1, c1, rfl, hown1, hbel1⟩)
    go_ret2
    rw [HL.out]
    exact ⟨A1, c1, rfl, hown1, hbel1⟩
end Go.Proofs.YtndgcjdiemfngaaGreatDoor
/- What the reference of layer 38 computes, and that it is what the program computes. -/
namespace Go.Proofs.YtndgcjdiemfngaaGreatDoor
open Go.RowKit
def swR (a g : Int) (s : ByteArray) : Int × Int :=
  if s = wb 28 then (a, wrap64 (100 * g)) else if s = wb 29 then (wrap64 (a + wrap64 (1000 * g)), 0) else if s = wb 30 then (wrap64 (a + wrap64 (1000000 * g)), 0) else (a, g)
def unitsR (s : ByteArray) (g : Int) : Nat → Int
  | 0 => g
  | k + 1 => if wb k = s then wrap64 (unitsR s g k + k) else unitsR s g k
def tensR (s : ByteArray) (g : Int) : Nat → Int
  | 0 => g
  | k + 1 => if wb (20 + k) = s then wrap64 (wrap64 (tensR s g k + 10 * k) + 20) else tensR s g k
def stepR (x : Int × Int) (s : ByteArray) : Int × Int := ((swR x.1 x.2 s).1, tensR s (unitsR s (swR x.1 x.2 s).2 20) 8)
def valR (l : List ByteArray) : Int :=
  let x := l.foldl stepR (0, 0)
  if l.head? = some (wb 31) then wrap64 (wrap64 (-x.1) - x.2) else wrap64 (x.1 + x.2)
def refNumberL (l : List ByteArray) : Option Int := if l.length = 0 ∨ 15 < l.length then none else checkN l (valR l)
def refPrefN (l : List ByteArray) : Nat → Option (Int × Nat)
  | 0 => none
  | k + 1 => match refNumberL (l.take (k + 1)) with
    | some n => some (n, k + 1)
    | none => refPrefN l k
theorem w64 (n : Int) (h1 : -9223372036854775808 ≤ n) (h2 : n ≤ 9223372036854775807) : wrap64 n = n := IntWalk.wrap64_in n ⟨h1, h2⟩
theorem unitsR_miss (s : ByteArray) (g : Int) : ∀ k, (∀ i, i < k → wb i ≠ s) → unitsR s g k = g := by
  intro k
  induction k with
  | zero => intro _; rfl
  | succ k ih =>
    intro h
    rw [unitsR, if_neg (h k (by omega)), ih (fun i hi => h i (by omega))]
theorem unitsR_hit (i : Nat) (g : Int) : ∀ k, k ≤ 20 → i < k → unitsR (wb i) g k = wrap64 (g + i) := by
  intro k
  induction k with
  | zero => intro _ h; omega
  | succ k ih =>
    intro h1 h2
    rw [unitsR]
    by_cases e : i = k
    · subst e
      rw [if_pos rfl, unitsR_miss _ _ _ (fun j hj => wb_ne j i (by omega) (by omega) (by omega))]
    · rw [if_neg (wb_ne k i (by omega) (by omega) (by omega)), ih (by omega) (by omega)]
theorem tensR_miss (s : ByteArray) (g : Int) : ∀ k, (∀ i, i < k → wb (20 + i) ≠ s) → tensR s g k = g := by
  intro k
  induction k with
  | zero => intro _; rfl
  | succ k ih =>
    intro h
    rw [tensR, if_neg (h k (by omega)), ih (fun i hi => h i (by omega))]
theorem tensR_hit (i : Nat) (g : Int) : ∀ k, k ≤ 8 → i < k → tensR (wb (20 + i)) g k = wrap64 (wrap64 (g + 10 * i) + 20) := by
  intro k
  induction k with
  | zero => intro _ h; omega
  | succ k ih =>
    intro h1 h2
    rw [tensR]
    by_cases e : i = k
    · subst e
      rw [if_pos rfl, tensR_miss _ _ _ (fun j hj => wb_ne _ _ (by omega) (by omega) (by omega))]
    · rw [if_neg (wb_ne _ _ (by omega) (by omega) (by omega)), ih (by omega) (by omega)]
theorem valK_inv (k : Nat) (s : ByteArray) (v : Int) (h : valK k s = some v) : ∃ i, i < k ∧ s = wb i ∧ v = valI i := by
  induction k with
  | zero => cases h
  | succ k ih =>
    rw [valK] at h
    split at h
    · rename_i hs
      injection h with h
      exact ⟨k, by omega, hs, h.symm⟩
    · obtain ⟨i, a, b, c⟩ := ih h
      exact ⟨i, by omega, b, c⟩
theorem miss_big (j : Nat) (hj : 28 ≤ j) (hj2 : j < 32) (g : Int) : tensR (wb j) (unitsR (wb j) g 20) 8 = g := by
  rw [tensR_miss _ _ _ (fun i hi => wb_ne _ _ (by omega) (by omega) (by omega)), unitsR_miss _ _ _ (fun i hi => wb_ne _ _ (by omega) (by omega) (by omega))]
theorem step_same (a p a' p' : Int) (s : ByteArray) (h : stepN a p s = some (a', p')) (ha0 : 0 ≤ a) (ha : a ≤ 999999999) (hp0 : 0 ≤ p) (hp : p ≤ 999999999) : stepR (a, p) s = (a', p') ∧ 0 ≤ a' ∧ a' ≤ 999999999 ∧ 0 ≤ p' ∧ p' ≤ 999999999 := by
  unfold stepN at h
  cases hsw : swN a p s with
  | none => rw [hsw] at h; cases h
  | some x =>
    obtain ⟨a1, p1⟩ := x
    rw [hsw] at h
    simp only at h
    have hb := swN_bd a p s a1 p1 hsw ha0 ha hp0 hp
    split at h
    · cases h
    rename_i hbig
    simp only [Option.some.injEq, Prod.mk.injEq] at h
    obtain ⟨rfl, rfl⟩ := h
    refine ⟨?_, hb.1, by omega, hb.2.2.1, by omega⟩
    unfold swN at hsw
    unfold stepR swR
    simp only
    split at hsw
    · rename_i e
      subst e
      simp only [Option.some.injEq, Prod.mk.injEq] at hsw
      obtain ⟨rfl, rfl⟩ := hsw
      rw [if_neg (wb_ne _ _ (by omega) (by omega) (by omega)), if_neg (wb_ne _ _ (by omega) (by omega) (by omega)), if_neg (wb_ne _ _ (by omega) (by omega) (by omega)), miss_big 31 (by omega) (by omega)]
    split at hsw
    · rename_i e
      subst e
      simp only [Option.some.injEq, Prod.mk.injEq] at hsw
      obtain ⟨rfl, rfl⟩ := hsw
      rw [if_pos rfl, miss_big 28 (by omega) (by omega)]
      simp only
      rw [w64 _ (by omega) (by omega), Int.mul_comm]
    split at hsw
    · rename_i e
      subst e
      simp only [Option.some.injEq, Prod.mk.injEq] at hsw
      obtain ⟨rfl, rfl⟩ := hsw
      rw [if_neg (wb_ne _ _ (by omega) (by omega) (by omega)), if_pos rfl, miss_big 29 (by omega) (by omega)]
      simp only
      rw [w64 (1000 * p) (by omega) (by omega), w64 _ (by omega) (by omega)]
    split at hsw
    · rename_i e
      subst e
      simp only [Option.some.injEq, Prod.mk.injEq] at hsw
      obtain ⟨rfl, rfl⟩ := hsw
      rw [if_neg (wb_ne _ _ (by omega) (by omega) (by omega)), if_neg (wb_ne _ _ (by omega) (by omega) (by omega)), if_pos rfl, miss_big 30 (by omega) (by omega)]
      simp only
      rw [w64 (1000000 * p) (by omega) (by omega), w64 _ (by omega) (by omega)]
    rename_i n31 n28 n29 n30
    cases hv : valK 28 s with
    | none => rw [hv] at hsw; cases hsw
    | some v =>
      rw [hv] at hsw
      simp only [Option.some.injEq, Prod.mk.injEq] at hsw
      obtain ⟨rfl, rfl⟩ := hsw
      obtain ⟨i, hi, rfl, rfl⟩ := valK_inv _ _ _ hv
      rw [if_neg n28, if_neg n29, if_neg n30]
      simp only
      have hvb := valI_bd i hi
      by_cases h20 : i < 20
      · rw [unitsR_hit i p 20 (by omega) h20, tensR_miss _ _ _ (fun j hj => wb_ne _ _ (by omega) (by omega) (by omega))]
        unfold valI
        rw [if_neg (by omega), w64 _ (by omega) (by omega)]
      · obtain ⟨j, rfl⟩ : ∃ j, i = 20 + j := ⟨i - 20, by omega⟩
        rw [unitsR_miss _ _ _ (fun j hj => wb_ne _ _ (by omega) (by omega) (by omega)), tensR_hit j p 8 (by omega) (by omega), w64 (p + 10 * j) (by omega) (by omega), w64 _ (by omega) (by omega)]
        unfold valI
        split <;> (congr 1; omega)
theorem loop_same : ∀ (l : List ByteArray) (a p a' p' : Int), loopN l a p = some (a', p') → 0 ≤ a → a ≤ 999999999 → 0 ≤ p → p ≤ 999999999 → l.foldl stepR (a, p) = (a', p') ∧ 0 ≤ a' ∧ a' ≤ 999999999 ∧ 0 ≤ p' ∧ p' ≤ 999999999 := by
  intro l
  induction l with
  | nil =>
    intro a p a' p' h h1 h2 h3 h4
    rw [loopN] at h
    simp only [Option.some.injEq, Prod.mk.injEq] at h
    obtain ⟨rfl, rfl⟩ := h
    exact ⟨rfl, h1, h2, h3, h4⟩
  | cons s t ih =>
    intro a p a' p' h h1 h2 h3 h4
    rw [loopN] at h
    cases hs : stepN a p s with
    | none => rw [hs] at h; cases h
    | some x =>
      obtain ⟨a1, p1⟩ := x
      rw [hs] at h
      obtain ⟨e, b1, b2, b3, b4⟩ := step_same a p a1 p1 s hs h1 h2 h3 h4
      rw [List.foldl_cons, e]
      exact ih a1 p1 a' p' h b1 b2 b3 b4
/-- Where the program finds a number, the reference's value is that number. -/
theorem val_of_number {l : List ByteArray} {n : Int} (h : numberL l = some n) : valR l = n := by
  unfold numberL at h
  split at h
  · cases h
  cases hl : loopN l 0 0 with
  | none => rw [hl] at h; cases h
  | some x =>
    obtain ⟨a, p⟩ := x
    rw [hl] at h
    simp only at h
    obtain ⟨e, b1, b2, b3, b4⟩ := loop_same l 0 0 a p hl (by omega) (by omega) (by omega) (by omega)
    unfold checkN at h
    split at h
    · injection h with h
      subst h
      unfold valR signN
      rw [e]
      simp only
      split
      · rw [w64 (-a) (by omega) (by omega), w64 _ (by omega) (by omega)]
        omega
      · rw [w64 _ (by omega) (by omega)]
    · cases h
theorem refNumber_eq (l : List ByteArray) : refNumberL l = numberL l := by
  cases hn : numberL l with
  | some n =>
    have hv := val_of_number hn
    obtain ⟨h1, h2, h3, h4, h5⟩ := number_some hn
    unfold refNumberL
    rw [if_neg (by omega), hv]
    unfold checkN
    rw [if_pos ⟨h1, h2, h3⟩]
  | none =>
    cases hr : refNumberL l with
    | none => rfl
    | some n =>
      exfalso
      unfold refNumberL at hr
      split at hr
      · cases hr
      unfold checkN at hr
      split at hr
      · rename_i hc
        obtain ⟨h1, h2, h3⟩ := hc
        have := number_words (valR l) h1 h2
        rw [h3, hn] at this
        cases this
      · cases hr
theorem refPref_eq (l : List ByteArray) : refPrefN l l.length = prefixL l := by
  have h1 : ∀ k, refPrefN l k = prefN l k := by
    intro k
    induction k with
    | zero => rfl
    | succ k ih =>
      rw [refPrefN, prefN, refNumber_eq, ih]
      cases numberL (l.take (k + 1)) <;> rfl
  unfold prefixL
  rw [h1]
  rcases Nat.lt_or_ge l.length 16 with h | h
  · rw [Nat.min_eq_left (by omega)]
  · rw [Nat.min_eq_right (by omega)]
    obtain ⟨d, hd⟩ : ∃ d, l.length = 15 + d := ⟨l.length - 15, by omega⟩
    have : ∀ d, 15 + d ≤ l.length → prefN l (15 + d) = prefN l 15 := by
      intro d
      induction d with
      | zero => intro _; rfl
      | succ d ih =>
        intro hle
        rw [show 15 + (d + 1) = (15 + d) + 1 from rfl, prefN, number_take_long l _ (by omega) (by omega)]
        exact ih (by omega)
    rw [hd]
    exact this d (by omega)
end Go.Proofs.YtndgcjdiemfngaaGreatDoor
