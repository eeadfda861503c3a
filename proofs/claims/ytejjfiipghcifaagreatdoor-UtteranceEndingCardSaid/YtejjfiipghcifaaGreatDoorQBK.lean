/- Joined texts: Ref2, Rsg1, Rsg2, Rv1, Rv2. -/
import Derived.Test.YtejjfiipghcifaaGreatDoorQAA
import Derived.Test.YtejjfiipghcifaaGreatDoorQAB
import Derived.Test.YtejjfiipghcifaaGreatDoorQAC
import Derived.Test.YtejjfiipghcifaaGreatDoorQAD
import Derived.Test.YtejjfiipghcifaaGreatDoorQAF
import Derived.Test.YtejjfiipghcifaaGreatDoorQAG
import Derived.Test.YtejjfiipghcifaaGreatDoorQAH
import Derived.Test.YtejjfiipghcifaaGreatDoorQAN
import Derived.Test.YtejjfiipghcifaaGreatDoorQBJ
set_option linter.unusedVariables false
set_option linter.unusedSimpArgs false
set_option linter.unnecessarySimpa false
namespace Go.Proofs.YtejjfiipghcifaaGreatDoor
open Go.RowKit
set_option maxRecDepth 100000 in
set_option maxHeartbeats 1000000 in
theorem rpos_a (n : Nat) (hn : n < 1000) (x : Int) (hx : x = n) (w : World) (ht : Tb w) :
  Calls Tryz.prog 68 #[.int .i64 x] w (GivesOwn 9 1 id w (rposL n).length (wv (rposL n))) := by
 have HS := Lib.hid (rsmall n hn w ht)
 rw [← rpos_small n hn, ← hx] at HS
 have x1 : x < 1000 := by omega
 clear ht hx hn
 go_enter Tryz.func68, Tryz.ntmps68
 go_wp2_with (go_at_call 92; refine HS.out.mono ?_; rintro e w1 ⟨A1, c1, rfl, hown1, hbel1⟩)
 go_ret
 exact ⟨A1, c1, rfl, hown1, hbel1⟩
set_option maxRecDepth 100000 in
set_option maxHeartbeats 2000000 in
theorem rpos_b (n : Nat) (h1 : 1000 ≤ n) (h2 : n < 1000000) (x : Int) (hx : x = n) (w : World) (ht : Tb w) :
  Calls Tryz.prog 68 #[.int .i64 x] w (GivesOwn 9 1 id w (rposL n).length (wv (rposL n))) := by
 have HT := Lib.hid ht
 have x1 : 1000 ≤ x := by omega
 have x2 : x < 1000000 := by omega
 have hq : n / 1000 < 1000 := by omega
 have HS : Hid (∀ w, Tb w → Calls Tryz.prog 92 #[.int .i64 (x / 1000)] w (GivesOwn 9 1 id w (rsmallL (n / 1000)).length (wv (rsmallL (n / 1000))))) := Lib.hid fun w ht => by
  have := rsmall (n / 1000) hq w ht
  rwa [show ((n / 1000 : Nat) : Int) = x / 1000 from by omega] at this
 have HR : Hid (∀ w, Tb w → Calls Tryz.prog 68 #[.int .i64 (x % 1000)] w (GivesOwn 9 1 id w (rposL (n % 1000)).length (wv (rposL (n % 1000))))) := Lib.hid fun w ht => by
  exact rpos_a (n % 1000) (by omega) (x % 1000) (by omega) w ht
 have HL := Lib.hid (rpos_thousand n (by omega) (by omega))
 have l1 := rsmallL_le (n / 1000)
 have l2 := rposL_le (n % 1000)
 by_cases c3 : n % 1000 = 0
 ·have c3' : (x % 1000 != 0) = false := by rw [bne_eq_false_iff_eq]; omega
  have HL2 : Hid (rposL n = rsmallL (n / 1000) ++ [29]) := Lib.hid (by rw [HL.out, if_pos c3, List.append_nil])
  clear ht c3 hx h1 h2 hq
  generalize rsmallL (n / 1000) = L at *
  go_enter Tryz.func68, Tryz.ntmps68
  go_wp2_with (first
   | (go_at_call 92; refine (HS.out _ HT.out).mono ?_; rintro e w1 ⟨A1, c1, rfl, hown1, hbel1⟩; have z1 := hbel1.size)
   | (at_builtin; refine app_list rfl _ _ _ rfl elt_str (w.heap.size) _ rfl (hown1.alloc _) _ _ rfl (rd_built (by rfl) rfl) (by first | rfl | exact sv_one _ | exact wv_one _) (by omega) (by omega) (by first | (simp; done) | (simp; omega) | omega) ?_; intro A2 c2 w2 hown2 hbel2 hgr2 hat2; have z2 := hbel2.size; (try simp only [World.size_alloc] at z2); (try simp only [Nat.zero_add, List.nil_append] at hown2)))
  go_ret
  rw [HL2.out]
  have e : (L ++ [29]).length = L.length + 1 := by simp
  exact ⟨A2, c2, by rw [e]; rfl, by rw [e]; simpa [wv, wb] using hown2, (hbel1.alloc (by omega) _).trans (hbel2.mono (by omega))⟩
 ·have c3' : (x % 1000 != 0) = true := by rw [bne_iff_ne]; omega
  have HL2 : Hid (rposL n = rsmallL (n / 1000) ++ [29] ++ rposL (n % 1000)) := Lib.hid (by rw [HL.out, if_neg c3])
  clear ht c3 hx h1 h2 hq
  generalize rsmallL (n / 1000) = L at *
  generalize rposL (n % 1000) = L' at *
  go_enter Tryz.func68, Tryz.ntmps68
  go_wp2_with (first
   | (go_at_call 92; refine (HS.out _ HT.out).mono ?_; rintro e w1 ⟨A1, c1, rfl, hown1, hbel1⟩; have z1 := hbel1.size)
   | (at_builtin; refine app_list rfl _ _ _ rfl elt_str (w.heap.size) _ rfl (hown1.alloc _) _ _ rfl (rd_built (by rfl) rfl) (by first | rfl | exact sv_one _ | exact wv_one _) (by omega) (by omega) (by first | (simp; done) | (simp; omega) | omega) ?_; intro A2 c2 w2 hown2 hbel2 hgr2 hat2; have z2 := hbel2.size; (try simp only [World.size_alloc] at z2); (try simp only [Nat.zero_add, List.nil_append] at hown2))
   | (go_at_call 68; refine (HR.out _ (HT.out.below ((hbel1.alloc (by omega) _).trans hbel2))).mono ?_; rintro e w3 ⟨A3, c3, rfl, hown3, hbel3⟩; have z3 := hbel3.size; have hown2' := own_below hown2 hbel3)
   | (at_builtin; refine app_list rfl _ _ _ rfl elt_str (w.heap.size) _ rfl (hown2') _ _ rfl (Rd.of_own hown3) (by first | rfl | exact sv_one _ | exact wv_one _) (by omega) (by omega) (by first | (simp; done) | (simp; omega) | omega) ?_; intro A4 c4 w4 hown4 hbel4 hgr4 hat4; have z4 := hbel4.size; (try simp only [World.size_alloc] at z4); (try simp only [Nat.zero_add, List.nil_append] at hown4)))
  go_ret
  rw [HL2.out]
  have e : (L ++ [29] ++ L').length = L.length + 1 + L'.length := by simp; omega
  exact ⟨A4, c4, by rw [e]; rfl, by rw [e]; simpa [wv, wb] using hown4, (((hbel1.alloc (by omega) _).trans (hbel2.mono (by omega))).trans (hbel3.mono (by omega))).trans (hbel4.mono (by omega))⟩
theorem rpos_ab (n : Nat) (h2 : n < 1000000) (x : Int) (hx : x = n) (w : World) (ht : Tb w) :
  Calls Tryz.prog 68 #[.int .i64 x] w (GivesOwn 9 1 id w (rposL n).length (wv (rposL n))) := by
 rcases Nat.lt_or_ge n 1000 with h | h
 ·exact rpos_a n h x hx w ht
 ·exact rpos_b n h h2 x hx w ht
set_option maxRecDepth 100000 in
set_option maxHeartbeats 2000000 in
theorem rpos_c (n : Nat) (h1 : 1000000 ≤ n) (h2 : n < 1000000000) (x : Int) (hx : x = n) (w : World) (ht : Tb w) :
  Calls Tryz.prog 68 #[.int .i64 x] w (GivesOwn 9 1 id w (rposL n).length (wv (rposL n))) := by
 have HT := Lib.hid ht
 have x1 : 1000000 ≤ x := by omega
 have x2 : x < 1000000000 := by omega
 have hq : n / 1000000 < 1000 := by omega
 have HS : Hid (∀ w, Tb w → Calls Tryz.prog 92 #[.int .i64 (x / 1000000)] w (GivesOwn 9 1 id w (rsmallL (n / 1000000)).length (wv (rsmallL (n / 1000000))))) := Lib.hid fun w ht => by
  have := rsmall (n / 1000000) hq w ht
  rwa [show ((n / 1000000 : Nat) : Int) = x / 1000000 from by omega] at this
 have HR : Hid (∀ w, Tb w → Calls Tryz.prog 68 #[.int .i64 (x % 1000000)] w (GivesOwn 9 1 id w (rposL (n % 1000000)).length (wv (rposL (n % 1000000))))) := Lib.hid fun w ht => by
  exact rpos_ab (n % 1000000) (by omega) (x % 1000000) (by omega) w ht
 have HL := Lib.hid (rpos_million n (by omega) (by omega))
 have l1 := rsmallL_le (n / 1000000)
 have l2 := rposL_le (n % 1000000)
 by_cases c3 : n % 1000000 = 0
 ·have c3' : (x % 1000000 != 0) = false := by rw [bne_eq_false_iff_eq]; omega
  have HL2 : Hid (rposL n = rsmallL (n / 1000000) ++ [30]) := Lib.hid (by rw [HL.out, if_pos c3, List.append_nil])
  clear ht c3 hx h1 h2 hq
  generalize rsmallL (n / 1000000) = L at *
  go_enter Tryz.func68, Tryz.ntmps68
  go_wp2_with (first
   | (go_at_call 92; refine (HS.out _ HT.out).mono ?_; rintro e w1 ⟨A1, c1, rfl, hown1, hbel1⟩; have z1 := hbel1.size)
   | (at_builtin; refine app_list rfl _ _ _ rfl elt_str (w.heap.size) _ rfl (hown1.alloc _) _ _ rfl (rd_built (by rfl) rfl) (by first | rfl | exact sv_one _ | exact wv_one _) (by omega) (by omega) (by first | (simp; done) | (simp; omega) | omega) ?_; intro A2 c2 w2 hown2 hbel2 hgr2 hat2; have z2 := hbel2.size; (try simp only [World.size_alloc] at z2); (try simp only [Nat.zero_add, List.nil_append] at hown2)))
  go_ret
  rw [HL2.out]
  have e : (L ++ [30]).length = L.length + 1 := by simp
  exact ⟨A2, c2, by rw [e]; rfl, by rw [e]; simpa [wv, wb] using hown2, (hbel1.alloc (by omega) _).trans (hbel2.mono (by omega))⟩
 ·have c3' : (x % 1000000 != 0) = true := by rw [bne_iff_ne]; omega
  have HL2 : Hid (rposL n = rsmallL (n / 1000000) ++ [30] ++ rposL (n % 1000000)) := Lib.hid (by rw [HL.out, if_neg c3])
  clear ht c3 hx h1 h2 hq
  generalize rsmallL (n / 1000000) = L at *
  generalize rposL (n % 1000000) = L' at *
  go_enter Tryz.func68, Tryz.ntmps68
  go_wp2_with (first
   | (go_at_call 92; refine (HS.out _ HT.out).mono ?_; rintro e w1 ⟨A1, c1, rfl, hown1, hbel1⟩; have z1 := hbel1.size)
   | (at_builtin; refine app_list rfl _ _ _ rfl elt_str (w.heap.size) _ rfl (hown1.alloc _) _ _ rfl (rd_built (by rfl) rfl) (by first | rfl | exact sv_one _ | exact wv_one _) (by omega) (by omega) (by first | (simp; done) | (simp; omega) | omega) ?_; intro A2 c2 w2 hown2 hbel2 hgr2 hat2; have z2 := hbel2.size; (try simp only [World.size_alloc] at z2); (try simp only [Nat.zero_add, List.nil_append] at hown2))
   | (go_at_call 68; refine (HR.out _ (HT.out.below ((hbel1.alloc (by omega) _).trans hbel2))).mono ?_; rintro e w3 ⟨A3, c3, rfl, hown3, hbel3⟩; have z3 := hbel3.size; have hown2' := own_below hown2 hbel3)
   | (at_builtin; refine app_list rfl _ _ _ rfl elt_str (w.heap.size) _ rfl (hown2') _ _ rfl (Rd.of_own hown3) (by first | rfl | exact sv_one _ | exact wv_one _) (by omega) (by omega) (by first | (simp; done) | (simp; omega) | omega) ?_; intro A4 c4 w4 hown4 hbel4 hgr4 hat4; have z4 := hbel4.size; (try simp only [World.size_alloc] at z4); (try simp only [Nat.zero_add, List.nil_append] at hown4)))
  go_ret
  rw [HL2.out]
  have e : (L ++ [30] ++ L').length = L.length + 1 + L'.length := by simp; omega
  exact ⟨A4, c4, by rw [e]; rfl, by rw [e]; simpa [wv, wb] using hown4, (((hbel1.alloc (by omega) _).trans (hbel2.mono (by omega))).trans (hbel3.mono (by omega))).trans (hbel4.mono (by omega))⟩
theorem rpos (n : Nat) (h2 : n < 1000000000) (x : Int) (hx : x = n) (w : World) (ht : Tb w) :
  Calls Tryz.prog 68 #[.int .i64 x] w (GivesOwn 9 1 id w (rposL n).length (wv (rposL n))) := by
 rcases Nat.lt_or_ge n 1000000 with h | h
 ·exact rpos_ab n h x hx w ht
 ·exact rpos_c n h h2 x hx w ht
theorem wordsL_eq_pos (n : Nat) : wordsL n = rposL n := by
 unfold wordsL rposL
 by_cases h0 : n = 0
 ·subst h0; rfl
 ·have h1 : ¬ ((n : Int) = 0) := by omega
  have h2 : ¬ ((n : Int) < 0) := by omega
  rw [if_neg h1, if_neg h2, if_neg h0, Int.natAbs_natCast]
  rfl
theorem wordsL_eq_neg (n : Nat) (h0 : 0 < n) : wordsL (-(n : Int)) = 31 :: rposL n := by
 have e : (-(n : Int)).natAbs = n := by omega
 have h1 : ¬ (-(n : Int) = 0) := by omega
 have h2 : -(n : Int) < 0 := by omega
 unfold wordsL rposL
 rw [if_neg h1, if_pos h2, if_neg (by omega), e]
 rfl
set_option maxRecDepth 100000 in
set_option maxHeartbeats 1000000 in
theorem rwords_in (n : Int) (h1 : -999999999 ≤ n) (h2 : n ≤ 999999999) (w : World) (ht : Tb w) :
  Calls Tryz.prog 45 #[.int .i64 n] w (GivesOwn 9 1 okPair w (wordsL n).length (wv (wordsL n))) := by
 have HT := Lib.hid ht
 clear ht
 by_cases hn : n < 0
 ·obtain ⟨m, hm⟩ : ∃ m : Nat, n = -(m : Int) := ⟨n.natAbs, by omega⟩
  have hm1 : 0 < m := by omega
  have HL := Lib.hid (wordsL_eq_neg m hm1)
  have hle := rposL_le m
  have HS : Hid (∀ w, Tb w → Calls Tryz.prog 68 #[.int .i64 (-n)] w (GivesOwn 9 1 id w (rposL m).length (wv (rposL m)))) := Lib.hid fun w ht => by
   exact rpos m (by omega) (-n) (by omega) w ht
  rw [← hm] at HL
  clear hm
  generalize rposL m = L at *
  go_enter Tryz.func45, Tryz.ntmps45
  go_wp2_with (first
   | (go_at_call 68; refine (HS.out _ (HT.out.below (by exact (Below.refl _ _).alloc (Nat.le_refl _) _))).mono ?_; rintro e w1 ⟨A1, c1, rfl, hown1, hbel1⟩; have z1 := hbel1.size; simp only [World.size_alloc] at z1; have hown0 : w1.ownsRow w.heap.size 9 1 (.slice (some ⟨w.heap.size, 0, none⟩) 1 1) 1 [.string (wb 31)] := own_below (own_built (by rfl) rfl (Nat.le_refl _) (by omega)) hbel1)
   | (at_builtin; refine app_list rfl _ _ _ rfl elt_str (w.heap.size) _ rfl (hown0) _ _ rfl (Rd.of_own hown1) (by first | rfl | exact sv_one _ | exact wv_one _) (by omega) (by omega) (by first | (simp; done) | (simp; omega) | omega) ?_; intro A2 c2 w2 hown2 hbel2 hgr2 hat2; have z2 := hbel2.size; (try simp only [World.size_alloc] at z2); (try simp only [Nat.zero_add, List.nil_append] at hown2)))
  go_ret2
  rw [HL.out]
  have e : (31 :: L).length = 1 + L.length := by simp; omega
  exact ⟨A2, c2, by rw [e]; rfl, by rw [e]; simpa [wv] using hown2, (((Below.refl _ _).alloc (Nat.le_refl _) _).trans (hbel1.mono (by simp))).trans (hbel2.mono (by omega))⟩
 ·obtain ⟨m, rfl⟩ : ∃ m : Nat, n = (m : Int) := ⟨n.toNat, by omega⟩
  have HL := Lib.hid (wordsL_eq_pos m)
  have HS : Hid (∀ w, Tb w → Calls Tryz.prog 68 #[.int .i64 (m : Int)] w (GivesOwn 9 1 id w (rposL m).length (wv (rposL m)))) := Lib.hid fun w ht => rpos m (by omega) m rfl w ht
  generalize rposL m = L at *
  go_enter Tryz.func45, Tryz.ntmps45
  go_wp2_with (go_at_call 68; refine (HS.out _ HT.out).mono ?_; rintro e w1 ⟨A1, c1, rfl, hown1, hbel1⟩)
  go_ret2
  rw [HL.out]
  exact ⟨A1, c1, rfl, hown1, hbel1⟩
end Go.Proofs.YtejjfiipghcifaaGreatDoor
namespace Go.Proofs.YtejjfiipghcifaaGreatDoor
open Go.RowKit
def isS (r : Int) : Bool := (sIdxI r).isSome
theorem isS_tab : ∀ x : Fin 127, isS (x.val : Int) = (decide (33 ≤ x.val) && !(decide (48 ≤ x.val) && decide (x.val ≤ 57)) && !(decide (65 ≤ x.val) && decide (x.val ≤ 90)) && !(decide (97 ≤ x.val) && decide (x.val ≤ 122))) := by decide +kernel
theorem isS_eq (r : Int) : isS r = (decide (33 ≤ r) && decide (r ≤ 126) && !(decide (48 ≤ r) && decide (r ≤ 57)) && !(decide (65 ≤ r) && decide (r ≤ 90)) && !(decide (97 ≤ r) && decide (r ≤ 122))) := by
 by_cases h : 0 ≤ r ∧ r ≤ 126
 ·obtain ⟨h1, h2⟩ := h
  obtain ⟨n, rfl⟩ := Int.eq_ofNat_of_zero_le h1
  have := isS_tab ⟨n, by omega⟩
  simp only at this
  rw [this, Bool.eq_iff_iff]
  simp
  omega
 ·have h1 : isS r = false := by
   unfold isS
   cases hs : sIdxI r with
   | none => rfl
   | some i =>
    obtain ⟨_, _, a, b⟩ := sIdxI_some hs
    exact absurd ⟨by omega, b⟩ h
  rw [h1, Bool.eq_iff_iff]
  simp
  omega
set_option maxHeartbeats 800000 in
theorem rsign (r : Int) (w : World) : Calls Tryz.prog 143 #[.int .i32 r] w (Gives (.bool (isS r)) w) := by
 have HI := Lib.hid (isS_eq r)
 generalize isS r = R at *
 rcases Int.lt_or_le r 33 with h1 | h1
 ·obtain rfl : R = false := by rw [HI.out, Bool.eq_false_iff]; simp; omega
  go_enter Tryz.func143, Tryz.ntmps143
  go_wp2
  go_ret
  exact ⟨rfl, Below.refl _ _⟩
 rcases Int.lt_or_le 126 r with h2 | h2
 ·obtain rfl : R = false := by rw [HI.out, Bool.eq_false_iff]; simp; omega
  go_enter Tryz.func143, Tryz.ntmps143
  go_wp2
  go_ret
  exact ⟨rfl, Below.refl _ _⟩
 rcases Int.lt_or_le r 48 with h3 | h3
 ·obtain rfl : R = true := by rw [HI.out]; simp; omega
  go_enter Tryz.func143, Tryz.ntmps143
  go_wp2
  go_ret
  exact ⟨rfl, Below.refl _ _⟩
 rcases Int.lt_or_le r 58 with h3 | h3
 ·obtain rfl : R = false := by rw [HI.out, Bool.eq_false_iff]; simp; omega
  go_enter Tryz.func143, Tryz.ntmps143
  go_wp2
  go_ret
  exact ⟨rfl, Below.refl _ _⟩
 rcases Int.lt_or_le r 65 with h3 | h3
 ·obtain rfl : R = true := by rw [HI.out]; simp; omega
  have e57 : ¬ r ≤ 57 := by omega
  go_enter Tryz.func143, Tryz.ntmps143
  go_wp2
  go_ret
  exact ⟨rfl, Below.refl _ _⟩
 rcases Int.lt_or_le r 91 with h3 | h3
 ·obtain rfl : R = false := by rw [HI.out, Bool.eq_false_iff]; simp; omega
  have e57 : ¬ r ≤ 57 := by omega
  go_enter Tryz.func143, Tryz.ntmps143
  go_wp2
  go_ret
  exact ⟨rfl, Below.refl _ _⟩
 rcases Int.lt_or_le r 97 with h3 | h3
 ·obtain rfl : R = true := by rw [HI.out]; simp; omega
  have e57 : ¬ r ≤ 57 := by omega
  have e90 : ¬ r ≤ 90 := by omega
  go_enter Tryz.func143, Tryz.ntmps143
  go_wp2
  go_ret
  exact ⟨rfl, Below.refl _ _⟩
 rcases Int.lt_or_le r 123 with h3 | h3
 ·obtain rfl : R = false := by rw [HI.out, Bool.eq_false_iff]; simp; omega
  have e57 : ¬ r ≤ 57 := by omega
  have e90 : ¬ r ≤ 90 := by omega
  have g122 : r ≤ 122 := by omega
  go_enter Tryz.func143, Tryz.ntmps143
  go_wp2
  go_ret
  exact ⟨rfl, Below.refl _ _⟩
 obtain rfl : R = true := by rw [HI.out]; simp; omega
 have e57 : ¬ r ≤ 57 := by omega
 have e90 : ¬ r ≤ 90 := by omega
 have e122 : ¬ r ≤ 122 := by omega
 go_enter Tryz.func143, Tryz.ntmps143
 go_wp2
 go_ret
 exact ⟨rfl, Below.refl _ _⟩
set_option maxHeartbeats 800000 in
theorem rcharacter (r : Int) (w : World) : Calls Tryz.prog 142 #[.int .i32 r] w (Gives (.bool (isCharB r)) w) := by
 have HI : Hid (isCharB r = ((decide (0 ≤ r) && decide (r ≤ 55295)) || (decide (57344 ≤ r) && decide (r ≤ 1114111)))) := Lib.hid rfl
 generalize isCharB r = R at *
 rcases Int.lt_or_le r 0 with h1 | h1
 ·obtain rfl : R = false := by rw [HI.out, Bool.eq_false_iff]; simp; omega
  go_enter Tryz.func142, Tryz.ntmps142
  go_wp2
  go_ret
  exact ⟨rfl, Below.refl _ _⟩
 rcases Int.lt_or_le 1114111 r with h2 | h2
 ·obtain rfl : R = false := by rw [HI.out, Bool.eq_false_iff]; simp; omega
  go_enter Tryz.func142, Tryz.ntmps142
  go_wp2
  go_ret
  exact ⟨rfl, Below.refl _ _⟩
 rcases Int.lt_or_le r 55296 with h3 | h3
 ·obtain rfl : R = true := by rw [HI.out]; simp; omega
  go_enter Tryz.func142, Tryz.ntmps142
  go_wp2
  go_ret
  exact ⟨rfl, Below.refl _ _⟩
 rcases Int.lt_or_le 57343 r with h4 | h4
 ·obtain rfl : R = true := by rw [HI.out]; simp; omega
  go_enter Tryz.func142, Tryz.ntmps142
  go_wp2
  go_ret
  exact ⟨rfl, Below.refl _ _⟩
 ·obtain rfl : R = false := by rw [HI.out, Bool.eq_false_iff]; simp; omega
  have e1 : ¬ r < 55296 := by omega
  have e2 : ¬ 57343 < r := by omega
  go_enter Tryz.func142, Tryz.ntmps142
  go_wp2
  go_ret
  exact ⟨rfl, Below.refl _ _⟩
set_option maxHeartbeats 800000 in
theorem rnames (w : World) : Calls Tryz.prog 141 #[] w (GivesOwn 9 1 id w 32 nmL) := by
 go_enter Tryz.func141, Tryz.ntmps141
 go_wp2
 go_ret
 exact ⟨_, _, rfl, own_built (xs := nmL) rfl rfl (Nat.le_refl _) (by omega), (Below.refl _ _).alloc (Nat.le_refl _) _⟩
def cntS (x : Nat) : Nat := ((List.range 32).filter fun i => decide (sChar i < x)).length
theorem cntS_33 : cntS 33 = 0 := by decide +kernel
theorem cntS_step : ∀ x : Fin 127, cntS (x.val + 1) = cntS x.val + (if isS (x.val : Int) then 1 else 0) := by decide +kernel
theorem cntS_char : ∀ i : Fin 32, cntS (sChar i.val) = i.val := by decide +kernel
theorem cntS_le : ∀ x : Fin 127, cntS x.val ≤ 32 := by decide +kernel
def rnameV (r : Int) : ByteArray := match sIdxI r with
 | some i => nb i
 | none => ⟨#[]⟩
set_option maxHeartbeats 800000 in
theorem rname (r : Int) (w : World) : Calls Tryz.prog 144 #[.int .i32 r] w (Gives (.string (rnameV r)) w) := by
 have HSI : Hid (∀ x w, Calls Tryz.prog 143 #[.int .i32 x] w (Gives (.bool (isS x)) w)) := Lib.hid rsign
 unfold rnameV
 cases hi : sIdxI r with
 | none =>
  have H0 : Hid (∀ w, Calls Tryz.prog 143 #[.int .i32 r] w (Gives (.bool false) w)) := Lib.hid fun w => by
   have := rsign r w
   unfold isS at this
   rwa [hi] at this
  clear hi
  go_enter Tryz.func144, Tryz.ntmps144
  go_wp2_with (go_at_call 143; refine (H0.out _).mono ?_; rintro e w1 ⟨rfl, hbel1⟩)
  go_ret
  exact ⟨rfl, hbel1⟩
 | some i =>
  obtain ⟨hi32, rfl, hr1, hr2⟩ := sIdxI_some hi
  have H0 : Hid (∀ w, Calls Tryz.prog 143 #[.int .i32 (sChar i : Nat)] w (Gives (.bool true) w)) := Lib.hid fun w => by
   have := rsign (sChar i : Int) w
   unfold isS at this
   rwa [hi] at this
  have HC := Lib.hid (cntS_char ⟨i, hi32⟩)
  simp only at HC
  clear hi
  simp only
  generalize sChar i = r at *
  go_enter Tryz.func144, Tryz.ntmps144
  go_wp2_with (go_at_call 143; refine (H0.out _).mono ?_; rintro e w1 ⟨rfl, hbel1⟩)
  have hr127 : r < 127 := by omega
  have HST : Hid (∀ n, n < 127 → cntS (n + 1) = cntS n + (if isS (n : Int) then 1 else 0)) := Lib.hid fun n h => cntS_step ⟨n, h⟩
  have HLE : Hid (∀ n, n < 127 → cntS n ≤ 32) := Lib.hid fun n h => cntS_le ⟨n, h⟩
  have H33 := Lib.hid cntS_33
  have hnb : Hid (nmL[i]? = some (.string (nb i))) := Lib.hid (by simp [nmL, hi32])
  generalize cntS = cnt at *
  obtain ⟨wa, rfl⟩ : ∃ x : World, x = w1 := ⟨_, rfl⟩
  go_loopw [3, 4] (fun k x wr => ∃ n : Nat, 33 ≤ n ∧ n ≤ r ∧ k = .int .i64 (cnt n : Nat) ∧ x = .int .i32 (n : Int) ∧ Below wa.heap.size wa wr) (fun _ x _ => r - (intOf x).toNat)
  case atStart => exact ⟨33, by omega, by omega, by rw [H33.out]; rfl, rfl, Below.refl _ _⟩
  case round =>
   obtain ⟨n, hn1, hn2, rfl, rfl, hbel⟩ := hrel
   by_cases hlt : n < r
   ·have hst := Lib.hid (HST.out n (by omega))
    have hle := HLE.out n (by omega)
    have HX := Lib.hid (HSI.out (n : Int))
    generalize isS (n : Int) = X at *
    cases X with
    | true =>
     have hst2 : Hid (cnt (n + 1) = cnt n + 1) := Lib.hid (by rw [hst.out]; rfl)
     go_wp2_with (go_at_call 143; refine (HX.out _).mono ?_; rintro e w2 ⟨rfl, hbel2⟩)
     exact ⟨⟨n + 1, by omega, by omega, by rw [hst2.out]; go_num, by go_num, hbel.trans (hbel2.mono hbel.size)⟩, by simp [intOf]; omega⟩
    | false =>
     have hst2 : Hid (cnt (n + 1) = cnt n) := Lib.hid (by rw [hst.out]; rfl)
     go_wp2_with (go_at_call 143; refine (HX.out _).mono ?_; rintro e w2 ⟨rfl, hbel2⟩)
     exact ⟨⟨n + 1, by omega, by omega, by rw [hst2.out], by go_num, hbel.trans (hbel2.mono hbel.size)⟩, by simp [intOf]; omega⟩
   ·obtain rfl : n = r := by omega
    rw [HC.out]
    go_wp2_with (go_at_call 141; refine (rnames _).mono ?_; rintro e w2 ⟨A2, c2, rfl, hown2, hbel2⟩; obtain ⟨b2, o2, rfl, _, hc2⟩ := (Rd.of_own hown2).at_ hi32; rw [hnb.out] at hc2)
    go_ret
    exact ⟨rfl, hbel1.trans ((hbel.trans (hbel2.mono hbel.size)).mono hbel1.size)⟩
end Go.Proofs.YtejjfiipghcifaaGreatDoor
namespace Go.Proofs.YtejjfiipghcifaaGreatDoor
open Go.RowKit
set_option maxRecDepth 20000
def vocB : List ByteArray := (List.range 32).map wb
theorem vocB_take {k : Nat} (h : k < 32) : vocB.take (k + 1) = vocB.take k ++ [wb k] := by
 unfold vocB
 rw [← List.map_take, ← List.map_take, List.take_range, List.take_range, Nat.min_eq_left (by omega), Nat.min_eq_left (by omega), List.range_succ, List.map_append]
 rfl
theorem vocB_len (k : Nat) (h : k ≤ 32) : (vocB.take k).length = k := by
 unfold vocB
 simp
 omega
set_option maxHeartbeats 2000000 in
theorem rvocabulary (w : World) (ht : Tb w) : Calls Tryz.prog 91 #[] w (GivesOwn 9 1 id w 32 (sv vocB)) := by
 have HT := Lib.hid ht
 have HK : Hid (∀ k, k < 32 → vocB.take (k + 1) = vocB.take k ++ [wb k]) := Lib.hid fun k h => vocB_take h
 have HL : Hid (∀ k, k ≤ 32 → (vocB.take k).length = k) := Lib.hid vocB_len
 have HE : Hid (sv vocB = sv (vocB.take 28) ++ sv [wb 28, wb 29, wb 30, wb 31]) := Lib.hid rfl
 clear ht
 go_enter Tryz.func91, Tryz.ntmps91
 go_wp2
 go_loopw [1, 2] (fun v x wr => ∃ (A : Option Addr) (c k : Nat), k ≤ 20 ∧ x = .int .i64 k ∧ v = .slice A k c ∧ wr.ownsRow w.heap.size 9 1 (.slice A k c) k (sv (vocB.take k)) ∧ Below w.heap.size w wr) (fun _ x _ => 20 - (intOf x).toNat)
 case atStart => exact ⟨_, _, 0, by omega, rfl, rfl, own_built (xs := []) rfl rfl (Nat.le_refl _) (Nat.zero_le _), (Below.refl _ _).alloc (Nat.le_refl _) _⟩
 case round =>
  obtain ⟨A, c, k, hk, rfl, rfl, hown, hbel⟩ := hrel
  have zb := hbel.size
  by_cases hlt : k < 20
  ·have hc := (HT.out.below hbel).1 k hlt
   have hkk := Lib.hid (HK.out k (by omega))
   have hll := Lib.hid (HL.out (k + 1) (by omega))
   generalize wb k = x at *
   generalize vocB.take k = V at *
   go_wp2_with (at_builtin; go_must (refine app_list rfl _ _ _ rfl elt_str (w.heap.size) _ rfl ((hown.alloc _)) _ _ rfl ((rd_built (by first | rfl | (simp; done)) rfl)) (by first | rfl | exact sv_one _ | exact wv_one _) (by omega) (by omega) (by first | (simp; done) | (simp; omega) | omega) ?_); intro A4 c4 w4 hown4 hbel4 hgr4 hat4; have z4 := hbel4.size; (try simp only [World.size_alloc] at z4); (try simp only [Nat.zero_add, List.nil_append] at hown4))
   exact ⟨⟨A4, c4, k + 1, by omega, by go_num, rfl, by rw [hkk.out]; simpa [sv] using hown4, (hbel.alloc zb _).trans hbel4⟩, by simp [intOf]; omega⟩
  ·obtain rfl : k = 20 := by omega
   have e20 : ((20 : Nat) : Int) = 20 := rfl
   rw [e20]
   go_wp2
   go_loopw [1, 3] (fun v x wr => ∃ (A : Option Addr) (c k : Nat), k ≤ 8 ∧ x = .int .i64 k ∧ v = .slice A (20 + k) c ∧ wr.ownsRow w.heap.size 9 1 (.slice A (20 + k) c) (20 + k) (sv (vocB.take (20 + k))) ∧ Below w.heap.size w wr) (fun _ x _ => 8 - (intOf x).toNat)
   case atStart => exact ⟨A, c, 0, by omega, rfl, rfl, hown, hbel⟩
   case round =>
    obtain ⟨A, c, k, hk, rfl, rfl, hown, hbel⟩ := hrel
    have zb := hbel.size
    by_cases hlt : k < 8
    ·have hc := (HT.out.below hbel).2 k hlt
     have hkk := Lib.hid (HK.out (20 + k) (by omega))
     generalize wb (20 + k) = x at *
     generalize vocB.take (20 + k) = V at *
     go_wp2_with (at_builtin; go_must (refine app_list rfl _ _ _ rfl elt_str (w.heap.size) _ rfl ((hown.alloc _)) _ _ rfl ((rd_built (by first | rfl | (simp; done)) rfl)) (by first | rfl | exact sv_one _ | exact wv_one _) (by omega) (by omega) (by first | (simp; done) | (simp; omega) | omega) ?_); intro A4 c4 w4 hown4 hbel4 hgr4 hat4; have z4 := hbel4.size; (try simp only [World.size_alloc] at z4); (try simp only [Nat.zero_add, List.nil_append] at hown4))
     exact ⟨⟨A4, c4, k + 1, by omega, by go_num, by rw [Nat.add_assoc], by rw [show 20 + (k + 1) = 20 + k + 1 by omega, hkk.out]; simpa [sv] using hown4, (hbel.alloc zb _).trans hbel4⟩, by simp [intOf]; omega⟩
    ·obtain rfl : k = 8 := by omega
     go_wp2_with (at_builtin; go_must (refine app_list rfl _ _ _ rfl elt_str (w.heap.size) _ rfl ((hown.alloc _)) _ _ rfl ((rd_built (xs := sv [wb 28, wb 29, wb 30, wb 31]) (by first | rfl | (simp; done)) rfl)) (by first | rfl | exact sv_one _ | exact wv_one _) (by omega) (by omega) (by first | (simp; done) | (simp; omega) | omega) ?_); intro A4 c4 w4 hown4 hbel4 hgr4 hat4; have z4 := hbel4.size; (try simp only [World.size_alloc] at z4); (try simp only [Nat.zero_add, List.nil_append] at hown4))
     go_ret
     exact ⟨A4, c4, rfl, by rw [HE.out]; exact hown4, (hbel.alloc zb _).trans hbel4⟩
end Go.Proofs.YtejjfiipghcifaaGreatDoor
namespace Go.Proofs.YtejjfiipghcifaaGreatDoor
open Go.RowKit
set_option maxRecDepth 100000
def hasB (l : List ByteArray) (s : ByteArray) : Bool := l.any fun x => decide (x = s)
set_option maxHeartbeats 1000000 in
theorem has_ (l : List ByteArray) (s : ByteArray) (A : Option Addr) (n c B : Nat) (w : World) (hn : l.length = n) (hb : n ≤ 1000000000) (rd : Rd w B 1 A n (sv l)) :
  Calls Tryz.prog 90 #[.slice A n c, .string s] w (Same (.bool (hasB l s)) w) := by
 have HF : Hid (hasB l s = hasB (l.drop 0) s) := Lib.hid rfl
 have HN := Lib.hid hn
 generalize hasB l s = R at HF ⊢
 clear hn
 go_enter Tryz.func90, Tryz.ntmps90
 go_wp2
 go_loop [5] (fun x => ∃ k : Nat, k ≤ n ∧ x = .int .i64 k ∧ Hid (R = hasB (l.drop k) s)) (fun x => n - (intOf x).toNat)
 case atStart => exact ⟨0, Nat.zero_le _, rfl, HF⟩
 case round =>
  obtain ⟨k, hk, rfl, HR⟩ := hrel
  by_cases hlt : k < n
  ·have hkl : k < l.length := by have := HN.out; omega
   obtain ⟨b, o, rfl, _, hc⟩ := rd.at_ hlt
   rw [sv_get _ _ hkl] at hc
   have HD : Hid (l.drop k = l[k] :: l.drop (k + 1)) := Lib.hid (List.drop_eq_getElem_cons hkl)
   generalize l[k] = x at *
   by_cases he : x = s
   ·have HR2 : Hid (R = true) := Lib.hid (by rw [HR.out, HD.out]; simp [hasB, he])
    have hq : (x.toList == s.toList) = true := by rw [str_beq]; simp [he]
    clear he HR HD
    go_wp2
    go_ret
    exact ⟨by rw [HR2.out]; rfl, rfl⟩
   ·have HR2 : Hid (R = hasB (l.drop (k + 1)) s) := Lib.hid (by rw [HR.out, HD.out]; simp [hasB, he])
    have hq : (x.toList == s.toList) = false := by rw [str_beq]; simp [he]
    clear he HR HD
    go_wp2
    exact ⟨⟨k + 1, by omega, by go_num, HR2⟩, by simp [intOf]; omega⟩
  ·have HR2 : Hid (R = false) := Lib.hid (by rw [HR.out, List.drop_of_length_le (by have := HN.out; omega)]; rfl)
   go_wp2
   go_ret
   exact ⟨by rw [HR2.out]; rfl, rfl⟩
set_option maxHeartbeats 1000000 in
theorem rcontrols (w : World) : Calls Tryz.prog 140 #[] w fun e w' => e = .returned (.slice (some ⟨w.heap.size, 0, none⟩) 39 39) ∧ w.alloc (.cells (sv ctrlL).toArray 9) = w' := by
 have e : (sv ctrlL).toArray = #[.string cB, .string bJoined, .string bCap, .string bCaps, .string bWord, .string bSpace, .string bTimes, .string bSpelled, .string bEnd, .string bDigits, .string (styB 0), .string (styB 1), .string (styB 2), .string (styB 3),
 .string ⟨#[115, 105, 122, 101]⟩, .string ⟨#[114, 111, 119, 115]⟩, .string ⟨#[99, 111, 108, 117, 109, 110, 115]⟩, .string ⟨#[115, 99, 114, 111, 108, 108]⟩, .string ⟨#[108, 105, 110, 101]⟩, .string ⟨#[108, 105, 110, 101, 115]⟩, .string ⟨#[102, 114, 111, 109]⟩, .string ⟨#[116, 111]⟩, .string ⟨#[117, 112]⟩, .string ⟨#[100, 111, 119, 110]⟩,
 .string ⟨#[99, 111, 108, 117, 109, 110]⟩, .string ⟨#[114, 101, 112, 108, 97, 99, 101]⟩, .string ⟨#[119, 105, 116, 104]⟩, .string ⟨#[105, 110, 115, 101, 114, 116]⟩, .string ⟨#[100, 101, 108, 101, 116, 101]⟩, .string ⟨#[99, 117, 114, 115, 111, 114]⟩, .string ⟨#[118, 105, 115, 105, 98, 108, 101]⟩, .string ⟨#[105, 110, 118, 105, 115, 105, 98, 108, 101]⟩,
 .string ⟨#[109, 111, 114, 101]⟩, .string ⟨#[100, 111, 110, 101]⟩, .string ⟨#[117, 112, 100, 97, 116, 101, 115]⟩, .string ⟨#[114, 101, 97, 100, 115]⟩, .string ⟨#[115, 116, 111, 112]⟩, .string ⟨#[98, 108, 97, 110, 107]⟩, .string ⟨#[98, 121]⟩] := rfl
 rw [e]
 go_enter Tryz.func140, Tryz.ntmps140
 go_wp2
 go_ret
 exact ⟨rfl, rfl⟩
theorem res_split (s : ByteArray) : resB s = (hasB ctrlL s || (hasB vocB s || hasB ((List.range 32).map nb) s)) := by
 unfold resB hasB isNumW vocB
 rw [List.any_map, List.any_map, Bool.or_assoc]
 rfl
set_option maxHeartbeats 2000000 in
theorem rreserved (s : ByteArray) (w : World) (ht : Tb w) : Calls Tryz.prog 113 #[.string s] w (Gives (.bool (resB s)) w) := by
 have HC : Hid (∀ w : World, Calls Tryz.prog 90 #[.slice (some ⟨w.heap.size, 0, none⟩) 39 39, .string s] (w.alloc (.cells (sv ctrlL).toArray 9)) (Same (.bool (hasB ctrlL s)) (w.alloc (.cells (sv ctrlL).toArray 9)))) := Lib.hid fun w => has_ ctrlL s _ 39 39 _ _ rfl (by omega) (rd_built (xs := sv ctrlL) rfl rfl)
 have HV : Hid (∀ A c B w, Rd w B 1 A 32 (sv vocB) → Calls Tryz.prog 90 #[.slice A 32 c, .string s] w (Same (.bool (hasB vocB s)) w)) := Lib.hid fun A c B w rd => has_ vocB s A 32 c B w rfl (by omega) rd
 have HN : Hid (∀ A c B w, Rd w B 1 A 32 nmL → Calls Tryz.prog 90 #[.slice A 32 c, .string s] w (Same (.bool (hasB ((List.range 32).map nb) s)) w)) := Lib.hid fun A c B w rd => has_ ((List.range 32).map nb) s A 32 c B w rfl (by omega) rd
 have HT := Lib.hid ht
 have HCo := Lib.hid rcontrols
 have HVo := Lib.hid rvocabulary
 have HNo := Lib.hid rnames
 rw [res_split]
 generalize hasB ctrlL s = x1 at *
 generalize hasB vocB s = x2 at *
 generalize hasB ((List.range 32).map nb) s = x3 at *
 generalize (sv ctrlL).toArray = CA at *
 clear ht
 cases x1 with
 | true =>
  rw [Bool.true_or]
  go_enter Tryz.func113, Tryz.ntmps113
  go_wp2_with (first
   | (go_at_call 140; refine (HCo.out _).mono ?_; rintro e w1 ⟨rfl, rfl⟩)
   | (go_at_call 90; refine (HC.out _).mono ?_; rintro e w2 ⟨rfl, rfl⟩))
  go_ret
  exact ⟨rfl, (Below.refl _ _).alloc (Nat.le_refl _) _⟩
 | false =>
  rw [Bool.false_or]
  cases x2 with
  | true =>
   rw [Bool.true_or]
   go_enter Tryz.func113, Tryz.ntmps113
   go_wp2_with (first
    | (go_at_call 140; refine (HCo.out _).mono ?_; rintro e w1 ⟨rfl, rfl⟩)
    | (go_at_call 91; refine (HVo.out _ (HT.out.below ((Below.refl _ _).alloc (Nat.le_refl _) _))).mono ?_; rintro e w3 ⟨A3, c3, rfl, hown3, hbel3⟩)
    | ((fail_if_success have := hown3); go_at_call 90; refine (HC.out _).mono ?_; rintro e w2 ⟨rfl, rfl⟩)
    | (go_at_call 90; refine (HV.out _ _ _ _ (Rd.of_own hown3)).mono ?_; rintro e w4 ⟨rfl, rfl⟩))
   go_ret
   exact ⟨rfl, ((Below.refl _ _).alloc (Nat.le_refl _) _).trans (hbel3.mono (by simp))⟩
  | false =>
   rw [Bool.false_or]
   go_enter Tryz.func113, Tryz.ntmps113
   go_wp2_with (first
    | (go_at_call 140; refine (HCo.out _).mono ?_; rintro e w1 ⟨rfl, rfl⟩)
    | (go_at_call 91; refine (HVo.out _ (HT.out.below ((Below.refl _ _).alloc (Nat.le_refl _) _))).mono ?_; rintro e w3 ⟨A3, c3, rfl, hown3, hbel3⟩; have t3 := ((Below.refl w.heap.size w).alloc (Nat.le_refl _) _).trans (hbel3.mono (by simp)))
    | (go_at_call 141; refine (HNo.out _).mono ?_; rintro e w5 ⟨A5, c5, rfl, hown5, hbel5⟩; have t5 := t3.trans (hbel5.mono t3.size))
    | ((fail_if_success have := hown3); go_at_call 90; refine (HC.out _).mono ?_; rintro e w2 ⟨rfl, rfl⟩)
    | ((fail_if_success have := hown5); go_at_call 90; refine (HV.out _ _ _ _ (Rd.of_own hown3)).mono ?_; rintro e w4 ⟨rfl, rfl⟩)
    | (go_at_call 90; refine (HN.out _ _ _ _ (Rd.of_own hown5)).mono ?_; rintro e w6 ⟨rfl, rfl⟩))
   go_ret
   exact ⟨rfl, t5⟩
set_option maxHeartbeats 1000000 in
theorem rnumber_ (s : ByteArray) (w : World) (ht : Tb w) : Calls Tryz.prog 67 #[.string s] w (Gives (.bool (isNumW s)) w) := by
 have e : isNumW s = hasB vocB s := by
  unfold isNumW hasB vocB
  rw [List.any_map]
  rfl
 rw [e]
 have HV : Hid (∀ A c B w, Rd w B 1 A 32 (sv vocB) → Calls Tryz.prog 90 #[.slice A 32 c, .string s] w (Same (.bool (hasB vocB s)) w)) := Lib.hid fun A c B w rd => has_ vocB s A 32 c B w rfl (by omega) rd
 have HT := Lib.hid ht
 clear ht e
 generalize hasB vocB s = x2 at *
 go_enter Tryz.func67, Tryz.ntmps67
 go_wp2_with (first
  | (go_at_call 91; refine (rvocabulary _ HT.out).mono ?_; rintro e w3 ⟨A3, c3, rfl, hown3, hbel3⟩)
  | (go_at_call 90; refine (HV.out _ _ _ _ (Rd.of_own hown3)).mono ?_; rintro e w4 ⟨rfl, rfl⟩))
 go_ret
 exact ⟨rfl, hbel3⟩
end Go.Proofs.YtejjfiipghcifaaGreatDoor
