/- The reference of layer 38: positive, Words. -/
import Derived.Test.YtoiballfjbdoiaaDoorRef1
namespace Go.Proofs.YtoiballfjbdoiaaDoor
open Go.RowKit
set_option maxRecDepth 100000 in
set_option maxHeartbeats 1000000 in
theorem rpos_a (n : Nat) (hn : n < 1000) (x : Int) (hx : x = n) (w : World) (ht : Tb w) :
    Calls Tryd.prog 36 #[.int .i64 x] w (GivesOwn 9 1 id w (rposL n).length (wv (rposL n))) := by
  have HS := Lib.hid (rsmall n hn w ht)
  rw [← rpos_small n hn, ← hx] at HS
  have x1 : x < 1000 := by omega
  clear ht hx hn
  go_enter Tryd.func36, Tryd.ntmps36
  go_wp2_with (go_at_call 41; refine HS.out.mono ?_; rintro e w1 ⟨A1, c1, rfl, hown1, hbel1⟩)
  go_ret
  exact ⟨A1, c1, rfl, hown1, hbel1⟩
set_option maxRecDepth 100000 in
set_option maxHeartbeats 2000000 in
theorem rpos_b (n : Nat) (h1 : 1000 ≤ n) (h2 : n < 1000000) (x : Int) (hx : x = n) (w : World) (ht : Tb w) :
    Calls Tryd.prog 36 #[.int .i64 x] w (GivesOwn 9 1 id w (rposL n).length (wv (rposL n))) := by
  have HT := Lib.hid ht
  have x1 : 1000 ≤ x := by omega
  have x2 : x < 1000000 := by omega
  have hq : n / 1000 < 1000 := by omega
  have HS : Hid (∀ w, Tb w → Calls Tryd.prog 41 #[.int .i64 (x / 1000)] w (GivesOwn 9 1 id w (rsmallL (n / 1000)).length (wv (rsmallL (n / 1000))))) := Lib.hid fun w ht => by
    have := rsmall (n / 1000) hq w ht
    rwa [show ((n / 1000 : Nat) : Int) = x / 1000 from by omega] at this
  have HR : Hid (∀ w, Tb w → Calls Tryd.prog 36 #[.int .i64 (x % 1000)] w (GivesOwn 9 1 id w (rposL (n % 1000)).length (wv (rposL (n % 1000))))) := Lib.hid fun w ht => by
    exact rpos_a (n % 1000) (by omega) (x % 1000) (by omega) w ht
  have HL := Lib.hid (rpos_thousand n (by omega) (by omega))
  have l1 := rsmallL_le (n / 1000)
  have l2 := rposL_le (n % 1000)
  by_cases c3 : n % 1000 = 0
  · have c3' : (x % 1000 != 0) = false := by rw [bne_eq_false_iff_eq]; omega
    have HL2 : Hid (rposL n = rsmallL (n / 1000) ++ [29]) := Lib.hid (by rw [HL.out, if_pos c3, List.append_nil])
    clear ht c3 hx h1 h2 hq
    generalize rsmallL (n / 1000) = L at *
    go_enter Tryd.func36, Tryd.ntmps36
    go_wp2_with (first
      | (go_at_call 41; refine (HS.out _ HT.out).mono ?_; rintro e w1 ⟨A1, c1, rfl, hown1, hbel1⟩; have z1 := hbel1.size)
      | (at_builtin; refine app_list rfl _ _ _ rfl elt_str (w.heap.size) _ rfl (hown1.alloc _) _ _ rfl (rd_built (by rfl) rfl) (by first | rfl | exact sv_one _ | exact wv_one _) (by omega) (by omega) (by first | (simp; done) | (simp; omega) | omega) ?_; intro A2 c2 w2 hown2 hbel2 hgr2 hat2; have z2 := hbel2.size; (try simp only [World.size_alloc] at z2); (try simp only [Nat.zero_add, List.nil_append] at hown2)))
    go_ret
    rw [HL2.out]
    have e : (L ++ [29]).length = L.length + 1 := by simp
    exact ⟨A2, c2, by rw [e]; rfl, by rw [e]; simpa [wv, wb] using hown2, (hbel1.alloc (by omega) _).trans (hbel2.mono (by omega))⟩
  · have c3' : (x % 1000 != 0) = true := by rw [bne_iff_ne]; omega
    have HL2 : Hid (rposL n = rsmallL (n / 1000) ++ [29] ++ rposL (n % 1000)) := Lib.hid (by rw [HL.out, if_neg c3])
    clear ht c3 hx h1 h2 hq
    generalize rsmallL (n / 1000) = L at *
    generalize rposL (n % 1000) = L' at *
    go_enter Tryd.func36, Tryd.ntmps36
    go_wp2_with (first
      | (go_at_call 41; refine (HS.out _ HT.out).mono ?_; rintro e w1 ⟨A1, c1, rfl, hown1, hbel1⟩; have z1 := hbel1.size)
      | (at_builtin; refine app_list rfl _ _ _ rfl elt_str (w.heap.size) _ rfl (hown1.alloc _) _ _ rfl (rd_built (by rfl) rfl) (by first | rfl | exact sv_one _ | exact wv_one _) (by omega) (by omega) (by first | (simp; done) | (simp; omega) | omega) ?_; intro A2 c2 w2 hown2 hbel2 hgr2 hat2; have z2 := hbel2.size; (try simp only [World.size_alloc] at z2); (try simp only [Nat.zero_add, List.nil_append] at hown2))
      | (go_at_call 36; refine (HR.out _ (HT.out.below ((hbel1.alloc (by omega) _).trans hbel2))).mono ?_; rintro e w3 ⟨A3, c3, rfl, hown3, hbel3⟩; have z3 := hbel3.size; have hown2' := own_below hown2 hbel3)
      | (at_builtin; refine app_list rfl _ _ _ rfl elt_str (w.heap.size) _ rfl (hown2') _ _ rfl (Rd.of_own hown3) (by first | rfl | exact sv_one _ | exact wv_one _) (by omega) (by omega) (by first | (simp; done) | (simp; omega) | omega) ?_; intro A4 c4 w4 hown4 hbel4 hgr4 hat4; have z4 := hbel4.size; (try simp only [World.size_alloc] at z4); (try simp only [Nat.zero_add, List.nil_append] at hown4)))
    go_ret
    rw [HL2.out]
    have e : (L ++ [29] ++ L').length = L.length + 1 + L'.length := by simp; omega
    exact ⟨A4, c4, by rw [e]; rfl, by rw [e]; simpa [wv, wb] using hown4, (((hbel1.alloc (by omega) _).trans (hbel2.mono (by omega))).trans (hbel3.mono (by omega))).trans (hbel4.mono (by omega))⟩
theorem rpos_ab (n : Nat) (h2 : n < 1000000) (x : Int) (hx : x = n) (w : World) (ht : Tb w) :
    Calls Tryd.prog 36 #[.int .i64 x] w (GivesOwn 9 1 id w (rposL n).length (wv (rposL n))) := by
  rcases Nat.lt_or_ge n 1000 with h | h
  · exact rpos_a n h x hx w ht
  · exact rpos_b n h h2 x hx w ht
set_option maxRecDepth 100000 in
set_option maxHeartbeats 2000000 in
theorem rpos_c (n : Nat) (h1 : 1000000 ≤ n) (h2 : n < 1000000000) (x : Int) (hx : x = n) (w : World) (ht : Tb w) :
    Calls Tryd.prog 36 #[.int .i64 x] w (GivesOwn 9 1 id w (rposL n).length (wv (rposL n))) := by
  have HT := Lib.hid ht
  have x1 : 1000000 ≤ x := by omega
  have x2 : x < 1000000000 := by omega
  have hq : n / 1000000 < 1000 := by omega
  have HS : Hid (∀ w, Tb w → Calls Tryd.prog 41 #[.int .i64 (x / 1000000)] w (GivesOwn 9 1 id w (rsmallL (n / 1000000)).length (wv (rsmallL (n / 1000000))))) := Lib.hid fun w ht => by
    have := rsmall (n / 1000000) hq w ht
    rwa [show ((n / 1000000 : Nat) : Int) = x / 1000000 from by omega] at this
  have HR : Hid (∀ w, Tb w → Calls Tryd.prog 36 #[.int .i64 (x % 1000000)] w (GivesOwn 9 1 id w (rposL (n % 1000000)).length (wv (rposL (n % 1000000))))) := Lib.hid fun w ht => by
    exact rpos_ab (n % 1000000) (by omega) (x % 1000000) (by omega) w ht
  have HL := Lib.hid (rpos_million n (by omega) (by omega))
  have l1 := rsmallL_le (n / 1000000)
  have l2 := rposL_le (n % 1000000)
  by_cases c3 : n % 1000000 = 0
  · have c3' : (x % 1000000 != 0) = false := by rw [bne_eq_false_iff_eq]; omega
    have HL2 : Hid (rposL n = rsmallL (n / 1000000) ++ [30]) := Lib.hid (by rw [HL.out, if_pos c3, List.append_nil])
    clear ht c3 hx h1 h2 hq
    generalize rsmallL (n / 1000000) = L at *
    go_enter Tryd.func36, Tryd.ntmps36
    go_wp2_with (first
      | (go_at_call 41; refine (HS.out _ HT.out).mono ?_; rintro e w1 ⟨A1, c1, rfl, hown1, hbel1⟩; have z1 := hbel1.size)
      | (at_builtin; refine app_list rfl _ _ _ rfl elt_str (w.heap.size) _ rfl (hown1.alloc _) _ _ rfl (rd_built (by rfl) rfl) (by first | rfl | exact sv_one _ | exact wv_one _) (by omega) (by omega) (by first | (simp; done) | (simp; omega) | omega) ?_; intro A2 c2 w2 hown2 hbel2 hgr2 hat2; have z2 := hbel2.size; (try simp only [World.size_alloc] at z2); (try simp only [Nat.zero_add, List.nil_append] at hown2)))
    go_ret
    rw [HL2.out]
    have e : (L ++ [30]).length = L.length + 1 := by simp
    exact ⟨A2, c2, by rw [e]; rfl, by rw [e]; simpa [wv, wb] using hown2, (hbel1.alloc (by omega) _).trans (hbel2.mono (by omega))⟩
  · have c3' : (x % 1000000 != 0) = true := by rw [bne_iff_ne]; omega
    have HL2 : Hid (rposL n = rsmallL (n / 1000000) ++ [30] ++ rposL (n % 1000000)) := Lib.hid (by rw [HL.out, if_neg c3])
    clear ht c3 hx h1 h2 hq
    generalize rsmallL (n / 1000000) = L at *
    generalize rposL (n % 1000000) = L' at *
    go_enter Tryd.func36, Tryd.ntmps36
    go_wp2_with (first
      | (go_at_call 41; refine (HS.out _ HT.out).mono ?_; rintro e w1 ⟨A1, c1, rfl, hown1, hbel1⟩; have z1 := hbel1.size)
      | (at_builtin; refine app_list rfl _ _ _ rfl elt_str (w.heap.size) _ rfl (hown1.alloc _) _ _ rfl (rd_built (by rfl) rfl) (by first | rfl | exact sv_one _ | exact wv_one _) (by omega) (by omega) (by first | (simp; done) | (simp; omega) | omega) ?_; intro A2 c2 w2 hown2 hbel2 hgr2 hat2; have z2 := hbel2.size; (try simp only [World.size_alloc] at z2); (try simp only [Nat.zero_add, List.nil_append] at hown2))
      | (go_at_call 36; refine (HR.out _ (HT.out.below ((hbel1.alloc (by omega) _).trans hbel2))).mono ?_; rintro e w3 ⟨A3, c3, rfl, hown3, hbel3⟩; have z3 := hbel3.size; have hown2' := own_below hown2 hbel3)
      | (at_builtin; refine app_list rfl _ _ _ rfl elt_str (w.heap.size) _ rfl (hown2') _ _ rfl (Rd.of_own hown3) (by first | rfl | exact sv_one _ | exact wv_one _) (by omega) (by omega) (by first | (simp; done) | (simp; omega) | omega) ?_; intro A4 c4 w4 hown4 hbel4 hgr4 hat4; have z4 := hbel4.size; (try simp only [World.size_alloc] at z4); (try simp only [Nat.zero_add, List.nil_append] at hown4)))
    go_ret
    rw [HL2.out]
    have e : (L ++ [30] ++ L').length = L.length + 1 + L'.length := by simp; omega
    exact ⟨A4, c4, by rw [e]; rfl, by rw [e]; simpa [wv, wb] using hown4, (((hbel1.alloc (by omega) _).trans (hbel2.mono (by omega))).trans (hbel3.mono (by omega))).trans (hbel4.mono (by omega))⟩
theorem rpos (n : Nat) (h2 : n < 1000000000) (x : Int) (hx : x = n) (w : World) (ht : Tb w) :
    Calls Tryd.prog 36 #[.int .i64 x] w (GivesOwn 9 1 id w (rposL n).length (wv (rposL n))) := by
  rcases Nat.lt_or_ge n 1000000 with h | h
  · exact rpos_ab n h x hx w ht
  · exact rpos_c n h h2 x hx w ht
theorem wordsL_eq_pos (n : Nat) : wordsL n = rposL n := by
  unfold wordsL rposL
  by_cases h0 : n = 0
  · subst h0; rfl
  · have h1 : ¬ ((n : Int) = 0) := by omega
    have h2 : ¬ ((n : Int) < 0) := by omega
    rw [if_neg h1, if_neg h2, if_neg h0, Int.natAbs_natCast]
    rfl
theorem wordsL_eq_neg (n : Nat) (h0 : 0 < n) : wordsL (-(n : Int)) = 31 :: rposL n := by
  have e : (-(n : Int)).natAbs = n := by omega
  have h1 : ¬ (-(n : Int) = 0) := by omega
  have h2 : -(n : Int) < 0 := by omega
  unfold wordsL rposL
  rw [if_neg h1, if_pos h2, if_neg (by omega), e]
  rfl
set_option maxHeartbeats 400000 in
theorem rwords_range (n : Int) (h : n < -999999999 ∨ 999999999 < n) (w : World) :
    Calls Tryd.prog 29 #[.int .i64 n] w (Gives (.tuple #[.slice none 0 0, .int .i64 2]) w) := by
  rcases h with h | h
  · go_enter Tryd.func29, Tryd.ntmps29
    go_wp2
    go_ret2
    exact ⟨rfl, Below.refl _ _⟩
  · have h' : ¬ n < -999999999 := by omega
    go_enter Tryd.func29, Tryd.ntmps29
    go_wp2
    go_ret2
    exact ⟨rfl, Below.refl _ _⟩
set_option maxRecDepth 100000 in
set_option maxHeartbeats 1000000 in
theorem rwords_in (n : Int) (h1 : -999999999 ≤ n) (h2 : n ≤ 999999999) (w : World) (ht : Tb w) :
    Calls Tryd.prog 29 #[.int .i64 n] w (GivesOwn 9 1 okPair w (wordsL n).length (wv (wordsL n))) := by
  have HT := Lib.hid ht
  clear ht
  by_cases hn : n < 0
  · obtain ⟨m, hm⟩ : ∃ m : Nat, n = -(m : Int) := ⟨n.natAbs, by omega⟩
    have hm1 : 0 < m := by omega
    have HL := Lib.hid (wordsL_eq_neg m hm1)
    have hle := rposL_le m
    have HS : Hid (∀ w, Tb w → Calls Tryd.prog 36 #[.int .i64 (-n)] w (GivesOwn 9 1 id w (rposL m).length (wv (rposL m)))) := Lib.hid fun w ht => by
      exact rpos m (by omega) (-n) (by omega) w ht
    rw [← hm] at HL
    clear hm
    generalize rposL m = L at *
    go_enter Tryd.func29, Tryd.ntmps29
    go_wp2_with (first
      | (go_at_call 36; refine (HS.out _ (HT.out.below (by exact (Below.refl _ _).alloc (Nat.le_refl _) _))).mono ?_; rintro e w1 ⟨A1, c1, rfl, hown1, hbel1⟩; have z1 := hbel1.size; simp only [World.size_alloc] at z1; have hown0 : w1.ownsRow w.heap.size 9 1 (.slice (some ⟨w.heap.size, 0, none⟩) 1 1) 1 [.string (wb 31)] := own_below (own_built (by rfl) rfl (Nat.le_refl _) (by omega)) hbel1)
      | (at_builtin; refine app_list rfl _ _ _ rfl elt_str (w.heap.size) _ rfl (hown0) _ _ rfl (Rd.of_own hown1) (by first | rfl | exact sv_one _ | exact wv_one _) (by omega) (by omega) (by first | (simp; done) | (simp; omega) | omega) ?_; intro A2 c2 w2 hown2 hbel2 hgr2 hat2; have z2 := hbel2.size; (try simp only [World.size_alloc] at z2); (try simp only [Nat.zero_add, List.nil_append] at hown2)))
    go_ret2
    rw [HL.out]
    have e : (31 :: L).length = 1 + L.length := by simp; omega
    exact ⟨A2, c2, by rw [e]; rfl, by rw [e]; simpa [wv] using hown2, (((Below.refl _ _).alloc (Nat.le_refl _) _).trans (hbel1.mono (by simp))).trans (hbel2.mono (by omega))⟩
  · obtain ⟨m, rfl⟩ : ∃ m : Nat, n = (m : Int) := ⟨n.toNat, by omega⟩
    have HL := Lib.hid (wordsL_eq_pos m)
    have HS : Hid (∀ w, Tb w → Calls Tryd.prog 36 #[.int .i64 (m : Int)] w (GivesOwn 9 1 id w (rposL m).length (wv (rposL m)))) := Lib.hid fun w ht => rpos m (by omega) m rfl w ht
    generalize rposL m = L at *
    go_enter Tryd.func29, Tryd.ntmps29
    go_wp2_with (go_at_call 36; refine (HS.out _ HT.out).mono ?_; rintro e w1 ⟨A1, c1, rfl, hown1, hbel1⟩)
    go_ret2
    rw [HL.out]
    exact ⟨A1, c1, rfl, hown1, hbel1⟩
end Go.Proofs.YtoiballfjbdoiaaDoor
