/- NumwordsGroups: the law's walk. -/
import Derived.Test.YtjieioobdknjjaaNumL2
namespace Go.Proofs.Ytjieioobdknjjaa
open Go.RowKit
theorem wordsL_small (n : Nat) (h0 : 0 < n) (h : n < 1000) : wordsL n = smallL n := by
  have a : n / 1000000 = 0 := by omega
  have b : n % 1000000 / 1000 = 0 := by omega
  have c : n % 1000000 % 1000 = n := by omega
  have h1 : ¬ ((n : Int) = 0) := by omega
  have h2 : ¬ ((n : Int) < 0) := by omega
  simp only [wordsL, if_neg h1, if_neg h2, Int.natAbs_natCast, posL, a, b, c, segL, segE, if_pos h0]
  simp
theorem groups_thousand (n r : Nat) (h0 : 0 < n) (h : n < 1000) (hr : r < 1000) : wordsL ((n : Int) * 1000 + r) = wordsL n ++ [29] ++ (if 0 < r then wordsL r else []) := by
  have e : (n : Int) * 1000 + r = ((n * 1000 + r : Nat) : Int) := by omega
  have a : (n * 1000 + r) / 1000000 = 0 := by omega
  have b : (n * 1000 + r) % 1000000 / 1000 = n := by omega
  have c : (n * 1000 + r) % 1000000 % 1000 = r := by omega
  have h1 : ¬ (((n * 1000 + r : Nat) : Int) = 0) := by omega
  have h2 : ¬ (((n * 1000 + r : Nat) : Int) < 0) := by omega
  rw [wordsL_small n h0 h, e]
  have hw : wordsL ((n * 1000 + r : Nat) : Int) = smallL n ++ [29] ++ segE r := by
    simp only [wordsL, if_neg h1, if_neg h2, Int.natAbs_natCast, posL, a, b, c, segL, if_pos h0]
    simp
  rw [hw]
  by_cases hr0 : 0 < r
  · rw [if_pos hr0, wordsL_small r hr0 hr, segE, if_pos hr0]
  · rw [if_neg hr0, segE, if_neg hr0]
theorem groups_million (n r : Nat) (h0 : 0 < n) (h : n < 1000) (hr : r < 1000000) : wordsL ((n : Int) * 1000000 + r) = wordsL n ++ [30] ++ (if 0 < r then wordsL r else []) := by
  have e : (n : Int) * 1000000 + r = ((n * 1000000 + r : Nat) : Int) := by omega
  have a : (n * 1000000 + r) / 1000000 = n := by omega
  have b : (n * 1000000 + r) % 1000000 = r := by omega
  have h1 : ¬ (((n * 1000000 + r : Nat) : Int) = 0) := by omega
  have h2 : ¬ (((n * 1000000 + r : Nat) : Int) < 0) := by omega
  rw [wordsL_small n h0 h, e]
  have hw : wordsL ((n * 1000000 + r : Nat) : Int) = smallL n ++ [30] ++ (segL (r / 1000) 29 ++ segE (r % 1000)) := by
    simp only [wordsL, if_neg h1, if_neg h2, Int.natAbs_natCast, posL, a, b, segL, if_pos h0]
    simp
  rw [hw]
  by_cases hr0 : 0 < r
  · have a' : r / 1000000 = 0 := by omega
    have b' : r % 1000000 = r := by omega
    have h1' : ¬ ((r : Int) = 0) := by omega
    have h2' : ¬ ((r : Int) < 0) := by omega
    have hw' : wordsL (r : Int) = segL (r / 1000) 29 ++ segE (r % 1000) := by
      simp only [wordsL, if_neg h1', if_neg h2', Int.natAbs_natCast, posL, a', b']
      simp [segL]
    rw [if_pos hr0, hw']
  · obtain rfl : r = 0 := by omega
    simp [segL, segE]
set_option maxHeartbeats 2000000 in
theorem groups_walk (a b : Int) (ha : 0 ≤ a) (hb : 0 ≤ b) (ha2 : a ≤ 65535) (hb2 : b ≤ 65535) (N : Nat) (hN : 1 + a % 999 = N) (mil : Bool) (w : World) :
    Calls Try.prog 6 #[.int .u16 a, .int .u16 b, .bool mil] w (Gives (.bool true) w) := by
  have hN1 : 0 < N := by omega
  have hN2 : N < 1000 := by omega
  have HN := Lib.hid hN
  clear hN
  cases mil with
  | true =>
    obtain ⟨r, hr⟩ : ∃ r : Nat, 7 * b = r := ⟨(7 * b).toNat, by omega⟩
    have hr2 : r ≤ 458745 := by omega
    have HR := Lib.hid hr
    clear hr
    go_enter Try.func6, Try.ntmps6
    go_upto_region 5 with fail
    rw [HN.out, HR.out]
    have hbd : 1 ≤ (N : Int) * 1000000 + r ∧ (N : Int) * 1000000 + r ≤ 999999999 := by omega
    have HP : Hid (wordsL ((N : Int) * 1000000 + r) = wordsL N ++ [30] ++ (if 0 < r then wordsL r else [])) := Lib.hid (groups_million N r hN1 hN2 (by omega))
    have HA : Hid (∀ w, Calls Try.prog 9 #[.int .i64 ((N : Int) * 1000000 + r)] w (GivesOwn 9 1 okPair w (wordsL ((N : Int) * 1000000 + r)).length (wv (wordsL ((N : Int) * 1000000 + r))))) := Lib.hid fun w => words_in _ (by omega) (by omega) w
    have HB : Hid (∀ w, Calls Try.prog 9 #[.int .i64 (N : Int)] w (GivesOwn 9 1 okPair w (wordsL N).length (wv (wordsL N)))) := Lib.hid fun w => words_in _ (by omega) (by omega) w
    have HC : Hid (∀ w, Calls Try.prog 9 #[.int .i64 (r : Int)] w (GivesOwn 9 1 okPair w (wordsL r).length (wv (wordsL r)))) := Lib.hid fun w => words_in _ (by omega) (by omega) w
    have l1 := wordsL_le ((N : Int) * 1000000 + r)
    have l2 := wordsL_le N
    have l3 := wordsL_le r
    generalize wordsL ((N : Int) * 1000000 + r) = L1 at *
    generalize wordsL (N : Int) = L2 at *
    generalize wordsL (r : Int) = L3 at *
    go_wp2_with fail
    refine (HA.out _).mono ?_
    rintro e w1 ⟨A1, c1, rfl, hown1, hbel1⟩
    have z1 := hbel1.size
    go_wp2_with fail
    refine (HB.out _).mono ?_
    rintro e w2 ⟨A2, c2, rfl, hown2, hbel2⟩
    have z2 := hbel2.size
    go_wp2_with fail
    refine (HC.out _).mono ?_
    rintro e w3 ⟨A3, c3, rfl, hown3, hbel3⟩
    have z3 := hbel3.size
    have o1 := Rd.of_own (own_below (own_below hown1 hbel2) hbel3)
    have o2 := Rd.of_own (own_below hown2 hbel3)
    have o3 := Rd.of_own hown3
    go_upto_if 55 with (first
      | ((at_builtin; refine app_list rfl _ _ _ rfl elt_str (w3.heap.size) _ rfl (own_built (xs := []) (by rfl) rfl (Nat.le_refl _) (by omega)) _ _ rfl (o2.below ((Below.refl _ _).alloc (Nat.le_refl _) _)) (by first | rfl | exact sv_one _ | exact wv_one _) (by omega) (by omega) (by first | (simp; done) | (simp; omega) | omega) ?_; intro A4 c4 w4 hown4 hbel4 hgr4 hat4; have z4 := hbel4.size; (try simp only [World.size_alloc] at z4); (try simp only [Nat.zero_add, List.nil_append] at hown4)); have o1q := o1.below (((Below.refl w3.heap.size w3).alloc (Nat.le_refl _) _).trans hbel4); have o3q := o3.below (((Below.refl w3.heap.size w3).alloc (Nat.le_refl _) _).trans hbel4); have zz4 : w3.heap.size ≤ w4.heap.size := by omega)
      | ((at_builtin; refine app_list rfl _ _ _ rfl elt_str (w3.heap.size) _ rfl (hown4.alloc _) _ _ rfl (rd_built (by rfl) rfl) (by first | rfl | exact sv_one _ | exact wv_one _) (by omega) (by omega) (by first | (simp; done) | (simp; omega) | omega) ?_; intro A5 c5 w5 hown5 hbel5 hgr5 hat5; have z5 := hbel5.size; (try simp only [World.size_alloc] at z5); (try simp only [Nat.zero_add, List.nil_append] at hown5)); have o1p := o1q.below (((Below.refl w3.heap.size w4).alloc (by omega) _).trans hbel5); have o3p := o3q.below (((Below.refl w3.heap.size w4).alloc (by omega) _).trans hbel5); have zz5 : w3.heap.size ≤ w5.heap.size := by omega))
    have t0 : Below w.heap.size w w3 := (hbel1.trans (hbel2.mono z1)).trans (hbel3.mono (by omega))
    have t1 : Below w.heap.size w w4 := (t0.alloc (by omega) _).trans (hbel4.mono (by omega))
    have t2 : Below w.heap.size w w5 := (t1.alloc (by omega) _).trans (hbel5.mono (by omega))
    by_cases hr : 0 < r
    · have hr' : (0 : Int) < (r : Int) := by omega
      have HP2 : Hid (L1 = L2 ++ [30] ++ L3) := Lib.hid (by rw [HP.out, if_pos hr])
      go_wp2_with (first
        | (at_builtin; refine app_list rfl _ _ _ rfl elt_str (w3.heap.size) _ rfl (hown5) _ _ rfl o3p (by first | rfl | exact sv_one _ | exact wv_one _) (by omega) (by omega) (by first | (simp; done) | (simp; omega) | omega) ?_; intro A6 c6 w6 hown6 hbel6 hgr6 hat6; have z6 := hbel6.size; (try simp only [World.size_alloc] at z6); (try simp only [Nat.zero_add, List.nil_append] at hown6))
        | (go_at_call 13; refine (same_t (L1.map wb) ((L2 ++ [30] ++ L3).map wb) (by rw [HP2.out]) _ _ _ _ _ _ _ _ _ (by first | rfl | assumption | exact Hn.out | (simp; done) | (simp; omega)) (by first | rfl | assumption | exact Hn.out | (simp; done) | (simp; omega)) (by rw [← wv_sv]; exact o1p.below hbel6) (by rw [← wv_sv]; simpa [wv_append, wv, wb] using Rd.of_own hown6) (by first | omega | (simp only [List.length_cons, List.length_nil]; omega)) (by first | omega | (simp only [List.length_cons, List.length_nil]; omega))).mono ?_; rintro e w7 ⟨rfl, n7, rfl⟩)
        | (go_at_call 10; refine (awake _).mono ?_; rintro e w8 ⟨rfl, hbel8⟩))
      go_ret
      exact ⟨rfl, (t2.trans (hbel6.mono (by omega))).trans (Below.mono (below_of_drewN hbel8) (by show w.heap.size ≤ w6.heap.size; omega))⟩
    · obtain rfl : r = 0 := by omega
      have HP2 : Hid (L1 = L2 ++ [30]) := Lib.hid (by rw [HP.out, if_neg hr, List.append_nil])
      go_wp2_with (first
        | (go_at_call 13; refine (same_t (L1.map wb) ((L2 ++ [30]).map wb) (by rw [HP2.out]) _ _ _ _ _ _ _ _ _ (by first | rfl | assumption | exact Hn.out | (simp; done) | (simp; omega)) (by first | rfl | assumption | exact Hn.out | (simp; done) | (simp; omega)) (by rw [← wv_sv]; exact o1p) (by rw [← wv_sv]; simpa [wv_append, wv, wb] using Rd.of_own hown5) (by first | omega | (simp only [List.length_cons, List.length_nil]; omega)) (by first | omega | (simp only [List.length_cons, List.length_nil]; omega))).mono ?_; rintro e w7 ⟨rfl, n7, rfl⟩)
        | (go_at_call 10; refine (awake _).mono ?_; rintro e w8 ⟨rfl, hbel8⟩))
      go_ret
      exact ⟨rfl, t2.trans (Below.mono (below_of_drewN hbel8) (by show w.heap.size ≤ w5.heap.size; omega))⟩
  | false =>
    obtain ⟨r, hr⟩ : ∃ r : Nat, b % 1000 = r := ⟨(b % 1000).toNat, by omega⟩
    have hr2 : r ≤ 999 := by omega
    have HR := Lib.hid hr
    clear hr
    go_enter Try.func6, Try.ntmps6
    go_upto_region 5 with fail
    rw [HN.out, HR.out]
    have hbd : 1 ≤ (N : Int) * 1000 + r ∧ (N : Int) * 1000 + r ≤ 999999999 := by omega
    have HP : Hid (wordsL ((N : Int) * 1000 + r) = wordsL N ++ [29] ++ (if 0 < r then wordsL r else [])) := Lib.hid (groups_thousand N r hN1 hN2 (by omega))
    have HA : Hid (∀ w, Calls Try.prog 9 #[.int .i64 ((N : Int) * 1000 + r)] w (GivesOwn 9 1 okPair w (wordsL ((N : Int) * 1000 + r)).length (wv (wordsL ((N : Int) * 1000 + r))))) := Lib.hid fun w => words_in _ (by omega) (by omega) w
    have HB : Hid (∀ w, Calls Try.prog 9 #[.int .i64 (N : Int)] w (GivesOwn 9 1 okPair w (wordsL N).length (wv (wordsL N)))) := Lib.hid fun w => words_in _ (by omega) (by omega) w
    have HC : Hid (∀ w, Calls Try.prog 9 #[.int .i64 (r : Int)] w (GivesOwn 9 1 okPair w (wordsL r).length (wv (wordsL r)))) := Lib.hid fun w => words_in _ (by omega) (by omega) w
    have l1 := wordsL_le ((N : Int) * 1000 + r)
    have l2 := wordsL_le N
    have l3 := wordsL_le r
    generalize wordsL ((N : Int) * 1000 + r) = L1 at *
    generalize wordsL (N : Int) = L2 at *
    generalize wordsL (r : Int) = L3 at *
    go_wp2_with fail
    refine (HA.out _).mono ?_
    rintro e w1 ⟨A1, c1, rfl, hown1, hbel1⟩
    have z1 := hbel1.size
    go_wp2_with fail
    refine (HB.out _).mono ?_
    rintro e w2 ⟨A2, c2, rfl, hown2, hbel2⟩
    have z2 := hbel2.size
    go_wp2_with fail
    refine (HC.out _).mono ?_
    rintro e w3 ⟨A3, c3, rfl, hown3, hbel3⟩
    have z3 := hbel3.size
    have o1 := Rd.of_own (own_below (own_below hown1 hbel2) hbel3)
    have o2 := Rd.of_own (own_below hown2 hbel3)
    have o3 := Rd.of_own hown3
    go_upto_if 55 with (first
      | ((at_builtin; refine app_list rfl _ _ _ rfl elt_str (w3.heap.size) _ rfl (own_built (xs := []) (by rfl) rfl (Nat.le_refl _) (by omega)) _ _ rfl (o2.below ((Below.refl _ _).alloc (Nat.le_refl _) _)) (by first | rfl | exact sv_one _ | exact wv_one _) (by omega) (by omega) (by first | (simp; done) | (simp; omega) | omega) ?_; intro A4 c4 w4 hown4 hbel4 hgr4 hat4; have z4 := hbel4.size; (try simp only [World.size_alloc] at z4); (try simp only [Nat.zero_add, List.nil_append] at hown4)); have o1q := o1.below (((Below.refl w3.heap.size w3).alloc (Nat.le_refl _) _).trans hbel4); have o3q := o3.below (((Below.refl w3.heap.size w3).alloc (Nat.le_refl _) _).trans hbel4); have zz4 : w3.heap.size ≤ w4.heap.size := by omega)
      | ((at_builtin; refine app_list rfl _ _ _ rfl elt_str (w3.heap.size) _ rfl (hown4.alloc _) _ _ rfl (rd_built (by rfl) rfl) (by first | rfl | exact sv_one _ | exact wv_one _) (by omega) (by omega) (by first | (simp; done) | (simp; omega) | omega) ?_; intro A5 c5 w5 hown5 hbel5 hgr5 hat5; have z5 := hbel5.size; (try simp only [World.size_alloc] at z5); (try simp only [Nat.zero_add, List.nil_append] at hown5)); have o1p := o1q.below (((Below.refl w3.heap.size w4).alloc (by omega) _).trans hbel5); have o3p := o3q.below (((Below.refl w3.heap.size w4).alloc (by omega) _).trans hbel5); have zz5 : w3.heap.size ≤ w5.heap.size := by omega))
    have t0 : Below w.heap.size w w3 := (hbel1.trans (hbel2.mono z1)).trans (hbel3.mono (by omega))
    have t1 : Below w.heap.size w w4 := (t0.alloc (by omega) _).trans (hbel4.mono (by omega))
    have t2 : Below w.heap.size w w5 := (t1.alloc (by omega) _).trans (hbel5.mono (by omega))
    by_cases hr : 0 < r
    · have hr' : (0 : Int) < (r : Int) := by omega
      have HP2 : Hid (L1 = L2 ++ [29] ++ L3) := Lib.hid (by rw [HP.out, if_pos hr])
      go_wp2_with (first
        | (at_builtin; refine app_list rfl _ _ _ rfl elt_str (w3.heap.size) _ rfl (hown5) _ _ rfl o3p (by first | rfl | exact sv_one _ | exact wv_one _) (by omega) (by omega) (by first | (simp; done) | (simp; omega) | omega) ?_; intro A6 c6 w6 hown6 hbel6 hgr6 hat6; have z6 := hbel6.size; (try simp only [World.size_alloc] at z6); (try simp only [Nat.zero_add, List.nil_append] at hown6))
        | (go_at_call 13; refine (same_t (L1.map wb) ((L2 ++ [29] ++ L3).map wb) (by rw [HP2.out]) _ _ _ _ _ _ _ _ _ (by first | rfl | assumption | exact Hn.out | (simp; done) | (simp; omega)) (by first | rfl | assumption | exact Hn.out | (simp; done) | (simp; omega)) (by rw [← wv_sv]; exact o1p.below hbel6) (by rw [← wv_sv]; simpa [wv_append, wv, wb] using Rd.of_own hown6) (by first | omega | (simp only [List.length_cons, List.length_nil]; omega)) (by first | omega | (simp only [List.length_cons, List.length_nil]; omega))).mono ?_; rintro e w7 ⟨rfl, n7, rfl⟩)
        | (go_at_call 10; refine (awake _).mono ?_; rintro e w8 ⟨rfl, hbel8⟩))
      go_ret
      exact ⟨rfl, (t2.trans (hbel6.mono (by omega))).trans (Below.mono (below_of_drewN hbel8) (by show w.heap.size ≤ w6.heap.size; omega))⟩
    · obtain rfl : r = 0 := by omega
      have HP2 : Hid (L1 = L2 ++ [29]) := Lib.hid (by rw [HP.out, if_neg hr, List.append_nil])
      go_wp2_with (first
        | (go_at_call 13; refine (same_t (L1.map wb) ((L2 ++ [29]).map wb) (by rw [HP2.out]) _ _ _ _ _ _ _ _ _ (by first | rfl | assumption | exact Hn.out | (simp; done) | (simp; omega)) (by first | rfl | assumption | exact Hn.out | (simp; done) | (simp; omega)) (by rw [← wv_sv]; exact o1p) (by rw [← wv_sv]; simpa [wv_append, wv, wb] using Rd.of_own hown5) (by first | omega | (simp only [List.length_cons, List.length_nil]; omega)) (by first | omega | (simp only [List.length_cons, List.length_nil]; omega))).mono ?_; rintro e w7 ⟨rfl, n7, rfl⟩)
        | (go_at_call 10; refine (awake _).mono ?_; rintro e w8 ⟨rfl, hbel8⟩))
      go_ret
      exact ⟨rfl, t2.trans (Below.mono (below_of_drewN hbel8) (by show w.heap.size ≤ w5.heap.size; omega))⟩
set_option maxHeartbeats 400000 in
theorem law_NumwordsGroups (w : World) (a : Int) (wa : (Lit.int .u16 a).wf = true) (b : Int) (wb' : (Lit.int .u16 b).wf = true) (mil : Bool) :
    Calls Try.prog 6 #[.int .u16 a, .int .u16 b, .bool mil] w (Gives (.bool true) w) := by
  have ha := bounds_u16 wa
  have hb := bounds_u16 wb'
  obtain ⟨k, hk⟩ : ∃ k : Nat, 1 + a % 999 = k := ⟨(1 + a % 999).toNat, by omega⟩
  exact groups_walk a b ha.1 hb.1 ha.2 hb.2 k hk mil w
end Go.Proofs.Ytjieioobdknjjaa
