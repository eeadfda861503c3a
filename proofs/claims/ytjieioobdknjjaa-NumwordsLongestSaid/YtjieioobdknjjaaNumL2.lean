/- NumwordsLongest, NumwordsMinus, NumwordsGroups: the laws' walks. -/
import Derived.Test.YtjieioobdknjjaaNumL1
import Derived.OpenShut
namespace Go.Proofs.Ytjieioobdknjjaa
open Go.RowKit
theorem wordsL_neg (k : Nat) (h : 0 < k) : wordsL (-(k : Int)) = 31 :: wordsL k := by
  have e : (-(k : Int)).natAbs = k := by omega
  have h1 : ¬ (-(k : Int) = 0) := by omega
  have h2 : -(k : Int) < 0 := by omega
  have h3 : ¬ ((k : Int) = 0) := by omega
  have h4 : ¬ ((k : Int) < 0) := by omega
  simp only [wordsL, if_neg h1, if_pos h2, if_neg h3, if_neg h4, e, Int.natAbs_natCast]
  rfl
theorem number_minus_zero : numberL [wb 31, wb 0] = none := by decide +kernel
theorem minus_walk (k : Nat) (hk : 0 < k) (hk2 : k ≤ 999999999) (n : Int) (h0 : 0 ≤ n) (h1 : n ≤ 4294967295) (e : 1 + n % 999999999 = k) (w : World) : Calls Try.prog 7 #[.int .u32 n] w (Gives (.bool true) w) := by
  have HA : Hid (∀ w, Calls Try.prog 9 #[.int .i64 (-(1 + n % 999999999))] w (GivesOwn 9 1 okPair w ((wordsL k).length + 1) (wv (31 :: wordsL k)))) := Lib.hid fun w => by
    have := words_in (-(k : Int)) (by omega) (by omega) w
    rw [wordsL_neg k hk] at this
    rwa [e]
  have HB : Hid (∀ w, Calls Try.prog 9 #[.int .i64 (1 + n % 999999999)] w (GivesOwn 9 1 okPair w (wordsL k).length (wv (wordsL k)))) := Lib.hid fun w => by
    rw [e]
    exact words_in (k : Int) (by omega) (by omega) w
  have HN : Hid (∀ (w : World) (A : Option Addr), Rd w w.heap.size 1 A 2 (sv [wb 31, wb 0]) → Calls Try.prog 11 #[.slice A 2 2] w (Gives (.tuple #[.int .i64 0, .int .i64 17]) w)) := Lib.hid fun w A h => by
    have := number [wb 31, wb 0] A 2 2 w rfl h (small_sizes [31, 0])
    rwa [number_minus_zero] at this
  have hle := wordsL_le k
  clear e
  generalize wordsL k = L at *
  go_enter Try.func7, Try.ntmps7
  go_wp2_with fail
  refine (HA.out _).mono ?_
  rintro e w1 ⟨A1, c1, rfl, hown1, hbel1⟩
  go_wp2_with fail
  refine (HB.out _).mono ?_
  rintro e w2 ⟨A2, c2, rfl, hown2, hbel2⟩
  have hown1' := own_below hown1 hbel2
  have z1 := hbel1.size
  have z2 := hbel2.size
  go_wp2_with fail
  refine (HN.out _ _ (by exact (rd_built (by rfl) rfl).more (by simp))).mono ?_
  rintro e w3 ⟨rfl, hbel3⟩
  have hown1'' := own_below (hown1'.alloc _) hbel3
  have hown2' := own_below (hown2.alloc _) hbel3
  have z3 := hbel3.size
  simp only [World.size_alloc] at z3
  go_wp2_with (first
    | (at_builtin; refine app_list rfl _ _ _ rfl elt_str (w3.heap.size) _ rfl (own_built (by rfl) rfl (Nat.le_refl _) (by omega)) _ _ rfl (Rd.of_own (hown2'.alloc _)) (by first | rfl | exact sv_one _ | exact wv_one _) (by omega) (by omega) (by first | (simp; done) | (simp; omega) | omega) ?_; intro A4 c4 w4 hown4 hbel4 hgr4 hat4; have z4 := hbel4.size; (try simp only [World.size_alloc] at z4); (try simp only [Nat.zero_add, List.nil_append] at hown4))
    | (go_at_call 13; have hown1q := own_under hown1'' (((Below.refl w3.heap.size w3).alloc (Nat.le_refl _) _).trans hbel4) (fun k hk => (hown1''.lt k hk).2); refine (same_t ((31 :: L).map wb) ((31 :: L).map wb) (rfl) _ _ _ _ _ _ _ _ _ (by first | rfl | assumption | exact Hn.out | (simp; done) | (simp; omega)) (by first | rfl | assumption | exact Hn.out | (simp; done) | (simp; omega)) (by rw [← wv_sv]; exact Rd.of_own hown1q) (by rw [← wv_sv]; exact Rd.of_own hown4) (by first | omega | (simp only [List.length_cons, List.length_nil]; omega)) (by first | omega | (simp only [List.length_cons, List.length_nil]; omega))).mono ?_; rintro e w5 ⟨rfl, n5, rfl⟩)
    | (go_at_call 10; refine (awake _).mono ?_; rintro e w6 ⟨rfl, hbel6⟩))
  have z4 : w3.heap.size ≤ w4.heap.size := by have := hbel4.size; rw [World.size_alloc] at this; omega
  have t1 : Below w.heap.size w w2 := (hbel1).trans (Below.mono hbel2 (by first | (simp; done) | (simp; omega) | omega))
  have t2 : Below w.heap.size w w3 := (t1.alloc (by omega) _).trans (Below.mono hbel3 (by first | (simp; done) | (simp; omega) | omega))
  have t3 : Below w.heap.size w w4 := (t2.alloc (by omega) _).trans (Below.mono hbel4 (by first | (simp; done) | (simp; omega) | omega))
  go_ret
  exact ⟨rfl, t3.trans (Below.mono (below_of_drewN hbel6) (by show w.heap.size ≤ w4.heap.size; omega))⟩
set_option maxHeartbeats 400000 in
theorem law_NumwordsMinus (w : World) (n : Int) (w0 : (Lit.int .u32 n).wf = true) : Calls Try.prog 7 #[.int .u32 n] w (Gives (.bool true) w) := by
  have hb := bounds_u32 w0
  obtain ⟨k, hk⟩ : ∃ k : Nat, 1 + n % 999999999 = k := ⟨(1 + n % 999999999).toNat, by omega⟩
  exact minus_walk k (by omega) (by omega) n hb.1 hb.2 hk w
end Go.Proofs.Ytjieioobdknjjaa
