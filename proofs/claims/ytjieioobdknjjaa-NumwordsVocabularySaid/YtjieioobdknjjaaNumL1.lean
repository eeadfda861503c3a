/- NumwordsRoundTrip: the law's walk. -/
import Derived.Test.YtjieioobdknjjaaNumA
namespace Go.Proofs.Ytjieioobdknjjaa
open Go.RowKit
set_option maxHeartbeats 400000 in
theorem law_NumwordsRoundTrip (w : World) (n : Int) (_w0 : (Lit.int .i64 n).wf = true) : Calls Try.prog 3 #[.int .i64 n] w (Gives (.bool true) w) := by
  by_cases hin : -999999999 ≤ n ∧ n ≤ 999999999
  · obtain ⟨h1, h2⟩ := hin
    have hle := wordsL_le n
    have hpos : 0 < (wordsL n).length := by
      rcases wordsL_pos n with h | h
      · exact h
      · omega
    have HW : Hid (∀ w, Calls Try.prog 9 #[.int .i64 n] w (GivesOwn 9 1 okPair w (wordsL n).length (wv (wordsL n)))) := Lib.hid fun w => words_in n h1 h2 w
    have HN : Hid (∀ (w : World) (A : Option Addr) (c : Nat), Rd w w.heap.size 1 A (wordsL n).length (wv (wordsL n)) → Calls Try.prog 11 #[.slice A (wordsL n).length c] w (Gives (numPair (some n)) w)) := Lib.hid fun w A c h => by
      have := number ((wordsL n).map wb) A (wordsL n).length c w (by simp) (by rwa [← wv_sv]) (small_sizes _)
      rwa [number_words n h1 h2] at this
    generalize wordsL n = L at *
    simp only [numPair] at HN
    go_enter Try.func3, Try.ntmps3
    go_wp2_with (first
      | (go_at_call 9; refine (HW.out _).mono ?_; rintro e w1 ⟨A1, c1, rfl, hown1, hbel1⟩)
      | (go_at_call 11; refine (HN.out _ _ _ (Rd.of_own hown1)).mono ?_; rintro e w2 ⟨rfl, hbel2⟩)
      | (go_at_call 10; refine (awake _).mono ?_; rintro e w3 ⟨rfl, hbel3⟩))
    go_ret
    exact ⟨rfl, hbel1.trans ((hbel2.trans (hbel3.mono hbel2.size)).mono hbel1.size)⟩
  · go_enter Try.func3, Try.ntmps3
    go_wp2_with (first
      | (go_at_call 9; refine (words_range n (by omega) _).mono ?_; rintro e w1 ⟨rfl, hbel1⟩)
      | (go_at_call 10; refine (awake _).mono ?_; rintro e w3 ⟨rfl, hbel3⟩))
    all_goals
      go_ret
      exact ⟨rfl, hbel1.trans (hbel3.mono hbel1.size)⟩
theorem law_gives {w w' w1 w2 : World} {e : Ending} (h : e = .returned (.bool true)) (a : Below w.heap.size w w1) (b : Below w1.heap.size w1 w2) (c : Below w2.heap.size w2 w') : Gives (.bool true) w e w' :=
  ⟨h, a.trans ((b.trans (c.mono b.size)).mono a.size)⟩
set_option maxHeartbeats 400000 in
theorem law_NumwordsCanonical (w : World) (A : Option Addr) (n c : Nat) (l : List ByteArray) (hn : l.length = n) (hc : n ≤ c) (hm : c ≤ maxLen) (rd : Rd w w.heap.size 1 A n (sv l)) (hs : ∀ s ∈ l, s.size ≤ maxLen) :
    Calls Try.prog 4 #[.slice A n c] w (Gives (.bool true) w) := by
  have hnm : n ≤ maxLen := Nat.le_trans hc hm
  have HL := Lib.hid (long_ l A n c w.heap.size w hn rd hs hnm)
  have HN := Lib.hid (number l A n c w hn rd hs)
  have Hn := Lib.hid hn
  clear hn
  cases hlong : longB 100 l with
  | true =>
    rw [hlong] at HL
    clear hlong HN
    go_enter Try.func4, Try.ntmps4
    go_wp2_with (first
      | (go_at_call 12; refine HL.out.mono ?_; rintro e w1 ⟨rfl, rfl⟩)
      | (go_at_call 10; refine (awake _).mono ?_; rintro e w3 ⟨rfl, hbel3⟩))
    go_ret
    exact ⟨rfl, hbel3⟩
  | false =>
    rw [hlong] at HL
    clear hlong
    cases hnum : numberL l with
    | none =>
      rw [hnum] at HN
      clear hnum
      simp only [numPair] at HN
      go_enter Try.func4, Try.ntmps4
      go_wp2_with (first
        | (go_at_call 12; refine HL.out.mono ?_; rintro e w1 ⟨rfl, rfl⟩)
        | (go_at_call 11; refine HN.out.mono ?_; rintro e w2 ⟨rfl, hbel2⟩)
        | (go_at_call 10; refine (awake _).mono ?_; rintro e w3 ⟨rfl, hbel3⟩))
      go_ret
      exact ⟨rfl, hbel2.trans (hbel3.mono hbel2.size)⟩
    | some v =>
      rw [hnum] at HN
      obtain ⟨h1, h2, h3, h4, h5⟩ := number_some hnum
      have H3 := Lib.hid h3
      have hn15 : n ≤ 15 := by have := Hn.out; omega
      have hle : (wordsL v).length ≤ 15 := wordsL_le v
      clear hnum h3
      have HW : Hid (∀ w, Calls Try.prog 9 #[.int .i64 v] w (GivesOwn 9 1 okPair w (wordsL v).length (wv (wordsL v)))) := Lib.hid fun w => words_in v h1 h2 w
      simp only [numPair] at HN
      generalize wordsL v = L at *
      go_enter Try.func4, Try.ntmps4
      go_wp2_with (first
        | (go_at_call 12; refine HL.out.mono ?_; rintro e w1 ⟨rfl, rfl⟩)
        | (go_at_call 11; refine HN.out.mono ?_; rintro e w2 ⟨rfl, hbel2⟩)
        | (go_at_call 9; refine (HW.out _).mono ?_; rintro e w3 ⟨A3, c3, rfl, hown3, hbel3⟩)
        | (go_at_call 13; refine (same_t (l) (L.map wb) (H3.out.symm) _ _ _ _ _ _ _ _ _ (by first | rfl | assumption | exact Hn.out | (simp; done) | (simp; omega)) (by first | rfl | assumption | exact Hn.out | (simp; done) | (simp; omega)) ((rd.below hbel2 |>.more hbel2.size).below hbel3) (by rw [← wv_sv]; exact Rd.of_own hown3) (by first | omega | (simp only [List.length_cons, List.length_nil]; omega)) (by first | omega | (simp only [List.length_cons, List.length_nil]; omega))).mono ?_; rintro e w4 ⟨rfl, n4, rfl⟩)
        | (go_at_call 10; refine (awake _).mono ?_; rintro e w5 ⟨rfl, hbel5⟩))
      go_ret
      exact law_gives rfl hbel2 hbel3 (below_of_drewN hbel5)
end Go.Proofs.Ytjieioobdknjjaa
