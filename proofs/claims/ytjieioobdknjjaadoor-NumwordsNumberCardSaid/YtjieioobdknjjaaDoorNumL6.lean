/- NumwordsWords, NumwordsNumber: the laws' walks. -/
import Derived.Test.YtjieioobdknjjaaDoorRef4
import Derived.Test.YtjieioobdknjjaaDoorNumA
namespace Go.Proofs.YtjieioobdknjjaaDoor
open Go.RowKit
set_option maxHeartbeats 800000 in
theorem law_NumwordsWords (w : World) (ht : Tb w) (n : Int) (_w0 : (Lit.int .i64 n).wf = true) : Calls Tryd.prog 3 #[.int .i64 n] w (Gives (.bool true) w) := by
  have HT := Lib.hid ht
  clear ht
  by_cases hin : -999999999 ≤ n ∧ n ≤ 999999999
  · obtain ⟨h1, h2⟩ := hin
    have hle := wordsL_le n
    have HW : Hid (∀ w, Calls Tryd.prog 5 #[.int .i64 n] w (GivesOwn 9 1 okPair w (wordsL n).length (wv (wordsL n)))) := Lib.hid fun w => words_in n h1 h2 w
    have HR : Hid (∀ w, Tb w → Calls Tryd.prog 6 #[.int .i64 n] w (GivesOwn 9 1 okPair w (wordsL n).length (wv (wordsL n)))) := Lib.hid fun w ht => rwords_in n h1 h2 w ht
    generalize wordsL n = L at *
    go_enter Tryd.func3, Tryd.ntmps3
    go_wp2_with (first
      | (go_at_call 5; refine (HW.out _).mono ?_; rintro e w1 ⟨A1, c1, rfl, hown1, hbel1⟩)
      | (go_at_call 6; refine (HR.out _ (HT.out.below hbel1)).mono ?_; rintro e w2 ⟨A2, c2, rfl, hown2, hbel2⟩)
      | (go_at_call 7; refine (same_t (L.map wb) (L.map wb) (rfl) _ _ _ _ _ _ _ _ _ (by first | rfl | assumption | exact Hn.out | (simp; done) | (simp; omega)) (by first | rfl | assumption | exact Hn.out | (simp; done) | (simp; omega)) (by rw [← wv_sv]; exact Rd.of_own (own_below hown1 hbel2)) (by rw [← wv_sv]; exact Rd.of_own hown2) (by first | omega | (simp only [List.length_cons, List.length_nil]; omega)) (by first | omega | (simp only [List.length_cons, List.length_nil]; omega))).mono ?_; rintro e w3 ⟨rfl, n3, rfl⟩)
      | (go_at_call 8; refine (awake _).mono ?_; rintro e w4 ⟨rfl, hbel4⟩))
    go_ret
    have t1 := hbel1.trans (hbel2.mono hbel1.size)
    exact ⟨rfl, t1.trans ((below_of_drewN hbel4).mono t1.size)⟩
  · go_enter Tryd.func3, Tryd.ntmps3
    go_wp2_with (first
      | (go_at_call 5; refine (words_range n (by omega) _).mono ?_; rintro e w1 ⟨rfl, hbel1⟩)
      | (go_at_call 6; refine (rwords_range n (by omega) _).mono ?_; rintro e w2 ⟨rfl, hbel2⟩)
      | (go_at_call 7; refine (same_t ([]) ([]) (rfl) _ _ _ _ _ _ _ _ _ (by first | rfl | assumption | exact Hn.out | (simp; done) | (simp; omega)) (by first | rfl | assumption | exact Hn.out | (simp; done) | (simp; omega)) (Rd.none_ (B := 0)) (Rd.none_ (B := 0)) (by first | omega | (simp only [List.length_cons, List.length_nil]; omega)) (by first | omega | (simp only [List.length_cons, List.length_nil]; omega))).mono ?_; rintro e w3 ⟨rfl, n3, rfl⟩)
      | (go_at_call 8; refine (awake _).mono ?_; rintro e w4 ⟨rfl, hbel4⟩))
    go_ret
    have t1 := hbel1.trans (hbel2.mono hbel1.size)
    exact ⟨rfl, t1.trans ((below_of_drewN hbel4).mono t1.size)⟩
set_option maxHeartbeats 1000000 in
theorem law_NumwordsNumber (w : World) (ht : Tb w) (A : Option Addr) (n c : Nat) (l : List ByteArray) (hn : l.length = n) (hc : n ≤ c) (hm : c ≤ maxLen) (rd : Rd w w.heap.size 1 A n (sv l)) (hs : ∀ s ∈ l, s.size ≤ maxLen) :
    Calls Tryd.prog 4 #[.slice A n c] w (Gives (.bool true) w) := by
  have hnm : n ≤ maxLen := Nat.le_trans hc hm
  have HL := Lib.hid (long_ l A n c w.heap.size w hn rd hs hnm)
  have HN := Lib.hid (number l A n c w hn rd hs)
  have HRN : Hid (∀ w1, Below w.heap.size w w1 → Calls Tryd.prog 11 #[.slice A n c] w1 (Gives (numPair (numberL l)) w1)) := Lib.hid fun w1 hb => rnumber l A n c w1 hn ((rd.below hb).more hb.size) (ht.below hb)
  have HP : Hid (∀ w1, Below w.heap.size w w1 → Calls Tryd.prog 12 #[.slice A n c] w1 (Gives (preTriple (prefixL l)) w1)) := Lib.hid fun w1 hb => prefix_ l A n c w1 hn hc hm ((rd.below hb).more hb.size) hs
  have HRP : Hid (∀ w1, Below w.heap.size w w1 → Calls Tryd.prog 13 #[.slice A n c] w1 (Gives (preTriple (prefixL l)) w1)) := Lib.hid fun w1 hb => rprefix l A n c w1 hn hc hm ((rd.below hb).more hb.size) (ht.below hb)
  clear hn ht
  cases hlong : longB 100 l with
  | true =>
    rw [hlong] at HL
    clear hlong HN
    go_enter Tryd.func4, Tryd.ntmps4
    go_wp2_with (first
      | (go_at_call 9; refine HL.out.mono ?_; rintro e w1 ⟨rfl, rfl⟩)
      | (go_at_call 8; refine (awake _).mono ?_; rintro e w3 ⟨rfl, hbel3⟩))
    go_ret
    exact ⟨rfl, hbel3⟩
  | false =>
    rw [hlong] at HL
    clear hlong
    have hNP : ∃ v e : Int, numPair (numberL l) = .tuple #[.int .i64 v, .int .i64 e] := by
      cases numberL l with
      | none => exact ⟨_, _, rfl⟩
      | some v => exact ⟨_, _, rfl⟩
    have hPP : ∃ v k e : Int, preTriple (prefixL l) = .tuple #[.int .i64 v, .int .i64 k, .int .i64 e] := by
      cases prefixL l with
      | none => exact ⟨_, _, _, rfl⟩
      | some x => exact ⟨_, _, _, rfl⟩
    obtain ⟨v, e, h1⟩ := hNP
    obtain ⟨v', k', e', h2⟩ := hPP
    rw [h1] at HN HRN
    rw [h2] at HP HRP
    clear h1 h2
    go_enter Tryd.func4, Tryd.ntmps4
    go_wp2_with (first
      | (go_at_call 9; refine HL.out.mono ?_; rintro e w1 ⟨rfl, rfl⟩)
      | (go_at_call 10; refine HN.out.mono ?_; rintro e w2 ⟨rfl, hbel2⟩)
      | (go_at_call 11; refine (HRN.out _ hbel2).mono ?_; rintro e w3 ⟨rfl, hbel3⟩; have t3 := hbel2.trans (hbel3.mono hbel2.size))
      | (go_at_call 12; refine (HP.out _ t3).mono ?_; rintro e w4 ⟨rfl, hbel4⟩; have t4 := t3.trans (hbel4.mono t3.size))
      | (go_at_call 13; refine (HRP.out _ t4).mono ?_; rintro e w5 ⟨rfl, hbel5⟩; have t5 := t4.trans (hbel5.mono t4.size))
      | (go_at_call 8; refine (awake _).mono ?_; rintro e w6 ⟨rfl, hbel6⟩))
    go_ret
    exact ⟨rfl, t5.trans (hbel6.mono t5.size)⟩
end Go.Proofs.YtjieioobdknjjaaDoor
