/- narratorref39: Spell. -/
import Derived.Test.YtoiballfjbdoiaaDoorRsg2
namespace Go.Proofs.YtoiballfjbdoiaaDoor
open Go.RowKit
set_option maxHeartbeats 800000 in
theorem rspell (r : Int) (w : World) (ht : Tb w) : Calls Tryd.prog 13 #[.int .i32 r] w (GivesOwn 9 1 id w (spellL r).length (sv (spellL r))) := by
  have HCH := Lib.hid (rcharacter r)
  have HSG := Lib.hid (rsign r)
  have HT := Lib.hid ht
  clear ht
  unfold spellL
  unfold isS at HSG
  cases hi : sIdxI r with
  | some i =>
    rw [hi] at HSG
    rw [sign_isChar hi] at HCH
    have HNm : Hid (∀ w, Calls Tryd.prog 20 #[.int .i32 r] w (Gives (.string (nb i)) w)) := Lib.hid fun w => by
      have := rname r w
      unfold rnameV at this
      rwa [hi] at this
    simp only [Option.isSome] at HSG ⊢
    clear hi
    go_enter Tryd.func13, Tryd.ntmps13
    go_wp2_with (first
      | (go_at_call 27; refine (HCH.out _).mono ?_; rintro e w1 ⟨rfl, hbel1⟩)
      | (go_at_call 28; refine (HSG.out _).mono ?_; rintro e w2 ⟨rfl, hbel2⟩; have t2 := hbel1.trans (hbel2.mono hbel1.size))
      | (go_at_call 20; refine (HNm.out _).mono ?_; rintro e w3 ⟨rfl, hbel3⟩; have t3 := t2.trans (hbel3.mono t2.size)))
    go_ret
    exact ⟨_, _, rfl, own_built (xs := [_]) rfl rfl t3.size (by first | omega | (simp only [List.length_cons, List.length_nil]; omega)), t3.alloc t3.size _⟩
  | none =>
    rw [hi] at HSG
    simp only [Option.isSome] at HSG ⊢
    clear hi
    cases hc : isCharB r with
    | true =>
      rw [hc] at HCH
      obtain ⟨h1, h2⟩ := char_range hc
      have HW : Hid (∀ w, Tb w → Calls Tryd.prog 29 #[.int .i64 r] w (GivesOwn 9 1 okPair w (wordsL r).length (wv (wordsL r)))) := Lib.hid fun w ht => rwords_in r (by omega) (by omega) w ht
      have hle := wordsL_le r
      clear hc
      rw [if_pos rfl]
      generalize wordsL r = L at *
      go_enter Tryd.func13, Tryd.ntmps13
      go_wp2_with (first
        | (go_at_call 27; refine (HCH.out _).mono ?_; rintro e w1 ⟨rfl, hbel1⟩)
        | (go_at_call 28; refine (HSG.out _).mono ?_; rintro e w2 ⟨rfl, hbel2⟩; have t2 := hbel1.trans (hbel2.mono hbel1.size))
        | (go_at_call 29; refine (HW.out _ (HT.out.below t2)).mono ?_; rintro e w3 ⟨A3, c3, rfl, hown3, hbel3⟩; have z3 := hbel3.size; have t3 := t2.trans (hbel3.mono t2.size))
        | (at_builtin; refine app_list rfl _ _ _ rfl elt_str (w3.heap.size) _ rfl (own_built (xs := [.string cB]) rfl rfl (Nat.le_refl _) (by omega)) _ _ rfl ((Rd.of_own (hown3.alloc _))) (by first | rfl | exact sv_one _ | exact wv_one _) (by omega) (by omega) (by first | (simp; done) | (simp; omega) | omega) ?_; intro A4 c4 w4 hown4 hbel4 hgr4 hat4; have z4 := hbel4.size; (try simp only [World.size_alloc] at z4); (try simp only [Nat.zero_add, List.nil_append] at hown4)))
      go_ret
      have e : (L.map wb).length + 1 = 1 + L.length := by simp; omega
      have zz := t3.size
      rw [e]
      refine ⟨A4, c4, by rfl, ?_, ?_⟩
      · refine own_less (base := w3.heap.size) ?_ zz
        simpa [sv, wv, cB, Function.comp_def] using hown4
      · exact (t3.alloc zz _).trans (hbel4.mono zz)
    | false =>
      rw [hc] at HCH
      clear hc
      simp only [Bool.false_eq_true, if_false]
      go_enter Tryd.func13, Tryd.ntmps13
      go_wp2_with (go_at_call 27; refine (HCH.out _).mono ?_; rintro e w1 ⟨rfl, hbel1⟩)
      go_ret
      exact ⟨none, 0, rfl, own_nil _ _ _ _, hbel1⟩
end Go.Proofs.YtoiballfjbdoiaaDoor
