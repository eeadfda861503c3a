/- SignnamesCanonical: the law's walk. -/
import Derived.Test.YtoiballfjbdoiaaDoorSig4
import Derived.Deep.RegionHeld3
namespace Go.Proofs.YtoiballfjbdoiaaDoor
open Go.RowKit
set_option maxHeartbeats 2000000 in
theorem law_SignnamesCanonical (w : World) (ht : Sp w) (A : Option Addr) (n c : Nat) (l : List ByteArray) (hn : l.length = n) (hc : n ≤ c) (hm : c ≤ maxLen) (rd : Rd w w.heap.size 1 A n (sv l)) (hs : ∀ s ∈ l, s.size ≤ maxLen) :
    Calls Tryd.prog 6 #[.slice A n c] w (Gives (.bool true) w) := by
  have hnm : n ≤ maxLen := Nat.le_trans hc hm
  have HL := Lib.hid (great_ l A n c w.heap.size w hn rd hs hnm)
  have HU := Lib.hid (unspell l A n c w hn hc hm rd hs ht)
  have HA : Hid (∀ w1, Below w.heap.size w w1 → Calls Tryd.prog 14 #[] w1 (Gives (.bool true) w1)) := Lib.hid fun w1 hb => awake w1 (ht.below hb (Nat.le_refl _))
  have HT := Lib.hid ht
  have Hn := Lib.hid hn
  clear hn ht
  cases hlong : longB 40 l with
  | true =>
    rw [hlong] at HL
    clear hlong HU
    go_enter Tryd.func6, Tryd.ntmps6
    go_wp2_with (first
      | (go_at_call 15; refine HL.out.mono ?_; rintro e w1 ⟨rfl, rfl⟩)
      | (go_at_call 14; refine (HA.out _ (Below.refl _ _)).mono ?_; rintro e w3 ⟨rfl, hbel3⟩))
    go_ret
    exact ⟨rfl, hbel3⟩
  | false =>
    rw [hlong] at HL
    have hl40 : l.length ≤ 40 := by
      unfold longB at hlong
      simp at hlong
      exact hlong.1
    clear hlong
    have hn40 : n ≤ 40 := by have := Hn.out; omega
    clear hl40
    cases hu : unspellL l with
    | none =>
      rw [hu] at HU
      clear hu
      simp only [unsV] at HU
      go_enter Tryd.func6, Tryd.ntmps6
      go_wp2_with (first
        | (go_at_call 15; refine HL.out.mono ?_; rintro e w1 ⟨rfl, rfl⟩)
        | (go_at_call 16; refine HU.out.mono ?_; rintro e w2 ⟨rfl, hbel2⟩)
        | (go_at_call 14; refine (HA.out _ hbel2).mono ?_; rintro e w3 ⟨rfl, hbel3⟩))
      go_ret
      exact ⟨rfl, hbel2.trans (hbel3.mono hbel2.size)⟩
    | some x =>
      obtain ⟨r, k⟩ := x
      rw [hu] at HU
      obtain ⟨h1, h2, h3, h4, h5⟩ := unspell_canon hu
      obtain ⟨r1, r2⟩ := char_range h1
      have H5 := Lib.hid h5
      have hkn : k ≤ n := by have := Hn.out; omega
      have hki1 : (1 : Int) ≤ (k : Int) := by omega
      have hkin : (k : Int) ≤ (n : Int) := by omega
      have hki0 : (0 : Int) ≤ (k : Int) := by omega
      have hkic : (k : Int) ≤ (c : Int) := by omega
      have hkc : k ≤ c := by omega
      have hcm : c ≤ 9223372036854775807 := by unfold maxLen at hm; omega
      have hlk : (l.take k).length = k := by rw [List.length_take]; omega
      have HS : Hid (∀ w1, Below w.heap.size w w1 → Calls Tryd.prog 12 #[.int .i32 r] w1 (GivesOwn 9 1 id w1 k (sv (l.take k)))) := Lib.hid fun w1 hb => by
        have := spell r (by omega) (by omega) w1 (HT.out.below hb (Nat.le_refl _))
        rwa [h5, hlk] at this
      have Hlk := Lib.hid hlk
      have hRK : Hid (Rd w w.heap.size 1 A k (sv (l.take k))) := Lib.hid (by
        have := rd.take hkn
        rwa [Nat.mul_one, ← sv_take] at this)
      clear hu h1 h3 h5 hlk
      simp only [unsV] at HU
      go_enter Tryd.func6, Tryd.ntmps6
      go_wp2_with (first
        | (go_at_call 15; refine HL.out.mono ?_; rintro e w1 ⟨rfl, rfl⟩)
        | (go_at_call 16; refine HU.out.mono ?_; rintro e w2 ⟨rfl, hbel2⟩; have hbel2d := below_drewN (n := 1) hbel2))
      go_region_held3 (fun _ => True) (go_keep) (first
        | (go_at_call 12; refine (HS.out w2.drew hbel2d).mono ?_; rintro e w3 ⟨A3, c3, rfl, hown3, hbel3⟩; have t3 := hbel2d.trans (hbel3.mono hbel2d.size))
        | (go_at_call 11; refine (same_t (l.take k) (l.take k) rfl _ _ _ _ _ _ _ _ _ Hlk.out Hlk.out (Rd.of_own hown3) (hRK.out.below t3) (by first | omega | (simp only [List.length_cons, List.length_nil]; omega)) (by first | omega | (simp only [List.length_cons, List.length_nil]; omega))).mono ?_; rintro e w4 ⟨rfl, n4, rfl⟩)
        | (go_at_call 14; refine (HA.out _ (below_drewN t3)).mono ?_; rintro e w5 ⟨rfl, hbel5⟩))
      all_goals
        go_wp2
        go_ret
        exact ⟨rfl, t3.trans ((below_of_drewN hbel5).mono t3.size)⟩
end Go.Proofs.YtoiballfjbdoiaaDoor
