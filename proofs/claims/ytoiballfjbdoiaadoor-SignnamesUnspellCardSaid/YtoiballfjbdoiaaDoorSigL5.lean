/- SignnamesUnspell: the law's walk. -/
import Derived.Test.YtoiballfjbdoiaaDoorSig4
import Derived.Test.YtoiballfjbdoiaaDoorRsg4
namespace Go.Proofs.YtoiballfjbdoiaaDoor
open Go.RowKit
set_option maxHeartbeats 800000 in
theorem law_SignnamesUnspell (w : World) (hsp : Sp w) (ht : Tb w) (A : Option Addr) (n c : Nat) (l : List ByteArray) (hn : l.length = n) (hc : n ≤ c) (hm : c ≤ maxLen) (rd : Rd w w.heap.size 1 A n (sv l)) (hs : ∀ s ∈ l, s.size ≤ maxLen) :
    Calls Tryd.prog 4 #[.slice A n c] w (Gives (.bool true) w) := by
  have hnm : n ≤ maxLen := Nat.le_trans hc hm
  have HL := Lib.hid (great_ l A n c w.heap.size w hn rd hs hnm)
  have HU := Lib.hid (unspell l A n c w hn hc hm rd hs hsp)
  have HV : Hid (∀ w1, Below w.heap.size w w1 → Calls Tryd.prog 17 #[.slice A n c] w1 (Gives (unsV (unspellL l)) w1)) := Lib.hid fun w1 hb => runspell l A n c w1 hn hc hm ((rd.below hb).more hb.size) (ht.below hb)
  have HA : Hid (∀ w1, Below w.heap.size w w1 → Calls Tryd.prog 14 #[] w1 (Gives (.bool true) w1)) := Lib.hid fun w1 hb => awake w1 (hsp.below hb (Nat.le_refl _))
  clear hn hsp ht rd hs
  cases hlong : longB 40 l with
  | true =>
    rw [hlong] at HL
    clear hlong HU HV
    go_enter Tryd.func4, Tryd.ntmps4
    go_wp2_with (first
      | (go_at_call 15; refine HL.out.mono ?_; rintro e w1 ⟨rfl, rfl⟩)
      | (go_at_call 14; refine (HA.out _ (Below.refl _ _)).mono ?_; rintro e w3 ⟨rfl, hbel3⟩))
    go_ret
    exact ⟨rfl, hbel3⟩
  | false =>
    rw [hlong] at HL
    clear hlong
    cases hu : unspellL l with
    | none =>
      rw [hu] at HU HV
      clear hu
      simp only [unsV] at HU HV
      go_enter Tryd.func4, Tryd.ntmps4
      go_wp2_with (first
        | (go_at_call 15; refine HL.out.mono ?_; rintro e w1 ⟨rfl, rfl⟩)
        | (go_at_call 16; refine HU.out.mono ?_; rintro e w2 ⟨rfl, hbel2⟩)
        | (go_at_call 17; refine (HV.out _ hbel2).mono ?_; rintro e w3 ⟨rfl, hbel3⟩; have t3 := hbel2.trans (hbel3.mono hbel2.size))
        | (go_at_call 14; refine (HA.out _ t3).mono ?_; rintro e w4 ⟨rfl, hbel4⟩))
      go_ret
      exact ⟨rfl, t3.trans (hbel4.mono t3.size)⟩
    | some x =>
      obtain ⟨r, k⟩ := x
      rw [hu] at HU HV
      clear hu
      simp only [unsV] at HU HV
      go_enter Tryd.func4, Tryd.ntmps4
      go_wp2_with (first
        | (go_at_call 15; refine HL.out.mono ?_; rintro e w1 ⟨rfl, rfl⟩)
        | (go_at_call 16; refine HU.out.mono ?_; rintro e w2 ⟨rfl, hbel2⟩)
        | (go_at_call 17; refine (HV.out _ hbel2).mono ?_; rintro e w3 ⟨rfl, hbel3⟩; have t3 := hbel2.trans (hbel3.mono hbel2.size))
        | (go_at_call 14; refine (HA.out _ t3).mono ?_; rintro e w4 ⟨rfl, hbel4⟩))
      go_ret
      exact ⟨rfl, t3.trans (hbel4.mono t3.size)⟩
end Go.Proofs.YtoiballfjbdoiaaDoor
