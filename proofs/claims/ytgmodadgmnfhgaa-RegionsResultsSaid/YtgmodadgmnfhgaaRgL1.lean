/- RegionsNest: the law's walk. -/
import Derived.Test.YtgmodadgmnfhgaaRgL0
namespace Go.Proofs.Ytgmodadgmnfhgaa
open Go.RowKit
theorem grB_le {l : List Reg} (h : grB l = false) : l.length ≤ 60 := by
  unfold grB at h
  rw [Bool.or_eq_false_iff] at h
  have := of_decide_eq_false h.1
  omega
theorem same_t (L : List Reg) (A A' : Option Addr) (n c c' B : Nat) (w : World) (hn : n ≤ 100000) (rd : Rd w B 8 A n (encL L)) (rd' : Rd w B 8 A' n (encL L)) :
    Calls Try.prog 10 #[.slice A n c, .slice A' n c'] w (Gives (.bool true) w) := by
  have h := rsame L L A A' n n c c' B w hn rd rd'
  rw [decide_eq_true rfl] at h
  exact h.mono fun e w' q => q.gives
set_option maxHeartbeats 2000000 in
theorem law_RegionsNest (w : World) (A : Option Addr) (n c : Nat) (l : List Reg) (hn : l.length = n) (hc : n ≤ c) (hm : c ≤ maxLen) (rd : Rd w w.heap.size 8 A n (encL l)) (_hs : ∀ r ∈ l, r.label.size ≤ maxLen) :
    Calls Try.prog 3 #[.slice A n c] w (Gives (.bool true) w) := by
  have hnm : n ≤ maxLen := Nat.le_trans hc hm
  have HG := Lib.hid (rgreat l A n c w.heap.size w hnm rd)
  have HA : Hid (∀ w, Calls Try.prog 9 #[] w (Gives (.bool true) w)) := Lib.hid awake
  clear _hs
  cases hg : grB l with
  | true =>
    rw [grI_t hg] at HG
    clear hg
    go_enter Try.func3, Try.ntmps3
    go_wp2_with (first
      | (go_at_call 8; refine HG.out.mono ?_; rintro e w1 ⟨rfl, rfl⟩)
      | (go_at_call 9; refine (HA.out _).mono ?_; rintro e w2 ⟨rfl, hbel2⟩))
    go_ret
    exact ⟨rfl, hbel2⟩
  | false =>
    rw [grI_f hg] at HG
    have hn60 : n ≤ 60 := by have := grB_le hg; omega
    have hN := nest_ l A n c w (by omega) rd
    have hle : (nestL l).length ≤ 60 := by have := nestL_len l; omega
    have HN := Lib.hid hN
    have HRN : Hid (∀ w1, Below w.heap.size w w1 → Calls Try.prog 12 #[.slice A n c] w1 (GivesOwn 31 8 id w1 (nestL l).length (encL (nestL l)))) := Lib.hid fun w1 hb => rnest l A n c w1 (by omega) ((rd.below hb).more hb.size)
    have HC : Hid (∀ w1, Below w.heap.size w w1 → Calls Try.prog 13 #[.slice A n c] w1 (Gives (.int .i64 (checkL l)) w1)) := Lib.hid fun w1 hb => check l A n c w1 hc hm ((rd.below hb).more hb.size)
    have HRC : Hid (∀ w1, Below w.heap.size w w1 → Calls Try.prog 14 #[.slice A n c] w1 (Gives (.int .i64 (checkL l)) w1)) := Lib.hid fun w1 hb => rcheck l A n c w1 hc hm ((rd.below hb).more hb.size)
    clear hN hg hm hn
    generalize nestL l = N at *
    generalize checkL l = C at *
    go_enter Try.func3, Try.ntmps3
    go_wp2_with (first
      | (go_at_call 8; refine HG.out.mono ?_; rintro e w1 ⟨rfl, rfl⟩)
      | (go_at_call 11; refine HN.out.mono ?_; rintro e w1 ⟨A1, c1, rfl, hown1, hbel1⟩)
      | (go_at_call 12; refine (HRN.out _ hbel1).mono ?_; rintro e w2 ⟨A2, c2, rfl, hown2, hbel2⟩; have t2 := hbel1.trans (hbel2.mono hbel1.size))
      | (go_at_call 10; refine (same_t N A1 A2 _ c1 c2 _ _ (by omega) (Rd.of_own (own_below hown1 hbel2)) (Rd.of_own hown2)).mono ?_; rintro e w3 ⟨rfl, hbel3⟩; have t3 := t2.trans (hbel3.mono t2.size))
      | (go_at_call 13; refine (HC.out _ t3).mono ?_; rintro e w4 ⟨rfl, hbel4⟩; have t4 := t3.trans (hbel4.mono t3.size))
      | (go_at_call 14; refine (HRC.out _ t4).mono ?_; rintro e w5 ⟨rfl, hbel5⟩; have t5 := t4.trans (hbel5.mono t4.size))
      | (go_at_call 9; refine (HA.out _).mono ?_; rintro e w6 ⟨rfl, hbel6⟩; have t6 := t5.trans (hbel6.mono t5.size)))
    go_ret
    exact ⟨rfl, t6⟩
end Go.Proofs.Ytgmodadgmnfhgaa
