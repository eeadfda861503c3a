/- narratorref39: Unspell. -/
import Derived.Test.YtoiballfjbdoiaaDoorRsg2
import Derived.Test.YtoiballfjbdoiaaDoorRef4
namespace Go.Proofs.YtoiballfjbdoiaaDoor
open Go.RowKit
set_option maxHeartbeats 400000 in
theorem runspell_nil (A : Option Addr) (c : Nat) (w : World) : Calls Tryd.prog 17 #[.slice A 0 c] w (Gives (unsV none) w) := by
  go_enter Tryd.func17, Tryd.ntmps17
  go_wp2
  go_ret3
  exact ⟨rfl, Below.refl _ _⟩
set_option maxHeartbeats 1000000 in
theorem runspell_cons (s : ByteArray) (t : List ByteArray) (b o n c : Nat) (w : World) (hn : t.length + 1 = n) (hc : n ≤ c) (hm : c ≤ maxLen) (rd : Rd w w.heap.size 1 (some ⟨b, o, none⟩) n (sv (s :: t))) (ht : Tb w) :
    Calls Tryd.prog 17 #[.slice (some ⟨b, o, none⟩) n c] w (Gives (unsV (unspellL (s :: t))) w) := by
  have e0 : ((n : Int) == 0) = false := beq_eq_false_iff_ne.2 (by omega)
  have hn1 : 1 ≤ n := by omega
  have hcell : w.cell? ⟨b, o, none⟩ = some (.string s) := by
    obtain ⟨b', o', e, _, h⟩ := rd.at_ (show 0 < n by omega)
    cases e
    simpa [sv] using h
  have HT := Lib.hid ht
  have HC : Hid (∀ w, Calls Tryd.prog 21 #[.string s] w (Gives (.int .i32 (rsignV s)) w)) := Lib.hid fun w => rSign s w
  unfold rsignV at HC
  cases hi : nIdx s with
  | some i =>
    obtain ⟨hi32, rfl⟩ := nIdx_some hi
    have HR : Hid (unspellL (nb i :: t) = some ((sChar i : Int), 1)) := Lib.hid (by rw [unspellL, hi])
    rw [hi] at HC
    simp only at HC
    have hpos : (sChar i : Int) > 0 := by have := sChar_bd hi32; omega
    rw [HR.out]
    clear hi ht rd hn hm
    generalize (sChar i : Int) = v at *
    generalize nb i = s at *
    go_enter Tryd.func17, Tryd.ntmps17
    go_wp2_with (go_at_call 21; refine (HC.out _).mono ?_; rintro e w1 ⟨rfl, hbel1⟩)
    go_ret3
    exact ⟨rfl, hbel1⟩
  | none =>
    rw [hi] at HC
    simp only at HC
    have tc := lit_beq s cB [99, 104, 97, 114, 97, 99, 116, 101, 114] rfl
    have hcm : c ≤ 9223372036854775807 := by unfold maxLen at hm; omega
    have HTl := Lib.hid (rd_tail hn hc rd)
    have HP : Hid (∀ w1 A', Below w.heap.size w w1 → Rd w w.heap.size 1 A' (n - 1) (sv t) → Calls Tryd.prog 32 #[.slice A' (n - 1) (c - 1)] w1 (Gives (preTriple (prefixL t)) w1)) := Lib.hid fun w1 A' hb h =>
      rprefix t A' (n - 1) (c - 1) w1 (by omega) (by omega) (Nat.le_trans (Nat.sub_le _ _) hm) ((h.below hb).more hb.size) (HT.out.below hb)
    have Htn := Lib.hid hn
    have HRR : Hid (unspellL (s :: t) = if s = cB then unsTail (prefixL t) else none) := Lib.hid (by rw [unspellL, hi])
    clear hi ht rd hn hm
    by_cases c1 : c = 1
    · obtain rfl : n = 1 := by omega
      obtain rfl : t = [] := List.length_eq_zero_iff.1 (by have := Htn.out; omega)
      have HT1 : Hid (Rd w w.heap.size 1 (some ⟨b, o, none⟩) 0 (sv [])) := Lib.hid (by have := HTl.out; rwa [if_pos c1] at this)
      subst c1
      have hp0 : prefixL [] = none := rfl
      have HR : Hid (unspellL [s] = none) := Lib.hid (by rw [HRR.out, hp0]; split <;> rfl)
      rw [hp0] at HP
      rw [HR.out]
      clear HTl HRR HR hp0
      simp only [Nat.sub_self, preTriple] at HP
      by_cases hcb : s = cB
      · have dc : (s.toList == [99, 104, 97, 114, 97, 99, 116, 101, 114]) = true := by rw [tc]; simp [hcb]
        clear tc hcb
        go_enter Tryd.func17, Tryd.ntmps17
        go_wp2_with (first
          | (go_at_call 21; refine (HC.out _).mono ?_; rintro e w1 ⟨rfl, hbel1⟩; have hcell1 := cell_up hcell hbel1)
          | (go_at_call 32; refine (HP.out _ _ hbel1 HT1.out).mono ?_; rintro e w2 ⟨rfl, hbel2⟩; have t2 := hbel1.trans (hbel2.mono hbel1.size); have hcell2 := cell_up hcell t2))
        go_ret3
        exact ⟨rfl, t2⟩
      · have dc : (s.toList == [99, 104, 97, 114, 97, 99, 116, 101, 114]) = false := by rw [tc]; simp [hcb]
        clear tc hcb
        go_enter Tryd.func17, Tryd.ntmps17
        go_wp2_with (first
          | (go_at_call 21; refine (HC.out _).mono ?_; rintro e w1 ⟨rfl, hbel1⟩; have hcell1 := cell_up hcell hbel1)
          | (go_at_call 32; refine (HP.out _ _ hbel1 HT1.out).mono ?_; rintro e w2 ⟨rfl, hbel2⟩; have t2 := hbel1.trans (hbel2.mono hbel1.size); have hcell2 := cell_up hcell t2))
        go_ret3
        exact ⟨rfl, t2⟩
    · have HT1 : Hid (Rd w w.heap.size 1 (some ⟨b, o + 1, none⟩) (n - 1) (sv t)) := Lib.hid (by have := HTl.out; rwa [if_neg c1] at this)
      clear HTl
      by_cases hcb : s = cB
      · have dc : (s.toList == [99, 104, 97, 114, 97, 99, 116, 101, 114]) = true := by rw [tc]; simp [hcb]
        have HR : Hid (unspellL (s :: t) = unsTail (prefixL t)) := Lib.hid (by rw [HRR.out]; exact if_pos hcb)
        clear tc hcb HRR
        cases hp : prefixL t with
        | none =>
          rw [hp] at HP
          have HR2 : Hid (unspellL (s :: t) = none) := Lib.hid (by rw [HR.out, hp]; rfl)
          rw [HR2.out]
          clear hp
          simp only [preTriple] at HP
          go_enter Tryd.func17, Tryd.ntmps17
          go_wp2_with (first
            | (go_at_call 21; refine (HC.out _).mono ?_; rintro e w1 ⟨rfl, hbel1⟩; have hcell1 := cell_up hcell hbel1)
            | (go_at_call 32; refine (HP.out _ _ hbel1 HT1.out).mono ?_; rintro e w2 ⟨rfl, hbel2⟩; have t2 := hbel1.trans (hbel2.mono hbel1.size); have hcell2 := cell_up hcell t2))
          go_ret3
          exact ⟨rfl, t2⟩
        | some x =>
          obtain ⟨v, k⟩ := x
          rw [hp] at HP
          obtain ⟨k1, k2, k3, k4, k5⟩ := prefixL_some hp
          obtain ⟨v1, v2, _⟩ := number_some k4
          have hk16 : k ≤ 15 := k3
          simp only [preTriple] at HP
          have Hpv : Hid (prefixL t = some (v, k)) := Lib.hid hp
          clear hp k4 k5 k2 k3
          by_cases hv0 : v < 0
          · have HR2 : Hid (unspellL (s :: t) = none) := Lib.hid (by rw [HR.out, Hpv.out]; exact unsTail_f (by have : isCharB v = false := (isCharB_false v).2 (by unfold isChar; omega); simp [this]))
            rw [HR2.out]
            go_enter Tryd.func17, Tryd.ntmps17
            go_wp2_with (first
              | (go_at_call 21; refine (HC.out _).mono ?_; rintro e w1 ⟨rfl, hbel1⟩; have hcell1 := cell_up hcell hbel1)
              | (go_at_call 32; refine (HP.out _ _ hbel1 HT1.out).mono ?_; rintro e w2 ⟨rfl, hbel2⟩; have t2 := hbel1.trans (hbel2.mono hbel1.size); have hcell2 := cell_up hcell t2))
            go_ret3
            exact ⟨rfl, t2⟩
          by_cases hv1 : v > 1114111
          · have HR2 : Hid (unspellL (s :: t) = none) := Lib.hid (by rw [HR.out, Hpv.out]; exact unsTail_f (by have : isCharB v = false := (isCharB_false v).2 (by unfold isChar; omega); simp [this]))
            rw [HR2.out]
            go_enter Tryd.func17, Tryd.ntmps17
            go_wp2_with (first
              | (go_at_call 21; refine (HC.out _).mono ?_; rintro e w1 ⟨rfl, hbel1⟩; have hcell1 := cell_up hcell hbel1)
              | (go_at_call 32; refine (HP.out _ _ hbel1 HT1.out).mono ?_; rintro e w2 ⟨rfl, hbel2⟩; have t2 := hbel1.trans (hbel2.mono hbel1.size); have hcell2 := cell_up hcell t2))
            go_ret3
            exact ⟨rfl, t2⟩
          have Hw : IntKind.i32.wrap v = v := IntWalk.i32_in _ (by omega)
          have HCH : Hid (∀ w, Calls Tryd.prog 27 #[.int .i32 v] w (Gives (.bool (isCharB v)) w)) := Lib.hid fun w => rcharacter v w
          have HSG : Hid (∀ w, Calls Tryd.prog 28 #[.int .i32 v] w (Gives (.bool (isS v)) w)) := Lib.hid fun w => rsign v w
          cases hch : isCharB v with
          | false =>
            have HR2 : Hid (unspellL (s :: t) = none) := Lib.hid (by rw [HR.out, Hpv.out]; exact unsTail_f (by simp [hch]))
            rw [hch] at HCH
            rw [HR2.out]
            clear hch
            go_enter Tryd.func17, Tryd.ntmps17
            go_wp2_with (first
              | (go_at_call 21; refine (HC.out _).mono ?_; rintro e w1 ⟨rfl, hbel1⟩; have hcell1 := cell_up hcell hbel1)
              | (go_at_call 32; refine (HP.out _ _ hbel1 HT1.out).mono ?_; rintro e w2 ⟨rfl, hbel2⟩; have t2 := hbel1.trans (hbel2.mono hbel1.size); have hcell2 := cell_up hcell t2)
              | (go_at_call 27; refine (HCH.out _).mono ?_; rintro e w3 ⟨rfl, hbel3⟩; have t3 := t2.trans (hbel3.mono t2.size)))
            go_ret3
            exact ⟨rfl, t3⟩
          | true =>
            rw [hch] at HCH
            unfold isS at HSG
            cases hi : sIdxI v with
            | some i =>
              have HR2 : Hid (unspellL (s :: t) = none) := Lib.hid (by rw [HR.out, Hpv.out]; exact unsTail_f (by simp [hi]))
              rw [hi] at HSG
              simp only [Option.isSome] at HSG
              rw [HR2.out]
              clear hch hi
              go_enter Tryd.func17, Tryd.ntmps17
              go_wp2_with (first
                | (go_at_call 21; refine (HC.out _).mono ?_; rintro e w1 ⟨rfl, hbel1⟩; have hcell1 := cell_up hcell hbel1)
                | (go_at_call 32; refine (HP.out _ _ hbel1 HT1.out).mono ?_; rintro e w2 ⟨rfl, hbel2⟩; have t2 := hbel1.trans (hbel2.mono hbel1.size); have hcell2 := cell_up hcell t2)
                | (go_at_call 27; refine (HCH.out _).mono ?_; rintro e w3 ⟨rfl, hbel3⟩; have t3 := t2.trans (hbel3.mono t2.size))
                | (go_at_call 28; refine (HSG.out _).mono ?_; rintro e w4 ⟨rfl, hbel4⟩; have t4 := t3.trans (hbel4.mono t3.size)))
              go_ret3
              exact ⟨rfl, t4⟩
            | none =>
              have HR2 : Hid (unspellL (s :: t) = some (v, 1 + k)) := Lib.hid (by rw [HR.out, Hpv.out]; exact unsTail_t ⟨hch, hi⟩)
              rw [hi] at HSG
              simp only [Option.isSome] at HSG
              rw [HR2.out]
              clear hch hi
              go_enter Tryd.func17, Tryd.ntmps17
              go_wp2_with (first
                | (go_at_call 21; refine (HC.out _).mono ?_; rintro e w1 ⟨rfl, hbel1⟩; have hcell1 := cell_up hcell hbel1)
                | (go_at_call 32; refine (HP.out _ _ hbel1 HT1.out).mono ?_; rintro e w2 ⟨rfl, hbel2⟩; have t2 := hbel1.trans (hbel2.mono hbel1.size); have hcell2 := cell_up hcell t2)
                | (go_at_call 27; refine (HCH.out _).mono ?_; rintro e w3 ⟨rfl, hbel3⟩; have t3 := t2.trans (hbel3.mono t2.size))
                | (go_at_call 28; refine (HSG.out _).mono ?_; rintro e w4 ⟨rfl, hbel4⟩; have t4 := t3.trans (hbel4.mono t3.size)))
              go_ret3
              exact ⟨by simp [unsV], t4⟩
      · have dc : (s.toList == [99, 104, 97, 114, 97, 99, 116, 101, 114]) = false := by rw [tc]; simp [hcb]
        have HR : Hid (unspellL (s :: t) = none) := Lib.hid (by rw [HRR.out]; exact if_neg hcb)
        rw [HR.out]
        clear tc hcb HRR HR
        cases hp : prefixL t with
        | none =>
          rw [hp] at HP
          clear hp
          simp only [preTriple] at HP
          go_enter Tryd.func17, Tryd.ntmps17
          go_wp2_with (first
            | (go_at_call 21; refine (HC.out _).mono ?_; rintro e w1 ⟨rfl, hbel1⟩; have hcell1 := cell_up hcell hbel1)
            | (go_at_call 32; refine (HP.out _ _ hbel1 HT1.out).mono ?_; rintro e w2 ⟨rfl, hbel2⟩; have t2 := hbel1.trans (hbel2.mono hbel1.size); have hcell2 := cell_up hcell t2))
          go_ret3
          exact ⟨rfl, t2⟩
        | some x =>
          obtain ⟨v, k⟩ := x
          rw [hp] at HP
          clear hp
          simp only [preTriple] at HP
          go_enter Tryd.func17, Tryd.ntmps17
          go_wp2_with (first
            | (go_at_call 21; refine (HC.out _).mono ?_; rintro e w1 ⟨rfl, hbel1⟩; have hcell1 := cell_up hcell hbel1)
            | (go_at_call 32; refine (HP.out _ _ hbel1 HT1.out).mono ?_; rintro e w2 ⟨rfl, hbel2⟩; have t2 := hbel1.trans (hbel2.mono hbel1.size); have hcell2 := cell_up hcell t2))
          go_ret3
          exact ⟨rfl, t2⟩
theorem runspell (l : List ByteArray) (A : Option Addr) (n c : Nat) (w : World) (hn : l.length = n) (hc : n ≤ c) (hm : c ≤ maxLen) (rd : Rd w w.heap.size 1 A n (sv l)) (ht : Tb w) :
    Calls Tryd.prog 17 #[.slice A n c] w (Gives (unsV (unspellL l)) w) := by
  cases l with
  | nil =>
    obtain rfl : n = 0 := by simp at hn; omega
    exact runspell_nil A c w
  | cons s t =>
    have hn' : t.length + 1 = n := by simpa using hn
    obtain ⟨b, o, rfl, _, _⟩ := rd.at_ (show 0 < n by omega)
    exact runspell_cons s t b o n c w hn' hc hm rd ht
end Go.Proofs.YtoiballfjbdoiaaDoor
