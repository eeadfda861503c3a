/- Joined texts: Rsg4, Rv1, Rv2, SxT. -/
import Derived.Test.YtndgcjdiemfngaaGreatDoorQAH
import Derived.Test.YtndgcjdiemfngaaGreatDoorQAN
import Derived.Test.YtndgcjdiemfngaaGreatDoorQBG
import Derived.Test.YtndgcjdiemfngaaGreatDoorQBO
set_option linter.unusedVariables false
set_option linter.unusedSimpArgs false
set_option linter.unnecessarySimpa false
/- narratorref39: Unspell. -/
namespace Go.Proofs.YtndgcjdiemfngaaGreatDoor
open Go.RowKit
set_option maxHeartbeats 400000 in
theorem runspell_nil (A : Option Addr) (c : Nat) (w : World) : Calls Tryz.prog 125 #[.slice A 0 c] w (Gives (unsV none) w) := by
  go_enter Tryz.func125, Tryz.ntmps125
  go_wp2
  go_ret3
  exact ⟨rfl, Below.refl _ _⟩
set_option maxHeartbeats 1000000 in
theorem runspell_cons (s : ByteArray) (t : List ByteArray) (b o n c : Nat) (w : World) (hn : t.length + 1 = n) (hc : n ≤ c) (hm : c ≤ maxLen) (rd : Rd w w.heap.size 1 (some ⟨b, o, none⟩) n (sv (s :: t))) (ht : Tb w) :
    Calls Tryz.prog 125 #[.slice (some ⟨b, o, none⟩) n c] w (Gives (unsV (unspellL (s :: t))) w) := by
  have e0 : ((n : Int) == 0) = false := beq_eq_false_iff_ne.2 (by omega)
  have hn1 : 1 ≤ n := by omega
  have hcell : w.cell? ⟨b, o, none⟩ = some (.string s) := by
    obtain ⟨b', o', e, _, h⟩ := rd.at_ (show 0 < n by omega)
    cases e
    simpa [sv] using h
  have HT := Lib.hid ht
  have HC : Hid (∀ w, Calls Tryz.prog 162 #[.string s] w (Gives (.int .i32 (rsignV s)) w)) := Lib.hid fun w => rSign s w
  unfold rsignV at HC
  cases hi : nIdx s with
  | some i =>
    obtain ⟨hi32, rfl⟩ := nIdx_some hi
    have HR : Hid (unspellL (nb i :: t) = some ((sChar i : Int), 1)) := Lib.hid (by rw [unspellL, hi])
    rw [hi] at HC
    simp only at HC
    have hpos : (sChar i : Int) > 0 := by have := sChar_bd hi32; omega
    rw [HR.out]
    clear hi ht rd hn hm
    generalize (sChar i : Int) = v at *
    generalize nb i = s at *
    go_enter Tryz.func125, Tryz.ntmps125
    go_wp2_with (go_at_call 162; refine (HC.out _).mono ?_; rintro e w1 ⟨rfl, hbel1⟩)
    go_ret3
    exact ⟨rfl, hbel1⟩
  | none =>
    rw [hi] at HC
    simp only at HC
    have tc := lit_beq s cB [99, 104, 97, 114, 97, 99, 116, 101, 114] rfl
    have hcm : c ≤ 9223372036854775807 := by unfold maxLen at hm; omega
    have HTl := Lib.hid (rd_tail hn hc rd)
    have HP : Hid (∀ w1 A', Below w.heap.size w w1 → Rd w w.heap.size 1 A' (n - 1) (sv t) → Calls Tryz.prog 128 #[.slice A' (n - 1) (c - 1)] w1 (Gives (preTriple (prefixL t)) w1)) := Lib.hid fun w1 A' hb h =>
      rprefix t A' (n - 1) (c - 1) w1 (by omega) (by omega) (Nat.le_trans (Nat.sub_le _ _) hm) ((h.below hb).more hb.size) (HT.out.below hb)
    have Htn := Lib.hid hn
    have HRR : Hid (unspellL (s :: t) = if s = cB then unsTail (prefixL t) else none) := Lib.hid (by rw [unspellL, hi])
    clear hi ht rd hn hm
    by_cases c1 : c = 1
    · obtain rfl : n = 1 := by omega
      obtain rfl : t = [] := List.length_eq_zero_iff.1 (by have := Htn.out; omega)
      have HT1 : Hid (Rd w w.heap.size 1 (some ⟨b, o, none⟩) 0 (sv [])) := Lib.hid (by have := HTl.out; rwa [if_pos c1] at this)
      subst c1
      have hp0 : prefixL [] = none := rfl
      have HR : Hid (unspellL [s] = none) := Lib.hid (by rw [HRR.out, hp0]; split <;> rfl)
      rw [hp0] at HP
      rw [HR.out]
      clear HTl HRR HR hp0
      simp only [Nat.sub_self, preTriple] at HP
      by_cases hcb : s = cB
      · have dc : (s.toList == [99, 104, 97, 114, 97, 99, 116, 101, 114]) = true := by rw [tc]; simp [hcb]
        clear tc hcb
        go_enter Tryz.func125, Tryz.ntmps125
        go_wp2_with (first
          | (go_at_call 162; refine (HC.out _).mono ?_; rintro e w1 ⟨rfl, hbel1⟩; have hcell1 := cell_up hcell hbel1)
          | (go_at_call 128; refine (HP.out _ _ hbel1 HT1.out).mono ?_; rintro e w2 ⟨rfl, hbel2⟩; have t2 := hbel1.trans (hbel2.mono hbel1.size); have hcell2 := cell_up hcell t2))
        go_ret3
        exact ⟨rfl, t2⟩
      · have dc : (s.toList == [99, 104, 97, 114, 97, 99, 116, 101, 114]) = false := by rw [tc]; simp [hcb]
        clear tc hcb
        go_enter Tryz.func125, Tryz.ntmps125
        go_wp2_with (first
          | (go_at_call 162; refine (HC.out _).mono ?_; rintro e w1 ⟨rfl, hbel1⟩; have hcell1 := cell_up hcell hbel1)
          | (go_at_call 128; refine (HP.out _ _ hbel1 HT1.out).mono ?_; rintro e w2 ⟨rfl, hbel2⟩; have t2 := hbel1.trans (hbel2.mono hbel1.size); have hcell2 := cell_up hcell t2))
        go_ret3
        exact ⟨rfl, t2⟩
    · have HT1 : Hid (Rd w w.heap.size 1 (some ⟨b, o + 1, none⟩) (n - 1) (sv t)) := Lib.hid (by have := HTl.out; rwa [if_neg c1] at this)
      clear HTl
      by_cases hcb : s = cB
      · have dc : (s.toList == [99, 104, 97, 114, 97, 99, 116, 101, 114]) = true := by rw [tc]; simp [hcb]
        have HR : Hid (unspellL (s :: t) = unsTail (prefixL t)) := Lib.hid (by rw [HRR.out]; exact if_pos hcb)
        clear tc hcb HRR
        cases hp : prefixL t with
        | none =>
          rw [hp] at HP
          have HR2 : Hid (unspellL (s :: t) = none) := Lib.hid (by rw [HR.out, hp]; rfl)
          rw [HR2.out]
          clear hp
          simp only [preTriple] at HP
          go_enter Tryz.func125, Tryz.ntmps125
          go_wp2_with (first
            | (go_at_call 162; refine (HC.out _).mono ?_; rintro e w1 ⟨rfl, hbel1⟩; have hcell1 := cell_up hcell hbel1)
            | (go_at_call 128; refine (HP.out _ _ hbel1 HT1.out).mono ?_; rintro e w2 ⟨rfl, hbel2⟩; have t2 := hbel1.trans (hbel2.mono hbel1.size); have hcell2 := cell_up hcell t2))
          go_ret3
          exact ⟨rfl, t2⟩
        | some x =>
          obtain ⟨v, k⟩ := x
          rw [hp] at HP
          obtain ⟨k1, k2, k3, k4, k5⟩ := prefixL_some hp
          obtain ⟨v1, v2, _⟩ := number_some k4
          have hk16 : k ≤ 15 := k3
          simp only [preTriple] at HP
          have Hpv : Hid (prefixL t = some (v, k)) := Lib.hid hp
          clear hp k4 k5 k2 k3
          by_cases hv0 : v < 0
          · have HR2 : Hid (unspellL (s :: t) = none) := Lib.hid (by rw [HR.out, Hpv.out]; exact unsTail_f (by have : isCharB v = false := (isCharB_false v).2 (by unfold isChar; omega); simp [this]))
            rw [HR2.out]
            go_enter Tryz.func125, Tryz.ntmps125
            go_wp2_with (first
              | (go_at_call 162; refine (HC.out _).mono ?_; rintro e w1 ⟨rfl, hbel1⟩; have hcell1 := cell_up hcell hbel1)
              | (go_at_call 128; refine (HP.out _ _ hbel1 HT1.out).mono ?_; rintro e w2 ⟨rfl, hbel2⟩; have t2 := hbel1.trans (hbel2.mono hbel1.size); have hcell2 := cell_up hcell t2))
            go_ret3
            exact ⟨rfl, t2⟩
          by_cases hv1 : v > 1114111
          · have HR2 : Hid (unspellL (s :: t) = none) := Lib.hid (by rw [HR.out, Hpv.out]; exact unsTail_f (by have : isCharB v = false := (isCharB_false v).2 (by unfold isChar; omega); simp [this]))
            rw [HR2.out]
            go_enter Tryz.func125, Tryz.ntmps125
            go_wp2_with (first
              | (go_at_call 162; refine (HC.out _).mono ?_; rintro e w1 ⟨rfl, hbel1⟩; have hcell1 := cell_up hcell hbel1)
              | (go_at_call 128; refine (HP.out _ _ hbel1 HT1.out).mono ?_; rintro e w2 ⟨rfl, hbel2⟩; have t2 := hbel1.trans (hbel2.mono hbel1.size); have hcell2 := cell_up hcell t2))
            go_ret3
            exact ⟨rfl, t2⟩
          have Hw : IntKind.i32.wrap v = v := IntWalk.i32_in _ (by omega)
          have HCH : Hid (∀ w, Calls Tryz.prog 148 #[.int .i32 v] w (Gives (.bool (isCharB v)) w)) := Lib.hid fun w => rcharacter v w
          have HSG : Hid (∀ w, Calls Tryz.prog 149 #[.int .i32 v] w (Gives (.bool (isS v)) w)) := Lib.hid fun w => rsign v w
          cases hch : isCharB v with
          | false =>
            have HR2 : Hid (unspellL (s :: t) = none) := Lib.hid (by rw [HR.out, Hpv.out]; exact unsTail_f (by simp [hch]))
            rw [hch] at HCH
            rw [HR2.out]
            clear hch
            go_enter Tryz.func125, Tryz.ntmps125
            go_wp2_with (first
              | (go_at_call 162; refine (HC.out _).mono ?_; rintro e w1 ⟨rfl, hbel1⟩; have hcell1 := cell_up hcell hbel1)
              | (go_at_call 128; refine (HP.out _ _ hbel1 HT1.out).mono ?_; rintro e w2 ⟨rfl, hbel2⟩; have t2 := hbel1.trans (hbel2.mono hbel1.size); have hcell2 := cell_up hcell t2)
              | (go_at_call 148; refine (HCH.out _).mono ?_; rintro e w3 ⟨rfl, hbel3⟩; have t3 := t2.trans (hbel3.mono t2.size)))
            go_ret3
            exact ⟨rfl, t3⟩
          | true =>
            rw [hch] at HCH
            unfold isS at HSG
            cases hi : sIdxI v with
            | some i =>
              have HR2 : Hid (unspellL (s :: t) = none) := Lib.hid (by rw [HR.out, Hpv.out]; exact unsTail_f (by simp [hi]))
              rw [hi] at HSG
              simp only [Option.isSome] at HSG
              rw [HR2.out]
              clear hch hi
              go_enter Tryz.func125, Tryz.ntmps125
              go_wp2_with (first
                | (go_at_call 162; refine (HC.out _).mono ?_; rintro e w1 ⟨rfl, hbel1⟩; have hcell1 := cell_up hcell hbel1)
                | (go_at_call 128; refine (HP.out _ _ hbel1 HT1.out).mono ?_; rintro e w2 ⟨rfl, hbel2⟩; have t2 := hbel1.trans (hbel2.mono hbel1.size); have hcell2 := cell_up hcell t2)
                | (go_at_call 148; refine (HCH.out _).mono ?_; rintro e w3 ⟨rfl, hbel3⟩; have t3 := t2.trans (hbel3.mono t2.size))
                | (go_at_call 149; refine (HSG.out _).mono ?_; rintro e w4 ⟨rfl, hbel4⟩; have t4 := t3.trans (hbel4.mono t3.size)))
              go_ret3
              exact ⟨rfl, t4⟩
            | none =>
              have HR2 : Hid (unspellL (s :: t) = some (v, 1 + k)) := Lib.hid (by rw [HR.out, Hpv.out]; exact unsTail_t ⟨hch, hi⟩)
              rw [hi] at HSG
              simp only [Option.isSome] at HSG
              rw [HR2.out]
              clear hch hi
              go_enter Tryz.func125, Tryz.ntmps125
              go_wp2_with (first
                | (go_at_call 162; refine (HC.out _).mono ?_; rintro e w1 ⟨rfl, hbel1⟩; have hcell1 := cell_up hcell hbel1)
                | (go_at_call 128; refine (HP.out _ _ hbel1 HT1.out).mono ?_; rintro e w2 ⟨rfl, hbel2⟩; have t2 := hbel1.trans (hbel2.mono hbel1.size); have hcell2 := cell_up hcell t2)
                | (go_at_call 148; refine (HCH.out _).mono ?_; rintro e w3 ⟨rfl, hbel3⟩; have t3 := t2.trans (hbel3.mono t2.size))
                | (go_at_call 149; refine (HSG.out _).mono ?_; rintro e w4 ⟨rfl, hbel4⟩; have t4 := t3.trans (hbel4.mono t3.size)))
              go_ret3
              exact ⟨by simp [unsV], t4⟩
      · have dc : (s.toList == [99, 104, 97, 114, 97, 99, 116, 101, 114]) = false := by rw [tc]; simp [hcb]
        have HR : Hid (unspellL (s :: t) = none) := Lib.hid (by rw [HRR.out]; exact if_neg hcb)
        rw [HR.out]
        clear tc hcb HRR HR
        cases hp : prefixL t with
        | none =>
          rw [hp] at HP
          clear hp
          simp only [preTriple] at HP
          go_enter Tryz.func125, Tryz.ntmps125
          go_wp2_with (first
            | (go_at_call 162; refine (HC.out _).mono ?_; rintro e w1 ⟨rfl, hbel1⟩; have hcell1 := cell_up hcell hbel1)
            | (go_at_call 128; refine (HP.out _ _ hbel1 HT1.out).mono ?_; rintro e w2 ⟨rfl, hbel2⟩; have t2 := hbel1.trans (hbel2.mono hbel1.size); have hcell2 := cell_up hcell t2))
          go_ret3
          exact ⟨rfl, t2⟩
        | some x =>
          obtain ⟨v, k⟩ := x
          rw [hp] at HP
          clear hp
          simp only [preTriple] at HP
          go_enter Tryz.func125, Tryz.ntmps125
          go_wp2_with (first
            | (go_at_call 162; refine (HC.out _).mono ?_; rintro e w1 ⟨rfl, hbel1⟩; have hcell1 := cell_up hcell hbel1)
            | (go_at_call 128; refine (HP.out _ _ hbel1 HT1.out).mono ?_; rintro e w2 ⟨rfl, hbel2⟩; have t2 := hbel1.trans (hbel2.mono hbel1.size); have hcell2 := cell_up hcell t2))
          go_ret3
          exact ⟨rfl, t2⟩
theorem runspell (l : List ByteArray) (A : Option Addr) (n c : Nat) (w : World) (hn : l.length = n) (hc : n ≤ c) (hm : c ≤ maxLen) (rd : Rd w w.heap.size 1 A n (sv l)) (ht : Tb w) :
    Calls Tryz.prog 125 #[.slice A n c] w (Gives (unsV (unspellL l)) w) := by
  cases l with
  | nil =>
    obtain rfl : n = 0 := by simp at hn; omega
    exact runspell_nil A c w
  | cons s t =>
    have hn' : t.length + 1 = n := by simpa using hn
    obtain ⟨b, o, rfl, _, _⟩ := rd.at_ (show 0 < n by omega)
    exact runspell_cons s t b o n c w hn' hc hm rd ht
end Go.Proofs.YtndgcjdiemfngaaGreatDoor
/- narratorref38.Vocabulary; narratorref40: has, Controls, Reserved, number. -/
namespace Go.Proofs.YtndgcjdiemfngaaGreatDoor
open Go.RowKit
set_option maxRecDepth 20000
def vocB : List ByteArray := (List.range 32).map wb
theorem vocB_take {k : Nat} (h : k < 32) : vocB.take (k + 1) = vocB.take k ++ [wb k] := by
  unfold vocB
  rw [← List.map_take, ← List.map_take, List.take_range, List.take_range, Nat.min_eq_left (by omega), Nat.min_eq_left (by omega), List.range_succ, List.map_append]
  rfl
theorem vocB_len (k : Nat) (h : k ≤ 32) : (vocB.take k).length = k := by
  unfold vocB
  simp
  omega
theorem own_snocS {w : World} {base n c : Nat} {A : Option Addr} {e : TypeId} {l l' : List ByteArray} {x : ByteArray} (h : w.ownsRow base e 1 (.slice A n c) n (sv l ++ [.string x])) (hv : l' = l ++ [x]) (hn : n = l'.length) :
    w.ownsRow base e 1 (.slice A l'.length c) l'.length (sv l') := by
  subst hn hv
  simpa [sv] using h
set_option maxHeartbeats 2000000 in
theorem rvocabulary (w : World) (ht : Tb w) : Calls Tryz.prog 42 #[] w (GivesOwn 9 1 id w 32 (sv vocB)) := by
  have HT := Lib.hid ht
  have HK : Hid (∀ k, k < 32 → vocB.take (k + 1) = vocB.take k ++ [wb k]) := Lib.hid fun k h => vocB_take h
  have HL : Hid (∀ k, k ≤ 32 → (vocB.take k).length = k) := Lib.hid vocB_len
  have HE : Hid (sv vocB = sv (vocB.take 28) ++ sv [wb 28, wb 29, wb 30, wb 31]) := Lib.hid rfl
  clear ht
  go_enter Tryz.func42, Tryz.ntmps42
  go_wp2
  go_loopw [1, 2] (fun v x wr => ∃ (A : Option Addr) (c k : Nat), k ≤ 20 ∧ x = .int .i64 k ∧ v = .slice A k c ∧ wr.ownsRow w.heap.size 9 1 (.slice A k c) k (sv (vocB.take k)) ∧ Below w.heap.size w wr) (fun _ x _ => 20 - (intOf x).toNat)
  case atStart => exact ⟨_, _, 0, by omega, rfl, rfl, own_built (xs := []) rfl rfl (Nat.le_refl _) (Nat.zero_le _), (Below.refl _ _).alloc (Nat.le_refl _) _⟩
  case round =>
    obtain ⟨A, c, k, hk, rfl, rfl, hown, hbel⟩ := hrel
    have zb := hbel.size
    by_cases hlt : k < 20
    · have hc := (HT.out.below hbel).1 k hlt
      have hkk := Lib.hid (HK.out k (by omega))
      have hll := Lib.hid (HL.out (k + 1) (by omega))
      generalize wb k = x at *
      generalize vocB.take k = V at *
      go_wp2_with (at_builtin; go_must (refine app_list rfl _ _ _ rfl elt_str (w.heap.size) _ rfl ((hown.alloc _)) _ _ rfl ((rd_built (by first | rfl | (simp; done)) rfl)) (by first | rfl | exact sv_one _ | exact wv_one _) (by omega) (by omega) (by first | (simp; done) | (simp; omega) | omega) ?_); intro A4 c4 w4 hown4 hbel4 hgr4 hat4; have z4 := hbel4.size; (try simp only [World.size_alloc] at z4); (try simp only [Nat.zero_add, List.nil_append] at hown4))
      exact ⟨⟨A4, c4, k + 1, by omega, by go_num, rfl, by rw [hkk.out]; simpa [sv] using hown4, (hbel.alloc zb _).trans hbel4⟩, by simp [intOf]; omega⟩
    · obtain rfl : k = 20 := by omega
      have e20 : ((20 : Nat) : Int) = 20 := rfl
      rw [e20]
      go_wp2
      go_loopw [1, 3] (fun v x wr => ∃ (A : Option Addr) (c k : Nat), k ≤ 8 ∧ x = .int .i64 k ∧ v = .slice A (20 + k) c ∧ wr.ownsRow w.heap.size 9 1 (.slice A (20 + k) c) (20 + k) (sv (vocB.take (20 + k))) ∧ Below w.heap.size w wr) (fun _ x _ => 8 - (intOf x).toNat)
      case atStart => exact ⟨A, c, 0, by omega, rfl, rfl, hown, hbel⟩
      case round =>
        obtain ⟨A, c, k, hk, rfl, rfl, hown, hbel⟩ := hrel
        have zb := hbel.size
        by_cases hlt : k < 8
        · have hc := (HT.out.below hbel).2 k hlt
          have hkk := Lib.hid (HK.out (20 + k) (by omega))
          generalize wb (20 + k) = x at *
          generalize vocB.take (20 + k) = V at *
          go_wp2_with (at_builtin; go_must (refine app_list rfl _ _ _ rfl elt_str (w.heap.size) _ rfl ((hown.alloc _)) _ _ rfl ((rd_built (by first | rfl | (simp; done)) rfl)) (by first | rfl | exact sv_one _ | exact wv_one _) (by omega) (by omega) (by first | (simp; done) | (simp; omega) | omega) ?_); intro A4 c4 w4 hown4 hbel4 hgr4 hat4; have z4 := hbel4.size; (try simp only [World.size_alloc] at z4); (try simp only [Nat.zero_add, List.nil_append] at hown4))
          exact ⟨⟨A4, c4, k + 1, by omega, by go_num, by rw [Nat.add_assoc], by rw [show 20 + (k + 1) = 20 + k + 1 by omega, hkk.out]; simpa [sv] using hown4, (hbel.alloc zb _).trans hbel4⟩, by simp [intOf]; omega⟩
        · obtain rfl : k = 8 := by omega
          go_wp2_with (at_builtin; go_must (refine app_list rfl _ _ _ rfl elt_str (w.heap.size) _ rfl ((hown.alloc _)) _ _ rfl ((rd_built (xs := sv [wb 28, wb 29, wb 30, wb 31]) (by first | rfl | (simp; done)) rfl)) (by first | rfl | exact sv_one _ | exact wv_one _) (by omega) (by omega) (by first | (simp; done) | (simp; omega) | omega) ?_); intro A4 c4 w4 hown4 hbel4 hgr4 hat4; have z4 := hbel4.size; (try simp only [World.size_alloc] at z4); (try simp only [Nat.zero_add, List.nil_append] at hown4))
          go_ret
          exact ⟨A4, c4, rfl, by rw [HE.out]; exact hown4, (hbel.alloc zb _).trans hbel4⟩
end Go.Proofs.YtndgcjdiemfngaaGreatDoor
/- narratorref40: has, Controls, Reserved, number. -/
namespace Go.Proofs.YtndgcjdiemfngaaGreatDoor
open Go.RowKit
set_option maxRecDepth 100000
def hasB (l : List ByteArray) (s : ByteArray) : Bool := l.any fun x => decide (x = s)
set_option maxHeartbeats 1000000 in
theorem has_ (l : List ByteArray) (s : ByteArray) (A : Option Addr) (n c B : Nat) (w : World) (hn : l.length = n) (hb : n ≤ 1000000000) (rd : Rd w B 1 A n (sv l)) :
    Calls Tryz.prog 40 #[.slice A n c, .string s] w (Same (.bool (hasB l s)) w) := by
  have HF : Hid (hasB l s = hasB (l.drop 0) s) := Lib.hid rfl
  have HN := Lib.hid hn
  generalize hasB l s = R at HF ⊢
  clear hn
  go_enter Tryz.func40, Tryz.ntmps40
  go_wp2
  go_loop [5] (fun x => ∃ k : Nat, k ≤ n ∧ x = .int .i64 k ∧ Hid (R = hasB (l.drop k) s)) (fun x => n - (intOf x).toNat)
  case atStart => exact ⟨0, Nat.zero_le _, rfl, HF⟩
  case round =>
    obtain ⟨k, hk, rfl, HR⟩ := hrel
    by_cases hlt : k < n
    · have hkl : k < l.length := by have := HN.out; omega
      obtain ⟨b, o, rfl, _, hc⟩ := rd.at_ hlt
      rw [sv_get _ _ hkl] at hc
      have HD : Hid (l.drop k = l[k] :: l.drop (k + 1)) := Lib.hid (List.drop_eq_getElem_cons hkl)
      generalize l[k] = x at *
      by_cases he : x = s
      · have HR2 : Hid (R = true) := Lib.hid (by rw [HR.out, HD.out]; simp [hasB, he])
        have hq : (x.toList == s.toList) = true := by rw [str_beq]; simp [he]
        clear he HR HD
        go_wp2
        go_ret
        exact ⟨by rw [HR2.out]; rfl, rfl⟩
      · have HR2 : Hid (R = hasB (l.drop (k + 1)) s) := Lib.hid (by rw [HR.out, HD.out]; simp [hasB, he])
        have hq : (x.toList == s.toList) = false := by rw [str_beq]; simp [he]
        clear he HR HD
        go_wp2
        exact ⟨⟨k + 1, by omega, by go_num, HR2⟩, by simp [intOf]; omega⟩
    · have HR2 : Hid (R = false) := Lib.hid (by rw [HR.out, List.drop_of_length_le (by have := HN.out; omega)]; rfl)
      go_wp2
      go_ret
      exact ⟨by rw [HR2.out]; rfl, rfl⟩
set_option maxHeartbeats 1000000 in
theorem rcontrols (w : World) : Calls Tryz.prog 41 #[] w fun e w' => e = .returned (.slice (some ⟨w.heap.size, 0, none⟩) 39 39) ∧ w.alloc (.cells (sv ctrlL).toArray 9) = w' := by
  have e : (sv ctrlL).toArray = #[.string cB, .string bJoined, .string bCap, .string bCaps, .string bWord, .string bSpace, .string bTimes, .string bSpelled, .string bEnd, .string bDigits, .string (styB 0), .string (styB 1), .string (styB 2), .string (styB 3),
  .string ⟨#[115, 105, 122, 101]⟩, .string ⟨#[114, 111, 119, 115]⟩, .string ⟨#[99, 111, 108, 117, 109, 110, 115]⟩, .string ⟨#[115, 99, 114, 111, 108, 108]⟩, .string ⟨#[108, 105, 110, 101]⟩, .string ⟨#[108, 105, 110, 101, 115]⟩, .string ⟨#[102, 114, 111, 109]⟩, .string ⟨#[116, 111]⟩, .string ⟨#[117, 112]⟩, .string ⟨#[100, 111, 119, 110]⟩,
  .string ⟨#[99, 111, 108, 117, 109, 110]⟩, .string ⟨#[114, 101, 112, 108, 97, 99, 101]⟩, .string ⟨#[119, 105, 116, 104]⟩, .string ⟨#[105, 110, 115, 101, 114, 116]⟩, .string ⟨#[100, 101, 108, 101, 116, 101]⟩, .string ⟨#[99, 117, 114, 115, 111, 114]⟩, .string ⟨#[118, 105, 115, 105, 98, 108, 101]⟩, .string ⟨#[105, 110, 118, 105, 115, 105, 98, 108, 101]⟩,
  .string ⟨#[109, 111, 114, 101]⟩, .string ⟨#[100, 111, 110, 101]⟩, .string ⟨#[117, 112, 100, 97, 116, 101, 115]⟩, .string ⟨#[114, 101, 97, 100, 115]⟩, .string ⟨#[115, 116, 111, 112]⟩, .string ⟨#[98, 108, 97, 110, 107]⟩, .string ⟨#[98, 121]⟩] := rfl
  rw [e]
  go_enter Tryz.func41, Tryz.ntmps41
  go_wp2
  go_ret
  exact ⟨rfl, rfl⟩
theorem res_split (s : ByteArray) : resB s = (hasB ctrlL s || (hasB vocB s || hasB ((List.range 32).map nb) s)) := by
  unfold resB hasB isNumW vocB
  rw [List.any_map, List.any_map, Bool.or_assoc]
  rfl
set_option maxHeartbeats 2000000 in
theorem rreserved (s : ByteArray) (w : World) (ht : Tb w) : Calls Tryz.prog 22 #[.string s] w (Gives (.bool (resB s)) w) := by
  have HC : Hid (∀ w : World, Calls Tryz.prog 40 #[.slice (some ⟨w.heap.size, 0, none⟩) 39 39, .string s] (w.alloc (.cells (sv ctrlL).toArray 9)) (Same (.bool (hasB ctrlL s)) (w.alloc (.cells (sv ctrlL).toArray 9)))) := Lib.hid fun w => has_ ctrlL s _ 39 39 _ _ rfl (by omega) (rd_built (xs := sv ctrlL) rfl rfl)
  have HV : Hid (∀ A c B w, Rd w B 1 A 32 (sv vocB) → Calls Tryz.prog 40 #[.slice A 32 c, .string s] w (Same (.bool (hasB vocB s)) w)) := Lib.hid fun A c B w rd => has_ vocB s A 32 c B w rfl (by omega) rd
  have HN : Hid (∀ A c B w, Rd w B 1 A 32 nmL → Calls Tryz.prog 40 #[.slice A 32 c, .string s] w (Same (.bool (hasB ((List.range 32).map nb) s)) w)) := Lib.hid fun A c B w rd => has_ ((List.range 32).map nb) s A 32 c B w rfl (by omega) rd
  have HT := Lib.hid ht
  have HCo := Lib.hid rcontrols
  have HVo := Lib.hid rvocabulary
  have HNo := Lib.hid rnames
  rw [res_split]
  generalize hasB ctrlL s = x1 at *
  generalize hasB vocB s = x2 at *
  generalize hasB ((List.range 32).map nb) s = x3 at *
  generalize (sv ctrlL).toArray = CA at *
  clear ht
  cases x1 with
  | true =>
    rw [Bool.true_or]
    go_enter Tryz.func22, Tryz.ntmps22
    go_wp2_with (first
      | (go_at_call 41; refine (HCo.out _).mono ?_; rintro e w1 ⟨rfl, rfl⟩)
      | (go_at_call 40; refine (HC.out _).mono ?_; rintro e w2 ⟨rfl, rfl⟩))
    go_ret
    exact ⟨rfl, (Below.refl _ _).alloc (Nat.le_refl _) _⟩
  | false =>
    rw [Bool.false_or]
    cases x2 with
    | true =>
      rw [Bool.true_or]
      go_enter Tryz.func22, Tryz.ntmps22
      go_wp2_with (first
        | (go_at_call 41; refine (HCo.out _).mono ?_; rintro e w1 ⟨rfl, rfl⟩)
        | (go_at_call 42; refine (HVo.out _ (HT.out.below ((Below.refl _ _).alloc (Nat.le_refl _) _))).mono ?_; rintro e w3 ⟨A3, c3, rfl, hown3, hbel3⟩)
        | ((fail_if_success have := hown3); go_at_call 40; refine (HC.out _).mono ?_; rintro e w2 ⟨rfl, rfl⟩)
        | (go_at_call 40; refine (HV.out _ _ _ _ (Rd.of_own hown3)).mono ?_; rintro e w4 ⟨rfl, rfl⟩))
      go_ret
      exact ⟨rfl, ((Below.refl _ _).alloc (Nat.le_refl _) _).trans (hbel3.mono (by simp))⟩
    | false =>
      rw [Bool.false_or]
      go_enter Tryz.func22, Tryz.ntmps22
      go_wp2_with (first
        | (go_at_call 41; refine (HCo.out _).mono ?_; rintro e w1 ⟨rfl, rfl⟩)
        | (go_at_call 42; refine (HVo.out _ (HT.out.below ((Below.refl _ _).alloc (Nat.le_refl _) _))).mono ?_; rintro e w3 ⟨A3, c3, rfl, hown3, hbel3⟩; have t3 := ((Below.refl w.heap.size w).alloc (Nat.le_refl _) _).trans (hbel3.mono (by simp)))
        | (go_at_call 43; refine (HNo.out _).mono ?_; rintro e w5 ⟨A5, c5, rfl, hown5, hbel5⟩; have t5 := t3.trans (hbel5.mono t3.size))
        | ((fail_if_success have := hown3); go_at_call 40; refine (HC.out _).mono ?_; rintro e w2 ⟨rfl, rfl⟩)
        | ((fail_if_success have := hown5); go_at_call 40; refine (HV.out _ _ _ _ (Rd.of_own hown3)).mono ?_; rintro e w4 ⟨rfl, rfl⟩)
        | (go_at_call 40; refine (HN.out _ _ _ _ (Rd.of_own hown5)).mono ?_; rintro e w6 ⟨rfl, rfl⟩))
      go_ret
      exact ⟨rfl, t5⟩
set_option maxHeartbeats 1000000 in
theorem rnumber_ (s : ByteArray) (w : World) (ht : Tb w) : Calls Tryz.prog 36 #[.string s] w (Gives (.bool (isNumW s)) w) := by
  have e : isNumW s = hasB vocB s := by
    unfold isNumW hasB vocB
    rw [List.any_map]
    rfl
  rw [e]
  have HV : Hid (∀ A c B w, Rd w B 1 A 32 (sv vocB) → Calls Tryz.prog 40 #[.slice A 32 c, .string s] w (Same (.bool (hasB vocB s)) w)) := Lib.hid fun A c B w rd => has_ vocB s A 32 c B w rfl (by omega) rd
  have HT := Lib.hid ht
  clear ht e
  generalize hasB vocB s = x2 at *
  go_enter Tryz.func36, Tryz.ntmps36
  go_wp2_with (first
    | (go_at_call 42; refine (rvocabulary _ HT.out).mono ?_; rintro e w3 ⟨A3, c3, rfl, hown3, hbel3⟩)
    | (go_at_call 40; refine (HV.out _ _ _ _ (Rd.of_own hown3)).mono ?_; rintro e w4 ⟨rfl, rfl⟩))
  go_ret
  exact ⟨rfl, hbel3⟩
end Go.Proofs.YtndgcjdiemfngaaGreatDoor
/- Layer 40's statement Results. -/
namespace Go.Proofs.YtndgcjdiemfngaaGreatDoor
open Go.RowKit
set_option maxRecDepth 20000
set_option maxHeartbeats 4000000 in
theorem law_SpokentextResults (w : World) (hg : Gd w ∧ Tb w) (s : ByteArray) (hs : s.size ≤ maxLen) (r : Int) (d sp : Bool) (q : Int) (co : Bool) (k : Int) (wr : (Lit.int .i64 r).wf = true) (wq : (Lit.int .i64 q).wf = true) (wk : (Lit.int .i64 k).wf = true) :
    Calls Tryz.prog 5 #[.string s, stV r d sp q co k] w (Gives (.bool true) w) := by
  obtain ⟨hg, ht⟩ := hg
  have HA : Hid (∀ w', Below w.heap.size w w' → Calls Tryz.prog 13 #[] w' (Gives (.bool true) w')) := Lib.hid fun w' hw => awake_ w' (hg.below hw)
  have HR1 : Hid (∀ w', Below w.heap.size w w' → Calls Tryz.prog 21 #[.string s] w' (Gives (.bool (resB s)) w')) := Lib.hid fun w' hw => Reserved_ s hs w' (hg.below hw).1
  have HR2 : Hid (∀ w', Below w.heap.size w w' → Calls Tryz.prog 22 #[.string s] w' (Gives (.bool (resB s)) w')) := Lib.hid fun w' hw => rreserved s w' (ht.below hw)
  have HC1 : Hid (∀ w', Below w.heap.size w w' → Calls Tryz.prog 23 #[stV r d sp q co k] w' (Gives (.int .i64 (setE r q k)) w')) := Lib.hid fun w' _ => check_s r d sp q co k w'
  have HC2 : Hid (∀ w', Below w.heap.size w w' → Calls Tryz.prog 12 #[stV r d sp q co k] w' (Gives (.int .i64 (setE r q k)) w')) := Lib.hid fun w' _ => rcheck_s r d sp q co k w'
  generalize resB s = R at *
  generalize setE r q k = E at *
  clear hg ht
  by_cases h60 : 60 < s.size
  · have i1 : (60 : Int) < s.size := by omega
    clear h60
    go_enter Tryz.func5, Tryz.ntmps5
    go_wp2_with (go_at_call 13; refine (HA.out _ (Below.alloc (Below.refl _ _) (Nat.le_refl _) _)).mono ?_; rintro e wa ⟨rfl, hba⟩)
    go_ret
    exact ⟨rfl, (Below.alloc (Below.refl w.heap.size w) (Nat.le_refl _) _).trans (hba.mono (by simp))⟩
  · have i1 : ¬ (60 : Int) < s.size := by omega
    clear h60
    go_enter Tryz.func5, Tryz.ntmps5
    go_upto_region 3 with fail
    refine wp_fg (fun X => StBox X r d sp q co k w.heap.size ∧ Below w.heap.size w X ∧ X.heap.size = w.heap.size + 1) ⟨StBox.new w r d sp q co k 24, (Below.refl _ _).alloc (Nat.le_refl _) _, by simp⟩ ?_
    rintro X ⟨hst, hbX, hzX⟩
    have HSt : Hid (∀ w', Below X.heap.size X w' → StBox w' r d sp q co k w.heap.size) := Lib.hid fun w' h => hst.below h (by omega)
    clear hst hzX
    have c0 : ∀ x : Near X.heap.size X, x.w.cell? ⟨w.heap.size, 0, none⟩ = some (.int .i64 r) := fun x => (HSt.out x.w x.h).1
    have c1 : ∀ x : Near X.heap.size X, x.w.cell? ⟨w.heap.size, 1, none⟩ = some (.bool d) := fun x => (HSt.out x.w x.h).2.1
    have c2 : ∀ x : Near X.heap.size X, x.w.cell? ⟨w.heap.size, 2, none⟩ = some (.bool sp) := fun x => (HSt.out x.w x.h).2.2.1
    have c3 : ∀ x : Near X.heap.size X, x.w.cell? ⟨w.heap.size, 3, none⟩ = some (.int .i64 q) := fun x => (HSt.out x.w x.h).2.2.2.1
    have c4 : ∀ x : Near X.heap.size X, x.w.cell? ⟨w.heap.size, 4, none⟩ = some (.bool co) := fun x => (HSt.out x.w x.h).2.2.2.2.1
    have c5 : ∀ x : Near X.heap.size X, x.w.cell? ⟨w.heap.size, 5, none⟩ = some (.int .i64 k) := fun x => (HSt.out x.w x.h).2.2.2.2.2
    have hbx : Hid (∀ x : Near X.heap.size X, Below w.heap.size w x.w) := Lib.hid fun x => hbX.trans (x.h.mono hbX.size)
    have hzz : X.heap.size ≤ X.heap.size := Nat.le_refl _
    have eR : (R == R) = true := by simp
    have eE : (E == E) = true := by simp
    refine wp_region_near X.heap.size (by kernel_rfl) (by kernel_rfl) ?_; (repeat (go_big_quiet_step ((first | (go_at_call 21; exact Calls.near _ hzz (HR1.out _ (hbx.out _))) | (go_at_call 22; exact Calls.near _ hzz (HR2.out _ (hbx.out _))) | (go_at_call 23; exact Calls.near _ hzz (HC1.out _ (hbx.out _))) | (go_at_call 12; exact Calls.near _ hzz (HC2.out _ (hbx.out _))) | (go_at_call 13; exact Calls.near _ hzz (HA.out _ (hbx.out _))))))); refine wpQuiet_nil ?_; intro _ hw'; obtain ⟨x1, hw''⟩ := hw'; subst hw''
    go_wp2
    go_ret
    exact ⟨rfl, hbx.out x1⟩
end Go.Proofs.YtndgcjdiemfngaaGreatDoor
