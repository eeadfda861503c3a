/- SignnamesSigns: the law's walk. -/
import Derived.Test.YtoiballfjbdoiaaDoorSigL3
namespace Go.Proofs.YtoiballfjbdoiaaDoor
open Go.RowKit
def sCharP (k : Nat) : Int := if k = 0 then 0 else (sChar (k - 1) : Int)
theorem sChar_up (k : Nat) (h : k < 32) : sCharP k < (sChar k : Int) := by
  have : ∀ k : Fin 32, sCharP k.val < (sChar k.val : Int) := by decide +kernel
  exact this ⟨k, h⟩
theorem sCharP_succ (k : Nat) : sCharP (k + 1) = (sChar k : Int) := by simp [sCharP]
theorem nameV_of (r : Int) (b : Bool) (hb : isS r = b) : nameV r = .tuple #[.string (rnameV r), .bool b] := by
  subst hb
  unfold nameV rnameV isS
  cases h : sIdxI r <;> rfl
set_option maxHeartbeats 1000000 in
set_option maxRecDepth 10000 in
theorem law_SignnamesSigns (w : World) (ht : Sp w) (r : Int) (_wr : (Lit.int .i32 r).wf = true) : Calls Tryd.prog 10 #[.int .i32 r] w (Gives (.bool true) w) := by
  have HA : Hid (∀ w1, Below w.heap.size w w1 → Calls Tryd.prog 14 #[] w1 (Gives (.bool true) w1)) := Lib.hid fun w1 hb => awake w1 (ht.below hb (Nat.le_refl _))
  have HNs : Hid (∀ w1, Below w.heap.size w w1 → Calls Tryd.prog 22 #[] w1 fun e w' => ∃ A c, e = .returned (.slice A 32 c) ∧ Rd w' w'.heap.size 1 A 32 nmL ∧ Below w1.heap.size w1 w') := Lib.hid fun w1 hb => names w1 (ht.below hb (Nat.le_refl _))
  have HNm : Hid (∀ w1, Below w.heap.size w w1 → Calls Tryd.prog 18 #[.int .i32 r] w1 (Gives (nameV r) w1)) := Lib.hid fun w1 hb => name r w1 (ht.below hb (Nat.le_refl _))
  have HSn : Hid (∀ i w1, i < 32 → Below w.heap.size w w1 → Calls Tryd.prog 19 #[.string (nb i)] w1 (Gives (.tuple #[.int .i32 (sChar i), .bool true]) w1)) := Lib.hid fun i w1 hi hb => sign_some i hi w1 (ht.below hb (Nat.le_refl _))
  have HI := Lib.hid (isS_eq r)
  clear ht _wr
  go_enter Tryd.func10, Tryd.ntmps10
  go_upto_region 1 with fail
  go_cut [3] (fun x wx => wx = w ∧ x = .bool (isS r))
  case first =>
    generalize isS r = R at *
    rcases Int.lt_or_le r 33 with h | h
    · obtain rfl : R = false := by rw [HI.out, Bool.eq_false_iff]; simp; omega
      go_wp2
      go_meet
      exact ⟨rfl, by first | rfl | (simp; omega)⟩
    rcases Int.lt_or_le 126 r with h | h
    · obtain rfl : R = false := by rw [HI.out, Bool.eq_false_iff]; simp; omega
      go_wp2
      go_meet
      exact ⟨rfl, by first | rfl | (simp; omega)⟩
    rcases Int.lt_or_le r 48 with h | h
    · obtain rfl : R = true := by rw [HI.out]; simp; omega
      go_wp2
      go_meet
      exact ⟨rfl, by first | rfl | (simp; omega)⟩
    rcases Int.lt_or_le r 58 with h | h
    · obtain rfl : R = false := by rw [HI.out, Bool.eq_false_iff]; simp; omega
      go_wp2
      go_meet
      exact ⟨rfl, by first | rfl | (simp; omega)⟩
    rcases Int.lt_or_le r 65 with h | h
    · obtain rfl : R = true := by rw [HI.out]; simp; omega
      have e57 : ¬ r ≤ 57 := by omega
      go_wp2
      go_meet
      exact ⟨rfl, by first | rfl | (simp; omega)⟩
    rcases Int.lt_or_le r 91 with h | h
    · obtain rfl : R = false := by rw [HI.out, Bool.eq_false_iff]; simp; omega
      have e57 : ¬ r ≤ 57 := by omega
      go_wp2
      go_meet
      exact ⟨rfl, by first | rfl | (simp; omega)⟩
    rcases Int.lt_or_le r 97 with h | h
    · obtain rfl : R = true := by rw [HI.out]; simp; omega
      have e57 : ¬ r ≤ 57 := by omega
      have e90 : ¬ r ≤ 90 := by omega
      go_wp2
      go_meet
      exact ⟨rfl, by first | rfl | (simp; omega)⟩
    rcases Int.lt_or_le r 123 with h | h
    · obtain rfl : R = false := by rw [HI.out, Bool.eq_false_iff]; simp; omega
      have e57 : ¬ r ≤ 57 := by omega
      have e90 : ¬ r ≤ 90 := by omega
      have g122 : r ≤ 122 := by omega
      go_wp2
      go_meet
      exact ⟨rfl, by first | rfl | (simp; omega)⟩
    obtain rfl : R = true := by rw [HI.out]; simp; omega
    have e57 : ¬ r ≤ 57 := by omega
    have e90 : ¬ r ≤ 90 := by omega
    have e122 : ¬ r ≤ 122 := by omega
    go_wp2
    go_meet
    exact ⟨rfl, rfl⟩
  case rest =>
    obtain ⟨rfl, rfl⟩ := hcut
    clear HI
    cases hs : isS r with
    | true =>
      obtain ⟨i, hi⟩ := Option.isSome_iff_exists.1 (show (sIdxI r).isSome = true from hs)
      obtain ⟨hi32, hr, _⟩ := sIdxI_some hi
      have HNm2 : Hid (∀ w1, Below wc.heap.size wc w1 → Calls Tryd.prog 18 #[.int .i32 r] w1 (Gives (.tuple #[.string (nb i), .bool true]) w1)) := Lib.hid fun w1 hb => by
        have h := HNm.out w1 hb
        unfold nameV at h
        rwa [hi] at h
      have HS2 : Hid (∀ w1, Below wc.heap.size wc w1 → Calls Tryd.prog 19 #[.string (nb i)] w1 (Gives (.tuple #[.int .i32 r, .bool true]) w1)) := Lib.hid fun w1 hb => by
        have h := HSn.out i w1 hi32 hb
        rwa [← hr] at h
      clear hs hi hr HNm
      go_wp2_with (first
        | (go_at_call 18; refine (HNm2.out _ (Below.refl _ _)).mono ?_; rintro e w1 ⟨rfl, hbel1⟩)
        | (go_at_call 19; refine (HS2.out _ hbel1).mono ?_; rintro e w2 ⟨rfl, hbel2⟩; have t2 := hbel1.trans (hbel2.mono hbel1.size))
        | (go_at_call 22; refine (HNs.out _ t2).mono ?_; rintro e w3 ⟨A, c, rfl, rd, hbel3⟩; have t3 := t2.trans (hbel3.mono t2.size)))
      have hrd := Lib.hid rd
      go_loopw [8, 10] (fun x y wr => ∃ k : Nat, k ≤ 32 ∧ x = .int .i32 (sCharP k) ∧ y = .int .i64 k ∧ Below w3.heap.size w3 wr) (fun _ y _ => 32 - (intOf y).toNat)
      case atStart => exact ⟨0, by omega, rfl, rfl, Below.refl _ _⟩
      case round =>
        obtain ⟨k, hk, rfl, rfl, hbel⟩ := hrel
        have tt := t3.trans (hbel.mono t3.size)
        by_cases hlt : k < 32
        · obtain ⟨b, o, rfl, _, hc⟩ := (hrd.out.below hbel).at_ hlt
          have hv : nmL[k]? = some (.string (nb k)) := by simp [nmL, hlt]
          rw [hv] at hc
          have HC : Hid (∀ w1, Below wc.heap.size wc w1 → Calls Tryd.prog 19 #[.string (nb k)] w1 (Gives (.tuple #[.int .i32 (sChar k), .bool true]) w1)) := Lib.hid fun w1 hb => HSn.out k w1 hlt hb
          have hup := sChar_up k hlt
          have hnle : ¬ ((sChar k : Int) ≤ sCharP k) := by omega
          have hss := Lib.hid (sCharP_succ k)
          clear hv
          generalize nb k = s at *
          generalize sCharP k = P0 at *
          generalize (sChar k : Int) = P1 at *
          go_wp2_with (go_at_call 19; refine (HC.out _ tt).mono ?_; rintro e w4 ⟨rfl, hbel4⟩)
          exact ⟨⟨k + 1, by omega, by rw [hss.out], by go_num, hbel.trans (hbel4.mono hbel.size)⟩, by simp [intOf]; omega⟩
        · obtain rfl : k = 32 := by omega
          go_wp2_with (go_at_call 14; refine (HA.out _ tt).mono ?_; rintro e w5 ⟨rfl, hbel5⟩)
          go_ret
          exact ⟨rfl, tt.trans (hbel5.mono tt.size)⟩
    | false =>
      have HNm2 : Hid (∀ w1, Below wc.heap.size wc w1 → Calls Tryd.prog 18 #[.int .i32 r] w1 (Gives (.tuple #[.string ⟨#[]⟩, .bool false]) w1)) := Lib.hid fun w1 hb => by
        have h := HNm.out w1 hb
        have hn : sIdxI r = none := by
          cases h : sIdxI r with
          | none => rfl
          | some i => rw [isS, h] at hs; cases hs
        unfold nameV at h
        rwa [hn] at h
      clear hs HNm
      go_wp2_with (first
        | (go_at_call 18; refine (HNm2.out _ (Below.refl _ _)).mono ?_; rintro e w1 ⟨rfl, hbel1⟩)
        | (go_at_call 22; refine (HNs.out _ hbel1).mono ?_; rintro e w3 ⟨A, c, rfl, rd, hbel3⟩; have t3 := hbel1.trans (hbel3.mono hbel1.size)))
      have hrd := Lib.hid rd
      go_loopw [8, 10] (fun x y wr => ∃ k : Nat, k ≤ 32 ∧ x = .int .i32 (sCharP k) ∧ y = .int .i64 k ∧ Below w3.heap.size w3 wr) (fun _ y _ => 32 - (intOf y).toNat)
      case atStart => exact ⟨0, by omega, rfl, rfl, Below.refl _ _⟩
      case round =>
        obtain ⟨k, hk, rfl, rfl, hbel⟩ := hrel
        have tt := t3.trans (hbel.mono t3.size)
        by_cases hlt : k < 32
        · obtain ⟨b, o, rfl, _, hc⟩ := (hrd.out.below hbel).at_ hlt
          have hv : nmL[k]? = some (.string (nb k)) := by simp [nmL, hlt]
          rw [hv] at hc
          have HC : Hid (∀ w1, Below wc.heap.size wc w1 → Calls Tryd.prog 19 #[.string (nb k)] w1 (Gives (.tuple #[.int .i32 (sChar k), .bool true]) w1)) := Lib.hid fun w1 hb => HSn.out k w1 hlt hb
          have hup := sChar_up k hlt
          have hnle : ¬ ((sChar k : Int) ≤ sCharP k) := by omega
          have hss := Lib.hid (sCharP_succ k)
          clear hv
          generalize nb k = s at *
          generalize sCharP k = P0 at *
          generalize (sChar k : Int) = P1 at *
          go_wp2_with (go_at_call 19; refine (HC.out _ tt).mono ?_; rintro e w4 ⟨rfl, hbel4⟩)
          exact ⟨⟨k + 1, by omega, by rw [hss.out], by go_num, hbel.trans (hbel4.mono hbel.size)⟩, by simp [intOf]; omega⟩
        · obtain rfl : k = 32 := by omega
          go_wp2_with (go_at_call 14; refine (HA.out _ tt).mono ?_; rintro e w5 ⟨rfl, hbel5⟩)
          go_ret
          exact ⟨rfl, tt.trans (hbel5.mono tt.size)⟩
end Go.Proofs.YtoiballfjbdoiaaDoor
