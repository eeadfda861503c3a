/- SignnamesDistinct: the law's walk. -/
import Derived.Test.YtoiballfjbdoiaaDoorSig4
import Derived.Test.YtoiballfjbdoiaaDoorSigP
import Derived.Deep.QuietTactic
import Derived.BigQuiet
namespace Go.Proofs.YtoiballfjbdoiaaDoor
open Go.RowKit
theorem nb_letters0 : ∀ k : Fin 32, 0 < (nb k.val).size ∧ (nb k.val).size ≤ 20 ∧ (nb k.val).data.toList.all (fun c => decide (97 ≤ c.toNat) && decide (c.toNat ≤ 122)) = true := by decide +kernel
theorem nb_letters (k : Nat) (h : k < 32) : 0 < (nb k).size ∧ (nb k).size ≤ 20 ∧ ∀ i (h : i < (nb k).size), 97 ≤ (nb k)[i].toNat ∧ (nb k)[i].toNat ≤ 122 := by
  obtain ⟨a, b, c⟩ := nb_letters0 ⟨k, h⟩
  refine ⟨a, b, fun i hi => ?_⟩
  rw [List.all_eq_true] at c
  have := c (nb k)[i] (by
    have : (nb k)[i] = (nb k).data.toList[i]'(by simpa using hi) := rfl
    rw [this]
    exact List.getElem_mem _)
  simpa using this
theorem rd_name {w : World} {B : Nat} {A : Option Addr} (rd : Rd w B 1 A 32 nmL) : ∃ b o, A = some ⟨b, o, none⟩ ∧ ∀ p, p < 32 → w.cell? ⟨b, o + p, none⟩ = some (.string (nb p)) := by
  obtain ⟨b, o, e, _, _⟩ := rd.at_ (show 0 < 32 by omega)
  refine ⟨b, o, e, fun p hp => ?_⟩
  obtain ⟨b', o', e', _, h⟩ := rd.at_ hp
  rw [e] at e'
  cases e'
  have hv : nmL[p]? = some (.string (nb p)) := by simp [nmL, hp]
  rw [hv] at h
  simpa using h
set_option maxHeartbeats 1000000 in
theorem law_SignnamesDistinct (w : World) (ht : Sp w) (i : Int) (wi : (Lit.int .u8 i).wf = true) (k : Int) (wk : (Lit.int .u8 k).wf = true) : Calls Tryd.prog 9 #[.int .u8 i, .int .u8 k] w (Gives (.bool true) w) := by
  have hi : 0 ≤ i ∧ i ≤ 255 := by simpa [Lit.wf, IntKind.min, IntKind.max, IntKind.signed, IntKind.bits] using wi
  have hk : 0 ≤ k ∧ k ≤ 255 := by simpa [Lit.wf, IntKind.min, IntKind.max, IntKind.signed, IntKind.bits] using wk
  have HA : Hid (∀ w1, Below w.heap.size w w1 → Calls Tryd.prog 14 #[] w1 (Gives (.bool true) w1)) := Lib.hid fun w1 hb => awake w1 (ht.below hb (Nat.le_refl _))
  have HNs := Lib.hid (names w ht)
  obtain ⟨p, hp, hp32⟩ : ∃ p : Nat, i.tmod 32 = (p : Int) ∧ p < 32 := ⟨(i.tmod 32).toNat, by have := Int.tmod_nonneg 32 hi.1; omega, by have := Int.tmod_lt_of_pos i (show (0 : Int) < 32 by omega); omega⟩
  obtain ⟨q, hq, hq32⟩ : ∃ q : Nat, k.tmod 32 = (q : Int) ∧ q < 32 := ⟨(k.tmod 32).toNat, by have := Int.tmod_nonneg 32 hk.1; omega, by have := Int.tmod_lt_of_pos k (show (0 : Int) < 32 by omega); omega⟩
  obtain ⟨s1, s2, s3⟩ := nb_letters p hp32
  have HS3 := Lib.hid s3
  have e0 : ((nb p).toList == ([] : List UInt8)) = false := by
    rw [lit_beq (nb p) ⟨#[]⟩ [] rfl]
    exact decide_eq_false (fun h => by rw [h] at s1; exact absurd s1 (by decide))
  have e1 : ((nb p).toList == [99, 104, 97, 114, 97, 99, 116, 101, 114]) = false := by
    rw [lit_beq (nb p) cB [99, 104, 97, 114, 97, 99, 116, 101, 114] rfl]
    refine decide_eq_false fun h => ?_
    have h1 := nIdx_nb p hp32
    rw [h, nIdx_cB] at h1
    cases h1
  have HW : Hid (∀ j, j < 32 → ((wb j).toList == (nb p).toList) = false) := Lib.hid fun j hj => by
    rw [str_beq]
    exact decide_eq_false (nb_wb p j hp32 hj)
  have HEQ : Hid (((nb p).toList == (nb q).toList) = ((p : Int) == (q : Int))) := Lib.hid (by
    rw [str_beq]
    by_cases h : p = q
    · subst h; simp
    · have h1 : nb p ≠ nb q := nb_ne p q hp32 hq32 h
      have h2 : ((p : Int) == (q : Int)) = false := beq_eq_false_iff_ne.2 (by omega)
      simp [h1, h2])
  clear ht wi wk s3
  by_cases hpq : p = q
  · subst hpq
    clear HEQ
    have e2 : ((nb p).toList == (nb p).toList) = true := by simp
    generalize hs : nb p = s at *
    have HP := Lib.hid hs
    have HQ := Lib.hid hs
    clear hs
    go_enter Tryd.func9, Tryd.ntmps9
    go_wp2_with (go_at_call 22; refine HNs.out.mono ?_; rintro e w1 ⟨A, c, rfl, rd, hbel1⟩; obtain ⟨b, o, rfl, hcell⟩ := rd_name rd; have hcp := HP.out ▸ hcell p hp32; have hcq := HQ.out ▸ hcell p hp32; clear hcell)
    go_quiet (fail)
    go_wp2
    go_loop [8] (fun y => ∃ j : Nat, j ≤ s.size ∧ y = .int .i64 j) (fun y => s.size - (intOf y).toNat)
    case atStart => exact ⟨0, by omega, rfl⟩
    case round =>
      obtain ⟨j, hj, rfl⟩ := hrel
      by_cases hjl : j < s.size
      · obtain ⟨g1, g2⟩ := HS3.out j hjl
        go_wp2
        exact ⟨⟨j + 1, by omega, by go_num⟩, by simp [intOf]; omega⟩
      · go_wp2_with (go_at_call 24; refine (voc _).mono ?_; rintro e w' ⟨rfl, rfl⟩)
        have hvc : Hid (∀ j, j < 32 → ((w1.drewN nq).alloc (.cells vocab 9)).cell? ⟨w1.heap.size, j, none⟩ = some (.string (wb j))) := Lib.hid fun j hj => cellVoc (w1.drewN nq) j hj
        go_loop [10] (fun y => ∃ j : Nat, j ≤ 32 ∧ y = .int .i64 j) (fun y => 32 - (intOf y).toNat)
        case atStart => exact ⟨0, by omega, rfl⟩
        case round =>
          obtain ⟨j, hj, rfl⟩ := hrel
          by_cases hjl : j < 32
          · have hcj := hvc.out j hjl
            have hwj := HW.out j hjl
            generalize wb j = z at *
            go_wp2
            exact ⟨⟨j + 1, by omega, by go_num⟩, by simp [intOf]; omega⟩
          · have tb := (below_drewN (n := nq) hbel1).alloc (by simpa using hbel1.size) (.cells vocab 9)
            go_wp2_with (go_at_call 14; refine (HA.out _ tb).mono ?_; rintro e w5 ⟨rfl, hbel5⟩)
            go_ret
            exact ⟨rfl, tb.trans (hbel5.mono tb.size)⟩
  · have e3 : ((p : Int) == (q : Int)) = false := beq_eq_false_iff_ne.2 (by omega)
    have e2 := HEQ.out.trans e3
    clear HEQ
    generalize hs' : nb q = s' at *
    have HQ := Lib.hid hs'
    clear hs'
    generalize hs : nb p = s at *
    have HP := Lib.hid hs
    clear hs
    go_enter Tryd.func9, Tryd.ntmps9
    go_wp2_with (go_at_call 22; refine HNs.out.mono ?_; rintro e w1 ⟨A, c, rfl, rd, hbel1⟩; obtain ⟨b, o, rfl, hcell⟩ := rd_name rd; have hcp := HP.out ▸ hcell p hp32; have hcq := HQ.out ▸ hcell q hq32; clear hcell)
    go_quiet (fail)
    go_wp2
    go_loop [8] (fun y => ∃ j : Nat, j ≤ s.size ∧ y = .int .i64 j) (fun y => s.size - (intOf y).toNat)
    case atStart => exact ⟨0, by omega, rfl⟩
    case round =>
      obtain ⟨j, hj, rfl⟩ := hrel
      by_cases hjl : j < s.size
      · obtain ⟨g1, g2⟩ := HS3.out j hjl
        go_wp2
        exact ⟨⟨j + 1, by omega, by go_num⟩, by simp [intOf]; omega⟩
      · go_wp2_with (go_at_call 24; refine (voc _).mono ?_; rintro e w' ⟨rfl, rfl⟩)
        have hvc : Hid (∀ j, j < 32 → ((w1.drewN nq).alloc (.cells vocab 9)).cell? ⟨w1.heap.size, j, none⟩ = some (.string (wb j))) := Lib.hid fun j hj => cellVoc (w1.drewN nq) j hj
        go_loop [10] (fun y => ∃ j : Nat, j ≤ 32 ∧ y = .int .i64 j) (fun y => 32 - (intOf y).toNat)
        case atStart => exact ⟨0, by omega, rfl⟩
        case round =>
          obtain ⟨j, hj, rfl⟩ := hrel
          by_cases hjl : j < 32
          · have hcj := hvc.out j hjl
            have hwj := HW.out j hjl
            generalize wb j = z at *
            go_wp2
            exact ⟨⟨j + 1, by omega, by go_num⟩, by simp [intOf]; omega⟩
          · have tb := (below_drewN (n := nq) hbel1).alloc (by simpa using hbel1.size) (.cells vocab 9)
            go_wp2_with (go_at_call 14; refine (HA.out _ tb).mono ?_; rintro e w5 ⟨rfl, hbel5⟩)
            go_ret
            exact ⟨rfl, tb.trans (hbel5.mono tb.size)⟩
end Go.Proofs.YtoiballfjbdoiaaDoor
