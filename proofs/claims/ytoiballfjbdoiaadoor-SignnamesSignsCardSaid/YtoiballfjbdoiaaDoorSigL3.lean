/- SignnamesNames: the law's walk. -/
import Derived.Test.YtoiballfjbdoiaaDoorSig4
import Derived.Test.YtoiballfjbdoiaaDoorRsg2
namespace Go.Proofs.YtoiballfjbdoiaaDoor
open Go.RowKit
def nmB : List ByteArray := (List.range 32).map nb
theorem nm_sv : nmL = sv nmB := by rfl
theorem nmB_len : nmB.length = 32 := by rfl
theorem name_form (r : Int) : ∃ b : Bool, nameV r = .tuple #[.string (rnameV r), .bool b] ∧ ((rnameV r).toList == ([] : List UInt8)) = !b := by
  unfold nameV rnameV
  cases h : sIdxI r with
  | some i =>
    refine ⟨true, rfl, ?_⟩
    have hi := (sIdxI_some h).1
    have : ∀ i : Fin 32, ((nb i.val).toList == ([] : List UInt8)) = false := by decide +kernel
    exact this ⟨i, hi⟩
  | none => exact ⟨false, rfl, by decide +kernel⟩
theorem sign_form (s : ByteArray) (w : World) (hs : Sp w) : ∃ b : Bool, Calls Tryd.prog 19 #[.string s] w (Gives (.tuple #[.int .i32 (rsignV s), .bool b]) w) ∧ (rsignV s == 0) = !b := by
  unfold rsignV
  cases h : nIdx s with
  | some i =>
    obtain ⟨hi, rfl⟩ := nIdx_some h
    refine ⟨true, sign_some i hi w hs, ?_⟩
    have := sChar_bd hi
    show (((sChar i : Nat) : Int) == 0) = false
    exact beq_eq_false_iff_ne.2 (by omega)
  | none => exact ⟨false, sign_none s (nIdx_none h) w hs, rfl⟩
set_option maxHeartbeats 1000000 in
theorem law_SignnamesNames (w : World) (ht : Sp w) (r : Int) (_wr : (Lit.int .i32 r).wf = true) (s : ByteArray) (hz : s.size ≤ maxLen) : Calls Tryd.prog 8 #[.int .i32 r, .string s] w (Gives (.bool true) w) := by
  have HA : Hid (∀ w1, Below w.heap.size w w1 → Calls Tryd.prog 14 #[] w1 (Gives (.bool true) w1)) := Lib.hid fun w1 hb => awake w1 (ht.below hb (Nat.le_refl _))
  replace hz : s.size ≤ 9223372036854775807 := by unfold maxLen at hz; omega
  by_cases h60 : 60 < s.size
  · clear _wr
    go_enter Tryd.func8, Tryd.ntmps8
    go_wp2_with (go_at_call 14; refine (HA.out _ (Below.refl _ _)).mono ?_; rintro e w1 ⟨rfl, hbel1⟩)
    go_ret
    exact ⟨rfl, hbel1⟩
  · have HNm : Hid (∀ w1, Below w.heap.size w w1 → Calls Tryd.prog 18 #[.int .i32 r] w1 (Gives (nameV r) w1)) := Lib.hid fun w1 hb => name r w1 (ht.below hb (Nat.le_refl _))
    obtain ⟨b1, hn1, hn2⟩ := name_form r
    rw [hn1] at HNm
    have HSg : Hid (∃ b : Bool, (∀ w1, Below w.heap.size w w1 → Calls Tryd.prog 19 #[.string s] w1 (Gives (.tuple #[.int .i32 (rsignV s), .bool b]) w1)) ∧ (rsignV s == 0) = !b) := Lib.hid (by
      obtain ⟨b, _, h2⟩ := sign_form s w ht
      refine ⟨b, fun w1 hb => ?_, h2⟩
      obtain ⟨b', h1, h2'⟩ := sign_form s w1 (ht.below hb (Nat.le_refl _))
      have : b = b' := by rw [h2] at h2'; revert h2'; cases b <;> cases b' <;> simp
      rwa [this])
    obtain ⟨b2, HSg', hs2⟩ := HSg.out
    replace HSg' := Lib.hid HSg'
    have HNs : Hid (∀ w1, Below w.heap.size w w1 → Calls Tryd.prog 22 #[] w1 fun e w' => ∃ A c, e = .returned (.slice A 32 c) ∧ Rd w' w'.heap.size 1 A 32 nmL ∧ Below w1.heap.size w1 w') := Lib.hid fun w1 hb => names w1 (ht.below hb (Nat.le_refl _))
    have HRN : Hid (∀ w, Calls Tryd.prog 20 #[.int .i32 r] w (Gives (.string (rnameV r)) w)) := Lib.hid (rname r)
    have HRS : Hid (∀ w, Calls Tryd.prog 21 #[.string s] w (Gives (.int .i32 (rsignV s)) w)) := Lib.hid (rSign s)
    clear HSg hn1 ht _wr
    generalize rnameV r = X at *
    generalize rsignV s = C at *
    have hxx : (X.toList == X.toList) = true := by simp
    cases b1 <;> cases b2
    all_goals
      simp only [Bool.not_true, Bool.not_false] at hn2 hs2
      try (obtain rfl := beq_iff_eq.1 hs2)
      try (have hC : (C != 0) = true := by rw [bne, hs2]; rfl)
      try clear hs2
      go_enter Tryd.func8, Tryd.ntmps8
      go_wp2_with (first
        | (go_at_call 18; refine (HNm.out _ (Below.refl _ _)).mono ?_; rintro e w1 ⟨rfl, hbel1⟩)
        | (go_at_call 19; refine (HSg'.out _ hbel1).mono ?_; rintro e w2 ⟨rfl, hbel2⟩; have t2 := hbel1.trans (hbel2.mono hbel1.size))
        | (go_at_call 20; refine (HRN.out _).mono ?_; rintro e w3 ⟨rfl, hbel3⟩; have t3 := t2.trans (hbel3.mono t2.size))
        | (go_at_call 21; refine (HRS.out _).mono ?_; rintro e w4 ⟨rfl, hbel4⟩; have t4 := t3.trans (hbel4.mono t3.size))
        | (go_at_call 22; refine (HNs.out _ t4).mono ?_; rintro e w5 ⟨A5, c5, rfl, rd5, hbel5⟩; have t5 := t4.trans (hbel5.mono t4.size))
        | (go_at_call 23; refine (rnames _).mono ?_; rintro e w6 ⟨A6, c6, rfl, hown6, hbel6⟩; have t6 := t5.trans (hbel6.mono t5.size))
        | (go_at_call 11; refine (same_t nmB nmB rfl _ _ _ _ _ _ _ _ _ nmB_len nmB_len (by rw [← nm_sv]; exact rd5.below hbel6) (by rw [← nm_sv]; exact Rd.of_own hown6) (by first | omega | (simp only [List.length_cons, List.length_nil]; omega)) (by first | omega | (simp only [List.length_cons, List.length_nil]; omega))).mono ?_; rintro e w7 ⟨rfl, n7, rfl⟩)
        | (go_at_call 14; refine (HA.out _ (below_drewN t6)).mono ?_; rintro e w8 ⟨rfl, hbel8⟩))
      go_ret
      exact ⟨rfl, t6.trans ((below_of_drewN hbel8).mono t6.size)⟩
end Go.Proofs.YtoiballfjbdoiaaDoor
