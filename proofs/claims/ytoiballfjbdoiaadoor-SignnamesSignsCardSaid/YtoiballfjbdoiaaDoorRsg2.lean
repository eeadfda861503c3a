/- narratorref39: Name, Sign. -/
import Derived.Test.YtoiballfjbdoiaaDoorRsg1
namespace Go.Proofs.YtoiballfjbdoiaaDoor
open Go.RowKit
def cntS (x : Nat) : Nat := ((List.range 32).filter fun i => decide (sChar i < x)).length
theorem cntS_33 : cntS 33 = 0 := by decide +kernel
theorem cntS_step : ∀ x : Fin 127, cntS (x.val + 1) = cntS x.val + (if isS (x.val : Int) then 1 else 0) := by decide +kernel
theorem cntS_char : ∀ i : Fin 32, cntS (sChar i.val) = i.val := by decide +kernel
theorem cntS_le : ∀ x : Fin 127, cntS x.val ≤ 32 := by decide +kernel
def rnameV (r : Int) : ByteArray := match sIdxI r with
  | some i => nb i
  | none => ⟨#[]⟩
set_option maxHeartbeats 800000 in
theorem rname (r : Int) (w : World) : Calls Tryd.prog 20 #[.int .i32 r] w (Gives (.string (rnameV r)) w) := by
  have HSI : Hid (∀ x w, Calls Tryd.prog 28 #[.int .i32 x] w (Gives (.bool (isS x)) w)) := Lib.hid rsign
  unfold rnameV
  cases hi : sIdxI r with
  | none =>
    have H0 : Hid (∀ w, Calls Tryd.prog 28 #[.int .i32 r] w (Gives (.bool false) w)) := Lib.hid fun w => by
      have := rsign r w
      unfold isS at this
      rwa [hi] at this
    clear hi
    go_enter Tryd.func20, Tryd.ntmps20
    go_wp2_with (go_at_call 28; refine (H0.out _).mono ?_; rintro e w1 ⟨rfl, hbel1⟩)
    go_ret
    exact ⟨rfl, hbel1⟩
  | some i =>
    obtain ⟨hi32, rfl, hr1, hr2⟩ := sIdxI_some hi
    have H0 : Hid (∀ w, Calls Tryd.prog 28 #[.int .i32 (sChar i : Nat)] w (Gives (.bool true) w)) := Lib.hid fun w => by
      have := rsign (sChar i : Int) w
      unfold isS at this
      rwa [hi] at this
    have HC := Lib.hid (cntS_char ⟨i, hi32⟩)
    simp only at HC
    clear hi
    simp only
    generalize sChar i = r at *
    go_enter Tryd.func20, Tryd.ntmps20
    go_wp2_with (go_at_call 28; refine (H0.out _).mono ?_; rintro e w1 ⟨rfl, hbel1⟩)
    have hr127 : r < 127 := by omega
    have HST : Hid (∀ n, n < 127 → cntS (n + 1) = cntS n + (if isS (n : Int) then 1 else 0)) := Lib.hid fun n h => cntS_step ⟨n, h⟩
    have HLE : Hid (∀ n, n < 127 → cntS n ≤ 32) := Lib.hid fun n h => cntS_le ⟨n, h⟩
    have H33 := Lib.hid cntS_33
    have hnb : Hid (nmL[i]? = some (.string (nb i))) := Lib.hid (by simp [nmL, hi32])
    generalize cntS = cnt at *
    obtain ⟨wa, rfl⟩ : ∃ x : World, x = w1 := ⟨_, rfl⟩
    go_loopw [3, 4] (fun k x wr => ∃ n : Nat, 33 ≤ n ∧ n ≤ r ∧ k = .int .i64 (cnt n : Nat) ∧ x = .int .i32 (n : Int) ∧ Below wa.heap.size wa wr) (fun _ x _ => r - (intOf x).toNat)
    case atStart => exact ⟨33, by omega, by omega, by rw [H33.out]; rfl, rfl, Below.refl _ _⟩
    case round =>
      obtain ⟨n, hn1, hn2, rfl, rfl, hbel⟩ := hrel
      by_cases hlt : n < r
      · have hst := Lib.hid (HST.out n (by omega))
        have hle := HLE.out n (by omega)
        have HX := Lib.hid (HSI.out (n : Int))
        generalize isS (n : Int) = X at *
        cases X with
        | true =>
          have hst2 : Hid (cnt (n + 1) = cnt n + 1) := Lib.hid (by rw [hst.out]; rfl)
          go_wp2_with (go_at_call 28; refine (HX.out _).mono ?_; rintro e w2 ⟨rfl, hbel2⟩)
          exact ⟨⟨n + 1, by omega, by omega, by rw [hst2.out]; go_num, by go_num, hbel.trans (hbel2.mono hbel.size)⟩, by simp [intOf]; omega⟩
        | false =>
          have hst2 : Hid (cnt (n + 1) = cnt n) := Lib.hid (by rw [hst.out]; rfl)
          go_wp2_with (go_at_call 28; refine (HX.out _).mono ?_; rintro e w2 ⟨rfl, hbel2⟩)
          exact ⟨⟨n + 1, by omega, by omega, by rw [hst2.out], by go_num, hbel.trans (hbel2.mono hbel.size)⟩, by simp [intOf]; omega⟩
      · obtain rfl : n = r := by omega
        rw [HC.out]
        go_wp2_with (go_at_call 23; refine (rnames _).mono ?_; rintro e w2 ⟨A2, c2, rfl, hown2, hbel2⟩; obtain ⟨b2, o2, rfl, _, hc2⟩ := (Rd.of_own hown2).at_ hi32; rw [hnb.out] at hc2)
        go_ret
        exact ⟨rfl, hbel1.trans ((hbel.trans (hbel2.mono hbel.size)).mono hbel1.size)⟩
def rsignV (s : ByteArray) : Int := match nIdx s with
  | some i => sChar i
  | none => 0
theorem rname_ne {n : Int} {i : Nat} (hi : i < 32) (hn : n ≠ (sChar i : Int)) : rnameV n ≠ nb i := by
  unfold rnameV
  intro h
  cases hs : sIdxI n with
  | none =>
    rw [hs] at h
    have : ∀ i : Fin 32, nb i.val ≠ ⟨#[]⟩ := by decide +kernel
    exact this ⟨i, hi⟩ h.symm
  | some j =>
    rw [hs] at h
    obtain ⟨h1, h2, _⟩ := sIdxI_some hs
    by_cases hj : j = i
    · subst hj; exact hn h2
    · exact nb_ne j i h1 hi hj h
theorem rname_char {i : Nat} (hi : i < 32) : rnameV (sChar i : Int) = nb i := by
  have : ∀ i : Fin 32, rnameV (sChar i.val : Int) = nb i.val := by decide +kernel
  exact this ⟨i, hi⟩
theorem rname_no {n : Int} {s : ByteArray} (h0 : s ≠ ⟨#[]⟩) (h : nIdx s = none) : rnameV n ≠ s := by
  unfold rnameV
  intro e
  cases hs : sIdxI n with
  | none => rw [hs] at e; exact h0 e.symm
  | some j => rw [hs] at e; exact nIdx_none h j (sIdxI_some hs).1 e
theorem sChar_bd {i : Nat} (h : i < 32) : 33 ≤ sChar i ∧ sChar i ≤ 126 := by
  have : ∀ i : Fin 32, 33 ≤ sChar i.val ∧ sChar i.val ≤ 126 := by decide +kernel
  exact this ⟨i, h⟩
set_option maxHeartbeats 800000 in
theorem rSign (s : ByteArray) (w : World) : Calls Tryd.prog 21 #[.string s] w (Gives (.int .i32 (rsignV s)) w) := by
  have HN : Hid (∀ x w, Calls Tryd.prog 20 #[.int .i32 x] w (Gives (.string (rnameV x)) w)) := Lib.hid rname
  unfold rsignV
  have tc := lit_beq s ⟨#[]⟩ [] rfl
  cases hi : nIdx s with
  | some i =>
    obtain ⟨hi32, rfl⟩ := nIdx_some hi
    simp only
    have hne : nb i ≠ ⟨#[]⟩ := by
      have : ∀ i : Fin 32, nb i.val ≠ ⟨#[]⟩ := by decide +kernel
      exact this ⟨i, hi32⟩
    have dc : ((nb i).toList == ([] : List UInt8)) = false := by rw [tc]; simp [hne]
    have HQ : Hid (∀ n : Int, ((rnameV n).toList == (nb i).toList) = decide (n = (sChar i : Int))) := Lib.hid fun n => by
      rw [str_beq]
      by_cases h : n = (sChar i : Int)
      · rw [h, rname_char hi32]; simp
      · rw [decide_eq_false (rname_ne hi32 h), decide_eq_false h]
    obtain ⟨hb1, hb2⟩ := sChar_bd hi32
    clear tc hne hi
    generalize sChar i = m at *
    generalize nb i = s at *
    go_enter Tryd.func21, Tryd.ntmps21
    go_wp2
    obtain ⟨wa, rfl⟩ : ∃ x : World, x = w := ⟨_, rfl⟩
    go_loopw [3] (fun x wr => ∃ n : Nat, 33 ≤ n ∧ n ≤ m ∧ x = .int .i32 (n : Int) ∧ Below wa.heap.size wa wr) (fun x _ => 127 - (intOf x).toNat)
    case atStart => exact ⟨33, by omega, by omega, rfl, Below.refl _ _⟩
    case round =>
      obtain ⟨n, hn1, hn2, rfl, hbel⟩ := hrel
      have hq := HQ.out (n : Int)
      have HX := Lib.hid (HN.out (n : Int))
      generalize rnameV (n : Int) = X at *
      by_cases hlt : n < m
      · have hq' : (X.toList == s.toList) = false := by rw [hq]; exact decide_eq_false (by omega)
        clear hq
        have h127 : (n : Int) < 127 := by omega
        go_wp2_with (go_at_call 20; refine (HX.out _).mono ?_; rintro e w2 ⟨rfl, hbel2⟩)
        exact ⟨⟨n + 1, by omega, by omega, by go_num, hbel.trans (hbel2.mono hbel.size)⟩, by simp [intOf]; omega⟩
      · obtain rfl : n = m := by omega
        have hq' : (X.toList == s.toList) = true := by rw [hq]; exact decide_eq_true rfl
        clear hq
        have h127 : (n : Int) < 127 := by omega
        go_wp2_with (go_at_call 20; refine (HX.out _).mono ?_; rintro e w2 ⟨rfl, hbel2⟩)
        go_ret
        exact ⟨rfl, hbel.trans (hbel2.mono hbel.size)⟩
  | none =>
    simp only
    by_cases h0 : s = ⟨#[]⟩
    · have dc : (s.toList == ([] : List UInt8)) = true := by rw [tc]; simp [h0]
      clear tc h0 hi
      go_enter Tryd.func21, Tryd.ntmps21
      go_wp2
      obtain ⟨wa, rfl⟩ : ∃ x : World, x = w := ⟨_, rfl⟩
      go_loopw [3] (fun x wr => ∃ n : Nat, 33 ≤ n ∧ n ≤ 127 ∧ x = .int .i32 (n : Int) ∧ Below wa.heap.size wa wr) (fun x _ => 127 - (intOf x).toNat)
      case atStart => exact ⟨33, by omega, by omega, rfl, Below.refl _ _⟩
      case round =>
        obtain ⟨n, hn1, hn2, rfl, hbel⟩ := hrel
        by_cases hlt : n < 127
        · have h127 : (n : Int) < 127 := by omega
          go_wp2
          exact ⟨⟨n + 1, by omega, by omega, by go_num, hbel⟩, by simp [intOf]; omega⟩
        · obtain rfl : n = 127 := by omega
          go_wp2
          go_ret
          exact ⟨rfl, hbel⟩
    · have dc : (s.toList == ([] : List UInt8)) = false := by rw [tc]; simp [h0]
      have HQ : Hid (∀ n : Int, ((rnameV n).toList == s.toList) = false) := Lib.hid fun n => by
        rw [str_beq]
        exact decide_eq_false (rname_no h0 hi)
      clear tc h0 hi
      go_enter Tryd.func21, Tryd.ntmps21
      go_wp2
      obtain ⟨wa, rfl⟩ : ∃ x : World, x = w := ⟨_, rfl⟩
      go_loopw [3] (fun x wr => ∃ n : Nat, 33 ≤ n ∧ n ≤ 127 ∧ x = .int .i32 (n : Int) ∧ Below wa.heap.size wa wr) (fun x _ => 127 - (intOf x).toNat)
      case atStart => exact ⟨33, by omega, by omega, rfl, Below.refl _ _⟩
      case round =>
        obtain ⟨n, hn1, hn2, rfl, hbel⟩ := hrel
        by_cases hlt : n < 127
        · have h127 : (n : Int) < 127 := by omega
          have hq := HQ.out (n : Int)
          have HX := Lib.hid (HN.out (n : Int))
          generalize rnameV (n : Int) = X at *
          go_wp2_with (go_at_call 20; refine (HX.out _).mono ?_; rintro e w2 ⟨rfl, hbel2⟩)
          exact ⟨⟨n + 1, by omega, by omega, by go_num, hbel.trans (hbel2.mono hbel.size)⟩, by simp [intOf]; omega⟩
        · obtain rfl : n = 127 := by omega
          go_wp2
          go_ret
          exact ⟨rfl, hbel⟩
end Go.Proofs.YtoiballfjbdoiaaDoor
