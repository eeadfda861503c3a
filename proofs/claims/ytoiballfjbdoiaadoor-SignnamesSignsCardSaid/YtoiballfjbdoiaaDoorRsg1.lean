/- narratorref39: sign, character, Names. -/
import Derived.Test.YtoiballfjbdoiaaDoorSigP
import Derived.Test.YtoiballfjbdoiaaDoorRef4
namespace Go.Proofs.YtoiballfjbdoiaaDoor
open Go.RowKit
def isS (r : Int) : Bool := (sIdxI r).isSome
theorem isS_tab : ∀ x : Fin 127, isS (x.val : Int) = (decide (33 ≤ x.val) && !(decide (48 ≤ x.val) && decide (x.val ≤ 57)) && !(decide (65 ≤ x.val) && decide (x.val ≤ 90)) && !(decide (97 ≤ x.val) && decide (x.val ≤ 122))) := by decide +kernel
theorem isS_eq (r : Int) : isS r = (decide (33 ≤ r) && decide (r ≤ 126) && !(decide (48 ≤ r) && decide (r ≤ 57)) && !(decide (65 ≤ r) && decide (r ≤ 90)) && !(decide (97 ≤ r) && decide (r ≤ 122))) := by
  by_cases h : 0 ≤ r ∧ r ≤ 126
  · obtain ⟨h1, h2⟩ := h
    obtain ⟨n, rfl⟩ := Int.eq_ofNat_of_zero_le h1
    have := isS_tab ⟨n, by omega⟩
    simp only at this
    rw [this, Bool.eq_iff_iff]
    simp
    omega
  · have h1 : isS r = false := by
      unfold isS
      cases hs : sIdxI r with
      | none => rfl
      | some i =>
        obtain ⟨_, _, a, b⟩ := sIdxI_some hs
        exact absurd ⟨by omega, b⟩ h
    rw [h1, Bool.eq_iff_iff]
    simp
    omega
set_option maxHeartbeats 800000 in
theorem rsign (r : Int) (w : World) : Calls Tryd.prog 28 #[.int .i32 r] w (Gives (.bool (isS r)) w) := by
  have HI := Lib.hid (isS_eq r)
  generalize isS r = R at *
  rcases Int.lt_or_le r 33 with h1 | h1
  · obtain rfl : R = false := by rw [HI.out, Bool.eq_false_iff]; simp; omega
    go_enter Tryd.func28, Tryd.ntmps28
    go_wp2
    go_ret
    exact ⟨rfl, Below.refl _ _⟩
  rcases Int.lt_or_le 126 r with h2 | h2
  · obtain rfl : R = false := by rw [HI.out, Bool.eq_false_iff]; simp; omega
    go_enter Tryd.func28, Tryd.ntmps28
    go_wp2
    go_ret
    exact ⟨rfl, Below.refl _ _⟩
  rcases Int.lt_or_le r 48 with h3 | h3
  · obtain rfl : R = true := by rw [HI.out]; simp; omega
    go_enter Tryd.func28, Tryd.ntmps28
    go_wp2
    go_ret
    exact ⟨rfl, Below.refl _ _⟩
  rcases Int.lt_or_le r 58 with h3 | h3
  · obtain rfl : R = false := by rw [HI.out, Bool.eq_false_iff]; simp; omega
    go_enter Tryd.func28, Tryd.ntmps28
    go_wp2
    go_ret
    exact ⟨rfl, Below.refl _ _⟩
  rcases Int.lt_or_le r 65 with h3 | h3
  · obtain rfl : R = true := by rw [HI.out]; simp; omega
    have e57 : ¬ r ≤ 57 := by omega
    go_enter Tryd.func28, Tryd.ntmps28
    go_wp2
    go_ret
    exact ⟨rfl, Below.refl _ _⟩
  rcases Int.lt_or_le r 91 with h3 | h3
  · obtain rfl : R = false := by rw [HI.out, Bool.eq_false_iff]; simp; omega
    have e57 : ¬ r ≤ 57 := by omega
    go_enter Tryd.func28, Tryd.ntmps28
    go_wp2
    go_ret
    exact ⟨rfl, Below.refl _ _⟩
  rcases Int.lt_or_le r 97 with h3 | h3
  · obtain rfl : R = true := by rw [HI.out]; simp; omega
    have e57 : ¬ r ≤ 57 := by omega
    have e90 : ¬ r ≤ 90 := by omega
    go_enter Tryd.func28, Tryd.ntmps28
    go_wp2
    go_ret
    exact ⟨rfl, Below.refl _ _⟩
  rcases Int.lt_or_le r 123 with h3 | h3
  · obtain rfl : R = false := by rw [HI.out, Bool.eq_false_iff]; simp; omega
    have e57 : ¬ r ≤ 57 := by omega
    have e90 : ¬ r ≤ 90 := by omega
    have g122 : r ≤ 122 := by omega
    go_enter Tryd.func28, Tryd.ntmps28
    go_wp2
    go_ret
    exact ⟨rfl, Below.refl _ _⟩
  obtain rfl : R = true := by rw [HI.out]; simp; omega
  have e57 : ¬ r ≤ 57 := by omega
  have e90 : ¬ r ≤ 90 := by omega
  have e122 : ¬ r ≤ 122 := by omega
  go_enter Tryd.func28, Tryd.ntmps28
  go_wp2
  go_ret
  exact ⟨rfl, Below.refl _ _⟩
def rchar (r : Int) : Bool := isCharB r
set_option maxHeartbeats 800000 in
theorem rcharacter (r : Int) (w : World) : Calls Tryd.prog 27 #[.int .i32 r] w (Gives (.bool (isCharB r)) w) := by
  have HI : Hid (isCharB r = ((decide (0 ≤ r) && decide (r ≤ 55295)) || (decide (57344 ≤ r) && decide (r ≤ 1114111)))) := Lib.hid rfl
  generalize isCharB r = R at *
  rcases Int.lt_or_le r 0 with h1 | h1
  · obtain rfl : R = false := by rw [HI.out, Bool.eq_false_iff]; simp; omega
    go_enter Tryd.func27, Tryd.ntmps27
    go_wp2
    go_ret
    exact ⟨rfl, Below.refl _ _⟩
  rcases Int.lt_or_le 1114111 r with h2 | h2
  · obtain rfl : R = false := by rw [HI.out, Bool.eq_false_iff]; simp; omega
    go_enter Tryd.func27, Tryd.ntmps27
    go_wp2
    go_ret
    exact ⟨rfl, Below.refl _ _⟩
  rcases Int.lt_or_le r 55296 with h3 | h3
  · obtain rfl : R = true := by rw [HI.out]; simp; omega
    go_enter Tryd.func27, Tryd.ntmps27
    go_wp2
    go_ret
    exact ⟨rfl, Below.refl _ _⟩
  rcases Int.lt_or_le 57343 r with h4 | h4
  · obtain rfl : R = true := by rw [HI.out]; simp; omega
    go_enter Tryd.func27, Tryd.ntmps27
    go_wp2
    go_ret
    exact ⟨rfl, Below.refl _ _⟩
  · obtain rfl : R = false := by rw [HI.out, Bool.eq_false_iff]; simp; omega
    have e1 : ¬ r < 55296 := by omega
    have e2 : ¬ 57343 < r := by omega
    go_enter Tryd.func27, Tryd.ntmps27
    go_wp2
    go_ret
    exact ⟨rfl, Below.refl _ _⟩
theorem nm_data : nmL = [.string (nb 0), .string (nb 1), .string (nb 2), .string (nb 3), .string (nb 4), .string (nb 5), .string (nb 6), .string (nb 7), .string (nb 8), .string (nb 9), .string (nb 10), .string (nb 11), .string (nb 12), .string (nb 13), .string (nb 14), .string (nb 15), .string (nb 16), .string (nb 17), .string (nb 18), .string (nb 19), .string (nb 20), .string (nb 21), .string (nb 22), .string (nb 23), .string (nb 24), .string (nb 25), .string (nb 26), .string (nb 27), .string (nb 28), .string (nb 29), .string (nb 30), .string (nb 31)] := by rfl
set_option maxHeartbeats 800000 in
theorem rnames (w : World) : Calls Tryd.prog 23 #[] w (GivesOwn 9 1 id w 32 nmL) := by
  go_enter Tryd.func23, Tryd.ntmps23
  go_wp2
  go_ret
  exact ⟨_, _, rfl, own_built (xs := nmL) rfl rfl (Nat.le_refl _) (by omega), (Below.refl _ _).alloc (Nat.le_refl _) _⟩
end Go.Proofs.YtoiballfjbdoiaaDoor
