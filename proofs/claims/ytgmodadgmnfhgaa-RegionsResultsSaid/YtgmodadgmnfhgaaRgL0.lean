/- The laws of chapter 28: awake. -/
import Derived.Test.YtgmodadgmnfhgaaRgC
import Derived.Test.YtgmodadgmnfhgaaRg9
namespace Go.Proofs.Ytgmodadgmnfhgaa
open Go.RowKit
def rA : Reg := ⟨1, 0, 0, 0, 0, 10, 40, ⟨#[]⟩⟩
def rB : Reg := ⟨2, 0, 0, 1, 2, 6, 21, ⟨#[]⟩⟩
def rC : Reg := ⟨5, 0, 0, 2, 3, 4, 10, ⟨#[]⟩⟩
def exN : List Reg := [setPar rA (-1), setPar rB 0, setPar rC 1]
theorem ex_nest : nestL [rC, rB, rA] = exN := by decide +kernel
theorem ex_at1 : atL exN 2 5 = 2 := by decide +kernel
theorem ex_at2 : atL exN 0 0 = 0 := by decide +kernel
theorem ex_check : checkL exN = 0 := by decide +kernel
theorem ex_proper : ∀ i, i < 3 → Proper exN[i]! := by
  intro i hi
  rw [← properE_iff]
  have : ∀ i : Fin 3, properE exN[i.val]! = 0 := by decide +kernel
  exact this ⟨i, hi⟩
theorem undrewN {w w' : World} {n : Nat} (h : Below (w.drewN n).heap.size (w.drewN n) w') : Below w.heap.size w w' := ⟨h.os, h.tape, h.output, h.size, h.block⟩
set_option maxHeartbeats 2000000 in
theorem awake (w : World) : Calls Try.prog 9 #[] w (Gives (.bool true) w) := by
  have HN : Hid (∀ A c w, Rd w w.heap.size 8 A 3 (encL [rC, rB, rA]) → Calls Try.prog 11 #[.slice A 3 c] w (GivesOwn 31 8 id w 3 (encL exN))) := Lib.hid fun A c w h => by
    have := nest_ [rC, rB, rA] A 3 c w (by omega) h
    rwa [ex_nest] at this
  have HA1 : Hid (∀ A c w, 3 ≤ c → c ≤ maxLen → Rd w w.heap.size 8 A 3 (encL exN) → Calls Try.prog 15 #[.slice A 3 c, .int .i64 2, .int .i64 5] w (Gives (.int .i64 2) w)) := Lib.hid fun A c w h1 h2 h3 => by
    have := at_ exN A 3 c w rfl ex_proper 2 5 h1 h2 h3
    rwa [ex_at1] at this
  have HA2 : Hid (∀ A c w, 3 ≤ c → c ≤ maxLen → Rd w w.heap.size 8 A 3 (encL exN) → Calls Try.prog 15 #[.slice A 3 c, .int .i64 0, .int .i64 0] w (Gives (.int .i64 0) w)) := Lib.hid fun A c w h1 h2 h3 => by
    have := at_ exN A 3 c w rfl ex_proper 0 0 h1 h2 h3
    rwa [ex_at2] at this
  have HCK : Hid (∀ A c w, 3 ≤ c → c ≤ maxLen → Rd w w.heap.size 8 A 3 (encL exN) → Calls Try.prog 13 #[.slice A 3 c] w (Gives (.int .i64 0) w)) := Lib.hid fun A c w h1 h2 h3 => by
    have := check exN A 3 c w h1 h2 h3
    rwa [ex_check] at this
  go_enter Try.func9, Try.ntmps9
  go_wp2_with (first
    | (go_at_call 11; refine Calls.mono (HN.out _ _ _ (Rd.more (rd_built (xs := encL [rC, rB, rA]) (by simp) rfl) (by simp))) ?_; rintro e w1 ⟨A1, c1, rfl, hown1, hbel1⟩; obtain ⟨g, rfl, hg⟩ := own_at hown1 (by omega); obtain ⟨p1, p2⟩ := own_cap hown1; have q0 : w1.cell? ⟨g, 2, none⟩ = some (.int .i64 (-1)) := hown1.cellAt 2 (by omega); have q1 : w1.cell? ⟨g, 10, none⟩ = some (.int .i64 0) := hown1.cellAt 10 (by omega); have q2 : w1.cell? ⟨g, 18, none⟩ = some (.int .i64 1) := hown1.cellAt 18 (by omega); have q3 : w1.cell? ⟨g, 16, none⟩ = some (.int .i64 5) := hown1.cellAt 16 (by omega); have t1 : Below w.heap.size w w1 := Below.trans (by (repeat (first | exact Below.refl _ _ | assumption | refine Below.drew ?_ | refine Below.alloc ?_ (by first | (simp; done) | (simp; omega) | omega) _ | refine Below.setCell ?_ (by first | (simp; done) | (simp; omega) | omega) _))) (Below.mono hbel1 (by simp; omega)); have r1 := Rd.of_own hown1)
    | (go_at_call 15; (fail_if_success have := hbel2); refine (HA1.out _ _ _ p1 p2 r1).mono ?_; rintro e w2 ⟨rfl, hbel2⟩; have t2 := t1.trans (hbel2.mono t1.size); have r2 := (r1.below hbel2).more hbel2.size)
    | (go_at_call 15; refine (HA2.out _ _ _ p1 p2 r2).mono ?_; rintro e w3 ⟨rfl, hbel3⟩; have t3 := t2.trans (hbel3.mono t2.size); have r3 := (r2.below hbel3).more hbel3.size)
    | (go_at_call 13; refine (HCK.out _ _ _ p1 p2 r3).mono ?_; rintro e w4 ⟨rfl, hbel4⟩; have t4 := t3.trans (hbel4.mono t3.size)))
  go_ret
  exact ⟨rfl, t4⟩
end Go.Proofs.Ytgmodadgmnfhgaa
