/- Great, Same, Children, same. -/
import Derived.Test.YtgmodadgmnfhgaaRg3
import Derived.Test.YtgmodadgmnfhgaaRegEq
namespace Go.Proofs.Ytgmodadgmnfhgaa
open Go.RowKit
theorem rd_len {w : World} {B n : Nat} {A : Option Addr} {l : List Reg} (rd : Rd w B 8 A n (encL l)) : l.length = n := by
  have := rd.1
  rw [encL_len] at this
  omega
def grB (l : List Reg) : Bool := decide (60 < l.length) || l.any fun r => decide (200 < r.label.size)
def grI (l : List Reg) : Int := if grB l then 1 else 0
theorem grI_t {l : List Reg} (h : grB l = true) : grI l = 1 := by rw [grI, if_pos h]
theorem grI_f {l : List Reg} (h : grB l = false) : grI l = 0 := by rw [grI, h]; rfl
theorem grB_at {l : List Reg} {k : Nat} (h : k < l.length) (hk : 200 < l[k]!.label.size) : grB l = true := by
  unfold grB
  rw [Bool.or_eq_true, List.any_eq_true]
  rw [getElem!_pos l k h] at hk
  exact .inr ⟨l[k], List.getElem_mem h, decide_eq_true hk⟩
theorem grB_no {l : List Reg} (h : l.length ≤ 60) (hk : ∀ i, i < l.length → l[i]!.label.size ≤ 200) : grB l = false := by
  unfold grB
  rw [Bool.or_eq_false_iff]
  refine ⟨decide_eq_false (by omega), ?_⟩
  rw [List.any_eq_false]
  intro r hr
  obtain ⟨i, hi, rfl⟩ := List.getElem_of_mem hr
  have := hk i hi
  rw [getElem!_pos l i hi] at this
  simp
  omega
set_option maxHeartbeats 800000 in
theorem rgreat (l : List Reg) (A : Option Addr) (n c B : Nat) (w : World) (hm : n ≤ maxLen) (rd : Rd w B 8 A n (encL l)) :
    Calls Try.prog 8 #[.slice A n c] w fun e w' => e = .returned (.int .i64 (grI l)) ∧ w' = w := by
  have HN := Lib.hid (rd_len rd)
  have hmm : n ≤ 9223372036854775807 := by unfold maxLen at hm; omega
  by_cases h60 : 60 < n
  · have HG : Hid (grI l = 1) := Lib.hid (grI_t (by unfold grB; rw [HN.out]; simp [h60]))
    generalize grI l = R at *
    have hi60 : (60 : Int) < (n : Int) := by omega
    clear hm
    go_enter Try.func8, Try.ntmps8
    go_wp2
    go_ret
    exact ⟨by rw [HG.out]; rfl, rfl⟩
  · have hi60 : (n : Int) ≤ 60 := by omega
    have HGT : Hid (∀ k, k < n → 200 < l[k]!.label.size → grI l = 1) := Lib.hid fun k h1 h2 => grI_t (grB_at (by have := HN.out; omega) h2)
    have HGF : Hid ((∀ i, i < n → l[i]!.label.size ≤ 200) → grI l = 0) := Lib.hid fun h => grI_f (grB_no (by have := HN.out; omega) (fun i hi => h i (by have := HN.out; omega)))
    generalize grI l = R at *
    clear hm
    go_enter Try.func8, Try.ntmps8
    go_wp2
    go_loop [3] (fun x => ∃ k : Nat, k ≤ n ∧ x = .int .i64 k ∧ Hid (∀ i, i < k → l[i]!.label.size ≤ 200)) (fun x => n - (intOf x).toNat)
    case atStart => exact ⟨0, Nat.zero_le _, rfl, Lib.hid fun i h => absurd h (Nat.not_lt_zero i)⟩
    case round =>
      obtain ⟨k, hk, rfl, HS⟩ := hrel
      by_cases hlt : k < n
      · obtain ⟨b, o, rfl, _, h0, h1, h2, h3, h4, h5, h6, h7⟩ := rd_reg rd hlt
        clear h0 h1 h2 h3 h4 h5 h6
        by_cases hz : 200 < l[k]!.label.size
        · have HG : Hid (R = 1) := Lib.hid (HGT.out k hlt hz)
          have hzi : (200 : Int) < (l[k]!.label.size : Int) := by omega
          generalize l[k]! = r at *
          go_wp2
          go_ret
          exact ⟨by rw [HG.out]; rfl, rfl⟩
        · have HS2 : Hid (∀ i, i < k + 1 → l[i]!.label.size ≤ 200) := Lib.hid fun i hi => by
            rcases Nat.lt_or_ge i k with h | h
            · exact HS.out i h
            · obtain rfl : i = k := by omega
              omega
          have hzi : (l[k]!.label.size : Int) ≤ 200 := by omega
          generalize l[k]! = r at *
          go_wp2
          exact ⟨⟨k + 1, by omega, by go_num, HS2⟩, by simp [intOf]; omega⟩
      · obtain rfl : k = n := by omega
        have HG : Hid (R = 0) := Lib.hid (HGF.out HS.out)
        go_wp2
        go_ret
        exact ⟨by rw [HG.out]; rfl, rfl⟩
set_option maxHeartbeats 800000 in
theorem rsame (l m : List Reg) (A A' : Option Addr) (n n' c c' B : Nat) (w : World) (hn : n ≤ 100000) (rd : Rd w B 8 A n (encL l)) (rd' : Rd w B 8 A' n' (encL m)) :
    Calls Try.prog 10 #[.slice A n c, .slice A' n' c'] w (Quiet (.bool (decide (l = m))) w) := by
  have HN := Lib.hid (rd_len rd)
  have HN' := Lib.hid (rd_len rd')
  by_cases hnn : n = n'
  · subst hnn
    go_enter Try.func10, Try.ntmps10
    go_wp2
    go_loopw [5] (fun x wr => ∃ k j : Nat, k ≤ n ∧ x = .int .i64 k ∧ wr = w.drewN j ∧ Hid (∀ i, i < k → l[i]! = m[i]!)) (fun x _ => n - (intOf x).toNat)
    case atStart => exact ⟨0, 0, Nat.zero_le _, rfl, rfl, Lib.hid fun i h => absurd h (Nat.not_lt_zero i)⟩
    case round =>
      obtain ⟨k, j, hk, rfl, rfl, HE⟩ := hrel
      by_cases hlt : k < n
      · obtain ⟨b, o, rfl, _, g0, g1, g2, g3, g4, g5, g6, g7⟩ := rd_reg rd hlt
        obtain ⟨b', o', rfl, _, g0', g1', g2', g3', g4', g5', g6', g7'⟩ := rd_reg rd' hlt
        have hq := neq_reg l[k]! m[k]!
        have hg := guard_reg l[k]! m[k]! .neq
        by_cases he : l[k]! = m[k]!
        · have HE2 : Hid (∀ i, i < k + 1 → l[i]! = m[i]!) := Lib.hid fun i hi => by
            rcases Nat.lt_or_ge i k with h | h
            · exact HE.out i h
            · obtain rfl : i = k := by omega
              exact he
          rw [decide_eq_true he] at hq
          clear he
          generalize l[k]! = r at *
          generalize m[k]! = r' at *
          go_wp2
          go_quiet (fail)
          go_wp2
          exact ⟨⟨k + 1, _, by omega, by go_num, rfl, HE2⟩, by simp [intOf]; omega⟩
        · rw [decide_eq_false he] at hq
          have HD : Hid (decide (l = m) = false) := Lib.hid (decide_eq_false fun e => he (by rw [e]))
          clear he
          generalize decide (l = m) = R at *
          generalize l[k]! = r at *
          generalize m[k]! = r' at *
          go_wp2
          go_quiet (fail)
          go_wp2
          go_ret
          exact ⟨by rw [HD.out]; rfl, _, World.drewN_drewN _ _ _⟩
      · obtain rfl : k = n := by omega
        have HD : Hid (decide (l = m) = true) := Lib.hid (decide_eq_true (List.ext_getElem (by rw [HN.out, HN'.out]) fun i h1 h2 => by
          have := HE.out i (by have := HN.out; omega)
          rwa [getElem!_pos l i h1, getElem!_pos m i h2] at this))
        generalize decide (l = m) = R at *
        go_wp2
        go_ret
        exact ⟨by rw [HD.out]; rfl, _, rfl⟩
  · have HD : Hid (decide (l = m) = false) := Lib.hid (decide_eq_false fun e => hnn (by rw [← HN.out, ← HN'.out, e]))
    have hni : ((n : Int) != (n' : Int)) = true := by simp; omega
    generalize decide (l = m) = R at *
    go_enter Try.func10, Try.ntmps10
    go_wp2
    go_ret
    exact ⟨by rw [HD.out]; rfl, 0, rfl⟩
end Go.Proofs.Ytgmodadgmnfhgaa
