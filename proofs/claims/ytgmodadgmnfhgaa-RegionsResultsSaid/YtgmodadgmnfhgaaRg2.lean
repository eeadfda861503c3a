/- regions: the closure that finds the first number that is not 0. -/
import Derived.Test.YtgmodadgmnfhgaaRg1
namespace Go.Proofs.Ytgmodadgmnfhgaa
open Go.RowKit
set_option maxHeartbeats 800000 in
theorem first_ (l : List Int) (A : Option Addr) (n c B : Nat) (w : World) (hn : l.length = n) (hb : n ≤ 1000) (rd : Rd w B 1 A n (ivs .i64 l)) :
    Calls Try.prog 35 #[.slice A n c] w fun e w' => e = .returned (.int .i64 (firstL l)) ∧ w' = w := by
  have HF : Hid (firstL l = firstL (l.drop 0)) := Lib.hid rfl
  have HN := Lib.hid hn
  clear hn
  generalize hR : firstL l = R at HF ⊢
  clear hR
  go_enter Try.func35, Try.ntmps35
  go_wp2
  go_loop [7] (fun x => ∃ k : Nat, k ≤ n ∧ x = .int .i64 k ∧ Hid (R = firstL (l.drop k))) (fun x => n - (intOf x).toNat)
  case atStart => exact ⟨0, Nat.zero_le _, rfl, HF⟩
  case round =>
    obtain ⟨k, hk, rfl, HR⟩ := hrel
    by_cases hlt : k < n
    · have hkl : k < l.length := by have := HN.out; omega
      obtain ⟨b, o, rfl, _, hc⟩ := rd.at_ hlt
      have hv : (ivs .i64 l)[k]? = some (.int .i64 l[k]) := by simp [ivs, hkl]
      rw [hv] at hc
      have HD : Hid (l.drop k = l[k] :: l.drop (k + 1)) := Lib.hid (List.drop_eq_getElem_cons hkl)
      clear hv
      generalize l[k] = x at *
      by_cases hx : x = 0
      · have HR2 : Hid (R = firstL (l.drop (k + 1))) := Lib.hid (by rw [HR.out, HD.out, firstL, if_pos hx])
        subst hx
        go_wp2
        exact ⟨⟨k + 1, by omega, by go_num, HR2⟩, by simp [intOf]; omega⟩
      · have HR2 : Hid (R = x) := Lib.hid (by rw [HR.out, HD.out, firstL, if_neg hx])
        have hxb : (x != 0) = true := by simp [hx]
        go_wp2
        go_ret
        exact ⟨by rw [HR2.out]; rfl, rfl⟩
    · obtain rfl : k = n := by omega
      have HR2 : Hid (R = 0) := Lib.hid (by
        rw [HR.out, List.drop_of_length_le (by have := HN.out; omega)]
        rfl)
      go_wp2
      go_ret
      exact ⟨by rw [HR2.out]; rfl, rfl⟩
end Go.Proofs.Ytgmodadgmnfhgaa
