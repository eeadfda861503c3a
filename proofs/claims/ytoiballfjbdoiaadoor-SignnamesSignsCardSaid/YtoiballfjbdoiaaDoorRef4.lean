/- The reference of layer 38: Prefix. -/
import Derived.Test.YtoiballfjbdoiaaDoorRef3
namespace Go.Proofs.YtoiballfjbdoiaaDoor
open Go.RowKit
set_option maxHeartbeats 800000 in
theorem rprefix (l : List ByteArray) (A : Option Addr) (n c : Nat) (w : World) (hn : l.length = n) (hc : n ≤ c) (hbig : c ≤ maxLen) (hl : Rd w w.heap.size 1 A n (sv l)) (ht : Tb w) :
    Calls Tryd.prog 32 #[.slice A n c] w (Gives (preTriple (prefixL l)) w) := by
  have hcm : c ≤ 9223372036854775807 := by unfold maxLen at hbig; omega
  have HN := Lib.hid hn
  have HT := Lib.hid ht
  have HP : Hid (prefixL l = prefN l n) := Lib.hid (by
    rw [← refPref_eq, hn]
    have h1 : ∀ k, refPrefN l k = prefN l k := by
      intro k
      induction k with
      | zero => rfl
      | succ k ih =>
        rw [refPrefN, prefN, refNumber_eq, ih]
        cases numberL (l.take (k + 1)) <;> rfl
    exact h1 n)
  clear hn ht hbig
  generalize prefixL l = R at *
  go_enter Tryd.func32, Tryd.ntmps32
  go_wp2
  go_loopw [5] (fun i wr => ∃ k : Nat, k ≤ n ∧ i = .int .i64 k ∧ Below w.heap.size w wr ∧ Hid (R = prefN l k)) (fun i _ => (intOf i).toNat)
  case atStart => exact ⟨n, Nat.le_refl _, rfl, Below.refl _ _, HP⟩
  case round =>
    obtain ⟨k, hk, rfl, hbel, HL⟩ := hrel
    by_cases hlt : 0 < k
    · obtain ⟨b, o, rfl, hbB, _⟩ := hl.at_ (show k - 1 < n by omega)
      have hT : Rd wr wr.heap.size 1 (some ⟨b, o, none⟩) k (sv (l.take k)) := by
        have := ((hl.below hbel).more hbel.size).take hk
        rwa [Nat.mul_one, ← sv_take] at this
      have hlen : (l.take k).length = k := by rw [List.length_take, HN.out]; omega
      have HC := Lib.hid (rnumber (l.take k) (some ⟨b, o, none⟩) k c wr hlen hT (HT.out.below hbel))
      clear hlen hT hl
      cases hr : numberL (l.take k) with
      | none =>
        rw [hr] at HC
        have HR2 : Hid (R = prefN l (k - 1)) := Lib.hid (by
          rw [HL.out]
          obtain ⟨j, rfl⟩ : ∃ j, k = j + 1 := ⟨k - 1, by omega⟩
          rw [prefN, hr]
          rfl)
        clear hr
        simp only [numPair] at HC
        go_wp2_with (go_at_call 39; refine HC.out.mono ?_; rintro e w1 ⟨rfl, hbel1⟩)
        exact ⟨⟨k - 1, by omega, by go_num, hbel.trans (hbel1.mono hbel.size), HR2⟩, by simp [intOf]; omega⟩
      | some v =>
        rw [hr] at HC
        have HR2 : Hid (R = some (v, k)) := Lib.hid (by
          rw [HL.out]
          obtain ⟨j, rfl⟩ : ∃ j, k = j + 1 := ⟨k - 1, by omega⟩
          rw [prefN, hr])
        clear hr
        simp only [numPair] at HC
        go_wp2_with (go_at_call 39; refine HC.out.mono ?_; rintro e w1 ⟨rfl, hbel1⟩)
        go_ret3
        rw [HR2.out]
        exact ⟨rfl, hbel.trans (hbel1.mono hbel.size)⟩
    · obtain rfl : k = 0 := by omega
      go_wp2
      go_ret3
      rw [HL.out]
      exact ⟨rfl, hbel⟩
end Go.Proofs.YtoiballfjbdoiaaDoor
