/- NumwordsLongest: the law's walk. -/
import Derived.Test.YtjieioobdknjjaaNumL3
namespace Go.Proofs.Ytjieioobdknjjaa
open Go.RowKit
theorem longB_len {m : Nat} {l : List ByteArray} (h : longB m l = false) : l.length ≤ 40 := by
  unfold longB at h
  simp at h
  omega
set_option maxHeartbeats 1000000 in
theorem law_NumwordsLongest (w : World) (A : Option Addr) (n c : Nat) (l : List ByteArray) (hn : l.length = n) (hc : n ≤ c) (hm : c ≤ maxLen) (rd : Rd w w.heap.size 1 A n (sv l)) (hs : ∀ s ∈ l, s.size ≤ maxLen) :
    Calls Try.prog 5 #[.slice A n c] w (Gives (.bool true) w) := by
  have hnm : n ≤ maxLen := Nat.le_trans hc hm
  have HL := Lib.hid (long_ l A n c w.heap.size w hn rd hs hnm)
  have HP := Lib.hid (prefix_ l A n c w hn hc hm rd hs)
  have Hn := Lib.hid hn
  clear hn
  cases hlong : longB 100 l with
  | true =>
    rw [hlong] at HL
    clear hlong HP
    go_enter Try.func5, Try.ntmps5
    go_wp2_with (first
      | (go_at_call 12; refine HL.out.mono ?_; rintro e w1 ⟨rfl, rfl⟩)
      | (go_at_call 10; refine (awake _).mono ?_; rintro e w3 ⟨rfl, hbel3⟩))
    go_ret
    exact ⟨rfl, hbel3⟩
  | false =>
    rw [hlong] at HL
    have hn40 : n ≤ 40 := by have := longB_len hlong; rwa [Hn.out] at this
    have hcm : c ≤ 9223372036854775807 := by unfold maxLen at hm; omega
    clear hlong hm hnm
    replace hs := Lib.hid hs
    cases hpre : prefixL l with
    | none =>
      rw [hpre] at HP
      have HNo : Hid (∀ i, 0 < i → i ≤ l.length → numberL (l.take i) = none) := Lib.hid (prefixL_none hpre)
      clear hpre
      simp only [preTriple] at HP
      go_enter Try.func5, Try.ntmps5
      go_wp2_with (first
        | (go_at_call 12; refine HL.out.mono ?_; rintro e w1 ⟨rfl, rfl⟩)
        | (go_at_call 14; refine HP.out.mono ?_; rintro e w2 ⟨rfl, hbel2⟩))
      go_loopw [8] (fun x wr => ∃ i : Nat, 0 + 1 ≤ i ∧ i ≤ n + 1 ∧ x = .int .i64 i ∧ Below w.heap.size w wr) (fun x _ => n + 1 - (intOf x).toNat)
      case atStart => exact ⟨0 + 1, by omega, by omega, by go_num, hbel2⟩
      case round =>
        obtain ⟨i, hi1, hi2, rfl, hbel⟩ := hrel
        by_cases hlt : i ≤ n
        · obtain ⟨b, o, eA, hbB, _⟩ := rd.at_ (show i - 1 < n by omega)
          cases eA
          have hT : Rd wr wr.heap.size 1 (some ⟨b, o, none⟩) i (sv (l.take i)) := by
            have := ((rd.below hbel).more hbel.size).take hlt
            rwa [Nat.mul_one, ← sv_take] at this
          have hlen : (l.take i).length = i := by rw [List.length_take, Hn.out]; omega
          have hszT : ∀ s ∈ l.take i, s.size ≤ maxLen := fun s hs' => hs.out s (List.mem_of_mem_take hs')
          have HC := Lib.hid (number (l.take i) (some ⟨b, o, none⟩) i c wr hlen hT hszT)
          rw [HNo.out i (by omega) (by rw [Hn.out]; exact hlt)] at HC
          simp only [numPair] at HC
          clear hlen hT hszT rd
          go_wp2_with (go_at_call 11; refine HC.out.mono ?_; rintro e w4 ⟨rfl, hbel4⟩)
          exact ⟨⟨i + 1, by omega, by omega, by go_num, hbel.trans (hbel4.mono hbel.size)⟩, by simp [intOf]; omega⟩
        · go_wp2_with (go_at_call 10; refine (awake _).mono ?_; rintro e w5 ⟨rfl, hbel5⟩)
          go_ret
          exact ⟨rfl, hbel.trans (hbel5.mono hbel.size)⟩
    | some v =>
      obtain ⟨v, k⟩ := v
      rw [hpre] at HP
      obtain ⟨hk1, hk2, hk3, hk4, hk5⟩ := prefixL_some hpre
      have HNo : Hid (∀ i, k < i → i ≤ l.length → numberL (l.take i) = none) := Lib.hid hk5
      rw [Hn.out] at hk2
      obtain ⟨b0, o0, rfl, hbB0, _⟩ := rd.at_ (show k - 1 < n by omega)
      have HC : Hid (∀ w1, Below w.heap.size w w1 → Calls Try.prog 11 #[.slice (some ⟨b0, o0, none⟩) k c] w1 (Gives (.tuple #[.int .i64 v, .int .i64 0]) w1)) := Lib.hid (fun w1 hb => by
        have hT : Rd w1 w1.heap.size 1 (some ⟨b0, o0, none⟩) k (sv (l.take k)) := by
          have := ((rd.below hb).more hb.size).take hk2
          rwa [Nat.mul_one, ← sv_take] at this
        have := number (l.take k) (some ⟨b0, o0, none⟩) k c w1 (by rw [List.length_take, Hn.out]; omega) hT (fun s hs' => hs.out s (List.mem_of_mem_take hs'))
        rwa [hk4] at this)
      clear hpre hk4 hk5
      simp only [preTriple] at HP
      go_enter Try.func5, Try.ntmps5
      go_wp2_with (first
        | (go_at_call 12; refine HL.out.mono ?_; rintro e w1 ⟨rfl, rfl⟩)
        | (go_at_call 14; refine HP.out.mono ?_; rintro e w2 ⟨rfl, hbel2⟩)
        | (go_at_call 11; refine (HC.out _ hbel2).mono ?_; rintro e w3 ⟨rfl, hbel3⟩; have hbel23 := hbel2.trans (hbel3.mono hbel2.size)))
      go_loopw [8] (fun x wr => ∃ i : Nat, k + 1 ≤ i ∧ i ≤ n + 1 ∧ x = .int .i64 i ∧ Below w.heap.size w wr) (fun x _ => n + 1 - (intOf x).toNat)
      case atStart => exact ⟨k + 1, by omega, by omega, by go_num, hbel23⟩
      case round =>
        obtain ⟨i, hi1, hi2, rfl, hbel⟩ := hrel
        by_cases hlt : i ≤ n
        · obtain ⟨b, o, eA, hbB, _⟩ := rd.at_ (show i - 1 < n by omega)
          cases eA
          have hT : Rd wr wr.heap.size 1 (some ⟨b0, o0, none⟩) i (sv (l.take i)) := by
            have := ((rd.below hbel).more hbel.size).take hlt
            rwa [Nat.mul_one, ← sv_take] at this
          have hlen : (l.take i).length = i := by rw [List.length_take, Hn.out]; omega
          have hszT : ∀ s ∈ l.take i, s.size ≤ maxLen := fun s hs' => hs.out s (List.mem_of_mem_take hs')
          have HC := Lib.hid (number (l.take i) (some ⟨b0, o0, none⟩) i c wr hlen hT hszT)
          rw [HNo.out i (by omega) (by rw [Hn.out]; exact hlt)] at HC
          simp only [numPair] at HC
          clear hlen hT hszT rd
          go_wp2_with (go_at_call 11; refine HC.out.mono ?_; rintro e w4 ⟨rfl, hbel4⟩)
          exact ⟨⟨i + 1, by omega, by omega, by go_num, hbel.trans (hbel4.mono hbel.size)⟩, by simp [intOf]; omega⟩
        · go_wp2_with (go_at_call 10; refine (awake _).mono ?_; rintro e w5 ⟨rfl, hbel5⟩)
          go_ret
          exact ⟨rfl, hbel.trans (hbel5.mono hbel.size)⟩
end Go.Proofs.Ytjieioobdknjjaa
