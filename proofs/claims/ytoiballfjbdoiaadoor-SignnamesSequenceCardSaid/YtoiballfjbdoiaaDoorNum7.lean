/- numwords.Prefix. -/
import Derived.Test.YtoiballfjbdoiaaDoorNum6
namespace Go.Proofs.YtoiballfjbdoiaaDoor
open Go.RowKit Go.WideMaps
def prefN (l : List ByteArray) : Nat → Option (Int × Nat)
  | 0 => none
  | k + 1 => match numberL (l.take (k + 1)) with
    | some n => some (n, k + 1)
    | none => prefN l k
def prefixL (l : List ByteArray) : Option (Int × Nat) := prefN l (min l.length 15)
def preTriple : Option (Int × Nat) → Value
  | some (n, k) => .tuple #[.int .i64 n, .int .i64 k, .int .i64 0]
  | none => .tuple #[.int .i64 0, .int .i64 0, .int .i64 17]
theorem sv_take (l : List ByteArray) (k : Nat) : sv (l.take k) = (sv l).take k := by simp [sv, List.map_take]
set_option maxHeartbeats 400000 in
theorem prefix_ (l : List ByteArray) (A : Option Addr) (n c : Nat) (w : World) (hn : l.length = n) (hc : n ≤ c) (hbig : c ≤ maxLen) (hl : Rd w w.heap.size 1 A n (sv l)) (hsz : ∀ s ∈ l, s.size ≤ maxLen) :
    Calls Tryd.prog 30 #[.slice A n c] w (Gives (preTriple (prefixL l)) w) := by
  unfold maxLen at hbig
  have HN := Lib.hid hn
  clear hn
  have HP : Hid (prefixL l = prefN l (min l.length 15)) := Lib.hid rfl
  generalize prefixL l = R at *
  go_enter Tryd.func30, Tryd.ntmps30
  go_upto_region 1 with fail
  go_cut [5] (fun x wx => wx = w ∧ x = .int .i64 ((min n 15 : Nat) : Int))
  case first =>
    by_cases hq : n ≤ 15
    · have hq' : (n : Int) ≤ 15 := by omega
      have hm : min n 15 = n := Nat.min_eq_left hq
      have HM := Lib.hid hm
      clear hm
      go_wp2_with fail
      go_meet
      exact ⟨rfl, by rw [HM.out]⟩
    · have hq' : (15 : Int) < (n : Int) := by omega
      have hm : min n 15 = 15 := Nat.min_eq_right (by omega)
      have HM := Lib.hid hm
      clear hm
      go_wp2_with fail
      go_meet
      exact ⟨rfl, by rw [HM.out]; rfl⟩
  case rest =>
    obtain ⟨rfl, rfl⟩ := hcut
    have hkm : min n 15 ≤ n ∧ min n 15 ≤ 15 := by omega
    rw [HN.out] at HP
    generalize min n 15 = k0 at *
    go_wp2_with fail
    go_loopw [5] (fun i wr => ∃ k : Nat, k ≤ n ∧ k ≤ 15 ∧ i = .int .i64 k ∧ Below wc.heap.size wc wr ∧ Hid (R = prefN l k)) (fun i _ => (intOf i).toNat)
    case atStart => exact ⟨k0, hkm.1, hkm.2, rfl, Below.refl _ _, HP⟩
    case round =>
      obtain ⟨k, hk, hk15, rfl, hbel, HL⟩ := hrel
      by_cases hlt : 0 < k
      · obtain ⟨b, o, rfl, hbB, _⟩ := hl.at_ (show k - 1 < n by omega)
        have hT : Rd wr wr.heap.size 1 (some ⟨b, o, none⟩) k (sv (l.take k)) := by
          have := ((hl.below hbel).more hbel.size).take hk
          rwa [Nat.mul_one, ← sv_take] at this
        have hlen : (l.take k).length = k := by rw [List.length_take, HN.out]; omega
        have hszT : ∀ s ∈ l.take k, s.size ≤ maxLen := fun s hs => hsz s (List.mem_of_mem_take hs)
        have HC := Lib.hid (number (l.take k) (some ⟨b, o, none⟩) k c wr hlen hT hszT)
        clear hlen hT hszT hl
        cases hr : numberL (l.take k) with
        | none =>
          rw [hr] at HC
          have HR2 : Hid (R = prefN l (k - 1)) := Lib.hid (by
            rw [HL.out]
            obtain ⟨j, rfl⟩ : ∃ j, k = j + 1 := ⟨k - 1, by omega⟩
            rw [prefN, hr]
            rfl)
          clear hr
          simp only [numPair] at HC
          go_wp2_with (go_at_call 37; refine HC.out.mono ?_; rintro e w1 ⟨rfl, hbel1⟩)
          exact ⟨⟨k - 1, by omega, by omega, by go_num, hbel.trans (hbel1.mono hbel.size), HR2⟩, by simp [intOf]; omega⟩
        | some v =>
          rw [hr] at HC
          have HR2 : Hid (R = some (v, k)) := Lib.hid (by
            rw [HL.out]
            obtain ⟨j, rfl⟩ : ∃ j, k = j + 1 := ⟨k - 1, by omega⟩
            rw [prefN, hr])
          clear hr
          simp only [numPair] at HC
          go_wp2_with (go_at_call 37; refine HC.out.mono ?_; rintro e w1 ⟨rfl, hbel1⟩)
          go_ret3
          rw [HR2.out]
          exact ⟨rfl, hbel.trans (hbel1.mono hbel.size)⟩
      · obtain rfl : k = 0 := by omega
        go_wp2
        go_ret3
        rw [HL.out]
        exact ⟨rfl, hbel⟩
end Go.Proofs.YtoiballfjbdoiaaDoor
