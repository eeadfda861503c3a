/- awake and long of the laws on the words of numbers. -/
import Derived.Test.YtjieioobdknjjaaDoorNumP
namespace Go.Proofs.YtjieioobdknjjaaDoor
open Go.RowKit
theorem words_ex : wordsL 1200345 = [1, 30, 2, 28, 29, 3, 28, 22, 5] := by decide +kernel
theorem prefix_ex : prefixL [wb 20, wb 1, wb 28] = some (21, 2) := by decide +kernel
theorem small_sizes (l : List Nat) : ∀ s ∈ l.map wb, s.size ≤ maxLen := by
  intro s hs
  simp at hs
  obtain ⟨i, _, rfl⟩ := hs
  exact wb_size i
set_option maxHeartbeats 400000 in
theorem awake (w : World) : Calls Tryd.prog 8 #[] w (Gives (.bool true) w) := by
  have HW : Hid (∀ w, Calls Tryd.prog 5 #[.int .i64 1200345] w (GivesOwn 9 1 okPair w 9 (sv [wb 1, wb 30, wb 2, wb 28, wb 29, wb 3, wb 28, wb 22, wb 5]))) := Lib.hid fun w => by
    have := words_in 1200345 (by omega) (by omega) w
    rwa [wv_sv, words_ex] at this
  have HP : Hid (∀ (w : World) (A : Option Addr), Rd w w.heap.size 1 A 3 (sv [wb 20, wb 1, wb 28]) → Calls Tryd.prog 12 #[.slice A 3 3] w (Gives (.tuple #[.int .i64 21, .int .i64 2, .int .i64 0]) w)) := Lib.hid fun w A h => by
    have := prefix_ [wb 20, wb 1, wb 28] A 3 3 w rfl (by omega) (by unfold maxLen; omega) h (small_sizes [20, 1, 28])
    rwa [prefix_ex] at this
  go_enter Tryd.func8, Tryd.ntmps8
  go_wp2_with (first
    | (go_at_call 5; refine (HW.out _).mono ?_; rintro e w1 ⟨A1, c1, rfl, hown1, hbel1⟩; have z1 := hbel1.size)
    | (go_at_call 12; refine (HP.out _ _ (by exact (rd_built (by rfl) rfl).more (by simp))).mono ?_; rintro e w2 ⟨rfl, hbel2⟩; have hown2 := own_below (hown1.alloc _) hbel2; have z2 := hbel2.size; simp only [World.size_alloc] at z2)
    | (go_at_call 7; refine (same_t ([wb 1, wb 30, wb 2, wb 28, wb 29, wb 3, wb 28, wb 22, wb 5]) ([wb 1, wb 30, wb 2, wb 28, wb 29, wb 3, wb 28, wb 22, wb 5]) (rfl) _ _ _ _ _ _ _ _ _ (by first | rfl | assumption | exact Hn.out | (simp; done) | (simp; omega)) (by first | rfl | assumption | exact Hn.out | (simp; done) | (simp; omega)) (Rd.of_own (hown2.alloc _)) (by exact rd_built (by rfl) rfl) (by first | omega | (simp only [List.length_cons, List.length_nil]; omega)) (by first | omega | (simp only [List.length_cons, List.length_nil]; omega))).mono ?_; rintro e w3 ⟨rfl, n3, rfl⟩))
  go_ret
  refine ⟨rfl, below_drewN ?_⟩
  exact (hbel1.trans (((Below.refl _ _).alloc z1 _).trans (hbel2.mono (by simp; omega)))).alloc (by omega) _
def longB (m : Nat) (l : List ByteArray) : Bool := decide (40 < l.length) || l.any fun s => decide (m < s.size)
theorem longB_at {m : Nat} {l : List ByteArray} (k : Nat) (h : k < l.length) (hk : m < l[k].size) : longB m l = true := by
  unfold longB
  have : (l.any fun s => decide (m < s.size)) = true := by
    rw [List.any_eq_true]
    exact ⟨l[k], List.getElem_mem h, by simp [hk]⟩
  rw [this, Bool.or_true]
theorem longB_no {m : Nat} {l : List ByteArray} (h : l.length ≤ 40) (hk : ∀ i (h : i < l.length), l[i].size ≤ m) : longB m l = false := by
  unfold longB
  have : (l.any fun s => decide (m < s.size)) = false := by
    rw [List.any_eq_false]
    intro s hs
    obtain ⟨i, hi, rfl⟩ := List.getElem_of_mem hs
    have := hk i hi
    simp; omega
  rw [this, Bool.or_false, decide_eq_false (by omega)]
set_option maxHeartbeats 400000 in
theorem long_ (l : List ByteArray) (A : Option Addr) (n c B : Nat) (w : World) (hn : l.length = n) (hl : Rd w B 1 A n (sv l)) (hsz : ∀ s ∈ l, s.size ≤ maxLen) (hbig : n ≤ maxLen) :
    Calls Tryd.prog 9 #[.slice A n c] w fun e w' => e = .returned (.bool (longB 100 l)) ∧ w = w' := by
  have hb2 : n ≤ 9223372036854775807 := by unfold maxLen at hbig; omega
  clear hbig
  have HN := Lib.hid hn
  by_cases h40 : 40 < n
  · have HL : Hid (longB 100 l = true) := Lib.hid (by unfold longB; rw [decide_eq_true (by omega), Bool.true_or])
    clear hn
    go_enter Tryd.func9, Tryd.ntmps9
    go_wp2
    go_ret
    exact ⟨by rw [HL.out]; rfl, rfl⟩
  · clear hn
    go_enter Tryd.func9, Tryd.ntmps9
    go_wp2
    go_loop [9] (fun i => ∃ k : Nat, k ≤ n ∧ i = .int .i64 k ∧ Hid (∀ j (h : j < l.length), j < k → l[j].size ≤ 100)) (fun i => n - (intOf i).toNat)
    case atStart => exact ⟨0, by omega, rfl, Lib.hid fun j h h' => absurd h' (by omega)⟩
    case round =>
      obtain ⟨k, hk, rfl, HA⟩ := hrel
      by_cases hlt : k < n
      · have hk' : k < l.length := by rw [HN.out]; exact hlt
        obtain ⟨b, o, rfl, hbB, hc⟩ := hl.at_ hlt
        rw [sv_get _ _ hk'] at hc
        have hs := hsz _ (List.getElem_mem hk')
        replace hs : l[k].size ≤ 9223372036854775807 := by unfold maxLen at hs; omega
        have HX : Hid (100 < l[k].size → longB 100 l = true) := Lib.hid (longB_at k hk')
        have HY : Hid (l[k].size ≤ 100 → ∀ j (h : j < l.length), j < k + 1 → l[j].size ≤ 100) := Lib.hid (fun h0 j h h' => by
          rcases Nat.lt_or_ge j k with h1 | h1
          · exact HA.out j h h1
          · obtain rfl : j = k := by omega
            exact h0)
        generalize l[k] = s at *
        by_cases hbg : 100 < s.size
        · go_wp2
          go_ret
          exact ⟨by rw [HX.out hbg]; rfl, rfl⟩
        · go_wp2
          exact ⟨⟨k + 1, by omega, by go_num, Lib.hid (HY.out (by omega))⟩, by simp [intOf]; omega⟩
      · go_wp2
        go_ret
        exact ⟨by rw [longB_no (by rw [HN.out]; omega) (fun i h => HA.out i h (by have := HN.out; omega))]; rfl, rfl⟩
end Go.Proofs.YtjieioobdknjjaaDoor
