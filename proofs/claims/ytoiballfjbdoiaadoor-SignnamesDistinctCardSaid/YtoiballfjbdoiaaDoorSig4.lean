/- signnames: awake and Great of the laws; Unspell of any words. -/
import Derived.Test.YtoiballfjbdoiaaDoorSigP
namespace Go.Proofs.YtoiballfjbdoiaaDoor
open Go.RowKit
theorem small_sizes (l : List Nat) : ∀ s ∈ l.map wb, s.size ≤ maxLen := by
  intro s hs
  simp at hs
  obtain ⟨i, _, rfl⟩ := hs
  exact wb_size i
theorem nb_size (i : Nat) : (nb i).size ≤ maxLen := by
  unfold nb maxLen
  split <;> decide
theorem spell_sizes (r : Int) : ∀ s ∈ spellL r, s.size ≤ maxLen := by
  intro s hs
  unfold spellL at hs
  split at hs
  · simp at hs
    subst hs
    exact nb_size _
  · split at hs
    · rcases List.mem_cons.1 hs with rfl | hs
      · unfold maxLen cB; decide
      · exact small_sizes _ s hs
    · cases hs
theorem unspell (l : List ByteArray) (A : Option Addr) (n c : Nat) (w : World) (hn : l.length = n) (hc : n ≤ c) (hm : c ≤ maxLen) (rd : Rd w w.heap.size 1 A n (sv l)) (hsz : ∀ x ∈ l, x.size ≤ maxLen) (hs : Sp w) :
    Calls Tryd.prog 16 #[.slice A n c] w (Gives (unsV (unspellL l)) w) := by
  cases l with
  | nil =>
    obtain rfl : n = 0 := by simp at hn; omega
    exact unspell_nil A c w
  | cons s t =>
    have hn' : t.length + 1 = n := by simpa using hn
    obtain ⟨b, o, rfl, _, _⟩ := rd.at_ (show 0 < n by omega)
    exact unspell_cons s t b o n c w hn' hc hm rd hsz hs
theorem name_ex : nameV 42 = .tuple #[.string (nb 9), .bool true] := by
  have : sIdxI 42 = some 9 := by decide +kernel
  unfold nameV
  rw [this]
theorem star_eq : nb 9 = ⟨#[115, 116, 97, 114]⟩ := by decide +kernel
theorem spell_ex : spellL 233 = [cB, wb 2, wb 28, wb 21, wb 3] := by decide +kernel
theorem unspell_ex : unspellL [nb 13, nb 9] = some (46, 1) := by decide +kernel
set_option maxHeartbeats 400000 in
theorem awake (w : World) (hs : Sp w) : Calls Tryd.prog 14 #[] w (Gives (.bool true) w) := by
  have HN := Lib.hid (name 42 w hs)
  rw [name_ex, star_eq] at HN
  have HS : Hid (∀ w1, Below w.heap.size w w1 → Calls Tryd.prog 12 #[.int .i32 233] w1 (GivesOwn 9 1 id w1 5 (sv [cB, wb 2, wb 28, wb 21, wb 3]))) := Lib.hid fun w1 hb => by
    have := spell 233 (by omega) (by omega) w1 (hs.below hb (Nat.le_refl _))
    rwa [spell_ex] at this
  have HU : Hid (∀ w1 A, Below w.heap.size w w1 → Rd w1 w1.heap.size 1 A 2 (sv [nb 13, nb 9]) → Calls Tryd.prog 16 #[.slice A 2 2] w1 (Gives (.tuple #[.int .i32 46, .int .i64 1, .int .i64 0]) w1)) := Lib.hid fun w1 A hb h => by
    have := unspell [nb 13, nb 9] A 2 2 w1 rfl (by omega) (by unfold maxLen; omega) h (fun x hx => by simp at hx; rcases hx with rfl | rfl <;> exact nb_size _) (hs.below hb (Nat.le_refl _))
    rwa [unspell_ex] at this
  clear hs
  go_enter Tryd.func14, Tryd.ntmps14
  go_wp2_with (first
    | (go_at_call 18; refine HN.out.mono ?_; rintro e w1 ⟨rfl, hbel1⟩; have z1 := hbel1.size)
    | (go_at_call 16; refine (HU.out _ _ (hbel1.alloc z1 _) (by exact (rd_built (by rfl) rfl).more (by simp))).mono ?_; rintro e w2 ⟨rfl, hbel2⟩; have z2 := hbel2.size; simp only [World.size_alloc] at z2; have t2 := (hbel1.alloc z1 _).trans (hbel2.mono (by simp; omega)))
    | (go_at_call 12; refine (HS.out _ t2).mono ?_; rintro e w3 ⟨A3, c3, rfl, hown3, hbel3⟩; have z3 := hbel3.size)
    | (go_at_call 11; refine (same_t ([cB, wb 2, wb 28, wb 21, wb 3]) ([cB, wb 2, wb 28, wb 21, wb 3]) (rfl) _ _ _ _ _ _ _ _ _ (by first | rfl | assumption | exact Hn.out | (simp; done) | (simp; omega)) (by first | rfl | assumption | exact Hn.out | (simp; done) | (simp; omega)) (Rd.of_own (hown3.alloc _)) (by exact rd_built (by rfl) rfl) (by first | omega | (simp only [List.length_cons, List.length_nil]; omega)) (by first | omega | (simp only [List.length_cons, List.length_nil]; omega))).mono ?_; rintro e w4 ⟨rfl, n4, rfl⟩))
  go_ret
  refine ⟨rfl, below_drewN ?_⟩
  exact (t2.trans (hbel3.mono (by omega))).alloc (by omega) _
def longB (m : Nat) (l : List ByteArray) : Bool := decide (40 < l.length) || l.any fun s => decide (m < s.size)
theorem longB_at {m : Nat} {l : List ByteArray} (k : Nat) (h : k < l.length) (hk : m < l[k].size) : longB m l = true := by
  unfold longB
  have : (l.any fun s => decide (m < s.size)) = true := by
    rw [List.any_eq_true]
    exact ⟨l[k], List.getElem_mem h, by simp [hk]⟩
  rw [this, Bool.or_true]
theorem longB_no {m : Nat} {l : List ByteArray} (h : l.length ≤ 40) (hk : ∀ i (h : i < l.length), l[i].size ≤ m) : longB m l = false := by
  unfold longB
  have : (l.any fun s => decide (m < s.size)) = false := by
    rw [List.any_eq_false]
    intro s hs
    obtain ⟨i, hi, rfl⟩ := List.getElem_of_mem hs
    have := hk i hi
    simp; omega
  rw [this, Bool.or_false, decide_eq_false (by omega)]
set_option maxHeartbeats 400000 in
theorem great_ (l : List ByteArray) (A : Option Addr) (n c B : Nat) (w : World) (hn : l.length = n) (hl : Rd w B 1 A n (sv l)) (hsz : ∀ s ∈ l, s.size ≤ maxLen) (hbig : n ≤ maxLen) :
    Calls Tryd.prog 15 #[.slice A n c] w fun e w' => e = .returned (.bool (longB 40 l)) ∧ w = w' := by
  have hb2 : n ≤ 9223372036854775807 := by unfold maxLen at hbig; omega
  clear hbig
  have HN := Lib.hid hn
  by_cases h40 : 40 < n
  · have HL : Hid (longB 40 l = true) := Lib.hid (by unfold longB; rw [decide_eq_true (by omega), Bool.true_or])
    clear hn
    go_enter Tryd.func15, Tryd.ntmps15
    go_wp2
    go_ret
    exact ⟨by rw [HL.out]; rfl, rfl⟩
  · clear hn
    go_enter Tryd.func15, Tryd.ntmps15
    go_wp2
    go_loop [3] (fun i => ∃ k : Nat, k ≤ n ∧ i = .int .i64 k ∧ Hid (∀ j (h : j < l.length), j < k → l[j].size ≤ 40)) (fun i => n - (intOf i).toNat)
    case atStart => exact ⟨0, by omega, rfl, Lib.hid fun j h h' => absurd h' (by omega)⟩
    case round =>
      obtain ⟨k, hk, rfl, HA⟩ := hrel
      by_cases hlt : k < n
      · have hk' : k < l.length := by rw [HN.out]; exact hlt
        obtain ⟨b, o, rfl, hbB, hc⟩ := hl.at_ hlt
        rw [sv_get _ _ hk'] at hc
        have hs := hsz _ (List.getElem_mem hk')
        replace hs : l[k].size ≤ 9223372036854775807 := by unfold maxLen at hs; omega
        have HX : Hid (40 < l[k].size → longB 40 l = true) := Lib.hid (longB_at k hk')
        have HY : Hid (l[k].size ≤ 40 → ∀ j (h : j < l.length), j < k + 1 → l[j].size ≤ 40) := Lib.hid (fun h0 j h h' => by
          rcases Nat.lt_or_ge j k with h1 | h1
          · exact HA.out j h h1
          · obtain rfl : j = k := by omega
            exact h0)
        generalize l[k] = s at *
        by_cases hbg : 40 < s.size
        · go_wp2
          go_ret
          exact ⟨by rw [HX.out hbg]; rfl, rfl⟩
        · go_wp2
          exact ⟨⟨k + 1, by omega, by go_num, Lib.hid (HY.out (by omega))⟩, by simp [intOf]; omega⟩
      · go_wp2
        go_ret
        exact ⟨by rw [longB_no (by rw [HN.out]; omega) (fun i h => HA.out i h (by have := HN.out; omega))]; rfl, rfl⟩
end Go.Proofs.YtoiballfjbdoiaaDoor
