/- numwords.values: the map of the words' values. -/
import Derived.Test.YtoiballfjbdoiaaDoorNum1
import Derived.Test.YtoiballfjbdoiaaDoorMp
namespace Go.Proofs.YtoiballfjbdoiaaDoor
open Go.RowKit Go.WideMaps
def valI (i : Nat) : Int := if 20 < i then 10 * ((i : Int) - 18) else i
def valK : Nat → ByteArray → Option Int
  | 0, _ => none
  | k + 1, s => if s = wb k then some (valI k) else valK k s
theorem wb_size (i : Nat) : (wb i).size ≤ maxLen := by
  unfold wb maxLen
  split <;> decide
theorem zeroInt (w : World) : (zeroValue 3).run Tryd.prog w = .ok (.int .i64 0) w := by kernel_rfl
set_option maxHeartbeats 800000 in
theorem values (w : World) : Calls Tryd.prog 42 #[] w fun e w' => ∃ b, e = .returned (.map (some b)) ∧ MapI Tryd.prog 9 3 w' b 56 (valK 28) ∧ Below w.heap.size w w' ∧ w.heap.size ≤ b := by
  have hmm := @run_makeMap Tryd.prog
  go_enter Tryd.func42, Tryd.ntmps42
  go_wp2_with (first | (go_at_call 24; refine (voc _).mono ?_; rintro e w' ⟨rfl, rfl⟩))
  go_loopw [8] (fun i wr => ∃ k : Nat, k ≤ 28 ∧ i = .int .i64 k ∧ MapI Tryd.prog 9 3 wr w.heap.size (2 * k) (valK k) ∧ Below w.heap.size w wr ∧ ∀ i, i < 28 → wr.cell? ⟨w.heap.size + 1, i, none⟩ = some (.string (wb i))) (fun i _ => 28 - (intOf i).toNat)
  case atStart =>
    refine ⟨0, by omega, rfl, (MapI.made rfl).keep ?_, ((Below.refl _ _).alloc (Nat.le_refl _) _).alloc (by simp) _, fun i hi => ?_⟩
    · exact Below.heap_alloc _ _ _ (by simp)
    · have := cellVoc (w.alloc (.map #[] 0)) i (by omega)
      rwa [World.size_alloc] at this
  case round =>
    obtain ⟨k, hk, rfl, hmap, hbel, hcell⟩ := hrel
    have HC := Lib.hid hcell
    clear hcell
    have hz := hmap.lt
    by_cases hlt : k < 28
    · have hc := HC.out k hlt
      by_cases h20 : 20 < k
      · go_wp2_with (first | (at_mapUpdate; have tok1 := hmap; refine mapI_store rfl _ _ _ _ rfl Tryd.underlying9 Tryd.underlying59 Tryd.underlying3 rfl hmap rfl (wb_size _) rfl (WalkArith.wf_i64 (by omega)) (by unfold maxLen; omega) ?_; intro w1 hm1 hg1; have hz1 := hg1.size; clear hmap) | (at_mapUpdate; refine mapI_store rfl _ _ _ _ rfl Tryd.underlying9 Tryd.underlying59 Tryd.underlying3 rfl hm1 rfl (wb_size _) rfl (WalkArith.wf_i64 (by omega)) (by unfold maxLen; omega) ?_; intro w2 hm2 hg2; clear hm1))
        refine ⟨⟨k + 1, by omega, by go_num, ?_, (hbel.grown hg1 hbel.size (fun _ e => by injection e with e; omega)).grown hg2 (Nat.le_trans hbel.size hz1) (fun _ e => by injection e with e; omega), fun i hi => ?_⟩, by simp [intOf]; omega⟩
        · refine MapI.ext (g := valK (k + 1)) hm2 fun s => ?_
          rw [valK]
          unfold valI
          rw [if_pos h20]
          by_cases hs : s = wb k
          · simp [hs]
          · simp [hs]
        · exact hg2.cell (hg1.cell (HC.out i hi) (by simp)) (by simp)
      · go_wp2_with (first | (at_mapUpdate; refine mapI_store rfl _ _ _ _ rfl Tryd.underlying9 Tryd.underlying59 Tryd.underlying3 rfl hmap rfl (wb_size _) rfl (WalkArith.wf_i64 (by omega)) (by unfold maxLen; omega) ?_; intro w1 hm1 hg1; clear hmap))
        refine ⟨⟨k + 1, by omega, by go_num, ?_, hbel.grown hg1 hbel.size (fun _ e => by injection e with e; omega), fun i hi => ?_⟩, by simp [intOf]; omega⟩
        · obtain ⟨D, a, b⟩ := hm1
          refine MapI.ext (g := valK (k + 1)) ⟨D, a.mono (by omega), b⟩ fun s => ?_
          rw [valK]
          unfold valI
          rw [if_neg h20]
        · exact hg1.cell (HC.out i hi) (by simp)
    · obtain rfl : k = 28 := by omega
      go_wp2
      go_ret
      exact ⟨_, rfl, hmap, hbel, Nat.le_refl _⟩
end Go.Proofs.YtoiballfjbdoiaaDoor
