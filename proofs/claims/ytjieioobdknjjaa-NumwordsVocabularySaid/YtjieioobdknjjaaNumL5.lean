/- NumwordsVocabulary: the law's walk. -/
import Derived.Test.YtjieioobdknjjaaNumL1
import Derived.Test.YtjieioobdknjjaaMpB
import Derived.OpenShut
namespace Go.Proofs.Ytjieioobdknjjaa
open Go.RowKit Go.WideMaps
def knownK : Nat → ByteArray → Bool
  | 0, _ => false
  | k + 1, s => if s = wb k then true else knownK k s
theorem known_new (k : Nat) (h : k < 32) : knownK k (wb k) = false := by
  have : ∀ k : Fin 32, knownK k.val (wb k.val) = false := by decide +kernel
  exact this ⟨k, h⟩
theorem known_all (k : Nat) (h : k < 32) : knownK 32 (wb k) = true := by
  have : ∀ k : Fin 32, knownK 32 (wb k.val) = true := by decide +kernel
  exact this ⟨k, h⟩
theorem wb_letters0 : ∀ k : Fin 32, 0 < (wb k.val).size ∧ (wb k.val).size ≤ 20 ∧ (wb k.val).data.toList.all (fun c => decide (97 ≤ c.toNat) && decide (c.toNat ≤ 122)) = true := by decide +kernel
theorem wb_letters (k : Nat) (h : k < 32) : 0 < (wb k).size ∧ (wb k).size ≤ 20 ∧ ∀ i (h : i < (wb k).size), 97 ≤ (wb k)[i].toNat ∧ (wb k)[i].toNat ≤ 122 := by
  obtain ⟨a, b, c⟩ := wb_letters0 ⟨k, h⟩
  refine ⟨a, b, fun i hi => ?_⟩
  rw [List.all_eq_true] at c
  have := c (wb k)[i] (by
    have : (wb k)[i] = (wb k).data.toList[i]'(by simpa using hi) := rfl
    rw [this]
    exact List.getElem_mem _)
  simpa using this
theorem small_lt0 : ∀ q : Fin 1000, (smallL q.val).all (fun i => decide (i < 32)) = true := by decide +kernel
theorem small_lt (q : Nat) (hq : q < 1000) : ∀ i ∈ smallL q, i < 32 := by
  intro i hi
  have := List.all_eq_true.1 (small_lt0 ⟨q, hq⟩) i hi
  simpa using this
theorem words_lt (n : Int) (h1 : -999999999 ≤ n) (h2 : n ≤ 999999999) : ∀ i ∈ wordsL n, i < 32 := by
  have hsg : ∀ q x, q < 1000 → x < 32 → ∀ i ∈ segL q x, i < 32 := by
    intro q x hq hx i hi
    unfold segL at hi
    split at hi
    · rw [List.mem_append] at hi
      rcases hi with hi | hi
      · exact small_lt q hq i hi
      · simp at hi; omega
    · cases hi
  have hse : ∀ q, q < 1000 → ∀ i ∈ segE q, i < 32 := by
    intro q hq i hi
    unfold segE at hi
    split at hi
    · exact small_lt q hq i hi
    · cases hi
  intro i hi
  unfold wordsL at hi
  split at hi
  · simp at hi; omega
  · rw [posL_eq, List.mem_append, List.mem_append, List.mem_append] at hi
    rcases hi with hi | (hi | hi) | hi
    · split at hi
      · simp at hi; omega
      · cases hi
    · exact hsg _ _ (by omega) (by omega) i hi
    · exact hsg _ _ (by omega) (by omega) i hi
    · exact hse _ (by omega) i hi
theorem zeroBool (w : World) : (zeroValue 4).run Try.prog w = .ok (.bool false) w := by kernel_rfl
set_option maxHeartbeats 1000000 in
theorem law_NumwordsVocabulary (w : World) (n : Int) (w0 : (Lit.int .i32 n).wf = true) : Calls Try.prog 8 #[.int .i32 n] w (Gives (.bool true) w) := by
  have hmm := @run_makeMap Try.prog
  go_enter Try.func8, Try.ntmps8
  go_wp2_with (first | (go_at_call 15; refine (voc _).mono ?_; rintro e w' ⟨rfl, rfl⟩))
  go_loopw [16] (fun x wr => ∃ k : Nat, k ≤ 32 ∧ x = .int .i64 k ∧ MapB Try.prog 9 4 wr (w.heap.size + 1) k (knownK k) ∧ Below w.heap.size w wr ∧ ∀ i, i < 32 → wr.cell? ⟨w.heap.size, i, none⟩ = some (.string (wb i))) (fun x _ => 32 - (intOf x).toNat)
  case atStart =>
    refine ⟨0, by omega, rfl, MapB.made (by simp), ((Below.refl _ _).alloc (Nat.le_refl _) _).alloc (by simp) _, fun i hi => ?_⟩
    exact (World.cell?_alloc_lt _ _ _ (by simp)).trans (cellVoc w i hi)
  case round =>
    obtain ⟨k, hk, rfl, hmap, hbel, hcell⟩ := hrel
    have HC := Lib.hid hcell
    clear hcell
    have hz := hmap.lt
    obtain ⟨wo, rfl⟩ : ∃ x : World, x = wr := ⟨_, rfl⟩
    by_cases hlt : k < 32
    · have hc := HC.out k hlt
      obtain ⟨s1, s2, s3⟩ := wb_letters k hlt
      have hnew := known_new k hlt
      have hsz := wb_size k
      have hstep : ∀ s, (if s = wb k then true else knownK k s) = knownK (k + 1) s := fun s => rfl
      have HK := Lib.hid hnew
      have HST := Lib.hid hstep
      have HS3 := Lib.hid s3
      clear hnew hstep s3
      generalize wb k = s at *
      generalize knownK k = f at *
      have e1 : s.toList.isEmpty = false := by
        rw [ByteArray.toList_eq]
        have : s.data.toList.length = s.size := rfl
        cases h : s.data.toList with
        | nil => rw [h] at this; simp at this; omega
        | cons => rfl
      go_upto_block 2 with (first
        | (at_lookup; refine mapB_look rfl _ _ _ rfl Try.underlying9 Try.underlying39 Try.underlying4 zeroBool rfl hmap rfl hsz ?_; rw [HK.out])
        | (at_mapUpdate; refine mapB_store rfl _ _ _ _ rfl Try.underlying9 Try.underlying39 Try.underlying4 rfl hmap rfl hsz rfl (by unfold maxLen; omega) ?_; intro w1 hm1 hg1; clear hmap))
      have hb1 := hbel.grown hg1 hbel.size (fun _ e => by injection e with e; omega)
      have HC1 : Hid (∀ i, i < 32 → w1.cell? ⟨w.heap.size, i, none⟩ = some (.string (wb i))) := Lib.hid fun i hi => hg1.cell (HC.out i hi) (by simp)
      go_wp2_with fail
      go_loop [31] (fun y => ∃ j : Nat, j ≤ s.size ∧ y = .int .i64 j) (fun y => s.size - (intOf y).toNat)
      case atStart => exact ⟨0, by omega, rfl⟩
      case round =>
        obtain ⟨j, hj, rfl⟩ := hrel
        by_cases hjl : j < s.size
        · obtain ⟨g1, g2⟩ := HS3.out j hjl
          go_wp2
          exact ⟨⟨j + 1, by omega, by go_num⟩, by simp [intOf]; omega⟩
        · go_wp2
          exact ⟨⟨k + 1, by omega, by go_num, hm1.ext HST.out, hb1, HC1.out⟩, by simp [intOf]; omega⟩
    · obtain rfl : k = 32 := by omega
      have HKN : Hid (∀ i, i < 32 → knownK 32 (wb i) = true) := Lib.hid known_all
      have hb32 := bounds_i32 w0
      have ht1 : -999999999 ≤ n.tmod 1000000000 := by have := Int.lt_tmod_of_pos n (show (0 : Int) < 1000000000 by omega); omega
      have ht2 : n.tmod 1000000000 ≤ 999999999 := by have := Int.tmod_lt_of_pos n (show (0 : Int) < 1000000000 by omega); omega
      have HW : Hid (∀ w, Calls Try.prog 9 #[.int .i64 (n.tmod 1000000000)] w (GivesOwn 9 1 okPair w (wordsL (n.tmod 1000000000)).length (wv (wordsL (n.tmod 1000000000))))) := Lib.hid fun w => words_in _ ht1 ht2 w
      have HLT := Lib.hid (words_lt _ ht1 ht2)
      have hle := wordsL_le (n.tmod 1000000000)
      have hpos : 0 < (wordsL (n.tmod 1000000000)).length := by
        rcases wordsL_pos (n.tmod 1000000000) with h | h
        · exact h
        · omega
      generalize wordsL (n.tmod 1000000000) = L at *
      clear ht1 ht2
      generalize knownK 32 = f at *
      go_wp2_with (go_at_call 9; refine (HW.out _).mono ?_; rintro e w1 ⟨A1, c1, rfl, hown1, hbel1⟩)
      have hm1 : MapB Try.prog 9 4 w1 (w.heap.size + 1) 32 f := hmap.keep (hbel1.block _ hz)
      have o1 := Rd.of_own hown1
      have hb1 := hbel.trans (hbel1.mono hbel.size)
      go_loop [55] (fun x => ∃ k : Nat, k ≤ L.length ∧ x = .int .i64 k) (fun x => L.length - (intOf x).toNat)
      case atStart => exact ⟨0, by omega, rfl⟩
      case round =>
        obtain ⟨k, hk, rfl⟩ := hrel
        by_cases hlt : k < L.length
        · obtain ⟨b, o, rfl, hbB, hc⟩ := o1.at_ hlt
          have hi : L[k] < 32 := HLT.out _ (List.getElem_mem hlt)
          have hv : (wv L)[k]? = some (.string (wb L[k])) := by simp [wv, hlt]
          rw [hv] at hc
          have HF := Lib.hid (HKN.out _ hi)
          have hsz := wb_size L[k]
          clear hv hi
          generalize wb L[k] = s at *
          go_wp2_with (at_lookup; refine mapB_look rfl _ _ _ rfl Try.underlying9 Try.underlying39 Try.underlying4 zeroBool rfl hm1 rfl hsz ?_; rw [HF.out])
          exact ⟨⟨k + 1, by omega, by go_num⟩, by simp [intOf]; omega⟩
        · go_wp2_with (go_at_call 10; refine (awake _).mono ?_; rintro e w5 ⟨rfl, hbel5⟩)
          go_ret
          exact ⟨rfl, hb1.trans (hbel5.mono hb1.size)⟩
end Go.Proofs.Ytjieioobdknjjaa
