/- Joined texts: UxL. -/
import Derived.Test.YtejjfiipghcifaaGreatDoorQCJ
set_option linter.unusedVariables false
set_option linter.unusedSimpArgs false
set_option linter.unnecessarySimpa false
namespace Go.Proofs.YtejjfiipghcifaaGreatDoor
open Go.RowKit
set_option maxRecDepth 20000
set_option maxHeartbeats 4000000 in
theorem law_UtteranceLetters (w : World) (hg : Gd w) (A : Option Addr) (n c : Nat) (l : List ChgM) (hn : l.length = n) (hc : n ≤ c) (hm : c ≤ maxLen) (rd : RdC w w.heap.size A n l) (m : Int) (wm : (Lit.int .i64 m).wf = true) (r : Int) (d sp : Bool) (q : Int) (co : Bool) (k : Int) (wr : (Lit.int .i64 r).wf = true) (wq : (Lit.int .i64 q).wf = true) (wk : (Lit.int .i64 k).wf = true) :
  Calls Tryz.prog 10 #[.slice A n c, .int .i64 m, stV r d sp q co k] w (Gives (.bool true) w) := by
 subst hn
 have HA : Hid (∀ X, Below w.heap.size w X → Calls Tryz.prog 12 #[] X fun e X' => e = .returned (.bool true) ∧ Below w.heap.size w X' ∧ Below X.heap.size X X') := Lib.hid fun X hX => bothG (awake41_ X (hg.below hX)) hX
 have HF : Hid (∀ X, Below w.heap.size w X → Calls Tryz.prog 11 #[.slice A l.length c] X fun e X' => e = .returned (.bool (fineC l)) ∧ Below w.heap.size w X' ∧ Below X.heap.size X X') := Lib.hid fun X hX => bothG (fine_ l A _ c w.heap.size X (by omega) (rd.below hX) hX.size) hX
 by_cases hf : fineC l = true
 ·rw [hf] at HF
  by_cases hE : wErr l m r q k = 0
  ·obtain ⟨h1, h2, h3, h4⟩ := wErr_ok hE
   obtain ⟨h5, h6⟩ := fine_chk hf h4
   have HZ : Hid (∀ s ∈ wordsU (chgs l) m ⟨d, sp, q⟩, azB s = true ∧ s.size ≤ 1000) := Lib.hid fun s hs => ⟨words_az (chgs l) m ⟨d, sp, q⟩ h2 h3 (fun x hx => (h6 x hx).1) s hs, (words_small ⟨d, sp, q⟩ h2 h3 h5 h6).2 s hs⟩
   have HL : (wordsU (chgs l) m ⟨d, sp, q⟩).length ≤ 400000 := (words_small ⟨d, sp, q⟩ h2 h3 h5 h6).1
   have HW : Hid (∀ X, Below w.heap.size w X → Calls Tryz.prog 13 #[.slice A l.length c, .int .i64 m, stV r d sp q co k] X fun e X' => (∃ A2 c2, e = .returned (.tuple #[.slice A2 (wordsU (chgs l) m ⟨d, sp, q⟩).length c2, .int .i64 0]) ∧ X'.ownsRow X.heap.size 9 1 (.slice A2 (wordsU (chgs l) m ⟨d, sp, q⟩).length c2) (wordsU (chgs l) m ⟨d, sp, q⟩).length (sv (wordsU (chgs l) m ⟨d, sp, q⟩))) ∧ Below w.heap.size w X' ∧ Below X.heap.size X X') := Lib.hid fun X hX => k_wordsT hg hf rd hE X hX
   clear h1 h2 h3 h4 h5 h6 hE hf rd hg
   generalize wordsU (chgs l) m ⟨d, sp, q⟩ = W at *
   go_enter Tryz.func10, Tryz.ntmps10
   go_upto_region 1 with fail
   refine wp_fg (fun X => StBox X r d sp q co k w.heap.size ∧ Below w.heap.size w X ∧ X.heap.size = w.heap.size + 1) ⟨StBox.new w r d sp q co k 24, (Below.refl _ _).alloc (Nat.le_refl _) _, by simp⟩ ?_
   rintro X ⟨hst, hbX, hzX⟩
   have HSt : Hid (∀ w', Below X.heap.size X w' → StBox w' r d sp q co k w.heap.size) := Lib.hid fun w' h => hst.below h (by omega)
   clear hst hzX
   go_wp2_with (first | (go_at_call 11; refine (HF.out _ hbX).mono ?_; rintro e w1 ⟨rfl, hb1, hx1⟩; obtain ⟨_, _, _, _, _, _⟩ := HSt.out _ hx1) | (go_at_call 13; refine (HW.out _ hb1).mono ?_; rintro e w2 ⟨⟨A2, c2, rfl, o2⟩, hb2, hx2⟩; have hX2 := hx1.trans (hx2.mono hx1.size); obtain ⟨_, _, _, _, _, _⟩ := HSt.out _ hX2) | (go_at_call 12; refine (HA.out _ (by assumption)).mono ?_; rintro e wa ⟨rfl, hba, hxa⟩))
   go_loop [28] (fun x => ∃ j : Nat, j ≤ W.length ∧ x = .int .i64 j) (fun x => W.length - (intOf x).toNat)
   case atStart => exact ⟨0, Nat.zero_le _, rfl⟩
   case round =>
    obtain ⟨j, hj, rfl⟩ := hrel
    by_cases hlt : j < W.length
    ·obtain ⟨B, O, rfl, hBb, hcell⟩ := (Rd.of_own o2).at_ hlt
     rw [sv_get _ _ hlt] at hcell
     obtain ⟨haz, hsz⟩ := HZ.out _ (List.getElem_mem hlt)
     obtain ⟨s1, s2⟩ := az_bytes haz
     have HS := Lib.hid s2
     clear s2 haz
     generalize W[j] = s at *
     have e1 : s.toList.isEmpty = false := by
      rw [ByteArray.toList_eq]
      have : s.data.toList.length = s.size := rfl
      cases h : s.data.toList with
      | nil => rw [h] at this; simp at this; omega
      | cons => rfl
     go_wp2
     go_loop [36] (fun y => ∃ i : Nat, i ≤ s.size ∧ y = .int .i64 i) (fun y => s.size - (intOf y).toNat)
     case atStart => exact ⟨0, Nat.zero_le _, rfl⟩
     case round =>
      obtain ⟨i, hi, rfl⟩ := hrel
      by_cases hil : i < s.size
      ·obtain ⟨g1, g2⟩ := HS.out i hil
       go_wp2
       exact ⟨⟨i + 1, by omega, by go_num⟩, by simp [intOf]; omega⟩
      ·go_wp2
       exact ⟨⟨j + 1, by omega, by go_num⟩, by simp [intOf]; omega⟩
    ·go_wp2_with (go_at_call 12; refine (HA.out _ (by assumption)).mono ?_; rintro e wa ⟨rfl, hba, hxa⟩)
     go_ret
     exact ⟨rfl, hba⟩
  ·have HW : Hid (∀ X, Below w.heap.size w X → Calls Tryz.prog 13 #[.slice A l.length c, .int .i64 m, stV r d sp q co k] X fun e X' => e = .returned (.tuple #[.slice none 0 0, .int .i64 (wErr l m r q k)]) ∧ Below w.heap.size w X' ∧ Below X.heap.size X X') := Lib.hid fun X hX => k_wordsF hg hf rd hE X hX
   have hEb : (wErr l m r q k != 0) = true := bne_iff_ne.2 hE
   generalize wErr l m r q k = E at *
   clear hf rd hg hE
   go_enter Tryz.func10, Tryz.ntmps10
   go_upto_region 1 with fail
   refine wp_fg (fun X => StBox X r d sp q co k w.heap.size ∧ Below w.heap.size w X ∧ X.heap.size = w.heap.size + 1) ⟨StBox.new w r d sp q co k 24, (Below.refl _ _).alloc (Nat.le_refl _) _, by simp⟩ ?_
   rintro X ⟨hst, hbX, hzX⟩
   have HSt : Hid (∀ w', Below X.heap.size X w' → StBox w' r d sp q co k w.heap.size) := Lib.hid fun w' h => hst.below h (by omega)
   clear hst hzX
   go_wp2_with (first | (go_at_call 11; refine (HF.out _ hbX).mono ?_; rintro e w1 ⟨rfl, hb1, hx1⟩; obtain ⟨_, _, _, _, _, _⟩ := HSt.out _ hx1) | (go_at_call 13; refine (HW.out _ hb1).mono ?_; rintro e w2 ⟨rfl, hb2, hx2⟩; have hX2 := hx1.trans (hx2.mono hx1.size); obtain ⟨_, _, _, _, _, _⟩ := HSt.out _ hX2) | (go_at_call 12; refine (HA.out _ (by assumption)).mono ?_; rintro e wa ⟨rfl, hba, hxa⟩))
   go_ret
   exact ⟨rfl, hba⟩
 ·have hf' : fineC l = false := by simpa using hf
  rw [hf'] at HF
  clear hf hf' rd hg
  go_enter Tryz.func10, Tryz.ntmps10
  go_upto_region 1 with fail
  refine wp_fg (fun X => StBox X r d sp q co k w.heap.size ∧ Below w.heap.size w X ∧ X.heap.size = w.heap.size + 1) ⟨StBox.new w r d sp q co k 24, (Below.refl _ _).alloc (Nat.le_refl _) _, by simp⟩ ?_
  rintro X ⟨hst, hbX, hzX⟩
  have HSt : Hid (∀ w', Below X.heap.size X w' → StBox w' r d sp q co k w.heap.size) := Lib.hid fun w' h => hst.below h (by omega)
  clear hst hzX
  go_wp2_with (first | (go_at_call 11; refine (HF.out _ hbX).mono ?_; rintro e w1 ⟨rfl, hb1, hx1⟩; obtain ⟨_, _, _, _, _, _⟩ := HSt.out _ hx1) | (go_at_call 12; refine (HA.out _ (by assumption)).mono ?_; rintro e wa ⟨rfl, hba, hxa⟩))
  go_ret
  exact ⟨rfl, hba⟩
end Go.Proofs.YtejjfiipghcifaaGreatDoor
