/- Joined texts: UxR. -/
import Derived.Test.YtejjfiipghcifaaGreatDoorQCJ
set_option linter.unusedVariables false
set_option linter.unusedSimpArgs false
set_option linter.unnecessarySimpa false
namespace Go.Proofs.YtejjfiipghcifaaGreatDoor
open Go.RowKit
set_option maxRecDepth 20000
set_option maxHeartbeats 4000000 in
theorem law_UtteranceRoundTrip (w : World) (hg : Gd w) (A : Option Addr) (n c : Nat) (l : List ChgM) (hn : l.length = n) (hc : n ≤ c) (hm : c ≤ maxLen) (rd : RdC w w.heap.size A n l) (m : Int) (wm : (Lit.int .i64 m).wf = true) (r : Int) (d sp : Bool) (q : Int) (co : Bool) (k : Int) (wr : (Lit.int .i64 r).wf = true) (wq : (Lit.int .i64 q).wf = true) (wk : (Lit.int .i64 k).wf = true) :
  Calls Tryz.prog 5 #[.slice A n c, .int .i64 m, stV r d sp q co k] w (Gives (.bool true) w) := by
 subst hn
 have HA : Hid (∀ X, Below w.heap.size w X → Calls Tryz.prog 12 #[] X fun e X' => e = .returned (.bool true) ∧ Below w.heap.size w X' ∧ Below X.heap.size X X') := Lib.hid fun X hX => bothG (awake41_ X (hg.below hX)) hX
 have HF : Hid (∀ X, Below w.heap.size w X → Calls Tryz.prog 11 #[.slice A l.length c] X fun e X' => e = .returned (.bool (fineC l)) ∧ Below w.heap.size w X' ∧ Below X.heap.size X X') := Lib.hid fun X hX => bothG (fine_ l A _ c w.heap.size X (by omega) (rd.below hX) hX.size) hX
 by_cases hf : fineC l = true
 ·rw [hf] at HF
  have HCk : Hid (∀ X, Below w.heap.size w X → Calls Tryz.prog 16 #[.slice A l.length c] X fun e X' => e = .returned (.int .i64 (chkAll l)) ∧ Below w.heap.size w X' ∧ Below X.heap.size X X') := Lib.hid fun X hX => bothG (uCheck_ l A _ c w.heap.size X (by have := (fine_some hf).1; omega) (rd.below hX) hX.size (sm_of hf) (hg.below hX).2.1) hX
  have HSc : Hid (∀ X, Below w.heap.size w X → Calls Tryz.prog 22 #[stV r d sp q co k] X fun e X' => e = .returned (.int .i64 (setE r q k)) ∧ Below w.heap.size w X' ∧ Below X.heap.size X X') := Lib.hid fun X hX => bothG (check_s r d sp q co k X) hX
  by_cases hE : wErr l m r q k = 0
  ·obtain ⟨h1, h2, h3, h4⟩ := wErr_ok hE
   obtain ⟨h5, h6⟩ := fine_chk hf h4
   obtain ⟨h7, h8⟩ := words_small ⟨d, sp, q⟩ h2 h3 h5 h6
   have hback := changes_words (chgs l) m ⟨d, sp, q⟩ h2 h3 fun x hx => (h6 x hx).1
   have HW : Hid (∀ X, Below w.heap.size w X → Calls Tryz.prog 13 #[.slice A l.length c, .int .i64 m, stV r d sp q co k] X fun e X' => (∃ A2 c2, e = .returned (.tuple #[.slice A2 (wordsU (chgs l) m ⟨d, sp, q⟩).length c2, .int .i64 0]) ∧ X'.ownsRow X.heap.size 9 1 (.slice A2 (wordsU (chgs l) m ⟨d, sp, q⟩).length c2) (wordsU (chgs l) m ⟨d, sp, q⟩).length (sv (wordsU (chgs l) m ⟨d, sp, q⟩))) ∧ Below w.heap.size w X' ∧ Below X.heap.size X X') := Lib.hid fun X hX =>
    (k_words hg hf rd X hX).mono fun e X' ⟨h, h'⟩ => by
     unfold UwR at h
     rw [if_pos hE] at h
     obtain ⟨A2, c2, he, ho, _⟩ := h
     exact ⟨⟨A2, c2, he, ho⟩, h'⟩
   have HCh : Hid (∀ X, Below w.heap.size w X → ∀ A2 c2 base, X.ownsRow base 9 1 (.slice A2 (wordsU (chgs l) m ⟨d, sp, q⟩).length c2) (wordsU (chgs l) m ⟨d, sp, q⟩).length (sv (wordsU (chgs l) m ⟨d, sp, q⟩)) → Calls Tryz.prog 19 #[.slice A2 (wordsU (chgs l) m ⟨d, sp, q⟩).length c2] X fun e X' => (∃ out A3 c3, chgs out = chgs l ∧ e = .returned (.tuple #[.slice A3 out.length c3, .int .i64 m, .int .i64 0]) ∧ RdC X' X'.heap.size A3 out.length out) ∧ Below w.heap.size w X' ∧ Below X.heap.size X X') := Lib.hid fun X hX A2 c2 base ho =>
    (k_changes hg h7 h8 X hX A2 c2 base ho).mono fun e X' ⟨⟨hb, h⟩, h'⟩ => by
     rw [hback] at h
     obtain ⟨out, A3, c3, h1, h2, h3, h4⟩ := h
     exact ⟨⟨out, A3, c3, h1, h2, h4.rdc h3⟩, h'⟩
   have HSm : Hid (∀ X, Below w.heap.size w X → ∀ out A3 c3, chgs out = chgs l → RdC X X.heap.size A3 out.length out → Calls Tryz.prog 21 #[.slice A3 out.length c3, .slice A l.length c] X fun e X' => e = .returned (.bool true) ∧ Below w.heap.size w X' ∧ Below X.heap.size X X') := Lib.hid fun X hX out A3 c3 ho hr => by
    have hlo : out.length = l.length := by rw [← chgs_len, ho, chgs_len]
    have h := rsame19 out l A3 A out.length l.length c3 c X.heap.size X (by rw [hlo]; have := (fine_some hf).1; omega) hr ((rd.below hX).more hX.size) (Nat.le_refl _) fun x hx => by
     have hxc : x.c ∈ chgs l := by rw [← ho]; exact List.mem_map_of_mem hx
     have := (h6 x.c hxc).2.1
     omega
    rw [decide_eq_true ho] at h
    exact bothG h hX
   rw [h4] at HCk
   rw [h1] at HSc
   clear h1 h4 h5 h6 h7 h8 hback hE hf rd hg
   generalize wordsU (chgs l) m ⟨d, sp, q⟩ = W at *
   have w1' : ¬ m < 0 := by omega
   go_enter Tryz.func5, Tryz.ntmps5
   go_upto_region 1 with fail
   refine wp_fg (fun X => StBox X r d sp q co k w.heap.size ∧ Below w.heap.size w X ∧ X.heap.size = w.heap.size + 1) ⟨StBox.new w r d sp q co k 24, (Below.refl _ _).alloc (Nat.le_refl _) _, by simp⟩ ?_
   rintro X ⟨hst, hbX, hzX⟩
   have HSt : Hid (∀ w', Below X.heap.size X w' → StBox w' r d sp q co k w.heap.size) := Lib.hid fun w' h => hst.below h (by omega)
   clear hst hzX
   go_wp2_with (first
    | (go_at_call 11; refine (HF.out _ hbX).mono ?_; rintro e w1 ⟨rfl, hb1, hx1⟩; obtain ⟨_, _, _, _, _, _⟩ := HSt.out _ hx1)
    | (go_at_call 13; refine (HW.out _ hb1).mono ?_; rintro e w2 ⟨⟨A2, c2, rfl, o2⟩, hb2, hx2⟩; have hX2 := hx1.trans (hx2.mono hx1.size); obtain ⟨_, _, _, _, _, _⟩ := HSt.out _ hX2)
    | (go_at_call 16; refine (HCk.out _ hb2).mono ?_; rintro e w3 ⟨rfl, hb3, hx3⟩; have hX3 := hX2.trans (hx3.mono hX2.size); obtain ⟨_, _, _, _, _, _⟩ := HSt.out _ hX3)
    | (go_at_call 22; refine (HSc.out _ hb3).mono ?_; rintro e w4 ⟨rfl, hb4, hx4⟩)
    | (go_at_call 19; refine (HCh.out _ hb4 _ _ _ (own_below (own_below o2 hx3) hx4)).mono ?_; rintro e w5 ⟨⟨out, A3, c3, ho, rfl, hr⟩, hb5, hx5⟩; have HSo := HSm.out _ hb5 _ _ c3 ho hr; clear ho)
    | (go_at_call 21; refine HSo.mono ?_; rintro e w6 ⟨rfl, hb6, hx6⟩)
    | (go_at_call 12; refine (HA.out _ (by assumption)).mono ?_; rintro e wa ⟨rfl, hba, hxa⟩))
   go_ret
   exact ⟨rfl, hba⟩
  ·have HW : Hid (∀ X, Below w.heap.size w X → Calls Tryz.prog 13 #[.slice A l.length c, .int .i64 m, stV r d sp q co k] X fun e X' => e = .returned (.tuple #[.slice none 0 0, .int .i64 (wErr l m r q k)]) ∧ Below w.heap.size w X' ∧ Below X.heap.size X X') := Lib.hid fun X hX =>
    (k_words hg hf rd X hX).mono fun e X' ⟨h, h'⟩ => by
     unfold UwR at h
     rw [if_neg hE] at h
     exact ⟨h.1, h'⟩
   have hWE : wErr l m r q k = if setE r q k ≠ 0 ∨ m < 0 then 1 else if 999999999 < m then 5 else chkAll l := rfl
   have hEb : (wErr l m r q k != 0) = true := bne_iff_ne.2 hE
   generalize wErr l m r q k = E at *
   generalize chkAll l = E2 at *
   generalize setE r q k = E1 at *
   clear hf rd hg
   by_cases h4 : E2 = 0
   ·by_cases h1 : E1 = 0
    ·by_cases h2 : m < 0
     ·subst h1 h4
      clear hWE hE
      have h2' : ¬ 0 ≤ m := by omega
      have h2b : decide (0 ≤ m) = false := decide_eq_false h2'
      go_enter Tryz.func5, Tryz.ntmps5
      go_upto_region 1 with fail
      refine wp_fg (fun X => StBox X r d sp q co k w.heap.size ∧ Below w.heap.size w X ∧ X.heap.size = w.heap.size + 1) ⟨StBox.new w r d sp q co k 24, (Below.refl _ _).alloc (Nat.le_refl _) _, by simp⟩ ?_
      rintro X ⟨hst, hbX, hzX⟩
      have HSt : Hid (∀ w', Below X.heap.size X w' → StBox w' r d sp q co k w.heap.size) := Lib.hid fun w' h => hst.below h (by omega)
      clear hst hzX
      go_wp2_with (first
       | (go_at_call 11; refine (HF.out _ hbX).mono ?_; rintro e w1 ⟨rfl, hb1, hx1⟩; obtain ⟨_, _, _, _, _, _⟩ := HSt.out _ hx1)
       | (go_at_call 13; refine (HW.out _ hb1).mono ?_; rintro e w2 ⟨rfl, hb2, hx2⟩; have hX2 := hx1.trans (hx2.mono hx1.size); obtain ⟨_, _, _, _, _, _⟩ := HSt.out _ hX2)
       | (go_at_call 16; refine (HCk.out _ hb2).mono ?_; rintro e w3 ⟨rfl, hb3, hx3⟩; have hX3 := hX2.trans (hx3.mono hX2.size); obtain ⟨_, _, _, _, _, _⟩ := HSt.out _ hX3)
       | (go_at_call 22; refine (HSc.out _ hb3).mono ?_; rintro e w4 ⟨rfl, hb4, hx4⟩)
       | (go_at_call 12; refine (HA.out _ (by assumption)).mono ?_; rintro e wa ⟨rfl, hba, hxa⟩))
      go_ret
      exact ⟨rfl, hba⟩
     ·have h3 : 999999999 < m := by
       rcases Int.lt_or_le 999999999 m with h | h
       ·exact h
       ·exfalso
        rw [if_neg (by rw [h1]; simp; omega), if_neg (by omega), h4] at hWE
        exact hE hWE
      subst h1 h4
      clear hWE hE
      have h3' : ¬ m ≤ 999999999 := by omega
      have h3b : decide (m ≤ 999999999) = false := decide_eq_false h3'
      go_enter Tryz.func5, Tryz.ntmps5
      go_upto_region 1 with fail
      refine wp_fg (fun X => StBox X r d sp q co k w.heap.size ∧ Below w.heap.size w X ∧ X.heap.size = w.heap.size + 1) ⟨StBox.new w r d sp q co k 24, (Below.refl _ _).alloc (Nat.le_refl _) _, by simp⟩ ?_
      rintro X ⟨hst, hbX, hzX⟩
      have HSt : Hid (∀ w', Below X.heap.size X w' → StBox w' r d sp q co k w.heap.size) := Lib.hid fun w' h => hst.below h (by omega)
      clear hst hzX
      go_wp2_with (first
       | (go_at_call 11; refine (HF.out _ hbX).mono ?_; rintro e w1 ⟨rfl, hb1, hx1⟩; obtain ⟨_, _, _, _, _, _⟩ := HSt.out _ hx1)
       | (go_at_call 13; refine (HW.out _ hb1).mono ?_; rintro e w2 ⟨rfl, hb2, hx2⟩; have hX2 := hx1.trans (hx2.mono hx1.size); obtain ⟨_, _, _, _, _, _⟩ := HSt.out _ hX2)
       | (go_at_call 16; refine (HCk.out _ hb2).mono ?_; rintro e w3 ⟨rfl, hb3, hx3⟩; have hX3 := hX2.trans (hx3.mono hX2.size); obtain ⟨_, _, _, _, _, _⟩ := HSt.out _ hX3)
       | (go_at_call 22; refine (HSc.out _ hb3).mono ?_; rintro e w4 ⟨rfl, hb4, hx4⟩)
       | (go_at_call 12; refine (HA.out _ (by assumption)).mono ?_; rintro e wa ⟨rfl, hba, hxa⟩))
      go_ret
      exact ⟨rfl, hba⟩
    ·have h1b : (E1 == 0) = false := beq_eq_false_iff_ne.2 h1
     subst h4
     clear hWE hE h1
     go_enter Tryz.func5, Tryz.ntmps5
     go_upto_region 1 with fail
     refine wp_fg (fun X => StBox X r d sp q co k w.heap.size ∧ Below w.heap.size w X ∧ X.heap.size = w.heap.size + 1) ⟨StBox.new w r d sp q co k 24, (Below.refl _ _).alloc (Nat.le_refl _) _, by simp⟩ ?_
     rintro X ⟨hst, hbX, hzX⟩
     have HSt : Hid (∀ w', Below X.heap.size X w' → StBox w' r d sp q co k w.heap.size) := Lib.hid fun w' h => hst.below h (by omega)
     clear hst hzX
     go_wp2_with (first
      | (go_at_call 11; refine (HF.out _ hbX).mono ?_; rintro e w1 ⟨rfl, hb1, hx1⟩; obtain ⟨_, _, _, _, _, _⟩ := HSt.out _ hx1)
      | (go_at_call 13; refine (HW.out _ hb1).mono ?_; rintro e w2 ⟨rfl, hb2, hx2⟩; have hX2 := hx1.trans (hx2.mono hx1.size); obtain ⟨_, _, _, _, _, _⟩ := HSt.out _ hX2)
      | (go_at_call 16; refine (HCk.out _ hb2).mono ?_; rintro e w3 ⟨rfl, hb3, hx3⟩; have hX3 := hX2.trans (hx3.mono hX2.size); obtain ⟨_, _, _, _, _, _⟩ := HSt.out _ hX3)
      | (go_at_call 22; refine (HSc.out _ hb3).mono ?_; rintro e w4 ⟨rfl, hb4, hx4⟩)
      | (go_at_call 12; refine (HA.out _ (by assumption)).mono ?_; rintro e wa ⟨rfl, hba, hxa⟩))
     go_ret
     exact ⟨rfl, hba⟩
   ·have h4b : (E2 == 0) = false := beq_eq_false_iff_ne.2 h4
    clear hWE hE h4
    go_enter Tryz.func5, Tryz.ntmps5
    go_upto_region 1 with fail
    refine wp_fg (fun X => StBox X r d sp q co k w.heap.size ∧ Below w.heap.size w X ∧ X.heap.size = w.heap.size + 1) ⟨StBox.new w r d sp q co k 24, (Below.refl _ _).alloc (Nat.le_refl _) _, by simp⟩ ?_
    rintro X ⟨hst, hbX, hzX⟩
    have HSt : Hid (∀ w', Below X.heap.size X w' → StBox w' r d sp q co k w.heap.size) := Lib.hid fun w' h => hst.below h (by omega)
    clear hst hzX
    go_wp2_with (first
     | (go_at_call 11; refine (HF.out _ hbX).mono ?_; rintro e w1 ⟨rfl, hb1, hx1⟩; obtain ⟨_, _, _, _, _, _⟩ := HSt.out _ hx1)
     | (go_at_call 13; refine (HW.out _ hb1).mono ?_; rintro e w2 ⟨rfl, hb2, hx2⟩; have hX2 := hx1.trans (hx2.mono hx1.size); obtain ⟨_, _, _, _, _, _⟩ := HSt.out _ hX2)
     | (go_at_call 16; refine (HCk.out _ hb2).mono ?_; rintro e w3 ⟨rfl, hb3, hx3⟩; have hX3 := hX2.trans (hx3.mono hX2.size); obtain ⟨_, _, _, _, _, _⟩ := HSt.out _ hX3)
     | (go_at_call 22; refine (HSc.out _ hb3).mono ?_; rintro e w4 ⟨rfl, hb4, hx4⟩)
     | (go_at_call 12; refine (HA.out _ (by assumption)).mono ?_; rintro e wa ⟨rfl, hba, hxa⟩))
    go_ret
    exact ⟨rfl, hba⟩
 ·have hf' : fineC l = false := by simpa using hf
  rw [hf'] at HF
  clear hf hf' rd hg
  go_enter Tryz.func5, Tryz.ntmps5
  go_upto_region 1 with fail
  refine wp_fg (fun X => StBox X r d sp q co k w.heap.size ∧ Below w.heap.size w X ∧ X.heap.size = w.heap.size + 1) ⟨StBox.new w r d sp q co k 24, (Below.refl _ _).alloc (Nat.le_refl _) _, by simp⟩ ?_
  rintro X ⟨hst, hbX, hzX⟩
  have HSt : Hid (∀ w', Below X.heap.size X w' → StBox w' r d sp q co k w.heap.size) := Lib.hid fun w' h => hst.below h (by omega)
  clear hst hzX
  go_wp2_with (first | (go_at_call 11; refine (HF.out _ hbX).mono ?_; rintro e w1 ⟨rfl, hb1, hx1⟩; obtain ⟨_, _, _, _, _, _⟩ := HSt.out _ hx1) | (go_at_call 12; refine (HA.out _ (by assumption)).mono ?_; rintro e wa ⟨rfl, hba, hxa⟩))
  go_ret
  exact ⟨rfl, hba⟩
end Go.Proofs.YtejjfiipghcifaaGreatDoor
