/- Joined texts: UxW. -/
import Derived.Test.YtejjfiipghcifaaGreatDoorQAA
import Derived.Test.YtejjfiipghcifaaGreatDoorQAB
import Derived.Test.YtejjfiipghcifaaGreatDoorQAC
import Derived.Test.YtejjfiipghcifaaGreatDoorQAE
import Derived.Test.YtejjfiipghcifaaGreatDoorQAG
import Derived.Test.YtejjfiipghcifaaGreatDoorQAH
import Derived.Test.YtejjfiipghcifaaGreatDoorQAJ
import Derived.Test.YtejjfiipghcifaaGreatDoorQAN
import Derived.Test.YtejjfiipghcifaaGreatDoorQAO
import Derived.Test.YtejjfiipghcifaaGreatDoorQAR
import Derived.Test.YtejjfiipghcifaaGreatDoorQAU
import Derived.Test.YtejjfiipghcifaaGreatDoorQAW
import Derived.Test.YtejjfiipghcifaaGreatDoorQBA
import Derived.Test.YtejjfiipghcifaaGreatDoorQBC
import Derived.Test.YtejjfiipghcifaaGreatDoorQBD
import Derived.Test.YtejjfiipghcifaaGreatDoorQBE
import Derived.Test.YtejjfiipghcifaaGreatDoorQBF
import Derived.Test.YtejjfiipghcifaaGreatDoorQBH
import Derived.Test.YtejjfiipghcifaaGreatDoorQBI
import Derived.Test.YtejjfiipghcifaaGreatDoorQBJ
import Derived.Test.YtejjfiipghcifaaGreatDoorQBP
import Derived.Test.YtejjfiipghcifaaGreatDoorQBQ
import Derived.Test.YtejjfiipghcifaaGreatDoorQBT
import Derived.Test.YtejjfiipghcifaaGreatDoorQBU
import Derived.Test.YtejjfiipghcifaaGreatDoorQBW
set_option linter.unusedVariables false
set_option linter.unusedSimpArgs false
set_option linter.unnecessarySimpa false
namespace Go.Proofs.YtejjfiipghcifaaGreatDoor
open Go.RowKit
set_option maxRecDepth 20000
theorem Rd.nil_ {w : World} {B size : Nat} (A : Option Addr) : Rd w B size A 0 (sv []) := ⟨by simp [sv], fun h => absurd h (Nat.lt_irrefl _)⟩
set_option maxHeartbeats 4000000 in
theorem law_UtteranceWords (w : World) (hg : Gd w ∧ Tb w) (A : Option Addr) (n c : Nat) (l : List ChgM) (hn : l.length = n) (hc : n ≤ c) (hm : c ≤ maxLen) (rd : RdC w w.heap.size A n l) (m : Int) (wm : (Lit.int .i64 m).wf = true) (r : Int) (d sp : Bool) (q : Int) (co : Bool) (k : Int) (wr : (Lit.int .i64 r).wf = true) (wq : (Lit.int .i64 q).wf = true) (wk : (Lit.int .i64 k).wf = true) :
  Calls Tryz.prog 3 #[.slice A n c, .int .i64 m, stV r d sp q co k] w (Gives (.bool true) w) := by
 subst hn
 obtain ⟨hg, ht⟩ := hg
 have HA : Hid (∀ X, Below w.heap.size w X → Calls Tryz.prog 12 #[] X fun e X' => e = .returned (.bool true) ∧ Below w.heap.size w X' ∧ Below X.heap.size X X') := Lib.hid fun X hX => bothG (awake41_ X (hg.below hX)) hX
 have HF : Hid (∀ X, Below w.heap.size w X → Calls Tryz.prog 11 #[.slice A l.length c] X fun e X' => e = .returned (.bool (fineC l)) ∧ Below w.heap.size w X' ∧ Below X.heap.size X X') := Lib.hid fun X hX => bothG (fine_ l A _ c w.heap.size X (by omega) (rd.below hX) hX.size) hX
 by_cases hf : fineC l = true
 ·rw [hf] at HF
  have HC : Hid (∀ X, Below w.heap.size w X → Calls Tryz.prog 16 #[.slice A l.length c] X fun e X' => e = .returned (.int .i64 (chkAll l)) ∧ Below w.heap.size w X' ∧ Below X.heap.size X X') := Lib.hid fun X hX => bothG (uCheck_ l A _ c w.heap.size X (by have := (fine_some hf).1; omega) (rd.below hX) hX.size (sm_of hf) (hg.below hX).2.1) hX
  have HC' : Hid (∀ X, Below w.heap.size w X → Calls Tryz.prog 17 #[.slice A l.length c] X fun e X' => e = .returned (.int .i64 (chkAll l)) ∧ Below w.heap.size w X' ∧ Below X.heap.size X X') := Lib.hid fun X hX => bothG (vCheck_ l A _ c w.heap.size X (by have := (fine_some hf).1; omega) (rd.below hX) hX.size (sm_of hf)) hX
  have HRW : ∀ X, Below w.heap.size w X → Calls Tryz.prog 14 #[.slice A l.length c, .int .i64 m, stV r d sp q co k] X fun e X' => VwR l m r q k ⟨d, sp, q⟩ X e X' := fun X hX =>
   vwords_ l A _ c m r d sp q co k X (by have := (fine_some hf).1; omega) ((rd.below hX).more hX.size) (sm_of hf) (ht.below hX)
  by_cases hE : wErr l m r q k = 0
  ·obtain ⟨h1, h2, h3, h4⟩ := wErr_ok hE
   obtain ⟨h5, h6⟩ := fine_chk hf h4
   have HL : (wordsU (chgs l) m ⟨d, sp, q⟩).length ≤ 400000 := (words_small ⟨d, sp, q⟩ h2 h3 h5 h6).1
   have HR : Hid (∀ X, Below w.heap.size w X → Calls Tryz.prog 14 #[.slice A l.length c, .int .i64 m, stV r d sp q co k] X fun e X' => (∃ A2 c2, e = .returned (.tuple #[.slice A2 (wordsU (chgs l) m ⟨d, sp, q⟩).length c2, .int .i64 0]) ∧ X'.ownsRow X.heap.size 9 1 (.slice A2 (wordsU (chgs l) m ⟨d, sp, q⟩).length c2) (wordsU (chgs l) m ⟨d, sp, q⟩).length (sv (wordsU (chgs l) m ⟨d, sp, q⟩))) ∧ Below w.heap.size w X' ∧ Below X.heap.size X X') := Lib.hid fun X hX => (HRW X hX).mono fun e X' h => by
    unfold VwR at h
    rw [if_pos hE] at h
    obtain ⟨A2, c2, he, ho, hb⟩ := h
    exact ⟨⟨A2, c2, he, ho⟩, hX.trans (hb.mono hX.size), hb⟩
   have HW : Hid (∀ X, Below w.heap.size w X → Calls Tryz.prog 13 #[.slice A l.length c, .int .i64 m, stV r d sp q co k] X fun e X' => (∃ A2 c2, e = .returned (.tuple #[.slice A2 (wordsU (chgs l) m ⟨d, sp, q⟩).length c2, .int .i64 0]) ∧ X'.ownsRow X.heap.size 9 1 (.slice A2 (wordsU (chgs l) m ⟨d, sp, q⟩).length c2) (wordsU (chgs l) m ⟨d, sp, q⟩).length (sv (wordsU (chgs l) m ⟨d, sp, q⟩))) ∧ Below w.heap.size w X' ∧ Below X.heap.size X X') := Lib.hid fun X hX => k_wordsT hg hf rd hE X hX
   clear h1 h2 h3 h4 h5 h6 hE hf rd hg ht HRW
   generalize wordsU (chgs l) m ⟨d, sp, q⟩ = W at *
   generalize chkAll l = E at *
   go_enter Tryz.func3, Tryz.ntmps3
   go_upto_region 1 with fail
   refine wp_fg (fun X => StBox X r d sp q co k w.heap.size ∧ Below w.heap.size w X ∧ X.heap.size = w.heap.size + 1) ⟨StBox.new w r d sp q co k 24, (Below.refl _ _).alloc (Nat.le_refl _) _, by simp⟩ ?_
   rintro X ⟨hst, hbX, hzX⟩
   have HSt : Hid (∀ w', Below X.heap.size X w' → StBox w' r d sp q co k w.heap.size) := Lib.hid fun w' h => hst.below h (by omega)
   clear hst hzX
   go_wp2_with (first | (go_at_call 11; refine (HF.out _ hbX).mono ?_; rintro e w1 ⟨rfl, hb1, hx1⟩; obtain ⟨_, _, _, _, _, _⟩ := HSt.out _ hx1) | (go_at_call 13; refine (HW.out _ hb1).mono ?_; rintro e w2 ⟨⟨A2, c2, rfl, o2⟩, hb2, hx2⟩; have hX2 := hx1.trans (hx2.mono hx1.size); obtain ⟨_, _, _, _, _, _⟩ := HSt.out _ hX2) | (go_at_call 14; refine (HR.out _ hb2).mono ?_; rintro e w3 ⟨⟨A3, c3, rfl, o3⟩, hb3, hx3⟩; have o23 := own_below o2 hx3; have hX3 := hX2.trans (hx3.mono hX2.size); obtain ⟨_, _, _, _, _, _⟩ := HSt.out _ hX3) | (go_at_call 15; refine (bothQ (same_t W W rfl _ _ _ _ _ _ _ _ _ rfl rfl (Rd.of_own o23) (Rd.of_own o3) (by first | omega | (simp only [List.length_cons, List.length_nil]; omega)) (by first | omega | (simp only [List.length_cons, List.length_nil]; omega))) hb3).mono ?_; rintro e w4 ⟨rfl, hb4, hx4⟩) | (go_at_call 16; refine (HC.out _ hb4).mono ?_; rintro e w5 ⟨rfl, hb5, hx5⟩) | (go_at_call 17; refine (HC'.out _ hb5).mono ?_; rintro e w6 ⟨rfl, hb6, hx6⟩) | (go_at_call 12; refine (HA.out _ (by assumption)).mono ?_; rintro e wa ⟨rfl, hba, hxa⟩))
   go_ret
   exact ⟨rfl, hba⟩
  ·have HR : Hid (∀ X, Below w.heap.size w X → Calls Tryz.prog 14 #[.slice A l.length c, .int .i64 m, stV r d sp q co k] X fun e X' => (∃ A2, e = .returned (.tuple #[.slice A2 0 0, .int .i64 (wErr l m r q k)])) ∧ Below w.heap.size w X' ∧ Below X.heap.size X X') := Lib.hid fun X hX => (HRW X hX).mono fun e X' h => by
    unfold VwR at h
    rw [if_neg hE] at h
    exact ⟨h.1, hX.trans (h.2.mono hX.size), h.2⟩
   have HW : Hid (∀ X, Below w.heap.size w X → Calls Tryz.prog 13 #[.slice A l.length c, .int .i64 m, stV r d sp q co k] X fun e X' => e = .returned (.tuple #[.slice none 0 0, .int .i64 (wErr l m r q k)]) ∧ Below w.heap.size w X' ∧ Below X.heap.size X X') := Lib.hid fun X hX => k_wordsF hg hf rd hE X hX
   generalize wErr l m r q k = E1 at *
   generalize chkAll l = E at *
   clear hf rd hg hE ht HRW
   go_enter Tryz.func3, Tryz.ntmps3
   go_upto_region 1 with fail
   refine wp_fg (fun X => StBox X r d sp q co k w.heap.size ∧ Below w.heap.size w X ∧ X.heap.size = w.heap.size + 1) ⟨StBox.new w r d sp q co k 24, (Below.refl _ _).alloc (Nat.le_refl _) _, by simp⟩ ?_
   rintro X ⟨hst, hbX, hzX⟩
   have HSt : Hid (∀ w', Below X.heap.size X w' → StBox w' r d sp q co k w.heap.size) := Lib.hid fun w' h => hst.below h (by omega)
   clear hst hzX
   go_wp2_with (first | (go_at_call 11; refine (HF.out _ hbX).mono ?_; rintro e w1 ⟨rfl, hb1, hx1⟩; obtain ⟨_, _, _, _, _, _⟩ := HSt.out _ hx1) | (go_at_call 13; refine (HW.out _ hb1).mono ?_; rintro e w2 ⟨rfl, hb2, hx2⟩; have hX2 := hx1.trans (hx2.mono hx1.size); obtain ⟨_, _, _, _, _, _⟩ := HSt.out _ hX2) | (go_at_call 14; refine (HR.out _ hb2).mono ?_; rintro e w3 ⟨⟨A3, rfl⟩, hb3, hx3⟩; have hX3 := hX2.trans (hx3.mono hX2.size); obtain ⟨_, _, _, _, _, _⟩ := HSt.out _ hX3) | (go_at_call 15; refine (bothQ (same_t [] [] rfl _ _ _ _ _ _ _ _ _ rfl rfl (Rd.nil_ (B := 0) _) (Rd.nil_ (B := 0) _) (by first | omega | (simp only [List.length_cons, List.length_nil]; omega)) (by first | omega | (simp only [List.length_cons, List.length_nil]; omega))) hb3).mono ?_; rintro e w4 ⟨rfl, hb4, hx4⟩) | (go_at_call 16; refine (HC.out _ hb4).mono ?_; rintro e w5 ⟨rfl, hb5, hx5⟩) | (go_at_call 17; refine (HC'.out _ hb5).mono ?_; rintro e w6 ⟨rfl, hb6, hx6⟩) | (go_at_call 12; refine (HA.out _ (by assumption)).mono ?_; rintro e wa ⟨rfl, hba, hxa⟩))
   go_ret
   exact ⟨rfl, hba⟩
 ·have hf' : fineC l = false := by simpa using hf
  rw [hf'] at HF
  clear hf hf' rd hg ht
  go_enter Tryz.func3, Tryz.ntmps3
  go_upto_region 1 with fail
  refine wp_fg (fun X => StBox X r d sp q co k w.heap.size ∧ Below w.heap.size w X ∧ X.heap.size = w.heap.size + 1) ⟨StBox.new w r d sp q co k 24, (Below.refl _ _).alloc (Nat.le_refl _) _, by simp⟩ ?_
  rintro X ⟨hst, hbX, hzX⟩
  have HSt : Hid (∀ w', Below X.heap.size X w' → StBox w' r d sp q co k w.heap.size) := Lib.hid fun w' h => hst.below h (by omega)
  clear hst hzX
  go_wp2_with (first | (go_at_call 11; refine (HF.out _ hbX).mono ?_; rintro e w1 ⟨rfl, hb1, hx1⟩; obtain ⟨_, _, _, _, _, _⟩ := HSt.out _ hx1) | (go_at_call 12; refine (HA.out _ (by assumption)).mono ?_; rintro e wa ⟨rfl, hba, hxa⟩))
  go_ret
  exact ⟨rfl, hba⟩
end Go.Proofs.YtejjfiipghcifaaGreatDoor
