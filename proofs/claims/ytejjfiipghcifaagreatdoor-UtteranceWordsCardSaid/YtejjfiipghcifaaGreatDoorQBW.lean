/- Joined texts: Vc1, Vc4. -/
import Derived.Test.YtejjfiipghcifaaGreatDoorQAA
import Derived.Test.YtejjfiipghcifaaGreatDoorQAB
import Derived.Test.YtejjfiipghcifaaGreatDoorQAC
import Derived.Test.YtejjfiipghcifaaGreatDoorQAD
import Derived.Test.YtejjfiipghcifaaGreatDoorQAE
import Derived.Test.YtejjfiipghcifaaGreatDoorQAG
import Derived.Test.YtejjfiipghcifaaGreatDoorQAH
import Derived.Test.YtejjfiipghcifaaGreatDoorQAJ
import Derived.Test.YtejjfiipghcifaaGreatDoorQAN
import Derived.Test.YtejjfiipghcifaaGreatDoorQAO
import Derived.Test.YtejjfiipghcifaaGreatDoorQAQ
import Derived.Test.YtejjfiipghcifaaGreatDoorQAR
import Derived.Test.YtejjfiipghcifaaGreatDoorQAU
import Derived.Test.YtejjfiipghcifaaGreatDoorQAV
import Derived.Test.YtejjfiipghcifaaGreatDoorQAW
import Derived.Test.YtejjfiipghcifaaGreatDoorQBA
import Derived.Test.YtejjfiipghcifaaGreatDoorQBC
import Derived.Test.YtejjfiipghcifaaGreatDoorQBD
import Derived.Test.YtejjfiipghcifaaGreatDoorQBE
import Derived.Test.YtejjfiipghcifaaGreatDoorQBF
import Derived.Test.YtejjfiipghcifaaGreatDoorQBH
import Derived.Test.YtejjfiipghcifaaGreatDoorQBI
import Derived.Test.YtejjfiipghcifaaGreatDoorQBJ
import Derived.Test.YtejjfiipghcifaaGreatDoorQBP
import Derived.Test.YtejjfiipghcifaaGreatDoorQBQ
import Derived.Test.YtejjfiipghcifaaGreatDoorQBT
import Derived.Test.YtejjfiipghcifaaGreatDoorQBV
set_option linter.unusedVariables false
set_option linter.unusedSimpArgs false
set_option linter.unnecessarySimpa false
namespace Go.Proofs.YtejjfiipghcifaaGreatDoor
open Go.RowKit
set_option maxRecDepth 20000
theorem rin41 (n a b : Int) (w : World) : Calls Tryz.prog 50 #[.int .i64 n, .int .i64 a, .int .i64 b] w fun e w' => e = .returned (.bool (inB n a b)) ∧ w = w' := by
 unfold inB
 by_cases h1 : a ≤ n
 ·by_cases h2 : n ≤ b
  ·go_enter Tryz.func50, Tryz.ntmps50
   go_wp2
   go_ret
   exact ⟨by simp [h1, h2], rfl⟩
  ·go_enter Tryz.func50, Tryz.ntmps50
   go_wp2
   go_ret
   exact ⟨by simp [h1, h2], rfl⟩
 ·go_enter Tryz.func50, Tryz.ntmps50
  go_wp2
  go_ret
  exact ⟨by rw [decide_eq_false (show ¬ a ≤ n by omega)]; rfl, rfl⟩
set_option maxHeartbeats 4000000 in
theorem vcheck_one (row col count til : Int) (g : List Gl) (A : Option Addr) (cap : Nat) (w : World) : Calls Tryz.prog 30 #[chgV ⟨1, row, col, count, til, g⟩ A cap] w (Gives (.int .i64 (chkU ⟨1, row, col, count, til, g⟩)) w) := by
 rw [chk_one]
 obtain ⟨R, hR⟩ : ∃ x, x = chkV (inB row 1 60 && inB col 1 132) (decide (count = 0) && decide (til = 0) && decide (g.length = 0)) false := ⟨_, rfl⟩
 rw [← hR]
 have HR := Lib.hid hR
 clear hR
 generalize hz0 : inB row 0 59 = z0 at *
 cases h1 : inB row 1 60 with
 | false => as_aux_lemma =>
  have HE : Hid (R = 2) := Lib.hid (by rw [HR.out]; simp [chkV, h1])
  clear HR
  skip
  go_enter Tryz.func30, Tryz.ntmps30
  go_upto_region 1 with fail
  refine wp_fg (ChgBox w ⟨1, row, col, count, til, g⟩ A cap) (ChgBox.new w ⟨1, row, col, count, til, g⟩ A cap _) ?_
  rintro X ⟨c0, c1, c2, c3, c4, c5, hb, hzX⟩
  dsimp only at c0 c1 c2 c3 c4 c5
  go_wp2_with (go_at_call 50; refine (rin41 _ _ _ _).mono ?_; rintro e wy ⟨rfl, rfl⟩)
  go_ret
  exact ⟨by rw [HE.out]; rfl, hb⟩
 | true =>
  cases h2 : inB col 1 132 with
  | false => as_aux_lemma =>
   have HE : Hid (R = 2) := Lib.hid (by rw [HR.out]; simp [chkV, h1, h2])
   clear HR
   skip
   go_enter Tryz.func30, Tryz.ntmps30
   go_upto_region 1 with fail
   refine wp_fg (ChgBox w ⟨1, row, col, count, til, g⟩ A cap) (ChgBox.new w ⟨1, row, col, count, til, g⟩ A cap _) ?_
   rintro X ⟨c0, c1, c2, c3, c4, c5, hb, hzX⟩
   dsimp only at c0 c1 c2 c3 c4 c5
   go_wp2_with (go_at_call 50; refine (rin41 _ _ _ _).mono ?_; rintro e wy ⟨rfl, rfl⟩)
   go_ret
   exact ⟨by rw [HE.out]; rfl, hb⟩
  | true =>
   by_cases h3 : count = 0
   ·have k3 : (count != 0) = false := by simp [h3]
    by_cases h4 : til = 0
    ·have k4 : (til != 0) = false := by simp [h4]
     by_cases h5 : g.length = 0
     ·as_aux_lemma =>
      have k5 : ¬ (0 : Int) < g.length := by omega
      have HE : Hid (R = 0) := Lib.hid (by rw [HR.out]; simp [chkV, h1, h2, h3, h4, h5])
      clear HR
      clear h3 h4 h5
      go_enter Tryz.func30, Tryz.ntmps30
      go_upto_region 1 with fail
      refine wp_fg (ChgBox w ⟨1, row, col, count, til, g⟩ A cap) (ChgBox.new w ⟨1, row, col, count, til, g⟩ A cap _) ?_
      rintro X ⟨c0, c1, c2, c3, c4, c5, hb, hzX⟩
      dsimp only at c0 c1 c2 c3 c4 c5
      go_wp2_with (go_at_call 50; refine (rin41 _ _ _ _).mono ?_; rintro e wy ⟨rfl, rfl⟩)
      go_ret
      exact ⟨by rw [HE.out]; rfl, hb⟩
     ·as_aux_lemma =>
      have k5 : (0 : Int) < g.length := by omega
      have HE : Hid (R = 1) := Lib.hid (by rw [HR.out]; simp [chkV, h1, h2, h3, h4, h5])
      clear HR
      clear h3 h4 h5
      go_enter Tryz.func30, Tryz.ntmps30
      go_upto_region 1 with fail
      refine wp_fg (ChgBox w ⟨1, row, col, count, til, g⟩ A cap) (ChgBox.new w ⟨1, row, col, count, til, g⟩ A cap _) ?_
      rintro X ⟨c0, c1, c2, c3, c4, c5, hb, hzX⟩
      dsimp only at c0 c1 c2 c3 c4 c5
      go_wp2_with (go_at_call 50; refine (rin41 _ _ _ _).mono ?_; rintro e wy ⟨rfl, rfl⟩)
      go_ret
      exact ⟨by rw [HE.out]; rfl, hb⟩
    ·as_aux_lemma =>
     have k4 : (til != 0) = true := bne_iff_ne.2 h4
     have HE : Hid (R = 1) := Lib.hid (by rw [HR.out]; simp [chkV, h1, h2, h3, h4])
     clear HR
     clear h3 h4
     go_enter Tryz.func30, Tryz.ntmps30
     go_upto_region 1 with fail
     refine wp_fg (ChgBox w ⟨1, row, col, count, til, g⟩ A cap) (ChgBox.new w ⟨1, row, col, count, til, g⟩ A cap _) ?_
     rintro X ⟨c0, c1, c2, c3, c4, c5, hb, hzX⟩
     dsimp only at c0 c1 c2 c3 c4 c5
     go_wp2_with (go_at_call 50; refine (rin41 _ _ _ _).mono ?_; rintro e wy ⟨rfl, rfl⟩)
     go_ret
     exact ⟨by rw [HE.out]; rfl, hb⟩
   ·as_aux_lemma =>
    have k3 : (count != 0) = true := bne_iff_ne.2 h3
    have HE : Hid (R = 1) := Lib.hid (by rw [HR.out]; simp [chkV, h1, h2, h3])
    clear HR
    clear h3
    go_enter Tryz.func30, Tryz.ntmps30
    go_upto_region 1 with fail
    refine wp_fg (ChgBox w ⟨1, row, col, count, til, g⟩ A cap) (ChgBox.new w ⟨1, row, col, count, til, g⟩ A cap _) ?_
    rintro X ⟨c0, c1, c2, c3, c4, c5, hb, hzX⟩
    dsimp only at c0 c1 c2 c3 c4 c5
    go_wp2_with (go_at_call 50; refine (rin41 _ _ _ _).mono ?_; rintro e wy ⟨rfl, rfl⟩)
    go_ret
    exact ⟨by rw [HE.out]; rfl, hb⟩
set_option maxHeartbeats 4000000 in
theorem vcheck_two (row col count til : Int) (g : List Gl) (A : Option Addr) (cap : Nat) (w : World) : Calls Tryz.prog 30 #[chgV ⟨2, row, col, count, til, g⟩ A cap] w (Gives (.int .i64 (chkU ⟨2, row, col, count, til, g⟩)) w) := by
 rw [chk_two]
 obtain ⟨R, hR⟩ : ∃ x, x = chkV (inB row 0 59 && inB til (row + 1) 60 && inB count (-60) 60 && decide (count ≠ 0)) (decide (col = 0) && decide (g.length = 0)) false := ⟨_, rfl⟩
 rw [← hR]
 have HR := Lib.hid hR
 clear hR
 cases h0 : inB row 0 59 with
 | false => as_aux_lemma =>
  have HE : Hid (R = 2) := Lib.hid (by rw [HR.out]; simp [chkV, h0])
  clear HR
  skip
  go_enter Tryz.func30, Tryz.ntmps30
  go_upto_region 1 with fail
  refine wp_fg (ChgBox w ⟨2, row, col, count, til, g⟩ A cap) (ChgBox.new w ⟨2, row, col, count, til, g⟩ A cap _) ?_
  rintro X ⟨c0, c1, c2, c3, c4, c5, hb, hzX⟩
  dsimp only at c0 c1 c2 c3 c4 c5
  go_wp2_with (go_at_call 50; refine (rin41 _ _ _ _).mono ?_; rintro e wy ⟨rfl, rfl⟩)
  go_ret
  exact ⟨by rw [HE.out]; rfl, hb⟩
 | true =>
  have e0 : IntKind.i64.wrap (row + 1) = row + 1 := by
   unfold inB at h0
   simp only [Bool.and_eq_true, decide_eq_true_eq] at h0
   rw [IntKind.wrap_i64]; omega
  cases h1 : inB til (row + 1) 60 with
  | false => as_aux_lemma =>
   have HE : Hid (R = 2) := Lib.hid (by rw [HR.out]; simp [chkV, h0, h1])
   clear HR
   skip
   go_enter Tryz.func30, Tryz.ntmps30
   go_upto_region 1 with fail
   refine wp_fg (ChgBox w ⟨2, row, col, count, til, g⟩ A cap) (ChgBox.new w ⟨2, row, col, count, til, g⟩ A cap _) ?_
   rintro X ⟨c0, c1, c2, c3, c4, c5, hb, hzX⟩
   dsimp only at c0 c1 c2 c3 c4 c5
   go_wp2_with (go_at_call 50; refine (rin41 _ _ _ _).mono ?_; rintro e wy ⟨rfl, rfl⟩)
   go_ret
   exact ⟨by rw [HE.out]; rfl, hb⟩
  | true =>
   cases h2 : inB count (-60) 60 with
   | false => as_aux_lemma =>
    have HE : Hid (R = 2) := Lib.hid (by rw [HR.out]; simp [chkV, h0, h1, h2])
    clear HR
    skip
    go_enter Tryz.func30, Tryz.ntmps30
    go_upto_region 1 with fail
    refine wp_fg (ChgBox w ⟨2, row, col, count, til, g⟩ A cap) (ChgBox.new w ⟨2, row, col, count, til, g⟩ A cap _) ?_
    rintro X ⟨c0, c1, c2, c3, c4, c5, hb, hzX⟩
    dsimp only at c0 c1 c2 c3 c4 c5
    go_wp2_with (go_at_call 50; refine (rin41 _ _ _ _).mono ?_; rintro e wy ⟨rfl, rfl⟩)
    go_ret
    exact ⟨by rw [HE.out]; rfl, hb⟩
   | true =>
    by_cases h3 : count = 0
    ·as_aux_lemma =>
     have k3 : (count == 0) = true := by simp [h3]
     have HE : Hid (R = 2) := Lib.hid (by rw [HR.out]; simp [chkV, h0, h1, h2, h3])
     clear HR
     clear h3
     go_enter Tryz.func30, Tryz.ntmps30
     go_upto_region 1 with fail
     refine wp_fg (ChgBox w ⟨2, row, col, count, til, g⟩ A cap) (ChgBox.new w ⟨2, row, col, count, til, g⟩ A cap _) ?_
     rintro X ⟨c0, c1, c2, c3, c4, c5, hb, hzX⟩
     dsimp only at c0 c1 c2 c3 c4 c5
     go_wp2_with (go_at_call 50; refine (rin41 _ _ _ _).mono ?_; rintro e wy ⟨rfl, rfl⟩)
     go_ret
     exact ⟨by rw [HE.out]; rfl, hb⟩
    ·have k3 : (count == 0) = false := beq_eq_false_iff_ne.2 h3
     by_cases h4 : col = 0
     ·have k4 : (col != 0) = false := by simp [h4]
      by_cases h5 : g.length = 0
      ·as_aux_lemma =>
       have k5 : ¬ (0 : Int) < g.length := by omega
       have HE : Hid (R = 0) := Lib.hid (by rw [HR.out]; simp [chkV, h0, h1, h2, h3, h4, h5])
       clear HR
       clear h3 h4 h5
       go_enter Tryz.func30, Tryz.ntmps30
       go_upto_region 1 with fail
       refine wp_fg (ChgBox w ⟨2, row, col, count, til, g⟩ A cap) (ChgBox.new w ⟨2, row, col, count, til, g⟩ A cap _) ?_
       rintro X ⟨c0, c1, c2, c3, c4, c5, hb, hzX⟩
       dsimp only at c0 c1 c2 c3 c4 c5
       go_wp2_with (go_at_call 50; refine (rin41 _ _ _ _).mono ?_; rintro e wy ⟨rfl, rfl⟩)
       go_ret
       exact ⟨by rw [HE.out]; rfl, hb⟩
      ·as_aux_lemma =>
       have k5 : (0 : Int) < g.length := by omega
       have HE : Hid (R = 1) := Lib.hid (by rw [HR.out]; simp [chkV, h0, h1, h2, h3, h4, h5])
       clear HR
       clear h3 h4 h5
       go_enter Tryz.func30, Tryz.ntmps30
       go_upto_region 1 with fail
       refine wp_fg (ChgBox w ⟨2, row, col, count, til, g⟩ A cap) (ChgBox.new w ⟨2, row, col, count, til, g⟩ A cap _) ?_
       rintro X ⟨c0, c1, c2, c3, c4, c5, hb, hzX⟩
       dsimp only at c0 c1 c2 c3 c4 c5
       go_wp2_with (go_at_call 50; refine (rin41 _ _ _ _).mono ?_; rintro e wy ⟨rfl, rfl⟩)
       go_ret
       exact ⟨by rw [HE.out]; rfl, hb⟩
     ·as_aux_lemma =>
      have k4 : (col != 0) = true := bne_iff_ne.2 h4
      have HE : Hid (R = 1) := Lib.hid (by rw [HR.out]; simp [chkV, h0, h1, h2, h3, h4])
      clear HR
      clear h3 h4
      go_enter Tryz.func30, Tryz.ntmps30
      go_upto_region 1 with fail
      refine wp_fg (ChgBox w ⟨2, row, col, count, til, g⟩ A cap) (ChgBox.new w ⟨2, row, col, count, til, g⟩ A cap _) ?_
      rintro X ⟨c0, c1, c2, c3, c4, c5, hb, hzX⟩
      dsimp only at c0 c1 c2 c3 c4 c5
      go_wp2_with (go_at_call 50; refine (rin41 _ _ _ _).mono ?_; rintro e wy ⟨rfl, rfl⟩)
      go_ret
      exact ⟨by rw [HE.out]; rfl, hb⟩
set_option maxHeartbeats 4000000 in
theorem vcheck_four (row col count til : Int) (g : List Gl) (A : Option Addr) (cap : Nat) (w : World) : Calls Tryz.prog 30 #[chgV ⟨4, row, col, count, til, g⟩ A cap] w (Gives (.int .i64 (chkU ⟨4, row, col, count, til, g⟩)) w) := by
 rw [chk_four]
 obtain ⟨R, hR⟩ : ∃ x, x = chkV (inB row 0 59 && inB col 0 131 && inB count 0 1) (decide (til = 0) && decide (g.length = 0)) false := ⟨_, rfl⟩
 rw [← hR]
 have HR := Lib.hid hR
 clear hR
 cases h0 : inB row 0 59 with
 | false => as_aux_lemma =>
  have HE : Hid (R = 2) := Lib.hid (by rw [HR.out]; simp [chkV, h0])
  clear HR
  skip
  go_enter Tryz.func30, Tryz.ntmps30
  go_upto_region 1 with fail
  refine wp_fg (ChgBox w ⟨4, row, col, count, til, g⟩ A cap) (ChgBox.new w ⟨4, row, col, count, til, g⟩ A cap _) ?_
  rintro X ⟨c0, c1, c2, c3, c4, c5, hb, hzX⟩
  dsimp only at c0 c1 c2 c3 c4 c5
  go_wp2_with (go_at_call 50; refine (rin41 _ _ _ _).mono ?_; rintro e wy ⟨rfl, rfl⟩)
  go_ret
  exact ⟨by rw [HE.out]; rfl, hb⟩
 | true =>
  cases h1 : inB col 0 131 with
  | false => as_aux_lemma =>
   have HE : Hid (R = 2) := Lib.hid (by rw [HR.out]; simp [chkV, h0, h1])
   clear HR
   skip
   go_enter Tryz.func30, Tryz.ntmps30
   go_upto_region 1 with fail
   refine wp_fg (ChgBox w ⟨4, row, col, count, til, g⟩ A cap) (ChgBox.new w ⟨4, row, col, count, til, g⟩ A cap _) ?_
   rintro X ⟨c0, c1, c2, c3, c4, c5, hb, hzX⟩
   dsimp only at c0 c1 c2 c3 c4 c5
   go_wp2_with (go_at_call 50; refine (rin41 _ _ _ _).mono ?_; rintro e wy ⟨rfl, rfl⟩)
   go_ret
   exact ⟨by rw [HE.out]; rfl, hb⟩
  | true =>
   cases h2 : inB count 0 1 with
   | false => as_aux_lemma =>
    have HE : Hid (R = 2) := Lib.hid (by rw [HR.out]; simp [chkV, h0, h1, h2])
    clear HR
    skip
    go_enter Tryz.func30, Tryz.ntmps30
    go_upto_region 1 with fail
    refine wp_fg (ChgBox w ⟨4, row, col, count, til, g⟩ A cap) (ChgBox.new w ⟨4, row, col, count, til, g⟩ A cap _) ?_
    rintro X ⟨c0, c1, c2, c3, c4, c5, hb, hzX⟩
    dsimp only at c0 c1 c2 c3 c4 c5
    go_wp2_with (go_at_call 50; refine (rin41 _ _ _ _).mono ?_; rintro e wy ⟨rfl, rfl⟩)
    go_ret
    exact ⟨by rw [HE.out]; rfl, hb⟩
   | true =>
    by_cases h4 : til = 0
    ·have k4 : (til != 0) = false := by simp [h4]
     by_cases h5 : g.length = 0
     ·as_aux_lemma =>
      have k5 : ¬ (0 : Int) < g.length := by omega
      have HE : Hid (R = 0) := Lib.hid (by rw [HR.out]; simp [chkV, h0, h1, h2, h4, h5])
      clear HR
      clear h4 h5
      go_enter Tryz.func30, Tryz.ntmps30
      go_upto_region 1 with fail
      refine wp_fg (ChgBox w ⟨4, row, col, count, til, g⟩ A cap) (ChgBox.new w ⟨4, row, col, count, til, g⟩ A cap _) ?_
      rintro X ⟨c0, c1, c2, c3, c4, c5, hb, hzX⟩
      dsimp only at c0 c1 c2 c3 c4 c5
      go_wp2_with (go_at_call 50; refine (rin41 _ _ _ _).mono ?_; rintro e wy ⟨rfl, rfl⟩)
      go_ret
      exact ⟨by rw [HE.out]; rfl, hb⟩
     ·as_aux_lemma =>
      have k5 : (0 : Int) < g.length := by omega
      have HE : Hid (R = 1) := Lib.hid (by rw [HR.out]; simp [chkV, h0, h1, h2, h4, h5])
      clear HR
      clear h4 h5
      go_enter Tryz.func30, Tryz.ntmps30
      go_upto_region 1 with fail
      refine wp_fg (ChgBox w ⟨4, row, col, count, til, g⟩ A cap) (ChgBox.new w ⟨4, row, col, count, til, g⟩ A cap _) ?_
      rintro X ⟨c0, c1, c2, c3, c4, c5, hb, hzX⟩
      dsimp only at c0 c1 c2 c3 c4 c5
      go_wp2_with (go_at_call 50; refine (rin41 _ _ _ _).mono ?_; rintro e wy ⟨rfl, rfl⟩)
      go_ret
      exact ⟨by rw [HE.out]; rfl, hb⟩
    ·as_aux_lemma =>
     have k4 : (til != 0) = true := bne_iff_ne.2 h4
     have HE : Hid (R = 1) := Lib.hid (by rw [HR.out]; simp [chkV, h0, h1, h2, h4])
     clear HR
     clear h4
     go_enter Tryz.func30, Tryz.ntmps30
     go_upto_region 1 with fail
     refine wp_fg (ChgBox w ⟨4, row, col, count, til, g⟩ A cap) (ChgBox.new w ⟨4, row, col, count, til, g⟩ A cap _) ?_
     rintro X ⟨c0, c1, c2, c3, c4, c5, hb, hzX⟩
     dsimp only at c0 c1 c2 c3 c4 c5
     go_wp2_with (go_at_call 50; refine (rin41 _ _ _ _).mono ?_; rintro e wy ⟨rfl, rfl⟩)
     go_ret
     exact ⟨by rw [HE.out]; rfl, hb⟩
set_option maxHeartbeats 4000000 in
theorem vcheck_three (row col count til : Int) (g : List Gl) (A : Option Addr) (cap : Nat) (w : World) (B : Nat) (hn : g.length ≤ 1000000000) (rd : Rd w B 3 A g.length (encGs g)) (hB : B ≤ w.heap.size) (hz : ∀ x ∈ g, x.text.size ≤ 1000000000) :
  Calls Tryz.prog 30 #[chgV ⟨3, row, col, count, til, g⟩ A cap] w (Gives (.int .i64 (chkU ⟨3, row, col, count, til, g⟩)) w) := by
 rw [chk_three]
 obtain ⟨R, hR⟩ : ∃ x, x = chkV (inB row 0 59 && inB col 0 132 && inB count 0 132) (decide (til = 0) && !anyBad g) (decide (132 < g.length)) := ⟨_, rfl⟩
 rw [← hR]
 have HR := Lib.hid hR
 clear hR
 cases h0 : inB row 0 59 with
 | false => as_aux_lemma =>
  have HE : Hid (R = 2) := Lib.hid (by rw [HR.out]; simp [chkV, h0])
  clear HR
  skip
  go_enter Tryz.func30, Tryz.ntmps30
  go_upto_region 1 with fail
  refine wp_fg (ChgBox w ⟨3, row, col, count, til, g⟩ A cap) (ChgBox.new w ⟨3, row, col, count, til, g⟩ A cap _) ?_
  rintro X ⟨c0, c1, c2, c3, c4, c5, hb, hzX⟩
  dsimp only at c0 c1 c2 c3 c4 c5
  go_wp2_with (go_at_call 50; refine (rin41 _ _ _ _).mono ?_; rintro e wy ⟨rfl, rfl⟩)
  go_ret
  exact ⟨by rw [HE.out]; rfl, hb⟩
 | true =>
  cases h1 : inB col 0 132 with
  | false => as_aux_lemma =>
   have HE : Hid (R = 2) := Lib.hid (by rw [HR.out]; simp [chkV, h0, h1])
   clear HR
   skip
   go_enter Tryz.func30, Tryz.ntmps30
   go_upto_region 1 with fail
   refine wp_fg (ChgBox w ⟨3, row, col, count, til, g⟩ A cap) (ChgBox.new w ⟨3, row, col, count, til, g⟩ A cap _) ?_
   rintro X ⟨c0, c1, c2, c3, c4, c5, hb, hzX⟩
   dsimp only at c0 c1 c2 c3 c4 c5
   go_wp2_with (go_at_call 50; refine (rin41 _ _ _ _).mono ?_; rintro e wy ⟨rfl, rfl⟩)
   go_ret
   exact ⟨by rw [HE.out]; rfl, hb⟩
  | true =>
   cases h2 : inB count 0 132 with
   | false => as_aux_lemma =>
    have HE : Hid (R = 2) := Lib.hid (by rw [HR.out]; simp [chkV, h0, h1, h2])
    clear HR
    skip
    go_enter Tryz.func30, Tryz.ntmps30
    go_upto_region 1 with fail
    refine wp_fg (ChgBox w ⟨3, row, col, count, til, g⟩ A cap) (ChgBox.new w ⟨3, row, col, count, til, g⟩ A cap _) ?_
    rintro X ⟨c0, c1, c2, c3, c4, c5, hb, hzX⟩
    dsimp only at c0 c1 c2 c3 c4 c5
    go_wp2_with (go_at_call 50; refine (rin41 _ _ _ _).mono ?_; rintro e wy ⟨rfl, rfl⟩)
    go_ret
    exact ⟨by rw [HE.out]; rfl, hb⟩
   | true =>
    by_cases h3 : 132 < g.length
    ·as_aux_lemma =>
     have k3 : (132 : Int) < g.length := by omega
     have HE : Hid (R = 5) := Lib.hid (by rw [HR.out]; simp [chkV, h0, h1, h2, h3])
     clear HR
     clear h3
     go_enter Tryz.func30, Tryz.ntmps30
     go_upto_region 1 with fail
     refine wp_fg (ChgBox w ⟨3, row, col, count, til, g⟩ A cap) (ChgBox.new w ⟨3, row, col, count, til, g⟩ A cap _) ?_
     rintro X ⟨c0, c1, c2, c3, c4, c5, hb, hzX⟩
     dsimp only at c0 c1 c2 c3 c4 c5
     go_wp2_with (go_at_call 50; refine (rin41 _ _ _ _).mono ?_; rintro e wy ⟨rfl, rfl⟩)
     go_ret
     exact ⟨by rw [HE.out]; rfl, hb⟩
    ·have k3 : ¬ (132 : Int) < g.length := by omega
     by_cases h4 : til = 0
     ·as_aux_lemma =>
      have HRd := Lib.hid rd
      have HRe : Hid (R = if anyBad (g.drop 0) = true then 1 else 0) := Lib.hid (by rw [HR.out]; simp only [h0, h1, h2, h3, h4, chkV, List.drop_zero]; cases anyBad g <;> rfl)
      have HG : Hid (∀ x ∈ g, ∀ w', Calls Tryz.prog 51 #[glV x] w' (Gives (.int .i64 (glyphC x)) w')) := Lib.hid fun x hx w' => rglyph x (hz x hx) w'
      clear rd hz HR
      have k4 : (til != 0) = false := by simp [h4]
      clear h4
      go_enter Tryz.func30, Tryz.ntmps30
      go_upto_region 1 with fail
      refine wp_fg (ChgBox w ⟨3, row, col, count, til, g⟩ A cap) (ChgBox.new w ⟨3, row, col, count, til, g⟩ A cap _) ?_
      rintro X ⟨c0, c1, c2, c3, c4, c5, hb, hzX⟩
      dsimp only at c0 c1 c2 c3 c4 c5
      go_wp2_with (go_at_call 50; refine (rin41 _ _ _ _).mono ?_; rintro e wy ⟨rfl, rfl⟩)
      go_loopw [4] (fun x wr => ∃ k : Nat, k ≤ g.length ∧ x = .int .i64 k ∧ ChgBox w ⟨3, row, col, count, til, g⟩ A cap wr ∧ Hid (R = if anyBad (g.drop k) = true then 1 else 0)) (fun x _ => g.length - (intOf x).toNat)
      case atStart => exact ⟨0, Nat.zero_le _, rfl, ⟨c0, c1, c2, c3, c4, c5, hb, hzX⟩, HRe⟩
      case round =>
       clear c0 c1 c2 c3 c4 c5 hb hzX
       obtain ⟨k, hk, rfl, ⟨c0, c1, c2, c3, c4, c5, hb, hzX⟩, HK⟩ := hrel
       dsimp only at c0 c1 c2 c3 c4 c5
       by_cases hlt : k < g.length
       ·obtain ⟨b, o, rfl, hbB, g0, g1, g2⟩ := rd_gl (HRd.out.below (hb.mono hB)) hlt rfl
        have HD : Hid (anyBad (g.drop k) = (!validG g[k] || anyBad (g.drop (k + 1)))) := Lib.hid (by rw [List.drop_eq_getElem_cons hlt]; rfl)
        have HGk := Lib.hid (HG.out g[k] (List.getElem_mem hlt))
        have hvl : validG g[k] = decide (glyphC g[k] = 0) := rfl
        generalize g[k] = y at *
        obtain ⟨t, wd, st⟩ := y
        dsimp only at *
        generalize glyphC ⟨t, wd, st⟩ = K at *
        by_cases hK : K = 0
        ·have HR2 : Hid (R = if anyBad (g.drop (k + 1)) = true then 1 else 0) := Lib.hid (by rw [HK.out, HD.out, hvl, hK]; rfl)
         have hKb : (K != 0) = false := by simp [hK]
         clear HK HD hvl hK HG HRd
         go_wp2_with (go_at_call 51; refine (HGk.out _).mono ?_; rintro e w1 ⟨rfl, hb1⟩)
         exact ⟨⟨k + 1, by omega, by go_num, ChgBox.on ⟨c0, c1, c2, c3, c4, c5, hb, hzX⟩ hb1, HR2⟩, by simp [intOf]; omega⟩
        ·have HR2 : Hid (R = 1) := Lib.hid (by rw [HK.out, HD.out, hvl, decide_eq_false hK]; rfl)
         have hKb : (K != 0) = true := bne_iff_ne.2 hK
         clear HK HD hvl hK HG HRd
         go_wp2_with (go_at_call 51; refine (HGk.out _).mono ?_; rintro e w1 ⟨rfl, hb1⟩)
         go_ret
         exact ⟨by rw [HR2.out]; rfl, hb.trans (hb1.mono (by omega))⟩
       ·have HR2 : Hid (R = 0) := Lib.hid (by rw [HK.out, List.drop_of_length_le (by omega)]; rfl)
        go_wp2
        go_ret
        exact ⟨by rw [HR2.out]; rfl, hb⟩
     ·as_aux_lemma =>
      have k4 : (til != 0) = true := bne_iff_ne.2 h4
      have HE : Hid (R = 1) := Lib.hid (by rw [HR.out]; simp [chkV, h0, h1, h2, h3, h4])
      clear HR
      clear h3 h4
      go_enter Tryz.func30, Tryz.ntmps30
      go_upto_region 1 with fail
      refine wp_fg (ChgBox w ⟨3, row, col, count, til, g⟩ A cap) (ChgBox.new w ⟨3, row, col, count, til, g⟩ A cap _) ?_
      rintro X ⟨c0, c1, c2, c3, c4, c5, hb, hzX⟩
      dsimp only at c0 c1 c2 c3 c4 c5
      go_wp2_with (go_at_call 50; refine (rin41 _ _ _ _).mono ?_; rintro e wy ⟨rfl, rfl⟩)
      go_ret
      exact ⟨by rw [HE.out]; rfl, hb⟩
set_option maxHeartbeats 2000000 in
theorem vcheck_oth (c : Chg) (A : Option Addr) (cap : Nat) (w : World) (h1 : c.kind ≠ 1) (h2 : c.kind ≠ 2) (h3 : c.kind ≠ 3) (h4 : c.kind ≠ 4) : Calls Tryz.prog 30 #[chgV c A cap] w (Gives (.int .i64 (chkU c)) w) := by
 have e : chkU c = 9 := if_pos (by omega)
 rw [e]
 obtain ⟨kind, row, col, count, til, g⟩ := c
 have b1 : (kind == 1) = false := beq_eq_false_iff_ne.2 h1
 have b2 : (kind == 2) = false := beq_eq_false_iff_ne.2 h2
 have b3 : (kind == 3) = false := beq_eq_false_iff_ne.2 h3
 have b4 : (kind == 4) = false := beq_eq_false_iff_ne.2 h4
 clear e h1 h2 h3 h4
 go_enter Tryz.func30, Tryz.ntmps30
 go_upto_region 1 with fail
 refine wp_fg (ChgBox w ⟨kind, row, col, count, til, g⟩ A cap) (ChgBox.new w ⟨kind, row, col, count, til, g⟩ A cap _) ?_
 rintro X ⟨c0, c1, c2, c3, c4, c5, hb, hzX⟩
 dsimp only at c0 c1 c2 c3 c4 c5
 go_wp2_with (go_at_call 50; refine (rin41 _ _ _ _).mono ?_; rintro e wy ⟨rfl, rfl⟩)
 go_ret
 exact ⟨rfl, hb⟩
theorem vcheck_ (c : Chg) (A : Option Addr) (cap B : Nat) (w : World) (hn : c.glyphs.length ≤ 1000000000) (rd : Rd w B 3 A c.glyphs.length (encGs c.glyphs)) (hB : B ≤ w.heap.size) (hz : ∀ x ∈ c.glyphs, x.text.size ≤ 1000000000) :
  Calls Tryz.prog 30 #[chgV c A cap] w (Gives (.int .i64 (chkU c)) w) := by
 by_cases h1 : c.kind = 1
 ·obtain ⟨kind, row, col, count, til, g⟩ := c
  obtain rfl : kind = 1 := h1
  exact vcheck_one row col count til g A cap w
 ·by_cases h2 : c.kind = 2
  ·obtain ⟨kind, row, col, count, til, g⟩ := c
   obtain rfl : kind = 2 := h2
   exact vcheck_two row col count til g A cap w
  ·by_cases h3 : c.kind = 3
   ·obtain ⟨kind, row, col, count, til, g⟩ := c
    obtain rfl : kind = 3 := h3
    exact vcheck_three row col count til g A cap w B hn rd hB hz
   ·by_cases h4 : c.kind = 4
    ·obtain ⟨kind, row, col, count, til, g⟩ := c
     obtain rfl : kind = 4 := h4
     exact vcheck_four row col count til g A cap w
    ·exact vcheck_oth c A cap w h1 h2 h3 h4
set_option maxHeartbeats 2000000 in
theorem vCheck_ (l : List ChgM) (A : Option Addr) (n c B : Nat) (w : World) (hn : n ≤ 1000000000) (rd : RdC w B A n l) (hB : B ≤ w.heap.size) (hs : SmC l) :
  Calls Tryz.prog 17 #[.slice A n c] w (Gives (.int .i64 (chkAll l)) w) := by
 have HN := Lib.hid rd.len
 have HRd := Lib.hid rd
 have HF : Hid (chkAll l = chkAll (l.drop 0)) := Lib.hid rfl
 have HC : Hid (∀ x ∈ l, ∀ w', Below w.heap.size w w' → Calls Tryz.prog 30 #[chgV x.c x.A x.cap] w' (Gives (.int .i64 (chkU x.c)) w')) := Lib.hid fun x hx w' hw =>
  vcheck_ x.c x.A x.cap B w' (hs x hx).1 ((rd.gl x hx).1.below (hw.mono hB)) (Nat.le_trans hB hw.size) (hs x hx).2
 generalize chkAll l = R at *
 clear rd hs
 go_enter Tryz.func17, Tryz.ntmps17
 go_wp2
 go_loopw [3] (fun x wr => ∃ k : Nat, k ≤ n ∧ x = .int .i64 k ∧ Below w.heap.size w wr ∧ Hid (R = chkAll (l.drop k))) (fun x _ => n - (intOf x).toNat)
 case atStart => exact ⟨0, Nat.zero_le _, rfl, Below.refl _ _, HF⟩
 case round =>
  obtain ⟨k, hk, rfl, hbel, HK⟩ := hrel
  by_cases hlt : k < n
  ·have hkl : k < l.length := by have := HN.out; omega
   obtain ⟨b, o, rfl, hbB, c0, c1, c2, c3, c4, c5⟩ := (HRd.out.below (hbel.mono hB)).at_ hkl
   have HD : Hid (chkAll (l.drop k) = if chkU l[k].c = 0 then chkAll (l.drop (k + 1)) else chkU l[k].c) := Lib.hid (by rw [List.drop_eq_getElem_cons hkl]; rfl)
   have HCk := Lib.hid (HC.out l[k] (List.getElem_mem hkl) _ hbel)
   generalize l[k] = x at *
   obtain ⟨⟨kind, row, col, count, til, g⟩, Ag, cg⟩ := x
   dsimp only at *
   generalize chkU ⟨kind, row, col, count, til, g⟩ = K at *
   by_cases hK : K = 0
   ·have HR2 : Hid (R = chkAll (l.drop (k + 1))) := Lib.hid (by rw [HK.out, HD.out, if_pos hK])
    have hKb : (K != 0) = false := by simp [hK]
    clear HK HD hK HC HRd
    go_wp2_with (go_at_call 30; refine HCk.out.mono ?_; rintro e w1 ⟨rfl, hb1⟩)
    exact ⟨⟨k + 1, by omega, by go_num, hbel.trans (hb1.mono hbel.size), HR2⟩, by simp [intOf]; omega⟩
   ·have HR2 : Hid (R = K) := Lib.hid (by rw [HK.out, HD.out, if_neg hK])
    have hKb : (K != 0) = true := bne_iff_ne.2 hK
    clear HK HD hK HC HRd
    go_wp2_with (go_at_call 30; refine HCk.out.mono ?_; rintro e w1 ⟨rfl, hb1⟩)
    go_ret
    exact ⟨by rw [HR2.out]; rfl, hbel.trans (hb1.mono hbel.size)⟩
  ·have HR2 : Hid (R = 0) := Lib.hid (by rw [HK.out, List.drop_of_length_le (by have := HN.out; omega)]; rfl)
   go_wp2
   go_ret
   exact ⟨by rw [HR2.out]; rfl, hbel⟩
def VwR (l : List ChgM) (m r q k : Int) (S : Setts) (w : World) (e : Ending) (w' : World) : Prop :=
 if wErr l m r q k = 0 then GivesOwn 9 1 okPair w (wordsU (chgs l) m S).length (sv (wordsU (chgs l) m S)) e w' else (∃ A, e = .returned (.tuple #[.slice A 0 0, .int .i64 (wErr l m r q k)])) ∧ Below w.heap.size w w'
theorem VwR.err {l : List ChgM} {m r q k x : Int} {S : Setts} {w w' : World} {e : Ending} (h : wErr l m r q k = x) (hx : x ≠ 0) (he : (∃ A, e = .returned (.tuple #[.slice A 0 0, .int .i64 x])) ∧ Below w.heap.size w w') : VwR l m r q k S w e w' := by
 unfold VwR
 rw [if_neg (by rw [h]; exact hx), h]
 exact he
theorem VwR.ok {l : List ChgM} {m r q k : Int} {S : Setts} {w w' : World} {e : Ending} (h : wErr l m r q k = 0) (he : GivesOwn 9 1 okPair w (wordsU (chgs l) m S).length (sv (wordsU (chgs l) m S)) e w') : VwR l m r q k S w e w' := by
 unfold VwR
 rw [if_pos h]
 exact he
set_option maxHeartbeats 8000000 in
theorem vwords_ (l : List ChgM) (A : Option Addr) (n c : Nat) (m : Int) (r : Int) (d sp : Bool) (p : Int) (con : Bool) (k : Int) (w : World) (hn : n ≤ 1000) (rd : RdC w w.heap.size A n l) (hsm : SmC l) (ht : Tb w) :
  Calls Tryz.prog 14 #[.slice A n c, .int .i64 m, stV r d sp p con k] w (VwR l m r p k ⟨d, sp, p⟩ w) := by
 have HCk : Hid (∀ w', Below w.heap.size w w' → Calls Tryz.prog 17 #[.slice A n c] w' (Gives (.int .i64 (chkAll l)) w')) := Lib.hid fun w' h => vCheck_ l A n c w.heap.size w' (by omega) (rd.below h) h.size hsm
 have HSt := Lib.hid (rcheck_s r d sp p con k)
 by_cases h1 : setE r p k = 0
 ·have hp0 : 0 ≤ p := by
   by_cases hb : BadS r p k
   ·rw [setE_bad hb] at h1; cases h1
   ·unfold BadS at hb; omega
  by_cases h2 : m < 0
  ·refine (?_ : Calls _ _ _ w (fun e w' => (∃ A, e = .returned (.tuple #[.slice A 0 0, .int .i64 1])) ∧ Below w.heap.size w w')).mono fun e w' h => VwR.err (if_pos (.inr h2)) (by decide) h
   rw [h1] at HSt
   generalize chkAll l = E2 at *
   clear h1 rd hsm ht
   go_enter Tryz.func14, Tryz.ntmps14
   go_upto_region 1 with fail
   refine wp_fg (fun X => StBox X r d sp p con k w.heap.size ∧ Below w.heap.size w X ∧ w.heap.size + 1 ≤ X.heap.size) ⟨StBox.new w r d sp p con k _, (Below.refl _ _).alloc (Nat.le_refl _) _, by simp⟩ ?_
   rintro X ⟨hst, hb0, hz0⟩
   have hst' := hst
   obtain ⟨s0, s1, s2, s3, s4, s5⟩ := hst
   go_wp2_with (first | (go_at_call 26; refine (HSt.out _).mono ?_; rintro e w1 ⟨rfl, hb1⟩; have hs1 := hb1.size) | (go_at_call 17; refine (HCk.out _ (hb0.trans (hb1.mono hb0.size))).mono ?_; rintro e w2 ⟨rfl, hb2⟩; have hs2 := hb2.size))
   go_ret2
   exact ⟨⟨_, rfl⟩, (hb0.trans (hb1.mono hb0.size)).alloc (by first | (simp; done) | (simp; omega) | omega) _⟩
  ·have hw0 : wErr l m r p k = if 999999999 < m then 5 else chkAll l := if_neg (by rw [h1]; simp; omega)
   rw [h1] at HSt
   clear h1
   by_cases h3 : 999999999 < m
   ·rw [if_pos h3] at hw0
    refine (?_ : Calls _ _ _ w (fun e w' => (∃ A, e = .returned (.tuple #[.slice A 0 0, .int .i64 5])) ∧ Below w.heap.size w w')).mono fun e w' h => VwR.err hw0 (by decide) h
    clear hw0
    generalize chkAll l = E2 at *
    clear rd hsm ht
    go_enter Tryz.func14, Tryz.ntmps14
    go_upto_region 1 with fail
    refine wp_fg (fun X => StBox X r d sp p con k w.heap.size ∧ Below w.heap.size w X ∧ w.heap.size + 1 ≤ X.heap.size) ⟨StBox.new w r d sp p con k _, (Below.refl _ _).alloc (Nat.le_refl _) _, by simp⟩ ?_
    rintro X ⟨hst, hb0, hz0⟩
    have hst' := hst
    obtain ⟨s0, s1, s2, s3, s4, s5⟩ := hst
    go_wp2_with (first | (go_at_call 26; refine (HSt.out _).mono ?_; rintro e w1 ⟨rfl, hb1⟩; have hs1 := hb1.size) | (go_at_call 17; refine (HCk.out _ (hb0.trans (hb1.mono hb0.size))).mono ?_; rintro e w2 ⟨rfl, hb2⟩; have hs2 := hb2.size))
    go_ret2
    exact ⟨⟨_, rfl⟩, (hb0.trans (hb1.mono hb0.size)).alloc (by first | (simp; done) | (simp; omega) | omega) _⟩
   ·rw [if_neg h3] at hw0
    by_cases h4 : chkAll l = 0
    ·rw [h4] at hw0 HCk
     refine (?_ : Calls _ _ _ w (GivesOwn 9 1 okPair w (wordsU (chgs l) m ⟨d, sp, p⟩).length (sv (wordsU (chgs l) m ⟨d, sp, p⟩)))).mono fun e w' h => VwR.ok hw0 h
     have HPh : Hid (∀ x ∈ l, ∀ w', Below w.heap.size w w' → Calls Tryz.prog 27 #[chgV x.c x.A x.cap, stV r d sp p con k] w' (GivesOwn 9 1 id w' (phraseL x.c ⟨d, sp, p⟩).length (sv (phraseL x.c ⟨d, sp, p⟩)))) := Lib.hid fun x hx w' hw =>
      vphrase_ x (chkAll_zero.1 h4 x.c (List.mem_map_of_mem hx)) r d sp p con k w' w.heap.size hw.size ((rd.gl x hx).1.below hw) (rd.gl x hx).2.1 (rd.gl x hx).2.2 hp0 (ht.below hw)
     have HLe : Hid (∀ x ∈ l, (phraseL x.c ⟨d, sp, p⟩).length ≤ 50000200) := Lib.hid fun x hx => phrase_le (chkAll_zero.1 h4 x.c (List.mem_map_of_mem hx)) _
     have HN := Lib.hid rd.len
     have HRd := Lib.hid rd
     have HTb := Lib.hid ht
     have HFl : Hid (∀ j (h : j < l.length), ((chgs (l.drop j)).flatMap fun c => phraseL c ⟨d, sp, p⟩) = phraseL l[j].c ⟨d, sp, p⟩ ++ (chgs (l.drop (j + 1))).flatMap fun c => phraseL c ⟨d, sp, p⟩) := Lib.hid fun j h => flat_drop h _
     have HEn : Hid (∀ j, l.length ≤ j → ((chgs (l.drop j)).flatMap fun c => phraseL c ⟨d, sp, p⟩) = []) := Lib.hid fun j h => by rw [List.drop_of_length_le h]; rfl
     have H0 : Hid (wordsU (chgs l) m ⟨d, sp, p⟩ = [] ++ (((chgs (l.drop 0)).flatMap fun c => phraseL c ⟨d, sp, p⟩) ++ endW m)) := Lib.hid rfl
     generalize wordsU (chgs l) m ⟨d, sp, p⟩ = R at *
     generalize hF : (fun j => (chgs (l.drop j)).flatMap fun c => phraseL c ⟨d, sp, p⟩) = F
     replace HFl : Hid (∀ j (h : j < l.length), F j = phraseL l[j].c ⟨d, sp, p⟩ ++ F (j + 1)) := Lib.hid (by rw [← hF]; exact HFl.out)
     replace HEn : Hid (∀ j, l.length ≤ j → F j = []) := Lib.hid (by rw [← hF]; exact HEn.out)
     replace H0 : Hid (R = [] ++ (F 0 ++ endW m)) := Lib.hid (by rw [← hF]; exact H0.out)
     clear hF hw0 h4 rd hsm ht hp0
     go_enter Tryz.func14, Tryz.ntmps14
     go_upto_region 1 with fail
     refine wp_fg (fun X => StBox X r d sp p con k w.heap.size ∧ Below w.heap.size w X ∧ w.heap.size + 1 ≤ X.heap.size) ⟨StBox.new w r d sp p con k _, (Below.refl _ _).alloc (Nat.le_refl _) _, by simp⟩ ?_
     rintro X ⟨hst, hb0, hz0⟩
     have hst' := hst
     obtain ⟨s0, s1, s2, s3, s4, s5⟩ := hst
     go_wp2_with (first | (go_at_call 26; refine (HSt.out _).mono ?_; rintro e w1 ⟨rfl, hb1⟩; have hs1 := hb1.size) | (go_at_call 17; refine (HCk.out _ (hb0.trans (hb1.mono hb0.size))).mono ?_; rintro e w2 ⟨rfl, hb2⟩; have hs2 := hb2.size))
     have hb3 : Below w.heap.size w w2 := hb0.trans ((hb1.mono hb0.size).trans (hb2.mono (Nat.le_trans hb0.size hb1.size)))
     have hst2 := (hst'.below hb1 (by omega)).below hb2 (by have := hb1.size; omega)
     have hz2 : w.heap.size + 1 ≤ w2.heap.size := by have := hb1.size; have := hb2.size; omega
     have hba : Below w2.heap.size w2 (w2.alloc (.cells #[] 9)) := (Below.refl _ _).alloc (Nat.le_refl _) _
     have hst3 := hst2.below hba (by omega)
     have hb4 := hb3.trans (hba.mono (by omega))
     have hz4 := Nat.le_trans hz2 hba.size
     clear hb0 hb1 hb2 hb3 hst2 hst' s0 s1 s2 s3 s4 s5 hz0 hba
     go_loopw [9, 10] (fun x y wr => ∃ (j : Nat) (A2 : Option Addr) (c2 : Nat) (O : List ByteArray), j ≤ n ∧ y = .int .i64 j ∧ x = .slice A2 O.length c2 ∧ wr.ownsRow (w.heap.size + 1) 9 1 (.slice A2 O.length c2) O.length (sv O) ∧ O.length ≤ j * 50000200 ∧ StBox wr r d sp p con k w.heap.size ∧ Below w.heap.size w wr ∧ w.heap.size + 1 ≤ wr.heap.size ∧ Hid (R = O ++ (F j ++ endW m))) (fun _ y _ => n - (intOf y).toNat)
     case atStart => exact ⟨0, _, 0, [], Nat.zero_le _, rfl, rfl, own_built (xs := []) (n := 0) rfl rfl hz2 (by omega), by simp, hst3, hb4, hz4, H0⟩
     case round =>
      clear hb4 hst3 hz4 hz2 H0
      obtain ⟨j, A2, c2, O, hj, rfl, rfl, ho, hol, hst, hbl, hzr, HK⟩ := hrel
      have hol2 : O.length ≤ 50000200000 := by
       have : j * 50000200 ≤ 1000 * 50000200 := Nat.mul_le_mul_right _ (by omega)
       omega
      obtain ⟨s0, s1, s2, s3, s4, s5⟩ := id hst
      by_cases hlt : j < n
      ·as_aux_lemma =>
       have hjl : j < l.length := by have := HN.out; omega
       obtain ⟨b, o, rfl, hbB, g0, g1, g2, g3, g4, g5⟩ := (HRd.out.below hbl).at_ hjl
       have HD := Lib.hid (HFl.out j hjl)
       have HP := Lib.hid (HPh.out l[j] (List.getElem_mem hjl))
       have hpl := HLe.out l[j] (List.getElem_mem hjl)
       generalize l[j] = x at *
       obtain ⟨⟨kind, row, col, count, til, g⟩, Ag, cg⟩ := x
       dsimp only at *
       obtain ⟨W, hW⟩ : ∃ x, Hid (x = phraseL ⟨kind, row, col, count, til, g⟩ ⟨d, sp, p⟩) := ⟨_, Lib.hid rfl⟩
       rw [← hW.out] at HD HP hpl
       have HK2 : Hid (R = (O ++ W) ++ (F (j + 1) ++ endW m)) := Lib.hid (by rw [HK.out, HD.out]; simp only [List.append_assoc])
       have hol3 : (O ++ W).length ≤ (j + 1) * 50000200 := by rw [List.length_append, Nat.add_mul]; omega
       have j1 : (0 : Int) ≤ j := by omega
       have j2 : (j : Int) < n := by omega
       clear HK HD HPh HLe HFl HEn HCk HSt HRd hW HTb
       go_upto_region 12 with fail
       go_region_law (first
        | (go_simp; go_at_call 27; refine (HP.out _ hbl.drew).mono ?_; rintro e w4 ⟨A4, c4, rfl, ho4, hb4⟩; have hz4 := hb4.size; have hz5 : wr.heap.size ≤ w4.heap.size := hz4)
        | (refine app_step rfl _ _ _ rfl elt_str ((w.heap.size + 1)) _ rfl ((own_below (own_below ho (Below.refl _ _).drew) hb4)) _ _ rfl ((Rd.of_own ho4)) (sv_one _) (by omega) (by omega) (by first | (simp; done) | (simp; omega) | omega) ?_; intro A5 c5 w5 hown5 hbel5 hgr5 hat5; have z5 := hbel5.size; (try simp only [Nat.zero_add, List.nil_append] at hown5)))
       all_goals go_wp2
       all_goals exact ⟨⟨j + 1, A5, c5, O ++ W, by omega, by go_num, by rw [List.length_append], by rw [List.length_append, sv_app]; exact hown5, hol3, ((hst.below (Below.refl wr.heap.size wr).drew (by omega)).below hb4 (by show w.heap.size < wr.heap.size; omega)).below hbel5 (by omega), (hbl.drew.trans (hb4.mono (Nat.le_trans hbl.size (Nat.le_refl _)))).trans (hbel5.mono (by omega)), by omega, HK2⟩, by simp [intOf]; omega⟩
      ·have HK2 : Hid (R = O ++ endW m) := Lib.hid (by rw [HK.out, HEn.out j (by have := HN.out; omega)]; rfl)
       clear HK HPh HLe HFl HEn HCk HSt HRd
       by_cases h0 : m = 0
       ·as_aux_lemma =>
        subst h0
        have HK3 : Hid (R = O ++ [bMore]) := Lib.hid HK2.out
        clear HK2 HTb
        go_wp2_with (at_builtin; refine app_list rfl _ _ _ rfl elt_str ((w.heap.size + 1)) _ rfl (own_below ho ((Below.refl _ _).alloc (Nat.le_refl _) _)) _ _ rfl ((rd_built (xs := sv [bMore]) rfl rfl)) (by first | rfl | exact sv_one _ | exact wv_one _) (by omega) (by omega) (by first | (simp; done) | (simp; omega) | omega) ?_; intro A9 c9 w9 hown9 hbel9 hgr9 hat9; have z9 := hbel9.size; (try simp only [World.size_alloc] at z9); (try simp only [Nat.zero_add, List.nil_append] at hown9))
        go_ret2
        rw [HK3.out, List.length_append, sv_app]
        exact ⟨A9, c9, rfl, own_less hown9 (by omega), (hbl.alloc hbl.size _).trans (hbel9.mono (by omega))⟩
       ·by_cases h1' : m = 1
        ·as_aux_lemma =>
         subst h1'
         have HK3 : Hid (R = O ++ [bDone]) := Lib.hid HK2.out
         clear HK2 HTb
         go_wp2_with (at_builtin; refine app_list rfl _ _ _ rfl elt_str ((w.heap.size + 1)) _ rfl (own_below ho ((Below.refl _ _).alloc (Nat.le_refl _) _)) _ _ rfl ((rd_built (xs := sv [bDone]) rfl rfl)) (by first | rfl | exact sv_one _ | exact wv_one _) (by omega) (by omega) (by first | (simp; done) | (simp; omega) | omega) ?_; intro A9 c9 w9 hown9 hbel9 hgr9 hat9; have z9 := hbel9.size; (try simp only [World.size_alloc] at z9); (try simp only [Nat.zero_add, List.nil_append] at hown9))
         go_ret2
         rw [HK3.out, List.length_append, sv_app]
         exact ⟨A9, c9, rfl, own_less hown9 (by omega), (hbl.alloc hbl.size _).trans (hbel9.mono (by omega))⟩
        ·as_aux_lemma =>
         have HK3 : Hid (R = (O ++ bDone :: numI m) ++ [bUpdates]) := Lib.hid (by rw [HK2.out, endW, if_neg h0, if_neg h1']; simp only [List.append_assoc]; rfl)
         have hb0 : (m == 0) = false := beq_eq_false_iff_ne.2 h0
         have hb1 : (m == 1) = false := beq_eq_false_iff_ne.2 h1'
         have HSy := Lib.hid (rsay m (by omega) (by omega) bDone O A2 O.length c2 (w.heap.size + 1) wr (fun Y hY => HTb.out.below (hbl.trans (hY.mono (by omega)))) ho rfl (by omega) hzr)
         have hml := numI_le m
         have hln : (O ++ bDone :: numI m).length ≤ 60000000000 := by rw [List.length_append, List.length_cons]; omega
         generalize O ++ bDone :: numI m = OD at *
         clear HK2 h0 h1' hst hml HTb
         go_wp2_with (first
          | (go_at_call 28; refine HSy.out.mono ?_; rintro e w5 ⟨⟨A5, c5, rfl, ho5⟩, hb5⟩; have hz5 := hb5.size)
          | (at_builtin; refine app_list rfl _ _ _ rfl elt_str ((w.heap.size + 1)) _ rfl (own_below ho5 ((Below.refl _ _).alloc (Nat.le_refl _) _)) _ _ rfl ((rd_built (xs := sv [bUpdates]) rfl rfl)) (by first | rfl | exact sv_one _ | exact wv_one _) (by omega) (by omega) (by first | (simp; done) | (simp; omega) | omega) ?_; intro A9 c9 w9 hown9 hbel9 hgr9 hat9; have z9 := hbel9.size; (try simp only [World.size_alloc] at z9); (try simp only [Nat.zero_add, List.nil_append] at hown9)))
         go_ret2
         rw [HK3.out, List.length_append, sv_app]
         exact ⟨A9, c9, rfl, own_less hown9 (by omega), ((hbl.trans (hb5.mono (by omega))).alloc (by omega) _).trans (hbel9.mono (by omega))⟩
    ·refine (?_ : Calls _ _ _ w (fun e w' => (∃ A, e = .returned (.tuple #[.slice A 0 0, .int .i64 (chkAll l)])) ∧ Below w.heap.size w w')).mono fun e w' h => VwR.err hw0 h4 h
     clear hw0
     generalize chkAll l = E2 at *
     have h4b : (E2 != 0) = true := bne_iff_ne.2 h4
     clear rd hsm ht h4
     go_enter Tryz.func14, Tryz.ntmps14
     go_upto_region 1 with fail
     refine wp_fg (fun X => StBox X r d sp p con k w.heap.size ∧ Below w.heap.size w X ∧ w.heap.size + 1 ≤ X.heap.size) ⟨StBox.new w r d sp p con k _, (Below.refl _ _).alloc (Nat.le_refl _) _, by simp⟩ ?_
     rintro X ⟨hst, hb0, hz0⟩
     have hst' := hst
     obtain ⟨s0, s1, s2, s3, s4, s5⟩ := hst
     go_wp2_with (first | (go_at_call 26; refine (HSt.out _).mono ?_; rintro e w1 ⟨rfl, hb1⟩; have hs1 := hb1.size) | (go_at_call 17; refine (HCk.out _ (hb0.trans (hb1.mono hb0.size))).mono ?_; rintro e w2 ⟨rfl, hb2⟩; have hs2 := hb2.size))
     go_ret2
     exact ⟨⟨_, rfl⟩, ((hb0.trans (hb1.mono hb0.size)).trans (hb2.mono (by first | (simp; done) | (simp; omega) | omega))).alloc (by first | (simp; done) | (simp; omega) | omega) _⟩
 ·refine (?_ : Calls _ _ _ w (fun e w' => (∃ A, e = .returned (.tuple #[.slice A 0 0, .int .i64 1])) ∧ Below w.heap.size w w')).mono fun e w' h => VwR.err (if_pos (.inl h1)) (by decide) h
  generalize chkAll l = E2 at *
  generalize setE r p k = E1 at *
  have h1b : (E1 != 0) = true := bne_iff_ne.2 h1
  clear h1 rd hsm ht
  go_enter Tryz.func14, Tryz.ntmps14
  go_upto_region 1 with fail
  refine wp_fg (fun X => StBox X r d sp p con k w.heap.size ∧ Below w.heap.size w X ∧ w.heap.size + 1 ≤ X.heap.size) ⟨StBox.new w r d sp p con k _, (Below.refl _ _).alloc (Nat.le_refl _) _, by simp⟩ ?_
  rintro X ⟨hst, hb0, hz0⟩
  have hst' := hst
  obtain ⟨s0, s1, s2, s3, s4, s5⟩ := hst
  go_wp2_with (first | (go_at_call 26; refine (HSt.out _).mono ?_; rintro e w1 ⟨rfl, hb1⟩; have hs1 := hb1.size) | (go_at_call 17; refine (HCk.out _ (hb0.trans (hb1.mono hb0.size))).mono ?_; rintro e w2 ⟨rfl, hb2⟩; have hs2 := hb2.size))
  go_ret2
  exact ⟨⟨_, rfl⟩, (hb0.trans (hb1.mono hb0.size)).alloc (by first | (simp; done) | (simp; omega) | omega) _⟩
end Go.Proofs.YtejjfiipghcifaaGreatDoor
