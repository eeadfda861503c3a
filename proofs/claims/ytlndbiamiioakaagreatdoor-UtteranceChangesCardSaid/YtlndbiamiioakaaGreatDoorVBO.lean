/- Joined: Vc1. -/
import Derived.Test.YtlndbiamiioakaaGreatDoorVBG
set_option linter.unusedVariables false
set_option linter.unusedSimpArgs false
set_option linter.unnecessarySimpa false
set_option maxHeartbeats 4000000
namespace Go.Proofs.YtlndbiamiioakaaGreatDoor
open Go.Proofs.Tryz Go.RowKit
set_option maxRecDepth 20000
theorem vP (n a b : Int) (w : World) : Calls prog 34 #[.int .i64 n, .int .i64 a, .int .i64 b] w fun e w' => e = .returned (.bool (inB n a b)) /\ w = w' := by
 unfold inB
 by_cases h1 : a <= n
 ·by_cases h2 : n <= b
  ·go_enter func34, ntmps34
   go_wp2
   go_ret
   exact ⟨by simp [h1, h2], rfl⟩
  ·go_enter func34, ntmps34
   go_wp2
   go_ret
   exact ⟨by simp [h1, h2], rfl⟩
 ·go_enter func34, ntmps34
  go_wp2
  go_ret
  exact ⟨by rw [decide_eq_false (show ¬ a <= n by omega)]; rfl, rfl⟩
theorem qfS (row col count til : Int) (g : List Gl) (A : Option Addr) (cap : Nat) (w : World) : Calls prog 17 #[ku ⟨1, row, col, count, til, g⟩ A cap] w (qg (.int .i64 (vb ⟨1, row, col, count, til, g⟩)) w) := by
 rw [qgn]
 obtain ⟨R, hR⟩ : ∃ x, x = vU (inB row 1 60 && inB col 1 132) (decide (count = 0) && decide (til = 0) && decide (g.length = 0)) false := ⟨_, rfl⟩
 rw [<- hR]
 have HR := Lh hR
 clear hR
 generalize hz0 : inB row 0 59 = z0 at *
 cases h1 : inB row 1 60 with
 | false => as_aux_lemma =>
  have HE : Hid (R = 2) := Lh (by rw [HR.out]; simp [vU, h1])
  clear HR
  skip
  go_enter func17, ntmps17
  go_upto_region 1 with fail
  refine qc (ChgBox w ⟨1, row, col, count, til, g⟩ A cap) (ChgBox.new w ⟨1, row, col, count, til, g⟩ A cap _) ?_
  rintro X ⟨c0, c1, c2, c3, c4, c5, hb, hzX⟩
  dsimp only at c0 c1 c2 c3 c4 c5
  go_wp2_with (go_at_call 34; refine (vP _ _ _ _).mono ?_; rintro e wy ⟨rfl, rfl⟩)
  go_ret
  exact ⟨by rw [HE.out]; rfl, hb⟩
 | true =>
  cases h2 : inB col 1 132 with
  | false => as_aux_lemma =>
   have HE : Hid (R = 2) := Lh (by rw [HR.out]; simp [vU, h1, h2])
   clear HR
   skip
   go_enter func17, ntmps17
   go_upto_region 1 with fail
   refine qc (ChgBox w ⟨1, row, col, count, til, g⟩ A cap) (ChgBox.new w ⟨1, row, col, count, til, g⟩ A cap _) ?_
   rintro X ⟨c0, c1, c2, c3, c4, c5, hb, hzX⟩
   dsimp only at c0 c1 c2 c3 c4 c5
   go_wp2_with (go_at_call 34; refine (vP _ _ _ _).mono ?_; rintro e wy ⟨rfl, rfl⟩)
   go_ret
   exact ⟨by rw [HE.out]; rfl, hb⟩
  | true =>
   by_cases h3 : count = 0
   ·have k3 : (count != 0) = false := by simp [h3]
    by_cases h4 : til = 0
    ·have k4 : (til != 0) = false := by simp [h4]
     by_cases h5 : g.length = 0
     ·as_aux_lemma =>
      have k5 : ¬ (0 : Int) < g.length := by omega
      have HE : Hid (R = 0) := Lh (by rw [HR.out]; simp [vU, h1, h2, h3, h4, h5])
      clear HR
      clear h3 h4 h5
      go_enter func17, ntmps17
      go_upto_region 1 with fail
      refine qc (ChgBox w ⟨1, row, col, count, til, g⟩ A cap) (ChgBox.new w ⟨1, row, col, count, til, g⟩ A cap _) ?_
      rintro X ⟨c0, c1, c2, c3, c4, c5, hb, hzX⟩
      dsimp only at c0 c1 c2 c3 c4 c5
      go_wp2_with (go_at_call 34; refine (vP _ _ _ _).mono ?_; rintro e wy ⟨rfl, rfl⟩)
      go_ret
      exact ⟨by rw [HE.out]; rfl, hb⟩
     ·as_aux_lemma =>
      have k5 : (0 : Int) < g.length := by omega
      have HE : Hid (R = 1) := Lh (by rw [HR.out]; simp [vU, h1, h2, h3, h4, h5])
      clear HR
      clear h3 h4 h5
      go_enter func17, ntmps17
      go_upto_region 1 with fail
      refine qc (ChgBox w ⟨1, row, col, count, til, g⟩ A cap) (ChgBox.new w ⟨1, row, col, count, til, g⟩ A cap _) ?_
      rintro X ⟨c0, c1, c2, c3, c4, c5, hb, hzX⟩
      dsimp only at c0 c1 c2 c3 c4 c5
      go_wp2_with (go_at_call 34; refine (vP _ _ _ _).mono ?_; rintro e wy ⟨rfl, rfl⟩)
      go_ret
      exact ⟨by rw [HE.out]; rfl, hb⟩
    ·as_aux_lemma =>
     have k4 : (til != 0) = true := bne_iff_ne.2 h4
     have HE : Hid (R = 1) := Lh (by rw [HR.out]; simp [vU, h1, h2, h3, h4])
     clear HR
     clear h3 h4
     go_enter func17, ntmps17
     go_upto_region 1 with fail
     refine qc (ChgBox w ⟨1, row, col, count, til, g⟩ A cap) (ChgBox.new w ⟨1, row, col, count, til, g⟩ A cap _) ?_
     rintro X ⟨c0, c1, c2, c3, c4, c5, hb, hzX⟩
     dsimp only at c0 c1 c2 c3 c4 c5
     go_wp2_with (go_at_call 34; refine (vP _ _ _ _).mono ?_; rintro e wy ⟨rfl, rfl⟩)
     go_ret
     exact ⟨by rw [HE.out]; rfl, hb⟩
   ·as_aux_lemma =>
    have k3 : (count != 0) = true := bne_iff_ne.2 h3
    have HE : Hid (R = 1) := Lh (by rw [HR.out]; simp [vU, h1, h2, h3])
    clear HR
    clear h3
    go_enter func17, ntmps17
    go_upto_region 1 with fail
    refine qc (ChgBox w ⟨1, row, col, count, til, g⟩ A cap) (ChgBox.new w ⟨1, row, col, count, til, g⟩ A cap _) ?_
    rintro X ⟨c0, c1, c2, c3, c4, c5, hb, hzX⟩
    dsimp only at c0 c1 c2 c3 c4 c5
    go_wp2_with (go_at_call 34; refine (vP _ _ _ _).mono ?_; rintro e wy ⟨rfl, rfl⟩)
    go_ret
    exact ⟨by rw [HE.out]; rfl, hb⟩
theorem qfY (row col count til : Int) (g : List Gl) (A : Option Addr) (cap : Nat) (w : World) : Calls prog 17 #[ku ⟨2, row, col, count, til, g⟩ A cap] w (qg (.int .i64 (vb ⟨2, row, col, count, til, g⟩)) w) := by
 rw [qgj]
 obtain ⟨R, hR⟩ : ∃ x, x = vU (inB row 0 59 && inB til (row + 1) 60 && inB count (-60) 60 && decide (count ≠ 0)) (decide (col = 0) && decide (g.length = 0)) false := ⟨_, rfl⟩
 rw [<- hR]
 have HR := Lh hR
 clear hR
 cases h0 : inB row 0 59 with
 | false => as_aux_lemma =>
  have HE : Hid (R = 2) := Lh (by rw [HR.out]; simp [vU, h0])
  clear HR
  skip
  go_enter func17, ntmps17
  go_upto_region 1 with fail
  refine qc (ChgBox w ⟨2, row, col, count, til, g⟩ A cap) (ChgBox.new w ⟨2, row, col, count, til, g⟩ A cap _) ?_
  rintro X ⟨c0, c1, c2, c3, c4, c5, hb, hzX⟩
  dsimp only at c0 c1 c2 c3 c4 c5
  go_wp2_with (go_at_call 34; refine (vP _ _ _ _).mono ?_; rintro e wy ⟨rfl, rfl⟩)
  go_ret
  exact ⟨by rw [HE.out]; rfl, hb⟩
 | true =>
  have e0 : IntKind.i64.wrap (row + 1) = row + 1 := by
   unfold inB at h0
   simp only [Bool.and_eq_true, decide_eq_true_eq] at h0
   rw [IntKind.wrap_i64]; omega
  cases h1 : inB til (row + 1) 60 with
  | false => as_aux_lemma =>
   have HE : Hid (R = 2) := Lh (by rw [HR.out]; simp [vU, h0, h1])
   clear HR
   skip
   go_enter func17, ntmps17
   go_upto_region 1 with fail
   refine qc (ChgBox w ⟨2, row, col, count, til, g⟩ A cap) (ChgBox.new w ⟨2, row, col, count, til, g⟩ A cap _) ?_
   rintro X ⟨c0, c1, c2, c3, c4, c5, hb, hzX⟩
   dsimp only at c0 c1 c2 c3 c4 c5
   go_wp2_with (go_at_call 34; refine (vP _ _ _ _).mono ?_; rintro e wy ⟨rfl, rfl⟩)
   go_ret
   exact ⟨by rw [HE.out]; rfl, hb⟩
  | true =>
   cases h2 : inB count (-60) 60 with
   | false => as_aux_lemma =>
    have HE : Hid (R = 2) := Lh (by rw [HR.out]; simp [vU, h0, h1, h2])
    clear HR
    skip
    go_enter func17, ntmps17
    go_upto_region 1 with fail
    refine qc (ChgBox w ⟨2, row, col, count, til, g⟩ A cap) (ChgBox.new w ⟨2, row, col, count, til, g⟩ A cap _) ?_
    rintro X ⟨c0, c1, c2, c3, c4, c5, hb, hzX⟩
    dsimp only at c0 c1 c2 c3 c4 c5
    go_wp2_with (go_at_call 34; refine (vP _ _ _ _).mono ?_; rintro e wy ⟨rfl, rfl⟩)
    go_ret
    exact ⟨by rw [HE.out]; rfl, hb⟩
   | true =>
    by_cases h3 : count = 0
    ·as_aux_lemma =>
     have k3 : (count == 0) = true := by simp [h3]
     have HE : Hid (R = 2) := Lh (by rw [HR.out]; simp [vU, h0, h1, h2, h3])
     clear HR
     clear h3
     go_enter func17, ntmps17
     go_upto_region 1 with fail
     refine qc (ChgBox w ⟨2, row, col, count, til, g⟩ A cap) (ChgBox.new w ⟨2, row, col, count, til, g⟩ A cap _) ?_
     rintro X ⟨c0, c1, c2, c3, c4, c5, hb, hzX⟩
     dsimp only at c0 c1 c2 c3 c4 c5
     go_wp2_with (go_at_call 34; refine (vP _ _ _ _).mono ?_; rintro e wy ⟨rfl, rfl⟩)
     go_ret
     exact ⟨by rw [HE.out]; rfl, hb⟩
    ·have k3 : (count == 0) = false := beq_eq_false_iff_ne.2 h3
     by_cases h4 : col = 0
     ·have k4 : (col != 0) = false := by simp [h4]
      by_cases h5 : g.length = 0
      ·as_aux_lemma =>
       have k5 : ¬ (0 : Int) < g.length := by omega
       have HE : Hid (R = 0) := Lh (by rw [HR.out]; simp [vU, h0, h1, h2, h3, h4, h5])
       clear HR
       clear h3 h4 h5
       go_enter func17, ntmps17
       go_upto_region 1 with fail
       refine qc (ChgBox w ⟨2, row, col, count, til, g⟩ A cap) (ChgBox.new w ⟨2, row, col, count, til, g⟩ A cap _) ?_
       rintro X ⟨c0, c1, c2, c3, c4, c5, hb, hzX⟩
       dsimp only at c0 c1 c2 c3 c4 c5
       go_wp2_with (go_at_call 34; refine (vP _ _ _ _).mono ?_; rintro e wy ⟨rfl, rfl⟩)
       go_ret
       exact ⟨by rw [HE.out]; rfl, hb⟩
      ·as_aux_lemma =>
       have k5 : (0 : Int) < g.length := by omega
       have HE : Hid (R = 1) := Lh (by rw [HR.out]; simp [vU, h0, h1, h2, h3, h4, h5])
       clear HR
       clear h3 h4 h5
       go_enter func17, ntmps17
       go_upto_region 1 with fail
       refine qc (ChgBox w ⟨2, row, col, count, til, g⟩ A cap) (ChgBox.new w ⟨2, row, col, count, til, g⟩ A cap _) ?_
       rintro X ⟨c0, c1, c2, c3, c4, c5, hb, hzX⟩
       dsimp only at c0 c1 c2 c3 c4 c5
       go_wp2_with (go_at_call 34; refine (vP _ _ _ _).mono ?_; rintro e wy ⟨rfl, rfl⟩)
       go_ret
       exact ⟨by rw [HE.out]; rfl, hb⟩
     ·as_aux_lemma =>
      have k4 : (col != 0) = true := bne_iff_ne.2 h4
      have HE : Hid (R = 1) := Lh (by rw [HR.out]; simp [vU, h0, h1, h2, h3, h4])
      clear HR
      clear h3 h4
      go_enter func17, ntmps17
      go_upto_region 1 with fail
      refine qc (ChgBox w ⟨2, row, col, count, til, g⟩ A cap) (ChgBox.new w ⟨2, row, col, count, til, g⟩ A cap _) ?_
      rintro X ⟨c0, c1, c2, c3, c4, c5, hb, hzX⟩
      dsimp only at c0 c1 c2 c3 c4 c5
      go_wp2_with (go_at_call 34; refine (vP _ _ _ _).mono ?_; rintro e wy ⟨rfl, rfl⟩)
      go_ret
      exact ⟨by rw [HE.out]; rfl, hb⟩
theorem qd7 (row col count til : Int) (g : List Gl) (A : Option Addr) (cap : Nat) (w : World) : Calls prog 17 #[ku ⟨4, row, col, count, til, g⟩ A cap] w (qg (.int .i64 (vb ⟨4, row, col, count, til, g⟩)) w) := by
 rw [qeT]
 obtain ⟨R, hR⟩ : ∃ x, x = vU (inB row 0 59 && inB col 0 131 && inB count 0 1) (decide (til = 0) && decide (g.length = 0)) false := ⟨_, rfl⟩
 rw [<- hR]
 have HR := Lh hR
 clear hR
 cases h0 : inB row 0 59 with
 | false => as_aux_lemma =>
  have HE : Hid (R = 2) := Lh (by rw [HR.out]; simp [vU, h0])
  clear HR
  skip
  go_enter func17, ntmps17
  go_upto_region 1 with fail
  refine qc (ChgBox w ⟨4, row, col, count, til, g⟩ A cap) (ChgBox.new w ⟨4, row, col, count, til, g⟩ A cap _) ?_
  rintro X ⟨c0, c1, c2, c3, c4, c5, hb, hzX⟩
  dsimp only at c0 c1 c2 c3 c4 c5
  go_wp2_with (go_at_call 34; refine (vP _ _ _ _).mono ?_; rintro e wy ⟨rfl, rfl⟩)
  go_ret
  exact ⟨by rw [HE.out]; rfl, hb⟩
 | true =>
  cases h1 : inB col 0 131 with
  | false => as_aux_lemma =>
   have HE : Hid (R = 2) := Lh (by rw [HR.out]; simp [vU, h0, h1])
   clear HR
   skip
   go_enter func17, ntmps17
   go_upto_region 1 with fail
   refine qc (ChgBox w ⟨4, row, col, count, til, g⟩ A cap) (ChgBox.new w ⟨4, row, col, count, til, g⟩ A cap _) ?_
   rintro X ⟨c0, c1, c2, c3, c4, c5, hb, hzX⟩
   dsimp only at c0 c1 c2 c3 c4 c5
   go_wp2_with (go_at_call 34; refine (vP _ _ _ _).mono ?_; rintro e wy ⟨rfl, rfl⟩)
   go_ret
   exact ⟨by rw [HE.out]; rfl, hb⟩
  | true =>
   cases h2 : inB count 0 1 with
   | false => as_aux_lemma =>
    have HE : Hid (R = 2) := Lh (by rw [HR.out]; simp [vU, h0, h1, h2])
    clear HR
    skip
    go_enter func17, ntmps17
    go_upto_region 1 with fail
    refine qc (ChgBox w ⟨4, row, col, count, til, g⟩ A cap) (ChgBox.new w ⟨4, row, col, count, til, g⟩ A cap _) ?_
    rintro X ⟨c0, c1, c2, c3, c4, c5, hb, hzX⟩
    dsimp only at c0 c1 c2 c3 c4 c5
    go_wp2_with (go_at_call 34; refine (vP _ _ _ _).mono ?_; rintro e wy ⟨rfl, rfl⟩)
    go_ret
    exact ⟨by rw [HE.out]; rfl, hb⟩
   | true =>
    by_cases h4 : til = 0
    ·have k4 : (til != 0) = false := by simp [h4]
     by_cases h5 : g.length = 0
     ·as_aux_lemma =>
      have k5 : ¬ (0 : Int) < g.length := by omega
      have HE : Hid (R = 0) := Lh (by rw [HR.out]; simp [vU, h0, h1, h2, h4, h5])
      clear HR
      clear h4 h5
      go_enter func17, ntmps17
      go_upto_region 1 with fail
      refine qc (ChgBox w ⟨4, row, col, count, til, g⟩ A cap) (ChgBox.new w ⟨4, row, col, count, til, g⟩ A cap _) ?_
      rintro X ⟨c0, c1, c2, c3, c4, c5, hb, hzX⟩
      dsimp only at c0 c1 c2 c3 c4 c5
      go_wp2_with (go_at_call 34; refine (vP _ _ _ _).mono ?_; rintro e wy ⟨rfl, rfl⟩)
      go_ret
      exact ⟨by rw [HE.out]; rfl, hb⟩
     ·as_aux_lemma =>
      have k5 : (0 : Int) < g.length := by omega
      have HE : Hid (R = 1) := Lh (by rw [HR.out]; simp [vU, h0, h1, h2, h4, h5])
      clear HR
      clear h4 h5
      go_enter func17, ntmps17
      go_upto_region 1 with fail
      refine qc (ChgBox w ⟨4, row, col, count, til, g⟩ A cap) (ChgBox.new w ⟨4, row, col, count, til, g⟩ A cap _) ?_
      rintro X ⟨c0, c1, c2, c3, c4, c5, hb, hzX⟩
      dsimp only at c0 c1 c2 c3 c4 c5
      go_wp2_with (go_at_call 34; refine (vP _ _ _ _).mono ?_; rintro e wy ⟨rfl, rfl⟩)
      go_ret
      exact ⟨by rw [HE.out]; rfl, hb⟩
    ·as_aux_lemma =>
     have k4 : (til != 0) = true := bne_iff_ne.2 h4
     have HE : Hid (R = 1) := Lh (by rw [HR.out]; simp [vU, h0, h1, h2, h4])
     clear HR
     clear h4
     go_enter func17, ntmps17
     go_upto_region 1 with fail
     refine qc (ChgBox w ⟨4, row, col, count, til, g⟩ A cap) (ChgBox.new w ⟨4, row, col, count, til, g⟩ A cap _) ?_
     rintro X ⟨c0, c1, c2, c3, c4, c5, hb, hzX⟩
     dsimp only at c0 c1 c2 c3 c4 c5
     go_wp2_with (go_at_call 34; refine (vP _ _ _ _).mono ?_; rintro e wy ⟨rfl, rfl⟩)
     go_ret
     exact ⟨by rw [HE.out]; rfl, hb⟩
theorem qdu (row col count til : Int) (g : List Gl) (A : Option Addr) (cap : Nat) (w : World) (B : Nat) (hn : g.length <= 1000000000) (rd : Rd w B 3 A g.length (qn g)) (hB : B <= w.heap.size) (hz : ∀ x ∈ g, x.text.size <= 1000000000) :
  Calls prog 17 #[ku ⟨3, row, col, count, til, g⟩ A cap] w (qg (.int .i64 (vb ⟨3, row, col, count, til, g⟩)) w) := by
 rw [qcZ]
 obtain ⟨R, hR⟩ : ∃ x, x = vU (inB row 0 59 && inB col 0 132 && inB count 0 132) (decide (til = 0) && !vl g) (decide (132 < g.length)) := ⟨_, rfl⟩
 rw [<- hR]
 have HR := Lh hR
 clear hR
 cases h0 : inB row 0 59 with
 | false => as_aux_lemma =>
  have HE : Hid (R = 2) := Lh (by rw [HR.out]; simp [vU, h0])
  clear HR
  skip
  go_enter func17, ntmps17
  go_upto_region 1 with fail
  refine qc (ChgBox w ⟨3, row, col, count, til, g⟩ A cap) (ChgBox.new w ⟨3, row, col, count, til, g⟩ A cap _) ?_
  rintro X ⟨c0, c1, c2, c3, c4, c5, hb, hzX⟩
  dsimp only at c0 c1 c2 c3 c4 c5
  go_wp2_with (go_at_call 34; refine (vP _ _ _ _).mono ?_; rintro e wy ⟨rfl, rfl⟩)
  go_ret
  exact ⟨by rw [HE.out]; rfl, hb⟩
 | true =>
  cases h1 : inB col 0 132 with
  | false => as_aux_lemma =>
   have HE : Hid (R = 2) := Lh (by rw [HR.out]; simp [vU, h0, h1])
   clear HR
   skip
   go_enter func17, ntmps17
   go_upto_region 1 with fail
   refine qc (ChgBox w ⟨3, row, col, count, til, g⟩ A cap) (ChgBox.new w ⟨3, row, col, count, til, g⟩ A cap _) ?_
   rintro X ⟨c0, c1, c2, c3, c4, c5, hb, hzX⟩
   dsimp only at c0 c1 c2 c3 c4 c5
   go_wp2_with (go_at_call 34; refine (vP _ _ _ _).mono ?_; rintro e wy ⟨rfl, rfl⟩)
   go_ret
   exact ⟨by rw [HE.out]; rfl, hb⟩
  | true =>
   cases h2 : inB count 0 132 with
   | false => as_aux_lemma =>
    have HE : Hid (R = 2) := Lh (by rw [HR.out]; simp [vU, h0, h1, h2])
    clear HR
    skip
    go_enter func17, ntmps17
    go_upto_region 1 with fail
    refine qc (ChgBox w ⟨3, row, col, count, til, g⟩ A cap) (ChgBox.new w ⟨3, row, col, count, til, g⟩ A cap _) ?_
    rintro X ⟨c0, c1, c2, c3, c4, c5, hb, hzX⟩
    dsimp only at c0 c1 c2 c3 c4 c5
    go_wp2_with (go_at_call 34; refine (vP _ _ _ _).mono ?_; rintro e wy ⟨rfl, rfl⟩)
    go_ret
    exact ⟨by rw [HE.out]; rfl, hb⟩
   | true =>
    by_cases h3 : 132 < g.length
    ·as_aux_lemma =>
     have k3 : (132 : Int) < g.length := by omega
     have HE : Hid (R = 5) := Lh (by rw [HR.out]; simp [vU, h0, h1, h2, h3])
     clear HR
     clear h3
     go_enter func17, ntmps17
     go_upto_region 1 with fail
     refine qc (ChgBox w ⟨3, row, col, count, til, g⟩ A cap) (ChgBox.new w ⟨3, row, col, count, til, g⟩ A cap _) ?_
     rintro X ⟨c0, c1, c2, c3, c4, c5, hb, hzX⟩
     dsimp only at c0 c1 c2 c3 c4 c5
     go_wp2_with (go_at_call 34; refine (vP _ _ _ _).mono ?_; rintro e wy ⟨rfl, rfl⟩)
     go_ret
     exact ⟨by rw [HE.out]; rfl, hb⟩
    ·have k3 : ¬ (132 : Int) < g.length := by omega
     by_cases h4 : til = 0
     ·as_aux_lemma =>
      have HRd := Lh rd
      have HRe : Hid (R = if vl (g.drop 0) = true then 1 else 0) := Lh (by rw [HR.out]; simp only [h0, h1, h2, h3, h4, vU, List.drop_zero]; cases vl g <;> rfl)
      have HG : Hid (∀ x ∈ g, ∀ w', Calls prog 35 #[glV x] w' (qg (.int .i64 (jV x)) w')) := Lh fun x hx w' => rglyph x (hz x hx) w'
      clear rd hz HR
      have k4 : (til != 0) = false := by simp [h4]
      clear h4
      go_enter func17, ntmps17
      go_upto_region 1 with fail
      refine qc (ChgBox w ⟨3, row, col, count, til, g⟩ A cap) (ChgBox.new w ⟨3, row, col, count, til, g⟩ A cap _) ?_
      rintro X ⟨c0, c1, c2, c3, c4, c5, hb, hzX⟩
      dsimp only at c0 c1 c2 c3 c4 c5
      go_wp2_with (go_at_call 34; refine (vP _ _ _ _).mono ?_; rintro e wy ⟨rfl, rfl⟩)
      go_loopw [4] (fun x wr => ∃ k : Nat, k <= g.length /\ x = .int .i64 k /\ ChgBox w ⟨3, row, col, count, til, g⟩ A cap wr /\ Hid (R = if vl (g.drop k) = true then 1 else 0)) (fun x _ => g.length - (intOf x).toNat)
      case atStart => exact ⟨0, Nat.zero_le _, rfl, ⟨c0, c1, c2, c3, c4, c5, hb, hzX⟩, HRe⟩
      case round =>
       clear c0 c1 c2 c3 c4 c5 hb hzX
       obtain ⟨k, hk, rfl, ⟨c0, c1, c2, c3, c4, c5, hb, hzX⟩, HK⟩ := hrel
       dsimp only at c0 c1 c2 c3 c4 c5
       by_cases hlt : k < g.length
       ·obtain ⟨b, o, rfl, hbB, g0, g1, g2⟩ := jJ (HRd.out.below (hb.mono hB)) hlt rfl
        have HD : Hid (vl (g.drop k) = (!y7 g[k] || vl (g.drop (k + 1)))) := Lh (by rw [List.drop_eq_getElem_cons hlt]; rfl)
        have HGk := Lh (HG.out g[k] (List.getElem_mem hlt))
        have hvl : y7 g[k] = decide (jV g[k] = 0) := rfl
        generalize g[k] = y at *
        obtain ⟨t, wd, st⟩ := y
        dsimp only at *
        generalize jV ⟨t, wd, st⟩ = K at *
        by_cases hK : K = 0
        ·have HR2 : Hid (R = if vl (g.drop (k + 1)) = true then 1 else 0) := Lh (by rw [HK.out, HD.out, hvl, hK]; rfl)
         have hKb : (K != 0) = false := by simp [hK]
         clear HK HD hvl hK HG HRd
         go_wp2_with (go_at_call 35; refine (HGk.out _).mono ?_; rintro e w1 ⟨rfl, hb1⟩)
         exact ⟨⟨k + 1, by omega, by go_num, ChgBox.on ⟨c0, c1, c2, c3, c4, c5, hb, hzX⟩ hb1, HR2⟩, by simp [intOf]; omega⟩
        ·have HR2 : Hid (R = 1) := Lh (by rw [HK.out, HD.out, hvl, decide_eq_false hK]; rfl)
         have hKb : (K != 0) = true := bne_iff_ne.2 hK
         clear HK HD hvl hK HG HRd
         go_wp2_with (go_at_call 35; refine (HGk.out _).mono ?_; rintro e w1 ⟨rfl, hb1⟩)
         go_ret
         exact ⟨by rw [HR2.out]; rfl, hb.trans (hb1.mono (by omega))⟩
       ·have HR2 : Hid (R = 0) := Lh (by rw [HK.out, List.drop_of_length_le (by omega)]; rfl)
        go_wp2
        go_ret
        exact ⟨by rw [HR2.out]; rfl, hb⟩
     ·as_aux_lemma =>
      have k4 : (til != 0) = true := bne_iff_ne.2 h4
      have HE : Hid (R = 1) := Lh (by rw [HR.out]; simp [vU, h0, h1, h2, h3, h4])
      clear HR
      clear h3 h4
      go_enter func17, ntmps17
      go_upto_region 1 with fail
      refine qc (ChgBox w ⟨3, row, col, count, til, g⟩ A cap) (ChgBox.new w ⟨3, row, col, count, til, g⟩ A cap _) ?_
      rintro X ⟨c0, c1, c2, c3, c4, c5, hb, hzX⟩
      dsimp only at c0 c1 c2 c3 c4 c5
      go_wp2_with (go_at_call 34; refine (vP _ _ _ _).mono ?_; rintro e wy ⟨rfl, rfl⟩)
      go_ret
      exact ⟨by rw [HE.out]; rfl, hb⟩
theorem qfX (c : Chg) (A : Option Addr) (cap : Nat) (w : World) (h1 : c.kind ≠ 1) (h2 : c.kind ≠ 2) (h3 : c.kind ≠ 3) (h4 : c.kind ≠ 4) : Calls prog 17 #[ku c A cap] w (qg (.int .i64 (vb c)) w) := by
 have e : vb c = 9 := if_pos (by omega)
 rw [e]
 obtain ⟨kind, row, col, count, til, g⟩ := c
 have b1 : (kind == 1) = false := beq_eq_false_iff_ne.2 h1
 have b2 : (kind == 2) = false := beq_eq_false_iff_ne.2 h2
 have b3 : (kind == 3) = false := beq_eq_false_iff_ne.2 h3
 have b4 : (kind == 4) = false := beq_eq_false_iff_ne.2 h4
 clear e h1 h2 h3 h4
 go_enter func17, ntmps17
 go_upto_region 1 with fail
 refine qc (ChgBox w ⟨kind, row, col, count, til, g⟩ A cap) (ChgBox.new w ⟨kind, row, col, count, til, g⟩ A cap _) ?_
 rintro X ⟨c0, c1, c2, c3, c4, c5, hb, hzX⟩
 dsimp only at c0 c1 c2 c3 c4 c5
 go_wp2_with (go_at_call 34; refine (vP _ _ _ _).mono ?_; rintro e wy ⟨rfl, rfl⟩)
 go_ret
 exact ⟨rfl, hb⟩
theorem vcheck_ (c : Chg) (A : Option Addr) (cap B : Nat) (w : World) (hn : c.glyphs.length <= 1000000000) (rd : Rd w B 3 A c.glyphs.length (qn c.glyphs)) (hB : B <= w.heap.size) (hz : ∀ x ∈ c.glyphs, x.text.size <= 1000000000) :
  Calls prog 17 #[ku c A cap] w (qg (.int .i64 (vb c)) w) := by
 by_cases h1 : c.kind = 1
 ·obtain ⟨kind, row, col, count, til, g⟩ := c
  obtain rfl : kind = 1 := h1
  exact qfS row col count til g A cap w
 ·by_cases h2 : c.kind = 2
  ·obtain ⟨kind, row, col, count, til, g⟩ := c
   obtain rfl : kind = 2 := h2
   exact qfY row col count til g A cap w
  ·by_cases h3 : c.kind = 3
   ·obtain ⟨kind, row, col, count, til, g⟩ := c
    obtain rfl : kind = 3 := h3
    exact qdu row col count til g A cap w B hn rd hB hz
   ·by_cases h4 : c.kind = 4
    ·obtain ⟨kind, row, col, count, til, g⟩ := c
     obtain rfl : kind = 4 := h4
     exact qd7 row col count til g A cap w
    ·exact qfX c A cap w h1 h2 h3 h4
end Go.Proofs.YtlndbiamiioakaaGreatDoor
