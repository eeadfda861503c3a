/- Joined texts: Lv4, Lv5. -/
import Derived.Test.YtholajadbbdcmaaGreatDoorQAA
import Derived.Test.YtholajadbbdcmaaGreatDoorQAB
import Derived.Test.YtholajadbbdcmaaGreatDoorQAC
import Derived.Test.YtholajadbbdcmaaGreatDoorQAD
import Derived.Test.YtholajadbbdcmaaGreatDoorQAE
import Derived.Test.YtholajadbbdcmaaGreatDoorQAG
import Derived.Test.YtholajadbbdcmaaGreatDoorQAH
import Derived.Test.YtholajadbbdcmaaGreatDoorQAI
import Derived.Test.YtholajadbbdcmaaGreatDoorQAM
import Derived.Test.YtholajadbbdcmaaGreatDoorQAN
import Derived.Test.YtholajadbbdcmaaGreatDoorQAO
import Derived.Test.YtholajadbbdcmaaGreatDoorQAP
import Derived.Test.YtholajadbbdcmaaGreatDoorQAQ
import Derived.Test.YtholajadbbdcmaaGreatDoorQAS
import Derived.Test.YtholajadbbdcmaaGreatDoorQAT
import Derived.Test.YtholajadbbdcmaaGreatDoorQBB
import Derived.Test.YtholajadbbdcmaaGreatDoorQBC
import Derived.Test.YtholajadbbdcmaaGreatDoorQBF
import Derived.Test.YtholajadbbdcmaaGreatDoorQBU
set_option linter.unusedVariables false
set_option linter.unusedSimpArgs false
set_option linter.unnecessarySimpa false
namespace Go.Proofs.YtholajadbbdcmaaGreatDoor
open Go.RowKit
set_option maxRecDepth 20000
set_option maxHeartbeats 4000000 in
theorem glyphs_both (g : Gl) (hs : g.text.size ≤ 1000000000) (w : World) (hu : U8 w) : Calls Tryz.prog 74 #[glV g] w (Gives (.int .i64 (glyphC g)) w) ∧ Calls Tryz.prog 89 #[glV g] w (Gives (.int .i64 (glyphC g)) w) := by
 have HK : Hid (∀ w', U8 w' → _) := Lib.hid (check_ g.text hs)
 have HW : Hid (∀ w', U8 w' → _) := Lib.hid (cwidth_ g.text hs)
 have HI : Hid (∀ w', Calls Tryz.prog 86 #[.int .i64 g.style, .int .i64 0, .int .i64 3] w' (Gives (.bool (inB g.style 0 3)) w')) := Lib.hid fun w' => (btw_ _ _ _ w').mono fun e w'' ⟨h1, h2⟩ => ⟨h1, h2 ▸ Below.refl _ _⟩
 have HU := Lib.hid hu
 have hq := star_beq g.text
 unfold glyphC
 obtain ⟨t, wd, st⟩ := g
 dsimp only at *
 clear hu
 by_cases hc : checkC t = 0
 ·rw [if_neg (by simp [hc])]
  rw [hc] at HK
  clear hc
  generalize widthC t = W at *
  by_cases h1 : wd = decide (W = 2)
  ·have e1 : (wd == (W == 2)) = true := by
    cases wd <;> by_cases h : W = 2 <;> simp_all
   by_cases h2 : st < 0
   ·rw [if_pos (.inr (.inl h2))]
    have d2 : decide (st < 0) = true := decide_eq_true h2
    have e2 : inB st 0 3 = false := by unfold inB; rw [decide_eq_false (by omega)]; rfl
    rw [e2] at HI
    clear hq h1 e2
    refine ⟨?_, ?_⟩
    ·clear HI
     go_enter Tryz.func74, Tryz.ntmps74
     go_upto_region 1 with fail
     refine wp_fg (GlBox w t wd st) (GlBox.new w t wd st _) ?_
     rintro wb hgb
     obtain ⟨c0, _, _, hb0, hz0⟩ := id hgb
     have hub := HU.out.below hb0
     go_upto_region 3 with (go_at_call 106; refine (HK.out _ hub).mono ?_; rintro e w1 ⟨rfl, hbel1⟩; have hg1 := hgb.on hbel1)
     obtain ⟨d0, d1, d2, hb1, hz1⟩ := id hg1
     have N0 : ∀ x : Near w1.heap.size w1, x.w.cell? ⟨w.heap.size, 0, none⟩ = some (.string t) := fun x => (x.h.cell (by show w.heap.size < _; omega)).trans d0
     have N1 : ∀ x : Near w1.heap.size w1, x.w.cell? ⟨w.heap.size, 1, none⟩ = some (.bool wd) := fun x => (x.h.cell (by show w.heap.size < _; omega)).trans d1
     have N2 : ∀ x : Near w1.heap.size w1, x.w.cell? ⟨w.heap.size, 2, none⟩ = some (.int .i64 st) := fun x => (x.h.cell (by show w.heap.size < _; omega)).trans d2
     have hzz := Nat.le_refl w1.heap.size
     have HUx : Hid (∀ x : Near w1.heap.size w1, U8 x.w) := Lib.hid fun x => HU.out.below (hb1.trans (x.h.mono (by omega)))
     clear d0 d1 d2 hg1 hgb c0 hub
     refine wp_region_near w1.heap.size (by kernel_rfl) (by kernel_rfl) ?_; (repeat (go_big_quiet_step ((go_at_call 107; exact Calls.near _ hzz (HW.out _ (HUx.out _)))))); refine wpQuiet_nil ?_; intro _ hw'; obtain ⟨x1, hw''⟩ := hw'; subst hw''
     go_wp2
     go_ret
     exact ⟨rfl, hb1.trans (x1.h.mono (by omega))⟩
    ·go_enter Tryz.func89, Tryz.ntmps89
     go_upto_region 1 with fail
     refine wp_fg (GlBox w t wd st) (GlBox.new w t wd st _) ?_
     rintro wb hgb
     obtain ⟨c0, _, _, hb0, hz0⟩ := id hgb
     have hub := HU.out.below hb0
     go_upto_region 3 with (go_at_call 106; refine (HK.out _ hub).mono ?_; rintro e w1 ⟨rfl, hbel1⟩; have hg1 := hgb.on hbel1)
     obtain ⟨d0, d1, d2, hb1, hz1⟩ := id hg1
     have N0 : ∀ x : Near w1.heap.size w1, x.w.cell? ⟨w.heap.size, 0, none⟩ = some (.string t) := fun x => (x.h.cell (by show w.heap.size < _; omega)).trans d0
     have N1 : ∀ x : Near w1.heap.size w1, x.w.cell? ⟨w.heap.size, 1, none⟩ = some (.bool wd) := fun x => (x.h.cell (by show w.heap.size < _; omega)).trans d1
     have N2 : ∀ x : Near w1.heap.size w1, x.w.cell? ⟨w.heap.size, 2, none⟩ = some (.int .i64 st) := fun x => (x.h.cell (by show w.heap.size < _; omega)).trans d2
     have hzz := Nat.le_refl w1.heap.size
     have HUx : Hid (∀ x : Near w1.heap.size w1, U8 x.w) := Lib.hid fun x => HU.out.below (hb1.trans (x.h.mono (by omega)))
     clear d0 d1 d2 hg1 hgb c0 hub
     refine wp_region_near w1.heap.size (by kernel_rfl) (by kernel_rfl) ?_; (repeat (go_big_quiet_step ((first | (go_at_call 107; exact Calls.near _ hzz (HW.out _ (HUx.out _))) | (go_at_call 86; exact Calls.near _ hzz (HI.out _)))))); refine wpQuiet_nil ?_; intro _ hw'; obtain ⟨x1, hw''⟩ := hw'; subst hw''
     go_wp2
     go_ret
     exact ⟨rfl, hb1.trans (x1.h.mono (by omega))⟩
   ·have d2 : decide (st < 0) = false := decide_eq_false h2
    by_cases h3 : 3 < st
    ·rw [if_pos (.inr (.inr (.inl h3)))]
     have d3 : decide (3 < st) = true := decide_eq_true h3
     have e2 : inB st 0 3 = false := by unfold inB; rw [decide_eq_false (show ¬ st ≤ 3 by omega), Bool.and_false]
     rw [e2] at HI
     clear hq h1 e2
     refine ⟨?_, ?_⟩
     ·clear HI
      go_enter Tryz.func74, Tryz.ntmps74
      go_upto_region 1 with fail
      refine wp_fg (GlBox w t wd st) (GlBox.new w t wd st _) ?_
      rintro wb hgb
      obtain ⟨c0, _, _, hb0, hz0⟩ := id hgb
      have hub := HU.out.below hb0
      go_upto_region 3 with (go_at_call 106; refine (HK.out _ hub).mono ?_; rintro e w1 ⟨rfl, hbel1⟩; have hg1 := hgb.on hbel1)
      obtain ⟨d0, d1, d2, hb1, hz1⟩ := id hg1
      have N0 : ∀ x : Near w1.heap.size w1, x.w.cell? ⟨w.heap.size, 0, none⟩ = some (.string t) := fun x => (x.h.cell (by show w.heap.size < _; omega)).trans d0
      have N1 : ∀ x : Near w1.heap.size w1, x.w.cell? ⟨w.heap.size, 1, none⟩ = some (.bool wd) := fun x => (x.h.cell (by show w.heap.size < _; omega)).trans d1
      have N2 : ∀ x : Near w1.heap.size w1, x.w.cell? ⟨w.heap.size, 2, none⟩ = some (.int .i64 st) := fun x => (x.h.cell (by show w.heap.size < _; omega)).trans d2
      have hzz := Nat.le_refl w1.heap.size
      have HUx : Hid (∀ x : Near w1.heap.size w1, U8 x.w) := Lib.hid fun x => HU.out.below (hb1.trans (x.h.mono (by omega)))
      clear d0 d1 d2 hg1 hgb c0 hub
      refine wp_region_near w1.heap.size (by kernel_rfl) (by kernel_rfl) ?_; (repeat (go_big_quiet_step ((go_at_call 107; exact Calls.near _ hzz (HW.out _ (HUx.out _)))))); refine wpQuiet_nil ?_; intro _ hw'; obtain ⟨x1, hw''⟩ := hw'; subst hw''
      go_wp2
      go_ret
      exact ⟨rfl, hb1.trans (x1.h.mono (by omega))⟩
     ·go_enter Tryz.func89, Tryz.ntmps89
      go_upto_region 1 with fail
      refine wp_fg (GlBox w t wd st) (GlBox.new w t wd st _) ?_
      rintro wb hgb
      obtain ⟨c0, _, _, hb0, hz0⟩ := id hgb
      have hub := HU.out.below hb0
      go_upto_region 3 with (go_at_call 106; refine (HK.out _ hub).mono ?_; rintro e w1 ⟨rfl, hbel1⟩; have hg1 := hgb.on hbel1)
      obtain ⟨d0, d1, d2, hb1, hz1⟩ := id hg1
      have N0 : ∀ x : Near w1.heap.size w1, x.w.cell? ⟨w.heap.size, 0, none⟩ = some (.string t) := fun x => (x.h.cell (by show w.heap.size < _; omega)).trans d0
      have N1 : ∀ x : Near w1.heap.size w1, x.w.cell? ⟨w.heap.size, 1, none⟩ = some (.bool wd) := fun x => (x.h.cell (by show w.heap.size < _; omega)).trans d1
      have N2 : ∀ x : Near w1.heap.size w1, x.w.cell? ⟨w.heap.size, 2, none⟩ = some (.int .i64 st) := fun x => (x.h.cell (by show w.heap.size < _; omega)).trans d2
      have hzz := Nat.le_refl w1.heap.size
      have HUx : Hid (∀ x : Near w1.heap.size w1, U8 x.w) := Lib.hid fun x => HU.out.below (hb1.trans (x.h.mono (by omega)))
      clear d0 d1 d2 hg1 hgb c0 hub
      refine wp_region_near w1.heap.size (by kernel_rfl) (by kernel_rfl) ?_; (repeat (go_big_quiet_step ((first | (go_at_call 107; exact Calls.near _ hzz (HW.out _ (HUx.out _))) | (go_at_call 86; exact Calls.near _ hzz (HI.out _)))))); refine wpQuiet_nil ?_; intro _ hw'; obtain ⟨x1, hw''⟩ := hw'; subst hw''
      go_wp2
      go_ret
      exact ⟨rfl, hb1.trans (x1.h.mono (by omega))⟩
    ·have d3 : decide (3 < st) = false := decide_eq_false h3
     have e2 : inB st 0 3 = true := by unfold inB; rw [decide_eq_true (by omega), decide_eq_true (by omega)]; rfl
     rw [e2] at HI
     clear e2
     by_cases h4 : st = 3
     ·have e4 : (st == 3) = true := beq_iff_eq.2 h4
      by_cases h5 : t = ⟨#[42]⟩
      ·rw [if_neg (by rw [not_or, not_or, not_or]; exact ⟨fun h => h h1, h2, h3, fun h => h.2 h5⟩)]
       have e5 : (t.toList == [42]) = true := by rw [hq]; simp [h5]
       clear hq h1 h5 h4
       refine ⟨?_, ?_⟩
       ·clear HI
        go_enter Tryz.func74, Tryz.ntmps74
        go_upto_region 1 with fail
        refine wp_fg (GlBox w t wd st) (GlBox.new w t wd st _) ?_
        rintro wb hgb
        obtain ⟨c0, _, _, hb0, hz0⟩ := id hgb
        have hub := HU.out.below hb0
        go_upto_region 3 with (go_at_call 106; refine (HK.out _ hub).mono ?_; rintro e w1 ⟨rfl, hbel1⟩; have hg1 := hgb.on hbel1)
        obtain ⟨d0, d1, d2, hb1, hz1⟩ := id hg1
        have N0 : ∀ x : Near w1.heap.size w1, x.w.cell? ⟨w.heap.size, 0, none⟩ = some (.string t) := fun x => (x.h.cell (by show w.heap.size < _; omega)).trans d0
        have N1 : ∀ x : Near w1.heap.size w1, x.w.cell? ⟨w.heap.size, 1, none⟩ = some (.bool wd) := fun x => (x.h.cell (by show w.heap.size < _; omega)).trans d1
        have N2 : ∀ x : Near w1.heap.size w1, x.w.cell? ⟨w.heap.size, 2, none⟩ = some (.int .i64 st) := fun x => (x.h.cell (by show w.heap.size < _; omega)).trans d2
        have hzz := Nat.le_refl w1.heap.size
        have HUx : Hid (∀ x : Near w1.heap.size w1, U8 x.w) := Lib.hid fun x => HU.out.below (hb1.trans (x.h.mono (by omega)))
        clear d0 d1 d2 hg1 hgb c0 hub
        refine wp_region_near w1.heap.size (by kernel_rfl) (by kernel_rfl) ?_; (repeat (go_big_quiet_step ((go_at_call 107; exact Calls.near _ hzz (HW.out _ (HUx.out _)))))); refine wpQuiet_nil ?_; intro _ hw'; obtain ⟨x1, hw''⟩ := hw'; subst hw''
        go_wp2
        go_ret
        exact ⟨rfl, hb1.trans (x1.h.mono (by omega))⟩
       ·go_enter Tryz.func89, Tryz.ntmps89
        go_upto_region 1 with fail
        refine wp_fg (GlBox w t wd st) (GlBox.new w t wd st _) ?_
        rintro wb hgb
        obtain ⟨c0, _, _, hb0, hz0⟩ := id hgb
        have hub := HU.out.below hb0
        go_upto_region 3 with (go_at_call 106; refine (HK.out _ hub).mono ?_; rintro e w1 ⟨rfl, hbel1⟩; have hg1 := hgb.on hbel1)
        obtain ⟨d0, d1, d2, hb1, hz1⟩ := id hg1
        have N0 : ∀ x : Near w1.heap.size w1, x.w.cell? ⟨w.heap.size, 0, none⟩ = some (.string t) := fun x => (x.h.cell (by show w.heap.size < _; omega)).trans d0
        have N1 : ∀ x : Near w1.heap.size w1, x.w.cell? ⟨w.heap.size, 1, none⟩ = some (.bool wd) := fun x => (x.h.cell (by show w.heap.size < _; omega)).trans d1
        have N2 : ∀ x : Near w1.heap.size w1, x.w.cell? ⟨w.heap.size, 2, none⟩ = some (.int .i64 st) := fun x => (x.h.cell (by show w.heap.size < _; omega)).trans d2
        have hzz := Nat.le_refl w1.heap.size
        have HUx : Hid (∀ x : Near w1.heap.size w1, U8 x.w) := Lib.hid fun x => HU.out.below (hb1.trans (x.h.mono (by omega)))
        clear d0 d1 d2 hg1 hgb c0 hub
        refine wp_region_near w1.heap.size (by kernel_rfl) (by kernel_rfl) ?_; (repeat (go_big_quiet_step ((first | (go_at_call 107; exact Calls.near _ hzz (HW.out _ (HUx.out _))) | (go_at_call 86; exact Calls.near _ hzz (HI.out _)))))); refine wpQuiet_nil ?_; intro _ hw'; obtain ⟨x1, hw''⟩ := hw'; subst hw''
        go_wp2
        go_ret
        exact ⟨rfl, hb1.trans (x1.h.mono (by omega))⟩
      ·rw [if_pos (.inr (.inr (.inr ⟨h4, h5⟩)))]
       have e5 : (t.toList == [42]) = false := by rw [hq]; simp [h5]
       clear hq h1 h5 h4
       refine ⟨?_, ?_⟩
       ·clear HI
        go_enter Tryz.func74, Tryz.ntmps74
        go_upto_region 1 with fail
        refine wp_fg (GlBox w t wd st) (GlBox.new w t wd st _) ?_
        rintro wb hgb
        obtain ⟨c0, _, _, hb0, hz0⟩ := id hgb
        have hub := HU.out.below hb0
        go_upto_region 3 with (go_at_call 106; refine (HK.out _ hub).mono ?_; rintro e w1 ⟨rfl, hbel1⟩; have hg1 := hgb.on hbel1)
        obtain ⟨d0, d1, d2, hb1, hz1⟩ := id hg1
        have N0 : ∀ x : Near w1.heap.size w1, x.w.cell? ⟨w.heap.size, 0, none⟩ = some (.string t) := fun x => (x.h.cell (by show w.heap.size < _; omega)).trans d0
        have N1 : ∀ x : Near w1.heap.size w1, x.w.cell? ⟨w.heap.size, 1, none⟩ = some (.bool wd) := fun x => (x.h.cell (by show w.heap.size < _; omega)).trans d1
        have N2 : ∀ x : Near w1.heap.size w1, x.w.cell? ⟨w.heap.size, 2, none⟩ = some (.int .i64 st) := fun x => (x.h.cell (by show w.heap.size < _; omega)).trans d2
        have hzz := Nat.le_refl w1.heap.size
        have HUx : Hid (∀ x : Near w1.heap.size w1, U8 x.w) := Lib.hid fun x => HU.out.below (hb1.trans (x.h.mono (by omega)))
        clear d0 d1 d2 hg1 hgb c0 hub
        refine wp_region_near w1.heap.size (by kernel_rfl) (by kernel_rfl) ?_; (repeat (go_big_quiet_step ((go_at_call 107; exact Calls.near _ hzz (HW.out _ (HUx.out _)))))); refine wpQuiet_nil ?_; intro _ hw'; obtain ⟨x1, hw''⟩ := hw'; subst hw''
        go_wp2
        go_ret
        exact ⟨rfl, hb1.trans (x1.h.mono (by omega))⟩
       ·go_enter Tryz.func89, Tryz.ntmps89
        go_upto_region 1 with fail
        refine wp_fg (GlBox w t wd st) (GlBox.new w t wd st _) ?_
        rintro wb hgb
        obtain ⟨c0, _, _, hb0, hz0⟩ := id hgb
        have hub := HU.out.below hb0
        go_upto_region 3 with (go_at_call 106; refine (HK.out _ hub).mono ?_; rintro e w1 ⟨rfl, hbel1⟩; have hg1 := hgb.on hbel1)
        obtain ⟨d0, d1, d2, hb1, hz1⟩ := id hg1
        have N0 : ∀ x : Near w1.heap.size w1, x.w.cell? ⟨w.heap.size, 0, none⟩ = some (.string t) := fun x => (x.h.cell (by show w.heap.size < _; omega)).trans d0
        have N1 : ∀ x : Near w1.heap.size w1, x.w.cell? ⟨w.heap.size, 1, none⟩ = some (.bool wd) := fun x => (x.h.cell (by show w.heap.size < _; omega)).trans d1
        have N2 : ∀ x : Near w1.heap.size w1, x.w.cell? ⟨w.heap.size, 2, none⟩ = some (.int .i64 st) := fun x => (x.h.cell (by show w.heap.size < _; omega)).trans d2
        have hzz := Nat.le_refl w1.heap.size
        have HUx : Hid (∀ x : Near w1.heap.size w1, U8 x.w) := Lib.hid fun x => HU.out.below (hb1.trans (x.h.mono (by omega)))
        clear d0 d1 d2 hg1 hgb c0 hub
        refine wp_region_near w1.heap.size (by kernel_rfl) (by kernel_rfl) ?_; (repeat (go_big_quiet_step ((first | (go_at_call 107; exact Calls.near _ hzz (HW.out _ (HUx.out _))) | (go_at_call 86; exact Calls.near _ hzz (HI.out _)))))); refine wpQuiet_nil ?_; intro _ hw'; obtain ⟨x1, hw''⟩ := hw'; subst hw''
        go_wp2
        go_ret
        exact ⟨rfl, hb1.trans (x1.h.mono (by omega))⟩
     ·rw [if_neg (by rw [not_or, not_or, not_or]; exact ⟨fun h => h h1, h2, h3, fun h => h4 h.1⟩)]
      have e4 : (st == 3) = false := beq_eq_false_iff_ne.2 h4
      clear hq h1
      refine ⟨?_, ?_⟩
      ·clear HI
       go_enter Tryz.func74, Tryz.ntmps74
       go_upto_region 1 with fail
       refine wp_fg (GlBox w t wd st) (GlBox.new w t wd st _) ?_
       rintro wb hgb
       obtain ⟨c0, _, _, hb0, hz0⟩ := id hgb
       have hub := HU.out.below hb0
       go_upto_region 3 with (go_at_call 106; refine (HK.out _ hub).mono ?_; rintro e w1 ⟨rfl, hbel1⟩; have hg1 := hgb.on hbel1)
       obtain ⟨d0, d1, d2, hb1, hz1⟩ := id hg1
       have N0 : ∀ x : Near w1.heap.size w1, x.w.cell? ⟨w.heap.size, 0, none⟩ = some (.string t) := fun x => (x.h.cell (by show w.heap.size < _; omega)).trans d0
       have N1 : ∀ x : Near w1.heap.size w1, x.w.cell? ⟨w.heap.size, 1, none⟩ = some (.bool wd) := fun x => (x.h.cell (by show w.heap.size < _; omega)).trans d1
       have N2 : ∀ x : Near w1.heap.size w1, x.w.cell? ⟨w.heap.size, 2, none⟩ = some (.int .i64 st) := fun x => (x.h.cell (by show w.heap.size < _; omega)).trans d2
       have hzz := Nat.le_refl w1.heap.size
       have HUx : Hid (∀ x : Near w1.heap.size w1, U8 x.w) := Lib.hid fun x => HU.out.below (hb1.trans (x.h.mono (by omega)))
       clear d0 d1 d2 hg1 hgb c0 hub
       refine wp_region_near w1.heap.size (by kernel_rfl) (by kernel_rfl) ?_; (repeat (go_big_quiet_step ((go_at_call 107; exact Calls.near _ hzz (HW.out _ (HUx.out _)))))); refine wpQuiet_nil ?_; intro _ hw'; obtain ⟨x1, hw''⟩ := hw'; subst hw''
       go_wp2
       go_ret
       exact ⟨rfl, hb1.trans (x1.h.mono (by omega))⟩
      ·go_enter Tryz.func89, Tryz.ntmps89
       go_upto_region 1 with fail
       refine wp_fg (GlBox w t wd st) (GlBox.new w t wd st _) ?_
       rintro wb hgb
       obtain ⟨c0, _, _, hb0, hz0⟩ := id hgb
       have hub := HU.out.below hb0
       go_upto_region 3 with (go_at_call 106; refine (HK.out _ hub).mono ?_; rintro e w1 ⟨rfl, hbel1⟩; have hg1 := hgb.on hbel1)
       obtain ⟨d0, d1, d2, hb1, hz1⟩ := id hg1
       have N0 : ∀ x : Near w1.heap.size w1, x.w.cell? ⟨w.heap.size, 0, none⟩ = some (.string t) := fun x => (x.h.cell (by show w.heap.size < _; omega)).trans d0
       have N1 : ∀ x : Near w1.heap.size w1, x.w.cell? ⟨w.heap.size, 1, none⟩ = some (.bool wd) := fun x => (x.h.cell (by show w.heap.size < _; omega)).trans d1
       have N2 : ∀ x : Near w1.heap.size w1, x.w.cell? ⟨w.heap.size, 2, none⟩ = some (.int .i64 st) := fun x => (x.h.cell (by show w.heap.size < _; omega)).trans d2
       have hzz := Nat.le_refl w1.heap.size
       have HUx : Hid (∀ x : Near w1.heap.size w1, U8 x.w) := Lib.hid fun x => HU.out.below (hb1.trans (x.h.mono (by omega)))
       clear d0 d1 d2 hg1 hgb c0 hub
       refine wp_region_near w1.heap.size (by kernel_rfl) (by kernel_rfl) ?_; (repeat (go_big_quiet_step ((first | (go_at_call 107; exact Calls.near _ hzz (HW.out _ (HUx.out _))) | (go_at_call 86; exact Calls.near _ hzz (HI.out _)))))); refine wpQuiet_nil ?_; intro _ hw'; obtain ⟨x1, hw''⟩ := hw'; subst hw''
       go_wp2
       go_ret
       exact ⟨rfl, hb1.trans (x1.h.mono (by omega))⟩
  ·rw [if_pos (.inl h1)]
   have e2 : (wd == (W == 2)) = false := by
    cases wd <;> by_cases h : W = 2 <;> simp_all
   clear hq h1
   refine ⟨?_, ?_⟩
   ·clear HI
    go_enter Tryz.func74, Tryz.ntmps74
    go_upto_region 1 with fail
    refine wp_fg (GlBox w t wd st) (GlBox.new w t wd st _) ?_
    rintro wb hgb
    obtain ⟨c0, _, _, hb0, hz0⟩ := id hgb
    have hub := HU.out.below hb0
    go_upto_region 3 with (go_at_call 106; refine (HK.out _ hub).mono ?_; rintro e w1 ⟨rfl, hbel1⟩; have hg1 := hgb.on hbel1)
    obtain ⟨d0, d1, d2, hb1, hz1⟩ := id hg1
    have N0 : ∀ x : Near w1.heap.size w1, x.w.cell? ⟨w.heap.size, 0, none⟩ = some (.string t) := fun x => (x.h.cell (by show w.heap.size < _; omega)).trans d0
    have N1 : ∀ x : Near w1.heap.size w1, x.w.cell? ⟨w.heap.size, 1, none⟩ = some (.bool wd) := fun x => (x.h.cell (by show w.heap.size < _; omega)).trans d1
    have N2 : ∀ x : Near w1.heap.size w1, x.w.cell? ⟨w.heap.size, 2, none⟩ = some (.int .i64 st) := fun x => (x.h.cell (by show w.heap.size < _; omega)).trans d2
    have hzz := Nat.le_refl w1.heap.size
    have HUx : Hid (∀ x : Near w1.heap.size w1, U8 x.w) := Lib.hid fun x => HU.out.below (hb1.trans (x.h.mono (by omega)))
    clear d0 d1 d2 hg1 hgb c0 hub
    refine wp_region_near w1.heap.size (by kernel_rfl) (by kernel_rfl) ?_; (repeat (go_big_quiet_step ((go_at_call 107; exact Calls.near _ hzz (HW.out _ (HUx.out _)))))); refine wpQuiet_nil ?_; intro _ hw'; obtain ⟨x1, hw''⟩ := hw'; subst hw''
    go_wp2
    go_ret
    exact ⟨rfl, hb1.trans (x1.h.mono (by omega))⟩
   ·go_enter Tryz.func89, Tryz.ntmps89
    go_upto_region 1 with fail
    refine wp_fg (GlBox w t wd st) (GlBox.new w t wd st _) ?_
    rintro wb hgb
    obtain ⟨c0, _, _, hb0, hz0⟩ := id hgb
    have hub := HU.out.below hb0
    go_upto_region 3 with (go_at_call 106; refine (HK.out _ hub).mono ?_; rintro e w1 ⟨rfl, hbel1⟩; have hg1 := hgb.on hbel1)
    obtain ⟨d0, d1, d2, hb1, hz1⟩ := id hg1
    have N0 : ∀ x : Near w1.heap.size w1, x.w.cell? ⟨w.heap.size, 0, none⟩ = some (.string t) := fun x => (x.h.cell (by show w.heap.size < _; omega)).trans d0
    have N1 : ∀ x : Near w1.heap.size w1, x.w.cell? ⟨w.heap.size, 1, none⟩ = some (.bool wd) := fun x => (x.h.cell (by show w.heap.size < _; omega)).trans d1
    have N2 : ∀ x : Near w1.heap.size w1, x.w.cell? ⟨w.heap.size, 2, none⟩ = some (.int .i64 st) := fun x => (x.h.cell (by show w.heap.size < _; omega)).trans d2
    have hzz := Nat.le_refl w1.heap.size
    have HUx : Hid (∀ x : Near w1.heap.size w1, U8 x.w) := Lib.hid fun x => HU.out.below (hb1.trans (x.h.mono (by omega)))
    clear d0 d1 d2 hg1 hgb c0 hub
    refine wp_region_near w1.heap.size (by kernel_rfl) (by kernel_rfl) ?_; (repeat (go_big_quiet_step ((first | (go_at_call 107; exact Calls.near _ hzz (HW.out _ (HUx.out _))) | (go_at_call 86; exact Calls.near _ hzz (HI.out _)))))); refine wpQuiet_nil ?_; intro _ hw'; obtain ⟨x1, hw''⟩ := hw'; subst hw''
    go_wp2
    go_ret
    exact ⟨rfl, hb1.trans (x1.h.mono (by omega))⟩
 ·rw [if_pos hc]
  generalize checkC t = K at *
  have hcb : (K != 0) = true := bne_iff_ne.2 hc
  clear hc hq
  refine ⟨?_, ?_⟩
  ·go_enter Tryz.func74, Tryz.ntmps74
   go_upto_region 1 with fail
   refine wp_fg (GlBox w t wd st) (GlBox.new w t wd st _) ?_
   rintro wb hgb
   obtain ⟨c0, _, _, hb0, hz0⟩ := id hgb
   have hub := HU.out.below hb0
   go_wp2_with (go_at_call 106; refine (HK.out _ hub).mono ?_; rintro e w1 ⟨rfl, hbel1⟩)
   go_ret
   exact ⟨rfl, hb0.trans (hbel1.mono (by omega))⟩
  ·go_enter Tryz.func89, Tryz.ntmps89
   go_upto_region 1 with fail
   refine wp_fg (GlBox w t wd st) (GlBox.new w t wd st _) ?_
   rintro wb hgb
   obtain ⟨c0, _, _, hb0, hz0⟩ := id hgb
   have hub := HU.out.below hb0
   go_wp2_with (go_at_call 106; refine (HK.out _ hub).mono ?_; rintro e w1 ⟨rfl, hbel1⟩)
   go_ret
   exact ⟨rfl, hb0.trans (hbel1.mono (by omega))⟩
end Go.Proofs.YtholajadbbdcmaaGreatDoor
namespace Go.Proofs.YtholajadbbdcmaaGreatDoor
open Go.RowKit
set_option maxRecDepth 20000
def VwBox (w : World) (v : Vw) (A : Option Addr) (n c : Nat) (wx : World) : Prop := Blk wx w.heap.size 24 (vwC v A n c) ∧ Below w.heap.size w wx
section
variable {w wx wy : World} {v : Vw} {A : Option Addr} {n c : Nat}
theorem VwBox.new (w : World) (v : Vw) (A : Option Addr) (n c : Nat) : VwBox w v A n c (w.alloc (.cells (vwC v A n c) 24)) := ⟨Blk.new _ _ _, (Below.refl _ _).alloc (Nat.le_refl _) _⟩
theorem VwBox.on (h : VwBox w v A n c wx) (hb : Below wx.heap.size wx wy) : VwBox w v A n c wy := ⟨h.1.below hb h.1.lt, h.2.trans (hb.mono (Nat.le_of_lt h.1.lt))⟩
theorem VwBox.lt (h : VwBox w v A n c wx) : w.heap.size + 1 ≤ wx.heap.size := h.1.lt
theorem VwBox.cells (h : VwBox w v A n c wx) : wx.cell? ⟨w.heap.size, 0, none⟩ = some (.int .i64 v.width) ∧ wx.cell? ⟨w.heap.size, 1, none⟩ = some (.int .i64 v.height) ∧ wx.cell? ⟨w.heap.size, 2, none⟩ = some (.slice A n c) ∧ wx.cell? ⟨w.heap.size, 3, none⟩ = some (.int .i64 v.row) ∧ wx.cell? ⟨w.heap.size, 4, none⟩ = some (.int .i64 v.col) ∧ wx.cell? ⟨w.heap.size, 5, none⟩ = some (.bool v.vis) :=
 ⟨h.1.cell 0, h.1.cell 1, h.1.cell 2, h.1.cell 3, h.1.cell 4, h.1.cell 5⟩
end
theorem rows_split (w : Int) (l : List Gl) (t : List (List Gl)) : rowsC w (l :: t) = if glsC l ≠ 0 then glsC l else if w < rowW l then 12 else if l.getLast? = some spG then 1 else rowsC w t := by
 rw [rowsC, rowC]
 by_cases h1 : glsC l = 0
 ·by_cases h2 : w < rowW l
  ·simp only [h1, h2, ne_eq, not_true, if_true, if_false]; rfl
  ·by_cases h3 : l.getLast? = some spG
   ·simp only [h1, h2, h3, ne_eq, not_true, if_true, if_false]; rfl
   ·simp only [h1, h2, h3, ne_eq, not_true, if_false]
 ·simp only [h1, ne_eq, not_false_eq_true, if_true]
theorem gls_drop {l : List Gl} {k : Nat} (h : k < l.length) : glsC (l.drop k) = if glyphC l[k] ≠ 0 then glyphC l[k] else glsC (l.drop (k + 1)) := by
 rw [List.drop_eq_getElem_cons h, glsC]
theorem last_at {l : List Gl} {k : Nat} (h : l.length = k + 1) : l.getLast? = some (l[k]'(by omega)) := by
 rw [List.getLast?_eq_getElem?, show l.length - 1 = k by omega, List.getElem?_eq_getElem (by omega)]
set_option maxHeartbeats 8000000 in
theorem vcheck_ (v : Vw) (A : Option Addr) (n c B : Nat) (rs : List RowM) (w : World) (rd : RdV w B v A n c rs) (hB : B ≤ w.heap.size) (hz : ∀ x ∈ rs, x.l.length ≤ 1000000000 ∧ ∀ g ∈ x.l, g.text.size ≤ 1000000000) (hu : U8 w) :
  Calls Tryz.prog 48 #[.agg (vwC v A n c)] w (Gives (.int .i64 (viewC v)) w) := by
 have hU := Lib.hid hu
 clear hu
 have HN := Lib.hid rd.1.len
 have hnm : n ≤ 9223372036854775807 := by have h1 := rd.2.2.1; have h2 := rd.2.2.2; unfold maxLen at h2; omega
 have HRL : Hid (v.rows = rls rs) := Lib.hid rd.2.1
 have HA : Hid (∀ k (hk : k < rs.length) w', Below w.heap.size w w' → ∃ b o, A = some ⟨b, o, none⟩ ∧ b < w.heap.size ∧ w'.cell? ⟨b, o + k, none⟩ = some (.slice rs[k].A rs[k].l.length rs[k].cap)) := Lib.hid fun k hk w' hb => ((rd.1.more hB).below hb).at_ hk
 have HG : Hid (∀ x ∈ rs, ∀ w', Below w.heap.size w w' → Rd w' w.heap.size 3 x.A x.l.length (encGs x.l)) := Lib.hid fun x hx w' hb => (((rd.1.gl x hx).1.more hB).below hb)
 have HX : Hid (∀ x ∈ rs, x.l.length ≤ 1000000000 ∧ ∀ g ∈ x.l, g.text.size ≤ 1000000000) := Lib.hid hz
 have HS : Hid (∀ k, k < rs.length → (rls rs).drop k = (rls rs).getD k [] :: (rls rs).drop (k + 1)) := Lib.hid fun k hk => by
  rw [List.drop_eq_getElem_cons (by rw [rls_len]; exact hk), List.getD_eq_getElem?_getD, List.getElem?_eq_getElem (by rw [rls_len]; exact hk)]
  rfl
 unfold viewC
 rw [HRL.out, rls_len, HN.out]
 clear rd hz
 obtain ⟨W, Hh, rows, row, col, vis⟩ := v
 dsimp only at *
 have HV : Hid (∀ x ∈ rs, ∀ g ∈ x.l, ∀ w', Below w.heap.size w w' → Calls Tryz.prog 74 #[glV g] w' (Gives (.int .i64 (glyphC g)) w')) := Lib.hid fun x hx g hg w' hb => (glyphs_both g ((HX.out x hx).2 g hg) w' (hU.out.below hb)).1
 have HWd : Hid (∀ x ∈ rs, ∀ w', Below w.heap.size w w' → Calls Tryz.prog 56 #[.slice x.A x.l.length x.cap] w' (Gives (.int .i64 (rowW x.l : Nat)) w')) := Lib.hid fun x hx w' hb => vwidth_ x.l x.A _ x.cap w.heap.size w' (HX.out x hx).1 (HG.out x hx w' hb) hb.size
 have HSz := Lib.hid (vsized_ W Hh)
 by_cases h1 : sizeB W Hh = false
 ·rw [if_pos h1]
  rw [h1] at HSz
  clear h1
  go_enter Tryz.func48, Tryz.ntmps48; go_upto_region 1 with fail; refine wp_fg (VwBox w ⟨W, Hh, rows, row, col, vis⟩ A n c) (VwBox.new w ⟨W, Hh, rows, row, col, vis⟩ A n c) ?_; intro X hX; obtain ⟨c0, c1, c2, c3, c4, c5⟩ := hX.cells; have hb := hX.2; dsimp only at c0 c1 c2 c3 c4 c5
  go_wp2_with (go_at_call 71; refine (HSz.out _).mono ?_; rintro e w1 ⟨rfl, rfl⟩)
  go_ret
  exact ⟨rfl, hb⟩
 ·have h1' : sizeB W Hh = true := by simpa using h1
  rw [if_neg h1]
  rw [h1'] at HSz
  clear h1 h1'
  by_cases h2 : (n : Int) = Hh
  ·rw [if_neg (by simpa using h2)]
   have hne : ((n : Int) != Hh) = false := by simp [h2]
   replace h2 := Lib.hid h2
   by_cases h3 : row < 0 ∨ Hh ≤ row ∨ col < 0 ∨ W ≤ col
   ·rw [if_pos h3]
    by_cases r1 : row < 0
    ·go_enter Tryz.func48, Tryz.ntmps48; go_upto_region 1 with fail; refine wp_fg (VwBox w ⟨W, Hh, rows, row, col, vis⟩ A n c) (VwBox.new w ⟨W, Hh, rows, row, col, vis⟩ A n c) ?_; intro X hX; obtain ⟨c0, c1, c2, c3, c4, c5⟩ := hX.cells; have hb := hX.2; dsimp only at c0 c1 c2 c3 c4 c5
     go_wp2_with (go_at_call 71; refine (HSz.out _).mono ?_; rintro e w1 ⟨rfl, rfl⟩)
     go_ret
     exact ⟨rfl, hb⟩
    ·by_cases r2 : Hh ≤ row
     ·go_enter Tryz.func48, Tryz.ntmps48; go_upto_region 1 with fail; refine wp_fg (VwBox w ⟨W, Hh, rows, row, col, vis⟩ A n c) (VwBox.new w ⟨W, Hh, rows, row, col, vis⟩ A n c) ?_; intro X hX; obtain ⟨c0, c1, c2, c3, c4, c5⟩ := hX.cells; have hb := hX.2; dsimp only at c0 c1 c2 c3 c4 c5
      go_wp2_with (go_at_call 71; refine (HSz.out _).mono ?_; rintro e w1 ⟨rfl, rfl⟩)
      go_ret
      exact ⟨rfl, hb⟩
     ·by_cases r3 : col < 0
      ·go_enter Tryz.func48, Tryz.ntmps48; go_upto_region 1 with fail; refine wp_fg (VwBox w ⟨W, Hh, rows, row, col, vis⟩ A n c) (VwBox.new w ⟨W, Hh, rows, row, col, vis⟩ A n c) ?_; intro X hX; obtain ⟨c0, c1, c2, c3, c4, c5⟩ := hX.cells; have hb := hX.2; dsimp only at c0 c1 c2 c3 c4 c5
       go_wp2_with (go_at_call 71; refine (HSz.out _).mono ?_; rintro e w1 ⟨rfl, rfl⟩)
       go_ret
       exact ⟨rfl, hb⟩
      ·have r4 : W ≤ col := by omega
       go_enter Tryz.func48, Tryz.ntmps48; go_upto_region 1 with fail; refine wp_fg (VwBox w ⟨W, Hh, rows, row, col, vis⟩ A n c) (VwBox.new w ⟨W, Hh, rows, row, col, vis⟩ A n c) ?_; intro X hX; obtain ⟨c0, c1, c2, c3, c4, c5⟩ := hX.cells; have hb := hX.2; dsimp only at c0 c1 c2 c3 c4 c5
       go_wp2_with (go_at_call 71; refine (HSz.out _).mono ?_; rintro e w1 ⟨rfl, rfl⟩)
       go_ret
       exact ⟨rfl, hb⟩
   ·rw [if_neg h3]
    have r1 : 0 ≤ row := by omega
    have r2 : row < Hh := by omega
    have r3 : 0 ≤ col := by omega
    have r4 : col < W := by omega
    clear h3
    have H0 : Hid (rowsC W (rls rs) = rowsC W ((rls rs).drop 0)) := Lib.hid rfl
    generalize rowsC W (rls rs) = R at *
    go_enter Tryz.func48, Tryz.ntmps48; go_upto_region 1 with fail; refine wp_fg (VwBox w ⟨W, Hh, rows, row, col, vis⟩ A n c) (VwBox.new w ⟨W, Hh, rows, row, col, vis⟩ A n c) ?_; intro X hX; obtain ⟨c0, c1, c2, c3, c4, c5⟩ := hX.cells; have hb := hX.2; dsimp only at c0 c1 c2 c3 c4 c5
    go_wp2_with (go_at_call 71; refine (HSz.out _).mono ?_; rintro e w1 ⟨rfl, rfl⟩)
    go_loopw [49] (fun x wr => ∃ k : Nat, k ≤ n ∧ x = .int .i64 k ∧ VwBox w ⟨W, Hh, rows, row, col, vis⟩ A n c wr ∧ Hid (R = rowsC W ((rls rs).drop k))) (fun x _ => n - (intOf x).toNat)
    case atStart => exact ⟨0, Nat.zero_le _, rfl, hX, H0⟩
    case round =>
     clear hX hb c0 c1 c2 c3 c4 c5 H0 HSz hne r1 r2 r3 r4
     obtain ⟨k, hk, rfl, hX, HK⟩ := hrel
     obtain ⟨c0, c1, c2, c3, c4, c5⟩ := hX.cells; have hb := hX.2; have hzX := hX.lt; dsimp only at c0 c1 c2 c3 c4 c5
     by_cases hlt : k < n
     ·have hkl : k < rs.length := by have := HN.out; omega
      obtain ⟨b, o, rfl, hbB, hc⟩ := HA.out k hkl _ hb
      have hx : rs[k] ∈ rs := List.getElem_mem hkl
      obtain ⟨T, HT⟩ : ∃ T, Hid (T = if W < rowW rs[k].l then 12 else if rs[k].l.getLast? = some spG then 1 else rowsC W ((rls rs).drop (k + 1))) := ⟨_, Lib.hid rfl⟩
      have HK2 : Hid (R = if glsC (rs[k].l.drop 0) ≠ 0 then glsC (rs[k].l.drop 0) else T) := Lib.hid (by rw [HK.out, HS.out k hkl, rls_getD hkl, rows_split, HT.out, List.drop_zero])
      have hl := (HX.out _ hx).1
      have HGk := Lib.hid (HG.out _ hx)
      have HVk := Lib.hid (HV.out _ hx)
      have HWk := Lib.hid (HWd.out _ hx)
      clear HK HA HG HX HV HWd HS hx
      generalize rs[k] = x at *
      obtain ⟨l, Al, cl⟩ := x
      dsimp only at *
      go_wp2
      go_loopw [55] (fun y wy => ∃ j : Nat, j ≤ l.length ∧ y = .int .i64 j ∧ VwBox w ⟨W, Hh, rows, row, col, vis⟩ (some ⟨b, o, none⟩) n c wy ∧ Hid (R = if glsC (l.drop j) ≠ 0 then glsC (l.drop j) else T)) (fun y _ => l.length - (intOf y).toNat)
      case atStart => exact ⟨0, Nat.zero_le _, rfl, hX, HK2⟩
      case round => as_aux_lemma =>
       clear hX hb c0 c1 c2 c3 c4 c5 HK2 hc hzX
       obtain ⟨j, hj, rfl, hX, HJ⟩ := hrel
       obtain ⟨c0, c1, c2, c3, c4, c5⟩ := hX.cells; have hb := hX.2; have hzX := hX.lt; dsimp only at c0 c1 c2 c3 c4 c5
       by_cases hlj : j < l.length
       ·obtain ⟨b', o', rfl, hbB', g0, g1, g2⟩ := rd_gl (HGk.out _ hb) hlj rfl
        have HVj := Lib.hid (HVk.out _ (List.getElem_mem hlj))
        have HJ2 := HJ.out
        rw [gls_drop hlj] at HJ2
        generalize l[j] = g at *
        by_cases h0 : glyphC g = 0
        ·rw [if_neg (show ¬ glyphC g ≠ 0 by simp [h0])] at HJ2
         replace HJ2 := Lib.hid HJ2
         rw [h0] at HVj
         clear h0
         obtain ⟨t, wd, st⟩ := g
         dsimp only at *
         go_wp2_with (go_at_call 74; refine (HVj.out _ (hb.alloc (by omega) _)).mono ?_; rintro e w1 ⟨rfl, hb1⟩)
         exact ⟨⟨j + 1, by omega, by go_num, hX.on (((Below.refl _ _).alloc (Nat.le_refl _) _).trans (hb1.mono (by simp))), HJ2⟩, by simp [intOf]; omega⟩
        ·rw [if_pos (show glyphC g ≠ 0 from h0), if_pos h0] at HJ2
         replace HJ2 := Lib.hid HJ2
         have hn0 : (glyphC g != 0) = true := bne_iff_ne.2 h0
         clear h0
         generalize hq : glyphC g = K at *
         clear hq
         obtain ⟨t, wd, st⟩ := g
         dsimp only at *
         go_wp2_with (go_at_call 74; refine (HVj.out _ (hb.alloc (by omega) _)).mono ?_; rintro e w1 ⟨rfl, hb1⟩)
         go_ret
         exact ⟨by rw [HJ2.out]; rfl, (hX.on (((Below.refl _ _).alloc (Nat.le_refl _) _).trans (hb1.mono (by simp)))).2⟩
       ·obtain rfl : j = l.length := by omega
        have HT2 : Hid (R = if W < rowW l then 12 else if l.getLast? = some spG then 1 else rowsC W ((rls rs).drop (k + 1))) := Lib.hid (by rw [HJ.out, List.drop_of_length_le (Nat.le_refl _), ← HT.out]; rfl)
        clear HT HJ HVk
        have hzz := Nat.le_refl wr.heap.size
        have N0 : ∀ x : Near wr.heap.size wr, x.w.cell? ⟨w.heap.size, 0, none⟩ = some (.int .i64 W) := fun x => (x.h.cell (by show w.heap.size < _; omega)).trans c0
        have HWx : Hid (∀ x : Near wr.heap.size wr, Calls Tryz.prog 56 #[.slice Al l.length cl] x.w (Gives (.int .i64 (rowW l : Nat)) x.w)) := Lib.hid fun x => HWk.out _ (hb.trans (x.h.mono (by omega)))
        clear HWk c0 c1 c2 c3 c4 c5
        generalize rowW l = rw0 at *
        by_cases hw : W < (rw0 : Int)
        ·rw [if_pos hw] at HT2
         go_wp2
         refine wp_region_near wr.heap.size (by kernel_rfl) (by kernel_rfl) ?_; (repeat (go_big_quiet_step ((go_at_call 56; exact Calls.near _ hzz (HWx.out _))))); refine wpQuiet_nil ?_; intro _ hw'; obtain ⟨x1, hw''⟩ := hw'; subst hw''
         go_wp2
         go_ret
         exact ⟨by rw [HT2.out]; rfl, (hX.on x1.h).2⟩
        ·as_aux_lemma =>
         rw [if_neg hw] at HT2
         have hw' : ¬ W < (rw0 : Int) := hw
         have hd : decide (W < (rw0 : Int)) = false := decide_eq_false hw
         clear hw hw'
         go_wp2
         refine wp_region_near wr.heap.size (by kernel_rfl) (by kernel_rfl) ?_; (repeat (go_big_quiet_step ((go_at_call 56; exact Calls.near _ hzz (HWx.out _))))); refine wpQuiet_nil ?_; intro _ hw'; obtain ⟨x1, hw''⟩ := hw'; subst hw''
         have hX1 := hX.on x1.h
         have hb1 := hX1.2
         have hz1 := Nat.le_refl x1.w.heap.size
         clear HWx N0 hd hX hb
         rcases Nat.eq_zero_or_pos l.length with h0 | h0
         ·have HT3 : Hid (R = rowsC W ((rls rs).drop (k + 1))) := Lib.hid (by rw [HT2.out, List.length_eq_zero_iff.1 h0]; rfl)
          have hd : decide (0 < l.length) = false := decide_eq_false (by omega)
          clear HT2 h0
          go_wp2
          go_quiet (fail)
          go_wp2
          exact ⟨⟨k + 1, by omega, by go_num, hX1.on (below_drewN (Below.refl _ _)), HT3⟩, by simp [intOf]; omega⟩
         ·obtain ⟨m, hm⟩ : ∃ m, l.length = m + 1 := ⟨l.length - 1, by omega⟩
          have hml : m < l.length := by omega
          obtain ⟨b', o', rfl, hbB', g0, g1, g2⟩ := rd_gl (HGk.out _ hb1) hml rfl
          rw [last_at hm] at HT2
          have hq := eq_gl l[m] spG
          have hg := guard_gl l[m] spG .eql
          have hmi : (l.length : Int) = (m : Int) + 1 := by omega
          have hd : decide (0 < l.length) = true := decide_eq_true h0
          have N := c3_near (wb := x1.w) (B := x1.w.heap.size) ⟨g0, g1, g2⟩ (Nat.lt_of_lt_of_le hbB' (by have := x1.h.size; omega))
          by_cases he : l[m] = spG
          ·rw [if_pos (by rw [he])] at HT2
           rw [decide_eq_true he] at hq
           clear he h0 HGk
           unfold glV spG at hq hg
           generalize l[m] = g at *
           obtain ⟨t, wd, st⟩ := g
           dsimp only at *
           clear g0 g1 g2
           go_wp2
           refine wp_region_near x1.w.heap.size (by kernel_rfl) (by kernel_rfl) ?_; (repeat (go_big_quiet_step ((go_at_call 75; exact Calls.near _ hz1 (vblank_ _))))); refine wpQuiet_nil ?_; intro _ hw'; obtain ⟨x2, hw''⟩ := hw'; subst hw''
           go_wp2
           go_ret
           exact ⟨by rw [HT2.out]; rfl, hb1.trans (x2.h.mono (by have := hX1.lt; omega))⟩
          ·rw [if_neg (fun e => he (by injection e))] at HT2
           rw [decide_eq_false he] at hq
           clear he h0 HGk
           unfold glV spG at hq hg
           generalize l[m] = g at *
           obtain ⟨t, wd, st⟩ := g
           dsimp only at *
           clear g0 g1 g2
           go_wp2
           refine wp_region_near x1.w.heap.size (by kernel_rfl) (by kernel_rfl) ?_; (repeat (go_big_quiet_step ((go_at_call 75; exact Calls.near _ hz1 (vblank_ _))))); refine wpQuiet_nil ?_; intro _ hw'; obtain ⟨x2, hw''⟩ := hw'; subst hw''
           go_wp2
           exact ⟨⟨k + 1, by omega, by go_num, hX1.on x2.h, HT2⟩, by simp [intOf]; omega⟩
     ·have HK2 : Hid (R = 0) := Lib.hid (by rw [HK.out, List.drop_of_length_le (by rw [rls_len]; have := HN.out; omega)]; rfl)
      go_wp2
      go_ret
      exact ⟨by rw [HK2.out]; rfl, hb⟩
  ·rw [if_pos h2]
   have hne : ((n : Int) != Hh) = true := bne_iff_ne.2 h2
   clear h2
   go_enter Tryz.func48, Tryz.ntmps48; go_upto_region 1 with fail; refine wp_fg (VwBox w ⟨W, Hh, rows, row, col, vis⟩ A n c) (VwBox.new w ⟨W, Hh, rows, row, col, vis⟩ A n c) ?_; intro X hX; obtain ⟨c0, c1, c2, c3, c4, c5⟩ := hX.cells; have hb := hX.2; dsimp only at c0 c1 c2 c3 c4 c5
   go_wp2_with (go_at_call 71; refine (HSz.out _).mono ?_; rintro e w1 ⟨rfl, rfl⟩)
   go_ret
   exact ⟨rfl, hb⟩
end Go.Proofs.YtholajadbbdcmaaGreatDoor
