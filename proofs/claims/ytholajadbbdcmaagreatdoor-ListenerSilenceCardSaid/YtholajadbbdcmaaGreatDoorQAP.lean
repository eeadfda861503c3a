/- Joined texts: Cl3, Rn7, Gl1, Gl2. -/
import Derived.Test.YtholajadbbdcmaaGreatDoorQAA
import Derived.Test.YtholajadbbdcmaaGreatDoorQAB
import Derived.Test.YtholajadbbdcmaaGreatDoorQAC
import Derived.Test.YtholajadbbdcmaaGreatDoorQAG
import Derived.Test.YtholajadbbdcmaaGreatDoorQAL
import Derived.Test.YtholajadbbdcmaaGreatDoorQAM
import Derived.Test.YtholajadbbdcmaaGreatDoorQAN
import Derived.Test.YtholajadbbdcmaaGreatDoorQAO
set_option linter.unusedVariables false
set_option linter.unusedSimpArgs false
set_option linter.unnecessarySimpa false
namespace Go.Proofs.YtholajadbbdcmaaGreatDoor
open Go.RowKit
set_option maxRecDepth 20000
set_option maxHeartbeats 2000000 in
theorem runes_ (s : ByteArray) (hs : s.size ≤ 1000000000) (w : World) (hu : U8 w) (hc : checkC s = 0) :
  Calls Tryz.prog 131 #[.string s] w fun e w' => ∃ A c, e = .returned (.slice A (charsL (bytN s)).length c) ∧ Below w.heap.size w w' ∧ (charsL (bytN s)).length ≤ c := by
 have HK := Lib.hid (check_ s hs w hu)
 rw [hc] at HK
 have HC : Hid (∀ w, _) := Lib.hid (conv_runes s (checkC_zero.1 hc).1 hs)
 generalize charsL (bytN s) = L at *
 clear hu hc
 go_enter Tryz.func131, Tryz.ntmps131
 go_upto_region 3 with (go_at_call 106; refine HK.out.mono ?_; rintro e w1 ⟨rfl, hbel1⟩)
 obtain ⟨c2, w2, hrun, rd2, hbel2, hcap⟩ := HC.out w1
 go_wp2
 go_ret
 exact ⟨_, _, rfl, hbel1.trans (hbel2.mono hbel1.size), hcap⟩
set_option maxHeartbeats 2000000 in
theorem marks_len (s : ByteArray) (hs : s.size ≤ 1000000000) (w : World) (hu : U8 w) (hc : checkC s = 0) :
  Calls Tryz.prog 218 #[.string s] w fun e w' => ∃ A c, e = .returned (.slice A ((charsL (bytN s)).length - 1) c) ∧ Below w.heap.size w w' := by
 have HK := Lib.hid (runes_ s hs w hu hc)
 obtain ⟨_, r, t, hL, _⟩ := checkC_zero.1 hc
 have hl := charsL_len s
 rw [hL] at HK hl
 rw [hL]
 rw [List.length_cons] at HK hl
 rw [List.length_cons]
 generalize t.length = n at *
 clear hu hc hL
 go_enter Tryz.func218, Tryz.ntmps218
 go_wp2_with (go_at_call 131; refine HK.out.mono ?_; rintro e w1 ⟨A1, c1, rfl, hbel1, hcap⟩)
 all_goals go_ret
 all_goals exact ⟨⟨_, _, rfl⟩, hbel1⟩
def attV (x : ByteArray × Int) : Value := .tuple #[.string x.1, .int .i64 x.2]
theorem chV_built (w : World) (r : Nat) (e : TypeId) : Rd (w.alloc (.cells #[.int .i32 (r : Int)] e)) (w.heap.size + 1) 1 (some ⟨w.heap.size, 0, none⟩) 1 (chV [r]) := rd_built (xs := chV [r]) rfl rfl
set_option maxHeartbeats 2000000 in
theorem attach_ (s : ByteArray) (hs : s.size ≤ 1000000000) (r : Nat) (hr : isChN r) (w : World) (hu : U8 w) :
  Calls Tryz.prog 206 #[.string s, .int .i32 (r : Int)] w (Gives (attV (attachC s (r : Int))) w) := by
 have HK := Lib.hid (check_ s hs w hu)
 have HM := Lib.hid (mark_ (r : Int))
 have HU := Lib.hid hu
 unfold attachC
 by_cases hc : checkC s = 0
 ·rw [if_neg (by simp [hc])]
  rw [hc] at HK
  generalize hmk : inT markT (r : Int) = M at *
  cases M with
  | false =>
   rw [if_pos rfl]
   clear hu
   go_enter Tryz.func206, Tryz.ntmps206
   go_wp2_with (first
    | (go_at_call 106; refine HK.out.mono ?_; rintro e w1 ⟨rfl, hbel1⟩)
    | (go_at_call 147; refine (HM.out _).mono ?_; rintro e w2 ⟨rfl, hbel2⟩))
   go_ret2
   exact ⟨rfl, hbel1.trans (hbel2.mono hbel1.size)⟩
  | true =>
   rw [if_neg (by simp)]
   have HL : Hid (∀ w, U8 w → _) := Lib.hid fun w hu => marks_len s hs w hu hc
   have HE := Lib.hid (fun A c B w => encode_ r hr A c B w)
   have hpos : 0 < (charsL (bytN s)).length := by
    obtain ⟨_, r, t, hL, _⟩ := checkC_zero.1 hc
    rw [hL]; simp
   have hl := charsL_len s
   have HS : Hid ((encB r).size ≤ 4) := Lib.hid (by
    have := (encN_pos r).2
    show (List.toArray _).size ≤ 4
    simpa using this)
   have hto : (r : Int).toNat = r := rfl
   rw [hto]
   generalize (charsL (bytN s)).length = n at *
   generalize encB r = E at *
   clear hu hc hmk
   by_cases h4 : 4 ≤ n
   ·rw [if_pos h4]
    go_enter Tryz.func206, Tryz.ntmps206
    go_wp2_with (first
     | (go_at_call 106; refine HK.out.mono ?_; rintro e w1 ⟨rfl, hbel1⟩)
     | (go_at_call 147; refine (HM.out _).mono ?_; rintro e w2 ⟨rfl, hbel2⟩; have t2 := hbel1.trans (hbel2.mono hbel1.size))
     | (go_at_call 218; refine (HL.out _ (HU.out.below t2)).mono ?_; rintro e w3 ⟨A3, c3, rfl, hbel3⟩; have t3 := t2.trans (hbel3.mono t2.size)))
    go_ret2
    exact ⟨rfl, t3⟩
   ·rw [if_neg h4]
    have hS := HS.out
    go_enter Tryz.func206, Tryz.ntmps206
    go_wp2_with (first
     | (go_at_call 106; refine HK.out.mono ?_; rintro e w1 ⟨rfl, hbel1⟩)
     | (go_at_call 147; refine (HM.out _).mono ?_; rintro e w2 ⟨rfl, hbel2⟩; have t2 := hbel1.trans (hbel2.mono hbel1.size))
     | (go_at_call 218; refine (HL.out _ (HU.out.below t2)).mono ?_; rintro e w3 ⟨A3, c3, rfl, hbel3⟩; have t3 := t2.trans (hbel3.mono t2.size))
     | (go_at_call 207; refine (HE.out _ _ _ _ (chV_built _ r _) (by simp)).mono ?_; rintro e w4 ⟨rfl, hbel4⟩))
    go_ret2
    exact ⟨rfl, (t3.alloc t3.size _).trans (hbel4.mono (by have := t3.size; simp; omega))⟩
 ·rw [if_pos hc]
  generalize checkC s = K at *
  have hcb : (K != 0) = true := bne_iff_ne.2 hc
  clear hu hc
  go_enter Tryz.func206, Tryz.ntmps206
  go_wp2_with (go_at_call 106; refine HK.out.mono ?_; rintro e w1 ⟨rfl, hbel1⟩)
  go_ret2
  exact ⟨rfl, hbel1⟩
end Go.Proofs.YtholajadbbdcmaaGreatDoor
namespace Go.Proofs.YtholajadbbdcmaaGreatDoor
open Go.RowKit
set_option maxRecDepth 20000
set_option maxHeartbeats 1000000 in
theorem rwidthC (s : ByteArray) (hs : s.size ≤ 1000000000) (w : World) : Calls Tryz.prog 98 #[.string s] w (Gives (.int .i64 (widthC s)) w) := by
 have HK := Lib.hid (rcheck s hs w)
 have HC := Lib.hid (rcharacters s hs)
 unfold widthC
 by_cases h0 : checkC s = 0
 ·rw [if_pos h0]
  rw [h0] at HK
  obtain ⟨hv, r, t, hL, _⟩ := checkC_zero.1 h0
  rw [hL] at HC
  rw [hL]
  have HW := Lib.hid (rwidth (r : Int))
  simp only [List.headD_cons]
  generalize widL (r : Int) = W at *
  have hlen : 0 < (r :: t).length := by simp
  have HG : Hid ((chV (r :: t))[0]? = some (.int .i32 (r : Int))) := Lib.hid rfl
  generalize (r :: t) = L at *
  clear h0 hv hL
  go_enter Tryz.func98, Tryz.ntmps98
  go_wp2_with (first
   | (go_at_call 97; refine HK.out.mono ?_; rintro e w1 ⟨rfl, hbel1⟩)
   | (go_at_call 117; refine (HC.out _).mono ?_; rintro e w2 ⟨A2, c2, rfl, hown2, hbel2⟩; have t2 := hbel1.trans (hbel2.mono hbel1.size); obtain ⟨b, o, rfl, _, hcc⟩ := (Rd.of_own hown2).2 (by omega); have cell0 := hcc 0 _ HG.out; simp only [Nat.add_zero] at cell0)
   | (go_at_call 119; refine (HW.out _).mono ?_; rintro e w3 ⟨rfl, hbel3⟩; have t3 := t2.trans (hbel3.mono t2.size)))
  go_ret
  exact ⟨rfl, t3⟩
 ·rw [if_neg h0]
  generalize checkC s = K at *
  have hcb : (K != 0) = true := bne_iff_ne.2 h0
  clear h0
  go_enter Tryz.func98, Tryz.ntmps98
  go_wp2_with (go_at_call 97; refine HK.out.mono ?_; rintro e w1 ⟨rfl, hbel1⟩)
  go_ret
  exact ⟨rfl, hbel1⟩
end Go.Proofs.YtholajadbbdcmaaGreatDoor
namespace Go.Proofs.YtholajadbbdcmaaGreatDoor
open Go.RowKit
set_option maxRecDepth 20000
def glyphC (g : Gl) : Int := if checkC g.text ≠ 0 then 3 else if g.wide ≠ decide (widthC g.text = 2) ∨ g.style < 0 ∨ 3 < g.style ∨ (g.style = 3 ∧ g.text ≠ ⟨#[42]⟩) then 9 else 0
theorem star_beq (s : ByteArray) : (s.toList == [42]) = decide (s = ⟨#[42]⟩) := by
 have := str_beq s ⟨#[42]⟩
 rw [← this]
 simp [ByteArray.toList_eq]
set_option maxHeartbeats 4000000 in
theorem rglyph (g : Gl) (hs : g.text.size ≤ 1000000000) (w : World) : Calls Tryz.prog 63 #[glV g] w (Gives (.int .i64 (glyphC g)) w) := by
 have HK := Lib.hid (rcheck g.text hs)
 have HW := Lib.hid (rwidthC g.text hs)
 have hq := star_beq g.text
 unfold glyphC
 obtain ⟨t, wd, st⟩ := g
 dsimp only at *
 by_cases hc : checkC t = 0
 ·rw [if_neg (by simp [hc])]
  rw [hc] at HK
  clear hc
  generalize widthC t = W at *
  by_cases h1 : wd = decide (W = 2)
  ·have e1 : (wd == (W == 2)) = true := by
    cases wd <;> by_cases h : W = 2 <;> simp_all
   by_cases h2 : st < 0
   ·rw [if_pos (.inr (.inl h2))]
    have d2 : decide (st < 0) = true := decide_eq_true h2
    clear hq h1
    go_enter Tryz.func63, Tryz.ntmps63
    go_upto_region 1 with fail
    refine wp_fg (GlBox w t wd st) (GlBox.new w t wd st _) ?_
    rintro wb hgb
    obtain ⟨c0, _, _, hb0, hz0⟩ := id hgb
    go_upto_region 3 with (go_at_call 97; refine (HK.out _).mono ?_; rintro e w1 ⟨rfl, hbel1⟩; have hg1 := hgb.on hbel1)
    obtain ⟨d0, d1, d2, hb1, hz1⟩ := id hg1
    have N0 : ∀ x : Near w1.heap.size w1, x.w.cell? ⟨w.heap.size, 0, none⟩ = some (.string t) := fun x => (x.h.cell (by show w.heap.size < _; omega)).trans d0
    have N1 : ∀ x : Near w1.heap.size w1, x.w.cell? ⟨w.heap.size, 1, none⟩ = some (.bool wd) := fun x => (x.h.cell (by show w.heap.size < _; omega)).trans d1
    have N2 : ∀ x : Near w1.heap.size w1, x.w.cell? ⟨w.heap.size, 2, none⟩ = some (.int .i64 st) := fun x => (x.h.cell (by show w.heap.size < _; omega)).trans d2
    have hzz := Nat.le_refl w1.heap.size
    clear d0 d1 d2 hg1 hgb c0
    refine wp_region_near w1.heap.size (by kernel_rfl) (by kernel_rfl) ?_; (repeat (go_big_quiet_step ((go_at_call 98; exact Calls.near _ hzz (HW.out _))))); refine wpQuiet_nil ?_; intro _ hw'; obtain ⟨x1, hw''⟩ := hw'; subst hw''
    go_wp2
    go_ret
    exact ⟨rfl, hb1.trans (x1.h.mono (by omega))⟩
   ·have d2 : decide (st < 0) = false := decide_eq_false h2
    by_cases h3 : 3 < st
    ·rw [if_pos (.inr (.inr (.inl h3)))]
     have d3 : decide (3 < st) = true := decide_eq_true h3
     clear hq h1
     go_enter Tryz.func63, Tryz.ntmps63
     go_upto_region 1 with fail
     refine wp_fg (GlBox w t wd st) (GlBox.new w t wd st _) ?_
     rintro wb hgb
     obtain ⟨c0, _, _, hb0, hz0⟩ := id hgb
     go_upto_region 3 with (go_at_call 97; refine (HK.out _).mono ?_; rintro e w1 ⟨rfl, hbel1⟩; have hg1 := hgb.on hbel1)
     obtain ⟨d0, d1, d2, hb1, hz1⟩ := id hg1
     have N0 : ∀ x : Near w1.heap.size w1, x.w.cell? ⟨w.heap.size, 0, none⟩ = some (.string t) := fun x => (x.h.cell (by show w.heap.size < _; omega)).trans d0
     have N1 : ∀ x : Near w1.heap.size w1, x.w.cell? ⟨w.heap.size, 1, none⟩ = some (.bool wd) := fun x => (x.h.cell (by show w.heap.size < _; omega)).trans d1
     have N2 : ∀ x : Near w1.heap.size w1, x.w.cell? ⟨w.heap.size, 2, none⟩ = some (.int .i64 st) := fun x => (x.h.cell (by show w.heap.size < _; omega)).trans d2
     have hzz := Nat.le_refl w1.heap.size
     clear d0 d1 d2 hg1 hgb c0
     refine wp_region_near w1.heap.size (by kernel_rfl) (by kernel_rfl) ?_; (repeat (go_big_quiet_step ((go_at_call 98; exact Calls.near _ hzz (HW.out _))))); refine wpQuiet_nil ?_; intro _ hw'; obtain ⟨x1, hw''⟩ := hw'; subst hw''
     go_wp2
     go_ret
     exact ⟨rfl, hb1.trans (x1.h.mono (by omega))⟩
    ·have d3 : decide (3 < st) = false := decide_eq_false h3
     by_cases h4 : st = 3
     ·by_cases h5 : t = ⟨#[42]⟩
      ·rw [if_neg (by rw [not_or, not_or, not_or]; exact ⟨fun h => h h1, h2, h3, fun h => h.2 h5⟩)]
       have e5 : (t.toList == [42]) = true := by rw [hq]; simp [h5]
       have e4 : (st == 3) = true := beq_iff_eq.2 h4
       clear hq h1 h5 h4
       go_enter Tryz.func63, Tryz.ntmps63
       go_upto_region 1 with fail
       refine wp_fg (GlBox w t wd st) (GlBox.new w t wd st _) ?_
       rintro wb hgb
       obtain ⟨c0, _, _, hb0, hz0⟩ := id hgb
       go_upto_region 3 with (go_at_call 97; refine (HK.out _).mono ?_; rintro e w1 ⟨rfl, hbel1⟩; have hg1 := hgb.on hbel1)
       obtain ⟨d0, d1, d2, hb1, hz1⟩ := id hg1
       have N0 : ∀ x : Near w1.heap.size w1, x.w.cell? ⟨w.heap.size, 0, none⟩ = some (.string t) := fun x => (x.h.cell (by show w.heap.size < _; omega)).trans d0
       have N1 : ∀ x : Near w1.heap.size w1, x.w.cell? ⟨w.heap.size, 1, none⟩ = some (.bool wd) := fun x => (x.h.cell (by show w.heap.size < _; omega)).trans d1
       have N2 : ∀ x : Near w1.heap.size w1, x.w.cell? ⟨w.heap.size, 2, none⟩ = some (.int .i64 st) := fun x => (x.h.cell (by show w.heap.size < _; omega)).trans d2
       have hzz := Nat.le_refl w1.heap.size
       clear d0 d1 d2 hg1 hgb c0
       refine wp_region_near w1.heap.size (by kernel_rfl) (by kernel_rfl) ?_; (repeat (go_big_quiet_step ((go_at_call 98; exact Calls.near _ hzz (HW.out _))))); refine wpQuiet_nil ?_; intro _ hw'; obtain ⟨x1, hw''⟩ := hw'; subst hw''
       go_wp2
       go_ret
       exact ⟨rfl, hb1.trans (x1.h.mono (by omega))⟩
      ·rw [if_pos (.inr (.inr (.inr ⟨h4, h5⟩)))]
       have e5 : (t.toList == [42]) = false := by rw [hq]; simp [h5]
       have e4 : (st == 3) = true := beq_iff_eq.2 h4
       clear hq h1 h5 h4
       go_enter Tryz.func63, Tryz.ntmps63
       go_upto_region 1 with fail
       refine wp_fg (GlBox w t wd st) (GlBox.new w t wd st _) ?_
       rintro wb hgb
       obtain ⟨c0, _, _, hb0, hz0⟩ := id hgb
       go_upto_region 3 with (go_at_call 97; refine (HK.out _).mono ?_; rintro e w1 ⟨rfl, hbel1⟩; have hg1 := hgb.on hbel1)
       obtain ⟨d0, d1, d2, hb1, hz1⟩ := id hg1
       have N0 : ∀ x : Near w1.heap.size w1, x.w.cell? ⟨w.heap.size, 0, none⟩ = some (.string t) := fun x => (x.h.cell (by show w.heap.size < _; omega)).trans d0
       have N1 : ∀ x : Near w1.heap.size w1, x.w.cell? ⟨w.heap.size, 1, none⟩ = some (.bool wd) := fun x => (x.h.cell (by show w.heap.size < _; omega)).trans d1
       have N2 : ∀ x : Near w1.heap.size w1, x.w.cell? ⟨w.heap.size, 2, none⟩ = some (.int .i64 st) := fun x => (x.h.cell (by show w.heap.size < _; omega)).trans d2
       have hzz := Nat.le_refl w1.heap.size
       clear d0 d1 d2 hg1 hgb c0
       refine wp_region_near w1.heap.size (by kernel_rfl) (by kernel_rfl) ?_; (repeat (go_big_quiet_step ((go_at_call 98; exact Calls.near _ hzz (HW.out _))))); refine wpQuiet_nil ?_; intro _ hw'; obtain ⟨x1, hw''⟩ := hw'; subst hw''
       go_wp2
       go_ret
       exact ⟨rfl, hb1.trans (x1.h.mono (by omega))⟩
     ·rw [if_neg (by rw [not_or, not_or, not_or]; exact ⟨fun h => h h1, h2, h3, fun h => h4 h.1⟩)]
      have e4 : (st == 3) = false := beq_eq_false_iff_ne.2 h4
      clear hq h1
      go_enter Tryz.func63, Tryz.ntmps63
      go_upto_region 1 with fail
      refine wp_fg (GlBox w t wd st) (GlBox.new w t wd st _) ?_
      rintro wb hgb
      obtain ⟨c0, _, _, hb0, hz0⟩ := id hgb
      go_upto_region 3 with (go_at_call 97; refine (HK.out _).mono ?_; rintro e w1 ⟨rfl, hbel1⟩; have hg1 := hgb.on hbel1)
      obtain ⟨d0, d1, d2, hb1, hz1⟩ := id hg1
      have N0 : ∀ x : Near w1.heap.size w1, x.w.cell? ⟨w.heap.size, 0, none⟩ = some (.string t) := fun x => (x.h.cell (by show w.heap.size < _; omega)).trans d0
      have N1 : ∀ x : Near w1.heap.size w1, x.w.cell? ⟨w.heap.size, 1, none⟩ = some (.bool wd) := fun x => (x.h.cell (by show w.heap.size < _; omega)).trans d1
      have N2 : ∀ x : Near w1.heap.size w1, x.w.cell? ⟨w.heap.size, 2, none⟩ = some (.int .i64 st) := fun x => (x.h.cell (by show w.heap.size < _; omega)).trans d2
      have hzz := Nat.le_refl w1.heap.size
      clear d0 d1 d2 hg1 hgb c0
      refine wp_region_near w1.heap.size (by kernel_rfl) (by kernel_rfl) ?_; (repeat (go_big_quiet_step ((go_at_call 98; exact Calls.near _ hzz (HW.out _))))); refine wpQuiet_nil ?_; intro _ hw'; obtain ⟨x1, hw''⟩ := hw'; subst hw''
      go_wp2
      go_ret
      exact ⟨rfl, hb1.trans (x1.h.mono (by omega))⟩
  ·rw [if_pos (.inl h1)]
   have e2 : (wd == (W == 2)) = false := by
    cases wd <;> by_cases h : W = 2 <;> simp_all
   clear hq h1
   go_enter Tryz.func63, Tryz.ntmps63
   go_upto_region 1 with fail
   refine wp_fg (GlBox w t wd st) (GlBox.new w t wd st _) ?_
   rintro wb hgb
   obtain ⟨c0, _, _, hb0, hz0⟩ := id hgb
   go_upto_region 3 with (go_at_call 97; refine (HK.out _).mono ?_; rintro e w1 ⟨rfl, hbel1⟩; have hg1 := hgb.on hbel1)
   obtain ⟨d0, d1, d2, hb1, hz1⟩ := id hg1
   have N0 : ∀ x : Near w1.heap.size w1, x.w.cell? ⟨w.heap.size, 0, none⟩ = some (.string t) := fun x => (x.h.cell (by show w.heap.size < _; omega)).trans d0
   have N1 : ∀ x : Near w1.heap.size w1, x.w.cell? ⟨w.heap.size, 1, none⟩ = some (.bool wd) := fun x => (x.h.cell (by show w.heap.size < _; omega)).trans d1
   have N2 : ∀ x : Near w1.heap.size w1, x.w.cell? ⟨w.heap.size, 2, none⟩ = some (.int .i64 st) := fun x => (x.h.cell (by show w.heap.size < _; omega)).trans d2
   have hzz := Nat.le_refl w1.heap.size
   clear d0 d1 d2 hg1 hgb c0
   refine wp_region_near w1.heap.size (by kernel_rfl) (by kernel_rfl) ?_; (repeat (go_big_quiet_step ((go_at_call 98; exact Calls.near _ hzz (HW.out _))))); refine wpQuiet_nil ?_; intro _ hw'; obtain ⟨x1, hw''⟩ := hw'; subst hw''
   go_wp2
   go_ret
   exact ⟨rfl, hb1.trans (x1.h.mono (by omega))⟩
 ·rw [if_pos hc]
  generalize checkC t = K at *
  have hcb : (K != 0) = true := bne_iff_ne.2 hc
  clear hc hq
  go_enter Tryz.func63, Tryz.ntmps63
  go_upto_region 1 with fail
  refine wp_fg (GlBox w t wd st) (GlBox.new w t wd st _) ?_
  rintro wb hgb
  obtain ⟨c0, _, _, hb0, hz0⟩ := id hgb
  go_wp2_with (go_at_call 97; refine (HK.out _).mono ?_; rintro e w1 ⟨rfl, hbel1⟩)
  go_ret
  exact ⟨rfl, hb0.trans (hbel1.mono (by omega))⟩
theorem gl_len {w : World} {B n : Nat} {A : Option Addr} {l : List Gl} (rd : Rd w B 3 A n (encGs l)) : l.length = n := by
 have := rd.1
 rw [encGs_len] at this
 omega
end Go.Proofs.YtholajadbbdcmaaGreatDoor
