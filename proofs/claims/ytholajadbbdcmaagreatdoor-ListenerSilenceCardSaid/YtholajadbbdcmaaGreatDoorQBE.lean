/- Joined texts: Ur6. -/
import Derived.StillTailTactics
import Derived.Test.YtholajadbbdcmaaGreatDoorQAA
import Derived.Test.YtholajadbbdcmaaGreatDoorQAB
import Derived.Test.YtholajadbbdcmaaGreatDoorQAC
import Derived.Test.YtholajadbbdcmaaGreatDoorQAD
import Derived.Test.YtholajadbbdcmaaGreatDoorQAF
import Derived.Test.YtholajadbbdcmaaGreatDoorQAG
import Derived.Test.YtholajadbbdcmaaGreatDoorQAH
import Derived.Test.YtholajadbbdcmaaGreatDoorQAI
import Derived.Test.YtholajadbbdcmaaGreatDoorQAM
import Derived.Test.YtholajadbbdcmaaGreatDoorQAQ
import Derived.Test.YtholajadbbdcmaaGreatDoorQAS
import Derived.Test.YtholajadbbdcmaaGreatDoorQAT
import Derived.Test.YtholajadbbdcmaaGreatDoorQAU
import Derived.Test.YtholajadbbdcmaaGreatDoorQAY
import Derived.Test.YtholajadbbdcmaaGreatDoorQBB
import Derived.Test.YtholajadbbdcmaaGreatDoorQBC
import Derived.Test.YtholajadbbdcmaaGreatDoorQBD
set_option linter.unusedVariables false
set_option linter.unusedSimpArgs false
set_option linter.unnecessarySimpa false
namespace Go.Proofs.YtholajadbbdcmaaGreatDoor
open Go.RowKit
set_option maxRecDepth 20000
def sizP (r : Option (List ByteArray)) : Chg × Option (List ByteArray) :=
 (⟨1, (numR (r.bind (skO bSize))).1, (numR ((numR (r.bind (skO bSize))).2.bind (skO bRows))).1, 0, 0, []⟩, (numR ((numR (r.bind (skO bSize))).2.bind (skO bRows))).2.bind (skO bColumns))
def negP (x : Int × Option (List ByteArray)) : Option (List ByteArray) := if x.1 < 0 then none else x.2
def scrP (r : Option (List ByteArray)) : Chg × Option (List ByteArray) :=
 if nextB (numR ((numR ((r.bind (skO bScroll)).bind (skO bLine))).2.bind (skO bTo))).2 bDown = true then
  (⟨2, (numR ((r.bind (skO bScroll)).bind (skO bLine))).1 - 1, 0, -(numR ((numR ((numR ((r.bind (skO bScroll)).bind (skO bLine))).2.bind (skO bTo))).2.bind (skO bDown))).1, (numR ((numR ((r.bind (skO bScroll)).bind (skO bLine))).2.bind (skO bTo))).1, []⟩, negP (numR ((numR ((numR ((r.bind (skO bScroll)).bind (skO bLine))).2.bind (skO bTo))).2.bind (skO bDown))))
 else
  (⟨2, (numR ((r.bind (skO bScroll)).bind (skO bLine))).1 - 1, 0, (numR ((numR ((numR ((r.bind (skO bScroll)).bind (skO bLine))).2.bind (skO bTo))).2.bind (skO bUp))).1, (numR ((numR ((r.bind (skO bScroll)).bind (skO bLine))).2.bind (skO bTo))).1, []⟩, negP (numR ((numR ((numR ((r.bind (skO bScroll)).bind (skO bLine))).2.bind (skO bTo))).2.bind (skO bUp))))
def curP (r : Option (List ByteArray)) : Chg × Option (List ByteArray) :=
 if nextB (numR ((numR ((r.bind (skO bCursor)).bind (skO bLine))).2.bind (skO bColumn))).2 bVisible = true then
  (⟨4, (numR ((r.bind (skO bCursor)).bind (skO bLine))).1 - 1, (numR ((numR ((r.bind (skO bCursor)).bind (skO bLine))).2.bind (skO bColumn))).1 - 1, 1, 0, []⟩, (numR ((numR ((r.bind (skO bCursor)).bind (skO bLine))).2.bind (skO bColumn))).2.bind (skO bVisible))
 else
  (⟨4, (numR ((r.bind (skO bCursor)).bind (skO bLine))).1 - 1, (numR ((numR ((r.bind (skO bCursor)).bind (skO bLine))).2.bind (skO bColumn))).1 - 1, 0, 0, []⟩, (numR ((numR ((r.bind (skO bCursor)).bind (skO bLine))).2.bind (skO bColumn))).2.bind (skO bInvisible))
def chgP (r : Option (List ByteArray)) : Chg × Option (List ByteArray) :=
 if nextB r bSize = true then sizP r
 else if nextB r bScroll = true then scrP r
 else if nextB r bLine = true then splP r
 else if nextB r bCursor = true then curP r
 else (⟨0, 0, 0, 0, 0, []⟩, none)
def SplE (w : World) (B : Nat) (c : Chg) (r : Option (List ByteArray)) (e : Ending) (w' : World) : Prop := ∃ Ag cap A n cc l bad, e = .returned (.tuple #[.agg #[.int .i64 c.kind, .int .i64 c.row, .int .i64 c.col, .int .i64 c.count, .int .i64 c.til, .slice Ag c.glyphs.length cap], .agg #[.slice A n cc, .bool bad]]) ∧ r = optR bad l ∧ WdR w' B l A n cc ∧ Below w.heap.size w w' ∧ w'.ownsRow w.heap.size 89 3 (.slice Ag c.glyphs.length cap) c.glyphs.length (encGs c.glyphs)
theorem CRet.spl {w w' : World} {B : Nat} {c : Chg} {r : Option (List ByteArray)} {e : Ending} (h : CRet w B c r e w') : SplE w B c r e w' := by
 obtain ⟨Ag, cap, v, rfl, ⟨A, n, cc, l, bad, rfl, hW, hr⟩, hb, ho⟩ := h
 exact ⟨Ag, cap, A, n, cc, l, bad, rfl, hr, hW, hb, ho⟩
set_option maxHeartbeats 4000000 in
theorem uchange_ (l : List ByteArray) (A : Option Addr) (n c : Nat) (w : World) (B : Nat) (hW : WdR w B l A n c) (hB : B ≤ w.heap.size) (hl : l.length ≤ 400000) (hs : Sp w) (hu : U8 w) (hy : Sty w) :
  Calls Tryz.prog 50 #[.agg #[.slice A n c, .bool false]] w (CRet w B (chgP (some l)).1 (chgP (some l)).2) := by
 obtain ⟨R, hR⟩ : ∃ x, Hid (x = chgP (some l)) := ⟨_, Lib.hid rfl⟩
 rw [← hR.out]
 have HSp : Hid (∀ X A n c, Below w.heap.size w X → WdR X B l A n c → Calls Tryz.prog 78 #[.agg #[.slice A n c, .bool false]] X (SplE X B (splP (some l)).1 (splP (some l)).2)) := Lib.hid fun X A n c hb hW' => (usplice_ l A n c X B hW' (Nat.le_trans hB hb.size) hl (hs.below hb (Nat.le_refl _)) (hu.below hb) (hy.below hb (Nat.le_refl _))).mono fun _ _ h => h.spl
 have hX := CS.start 0 hW hB
 clear hW hl hs hu hy
 go_enter Tryz.func50, Tryz.ntmps50
 go_upto_block 0 with fail
 refine wp_fg (CS w B (some l) ⟨0, 0, 0, 0, 0, []⟩ none 0) hX ?_
 clear hX
 intro X hX
 obtain ⟨s1, hs1⟩ : ∃ b, Hid (b = nextB (some l) bSize) := ⟨_, Lib.hid rfl⟩
 obtain ⟨A', n', c', bad', c0, c1, HN0⟩ := CS.nx_ hX hB bSize
 have HN := Lib.hid HN0
 clear HN0
 rw [← hs1.out] at HN
 go_upto_if 5 with (go_at_call 49; refine HN.out.mono ?_; rintro e w1 ⟨rfl, hY⟩)
 refine wp_fg (CS w B (some l) ⟨0, 0, 0, 0, 0, []⟩ none 0) hY ?_
 clear hY hX HN c0 c1
 intro X hX
 cases s1 with
 | true =>
  have HR2 : Hid (R = sizP (some l)) := Lib.hid (by rw [hR.out, chgP, ← hs1.out]; rfl)
  clear hR hs1 HSp
  obtain ⟨x, hx⟩ : ∃ x, Hid (x = numR ((some l).bind (skO bSize))) := ⟨_, Lib.hid rfl⟩
  obtain ⟨y, hy⟩ : ∃ y, Hid (y = numR (x.2.bind (skO bRows))) := ⟨_, Lib.hid rfl⟩
  have HR3 : Hid (R.1 = ⟨1, x.1, y.1, 0, 0, []⟩ ∧ R.2 = y.2.bind (skO bColumns)) := Lib.hid (by rw [HR2.out, hy.out, hx.out]; exact ⟨rfl, rfl⟩)
  clear HR2
  obtain ⟨A', n', c', l', bad', hr', hW, R1, R2, R3, R4, tx, hO⟩ := id hX
  obtain ⟨c0, c1, f0, f1⟩ := blk2 R1
  obtain ⟨k0, k1, k2, k3, k4, k5, p0, p1, p2, p3, p4, p5⟩ := blk6 R4
  dsimp only at k0 k1 k2 k3 k4 k5
  go_upto_region 4 with fail
  refine wp_fg (CS w B (some l) ⟨1, 0, 0, 0, 0, []⟩ none 0) (hX.set_ hB 0 1 (by decide)) ?_
  clear hX
  clear c0 c1 f0 f1 k0 k1 k2 k3 k4 k5 p0 p1 p2 p3 p4 p5 hr' hW R1 R2 R3 R4 tx hO
  intro X hX
  obtain ⟨A', n', c', bad', c0, c1, HA0⟩ := CS.af_ hX hB bSize 1 (by decide) hx
  have HA := Lib.hid HA0
  clear HA0
  go_upto_region 5 with (go_at_call 76; refine HA.out.mono ?_; rintro e w1 ⟨A1, n1, cc1, bad1, v1, rfl, d0, d1, f0, f1, k0, p0, hY⟩)
  refine wp_fg (CS w B x.2 ⟨1, x.1, 0, 0, 0, []⟩ none 0) hY ?_
  clear hY hX HA c0 c1 d0 d1 f0 f1 k0 p0
  intro X hX
  obtain ⟨A', n', c', bad', c0, c1, HA0⟩ := CS.af_ hX hB bRows 2 (by decide) hy
  have HA := Lib.hid HA0
  clear HA0
  go_upto_region 6 with (go_at_call 76; refine HA.out.mono ?_; rintro e w1 ⟨A1, n1, cc1, bad1, v1, rfl, d0, d1, f0, f1, k0, p0, hY⟩)
  refine wp_fg (CS w B y.2 ⟨1, x.1, y.1, 0, 0, []⟩ none 0) hY ?_
  clear hY hX HA c0 c1 d0 d1 f0 f1 k0 p0
  intro X hX
  obtain ⟨A', n', c', l', bad', hr', hW, R1, R2, R3, R4, tx, hO⟩ := id hX
  obtain ⟨c0, c1, f0, f1⟩ := blk2 R1
  obtain ⟨k0, k1, k2, k3, k4, k5, p0, p1, p2, p3, p4, p5⟩ := blk6 R4
  dsimp only at k0 k1 k2 k3 k4 k5
  obtain ⟨o0, o1, o2, o3, o4, o5, q0, q1, q2, q3, q4, q5⟩ := blk6 R2
  obtain ⟨m0, m1, v0, v1⟩ := blk2 R3
  dsimp only at o0 o1 o2 o3 o4 o5
  have HK := Lib.hid (uskp1 y.2 (.agg #[.slice A' n' c', .bool bad']) bColumns B X.drew ⟨A', n', c', l', bad', rfl, hW.below (Below.refl _ _).drew, hr'⟩ (Nat.le_trans hB tx.drew.size))
  have z0 := R1.lt
  have z1 := R2.lt
  have z2 := R3.lt
  have z3 := R4.lt
  go_region_law (go_simp; go_at_call 77; refine HK.out.mono ?_; rintro e w1 ⟨A1, n1, cc1, l1, bad1, rfl, hW1, hr1, hb1⟩; have hY := (hX.drew hB).below hB hb1; clear o0 o1 o2 o3 o4 o5 q0 q1 q2 q3 q4 q5 m0 m1 v0 v1; clear c0 c1 f0 f1 k0 k1 k2 k3 k4 k5 p0 p1 p2 p3 p4 p5 hr' hW R1 R2 R3 R4 tx hO; (obtain ⟨A', n', c', l', bad', hr', hW, R1, R2, R3, R4, tx, hO⟩ := id hY; obtain ⟨c0, c1, f0, f1⟩ := blk2 R1; obtain ⟨k0, k1, k2, k3, k4, k5, p0, p1, p2, p3, p4, p5⟩ := blk6 R4; dsimp only at k0 k1 k2 k3 k4 k5); (obtain ⟨o0, o1, o2, o3, o4, o5, q0, q1, q2, q3, q4, q5⟩ := blk6 R2; obtain ⟨m0, m1, v0, v1⟩ := blk2 R3; dsimp only at o0 o1 o2 o3 o4 o5))
  all_goals go_wp2
  all_goals have HF := Lib.hid (fin_ (c := ⟨1, x.1, y.1, 0, 0, []⟩) hB hr1 hW1 R2 R3 tx hO)
  all_goals rw [HR3.out.1, HR3.out.2]
  all_goals exact bodyPost_ret (results_cc rfl _ _ (w.heap.size + 1) (w.heap.size + 2) 72 95 _ _ (0, 0) (0, 0) _ _ rfl HF.out.1 Tryz.underlying72 rfl info_chg rfl HF.out.2.1 Tryz.underlying95 rfl info_rd) rfl ⟨_, _, _, rfl, HF.out.2.2.1, HF.out.2.2.2.1, HF.out.2.2.2.2⟩
 | false =>
  have hR2 : Hid (R = if nextB (some l) bScroll = true then scrP (some l) else if nextB (some l) bLine = true then splP (some l) else if nextB (some l) bCursor = true then curP (some l) else (⟨0, 0, 0, 0, 0, []⟩, none)) := Lib.hid (by rw [hR.out, chgP, ← hs1.out]; rfl)
  clear hR hs1
  obtain ⟨s2, hs2⟩ : ∃ b, Hid (b = nextB (some l) bScroll) := ⟨_, Lib.hid rfl⟩
  obtain ⟨A', n', c', bad', c0, c1, HN0⟩ := CS.nx_ hX hB bScroll
  have HN := Lib.hid HN0
  clear HN0
  rw [← hs2.out] at HN
  go_upto_if 27 with (go_at_call 49; refine HN.out.mono ?_; rintro e w1 ⟨rfl, hY⟩)
  refine wp_fg (CS w B (some l) ⟨0, 0, 0, 0, 0, []⟩ none 0) hY ?_
  clear hY hX HN c0 c1
  intro X hX
  cases s2 with
  | true =>
   have HR2 : Hid (R = scrP (some l)) := Lib.hid (by rw [hR2.out, ← hs2.out]; rfl)
   clear hR2 hs2 HSp
   obtain ⟨x, hx⟩ : ∃ x, Hid (x = numR (((some l).bind (skO bScroll)).bind (skO bLine))) := ⟨_, Lib.hid rfl⟩
   obtain ⟨y, hy⟩ : ∃ y, Hid (y = numR (x.2.bind (skO bTo))) := ⟨_, Lib.hid rfl⟩
   have HR3 : Hid (R = if nextB y.2 bDown = true then (⟨2, x.1 - 1, 0, -(numR (y.2.bind (skO bDown))).1, y.1, []⟩, negP (numR (y.2.bind (skO bDown)))) else (⟨2, x.1 - 1, 0, (numR (y.2.bind (skO bUp))).1, y.1, []⟩, negP (numR (y.2.bind (skO bUp))))) := Lib.hid (by rw [HR2.out, hy.out, hx.out]; rfl)
   clear HR2
   have hxr : -999999999 ≤ x.1 ∧ x.1 ≤ 999999999 := by rw [hx.out]; exact numR_range _
   have e1 : IntKind.i64.wrap (x.1 - 1) = x.1 - 1 := by rw [IntKind.wrap_i64]; omega
   obtain ⟨A', n', c', l', bad', hr', hW, R1, R2, R3, R4, tx, hO⟩ := id hX
   obtain ⟨c0, c1, f0, f1⟩ := blk2 R1
   obtain ⟨k0, k1, k2, k3, k4, k5, p0, p1, p2, p3, p4, p5⟩ := blk6 R4
   dsimp only at k0 k1 k2 k3 k4 k5
   go_upto_region 9 with fail
   refine wp_fg (CS w B (some l) ⟨2, 0, 0, 0, 0, []⟩ none 0) (hX.set_ hB 0 2 (by decide)) ?_
   clear hX
   clear c0 c1 f0 f1 k0 k1 k2 k3 k4 k5 p0 p1 p2 p3 p4 p5 hr' hW R1 R2 R3 R4 tx hO
   intro X hX
   obtain ⟨A', n', c', bad', c0, c1, HA0⟩ := CS.af2_ hX hB bScroll bLine 1 (by decide) hx
   have HA := Lib.hid HA0
   clear HA0
   go_upto_region 10 with (go_at_call 76; refine HA.out.mono ?_; rintro e w1 ⟨A1, n1, cc1, bad1, v1, rfl, d0, d1, f0, f1, k0, p0, hY⟩)
   refine wp_fg (CS w B x.2 ⟨2, x.1, 0, 0, 0, []⟩ none 0) hY ?_
   clear hY hX HA c0 c1 d0 d1 f0 f1 k0 p0
   intro X hX
   obtain ⟨A', n', c', bad', c0, c1, HA0⟩ := CS.af_ hX hB bTo 4 (by decide) hy
   have HA := Lib.hid HA0
   clear HA0
   go_upto_region 11 with (go_at_call 76; refine HA.out.mono ?_; rintro e w1 ⟨A1, n1, cc1, bad1, v1, rfl, d0, d1, f0, f1, k0, p0, hY⟩)
   refine wp_fg (CS w B y.2 ⟨2, x.1, 0, 0, y.1, []⟩ none 0) hY ?_
   clear hY hX HA c0 c1 d0 d1 f0 f1 k0 p0
   intro X hX
   obtain ⟨A', n', c', l', bad', hr', hW, R1, R2, R3, R4, tx, hO⟩ := id hX
   obtain ⟨c0, c1, f0, f1⟩ := blk2 R1
   obtain ⟨k0, k1, k2, k3, k4, k5, p0, p1, p2, p3, p4, p5⟩ := blk6 R4
   dsimp only at k0 k1 k2 k3 k4 k5
   go_upto_region 12 with fail
   refine wp_fg (CS w B y.2 ⟨2, x.1 - 1, 0, 0, y.1, []⟩ none 0) (hX.set_ hB 1 (x.1 - 1) (by decide)) ?_
   clear hX
   clear c0 c1 f0 f1 k0 k1 k2 k3 k4 k5 p0 p1 p2 p3 p4 p5 hr' hW R1 R2 R3 R4 tx hO
   intro X hX
   clear hx hy hxr
   obtain ⟨xn, xr⟩ := x
   obtain ⟨yn, yr⟩ := y
   simp only at e1 hX HR3
   generalize xn - 1 = Row at *
   obtain ⟨s3, hs3⟩ : ∃ b, Hid (b = nextB yr bDown) := ⟨_, Lib.hid rfl⟩
   obtain ⟨A', n', c', bad', c0, c1, HN0⟩ := CS.nx_ hX hB bDown
   have HN := Lib.hid HN0
   clear HN0
   rw [← hs3.out] at HN
   go_upto_if 50 with (go_at_call 49; refine HN.out.mono ?_; rintro e w1 ⟨rfl, hY⟩)
   refine wp_fg (CS w B yr ⟨2, Row, 0, 0, yn, []⟩ none 0) hY ?_
   clear hY hX HN c0 c1
   intro X hX
   cases s3 with
   | true =>
    obtain ⟨u, hu⟩ : ∃ u, Hid (u = numR (yr.bind (skO bDown))) := ⟨_, Lib.hid rfl⟩
    have HR4 : Hid (R = (⟨2, Row, 0, -u.1, yn, []⟩, negP u)) := Lib.hid (by rw [HR3.out, ← hs3.out, hu.out]; rfl)
    have hur : -999999999 ≤ u.1 ∧ u.1 ≤ 999999999 := by rw [hu.out]; exact numR_range _
    have e2 : IntKind.i64.wrap (-u.1) = -u.1 := by rw [IntKind.wrap_i64]; omega
    clear HR3 hs3
    obtain ⟨A', n', c', bad', c0, c1, HA0⟩ := CS.af_ hX hB bDown 3 (by decide) hu
    have HA := Lib.hid HA0
    clear HA0
    go_upto_region 14 with (go_at_call 76; refine HA.out.mono ?_; rintro e w1 ⟨A1, n1, cc1, bad1, v1, rfl, d0, d1, f0, f1, k0, p0, hY⟩)
    refine wp_fg (CS w B u.2 ⟨2, Row, 0, u.1, yn, []⟩ none 0) hY ?_
    clear hY hX HA c0 c1 d0 d1 f0 f1 k0 p0
    intro X hX
    clear hu hur
    obtain ⟨un, ur⟩ := u
    simp only at e2 hX HR4
    by_cases hlt : un < 0
    ·have HR3 : Hid (R.1 = ⟨2, Row, 0, -un, yn, []⟩ ∧ R.2 = none) := Lib.hid (by rw [HR4.out, negP, if_pos hlt]; exact ⟨rfl, rfl⟩)
     clear HR4
     obtain ⟨A', n', c', l', bad', hr', hW, R1, R2, R3, R4, tx, hO⟩ := id hX
     obtain ⟨c0, c1, f0, f1⟩ := blk2 R1
     obtain ⟨k0, k1, k2, k3, k4, k5, p0, p1, p2, p3, p4, p5⟩ := blk6 R4
     dsimp only at k0 k1 k2 k3 k4 k5
     go_upto_region 16 with fail
     refine wp_fg (CS w B none ⟨2, Row, 0, un, yn, []⟩ none 0) (hX.spoil hB) ?_
     clear hX
     clear c0 c1 f0 f1 k0 k1 k2 k3 k4 k5 p0 p1 p2 p3 p4 p5 hr' hW R1 R2 R3 R4 tx hO
     intro X hX
     obtain ⟨A', n', c', l', bad', hr', hW, R1, R2, R3, R4, tx, hO⟩ := id hX
     obtain ⟨c0, c1, f0, f1⟩ := blk2 R1
     obtain ⟨k0, k1, k2, k3, k4, k5, p0, p1, p2, p3, p4, p5⟩ := blk6 R4
     dsimp only at k0 k1 k2 k3 k4 k5
     go_upto_region 17 with fail
     refine wp_fg (CS w B none ⟨2, Row, 0, -un, yn, []⟩ none 0) (hX.set_ hB 3 (-un) (by decide)) ?_
     clear hX
     clear c0 c1 f0 f1 k0 k1 k2 k3 k4 k5 p0 p1 p2 p3 p4 p5 hr' hW R1 R2 R3 R4 tx hO
     intro X hX
     obtain ⟨A', n', c', l', bad', hr', hW, R1, R2, R3, R4, tx, hO⟩ := id hX
     obtain ⟨c0, c1, f0, f1⟩ := blk2 R1
     obtain ⟨k0, k1, k2, k3, k4, k5, p0, p1, p2, p3, p4, p5⟩ := blk6 R4
     dsimp only at k0 k1 k2 k3 k4 k5
     obtain ⟨o0, o1, o2, o3, o4, o5, q0, q1, q2, q3, q4, q5⟩ := blk6 R2
     obtain ⟨m0, m1, v0, v1⟩ := blk2 R3
     dsimp only at o0 o1 o2 o3 o4 o5
     have HF := Lib.hid (fin_drew (c := ⟨2, Row, 0, -un, yn, []⟩) hB hr' hW R2 R3 tx hO)
     go_region_law (fail)
     all_goals go_wp2
     all_goals rw [HR3.out.1, HR3.out.2]
     all_goals exact bodyPost_ret (results_cc rfl _ _ (w.heap.size + 1) (w.heap.size + 2) 72 95 _ _ (0, 0) (0, 0) _ _ rfl HF.out.1 Tryz.underlying72 rfl info_chg rfl HF.out.2.1 Tryz.underlying95 rfl info_rd) rfl ⟨_, _, _, rfl, HF.out.2.2.1, HF.out.2.2.2.1, HF.out.2.2.2.2⟩
    ·have HR3 : Hid (R.1 = ⟨2, Row, 0, -un, yn, []⟩ ∧ R.2 = ur) := Lib.hid (by rw [HR4.out, negP, if_neg (by omega)]; exact ⟨rfl, rfl⟩)
     clear HR4
     obtain ⟨A', n', c', l', bad', hr', hW, R1, R2, R3, R4, tx, hO⟩ := id hX
     obtain ⟨c0, c1, f0, f1⟩ := blk2 R1
     obtain ⟨k0, k1, k2, k3, k4, k5, p0, p1, p2, p3, p4, p5⟩ := blk6 R4
     dsimp only at k0 k1 k2 k3 k4 k5
     go_upto_region 16 with fail
     refine wp_fg (CS w B ur ⟨2, Row, 0, un, yn, []⟩ none 0) (hX) ?_
     clear hX
     clear c0 c1 f0 f1 k0 k1 k2 k3 k4 k5 p0 p1 p2 p3 p4 p5 hr' hW R1 R2 R3 R4 tx hO
     intro X hX
     obtain ⟨A', n', c', l', bad', hr', hW, R1, R2, R3, R4, tx, hO⟩ := id hX
     obtain ⟨c0, c1, f0, f1⟩ := blk2 R1
     obtain ⟨k0, k1, k2, k3, k4, k5, p0, p1, p2, p3, p4, p5⟩ := blk6 R4
     dsimp only at k0 k1 k2 k3 k4 k5
     go_upto_region 17 with fail
     refine wp_fg (CS w B ur ⟨2, Row, 0, -un, yn, []⟩ none 0) (hX.set_ hB 3 (-un) (by decide)) ?_
     clear hX
     clear c0 c1 f0 f1 k0 k1 k2 k3 k4 k5 p0 p1 p2 p3 p4 p5 hr' hW R1 R2 R3 R4 tx hO
     intro X hX
     obtain ⟨A', n', c', l', bad', hr', hW, R1, R2, R3, R4, tx, hO⟩ := id hX
     obtain ⟨c0, c1, f0, f1⟩ := blk2 R1
     obtain ⟨k0, k1, k2, k3, k4, k5, p0, p1, p2, p3, p4, p5⟩ := blk6 R4
     dsimp only at k0 k1 k2 k3 k4 k5
     obtain ⟨o0, o1, o2, o3, o4, o5, q0, q1, q2, q3, q4, q5⟩ := blk6 R2
     obtain ⟨m0, m1, v0, v1⟩ := blk2 R3
     dsimp only at o0 o1 o2 o3 o4 o5
     have HF := Lib.hid (fin_drew (c := ⟨2, Row, 0, -un, yn, []⟩) hB hr' hW R2 R3 tx hO)
     go_region_law (fail)
     all_goals go_wp2
     all_goals rw [HR3.out.1, HR3.out.2]
     all_goals exact bodyPost_ret (results_cc rfl _ _ (w.heap.size + 1) (w.heap.size + 2) 72 95 _ _ (0, 0) (0, 0) _ _ rfl HF.out.1 Tryz.underlying72 rfl info_chg rfl HF.out.2.1 Tryz.underlying95 rfl info_rd) rfl ⟨_, _, _, rfl, HF.out.2.2.1, HF.out.2.2.2.1, HF.out.2.2.2.2⟩
   | false =>
    obtain ⟨u, hu⟩ : ∃ u, Hid (u = numR (yr.bind (skO bUp))) := ⟨_, Lib.hid rfl⟩
    have HR4 : Hid (R = (⟨2, Row, 0, u.1, yn, []⟩, negP u)) := Lib.hid (by rw [HR3.out, ← hs3.out, hu.out]; rfl)
    clear HR3 hs3
    go_upto_region 18 with fail
    obtain ⟨A', n', c', bad', c0, c1, HA0⟩ := CS.af_ hX hB bUp 3 (by decide) hu
    have HA := Lib.hid HA0
    clear HA0
    go_upto_region 19 with (go_at_call 76; refine HA.out.mono ?_; rintro e w1 ⟨A1, n1, cc1, bad1, v1, rfl, d0, d1, f0, f1, k0, p0, hY⟩)
    refine wp_fg (CS w B u.2 ⟨2, Row, 0, u.1, yn, []⟩ none 0) hY ?_
    clear hY hX HA c0 c1 d0 d1 f0 f1 k0 p0
    intro X hX
    clear hu
    obtain ⟨un, ur⟩ := u
    simp only at hX HR4
    by_cases hlt : un < 0
    ·have HR3 : Hid (R.1 = ⟨2, Row, 0, un, yn, []⟩ ∧ R.2 = none) := Lib.hid (by rw [HR4.out, negP, if_pos hlt]; exact ⟨rfl, rfl⟩)
     clear HR4
     obtain ⟨A', n', c', l', bad', hr', hW, R1, R2, R3, R4, tx, hO⟩ := id hX
     obtain ⟨c0, c1, f0, f1⟩ := blk2 R1
     obtain ⟨k0, k1, k2, k3, k4, k5, p0, p1, p2, p3, p4, p5⟩ := blk6 R4
     dsimp only at k0 k1 k2 k3 k4 k5
     go_upto_region 21 with fail
     refine wp_fg (CS w B none ⟨2, Row, 0, un, yn, []⟩ none 0) (hX.spoil hB) ?_
     clear hX
     clear c0 c1 f0 f1 k0 k1 k2 k3 k4 k5 p0 p1 p2 p3 p4 p5 hr' hW R1 R2 R3 R4 tx hO
     intro X hX
     obtain ⟨A', n', c', l', bad', hr', hW, R1, R2, R3, R4, tx, hO⟩ := id hX
     obtain ⟨c0, c1, f0, f1⟩ := blk2 R1
     obtain ⟨k0, k1, k2, k3, k4, k5, p0, p1, p2, p3, p4, p5⟩ := blk6 R4
     dsimp only at k0 k1 k2 k3 k4 k5
     obtain ⟨o0, o1, o2, o3, o4, o5, q0, q1, q2, q3, q4, q5⟩ := blk6 R2
     obtain ⟨m0, m1, v0, v1⟩ := blk2 R3
     dsimp only at o0 o1 o2 o3 o4 o5
     have HF := Lib.hid (fin_drew (c := ⟨2, Row, 0, un, yn, []⟩) hB hr' hW R2 R3 tx hO)
     go_region_law (fail)
     all_goals go_wp2
     all_goals rw [HR3.out.1, HR3.out.2]
     all_goals exact bodyPost_ret (results_cc rfl _ _ (w.heap.size + 1) (w.heap.size + 2) 72 95 _ _ (0, 0) (0, 0) _ _ rfl HF.out.1 Tryz.underlying72 rfl info_chg rfl HF.out.2.1 Tryz.underlying95 rfl info_rd) rfl ⟨_, _, _, rfl, HF.out.2.2.1, HF.out.2.2.2.1, HF.out.2.2.2.2⟩
    ·have HR3 : Hid (R.1 = ⟨2, Row, 0, un, yn, []⟩ ∧ R.2 = ur) := Lib.hid (by rw [HR4.out, negP, if_neg (by omega)]; exact ⟨rfl, rfl⟩)
     clear HR4
     obtain ⟨A', n', c', l', bad', hr', hW, R1, R2, R3, R4, tx, hO⟩ := id hX
     obtain ⟨c0, c1, f0, f1⟩ := blk2 R1
     obtain ⟨k0, k1, k2, k3, k4, k5, p0, p1, p2, p3, p4, p5⟩ := blk6 R4
     dsimp only at k0 k1 k2 k3 k4 k5
     go_upto_region 21 with fail
     refine wp_fg (CS w B ur ⟨2, Row, 0, un, yn, []⟩ none 0) (hX) ?_
     clear hX
     clear c0 c1 f0 f1 k0 k1 k2 k3 k4 k5 p0 p1 p2 p3 p4 p5 hr' hW R1 R2 R3 R4 tx hO
     intro X hX
     obtain ⟨A', n', c', l', bad', hr', hW, R1, R2, R3, R4, tx, hO⟩ := id hX
     obtain ⟨c0, c1, f0, f1⟩ := blk2 R1
     obtain ⟨k0, k1, k2, k3, k4, k5, p0, p1, p2, p3, p4, p5⟩ := blk6 R4
     dsimp only at k0 k1 k2 k3 k4 k5
     obtain ⟨o0, o1, o2, o3, o4, o5, q0, q1, q2, q3, q4, q5⟩ := blk6 R2
     obtain ⟨m0, m1, v0, v1⟩ := blk2 R3
     dsimp only at o0 o1 o2 o3 o4 o5
     have HF := Lib.hid (fin_drew (c := ⟨2, Row, 0, un, yn, []⟩) hB hr' hW R2 R3 tx hO)
     go_region_law (fail)
     all_goals go_wp2
     all_goals rw [HR3.out.1, HR3.out.2]
     all_goals exact bodyPost_ret (results_cc rfl _ _ (w.heap.size + 1) (w.heap.size + 2) 72 95 _ _ (0, 0) (0, 0) _ _ rfl HF.out.1 Tryz.underlying72 rfl info_chg rfl HF.out.2.1 Tryz.underlying95 rfl info_rd) rfl ⟨_, _, _, rfl, HF.out.2.2.1, HF.out.2.2.2.1, HF.out.2.2.2.2⟩
  | false =>
   have hR : Hid (R = if nextB (some l) bLine = true then splP (some l) else if nextB (some l) bCursor = true then curP (some l) else (⟨0, 0, 0, 0, 0, []⟩, none)) := Lib.hid (by rw [hR2.out, ← hs2.out]; rfl)
   clear hR2 hs2
   obtain ⟨s3, hs3⟩ : ∃ b, Hid (b = nextB (some l) bLine) := ⟨_, Lib.hid rfl⟩
   obtain ⟨A', n', c', bad', c0, c1, HN0⟩ := CS.nx_ hX hB bLine
   have HN := Lib.hid HN0
   clear HN0
   rw [← hs3.out] at HN
   go_upto_if 81 with (go_at_call 49; refine HN.out.mono ?_; rintro e w1 ⟨rfl, hY⟩)
   refine wp_fg (CS w B (some l) ⟨0, 0, 0, 0, 0, []⟩ none 0) hY ?_
   clear hY hX HN c0 c1
   intro X hX
   cases s3 with
   | true =>
    have HR2 : Hid (R = splP (some l)) := Lib.hid (by rw [hR.out, ← hs3.out]; rfl)
    clear hR hs3
    have HR3 : Hid (R.1 = (splP (some l)).1 ∧ R.2 = (splP (some l)).2) := Lib.hid (by rw [HR2.out]; exact ⟨rfl, rfl⟩)
    clear HR2
    generalize splP (some l) = SP at *
    obtain ⟨A', n', c', l', bad', hr', hW, R1, R2, R3, R4, tx, hO⟩ := id hX
    obtain ⟨c0, c1, f0, f1⟩ := blk2 R1
    obtain ⟨k0, k1, k2, k3, k4, k5, p0, p1, p2, p3, p4, p5⟩ := blk6 R4
    dsimp only at k0 k1 k2 k3 k4 k5
    obtain ⟨o0, o1, o2, o3, o4, o5, q0, q1, q2, q3, q4, q5⟩ := blk6 R2
    obtain ⟨m0, m1, v0, v1⟩ := blk2 R3
    dsimp only at o0 o1 o2 o3 o4 o5
    cases bad' with
    | true => cases hr'
    | false =>
     obtain rfl : l = l' := by cases hr'; rfl
     have hxs := hX.size
     go_wp2_with (go_at_call 78; refine (HSp.out X A' n' c' tx hW).mono ?_; rintro e w1 ⟨Ag, cap, A1, n1, cc1, l1, bad1, rfl, hr1, hW1, hb1, ho1⟩; have hY := hX.below hB hb1; clear o0 o1 o2 o3 o4 o5 q0 q1 q2 q3 q4 q5 m0 m1 v0 v1; clear c0 c1 f0 f1 k0 k1 k2 k3 k4 k5 p0 p1 p2 p3 p4 p5 hr' hW R1 R2 R3 R4 tx hO; (obtain ⟨A', n', c', l', bad', hr', hW, R1, R2, R3, R4, tx, hO⟩ := id hY; obtain ⟨c0, c1, f0, f1⟩ := blk2 R1; obtain ⟨k0, k1, k2, k3, k4, k5, p0, p1, p2, p3, p4, p5⟩ := blk6 R4; dsimp only at k0 k1 k2 k3 k4 k5); (obtain ⟨o0, o1, o2, o3, o4, o5, q0, q1, q2, q3, q4, q5⟩ := blk6 R2; obtain ⟨m0, m1, v0, v1⟩ := blk2 R3; dsimp only at o0 o1 o2 o3 o4 o5))
     have HF := Lib.hid (fin_ (c := SP.1) hB hr1 hW1 R2 R3 tx (own_less ho1 (by omega)))
     all_goals rw [HR3.out.1, HR3.out.2]
     all_goals exact bodyPost_ret (results_cc rfl _ _ (w.heap.size + 1) (w.heap.size + 2) 72 95 _ _ (0, 0) (0, 0) _ _ rfl HF.out.1 Tryz.underlying72 rfl info_chg rfl HF.out.2.1 Tryz.underlying95 rfl info_rd) rfl ⟨_, _, _, rfl, HF.out.2.2.1, HF.out.2.2.2.1, HF.out.2.2.2.2⟩
   | false =>
    have hR2 : Hid (R = if nextB (some l) bCursor = true then curP (some l) else (⟨0, 0, 0, 0, 0, []⟩, none)) := Lib.hid (by rw [hR.out, ← hs3.out]; rfl)
    clear hR hs3 HSp
    obtain ⟨s4, hs4⟩ : ∃ b, Hid (b = nextB (some l) bCursor) := ⟨_, Lib.hid rfl⟩
    obtain ⟨A', n', c', bad', c0, c1, HN0⟩ := CS.nx_ hX hB bCursor
    have HN := Lib.hid HN0
    clear HN0
    rw [← hs4.out] at HN
    go_upto_if 88 with (go_at_call 49; refine HN.out.mono ?_; rintro e w1 ⟨rfl, hY⟩)
    refine wp_fg (CS w B (some l) ⟨0, 0, 0, 0, 0, []⟩ none 0) hY ?_
    clear hY hX HN c0 c1
    intro X hX
    cases s4 with
    | true =>
     have HR2 : Hid (R = curP (some l)) := Lib.hid (by rw [hR2.out, ← hs4.out]; rfl)
     clear hR2 hs4
     obtain ⟨x, hx⟩ : ∃ x, Hid (x = numR (((some l).bind (skO bCursor)).bind (skO bLine))) := ⟨_, Lib.hid rfl⟩
     obtain ⟨y, hy⟩ : ∃ y, Hid (y = numR (x.2.bind (skO bColumn))) := ⟨_, Lib.hid rfl⟩
     have HR3 : Hid (R = if nextB y.2 bVisible = true then (⟨4, x.1 - 1, y.1 - 1, 1, 0, []⟩, y.2.bind (skO bVisible)) else (⟨4, x.1 - 1, y.1 - 1, 0, 0, []⟩, y.2.bind (skO bInvisible))) := Lib.hid (by rw [HR2.out, hy.out, hx.out]; rfl)
     clear HR2
     have hxr : -999999999 ≤ x.1 ∧ x.1 ≤ 999999999 := by rw [hx.out]; exact numR_range _
     have hyr : -999999999 ≤ y.1 ∧ y.1 ≤ 999999999 := by rw [hy.out]; exact numR_range _
     have e1 : IntKind.i64.wrap (x.1 - 1) = x.1 - 1 := by rw [IntKind.wrap_i64]; omega
     have e2 : IntKind.i64.wrap (y.1 - 1) = y.1 - 1 := by rw [IntKind.wrap_i64]; omega
     obtain ⟨A', n', c', l', bad', hr', hW, R1, R2, R3, R4, tx, hO⟩ := id hX
     obtain ⟨c0, c1, f0, f1⟩ := blk2 R1
     obtain ⟨k0, k1, k2, k3, k4, k5, p0, p1, p2, p3, p4, p5⟩ := blk6 R4
     dsimp only at k0 k1 k2 k3 k4 k5
     go_upto_region 26 with fail
     refine wp_fg (CS w B (some l) ⟨4, 0, 0, 0, 0, []⟩ none 0) (hX.set_ hB 0 4 (by decide)) ?_
     clear hX
     clear c0 c1 f0 f1 k0 k1 k2 k3 k4 k5 p0 p1 p2 p3 p4 p5 hr' hW R1 R2 R3 R4 tx hO
     intro X hX
     obtain ⟨A', n', c', bad', c0, c1, HA0⟩ := CS.af2_ hX hB bCursor bLine 1 (by decide) hx
     have HA := Lib.hid HA0
     clear HA0
     go_upto_region 27 with (go_at_call 76; refine HA.out.mono ?_; rintro e w1 ⟨A1, n1, cc1, bad1, v1, rfl, d0, d1, f0, f1, k0, p0, hY⟩)
     refine wp_fg (CS w B x.2 ⟨4, x.1, 0, 0, 0, []⟩ none 0) hY ?_
     clear hY hX HA c0 c1 d0 d1 f0 f1 k0 p0
     intro X hX
     obtain ⟨A', n', c', bad', c0, c1, HA0⟩ := CS.af_ hX hB bColumn 2 (by decide) hy
     have HA := Lib.hid HA0
     clear HA0
     go_upto_region 28 with (go_at_call 76; refine HA.out.mono ?_; rintro e w1 ⟨A1, n1, cc1, bad1, v1, rfl, d0, d1, f0, f1, k0, p0, hY⟩)
     refine wp_fg (CS w B y.2 ⟨4, x.1, y.1, 0, 0, []⟩ none 0) hY ?_
     clear hY hX HA c0 c1 d0 d1 f0 f1 k0 p0
     intro X hX
     obtain ⟨A', n', c', l', bad', hr', hW, R1, R2, R3, R4, tx, hO⟩ := id hX
     obtain ⟨c0, c1, f0, f1⟩ := blk2 R1
     obtain ⟨k0, k1, k2, k3, k4, k5, p0, p1, p2, p3, p4, p5⟩ := blk6 R4
     dsimp only at k0 k1 k2 k3 k4 k5
     go_upto_region 29 with fail
     refine wp_fg (CS w B y.2 ⟨4, x.1 - 1, y.1 - 1, 0, 0, []⟩ none 0) (((hX.set_ hB 1 (x.1 - 1) (by decide)).set_ hB 2 (y.1 - 1) (by decide))) ?_
     clear hX
     clear c0 c1 f0 f1 k0 k1 k2 k3 k4 k5 p0 p1 p2 p3 p4 p5 hr' hW R1 R2 R3 R4 tx hO
     intro X hX
     clear hx hy hxr hyr
     obtain ⟨xn, xr⟩ := x
     obtain ⟨yn, yr⟩ := y
     simp only at e1 e2 hX HR3
     generalize xn - 1 = Row at *
     generalize yn - 1 = Col at *
     obtain ⟨s5, hs5⟩ : ∃ b, Hid (b = nextB yr bVisible) := ⟨_, Lib.hid rfl⟩
     have HR2 := HR3
     clear HR3
     obtain ⟨A', n', c', bad', c0, c1, HN0⟩ := CS.nx_ hX hB bVisible
     have HN := Lib.hid HN0
     clear HN0
     rw [← hs5.out] at HN
     go_upto_if 115 with (go_at_call 49; refine HN.out.mono ?_; rintro e w1 ⟨rfl, hY⟩)
     refine wp_fg (CS w B yr ⟨4, Row, Col, 0, 0, []⟩ none 0) hY ?_
     clear hY hX HN c0 c1
     intro X hX
     cases s5 with
     | true =>
      have HR3 : Hid (R.1 = ⟨4, Row, Col, 1, 0, []⟩ ∧ R.2 = yr.bind (skO bVisible)) := Lib.hid (by rw [HR2.out, ← hs5.out]; exact ⟨rfl, rfl⟩)
      clear HR2 hs5
      obtain ⟨A', n', c', l', bad', hr', hW, R1, R2, R3, R4, tx, hO⟩ := id hX
      obtain ⟨c0, c1, f0, f1⟩ := blk2 R1
      obtain ⟨k0, k1, k2, k3, k4, k5, p0, p1, p2, p3, p4, p5⟩ := blk6 R4
      dsimp only at k0 k1 k2 k3 k4 k5
      go_upto_region 31 with fail
      refine wp_fg (CS w B yr ⟨4, Row, Col, 1, 0, []⟩ none 0) (hX.set_ hB 3 1 (by decide)) ?_
      clear hX
      clear c0 c1 f0 f1 k0 k1 k2 k3 k4 k5 p0 p1 p2 p3 p4 p5 hr' hW R1 R2 R3 R4 tx hO
      intro X hX
      obtain ⟨A', n', c', l', bad', hr', hW, R1, R2, R3, R4, tx, hO⟩ := id hX
      obtain ⟨c0, c1, f0, f1⟩ := blk2 R1
      obtain ⟨k0, k1, k2, k3, k4, k5, p0, p1, p2, p3, p4, p5⟩ := blk6 R4
      dsimp only at k0 k1 k2 k3 k4 k5
      obtain ⟨o0, o1, o2, o3, o4, o5, q0, q1, q2, q3, q4, q5⟩ := blk6 R2
      obtain ⟨m0, m1, v0, v1⟩ := blk2 R3
      dsimp only at o0 o1 o2 o3 o4 o5
      have HK := Lib.hid (uskp1 yr (.agg #[.slice A' n' c', .bool bad']) bVisible B X.drew ⟨A', n', c', l', bad', rfl, hW.below (Below.refl _ _).drew, hr'⟩ (Nat.le_trans hB tx.drew.size))
      have z0 := R1.lt
      have z1 := R2.lt
      have z2 := R3.lt
      have z3 := R4.lt
      go_region_law (go_simp; go_at_call 77; refine HK.out.mono ?_; rintro e w1 ⟨A1, n1, cc1, l1, bad1, rfl, hW1, hr1, hb1⟩; have hY := (hX.drew hB).below hB hb1; clear o0 o1 o2 o3 o4 o5 q0 q1 q2 q3 q4 q5 m0 m1 v0 v1; clear c0 c1 f0 f1 k0 k1 k2 k3 k4 k5 p0 p1 p2 p3 p4 p5 hr' hW R1 R2 R3 R4 tx hO; (obtain ⟨A', n', c', l', bad', hr', hW, R1, R2, R3, R4, tx, hO⟩ := id hY; obtain ⟨c0, c1, f0, f1⟩ := blk2 R1; obtain ⟨k0, k1, k2, k3, k4, k5, p0, p1, p2, p3, p4, p5⟩ := blk6 R4; dsimp only at k0 k1 k2 k3 k4 k5); (obtain ⟨o0, o1, o2, o3, o4, o5, q0, q1, q2, q3, q4, q5⟩ := blk6 R2; obtain ⟨m0, m1, v0, v1⟩ := blk2 R3; dsimp only at o0 o1 o2 o3 o4 o5))
      all_goals go_wp2
      all_goals have HF := Lib.hid (fin_ (c := ⟨4, Row, Col, 1, 0, []⟩) hB hr1 hW1 R2 R3 tx hO)
      all_goals rw [HR3.out.1, HR3.out.2]
      all_goals exact bodyPost_ret (results_cc rfl _ _ (w.heap.size + 1) (w.heap.size + 2) 72 95 _ _ (0, 0) (0, 0) _ _ rfl HF.out.1 Tryz.underlying72 rfl info_chg rfl HF.out.2.1 Tryz.underlying95 rfl info_rd) rfl ⟨_, _, _, rfl, HF.out.2.2.1, HF.out.2.2.2.1, HF.out.2.2.2.2⟩
     | false =>
      have HR3 : Hid (R.1 = ⟨4, Row, Col, 0, 0, []⟩ ∧ R.2 = yr.bind (skO bInvisible)) := Lib.hid (by rw [HR2.out, ← hs5.out]; exact ⟨rfl, rfl⟩)
      clear HR2 hs5
      go_upto_region 32 with fail
      obtain ⟨A', n', c', l', bad', hr', hW, R1, R2, R3, R4, tx, hO⟩ := id hX
      obtain ⟨c0, c1, f0, f1⟩ := blk2 R1
      obtain ⟨k0, k1, k2, k3, k4, k5, p0, p1, p2, p3, p4, p5⟩ := blk6 R4
      dsimp only at k0 k1 k2 k3 k4 k5
      obtain ⟨o0, o1, o2, o3, o4, o5, q0, q1, q2, q3, q4, q5⟩ := blk6 R2
      obtain ⟨m0, m1, v0, v1⟩ := blk2 R3
      dsimp only at o0 o1 o2 o3 o4 o5
      have HK := Lib.hid (uskp1 yr (.agg #[.slice A' n' c', .bool bad']) bInvisible B X.drew ⟨A', n', c', l', bad', rfl, hW.below (Below.refl _ _).drew, hr'⟩ (Nat.le_trans hB tx.drew.size))
      have z0 := R1.lt
      have z1 := R2.lt
      have z2 := R3.lt
      have z3 := R4.lt
      go_region_law (go_simp; go_at_call 77; refine HK.out.mono ?_; rintro e w1 ⟨A1, n1, cc1, l1, bad1, rfl, hW1, hr1, hb1⟩; have hY := (hX.drew hB).below hB hb1; clear o0 o1 o2 o3 o4 o5 q0 q1 q2 q3 q4 q5 m0 m1 v0 v1; clear c0 c1 f0 f1 k0 k1 k2 k3 k4 k5 p0 p1 p2 p3 p4 p5 hr' hW R1 R2 R3 R4 tx hO; (obtain ⟨A', n', c', l', bad', hr', hW, R1, R2, R3, R4, tx, hO⟩ := id hY; obtain ⟨c0, c1, f0, f1⟩ := blk2 R1; obtain ⟨k0, k1, k2, k3, k4, k5, p0, p1, p2, p3, p4, p5⟩ := blk6 R4; dsimp only at k0 k1 k2 k3 k4 k5); (obtain ⟨o0, o1, o2, o3, o4, o5, q0, q1, q2, q3, q4, q5⟩ := blk6 R2; obtain ⟨m0, m1, v0, v1⟩ := blk2 R3; dsimp only at o0 o1 o2 o3 o4 o5))
      all_goals go_wp2
      all_goals have HF := Lib.hid (fin_ (c := ⟨4, Row, Col, 0, 0, []⟩) hB hr1 hW1 R2 R3 tx hO)
      all_goals rw [HR3.out.1, HR3.out.2]
      all_goals exact bodyPost_ret (results_cc rfl _ _ (w.heap.size + 1) (w.heap.size + 2) 72 95 _ _ (0, 0) (0, 0) _ _ rfl HF.out.1 Tryz.underlying72 rfl info_chg rfl HF.out.2.1 Tryz.underlying95 rfl info_rd) rfl ⟨_, _, _, rfl, HF.out.2.2.1, HF.out.2.2.2.1, HF.out.2.2.2.2⟩
    | false =>
     have HR3 : Hid (R.1 = ⟨0, 0, 0, 0, 0, []⟩ ∧ R.2 = none) := Lib.hid (by rw [hR2.out, ← hs4.out]; exact ⟨rfl, rfl⟩)
     clear hR2 hs4
     obtain ⟨A', n', c', l', bad', hr', hW, R1, R2, R3, R4, tx, hO⟩ := id hX
     obtain ⟨c0, c1, f0, f1⟩ := blk2 R1
     obtain ⟨k0, k1, k2, k3, k4, k5, p0, p1, p2, p3, p4, p5⟩ := blk6 R4
     dsimp only at k0 k1 k2 k3 k4 k5
     obtain ⟨o0, o1, o2, o3, o4, o5, q0, q1, q2, q3, q4, q5⟩ := blk6 R2
     obtain ⟨m0, m1, v0, v1⟩ := blk2 R3
     dsimp only at o0 o1 o2 o3 o4 o5
     go_wp2
     have HF := Lib.hid (fin_ (c := ⟨0, 0, 0, 0, 0, []⟩) (r := none) (bad := true) (l := []) hB rfl (WdR.nil X B) R2 R3 tx hO)
     all_goals rw [HR3.out.1, HR3.out.2]
     all_goals exact bodyPost_ret (results_cc rfl _ _ (w.heap.size + 1) (w.heap.size + 2) 72 95 _ _ (0, 0) (0, 0) _ _ rfl HF.out.1 Tryz.underlying72 rfl info_chg rfl HF.out.2.1 Tryz.underlying95 rfl info_rd) rfl ⟨_, _, _, rfl, HF.out.2.2.1, HF.out.2.2.2.1, HF.out.2.2.2.2⟩
end Go.Proofs.YtholajadbbdcmaaGreatDoor
