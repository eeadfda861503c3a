/- Joined: Ur6. -/
import Derived.StillTailTactics
import Derived.Test.YtlndbiamiioakaaGreatDoorVBD
set_option linter.unusedVariables false
set_option linter.unusedSimpArgs false
set_option linter.unnecessarySimpa false
set_option maxHeartbeats 4000000
namespace Go.Proofs.YtlndbiamiioakaaGreatDoor
open Go.Proofs.Tryz Go.RowKit
set_option maxRecDepth 20000
def sizP (r : Option (List ByteArray)) : Chg × Option (List ByteArray) :=
 (⟨1, (qU (r.bind (skO vc))).1, (qU ((qU (r.bind (skO vc))).2.bind (skO jk))).1, 0, 0, []⟩, (qU ((qU (r.bind (skO vc))).2.bind (skO jk))).2.bind (skO vn))
def qbG (x : Int × Option (List ByteArray)) : Option (List ByteArray) := if x.1 < 0 then none else x.2
def scrP (r : Option (List ByteArray)) : Chg × Option (List ByteArray) :=
 if qo (qU ((qU ((r.bind (skO qE)).bind (skO qu))).2.bind (skO bTo))).2 zT = true then
  (⟨2, (qU ((r.bind (skO qE)).bind (skO qu))).1 - 1, 0, -(qU ((qU ((qU ((r.bind (skO qE)).bind (skO qu))).2.bind (skO bTo))).2.bind (skO zT))).1, (qU ((qU ((r.bind (skO qE)).bind (skO qu))).2.bind (skO bTo))).1, []⟩, qbG (qU ((qU ((qU ((r.bind (skO qE)).bind (skO qu))).2.bind (skO bTo))).2.bind (skO zT))))
 else
  (⟨2, (qU ((r.bind (skO qE)).bind (skO qu))).1 - 1, 0, (qU ((qU ((qU ((r.bind (skO qE)).bind (skO qu))).2.bind (skO bTo))).2.bind (skO bUp))).1, (qU ((qU ((r.bind (skO qE)).bind (skO qu))).2.bind (skO bTo))).1, []⟩, qbG (qU ((qU ((qU ((r.bind (skO qE)).bind (skO qu))).2.bind (skO bTo))).2.bind (skO bUp))))
def curP (r : Option (List ByteArray)) : Chg × Option (List ByteArray) :=
 if qo (qU ((qU ((r.bind (skO qD)).bind (skO qu))).2.bind (skO qB))).2 qH = true then
  (⟨4, (qU ((r.bind (skO qD)).bind (skO qu))).1 - 1, (qU ((qU ((r.bind (skO qD)).bind (skO qu))).2.bind (skO qB))).1 - 1, 1, 0, []⟩, (qU ((qU ((r.bind (skO qD)).bind (skO qu))).2.bind (skO qB))).2.bind (skO qH))
 else
  (⟨4, (qU ((r.bind (skO qD)).bind (skO qu))).1 - 1, (qU ((qU ((r.bind (skO qD)).bind (skO qu))).2.bind (skO qB))).1 - 1, 0, 0, []⟩, (qU ((qU ((r.bind (skO qD)).bind (skO qu))).2.bind (skO qB))).2.bind (skO zo))
def chgP (r : Option (List ByteArray)) : Chg × Option (List ByteArray) :=
 if qo r vc = true then sizP r
 else if qo r qE = true then scrP r
 else if qo r qu = true then qaA r
 else if qo r qD = true then curP r
 else (⟨0, 0, 0, 0, 0, []⟩, none)
def SplE (w : World) (B : Nat) (c : Chg) (r : Option (List ByteArray)) (e : Ending) (w' : World) : Prop := ∃ Ag cap A n cc l bad, e = .returned (.tuple #[.agg #[.int .i64 c.kind, .int .i64 c.row, .int .i64 c.col, .int .i64 c.count, .int .i64 c.til, .slice Ag c.glyphs.length cap], .agg #[.slice A n cc, .bool bad]]) /\ r = zY bad l /\ WdR w' B l A n cc /\ Below w.heap.size w w' /\ w'.ownsRow w.heap.size 31 3 (.slice Ag c.glyphs.length cap) c.glyphs.length (qn c.glyphs)
theorem CRet.spl {w w' : World} {B : Nat} {c : Chg} {r : Option (List ByteArray)} {e : Ending} (h : CRet w B c r e w') : SplE w B c r e w' := by
 obtain ⟨Ag, cap, v, rfl, ⟨A, n, cc, l, bad, rfl, hW, hr⟩, hb, ho⟩ := h
 exact ⟨Ag, cap, A, n, cc, l, bad, rfl, hr, hW, hb, ho⟩
theorem uchange_ (l : List ByteArray) (A : Option Addr) (n c : Nat) (w : World) (B : Nat) (hW : WdR w B l A n c) (hB : B <= w.heap.size) (hl : l.length <= 400000) (hs : Sp w) (hu : U8 w) (hy : Sty w) :
  Calls prog 12 #[.agg #[.slice A n c, .bool false]] w (CRet w B (chgP (some l)).1 (chgP (some l)).2) := by
 obtain ⟨R, hR⟩ : ∃ x, Hid (x = chgP (some l)) := ⟨_, Lh rfl⟩
 rw [<- hR.out]
 have HSp : Hid (∀ X A n c, Below w.heap.size w X -> WdR X B l A n c -> Calls prog 27 #[.agg #[.slice A n c, .bool false]] X (SplE X B (qaA (some l)).1 (qaA (some l)).2)) := Lh fun X A n c hb hW' => (usplice_ l A n c X B hW' (Nat.le_trans hB hb.size) hl (hs.below hb (Nat.le_refl _)) (hu.below hb) (hy.below hb (Nat.le_refl _))).mono fun _ _ h => h.spl
 have hX := CS.start 0 hW hB
 clear hW hl hs hu hy
 go_enter func12, ntmps12
 go_upto_block 0 with fail
 refine qc (CS w B (some l) ⟨0, 0, 0, 0, 0, []⟩ none 0) hX ?_
 clear hX
 intro X hX
 obtain ⟨s1, hs1⟩ : ∃ b, Hid (b = qo (some l) vc) := ⟨_, Lh rfl⟩
 obtain ⟨A', n', c', bad', c0, c1, HN0⟩ := CS.nx_ hX hB vc
 have HN := Lh HN0
 clear HN0
 rw [<- hs1.out] at HN
 go_upto_if 5 with (go_at_call 11; refine HN.out.mono ?_; rintro e w1 ⟨rfl, hY⟩)
 refine qc (CS w B (some l) ⟨0, 0, 0, 0, 0, []⟩ none 0) hY ?_
 clear hY hX HN c0 c1
 intro X hX
 cases s1 with
 | true =>
  have HR2 : Hid (R = sizP (some l)) := Lh (by rw [hR.out, chgP, <- hs1.out]; rfl)
  clear hR hs1 HSp
  obtain ⟨x, hx⟩ : ∃ x, Hid (x = qU ((some l).bind (skO vc))) := ⟨_, Lh rfl⟩
  obtain ⟨y, hy⟩ : ∃ y, Hid (y = qU (x.2.bind (skO jk))) := ⟨_, Lh rfl⟩
  have HR3 : Hid (R.1 = ⟨1, x.1, y.1, 0, 0, []⟩ /\ R.2 = y.2.bind (skO vn)) := Lh (by rw [HR2.out, hy.out, hx.out]; exact ⟨rfl, rfl⟩)
  clear HR2
  obtain ⟨A', n', c', l', bad', hr', hW, R1, R2, R3, R4, tx, hO⟩ := id hX
  obtain ⟨c0, c1, f0, f1⟩ := qm R1
  obtain ⟨k0, k1, k2, k3, k4, k5, p0, p1, p2, p3, p4, p5⟩ := qr R4
  dsimp only at k0 k1 k2 k3 k4 k5
  go_upto_region 4 with fail
  refine qc (CS w B (some l) ⟨1, 0, 0, 0, 0, []⟩ none 0) (hX.set_ hB 0 1 (by decide)) ?_
  clear hX
  clear c0 c1 f0 f1 k0 k1 k2 k3 k4 k5 p0 p1 p2 p3 p4 p5 hr' hW R1 R2 R3 R4 tx hO
  intro X hX
  obtain ⟨A', n', c', bad', c0, c1, HA0⟩ := CS.af_ hX hB vc 1 (by decide) hx
  have HA := Lh HA0
  clear HA0
  go_upto_region 5 with (go_at_call 25; refine HA.out.mono ?_; rintro e w1 ⟨A1, n1, cc1, qim, v1, rfl, d0, d1, f0, f1, k0, p0, hY⟩)
  refine qc (CS w B x.2 ⟨1, x.1, 0, 0, 0, []⟩ none 0) hY ?_
  clear hY hX HA c0 c1 d0 d1 f0 f1 k0 p0
  intro X hX
  obtain ⟨A', n', c', bad', c0, c1, HA0⟩ := CS.af_ hX hB jk 2 (by decide) hy
  have HA := Lh HA0
  clear HA0
  go_upto_region 6 with (go_at_call 25; refine HA.out.mono ?_; rintro e w1 ⟨A1, n1, cc1, qim, v1, rfl, d0, d1, f0, f1, k0, p0, hY⟩)
  refine qc (CS w B y.2 ⟨1, x.1, y.1, 0, 0, []⟩ none 0) hY ?_
  clear hY hX HA c0 c1 d0 d1 f0 f1 k0 p0
  intro X hX
  obtain ⟨A', n', c', l', bad', hr', hW, R1, R2, R3, R4, tx, hO⟩ := id hX
  obtain ⟨c0, c1, f0, f1⟩ := qm R1
  obtain ⟨k0, k1, k2, k3, k4, k5, p0, p1, p2, p3, p4, p5⟩ := qr R4
  dsimp only at k0 k1 k2 k3 k4 k5
  obtain ⟨o0, o1, o2, o3, o4, o5, q0, q1, q2, q3, q4, q5⟩ := qr R2
  obtain ⟨m0, m1, v0, v1⟩ := qm R3
  dsimp only at o0 o1 o2 o3 o4 o5
  have HK := Lh (qdr y.2 (.agg #[.slice A' n' c', .bool bad']) vn B X.drew ⟨A', n', c', l', bad', rfl, hW.below (Below.refl _ _).drew, hr'⟩ (Nat.le_trans hB tx.drew.size))
  have z0 := R1.lt
  have z1 := R2.lt
  have z2 := R3.lt
  have z3 := R4.lt
  go_region_law (go_simp; go_at_call 26; refine HK.out.mono ?_; rintro e w1 ⟨A1, n1, cc1, l1, qim, rfl, hW1, hr1, hb1⟩; have hY := (hX.drew hB).below hB hb1; clear o0 o1 o2 o3 o4 o5 q0 q1 q2 q3 q4 q5 m0 m1 v0 v1; clear c0 c1 f0 f1 k0 k1 k2 k3 k4 k5 p0 p1 p2 p3 p4 p5 hr' hW R1 R2 R3 R4 tx hO; (obtain ⟨A', n', c', l', bad', hr', hW, R1, R2, R3, R4, tx, hO⟩ := id hY; obtain ⟨c0, c1, f0, f1⟩ := qm R1; obtain ⟨k0, k1, k2, k3, k4, k5, p0, p1, p2, p3, p4, p5⟩ := qr R4; dsimp only at k0 k1 k2 k3 k4 k5); (obtain ⟨o0, o1, o2, o3, o4, o5, q0, q1, q2, q3, q4, q5⟩ := qr R2; obtain ⟨m0, m1, v0, v1⟩ := qm R3; dsimp only at o0 o1 o2 o3 o4 o5))
  all_goals go_wp2
  all_goals have HF := Lh (fin_ (c := ⟨1, x.1, y.1, 0, 0, []⟩) hB hr1 hW1 R2 R3 tx hO)
  all_goals rw [HR3.out.1, HR3.out.2]
  all_goals exact bodyPost_ret (qV rfl _ _ (w.heap.size + 1) (w.heap.size + 2) 34 41 _ _ (0, 0) (0, 0) _ _ rfl HF.out.1 underlying34 rfl zH rfl HF.out.2.1 underlying41 rfl zM) rfl ⟨_, _, _, rfl, HF.out.2.2.1, HF.out.2.2.2.1, HF.out.2.2.2.2⟩
 | false =>
  have hR2 : Hid (R = if qo (some l) qE = true then scrP (some l) else if qo (some l) qu = true then qaA (some l) else if qo (some l) qD = true then curP (some l) else (⟨0, 0, 0, 0, 0, []⟩, none)) := Lh (by rw [hR.out, chgP, <- hs1.out]; rfl)
  clear hR hs1
  obtain ⟨s2, hs2⟩ : ∃ b, Hid (b = qo (some l) qE) := ⟨_, Lh rfl⟩
  obtain ⟨A', n', c', bad', c0, c1, HN0⟩ := CS.nx_ hX hB qE
  have HN := Lh HN0
  clear HN0
  rw [<- hs2.out] at HN
  go_upto_if 27 with (go_at_call 11; refine HN.out.mono ?_; rintro e w1 ⟨rfl, hY⟩)
  refine qc (CS w B (some l) ⟨0, 0, 0, 0, 0, []⟩ none 0) hY ?_
  clear hY hX HN c0 c1
  intro X hX
  cases s2 with
  | true =>
   have HR2 : Hid (R = scrP (some l)) := Lh (by rw [hR2.out, <- hs2.out]; rfl)
   clear hR2 hs2 HSp
   obtain ⟨x, hx⟩ : ∃ x, Hid (x = qU (((some l).bind (skO qE)).bind (skO qu))) := ⟨_, Lh rfl⟩
   obtain ⟨y, hy⟩ : ∃ y, Hid (y = qU (x.2.bind (skO bTo))) := ⟨_, Lh rfl⟩
   have HR3 : Hid (R = if qo y.2 zT = true then (⟨2, x.1 - 1, 0, -(qU (y.2.bind (skO zT))).1, y.1, []⟩, qbG (qU (y.2.bind (skO zT)))) else (⟨2, x.1 - 1, 0, (qU (y.2.bind (skO bUp))).1, y.1, []⟩, qbG (qU (y.2.bind (skO bUp))))) := Lh (by rw [HR2.out, hy.out, hx.out]; rfl)
   clear HR2
   have hxr : -999999999 <= x.1 /\ x.1 <= 999999999 := by rw [hx.out]; exact jA _
   have e1 : IntKind.i64.wrap (x.1 - 1) = x.1 - 1 := by rw [IntKind.wrap_i64]; omega
   obtain ⟨A', n', c', l', bad', hr', hW, R1, R2, R3, R4, tx, hO⟩ := id hX
   obtain ⟨c0, c1, f0, f1⟩ := qm R1
   obtain ⟨k0, k1, k2, k3, k4, k5, p0, p1, p2, p3, p4, p5⟩ := qr R4
   dsimp only at k0 k1 k2 k3 k4 k5
   go_upto_region 9 with fail
   refine qc (CS w B (some l) ⟨2, 0, 0, 0, 0, []⟩ none 0) (hX.set_ hB 0 2 (by decide)) ?_
   clear hX
   clear c0 c1 f0 f1 k0 k1 k2 k3 k4 k5 p0 p1 p2 p3 p4 p5 hr' hW R1 R2 R3 R4 tx hO
   intro X hX
   obtain ⟨A', n', c', bad', c0, c1, HA0⟩ := CS.af2_ hX hB qE qu 1 (by decide) hx
   have HA := Lh HA0
   clear HA0
   go_upto_region 10 with (go_at_call 25; refine HA.out.mono ?_; rintro e w1 ⟨A1, n1, cc1, qim, v1, rfl, d0, d1, f0, f1, k0, p0, hY⟩)
   refine qc (CS w B x.2 ⟨2, x.1, 0, 0, 0, []⟩ none 0) hY ?_
   clear hY hX HA c0 c1 d0 d1 f0 f1 k0 p0
   intro X hX
   obtain ⟨A', n', c', bad', c0, c1, HA0⟩ := CS.af_ hX hB bTo 4 (by decide) hy
   have HA := Lh HA0
   clear HA0
   go_upto_region 11 with (go_at_call 25; refine HA.out.mono ?_; rintro e w1 ⟨A1, n1, cc1, qim, v1, rfl, d0, d1, f0, f1, k0, p0, hY⟩)
   refine qc (CS w B y.2 ⟨2, x.1, 0, 0, y.1, []⟩ none 0) hY ?_
   clear hY hX HA c0 c1 d0 d1 f0 f1 k0 p0
   intro X hX
   obtain ⟨A', n', c', l', bad', hr', hW, R1, R2, R3, R4, tx, hO⟩ := id hX
   obtain ⟨c0, c1, f0, f1⟩ := qm R1
   obtain ⟨k0, k1, k2, k3, k4, k5, p0, p1, p2, p3, p4, p5⟩ := qr R4
   dsimp only at k0 k1 k2 k3 k4 k5
   go_upto_region 12 with fail
   refine qc (CS w B y.2 ⟨2, x.1 - 1, 0, 0, y.1, []⟩ none 0) (hX.set_ hB 1 (x.1 - 1) (by decide)) ?_
   clear hX
   clear c0 c1 f0 f1 k0 k1 k2 k3 k4 k5 p0 p1 p2 p3 p4 p5 hr' hW R1 R2 R3 R4 tx hO
   intro X hX
   clear hx hy hxr
   obtain ⟨xn, xr⟩ := x
   obtain ⟨yn, yr⟩ := y
   simp only at e1 hX HR3
   generalize xn - 1 = Row at *
   obtain ⟨s3, hs3⟩ : ∃ b, Hid (b = qo yr zT) := ⟨_, Lh rfl⟩
   obtain ⟨A', n', c', bad', c0, c1, HN0⟩ := CS.nx_ hX hB zT
   have HN := Lh HN0
   clear HN0
   rw [<- hs3.out] at HN
   go_upto_if 50 with (go_at_call 11; refine HN.out.mono ?_; rintro e w1 ⟨rfl, hY⟩)
   refine qc (CS w B yr ⟨2, Row, 0, 0, yn, []⟩ none 0) hY ?_
   clear hY hX HN c0 c1
   intro X hX
   cases s3 with
   | true =>
    obtain ⟨u, hu⟩ : ∃ u, Hid (u = qU (yr.bind (skO zT))) := ⟨_, Lh rfl⟩
    have HR4 : Hid (R = (⟨2, Row, 0, -u.1, yn, []⟩, qbG u)) := Lh (by rw [HR3.out, <- hs3.out, hu.out]; rfl)
    have hur : -999999999 <= u.1 /\ u.1 <= 999999999 := by rw [hu.out]; exact jA _
    have e2 : IntKind.i64.wrap (-u.1) = -u.1 := by rw [IntKind.wrap_i64]; omega
    clear HR3 hs3
    obtain ⟨A', n', c', bad', c0, c1, HA0⟩ := CS.af_ hX hB zT 3 (by decide) hu
    have HA := Lh HA0
    clear HA0
    go_upto_region 14 with (go_at_call 25; refine HA.out.mono ?_; rintro e w1 ⟨A1, n1, cc1, qim, v1, rfl, d0, d1, f0, f1, k0, p0, hY⟩)
    refine qc (CS w B u.2 ⟨2, Row, 0, u.1, yn, []⟩ none 0) hY ?_
    clear hY hX HA c0 c1 d0 d1 f0 f1 k0 p0
    intro X hX
    clear hu hur
    obtain ⟨un, ur⟩ := u
    simp only at e2 hX HR4
    by_cases hlt : un < 0
    ·have HR3 : Hid (R.1 = ⟨2, Row, 0, -un, yn, []⟩ /\ R.2 = none) := Lh (by rw [HR4.out, qbG, if_pos hlt]; exact ⟨rfl, rfl⟩)
     clear HR4
     obtain ⟨A', n', c', l', bad', hr', hW, R1, R2, R3, R4, tx, hO⟩ := id hX
     obtain ⟨c0, c1, f0, f1⟩ := qm R1
     obtain ⟨k0, k1, k2, k3, k4, k5, p0, p1, p2, p3, p4, p5⟩ := qr R4
     dsimp only at k0 k1 k2 k3 k4 k5
     go_upto_region 16 with fail
     refine qc (CS w B none ⟨2, Row, 0, un, yn, []⟩ none 0) (hX.spoil hB) ?_
     clear hX
     clear c0 c1 f0 f1 k0 k1 k2 k3 k4 k5 p0 p1 p2 p3 p4 p5 hr' hW R1 R2 R3 R4 tx hO
     intro X hX
     obtain ⟨A', n', c', l', bad', hr', hW, R1, R2, R3, R4, tx, hO⟩ := id hX
     obtain ⟨c0, c1, f0, f1⟩ := qm R1
     obtain ⟨k0, k1, k2, k3, k4, k5, p0, p1, p2, p3, p4, p5⟩ := qr R4
     dsimp only at k0 k1 k2 k3 k4 k5
     go_upto_region 17 with fail
     refine qc (CS w B none ⟨2, Row, 0, -un, yn, []⟩ none 0) (hX.set_ hB 3 (-un) (by decide)) ?_
     clear hX
     clear c0 c1 f0 f1 k0 k1 k2 k3 k4 k5 p0 p1 p2 p3 p4 p5 hr' hW R1 R2 R3 R4 tx hO
     intro X hX
     obtain ⟨A', n', c', l', bad', hr', hW, R1, R2, R3, R4, tx, hO⟩ := id hX
     obtain ⟨c0, c1, f0, f1⟩ := qm R1
     obtain ⟨k0, k1, k2, k3, k4, k5, p0, p1, p2, p3, p4, p5⟩ := qr R4
     dsimp only at k0 k1 k2 k3 k4 k5
     obtain ⟨o0, o1, o2, o3, o4, o5, q0, q1, q2, q3, q4, q5⟩ := qr R2
     obtain ⟨m0, m1, v0, v1⟩ := qm R3
     dsimp only at o0 o1 o2 o3 o4 o5
     have HF := Lh (k6 (c := ⟨2, Row, 0, -un, yn, []⟩) hB hr' hW R2 R3 tx hO)
     go_region_law (fail)
     all_goals go_wp2
     all_goals rw [HR3.out.1, HR3.out.2]
     all_goals exact bodyPost_ret (qV rfl _ _ (w.heap.size + 1) (w.heap.size + 2) 34 41 _ _ (0, 0) (0, 0) _ _ rfl HF.out.1 underlying34 rfl zH rfl HF.out.2.1 underlying41 rfl zM) rfl ⟨_, _, _, rfl, HF.out.2.2.1, HF.out.2.2.2.1, HF.out.2.2.2.2⟩
    ·have HR3 : Hid (R.1 = ⟨2, Row, 0, -un, yn, []⟩ /\ R.2 = ur) := Lh (by rw [HR4.out, qbG, if_neg (by omega)]; exact ⟨rfl, rfl⟩)
     clear HR4
     obtain ⟨A', n', c', l', bad', hr', hW, R1, R2, R3, R4, tx, hO⟩ := id hX
     obtain ⟨c0, c1, f0, f1⟩ := qm R1
     obtain ⟨k0, k1, k2, k3, k4, k5, p0, p1, p2, p3, p4, p5⟩ := qr R4
     dsimp only at k0 k1 k2 k3 k4 k5
     go_upto_region 16 with fail
     refine qc (CS w B ur ⟨2, Row, 0, un, yn, []⟩ none 0) (hX) ?_
     clear hX
     clear c0 c1 f0 f1 k0 k1 k2 k3 k4 k5 p0 p1 p2 p3 p4 p5 hr' hW R1 R2 R3 R4 tx hO
     intro X hX
     obtain ⟨A', n', c', l', bad', hr', hW, R1, R2, R3, R4, tx, hO⟩ := id hX
     obtain ⟨c0, c1, f0, f1⟩ := qm R1
     obtain ⟨k0, k1, k2, k3, k4, k5, p0, p1, p2, p3, p4, p5⟩ := qr R4
     dsimp only at k0 k1 k2 k3 k4 k5
     go_upto_region 17 with fail
     refine qc (CS w B ur ⟨2, Row, 0, -un, yn, []⟩ none 0) (hX.set_ hB 3 (-un) (by decide)) ?_
     clear hX
     clear c0 c1 f0 f1 k0 k1 k2 k3 k4 k5 p0 p1 p2 p3 p4 p5 hr' hW R1 R2 R3 R4 tx hO
     intro X hX
     obtain ⟨A', n', c', l', bad', hr', hW, R1, R2, R3, R4, tx, hO⟩ := id hX
     obtain ⟨c0, c1, f0, f1⟩ := qm R1
     obtain ⟨k0, k1, k2, k3, k4, k5, p0, p1, p2, p3, p4, p5⟩ := qr R4
     dsimp only at k0 k1 k2 k3 k4 k5
     obtain ⟨o0, o1, o2, o3, o4, o5, q0, q1, q2, q3, q4, q5⟩ := qr R2
     obtain ⟨m0, m1, v0, v1⟩ := qm R3
     dsimp only at o0 o1 o2 o3 o4 o5
     have HF := Lh (k6 (c := ⟨2, Row, 0, -un, yn, []⟩) hB hr' hW R2 R3 tx hO)
     go_region_law (fail)
     all_goals go_wp2
     all_goals rw [HR3.out.1, HR3.out.2]
     all_goals exact bodyPost_ret (qV rfl _ _ (w.heap.size + 1) (w.heap.size + 2) 34 41 _ _ (0, 0) (0, 0) _ _ rfl HF.out.1 underlying34 rfl zH rfl HF.out.2.1 underlying41 rfl zM) rfl ⟨_, _, _, rfl, HF.out.2.2.1, HF.out.2.2.2.1, HF.out.2.2.2.2⟩
   | false =>
    obtain ⟨u, hu⟩ : ∃ u, Hid (u = qU (yr.bind (skO bUp))) := ⟨_, Lh rfl⟩
    have HR4 : Hid (R = (⟨2, Row, 0, u.1, yn, []⟩, qbG u)) := Lh (by rw [HR3.out, <- hs3.out, hu.out]; rfl)
    clear HR3 hs3
    go_upto_region 18 with fail
    obtain ⟨A', n', c', bad', c0, c1, HA0⟩ := CS.af_ hX hB bUp 3 (by decide) hu
    have HA := Lh HA0
    clear HA0
    go_upto_region 19 with (go_at_call 25; refine HA.out.mono ?_; rintro e w1 ⟨A1, n1, cc1, qim, v1, rfl, d0, d1, f0, f1, k0, p0, hY⟩)
    refine qc (CS w B u.2 ⟨2, Row, 0, u.1, yn, []⟩ none 0) hY ?_
    clear hY hX HA c0 c1 d0 d1 f0 f1 k0 p0
    intro X hX
    clear hu
    obtain ⟨un, ur⟩ := u
    simp only at hX HR4
    by_cases hlt : un < 0
    ·have HR3 : Hid (R.1 = ⟨2, Row, 0, un, yn, []⟩ /\ R.2 = none) := Lh (by rw [HR4.out, qbG, if_pos hlt]; exact ⟨rfl, rfl⟩)
     clear HR4
     obtain ⟨A', n', c', l', bad', hr', hW, R1, R2, R3, R4, tx, hO⟩ := id hX
     obtain ⟨c0, c1, f0, f1⟩ := qm R1
     obtain ⟨k0, k1, k2, k3, k4, k5, p0, p1, p2, p3, p4, p5⟩ := qr R4
     dsimp only at k0 k1 k2 k3 k4 k5
     go_upto_region 21 with fail
     refine qc (CS w B none ⟨2, Row, 0, un, yn, []⟩ none 0) (hX.spoil hB) ?_
     clear hX
     clear c0 c1 f0 f1 k0 k1 k2 k3 k4 k5 p0 p1 p2 p3 p4 p5 hr' hW R1 R2 R3 R4 tx hO
     intro X hX
     obtain ⟨A', n', c', l', bad', hr', hW, R1, R2, R3, R4, tx, hO⟩ := id hX
     obtain ⟨c0, c1, f0, f1⟩ := qm R1
     obtain ⟨k0, k1, k2, k3, k4, k5, p0, p1, p2, p3, p4, p5⟩ := qr R4
     dsimp only at k0 k1 k2 k3 k4 k5
     obtain ⟨o0, o1, o2, o3, o4, o5, q0, q1, q2, q3, q4, q5⟩ := qr R2
     obtain ⟨m0, m1, v0, v1⟩ := qm R3
     dsimp only at o0 o1 o2 o3 o4 o5
     have HF := Lh (k6 (c := ⟨2, Row, 0, un, yn, []⟩) hB hr' hW R2 R3 tx hO)
     go_region_law (fail)
     all_goals go_wp2
     all_goals rw [HR3.out.1, HR3.out.2]
     all_goals exact bodyPost_ret (qV rfl _ _ (w.heap.size + 1) (w.heap.size + 2) 34 41 _ _ (0, 0) (0, 0) _ _ rfl HF.out.1 underlying34 rfl zH rfl HF.out.2.1 underlying41 rfl zM) rfl ⟨_, _, _, rfl, HF.out.2.2.1, HF.out.2.2.2.1, HF.out.2.2.2.2⟩
    ·have HR3 : Hid (R.1 = ⟨2, Row, 0, un, yn, []⟩ /\ R.2 = ur) := Lh (by rw [HR4.out, qbG, if_neg (by omega)]; exact ⟨rfl, rfl⟩)
     clear HR4
     obtain ⟨A', n', c', l', bad', hr', hW, R1, R2, R3, R4, tx, hO⟩ := id hX
     obtain ⟨c0, c1, f0, f1⟩ := qm R1
     obtain ⟨k0, k1, k2, k3, k4, k5, p0, p1, p2, p3, p4, p5⟩ := qr R4
     dsimp only at k0 k1 k2 k3 k4 k5
     go_upto_region 21 with fail
     refine qc (CS w B ur ⟨2, Row, 0, un, yn, []⟩ none 0) (hX) ?_
     clear hX
     clear c0 c1 f0 f1 k0 k1 k2 k3 k4 k5 p0 p1 p2 p3 p4 p5 hr' hW R1 R2 R3 R4 tx hO
     intro X hX
     obtain ⟨A', n', c', l', bad', hr', hW, R1, R2, R3, R4, tx, hO⟩ := id hX
     obtain ⟨c0, c1, f0, f1⟩ := qm R1
     obtain ⟨k0, k1, k2, k3, k4, k5, p0, p1, p2, p3, p4, p5⟩ := qr R4
     dsimp only at k0 k1 k2 k3 k4 k5
     obtain ⟨o0, o1, o2, o3, o4, o5, q0, q1, q2, q3, q4, q5⟩ := qr R2
     obtain ⟨m0, m1, v0, v1⟩ := qm R3
     dsimp only at o0 o1 o2 o3 o4 o5
     have HF := Lh (k6 (c := ⟨2, Row, 0, un, yn, []⟩) hB hr' hW R2 R3 tx hO)
     go_region_law (fail)
     all_goals go_wp2
     all_goals rw [HR3.out.1, HR3.out.2]
     all_goals exact bodyPost_ret (qV rfl _ _ (w.heap.size + 1) (w.heap.size + 2) 34 41 _ _ (0, 0) (0, 0) _ _ rfl HF.out.1 underlying34 rfl zH rfl HF.out.2.1 underlying41 rfl zM) rfl ⟨_, _, _, rfl, HF.out.2.2.1, HF.out.2.2.2.1, HF.out.2.2.2.2⟩
  | false =>
   have hR : Hid (R = if qo (some l) qu = true then qaA (some l) else if qo (some l) qD = true then curP (some l) else (⟨0, 0, 0, 0, 0, []⟩, none)) := Lh (by rw [hR2.out, <- hs2.out]; rfl)
   clear hR2 hs2
   obtain ⟨s3, hs3⟩ : ∃ b, Hid (b = qo (some l) qu) := ⟨_, Lh rfl⟩
   obtain ⟨A', n', c', bad', c0, c1, HN0⟩ := CS.nx_ hX hB qu
   have HN := Lh HN0
   clear HN0
   rw [<- hs3.out] at HN
   go_upto_if 81 with (go_at_call 11; refine HN.out.mono ?_; rintro e w1 ⟨rfl, hY⟩)
   refine qc (CS w B (some l) ⟨0, 0, 0, 0, 0, []⟩ none 0) hY ?_
   clear hY hX HN c0 c1
   intro X hX
   cases s3 with
   | true =>
    have HR2 : Hid (R = qaA (some l)) := Lh (by rw [hR.out, <- hs3.out]; rfl)
    clear hR hs3
    have HR3 : Hid (R.1 = (qaA (some l)).1 /\ R.2 = (qaA (some l)).2) := Lh (by rw [HR2.out]; exact ⟨rfl, rfl⟩)
    clear HR2
    generalize qaA (some l) = SP at *
    obtain ⟨A', n', c', l', bad', hr', hW, R1, R2, R3, R4, tx, hO⟩ := id hX
    obtain ⟨c0, c1, f0, f1⟩ := qm R1
    obtain ⟨k0, k1, k2, k3, k4, k5, p0, p1, p2, p3, p4, p5⟩ := qr R4
    dsimp only at k0 k1 k2 k3 k4 k5
    obtain ⟨o0, o1, o2, o3, o4, o5, q0, q1, q2, q3, q4, q5⟩ := qr R2
    obtain ⟨m0, m1, v0, v1⟩ := qm R3
    dsimp only at o0 o1 o2 o3 o4 o5
    cases bad' with
    | true => cases hr'
    | false =>
     obtain rfl : l = l' := by cases hr'; rfl
     have hxs := hX.size
     go_wp2_with (go_at_call 27; refine (HSp.out X A' n' c' tx hW).mono ?_; rintro e w1 ⟨Ag, cap, A1, n1, cc1, l1, qim, rfl, hr1, hW1, hb1, ho1⟩; have hY := hX.below hB hb1; clear o0 o1 o2 o3 o4 o5 q0 q1 q2 q3 q4 q5 m0 m1 v0 v1; clear c0 c1 f0 f1 k0 k1 k2 k3 k4 k5 p0 p1 p2 p3 p4 p5 hr' hW R1 R2 R3 R4 tx hO; (obtain ⟨A', n', c', l', bad', hr', hW, R1, R2, R3, R4, tx, hO⟩ := id hY; obtain ⟨c0, c1, f0, f1⟩ := qm R1; obtain ⟨k0, k1, k2, k3, k4, k5, p0, p1, p2, p3, p4, p5⟩ := qr R4; dsimp only at k0 k1 k2 k3 k4 k5); (obtain ⟨o0, o1, o2, o3, o4, o5, q0, q1, q2, q3, q4, q5⟩ := qr R2; obtain ⟨m0, m1, v0, v1⟩ := qm R3; dsimp only at o0 o1 o2 o3 o4 o5))
     have HF := Lh (fin_ (c := SP.1) hB hr1 hW1 R2 R3 tx (qq ho1 (by omega)))
     all_goals rw [HR3.out.1, HR3.out.2]
     all_goals exact bodyPost_ret (qV rfl _ _ (w.heap.size + 1) (w.heap.size + 2) 34 41 _ _ (0, 0) (0, 0) _ _ rfl HF.out.1 underlying34 rfl zH rfl HF.out.2.1 underlying41 rfl zM) rfl ⟨_, _, _, rfl, HF.out.2.2.1, HF.out.2.2.2.1, HF.out.2.2.2.2⟩
   | false =>
    have hR2 : Hid (R = if qo (some l) qD = true then curP (some l) else (⟨0, 0, 0, 0, 0, []⟩, none)) := Lh (by rw [hR.out, <- hs3.out]; rfl)
    clear hR hs3 HSp
    obtain ⟨s4, hs4⟩ : ∃ b, Hid (b = qo (some l) qD) := ⟨_, Lh rfl⟩
    obtain ⟨A', n', c', bad', c0, c1, HN0⟩ := CS.nx_ hX hB qD
    have HN := Lh HN0
    clear HN0
    rw [<- hs4.out] at HN
    go_upto_if 88 with (go_at_call 11; refine HN.out.mono ?_; rintro e w1 ⟨rfl, hY⟩)
    refine qc (CS w B (some l) ⟨0, 0, 0, 0, 0, []⟩ none 0) hY ?_
    clear hY hX HN c0 c1
    intro X hX
    cases s4 with
    | true =>
     have HR2 : Hid (R = curP (some l)) := Lh (by rw [hR2.out, <- hs4.out]; rfl)
     clear hR2 hs4
     obtain ⟨x, hx⟩ : ∃ x, Hid (x = qU (((some l).bind (skO qD)).bind (skO qu))) := ⟨_, Lh rfl⟩
     obtain ⟨y, hy⟩ : ∃ y, Hid (y = qU (x.2.bind (skO qB))) := ⟨_, Lh rfl⟩
     have HR3 : Hid (R = if qo y.2 qH = true then (⟨4, x.1 - 1, y.1 - 1, 1, 0, []⟩, y.2.bind (skO qH)) else (⟨4, x.1 - 1, y.1 - 1, 0, 0, []⟩, y.2.bind (skO zo))) := Lh (by rw [HR2.out, hy.out, hx.out]; rfl)
     clear HR2
     have hxr : -999999999 <= x.1 /\ x.1 <= 999999999 := by rw [hx.out]; exact jA _
     have hyr : -999999999 <= y.1 /\ y.1 <= 999999999 := by rw [hy.out]; exact jA _
     have e1 : IntKind.i64.wrap (x.1 - 1) = x.1 - 1 := by rw [IntKind.wrap_i64]; omega
     have e2 : IntKind.i64.wrap (y.1 - 1) = y.1 - 1 := by rw [IntKind.wrap_i64]; omega
     obtain ⟨A', n', c', l', bad', hr', hW, R1, R2, R3, R4, tx, hO⟩ := id hX
     obtain ⟨c0, c1, f0, f1⟩ := qm R1
     obtain ⟨k0, k1, k2, k3, k4, k5, p0, p1, p2, p3, p4, p5⟩ := qr R4
     dsimp only at k0 k1 k2 k3 k4 k5
     go_upto_region 26 with fail
     refine qc (CS w B (some l) ⟨4, 0, 0, 0, 0, []⟩ none 0) (hX.set_ hB 0 4 (by decide)) ?_
     clear hX
     clear c0 c1 f0 f1 k0 k1 k2 k3 k4 k5 p0 p1 p2 p3 p4 p5 hr' hW R1 R2 R3 R4 tx hO
     intro X hX
     obtain ⟨A', n', c', bad', c0, c1, HA0⟩ := CS.af2_ hX hB qD qu 1 (by decide) hx
     have HA := Lh HA0
     clear HA0
     go_upto_region 27 with (go_at_call 25; refine HA.out.mono ?_; rintro e w1 ⟨A1, n1, cc1, qim, v1, rfl, d0, d1, f0, f1, k0, p0, hY⟩)
     refine qc (CS w B x.2 ⟨4, x.1, 0, 0, 0, []⟩ none 0) hY ?_
     clear hY hX HA c0 c1 d0 d1 f0 f1 k0 p0
     intro X hX
     obtain ⟨A', n', c', bad', c0, c1, HA0⟩ := CS.af_ hX hB qB 2 (by decide) hy
     have HA := Lh HA0
     clear HA0
     go_upto_region 28 with (go_at_call 25; refine HA.out.mono ?_; rintro e w1 ⟨A1, n1, cc1, qim, v1, rfl, d0, d1, f0, f1, k0, p0, hY⟩)
     refine qc (CS w B y.2 ⟨4, x.1, y.1, 0, 0, []⟩ none 0) hY ?_
     clear hY hX HA c0 c1 d0 d1 f0 f1 k0 p0
     intro X hX
     obtain ⟨A', n', c', l', bad', hr', hW, R1, R2, R3, R4, tx, hO⟩ := id hX
     obtain ⟨c0, c1, f0, f1⟩ := qm R1
     obtain ⟨k0, k1, k2, k3, k4, k5, p0, p1, p2, p3, p4, p5⟩ := qr R4
     dsimp only at k0 k1 k2 k3 k4 k5
     go_upto_region 29 with fail
     refine qc (CS w B y.2 ⟨4, x.1 - 1, y.1 - 1, 0, 0, []⟩ none 0) (((hX.set_ hB 1 (x.1 - 1) (by decide)).set_ hB 2 (y.1 - 1) (by decide))) ?_
     clear hX
     clear c0 c1 f0 f1 k0 k1 k2 k3 k4 k5 p0 p1 p2 p3 p4 p5 hr' hW R1 R2 R3 R4 tx hO
     intro X hX
     clear hx hy hxr hyr
     obtain ⟨xn, xr⟩ := x
     obtain ⟨yn, yr⟩ := y
     simp only at e1 e2 hX HR3
     generalize xn - 1 = Row at *
     generalize yn - 1 = Col at *
     obtain ⟨s5, hs5⟩ : ∃ b, Hid (b = qo yr qH) := ⟨_, Lh rfl⟩
     have HR2 := HR3
     clear HR3
     obtain ⟨A', n', c', bad', c0, c1, HN0⟩ := CS.nx_ hX hB qH
     have HN := Lh HN0
     clear HN0
     rw [<- hs5.out] at HN
     go_upto_if 115 with (go_at_call 11; refine HN.out.mono ?_; rintro e w1 ⟨rfl, hY⟩)
     refine qc (CS w B yr ⟨4, Row, Col, 0, 0, []⟩ none 0) hY ?_
     clear hY hX HN c0 c1
     intro X hX
     cases s5 with
     | true =>
      have HR3 : Hid (R.1 = ⟨4, Row, Col, 1, 0, []⟩ /\ R.2 = yr.bind (skO qH)) := Lh (by rw [HR2.out, <- hs5.out]; exact ⟨rfl, rfl⟩)
      clear HR2 hs5
      obtain ⟨A', n', c', l', bad', hr', hW, R1, R2, R3, R4, tx, hO⟩ := id hX
      obtain ⟨c0, c1, f0, f1⟩ := qm R1
      obtain ⟨k0, k1, k2, k3, k4, k5, p0, p1, p2, p3, p4, p5⟩ := qr R4
      dsimp only at k0 k1 k2 k3 k4 k5
      go_upto_region 31 with fail
      refine qc (CS w B yr ⟨4, Row, Col, 1, 0, []⟩ none 0) (hX.set_ hB 3 1 (by decide)) ?_
      clear hX
      clear c0 c1 f0 f1 k0 k1 k2 k3 k4 k5 p0 p1 p2 p3 p4 p5 hr' hW R1 R2 R3 R4 tx hO
      intro X hX
      obtain ⟨A', n', c', l', bad', hr', hW, R1, R2, R3, R4, tx, hO⟩ := id hX
      obtain ⟨c0, c1, f0, f1⟩ := qm R1
      obtain ⟨k0, k1, k2, k3, k4, k5, p0, p1, p2, p3, p4, p5⟩ := qr R4
      dsimp only at k0 k1 k2 k3 k4 k5
      obtain ⟨o0, o1, o2, o3, o4, o5, q0, q1, q2, q3, q4, q5⟩ := qr R2
      obtain ⟨m0, m1, v0, v1⟩ := qm R3
      dsimp only at o0 o1 o2 o3 o4 o5
      have HK := Lh (qdr yr (.agg #[.slice A' n' c', .bool bad']) qH B X.drew ⟨A', n', c', l', bad', rfl, hW.below (Below.refl _ _).drew, hr'⟩ (Nat.le_trans hB tx.drew.size))
      have z0 := R1.lt
      have z1 := R2.lt
      have z2 := R3.lt
      have z3 := R4.lt
      go_region_law (go_simp; go_at_call 26; refine HK.out.mono ?_; rintro e w1 ⟨A1, n1, cc1, l1, qim, rfl, hW1, hr1, hb1⟩; have hY := (hX.drew hB).below hB hb1; clear o0 o1 o2 o3 o4 o5 q0 q1 q2 q3 q4 q5 m0 m1 v0 v1; clear c0 c1 f0 f1 k0 k1 k2 k3 k4 k5 p0 p1 p2 p3 p4 p5 hr' hW R1 R2 R3 R4 tx hO; (obtain ⟨A', n', c', l', bad', hr', hW, R1, R2, R3, R4, tx, hO⟩ := id hY; obtain ⟨c0, c1, f0, f1⟩ := qm R1; obtain ⟨k0, k1, k2, k3, k4, k5, p0, p1, p2, p3, p4, p5⟩ := qr R4; dsimp only at k0 k1 k2 k3 k4 k5); (obtain ⟨o0, o1, o2, o3, o4, o5, q0, q1, q2, q3, q4, q5⟩ := qr R2; obtain ⟨m0, m1, v0, v1⟩ := qm R3; dsimp only at o0 o1 o2 o3 o4 o5))
      all_goals go_wp2
      all_goals have HF := Lh (fin_ (c := ⟨4, Row, Col, 1, 0, []⟩) hB hr1 hW1 R2 R3 tx hO)
      all_goals rw [HR3.out.1, HR3.out.2]
      all_goals exact bodyPost_ret (qV rfl _ _ (w.heap.size + 1) (w.heap.size + 2) 34 41 _ _ (0, 0) (0, 0) _ _ rfl HF.out.1 underlying34 rfl zH rfl HF.out.2.1 underlying41 rfl zM) rfl ⟨_, _, _, rfl, HF.out.2.2.1, HF.out.2.2.2.1, HF.out.2.2.2.2⟩
     | false =>
      have HR3 : Hid (R.1 = ⟨4, Row, Col, 0, 0, []⟩ /\ R.2 = yr.bind (skO zo)) := Lh (by rw [HR2.out, <- hs5.out]; exact ⟨rfl, rfl⟩)
      clear HR2 hs5
      go_upto_region 32 with fail
      obtain ⟨A', n', c', l', bad', hr', hW, R1, R2, R3, R4, tx, hO⟩ := id hX
      obtain ⟨c0, c1, f0, f1⟩ := qm R1
      obtain ⟨k0, k1, k2, k3, k4, k5, p0, p1, p2, p3, p4, p5⟩ := qr R4
      dsimp only at k0 k1 k2 k3 k4 k5
      obtain ⟨o0, o1, o2, o3, o4, o5, q0, q1, q2, q3, q4, q5⟩ := qr R2
      obtain ⟨m0, m1, v0, v1⟩ := qm R3
      dsimp only at o0 o1 o2 o3 o4 o5
      have HK := Lh (qdr yr (.agg #[.slice A' n' c', .bool bad']) zo B X.drew ⟨A', n', c', l', bad', rfl, hW.below (Below.refl _ _).drew, hr'⟩ (Nat.le_trans hB tx.drew.size))
      have z0 := R1.lt
      have z1 := R2.lt
      have z2 := R3.lt
      have z3 := R4.lt
      go_region_law (go_simp; go_at_call 26; refine HK.out.mono ?_; rintro e w1 ⟨A1, n1, cc1, l1, qim, rfl, hW1, hr1, hb1⟩; have hY := (hX.drew hB).below hB hb1; clear o0 o1 o2 o3 o4 o5 q0 q1 q2 q3 q4 q5 m0 m1 v0 v1; clear c0 c1 f0 f1 k0 k1 k2 k3 k4 k5 p0 p1 p2 p3 p4 p5 hr' hW R1 R2 R3 R4 tx hO; (obtain ⟨A', n', c', l', bad', hr', hW, R1, R2, R3, R4, tx, hO⟩ := id hY; obtain ⟨c0, c1, f0, f1⟩ := qm R1; obtain ⟨k0, k1, k2, k3, k4, k5, p0, p1, p2, p3, p4, p5⟩ := qr R4; dsimp only at k0 k1 k2 k3 k4 k5); (obtain ⟨o0, o1, o2, o3, o4, o5, q0, q1, q2, q3, q4, q5⟩ := qr R2; obtain ⟨m0, m1, v0, v1⟩ := qm R3; dsimp only at o0 o1 o2 o3 o4 o5))
      all_goals go_wp2
      all_goals have HF := Lh (fin_ (c := ⟨4, Row, Col, 0, 0, []⟩) hB hr1 hW1 R2 R3 tx hO)
      all_goals rw [HR3.out.1, HR3.out.2]
      all_goals exact bodyPost_ret (qV rfl _ _ (w.heap.size + 1) (w.heap.size + 2) 34 41 _ _ (0, 0) (0, 0) _ _ rfl HF.out.1 underlying34 rfl zH rfl HF.out.2.1 underlying41 rfl zM) rfl ⟨_, _, _, rfl, HF.out.2.2.1, HF.out.2.2.2.1, HF.out.2.2.2.2⟩
    | false =>
     have HR3 : Hid (R.1 = ⟨0, 0, 0, 0, 0, []⟩ /\ R.2 = none) := Lh (by rw [hR2.out, <- hs4.out]; exact ⟨rfl, rfl⟩)
     clear hR2 hs4
     obtain ⟨A', n', c', l', bad', hr', hW, R1, R2, R3, R4, tx, hO⟩ := id hX
     obtain ⟨c0, c1, f0, f1⟩ := qm R1
     obtain ⟨k0, k1, k2, k3, k4, k5, p0, p1, p2, p3, p4, p5⟩ := qr R4
     dsimp only at k0 k1 k2 k3 k4 k5
     obtain ⟨o0, o1, o2, o3, o4, o5, q0, q1, q2, q3, q4, q5⟩ := qr R2
     obtain ⟨m0, m1, v0, v1⟩ := qm R3
     dsimp only at o0 o1 o2 o3 o4 o5
     go_wp2
     have HF := Lh (fin_ (c := ⟨0, 0, 0, 0, 0, []⟩) (r := none) (bad := true) (l := []) hB rfl (WdR.nil X B) R2 R3 tx hO)
     all_goals rw [HR3.out.1, HR3.out.2]
     all_goals exact bodyPost_ret (qV rfl _ _ (w.heap.size + 1) (w.heap.size + 2) 34 41 _ _ (0, 0) (0, 0) _ _ rfl HF.out.1 underlying34 rfl zH rfl HF.out.2.1 underlying41 rfl zM) rfl ⟨_, _, _, rfl, HF.out.2.2.1, HF.out.2.2.2.1, HF.out.2.2.2.2⟩
end Go.Proofs.YtlndbiamiioakaaGreatDoor
