/- Joined: Vd4. -/
import Derived.Test.YtlndbiamiioakaaGreatDoorVBX
set_option linter.unusedVariables false
set_option linter.unusedSimpArgs false
set_option linter.unnecessarySimpa false
set_option maxHeartbeats 8000000
namespace Go.Proofs.YtlndbiamiioakaaGreatDoor
open Go.Proofs.Tryz Go.RowKit
set_option maxRecDepth 20000
def sizV (r : Option (List ByteArray)) : Chg × Option (List ByteArray) :=
 (⟨1, (zc (r.bind (skO vc))).1, (zc ((zc (r.bind (skO vc))).2.bind (skO jk))).1, 0, 0, []⟩, (zc ((zc (r.bind (skO vc))).2.bind (skO jk))).2.bind (skO vn))
def upV (X Y : Int) (r : Option (List ByteArray)) : Chg × Option (List ByteArray) :=
 if qo r bUp = true then (⟨2, X, 0, (zc (r.bind (skO bUp))).1, Y, []⟩, (zc (r.bind (skO bUp))).2) else (⟨2, X, 0, -(zc (r.bind (skO zT))).1, Y, []⟩, (zc (r.bind (skO zT))).2)
def scrV (r : Option (List ByteArray)) : Chg × Option (List ByteArray) :=
 upV ((zc ((r.bind (skO qE)).bind (skO qu))).1 - 1) (zc ((zc ((r.bind (skO qE)).bind (skO qu))).2.bind (skO bTo))).1 (zc ((zc ((r.bind (skO qE)).bind (skO qu))).2.bind (skO bTo))).2
def delV (X Y : Int) (r : Option (List ByteArray)) : Chg × Option (List ByteArray) :=
 if qo r qW = true then (if (zc (r.bind (skO qW))).1 = 0 then (⟨3, X, Y, 0, 0, []⟩, none) else (⟨3, X, Y, (zc (r.bind (skO qW))).1, 0, (j6 (zc (r.bind (skO qW))).2).1⟩, (j6 (zc (r.bind (skO qW))).2).2)) else (⟨3, X, Y, 0, 0, (j6 r).1⟩, (j6 r).2)
def linV (r : Option (List ByteArray)) : Chg × Option (List ByteArray) :=
 delV ((zc (r.bind (skO qu))).1 - 1) ((zc ((zc (r.bind (skO qu))).2.bind (skO qB))).1 - 1) (zc ((zc (r.bind (skO qu))).2.bind (skO qB))).2
def visV (X Y : Int) (r : Option (List ByteArray)) : Chg × Option (List ByteArray) :=
 if qo r qH = true then (⟨4, X, Y, 1, 0, []⟩, r.bind (skO qH)) else (⟨4, X, Y, 0, 0, []⟩, r.bind (skO zo))
def curV (r : Option (List ByteArray)) : Chg × Option (List ByteArray) :=
 visV ((zc ((r.bind (skO qD)).bind (skO qu))).1 - 1) ((zc ((zc ((r.bind (skO qD)).bind (skO qu))).2.bind (skO qB))).1 - 1) (zc ((zc ((r.bind (skO qD)).bind (skO qu))).2.bind (skO qB))).2
def yi (r : Option (List ByteArray)) : Chg × Option (List ByteArray) :=
 if qo r vc = true then sizV r
 else if qo r qE = true then scrV r
 else if qo r qu = true then linV r
 else if qo r qD = true then curV r
 else (⟨0, 0, 0, 0, 0, []⟩, none)
theorem jX (q : Option (List ByteArray)) : 0 <= (zc q).1 /\ (zc q).1 <= 999999999 := by
 have h := jA q
 unfold qU at h
 unfold zc
 cases hq : q.bind jH with
 | none => exact ⟨Int.le_refl _, by decide⟩
 | some x =>
  obtain ⟨n, t⟩ := x
  rw [hq] at h
  dsimp only at h ⊢
  split
  ·exact ⟨Int.le_refl _, by decide⟩
  ·exact ⟨by show 0 <= n; omega, h.2⟩
def LenV (r : Option (List ByteArray)) : Prop := ∀ l, r = some l -> l.length <= 1000
theorem LenV.sk {r : Option (List ByteArray)} (h : LenV r) (s : ByteArray) : LenV (r.bind (skO s)) := by
 intro l hl
 cases r with
 | none => cases hl
 | some x =>
  cases x with
  | nil => cases hl
  | cons a t =>
   have := h _ rfl
   simp only [Option.bind_some, skO] at hl
   split at hl
   ·cases hl
    simp at this
    omega
   ·cases hl
theorem LenV.num {r : Option (List ByteArray)} (h : LenV r) : LenV (zc r).2 := by
 intro l hl
 cases r with
 | none => cases hl
 | some x =>
  have := h _ rfl
  unfold zc at hl
  simp only [Option.bind_some, jH] at hl
  cases hp : prefixL x with
  | none => rw [hp] at hl; cases hl
  | some y =>
   rw [hp] at hl
   simp only [Option.map_some] at hl
   split at hl
   ·cases hl
   ·cases hl
    rw [List.length_drop]
    omega
theorem qc5 {r : Option (List ByteArray)} {s : ByteArray} (h : qo r s = true) : r.bind (skO s) ≠ none := by
 cases r with
 | none => cases h
 | some l =>
  obtain ⟨_, t, _, ht⟩ := qbf (bad := false) h
  have ht' : (some l : Option (List ByteArray)).bind (skO s) = some t := ht
  rw [ht']
  exact fun e => by cases e
section
variable {w X : World} {B : Nat} {r : Option (List ByteArray)} {c : Chg}
theorem TS.num_ (hX : TS w B r c none 0 X) (hB : B <= w.heap.size) (ht : Tb w) (s : ByteArray) (i : Nat) (hi : i < 5) {x : Int × Option (List ByteArray)} (hx : Hid (x = zc (r.bind (skO s)))) :
  ∃ A' n' c' bad', X.cell? ⟨w.heap.size, 0, none⟩ = some (.slice A' n' c') /\ X.cell? ⟨w.heap.size, 1, none⟩ = some (.bool (!bad')) /\ Calls prog 19 #[.agg #[.slice A' n' c', .bool (!bad')], .string s] X fun e w1 => ∃ A1 n1 cc bad v, e = .returned (.tuple #[.int .i64 x.1, .agg #[.slice A1 n1 cc, .bool (!bad)]]) /\
   w1.cell? ⟨w.heap.size, 0, none⟩ = some (.slice A' n' c') /\ w1.cell? ⟨w.heap.size, 1, none⟩ = some (.bool (!bad')) /\ w1.frozen? ⟨w.heap.size, 0, none⟩ = false /\ w1.frozen? ⟨w.heap.size, 1, none⟩ = false /\ w1.cell? ⟨w.heap.size + 3, i, none⟩ = some (.int .i64 v) /\ w1.frozen? ⟨w.heap.size + 3, i, none⟩ = false /\
   TS w B x.2 (c.put i x.1) none 0 (((w1.setCell ⟨w.heap.size + 3, i, none⟩ (.int .i64 x.1)).setCell ⟨w.heap.size, 0, none⟩ (.slice A1 n1 cc)).setCell ⟨w.heap.size, 1, none⟩ (.bool (!bad))) := by
 obtain ⟨A', n', c', l', bad', hr', hW, R1, R2, R3, R4, tx, hO⟩ := id hX
 have h1 := qm R1
 refine ⟨A', n', c', bad', h1.1, h1.2.1, (qbW r _ s B X ⟨A', n', c', l', bad', rfl, hW, hr'⟩ (Nat.le_trans hB tx.size) (ht.below tx)).mono ?_⟩
 rw [<- hx.out]
 rintro e w1 ⟨A1, n1, cc1, l1, qim, rfl, hW1, hr1, hb1⟩
 have hY := hX.below hB hb1
 have h2 := qm (R1.below hb1 R1.lt)
 have K := R4.below hb1 R4.lt
 have h3 := qr K
 obtain ⟨v, hv⟩ : ∃ v, w1.cell? ⟨w.heap.size + 3, i, none⟩ = some (.int .i64 v) := by
  match i, hi with
  | 0, _ => exact ⟨_, h3.1⟩
  | 1, _ => exact ⟨_, h3.2.1⟩
  | 2, _ => exact ⟨_, h3.2.2.1⟩
  | 3, _ => exact ⟨_, h3.2.2.2.1⟩
  | 4, _ => exact ⟨_, h3.2.2.2.2.1⟩
 exact ⟨A1, n1, cc1, qim, v, rfl, h2.1, h2.2.1, h2.2.2.1, h2.2.2.2, hv, K.frozen i, (hY.set_ hB i x.1 hi).turn hB (hW1.below ((Below.refl B w1).setCell (p := ⟨w.heap.size + 3, i, none⟩) (by show B <= w.heap.size + 3; omega) (.int .i64 x.1))) hr1⟩
theorem TS.is_ (hX : TS w B r c none 0 X) (hB : B <= w.heap.size) (s : ByteArray) :
  ∃ A' n' c' bad', X.cell? ⟨w.heap.size, 0, none⟩ = some (.slice A' n' c') /\ X.cell? ⟨w.heap.size, 1, none⟩ = some (.bool (!bad')) /\ Calls prog 15 #[.agg #[.slice A' n' c', .bool (!bad')], .string s] X fun e w1 => e = .returned (.bool (qo r s)) /\ TS w B r c none 0 w1 := by
 obtain ⟨A', n', c', l', bad', hr', hW, R1, R2, R3, R4, tx, hO⟩ := id hX
 have h1 := qm R1
 refine ⟨A', n', c', bad', h1.1, h1.2.1, (tis_ r _ s B X ⟨A', n', c', l', bad', rfl, hW, hr'⟩ (Nat.le_trans hB tx.size)).mono ?_⟩
 rintro e w1 ⟨rfl, hb1⟩
 exact ⟨rfl, hX.below hB hb1⟩
theorem TS.sk_ (hX : TS w B r c none 0 X) (hB : B <= w.heap.size) (s : ByteArray) :
  ∃ A' n' c' bad', X.cell? ⟨w.heap.size, 0, none⟩ = some (.slice A' n' c') /\ X.cell? ⟨w.heap.size, 1, none⟩ = some (.bool (!bad')) /\ Calls prog 18 #[.agg #[.slice A' n' c', .bool (!bad')], .string s] X fun e w1 => ∃ A1 n1 cc bad, e = .returned (.agg #[.slice A1 n1 cc, .bool (!bad)]) /\
   w1.cell? ⟨w.heap.size, 0, none⟩ = some (.slice A' n' c') /\ w1.cell? ⟨w.heap.size, 1, none⟩ = some (.bool (!bad')) /\ w1.frozen? ⟨w.heap.size, 0, none⟩ = false /\ w1.frozen? ⟨w.heap.size, 1, none⟩ = false /\
   TS w B (r.bind (skO s)) c none 0 ((w1.setCell ⟨w.heap.size, 0, none⟩ (.slice A1 n1 cc)).setCell ⟨w.heap.size, 1, none⟩ (.bool (!bad))) := by
 obtain ⟨A', n', c', l', bad', hr', hW, R1, R2, R3, R4, tx, hO⟩ := id hX
 have h1 := qm R1
 refine ⟨A', n', c', bad', h1.1, h1.2.1, (kU r _ s B X ⟨A', n', c', l', bad', rfl, hW, hr'⟩ (Nat.le_trans hB tx.size)).mono ?_⟩
 rintro e w1 ⟨A1, n1, cc1, l1, qim, rfl, hW1, hr1, hb1⟩
 have h2 := qm (R1.below hb1 R1.lt)
 exact ⟨A1, n1, cc1, qim, rfl, h2.1, h2.2.1, h2.2.2.1, h2.2.2.2, (hX.below hB hb1).turn hB hW1 hr1⟩
end
theorem qiO (l : List ByteArray) (A : Option Addr) (n c : Nat) (w : World) (B : Nat) (hW : WdR w B l A n c) (hB : B <= w.heap.size) (hl : l.length <= 1000) (ht : Tb w) (h1 : qo (some l) vc = true) :
  Calls prog 16 #[.agg #[.slice A n c, .bool true]] w (qiq w B (sizV (some l)).1 (sizV (some l)).2) := by
 obtain ⟨R, hR⟩ : ∃ x, Hid (x = (sizV (some l))) := ⟨_, Lh rfl⟩
 rw [<- hR.out]
 have HT := Lh ht
 have HL : Hid (LenV (some l)) := Lh fun _ e => by cases e; exact hl
 have hX := TS.start hW hB
 have hs1 : Hid (true = qo (some l) vc) := Lh h1.symm
 clear hW hl ht h1
 go_enter func16, ntmps16
 go_upto_region 3 with fail
 refine qc (TS w B (some l) ⟨0, 0, 0, 0, 0, []⟩ none 0) hX ?_
 clear hX
 intro X hX
 obtain ⟨A', n', c', bad', c0, c1, HN⟩ := TS.is_ hX hB vc
 rw [<- hs1.out] at HN
 replace HN := Lh HN
 go_upto_if 7 with (go_at_call 15; refine HN.out.mono ?_; rintro e w1 ⟨rfl, hY⟩)
 refine qc (TS w B (some l) ⟨0, 0, 0, 0, 0, []⟩ none 0) hY ?_
 clear hY hX HN c0 c1
 intro X hX
 obtain ⟨x, hx⟩ : ∃ x, Hid (x = zc ((some l).bind (skO vc))) := ⟨_, Lh rfl⟩
 obtain ⟨y, hy⟩ : ∃ y, Hid (y = zc (x.2.bind (skO jk))) := ⟨_, Lh rfl⟩
 have HR3 : Hid (R.1 = ⟨1, x.1, y.1, 0, 0, []⟩ /\ R.2 = y.2.bind (skO vn)) := Lh (by rw [hR.out, sizV, hy.out, hx.out]; exact ⟨rfl, rfl⟩)
 clear hR hs1 HL
 obtain ⟨A', n', c', l', bad', hr', hW, R1, R2, R3, R4, tx, hO⟩ := id hX
 obtain ⟨c0, c1, f0, f1⟩ := qm R1
 obtain ⟨k0, k1, k2, k3, k4, k5, p0, p1, p2, p3, p4, p5⟩ := qr R4
 dsimp only at k0 k1 k2 k3 k4 k5
 go_upto_region 5 with fail
 refine qc (TS w B (some l) ⟨1, 0, 0, 0, 0, []⟩ none 0) (hX.set_ hB 0 1 (by decide)) ?_
 clear hX
 clear c0 c1 f0 f1 k0 k1 k2 k3 k4 k5 p0 p1 p2 p3 p4 p5 hr' hW R1 R2 R3 R4 tx hO
 intro X hX
 obtain ⟨A', n', c', bad', c0, c1, HA⟩ := TS.num_ hX hB HT.out vc 1 (by decide) hx
 replace HA := Lh HA
 go_upto_region 6 with (go_at_call 19; refine HA.out.mono ?_; rintro e w1 ⟨A1, n1, cc1, qim, v1, rfl, d0, d1, f0, f1, k0, p0, hY⟩)
 refine qc (TS w B x.2 ⟨1, x.1, 0, 0, 0, []⟩ none 0) hY ?_
 clear hY hX HA c0 c1 d0 d1 f0 f1 k0 p0
 intro X hX
 obtain ⟨A', n', c', bad', c0, c1, HA⟩ := TS.num_ hX hB HT.out jk 2 (by decide) hy
 replace HA := Lh HA
 go_upto_region 7 with (go_at_call 19; refine HA.out.mono ?_; rintro e w1 ⟨A1, n1, cc1, qim, v1, rfl, d0, d1, f0, f1, k0, p0, hY⟩)
 refine qc (TS w B y.2 ⟨1, x.1, y.1, 0, 0, []⟩ none 0) hY ?_
 clear hY hX HA c0 c1 d0 d1 f0 f1 k0 p0
 intro X hX
 obtain ⟨A', n', c', bad', c0, c1, HK⟩ := TS.sk_ hX hB vn
 replace HK := Lh HK
 go_upto_region 41 with (go_at_call 18; refine HK.out.mono ?_; rintro e w1 ⟨A1, n1, cc1, qim, rfl, d0, d1, f0, f1, hY⟩)
 refine qc (TS w B ((y.2).bind (skO vn)) ⟨1, x.1, y.1, 0, 0, []⟩ none 0) hY ?_
 clear hY hX HK c0 c1 d0 d1 f0 f1
 intro X hX
 obtain ⟨A', n', c', l', bad', hr', hW, R1, R2, R3, R4, tx, hO⟩ := id hX
 obtain ⟨c0, c1, f0, f1⟩ := qm R1
 obtain ⟨k0, k1, k2, k3, k4, k5, p0, p1, p2, p3, p4, p5⟩ := qr R4
 dsimp only at k0 k1 k2 k3 k4 k5
 obtain ⟨o0, o1, o2, o3, o4, o5, q0, q1, q2, q3, q4, q5⟩ := qr R2
 obtain ⟨m0, m1, v0, v1⟩ := qm R3
 dsimp only at o0 o1 o2 o3 o4 o5
 have HF := Lh (vT (c := ⟨1, x.1, y.1, 0, 0, []⟩) hB hr' hW R2 R3 tx hO)
 go_region_law (fail)
 all_goals go_wp2
 all_goals rw [HR3.out.1, HR3.out.2]
 all_goals exact bodyPost_ret (qV rfl _ _ (w.heap.size + 1) (w.heap.size + 2) 34 49 _ _ (0, 0) (0, 0) _ _ rfl HF.out.1 underlying34 rfl zH rfl HF.out.2.1 underlying49 rfl q7) rfl ⟨_, _, _, _, _, _, bad', rfl, hr', HF.out.2.2.1, HF.out.2.2.2.1, HF.out.2.2.2.2⟩
theorem qiM (l : List ByteArray) (A : Option Addr) (n c : Nat) (w : World) (B : Nat) (hW : WdR w B l A n c) (hB : B <= w.heap.size) (hl : l.length <= 1000) (ht : Tb w) (h1 : qo (some l) vc = false) (h2 : qo (some l) qE = true) :
  Calls prog 16 #[.agg #[.slice A n c, .bool true]] w (qiq w B (scrV (some l)).1 (scrV (some l)).2) := by
 obtain ⟨R, hR⟩ : ∃ x, Hid (x = (scrV (some l))) := ⟨_, Lh rfl⟩
 rw [<- hR.out]
 have HT := Lh ht
 have HL : Hid (LenV (some l)) := Lh fun _ e => by cases e; exact hl
 have hX := TS.start hW hB
 have hs1 : Hid (false = qo (some l) vc) := Lh h1.symm
 have hs2 : Hid (true = qo (some l) qE) := Lh h2.symm
 clear hW hl ht h1 h2
 go_enter func16, ntmps16
 go_upto_region 3 with fail
 refine qc (TS w B (some l) ⟨0, 0, 0, 0, 0, []⟩ none 0) hX ?_
 clear hX
 intro X hX
 obtain ⟨A', n', c', bad', c0, c1, HN⟩ := TS.is_ hX hB vc
 rw [<- hs1.out] at HN
 replace HN := Lh HN
 go_upto_if 7 with (go_at_call 15; refine HN.out.mono ?_; rintro e w1 ⟨rfl, hY⟩)
 refine qc (TS w B (some l) ⟨0, 0, 0, 0, 0, []⟩ none 0) hY ?_
 clear hY hX HN c0 c1
 intro X hX
 obtain ⟨A', n', c', bad', c0, c1, HN⟩ := TS.is_ hX hB qE
 rw [<- hs2.out] at HN
 replace HN := Lh HN
 go_upto_if 25 with (go_at_call 15; refine HN.out.mono ?_; rintro e w1 ⟨rfl, hY⟩)
 refine qc (TS w B (some l) ⟨0, 0, 0, 0, 0, []⟩ none 0) hY ?_
 clear hY hX HN c0 c1
 intro X hX
 obtain ⟨x, hx⟩ : ∃ x, Hid (x = zc (((some l).bind (skO qE)).bind (skO qu))) := ⟨_, Lh rfl⟩
 obtain ⟨y, hy⟩ : ∃ y, Hid (y = zc (x.2.bind (skO bTo))) := ⟨_, Lh rfl⟩
 have HR2 : Hid (R = upV (x.1 - 1) y.1 y.2) := Lh (by rw [hR.out, hy.out, hx.out]; rfl)
 have hxr : 0 <= x.1 /\ x.1 <= 999999999 := by rw [hx.out]; exact jX _
 have e1 : IntKind.i64.wrap (x.1 - 1) = x.1 - 1 := by rw [IntKind.wrap_i64]; omega
 clear hR hs1 hs2 HL
 obtain ⟨A', n', c', l', bad', hr', hW, R1, R2, R3, R4, tx, hO⟩ := id hX
 obtain ⟨c0, c1, f0, f1⟩ := qm R1
 obtain ⟨k0, k1, k2, k3, k4, k5, p0, p1, p2, p3, p4, p5⟩ := qr R4
 dsimp only at k0 k1 k2 k3 k4 k5
 go_upto_region 10 with fail
 refine qc (TS w B (some l) ⟨2, 0, 0, 0, 0, []⟩ none 0) (hX.set_ hB 0 2 (by decide)) ?_
 clear hX
 clear c0 c1 f0 f1 k0 k1 k2 k3 k4 k5 p0 p1 p2 p3 p4 p5 hr' hW R1 R2 R3 R4 tx hO
 intro X hX
 obtain ⟨A', n', c', bad', c0, c1, HK⟩ := TS.sk_ hX hB qE
 replace HK := Lh HK
 go_upto_region 11 with (go_at_call 18; refine HK.out.mono ?_; rintro e w1 ⟨A1, n1, cc1, qim, rfl, d0, d1, f0, f1, hY⟩)
 refine qc (TS w B (((some l)).bind (skO qE)) ⟨2, 0, 0, 0, 0, []⟩ none 0) hY ?_
 clear hY hX HK c0 c1 d0 d1 f0 f1
 intro X hX
 obtain ⟨A', n', c', bad', c0, c1, HA⟩ := TS.num_ hX hB HT.out qu 1 (by decide) hx
 replace HA := Lh HA
 go_upto_region 12 with (go_at_call 19; refine HA.out.mono ?_; rintro e w1 ⟨A1, n1, cc1, qim, v1, rfl, d0, d1, f0, f1, k0, p0, hY⟩)
 refine qc (TS w B x.2 ⟨2, x.1, 0, 0, 0, []⟩ none 0) hY ?_
 clear hY hX HA c0 c1 d0 d1 f0 f1 k0 p0
 intro X hX
 obtain ⟨A', n', c', l', bad', hr', hW, R1, R2, R3, R4, tx, hO⟩ := id hX
 obtain ⟨c0, c1, f0, f1⟩ := qm R1
 obtain ⟨k0, k1, k2, k3, k4, k5, p0, p1, p2, p3, p4, p5⟩ := qr R4
 dsimp only at k0 k1 k2 k3 k4 k5
 go_upto_region 13 with fail
 refine qc (TS w B x.2 ⟨2, x.1 - 1, 0, 0, 0, []⟩ none 0) (hX.set_ hB 1 (x.1 - 1) (by decide)) ?_
 clear hX
 clear c0 c1 f0 f1 k0 k1 k2 k3 k4 k5 p0 p1 p2 p3 p4 p5 hr' hW R1 R2 R3 R4 tx hO
 intro X hX
 obtain ⟨A', n', c', bad', c0, c1, HA⟩ := TS.num_ hX hB HT.out bTo 4 (by decide) hy
 replace HA := Lh HA
 go_upto_region 14 with (go_at_call 19; refine HA.out.mono ?_; rintro e w1 ⟨A1, n1, cc1, qim, v1, rfl, d0, d1, f0, f1, k0, p0, hY⟩)
 refine qc (TS w B y.2 ⟨2, x.1 - 1, 0, 0, y.1, []⟩ none 0) hY ?_
 clear hY hX HA c0 c1 d0 d1 f0 f1 k0 p0
 intro X hX
 clear hx hy hxr e1
 obtain ⟨xn, xr⟩ := x
 obtain ⟨yn, yr⟩ := y
 simp only at hX HR2
 generalize xn - 1 = Row at *
 obtain ⟨s3, hs3⟩ : ∃ b, Hid (b = qo yr bUp) := ⟨_, Lh rfl⟩
 obtain ⟨A', n', c', bad', c0, c1, HN⟩ := TS.is_ hX hB bUp
 rw [<- hs3.out] at HN
 replace HN := Lh HN
 go_upto_if 48 with (go_at_call 15; refine HN.out.mono ?_; rintro e w1 ⟨rfl, hY⟩)
 refine qc (TS w B yr ⟨2, Row, 0, 0, yn, []⟩ none 0) hY ?_
 clear hY hX HN c0 c1
 intro X hX
 cases s3 with
 | true =>
  obtain ⟨u, hu⟩ : ∃ u, Hid (u = zc (yr.bind (skO bUp))) := ⟨_, Lh rfl⟩
  have HR3 : Hid (R.1 = ⟨2, Row, 0, u.1, yn, []⟩ /\ R.2 = u.2) := Lh (by rw [HR2.out, upV, <- hs3.out, hu.out]; exact ⟨rfl, rfl⟩)
  clear HR2 hs3
  go_upto_region 15 with fail
  obtain ⟨A', n', c', bad', c0, c1, HA⟩ := TS.num_ hX hB HT.out bUp 3 (by decide) hu
  replace HA := Lh HA
  go_upto_region 41 with (go_at_call 19; refine HA.out.mono ?_; rintro e w1 ⟨A1, n1, cc1, qim, v1, rfl, d0, d1, f0, f1, k0, p0, hY⟩)
  refine qc (TS w B u.2 ⟨2, Row, 0, u.1, yn, []⟩ none 0) hY ?_
  clear hY hX HA c0 c1 d0 d1 f0 f1 k0 p0
  intro X hX
  obtain ⟨A', n', c', l', bad', hr', hW, R1, R2, R3, R4, tx, hO⟩ := id hX
  obtain ⟨c0, c1, f0, f1⟩ := qm R1
  obtain ⟨k0, k1, k2, k3, k4, k5, p0, p1, p2, p3, p4, p5⟩ := qr R4
  dsimp only at k0 k1 k2 k3 k4 k5
  obtain ⟨o0, o1, o2, o3, o4, o5, q0, q1, q2, q3, q4, q5⟩ := qr R2
  obtain ⟨m0, m1, v0, v1⟩ := qm R3
  dsimp only at o0 o1 o2 o3 o4 o5
  have HF := Lh (vT (c := ⟨2, Row, 0, u.1, yn, []⟩) hB hr' hW R2 R3 tx hO)
  go_region_law (fail)
  all_goals go_wp2
  all_goals rw [HR3.out.1, HR3.out.2]
  all_goals exact bodyPost_ret (qV rfl _ _ (w.heap.size + 1) (w.heap.size + 2) 34 49 _ _ (0, 0) (0, 0) _ _ rfl HF.out.1 underlying34 rfl zH rfl HF.out.2.1 underlying49 rfl q7) rfl ⟨_, _, _, _, _, _, bad', rfl, hr', HF.out.2.2.1, HF.out.2.2.2.1, HF.out.2.2.2.2⟩
 | false =>
  obtain ⟨u, hu⟩ : ∃ u, Hid (u = zc (yr.bind (skO zT))) := ⟨_, Lh rfl⟩
  have HR3 : Hid (R.1 = ⟨2, Row, 0, -u.1, yn, []⟩ /\ R.2 = u.2) := Lh (by rw [HR2.out, upV, <- hs3.out, hu.out]; exact ⟨rfl, rfl⟩)
  have hur : 0 <= u.1 /\ u.1 <= 999999999 := by rw [hu.out]; exact jX _
  have e2 : IntKind.i64.wrap (-u.1) = -u.1 := by rw [IntKind.wrap_i64]; omega
  clear HR2 hs3
  go_upto_region 16 with fail
  obtain ⟨A', n', c', bad', c0, c1, HA⟩ := TS.num_ hX hB HT.out zT 3 (by decide) hu
  replace HA := Lh HA
  go_upto_region 17 with (go_at_call 19; refine HA.out.mono ?_; rintro e w1 ⟨A1, n1, cc1, qim, v1, rfl, d0, d1, f0, f1, k0, p0, hY⟩)
  refine qc (TS w B u.2 ⟨2, Row, 0, u.1, yn, []⟩ none 0) hY ?_
  clear hY hX HA c0 c1 d0 d1 f0 f1 k0 p0
  intro X hX
  obtain ⟨A', n', c', l', bad', hr', hW, R1, R2, R3, R4, tx, hO⟩ := id hX
  obtain ⟨c0, c1, f0, f1⟩ := qm R1
  obtain ⟨k0, k1, k2, k3, k4, k5, p0, p1, p2, p3, p4, p5⟩ := qr R4
  dsimp only at k0 k1 k2 k3 k4 k5
  go_upto_region 41 with fail
  refine qc (TS w B u.2 ⟨2, Row, 0, -u.1, yn, []⟩ none 0) (hX.set_ hB 3 (-u.1) (by decide)) ?_
  clear hX
  clear c0 c1 f0 f1 k0 k1 k2 k3 k4 k5 p0 p1 p2 p3 p4 p5 hr' hW R1 R2 R3 R4 tx hO
  intro X hX
  obtain ⟨A', n', c', l', bad', hr', hW, R1, R2, R3, R4, tx, hO⟩ := id hX
  obtain ⟨c0, c1, f0, f1⟩ := qm R1
  obtain ⟨k0, k1, k2, k3, k4, k5, p0, p1, p2, p3, p4, p5⟩ := qr R4
  dsimp only at k0 k1 k2 k3 k4 k5
  obtain ⟨o0, o1, o2, o3, o4, o5, q0, q1, q2, q3, q4, q5⟩ := qr R2
  obtain ⟨m0, m1, v0, v1⟩ := qm R3
  dsimp only at o0 o1 o2 o3 o4 o5
  have HF := Lh (vT (c := ⟨2, Row, 0, -u.1, yn, []⟩) hB hr' hW R2 R3 tx hO)
  go_region_law (fail)
  all_goals go_wp2
  all_goals rw [HR3.out.1, HR3.out.2]
  all_goals exact bodyPost_ret (qV rfl _ _ (w.heap.size + 1) (w.heap.size + 2) 34 49 _ _ (0, 0) (0, 0) _ _ rfl HF.out.1 underlying34 rfl zH rfl HF.out.2.1 underlying49 rfl q7) rfl ⟨_, _, _, _, _, _, bad', rfl, hr', HF.out.2.2.1, HF.out.2.2.2.1, HF.out.2.2.2.2⟩
theorem qiN (l : List ByteArray) (A : Option Addr) (n c : Nat) (w : World) (B : Nat) (hW : WdR w B l A n c) (hB : B <= w.heap.size) (hl : l.length <= 1000) (ht : Tb w) (h1 : qo (some l) vc = false) (h2 : qo (some l) qE = false) (h3 : qo (some l) qu = true) :
  Calls prog 16 #[.agg #[.slice A n c, .bool true]] w (qiq w B (linV (some l)).1 (linV (some l)).2) := by
 obtain ⟨R, hR⟩ : ∃ x, Hid (x = (linV (some l))) := ⟨_, Lh rfl⟩
 rw [<- hR.out]
 have HT := Lh ht
 have HL : Hid (LenV (some l)) := Lh fun _ e => by cases e; exact hl
 have hX := TS.start hW hB
 have hs1 : Hid (false = qo (some l) vc) := Lh h1.symm
 have hs2 : Hid (false = qo (some l) qE) := Lh h2.symm
 have hs3 : Hid (true = qo (some l) qu) := Lh h3.symm
 clear hW hl ht h1 h2 h3
 go_enter func16, ntmps16
 go_upto_region 3 with fail
 refine qc (TS w B (some l) ⟨0, 0, 0, 0, 0, []⟩ none 0) hX ?_
 clear hX
 intro X hX
 obtain ⟨A', n', c', bad', c0, c1, HN⟩ := TS.is_ hX hB vc
 rw [<- hs1.out] at HN
 replace HN := Lh HN
 go_upto_if 7 with (go_at_call 15; refine HN.out.mono ?_; rintro e w1 ⟨rfl, hY⟩)
 refine qc (TS w B (some l) ⟨0, 0, 0, 0, 0, []⟩ none 0) hY ?_
 clear hY hX HN c0 c1
 intro X hX
 obtain ⟨A', n', c', bad', c0, c1, HN⟩ := TS.is_ hX hB qE
 rw [<- hs2.out] at HN
 replace HN := Lh HN
 go_upto_if 25 with (go_at_call 15; refine HN.out.mono ?_; rintro e w1 ⟨rfl, hY⟩)
 refine qc (TS w B (some l) ⟨0, 0, 0, 0, 0, []⟩ none 0) hY ?_
 clear hY hX HN c0 c1
 intro X hX
 obtain ⟨A', n', c', bad', c0, c1, HN⟩ := TS.is_ hX hB qu
 rw [<- hs3.out] at HN
 replace HN := Lh HN
 go_upto_if 65 with (go_at_call 15; refine HN.out.mono ?_; rintro e w1 ⟨rfl, hY⟩)
 refine qc (TS w B (some l) ⟨0, 0, 0, 0, 0, []⟩ none 0) hY ?_
 clear hY hX HN c0 c1
 intro X hX
 obtain ⟨x, hx⟩ : ∃ x, Hid (x = zc ((some l).bind (skO qu))) := ⟨_, Lh rfl⟩
 obtain ⟨y, hy⟩ : ∃ y, Hid (y = zc (x.2.bind (skO qB))) := ⟨_, Lh rfl⟩
 have HR1 : Hid (R = delV (x.1 - 1) (y.1 - 1) y.2) := Lh (by rw [hR.out, hy.out, hx.out]; rfl)
 have HLy : Hid (LenV y.2) := Lh (by rw [hy.out]; exact LenV.num (LenV.sk (by rw [hx.out]; exact LenV.num (LenV.sk HL.out _)) _))
 have hxr : 0 <= x.1 /\ x.1 <= 999999999 := by rw [hx.out]; exact jX _
 have hyr : 0 <= y.1 /\ y.1 <= 999999999 := by rw [hy.out]; exact jX _
 have e1 : IntKind.i64.wrap (x.1 - 1) = x.1 - 1 := by rw [IntKind.wrap_i64]; omega
 have e2 : IntKind.i64.wrap (y.1 - 1) = y.1 - 1 := by rw [IntKind.wrap_i64]; omega
 clear hR hs1 hs2 hs3 HL
 obtain ⟨A', n', c', l', bad', hr', hW, R1, R2, R3, R4, tx, hO⟩ := id hX
 obtain ⟨c0, c1, f0, f1⟩ := qm R1
 obtain ⟨k0, k1, k2, k3, k4, k5, p0, p1, p2, p3, p4, p5⟩ := qr R4
 dsimp only at k0 k1 k2 k3 k4 k5
 go_upto_region 20 with fail
 refine qc (TS w B (some l) ⟨3, 0, 0, 0, 0, []⟩ none 0) (hX.set_ hB 0 3 (by decide)) ?_
 clear hX
 clear c0 c1 f0 f1 k0 k1 k2 k3 k4 k5 p0 p1 p2 p3 p4 p5 hr' hW R1 R2 R3 R4 tx hO
 intro X hX
 obtain ⟨A', n', c', bad', c0, c1, HA⟩ := TS.num_ hX hB HT.out qu 1 (by decide) hx
 replace HA := Lh HA
 go_upto_region 21 with (go_at_call 19; refine HA.out.mono ?_; rintro e w1 ⟨A1, n1, cc1, qim, v1, rfl, d0, d1, f0, f1, k0, p0, hY⟩)
 refine qc (TS w B x.2 ⟨3, x.1, 0, 0, 0, []⟩ none 0) hY ?_
 clear hY hX HA c0 c1 d0 d1 f0 f1 k0 p0
 intro X hX
 obtain ⟨A', n', c', bad', c0, c1, HA⟩ := TS.num_ hX hB HT.out qB 2 (by decide) hy
 replace HA := Lh HA
 go_upto_region 22 with (go_at_call 19; refine HA.out.mono ?_; rintro e w1 ⟨A1, n1, cc1, qim, v1, rfl, d0, d1, f0, f1, k0, p0, hY⟩)
 refine qc (TS w B y.2 ⟨3, x.1, y.1, 0, 0, []⟩ none 0) hY ?_
 clear hY hX HA c0 c1 d0 d1 f0 f1 k0 p0
 intro X hX
 obtain ⟨A', n', c', l', bad', hr', hW, R1, R2, R3, R4, tx, hO⟩ := id hX
 obtain ⟨c0, c1, f0, f1⟩ := qm R1
 obtain ⟨k0, k1, k2, k3, k4, k5, p0, p1, p2, p3, p4, p5⟩ := qr R4
 dsimp only at k0 k1 k2 k3 k4 k5
 go_upto_region 24 with fail
 refine qc (TS w B y.2 ⟨3, x.1 - 1, y.1 - 1, 0, 0, []⟩ none 0) ((hX.set_ hB 1 (x.1 - 1) (by decide)).set_ hB 2 (y.1 - 1) (by decide)) ?_
 clear hX
 clear c0 c1 f0 f1 k0 k1 k2 k3 k4 k5 p0 p1 p2 p3 p4 p5 hr' hW R1 R2 R3 R4 tx hO
 intro X hX
 clear hx hy hxr hyr e1 e2
 obtain ⟨xn, xr⟩ := x
 obtain ⟨yn, yr⟩ := y
 simp only at hX HR1 HLy
 generalize xn - 1 = Row at *
 generalize yn - 1 = Col at *
 obtain ⟨s4, hs4⟩ : ∃ b, Hid (b = qo yr qW) := ⟨_, Lh rfl⟩
 obtain ⟨A', n', c', bad', c0, c1, HN⟩ := TS.is_ hX hB qW
 rw [<- hs4.out] at HN
 replace HN := Lh HN
 go_upto_if 90 with (go_at_call 15; refine HN.out.mono ?_; rintro e w1 ⟨rfl, hY⟩)
 refine qc (TS w B yr ⟨3, Row, Col, 0, 0, []⟩ none 0) hY ?_
 clear hY hX HN c0 c1
 intro X hX
 cases s4 with
 | true =>
  obtain ⟨u, hu⟩ : ∃ u, Hid (u = zc (yr.bind (skO qW))) := ⟨_, Lh rfl⟩
  have HR4 : Hid (R = if u.1 = 0 then (⟨3, Row, Col, 0, 0, []⟩, none) else (⟨3, Row, Col, u.1, 0, (j6 u.2).1⟩, (j6 u.2).2)) := Lh (by rw [HR1.out, delV, <- hs4.out, hu.out]; rfl)
  have HLz : Hid (LenV u.2) := Lh (by rw [hu.out]; exact LenV.num (LenV.sk HLy.out _))
  clear HR1 hs4 HLy
  go_upto_region 25 with fail
  obtain ⟨A', n', c', bad', c0, c1, HA⟩ := TS.num_ hX hB HT.out qW 3 (by decide) hu
  replace HA := Lh HA
  go_upto_region 26 with (go_at_call 19; refine HA.out.mono ?_; rintro e w1 ⟨A1, n1, cc1, qim, v1, rfl, d0, d1, f0, f1, k0, p0, hY⟩)
  refine qc (TS w B u.2 ⟨3, Row, Col, u.1, 0, []⟩ none 0) hY ?_
  clear hY hX HA c0 c1 d0 d1 f0 f1 k0 p0
  intro X hX
  clear hu
  obtain ⟨un, ur⟩ := u
  simp only at hX HR4 HLz
  by_cases h0 : un = 0
  ·subst h0
   have HR3 : Hid (R.1 = ⟨3, Row, Col, 0, 0, []⟩ /\ R.2 = none) := Lh (by rw [HR4.out]; exact ⟨rfl, rfl⟩)
   clear HR4 HLz
   obtain ⟨A', n', c', l', bad', hr', hW, R1, R2, R3, R4, tx, hO⟩ := id hX
   obtain ⟨c0, c1, f0, f1⟩ := qm R1
   obtain ⟨k0, k1, k2, k3, k4, k5, p0, p1, p2, p3, p4, p5⟩ := qr R4
   dsimp only at k0 k1 k2 k3 k4 k5
   obtain ⟨o0, o1, o2, o3, o4, o5, q0, q1, q2, q3, q4, q5⟩ := qr R2
   obtain ⟨m0, m1, v0, v1⟩ := qm R3
   dsimp only at o0 o1 o2 o3 o4 o5
   go_wp2
   have HF := Lh (fint_ (c := ⟨3, Row, Col, 0, 0, []⟩) (r := none) (bad := true) (l := []) (A := none) (n := 0) (cc := 0) hB rfl (WdR.nil X B) R2 R3 tx hO)
   rw [HR3.out.1, HR3.out.2]
   exact bodyPost_ret (qV rfl _ _ (w.heap.size + 1) (w.heap.size + 2) 34 49 _ _ (0, 0) (0, 0) _ _ rfl HF.out.1 underlying34 rfl zH rfl HF.out.2.1 underlying49 rfl q7) rfl ⟨_, _, _, _, _, _, true, rfl, rfl, HF.out.2.2.1, HF.out.2.2.2.1, HF.out.2.2.2.2⟩
  ·have HR2 : Hid (R = (⟨3, Row, Col, un, 0, (j6 ur).1⟩, (j6 ur).2)) := Lh (by rw [HR4.out, if_neg h0])
   have hub : (un == 0) = false := beq_eq_false_iff_ne.2 h0
   clear HR4 h0
   obtain ⟨A', n', c', l', bad', hr', hW, R1, R2, R3, R4, tx, hO⟩ := id hX
   obtain ⟨c0, c1, f0, f1⟩ := qm R1
   obtain ⟨k0, k1, k2, k3, k4, k5, p0, p1, p2, p3, p4, p5⟩ := qr R4
   dsimp only at k0 k1 k2 k3 k4 k5
   go_upto_region 28 with fail
   refine qc (TS w B ur ⟨3, Row, Col, un, 0, []⟩ none 0) (hX) ?_
   clear hX
   clear c0 c1 f0 f1 k0 k1 k2 k3 k4 k5 p0 p1 p2 p3 p4 p5 hr' hW R1 R2 R3 R4 tx hO
   intro X hX
   clear hub
   obtain ⟨b2, hb2⟩ : ∃ b, Hid (b = qo ur qK) := ⟨_, Lh rfl⟩
   obtain ⟨A', n', c', bad', c0, c1, HN⟩ := TS.is_ hX hB qK
   rw [<- hb2.out] at HN
   replace HN := Lh HN
   go_upto_if 103 with (go_at_call 15; refine HN.out.mono ?_; rintro e w1 ⟨rfl, hY⟩)
   refine qc (TS w B ur ⟨3, Row, Col, un, 0, []⟩ none 0) hY ?_
   clear hY hX HN c0 c1
   intro X hX
   cases b2 with
   | false =>
    have hg2 : Hid (j6 ur = ([], ur)) := Lh (by show (if qo ur qK = true then _ else _) = _; rw [<- hb2.out]; rfl)
    have HR3 : Hid (R.1 = ⟨3, Row, Col, un, 0, []⟩ /\ R.2 = ur) := Lh (by rw [HR2.out, hg2.out]; exact ⟨rfl, rfl⟩)
    clear HR2 hg2 hb2 HLz
    obtain ⟨A', n', c', l', bad', hr', hW, R1, R2, R3, R4, tx, hO⟩ := id hX
    obtain ⟨c0, c1, f0, f1⟩ := qm R1
    obtain ⟨k0, k1, k2, k3, k4, k5, p0, p1, p2, p3, p4, p5⟩ := qr R4
    dsimp only at k0 k1 k2 k3 k4 k5
    go_upto_region 41 with fail
    refine qc (TS w B ur ⟨3, Row, Col, un, 0, []⟩ none 0) (hX) ?_
    clear hX
    clear c0 c1 f0 f1 k0 k1 k2 k3 k4 k5 p0 p1 p2 p3 p4 p5 hr' hW R1 R2 R3 R4 tx hO
    intro X hX
    obtain ⟨A', n', c', l', bad', hr', hW, R1, R2, R3, R4, tx, hO⟩ := id hX
    obtain ⟨c0, c1, f0, f1⟩ := qm R1
    obtain ⟨k0, k1, k2, k3, k4, k5, p0, p1, p2, p3, p4, p5⟩ := qr R4
    dsimp only at k0 k1 k2 k3 k4 k5
    obtain ⟨o0, o1, o2, o3, o4, o5, q0, q1, q2, q3, q4, q5⟩ := qr R2
    obtain ⟨m0, m1, v0, v1⟩ := qm R3
    dsimp only at o0 o1 o2 o3 o4 o5
    have HF := Lh (vT (c := ⟨3, Row, Col, un, 0, []⟩) hB hr' hW R2 R3 tx hO)
    go_region_law (fail)
    all_goals go_wp2
    all_goals rw [HR3.out.1, HR3.out.2]
    all_goals exact bodyPost_ret (qV rfl _ _ (w.heap.size + 1) (w.heap.size + 2) 34 49 _ _ (0, 0) (0, 0) _ _ rfl HF.out.1 underlying34 rfl zH rfl HF.out.2.1 underlying49 rfl q7) rfl ⟨_, _, _, _, _, _, bad', rfl, hr', HF.out.2.2.1, HF.out.2.2.2.1, HF.out.2.2.2.2⟩
   | true =>
    obtain ⟨u2, hu2⟩ : ∃ u, Hid (u = (ur).bind (skO qK)) := ⟨_, Lh rfl⟩
    obtain ⟨g, hg⟩ : ∃ g, Hid (g = j6 ur) := ⟨_, Lh rfl⟩
    have hg2 : Hid (g = kW u2) := Lh (by rw [hg.out, hu2.out]; show (if qo ur qK = true then _ else _) = _; rw [<- hb2.out]; rfl)
    have HR3 : Hid (R.1 = ⟨3, Row, Col, un, 0, g.1⟩ /\ R.2 = g.2) := Lh (by rw [HR2.out, hg.out]; exact ⟨rfl, rfl⟩)
    have HLu : ∀ l, u2 = some l -> l.length <= 1000 := by rw [hu2.out]; exact HLz.out.sk _
    have hun : u2 ≠ none := by rw [hu2.out]; exact qc5 hb2.out.symm
    clear HR2 hg hb2 HLz
    go_upto_region 29 with fail
    obtain ⟨A', n', c', l', bad', hr', hW, R1, R2, R3, R4, tx, hO⟩ := id hX
    obtain ⟨c0, c1, f0, f1⟩ := qm R1
    obtain ⟨k0, k1, k2, k3, k4, k5, p0, p1, p2, p3, p4, p5⟩ := qr R4
    dsimp only at k0 k1 k2 k3 k4 k5
    have HK := Lh (kU ur _ qK B X ⟨A', n', c', l', bad', rfl, hW, hr'⟩ (Nat.le_trans hB tx.size))
    rw [<- hu2.out] at HK
    have HTx : Hid (∀ (v' : Value) (w' : World), TV w' B u2 v' -> Below w.heap.size w w' -> Calls prog 33 #[v'] w' (TxEnd w' B (u2.bind vX))) := Lh fun v' w' hv hb => ttext_ u2 v' B w' hv (Nat.le_trans hB hb.size) HLu hun (HT.out.below hb)
    clear HLu hu2 hun
    go_upto_region 41 with (first
     | (go_at_call 18; refine HK.out.mono ?_; rintro e w1 ⟨A1, n1, cc1, l1, qim, rfl, hW1, hr1, hb1⟩; have tx1 := tx.trans (hb1.mono (by have := hX.size; omega)))
     | (go_at_call 33; refine (HTx.out _ _ ⟨A1, n1, cc1, l1, qim, rfl, hW1, hr1⟩ tx1).mono ?_; rintro e w2 ⟨A2, G, c2, A3, n3, c3, l3, bad3, rfl, ho2, hW3, hr3, hb3, hG⟩; have hb4 := hb1.trans (hb3.mono hb1.size); have hY := hX.below hB hb4; clear c0 c1 f0 f1 k0 k1 k2 k3 k4 k5 p0 p1 p2 p3 p4 p5 hr' hW R1 R2 R3 R4 tx hO; (obtain ⟨A', n', c', l', bad', hr', hW, R1, R2, R3, R4, tx, hO⟩ := id hY; obtain ⟨c0, c1, f0, f1⟩ := qm R1; obtain ⟨k0, k1, k2, k3, k4, k5, p0, p1, p2, p3, p4, p5⟩ := qr R4; dsimp only at k0 k1 k2 k3 k4 k5)))
    have hgg : g = (G, (u2.bind vX).map (·.2)) := by
     rw [hg2.out, kW, <- hG]
     cases u2.bind vX <;> rfl
    have hz1 := hX.size
    have hz2 := hb1.size
    refine qc (TS w B g.2 ⟨3, Row, Col, un, 0, g.1⟩ A2 c2) (by rw [hgg]; exact (hY.glyphs hB (qq ho2 (by omega))).turn hB (hW3.below ((Below.refl B w2).setCell (p := ⟨w.heap.size + 3, 5, none⟩) (by show B <= w.heap.size + 3; omega) (.slice A2 G.length c2))) hr3) ?_
    clear hY hX hW1 hr1 hb1 ho2 hW3 hr3 hb3 hG hgg HTx HK hg2 tx1 hb4 hz1 hz2
    clear c0 c1 f0 f1 k0 k1 k2 k3 k4 k5 p0 p1 p2 p3 p4 p5 hr' hW R1 R2 R3 R4 tx hO
    intro X hX
    obtain ⟨G1, gr⟩ := g
    obtain ⟨A', n', c', l', bad', hr', hW, R1, R2, R3, R4, tx, hO⟩ := id hX
    obtain ⟨c0, c1, f0, f1⟩ := qm R1
    obtain ⟨k0, k1, k2, k3, k4, k5, p0, p1, p2, p3, p4, p5⟩ := qr R4
    dsimp only at k0 k1 k2 k3 k4 k5
    obtain ⟨o0, o1, o2, o3, o4, o5, q0, q1, q2, q3, q4, q5⟩ := qr R2
    obtain ⟨m0, m1, v0, v1⟩ := qm R3
    dsimp only at o0 o1 o2 o3 o4 o5
    have HF := Lh (vT (c := ⟨3, Row, Col, un, 0, G1⟩) hB hr' hW R2 R3 tx hO)
    go_region_law (fail)
    all_goals go_wp2
    all_goals rw [HR3.out.1, HR3.out.2]
    all_goals exact bodyPost_ret (qV rfl _ _ (w.heap.size + 1) (w.heap.size + 2) 34 49 _ _ (0, 0) (0, 0) _ _ rfl HF.out.1 underlying34 rfl zH rfl HF.out.2.1 underlying49 rfl q7) rfl ⟨_, _, _, _, _, _, bad', rfl, hr', HF.out.2.2.1, HF.out.2.2.2.1, HF.out.2.2.2.2⟩
 | false =>
  have HR2 : Hid (R = (⟨3, Row, Col, 0, 0, (j6 yr).1⟩, (j6 yr).2)) := Lh (by rw [HR1.out, delV, <- hs4.out]; rfl)
  have HLz := HLy
  clear HR1 hs4 HLy
  obtain ⟨A', n', c', l', bad', hr', hW, R1, R2, R3, R4, tx, hO⟩ := id hX
  obtain ⟨c0, c1, f0, f1⟩ := qm R1
  obtain ⟨k0, k1, k2, k3, k4, k5, p0, p1, p2, p3, p4, p5⟩ := qr R4
  dsimp only at k0 k1 k2 k3 k4 k5
  go_upto_region 28 with fail
  refine qc (TS w B yr ⟨3, Row, Col, 0, 0, []⟩ none 0) (hX) ?_
  clear hX
  clear c0 c1 f0 f1 k0 k1 k2 k3 k4 k5 p0 p1 p2 p3 p4 p5 hr' hW R1 R2 R3 R4 tx hO
  intro X hX
  obtain ⟨b2, hb2⟩ : ∃ b, Hid (b = qo yr qK) := ⟨_, Lh rfl⟩
  obtain ⟨A', n', c', bad', c0, c1, HN⟩ := TS.is_ hX hB qK
  rw [<- hb2.out] at HN
  replace HN := Lh HN
  go_upto_if 103 with (go_at_call 15; refine HN.out.mono ?_; rintro e w1 ⟨rfl, hY⟩)
  refine qc (TS w B yr ⟨3, Row, Col, 0, 0, []⟩ none 0) hY ?_
  clear hY hX HN c0 c1
  intro X hX
  cases b2 with
  | false =>
   have hg2 : Hid (j6 yr = ([], yr)) := Lh (by show (if qo yr qK = true then _ else _) = _; rw [<- hb2.out]; rfl)
   have HR3 : Hid (R.1 = ⟨3, Row, Col, 0, 0, []⟩ /\ R.2 = yr) := Lh (by rw [HR2.out, hg2.out]; exact ⟨rfl, rfl⟩)
   clear HR2 hg2 hb2 HLz
   obtain ⟨A', n', c', l', bad', hr', hW, R1, R2, R3, R4, tx, hO⟩ := id hX
   obtain ⟨c0, c1, f0, f1⟩ := qm R1
   obtain ⟨k0, k1, k2, k3, k4, k5, p0, p1, p2, p3, p4, p5⟩ := qr R4
   dsimp only at k0 k1 k2 k3 k4 k5
   go_upto_region 41 with fail
   refine qc (TS w B yr ⟨3, Row, Col, 0, 0, []⟩ none 0) (hX) ?_
   clear hX
   clear c0 c1 f0 f1 k0 k1 k2 k3 k4 k5 p0 p1 p2 p3 p4 p5 hr' hW R1 R2 R3 R4 tx hO
   intro X hX
   obtain ⟨A', n', c', l', bad', hr', hW, R1, R2, R3, R4, tx, hO⟩ := id hX
   obtain ⟨c0, c1, f0, f1⟩ := qm R1
   obtain ⟨k0, k1, k2, k3, k4, k5, p0, p1, p2, p3, p4, p5⟩ := qr R4
   dsimp only at k0 k1 k2 k3 k4 k5
   obtain ⟨o0, o1, o2, o3, o4, o5, q0, q1, q2, q3, q4, q5⟩ := qr R2
   obtain ⟨m0, m1, v0, v1⟩ := qm R3
   dsimp only at o0 o1 o2 o3 o4 o5
   have HF := Lh (vT (c := ⟨3, Row, Col, 0, 0, []⟩) hB hr' hW R2 R3 tx hO)
   go_region_law (fail)
   all_goals go_wp2
   all_goals rw [HR3.out.1, HR3.out.2]
   all_goals exact bodyPost_ret (qV rfl _ _ (w.heap.size + 1) (w.heap.size + 2) 34 49 _ _ (0, 0) (0, 0) _ _ rfl HF.out.1 underlying34 rfl zH rfl HF.out.2.1 underlying49 rfl q7) rfl ⟨_, _, _, _, _, _, bad', rfl, hr', HF.out.2.2.1, HF.out.2.2.2.1, HF.out.2.2.2.2⟩
  | true =>
   obtain ⟨u2, hu2⟩ : ∃ u, Hid (u = (yr).bind (skO qK)) := ⟨_, Lh rfl⟩
   obtain ⟨g, hg⟩ : ∃ g, Hid (g = j6 yr) := ⟨_, Lh rfl⟩
   have hg2 : Hid (g = kW u2) := Lh (by rw [hg.out, hu2.out]; show (if qo yr qK = true then _ else _) = _; rw [<- hb2.out]; rfl)
   have HR3 : Hid (R.1 = ⟨3, Row, Col, 0, 0, g.1⟩ /\ R.2 = g.2) := Lh (by rw [HR2.out, hg.out]; exact ⟨rfl, rfl⟩)
   have HLu : ∀ l, u2 = some l -> l.length <= 1000 := by rw [hu2.out]; exact HLz.out.sk _
   have hun : u2 ≠ none := by rw [hu2.out]; exact qc5 hb2.out.symm
   clear HR2 hg hb2 HLz
   go_upto_region 29 with fail
   obtain ⟨A', n', c', l', bad', hr', hW, R1, R2, R3, R4, tx, hO⟩ := id hX
   obtain ⟨c0, c1, f0, f1⟩ := qm R1
   obtain ⟨k0, k1, k2, k3, k4, k5, p0, p1, p2, p3, p4, p5⟩ := qr R4
   dsimp only at k0 k1 k2 k3 k4 k5
   have HK := Lh (kU yr _ qK B X ⟨A', n', c', l', bad', rfl, hW, hr'⟩ (Nat.le_trans hB tx.size))
   rw [<- hu2.out] at HK
   have HTx : Hid (∀ (v' : Value) (w' : World), TV w' B u2 v' -> Below w.heap.size w w' -> Calls prog 33 #[v'] w' (TxEnd w' B (u2.bind vX))) := Lh fun v' w' hv hb => ttext_ u2 v' B w' hv (Nat.le_trans hB hb.size) HLu hun (HT.out.below hb)
   clear HLu hu2 hun
   go_upto_region 41 with (first
    | (go_at_call 18; refine HK.out.mono ?_; rintro e w1 ⟨A1, n1, cc1, l1, qim, rfl, hW1, hr1, hb1⟩; have tx1 := tx.trans (hb1.mono (by have := hX.size; omega)))
    | (go_at_call 33; refine (HTx.out _ _ ⟨A1, n1, cc1, l1, qim, rfl, hW1, hr1⟩ tx1).mono ?_; rintro e w2 ⟨A2, G, c2, A3, n3, c3, l3, bad3, rfl, ho2, hW3, hr3, hb3, hG⟩; have hb4 := hb1.trans (hb3.mono hb1.size); have hY := hX.below hB hb4; clear c0 c1 f0 f1 k0 k1 k2 k3 k4 k5 p0 p1 p2 p3 p4 p5 hr' hW R1 R2 R3 R4 tx hO; (obtain ⟨A', n', c', l', bad', hr', hW, R1, R2, R3, R4, tx, hO⟩ := id hY; obtain ⟨c0, c1, f0, f1⟩ := qm R1; obtain ⟨k0, k1, k2, k3, k4, k5, p0, p1, p2, p3, p4, p5⟩ := qr R4; dsimp only at k0 k1 k2 k3 k4 k5)))
   have hgg : g = (G, (u2.bind vX).map (·.2)) := by
    rw [hg2.out, kW, <- hG]
    cases u2.bind vX <;> rfl
   have hz1 := hX.size
   have hz2 := hb1.size
   refine qc (TS w B g.2 ⟨3, Row, Col, 0, 0, g.1⟩ A2 c2) (by rw [hgg]; exact (hY.glyphs hB (qq ho2 (by omega))).turn hB (hW3.below ((Below.refl B w2).setCell (p := ⟨w.heap.size + 3, 5, none⟩) (by show B <= w.heap.size + 3; omega) (.slice A2 G.length c2))) hr3) ?_
   clear hY hX hW1 hr1 hb1 ho2 hW3 hr3 hb3 hG hgg HTx HK hg2 tx1 hb4 hz1 hz2
   clear c0 c1 f0 f1 k0 k1 k2 k3 k4 k5 p0 p1 p2 p3 p4 p5 hr' hW R1 R2 R3 R4 tx hO
   intro X hX
   obtain ⟨G1, gr⟩ := g
   obtain ⟨A', n', c', l', bad', hr', hW, R1, R2, R3, R4, tx, hO⟩ := id hX
   obtain ⟨c0, c1, f0, f1⟩ := qm R1
   obtain ⟨k0, k1, k2, k3, k4, k5, p0, p1, p2, p3, p4, p5⟩ := qr R4
   dsimp only at k0 k1 k2 k3 k4 k5
   obtain ⟨o0, o1, o2, o3, o4, o5, q0, q1, q2, q3, q4, q5⟩ := qr R2
   obtain ⟨m0, m1, v0, v1⟩ := qm R3
   dsimp only at o0 o1 o2 o3 o4 o5
   have HF := Lh (vT (c := ⟨3, Row, Col, 0, 0, G1⟩) hB hr' hW R2 R3 tx hO)
   go_region_law (fail)
   all_goals go_wp2
   all_goals rw [HR3.out.1, HR3.out.2]
   all_goals exact bodyPost_ret (qV rfl _ _ (w.heap.size + 1) (w.heap.size + 2) 34 49 _ _ (0, 0) (0, 0) _ _ rfl HF.out.1 underlying34 rfl zH rfl HF.out.2.1 underlying49 rfl q7) rfl ⟨_, _, _, _, _, _, bad', rfl, hr', HF.out.2.2.1, HF.out.2.2.2.1, HF.out.2.2.2.2⟩
theorem qiP (l : List ByteArray) (A : Option Addr) (n c : Nat) (w : World) (B : Nat) (hW : WdR w B l A n c) (hB : B <= w.heap.size) (hl : l.length <= 1000) (ht : Tb w) (h1 : qo (some l) vc = false) (h2 : qo (some l) qE = false) (h3 : qo (some l) qu = false) (h4 : qo (some l) qD = true) :
  Calls prog 16 #[.agg #[.slice A n c, .bool true]] w (qiq w B (curV (some l)).1 (curV (some l)).2) := by
 obtain ⟨R, hR⟩ : ∃ x, Hid (x = (curV (some l))) := ⟨_, Lh rfl⟩
 rw [<- hR.out]
 have HT := Lh ht
 have HL : Hid (LenV (some l)) := Lh fun _ e => by cases e; exact hl
 have hX := TS.start hW hB
 have hs1 : Hid (false = qo (some l) vc) := Lh h1.symm
 have hs2 : Hid (false = qo (some l) qE) := Lh h2.symm
 have hs3 : Hid (false = qo (some l) qu) := Lh h3.symm
 have hs4 : Hid (true = qo (some l) qD) := Lh h4.symm
 clear hW hl ht h1 h2 h3 h4
 go_enter func16, ntmps16
 go_upto_region 3 with fail
 refine qc (TS w B (some l) ⟨0, 0, 0, 0, 0, []⟩ none 0) hX ?_
 clear hX
 intro X hX
 obtain ⟨A', n', c', bad', c0, c1, HN⟩ := TS.is_ hX hB vc
 rw [<- hs1.out] at HN
 replace HN := Lh HN
 go_upto_if 7 with (go_at_call 15; refine HN.out.mono ?_; rintro e w1 ⟨rfl, hY⟩)
 refine qc (TS w B (some l) ⟨0, 0, 0, 0, 0, []⟩ none 0) hY ?_
 clear hY hX HN c0 c1
 intro X hX
 obtain ⟨A', n', c', bad', c0, c1, HN⟩ := TS.is_ hX hB qE
 rw [<- hs2.out] at HN
 replace HN := Lh HN
 go_upto_if 25 with (go_at_call 15; refine HN.out.mono ?_; rintro e w1 ⟨rfl, hY⟩)
 refine qc (TS w B (some l) ⟨0, 0, 0, 0, 0, []⟩ none 0) hY ?_
 clear hY hX HN c0 c1
 intro X hX
 obtain ⟨A', n', c', bad', c0, c1, HN⟩ := TS.is_ hX hB qu
 rw [<- hs3.out] at HN
 replace HN := Lh HN
 go_upto_if 65 with (go_at_call 15; refine HN.out.mono ?_; rintro e w1 ⟨rfl, hY⟩)
 refine qc (TS w B (some l) ⟨0, 0, 0, 0, 0, []⟩ none 0) hY ?_
 clear hY hX HN c0 c1
 intro X hX
 obtain ⟨A', n', c', bad', c0, c1, HN⟩ := TS.is_ hX hB qD
 rw [<- hs4.out] at HN
 replace HN := Lh HN
 go_upto_if 111 with (go_at_call 15; refine HN.out.mono ?_; rintro e w1 ⟨rfl, hY⟩)
 refine qc (TS w B (some l) ⟨0, 0, 0, 0, 0, []⟩ none 0) hY ?_
 clear hY hX HN c0 c1
 intro X hX
 obtain ⟨x, hx⟩ : ∃ x, Hid (x = zc (((some l).bind (skO qD)).bind (skO qu))) := ⟨_, Lh rfl⟩
 obtain ⟨y, hy⟩ : ∃ y, Hid (y = zc (x.2.bind (skO qB))) := ⟨_, Lh rfl⟩
 have HR2 : Hid (R = visV (x.1 - 1) (y.1 - 1) y.2) := Lh (by rw [hR.out, hy.out, hx.out]; rfl)
 have hxr : 0 <= x.1 /\ x.1 <= 999999999 := by rw [hx.out]; exact jX _
 have hyr : 0 <= y.1 /\ y.1 <= 999999999 := by rw [hy.out]; exact jX _
 have e1 : IntKind.i64.wrap (x.1 - 1) = x.1 - 1 := by rw [IntKind.wrap_i64]; omega
 have e2 : IntKind.i64.wrap (y.1 - 1) = y.1 - 1 := by rw [IntKind.wrap_i64]; omega
 clear hR hs1 hs2 hs3 hs4 HL
 obtain ⟨A', n', c', l', bad', hr', hW, R1, R2, R3, R4, tx, hO⟩ := id hX
 obtain ⟨c0, c1, f0, f1⟩ := qm R1
 obtain ⟨k0, k1, k2, k3, k4, k5, p0, p1, p2, p3, p4, p5⟩ := qr R4
 dsimp only at k0 k1 k2 k3 k4 k5
 go_upto_region 32 with fail
 refine qc (TS w B (some l) ⟨4, 0, 0, 0, 0, []⟩ none 0) (hX.set_ hB 0 4 (by decide)) ?_
 clear hX
 clear c0 c1 f0 f1 k0 k1 k2 k3 k4 k5 p0 p1 p2 p3 p4 p5 hr' hW R1 R2 R3 R4 tx hO
 intro X hX
 obtain ⟨A', n', c', bad', c0, c1, HK⟩ := TS.sk_ hX hB qD
 replace HK := Lh HK
 go_upto_region 33 with (go_at_call 18; refine HK.out.mono ?_; rintro e w1 ⟨A1, n1, cc1, qim, rfl, d0, d1, f0, f1, hY⟩)
 refine qc (TS w B (((some l)).bind (skO qD)) ⟨4, 0, 0, 0, 0, []⟩ none 0) hY ?_
 clear hY hX HK c0 c1 d0 d1 f0 f1
 intro X hX
 obtain ⟨A', n', c', bad', c0, c1, HA⟩ := TS.num_ hX hB HT.out qu 1 (by decide) hx
 replace HA := Lh HA
 go_upto_region 34 with (go_at_call 19; refine HA.out.mono ?_; rintro e w1 ⟨A1, n1, cc1, qim, v1, rfl, d0, d1, f0, f1, k0, p0, hY⟩)
 refine qc (TS w B x.2 ⟨4, x.1, 0, 0, 0, []⟩ none 0) hY ?_
 clear hY hX HA c0 c1 d0 d1 f0 f1 k0 p0
 intro X hX
 obtain ⟨A', n', c', bad', c0, c1, HA⟩ := TS.num_ hX hB HT.out qB 2 (by decide) hy
 replace HA := Lh HA
 go_upto_region 35 with (go_at_call 19; refine HA.out.mono ?_; rintro e w1 ⟨A1, n1, cc1, qim, v1, rfl, d0, d1, f0, f1, k0, p0, hY⟩)
 refine qc (TS w B y.2 ⟨4, x.1, y.1, 0, 0, []⟩ none 0) hY ?_
 clear hY hX HA c0 c1 d0 d1 f0 f1 k0 p0
 intro X hX
 obtain ⟨A', n', c', l', bad', hr', hW, R1, R2, R3, R4, tx, hO⟩ := id hX
 obtain ⟨c0, c1, f0, f1⟩ := qm R1
 obtain ⟨k0, k1, k2, k3, k4, k5, p0, p1, p2, p3, p4, p5⟩ := qr R4
 dsimp only at k0 k1 k2 k3 k4 k5
 go_upto_region 37 with fail
 refine qc (TS w B y.2 ⟨4, x.1 - 1, y.1 - 1, 0, 0, []⟩ none 0) ((hX.set_ hB 1 (x.1 - 1) (by decide)).set_ hB 2 (y.1 - 1) (by decide)) ?_
 clear hX
 clear c0 c1 f0 f1 k0 k1 k2 k3 k4 k5 p0 p1 p2 p3 p4 p5 hr' hW R1 R2 R3 R4 tx hO
 intro X hX
 clear hx hy hxr hyr e1 e2
 obtain ⟨xn, xr⟩ := x
 obtain ⟨yn, yr⟩ := y
 simp only at hX HR2
 generalize xn - 1 = Row at *
 generalize yn - 1 = Col at *
 obtain ⟨s5, hs5⟩ : ∃ b, Hid (b = qo yr qH) := ⟨_, Lh rfl⟩
 obtain ⟨A', n', c', bad', c0, c1, HN⟩ := TS.is_ hX hB qH
 rw [<- hs5.out] at HN
 replace HN := Lh HN
 go_upto_if 138 with (go_at_call 15; refine HN.out.mono ?_; rintro e w1 ⟨rfl, hY⟩)
 refine qc (TS w B yr ⟨4, Row, Col, 0, 0, []⟩ none 0) hY ?_
 clear hY hX HN c0 c1
 intro X hX
 cases s5 with
 | true =>
  have HR3 : Hid (R.1 = ⟨4, Row, Col, 1, 0, []⟩ /\ R.2 = yr.bind (skO qH)) := Lh (by rw [HR2.out, visV, <- hs5.out]; exact ⟨rfl, rfl⟩)
  clear HR2 hs5
  obtain ⟨A', n', c', l', bad', hr', hW, R1, R2, R3, R4, tx, hO⟩ := id hX
  obtain ⟨c0, c1, f0, f1⟩ := qm R1
  obtain ⟨k0, k1, k2, k3, k4, k5, p0, p1, p2, p3, p4, p5⟩ := qr R4
  dsimp only at k0 k1 k2 k3 k4 k5
  go_upto_region 39 with fail
  refine qc (TS w B yr ⟨4, Row, Col, 1, 0, []⟩ none 0) (hX.set_ hB 3 1 (by decide)) ?_
  clear hX
  clear c0 c1 f0 f1 k0 k1 k2 k3 k4 k5 p0 p1 p2 p3 p4 p5 hr' hW R1 R2 R3 R4 tx hO
  intro X hX
  obtain ⟨A', n', c', bad', c0, c1, HK⟩ := TS.sk_ hX hB qH
  replace HK := Lh HK
  go_upto_region 41 with (go_at_call 18; refine HK.out.mono ?_; rintro e w1 ⟨A1, n1, cc1, qim, rfl, d0, d1, f0, f1, hY⟩)
  refine qc (TS w B ((yr).bind (skO qH)) ⟨4, Row, Col, 1, 0, []⟩ none 0) hY ?_
  clear hY hX HK c0 c1 d0 d1 f0 f1
  intro X hX
  obtain ⟨A', n', c', l', bad', hr', hW, R1, R2, R3, R4, tx, hO⟩ := id hX
  obtain ⟨c0, c1, f0, f1⟩ := qm R1
  obtain ⟨k0, k1, k2, k3, k4, k5, p0, p1, p2, p3, p4, p5⟩ := qr R4
  dsimp only at k0 k1 k2 k3 k4 k5
  obtain ⟨o0, o1, o2, o3, o4, o5, q0, q1, q2, q3, q4, q5⟩ := qr R2
  obtain ⟨m0, m1, v0, v1⟩ := qm R3
  dsimp only at o0 o1 o2 o3 o4 o5
  have HF := Lh (vT (c := ⟨4, Row, Col, 1, 0, []⟩) hB hr' hW R2 R3 tx hO)
  go_region_law (fail)
  all_goals go_wp2
  all_goals rw [HR3.out.1, HR3.out.2]
  all_goals exact bodyPost_ret (qV rfl _ _ (w.heap.size + 1) (w.heap.size + 2) 34 49 _ _ (0, 0) (0, 0) _ _ rfl HF.out.1 underlying34 rfl zH rfl HF.out.2.1 underlying49 rfl q7) rfl ⟨_, _, _, _, _, _, bad', rfl, hr', HF.out.2.2.1, HF.out.2.2.2.1, HF.out.2.2.2.2⟩
 | false =>
  have HR3 : Hid (R.1 = ⟨4, Row, Col, 0, 0, []⟩ /\ R.2 = yr.bind (skO zo)) := Lh (by rw [HR2.out, visV, <- hs5.out]; exact ⟨rfl, rfl⟩)
  clear HR2 hs5
  go_upto_region 40 with fail
  obtain ⟨A', n', c', bad', c0, c1, HK⟩ := TS.sk_ hX hB zo
  replace HK := Lh HK
  go_upto_region 41 with (go_at_call 18; refine HK.out.mono ?_; rintro e w1 ⟨A1, n1, cc1, qim, rfl, d0, d1, f0, f1, hY⟩)
  refine qc (TS w B ((yr).bind (skO zo)) ⟨4, Row, Col, 0, 0, []⟩ none 0) hY ?_
  clear hY hX HK c0 c1 d0 d1 f0 f1
  intro X hX
  obtain ⟨A', n', c', l', bad', hr', hW, R1, R2, R3, R4, tx, hO⟩ := id hX
  obtain ⟨c0, c1, f0, f1⟩ := qm R1
  obtain ⟨k0, k1, k2, k3, k4, k5, p0, p1, p2, p3, p4, p5⟩ := qr R4
  dsimp only at k0 k1 k2 k3 k4 k5
  obtain ⟨o0, o1, o2, o3, o4, o5, q0, q1, q2, q3, q4, q5⟩ := qr R2
  obtain ⟨m0, m1, v0, v1⟩ := qm R3
  dsimp only at o0 o1 o2 o3 o4 o5
  have HF := Lh (vT (c := ⟨4, Row, Col, 0, 0, []⟩) hB hr' hW R2 R3 tx hO)
  go_region_law (fail)
  all_goals go_wp2
  all_goals rw [HR3.out.1, HR3.out.2]
  all_goals exact bodyPost_ret (qV rfl _ _ (w.heap.size + 1) (w.heap.size + 2) 34 49 _ _ (0, 0) (0, 0) _ _ rfl HF.out.1 underlying34 rfl zH rfl HF.out.2.1 underlying49 rfl q7) rfl ⟨_, _, _, _, _, _, bad', rfl, hr', HF.out.2.2.1, HF.out.2.2.2.1, HF.out.2.2.2.2⟩
theorem qiL (l : List ByteArray) (A : Option Addr) (n c : Nat) (w : World) (B : Nat) (hW : WdR w B l A n c) (hB : B <= w.heap.size) (hl : l.length <= 1000) (ht : Tb w) (h1 : qo (some l) vc = false) (h2 : qo (some l) qE = false) (h3 : qo (some l) qu = false) (h4 : qo (some l) qD = false) :
  Calls prog 16 #[.agg #[.slice A n c, .bool true]] w (qiq w B ((⟨0, 0, 0, 0, 0, []⟩, none) : Chg × Option (List ByteArray)).1 ((⟨0, 0, 0, 0, 0, []⟩, none) : Chg × Option (List ByteArray)).2) := by
 obtain ⟨R, hR⟩ : ∃ x, Hid (x = ((⟨0, 0, 0, 0, 0, []⟩, none) : Chg × Option (List ByteArray))) := ⟨_, Lh rfl⟩
 rw [<- hR.out]
 have HT := Lh ht
 have HL : Hid (LenV (some l)) := Lh fun _ e => by cases e; exact hl
 have hX := TS.start hW hB
 have hs1 : Hid (false = qo (some l) vc) := Lh h1.symm
 have hs2 : Hid (false = qo (some l) qE) := Lh h2.symm
 have hs3 : Hid (false = qo (some l) qu) := Lh h3.symm
 have hs4 : Hid (false = qo (some l) qD) := Lh h4.symm
 clear hW hl ht h1 h2 h3 h4
 go_enter func16, ntmps16
 go_upto_region 3 with fail
 refine qc (TS w B (some l) ⟨0, 0, 0, 0, 0, []⟩ none 0) hX ?_
 clear hX
 intro X hX
 obtain ⟨A', n', c', bad', c0, c1, HN⟩ := TS.is_ hX hB vc
 rw [<- hs1.out] at HN
 replace HN := Lh HN
 go_upto_if 7 with (go_at_call 15; refine HN.out.mono ?_; rintro e w1 ⟨rfl, hY⟩)
 refine qc (TS w B (some l) ⟨0, 0, 0, 0, 0, []⟩ none 0) hY ?_
 clear hY hX HN c0 c1
 intro X hX
 obtain ⟨A', n', c', bad', c0, c1, HN⟩ := TS.is_ hX hB qE
 rw [<- hs2.out] at HN
 replace HN := Lh HN
 go_upto_if 25 with (go_at_call 15; refine HN.out.mono ?_; rintro e w1 ⟨rfl, hY⟩)
 refine qc (TS w B (some l) ⟨0, 0, 0, 0, 0, []⟩ none 0) hY ?_
 clear hY hX HN c0 c1
 intro X hX
 obtain ⟨A', n', c', bad', c0, c1, HN⟩ := TS.is_ hX hB qu
 rw [<- hs3.out] at HN
 replace HN := Lh HN
 go_upto_if 65 with (go_at_call 15; refine HN.out.mono ?_; rintro e w1 ⟨rfl, hY⟩)
 refine qc (TS w B (some l) ⟨0, 0, 0, 0, 0, []⟩ none 0) hY ?_
 clear hY hX HN c0 c1
 intro X hX
 obtain ⟨A', n', c', bad', c0, c1, HN⟩ := TS.is_ hX hB qD
 rw [<- hs4.out] at HN
 replace HN := Lh HN
 go_upto_if 111 with (go_at_call 15; refine HN.out.mono ?_; rintro e w1 ⟨rfl, hY⟩)
 refine qc (TS w B (some l) ⟨0, 0, 0, 0, 0, []⟩ none 0) hY ?_
 clear hY hX HN c0 c1
 intro X hX
 have HR3 : Hid (R.1 = ⟨0, 0, 0, 0, 0, []⟩ /\ R.2 = none) := Lh (by rw [hR.out]; exact ⟨rfl, rfl⟩)
 clear hR hs1 hs2 hs3 hs4 HL
 obtain ⟨A', n', c', l', bad', hr', hW, R1, R2, R3, R4, tx, hO⟩ := id hX
 obtain ⟨c0, c1, f0, f1⟩ := qm R1
 obtain ⟨k0, k1, k2, k3, k4, k5, p0, p1, p2, p3, p4, p5⟩ := qr R4
 dsimp only at k0 k1 k2 k3 k4 k5
 go_upto_region 41 with fail
 refine qc (TS w B none ⟨0, 0, 0, 0, 0, []⟩ none 0) (hX.turn hB (A := none) (n := 0) (cc := 0) (l := []) (bad := true) (WdR.nil X B) rfl) ?_
 clear hX
 clear c0 c1 f0 f1 k0 k1 k2 k3 k4 k5 p0 p1 p2 p3 p4 p5 hr' hW R1 R2 R3 R4 tx hO
 intro X hX
 obtain ⟨A', n', c', l', bad', hr', hW, R1, R2, R3, R4, tx, hO⟩ := id hX
 obtain ⟨c0, c1, f0, f1⟩ := qm R1
 obtain ⟨k0, k1, k2, k3, k4, k5, p0, p1, p2, p3, p4, p5⟩ := qr R4
 dsimp only at k0 k1 k2 k3 k4 k5
 obtain ⟨o0, o1, o2, o3, o4, o5, q0, q1, q2, q3, q4, q5⟩ := qr R2
 obtain ⟨m0, m1, v0, v1⟩ := qm R3
 dsimp only at o0 o1 o2 o3 o4 o5
 have HF := Lh (vT (c := ⟨0, 0, 0, 0, 0, []⟩) hB hr' hW R2 R3 tx hO)
 go_region_law (fail)
 all_goals go_wp2
 all_goals rw [HR3.out.1, HR3.out.2]
 all_goals exact bodyPost_ret (qV rfl _ _ (w.heap.size + 1) (w.heap.size + 2) 34 49 _ _ (0, 0) (0, 0) _ _ rfl HF.out.1 underlying34 rfl zH rfl HF.out.2.1 underlying49 rfl q7) rfl ⟨_, _, _, _, _, _, bad', rfl, hr', HF.out.2.2.1, HF.out.2.2.2.1, HF.out.2.2.2.2⟩
theorem tchange_ (l : List ByteArray) (A : Option Addr) (n c : Nat) (w : World) (B : Nat) (hW : WdR w B l A n c) (hB : B <= w.heap.size) (hl : l.length <= 1000) (ht : Tb w) :
  Calls prog 16 #[.agg #[.slice A n c, .bool true]] w (qiq w B (yi (some l)).1 (yi (some l)).2) := by
 unfold yi
 cases h1 : qo (some l) vc with
 | true => exact qiO l A n c w B hW hB hl ht h1
 | false =>
  cases h2 : qo (some l) qE with
  | true => exact qiM l A n c w B hW hB hl ht h1 h2
  | false =>
   cases h3 : qo (some l) qu with
   | true => exact qiN l A n c w B hW hB hl ht h1 h2 h3
   | false =>
    cases h4 : qo (some l) qD with
    | true => exact qiP l A n c w B hW hB hl ht h1 h2 h3 h4
    | false => exact qiL l A n c w B hW hB hl ht h1 h2 h3 h4
end Go.Proofs.YtlndbiamiioakaaGreatDoor
