/- Joined: Uc2, Uc3, Uc4, Gd0. -/
import Derived.Test.YtlndbiamiioakaaGreatDoorVBF
set_option linter.unusedVariables false
set_option linter.unusedSimpArgs false
set_option linter.unnecessarySimpa false
set_option maxHeartbeats 8000000
namespace Go.Proofs.YtlndbiamiioakaaGreatDoor
open Go.Proofs.Tryz Go.RowKit
set_option maxRecDepth 20000
def vl (l : List Gl) : Bool := l.any fun g => !y7 g
theorem qht (l : List Gl) (A : Option Addr) (n c B : Nat) (w : World) (hn : n <= 1000000000) (rd : Rd w B 3 A n (qn l)) (hB : B <= w.heap.size) (hz : ∀ g ∈ l, g.text.size <= 1000000000) (hu : U8 w) :
  Calls prog 42 #[.slice A n c, (Value.func (.func 30) #[] #[])] w fun e w' => (∃ x : Int, e = .returned (.int .i64 x) /\ (0 <= x ↔ vl l = true)) /\ Below w.heap.size w w' := by
 have HN := Lh (yl rd)
 have HR := Lh rd
 have HF : Hid (vl l = vl (l.drop 0)) := Lh rfl
 have HV : Hid (∀ g ∈ l, ∀ w', Below w.heap.size w w' -> Calls prog 30 #[glV g] w' (qg (.bool (!y7 g)) w')) := Lh fun g hg w' hw => qhW g (hz g hg) w' (hu.below hw)
 generalize vl l = R at *
 clear hz hu rd
 go_enter func42, ntmps42
 go_wp2
 go_loopw [8] (fun x wr => ∃ k : Nat, k <= n /\ x = .int .i64 k /\ Below w.heap.size w wr /\ Hid (R = vl (l.drop k))) (fun x _ => n - (intOf x).toNat)
 case atStart => exact ⟨0, Nat.zero_le _, rfl, Below.refl _ _, HF⟩
 case round =>
  obtain ⟨k, hk, rfl, hbel, HK⟩ := hrel
  by_cases hlt : k < n
  ·have hkl : k < l.length := by have := HN.out; omega
   obtain ⟨b, o, rfl, hbB, g0, g1, g2⟩ := jJ (HR.out.below (hbel.mono hB)) hkl HN.out
   have HD : Hid (vl (l.drop k) = (!y7 l[k] || vl (l.drop (k + 1)))) := Lh (by rw [List.drop_eq_getElem_cons hkl]; rfl)
   have HVk := Lh (HV.out l[k] (List.getElem_mem hkl) wr hbel)
   generalize l[k] = g at *
   obtain ⟨t, wd, st⟩ := g
   dsimp only at *
   cases hv : y7 ⟨t, wd, st⟩ with
   | false =>
    rw [hv] at HVk
    have HR2 : Hid (R = true) := Lh (by rw [HK.out, HD.out, hv]; rfl)
    clear HK HD hv HV HR
    go_wp2_with (go_at_call 30; refine HVk.out.mono ?_; rintro e w1 ⟨rfl, hb1⟩)
    go_ret
    exact ⟨⟨k, rfl, by rw [HR2.out]; simp⟩, hbel.trans (hb1.mono hbel.size)⟩
   | true =>
    rw [hv] at HVk
    have HR2 : Hid (R = vl (l.drop (k + 1))) := Lh (by rw [HK.out, HD.out, hv]; rfl)
    clear HK HD hv HV HR
    go_wp2_with (go_at_call 30; refine HVk.out.mono ?_; rintro e w1 ⟨rfl, hb1⟩)
    exact ⟨⟨k + 1, by omega, by go_num, hbel.trans (hb1.mono hbel.size), HR2⟩, by simp [intOf]; omega⟩
  ·have HR2 : Hid (R = false) := Lh (by rw [HK.out, List.drop_of_length_le (by have := HN.out; omega)]; rfl)
   go_wp2
   go_ret
   exact ⟨⟨-1, rfl, by rw [HR2.out]; simp⟩, hbel⟩
theorem qdy (l : List Gl) (A : Option Addr) (n c B : Nat) (w : World) (hn : n <= 1000000000) (rd : Rd w B 3 A n (qn l)) (hB : B <= w.heap.size) (hz : ∀ g ∈ l, g.text.size <= 1000000000) (hu : U8 w) :
  Calls prog 29 #[.slice A n c, (Value.func (.func 30) #[] #[])] w (qg (.bool (vl l)) w) := by
 have HI := Lh (qht l A n c B w hn rd hB hz hu)
 generalize vl l = R at *
 clear rd hz hu
 go_enter func29, ntmps29
 go_wp2_with (go_at_call 42; refine HI.out.mono ?_; rintro e w1 ⟨⟨x, rfl, hx⟩, hb1⟩)
 go_ret
 exact ⟨rfl, hb1⟩
def ChgBox (w : World) (c : Chg) (A : Option Addr) (cap : Nat) (wx : World) : Prop :=
 wx.cell? ⟨w.heap.size, 0, none⟩ = some (.int .i64 c.kind) /\ wx.cell? ⟨w.heap.size, 1, none⟩ = some (.int .i64 c.row) /\ wx.cell? ⟨w.heap.size, 2, none⟩ = some (.int .i64 c.col) /\ wx.cell? ⟨w.heap.size, 3, none⟩ = some (.int .i64 c.count) /\ wx.cell? ⟨w.heap.size, 4, none⟩ = some (.int .i64 c.til) /\ wx.cell? ⟨w.heap.size, 5, none⟩ = some (.slice A c.glyphs.length cap) /\ Below w.heap.size w wx /\ w.heap.size + 1 <= wx.heap.size
theorem ChgBox.new (w : World) (c : Chg) (A : Option Addr) (cap : Nat) (ty : TypeId) : ChgBox w c A cap (w.alloc (.cells #[.int .i64 c.kind, .int .i64 c.row, .int .i64 c.col, .int .i64 c.count, .int .i64 c.til, .slice A c.glyphs.length cap] ty)) :=
 ⟨qF w _ _ 0, qF w _ _ 1, qF w _ _ 2, qF w _ _ 3, qF w _ _ 4, qF w _ _ 5, (Below.refl _ _).alloc (Nat.le_refl _) _, by simp⟩
theorem ChgBox.on {w wx wy : World} {c : Chg} {A : Option Addr} {cap : Nat} (h : ChgBox w c A cap wx) (hb : Below wx.heap.size wx wy) : ChgBox w c A cap wy := by
 obtain ⟨h0, h1, h2, h3, h4, h5, h6, h7⟩ := h
 have k : ∀ i, wy.cell? ⟨w.heap.size, i, none⟩ = wx.cell? ⟨w.heap.size, i, none⟩ := fun i => hb.cell (by show w.heap.size < _; omega)
 exact ⟨(k 0).trans h0, (k 1).trans h1, (k 2).trans h2, (k 3).trans h3, (k 4).trans h4, (k 5).trans h5, h6.trans (hb.mono (by omega)), by have := hb.size; omega⟩
theorem any_all (l : List Gl) : (!vl l) = l.all fun g => decide (jV g = 0) := by
 unfold vl
 induction l with
 | nil => rfl
 | cons g t ih => rw [List.any_cons, List.all_cons, <- ih, Bool.not_or, Bool.not_not]; rfl
def vU (RG OT big : Bool) : Int := if RG = false then 2 else if big = true then 5 else if OT = false then 1 else 0
theorem qgn {row col count til : Int} {g : List Gl} : vb ⟨1, row, col, count, til, g⟩ = vU (inB row 1 60 && inB col 1 132) (decide (count = 0) && decide (til = 0) && decide (g.length = 0)) false := by
 have e1 : jg ⟨1, row, col, count, til, g⟩ = (inB row 1 60 && inB col 1 132) := by
  rw [Bool.eq_iff_iff]; simp [jg, inB]; omega
 have e2 : jh ⟨1, row, col, count, til, g⟩ = (decide (count = 0) && decide (til = 0) && decide (g.length = 0)) := by
  rw [Bool.eq_iff_iff]; simp [jh, and_assoc]
 simp only [vb, vU, e1, e2]
 simp
theorem qgj {row col count til : Int} {g : List Gl} : vb ⟨2, row, col, count, til, g⟩ = vU (inB row 0 59 && inB til (row + 1) 60 && inB count (-60) 60 && decide (count ≠ 0)) (decide (col = 0) && decide (g.length = 0)) false := by
 have e1 : jg ⟨2, row, col, count, til, g⟩ = (inB row 0 59 && inB til (row + 1) 60 && inB count (-60) 60 && decide (count ≠ 0)) := by
  rw [Bool.eq_iff_iff]; simp [jg, inB]; omega
 have e2 : jh ⟨2, row, col, count, til, g⟩ = (decide (col = 0) && decide (g.length = 0)) := by
  rw [Bool.eq_iff_iff]; simp [jh]
 simp only [vb, vU, e1, e2]
 simp
theorem qcZ {row col count til : Int} {g : List Gl} : vb ⟨3, row, col, count, til, g⟩ = vU (inB row 0 59 && inB col 0 132 && inB count 0 132) (decide (til = 0) && !vl g) (decide (132 < g.length)) := by
 have e1 : jg ⟨3, row, col, count, til, g⟩ = (inB row 0 59 && inB col 0 132 && inB count 0 132) := by
  rw [Bool.eq_iff_iff]; simp [jg, inB]; omega
 have e2 : jh ⟨3, row, col, count, til, g⟩ = (decide (til = 0) && !vl g) := by
  rw [any_all]; rfl
 simp only [vb, vU, e1, e2]
 simp
theorem qeT {row col count til : Int} {g : List Gl} : vb ⟨4, row, col, count, til, g⟩ = vU (inB row 0 59 && inB col 0 131 && inB count 0 1) (decide (til = 0) && decide (g.length = 0)) false := by
 have e1 : jg ⟨4, row, col, count, til, g⟩ = (inB row 0 59 && inB col 0 131 && inB count 0 1) := by
  rw [Bool.eq_iff_iff]; simp [jg, inB]; omega
 have e2 : jh ⟨4, row, col, count, til, g⟩ = (decide (til = 0) && decide (g.length = 0)) := by
  rw [Bool.eq_iff_iff]; simp [jh]
 simp only [vb, vU, e1, e2]
 simp
theorem inB_iff {n a b : Int} (h : inB n a b = true) : a <= n /\ n <= b := by
 unfold inB at h
 simpa using h
theorem qfc (row col count til : Int) (g : List Gl) (A : Option Addr) (cap : Nat) (w : World) : Calls prog 13 #[ku ⟨1, row, col, count, til, g⟩ A cap] w (qg (.int .i64 (vb ⟨1, row, col, count, til, g⟩)) w) := by
 rw [qgn]
 obtain ⟨RG, hRG⟩ : ∃ x, x = (inB row 1 60 && inB col 1 132) := ⟨_, rfl⟩
 obtain ⟨OT, hOT⟩ : ∃ x, x = (decide (count = 0) && decide (til = 0) && decide (g.length = 0)) := ⟨_, rfl⟩
 rw [<- hRG, <- hOT]
 replace hRG := Lh hRG
 replace hOT := Lh hOT
 have HRG := hRG
 have HOT := hOT
 go_enter func13, ntmps13
 go_upto_region 1 with fail
 refine qc (ChgBox w ⟨1, row, col, count, til, g⟩ A cap) (ChgBox.new w ⟨1, row, col, count, til, g⟩ A cap _) ?_
 intro X hX
 obtain ⟨c0, c1, c2, c3, c4, c5, hb, hzX⟩ := id hX
 dsimp only at c0 c1 c2 c3 c4 c5
 go_upto_block 0 with (go_at_call 28; refine (kp _ _ _ _).mono ?_; rintro e wy ⟨rfl, rfl⟩)
 generalize hz0 : inB row 0 59 = z0 at *
 have HZ0 := Lh hz0
 clear hz0
 go_cut [4, 5] (fun v4 v5 wx => v4 = .bool RG /\ v5 = .bool OT /\ ChgBox w ⟨1, row, col, count, til, g⟩ A cap wx)
 case first =>
  go_upto_region 6 with fail
  go_cut [4] (fun v wx => v = .bool RG /\ wx = X)
  case first =>
   clear HOT hOT
   cases h1 : inB row 1 60 with
   | false =>
    have e : Hid (RG = false) := Lh (by rw [HRG.out, h1]; rfl)
    clear HRG hRG
    go_wp2_with (go_at_call 28; refine (kp _ _ _ _).mono ?_; rintro e wy ⟨rfl, rfl⟩)
    go_meet
    exact ⟨by rw [e.out], rfl⟩
   | true =>
    have e : Hid (RG = inB col 1 132) := Lh (by rw [HRG.out, h1]; rfl)
    clear HRG hRG
    go_wp2_with (go_at_call 28; refine (kp _ _ _ _).mono ?_; rintro e wy ⟨rfl, rfl⟩)
    go_meet
    exact ⟨by rw [e.out], rfl⟩
  case rest =>
   obtain ⟨rfl, hwc⟩ := hcut
   rw [hwc]
   clear hwc HRG hRG
   have HX := Lh hX
   clear hX
   by_cases h1 : count = 0
   ·by_cases h2 : til = 0
    ·have e : Hid (OT = decide (g.length = 0)) := Lh (by rw [HOT.out, decide_eq_true h1, decide_eq_true h2]; rfl)
     have e2 : ((g.length : Int) == 0) = decide (g.length = 0) := by rw [Bool.eq_iff_iff]; simp
     clear HOT hOT
     generalize decide (g.length = 0) = DL at *
     rw [h1] at c3
     rw [h2] at c4
     go_wp2
     go_meet
     exact ⟨rfl, by rw [e.out], HX.out⟩
    ·have e : Hid (OT = false) := Lh (by rw [HOT.out, decide_eq_false h2, Bool.and_false]; rfl)
     have e2 : (til == 0) = false := beq_eq_false_iff_ne.2 h2
     clear HOT hOT h2
     rw [h1] at c3
     go_wp2
     go_meet
     exact ⟨rfl, by rw [e.out], HX.out⟩
   ·have e : Hid (OT = false) := Lh (by rw [HOT.out, decide_eq_false h1]; rfl)
    have e2 : (count == 0) = false := beq_eq_false_iff_ne.2 h1
    clear HOT hOT h1
    go_wp2
    go_meet
    exact ⟨rfl, by rw [e.out], HX.out⟩
 case rest =>
  obtain ⟨rfl, rfl, hX⟩ := hcut
  clear HRG HOT hRG hOT c0 c1 c2 c3 c4 c5
  obtain ⟨c0, c1, c2, c3, c4, c5, hb2, hz2⟩ := hX
  dsimp only at c0 c1 c2 c3 c4 c5
  cases RG with
  | false =>
   go_wp2
   go_ret
   exact ⟨rfl, hb2⟩
  | true =>
   cases OT with
   | false =>
    go_wp2
    go_ret
    exact ⟨rfl, hb2⟩
   | true =>
    go_wp2
    go_ret
    exact ⟨rfl, hb2⟩
theorem qfO (row col count til : Int) (g : List Gl) (A : Option Addr) (cap : Nat) (w : World) : Calls prog 13 #[ku ⟨2, row, col, count, til, g⟩ A cap] w (qg (.int .i64 (vb ⟨2, row, col, count, til, g⟩)) w) := by
 rw [qgj]
 obtain ⟨RG, hRG⟩ : ∃ x, x = (inB row 0 59 && inB til (row + 1) 60 && inB count (-60) 60 && decide (count ≠ 0)) := ⟨_, rfl⟩
 obtain ⟨OT, hOT⟩ : ∃ x, x = (decide (col = 0) && decide (g.length = 0)) := ⟨_, rfl⟩
 rw [<- hRG, <- hOT]
 replace hRG := Lh hRG
 replace hOT := Lh hOT
 have HRG := hRG
 have HOT := hOT
 go_enter func13, ntmps13
 go_upto_region 1 with fail
 refine qc (ChgBox w ⟨2, row, col, count, til, g⟩ A cap) (ChgBox.new w ⟨2, row, col, count, til, g⟩ A cap _) ?_
 intro X hX
 obtain ⟨c0, c1, c2, c3, c4, c5, hb, hzX⟩ := id hX
 dsimp only at c0 c1 c2 c3 c4 c5
 go_upto_block 0 with (go_at_call 28; refine (kp _ _ _ _).mono ?_; rintro e wy ⟨rfl, rfl⟩)
 generalize hz0 : inB row 0 59 = z0 at *
 have HZ0 := Lh hz0
 clear hz0
 go_cut [4, 5] (fun v4 v5 wx => v4 = .bool RG /\ v5 = .bool OT /\ ChgBox w ⟨2, row, col, count, til, g⟩ A cap wx)
 case first =>
  go_upto_region 9 with fail
  go_cut [4] (fun v wx => v = .bool RG /\ wx = X)
  case first =>
   clear HOT hOT
   cases z0 with
   | false =>
    have e : Hid (RG = false) := Lh (by rw [HRG.out]; rfl)
    clear HRG hRG
    go_wp2_with (go_at_call 28; refine (kp _ _ _ _).mono ?_; rintro e wy ⟨rfl, rfl⟩)
    go_meet
    exact ⟨by rw [e.out], rfl⟩
   | true =>
    obtain ⟨r0, r1⟩ := inB_iff HZ0.out
    have hwr : IntKind.i64.wrap (row + 1) = row + 1 := by rw [IntKind.wrap_i64]; omega
    cases h1 : inB til (row + 1) 60 with
    | false =>
     have e : Hid (RG = false) := Lh (by rw [HRG.out, h1]; rfl)
     clear HRG hRG
     go_wp2_with (go_at_call 28; refine (kp _ _ _ _).mono ?_; rintro e wy ⟨rfl, rfl⟩)
     go_meet
     exact ⟨by rw [e.out], rfl⟩
    | true =>
     cases h2 : inB count (-60) 60 with
     | false =>
      have e : Hid (RG = false) := Lh (by rw [HRG.out, h1, h2]; rfl)
      clear HRG hRG
      go_wp2_with (go_at_call 28; refine (kp _ _ _ _).mono ?_; rintro e wy ⟨rfl, rfl⟩)
      go_meet
      exact ⟨by rw [e.out], rfl⟩
     | true =>
      by_cases h3 : count = 0
      ·have e : Hid (RG = false) := Lh (by rw [HRG.out, h1, h2, decide_eq_false (fun h => h h3)]; rfl)
       have e3 : (count != 0) = false := by simp [h3]
       clear HRG hRG h3
       go_wp2_with (go_at_call 28; refine (kp _ _ _ _).mono ?_; rintro e wy ⟨rfl, rfl⟩)
       go_meet
       exact ⟨by rw [e.out], rfl⟩
      ·have e : Hid (RG = true) := Lh (by rw [HRG.out, h1, h2, decide_eq_true h3]; rfl)
       have e3 : (count != 0) = true := bne_iff_ne.2 h3
       clear HRG hRG h3
       go_wp2_with (go_at_call 28; refine (kp _ _ _ _).mono ?_; rintro e wy ⟨rfl, rfl⟩)
       go_meet
       exact ⟨by rw [e.out], rfl⟩
  case rest =>
   obtain ⟨rfl, hwc⟩ := hcut
   rw [hwc]
   clear hwc HRG hRG
   have HX := Lh hX
   clear hX
   by_cases h1 : col = 0
   ·have e : Hid (OT = decide (g.length = 0)) := Lh (by rw [HOT.out, decide_eq_true h1]; rfl)
    have e2 : ((g.length : Int) == 0) = decide (g.length = 0) := by rw [Bool.eq_iff_iff]; simp
    clear HOT hOT
    generalize decide (g.length = 0) = DL at *
    rw [h1] at c2
    go_wp2
    go_meet
    exact ⟨rfl, by rw [e.out], HX.out⟩
   ·have e : Hid (OT = false) := Lh (by rw [HOT.out, decide_eq_false h1]; rfl)
    have e2 : (col == 0) = false := beq_eq_false_iff_ne.2 h1
    clear HOT hOT h1
    go_wp2
    go_meet
    exact ⟨rfl, by rw [e.out], HX.out⟩
 case rest =>
  obtain ⟨rfl, rfl, hX⟩ := hcut
  clear HRG HOT hRG hOT c0 c1 c2 c3 c4 c5
  obtain ⟨c0, c1, c2, c3, c4, c5, hb2, hz2⟩ := hX
  dsimp only at c0 c1 c2 c3 c4 c5
  cases RG with
  | false =>
   go_wp2
   go_ret
   exact ⟨rfl, hb2⟩
  | true =>
   cases OT with
   | false =>
    go_wp2
    go_ret
    exact ⟨rfl, hb2⟩
   | true =>
    go_wp2
    go_ret
    exact ⟨rfl, hb2⟩
theorem qd0 (row col count til : Int) (g : List Gl) (A : Option Addr) (cap : Nat) (w : World) (B : Nat) (hn : g.length <= 1000000000) (rd : Rd w B 3 A g.length (qn g)) (hB : B <= w.heap.size) (hz : ∀ x ∈ g, x.text.size <= 1000000000) (hu : U8 w) : Calls prog 13 #[ku ⟨3, row, col, count, til, g⟩ A cap] w (qg (.int .i64 (vb ⟨3, row, col, count, til, g⟩)) w) := by
 rw [qcZ]
 obtain ⟨RG, hRG⟩ : ∃ x, x = (inB row 0 59 && inB col 0 132 && inB count 0 132) := ⟨_, rfl⟩
 obtain ⟨OT, hOT⟩ : ∃ x, x = (decide (til = 0) && !vl g) := ⟨_, rfl⟩
 rw [<- hRG, <- hOT]
 replace hRG := Lh hRG
 replace hOT := Lh hOT
 have HRG := hRG
 have HOT := hOT
 obtain ⟨BI, hBI⟩ : ∃ x, x = decide (132 < g.length) := ⟨_, rfl⟩
 rw [<- hBI]
 replace hBI := Lh hBI
 have HCb : Hid (∀ w', Below w.heap.size w w' -> Calls prog 29 #[.slice A g.length cap, (Value.func (.func 30) #[] #[])] w' (qg (.bool (vl g)) w')) := Lh fun w' hw => qdy g A _ cap B w' hn (rd.below (hw.mono hB)) (Nat.le_trans hB hw.size) hz (hu.below hw)
 clear rd hz hu
 go_enter func13, ntmps13
 go_upto_region 1 with fail
 refine qc (ChgBox w ⟨3, row, col, count, til, g⟩ A cap) (ChgBox.new w ⟨3, row, col, count, til, g⟩ A cap _) ?_
 intro X hX
 obtain ⟨c0, c1, c2, c3, c4, c5, hb, hzX⟩ := id hX
 dsimp only at c0 c1 c2 c3 c4 c5
 go_upto_block 0 with (go_at_call 28; refine (kp _ _ _ _).mono ?_; rintro e wy ⟨rfl, rfl⟩)
 generalize hz0 : inB row 0 59 = z0 at *
 have HZ0 := Lh hz0
 clear hz0
 go_cut [4, 5] (fun v4 v5 wx => v4 = .bool RG /\ v5 = .bool OT /\ ChgBox w ⟨3, row, col, count, til, g⟩ A cap wx)
 case first =>
  go_upto_region 12 with fail
  go_cut [4] (fun v wx => v = .bool RG /\ wx = X)
  case first =>
   clear HOT hOT HCb
   cases z0 with
   | false =>
    have e : Hid (RG = false) := Lh (by rw [HRG.out]; rfl)
    clear HRG hRG
    go_wp2_with (go_at_call 28; refine (kp _ _ _ _).mono ?_; rintro e wy ⟨rfl, rfl⟩)
    go_meet
    exact ⟨by rw [e.out], rfl⟩
   | true =>
    cases h1 : inB col 0 132 with
    | false =>
     have e : Hid (RG = false) := Lh (by rw [HRG.out, h1]; rfl)
     clear HRG hRG
     go_wp2_with (go_at_call 28; refine (kp _ _ _ _).mono ?_; rintro e wy ⟨rfl, rfl⟩)
     go_meet
     exact ⟨by rw [e.out], rfl⟩
    | true =>
     have e : Hid (RG = inB count 0 132) := Lh (by rw [HRG.out, h1]; rfl)
     clear HRG hRG
     go_wp2_with (go_at_call 28; refine (kp _ _ _ _).mono ?_; rintro e wy ⟨rfl, rfl⟩)
     go_meet
     exact ⟨by rw [e.out], rfl⟩
  case rest =>
   obtain ⟨rfl, hwc⟩ := hcut
   rw [hwc]
   clear hwc HRG hRG
   have HX := Lh hX
   clear hX
   by_cases h1 : til = 0
   ·have e : Hid (OT = !vl g) := Lh (by rw [HOT.out, decide_eq_true h1]; rfl)
    clear HOT hOT
    generalize vl g = AB at *
    rw [h1] at c4
    clear h1
    go_wp2_with (go_at_call 29; refine (HCb.out _ hb).mono ?_; rintro e' wy ⟨rfl, hby⟩)
    go_meet
    exact ⟨rfl, by rw [e.out], HX.out.on hby⟩
   ·have e : Hid (OT = false) := Lh (by rw [HOT.out, decide_eq_false h1]; rfl)
    have e2 : (til == 0) = false := beq_eq_false_iff_ne.2 h1
    clear HOT hOT h1 HCb
    go_wp2
    go_meet
    exact ⟨rfl, by rw [e.out], HX.out⟩
 case rest =>
  obtain ⟨rfl, rfl, hX⟩ := hcut
  clear HRG HOT hRG hOT c0 c1 c2 c3 c4 c5 HCb
  obtain ⟨c0, c1, c2, c3, c4, c5, hb2, hz2⟩ := hX
  dsimp only at c0 c1 c2 c3 c4 c5
  cases RG with
  | false =>
   go_wp2
   go_ret
   exact ⟨rfl, hb2⟩
  | true =>
   cases BI with
   | true =>
    have hbi : (132 : Int) < g.length := by have := of_decide_eq_true hBI.out.symm; omega
    clear hBI
    go_wp2
    go_ret
    exact ⟨rfl, hb2⟩
   | false =>
    have hbi : ¬ (132 : Int) < g.length := by have := of_decide_eq_false hBI.out.symm; omega
    clear hBI
    cases OT with
    | false =>
     go_wp2
     go_ret
     exact ⟨rfl, hb2⟩
    | true =>
     go_wp2
     go_ret
     exact ⟨rfl, hb2⟩
theorem qeo (row col count til : Int) (g : List Gl) (A : Option Addr) (cap : Nat) (w : World) : Calls prog 13 #[ku ⟨4, row, col, count, til, g⟩ A cap] w (qg (.int .i64 (vb ⟨4, row, col, count, til, g⟩)) w) := by
 rw [qeT]
 obtain ⟨RG, hRG⟩ : ∃ x, x = (inB row 0 59 && inB col 0 131 && inB count 0 1) := ⟨_, rfl⟩
 obtain ⟨OT, hOT⟩ : ∃ x, x = (decide (til = 0) && decide (g.length = 0)) := ⟨_, rfl⟩
 rw [<- hRG, <- hOT]
 replace hRG := Lh hRG
 replace hOT := Lh hOT
 have HRG := hRG
 have HOT := hOT
 go_enter func13, ntmps13
 go_upto_region 1 with fail
 refine qc (ChgBox w ⟨4, row, col, count, til, g⟩ A cap) (ChgBox.new w ⟨4, row, col, count, til, g⟩ A cap _) ?_
 intro X hX
 obtain ⟨c0, c1, c2, c3, c4, c5, hb, hzX⟩ := id hX
 dsimp only at c0 c1 c2 c3 c4 c5
 go_upto_block 0 with (go_at_call 28; refine (kp _ _ _ _).mono ?_; rintro e wy ⟨rfl, rfl⟩)
 generalize hz0 : inB row 0 59 = z0 at *
 have HZ0 := Lh hz0
 clear hz0
 go_cut [4, 5] (fun v4 v5 wx => v4 = .bool RG /\ v5 = .bool OT /\ ChgBox w ⟨4, row, col, count, til, g⟩ A cap wx)
 case first =>
  go_upto_region 15 with fail
  go_cut [4] (fun v wx => v = .bool RG /\ wx = X)
  case first =>
   clear HOT hOT
   cases z0 with
   | false =>
    have e : Hid (RG = false) := Lh (by rw [HRG.out]; rfl)
    clear HRG hRG
    go_wp2_with (go_at_call 28; refine (kp _ _ _ _).mono ?_; rintro e wy ⟨rfl, rfl⟩)
    go_meet
    exact ⟨by rw [e.out], rfl⟩
   | true =>
    cases h1 : inB col 0 131 with
    | false =>
     have e : Hid (RG = false) := Lh (by rw [HRG.out, h1]; rfl)
     clear HRG hRG
     go_wp2_with (go_at_call 28; refine (kp _ _ _ _).mono ?_; rintro e wy ⟨rfl, rfl⟩)
     go_meet
     exact ⟨by rw [e.out], rfl⟩
    | true =>
     have e : Hid (RG = inB count 0 1) := Lh (by rw [HRG.out, h1]; rfl)
     clear HRG hRG
     go_wp2_with (go_at_call 28; refine (kp _ _ _ _).mono ?_; rintro e wy ⟨rfl, rfl⟩)
     go_meet
     exact ⟨by rw [e.out], rfl⟩
  case rest =>
   obtain ⟨rfl, hwc⟩ := hcut
   rw [hwc]
   clear hwc HRG hRG
   have HX := Lh hX
   clear hX
   by_cases h1 : til = 0
   ·have e : Hid (OT = decide (g.length = 0)) := Lh (by rw [HOT.out, decide_eq_true h1]; rfl)
    have e2 : ((g.length : Int) == 0) = decide (g.length = 0) := by rw [Bool.eq_iff_iff]; simp
    clear HOT hOT
    generalize decide (g.length = 0) = DL at *
    rw [h1] at c4
    go_wp2
    go_meet
    exact ⟨rfl, by rw [e.out], HX.out⟩
   ·have e : Hid (OT = false) := Lh (by rw [HOT.out, decide_eq_false h1]; rfl)
    have e2 : (til == 0) = false := beq_eq_false_iff_ne.2 h1
    clear HOT hOT h1
    go_wp2
    go_meet
    exact ⟨rfl, by rw [e.out], HX.out⟩
 case rest =>
  obtain ⟨rfl, rfl, hX⟩ := hcut
  clear HRG HOT hRG hOT c0 c1 c2 c3 c4 c5
  obtain ⟨c0, c1, c2, c3, c4, c5, hb2, hz2⟩ := hX
  dsimp only at c0 c1 c2 c3 c4 c5
  cases RG with
  | false =>
   go_wp2
   go_ret
   exact ⟨rfl, hb2⟩
  | true =>
   cases OT with
   | false =>
    go_wp2
    go_ret
    exact ⟨rfl, hb2⟩
   | true =>
    go_wp2
    go_ret
    exact ⟨rfl, hb2⟩
theorem qfs (c : Chg) (A : Option Addr) (cap : Nat) (w : World) (h1 : c.kind ≠ 1) (h2 : c.kind ≠ 2) (h3 : c.kind ≠ 3) (h4 : c.kind ≠ 4) : Calls prog 13 #[ku c A cap] w (qg (.int .i64 (vb c)) w) := by
 have e : vb c = 9 := if_pos (by omega)
 rw [e]
 obtain ⟨kind, row, col, count, til, g⟩ := c
 have b1 : (kind == 1) = false := beq_eq_false_iff_ne.2 h1
 have b2 : (kind == 2) = false := beq_eq_false_iff_ne.2 h2
 have b3 : (kind == 3) = false := beq_eq_false_iff_ne.2 h3
 have b4 : (kind == 4) = false := beq_eq_false_iff_ne.2 h4
 clear e h1 h2 h3 h4
 go_enter func13, ntmps13
 go_upto_region 1 with fail
 refine qc (ChgBox w ⟨kind, row, col, count, til, g⟩ A cap) (ChgBox.new w ⟨kind, row, col, count, til, g⟩ A cap _) ?_
 rintro X ⟨c0, c1, c2, c3, c4, c5, hb, hzX⟩
 dsimp only at c0 c1 c2 c3 c4 c5
 go_wp2_with (go_at_call 28; refine (kp _ _ _ _).mono ?_; rintro e wy ⟨rfl, rfl⟩)
 go_ret
 exact ⟨rfl, hb⟩
theorem qgz (c : Chg) (A : Option Addr) (cap B : Nat) (w : World) (hn : c.glyphs.length <= 1000000000) (rd : Rd w B 3 A c.glyphs.length (qn c.glyphs)) (hB : B <= w.heap.size) (hz : ∀ x ∈ c.glyphs, x.text.size <= 1000000000) (hu : U8 w) :
  Calls prog 13 #[ku c A cap] w (qg (.int .i64 (vb c)) w) := by
 by_cases h1 : c.kind = 1
 ·obtain ⟨kind, row, col, count, til, g⟩ := c
  obtain rfl : kind = 1 := h1
  exact qfc row col count til g A cap w
 ·by_cases h2 : c.kind = 2
  ·obtain ⟨kind, row, col, count, til, g⟩ := c
   obtain rfl : kind = 2 := h2
   exact qfO row col count til g A cap w
  ·by_cases h3 : c.kind = 3
   ·obtain ⟨kind, row, col, count, til, g⟩ := c
    obtain rfl : kind = 3 := h3
    exact qd0 row col count til g A cap w B hn rd hB hz hu
   ·by_cases h4 : c.kind = 4
    ·obtain ⟨kind, row, col, count, til, g⟩ := c
     obtain rfl : kind = 4 := h4
     exact qeo row col count til g A cap w
    ·exact qfs c A cap w h1 h2 h3 h4
def vy : List ChgM -> Int
 | [] => 0
 | x :: t => if vb x.c = 0 then vy t else vb x.c
theorem yW : ∀ {l : List ChgM}, vy l = 0 ↔ ∀ c ∈ zE l, vb c = 0
 | [] => by simp [vy, zE]
 | x :: t => by
  have ih := yW (l := t)
  unfold vy
  constructor
  ·intro h c hc
   split at h
   ·rename_i h0
    rcases List.mem_cons.1 hc with rfl | hc
    ·exact h0
    ·exact ih.1 h c hc
   ·rename_i h0; exact absurd h h0
  ·intro h
   rw [if_pos (h x.c (by simp [zE]))]
   exact ih.2 fun c hc => h c (by simp [zE] at hc ⊢; exact .inr hc)
def SmC (l : List ChgM) : Prop := ∀ x ∈ l, x.c.glyphs.length <= 1000000000 /\ ∀ g ∈ x.c.glyphs, g.text.size <= 1000000000
theorem uCheck_ (l : List ChgM) (A : Option Addr) (n c B : Nat) (w : World) (hn : n <= 1000000000) (rd : RdC w B A n l) (hB : B <= w.heap.size) (hs : SmC l) (hu : U8 w) :
  Calls prog 21 #[.slice A n c] w (qg (.int .i64 (vy l)) w) := by
 have HN := Lh rd.len
 have HRd := Lh rd
 have HF : Hid (vy l = vy (l.drop 0)) := Lh rfl
 have HC : Hid (∀ x ∈ l, ∀ w', Below w.heap.size w w' -> Calls prog 13 #[ku x.c x.A x.cap] w' (qg (.int .i64 (vb x.c)) w')) := Lh fun x hx w' hw =>
  qgz x.c x.A x.cap B w' (hs x hx).1 ((rd.gl x hx).1.below (hw.mono hB)) (Nat.le_trans hB hw.size) (hs x hx).2 (hu.below hw)
 generalize vy l = R at *
 clear rd hs hu
 go_enter func21, ntmps21
 go_wp2
 go_loopw [8] (fun x wr => ∃ k : Nat, k <= n /\ x = .int .i64 k /\ Below w.heap.size w wr /\ Hid (R = vy (l.drop k))) (fun x _ => n - (intOf x).toNat)
 case atStart => exact ⟨0, Nat.zero_le _, rfl, Below.refl _ _, HF⟩
 case round =>
  obtain ⟨k, hk, rfl, hbel, HK⟩ := hrel
  by_cases hlt : k < n
  ·have hkl : k < l.length := by have := HN.out; omega
   obtain ⟨b, o, rfl, hbB, c0, c1, c2, c3, c4, c5⟩ := (HRd.out.below (hbel.mono hB)).at_ hkl
   have HD : Hid (vy (l.drop k) = if vb l[k].c = 0 then vy (l.drop (k + 1)) else vb l[k].c) := Lh (by rw [List.drop_eq_getElem_cons hkl]; rfl)
   have hb2 : Below w.heap.size w (wr.alloc (.cells #[.int .i64 l[k].c.kind, .int .i64 l[k].c.row, .int .i64 l[k].c.col, .int .i64 l[k].c.count, .int .i64 l[k].c.til, .slice l[k].A l[k].c.glyphs.length l[k].cap] 34)) := hbel.alloc hbel.size _
   have HCk := Lh (HC.out l[k] (List.getElem_mem hkl) _ hb2)
   generalize l[k] = x at *
   obtain ⟨⟨kind, row, col, count, til, g⟩, Ag, cg⟩ := x
   dsimp only at *
   generalize vb ⟨kind, row, col, count, til, g⟩ = K at *
   by_cases hK : K = 0
   ·have HR2 : Hid (R = vy (l.drop (k + 1))) := Lh (by rw [HK.out, HD.out, if_pos hK])
    have hKb : (K != 0) = false := by simp [hK]
    clear HK HD hK HC HRd
    go_wp2_with (go_at_call 13; refine HCk.out.mono ?_; rintro e w1 ⟨rfl, hb1⟩)
    exact ⟨⟨k + 1, by omega, by go_num, hb2.trans (hb1.mono hb2.size), HR2⟩, by simp [intOf]; omega⟩
   ·have HR2 : Hid (R = K) := Lh (by rw [HK.out, HD.out, if_neg hK])
    have hKb : (K != 0) = true := bne_iff_ne.2 hK
    clear HK HD hK HC HRd
    go_wp2_with (go_at_call 13; refine HCk.out.mono ?_; rintro e w1 ⟨rfl, hb1⟩)
    go_ret
    exact ⟨by rw [HR2.out]; rfl, hb2.trans (hb1.mono hb2.size)⟩
  ·have HR2 : Hid (R = 0) := Lh (by rw [HK.out, List.drop_of_length_le (by have := HN.out; omega)]; rfl)
   go_wp2
   go_ret
   exact ⟨by rw [HR2.out]; rfl, hbel⟩
def Gd (w : World) : Prop := Sp w /\ U8 w /\ Sty w
theorem Gd.below {w w' : World} (h : Gd w) (hb : Below w.heap.size w w') : Gd w' := ⟨h.1.below hb (Nat.le_refl _), h.2.1.below hb, h.2.2.below hb (Nat.le_refl _)⟩
theorem qfe {w : World} {r : Int} {d s : Bool} {p : Int} {c : Bool} {k : Int} {g : Nat} (h : StBox w r d s p c k g) : (Instr.loadAt 38 (.pointer (some ⟨g, 0, none⟩))).run prog w = .ok (stV r d s p c k) w := by
 obtain ⟨h0, h1, h2, h3, h4, h5⟩ := h
 go_simp
theorem qb5 {w : World} {base size n c : Nat} {e : TypeId} {A : Option Addr} {xs : List Value} (h : w.ownsRow base e size (.slice A n c) n xs) : n <= c /\ c <= maxLen := by
 rcases h.2 with ⟨h0, _⟩ | ⟨g, cap, cur, hv, h1, h2, h3, h4, _⟩
 ·injection h0 with _ h0 h0'; exact ⟨by omega, by unfold maxLen; omega⟩
 ·injection hv with _ _ hv; exact ⟨by omega, by omega⟩
end Go.Proofs.YtlndbiamiioakaaGreatDoor
