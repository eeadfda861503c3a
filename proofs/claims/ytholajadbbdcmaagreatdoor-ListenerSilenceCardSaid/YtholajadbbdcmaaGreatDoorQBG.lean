/- Joined texts: Uc2, Uc3, Uc4, Gd0. -/
import Derived.Test.YtholajadbbdcmaaGreatDoorQAA
import Derived.Test.YtholajadbbdcmaaGreatDoorQAB
import Derived.Test.YtholajadbbdcmaaGreatDoorQAC
import Derived.Test.YtholajadbbdcmaaGreatDoorQAE
import Derived.Test.YtholajadbbdcmaaGreatDoorQAF
import Derived.Test.YtholajadbbdcmaaGreatDoorQAG
import Derived.Test.YtholajadbbdcmaaGreatDoorQAH
import Derived.Test.YtholajadbbdcmaaGreatDoorQAI
import Derived.Test.YtholajadbbdcmaaGreatDoorQAM
import Derived.Test.YtholajadbbdcmaaGreatDoorQAN
import Derived.Test.YtholajadbbdcmaaGreatDoorQAP
import Derived.Test.YtholajadbbdcmaaGreatDoorQAQ
import Derived.Test.YtholajadbbdcmaaGreatDoorQAS
import Derived.Test.YtholajadbbdcmaaGreatDoorQAT
import Derived.Test.YtholajadbbdcmaaGreatDoorQAU
import Derived.Test.YtholajadbbdcmaaGreatDoorQAY
import Derived.Test.YtholajadbbdcmaaGreatDoorQBB
import Derived.Test.YtholajadbbdcmaaGreatDoorQBC
import Derived.Test.YtholajadbbdcmaaGreatDoorQBF
set_option linter.unusedVariables false
set_option linter.unusedSimpArgs false
set_option linter.unnecessarySimpa false
namespace Go.Proofs.YtholajadbbdcmaaGreatDoor
open Go.RowKit
set_option maxRecDepth 20000
def anyBad (l : List Gl) : Bool := l.any fun g => !validG g
set_option maxHeartbeats 1000000 in
theorem index_bad (l : List Gl) (A : Option Addr) (n c B : Nat) (w : World) (hn : n ≤ 1000000000) (rd : Rd w B 3 A n (encGs l)) (hB : B ≤ w.heap.size) (hz : ∀ g ∈ l, g.text.size ≤ 1000000000) (hu : U8 w) :
  Calls Tryz.prog 109 #[.slice A n c, (Value.func (.func 81) #[] #[])] w fun e w' => (∃ x : Int, e = .returned (.int .i64 x) ∧ (0 ≤ x ↔ anyBad l = true)) ∧ Below w.heap.size w w' := by
 have HN := Lib.hid (gl_len rd)
 have HR := Lib.hid rd
 have HF : Hid (anyBad l = anyBad (l.drop 0)) := Lib.hid rfl
 have HV : Hid (∀ g ∈ l, ∀ w', Below w.heap.size w w' → Calls Tryz.prog 81 #[glV g] w' (Gives (.bool (!validG g)) w')) := Lib.hid fun g hg w' hw => notvalid_ g (hz g hg) w' (hu.below hw)
 generalize anyBad l = R at *
 clear hz hu rd
 go_enter Tryz.func109, Tryz.ntmps109
 go_wp2
 go_loopw [8] (fun x wr => ∃ k : Nat, k ≤ n ∧ x = .int .i64 k ∧ Below w.heap.size w wr ∧ Hid (R = anyBad (l.drop k))) (fun x _ => n - (intOf x).toNat)
 case atStart => exact ⟨0, Nat.zero_le _, rfl, Below.refl _ _, HF⟩
 case round =>
  obtain ⟨k, hk, rfl, hbel, HK⟩ := hrel
  by_cases hlt : k < n
  ·have hkl : k < l.length := by have := HN.out; omega
   obtain ⟨b, o, rfl, hbB, g0, g1, g2⟩ := rd_gl (HR.out.below (hbel.mono hB)) hkl HN.out
   have HD : Hid (anyBad (l.drop k) = (!validG l[k] || anyBad (l.drop (k + 1)))) := Lib.hid (by rw [List.drop_eq_getElem_cons hkl]; rfl)
   have HVk := Lib.hid (HV.out l[k] (List.getElem_mem hkl) wr hbel)
   generalize l[k] = g at *
   obtain ⟨t, wd, st⟩ := g
   dsimp only at *
   cases hv : validG ⟨t, wd, st⟩ with
   | false =>
    rw [hv] at HVk
    have HR2 : Hid (R = true) := Lib.hid (by rw [HK.out, HD.out, hv]; rfl)
    clear HK HD hv HV HR
    go_wp2_with (go_at_call 81; refine HVk.out.mono ?_; rintro e w1 ⟨rfl, hb1⟩)
    go_ret
    exact ⟨⟨k, rfl, by rw [HR2.out]; simp⟩, hbel.trans (hb1.mono hbel.size)⟩
   | true =>
    rw [hv] at HVk
    have HR2 : Hid (R = anyBad (l.drop (k + 1))) := Lib.hid (by rw [HK.out, HD.out, hv]; rfl)
    clear HK HD hv HV HR
    go_wp2_with (go_at_call 81; refine HVk.out.mono ?_; rintro e w1 ⟨rfl, hb1⟩)
    exact ⟨⟨k + 1, by omega, by go_num, hbel.trans (hb1.mono hbel.size), HR2⟩, by simp [intOf]; omega⟩
  ·have HR2 : Hid (R = false) := Lib.hid (by rw [HK.out, List.drop_of_length_le (by have := HN.out; omega)]; rfl)
   go_wp2
   go_ret
   exact ⟨⟨-1, rfl, by rw [HR2.out]; simp⟩, hbel⟩
set_option maxHeartbeats 1000000 in
theorem contains_bad (l : List Gl) (A : Option Addr) (n c B : Nat) (w : World) (hn : n ≤ 1000000000) (rd : Rd w B 3 A n (encGs l)) (hB : B ≤ w.heap.size) (hz : ∀ g ∈ l, g.text.size ≤ 1000000000) (hu : U8 w) :
  Calls Tryz.prog 80 #[.slice A n c, (Value.func (.func 81) #[] #[])] w (Gives (.bool (anyBad l)) w) := by
 have HI := Lib.hid (index_bad l A n c B w hn rd hB hz hu)
 generalize anyBad l = R at *
 clear rd hz hu
 go_enter Tryz.func80, Tryz.ntmps80
 go_wp2_with (go_at_call 109; refine HI.out.mono ?_; rintro e w1 ⟨⟨x, rfl, hx⟩, hb1⟩)
 go_ret
 exact ⟨rfl, hb1⟩
def ChgBox (w : World) (c : Chg) (A : Option Addr) (cap : Nat) (wx : World) : Prop :=
 wx.cell? ⟨w.heap.size, 0, none⟩ = some (.int .i64 c.kind) ∧ wx.cell? ⟨w.heap.size, 1, none⟩ = some (.int .i64 c.row) ∧ wx.cell? ⟨w.heap.size, 2, none⟩ = some (.int .i64 c.col) ∧ wx.cell? ⟨w.heap.size, 3, none⟩ = some (.int .i64 c.count) ∧ wx.cell? ⟨w.heap.size, 4, none⟩ = some (.int .i64 c.til) ∧ wx.cell? ⟨w.heap.size, 5, none⟩ = some (.slice A c.glyphs.length cap) ∧ Below w.heap.size w wx ∧ w.heap.size + 1 ≤ wx.heap.size
theorem ChgBox.new (w : World) (c : Chg) (A : Option Addr) (cap : Nat) (ty : TypeId) : ChgBox w c A cap (w.alloc (.cells #[.int .i64 c.kind, .int .i64 c.row, .int .i64 c.col, .int .i64 c.count, .int .i64 c.til, .slice A c.glyphs.length cap] ty)) :=
 ⟨cell_built w _ _ 0, cell_built w _ _ 1, cell_built w _ _ 2, cell_built w _ _ 3, cell_built w _ _ 4, cell_built w _ _ 5, (Below.refl _ _).alloc (Nat.le_refl _) _, by simp⟩
theorem ChgBox.on {w wx wy : World} {c : Chg} {A : Option Addr} {cap : Nat} (h : ChgBox w c A cap wx) (hb : Below wx.heap.size wx wy) : ChgBox w c A cap wy := by
 obtain ⟨h0, h1, h2, h3, h4, h5, h6, h7⟩ := h
 have k : ∀ i, wy.cell? ⟨w.heap.size, i, none⟩ = wx.cell? ⟨w.heap.size, i, none⟩ := fun i => hb.cell (by show w.heap.size < _; omega)
 exact ⟨(k 0).trans h0, (k 1).trans h1, (k 2).trans h2, (k 3).trans h3, (k 4).trans h4, (k 5).trans h5, h6.trans (hb.mono (by omega)), by have := hb.size; omega⟩
theorem any_all (l : List Gl) : (!anyBad l) = l.all fun g => decide (glyphC g = 0) := by
 unfold anyBad
 induction l with
 | nil => rfl
 | cons g t ih => rw [List.any_cons, List.all_cons, ← ih, Bool.not_or, Bool.not_not]; rfl
def chkV (RG OT big : Bool) : Int := if RG = false then 2 else if big = true then 5 else if OT = false then 1 else 0
theorem chk_one {row col count til : Int} {g : List Gl} : chkU ⟨1, row, col, count, til, g⟩ = chkV (inB row 1 60 && inB col 1 132) (decide (count = 0) && decide (til = 0) && decide (g.length = 0)) false := by
 have e1 : rangesU ⟨1, row, col, count, til, g⟩ = (inB row 1 60 && inB col 1 132) := by
  rw [Bool.eq_iff_iff]; simp [rangesU, inB]; omega
 have e2 : othersU ⟨1, row, col, count, til, g⟩ = (decide (count = 0) && decide (til = 0) && decide (g.length = 0)) := by
  rw [Bool.eq_iff_iff]; simp [othersU, and_assoc]
 simp only [chkU, chkV, e1, e2]
 simp
theorem chk_two {row col count til : Int} {g : List Gl} : chkU ⟨2, row, col, count, til, g⟩ = chkV (inB row 0 59 && inB til (row + 1) 60 && inB count (-60) 60 && decide (count ≠ 0)) (decide (col = 0) && decide (g.length = 0)) false := by
 have e1 : rangesU ⟨2, row, col, count, til, g⟩ = (inB row 0 59 && inB til (row + 1) 60 && inB count (-60) 60 && decide (count ≠ 0)) := by
  rw [Bool.eq_iff_iff]; simp [rangesU, inB]; omega
 have e2 : othersU ⟨2, row, col, count, til, g⟩ = (decide (col = 0) && decide (g.length = 0)) := by
  rw [Bool.eq_iff_iff]; simp [othersU]
 simp only [chkU, chkV, e1, e2]
 simp
theorem chk_three {row col count til : Int} {g : List Gl} : chkU ⟨3, row, col, count, til, g⟩ = chkV (inB row 0 59 && inB col 0 132 && inB count 0 132) (decide (til = 0) && !anyBad g) (decide (132 < g.length)) := by
 have e1 : rangesU ⟨3, row, col, count, til, g⟩ = (inB row 0 59 && inB col 0 132 && inB count 0 132) := by
  rw [Bool.eq_iff_iff]; simp [rangesU, inB]; omega
 have e2 : othersU ⟨3, row, col, count, til, g⟩ = (decide (til = 0) && !anyBad g) := by
  rw [any_all]; rfl
 simp only [chkU, chkV, e1, e2]
 simp
theorem chk_four {row col count til : Int} {g : List Gl} : chkU ⟨4, row, col, count, til, g⟩ = chkV (inB row 0 59 && inB col 0 131 && inB count 0 1) (decide (til = 0) && decide (g.length = 0)) false := by
 have e1 : rangesU ⟨4, row, col, count, til, g⟩ = (inB row 0 59 && inB col 0 131 && inB count 0 1) := by
  rw [Bool.eq_iff_iff]; simp [rangesU, inB]; omega
 have e2 : othersU ⟨4, row, col, count, til, g⟩ = (decide (til = 0) && decide (g.length = 0)) := by
  rw [Bool.eq_iff_iff]; simp [othersU]
 simp only [chkU, chkV, e1, e2]
 simp
theorem inB_iff {n a b : Int} (h : inB n a b = true) : a ≤ n ∧ n ≤ b := by
 unfold inB at h
 simpa using h
set_option maxHeartbeats 8000000 in
theorem ucheck_one (row col count til : Int) (g : List Gl) (A : Option Addr) (cap : Nat) (w : World) : Calls Tryz.prog 51 #[chgV ⟨1, row, col, count, til, g⟩ A cap] w (Gives (.int .i64 (chkU ⟨1, row, col, count, til, g⟩)) w) := by
 rw [chk_one]
 obtain ⟨RG, hRG⟩ : ∃ x, x = (inB row 1 60 && inB col 1 132) := ⟨_, rfl⟩
 obtain ⟨OT, hOT⟩ : ∃ x, x = (decide (count = 0) && decide (til = 0) && decide (g.length = 0)) := ⟨_, rfl⟩
 rw [← hRG, ← hOT]
 replace hRG := Lib.hid hRG
 replace hOT := Lib.hid hOT
 have HRG := hRG
 have HOT := hOT
 go_enter Tryz.func51, Tryz.ntmps51
 go_upto_region 1 with fail
 refine wp_fg (ChgBox w ⟨1, row, col, count, til, g⟩ A cap) (ChgBox.new w ⟨1, row, col, count, til, g⟩ A cap _) ?_
 intro X hX
 obtain ⟨c0, c1, c2, c3, c4, c5, hb, hzX⟩ := id hX
 dsimp only at c0 c1 c2 c3 c4 c5
 go_upto_block 0 with (go_at_call 79; refine (in_s _ _ _ _).mono ?_; rintro e wy ⟨rfl, rfl⟩)
 generalize hz0 : inB row 0 59 = z0 at *
 have HZ0 := Lib.hid hz0
 clear hz0
 go_cut [4, 5] (fun v4 v5 wx => v4 = .bool RG ∧ v5 = .bool OT ∧ ChgBox w ⟨1, row, col, count, til, g⟩ A cap wx)
 case first =>
  go_upto_region 6 with fail
  go_cut [4] (fun v wx => v = .bool RG ∧ wx = X)
  case first =>
   clear HOT hOT
   cases h1 : inB row 1 60 with
   | false =>
    have e : Hid (RG = false) := Lib.hid (by rw [HRG.out, h1]; rfl)
    clear HRG hRG
    go_wp2_with (go_at_call 79; refine (in_s _ _ _ _).mono ?_; rintro e wy ⟨rfl, rfl⟩)
    go_meet
    exact ⟨by rw [e.out], rfl⟩
   | true =>
    have e : Hid (RG = inB col 1 132) := Lib.hid (by rw [HRG.out, h1]; rfl)
    clear HRG hRG
    go_wp2_with (go_at_call 79; refine (in_s _ _ _ _).mono ?_; rintro e wy ⟨rfl, rfl⟩)
    go_meet
    exact ⟨by rw [e.out], rfl⟩
  case rest =>
   obtain ⟨rfl, hwc⟩ := hcut
   rw [hwc]
   clear hwc HRG hRG
   have HX := Lib.hid hX
   clear hX
   by_cases h1 : count = 0
   ·by_cases h2 : til = 0
    ·have e : Hid (OT = decide (g.length = 0)) := Lib.hid (by rw [HOT.out, decide_eq_true h1, decide_eq_true h2]; rfl)
     have e2 : ((g.length : Int) == 0) = decide (g.length = 0) := by rw [Bool.eq_iff_iff]; simp
     clear HOT hOT
     generalize decide (g.length = 0) = DL at *
     rw [h1] at c3
     rw [h2] at c4
     go_wp2
     go_meet
     exact ⟨rfl, by rw [e.out], HX.out⟩
    ·have e : Hid (OT = false) := Lib.hid (by rw [HOT.out, decide_eq_false h2, Bool.and_false]; rfl)
     have e2 : (til == 0) = false := beq_eq_false_iff_ne.2 h2
     clear HOT hOT h2
     rw [h1] at c3
     go_wp2
     go_meet
     exact ⟨rfl, by rw [e.out], HX.out⟩
   ·have e : Hid (OT = false) := Lib.hid (by rw [HOT.out, decide_eq_false h1]; rfl)
    have e2 : (count == 0) = false := beq_eq_false_iff_ne.2 h1
    clear HOT hOT h1
    go_wp2
    go_meet
    exact ⟨rfl, by rw [e.out], HX.out⟩
 case rest =>
  obtain ⟨rfl, rfl, hX⟩ := hcut
  clear HRG HOT hRG hOT c0 c1 c2 c3 c4 c5
  obtain ⟨c0, c1, c2, c3, c4, c5, hb2, hz2⟩ := hX
  dsimp only at c0 c1 c2 c3 c4 c5
  cases RG with
  | false =>
   go_wp2
   go_ret
   exact ⟨rfl, hb2⟩
  | true =>
   cases OT with
   | false =>
    go_wp2
    go_ret
    exact ⟨rfl, hb2⟩
   | true =>
    go_wp2
    go_ret
    exact ⟨rfl, hb2⟩
set_option maxHeartbeats 8000000 in
theorem ucheck_two (row col count til : Int) (g : List Gl) (A : Option Addr) (cap : Nat) (w : World) : Calls Tryz.prog 51 #[chgV ⟨2, row, col, count, til, g⟩ A cap] w (Gives (.int .i64 (chkU ⟨2, row, col, count, til, g⟩)) w) := by
 rw [chk_two]
 obtain ⟨RG, hRG⟩ : ∃ x, x = (inB row 0 59 && inB til (row + 1) 60 && inB count (-60) 60 && decide (count ≠ 0)) := ⟨_, rfl⟩
 obtain ⟨OT, hOT⟩ : ∃ x, x = (decide (col = 0) && decide (g.length = 0)) := ⟨_, rfl⟩
 rw [← hRG, ← hOT]
 replace hRG := Lib.hid hRG
 replace hOT := Lib.hid hOT
 have HRG := hRG
 have HOT := hOT
 go_enter Tryz.func51, Tryz.ntmps51
 go_upto_region 1 with fail
 refine wp_fg (ChgBox w ⟨2, row, col, count, til, g⟩ A cap) (ChgBox.new w ⟨2, row, col, count, til, g⟩ A cap _) ?_
 intro X hX
 obtain ⟨c0, c1, c2, c3, c4, c5, hb, hzX⟩ := id hX
 dsimp only at c0 c1 c2 c3 c4 c5
 go_upto_block 0 with (go_at_call 79; refine (in_s _ _ _ _).mono ?_; rintro e wy ⟨rfl, rfl⟩)
 generalize hz0 : inB row 0 59 = z0 at *
 have HZ0 := Lib.hid hz0
 clear hz0
 go_cut [4, 5] (fun v4 v5 wx => v4 = .bool RG ∧ v5 = .bool OT ∧ ChgBox w ⟨2, row, col, count, til, g⟩ A cap wx)
 case first =>
  go_upto_region 9 with fail
  go_cut [4] (fun v wx => v = .bool RG ∧ wx = X)
  case first =>
   clear HOT hOT
   cases z0 with
   | false =>
    have e : Hid (RG = false) := Lib.hid (by rw [HRG.out]; rfl)
    clear HRG hRG
    go_wp2_with (go_at_call 79; refine (in_s _ _ _ _).mono ?_; rintro e wy ⟨rfl, rfl⟩)
    go_meet
    exact ⟨by rw [e.out], rfl⟩
   | true =>
    obtain ⟨r0, r1⟩ := inB_iff HZ0.out
    have hwr : IntKind.i64.wrap (row + 1) = row + 1 := by rw [IntKind.wrap_i64]; omega
    cases h1 : inB til (row + 1) 60 with
    | false =>
     have e : Hid (RG = false) := Lib.hid (by rw [HRG.out, h1]; rfl)
     clear HRG hRG
     go_wp2_with (go_at_call 79; refine (in_s _ _ _ _).mono ?_; rintro e wy ⟨rfl, rfl⟩)
     go_meet
     exact ⟨by rw [e.out], rfl⟩
    | true =>
     cases h2 : inB count (-60) 60 with
     | false =>
      have e : Hid (RG = false) := Lib.hid (by rw [HRG.out, h1, h2]; rfl)
      clear HRG hRG
      go_wp2_with (go_at_call 79; refine (in_s _ _ _ _).mono ?_; rintro e wy ⟨rfl, rfl⟩)
      go_meet
      exact ⟨by rw [e.out], rfl⟩
     | true =>
      by_cases h3 : count = 0
      ·have e : Hid (RG = false) := Lib.hid (by rw [HRG.out, h1, h2, decide_eq_false (fun h => h h3)]; rfl)
       have e3 : (count != 0) = false := by simp [h3]
       clear HRG hRG h3
       go_wp2_with (go_at_call 79; refine (in_s _ _ _ _).mono ?_; rintro e wy ⟨rfl, rfl⟩)
       go_meet
       exact ⟨by rw [e.out], rfl⟩
      ·have e : Hid (RG = true) := Lib.hid (by rw [HRG.out, h1, h2, decide_eq_true h3]; rfl)
       have e3 : (count != 0) = true := bne_iff_ne.2 h3
       clear HRG hRG h3
       go_wp2_with (go_at_call 79; refine (in_s _ _ _ _).mono ?_; rintro e wy ⟨rfl, rfl⟩)
       go_meet
       exact ⟨by rw [e.out], rfl⟩
  case rest =>
   obtain ⟨rfl, hwc⟩ := hcut
   rw [hwc]
   clear hwc HRG hRG
   have HX := Lib.hid hX
   clear hX
   by_cases h1 : col = 0
   ·have e : Hid (OT = decide (g.length = 0)) := Lib.hid (by rw [HOT.out, decide_eq_true h1]; rfl)
    have e2 : ((g.length : Int) == 0) = decide (g.length = 0) := by rw [Bool.eq_iff_iff]; simp
    clear HOT hOT
    generalize decide (g.length = 0) = DL at *
    rw [h1] at c2
    go_wp2
    go_meet
    exact ⟨rfl, by rw [e.out], HX.out⟩
   ·have e : Hid (OT = false) := Lib.hid (by rw [HOT.out, decide_eq_false h1]; rfl)
    have e2 : (col == 0) = false := beq_eq_false_iff_ne.2 h1
    clear HOT hOT h1
    go_wp2
    go_meet
    exact ⟨rfl, by rw [e.out], HX.out⟩
 case rest =>
  obtain ⟨rfl, rfl, hX⟩ := hcut
  clear HRG HOT hRG hOT c0 c1 c2 c3 c4 c5
  obtain ⟨c0, c1, c2, c3, c4, c5, hb2, hz2⟩ := hX
  dsimp only at c0 c1 c2 c3 c4 c5
  cases RG with
  | false =>
   go_wp2
   go_ret
   exact ⟨rfl, hb2⟩
  | true =>
   cases OT with
   | false =>
    go_wp2
    go_ret
    exact ⟨rfl, hb2⟩
   | true =>
    go_wp2
    go_ret
    exact ⟨rfl, hb2⟩
set_option maxHeartbeats 8000000 in
theorem ucheck_three (row col count til : Int) (g : List Gl) (A : Option Addr) (cap : Nat) (w : World) (B : Nat) (hn : g.length ≤ 1000000000) (rd : Rd w B 3 A g.length (encGs g)) (hB : B ≤ w.heap.size) (hz : ∀ x ∈ g, x.text.size ≤ 1000000000) (hu : U8 w) : Calls Tryz.prog 51 #[chgV ⟨3, row, col, count, til, g⟩ A cap] w (Gives (.int .i64 (chkU ⟨3, row, col, count, til, g⟩)) w) := by
 rw [chk_three]
 obtain ⟨RG, hRG⟩ : ∃ x, x = (inB row 0 59 && inB col 0 132 && inB count 0 132) := ⟨_, rfl⟩
 obtain ⟨OT, hOT⟩ : ∃ x, x = (decide (til = 0) && !anyBad g) := ⟨_, rfl⟩
 rw [← hRG, ← hOT]
 replace hRG := Lib.hid hRG
 replace hOT := Lib.hid hOT
 have HRG := hRG
 have HOT := hOT
 obtain ⟨BI, hBI⟩ : ∃ x, x = decide (132 < g.length) := ⟨_, rfl⟩
 rw [← hBI]
 replace hBI := Lib.hid hBI
 have HCb : Hid (∀ w', Below w.heap.size w w' → Calls Tryz.prog 80 #[.slice A g.length cap, (Value.func (.func 81) #[] #[])] w' (Gives (.bool (anyBad g)) w')) := Lib.hid fun w' hw => contains_bad g A _ cap B w' hn (rd.below (hw.mono hB)) (Nat.le_trans hB hw.size) hz (hu.below hw)
 clear rd hz hu
 go_enter Tryz.func51, Tryz.ntmps51
 go_upto_region 1 with fail
 refine wp_fg (ChgBox w ⟨3, row, col, count, til, g⟩ A cap) (ChgBox.new w ⟨3, row, col, count, til, g⟩ A cap _) ?_
 intro X hX
 obtain ⟨c0, c1, c2, c3, c4, c5, hb, hzX⟩ := id hX
 dsimp only at c0 c1 c2 c3 c4 c5
 go_upto_block 0 with (go_at_call 79; refine (in_s _ _ _ _).mono ?_; rintro e wy ⟨rfl, rfl⟩)
 generalize hz0 : inB row 0 59 = z0 at *
 have HZ0 := Lib.hid hz0
 clear hz0
 go_cut [4, 5] (fun v4 v5 wx => v4 = .bool RG ∧ v5 = .bool OT ∧ ChgBox w ⟨3, row, col, count, til, g⟩ A cap wx)
 case first =>
  go_upto_region 12 with fail
  go_cut [4] (fun v wx => v = .bool RG ∧ wx = X)
  case first =>
   clear HOT hOT HCb
   cases z0 with
   | false =>
    have e : Hid (RG = false) := Lib.hid (by rw [HRG.out]; rfl)
    clear HRG hRG
    go_wp2_with (go_at_call 79; refine (in_s _ _ _ _).mono ?_; rintro e wy ⟨rfl, rfl⟩)
    go_meet
    exact ⟨by rw [e.out], rfl⟩
   | true =>
    cases h1 : inB col 0 132 with
    | false =>
     have e : Hid (RG = false) := Lib.hid (by rw [HRG.out, h1]; rfl)
     clear HRG hRG
     go_wp2_with (go_at_call 79; refine (in_s _ _ _ _).mono ?_; rintro e wy ⟨rfl, rfl⟩)
     go_meet
     exact ⟨by rw [e.out], rfl⟩
    | true =>
     have e : Hid (RG = inB count 0 132) := Lib.hid (by rw [HRG.out, h1]; rfl)
     clear HRG hRG
     go_wp2_with (go_at_call 79; refine (in_s _ _ _ _).mono ?_; rintro e wy ⟨rfl, rfl⟩)
     go_meet
     exact ⟨by rw [e.out], rfl⟩
  case rest =>
   obtain ⟨rfl, hwc⟩ := hcut
   rw [hwc]
   clear hwc HRG hRG
   have HX := Lib.hid hX
   clear hX
   by_cases h1 : til = 0
   ·have e : Hid (OT = !anyBad g) := Lib.hid (by rw [HOT.out, decide_eq_true h1]; rfl)
    clear HOT hOT
    generalize anyBad g = AB at *
    rw [h1] at c4
    clear h1
    go_wp2_with (go_at_call 80; refine (HCb.out _ hb).mono ?_; rintro e' wy ⟨rfl, hby⟩)
    go_meet
    exact ⟨rfl, by rw [e.out], HX.out.on hby⟩
   ·have e : Hid (OT = false) := Lib.hid (by rw [HOT.out, decide_eq_false h1]; rfl)
    have e2 : (til == 0) = false := beq_eq_false_iff_ne.2 h1
    clear HOT hOT h1 HCb
    go_wp2
    go_meet
    exact ⟨rfl, by rw [e.out], HX.out⟩
 case rest =>
  obtain ⟨rfl, rfl, hX⟩ := hcut
  clear HRG HOT hRG hOT c0 c1 c2 c3 c4 c5 HCb
  obtain ⟨c0, c1, c2, c3, c4, c5, hb2, hz2⟩ := hX
  dsimp only at c0 c1 c2 c3 c4 c5
  cases RG with
  | false =>
   go_wp2
   go_ret
   exact ⟨rfl, hb2⟩
  | true =>
   cases BI with
   | true =>
    have hbi : (132 : Int) < g.length := by have := of_decide_eq_true hBI.out.symm; omega
    clear hBI
    go_wp2
    go_ret
    exact ⟨rfl, hb2⟩
   | false =>
    have hbi : ¬ (132 : Int) < g.length := by have := of_decide_eq_false hBI.out.symm; omega
    clear hBI
    cases OT with
    | false =>
     go_wp2
     go_ret
     exact ⟨rfl, hb2⟩
    | true =>
     go_wp2
     go_ret
     exact ⟨rfl, hb2⟩
set_option maxHeartbeats 8000000 in
theorem ucheck_four (row col count til : Int) (g : List Gl) (A : Option Addr) (cap : Nat) (w : World) : Calls Tryz.prog 51 #[chgV ⟨4, row, col, count, til, g⟩ A cap] w (Gives (.int .i64 (chkU ⟨4, row, col, count, til, g⟩)) w) := by
 rw [chk_four]
 obtain ⟨RG, hRG⟩ : ∃ x, x = (inB row 0 59 && inB col 0 131 && inB count 0 1) := ⟨_, rfl⟩
 obtain ⟨OT, hOT⟩ : ∃ x, x = (decide (til = 0) && decide (g.length = 0)) := ⟨_, rfl⟩
 rw [← hRG, ← hOT]
 replace hRG := Lib.hid hRG
 replace hOT := Lib.hid hOT
 have HRG := hRG
 have HOT := hOT
 go_enter Tryz.func51, Tryz.ntmps51
 go_upto_region 1 with fail
 refine wp_fg (ChgBox w ⟨4, row, col, count, til, g⟩ A cap) (ChgBox.new w ⟨4, row, col, count, til, g⟩ A cap _) ?_
 intro X hX
 obtain ⟨c0, c1, c2, c3, c4, c5, hb, hzX⟩ := id hX
 dsimp only at c0 c1 c2 c3 c4 c5
 go_upto_block 0 with (go_at_call 79; refine (in_s _ _ _ _).mono ?_; rintro e wy ⟨rfl, rfl⟩)
 generalize hz0 : inB row 0 59 = z0 at *
 have HZ0 := Lib.hid hz0
 clear hz0
 go_cut [4, 5] (fun v4 v5 wx => v4 = .bool RG ∧ v5 = .bool OT ∧ ChgBox w ⟨4, row, col, count, til, g⟩ A cap wx)
 case first =>
  go_upto_region 15 with fail
  go_cut [4] (fun v wx => v = .bool RG ∧ wx = X)
  case first =>
   clear HOT hOT
   cases z0 with
   | false =>
    have e : Hid (RG = false) := Lib.hid (by rw [HRG.out]; rfl)
    clear HRG hRG
    go_wp2_with (go_at_call 79; refine (in_s _ _ _ _).mono ?_; rintro e wy ⟨rfl, rfl⟩)
    go_meet
    exact ⟨by rw [e.out], rfl⟩
   | true =>
    cases h1 : inB col 0 131 with
    | false =>
     have e : Hid (RG = false) := Lib.hid (by rw [HRG.out, h1]; rfl)
     clear HRG hRG
     go_wp2_with (go_at_call 79; refine (in_s _ _ _ _).mono ?_; rintro e wy ⟨rfl, rfl⟩)
     go_meet
     exact ⟨by rw [e.out], rfl⟩
    | true =>
     have e : Hid (RG = inB count 0 1) := Lib.hid (by rw [HRG.out, h1]; rfl)
     clear HRG hRG
     go_wp2_with (go_at_call 79; refine (in_s _ _ _ _).mono ?_; rintro e wy ⟨rfl, rfl⟩)
     go_meet
     exact ⟨by rw [e.out], rfl⟩
  case rest =>
   obtain ⟨rfl, hwc⟩ := hcut
   rw [hwc]
   clear hwc HRG hRG
   have HX := Lib.hid hX
   clear hX
   by_cases h1 : til = 0
   ·have e : Hid (OT = decide (g.length = 0)) := Lib.hid (by rw [HOT.out, decide_eq_true h1]; rfl)
    have e2 : ((g.length : Int) == 0) = decide (g.length = 0) := by rw [Bool.eq_iff_iff]; simp
    clear HOT hOT
    generalize decide (g.length = 0) = DL at *
    rw [h1] at c4
    go_wp2
    go_meet
    exact ⟨rfl, by rw [e.out], HX.out⟩
   ·have e : Hid (OT = false) := Lib.hid (by rw [HOT.out, decide_eq_false h1]; rfl)
    have e2 : (til == 0) = false := beq_eq_false_iff_ne.2 h1
    clear HOT hOT h1
    go_wp2
    go_meet
    exact ⟨rfl, by rw [e.out], HX.out⟩
 case rest =>
  obtain ⟨rfl, rfl, hX⟩ := hcut
  clear HRG HOT hRG hOT c0 c1 c2 c3 c4 c5
  obtain ⟨c0, c1, c2, c3, c4, c5, hb2, hz2⟩ := hX
  dsimp only at c0 c1 c2 c3 c4 c5
  cases RG with
  | false =>
   go_wp2
   go_ret
   exact ⟨rfl, hb2⟩
  | true =>
   cases OT with
   | false =>
    go_wp2
    go_ret
    exact ⟨rfl, hb2⟩
   | true =>
    go_wp2
    go_ret
    exact ⟨rfl, hb2⟩
set_option maxHeartbeats 2000000 in
theorem ucheck_oth (c : Chg) (A : Option Addr) (cap : Nat) (w : World) (h1 : c.kind ≠ 1) (h2 : c.kind ≠ 2) (h3 : c.kind ≠ 3) (h4 : c.kind ≠ 4) : Calls Tryz.prog 51 #[chgV c A cap] w (Gives (.int .i64 (chkU c)) w) := by
 have e : chkU c = 9 := if_pos (by omega)
 rw [e]
 obtain ⟨kind, row, col, count, til, g⟩ := c
 have b1 : (kind == 1) = false := beq_eq_false_iff_ne.2 h1
 have b2 : (kind == 2) = false := beq_eq_false_iff_ne.2 h2
 have b3 : (kind == 3) = false := beq_eq_false_iff_ne.2 h3
 have b4 : (kind == 4) = false := beq_eq_false_iff_ne.2 h4
 clear e h1 h2 h3 h4
 go_enter Tryz.func51, Tryz.ntmps51
 go_upto_region 1 with fail
 refine wp_fg (ChgBox w ⟨kind, row, col, count, til, g⟩ A cap) (ChgBox.new w ⟨kind, row, col, count, til, g⟩ A cap _) ?_
 rintro X ⟨c0, c1, c2, c3, c4, c5, hb, hzX⟩
 dsimp only at c0 c1 c2 c3 c4 c5
 go_wp2_with (go_at_call 79; refine (in_s _ _ _ _).mono ?_; rintro e wy ⟨rfl, rfl⟩)
 go_ret
 exact ⟨rfl, hb⟩
theorem ucheck_ (c : Chg) (A : Option Addr) (cap B : Nat) (w : World) (hn : c.glyphs.length ≤ 1000000000) (rd : Rd w B 3 A c.glyphs.length (encGs c.glyphs)) (hB : B ≤ w.heap.size) (hz : ∀ x ∈ c.glyphs, x.text.size ≤ 1000000000) (hu : U8 w) :
  Calls Tryz.prog 51 #[chgV c A cap] w (Gives (.int .i64 (chkU c)) w) := by
 by_cases h1 : c.kind = 1
 ·obtain ⟨kind, row, col, count, til, g⟩ := c
  obtain rfl : kind = 1 := h1
  exact ucheck_one row col count til g A cap w
 ·by_cases h2 : c.kind = 2
  ·obtain ⟨kind, row, col, count, til, g⟩ := c
   obtain rfl : kind = 2 := h2
   exact ucheck_two row col count til g A cap w
  ·by_cases h3 : c.kind = 3
   ·obtain ⟨kind, row, col, count, til, g⟩ := c
    obtain rfl : kind = 3 := h3
    exact ucheck_three row col count til g A cap w B hn rd hB hz hu
   ·by_cases h4 : c.kind = 4
    ·obtain ⟨kind, row, col, count, til, g⟩ := c
     obtain rfl : kind = 4 := h4
     exact ucheck_four row col count til g A cap w
    ·exact ucheck_oth c A cap w h1 h2 h3 h4
def chkAll : List ChgM → Int
 | [] => 0
 | x :: t => if chkU x.c = 0 then chkAll t else chkU x.c
def Gd (w : World) : Prop := Sp w ∧ U8 w ∧ Sty w
theorem Gd.below {w w' : World} (h : Gd w) (hb : Below w.heap.size w w') : Gd w' := ⟨h.1.below hb (Nat.le_refl _), h.2.1.below hb, h.2.2.below hb (Nat.le_refl _)⟩
theorem own_caps {w : World} {base size n c : Nat} {e : TypeId} {A : Option Addr} {xs : List Value} (h : w.ownsRow base e size (.slice A n c) n xs) : n ≤ c ∧ c ≤ maxLen := by
 rcases h.2 with ⟨h0, _⟩ | ⟨g, cap, cur, hv, h1, h2, h3, h4, _⟩
 ·injection h0 with _ h0 h0'; exact ⟨by omega, by unfold maxLen; omega⟩
 ·injection hv with _ _ hv; exact ⟨by omega, by omega⟩
end Go.Proofs.YtholajadbbdcmaaGreatDoor
