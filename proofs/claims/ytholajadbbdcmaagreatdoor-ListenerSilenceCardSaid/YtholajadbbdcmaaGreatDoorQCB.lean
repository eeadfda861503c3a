/- Joined texts: Lvn, Lv6, Lvo, Lw1. -/
import Derived.Test.YtholajadbbdcmaaGreatDoorQAA
import Derived.Test.YtholajadbbdcmaaGreatDoorQAB
import Derived.Test.YtholajadbbdcmaaGreatDoorQAC
import Derived.Test.YtholajadbbdcmaaGreatDoorQAD
import Derived.Test.YtholajadbbdcmaaGreatDoorQAE
import Derived.Test.YtholajadbbdcmaaGreatDoorQAG
import Derived.Test.YtholajadbbdcmaaGreatDoorQAH
import Derived.Test.YtholajadbbdcmaaGreatDoorQAI
import Derived.Test.YtholajadbbdcmaaGreatDoorQAM
import Derived.Test.YtholajadbbdcmaaGreatDoorQAN
import Derived.Test.YtholajadbbdcmaaGreatDoorQAP
import Derived.Test.YtholajadbbdcmaaGreatDoorQAQ
import Derived.Test.YtholajadbbdcmaaGreatDoorQAS
import Derived.Test.YtholajadbbdcmaaGreatDoorQAT
import Derived.Test.YtholajadbbdcmaaGreatDoorQAU
import Derived.Test.YtholajadbbdcmaaGreatDoorQAY
import Derived.Test.YtholajadbbdcmaaGreatDoorQBB
import Derived.Test.YtholajadbbdcmaaGreatDoorQBC
import Derived.Test.YtholajadbbdcmaaGreatDoorQBD
import Derived.Test.YtholajadbbdcmaaGreatDoorQBH
import Derived.Test.YtholajadbbdcmaaGreatDoorQBU
import Derived.Test.YtholajadbbdcmaaGreatDoorQBV
import Derived.Test.YtholajadbbdcmaaGreatDoorQBW
import Derived.Test.YtholajadbbdcmaaGreatDoorQBX
import Derived.Test.YtholajadbbdcmaaGreatDoorQBY
import Derived.Test.YtholajadbbdcmaaGreatDoorQCA
set_option linter.unusedVariables false
set_option linter.unusedSimpArgs false
set_option linter.unnecessarySimpa false
namespace Go.Proofs.YtholajadbbdcmaaGreatDoor
open Go.RowKit
set_option maxRecDepth 20000
def blankV (W H : Int) : Vw := ⟨W, H, List.replicate H.toNat [], 0, 0, true⟩
def newM (W H : Int) : Md × Int := if sizeB W H = true then (⟨blankV W H, 0⟩, 0) else (md0, 2)
def mdC (m : Md) (A : Option Addr) (n c : Nat) : Array Value := #[.int .i64 m.view.width, .int .i64 m.view.height, .slice A n c, .int .i64 m.view.row, .int .i64 m.view.col, .bool m.view.vis, .int .i64 m.upd]
theorem info_model : (Tryz.prog.info? 26).map (fun x => x.size) = some 7 := by kernel_rfl
def BlR (r : Vw × Int) (w : World) (e : Ending) (w' : World) : Prop :=
 Below w.heap.size w w' ∧ ∃ A n c rs, e = .returned (.tuple #[.agg (vwC r.1 A n c), .int .i64 r.2]) ∧ OwV w.heap.size w' r.1 A n c rs
def MdR (r : Md × Int) (w : World) (e : Ending) (w' : World) : Prop :=
 Below w.heap.size w w' ∧ ∃ A n c rs, e = .returned (.tuple #[.agg (mdC r.1 A n c), .int .i64 r.2]) ∧ OwV w.heap.size w' r.1.view A n c rs
abbrev ZM (X : World) (g : Nat) : Prop := Blk X g 26 (mdC md0 none 0 0)
theorem ZM.facts {X : World} {g : Nat} (h : ZM X g) : X.cell? ⟨g, 0, none⟩ = some (.int .i64 0) ∧ X.cell? ⟨g, 1, none⟩ = some (.int .i64 0) ∧ X.cell? ⟨g, 2, none⟩ = some (.slice none 0 0) ∧ X.cell? ⟨g, 3, none⟩ = some (.int .i64 0) ∧ X.cell? ⟨g, 4, none⟩ = some (.int .i64 0) ∧ X.cell? ⟨g, 5, none⟩ = some (.bool false) ∧ X.cell? ⟨g, 6, none⟩ = some (.int .i64 0) ∧
  X.frozen? ⟨g, 0, none⟩ = false ∧ X.frozen? ⟨g, 1, none⟩ = false ∧ X.frozen? ⟨g, 2, none⟩ = false ∧ X.frozen? ⟨g, 3, none⟩ = false ∧ X.frozen? ⟨g, 4, none⟩ = false ∧ X.frozen? ⟨g, 5, none⟩ = false ∧ X.frozen? ⟨g, 6, none⟩ = false :=
 ⟨h.cell 0, h.cell 1, h.cell 2, h.cell 3, h.cell 4, h.cell 5, h.cell 6, h.frozen 0, h.frozen 1, h.frozen 2, h.frozen 3, h.frozen 4, h.frozen 5, h.frozen 6⟩
abbrev setM (X : World) (g : Nat) (m : Md) (A : Option Addr) (n c : Nat) : World := ((((((X.setCell ⟨g, 0, none⟩ (.int .i64 m.view.width)).setCell ⟨g, 1, none⟩ (.int .i64 m.view.height)).setCell ⟨g, 2, none⟩ (.slice A n c)).setCell ⟨g, 3, none⟩ (.int .i64 m.view.row)).setCell ⟨g, 4, none⟩ (.int .i64 m.view.col)).setCell ⟨g, 5, none⟩ (.bool m.view.vis)).setCell ⟨g, 6, none⟩ (.int .i64 m.upd)
theorem ZM.set7 {X : World} {g : Nat} (h : ZM X g) (m : Md) (A : Option Addr) (n c : Nat) : Blk (setM X g m A n c) g 26 (mdC m A n c) :=
 ((((((h.set_ 0 _).set_ 1 _).set_ 2 _).set_ 3 _).set_ 4 _).set_ 5 _).set_ 6 _
theorem below_m7 {B g : Nat} {X Y : World} (h : Below B X Y) (hg : B ≤ g) (m : Md) (A : Option Addr) (n c : Nat) : Below B X (setM Y g m A n c) :=
 ((((((h.setCell (p := ⟨g, 0, none⟩) hg _).setCell (p := ⟨g, 1, none⟩) hg _).setCell (p := ⟨g, 2, none⟩) hg _).setCell (p := ⟨g, 3, none⟩) hg _).setCell (p := ⟨g, 4, none⟩) hg _).setCell (p := ⟨g, 5, none⟩) hg _).setCell (p := ⟨g, 6, none⟩) hg _
theorem encRs_nils (n : Nat) : encRs (List.replicate n nilR) = List.replicate n (.slice none 0 0) := by unfold encRs; rw [List.map_replicate]; rfl
theorem rls_nils (n : Nat) : rls (List.replicate n nilR) = List.replicate n [] := by unfold rls; rw [List.map_replicate]; rfl
set_option maxHeartbeats 4000000 in
theorem blank_ (W H : Int) (w : World) : Calls Tryz.prog 43 #[.int .i64 W, .int .i64 H] w (BlR (if sizeB W H = true then (blankV W H, 0) else (vw0, 2)) w) := by
 have HS : Hid (∀ w', _) := Lib.hid (vsized_ W H)
 by_cases h : sizeB W H = true
 ·rw [if_pos h]
  have hs := size_iff.1 h
  rw [h] at HS
  obtain ⟨n, rfl⟩ : ∃ n : Nat, H = n := ⟨H.toNat, by omega⟩
  obtain ⟨i0, hi, hz0, hz1, hz2⟩ := elt_row.row
  clear h
  go_enter Tryz.func43, Tryz.ntmps43
  go_upto_region 1 with fail
  refine wp_fg (fun X => ZB X w.heap.size ∧ Below w.heap.size w X) ⟨Blk.new_ rfl, (Below.refl _ _).alloc (Nat.le_refl _) _⟩ ?_
  rintro X ⟨hZ, hb⟩
  have hlX := hZ.lt
  go_upto_region 3 with (go_at_call 71; refine (HS.out _).mono ?_; rintro e w1 ⟨rfl, rfl⟩)
  go_wp2_with (at_make; refine wpList_make_full _ rfl _ _ 22 rfl X.heap.size 51 i0 (.slice none 0 0) 1 Tryz.underlying22 hi hz0 hz1 _ _ _ _ n rfl rfl rfl rfl (by rw [hz2]; omega) (by unfold maxLen; omega) (Nat.le_refl _) ?_; intro w1 hown hgr; have hb1 := (Below.refl X.heap.size X).grown hgr (Nat.le_refl _) (fun k h => by cases h); have hZ1 := hZ.below hb1 hlX; obtain ⟨z0, z1, z2, z3, z4, z5, y0, y1, y2, y3, y4, y5⟩ := ZB.facts hZ1)
  have hown' : w1.ownsRow X.heap.size 51 1 (.slice (some ⟨X.heap.size, 0, none⟩) n n) n (encRs (List.replicate n nilR)) := by
   rw [encRs_nils]
   rw [Nat.mul_one, show (Value.slice none 0 0).cells = #[.slice none 0 0] from rfl, toList_madeCells_one] at hown
   exact hown
  have hne : (Value.slice (some ⟨X.heap.size, 0, none⟩) n n).ownBlock ≠ some w.heap.size := fun e => by
   rw [ob_slice] at e
   injection e with e
   dsimp only at e
   omega
  have hw5 := ownsRow_setCell_other (a := ⟨w.heap.size, 5, none⟩) (ownsRow_setCell_other (a := ⟨w.heap.size, 4, none⟩) (ownsRow_setCell_other (a := ⟨w.heap.size, 3, none⟩) (ownsRow_setCell_other (a := ⟨w.heap.size, 2, none⟩) (ownsRow_setCell_other (a := ⟨w.heap.size, 1, none⟩) (ownsRow_setCell_other (a := ⟨w.heap.size, 0, none⟩) hown' hne (.int .i64 W)) hne (.int .i64 n)) hne (.slice (some ⟨X.heap.size, 0, none⟩) n n)) hne (.int .i64 0)) hne (.int .i64 0)) hne (.bool true)
  have hR := ZB.set6 hZ1 (blankV W n) (some ⟨X.heap.size, 0, none⟩) n n
  refine bodyPost_ret (results_ctmp rfl _ _ w.heap.size 24 _ (0, 0) _ rfl hR Tryz.underlying24 rfl info_view) rfl ⟨below_v6 (hb.trans (hb1.mono (by omega))) (Nat.le_refl _) _ _ _ _ _ _, some ⟨X.heap.size, 0, none⟩, n, n, List.replicate n nilR, rfl, ⟨own_less hw5 (Nat.le_of_lt hlX), fun x hx => ?_, ?_⟩⟩
  ·obtain rfl := List.eq_of_mem_replicate hx
   exact own_nil _ _ _ _
  ·rw [rls_nils]
   show List.replicate ((n : Int).toNat) [] = _
   rw [Int.toNat_natCast]
 ·rw [if_neg h]
  have h : sizeB W H = false := by simpa using h
  rw [h] at HS
  clear h
  go_enter Tryz.func43, Tryz.ntmps43
  go_upto_region 1 with fail
  refine wp_fg (fun X => ZB X w.heap.size ∧ Below w.heap.size w X) ⟨Blk.new_ rfl, (Below.refl _ _).alloc (Nat.le_refl _) _⟩ ?_
  rintro X ⟨hZ, hb⟩
  obtain ⟨z0, z1, z2, z3, z4, z5, y0, y1, y2, y3, y4, y5⟩ := ZB.facts hZ
  go_wp2_with (go_at_call 71; refine (HS.out _).mono ?_; rintro e w1 ⟨rfl, rfl⟩)
  exact bodyPost_ret (results_ctmp rfl _ _ w.heap.size 24 _ (0, 0) _ rfl (ZB.set6 hZ vw0 none 0 0) Tryz.underlying24 rfl info_view) rfl ⟨below_v6 hb (Nat.le_refl _) _ _ _ _ _ _, none, 0, 0, [], rfl, OwV.none_ _ _⟩
end Go.Proofs.YtholajadbbdcmaaGreatDoor
namespace Go.Proofs.YtholajadbbdcmaaGreatDoor
open Go.RowKit
set_option maxRecDepth 20000
set_option maxHeartbeats 8000000 in
theorem rcheck15_ (v : Vw) (A : Option Addr) (n c B : Nat) (rs : List RowM) (w : World) (rd : RdV w B v A n c rs) (hB : B ≤ w.heap.size) (hz : ∀ x ∈ rs, x.l.length ≤ 1000000000 ∧ ∀ g ∈ x.l, g.text.size ≤ 1000000000) :
  Calls Tryz.prog 35 #[.agg (vwC v A n c)] w (Gives (.int .i64 (viewC v)) w) := by
 have HN := Lib.hid rd.1.len
 have hnm : n ≤ 9223372036854775807 := by have h1 := rd.2.2.1; have h2 := rd.2.2.2; unfold maxLen at h2; omega
 have HRL : Hid (v.rows = rls rs) := Lib.hid rd.2.1
 have HA : Hid (∀ k (hk : k < rs.length) w', Below w.heap.size w w' → ∃ b o, A = some ⟨b, o, none⟩ ∧ b < w.heap.size ∧ w'.cell? ⟨b, o + k, none⟩ = some (.slice rs[k].A rs[k].l.length rs[k].cap)) := Lib.hid fun k hk w' hb => ((rd.1.more hB).below hb).at_ hk
 have HG : Hid (∀ x ∈ rs, ∀ w', Below w.heap.size w w' → Rd w' w.heap.size 3 x.A x.l.length (encGs x.l)) := Lib.hid fun x hx w' hb => (((rd.1.gl x hx).1.more hB).below hb)
 have HX : Hid (∀ x ∈ rs, x.l.length ≤ 1000000000 ∧ ∀ g ∈ x.l, g.text.size ≤ 1000000000) := Lib.hid hz
 have HS : Hid (∀ k, k < rs.length → (rls rs).drop k = (rls rs).getD k [] :: (rls rs).drop (k + 1)) := Lib.hid fun k hk => by
  rw [List.drop_eq_getElem_cons (by rw [rls_len]; exact hk), List.getD_eq_getElem?_getD, List.getElem?_eq_getElem (by rw [rls_len]; exact hk)]
  rfl
 unfold viewC
 rw [HRL.out, rls_len, HN.out]
 clear rd hz
 obtain ⟨W, Hh, rows, row, col, vis⟩ := v
 dsimp only at *
 have HV : Hid (∀ x ∈ rs, ∀ g ∈ x.l, ∀ w', Calls Tryz.prog 63 #[glV g] w' (Gives (.int .i64 (glyphC g)) w')) := Lib.hid fun x hx g hg w' => rglyph g ((HX.out x hx).2 g hg) w'
 have HWd : Hid (∀ x ∈ rs, ∀ w', Below w.heap.size w w' → Calls Tryz.prog 41 #[.slice x.A x.l.length x.cap] w' (Gives (.int .i64 (rowW x.l : Nat)) w')) := Lib.hid fun x hx w' hb => (rwidth15_ x.l x.A _ x.cap w.heap.size w' (HX.out x hx).1 (HG.out x hx w' hb)).mono fun e w'' ⟨h1, h2⟩ => ⟨h1, h2 ▸ Below.refl _ _⟩
 have HSz := Lib.hid (rsize15_ W Hh)
 by_cases h1 : sizeB W Hh = false
 ·rw [if_pos h1]
  rw [h1] at HSz
  clear h1
  go_enter Tryz.func35, Tryz.ntmps35; go_upto_region 1 with fail; refine wp_fg (VwBox w ⟨W, Hh, rows, row, col, vis⟩ A n c) (VwBox.new w ⟨W, Hh, rows, row, col, vis⟩ A n c) ?_; intro X hX; obtain ⟨c0, c1, c2, c3, c4, c5⟩ := hX.cells; have hb := hX.2; dsimp only at c0 c1 c2 c3 c4 c5
  go_wp2_with (go_at_call 62; refine (HSz.out _).mono ?_; rintro e w1 ⟨rfl, rfl⟩)
  go_ret
  exact ⟨rfl, hb⟩
 ·have h1' : sizeB W Hh = true := by simpa using h1
  rw [if_neg h1]
  rw [h1'] at HSz
  clear h1 h1'
  by_cases h2 : (n : Int) = Hh
  ·rw [if_neg (by simpa using h2)]
   have hne : ((n : Int) != Hh) = false := by simp [h2]
   replace h2 := Lib.hid h2
   by_cases h3 : row < 0 ∨ Hh ≤ row ∨ col < 0 ∨ W ≤ col
   ·rw [if_pos h3]
    by_cases r1 : row < 0
    ·go_enter Tryz.func35, Tryz.ntmps35; go_upto_region 1 with fail; refine wp_fg (VwBox w ⟨W, Hh, rows, row, col, vis⟩ A n c) (VwBox.new w ⟨W, Hh, rows, row, col, vis⟩ A n c) ?_; intro X hX; obtain ⟨c0, c1, c2, c3, c4, c5⟩ := hX.cells; have hb := hX.2; dsimp only at c0 c1 c2 c3 c4 c5
     go_wp2_with (go_at_call 62; refine (HSz.out _).mono ?_; rintro e w1 ⟨rfl, rfl⟩)
     go_ret
     exact ⟨rfl, hb⟩
    ·by_cases r2 : Hh ≤ row
     ·go_enter Tryz.func35, Tryz.ntmps35; go_upto_region 1 with fail; refine wp_fg (VwBox w ⟨W, Hh, rows, row, col, vis⟩ A n c) (VwBox.new w ⟨W, Hh, rows, row, col, vis⟩ A n c) ?_; intro X hX; obtain ⟨c0, c1, c2, c3, c4, c5⟩ := hX.cells; have hb := hX.2; dsimp only at c0 c1 c2 c3 c4 c5
      go_wp2_with (go_at_call 62; refine (HSz.out _).mono ?_; rintro e w1 ⟨rfl, rfl⟩)
      go_ret
      exact ⟨rfl, hb⟩
     ·by_cases r3 : col < 0
      ·go_enter Tryz.func35, Tryz.ntmps35; go_upto_region 1 with fail; refine wp_fg (VwBox w ⟨W, Hh, rows, row, col, vis⟩ A n c) (VwBox.new w ⟨W, Hh, rows, row, col, vis⟩ A n c) ?_; intro X hX; obtain ⟨c0, c1, c2, c3, c4, c5⟩ := hX.cells; have hb := hX.2; dsimp only at c0 c1 c2 c3 c4 c5
       go_wp2_with (go_at_call 62; refine (HSz.out _).mono ?_; rintro e w1 ⟨rfl, rfl⟩)
       go_ret
       exact ⟨rfl, hb⟩
      ·have r4 : W ≤ col := by omega
       go_enter Tryz.func35, Tryz.ntmps35; go_upto_region 1 with fail; refine wp_fg (VwBox w ⟨W, Hh, rows, row, col, vis⟩ A n c) (VwBox.new w ⟨W, Hh, rows, row, col, vis⟩ A n c) ?_; intro X hX; obtain ⟨c0, c1, c2, c3, c4, c5⟩ := hX.cells; have hb := hX.2; dsimp only at c0 c1 c2 c3 c4 c5
       go_wp2_with (go_at_call 62; refine (HSz.out _).mono ?_; rintro e w1 ⟨rfl, rfl⟩)
       go_ret
       exact ⟨rfl, hb⟩
   ·rw [if_neg h3]
    have r1 : 0 ≤ row := by omega
    have r2 : row < Hh := by omega
    have r3 : 0 ≤ col := by omega
    have r4 : col < W := by omega
    clear h3
    have H0 : Hid (rowsC W (rls rs) = rowsC W ((rls rs).drop 0)) := Lib.hid rfl
    generalize rowsC W (rls rs) = R at *
    go_enter Tryz.func35, Tryz.ntmps35; go_upto_region 1 with fail; refine wp_fg (VwBox w ⟨W, Hh, rows, row, col, vis⟩ A n c) (VwBox.new w ⟨W, Hh, rows, row, col, vis⟩ A n c) ?_; intro X hX; obtain ⟨c0, c1, c2, c3, c4, c5⟩ := hX.cells; have hb := hX.2; dsimp only at c0 c1 c2 c3 c4 c5
    go_wp2_with (go_at_call 62; refine (HSz.out _).mono ?_; rintro e w1 ⟨rfl, rfl⟩)
    go_loopw [3] (fun x wr => ∃ k : Nat, k ≤ n ∧ x = .int .i64 k ∧ VwBox w ⟨W, Hh, rows, row, col, vis⟩ A n c wr ∧ Hid (R = rowsC W ((rls rs).drop k))) (fun x _ => n - (intOf x).toNat)
    case atStart => exact ⟨0, Nat.zero_le _, rfl, hX, H0⟩
    case round =>
     clear hX hb c0 c1 c2 c3 c4 c5 H0 HSz hne r1 r2 r3 r4
     obtain ⟨k, hk, rfl, hX, HK⟩ := hrel
     obtain ⟨c0, c1, c2, c3, c4, c5⟩ := hX.cells; have hb := hX.2; have hzX := hX.lt; dsimp only at c0 c1 c2 c3 c4 c5
     by_cases hlt : k < n
     ·have hkl : k < rs.length := by have := HN.out; omega
      obtain ⟨b, o, rfl, hbB, hc⟩ := HA.out k hkl _ hb
      have hx : rs[k] ∈ rs := List.getElem_mem hkl
      obtain ⟨T, HT⟩ : ∃ T, Hid (T = if W < rowW rs[k].l then 12 else if rs[k].l.getLast? = some spG then 1 else rowsC W ((rls rs).drop (k + 1))) := ⟨_, Lib.hid rfl⟩
      have HK2 : Hid (R = if glsC (rs[k].l.drop 0) ≠ 0 then glsC (rs[k].l.drop 0) else T) := Lib.hid (by rw [HK.out, HS.out k hkl, rls_getD hkl, rows_split, HT.out, List.drop_zero])
      have hl := (HX.out _ hx).1
      have HGk := Lib.hid (HG.out _ hx)
      have HVk := Lib.hid (HV.out _ hx)
      have HWk := Lib.hid (HWd.out _ hx)
      clear HK HA HG HX HV HWd HS hx
      generalize rs[k] = x at *
      obtain ⟨l, Al, cl⟩ := x
      dsimp only at *
      go_wp2
      go_loopw [5] (fun y wy => ∃ j : Nat, j ≤ l.length ∧ y = .int .i64 j ∧ VwBox w ⟨W, Hh, rows, row, col, vis⟩ (some ⟨b, o, none⟩) n c wy ∧ Hid (R = if glsC (l.drop j) ≠ 0 then glsC (l.drop j) else T)) (fun y _ => l.length - (intOf y).toNat)
      case atStart => exact ⟨0, Nat.zero_le _, rfl, hX, HK2⟩
      case round => as_aux_lemma =>
       clear hX hb c0 c1 c2 c3 c4 c5 HK2 hc hzX
       obtain ⟨j, hj, rfl, hX, HJ⟩ := hrel
       obtain ⟨c0, c1, c2, c3, c4, c5⟩ := hX.cells; have hb := hX.2; have hzX := hX.lt; dsimp only at c0 c1 c2 c3 c4 c5
       by_cases hlj : j < l.length
       ·obtain ⟨b', o', rfl, hbB', g0, g1, g2⟩ := rd_gl (HGk.out _ hb) hlj rfl
        have HVj := Lib.hid (HVk.out _ (List.getElem_mem hlj))
        have HJ2 := HJ.out
        rw [gls_drop hlj] at HJ2
        generalize l[j] = g at *
        by_cases h0 : glyphC g = 0
        ·rw [if_neg (show ¬ glyphC g ≠ 0 by simp [h0])] at HJ2
         replace HJ2 := Lib.hid HJ2
         rw [h0] at HVj
         clear h0
         obtain ⟨t, wd, st⟩ := g
         dsimp only at *
         go_wp2_with (go_at_call 63; refine (HVj.out _).mono ?_; rintro e w1 ⟨rfl, hb1⟩)
         exact ⟨⟨j + 1, by omega, by go_num, hX.on hb1, HJ2⟩, by simp [intOf]; omega⟩
        ·rw [if_pos (show glyphC g ≠ 0 from h0), if_pos h0] at HJ2
         replace HJ2 := Lib.hid HJ2
         have hn0 : (glyphC g != 0) = true := bne_iff_ne.2 h0
         clear h0
         generalize hq : glyphC g = K at *
         clear hq
         obtain ⟨t, wd, st⟩ := g
         dsimp only at *
         go_wp2_with (go_at_call 63; refine (HVj.out _).mono ?_; rintro e w1 ⟨rfl, hb1⟩)
         go_ret
         exact ⟨by rw [HJ2.out]; rfl, (hX.on hb1).2⟩
       ·obtain rfl : j = l.length := by omega
        have HT2 : Hid (R = if W < rowW l then 12 else if l.getLast? = some spG then 1 else rowsC W ((rls rs).drop (k + 1))) := Lib.hid (by rw [HJ.out, List.drop_of_length_le (Nat.le_refl _), ← HT.out]; rfl)
        clear HT HJ HVk
        have hzz := Nat.le_refl wr.heap.size
        have N0 : ∀ x : Near wr.heap.size wr, x.w.cell? ⟨w.heap.size, 0, none⟩ = some (.int .i64 W) := fun x => (x.h.cell (by show w.heap.size < _; omega)).trans c0
        have HWx : Hid (∀ x : Near wr.heap.size wr, Calls Tryz.prog 41 #[.slice Al l.length cl] x.w (Gives (.int .i64 (rowW l : Nat)) x.w)) := Lib.hid fun x => HWk.out _ (hb.trans (x.h.mono (by omega)))
        clear HWk c0 c1 c2 c3 c4 c5
        generalize rowW l = rw0 at *
        by_cases hw : W < (rw0 : Int)
        ·rw [if_pos hw] at HT2
         go_wp2
         refine wp_region_near wr.heap.size (by kernel_rfl) (by kernel_rfl) ?_; (repeat (go_big_quiet_step ((go_at_call 41; exact Calls.near _ hzz (HWx.out _))))); refine wpQuiet_nil ?_; intro _ hw'; obtain ⟨x1, hw''⟩ := hw'; subst hw''
         go_wp2
         go_ret
         exact ⟨by rw [HT2.out]; rfl, (hX.on x1.h).2⟩
        ·as_aux_lemma =>
         rw [if_neg hw] at HT2
         have hw' : ¬ W < (rw0 : Int) := hw
         have hd : decide (W < (rw0 : Int)) = false := decide_eq_false hw
         clear hw hw'
         go_wp2
         refine wp_region_near wr.heap.size (by kernel_rfl) (by kernel_rfl) ?_; (repeat (go_big_quiet_step ((go_at_call 41; exact Calls.near _ hzz (HWx.out _))))); refine wpQuiet_nil ?_; intro _ hw'; obtain ⟨x1, hw''⟩ := hw'; subst hw''
         have hX1 := hX.on x1.h
         have hb1 := hX1.2
         have hz1 := Nat.le_refl x1.w.heap.size
         clear HWx N0 hd hX hb
         rcases Nat.eq_zero_or_pos l.length with h0 | h0
         ·have HT3 : Hid (R = rowsC W ((rls rs).drop (k + 1))) := Lib.hid (by rw [HT2.out, List.length_eq_zero_iff.1 h0]; rfl)
          have hd : decide (0 < l.length) = false := decide_eq_false (by omega)
          clear HT2 h0
          go_wp2
          exact ⟨⟨k + 1, by omega, by go_num, hX1, HT3⟩, by simp [intOf]; omega⟩
         ·obtain ⟨m, hm⟩ : ∃ m, l.length = m + 1 := ⟨l.length - 1, by omega⟩
          have hml : m < l.length := by omega
          obtain ⟨b', o', rfl, hbB', g0, g1, g2⟩ := rd_gl (HGk.out _ hb1) hml rfl
          rw [last_at hm] at HT2
          have HBk := Lib.hid (rblank15_ l[m])
          have hmi : (l.length : Int) = (m : Int) + 1 := by omega
          have hd : decide (0 < l.length) = true := decide_eq_true h0
          by_cases he : l[m] = spG
          ·rw [if_pos (by rw [he])] at HT2
           rw [decide_eq_true he] at HBk
           clear he h0 HGk
           generalize l[m] = g at *
           obtain ⟨t, wd, st⟩ := g
           dsimp only at *
           go_wp2_with (go_at_call 64; refine (HBk.out _).mono ?_; rintro e w2 ⟨rfl, hb2⟩)
           go_ret
           exact ⟨by rw [HT2.out]; rfl, hb1.trans (hb2.mono (by have := hX1.lt; omega))⟩
          ·rw [if_neg (fun e => he (by injection e))] at HT2
           rw [decide_eq_false he] at HBk
           clear he h0 HGk
           generalize l[m] = g at *
           obtain ⟨t, wd, st⟩ := g
           dsimp only at *
           go_wp2_with (go_at_call 64; refine (HBk.out _).mono ?_; rintro e w2 ⟨rfl, hb2⟩)
           exact ⟨⟨k + 1, by omega, by go_num, hX1.on hb2, HT2⟩, by simp [intOf]; omega⟩
     ·have HK2 : Hid (R = 0) := Lib.hid (by rw [HK.out, List.drop_of_length_le (by rw [rls_len]; have := HN.out; omega)]; rfl)
      go_wp2
      go_ret
      exact ⟨by rw [HK2.out]; rfl, hb⟩
  ·rw [if_pos h2]
   have hne : ((n : Int) != Hh) = true := bne_iff_ne.2 h2
   clear h2
   go_enter Tryz.func35, Tryz.ntmps35; go_upto_region 1 with fail; refine wp_fg (VwBox w ⟨W, Hh, rows, row, col, vis⟩ A n c) (VwBox.new w ⟨W, Hh, rows, row, col, vis⟩ A n c) ?_; intro X hX; obtain ⟨c0, c1, c2, c3, c4, c5⟩ := hX.cells; have hb := hX.2; dsimp only at c0 c1 c2 c3 c4 c5
   go_wp2_with (go_at_call 62; refine (HSz.out _).mono ?_; rintro e w1 ⟨rfl, rfl⟩)
   go_ret
   exact ⟨rfl, hb⟩
end Go.Proofs.YtholajadbbdcmaaGreatDoor
namespace Go.Proofs.YtholajadbbdcmaaGreatDoor
open Go.RowKit
set_option maxRecDepth 20000
theorem properM_eq (m : Md) : properM m = (decide (viewC m.view = 0) && (decide (0 ≤ m.upd) && decide (m.upd ≤ 1099511627776))) := by
 unfold properM MaxT
 rw [Bool.decide_and, Bool.decide_and]
set_option maxHeartbeats 4000000 in
theorem proper_ (m : Md) (A : Option Addr) (n c B : Nat) (rs : List RowM) (w : World) (rd : RdV w B m.view A n c rs) (hB : B ≤ w.heap.size) (hz : ∀ x ∈ rs, x.l.length ≤ 1000000000 ∧ ∀ g ∈ x.l, g.text.size ≤ 1000000000) (hu : U8 w) :
  Calls Tryz.prog 31 #[.agg (mdC m A n c)] w (Gives (.bool (properM m)) w) := by
 have HC : Hid (∀ w', Below w.heap.size w w' → Calls Tryz.prog 48 #[.agg (vwC m.view A n c)] w' (Gives (.int .i64 (viewC m.view)) w')) := Lib.hid fun w' hb => vcheck_ _ _ _ _ w.heap.size _ _ ((rd.more hB).below hb) hb.size hz (hu.below hb)
 clear rd hz hu
 obtain ⟨⟨W, H, rows, r, cl, vs⟩, U⟩ := m
 dsimp only at HC
 rw [properM_eq]
 dsimp only
 generalize viewC ⟨W, H, rows, r, cl, vs⟩ = V at *
 have h1 : (V == 0) = decide (V = 0) := by rw [Bool.eq_iff_iff]; simp
 by_cases hv : V = 0
 ·have e1 : (V == 0) = true := beq_iff_eq.2 hv
  rw [decide_eq_true hv]
  clear h1 hv
  by_cases hu : 0 ≤ U
  ·by_cases ht : U ≤ 1099511627776
   ·have hu' : decide (0 ≤ U) = true := decide_eq_true hu
    have ht' : decide (U ≤ 1099511627776) = true := decide_eq_true ht
    rw [hu', ht']
    clear hu ht
    go_enter Tryz.func31, Tryz.ntmps31
    go_upto_region 1 with fail
    refine wp_fg (fun X => Blk X w.heap.size 26 (mdC ⟨⟨W, H, rows, r, cl, vs⟩, U⟩ A n c) ∧ Below w.heap.size w X) ⟨Blk.new_ rfl, (Below.refl _ _).alloc (Nat.le_refl _) _⟩ ?_
    rintro X ⟨hM, hb⟩
    have c0 : X.cell? ⟨w.heap.size, 0, none⟩ = some (.int .i64 W) := hM.cell 0
    have c1 : X.cell? ⟨w.heap.size, 1, none⟩ = some (.int .i64 H) := hM.cell 1
    have c2 : X.cell? ⟨w.heap.size, 2, none⟩ = some (.slice A n c) := hM.cell 2
    have c3 : X.cell? ⟨w.heap.size, 3, none⟩ = some (.int .i64 r) := hM.cell 3
    have c4 : X.cell? ⟨w.heap.size, 4, none⟩ = some (.int .i64 cl) := hM.cell 4
    have c5 : X.cell? ⟨w.heap.size, 5, none⟩ = some (.bool vs) := hM.cell 5
    have c6 : X.cell? ⟨w.heap.size, 6, none⟩ = some (.int .i64 U) := hM.cell 6
    have hl := hM.lt
    clear hM
    go_wp2_with (go_at_call 48; refine (HC.out _ hb).mono ?_; rintro e w1 ⟨rfl, hb1⟩; have d6 := (hb1.cell (p := ⟨w.heap.size, 6, none⟩) hl).trans c6)
    go_ret
    exact ⟨rfl, hb.trans (hb1.mono hb.size)⟩
   ·have hu' : decide (0 ≤ U) = true := decide_eq_true hu
    have ht' : decide (U ≤ 1099511627776) = false := decide_eq_false ht
    rw [hu', ht']
    clear hu ht
    go_enter Tryz.func31, Tryz.ntmps31
    go_upto_region 1 with fail
    refine wp_fg (fun X => Blk X w.heap.size 26 (mdC ⟨⟨W, H, rows, r, cl, vs⟩, U⟩ A n c) ∧ Below w.heap.size w X) ⟨Blk.new_ rfl, (Below.refl _ _).alloc (Nat.le_refl _) _⟩ ?_
    rintro X ⟨hM, hb⟩
    have c0 : X.cell? ⟨w.heap.size, 0, none⟩ = some (.int .i64 W) := hM.cell 0
    have c1 : X.cell? ⟨w.heap.size, 1, none⟩ = some (.int .i64 H) := hM.cell 1
    have c2 : X.cell? ⟨w.heap.size, 2, none⟩ = some (.slice A n c) := hM.cell 2
    have c3 : X.cell? ⟨w.heap.size, 3, none⟩ = some (.int .i64 r) := hM.cell 3
    have c4 : X.cell? ⟨w.heap.size, 4, none⟩ = some (.int .i64 cl) := hM.cell 4
    have c5 : X.cell? ⟨w.heap.size, 5, none⟩ = some (.bool vs) := hM.cell 5
    have c6 : X.cell? ⟨w.heap.size, 6, none⟩ = some (.int .i64 U) := hM.cell 6
    have hl := hM.lt
    clear hM
    go_wp2_with (go_at_call 48; refine (HC.out _ hb).mono ?_; rintro e w1 ⟨rfl, hb1⟩; have d6 := (hb1.cell (p := ⟨w.heap.size, 6, none⟩) hl).trans c6)
    go_ret
    exact ⟨rfl, hb.trans (hb1.mono hb.size)⟩
  ·have hu' : decide (0 ≤ U) = false := decide_eq_false hu
   rw [hu']
   clear hu
   go_enter Tryz.func31, Tryz.ntmps31
   go_upto_region 1 with fail
   refine wp_fg (fun X => Blk X w.heap.size 26 (mdC ⟨⟨W, H, rows, r, cl, vs⟩, U⟩ A n c) ∧ Below w.heap.size w X) ⟨Blk.new_ rfl, (Below.refl _ _).alloc (Nat.le_refl _) _⟩ ?_
   rintro X ⟨hM, hb⟩
   have c0 : X.cell? ⟨w.heap.size, 0, none⟩ = some (.int .i64 W) := hM.cell 0
   have c1 : X.cell? ⟨w.heap.size, 1, none⟩ = some (.int .i64 H) := hM.cell 1
   have c2 : X.cell? ⟨w.heap.size, 2, none⟩ = some (.slice A n c) := hM.cell 2
   have c3 : X.cell? ⟨w.heap.size, 3, none⟩ = some (.int .i64 r) := hM.cell 3
   have c4 : X.cell? ⟨w.heap.size, 4, none⟩ = some (.int .i64 cl) := hM.cell 4
   have c5 : X.cell? ⟨w.heap.size, 5, none⟩ = some (.bool vs) := hM.cell 5
   have c6 : X.cell? ⟨w.heap.size, 6, none⟩ = some (.int .i64 U) := hM.cell 6
   have hl := hM.lt
   clear hM
   go_wp2_with (go_at_call 48; refine (HC.out _ hb).mono ?_; rintro e w1 ⟨rfl, hb1⟩; have d6 := (hb1.cell (p := ⟨w.heap.size, 6, none⟩) hl).trans c6)
   go_ret
   exact ⟨rfl, hb.trans (hb1.mono hb.size)⟩
 ·have e1 : (V == 0) = false := beq_eq_false_iff_ne.2 hv
  rw [decide_eq_false hv]
  clear h1 hv
  go_enter Tryz.func31, Tryz.ntmps31
  go_upto_region 1 with fail
  refine wp_fg (fun X => Blk X w.heap.size 26 (mdC ⟨⟨W, H, rows, r, cl, vs⟩, U⟩ A n c) ∧ Below w.heap.size w X) ⟨Blk.new_ rfl, (Below.refl _ _).alloc (Nat.le_refl _) _⟩ ?_
  rintro X ⟨hM, hb⟩
  have c0 : X.cell? ⟨w.heap.size, 0, none⟩ = some (.int .i64 W) := hM.cell 0
  have c1 : X.cell? ⟨w.heap.size, 1, none⟩ = some (.int .i64 H) := hM.cell 1
  have c2 : X.cell? ⟨w.heap.size, 2, none⟩ = some (.slice A n c) := hM.cell 2
  have c3 : X.cell? ⟨w.heap.size, 3, none⟩ = some (.int .i64 r) := hM.cell 3
  have c4 : X.cell? ⟨w.heap.size, 4, none⟩ = some (.int .i64 cl) := hM.cell 4
  have c5 : X.cell? ⟨w.heap.size, 5, none⟩ = some (.bool vs) := hM.cell 5
  have c6 : X.cell? ⟨w.heap.size, 6, none⟩ = some (.int .i64 U) := hM.cell 6
  have hl := hM.lt
  clear hM
  go_wp2_with (go_at_call 48; refine (HC.out _ hb).mono ?_; rintro e w1 ⟨rfl, hb1⟩; have d6 := (hb1.cell (p := ⟨w.heap.size, 6, none⟩) hl).trans c6)
  go_ret
  exact ⟨rfl, hb.trans (hb1.mono hb.size)⟩
set_option maxHeartbeats 4000000 in
theorem rproper42_ (m : Md) (A : Option Addr) (n c B : Nat) (rs : List RowM) (w : World) (rd : RdV w B m.view A n c rs) (hB : B ≤ w.heap.size) (hz : ∀ x ∈ rs, x.l.length ≤ 1000000000 ∧ ∀ g ∈ x.l, g.text.size ≤ 1000000000) :
  Calls Tryz.prog 18 #[.agg (mdC m A n c)] w (Gives (.bool (properM m)) w) := by
 have HC : Hid (∀ w', Below w.heap.size w w' → Calls Tryz.prog 35 #[.agg (vwC m.view A n c)] w' (Gives (.int .i64 (viewC m.view)) w')) := Lib.hid fun w' hb => rcheck15_ _ _ _ _ w.heap.size _ _ ((rd.more hB).below hb) hb.size hz
 clear rd hz
 obtain ⟨⟨W, H, rows, r, cl, vs⟩, U⟩ := m
 dsimp only at HC
 rw [properM_eq]
 dsimp only
 generalize viewC ⟨W, H, rows, r, cl, vs⟩ = V at *
 have h1 : (V == 0) = decide (V = 0) := by rw [Bool.eq_iff_iff]; simp
 by_cases hv : V = 0
 ·have e1 : (V == 0) = true := beq_iff_eq.2 hv
  rw [decide_eq_true hv]
  clear h1 hv
  by_cases hu : 0 ≤ U
  ·by_cases ht : U ≤ 1099511627776
   ·have hu' : decide (0 ≤ U) = true := decide_eq_true hu
    have ht' : decide (U ≤ 1099511627776) = true := decide_eq_true ht
    rw [hu', ht']
    clear hu ht
    go_enter Tryz.func18, Tryz.ntmps18
    go_upto_region 1 with fail
    refine wp_fg (fun X => Blk X w.heap.size 26 (mdC ⟨⟨W, H, rows, r, cl, vs⟩, U⟩ A n c) ∧ Below w.heap.size w X) ⟨Blk.new_ rfl, (Below.refl _ _).alloc (Nat.le_refl _) _⟩ ?_
    rintro X ⟨hM, hb⟩
    have c0 : X.cell? ⟨w.heap.size, 0, none⟩ = some (.int .i64 W) := hM.cell 0
    have c1 : X.cell? ⟨w.heap.size, 1, none⟩ = some (.int .i64 H) := hM.cell 1
    have c2 : X.cell? ⟨w.heap.size, 2, none⟩ = some (.slice A n c) := hM.cell 2
    have c3 : X.cell? ⟨w.heap.size, 3, none⟩ = some (.int .i64 r) := hM.cell 3
    have c4 : X.cell? ⟨w.heap.size, 4, none⟩ = some (.int .i64 cl) := hM.cell 4
    have c5 : X.cell? ⟨w.heap.size, 5, none⟩ = some (.bool vs) := hM.cell 5
    have c6 : X.cell? ⟨w.heap.size, 6, none⟩ = some (.int .i64 U) := hM.cell 6
    have hl := hM.lt
    clear hM
    go_wp2_with (go_at_call 35; refine (HC.out _ hb).mono ?_; rintro e w1 ⟨rfl, hb1⟩; have d6 := (hb1.cell (p := ⟨w.heap.size, 6, none⟩) hl).trans c6)
    go_ret
    exact ⟨rfl, hb.trans (hb1.mono hb.size)⟩
   ·have hu' : decide (0 ≤ U) = true := decide_eq_true hu
    have ht' : decide (U ≤ 1099511627776) = false := decide_eq_false ht
    rw [hu', ht']
    clear hu ht
    go_enter Tryz.func18, Tryz.ntmps18
    go_upto_region 1 with fail
    refine wp_fg (fun X => Blk X w.heap.size 26 (mdC ⟨⟨W, H, rows, r, cl, vs⟩, U⟩ A n c) ∧ Below w.heap.size w X) ⟨Blk.new_ rfl, (Below.refl _ _).alloc (Nat.le_refl _) _⟩ ?_
    rintro X ⟨hM, hb⟩
    have c0 : X.cell? ⟨w.heap.size, 0, none⟩ = some (.int .i64 W) := hM.cell 0
    have c1 : X.cell? ⟨w.heap.size, 1, none⟩ = some (.int .i64 H) := hM.cell 1
    have c2 : X.cell? ⟨w.heap.size, 2, none⟩ = some (.slice A n c) := hM.cell 2
    have c3 : X.cell? ⟨w.heap.size, 3, none⟩ = some (.int .i64 r) := hM.cell 3
    have c4 : X.cell? ⟨w.heap.size, 4, none⟩ = some (.int .i64 cl) := hM.cell 4
    have c5 : X.cell? ⟨w.heap.size, 5, none⟩ = some (.bool vs) := hM.cell 5
    have c6 : X.cell? ⟨w.heap.size, 6, none⟩ = some (.int .i64 U) := hM.cell 6
    have hl := hM.lt
    clear hM
    go_wp2_with (go_at_call 35; refine (HC.out _ hb).mono ?_; rintro e w1 ⟨rfl, hb1⟩; have d6 := (hb1.cell (p := ⟨w.heap.size, 6, none⟩) hl).trans c6)
    go_ret
    exact ⟨rfl, hb.trans (hb1.mono hb.size)⟩
  ·have hu' : decide (0 ≤ U) = false := decide_eq_false hu
   rw [hu']
   clear hu
   go_enter Tryz.func18, Tryz.ntmps18
   go_upto_region 1 with fail
   refine wp_fg (fun X => Blk X w.heap.size 26 (mdC ⟨⟨W, H, rows, r, cl, vs⟩, U⟩ A n c) ∧ Below w.heap.size w X) ⟨Blk.new_ rfl, (Below.refl _ _).alloc (Nat.le_refl _) _⟩ ?_
   rintro X ⟨hM, hb⟩
   have c0 : X.cell? ⟨w.heap.size, 0, none⟩ = some (.int .i64 W) := hM.cell 0
   have c1 : X.cell? ⟨w.heap.size, 1, none⟩ = some (.int .i64 H) := hM.cell 1
   have c2 : X.cell? ⟨w.heap.size, 2, none⟩ = some (.slice A n c) := hM.cell 2
   have c3 : X.cell? ⟨w.heap.size, 3, none⟩ = some (.int .i64 r) := hM.cell 3
   have c4 : X.cell? ⟨w.heap.size, 4, none⟩ = some (.int .i64 cl) := hM.cell 4
   have c5 : X.cell? ⟨w.heap.size, 5, none⟩ = some (.bool vs) := hM.cell 5
   have c6 : X.cell? ⟨w.heap.size, 6, none⟩ = some (.int .i64 U) := hM.cell 6
   have hl := hM.lt
   clear hM
   go_wp2_with (go_at_call 35; refine (HC.out _ hb).mono ?_; rintro e w1 ⟨rfl, hb1⟩; have d6 := (hb1.cell (p := ⟨w.heap.size, 6, none⟩) hl).trans c6)
   go_ret
   exact ⟨rfl, hb.trans (hb1.mono hb.size)⟩
 ·have e1 : (V == 0) = false := beq_eq_false_iff_ne.2 hv
  rw [decide_eq_false hv]
  clear h1 hv
  go_enter Tryz.func18, Tryz.ntmps18
  go_upto_region 1 with fail
  refine wp_fg (fun X => Blk X w.heap.size 26 (mdC ⟨⟨W, H, rows, r, cl, vs⟩, U⟩ A n c) ∧ Below w.heap.size w X) ⟨Blk.new_ rfl, (Below.refl _ _).alloc (Nat.le_refl _) _⟩ ?_
  rintro X ⟨hM, hb⟩
  have c0 : X.cell? ⟨w.heap.size, 0, none⟩ = some (.int .i64 W) := hM.cell 0
  have c1 : X.cell? ⟨w.heap.size, 1, none⟩ = some (.int .i64 H) := hM.cell 1
  have c2 : X.cell? ⟨w.heap.size, 2, none⟩ = some (.slice A n c) := hM.cell 2
  have c3 : X.cell? ⟨w.heap.size, 3, none⟩ = some (.int .i64 r) := hM.cell 3
  have c4 : X.cell? ⟨w.heap.size, 4, none⟩ = some (.int .i64 cl) := hM.cell 4
  have c5 : X.cell? ⟨w.heap.size, 5, none⟩ = some (.bool vs) := hM.cell 5
  have c6 : X.cell? ⟨w.heap.size, 6, none⟩ = some (.int .i64 U) := hM.cell 6
  have hl := hM.lt
  clear hM
  go_wp2_with (go_at_call 35; refine (HC.out _ hb).mono ?_; rintro e w1 ⟨rfl, hb1⟩; have d6 := (hb1.cell (p := ⟨w.heap.size, 6, none⟩) hl).trans c6)
  go_ret
  exact ⟨rfl, hb.trans (hb1.mono hb.size)⟩
end Go.Proofs.YtholajadbbdcmaaGreatDoor
namespace Go.Proofs.YtholajadbbdcmaaGreatDoor
open Go.RowKit
set_option maxRecDepth 20000
set_option maxHeartbeats 4000000 in
theorem lnew_ (W H : Int) (w : World) : Calls Tryz.prog 22 #[.int .i64 W, .int .i64 H] w (MdR (newM W H) w) := by
 obtain ⟨R, hR⟩ : ∃ R : Vw × Int, (if sizeB W H = true then (blankV W H, (0 : Int)) else (vw0, 2)) = R := ⟨_, rfl⟩
 have hN : newM W H = if R.2 = 0 then (⟨R.1, 0⟩, 0) else (md0, R.2) := by
  rw [← hR]
  unfold newM
  by_cases h : sizeB W H = true
  ·rw [if_pos h, if_pos h]; rfl
  ·rw [if_neg h, if_neg h]; rfl
 have HB : Hid (∀ w', Below w.heap.size w w' → Calls Tryz.prog 43 #[.int .i64 W, .int .i64 H] w' fun e w'' => ∃ A n c rs, e = .returned (.tuple #[.agg #[.int .i64 R.1.width, .int .i64 R.1.height, .slice A n c, .int .i64 R.1.row, .int .i64 R.1.col, .bool R.1.vis], .int .i64 R.2]) ∧ OwV w'.heap.size w'' R.1 A n c rs ∧ Below w'.heap.size w' w'') := Lib.hid fun w' _ => (blank_ W H w').mono fun e w'' h => by
  rw [hR] at h
  obtain ⟨h1, A, n, c, rs, h2, h3⟩ := h
  exact ⟨A, n, c, rs, h2, h3, h1⟩
 rw [hN]
 clear hN hR
 obtain ⟨⟨vw, vh, rows, vr, vc, vis⟩, E⟩ := R
 dsimp only at HB ⊢
 by_cases hE : E = 0
 ·subst hE
  rw [if_pos rfl]
  have h0 : ((0 : Int) != 0) = false := rfl
  go_enter Tryz.func22, Tryz.ntmps22
  go_upto_region 1 with fail
  refine wp_fg (fun X => ZM X w.heap.size ∧ Below w.heap.size w X) ⟨Blk.new_ rfl, (Below.refl _ _).alloc (Nat.le_refl _) _⟩ ?_
  rintro X ⟨hZ, hb⟩
  have hlX := hZ.lt
  go_upto_region 2 with (go_at_call 43; refine (HB.out _ hb).mono ?_; rintro e w1 ⟨A1, n1, d1, rs1, rfl, ho, hb1⟩)
  have hzz := hb1.size
  refine wp_fg (fun Y => Below X.heap.size X Y ∧ OwV X.heap.size Y ⟨vw, vh, rows, vr, vc, vis⟩ A1 n1 d1 rs1 ∧ Blk Y w1.heap.size 24 (vwC ⟨vw, vh, rows, vr, vc, vis⟩ A1 n1 d1)) ⟨hb1.alloc hzz _, ho.below ((Below.refl _ _).alloc (Nat.le_refl _) _), Blk.new_ rfl⟩ ?_
  rintro Y ⟨hY, hoY, hB⟩
  have hZ1 := hZ.below hY hlX
  obtain ⟨z0, z1, z2, z3, z4, z5, z6, y0, y1, y2, y3, y4, y5, y6⟩ := ZM.facts hZ1
  obtain ⟨c0, c1, c2, c3, c4, c5⟩ := vw_cells hB
  dsimp only at c0 c1 c3 c4 c5
  have hR := ZM.set7 hZ1 ⟨⟨vw, vh, rows, vr, vc, vis⟩, 0⟩ A1 n1 d1
  have ho7 := Lib.hid (((((((hoY.far (p := ⟨w.heap.size, 0, none⟩) hlX (.int .i64 vw)).far (p := ⟨w.heap.size, 1, none⟩) hlX (.int .i64 vh)).far (p := ⟨w.heap.size, 2, none⟩) hlX (.slice A1 n1 d1)).far (p := ⟨w.heap.size, 3, none⟩) hlX (.int .i64 vr)).far (p := ⟨w.heap.size, 4, none⟩) hlX (.int .i64 vc)).far (p := ⟨w.heap.size, 5, none⟩) hlX (.bool vis)).far (p := ⟨w.heap.size, 6, none⟩) hlX (.int .i64 0))
  have hng : w.heap.size ≠ w1.heap.size := by omega
  clear hB hoY ho
  go_wp2
  exact bodyPost_ret (results_ctmp rfl _ _ w.heap.size 26 _ (0, 0) _ rfl hR Tryz.underlying26 rfl info_model) rfl ⟨below_m7 (hb.trans (hY.mono (Nat.le_of_lt hlX))) (Nat.le_refl _) ⟨⟨vw, vh, rows, vr, vc, vis⟩, 0⟩ A1 n1 d1, A1, n1, d1, rs1, rfl, ho7.out.less (Nat.le_of_lt hlX)⟩
 ·rw [if_neg hE]
  have h0 : (E != 0) = true := bne_iff_ne.2 hE
  clear hE
  go_enter Tryz.func22, Tryz.ntmps22
  go_upto_region 1 with fail
  refine wp_fg (fun X => ZM X w.heap.size ∧ Below w.heap.size w X) ⟨Blk.new_ rfl, (Below.refl _ _).alloc (Nat.le_refl _) _⟩ ?_
  rintro X ⟨hZ, hb⟩
  have hlX := hZ.lt
  go_upto_region 2 with (go_at_call 43; refine (HB.out _ hb).mono ?_; rintro e w1 ⟨A1, n1, d1, rs1, rfl, ho, hb1⟩)
  refine wp_fg (fun Y => Below X.heap.size X Y) (hb1.alloc hb1.size _) ?_
  intro Y hY
  have hZ1 := hZ.below hY hlX
  obtain ⟨z0, z1, z2, z3, z4, z5, z6, y0, y1, y2, y3, y4, y5, y6⟩ := ZM.facts hZ1
  go_wp2
  exact bodyPost_ret (results_ctmp rfl _ _ w.heap.size 26 _ (0, 0) _ rfl (ZM.set7 hZ1 md0 none 0 0) Tryz.underlying26 rfl info_model) rfl ⟨below_m7 (hb.trans (hY.mono (Nat.le_of_lt hlX))) (Nat.le_refl _) md0 none 0 0, none, 0, 0, [], rfl, OwV.none_ _ _⟩
end Go.Proofs.YtholajadbbdcmaaGreatDoor
