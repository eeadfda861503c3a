/- Joined texts: Lvk, Rp1, Rp3, Rp4, Lvl, Lvm. -/
import Derived.Laws.EntriesVeiled
import Derived.Test.YtholajadbbdcmaaGreatDoorQAA
import Derived.Test.YtholajadbbdcmaaGreatDoorQAB
import Derived.Test.YtholajadbbdcmaaGreatDoorQAC
import Derived.Test.YtholajadbbdcmaaGreatDoorQAD
import Derived.Test.YtholajadbbdcmaaGreatDoorQAE
import Derived.Test.YtholajadbbdcmaaGreatDoorQAF
import Derived.Test.YtholajadbbdcmaaGreatDoorQAG
import Derived.Test.YtholajadbbdcmaaGreatDoorQAH
import Derived.Test.YtholajadbbdcmaaGreatDoorQAI
import Derived.Test.YtholajadbbdcmaaGreatDoorQAM
import Derived.Test.YtholajadbbdcmaaGreatDoorQAN
import Derived.Test.YtholajadbbdcmaaGreatDoorQAQ
import Derived.Test.YtholajadbbdcmaaGreatDoorQAS
import Derived.Test.YtholajadbbdcmaaGreatDoorQAT
import Derived.Test.YtholajadbbdcmaaGreatDoorQAU
import Derived.Test.YtholajadbbdcmaaGreatDoorQAY
import Derived.Test.YtholajadbbdcmaaGreatDoorQBA
import Derived.Test.YtholajadbbdcmaaGreatDoorQBB
import Derived.Test.YtholajadbbdcmaaGreatDoorQBC
import Derived.Test.YtholajadbbdcmaaGreatDoorQBD
import Derived.Test.YtholajadbbdcmaaGreatDoorQBG
import Derived.Test.YtholajadbbdcmaaGreatDoorQBH
import Derived.Test.YtholajadbbdcmaaGreatDoorQBU
import Derived.Test.YtholajadbbdcmaaGreatDoorQBV
import Derived.Test.YtholajadbbdcmaaGreatDoorQBW
import Derived.Test.YtholajadbbdcmaaGreatDoorQBX
import Derived.Test.YtholajadbbdcmaaGreatDoorQBY
import Derived.Test.YtholajadbbdcmaaGreatDoorQBZ
set_option linter.unusedVariables false
set_option linter.unusedSimpArgs false
set_option linter.unnecessarySimpa false
namespace Go.Proofs.YtholajadbbdcmaaGreatDoor
open Go.RowKit
set_option maxRecDepth 20000
set_option maxHeartbeats 4000000 in
theorem capply_ {base G B : Nat} {v : Vw} {rs : List RowM} {A : Option Addr} {cA : Nat} {X0 : World} (h : ED base G v rs A cA X0) (hbase : base ≤ X0.heap.size) (hlen : (rs.length : Int) = v.height) (hh : v.height ≤ 1000) (hrl : ∀ x ∈ rs, x.l.length ≤ 100000000)
  (c : Chg) (Ag : Option Addr) (cap : Nat) (hB : B ≤ base) (rd : Rd X0 B 3 Ag c.glyphs.length (encGs c.glyphs)) (hgl : c.glyphs.length ≤ 100000000) (hk : 1 ≤ c.kind ∧ c.kind ≤ 4) (hr : rangeC v c = true) :
  Calls Tryz.prog 55 #[.pointer (some ⟨G, 0, none⟩), chgV c Ag cap] X0 (EdR base G (stepV v c) X0) := by
 have hl2 : ∀ x ∈ rs, x.l.length ≤ 1000000000 := fun x hx => Nat.le_trans (hrl x hx) (by decide)
 have hw : ∀ w', Below X0.heap.size X0 w' → ED base G v rs A cA w' ∧ base ≤ w'.heap.size ∧ Rd w' B 3 Ag c.glyphs.length (encGs c.glyphs) := fun w' hb => ⟨h.below hb, Nat.le_trans hbase hb.size, rd.below (hb.mono (by omega))⟩
 have hb2 : ∀ w' e w'', Below X0.heap.size X0 w' → EdR base G (stepV v c) w' e w'' → EdR base G (stepV v c) X0 e w'' := fun w' e w'' hb ⟨h1, h2, h3⟩ => ⟨h1, h2, (hb.mono hbase).trans h3⟩
 obtain ⟨kind, row, col, count, til, g⟩ := c
 dsimp only at *
 have hcases : kind = 1 ∨ kind = 2 ∨ kind = 3 ∨ kind = 4 := by omega
 rcases hcases with rfl | rfl | rfl | rfl
 ·have HC : Hid (∀ w', Below X0.heap.size X0 w' → Calls Tryz.prog 90 #[.pointer (some ⟨G, 0, none⟩), chgV ⟨1, row, col, count, til, g⟩ Ag cap] w' (EdR base G (stepV v ⟨1, row, col, count, til, g⟩) X0)) := Lib.hid fun w' hb => (csize_ (hw w' hb).1 (hw w' hb).2.1 (by omega) hrl _ Ag cap rfl hr).mono fun e w'' hq => hb2 w' e w'' hb hq
  clear hb2 hw hr h hlen rd hrl hl2
  have HG := HC
  clear HC
  go_enter Tryz.func55, Tryz.ntmps55
  go_upto_region 1 with fail
  refine wp_fg (ChgBox X0 ⟨1, row, col, count, til, g⟩ Ag cap) (ChgBox.new X0 ⟨1, row, col, count, til, g⟩ Ag cap _) ?_
  rintro X ⟨c0, c1, c2, c3, c4, c5, hb, hzX⟩
  dsimp only at c0 c1 c2 c3 c4 c5
  go_upto_region 2 with fail
  refine wp_fg (fun Y => Below X.heap.size X Y ∧ Y.cell? ⟨X.heap.size, 0, none⟩ = some (.func (Fn.func 90) #[] #[])) ⟨(Below.refl _ _).alloc (Nat.le_refl _) _, by simp⟩ ?_
  rintro Y ⟨hY, hf⟩
  have e0 := (hY.cell (p := ⟨X0.heap.size, 0, none⟩) hzX).trans c0
  have e1 := (hY.cell (p := ⟨X0.heap.size, 1, none⟩) hzX).trans c1
  have e2 := (hY.cell (p := ⟨X0.heap.size, 2, none⟩) hzX).trans c2
  have e3 := (hY.cell (p := ⟨X0.heap.size, 3, none⟩) hzX).trans c3
  have e4 := (hY.cell (p := ⟨X0.heap.size, 4, none⟩) hzX).trans c4
  have e5 := (hY.cell (p := ⟨X0.heap.size, 5, none⟩) hzX).trans c5
  have hbY := hb.trans (hY.mono (by omega))
  clear c0 c1 c2 c3 c4 c5 hb hY
  have hwr : IntKind.i64.wrap 0 = 0 := by decide
  go_region_law (go_simp; go_at_call 90; refine (HG.out _ (by first | exact hbY | exact hbY.drew)).mono ?_; rintro e w2 ⟨rfl, h2, h3⟩)
  all_goals go_wp2
  all_goals go_end0
  all_goals exact ⟨rfl, h2, h3⟩
 ·have HC : Hid (∀ w', Below X0.heap.size X0 w' → Calls Tryz.prog 91 #[.pointer (some ⟨G, 0, none⟩), chgV ⟨2, row, col, count, til, g⟩ Ag cap] w' (EdR base G (stepV v ⟨2, row, col, count, til, g⟩) X0)) := Lib.hid fun w' hb => (cscroll_ (hw w' hb).1 (hw w' hb).2.1 hlen hh hl2 _ Ag cap rfl hr).mono fun e w'' hq => hb2 w' e w'' hb hq
  clear hb2 hw hr h hlen rd hrl hl2
  have HG := HC
  clear HC
  go_enter Tryz.func55, Tryz.ntmps55
  go_upto_region 1 with fail
  refine wp_fg (ChgBox X0 ⟨2, row, col, count, til, g⟩ Ag cap) (ChgBox.new X0 ⟨2, row, col, count, til, g⟩ Ag cap _) ?_
  rintro X ⟨c0, c1, c2, c3, c4, c5, hb, hzX⟩
  dsimp only at c0 c1 c2 c3 c4 c5
  go_upto_region 2 with fail
  refine wp_fg (fun Y => Below X.heap.size X Y ∧ Y.cell? ⟨X.heap.size, 1, none⟩ = some (.func (Fn.func 91) #[] #[])) ⟨(Below.refl _ _).alloc (Nat.le_refl _) _, by simp⟩ ?_
  rintro Y ⟨hY, hf⟩
  have e0 := (hY.cell (p := ⟨X0.heap.size, 0, none⟩) hzX).trans c0
  have e1 := (hY.cell (p := ⟨X0.heap.size, 1, none⟩) hzX).trans c1
  have e2 := (hY.cell (p := ⟨X0.heap.size, 2, none⟩) hzX).trans c2
  have e3 := (hY.cell (p := ⟨X0.heap.size, 3, none⟩) hzX).trans c3
  have e4 := (hY.cell (p := ⟨X0.heap.size, 4, none⟩) hzX).trans c4
  have e5 := (hY.cell (p := ⟨X0.heap.size, 5, none⟩) hzX).trans c5
  have hbY := hb.trans (hY.mono (by omega))
  clear c0 c1 c2 c3 c4 c5 hb hY
  have hwr : IntKind.i64.wrap 1 = 1 := by decide
  go_region_law (go_simp; go_at_call 91; refine (HG.out _ (by first | exact hbY | exact hbY.drew)).mono ?_; rintro e w2 ⟨rfl, h2, h3⟩)
  all_goals go_wp2
  all_goals go_end0
  all_goals exact ⟨rfl, h2, h3⟩
 ·have HC : Hid (∀ w', Below X0.heap.size X0 w' → Calls Tryz.prog 92 #[.pointer (some ⟨G, 0, none⟩), chgV ⟨3, row, col, count, til, g⟩ Ag cap] w' (EdR base G (stepV v ⟨3, row, col, count, til, g⟩) X0)) := Lib.hid fun w' hb => (csplice_ (hw w' hb).1 (hw w' hb).2.1 hlen hh hrl _ Ag cap hB (hw w' hb).2.2 hgl rfl hr).mono fun e w'' hq => hb2 w' e w'' hb hq
  clear hb2 hw hr h hlen rd hrl hl2
  have HG := HC
  clear HC
  go_enter Tryz.func55, Tryz.ntmps55
  go_upto_region 1 with fail
  refine wp_fg (ChgBox X0 ⟨3, row, col, count, til, g⟩ Ag cap) (ChgBox.new X0 ⟨3, row, col, count, til, g⟩ Ag cap _) ?_
  rintro X ⟨c0, c1, c2, c3, c4, c5, hb, hzX⟩
  dsimp only at c0 c1 c2 c3 c4 c5
  go_upto_region 2 with fail
  refine wp_fg (fun Y => Below X.heap.size X Y ∧ Y.cell? ⟨X.heap.size, 2, none⟩ = some (.func (Fn.func 92) #[] #[])) ⟨(Below.refl _ _).alloc (Nat.le_refl _) _, by simp⟩ ?_
  rintro Y ⟨hY, hf⟩
  have e0 := (hY.cell (p := ⟨X0.heap.size, 0, none⟩) hzX).trans c0
  have e1 := (hY.cell (p := ⟨X0.heap.size, 1, none⟩) hzX).trans c1
  have e2 := (hY.cell (p := ⟨X0.heap.size, 2, none⟩) hzX).trans c2
  have e3 := (hY.cell (p := ⟨X0.heap.size, 3, none⟩) hzX).trans c3
  have e4 := (hY.cell (p := ⟨X0.heap.size, 4, none⟩) hzX).trans c4
  have e5 := (hY.cell (p := ⟨X0.heap.size, 5, none⟩) hzX).trans c5
  have hbY := hb.trans (hY.mono (by omega))
  clear c0 c1 c2 c3 c4 c5 hb hY
  have hwr : IntKind.i64.wrap 2 = 2 := by decide
  go_region_law (go_simp; go_at_call 92; refine (HG.out _ (by first | exact hbY | exact hbY.drew)).mono ?_; rintro e w2 ⟨rfl, h2, h3⟩)
  all_goals go_wp2
  all_goals go_end0
  all_goals exact ⟨rfl, h2, h3⟩
 ·have HC : Hid (∀ w', Below X0.heap.size X0 w' → Calls Tryz.prog 93 #[.pointer (some ⟨G, 0, none⟩), chgV ⟨4, row, col, count, til, g⟩ Ag cap] w' (EdR base G (stepV v ⟨4, row, col, count, til, g⟩) X0)) := Lib.hid fun w' hb => (ccursor_ (hw w' hb).1 (hw w' hb).2.1 _ Ag cap rfl).mono fun e w'' hq => hb2 w' e w'' hb hq
  clear hb2 hw hr h hlen rd hrl hl2
  have HG := HC
  clear HC
  go_enter Tryz.func55, Tryz.ntmps55
  go_upto_region 1 with fail
  refine wp_fg (ChgBox X0 ⟨4, row, col, count, til, g⟩ Ag cap) (ChgBox.new X0 ⟨4, row, col, count, til, g⟩ Ag cap _) ?_
  rintro X ⟨c0, c1, c2, c3, c4, c5, hb, hzX⟩
  dsimp only at c0 c1 c2 c3 c4 c5
  go_upto_region 2 with fail
  refine wp_fg (fun Y => Below X.heap.size X Y ∧ Y.cell? ⟨X.heap.size, 3, none⟩ = some (.func (Fn.func 93) #[] #[])) ⟨(Below.refl _ _).alloc (Nat.le_refl _) _, by simp⟩ ?_
  rintro Y ⟨hY, hf⟩
  have e0 := (hY.cell (p := ⟨X0.heap.size, 0, none⟩) hzX).trans c0
  have e1 := (hY.cell (p := ⟨X0.heap.size, 1, none⟩) hzX).trans c1
  have e2 := (hY.cell (p := ⟨X0.heap.size, 2, none⟩) hzX).trans c2
  have e3 := (hY.cell (p := ⟨X0.heap.size, 3, none⟩) hzX).trans c3
  have e4 := (hY.cell (p := ⟨X0.heap.size, 4, none⟩) hzX).trans c4
  have e5 := (hY.cell (p := ⟨X0.heap.size, 5, none⟩) hzX).trans c5
  have hbY := hb.trans (hY.mono (by omega))
  clear c0 c1 c2 c3 c4 c5 hb hY
  have hwr : IntKind.i64.wrap 3 = 3 := by decide
  go_region_law (go_simp; go_at_call 93; refine (HG.out _ (by first | exact hbY | exact hbY.drew)).mono ?_; rintro e w2 ⟨rfl, h2, h3⟩)
  all_goals go_wp2
  all_goals go_end0
  all_goals exact ⟨rfl, h2, h3⟩
end Go.Proofs.YtholajadbbdcmaaGreatDoor
namespace Go.Proofs.YtholajadbbdcmaaGreatDoor
open Go.RowKit
set_option maxRecDepth 20000
def raN (s : ByteArray) (j : Nat) : List Nat := ((bytN s).take j).map (fun b => b - 32) ++ (bytN s).drop j
theorem raN_len (s : ByteArray) (j : Nat) : (raN s j).length = s.size := by
 unfold raN
 rw [List.length_append, List.length_map, List.length_take, List.length_drop, bytN_len]
 omega
theorem raN_get (s : ByteArray) (j i : Nat) (h : i < s.size) : (raN s j)[i]'(by rw [raN_len]; exact h) = if i < j then (bytN s)[i]'(by rw [bytN_len]; exact h) - 32 else (bytN s)[i]'(by rw [bytN_len]; exact h) := by
 unfold raN
 rw [List.getElem_append]
 by_cases hi : i < j
 ·rw [if_pos hi, dif_pos (by rw [List.length_map, List.length_take, bytN_len]; omega)]
  simp
 ·rw [if_neg hi, dif_neg (by rw [List.length_map, List.length_take, bytN_len]; omega)]
  simp only [List.length_map, List.length_take, bytN_len, List.getElem_drop]
  congr 1
  omega
def RaS (w : World) (s : ByteArray) (j : Nat) (wr : World) : Prop :=
 (∀ i (h : i < s.size), wr.cell? ⟨w.heap.size, i, none⟩ = some (.int .u8 ((raN s j)[i]'(by rw [raN_len]; exact h) : Nat)) ∧ wr.frozen? ⟨w.heap.size, i, none⟩ = false) ∧ Below w.heap.size w wr
theorem RaS.next {w wr : World} {s : ByteArray} {j : Nat} (h : RaS w s j wr) (hj : j < s.size) : RaS w s (j + 1) (wr.setCell ⟨w.heap.size, j, none⟩ (.int .u8 (((bytN s)[j]'(by rw [bytN_len]; exact hj) - 32 : Nat) : Int))) := by
 refine ⟨fun i hi => ⟨?_, ?_⟩, h.2.setCell (Nat.le_refl _) _⟩
 ·by_cases hij : i = j
  ·subst hij
   rw [World.cell?_setCell_same' _ _ _ (by rw [(h.1 i hi).1]; rfl), raN_get s (i + 1) i hi, if_pos (by omega)]
  ·rw [World.cell?_setCell_other _ _ _ _ (by intro e; injection e with _ e; exact hij e.symm), (h.1 i hi).1, raN_get s (j + 1) i hi, raN_get s j i hi]
   by_cases hl : i < j
   ·rw [if_pos hl, if_pos (by omega)]
   ·rw [if_neg hl, if_neg (by omega)]
 ·rw [World.frozen?_setCell]
  exact (h.1 i hi).2
theorem RaS.first (w : World) (s : ByteArray) : RaS w s 0 (w.drew.alloc (.cells (bytesRow s (grownCap w s.size 0 5)) 5 ((bytesRow s (grownCap w s.size 0 5)).size, (bytesRow s (grownCap w s.size 0 5)).size + 1))) := by
 have hrow : (w.drew.alloc (.cells (bytesRow s (grownCap w s.size 0 5)) 5 ((bytesRow s (grownCap w s.size 0 5)).size, (bytesRow s (grownCap w s.size 0 5)).size + 1))).heap[w.heap.size]? = some (.cells (bytesRow s (grownCap w s.size 0 5)) 5 ((bytesRow s (grownCap w s.size 0 5)).size, (bytesRow s (grownCap w s.size 0 5)).size + 1)) := heap_alloc_new w.drew _
 refine ⟨fun i hi => ⟨?_, ?_⟩, (Below.refl _ _).drew.alloc (Nat.le_refl _) _⟩
 ·rw [cell_of_row _ _ _ _ _ _ hrow]
  unfold bytesRow
  rw [Array.getElem?_append_left (by simpa using hi), Array.getElem?_map, Array.getElem?_eq_getElem (by simpa using hi), raN_get s 0 i hi, if_neg (by omega)]
  simp [bytN]
 ·unfold World.frozen?
  rw [hrow]
  have : i < (bytesRow s (grownCap w s.size 0 5)).size := by
   unfold bytesRow
   rw [Array.size_append, Array.size_map]
   have : s.data.size = s.size := rfl
   omega
  simp only [decide_eq_false_iff_not, Bool.and_eq_false_iff, decide_eq_true_eq]
  omega
abbrev tC (v : Value) (st : Int) (j : Bool) : Array Value := #[v, .int .i64 st, .bool j]
theorem gby_set (w : World) (a : Addr) (u : Value) : w.grownBy (w.setCell a u) (some a.block) :=
 ⟨rfl, rfl, rfl, by simp, fun k _ hk => Below.heap_setCell w a u k (fun e => hk (by rw [e]))⟩
theorem ne_own {v : Value} {p : Nat} (hp : ∀ k, v.ownBlock = some k → k ≠ p) : v.ownBlock = none ∨ v.ownBlock ≠ some p := by
 cases h : v.ownBlock with
 | none => exact .inl rfl
 | some k => exact .inr fun e => hp k h (by injection e)
theorem some_ne {v : Value} {p : Nat} (hp : ∀ k, v.ownBlock = some k → k ≠ p) : some p ≠ v.ownBlock := fun e => hp p e.symm rfl
theorem own_off {w : World} {base size n : Nat} {e : TypeId} {v : Value} {xs : List Value} (h : w.ownsRow base e size v n xs) {p : Addr} (hp : ∀ k, v.ownBlock = some k → k ≠ p.block) (u : Value) : (w.setCell p u).ownsRow base e size v n xs :=
 h.kept (gby_set w p u) (ne_own hp)
def Sep (N : Nat) (v0 v : Value) : Prop := ∀ k, v.ownBlock = some k → (v0.ownBlock = some k ∧ k < N) ∨ N + 2 ≤ k
theorem Sep.ne {N : Nat} {v0 v : Value} (h : Sep N v0 v) : ∀ k, v.ownBlock = some k → k ≠ N ∧ k ≠ N + 1 := fun k hk => by
 rcases h k hk with h | h <;> omega
def BG (base : Nat) (v0 : Value) (w wx : World) : Prop := Below base w wx ∧ w.grownBy wx v0.ownBlock
theorem grown_of_below {w w' : World} (hb : Below w.heap.size w w') (row : Option Nat) : w.grownBy w' row := ⟨hb.os, hb.tape, hb.output, hb.size, fun k hk _ => hb.block k hk⟩
section
variable {base : Nat} {v0 : Value} {w wx wy : World}
theorem BG.refl (base : Nat) (v0 : Value) (w : World) : BG base v0 w w := ⟨Below.refl _ _, World.grownBy.refl w _⟩
theorem BG.below (h : BG base v0 w wx) (hb : Below wx.heap.size wx wy) (hbase : base ≤ w.heap.size) : BG base v0 w wy :=
 ⟨h.1.trans (hb.mono (Nat.le_trans hbase h.2.size)), h.2.trans (grown_of_below hb _)⟩
theorem BG.grown (h : BG base v0 w wx) (hb : Below base wx wy) {v : Value} (hg : wx.grownBy wy v.ownBlock) (hs : Sep w.heap.size v0 v) : BG base v0 w wy :=
 ⟨h.1.trans hb, h.2.andThen hg fun j hj => by
  rcases hs j hj with ⟨h, _⟩ | h
  ·exact .inr h
  ·exact .inl (by omega)⟩
theorem BG.alloc (h : BG base v0 w wx) (hbase : base ≤ w.heap.size) (o : Obj) : BG base v0 w (wx.alloc o) := h.below (Below.alloc (Below.refl _ _) (Nat.le_refl _) _) hbase
theorem BG.drew (h : BG base v0 w wx) (hbase : base ≤ w.heap.size) : BG base v0 w wx.drew := h.below (Below.refl _ _).drew hbase
theorem BG.set_ (h : BG base v0 w wx) (hbase : base ≤ w.heap.size) {p : Addr} (hp : w.heap.size ≤ p.block) (u : Value) : BG base v0 w (wx.setCell p u) :=
 ⟨h.1.setCell (Nat.le_trans hbase hp) _, h.2.andThen (gby_set wx p u) fun j hj => .inl (by injection hj with hj; omega)⟩
theorem BG.size (h : BG base v0 w wx) : w.heap.size ≤ wx.heap.size := h.2.size
end
def TX (w : World) (base : Nat) (v0 : Value) (st : Int) (j : Bool) (O : List Gl) (wx : World) : Prop :=
 ∃ A c, Blk wx w.heap.size 184 (tC (.slice A O.length c) st j) ∧ Blk wx (w.heap.size + 1) 184 (tC (.slice none 0 0) 0 false) ∧ wx.ownsRow base 89 3 (.slice A O.length c) O.length (encGs O) ∧
  Sep w.heap.size v0 (.slice A O.length c) ∧ BG base v0 w wx
theorem TX.new {w : World} {base : Nat} {st : Int} {j : Bool} {O : List Gl} {A : Option Addr} {c : Nat} (h : w.ownsRow base 89 3 (.slice A O.length c) O.length (encGs O)) (hb : base ≤ w.heap.size) :
  TX w base (.slice A O.length c) st j O ((w.alloc (.cells (tC (.slice A O.length c) st j) 184)).alloc (.cells (tC (.slice none 0 0) 0 false) 184)) :=
 ⟨A, c, Blk.alloc (Blk.new w _ _) _, Blk.new_ (by simp), (h.alloc _).alloc _, fun k hk => .inl ⟨hk, (h.lt k hk).2⟩, ((BG.refl _ _ _).alloc hb _).alloc hb _⟩
theorem TX.put {w X w4 : World} {base n N c0 c4 : Nat} {v0 : Value} {A0 A4 : Option Addr} {st : Int} {j : Bool} {ys : List Value} {O : List Gl}
  (B1 : Blk X w.heap.size 184 (tC (.slice A0 n c0) st j)) (B2 : Blk X (w.heap.size + 1) 184 (tC (.slice none 0 0) 0 false)) (hs : Sep w.heap.size v0 (.slice A0 n c0)) (tX : BG base v0 w X) (hb : base ≤ w.heap.size)
  (hown4 : w4.ownsRow base 89 3 (.slice A4 N c4) N ys) (hbel4 : Below base X w4) (hgr : X.grownBy w4 (Value.slice A0 n c0).ownBlock) (hat : (Value.slice A4 N c4).ownBlock = (Value.slice A0 n c0).ownBlock ∨ (Value.slice A4 N c4).ownBlock = some X.heap.size) (hN : O.length = N) (hy : encGs O = ys) :
  TX w base v0 st j O (w4.setCell ⟨w.heap.size, 0, none⟩ (.slice A4 N c4)) := by
 subst hN hy
 have z1 := B2.lt
 have hs4 : Sep w.heap.size v0 (.slice A4 O.length c4) := fun k hk => by
  rcases hat with h | h
  ·exact hs k (h ▸ hk)
  ·rw [h] at hk
   injection hk with hk
   omega
 have C1 := B1.grown hgr (some_ne fun k hk => (hs.ne k hk).1)
 have C2 := B2.grown hgr (some_ne fun k hk => (hs.ne k hk).2)
 refine ⟨A4, c4, ?_, C2.far (p := ⟨w.heap.size, 0, none⟩) (by show w.heap.size + 1 ≠ w.heap.size; omega) _, own_off hown4 (p := ⟨w.heap.size, 0, none⟩) (fun k hk => (hs4.ne k hk).1) _, hs4, (tX.grown hbel4 hgr hs).set_ hb (Nat.le_refl _) _⟩
 have := C1.set_ 0 (.slice A4 O.length c4)
 simpa [tC] using this
theorem results_ctmp {P : Program} {fn : Func} {p u : Tmp} {ty : TypeId} (h : fn.results = #[.cell p ty, .tmp u]) (tmps : Array Value) (w : World) (g : Nat) (t : TypeId) (cs : Array Value) (fr : Nat × Nat) (d : TypeDesc)
  (hp : tmps.getD p undef = .pointer (some ⟨g, 0, none⟩)) (hg : w.heap[g]? = some (.cells cs t fr))
  (hu : P.underlying ty = some d) (hd : (match d with | .struct _ | .array _ _ => true | _ => false) = true) (hi : (P.info? ty).map (·.size) = some cs.size) :
  (results fn tmps).run P w = .ok (.tuple #[.agg cs, tmps.getD u undef]) w := by
 rw [results_cell_tmp h, hp]
 simp [asAddr, run_loadVar_row w g t ty cs fr d hg hu hd hi]
theorem TX.below {w X X' : World} {base : Nat} {v0 : Value} {st : Int} {j : Bool} {O : List Gl} (h : TX w base v0 st j O X) (hb : Below X.heap.size X X') (hbase : base ≤ w.heap.size) : TX w base v0 st j O X' := by
 obtain ⟨A, c, B1, B2, ox, hs, tx⟩ := h
 exact ⟨A, c, B1.below hb B1.lt, B2.below hb B2.lt, own_below ox hb, hs, tx.below hb hbase⟩
end Go.Proofs.YtholajadbbdcmaaGreatDoor
namespace Go.Proofs.YtholajadbbdcmaaGreatDoor
open Go.RowKit
theorem results_ctt {P : Program} {fn : Func} {p u u2 : Tmp} {ty : TypeId} (h : fn.results = #[.cell p ty, .tmp u, .tmp u2]) (tmps : Array Value) (w : World) (g : Nat) (t : TypeId) (cs : Array Value) (fr : Nat × Nat) (d : TypeDesc)
  (hp : tmps.getD p undef = .pointer (some ⟨g, 0, none⟩)) (hg : w.heap[g]? = some (.cells cs t fr))
  (hu : P.underlying ty = some d) (hd : (match d with | .struct _ | .array _ _ => true | _ => false) = true) (hi : (P.info? ty).map (·.size) = some cs.size) :
  (results fn tmps).run P w = .ok (.tuple #[.agg cs, tmps.getD u undef, tmps.getD u2 undef]) w := by
 simp only [results, h]
 have hp' : tmps[p]?.getD undef = .pointer (some ⟨g, 0, none⟩) := by simpa using hp
 simp [Sem.run_bind, Result.andThen, hp', asAddr, run_loadVar_row w g t ty cs fr d hg hu hd hi]
def glN (l : List Chg) : Nat := (l.map fun c => c.glyphs.length + 264).sum
theorem glN_cons (c : Chg) (l : List Chg) : glN (c :: l) = c.glyphs.length + 264 + glN l := by simp [glN]
def LenV (v : Vw) (M : Nat) : Prop := ∀ l ∈ v.rows, l.length ≤ M
theorem LenV.getD {v : Vw} {M : Nat} (h : LenV v M) (i : Nat) : (v.rows.getD i []).length ≤ M := by
 rw [List.getD_eq_getElem?_getD]
 cases hx : v.rows[i]? with
 | none => exact Nat.zero_le _
 | some l => exact h l (List.mem_of_getElem? hx)
theorem LenV.step {v : Vw} {c : Chg} {M : Nat} (h : LenV v M) (hr : rangeC v c = true) : LenV (stepV v c) (M + (c.glyphs.length + 264)) := by
 have h0 : ∀ i, (v.rows.getD i []).length ≤ M + (c.glyphs.length + 264) := fun i => by have := h.getD i; omega
 unfold stepV
 unfold rangeC at hr
 by_cases h1 : c.kind = 1
 ·rw [if_pos h1]
  intro l hl
  simp only [List.mem_map] at hl
  obtain ⟨i, _, rfl⟩ := hl
  have h2 := trim_len ((v.rows.getD i []).take (fitN c.col (v.rows.getD i [])))
  rw [List.length_take] at h2
  have := h0 i
  unfold cutR
  omega
 ·rw [if_neg h1] at hr ⊢
  by_cases h2 : c.kind = 2
  ·rw [if_pos h2]
   intro l hl
   simp only [List.mem_map] at hl
   obtain ⟨i, _, rfl⟩ := hl
   unfold rollR
   split
   ·split
    ·exact h0 _
    ·exact Nat.zero_le _
   ·exact h0 _
  ·rw [if_neg h2] at hr ⊢
   by_cases h3 : c.kind = 3
   ·rw [if_pos h3, decide_eq_true_iff] at hr
    rw [if_pos h3]
    intro l hl
    rcases List.mem_or_eq_of_mem_set hl with hl | rfl
    ·have := h l hl; omega
    ·have h4 := trim_len (spliceG (v.rows.getD c.row.toNat []) c.col.toNat c.count.toNat c.glyphs)
     have h5 := h.getD c.row.toNat
     unfold spliceG at h4 ⊢
     simp only [List.length_append, List.length_take, List.length_replicate, List.length_drop] at h4
     omega
   ·rw [if_neg h3]
    intro l hl
    have := h l hl
    omega
end Go.Proofs.YtholajadbbdcmaaGreatDoor
namespace Go.Proofs.YtholajadbbdcmaaGreatDoor
open Go.RowKit
set_option maxRecDepth 20000
theorem info_view : (Tryz.prog.info? 24).map (fun x => x.size) = some 6 := by kernel_rfl
structure OwV (N : Nat) (X : World) (v : Vw) (A : Option Addr) (n c : Nat) (rs : List RowM) : Prop where
 rows : X.ownsRow N 51 1 (.slice A n c) n (encRs rs)
 gl : ∀ x ∈ rs, X.ownsRow N 89 3 (.slice x.A x.l.length x.cap) x.l.length (encGs x.l)
 eq : v.rows = rls rs
section
variable {N N' n c : Nat} {X X' : World} {v : Vw} {A : Option Addr} {rs : List RowM}
theorem OwV.below (h : OwV N X v A n c rs) (hb : Below X.heap.size X X') : OwV N X' v A n c rs := ⟨own_below h.rows hb, fun x hx => own_below (h.gl x hx) hb, h.eq⟩
theorem OwV.less (h : OwV N X v A n c rs) (hn : N' ≤ N) : OwV N' X v A n c rs := ⟨own_less h.rows hn, fun x hx => own_less (h.gl x hx) hn, h.eq⟩
theorem OwV.far (h : OwV N X v A n c rs) {p : Addr} (hp : p.block < N) (u : Value) : OwV N (X.setCell p u) v A n c rs := by
 have hne : ∀ {B : Option Addr} {n c size : Nat} {e : TypeId} {xs : List Value}, X.ownsRow N e size (.slice B n c) n xs → (Value.slice B n c).ownBlock ≠ some p.block := fun ho e => by
  rw [ob_slice] at e
  have := (own_ob ho _ e).1
  omega
 exact ⟨ownsRow_setCell_other h.rows (hne h.rows) _, fun x hx => ownsRow_setCell_other (h.gl x hx) (hne (h.gl x hx)) _, h.eq⟩
theorem OwV.rdV (h : OwV N X v A n c rs) : RdV X X.heap.size v A n c rs :=
 ⟨⟨Rd.of_own h.rows, fun x hx => own_rdG (h.gl x hx)⟩, h.eq, (own_caps7 h.rows).1, (own_caps7 h.rows).2⟩
end
theorem OwV.none_ (N : Nat) (w : World) : OwV N w vw0 none 0 0 [] := ⟨own_nil _ _ _ _, fun x hx => (by cases hx), rfl⟩
theorem ED.ow {base g c : Nat} {v : Vw} {rs : List RowM} {A : Option Addr} {X : World} (h : ED base g v rs A c X) : OwV base X v A rs.length c rs := ⟨h.rows, h.gl, h.eq⟩
def ApR (r : Vw × Int) (w : World) (e : Ending) (w' : World) : Prop :=
 Below w.heap.size w w' ∧ ∃ A n c rs, ∃ i : Int, e = .returned (.tuple #[.agg (vwC r.1 A n c), .int .i64 i, .int .i64 r.2]) ∧ OwV w.heap.size w' r.1 A n c rs
theorem ED.far {base g c : Nat} {v : Vw} {rs : List RowM} {A : Option Addr} {X : World} (h : ED base g v rs A c X) {p : Addr} (hp : p.block < base) (u : Value) : ED base g v rs A c (X.setCell p u) := by
 have hne : ∀ {B : Option Addr} {n c size : Nat} {e : TypeId} {xs : List Value}, X.ownsRow base e size (.slice B n c) n xs → (Value.slice B n c).ownBlock ≠ some p.block := fun ho e => by
  rw [ob_slice] at e
  have := (own_ob ho _ e).1
  omega
 exact ⟨h.blk.far (by have := h.lo; omega) _, ownsRow_setCell_other h.rows (hne h.rows) _, fun x hx => ownsRow_setCell_other (h.gl x hx) (hne (h.gl x hx)) _, h.eq, h.lo, h.dj⟩
abbrev ZB (X : World) (g : Nat) : Prop := Blk X g 24 (vwC vw0 none 0 0)
theorem ZB.facts {X : World} {g : Nat} (h : ZB X g) : X.cell? ⟨g, 0, none⟩ = some (.int .i64 0) ∧ X.cell? ⟨g, 1, none⟩ = some (.int .i64 0) ∧ X.cell? ⟨g, 2, none⟩ = some (.slice none 0 0) ∧ X.cell? ⟨g, 3, none⟩ = some (.int .i64 0) ∧ X.cell? ⟨g, 4, none⟩ = some (.int .i64 0) ∧ X.cell? ⟨g, 5, none⟩ = some (.bool false) ∧
  X.frozen? ⟨g, 0, none⟩ = false ∧ X.frozen? ⟨g, 1, none⟩ = false ∧ X.frozen? ⟨g, 2, none⟩ = false ∧ X.frozen? ⟨g, 3, none⟩ = false ∧ X.frozen? ⟨g, 4, none⟩ = false ∧ X.frozen? ⟨g, 5, none⟩ = false :=
 ⟨h.cell 0, h.cell 1, h.cell 2, h.cell 3, h.cell 4, h.cell 5, h.frozen 0, h.frozen 1, h.frozen 2, h.frozen 3, h.frozen 4, h.frozen 5⟩
theorem ZB.set6 {X : World} {g : Nat} (h : ZB X g) (v : Vw) (A : Option Addr) (n c : Nat) : Blk ((((((X.setCell ⟨g, 0, none⟩ (.int .i64 v.width)).setCell ⟨g, 1, none⟩ (.int .i64 v.height)).setCell ⟨g, 2, none⟩ (.slice A n c)).setCell ⟨g, 3, none⟩ (.int .i64 v.row)).setCell ⟨g, 4, none⟩ (.int .i64 v.col)).setCell ⟨g, 5, none⟩ (.bool v.vis)) g 24 (vwC v A n c) :=
 (((((h.set_ 0 _).set_ 1 _).set_ 2 _).set_ 3 _).set_ 4 _).set_ 5 _
theorem below_v6 {B g : Nat} {X Y : World} (h : Below B X Y) (hg : B ≤ g) (u0 u1 u2 u3 u4 u5 : Value) : Below B X ((((((Y.setCell ⟨g, 0, none⟩ u0).setCell ⟨g, 1, none⟩ u1).setCell ⟨g, 2, none⟩ u2).setCell ⟨g, 3, none⟩ u3).setCell ⟨g, 4, none⟩ u4).setCell ⟨g, 5, none⟩ u5) :=
 (((((h.setCell (p := ⟨g, 0, none⟩) hg _).setCell (p := ⟨g, 1, none⟩) hg _).setCell (p := ⟨g, 2, none⟩) hg _).setCell (p := ⟨g, 3, none⟩) hg _).setCell (p := ⟨g, 4, none⟩) hg _).setCell (p := ⟨g, 5, none⟩) hg _
theorem glN_drop (l : List Chg) (k : Nat) : glN (l.drop k) ≤ glN l := by
 induction l generalizing k with
 | nil => simp [glN]
 | cons c t ih =>
  cases k with
  | zero => exact Nat.le_refl _
  | succ k => rw [List.drop_succ_cons, glN_cons]; have := ih k; omega
def ApL (w : World) (base g : Nat) (cs : List ChgM) (R : Vw × Int) (k : Nat) (X : World) : Prop :=
 ∃ v rs A c, ED base g v rs A c X ∧ OnV v ∧ LenV v (100000000 - glN (chgs (cs.drop k))) ∧ R = goV v (chgs (cs.drop k)) ∧ ZB X (w.heap.size + 1) ∧ Below w.heap.size w X ∧ base ≤ X.heap.size
theorem chgs_drop {cs : List ChgM} {k : Nat} (h : k < cs.length) : chgs (cs.drop k) = cs[k].c :: chgs (cs.drop (k + 1)) := by
 rw [List.drop_eq_getElem_cons h]
 rfl
set_option maxHeartbeats 4000000 in
theorem apply_ (v : Vw) (A : Option Addr) (n c B : Nat) (rs : List RowM) (cs : List ChgM) (Ac : Option Addr) (nc cc : Nat) (w : World) (rd : RdV w B v A n c rs) (rc : RdC w B Ac nc cs) (hcc : nc ≤ cc) (hB : B ≤ w.heap.size)
  (hM : ∀ x ∈ rs, x.l.length + glN (chgs cs) ≤ 100000000) (hz : ∀ x ∈ rs, ∀ g ∈ x.l, g.text.size ≤ 1000000000) (hgz : ∀ x ∈ cs, x.c.glyphs.length ≤ 100000000 ∧ ∀ g ∈ x.c.glyphs, g.text.size ≤ 1000000000) (hnc : nc ≤ 1000000) (hu : U8 w) :
  Calls Tryz.prog 33 #[.agg (vwC v A n c), .slice Ac nc cc] w (ApR (applyV v (chgs cs)) w) := by
 obtain ⟨R, hR⟩ : ∃ R, Hid (applyV v (chgs cs) = R) := ⟨_, Lib.hid rfl⟩
 rw [hR.out]
 have HCh : Hid (∀ w', Below w.heap.size w w' → Calls Tryz.prog 48 #[.agg (vwC v A n c)] w' (Gives (.int .i64 (viewC v)) w')) := Lib.hid fun w' hb => vcheck_ v A n c w.heap.size rs w' ((rd.more hB).below hb) hb.size (fun x hx => ⟨by have := hM x hx; omega, hz x hx⟩) (hu.below hb)
 have HOp : Hid (viewC v = 0 → ∀ w', Below w.heap.size w w' → Calls Tryz.prog 53 #[.agg (vwC v A n c)] w' fun e w'' => ∃ g rs' A' c', e = .returned (.pointer (some ⟨g, 0, none⟩)) ∧ ED w'.heap.size g v rs' A' c' w'' ∧ Below w'.heap.size w' w'') := Lib.hid fun h0 w' hb => by
  have h1 := OnV.of h0
  have h2 := size_iff.1 h1.size
  have h3 := h1.rows
  have h4 := rd.len
  exact open_ v A n c w.heap.size rs w' ((rd.more hB).below hb) hb.size (by omega) (by omega) (fun x hx => by have := hM x hx; omega)
 have HLn : Hid (LenV v (100000000 - glN (chgs cs))) := Lib.hid fun l hl => by
  rw [rd.2.1] at hl
  obtain ⟨x, hx, rfl⟩ := List.mem_map.1 hl
  have := hM x hx
  omega
 have HGl0 : Hid (v.rows ≠ [] → glN (chgs cs) ≤ 100000000) := Lib.hid fun h => by
  rw [rd.2.1] at h
  cases rs with
  | nil => exact absurd rfl h
  | cons x t => have := hM x (by simp); omega
 have HU := Lib.hid hu
 have HRc := Lib.hid (rc.more hB)
 have HGz := Lib.hid hgz
 have hnl : cs.length = nc := rc.len
 clear rd rc hM hz hgz hu
 go_enter Tryz.func33, Tryz.ntmps33
 go_upto_region 1 with fail
 refine wp_fg (fun X => VwBox w v A n c X ∧ ZB X (w.heap.size + 1)) ⟨(VwBox.new w v A n c).on ((Below.refl _ _).alloc (by simp) _), Blk.new_ (by simp)⟩ ?_
 rintro X ⟨hX, hZ⟩
 obtain ⟨c0, c1, c2, c3, c4, c5⟩ := hX.cells; have hb := hX.2; have hzX := hX.lt
 have hZl := hZ.lt
 by_cases hv : viewC v = 0
 ·have h0 : (viewC v != 0) = false := by rw [hv]; rfl
  have hOn := OnV.of hv
  have hRe : Hid (R = goV v (chgs cs)) := Lib.hid (by rw [← hR.out, applyV, if_neg (by simpa using hv)])
  have hs0 := size_iff.1 hOn.size
  have hHO := Lib.hid (HOp.out hv)
  have hGl1 : glN (chgs cs) ≤ 100000000 := HGl0.out fun e => by have h1 := hOn.rows; rw [e] at h1; simp at h1; omega
  have hLn : Hid (LenV v (100000000 - glN (chgs cs))) := HLn
  have hOnH := Lib.hid hOn
  have hnn : nc ≤ 9223372036854775807 := by omega
  generalize viewC v = VC at *
  clear hv HOp HLn HGl0 hR hs0 hOn
  go_upto_region 3 with (go_at_call 48; refine (HCh.out _ hb).mono ?_; rintro e w1 ⟨rfl, hb1⟩)
  have hX1 := hX.on hb1
  have hZ1 := hZ.below hb1 hZl
  have hbz := hX1.2
  have hzz := hX1.lt
  have hZl1 := Nat.lt_of_lt_of_le hZl hb1.size
  clear hX hZ c0 c1 c2 c3 c4 c5 hb1 hb h0
  obtain ⟨c0, c1, c2, c3, c4, c5⟩ := hX1.cells
  have hI : Hid (∀ g rs' A' c' w2, ED w1.heap.size g v rs' A' c' w2 → Below w1.heap.size w1 w2 → ApL w w1.heap.size g cs R 0 w2) := Lib.hid fun g rs' A' c' w2 hE hb2 => ⟨v, rs', A', c', hE, hOnH.out, hLn.out, hRe.out, hZ1.below hb2 hZl1, hbz.trans (hb2.mono (by omega)), hb2.size⟩
  go_upto_region 5 with (go_at_call 53; refine (hHO.out _ hbz).mono ?_; rintro e w2 ⟨g, rs', A', c', rfl, hE, hb2⟩)
  have hI0 := hI.out _ _ _ _ _ hE hb2
  have hbw : w.heap.size + 2 ≤ w1.heap.size := by omega
  generalize w1.heap.size = base at *
  clear c0 c1 c2 c3 c4 c5 hE hb2 hI hX1 hZ1 hZl1 hzz hbz hHO hLn hRe hOnH HCh hzX hZl
  go_loopw [21] (fun x wr => ∃ k : Nat, k ≤ nc ∧ x = .int .i64 k ∧ ApL w base g cs R k wr) (fun x _ => nc - (intOf x).toNat)
  case atStart => exact ⟨0, Nat.zero_le _, rfl, hI0⟩
  case round =>
   clear hI0
   obtain ⟨k, hk, rfl, v1, rs1, A1, d1, hE, hOn, hLn, hRe, hZ, hbz, hbb⟩ := hrel
   by_cases hlt : k < nc
   ·have hkc : k < cs.length := by omega
    obtain ⟨b, o, rfl, hbl, k0, k1, k2, k3, k4, k5⟩ := (HRc.out.below hbz).at_ hkc
    have hxm := List.getElem_mem hkc
    have hs := size_iff.1 hOn.size
    have hlen : (rs1.length : Int) = v1.height := by rw [← hOn.rows, hE.eq, rls_len]
    have hg1 := glN_drop (chgs cs) k
    rw [show (chgs cs).drop k = chgs (cs.drop k) from by unfold chgs; rw [List.map_drop], chgs_drop hkc, glN_cons] at hg1
    rw [chgs_drop hkc, glN_cons] at hLn
    have hrl : ∀ x ∈ rs1, x.l.length ≤ 100000000 := fun x hx => by
     have := hLn x.l (by rw [hE.eq]; exact List.mem_map_of_mem hx)
     omega
    have HCk : Hid (∀ w', Below wr.heap.size wr w' → Calls Tryz.prog 54 #[.pointer (some ⟨g, 0, none⟩), chgV cs[k].c cs[k].A cs[k].cap] w' (Gives (.int .i64 (fitsC v1 cs[k].c)) w')) := Lib.hid fun w' hb' => by
     have h1 := hbz.trans (hb'.mono (Nat.le_trans (by omega) hbb))
     exact ccheck_ (B := w.heap.size) (hE.below hb') hlen (by omega) (by omega) (by omega) (fun x hx => Nat.le_trans (hrl x hx) (by decide)) _ _ _ h1.size ((HRc.out.below h1).gl _ hxm).1 (Nat.le_trans (HGz.out _ hxm).1 (by decide)) (HGz.out _ hxm).2 (HU.out.below h1)
    have HAp : Hid (fitsC v1 cs[k].c = 0 → ∀ w', Below wr.heap.size wr w' → Calls Tryz.prog 55 #[.pointer (some ⟨g, 0, none⟩), chgV cs[k].c cs[k].A cs[k].cap] w' fun e w'' => e = .returned (.tuple #[]) ∧ ApL w base g cs R (k + 1) w'') := Lib.hid fun h0 w' hb' => by
     have h1 := hbz.trans (hb'.mono (Nat.le_trans (by omega) hbb))
     obtain ⟨q1, q2, q3, q4⟩ := fits_zero h0
     refine (capply_ (B := w.heap.size) (hE.below hb') (Nat.le_trans hbb hb'.size) hlen (by omega) hrl _ _ _ (by omega) ((HRc.out.below h1).gl _ hxm).1 (HGz.out _ hxm).1 q1 q3).mono ?_
     rintro e w'' ⟨rfl, ⟨rs2, A2, c2, hE2⟩, hb2⟩
     have hb3 := (hb'.mono hbb).trans hb2
     refine ⟨rfl, _, rs2, A2, c2, hE2, hOn.step h0, ?_, ?_, hZ.below hb3 (by omega), hbz.trans (hb3.mono (by omega)), Nat.le_trans (Nat.le_trans hbb hb'.size) hb2.size⟩
     ·intro l hl
      have := (hLn.step q3) l hl
      omega
     ·rw [hRe, chgs_drop hkc, goV, if_neg (by simpa using h0)]
    have HRn : Hid (fitsC v1 cs[k].c ≠ 0 → R = (vw0, fitsC v1 cs[k].c)) := Lib.hid fun h0 => by
     rw [hRe, chgs_drop hkc, goV, if_pos h0]
    have hZl : w.heap.size + 1 < wr.heap.size := by omega
    have hZ' := Lib.hid hZ
    have hbz' := Lib.hid hbz
    clear hE hOn hLn hRe hg1 hrl hlen hs hxm hZ hbz
    generalize fitsC v1 cs[k].c = F at *
    generalize cs[k] = x at *
    obtain ⟨⟨kind, row, col, count, til, gl⟩, Ag, cap⟩ := x
    dsimp only at *
    have hkn : (k : Int) < nc := by omega
    have hkcc : (k : Int) < cc := by omega
    go_upto_region 7 with fail
    refine wp_fg (ChgBox wr ⟨kind, row, col, count, til, gl⟩ Ag cap) (ChgBox.new wr ⟨kind, row, col, count, til, gl⟩ Ag cap _) ?_
    intro wb hX
    obtain ⟨c0, c1, c2, c3, c4, c5, hb, hzX⟩ := id hX
    dsimp only at c0 c1 c2 c3 c4 c5
    clear k0 k1 k2 k3 k4 k5 hkn hkcc
    by_cases hf : F = 0
    ·subst hf
     have h00 : ((0 : Int) != 0) = false := rfl
     have HA := Lib.hid (HAp.out rfl)
     clear HAp HRn
     go_wp2_with (first
      | (go_at_call 54; refine (HCk.out _ hb).mono ?_; rintro e w1 ⟨rfl, hb1⟩; have hX1 := hX.on hb1; obtain ⟨d0, d1, d2, d3, d4, d5, hbd, hzd⟩ := hX1; dsimp only at d0 d1 d2 d3 d4 d5)
      | (go_at_call 55; refine (HA.out _ hbd).mono ?_; rintro e w2 ⟨rfl, hL⟩))
     exact ⟨⟨k + 1, by omega, by go_num, hL⟩, by simp [intOf]; omega⟩
    ·have hne : (F != 0) = true := bne_iff_ne.2 hf
     have hRn := Lib.hid (HRn.out hf)
     clear HAp HRn hf
     have hZb := hZ'.out.below hb hZl
     go_wp2_with (go_at_call 54; refine (HCk.out _ hb).mono ?_; rintro e w1 ⟨rfl, hb1⟩; have hZ1 := hZb.below hb1 (Nat.lt_of_lt_of_le hZl hb.size); obtain ⟨z0, z1, z2, z3, z4, z5, y0, y1, y2, y3, y4, y5⟩ := ZB.facts hZ1)
     have hZ2 := ZB.set6 hZ1 vw0 none 0 0
     have hbq := hbz'.out.trans ((hb.trans (hb1.mono hb.size)).mono (show w.heap.size ≤ wr.heap.size by omega))
     exact bodyPost_ret (results_ctt rfl _ _ (w.heap.size + 1) 24 _ (0, 0) _ rfl hZ2 Tryz.underlying24 rfl info_view) rfl (by rw [hRn.out]; exact ⟨below_v6 hbq (by omega) _ _ _ _ _ _, none, 0, 0, [], k, rfl, OwV.none_ _ _⟩)
   ·obtain rfl : k = nc := by omega
    have hRe2 : R = if widthV v1 = true then (v1, 0) else (vw0, 12) := by
     rw [hRe, List.drop_of_length_le (by omega), show chgs [] = [] from rfl, goV]
    have hm : ∀ x ∈ rs1, x.l.length ≤ 100000000 := fun x hx => by
     have := hLn x.l (by rw [hE.eq]; exact List.mem_map_of_mem hx)
     omega
    have hE' := Lib.hid hE
    have hZ' := Lib.hid hZ
    have hbz' := Lib.hid hbz
    have hRl : v1.rows = rls rs1 := hE.eq
    have hRd : Hid (∀ j (h : j < rs1.length) w', Below wr.heap.size wr w' → Calls Tryz.prog 56 #[.slice rs1[j].A rs1[j].l.length rs1[j].cap] w' (Gives (.int .i64 (rowW rs1[j].l : Nat)) w')) := Lib.hid fun j h w' hb => by
     have hxm := List.getElem_mem h
     exact vwidth_ _ _ _ _ wr.heap.size w' (by have := hm _ hxm; omega) ((Rd.of_own (hE.gl _ hxm)).below hb) hb.size
    have hRt : Hid ((∀ j (h : j < rs1.length), (rowW rs1[j].l : Int) ≤ v1.width) → R = (v1, 0)) := Lib.hid fun h => by
     rw [hRe2, if_pos]
     unfold widthV
     rw [List.all_eq_true, hRl]
     intro l hl
     obtain ⟨x, hx, rfl⟩ := List.mem_map.1 hl
     obtain ⟨i, hi, rfl⟩ := List.getElem_of_mem hx
     exact decide_eq_true (h i hi)
    have hRf : Hid (∀ j (h : j < rs1.length), v1.width < (rowW rs1[j].l : Int) → R = (vw0, 12)) := Lib.hid fun j h hl => by
     rw [hRe2, if_neg]
     unfold widthV
     rw [List.all_eq_true, hRl]
     intro h2
     have := of_decide_eq_true (h2 rs1[j].l (List.mem_map_of_mem (List.getElem_mem h)))
     omega
    have hcl : Hid (∀ j, j < rs1.length → ∃ G1, A1 = some ⟨G1, 0, none⟩ ∧ G1 < wr.heap.size ∧ wr.cell? ⟨G1, j, none⟩ = (encRs rs1)[j]?) := Lib.hid fun j hj => by
     obtain ⟨G1, cap1, hA, hG1, -⟩ := hE.rows.form (by omega)
     obtain ⟨rfl, rfl⟩ : A1 = some ⟨G1, 0, none⟩ ∧ d1 = cap1 := by injection hA with h1 _ h2; exact ⟨h1, h2⟩
     exact ⟨G1, rfl, (own_ob hE.rows G1 rfl).2, hE.rows.cellAt j (by omega)⟩
    have hgl := hE.blk.lt
    have hcaps := own_caps7 hE.rows
    obtain ⟨g0, g1, g2, g3, g4, g5⟩ := vw_cells hE.blk
    have hn9 : (rs1.length : Int) ≤ 9223372036854775807 := by have h1 := hcaps.1; have h2 := hcaps.2; unfold maxLen at h2; omega
    have hZl : w.heap.size + 1 < wr.heap.size := by omega
    clear hE hOn hLn hRe hRe2 hm hRl hZ hcaps
    obtain ⟨wo, rfl⟩ : ∃ x : World, x = wr := ⟨_, rfl⟩
    go_wp2
    go_loopw [44] (fun x wz => ∃ j : Nat, j ≤ rs1.length ∧ x = .int .i64 j ∧ Below wo.heap.size wo wz ∧ Hid (∀ i (h : i < rs1.length), i < j → (rowW rs1[i].l : Int) ≤ v1.width)) (fun x _ => rs1.length - (intOf x).toNat)
    case atStart => exact ⟨0, Nat.zero_le _, rfl, Below.refl _ _, Lib.hid fun i h h0 => absurd h0 (Nat.not_lt_zero _)⟩
    case round =>
     obtain ⟨j, hj, rfl, hbq, hq⟩ := hrel
     by_cases hjl : j < rs1.length
     ·obtain ⟨G1, rfl, hG1, hc1⟩ := hcl.out j hjl
      rw [encRs_get hjl] at hc1
      have hc := (hbq.cell (p := ⟨G1, j, none⟩) hG1).trans hc1
      have hqz := hbq.size
      have hw : Hid (∀ w', Below wr.heap.size wr w' → Calls Tryz.prog 56 #[.slice rs1[j].A rs1[j].l.length rs1[j].cap] w' fun e w'' => e = .returned (.int .i64 (rowW rs1[j].l : Nat)) ∧ Below wr.heap.size wr w'') := Lib.hid fun w' h => (hRd.out j hjl w' (hbq.trans (h.mono hqz))).mono fun e w'' ⟨h1, h2⟩ => ⟨h1, h.trans (h2.mono h.size)⟩
      have hR2 := Lib.hid (hRf.out j hjl)
      have hQ2 : Hid ((rowW rs1[j].l : Int) ≤ v1.width → ∀ i (h : i < rs1.length), i < j + 1 → (rowW rs1[i].l : Int) ≤ v1.width) := Lib.hid fun h0 i h hi => by
       by_cases hij : i = j
       ·subst hij; exact h0
       ·exact hq.out i h (by omega)
      have e0 := (hbq.cell (p := ⟨g, 0, none⟩) hgl).trans g0
      have hgw := Nat.lt_of_lt_of_le hgl hqz
      clear hc1 hq hRf hRd hcl
      generalize rs1[j] = x at *
      obtain ⟨l, Al, cl⟩ := x
      dsimp only at *
      generalize rowW l = rw0 at *
      have hji : (j : Int) < rs1.length := by omega
      by_cases hgt : v1.width < (rw0 : Int)
      ·have hd : decide (v1.width < (rw0 : Int)) = true := decide_eq_true hgt
       have hR3 := Lib.hid (hR2.out hgt)
       have hZ1 := hZ'.out.below hbq hZl
       have hZl1 := Nat.lt_of_lt_of_le hZl hqz
       clear hR2 hQ2
       go_upto_region 15 with fail
       go_region_law (go_simp; go_at_call 56; refine (hw.out _ (by first | exact Below.refl _ _ | exact (Below.refl _ _).drew)).mono ?_; rintro e w2 ⟨rfl, b2⟩; have e2 := (b2.cell (p := ⟨g, 0, none⟩) hgw).trans e0; have hZ2 := hZ1.below b2 hZl1; obtain ⟨z0, z1, z2, z3, z4, z5, y0, y1, y2, y3, y4, y5⟩ := ZB.facts hZ2)
       all_goals go_wp2
       all_goals exact bodyPost_ret (results_ctt rfl _ _ (w.heap.size + 1) 24 _ (0, 0) _ rfl (ZB.set6 hZ2 vw0 none 0 0) Tryz.underlying24 rfl info_view) rfl (by rw [hR3.out]; exact ⟨below_v6 (hbz'.out.trans ((hbq.trans (b2.mono hqz)).mono (by omega))) (by omega) _ _ _ _ _ _, none, 0, 0, [], k, rfl, OwV.none_ _ _⟩)
      ·have hd : decide (v1.width < (rw0 : Int)) = false := decide_eq_false hgt
       have hQ3 := Lib.hid (hQ2.out (by omega))
       clear hR2 hQ2
       go_upto_region 15 with fail
       go_region_law (go_simp; go_at_call 56; refine (hw.out _ (by first | exact Below.refl _ _ | exact (Below.refl _ _).drew)).mono ?_; rintro e w2 ⟨rfl, b2⟩; have e2 := (b2.cell (p := ⟨g, 0, none⟩) hgw).trans e0)
       all_goals go_wp2
       all_goals exact ⟨⟨j + 1, by omega, by go_num, hbq.trans (b2.mono hqz), hQ3⟩, by simp [intOf]; omega⟩
     ·obtain rfl : j = rs1.length := by omega
      have hRz := Lib.hid (hRt.out fun i h => hq.out i h h)
      have hZ1 := hZ'.out.below hbq hZl
      have hE2 := hE'.out.below hbq
      obtain ⟨c0, c1, c2, c3, c4, c5⟩ := vw_cells hE2.blk
      obtain ⟨z0, z1, z2, z3, z4, z5, y0, y1, y2, y3, y4, y5⟩ := ZB.facts hZ1
      have hlb : w.heap.size + 1 < base := by omega
      have hE3 := Lib.hid (((((((hE2.far (p := ⟨w.heap.size + 1, 0, none⟩) hlb (.int .i64 v1.width)).far (p := ⟨w.heap.size + 1, 1, none⟩) hlb (.int .i64 v1.height)).far (p := ⟨w.heap.size + 1, 2, none⟩) hlb (.slice A1 rs1.length d1)).far (p := ⟨w.heap.size + 1, 3, none⟩) hlb (.int .i64 v1.row)).far (p := ⟨w.heap.size + 1, 4, none⟩) hlb (.int .i64 v1.col)).far (p := ⟨w.heap.size + 1, 5, none⟩) hlb (.bool v1.vis)).ow.less (Nat.le_of_lt (Nat.lt_of_succ_lt hlb)))
      have hng : w.heap.size + 1 ≠ g := by have := hE2.lo; omega
      have hR := ZB.set6 hZ1 v1 A1 rs1.length d1
      have hb6 := below_v6 (B := w.heap.size) (hbz.trans (hbq.mono (by omega))) (g := w.heap.size + 1) (by omega) (.int .i64 v1.width) (.int .i64 v1.height) (.slice A1 rs1.length d1) (.int .i64 v1.row) (.int .i64 v1.col) (.bool v1.vis)
      clear hE' hZ' hq hRt hRf hRd hcl g0 g1 g2 g3 g4 g5 hE2 hZ1
      go_wp2
      exact bodyPost_ret (results_ctt rfl _ _ (w.heap.size + 1) 24 _ (0, 0) _ rfl hR Tryz.underlying24 rfl info_view) rfl (by rw [hRz.out]; exact ⟨hb6, A1, rs1.length, d1, rs1, 0, rfl, hE3.out⟩)
 ·have hne : (viewC v != 0) = true := bne_iff_ne.2 hv
  have hRe : Hid (R = (vw0, 1)) := Lib.hid (by rw [← hR.out, applyV, if_pos (by simpa using hv)])
  generalize viewC v = VC at *
  clear hv HOp HLn HGl0 HRc HGz hR
  go_wp2_with (go_at_call 48; refine (HCh.out _ hb).mono ?_; rintro e w1 ⟨rfl, hb1⟩; have hZ1 := hZ.below hb1 hZl; obtain ⟨z0, z1, z2, z3, z4, z5, y0, y1, y2, y3, y4, y5⟩ := ZB.facts hZ1)
  have hZ2 := ZB.set6 hZ1 vw0 none 0 0
  exact bodyPost_ret (results_ctt rfl _ _ (w.heap.size + 1) 24 _ (0, 0) _ rfl hZ2 Tryz.underlying24 rfl info_view) rfl (by rw [hRe.out]; exact ⟨below_v6 (hb.trans (hb1.mono (by omega))) (by omega) _ _ _ _ _ _, none, 0, 0, [], 0, rfl, OwV.none_ _ _⟩)
end Go.Proofs.YtholajadbbdcmaaGreatDoor
