/- Joined texts: Ur4, Ur5. -/
import Derived.Test.YtholajadbbdcmaaGreatDoorQAA
import Derived.Test.YtholajadbbdcmaaGreatDoorQAB
import Derived.Test.YtholajadbbdcmaaGreatDoorQAC
import Derived.Test.YtholajadbbdcmaaGreatDoorQAD
import Derived.Test.YtholajadbbdcmaaGreatDoorQAE
import Derived.Test.YtholajadbbdcmaaGreatDoorQAF
import Derived.Test.YtholajadbbdcmaaGreatDoorQAG
import Derived.Test.YtholajadbbdcmaaGreatDoorQAH
import Derived.Test.YtholajadbbdcmaaGreatDoorQAI
import Derived.Test.YtholajadbbdcmaaGreatDoorQAL
import Derived.Test.YtholajadbbdcmaaGreatDoorQAM
import Derived.Test.YtholajadbbdcmaaGreatDoorQAN
import Derived.Test.YtholajadbbdcmaaGreatDoorQAQ
import Derived.Test.YtholajadbbdcmaaGreatDoorQAS
import Derived.Test.YtholajadbbdcmaaGreatDoorQAT
import Derived.Test.YtholajadbbdcmaaGreatDoorQAU
import Derived.Test.YtholajadbbdcmaaGreatDoorQAY
import Derived.Test.YtholajadbbdcmaaGreatDoorQBA
import Derived.Test.YtholajadbbdcmaaGreatDoorQBB
import Derived.Test.YtholajadbbdcmaaGreatDoorQBC
set_option linter.unusedVariables false
set_option linter.unusedSimpArgs false
set_option linter.unnecessarySimpa false
namespace Go.Proofs.YtholajadbbdcmaaGreatDoor
open Go.RowKit
set_option maxRecDepth 20000
def Chg.put (c : Chg) (i : Nat) (N : Int) : Chg := match i with
 | 0 => {c with kind := N}
 | 1 => {c with row := N}
 | 2 => {c with col := N}
 | 3 => {c with count := N}
 | _ => {c with til := N}
def chgA (c : Chg) (A : Option Addr) (cap : Nat) : Array Value := #[.int .i64 c.kind, .int .i64 c.row, .int .i64 c.col, .int .i64 c.count, .int .i64 c.til, .slice A c.glyphs.length cap]
theorem chgA_put (c : Chg) (A : Option Addr) (cap i : Nat) (N : Int) (h : i < 5) : (chgA c A cap).setIfInBounds i (.int .i64 N) = chgA (c.put i N) A cap := by
 match i, h with
 | 0, _ => rfl
 | 1, _ => rfl
 | 2, _ => rfl
 | 3, _ => rfl
 | 4, _ => rfl
theorem put_glyphs (c : Chg) (i : Nat) (N : Int) : (c.put i N).glyphs = c.glyphs := by
 match i with
 | 0 => rfl
 | 1 => rfl
 | 2 => rfl
 | 3 => rfl
 | _ + 4 => rfl
def CS (w : World) (B : Nat) (r : Option (List ByteArray)) (c : Chg) (Ag : Option Addr) (cap : Nat) (X : World) : Prop :=
 ∃ A n cc l bad, r = optR bad l ∧ WdR X B l A n cc ∧ Blk X w.heap.size 95 #[.slice A n cc, .bool bad] ∧ Blk X (w.heap.size + 1) 72 (chgA ⟨0, 0, 0, 0, 0, []⟩ none 0) ∧ Blk X (w.heap.size + 2) 95 #[.slice none 0 0, .bool false] ∧ Blk X (w.heap.size + 3) 72 (chgA c Ag cap) ∧ Below w.heap.size w X ∧ X.ownsRow (w.heap.size + 4) 89 3 (.slice Ag c.glyphs.length cap) c.glyphs.length (encGs c.glyphs)
theorem blk2 {X : World} {g : Nat} {t : TypeId} {a b : Value} (h : Blk X g t #[a, b]) : X.cell? ⟨g, 0, none⟩ = some a ∧ X.cell? ⟨g, 1, none⟩ = some b ∧ X.frozen? ⟨g, 0, none⟩ = false ∧ X.frozen? ⟨g, 1, none⟩ = false := ⟨h.cell 0, h.cell 1, h.frozen 0, h.frozen 1⟩
theorem blk6 {X : World} {g : Nat} {t : TypeId} {c : Chg} {A : Option Addr} {cap : Nat} (h : Blk X g t (chgA c A cap)) : X.cell? ⟨g, 0, none⟩ = some (.int .i64 c.kind) ∧ X.cell? ⟨g, 1, none⟩ = some (.int .i64 c.row) ∧ X.cell? ⟨g, 2, none⟩ = some (.int .i64 c.col) ∧ X.cell? ⟨g, 3, none⟩ = some (.int .i64 c.count) ∧ X.cell? ⟨g, 4, none⟩ = some (.int .i64 c.til) ∧ X.cell? ⟨g, 5, none⟩ = some (.slice A c.glyphs.length cap) ∧ X.frozen? ⟨g, 0, none⟩ = false ∧ X.frozen? ⟨g, 1, none⟩ = false ∧ X.frozen? ⟨g, 2, none⟩ = false ∧ X.frozen? ⟨g, 3, none⟩ = false ∧ X.frozen? ⟨g, 4, none⟩ = false ∧ X.frozen? ⟨g, 5, none⟩ = false :=
 ⟨h.cell 0, h.cell 1, h.cell 2, h.cell 3, h.cell 4, h.cell 5, h.frozen 0, h.frozen 1, h.frozen 2, h.frozen 3, h.frozen 4, h.frozen 5⟩
theorem CS.size {w X : World} {B : Nat} {r : Option (List ByteArray)} {c : Chg} {Ag : Option Addr} {cap : Nat} (h : CS w B r c Ag cap X) : w.heap.size + 4 ≤ X.heap.size := by
 obtain ⟨A, n, cc, l, bad, h1, h2, h3, h4, h5, h6, h7, h8⟩ := h
 have := h6.lt
 omega
theorem CS.below {w X Y : World} {B : Nat} {r : Option (List ByteArray)} {c : Chg} {Ag : Option Addr} {cap : Nat} (h : CS w B r c Ag cap X) (hB : B ≤ w.heap.size) (hb : Below X.heap.size X Y) : CS w B r c Ag cap Y := by
 have hz := h.size
 obtain ⟨A, n, cc, l, bad, h1, h2, h3, h4, h5, h6, h7, h8⟩ := h
 exact ⟨A, n, cc, l, bad, h1, h2.below (hb.mono (by omega)), h3.below hb h3.lt, h4.below hb h4.lt, h5.below hb h5.lt, h6.below hb h6.lt, h7.trans (hb.mono (by omega)), own_below h8 hb⟩
theorem CS.drew {w X : World} {B : Nat} {r : Option (List ByteArray)} {c : Chg} {Ag : Option Addr} {cap : Nat} (h : CS w B r c Ag cap X) (hB : B ≤ w.heap.size) : CS w B r c Ag cap X.drew := h.below hB (Below.refl _ _).drew
theorem CS.set_ {w X : World} {B : Nat} {r : Option (List ByteArray)} {c : Chg} {Ag : Option Addr} {cap : Nat} (h : CS w B r c Ag cap X) (hB : B ≤ w.heap.size) (i : Nat) (N : Int) (hi : i < 5) : CS w B r (c.put i N) Ag cap (X.setCell ⟨w.heap.size + 3, i, none⟩ (.int .i64 N)) := by
 obtain ⟨A, n, cc, l, bad, h1, h2, h3, h4, h5, h6, h7, h8⟩ := h
 refine ⟨A, n, cc, l, bad, h1, h2.below ((Below.refl B X).setCell (by show B ≤ w.heap.size + 3; omega) _), h3.far (by show w.heap.size ≠ w.heap.size + 3; omega) _, h4.far (by show w.heap.size + 1 ≠ w.heap.size + 3; omega) _, h5.far (by show w.heap.size + 2 ≠ w.heap.size + 3; omega) _, ?_, h7.setCell (by show w.heap.size ≤ w.heap.size + 3; omega) _, ?_⟩
 ·have := h6.set_ i (.int .i64 N)
  rwa [chgA_put _ _ _ _ _ hi] at this
 ·rw [put_glyphs]
  exact own_set h8 (by show w.heap.size + 3 < _; omega) _
theorem CS.turn {w X : World} {B : Nat} {r r' : Option (List ByteArray)} {c : Chg} {Ag : Option Addr} {cap : Nat} {A : Option Addr} {n cc : Nat} {l : List ByteArray} {bad : Bool} (h : CS w B r c Ag cap X) (hB : B ≤ w.heap.size) (hW : WdR X B l A n cc) (hr : r' = optR bad l) :
  CS w B r' c Ag cap ((X.setCell ⟨w.heap.size, 0, none⟩ (.slice A n cc)).setCell ⟨w.heap.size, 1, none⟩ (.bool bad)) := by
 obtain ⟨A0, n0, cc0, l0, bad0, h1, h2, h3, h4, h5, h6, h7, h8⟩ := h
 exact ⟨A, n, cc, l, bad, hr, hW.below (((Below.refl B X).setCell (p := ⟨w.heap.size, 0, none⟩) hB _).setCell (p := ⟨w.heap.size, 1, none⟩) hB _), blk_set2 h3, (h4.far (p := ⟨w.heap.size, 0, none⟩) (by show w.heap.size + 1 ≠ w.heap.size; omega) _).far (p := ⟨w.heap.size, 1, none⟩) (by show w.heap.size + 1 ≠ w.heap.size; omega) _, (h5.far (p := ⟨w.heap.size, 0, none⟩) (by show w.heap.size + 2 ≠ w.heap.size; omega) _).far (p := ⟨w.heap.size, 1, none⟩) (by show w.heap.size + 2 ≠ w.heap.size; omega) _, (h6.far (p := ⟨w.heap.size, 0, none⟩) (by show w.heap.size + 3 ≠ w.heap.size; omega) _).far (p := ⟨w.heap.size, 1, none⟩) (by show w.heap.size + 3 ≠ w.heap.size; omega) _, (h7.setCell (p := ⟨w.heap.size, 0, none⟩) (Nat.le_refl _) _).setCell (p := ⟨w.heap.size, 1, none⟩) (Nat.le_refl _) _, own_set (own_set h8 (p := ⟨w.heap.size, 0, none⟩) (by show w.heap.size < _; omega) _) (p := ⟨w.heap.size, 1, none⟩) (by show w.heap.size < _; omega) _⟩
theorem CS.spoil {w X : World} {B : Nat} {r : Option (List ByteArray)} {c : Chg} {Ag : Option Addr} {cap : Nat} (h : CS w B r c Ag cap X) (hB : B ≤ w.heap.size) : CS w B none c Ag cap (X.setCell ⟨w.heap.size, 1, none⟩ (.bool true)) := by
 obtain ⟨A0, n0, cc0, l0, bad0, h1, h2, h3, h4, h5, h6, h7, h8⟩ := h
 refine ⟨A0, n0, cc0, l0, true, rfl, h2.below ((Below.refl B X).setCell (p := ⟨w.heap.size, 1, none⟩) hB _), ?_, h4.far (p := ⟨w.heap.size, 1, none⟩) (by show w.heap.size + 1 ≠ w.heap.size; omega) _, h5.far (p := ⟨w.heap.size, 1, none⟩) (by show w.heap.size + 2 ≠ w.heap.size; omega) _, h6.far (p := ⟨w.heap.size, 1, none⟩) (by show w.heap.size + 3 ≠ w.heap.size; omega) _, h7.setCell (p := ⟨w.heap.size, 1, none⟩) (Nat.le_refl _) _, own_set h8 (p := ⟨w.heap.size, 1, none⟩) (by show w.heap.size < _; omega) _⟩
 have := h3.set_ 1 (.bool true)
 simpa using this
theorem CS.glyphs {w X : World} {B : Nat} {r : Option (List ByteArray)} {c : Chg} {Ag : Option Addr} {cap : Nat} (h : CS w B r c Ag cap X) (hB : B ≤ w.heap.size) {G : List Gl} {A : Option Addr} {cp : Nat} (ho : X.ownsRow (w.heap.size + 4) 89 3 (.slice A G.length cp) G.length (encGs G)) : CS w B r {c with glyphs := G} A cp (X.setCell ⟨w.heap.size + 3, 5, none⟩ (.slice A G.length cp)) := by
 obtain ⟨A0, n, cc, l, bad, h1, h2, h3, h4, h5, h6, h7, h8⟩ := h
 refine ⟨A0, n, cc, l, bad, h1, h2.below ((Below.refl B X).setCell (by show B ≤ w.heap.size + 3; omega) _), h3.far (by show w.heap.size ≠ w.heap.size + 3; omega) _, h4.far (by show w.heap.size + 1 ≠ w.heap.size + 3; omega) _, h5.far (by show w.heap.size + 2 ≠ w.heap.size + 3; omega) _, ?_, h7.setCell (by show w.heap.size ≤ w.heap.size + 3; omega) _, own_set ho (by show w.heap.size + 3 < _; omega) _⟩
 have := h6.set_ 5 (.slice A G.length cp)
 exact this
def CRet (w : World) (B : Nat) (c : Chg) (r : Option (List ByteArray)) (e : Ending) (w' : World) : Prop := ∃ Ag cap v, e = .returned (.tuple #[.agg (chgA c Ag cap), v]) ∧ RV w' B r v ∧ Below w.heap.size w w' ∧ w'.ownsRow w.heap.size 89 3 (.slice Ag c.glyphs.length cap) c.glyphs.length (encGs c.glyphs)
theorem results_cc {P : Program} {fn : Func} {p q : Tmp} {ty ty2 : TypeId} (h : fn.results = #[.cell p ty, .cell q ty2]) (tmps : Array Value) (w : World) (g g2 : Nat) (t t2 : TypeId) (cs cs2 : Array Value) (fr fr2 : Nat × Nat) (d d2 : TypeDesc)
  (hp : tmps.getD p undef = .pointer (some ⟨g, 0, none⟩)) (hg : w.heap[g]? = some (.cells cs t fr))
  (hu : P.underlying ty = some d) (hd : (match d with | .struct _ | .array _ _ => true | _ => false) = true) (hi : (P.info? ty).map (·.size) = some cs.size)
  (hp2 : tmps.getD q undef = .pointer (some ⟨g2, 0, none⟩)) (hg2 : w.heap[g2]? = some (.cells cs2 t2 fr2))
  (hu2 : P.underlying ty2 = some d2) (hd2 : (match d2 with | .struct _ | .array _ _ => true | _ => false) = true) (hi2 : (P.info? ty2).map (·.size) = some cs2.size) :
  (results fn tmps).run P w = .ok (.tuple #[.agg cs, .agg cs2]) w := by
 simp only [results, h]
 have hp' : tmps[p]?.getD undef = .pointer (some ⟨g, 0, none⟩) := by simpa using hp
 have hq' : tmps[q]?.getD undef = .pointer (some ⟨g2, 0, none⟩) := by simpa using hp2
 simp [Sem.run_bind, Result.andThen, hp', hq', asAddr, run_loadVar_row w g t ty cs fr d hg hu hd hi, run_loadVar_row w g2 t2 ty2 cs2 fr2 d2 hg2 hu2 hd2 hi2]
theorem info_chg : (Tryz.prog.info? 72).map (fun x => x.size) = some 6 := by kernel_rfl
theorem blk_set6 {X : World} {g : Nat} {A : Option Addr} {cap : Nat} {c0 c : Chg} {A0 : Option Addr} {cap0 : Nat} (h : Blk X g 72 (chgA c0 A0 cap0)) : Blk ((((((X.setCell ⟨g, 0, none⟩ (.int .i64 c.kind)).setCell ⟨g, 1, none⟩ (.int .i64 c.row)).setCell ⟨g, 2, none⟩ (.int .i64 c.col)).setCell ⟨g, 3, none⟩ (.int .i64 c.count)).setCell ⟨g, 4, none⟩ (.int .i64 c.til)).setCell ⟨g, 5, none⟩ (.slice A c.glyphs.length cap)) g 72 (chgA c A cap) := by
 exact (((((h.set_ 0 _).set_ 1 _).set_ 2 _).set_ 3 _).set_ 4 _).set_ 5 _
theorem below_set6 {X : World} {g k : Nat} (hk : k ≤ g) (a b c d e f : Value) : Below k X ((((((X.setCell ⟨g, 0, none⟩ a).setCell ⟨g, 1, none⟩ b).setCell ⟨g, 2, none⟩ c).setCell ⟨g, 3, none⟩ d).setCell ⟨g, 4, none⟩ e).setCell ⟨g, 5, none⟩ f) :=
 ((((((Below.refl k X).setCell (p := ⟨g, 0, none⟩) hk a).setCell (p := ⟨g, 1, none⟩) hk b).setCell (p := ⟨g, 2, none⟩) hk c).setCell (p := ⟨g, 3, none⟩) hk d).setCell (p := ⟨g, 4, none⟩) hk e).setCell (p := ⟨g, 5, none⟩) hk f
def finW (w X : World) (c : Chg) (Ag : Option Addr) (cap : Nat) (A : Option Addr) (n cc : Nat) (bad : Bool) : World :=
 (((((((X.setCell ⟨w.heap.size + 1, 0, none⟩ (.int .i64 c.kind)).setCell ⟨w.heap.size + 1, 1, none⟩ (.int .i64 c.row)).setCell ⟨w.heap.size + 1, 2, none⟩ (.int .i64 c.col)).setCell ⟨w.heap.size + 1, 3, none⟩ (.int .i64 c.count)).setCell ⟨w.heap.size + 1, 4, none⟩ (.int .i64 c.til)).setCell ⟨w.heap.size + 1, 5, none⟩ (.slice Ag c.glyphs.length cap)).setCell ⟨w.heap.size + 2, 0, none⟩ (.slice A n cc)).setCell ⟨w.heap.size + 2, 1, none⟩ (.bool bad)
theorem fin_ {w X : World} {B : Nat} {c0 : Chg} {A0 : Option Addr} {cap0 : Nat} {x y : Value} {r : Option (List ByteArray)} {c : Chg} {Ag : Option Addr} {cap : Nat} {A : Option Addr} {n cc : Nat} {l : List ByteArray} {bad : Bool} (hB : B ≤ w.heap.size) (hr : r = optR bad l) (hW : WdR X B l A n cc) (R2 : Blk X (w.heap.size + 1) 72 (chgA c0 A0 cap0)) (R3 : Blk X (w.heap.size + 2) 95 #[x, y]) (tx : Below w.heap.size w X) (hO : X.ownsRow (w.heap.size + 4) 89 3 (.slice Ag c.glyphs.length cap) c.glyphs.length (encGs c.glyphs)) :
  Blk (finW w X c Ag cap A n cc bad) (w.heap.size + 1) 72 (chgA c Ag cap) ∧ Blk (finW w X c Ag cap A n cc bad) (w.heap.size + 2) 95 #[.slice A n cc, .bool bad] ∧ RV (finW w X c Ag cap A n cc bad) B r (.agg #[.slice A n cc, .bool bad]) ∧ Below w.heap.size w (finW w X c Ag cap A n cc bad) ∧ (finW w X c Ag cap A n cc bad).ownsRow w.heap.size 89 3 (.slice Ag c.glyphs.length cap) c.glyphs.length (encGs c.glyphs) := by
 have b6 := fun k (hk : k ≤ w.heap.size + 1) => below_set6 (X := X) hk (.int .i64 c.kind) (.int .i64 c.row) (.int .i64 c.col) (.int .i64 c.count) (.int .i64 c.til) (.slice Ag c.glyphs.length cap)
 have b8 : ∀ k, k ≤ w.heap.size + 1 → Below k X (finW w X c Ag cap A n cc bad) := fun k hk => ((b6 k hk).setCell (p := ⟨w.heap.size + 2, 0, none⟩) (by show k ≤ w.heap.size + 2; omega) _).setCell (p := ⟨w.heap.size + 2, 1, none⟩) (by show k ≤ w.heap.size + 2; omega) _
 refine ⟨?_, ?_, ⟨A, n, cc, l, bad, rfl, hW.below (b8 B (by omega)), hr⟩, tx.trans (b8 _ (by omega)), own_less (base := w.heap.size + 4) ?_ (by omega)⟩
 ·exact ((blk_set6 R2).far (p := ⟨w.heap.size + 2, 0, none⟩) (by show w.heap.size + 1 ≠ w.heap.size + 2; omega) _).far (p := ⟨w.heap.size + 2, 1, none⟩) (by show w.heap.size + 1 ≠ w.heap.size + 2; omega) _
 ·have R3' := ((((((R3.far (p := ⟨w.heap.size + 1, 0, none⟩) (by show w.heap.size + 2 ≠ w.heap.size + 1; omega) (.int .i64 c.kind)).far (p := ⟨w.heap.size + 1, 1, none⟩) (by show w.heap.size + 2 ≠ w.heap.size + 1; omega) (.int .i64 c.row)).far (p := ⟨w.heap.size + 1, 2, none⟩) (by show w.heap.size + 2 ≠ w.heap.size + 1; omega) (.int .i64 c.col)).far (p := ⟨w.heap.size + 1, 3, none⟩) (by show w.heap.size + 2 ≠ w.heap.size + 1; omega) (.int .i64 c.count)).far (p := ⟨w.heap.size + 1, 4, none⟩) (by show w.heap.size + 2 ≠ w.heap.size + 1; omega) (.int .i64 c.til)).far (p := ⟨w.heap.size + 1, 5, none⟩) (by show w.heap.size + 2 ≠ w.heap.size + 1; omega) (.slice Ag c.glyphs.length cap))
  exact blk_set2 R3'
 ·unfold finW
  iterate 8 refine own_set ?_ (by first | (show w.heap.size + 1 < _; omega) | (show w.heap.size + 2 < _; omega)) _
  exact hO
theorem fin_drew {w X : World} {B : Nat} {c0 : Chg} {A0 : Option Addr} {cap0 : Nat} {x y : Value} {r : Option (List ByteArray)} {c : Chg} {Ag : Option Addr} {cap : Nat} {A : Option Addr} {n cc : Nat} {l : List ByteArray} {bad : Bool} (hB : B ≤ w.heap.size) (hr : r = optR bad l) (hW : WdR X B l A n cc) (R2 : Blk X (w.heap.size + 1) 72 (chgA c0 A0 cap0)) (R3 : Blk X (w.heap.size + 2) 95 #[x, y]) (tx : Below w.heap.size w X) (hO : X.ownsRow (w.heap.size + 4) 89 3 (.slice Ag c.glyphs.length cap) c.glyphs.length (encGs c.glyphs)) :
  Blk (finW w X c Ag cap A n cc bad).drew (w.heap.size + 1) 72 (chgA c Ag cap) ∧ Blk (finW w X c Ag cap A n cc bad).drew (w.heap.size + 2) 95 #[.slice A n cc, .bool bad] ∧ RV (finW w X c Ag cap A n cc bad).drew B r (.agg #[.slice A n cc, .bool bad]) ∧ Below w.heap.size w (finW w X c Ag cap A n cc bad).drew ∧ (finW w X c Ag cap A n cc bad).drew.ownsRow w.heap.size 89 3 (.slice Ag c.glyphs.length cap) c.glyphs.length (encGs c.glyphs) := by
 obtain ⟨h1, h2, h3, h4, h5⟩ := fin_ hB hr hW R2 R3 tx hO
 exact ⟨h1.drew, h2.drew, h3.below (Below.refl _ _).drew, h4.drew, own_below h5 (Below.refl _ _).drew⟩
def AftE (X : World) (B : Nat) (x : Int × Option (List ByteArray)) (e : Ending) (w' : World) : Prop := ∃ A n c l bad, e = .returned (.tuple #[.int .i64 x.1, .agg #[.slice A n c, .bool bad]]) ∧ WdR w' B l A n c ∧ x.2 = optR bad l ∧ Below X.heap.size X w'
theorem uaft1 (r : Option (List ByteArray)) (v : Value) (s : ByteArray) (B : Nat) (X : World) (h : RV X B r v) (hB : B ≤ X.heap.size) : Calls Tryz.prog 76 #[v, .slice (some ⟨X.heap.size, 0, none⟩) 1 1] (X.alloc (.cells #[.string s] 9)) (AftE X B (numR (r.bind (skO s)))) := by
 have ha : Below X.heap.size X (X.alloc (.cells #[.string s] 9)) := (Below.refl _ _).alloc (Nat.le_refl _) _
 have hz : (X.alloc (.cells #[.string s] 9)).heap.size = X.heap.size + 1 := by simp
 refine (uafter_ r v [s] (some ⟨X.heap.size, 0, none⟩) 1 1 B _ (h.below (ha.mono hB)) (by omega) rfl (by decide) ?_).mono ?_
 ·rw [hz]
  exact rd_built (xs := [.string s]) rfl rfl
 ·rintro e w' ⟨v', rfl, ⟨A, n, c, l, bad, rfl, hW, hr⟩, hb⟩
  exact ⟨A, n, c, l, bad, rfl, hW, hr, ha.trans (hb.mono (by omega))⟩
theorem uaft2 (r : Option (List ByteArray)) (v : Value) (s t : ByteArray) (B : Nat) (X : World) (h : RV X B r v) (hB : B ≤ X.heap.size) : Calls Tryz.prog 76 #[v, .slice (some ⟨X.heap.size, 0, none⟩) 2 2] (X.alloc (.cells #[.string s, .string t] 9)) (AftE X B (numR ((r.bind (skO s)).bind (skO t)))) := by
 have ha : Below X.heap.size X (X.alloc (.cells #[.string s, .string t] 9)) := (Below.refl _ _).alloc (Nat.le_refl _) _
 have hz : (X.alloc (.cells #[.string s, .string t] 9)).heap.size = X.heap.size + 1 := by simp
 refine (uafter_ r v [s, t] (some ⟨X.heap.size, 0, none⟩) 2 2 B _ (h.below (ha.mono hB)) (by omega) rfl (by decide) ?_).mono ?_
 ·rw [hz]
  exact rd_built (xs := [.string s, .string t]) rfl rfl
 ·rintro e w' ⟨v', rfl, ⟨A, n, c, l, bad, rfl, hW, hr⟩, hb⟩
  exact ⟨A, n, c, l, bad, rfl, hW, hr, ha.trans (hb.mono (by omega))⟩
def SkpE (X : World) (B : Nat) (r : Option (List ByteArray)) (e : Ending) (w' : World) : Prop := ∃ A n c l bad, e = .returned (.agg #[.slice A n c, .bool bad]) ∧ WdR w' B l A n c ∧ r = optR bad l ∧ Below X.heap.size X w'
theorem uskp1 (r : Option (List ByteArray)) (v : Value) (s : ByteArray) (B : Nat) (X : World) (h : RV X B r v) (hB : B ≤ X.heap.size) : Calls Tryz.prog 77 #[v, .slice (some ⟨X.heap.size, 0, none⟩) 1 1] (X.alloc (.cells #[.string s] 9)) (SkpE X B (r.bind (skO s))) := by
 have ha : Below X.heap.size X (X.alloc (.cells #[.string s] 9)) := (Below.refl _ _).alloc (Nat.le_refl _) _
 have hz : (X.alloc (.cells #[.string s] 9)).heap.size = X.heap.size + 1 := by simp
 refine (uskip_ r v [s] (some ⟨X.heap.size, 0, none⟩) 1 1 B _ (h.below (ha.mono hB)) (by omega) rfl (by decide) ?_).mono ?_
 ·rw [hz]
  exact rd_built (xs := [.string s]) rfl rfl
 ·rintro e w' ⟨v', rfl, hv, hb⟩
  obtain ⟨A, n, c, l, bad, rfl, hW, hr⟩ := hv.below (hb.mono (by omega))
  exact ⟨A, n, c, l, bad, rfl, hW, hr, ha.trans (hb.mono (by omega))⟩
def AftC (w : World) (B : Nat) (c : Chg) (i : Nat) (x : Int × Option (List ByteArray)) (A' : Option Addr) (n' c' : Nat) (bad' : Bool) (e : Ending) (w1 : World) : Prop := ∃ A1 n1 cc bad v, e = .returned (.tuple #[.int .i64 x.1, .agg #[.slice A1 n1 cc, .bool bad]]) ∧
 w1.cell? ⟨w.heap.size, 0, none⟩ = some (.slice A' n' c') ∧ w1.cell? ⟨w.heap.size, 1, none⟩ = some (.bool bad') ∧ w1.frozen? ⟨w.heap.size, 0, none⟩ = false ∧ w1.frozen? ⟨w.heap.size, 1, none⟩ = false ∧ w1.cell? ⟨w.heap.size + 3, i, none⟩ = some (.int .i64 v) ∧ w1.frozen? ⟨w.heap.size + 3, i, none⟩ = false ∧
 CS w B x.2 (c.put i x.1) none 0 (((w1.setCell ⟨w.heap.size + 3, i, none⟩ (.int .i64 x.1)).setCell ⟨w.heap.size, 0, none⟩ (.slice A1 n1 cc)).setCell ⟨w.heap.size, 1, none⟩ (.bool bad))
theorem AftC.of {w X w1 : World} {B : Nat} {r : Option (List ByteArray)} {c : Chg} {i : Nat} {x : Int × Option (List ByteArray)} {A' : Option Addr} {n' c' : Nat} {bad' : Bool} {e : Ending} (hX : CS w B r c none 0 X) (hB : B ≤ w.heap.size) (R1 : Blk X w.heap.size 95 #[.slice A' n' c', .bool bad']) (R4 : Blk X (w.heap.size + 3) 72 (chgA c none 0)) (hi : i < 5) (h : AftE X B x e w1) : AftC w B c i x A' n' c' bad' e w1 := by
 obtain ⟨A1, n1, cc1, l1, bad1, rfl, hW1, hr1, hb1⟩ := h
 have hY := hX.below hB hb1
 have h2 := blk2 (R1.below hb1 R1.lt)
 have K := R4.below hb1 R4.lt
 have h3 := blk6 K
 obtain ⟨v, hv⟩ : ∃ v, w1.cell? ⟨w.heap.size + 3, i, none⟩ = some (.int .i64 v) := by
  match i, hi with
  | 0, _ => exact ⟨_, h3.1⟩
  | 1, _ => exact ⟨_, h3.2.1⟩
  | 2, _ => exact ⟨_, h3.2.2.1⟩
  | 3, _ => exact ⟨_, h3.2.2.2.1⟩
  | 4, _ => exact ⟨_, h3.2.2.2.2.1⟩
 exact ⟨A1, n1, cc1, bad1, v, rfl, h2.1, h2.2.1, h2.2.2.1, h2.2.2.2, hv, K.frozen i, (hY.set_ hB i x.1 hi).turn hB (hW1.below ((Below.refl B w1).setCell (p := ⟨w.heap.size + 3, i, none⟩) (by show B ≤ w.heap.size + 3; omega) (.int .i64 x.1))) hr1⟩
theorem CS.af_ {w X : World} {B : Nat} {r : Option (List ByteArray)} {c : Chg} (hX : CS w B r c none 0 X) (hB : B ≤ w.heap.size) (s : ByteArray) (i : Nat) (hi : i < 5) {x : Int × Option (List ByteArray)} (hx : Hid (x = numR (r.bind (skO s)))) :
  ∃ A' n' c' bad', X.cell? ⟨w.heap.size, 0, none⟩ = some (.slice A' n' c') ∧ X.cell? ⟨w.heap.size, 1, none⟩ = some (.bool bad') ∧ Calls Tryz.prog 76 #[.agg #[.slice A' n' c', .bool bad'], .slice (some ⟨X.heap.size, 0, none⟩) 1 1] (X.alloc (.cells #[.string s] 9)) (AftC w B c i x A' n' c' bad') := by
 obtain ⟨A', n', c', l', bad', hr', hW, R1, R2, R3, R4, tx, hO⟩ := id hX
 have h1 := blk2 R1
 refine ⟨A', n', c', bad', h1.1, h1.2.1, (uaft1 r _ s B X ⟨A', n', c', l', bad', rfl, hW, hr'⟩ (Nat.le_trans hB tx.size)).mono ?_⟩
 rw [← hx.out]
 exact fun e w1 h => AftC.of hX hB R1 R4 hi h
theorem CS.af2_ {w X : World} {B : Nat} {r : Option (List ByteArray)} {c : Chg} (hX : CS w B r c none 0 X) (hB : B ≤ w.heap.size) (s t : ByteArray) (i : Nat) (hi : i < 5) {x : Int × Option (List ByteArray)} (hx : Hid (x = numR ((r.bind (skO s)).bind (skO t)))) :
  ∃ A' n' c' bad', X.cell? ⟨w.heap.size, 0, none⟩ = some (.slice A' n' c') ∧ X.cell? ⟨w.heap.size, 1, none⟩ = some (.bool bad') ∧ Calls Tryz.prog 76 #[.agg #[.slice A' n' c', .bool bad'], .slice (some ⟨X.heap.size, 0, none⟩) 2 2] (X.alloc (.cells #[.string s, .string t] 9)) (AftC w B c i x A' n' c' bad') := by
 obtain ⟨A', n', c', l', bad', hr', hW, R1, R2, R3, R4, tx, hO⟩ := id hX
 have h1 := blk2 R1
 refine ⟨A', n', c', bad', h1.1, h1.2.1, (uaft2 r _ s t B X ⟨A', n', c', l', bad', rfl, hW, hr'⟩ (Nat.le_trans hB tx.size)).mono ?_⟩
 rw [← hx.out]
 exact fun e w1 h => AftC.of hX hB R1 R4 hi h
theorem CS.nx_ {w X : World} {B : Nat} {r : Option (List ByteArray)} {c : Chg} (hX : CS w B r c none 0 X) (hB : B ≤ w.heap.size) (s : ByteArray) :
  ∃ A' n' c' bad', X.cell? ⟨w.heap.size, 0, none⟩ = some (.slice A' n' c') ∧ X.cell? ⟨w.heap.size, 1, none⟩ = some (.bool bad') ∧ Calls Tryz.prog 49 #[.agg #[.slice A' n' c', .bool bad'], .string s] X fun e w1 => e = .returned (.bool (nextB r s)) ∧ CS w B r c none 0 w1 := by
 obtain ⟨A', n', c', l', bad', hr', hW, R1, R2, R3, R4, tx, hO⟩ := id hX
 have h1 := blk2 R1
 refine ⟨A', n', c', bad', h1.1, h1.2.1, (unext_ r _ s B X ⟨A', n', c', l', bad', rfl, hW, hr'⟩ (Nat.le_trans hB tx.size)).mono ?_⟩
 rintro e w1 ⟨rfl, hb1⟩
 exact ⟨rfl, hX.below hB hb1⟩
def LenR (r : Option (List ByteArray)) : Prop := ∀ l, r = some l → l.length ≤ 400000
theorem LenR.sk {r : Option (List ByteArray)} (h : LenR r) (s : ByteArray) : LenR (r.bind (skO s)) := by
 intro l hl
 cases r with
 | none => cases hl
 | some x =>
  cases x with
  | nil => cases hl
  | cons a t =>
   have := h _ rfl
   simp only [Option.bind_some, skO] at hl
   split at hl
   ·cases hl
    simp at this
    omega
   ·cases hl
theorem LenR.num {r : Option (List ByteArray)} (h : LenR r) : LenR (numR r).2 := by
 intro l hl
 cases r with
 | none => cases hl
 | some x =>
  have := h _ rfl
  unfold numR at hl
  simp only [Option.bind_some, numO] at hl
  cases hp : prefixL x with
  | none => rw [hp] at hl; cases hl
  | some y =>
   rw [hp] at hl
   cases hl
   rw [List.length_drop]
   omega
theorem numR_range (r : Option (List ByteArray)) : -999999999 ≤ (numR r).1 ∧ (numR r).1 ≤ 999999999 := by
 cases r with
 | none => exact ⟨by decide, by decide⟩
 | some x =>
  unfold numR
  simp only [Option.bind_some, numO]
  cases hp : prefixL x with
  | none => exact (show (-999999999 : Int) ≤ 0 ∧ (0 : Int) ≤ 999999999 by decide)
  | some y =>
   obtain ⟨n, k⟩ := y
   obtain ⟨_, _, _, hn, _⟩ := prefixL_some hp
   have := number_some hn
   exact ⟨this.1, this.2.1⟩
def textR (r : Option (List ByteArray)) : List Gl × Option (List ByteArray) := match r.bind textO with
 | some (G, t) => (G, some t)
 | none => ([], none)
def delP (r : Option (List ByteArray)) : Int × Option (List ByteArray) := if nextB r bDelete = true then ((numR (r.bind (skO bDelete))).1, if (numR (r.bind (skO bDelete))).1 < 1 then none else (numR (r.bind (skO bDelete))).2) else (0, r)
def insP (r : Option (List ByteArray)) : List Gl × Option (List ByteArray) := if nextB r bInsert = true then textR (r.bind (skO bInsert)) else ([], r)
def splP (r : Option (List ByteArray)) : Chg × Option (List ByteArray) :=
 (⟨3, (numR (r.bind (skO bLine))).1 - 1, (numR ((numR (r.bind (skO bLine))).2.bind (skO bColumn))).1 - 1, (delP (numR ((numR (r.bind (skO bLine))).2.bind (skO bColumn))).2).1, 0, (insP (delP (numR ((numR (r.bind (skO bLine))).2.bind (skO bColumn))).2).2).1⟩, (insP (delP (numR ((numR (r.bind (skO bLine))).2.bind (skO bColumn))).2).2).2)
theorem CS.start {w : World} {B : Nat} {A : Option Addr} {n c : Nat} {l : List ByteArray} (k : Int) (hW : WdR w B l A n c) (hB : B ≤ w.heap.size) :
  CS w B (some l) ⟨k, 0, 0, 0, 0, []⟩ none 0 ((((w.alloc (.cells #[.slice A n c, .bool false] 95)).alloc (.cells (chgA ⟨0, 0, 0, 0, 0, []⟩ none 0) 72)).alloc (.cells #[.slice none 0 0, .bool false] 95)).alloc (.cells (chgA ⟨k, 0, 0, 0, 0, []⟩ none 0) 72)) := by
 have tb : Below w.heap.size w ((((w.alloc (.cells #[.slice A n c, .bool false] 95)).alloc (.cells (chgA ⟨0, 0, 0, 0, 0, []⟩ none 0) 72)).alloc (.cells #[.slice none 0 0, .bool false] 95)).alloc (.cells (chgA ⟨k, 0, 0, 0, 0, []⟩ none 0) 72)) :=
  ((((Below.refl _ _).alloc (Nat.le_refl _) _).alloc (by simp) _).alloc (by simp; omega) _).alloc (by simp; omega) _
 exact ⟨A, n, c, l, false, rfl, hW.below (tb.mono hB), (((Blk.new w _ _).alloc _).alloc _).alloc _, ((Blk.new_ (by simp)).alloc _).alloc _, (Blk.new_ (by simp)).alloc _, Blk.new_ (by simp), tb, own_nil _ _ _ _⟩
set_option maxHeartbeats 4000000 in
theorem usplice_ (l : List ByteArray) (A : Option Addr) (n c : Nat) (w : World) (B : Nat) (hW : WdR w B l A n c) (hB : B ≤ w.heap.size) (hl : l.length ≤ 400000) (hs : Sp w) (hu : U8 w) (hy : Sty w) :
  Calls Tryz.prog 78 #[.agg #[.slice A n c, .bool false]] w (CRet w B (splP (some l)).1 (splP (some l)).2) := by
 obtain ⟨R, hR⟩ : ∃ x, x = splP (some l) := ⟨_, rfl⟩
 rw [← hR]
 have HR := Lib.hid hR
 have HL : Hid (LenR (some l)) := Lib.hid fun _ e => by cases e; exact hl
 have HS : Hid (Sp w ∧ U8 w ∧ Sty w) := Lib.hid ⟨hs, hu, hy⟩
 have hX := CS.start 3 hW hB
 clear hW hR hl hs hu hy
 go_enter Tryz.func78, Tryz.ntmps78
 go_upto_region 2 with fail
 refine wp_fg (CS w B (some l) ⟨3, 0, 0, 0, 0, []⟩ none 0) hX ?_
 clear hX
 intro X hX
 obtain ⟨x, hx⟩ : ∃ x, Hid (x = numR ((some l).bind (skO bLine))) := ⟨_, Lib.hid rfl⟩
 obtain ⟨y, hy⟩ : ∃ y, Hid (y = numR (x.2.bind (skO bColumn))) := ⟨_, Lib.hid rfl⟩
 obtain ⟨A', n', c', bad', c0, c1, HA0⟩ := CS.af_ hX hB bLine 1 (by decide) hx
 have HA := Lib.hid HA0
 clear HA0
 go_upto_region 3 with (go_at_call 76; refine HA.out.mono ?_; rintro e w1 ⟨A1, n1, cc1, bad1, v1, rfl, d0, d1, f0, f1, k0, p0, hY⟩)
 refine wp_fg (CS w B x.2 ⟨3, x.1, 0, 0, 0, []⟩ none 0) hY ?_
 clear hY hX HA c0 c1 d0 d1 f0 f1 k0 p0
 intro X hX
 obtain ⟨A', n', c', bad', c0, c1, HA0⟩ := CS.af_ hX hB bColumn 2 (by decide) hy
 have HA := Lib.hid HA0
 clear HA0
 go_upto_region 4 with (go_at_call 76; refine HA.out.mono ?_; rintro e w1 ⟨A1, n1, cc1, bad1, v1, rfl, d0, d1, f0, f1, k0, p0, hY⟩)
 refine wp_fg (CS w B y.2 ⟨3, x.1, y.1, 0, 0, []⟩ none 0) hY ?_
 clear hY hX HA c0 c1 d0 d1 f0 f1 k0 p0
 intro X hX
 obtain ⟨z, hz⟩ : ∃ z, Hid (z = delP y.2) := ⟨_, Lib.hid rfl⟩
 obtain ⟨g, hg⟩ : ∃ g, Hid (g = insP z.2) := ⟨_, Lib.hid rfl⟩
 have HR2 : Hid (R = (⟨3, x.1 - 1, y.1 - 1, z.1, 0, g.1⟩, g.2)) := Lib.hid (by rw [HR.out, hg.out, hz.out, hy.out, hx.out]; rfl)
 have HLy : Hid (LenR y.2) := Lib.hid (by rw [hy.out]; exact LenR.num (LenR.sk (by rw [hx.out]; exact LenR.num (LenR.sk HL.out _)) _))
 have hxr : -999999999 ≤ x.1 ∧ x.1 ≤ 999999999 := by rw [hx.out]; exact numR_range _
 have hyr : -999999999 ≤ y.1 ∧ y.1 ≤ 999999999 := by rw [hy.out]; exact numR_range _
 clear HR hx hy HL
 obtain ⟨xn, xr⟩ := x
 obtain ⟨yn, yr⟩ := y
 simp only at hxr hyr HR2 HLy hz
 obtain ⟨A', n', c', l', bad', hr', hW, R1, R2, R3, R4, tx, hO⟩ := id hX
 obtain ⟨c0, c1, f0, f1⟩ := blk2 R1
 obtain ⟨k0, k1, k2, k3, k4, k5, p0, p1, p2, p3, p4, p5⟩ := blk6 R4
 dsimp only at k0 k1 k2 k3 k4 k5
 have e1 : IntKind.i64.wrap (xn - 1) = xn - 1 := by rw [IntKind.wrap_i64]; omega
 have e2 : IntKind.i64.wrap (yn - 1) = yn - 1 := by rw [IntKind.wrap_i64]; omega
 go_upto_region 5 with fail
 refine wp_fg (CS w B yr ⟨3, xn - 1, yn - 1, 0, 0, []⟩ none 0) ((hX.set_ hB 1 (xn - 1) (by decide)).set_ hB 2 (yn - 1) (by decide)) ?_
 clear hX
 clear c0 c1 f0 f1 k0 k1 k2 k3 k4 k5 p0 p1 p2 p3 p4 p5 hr' hW R1 R2 R3 R4 tx hO
 intro X hX
 generalize xn - 1 = Row at *
 generalize yn - 1 = Col at *
 obtain ⟨A', n', c', bad', c0, c1, HN0⟩ := CS.nx_ hX hB bDelete
 have HN := Lib.hid HN0
 clear HN0
 obtain ⟨b, hb⟩ : ∃ b, Hid (b = nextB yr bDelete) := ⟨_, Lib.hid rfl⟩
 rw [← hb.out] at HN
 go_upto_if 29 with (go_at_call 49; refine HN.out.mono ?_; rintro e w1 ⟨rfl, hY⟩)
 refine wp_fg (CS w B yr ⟨3, Row, Col, 0, 0, []⟩ none 0) hY ?_
 clear hY hX HN c0 c1
 intro X hX
 go_cut [] (fun wx => CS w B z.2 ⟨3, Row, Col, z.1, 0, []⟩ none 0 wx)
 case first =>
  clear HR2 HLy hg
  cases b with
  | false =>
   have hz2 : Hid (z = (0, yr)) := Lib.hid (by rw [hz.out]; show (if nextB yr bDelete = true then _ else _) = _; rw [← hb.out]; rfl)
   clear hz hb
   go_wp2
   go_meet
   rw [hz2.out]
   exact hX
  | true =>
   obtain ⟨u, hu⟩ : ∃ u, Hid (u = numR (yr.bind (skO bDelete))) := ⟨_, Lib.hid rfl⟩
   have hz2 : Hid (z = (u.1, if u.1 < 1 then none else u.2)) := Lib.hid (by rw [hz.out, hu.out]; show (if nextB yr bDelete = true then _ else _) = _; rw [← hb.out]; rfl)
   clear hz hb
   obtain ⟨A', n', c', bad', c0, c1, HA0⟩ := CS.af_ hX hB bDelete 3 (by decide) hu
   have HA := Lib.hid HA0
   clear HA0
   go_upto_region 7 with (go_at_call 76; refine HA.out.mono ?_; rintro e w1 ⟨A1, n1, cc1, bad1, v1, rfl, d0, d1, f0, f1, k0, p0, hY⟩)
   refine wp_fg (CS w B u.2 ⟨3, Row, Col, u.1, 0, []⟩ none 0) hY ?_
   clear hY hX HA c0 c1 d0 d1 f0 f1 k0 p0
   intro X hX
   obtain ⟨A', n', c', l', bad', hr', hW, R1, R2, R3, R4, tx, hO⟩ := id hX
   obtain ⟨c0, c1, f0, f1⟩ := blk2 R1
   obtain ⟨k0, k1, k2, k3, k4, k5, p0, p1, p2, p3, p4, p5⟩ := blk6 R4
   dsimp only at k0 k1 k2 k3 k4 k5
   by_cases hlt : u.1 < 1
   ·go_wp2
    go_meet
    rw [hz2.out, if_pos hlt]
    exact hX.spoil hB
   ·go_wp2
    go_meet
    rw [hz2.out, if_neg (show ¬ u.1 < 1 by omega)]
    exact hX
 case rest =>
  clear hX
  have hX := hcut
  have HLz : Hid (LenR z.2) := Lib.hid (by
   rw [hz.out]
   unfold delP
   split
   ·show LenR (if _ then none else _)
    split
    ·intro _ h; cases h
    ·exact LenR.num (LenR.sk HLy.out _)
   ·exact HLy.out)
  clear hcut hz hb HLy
  obtain ⟨Z, zr⟩ := z
  simp only at HLz HR2 hg
  generalize hXw : wc = X at *
  clear hXw
  obtain ⟨A', n', c', bad', c0, c1, HN0⟩ := CS.nx_ hX hB bInsert
  have HN := Lib.hid HN0
  clear HN0
  obtain ⟨b2, hb2⟩ : ∃ b, Hid (b = nextB zr bInsert) := ⟨_, Lib.hid rfl⟩
  rw [← hb2.out] at HN
  go_upto_if 42 with (go_at_call 49; refine HN.out.mono ?_; rintro e w1 ⟨rfl, hY⟩)
  refine wp_fg (CS w B zr ⟨3, Row, Col, Z, 0, []⟩ none 0) hY ?_
  clear hY hX HN c0 c1
  intro X hX
  go_cut [] (fun wx => ∃ Ag cap, CS w B g.2 ⟨3, Row, Col, Z, 0, g.1⟩ Ag cap wx)
  case first =>
   clear HR2
   cases b2 with
   | false =>
    have hg2 : Hid (g = ([], zr)) := Lib.hid (by rw [hg.out]; show (if nextB zr bInsert = true then _ else _) = _; rw [← hb2.out]; rfl)
    clear hg hb2
    go_wp2
    go_meet
    rw [hg2.out]
    exact ⟨_, _, hX⟩
   | true =>
    obtain ⟨u, hu⟩ : ∃ u, Hid (u = zr.bind (skO bInsert)) := ⟨_, Lib.hid rfl⟩
    have hg2 : Hid (g = textR u) := Lib.hid (by rw [hg.out, hu.out]; show (if nextB zr bInsert = true then _ else _) = _; rw [← hb2.out]; rfl)
    have HLu : LenR u := by rw [hu.out]; exact HLz.out.sk _
    clear hg hb2 HLz
    obtain ⟨A', n', c', l', bad', hr', hW, R1, R2, R3, R4, tx, hO⟩ := id hX
    obtain ⟨c0, c1, f0, f1⟩ := blk2 R1
    obtain ⟨k0, k1, k2, k3, k4, k5, p0, p1, p2, p3, p4, p5⟩ := blk6 R4
    dsimp only at k0 k1 k2 k3 k4 k5
    have HK := Lib.hid (uskp1 zr _ bInsert B X ⟨A', n', c', l', bad', rfl, hW, hr'⟩ (Nat.le_trans hB tx.size))
    rw [← hu.out] at HK
    have HT : Hid (∀ (v' : Value) (w' : World), RV w' B u v' → Below w.heap.size w w' → Calls Tryz.prog 108 #[v'] w' (TRet w' B (u.bind textO))) := Lib.hid fun v' w' hv hb => utext_ u v' B w' hv (Nat.le_trans hB hb.size) HLu (HS.out.1.below hb (Nat.le_refl _)) (HS.out.2.1.below hb) (HS.out.2.2.below hb (Nat.le_refl _))
    clear HLu hu HS
    go_wp2_with (first
     | (go_at_call 77; refine HK.out.mono ?_; rintro e w1 ⟨A1, n1, cc1, l1, bad1, rfl, hW1, hr1, hb1⟩; have tx1 := tx.trans (hb1.mono (by have := hX.size; omega)))
     | (go_at_call 108; refine (HT.out _ _ ⟨A1, n1, cc1, l1, bad1, rfl, hW1, hr1⟩ tx1).mono ?_; rintro e w2 ⟨A2, G, c2, v2, rfl, ho2, ⟨A3, n3, c3, l3, bad3, rfl, hW3, hr3⟩, hb3, hG⟩; have hb4 := hb1.trans (hb3.mono hb1.size); have hY := hX.below hB hb4; clear c0 c1 f0 f1 k0 k1 k2 k3 k4 k5 p0 p1 p2 p3 p4 p5 hr' hW R1 R2 R3 R4 tx hO; (obtain ⟨A', n', c', l', bad', hr', hW, R1, R2, R3, R4, tx, hO⟩ := id hY; obtain ⟨c0, c1, f0, f1⟩ := blk2 R1; obtain ⟨k0, k1, k2, k3, k4, k5, p0, p1, p2, p3, p4, p5⟩ := blk6 R4; dsimp only at k0 k1 k2 k3 k4 k5)))
    go_meet
    have hgg : g = (G, (u.bind textO).map (·.2)) := by
     rw [hg2.out, textR, ← hG]
     cases u.bind textO <;> rfl
    have hz1 := hX.size
    have hz2 := hb1.size
    have hXX := (hY.glyphs hB (own_less ho2 (by omega))).turn hB (hW3.below ((Below.refl B w2).setCell (p := ⟨w.heap.size + 3, 5, none⟩) (by show B ≤ w.heap.size + 3; omega) (.slice A2 G.length c2))) hr3
    exact ⟨A2, c2, by rw [hgg]; exact hXX⟩
  case rest =>
   clear hX
   obtain ⟨Ag, cap, hX⟩ := hcut
   have HR3 : Hid (R.1 = ⟨3, Row, Col, Z, 0, g.1⟩ ∧ R.2 = g.2) := Lib.hid (by rw [HR2.out]; exact ⟨rfl, rfl⟩)
   clear HR2 hg hb2 HLz HS
   generalize hXw : wc = X at *
   clear hXw
   obtain ⟨G, gr⟩ := g
   go_upto_region 11 with fail
   obtain ⟨A', n', c', l', bad', hr', hW, R1, R2, R3, R4, tx, hO⟩ := id hX
   obtain ⟨c0, c1, f0, f1⟩ := blk2 R1
   obtain ⟨k0, k1, k2, k3, k4, k5, p0, p1, p2, p3, p4, p5⟩ := blk6 R4
   dsimp only at k0 k1 k2 k3 k4 k5
   obtain ⟨o0, o1, o2, o3, o4, o5, q0, q1, q2, q3, q4, q5⟩ := blk6 R2
   obtain ⟨m0, m1, v0, v1⟩ := blk2 R3
   dsimp only at o0 o1 o2 o3 o4 o5
   have HF := Lib.hid (fin_drew hB hr' hW R2 R3 tx hO)
   go_region_law (fail)
   all_goals go_wp2
   all_goals rw [HR3.out.1, HR3.out.2]
   all_goals exact bodyPost_ret (results_cc rfl _ _ (w.heap.size + 1) (w.heap.size + 2) 72 95 _ _ (0, 0) (0, 0) _ _ rfl HF.out.1 Tryz.underlying72 rfl info_chg rfl HF.out.2.1 Tryz.underlying95 rfl info_rd) rfl ⟨_, _, _, rfl, HF.out.2.2.1, HF.out.2.2.2.1, HF.out.2.2.2.2⟩
end Go.Proofs.YtholajadbbdcmaaGreatDoor
