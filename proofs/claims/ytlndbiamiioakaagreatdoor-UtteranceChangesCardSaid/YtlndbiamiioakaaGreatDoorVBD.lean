/- Joined: Ur4, Ur5. -/
import Derived.Test.YtlndbiamiioakaaGreatDoorVBC
set_option linter.unusedVariables false
set_option linter.unusedSimpArgs false
set_option linter.unnecessarySimpa false
set_option maxHeartbeats 4000000
namespace Go.Proofs.YtlndbiamiioakaaGreatDoor
open Go.Proofs.Tryz Go.RowKit
set_option maxRecDepth 20000
def Chg.put (c : Chg) (i : Nat) (N : Int) : Chg := match i with
 | 0 => {c with kind := N}
 | 1 => {c with row := N}
 | 2 => {c with col := N}
 | 3 => {c with count := N}
 | _ => {c with til := N}
def vK (c : Chg) (A : Option Addr) (cap : Nat) : Array Value := #[.int .i64 c.kind, .int .i64 c.row, .int .i64 c.col, .int .i64 c.count, .int .i64 c.til, .slice A c.glyphs.length cap]
theorem qex (c : Chg) (A : Option Addr) (cap i : Nat) (N : Int) (h : i < 5) : (vK c A cap).setIfInBounds i (.int .i64 N) = vK (c.put i N) A cap := by
 match i, h with
 | 0, _ => rfl
 | 1, _ => rfl
 | 2, _ => rfl
 | 3, _ => rfl
 | 4, _ => rfl
theorem qco (c : Chg) (i : Nat) (N : Int) : (c.put i N).glyphs = c.glyphs := by
 match i with
 | 0 => rfl
 | 1 => rfl
 | 2 => rfl
 | 3 => rfl
 | _ + 4 => rfl
def CS (w : World) (B : Nat) (r : Option (List ByteArray)) (c : Chg) (Ag : Option Addr) (cap : Nat) (X : World) : Prop :=
 ∃ A n cc l bad, r = zY bad l /\ WdR X B l A n cc /\ Blk X w.heap.size 41 #[.slice A n cc, .bool bad] /\ Blk X (w.heap.size + 1) 34 (vK ⟨0, 0, 0, 0, 0, []⟩ none 0) /\ Blk X (w.heap.size + 2) 41 #[.slice none 0 0, .bool false] /\ Blk X (w.heap.size + 3) 34 (vK c Ag cap) /\ Below w.heap.size w X /\ X.ownsRow (w.heap.size + 4) 31 3 (.slice Ag c.glyphs.length cap) c.glyphs.length (qn c.glyphs)
theorem qm {X : World} {g : Nat} {t : TypeId} {a b : Value} (h : Blk X g t #[a, b]) : X.cell? ⟨g, 0, none⟩ = some a /\ X.cell? ⟨g, 1, none⟩ = some b /\ X.frozen? ⟨g, 0, none⟩ = false /\ X.frozen? ⟨g, 1, none⟩ = false := ⟨h.cell 0, h.cell 1, h.frozen 0, h.frozen 1⟩
theorem qr {X : World} {g : Nat} {t : TypeId} {c : Chg} {A : Option Addr} {cap : Nat} (h : Blk X g t (vK c A cap)) : X.cell? ⟨g, 0, none⟩ = some (.int .i64 c.kind) /\ X.cell? ⟨g, 1, none⟩ = some (.int .i64 c.row) /\ X.cell? ⟨g, 2, none⟩ = some (.int .i64 c.col) /\ X.cell? ⟨g, 3, none⟩ = some (.int .i64 c.count) /\ X.cell? ⟨g, 4, none⟩ = some (.int .i64 c.til) /\ X.cell? ⟨g, 5, none⟩ = some (.slice A c.glyphs.length cap) /\ X.frozen? ⟨g, 0, none⟩ = false /\ X.frozen? ⟨g, 1, none⟩ = false /\ X.frozen? ⟨g, 2, none⟩ = false /\ X.frozen? ⟨g, 3, none⟩ = false /\ X.frozen? ⟨g, 4, none⟩ = false /\ X.frozen? ⟨g, 5, none⟩ = false :=
 ⟨h.cell 0, h.cell 1, h.cell 2, h.cell 3, h.cell 4, h.cell 5, h.frozen 0, h.frozen 1, h.frozen 2, h.frozen 3, h.frozen 4, h.frozen 5⟩
theorem CS.size {w X : World} {B : Nat} {r : Option (List ByteArray)} {c : Chg} {Ag : Option Addr} {cap : Nat} (h : CS w B r c Ag cap X) : w.heap.size + 4 <= X.heap.size := by
 obtain ⟨A, n, cc, l, bad, h1, h2, h3, h4, h5, h6, h7, h8⟩ := h
 have := h6.lt
 omega
theorem CS.below {w X Y : World} {B : Nat} {r : Option (List ByteArray)} {c : Chg} {Ag : Option Addr} {cap : Nat} (h : CS w B r c Ag cap X) (hB : B <= w.heap.size) (hb : Below X.heap.size X Y) : CS w B r c Ag cap Y := by
 have hz := h.size
 obtain ⟨A, n, cc, l, bad, h1, h2, h3, h4, h5, h6, h7, h8⟩ := h
 exact ⟨A, n, cc, l, bad, h1, h2.below (hb.mono (by omega)), h3.below hb h3.lt, h4.below hb h4.lt, h5.below hb h5.lt, h6.below hb h6.lt, h7.trans (hb.mono (by omega)), qa h8 hb⟩
theorem CS.drew {w X : World} {B : Nat} {r : Option (List ByteArray)} {c : Chg} {Ag : Option Addr} {cap : Nat} (h : CS w B r c Ag cap X) (hB : B <= w.heap.size) : CS w B r c Ag cap X.drew := h.below hB (Below.refl _ _).drew
theorem CS.set_ {w X : World} {B : Nat} {r : Option (List ByteArray)} {c : Chg} {Ag : Option Addr} {cap : Nat} (h : CS w B r c Ag cap X) (hB : B <= w.heap.size) (i : Nat) (N : Int) (hi : i < 5) : CS w B r (c.put i N) Ag cap (X.setCell ⟨w.heap.size + 3, i, none⟩ (.int .i64 N)) := by
 obtain ⟨A, n, cc, l, bad, h1, h2, h3, h4, h5, h6, h7, h8⟩ := h
 refine ⟨A, n, cc, l, bad, h1, h2.below ((Below.refl B X).setCell (by show B <= w.heap.size + 3; omega) _), h3.far (by show w.heap.size ≠ w.heap.size + 3; omega) _, h4.far (by show w.heap.size + 1 ≠ w.heap.size + 3; omega) _, h5.far (by show w.heap.size + 2 ≠ w.heap.size + 3; omega) _, ?_, h7.setCell (by show w.heap.size <= w.heap.size + 3; omega) _, ?_⟩
 ·have := h6.set_ i (.int .i64 N)
  rwa [qex _ _ _ _ _ hi] at this
 ·rw [qco]
  exact qs h8 (by show w.heap.size + 3 < _; omega) _
theorem CS.turn {w X : World} {B : Nat} {r r' : Option (List ByteArray)} {c : Chg} {Ag : Option Addr} {cap : Nat} {A : Option Addr} {n cc : Nat} {l : List ByteArray} {bad : Bool} (h : CS w B r c Ag cap X) (hB : B <= w.heap.size) (hW : WdR X B l A n cc) (hr : r' = zY bad l) :
  CS w B r' c Ag cap ((X.setCell ⟨w.heap.size, 0, none⟩ (.slice A n cc)).setCell ⟨w.heap.size, 1, none⟩ (.bool bad)) := by
 obtain ⟨A0, n0, cc0, l0, bad0, h1, h2, h3, h4, h5, h6, h7, h8⟩ := h
 exact ⟨A, n, cc, l, bad, hr, hW.below (((Below.refl B X).setCell (p := ⟨w.heap.size, 0, none⟩) hB _).setCell (p := ⟨w.heap.size, 1, none⟩) hB _), qA h3, (h4.far (p := ⟨w.heap.size, 0, none⟩) (by show w.heap.size + 1 ≠ w.heap.size; omega) _).far (p := ⟨w.heap.size, 1, none⟩) (by show w.heap.size + 1 ≠ w.heap.size; omega) _, (h5.far (p := ⟨w.heap.size, 0, none⟩) (by show w.heap.size + 2 ≠ w.heap.size; omega) _).far (p := ⟨w.heap.size, 1, none⟩) (by show w.heap.size + 2 ≠ w.heap.size; omega) _, (h6.far (p := ⟨w.heap.size, 0, none⟩) (by show w.heap.size + 3 ≠ w.heap.size; omega) _).far (p := ⟨w.heap.size, 1, none⟩) (by show w.heap.size + 3 ≠ w.heap.size; omega) _, (h7.setCell (p := ⟨w.heap.size, 0, none⟩) (Nat.le_refl _) _).setCell (p := ⟨w.heap.size, 1, none⟩) (Nat.le_refl _) _, qs (qs h8 (p := ⟨w.heap.size, 0, none⟩) (by show w.heap.size < _; omega) _) (p := ⟨w.heap.size, 1, none⟩) (by show w.heap.size < _; omega) _⟩
theorem CS.spoil {w X : World} {B : Nat} {r : Option (List ByteArray)} {c : Chg} {Ag : Option Addr} {cap : Nat} (h : CS w B r c Ag cap X) (hB : B <= w.heap.size) : CS w B none c Ag cap (X.setCell ⟨w.heap.size, 1, none⟩ (.bool true)) := by
 obtain ⟨A0, n0, cc0, l0, bad0, h1, h2, h3, h4, h5, h6, h7, h8⟩ := h
 refine ⟨A0, n0, cc0, l0, true, rfl, h2.below ((Below.refl B X).setCell (p := ⟨w.heap.size, 1, none⟩) hB _), ?_, h4.far (p := ⟨w.heap.size, 1, none⟩) (by show w.heap.size + 1 ≠ w.heap.size; omega) _, h5.far (p := ⟨w.heap.size, 1, none⟩) (by show w.heap.size + 2 ≠ w.heap.size; omega) _, h6.far (p := ⟨w.heap.size, 1, none⟩) (by show w.heap.size + 3 ≠ w.heap.size; omega) _, h7.setCell (p := ⟨w.heap.size, 1, none⟩) (Nat.le_refl _) _, qs h8 (p := ⟨w.heap.size, 1, none⟩) (by show w.heap.size < _; omega) _⟩
 have := h3.set_ 1 (.bool true)
 simpa using this
theorem CS.glyphs {w X : World} {B : Nat} {r : Option (List ByteArray)} {c : Chg} {Ag : Option Addr} {cap : Nat} (h : CS w B r c Ag cap X) (hB : B <= w.heap.size) {G : List Gl} {A : Option Addr} {cp : Nat} (ho : X.ownsRow (w.heap.size + 4) 31 3 (.slice A G.length cp) G.length (qn G)) : CS w B r {c with glyphs := G} A cp (X.setCell ⟨w.heap.size + 3, 5, none⟩ (.slice A G.length cp)) := by
 obtain ⟨A0, n, cc, l, bad, h1, h2, h3, h4, h5, h6, h7, h8⟩ := h
 refine ⟨A0, n, cc, l, bad, h1, h2.below ((Below.refl B X).setCell (by show B <= w.heap.size + 3; omega) _), h3.far (by show w.heap.size ≠ w.heap.size + 3; omega) _, h4.far (by show w.heap.size + 1 ≠ w.heap.size + 3; omega) _, h5.far (by show w.heap.size + 2 ≠ w.heap.size + 3; omega) _, ?_, h7.setCell (by show w.heap.size <= w.heap.size + 3; omega) _, qs ho (by show w.heap.size + 3 < _; omega) _⟩
 have := h6.set_ 5 (.slice A G.length cp)
 exact this
def CRet (w : World) (B : Nat) (c : Chg) (r : Option (List ByteArray)) (e : Ending) (w' : World) : Prop := ∃ Ag cap v, e = .returned (.tuple #[.agg (vK c Ag cap), v]) /\ RV w' B r v /\ Below w.heap.size w w' /\ w'.ownsRow w.heap.size 31 3 (.slice Ag c.glyphs.length cap) c.glyphs.length (qn c.glyphs)
theorem qV {P : Program} {fn : Func} {p q : Tmp} {ty ty2 : TypeId} (h : fn.results = #[.cell p ty, .cell q ty2]) (tmps : Array Value) (w : World) (g g2 : Nat) (t t2 : TypeId) (cs cs2 : Array Value) (fr fr2 : Nat × Nat) (d d2 : TypeDesc)
  (hp : tmps.getD p undef = .pointer (some ⟨g, 0, none⟩)) (hg : w.heap[g]? = some (.cells cs t fr))
  (hu : P.underlying ty = some d) (hd : (match d with | .struct _ | .array _ _ => true | _ => false) = true) (hi : (P.info? ty).map (·.size) = some cs.size)
  (hp2 : tmps.getD q undef = .pointer (some ⟨g2, 0, none⟩)) (hg2 : w.heap[g2]? = some (.cells cs2 t2 fr2))
  (hu2 : P.underlying ty2 = some d2) (hd2 : (match d2 with | .struct _ | .array _ _ => true | _ => false) = true) (hi2 : (P.info? ty2).map (·.size) = some cs2.size) :
  (results fn tmps).run P w = .ok (.tuple #[.agg cs, .agg cs2]) w := by
 simp only [results, h]
 have hp' : tmps[p]?.getD undef = .pointer (some ⟨g, 0, none⟩) := by simpa using hp
 have hq' : tmps[q]?.getD undef = .pointer (some ⟨g2, 0, none⟩) := by simpa using hp2
 simp [Sem.run_bind, Result.andThen, hp', hq', asAddr, run_loadVar_row w g t ty cs fr d hg hu hd hi, run_loadVar_row w g2 t2 ty2 cs2 fr2 d2 hg2 hu2 hd2 hi2]
theorem zH : (prog.info? 34).map (fun x => x.size) = some 6 := by kernel_rfl
theorem qch {X : World} {g : Nat} {A : Option Addr} {cap : Nat} {c0 c : Chg} {A0 : Option Addr} {cap0 : Nat} (h : Blk X g 34 (vK c0 A0 cap0)) : Blk ((((((X.setCell ⟨g, 0, none⟩ (.int .i64 c.kind)).setCell ⟨g, 1, none⟩ (.int .i64 c.row)).setCell ⟨g, 2, none⟩ (.int .i64 c.col)).setCell ⟨g, 3, none⟩ (.int .i64 c.count)).setCell ⟨g, 4, none⟩ (.int .i64 c.til)).setCell ⟨g, 5, none⟩ (.slice A c.glyphs.length cap)) g 34 (vK c A cap) := by
 exact (((((h.set_ 0 _).set_ 1 _).set_ 2 _).set_ 3 _).set_ 4 _).set_ 5 _
theorem qaI {X : World} {g k : Nat} (hk : k <= g) (a b c d e f : Value) : Below k X ((((((X.setCell ⟨g, 0, none⟩ a).setCell ⟨g, 1, none⟩ b).setCell ⟨g, 2, none⟩ c).setCell ⟨g, 3, none⟩ d).setCell ⟨g, 4, none⟩ e).setCell ⟨g, 5, none⟩ f) :=
 ((((((Below.refl k X).setCell (p := ⟨g, 0, none⟩) hk a).setCell (p := ⟨g, 1, none⟩) hk b).setCell (p := ⟨g, 2, none⟩) hk c).setCell (p := ⟨g, 3, none⟩) hk d).setCell (p := ⟨g, 4, none⟩) hk e).setCell (p := ⟨g, 5, none⟩) hk f
def qbB (w X : World) (c : Chg) (Ag : Option Addr) (cap : Nat) (A : Option Addr) (n cc : Nat) (bad : Bool) : World :=
 (((((((X.setCell ⟨w.heap.size + 1, 0, none⟩ (.int .i64 c.kind)).setCell ⟨w.heap.size + 1, 1, none⟩ (.int .i64 c.row)).setCell ⟨w.heap.size + 1, 2, none⟩ (.int .i64 c.col)).setCell ⟨w.heap.size + 1, 3, none⟩ (.int .i64 c.count)).setCell ⟨w.heap.size + 1, 4, none⟩ (.int .i64 c.til)).setCell ⟨w.heap.size + 1, 5, none⟩ (.slice Ag c.glyphs.length cap)).setCell ⟨w.heap.size + 2, 0, none⟩ (.slice A n cc)).setCell ⟨w.heap.size + 2, 1, none⟩ (.bool bad)
theorem fin_ {w X : World} {B : Nat} {c0 : Chg} {A0 : Option Addr} {cap0 : Nat} {x y : Value} {r : Option (List ByteArray)} {c : Chg} {Ag : Option Addr} {cap : Nat} {A : Option Addr} {n cc : Nat} {l : List ByteArray} {bad : Bool} (hB : B <= w.heap.size) (hr : r = zY bad l) (hW : WdR X B l A n cc) (R2 : Blk X (w.heap.size + 1) 34 (vK c0 A0 cap0)) (R3 : Blk X (w.heap.size + 2) 41 #[x, y]) (tx : Below w.heap.size w X) (hO : X.ownsRow (w.heap.size + 4) 31 3 (.slice Ag c.glyphs.length cap) c.glyphs.length (qn c.glyphs)) :
  Blk (qbB w X c Ag cap A n cc bad) (w.heap.size + 1) 34 (vK c Ag cap) /\ Blk (qbB w X c Ag cap A n cc bad) (w.heap.size + 2) 41 #[.slice A n cc, .bool bad] /\ RV (qbB w X c Ag cap A n cc bad) B r (.agg #[.slice A n cc, .bool bad]) /\ Below w.heap.size w (qbB w X c Ag cap A n cc bad) /\ (qbB w X c Ag cap A n cc bad).ownsRow w.heap.size 31 3 (.slice Ag c.glyphs.length cap) c.glyphs.length (qn c.glyphs) := by
 have b6 := fun k (hk : k <= w.heap.size + 1) => qaI (X := X) hk (.int .i64 c.kind) (.int .i64 c.row) (.int .i64 c.col) (.int .i64 c.count) (.int .i64 c.til) (.slice Ag c.glyphs.length cap)
 have b8 : ∀ k, k <= w.heap.size + 1 -> Below k X (qbB w X c Ag cap A n cc bad) := fun k hk => ((b6 k hk).setCell (p := ⟨w.heap.size + 2, 0, none⟩) (by show k <= w.heap.size + 2; omega) _).setCell (p := ⟨w.heap.size + 2, 1, none⟩) (by show k <= w.heap.size + 2; omega) _
 refine ⟨?_, ?_, ⟨A, n, cc, l, bad, rfl, hW.below (b8 B (by omega)), hr⟩, tx.trans (b8 _ (by omega)), qq (base := w.heap.size + 4) ?_ (by omega)⟩
 ·exact ((qch R2).far (p := ⟨w.heap.size + 2, 0, none⟩) (by show w.heap.size + 1 ≠ w.heap.size + 2; omega) _).far (p := ⟨w.heap.size + 2, 1, none⟩) (by show w.heap.size + 1 ≠ w.heap.size + 2; omega) _
 ·have R3' := ((((((R3.far (p := ⟨w.heap.size + 1, 0, none⟩) (by show w.heap.size + 2 ≠ w.heap.size + 1; omega) (.int .i64 c.kind)).far (p := ⟨w.heap.size + 1, 1, none⟩) (by show w.heap.size + 2 ≠ w.heap.size + 1; omega) (.int .i64 c.row)).far (p := ⟨w.heap.size + 1, 2, none⟩) (by show w.heap.size + 2 ≠ w.heap.size + 1; omega) (.int .i64 c.col)).far (p := ⟨w.heap.size + 1, 3, none⟩) (by show w.heap.size + 2 ≠ w.heap.size + 1; omega) (.int .i64 c.count)).far (p := ⟨w.heap.size + 1, 4, none⟩) (by show w.heap.size + 2 ≠ w.heap.size + 1; omega) (.int .i64 c.til)).far (p := ⟨w.heap.size + 1, 5, none⟩) (by show w.heap.size + 2 ≠ w.heap.size + 1; omega) (.slice Ag c.glyphs.length cap))
  exact qA R3'
 ·unfold qbB
  iterate 8 refine qs ?_ (by first | (show w.heap.size + 1 < _; omega) | (show w.heap.size + 2 < _; omega)) _
  exact hO
theorem k6 {w X : World} {B : Nat} {c0 : Chg} {A0 : Option Addr} {cap0 : Nat} {x y : Value} {r : Option (List ByteArray)} {c : Chg} {Ag : Option Addr} {cap : Nat} {A : Option Addr} {n cc : Nat} {l : List ByteArray} {bad : Bool} (hB : B <= w.heap.size) (hr : r = zY bad l) (hW : WdR X B l A n cc) (R2 : Blk X (w.heap.size + 1) 34 (vK c0 A0 cap0)) (R3 : Blk X (w.heap.size + 2) 41 #[x, y]) (tx : Below w.heap.size w X) (hO : X.ownsRow (w.heap.size + 4) 31 3 (.slice Ag c.glyphs.length cap) c.glyphs.length (qn c.glyphs)) :
  Blk (qbB w X c Ag cap A n cc bad).drew (w.heap.size + 1) 34 (vK c Ag cap) /\ Blk (qbB w X c Ag cap A n cc bad).drew (w.heap.size + 2) 41 #[.slice A n cc, .bool bad] /\ RV (qbB w X c Ag cap A n cc bad).drew B r (.agg #[.slice A n cc, .bool bad]) /\ Below w.heap.size w (qbB w X c Ag cap A n cc bad).drew /\ (qbB w X c Ag cap A n cc bad).drew.ownsRow w.heap.size 31 3 (.slice Ag c.glyphs.length cap) c.glyphs.length (qn c.glyphs) := by
 obtain ⟨h1, h2, h3, h4, h5⟩ := fin_ hB hr hW R2 R3 tx hO
 exact ⟨h1.drew, h2.drew, h3.below (Below.refl _ _).drew, h4.drew, qa h5 (Below.refl _ _).drew⟩
def AftE (X : World) (B : Nat) (x : Int × Option (List ByteArray)) (e : Ending) (w' : World) : Prop := ∃ A n c l bad, e = .returned (.tuple #[.int .i64 x.1, .agg #[.slice A n c, .bool bad]]) /\ WdR w' B l A n c /\ x.2 = zY bad l /\ Below X.heap.size X w'
theorem uaft1 (r : Option (List ByteArray)) (v : Value) (s : ByteArray) (B : Nat) (X : World) (h : RV X B r v) (hB : B <= X.heap.size) : Calls prog 25 #[v, .slice (some ⟨X.heap.size, 0, none⟩) 1 1] (X.alloc (.cells #[.string s] 9)) (AftE X B (qU (r.bind (skO s)))) := by
 have ha : Below X.heap.size X (X.alloc (.cells #[.string s] 9)) := (Below.refl _ _).alloc (Nat.le_refl _) _
 have hz : (X.alloc (.cells #[.string s] 9)).heap.size = X.heap.size + 1 := by simp
 refine (qgE r v [s] (some ⟨X.heap.size, 0, none⟩) 1 1 B _ (h.below (ha.mono hB)) (by omega) rfl (by decide) ?_).mono ?_
 ·rw [hz]
  exact qe (xs := [.string s]) rfl rfl
 ·rintro e w' ⟨v', rfl, ⟨A, n, c, l, bad, rfl, hW, hr⟩, hb⟩
  exact ⟨A, n, c, l, bad, rfl, hW, hr, ha.trans (hb.mono (by omega))⟩
theorem uaft2 (r : Option (List ByteArray)) (v : Value) (s t : ByteArray) (B : Nat) (X : World) (h : RV X B r v) (hB : B <= X.heap.size) : Calls prog 25 #[v, .slice (some ⟨X.heap.size, 0, none⟩) 2 2] (X.alloc (.cells #[.string s, .string t] 9)) (AftE X B (qU ((r.bind (skO s)).bind (skO t)))) := by
 have ha : Below X.heap.size X (X.alloc (.cells #[.string s, .string t] 9)) := (Below.refl _ _).alloc (Nat.le_refl _) _
 have hz : (X.alloc (.cells #[.string s, .string t] 9)).heap.size = X.heap.size + 1 := by simp
 refine (qgE r v [s, t] (some ⟨X.heap.size, 0, none⟩) 2 2 B _ (h.below (ha.mono hB)) (by omega) rfl (by decide) ?_).mono ?_
 ·rw [hz]
  exact qe (xs := [.string s, .string t]) rfl rfl
 ·rintro e w' ⟨v', rfl, ⟨A, n, c, l, bad, rfl, hW, hr⟩, hb⟩
  exact ⟨A, n, c, l, bad, rfl, hW, hr, ha.trans (hb.mono (by omega))⟩
def SkpE (X : World) (B : Nat) (r : Option (List ByteArray)) (e : Ending) (w' : World) : Prop := ∃ A n c l bad, e = .returned (.agg #[.slice A n c, .bool bad]) /\ WdR w' B l A n c /\ r = zY bad l /\ Below X.heap.size X w'
theorem qdr (r : Option (List ByteArray)) (v : Value) (s : ByteArray) (B : Nat) (X : World) (h : RV X B r v) (hB : B <= X.heap.size) : Calls prog 26 #[v, .slice (some ⟨X.heap.size, 0, none⟩) 1 1] (X.alloc (.cells #[.string s] 9)) (SkpE X B (r.bind (skO s))) := by
 have ha : Below X.heap.size X (X.alloc (.cells #[.string s] 9)) := (Below.refl _ _).alloc (Nat.le_refl _) _
 have hz : (X.alloc (.cells #[.string s] 9)).heap.size = X.heap.size + 1 := by simp
 refine (uskip_ r v [s] (some ⟨X.heap.size, 0, none⟩) 1 1 B _ (h.below (ha.mono hB)) (by omega) rfl (by decide) ?_).mono ?_
 ·rw [hz]
  exact qe (xs := [.string s]) rfl rfl
 ·rintro e w' ⟨v', rfl, hv, hb⟩
  obtain ⟨A, n, c, l, bad, rfl, hW, hr⟩ := hv.below (hb.mono (by omega))
  exact ⟨A, n, c, l, bad, rfl, hW, hr, ha.trans (hb.mono (by omega))⟩
def AftC (w : World) (B : Nat) (c : Chg) (i : Nat) (x : Int × Option (List ByteArray)) (A' : Option Addr) (n' c' : Nat) (bad' : Bool) (e : Ending) (w1 : World) : Prop := ∃ A1 n1 cc bad v, e = .returned (.tuple #[.int .i64 x.1, .agg #[.slice A1 n1 cc, .bool bad]]) /\
 w1.cell? ⟨w.heap.size, 0, none⟩ = some (.slice A' n' c') /\ w1.cell? ⟨w.heap.size, 1, none⟩ = some (.bool bad') /\ w1.frozen? ⟨w.heap.size, 0, none⟩ = false /\ w1.frozen? ⟨w.heap.size, 1, none⟩ = false /\ w1.cell? ⟨w.heap.size + 3, i, none⟩ = some (.int .i64 v) /\ w1.frozen? ⟨w.heap.size + 3, i, none⟩ = false /\
 CS w B x.2 (c.put i x.1) none 0 (((w1.setCell ⟨w.heap.size + 3, i, none⟩ (.int .i64 x.1)).setCell ⟨w.heap.size, 0, none⟩ (.slice A1 n1 cc)).setCell ⟨w.heap.size, 1, none⟩ (.bool bad))
theorem AftC.of {w X w1 : World} {B : Nat} {r : Option (List ByteArray)} {c : Chg} {i : Nat} {x : Int × Option (List ByteArray)} {A' : Option Addr} {n' c' : Nat} {bad' : Bool} {e : Ending} (hX : CS w B r c none 0 X) (hB : B <= w.heap.size) (R1 : Blk X w.heap.size 41 #[.slice A' n' c', .bool bad']) (R4 : Blk X (w.heap.size + 3) 34 (vK c none 0)) (hi : i < 5) (h : AftE X B x e w1) : AftC w B c i x A' n' c' bad' e w1 := by
 obtain ⟨A1, n1, cc1, l1, qim, rfl, hW1, hr1, hb1⟩ := h
 have hY := hX.below hB hb1
 have h2 := qm (R1.below hb1 R1.lt)
 have K := R4.below hb1 R4.lt
 have h3 := qr K
 obtain ⟨v, hv⟩ : ∃ v, w1.cell? ⟨w.heap.size + 3, i, none⟩ = some (.int .i64 v) := by
  match i, hi with
  | 0, _ => exact ⟨_, h3.1⟩
  | 1, _ => exact ⟨_, h3.2.1⟩
  | 2, _ => exact ⟨_, h3.2.2.1⟩
  | 3, _ => exact ⟨_, h3.2.2.2.1⟩
  | 4, _ => exact ⟨_, h3.2.2.2.2.1⟩
 exact ⟨A1, n1, cc1, qim, v, rfl, h2.1, h2.2.1, h2.2.2.1, h2.2.2.2, hv, K.frozen i, (hY.set_ hB i x.1 hi).turn hB (hW1.below ((Below.refl B w1).setCell (p := ⟨w.heap.size + 3, i, none⟩) (by show B <= w.heap.size + 3; omega) (.int .i64 x.1))) hr1⟩
theorem CS.af_ {w X : World} {B : Nat} {r : Option (List ByteArray)} {c : Chg} (hX : CS w B r c none 0 X) (hB : B <= w.heap.size) (s : ByteArray) (i : Nat) (hi : i < 5) {x : Int × Option (List ByteArray)} (hx : Hid (x = qU (r.bind (skO s)))) :
  ∃ A' n' c' bad', X.cell? ⟨w.heap.size, 0, none⟩ = some (.slice A' n' c') /\ X.cell? ⟨w.heap.size, 1, none⟩ = some (.bool bad') /\ Calls prog 25 #[.agg #[.slice A' n' c', .bool bad'], .slice (some ⟨X.heap.size, 0, none⟩) 1 1] (X.alloc (.cells #[.string s] 9)) (AftC w B c i x A' n' c' bad') := by
 obtain ⟨A', n', c', l', bad', hr', hW, R1, R2, R3, R4, tx, hO⟩ := id hX
 have h1 := qm R1
 refine ⟨A', n', c', bad', h1.1, h1.2.1, (uaft1 r _ s B X ⟨A', n', c', l', bad', rfl, hW, hr'⟩ (Nat.le_trans hB tx.size)).mono ?_⟩
 rw [<- hx.out]
 exact fun e w1 h => AftC.of hX hB R1 R4 hi h
theorem CS.af2_ {w X : World} {B : Nat} {r : Option (List ByteArray)} {c : Chg} (hX : CS w B r c none 0 X) (hB : B <= w.heap.size) (s t : ByteArray) (i : Nat) (hi : i < 5) {x : Int × Option (List ByteArray)} (hx : Hid (x = qU ((r.bind (skO s)).bind (skO t)))) :
  ∃ A' n' c' bad', X.cell? ⟨w.heap.size, 0, none⟩ = some (.slice A' n' c') /\ X.cell? ⟨w.heap.size, 1, none⟩ = some (.bool bad') /\ Calls prog 25 #[.agg #[.slice A' n' c', .bool bad'], .slice (some ⟨X.heap.size, 0, none⟩) 2 2] (X.alloc (.cells #[.string s, .string t] 9)) (AftC w B c i x A' n' c' bad') := by
 obtain ⟨A', n', c', l', bad', hr', hW, R1, R2, R3, R4, tx, hO⟩ := id hX
 have h1 := qm R1
 refine ⟨A', n', c', bad', h1.1, h1.2.1, (uaft2 r _ s t B X ⟨A', n', c', l', bad', rfl, hW, hr'⟩ (Nat.le_trans hB tx.size)).mono ?_⟩
 rw [<- hx.out]
 exact fun e w1 h => AftC.of hX hB R1 R4 hi h
theorem CS.nx_ {w X : World} {B : Nat} {r : Option (List ByteArray)} {c : Chg} (hX : CS w B r c none 0 X) (hB : B <= w.heap.size) (s : ByteArray) :
  ∃ A' n' c' bad', X.cell? ⟨w.heap.size, 0, none⟩ = some (.slice A' n' c') /\ X.cell? ⟨w.heap.size, 1, none⟩ = some (.bool bad') /\ Calls prog 11 #[.agg #[.slice A' n' c', .bool bad'], .string s] X fun e w1 => e = .returned (.bool (qo r s)) /\ CS w B r c none 0 w1 := by
 obtain ⟨A', n', c', l', bad', hr', hW, R1, R2, R3, R4, tx, hO⟩ := id hX
 have h1 := qm R1
 refine ⟨A', n', c', bad', h1.1, h1.2.1, (yk r _ s B X ⟨A', n', c', l', bad', rfl, hW, hr'⟩ (Nat.le_trans hB tx.size)).mono ?_⟩
 rintro e w1 ⟨rfl, hb1⟩
 exact ⟨rfl, hX.below hB hb1⟩
def LenR (r : Option (List ByteArray)) : Prop := ∀ l, r = some l -> l.length <= 400000
theorem LenR.sk {r : Option (List ByteArray)} (h : LenR r) (s : ByteArray) : LenR (r.bind (skO s)) := by
 intro l hl
 cases r with
 | none => cases hl
 | some x =>
  cases x with
  | nil => cases hl
  | cons a t =>
   have := h _ rfl
   simp only [Option.bind_some, skO] at hl
   split at hl
   ·cases hl
    simp at this
    omega
   ·cases hl
theorem LenR.num {r : Option (List ByteArray)} (h : LenR r) : LenR (qU r).2 := by
 intro l hl
 cases r with
 | none => cases hl
 | some x =>
  have := h _ rfl
  unfold qU at hl
  simp only [Option.bind_some, jH] at hl
  cases hp : prefixL x with
  | none => rw [hp] at hl; cases hl
  | some y =>
   rw [hp] at hl
   cases hl
   rw [List.length_drop]
   omega
theorem jA (r : Option (List ByteArray)) : -999999999 <= (qU r).1 /\ (qU r).1 <= 999999999 := by
 cases r with
 | none => exact ⟨by decide, by decide⟩
 | some x =>
  unfold qU
  simp only [Option.bind_some, jH]
  cases hp : prefixL x with
  | none => exact (show (-999999999 : Int) <= 0 /\ (0 : Int) <= 999999999 by decide)
  | some y =>
   obtain ⟨n, k⟩ := y
   obtain ⟨_, _, _, hn, _⟩ := qT hp
   have := zu hn
   exact ⟨this.1, this.2.1⟩
def kW (r : Option (List ByteArray)) : List Gl × Option (List ByteArray) := match r.bind vX with
 | some (G, t) => (G, some t)
 | none => ([], none)
def delP (r : Option (List ByteArray)) : Int × Option (List ByteArray) := if qo r qW = true then ((qU (r.bind (skO qW))).1, if (qU (r.bind (skO qW))).1 < 1 then none else (qU (r.bind (skO qW))).2) else (0, r)
def j6 (r : Option (List ByteArray)) : List Gl × Option (List ByteArray) := if qo r qK = true then kW (r.bind (skO qK)) else ([], r)
def qaA (r : Option (List ByteArray)) : Chg × Option (List ByteArray) :=
 (⟨3, (qU (r.bind (skO qu))).1 - 1, (qU ((qU (r.bind (skO qu))).2.bind (skO qB))).1 - 1, (delP (qU ((qU (r.bind (skO qu))).2.bind (skO qB))).2).1, 0, (j6 (delP (qU ((qU (r.bind (skO qu))).2.bind (skO qB))).2).2).1⟩, (j6 (delP (qU ((qU (r.bind (skO qu))).2.bind (skO qB))).2).2).2)
theorem CS.start {w : World} {B : Nat} {A : Option Addr} {n c : Nat} {l : List ByteArray} (k : Int) (hW : WdR w B l A n c) (hB : B <= w.heap.size) :
  CS w B (some l) ⟨k, 0, 0, 0, 0, []⟩ none 0 ((((w.alloc (.cells #[.slice A n c, .bool false] 41)).alloc (.cells (vK ⟨0, 0, 0, 0, 0, []⟩ none 0) 34)).alloc (.cells #[.slice none 0 0, .bool false] 41)).alloc (.cells (vK ⟨k, 0, 0, 0, 0, []⟩ none 0) 34)) := by
 have tb : Below w.heap.size w ((((w.alloc (.cells #[.slice A n c, .bool false] 41)).alloc (.cells (vK ⟨0, 0, 0, 0, 0, []⟩ none 0) 34)).alloc (.cells #[.slice none 0 0, .bool false] 41)).alloc (.cells (vK ⟨k, 0, 0, 0, 0, []⟩ none 0) 34)) :=
  ((((Below.refl _ _).alloc (Nat.le_refl _) _).alloc (by simp) _).alloc (by simp; omega) _).alloc (by simp; omega) _
 exact ⟨A, n, c, l, false, rfl, hW.below (tb.mono hB), (((Blk.new w _ _).alloc _).alloc _).alloc _, ((Blk.new_ (by simp)).alloc _).alloc _, (Blk.new_ (by simp)).alloc _, Blk.new_ (by simp), tb, zh _ _ _ _⟩
theorem usplice_ (l : List ByteArray) (A : Option Addr) (n c : Nat) (w : World) (B : Nat) (hW : WdR w B l A n c) (hB : B <= w.heap.size) (hl : l.length <= 400000) (hs : Sp w) (hu : U8 w) (hy : Sty w) :
  Calls prog 27 #[.agg #[.slice A n c, .bool false]] w (CRet w B (qaA (some l)).1 (qaA (some l)).2) := by
 obtain ⟨R, hR⟩ : ∃ x, x = qaA (some l) := ⟨_, rfl⟩
 rw [<- hR]
 have HR := Lh hR
 have HL : Hid (LenR (some l)) := Lh fun _ e => by cases e; exact hl
 have HS : Hid (Sp w /\ U8 w /\ Sty w) := Lh ⟨hs, hu, hy⟩
 have hX := CS.start 3 hW hB
 clear hW hR hl hs hu hy
 go_enter func27, ntmps27
 go_upto_region 2 with fail
 refine qc (CS w B (some l) ⟨3, 0, 0, 0, 0, []⟩ none 0) hX ?_
 clear hX
 intro X hX
 obtain ⟨x, hx⟩ : ∃ x, Hid (x = qU ((some l).bind (skO qu))) := ⟨_, Lh rfl⟩
 obtain ⟨y, hy⟩ : ∃ y, Hid (y = qU (x.2.bind (skO qB))) := ⟨_, Lh rfl⟩
 obtain ⟨A', n', c', bad', c0, c1, HA0⟩ := CS.af_ hX hB qu 1 (by decide) hx
 have HA := Lh HA0
 clear HA0
 go_upto_region 3 with (go_at_call 25; refine HA.out.mono ?_; rintro e w1 ⟨A1, n1, cc1, qim, v1, rfl, d0, d1, f0, f1, k0, p0, hY⟩)
 refine qc (CS w B x.2 ⟨3, x.1, 0, 0, 0, []⟩ none 0) hY ?_
 clear hY hX HA c0 c1 d0 d1 f0 f1 k0 p0
 intro X hX
 obtain ⟨A', n', c', bad', c0, c1, HA0⟩ := CS.af_ hX hB qB 2 (by decide) hy
 have HA := Lh HA0
 clear HA0
 go_upto_region 4 with (go_at_call 25; refine HA.out.mono ?_; rintro e w1 ⟨A1, n1, cc1, qim, v1, rfl, d0, d1, f0, f1, k0, p0, hY⟩)
 refine qc (CS w B y.2 ⟨3, x.1, y.1, 0, 0, []⟩ none 0) hY ?_
 clear hY hX HA c0 c1 d0 d1 f0 f1 k0 p0
 intro X hX
 obtain ⟨z, hz⟩ : ∃ z, Hid (z = delP y.2) := ⟨_, Lh rfl⟩
 obtain ⟨g, hg⟩ : ∃ g, Hid (g = j6 z.2) := ⟨_, Lh rfl⟩
 have HR2 : Hid (R = (⟨3, x.1 - 1, y.1 - 1, z.1, 0, g.1⟩, g.2)) := Lh (by rw [HR.out, hg.out, hz.out, hy.out, hx.out]; rfl)
 have HLy : Hid (LenR y.2) := Lh (by rw [hy.out]; exact LenR.num (LenR.sk (by rw [hx.out]; exact LenR.num (LenR.sk HL.out _)) _))
 have hxr : -999999999 <= x.1 /\ x.1 <= 999999999 := by rw [hx.out]; exact jA _
 have hyr : -999999999 <= y.1 /\ y.1 <= 999999999 := by rw [hy.out]; exact jA _
 clear HR hx hy HL
 obtain ⟨xn, xr⟩ := x
 obtain ⟨yn, yr⟩ := y
 simp only at hxr hyr HR2 HLy hz
 obtain ⟨A', n', c', l', bad', hr', hW, R1, R2, R3, R4, tx, hO⟩ := id hX
 obtain ⟨c0, c1, f0, f1⟩ := qm R1
 obtain ⟨k0, k1, k2, k3, k4, k5, p0, p1, p2, p3, p4, p5⟩ := qr R4
 dsimp only at k0 k1 k2 k3 k4 k5
 have e1 : IntKind.i64.wrap (xn - 1) = xn - 1 := by rw [IntKind.wrap_i64]; omega
 have e2 : IntKind.i64.wrap (yn - 1) = yn - 1 := by rw [IntKind.wrap_i64]; omega
 go_upto_region 5 with fail
 refine qc (CS w B yr ⟨3, xn - 1, yn - 1, 0, 0, []⟩ none 0) ((hX.set_ hB 1 (xn - 1) (by decide)).set_ hB 2 (yn - 1) (by decide)) ?_
 clear hX
 clear c0 c1 f0 f1 k0 k1 k2 k3 k4 k5 p0 p1 p2 p3 p4 p5 hr' hW R1 R2 R3 R4 tx hO
 intro X hX
 generalize xn - 1 = Row at *
 generalize yn - 1 = Col at *
 obtain ⟨A', n', c', bad', c0, c1, HN0⟩ := CS.nx_ hX hB qW
 have HN := Lh HN0
 clear HN0
 obtain ⟨b, hb⟩ : ∃ b, Hid (b = qo yr qW) := ⟨_, Lh rfl⟩
 rw [<- hb.out] at HN
 go_upto_if 29 with (go_at_call 11; refine HN.out.mono ?_; rintro e w1 ⟨rfl, hY⟩)
 refine qc (CS w B yr ⟨3, Row, Col, 0, 0, []⟩ none 0) hY ?_
 clear hY hX HN c0 c1
 intro X hX
 go_cut [] (fun wx => CS w B z.2 ⟨3, Row, Col, z.1, 0, []⟩ none 0 wx)
 case first =>
  clear HR2 HLy hg
  cases b with
  | false =>
   have hz2 : Hid (z = (0, yr)) := Lh (by rw [hz.out]; show (if qo yr qW = true then _ else _) = _; rw [<- hb.out]; rfl)
   clear hz hb
   go_wp2
   go_meet
   rw [hz2.out]
   exact hX
  | true =>
   obtain ⟨u, hu⟩ : ∃ u, Hid (u = qU (yr.bind (skO qW))) := ⟨_, Lh rfl⟩
   have hz2 : Hid (z = (u.1, if u.1 < 1 then none else u.2)) := Lh (by rw [hz.out, hu.out]; show (if qo yr qW = true then _ else _) = _; rw [<- hb.out]; rfl)
   clear hz hb
   obtain ⟨A', n', c', bad', c0, c1, HA0⟩ := CS.af_ hX hB qW 3 (by decide) hu
   have HA := Lh HA0
   clear HA0
   go_upto_region 7 with (go_at_call 25; refine HA.out.mono ?_; rintro e w1 ⟨A1, n1, cc1, qim, v1, rfl, d0, d1, f0, f1, k0, p0, hY⟩)
   refine qc (CS w B u.2 ⟨3, Row, Col, u.1, 0, []⟩ none 0) hY ?_
   clear hY hX HA c0 c1 d0 d1 f0 f1 k0 p0
   intro X hX
   obtain ⟨A', n', c', l', bad', hr', hW, R1, R2, R3, R4, tx, hO⟩ := id hX
   obtain ⟨c0, c1, f0, f1⟩ := qm R1
   obtain ⟨k0, k1, k2, k3, k4, k5, p0, p1, p2, p3, p4, p5⟩ := qr R4
   dsimp only at k0 k1 k2 k3 k4 k5
   by_cases hlt : u.1 < 1
   ·go_wp2
    go_meet
    rw [hz2.out, if_pos hlt]
    exact hX.spoil hB
   ·go_wp2
    go_meet
    rw [hz2.out, if_neg (show ¬ u.1 < 1 by omega)]
    exact hX
 case rest =>
  clear hX
  have hX := hcut
  have HLz : Hid (LenR z.2) := Lh (by
   rw [hz.out]
   unfold delP
   split
   ·show LenR (if _ then none else _)
    split
    ·intro _ h; cases h
    ·exact LenR.num (LenR.sk HLy.out _)
   ·exact HLy.out)
  clear hcut hz hb HLy
  obtain ⟨Z, zr⟩ := z
  simp only at HLz HR2 hg
  generalize hXw : wc = X at *
  clear hXw
  obtain ⟨A', n', c', bad', c0, c1, HN0⟩ := CS.nx_ hX hB qK
  have HN := Lh HN0
  clear HN0
  obtain ⟨b2, hb2⟩ : ∃ b, Hid (b = qo zr qK) := ⟨_, Lh rfl⟩
  rw [<- hb2.out] at HN
  go_upto_if 42 with (go_at_call 11; refine HN.out.mono ?_; rintro e w1 ⟨rfl, hY⟩)
  refine qc (CS w B zr ⟨3, Row, Col, Z, 0, []⟩ none 0) hY ?_
  clear hY hX HN c0 c1
  intro X hX
  go_cut [] (fun wx => ∃ Ag cap, CS w B g.2 ⟨3, Row, Col, Z, 0, g.1⟩ Ag cap wx)
  case first =>
   clear HR2
   cases b2 with
   | false =>
    have hg2 : Hid (g = ([], zr)) := Lh (by rw [hg.out]; show (if qo zr qK = true then _ else _) = _; rw [<- hb2.out]; rfl)
    clear hg hb2
    go_wp2
    go_meet
    rw [hg2.out]
    exact ⟨_, _, hX⟩
   | true =>
    obtain ⟨u, hu⟩ : ∃ u, Hid (u = zr.bind (skO qK)) := ⟨_, Lh rfl⟩
    have hg2 : Hid (g = kW u) := Lh (by rw [hg.out, hu.out]; show (if qo zr qK = true then _ else _) = _; rw [<- hb2.out]; rfl)
    have HLu : LenR u := by rw [hu.out]; exact HLz.out.sk _
    clear hg hb2 HLz
    obtain ⟨A', n', c', l', bad', hr', hW, R1, R2, R3, R4, tx, hO⟩ := id hX
    obtain ⟨c0, c1, f0, f1⟩ := qm R1
    obtain ⟨k0, k1, k2, k3, k4, k5, p0, p1, p2, p3, p4, p5⟩ := qr R4
    dsimp only at k0 k1 k2 k3 k4 k5
    have HK := Lh (qdr zr _ qK B X ⟨A', n', c', l', bad', rfl, hW, hr'⟩ (Nat.le_trans hB tx.size))
    rw [<- hu.out] at HK
    have HT : Hid (∀ (v' : Value) (w' : World), RV w' B u v' -> Below w.heap.size w w' -> Calls prog 41 #[v'] w' (TRet w' B (u.bind vX))) := Lh fun v' w' hv hb => utext_ u v' B w' hv (Nat.le_trans hB hb.size) HLu (HS.out.1.below hb (Nat.le_refl _)) (HS.out.2.1.below hb) (HS.out.2.2.below hb (Nat.le_refl _))
    clear HLu hu HS
    go_wp2_with (first
     | (go_at_call 26; refine HK.out.mono ?_; rintro e w1 ⟨A1, n1, cc1, l1, qim, rfl, hW1, hr1, hb1⟩; have tx1 := tx.trans (hb1.mono (by have := hX.size; omega)))
     | (go_at_call 41; refine (HT.out _ _ ⟨A1, n1, cc1, l1, qim, rfl, hW1, hr1⟩ tx1).mono ?_; rintro e w2 ⟨A2, G, c2, v2, rfl, ho2, ⟨A3, n3, c3, l3, bad3, rfl, hW3, hr3⟩, hb3, hG⟩; have hb4 := hb1.trans (hb3.mono hb1.size); have hY := hX.below hB hb4; clear c0 c1 f0 f1 k0 k1 k2 k3 k4 k5 p0 p1 p2 p3 p4 p5 hr' hW R1 R2 R3 R4 tx hO; (obtain ⟨A', n', c', l', bad', hr', hW, R1, R2, R3, R4, tx, hO⟩ := id hY; obtain ⟨c0, c1, f0, f1⟩ := qm R1; obtain ⟨k0, k1, k2, k3, k4, k5, p0, p1, p2, p3, p4, p5⟩ := qr R4; dsimp only at k0 k1 k2 k3 k4 k5)))
    go_meet
    have hgg : g = (G, (u.bind vX).map (·.2)) := by
     rw [hg2.out, kW, <- hG]
     cases u.bind vX <;> rfl
    have hz1 := hX.size
    have hz2 := hb1.size
    have hXX := (hY.glyphs hB (qq ho2 (by omega))).turn hB (hW3.below ((Below.refl B w2).setCell (p := ⟨w.heap.size + 3, 5, none⟩) (by show B <= w.heap.size + 3; omega) (.slice A2 G.length c2))) hr3
    exact ⟨A2, c2, by rw [hgg]; exact hXX⟩
  case rest =>
   clear hX
   obtain ⟨Ag, cap, hX⟩ := hcut
   have HR3 : Hid (R.1 = ⟨3, Row, Col, Z, 0, g.1⟩ /\ R.2 = g.2) := Lh (by rw [HR2.out]; exact ⟨rfl, rfl⟩)
   clear HR2 hg hb2 HLz HS
   generalize hXw : wc = X at *
   clear hXw
   obtain ⟨G, gr⟩ := g
   go_upto_region 11 with fail
   obtain ⟨A', n', c', l', bad', hr', hW, R1, R2, R3, R4, tx, hO⟩ := id hX
   obtain ⟨c0, c1, f0, f1⟩ := qm R1
   obtain ⟨k0, k1, k2, k3, k4, k5, p0, p1, p2, p3, p4, p5⟩ := qr R4
   dsimp only at k0 k1 k2 k3 k4 k5
   obtain ⟨o0, o1, o2, o3, o4, o5, q0, q1, q2, q3, q4, q5⟩ := qr R2
   obtain ⟨m0, m1, v0, v1⟩ := qm R3
   dsimp only at o0 o1 o2 o3 o4 o5
   have HF := Lh (k6 hB hr' hW R2 R3 tx hO)
   go_region_law (fail)
   all_goals go_wp2
   all_goals rw [HR3.out.1, HR3.out.2]
   all_goals exact bodyPost_ret (qV rfl _ _ (w.heap.size + 1) (w.heap.size + 2) 34 41 _ _ (0, 0) (0, 0) _ _ rfl HF.out.1 underlying34 rfl zH rfl HF.out.2.1 underlying41 rfl zM) rfl ⟨_, _, _, rfl, HF.out.2.2.1, HF.out.2.2.2.1, HF.out.2.2.2.2⟩
end Go.Proofs.YtlndbiamiioakaaGreatDoor
