/- Joined texts: Laid, Ref1, LaidNum, LaidSig, LaidSpk, GlRow. -/
import Derived.Test.YtholajadbbdcmaaGreatDoorCards
import Derived.Test.YtholajadbbdcmaaGreatDoorTie
import Derived.Deep.DeepHandedRow
import Derived.SevenTiedAt
import Derived.Lay
import Derived.Deep.DeepWitnessRowRef
import Derived.Lib.LaidU8T
import Derived.LaidSub
import Derived.Deep.Slices
import Derived.Deep.FieldsWide
import Derived.Test.YtholajadbbdcmaaGreatDoorQAA
import Derived.Test.YtholajadbbdcmaaGreatDoorQAB
import Derived.Test.YtholajadbbdcmaaGreatDoorQAC
import Derived.Test.YtholajadbbdcmaaGreatDoorQAD
import Derived.Test.YtholajadbbdcmaaGreatDoorQAE
import Derived.Test.YtholajadbbdcmaaGreatDoorQAG
import Derived.Test.YtholajadbbdcmaaGreatDoorQAL
import Derived.Test.YtholajadbbdcmaaGreatDoorQAM
import Derived.Test.YtholajadbbdcmaaGreatDoorQAN
import Derived.Test.YtholajadbbdcmaaGreatDoorQAS
import Derived.Test.YtholajadbbdcmaaGreatDoorQAT
import Derived.Test.YtholajadbbdcmaaGreatDoorQBG
set_option linter.unusedVariables false
set_option linter.unusedSimpArgs false
set_option linter.unnecessarySimpa false
namespace Go.Proofs.YtholajadbbdcmaaGreatDoor
open Go.ChangeShapes Go.WideShapes Go.ChangeAt Go.RowKit
theorem laidVars_mem {P : Program} {w : World} : ∀ {l : List (String × DataW Unit)} {ps : List MemPlace}, DataW.LaidVars P w l ps → ∀ name d, (name, d) ∈ l →
  ∃ g t cs fuel p, P.globalNamed name = some g ∧ (P.globals[g]?).map (·.type) = some t ∧ w.var? P name = some cs ∧ DataW.trod (fun _ => ()) P w 0 (fun _ => true) false fuel t cs.toList = some (d, p) := by
 intro l
 induction l with
 | nil => intro ps _ name d h; cases h
 | cons x r ih =>
  intro ps h name d hm
  obtain ⟨n0, d0⟩ := x
  obtain ⟨g, t, cs, fuel, p, q, hg, ht, hvar, hd, hr, _⟩ := h
  rcases List.mem_cons.1 hm with e | hm
  ·injection e with e1 e2
   subst e1 e2
   exact ⟨g, t, cs, fuel, p, hg, ht, hvar, hd⟩
  ·exact ih hr name d hm
theorem laid_mem {P : Program} {w : World} {l : List (String × DataW Unit)} (h : laidMetH P l w) (hf : (l.filter fun x => x.2.handleName?.isSome) = []) (name : String) (d : DataW Unit) (hm : (name, d) ∈ l) :
  ∃ g t cs fuel p, P.globalNamed name = some g ∧ (P.globals[g]?).map (·.type) = some t ∧ w.var? P name = some cs ∧ DataW.trod (fun _ => ()) P w 0 (fun _ => true) false fuel t cs.toList = some (d, p) := by
 unfold laidMetH at h
 rw [hf] at h
 obtain ⟨ps, hv, _⟩ := h
 exact laidVars_mem hv name d hm
theorem cells_strs {P : Program} {w : World} {t e : TypeId} {n fuel : Nat} {cs : Array Value} {l : List (List UInt8)} {p : List MemPlace} (ht : P.underlying t = some (.array n e)) (he : P.underlying e = some .string) (hC : P.cellsOf e = 1)
  (h : DataW.trod (fun _ => ()) P w 0 (fun _ => true) false fuel t cs.toList = some (.agg (l.map fun s => .lit (.string s)), p)) : ∀ i (hi : i < l.length), cs[i]? = some (.string ⟨l[i].toArray⟩) := by
 intro i hi
 obtain ⟨xs, m, _, hx, hlen, hn, hat⟩ := DataW.trod_array ht h
 simp only [Prod.mk.injEq, DataW.agg.injEq] at hx
 obtain ⟨hx, _⟩ := hx
 have hxl : l.length = xs.length := by
  have := congrArg List.length hx
  simpa using this
 have hi' : i < xs.length := by omega
 have h1 := hat i (by omega)
 rw [hC, Nat.mul_one, List.getElem?_eq_getElem hi'] at h1
 obtain ⟨s, hs, hy, _⟩ := DataW.trod_string he h1
 have h2 : (xs.map fun x => x.1)[i]? = some xs[i].1 := by simp [hi']
 rw [← hx] at h2
 have h3 : xs[i].1 = .lit (.string l[i]) := by
  have : (l.map fun s => (DataW.lit (.string s) : DataW Unit))[i]? = some (.lit (.string l[i])) := by simp [hi]
  rw [this] at h2
  injection h2 with h2
  exact h2.symm
 rw [hy] at h3
 simp only [DataW.lit.injEq, Lit.string.injEq] at h3
 have h4 : cs.toList[i]? = some (.string s) := by
  have := congrArg (·[0]?) hs
  simp only [List.getElem?_take, List.getElem?_drop] at this
  simpa using this
 rw [Array.getElem?_toList] at h4
 rw [h4, ← h3]
end Go.Proofs.YtholajadbbdcmaaGreatDoor
namespace Go.Proofs.YtholajadbbdcmaaGreatDoor
open Go.RowKit
def Tb (w : World) : Prop :=
 (∀ i, i < 20 → w.cell? ⟨2, i, none⟩ = some (.string (wb i))) ∧ (∀ i, i < 8 → w.cell? ⟨3, i, none⟩ = some (.string (wb (20 + i))))
theorem cell_under {w w' : World} {B : Nat} {a : Addr} {v : Value} (h : w.cell? a = some v) (hb : Below B w w') (hB : w.heap.size ≤ B) : w'.cell? a = some v := by
 have hl : a.block < w.heap.size := by
  rcases Nat.lt_or_ge a.block w.heap.size with hl | hl
  ·exact hl
  ·unfold World.cell? at h
   rw [Array.getElem?_eq_none hl] at h
   cases h
 exact (hb.cell (by omega)).trans h
theorem Tb.below {w w' : World} (h : Tb w) (hb : Below w.heap.size w w') : Tb w' :=
 ⟨fun i hi => cell_under (h.1 i hi) hb (Nat.le_refl _), fun i hi => cell_under (h.2 i hi) hb (Nat.le_refl _)⟩
theorem Tb.drewN {w : World} (h : Tb w) (n : Nat) : Tb (w.drewN n) := h
def rsmallL (m : Nat) : List Nat := if m = 0 then [0] else smallL m
theorem rs1 : ∀ m : Fin 20, rsmallL m.val = [m.val] := by decide +kernel
theorem rs2 : ∀ m : Fin 100, 20 ≤ m.val → m.val % 10 = 0 → rsmallL m.val = [18 + m.val / 10] := by decide +kernel
theorem rs3 : ∀ m : Fin 100, 20 ≤ m.val → m.val % 10 ≠ 0 → rsmallL m.val = [18 + m.val / 10, m.val % 10] := by decide +kernel
theorem rs4 : ∀ m : Fin 1000, 100 ≤ m.val → rsmallL m.val = [m.val / 100, 28] ++ (if m.val % 100 = 0 then [] else rsmallL (m.val % 100)) := by decide +kernel
end Go.Proofs.YtholajadbbdcmaaGreatDoor
namespace Go.Proofs.YtholajadbbdcmaaGreatDoor
open Go.ChangeShapes Go.WideShapes Go.ChangeAt Go.RowKit
def wordsData (a n : Nat) : List (List UInt8) := (List.range n).map fun i => (wb (a + i)).data.toList
theorem units_data {H : Type} : (Rows.laid_narrator_narratorref38_units : DataW H) = .agg ((wordsData 0 20).map fun s => .lit (.string s)) := rfl
theorem tens_data {H : Type} : (Rows.laid_narrator_narratorref38_tens : DataW H) = .agg ((wordsData 20 8).map fun s => .lit (.string s)) := rfl
theorem wordsData_at (a n i : Nat) (h : i < (wordsData a n).length) : Value.string ⟨(wordsData a n)[i].toArray⟩ = .string (wb (a + i)) := by
 simp [wordsData]
theorem gUnits : Tryz.prog.globalNamed "narrator/narratorref38.units" = some 2 := by kernel_rfl
theorem gUnitsT : (Tryz.prog.globals[2]?).map (·.type) = some 197 := by kernel_rfl
theorem gTens : Tryz.prog.globalNamed "narrator/narratorref38.tens" = some 3 := by kernel_rfl
theorem gTensT : (Tryz.prog.globals[3]?).map (·.type) = some 198 := by kernel_rfl
theorem tb_of {w : World} {l : List (String × DataW Unit)} (h : laidMetH Tryz.prog l w) (hf : (l.filter fun x => x.2.handleName?.isSome) = [])
  (h1 : ("narrator/narratorref38.units", Rows.laid_narrator_narratorref38_units) ∈ l) (h2 : ("narrator/narratorref38.tens", Rows.laid_narrator_narratorref38_tens) ∈ l) : Tb w := by
 constructor
 ·intro i hi
  obtain ⟨g, t, cs, fuel, p, hg, ht, hvar, hd⟩ := laid_mem h hf _ _ h1
  obtain rfl := Option.some.inj (gUnits.symm.trans hg)
  obtain rfl := Option.some.inj (gUnitsT.symm.trans ht)
  rw [World.var?_cell hg hvar, cells_strs Tryz.underlying197 Tryz.underlying9 (by kernel_rfl) (by rw [units_data] at hd; exact hd) i (by simp [wordsData]; omega), wordsData_at, Nat.zero_add]
 ·intro i hi
  obtain ⟨g, t, cs, fuel, p, hg, ht, hvar, hd⟩ := laid_mem h hf _ _ h2
  obtain rfl := Option.some.inj (gTens.symm.trans hg)
  obtain rfl := Option.some.inj (gTensT.symm.trans ht)
  rw [World.var?_cell hg hvar, cells_strs Tryz.underlying198 Tryz.underlying9 (by kernel_rfl) (by rw [tens_data] at hd; exact hd) i (by simp [wordsData]; omega), wordsData_at]
theorem gSpaceT : (Tryz.prog.globals[0]?).map (·.type) = some 90 := by kernel_rfl
theorem space_data {H : Type} : (Rows.laid_strings_asciiSpace : DataW H) = Lib.tabData .u8 Lib.asciiSpaceTab := by kernel_rfl
theorem sp_of {w : World} {l : List (String × DataW Unit)} (h : laidMetH Tryz.prog l w) (hf : (l.filter fun x => x.2.handleName?.isSome) = [])
  (h1 : ("strings.asciiSpace", Rows.laid_strings_asciiSpace) ∈ l) : Sp w := by
 obtain ⟨g, t, cs, fuel, p, hg, ht, hvar, hd⟩ := laid_mem h hf _ _ h1
 obtain rfl := Option.some.inj (gSpace.symm.trans hg)
 obtain rfl := Option.some.inj (gSpaceT.symm.trans ht)
 rw [space_data] at hd
 unfold Sp Lib.TabIs
 rw [hvar, ← Lib.cells_of_tab Tryz.underlying90 Tryz.underlying5 (by kernel_rfl) (by kernel_rfl) hd]
theorem sty_data {H : Type} : (Rows.laid_narrator_spokentext_styles : DataW H) = .agg (((List.range 4).map fun i => (styB i).data.toList).map fun s => .lit (.string s)) := rfl
theorem gStyles : Tryz.prog.globalNamed "narrator/spokentext.styles" = some 6 := by kernel_rfl
theorem gStylesT : (Tryz.prog.globals[6]?).map (·.type) = some 237 := by kernel_rfl
theorem sty_of {w : World} {l : List (String × DataW Unit)} (h : laidMetH Tryz.prog l w) (hf : (l.filter fun x => x.2.handleName?.isSome) = [])
  (h1 : ("narrator/spokentext.styles", Rows.laid_narrator_spokentext_styles) ∈ l) : Sty w := by
 intro i hi
 obtain ⟨g, t, cs, fuel, p, hg, ht, hvar, hd⟩ := laid_mem h hf _ _ h1
 obtain rfl := Option.some.inj (gStyles.symm.trans hg)
 obtain rfl := Option.some.inj (gStylesT.symm.trans ht)
 rw [World.var?_cell hg hvar, cells_strs Tryz.underlying237 Tryz.underlying9 (by kernel_rfl) (by rw [sty_data] at hd; exact hd) i (by simp; omega)]
 simp
set_option maxRecDepth 100000 in
theorem u8_of {w : World} {l : List (String × DataW Unit)} (h : laidMetH Tryz.prog l w) (hf : (l.filter fun x => x.2.handleName?.isSome) = [])
  (h1 : ("unicode/utf8.first", Rows.laid_unicode_utf8_first) ∈ l) (h2 : ("unicode/utf8.acceptRanges", Rows.laid_unicode_utf8_acceptRanges) ∈ l) : U8 w :=
 utf8Tabs_of_readsT (U8Types.of196 Tryz.laysValid) ⟨by kernel_rfl, by kernel_rfl, by kernel_rfl, by kernel_rfl, by kernel_rfl, by kernel_rfl, by kernel_rfl⟩ (laid_mem h hf _ _ h1) (laid_mem h hf _ _ h2)
theorem gd_of {w : World} {l : List (String × DataW Unit)} (h : laidMetH Tryz.prog l w) (hf : (l.filter fun x => x.2.handleName?.isSome) = [])
  (h1 : ("strings.asciiSpace", Rows.laid_strings_asciiSpace) ∈ l) (h2 : ("narrator/spokentext.styles", Rows.laid_narrator_spokentext_styles) ∈ l) (h3 : ("unicode/utf8.first", Rows.laid_unicode_utf8_first) ∈ l) (h4 : ("unicode/utf8.acceptRanges", Rows.laid_unicode_utf8_acceptRanges) ∈ l) : Gd w :=
 ⟨sp_of h hf h1, u8_of h hf h3 h4, sty_of h hf h2⟩
end Go.Proofs.YtholajadbbdcmaaGreatDoor
namespace Go.Proofs.YtholajadbbdcmaaGreatDoor
open Go.ChangeShapes Go.WideShapes Go.ChangeAt Go.RowKit Go.Deep
theorem open_gls {H : Type} {enc : TypeId × Value → H} {P : Program} {w : World} {t e : TypeId} {f0 f1 f2 : Field} {A : Option Addr} {len cap : Nat} {d : DataW H} {p : List MemPlace}
  (ht : P.underlying t = some (.slice e)) (he : P.underlying e = some (.struct #[f0, f1, f2])) (ce : P.cellsOf e = 3)
  (ho : [f0.offset, f1.offset, f2.offset] = [0, 1, 2])
  (ht0 : P.underlying f0.type = some .string ∧ P.cellsOf f0.type = 1) (ht1 : P.underlying f1.type = some .bool ∧ P.cellsOf f1.type = 1) (ht2 : P.underlying f2.type = some (.int .i64) ∧ P.cellsOf f2.type = 1)
  (h : DataW.Trod enc P w 0 (fun _ => true) true t (.slice A len cap) d p) :
  ∃ l : List Gl, l.length = len ∧ len ≤ cap ∧ cap ≤ maxLen ∧ Rd w w.heap.size 3 A len (encGs l) ∧ ∀ g ∈ l, g.text.size ≤ maxLen ∧ (Lit.int .i64 g.style).wf = true := by
 obtain ⟨fuel, hf⟩ := h
 simp only [List.cons.injEq, and_true] at ho
 obtain ⟨o0, o1, o2⟩ := ho
 rcases open_slice ht hf with ⟨hcs, _⟩ | ⟨a, len', cap', m, n, D, Pl, hcs', _, hl, hm, hmm, _, hx⟩
 ·simp [Value.cells] at hcs
  obtain ⟨rfl, rfl, rfl⟩ := hcs
  exact ⟨[], rfl, Nat.le_refl _, by unfold maxLen; omega, Rd.none_, fun s hs => by cases hs⟩
 ·simp [Value.cells] at hcs'
  obtain ⟨rfl, rfl, rfl⟩ := hcs'
  simp only [if_true] at hmm
  have each : ∀ i, i < m → ∃ r : Gl, (∀ j u, (encG r)[j]? = some u → w.cell? (a.add (i * 3 + j)) = some u) ∧ r.text.size ≤ maxLen ∧ (Lit.int .i64 r.style).wf = true := by
   intro i hi
   obtain ⟨cs', h1, h2⟩ := hx i hi
   rw [ce] at h1
   obtain ⟨_, hlen, hcell⟩ := World.cells?_some h1
   obtain ⟨xs, k, hk, hxy, _, hxl, hfl⟩ := DataW.trod_struct he h2
   match cs', hlen with
   | [v0, v1, v2], _ =>
    match xs, hxl with
    | [y0, y1, y2], _ =>
     have g0 := hfl 0 f0 rfl
     have g1 := hfl 1 f1 rfl
     have g2 := hfl 2 f2 rfl
     rw [o0, ht0.2] at g0
     rw [o1, ht1.2] at g1
     rw [o2, ht2.2] at g2
     obtain ⟨s, e0, _, hz⟩ := DataW.trod_string ht0.1 g0
     obtain ⟨b, e1, _⟩ := DataW.trod_bool ht1.1 g1
     obtain ⟨n2, e2, _, hw⟩ := DataW.trod_int ht2.1 g2
     simp at e0 e1 e2
     subst e0 e1 e2
     refine ⟨⟨s, b, n2⟩, fun j u hu => ?_, hz, hw⟩
     have hj : j < 3 := by
      have := (List.getElem?_eq_some_iff.1 hu).1
      rwa [encG_len] at this
     have hcj := hcell j hj
     rw [add_of_add] at hcj
     rw [hcj]
     exact hu
  obtain ⟨q, hq⟩ := choose_lt each
  refine ⟨(List.range len).map q, by simp, hl, hm, ⟨by rw [encGs_len]; simp, fun hn => ?_⟩, fun r hr => ?_⟩
  ·obtain ⟨b, o, spot⟩ := a
   have h0 := (hq 0 (by omega)).1 0 _ rfl
   have hspot : spot = none := by simpa [Addr.add] using World.cell?_spot h0
   subst hspot
   refine ⟨b, o, rfl, by simpa [Addr.add] using cell_lt h0, fun j u hu => ?_⟩
   have hj : j < len * 3 := by
    have := (List.getElem?_eq_some_iff.1 hu).1
    rw [encGs_len] at this
    simpa using this
   have e : j = j / 3 * 3 + j % 3 := by omega
   rw [e, encGs_get _ _ _ (by omega)] at hu
   rw [List.getElem?_map, List.getElem?_range (show j / 3 < len by omega)] at hu
   have h1 := (hq (j / 3) (by omega)).1 (j % 3) u (by simpa using hu)
   rw [add_none] at h1
   rw [e]
   exact h1
  ·obtain ⟨i, hi, rfl⟩ := List.mem_map.1 hr
   exact (hq i (by have := List.mem_range.1 hi; omega)).2
end Go.Proofs.YtholajadbbdcmaaGreatDoor
