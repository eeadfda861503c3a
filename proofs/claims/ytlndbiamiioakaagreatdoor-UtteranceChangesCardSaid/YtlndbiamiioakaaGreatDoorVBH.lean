/- Joined: Laid, Ref1, LaidNum, LaidSig, LaidSpk. -/
import Derived.Test.YtlndbiamiioakaaGreatDoorCards
import Derived.Test.YtlndbiamiioakaaGreatDoorTie
import Derived.Deep.DeepHandedRow
import Derived.SevenTiedAt
import Derived.Lay
import Derived.Deep.DeepWitnessRowRef
import Derived.Lib.LaidU8T
import Derived.LaidSub
import Derived.Test.YtlndbiamiioakaaGreatDoorVBG
set_option linter.unusedVariables false
set_option linter.unusedSimpArgs false
set_option linter.unnecessarySimpa false
set_option maxHeartbeats 1000000
namespace Go.Proofs.YtlndbiamiioakaaGreatDoor
open Go.ChangeShapes Go.WideShapes Go.ChangeAt Go.RowKit
theorem qdZ {P : Program} {w : World} : ∀ {l : List (String × DataW Unit)} {ps : List MemPlace}, DataW.LaidVars P w l ps -> ∀ name d, (name, d) ∈ l ->
  ∃ g t cs fuel p, P.globalNamed name = some g /\ (P.globals[g]?).map (·.type) = some t /\ w.var? P name = some cs /\ DataW.trod (fun _ => ()) P w 0 (fun _ => true) false fuel t cs.toList = some (d, p) := by
 intro l
 induction l with
 | nil => intro ps _ name d h; cases h
 | cons x r ih =>
  intro ps h name d hm
  obtain ⟨n0, d0⟩ := x
  obtain ⟨g, t, cs, fuel, p, q, hg, ht, hvar, hd, hr, _⟩ := h
  rcases List.mem_cons.1 hm with e | hm
  ·injection e with e1 e2
   subst e1 e2
   exact ⟨g, t, cs, fuel, p, hg, ht, hvar, hd⟩
  ·exact ih hr name d hm
theorem kd {P : Program} {w : World} {l : List (String × DataW Unit)} (h : laidMetH P l w) (hf : (l.filter fun x => x.2.handleName?.isSome) = []) (name : String) (d : DataW Unit) (hm : (name, d) ∈ l) :
  ∃ g t cs fuel p, P.globalNamed name = some g /\ (P.globals[g]?).map (·.type) = some t /\ w.var? P name = some cs /\ DataW.trod (fun _ => ()) P w 0 (fun _ => true) false fuel t cs.toList = some (d, p) := by
 unfold laidMetH at h
 rw [hf] at h
 obtain ⟨ps, hv, _⟩ := h
 exact qdZ hv name d hm
theorem qat {P : Program} {w : World} {t e : TypeId} {n fuel : Nat} {cs : Array Value} {l : List (List UInt8)} {p : List MemPlace} (ht : P.underlying t = some (.array n e)) (he : P.underlying e = some .string) (hC : P.cellsOf e = 1)
  (h : DataW.trod (fun _ => ()) P w 0 (fun _ => true) false fuel t cs.toList = some (.agg (l.map fun s => .lit (.string s)), p)) : ∀ i (hi : i < l.length), cs[i]? = some (.string ⟨l[i].toArray⟩) := by
 intro i hi
 obtain ⟨xs, m, _, hx, hlen, hn, hat⟩ := DataW.trod_array ht h
 simp only [Prod.mk.injEq, DataW.agg.injEq] at hx
 obtain ⟨hx, _⟩ := hx
 have hxl : l.length = xs.length := by
  have := congrArg List.length hx
  simpa using this
 have hi' : i < xs.length := by omega
 have h1 := hat i (by omega)
 rw [hC, Nat.mul_one, List.getElem?_eq_getElem hi'] at h1
 obtain ⟨s, hs, hy, _⟩ := DataW.trod_string he h1
 have h2 : (xs.map fun x => x.1)[i]? = some xs[i].1 := by simp [hi']
 rw [<- hx] at h2
 have h3 : xs[i].1 = .lit (.string l[i]) := by
  have : (l.map fun s => (DataW.lit (.string s) : DataW Unit))[i]? = some (.lit (.string l[i])) := by simp [hi]
  rw [this] at h2
  injection h2 with h2
  exact h2.symm
 rw [hy] at h3
 simp only [DataW.lit.injEq, Lit.string.injEq] at h3
 have h4 : cs.toList[i]? = some (.string s) := by
  have := congrArg (·[0]?) hs
  simp only [List.getElem?_take, List.getElem?_drop] at this
  simpa using this
 rw [Array.getElem?_toList] at h4
 rw [h4, <- h3]
end Go.Proofs.YtlndbiamiioakaaGreatDoor
namespace Go.Proofs.YtlndbiamiioakaaGreatDoor
open Go.Proofs.Tryz Go.RowKit
def Tb (w : World) : Prop :=
 (∀ i, i < 20 -> w.cell? ⟨1, i, none⟩ = some (.string (wb i))) /\ (∀ i, i < 8 -> w.cell? ⟨2, i, none⟩ = some (.string (wb (20 + i))))
theorem qcj {w w' : World} {B : Nat} {a : Addr} {v : Value} (h : w.cell? a = some v) (hb : Below B w w') (hB : w.heap.size <= B) : w'.cell? a = some v := by
 have hl : a.block < w.heap.size := by
  rcases Nat.lt_or_ge a.block w.heap.size with hl | hl
  ·exact hl
  ·unfold World.cell? at h
   rw [Array.getElem?_eq_none hl] at h
   cases h
 exact (hb.cell (by omega)).trans h
theorem Tb.below {w w' : World} (h : Tb w) (hb : Below w.heap.size w w') : Tb w' :=
 ⟨fun i hi => qcj (h.1 i hi) hb (Nat.le_refl _), fun i hi => qcj (h.2 i hi) hb (Nat.le_refl _)⟩
theorem Tb.drewN {w : World} (h : Tb w) (n : Nat) : Tb (w.drewN n) := h
def qP (m : Nat) : List Nat := if m = 0 then [0] else zp m
theorem rs1 : ∀ m : Fin 20, qP m.val = [m.val] := by decide +kernel
theorem rs2 : ∀ m : Fin 100, 20 <= m.val -> m.val % 10 = 0 -> qP m.val = [18 + m.val / 10] := by decide +kernel
theorem rs3 : ∀ m : Fin 100, 20 <= m.val -> m.val % 10 ≠ 0 -> qP m.val = [18 + m.val / 10, m.val % 10] := by decide +kernel
theorem rs4 : ∀ m : Fin 1000, 100 <= m.val -> qP m.val = [m.val / 100, 28] ++ (if m.val % 100 = 0 then [] else qP (m.val % 100)) := by decide +kernel
theorem qc6 (m : Nat) (hm : m < 100) (w : World) (ht : Tb w) :
  Calls prog 118 #[.int .i64 m] w (ql 9 1 id w (qP m).length (wv (qP m))) := by
 by_cases c1 : m < 20
 ·have hc := ht.1 m c1
  have HL := Lh (rs1 ⟨m, c1⟩)
  simp only at HL
  clear ht
  go_enter func118, ntmps118
  go_wp2
  go_ret
  rw [HL.out]
  exact ⟨_, _, rfl, qR (xs := [_]) rfl rfl (Nat.le_refl _) (by first | omega | (simp only [List.length_cons, List.length_nil]; omega)), (Below.refl _ _).alloc (Nat.le_refl _) _⟩
 have hc2 := ht.2 (m / 10 - 2) (by omega)
 rw [show 20 + (m / 10 - 2) = 18 + m / 10 from by omega] at hc2
 by_cases c2 : m % 10 = 0
 ·have HL := Lh (rs2 ⟨m, hm⟩ (by simp; omega) c2)
  simp only at HL
  have c2' : ((m : Int) % 10 == 0) = true := by rw [beq_iff_eq]; omega
  clear ht c2
  have c1' : (20 : Int) <= (m : Int) := by omega
  go_enter func118, ntmps118
  go_wp2
  go_ret
  rw [HL.out]
  exact ⟨_, _, rfl, qR (xs := [_]) rfl rfl (Nat.le_refl _) (by first | omega | (simp only [List.length_cons, List.length_nil]; omega)), (Below.refl _ _).alloc (Nat.le_refl _) _⟩
 ·have HL := Lh (rs3 ⟨m, hm⟩ (by simp; omega) c2)
  simp only at HL
  have hc1 := ht.1 (m % 10) (by omega)
  have c2' : ((m : Int) % 10 == 0) = false := by rw [beq_eq_false_iff_ne]; omega
  clear ht c2
  have b1 : (0 : Int) <= (m : Int) % 10 := by omega
  have b2 : (m : Int) % 10 < 20 := by omega
  have b3 : (0 : Int) <= (m : Int) / 10 - 2 := by omega
  have b4 : (m : Int) / 10 - 2 < 8 := by omega
  have n1 := World.new_ne w _ hc1
  have n2 := World.new_ne w _ hc2
  go_enter func118, ntmps118
  go_wp2
  have r1 : (m : Int).tdiv 10 = m / 10 := Int.tdiv_eq_ediv_of_nonneg (by omega)
  have r2 : (m : Int).tmod 10 = m % 10 := Int.tmod_eq_emod_of_nonneg (by omega)
  have r3 : IntKind.i64.wrap ((m : Int) / 10) = m / 10 := IntWalk.i64_in _ (by omega)
  have r4 : IntKind.i64.wrap ((m : Int) / 10 - 2) = m / 10 - 2 := IntWalk.i64_in _ (by omega)
  have r5 : IntKind.i64.wrap ((m : Int) % 10) = m % 10 := IntWalk.i64_in _ (by omega)
  have r6 : ((m : Int) / 10 - 2).toNat = m / 10 - 2 := by omega
  have b5 : (2 : Int) <= (m : Int) / 10 := by omega
  have b6 : (m : Int) / 10 < 10 := by omega
  have b7 : (m : Int) / 10 < 8 + 2 := by omega
  have r7 : ((m : Int) % 10).toNat = m % 10 := by omega
  go_region_held3 (fun w' => w'.cell? ⟨2, m / 10 - 2, none⟩ = some (.string (wb (18 + m / 10))) /\ w'.cell? ⟨1, m % 10, none⟩ = some (.string (wb (m % 10)))) (go_keep) (first | fail)
  clear r1 r2 r3 r4 r5 r6 r7 b7
  go_wp2
  go_ret
  rw [HL.out]
  exact ⟨_, _, rfl, qR (xs := [_, _]) rfl rfl (Nat.le_refl _) (by first | omega | (simp only [List.length_cons, List.length_nil]; omega)), by (repeat (first | exact Below.refl _ _ | assumption | refine Below.drew ?_ | refine Below.alloc ?_ (by first | (simp; done) | (simp; omega) | omega) _ | refine Below.setCell ?_ (by first | (simp; done) | (simp; omega) | omega) _))⟩
theorem qfi (m : Nat) (hm : m < 1000) (w : World) (ht : Tb w) :
  Calls prog 118 #[.int .i64 m] w (ql 9 1 id w (qP m).length (wv (qP m))) := by
 by_cases c0 : m < 100
 ·exact qc6 m c0 w ht
 have c1 : 100 <= m := by omega
 have hc := ht.1 (m / 100) (by omega)
 have HL := Lh (rs4 ⟨m, hm⟩ c1)
 simp only at HL
 have HR : Hid (∀ w, Tb w -> Calls prog 118 #[.int .i64 ((m : Int) % 100)] w (ql 9 1 id w (qP (m % 100)).length (wv (qP (m % 100))))) := Lh fun w ht => by
  have := qc6 (m % 100) (by omega) w ht
  rwa [Int.natCast_emod] at this
 have HT := Lh ht
 have c2 : (20 : Int) <= (m : Int) := by omega
 by_cases c3 : m % 100 = 0
 ·have c3' : ((m : Int) % 100 != 0) = false := by rw [bne_eq_false_iff_eq]; omega
  have HL2 : Hid (qP m = [m / 100, 28]) := Lh (by rw [HL.out, if_pos c3]; rfl)
  clear ht c3 c0
  go_enter func118, ntmps118
  go_wp2_with fail
  go_ret
  rw [HL2.out]
  exact ⟨_, _, rfl, qR (xs := [_, _]) rfl rfl (Nat.le_refl _) (by first | omega | (simp only [List.length_cons, List.length_nil]; omega)), by (repeat (first | exact Below.refl _ _ | assumption | refine Below.drew ?_ | refine Below.alloc ?_ (by first | (simp; done) | (simp; omega) | omega) _ | refine Below.setCell ?_ (by first | (simp; done) | (simp; omega) | omega) _))⟩
 ·have c3' : ((m : Int) % 100 != 0) = true := by rw [bne_iff_ne]; omega
  have HL2 : Hid (qP m = [m / 100, 28] ++ qP (m % 100)) := Lh (by rw [HL.out, if_neg c3])
  have hle : (qP (m % 100)).length <= 4 := by
   unfold qP
   split
   ·simp
   ·exact yz _
  generalize qP (m % 100) = L at *
  clear ht c3 c0
  go_enter func118, ntmps118
  go_wp2_with (first
   | (go_at_call 118; refine (HR.out _ (HT.out.below (by exact (Below.refl _ _).alloc (Nat.le_refl _) _))).mono ?_; rintro e w1 ⟨A1, c1, rfl, hown1, qh7⟩; have z1 := qh7.size; simp only [World.size_alloc] at z1; have hown0 : w1.ownsRow w.heap.size 9 1 (.slice (some ⟨w.heap.size, 0, none⟩) 2 2) 2 [.string (wb (m / 100)), .string (wb 28)] := qa (qR (by rfl) rfl (Nat.le_refl _) (by omega)) qh7)
   | (at_builtin; refine qh rfl _ _ _ rfl qx (w.heap.size) _ rfl (hown0) _ _ rfl (Rd.of_own hown1) (by first | rfl | exact qN _ | exact qO _) (by omega) (by omega) (by first | (simp; done) | (simp; omega) | omega) ?_; intro A2 c2 w2 hown2 qh8 hgr2 hat2; have z2 := qh8.size; (try simp only [World.size_alloc] at z2); (try simp only [Nat.zero_add, List.nil_append] at hown2)))
  go_ret
  rw [HL2.out]
  have e : ([m / 100, 28] ++ L).length = 2 + L.length := by simp; omega
  refine ⟨A2, c2, by rw [e]; rfl, ?_, (((Below.refl _ _).alloc (Nat.le_refl _) _).trans (qh7.mono (by simp))).trans (qh8.mono (by omega))⟩
  rw [e]
  simpa [wv] using hown2
def zA (n : Nat) : List Nat := if n = 0 then [0] else posL n
theorem qcn (n : Nat) (h : n < 1000) : zA n = qP n := by
 unfold zA qP
 by_cases h0 : n = 0
 ·rw [if_pos h0, if_pos h0]
 ·rw [if_neg h0, if_neg h0, j9]
  have a : n / 1000000 = 0 := by omega
  have b : n % 1000000 / 1000 = 0 := by omega
  have c : n % 1000000 % 1000 = n := by omega
  rw [a, b, c]
  simp [jM, y6, show 0 < n by omega]
theorem qcI (n : Nat) (h1 : 1000 <= n) (h2 : n < 1000000) : zA n = qP (n / 1000) ++ [29] ++ (if n % 1000 = 0 then [] else zA (n % 1000)) := by
 have e : (if n % 1000 = 0 then [] else zA (n % 1000)) = y6 (n % 1000) := by
  by_cases h0 : n % 1000 = 0
  ·rw [if_pos h0, h0]; rfl
  ·rw [if_neg h0, qcn _ (by omega), qP, if_neg h0, y6, if_pos (by omega)]
 rw [e, zA, if_neg (by omega), j9, qP, if_neg (by omega)]
 have a : n / 1000000 = 0 := by omega
 have b : n % 1000000 / 1000 = n / 1000 := by omega
 have c : n % 1000000 % 1000 = n % 1000 := by omega
 rw [a, b, c]
 simp [jM, show 0 < n / 1000 by omega]
theorem qdJ (n : Nat) (h1 : 1000000 <= n) (h2 : n < 1000000000) : zA n = qP (n / 1000000) ++ [30] ++ (if n % 1000000 = 0 then [] else zA (n % 1000000)) := by
 have e : (if n % 1000000 = 0 then [] else zA (n % 1000000)) = jM (n % 1000000 / 1000) 29 ++ y6 (n % 1000000 % 1000) := by
  by_cases h0 : n % 1000000 = 0
  ·rw [if_pos h0, h0]; rfl
  ·have a : n % 1000000 / 1000000 = 0 := by omega
   have b : n % 1000000 % 1000000 = n % 1000000 := by omega
   rw [if_neg h0, zA, if_neg h0, j9, a, b]
   simp [jM]
 rw [e, zA, if_neg (by omega), j9, qP, if_neg (by omega), jM, if_pos (by omega)]
 simp
theorem qbT (n : Nat) : (zA n).length <= 14 := by
 unfold zA
 split
 ·simp
 ·rw [j9]
  have a := qam (n / 1000000) 30
  have b := qam (n % 1000000 / 1000) 29
  have c : (y6 (n % 1000000 % 1000)).length <= 4 := by
   unfold y6
   split
   ·exact yz _
   ·simp
  simp only [List.length_append]
  omega
theorem qci (n : Nat) : (qP n).length <= 4 := by
 unfold qP
 split
 ·simp
 ·exact yz _
end Go.Proofs.YtlndbiamiioakaaGreatDoor
namespace Go.Proofs.YtlndbiamiioakaaGreatDoor
open Go.ChangeShapes Go.WideShapes Go.ChangeAt Go.RowKit
def jU (a n : Nat) : List (List UInt8) := (List.range n).map fun i => (wb (a + i)).data.toList
theorem qfC {H : Type} : (Rows.laid_narrator_narratorref38_units : DataW H) = .agg ((jU 0 20).map fun s => .lit (.string s)) := rfl
theorem qhI {H : Type} : (Rows.laid_narrator_narratorref38_tens : DataW H) = .agg ((jU 20 8).map fun s => .lit (.string s)) := rfl
theorem qaM (a n i : Nat) (h : i < (jU a n).length) : Value.string ⟨(jU a n)[i].toArray⟩ = .string (wb (a + i)) := by
 simp [jU]
theorem gUnits : Tryz.prog.globalNamed "narrator/narratorref38.units" = some 1 := by kernel_rfl
theorem gUnitsT : (Tryz.prog.globals[1]?).map (·.type) = some 127 := by kernel_rfl
theorem gTens : Tryz.prog.globalNamed "narrator/narratorref38.tens" = some 2 := by kernel_rfl
theorem gTensT : (Tryz.prog.globals[2]?).map (·.type) = some 128 := by kernel_rfl
theorem tb_of {w : World} {l : List (String × DataW Unit)} (h : laidMetH Tryz.prog l w) (hf : (l.filter fun x => x.2.handleName?.isSome) = [])
  (h1 : ("narrator/narratorref38.units", Rows.laid_narrator_narratorref38_units) ∈ l) (h2 : ("narrator/narratorref38.tens", Rows.laid_narrator_narratorref38_tens) ∈ l) : Tb w := by
 constructor
 ·intro i hi
  obtain ⟨g, t, cs, fuel, p, hg, ht, hvar, hd⟩ := kd h hf _ _ h1
  obtain rfl := Option.some.inj (gUnits.symm.trans hg)
  obtain rfl := Option.some.inj (gUnitsT.symm.trans ht)
  rw [World.var?_cell hg hvar, qat Tryz.underlying127 Tryz.underlying9 (by kernel_rfl) (by rw [qfC] at hd; exact hd) i (by simp [jU]; omega), qaM, Nat.zero_add]
 ·intro i hi
  obtain ⟨g, t, cs, fuel, p, hg, ht, hvar, hd⟩ := kd h hf _ _ h2
  obtain rfl := Option.some.inj (gTens.symm.trans hg)
  obtain rfl := Option.some.inj (gTensT.symm.trans ht)
  rw [World.var?_cell hg hvar, qat Tryz.underlying128 Tryz.underlying9 (by kernel_rfl) (by rw [qhI] at hd; exact hd) i (by simp [jU]; omega), qaM]
theorem gSpaceT : (Tryz.prog.globals[5]?).map (·.type) = some 135 := by kernel_rfl
theorem qfz {H : Type} : (Rows.laid_strings_asciiSpace : DataW H) = Lib.tabData .u8 Lib.asciiSpaceTab := by kernel_rfl
theorem sp_of {w : World} {l : List (String × DataW Unit)} (h : laidMetH Tryz.prog l w) (hf : (l.filter fun x => x.2.handleName?.isSome) = [])
  (h1 : ("strings.asciiSpace", Rows.laid_strings_asciiSpace) ∈ l) : Sp w := by
 obtain ⟨g, t, cs, fuel, p, hg, ht, hvar, hd⟩ := kd h hf _ _ h1
 obtain rfl := Option.some.inj (gSpace.symm.trans hg)
 obtain rfl := Option.some.inj (gSpaceT.symm.trans ht)
 rw [qfz] at hd
 unfold Sp Lib.TabIs
 rw [hvar, <- Lib.cells_of_tab Tryz.underlying135 Tryz.underlying5 (by kernel_rfl) (by kernel_rfl) hd]
theorem sty_data {H : Type} : (Rows.laid_narrator_spokentext_styles : DataW H) = .agg (((List.range 4).map fun i => (vF i).data.toList).map fun s => .lit (.string s)) := rfl
theorem gStyles : Tryz.prog.globalNamed "narrator/spokentext.styles" = some 0 := by kernel_rfl
theorem gStylesT : (Tryz.prog.globals[0]?).map (·.type) = some 104 := by kernel_rfl
theorem sty_of {w : World} {l : List (String × DataW Unit)} (h : laidMetH Tryz.prog l w) (hf : (l.filter fun x => x.2.handleName?.isSome) = [])
  (h1 : ("narrator/spokentext.styles", Rows.laid_narrator_spokentext_styles) ∈ l) : Sty w := by
 intro i hi
 obtain ⟨g, t, cs, fuel, p, hg, ht, hvar, hd⟩ := kd h hf _ _ h1
 obtain rfl := Option.some.inj (gStyles.symm.trans hg)
 obtain rfl := Option.some.inj (gStylesT.symm.trans ht)
 rw [World.var?_cell hg hvar, qat Tryz.underlying104 Tryz.underlying9 (by kernel_rfl) (by rw [sty_data] at hd; exact hd) i (by simp; omega)]
 simp
set_option maxRecDepth 100000 in
theorem u8_of {w : World} {l : List (String × DataW Unit)} (h : laidMetH Tryz.prog l w) (hf : (l.filter fun x => x.2.handleName?.isSome) = [])
  (h1 : ("unicode/utf8.first", Rows.laid_unicode_utf8_first) ∈ l) (h2 : ("unicode/utf8.acceptRanges", Rows.laid_unicode_utf8_acceptRanges) ∈ l) : U8 w :=
 utf8Tabs_of_readsT (U8Types.of196 Tryz.laysValid) ⟨by kernel_rfl, by kernel_rfl, by kernel_rfl, by kernel_rfl, by kernel_rfl, by kernel_rfl, by kernel_rfl⟩ (kd h hf _ _ h1) (kd h hf _ _ h2)
theorem gd_of {w : World} {l : List (String × DataW Unit)} (h : laidMetH Tryz.prog l w) (hf : (l.filter fun x => x.2.handleName?.isSome) = [])
  (h1 : ("strings.asciiSpace", Rows.laid_strings_asciiSpace) ∈ l) (h2 : ("narrator/spokentext.styles", Rows.laid_narrator_spokentext_styles) ∈ l) (h3 : ("unicode/utf8.first", Rows.laid_unicode_utf8_first) ∈ l) (h4 : ("unicode/utf8.acceptRanges", Rows.laid_unicode_utf8_acceptRanges) ∈ l) : Gd w :=
 ⟨sp_of h hf h1, u8_of h hf h3 h4, sty_of h hf h2⟩
end Go.Proofs.YtlndbiamiioakaaGreatDoor
