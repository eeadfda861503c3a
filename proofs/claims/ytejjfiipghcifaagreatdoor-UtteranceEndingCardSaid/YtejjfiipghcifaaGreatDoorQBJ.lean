/- Joined texts: Laid, Ref1, LaidNum, LaidSig, LaidSpk, GlRow. -/
import Derived.Test.YtejjfiipghcifaaGreatDoorCards
import Derived.Test.YtejjfiipghcifaaGreatDoorTie
import Derived.Deep.DeepHandedRow
import Derived.SevenTiedAt
import Derived.Lay
import Derived.Deep.DeepWitnessRowRef
import Derived.Lib.LaidU8T
import Derived.LaidSub
import Derived.Deep.Slices
import Derived.Deep.FieldsWide
import Derived.Test.YtejjfiipghcifaaGreatDoorQAA
import Derived.Test.YtejjfiipghcifaaGreatDoorQAB
import Derived.Test.YtejjfiipghcifaaGreatDoorQAC
import Derived.Test.YtejjfiipghcifaaGreatDoorQAD
import Derived.Test.YtejjfiipghcifaaGreatDoorQAE
import Derived.Test.YtejjfiipghcifaaGreatDoorQAG
import Derived.Test.YtejjfiipghcifaaGreatDoorQAJ
import Derived.Test.YtejjfiipghcifaaGreatDoorQAM
import Derived.Test.YtejjfiipghcifaaGreatDoorQAN
import Derived.Test.YtejjfiipghcifaaGreatDoorQAO
import Derived.Test.YtejjfiipghcifaaGreatDoorQAU
import Derived.Test.YtejjfiipghcifaaGreatDoorQAV
import Derived.Test.YtejjfiipghcifaaGreatDoorQBI
set_option linter.unusedVariables false
set_option linter.unusedSimpArgs false
set_option linter.unnecessarySimpa false
namespace Go.Proofs.YtejjfiipghcifaaGreatDoor
open Go.ChangeShapes Go.WideShapes Go.ChangeAt Go.RowKit
theorem laidVars_mem {P : Program} {w : World} : ∀ {l : List (String × DataW Unit)} {ps : List MemPlace}, DataW.LaidVars P w l ps → ∀ name d, (name, d) ∈ l →
  ∃ g t cs fuel p, P.globalNamed name = some g ∧ (P.globals[g]?).map (·.type) = some t ∧ w.var? P name = some cs ∧ DataW.trod (fun _ => ()) P w 0 (fun _ => true) false fuel t cs.toList = some (d, p) := by
 intro l
 induction l with
 | nil => intro ps _ name d h; cases h
 | cons x r ih =>
  intro ps h name d hm
  obtain ⟨n0, d0⟩ := x
  obtain ⟨g, t, cs, fuel, p, q, hg, ht, hvar, hd, hr, _⟩ := h
  rcases List.mem_cons.1 hm with e | hm
  ·injection e with e1 e2
   subst e1 e2
   exact ⟨g, t, cs, fuel, p, hg, ht, hvar, hd⟩
  ·exact ih hr name d hm
theorem laid_mem {P : Program} {w : World} {l : List (String × DataW Unit)} (h : laidMetH P l w) (hf : (l.filter fun x => x.2.handleName?.isSome) = []) (name : String) (d : DataW Unit) (hm : (name, d) ∈ l) :
  ∃ g t cs fuel p, P.globalNamed name = some g ∧ (P.globals[g]?).map (·.type) = some t ∧ w.var? P name = some cs ∧ DataW.trod (fun _ => ()) P w 0 (fun _ => true) false fuel t cs.toList = some (d, p) := by
 unfold laidMetH at h
 rw [hf] at h
 obtain ⟨ps, hv, _⟩ := h
 exact laidVars_mem hv name d hm
theorem cells_strs {P : Program} {w : World} {t e : TypeId} {n fuel : Nat} {cs : Array Value} {l : List (List UInt8)} {p : List MemPlace} (ht : P.underlying t = some (.array n e)) (he : P.underlying e = some .string) (hC : P.cellsOf e = 1)
  (h : DataW.trod (fun _ => ()) P w 0 (fun _ => true) false fuel t cs.toList = some (.agg (l.map fun s => .lit (.string s)), p)) : ∀ i (hi : i < l.length), cs[i]? = some (.string ⟨l[i].toArray⟩) := by
 intro i hi
 obtain ⟨xs, m, _, hx, hlen, hn, hat⟩ := DataW.trod_array ht h
 simp only [Prod.mk.injEq, DataW.agg.injEq] at hx
 obtain ⟨hx, _⟩ := hx
 have hxl : l.length = xs.length := by
  have := congrArg List.length hx
  simpa using this
 have hi' : i < xs.length := by omega
 have h1 := hat i (by omega)
 rw [hC, Nat.mul_one, List.getElem?_eq_getElem hi'] at h1
 obtain ⟨s, hs, hy, _⟩ := DataW.trod_string he h1
 have h2 : (xs.map fun x => x.1)[i]? = some xs[i].1 := by simp [hi']
 rw [← hx] at h2
 have h3 : xs[i].1 = .lit (.string l[i]) := by
  have : (l.map fun s => (DataW.lit (.string s) : DataW Unit))[i]? = some (.lit (.string l[i])) := by simp [hi]
  rw [this] at h2
  injection h2 with h2
  exact h2.symm
 rw [hy] at h3
 simp only [DataW.lit.injEq, Lit.string.injEq] at h3
 have h4 : cs.toList[i]? = some (.string s) := by
  have := congrArg (·[0]?) hs
  simp only [List.getElem?_take, List.getElem?_drop] at this
  simpa using this
 rw [Array.getElem?_toList] at h4
 rw [h4, ← h3]
end Go.Proofs.YtejjfiipghcifaaGreatDoor
namespace Go.Proofs.YtejjfiipghcifaaGreatDoor
open Go.RowKit
def Tb (w : World) : Prop :=
 (∀ i, i < 20 → w.cell? ⟨1, i, none⟩ = some (.string (wb i))) ∧ (∀ i, i < 8 → w.cell? ⟨2, i, none⟩ = some (.string (wb (20 + i))))
theorem cell_under {w w' : World} {B : Nat} {a : Addr} {v : Value} (h : w.cell? a = some v) (hb : Below B w w') (hB : w.heap.size ≤ B) : w'.cell? a = some v := by
 have hl : a.block < w.heap.size := by
  rcases Nat.lt_or_ge a.block w.heap.size with hl | hl
  ·exact hl
  ·unfold World.cell? at h
   rw [Array.getElem?_eq_none hl] at h
   cases h
 exact (hb.cell (by omega)).trans h
theorem Tb.below {w w' : World} (h : Tb w) (hb : Below w.heap.size w w') : Tb w' :=
 ⟨fun i hi => cell_under (h.1 i hi) hb (Nat.le_refl _), fun i hi => cell_under (h.2 i hi) hb (Nat.le_refl _)⟩
theorem Tb.drewN {w : World} (h : Tb w) (n : Nat) : Tb (w.drewN n) := h
def rsmallL (m : Nat) : List Nat := if m = 0 then [0] else smallL m
theorem rs1 : ∀ m : Fin 20, rsmallL m.val = [m.val] := by decide +kernel
theorem rs2 : ∀ m : Fin 100, 20 ≤ m.val → m.val % 10 = 0 → rsmallL m.val = [18 + m.val / 10] := by decide +kernel
theorem rs3 : ∀ m : Fin 100, 20 ≤ m.val → m.val % 10 ≠ 0 → rsmallL m.val = [18 + m.val / 10, m.val % 10] := by decide +kernel
theorem rs4 : ∀ m : Fin 1000, 100 ≤ m.val → rsmallL m.val = [m.val / 100, 28] ++ (if m.val % 100 = 0 then [] else rsmallL (m.val % 100)) := by decide +kernel
set_option maxHeartbeats 1000000 in
theorem rsmall_lo (m : Nat) (hm : m < 100) (w : World) (ht : Tb w) :
  Calls Tryz.prog 92 #[.int .i64 m] w (GivesOwn 9 1 id w (rsmallL m).length (wv (rsmallL m))) := by
 by_cases c1 : m < 20
 ·have hc := ht.1 m c1
  have HL := Lib.hid (rs1 ⟨m, c1⟩)
  simp only at HL
  clear ht
  go_enter Tryz.func92, Tryz.ntmps92
  go_wp2
  go_ret
  rw [HL.out]
  exact ⟨_, _, rfl, own_built (xs := [_]) rfl rfl (Nat.le_refl _) (by first | omega | (simp only [List.length_cons, List.length_nil]; omega)), (Below.refl _ _).alloc (Nat.le_refl _) _⟩
 have hc2 := ht.2 (m / 10 - 2) (by omega)
 rw [show 20 + (m / 10 - 2) = 18 + m / 10 from by omega] at hc2
 by_cases c2 : m % 10 = 0
 ·have HL := Lib.hid (rs2 ⟨m, hm⟩ (by simp; omega) c2)
  simp only at HL
  have c2' : ((m : Int) % 10 == 0) = true := by rw [beq_iff_eq]; omega
  clear ht c2
  have c1' : (20 : Int) ≤ (m : Int) := by omega
  go_enter Tryz.func92, Tryz.ntmps92
  go_wp2
  go_ret
  rw [HL.out]
  exact ⟨_, _, rfl, own_built (xs := [_]) rfl rfl (Nat.le_refl _) (by first | omega | (simp only [List.length_cons, List.length_nil]; omega)), (Below.refl _ _).alloc (Nat.le_refl _) _⟩
 ·have HL := Lib.hid (rs3 ⟨m, hm⟩ (by simp; omega) c2)
  simp only at HL
  have hc1 := ht.1 (m % 10) (by omega)
  have c2' : ((m : Int) % 10 == 0) = false := by rw [beq_eq_false_iff_ne]; omega
  clear ht c2
  have b1 : (0 : Int) ≤ (m : Int) % 10 := by omega
  have b2 : (m : Int) % 10 < 20 := by omega
  have b3 : (0 : Int) ≤ (m : Int) / 10 - 2 := by omega
  have b4 : (m : Int) / 10 - 2 < 8 := by omega
  have n1 := World.new_ne w _ hc1
  have n2 := World.new_ne w _ hc2
  go_enter Tryz.func92, Tryz.ntmps92
  go_wp2
  have r1 : (m : Int).tdiv 10 = m / 10 := Int.tdiv_eq_ediv_of_nonneg (by omega)
  have r2 : (m : Int).tmod 10 = m % 10 := Int.tmod_eq_emod_of_nonneg (by omega)
  have r3 : IntKind.i64.wrap ((m : Int) / 10) = m / 10 := IntWalk.i64_in _ (by omega)
  have r4 : IntKind.i64.wrap ((m : Int) / 10 - 2) = m / 10 - 2 := IntWalk.i64_in _ (by omega)
  have r5 : IntKind.i64.wrap ((m : Int) % 10) = m % 10 := IntWalk.i64_in _ (by omega)
  have r6 : ((m : Int) / 10 - 2).toNat = m / 10 - 2 := by omega
  have b5 : (2 : Int) ≤ (m : Int) / 10 := by omega
  have b6 : (m : Int) / 10 < 10 := by omega
  have b7 : (m : Int) / 10 < 8 + 2 := by omega
  have r7 : ((m : Int) % 10).toNat = m % 10 := by omega
  go_region_held3 (fun w' => w'.cell? ⟨2, m / 10 - 2, none⟩ = some (.string (wb (18 + m / 10))) ∧ w'.cell? ⟨1, m % 10, none⟩ = some (.string (wb (m % 10)))) (go_keep) (first | fail)
  clear r1 r2 r3 r4 r5 r6 r7 b7
  go_wp2
  go_ret
  rw [HL.out]
  exact ⟨_, _, rfl, own_built (xs := [_, _]) rfl rfl (Nat.le_refl _) (by first | omega | (simp only [List.length_cons, List.length_nil]; omega)), by (repeat (first | exact Below.refl _ _ | assumption | refine Below.drew ?_ | refine Below.alloc ?_ (by first | (simp; done) | (simp; omega) | omega) _ | refine Below.setCell ?_ (by first | (simp; done) | (simp; omega) | omega) _))⟩
set_option maxHeartbeats 1000000 in
theorem rsmall (m : Nat) (hm : m < 1000) (w : World) (ht : Tb w) :
  Calls Tryz.prog 92 #[.int .i64 m] w (GivesOwn 9 1 id w (rsmallL m).length (wv (rsmallL m))) := by
 by_cases c0 : m < 100
 ·exact rsmall_lo m c0 w ht
 have c1 : 100 ≤ m := by omega
 have hc := ht.1 (m / 100) (by omega)
 have HL := Lib.hid (rs4 ⟨m, hm⟩ c1)
 simp only at HL
 have HR : Hid (∀ w, Tb w → Calls Tryz.prog 92 #[.int .i64 ((m : Int) % 100)] w (GivesOwn 9 1 id w (rsmallL (m % 100)).length (wv (rsmallL (m % 100))))) := Lib.hid fun w ht => by
  have := rsmall_lo (m % 100) (by omega) w ht
  rwa [Int.natCast_emod] at this
 have HT := Lib.hid ht
 have c2 : (20 : Int) ≤ (m : Int) := by omega
 by_cases c3 : m % 100 = 0
 ·have c3' : ((m : Int) % 100 != 0) = false := by rw [bne_eq_false_iff_eq]; omega
  have HL2 : Hid (rsmallL m = [m / 100, 28]) := Lib.hid (by rw [HL.out, if_pos c3]; rfl)
  clear ht c3 c0
  go_enter Tryz.func92, Tryz.ntmps92
  go_wp2_with fail
  go_ret
  rw [HL2.out]
  exact ⟨_, _, rfl, own_built (xs := [_, _]) rfl rfl (Nat.le_refl _) (by first | omega | (simp only [List.length_cons, List.length_nil]; omega)), by (repeat (first | exact Below.refl _ _ | assumption | refine Below.drew ?_ | refine Below.alloc ?_ (by first | (simp; done) | (simp; omega) | omega) _ | refine Below.setCell ?_ (by first | (simp; done) | (simp; omega) | omega) _))⟩
 ·have c3' : ((m : Int) % 100 != 0) = true := by rw [bne_iff_ne]; omega
  have HL2 : Hid (rsmallL m = [m / 100, 28] ++ rsmallL (m % 100)) := Lib.hid (by rw [HL.out, if_neg c3])
  have hle : (rsmallL (m % 100)).length ≤ 4 := by
   unfold rsmallL
   split
   ·simp
   ·exact smallL_le _
  generalize rsmallL (m % 100) = L at *
  clear ht c3 c0
  go_enter Tryz.func92, Tryz.ntmps92
  go_wp2_with (first
   | (go_at_call 92; refine (HR.out _ (HT.out.below (by exact (Below.refl _ _).alloc (Nat.le_refl _) _))).mono ?_; rintro e w1 ⟨A1, c1, rfl, hown1, hbel1⟩; have z1 := hbel1.size; simp only [World.size_alloc] at z1; have hown0 : w1.ownsRow w.heap.size 9 1 (.slice (some ⟨w.heap.size, 0, none⟩) 2 2) 2 [.string (wb (m / 100)), .string (wb 28)] := own_below (own_built (by rfl) rfl (Nat.le_refl _) (by omega)) hbel1)
   | (at_builtin; refine app_list rfl _ _ _ rfl elt_str (w.heap.size) _ rfl (hown0) _ _ rfl (Rd.of_own hown1) (by first | rfl | exact sv_one _ | exact wv_one _) (by omega) (by omega) (by first | (simp; done) | (simp; omega) | omega) ?_; intro A2 c2 w2 hown2 hbel2 hgr2 hat2; have z2 := hbel2.size; (try simp only [World.size_alloc] at z2); (try simp only [Nat.zero_add, List.nil_append] at hown2)))
  go_ret
  rw [HL2.out]
  have e : ([m / 100, 28] ++ L).length = 2 + L.length := by simp; omega
  refine ⟨A2, c2, by rw [e]; rfl, ?_, (((Below.refl _ _).alloc (Nat.le_refl _) _).trans (hbel1.mono (by simp))).trans (hbel2.mono (by omega))⟩
  rw [e]
  simpa [wv] using hown2
def rposL (n : Nat) : List Nat := if n = 0 then [0] else posL n
theorem rpos_small (n : Nat) (h : n < 1000) : rposL n = rsmallL n := by
 unfold rposL rsmallL
 by_cases h0 : n = 0
 ·rw [if_pos h0, if_pos h0]
 ·rw [if_neg h0, if_neg h0, posL_eq]
  have a : n / 1000000 = 0 := by omega
  have b : n % 1000000 / 1000 = 0 := by omega
  have c : n % 1000000 % 1000 = n := by omega
  rw [a, b, c]
  simp [segL, segE, show 0 < n by omega]
theorem rpos_thousand (n : Nat) (h1 : 1000 ≤ n) (h2 : n < 1000000) : rposL n = rsmallL (n / 1000) ++ [29] ++ (if n % 1000 = 0 then [] else rposL (n % 1000)) := by
 have e : (if n % 1000 = 0 then [] else rposL (n % 1000)) = segE (n % 1000) := by
  by_cases h0 : n % 1000 = 0
  ·rw [if_pos h0, h0]; rfl
  ·rw [if_neg h0, rpos_small _ (by omega), rsmallL, if_neg h0, segE, if_pos (by omega)]
 rw [e, rposL, if_neg (by omega), posL_eq, rsmallL, if_neg (by omega)]
 have a : n / 1000000 = 0 := by omega
 have b : n % 1000000 / 1000 = n / 1000 := by omega
 have c : n % 1000000 % 1000 = n % 1000 := by omega
 rw [a, b, c]
 simp [segL, show 0 < n / 1000 by omega]
theorem rpos_million (n : Nat) (h1 : 1000000 ≤ n) (h2 : n < 1000000000) : rposL n = rsmallL (n / 1000000) ++ [30] ++ (if n % 1000000 = 0 then [] else rposL (n % 1000000)) := by
 have e : (if n % 1000000 = 0 then [] else rposL (n % 1000000)) = segL (n % 1000000 / 1000) 29 ++ segE (n % 1000000 % 1000) := by
  by_cases h0 : n % 1000000 = 0
  ·rw [if_pos h0, h0]; rfl
  ·have a : n % 1000000 / 1000000 = 0 := by omega
   have b : n % 1000000 % 1000000 = n % 1000000 := by omega
   rw [if_neg h0, rposL, if_neg h0, posL_eq, a, b]
   simp [segL]
 rw [e, rposL, if_neg (by omega), posL_eq, rsmallL, if_neg (by omega), segL, if_pos (by omega)]
 simp
theorem rposL_le (n : Nat) : (rposL n).length ≤ 14 := by
 unfold rposL
 split
 ·simp
 ·rw [posL_eq]
  have a := segL_le (n / 1000000) 30
  have b := segL_le (n % 1000000 / 1000) 29
  have c : (segE (n % 1000000 % 1000)).length ≤ 4 := by
   unfold segE
   split
   ·exact smallL_le _
   ·simp
  simp only [List.length_append]
  omega
theorem rsmallL_le (n : Nat) : (rsmallL n).length ≤ 4 := by
 unfold rsmallL
 split
 ·simp
 ·exact smallL_le _
end Go.Proofs.YtejjfiipghcifaaGreatDoor
namespace Go.Proofs.YtejjfiipghcifaaGreatDoor
open Go.ChangeShapes Go.WideShapes Go.ChangeAt Go.RowKit
def wordsData (a n : Nat) : List (List UInt8) := (List.range n).map fun i => (wb (a + i)).data.toList
theorem units_data {H : Type} : (Rows.laid_narrator_narratorref38_units : DataW H) = .agg ((wordsData 0 20).map fun s => .lit (.string s)) := rfl
theorem tens_data {H : Type} : (Rows.laid_narrator_narratorref38_tens : DataW H) = .agg ((wordsData 20 8).map fun s => .lit (.string s)) := rfl
theorem wordsData_at (a n i : Nat) (h : i < (wordsData a n).length) : Value.string ⟨(wordsData a n)[i].toArray⟩ = .string (wb (a + i)) := by
 simp [wordsData]
theorem gUnits : Tryz.prog.globalNamed "narrator/narratorref38.units" = some 1 := by kernel_rfl
theorem gUnitsT : (Tryz.prog.globals[1]?).map (·.type) = some 128 := by kernel_rfl
theorem gTens : Tryz.prog.globalNamed "narrator/narratorref38.tens" = some 2 := by kernel_rfl
theorem gTensT : (Tryz.prog.globals[2]?).map (·.type) = some 129 := by kernel_rfl
theorem tb_of {w : World} {l : List (String × DataW Unit)} (h : laidMetH Tryz.prog l w) (hf : (l.filter fun x => x.2.handleName?.isSome) = [])
  (h1 : ("narrator/narratorref38.units", Rows.laid_narrator_narratorref38_units) ∈ l) (h2 : ("narrator/narratorref38.tens", Rows.laid_narrator_narratorref38_tens) ∈ l) : Tb w := by
 constructor
 ·intro i hi
  obtain ⟨g, t, cs, fuel, p, hg, ht, hvar, hd⟩ := laid_mem h hf _ _ h1
  obtain rfl := Option.some.inj (gUnits.symm.trans hg)
  obtain rfl := Option.some.inj (gUnitsT.symm.trans ht)
  rw [World.var?_cell hg hvar, cells_strs Tryz.underlying128 Tryz.underlying9 (by kernel_rfl) (by rw [units_data] at hd; exact hd) i (by simp [wordsData]; omega), wordsData_at, Nat.zero_add]
 ·intro i hi
  obtain ⟨g, t, cs, fuel, p, hg, ht, hvar, hd⟩ := laid_mem h hf _ _ h2
  obtain rfl := Option.some.inj (gTens.symm.trans hg)
  obtain rfl := Option.some.inj (gTensT.symm.trans ht)
  rw [World.var?_cell hg hvar, cells_strs Tryz.underlying129 Tryz.underlying9 (by kernel_rfl) (by rw [tens_data] at hd; exact hd) i (by simp [wordsData]; omega), wordsData_at]
theorem gSpaceT : (Tryz.prog.globals[5]?).map (·.type) = some 146 := by kernel_rfl
theorem space_data {H : Type} : (Rows.laid_strings_asciiSpace : DataW H) = Lib.tabData .u8 Lib.asciiSpaceTab := by kernel_rfl
theorem sp_of {w : World} {l : List (String × DataW Unit)} (h : laidMetH Tryz.prog l w) (hf : (l.filter fun x => x.2.handleName?.isSome) = [])
  (h1 : ("strings.asciiSpace", Rows.laid_strings_asciiSpace) ∈ l) : Sp w := by
 obtain ⟨g, t, cs, fuel, p, hg, ht, hvar, hd⟩ := laid_mem h hf _ _ h1
 obtain rfl := Option.some.inj (gSpace.symm.trans hg)
 obtain rfl := Option.some.inj (gSpaceT.symm.trans ht)
 rw [space_data] at hd
 unfold Sp Lib.TabIs
 rw [hvar, ← Lib.cells_of_tab Tryz.underlying146 Tryz.underlying5 (by kernel_rfl) (by kernel_rfl) hd]
theorem sty_data {H : Type} : (Rows.laid_narrator_spokentext_styles : DataW H) = .agg (((List.range 4).map fun i => (styB i).data.toList).map fun s => .lit (.string s)) := rfl
theorem gStyles : Tryz.prog.globalNamed "narrator/spokentext.styles" = some 0 := by kernel_rfl
theorem gStylesT : (Tryz.prog.globals[0]?).map (·.type) = some 108 := by kernel_rfl
theorem sty_of {w : World} {l : List (String × DataW Unit)} (h : laidMetH Tryz.prog l w) (hf : (l.filter fun x => x.2.handleName?.isSome) = [])
  (h1 : ("narrator/spokentext.styles", Rows.laid_narrator_spokentext_styles) ∈ l) : Sty w := by
 intro i hi
 obtain ⟨g, t, cs, fuel, p, hg, ht, hvar, hd⟩ := laid_mem h hf _ _ h1
 obtain rfl := Option.some.inj (gStyles.symm.trans hg)
 obtain rfl := Option.some.inj (gStylesT.symm.trans ht)
 rw [World.var?_cell hg hvar, cells_strs Tryz.underlying108 Tryz.underlying9 (by kernel_rfl) (by rw [sty_data] at hd; exact hd) i (by simp; omega)]
 simp
set_option maxRecDepth 100000 in
theorem u8_of {w : World} {l : List (String × DataW Unit)} (h : laidMetH Tryz.prog l w) (hf : (l.filter fun x => x.2.handleName?.isSome) = [])
  (h1 : ("unicode/utf8.first", Rows.laid_unicode_utf8_first) ∈ l) (h2 : ("unicode/utf8.acceptRanges", Rows.laid_unicode_utf8_acceptRanges) ∈ l) : U8 w :=
 utf8Tabs_of_readsT (U8Types.of196 Tryz.laysValid) ⟨by kernel_rfl, by kernel_rfl, by kernel_rfl, by kernel_rfl, by kernel_rfl, by kernel_rfl, by kernel_rfl⟩ (laid_mem h hf _ _ h1) (laid_mem h hf _ _ h2)
theorem gd_of {w : World} {l : List (String × DataW Unit)} (h : laidMetH Tryz.prog l w) (hf : (l.filter fun x => x.2.handleName?.isSome) = [])
  (h1 : ("strings.asciiSpace", Rows.laid_strings_asciiSpace) ∈ l) (h2 : ("narrator/spokentext.styles", Rows.laid_narrator_spokentext_styles) ∈ l) (h3 : ("unicode/utf8.first", Rows.laid_unicode_utf8_first) ∈ l) (h4 : ("unicode/utf8.acceptRanges", Rows.laid_unicode_utf8_acceptRanges) ∈ l) : Gd w :=
 ⟨sp_of h hf h1, u8_of h hf h3 h4, sty_of h hf h2⟩
end Go.Proofs.YtejjfiipghcifaaGreatDoor
namespace Go.Proofs.YtejjfiipghcifaaGreatDoor
open Go.ChangeShapes Go.WideShapes Go.ChangeAt Go.RowKit Go.Deep
theorem open_gls {H : Type} {enc : TypeId × Value → H} {P : Program} {w : World} {t e : TypeId} {f0 f1 f2 : Field} {A : Option Addr} {len cap : Nat} {d : DataW H} {p : List MemPlace}
  (ht : P.underlying t = some (.slice e)) (he : P.underlying e = some (.struct #[f0, f1, f2])) (ce : P.cellsOf e = 3)
  (ho : [f0.offset, f1.offset, f2.offset] = [0, 1, 2])
  (ht0 : P.underlying f0.type = some .string ∧ P.cellsOf f0.type = 1) (ht1 : P.underlying f1.type = some .bool ∧ P.cellsOf f1.type = 1) (ht2 : P.underlying f2.type = some (.int .i64) ∧ P.cellsOf f2.type = 1)
  (h : DataW.Trod enc P w 0 (fun _ => true) true t (.slice A len cap) d p) :
  ∃ l : List Gl, l.length = len ∧ len ≤ cap ∧ cap ≤ maxLen ∧ Rd w w.heap.size 3 A len (encGs l) ∧ ∀ g ∈ l, g.text.size ≤ maxLen ∧ (Lit.int .i64 g.style).wf = true := by
 obtain ⟨fuel, hf⟩ := h
 simp only [List.cons.injEq, and_true] at ho
 obtain ⟨o0, o1, o2⟩ := ho
 rcases open_slice ht hf with ⟨hcs, _⟩ | ⟨a, len', cap', m, n, D, Pl, hcs', _, hl, hm, hmm, _, hx⟩
 ·simp [Value.cells] at hcs
  obtain ⟨rfl, rfl, rfl⟩ := hcs
  exact ⟨[], rfl, Nat.le_refl _, by unfold maxLen; omega, Rd.none_, fun s hs => by cases hs⟩
 ·simp [Value.cells] at hcs'
  obtain ⟨rfl, rfl, rfl⟩ := hcs'
  simp only [if_true] at hmm
  have each : ∀ i, i < m → ∃ r : Gl, (∀ j u, (encG r)[j]? = some u → w.cell? (a.add (i * 3 + j)) = some u) ∧ r.text.size ≤ maxLen ∧ (Lit.int .i64 r.style).wf = true := by
   intro i hi
   obtain ⟨cs', h1, h2⟩ := hx i hi
   rw [ce] at h1
   obtain ⟨_, hlen, hcell⟩ := World.cells?_some h1
   obtain ⟨xs, k, hk, hxy, _, hxl, hfl⟩ := DataW.trod_struct he h2
   match cs', hlen with
   | [v0, v1, v2], _ =>
    match xs, hxl with
    | [y0, y1, y2], _ =>
     have g0 := hfl 0 f0 rfl
     have g1 := hfl 1 f1 rfl
     have g2 := hfl 2 f2 rfl
     rw [o0, ht0.2] at g0
     rw [o1, ht1.2] at g1
     rw [o2, ht2.2] at g2
     obtain ⟨s, e0, _, hz⟩ := DataW.trod_string ht0.1 g0
     obtain ⟨b, e1, _⟩ := DataW.trod_bool ht1.1 g1
     obtain ⟨n2, e2, _, hw⟩ := DataW.trod_int ht2.1 g2
     simp at e0 e1 e2
     subst e0 e1 e2
     refine ⟨⟨s, b, n2⟩, fun j u hu => ?_, hz, hw⟩
     have hj : j < 3 := by
      have := (List.getElem?_eq_some_iff.1 hu).1
      rwa [encG_len] at this
     have hcj := hcell j hj
     rw [add_of_add] at hcj
     rw [hcj]
     exact hu
  obtain ⟨q, hq⟩ := choose_lt each
  refine ⟨(List.range len).map q, by simp, hl, hm, ⟨by rw [encGs_len]; simp, fun hn => ?_⟩, fun r hr => ?_⟩
  ·obtain ⟨b, o, spot⟩ := a
   have h0 := (hq 0 (by omega)).1 0 _ rfl
   have hspot : spot = none := by simpa [Addr.add] using World.cell?_spot h0
   subst hspot
   refine ⟨b, o, rfl, by simpa [Addr.add] using cell_lt h0, fun j u hu => ?_⟩
   have hj : j < len * 3 := by
    have := (List.getElem?_eq_some_iff.1 hu).1
    rw [encGs_len] at this
    simpa using this
   have e : j = j / 3 * 3 + j % 3 := by omega
   rw [e, encGs_get _ _ _ (by omega)] at hu
   rw [List.getElem?_map, List.getElem?_range (show j / 3 < len by omega)] at hu
   have h1 := (hq (j / 3) (by omega)).1 (j % 3) u (by simpa using hu)
   rw [add_none] at h1
   rw [e]
   exact h1
  ·obtain ⟨i, hi, rfl⟩ := List.mem_map.1 hr
   exact (hq i (by have := List.mem_range.1 hi; omega)).2
theorem open_setts {H : Type} {enc : TypeId × Value → H} {P : Program} {w : World} {base : Nat} {spare : Nat → Bool} {held : Bool} {r : Reach} {b0 : Nat} {t : TypeId} {f0 f1 f2 f3 f4 f5 : Field} {v : Value} {d : DataW H} {ps : List MemPlace}
  (ht : P.underlying t = some (.struct #[f0, f1, f2, f3, f4, f5])) (ct : P.cellsOf t = 6)
  (ho : [f0.offset, f1.offset, f2.offset, f3.offset, f4.offset, f5.offset] = [0, 1, 2, 3, 4, 5])
  {ti tb : TypeId} (hti : P.underlying ti = some (.int .i64)) (hci : P.cellsOf ti = 1) (htb : P.underlying tb = some .bool) (hcb : P.cellsOf tb = 1)
  (hty : f0.type = ti ∧ f1.type = tb ∧ f2.type = tb ∧ f3.type = ti ∧ f4.type = tb ∧ f5.type = ti)
  (hval : Value.okWide P w r b0 t v) (h : DataW.Trod enc P w base spare held t v d ps) :
  ∃ (R : Int) (D S : Bool) (Q : Int) (C : Bool) (K : Int), v = stV R D S Q C K ∧ (Lit.int .i64 R).wf = true ∧ (Lit.int .i64 Q).wf = true ∧ (Lit.int .i64 K).wf = true := by
 obtain ⟨cs, rfl, hsz⟩ := okWide_struct ht hval
 rw [ct] at hsz
 obtain ⟨fuel, hf⟩ := h
 simp only [List.cons.injEq, and_true] at ho
 obtain ⟨o0, o1, o2, o3, o4, o5⟩ := ho
 obtain ⟨t0, t1, t2, t3, t4, t5⟩ := hty
 obtain ⟨xs, k, hk, hxy, _, hxl, hfl⟩ := DataW.trod_struct ht hf
 obtain ⟨cl⟩ := cs
 match cl, hsz with
 | [v0, v1, v2, v3, v4, v5], _ =>
  match xs, hxl with
  | [y0, y1, y2, y3, y4, y5], _ =>
   have g0 := hfl 0 f0 rfl
   have g1 := hfl 1 f1 rfl
   have g2 := hfl 2 f2 rfl
   have g3 := hfl 3 f3 rfl
   have g4 := hfl 4 f4 rfl
   have g5 := hfl 5 f5 rfl
   rw [o0, t0, hci] at g0
   rw [o1, t1, hcb] at g1
   rw [o2, t2, hcb] at g2
   rw [o3, t3, hci] at g3
   rw [o4, t4, hcb] at g4
   rw [o5, t5, hci] at g5
   obtain ⟨n0, e0, _, w0⟩ := DataW.trod_int hti g0
   obtain ⟨n1, e1, _⟩ := DataW.trod_bool htb g1
   obtain ⟨n2, e2, _⟩ := DataW.trod_bool htb g2
   obtain ⟨n3, e3, _, w3⟩ := DataW.trod_int hti g3
   obtain ⟨n4, e4, _⟩ := DataW.trod_bool htb g4
   obtain ⟨n5, e5, _, w5⟩ := DataW.trod_int hti g5
   simp [Value.cells] at e0 e1 e2 e3 e4 e5
   subst e0 e1 e2 e3 e4 e5
   exact ⟨n0, n1, n2, n3, n4, n5, rfl, w0, w3, w5⟩
end Go.Proofs.YtejjfiipghcifaaGreatDoor
