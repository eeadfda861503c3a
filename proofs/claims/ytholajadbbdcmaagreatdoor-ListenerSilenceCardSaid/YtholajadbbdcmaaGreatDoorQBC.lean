/- Joined texts: Ur2, Ur3, UtM. -/
import Derived.Test.YtholajadbbdcmaaGreatDoorQAA
import Derived.Test.YtholajadbbdcmaaGreatDoorQAB
import Derived.Test.YtholajadbbdcmaaGreatDoorQAC
import Derived.Test.YtholajadbbdcmaaGreatDoorQAD
import Derived.Test.YtholajadbbdcmaaGreatDoorQAE
import Derived.Test.YtholajadbbdcmaaGreatDoorQAF
import Derived.Test.YtholajadbbdcmaaGreatDoorQAG
import Derived.Test.YtholajadbbdcmaaGreatDoorQAH
import Derived.Test.YtholajadbbdcmaaGreatDoorQAI
import Derived.Test.YtholajadbbdcmaaGreatDoorQAL
import Derived.Test.YtholajadbbdcmaaGreatDoorQAM
import Derived.Test.YtholajadbbdcmaaGreatDoorQAN
import Derived.Test.YtholajadbbdcmaaGreatDoorQAQ
import Derived.Test.YtholajadbbdcmaaGreatDoorQAS
import Derived.Test.YtholajadbbdcmaaGreatDoorQAT
import Derived.Test.YtholajadbbdcmaaGreatDoorQAU
import Derived.Test.YtholajadbbdcmaaGreatDoorQAV
import Derived.Test.YtholajadbbdcmaaGreatDoorQAY
import Derived.Test.YtholajadbbdcmaaGreatDoorQBA
import Derived.Test.YtholajadbbdcmaaGreatDoorQBB
set_option linter.unusedVariables false
set_option linter.unusedSimpArgs false
set_option linter.unnecessarySimpa false
namespace Go.Proofs.YtholajadbbdcmaaGreatDoor
open Go.RowKit
set_option maxRecDepth 20000
theorem results_tmpc {P : Program} {fn : Func} {p u : Tmp} {ty : TypeId} (h : fn.results = #[.tmp u, .cell p ty]) (tmps : Array Value) (w : World) (g : Nat) (t : TypeId) (cs : Array Value) (fr : Nat × Nat) (d : TypeDesc)
  (hp : tmps.getD p undef = .pointer (some ⟨g, 0, none⟩)) (hg : w.heap[g]? = some (.cells cs t fr))
  (hu : P.underlying ty = some d) (hd : (match d with | .struct _ | .array _ _ => true | _ => false) = true) (hi : (P.info? ty).map (·.size) = some cs.size) :
  (results fn tmps).run P w = .ok (.tuple #[tmps.getD u undef, .agg cs]) w := by
 simp only [results, h]
 have hp' : tmps[p]?.getD undef = .pointer (some ⟨g, 0, none⟩) := by simpa using hp
 simp [Sem.run_bind, Result.andThen, hp', asAddr, run_loadVar_row w g t ty cs fr d hg hu hd hi]
def numR (r : Option (List ByteArray)) : Int × Option (List ByteArray) := match r.bind numO with
 | some (n, t) => (n, some t)
 | none => (0, none)
def NRet (w : World) (B : Nat) (x : Int × Option (List ByteArray)) (e : Ending) (w' : World) : Prop := ∃ v, e = .returned (.tuple #[.int .i64 x.1, v]) ∧ RV w B x.2 v ∧ Below w.heap.size w w'
def NRetE (w : World) (B : Nat) (x : Int × Option (List ByteArray)) (e : Ending) (w' : World) : Prop := ∃ v, e = .returned (.tuple #[.int .i64 x.1, v]) ∧ RV w' B x.2 v ∧ Below w.heap.size w w'
theorem NRet.e {w w' : World} {B : Nat} {x : Int × Option (List ByteArray)} {e : Ending} (hB : B ≤ w.heap.size) (h : NRet w B x e w') : NRetE w B x e w' := by
 obtain ⟨v, h1, h2, h3⟩ := h
 exact ⟨v, h1, h2.below (h3.mono hB), h3⟩
def RRetE (w : World) (B : Nat) (r : Option (List ByteArray)) (F : Value → Value) (e : Ending) (w' : World) : Prop := ∃ v, e = .returned (F v) ∧ RV w' B r v ∧ Below w.heap.size w w'
theorem RRet.e {w w' : World} {B : Nat} {r : Option (List ByteArray)} {F : Value → Value} {e : Ending} (hB : B ≤ w.heap.size) (h : RRet w B r F e w') : RRetE w B r F e w' := by
 obtain ⟨v, h1, h2, h3⟩ := h
 exact ⟨v, h1, h2.below (h3.mono hB), h3⟩
set_option maxHeartbeats 2000000 in
theorem unumber_ (r : Option (List ByteArray)) (v : Value) (B : Nat) (w : World) (h : RV w B r v) (hB : B ≤ w.heap.size) : Calls Tryz.prog 83 #[v] w (NRet w B (numR r)) := by
 obtain ⟨A, n, c, l, bad, rfl, hW, rfl⟩ := h
 obtain ⟨R, hR⟩ : ∃ x, x = numR (optR bad l) := ⟨_, rfl⟩
 rw [← hR]
 have hX : RX w B bad l ((w.alloc (.cells #[.slice A n c, .bool bad] 95)).alloc (.cells #[.slice none 0 0, .bool false] 95)) :=
  ⟨A, n, c, hW, Blk.alloc (Blk.new w _ _) _, Blk.new_ (by simp), ((Below.refl _ _).alloc (Nat.le_refl _) _).alloc (by simp) _⟩
 clear hW
 cases hp : prefixL l with
 | none =>
  have HR2 : Hid (R = (0, none)) := Lib.hid (by rw [hR]; cases bad <;> simp [numR, optR, numO, hp])
  clear hR
  cases bad with
  | true =>
   go_enter Tryz.func83, Tryz.ntmps83
   go_upto_region 1 with fail
   refine wp_fg (RX w B true l) hX ?_
   clear hX
   rintro X ⟨A', n', c', hW, B1, B2, tx⟩
   have z1 := B2.lt
   have z0 := B1.lt
   have c0 := B1.cell 0
   have c1 := B1.cell 1
   have d0 := B2.cell 0
   have d1 := B2.cell 1
   have f0 := B1.frozen 0
   have f1 := B1.frozen 1
   have g0 := B2.frozen 0
   have g1 := B2.frozen 1
   simp only [List.getElem?_toArray, List.getElem?_cons_zero, List.getElem?_cons_succ] at c0 c1 d0 d1
   have HPr := Lib.hid (prefix_ l A' n' c' X hW.len hW.cap hW.max ((hW.rd.below (tx.mono hB)).more (Nat.le_trans hB tx.size)) (fun s hs => Nat.le_trans (hW.sz s hs) (by decide)))
   rw [hp] at HPr
   simp only [preTriple] at HPr
   clear hp hW
   go_wp2_with (go_at_call 110; refine HPr.out.mono ?_; rintro e w1 ⟨rfl, hb1⟩; clear c0 c1 d0 d1 f0 f1 g0 g1; have C1 := B1.below hb1 B1.lt; have C2 := B2.below hb1 B2.lt; have c0 := C1.cell 0; have c1 := C1.cell 1; have d0 := C2.cell 0; have d1 := C2.cell 1; have g0 := C2.frozen 0; have g1 := C2.frozen 1; simp only [List.getElem?_toArray, List.getElem?_cons_zero, List.getElem?_cons_succ] at c0 c1 d0 d1)
   have Rr := blk_set2 (a' := .slice none 0 0) (b' := .bool true) C2
   have tz := ((tx.trans (hb1.mono (by omega))).setCell (p := ⟨w.heap.size + 1, 0, none⟩) (by show w.heap.size ≤ w.heap.size + 1; omega) (.slice none 0 0)).setCell (p := ⟨w.heap.size + 1, 1, none⟩) (by show w.heap.size ≤ w.heap.size + 1; omega) (.bool true)
   exact bodyPost_ret (results_tmpc rfl _ _ (w.heap.size + 1) 95 _ (0, 0) _ rfl Rr Tryz.underlying95 rfl info_rd) rfl ⟨_, by rw [HR2.out]; rfl, by rw [HR2.out]; exact RV.bad w B, tz⟩
  | false =>
   go_enter Tryz.func83, Tryz.ntmps83
   go_upto_region 1 with fail
   refine wp_fg (RX w B false l) hX ?_
   clear hX
   rintro X ⟨A', n', c', hW, B1, B2, tx⟩
   have z1 := B2.lt
   have z0 := B1.lt
   have c0 := B1.cell 0
   have c1 := B1.cell 1
   have d0 := B2.cell 0
   have d1 := B2.cell 1
   have f0 := B1.frozen 0
   have f1 := B1.frozen 1
   have g0 := B2.frozen 0
   have g1 := B2.frozen 1
   simp only [List.getElem?_toArray, List.getElem?_cons_zero, List.getElem?_cons_succ] at c0 c1 d0 d1
   have HPr := Lib.hid (prefix_ l A' n' c' X hW.len hW.cap hW.max ((hW.rd.below (tx.mono hB)).more (Nat.le_trans hB tx.size)) (fun s hs => Nat.le_trans (hW.sz s hs) (by decide)))
   rw [hp] at HPr
   simp only [preTriple] at HPr
   clear hp hW
   go_wp2_with (go_at_call 110; refine HPr.out.mono ?_; rintro e w1 ⟨rfl, hb1⟩; clear c0 c1 d0 d1 f0 f1 g0 g1; have C1 := B1.below hb1 B1.lt; have C2 := B2.below hb1 B2.lt; have c0 := C1.cell 0; have c1 := C1.cell 1; have d0 := C2.cell 0; have d1 := C2.cell 1; have g0 := C2.frozen 0; have g1 := C2.frozen 1; simp only [List.getElem?_toArray, List.getElem?_cons_zero, List.getElem?_cons_succ] at c0 c1 d0 d1)
   have Rr := blk_set2 (a' := .slice none 0 0) (b' := .bool true) C2
   have tz := ((tx.trans (hb1.mono (by omega))).setCell (p := ⟨w.heap.size + 1, 0, none⟩) (by show w.heap.size ≤ w.heap.size + 1; omega) (.slice none 0 0)).setCell (p := ⟨w.heap.size + 1, 1, none⟩) (by show w.heap.size ≤ w.heap.size + 1; omega) (.bool true)
   exact bodyPost_ret (results_tmpc rfl _ _ (w.heap.size + 1) 95 _ (0, 0) _ rfl Rr Tryz.underlying95 rfl info_rd) rfl ⟨_, by rw [HR2.out]; rfl, by rw [HR2.out]; exact RV.bad w B, tz⟩
 | some x =>
  obtain ⟨nn, k⟩ := x
  cases bad with
  | true =>
   have HR2 : Hid (R = (0, none)) := Lib.hid (by rw [hR]; rfl)
   clear hR
   go_enter Tryz.func83, Tryz.ntmps83
   go_upto_region 1 with fail
   refine wp_fg (RX w B true l) hX ?_
   clear hX
   rintro X ⟨A', n', c', hW, B1, B2, tx⟩
   have z1 := B2.lt
   have z0 := B1.lt
   have c0 := B1.cell 0
   have c1 := B1.cell 1
   have d0 := B2.cell 0
   have d1 := B2.cell 1
   have f0 := B1.frozen 0
   have f1 := B1.frozen 1
   have g0 := B2.frozen 0
   have g1 := B2.frozen 1
   simp only [List.getElem?_toArray, List.getElem?_cons_zero, List.getElem?_cons_succ] at c0 c1 d0 d1
   have HPr := Lib.hid (prefix_ l A' n' c' X hW.len hW.cap hW.max ((hW.rd.below (tx.mono hB)).more (Nat.le_trans hB tx.size)) (fun s hs => Nat.le_trans (hW.sz s hs) (by decide)))
   rw [hp] at HPr
   simp only [preTriple] at HPr
   clear hp hW
   go_wp2_with (go_at_call 110; refine HPr.out.mono ?_; rintro e w1 ⟨rfl, hb1⟩; clear c0 c1 d0 d1 f0 f1 g0 g1; have C1 := B1.below hb1 B1.lt; have C2 := B2.below hb1 B2.lt; have c0 := C1.cell 0; have c1 := C1.cell 1; have d0 := C2.cell 0; have d1 := C2.cell 1; have g0 := C2.frozen 0; have g1 := C2.frozen 1; simp only [List.getElem?_toArray, List.getElem?_cons_zero, List.getElem?_cons_succ] at c0 c1 d0 d1)
   have Rr := blk_set2 (a' := .slice none 0 0) (b' := .bool true) C2
   have tz := ((tx.trans (hb1.mono (by omega))).setCell (p := ⟨w.heap.size + 1, 0, none⟩) (by show w.heap.size ≤ w.heap.size + 1; omega) (.slice none 0 0)).setCell (p := ⟨w.heap.size + 1, 1, none⟩) (by show w.heap.size ≤ w.heap.size + 1; omega) (.bool true)
   exact bodyPost_ret (results_tmpc rfl _ _ (w.heap.size + 1) 95 _ (0, 0) _ rfl Rr Tryz.underlying95 rfl info_rd) rfl ⟨_, by rw [HR2.out]; rfl, by rw [HR2.out]; exact RV.bad w B, tz⟩
  | false =>
   have HR2 : Hid (R = (nn, some (l.drop k))) := Lib.hid (by rw [hR]; simp [numR, optR, numO, hp])
   obtain ⟨hk0, hkl, hk15, _⟩ := prefixL_some hp
   clear hR
   go_enter Tryz.func83, Tryz.ntmps83
   go_upto_region 1 with fail
   refine wp_fg (RX w B false l) hX ?_
   clear hX
   rintro X ⟨A', n', c', hW, B1, B2, tx⟩
   have z1 := B2.lt
   have z0 := B1.lt
   have c0 := B1.cell 0
   have c1 := B1.cell 1
   have d0 := B2.cell 0
   have d1 := B2.cell 1
   have f0 := B1.frozen 0
   have f1 := B1.frozen 1
   have g0 := B2.frozen 0
   have g1 := B2.frozen 1
   simp only [List.getElem?_toArray, List.getElem?_cons_zero, List.getElem?_cons_succ] at c0 c1 d0 d1
   have HPr := Lib.hid (prefix_ l A' n' c' X hW.len hW.cap hW.max ((hW.rd.below (tx.mono hB)).more (Nat.le_trans hB tx.size)) (fun s hs => Nat.le_trans (hW.sz s hs) (by decide)))
   rw [hp] at HPr
   simp only [preTriple] at HPr
   have hln := hW.len
   have hcap := hW.cap
   have hmax := hW.max
   have hcut := hW.cut (k := k) (by omega)
   have i1 : (k : Int) ≤ n' := by omega
   have i2 : (k : Int) ≤ c' := by omega
   have i3 : c' ≤ 9223372036854775807 := by unfold maxLen at hmax; omega
   have i0 : (0 : Int) ≤ k := by omega
   clear hp hW
   go_upto_region 4 with (go_at_call 110; refine HPr.out.mono ?_; rintro e w1 ⟨rfl, hb1⟩; clear c0 c1 d0 d1 f0 f1 g0 g1; have C1 := B1.below hb1 B1.lt; have C2 := B2.below hb1 B2.lt; have c0 := C1.cell 0; have c1 := C1.cell 1; have d0 := C2.cell 0; have d1 := C2.cell 1; have g0 := C2.frozen 0; have g1 := C2.frozen 1; simp only [List.getElem?_toArray, List.getElem?_cons_zero, List.getElem?_cons_succ] at c0 c1 d0 d1)
   simp only [Nat.mul_one] at hcut
   by_cases hck : c' = k
   ·rw [if_pos hck] at hcut
    subst hck
    have hz : n' - c' = 0 := by omega
    have hz2 : n' = c' := by omega
    subst hz2
    rw [Nat.sub_self] at hcut
    have Rr := blk_set2 (a' := .slice A' 0 0) (b' := .bool false) C2
    have tz := ((tx.trans (hb1.mono (by omega))).setCell (p := ⟨w.heap.size + 1, 0, none⟩) (by show w.heap.size ≤ w.heap.size + 1; omega) (.slice A' 0 0)).setCell (p := ⟨w.heap.size + 1, 1, none⟩) (by show w.heap.size ≤ w.heap.size + 1; omega) (.bool false)
    have Rd := Rr.drew
    have td := tz.drew
    clear hz
    go_region_law (fail)
    all_goals go_wp2
    all_goals exact bodyPost_ret (results_tmpc rfl _ _ (w.heap.size + 1) 95 _ (0, 0) _ rfl Rd Tryz.underlying95 rfl info_rd) rfl ⟨_, by rw [HR2.out]; rfl, by rw [HR2.out]; exact ⟨_, _, _, _, false, rfl, hcut, rfl⟩, td⟩
   ·rw [if_neg hck] at hcut
    have Rr := blk_set2 (a' := .slice (A'.map (·.add k)) (n' - k) (c' - k)) (b' := .bool false) C2
    have tz := ((tx.trans (hb1.mono (by omega))).setCell (p := ⟨w.heap.size + 1, 0, none⟩) (by show w.heap.size ≤ w.heap.size + 1; omega) (.slice (A'.map (·.add k)) (n' - k) (c' - k))).setCell (p := ⟨w.heap.size + 1, 1, none⟩) (by show w.heap.size ≤ w.heap.size + 1; omega) (.bool false)
    have Rd := Rr.drew
    have td := tz.drew
    go_region_law (fail)
    all_goals go_wp2
    all_goals exact bodyPost_ret (results_tmpc rfl _ _ (w.heap.size + 1) 95 _ (0, 0) _ rfl Rd Tryz.underlying95 rfl info_rd) rfl ⟨_, by rw [HR2.out]; rfl, by rw [HR2.out]; exact ⟨_, _, _, _, false, rfl, hcut, rfl⟩, td⟩
set_option maxHeartbeats 2000000 in
theorem uafter_ (r : Option (List ByteArray)) (v : Value) (ws : List ByteArray) (Aw : Option Addr) (nw cw : Nat) (B : Nat) (w : World) (h : RV w B r v) (hB : B ≤ w.heap.size) (hw : ws.length = nw) (hws : nw ≤ 1000) (rdw : Rd w w.heap.size 1 Aw nw (sv ws)) :
  Calls Tryz.prog 76 #[v, .slice Aw nw cw] w (NRetE w B (numR (skipsR r ws))) := by
 have HS : Hid (∀ w', Below w.heap.size w w' → Calls Tryz.prog 77 #[v, .slice Aw nw cw] w' (RRet w' B (skipsR r ws) id)) := Lib.hid fun w' hb => uskip_ r v ws Aw nw cw B w' (h.below (hb.mono hB)) (Nat.le_trans hB hb.size) hw hws ((rdw.below hb).more hb.size)
 have HNu : Hid (∀ (v' : Value) (w' : World), RV w' B (skipsR r ws) v' → Below w.heap.size w w' → Calls Tryz.prog 83 #[v'] w' (NRet w' B (numR (skipsR r ws)))) := Lib.hid fun v' w' hv hb => unumber_ _ v' B w' hv (Nat.le_trans hB hb.size)
 obtain ⟨A, n, c, l, bad, rfl, hW, rfl⟩ := h
 generalize skipsR (optR bad l) ws = S at *
 generalize numR S = R at *
 clear hW rdw hw
 have hX : Blk ((w.alloc (.cells #[.slice A n c, .bool bad] 95)).alloc (.cells #[.slice none 0 0, .bool false] 95)) w.heap.size 95 #[.slice A n c, .bool bad] ∧ Blk ((w.alloc (.cells #[.slice A n c, .bool bad] 95)).alloc (.cells #[.slice none 0 0, .bool false] 95)) (w.heap.size + 1) 95 #[.slice none 0 0, .bool false] ∧ Below w.heap.size w ((w.alloc (.cells #[.slice A n c, .bool bad] 95)).alloc (.cells #[.slice none 0 0, .bool false] 95)) :=
  ⟨Blk.alloc (Blk.new w _ _) _, Blk.new_ (by simp), ((Below.refl _ _).alloc (Nat.le_refl _) _).alloc (by simp) _⟩
 go_enter Tryz.func76, Tryz.ntmps76
 go_upto_region 1 with fail
 refine wp_fg (fun X => Blk X w.heap.size 95 #[.slice A n c, .bool bad] ∧ Blk X (w.heap.size + 1) 95 #[.slice none 0 0, .bool false] ∧ Below w.heap.size w X) hX ?_
 clear hX
 rintro X ⟨B1, B2, tx⟩
 have c0 := B1.cell 0
 have c1 := B1.cell 1
 have d0 := B2.cell 0
 have d1 := B2.cell 1
 have f0 := B1.frozen 0
 have f1 := B1.frozen 1
 have g0 := B2.frozen 0
 have g1 := B2.frozen 1
 simp only [List.getElem?_toArray, List.getElem?_cons_zero, List.getElem?_cons_succ] at c0 c1 d0 d1
 have z1 := B2.lt
 go_wp2_with (first
  | (go_at_call 77; refine (HS.out _ tx).mono ?_; rintro e w1 ⟨v1, rfl, hv0, hb1⟩; have hv1 := hv0.below (hb1.mono (Nat.le_trans hB tx.size)); have t1 := tx.trans (hb1.mono (by omega)); have C2 := B2.below hb1 B2.lt)
  | (go_at_call 83; refine (HNu.out _ _ hv1 t1).mono ?_; rintro e w2 ⟨v2, rfl, hv2, hb2⟩; have t2 := t1.trans (hb2.mono t1.size); have D2 := C2.below hb2 C2.lt; clear c0 c1 d0 d1 f0 f1 g0 g1; have d0 := D2.cell 0; have d1 := D2.cell 1; have g0 := D2.frozen 0; have g1 := D2.frozen 1; simp only [List.getElem?_toArray, List.getElem?_cons_zero, List.getElem?_cons_succ] at d0 d1; obtain ⟨A2, n2, c2, l2, bad2, rfl, hW2, hR2⟩ := hv2))
 have Rr := blk_set2 (a' := .slice A2 n2 c2) (b' := .bool bad2) D2
 have tz := (t2.setCell (p := ⟨w.heap.size + 1, 0, none⟩) (by show w.heap.size ≤ w.heap.size + 1; omega) (.slice A2 n2 c2)).setCell (p := ⟨w.heap.size + 1, 1, none⟩) (by show w.heap.size ≤ w.heap.size + 1; omega) (.bool bad2)
 exact bodyPost_ret (results_tmpc rfl _ _ (w.heap.size + 1) 95 _ (0, 0) _ rfl Rr Tryz.underlying95 rfl info_rd) rfl ⟨_, rfl, ⟨_, _, _, _, bad2, rfl, hW2.below (((hb2.mono (Nat.le_trans hB t1.size)).setCell (p := ⟨w.heap.size + 1, 0, none⟩) (by show B ≤ w.heap.size + 1; omega) (.slice A2 n2 c2)).setCell (p := ⟨w.heap.size + 1, 1, none⟩) (by show B ≤ w.heap.size + 1; omega) (.bool bad2)), hR2⟩, tz⟩
theorem fs_word {l : List ByteArray} {k : Nat} (hk : k < l.length) (h : l[k] = bWord) : findStop false (l.drop k) = (findStop false (l.drop (k + 2))).map (· + 2) := by
 rw [List.drop_eq_getElem_cons hk]
 show (if l[k] = bWord then (findStop true (l.drop (k + 1))).map (· + 1) else _) = _
 rw [if_pos h]
 by_cases h2 : k + 1 < l.length
 ·rw [List.drop_eq_getElem_cons h2]
  show Option.map (· + 1) (Option.map (· + 1) (findStop false (l.drop (k + 1 + 1)))) = _
  rw [Option.map_map]
  rfl
 ·rw [List.drop_of_length_le (by omega), List.drop_of_length_le (by omega)]
  rfl
theorem fs_stop {l : List ByteArray} {k : Nat} (hk : k < l.length) (h : l[k] = bStop) : findStop false (l.drop k) = some 0 := by
 rw [List.drop_eq_getElem_cons hk]
 show (if l[k] = bWord then _ else if l[k] = bStop then some 0 else _) = _
 rw [if_neg (by rw [h]; decide), if_pos h]
theorem fs_else {l : List ByteArray} {k : Nat} (hk : k < l.length) (h : l[k] ≠ bWord) (h2 : l[k] ≠ bStop) : findStop false (l.drop k) = (findStop false (l.drop (k + 1))).map (· + 1) := by
 rw [List.drop_eq_getElem_cons hk]
 show (if l[k] = bWord then _ else if l[k] = bStop then some 0 else (findStop false (l.drop (k + 1))).map (· + 1)) = _
 rw [if_neg h, if_neg h2]
theorem is_word {a : ByteArray} (h : a = bWord) : (a.toList == [119, 111, 114, 100]) = true := (strq (b := bWord) rfl).trans (decide_eq_true h)
theorem no_word {a : ByteArray} (h : a ≠ bWord) : (a.toList == [119, 111, 114, 100]) = false := (strq (b := bWord) rfl).trans (decide_eq_false h)
theorem is_stop {a : ByteArray} (h : a = bStop) : (a.toList == [115, 116, 111, 112]) = true := (strq (b := bStop) rfl).trans (decide_eq_true h)
theorem no_stop {a : ByteArray} (h : a ≠ bStop) : (a.toList == [115, 116, 111, 112]) = false := (strq (b := bStop) rfl).trans (decide_eq_false h)
def textAt (l : List ByteArray) (o : Option Nat) : Option (List Gl × List ByteArray) := o.bind fun i => match glyphsL (l.take i) with
 | some (g :: gs) => some (g :: gs, l.drop (i + 1))
 | _ => none
theorem textAt_eq (l : List ByteArray) : textO l = textAt l (findStop false l) := rfl
def TRet (w : World) (B : Nat) (r : Option (List Gl × List ByteArray)) (e : Ending) (w' : World) : Prop := ∃ A G c v, e = .returned (.tuple #[.slice A (List.length G) c, v]) ∧ w'.ownsRow w.heap.size 89 3 (.slice A G.length c) G.length (encGs G) ∧ RV w' B (r.map (·.2)) v ∧ Below w.heap.size w w' ∧ (r.map (·.1)).getD [] = G
set_option maxHeartbeats 4000000 in
theorem utext_ (r : Option (List ByteArray)) (v : Value) (B : Nat) (w : World) (h : RV w B r v) (hB : B ≤ w.heap.size) (hl : ∀ l, r = some l → l.length ≤ 400000) (hs : Sp w) (hu : U8 w) (hy : Sty w) :
  Calls Tryz.prog 108 #[v] w (TRet w B (r.bind textO)) := by
 obtain ⟨A, n, c, l, bad, rfl, hW, rfl⟩ := h
 obtain ⟨R, hR⟩ : ∃ x, x = (optR bad l).bind textO := ⟨_, rfl⟩
 rw [← hR]
 have hX : RX w B bad l ((w.alloc (.cells #[.slice A n c, .bool bad] 95)).alloc (.cells #[.slice none 0 0, .bool false] 95)) :=
  ⟨A, n, c, hW, Blk.alloc (Blk.new w _ _) _, Blk.new_ (by simp), ((Below.refl _ _).alloc (Nat.le_refl _) _).alloc (by simp) _⟩
 clear hW
 cases bad with
 | true =>
  have HE : Hid (R = none) := Lib.hid hR
  clear hR hl hs hu hy
  go_enter Tryz.func108, Tryz.ntmps108
  go_upto_region 1 with fail
  refine wp_fg (RX w B true l) hX ?_
  clear hX
  intro X hX
  go_wp2
  go_loopw [4] (fun x wr => x = .int .i64 0 ∧ wr = X) (fun x _ => 0)
  case atStart => exact ⟨rfl, rfl⟩
  case round =>
   obtain ⟨rfl, rfl⟩ := hrel
   obtain ⟨A', n', c', hW, B1, B2, tx⟩ := id hX
   have z1 := B2.lt
   have z0 := B1.lt
   have c0 := B1.cell 0
   have c1 := B1.cell 1
   have d0 := B2.cell 0
   have d1 := B2.cell 1
   have f0 := B1.frozen 0
   have f1 := B1.frozen 1
   have g0 := B2.frozen 0
   have g1 := B2.frozen 1
   simp only [List.getElem?_toArray, List.getElem?_cons_zero, List.getElem?_cons_succ] at c0 c1 d0 d1
   have C2 := B2
   by_cases hn : n' = 0
   ·subst hn
    go_wp2
    have Rr := blk_set2 (a' := .slice none 0 0) (b' := .bool true) C2; have tz := (tx.setCell (p := ⟨w.heap.size + 1, 0, none⟩) (by show w.heap.size ≤ w.heap.size + 1; omega) (.slice none 0 0)).setCell (p := ⟨w.heap.size + 1, 1, none⟩) (by show w.heap.size ≤ w.heap.size + 1; omega) (.bool true)
    exact bodyPost_ret (results_tmpc rfl _ _ (w.heap.size + 1) 95 _ (0, 0) _ rfl Rr Tryz.underlying95 rfl info_rd) rfl ⟨none, [], 0, _, rfl, own_nil _ _ _ _, by rw [HE.out]; exact RV.bad _ B, tz, by rw [HE.out]; rfl⟩
   ·have hn0 : (0 : Int) < n' := by omega
    clear hn
    go_wp2
    have Rr := blk_set2 (a' := .slice none 0 0) (b' := .bool true) C2; have tz := (tx.setCell (p := ⟨w.heap.size + 1, 0, none⟩) (by show w.heap.size ≤ w.heap.size + 1; omega) (.slice none 0 0)).setCell (p := ⟨w.heap.size + 1, 1, none⟩) (by show w.heap.size ≤ w.heap.size + 1; omega) (.bool true)
    exact bodyPost_ret (results_tmpc rfl _ _ (w.heap.size + 1) 95 _ (0, 0) _ rfl Rr Tryz.underlying95 rfl info_rd) rfl ⟨none, [], 0, _, rfl, own_nil _ _ _ _, by rw [HE.out]; exact RV.bad _ B, tz, by rw [HE.out]; rfl⟩
 | false =>
  have hl' := hl l rfl
  have HS : Hid (Sp w ∧ U8 w ∧ Sty w) := Lib.hid ⟨hs, hu, hy⟩
  have H0 : Hid (R = textAt l ((findStop false (l.drop 0)).map (· + 0))) := Lib.hid (by rw [hR]; show textO l = _; rw [textAt_eq]; simp)
  clear hR hl hs hu hy
  go_enter Tryz.func108, Tryz.ntmps108
  go_upto_region 1 with fail
  refine wp_fg (RX w B false l) hX ?_
  clear hX
  intro X hX
  go_wp2
  go_loopw [4] (fun x wr => ∃ (k : Nat), k ≤ l.length + 1 ∧ x = .int .i64 k ∧ RX w B false l wr ∧ Hid (R = textAt l ((findStop false (l.drop k)).map (· + k)))) (fun x _ => l.length + 1 - (intOf x).toNat)
  case atStart => exact ⟨0, by omega, rfl, hX, H0⟩
  case round =>
   clear hX H0
   obtain ⟨k, hk, rfl, hX, HK⟩ := hrel
   obtain ⟨A', n', c', hW, B1, B2, tx⟩ := id hX
   have z1 := B2.lt
   have z0 := B1.lt
   have c0 := B1.cell 0
   have c1 := B1.cell 1
   have d0 := B2.cell 0
   have d1 := B2.cell 1
   have f0 := B1.frozen 0
   have f1 := B1.frozen 1
   have g0 := B2.frozen 0
   have g1 := B2.frozen 1
   simp only [List.getElem?_toArray, List.getElem?_cons_zero, List.getElem?_cons_succ] at c0 c1 d0 d1
   have hln := hW.len
   by_cases hlt : k < n'
   ·have hkl : k < l.length := by omega
    have hki : (k : Int) < n' := by omega
    obtain ⟨bw, ow, rfl, hbw, hcw⟩ := hW.rd.at_ hlt
    rw [sv_get _ _ hkl] at hcw
    replace hcw := (tx.cell (p := ⟨bw, ow + k, none⟩) (by show bw < w.heap.size; omega)).trans hcw
    by_cases hwd : l[k] = bWord
    ·have HK2 : Hid (R = textAt l ((findStop false (l.drop (k + 2))).map (· + (k + 2)))) := Lib.hid (by rw [HK.out, fs_word hkl hwd, Option.map_map]; congr 2; funext i; show i + 2 + k = i + (k + 2); omega)
     have q1 : (l[k].toList == [119, 111, 114, 100]) = true := is_word hwd
     generalize l[k] = s at *
     clear HK hwd hW
     go_wp2
     exact ⟨⟨k + 2, by omega, by go_num, hX, HK2⟩, by simp [intOf]; omega⟩
    ·by_cases hst : l[k] = bStop
     ·have HK2 : Hid (R = textAt l (some k)) := Lib.hid (by rw [HK.out, fs_stop hkl hst]; simp)
      have q1 : (l[k].toList == [119, 111, 114, 100]) = false := no_word hwd
      have q2 : (l[k].toList == [115, 116, 111, 112]) = true := is_stop hst
      generalize l[k] = s at *
      have hcap := hW.cap
      have hmax := hW.max
      have hcut := hW.cut (k := k + 1) (by omega)
      have htk : Rd wr wr.heap.size 1 (some ⟨bw, ow, none⟩) k (sv (l.take k)) := by
       have := ((hW.rd.below (tx.mono hB)).more (Nat.le_trans hB tx.size)).take (k := k) (by omega)
       rwa [show (sv l).take (k * 1) = sv (l.take k) by simp [sv]] at this
      have HG := Lib.hid (glyphs_ (l.take k) (some ⟨bw, ow, none⟩) k c' wr (by rw [List.length_take]; omega) (by omega) hmax htk (fun s hs => hW.sz s (List.mem_of_mem_take hs)) (by rw [List.length_take]; omega) (HS.out.1.below tx (Nat.le_refl _)) (HS.out.2.1.below tx) (HS.out.2.2.below tx (Nat.le_refl _)))
      have i1 : (k : Int) ≤ c' := by omega
      have i2 : (k : Int) + 1 ≤ n' := by omega
      have i3 : (k : Int) + 1 ≤ c' := by omega
      have i4 : (c' : Int) ≤ 9223372036854775807 := by unfold maxLen at hmax; omega
      have i0 : (0 : Int) ≤ k := by omega
      have HW := Lib.hid hW
      clear HK hst hwd htk hmax hW
      have HC := hcut
      cases hg : glyphsL (l.take k) with
      | none =>
       have HE : Hid (R = none) := Lib.hid (by rw [HK2.out]; simp [textAt, hg])
       rw [hg] at HG
       clear HK2 hg hcut HC
       go_wp2_with (go_at_call 132; refine HG.out.mono ?_; rintro e w1 ⟨hb1, rfl⟩; clear c0 c1 d0 d1 f0 f1 g0 g1; have C2 := B2.below hb1 B2.lt; have d0 := C2.cell 0; have d1 := C2.cell 1; have g0 := C2.frozen 0; have g1 := C2.frozen 1; simp only [List.getElem?_toArray, List.getElem?_cons_zero, List.getElem?_cons_succ] at d0 d1)
       have Rr := blk_set2 (a' := .slice none 0 0) (b' := .bool true) C2; have tz := ((tx.trans (hb1.mono (by omega))).setCell (p := ⟨w.heap.size + 1, 0, none⟩) (by show w.heap.size ≤ w.heap.size + 1; omega) (.slice none 0 0)).setCell (p := ⟨w.heap.size + 1, 1, none⟩) (by show w.heap.size ≤ w.heap.size + 1; omega) (.bool true)
       exact bodyPost_ret (results_tmpc rfl _ _ (w.heap.size + 1) 95 _ (0, 0) _ rfl Rr Tryz.underlying95 rfl info_rd) rfl ⟨none, [], 0, _, rfl, own_nil _ _ _ _, by rw [HE.out]; exact RV.bad _ B, tz, by rw [HE.out]; rfl⟩
      | some G =>
       rw [hg] at HG
       cases G with
       | nil =>
        have HE : Hid (R = none) := Lib.hid (by rw [HK2.out]; simp [textAt, hg])
        clear HK2 hg hcut HC
        go_wp2_with (go_at_call 132; refine HG.out.mono ?_; rintro e w1 ⟨hb1, A1, c1', rfl, -⟩; clear c0 c1 d0 d1 f0 f1 g0 g1; have C2 := B2.below hb1 B2.lt; have d0 := C2.cell 0; have d1 := C2.cell 1; have g0 := C2.frozen 0; have g1 := C2.frozen 1; simp only [List.getElem?_toArray, List.getElem?_cons_zero, List.getElem?_cons_succ] at d0 d1)
        have Rr := blk_set2 (a' := .slice none 0 0) (b' := .bool true) C2; have tz := ((tx.trans (hb1.mono (by omega))).setCell (p := ⟨w.heap.size + 1, 0, none⟩) (by show w.heap.size ≤ w.heap.size + 1; omega) (.slice none 0 0)).setCell (p := ⟨w.heap.size + 1, 1, none⟩) (by show w.heap.size ≤ w.heap.size + 1; omega) (.bool true)
        exact bodyPost_ret (results_tmpc rfl _ _ (w.heap.size + 1) 95 _ (0, 0) _ rfl Rr Tryz.underlying95 rfl info_rd) rfl ⟨none, [], 0, _, rfl, own_nil _ _ _ _, by rw [HE.out]; exact RV.bad _ B, tz, by rw [HE.out]; rfl⟩
       | cons g0' gs =>
        have HE : Hid (R = some (g0' :: gs, l.drop (k + 1))) := Lib.hid (by rw [HK2.out]; simp [textAt, hg])
        have hgl : ¬ ((g0' :: gs).length : Int) = 0 := by simp; omega
        have hgl2 : (((g0' :: gs).length : Int) == 0) = false := beq_eq_false_iff_ne.2 hgl
        clear HK2 hg hcut
        generalize hGG : g0' :: gs = GG at *
        clear hGG hgl
        go_upto_region 11 with (go_at_call 132; refine HG.out.mono ?_; rintro e w1 ⟨hb1, A1, c1', rfl, hown1⟩; clear c0 c1 d0 d1 f0 f1 g0 g1; have C1 := B1.below hb1 B1.lt; have C2 := B2.below hb1 B2.lt; have c0 := C1.cell 0; have d0 := C2.cell 0; have d1 := C2.cell 1; have g0 := C2.frozen 0; have g1 := C2.frozen 1; simp only [List.getElem?_toArray, List.getElem?_cons_zero, List.getElem?_cons_succ] at c0 d0 d1)
        have tx1 := tx.trans (hb1.mono (by omega))
        have hwr : IntKind.i64.wrap ((k : Int) + 1) = (k : Int) + 1 := by rw [IntKind.wrap_i64]; omega
        have i5 : (0 : Int) ≤ (k : Int) + 1 := by omega
        simp only [Nat.mul_one] at HC
        by_cases hck : c' = k + 1
        ·rw [if_pos hck] at HC
         subst hck
         have hz2 : n' = k + 1 := by omega
         subst hz2
         rw [Nat.sub_self] at HC
         have Rr := blk_set2 (a' := .slice (some ⟨bw, ow, none⟩) 0 0) (b' := .bool false) C2; have tz := (tx1.setCell (p := ⟨w.heap.size + 1, 0, none⟩) (by show w.heap.size ≤ w.heap.size + 1; omega) (.slice (some ⟨bw, ow, none⟩) 0 0)).setCell (p := ⟨w.heap.size + 1, 1, none⟩) (by show w.heap.size ≤ w.heap.size + 1; omega) (.bool false)
         have Rd := Rr.drew
         have td := tz.drew
         go_region_law (fail)
         all_goals go_wp2
         all_goals exact bodyPost_ret (results_tmpc rfl _ _ (w.heap.size + 1) 95 _ (0, 0) _ rfl Rd Tryz.underlying95 rfl info_rd) rfl ⟨A1, GG, c1', _, rfl, own_less (base := wr.heap.size) (own_below (own_set (own_set hown1 (by show w.heap.size + 1 < wr.heap.size; omega) _) (by show w.heap.size + 1 < wr.heap.size; omega) _) (Below.refl _ _).drew) (by omega), by rw [HE.out]; exact ⟨_, _, _, _, false, rfl, HC.below (td.mono hB), rfl⟩, td, by rw [HE.out]; rfl⟩
        ·rw [if_neg hck] at HC
         have Rr := blk_set2 (a' := .slice (some ⟨bw, ow + (k + 1), none⟩) (n' - (k + 1)) (c' - (k + 1))) (b' := .bool false) C2; have tz := (tx1.setCell (p := ⟨w.heap.size + 1, 0, none⟩) (by show w.heap.size ≤ w.heap.size + 1; omega) (.slice (some ⟨bw, ow + (k + 1), none⟩) (n' - (k + 1)) (c' - (k + 1)))).setCell (p := ⟨w.heap.size + 1, 1, none⟩) (by show w.heap.size ≤ w.heap.size + 1; omega) (.bool false)
         have Rd := Rr.drew
         have td := tz.drew
         go_region_law (fail)
         all_goals go_wp2
         all_goals exact bodyPost_ret (results_tmpc rfl _ _ (w.heap.size + 1) 95 _ (0, 0) _ rfl Rd Tryz.underlying95 rfl info_rd) rfl ⟨A1, GG, c1', _, rfl, own_less (base := wr.heap.size) (own_below (own_set (own_set hown1 (by show w.heap.size + 1 < wr.heap.size; omega) _) (by show w.heap.size + 1 < wr.heap.size; omega) _) (Below.refl _ _).drew) (by omega), by rw [HE.out]; exact ⟨_, _, _, _, false, rfl, HC.below (td.mono hB), rfl⟩, td, by rw [HE.out]; rfl⟩
     ·have HK2 : Hid (R = textAt l ((findStop false (l.drop (k + 1))).map (· + (k + 1)))) := Lib.hid (by rw [HK.out, fs_else hkl hwd hst, Option.map_map]; congr 2; funext i; show i + 1 + k = i + (k + 1); omega)
      have q1 : (l[k].toList == [119, 111, 114, 100]) = false := no_word hwd
      have q2 : (l[k].toList == [115, 116, 111, 112]) = false := no_stop hst
      generalize l[k] = s at *
      clear HK hwd hst hW
      go_wp2
      exact ⟨⟨k + 1, by omega, by go_num, hX, HK2⟩, by simp [intOf]; omega⟩
   ·have HE : Hid (R = none) := Lib.hid (by rw [HK.out, List.drop_of_length_le (by omega)]; rfl)
    have hki : ¬ (k : Int) < n' := by omega
    have C2 := B2
    clear HK
    go_wp2
    have Rr := blk_set2 (a' := .slice none 0 0) (b' := .bool true) C2; have tz := (tx.setCell (p := ⟨w.heap.size + 1, 0, none⟩) (by show w.heap.size ≤ w.heap.size + 1; omega) (.slice none 0 0)).setCell (p := ⟨w.heap.size + 1, 1, none⟩) (by show w.heap.size ≤ w.heap.size + 1; omega) (.bool true)
    exact bodyPost_ret (results_tmpc rfl _ _ (w.heap.size + 1) 95 _ (0, 0) _ rfl Rr Tryz.underlying95 rfl info_rd) rfl ⟨none, [], 0, _, rfl, own_nil _ _ _ _, by rw [HE.out]; exact RV.bad _ B, tz, by rw [HE.out]; rfl⟩
end Go.Proofs.YtholajadbbdcmaaGreatDoor
namespace Go.Proofs.YtholajadbbdcmaaGreatDoor
open Go.RowKit
structure ChgM where
 c : Chg
 A : Option Addr
 cap : Nat
instance : Inhabited ChgM := ⟨⟨⟨0, 0, 0, 0, 0, []⟩, none, 0⟩⟩
def encC (x : ChgM) : List Value := [.int .i64 x.c.kind, .int .i64 x.c.row, .int .i64 x.c.col, .int .i64 x.c.count, .int .i64 x.c.til, .slice x.A x.c.glyphs.length x.cap]
def encCs (l : List ChgM) : List Value := l.flatMap encC
abbrev chgV (c : Chg) (A : Option Addr) (cap : Nat) : Value := .agg #[.int .i64 c.kind, .int .i64 c.row, .int .i64 c.col, .int .i64 c.count, .int .i64 c.til, .slice A c.glyphs.length cap]
theorem encC_len (x : ChgM) : (encC x).length = 6 := rfl
theorem encCs_cons (x : ChgM) (l : List ChgM) : encCs (x :: l) = encC x ++ encCs l := by simp [encCs]
theorem encCs_app (a b : List ChgM) : encCs (a ++ b) = encCs a ++ encCs b := by simp [encCs]
theorem encCs_len : ∀ l : List ChgM, (encCs l).length = l.length * 6
 | [] => rfl
 | r :: l => by
  rw [encCs_cons, List.length_append, encCs_len l, encC_len, List.length_cons]
  omega
theorem encCs_get : ∀ (l : List ChgM) (i j : Nat), j < 6 → (encCs l)[i * 6 + j]? = l[i]?.bind fun r => (encC r)[j]?
 | [], i, j, _ => by simp [encCs]
 | r :: l, 0, j, h => by
  rw [encCs_cons, Nat.zero_mul, Nat.zero_add, List.getElem?_append_left (by rw [encC_len]; exact h)]
  rfl
 | r :: l, i + 1, j, h => by
  rw [encCs_cons, List.getElem?_append_right (by rw [encC_len]; omega), encC_len, show (i + 1) * 6 + j - 6 = i * 6 + j by omega, encCs_get l i j h]
  rfl
theorem encC_cells (x : ChgM) : (encC x).all Value.oneCell' = true := by simp [encC, Value.oneCell']
def chgs (l : List ChgM) : List Chg := l.map ChgM.c
structure RdC (w : World) (B : Nat) (A : Option Addr) (n : Nat) (l : List ChgM) : Prop where
 rd : Rd w B 6 A n (encCs l)
 gl : ∀ x ∈ l, Rd w B 3 x.A x.c.glyphs.length (encGs x.c.glyphs) ∧ x.c.glyphs.length ≤ x.cap ∧ x.cap ≤ maxLen
theorem RdC.len {w : World} {B n : Nat} {A : Option Addr} {l : List ChgM} (h : RdC w B A n l) : l.length = n := by
 have := h.rd.1
 rw [encCs_len] at this
 omega
theorem RdC.below {w w' : World} {B n : Nat} {A : Option Addr} {l : List ChgM} (h : RdC w B A n l) (hb : Below B w w') : RdC w' B A n l :=
 ⟨h.rd.below hb, fun x hx => ⟨(h.gl x hx).1.below hb, (h.gl x hx).2⟩⟩
theorem RdC.more {w : World} {B B' n : Nat} {A : Option Addr} {l : List ChgM} (h : RdC w B A n l) (hb : B ≤ B') : RdC w B' A n l :=
 ⟨h.rd.more hb, fun x hx => ⟨(h.gl x hx).1.more hb, (h.gl x hx).2⟩⟩
theorem RdC.at_ {w : World} {B n : Nat} {A : Option Addr} {l : List ChgM} (h : RdC w B A n l) {k : Nat} (hk : k < l.length) : ∃ b o, A = some ⟨b, o, none⟩ ∧ b < B ∧ (w.cell? ⟨b, (o + k * 6), none⟩ = some (.int .i64 l[k].c.kind) ∧ w.cell? ⟨b, (o + k * 6) + 1, none⟩ = some (.int .i64 l[k].c.row) ∧ w.cell? ⟨b, (o + k * 6) + 2, none⟩ = some (.int .i64 l[k].c.col) ∧ w.cell? ⟨b, (o + k * 6) + 3, none⟩ = some (.int .i64 l[k].c.count) ∧ w.cell? ⟨b, (o + k * 6) + 4, none⟩ = some (.int .i64 l[k].c.til) ∧ w.cell? ⟨b, (o + k * 6) + 5, none⟩ = some (.slice l[k].A l[k].c.glyphs.length l[k].cap)) := by
 have hn := h.len
 obtain ⟨b, o, e, hb, hc⟩ := h.rd.2 (by omega)
 have h : ∀ j, j < 6 → ∀ u, (encC l[k])[j]? = some u → w.cell? ⟨b, o + k * 6 + j, none⟩ = some u := fun j hj u hu => by
  have := hc (k * 6 + j) u (by rw [encCs_get _ _ _ hj, List.getElem?_eq_getElem hk]; exact hu)
  rwa [← Nat.add_assoc] at this
 exact ⟨b, o, e, hb, h 0 (by omega) _ rfl, h 1 (by omega) _ rfl, h 2 (by omega) _ rfl, h 3 (by omega) _ rfl, h 4 (by omega) _ rfl, h 5 (by omega) _ rfl⟩
end Go.Proofs.YtholajadbbdcmaaGreatDoor
