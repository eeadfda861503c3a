/- Joined texts: Lt1. -/
import Derived.Test.YtejjfiipghcifaaGreatDoorQAA
import Derived.Test.YtejjfiipghcifaaGreatDoorQAB
import Derived.Test.YtejjfiipghcifaaGreatDoorQAC
import Derived.Test.YtejjfiipghcifaaGreatDoorQAD
import Derived.Test.YtejjfiipghcifaaGreatDoorQAE
import Derived.Test.YtejjfiipghcifaaGreatDoorQAF
import Derived.Test.YtejjfiipghcifaaGreatDoorQAG
import Derived.Test.YtejjfiipghcifaaGreatDoorQAH
import Derived.Test.YtejjfiipghcifaaGreatDoorQAI
set_option linter.unusedVariables false
set_option linter.unusedSimpArgs false
set_option linter.unnecessarySimpa false
namespace Go.Proofs.YtejjfiipghcifaaGreatDoor
open Go.RowKit
set_option maxRecDepth 20000
set_option maxHeartbeats 1000000 in
theorem number_w (n : Nat) (hn : n ≤ 999999999) (w : World) : Calls Tryz.prog 111 #[.int .i64 n] w (GivesOwn 9 1 id w (numW n).length (sv (numW n))) := by
 have HW : Hid (∀ w, Calls Tryz.prog 25 #[.int .i64 n] w (GivesOwn 9 1 okPair w (numW n).length (sv (numW n)))) := Lib.hid fun w => by
  have h := words_in (n : Int) (by omega) (by omega) w
  rw [wv_sv] at h
  unfold numW
  rw [List.length_map]
  exact h
 generalize numW n = L at *
 unfold okPair at HW
 go_enter Tryz.func111, Tryz.ntmps111
 go_wp2_with (go_at_call 25; refine (HW.out _).mono ?_; rintro e w1 ⟨A1, c1, rfl, hown1, hbel1⟩)
 go_ret
 exact ⟨A1, c1, rfl, hown1, hbel1⟩
def capsT (T : List UInt8) : Nat := (T.filter fun c => kindB c.toNat == 2).length
def capW (n : Nat) : List ByteArray := if n = 1 then [bCap] else if 1 < n then [bCaps] else []
def lettersT (T : List UInt8) (spell : Bool) : List ByteArray :=
 capW (capsT T) ++ (if spell = true then bSpelled :: ((T.map lowB).map fun c => (⟨#[c]⟩ : ByteArray)) ++ [bEnd] else (if resB ⟨(T.map lowB).toArray⟩ = true then [bWord] else []) ++ [⟨(T.map lowB).toArray⟩])
theorem lowerB_eq (c : UInt8) : Lib.lowerB c = lowB c := by
 unfold Lib.lowerB Lib.isUpperB lowB
 simp only [Bool.and_eq_true, decide_eq_true_eq, UInt8.le_iff_toNat_le]
 rfl
theorem charsB_eq (T : List UInt8) : Lib.charsB ⟨T.toArray⟩ = T.map fun c => (⟨#[c]⟩ : ByteArray) := by
 rw [Lib.charsB.eq_1, Lib.charsUpTo.eq_1]
 have hs : (⟨T.toArray⟩ : ByteArray).size = T.length := by show T.toArray.size = _; simp
 apply List.ext_getElem
 ·simp [hs]
 ·intro i h1 h2
  simp only [List.getElem_map, List.getElem_range]
  have hi : i < T.length := by simpa using h2
  apply ByteArray.ext
  apply Array.toList_inj.1
  rw [ByteArray.data_extract]
  simp only [Array.toList_extract, List.extract_eq_take_drop]
  simp
  rw [List.drop_eq_getElem_cons hi]
  rfl
theorem low_same (c : UInt8) : c.toNat = (lowB c).toNat ↔ kindB c.toNat ≠ 2 := by
 unfold lowB kindB
 have hb := UInt8.toNat_lt c
 split
 ·have e : (c + 32).toNat = c.toNat + 32 := by
   rw [UInt8.toNat_add]
   show (c.toNat + 32) % 256 = _
   omega
  rw [e]
  (repeat' split) <;> omega
 ·(repeat' split) <;> omega
theorem capsT_succ {T : List UInt8} {k : Nat} (h : k < T.length) : capsT (T.take (k + 1)) = capsT (T.take k) + if kindB T[k].toNat = 2 then 1 else 0 := by
 have e : T.take (k + 1) = T.take k ++ [T[k]] := (List.take_append_getElem h).symm
 unfold capsT
 rw [e, List.filter_append, List.length_append]
 by_cases h2 : kindB T[k].toNat = 2 <;> simp [h2]
theorem capsT_le (T : List UInt8) : capsT T ≤ T.length := List.length_filter_le _ _
abbrev stV (rate : Int) (digits spell : Bool) (rep : Int) (con : Bool) (cells : Int) : Value := .agg #[.int .i64 rate, .bool digits, .bool spell, .int .i64 rep, .bool con, .int .i64 cells]
def StBox (w : World) (r : Int) (d s : Bool) (p : Int) (c : Bool) (k : Int) (g : Nat) : Prop :=
 w.cell? ⟨g, 0, none⟩ = some (.int .i64 r) ∧ w.cell? ⟨g, 1, none⟩ = some (.bool d) ∧ w.cell? ⟨g, 2, none⟩ = some (.bool s) ∧ w.cell? ⟨g, 3, none⟩ = some (.int .i64 p) ∧ w.cell? ⟨g, 4, none⟩ = some (.bool c) ∧ w.cell? ⟨g, 5, none⟩ = some (.int .i64 k)
theorem StBox.new (w : World) (r : Int) (d s : Bool) (p : Int) (c : Bool) (k : Int) (t : TypeId) : StBox (w.alloc (.cells #[.int .i64 r, .bool d, .bool s, .int .i64 p, .bool c, .int .i64 k] t)) r d s p c k w.heap.size :=
 ⟨cell_built w _ _ 0, cell_built w _ _ 1, cell_built w _ _ 2, cell_built w _ _ 3, cell_built w _ _ 4, cell_built w _ _ 5⟩
theorem StBox.below {w w' : World} {B g : Nat} {r : Int} {d s : Bool} {p : Int} {c : Bool} {k : Int} (h : StBox w r d s p c k g) (hb : Below B w w') (hg : g < B) : StBox w' r d s p c k g := by
 obtain ⟨h0, h1, h2, h3, h4, h5⟩ := h
 exact ⟨(hb.cell hg).trans h0, (hb.cell hg).trans h1, (hb.cell hg).trans h2, (hb.cell hg).trans h3, (hb.cell hg).trans h4, (hb.cell hg).trans h5⟩
set_option maxHeartbeats 4000000 in
theorem letters_ (X : ByteArray) (T : List UInt8) (hXT : X.data.toList = T) (hT : ∀ c ∈ T, c.toNat < 128) (hl : T.length ≤ 1000000) (r : Int) (d sp : Bool) (p : Int) (con : Bool) (k : Int) (w : World) (hs : Sp w) :
  Calls Tryz.prog 107 #[.string X, stV r d sp p con k] w (GivesOwn 9 1 id w (lettersT T sp).length (sv (lettersT T sp))) := by
 have hsz : X.size = T.length := by rw [← hXT]; simp
 have hlow : Lib.toLowerA T = T.map lowB := by
  rw [Lib.toLowerA.eq_1]
  exact List.map_congr_left fun c _ => lowerB_eq c
 obtain ⟨Y, hY⟩ : ∃ Y : ByteArray, Y = ⟨(T.map lowB).toArray⟩ := ⟨_, rfl⟩
 have HLow : Hid (∀ w, Calls Tryz.prog 133 #[.string X] w (Gives (.string Y) w)) := Lib.hid fun w => by
  have h := Tryz.strings_ToLower_ascii X w (by omega) (fun j b hb => hT b (by rw [← hXT]; exact List.mem_of_getElem? hb))
  rw [hXT, hlow, ← hY] at h
  exact h
 have hszY : Y.size = T.length := by rw [hY]; show (List.toArray _).size = _; simp
 have HS := Lib.hid hs
 have HC0 : Hid (capsT (T.take 0) = 0) := Lib.hid rfl
 have HCS : Hid (∀ k (h : k < T.length), capsT (T.take (k + 1)) = capsT (T.take k) + if kindB T[k].toNat = 2 then 1 else 0) := Lib.hid fun k h => capsT_succ h
 have HCL : Hid (∀ k, capsT (T.take k) ≤ k) := Lib.hid fun k => Nat.le_trans (capsT_le _) (by rw [List.length_take]; omega)
 have HTA : Hid (T.take T.length = T) := Lib.hid List.take_length
 have HSame : Hid (∀ c : UInt8, c.toNat = (lowB c).toNat ↔ kindB c.toNat ≠ 2) := Lib.hid low_same
 have HXk : Hid (∀ (k : Nat) (h : k < T.length) (h2 : k < X.size), X[k] = T[k]) := Lib.hid fun k h h2 => by subst hXT; rfl
 have HYk : Hid (∀ (k : Nat) (h : k < T.length) (h2 : k < Y.size), Y[k] = lowB T[k]) := Lib.hid fun k h h2 => by
  subst hY
  show (List.toArray (T.map lowB))[k]'_ = _
  simp
 have HR : Hid (∀ w, Sp w → Calls Tryz.prog 135 #[.string Y] w (Gives (.bool (resB Y)) w)) := Lib.hid fun w hs => Reserved_ Y (by unfold maxLen; omega) w hs
 have HCh : Hid (∀ w, Calls Tryz.prog 134 #[.string Y, .string ⟨#[]⟩] w (GivesOwn 9 1 id w T.length (sv ((T.map lowB).map fun c => (⟨#[c]⟩ : ByteArray))))) := Lib.hid fun w => by
  have hlo : ∀ c : UInt8, c.toNat < 128 → (lowB c).toNat < 128 := fun c hc => by
   unfold lowB
   split
   ·rw [UInt8.toNat_add]
    show (c.toNat + 32) % 256 < 128
    omega
   ·exact hc
  have h := Tryz.strings_Split_chars Y ⟨#[]⟩ w rfl (by omega) (fun j b hb => by
   rw [hY] at hb
   have hm : b ∈ T.map lowB := List.mem_of_getElem? hb
   obtain ⟨c, hc, rfl⟩ := List.mem_map.1 hm
   exact hlo c (hT c hc))
  refine h.mono ?_
  rintro e w' ⟨rfl, rfl⟩
  have hch : Lib.charsB Y = (T.map lowB).map fun c => (⟨#[c]⟩ : ByteArray) := by rw [hY]; exact charsB_eq _
  have hit : (w.iter Y Y.size).heap.size = w.heap.size + 1 := by rw [World.iter.eq_1]; simp
  rw [hszY] at hit ⊢
  refine ⟨_, _, rfl, ?_, ?_⟩
  ·rw [hch]
   exact own_built (xs := sv _) rfl (by simp [sv]) (by omega) (by omega)
  ·refine Below.alloc ?_ (by omega) _
   rw [World.iter.eq_1]
   exact (Below.refl _ _).alloc (Nat.le_refl _) _
 have HLen : Hid (((T.map lowB).map fun c => (⟨#[c]⟩ : ByteArray)).length = T.length) := Lib.hid (by simp)
 unfold lettersT
 rw [← hY]
 generalize ((T.map lowB).map fun c => (⟨#[c]⟩ : ByteArray)) = CH at *
 generalize resB Y = RB at *
 obtain ⟨RES, hRES⟩ : ∃ x, x = capW (capsT T) ++ (if sp = true then bSpelled :: CH ++ [bEnd] else (if RB = true then [bWord] else []) ++ [Y]) := ⟨_, rfl⟩
 rw [← hRES]
 replace hRES := Lib.hid hRES
 clear hs hlow hXT hT hY
 go_enter Tryz.func107, Tryz.ntmps107
 go_upto_region 2 with fail
 refine wp_fg (fun wx => StBox wx r d sp p con k w.heap.size ∧ Below w.heap.size w wx ∧ w.heap.size + 1 ≤ wx.heap.size) ⟨StBox.new w r d sp p con k _, (Below.refl _ _).alloc (Nat.le_refl _) _, by simp⟩ ?_
 rintro wb ⟨hst, hb0, hz0⟩
 go_wp2_with (go_at_call 133; refine (HLow.out _).mono ?_; rintro e w1 ⟨rfl, hbel1⟩)
 have hst1 := hst.below hbel1 hz0
 have hb1 := hb0.trans (hbel1.mono (by omega))
 have hz1 := Nat.le_trans hz0 hbel1.size
 go_loopw [7, 13] (fun v x wr => ∃ j q : Nat, j ≤ T.length ∧ x = .int .i64 j ∧ v = .int .i64 (capsT (T.take j) : Nat) ∧ wr = w1.drewN q) (fun _ x _ => T.length - (intOf x).toNat)
 case atStart => exact ⟨0, 0, Nat.zero_le _, rfl, by rw [HC0.out]; rfl, rfl⟩
 case round =>
  obtain ⟨j, q, hj, rfl, rfl, rfl⟩ := hrel
  have hcl := HCL.out j
  by_cases hlt : j < T.length
  ·have hx := HXk.out j hlt (by rw [hsz]; exact hlt)
   have hy := HYk.out j hlt (by rw [hszY]; exact hlt)
   have hS := HSame.out T[j]
   have hcs := HCS.out j hlt
   have hjx : j < X.size := by rw [hsz]; exact hlt
   have hjy : j < Y.size := by rw [hszY]; exact hlt
   by_cases h2 : kindB T[j].toNat = 2
   ·rw [if_pos h2] at hcs
    have hne : ((X[j].toNat : Int) == (Y[j].toNat : Int)) = false := beq_eq_false_iff_ne.2 (fun e => hS.1 (by rw [hx, hy] at e; omega) h2)
    replace hcs := Lib.hid hcs
    clear hS hx hy h2
    generalize capsT (T.take j) = C at *
    go_wp2
    go_quiet (fail)
    go_wp2
    exact ⟨⟨j + 1, _, by omega, by go_num, by rw [hcs.out]; go_num, rfl⟩, by simp [intOf]; omega⟩
   ·rw [if_neg h2] at hcs
    have hne : ((X[j].toNat : Int) == (Y[j].toNat : Int)) = true := beq_iff_eq.2 (by rw [hx, hy]; have := hS.2 h2; omega)
    replace hcs := Lib.hid hcs
    clear hS hx hy h2
    generalize capsT (T.take j) = C at *
    go_wp2
    go_quiet (fail)
    go_wp2
    exact ⟨⟨j + 1, _, by omega, by go_num, by rw [hcs.out, Nat.add_zero], rfl⟩, by simp [intOf]; omega⟩
  ·obtain rfl : j = T.length := by omega
   rw [HTA.out] at hcl ⊢
   have hst2 : StBox (w1.drewN q) r d sp p con k w.heap.size := hst1
   have hb2 : Below w.heap.size w (w1.drewN q) := below_drewN hb1
   have hz2 : w.heap.size + 1 ≤ (w1.drewN q).heap.size := hz1
   generalize w1.drewN q = wd at *
   generalize capsT T = C at *
   go_upto_block 2 with fail
   go_cut [5] (fun v wx => ∃ A c, v = .slice A (capW C).length c ∧ wx.ownsRow (w.heap.size + 1) 9 1 (.slice A (capW C).length c) (capW C).length (sv (capW C)) ∧ Below (w.heap.size + 1) wd wx)
   case first =>
    by_cases c1 : C = 1
    ·subst c1
     go_wp2_with (at_builtin; go_must (refine app_list rfl _ _ _ rfl elt_str ((w.heap.size + 1)) _ rfl (own_nil _ _ _ _) _ _ rfl ((rd_built (by rfl) rfl)) (by first | rfl | exact sv_one _ | exact wv_one _) (by omega) (by omega) (by first | (simp; done) | (simp; omega) | omega) ?_); intro A4 c4 w4 hown4 hbel4 hgr4 hat4; have z4 := hbel4.size; (try simp only [World.size_alloc] at z4); (try simp only [Nat.zero_add, List.nil_append] at hown4))
     go_meet
     exact ⟨A4, c4, rfl, hown4, ((Below.refl _ _).alloc hz2 _).trans hbel4⟩
    ·have e1 : ((C : Int) == 1) = false := beq_eq_false_iff_ne.2 (by omega)
     by_cases c2 : 1 < C
     ·have e2 : capW C = [bCaps] := by unfold capW; rw [if_neg c1, if_pos c2]
      replace e2 := Lib.hid e2
      clear c1
      go_wp2_with (at_builtin; go_must (refine app_list rfl _ _ _ rfl elt_str ((w.heap.size + 1)) _ rfl (own_nil _ _ _ _) _ _ rfl ((rd_built (by rfl) rfl)) (by first | rfl | exact sv_one _ | exact wv_one _) (by omega) (by omega) (by first | (simp; done) | (simp; omega) | omega) ?_); intro A4 c4 w4 hown4 hbel4 hgr4 hat4; have z4 := hbel4.size; (try simp only [World.size_alloc] at z4); (try simp only [Nat.zero_add, List.nil_append] at hown4))
      go_meet
      rw [e2.out]
      exact ⟨A4, c4, rfl, hown4, ((Below.refl _ _).alloc hz2 _).trans hbel4⟩
     ·have e2 : capW C = [] := by unfold capW; rw [if_neg c1, if_neg c2]
      replace e2 := Lib.hid e2
      clear c1
      go_wp2
      go_meet
      rw [e2.out]
      exact ⟨none, 0, rfl, own_nil _ _ _ _, Below.refl _ _⟩
   case rest =>
    obtain ⟨A, c, rfl, hown, hbx⟩ := hcut
    have hst3 := hst2.below hbx (Nat.lt_succ_self _)
    have hb3 := hb2.trans (hbx.mono (Nat.le_succ _))
    have hz3 := Nat.le_trans hz2 hbx.size
    have hpl : (capW C).length ≤ 1 := by
     unfold capW
     split
     ·simp
     ·split <;> simp
    have hCl := HLen.out
    generalize capW C = P at *
    obtain ⟨s0, s1, s2, s3, s4, s5⟩ := hst3
    clear s0 s1 s3 s4 s5 hst hst1 hst2 HCS HCL HTA HSame HXk HYk HC0 hb0 hb1 hb2 hbx hbel1 hz0 hz1 hz2
    have HSx := Lib.hid (HS.out.below hb3 (Nat.le_refl _))
    cases sp with
    | true =>
     have HR2 : Hid (RES = P ++ (bSpelled :: CH ++ [bEnd])) := Lib.hid (by rw [hRES.out, if_pos rfl])
     clear hRES HR HLow
     go_wp2_with (first
      | (go_at_call 134; refine (HCh.out _).mono ?_; rintro e w5 ⟨A5, c5, rfl, hown5, hbel5⟩; have z5 := hbel5.size)
      | ((fail_if_success have := hown4); (at_builtin; go_must (refine app_list rfl _ _ _ rfl elt_str ((w.heap.size + 1)) _ rfl ((hown.alloc _)) _ _ rfl ((rd_built (by rfl) rfl)) (by first | rfl | exact sv_one _ | exact wv_one _) (by omega) (by omega) (by first | (simp; done) | (simp; omega) | omega) ?_); intro A4 c4 w4 hown4 hbel4 hgr4 hat4; have z4 := hbel4.size; (try simp only [World.size_alloc] at z4); (try simp only [Nat.zero_add, List.nil_append] at hown4)))
      | ((fail_if_success have := hown6); (at_builtin; go_must (refine app_list rfl _ _ _ rfl elt_str ((w.heap.size + 1)) _ rfl ((own_below hown4 hbel5)) _ _ rfl ((Rd.of_own hown5)) (by first | rfl | exact sv_one _ | exact wv_one _) (by omega) (by omega) (by first | (simp; done) | (simp; omega) | omega) ?_); intro A6 c6 w6 hown6 hbel6 hgr6 hat6; have z6 := hbel6.size; (try simp only [World.size_alloc] at z6); (try simp only [Nat.zero_add, List.nil_append] at hown6)))
      | (at_builtin; go_must (refine app_list rfl _ _ _ rfl elt_str ((w.heap.size + 1)) _ rfl ((hown6.alloc _)) _ _ rfl ((rd_built (by rfl) rfl)) (by first | rfl | exact sv_one _ | exact wv_one _) (by omega) (by omega) (by first | (simp; done) | (simp; omega) | omega) ?_); intro A7 c7 w7 hown7 hbel7 hgr7 hat7; have z7 := hbel7.size; (try simp only [World.size_alloc] at z7); (try simp only [Nat.zero_add, List.nil_append] at hown7)))
     go_ret
     have el : RES.length = P.length + 1 + T.length + 1 := by rw [HR2.out]; simp; omega
     have es : sv RES = sv P ++ [Value.string bSpelled] ++ sv CH ++ [Value.string bEnd] := by rw [HR2.out]; simp [sv]
     rw [el, es]
     exact ⟨A7, c7, rfl, own_less hown7 (Nat.le_succ _), ((((hb3.alloc (by omega) _).trans (hbel4.mono (by omega))).trans (hbel5.mono (by omega))).trans (hbel6.mono (by omega))).alloc (by omega) _ |>.trans (hbel7.mono (by omega))⟩
    | false =>
     have HRw := Lib.hid (HR.out _ HSx.out)
     clear HR HLow HCh
     cases RB with
     | true =>
      have HR2 : Hid (RES = P ++ [bWord] ++ [Y]) := Lib.hid (by rw [hRES.out, if_neg (by simp), if_pos rfl]; simp)
      clear hRES
      go_wp2_with (first
       | (go_at_call 135; refine HRw.out.mono ?_; rintro e w5 ⟨rfl, hbel5⟩; have z5 := hbel5.size)
       | ((fail_if_success have := hown4); (at_builtin; go_must (refine app_list rfl _ _ _ rfl elt_str ((w.heap.size + 1)) _ rfl (((own_below hown hbel5).alloc _)) _ _ rfl ((rd_built (by rfl) rfl)) (by first | rfl | exact sv_one _ | exact wv_one _) (by omega) (by omega) (by first | (simp; done) | (simp; omega) | omega) ?_); intro A4 c4 w4 hown4 hbel4 hgr4 hat4; have z4 := hbel4.size; (try simp only [World.size_alloc] at z4); (try simp only [Nat.zero_add, List.nil_append] at hown4)))
       | (at_builtin; go_must (refine app_list rfl _ _ _ rfl elt_str ((w.heap.size + 1)) _ rfl ((hown4.alloc _)) _ _ rfl ((rd_built (by rfl) rfl)) (by first | rfl | exact sv_one _ | exact wv_one _) (by omega) (by omega) (by first | (simp; done) | (simp; omega) | omega) ?_); intro A6 c6 w6 hown6 hbel6 hgr6 hat6; have z6 := hbel6.size; (try simp only [World.size_alloc] at z6); (try simp only [Nat.zero_add, List.nil_append] at hown6)))
      go_ret
      have el : RES.length = P.length + 1 + 1 := by rw [HR2.out]; simp
      have es : sv RES = sv P ++ [Value.string bWord] ++ [Value.string Y] := by rw [HR2.out]; simp [sv]
      rw [el, es]
      exact ⟨A6, c6, rfl, own_less hown6 (Nat.le_succ _), (((((hb3.trans (hbel5.mono (by omega))).alloc (by omega) _).trans (hbel4.mono (by omega))).alloc (by omega) _).trans (hbel6.mono (by omega)))⟩
     | false =>
      have HR2 : Hid (RES = P ++ [Y]) := Lib.hid (by rw [hRES.out, if_neg (by simp), if_neg (by simp)]; simp)
      clear hRES
      go_wp2_with (first
       | (go_at_call 135; refine HRw.out.mono ?_; rintro e w5 ⟨rfl, hbel5⟩; have z5 := hbel5.size)
       | (at_builtin; go_must (refine app_list rfl _ _ _ rfl elt_str ((w.heap.size + 1)) _ rfl (((own_below hown hbel5).alloc _)) _ _ rfl ((rd_built (by rfl) rfl)) (by first | rfl | exact sv_one _ | exact wv_one _) (by omega) (by omega) (by first | (simp; done) | (simp; omega) | omega) ?_); intro A4 c4 w4 hown4 hbel4 hgr4 hat4; have z4 := hbel4.size; (try simp only [World.size_alloc] at z4); (try simp only [Nat.zero_add, List.nil_append] at hown4)))
      go_ret
      have el : RES.length = P.length + 1 := by rw [HR2.out]; simp
      have es : sv RES = sv P ++ [Value.string Y] := by rw [HR2.out]; simp [sv]
      rw [el, es]
      exact ⟨A4, c4, rfl, own_less hown4 (Nat.le_succ _), (((hb3.trans (hbel5.mono (by omega))).alloc (by omega) _).trans (hbel4.mono (by omega)))⟩
end Go.Proofs.YtejjfiipghcifaaGreatDoor
