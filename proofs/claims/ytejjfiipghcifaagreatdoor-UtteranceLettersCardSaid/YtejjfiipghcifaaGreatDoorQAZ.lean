/- Joined texts: Pa2, Pa3. -/
import Derived.Test.YtejjfiipghcifaaGreatDoorQAY
set_option linter.unusedVariables false
set_option linter.unusedSimpArgs false
set_option linter.unnecessarySimpa false
namespace Go.Proofs.YtejjfiipghcifaaGreatDoor
open Go.RowKit
set_option maxRecDepth 20000
theorem par_put {X w4 : World} {g nb n N c0 c4 : Nat} {A0 A4 : Option Addr} {v : Value} {st : Int} {j : Bool} {ys : List Value}
  (hX : Blk X g 134 (parC nb v (.slice A0 n c0) st j)) (hown4 : w4.ownsRow (g + 1) 48 3 (.slice A4 N c4) N ys) (hbel4 : Below (g + 1) X w4) :
  Blk (w4.setCell ⟨g, 2, none⟩ (.slice A4 N c4)) g 134 (parC nb v (.slice A4 N c4) st j) ∧ (w4.setCell ⟨g, 2, none⟩ (.slice A4 N c4)).ownsRow (g + 1) 48 3 (.slice A4 N c4) N ys ∧ Below g X (w4.setCell ⟨g, 2, none⟩ (.slice A4 N c4)) := by
 have hb4 := hX.below hbel4 (Nat.lt_succ_self g)
 refine ⟨?_, own_set hown4 (Nat.lt_succ_self g) _, (hbel4.mono (Nat.le_succ g)).setCell (Nat.le_refl _) _⟩
 have := hb4.set_ 2 (.slice A4 N c4)
 simpa [parC] using this
def PaT (w : World) (g nb : Nat) (v : Value) (st : Int) (j : Bool) (O : List Gl) (wx : World) : Prop :=
 ∃ A c, Blk wx g 134 (parC nb v (.slice A O.length c) st j) ∧ wx.ownsRow (g + 1) 48 3 (.slice A O.length c) O.length (encGs O) ∧ Below g w wx
theorem PaT.put {w X w4 : World} {g nb n N c0 c4 : Nat} {A0 A4 : Option Addr} {v : Value} {st : Int} {j : Bool} {ys : List Value} {O : List Gl}
  (hX : Blk X g 134 (parC nb v (.slice A0 n c0) st j)) (tX : Below g w X) (hown4 : w4.ownsRow (g + 1) 48 3 (.slice A4 N c4) N ys) (hbel4 : Below (g + 1) X w4) (hN : O.length = N) (hy : encGs O = ys) :
  PaT w g nb v st j O (w4.setCell ⟨g, 2, none⟩ (.slice A4 N c4)) := by
 subst hN hy
 obtain ⟨h1, h2, h3⟩ := par_put hX hown4 hbel4
 exact ⟨A4, c4, h1, h2, tX.trans h3⟩
theorem one_byteP (s : ByteArray) (j : Nat) (h : j < s.size) : s.extract j (j + 1) = ⟨#[s[j]]⟩ := by
 apply ByteArray.ext
 apply Array.toList_inj.1
 rw [ByteArray.data_extract]
 simp only [Array.toList_extract, List.extract_eq_take_drop]
 rw [Nat.add_sub_cancel_left, List.drop_eq_getElem_cons (by simpa using h)]
 rfl
theorem text_snoc (O : List Gl) (st : Int) (T : List UInt8) (j : Nat) (h : j < T.length) : O ++ (T.take (j + 1)).map (chG st) = (O ++ (T.take j).map (chG st)) ++ [chG st T[j]] := by
 rw [(List.take_append_getElem h).symm, List.map_append, ← List.append_assoc]
 rfl
theorem encGs_one (g : Gl) : encGs [g] = encG g := by simp [encGs]
set_option maxHeartbeats 8000000 in
theorem text_ (p : Prs) (s : ByteArray) (hs : s.size ≤ 1000000) (ho : p.out.length ≤ 1000000000) (g nb : Nat) (w : World) (h : PaS w g nb p) :
  Calls Tryz.prog 173 #[.pointer (some ⟨g, 0, none⟩), .string s] w fun e w' => e = .returned (.tuple #[]) ∧ PaS w' g nb ⟨p.words, p.out ++ textG p.joins p.style s, p.style, true⟩ ∧ Below g w w' := by
 have hgl := h.lt
 obtain ⟨A, n, c, A2, c2, h1, h2, h3, h4, h5⟩ := h
 obtain ⟨W, O, st, J⟩ := p
 dsimp only at *
 have HF : Hid (∀ w', PaT w g nb (.slice A n c) st true (O ++ textG J st s) w' → PaS w' g nb ⟨W, O ++ textG J st s, st, true⟩ ∧ Below g w w') := Lib.hid fun w' ⟨A', c', a1, a2, a3⟩ =>
  ⟨⟨A, n, c, A', c', h1, h2, a1, h4.below a3, a2⟩, a3⟩
 obtain ⟨O1, hO1⟩ : ∃ x, x = O ++ (if J = true then [chG st 32] else []) := ⟨_, rfl⟩
 have hO1l : O1.length ≤ O.length + 1 := by
  rw [hO1, List.length_append]
  split <;> simp
 have HE : Hid (O ++ textG J st s = O1 ++ (s.data.toList.take s.data.toList.length).map (chG st)) := Lib.hid (by rw [hO1, textG, List.take_length, List.append_assoc])
 have HT : Hid (∀ j (h : j < s.size), O1 ++ (s.data.toList.take (j + 1)).map (chG st) = (O1 ++ (s.data.toList.take j).map (chG st)) ++ [chG st s[j]]) := Lib.hid fun j h => text_snoc O1 st _ j (by simpa using h)
 have HX : Hid (∀ j (h : j < s.size), s.extract j (j + 1) = ⟨#[s[j]]⟩) := Lib.hid (one_byteP s)
 have HL : Hid (∀ j, (O1 ++ (s.data.toList.take j).map (chG st)).length ≤ 1000000001 + j) := Lib.hid fun j => by
  rw [List.length_append, List.length_map, List.length_take]
  omega
 have HZ : Hid (s.data.toList.length = s.size) := Lib.hid (by simp)
 have H0 : Hid (O1 = O1 ++ (s.data.toList.take 0).map (chG st)) := Lib.hid (by simp)
 generalize O ++ textG J st s = Q at *
 generalize hv : Value.slice A n c = v at *
 have C2 := h3.cell 2
 have C3 := h3.cell 3
 have C4 := h3.cell 4
 have F2 := h3.frozen 2
 simp only [parC, List.getElem?_toArray, List.getElem?_cons_zero, List.getElem?_cons_succ] at C2 C3 C4
 have tw : Below g w w := Below.refl _ _
 clear h1 h2 h4 hv
 cases J with
 | false =>
  rw [if_neg (by simp), List.append_nil] at hO1
  have hpa : PaT w g nb v st false O1 w := by subst hO1; exact ⟨A2, c2, h3, h5, tw⟩
  clear hO1 hO1l
  go_enter Tryz.func173, Tryz.ntmps173
  go_upto_block 0 with fail
  go_upto_region 2 with fail
  refine wp_fg (PaT w g nb v st false O1) hpa ?_
  clear hpa C2 C3 C4 F2 tw
  clear h3 h5
  intro wx hpx
  go_wp2
  go_loopw [25] (fun x wr => ∃ j : Nat, j ≤ s.size ∧ x = .int .i64 j ∧ PaT w g nb v st false (O1 ++ (s.data.toList.take j).map (chG st)) wr) (fun x _ => s.size - (intOf x).toNat)
  case atStart => exact ⟨0, Nat.zero_le _, rfl, by rw [← H0.out]; exact hpx⟩
  case round =>
   clear hpx
   obtain ⟨j, hj, rfl, A6, c6, Bx, ox, tx⟩ := hrel
   by_cases hlt : j < s.size
   ·have hx := HX.out j hlt
    have HTj := Lib.hid (HT.out j hlt)
    have hlen := HL.out j
    have HQl : Hid ((O1 ++ (s.data.toList.take (j + 1)).map (chG st)).length = (O1 ++ (s.data.toList.take j).map (chG st)).length + 1) := Lib.hid (by rw [HTj.out, List.length_append]; rfl)
    have HQs : Hid (encGs (O1 ++ (s.data.toList.take (j + 1)).map (chG st)) = encGs (O1 ++ (s.data.toList.take j).map (chG st)) ++ encG (chG st s[j])) := Lib.hid (by rw [HTj.out, encGs_app, encGs_one])
    clear HTj HT HX HE H0 HF HL
    generalize O1 ++ (s.data.toList.take j).map (chG st) = OJ at *
    generalize s[j] = cj at *
    have C2 := Bx.cell 2
    have C3 := Bx.cell 3
    have F2 := Bx.frozen 2
    simp only [parC, List.getElem?_toArray, List.getElem?_cons_zero, List.getElem?_cons_succ] at C2 C3
    have hown := (World.ownsRow.alloc (own_below ox (Below.refl wr.heap.size wr).drew) (.cells (encG (chG st cj)).toArray 48))
    have BS := (Blk.alloc Bx (.cells (encG (chG st cj)).toArray 48)).drew
    have hgr : g < wr.heap.size := Bx.lt
    have hwj : IntKind.i64.wrap ((j : Int) + 1) = (j : Int) + 1 := by rw [IntKind.wrap_i64]; omega
    have hj0 : (0 : Int) ≤ (j : Int) + 1 := by omega
    have hj1 : (j : Int) + 1 ≤ s.size := by omega
    have hj2 : (j : Int) ≤ (j : Int) + 1 := by omega
    have hj3 : ((j : Int) + 1).toNat = j + 1 := by omega
    have tX : Below g w (wr.alloc (.cells (encG (chG st cj)).toArray 48)).drew := (tx.alloc (Nat.le_of_lt hgr) _).drew
    go_upto_region 5 with fail
    go_region_law (refine app_step rfl _ _ _ rfl elt_gl ((g + 1)) _ rfl (hown) _ _ rfl ((rd_built (xs := encG (chG st cj)) rfl rfl)) (rfl) (by omega) (by omega) (by first | (simp; done) | (simp; omega) | omega) ?_; intro A4 c4 w4 hown4 hbel4 hgr4 hat4; have z4 := hbel4.size; (try simp only [Nat.zero_add, List.nil_append] at hown4); have B4 := (Blk.alloc (Blk.drew Bx) (.cells (encG (chG st cj)).toArray 48)).below hbel4 (Nat.lt_succ_self g); have c42 := B4.cell 2; have f42 := B4.frozen 2; simp only [parC, List.getElem?_toArray, List.getElem?_cons_zero, List.getElem?_cons_succ] at c42)
    all_goals go_wp2
    all_goals exact ⟨⟨j + 1, by omega, by go_num, PaT.put BS tX hown4 hbel4 HQl.out HQs.out⟩, by simp [intOf]; omega⟩
   ·obtain rfl : j = s.size := by omega
    have HQ : Hid (Q = O1 ++ (s.data.toList.take s.size).map (chG st)) := Lib.hid (by rw [HE.out, HZ.out])
    rw [← HQ.out] at Bx ox
    clear HT HX HE H0 HL HQ
    have F4 := Bx.frozen 4
    have C4 := Bx.cell 4
    simp only [parC, List.getElem?_toArray, List.getElem?_cons_zero, List.getElem?_cons_succ] at C4
    go_wp2
    go_end0
    have h4' := HF.out (wr.setCell ⟨g, 4, none⟩ (.bool true)) ⟨A6, c6, by have := Bx.set_ 4 (.bool true); simpa [parC] using this, own_set ox (Nat.lt_succ_self g) _, tx.setCell (Nat.le_refl g) _⟩
    exact ⟨rfl, h4'.1, h4'.2⟩
 | true =>
  rw [if_pos rfl] at hO1
  have hO1l' : O1.length = O.length + 1 := by rw [hO1]; simp
  have hO1s : encGs O1 = encGs O ++ encG (chG st 32) := by rw [hO1, encGs_app, encGs_one]
  replace hO1 := Lib.hid hO1
  go_enter Tryz.func173, Tryz.ntmps173
  go_upto_block 0 with fail
  go_cut [] (fun wx => PaT w g nb v st true O1 wx)
  case first =>
   clear HE HT HX HL HZ H0 HF
   go_upto_region 1 with fail
   have hown := (World.ownsRow.alloc (own_below h5 (Below.refl w.heap.size w).drew) (.cells (encG (chG st 32)).toArray 48))
   have BS := (Blk.alloc h3 (.cells (encG (chG st 32)).toArray 48)).drew
   go_region_law (refine app_step rfl _ _ _ rfl elt_gl ((g + 1)) _ rfl (hown) _ _ rfl ((rd_built (xs := encG (chG st 32)) rfl rfl)) (rfl) (by omega) (by omega) (by first | (simp; done) | (simp; omega) | omega) ?_; intro A4 c4 w4 hown4 hbel4 hgr4 hat4; have z4 := hbel4.size; (try simp only [Nat.zero_add, List.nil_append] at hown4); have B4 := (Blk.alloc (Blk.drew h3) (.cells (encG (chG st 32)).toArray 48)).below hbel4 (Nat.lt_succ_self g); have c42 := B4.cell 2; have f42 := B4.frozen 2; simp only [parC, List.getElem?_toArray, List.getElem?_cons_zero, List.getElem?_cons_succ] at c42)
   all_goals go_wp2
   all_goals go_meet
   all_goals exact PaT.put BS ((tw.alloc (Nat.le_of_lt hgl) _).drew) hown4 hbel4 hO1l' hO1s
  case rest =>
   clear C2 C3 C4 F2 tw
   clear h3 h5
   have hpx := hcut
   clear hcut
   go_wp2
   go_loopw [25] (fun x wr => ∃ j : Nat, j ≤ s.size ∧ x = .int .i64 j ∧ PaT w g nb v st true (O1 ++ (s.data.toList.take j).map (chG st)) wr) (fun x _ => s.size - (intOf x).toNat)
   case atStart => exact ⟨0, Nat.zero_le _, rfl, by rw [← H0.out]; exact hpx⟩
   case round =>
    clear hpx
    obtain ⟨j, hj, rfl, A6, c6, Bx, ox, tx⟩ := hrel
    by_cases hlt : j < s.size
    ·have hx := HX.out j hlt
     have HTj := Lib.hid (HT.out j hlt)
     have hlen := HL.out j
     have HQl : Hid ((O1 ++ (s.data.toList.take (j + 1)).map (chG st)).length = (O1 ++ (s.data.toList.take j).map (chG st)).length + 1) := Lib.hid (by rw [HTj.out, List.length_append]; rfl)
     have HQs : Hid (encGs (O1 ++ (s.data.toList.take (j + 1)).map (chG st)) = encGs (O1 ++ (s.data.toList.take j).map (chG st)) ++ encG (chG st s[j])) := Lib.hid (by rw [HTj.out, encGs_app, encGs_one])
     clear HTj HT HX HE H0 HF HL
     generalize O1 ++ (s.data.toList.take j).map (chG st) = OJ at *
     generalize s[j] = cj at *
     have C2 := Bx.cell 2
     have C3 := Bx.cell 3
     have F2 := Bx.frozen 2
     simp only [parC, List.getElem?_toArray, List.getElem?_cons_zero, List.getElem?_cons_succ] at C2 C3
     have hown := (World.ownsRow.alloc (own_below ox (Below.refl wr.heap.size wr).drew) (.cells (encG (chG st cj)).toArray 48))
     have BS := (Blk.alloc Bx (.cells (encG (chG st cj)).toArray 48)).drew
     have hgr : g < wr.heap.size := Bx.lt
     have hwj : IntKind.i64.wrap ((j : Int) + 1) = (j : Int) + 1 := by rw [IntKind.wrap_i64]; omega
     have hj0 : (0 : Int) ≤ (j : Int) + 1 := by omega
     have hj1 : (j : Int) + 1 ≤ s.size := by omega
     have hj2 : (j : Int) ≤ (j : Int) + 1 := by omega
     have hj3 : ((j : Int) + 1).toNat = j + 1 := by omega
     have tX : Below g w (wr.alloc (.cells (encG (chG st cj)).toArray 48)).drew := (tx.alloc (Nat.le_of_lt hgr) _).drew
     go_upto_region 5 with fail
     go_region_law (refine app_step rfl _ _ _ rfl elt_gl ((g + 1)) _ rfl (hown) _ _ rfl ((rd_built (xs := encG (chG st cj)) rfl rfl)) (rfl) (by omega) (by omega) (by first | (simp; done) | (simp; omega) | omega) ?_; intro A4 c4 w4 hown4 hbel4 hgr4 hat4; have z4 := hbel4.size; (try simp only [Nat.zero_add, List.nil_append] at hown4); have B4 := (Blk.alloc (Blk.drew Bx) (.cells (encG (chG st cj)).toArray 48)).below hbel4 (Nat.lt_succ_self g); have c42 := B4.cell 2; have f42 := B4.frozen 2; simp only [parC, List.getElem?_toArray, List.getElem?_cons_zero, List.getElem?_cons_succ] at c42)
     all_goals go_wp2
     all_goals exact ⟨⟨j + 1, by omega, by go_num, PaT.put BS tX hown4 hbel4 HQl.out HQs.out⟩, by simp [intOf]; omega⟩
    ·obtain rfl : j = s.size := by omega
     have HQ : Hid (Q = O1 ++ (s.data.toList.take s.size).map (chG st)) := Lib.hid (by rw [HE.out, HZ.out])
     rw [← HQ.out] at Bx ox
     clear HT HX HE H0 HL HQ
     have F4 := Bx.frozen 4
     have C4 := Bx.cell 4
     simp only [parC, List.getElem?_toArray, List.getElem?_cons_zero, List.getElem?_cons_succ] at C4
     go_wp2
     go_end0
     have h4' := HF.out (wr.setCell ⟨g, 4, none⟩ (.bool true)) ⟨A6, c6, by have := Bx.set_ 4 (.bool true); simpa [parC] using this, own_set ox (Nat.lt_succ_self g) _, tx.setCell (Nat.le_refl g) _⟩
     exact ⟨rfl, h4'.1, h4'.2⟩
end Go.Proofs.YtejjfiipghcifaaGreatDoor
namespace Go.Proofs.YtejjfiipghcifaaGreatDoor
open Go.RowKit
set_option maxRecDepth 20000
theorem isEmpty_no' {s : ByteArray} (h : s.size ≠ 0) : s.toList.isEmpty = false := by
 rw [ByteArray.toList_eq, List.isEmpty_eq_false_iff]
 intro e
 have := congrArg List.length e
 exact h (by simpa using this)
def azC (c : UInt8) : Bool := decide (97 ≤ c.toNat) && decide (c.toNat ≤ 122)
set_option maxHeartbeats 2000000 in
theorem plain_ (s : ByteArray) (hs : s.size ≤ 1000000000) (w : World) : Calls Tryz.prog 190 #[.string s] w (Gives (.bool (azB s)) w) := by
 have HF : Hid (azB s = (!(s.data.toList.isEmpty) && (s.data.toList.drop 0).all azC)) := Lib.hid rfl
 have HS : Hid (∀ j (h : j < s.size), (s.data.toList.drop j).all azC = (azC s[j] && (s.data.toList.drop (j + 1)).all azC)) := Lib.hid fun j h => by
  rw [List.drop_eq_getElem_cons (by simpa using h), List.all_cons]
  rfl
 have HE : Hid ((s.data.toList.drop s.size).all azC = true) := Lib.hid (by rw [List.drop_of_length_le (by simp)]; rfl)
 have HZ : Hid (s.size = 0 → s.toList.isEmpty = true ∧ s.data.toList.isEmpty = true) := Lib.hid fun h => by
  have : s.data.toList = [] := List.length_eq_zero_iff.1 (by simpa using h)
  rw [ByteArray.toList_eq, this]
  exact ⟨rfl, rfl⟩
 have HY : Hid (s.size ≠ 0 → s.toList.isEmpty = false ∧ s.data.toList.isEmpty = false) := Lib.hid fun h => by
  refine ⟨isEmpty_no' h, ?_⟩
  rw [List.isEmpty_eq_false_iff]
  intro e
  have := congrArg List.length e
  exact h (by simpa using this)
 generalize azB s = R at *
 go_enter Tryz.func190, Tryz.ntmps190
 go_wp2
 go_loopw [6] (fun x wr => ∃ j : Nat, j ≤ s.size ∧ x = .int .i64 j ∧ Below w.heap.size w wr ∧ Hid (R = (!(s.data.toList.isEmpty) && (s.data.toList.drop j).all azC))) (fun x _ => s.size - (intOf x).toNat)
 case atStart => exact ⟨0, Nat.zero_le _, rfl, Below.refl _ _, HF⟩
 case round =>
  obtain ⟨j, hj, rfl, hbel, HR⟩ := hrel
  by_cases hlt : j < s.size
  ·have HSj := Lib.hid (HS.out j hlt)
   have hb := UInt8.toNat_lt s[j]
   have hne := (HY.out (by omega)).2
   have HN : Hid (azC s[j] = true → R = (!(s.data.toList.isEmpty) && (s.data.toList.drop (j + 1)).all azC)) := Lib.hid fun h => by rw [HR.out, HSj.out, h, Bool.true_and]
   have HM : Hid (azC s[j] = false → R = false) := Lib.hid fun h => by rw [HR.out, HSj.out, h, Bool.false_and, Bool.and_false]
   clear HR HSj HS HE HF HZ HY hne
   unfold azC at HN HM
   generalize hc : s[j] = c at *
   by_cases h1 : c.toNat < 97
   ·have i1 : decide ((c.toNat : Int) < 97) = true := decide_eq_true (by omega)
    have HR2 := Lib.hid (HM.out (by rw [decide_eq_false (by omega)]; rfl))
    go_wp2
    go_ret
    exact ⟨by rw [HR2.out]; rfl, hbel⟩
   ·have i1 : decide ((c.toNat : Int) < 97) = false := decide_eq_false (by omega)
    by_cases h2 : 122 < c.toNat
    ·have HR2 := Lib.hid (HM.out (by rw [decide_eq_true (show 97 ≤ c.toNat by omega), decide_eq_false (by omega)]; rfl))
     go_wp2
     go_ret
     exact ⟨by rw [HR2.out]; rfl, hbel⟩
    ·have HR2 := Lib.hid (HN.out (by rw [decide_eq_true (show 97 ≤ c.toNat by omega), decide_eq_true (show c.toNat ≤ 122 by omega)]; rfl))
     go_wp2
     exact ⟨⟨j + 1, by omega, by go_num, hbel, HR2⟩, by simp [intOf]; omega⟩
  ·obtain rfl : j = s.size := by omega
   have HR2 := Lib.hid (HR.out.trans (by rw [HE.out, Bool.and_true]))
   by_cases h0 : s.size = 0
   ·obtain ⟨e1, e2⟩ := HZ.out h0
    go_wp2
    go_ret
    exact ⟨by rw [HR2.out, e2]; rfl, hbel⟩
   ·obtain ⟨e1, e2⟩ := HY.out h0
    go_wp2
    go_ret
    exact ⟨by rw [HR2.out, e2]; rfl, hbel⟩
end Go.Proofs.YtejjfiipghcifaaGreatDoor
