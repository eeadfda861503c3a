/- Joined texts: Pa8, Pa9, PaB0. -/
import Derived.Test.YtholajadbbdcmaaGreatDoorQAA
import Derived.Test.YtholajadbbdcmaaGreatDoorQAB
import Derived.Test.YtholajadbbdcmaaGreatDoorQAC
import Derived.Test.YtholajadbbdcmaaGreatDoorQAD
import Derived.Test.YtholajadbbdcmaaGreatDoorQAE
import Derived.Test.YtholajadbbdcmaaGreatDoorQAF
import Derived.Test.YtholajadbbdcmaaGreatDoorQAG
import Derived.Test.YtholajadbbdcmaaGreatDoorQAH
import Derived.Test.YtholajadbbdcmaaGreatDoorQAI
import Derived.Test.YtholajadbbdcmaaGreatDoorQAL
import Derived.Test.YtholajadbbdcmaaGreatDoorQAM
import Derived.Test.YtholajadbbdcmaaGreatDoorQAN
import Derived.Test.YtholajadbbdcmaaGreatDoorQAO
import Derived.Test.YtholajadbbdcmaaGreatDoorQAP
import Derived.Test.YtholajadbbdcmaaGreatDoorQAQ
import Derived.Test.YtholajadbbdcmaaGreatDoorQAU
import Derived.Test.YtholajadbbdcmaaGreatDoorQAX
set_option linter.unusedVariables false
set_option linter.unusedSimpArgs false
set_option linter.unnecessarySimpa false
namespace Go.Proofs.YtholajadbbdcmaaGreatDoor
open Go.RowKit
set_option maxRecDepth 20000
theorem own_blk {w : World} {base size n c G : Nat} {e : TypeId} {xs : List Value} (h : w.ownsRow base e size (.slice (some ⟨G, 0, none⟩) n c) n xs) : base ≤ G ∧ n ≤ c ∧ c ≤ maxLen ∧ ∃ cur, Blk w G e cur := by
 rcases h.2 with ⟨h0, _⟩ | ⟨g, cap, cur, hv, h1, h2, h3, h4, h5, h6⟩
 ·cases h0
 ·simp only [Value.slice.injEq, Option.some.injEq, Addr.mk.injEq, and_true, true_and] at hv
  obtain ⟨rfl, rfl⟩ := hv
  exact ⟨h1, h3, h4, cur, h2⟩
theorem PaT.below {w X X' : World} {g nb : Nat} {v : Value} {st : Int} {j : Bool} {O : List Gl} (h : PaT w g nb v st j O X) (hb : Below X.heap.size X X') : PaT w g nb v st j O X' := by
 obtain ⟨A, c, h1, h2, h3⟩ := h
 have hl := h1.lt
 exact ⟨A, c, h1.below hb hl, own_below h2 hb, h3.trans (hb.mono (Nat.le_of_lt hl))⟩
theorem addL_neg {O : List Gl} {st r : Int} {n : Nat} (h : widL r < 0) : addL O st r n = (false, O) := if_pos h
theorem addL_many {O : List Gl} {st r : Int} {n : Nat} (h : widL r = 0) (hn : 1 < n) : addL O st r n = (false, O) := by
 unfold addL
 rw [if_neg (by omega), if_pos h, if_pos hn]
theorem addL_none {st r : Int} {n : Nat} (h : widL r = 0) : addL [] st r n = (false, []) := by
 unfold addL
 rw [if_neg (by omega), if_pos h]
 split <;> rfl
theorem addL_mark {O : List Gl} {st r : Int} {n : Nat} (h : widL r = 0) (hn : ¬ 1 < n) (k : Nat) (hk : k + 1 = O.length) : addL O st r n = ((attachC (O[k]'(by omega)).text r).2 == 0, O.set k ⟨(attachC (O[k]'(by omega)).text r).1, (O[k]'(by omega)).wide, (O[k]'(by omega)).style⟩) := by
 unfold addL
 rw [if_neg (by omega), if_pos h, if_neg hn]
 have hl : O.getLast? = some (O[k]'(by omega)) := by
  rw [List.getLast?_eq_getElem?, show O.length - 1 = k by omega, List.getElem?_eq_getElem]
 rw [hl]
 simp only
 rw [set_last k hk]
theorem addL_wide {O : List Gl} {st : Int} {r n : Nat} (h : 1 ≤ widL (r : Int)) : addL O st (r : Int) n = (true, O ++ List.replicate n ⟨encB r, decide (widL (r : Int) = 2), st⟩) := by
 unfold addL
 rw [if_neg (by omega), if_neg (by omega), Int.toNat_natCast]
def Apt (w : World) (g : Nat) (w' : World) : Prop := ∀ F i : Nat, F ≠ g → F < w.heap.size → (∀ b o s n c, w.cell? ⟨g, 2, none⟩ = some (.slice (some ⟨b, o, s⟩) n c) → b ≠ F) → w'.cell? ⟨F, i, none⟩ = w.cell? ⟨F, i, none⟩
theorem Apt.of_below {w w' : World} {g : Nat} (h : Below w.heap.size w w') : Apt w g w' := fun _ _ _ hF _ => h.cell hF
def Kp (w : World) (g : Nat) (X : World) : Prop := X.cell? ⟨g, 2, none⟩ = w.cell? ⟨g, 2, none⟩ ∧ w.heap.size ≤ X.heap.size ∧ ∀ F i : Nat, F ≠ g → F < w.heap.size → X.cell? ⟨F, i, none⟩ = w.cell? ⟨F, i, none⟩
theorem Kp.below {w X w' : World} {g : Nat} (h : Kp w g X) (hb : Below X.heap.size X w') (hg : g < w.heap.size) : Kp w g w' := by
 obtain ⟨h1, h2, h3⟩ := h
 exact ⟨(hb.cell (show g < _ by omega)).trans h1, Nat.le_trans h2 hb.size, fun F i hF hl => (hb.cell (show F < _ by omega)).trans (h3 F i hF hl)⟩
theorem Kp.apt {w X : World} {g : Nat} (h : Kp w g X) : Apt w g X := fun F i hF hl _ => h.2.2 F i hF hl
set_option maxHeartbeats 2000000 in
theorem add_ (p : Prs) (r : Nat) (hr : isChN r) (times : Nat) (ht : times ≤ 132) (ho : p.out.length ≤ 1000000000) (hot : ∀ x ∈ p.out, x.text.size ≤ 4000000) (g nb : Nat) (w : World) (h : PaS w g nb p) (hu : ∀ w', Below g w w' → U8 w') :
  Calls Tryz.prog 195 #[.pointer (some ⟨g, 0, none⟩), .int .i32 (r : Int), .int .i64 times] w fun e w' => e = .returned (.bool (addL p.out p.style (r : Int) times).1) ∧ PaS w' g nb ⟨p.words, (addL p.out p.style (r : Int) times).2, p.style, false⟩ ∧ Below g w w' ∧ ((addL p.out p.style (r : Int) times).1 = false → Apt w g w') := by
 have hgl := h.lt
 obtain ⟨A, n, c, A2, c2, h1, h2, h3, h4, h5⟩ := h
 obtain ⟨W, O, st, J⟩ := p
 dsimp only at *
 have HF : Hid (∀ O' w', PaT w g nb (.slice A n c) st false O' w' → PaS w' g nb ⟨W, O', st, false⟩ ∧ Below g w w') := Lib.hid fun O' w' ⟨A', c', a1, a2, a3⟩ =>
  ⟨⟨A, n, c, A', c', h1, h2, a1, h4.below a3, a2⟩, a3⟩
 generalize hv : Value.slice A n c = v at *
 have C4 := h3.cell 4
 have F4 := h3.frozen 4
 simp only [parC, List.getElem?_toArray, List.getElem?_cons_zero, List.getElem?_cons_succ] at C4
 have hPX : PaT w g nb v st false O (w.setCell ⟨g, 4, none⟩ (.bool false)) := ⟨A2, c2, by have := h3.set_ 4 (.bool false); simpa [parC] using this, own_set h5 (Nat.lt_succ_self g) _, (Below.refl g w).setCell (Nat.le_refl g) _⟩
 have hKX : Kp w g (w.setCell ⟨g, 4, none⟩ (.bool false)) := ⟨World.cell?_setCell_other _ _ _ _ (by intro e; injection e with _ e1; cases e1), ((Below.refl g w).setCell (Nat.le_refl g) _).size, fun F i hF _ => World.cell?_setCell_other _ _ _ _ (by intro e; injection e with e1; exact hF e1.symm)⟩
 have HW := Lib.hid (width_ (r : Int))
 have HU := Lib.hid hu
 clear h1 h2 h3 h4 h5 hv hu
 by_cases hw0 : widL (r : Int) < 0
 ·rw [addL_neg hw0]
  generalize widL (r : Int) = WL at *
  generalize (r : Int) = R at *
  go_enter Tryz.func195, Tryz.ntmps195
  go_upto_region 2 with fail
  refine wp_fg (fun X => PaT w g nb v st false O X ∧ Kp w g X) ⟨hPX, hKX⟩ ?_
  clear hPX hKX C4 F4
  rintro X ⟨hX, hK0⟩
  go_wp2_with (go_at_call 129; refine (HW.out X).mono ?_; rintro e w1 ⟨rfl, hb1⟩)
  go_ret
  have hH := HF.out O w1 (hX.below hb1)
  exact ⟨rfl, hH.1, hH.2, fun _ => (hK0.below hb1 hgl).apt⟩
 ·by_cases hw1 : widL (r : Int) = 0
  ·by_cases hmany : 1 < times
   ·rw [addL_many hw1 hmany]
    generalize widL (r : Int) = WL at *
    generalize (r : Int) = R at *
    have i1 : (1 : Int) < times := by omega
    go_enter Tryz.func195, Tryz.ntmps195
    go_upto_region 2 with fail
    refine wp_fg (fun X => PaT w g nb v st false O X ∧ Kp w g X) ⟨hPX, hKX⟩ ?_
    clear hPX hKX C4 F4
    rintro X ⟨hX, hK0⟩
    subst hw1
    go_wp2_with (go_at_call 129; refine (HW.out X).mono ?_; rintro e w1 ⟨rfl, hb1⟩; have hX1 := hX.below hb1; obtain ⟨A3, c3, B3, _, _⟩ := id hX1; have C2 := B3.cell 2; simp only [parC, List.getElem?_toArray, List.getElem?_cons_zero, List.getElem?_cons_succ] at C2)
    go_ret
    have hH := HF.out O w1 hX1
    exact ⟨rfl, hH.1, hH.2, fun _ => (hK0.below hb1 hgl).apt⟩
   ·cases hO : O with
    | nil =>
     subst hO
     rw [addL_none hw1]
     generalize widL (r : Int) = WL at *
     generalize (r : Int) = R at *
     have i1 : ¬ (1 : Int) < times := by omega
     go_enter Tryz.func195, Tryz.ntmps195
     go_upto_region 2 with fail
     refine wp_fg (fun X => PaT w g nb v st false [] X ∧ Kp w g X) ⟨hPX, hKX⟩ ?_
     clear hPX hKX C4 F4
     rintro X ⟨hX, hK0⟩
     subst hw1
     go_wp2_with (go_at_call 129; refine (HW.out X).mono ?_; rintro e w1 ⟨rfl, hb1⟩; have hX1 := hX.below hb1; obtain ⟨A3, c3, B3, _, _⟩ := id hX1; have C2 := B3.cell 2; simp only [parC, List.getElem?_toArray, List.getElem?_cons_zero, List.getElem?_cons_succ, List.length_nil] at C2)
     go_ret
     have hH := HF.out [] w1 hX1
     exact ⟨rfl, hH.1, hH.2, fun _ => (hK0.below hb1 hgl).apt⟩
    | cons x O' =>
     have hk : ∃ k, k + 1 = O.length := ⟨O'.length, by rw [hO]; simp⟩
     rw [← hO]
     clear hO
     obtain ⟨k, hk⟩ := hk
     rw [addL_mark hw1 hmany k hk]
     have htx := hot (O[k]'(by omega)) (List.getElem_mem _)
     have hkl : k < O.length := by omega
     have HCell : Hid (∀ (w' : World) (A : Option Addr) (c : Nat), w'.ownsRow (g + 1) 89 3 (.slice A O.length c) O.length (encGs O) → ∃ G, A = some ⟨G, 0, none⟩ ∧ w'.cell? ⟨G, k * 3, none⟩ = some (.string (O[k]'hkl).text)) := Lib.hid fun w' A c ho => by
      obtain ⟨b, o, rfl, _, a0, _⟩ := rd_gl (Rd.of_own ho) hkl rfl
      have hz : o = 0 := by
       rcases ho.2 with ⟨h0, _⟩ | ⟨g', cap, cur, hv, _⟩
       ·cases h0
       ·simp only [Value.slice.injEq, Option.some.injEq, Addr.mk.injEq, and_true] at hv
        exact hv.1.2
      subst hz
      rw [Nat.zero_add] at a0
      exact ⟨b, rfl, a0⟩
     have HS : Hid (∀ s : ByteArray, encGs (O.set k ⟨s, (O[k]'hkl).wide, (O[k]'hkl).style⟩) = (encGs O).set (k * 3) (.string s)) := Lib.hid fun s => (encGs_text O k hkl s).symm
     have HAt := Lib.hid (fun w' hu => attach_ (O[k]'hkl).text (Nat.le_trans htx (by decide)) r hr w' hu)
     have hk3 : k * 3 < O.length * 3 := by omega
     have hk9 : k ≤ 1000000000 := by omega
     have ew : wrap64 (k : Int) = (k : Int) := by unfold wrap64; omega
     generalize (O[k]'hkl) = x at *
     obtain ⟨tx, wd, sx⟩ := x
     dsimp only at *
     generalize attachC tx (r : Int) = AT at *
     obtain ⟨S, E⟩ := AT
     simp only [attV] at HAt
     dsimp only
     have HK := Lib.hid hk
     have HK3 := Lib.hid hk3
     have hnl : O.length = k + 1 := hk.symm
     have HLs : Hid ((O.set k ⟨S, wd, sx⟩).length = O.length) := Lib.hid List.length_set
     clear hot hkl htx ho hr hk hk3
     generalize widL (r : Int) = WL at *
     generalize (r : Int) = R at *
     have i1 : ¬ (1 : Int) < times := by omega
     go_enter Tryz.func195, Tryz.ntmps195
     go_upto_region 2 with fail
     refine wp_fg (fun X => PaT w g nb v st false O X ∧ Kp w g X) ⟨hPX, hKX⟩ ?_
     clear hPX hKX C4 F4
     rintro X ⟨hX, hK0⟩
     subst hw1
     go_upto_region 9 with (go_at_call 129; refine (HW.out X).mono ?_; rintro e w1 ⟨rfl, hb1⟩; obtain ⟨A3, c3, B3, o3, t3⟩ := hX.below hb1; obtain ⟨G, rfl, hcG⟩ := HCell.out _ _ _ o3; have C2 := B3.cell 2; simp only [parC, List.getElem?_toArray, List.getElem?_cons_zero, List.getElem?_cons_succ] at C2; rw [hnl] at C2)
     have hk0 : (0 : Int) ≤ k := by omega
     have hkn : (k : Int) < (k : Int) + 1 := by omega
     go_wp2_with (go_at_call 206; refine (HAt.out w1 (HU.out w1 t3)).mono ?_; rintro e w2 ⟨rfl, hb2⟩; have hgl3 := B3.lt; have B4 := B3.below hb2 hgl3; have o4 := own_below o3 hb2; have t4 := t3.trans (hb2.mono (Nat.le_of_lt hgl3)); obtain ⟨hgG, _, _, cur, BG⟩ := own_blk o4; have FG := BG.frozen (k * 3); obtain ⟨G', eG, hcG'⟩ := HCell.out _ _ _ o4; obtain rfl : G = G' := (by simpa using eG); have C2' := B4.cell 2; simp only [parC, List.getElem?_toArray, List.getElem?_cons_zero, List.getElem?_cons_succ] at C2'; rw [hnl] at C2')
     go_ret
     have hB5 : Blk (w2.setCell ⟨G, k * 3, none⟩ (.string S)) g _ _ := Blk.far (p := ⟨G, k * 3, none⟩) B4 (by show g ≠ G; omega) _
     have o5 := own_cell o4 HK3.out (.string S)
     have t5 : Below g w (w2.setCell ⟨G, k * 3, none⟩ (.string S)) := Below.setCell (p := ⟨G, k * 3, none⟩) t4 (by show g ≤ G; omega) _
     rw [← HS.out] at o5
     have hH := HF.out (O.set k ⟨S, wd, sx⟩) _ ⟨some ⟨G, 0, none⟩, c3, by rw [HLs.out]; exact hB5, by rw [HLs.out]; exact o5, t5⟩
     have hK2 := (hK0.below hb1 hgl).below hb2 hgl
     refine ⟨rfl, hH.1, hH.2, fun _ F i hF hl hne => ?_⟩
     have hGF : G ≠ F := hne G 0 none _ _ (hK2.1.symm.trans C2')
     exact (World.cell?_setCell_other _ _ _ _ (by intro e; injection e with e1; exact hGF e1)).trans (hK2.2.2 F i hF hl)
  ·have hw2 : 1 ≤ widL (r : Int) := by omega
   rw [addL_wide hw2]
   have HGl : Hid ((⟨encB r, decide (widL (r : Int) = 2), st⟩ : Gl) = ⟨encB r, widL (r : Int) == 2, st⟩) := Lib.hid rfl
   rw [HGl.out]
   have HRn : Hid (∀ j, O ++ List.replicate (j + 1) (⟨encB r, widL (r : Int) == 2, st⟩ : Gl) = (O ++ List.replicate j ⟨encB r, widL (r : Int) == 2, st⟩) ++ [⟨encB r, widL (r : Int) == 2, st⟩]) := Lib.hid fun j => by rw [List.replicate_succ', List.append_assoc]
   have HLn : Hid (∀ j, j ≤ times → (O ++ List.replicate j (⟨encB r, widL (r : Int) == 2, st⟩ : Gl)).length ≤ 1000000132) := Lib.hid fun j hj => by rw [List.length_append, List.length_replicate]; omega
   have HEnc : Hid (∀ wr : World, Calls Tryz.prog 207 #[.slice (some ⟨wr.heap.size, 0, none⟩) 1 1] (wr.alloc (.cells #[.int .i32 (r : Int)] 21)).drew (Gives (.string (encB r)) (wr.alloc (.cells #[.int .i32 (r : Int)] 21)).drew)) := Lib.hid fun wr =>
    encode_ r hr _ 1 (wr.heap.size + 1) _ (chV_built wr r 21) (by show wr.heap.size + 1 ≤ (wr.alloc _).heap.size; simp)
   have hz0 : (widL (r : Int) == 0) = false := beq_eq_false_iff_ne.2 hw1
   have hn0 : decide (widL (r : Int) < 0) = false := decide_eq_false hw0
   clear hr hot hw2 HGl HU hw0 hw1
   generalize hWL : widL (r : Int) = WL at *
   generalize encB r = EB at *
   generalize hGL : (⟨EB, WL == 2, st⟩ : Gl) = GL at *
   replace hGL := Lib.hid hGL
   generalize (r : Int) = R at *
   clear hWL
   go_enter Tryz.func195, Tryz.ntmps195
   go_upto_region 2 with fail
   refine wp_fg (PaT w g nb v st false O) hPX ?_
   clear hPX C4 F4
   intro X hX
   go_upto_region 12 with (go_at_call 129; refine (HW.out X).mono ?_; rintro e w1 ⟨rfl, hb1⟩; have hX1 := hX.below hb1)
   go_wp2
   go_loopw [56] (fun x wr => ∃ j : Nat, j ≤ times ∧ x = .int .i64 j ∧ PaT w g nb v st false (O ++ List.replicate j GL) wr) (fun x _ => times - (intOf x).toNat)
   case atStart => exact ⟨0, Nat.zero_le _, rfl, by rw [List.replicate_zero, List.append_nil]; exact hX1⟩
   case round =>
    clear hX hX1 hb1
    obtain ⟨j, hj, rfl, A6, c6, Bx, ox, tx⟩ := hrel
    by_cases hlt : j < times
    ·have hlen := HLn.out j hj
     have HQl : Hid ((O ++ List.replicate (j + 1) GL).length = (O ++ List.replicate j GL).length + 1) := Lib.hid (by rw [HRn.out j, List.length_append]; rfl)
     have HQs : Hid (encGs (O ++ List.replicate (j + 1) GL) = encGs (O ++ List.replicate j GL) ++ encG GL) := Lib.hid (by rw [HRn.out j, encGs_app, encGs_one])
     clear HRn HLn HF HW
     generalize O ++ List.replicate j GL = OJ at *
     have C2 := Bx.cell 2
     have C3 := Bx.cell 3
     simp only [parC, List.getElem?_toArray, List.getElem?_cons_zero, List.getElem?_cons_succ] at C2 C3
     have HE := Lib.hid (HEnc.out wr)
     have o0 := own_below (World.ownsRow.alloc ox (.cells #[.int .i32 R] 21)) (Below.refl _ _).drew
     have B0 := (Blk.alloc Bx (.cells #[.int .i32 R] 21)).drew
     have hgr : g < wr.heap.size := Bx.lt
     have t0 : Below g w (wr.alloc (.cells #[.int .i32 R] 21)).drew := (tx.alloc (Nat.le_of_lt hgr) _).drew
     have hG := hGL.out
     subst hG
     clear hGL
     go_upto_region 14 with fail
     go_region_law (first
      | (go_simp; go_at_call 207; refine HE.out.mono ?_; rintro e w5 ⟨rfl, hb5⟩; have B5 := B0.below hb5 B0.lt; have z5 : g < w5.heap.size := B5.lt; have o5 := own_below o0 hb5; have t5 := t0.trans (hb5.mono (Nat.le_of_lt B0.lt)); have c52 := B5.cell 2; have c53 := B5.cell 3; simp only [parC, List.getElem?_toArray, List.getElem?_cons_zero, List.getElem?_cons_succ] at c52 c53)
      | (refine app_step rfl _ _ _ rfl elt_gl ((g + 1)) _ rfl ((o5.alloc _)) _ _ rfl ((rd_built (xs := encG ⟨EB, WL == 2, st⟩) rfl rfl)) (rfl) (by omega) (by omega) (by first | (simp; done) | (simp; omega) | omega) ?_; intro A4 c4 w4 hown4 hbel4 hgr4 hat4; have z4 := hbel4.size; (try simp only [Nat.zero_add, List.nil_append] at hown4); have B4 := (Blk.alloc B5 (.cells (encG ⟨EB, WL == 2, st⟩).toArray 89)).below hbel4 (Nat.lt_succ_self g); have c42 := B4.cell 2; have f42 := B4.frozen 2; simp only [parC, List.getElem?_toArray, List.getElem?_cons_zero, List.getElem?_cons_succ] at c42))
     all_goals go_wp2
     all_goals exact ⟨⟨j + 1, by omega, by go_num, PaT.put (Blk.alloc B5 _) (t5.alloc (Nat.le_of_lt B5.lt) _) hown4 hbel4 HQl.out HQs.out⟩, by simp [intOf]; omega⟩
    ·obtain rfl : j = times := by omega
     have HQ := Lib.hid (HF.out _ wr ⟨A6, c6, Bx, ox, tx⟩)
     clear HF
     go_wp2
     go_ret
     exact ⟨rfl, HQ.out.1, HQ.out.2, fun h => by cases h⟩
def PaE (E : World) (g nb : Nat) : Prop := Sp E ∧ U8 E ∧ SetM E nb 200 resB ∧ E.heap.size = g
theorem PaE.sp {E w : World} {g nb : Nat} (h : PaE E g nb) (hb : Below g E w) : Sp w := h.1.below hb (Nat.le_of_eq h.2.2.2)
theorem PaE.u8 {E w : World} {g nb : Nat} (h : PaE E g nb) (hb : Below g E w) : U8 w := h.2.1.below (h.2.2.2 ▸ hb)
theorem PaE.set {E w : World} {g nb : Nat} (h : PaE E g nb) (hb : Below g E w) : SetM w nb 200 resB := h.2.2.1.below (h.2.2.2 ▸ hb)
theorem charW_ch {l : List ByteArray} {r : Int} {n : Nat} (h : charW l = some (r, n)) : ∃ m : Nat, r = (m : Int) ∧ isChN m := by
 have hc : isCharB r = true := by
  cases l with
  | nil => cases h
  | cons a t =>
   rw [charW] at h
   split at h
   ·injection h with h; injection h with h1 h; subst h1; decide
   ·exact (unspell_canon h).1
 obtain ⟨a, b⟩ := char_range hc
 refine ⟨r.toNat, by omega, ?_⟩
 have := (isCharB_iff r).1 hc
 unfold isChar at this
 unfold isChN
 omega
theorem charW_len {l : List ByteArray} {r : Int} {n : Nat} (h : charW l = some (r, n)) : 0 < n ∧ n ≤ l.length := by
 cases l with
 | nil => cases h
 | cons a t =>
  rw [charW] at h
  split at h
  ·injection h with h; injection h with h1 h; subst h; exact ⟨by omega, by simp⟩
  ·obtain ⟨_, b, c, _⟩ := unspell_canon h
   exact ⟨b, c⟩
def PaR2 (g nb : Nat) (p : Prs) (o : Option Prs) (w : World) (e : Ending) (w' : World) : Prop :=
 Below g w w' ∧ match o with
 | some q => e = .returned (.bool true) ∧ PaS w' g nb q
 | none => e = .returned (.bool false) ∧ ∃ q : Prs, q.words = p.words ∧ PaS w' g nb q ∧ (charW p.words = none → q = p) ∧ Apt w g w'
set_option maxHeartbeats 2000000 in
theorem sign_ (E : World) (p : Prs) (g nb : Nat) (w : World) (hE : PaE E g nb) (hEw : Below g E w) (h : PaS w g nb p) (hk : PaK p) : Calls Tryz.prog 177 #[.pointer (some ⟨g, 0, none⟩)] w (PaR2 g nb p (signL p) w) := by
 have hgl := h.lt
 have HPS := Lib.hid h
 have hb0 : Below w.heap.size w w := Below.refl _ _
 have hlen := hk.len
 have hout : p.out.length ≤ 1000000000 := by have h := hk.2.1; omega
 have hot : ∀ x ∈ p.out, x.text.size ≤ 4000000 := fun x hx => by have := hk.2.2 x hx; omega
 have HAdd : Hid (∀ (r : Nat) (times : Nat), isChN r → times ≤ 132 → ∀ w', Below w.heap.size w w' → Calls Tryz.prog 195 #[.pointer (some ⟨g, 0, none⟩), .int .i32 (r : Int), .int .i64 times] w' fun e w'' => e = .returned (.bool (addL p.out p.style (r : Int) times).1) ∧ PaS w'' g nb ⟨p.words, (addL p.out p.style (r : Int) times).2, p.style, false⟩ ∧ Below g w w'' ∧ ((addL p.out p.style (r : Int) times).1 = false → Apt w g w'')) := Lib.hid fun r times hr ht w' hw =>
  (add_ p r hr times ht hout hot g nb w' (h.below hw) fun w'' hb => hE.u8 ((hEw.trans (hw.mono (Nat.le_of_lt hgl))).trans hb)).mono fun e w'' ⟨h1, h2, h3, h4⟩ => ⟨h1, h2, (hw.mono (Nat.le_of_lt hgl)).trans h3, fun hf F i hF hl hne => (h4 hf F i hF (Nat.lt_of_lt_of_le hl hw.size) fun b o s n c hc => hne b o s n c ((hw.cell (show g < _ from hgl)).symm.trans hc)).trans (hw.cell hl)⟩
 have hs := hE.sp hEw
 obtain ⟨A, n, c, A2, c2, h1, h2, h3, h4, h5⟩ := h
 have C1 := h3.cell 1
 simp only [parC, List.getElem?_toArray, List.getElem?_cons_zero, List.getElem?_cons_succ] at C1
 have hn : p.words.length = n := by have := h4.1; simp [sv] at this; omega
 have HCh : Hid (∀ w', Below w.heap.size w w' → Calls Tryz.prog 194 #[.slice A n c] w' fun e w'' => e = .returned (chwV (charW p.words)) ∧ Below w.heap.size w w'') := Lib.hid fun w' hw =>
  (character_ p.words A n c w' hn h1 h2 ((h4.below (hw.mono (Nat.le_of_lt hgl))).more (by have := hw.size; omega)) hk.sz (hs.below hw (Nat.le_refl _))).mono fun e w'' ⟨h1, h2⟩ => ⟨h1, hw.trans (h2.mono hw.size)⟩
 cases hcw : charW p.words with
 | none =>
  have e0 : signL p = none := by unfold signL; rw [hcw]
  rw [e0]
  rw [hcw] at HCh
  simp only [chwV] at HCh
  clear h2 h3 h4 h5 hn hk hlen e0 hs hot hout HAdd
  replace hcw := Lib.hid hcw
  go_enter Tryz.func177, Tryz.ntmps177
  go_wp2_with (go_at_call 194; refine (HCh.out _ (by assumption)).mono ?_; rintro e w1 ⟨rfl, hb1⟩)
  go_ret
  exact ⟨hb1.mono (Nat.le_of_lt hgl), rfl, p, rfl, HPS.out.below hb1, fun _ => rfl, Apt.of_below hb1⟩
 | some x =>
  obtain ⟨r, k⟩ := x
  obtain ⟨m, rfl, hm⟩ := charW_ch hcw
  obtain ⟨hk0, hkl⟩ := charW_len hcw
  have HAd := Lib.hid (HAdd.out m 1 hm (by omega))
  have e0 : signL p = if (addL p.out p.style (m : Int) 1).1 = true then some ⟨p.words.drop k, (addL p.out p.style (m : Int) 1).2, p.style, false⟩ else none := by unfold signL; rw [hcw]
  rw [e0]
  rw [hcw] at HCh
  simp only [chwV] at HCh
  have hcw' : charW p.words ≠ none := by rw [hcw]; simp
  have HTk := Lib.hid (fun w' (hp : PaS w' g nb ⟨p.words, (addL p.out p.style (m : Int) 1).2, p.style, false⟩) (hb : Below g w w') => take_r hp k hkl hb)
  have ek : ((k : Int) == 0) = false := beq_eq_false_iff_ne.2 (by omega)
  generalize addL p.out p.style (m : Int) 1 = AL at *
  obtain ⟨ok, O'⟩ := AL
  dsimp only at *
  clear h2 h3 h4 h5 hn hk hlen e0 hs hot hout HAdd hcw hk0 hkl hm
  generalize (k : Int) = K at *
  generalize (m : Int) = M at *
  replace hcw' := Lib.hid hcw'
  cases ok with
  | false =>
   rw [if_neg (by simp)]
   go_enter Tryz.func177, Tryz.ntmps177
   go_wp2_with (first | (go_at_call 194; refine (HCh.out _ (by assumption)).mono ?_; rintro e w1 ⟨rfl, hb1⟩) | (go_at_call 195; refine (HAd.out _ (by assumption)).mono ?_; rintro e w2 ⟨rfl, hp2, hb2, hap2⟩) | (go_at_call 190; refine (HTk.out _ hp2 hb2).mono ?_; rintro e w3 ⟨rfl, hp3, hb3⟩))
   go_ret
   exact ⟨hb2, rfl, ⟨p.words, O', p.style, false⟩, rfl, hp2, fun h => absurd h hcw'.out, hap2 (by first | trivial | rfl)⟩
  | true =>
   rw [if_pos rfl]
   go_enter Tryz.func177, Tryz.ntmps177
   go_wp2_with (first | (go_at_call 194; refine (HCh.out _ (by assumption)).mono ?_; rintro e w1 ⟨rfl, hb1⟩) | (go_at_call 195; refine (HAd.out _ (by assumption)).mono ?_; rintro e w2 ⟨rfl, hp2, hb2, hap2⟩) | (go_at_call 190; refine (HTk.out _ hp2 hb2).mono ?_; rintro e w3 ⟨rfl, hp3, hb3⟩))
   go_ret
   exact ⟨hb3, rfl, hp3⟩
def PaR3 (g nb : Nat) (p : Prs) (o : Option Prs) (w : World) (e : Ending) (w' : World) : Prop :=
 Below g w w' ∧ match o with
 | some q => e = .returned (.bool true) ∧ PaS w' g nb q
 | none => e = .returned (.bool false) ∧ ∃ q : Prs, q.words = p.words ∧ PaS w' g nb q
def szV : Value → Nat
 | .string s => s.size
 | _ => 0
def DecI (N m : Nat) (S : ByteArray) : Prop := (S.size = 0 ∧ m = N) ∨ (S.size ≠ 0 ∧ (if m = 0 then [] else decT m) ++ S.data.toList = decT N)
theorem decT_len : ∀ (k n : Nat), n < 10 ^ (k + 1) → (decT n).length ≤ k + 1
 | 0, n, h => by
  rw [decT, dif_pos (by simpa using h)]
  simp
 | k + 1, n, h => by
  rw [decT]
  split
  ·simp
  ·rw [List.length_append, List.length_singleton]
   have := decT_len k (n / 10) (by rw [Nat.pow_succ] at h; omega)
   omega
theorem DecI.size {N m : Nat} {S : ByteArray} (hN : N ≤ 999999999) (h : DecI N m S) : S.size ≤ 10 := by
 rcases h with ⟨h, _⟩ | ⟨_, h⟩
 ·omega
 ·have h1 := congrArg List.length h
  have h2 := decT_len 9 N (by omega)
  have h3 : S.data.toList.length = S.size := by simp
  rw [List.length_append] at h1
  omega
theorem DecI.step {N m : Nat} {S : ByteArray} (h : DecI N m S) (hc : 0 < m ∨ S.size = 0) : DecI N (m / 10) (⟨#[UInt8.ofNat (48 + m % 10)]⟩ ++ S) := by
 have hb : (⟨#[UInt8.ofNat (48 + m % 10)]⟩ ++ S : ByteArray).data.toList = UInt8.ofNat (48 + m % 10) :: S.data.toList := by
  rw [ByteArray.data_append, Array.toList_append]
  rfl
 refine .inr ⟨by rw [ByteArray.size_append]; show 1 + S.size ≠ 0; omega, ?_⟩
 rw [hb]
 have key : (if m / 10 = 0 then [] else decT (m / 10)) ++ UInt8.ofNat (48 + m % 10) :: S.data.toList = decT m ++ S.data.toList := by
  by_cases h10 : m < 10
  ·rw [if_pos (by omega), decT, dif_pos h10, Nat.mod_eq_of_lt h10]
   rfl
  ·conv => rhs; rw [decT]
   rw [dif_neg h10, if_neg (by omega)]
   simp
 rw [key]
 rcases h with ⟨h1, rfl⟩ | ⟨h1, h2⟩
 ·have : S.data.toList = [] := List.length_eq_zero_iff.1 (by simpa using h1)
  rw [this, List.append_nil]
 ·rw [if_neg (by omega)] at h2
  exact h2
theorem DecI.done {N : Nat} {S : ByteArray} (h : DecI N 0 S) (hS : S.size ≠ 0) : S = ⟨(decT N).toArray⟩ := by
 rcases h with ⟨h1, _⟩ | ⟨_, h2⟩
 ·exact absurd h1 hS
 ·rw [if_pos rfl, List.nil_append] at h2
  apply ByteArray.ext
  apply Array.toList_inj.1
  rw [h2]
theorem enc_mod (m : Nat) : Utf8.encode (48 + ((m % 10 : Nat) : Int)) = ⟨#[UInt8.ofNat (48 + m % 10)]⟩ := enc_dig (m % 10) (by omega)
theorem isEmpty_yes {S : ByteArray} (h : S.size = 0) : S.toList.isEmpty = true := by
 have : S.data.toList = [] := List.length_eq_zero_iff.1 (by simpa using h)
 rw [ByteArray.toList_eq, this]
 rfl
theorem dec_meas (m : Nat) (S : ByteArray) (hc : 0 < m ∨ S.size = 0) : 2 * (m / 10) + (if (Utf8.encode (48 + ((m % 10 : Nat) : Int)) ++ S).size = 0 then 1 else 0) < 2 * m + (if S.size = 0 then 1 else 0) := by
 have h1 : (Utf8.encode (48 + ((m % 10 : Nat) : Int)) ++ S).size ≠ 0 := by
  rw [enc_mod, ByteArray.size_append, show (⟨#[UInt8.ofNat (48 + m % 10)]⟩ : ByteArray).size = 1 from rfl]
  omega
 rw [if_neg h1]
 by_cases hs : S.size = 0
 ·rw [if_pos hs]; omega
 ·rw [if_neg hs]
  have := hc.resolve_right hs
  omega
theorem dec_rem (m : Nat) : (m : Int).tmod 10 = ((m % 10 : Nat) : Int) := by rw [Int.tmod_eq_emod_of_nonneg (by omega)]; omega
theorem dec_quo (m : Nat) : (m : Int).tdiv 10 = ((m / 10 : Nat) : Int) := by rw [Int.tdiv_eq_ediv_of_nonneg (by omega)]; omega
theorem enc_sz (m : Nat) : (Utf8.encode (48 + ((m % 10 : Nat) : Int))).size ≤ 4 := by rw [enc_mod]; exact (by decide : 1 ≤ 4)
theorem wrap_nat (m : Nat) (hm : m ≤ 999999999) : wrap64 (m : Int) = m := by unfold wrap64; omega
end Go.Proofs.YtholajadbbdcmaaGreatDoor
