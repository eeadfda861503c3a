/- Joined texts: UxB. -/
import Derived.Test.YtejjfiipghcifaaGreatDoorQAA
import Derived.Test.YtejjfiipghcifaaGreatDoorQAC
import Derived.Test.YtejjfiipghcifaaGreatDoorQAD
import Derived.Test.YtejjfiipghcifaaGreatDoorQAE
import Derived.Test.YtejjfiipghcifaaGreatDoorQAG
import Derived.Test.YtejjfiipghcifaaGreatDoorQAH
import Derived.Test.YtejjfiipghcifaaGreatDoorQAJ
import Derived.Test.YtejjfiipghcifaaGreatDoorQAN
import Derived.Test.YtejjfiipghcifaaGreatDoorQAO
import Derived.Test.YtejjfiipghcifaaGreatDoorQAR
import Derived.Test.YtejjfiipghcifaaGreatDoorQAU
import Derived.Test.YtejjfiipghcifaaGreatDoorQAW
import Derived.Test.YtejjfiipghcifaaGreatDoorQBA
import Derived.Test.YtejjfiipghcifaaGreatDoorQBC
import Derived.Test.YtejjfiipghcifaaGreatDoorQBD
import Derived.Test.YtejjfiipghcifaaGreatDoorQBE
import Derived.Test.YtejjfiipghcifaaGreatDoorQBF
import Derived.Test.YtejjfiipghcifaaGreatDoorQBH
import Derived.Test.YtejjfiipghcifaaGreatDoorQBI
import Derived.Test.YtejjfiipghcifaaGreatDoorQBP
import Derived.Test.YtejjfiipghcifaaGreatDoorQBQ
import Derived.Test.YtejjfiipghcifaaGreatDoorQBT
import Derived.Test.YtejjfiipghcifaaGreatDoorQBU
import Derived.Test.YtejjfiipghcifaaGreatDoorQHT
import Derived.Test.YtejjfiipghcifaaGreatDoorQHV
set_option linter.unusedVariables false
set_option linter.unusedSimpArgs false
set_option linter.unnecessarySimpa false
namespace Go.Proofs.YtejjfiipghcifaaGreatDoor
open Go.RowKit
set_option maxRecDepth 20000
theorem words_ne (l : List Chg) (n : Int) (S : Setts) : 0 < (wordsU l n S).length := by
 unfold wordsU endW
 rw [List.length_append]
 (repeat' split) <;> simp only [List.length_cons, List.length_nil] <;> omega
theorem sv_drop (l : List ByteArray) : (sv l).take ((l.length - 1) * 1) = sv l.dropLast := by
 rw [Nat.mul_one, List.dropLast_eq_take]
 simp [sv]
set_option maxHeartbeats 8000000 in
theorem law_UtteranceConcatenation (w : World) (hg : Gd w) (A : Option Addr) (n c : Nat) (l : List ChgM) (hn : l.length = n) (hc : n ≤ c) (hm : c ≤ maxLen) (rd : RdC w w.heap.size A n l) (A' : Option Addr) (n' c' : Nat) (l' : List ChgM) (hn' : l'.length = n') (hc' : n' ≤ c') (hm' : c' ≤ maxLen) (rd' : RdC w w.heap.size A' n' l') (r : Int) (d sp : Bool) (q : Int) (co : Bool) (k : Int) (wr : (Lit.int .i64 r).wf = true) (wq : (Lit.int .i64 q).wf = true) (wk : (Lit.int .i64 k).wf = true) :
  Calls Tryz.prog 7 #[.slice A n c, .slice A' n' c', stV r d sp q co k] w (Gives (.bool true) w) := by
 subst hn hn'
 have HA : Hid (∀ X, Below w.heap.size w X → Calls Tryz.prog 12 #[] X fun e X' => e = .returned (.bool true) ∧ Below w.heap.size w X' ∧ Below X.heap.size X X') := Lib.hid fun X hX => bothG (awake41_ X (hg.below hX)) hX
 have HF : Hid (∀ X, Below w.heap.size w X → Calls Tryz.prog 11 #[.slice A l.length c] X fun e X' => e = .returned (.bool (fineC l)) ∧ Below w.heap.size w X' ∧ Below X.heap.size X X') := Lib.hid fun X hX => bothG (fine_ l A _ c w.heap.size X (by omega) (rd.below hX) hX.size) hX
 have HF' : Hid (∀ X, Below w.heap.size w X → Calls Tryz.prog 11 #[.slice A' l'.length c'] X fun e X' => e = .returned (.bool (fineC l')) ∧ Below w.heap.size w X' ∧ Below X.heap.size X X') := Lib.hid fun X hX => bothG (fine_ l' A' _ c' w.heap.size X (by omega) (rd'.below hX) hX.size) hX
 have HSc : Hid (∀ X, Below w.heap.size w X → Calls Tryz.prog 22 #[stV r d sp q co k] X fun e X' => e = .returned (.int .i64 (setE r q k)) ∧ Below w.heap.size w X' ∧ Below X.heap.size X X') := Lib.hid fun X hX => bothG (check_s r d sp q co k X) hX
 by_cases hf : fineC l = true
 ·have HC : Hid (∀ X, Below w.heap.size w X → Calls Tryz.prog 16 #[.slice A l.length c] X fun e X' => e = .returned (.int .i64 (chkAll l)) ∧ Below w.heap.size w X' ∧ Below X.heap.size X X') := Lib.hid fun X hX => bothG (uCheck_ l A _ c w.heap.size X (by have := (fine_some hf).1; omega) (rd.below hX) hX.size (sm_of hf) (hg.below hX).2.1) hX
  by_cases hf' : fineC l' = true
  ·have HC' : Hid (∀ X, Below w.heap.size w X → Calls Tryz.prog 16 #[.slice A' l'.length c'] X fun e X' => e = .returned (.int .i64 (chkAll l')) ∧ Below w.heap.size w X' ∧ Below X.heap.size X X') := Lib.hid fun X hX => bothG (uCheck_ l' A' _ c' w.heap.size X (by have := (fine_some hf').1; omega) (rd'.below hX) hX.size (sm_of hf') (hg.below hX).2.1) hX
   rw [hf] at HF
   rw [hf'] at HF'
   by_cases h4 : chkAll l = 0
   ·by_cases h5 : chkAll l' = 0
    ·by_cases h1 : setE r q k = 0
     ·have hE : wErr l 0 r q k = 0 := by unfold wErr; rw [if_neg (by rw [h1]; simp), if_neg (by decide)]; exact h4
      have hE' : wErr l' 7 r q k = 0 := by unfold wErr; rw [if_neg (by rw [h1]; simp), if_neg (by decide)]; exact h5
      have hf1 := fine_chk hf h4
      have hf2 := fine_chk hf' h5
      have z0 := (words_small ⟨d, sp, q⟩ (by decide : (0 : Int) ≤ 0) (by decide) hf1.1 hf1.2).1
      have z7 := (words_small ⟨d, sp, q⟩ (by decide : (0 : Int) ≤ 7) (by decide) hf2.1 hf2.2).1
      have HW : Hid (∀ X, Below w.heap.size w X → Calls Tryz.prog 13 #[.slice A l.length c, .int .i64 0, stV r d sp q co k] X fun e X' => (∃ A2 c2, e = .returned (.tuple #[.slice A2 (wordsU (chgs l) 0 ⟨d, sp, q⟩).length c2, .int .i64 0]) ∧ X'.ownsRow X.heap.size 9 1 (.slice A2 (wordsU (chgs l) 0 ⟨d, sp, q⟩).length c2) (wordsU (chgs l) 0 ⟨d, sp, q⟩).length (sv (wordsU (chgs l) 0 ⟨d, sp, q⟩))) ∧ Below w.heap.size w X' ∧ Below X.heap.size X X') := Lib.hid fun X hX => k_wordsT hg hf rd hE X hX
      have HW' : Hid (∀ X, Below w.heap.size w X → Calls Tryz.prog 13 #[.slice A' l'.length c', .int .i64 7, stV r d sp q co k] X fun e X' => (∃ A2 c2, e = .returned (.tuple #[.slice A2 (wordsU (chgs l') 7 ⟨d, sp, q⟩).length c2, .int .i64 0]) ∧ X'.ownsRow X.heap.size 9 1 (.slice A2 (wordsU (chgs l') 7 ⟨d, sp, q⟩).length c2) (wordsU (chgs l') 7 ⟨d, sp, q⟩).length (sv (wordsU (chgs l') 7 ⟨d, sp, q⟩))) ∧ Below w.heap.size w X' ∧ Below X.heap.size X X') := Lib.hid fun X hX => k_wordsT hg hf' rd' hE' X hX
      have HB : Hid (∀ X, Below w.heap.size w X → ∀ A2 c2 base, X.ownsRow base 46 6 (.slice A2 (l.length + l'.length) c2) (l.length + l'.length) (encCs l ++ encCs l') → Calls Tryz.prog 13 #[.slice A2 (l.length + l'.length) c2, .int .i64 7, stV r d sp q co k] X fun e X' => (∃ A3 c3, e = .returned (.tuple #[.slice A3 (wordsU (chgs (l ++ l')) 7 ⟨d, sp, q⟩).length c3, .int .i64 0]) ∧ X'.ownsRow X.heap.size 9 1 (.slice A3 (wordsU (chgs (l ++ l')) 7 ⟨d, sp, q⟩).length c3) (wordsU (chgs (l ++ l')) 7 ⟨d, sp, q⟩).length (sv (wordsU (chgs (l ++ l')) 7 ⟨d, sp, q⟩))) ∧ Below w.heap.size w X' ∧ Below X.heap.size X X') := Lib.hid fun X hX A2 c2 base ho => by
       have hg' := hg.below hX
       have hrc : RdC X X.heap.size A2 (l.length + l'.length) (l ++ l') := ⟨by rw [encCs_app]; exact Rd.of_own ho, fun x hx => by
        rcases List.mem_append.1 hx with hx | hx
        ·exact ⟨((rd.gl x hx).1.below hX).more hX.size, (rd.gl x hx).2⟩
        ·exact ⟨((rd'.gl x hx).1.below hX).more hX.size, (rd'.gl x hx).2⟩⟩
       have hsm : SmC (l ++ l') := fun x hx => by
        rcases List.mem_append.1 hx with hx | hx
        ·exact sm_of hf x hx
        ·exact sm_of hf' x hx
       have h0 : wErr (l ++ l') 7 r q k = 0 := by
        unfold wErr
        rw [if_neg (by rw [h1]; simp), if_neg (by decide)]
        refine chkAll_zero.2 fun x hx => ?_
        obtain ⟨y, hy, rfl⟩ := List.mem_map.1 hx
        rcases List.mem_append.1 hy with hy | hy
        ·exact chkAll_zero.1 h4 _ (List.mem_map_of_mem hy)
        ·exact chkAll_zero.1 h5 _ (List.mem_map_of_mem hy)
       refine (uwords_ (l ++ l') A2 _ c2 7 r d sp q co k X (by have := hf1.1; have := hf2.1; rw [chgs_len] at *; omega) hrc hsm hg'.1 hg'.2.1 hg'.2.2).mono fun e X' h => ?_
       unfold UwR at h
       rw [if_pos h0] at h
       obtain ⟨A3, c3, he, h2, h3⟩ := h
       exact ⟨⟨A3, c3, he, h2⟩, hX.trans (h3.mono hX.size), h3⟩
      have HZ : Hid (wordsU (chgs (l ++ l')) 7 ⟨d, sp, q⟩ = (wordsU (chgs l) 0 ⟨d, sp, q⟩).dropLast ++ wordsU (chgs l') 7 ⟨d, sp, q⟩) := Lib.hid (by
       rw [← words_both]
       unfold chgs
       rw [List.map_append])
      have hne := words_ne (chgs l) 0 ⟨d, sp, q⟩
      have hle : l.length ≤ 6 := (fine_some hf).1
      have hle' : l'.length ≤ 6 := (fine_some hf').1
      have hrd := Lib.hid rd.rd
      have hrd' := Lib.hid rd'.rd
      rw [h4] at HC
      rw [h5] at HC'
      rw [h1] at HSc
      clear rd rd' hg h1 h4 h5 hE hE' hf1 hf2 hf hf'
      generalize wordsU (chgs (l ++ l')) 7 ⟨d, sp, q⟩ = WZ at *
      generalize wordsU (chgs l) 0 ⟨d, sp, q⟩ = WX at *
      generalize wordsU (chgs l') 7 ⟨d, sp, q⟩ = WY at *
      go_enter Tryz.func7, Tryz.ntmps7
      go_upto_region 1 with fail
      refine wp_fg (fun X => StBox X r d sp q co k w.heap.size ∧ Below w.heap.size w X ∧ X.heap.size = w.heap.size + 1) ⟨StBox.new w r d sp q co k 24, (Below.refl _ _).alloc (Nat.le_refl _) _, by simp⟩ ?_
      rintro X ⟨hst, hbX, hzX⟩
      have HSt : Hid (∀ w', Below X.heap.size X w' → StBox w' r d sp q co k w.heap.size) := Lib.hid fun w' h => hst.below h (by omega)
      clear hst
      have hzX1 : w.heap.size + 1 ≤ X.heap.size := by omega
      clear hzX
      go_upto_region 5 with (first
       | ((fail_if_success have := hb1); go_at_call 11; refine (HF.out _ hbX).mono ?_; rintro e w1 ⟨rfl, hb1, hx1⟩; obtain ⟨_, _, _, _, _, _⟩ := HSt.out _ hx1)
       | (go_at_call 11; refine (HF'.out _ hb1).mono ?_; rintro e w2 ⟨rfl, hb2, hx2⟩; have hX2 := hx1.trans (hx2.mono hx1.size); obtain ⟨_, _, _, _, _, _⟩ := HSt.out _ hX2)
       | ((fail_if_success have := hb3); go_at_call 16; refine (HC.out _ hb2).mono ?_; rintro e w3 ⟨rfl, hb3, hx3⟩; have hX3 := hX2.trans (hx3.mono hX2.size); obtain ⟨_, _, _, _, _, _⟩ := HSt.out _ hX3)
       | (go_at_call 16; refine (HC'.out _ hb3).mono ?_; rintro e w4 ⟨rfl, hb4, hx4⟩; have hX4 := hX3.trans (hx4.mono hX3.size); obtain ⟨_, _, _, _, _, _⟩ := HSt.out _ hX4)
       | (go_at_call 22; refine (HSc.out _ hb4).mono ?_; rintro e w5 ⟨rfl, hb5, hx5⟩; have hX5 := hX4.trans (hx5.mono hX4.size); obtain ⟨_, _, _, _, _, _⟩ := HSt.out _ hX5)
       | ((fail_if_success have := hb6); go_at_call 13; refine (HW.out _ hb5).mono ?_; rintro e w6 ⟨⟨A6, c6, rfl, o6⟩, hb6, hx6⟩; have hX6 := hX5.trans (hx6.mono hX5.size); obtain ⟨_, _, _, _, _, _⟩ := HSt.out _ hX6)
       | (go_at_call 13; refine (HW'.out _ hb6).mono ?_; rintro e w7 ⟨⟨A7, c7, rfl, o7⟩, hb7, hx7⟩; have hX7 := hX6.trans (hx7.mono hX6.size)))
      have HSK : Hid (∀ w', Below w7.heap.size w7 w' → StBox w' r d sp q co k w.heap.size) := Lib.hid fun w' h => HSt.out w' (hX7.trans (h.mono hX7.size))
      have h77 : Below w7.heap.size w7 w7 := Below.refl _ _
      have o67 := own_below o6 hx7
      obtain ⟨_, _, _, _, _, _⟩ := HSK.out _ h77
      obtain ⟨_, _, _, _, _, _⟩ := HSK.out _ h77.drew
      have hlt7 : w.heap.size < w7.heap.size := by have := hX7.size; omega
      go_upto_region 5 with fail
      go_region_law (first
       | ((fail_if_success have := hown8); refine app_step rfl _ _ _ rfl elt_ch (w7.heap.size) _ rfl ((by first | exact own_built (xs := []) rfl rfl (Nat.le_refl _) (by omega) | exact own_below (own_built (xs := []) rfl rfl (Nat.le_refl _) (by omega)) (Below.refl _ _).drew)) _ _ rfl ((hrd.out.below (Below.trans hb7 (Below.mono (show Below w7.heap.size w7 _ by (repeat (first | exact Below.refl _ _ | assumption | refine Below.drew ?_ | refine Below.alloc ?_ (by first | (simp; done) | (simp; omega) | omega) _ | refine Below.setCell ?_ (by first | (simp; done) | (simp; omega) | omega) _))) hb7.size)))) (encCs_cells _) (by omega) (by omega) (by first | (simp; done) | (simp; omega) | omega) ?_; intro A8 c8 w8 hown8 hbel8 hgr8 hat8; have z8 := hbel8.size; (try simp only [Nat.zero_add, List.nil_append] at hown8); have t8 : Below w7.heap.size w7 w8 := Below.trans (by (repeat (first | exact Below.refl _ _ | assumption | refine Below.drew ?_ | refine Below.alloc ?_ (by first | (simp; done) | (simp; omega) | omega) _ | refine Below.setCell ?_ (by first | (simp; done) | (simp; omega) | omega) _))) hbel8; have y8 := t8.size; have hlt8 : w.heap.size < w8.heap.size := (by omega); obtain ⟨_, _, _, _, _, _⟩ := HSK.out _ t8)
       | (refine app_step rfl _ _ _ rfl elt_ch (w7.heap.size) _ rfl (hown8) _ _ rfl ((hrd'.out.below (Below.trans hb7 (Below.mono t8 hb7.size)))) (encCs_cells _) (by omega) (by omega) (by first | (simp; done) | (simp; omega) | omega) ?_; intro A9 c9 w9 hown9 hbel9 hgr9 hat9; have z9 := hbel9.size; (try simp only [Nat.zero_add, List.nil_append] at hown9); have t9 := t8.trans hbel9; have y9 := t9.size; have hlt9 : w.heap.size < w9.heap.size := (by omega); obtain ⟨_, _, _, _, _, _⟩ := HSK.out _ t9)
       | (go_simp; go_at_call 13; refine (HB.out _ (hb7.trans (t9.mono hb7.size)) _ _ _ hown9).mono ?_; rintro e w10 ⟨⟨A10, c10, rfl, o10⟩, hb10, hx10⟩; have t10 := t9.trans (hx10.mono t9.size); obtain ⟨_, _, _, _, _, _⟩ := HSK.out _ t10))
      all_goals (
       have o610 := own_below o67 t10
       have o710 := own_below o7 t10
       go_upto_region 8 with fail
       refine wp_fg (fun U => U.ownsRow w5.heap.size 9 1 (.slice A6 WX.length c6) WX.length (sv WX) ∧ U.ownsRow w6.heap.size 9 1 (.slice A7 WY.length c7) WY.length (sv WY) ∧ U.ownsRow w9.heap.size 9 1 (.slice A10 WZ.length c10) WZ.length (sv WZ) ∧ Below w.heap.size w U) ⟨o610, o710, o10, hb10⟩ ?_
       clear o6 o7 o10 o67 o610 o710 HW HW' HB HF HF' HC HC' HSc HSt HSK hown8 hown9 hbel8 hbel9 hgr8 hgr9 hat8 hat9 t8 t9 t10 h77 hb1 hb2 hb3 hb4 hb5 hb6 hb7 hb10 hbX hx1 hx2 hx3 hx4 hx5 hx6 hx7 hx10 hX2 hX3 hX4 hX5 hX6 hX7 hrd hrd'
       rintro U ⟨u6, u7, u10, hbU⟩
       obtain ⟨N, hN⟩ : ∃ N, WX.length = N + 1 := ⟨WX.length - 1, by omega⟩
       have hd : Rd U U.heap.size 1 A6 N (sv WX.dropLast) := by
        have := (Rd.of_own u6).take (k := WX.length - 1) (by omega)
        rw [sv_drop] at this
        rwa [show WX.length - 1 = N by omega] at this
       have hcap := own_caps u6
       have q1 : (N : Int) ≤ (c6 : Int) := by omega
       have q2 : (c6 : Int) ≤ 9223372036854775807 := by have := hcap.2; unfold maxLen at this; omega
       have q3 : (0 : Int) ≤ (N : Int) := by omega
       have r7 := Rd.of_own u7
       have r10 := Rd.of_own u10
       have hWZ : WZ.length = N + WY.length := by rw [HZ.out, List.length_append, List.length_dropLast]; omega
       have hWD : WX.dropLast.length = N := by rw [List.length_dropLast]; omega
       have HZd := Lib.hid hWZ
       rw [hN]
       rw [hN] at z0
       clear u6 u7 u10 hne hWZ hN
       generalize WX.dropLast = WD at *
       go_wp2_with (first
        | ((fail_if_success have := hown1); (at_builtin; refine app_list rfl _ _ _ rfl elt_str (U.heap.size) _ rfl (own_built (xs := []) rfl rfl (Nat.le_refl _) (by omega)) _ _ rfl ((hd.below ((Below.refl _ _).alloc (Nat.le_refl _) _))) (by first | rfl | exact sv_one _ | exact wv_one _) (by omega) (by omega) (by first | (simp; done) | (simp; omega) | omega) ?_; intro A1 c1 w1 hown1 hbel1 hgr1 hat1; have z1 := hbel1.size; (try simp only [World.size_alloc] at z1); (try simp only [Nat.zero_add, List.nil_append] at hown1)); have t1 : Below U.heap.size U w1 := ((Below.refl _ _).alloc (Nat.le_refl _) _).trans hbel1; have y1 := t1.size)
        | ((fail_if_success have := hown2); (at_builtin; refine app_list rfl _ _ _ rfl elt_str (U.heap.size) _ rfl (hown1) _ _ rfl ((r7.below t1)) (by first | rfl | exact sv_one _ | exact wv_one _) (by omega) (by omega) (by first | (simp; done) | (simp; omega) | omega) ?_; intro A2 c2 w2 hown2 hbel2 hgr2 hat2; have z2 := hbel2.size; (try simp only [World.size_alloc] at z2); (try simp only [Nat.zero_add, List.nil_append] at hown2)); have t2 := t1.trans hbel2; rw [← sv_app] at hown2)
        | (go_at_call 15; refine (bothQ (w := w) (same_t WZ (WD ++ WY) HZ.out _ _ _ _ _ _ _ _ _ rfl (by rw [List.length_append, hWD]) (r10.below t2) (Rd.of_own hown2) (by rw [HZd.out]; omega) (by omega)) (hbU.trans (t2.mono hbU.size))).mono ?_; rintro e w3 ⟨rfl, hb3, hx3⟩)
        | (go_at_call 12; refine (HA.out _ (by assumption)).mono ?_; rintro e wa ⟨rfl, hba, hxa⟩))
       go_ret
       exact ⟨rfl, hba⟩)
     ·generalize setE r q k = E1 at *
      have h1b : (E1 != 0) = true := bne_iff_ne.2 h1
      rw [h4] at HC
      rw [h5] at HC'
      clear h1 h4 h5 hf hf'
      clear rd rd' hg
      go_enter Tryz.func7, Tryz.ntmps7
      go_upto_region 1 with fail
      refine wp_fg (fun X => StBox X r d sp q co k w.heap.size ∧ Below w.heap.size w X ∧ X.heap.size = w.heap.size + 1) ⟨StBox.new w r d sp q co k 24, (Below.refl _ _).alloc (Nat.le_refl _) _, by simp⟩ ?_
      rintro X ⟨hst, hbX, hzX⟩
      have HSt : Hid (∀ w', Below X.heap.size X w' → StBox w' r d sp q co k w.heap.size) := Lib.hid fun w' h => hst.below h (by omega)
      clear hst hzX
      go_wp2_with (first | ((fail_if_success have := hb1); go_at_call 11; refine (HF.out _ hbX).mono ?_; rintro e w1 ⟨rfl, hb1, hx1⟩; obtain ⟨_, _, _, _, _, _⟩ := HSt.out _ hx1) | (go_at_call 11; refine (HF'.out _ hb1).mono ?_; rintro e w2 ⟨rfl, hb2, hx2⟩; have hX2 := hx1.trans (hx2.mono hx1.size); obtain ⟨_, _, _, _, _, _⟩ := HSt.out _ hX2) | ((fail_if_success have := hb3); go_at_call 16; refine (HC.out _ hb2).mono ?_; rintro e w3 ⟨rfl, hb3, hx3⟩; have hX3 := hX2.trans (hx3.mono hX2.size); obtain ⟨_, _, _, _, _, _⟩ := HSt.out _ hX3) | (go_at_call 16; refine (HC'.out _ hb3).mono ?_; rintro e w4 ⟨rfl, hb4, hx4⟩; have hX4 := hX3.trans (hx4.mono hX3.size); obtain ⟨_, _, _, _, _, _⟩ := HSt.out _ hX4) | (go_at_call 22; refine (HSc.out _ hb4).mono ?_; rintro e w5 ⟨rfl, hb5, hx5⟩; have hX5 := hX4.trans (hx5.mono hX4.size); obtain ⟨_, _, _, _, _, _⟩ := HSt.out _ hX5) | (go_at_call 12; refine (HA.out _ (by assumption)).mono ?_; rintro e wa ⟨rfl, hba, hxa⟩))
      go_ret
      exact ⟨rfl, hba⟩
    ·generalize chkAll l' = E5 at *
     have h5b : (E5 != 0) = true := bne_iff_ne.2 h5
     rw [h4] at HC
     clear h4 h5 hf hf'
     clear rd rd' hg
     go_enter Tryz.func7, Tryz.ntmps7
     go_upto_region 1 with fail
     refine wp_fg (fun X => StBox X r d sp q co k w.heap.size ∧ Below w.heap.size w X ∧ X.heap.size = w.heap.size + 1) ⟨StBox.new w r d sp q co k 24, (Below.refl _ _).alloc (Nat.le_refl _) _, by simp⟩ ?_
     rintro X ⟨hst, hbX, hzX⟩
     have HSt : Hid (∀ w', Below X.heap.size X w' → StBox w' r d sp q co k w.heap.size) := Lib.hid fun w' h => hst.below h (by omega)
     clear hst hzX
     go_wp2_with (first | ((fail_if_success have := hb1); go_at_call 11; refine (HF.out _ hbX).mono ?_; rintro e w1 ⟨rfl, hb1, hx1⟩; obtain ⟨_, _, _, _, _, _⟩ := HSt.out _ hx1) | (go_at_call 11; refine (HF'.out _ hb1).mono ?_; rintro e w2 ⟨rfl, hb2, hx2⟩; have hX2 := hx1.trans (hx2.mono hx1.size); obtain ⟨_, _, _, _, _, _⟩ := HSt.out _ hX2) | ((fail_if_success have := hb3); go_at_call 16; refine (HC.out _ hb2).mono ?_; rintro e w3 ⟨rfl, hb3, hx3⟩; have hX3 := hX2.trans (hx3.mono hX2.size); obtain ⟨_, _, _, _, _, _⟩ := HSt.out _ hX3) | (go_at_call 16; refine (HC'.out _ hb3).mono ?_; rintro e w4 ⟨rfl, hb4, hx4⟩; have hX4 := hX3.trans (hx4.mono hX3.size); obtain ⟨_, _, _, _, _, _⟩ := HSt.out _ hX4) | (go_at_call 22; refine (HSc.out _ hb4).mono ?_; rintro e w5 ⟨rfl, hb5, hx5⟩; have hX5 := hX4.trans (hx5.mono hX4.size); obtain ⟨_, _, _, _, _, _⟩ := HSt.out _ hX5) | (go_at_call 12; refine (HA.out _ (by assumption)).mono ?_; rintro e wa ⟨rfl, hba, hxa⟩))
     go_ret
     exact ⟨rfl, hba⟩
   ·generalize chkAll l = E4 at *
    have h4b : (E4 != 0) = true := bne_iff_ne.2 h4
    clear h4 hf hf'
    clear rd rd' hg
    go_enter Tryz.func7, Tryz.ntmps7
    go_upto_region 1 with fail
    refine wp_fg (fun X => StBox X r d sp q co k w.heap.size ∧ Below w.heap.size w X ∧ X.heap.size = w.heap.size + 1) ⟨StBox.new w r d sp q co k 24, (Below.refl _ _).alloc (Nat.le_refl _) _, by simp⟩ ?_
    rintro X ⟨hst, hbX, hzX⟩
    have HSt : Hid (∀ w', Below X.heap.size X w' → StBox w' r d sp q co k w.heap.size) := Lib.hid fun w' h => hst.below h (by omega)
    clear hst hzX
    go_wp2_with (first | ((fail_if_success have := hb1); go_at_call 11; refine (HF.out _ hbX).mono ?_; rintro e w1 ⟨rfl, hb1, hx1⟩; obtain ⟨_, _, _, _, _, _⟩ := HSt.out _ hx1) | (go_at_call 11; refine (HF'.out _ hb1).mono ?_; rintro e w2 ⟨rfl, hb2, hx2⟩; have hX2 := hx1.trans (hx2.mono hx1.size); obtain ⟨_, _, _, _, _, _⟩ := HSt.out _ hX2) | ((fail_if_success have := hb3); go_at_call 16; refine (HC.out _ hb2).mono ?_; rintro e w3 ⟨rfl, hb3, hx3⟩; have hX3 := hX2.trans (hx3.mono hX2.size); obtain ⟨_, _, _, _, _, _⟩ := HSt.out _ hX3) | (go_at_call 16; refine (HC'.out _ hb3).mono ?_; rintro e w4 ⟨rfl, hb4, hx4⟩; have hX4 := hX3.trans (hx4.mono hX3.size); obtain ⟨_, _, _, _, _, _⟩ := HSt.out _ hX4) | (go_at_call 22; refine (HSc.out _ hb4).mono ?_; rintro e w5 ⟨rfl, hb5, hx5⟩; have hX5 := hX4.trans (hx5.mono hX4.size); obtain ⟨_, _, _, _, _, _⟩ := HSt.out _ hX5) | (go_at_call 12; refine (HA.out _ (by assumption)).mono ?_; rintro e wa ⟨rfl, hba, hxa⟩))
    go_ret
    exact ⟨rfl, hba⟩
  ·rw [hf] at HF
   rw [Bool.not_eq_true] at hf'
   rw [hf'] at HF'
   clear hf hf'
   clear rd rd' hg
   go_enter Tryz.func7, Tryz.ntmps7
   go_upto_region 1 with fail
   refine wp_fg (fun X => StBox X r d sp q co k w.heap.size ∧ Below w.heap.size w X ∧ X.heap.size = w.heap.size + 1) ⟨StBox.new w r d sp q co k 24, (Below.refl _ _).alloc (Nat.le_refl _) _, by simp⟩ ?_
   rintro X ⟨hst, hbX, hzX⟩
   have HSt : Hid (∀ w', Below X.heap.size X w' → StBox w' r d sp q co k w.heap.size) := Lib.hid fun w' h => hst.below h (by omega)
   clear hst hzX
   go_wp2_with (first | ((fail_if_success have := hb1); go_at_call 11; refine (HF.out _ hbX).mono ?_; rintro e w1 ⟨rfl, hb1, hx1⟩; obtain ⟨_, _, _, _, _, _⟩ := HSt.out _ hx1) | (go_at_call 11; refine (HF'.out _ hb1).mono ?_; rintro e w2 ⟨rfl, hb2, hx2⟩; have hX2 := hx1.trans (hx2.mono hx1.size); obtain ⟨_, _, _, _, _, _⟩ := HSt.out _ hX2) | ((fail_if_success have := hb3); go_at_call 16; refine (HC.out _ hb2).mono ?_; rintro e w3 ⟨rfl, hb3, hx3⟩; have hX3 := hX2.trans (hx3.mono hX2.size); obtain ⟨_, _, _, _, _, _⟩ := HSt.out _ hX3) | (go_at_call 16; refine (HC'.out _ hb3).mono ?_; rintro e w4 ⟨rfl, hb4, hx4⟩; have hX4 := hX3.trans (hx4.mono hX3.size); obtain ⟨_, _, _, _, _, _⟩ := HSt.out _ hX4) | (go_at_call 22; refine (HSc.out _ hb4).mono ?_; rintro e w5 ⟨rfl, hb5, hx5⟩; have hX5 := hX4.trans (hx5.mono hX4.size); obtain ⟨_, _, _, _, _, _⟩ := HSt.out _ hX5) | (go_at_call 12; refine (HA.out _ (by assumption)).mono ?_; rintro e wa ⟨rfl, hba, hxa⟩))
   go_ret
   exact ⟨rfl, hba⟩
 ·rw [Bool.not_eq_true] at hf
  rw [hf] at HF
  clear hf
  clear rd rd' hg
  go_enter Tryz.func7, Tryz.ntmps7
  go_upto_region 1 with fail
  refine wp_fg (fun X => StBox X r d sp q co k w.heap.size ∧ Below w.heap.size w X ∧ X.heap.size = w.heap.size + 1) ⟨StBox.new w r d sp q co k 24, (Below.refl _ _).alloc (Nat.le_refl _) _, by simp⟩ ?_
  rintro X ⟨hst, hbX, hzX⟩
  have HSt : Hid (∀ w', Below X.heap.size X w' → StBox w' r d sp q co k w.heap.size) := Lib.hid fun w' h => hst.below h (by omega)
  clear hst hzX
  go_wp2_with (first | ((fail_if_success have := hb1); go_at_call 11; refine (HF.out _ hbX).mono ?_; rintro e w1 ⟨rfl, hb1, hx1⟩; obtain ⟨_, _, _, _, _, _⟩ := HSt.out _ hx1) | (go_at_call 11; refine (HF'.out _ hb1).mono ?_; rintro e w2 ⟨rfl, hb2, hx2⟩; have hX2 := hx1.trans (hx2.mono hx1.size); obtain ⟨_, _, _, _, _, _⟩ := HSt.out _ hX2) | ((fail_if_success have := hb3); go_at_call 16; refine (HC.out _ hb2).mono ?_; rintro e w3 ⟨rfl, hb3, hx3⟩; have hX3 := hX2.trans (hx3.mono hX2.size); obtain ⟨_, _, _, _, _, _⟩ := HSt.out _ hX3) | (go_at_call 16; refine (HC'.out _ hb3).mono ?_; rintro e w4 ⟨rfl, hb4, hx4⟩; have hX4 := hX3.trans (hx4.mono hX3.size); obtain ⟨_, _, _, _, _, _⟩ := HSt.out _ hX4) | (go_at_call 22; refine (HSc.out _ hb4).mono ?_; rintro e w5 ⟨rfl, hb5, hx5⟩; have hX5 := hX4.trans (hx5.mono hX4.size); obtain ⟨_, _, _, _, _, _⟩ := HSt.out _ hX5) | (go_at_call 12; refine (HA.out _ (by assumption)).mono ?_; rintro e wa ⟨rfl, hba, hxa⟩))
  go_ret
  exact ⟨rfl, hba⟩
end Go.Proofs.YtejjfiipghcifaaGreatDoor
