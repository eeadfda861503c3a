/- Joined texts: UxE. -/
import Derived.Test.YtejjfiipghcifaaGreatDoorQAA
import Derived.Test.YtejjfiipghcifaaGreatDoorQAB
import Derived.Test.YtejjfiipghcifaaGreatDoorQAC
import Derived.Test.YtejjfiipghcifaaGreatDoorQAD
import Derived.Test.YtejjfiipghcifaaGreatDoorQAE
import Derived.Test.YtejjfiipghcifaaGreatDoorQAF
import Derived.Test.YtejjfiipghcifaaGreatDoorQAG
import Derived.Test.YtejjfiipghcifaaGreatDoorQAH
import Derived.Test.YtejjfiipghcifaaGreatDoorQAJ
import Derived.Test.YtejjfiipghcifaaGreatDoorQAN
import Derived.Test.YtejjfiipghcifaaGreatDoorQAO
import Derived.Test.YtejjfiipghcifaaGreatDoorQAR
import Derived.Test.YtejjfiipghcifaaGreatDoorQAU
import Derived.Test.YtejjfiipghcifaaGreatDoorQAV
import Derived.Test.YtejjfiipghcifaaGreatDoorQAW
import Derived.Test.YtejjfiipghcifaaGreatDoorQBA
import Derived.Test.YtejjfiipghcifaaGreatDoorQBC
import Derived.Test.YtejjfiipghcifaaGreatDoorQBD
import Derived.Test.YtejjfiipghcifaaGreatDoorQBE
import Derived.Test.YtejjfiipghcifaaGreatDoorQBF
import Derived.Test.YtejjfiipghcifaaGreatDoorQBH
import Derived.Test.YtejjfiipghcifaaGreatDoorQBI
import Derived.Test.YtejjfiipghcifaaGreatDoorQBP
import Derived.Test.YtejjfiipghcifaaGreatDoorQBQ
import Derived.Test.YtejjfiipghcifaaGreatDoorQBT
import Derived.Test.YtejjfiipghcifaaGreatDoorQBU
import Derived.Test.YtejjfiipghcifaaGreatDoorQIB
set_option linter.unusedVariables false
set_option linter.unusedSimpArgs false
set_option linter.unnecessarySimpa false
namespace Go.Proofs.YtejjfiipghcifaaGreatDoor
open Go.RowKit
set_option maxRecDepth 20000
theorem ix0 (w : World) : (Instr.index 40 (.agg #[.string ⟨#[109, 111, 114, 101]⟩, .string ⟨#[100, 111, 110, 101]⟩, .string ⟨#[117, 112, 100, 97, 116, 101, 115]⟩]) (.int .i64 0)).run Tryz.prog w = .ok (.string bMore) w := by kernel_rfl
theorem ix1 (w : World) : (Instr.index 40 (.agg #[.string ⟨#[109, 111, 114, 101]⟩, .string ⟨#[100, 111, 110, 101]⟩, .string ⟨#[117, 112, 100, 97, 116, 101, 115]⟩]) (.int .i64 1)).run Tryz.prog w = .ok (.string bDone) w := by kernel_rfl
theorem ix2 (w : World) : (Instr.index 40 (.agg #[.string ⟨#[109, 111, 114, 101]⟩, .string ⟨#[100, 111, 110, 101]⟩, .string ⟨#[117, 112, 100, 97, 116, 101, 115]⟩]) (.int .i64 2)).run Tryz.prog w = .ok (.string bUpdates) w := by kernel_rfl
theorem numI_done (n : Int) (h1 : -999999999 ≤ n) (h2 : n ≤ 999999999) : ∀ s ∈ numI n, s ≠ bDone := fun s hs e => by
 unfold numI at hs
 obtain ⟨j, hj, rfl⟩ := List.mem_map.1 hs
 have h := sg_words_lt n h1 h2 j hj
 have : ∀ i, i < 32 → wb i ≠ bDone := by decide +kernel
 exact this j h e
theorem end_last {l : List Chg} {n : Int} {S : Setts} (h0 : 0 ≤ n) (h1 : n ≤ 999999999) (F : List ByteArray) (hF : F = l.flatMap fun c => phraseL c S) : ∃ N, (wordsU l n S).length = N + 1 ∧ (wordsU l n S)[N]? = some (if n = 0 then bMore else if n = 1 then bDone else bUpdates) ∧
  (2 ≤ n → F.length < N ∧ (wordsU l n S)[F.length]? = some bDone ∧ ∀ j, F.length < j → ∀ t, (wordsU l n S)[j]? = some t → t ≠ bDone) := by
 subst hF
 unfold wordsU endW
 generalize (l.flatMap fun c => phraseL c S) = F
 by_cases e0 : n = 0
 ·rw [if_pos e0, if_pos e0]
  exact ⟨F.length, by simp, by simp, fun h => by omega⟩
 ·rw [if_neg e0, if_neg e0]
  by_cases e1 : n = 1
  ·rw [if_pos e1, if_pos e1]
   exact ⟨F.length, by simp, by simp, fun h => by omega⟩
  ·rw [if_neg e1, if_neg e1]
   have hd := numI_done n (by omega) h1
   generalize numI n = K at *
   refine ⟨F.length + 1 + K.length, by simp; omega, ?_, fun _ => ⟨by omega, by simp, fun j hj t ht => ?_⟩⟩
   ·rw [List.getElem?_append_right (by omega), show F.length + 1 + K.length - F.length = K.length + 1 by omega, List.getElem?_cons_succ, List.getElem?_append_right (Nat.le_refl _)]
    simp
   ·rw [List.getElem?_append_right (by omega)] at ht
    obtain ⟨i, hi⟩ : ∃ i, j - F.length = i + 1 := ⟨j - F.length - 1, by omega⟩
    rw [hi, List.getElem?_cons_succ] at ht
    have hm := List.mem_of_getElem? ht
    rcases List.mem_append.1 hm with hm | hm
    ·exact hd t hm
    ·rw [List.mem_singleton] at hm
     subst hm
     decide
set_option maxHeartbeats 8000000 in
theorem law_UtteranceEnding (w : World) (hg : Gd w) (A : Option Addr) (n c : Nat) (l : List ChgM) (hn : l.length = n) (hc : n ≤ c) (hm : c ≤ maxLen) (rd : RdC w w.heap.size A n l) (m : Int) (wm : (Lit.int .i64 m).wf = true) (r : Int) (d sp : Bool) (q : Int) (co : Bool) (k : Int) (wr : (Lit.int .i64 r).wf = true) (wq : (Lit.int .i64 q).wf = true) (wk : (Lit.int .i64 k).wf = true) :
  Calls Tryz.prog 8 #[.slice A n c, .int .i64 m, stV r d sp q co k] w (Gives (.bool true) w) := by
 subst hn
 have HA : Hid (∀ X, Below w.heap.size w X → Calls Tryz.prog 12 #[] X fun e X' => e = .returned (.bool true) ∧ Below w.heap.size w X' ∧ Below X.heap.size X X') := Lib.hid fun X hX => bothG (awake41_ X (hg.below hX)) hX
 have HF : Hid (∀ X, Below w.heap.size w X → Calls Tryz.prog 11 #[.slice A l.length c] X fun e X' => e = .returned (.bool (fineC l)) ∧ Below w.heap.size w X' ∧ Below X.heap.size X X') := Lib.hid fun X hX => bothG (fine_ l A _ c w.heap.size X (by omega) (rd.below hX) hX.size) hX
 by_cases hf : fineC l = true
 ·rw [hf] at HF
  by_cases hE : wErr l m r q k = 0
  ·obtain ⟨h1, h2, h3, h4⟩ := wErr_ok hE
   obtain ⟨h5, h6⟩ := fine_chk hf h4
   obtain ⟨h7, h8⟩ := words_small ⟨d, sp, q⟩ h2 h3 h5 h6
   obtain ⟨F, hF⟩ : ∃ F, F = (chgs l).flatMap fun c => phraseL c ⟨d, sp, q⟩ := ⟨_, rfl⟩
   obtain ⟨N, hN, hlast, htail⟩ := end_last h2 h3 F hF
   have HCut : Hid (∀ j (hj : j < (wordsU (chgs l) m ⟨d, sp, q⟩).length) (M : List Chg) (i : Int), changesU ((wordsU (chgs l) m ⟨d, sp, q⟩).take j) = some (M, i) → 2 ≤ m ∧ j = F.length + 1 ∧ i = 1 ∧ M = chgs l) := Lib.hid fun j hj M i hM => by
    have := changes_cut (chgs l) m ⟨d, sp, q⟩ h2 h3 (fun x hx => (h6 x hx).1) j hj M i hM
    rwa [← hF] at this
   have HCh : Hid (∀ X, Below w.heap.size w X → ∀ j (hj : j < (wordsU (chgs l) m ⟨d, sp, q⟩).length) A2 c2 base, X.ownsRow base 9 1 (.slice A2 (wordsU (chgs l) m ⟨d, sp, q⟩).length c2) (wordsU (chgs l) m ⟨d, sp, q⟩).length (sv (wordsU (chgs l) m ⟨d, sp, q⟩)) → Calls Tryz.prog 19 #[.slice A2 j c2] X fun e X' => ChR (changesU ((wordsU (chgs l) m ⟨d, sp, q⟩).take j)) X e X' ∧ Below w.heap.size w X' ∧ Below X.heap.size X X') := Lib.hid fun X hX j hj A2 c2 base ho => by
    have hg' := hg.below hX
    have hcap := own_caps ho
    have hrt := (Rd.of_own ho).take (k := j) (Nat.le_of_lt hj)
    rw [Nat.mul_one, show (sv (wordsU (chgs l) m ⟨d, sp, q⟩)).take j = sv ((wordsU (chgs l) m ⟨d, sp, q⟩).take j) by simp [sv]] at hrt
    have hlt : ((wordsU (chgs l) m ⟨d, sp, q⟩).take j).length = j := by rw [List.length_take]; omega
    exact (uchanges_ _ A2 j c2 X ⟨hlt, by omega, hcap.2, hrt, fun s hs => h8 s (List.mem_of_mem_take hs)⟩ (by omega) hg'.1 hg'.2.1 hg'.2.2).mono fun e X' h => ⟨h, hX.trans (h.1.mono hX.size), h.1⟩
   have HSm : Hid (∀ X, Below w.heap.size w X → ∀ out A3 c3, chgs out = chgs l → RdC X X.heap.size A3 out.length out → Calls Tryz.prog 21 #[.slice A3 out.length c3, .slice A l.length c] X fun e X' => e = .returned (.bool true) ∧ Below w.heap.size w X' ∧ Below X.heap.size X X') := Lib.hid fun X hX out A3 c3 ho hr => by
    have hlo : out.length = l.length := by rw [← chgs_len, ho, chgs_len]
    have h := rsame19 out l A3 A out.length l.length c3 c X.heap.size X (by rw [hlo]; have := (fine_some hf).1; omega) hr ((rd.below hX).more hX.size) (Nat.le_refl _) fun x hx => by
     have hxc : x.c ∈ chgs l := by rw [← ho]; exact List.mem_map_of_mem hx
     have := (h6 x.c hxc).2.1
     omega
    rw [decide_eq_true ho] at h
    exact bothG h hX
   have HW : Hid (∀ X, Below w.heap.size w X → Calls Tryz.prog 13 #[.slice A l.length c, .int .i64 m, stV r d sp q co k] X fun e X' => (∃ A2 c2, e = .returned (.tuple #[.slice A2 (wordsU (chgs l) m ⟨d, sp, q⟩).length c2, .int .i64 0]) ∧ X'.ownsRow X.heap.size 9 1 (.slice A2 (wordsU (chgs l) m ⟨d, sp, q⟩).length c2) (wordsU (chgs l) m ⟨d, sp, q⟩).length (sv (wordsU (chgs l) m ⟨d, sp, q⟩))) ∧ Below w.heap.size w X' ∧ Below X.heap.size X X') := Lib.hid fun X hX => k_wordsT hg hf rd hE X hX
   clear h1 h4 h5 h6 h8 hE hf rd hg hF
   generalize wordsU (chgs l) m ⟨d, sp, q⟩ = W at *
   have hNl : N < W.length := by omega
   rw [hN] at HW HCh HCut h7
   have hlast' : W[N] = (if m = 0 then bMore else if m = 1 then bDone else bUpdates) := by
    rw [List.getElem?_eq_getElem hNl] at hlast
    exact Option.some.inj hlast
   clear hlast
   by_cases e0 : m = 0
   ·subst e0
    rw [if_pos rfl] at hlast'
    clear htail
    go_enter Tryz.func8, Tryz.ntmps8
    go_upto_region 1 with fail
    refine wp_fg (fun X => StBox X r d sp q co k w.heap.size ∧ Below w.heap.size w X ∧ X.heap.size = w.heap.size + 1) ⟨StBox.new w r d sp q co k 24, (Below.refl _ _).alloc (Nat.le_refl _) _, by simp⟩ ?_
    rintro X ⟨hst, hbX, hzX⟩
    have HSt : Hid (∀ w', Below X.heap.size X w' → StBox w' r d sp q co k w.heap.size) := Lib.hid fun w' h => hst.below h (by omega)
    clear hst hzX
    go_upto_region 7 with (first | (go_at_call 11; refine (HF.out _ hbX).mono ?_; rintro e w1 ⟨rfl, hb1, hx1⟩; obtain ⟨_, _, _, _, _, _⟩ := HSt.out _ hx1) | (go_at_call 13; refine (HW.out _ hb1).mono ?_; rintro e w2 ⟨⟨A2, c2, rfl, o2⟩, hb2, hx2⟩; have hX2 := hx1.trans (hx2.mono hx1.size); obtain ⟨_, _, _, _, _, _⟩ := HSt.out _ hX2))
    obtain ⟨B, O, rfl, hBb, hcell⟩ := (Rd.of_own o2).at_ (Nat.lt_succ_self N)
    rw [sv_get _ _ hNl, hlast'] at hcell
    have hNi : (N : Int) < (N : Int) + 1 := by omega
    have hmin : min (0 : Int) 2 = 0 := by decide
    have hix := ix0
    have hx2' := hx2
    go_quiet (fail)
    clear hcell hix hmin
    go_wp2
    go_loopw [61] (fun x wr => ∃ j : Nat, j ≤ N + 1 ∧ x = .int .i64 j ∧ Below w2.heap.size w2 wr) (fun x _ => N + 1 - (intOf x).toNat)
    case atStart => exact ⟨0, Nat.zero_le _, rfl, below_drewN (Below.refl _ _)⟩
    case round =>
     obtain ⟨j, hj, rfl, hbel⟩ := hrel
     have hbw := hb2.trans (hbel.mono hb2.size)
     by_cases hlt : j < N + 1
     ·have ow := own_below o2 hbel
      have hcap := own_caps ow
      have q1 : (j : Int) ≤ (c2 : Int) := by omega
      have q2 : (c2 : Int) ≤ 9223372036854775807 := by have := hcap.2; unfold maxLen at this; omega
      have HK := Lib.hid (HCh.out _ hbw j hlt _ c2 _ ow)
      have HU := Lib.hid (HCut.out j hlt)
      have hkl : (j : Int) < (N : Int) + 1 := by omega
      have hwl : (j : Int) + 1 ≤ 9223372036854775807 := by omega
      clear ow hcap
      obtain ⟨CU, hCU⟩ : ∃ x, Hid (x = changesU (W.take j)) := ⟨_, Lib.hid rfl⟩
      rw [← hCU.out] at HK HU
      clear hCU
      cases CU with
      | none =>
       go_wp2_with (go_at_call 19; refine HK.out.mono ?_; rintro e w5 ⟨⟨-, rfl⟩, hb5, hx5⟩)
       exact ⟨⟨j + 1, by omega, by go_num, hbel.trans (hx5.mono hbel.size)⟩, by simp [intOf]; omega⟩
      | some x =>
       obtain ⟨M, i⟩ := x
       obtain ⟨u1, u2, rfl, rfl⟩ := HU.out M i rfl
       omega
     ·go_wp2_with (go_at_call 12; refine (HA.out _ (by assumption)).mono ?_; rintro e wa ⟨rfl, hba, hxa⟩)
      go_ret
      exact ⟨rfl, hba⟩
   ·by_cases e1 : m = 1
    ·subst e1
     rw [if_neg (by decide), if_pos rfl] at hlast'
     clear htail
     go_enter Tryz.func8, Tryz.ntmps8
     go_upto_region 1 with fail
     refine wp_fg (fun X => StBox X r d sp q co k w.heap.size ∧ Below w.heap.size w X ∧ X.heap.size = w.heap.size + 1) ⟨StBox.new w r d sp q co k 24, (Below.refl _ _).alloc (Nat.le_refl _) _, by simp⟩ ?_
     rintro X ⟨hst, hbX, hzX⟩
     have HSt : Hid (∀ w', Below X.heap.size X w' → StBox w' r d sp q co k w.heap.size) := Lib.hid fun w' h => hst.below h (by omega)
     clear hst hzX
     go_upto_region 7 with (first | (go_at_call 11; refine (HF.out _ hbX).mono ?_; rintro e w1 ⟨rfl, hb1, hx1⟩; obtain ⟨_, _, _, _, _, _⟩ := HSt.out _ hx1) | (go_at_call 13; refine (HW.out _ hb1).mono ?_; rintro e w2 ⟨⟨A2, c2, rfl, o2⟩, hb2, hx2⟩; have hX2 := hx1.trans (hx2.mono hx1.size); obtain ⟨_, _, _, _, _, _⟩ := HSt.out _ hX2))
     obtain ⟨B, O, rfl, hBb, hcell⟩ := (Rd.of_own o2).at_ (Nat.lt_succ_self N)
     rw [sv_get _ _ hNl, hlast'] at hcell
     have hNi : (N : Int) < (N : Int) + 1 := by omega
     have hmin : min (1 : Int) 2 = 1 := by decide
     have hix := ix1
     have hx2' := hx2
     go_quiet (fail)
     clear hcell hix hmin
     go_wp2
     go_loopw [61] (fun x wr => ∃ j : Nat, j ≤ N + 1 ∧ x = .int .i64 j ∧ Below w2.heap.size w2 wr) (fun x _ => N + 1 - (intOf x).toNat)
     case atStart => exact ⟨0, Nat.zero_le _, rfl, below_drewN (Below.refl _ _)⟩
     case round =>
      obtain ⟨j, hj, rfl, hbel⟩ := hrel
      have hbw := hb2.trans (hbel.mono hb2.size)
      by_cases hlt : j < N + 1
      ·have ow := own_below o2 hbel
       have hcap := own_caps ow
       have q1 : (j : Int) ≤ (c2 : Int) := by omega
       have q2 : (c2 : Int) ≤ 9223372036854775807 := by have := hcap.2; unfold maxLen at this; omega
       have HK := Lib.hid (HCh.out _ hbw j hlt _ c2 _ ow)
       have HU := Lib.hid (HCut.out j hlt)
       have hkl : (j : Int) < (N : Int) + 1 := by omega
       have hwl : (j : Int) + 1 ≤ 9223372036854775807 := by omega
       clear ow hcap
       obtain ⟨CU, hCU⟩ : ∃ x, Hid (x = changesU (W.take j)) := ⟨_, Lib.hid rfl⟩
       rw [← hCU.out] at HK HU
       clear hCU
       cases CU with
       | none =>
        go_wp2_with (go_at_call 19; refine HK.out.mono ?_; rintro e w5 ⟨⟨-, rfl⟩, hb5, hx5⟩)
        exact ⟨⟨j + 1, by omega, by go_num, hbel.trans (hx5.mono hbel.size)⟩, by simp [intOf]; omega⟩
       | some x =>
        obtain ⟨M, i⟩ := x
        obtain ⟨u1, u2, rfl, rfl⟩ := HU.out M i rfl
        omega
      ·go_wp2_with (go_at_call 12; refine (HA.out _ (by assumption)).mono ?_; rintro e wa ⟨rfl, hba, hxa⟩)
       go_ret
       exact ⟨rfl, hba⟩
    ·rw [if_neg e0, if_neg e1] at hlast'
     obtain ⟨t1, t2, t3⟩ := htail (by omega)
     have hm2 : ¬ m < 2 := by omega
     have hm1 : 1 < m := by omega
     have HT2 : Hid (∀ h : F.length < W.length, W[F.length] = bDone) := Lib.hid fun h => by
      rw [List.getElem?_eq_getElem h] at t2
      exact Option.some.inj t2
     have HT3 : Hid (∀ j (h : j < W.length), F.length < j → W[j] ≠ bDone) := Lib.hid fun j h hj => t3 j hj _ (List.getElem?_eq_getElem h)
     clear htail t2 t3 e0 e1
     generalize F.length = FL at *
     go_enter Tryz.func8, Tryz.ntmps8
     go_upto_region 1 with fail
     refine wp_fg (fun X => StBox X r d sp q co k w.heap.size ∧ Below w.heap.size w X ∧ X.heap.size = w.heap.size + 1) ⟨StBox.new w r d sp q co k 24, (Below.refl _ _).alloc (Nat.le_refl _) _, by simp⟩ ?_
     rintro X ⟨hst, hbX, hzX⟩
     have HSt : Hid (∀ w', Below X.heap.size X w' → StBox w' r d sp q co k w.heap.size) := Lib.hid fun w' h => hst.below h (by omega)
     clear hst hzX
     go_upto_region 7 with (first | (go_at_call 11; refine (HF.out _ hbX).mono ?_; rintro e w1 ⟨rfl, hb1, hx1⟩; obtain ⟨_, _, _, _, _, _⟩ := HSt.out _ hx1) | (go_at_call 13; refine (HW.out _ hb1).mono ?_; rintro e w2 ⟨⟨A2, c2, rfl, o2⟩, hb2, hx2⟩; have hX2 := hx1.trans (hx2.mono hx1.size); obtain ⟨_, _, _, _, _, _⟩ := HSt.out _ hX2))
     obtain ⟨B, O, rfl, hBb, hcell⟩ := (Rd.of_own o2).at_ (Nat.lt_succ_self N)
     rw [sv_get _ _ hNl, hlast'] at hcell
     have hNi : (N : Int) < (N : Int) + 1 := by omega
     have hmin : min m 2 = 2 := by omega
     have hix := ix2
     go_quiet (fail)
     clear hcell hix hmin
     go_upto_region 9 with fail
     refine wp_fg (fun U => Below w2.heap.size w2 U) (below_drewN (Below.refl _ _)) ?_
     intro U hU
     have oU := own_below o2 hU
     go_wp2
     go_loop [10] (fun x => ∃ j : Nat, FL ≤ j ∧ j ≤ N ∧ x = .int .i64 j) (fun x => (intOf x).toNat)
     case atStart => exact ⟨N, Nat.le_of_lt t1, Nat.le_refl _, rfl⟩
     case round =>
      obtain ⟨j, hj1, hj2, rfl⟩ := hrel
      have hjl : j < W.length := by omega
      obtain ⟨B', O', hBO, hb', hc⟩ := (Rd.of_own oU).at_ (show j < N + 1 by omega)
      obtain ⟨rfl, rfl⟩ : B = B' ∧ O = O' := by injection hBO with hBO; injection hBO with h1 h2; exact ⟨h1, h2⟩
      rw [sv_get _ _ hjl] at hc
      by_cases hjf : j = FL
      ·subst hjf
       rw [HT2.out hjl] at hc
       clear HT2 HT3 hBO
       by_cases hz : j = 0
       ·have hz' : (j : Int) = 0 := by omega
        have hzi : ¬ 0 < (j : Int) := by omega
        have hzb : decide (0 < (j : Int)) = false := decide_eq_false hzi
        clear hz hz'
        go_wp2
        go_loopw [61] (fun x wr => ∃ i : Nat, i ≤ N + 1 ∧ x = .int .i64 i ∧ Below w2.heap.size w2 wr) (fun x _ => N + 1 - (intOf x).toNat)
        case atStart => exact ⟨0, Nat.zero_le _, rfl, hU⟩
        case round =>
         obtain ⟨i, hi, rfl, hbel⟩ := hrel
         have hbw := hb2.trans (hbel.mono hb2.size)
         by_cases hlt : i < N + 1
         ·have ow := own_below o2 hbel
          have hcap := own_caps ow
          have q1 : (i : Int) ≤ (c2 : Int) := by omega
          have q2 : (c2 : Int) ≤ 9223372036854775807 := by have := hcap.2; unfold maxLen at this; omega
          have HK := Lib.hid (HCh.out _ hbw i hlt _ c2 _ ow)
          have HU := Lib.hid (HCut.out i hlt)
          have hkl : (i : Int) < (N : Int) + 1 := by omega
          have hwl : (i : Int) + 1 ≤ 9223372036854775807 := by omega
          clear ow hcap
          obtain ⟨CU, hCU⟩ : ∃ x, Hid (x = changesU (W.take i)) := ⟨_, Lib.hid rfl⟩
          rw [← hCU.out] at HK HU
          clear hCU
          cases CU with
          | none =>
           go_wp2_with (go_at_call 19; refine HK.out.mono ?_; rintro e w5 ⟨⟨-, rfl⟩, hb5, hx5⟩)
           exact ⟨⟨i + 1, by omega, by go_num, hbel.trans (hx5.mono hbel.size)⟩, by simp [intOf]; omega⟩
          | some x =>
           obtain ⟨M, z⟩ := x
           obtain ⟨u1, u2, rfl, rfl⟩ := HU.out M z rfl
           have hjq : ((i : Int) != (j : Int) + 1) = false := by rw [u2]; simp
           clear u2
           go_upto_region 17 with (go_at_call 19; refine HK.out.mono ?_; rintro e w5 ⟨⟨-, out, A3, c3, ho, rfl, hr, hgl⟩, hb5, hx5⟩; have HSo := HSm.out _ hb5 _ _ c3 ho (hgl.rdc hr); clear ho hr hgl)
           go_cut [93] (fun v wx => v = .bool false ∧ Below w2.heap.size w2 wx)
           case first =>
            go_wp2_with (go_at_call 21; refine HSo.mono ?_; rintro e w6 ⟨rfl, hb6, hx6⟩)
            go_meet
            exact ⟨congrArg Value.bool (decide_eq_false (by omega)), (hbel.trans (hx5.mono hbel.size)).trans (hx6.mono (Nat.le_trans hbel.size hx5.size))⟩
           case rest =>
            obtain ⟨rfl, hbz⟩ := hcut
            go_wp2
            exact ⟨⟨i + 1, by omega, by go_num, hbz⟩, by simp [intOf]; omega⟩
         ·go_wp2_with (go_at_call 12; refine (HA.out _ (by assumption)).mono ?_; rintro e wa ⟨rfl, hba, hxa⟩)
          go_ret
          exact ⟨rfl, hba⟩
       ·have hzi : 0 < (j : Int) := by omega
        have hjn : (j : Int) < (N : Int) + 1 := by omega
        have hdd : (bDone.toList == [100, 111, 110, 101]) = true := by
         rw [lit_beq bDone bDone _ rfl]
         exact decide_eq_true rfl
        clear hz
        go_wp2
        go_loopw [61] (fun x wr => ∃ i : Nat, i ≤ N + 1 ∧ x = .int .i64 i ∧ Below w2.heap.size w2 wr) (fun x _ => N + 1 - (intOf x).toNat)
        case atStart => exact ⟨0, Nat.zero_le _, rfl, hU⟩
        case round =>
         obtain ⟨i, hi, rfl, hbel⟩ := hrel
         have hbw := hb2.trans (hbel.mono hb2.size)
         by_cases hlt : i < N + 1
         ·have ow := own_below o2 hbel
          have hcap := own_caps ow
          have q1 : (i : Int) ≤ (c2 : Int) := by omega
          have q2 : (c2 : Int) ≤ 9223372036854775807 := by have := hcap.2; unfold maxLen at this; omega
          have HK := Lib.hid (HCh.out _ hbw i hlt _ c2 _ ow)
          have HU := Lib.hid (HCut.out i hlt)
          have hkl : (i : Int) < (N : Int) + 1 := by omega
          have hwl : (i : Int) + 1 ≤ 9223372036854775807 := by omega
          clear ow hcap
          obtain ⟨CU, hCU⟩ : ∃ x, Hid (x = changesU (W.take i)) := ⟨_, Lib.hid rfl⟩
          rw [← hCU.out] at HK HU
          clear hCU
          cases CU with
          | none =>
           go_wp2_with (go_at_call 19; refine HK.out.mono ?_; rintro e w5 ⟨⟨-, rfl⟩, hb5, hx5⟩)
           exact ⟨⟨i + 1, by omega, by go_num, hbel.trans (hx5.mono hbel.size)⟩, by simp [intOf]; omega⟩
          | some x =>
           obtain ⟨M, z⟩ := x
           obtain ⟨u1, u2, rfl, rfl⟩ := HU.out M z rfl
           have hjq : ((i : Int) != (j : Int) + 1) = false := by rw [u2]; simp
           clear u2
           go_upto_region 17 with (go_at_call 19; refine HK.out.mono ?_; rintro e w5 ⟨⟨-, out, A3, c3, ho, rfl, hr, hgl⟩, hb5, hx5⟩; have HSo := HSm.out _ hb5 _ _ c3 ho (hgl.rdc hr); clear ho hr hgl)
           go_cut [93] (fun v wx => v = .bool false ∧ Below w2.heap.size w2 wx)
           case first =>
            go_wp2_with (go_at_call 21; refine HSo.mono ?_; rintro e w6 ⟨rfl, hb6, hx6⟩)
            go_meet
            exact ⟨congrArg Value.bool (decide_eq_false (by omega)), (hbel.trans (hx5.mono hbel.size)).trans (hx6.mono (Nat.le_trans hbel.size hx5.size))⟩
           case rest =>
            obtain ⟨rfl, hbz⟩ := hcut
            go_wp2
            exact ⟨⟨i + 1, by omega, by go_num, hbz⟩, by simp [intOf]; omega⟩
         ·go_wp2_with (go_at_call 12; refine (HA.out _ (by assumption)).mono ?_; rintro e wa ⟨rfl, hba, hxa⟩)
          go_ret
          exact ⟨rfl, hba⟩
      ·have hne := HT3.out j hjl (by omega)
       have hq : (W[j].toList == [100, 111, 110, 101]) = false := by
        rw [lit_beq W[j] bDone _ rfl]
        exact decide_eq_false hne
       obtain ⟨i, rfl⟩ : ∃ i, j = i + 1 := ⟨j - 1, by omega⟩
       have hji : (0 : Int) < ((i + 1 : Nat) : Int) := by omega
       have hjn : ((i + 1 : Nat) : Int) < (N : Int) + 1 := by omega
       clear HT2 HT3 hne hBO
       generalize W[i + 1] = s at *
       go_wp2
       exact ⟨⟨i, by omega, by omega, by go_num⟩, by simp [intOf]⟩
  ·have HW : Hid (∀ X, Below w.heap.size w X → Calls Tryz.prog 13 #[.slice A l.length c, .int .i64 m, stV r d sp q co k] X fun e X' => e = .returned (.tuple #[.slice none 0 0, .int .i64 (wErr l m r q k)]) ∧ Below w.heap.size w X' ∧ Below X.heap.size X X') := Lib.hid fun X hX => k_wordsF hg hf rd hE X hX
   have hEb : (wErr l m r q k != 0) = true := bne_iff_ne.2 hE
   generalize wErr l m r q k = E at *
   clear hf rd hg hE
   go_enter Tryz.func8, Tryz.ntmps8
   go_upto_region 1 with fail
   refine wp_fg (fun X => StBox X r d sp q co k w.heap.size ∧ Below w.heap.size w X ∧ X.heap.size = w.heap.size + 1) ⟨StBox.new w r d sp q co k 24, (Below.refl _ _).alloc (Nat.le_refl _) _, by simp⟩ ?_
   rintro X ⟨hst, hbX, hzX⟩
   have HSt : Hid (∀ w', Below X.heap.size X w' → StBox w' r d sp q co k w.heap.size) := Lib.hid fun w' h => hst.below h (by omega)
   clear hst hzX
   go_wp2_with (first | (go_at_call 11; refine (HF.out _ hbX).mono ?_; rintro e w1 ⟨rfl, hb1, hx1⟩; obtain ⟨_, _, _, _, _, _⟩ := HSt.out _ hx1) | (go_at_call 13; refine (HW.out _ hb1).mono ?_; rintro e w2 ⟨rfl, hb2, hx2⟩; have hX2 := hx1.trans (hx2.mono hx1.size); obtain ⟨_, _, _, _, _, _⟩ := HSt.out _ hX2) | (go_at_call 12; refine (HA.out _ (by assumption)).mono ?_; rintro e wa ⟨rfl, hba, hxa⟩))
   go_ret
   exact ⟨rfl, hba⟩
 ·have hf' : fineC l = false := by simpa using hf
  rw [hf'] at HF
  clear hf hf' rd hg
  go_enter Tryz.func8, Tryz.ntmps8
  go_upto_region 1 with fail
  refine wp_fg (fun X => StBox X r d sp q co k w.heap.size ∧ Below w.heap.size w X ∧ X.heap.size = w.heap.size + 1) ⟨StBox.new w r d sp q co k 24, (Below.refl _ _).alloc (Nat.le_refl _) _, by simp⟩ ?_
  rintro X ⟨hst, hbX, hzX⟩
  have HSt : Hid (∀ w', Below X.heap.size X w' → StBox w' r d sp q co k w.heap.size) := Lib.hid fun w' h => hst.below h (by omega)
  clear hst hzX
  go_wp2_with (first | (go_at_call 11; refine (HF.out _ hbX).mono ?_; rintro e w1 ⟨rfl, hb1, hx1⟩; obtain ⟨_, _, _, _, _, _⟩ := HSt.out _ hx1) | (go_at_call 12; refine (HA.out _ (by assumption)).mono ?_; rintro e wa ⟨rfl, hba, hxa⟩))
  go_ret
  exact ⟨rfl, hba⟩
end Go.Proofs.YtejjfiipghcifaaGreatDoor
