/- Joined texts: UxI. -/
import Derived.Test.YtejjfiipghcifaaGreatDoorQAA
import Derived.Test.YtejjfiipghcifaaGreatDoorQAC
import Derived.Test.YtejjfiipghcifaaGreatDoorQAD
import Derived.Test.YtejjfiipghcifaaGreatDoorQAE
import Derived.Test.YtejjfiipghcifaaGreatDoorQAG
import Derived.Test.YtejjfiipghcifaaGreatDoorQAH
import Derived.Test.YtejjfiipghcifaaGreatDoorQAJ
import Derived.Test.YtejjfiipghcifaaGreatDoorQAN
import Derived.Test.YtejjfiipghcifaaGreatDoorQAO
import Derived.Test.YtejjfiipghcifaaGreatDoorQAR
import Derived.Test.YtejjfiipghcifaaGreatDoorQAU
import Derived.Test.YtejjfiipghcifaaGreatDoorQAW
import Derived.Test.YtejjfiipghcifaaGreatDoorQBA
import Derived.Test.YtejjfiipghcifaaGreatDoorQBC
import Derived.Test.YtejjfiipghcifaaGreatDoorQBD
import Derived.Test.YtejjfiipghcifaaGreatDoorQBE
import Derived.Test.YtejjfiipghcifaaGreatDoorQBF
import Derived.Test.YtejjfiipghcifaaGreatDoorQBH
import Derived.Test.YtejjfiipghcifaaGreatDoorQBI
import Derived.Test.YtejjfiipghcifaaGreatDoorQBP
import Derived.Test.YtejjfiipghcifaaGreatDoorQBQ
import Derived.Test.YtejjfiipghcifaaGreatDoorQBT
import Derived.Test.YtejjfiipghcifaaGreatDoorQBU
import Derived.Test.YtejjfiipghcifaaGreatDoorQHV
set_option linter.unusedVariables false
set_option linter.unusedSimpArgs false
set_option linter.unnecessarySimpa false
namespace Go.Proofs.YtejjfiipghcifaaGreatDoor
open Go.RowKit
set_option maxRecDepth 20000
theorem st_one {r : Int} {d s : Bool} {p : Int} {c : Bool} {k : Int} (Z : World) (t : TypeId) (o : Obj) : StBox ((Z.alloc (.cells #[.int .i64 r, .bool d, .bool s, .int .i64 p, .bool c, .int .i64 k] t)).alloc o).drew r d s p c k Z.heap.size :=
 (StBox.new Z r d s p c k t).below (B := Z.heap.size + 1) ((Below.refl _ _).alloc (by simp) _).drew (by omega)
theorem st_two {r : Int} {d s : Bool} {p : Int} {c : Bool} {k : Int} (Z : World) (t : TypeId) (o : Obj) : StBox ((Z.alloc o).alloc (.cells #[.int .i64 r, .bool d, .bool s, .int .i64 p, .bool c, .int .i64 k] t)).drew r d s p c k (Z.heap.size + 1) := by
 have h := StBox.new (Z.alloc o) r d s p c k t
 rw [World.size_alloc] at h
 exact h.below (B := Z.heap.size + 2) (Below.refl _ _).drew (by omega)
theorem sz_two (Z : World) (o o' : Obj) : Z.heap.size < ((Z.alloc o).alloc o').drew.heap.size ∧ Z.heap.size + 1 < ((Z.alloc o).alloc o').drew.heap.size := by
 have : ((Z.alloc o).alloc o').drew.heap.size = Z.heap.size + 1 + 1 := by
  show ((Z.alloc o).alloc o').heap.size = _
  rw [World.size_alloc, World.size_alloc]
 omega
theorem bel_two {w Z : World} (h : Below w.heap.size w Z) (o o' : Obj) : Below w.heap.size w ((Z.alloc o).alloc o').drew :=
 h.trans (((Below.refl w.heap.size Z).alloc h.size _).alloc (by rw [World.size_alloc]; have := h.size; omega) _).drew
set_option maxHeartbeats 8000000 in
theorem law_UtteranceInjective (w : World) (hg : Gd w) (A : Option Addr) (n c : Nat) (l : List ChgM) (hn : l.length = n) (hc : n ≤ c) (hm : c ≤ maxLen) (rd : RdC w w.heap.size A n l) (A' : Option Addr) (n' c' : Nat) (l' : List ChgM) (hn' : l'.length = n') (hc' : n' ≤ c') (hm' : c' ≤ maxLen) (rd' : RdC w w.heap.size A' n' l') (r : Int) (d sp : Bool) (q : Int) (co : Bool) (k : Int) (wr : (Lit.int .i64 r).wf = true) (wq : (Lit.int .i64 q).wf = true) (wk : (Lit.int .i64 k).wf = true) (r' : Int) (d' sp' : Bool) (q' : Int) (co' : Bool) (k' : Int) (wr' : (Lit.int .i64 r').wf = true) (wq' : (Lit.int .i64 q').wf = true) (wk' : (Lit.int .i64 k').wf = true) :
  Calls Tryz.prog 9 #[.agg #[.slice A n c, .slice A' n' c', .int .i64 r, .bool d, .bool sp, .int .i64 q, .bool co, .int .i64 k, .int .i64 r', .bool d', .bool sp', .int .i64 q', .bool co', .int .i64 k']] w (Gives (.bool true) w) := by
 subst hn hn'
 have HA : Hid (∀ X, Below w.heap.size w X → Calls Tryz.prog 12 #[] X fun e X' => e = .returned (.bool true) ∧ Below w.heap.size w X' ∧ Below X.heap.size X X') := Lib.hid fun X hX => bothG (awake41_ X (hg.below hX)) hX
 have HF : Hid (∀ X, Below w.heap.size w X → Calls Tryz.prog 11 #[.slice A l.length c] X fun e X' => e = .returned (.bool (fineC l)) ∧ Below w.heap.size w X' ∧ Below X.heap.size X X') := Lib.hid fun X hX => bothG (fine_ l A _ c w.heap.size X (by omega) (rd.below hX) hX.size) hX
 have HF' : Hid (∀ X, Below w.heap.size w X → Calls Tryz.prog 11 #[.slice A' l'.length c'] X fun e X' => e = .returned (.bool (fineC l')) ∧ Below w.heap.size w X' ∧ Below X.heap.size X X') := Lib.hid fun X hX => bothG (fine_ l' A' _ c' w.heap.size X (by omega) (rd'.below hX) hX.size) hX
 go_enter Tryz.func9, Tryz.ntmps9
 go_upto_region 1 with fail
 refine wp_fg (fun X => Blk X w.heap.size 42 #[.slice A l.length c, .slice A' l'.length c', .int .i64 r, .bool d, .bool sp, .int .i64 q, .bool co, .int .i64 k, .int .i64 r', .bool d', .bool sp', .int .i64 q', .bool co', .int .i64 k'] ∧ Below w.heap.size w X) ⟨Blk.new w _ _, (Below.refl _ _).alloc (Nat.le_refl _) _⟩ ?_
 rintro Z ⟨B0, hbZ⟩
 have hlt := B0.lt
 have HCE : Hid (∀ w', Below Z.heap.size Z w' → w'.cell? ⟨w.heap.size, 0, none⟩ = some (.slice A l.length c) ∧ w'.cell? ⟨w.heap.size, 1, none⟩ = some (.slice A' l'.length c') ∧ w'.cell? ⟨w.heap.size, 2, none⟩ = some (.int .i64 r) ∧ w'.cell? ⟨w.heap.size, 3, none⟩ = some (.bool d) ∧ w'.cell? ⟨w.heap.size, 4, none⟩ = some (.bool sp) ∧ w'.cell? ⟨w.heap.size, 5, none⟩ = some (.int .i64 q) ∧ w'.cell? ⟨w.heap.size, 6, none⟩ = some (.bool co) ∧ w'.cell? ⟨w.heap.size, 7, none⟩ = some (.int .i64 k) ∧ w'.cell? ⟨w.heap.size, 8, none⟩ = some (.int .i64 r') ∧ w'.cell? ⟨w.heap.size, 9, none⟩ = some (.bool d') ∧ w'.cell? ⟨w.heap.size, 10, none⟩ = some (.bool sp') ∧ w'.cell? ⟨w.heap.size, 11, none⟩ = some (.int .i64 q') ∧ w'.cell? ⟨w.heap.size, 12, none⟩ = some (.bool co') ∧ w'.cell? ⟨w.heap.size, 13, none⟩ = some (.int .i64 k')) := Lib.hid fun w' h => by
  have Q := B0.below h hlt
  exact ⟨Q.cell 0, Q.cell 1, Q.cell 2, Q.cell 3, Q.cell 4, Q.cell 5, Q.cell 6, Q.cell 7, Q.cell 8, Q.cell 9, Q.cell 10, Q.cell 11, Q.cell 12, Q.cell 13⟩
 have hZd : Below Z.heap.size Z Z.drew := (Below.refl _ _).drew
 obtain ⟨_, _, _, _, _, _, _, _, _, _, _, _, _, _⟩ := HCE.out _ hZd
 go_cut [3, 4, 5, 6] (fun v3 v4 v5 v6 wx => v3 = .slice A l.length c ∧ v4 = .slice A' l'.length c' ∧ ∃ g5 g6, v5 = .pointer (some ⟨g5, 0, none⟩) ∧ v6 = .pointer (some ⟨g6, 0, none⟩) ∧ StBox wx r d sp q co k g5 ∧ StBox wx r' d' sp' q' co' k' g6 ∧ g5 < wx.heap.size ∧ g6 < wx.heap.size ∧ Below w.heap.size w wx)
 case first =>
  clear HA HF HF' rd rd' hg
  go_region_held3 (fun w' => w'.cell? ⟨w.heap.size, 0, none⟩ = some (.slice A l.length c) ∧ w'.cell? ⟨w.heap.size, 1, none⟩ = some (.slice A' l'.length c') ∧ w'.cell? ⟨w.heap.size, 2, none⟩ = some (.int .i64 r) ∧ w'.cell? ⟨w.heap.size, 3, none⟩ = some (.bool d) ∧ w'.cell? ⟨w.heap.size, 4, none⟩ = some (.bool sp) ∧ w'.cell? ⟨w.heap.size, 5, none⟩ = some (.int .i64 q) ∧ w'.cell? ⟨w.heap.size, 6, none⟩ = some (.bool co) ∧ w'.cell? ⟨w.heap.size, 7, none⟩ = some (.int .i64 k) ∧ w'.cell? ⟨w.heap.size, 8, none⟩ = some (.int .i64 r') ∧ w'.cell? ⟨w.heap.size, 9, none⟩ = some (.bool d') ∧ w'.cell? ⟨w.heap.size, 10, none⟩ = some (.bool sp') ∧ w'.cell? ⟨w.heap.size, 11, none⟩ = some (.int .i64 q') ∧ w'.cell? ⟨w.heap.size, 12, none⟩ = some (.bool co') ∧ w'.cell? ⟨w.heap.size, 13, none⟩ = some (.int .i64 k')) (first | (refine HCE.out _ ?_; (repeat (first | exact Below.refl _ _ | assumption | refine Below.drew ?_ | refine Below.alloc ?_ (by first | (simp; done) | (simp; omega) | omega) _ | refine Below.setCell ?_ (by first | (simp; done) | (simp; omega) | omega) _)); done) | go_keep) (first
   | fail)
  all_goals go_wp2
  all_goals go_meet
  all_goals first
   | exact ⟨rfl, rfl, _, _, rfl, rfl, st_one Z _ _, st_two Z _ _, (sz_two Z _ _).1, (sz_two Z _ _).2, bel_two hbZ _ _⟩
   | exact ⟨rfl, rfl, _, _, rfl, rfl, st_two Z _ _, st_one Z _ _, (sz_two Z _ _).2, (sz_two Z _ _).1, bel_two hbZ _ _⟩
 case rest =>
  obtain ⟨rfl, rfl, g5, g6, rfl, rfl, b5, b6, hg5, hg6, hbX⟩ := hcut
  generalize hXw : wc = X at *
  clear hXw hZd hbZ B0 HCE hlt
  have HSt : Hid (∀ w', Below X.heap.size X w' → StBox w' r d sp q co k g5 ∧ StBox w' r' d' sp' q' co' k' g6) := Lib.hid fun w' h => ⟨b5.below h hg5, b6.below h hg6⟩
  have hXX : Below X.heap.size X X := Below.refl _ _
  obtain ⟨⟨_, _, _, _, _, _⟩, ⟨_, _, _, _, _, _⟩⟩ := HSt.out _ hXX
  clear b5 b6
  by_cases hf : fineC l = true
  ·rw [hf] at HF
   by_cases hf' : fineC l' = true
   ·rw [hf'] at HF'
    have HW0 : Hid (∀ u : Int, u = 1 ∨ u = 2 → wErr l u r q k = 0 → ∀ X, Below w.heap.size w X → Calls Tryz.prog 13 #[.slice A l.length c, .int .i64 u, stV r d sp q co k] X fun e X' => (∃ A2 c2, e = .returned (.tuple #[.slice A2 (wordsU (chgs l) u ⟨d, sp, q⟩).length c2, .int .i64 0]) ∧ X'.ownsRow X.heap.size 9 1 (.slice A2 (wordsU (chgs l) u ⟨d, sp, q⟩).length c2) (wordsU (chgs l) u ⟨d, sp, q⟩).length (sv (wordsU (chgs l) u ⟨d, sp, q⟩))) ∧ Below w.heap.size w X' ∧ Below X.heap.size X X') := Lib.hid fun u _ hE X hX => k_wordsT hg hf rd hE X hX
    by_cases hE : wErr l 1 r q k = 0
    ·have HW := Lib.hid (HW0.out 1 (.inl rfl) hE)
     by_cases hE' : wErr l' 1 r' q' k' = 0
     ·have HW' : Hid (∀ X, Below w.heap.size w X → Calls Tryz.prog 13 #[.slice A' l'.length c', .int .i64 1, stV r' d' sp' q' co' k'] X fun e X' => (∃ A2 c2, e = .returned (.tuple #[.slice A2 (wordsU (chgs l') 1 ⟨d', sp', q'⟩).length c2, .int .i64 0]) ∧ X'.ownsRow X.heap.size 9 1 (.slice A2 (wordsU (chgs l') 1 ⟨d', sp', q'⟩).length c2) (wordsU (chgs l') 1 ⟨d', sp', q'⟩).length (sv (wordsU (chgs l') 1 ⟨d', sp', q'⟩))) ∧ Below w.heap.size w X' ∧ Below X.heap.size X X') := Lib.hid fun X hX => k_wordsT hg hf' rd' hE' X hX
      obtain ⟨a1, _, _, a4⟩ := wErr_ok hE
      obtain ⟨b1, _, _, b4⟩ := wErr_ok hE'
      have hE2 : wErr l 2 r q k = 0 := by unfold wErr; rw [if_neg (by rw [a1]; simp), if_neg (by decide)]; exact a4
      have HW2 := Lib.hid (HW0.out 2 (.inr rfl) hE2)
      obtain ⟨f5, f6⟩ := fine_chk hf a4
      obtain ⟨f5', f6'⟩ := fine_chk hf' b4
      have z1 := (words_small (n := 1) ⟨d, sp, q⟩ (by decide) (by decide) f5 f6).1
      have z1' := (words_small (n := 1) ⟨d', sp', q'⟩ (by decide) (by decide) f5' f6').1
      have z2 := (words_small (n := 2) ⟨d, sp, q⟩ (by decide) (by decide) f5 f6).1
      have hne : decide (wordsU (chgs l) 1 ⟨d, sp, q⟩ = wordsU (chgs l) 2 ⟨d, sp, q⟩) = false := decide_eq_false fun e => by
       have := (words_inj (fun x hx => (f6 x hx).1) (fun x hx => (f6 x hx).1) (by decide) (by decide) e).2
       cases this
      have HSm : Hid (wordsU (chgs l) 1 ⟨d, sp, q⟩ = wordsU (chgs l') 1 ⟨d', sp', q'⟩ → ∀ X, Below w.heap.size w X → Calls Tryz.prog 21 #[.slice A l.length c, .slice A' l'.length c'] X fun e X' => e = .returned (.bool true) ∧ Below w.heap.size w X' ∧ Below X.heap.size X X') := Lib.hid fun e X hX => by
       have h := rsame19 l l' A A' l.length l'.length c c' w.heap.size X (by have := (fine_some hf).1; omega) (rd.below hX) (rd'.below hX) hX.size fun x hx => by have := ((fine_some hf).2 x hx).1; omega
       rw [decide_eq_true (words_inj (fun x hx => (f6 x hx).1) (fun x hx => (f6' x hx).1) (by decide) (by decide) e).1] at h
       exact bothG h hX
      have HE1 : Hid (∀ X, Below w.heap.size w X → ∀ A2 c2 A3 c3 b2 b3, X.ownsRow b2 9 1 (.slice A2 (wordsU (chgs l) 1 ⟨d, sp, q⟩).length c2) (wordsU (chgs l) 1 ⟨d, sp, q⟩).length (sv (wordsU (chgs l) 1 ⟨d, sp, q⟩)) → X.ownsRow b3 9 1 (.slice A3 (wordsU (chgs l') 1 ⟨d', sp', q'⟩).length c3) (wordsU (chgs l') 1 ⟨d', sp', q'⟩).length (sv (wordsU (chgs l') 1 ⟨d', sp', q'⟩)) → Calls Tryz.prog 15 #[.slice A2 (wordsU (chgs l) 1 ⟨d, sp, q⟩).length c2, .slice A3 (wordsU (chgs l') 1 ⟨d', sp', q'⟩).length c3] X fun e X' => e = .returned (.bool (decide (wordsU (chgs l) 1 ⟨d, sp, q⟩ = wordsU (chgs l') 1 ⟨d', sp', q'⟩))) ∧ Below w.heap.size w X' ∧ Below X.heap.size X X') := Lib.hid fun X hX A2 c2 A3 c3 b2 b3 o2 o3 =>
       bothQ (same _ _ A2 A3 c2 c3 X.heap.size X (Rd.of_own o2) (Rd.of_own o3) (by omega) (by omega)) hX
      have HE2 : Hid (∀ X, Below w.heap.size w X → ∀ A2 c2 A3 c3 b2 b3, X.ownsRow b2 9 1 (.slice A2 (wordsU (chgs l) 1 ⟨d, sp, q⟩).length c2) (wordsU (chgs l) 1 ⟨d, sp, q⟩).length (sv (wordsU (chgs l) 1 ⟨d, sp, q⟩)) → X.ownsRow b3 9 1 (.slice A3 (wordsU (chgs l) 2 ⟨d, sp, q⟩).length c3) (wordsU (chgs l) 2 ⟨d, sp, q⟩).length (sv (wordsU (chgs l) 2 ⟨d, sp, q⟩)) → Calls Tryz.prog 15 #[.slice A2 (wordsU (chgs l) 1 ⟨d, sp, q⟩).length c2, .slice A3 (wordsU (chgs l) 2 ⟨d, sp, q⟩).length c3] X fun e X' => e = .returned (.bool false) ∧ Below w.heap.size w X' ∧ Below X.heap.size X X') := Lib.hid fun X hX A2 c2 A3 c3 b2 b3 o2 o3 => by
       have h := same _ _ A2 A3 c2 c3 X.heap.size X (Rd.of_own o2) (Rd.of_own o3) (by omega) (by omega)
       rw [hne] at h
       exact bothQ h hX
      clear HW0 hE hE' hE2 a1 a4 b1 b4 f5 f6 f5' f6' hne hf hf' rd rd' hg
      generalize wordsU (chgs l) 1 ⟨d, sp, q⟩ = W1 at *
      generalize wordsU (chgs l) 2 ⟨d, sp, q⟩ = W2 at *
      generalize wordsU (chgs l') 1 ⟨d', sp', q'⟩ = W3 at *
      by_cases he : W1 = W3
      ·have HSe := Lib.hid (HSm.out he)
       rw [decide_eq_true he] at HE1
       clear HSm he
       go_wp2_with (first
        | ((fail_if_success have := hb1); go_at_call 11; refine (HF.out _ hbX).mono ?_; rintro e w1 ⟨rfl, hb1, hx1⟩; have hX1 := hx1; obtain ⟨⟨_, _, _, _, _, _⟩, ⟨_, _, _, _, _, _⟩⟩ := HSt.out _ hX1)
        | (go_at_call 11; refine (HF'.out _ hb1).mono ?_; rintro e w2 ⟨rfl, hb2, hx2⟩; have hX2 := hX1.trans (hx2.mono hX1.size); obtain ⟨⟨_, _, _, _, _, _⟩, ⟨_, _, _, _, _, _⟩⟩ := HSt.out _ hX2)
        | ((fail_if_success have := hb3); go_at_call 13; refine (HW.out _ hb2).mono ?_; rintro e w3 ⟨⟨A3, c3, rfl, o3⟩, hb3, hx3⟩; have hX3 := hX2.trans (hx3.mono hX2.size); obtain ⟨⟨_, _, _, _, _, _⟩, ⟨_, _, _, _, _, _⟩⟩ := HSt.out _ hX3)
        | ((fail_if_success have := hb4); go_at_call 13; refine (HW'.out _ hb3).mono ?_; rintro e w4 ⟨⟨A4, c4, rfl, o4⟩, hb4, hx4⟩; have hX4 := hX3.trans (hx4.mono hX3.size); obtain ⟨⟨_, _, _, _, _, _⟩, ⟨_, _, _, _, _, _⟩⟩ := HSt.out _ hX4)
        | (go_at_call 13; refine (HW2.out _ hb4).mono ?_; rintro e w5 ⟨⟨A5, c5, rfl, o5⟩, hb5, hx5⟩; have o35 := own_below (own_below o3 hx4) hx5; have o45 := own_below o4 hx5)
        | ((fail_if_success have := hb6); go_at_call 15; refine (HE1.out _ hb5 _ _ _ _ _ _ o35 o45).mono ?_; rintro e w6 ⟨rfl, hb6, hx6⟩)
        | (go_at_call 21; refine (HSe.out _ hb6).mono ?_; rintro e w7 ⟨rfl, hb7, hx7⟩)
        | (go_at_call 15; refine (HE2.out _ hb7 _ _ _ _ _ _ (own_below (own_below o35 hx6) hx7) (own_below (own_below o5 hx6) hx7)).mono ?_; rintro e w8 ⟨rfl, hb8, hx8⟩)
        | (go_at_call 12; refine (HA.out _ (by assumption)).mono ?_; rintro e wa ⟨rfl, hba, hxa⟩))
       go_ret
       exact ⟨rfl, hba⟩
      ·rw [decide_eq_false he] at HE1
       clear HSm he
       go_wp2_with (first
        | ((fail_if_success have := hb1); go_at_call 11; refine (HF.out _ hbX).mono ?_; rintro e w1 ⟨rfl, hb1, hx1⟩; have hX1 := hx1; obtain ⟨⟨_, _, _, _, _, _⟩, ⟨_, _, _, _, _, _⟩⟩ := HSt.out _ hX1)
        | (go_at_call 11; refine (HF'.out _ hb1).mono ?_; rintro e w2 ⟨rfl, hb2, hx2⟩; have hX2 := hX1.trans (hx2.mono hX1.size); obtain ⟨⟨_, _, _, _, _, _⟩, ⟨_, _, _, _, _, _⟩⟩ := HSt.out _ hX2)
        | ((fail_if_success have := hb3); go_at_call 13; refine (HW.out _ hb2).mono ?_; rintro e w3 ⟨⟨A3, c3, rfl, o3⟩, hb3, hx3⟩; have hX3 := hX2.trans (hx3.mono hX2.size); obtain ⟨⟨_, _, _, _, _, _⟩, ⟨_, _, _, _, _, _⟩⟩ := HSt.out _ hX3)
        | ((fail_if_success have := hb4); go_at_call 13; refine (HW'.out _ hb3).mono ?_; rintro e w4 ⟨⟨A4, c4, rfl, o4⟩, hb4, hx4⟩; have hX4 := hX3.trans (hx4.mono hX3.size); obtain ⟨⟨_, _, _, _, _, _⟩, ⟨_, _, _, _, _, _⟩⟩ := HSt.out _ hX4)
        | (go_at_call 13; refine (HW2.out _ hb4).mono ?_; rintro e w5 ⟨⟨A5, c5, rfl, o5⟩, hb5, hx5⟩; have o35 := own_below (own_below o3 hx4) hx5; have o45 := own_below o4 hx5)
        | ((fail_if_success have := hb6); go_at_call 15; refine (HE1.out _ hb5 _ _ _ _ _ _ o35 o45).mono ?_; rintro e w6 ⟨rfl, hb6, hx6⟩)
        | (go_at_call 15; refine (HE2.out _ hb6 _ _ _ _ _ _ (own_below o35 hx6) (own_below o5 hx6)).mono ?_; rintro e w8 ⟨rfl, hb8, hx8⟩)
        | (go_at_call 12; refine (HA.out _ (by assumption)).mono ?_; rintro e wa ⟨rfl, hba, hxa⟩))
       go_ret
       exact ⟨rfl, hba⟩
     ·have HW' : Hid (∀ X, Below w.heap.size w X → Calls Tryz.prog 13 #[.slice A' l'.length c', .int .i64 1, stV r' d' sp' q' co' k'] X fun e X' => e = .returned (.tuple #[.slice none 0 0, .int .i64 (wErr l' 1 r' q' k')]) ∧ Below w.heap.size w X' ∧ Below X.heap.size X X') := Lib.hid fun X hX => k_wordsF hg hf' rd' hE' X hX
      have hEb : (wErr l' 1 r' q' k' != 0) = true := bne_iff_ne.2 hE'
      generalize wErr l' 1 r' q' k' = E at *
      generalize wordsU (chgs l) 1 ⟨d, sp, q⟩ = W1 at *
      clear HW0 hE hE' hf hf' rd rd' hg
      go_wp2_with (first | ((fail_if_success have := hb1); go_at_call 11; refine (HF.out _ hbX).mono ?_; rintro e w1 ⟨rfl, hb1, hx1⟩; have hX1 := hx1; obtain ⟨⟨_, _, _, _, _, _⟩, ⟨_, _, _, _, _, _⟩⟩ := HSt.out _ hX1) | (go_at_call 11; refine (HF'.out _ hb1).mono ?_; rintro e w2 ⟨rfl, hb2, hx2⟩; have hX2 := hX1.trans (hx2.mono hX1.size); obtain ⟨⟨_, _, _, _, _, _⟩, ⟨_, _, _, _, _, _⟩⟩ := HSt.out _ hX2) | ((fail_if_success have := hb3); go_at_call 13; refine (HW.out _ hb2).mono ?_; rintro e w3 ⟨⟨A3, c3, rfl, o3⟩, hb3, hx3⟩; have hX3 := hX2.trans (hx3.mono hX2.size); obtain ⟨⟨_, _, _, _, _, _⟩, ⟨_, _, _, _, _, _⟩⟩ := HSt.out _ hX3) | ((fail_if_success have := hb4); go_at_call 13; refine (HW'.out _ hb3).mono ?_; rintro e w4 ⟨rfl, hb4, hx4⟩; have hX4 := hX3.trans (hx4.mono hX3.size); obtain ⟨⟨_, _, _, _, _, _⟩, ⟨_, _, _, _, _, _⟩⟩ := HSt.out _ hX4) | (go_at_call 12; refine (HA.out _ (by assumption)).mono ?_; rintro e wa ⟨rfl, hba, hxa⟩))
      go_ret
      exact ⟨rfl, hba⟩
    ·have HW : Hid (∀ X, Below w.heap.size w X → Calls Tryz.prog 13 #[.slice A l.length c, .int .i64 1, stV r d sp q co k] X fun e X' => e = .returned (.tuple #[.slice none 0 0, .int .i64 (wErr l 1 r q k)]) ∧ Below w.heap.size w X' ∧ Below X.heap.size X X') := Lib.hid fun X hX => k_wordsF hg hf rd hE X hX
     have hEb : (wErr l 1 r q k != 0) = true := bne_iff_ne.2 hE
     have HW' : Hid (∀ X, Below w.heap.size w X → Calls Tryz.prog 13 #[.slice A' l'.length c', .int .i64 1, stV r' d' sp' q' co' k'] X fun e X' => (∃ A2 n2 c2 E2, e = .returned (.tuple #[.slice A2 n2 c2, .int .i64 E2])) ∧ Below w.heap.size w X' ∧ Below X.heap.size X X') := Lib.hid fun X hX => by
      by_cases hE' : wErr l' 1 r' q' k' = 0
      ·exact (k_wordsT hg hf' rd' hE' X hX).mono fun e X' ⟨⟨A2, c2, h, _⟩, h'⟩ => ⟨⟨A2, _, c2, 0, h⟩, h'⟩
      ·exact (k_wordsF hg hf' rd' hE' X hX).mono fun e X' ⟨h, h'⟩ => ⟨⟨none, 0, 0, _, h⟩, h'⟩
     generalize wErr l 1 r q k = E at *
     clear HW0 hE hf hf' rd rd' hg
     go_wp2_with (first | ((fail_if_success have := hb1); go_at_call 11; refine (HF.out _ hbX).mono ?_; rintro e w1 ⟨rfl, hb1, hx1⟩; have hX1 := hx1; obtain ⟨⟨_, _, _, _, _, _⟩, ⟨_, _, _, _, _, _⟩⟩ := HSt.out _ hX1) | (go_at_call 11; refine (HF'.out _ hb1).mono ?_; rintro e w2 ⟨rfl, hb2, hx2⟩; have hX2 := hX1.trans (hx2.mono hX1.size); obtain ⟨⟨_, _, _, _, _, _⟩, ⟨_, _, _, _, _, _⟩⟩ := HSt.out _ hX2) | ((fail_if_success have := hb3); go_at_call 13; refine (HW.out _ hb2).mono ?_; rintro e w3 ⟨rfl, hb3, hx3⟩; have hX3 := hX2.trans (hx3.mono hX2.size); obtain ⟨⟨_, _, _, _, _, _⟩, ⟨_, _, _, _, _, _⟩⟩ := HSt.out _ hX3) | ((fail_if_success have := hb4); go_at_call 13; refine (HW'.out _ hb3).mono ?_; rintro e w4 ⟨⟨A4, n4, c4, E4, rfl⟩, hb4, hx4⟩; have hX4 := hX3.trans (hx4.mono hX3.size); obtain ⟨⟨_, _, _, _, _, _⟩, ⟨_, _, _, _, _, _⟩⟩ := HSt.out _ hX4) | (go_at_call 12; refine (HA.out _ (by assumption)).mono ?_; rintro e wa ⟨rfl, hba, hxa⟩))
     go_ret
     exact ⟨rfl, hba⟩
   ·rw [Bool.not_eq_true] at hf'
    rw [hf'] at HF'
    clear hf hf' rd rd' hg
    go_wp2_with (first | ((fail_if_success have := hb1); go_at_call 11; refine (HF.out _ hbX).mono ?_; rintro e w1 ⟨rfl, hb1, hx1⟩; have hX1 := hx1; obtain ⟨⟨_, _, _, _, _, _⟩, ⟨_, _, _, _, _, _⟩⟩ := HSt.out _ hX1) | (go_at_call 11; refine (HF'.out _ hb1).mono ?_; rintro e w2 ⟨rfl, hb2, hx2⟩; have hX2 := hX1.trans (hx2.mono hX1.size); obtain ⟨⟨_, _, _, _, _, _⟩, ⟨_, _, _, _, _, _⟩⟩ := HSt.out _ hX2) | (go_at_call 12; refine (HA.out _ (by assumption)).mono ?_; rintro e wa ⟨rfl, hba, hxa⟩))
    go_ret
    exact ⟨rfl, hba⟩
  ·rw [Bool.not_eq_true] at hf
   rw [hf] at HF
   clear hf rd rd' hg
   go_wp2_with (first | ((fail_if_success have := hb1); go_at_call 11; refine (HF.out _ hbX).mono ?_; rintro e w1 ⟨rfl, hb1, hx1⟩; have hX1 := hx1; obtain ⟨⟨_, _, _, _, _, _⟩, ⟨_, _, _, _, _, _⟩⟩ := HSt.out _ hX1) | (go_at_call 11; refine (HF'.out _ hb1).mono ?_; rintro e w2 ⟨rfl, hb2, hx2⟩; have hX2 := hX1.trans (hx2.mono hX1.size); obtain ⟨⟨_, _, _, _, _, _⟩, ⟨_, _, _, _, _, _⟩⟩ := HSt.out _ hX2) | (go_at_call 12; refine (HA.out _ (by assumption)).mono ?_; rintro e wa ⟨rfl, hba, hxa⟩))
   go_ret
   exact ⟨rfl, hba⟩
end Go.Proofs.YtejjfiipghcifaaGreatDoor
