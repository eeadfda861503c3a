/- Joined texts: Kd2, Pc1, Sp0. -/
import Derived.Test.YtejjfiipghcifaaGreatDoorQAA
import Derived.Test.YtejjfiipghcifaaGreatDoorQAB
import Derived.Test.YtejjfiipghcifaaGreatDoorQAC
import Derived.Test.YtejjfiipghcifaaGreatDoorQAD
import Derived.Test.YtejjfiipghcifaaGreatDoorQAE
import Derived.Test.YtejjfiipghcifaaGreatDoorQAF
import Derived.Test.YtejjfiipghcifaaGreatDoorQAG
import Derived.Test.YtejjfiipghcifaaGreatDoorQAH
import Derived.Test.YtejjfiipghcifaaGreatDoorQAJ
import Derived.Test.YtejjfiipghcifaaGreatDoorQAK
import Derived.Test.YtejjfiipghcifaaGreatDoorQAL
import Derived.Test.YtejjfiipghcifaaGreatDoorQAN
import Derived.Test.YtejjfiipghcifaaGreatDoorQAO
import Derived.Test.YtejjfiipghcifaaGreatDoorQAQ
set_option linter.unusedVariables false
set_option linter.unusedSimpArgs false
set_option linter.unnecessarySimpa false
namespace Go.Proofs.YtejjfiipghcifaaGreatDoor
open Go.RowKit
set_option maxRecDepth 20000
theorem runK_cons (g : Gl) (t : List Gl) (k : Nat) (st : Int) : runK (g :: t) k st = if kindL g = k ∧ g.style = st then runK t k st + 1 else 0 := rfl
set_option maxHeartbeats 2000000 in
theorem count_ (l : List Gl) (k : Nat) (st : Int) (A : Option Addr) (n c B : Nat) (w : World) (hn : n ≤ 1000000000) (hsz : ∀ g ∈ l, g.text.size ≤ 1000000000) (rd : Rd w B 3 A n (encGs l)) (hB : B ≤ w.heap.size) :
  Calls Tryz.prog 81 #[.slice A n c, .int .i64 k, .int .i64 st] w (Gives (.int .i64 (runK l k st : Nat)) w) := by
 have HN := Lib.hid (gl_len rd)
 have HF : Hid (runK l k st = 0 + runK (l.drop 0) k st) := Lib.hid (by rw [Nat.zero_add]; rfl)
 generalize runK l k st = R at *
 go_enter Tryz.func81, Tryz.ntmps81
 go_wp2
 go_loopw [7] (fun x wr => ∃ j : Nat, j ≤ n ∧ x = .int .i64 j ∧ Below w.heap.size w wr ∧ Hid (R = j + runK (l.drop j) k st)) (fun x _ => n - (intOf x).toNat)
 case atStart => exact ⟨0, Nat.zero_le _, rfl, Below.refl _ _, HF⟩
 case round =>
  obtain ⟨j, hj, rfl, hbel, HR⟩ := hrel
  by_cases hlt : j < n
  ·have hkl : j < l.length := by have := HN.out; omega
   obtain ⟨b, o, rfl, hbB, g0, g1, g2⟩ := rd_gl (rd.keep (w' := wr) fun p hp => hbel.cell (by omega)) hkl HN.out
   have HD : Hid (l.drop j = l[j] :: l.drop (j + 1)) := Lib.hid (List.drop_eq_getElem_cons hkl)
   have hz := hsz _ (List.getElem_mem hkl)
   generalize l[j] = g at *
   have HT : Hid (kindL g = k ∧ g.style = st → R = (j + 1) + runK (l.drop (j + 1)) k st) := Lib.hid fun h => by rw [HR.out, HD.out, runK_cons, if_pos h]; omega
   have HZ : Hid (¬ (kindL g = k ∧ g.style = st) → R = j) := Lib.hid fun h => by rw [HR.out, HD.out, runK_cons, if_neg h]; rfl
   have HK := Lib.hid (kind_ g hz)
   generalize kindL g = q at *
   obtain ⟨t, wd, s⟩ := g
   dsimp only at *
   have N0 := c3_near (wb := wr) (b := b) (o := o + j * 3) (r := ⟨t, wd, s⟩) (B := wr.heap.size) ⟨g0, g1, g2⟩ (by have := hbel.size; omega)
   dsimp only at N0
   have hzz := Nat.le_refl wr.heap.size
   clear HR HD
   by_cases h1 : q = k
   ·by_cases h2 : s = st
    ·have HR2 := Lib.hid (HT.out ⟨h1, h2⟩)
     subst h1 h2
     clear HT HZ
     go_wp2_with (go_at_call 80; refine (HK.out _).mono ?_; rintro e w1 ⟨rfl, hbel1⟩; have g3 := (N0 ⟨w1, hbel1⟩).2.2; dsimp only at g3)
     exact ⟨⟨j + 1, by omega, by go_num, hbel.trans (hbel1.mono hbel.size), HR2⟩, by simp [intOf]; omega⟩
    ·have HR2 := Lib.hid (HZ.out fun h => h2 h.2)
     have e2 : (s == st) = false := beq_eq_false_iff_ne.2 h2
     subst h1
     clear HT HZ h2
     go_wp2_with (go_at_call 80; refine (HK.out _).mono ?_; rintro e w1 ⟨rfl, hbel1⟩; have g3 := (N0 ⟨w1, hbel1⟩).2.2; dsimp only at g3)
     go_ret
     exact ⟨by rw [HR2.out]; rfl, hbel.trans (hbel1.mono hbel.size)⟩
   ·have HR2 := Lib.hid (HZ.out fun h => h1 h.1)
    have e1 : ((q : Int) == (k : Int)) = false := beq_eq_false_iff_ne.2 (by omega)
    clear HT HZ h1
    go_wp2_with (go_at_call 80; refine (HK.out _).mono ?_; rintro e w1 ⟨rfl, hbel1⟩)
    go_ret
    exact ⟨by rw [HR2.out]; rfl, hbel.trans (hbel1.mono hbel.size)⟩
  ·have HR2 : Hid (R = j) := Lib.hid (by rw [HR.out, List.drop_of_length_le (by have := HN.out; omega)]; rfl)
   go_wp2
   go_ret
   exact ⟨by rw [HR2.out]; rfl, hbel⟩
theorem rkV_inj {a b : Nat} (ha : a ≤ 3) (hb : b ≤ 3) (h : rkV a = rkV b) : a = b := by
 unfold rkV at h
 have h1 : a = 0 ∨ a = 1 ∨ a = 2 ∨ a = 3 := by omega
 have h2 : b = 0 ∨ b = 1 ∨ b = 2 ∨ b = 3 := by omega
 rcases h1 with rfl | rfl | rfl | rfl <;> rcases h2 with rfl | rfl | rfl | rfl <;> first | rfl | (simp at h)
theorem kindL_le (g : Gl) : kindL g ≤ 3 := by
 unfold kindL
 split
 ·unfold kindB
  (repeat' split) <;> omega
 ·omega
set_option maxHeartbeats 2000000 in
theorem rrun (l : List Gl) (i k : Nat) (hk3 : k ≤ 3) (st : Int) (A : Option Addr) (n c B : Nat) (w : World) (hn : n ≤ 1000000000) (hi : i ≤ n) (hsz : ∀ g ∈ l, g.text.size ≤ 1000000000) (rd : Rd w B 3 A n (encGs l)) (hB : B ≤ w.heap.size) :
  Calls Tryz.prog 84 #[.slice A n c, .int .i64 i, .int .u8 (rkV k), .int .i64 st] w (Gives (.int .i64 (runK (l.drop i) k st : Nat)) w) := by
 have HN := Lib.hid (gl_len rd)
 generalize hR : runK (l.drop i) k st = R at *
 have HF : Hid (R = 0 + runK (l.drop (i + 0)) k st) := Lib.hid (by rw [← hR, Nat.zero_add]; rfl)
 clear hR
 have HQ : Hid (∀ g : Gl, rkV (kindL g) = rkV k → kindL g = k) := Lib.hid fun g h => rkV_inj (kindL_le g) hk3 h
 go_enter Tryz.func84, Tryz.ntmps84
 go_wp2
 go_loopw [9] (fun x wr => ∃ j : Nat, i + j ≤ n ∧ x = .int .i64 j ∧ Below w.heap.size w wr ∧ Hid (R = j + runK (l.drop (i + j)) k st)) (fun x _ => n - (intOf x).toNat)
 case atStart => exact ⟨0, hi, rfl, Below.refl _ _, HF⟩
 case round =>
  obtain ⟨j, hj, rfl, hbel, HR⟩ := hrel
  by_cases hlt : i + j < n
  ·have hkl : i + j < l.length := by have := HN.out; omega
   obtain ⟨b, o, rfl, hbB, g0, g1, g2⟩ := rd_gl (rd.keep (w' := wr) fun p hp => hbel.cell (by omega)) hkl HN.out
   have HD : Hid (l.drop (i + j) = l[i + j] :: l.drop (i + (j + 1))) := Lib.hid (List.drop_eq_getElem_cons hkl)
   have hz := hsz _ (List.getElem_mem hkl)
   generalize l[i + j] = g at *
   have HT : Hid (kindL g = k ∧ g.style = st → R = (j + 1) + runK (l.drop (i + (j + 1))) k st) := Lib.hid fun h => by rw [HR.out, HD.out, runK_cons, if_pos h]; omega
   have HZ : Hid (¬ (kindL g = k ∧ g.style = st) → R = j) := Lib.hid fun h => by rw [HR.out, HD.out, runK_cons, if_neg h]; rfl
   have HK := Lib.hid (rkind g hz)
   have HQg := Lib.hid (HQ.out g)
   generalize kindL g = q at *
   obtain ⟨t, wd, s⟩ := g
   dsimp only at *
   have N0 := c3_near (wb := wr) (b := b) (o := o + (i + j) * 3) (r := ⟨t, wd, s⟩) (B := wr.heap.size) ⟨g0, g1, g2⟩ (by have := hbel.size; omega)
   dsimp only at N0
   clear HR HD
   by_cases h1 : q = k
   ·subst h1
    by_cases h2 : s = st
    ·have HR2 := Lib.hid (HT.out ⟨rfl, h2⟩)
     subst h2
     clear HT HZ
     go_wp2_with (go_at_call 65; refine (HK.out _).mono ?_; rintro e w1 ⟨rfl, hbel1⟩; have g3 := (N0 ⟨w1, hbel1⟩).2.2; dsimp only at g3)
     exact ⟨⟨j + 1, by omega, by go_num, hbel.trans (hbel1.mono hbel.size), HR2⟩, by simp [intOf]; omega⟩
    ·have HR2 := Lib.hid (HZ.out fun h => h2 h.2)
     have e2 : (s == st) = false := beq_eq_false_iff_ne.2 h2
     clear HT HZ h2
     go_wp2_with (go_at_call 65; refine (HK.out _).mono ?_; rintro e w1 ⟨rfl, hbel1⟩; have g3 := (N0 ⟨w1, hbel1⟩).2.2; dsimp only at g3)
     go_ret
     exact ⟨by rw [HR2.out]; rfl, hbel.trans (hbel1.mono hbel.size)⟩
   ·have HR2 := Lib.hid (HZ.out fun h => h1 h.1)
    have e1 : (rkV q == rkV k) = false := beq_eq_false_iff_ne.2 (fun h => h1 (HQg.out h))
    clear HT HZ h1
    go_wp2_with (go_at_call 65; refine (HK.out _).mono ?_; rintro e w1 ⟨rfl, hbel1⟩)
    go_ret
    exact ⟨by rw [HR2.out]; rfl, hbel.trans (hbel1.mono hbel.size)⟩
  ·have HR2 : Hid (R = j) := Lib.hid (by rw [HR.out, List.drop_of_length_le (by have := HN.out; omega)]; rfl)
   go_wp2
   go_ret
   exact ⟨by rw [HR2.out]; rfl, hbel⟩
theorem runE_succ {t : List Gl} {g : Gl} {j : Nat} (h : j < t.length) (h2 : j < 131) (e : t[j] = g) : runE (t.drop j) g (131 - j) = runE (t.drop (j + 1)) g (131 - (j + 1)) + 1 := by
 rw [List.drop_eq_getElem_cons h, show 131 - j = (131 - (j + 1)) + 1 by omega, runE, if_pos e]
theorem runE_stop {t : List Gl} {g : Gl} {j : Nat} (h : t.length ≤ j ∨ 131 ≤ j ∨ ∃ h : j < t.length, t[j] ≠ g) : runE (t.drop j) g (131 - j) = 0 := by
 rcases h with h | h | ⟨h, e⟩
 ·rw [List.drop_of_length_le h]
  cases 131 - j <;> rfl
 ·rw [show 131 - j = 0 by omega]
  cases t.drop j <;> rfl
 ·rw [List.drop_eq_getElem_cons h]
  cases 131 - j with
  | zero => rfl
  | succ m => rw [runE, if_neg e]
theorem pieceL_ltr {g : Gl} {t : List Gl} {rep : Int} (h : kindL g = 1 ∨ kindL g = 3) : pieceL (g :: t) rep = runK (g :: t) (kindL g) g.style := by
 unfold pieceL
 exact if_pos h
theorem pieceL_cap {g : Gl} {t : List Gl} {rep : Int} (h : kindL g = 2) : pieceL (g :: t) rep = if 1 < runK (g :: t) 2 g.style then runK (g :: t) 2 g.style else 1 + runK t 1 g.style := by
 unfold pieceL
 simp only
 rw [if_neg (by omega), if_pos h]
theorem pieceL_oth {g : Gl} {t : List Gl} {rep : Int} (h : kindL g = 0) : pieceL (g :: t) rep = if 0 < rep ∧ rep ≤ (1 + runE t g 131 : Nat) ∧ (charsL (bytN g.text)).length = 1 then 1 + runE t g 131 else 1 := by
 unfold pieceL
 simp only
 rw [if_neg (by omega), if_neg (by omega)]
theorem rd_tailG {w : World} {B n c : Nat} {b o : Nat} {g : Gl} {t : List Gl} (hn : t.length + 1 = n) (hc : n ≤ c) (rd : Rd w B 3 (some ⟨b, o, none⟩) n (encGs (g :: t))) :
  Rd w B 3 (if c = 1 then some ⟨b, o, none⟩ else some ⟨b, o + 3, none⟩) (n - 1) (encGs t) := by
 have h := rd.cut (k := 1) (cap := c) (by omega) hc
 rw [← encGs_drop] at h
 simp only [Option.map_some, add_none] at h
 exact h
set_option maxHeartbeats 4000000 in
theorem piece_ (g : Gl) (t : List Gl) (rep : Int) (A : Option Addr) (n c B : Nat) (w : World) (hn : n ≤ 1000000000) (hc : n ≤ c) (hcm : c ≤ maxLen) (hsz : ∀ x ∈ g :: t, x.text.size ≤ 1000000000) (hv : validB g.text = true) (rd : Rd w B 3 A n (encGs (g :: t))) (hB : B ≤ w.heap.size) :
  Calls Tryz.prog 60 #[.slice A n c, .int .i64 rep] w (Gives (.int .i64 (pieceL (g :: t) rep : Nat)) w) := by
 have hln := gl_len rd
 rw [List.length_cons] at hln
 have hcm' : c ≤ 9223372036854775807 := by unfold maxLen at hcm; omega
 clear hcm
 obtain ⟨b, o, rfl, hbB, c0, c1, c2⟩ := rd_gl rd (k := 0) (by simp) (by simpa using hln)
 rw [Nat.zero_mul, Nat.add_zero] at c0 c1 c2
 simp only [List.getElem_cons_zero] at c0 c1 c2
 have HK := Lib.hid (kind_ g (hsz g (by simp)))
 have HC := Lib.hid (fun k st w' (hw : Below w.heap.size w w') => count_ (g :: t) k st (some ⟨b, o, none⟩) n c B w' hn hsz (rd.keep fun p hp => hw.cell (by omega)) (Nat.le_trans hB hw.size))
 have hk3 := kindL_le g
 have hz := hsz g (by simp)
 have hb : b < w.heap.size := by omega
 by_cases h1 : kindL g = 1 ∨ kindL g = 3
 ·rw [pieceL_ltr h1]
  have HC2 := Lib.hid (HC.out (kindL g) g.style)
  generalize runK (g :: t) (kindL g) g.style = R at *
  clear HC
  generalize kindL g = K at *
  obtain ⟨x, wd, st⟩ := g
  dsimp only at *
  clear rd hv hsz
  rcases h1 with rfl | rfl
  ·go_enter Tryz.func60, Tryz.ntmps60
   go_upto_region 2 with fail
   refine wp_fg (GlBox w x wd st) (GlBox.new w x wd st _) ?_
   rintro wb hgb
   obtain ⟨d0, d1, d2, hb0, hz0⟩ := id hgb
   go_wp2_with (first
    | (go_at_call 80; refine (HK.out _).mono ?_; rintro e w1 ⟨rfl, hbel1⟩; obtain ⟨e0, e1, e2, hb1, hz1⟩ := hgb.on hbel1)
    | (go_at_call 81; refine (HC2.out _ hb1).mono ?_; rintro e w2 ⟨rfl, hbel2⟩))
   go_ret
   exact ⟨rfl, hb1.trans (hbel2.mono (by omega))⟩
  ·go_enter Tryz.func60, Tryz.ntmps60
   go_upto_region 2 with fail
   refine wp_fg (GlBox w x wd st) (GlBox.new w x wd st _) ?_
   rintro wb hgb
   obtain ⟨d0, d1, d2, hb0, hz0⟩ := id hgb
   go_wp2_with (first
    | (go_at_call 80; refine (HK.out _).mono ?_; rintro e w1 ⟨rfl, hbel1⟩; obtain ⟨e0, e1, e2, hb1, hz1⟩ := hgb.on hbel1)
    | (go_at_call 81; refine (HC2.out _ hb1).mono ?_; rintro e w2 ⟨rfl, hbel2⟩))
   go_ret
   exact ⟨rfl, hb1.trans (hbel2.mono (by omega))⟩
 ·by_cases h2 : kindL g = 2
  ·rw [pieceL_cap h2]
   have HC2 := Lib.hid (HC.out 2 g.style)
   have hcl : Hid (∀ w', Below w.heap.size w w' → Calls Tryz.prog 81 #[.slice (if c = 1 then some ⟨b, o, none⟩ else some ⟨b, o + 3, none⟩) (n - 1) (c - 1), .int .i64 1, .int .i64 g.style] w' (Gives (.int .i64 (runK t 1 g.style : Nat)) w')) := Lib.hid fun w' hw =>
    count_ t 1 g.style _ (n - 1) (c - 1) B w' (by omega) (fun x hx => hsz x (List.mem_cons_of_mem _ hx)) (Rd.keep (rd_tailG hln hc rd) fun p hp => hw.cell (by omega)) (Nat.le_trans hB hw.size)
   have HR1 := Lib.hid (runK_le (g :: t) 2 g.style)
   have HR2 := Lib.hid (runK_le t 1 g.style)
   have hr1 := HR1.out
   have hr2 := HR2.out
   rw [List.length_cons] at hr1
   rw [h2] at HK
   generalize runK (g :: t) 2 g.style = R at *
   generalize runK t 1 g.style = R2 at *
   clear HC HR1 HR2
   obtain ⟨x, wd, st⟩ := g
   dsimp only at *
   clear rd hv hsz h1 h2 hk3
   by_cases hR : 1 < R
   ·rw [if_pos hR]
    go_enter Tryz.func60, Tryz.ntmps60
    go_upto_region 2 with fail
    refine wp_fg (GlBox w x wd st) (GlBox.new w x wd st _) ?_
    rintro wb hgb
    obtain ⟨d0, d1, d2, hb0, hz0⟩ := id hgb
    go_wp2_with (first
     | (go_at_call 80; refine (HK.out _).mono ?_; rintro e w1 ⟨rfl, hbel1⟩; obtain ⟨e0, e1, e2, hb1, hz1⟩ := hgb.on hbel1)
     | (go_at_call 81; refine (HC2.out _ hb1).mono ?_; rintro e w2 ⟨rfl, hbel2⟩))
    go_ret
    exact ⟨rfl, hb1.trans (hbel2.mono (by omega))⟩
   ·rw [if_neg hR]
    go_enter Tryz.func60, Tryz.ntmps60
    go_upto_region 2 with fail
    refine wp_fg (GlBox w x wd st) (GlBox.new w x wd st _) ?_
    rintro wb hgb
    obtain ⟨d0, d1, d2, hb0, hz0⟩ := id hgb
    go_upto_region 11 with (first
     | (go_at_call 80; refine (HK.out _).mono ?_; rintro e w1 ⟨rfl, hbel1⟩; have hg1 := hgb.on hbel1; obtain ⟨e0, e1, e2, hb1, hz1⟩ := id hg1)
     | (go_at_call 81; refine (HC2.out _ hb1).mono ?_; rintro e w2 ⟨rfl, hbel2⟩; have hg2 := hg1.on hbel2; obtain ⟨f0, f1, f2, hb2, hz2⟩ := id hg2))
    have N2 : ∀ y : Near w2.heap.size w2, y.w.cell? ⟨w.heap.size, 2, none⟩ = some (.int .i64 st) := fun y => (y.h.cell (by show w.heap.size < _; omega)).trans f2
    have hzz := Nat.le_refl w2.heap.size
    clear f2 hg1 hg2 hgb d2 e2 c0 c1 c2 d0 d1 e0 e1 f0 f1
    by_cases hc1 : c = 1
    ·obtain rfl : n = 1 := by omega
     subst hc1
     simp only [if_true] at hcl
     refine wp_region_near w2.heap.size (by kernel_rfl) (by kernel_rfl) ?_; (repeat (go_big_quiet_step ((go_at_call 81; exact Calls.near _ hzz (hcl.out _ (hb2.trans (Below.mono (Near.h _) (by omega)))))))); refine wpQuiet_nil ?_; intro _ hw'; obtain ⟨x1, hw''⟩ := hw'; subst hw''
     go_wp2
     go_ret
     exact ⟨by go_num, hb2.trans (x1.h.mono (by omega))⟩
    ·rw [if_neg hc1] at hcl
     refine wp_region_near w2.heap.size (by kernel_rfl) (by kernel_rfl) ?_; (repeat (go_big_quiet_step ((go_at_call 81; exact Calls.near _ hzz (hcl.out _ (hb2.trans (Below.mono (Near.h _) (by omega)))))))); refine wpQuiet_nil ?_; intro _ hw'; obtain ⟨x1, hw''⟩ := hw'; subst hw''
     go_wp2
     go_ret
     exact ⟨by go_num, hb2.trans (x1.h.mono (by omega))⟩
  ·have h3 : kindL g = 0 := by omega
   rw [pieceL_oth h3]
   have HCh := Lib.hid (fun w => characters_ g.text hz w hv)
   rw [h3] at HK
   generalize hL : charsL (bytN g.text) = L at *
   clear hL
   have HE : Hid (∀ j (h : j < t.length), j < 131 → t[j] = g → runE (t.drop j) g (131 - j) = runE (t.drop (j + 1)) g (131 - (j + 1)) + 1) := Lib.hid fun j h h2 e => runE_succ h h2 e
   have HS : Hid (∀ j, (t.length ≤ j ∨ 131 ≤ j ∨ ∃ h : j < t.length, t[j] ≠ g) → runE (t.drop j) g (131 - j) = 0) := Lib.hid fun j h => runE_stop h
   generalize hM : runE t g 131 = M at *
   have HM0 : Hid (M = 0 + runE (t.drop 0) g (131 - 0)) := Lib.hid (by rw [← hM, Nat.zero_add]; rfl)
   have HQ : Hid (∀ (j : Nat) (h : j < t.length) w, (binOp .eql 48 (glV t[j]) (glV g)).run Tryz.prog w = .ok (.bool (decide (t[j] = g))) w) := Lib.hid fun j h w => eq_gl _ _ w
   have HGd : Hid (∀ (j : Nat) (h : j < t.length) x y w, (eqGuard .eql 48 x y (glV t[j]) (glV g)).run Tryz.prog w = .ok () w) := Lib.hid fun j h x y w => guard_gl _ _ _ _ _ w
   have HCell : Hid (∀ (j : Nat) (h : j < t.length) (w' : World), Below w.heap.size w w' → (w'.cell? ⟨b, (o + (j + 1) * 3), none⟩ = some (.string t[j].text) ∧ w'.cell? ⟨b, (o + (j + 1) * 3) + 1, none⟩ = some (.bool t[j].wide) ∧ w'.cell? ⟨b, (o + (j + 1) * 3) + 2, none⟩ = some (.int .i64 t[j].style))) := Lib.hid fun j h w' hw => by
    obtain ⟨b2, o2, e, _, q0, q1, q2⟩ := rd_gl (rd.keep (w' := w') fun p hp => hw.cell (by omega)) (k := j + 1) (by simp; omega) (by simpa using hln)
    injection e with e
    injection e with e1 e2
    subst e1 e2
    rw [List.getElem_cons_succ] at q0 q1 q2
    exact ⟨q0, q1, q2⟩
   obtain ⟨RES, hRES⟩ : ∃ x : Nat, x = if 0 < rep ∧ rep ≤ (1 + M : Nat) ∧ L.length = 1 then 1 + M else 1 := ⟨_, rfl⟩
   rw [← hRES]
   have HRES := Lib.hid hRES
   clear hM rd hv hsz h1 h2 hk3 h3 HC hRES
   obtain ⟨x, wd, st⟩ := g
   dsimp only at *
   go_enter Tryz.func60, Tryz.ntmps60
   go_upto_region 2 with fail
   refine wp_fg (GlBox w x wd st) (GlBox.new w x wd st _) ?_
   rintro wb hgb
   obtain ⟨d0, d1, d2, hb0, hz0⟩ := id hgb
   go_wp2_with (go_at_call 80; refine (HK.out _).mono ?_; rintro e w1 ⟨rfl, hbel1⟩; have hg1 := hgb.on hbel1)
   clear c0 c1 c2 d0 d1 d2 hgb hb0 hz0
   go_loopw [8] (fun v wr => ∃ j i : Nat, j ≤ t.length ∧ j ≤ 131 ∧ v = .int .i64 ((j : Int) + 1) ∧ wr = w1.drewN i ∧ Hid (M = j + runE (t.drop j) ⟨x, wd, st⟩ (131 - j))) (fun v _ => 133 - (intOf v).toNat)
   case atStart => exact ⟨0, 0, Nat.zero_le _, by omega, rfl, rfl, HM0⟩
   case round =>
    obtain ⟨j, i, hj, hj2, rfl, rfl, HR⟩ := hrel
    obtain ⟨e0, e1, e2, hb1, hz1⟩ := id hg1
    by_cases hlt : j < t.length
    ·by_cases hlt2 : j < 131
     ·have dd1 : decide ((j : Int) + 1 < (n : Int)) = true := decide_eq_true (by omega)
      have dd2 : decide ((j : Int) + 1 < 132) = true := decide_eq_true (by omega)
      have hq := HQ.out j hlt
      have hgd := HGd.out j hlt
      obtain ⟨q0, q1, q2⟩ := HCell.out j hlt w1 hb1
      by_cases he : t[j] = ⟨x, wd, st⟩
      ·have HR2 : Hid (M = (j + 1) + runE (t.drop (j + 1)) ⟨x, wd, st⟩ (131 - (j + 1))) := Lib.hid (by rw [HR.out, HE.out j hlt hlt2 he]; omega)
       rw [decide_eq_true he] at hq
       clear he
       generalize t[j] = y at *
       go_wp2
       go_quiet (fail)
       go_wp2
       exact ⟨⟨j + 1, _, by omega, by omega, by go_num, rfl, HR2⟩, by simp [intOf]; omega⟩
      ·rw [decide_eq_false he] at hq
       have HR2 : Hid (M = j) := Lib.hid (by rw [HR.out, HS.out j (.inr (.inr ⟨hlt, he⟩))]; rfl)
       clear HE HS HQ HGd HCell HR HM0
       (clear he; generalize t[j] = y at *)
       by_cases r1 : 0 < rep
       ·by_cases r2 : rep ≤ (j : Int) + 1
        ·by_cases r3 : L.length = 1
         ·have HX : Hid (RES = j + 1) := Lib.hid (by rw [HRES.out, HR2.out, if_pos ⟨r1, by omega, r3⟩]; omega)
          have r3' : ((L.length : Int) == 1) = true := beq_iff_eq.2 (by omega)
          go_wp2
          go_quiet (fail)
          go_wp2_with (go_at_call 82; refine (HCh.out _).mono ?_; rintro e w2 ⟨A2, c2, rfl, _, hbel2⟩)
          go_ret
          exact ⟨by rw [HX.out]; go_num, (below_drewN hb1).trans (hbel2.mono (by simp; omega))⟩
         ·have HX : Hid (RES = 1) := Lib.hid (by rw [HRES.out, if_neg (fun h => r3 h.2.2)])
          have r3' : ((L.length : Int) == 1) = false := beq_eq_false_iff_ne.2 (by omega)
          go_wp2
          go_quiet (fail)
          go_wp2_with (go_at_call 82; refine (HCh.out _).mono ?_; rintro e w2 ⟨A2, c2, rfl, _, hbel2⟩)
          go_ret
          exact ⟨by rw [HX.out]; rfl, (below_drewN hb1).trans (hbel2.mono (by simp; omega))⟩
        ·have HX : Hid (RES = 1) := Lib.hid (by rw [HRES.out, HR2.out, if_neg (fun h => r2 (by have := h.2.1; omega))])
         go_wp2
         go_quiet (fail)
         go_wp2
         go_ret
         exact ⟨by rw [HX.out]; rfl, below_drewN hb1⟩
       ·have HX : Hid (RES = 1) := Lib.hid (by rw [HRES.out, if_neg (fun h => r1 h.1)])
        go_wp2
        go_quiet (fail)
        go_wp2
        go_ret
        exact ⟨by rw [HX.out]; rfl, below_drewN hb1⟩
     ·have dd1 : decide ((j : Int) + 1 < (n : Int)) = true := decide_eq_true (by omega)
      have dd2 : decide ((j : Int) + 1 < 132) = false := decide_eq_false (by omega)
      have HR2 : Hid (M = j) := Lib.hid (by rw [HR.out, HS.out j (.inr (.inl (by omega)))]; rfl)
      clear HE HS HQ HGd HCell HR HM0
      skip
      by_cases r1 : 0 < rep
      ·by_cases r2 : rep ≤ (j : Int) + 1
       ·by_cases r3 : L.length = 1
        ·have HX : Hid (RES = j + 1) := Lib.hid (by rw [HRES.out, HR2.out, if_pos ⟨r1, by omega, r3⟩]; omega)
         have r3' : ((L.length : Int) == 1) = true := beq_iff_eq.2 (by omega)
         go_wp2
         go_quiet (fail)
         go_wp2_with (go_at_call 82; refine (HCh.out _).mono ?_; rintro e w2 ⟨A2, c2, rfl, _, hbel2⟩)
         go_ret
         exact ⟨by rw [HX.out]; go_num, (below_drewN hb1).trans (hbel2.mono (by simp; omega))⟩
        ·have HX : Hid (RES = 1) := Lib.hid (by rw [HRES.out, if_neg (fun h => r3 h.2.2)])
         have r3' : ((L.length : Int) == 1) = false := beq_eq_false_iff_ne.2 (by omega)
         go_wp2
         go_quiet (fail)
         go_wp2_with (go_at_call 82; refine (HCh.out _).mono ?_; rintro e w2 ⟨A2, c2, rfl, _, hbel2⟩)
         go_ret
         exact ⟨by rw [HX.out]; rfl, (below_drewN hb1).trans (hbel2.mono (by simp; omega))⟩
       ·have HX : Hid (RES = 1) := Lib.hid (by rw [HRES.out, HR2.out, if_neg (fun h => r2 (by have := h.2.1; omega))])
        go_wp2
        go_quiet (fail)
        go_wp2
        go_ret
        exact ⟨by rw [HX.out]; rfl, below_drewN hb1⟩
      ·have HX : Hid (RES = 1) := Lib.hid (by rw [HRES.out, if_neg (fun h => r1 h.1)])
       go_wp2
       go_quiet (fail)
       go_wp2
       go_ret
       exact ⟨by rw [HX.out]; rfl, below_drewN hb1⟩
    ·have dd1 : decide ((j : Int) + 1 < (n : Int)) = false := decide_eq_false (by omega)
     have HR2 : Hid (M = j) := Lib.hid (by rw [HR.out, HS.out j (.inl (by omega))]; rfl)
     clear HE HS HQ HGd HCell HR HM0
     skip
     by_cases r1 : 0 < rep
     ·by_cases r2 : rep ≤ (j : Int) + 1
      ·by_cases r3 : L.length = 1
       ·have HX : Hid (RES = j + 1) := Lib.hid (by rw [HRES.out, HR2.out, if_pos ⟨r1, by omega, r3⟩]; omega)
        have r3' : ((L.length : Int) == 1) = true := beq_iff_eq.2 (by omega)
        go_wp2
        go_quiet (fail)
        go_wp2_with (go_at_call 82; refine (HCh.out _).mono ?_; rintro e w2 ⟨A2, c2, rfl, _, hbel2⟩)
        go_ret
        exact ⟨by rw [HX.out]; go_num, (below_drewN hb1).trans (hbel2.mono (by simp; omega))⟩
       ·have HX : Hid (RES = 1) := Lib.hid (by rw [HRES.out, if_neg (fun h => r3 h.2.2)])
        have r3' : ((L.length : Int) == 1) = false := beq_eq_false_iff_ne.2 (by omega)
        go_wp2
        go_quiet (fail)
        go_wp2_with (go_at_call 82; refine (HCh.out _).mono ?_; rintro e w2 ⟨A2, c2, rfl, _, hbel2⟩)
        go_ret
        exact ⟨by rw [HX.out]; rfl, (below_drewN hb1).trans (hbel2.mono (by simp; omega))⟩
      ·have HX : Hid (RES = 1) := Lib.hid (by rw [HRES.out, HR2.out, if_neg (fun h => r2 (by have := h.2.1; omega))])
       go_wp2
       go_quiet (fail)
       go_wp2
       go_ret
       exact ⟨by rw [HX.out]; rfl, below_drewN hb1⟩
     ·have HX : Hid (RES = 1) := Lib.hid (by rw [HRES.out, if_neg (fun h => r1 h.1)])
      go_wp2
      go_quiet (fail)
      go_wp2
      go_ret
      exact ⟨by rw [HX.out]; rfl, below_drewN hb1⟩
def txtL (l : List Gl) : ByteArray := ⟨(l.flatMap fun g => g.text.data.toList).toArray⟩
theorem txt_snoc (l : List Gl) (g : Gl) : txtL (l ++ [g]) = txtL l ++ g.text := by
 unfold txtL
 apply ByteArray.ext
 rw [ByteArray.data_append]
 apply Array.toList_inj.1
 simp
theorem txt_take {l : List Gl} {j : Nat} (h : j < l.length) : txtL (l.take (j + 1)) = txtL (l.take j) ++ l[j].text := by
 have e : l.take (j + 1) = l.take j ++ [l[j]] := (List.take_append_getElem h).symm
 rw [e, txt_snoc]
theorem txt_size (l : List Gl) (m : Nat) (h : ∀ g ∈ l, g.text.size ≤ m) : (txtL l).size ≤ m * l.length := by
 show (List.toArray _).size ≤ _
 rw [List.size_toArray]
 induction l with
 | nil => simp
 | cons g t ih =>
  have h1 := h g (by simp)
  have h2 := ih (fun x hx => h x (by simp [hx]))
  simp only [List.flatMap_cons, List.length_append, List.length_cons]
  have h3 : g.text.data.toList.length = g.text.size := by simp
  rw [h3]
  have : m * (t.length + 1) = m * t.length + m := by rw [Nat.mul_add, Nat.mul_one]
  omega
theorem kind_byte {g : Gl} (h : kindL g ≠ 0) : g.text.data.toList = [headB g] ∧ kindL g = kindB (headB g).toNat := by
 unfold kindL headB at *
 split at h
 ·rename_i c hc
  rw [hc]
  exact ⟨rfl, rfl⟩
 ·exact absurd rfl h
theorem txt_bytes {l : List Gl} (h : ∀ g ∈ l, kindL g ≠ 0) : (txtL l).data.toList = l.map headB := by
 unfold txtL
 simp only
 induction l with
 | nil => rfl
 | cons g t ih =>
  have h1 := (kind_byte (h g (by simp))).1
  simp only [List.flatMap_cons, List.map_cons]
  rw [h1, ih (fun x hx => h x (by simp [hx]))]
  rfl
theorem lettersL_T {l : List Gl} (h : ∀ g ∈ l, kindL g ≠ 0) (spell : Bool) : lettersL l spell = lettersT (l.map headB) spell := by
 have e1 : (l.filter fun g => kindL g == 2).length = capsT (l.map headB) := by
  unfold capsT
  rw [List.filter_map, List.length_map]
  congr 1
  apply List.filter_congr
  intro g hg
  rw [(kind_byte (h g hg)).2]
  rfl
 have e2 : lowL l = (l.map headB).map lowB := by
  unfold lowL
  rw [List.map_map]
  rfl
 unfold lettersL lettersT capW
 rw [e1, e2]
theorem digitsL_T (l : List Gl) (dig : Bool) : digitsL l dig = digitsT (l.map headB) dig := by
 have e1 : digL l = digT (l.map headB) := by
  unfold digL digT
  rw [List.map_map]
  rfl
 unfold digitsL digitsT catW
 rw [e1, List.length_map]
structure PieceOK (l : List Gl) : Prop where
 n : l.length ≤ 1000
 sz : ∀ g ∈ l, g.text.size ≤ 1000
 ltr : ∀ g t, l = g :: t → kindL g = 1 ∨ kindL g = 2 → ∀ x ∈ l, kindL x = 1 ∨ kindL x = 2
 dig : ∀ g t, l = g :: t → kindL g = 3 → ∀ x ∈ l, kindL x = 3
 oth : ∀ g t, l = g :: t → kindL g = 0 → validB g.text = true
theorem spokenL_ltr {g : Gl} {t : List Gl} {sp d : Bool} (h : kindL g = 1 ∨ kindL g = 2) : spokenL (g :: t) sp d = lettersL (g :: t) sp := if_pos h
theorem spokenL_dig {g : Gl} {t : List Gl} {sp d : Bool} (h : kindL g = 3) : spokenL (g :: t) sp d = digitsL (g :: t) d := by
 unfold spokenL
 simp only
 rw [if_neg (by omega), if_pos h]
theorem spokenL_one {g : Gl} {sp d : Bool} (h : kindL g = 0) : spokenL [g] sp d = singleL g := by
 unfold spokenL
 simp only
 rw [if_neg (by omega), if_neg (by omega), if_pos trivial]
theorem spokenL_many {g : Gl} {t : List Gl} {sp d : Bool} (h : kindL g = 0) (ht : t ≠ []) : spokenL (g :: t) sp d = numW (t.length + 1) ++ [bTimes] ++ singleL g := by
 unfold spokenL
 simp only
 rw [if_neg (by omega), if_neg (by omega), if_neg ht]
theorem singleL_len {g : Gl} : (singleL g).length ≤ 1 + 16 * (charsL (bytN g.text)).length := by
 by_cases h : g.text.data.toList = [32]
 ·rw [singleL_sp h]; simp
 ·rw [singleL_oth h]
  have := spellN_len (charsL (bytN g.text))
  omega
theorem cat3 {W0 : World} {m : Nat} (hm : W0.heap.size = m) {A6 A7 AT : Option Addr} {c6 c7 : Nat} {NW SG : List ByteArray} {x : ByteArray} (r6 : Rd W0 W0.heap.size 1 A6 NW.length (sv NW)) (rT : Rd W0 W0.heap.size 1 AT 1 (sv [x]))
  (r7 : Rd W0 W0.heap.size 1 A7 SG.length (sv SG)) (hl : NW.length + 1 + SG.length ≤ 1000000000) {RS : List ByteArray} (hR : RS = NW ++ [x] ++ SG) :
  Calls Tryz.prog 110 #[.slice (some ⟨m, 0, none⟩) 3 3] (W0.alloc (.cells #[.slice A6 NW.length c6, .slice AT 1 1, .slice A7 SG.length c7] 27)) (GivesOwn 9 1 id (W0.alloc (.cells #[.slice A6 NW.length c6, .slice AT 1 1, .slice A7 SG.length c7] 27)) RS.length (sv RS)) := by
 subst hm hR
 have hb : Below W0.heap.size W0 (W0.alloc (.cells #[.slice A6 NW.length c6, .slice AT 1 1, .slice A7 SG.length c7] 27)) := (Below.refl _ _).alloc (Nat.le_refl _) _
 have h := concat_ [(A6, c6, NW), (AT, 1, [x]), (A7, c7, SG)] (some ⟨W0.heap.size, 0, none⟩) 3 3 ((W0.alloc (.cells #[.slice A6 NW.length c6, .slice AT 1 1, .slice A7 SG.length c7] 27))).heap.size (W0.alloc (.cells #[.slice A6 NW.length c6, .slice AT 1 1, .slice A7 SG.length c7] 27)) rfl (by omega) (Nat.le_refl _) (by
  show (NW ++ ([x] ++ (SG ++ []))).length ≤ _
  simp
  omega) (Rd.more (rd_built (xs := [.slice A6 NW.length c6, .slice AT 1 1, .slice A7 SG.length c7]) rfl rfl) (by simp)) (fun y hy => by
   simp only [List.mem_cons, List.not_mem_nil, or_false] at hy
   rcases hy with rfl | rfl | rfl
   ·exact Rd.more (r6.below hb) (by simp)
   ·exact Rd.more (rT.below hb) (by simp)
   ·exact Rd.more (r7.below hb) (by simp))
 have e : catL [(A6, c6, NW), (AT, 1, [x]), (A7, c7, SG)] = NW ++ [x] ++ SG := by simp [catL]
 rw [e] at h
 exact h
theorem rd_up {w w' : World} {size n : Nat} {A : Option Addr} {xs : List Value} (h : Rd w w.heap.size size A n xs) (hb : Below w.heap.size w w') : Rd w' w'.heap.size size A n xs := Rd.more (h.below hb) hb.size
theorem rd_al {w : World} {size n : Nat} {A : Option Addr} {xs : List Value} (h : Rd w w.heap.size size A n xs) (o : Obj) : Rd (w.alloc o) (w.alloc o).heap.size size A n xs := rd_up h ((Below.refl _ _).alloc (Nat.le_refl _) _)
theorem rd_one {w : World} {v : Value} {e : TypeId} : Rd (w.alloc (.cells #[v] e)) (w.alloc (.cells #[v] e)).heap.size 1 (some ⟨w.heap.size, 0, none⟩) 1 [v] := Rd.more (rd_built (xs := [v]) rfl rfl) (by simp)
end Go.Proofs.YtejjfiipghcifaaGreatDoor
