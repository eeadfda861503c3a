/- Joined texts: Pc2. -/
import Derived.Test.YtejjfiipghcifaaGreatDoorQAA
import Derived.Test.YtejjfiipghcifaaGreatDoorQAB
import Derived.Test.YtejjfiipghcifaaGreatDoorQAC
import Derived.Test.YtejjfiipghcifaaGreatDoorQAG
import Derived.Test.YtejjfiipghcifaaGreatDoorQAL
import Derived.Test.YtejjfiipghcifaaGreatDoorQAO
import Derived.Test.YtejjfiipghcifaaGreatDoorQAP
import Derived.Test.YtejjfiipghcifaaGreatDoorQAQ
import Derived.Test.YtejjfiipghcifaaGreatDoorQAR
set_option linter.unusedVariables false
set_option linter.unusedSimpArgs false
set_option linter.unnecessarySimpa false
namespace Go.Proofs.YtejjfiipghcifaaGreatDoor
open Go.RowKit
set_option maxRecDepth 20000
set_option maxHeartbeats 4000000 in
theorem rpiece (l : List Gl) (i : Nat) (g : Gl) (t : List Gl) (hd : l.drop i = g :: t) (rep : Int) (hrep : 0 ≤ rep) (A : Option Addr) (n c B : Nat) (w : World) (hn : n ≤ 1000000000) (hsz : ∀ x ∈ l, x.text.size ≤ 1000000000) (rd : Rd w B 3 A n (encGs l)) (hB : B ≤ w.heap.size) :
  Calls Tryz.prog 64 #[.slice A n c, .int .i64 i, .int .i64 rep] w (Gives (.int .i64 (pieceL (g :: t) rep : Nat)) w) := by
 have hln := gl_len rd
 have hil : i < l.length := by
  rcases Nat.lt_or_ge i l.length with h | h
  ·exact h
  ·rw [List.drop_of_length_le h] at hd; cases hd
 have hdl : t.length + 1 + i = n := by
  have := congrArg List.length hd
  rw [List.length_drop, List.length_cons] at this
  omega
 have hli : l[i] = g := by
  rw [List.drop_eq_getElem_cons hil] at hd
  injection hd
 have hdt : l.drop (i + 1) = t := by
  rw [List.drop_eq_getElem_cons hil] at hd
  injection hd
 obtain ⟨b, o, rfl, hbB, c0, c1, c2⟩ := rd_gl rd hil hln
 rw [hli] at c0 c1 c2
 have hz : g.text.size ≤ 1000000000 := by rw [← hli]; exact hsz _ (List.getElem_mem hil)
 have HK := Lib.hid (rkind g hz)
 have HC := Lib.hid (fun k (hk : k ≤ 3) st i' (hi : i' ≤ n) w' (hw : Below w.heap.size w w') => rrun l i' k hk st (some ⟨b, o, none⟩) n c B w' hn hi hsz (rd.keep fun p hp => hw.cell (by omega)) (Nat.le_trans hB hw.size))
 have hk3 := kindL_le g
 have hb : b < w.heap.size := by omega
 have hin : i < n := by omega
 by_cases h1 : kindL g = 1 ∨ kindL g = 3
 ·rw [pieceL_ltr h1]
  have HC2 := Lib.hid (HC.out (kindL g) hk3 g.style i (by omega))
  rw [hd] at HC2
  generalize runK (g :: t) (kindL g) g.style = R at *
  clear HC
  generalize kindL g = K at *
  obtain ⟨x, wd, st⟩ := g
  dsimp only at *
  clear rd hsz hli hdt hd
  rcases h1 with rfl | rfl
  ·rw [show rkV 1 = 97 from rfl] at HK HC2
   go_enter Tryz.func64, Tryz.ntmps64
   go_upto_region 2 with fail
   refine wp_fg (GlBox w x wd st) (GlBox.new w x wd st _) ?_
   rintro wb hgb
   obtain ⟨d0, d1, d2, hb0, hz0⟩ := id hgb
   go_wp2_with (first
    | (go_at_call 65; refine (HK.out _).mono ?_; rintro e w1 ⟨rfl, hbel1⟩; obtain ⟨e0, e1, e2, hb1, hz1⟩ := hgb.on hbel1)
    | (go_at_call 84; refine (HC2.out _ hb1).mono ?_; rintro e w2 ⟨rfl, hbel2⟩))
   go_ret
   exact ⟨rfl, hb1.trans (hbel2.mono (by omega))⟩
  ·rw [show rkV 3 = 48 from rfl] at HK HC2
   go_enter Tryz.func64, Tryz.ntmps64
   go_upto_region 2 with fail
   refine wp_fg (GlBox w x wd st) (GlBox.new w x wd st _) ?_
   rintro wb hgb
   obtain ⟨d0, d1, d2, hb0, hz0⟩ := id hgb
   go_wp2_with (first
    | (go_at_call 65; refine (HK.out _).mono ?_; rintro e w1 ⟨rfl, hbel1⟩; obtain ⟨e0, e1, e2, hb1, hz1⟩ := hgb.on hbel1)
    | (go_at_call 84; refine (HC2.out _ hb1).mono ?_; rintro e w2 ⟨rfl, hbel2⟩))
   go_ret
   exact ⟨rfl, hb1.trans (hbel2.mono (by omega))⟩
 ·by_cases h2 : kindL g = 2
  ·rw [pieceL_cap h2]
   have HC2 := Lib.hid (HC.out 2 (by omega) g.style i (by omega))
   rw [hd, show rkV 2 = 65 from rfl] at HC2
   have HC1 := Lib.hid (HC.out 1 (by omega) g.style (i + 1) (by omega))
   rw [hdt, show rkV 1 = 97 from rfl, show ((i + 1 : Nat) : Int) = (i : Int) + 1 by omega] at HC1
   have HR1 := Lib.hid (runK_le (g :: t) 2 g.style)
   have HR2 := Lib.hid (runK_le t 1 g.style)
   have hr1 := HR1.out
   have hr2 := HR2.out
   rw [List.length_cons] at hr1
   rw [h2, show rkV 2 = 65 from rfl] at HK
   generalize runK (g :: t) 2 g.style = R at *
   generalize runK t 1 g.style = R2 at *
   clear HC HR1 HR2
   obtain ⟨x, wd, st⟩ := g
   dsimp only at *
   clear rd hsz h1 h2 hk3 hli hdt hd
   by_cases hR : 1 < R
   ·rw [if_pos hR]
    go_enter Tryz.func64, Tryz.ntmps64
    go_upto_region 2 with fail
    refine wp_fg (GlBox w x wd st) (GlBox.new w x wd st _) ?_
    rintro wb hgb
    obtain ⟨d0, d1, d2, hb0, hz0⟩ := id hgb
    go_wp2_with (first
     | (go_at_call 65; refine (HK.out _).mono ?_; rintro e w1 ⟨rfl, hbel1⟩; obtain ⟨e0, e1, e2, hb1, hz1⟩ := hgb.on hbel1)
     | (go_at_call 84; refine (HC2.out _ hb1).mono ?_; rintro e w2 ⟨rfl, hbel2⟩))
    go_ret
    exact ⟨rfl, hb1.trans (hbel2.mono (by omega))⟩
   ·rw [if_neg hR]
    go_enter Tryz.func64, Tryz.ntmps64
    go_upto_region 2 with fail
    refine wp_fg (GlBox w x wd st) (GlBox.new w x wd st _) ?_
    rintro wb hgb
    obtain ⟨d0, d1, d2, hb0, hz0⟩ := id hgb
    go_upto_region 11 with (first
     | (go_at_call 65; refine (HK.out _).mono ?_; rintro e w1 ⟨rfl, hbel1⟩; have hg1 := hgb.on hbel1; obtain ⟨e0, e1, e2, hb1, hz1⟩ := id hg1)
     | (go_at_call 84; refine (HC2.out _ hb1).mono ?_; rintro e w2 ⟨rfl, hbel2⟩; have hg2 := hg1.on hbel2; obtain ⟨f0, f1, f2, hb2, hz2⟩ := id hg2))
    go_wp2_with (go_at_call 84; refine (HC1.out _ hb2).mono ?_; rintro e w3 ⟨rfl, hbel3⟩)
    go_ret
    exact ⟨by go_num, hb2.trans (hbel3.mono (by omega))⟩
  ·have h3 : kindL g = 0 := by omega
   rw [pieceL_oth h3]
   have HCh := Lib.hid (rcharacters g.text hz)
   rw [h3, show rkV 0 = 46 from rfl] at HK
   generalize hL : charsL (bytN g.text) = L at *
   clear hL
   have HE : Hid (∀ j (h : j < t.length), j < 131 → t[j] = g → runE (t.drop j) g (131 - j) = runE (t.drop (j + 1)) g (131 - (j + 1)) + 1) := Lib.hid fun j h h2 e => runE_succ h h2 e
   have HS : Hid (∀ j, (t.length ≤ j ∨ 131 ≤ j ∨ ∃ h : j < t.length, t[j] ≠ g) → runE (t.drop j) g (131 - j) = 0) := Lib.hid fun j h => runE_stop h
   generalize hM : runE t g 131 = M at *
   have HM0 : Hid (M = 0 + runE (t.drop 0) g (131 - 0)) := Lib.hid (by rw [← hM, Nat.zero_add]; rfl)
   have HQ : Hid (∀ (j : Nat) (h : j < t.length) w, (binOp .eql 48 (glV t[j]) (glV g)).run Tryz.prog w = .ok (.bool (decide (t[j] = g))) w) := Lib.hid fun j h w => eq_gl _ _ w
   have HGd : Hid (∀ (j : Nat) (h : j < t.length) x y w, (eqGuard .eql 48 x y (glV t[j]) (glV g)).run Tryz.prog w = .ok () w) := Lib.hid fun j h x y w => guard_gl _ _ _ _ _ w
   have HCell : Hid (∀ (j : Nat) (h : j < t.length) (w' : World), Below w.heap.size w w' → (w'.cell? ⟨b, (o + (i + (j + 1)) * 3), none⟩ = some (.string t[j].text) ∧ w'.cell? ⟨b, (o + (i + (j + 1)) * 3) + 1, none⟩ = some (.bool t[j].wide) ∧ w'.cell? ⟨b, (o + (i + (j + 1)) * 3) + 2, none⟩ = some (.int .i64 t[j].style))) := Lib.hid fun j h w' hw => by
    have hlt : i + (j + 1) < l.length := by omega
    obtain ⟨b2, o2, e, _, q0, q1, q2⟩ := rd_gl (rd.keep (w' := w') fun p hp => hw.cell (by omega)) hlt hln
    injection e with e
    injection e with e1 e2
    subst e1 e2
    have e3 : l[i + (j + 1)] = t[j] := by
     subst hdt
     rw [List.getElem_drop]
     congr 1
     omega
    rw [e3] at q0 q1 q2
    exact ⟨q0, q1, q2⟩
   obtain ⟨RES, hRES⟩ : ∃ x : Nat, x = if 0 < rep ∧ rep ≤ (1 + M : Nat) ∧ L.length = 1 then 1 + M else 1 := ⟨_, rfl⟩
   rw [← hRES]
   have HRES := Lib.hid hRES
   clear hM rd hsz h1 h2 hk3 h3 HC hRES hli hdt hd
   obtain ⟨x, wd, st⟩ := g
   dsimp only at *
   go_enter Tryz.func64, Tryz.ntmps64
   go_upto_region 2 with fail
   refine wp_fg (GlBox w x wd st) (GlBox.new w x wd st _) ?_
   rintro wb hgb
   obtain ⟨d0, d1, d2, hb0, hz0⟩ := id hgb
   go_wp2_with (go_at_call 65; refine (HK.out _).mono ?_; rintro e w1 ⟨rfl, hbel1⟩; have hg1 := hgb.on hbel1)
   clear c0 c1 c2 d0 d1 d2 hgb hb0 hz0
   go_loopw [9] (fun v wr => ∃ j m : Nat, j ≤ t.length ∧ j ≤ 131 ∧ v = .int .i64 ((j : Int) + 1) ∧ wr = w1.drewN m ∧ Hid (M = j + runE (t.drop j) ⟨x, wd, st⟩ (131 - j))) (fun v _ => 133 - (intOf v).toNat)
   case atStart => exact ⟨0, 0, Nat.zero_le _, by omega, rfl, rfl, HM0⟩
   case round =>
    obtain ⟨j, m, hj, hj2, rfl, rfl, HR⟩ := hrel
    obtain ⟨e0, e1, e2, hb1, hz1⟩ := id hg1
    by_cases hlt : j < t.length
    ·have dd1 : decide ((i : Int) + ((j : Int) + 1) < (n : Int)) = true := decide_eq_true (by omega)
     by_cases hlt2 : j < 131
     ·have dd2 : decide ((j : Int) + 1 < 132) = true := decide_eq_true (by omega)
      have hq := HQ.out j hlt
      have hgd := HGd.out j hlt
      obtain ⟨q0, q1, q2⟩ := HCell.out j hlt w1 hb1
      by_cases he : t[j] = ⟨x, wd, st⟩
      ·have HR2 : Hid (M = (j + 1) + runE (t.drop (j + 1)) ⟨x, wd, st⟩ (131 - (j + 1))) := Lib.hid (by rw [HR.out, HE.out j hlt hlt2 he]; omega)
       rw [decide_eq_true he] at hq
       clear he
       generalize t[j] = y at *
       go_wp2
       go_quiet (fail)
       go_wp2
       exact ⟨⟨j + 1, _, by omega, by omega, by go_num, rfl, HR2⟩, by simp [intOf]; omega⟩
      ·rw [decide_eq_false he] at hq
       have HR2 : Hid (M = j) := Lib.hid (by rw [HR.out, HS.out j (.inr (.inr ⟨hlt, he⟩))]; rfl)
       clear HE HS HQ HGd HCell HR HM0
       (clear he; generalize t[j] = y at *)
       by_cases r1 : rep = 0
       ·have HX : Hid (RES = 1) := Lib.hid (by rw [HRES.out, if_neg (fun h => by have := h.1; omega)])
        subst r1
        go_wp2
        go_quiet (fail)
        go_wp2
        go_ret
        exact ⟨by rw [HX.out]; rfl, below_drewN hb1⟩
       ·have r1' : (rep == 0) = false := beq_eq_false_iff_ne.2 r1
        by_cases r2 : rep ≤ (j : Int) + 1
        ·by_cases r3 : L.length = 1
         ·have HX : Hid (RES = j + 1) := Lib.hid (by rw [HRES.out, HR2.out, if_pos ⟨by omega, by omega, r3⟩]; omega)
          have r3' : ((L.length : Int) != 1) = false := by simp; omega
          go_wp2
          go_quiet (fail)
          go_wp2_with (go_at_call 85; refine (HCh.out _).mono ?_; rintro e w2 ⟨A2, c2, rfl, _, hbel2⟩)
          go_ret
          exact ⟨by rw [HX.out]; go_num, (below_drewN hb1).trans (hbel2.mono (by simp; omega))⟩
         ·have HX : Hid (RES = 1) := Lib.hid (by rw [HRES.out, if_neg (fun h => r3 h.2.2)])
          have r3' : ((L.length : Int) != 1) = true := bne_iff_ne.2 (by omega)
          go_wp2
          go_quiet (fail)
          go_wp2_with (go_at_call 85; refine (HCh.out _).mono ?_; rintro e w2 ⟨A2, c2, rfl, _, hbel2⟩)
          go_ret
          exact ⟨by rw [HX.out]; rfl, (below_drewN hb1).trans (hbel2.mono (by simp; omega))⟩
        ·have HX : Hid (RES = 1) := Lib.hid (by rw [HRES.out, HR2.out, if_neg (fun h => r2 (by have := h.2.1; omega))])
         go_wp2
         go_quiet (fail)
         go_wp2
         go_ret
         exact ⟨by rw [HX.out]; rfl, below_drewN hb1⟩
     ·have dd2 : decide ((j : Int) + 1 < 132) = false := decide_eq_false (by omega)
      have HR2 : Hid (M = j) := Lib.hid (by rw [HR.out, HS.out j (.inr (.inl (by omega)))]; rfl)
      clear HE HS HQ HGd HCell HR HM0
      skip
      by_cases r1 : rep = 0
      ·have HX : Hid (RES = 1) := Lib.hid (by rw [HRES.out, if_neg (fun h => by have := h.1; omega)])
       subst r1
       go_wp2
       go_quiet (fail)
       go_wp2
       go_ret
       exact ⟨by rw [HX.out]; rfl, below_drewN hb1⟩
      ·have r1' : (rep == 0) = false := beq_eq_false_iff_ne.2 r1
       by_cases r2 : rep ≤ (j : Int) + 1
       ·by_cases r3 : L.length = 1
        ·have HX : Hid (RES = j + 1) := Lib.hid (by rw [HRES.out, HR2.out, if_pos ⟨by omega, by omega, r3⟩]; omega)
         have r3' : ((L.length : Int) != 1) = false := by simp; omega
         go_wp2
         go_quiet (fail)
         go_wp2_with (go_at_call 85; refine (HCh.out _).mono ?_; rintro e w2 ⟨A2, c2, rfl, _, hbel2⟩)
         go_ret
         exact ⟨by rw [HX.out]; go_num, (below_drewN hb1).trans (hbel2.mono (by simp; omega))⟩
        ·have HX : Hid (RES = 1) := Lib.hid (by rw [HRES.out, if_neg (fun h => r3 h.2.2)])
         have r3' : ((L.length : Int) != 1) = true := bne_iff_ne.2 (by omega)
         go_wp2
         go_quiet (fail)
         go_wp2_with (go_at_call 85; refine (HCh.out _).mono ?_; rintro e w2 ⟨A2, c2, rfl, _, hbel2⟩)
         go_ret
         exact ⟨by rw [HX.out]; rfl, (below_drewN hb1).trans (hbel2.mono (by simp; omega))⟩
       ·have HX : Hid (RES = 1) := Lib.hid (by rw [HRES.out, HR2.out, if_neg (fun h => r2 (by have := h.2.1; omega))])
        go_wp2
        go_quiet (fail)
        go_wp2
        go_ret
        exact ⟨by rw [HX.out]; rfl, below_drewN hb1⟩
    ·have dd1 : decide ((i : Int) + ((j : Int) + 1) < (n : Int)) = false := decide_eq_false (by omega)
     have HR2 : Hid (M = j) := Lib.hid (by rw [HR.out, HS.out j (.inl (by omega))]; rfl)
     clear HE HS HQ HGd HCell HR HM0
     skip
     by_cases r1 : rep = 0
     ·have HX : Hid (RES = 1) := Lib.hid (by rw [HRES.out, if_neg (fun h => by have := h.1; omega)])
      subst r1
      go_wp2
      go_quiet (fail)
      go_wp2
      go_ret
      exact ⟨by rw [HX.out]; rfl, below_drewN hb1⟩
     ·have r1' : (rep == 0) = false := beq_eq_false_iff_ne.2 r1
      by_cases r2 : rep ≤ (j : Int) + 1
      ·by_cases r3 : L.length = 1
       ·have HX : Hid (RES = j + 1) := Lib.hid (by rw [HRES.out, HR2.out, if_pos ⟨by omega, by omega, r3⟩]; omega)
        have r3' : ((L.length : Int) != 1) = false := by simp; omega
        go_wp2
        go_quiet (fail)
        go_wp2_with (go_at_call 85; refine (HCh.out _).mono ?_; rintro e w2 ⟨A2, c2, rfl, _, hbel2⟩)
        go_ret
        exact ⟨by rw [HX.out]; go_num, (below_drewN hb1).trans (hbel2.mono (by simp; omega))⟩
       ·have HX : Hid (RES = 1) := Lib.hid (by rw [HRES.out, if_neg (fun h => r3 h.2.2)])
        have r3' : ((L.length : Int) != 1) = true := bne_iff_ne.2 (by omega)
        go_wp2
        go_quiet (fail)
        go_wp2_with (go_at_call 85; refine (HCh.out _).mono ?_; rintro e w2 ⟨A2, c2, rfl, _, hbel2⟩)
        go_ret
        exact ⟨by rw [HX.out]; rfl, (below_drewN hb1).trans (hbel2.mono (by simp; omega))⟩
      ·have HX : Hid (RES = 1) := Lib.hid (by rw [HRES.out, HR2.out, if_neg (fun h => r2 (by have := h.2.1; omega))])
       go_wp2
       go_quiet (fail)
       go_wp2
       go_ret
       exact ⟨by rw [HX.out]; rfl, below_drewN hb1⟩
end Go.Proofs.YtejjfiipghcifaaGreatDoor
