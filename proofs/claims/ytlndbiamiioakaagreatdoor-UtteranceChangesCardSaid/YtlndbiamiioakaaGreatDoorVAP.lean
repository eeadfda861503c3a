/- Joined: Kd2, Pc1, Sp0. -/
import Derived.Test.YtlndbiamiioakaaGreatDoorVAJ
import Derived.Test.YtlndbiamiioakaaGreatDoorVAO
set_option linter.unusedVariables false
set_option linter.unusedSimpArgs false
set_option linter.unnecessarySimpa false
set_option maxHeartbeats 4000000
namespace Go.Proofs.YtlndbiamiioakaaGreatDoor
open Go.Proofs.Tryz Go.RowKit
set_option maxRecDepth 20000
theorem qbc (g : Gl) (t : List Gl) (k : Nat) (st : Int) : jT (g :: t) k st = if qv g = k /\ g.style = st then jT t k st + 1 else 0 := rfl
theorem count_ (l : List Gl) (k : Nat) (st : Int) (A : Option Addr) (n c B : Nat) (w : World) (hn : n <= 1000000000) (hsz : ∀ g ∈ l, g.text.size <= 1000000000) (rd : Rd w B 3 A n (qn l)) (hB : B <= w.heap.size) :
  Calls prog 69 #[.slice A n c, .int .i64 k, .int .i64 st] w (qg (.int .i64 (jT l k st : Nat)) w) := by
 have HN := Lh (yl rd)
 have HF : Hid (jT l k st = 0 + jT (l.drop 0) k st) := Lh (by rw [Nat.zero_add]; rfl)
 generalize jT l k st = R at *
 go_enter func69, ntmps69
 go_wp2
 go_loopw [7] (fun x wr => ∃ j : Nat, j <= n /\ x = .int .i64 j /\ Below w.heap.size w wr /\ Hid (R = j + jT (l.drop j) k st)) (fun x _ => n - (intOf x).toNat)
 case atStart => exact ⟨0, Nat.zero_le _, rfl, Below.refl _ _, HF⟩
 case round =>
  obtain ⟨j, hj, rfl, hbel, HR⟩ := hrel
  by_cases hlt : j < n
  ·have hkl : j < l.length := by have := HN.out; omega
   obtain ⟨b, o, rfl, hbB, g0, g1, g2⟩ := jJ (rd.keep (w' := wr) fun p hp => hbel.cell (by omega)) hkl HN.out
   have HD : Hid (l.drop j = l[j] :: l.drop (j + 1)) := Lh (List.drop_eq_getElem_cons hkl)
   have hz := hsz _ (List.getElem_mem hkl)
   generalize l[j] = g at *
   have HT : Hid (qv g = k /\ g.style = st -> R = (j + 1) + jT (l.drop (j + 1)) k st) := Lh fun h => by rw [HR.out, HD.out, qbc, if_pos h]; omega
   have HZ : Hid (¬ (qv g = k /\ g.style = st) -> R = j) := Lh fun h => by rw [HR.out, HD.out, qbc, if_neg h]; rfl
   have HK := Lh (qbr g hz)
   generalize qv g = q at *
   obtain ⟨t, wd, s⟩ := g
   dsimp only at *
   have N0 := c3_near (wb := wr) (b := b) (o := o + j * 3) (r := ⟨t, wd, s⟩) (B := wr.heap.size) ⟨g0, g1, g2⟩ (by have := hbel.size; omega)
   dsimp only at N0
   have hzz := Nat.le_refl wr.heap.size
   clear HR HD
   by_cases h1 : q = k
   ·by_cases h2 : s = st
    ·have HR2 := Lh (HT.out ⟨h1, h2⟩)
     subst h1 h2
     clear HT HZ
     go_wp2_with (go_at_call 68; refine (HK.out _).mono ?_; rintro e w1 ⟨rfl, qh7⟩; have g3 := (N0 ⟨w1, qh7⟩).2.2; dsimp only at g3)
     exact ⟨⟨j + 1, by omega, by go_num, hbel.trans (qh7.mono hbel.size), HR2⟩, by simp [intOf]; omega⟩
    ·have HR2 := Lh (HZ.out fun h => h2 h.2)
     have e2 : (s == st) = false := beq_eq_false_iff_ne.2 h2
     subst h1
     clear HT HZ h2
     go_wp2_with (go_at_call 68; refine (HK.out _).mono ?_; rintro e w1 ⟨rfl, qh7⟩; have g3 := (N0 ⟨w1, qh7⟩).2.2; dsimp only at g3)
     go_ret
     exact ⟨by rw [HR2.out]; rfl, hbel.trans (qh7.mono hbel.size)⟩
   ·have HR2 := Lh (HZ.out fun h => h1 h.1)
    have e1 : ((q : Int) == (k : Int)) = false := beq_eq_false_iff_ne.2 (by omega)
    clear HT HZ h1
    go_wp2_with (go_at_call 68; refine (HK.out _).mono ?_; rintro e w1 ⟨rfl, qh7⟩)
    go_ret
    exact ⟨by rw [HR2.out]; rfl, hbel.trans (qh7.mono hbel.size)⟩
  ·have HR2 : Hid (R = j) := Lh (by rw [HR.out, List.drop_of_length_le (by have := HN.out; omega)]; rfl)
   go_wp2
   go_ret
   exact ⟨by rw [HR2.out]; rfl, hbel⟩
theorem yD (g : Gl) : qv g <= 3 := by
 unfold qv
 split
 ·unfold vV
  (repeat' split) <;> omega
 ·omega
theorem qhF {t : List Gl} {g : Gl} {j : Nat} (h : j < t.length) (h2 : j < 131) (e : t[j] = g) : yO (t.drop j) g (131 - j) = yO (t.drop (j + 1)) g (131 - (j + 1)) + 1 := by
 rw [List.drop_eq_getElem_cons h, show 131 - j = (131 - (j + 1)) + 1 by omega, yO, if_pos e]
theorem qhZ {t : List Gl} {g : Gl} {j : Nat} (h : t.length <= j ∨ 131 <= j ∨ ∃ h : j < t.length, t[j] ≠ g) : yO (t.drop j) g (131 - j) = 0 := by
 rcases h with h | h | ⟨h, e⟩
 ·rw [List.drop_of_length_le h]
  cases 131 - j <;> rfl
 ·rw [show 131 - j = 0 by omega]
  cases t.drop j <;> rfl
 ·rw [List.drop_eq_getElem_cons h]
  cases 131 - j with
  | zero => rfl
  | succ m => rw [yO, if_neg e]
theorem qaF {g : Gl} {t : List Gl} {rep : Int} (h : qv g = 1 ∨ qv g = 3) : qt (g :: t) rep = jT (g :: t) (qv g) g.style := by
 unfold qt
 exact if_pos h
theorem qb1 {g : Gl} {t : List Gl} {rep : Int} (h : qv g = 2) : qt (g :: t) rep = if 1 < jT (g :: t) 2 g.style then jT (g :: t) 2 g.style else 1 + jT t 1 g.style := by
 unfold qt
 simp only
 rw [if_neg (by omega), if_pos h]
theorem qfw {g : Gl} {t : List Gl} {rep : Int} (h : qv g = 0) : qt (g :: t) rep = if 0 < rep /\ rep <= (1 + yO t g 131 : Nat) /\ (qw (qz g.text)).length = 1 then 1 + yO t g 131 else 1 := by
 unfold qt
 simp only
 rw [if_neg (by omega), if_neg (by omega)]
theorem qej {w : World} {B n c : Nat} {b o : Nat} {g : Gl} {t : List Gl} (hn : t.length + 1 = n) (hc : n <= c) (rd : Rd w B 3 (some ⟨b, o, none⟩) n (qn (g :: t))) :
  Rd w B 3 (if c = 1 then some ⟨b, o, none⟩ else some ⟨b, o + 3, none⟩) (n - 1) (qn t) := by
 have h := rd.cut (k := 1) (cap := c) (by omega) hc
 rw [<- qck] at h
 simp only [Option.map_some, vm] at h
 exact h
theorem piece_ (g : Gl) (t : List Gl) (rep : Int) (A : Option Addr) (n c B : Nat) (w : World) (hn : n <= 1000000000) (hc : n <= c) (hcm : c <= maxLen) (hsz : ∀ x ∈ g :: t, x.text.size <= 1000000000) (hv : zP g.text = true) (rd : Rd w B 3 A n (qn (g :: t))) (hB : B <= w.heap.size) :
  Calls prog 51 #[.slice A n c, .int .i64 rep] w (qg (.int .i64 (qt (g :: t) rep : Nat)) w) := by
 have hln := yl rd
 rw [List.length_cons] at hln
 have hcm' : c <= 9223372036854775807 := by unfold maxLen at hcm; omega
 clear hcm
 obtain ⟨b, o, rfl, hbB, c0, c1, c2⟩ := jJ rd (k := 0) (by simp) (by simpa using hln)
 rw [Nat.zero_mul, Nat.add_zero] at c0 c1 c2
 simp only [List.getElem_cons_zero] at c0 c1 c2
 have HK := Lh (qbr g (hsz g (by simp)))
 have HC := Lh (fun k st w' (hw : Below w.heap.size w w') => count_ (g :: t) k st (some ⟨b, o, none⟩) n c B w' hn hsz (rd.keep fun p hp => hw.cell (by omega)) (Nat.le_trans hB hw.size))
 have hk3 := yD g
 have hz := hsz g (by simp)
 have hb : b < w.heap.size := by omega
 by_cases h1 : qv g = 1 ∨ qv g = 3
 ·rw [qaF h1]
  have HC2 := Lh (HC.out (qv g) g.style)
  generalize jT (g :: t) (qv g) g.style = R at *
  clear HC
  generalize qv g = K at *
  obtain ⟨x, wd, st⟩ := g
  dsimp only at *
  clear rd hv hsz
  rcases h1 with rfl | rfl
  ·go_enter func51, ntmps51
   go_upto_region 2 with fail
   refine qc (GlBox w x wd st) (GlBox.new w x wd st _) ?_
   rintro wb hgb
   obtain ⟨d0, d1, d2, hb0, hz0⟩ := id hgb
   go_wp2_with (first
    | (go_at_call 68; refine (HK.out _).mono ?_; rintro e w1 ⟨rfl, qh7⟩; obtain ⟨e0, e1, e2, hb1, hz1⟩ := hgb.on qh7)
    | (go_at_call 69; refine (HC2.out _ hb1).mono ?_; rintro e w2 ⟨rfl, qh8⟩))
   go_ret
   exact ⟨rfl, hb1.trans (qh8.mono (by omega))⟩
  ·go_enter func51, ntmps51
   go_upto_region 2 with fail
   refine qc (GlBox w x wd st) (GlBox.new w x wd st _) ?_
   rintro wb hgb
   obtain ⟨d0, d1, d2, hb0, hz0⟩ := id hgb
   go_wp2_with (first
    | (go_at_call 68; refine (HK.out _).mono ?_; rintro e w1 ⟨rfl, qh7⟩; obtain ⟨e0, e1, e2, hb1, hz1⟩ := hgb.on qh7)
    | (go_at_call 69; refine (HC2.out _ hb1).mono ?_; rintro e w2 ⟨rfl, qh8⟩))
   go_ret
   exact ⟨rfl, hb1.trans (qh8.mono (by omega))⟩
 ·by_cases h2 : qv g = 2
  ·rw [qb1 h2]
   have HC2 := Lh (HC.out 2 g.style)
   have hcl : Hid (∀ w', Below w.heap.size w w' -> Calls prog 69 #[.slice (if c = 1 then some ⟨b, o, none⟩ else some ⟨b, o + 3, none⟩) (n - 1) (c - 1), .int .i64 1, .int .i64 g.style] w' (qg (.int .i64 (jT t 1 g.style : Nat)) w')) := Lh fun w' hw =>
    count_ t 1 g.style _ (n - 1) (c - 1) B w' (by omega) (fun x hx => hsz x (List.mem_cons_of_mem _ hx)) (Rd.keep (qej hln hc rd) fun p hp => hw.cell (by omega)) (Nat.le_trans hB hw.size)
   have HR1 := Lh (qah (g :: t) 2 g.style)
   have HR2 := Lh (qah t 1 g.style)
   have hr1 := HR1.out
   have hr2 := HR2.out
   rw [List.length_cons] at hr1
   rw [h2] at HK
   generalize jT (g :: t) 2 g.style = R at *
   generalize jT t 1 g.style = R2 at *
   clear HC HR1 HR2
   obtain ⟨x, wd, st⟩ := g
   dsimp only at *
   clear rd hv hsz h1 h2 hk3
   by_cases hR : 1 < R
   ·rw [if_pos hR]
    go_enter func51, ntmps51
    go_upto_region 2 with fail
    refine qc (GlBox w x wd st) (GlBox.new w x wd st _) ?_
    rintro wb hgb
    obtain ⟨d0, d1, d2, hb0, hz0⟩ := id hgb
    go_wp2_with (first
     | (go_at_call 68; refine (HK.out _).mono ?_; rintro e w1 ⟨rfl, qh7⟩; obtain ⟨e0, e1, e2, hb1, hz1⟩ := hgb.on qh7)
     | (go_at_call 69; refine (HC2.out _ hb1).mono ?_; rintro e w2 ⟨rfl, qh8⟩))
    go_ret
    exact ⟨rfl, hb1.trans (qh8.mono (by omega))⟩
   ·rw [if_neg hR]
    go_enter func51, ntmps51
    go_upto_region 2 with fail
    refine qc (GlBox w x wd st) (GlBox.new w x wd st _) ?_
    rintro wb hgb
    obtain ⟨d0, d1, d2, hb0, hz0⟩ := id hgb
    go_upto_region 11 with (first
     | (go_at_call 68; refine (HK.out _).mono ?_; rintro e w1 ⟨rfl, qh7⟩; have hg1 := hgb.on qh7; obtain ⟨e0, e1, e2, hb1, hz1⟩ := id hg1)
     | (go_at_call 69; refine (HC2.out _ hb1).mono ?_; rintro e w2 ⟨rfl, qh8⟩; have hg2 := hg1.on qh8; obtain ⟨f0, f1, f2, hb2, hz2⟩ := id hg2))
    have N2 : ∀ y : Near w2.heap.size w2, y.w.cell? ⟨w.heap.size, 2, none⟩ = some (.int .i64 st) := fun y => (y.h.cell (by show w.heap.size < _; omega)).trans f2
    have hzz := Nat.le_refl w2.heap.size
    clear f2 hg1 hg2 hgb d2 e2 c0 c1 c2 d0 d1 e0 e1 f0 f1
    by_cases hc1 : c = 1
    ·obtain rfl : n = 1 := by omega
     subst hc1
     simp only [if_true] at hcl
     refine qi w2.heap.size (by kernel_rfl) (by kernel_rfl) ?_; (repeat (go_big_quiet_step ((go_at_call 69; exact Calls.near _ hzz (hcl.out _ (hb2.trans (Below.mono (Near.h _) (by omega)))))))); refine wpQuiet_nil ?_; intro _ hw'; obtain ⟨x1, hw''⟩ := hw'; subst hw''
     go_wp2
     go_ret
     exact ⟨by go_num, hb2.trans (x1.h.mono (by omega))⟩
    ·rw [if_neg hc1] at hcl
     refine qi w2.heap.size (by kernel_rfl) (by kernel_rfl) ?_; (repeat (go_big_quiet_step ((go_at_call 69; exact Calls.near _ hzz (hcl.out _ (hb2.trans (Below.mono (Near.h _) (by omega)))))))); refine wpQuiet_nil ?_; intro _ hw'; obtain ⟨x1, hw''⟩ := hw'; subst hw''
     go_wp2
     go_ret
     exact ⟨by go_num, hb2.trans (x1.h.mono (by omega))⟩
  ·have h3 : qv g = 0 := by omega
   rw [qfw h3]
   have HCh := Lh (fun w => qbq g.text hz w hv)
   rw [h3] at HK
   generalize hL : qw (qz g.text) = L at *
   clear hL
   have HE : Hid (∀ j (h : j < t.length), j < 131 -> t[j] = g -> yO (t.drop j) g (131 - j) = yO (t.drop (j + 1)) g (131 - (j + 1)) + 1) := Lh fun j h h2 e => qhF h h2 e
   have HS : Hid (∀ j, (t.length <= j ∨ 131 <= j ∨ ∃ h : j < t.length, t[j] ≠ g) -> yO (t.drop j) g (131 - j) = 0) := Lh fun j h => qhZ h
   generalize hM : yO t g 131 = M at *
   have HM0 : Hid (M = 0 + yO (t.drop 0) g (131 - 0)) := Lh (by rw [<- hM, Nat.zero_add]; rfl)
   have HQ : Hid (∀ (j : Nat) (h : j < t.length) w, (binOp .eql 31 (glV t[j]) (glV g)).run prog w = .ok (.bool (decide (t[j] = g))) w) := Lh fun j h w => eq_gl _ _ w
   have HGd : Hid (∀ (j : Nat) (h : j < t.length) x y w, (eqGuard .eql 31 x y (glV t[j]) (glV g)).run prog w = .ok () w) := Lh fun j h x y w => qeN _ _ _ _ _ w
   have qio : Hid (∀ (j : Nat) (h : j < t.length) (w' : World), Below w.heap.size w w' -> (w'.cell? ⟨b, (o + (j + 1) * 3), none⟩ = some (.string t[j].text) /\ w'.cell? ⟨b, (o + (j + 1) * 3) + 1, none⟩ = some (.bool t[j].wide) /\ w'.cell? ⟨b, (o + (j + 1) * 3) + 2, none⟩ = some (.int .i64 t[j].style))) := Lh fun j h w' hw => by
    obtain ⟨b2, o2, e, _, q0, q1, q2⟩ := jJ (rd.keep (w' := w') fun p hp => hw.cell (by omega)) (k := j + 1) (by simp; omega) (by simpa using hln)
    injection e with e
    injection e with e1 e2
    subst e1 e2
    rw [List.getElem_cons_succ] at q0 q1 q2
    exact ⟨q0, q1, q2⟩
   obtain ⟨RES, qih⟩ : ∃ x : Nat, x = if 0 < rep /\ rep <= (1 + M : Nat) /\ L.length = 1 then 1 + M else 1 := ⟨_, rfl⟩
   rw [<- qih]
   have qiv := Lh qih
   clear hM rd hv hsz h1 h2 hk3 h3 HC qih
   obtain ⟨x, wd, st⟩ := g
   dsimp only at *
   go_enter func51, ntmps51
   go_upto_region 2 with fail
   refine qc (GlBox w x wd st) (GlBox.new w x wd st _) ?_
   rintro wb hgb
   obtain ⟨d0, d1, d2, hb0, hz0⟩ := id hgb
   go_wp2_with (go_at_call 68; refine (HK.out _).mono ?_; rintro e w1 ⟨rfl, qh7⟩; have hg1 := hgb.on qh7)
   clear c0 c1 c2 d0 d1 d2 hgb hb0 hz0
   go_loopw [8] (fun v wr => ∃ j i : Nat, j <= t.length /\ j <= 131 /\ v = .int .i64 ((j : Int) + 1) /\ wr = w1.drewN i /\ Hid (M = j + yO (t.drop j) ⟨x, wd, st⟩ (131 - j))) (fun v _ => 133 - (intOf v).toNat)
   case atStart => exact ⟨0, 0, Nat.zero_le _, by omega, rfl, rfl, HM0⟩
   case round =>
    obtain ⟨j, i, hj, hj2, rfl, rfl, HR⟩ := hrel
    obtain ⟨e0, e1, e2, hb1, hz1⟩ := id hg1
    by_cases hlt : j < t.length
    ·by_cases hlt2 : j < 131
     ·have dd1 : decide ((j : Int) + 1 < (n : Int)) = true := decide_eq_true (by omega)
      have dd2 : decide ((j : Int) + 1 < 132) = true := decide_eq_true (by omega)
      have hq := HQ.out j hlt
      have hgd := HGd.out j hlt
      obtain ⟨q0, q1, q2⟩ := qio.out j hlt w1 hb1
      by_cases he : t[j] = ⟨x, wd, st⟩
      ·have HR2 : Hid (M = (j + 1) + yO (t.drop (j + 1)) ⟨x, wd, st⟩ (131 - (j + 1))) := Lh (by rw [HR.out, HE.out j hlt hlt2 he]; omega)
       rw [decide_eq_true he] at hq
       clear he
       generalize t[j] = y at *
       go_wp2
       go_quiet (fail)
       go_wp2
       exact ⟨⟨j + 1, _, by omega, by omega, by go_num, rfl, HR2⟩, by simp [intOf]; omega⟩
      ·rw [decide_eq_false he] at hq
       have HR2 : Hid (M = j) := Lh (by rw [HR.out, HS.out j (.inr (.inr ⟨hlt, he⟩))]; rfl)
       clear HE HS HQ HGd qio HR HM0
       (clear he; generalize t[j] = y at *)
       by_cases r1 : 0 < rep
       ·by_cases r2 : rep <= (j : Int) + 1
        ·by_cases r3 : L.length = 1
         ·have HX : Hid (RES = j + 1) := Lh (by rw [qiv.out, HR2.out, if_pos ⟨r1, by omega, r3⟩]; omega)
          have r3' : ((L.length : Int) == 1) = true := beq_iff_eq.2 (by omega)
          go_wp2
          go_quiet (fail)
          go_wp2_with (go_at_call 70; refine (HCh.out _).mono ?_; rintro e w2 ⟨A2, c2, rfl, _, qh8⟩)
          go_ret
          exact ⟨by rw [HX.out]; go_num, (qb hb1).trans (qh8.mono (by simp; omega))⟩
         ·have HX : Hid (RES = 1) := Lh (by rw [qiv.out, if_neg (fun h => r3 h.2.2)])
          have r3' : ((L.length : Int) == 1) = false := beq_eq_false_iff_ne.2 (by omega)
          go_wp2
          go_quiet (fail)
          go_wp2_with (go_at_call 70; refine (HCh.out _).mono ?_; rintro e w2 ⟨A2, c2, rfl, _, qh8⟩)
          go_ret
          exact ⟨by rw [HX.out]; rfl, (qb hb1).trans (qh8.mono (by simp; omega))⟩
        ·have HX : Hid (RES = 1) := Lh (by rw [qiv.out, HR2.out, if_neg (fun h => r2 (by have := h.2.1; omega))])
         go_wp2
         go_quiet (fail)
         go_wp2
         go_ret
         exact ⟨by rw [HX.out]; rfl, qb hb1⟩
       ·have HX : Hid (RES = 1) := Lh (by rw [qiv.out, if_neg (fun h => r1 h.1)])
        go_wp2
        go_quiet (fail)
        go_wp2
        go_ret
        exact ⟨by rw [HX.out]; rfl, qb hb1⟩
     ·have dd1 : decide ((j : Int) + 1 < (n : Int)) = true := decide_eq_true (by omega)
      have dd2 : decide ((j : Int) + 1 < 132) = false := decide_eq_false (by omega)
      have HR2 : Hid (M = j) := Lh (by rw [HR.out, HS.out j (.inr (.inl (by omega)))]; rfl)
      clear HE HS HQ HGd qio HR HM0
      skip
      by_cases r1 : 0 < rep
      ·by_cases r2 : rep <= (j : Int) + 1
       ·by_cases r3 : L.length = 1
        ·have HX : Hid (RES = j + 1) := Lh (by rw [qiv.out, HR2.out, if_pos ⟨r1, by omega, r3⟩]; omega)
         have r3' : ((L.length : Int) == 1) = true := beq_iff_eq.2 (by omega)
         go_wp2
         go_quiet (fail)
         go_wp2_with (go_at_call 70; refine (HCh.out _).mono ?_; rintro e w2 ⟨A2, c2, rfl, _, qh8⟩)
         go_ret
         exact ⟨by rw [HX.out]; go_num, (qb hb1).trans (qh8.mono (by simp; omega))⟩
        ·have HX : Hid (RES = 1) := Lh (by rw [qiv.out, if_neg (fun h => r3 h.2.2)])
         have r3' : ((L.length : Int) == 1) = false := beq_eq_false_iff_ne.2 (by omega)
         go_wp2
         go_quiet (fail)
         go_wp2_with (go_at_call 70; refine (HCh.out _).mono ?_; rintro e w2 ⟨A2, c2, rfl, _, qh8⟩)
         go_ret
         exact ⟨by rw [HX.out]; rfl, (qb hb1).trans (qh8.mono (by simp; omega))⟩
       ·have HX : Hid (RES = 1) := Lh (by rw [qiv.out, HR2.out, if_neg (fun h => r2 (by have := h.2.1; omega))])
        go_wp2
        go_quiet (fail)
        go_wp2
        go_ret
        exact ⟨by rw [HX.out]; rfl, qb hb1⟩
      ·have HX : Hid (RES = 1) := Lh (by rw [qiv.out, if_neg (fun h => r1 h.1)])
       go_wp2
       go_quiet (fail)
       go_wp2
       go_ret
       exact ⟨by rw [HX.out]; rfl, qb hb1⟩
    ·have dd1 : decide ((j : Int) + 1 < (n : Int)) = false := decide_eq_false (by omega)
     have HR2 : Hid (M = j) := Lh (by rw [HR.out, HS.out j (.inl (by omega))]; rfl)
     clear HE HS HQ HGd qio HR HM0
     skip
     by_cases r1 : 0 < rep
     ·by_cases r2 : rep <= (j : Int) + 1
      ·by_cases r3 : L.length = 1
       ·have HX : Hid (RES = j + 1) := Lh (by rw [qiv.out, HR2.out, if_pos ⟨r1, by omega, r3⟩]; omega)
        have r3' : ((L.length : Int) == 1) = true := beq_iff_eq.2 (by omega)
        go_wp2
        go_quiet (fail)
        go_wp2_with (go_at_call 70; refine (HCh.out _).mono ?_; rintro e w2 ⟨A2, c2, rfl, _, qh8⟩)
        go_ret
        exact ⟨by rw [HX.out]; go_num, (qb hb1).trans (qh8.mono (by simp; omega))⟩
       ·have HX : Hid (RES = 1) := Lh (by rw [qiv.out, if_neg (fun h => r3 h.2.2)])
        have r3' : ((L.length : Int) == 1) = false := beq_eq_false_iff_ne.2 (by omega)
        go_wp2
        go_quiet (fail)
        go_wp2_with (go_at_call 70; refine (HCh.out _).mono ?_; rintro e w2 ⟨A2, c2, rfl, _, qh8⟩)
        go_ret
        exact ⟨by rw [HX.out]; rfl, (qb hb1).trans (qh8.mono (by simp; omega))⟩
      ·have HX : Hid (RES = 1) := Lh (by rw [qiv.out, HR2.out, if_neg (fun h => r2 (by have := h.2.1; omega))])
       go_wp2
       go_quiet (fail)
       go_wp2
       go_ret
       exact ⟨by rw [HX.out]; rfl, qb hb1⟩
     ·have HX : Hid (RES = 1) := Lh (by rw [qiv.out, if_neg (fun h => r1 h.1)])
      go_wp2
      go_quiet (fail)
      go_wp2
      go_ret
      exact ⟨by rw [HX.out]; rfl, qb hb1⟩
def yh (l : List Gl) : ByteArray := ⟨(l.flatMap fun g => g.text.data.toList).toArray⟩
theorem txt_snoc (l : List Gl) (g : Gl) : yh (l ++ [g]) = yh l ++ g.text := by
 unfold yh
 apply ByteArray.ext
 rw [ByteArray.data_append]
 apply Array.toList_inj.1
 simp
theorem qeB {l : List Gl} {j : Nat} (h : j < l.length) : yh (l.take (j + 1)) = yh (l.take j) ++ l[j].text := by
 have e : l.take (j + 1) = l.take j ++ [l[j]] := (List.take_append_getElem h).symm
 rw [e, txt_snoc]
theorem qeu (l : List Gl) (m : Nat) (h : ∀ g ∈ l, g.text.size <= m) : (yh l).size <= m * l.length := by
 show (List.toArray _).size <= _
 rw [List.size_toArray]
 induction l with
 | nil => simp
 | cons g t ih =>
  have h1 := h g (by simp)
  have h2 := ih (fun x hx => h x (by simp [hx]))
  simp only [List.flatMap_cons, List.length_append, List.length_cons]
  have h3 : g.text.data.toList.length = g.text.size := by simp
  rw [h3]
  have : m * (t.length + 1) = m * t.length + m := by rw [Nat.mul_add, Nat.mul_one]
  omega
theorem y9 {g : Gl} (h : qv g ≠ 0) : g.text.data.toList = [jo g] /\ qv g = vV (jo g).toNat := by
 unfold qv jo at *
 split at h
 ·rename_i c hc
  rw [hc]
  exact ⟨rfl, rfl⟩
 ·exact absurd rfl h
theorem qdp {l : List Gl} (h : ∀ g ∈ l, qv g ≠ 0) : (yh l).data.toList = l.map jo := by
 unfold yh
 simp only
 induction l with
 | nil => rfl
 | cons g t ih =>
  have h1 := (y9 (h g (by simp))).1
  simp only [List.flatMap_cons, List.map_cons]
  rw [h1, ih (fun x hx => h x (by simp [hx]))]
  rfl
theorem qfo {l : List Gl} (h : ∀ g ∈ l, qv g ≠ 0) (spell : Bool) : yG l spell = kf (l.map jo) spell := by
 have e1 : (l.filter fun g => qv g == 2).length = yq (l.map jo) := by
  unfold yq
  rw [List.filter_map, List.length_map]
  congr 1
  apply List.filter_congr
  intro g hg
  rw [(y9 (h g hg)).2]
  rfl
 have e2 : lowL l = (l.map jo).map yX := by
  unfold lowL
  rw [List.map_map]
  rfl
 unfold yG kf qa1
 rw [e1, e2]
theorem qak (l : List Gl) (dig : Bool) : qbK l dig = jt (l.map jo) dig := by
 have e1 : digL l = zi (l.map jo) := by
  unfold digL zi
  rw [List.map_map]
  rfl
 unfold qbK jt vN
 rw [e1, List.length_map]
structure PieceOK (l : List Gl) : Prop where
 n : l.length <= 1000
 sz : ∀ g ∈ l, g.text.size <= 1000
 ltr : ∀ g t, l = g :: t -> qv g = 1 ∨ qv g = 2 -> ∀ x ∈ l, qv x = 1 ∨ qv x = 2
 dig : ∀ g t, l = g :: t -> qv g = 3 -> ∀ x ∈ l, qv x = 3
 oth : ∀ g t, l = g :: t -> qv g = 0 -> zP g.text = true
theorem yR {g : Gl} {t : List Gl} {sp d : Bool} (h : qv g = 1 ∨ qv g = 2) : qJ (g :: t) sp d = yG (g :: t) sp := if_pos h
theorem yU {g : Gl} {t : List Gl} {sp d : Bool} (h : qv g = 3) : qJ (g :: t) sp d = qbK (g :: t) d := by
 unfold qJ
 simp only
 rw [if_neg (by omega), if_pos h]
theorem yS {g : Gl} {sp d : Bool} (h : qv g = 0) : qJ [g] sp d = vH g := by
 unfold qJ
 simp only
 rw [if_neg (by omega), if_neg (by omega), if_pos trivial]
theorem yx {g : Gl} {t : List Gl} {sp d : Bool} (h : qv g = 0) (ht : t ≠ []) : qJ (g :: t) sp d = jm (t.length + 1) ++ [bTimes] ++ vH g := by
 unfold qJ
 simp only
 rw [if_neg (by omega), if_neg (by omega), if_neg ht]
theorem kS {g : Gl} : (vH g).length <= 1 + 16 * (qw (qz g.text)).length := by
 by_cases h : g.text.data.toList = [32]
 ·rw [kw h]; simp
 ·rw [yV h]
  have := qcr (qw (qz g.text))
  omega
theorem cat3 {W0 : World} {m : Nat} (hm : W0.heap.size = m) {A6 A7 AT : Option Addr} {c6 c7 : Nat} {NW SG : List ByteArray} {x : ByteArray} (r6 : Rd W0 W0.heap.size 1 A6 NW.length (sv NW)) (rT : Rd W0 W0.heap.size 1 AT 1 (sv [x]))
  (r7 : Rd W0 W0.heap.size 1 A7 SG.length (sv SG)) (hl : NW.length + 1 + SG.length <= 1000000000) {RS : List ByteArray} (hR : RS = NW ++ [x] ++ SG) :
  Calls prog 99 #[.slice (some ⟨m, 0, none⟩) 3 3] (W0.alloc (.cells #[.slice A6 NW.length c6, .slice AT 1 1, .slice A7 SG.length c7] 22)) (ql 9 1 id (W0.alloc (.cells #[.slice A6 NW.length c6, .slice AT 1 1, .slice A7 SG.length c7] 22)) RS.length (sv RS)) := by
 subst hm hR
 have hb : Below W0.heap.size W0 (W0.alloc (.cells #[.slice A6 NW.length c6, .slice AT 1 1, .slice A7 SG.length c7] 22)) := (Below.refl _ _).alloc (Nat.le_refl _) _
 have h := qgq [(A6, c6, NW), (AT, 1, [x]), (A7, c7, SG)] (some ⟨W0.heap.size, 0, none⟩) 3 3 ((W0.alloc (.cells #[.slice A6 NW.length c6, .slice AT 1 1, .slice A7 SG.length c7] 22))).heap.size (W0.alloc (.cells #[.slice A6 NW.length c6, .slice AT 1 1, .slice A7 SG.length c7] 22)) rfl (by omega) (Nat.le_refl _) (by
  show (NW ++ ([x] ++ (SG ++ []))).length <= _
  simp
  omega) (Rd.more (qe (xs := [.slice A6 NW.length c6, .slice AT 1 1, .slice A7 SG.length c7]) rfl rfl) (by simp)) (fun y hy => by
   simp only [List.mem_cons, List.not_mem_nil, or_false] at hy
   rcases hy with rfl | rfl | rfl
   ·exact Rd.more (r6.below hb) (by simp)
   ·exact Rd.more (rT.below hb) (by simp)
   ·exact Rd.more (r7.below hb) (by simp))
 have e : jz [(A6, c6, NW), (AT, 1, [x]), (A7, c7, SG)] = NW ++ [x] ++ SG := by simp [jz]
 rw [e] at h
 exact h
theorem qc8 {w w' : World} {size n : Nat} {A : Option Addr} {xs : List Value} (h : Rd w w.heap.size size A n xs) (hb : Below w.heap.size w w') : Rd w' w'.heap.size size A n xs := Rd.more (h.below hb) hb.size
theorem rd_al {w : World} {size n : Nat} {A : Option Addr} {xs : List Value} (h : Rd w w.heap.size size A n xs) (o : Obj) : Rd (w.alloc o) (w.alloc o).heap.size size A n xs := qc8 h ((Below.refl _ _).alloc (Nat.le_refl _) _)
theorem qfb {w : World} {v : Value} {e : TypeId} : Rd (w.alloc (.cells #[v] e)) (w.alloc (.cells #[v] e)).heap.size 1 (some ⟨w.heap.size, 0, none⟩) 1 [v] := Rd.more (qe (xs := [v]) rfl rfl) (by simp)
end Go.Proofs.YtlndbiamiioakaaGreatDoor
