/- Joined: Sk1, Sk2, Sk3, Sy0. -/
import Derived.Test.YtlndbiamiioakaaGreatDoorVAQ
set_option linter.unusedVariables false
set_option linter.unusedSimpArgs false
set_option linter.unnecessarySimpa false
set_option maxHeartbeats 8000000
namespace Go.Proofs.YtlndbiamiioakaaGreatDoor
open Go.Proofs.Tryz Go.RowKit
set_option maxRecDepth 20000
def jd (r : Int) (d sp : Bool) (p : Int) (con : Bool) (k : Int) (nb : Nat) (v : Value) (st : Int) (bef : Nat) (sil : Bool) : Array Value :=
 #[.int .i64 r, .bool d, .bool sp, .int .i64 p, .bool con, .int .i64 k, .map (some nb), v, .int .i64 st, .int .i64 bef, .bool sil]
theorem qaZ {wb : World} {g : Nat} {t : TypeId} {cs : Array Value} (h : Blk wb g t cs) (i : Nat) {v : Value} (hv : cs[i]? = some v) : ∀ x : Near wb.heap.size wb, x.w.cell? ⟨g, i, none⟩ = some v := fun x => (x.h.cell (show g < wb.heap.size from h.lt)).trans ((h.cell i).trans hv)
def kI (bef : Nat) (st : Int) (n : Int) (a : Gl) (b : Option Gl) : Bool := decide (n = 1) && decide (a.text.data.toList = [32]) && decide (bef ≠ 0) && decide (a.style = st) && (match b with
 | none => false
 | some b => decide (qv b ≠ 0) && decide (b.style = st))
theorem skips_no (a : Gl) (l' : List Gl) (n : Nat) (A : Option Addr) (m c g B : Nat) (r : Int) (d sp : Bool) (p : Int) (con : Bool) (k : Int) (nb : Nat) (v : Value) (st : Int) (bef : Nat) (sil : Bool) (w : World)
  (hm : m <= 1000) (hsz : ∀ x ∈ a :: l', x.text.size <= 1000) (rd : Rd w B 3 A m (qn (a :: l'))) (hB : B <= w.heap.size) (hblk : Blk w g 88 (jd r d sp p con k nb v st bef sil)) (h7 : kI bef st n a l'.head? = false) :
  Calls prog 52 #[.pointer (some ⟨g, 0, none⟩), .slice A m c, .int .i64 n] w (qg (.bool false) w) := by
 have hln := yl rd
 obtain ⟨b, o, rfl, hbB, a0, a1, a2⟩ := jJ rd (k := 0) (by simp) hln
 rw [Nat.zero_mul, Nat.add_zero] at a0 a1 a2
 simp only [List.getElem_cons_zero] at a0 a1 a2
 have hbl : b < w.heap.size := by omega
 have hzz := Nat.le_refl w.heap.size
 have S8 := qaZ hblk 8 (v := .int .i64 st) rfl
 have S9 := qaZ hblk 9 (v := .int .i64 bef) rfl
 have NA0 : ∀ x : Near w.heap.size w, x.w.cell? ⟨b, o, none⟩ = some (.string a.text) := fun x => (x.h.cell (show b < w.heap.size from hbl)).trans a0
 have NA2 : ∀ x : Near w.heap.size w, x.w.cell? ⟨b, o + 2, none⟩ = some (.int .i64 a.style) := fun x => (x.h.cell (show b < w.heap.size from hbl)).trans a2
 have hm0 : 0 < m := by rw [List.length_cons] at hln; omega
 have hq := qcy a.text 32
 have HKb : Hid (∀ w, Calls prog 68 #[glV a] w (qg (.int .i64 (qv a : Int)) w)) := Lh (qbr a (by have := hsz a (by simp); omega))
 unfold kI at h7
 obtain ⟨t, wd, s⟩ := a
 dsimp only at *
 clear a0 a1 a2
 by_cases h1 : n = 1
 ·subst h1
  by_cases h2 : t.data.toList = [32]
  ·rw [decide_eq_true h2] at hq h7
   by_cases h3 : bef = 0
   ·have e3 : ((bef : Int) == 0) = true := beq_iff_eq.2 (by omega)
    clear h2 h7 rd
    go_enter func52, ntmps52
    go_upto_region 1 with fail
    refine qi w.heap.size (by kernel_rfl) (by kernel_rfl) ?_; (repeat (go_big_quiet_step ((go_at_call 68; exact Calls.near _ hzz (HKb.out _))))); refine wpQuiet_nil ?_; intro _ hw'; obtain ⟨x1, hw''⟩ := hw'; subst hw''
    go_wp2
    go_ret
    exact ⟨rfl, x1.h⟩
   ·have e3 : ((bef : Int) == 0) = false := beq_eq_false_iff_ne.2 (by omega)
    by_cases h4 : s = st
    ·subst h4
     cases l' with
     | nil =>
      have hm1 : m = 1 := by simpa using hln.symm
      have dd : decide ((m : Int) < 2) = true := decide_eq_true (by omega)
      clear h2 h7 rd h3
      go_enter func52, ntmps52
      go_upto_region 1 with fail
      refine qi w.heap.size (by kernel_rfl) (by kernel_rfl) ?_; (repeat (go_big_quiet_step ((go_at_call 68; exact Calls.near _ hzz (HKb.out _))))); refine wpQuiet_nil ?_; intro _ hw'; obtain ⟨x1, hw''⟩ := hw'; subst hw''
      go_wp2
      go_ret
      exact ⟨rfl, x1.h⟩
     | cons b' t' =>
      obtain ⟨b2, o2, ee, _, q0, q1, q2⟩ := jJ rd (k := 1) (by simp) hln
      injection ee with ee
      injection ee with ee1 ee2
      subst ee1 ee2
      rw [Nat.one_mul] at q0 q1 q2
      simp only [List.getElem_cons_succ, List.getElem_cons_zero, Nat.add_assoc, Nat.reduceAdd] at q0 q1 q2
      have NB0 : ∀ x : Near w.heap.size w, x.w.cell? ⟨b, o + 3, none⟩ = some (.string b'.text) := fun x => (x.h.cell (show b < w.heap.size from hbl)).trans q0
      have NB1 : ∀ x : Near w.heap.size w, x.w.cell? ⟨b, o + 4, none⟩ = some (.bool b'.wide) := fun x => (x.h.cell (show b < w.heap.size from hbl)).trans q1
      have NB2 : ∀ x : Near w.heap.size w, x.w.cell? ⟨b, o + 5, none⟩ = some (.int .i64 b'.style) := fun x => (x.h.cell (show b < w.heap.size from hbl)).trans q2
      have hm2 : 2 <= m := by simp at hln; omega
      have dd : decide ((m : Int) < 2) = false := decide_eq_false (by omega)
      have HKb : Hid (∀ w, Calls prog 68 #[glV b'] w (qg (.int .i64 (qv b' : Int)) w)) := Lh (qbr b' (by have := hsz b' (by simp); omega))
      simp only [List.head?_cons] at h7
      obtain ⟨t2, wd2, s2⟩ := b'
      dsimp only at *
      clear q0 q1 q2
      generalize qv ⟨t2, wd2, s2⟩ = K at *
      by_cases h5 : K = 0
      ·have e5 : ((K : Int) == 0) = true := beq_iff_eq.2 (by omega)
       clear h2 h7 rd h3 h5 hsz
       go_enter func52, ntmps52
       go_upto_region 1 with fail
       refine qi w.heap.size (by kernel_rfl) (by kernel_rfl) ?_; (repeat (go_big_quiet_step ((go_at_call 68; exact Calls.near _ hzz (HKb.out _))))); refine wpQuiet_nil ?_; intro _ hw'; obtain ⟨x1, hw''⟩ := hw'; subst hw''
       go_wp2
       go_ret
       exact ⟨rfl, x1.h⟩
      ·have e5 : ((K : Int) == 0) = false := beq_eq_false_iff_ne.2 (by omega)
       by_cases h6 : s2 = s
       ·exact absurd h7 (by simp [h3, h5, h6])
       ·have e6 : (s2 != s) = true := bne_iff_ne.2 h6
        clear h2 h7 rd h3 h5 h6 hsz
        go_enter func52, ntmps52
        go_upto_region 1 with fail
        refine qi w.heap.size (by kernel_rfl) (by kernel_rfl) ?_; (repeat (go_big_quiet_step ((go_at_call 68; exact Calls.near _ hzz (HKb.out _))))); refine wpQuiet_nil ?_; intro _ hw'; obtain ⟨x1, hw''⟩ := hw'; subst hw''
        go_wp2
        go_ret
        exact ⟨rfl, x1.h⟩
    ·have e4 : (s != st) = true := bne_iff_ne.2 h4
     clear h2 h7 rd h4
     go_enter func52, ntmps52
     go_upto_region 1 with fail
     refine qi w.heap.size (by kernel_rfl) (by kernel_rfl) ?_; (repeat (go_big_quiet_step ((go_at_call 68; exact Calls.near _ hzz (HKb.out _))))); refine wpQuiet_nil ?_; intro _ hw'; obtain ⟨x1, hw''⟩ := hw'; subst hw''
     go_wp2
     go_ret
     exact ⟨rfl, x1.h⟩
  ·rw [decide_eq_false h2] at hq
   clear h2 h7 rd
   go_enter func52, ntmps52
   go_upto_region 1 with fail
   refine qi w.heap.size (by kernel_rfl) (by kernel_rfl) ?_; (repeat (go_big_quiet_step ((go_at_call 68; exact Calls.near _ hzz (HKb.out _))))); refine wpQuiet_nil ?_; intro _ hw'; obtain ⟨x1, hw''⟩ := hw'; subst hw''
   go_wp2
   go_ret
   exact ⟨rfl, x1.h⟩
 ·have e1 : ((n : Int) != 1) = true := bne_iff_ne.2 (by omega)
  clear hq h7 rd h1
  go_enter func52, ntmps52
  go_upto_region 1 with fail
  refine qi w.heap.size (by kernel_rfl) (by kernel_rfl) ?_; (repeat (go_big_quiet_step ((go_at_call 68; exact Calls.near _ hzz (HKb.out _))))); refine wpQuiet_nil ?_; intro _ hw'; obtain ⟨x1, hw''⟩ := hw'; subst hw''
  go_wp2
  go_ret
  exact ⟨rfl, x1.h⟩
end Go.Proofs.YtlndbiamiioakaaGreatDoor
namespace Go.Proofs.YtlndbiamiioakaaGreatDoor
open Go.Proofs.Tryz Go.RowKit
set_option maxRecDepth 20000
theorem qgT (a b' : Gl) (t' : List Gl) (A : Option Addr) (m c g B : Nat) (r : Int) (d sp : Bool) (p : Int) (con : Bool) (k : Int) (nb : Nat) (v : Value) (st : Int) (bef : Nat) (sil : Bool) (w : World) (hs : Sp w) (hset : SetM w nb 32 ze)
  (hm : m <= 1000) (hcm : m <= c) (hcx : c <= maxLen) (hok : ∀ x ∈ a :: b' :: t', GOK x) (rd : Rd w B 3 A m (qn (a :: b' :: t'))) (hB : B <= w.heap.size) (hblk : Blk w g 88 (jd r d sp p con k nb v st bef sil)) (h7 : kI bef st 1 a (some b') = true) :
  Calls prog 52 #[.pointer (some ⟨g, 0, none⟩), .slice A m c, .int .i64 1] w (qg (.bool (decide (bef ≠ 3) || !(ze ((qJ ((b' :: t').take (qt (b' :: t') p)) sp d).headD ⟨#[]⟩)))) w) := by
 have hln := yl rd
 obtain ⟨b, o, rfl, hbB, a0, a1, a2⟩ := jJ rd (k := 0) (by simp) hln
 rw [Nat.zero_mul, Nat.add_zero] at a0 a1 a2
 simp only [List.getElem_cons_zero] at a0 a1 a2
 have hbl : b < w.heap.size := by omega
 have hgl := hblk.lt
 have hzz := Nat.le_refl w.heap.size
 have S8 := qaZ hblk 8 (v := .int .i64 st) rfl
 have S9 := qaZ hblk 9 (v := .int .i64 bef) rfl
 have NA0 : ∀ x : Near w.heap.size w, x.w.cell? ⟨b, o, none⟩ = some (.string a.text) := fun x => (x.h.cell (show b < w.heap.size from hbl)).trans a0
 have NA2 : ∀ x : Near w.heap.size w, x.w.cell? ⟨b, o + 2, none⟩ = some (.int .i64 a.style) := fun x => (x.h.cell (show b < w.heap.size from hbl)).trans a2
 obtain ⟨b2, o2, ee, _, q0, q1, q2⟩ := jJ rd (k := 1) (by simp) hln
 injection ee with ee
 injection ee with ee1 ee2
 subst ee1 ee2
 rw [Nat.one_mul] at q0 q1 q2
 simp only [List.getElem_cons_succ, List.getElem_cons_zero, Nat.add_assoc, Nat.reduceAdd] at q0 q1 q2
 have NB0 : ∀ x : Near w.heap.size w, x.w.cell? ⟨b, o + 3, none⟩ = some (.string b'.text) := fun x => (x.h.cell (show b < w.heap.size from hbl)).trans q0
 have NB1 : ∀ x : Near w.heap.size w, x.w.cell? ⟨b, o + 4, none⟩ = some (.bool b'.wide) := fun x => (x.h.cell (show b < w.heap.size from hbl)).trans q1
 have NB2 : ∀ x : Near w.heap.size w, x.w.cell? ⟨b, o + 5, none⟩ = some (.int .i64 b'.style) := fun x => (x.h.cell (show b < w.heap.size from hbl)).trans q2
 have hm2 : 2 <= m := by simp at hln; omega
 have hokb := hok b' (by simp)
 have hokt : ∀ x ∈ b' :: t', GOK x := fun x hx => hok x (List.mem_cons_of_mem _ hx)
 have HKb : Hid (∀ w, Calls prog 68 #[glV b'] w (qg (.int .i64 (qv b' : Int)) w)) := Lh (qbr b' (by have := hokb.2; omega))
 have hq := qcy a.text 32
 have hx63 : c <= 9223372036854775807 := by unfold maxLen at hcx; omega
 have hlt : (b' :: t').length = m - 1 := by simp at hln ⊢; omega
 have hc1 : ¬ c = 1 := by omega
 have rdT : Rd w B 3 (some ⟨b, o + 3, none⟩) (m - 1) (qn (b' :: t')) := by
  have h := qej (t := b' :: t') (by rw [hlt]; omega) hcm rd
  rw [if_neg hc1] at h
  exact h
 have hpc := jv (g := b') (t := t') p
 have hPo := qca (l := b' :: t') rfl (by omega) hokt p
 have HPc : Hid (∀ w', Below w.heap.size w w' -> Calls prog 51 #[.slice (some ⟨b, o + 3, none⟩) (m - 1) (c - 1), .int .i64 p] w' (qg (.int .i64 (qt (b' :: t') p : Nat)) w')) := Lh fun w' hw =>
  piece_ b' t' p _ (m - 1) (c - 1) B w' (by omega) (by omega) (by unfold maxLen at *; omega) (fun x hx => by have := (hokt x hx).2; omega) hokb.valid (rdT.keep fun p hp => hw.cell (by omega)) (Nat.le_trans hB hw.size)
 obtain ⟨P, hP⟩ : ∃ P, P = (b' :: t').take (qt (b' :: t') p) := ⟨_, rfl⟩
 have hPl : P = b' :: t'.take (qt (b' :: t') p - 1) := by
  rw [hP]
  obtain ⟨q, hq⟩ : ∃ q, qt (b' :: t') p = q + 1 := ⟨qt (b' :: t') p - 1, by omega⟩
  rw [hq, List.take_succ_cons, Nat.add_sub_cancel]
 have hPn : P.length = qt (b' :: t') p := by rw [hP, List.length_take, hlt]; simp at hlt; omega
 have HSp : Hid (∀ w' c', Below w.heap.size w w' -> Calls prog 71 #[.slice (some ⟨b, o + 3, none⟩) (qt (b' :: t') p) c', stV r d sp p con k] w' (ql 9 1 id w' (qJ P sp d).length (sv (qJ P sp d)))) := Lh fun w' c' hw => by
  have hr : Rd w' B 3 (some ⟨b, o + 3, none⟩) (qt (b' :: t') p) (qn P) := by
   have h := (rdT.keep (w' := w') fun p hp => hw.cell (by omega)).take (k := qt (b' :: t') p) (by simp at hlt; omega)
   rw [hP, qb6]
   exact h
  exact qf5 P b' _ hPl (hP ▸ hPo) _ _ c' B r d sp p con k w' (hs.below hw (Nat.le_refl _)) hr (Nat.le_trans hB hw.size)
 have hne := qde hPl (hP ▸ hPo) hokb sp d
 obtain ⟨s0, W, hW⟩ : ∃ s0 W, qJ P sp d = s0 :: W := by
  cases h : qJ P sp d with
  | nil => exact absurd h hne
  | cons x y => exact ⟨x, y, rfl⟩
 rw [<- hP, hW, List.headD_cons]
 rw [hW, List.length_cons] at HSp
 have qix : Hid (∀ w', Below w.heap.size w w' -> ∀ s : ByteArray, s.size <= maxLen -> (Instr.lookup 85 (.map (some nb)) (.string s) false).run prog w' = .ok (.bool (ze s)) w') := Lh fun w' hw s hz => (hset.below hw).look s hz
 have hs0 : s0.size <= maxLen := kt hPl (hP ▸ hPo) sp d s0 (by rw [hW]; simp)
 have HBl : Hid (∀ w', Below w.heap.size w w' -> Blk w' g 88 (jd r d sp p con k nb v st bef sil)) := Lh fun w' hw => hblk.below hw hgl
 have hpm : qt (b' :: t') p <= m - 1 := by simp at hlt; omega
 have hpc0 := hpc.1
 generalize qt (b' :: t') p = PC at *
 unfold kI at h7
 simp only [Bool.and_eq_true, decide_eq_true_eq] at h7
 obtain ⟨⟨⟨⟨_, h2⟩, h3⟩, h4⟩, h5, h6⟩ := h7
 rw [decide_eq_true h2] at hq
 have e3 : ((bef : Int) == 0) = false := beq_eq_false_iff_ne.2 (by omega)
 have dd : decide ((m : Int) < 2) = false := decide_eq_false (by omega)
 have e5 : ((qv b' : Int) == 0) = false := beq_eq_false_iff_ne.2 (by omega)
 generalize qv b' = K at *
 obtain ⟨t, wd, s⟩ := a
 obtain ⟨t2, wd2, s2⟩ := b'
 dsimp only at *
 subst h4
 subst h6
 clear a0 a1 a2 q0 q1 q2 rd rdT hP hPl hPn hPo hne hW hok hokb hokt hset hs hblk h2 h3 h5 hlt hpc hcx
 go_enter func52, ntmps52
 go_upto_region 1 with fail
 refine qi w.heap.size (by kernel_rfl) (by kernel_rfl) ?_; (repeat (go_big_quiet_step ((go_at_call 68; exact Calls.near _ hzz (HKb.out _))))); refine wpQuiet_nil ?_; intro _ hw'; obtain ⟨x1, hw''⟩ := hw'; subst hw''
 have hb1 := x1.h
 clear S8 S9 NA0 NA2 NB0 NB1 NB2
 generalize x1.w = w1 at *
 go_upto_region 3 with fail
 have B1 := HBl.out w1.drew hb1.drew
 have d0 : w1.drew.cell? ⟨g, 0, none⟩ = some (.int .i64 r) := B1.cell 0
 have d1 : w1.drew.cell? ⟨g, 1, none⟩ = some (.bool d) := B1.cell 1
 have d2 : w1.drew.cell? ⟨g, 2, none⟩ = some (.bool sp) := B1.cell 2
 have d3 : w1.drew.cell? ⟨g, 3, none⟩ = some (.int .i64 p) := B1.cell 3
 have d4 : w1.drew.cell? ⟨g, 4, none⟩ = some (.bool con) := B1.cell 4
 have d5 : w1.drew.cell? ⟨g, 5, none⟩ = some (.int .i64 k) := B1.cell 5
 have i1 : (1 : Int) <= (m : Int) := by omega
 have i2 : (m : Int) <= (c : Int) := by omega
 have i3 : (c : Int) <= 9223372036854775807 := by omega
 have i4 : (1 : Int) <= 1 + (PC : Int) := by omega
 have i5 : 1 + (PC : Int) <= (c : Int) := by omega
 have i6 : (0 : Int) <= 1 + (PC : Int) := by omega
 have i7 : IntKind.i64.wrap (1 + (PC : Int)) = 1 + (PC : Int) := IntWalk.i64_in _ (by omega)
 have i8 : max (1 + (PC : Int)) 0 = 1 + (PC : Int) := by omega
 have i9 : (1 + (PC : Int)).toNat = 1 + PC := by omega
 go_cut [7] (fun v wx => ∃ A' c', v = .slice A' (W.length + 1) c' /\ wx.ownsRow w.heap.size 9 1 (.slice A' (W.length + 1) c') (W.length + 1) (sv (s0 :: W)) /\ Below w.heap.size w wx)
 case first =>
  go_region_law (first
   | (go_simp; go_at_call 51; refine (HPc.out w1.drew hb1.drew).mono ?_; rintro e w2 ⟨rfl, qh8⟩; have t2 := hb1.drew.trans (qh8.mono hb1.size); have B2 := HBl.out w2 t2; have e0 : w2.cell? ⟨g, 0, none⟩ = some (.int .i64 r) := B2.cell 0; have e1 : w2.cell? ⟨g, 1, none⟩ = some (.bool d) := B2.cell 1; have e2 : w2.cell? ⟨g, 2, none⟩ = some (.bool sp) := B2.cell 2; have e3' : w2.cell? ⟨g, 3, none⟩ = some (.int .i64 p) := B2.cell 3; have e4 : w2.cell? ⟨g, 4, none⟩ = some (.bool con) := B2.cell 4; have e5' : w2.cell? ⟨g, 5, none⟩ = some (.int .i64 k) := B2.cell 5)
   | (go_simp; go_at_call 71; refine (HSp.out w2 _ t2).mono ?_; rintro e w3 ⟨A3, c3, rfl, hown3, qh9⟩; have t3 := t2.trans (qh9.mono t2.size)))
  all_goals go_wp2
  all_goals go_meet
  all_goals exact ⟨A3, c3, rfl, qq hown3 t2.size, t3⟩
 case rest =>
  obtain ⟨A3, c3, rfl, hown3, t3⟩ := hcut
  have B4 := HBl.out _ t3
  have c9 := B4.cell 9
  have c6 := B4.cell 6
  simp only [jd, La, Lb, Lc] at c6 c9
  obtain ⟨b3, o3, rfl, _, hcc⟩ := (Rd.of_own hown3).2 (by omega)
  have cs0 := hcc 0 _ rfl
  simp only [Nat.add_zero] at cs0
  have hlk : ∀ q, _ := fun q => qix.out _ (qb (n := q) t3) s0 hs0
  have qiG := hlk 1
  clear qix HBl HSp HPc HKb hcc B4
  by_cases hb3 : bef = 3
  ·have e9 : ((bef : Int) != 3) = false := by rw [hb3]; rfl
   cases hnw : ze s0 with
   | true =>
    rw [hnw] at hlk qiG
    go_wp2
    go_quiet (fail)
    go_wp2
    go_ret
    exact ⟨by simp [hb3, hnw], by first | exact t3 | exact qb t3 | exact t3.drew⟩
   | false =>
    rw [hnw] at hlk qiG
    go_wp2
    go_quiet (fail)
    go_wp2
    go_ret
    exact ⟨by simp [hb3, hnw], by first | exact t3 | exact qb t3 | exact t3.drew⟩
  ·have e9 : ((bef : Int) != 3) = true := bne_iff_ne.2 (by omega)
   go_wp2
   go_quiet (fail)
   go_wp2
   go_ret
   exact ⟨by simp [hb3], by first | exact t3 | exact qb t3 | exact t3.drew⟩
end Go.Proofs.YtlndbiamiioakaaGreatDoor
namespace Go.Proofs.YtlndbiamiioakaaGreatDoor
open Go.Proofs.Tryz Go.RowKit
set_option maxRecDepth 20000
theorem qhx {p : Spk} {s : Setts} {a : Gl} {l' : List Gl} {n : Nat} (h : kI p.before p.style n a l'.head? = false) : yj p s (a :: l') n = false := by
 cases l' with
 | nil => rfl
 | cons b t =>
  unfold kI at h
  simp only [List.head?_cons] at h
  show (decide (n = 1) && decide (a.text.data.toList = [32]) && decide (p.before ≠ 0) && decide (a.style = p.style) && decide (qv b ≠ 0) && decide (b.style = p.style) && _) = false
  have e : decide (((n : Nat) : Int) = 1) = decide (n = 1) := by
   rw [Bool.eq_iff_iff]; simp; omega
  rw [e] at h
  have h2 : (decide (n = 1) && decide (a.text.data.toList = [32]) && decide (p.before ≠ 0) && decide (a.style = p.style) && decide (qv b ≠ 0) && decide (b.style = p.style)) = false := by
   rw [<- h]
   simp only [Bool.and_assoc]
  rw [h2]
  rfl
theorem qfG {p : Spk} {s : Setts} {a b : Gl} {t : List Gl} (h : kI p.before p.style 1 a (some b) = true) :
  yj p s (a :: b :: t) 1 = (decide (p.before ≠ 3) || !(ze ((qJ ((b :: t).take (qt (b :: t) s.rep)) s.spell s.digits).headD ⟨#[]⟩))) := by
 unfold kI at h
 simp only [Bool.and_eq_true, decide_eq_true_eq] at h
 obtain ⟨⟨⟨⟨h1, h2⟩, h3⟩, h4⟩, h5, h6⟩ := h
 show (decide (1 = 1) && decide (a.text.data.toList = [32]) && decide (p.before ≠ 0) && decide (a.style = p.style) && decide (qv b ≠ 0) && decide (b.style = p.style) && _) = _
 rw [decide_eq_true h2, decide_eq_true h3, decide_eq_true h4, decide_eq_true h5, decide_eq_true h6]
 simp
theorem skips_ (a : Gl) (l' : List Gl) (n : Nat) (A : Option Addr) (m c g B : Nat) (r : Int) (d sp : Bool) (p : Int) (con : Bool) (k : Int) (nb : Nat) (v : Value) (out : List ByteArray) (st : Int) (bef : Nat) (sil : Bool) (w : World) (hs : Sp w) (hset : SetM w nb 32 ze)
  (hm : m <= 1000) (hcm : m <= c) (hcx : c <= maxLen) (hok : ∀ x ∈ a :: l', GOK x) (rd : Rd w B 3 A m (qn (a :: l'))) (hB : B <= w.heap.size) (hblk : Blk w g 88 (jd r d sp p con k nb v st bef sil)) :
  Calls prog 52 #[.pointer (some ⟨g, 0, none⟩), .slice A m c, .int .i64 n] w (qg (.bool (yj ⟨out, st, bef, sil⟩ ⟨d, sp, p⟩ (a :: l') n)) w) := by
 cases h7 : kI bef st n a l'.head? with
 | false =>
  rw [qhx (p := ⟨out, st, bef, sil⟩) h7]
  exact skips_no a l' n A m c g B r d sp p con k nb v st bef sil w hm (fun x hx => (hok x hx).2) rd hB hblk h7
 | true =>
  cases l' with
  | nil =>
   exfalso
   unfold kI at h7
   simp at h7
  | cons b t =>
   have hn : n = 1 := by
    unfold kI at h7
    simp only [Bool.and_eq_true, decide_eq_true_eq] at h7
    have := h7.1.1.1.1
    omega
   subst hn
   rw [qfG (p := ⟨out, st, bef, sil⟩) h7]
   exact qgT a b t A m c g B r d sp p con k nb v st bef sil w hs hset hm hcm hcx hok rd hB hblk h7
end Go.Proofs.YtlndbiamiioakaaGreatDoor
namespace Go.Proofs.YtlndbiamiioakaaGreatDoor
open Go.Proofs.Tryz Go.RowKit
theorem catW_len (l : List Nat) : (vN l).length <= 16 * l.length := by
 unfold vN
 induction l with
 | nil => simp
 | cons a t ih =>
  have := ye a
  simp only [List.flatMap_cons, List.length_append, List.length_cons]
  omega
theorem qcw {l : List Gl} {g : Gl} {t : List Gl} (hl : l = g :: t) (hP : PieceOK l) (sp d : Bool) : (qJ l sp d).length <= 40000 := by
 have hn := hP.n
 have hz := hP.sz
 subst hl
 have hk := yD g
 have hs1 : (vH g).length <= 1 + 16 * 2000 := by
  have h1 := @kS g
  have h2 := vv g.text
  have h3 := hz g (by simp)
  omega
 by_cases h1 : qv g = 1 ∨ qv g = 2
 ·rw [yR h1]
  unfold yG
  have hlow : (lowL (g :: t)).length <= 1000 := by unfold lowL; rw [List.length_map]; exact hn
  simp only [List.length_append]
  (repeat' split) <;> simp only [List.length_append, List.length_cons, List.length_nil, List.length_map] <;> omega
 ·by_cases h3 : qv g = 3
  ·rw [yU h3, qak]
   unfold jt
   split
   ·have := catW_len (zi (List.map jo (g :: t)))
    have h5 : (zi (List.map jo (g :: t))).length <= 1000 := by unfold zi; rw [List.length_map, List.length_map]; exact hn
    rw [List.length_cons]
    omega
   ·have := ye (yM (zi (List.map jo (g :: t))))
    omega
  ·have h0 : qv g = 0 := by omega
   by_cases ht : t = []
   ·subst ht
    rw [yS h0]
    omega
   ·rw [yx h0 ht]
    have := ye (t.length + 1)
    simp only [List.length_append, List.length_cons, List.length_nil]
    omega
def SayM (w : World) (g : Nat) (r : Int) (d sp : Bool) (p : Int) (con : Bool) (k : Int) (nb : Nat) (q : Spk) (R : Nat) (A5 : Option Addr) (c5 : Nat) (W : List ByteArray) (wx : World) : Prop :=
 ∃ A' c', Blk wx g 88 (jd r d sp p con k nb (.slice A' q.out.length c') q.style q.before q.silent) /\ wx.ownsRow (g + 1) 9 1 (.slice A' q.out.length c') q.out.length (sv q.out) /\ Below g w wx /\ wx.ownsRow R 9 1 (.slice A5 W.length c5) W.length (sv W) /\ Dj (Value.slice A' q.out.length c').ownBlock (Value.slice A5 W.length c5).ownBlock /\ w.heap.size <= wx.heap.size
theorem qbO {w X w4 : World} {g R nb n N c0 c4 c5 bef : Nat} {A0 A4 A5 : Option Addr} {r p k st : Int} {d sp con sil : Bool} {q : Spk} {W : List ByteArray} {xs ys : List Value}
  (hX : Blk X g 88 (jd r d sp p con k nb (.slice A0 n c0) st bef sil)) (hoX : X.ownsRow (g + 1) 9 1 (.slice A0 n c0) n xs) (h5 : X.ownsRow R 9 1 (.slice A5 W.length c5) W.length (sv W))
  (hdj : Dj (Value.slice A0 n c0).ownBlock (Value.slice A5 W.length c5).ownBlock) (hR : g < R) (tX : Below g w X) (zX : w.heap.size <= X.heap.size)
  (qie : w4.ownsRow (g + 1) 9 1 (.slice A4 N c4) N ys) (qia : Below (g + 1) X w4) (qii : X.grownBy w4 (Value.slice A0 n c0).ownBlock)
  (qik : (Value.slice A4 N c4).ownBlock = (Value.slice A0 n c0).ownBlock ∨ (Value.slice A4 N c4).ownBlock = some X.heap.size)
  (hN : q.out.length = N) (hys : sv q.out = ys) (h1 : q.style = st) (h2 : q.before = bef) (h3 : q.silent = sil) :
  SayM w g r d sp p con k nb q R A5 c5 W (w4.setCell ⟨g, 7, none⟩ (.slice A4 N c4)) := by
 subst hN hys h1 h2 h3
 have hb4 : Blk w4 g 88 (jd r d sp p con k nb (.slice A0 n c0) q.style q.before q.silent) := hX.below qia (Nat.lt_succ_self g)
 have z := qia.size
 refine ⟨A4, c4, ?_, qs qie (Nat.lt_succ_self g) _, (tX.trans (qia.mono (Nat.le_succ g))).setCell (Nat.le_refl _) _, qs (h5.kept qii hdj.symm.ne) hR _, ?_, ?_⟩
 ·have := hb4.set_ 7 (.slice A4 q.out.length c4)
  simpa [jd] using this
 ·exact (Dj.new hdj.symm qik (y8 h5)).symm
 ·rw [World.size_setCell]
  omega
end Go.Proofs.YtlndbiamiioakaaGreatDoor
