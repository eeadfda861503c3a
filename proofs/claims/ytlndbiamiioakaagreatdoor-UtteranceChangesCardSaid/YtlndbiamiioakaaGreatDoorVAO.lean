/- Joined: Cl3, Rn7, Gl1, Gl2. -/
import Derived.Test.YtlndbiamiioakaaGreatDoorVAN
set_option linter.unusedVariables false
set_option linter.unusedSimpArgs false
set_option linter.unnecessarySimpa false
set_option maxHeartbeats 4000000
namespace Go.Proofs.YtlndbiamiioakaaGreatDoor
open Go.Proofs.Tryz Go.RowKit
set_option maxRecDepth 20000
theorem runes_ (s : ByteArray) (hs : s.size <= 1000000000) (w : World) (hu : U8 w) (hc : zJ s = 0) :
  Calls prog 59 #[.string s] w fun e w' => ∃ A c, e = .returned (.slice A (qw (qz s)).length c) /\ Below w.heap.size w w' /\ (qw (qz s)).length <= c := by
 have HK := Lh (qcv s hs w hu)
 rw [hc] at HK
 have HC : Hid (∀ w, _) := Lh (qav s (vt.1 hc).1 hs)
 generalize qw (qz s) = L at *
 clear hu hc
 go_enter func59, ntmps59
 go_upto_region 3 with (go_at_call 43; refine HK.out.mono ?_; rintro e w1 ⟨rfl, qh7⟩)
 obtain ⟨c2, w2, hrun, rd2, qh8, hcap⟩ := HC.out w1
 go_wp2
 go_ret
 exact ⟨_, _, rfl, qh7.trans (qh8.mono qh7.size), hcap⟩
theorem qhE (s : ByteArray) (hs : s.size <= 1000000000) (w : World) (hu : U8 w) (hc : zJ s = 0) :
  Calls prog 172 #[.string s] w fun e w' => ∃ A c, e = .returned (.slice A ((qw (qz s)).length - 1) c) /\ Below w.heap.size w w' := by
 have HK := Lh (runes_ s hs w hu hc)
 obtain ⟨_, r, t, hL, _⟩ := vt.1 hc
 have hl := vv s
 rw [hL] at HK hl
 rw [hL]
 rw [List.length_cons] at HK hl
 rw [List.length_cons]
 generalize t.length = n at *
 clear hu hc hL
 go_enter func172, ntmps172
 go_wp2_with (go_at_call 59; refine HK.out.mono ?_; rintro e w1 ⟨A1, c1, rfl, qh7, hcap⟩)
 all_goals go_ret
 all_goals exact ⟨⟨_, _, rfl⟩, qh7⟩
def attV (x : ByteArray × Int) : Value := .tuple #[.string x.1, .int .i64 x.2]
theorem qbi (w : World) (r : Nat) (e : TypeId) : Rd (w.alloc (.cells #[.int .i32 (r : Int)] e)) (w.heap.size + 1) 1 (some ⟨w.heap.size, 0, none⟩) 1 (chV [r]) := qe (xs := chV [r]) rfl rfl
theorem attach_ (s : ByteArray) (hs : s.size <= 1000000000) (r : Nat) (hr : q9 r) (w : World) (hu : U8 w) :
  Calls prog 155 #[.string s, .int .i32 (r : Int)] w (qg (attV (vY s (r : Int))) w) := by
 have HK := Lh (qcv s hs w hu)
 have HM := Lh (mark_ (r : Int))
 have HU := Lh hu
 unfold vY
 by_cases hc : zJ s = 0
 ·rw [if_neg (by simp [hc])]
  rw [hc] at HK
  generalize hmk : inT q6 (r : Int) = M at *
  cases M with
  | false =>
   rw [if_pos rfl]
   clear hu
   go_enter func155, ntmps155
   go_wp2_with (first
    | (go_at_call 43; refine HK.out.mono ?_; rintro e w1 ⟨rfl, qh7⟩)
    | (go_at_call 75; refine (HM.out _).mono ?_; rintro e w2 ⟨rfl, qh8⟩))
   go_ret2
   exact ⟨rfl, qh7.trans (qh8.mono qh7.size)⟩
  | true =>
   rw [if_neg (by simp)]
   have HL : Hid (∀ w, U8 w -> _) := Lh fun w hu => qhE s hs w hu hc
   have HE := Lh (fun A c B w => qgw r hr A c B w)
   have hpos : 0 < (qw (qz s)).length := by
    obtain ⟨_, r, t, hL, _⟩ := vt.1 hc
    rw [hL]; simp
   have hl := vv s
   have HS : Hid ((jf r).size <= 4) := Lh (by
    have := (ke r).2
    show (List.toArray _).size <= 4
    simpa using this)
   have hto : (r : Int).toNat = r := rfl
   rw [hto]
   generalize (qw (qz s)).length = n at *
   generalize jf r = E at *
   clear hu hc hmk
   by_cases h4 : 4 <= n
   ·rw [if_pos h4]
    go_enter func155, ntmps155
    go_wp2_with (first
     | (go_at_call 43; refine HK.out.mono ?_; rintro e w1 ⟨rfl, qh7⟩)
     | (go_at_call 75; refine (HM.out _).mono ?_; rintro e w2 ⟨rfl, qh8⟩; have t2 := qh7.trans (qh8.mono qh7.size))
     | (go_at_call 172; refine (HL.out _ (HU.out.below t2)).mono ?_; rintro e w3 ⟨A3, c3, rfl, qh9⟩; have t3 := t2.trans (qh9.mono t2.size)))
    go_ret2
    exact ⟨rfl, t3⟩
   ·rw [if_neg h4]
    have hS := HS.out
    go_enter func155, ntmps155
    go_wp2_with (first
     | (go_at_call 43; refine HK.out.mono ?_; rintro e w1 ⟨rfl, qh7⟩)
     | (go_at_call 75; refine (HM.out _).mono ?_; rintro e w2 ⟨rfl, qh8⟩; have t2 := qh7.trans (qh8.mono qh7.size))
     | (go_at_call 172; refine (HL.out _ (HU.out.below t2)).mono ?_; rintro e w3 ⟨A3, c3, rfl, qh9⟩; have t3 := t2.trans (qh9.mono t2.size))
     | (go_at_call 156; refine (HE.out _ _ _ _ (qbi _ r _) (by simp)).mono ?_; rintro e w4 ⟨rfl, qia⟩))
    go_ret2
    exact ⟨rfl, (t3.alloc t3.size _).trans (qia.mono (by have := t3.size; simp; omega))⟩
 ·rw [if_pos hc]
  generalize zJ s = K at *
  have hcb : (K != 0) = true := bne_iff_ne.2 hc
  clear hu hc
  go_enter func155, ntmps155
  go_wp2_with (go_at_call 43; refine HK.out.mono ?_; rintro e w1 ⟨rfl, qh7⟩)
  go_ret2
  exact ⟨rfl, qh7⟩
end Go.Proofs.YtlndbiamiioakaaGreatDoor
namespace Go.Proofs.YtlndbiamiioakaaGreatDoor
open Go.Proofs.Tryz Go.RowKit
set_option maxRecDepth 20000
theorem rwidthC (s : ByteArray) (hs : s.size <= 1000000000) (w : World) : Calls prog 48 #[.string s] w (qg (.int .i64 (yZ s)) w) := by
 have HK := Lh (qfv s hs w)
 have HC := Lh (kZ s hs)
 unfold yZ
 by_cases h0 : zJ s = 0
 ·rw [if_pos h0]
  rw [h0] at HK
  obtain ⟨hv, r, t, hL, _⟩ := vt.1 h0
  rw [hL] at HC
  rw [hL]
  have HW := Lh (qdU (r : Int))
  simp only [List.headD_cons]
  generalize zC (r : Int) = W at *
  have hlen : 0 < (r :: t).length := by simp
  have HG : Hid ((chV (r :: t))[0]? = some (.int .i32 (r : Int))) := Lh rfl
  generalize (r :: t) = L at *
  clear h0 hv hL
  go_enter func48, ntmps48
  go_wp2_with (first
   | (go_at_call 47; refine HK.out.mono ?_; rintro e w1 ⟨rfl, qh7⟩)
   | (go_at_call 63; refine (HC.out _).mono ?_; rintro e w2 ⟨A2, c2, rfl, hown2, qh8⟩; have t2 := qh7.trans (qh8.mono qh7.size); obtain ⟨b, o, rfl, _, hcc⟩ := (Rd.of_own hown2).2 (by omega); have cell0 := hcc 0 _ HG.out; simp only [Nat.add_zero] at cell0)
   | (go_at_call 65; refine (HW.out _).mono ?_; rintro e w3 ⟨rfl, qh9⟩; have t3 := t2.trans (qh9.mono t2.size)))
  go_ret
  exact ⟨rfl, t3⟩
 ·rw [if_neg h0]
  generalize zJ s = K at *
  have hcb : (K != 0) = true := bne_iff_ne.2 h0
  clear h0
  go_enter func48, ntmps48
  go_wp2_with (go_at_call 47; refine HK.out.mono ?_; rintro e w1 ⟨rfl, qh7⟩)
  go_ret
  exact ⟨rfl, qh7⟩
theorem rattach (s : ByteArray) (hs : s.size <= 1000000000) (r : Nat) (hr : q9 r) (w : World) :
  Calls prog 114 #[.string s, .int .i32 (r : Int)] w (qg (attV (vY s (r : Int))) w) := by
 have HK := Lh (qfv s hs w)
 have HM := Lh (qeX (r : Int))
 unfold vY
 by_cases hc : zJ s = 0
 ·rw [if_neg (by simp [hc])]
  rw [hc] at HK
  generalize hmk : inT q6 (r : Int) = M at *
  cases M with
  | false =>
   rw [if_pos rfl]
   go_enter func114, ntmps114
   go_wp2_with (first
    | (go_at_call 47; refine HK.out.mono ?_; rintro e w1 ⟨rfl, qh7⟩)
    | (go_at_call 64; refine (HM.out _).mono ?_; rintro e w2 ⟨rfl, qh8⟩))
   go_ret2
   exact ⟨rfl, qh7.trans (qh8.mono qh7.size)⟩
  | true =>
   rw [if_neg (by simp)]
   have HL := Lh (kZ s hs)
   have HE := Lh (qen r hr)
   have hpos : (qw (qz s)).length <= 4 := by
    obtain ⟨_, r, t, hL, _, _, h3⟩ := vt.1 hc
    rw [hL]; simp; omega
   have HS : Hid ((jf r).size <= 4) := Lh (by
    have := (ke r).2
    show (List.toArray _).size <= 4
    simpa using this)
   have hto : (r : Int).toNat = r := rfl
   rw [hto]
   generalize qw (qz s) = L at *
   generalize jf r = E at *
   clear hc hmk
   by_cases h4 : 4 <= L.length
   ·rw [if_pos h4]
    go_enter func114, ntmps114
    go_wp2_with (first
     | (go_at_call 47; refine HK.out.mono ?_; rintro e w1 ⟨rfl, qh7⟩)
     | (go_at_call 64; refine (HM.out _).mono ?_; rintro e w2 ⟨rfl, qh8⟩; have t2 := qh7.trans (qh8.mono qh7.size))
     | (go_at_call 63; refine (HL.out _).mono ?_; rintro e w3 ⟨A3, c3, rfl, _, qh9⟩; have t3 := t2.trans (qh9.mono t2.size); have zl : ((L.length : Int) == 4) = true := beq_iff_eq.2 (by omega)))
    go_ret2
    exact ⟨rfl, t3⟩
   ·rw [if_neg h4]
    have hS := HS.out
    go_enter func114, ntmps114
    go_wp2_with (first
     | (go_at_call 47; refine HK.out.mono ?_; rintro e w1 ⟨rfl, qh7⟩)
     | (go_at_call 64; refine (HM.out _).mono ?_; rintro e w2 ⟨rfl, qh8⟩; have t2 := qh7.trans (qh8.mono qh7.size))
     | (go_at_call 63; refine (HL.out _).mono ?_; rintro e w3 ⟨A3, c3, rfl, _, qh9⟩; have t3 := t2.trans (qh9.mono t2.size); have zl : ((L.length : Int) == 4) = false := beq_eq_false_iff_ne.2 (by omega))
     | (go_at_call 141; refine (HE.out _).mono ?_; rintro e w4 ⟨rfl, qia⟩))
    go_ret2
    exact ⟨rfl, t3.trans (qia.mono t3.size)⟩
 ·rw [if_pos hc]
  generalize zJ s = K at *
  have hcb : (K != 0) = true := bne_iff_ne.2 hc
  clear hc
  go_enter func114, ntmps114
  go_wp2_with (go_at_call 47; refine HK.out.mono ?_; rintro e w1 ⟨rfl, qh7⟩)
  go_ret2
  exact ⟨rfl, qh7⟩
end Go.Proofs.YtlndbiamiioakaaGreatDoor
namespace Go.Proofs.YtlndbiamiioakaaGreatDoor
open Go.Proofs.Tryz Go.RowKit
set_option maxRecDepth 20000
def jV (g : Gl) : Int := if zJ g.text ≠ 0 then 3 else if g.wide ≠ decide (yZ g.text = 2) ∨ g.style < 0 ∨ 3 < g.style ∨ (g.style = 3 /\ g.text ≠ ⟨#[42]⟩) then 9 else 0
theorem qd5 (s : ByteArray) : (s.toList == [42]) = decide (s = ⟨#[42]⟩) := by
 have := ve s ⟨#[42]⟩
 rw [<- this]
 simp [ByteArray.toList_eq]
theorem rglyph (g : Gl) (hs : g.text.size <= 1000000000) (w : World) : Calls prog 35 #[glV g] w (qg (.int .i64 (jV g)) w) := by
 have HK := Lh (qfv g.text hs)
 have HW := Lh (rwidthC g.text hs)
 have hq := qd5 g.text
 unfold jV
 obtain ⟨t, wd, st⟩ := g
 dsimp only at *
 by_cases hc : zJ t = 0
 ·rw [if_neg (by simp [hc])]
  rw [hc] at HK
  clear hc
  generalize yZ t = W at *
  by_cases h1 : wd = decide (W = 2)
  ·have e1 : (wd == (W == 2)) = true := by
    cases wd <;> by_cases h : W = 2 <;> simp_all
   by_cases h2 : st < 0
   ·rw [if_pos (.inr (.inl h2))]
    have d2 : decide (st < 0) = true := decide_eq_true h2
    clear hq h1
    go_enter func35, ntmps35
    go_upto_region 1 with fail
    refine qc (GlBox w t wd st) (GlBox.new w t wd st _) ?_
    rintro wb hgb
    obtain ⟨c0, _, _, hb0, hz0⟩ := id hgb
    go_upto_region 3 with (go_at_call 47; refine (HK.out _).mono ?_; rintro e w1 ⟨rfl, qh7⟩; have hg1 := hgb.on qh7)
    obtain ⟨d0, d1, d2, hb1, hz1⟩ := id hg1
    have N0 : ∀ x : Near w1.heap.size w1, x.w.cell? ⟨w.heap.size, 0, none⟩ = some (.string t) := fun x => (x.h.cell (by show w.heap.size < _; omega)).trans d0
    have N1 : ∀ x : Near w1.heap.size w1, x.w.cell? ⟨w.heap.size, 1, none⟩ = some (.bool wd) := fun x => (x.h.cell (by show w.heap.size < _; omega)).trans d1
    have N2 : ∀ x : Near w1.heap.size w1, x.w.cell? ⟨w.heap.size, 2, none⟩ = some (.int .i64 st) := fun x => (x.h.cell (by show w.heap.size < _; omega)).trans d2
    have hzz := Nat.le_refl w1.heap.size
    clear d0 d1 d2 hg1 hgb c0
    refine qi w1.heap.size (by kernel_rfl) (by kernel_rfl) ?_; (repeat (go_big_quiet_step ((go_at_call 48; exact Calls.near _ hzz (HW.out _))))); refine wpQuiet_nil ?_; intro _ hw'; obtain ⟨x1, hw''⟩ := hw'; subst hw''
    go_wp2
    go_ret
    exact ⟨rfl, hb1.trans (x1.h.mono (by omega))⟩
   ·have d2 : decide (st < 0) = false := decide_eq_false h2
    by_cases h3 : 3 < st
    ·rw [if_pos (.inr (.inr (.inl h3)))]
     have d3 : decide (3 < st) = true := decide_eq_true h3
     clear hq h1
     go_enter func35, ntmps35
     go_upto_region 1 with fail
     refine qc (GlBox w t wd st) (GlBox.new w t wd st _) ?_
     rintro wb hgb
     obtain ⟨c0, _, _, hb0, hz0⟩ := id hgb
     go_upto_region 3 with (go_at_call 47; refine (HK.out _).mono ?_; rintro e w1 ⟨rfl, qh7⟩; have hg1 := hgb.on qh7)
     obtain ⟨d0, d1, d2, hb1, hz1⟩ := id hg1
     have N0 : ∀ x : Near w1.heap.size w1, x.w.cell? ⟨w.heap.size, 0, none⟩ = some (.string t) := fun x => (x.h.cell (by show w.heap.size < _; omega)).trans d0
     have N1 : ∀ x : Near w1.heap.size w1, x.w.cell? ⟨w.heap.size, 1, none⟩ = some (.bool wd) := fun x => (x.h.cell (by show w.heap.size < _; omega)).trans d1
     have N2 : ∀ x : Near w1.heap.size w1, x.w.cell? ⟨w.heap.size, 2, none⟩ = some (.int .i64 st) := fun x => (x.h.cell (by show w.heap.size < _; omega)).trans d2
     have hzz := Nat.le_refl w1.heap.size
     clear d0 d1 d2 hg1 hgb c0
     refine qi w1.heap.size (by kernel_rfl) (by kernel_rfl) ?_; (repeat (go_big_quiet_step ((go_at_call 48; exact Calls.near _ hzz (HW.out _))))); refine wpQuiet_nil ?_; intro _ hw'; obtain ⟨x1, hw''⟩ := hw'; subst hw''
     go_wp2
     go_ret
     exact ⟨rfl, hb1.trans (x1.h.mono (by omega))⟩
    ·have d3 : decide (3 < st) = false := decide_eq_false h3
     by_cases h4 : st = 3
     ·by_cases h5 : t = ⟨#[42]⟩
      ·rw [if_neg (by rw [not_or, not_or, not_or]; exact ⟨fun h => h h1, h2, h3, fun h => h.2 h5⟩)]
       have e5 : (t.toList == [42]) = true := by rw [hq]; simp [h5]
       have e4 : (st == 3) = true := beq_iff_eq.2 h4
       clear hq h1 h5 h4
       go_enter func35, ntmps35
       go_upto_region 1 with fail
       refine qc (GlBox w t wd st) (GlBox.new w t wd st _) ?_
       rintro wb hgb
       obtain ⟨c0, _, _, hb0, hz0⟩ := id hgb
       go_upto_region 3 with (go_at_call 47; refine (HK.out _).mono ?_; rintro e w1 ⟨rfl, qh7⟩; have hg1 := hgb.on qh7)
       obtain ⟨d0, d1, d2, hb1, hz1⟩ := id hg1
       have N0 : ∀ x : Near w1.heap.size w1, x.w.cell? ⟨w.heap.size, 0, none⟩ = some (.string t) := fun x => (x.h.cell (by show w.heap.size < _; omega)).trans d0
       have N1 : ∀ x : Near w1.heap.size w1, x.w.cell? ⟨w.heap.size, 1, none⟩ = some (.bool wd) := fun x => (x.h.cell (by show w.heap.size < _; omega)).trans d1
       have N2 : ∀ x : Near w1.heap.size w1, x.w.cell? ⟨w.heap.size, 2, none⟩ = some (.int .i64 st) := fun x => (x.h.cell (by show w.heap.size < _; omega)).trans d2
       have hzz := Nat.le_refl w1.heap.size
       clear d0 d1 d2 hg1 hgb c0
       refine qi w1.heap.size (by kernel_rfl) (by kernel_rfl) ?_; (repeat (go_big_quiet_step ((go_at_call 48; exact Calls.near _ hzz (HW.out _))))); refine wpQuiet_nil ?_; intro _ hw'; obtain ⟨x1, hw''⟩ := hw'; subst hw''
       go_wp2
       go_ret
       exact ⟨rfl, hb1.trans (x1.h.mono (by omega))⟩
      ·rw [if_pos (.inr (.inr (.inr ⟨h4, h5⟩)))]
       have e5 : (t.toList == [42]) = false := by rw [hq]; simp [h5]
       have e4 : (st == 3) = true := beq_iff_eq.2 h4
       clear hq h1 h5 h4
       go_enter func35, ntmps35
       go_upto_region 1 with fail
       refine qc (GlBox w t wd st) (GlBox.new w t wd st _) ?_
       rintro wb hgb
       obtain ⟨c0, _, _, hb0, hz0⟩ := id hgb
       go_upto_region 3 with (go_at_call 47; refine (HK.out _).mono ?_; rintro e w1 ⟨rfl, qh7⟩; have hg1 := hgb.on qh7)
       obtain ⟨d0, d1, d2, hb1, hz1⟩ := id hg1
       have N0 : ∀ x : Near w1.heap.size w1, x.w.cell? ⟨w.heap.size, 0, none⟩ = some (.string t) := fun x => (x.h.cell (by show w.heap.size < _; omega)).trans d0
       have N1 : ∀ x : Near w1.heap.size w1, x.w.cell? ⟨w.heap.size, 1, none⟩ = some (.bool wd) := fun x => (x.h.cell (by show w.heap.size < _; omega)).trans d1
       have N2 : ∀ x : Near w1.heap.size w1, x.w.cell? ⟨w.heap.size, 2, none⟩ = some (.int .i64 st) := fun x => (x.h.cell (by show w.heap.size < _; omega)).trans d2
       have hzz := Nat.le_refl w1.heap.size
       clear d0 d1 d2 hg1 hgb c0
       refine qi w1.heap.size (by kernel_rfl) (by kernel_rfl) ?_; (repeat (go_big_quiet_step ((go_at_call 48; exact Calls.near _ hzz (HW.out _))))); refine wpQuiet_nil ?_; intro _ hw'; obtain ⟨x1, hw''⟩ := hw'; subst hw''
       go_wp2
       go_ret
       exact ⟨rfl, hb1.trans (x1.h.mono (by omega))⟩
     ·rw [if_neg (by rw [not_or, not_or, not_or]; exact ⟨fun h => h h1, h2, h3, fun h => h4 h.1⟩)]
      have e4 : (st == 3) = false := beq_eq_false_iff_ne.2 h4
      clear hq h1
      go_enter func35, ntmps35
      go_upto_region 1 with fail
      refine qc (GlBox w t wd st) (GlBox.new w t wd st _) ?_
      rintro wb hgb
      obtain ⟨c0, _, _, hb0, hz0⟩ := id hgb
      go_upto_region 3 with (go_at_call 47; refine (HK.out _).mono ?_; rintro e w1 ⟨rfl, qh7⟩; have hg1 := hgb.on qh7)
      obtain ⟨d0, d1, d2, hb1, hz1⟩ := id hg1
      have N0 : ∀ x : Near w1.heap.size w1, x.w.cell? ⟨w.heap.size, 0, none⟩ = some (.string t) := fun x => (x.h.cell (by show w.heap.size < _; omega)).trans d0
      have N1 : ∀ x : Near w1.heap.size w1, x.w.cell? ⟨w.heap.size, 1, none⟩ = some (.bool wd) := fun x => (x.h.cell (by show w.heap.size < _; omega)).trans d1
      have N2 : ∀ x : Near w1.heap.size w1, x.w.cell? ⟨w.heap.size, 2, none⟩ = some (.int .i64 st) := fun x => (x.h.cell (by show w.heap.size < _; omega)).trans d2
      have hzz := Nat.le_refl w1.heap.size
      clear d0 d1 d2 hg1 hgb c0
      refine qi w1.heap.size (by kernel_rfl) (by kernel_rfl) ?_; (repeat (go_big_quiet_step ((go_at_call 48; exact Calls.near _ hzz (HW.out _))))); refine wpQuiet_nil ?_; intro _ hw'; obtain ⟨x1, hw''⟩ := hw'; subst hw''
      go_wp2
      go_ret
      exact ⟨rfl, hb1.trans (x1.h.mono (by omega))⟩
  ·rw [if_pos (.inl h1)]
   have e2 : (wd == (W == 2)) = false := by
    cases wd <;> by_cases h : W = 2 <;> simp_all
   clear hq h1
   go_enter func35, ntmps35
   go_upto_region 1 with fail
   refine qc (GlBox w t wd st) (GlBox.new w t wd st _) ?_
   rintro wb hgb
   obtain ⟨c0, _, _, hb0, hz0⟩ := id hgb
   go_upto_region 3 with (go_at_call 47; refine (HK.out _).mono ?_; rintro e w1 ⟨rfl, qh7⟩; have hg1 := hgb.on qh7)
   obtain ⟨d0, d1, d2, hb1, hz1⟩ := id hg1
   have N0 : ∀ x : Near w1.heap.size w1, x.w.cell? ⟨w.heap.size, 0, none⟩ = some (.string t) := fun x => (x.h.cell (by show w.heap.size < _; omega)).trans d0
   have N1 : ∀ x : Near w1.heap.size w1, x.w.cell? ⟨w.heap.size, 1, none⟩ = some (.bool wd) := fun x => (x.h.cell (by show w.heap.size < _; omega)).trans d1
   have N2 : ∀ x : Near w1.heap.size w1, x.w.cell? ⟨w.heap.size, 2, none⟩ = some (.int .i64 st) := fun x => (x.h.cell (by show w.heap.size < _; omega)).trans d2
   have hzz := Nat.le_refl w1.heap.size
   clear d0 d1 d2 hg1 hgb c0
   refine qi w1.heap.size (by kernel_rfl) (by kernel_rfl) ?_; (repeat (go_big_quiet_step ((go_at_call 48; exact Calls.near _ hzz (HW.out _))))); refine wpQuiet_nil ?_; intro _ hw'; obtain ⟨x1, hw''⟩ := hw'; subst hw''
   go_wp2
   go_ret
   exact ⟨rfl, hb1.trans (x1.h.mono (by omega))⟩
 ·rw [if_pos hc]
  generalize zJ t = K at *
  have hcb : (K != 0) = true := bne_iff_ne.2 hc
  clear hc hq
  go_enter func35, ntmps35
  go_upto_region 1 with fail
  refine qc (GlBox w t wd st) (GlBox.new w t wd st _) ?_
  rintro wb hgb
  obtain ⟨c0, _, _, hb0, hz0⟩ := id hgb
  go_wp2_with (go_at_call 47; refine (HK.out _).mono ?_; rintro e w1 ⟨rfl, qh7⟩)
  go_ret
  exact ⟨rfl, hb0.trans (qh7.mono (by omega))⟩
theorem yl {w : World} {B n : Nat} {A : Option Addr} {l : List Gl} (rd : Rd w B 3 A n (qn l)) : l.length = n := by
 have := rd.1
 rw [qdo] at this
 omega
theorem rsamerow (l m : List Gl) (A A' : Option Addr) (n n' c c' B : Nat) (w : World) (hn : n <= 1000000000) (rd : Rd w B 3 A n (qn l)) (rd' : Rd w B 3 A' n' (qn m)) :
  Calls prog 20 #[.slice A n c, .slice A' n' c'] w (Quiet (.bool (decide (l = m))) w) := by
 have HN := Lh (yl rd)
 have HN' := Lh (yl rd')
 by_cases hnn : n = n'
 ·subst hnn
  go_enter func20, ntmps20
  go_wp2
  go_loopw [5] (fun x wr => ∃ k j : Nat, k <= n /\ x = .int .i64 k /\ wr = w.drewN j /\ Hid (∀ i (h1 : i < l.length) (h2 : i < m.length), i < k -> l[i] = m[i])) (fun x _ => n - (intOf x).toNat)
  case atStart => exact ⟨0, 0, Nat.zero_le _, rfl, rfl, Lh fun i _ _ h => absurd h (Nat.not_lt_zero i)⟩
  case round =>
   obtain ⟨k, j, hk, rfl, rfl, HE⟩ := hrel
   by_cases hlt : k < n
   ·have hk1 : k < l.length := by have := HN.out; omega
    have hk2 : k < m.length := by have := HN'.out; omega
    obtain ⟨b, o, rfl, _, g0, g1, g2⟩ := jJ rd hk1 HN.out
    obtain ⟨b', o', rfl, _, g0', g1', g2'⟩ := jJ rd' hk2 HN'.out
    have hq := neq_gl l[k] m[k]
    have hg := qeN l[k] m[k] .neq
    by_cases he : l[k] = m[k]
    ·have HE2 : Hid (∀ i (h1 : i < l.length) (h2 : i < m.length), i < k + 1 -> l[i] = m[i]) := Lh fun i h1 h2 hi => by
      rcases Nat.lt_or_ge i k with h | h
      ·exact HE.out i h1 h2 h
      ·obtain rfl : i = k := by omega
       exact he
     rw [decide_eq_true he] at hq
     clear he
     generalize l[k] = r at *
     generalize m[k] = r' at *
     go_wp2
     go_quiet (fail)
     go_wp2
     exact ⟨⟨k + 1, _, by omega, by go_num, rfl, HE2⟩, by simp [intOf]; omega⟩
    ·rw [decide_eq_false he] at hq
     have HD : Hid (decide (l = m) = false) := Lh (decide_eq_false fun e => he (by subst e; rfl))
     clear he
     generalize decide (l = m) = R at *
     generalize l[k] = r at *
     generalize m[k] = r' at *
     go_wp2
     go_quiet (fail)
     go_wp2
     go_ret
     exact ⟨by rw [HD.out]; rfl, _, World.drewN_drewN _ _ _⟩
   ·obtain rfl : k = n := by omega
    have HD : Hid (decide (l = m) = true) := Lh (decide_eq_true (List.ext_getElem (by rw [HN.out, HN'.out]) fun i h1 h2 => HE.out i h1 h2 (by have := HN.out; omega)))
    generalize decide (l = m) = R at *
    go_wp2
    go_ret
    exact ⟨by rw [HD.out]; rfl, _, rfl⟩
 ·have HD : Hid (decide (l = m) = false) := Lh (decide_eq_false fun e => hnn (by rw [<- HN.out, <- HN'.out, e]))
  have hni : ((n : Int) != (n' : Int)) = true := by simp; omega
  generalize decide (l = m) = R at *
  go_enter func20, ntmps20
  go_wp2
  go_ret
  exact ⟨by rw [HD.out]; rfl, 0, rfl⟩
end Go.Proofs.YtlndbiamiioakaaGreatDoor
