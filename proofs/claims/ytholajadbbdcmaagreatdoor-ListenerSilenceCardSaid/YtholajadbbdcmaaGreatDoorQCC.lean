/- Joined texts: Lw2, Ul3, Lw3, Lw4, Lw5. -/
import Derived.Test.YtholajadbbdcmaaGreatDoorQAA
import Derived.Test.YtholajadbbdcmaaGreatDoorQAB
import Derived.Test.YtholajadbbdcmaaGreatDoorQAC
import Derived.Test.YtholajadbbdcmaaGreatDoorQAD
import Derived.Test.YtholajadbbdcmaaGreatDoorQAE
import Derived.Test.YtholajadbbdcmaaGreatDoorQAF
import Derived.Test.YtholajadbbdcmaaGreatDoorQAG
import Derived.Test.YtholajadbbdcmaaGreatDoorQAH
import Derived.Test.YtholajadbbdcmaaGreatDoorQAI
import Derived.Test.YtholajadbbdcmaaGreatDoorQAM
import Derived.Test.YtholajadbbdcmaaGreatDoorQAN
import Derived.Test.YtholajadbbdcmaaGreatDoorQAP
import Derived.Test.YtholajadbbdcmaaGreatDoorQAQ
import Derived.Test.YtholajadbbdcmaaGreatDoorQAS
import Derived.Test.YtholajadbbdcmaaGreatDoorQAT
import Derived.Test.YtholajadbbdcmaaGreatDoorQAU
import Derived.Test.YtholajadbbdcmaaGreatDoorQAY
import Derived.Test.YtholajadbbdcmaaGreatDoorQBA
import Derived.Test.YtholajadbbdcmaaGreatDoorQBB
import Derived.Test.YtholajadbbdcmaaGreatDoorQBC
import Derived.Test.YtholajadbbdcmaaGreatDoorQBD
import Derived.Test.YtholajadbbdcmaaGreatDoorQBF
import Derived.Test.YtholajadbbdcmaaGreatDoorQBG
import Derived.Test.YtholajadbbdcmaaGreatDoorQBH
import Derived.Test.YtholajadbbdcmaaGreatDoorQBM
import Derived.Test.YtholajadbbdcmaaGreatDoorQBN
import Derived.Test.YtholajadbbdcmaaGreatDoorQBQ
import Derived.Test.YtholajadbbdcmaaGreatDoorQBU
import Derived.Test.YtholajadbbdcmaaGreatDoorQBV
import Derived.Test.YtholajadbbdcmaaGreatDoorQBW
import Derived.Test.YtholajadbbdcmaaGreatDoorQBX
import Derived.Test.YtholajadbbdcmaaGreatDoorQBY
import Derived.Test.YtholajadbbdcmaaGreatDoorQCA
import Derived.Test.YtholajadbbdcmaaGreatDoorQCB
set_option linter.unusedVariables false
set_option linter.unusedSimpArgs false
set_option linter.unnecessarySimpa false
namespace Go.Proofs.YtholajadbbdcmaaGreatDoor
open Go.RowKit
set_option maxRecDepth 20000
theorem wdr_more {w : World} {B B' n c : Nat} {l : List ByteArray} {A : Option Addr} (h : WdR w B l A n c) (hb : B ≤ B') : WdR w B' l A n c := ⟨h.len, h.cap, h.max, h.rd.more hb, h.sz⟩
structure Few (cs : List Chg) (n : Int) : Prop where
 len : cs.length ≤ 1000000
 gl : ∀ c ∈ cs, c.glyphs.length ≤ 100000000 ∧ ∀ g ∈ c.glyphs, g.text.size ≤ 1000000000
 sum : glN cs ≤ 99999000
 num : 0 ≤ n ∧ n ≤ 1099511627776
def HrX (w : World) (m : Md) (A : Option Addr) (n c : Nat) (X : World) : Prop := Blk X w.heap.size 26 (mdC m A n c) ∧ ZM X (w.heap.size + 1) ∧ Below w.heap.size w X
theorem HrX.on {w X X' : World} {m : Md} {A : Option Addr} {n c : Nat} (h : HrX w m A n c X) (hb : Below X.heap.size X X') : HrX w m A n c X' := by
 have h1 := h.1.lt
 exact ⟨h.1.below hb h1, h.2.1.below hb h.2.1.lt, h.2.2.trans (hb.mono (Nat.le_of_lt h1))⟩
theorem HrX.facts {w X : World} {W H r cl U : Int} {rows : List (List Gl)} {vs : Bool} {A : Option Addr} {n c : Nat} (h : HrX w ⟨⟨W, H, rows, r, cl, vs⟩, U⟩ A n c X) :
  X.cell? ⟨w.heap.size, 0, none⟩ = some (.int .i64 W) ∧ X.cell? ⟨w.heap.size, 1, none⟩ = some (.int .i64 H) ∧ X.cell? ⟨w.heap.size, 2, none⟩ = some (.slice A n c) ∧ X.cell? ⟨w.heap.size, 3, none⟩ = some (.int .i64 r) ∧ X.cell? ⟨w.heap.size, 4, none⟩ = some (.int .i64 cl) ∧ X.cell? ⟨w.heap.size, 5, none⟩ = some (.bool vs) ∧ X.cell? ⟨w.heap.size, 6, none⟩ = some (.int .i64 U) ∧ w.heap.size + 1 < X.heap.size ∧ Below w.heap.size w X :=
 ⟨h.1.cell 0, h.1.cell 1, h.1.cell 2, h.1.cell 3, h.1.cell 4, h.1.cell 5, h.1.cell 6, h.2.1.lt, h.2.2⟩
set_option maxHeartbeats 4000000 in
theorem hear_ (m : Md) (A : Option Addr) (n c B : Nat) (rs : List RowM) (l : List ByteArray) (Aw : Option Addr) (nw cw : Nat) (w : World) (rd : RdV w B m.view A n c rs) (hB : B ≤ w.heap.size) (hM : ∀ x ∈ rs, x.l.length ≤ 1000) (hz : ∀ x ∈ rs, ∀ g ∈ x.l, g.text.size ≤ 1000000000)
  (hW : WdR w w.heap.size l Aw nw cw) (hl : l.length ≤ 400000) (hF : ∀ cs k, changesU l = some (cs, k) → Few cs k) (hs : Sp w) (hu : U8 w) (hy : Sty w) :
  Calls Tryz.prog 14 #[.agg (mdC m A n c), .slice Aw nw cw] w (MdR (hearV m l) w) := by
 have HP : Hid (∀ w', Below w.heap.size w w' → Calls Tryz.prog 31 #[.agg (mdC m A n c)] w' (Gives (.bool (properM m)) w')) := Lib.hid fun w' hb => proper_ m A n c w.heap.size rs w' ((rd.more hB).below hb) hb.size (fun x hx => ⟨Nat.le_trans (hM x hx) (by decide), hz x hx⟩) (hu.below hb)
 have HC : Hid (∀ w', Below w.heap.size w w' → Calls Tryz.prog 32 #[.slice Aw nw cw] w' (ChR (changesU l) w')) := Lib.hid fun w' hb => uchanges_ l Aw nw cw w' (wdr_more (hW.below hb) hb.size) hl (hs.below hb (Nat.le_refl _)) (hu.below hb) (hy.below hb (Nat.le_refl _))
 have HA : Hid (∀ cs out Ac nc cc w', Below w.heap.size w w' → (∃ k, Few cs k) → chgs out = cs → RdC w' w'.heap.size Ac nc out → nc ≤ cc → Calls Tryz.prog 33 #[.agg (vwC m.view A n c), .slice Ac nc cc] w' (ApR (applyV m.view cs) w')) := Lib.hid fun cs out Ac nc cc w' hb ⟨k, hf⟩ he hr hcc => by
  subst he
  have h1 : ∀ x ∈ out, x.c ∈ chgs out := fun x hx => List.mem_map_of_mem hx
  have h2 := hr.len
  have h3 := hf.len
  rw [chgs, List.length_map] at h3
  exact apply_ m.view A n c w'.heap.size rs out Ac nc cc w' (((rd.more hB).below hb).more hb.size) hr hcc (Nat.le_refl _) (fun x hx => by have := hM x hx; have := hf.sum; omega) hz (fun x hx => hf.gl _ (h1 x hx)) (by omega) (hu.below hb)
 have HF := Lib.hid hF
 unfold hearV MaxT
 clear rd hM hz hW hF hs hu hy
 obtain ⟨⟨W, H, rows, r, cl, vs⟩, U⟩ := m
 dsimp only at HP HA ⊢
 have hpr : properM ⟨⟨W, H, rows, r, cl, vs⟩, U⟩ = true → 0 ≤ U ∧ U ≤ 1099511627776 := fun h => by
  unfold properM MaxT at h
  exact (of_decide_eq_true h).2
 generalize properM ⟨⟨W, H, rows, r, cl, vs⟩, U⟩ = P at *
 cases P with
 | false =>
  rw [if_pos rfl]
  clear HC HA HF hpr
  go_enter Tryz.func14, Tryz.ntmps14
  go_upto_region 1 with fail
  refine wp_fg (HrX w ⟨⟨W, H, rows, r, cl, vs⟩, U⟩ A n c) ⟨(Blk.new_ rfl).below ((Below.refl _ _).alloc (Nat.le_refl _) _) (by simp), Blk.new_ (by simp), ((Below.refl _ _).alloc (Nat.le_refl _) _).alloc (by simp) _⟩ ?_
  intro X hX
  obtain ⟨c0, c1, c2, c3, c4, c5, c6, hl, hb⟩ := hX.facts
  go_upto_region 2 with (go_at_call 31; refine (HP.out _ hb).mono ?_; rintro e w1 ⟨rfl, hb1⟩; have hX1 := hX.on hb1; have hbw1 := hX1.2.2)
  have hZ := hX1.2.1
  obtain ⟨z0, z1, z2, z3, z4, z5, z6, y0, y1, y2, y3, y4, y5, y6⟩ := ZM.facts hZ
  go_wp2
  exact bodyPost_ret (results_ctmp rfl _ _ (w.heap.size + 1) 26 _ (0, 0) _ rfl (ZM.set7 hX1.2.1 md0 none 0 0) Tryz.underlying26 rfl info_model) rfl ⟨below_m7 hX1.2.2 (Nat.le_succ _) md0 none 0 0, none, 0, 0, [], rfl, OwV.none_ _ _⟩
 | true =>
  rw [if_neg (by simp)]
  have hU := hpr rfl
  clear hpr
  generalize changesU l = o at *
  cases o with
  | none =>
   dsimp only
   clear HA HF
   have h17 : ((17 : Int) != 0) = true := rfl
   go_enter Tryz.func14, Tryz.ntmps14
   go_upto_region 1 with fail
   refine wp_fg (HrX w ⟨⟨W, H, rows, r, cl, vs⟩, U⟩ A n c) ⟨(Blk.new_ rfl).below ((Below.refl _ _).alloc (Nat.le_refl _) _) (by simp), Blk.new_ (by simp), ((Below.refl _ _).alloc (Nat.le_refl _) _).alloc (by simp) _⟩ ?_
   intro X hX
   obtain ⟨c0, c1, c2, c3, c4, c5, c6, hl, hb⟩ := hX.facts
   go_upto_region 4 with (first | (go_at_call 31; refine (HP.out _ hb).mono ?_; rintro e w1 ⟨rfl, hb1⟩; have hX1 := hX.on hb1; have hbw1 := hX1.2.2) | (go_at_call 32; refine (HC.out _ hbw1).mono ?_; rintro e w2 ⟨hb2, rfl⟩; have hX2 := hX1.on hb2))
   have hZ := hX2.2.1
   obtain ⟨z0, z1, z2, z3, z4, z5, z6, y0, y1, y2, y3, y4, y5, y6⟩ := ZM.facts hZ
   go_wp2
   exact bodyPost_ret (results_ctmp rfl _ _ (w.heap.size + 1) 26 _ (0, 0) _ rfl (ZM.set7 hX2.2.1 md0 none 0 0) Tryz.underlying26 rfl info_model) rfl ⟨below_m7 hX2.2.2 (Nat.le_succ _) md0 none 0 0, none, 0, 0, [], rfl, OwV.none_ _ _⟩
  | some x =>
   obtain ⟨cs, k⟩ := x
   have hf := HF.out cs k rfl
   have hk := hf.num
   have HA2 : Hid (∀ out Ac nc cc w', Below w.heap.size w w' → chgs out = cs → RdC w' w'.heap.size Ac nc out → nc ≤ cc → Calls Tryz.prog 33 #[.agg (vwC ⟨W, H, rows, r, cl, vs⟩ A n c), .slice Ac nc cc] w' (ApR (applyV ⟨W, H, rows, r, cl, vs⟩ cs) w')) := Lib.hid fun out Ac nc cc w' hb he hr hcc => HA.out cs out Ac nc cc w' hb ⟨k, hf⟩ he hr hcc
   clear HA HF hf
   dsimp only
   generalize applyV ⟨W, H, rows, r, cl, vs⟩ cs = R at *
   obtain ⟨⟨vw, vh, vr, vy, vx, vv⟩, E⟩ := R
   dsimp only
   obtain ⟨RR, hRR⟩ : ∃ RR, Hid ((if E ≠ 0 then (md0, E) else if 1099511627776 < U + k then (md0, 5) else ((⟨⟨vw, vh, vr, vy, vx, vv⟩, U + k⟩ : Md), (0 : Int))) = RR) := ⟨_, Lib.hid rfl⟩
   rw [hRR.out]
   have h00 : ((0 : Int) != 0) = false := rfl
   have hwr : IntKind.i64.wrap (U + k) = U + k := by rw [IntKind.wrap_i64]; omega
   go_enter Tryz.func14, Tryz.ntmps14
   go_upto_region 1 with fail
   refine wp_fg (HrX w ⟨⟨W, H, rows, r, cl, vs⟩, U⟩ A n c) ⟨(Blk.new_ rfl).below ((Below.refl _ _).alloc (Nat.le_refl _) _) (by simp), Blk.new_ (by simp), ((Below.refl _ _).alloc (Nat.le_refl _) _).alloc (by simp) _⟩ ?_
   intro X hX
   obtain ⟨c0, c1, c2, c3, c4, c5, c6, hl, hb⟩ := hX.facts
   go_upto_region 4 with (first | (go_at_call 31; refine (HP.out _ hb).mono ?_; rintro e w1 ⟨rfl, hb1⟩; have hX1 := hX.on hb1; have hbw1 := hX1.2.2) | (go_at_call 32; refine (HC.out _ hbw1).mono ?_; rintro e w2 ⟨hb2, out, Ac, cc, he, rfl, ho, hg⟩))
   have hX2 := hX1.on hb2
   have hAp : Hid (Calls Tryz.prog 33 #[.agg (vwC ⟨W, H, rows, r, cl, vs⟩ A n c), .slice Ac out.length cc] w2 fun e w'' => ∃ A n c rs, ∃ i : Int, e = .returned (.tuple #[.agg #[.int .i64 vw, .int .i64 vh, .slice A n c, .int .i64 vy, .int .i64 vx, .bool vv], .int .i64 i, .int .i64 E]) ∧ OwV w2.heap.size w'' ⟨vw, vh, vr, vy, vx, vv⟩ A n c rs ∧ Below w2.heap.size w2 w'') :=
    Lib.hid ((HA2.out out Ac out.length cc w2 hX2.2.2 he (hg.rdc ho) (own_caps ho).1).mono fun e w'' ⟨h1, A, n, c, rs, i, h2, h3⟩ => ⟨A, n, c, rs, i, h2, h3, h1⟩)
   generalize out.length = no at *
   clear HP HC HA2 hg ho he hX1 hX hb1 hbw1 hb2 c0 c1 c2 c3 c4 c5 c6 hl hb
   obtain ⟨d0, d1, d2, d3, d4, d5, d6, hlY, hbY⟩ := HrX.facts hX2
   by_cases hE : E = 0
   ·subst hE
    have hR1 := hRR.out
    rw [if_neg (show ¬ ((0 : Int) ≠ 0) from fun h => h rfl)] at hR1
    have hRz := Lib.hid hR1
    clear hRR hR1
    go_upto_region 7 with (go_at_call 33; refine hAp.out.mono ?_; rintro e w3 ⟨A3, n3, e3, rs3, i3, rfl, hv, hb3⟩)
    have hzz := hb3.size
    refine wp_fg (fun Y => Below w2.heap.size w2 Y ∧ OwV w2.heap.size Y ⟨vw, vh, vr, vy, vx, vv⟩ A3 n3 e3 rs3 ∧ Blk Y w3.heap.size 24 (vwC ⟨vw, vh, vr, vy, vx, vv⟩ A3 n3 e3)) ⟨hb3.alloc hb3.size _, hv.below ((Below.refl _ _).alloc (Nat.le_refl _) _), Blk.new_ rfl⟩ ?_
    rintro Y ⟨hY, hoY, hBY⟩
    have hX3 := hX2.on hY
    have hZ := hX3.2.1
    obtain ⟨z0, z1, z2, z3, z4, z5, z6, y0, y1, y2, y3, y4, y5, y6⟩ := ZM.facts hZ
    have hl2 : w.heap.size + 1 < w2.heap.size := hlY
    clear hX2 d0 d1 d2 d3 d4 d5 d6 hlY hbY
    obtain ⟨d0, d1, d2, d3, d4, d5, d6, hlY, hbY⟩ := HrX.facts hX3
    clear d0 d1 d2 d3 d4 d5
    obtain ⟨v0, v1, v2, v3, v4, v5⟩ := vw_cells hBY
    dsimp only at v0 v1 v3 v4 v5
    have hng : w.heap.size + 1 ≠ w3.heap.size := by omega
    by_cases hT : 1099511627776 < U + k
    ·have hRe : Hid (RR = (md0, 5)) := Lib.hid (by rw [← hRz.out, if_pos hT])
     have hd : decide (1099511627776 < U + k) = true := decide_eq_true hT
     clear hRz hT
     go_wp2
     exact bodyPost_ret (results_ctmp rfl _ _ (w.heap.size + 1) 26 _ (0, 0) _ rfl (ZM.set7 hX3.2.1 md0 none 0 0) Tryz.underlying26 rfl info_model) rfl (by rw [hRe.out]; exact ⟨below_m7 hX3.2.2 (Nat.le_succ _) md0 none 0 0, none, 0, 0, [], rfl, OwV.none_ _ _⟩)
    ·have hRe : Hid (RR = (⟨⟨vw, vh, vr, vy, vx, vv⟩, U + k⟩, 0)) := Lib.hid (by rw [← hRz.out, if_neg hT])
     have hd : decide (1099511627776 < U + k) = false := decide_eq_false hT
     have hR := ZM.set7 hZ ⟨⟨vw, vh, vr, vy, vx, vv⟩, U + k⟩ A3 n3 e3
     have ho7 := Lib.hid (((((((hoY.far (p := ⟨w.heap.size + 1, 0, none⟩) (by show w.heap.size + 1 < w2.heap.size; omega) (.int .i64 vw)).far (p := ⟨w.heap.size + 1, 1, none⟩) (by show w.heap.size + 1 < w2.heap.size; omega) (.int .i64 vh)).far (p := ⟨w.heap.size + 1, 2, none⟩) (by show w.heap.size + 1 < w2.heap.size; omega) (.slice A3 n3 e3)).far (p := ⟨w.heap.size + 1, 3, none⟩) (by show w.heap.size + 1 < w2.heap.size; omega) (.int .i64 vy)).far (p := ⟨w.heap.size + 1, 4, none⟩) (by show w.heap.size + 1 < w2.heap.size; omega) (.int .i64 vx)).far (p := ⟨w.heap.size + 1, 5, none⟩) (by show w.heap.size + 1 < w2.heap.size; omega) (.bool vv)).far (p := ⟨w.heap.size + 1, 6, none⟩) (by show w.heap.size + 1 < w2.heap.size; omega) (.int .i64 (U + k)))
     have hb7 := below_m7 hX3.2.2 (Nat.le_succ _) ⟨⟨vw, vh, vr, vy, vx, vv⟩, U + k⟩ A3 n3 e3
     clear hoY hv hX3 hZ hBY hRz hT
     go_wp2
     exact bodyPost_ret (results_ctmp rfl _ _ (w.heap.size + 1) 26 _ (0, 0) _ rfl hR Tryz.underlying26 rfl info_model) rfl (by rw [hRe.out]; exact ⟨hb7, A3, n3, e3, rs3, rfl, ho7.out.less (by omega)⟩)
   ·have hRe : Hid (RR = (md0, E)) := Lib.hid (by rw [← hRR.out, if_pos hE])
    clear hRR
    have hEn : (E != 0) = true := bne_iff_ne.2 hE
    clear hE
    go_upto_region 7 with (go_at_call 33; refine hAp.out.mono ?_; rintro e w3 ⟨A3, n3, e3, rs3, i3, rfl, hv, hb3⟩)
    refine wp_fg (fun Y => Below w2.heap.size w2 Y) (hb3.alloc hb3.size _) ?_
    intro Y hY
    have hX3 := hX2.on hY
    have hZ := hX3.2.1
    obtain ⟨z0, z1, z2, z3, z4, z5, z6, y0, y1, y2, y3, y4, y5, y6⟩ := ZM.facts hZ
    clear hX2 d0 d1 d2 d3 d4 d5 d6
    go_wp2
    exact bodyPost_ret (results_ctmp rfl _ _ (w.heap.size + 1) 26 _ (0, 0) _ rfl (ZM.set7 hX3.2.1 md0 none 0 0) Tryz.underlying26 rfl info_model) rfl (by rw [hRe.out]; exact ⟨below_m7 hX3.2.2 (Nat.le_succ _) md0 none 0 0, none, 0, 0, [], rfl, OwV.none_ _ _⟩)
theorem num_len2 {l t : List ByteArray} {n : Int} (h : numO l = some (n, t)) : t.length + 1 ≤ l.length := by
 unfold numO at h
 rw [Option.map_eq_some_iff] at h
 obtain ⟨x, hp, e⟩ := h
 cases e
 obtain ⟨hk0, hkl, _⟩ := prefixL_some (n := x.1) (k := x.2) hp
 rw [List.length_drop]
 omega
theorem af_len2 {s : ByteArray} {l t : List ByteArray} {n : Int} (h : afO s l = some (n, t)) : t.length + 2 ≤ l.length := by
 unfold afO at h
 rw [Option.bind_eq_some_iff] at h
 obtain ⟨x, h1, h2⟩ := h
 have := sk_len h1
 have := num_len2 h2
 omega
theorem ins_len2 {l t : List ByteArray} {G : List Gl} (h : insL l = some (G, t)) : t.length ≤ l.length := by
 unfold insL at h
 split at h
 ·rw [Option.bind_eq_some_iff] at h
  obtain ⟨x, h1, h2⟩ := h
  have := sk_len h1
  have := (text_len h2).1
  omega
 ·cases h
  exact Nat.le_refl _
theorem chg_len4 {l t : List ByteArray} {c : Chg} (h : chgL l = some (c, t)) : t.length + 4 ≤ l.length := by
 unfold chgL at h
 split at h
 ·rw [Option.bind_eq_some_iff] at h
  obtain ⟨x, h1, h⟩ := h
  rw [Option.bind_eq_some_iff] at h
  obtain ⟨y, h2, h⟩ := h
  rw [Option.map_eq_some_iff] at h
  obtain ⟨u, h3, h⟩ := h
  cases h
  have := af_len2 h1
  have := af_len2 h2
  have := sk_len h3
  omega
 ·split at h
  ·rw [Option.bind_eq_some_iff] at h
   obtain ⟨x, h1, h⟩ := h
   rw [Option.bind_eq_some_iff] at h1
   obtain ⟨x0, h0, h1⟩ := h1
   rw [Option.bind_eq_some_iff] at h
   obtain ⟨y, h2, h⟩ := h
   have := sk_len h0
   have := af_len2 h1
   have := af_len2 h2
   split at h
   ·rw [Option.bind_eq_some_iff] at h
    obtain ⟨z, h3, h⟩ := h
    have := af_len h3
    split at h
    ·cases h
    ·cases h
     omega
   ·rw [Option.bind_eq_some_iff] at h
    obtain ⟨z, h3, h⟩ := h
    have := af_len h3
    split at h
    ·cases h
    ·cases h
     omega
  ·split at h
   ·unfold spliceL at h
    rw [Option.bind_eq_some_iff] at h
    obtain ⟨x, h1, h⟩ := h
    rw [Option.bind_eq_some_iff] at h
    obtain ⟨y, h2, h⟩ := h
    rw [Option.bind_eq_some_iff] at h
    obtain ⟨z, h3, h⟩ := h
    rw [Option.map_eq_some_iff] at h
    obtain ⟨g, h4, h⟩ := h
    cases h
    have := af_len2 h1
    have := af_len2 h2
    have := del_len h3
    have := ins_len2 h4
    omega
   ·split at h
    ·rw [Option.bind_eq_some_iff] at h
     obtain ⟨x, h1, h⟩ := h
     rw [Option.bind_eq_some_iff] at h1
     obtain ⟨x0, h0, h1⟩ := h1
     rw [Option.bind_eq_some_iff] at h
     obtain ⟨y, h2, h⟩ := h
     have := sk_len h0
     have := af_len2 h1
     have := af_len2 h2
     split at h
     ·rw [Option.map_eq_some_iff] at h
      obtain ⟨u, h3, h⟩ := h
      cases h
      have := sk_len h3
      omega
     ·rw [Option.map_eq_some_iff] at h
      obtain ⟨u, h3, h⟩ := h
      cases h
      have := sk_len h3
      omega
    ·cases h
theorem chgs_count : ∀ (f : Nat) (l : List ByteArray) (acc m : List Chg) (n : Int), chgsL f l acc = some (m, n) → 4 * m.length ≤ 4 * acc.length + l.length
 | 0, l, acc, m, n, h => by cases h
 | f + 1, l, acc, m, n, h => by
  rw [chgsL] at h
  split at h
  ·rw [Option.map_eq_some_iff] at h
   obtain ⟨x, _, h⟩ := h
   cases h
   omega
  ·rw [Option.bind_eq_some_iff] at h
   obtain ⟨x, h1, h⟩ := h
   split at h
   ·have := chgs_count f x.2 (acc ++ [x.1]) m n h
    have := chg_len4 (c := x.1) (t := x.2) h1
    rw [List.length_append, List.length_cons, List.length_nil] at *
    omega
   ·cases h
theorem changes_count {l : List ByteArray} {m : List Chg} {n : Int} (h : changesU l = some (m, n)) : 4 * m.length ≤ l.length := by
 have := chgs_count _ _ _ _ _ h
 simp only [List.length_nil] at this
 omega
theorem glN_le {cs : List Chg} (h : ∀ c ∈ cs, c.glyphs.length ≤ 132) : glN cs ≤ cs.length * 396 := by
 induction cs with
 | nil => simp [glN]
 | cons c t ih =>
  rw [glN_cons, List.length_cons]
  have h1 := h c (by simp)
  have h2 := ih fun x hx => h x (by simp [hx])
  omega
theorem few_chk {cs : List Chg} {k : Int} (h : ∀ c ∈ cs, chkU c = 0) (hk : 0 ≤ k ∧ k ≤ 999999999) (hl : cs.length ≤ 100000) : Few cs k := by
 have hg : ∀ c ∈ cs, c.glyphs.length ≤ 132 := fun c hc => (chk_gl (h c hc)).1
 have := glN_le hg
 refine ⟨by omega, fun c hc => ⟨by have := hg c hc; omega, fun g hg2 => ?_⟩, by omega, hk.1, by omega⟩
 have := (gw_of ((chk_gl (h c hc)).2.1 g hg2)).2
 omega
theorem few_of {l : List ByteArray} (hl : l.length ≤ 400000) : ∀ cs k, changesU l = some (cs, k) → Few cs k := fun cs k h => by
 obtain ⟨h1, h2⟩ := changes_range h
 have := changes_count h
 exact few_chk h1 h2 (by omega)
set_option maxHeartbeats 1000000 in
theorem rlong42_ (l : List ByteArray) (A : Option Addr) (n c B : Nat) (w : World) (hm : n ≤ maxLen) (rd : Rd w B 1 A n (sv l)) :
  Calls Tryz.prog 12 #[.slice A n c] w fun e w' => e = .returned (.bool (!shortW 300 200 l)) ∧ w' = w := by
 have HN : Hid (l.length = n) := Lib.hid (by have := rd.1; rw [sv_len] at this; omega)
 have hmm : n ≤ 9223372036854775807 := by unfold maxLen at hm; omega
 unfold shortW
 rw [HN.out]
 clear hm
 by_cases h0 : n ≤ 300
 ·rw [decide_eq_true h0, Bool.true_and]
  have hi : (n : Int) ≤ 300 := by omega
  have H0 : Hid ((l.all fun s => decide (s.size ≤ 200)) = ((l.drop 0).all fun s => decide (s.size ≤ 200))) := Lib.hid rfl
  generalize (l.all fun s => decide (s.size ≤ 200)) = R at *
  clear h0
  go_enter Tryz.func12, Tryz.ntmps12
  go_wp2
  go_loop [3] (fun x => ∃ k : Nat, k ≤ n ∧ x = .int .i64 k ∧ Hid (R = ((l.drop k).all fun s => decide (s.size ≤ 200)))) (fun x => n - (intOf x).toNat)
  case atStart => exact ⟨0, Nat.zero_le _, rfl, H0⟩
  case round =>
   obtain ⟨k, hk, rfl, HK⟩ := hrel
   by_cases hlt : k < n
   ·have hkl : k < l.length := by have := HN.out; omega
    obtain ⟨b, o, rfl, _, g0⟩ := rd.at_ hlt
    rw [sv_get _ _ hkl] at g0
    have HD := Lib.hid (all_drop (fun s : ByteArray => decide (s.size ≤ 200)) hkl)
    generalize l[k] = t at *
    by_cases hz : t.size ≤ 200
    ·have HR2 : Hid (R = ((l.drop (k + 1)).all fun s => decide (s.size ≤ 200))) := Lib.hid (by rw [HK.out, HD.out, decide_eq_true hz]; rfl)
     have hzi : (t.size : Int) ≤ 200 := by omega
     clear HK HD hz
     go_wp2
     exact ⟨⟨k + 1, by omega, by go_num, HR2⟩, by simp [intOf]; omega⟩
    ·have HR2 : Hid (R = false) := Lib.hid (by rw [HK.out, HD.out, decide_eq_false hz]; rfl)
     have hzi : (200 : Int) < (t.size : Int) := by omega
     clear HK HD hz
     go_wp2
     go_ret
     exact ⟨by rw [HR2.out]; rfl, rfl⟩
   ·have HR2 : Hid (R = true) := Lib.hid (by rw [HK.out, List.drop_of_length_le (by have := HN.out; omega)]; rfl)
    go_wp2
    go_ret
    exact ⟨by rw [HR2.out]; rfl, rfl⟩
 ·rw [decide_eq_false h0, Bool.false_and]
  have hi : (300 : Int) < (n : Int) := by omega
  clear h0 rd HN
  go_enter Tryz.func12, Tryz.ntmps12
  go_wp2
  go_ret
  exact ⟨rfl, rfl⟩
def greatV (v : Vw) : Bool := decide (12 < v.rows.length) || (decide (40 < v.width) && decide (2 < v.rows.length)) || v.rows.any greatR
set_option maxHeartbeats 4000000 in
theorem rgreat15_ (v : Vw) (A : Option Addr) (n c B : Nat) (rs : List RowM) (w : World) (rd : RdV w B v A n c rs) (hB : B ≤ w.heap.size) :
  Calls Tryz.prog 11 #[.agg (vwC v A n c)] w (Gives (.bool (greatV v)) w) := by
 have HN : Hid (rs.length = n) := Lib.hid rd.1.len
 have hnm : n ≤ 9223372036854775807 := by have h1 := rd.2.2.1; have h2 := rd.2.2.2; unfold maxLen at h2; omega
 have HA : Hid (∀ k (hk : k < rs.length) w', Below w.heap.size w w' → ∃ b o, A = some ⟨b, o, none⟩ ∧ b < w.heap.size ∧ w'.cell? ⟨b, o + k, none⟩ = some (.slice rs[k].A rs[k].l.length rs[k].cap)) := Lib.hid fun k hk w' hb => ((rd.1.more hB).below hb).at_ hk
 have HG : Hid (∀ x ∈ rs, ∀ w', Below w.heap.size w w' → Calls Tryz.prog 28 #[.slice x.A x.l.length x.cap] w' fun e w'' => e = .returned (.bool (greatR x.l)) ∧ w'' = w') := Lib.hid fun x hx w' hb => greatrow_ _ _ _ _ w.heap.size w' (Nat.le_trans (rd.1.gl x hx).2.1 (rd.1.gl x hx).2.2) (((rd.1.gl x hx).1.more hB).below hb)
 have hgv : greatV v = (decide (12 < n) || (decide (40 < v.width) && decide (2 < n)) || (rls rs).any greatR) := by unfold greatV; rw [rd.len, rd.2.1]
 rw [hgv]
 have H0 : Hid ((rls rs).any greatR = ((rls rs).drop 0).any greatR) := Lib.hid rfl
 generalize hR : (rls rs).any greatR = R at *
 clear rd hgv hR
 obtain ⟨W, Hh, rows, row, col, vis⟩ := v
 dsimp only
 by_cases h1 : 12 < n
 ·have d1 : decide ((12 : Int) < (n : Int)) = true := decide_eq_true (by omega)
  rw [decide_eq_true h1, Bool.true_or, Bool.true_or]
  clear h1
  clear HA HG H0 HN
  go_enter Tryz.func11, Tryz.ntmps11
  go_upto_region 1 with fail
  refine wp_fg (VwBox w ⟨W, Hh, rows, row, col, vis⟩ A n c) (VwBox.new w ⟨W, Hh, rows, row, col, vis⟩ A n c) ?_
  intro X hX
  obtain ⟨c0, c1, c2, c3, c4, c5⟩ := hX.cells
  have hb := hX.2
  have hzX := hX.lt
  dsimp only at c0 c1 c2 c3 c4 c5
  go_wp2
  go_ret
  exact ⟨rfl, hb⟩
 ·have d1 : decide ((12 : Int) < (n : Int)) = false := decide_eq_false (by omega)
  rw [decide_eq_false h1, Bool.false_or]
  clear h1
  by_cases h2 : 40 < W
  ·have d2 : decide ((40 : Int) < W) = true := decide_eq_true h2
   rw [d2, Bool.true_and]
   clear h2
   by_cases h3 : 2 < n
   ·have d3 : decide ((2 : Int) < (n : Int)) = true := decide_eq_true (by omega)
    rw [decide_eq_true h3, Bool.true_or]
    clear h3
    clear HA HG H0 HN
    go_enter Tryz.func11, Tryz.ntmps11
    go_upto_region 1 with fail
    refine wp_fg (VwBox w ⟨W, Hh, rows, row, col, vis⟩ A n c) (VwBox.new w ⟨W, Hh, rows, row, col, vis⟩ A n c) ?_
    intro X hX
    obtain ⟨c0, c1, c2, c3, c4, c5⟩ := hX.cells
    have hb := hX.2
    have hzX := hX.lt
    dsimp only at c0 c1 c2 c3 c4 c5
    go_wp2
    go_ret
    exact ⟨rfl, hb⟩
   ·have d3 : decide ((2 : Int) < (n : Int)) = false := decide_eq_false (by omega)
    rw [decide_eq_false h3, Bool.false_or]
    clear h3
    go_enter Tryz.func11, Tryz.ntmps11
    go_upto_region 1 with fail
    refine wp_fg (VwBox w ⟨W, Hh, rows, row, col, vis⟩ A n c) (VwBox.new w ⟨W, Hh, rows, row, col, vis⟩ A n c) ?_
    intro X hX
    obtain ⟨c0, c1, c2, c3, c4, c5⟩ := hX.cells
    have hb := hX.2
    have hzX := hX.lt
    dsimp only at c0 c1 c2 c3 c4 c5
    go_wp2
    go_loopw [3] (fun x wr => ∃ k : Nat, k ≤ n ∧ x = .int .i64 k ∧ VwBox w ⟨W, Hh, rows, row, col, vis⟩ A n c wr ∧ Hid (R = ((rls rs).drop k).any greatR)) (fun x _ => n - (intOf x).toNat)
    case atStart => exact ⟨0, Nat.zero_le _, rfl, hX, H0⟩
    case round =>
     clear c0 c1 c2 c3 c4 c5 hX hb hzX H0
     obtain ⟨k, hk, rfl, hX, HK⟩ := hrel
     obtain ⟨c0, c1, c2, c3, c4, c5⟩ := hX.cells
     have hb := hX.2
     dsimp only at c0 c1 c2 c3 c4 c5
     by_cases hlt : k < n
     ·have hkl : k < rs.length := by have := HN.out; omega
      obtain ⟨b, o, rfl, _, g0⟩ := HA.out k hkl _ hb
      have HD : Hid (((rls rs).drop k).any greatR = (greatR rs[k].l || ((rls rs).drop (k + 1)).any greatR)) := Lib.hid (by rw [any_drop greatR (by rw [rls_len]; exact hkl), rls_get hkl])
      have HC := Lib.hid (HG.out _ (List.getElem_mem hkl))
      generalize rs[k] = x at *
      obtain ⟨l, Al, cl⟩ := x
      dsimp only at *
      have hki : (k : Int) < n := by omega
      cases hgr : greatR l with
      | true =>
       rw [hgr] at HC HD
       have HR2 : Hid (R = true) := Lib.hid (by rw [HK.out, HD.out]; rfl)
       clear HK HD hgr
       go_wp2_with (go_at_call 28; refine (HC.out _ hb).mono ?_; rintro e w1 ⟨rfl, rfl⟩)
       go_ret
       exact ⟨by rw [HR2.out]; rfl, hb⟩
      | false =>
       rw [hgr] at HC HD
       have HR2 : Hid (R = ((rls rs).drop (k + 1)).any greatR) := Lib.hid (by rw [HK.out, HD.out]; rfl)
       clear HK HD hgr
       go_wp2_with (go_at_call 28; refine (HC.out _ hb).mono ?_; rintro e w1 ⟨rfl, rfl⟩)
       exact ⟨⟨k + 1, by omega, by go_num, hX, HR2⟩, by simp [intOf]; omega⟩
     ·have HR2 : Hid (R = false) := Lib.hid (by rw [HK.out, List.drop_of_length_le (by rw [rls_len]; have := HN.out; omega)]; rfl)
      obtain rfl : k = n := by omega
      go_wp2
      go_ret
      exact ⟨by rw [HR2.out]; rfl, hb⟩
  ·have d2 : decide ((40 : Int) < W) = false := decide_eq_false h2
   rw [d2, Bool.false_and, Bool.false_or]
   clear h2
   go_enter Tryz.func11, Tryz.ntmps11
   go_upto_region 1 with fail
   refine wp_fg (VwBox w ⟨W, Hh, rows, row, col, vis⟩ A n c) (VwBox.new w ⟨W, Hh, rows, row, col, vis⟩ A n c) ?_
   intro X hX
   obtain ⟨c0, c1, c2, c3, c4, c5⟩ := hX.cells
   have hb := hX.2
   have hzX := hX.lt
   dsimp only at c0 c1 c2 c3 c4 c5
   go_wp2
   go_loopw [3] (fun x wr => ∃ k : Nat, k ≤ n ∧ x = .int .i64 k ∧ VwBox w ⟨W, Hh, rows, row, col, vis⟩ A n c wr ∧ Hid (R = ((rls rs).drop k).any greatR)) (fun x _ => n - (intOf x).toNat)
   case atStart => exact ⟨0, Nat.zero_le _, rfl, hX, H0⟩
   case round =>
    clear c0 c1 c2 c3 c4 c5 hX hb hzX H0
    obtain ⟨k, hk, rfl, hX, HK⟩ := hrel
    obtain ⟨c0, c1, c2, c3, c4, c5⟩ := hX.cells
    have hb := hX.2
    dsimp only at c0 c1 c2 c3 c4 c5
    by_cases hlt : k < n
    ·have hkl : k < rs.length := by have := HN.out; omega
     obtain ⟨b, o, rfl, _, g0⟩ := HA.out k hkl _ hb
     have HD : Hid (((rls rs).drop k).any greatR = (greatR rs[k].l || ((rls rs).drop (k + 1)).any greatR)) := Lib.hid (by rw [any_drop greatR (by rw [rls_len]; exact hkl), rls_get hkl])
     have HC := Lib.hid (HG.out _ (List.getElem_mem hkl))
     generalize rs[k] = x at *
     obtain ⟨l, Al, cl⟩ := x
     dsimp only at *
     have hki : (k : Int) < n := by omega
     cases hgr : greatR l with
     | true =>
      rw [hgr] at HC HD
      have HR2 : Hid (R = true) := Lib.hid (by rw [HK.out, HD.out]; rfl)
      clear HK HD hgr
      go_wp2_with (go_at_call 28; refine (HC.out _ hb).mono ?_; rintro e w1 ⟨rfl, rfl⟩)
      go_ret
      exact ⟨by rw [HR2.out]; rfl, hb⟩
     | false =>
      rw [hgr] at HC HD
      have HR2 : Hid (R = ((rls rs).drop (k + 1)).any greatR) := Lib.hid (by rw [HK.out, HD.out]; rfl)
      clear HK HD hgr
      go_wp2_with (go_at_call 28; refine (HC.out _ hb).mono ?_; rintro e w1 ⟨rfl, rfl⟩)
      exact ⟨⟨k + 1, by omega, by go_num, hX, HR2⟩, by simp [intOf]; omega⟩
    ·have HR2 : Hid (R = false) := Lib.hid (by rw [HK.out, List.drop_of_length_le (by rw [rls_len]; have := HN.out; omega)]; rfl)
     obtain rfl : k = n := by omega
     go_wp2
     go_ret
     exact ⟨by rw [HR2.out]; rfl, hb⟩
def textV (l : List Gl) : ByteArray := l.foldl (fun s g => s ++ g.text) ⟨#[]⟩
theorem text_take {l : List Gl} {k : Nat} (h : k < l.length) : textV (l.take (k + 1)) = textV (l.take k) ++ l[k].text := by
 unfold textV
 rw [List.take_succ_eq_append_getElem h, List.foldl_append]
 rfl
theorem text_size {l : List Gl} {M : Nat} (h : ∀ g ∈ l, g.text.size ≤ M) : ∀ k, k ≤ l.length → (textV (l.take k)).size ≤ k * M := by
 intro k
 induction k with
 | zero => intro _; rw [List.take_zero, Nat.zero_mul]; exact Nat.le_refl _
 | succ k ih =>
  intro hk
  have h1 := ih (by omega)
  have h2 := h _ (List.getElem_mem (show k < l.length by omega))
  rw [text_take (by omega), ByteArray.size_append, Nat.add_mul]
  omega
set_option maxHeartbeats 4000000 in
theorem rtext15_ (l : List Gl) (A : Option Addr) (n c B : Nat) (w : World) (rd : Rd w B 3 A n (encGs l)) (hn : n ≤ 1000) (hz : ∀ g ∈ l, g.text.size ≤ 1000) :
  Calls Tryz.prog 30 #[.slice A n c] w fun e w' => e = .returned (.string (textV l)) ∧ w' = w := by
 have HN := Lib.hid (gl_len rd)
 have hT : Hid (∀ k, k ≤ n → (textV (l.take k)).size ≤ 1000000) := Lib.hid fun k hk => by
  have h1 := text_size hz k (by have := HN.out; omega)
  have : k * 1000 ≤ 1000 * 1000 := Nat.mul_le_mul_right _ (by omega)
  omega
 have hZ := Lib.hid hz
 clear hz
 have HE : Hid (textV l = textV (l.take n)) := Lib.hid (by rw [← HN.out, List.take_length])
 rw [HE.out]
 go_enter Tryz.func30, Tryz.ntmps30
 go_wp2
 go_loop [3, 4] (fun s x => ∃ k : Nat, k ≤ n ∧ x = .int .i64 k ∧ s = .string (textV (l.take k))) (fun _ x => n - (intOf x).toNat)
 case atStart => exact ⟨0, Nat.zero_le _, rfl, rfl⟩
 case round =>
  obtain ⟨k, hk, rfl, rfl⟩ := hrel
  by_cases hlt : k < n
  ·have hkl : k < l.length := by have := HN.out; omega
   obtain ⟨b, o, rfl, _, g0, _, _⟩ := rd_gl rd hkl (gl_len rd)
   have HD := Lib.hid (text_take hkl)
   have h1 := hT.out k hk
   have h2 := hZ.out _ (List.getElem_mem hkl)
   generalize l[k] = g at *
   obtain ⟨t, wd, st⟩ := g
   dsimp only at *
   generalize hS : textV (l.take k) = S at *
   have hki : (k : Int) < n := by omega
   have hsum : S.size + t.size ≤ 9223372036854775807 := by omega
   clear hS
   go_wp2
   exact ⟨⟨k + 1, by omega, by go_num, by rw [HD.out]⟩, by simp [intOf]; omega⟩
  ·obtain rfl : k = n := by omega
   go_wp2
   go_ret
   exact ⟨rfl, rfl⟩
end Go.Proofs.YtholajadbbdcmaaGreatDoor
