/- Joined texts: LxS. -/
import Derived.Test.YtholajadbbdcmaaGreatDoorQAA
import Derived.Test.YtholajadbbdcmaaGreatDoorQAB
import Derived.Test.YtholajadbbdcmaaGreatDoorQAC
import Derived.Test.YtholajadbbdcmaaGreatDoorQAD
import Derived.Test.YtholajadbbdcmaaGreatDoorQAG
import Derived.Test.YtholajadbbdcmaaGreatDoorQAH
import Derived.Test.YtholajadbbdcmaaGreatDoorQAI
import Derived.Test.YtholajadbbdcmaaGreatDoorQAM
import Derived.Test.YtholajadbbdcmaaGreatDoorQAN
import Derived.Test.YtholajadbbdcmaaGreatDoorQAQ
import Derived.Test.YtholajadbbdcmaaGreatDoorQAS
import Derived.Test.YtholajadbbdcmaaGreatDoorQAU
import Derived.Test.YtholajadbbdcmaaGreatDoorQAY
import Derived.Test.YtholajadbbdcmaaGreatDoorQBB
import Derived.Test.YtholajadbbdcmaaGreatDoorQBC
import Derived.Test.YtholajadbbdcmaaGreatDoorQBD
import Derived.Test.YtholajadbbdcmaaGreatDoorQBF
import Derived.Test.YtholajadbbdcmaaGreatDoorQBG
import Derived.Test.YtholajadbbdcmaaGreatDoorQBH
import Derived.Test.YtholajadbbdcmaaGreatDoorQBM
import Derived.Test.YtholajadbbdcmaaGreatDoorQBN
import Derived.Test.YtholajadbbdcmaaGreatDoorQBQ
import Derived.Test.YtholajadbbdcmaaGreatDoorQBU
import Derived.Test.YtholajadbbdcmaaGreatDoorQBV
import Derived.Test.YtholajadbbdcmaaGreatDoorQBW
import Derived.Test.YtholajadbbdcmaaGreatDoorQBX
import Derived.Test.YtholajadbbdcmaaGreatDoorQBY
import Derived.Test.YtholajadbbdcmaaGreatDoorQCA
import Derived.Test.YtholajadbbdcmaaGreatDoorQCB
import Derived.Test.YtholajadbbdcmaaGreatDoorQCC
import Derived.Test.YtholajadbbdcmaaGreatDoorQCD
import Derived.Test.YtholajadbbdcmaaGreatDoorQCE
import Derived.Test.YtholajadbbdcmaaGreatDoorQDW
import Derived.Test.YtholajadbbdcmaaGreatDoorQDX
import Derived.Test.YtholajadbbdcmaaGreatDoorQHS
set_option linter.unusedVariables false
set_option linter.unusedSimpArgs false
set_option linter.unnecessarySimpa false
namespace Go.Proofs.YtholajadbbdcmaaGreatDoor
open Go.RowKit
set_option maxRecDepth 20000
theorem hear_silent {m : Md} (hp : properM m = true) {k : Int} (h0 : 0 ≤ k) (hk : k ≤ 999999999) (hu : m.upd + k ≤ 1099511627776) : hearV m (endW k) = (⟨m.view, m.upd + k⟩, 0) := by
 have hc : changesU (endW k) = some ([], k) := by
  unfold changesU
  rw [chgsL, if_pos (end_say h0 hk).2.1, (end_say h0 hk).1]
  rfl
 have hv : viewC m.view = 0 := by
  unfold properM at hp
  exact (of_decide_eq_true hp).1
 unfold hearV
 rw [if_neg (by rw [hp]; decide), hc]
 dsimp only
 rw [apply_nil hv]
 rw [if_neg (fun h => h rfl), if_neg (by unfold MaxT; omega)]
theorem end_sz {k : Int} (h0 : 0 ≤ k) (hk : k ≤ 999999999) : (endW k).length ≤ 400000 ∧ ∀ s ∈ endW k, s.size ≤ 1000 := by
 obtain ⟨h1, h2⟩ := end_bound h0 hk
 exact ⟨by omega, h2⟩
theorem wf_u16 {a : Int} (h : (Lit.int .u16 a).wf = true) : 0 ≤ a ∧ a ≤ 65535 := by
 simp [Lit.wf] at h
 have h1 : IntKind.u16.min = 0 := rfl
 have h2 : IntKind.u16.max = 65535 := rfl
 omega
theorem endW_0 : endW 0 = [bMore] := rfl
theorem endW_1 : endW 1 = [bDone] := rfl
set_option maxHeartbeats 8000000 in
theorem law_ListenerSilence (w : World) (hg : Gd w ∧ Tb w) (m : Md) (A : Option Addr) (n c : Nat) (rs : List RowM) (rd : RdV w w.heap.size m.view A n c rs) (a : Int) (wa : (Lit.int .u16 a).wf = true) :
  Calls Tryz.prog 8 #[.agg (mdC m A n c), .int .u16 a] w (Gives (.bool true) w) := by
 obtain ⟨hg, ht⟩ := hg
 have HA : Hid (∀ X, Below w.heap.size w X → Calls Tryz.prog 13 #[] X fun e X' => e = .returned (.bool true) ∧ Below w.heap.size w X' ∧ Below X.heap.size X X') := Lib.hid fun X hX => bothG (awake42_ X (hg.below hX)) hX
 have HG : Hid (∀ X, Below w.heap.size w X → Calls Tryz.prog 11 #[.agg (vwC m.view A n c)] X fun e X' => e = .returned (.bool (greatV m.view)) ∧ Below w.heap.size w X' ∧ Below X.heap.size X X') := Lib.hid fun X hX => bothG (rgreat15_ m.view A n c w.heap.size rs X (rd.below hX) hX.size) hX
 cases hgr : greatV m.view with
 | true =>
  rw [hgr] at HG
  clear hg rd hgr ht
  obtain ⟨⟨W, H, rows, r, cl, vs⟩, U⟩ := m
  dsimp only at HG
  go_enter Tryz.func8, Tryz.ntmps8
  go_upto_region 1 with fail
  refine wp_fg (fun X => Blk X w.heap.size 26 (mdC ⟨⟨W, H, rows, r, cl, vs⟩, U⟩ A n c) ∧ Below w.heap.size w X) ⟨Blk.new_ rfl, (Below.refl _ _).alloc (Nat.le_refl _) _⟩ ?_
  rintro X ⟨hM, hb⟩
  obtain ⟨c0, c1, c2, c3, c4, c5, c6, -, -, -, -, -, -, -⟩ := md_facts hM
  have hlM := hM.lt
  dsimp only at c0 c1 c3 c4 c5 c6
  go_wp2_with (first | (go_at_call 11; refine (HG.out _ hb).mono ?_; rintro e w1 ⟨rfl, hb1, hx1⟩; have hM1 := hM.below hx1 hlM; have hl1 := hM1.lt; obtain ⟨d_0, d_1, d_2, d_3, d_4, d_5, d_6, -, -, -, -, -, -, -⟩ := md_facts hM1; dsimp only at d_0 d_1 d_3 d_4 d_5 d_6) | (go_at_call 13; refine (HA.out _ (by assumption)).mono ?_; rintro e wa ⟨rfl, hba, hxa⟩))
  go_ret
  exact ⟨rfl, hba⟩
 | false =>
  rw [hgr] at HG
  have hsm : ∀ x ∈ rs, x.l.length ≤ 140 ∧ ∀ g ∈ x.l, g.text.size ≤ 40 := fun x hx => great_small hgr x.l (by rw [rd.2.1]; exact rls_mem hx)
  have HP : Hid (∀ X, Below w.heap.size w X → Calls Tryz.prog 18 #[.agg (mdC m A n c)] X fun e X' => e = .returned (.bool (properM m)) ∧ Below w.heap.size w X' ∧ Below X.heap.size X X') := Lib.hid fun X hX => bothG (rproper42_ m A n c w.heap.size rs X (rd.below hX) hX.size fun x hx => ⟨Nat.le_trans (hsm x hx).1 (by decide), fun g hg => Nat.le_trans ((hsm x hx).2 g hg) (by decide)⟩) hX
  cases hpr : properM m with
  | false =>
   rw [hpr] at HP
   clear hg rd hgr ht hsm hpr
   obtain ⟨⟨W, H, rows, r, cl, vs⟩, U⟩ := m
   dsimp only at HG
   go_enter Tryz.func8, Tryz.ntmps8
   go_upto_region 1 with fail
   refine wp_fg (fun X => Blk X w.heap.size 26 (mdC ⟨⟨W, H, rows, r, cl, vs⟩, U⟩ A n c) ∧ Below w.heap.size w X) ⟨Blk.new_ rfl, (Below.refl _ _).alloc (Nat.le_refl _) _⟩ ?_
   rintro X ⟨hM, hb⟩
   obtain ⟨c0, c1, c2, c3, c4, c5, c6, -, -, -, -, -, -, -⟩ := md_facts hM
   have hlM := hM.lt
   dsimp only at c0 c1 c3 c4 c5 c6
   go_wp2_with (first | (go_at_call 11; refine (HG.out _ hb).mono ?_; rintro e w1 ⟨rfl, hb1, hx1⟩; have hM1 := hM.below hx1 hlM; have hl1 := hM1.lt; obtain ⟨d_0, d_1, d_2, d_3, d_4, d_5, d_6, -, -, -, -, -, -, -⟩ := md_facts hM1; dsimp only at d_0 d_1 d_3 d_4 d_5 d_6) | (go_at_call 18; refine (HP.out _ (by assumption)).mono ?_; rintro e wp ⟨rfl, hbp, hxp⟩; have hMp := Blk.below (by assumption) hxp (by assumption); have hlp := hMp.lt; obtain ⟨p_0, p_1, p_2, p_3, p_4, p_5, p_6, -, -, -, -, -, -, -⟩ := md_facts hMp; dsimp only at p_0 p_1 p_3 p_4 p_5 p_6) | (go_at_call 13; refine (HA.out _ (by assumption)).mono ?_; rintro e wa ⟨rfl, hba, hxa⟩))
   go_ret
   exact ⟨rfl, hba⟩
  | true =>
   rw [hpr] at HP
   by_cases hU : 549755813888 < m.upd
   ·clear hg rd hgr ht hsm hpr
    obtain ⟨⟨W, H, rows, r, cl, vs⟩, U⟩ := m
    dsimp only at HG hU
    go_enter Tryz.func8, Tryz.ntmps8
    go_upto_region 1 with fail
    refine wp_fg (fun X => Blk X w.heap.size 26 (mdC ⟨⟨W, H, rows, r, cl, vs⟩, U⟩ A n c) ∧ Below w.heap.size w X) ⟨Blk.new_ rfl, (Below.refl _ _).alloc (Nat.le_refl _) _⟩ ?_
    rintro X ⟨hM, hb⟩
    obtain ⟨c0, c1, c2, c3, c4, c5, c6, -, -, -, -, -, -, -⟩ := md_facts hM
    have hlM := hM.lt
    dsimp only at c0 c1 c3 c4 c5 c6
    go_wp2_with (first | (go_at_call 11; refine (HG.out _ hb).mono ?_; rintro e w1 ⟨rfl, hb1, hx1⟩; have hM1 := hM.below hx1 hlM; have hl1 := hM1.lt; obtain ⟨d_0, d_1, d_2, d_3, d_4, d_5, d_6, -, -, -, -, -, -, -⟩ := md_facts hM1; dsimp only at d_0 d_1 d_3 d_4 d_5 d_6) | (go_at_call 18; refine (HP.out _ (by assumption)).mono ?_; rintro e wp ⟨rfl, hbp, hxp⟩; have hMp := Blk.below (by assumption) hxp (by assumption); have hlp := hMp.lt; obtain ⟨p_0, p_1, p_2, p_3, p_4, p_5, p_6, -, -, -, -, -, -, -⟩ := md_facts hMp; dsimp only at p_0 p_1 p_3 p_4 p_5 p_6) | (go_at_call 13; refine (HA.out _ (by assumption)).mono ?_; rintro e wa ⟨rfl, hba, hxa⟩))
    go_ret
    exact ⟨rfl, hba⟩
   ·obtain ⟨ha0, ha1⟩ := wf_u16 wa
    have hup : 0 ≤ m.upd := by
     unfold properM at hpr
     exact (of_decide_eq_true hpr).2.1
    have hs := hsm
    have HH : ∀ k : Int, 0 ≤ k → k ≤ 65535 → ∀ X Aw cw, Below w.heap.size w X → Rd X X.heap.size 1 Aw (endW k).length (sv (endW k)) → (endW k).length ≤ cw → cw ≤ maxLen → Calls Tryz.prog 14 #[.agg (mdC m A n c), .slice Aw (endW k).length cw] X fun e X' => (∃ A4 n4 d4, e = .returned (.tuple #[.agg (mdC ⟨m.view, m.upd + k⟩ A4 n4 d4), .int .i64 0]) ∧ ∃ rs4, RdV X' X'.heap.size m.view A4 n4 d4 rs4) ∧ Below w.heap.size w X' ∧ Below X.heap.size X X' := fun k h0 h1 X Aw cw hX hr hc hm => by
     obtain ⟨e1, e2⟩ := end_sz h0 (by omega)
     have hg' := hg.below hX
     have := hear_ m A n c X.heap.size rs (endW k) Aw (endW k).length cw X ((rd.below hX).more hX.size) (Nat.le_refl _) (fun y hy => by have := (hs y hy).1; omega) (fun y hy g hg => by have := (hs y hy).2 g hg; omega) ⟨rfl, hc, hm, hr, e2⟩ e1 (few_of e1) hg'.1 hg'.2.1 hg'.2.2
     rw [hear_silent hpr h0 (by omega) (by omega)] at this
     exact this.mono fun e X' ⟨h1, A4, n4, d4, rs4, h2, h3⟩ => ⟨⟨A4, n4, d4, h2, rs4, h3.rdV⟩, hX.trans (h1.mono hX.size), h1⟩
    have HV : Hid (∀ X, Below w.heap.size w X → Calls Tryz.prog 19 #[.slice none 0 0, .int .i64 a, stV 100 false false 0 false 40] X fun e X' => (∃ A3 c3, e = .returned (.tuple #[.slice A3 (endW a).length c3, .int .i64 0]) ∧ X'.ownsRow X.heap.size 9 1 (.slice A3 (endW a).length c3) (endW a).length (sv (endW a))) ∧ Below w.heap.size w X' ∧ Below X.heap.size X X') := Lib.hid fun X hX => (vwords_nil a ha0 ha1 X (ht.below hX)).mono fun e X' ⟨A3, c3, h1, h2, h3⟩ => ⟨⟨A3, c3, h1, h2⟩, hX.trans (h3.mono hX.size), h3⟩
    have HK : Hid (∀ X, Below w.heap.size w X → Calls Tryz.prog 23 #[stV 100 false false 0 false 40] X fun e X' => e = .returned (.int .i64 0) ∧ Below w.heap.size w X' ∧ Below X.heap.size X X') := Lib.hid fun X hX => bothG (by have := rcheck_s 100 false false 0 false 40 X; rwa [show setE 100 0 40 = 0 by decide] at this) hX
    have HW1 : Hid (∀ X Aw cw, Below w.heap.size w X → Rd X X.heap.size 1 Aw (endW a).length (sv (endW a)) → (endW a).length ≤ cw → cw ≤ maxLen → Calls Tryz.prog 14 #[.agg (mdC m A n c), .slice Aw (endW a).length cw] X fun e X' => (∃ A4 n4 d4, e = .returned (.tuple #[.agg (mdC ⟨m.view, m.upd + a⟩ A4 n4 d4), .int .i64 0]) ∧ ∃ rs4, RdV X' X'.heap.size m.view A4 n4 d4 rs4) ∧ Below w.heap.size w X' ∧ Below X.heap.size X X') := Lib.hid (HH a ha0 ha1)
    have HW2 : Hid (∀ X, Below w.heap.size w X → Calls Tryz.prog 14 #[.agg (mdC m A n c), .slice (some ⟨X.heap.size, 0, none⟩) 1 1] (X.alloc (.cells #[.string ⟨#[109, 111, 114, 101]⟩] 9)) fun e X' => (∃ A4 n4 d4, e = .returned (.tuple #[.agg (mdC ⟨m.view, m.upd + 0⟩ A4 n4 d4), .int .i64 0]) ∧ ∃ rs4, RdV X' X'.heap.size m.view A4 n4 d4 rs4) ∧ Below w.heap.size w X' ∧ Below (X.alloc (.cells #[.string ⟨#[109, 111, 114, 101]⟩] 9)).heap.size (X.alloc (.cells #[.string ⟨#[109, 111, 114, 101]⟩] 9)) X') := Lib.hid fun X hX => HH 0 (by decide) (by decide) _ (some ⟨X.heap.size, 0, none⟩) 1 (hX.alloc hX.size _) (by rw [endW_0]; exact Rd.more (B := X.heap.size + 1) (rd_built (xs := sv [bMore]) rfl rfl) (by simp)) (Nat.le_refl _) (by decide)
    have HW3 : Hid (∀ X, Below w.heap.size w X → Calls Tryz.prog 14 #[.agg (mdC m A n c), .slice (some ⟨X.heap.size, 0, none⟩) 1 1] (X.alloc (.cells #[.string ⟨#[100, 111, 110, 101]⟩] 9)) fun e X' => (∃ A4 n4 d4, e = .returned (.tuple #[.agg (mdC ⟨m.view, m.upd + 1⟩ A4 n4 d4), .int .i64 0]) ∧ ∃ rs4, RdV X' X'.heap.size m.view A4 n4 d4 rs4) ∧ Below w.heap.size w X' ∧ Below (X.alloc (.cells #[.string ⟨#[100, 111, 110, 101]⟩] 9)).heap.size (X.alloc (.cells #[.string ⟨#[100, 111, 110, 101]⟩] 9)) X') := Lib.hid fun X hX => HH 1 (by decide) (by decide) _ (some ⟨X.heap.size, 0, none⟩) 1 (hX.alloc hX.size _) (by rw [endW_1]; exact Rd.more (B := X.heap.size + 1) (rd_built (xs := sv [bDone]) rfl rfl) (by simp)) (Nat.le_refl _) (by decide)
    have HS : Hid (∀ X A1 n1 c1, Below w.heap.size w X → (∃ rs1, RdV X X.heap.size m.view A1 n1 c1 rs1) → Calls Tryz.prog 21 #[.agg (vwC m.view A1 n1 c1), .agg (vwC m.view A n c)] X fun e X' => e = .returned (.bool true) ∧ Below w.heap.size w X' ∧ Below X.heap.size X X') := Lib.hid fun X A1 n1 c1 hX ⟨rs1, h1⟩ => by
     obtain rfl : n1 = n := h1.len.symm.trans rd.len
     refine bothG (rsame15_ m.view A1 A n1 c1 c X.heap.size rs1 rs X h1 ((rd.below hX).more hX.size) (Nat.le_refl _) fun x hx => ?_) hX
     have := (proper_small hpr h1 x hx).1
     omega
    have ea : wrap64 a = a := by unfold wrap64; omega
    have ew : wrap64 (m.upd + a) = m.upd + a := by unfold wrap64; omega
    have e1 : wrap64 (m.upd + 1) = m.upd + 1 := by unfold wrap64; omega
    clear HH hg rd hgr ht hsm hpr hs wa
    obtain ⟨⟨W, H, rows, r, cl, vs⟩, U⟩ := m
    dsimp only at HG hU hup ew e1
    go_enter Tryz.func8, Tryz.ntmps8
    go_upto_region 1 with fail
    refine wp_fg (fun X => Blk X w.heap.size 26 (mdC ⟨⟨W, H, rows, r, cl, vs⟩, U⟩ A n c) ∧ Below w.heap.size w X) ⟨Blk.new_ rfl, (Below.refl _ _).alloc (Nat.le_refl _) _⟩ ?_
    rintro X ⟨hM, hb⟩
    obtain ⟨c0, c1, c2, c3, c4, c5, c6, -, -, -, -, -, -, -⟩ := md_facts hM
    have hlM := hM.lt
    dsimp only at c0 c1 c3 c4 c5 c6
    go_upto_region 3 with (first | (go_at_call 11; refine (HG.out _ hb).mono ?_; rintro e w1 ⟨rfl, hb1, hx1⟩; have hM1 := hM.below hx1 hlM; have hl1 := hM1.lt; obtain ⟨d_0, d_1, d_2, d_3, d_4, d_5, d_6, -, -, -, -, -, -, -⟩ := md_facts hM1; dsimp only at d_0 d_1 d_3 d_4 d_5 d_6) | (go_at_call 18; refine (HP.out _ (by assumption)).mono ?_; rintro e wp ⟨rfl, hbp, hxp⟩; have hMp := Blk.below (by assumption) hxp (by assumption); have hlp := hMp.lt; obtain ⟨p_0, p_1, p_2, p_3, p_4, p_5, p_6, -, -, -, -, -, -, -⟩ := md_facts hMp; dsimp only at p_0 p_1 p_3 p_4 p_5 p_6))
    have hM3 := hMp
    have HR1 : Hid (∀ X Aw cw, Below w.heap.size w X → Rd X X.heap.size 1 Aw (endW a).length (sv (endW a)) → (endW a).length ≤ cw → cw ≤ maxLen → Calls Tryz.prog 14 #[.agg #[.int .i64 W, .int .i64 H, .slice A n c, .int .i64 r, .int .i64 cl, .bool vs, .int .i64 (U)], .slice Aw (endW a).length cw] X fun e X' => (∃ A4 n4 d4, e = .returned (.tuple #[.agg #[.int .i64 W, .int .i64 H, .slice A4 n4 d4, .int .i64 r, .int .i64 cl, .bool vs, .int .i64 (U + a)], .int .i64 0]) ∧ (∃ rs4, RdV X' X'.heap.size ⟨W, H, rows, r, cl, vs⟩ A4 n4 d4 rs4)) ∧ Below w.heap.size w X' ∧ Below X.heap.size X X') := HW1
    have HR2 : Hid (∀ X, Below w.heap.size w X → Calls Tryz.prog 14 #[.agg #[.int .i64 W, .int .i64 H, .slice A n c, .int .i64 r, .int .i64 cl, .bool vs, .int .i64 (U)], .slice (some ⟨X.heap.size, 0, none⟩) 1 1] (X.alloc (.cells #[.string ⟨#[109, 111, 114, 101]⟩] 9)) fun e X' => (∃ A4 n4 d4, e = .returned (.tuple #[.agg #[.int .i64 W, .int .i64 H, .slice A4 n4 d4, .int .i64 r, .int .i64 cl, .bool vs, .int .i64 (U + 0)], .int .i64 0]) ∧ (∃ rs4, RdV X' X'.heap.size ⟨W, H, rows, r, cl, vs⟩ A4 n4 d4 rs4)) ∧ Below w.heap.size w X' ∧ Below (X.alloc (.cells #[.string ⟨#[109, 111, 114, 101]⟩] 9)).heap.size (X.alloc (.cells #[.string ⟨#[109, 111, 114, 101]⟩] 9)) X') := HW2
    have HR3 : Hid (∀ X, Below w.heap.size w X → Calls Tryz.prog 14 #[.agg #[.int .i64 W, .int .i64 H, .slice A n c, .int .i64 r, .int .i64 cl, .bool vs, .int .i64 (U)], .slice (some ⟨X.heap.size, 0, none⟩) 1 1] (X.alloc (.cells #[.string ⟨#[100, 111, 110, 101]⟩] 9)) fun e X' => (∃ A4 n4 d4, e = .returned (.tuple #[.agg #[.int .i64 W, .int .i64 H, .slice A4 n4 d4, .int .i64 r, .int .i64 cl, .bool vs, .int .i64 (U + 1)], .int .i64 0]) ∧ (∃ rs4, RdV X' X'.heap.size ⟨W, H, rows, r, cl, vs⟩ A4 n4 d4 rs4)) ∧ Below w.heap.size w X' ∧ Below (X.alloc (.cells #[.string ⟨#[100, 111, 110, 101]⟩] 9)).heap.size (X.alloc (.cells #[.string ⟨#[100, 111, 110, 101]⟩] 9)) X') := HW3
    have HRS : Hid (∀ X A1 n1 c1, Below w.heap.size w X → (∃ rs4, RdV X X.heap.size ⟨W, H, rows, r, cl, vs⟩ A1 n1 c1 rs4) → Calls Tryz.prog 21 #[.agg #[.int .i64 W, .int .i64 H, .slice A1 n1 c1, .int .i64 r, .int .i64 cl, .bool vs], .agg #[.int .i64 W, .int .i64 H, .slice A n c, .int .i64 r, .int .i64 cl, .bool vs]] X fun e X' => e = .returned (.bool true) ∧ Below w.heap.size w X' ∧ Below X.heap.size X X') := HS
    clear HW1 HW2 HW3 HS hM hM1 c0 c1 c2 c3 c4 c5 c6 d_0 d_1 d_2 d_3 d_4 d_5 d_6 p_0 p_1 p_2 p_3 p_4 p_5 p_6 HG HP hxp hb1 hx1 hl1
    rw [Int.add_zero] at HR2
    generalize endW a = WA at *
    go_upto_region 6 with (first
     | (go_at_call 19; refine (HV.out _ hbp).mono ?_; rintro e w3 ⟨⟨A3, c3, rfl, ho3⟩, hb3, hx3⟩)
     | (go_at_call 23; refine (HK.out _ hb3).mono ?_; rintro e w4 ⟨rfl, hb4, hx4⟩))
    have hM4 := (hM3.below hx3 hlp).below hx4 (Nat.lt_of_lt_of_le hlp hx3.size)
    have hcap := own_caps ho3
    have hrd4 : Rd w4 w4.heap.size 1 A3 WA.length (sv WA) := Rd.of_own (own_below ho3 hx4)
    clear hM3 hMp HV HK hb3 hx3 hx4 ho3
    obtain ⟨s_0, s_1, s_2, s_3, s_4, s_5, s_6, -, -, -, -, -, -, -⟩ := md_facts hM4; dsimp only at s_0 s_1 s_3 s_4 s_5 s_6
    go_upto_region 7 with (go_at_call 14; refine (HR1.out _ _ _ hb4 hrd4 hcap.1 hcap.2).mono ?_; rintro e w5 ⟨⟨A5, n5, d5, rfl, hr5⟩, hb5, hx5⟩)
    have hz5 := hb5.size
    refine wp_fg (fun X => Blk X w.heap.size 26 (mdC ⟨⟨W, H, rows, r, cl, vs⟩, U⟩ A n c) ∧ Blk X w5.heap.size 26 (mdC ⟨⟨W, H, rows, r, cl, vs⟩, U + a⟩ A5 n5 d5) ∧ (∃ rs4, RdV X X.heap.size ⟨W, H, rows, r, cl, vs⟩ A5 n5 d5 rs4) ∧ Below w.heap.size w X) ⟨(hM4.below hx5 hM4.lt).alloc _, Blk.new_ rfl, hr5.imp fun _ h => (h.below ((Below.refl _ _).alloc (Nat.le_refl _) _)).more (by rw [World.size_alloc]; omega), hb5.alloc hz5 _⟩ ?_
    clear s_0 s_1 s_2 s_3 s_4 s_5 s_6 hM4 hrd4 hcap hr5 hb5 hx5 hz5 hb4 hbp hlp HR1
    rintro Y ⟨hM5, hX5, hr5, hbY⟩
    obtain ⟨s_0, s_1, s_2, s_3, s_4, s_5, s_6, -, -, -, -, -, -, -⟩ := md_facts hM5; dsimp only at s_0 s_1 s_3 s_4 s_5 s_6
    go_upto_region 8 with (go_at_call 14; refine (HR2.out _ hbY).mono ?_; rintro e w6 ⟨⟨A6, n6, d6, rfl, hr6⟩, hb6, hx6⟩)
    have hx6' : Below Y.heap.size Y w6 := ((Below.refl Y.heap.size Y).alloc (Nat.le_refl _) _).trans (hx6.mono (by simp))
    have hz6 := hb6.size
    refine wp_fg (fun X => Blk X w.heap.size 26 (mdC ⟨⟨W, H, rows, r, cl, vs⟩, U⟩ A n c) ∧ Blk X w5.heap.size 26 (mdC ⟨⟨W, H, rows, r, cl, vs⟩, U + a⟩ A5 n5 d5) ∧ (∃ rs4, RdV X X.heap.size ⟨W, H, rows, r, cl, vs⟩ A5 n5 d5 rs4) ∧ Blk X w6.heap.size 26 (mdC ⟨⟨W, H, rows, r, cl, vs⟩, U⟩ A6 n6 d6) ∧ (∃ rs4, RdV X X.heap.size ⟨W, H, rows, r, cl, vs⟩ A6 n6 d6 rs4) ∧ Below w.heap.size w X) ⟨(hM5.below hx6' hM5.lt).alloc _, (hX5.below hx6' hX5.lt).alloc _, hr5.imp fun _ h => ((h.below hx6').below (((Below.refl w6.heap.size w6).alloc (Nat.le_refl _) _).mono hx6'.size)).more (by rw [World.size_alloc]; have := hx6'.size; omega), Blk.new_ rfl, hr6.imp fun _ h => (h.below ((Below.refl _ _).alloc (Nat.le_refl _) _)).more (by rw [World.size_alloc]; omega), hb6.alloc hz6 _⟩ ?_
    clear s_0 s_1 s_2 s_3 s_4 s_5 s_6 hM5 hX5 hr5 hr6 hb6 hx6 hx6' hz6 hbY HR2
    rintro Z ⟨hM6, hX6, hr5, hY6, hr6, hbZ⟩
    obtain ⟨s_0, s_1, s_2, s_3, s_4, s_5, s_6, -, -, -, -, -, -, -⟩ := md_facts hM6; dsimp only at s_0 s_1 s_3 s_4 s_5 s_6
    go_upto_region 9 with (go_at_call 14; refine (HR3.out _ hbZ).mono ?_; rintro e w7 ⟨⟨A7, n7, d7, rfl, hr7⟩, hb7, hx7⟩)
    have hx7' : Below Z.heap.size Z w7 := ((Below.refl Z.heap.size Z).alloc (Nat.le_refl _) _).trans (hx7.mono (by simp))
    have hz7 := hb7.size
    have hzz : Z.heap.size ≤ w7.heap.size := hx7'.size
    refine wp_fg (fun X => Blk X w.heap.size 26 (mdC ⟨⟨W, H, rows, r, cl, vs⟩, U⟩ A n c) ∧ (Blk X w5.heap.size 26 (mdC ⟨⟨W, H, rows, r, cl, vs⟩, U + a⟩ A5 n5 d5) ∧ (∃ rs4, RdV X X.heap.size ⟨W, H, rows, r, cl, vs⟩ A5 n5 d5 rs4)) ∧ (Blk X w6.heap.size 26 (mdC ⟨⟨W, H, rows, r, cl, vs⟩, U⟩ A6 n6 d6) ∧ (∃ rs4, RdV X X.heap.size ⟨W, H, rows, r, cl, vs⟩ A6 n6 d6 rs4)) ∧ (Blk X w7.heap.size 26 (mdC ⟨⟨W, H, rows, r, cl, vs⟩, U + 1⟩ A7 n7 d7) ∧ (∃ rs4, RdV X X.heap.size ⟨W, H, rows, r, cl, vs⟩ A7 n7 d7 rs4)) ∧ Below w.heap.size w X) ⟨(hM6.below hx7' hM6.lt).alloc _, ⟨(hX6.below hx7' hX6.lt).alloc _, hr5.imp fun _ h => ((h.below hx7').below (((Below.refl w7.heap.size w7).alloc (Nat.le_refl _) _).mono hx7'.size)).more (by rw [World.size_alloc]; omega)⟩, ⟨(hY6.below hx7' hY6.lt).alloc _, hr6.imp fun _ h => ((h.below hx7').below (((Below.refl w7.heap.size w7).alloc (Nat.le_refl _) _).mono hx7'.size)).more (by rw [World.size_alloc]; omega)⟩, ⟨Blk.new_ rfl, hr7.imp fun _ h => (h.below ((Below.refl _ _).alloc (Nat.le_refl _) _)).more (by rw [World.size_alloc]; omega)⟩, hb7.alloc hz7 _⟩ ?_
    clear s_0 s_1 s_2 s_3 s_4 s_5 s_6 hM6 hX6 hr5 hY6 hr6 hr7 hb7 hx7 hx7' hz7 hzz hbZ HR3
    rintro V ⟨hMV, ⟨hXV, hr5⟩, ⟨hYV, hr6⟩, ⟨hZV, hr7⟩, hbV⟩
    have q1 : ((U + a) == (U + a)) = true := beq_self_eq_true _
    have q2 : (U == U) = true := beq_self_eq_true _
    have q3 : ((U + 1) == (U + 1)) = true := beq_self_eq_true _
    obtain ⟨s_0, s_1, s_2, s_3, s_4, s_5, s_6, -, -, -, -, -, -, -⟩ := md_facts hMV; dsimp only at s_0 s_1 s_3 s_4 s_5 s_6
    obtain ⟨x_0, x_1, x_2, x_3, x_4, x_5, x_6, -, -, -, -, -, -, -⟩ := md_facts hXV; dsimp only at x_0 x_1 x_3 x_4 x_5 x_6
    go_wp2_with (first
     | ((fail_if_success have := w8); go_at_call 21; refine (HRS.out _ _ _ _ hbV hr5).mono ?_; rintro e w8 ⟨rfl, hb8, hx8⟩; have hM8 := hMV.below hx8 hMV.lt; have hX8 := hXV.below hx8 hXV.lt; have hY8 := hYV.below hx8 hYV.lt; have hZ8 := hZV.below hx8 hZV.lt; have r8 := hr6.imp fun _ h => (h.below hx8).more hx8.size; have s8 := hr7.imp fun _ h => (h.below hx8).more hx8.size; obtain ⟨g_0, g_1, g_2, g_3, g_4, g_5, g_6, -, -, -, -, -, -, -⟩ := md_facts hM8; dsimp only at g_0 g_1 g_3 g_4 g_5 g_6; obtain ⟨h_0, h_1, h_2, h_3, h_4, h_5, h_6, -, -, -, -, -, -, -⟩ := md_facts hY8; dsimp only at h_0 h_1 h_3 h_4 h_5 h_6)
     | ((fail_if_success have := w9); go_at_call 21; refine (HRS.out _ _ _ _ hb8 r8).mono ?_; rintro e w9 ⟨rfl, hb9, hx9⟩; have hM9 := hM8.below hx9 hM8.lt; have hX9 := hX8.below hx9 hX8.lt; have hY9 := hY8.below hx9 hY8.lt; have hZ9 := hZ8.below hx9 hZ8.lt; have s9 := s8.imp fun _ h => (h.below hx9).more hx9.size; obtain ⟨i_0, i_1, i_2, i_3, i_4, i_5, i_6, -, -, -, -, -, -, -⟩ := md_facts hM9; dsimp only at i_0 i_1 i_3 i_4 i_5 i_6; obtain ⟨j_0, j_1, j_2, j_3, j_4, j_5, j_6, -, -, -, -, -, -, -⟩ := md_facts hZ9; dsimp only at j_0 j_1 j_3 j_4 j_5 j_6)
     | (go_at_call 21; refine (HRS.out _ _ _ _ hb9 s9).mono ?_; rintro e wt ⟨rfl, hbt, hxt⟩; have hMt := hM9.below hxt hM9.lt; have hXt := hX9.below hxt hX9.lt; have hYt := hY9.below hxt hY9.lt; have hZt := hZ9.below hxt hZ9.lt; obtain ⟨k_0, k_1, k_2, k_3, k_4, k_5, k_6, -, -, -, -, -, -, -⟩ := md_facts hMt; dsimp only at k_0 k_1 k_3 k_4 k_5 k_6; obtain ⟨l_0, l_1, l_2, l_3, l_4, l_5, l_6, -, -, -, -, -, -, -⟩ := md_facts hXt; dsimp only at l_0 l_1 l_3 l_4 l_5 l_6; obtain ⟨o_0, o_1, o_2, o_3, o_4, o_5, o_6, -, -, -, -, -, -, -⟩ := md_facts hYt; dsimp only at o_0 o_1 o_3 o_4 o_5 o_6; obtain ⟨q_0, q_1, q_2, q_3, q_4, q_5, q_6, -, -, -, -, -, -, -⟩ := md_facts hZt; dsimp only at q_0 q_1 q_3 q_4 q_5 q_6)
     | (go_at_call 13; refine (HA.out _ (by assumption)).mono ?_; rintro e wa ⟨rfl, hba, hxa⟩))
    go_ret
    exact ⟨rfl, hba⟩
end Go.Proofs.YtholajadbbdcmaaGreatDoor
