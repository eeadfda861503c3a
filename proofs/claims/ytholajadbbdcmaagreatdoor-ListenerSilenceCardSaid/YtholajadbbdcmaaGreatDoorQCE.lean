/- Joined texts: LxP. -/
import Derived.Test.YtholajadbbdcmaaGreatDoorQAA
import Derived.Test.YtholajadbbdcmaaGreatDoorQAB
import Derived.Test.YtholajadbbdcmaaGreatDoorQAC
import Derived.Test.YtholajadbbdcmaaGreatDoorQAD
import Derived.Test.YtholajadbbdcmaaGreatDoorQAG
import Derived.Test.YtholajadbbdcmaaGreatDoorQAH
import Derived.Test.YtholajadbbdcmaaGreatDoorQAI
import Derived.Test.YtholajadbbdcmaaGreatDoorQAM
import Derived.Test.YtholajadbbdcmaaGreatDoorQAQ
import Derived.Test.YtholajadbbdcmaaGreatDoorQAS
import Derived.Test.YtholajadbbdcmaaGreatDoorQAT
import Derived.Test.YtholajadbbdcmaaGreatDoorQAU
import Derived.Test.YtholajadbbdcmaaGreatDoorQAY
import Derived.Test.YtholajadbbdcmaaGreatDoorQBB
import Derived.Test.YtholajadbbdcmaaGreatDoorQBC
import Derived.Test.YtholajadbbdcmaaGreatDoorQBD
import Derived.Test.YtholajadbbdcmaaGreatDoorQBF
import Derived.Test.YtholajadbbdcmaaGreatDoorQBG
import Derived.Test.YtholajadbbdcmaaGreatDoorQBH
import Derived.Test.YtholajadbbdcmaaGreatDoorQBM
import Derived.Test.YtholajadbbdcmaaGreatDoorQBN
import Derived.Test.YtholajadbbdcmaaGreatDoorQBQ
import Derived.Test.YtholajadbbdcmaaGreatDoorQBU
import Derived.Test.YtholajadbbdcmaaGreatDoorQBV
import Derived.Test.YtholajadbbdcmaaGreatDoorQBW
import Derived.Test.YtholajadbbdcmaaGreatDoorQBX
import Derived.Test.YtholajadbbdcmaaGreatDoorQBY
import Derived.Test.YtholajadbbdcmaaGreatDoorQCA
import Derived.Test.YtholajadbbdcmaaGreatDoorQCB
import Derived.Test.YtholajadbbdcmaaGreatDoorQCC
import Derived.Test.YtholajadbbdcmaaGreatDoorQCD
set_option linter.unusedVariables false
set_option linter.unusedSimpArgs false
set_option linter.unnecessarySimpa false
namespace Go.Proofs.YtholajadbbdcmaaGreatDoor
open Go.RowKit
set_option maxRecDepth 20000
theorem view_small {v : Vw} (h : viewC v = 0) : ∀ l ∈ v.rows, l.length ≤ 132 ∧ ∀ g ∈ l, g.text.size ≤ 16 := fun l hl => by
 obtain ⟨h1, -, -, h4⟩ := view_zero.1 h
 obtain ⟨a, b, -⟩ := h4 l hl
 have hs := size_iff.1 h1
 refine ⟨?_, fun g hg => (gw_of (gls_zero.1 a g hg)).2⟩
 unfold rowW at b
 omega
theorem great_small {v : Vw} (h : greatV v = false) : ∀ l ∈ v.rows, l.length ≤ 140 ∧ ∀ g ∈ l, g.text.size ≤ 40 := fun l hl => by
 unfold greatV at h
 rw [Bool.or_eq_false_iff] at h
 have := List.any_eq_false.1 h.2 l hl
 simp only [greatR, Bool.or_eq_true, decide_eq_true_eq, List.any_eq_true, not_or, not_exists, not_and] at this
 exact ⟨by omega, fun g hg => by have := this.2 g hg; omega⟩
theorem rls_mem {rs : List RowM} {x : RowM} (h : x ∈ rs) : x.l ∈ rls rs := List.mem_map_of_mem h
theorem blank_proper {W H : Int} (h : sizeB W H = true) : properM ⟨blankV W H, 0⟩ = true := by
 have hs := size_iff.1 h
 unfold properM
 refine decide_eq_true ⟨view_zero.2 ⟨h, ?_, ?_, fun l hl => ?_⟩, Int.le_refl _, by show (0 : Int) ≤ 1099511627776; decide⟩
 ·show ((List.replicate H.toNat ([] : List Gl)).length : Int) = H
  rw [List.length_replicate]; omega
 ·show (0 : Int) ≤ 0 ∧ 0 < H ∧ (0 : Int) ≤ 0 ∧ 0 < W
  omega
 ·obtain rfl := List.eq_of_mem_replicate hl
  exact ⟨rfl, by show (0 : Int) ≤ W; omega, rfl⟩
set_option maxHeartbeats 4000000 in
theorem law_ListenerProper (w : World) (hg : Gd w) (m : Md) (A : Option Addr) (n c : Nat) (rs : List RowM) (rd : RdV w w.heap.size m.view A n c rs) (Aw : Option Addr) (nw cw : Nat) (l : List ByteArray) (hn : l.length = nw) (hc : nw ≤ cw) (hm : cw ≤ maxLen) (rw : Rd w w.heap.size 1 Aw nw (sv l)) (_ : ∀ s ∈ l, s.size ≤ maxLen) (a : Int) (wa : (Lit.int .u8 a).wf = true) (b : Int) (wb : (Lit.int .u8 b).wf = true) :
  Calls Tryz.prog 7 #[.agg (mdC m A n c), .slice Aw nw cw, .int .u8 a, .int .u8 b] w (Gives (.bool true) w) := by
 have HA : Hid (∀ X, Below w.heap.size w X → Calls Tryz.prog 13 #[] X fun e X' => e = .returned (.bool true) ∧ Below w.heap.size w X' ∧ Below X.heap.size X X') := Lib.hid fun X hX => bothG (awake42_ X (hg.below hX)) hX
 have HG : Hid (∀ X, Below w.heap.size w X → Calls Tryz.prog 11 #[.agg (vwC m.view A n c)] X fun e X' => e = .returned (.bool (greatV m.view)) ∧ Below w.heap.size w X' ∧ Below X.heap.size X X') := Lib.hid fun X hX => bothG (rgreat15_ m.view A n c w.heap.size rs X (rd.below hX) hX.size) hX
 have HL : Hid (∀ X, Below w.heap.size w X → Calls Tryz.prog 12 #[.slice Aw nw cw] X fun e X' => e = .returned (.bool (!shortW 300 200 l)) ∧ Below w.heap.size w X' ∧ Below X.heap.size X X') := Lib.hid fun X hX => bothS (rlong42_ l Aw nw cw w.heap.size X (by omega) (Rd.below rw hX)) hX
 cases hgr : greatV m.view with
 | true =>
  rw [hgr] at HG
  clear HL hg rd hgr rw
  obtain ⟨⟨W, H, rows, r, cl, vs⟩, U⟩ := m
  dsimp only at HG
  go_enter Tryz.func7, Tryz.ntmps7
  go_upto_region 1 with fail
  refine wp_fg (fun X => Blk X w.heap.size 26 (mdC ⟨⟨W, H, rows, r, cl, vs⟩, U⟩ A n c) ∧ Below w.heap.size w X) ⟨Blk.new_ rfl, (Below.refl _ _).alloc (Nat.le_refl _) _⟩ ?_
  rintro X ⟨hM, hb⟩
  obtain ⟨c0, c1, c2, c3, c4, c5, c6, -, -, -, -, -, -, -⟩ := md_facts hM
  have hlM := hM.lt
  dsimp only at c0 c1 c3 c4 c5 c6
  go_wp2_with (first | (go_at_call 11; refine (HG.out _ hb).mono ?_; rintro e w1 ⟨rfl, hb1, hx1⟩) | (go_at_call 13; refine (HA.out _ (by assumption)).mono ?_; rintro e wa ⟨rfl, hba, hxa⟩))
  go_ret
  exact ⟨rfl, hba⟩
 | false =>
  rw [hgr] at HG
  cases hsh : shortW 300 200 l with
  | false =>
   rw [hsh] at HL
   clear hg rd hgr rw hsh
   obtain ⟨⟨W, H, rows, r, cl, vs⟩, U⟩ := m
   dsimp only at HG
   go_enter Tryz.func7, Tryz.ntmps7
   go_upto_region 1 with fail
   refine wp_fg (fun X => Blk X w.heap.size 26 (mdC ⟨⟨W, H, rows, r, cl, vs⟩, U⟩ A n c) ∧ Below w.heap.size w X) ⟨Blk.new_ rfl, (Below.refl _ _).alloc (Nat.le_refl _) _⟩ ?_
   rintro X ⟨hM, hb⟩
   obtain ⟨c0, c1, c2, c3, c4, c5, c6, -, -, -, -, -, -, -⟩ := md_facts hM
   have hlM := hM.lt
   dsimp only at c0 c1 c3 c4 c5 c6
   go_wp2_with (first | (go_at_call 11; refine (HG.out _ hb).mono ?_; rintro e w1 ⟨rfl, hb1, hx1⟩) | (go_at_call 12; refine (HL.out _ hb1).mono ?_; rintro e w2 ⟨rfl, hb2, hx2⟩) | (go_at_call 13; refine (HA.out _ (by assumption)).mono ?_; rintro e wa ⟨rfl, hba, hxa⟩))
   go_ret
   exact ⟨rfl, hba⟩
  | true =>
   rw [hsh] at HL
   obtain ⟨hl1, hl2⟩ := short_some hsh
   have hsm : ∀ x ∈ rs, x.l.length ≤ 140 ∧ ∀ g ∈ x.l, g.text.size ≤ 40 := fun x hx => great_small hgr x.l (by rw [rd.2.1]; exact rls_mem hx)
   have hpr := hear_proper (m := m) (l := l)
   have HH0 : ∀ X, Below w.heap.size w X → Calls Tryz.prog 14 #[.agg (mdC m A n c), .slice Aw nw cw] X (MdR (hearV m l) X) := fun X hX => by
    have hg' := hg.below hX
    exact hear_ m A n c X.heap.size rs l Aw nw cw X ((rd.below hX).more hX.size) (Nat.le_refl _) (fun x hx => Nat.le_trans (hsm x hx).1 (by decide)) (fun x hx g hg => Nat.le_trans ((hsm x hx).2 g hg) (by decide)) ⟨hn, hc, hm, (Rd.below rw hX).more hX.size, fun s hs => Nat.le_trans (hl2 s hs) (by decide)⟩ (by omega) (few_of (by omega)) hg'.1 hg'.2.1 hg'.2.2
   generalize hearV m l = Q at *
   obtain ⟨⟨⟨W1, H1, rows1, r1, cl1, vs1⟩, U1⟩, E⟩ := Q
   have HH : Hid (∀ X, Below w.heap.size w X → Calls Tryz.prog 14 #[.agg (mdC m A n c), .slice Aw nw cw] X fun e X' => (∃ A3 n3 d3 rs3, e = .returned (.tuple #[.agg #[.int .i64 W1, .int .i64 H1, .slice A3 n3 d3, .int .i64 r1, .int .i64 cl1, .bool vs1, .int .i64 U1], .int .i64 E]) ∧ RdV X' X'.heap.size ⟨W1, H1, rows1, r1, cl1, vs1⟩ A3 n3 d3 rs3) ∧ Below w.heap.size w X' ∧ Below X.heap.size X X') := Lib.hid fun X hX => (HH0 X hX).mono fun e X' ⟨h1, A3, n3, d3, rs3, h2, h3⟩ => ⟨⟨A3, n3, d3, rs3, h2, h3.rdV⟩, hX.trans (h1.mono hX.size), h1⟩
   have HP : Hid (E = 0 → ∀ X A3 n3 d3 rs3, Below w.heap.size w X → RdV X X.heap.size ⟨W1, H1, rows1, r1, cl1, vs1⟩ A3 n3 d3 rs3 → Calls Tryz.prog 18 #[.agg #[.int .i64 W1, .int .i64 H1, .slice A3 n3 d3, .int .i64 r1, .int .i64 cl1, .bool vs1, .int .i64 U1]] X fun e X' => e = .returned (.bool true) ∧ Below w.heap.size w X' ∧ Below X.heap.size X X') := Lib.hid fun h0 X A3 n3 d3 rs3 hX hr => by
    have hp := hpr h0
    have hv : viewC ⟨W1, H1, rows1, r1, cl1, vs1⟩ = 0 := by
     unfold properM at hp
     exact (of_decide_eq_true hp).1
    have hs := view_small hv
    have := rproper42_ ⟨⟨W1, H1, rows1, r1, cl1, vs1⟩, U1⟩ A3 n3 d3 X.heap.size rs3 X hr (Nat.le_refl _) fun x hx => by
     have h1 := hs x.l (by rw [hr.2.1]; exact rls_mem hx)
     exact ⟨by omega, fun g hg => by have := h1.2 g hg; omega⟩
    rw [hp] at this
    exact bothG this hX
   clear HH0 hpr hsm hg rd hgr rw hsh hl1 hl2
   obtain ⟨⟨W, H, rows, r, cl, vs⟩, U⟩ := m
   dsimp only at HG
   have hWl := lim_u8 wa 132 (by decide) (by decide)
   have hHl := lim_u8 wb 60 (by decide) (by decide)
   obtain ⟨Ww, hWw⟩ : ∃ x, wrap64 (1 + (wrap64 a).tmod 132) = x := ⟨_, rfl⟩
   obtain ⟨Hw, hHw⟩ : ∃ x, wrap64 (1 + (wrap64 b).tmod 60) = x := ⟨_, rfl⟩
   rw [hWw] at hWl
   rw [hHw] at hHl
   obtain ⟨N, rfl⟩ : ∃ N : Nat, Hw = N := ⟨Hw.toNat, by omega⟩
   have hWw' := Lib.hid hWw
   have hHw' := Lib.hid hHw
   clear hWw hHw
   have HN : Hid (∀ X, Below w.heap.size w X → Calls Tryz.prog 22 #[.int .i64 Ww, .int .i64 N] X fun e X' => (∃ A4 d4 rs4, e = .returned (.tuple #[.agg #[.int .i64 Ww, .int .i64 N, .slice A4 N d4, .int .i64 0, .int .i64 0, .bool true, .int .i64 0], .int .i64 0]) ∧ RdV X' X'.heap.size (blankV Ww N) A4 N d4 rs4) ∧ Below w.heap.size w X' ∧ Below X.heap.size X X') := Lib.hid fun X hX => (lnew_ Ww N X).mono fun e X' h => by
    have e1 : newM Ww N = (⟨blankV Ww N, 0⟩, 0) := by unfold newM; rw [if_pos (size_iff.2 (by omega))]
    rw [e1] at h
    obtain ⟨h1, A4, n4, d4, rs4, h2, h3⟩ := h
    have h4 := h3.rdV.len
    obtain rfl : N = n4 := by
     rw [← h4]
     show N = (List.replicate ((N : Int).toNat) ([] : List Gl)).length
     rw [List.length_replicate, Int.toNat_natCast]
    exact ⟨⟨A4, d4, rs4, h2, h3.rdV⟩, hX.trans (h1.mono hX.size), h1⟩
   by_cases hE : E = 0
   ·subst hE
    have HP2 := Lib.hid (HP.out rfl)
    have h00 : ((0 : Int) == 0) = true := rfl
    clear HP
    go_enter Tryz.func7, Tryz.ntmps7
    go_upto_region 1 with fail
    refine wp_fg (fun X => Blk X w.heap.size 26 (mdC ⟨⟨W, H, rows, r, cl, vs⟩, U⟩ A n c) ∧ Below w.heap.size w X) ⟨Blk.new_ rfl, (Below.refl _ _).alloc (Nat.le_refl _) _⟩ ?_
    rintro X ⟨hM, hb⟩
    obtain ⟨c0, c1, c2, c3, c4, c5, c6, -, -, -, -, -, -, -⟩ := md_facts hM
    have hlM := hM.lt
    dsimp only at c0 c1 c3 c4 c5 c6
    go_upto_region 3 with (first | (go_at_call 11; refine (HG.out _ hb).mono ?_; rintro e w1 ⟨rfl, hb1, hx1⟩) | (go_at_call 12; refine (HL.out _ hb1).mono ?_; rintro e w2 ⟨rfl, hb2, hx2⟩))
    have hM2 := (hM.below hx1 hlM).below hx2 (Nat.lt_of_lt_of_le hlM hx1.size)
    clear c0 c1 c2 c3 c4 c5 c6
    obtain ⟨c0, c1, c2, c3, c4, c5, c6, -, -, -, -, -, -, -⟩ := md_facts hM2
    dsimp only at c0 c1 c3 c4 c5 c6
    go_upto_region 4 with (go_at_call 14; refine (HH.out _ hb2).mono ?_; rintro e w3 ⟨⟨A3, n3, d3, rs3, rfl, hr3⟩, hb3, hx3⟩)
    refine wp_fg (fun Y => Blk Y w3.heap.size 26 (mdC ⟨⟨W1, H1, rows1, r1, cl1, vs1⟩, U1⟩ A3 n3 d3) ∧ RdV Y Y.heap.size ⟨W1, H1, rows1, r1, cl1, vs1⟩ A3 n3 d3 rs3 ∧ Below w.heap.size w Y) ⟨Blk.new_ rfl, (hr3.below ((Below.refl _ _).alloc (Nat.le_refl _) _)).more (by rw [World.size_alloc]; omega), hb3.alloc hb3.size _⟩ ?_
    rintro Y ⟨hBY, hrY, hbY⟩
    obtain ⟨f0, f1, f2, f3, f4, f5, f6, -, -, -, -, -, -, -⟩ := md_facts hBY
    dsimp only at f0 f1 f3 f4 f5 f6
    clear c0 c1 c2 c3 c4 c5 c6 hM hM2 hlM hb hb1 hb2 hb3 hx1 hx2 hx3 hr3 HG HL HH hBY
    go_upto_region 7 with (go_at_call 18; refine (HP2.out _ _ _ _ _ hbY hrY).mono ?_; rintro e w4 ⟨rfl, hb4, hx4⟩)
    rw [hWw'.out, hHw'.out]
    go_upto_region 8 with (go_at_call 22; refine (HN.out _ hb4).mono ?_; rintro e w5 ⟨⟨A4, d4, rs4, rfl, hr4⟩, hb5, hx5⟩)
    refine wp_fg (fun Y => Blk Y w5.heap.size 26 (mdC ⟨blankV Ww N, 0⟩ A4 N d4) ∧ RdV Y Y.heap.size (blankV Ww N) A4 N d4 rs4 ∧ Below w.heap.size w Y) ⟨Blk.new_ rfl, (hr4.below ((Below.refl _ _).alloc (Nat.le_refl _) _)).more (by rw [World.size_alloc]; omega), hb5.alloc hb5.size _⟩ ?_
    rintro Z ⟨hBZ, hrZ, hbZ⟩
    obtain ⟨f0, f1, f2, f3, f4, f5, f6, -, -, -, -, -, -, -⟩ := md_facts hBZ
    dsimp only [blankV] at f0 f1 f3 f4 f5 f6
    have hgZ := hBZ.lt
    have hlr : rs4.length = N := hrZ.1.len
    have hRw : Hid (∀ k (h : k < rs4.length) X, Below Z.heap.size Z X → ∃ b o, A4 = some ⟨b, o, none⟩ ∧ X.cell? ⟨b, o + k, none⟩ = some (.slice rs4[k].A 0 rs4[k].cap)) := Lib.hid fun k h X hX => by
     obtain ⟨b, o, e1, -, e2⟩ := (hrZ.1.below hX).at_ h
     have : rs4[k].l ∈ (blankV Ww N).rows := by rw [hrZ.2.1]; exact rls_mem (List.getElem_mem h)
     rw [List.eq_of_mem_replicate this] at e2
     exact ⟨b, o, e1, e2⟩
    have hPb : Hid (∀ X, Below Z.heap.size Z X → Calls Tryz.prog 18 #[.agg #[.int .i64 Ww, .int .i64 N, .slice A4 N d4, .int .i64 0, .int .i64 0, .bool true, .int .i64 0]] X fun e X' => e = .returned (.bool true) ∧ Below w.heap.size w X' ∧ Below X.heap.size X X') := Lib.hid fun X hX => by
     have h1 := rproper42_ ⟨blankV Ww N, 0⟩ A4 N d4 X.heap.size rs4 X ((hrZ.below hX).more hX.size) (Nat.le_refl _) fun x hx => by
      have : x.l ∈ (blankV Ww N).rows := by rw [hrZ.2.1]; exact rls_mem hx
      rw [List.eq_of_mem_replicate this]
      exact ⟨Nat.zero_le _, fun g hg => by cases hg⟩
     rw [blank_proper (size_iff.2 (by omega))] at h1
     exact bothG h1 (hbZ.trans (hX.mono hbZ.size))
    have hcap : N ≤ d4 := hrZ.2.2.1
    have hN9 : (N : Int) ≤ 60 := hHl.2
    clear hr4 hx5 hBZ hrZ HN hb5
    go_wp2
    go_loopw [55] (fun x wr => ∃ k : Nat, k ≤ N ∧ x = .int .i64 k ∧ Below Z.heap.size Z wr) (fun x _ => N - (intOf x).toNat)
    case atStart => exact ⟨0, Nat.zero_le _, rfl, Below.refl _ _⟩
    case round =>
     obtain ⟨k, hk, rfl, hZr⟩ := hrel
     have f0 := (hZr.cell (p := ⟨w5.heap.size, 0, none⟩) hgZ).trans f0
     have f1 := (hZr.cell (p := ⟨w5.heap.size, 1, none⟩) hgZ).trans f1
     have f2 := (hZr.cell (p := ⟨w5.heap.size, 2, none⟩) hgZ).trans f2
     have f3 := (hZr.cell (p := ⟨w5.heap.size, 3, none⟩) hgZ).trans f3
     have f4 := (hZr.cell (p := ⟨w5.heap.size, 4, none⟩) hgZ).trans f4
     have f5 := (hZr.cell (p := ⟨w5.heap.size, 5, none⟩) hgZ).trans f5
     have f6 := (hZr.cell (p := ⟨w5.heap.size, 6, none⟩) hgZ).trans f6
     by_cases hlt : k < N
     ·obtain ⟨b, o, rfl, hc⟩ := hRw.out k (by omega) _ hZr
      have hki : (k : Int) < N := by omega
      go_wp2
      exact ⟨⟨k + 1, by omega, by go_num, hZr⟩, by simp [intOf]; omega⟩
     ·obtain rfl : k = N := by omega
      go_wp2_with (first
       | (go_at_call 18; refine (hPb.out _ hZr).mono ?_; rintro e w6 ⟨rfl, hb6, hx6⟩; have q0 := (hx6.cell (p := ⟨w5.heap.size, 0, none⟩) (Nat.lt_of_lt_of_le hgZ hZr.size)).trans f0; have q1 := (hx6.cell (p := ⟨w5.heap.size, 1, none⟩) (Nat.lt_of_lt_of_le hgZ hZr.size)).trans f1; have q6 := (hx6.cell (p := ⟨w5.heap.size, 6, none⟩) (Nat.lt_of_lt_of_le hgZ hZr.size)).trans f6)
       | (go_at_call 13; refine (HA.out _ (by assumption)).mono ?_; rintro e wa ⟨rfl, hba, hxa⟩))
      go_ret
      exact ⟨rfl, hba⟩
   ·have h00 : (E == 0) = false := beq_eq_false_iff_ne.2 hE
    clear HP hE
    go_enter Tryz.func7, Tryz.ntmps7
    go_upto_region 1 with fail
    refine wp_fg (fun X => Blk X w.heap.size 26 (mdC ⟨⟨W, H, rows, r, cl, vs⟩, U⟩ A n c) ∧ Below w.heap.size w X) ⟨Blk.new_ rfl, (Below.refl _ _).alloc (Nat.le_refl _) _⟩ ?_
    rintro X ⟨hM, hb⟩
    obtain ⟨c0, c1, c2, c3, c4, c5, c6, -, -, -, -, -, -, -⟩ := md_facts hM
    have hlM := hM.lt
    dsimp only at c0 c1 c3 c4 c5 c6
    go_upto_region 3 with (first | (go_at_call 11; refine (HG.out _ hb).mono ?_; rintro e w1 ⟨rfl, hb1, hx1⟩) | (go_at_call 12; refine (HL.out _ hb1).mono ?_; rintro e w2 ⟨rfl, hb2, hx2⟩))
    have hM2 := (hM.below hx1 hlM).below hx2 (Nat.lt_of_lt_of_le hlM hx1.size)
    clear c0 c1 c2 c3 c4 c5 c6
    obtain ⟨c0, c1, c2, c3, c4, c5, c6, -, -, -, -, -, -, -⟩ := md_facts hM2
    dsimp only at c0 c1 c3 c4 c5 c6
    go_upto_region 4 with (go_at_call 14; refine (HH.out _ hb2).mono ?_; rintro e w3 ⟨⟨A3, n3, d3, rs3, rfl, hr3⟩, hb3, hx3⟩)
    refine wp_fg (fun Y => Blk Y w3.heap.size 26 (mdC ⟨⟨W1, H1, rows1, r1, cl1, vs1⟩, U1⟩ A3 n3 d3) ∧ RdV Y Y.heap.size ⟨W1, H1, rows1, r1, cl1, vs1⟩ A3 n3 d3 rs3 ∧ Below w.heap.size w Y) ⟨Blk.new_ rfl, (hr3.below ((Below.refl _ _).alloc (Nat.le_refl _) _)).more (by rw [World.size_alloc]; omega), hb3.alloc hb3.size _⟩ ?_
    rintro Y ⟨hBY, hrY, hbY⟩
    obtain ⟨f0, f1, f2, f3, f4, f5, f6, -, -, -, -, -, -, -⟩ := md_facts hBY
    dsimp only at f0 f1 f3 f4 f5 f6
    clear c0 c1 c2 c3 c4 c5 c6 hM hM2 hlM hb hb1 hb2 hb3 hx1 hx2 hx3 hr3 HG HL HH hBY
    go_upto_region 7 with fail
    rw [hWw'.out, hHw'.out]
    go_upto_region 8 with (go_at_call 22; refine (HN.out _ hbY).mono ?_; rintro e w5 ⟨⟨A4, d4, rs4, rfl, hr4⟩, hb5, hx5⟩)
    refine wp_fg (fun Y => Blk Y w5.heap.size 26 (mdC ⟨blankV Ww N, 0⟩ A4 N d4) ∧ RdV Y Y.heap.size (blankV Ww N) A4 N d4 rs4 ∧ Below w.heap.size w Y) ⟨Blk.new_ rfl, (hr4.below ((Below.refl _ _).alloc (Nat.le_refl _) _)).more (by rw [World.size_alloc]; omega), hb5.alloc hb5.size _⟩ ?_
    rintro Z ⟨hBZ, hrZ, hbZ⟩
    obtain ⟨f0, f1, f2, f3, f4, f5, f6, -, -, -, -, -, -, -⟩ := md_facts hBZ
    dsimp only [blankV] at f0 f1 f3 f4 f5 f6
    have hgZ := hBZ.lt
    have hlr : rs4.length = N := hrZ.1.len
    have hRw : Hid (∀ k (h : k < rs4.length) X, Below Z.heap.size Z X → ∃ b o, A4 = some ⟨b, o, none⟩ ∧ X.cell? ⟨b, o + k, none⟩ = some (.slice rs4[k].A 0 rs4[k].cap)) := Lib.hid fun k h X hX => by
     obtain ⟨b, o, e1, -, e2⟩ := (hrZ.1.below hX).at_ h
     have : rs4[k].l ∈ (blankV Ww N).rows := by rw [hrZ.2.1]; exact rls_mem (List.getElem_mem h)
     rw [List.eq_of_mem_replicate this] at e2
     exact ⟨b, o, e1, e2⟩
    have hPb : Hid (∀ X, Below Z.heap.size Z X → Calls Tryz.prog 18 #[.agg #[.int .i64 Ww, .int .i64 N, .slice A4 N d4, .int .i64 0, .int .i64 0, .bool true, .int .i64 0]] X fun e X' => e = .returned (.bool true) ∧ Below w.heap.size w X' ∧ Below X.heap.size X X') := Lib.hid fun X hX => by
     have h1 := rproper42_ ⟨blankV Ww N, 0⟩ A4 N d4 X.heap.size rs4 X ((hrZ.below hX).more hX.size) (Nat.le_refl _) fun x hx => by
      have : x.l ∈ (blankV Ww N).rows := by rw [hrZ.2.1]; exact rls_mem hx
      rw [List.eq_of_mem_replicate this]
      exact ⟨Nat.zero_le _, fun g hg => by cases hg⟩
     rw [blank_proper (size_iff.2 (by omega))] at h1
     exact bothG h1 (hbZ.trans (hX.mono hbZ.size))
    have hcap : N ≤ d4 := hrZ.2.2.1
    have hN9 : (N : Int) ≤ 60 := hHl.2
    clear hr4 hx5 hBZ hrZ HN hb5
    go_wp2
    go_loopw [55] (fun x wr => ∃ k : Nat, k ≤ N ∧ x = .int .i64 k ∧ Below Z.heap.size Z wr) (fun x _ => N - (intOf x).toNat)
    case atStart => exact ⟨0, Nat.zero_le _, rfl, Below.refl _ _⟩
    case round =>
     obtain ⟨k, hk, rfl, hZr⟩ := hrel
     have f0 := (hZr.cell (p := ⟨w5.heap.size, 0, none⟩) hgZ).trans f0
     have f1 := (hZr.cell (p := ⟨w5.heap.size, 1, none⟩) hgZ).trans f1
     have f2 := (hZr.cell (p := ⟨w5.heap.size, 2, none⟩) hgZ).trans f2
     have f3 := (hZr.cell (p := ⟨w5.heap.size, 3, none⟩) hgZ).trans f3
     have f4 := (hZr.cell (p := ⟨w5.heap.size, 4, none⟩) hgZ).trans f4
     have f5 := (hZr.cell (p := ⟨w5.heap.size, 5, none⟩) hgZ).trans f5
     have f6 := (hZr.cell (p := ⟨w5.heap.size, 6, none⟩) hgZ).trans f6
     by_cases hlt : k < N
     ·obtain ⟨b, o, rfl, hc⟩ := hRw.out k (by omega) _ hZr
      have hki : (k : Int) < N := by omega
      go_wp2
      exact ⟨⟨k + 1, by omega, by go_num, hZr⟩, by simp [intOf]; omega⟩
     ·obtain rfl : k = N := by omega
      go_wp2_with (first
       | (go_at_call 18; refine (hPb.out _ hZr).mono ?_; rintro e w6 ⟨rfl, hb6, hx6⟩; have q0 := (hx6.cell (p := ⟨w5.heap.size, 0, none⟩) (Nat.lt_of_lt_of_le hgZ hZr.size)).trans f0; have q1 := (hx6.cell (p := ⟨w5.heap.size, 1, none⟩) (Nat.lt_of_lt_of_le hgZ hZr.size)).trans f1; have q6 := (hx6.cell (p := ⟨w5.heap.size, 6, none⟩) (Nat.lt_of_lt_of_le hgZ hZr.size)).trans f6)
       | (go_at_call 13; refine (HA.out _ (by assumption)).mono ?_; rintro e wa ⟨rfl, hba, hxa⟩))
      go_ret
      exact ⟨rfl, hba⟩
end Go.Proofs.YtholajadbbdcmaaGreatDoor
