/- RegionsInnermost: the law's walk. -/
import Derived.Test.YtgmodadgmnfhgaaRgL1
namespace Go.Proofs.Ytgmodadgmnfhgaa
open Go.RowKit
def cellR (x y : Int) : Reg := ⟨0, 0, 0, x, y, x + 1, y + 1, ⟨#[]⟩⟩
theorem in_cell (r : Reg) (x y : Int) : inB r (cellR x y) = posIn x y r := by
  rw [Bool.eq_iff_iff]
  unfold inB posIn cellR
  simp only [Bool.and_eq_true, decide_eq_true_eq]
  omega
theorem wf_u8 {a : Int} (h : (Lit.int .u8 a).wf = true) : ∃ s : Nat, a = s ∧ s ≤ 255 := by
  have hb : 0 ≤ a ∧ a ≤ 255 := by simpa [Lit.wf, IntKind.min, IntKind.max, IntKind.signed, IntKind.bits] using h
  exact ⟨a.toNat, by omega, by omega⟩
set_option maxRecDepth 10000 in
set_option maxHeartbeats 4000000 in
theorem law_RegionsInnermost (w : World) (A : Option Addr) (n c : Nat) (l : List Reg) (hn : l.length = n) (hc : n ≤ c) (hm : c ≤ maxLen) (rd : Rd w w.heap.size 8 A n (encL l)) (_hs : ∀ r ∈ l, r.label.size ≤ maxLen)
    (row : Int) (wr : (Lit.int .u8 row).wf = true) (col : Int) (wc : (Lit.int .u8 col).wf = true) :
    Calls Try.prog 5 #[.slice A n c, .int .u8 row, .int .u8 col] w (Gives (.bool true) w) := by
  have hnm : n ≤ maxLen := Nat.le_trans hc hm
  obtain ⟨s, rfl, hs⟩ := wf_u8 wr
  obtain ⟨t, rfl, ht⟩ := wf_u8 wc
  have HG := Lib.hid (rgreat l A n c w.heap.size w hnm rd)
  have HA : Hid (∀ w, Calls Try.prog 9 #[] w (Gives (.bool true) w)) := Lib.hid awake
  clear _hs wr wc
  cases hg : grB l with
  | true =>
    rw [grI_t hg] at HG
    clear hg
    go_enter Try.func5, Try.ntmps5
    go_wp2_with (first
      | (go_at_call 8; refine HG.out.mono ?_; rintro e w1 ⟨rfl, rfl⟩)
      | (go_at_call 9; refine (HA.out _).mono ?_; rintro e w2 ⟨rfl, hbel2⟩))
    go_ret
    exact ⟨rfl, hbel2⟩
  | false =>
    rw [grI_f hg] at HG
    have hn60 : n ≤ 60 := by have := grB_le hg; omega
    have hle : (nestL l).length ≤ 60 := by have := nestL_len l; omega
    have HN := Lib.hid (nest_ l A n c w (by omega) rd)
    have hX : s % 64 < 64 := Nat.mod_lt _ (by omega)
    have hY : t % 136 < 136 := Nat.mod_lt _ (by omega)
    have m1 : (s : Int).tmod 64 = ((s % 64 : Nat) : Int) := by rw [Int.tmod_eq_emod_of_nonneg (by omega)]; rfl
    have m2 : (t : Int).tmod 136 = ((t % 136 : Nat) : Int) := by rw [Int.tmod_eq_emod_of_nonneg (by omega)]; rfl
    have m3 : IntKind.i64.wrap (s : Int) = (s : Int) := IntWalk.i64_in _ (by omega)
    have m4 : IntKind.i64.wrap (t : Int) = (t : Int) := IntWalk.i64_in _ (by omega)
    generalize s % 64 = X at *
    generalize t % 136 = Y at *
    have m5 : IntKind.i64.wrap (X : Int) = (X : Int) := IntWalk.i64_in _ (by omega)
    have m6 : IntKind.i64.wrap (Y : Int) = (Y : Int) := IntWalk.i64_in _ (by omega)
    have m7 : IntKind.i64.wrap ((X : Int) + 1) = (X : Int) + 1 := IntWalk.i64_in _ (by omega)
    have m8 : IntKind.i64.wrap ((Y : Int) + 1) = (Y : Int) + 1 := IntWalk.i64_in _ (by omega)
    have HAT : Hid (∀ A c w1, (nestL l).length ≤ c → c ≤ maxLen → Rd w1 w1.heap.size 8 A (nestL l).length (encL (nestL l)) → Calls Try.prog 15 #[.slice A (nestL l).length c, .int .i64 X, .int .i64 Y] w1 (Gives (.int .i64 (atL (nestL l) X Y)) w1)) := Lib.hid fun A c w1 h1 h2 h3 => at_ (nestL l) A _ c w1 rfl (nest_proper l) X Y h1 h2 h3
    have HPR := Lib.hid (nest_proper l)
    obtain ⟨hI0, hI1⟩ : -1 ≤ atL (nestL l) X Y ∧ atL (nestL l) X Y < ((nestL l).length : Int) := best_rng _ _ _
    have HS1 : Hid (atL (nestL l) X Y < 0 → ∀ j, j < (nestL l).length → posIn X Y (nestL l)[j]! = false) := Lib.hid (best_spec (nestL l) (posIn X Y) (nestL l).length).1
    have HS2 : Hid (0 ≤ atL (nestL l) X Y → posIn X Y (nestL l)[(atL (nestL l) X Y).toNat]! = true ∧ ∀ j, j < (nestL l).length → posIn X Y (nestL l)[j]! = true → area (nestL l)[(atL (nestL l) X Y).toNat]! ≤ area (nestL l)[j]!) := Lib.hid (best_spec (nestL l) (posIn X Y) (nestL l).length).2
    have HCC : Hid (∀ r w, Calls Try.prog 16 #[regV r, regV (cellR X Y)] w (Gives (.bool (posIn X Y r)) w)) := Lib.hid fun r w => by
      have := contains r (cellR X Y) w
      rwa [in_cell] at this
    clear hg hm hn rd
    generalize atL (nestL l) X Y = I at *
    generalize nestL l = N at *
    have hI2 : ¬ I < -1 := by omega
    go_enter Try.func5, Try.ntmps5
    go_upto_region 9 with (first
      | (go_at_call 8; refine HG.out.mono ?_; rintro e w1 ⟨rfl, rfl⟩)
      | (go_at_call 11; refine HN.out.mono ?_; rintro e w1 ⟨A1, c1, rfl, hown1, hbel1⟩; have z1 := hbel1.size; obtain ⟨p1, p2⟩ := own_cap hown1; have r1 := Rd.of_own hown1)
      | (go_at_call 15; refine (HAT.out _ _ _ p1 p2 r1).mono ?_; rintro e w2 ⟨rfl, hbel2⟩; have t2 := hbel1.trans (hbel2.mono z1); have r2 := (r1.below hbel2).more hbel2.size))
    have hb1 := t2.alloc t2.size (.cells #[.int .i64 0, .int .i64 0, .int .i64 0, .int .i64 X, .int .i64 Y, .int .i64 ((X : Int) + 1), .int .i64 ((Y : Int) + 1), .string ⟨#[]⟩] 31)
    have hbx := c8z_new w2 (cellR X Y) (.cells #[.int .i64 0, .int .i64 0, .int .i64 0, .int .i64 X, .int .i64 Y, .int .i64 ((X : Int) + 1), .int .i64 ((Y : Int) + 1), .string ⟨#[]⟩] 31) rfl
    have hzb : w2.heap.size < (w2.alloc (.cells #[.int .i64 0, .int .i64 0, .int .i64 0, .int .i64 X, .int .i64 Y, .int .i64 ((X : Int) + 1), .int .i64 ((Y : Int) + 1), .string ⟨#[]⟩] 31)).heap.size := by simp
    have hbr := r2.below (below_box w2 (.cells #[.int .i64 0, .int .i64 0, .int .i64 0, .int .i64 X, .int .i64 Y, .int .i64 ((X : Int) + 1), .int .i64 ((Y : Int) + 1), .string ⟨#[]⟩] 31))
    generalize w2.alloc (.cells #[.int .i64 0, .int .i64 0, .int .i64 0, .int .i64 X, .int .i64 Y, .int .i64 ((X : Int) + 1), .int .i64 ((Y : Int) + 1), .string ⟨#[]⟩] 31) = wb at *
    generalize w2.heap.size = B0 at *
    clear m1 m2 m3 m4 m5 m6 m7 m8
    have N0 := c8z_near (B := wb.heap.size) hbx hzb
    have hzz := Nat.le_refl wb.heap.size
    go_cut [55] (fun v wx => v = .bool false ∧ Below wb.heap.size wb wx)
    case first =>
      by_cases h0 : 0 ≤ I
      · obtain ⟨b, o, rfl, hb, hck⟩ := rd_reg hbr (show I.toNat < N.length by omega)
        have N1 := c8_near (B := wb.heap.size) hck (by omega)
        have HD : Hid (∀ w, Calls Try.prog 16 #[regV N[I.toNat]!, regV (cellR X Y)] w (Gives (.bool true) w)) := Lib.hid fun w => by
          have := HCC.out N[I.toNat]! w
          rwa [(HS2.out h0).1] at this
        clear hck
        generalize N[I.toNat]! = y at *
        refine wp_region_near wb.heap.size (by kernel_rfl) (by kernel_rfl) ?_; (repeat (go_big_quiet_step ((go_at_call 16; exact Calls.near _ hzz (HD.out _))))); refine wpQuiet_nil ?_; intro _ hw'; obtain ⟨x1, hw''⟩ := hw'; subst hw''
        go_wp2
        go_meet
        exact ⟨rfl, x1.h⟩
      · refine wp_region_near wb.heap.size (by kernel_rfl) (by kernel_rfl) ?_; (repeat (go_big_quiet_step (fail))); refine wpQuiet_nil ?_; intro _ hw'; obtain ⟨x1, hw''⟩ := hw'; subst hw''
        go_wp2
        go_meet
        exact ⟨rfl, x1.h⟩
    case rest =>
      obtain ⟨rfl, hb2⟩ := hcut
      clear N0
      go_wp2
      go_loopw [58] (fun x wr => ∃ k : Nat, k ≤ N.length ∧ x = .int .i64 k ∧ Below wb.heap.size wb wr) (fun x _ => N.length - (intOf x).toNat)
      case atStart => exact ⟨0, Nat.zero_le _, rfl, hb2⟩
      case round =>
        clear hb2
        obtain ⟨k, hk, rfl, hb2⟩ := hrel
        obtain ⟨wo, rfl⟩ : ∃ x : World, x = wr := ⟨_, rfl⟩
        have hz2 := hb2.size
        by_cases hlt : k < N.length
        · obtain ⟨b, o, rfl, hb, hck⟩ := rd_reg hbr hlt
          obtain ⟨g0, g1, g2, g3, g4, g5, g6, g7⟩ := c8_below hck (hb2.mono (by omega)) hb
          have HPk := HPR.out k hlt
          have HY : 0 ≤ I → (wb.cell? ⟨b, (o + I.toNat * 8), none⟩ = some (.int .i64 N[I.toNat]!.kind) ∧ wb.cell? ⟨b, (o + I.toNat * 8) + 1, none⟩ = some (.int .i64 N[I.toNat]!.id) ∧ wb.cell? ⟨b, (o + I.toNat * 8) + 2, none⟩ = some (.int .i64 N[I.toNat]!.par) ∧ wb.cell? ⟨b, (o + I.toNat * 8) + 3, none⟩ = some (.int .i64 N[I.toNat]!.top) ∧ wb.cell? ⟨b, (o + I.toNat * 8) + 4, none⟩ = some (.int .i64 N[I.toNat]!.left) ∧ wb.cell? ⟨b, (o + I.toNat * 8) + 5, none⟩ = some (.int .i64 N[I.toNat]!.bot) ∧ wb.cell? ⟨b, (o + I.toNat * 8) + 6, none⟩ = some (.int .i64 N[I.toNat]!.right) ∧ wb.cell? ⟨b, (o + I.toNat * 8) + 7, none⟩ = some (.string N[I.toNat]!.label)) := fun h0 => by
            obtain ⟨b3, o3, e3, _, hcj⟩ := rd_reg hbr (show I.toNat < N.length by omega)
            cases e3
            exact hcj
          have HPy : Hid (0 ≤ I → Proper N[I.toNat]!) := Lib.hid fun h0 => HPR.out _ (by omega)
          have HF1 : Hid (I < 0 → posIn X Y N[k]! = false) := Lib.hid fun h => HS1.out h k hlt
          have HF2 : Hid (0 ≤ I → posIn X Y N[k]! = true → area N[I.toNat]! ≤ area N[k]!) := Lib.hid fun h => (HS2.out h).2 k hlt
          have HDk : Hid (∀ w, Calls Try.prog 16 #[regV N[k]!, regV (cellR X Y)] w (Gives (.bool (posIn X Y N[k]!)) w)) := Lib.hid fun w => HCC.out _ w
          clear hck
          generalize N[I.toNat]! = y at *
          generalize N[k]! = r at *
          go_upto_region 14 with fail
          clear g0 g1 g2 g3 g4 g5 g6 g7
          have hbk := hb2.alloc hz2 (.cells #[.int .i64 r.kind, .int .i64 r.id, .int .i64 r.par, .int .i64 r.top, .int .i64 r.left, .int .i64 r.bot, .int .i64 r.right, .string r.label] 31)
          have hby := c8z_new wo r _ rfl
          have hzk : wo.heap.size < (wo.alloc (.cells #[.int .i64 r.kind, .int .i64 r.id, .int .i64 r.par, .int .i64 r.top, .int .i64 r.left, .int .i64 r.bot, .int .i64 r.right, .string r.label] 31)).heap.size := by simp
          generalize wo.alloc (.cells #[.int .i64 r.kind, .int .i64 r.id, .int .i64 r.par, .int .i64 r.top, .int .i64 r.left, .int .i64 r.bot, .int .i64 r.right, .string r.label] 31) = wk at *
          have hkz := hbk.size
          have N0 := c8z_near (B := wk.heap.size) hby hzk
          have N1 := c8z_near (B := wk.heap.size) (c8z_below hbx hbk hzb) (by omega)
          have HYk : 0 ≤ I → ∀ x : Near wk.heap.size wk, (x.w.cell? ⟨b, (o + I.toNat * 8), none⟩ = some (.int .i64 y.kind) ∧ x.w.cell? ⟨b, (o + I.toNat * 8) + 1, none⟩ = some (.int .i64 y.id) ∧ x.w.cell? ⟨b, (o + I.toNat * 8) + 2, none⟩ = some (.int .i64 y.par) ∧ x.w.cell? ⟨b, (o + I.toNat * 8) + 3, none⟩ = some (.int .i64 y.top) ∧ x.w.cell? ⟨b, (o + I.toNat * 8) + 4, none⟩ = some (.int .i64 y.left) ∧ x.w.cell? ⟨b, (o + I.toNat * 8) + 5, none⟩ = some (.int .i64 y.bot) ∧ x.w.cell? ⟨b, (o + I.toNat * 8) + 6, none⟩ = some (.int .i64 y.right) ∧ x.w.cell? ⟨b, (o + I.toNat * 8) + 7, none⟩ = some (.string y.label)) := fun h0 => c8_near (B := wk.heap.size) (c8_below (HY h0) hbk (by omega)) (by omega)
          clear HY hby
          go_cut [105] (fun v wx => v = .bool false ∧ Below wk.heap.size wk wx)
          case first =>
            have hzz := Nat.le_refl wk.heap.size
            cases hin : posIn X Y r with
            | false =>
              rw [hin] at HDk
              clear hin HYk
              refine wp_region_near wk.heap.size (by kernel_rfl) (by kernel_rfl) ?_; (repeat (go_big_quiet_step ((go_at_call 16; exact Calls.near _ hzz (HDk.out _))))); refine wpQuiet_nil ?_; intro _ hw'; obtain ⟨x1, hw''⟩ := hw'; subst hw''
              go_wp2
              go_meet
              exact ⟨rfl, x1.h⟩
            | true =>
              rw [hin] at HDk
              have h0 : 0 ≤ I := by
                rcases Int.lt_or_le I 0 with h | h
                · have := HF1.out h
                  rw [hin] at this
                  cases this
                · exact h
              have har := HF2.out h0 hin
              have N2 := HYk h0
              have HPY := HPy.out h0
              have hneg : ¬ I < 0 := by omega
              have v1 : IntKind.i64.wrap (r.bot - r.top) = r.bot - r.top := IntWalk.i64_in _ (by have := HPk.t0; have := HPk.b60; have := HPk.tb; omega)
              have v2 : IntKind.i64.wrap (r.right - r.left) = r.right - r.left := IntWalk.i64_in _ (by have := HPk.l0; have := HPk.r132; have := HPk.lr; omega)
              have v3 : IntKind.i64.wrap (y.bot - y.top) = y.bot - y.top := IntWalk.i64_in _ (by have := HPY.t0; have := HPY.b60; have := HPY.tb; omega)
              have v4 : IntKind.i64.wrap (y.right - y.left) = y.right - y.left := IntWalk.i64_in _ (by have := HPY.l0; have := HPY.r132; have := HPY.lr; omega)
              have a1 := area_pos HPk
              have a2 := area_pos HPY
              unfold area at har a1 a2
              have v5 : IntKind.i64.wrap ((r.bot - r.top) * (r.right - r.left)) = (r.bot - r.top) * (r.right - r.left) := IntWalk.i64_in _ (by omega)
              have v6 : IntKind.i64.wrap ((y.bot - y.top) * (y.right - y.left)) = (y.bot - y.top) * (y.right - y.left) := IntWalk.i64_in _ (by omega)
              have hnlt : ¬ (r.bot - r.top) * (r.right - r.left) < (y.bot - y.top) * (y.right - y.left) := by omega
              clear hin HYk a1 a2 har
              refine wp_region_near wk.heap.size (by kernel_rfl) (by kernel_rfl) ?_; (repeat (go_big_quiet_step ((go_at_call 16; exact Calls.near _ hzz (HDk.out _))))); refine wpQuiet_nil ?_; intro _ hw'; obtain ⟨x1, hw''⟩ := hw'; subst hw''
              go_wp2
              go_meet
              exact ⟨by simp [hnlt], x1.h⟩
          case rest =>
            obtain ⟨rfl, hb3⟩ := hcut
            clear N0 N1 HYk
            go_wp2
            exact ⟨⟨k + 1, by omega, by go_num, hbk.trans (hb3.mono hkz)⟩, by simp [intOf]; omega⟩
        · obtain rfl : k = N.length := by omega
          go_wp2_with (go_at_call 9; refine (HA.out _).mono ?_; rintro e w8 ⟨rfl, hbel8⟩)
          go_ret
          have tt := hb1.trans (hb2.mono hb1.size)
          exact ⟨rfl, tt.trans (hbel8.mono tt.size)⟩
end Go.Proofs.Ytgmodadgmnfhgaa
