/- RegionsTree: the law's walk. -/
import Derived.Test.YtgmodadgmnfhgaaRgL1
namespace Go.Proofs.Ytgmodadgmnfhgaa
open Go.RowKit
theorem cntP_le (l : List Reg) (m : Int) : ∀ k, cntP l m k ≤ k
  | 0 => Nat.le_refl _
  | k + 1 => by
    have := cntP_le l m k
    rw [cntP]
    split <;> omega
set_option maxRecDepth 10000 in
set_option maxHeartbeats 4000000 in
theorem law_RegionsTree (w : World) (A : Option Addr) (n c : Nat) (l : List Reg) (hn : l.length = n) (hc : n ≤ c) (hm : c ≤ maxLen) (rd : Rd w w.heap.size 8 A n (encL l)) (_hs : ∀ r ∈ l, r.label.size ≤ maxLen) :
    Calls Try.prog 7 #[.slice A n c] w (Gives (.bool true) w) := by
  have hnm : n ≤ maxLen := Nat.le_trans hc hm
  have HG := Lib.hid (rgreat l A n c w.heap.size w hnm rd)
  have HA : Hid (∀ w, Calls Try.prog 9 #[] w (Gives (.bool true) w)) := Lib.hid awake
  clear _hs
  cases hg : grB l with
  | true =>
    rw [grI_t hg] at HG
    clear hg
    go_enter Try.func7, Try.ntmps7
    go_wp2_with (first
      | (go_at_call 8; refine HG.out.mono ?_; rintro e w1 ⟨rfl, rfl⟩)
      | (go_at_call 9; refine (HA.out _).mono ?_; rintro e w2 ⟨rfl, hbel2⟩))
    go_ret
    exact ⟨rfl, hbel2⟩
  | false =>
    rw [grI_f hg] at HG
    have hn60 : n ≤ 60 := by have := grB_le hg; omega
    have hle : (nestL l).length ≤ 60 := by have := nestL_len l; omega
    have HN := Lib.hid (nest_ l A n c w (by omega) rd)
    have HPR := Lib.hid (nest_proper l)
    have HTR := Lib.hid (fun i (hi : i < (nestL l).length) => nest_tree l hi)
    generalize nestL l = N at *
    have HCH : Hid (∀ p A c w1, Rd w1 w1.heap.size 8 A N.length (encL N) → Calls Try.prog 19 #[.slice A N.length c, .int .i64 p] w1 (GivesOwn 3 1 id w1 (kidsL N p N.length).length (ivs .i64 (kidsL N p N.length)))) := Lib.hid fun p A c w1 h => children N p A _ c w1 (by omega) h
    have HKM : Hid (∀ i x, x ∈ kidsL N i N.length → 0 ≤ x ∧ x < N.length ∧ N[x.toNat]!.par = i) := Lib.hid fun i x h => kids_mem h
    have HC0 : Hid (cntP N 0 N.length = (kidsL N (-1) N.length).length) := Lib.hid (by
      have := cntP_step N (-1) N.length
      rw [cntP_low fun i hi => (HTR.out i hi).1] at this
      simpa using this)
    have HCS : Hid (∀ i : Nat, cntP N ((i + 1 : Nat) : Int) N.length = cntP N (i : Int) N.length + (kidsL N (i : Int) N.length).length) := Lib.hid fun i => cntP_step N i N.length
    have HCL : Hid (∀ i : Nat, cntP N (i : Int) N.length ≤ N.length) := Lib.hid fun i => cntP_le _ _ _
    have HCA : Hid (cntP N (N.length : Int) N.length = N.length) := Lib.hid (cntP_all fun i hi => by have := (HTR.out i hi).2.1; omega)
    have HCC : Hid (∀ a b w, Calls Try.prog 16 #[regV a, regV b] w (Gives (.bool (inB a b)) w)) := Lib.hid contains
    have HAR : Hid (∀ z w, Proper z → Calls Try.prog 22 #[regV z] w (Gives (.int .i64 (area z)) w)) := Lib.hid fun z w h => larea z h w
    clear hg hm hn rd
    go_enter Try.func7, Try.ntmps7
    go_wp2_with (first
      | (go_at_call 8; refine HG.out.mono ?_; rintro e w1 ⟨rfl, rfl⟩)
      | (go_at_call 11; refine HN.out.mono ?_; rintro e w1 ⟨A1, c1, rfl, hown1, hbel1⟩; have z1 := hbel1.size; obtain ⟨p1, p2⟩ := own_cap hown1; have r1 := Rd.of_own hown1)
      | (go_at_call 19; refine (HCH.out _ _ _ _ r1).mono ?_; rintro e w2 ⟨A2, c2, rfl, hown2, hbel2⟩; have z2 := hbel2.size; have t2 := hbel1.trans (hbel2.mono z1)))
    rw [← HC0.out]
    have hp2 : c1 ≤ 9223372036854775807 := by unfold maxLen at p2; omega
    clear hown2
    go_loopw [5, 22] (fun x y wr => ∃ i : Nat, i ≤ N.length ∧ y = .int .i64 i ∧ x = .int .i64 (cntP N (i : Int) N.length : Nat) ∧ Below w1.heap.size w1 wr) (fun _ y _ => N.length - (intOf y).toNat)
    case atStart => exact ⟨0, Nat.zero_le _, rfl, rfl, hbel2⟩
    case round =>
      clear hbel2 z2 t2
      obtain ⟨i, hi, rfl, rfl, hbel⟩ := hrel
      obtain ⟨wo, rfl⟩ : ∃ x : World, x = wr := ⟨_, rfl⟩
      have hz := hbel.size
      by_cases hlt : i < N.length
      · obtain ⟨b, o, rfl, hb, hck⟩ := rd_reg r1 hlt
        obtain ⟨g0, g1, g2, g3, g4, g5, g6, g7⟩ := c8_below hck hbel hb
        obtain ⟨T1, T2, T3, T4⟩ := HTR.out i hlt
        have HT3 := Lib.hid T3
        have HT4 := Lib.hid T4
        have HPi := Lib.hid (HPR.out i hlt)
        have hpn : N[i]!.par < (N.length : Int) := by omega
        clear hck T3 T4
        have HY : Hid (0 ≤ N[i]!.par → ∀ W, Below w1.heap.size w1 W → (W.cell? ⟨b, (o + N[i]!.par.toNat * 8), none⟩ = some (.int .i64 N[N[i]!.par.toNat]!.kind) ∧ W.cell? ⟨b, (o + N[i]!.par.toNat * 8) + 1, none⟩ = some (.int .i64 N[N[i]!.par.toNat]!.id) ∧ W.cell? ⟨b, (o + N[i]!.par.toNat * 8) + 2, none⟩ = some (.int .i64 N[N[i]!.par.toNat]!.par) ∧ W.cell? ⟨b, (o + N[i]!.par.toNat * 8) + 3, none⟩ = some (.int .i64 N[N[i]!.par.toNat]!.top) ∧ W.cell? ⟨b, (o + N[i]!.par.toNat * 8) + 4, none⟩ = some (.int .i64 N[N[i]!.par.toNat]!.left) ∧ W.cell? ⟨b, (o + N[i]!.par.toNat * 8) + 5, none⟩ = some (.int .i64 N[N[i]!.par.toNat]!.bot) ∧ W.cell? ⟨b, (o + N[i]!.par.toNat * 8) + 6, none⟩ = some (.int .i64 N[N[i]!.par.toNat]!.right) ∧ W.cell? ⟨b, (o + N[i]!.par.toNat * 8) + 7, none⟩ = some (.string N[N[i]!.par.toNat]!.label))) := Lib.hid fun h0 W hW => by
          obtain ⟨b2, o2, e2, _, hcj⟩ := rd_reg r1 (show N[i]!.par.toNat < N.length by omega)
          cases e2
          exact c8_below hcj hW hb
        have HPy : Hid (0 ≤ N[i]!.par → Proper N[N[i]!.par.toNat]!) := Lib.hid fun h0 => HPR.out _ (by omega)
        generalize N[N[i]!.par.toNat]! = y at *
        generalize N[i]! = r at *
        go_upto_region 9 with fail
        clear g0 g1 g2 g3 g4 g5 g6 g7
        have hb1 := hbel.alloc hz (.cells #[.int .i64 r.kind, .int .i64 r.id, .int .i64 r.par, .int .i64 r.top, .int .i64 r.left, .int .i64 r.bot, .int .i64 r.right, .string r.label] 31)
        have hbx := c8z_new wo r _ rfl
        have hzb : wo.heap.size < (wo.alloc (.cells #[.int .i64 r.kind, .int .i64 r.id, .int .i64 r.par, .int .i64 r.top, .int .i64 r.left, .int .i64 r.bot, .int .i64 r.right, .string r.label] 31)).heap.size := by simp
        generalize wo.alloc (.cells #[.int .i64 r.kind, .int .i64 r.id, .int .i64 r.par, .int .i64 r.top, .int .i64 r.left, .int .i64 r.bot, .int .i64 r.right, .string r.label] 31) = wb at *
        generalize wo.heap.size = B0 at *
        have N0 := c8z_near (B := wb.heap.size) hbx hzb
        have hn1 : ¬ r.par < -1 := by omega
        have hn2 : ¬ (i : Int) ≤ r.par := by omega
        go_cut [50] (fun v wx => v = .bool false ∧ Below wb.heap.size wb wx)
        case first =>
          have hzz := Nat.le_refl wb.heap.size
          by_cases h0 : 0 ≤ r.par
          · have N2 := c8_near (B := wb.heap.size) (HY.out h0 wb hb1) (by have := hb1.size; omega)
            have HD : Hid (∀ w, Calls Try.prog 16 #[regV y, regV r] w (Gives (.bool true) w)) := Lib.hid fun w => by
              have := HCC.out y r w
              rwa [HT3.out h0] at this
            refine wp_region_near wb.heap.size (by kernel_rfl) (by kernel_rfl) ?_; (repeat (go_big_quiet_step ((go_at_call 16; exact Calls.near _ hzz (HD.out _))))); refine wpQuiet_nil ?_; intro _ hw'; obtain ⟨x1, hw''⟩ := hw'; subst hw''
            go_wp2
            go_meet
            exact ⟨rfl, x1.h⟩
          · refine wp_region_near wb.heap.size (by kernel_rfl) (by kernel_rfl) ?_; (repeat (go_big_quiet_step (fail))); refine wpQuiet_nil ?_; intro _ hw'; obtain ⟨x1, hw''⟩ := hw'; subst hw''
            go_wp2
            go_meet
            exact ⟨rfl, x1.h⟩
        case rest =>
          obtain ⟨rfl, hb2⟩ := hcut
          clear N0
          go_wp2
          go_loopw [52] (fun x wr => ∃ k : Nat, k ≤ i ∧ x = .int .i64 k ∧ Below wb.heap.size wb wr) (fun x _ => i - (intOf x).toNat)
          case atStart => exact ⟨0, Nat.zero_le _, rfl, hb2⟩
          case round =>
            clear hb2
            obtain ⟨k, hk, rfl, hb2⟩ := hrel
            obtain ⟨wi, rfl⟩ : ∃ x : World, x = wr := ⟨_, rfl⟩
            have hz2 := hb2.size
            have t2 := hb1.trans (hb2.mono hb1.size)
            by_cases hlk : k < i
            · obtain ⟨b2, o2, e2, _, hcj⟩ := rd_reg r1 (show k < N.length by omega)
              cases e2
              have N1 := c8_near (B := wi.heap.size) (c8_below hcj t2 hb) (by have := t2.size; omega)
              have N0 := c8z_near (B := wi.heap.size) (c8z_below hbx hb2 hzb) (by omega)
              have HT4k := Lib.hid (HT4.out k hlk)
              have HPk := HPR.out k (by omega)
              clear hcj
              generalize N[k]! = q at *
              go_upto_region 14 with fail
              go_cut [81] (fun v wx => v = .bool false ∧ Below wi.heap.size wi wx)
              case first =>
                have hzz := Nat.le_refl wi.heap.size
                have HD : Hid (∀ w, Calls Try.prog 16 #[regV q, regV r] w (Gives (.bool (inB q r)) w)) := Lib.hid fun w => HCC.out q r w
                cases hin : inB q r with
                | false =>
                  rw [hin] at HD
                  clear hin
                  refine wp_region_near wi.heap.size (by kernel_rfl) (by kernel_rfl) ?_; (repeat (go_big_quiet_step ((go_at_call 16; exact Calls.near _ hzz (HD.out _))))); refine wpQuiet_nil ?_; intro _ hw'; obtain ⟨x1, hw''⟩ := hw'; subst hw''
                  go_wp2
                  go_meet
                  exact ⟨rfl, x1.h⟩
                | true =>
                  obtain ⟨h0, hap⟩ := HT4k.out hin
                  rw [hin] at HD
                  have N2 := c8_near (B := wi.heap.size) (HY.out h0 wi t2) (by have := t2.size; omega)
                  have HPY := HPy.out h0
                  have hpn0 : ¬ r.par < 0 := by omega
                  have hnlt : ¬ area q < area y := by omega
                  clear hin
                  refine wp_region_near wi.heap.size (by kernel_rfl) (by kernel_rfl) ?_; (repeat (go_big_quiet_step ((first | (go_at_call 16; exact Calls.near _ hzz (HD.out _)) | (go_at_call 22; exact Calls.near _ hzz (HAR.out _ _ (by first | exact HPk | exact HPY))))))); refine wpQuiet_nil ?_; intro _ hw'; obtain ⟨x1, hw''⟩ := hw'; subst hw''
                  go_wp2
                  go_meet
                  exact ⟨by simp [hnlt], x1.h⟩
              case rest =>
                obtain ⟨rfl, hb3⟩ := hcut
                clear N0 N1
                go_wp2
                exact ⟨⟨k + 1, by omega, by go_num, hb2.trans (hb3.mono hz2)⟩, by simp [intOf]; omega⟩
            · obtain rfl : k = i := by omega
              have HCHi : Hid (∀ w1, Rd w1 w1.heap.size 8 (some ⟨b, o, none⟩) N.length (encL N) → Calls Try.prog 19 #[.slice (some ⟨b, o, none⟩) N.length c1, .int .i64 k] w1 (GivesOwn 3 1 id w1 (kidsL N k N.length).length (ivs .i64 (kidsL N k N.length)))) := Lib.hid fun w1 h => HCH.out k _ c1 w1 h
              have HKMk := Lib.hid (HKM.out k)
              have HCSk := Lib.hid (HCS.out k)
              have hcl := HCL.out (k + 1)
              rw [HCSk.out] at hcl
              generalize cntP N (k : Int) N.length = CN at *
              generalize kidsL N (k : Int) N.length = KL at *
              go_wp2_with (go_at_call 19; refine (HCHi.out _ ((r1.below t2).more t2.size)).mono ?_; rintro e w3 ⟨A3, c3, rfl, hown3, hbel3⟩)
              have r3 := Rd.of_own hown3
              have t3 := t2.trans (hbel3.mono t2.size)
              go_loopw [5, 87] (fun x y wr => ∃ j : Nat, j ≤ KL.length ∧ y = .int .i64 j ∧ x = .int .i64 ((CN + j : Nat) : Int) ∧ wr = w3) (fun _ y _ => KL.length - (intOf y).toNat)
              case atStart => exact ⟨0, Nat.zero_le _, rfl, rfl, rfl⟩
              case round =>
                obtain ⟨j, hj, rfl, rfl, rfl⟩ := hrel
                by_cases hlj : j < KL.length
                · obtain ⟨b4, o4, rfl, _, hcx⟩ := r3.at_ hlj
                  have hv : (ivs .i64 KL)[j]? = some (.int .i64 KL[j]) := by simp [ivs, hlj]
                  rw [hv] at hcx
                  obtain ⟨x0, x1, x2⟩ := HKMk.out KL[j] (List.getElem_mem hlj)
                  have hgt := (HTR.out KL[j].toNat (by omega)).2.1
                  rw [x2] at hgt
                  have hxk : (k : Int) < KL[j] := by omega
                  obtain ⟨b5, o5, e5, _, _, _, hcp, _⟩ := rd_reg r1 (show KL[j].toNat < N.length by omega)
                  cases e5
                  have hcp3 := (t3.cell (p := ⟨b, o + KL[j].toNat * 8 + 2, none⟩) hb).trans hcp
                  rw [x2] at hcp3
                  generalize KL[j] = z at *
                  have hn3 : ¬ z ≤ (k : Int) := by omega
                  have hn4 : ¬ (N.length : Int) ≤ z := by omega
                  clear hv hcp x2
                  go_wp2
                  exact ⟨⟨j + 1, by omega, by go_num, by go_num, by first | trivial | rfl⟩, by simp [intOf]; omega⟩
                · obtain rfl : j = KL.length := by omega
                  go_wp2
                  exact ⟨⟨k + 1, by omega, by go_num, by rw [HCSk.out], t3⟩, by simp [intOf]; omega⟩
      · obtain rfl : i = N.length := by omega
        rw [HCA.out]
        go_wp2_with (go_at_call 9; refine (HA.out _).mono ?_; rintro e w8 ⟨rfl, hbel8⟩; have t8 := (hbel1.trans (hbel.mono z1)).trans (hbel8.mono (Nat.le_trans z1 hz)))
        go_ret
        exact ⟨rfl, t8⟩
end Go.Proofs.Ytgmodadgmnfhgaa
