/- RegionsResults: the law's walk. -/
import Derived.Test.YtgmodadgmnfhgaaRgL1
namespace Go.Proofs.Ytgmodadgmnfhgaa
open Go.RowKit
set_option maxHeartbeats 1000000 in
theorem lsame (l : List Int) (A A' : Option Addr) (n c c' B : Nat) (w : World) (hn : n ≤ 100000) (rd : Rd w B 1 A n (ivs .i64 l)) (rd' : Rd w B 1 A' n (ivs .i64 l)) :
    Calls Try.prog 18 #[.slice A n c, .slice A' n c'] w (Gives (.bool true) w) := by
  have hl : l.length = n := by have := rd.1; simpa [ivs] using this
  go_enter Try.func18, Try.ntmps18
  go_wp2
  go_loopw [13] (fun x wr => ∃ k j : Nat, k ≤ n ∧ x = .int .i64 k ∧ wr = w.drewN j) (fun x _ => n - (intOf x).toNat)
  case atStart => exact ⟨0, 0, Nat.zero_le _, rfl, rfl⟩
  case round =>
    obtain ⟨k, j, hk, rfl, rfl⟩ := hrel
    by_cases hlt : k < n
    · obtain ⟨b, o, rfl, _, hc⟩ := rd.at_ hlt
      obtain ⟨b', o', rfl, _, hc'⟩ := rd'.at_ hlt
      have hv : (ivs .i64 l)[k]? = some (.int .i64 l[k]!) := by rw [getElem!_pos l k (by omega)]; simp [ivs, show k < l.length by omega]
      rw [hv] at hc hc'
      generalize l[k]! = v at *
      clear hv
      go_wp2
      go_quiet (fail)
      go_wp2
      exact ⟨⟨k + 1, _, by omega, by go_num, rfl⟩, by simp [intOf]; omega⟩
    · obtain rfl : k = n := by omega
      go_wp2
      go_ret
      exact ⟨rfl, below_drewN (Below.refl _ _)⟩
set_option maxHeartbeats 2000000 in
theorem law_RegionsResults (w : World) (A : Option Addr) (n c : Nat) (l : List Reg) (hn : l.length = n) (hc : n ≤ c) (hm : c ≤ maxLen) (rd : Rd w w.heap.size 8 A n (encL l)) (_hs : ∀ r ∈ l, r.label.size ≤ maxLen)
    (row : Int) (_w1 : (Lit.int .i64 row).wf = true) (col : Int) (_w2 : (Lit.int .i64 col).wf = true) (p : Int) (_w3 : (Lit.int .i64 p).wf = true) :
    Calls Try.prog 6 #[.slice A n c, .int .i64 row, .int .i64 col, .int .i64 p] w (Gives (.bool true) w) := by
  have hnm : n ≤ maxLen := Nat.le_trans hc hm
  have HG := Lib.hid (rgreat l A n c w.heap.size w hnm rd)
  have HA : Hid (∀ w, Calls Try.prog 9 #[] w (Gives (.bool true) w)) := Lib.hid awake
  clear _hs _w1 _w2 _w3
  cases hg : grB l with
  | true =>
    rw [grI_t hg] at HG
    clear hg
    go_enter Try.func6, Try.ntmps6
    go_wp2_with (first
      | (go_at_call 8; refine HG.out.mono ?_; rintro e w1 ⟨rfl, rfl⟩)
      | (go_at_call 9; refine (HA.out _).mono ?_; rintro e w2 ⟨rfl, hbel2⟩))
    go_ret
    exact ⟨rfl, hbel2⟩
  | false =>
    rw [grI_f hg] at HG
    have hn60 : n ≤ 60 := by have := grB_le hg; omega
    have hle : (nestL l).length ≤ 60 := by have := nestL_len l; omega
    have HRN : Hid (∀ w1, Below w.heap.size w w1 → Calls Try.prog 12 #[.slice A n c] w1 (GivesOwn 31 8 id w1 (nestL l).length (encL (nestL l)))) := Lib.hid fun w1 hb => rnest l A n c w1 (by omega) ((rd.below hb).more hb.size)
    have HK1 : Hid (∀ w1, Below w.heap.size w w1 → Calls Try.prog 19 #[.slice A n c, .int .i64 p] w1 (GivesOwn 3 1 id w1 (kidsL l p n).length (ivs .i64 (kidsL l p n)))) := Lib.hid fun w1 hb => children l p A n c w1 (by omega) ((rd.below hb).more hb.size)
    have HK2 : Hid (∀ w1, Below w.heap.size w w1 → Calls Try.prog 20 #[.slice A n c, .int .i64 p] w1 (GivesOwn 3 1 id w1 (kidsL l p n).length (ivs .i64 (kidsL l p n)))) := Lib.hid fun w1 hb => rchildren l p A n c w1 (by omega) ((rd.below hb).more hb.size)
    have hkl : (kidsL l p n).length ≤ 60 := by have := kids_len l p n; omega
    have HAT : Hid (∀ A c w1, (nestL l).length ≤ c → c ≤ maxLen → Rd w1 w1.heap.size 8 A (nestL l).length (encL (nestL l)) → Calls Try.prog 15 #[.slice A (nestL l).length c, .int .i64 row, .int .i64 col] w1 (Gives (.int .i64 (atL (nestL l) row col)) w1)) := Lib.hid fun A c w1 h1 h2 h3 => at_ (nestL l) A _ c w1 rfl (nest_proper l) row col h1 h2 h3
    have HRT : Hid (∀ A c w1, (nestL l).length ≤ c → c ≤ maxLen → Rd w1 w1.heap.size 8 A (nestL l).length (encL (nestL l)) → Calls Try.prog 21 #[.slice A (nestL l).length c, .int .i64 row, .int .i64 col] w1 (Gives (.int .i64 (atL (nestL l) row col)) w1)) := Lib.hid fun A c w1 h1 h2 h3 => rat (nestL l) A _ c w1 rfl (nest_proper l) row col h1 h2 h3
    have HC1 : Hid (∀ a b w, Calls Try.prog 16 #[regV a, regV b] w (Gives (.bool (inB a b)) w)) := Lib.hid contains
    have HC2 : Hid (∀ a b w, Calls Try.prog 17 #[regV a, regV b] w (Gives (.bool (inB a b)) w)) := Lib.hid rcontains
    have hni : (n : Int) ≤ 60 := by omega
    clear hg hm
    generalize atL (nestL l) row col = AT at *
    generalize nestL l = N at *
    generalize kidsL l p n = KL at *
    go_enter Try.func6, Try.ntmps6
    go_wp2_with (go_at_call 8; refine HG.out.mono ?_; rintro e w0 ⟨rfl, hw0⟩; obtain rfl := hw0.symm)
    go_loopw [20] (fun x wr => ∃ k : Nat, k ≤ n ∧ x = .int .i64 k ∧ Below w.heap.size w wr) (fun x _ => n - (intOf x).toNat)
    case atStart => exact ⟨0, Nat.zero_le _, rfl, Below.refl _ _⟩
    case round =>
      obtain ⟨k, hk, rfl, hbel⟩ := hrel
      obtain ⟨wo, rfl⟩ : ∃ x : World, x = wr := ⟨_, rfl⟩
      have hz := hbel.size
      by_cases hlt : k < n
      · obtain ⟨b, o, rfl, hb, hck⟩ := rd_reg rd hlt
        obtain ⟨g0, g1, g2, g3, g4, g5, g6, g7⟩ := c8_below hck hbel hb
        clear hck
        generalize l[k]! = r at *
        go_upto_block 2 with fail
        clear g0 g1 g2 g3 g4 g5 g6 g7
        have hb1 := hbel.alloc hz (.cells #[.int .i64 r.kind, .int .i64 r.id, .int .i64 r.par, .int .i64 r.top, .int .i64 r.left, .int .i64 r.bot, .int .i64 r.right, .string r.label] 31)
        have hbx := c8z_new wo r _ rfl
        have hzb : wo.heap.size < (wo.alloc (.cells #[.int .i64 r.kind, .int .i64 r.id, .int .i64 r.par, .int .i64 r.top, .int .i64 r.left, .int .i64 r.bot, .int .i64 r.right, .string r.label] 31)).heap.size := by simp
        generalize wo.alloc (.cells #[.int .i64 r.kind, .int .i64 r.id, .int .i64 r.par, .int .i64 r.top, .int .i64 r.left, .int .i64 r.bot, .int .i64 r.right, .string r.label] 31) = wb at *
        have hz0 := hz
        generalize wo.heap.size = B0 at *
        go_wp2
        go_loopw [26] (fun x wr => ∃ j : Nat, j ≤ n ∧ x = .int .i64 j ∧ Below wb.heap.size wb wr) (fun x _ => n - (intOf x).toNat)
        case atStart => exact ⟨0, Nat.zero_le _, rfl, Below.refl _ _⟩
        case round =>
          obtain ⟨j, hj, rfl, hbj⟩ := hrel
          obtain ⟨wi, rfl⟩ : ∃ x : World, x = wr := ⟨_, rfl⟩
          have hzj := hbj.size
          by_cases hlj : j < n
          · obtain ⟨b2, o2, e2, _, hcj⟩ := rd_reg rd hlj
            cases e2
            have hcj' := c8_below hcj (hb1.trans (hbj.mono hb1.size)) hb
            have hbx' := c8z_below hbx hbj hzb
            clear hcj
            generalize l[j]! = q at *
            obtain ⟨g0, g1, g2, g3, g4, g5, g6, g7⟩ := hcj'
            go_upto_region 9 with fail
            clear g0 g1 g2 g3 g4 g5 g6 g7
            have hbk := hbj.alloc hzj (.cells #[.int .i64 q.kind, .int .i64 q.id, .int .i64 q.par, .int .i64 q.top, .int .i64 q.left, .int .i64 q.bot, .int .i64 q.right, .string q.label] 31)
            have hby := c8z_new wi q _ rfl
            have hbx2 := c8z_below hbx' (below_box wi (.cells #[.int .i64 q.kind, .int .i64 q.id, .int .i64 q.par, .int .i64 q.top, .int .i64 q.left, .int .i64 q.bot, .int .i64 q.right, .string q.label] 31)) (by omega)
            have hzk : wi.heap.size < (wi.alloc (.cells #[.int .i64 q.kind, .int .i64 q.id, .int .i64 q.par, .int .i64 q.top, .int .i64 q.left, .int .i64 q.bot, .int .i64 q.right, .string q.label] 31)).heap.size := by simp
            generalize wi.alloc (.cells #[.int .i64 q.kind, .int .i64 q.id, .int .i64 q.par, .int .i64 q.top, .int .i64 q.left, .int .i64 q.bot, .int .i64 q.right, .string q.label] 31) = wk at *
            have N0 := c8z_near (B := wk.heap.size) hby hzk
            have N1 := c8z_near (B := wk.heap.size) hbx2 (by omega)
            have hzz := Nat.le_refl wk.heap.size
            clear hby hbx2 hbx'
            generalize hin : inB r q = v at *
            have HD1 : Hid (∀ w, Calls Try.prog 16 #[regV r, regV q] w (Gives (.bool v) w)) := Lib.hid fun w => by rw [← hin]; exact HC1.out r q w
            have HD2 : Hid (∀ w, Calls Try.prog 17 #[regV r, regV q] w (Gives (.bool v) w)) := Lib.hid fun w => by rw [← hin]; exact HC2.out r q w
            clear hin
            refine wp_region_near wk.heap.size (by kernel_rfl) (by kernel_rfl) ?_; (repeat (go_big_quiet_step ((first | (go_at_call 16; exact Calls.near _ hzz (HD1.out _)) | (go_at_call 17; exact Calls.near _ hzz (HD2.out _)))))); refine wpQuiet_nil ?_; intro _ hw'; obtain ⟨x1, hw''⟩ := hw'; subst hw''
            go_wp2
            exact ⟨⟨j + 1, by omega, by go_num, hbk.trans (x1.h.mono hbk.size)⟩, by simp [intOf]; omega⟩
          · obtain rfl : j = n := by omega
            go_wp2
            exact ⟨⟨k + 1, by omega, by go_num, hb1.trans (hbj.mono hb1.size)⟩, by simp [intOf]; omega⟩
      · obtain rfl : k = n := by omega
        go_wp2_with (first
          | (go_at_call 12; refine (HRN.out _ hbel).mono ?_; rintro e w1 ⟨A1, c1, rfl, hown1, hbel1⟩; have t1 := hbel.trans (hbel1.mono hz); obtain ⟨p1, p2⟩ := own_cap hown1; have r1 := Rd.of_own hown1)
          | (go_at_call 19; refine (HK1.out _ t1).mono ?_; rintro e w2 ⟨A2, c2, rfl, hown2, hbel2⟩; have t2 := t1.trans (hbel2.mono t1.size))
          | (go_at_call 20; refine (HK2.out _ t2).mono ?_; rintro e w3 ⟨A3, c3, rfl, hown3, hbel3⟩; have t3 := t2.trans (hbel3.mono t2.size))
          | (go_at_call 18; refine (lsame KL A2 A3 _ c2 c3 _ _ (by omega) (Rd.of_own (own_below hown2 hbel3)) (Rd.of_own hown3)).mono ?_; rintro e w4 ⟨rfl, hbel4⟩; have t4 := t3.trans (hbel4.mono t3.size); have u4 := (hbel2.trans (hbel3.mono hbel2.size)).trans (hbel4.mono (Nat.le_trans hbel2.size hbel3.size)))
          | (go_at_call 15; refine (HAT.out _ _ _ p1 p2 ((r1.below u4).more u4.size)).mono ?_; rintro e w5 ⟨rfl, hbel5⟩; have t5 := t4.trans (hbel5.mono t4.size); have u5 := u4.trans (hbel5.mono u4.size))
          | (go_at_call 21; refine (HRT.out _ _ _ p1 p2 ((r1.below u5).more u5.size)).mono ?_; rintro e w6 ⟨rfl, hbel6⟩; have t6 := t5.trans (hbel6.mono t5.size))
          | (go_at_call 9; refine (HA.out _).mono ?_; rintro e w8 ⟨rfl, hbel8⟩; have t8 := t6.trans (hbel8.mono t6.size)))
        go_ret
        exact ⟨rfl, t8⟩
end Go.Proofs.Ytgmodadgmnfhgaa
