/- narratorref28.Nest. -/
import Derived.Test.YtgmodadgmnfhgaaRgB
import Derived.Test.YtgmodadgmnfhgaaRg6
import Derived.Deep.RegionHeld3
namespace Go.Proofs.Ytgmodadgmnfhgaa
open Go.RowKit
theorem sort_succ {l : List Reg} {k : Nat} (h : k < l.length) : sortL ((l.take (k + 1)).filter properB) = if properE l[k]! = 0 then insR (sortL ((l.take k).filter properB)) l[k]! else sortL ((l.take k).filter properB) := by
  rw [filt_succ h]
  split
  · exact sortL_snoc _ _
  · rfl
theorem encL_cons (r : Reg) (l : List Reg) : encL (r :: l) = encR r ++ encL l := by simp [encL]
theorem encL_take (l : List Reg) (k : Nat) : encL (l.take k) = (encL l).take (k * 8) := by
  apply List.ext_getElem?
  intro j
  have e : j = j / 8 * 8 + j % 8 := by omega
  rw [List.getElem?_take, e, encL_get _ _ _ (by omega)]
  by_cases h : j / 8 < k
  · rw [if_pos (by omega), encL_get _ _ _ (by omega), List.getElem?_take, if_pos h]
  · rw [if_neg (by omega), List.getElem?_take, if_neg h]
    rfl
theorem encL_drop (l : List Reg) (k : Nat) : encL (l.drop k) = (encL l).drop (k * 8) := by
  apply List.ext_getElem?
  intro j
  have e : j = j / 8 * 8 + j % 8 := by omega
  rw [List.getElem?_drop, e, encL_get _ _ _ (by omega), List.getElem?_drop, show k * 8 + (j / 8 * 8 + j % 8) = (k + j / 8) * 8 + j % 8 by omega, encL_get _ _ _ (by omega)]
theorem encL_cells (l : List Reg) : (encL l).all Value.oneCell' = true := by
  rw [List.all_eq_true]
  intro u hu
  obtain ⟨r, _, h⟩ := List.mem_flatMap.1 hu
  simp [encR] at h
  rcases h with rfl | rfl | rfl | rfl | rfl | rfl | rfl | rfl <;> rfl
set_option maxHeartbeats 2000000 in
theorem rnest (l : List Reg) (A : Option Addr) (n c : Nat) (w : World) (hn : n ≤ 200) (rd : Rd w w.heap.size 8 A n (encL l)) :
    Calls Try.prog 12 #[.slice A n c] w (GivesOwn 31 8 id w (nestL l).length (encL (nestL l))) := by
  have HL := Lib.hid (rd_len rd)
  have hni : (n : Int) ≤ 200 := by omega
  have HF : Hid (∀ k, k < n → sortL ((l.take (k + 1)).filter properB) = if properE l[k]! = 0 then insR (sortL ((l.take k).filter properB)) l[k]! else sortL ((l.take k).filter properB)) := Lib.hid fun k h => sort_succ (by have := HL.out; omega)
  have H0 : Hid (sortL ((l.take 0).filter properB) = []) := Lib.hid rfl
  have HE : Hid (sortL ((l.take n).filter properB) = sortL (l.filter properB)) := Lib.hid (by rw [List.take_of_length_le (by have := HL.out; omega)])
  have HNL : Hid (nestL l = parK (sortL (l.filter properB)) (sortL (l.filter properB)).length) := Lib.hid rfl
  have HNS : Hid (∀ i, i < (sortL (l.filter properB)).length → Proper (sortL (l.filter properB))[i]!) := Lib.hid (sorted_proper l)
  generalize nestL l = NL at *
  go_enter Try.func12, Try.ntmps12
  go_wp2
  go_loopw [3, 4] (fun x y wr => ∃ k m : Nat, k ≤ n ∧ y = .int .i64 k ∧ m ≤ k ∧ Hid ((sortL ((l.take k).filter properB)).length = m) ∧ Ow wr w.heap.size 31 8 x m (encL (sortL ((l.take k).filter properB))) ∧ Below w.heap.size w wr) (fun _ y _ => n - (intOf y).toNat)
  case atStart => exact ⟨0, 0, Nat.zero_le _, rfl, Nat.zero_le _, Lib.hid (by rw [H0.out]; rfl), ⟨_, _, rfl, by rw [H0.out]; exact own_built (xs := []) rfl rfl (Nat.le_refl _) (by omega)⟩, below_box _ _⟩
  case round =>
    obtain ⟨k, m, hk, rfl, hm, HM, ⟨A0, c0, rfl, hown⟩, hbel⟩ := hrel
    obtain ⟨wo, rfl⟩ : ∃ x : World, x = wr := ⟨_, rfl⟩
    have hz := hbel.size
    by_cases hlt : k < n
    · obtain ⟨b, o, rfl, hb, hck⟩ := rd_reg rd hlt
      have hck' := c8_below hck hbel hb
      have HFk := Lib.hid (HF.out k hlt)
      have HP : Hid (∀ w, Calls Try.prog 27 #[regV l[k]!] w (Gives (.int .i64 (properE l[k]!)) w)) := Lib.hid fun w => rone _ w
      clear hck
      by_cases he : properE l[k]! = 0
      · have HF2 := Lib.hid (HFk.out.trans (if_pos he))
        rw [he] at HP
        clear he
        generalize l[k]! = r at *
        generalize hG : sortL ((l.take k).filter properB) = G at *
        clear hG
        have hcap := own_cap hown
        have hm200 : m ≤ 200 := by omega
        obtain ⟨g0, g1, g2, g3, g4, g5, g6, g7⟩ := hck'
        go_upto_block 2 with (go_at_call 27; refine (HP.out _).mono ?_; rintro e w1 ⟨rfl, hbel1⟩)
        have hz1 := hbel1.size
        have hck1 := c8_below (w := wo) ⟨g0, g1, g2, g3, g4, g5, g6, g7⟩ (hbel1.mono hz) hb
        have hown1 := own_below hown hbel1
        have hb1 := hbel.trans (hbel1.mono hz)
        clear g0 g1 g2 g3 g4 g5 g6 g7 hown hbel hbel1 HP
        go_cut [5] (fun x wx => x = .int .i64 (posL G r m : Nat) ∧ Below w1.heap.size w1 wx)
        case first =>
          have HPL : Hid (∀ j, posL G r (j + 1) = if ltR r G[j]! = true then posL G r j else j + 1) := Lib.hid fun j => rfl
          have HP0 : Hid (posL G r 0 = 0) := Lib.hid rfl
          generalize posL G r = pf at *
          go_wp2_with fail
          go_loopw [5] (fun x wr => ∃ a : Nat, a ≤ m ∧ x = .int .i64 a ∧ Below w1.heap.size w1 wr ∧ Hid (pf m = pf a)) (fun x _ => (intOf x).toNat)
          case atStart => exact ⟨m, Nat.le_refl _, rfl, Below.refl _ _, Lib.hid rfl⟩
          case round =>
            obtain ⟨a, ha, rfl, hbx, HA⟩ := hrel
            obtain ⟨wi, rfl⟩ : ∃ x : World, x = wr := ⟨_, rfl⟩
            by_cases h0 : 0 < a
            · obtain ⟨g, o2, rfl, hgb, hcg⟩ := rd_reg (Rd.of_own hown1) (show a - 1 < m by omega)
              have hcg' := c8_below hcg hbx hgb
              have hck2 := c8_below hck1 hbx (by omega)
              have HPa := Lib.hid (HPL.out (a - 1))
              rw [show a - 1 + 1 = a by omega] at HPa
              generalize G[a - 1]! = q at *
              have HLS : Hid (∀ w, Calls Try.prog 28 #[regV r, regV q, .bool true] w (Gives (.bool (ltR r q)) w)) := Lib.hid fun w => rless r q true w
              have hzx := hbx.size
              have N0 := c8_near (B := wi.heap.size) hck2 (by omega)
              have N1 := c8_near (B := wi.heap.size) hcg' (by omega)
              have hzz := Nat.le_refl wi.heap.size
              have hpos : (0 : Int) < (a : Int) := by omega
              have hsub0 : (0 : Int) ≤ (a : Int) - 1 := by omega
              have hsub1 : (a : Int) - 1 < (m : Int) := by omega
              have hsubn : ((a : Int) - 1).toNat = a - 1 := by omega
              have hwrap : IntKind.i64.wrap ((a : Int) - 1) = (a : Int) - 1 := IntWalk.i64_in _ (by omega)
              clear hcg hcg' hck2
              cases hlr : ltR r q with
              | true =>
                rw [hlr] at HLS
                have HA2 : Hid (pf m = pf (a - 1)) := Lib.hid (by rw [HA.out, HPa.out, if_pos hlr])
                clear hlr
                go_wp2
                refine wp_region_near wi.heap.size (by kernel_rfl) (by kernel_rfl) ?_; (repeat (go_big_quiet_step ((go_at_call 28; exact Calls.near _ hzz (HLS.out _))))); refine wpQuiet_nil ?_; intro _ hw'; obtain ⟨x1, hw''⟩ := hw'; subst hw''
                go_wp2
                exact ⟨⟨a - 1, by omega, by go_num, hbx.trans (x1.h.mono hzx), HA2⟩, by simp [intOf]; omega⟩
              | false =>
                rw [hlr] at HLS
                have HA2 : Hid (pf m = a) := Lib.hid (by rw [HA.out, HPa.out, if_neg (by rw [hlr]; simp)])
                clear hlr
                go_wp2
                refine wp_region_near wi.heap.size (by kernel_rfl) (by kernel_rfl) ?_; (repeat (go_big_quiet_step ((go_at_call 28; exact Calls.near _ hzz (HLS.out _))))); refine wpQuiet_nil ?_; intro _ hw'; obtain ⟨x1, hw''⟩ := hw'; subst hw''
                go_wp2
                go_meet
                exact ⟨by rw [HA2.out], hbx.trans (x1.h.mono hzx)⟩
            · obtain rfl : a = 0 := by omega
              go_wp2
              go_quiet (fail)
              go_wp2
              go_meet
              exact ⟨by rw [HA.out, HP0.out], below_drewN hbx⟩
        case rest =>
          obtain ⟨rfl, hbx⟩ := hcut
          obtain ⟨hp, _, _⟩ := posL_spec G r m
          have HI : Hid (insR G r = G.take (posL G r m) ++ r :: G.drop (posL G r m)) := Lib.hid (by rw [← HM.out]; rfl)
          have HIL : Hid ((insR G r).length = m + 1) := Lib.hid (by rw [insR_len, HM.out])
          generalize posL G r m = p at *
          have hown2 := own_below hown1 hbx
          have hck2 := c8_below hck1 hbx (by omega)
          have hb2 := hb1.trans (hbx.mono (by omega))
          have hz2 := hb2.size
          have hcm : c0 ≤ 9223372036854775807 := by have := hcap.2; unfold maxLen at this; omega
          have hmc := hcap.1
          have RT : Hid (Rd wc wc.heap.size 8 A0 p (encL (G.take p))) := Lib.hid (by rw [encL_take]; exact (Rd.of_own hown2).take hp)
          have RD0 := Lib.hid ((Rd.of_own hown2).cut hp hmc)
          have j0 : (0 : Int) ≤ (p : Int) := by omega
          have j1 : (p : Int) ≤ (m : Int) := by omega
          have j2 : (p : Int) ≤ (c0 : Int) := by omega
          have j3 : p ≤ c0 := by omega
          have hwf := hown2
          clear hown1 hck1 hbx hb1
          rcases hwf.2 with ⟨h1, h2⟩ | ⟨g, cap, cur, h1, _⟩
          · injection h1 with h3 h4 h5
            subst h3 h4 h5
            obtain rfl : p = 0 := by omega
            have RD : Hid (Rd wc wc.heap.size 8 none 0 (encL (G.drop 0))) := Lib.hid (by have := RD0.out; rw [← encL_drop] at this; simpa using this)
            clear RD0 hwf
            obtain ⟨g0, g1, g2, g3, g4, g5, g6, g7⟩ := hck2
            go_upto_region 10 with (at_builtin; refine app_list rfl _ _ _ rfl elt_reg (wc.heap.size) _ rfl (own_built (xs := []) rfl rfl (Nat.le_refl _) (by omega)) _ _ rfl ((RT.out.below (below_box _ _))) (by first | rfl | exact encL_cells _) (by omega) (by omega) (by first | (simp; done) | (simp; omega) | omega) ?_; intro A3 c3 w3 hown3 hbel3 hgr3 hat3; have z3 := hbel3.size; (try simp only [World.size_alloc] at z3); (try simp only [Nat.zero_add, List.nil_append] at hown3))
            have tc := (below_box wc _).trans hbel3
            have s3 := c8_below (w := wc) ⟨g0, g1, g2, g3, g4, g5, g6, g7⟩ tc (by omega)
            have RD3 := Lib.hid (RD.out.below tc)
            have hz3 := tc.size
            have hzl : wc.heap.size < w3.heap.size := Nat.lt_of_lt_of_le (by simp) hbel3.size
            clear g0 g1 g2 g3 g4 g5 g6 g7 hgr3 hat3
            go_region_held3 (fun w' => (w'.cell? ⟨b, (o + k * 8), none⟩ = some (.int .i64 r.kind) ∧ w'.cell? ⟨b, (o + k * 8) + 1, none⟩ = some (.int .i64 r.id) ∧ w'.cell? ⟨b, (o + k * 8) + 2, none⟩ = some (.int .i64 r.par) ∧ w'.cell? ⟨b, (o + k * 8) + 3, none⟩ = some (.int .i64 r.top) ∧ w'.cell? ⟨b, (o + k * 8) + 4, none⟩ = some (.int .i64 r.left) ∧ w'.cell? ⟨b, (o + k * 8) + 5, none⟩ = some (.int .i64 r.bot) ∧ w'.cell? ⟨b, (o + k * 8) + 6, none⟩ = some (.int .i64 r.right) ∧ w'.cell? ⟨b, (o + k * 8) + 7, none⟩ = some (.string r.label))) (first | assumption | go_keep) (first
              | ((fail_if_success have := hown4); refine app_step rfl _ _ _ rfl elt_reg (wc.heap.size) _ rfl ((own_below (w := w3) hown3 (((Below.refl w3.heap.size w3).drew).alloc (by simp) _))) _ _ rfl ((rd_built (xs := encR r) rfl rfl)) (rfl) (by omega) (by omega) (by first | (simp; done) | (simp; omega) | omega) ?_; intro A4 c4 w4 hown4 hbel4 hgr4 hat4; have z4 := hbel4.size; (try simp only [Nat.zero_add, List.nil_append] at hown4); have t4 := (((Below.refl wc.heap.size w3).drew).alloc (by simp; omega) _).trans hbel4; have zz4 := t4.size; have k4 := c8_below s3 t4 (by omega))
              | (refine app_step rfl _ _ _ rfl elt_reg (wc.heap.size) _ rfl (hown4) _ _ rfl ((RD3.out.below t4)) (encL_cells _) (by omega) (by omega) (by first | (simp; done) | (simp; omega) | omega) ?_; intro A5 c5 w5 hown5 hbel5 hgr5 hat5; have z5 := hbel5.size; (try simp only [Nat.zero_add, List.nil_append] at hown5); have t5 := t4.trans hbel5; have k5 := c8_below s3 t5 (by omega)))
            all_goals
              go_wp2
              have HT : ∀ (q : Nat) (xs : List Value), w5.ownsRow wc.heap.size 31 8 (.slice A5 q c5) q xs → q = 0 + 1 → xs = encL (insR G r) → w5.ownsRow w.heap.size 31 8 (.slice A5 (0 + 1) c5) (0 + 1) (encL (insR G r)) := by
                rintro q xs h rfl rfl
                exact own_less h hz2
              refine ⟨⟨k + 1, 0 + 1, by omega, by go_num, by omega, Lib.hid (by rw [HF2.out, HIL.out]), ⟨A5, c5, by first | rfl | (congr 1; omega), ?_⟩, hb2.trans ((tc.trans t5).mono hz2)⟩, by simp [intOf]; omega⟩
              rw [HF2.out]
              exact HT _ _ hown5 (by omega) (by rw [HI.out, encL_app, encL_cons, List.append_assoc])
          · injection h1 with h3 h4 h5
            subst h3 h5
            by_cases hpc : c0 = p
            · have RD : Hid (Rd wc wc.heap.size 8 (some ⟨g, 0, none⟩) (m - p) (encL (G.drop p))) := Lib.hid (by have := RD0.out; rwa [if_pos hpc, ← encL_drop] at this)
              clear RD0 hwf
              obtain rfl : m = p := by omega
              rw [Nat.sub_self] at RD
              obtain ⟨g0, g1, g2, g3, g4, g5, g6, g7⟩ := hck2
              go_upto_region 10 with (at_builtin; refine app_list rfl _ _ _ rfl elt_reg (wc.heap.size) _ rfl (own_built (xs := []) rfl rfl (Nat.le_refl _) (by omega)) _ _ rfl ((RT.out.below (below_box _ _))) (by first | rfl | exact encL_cells _) (by omega) (by omega) (by first | (simp; done) | (simp; omega) | omega) ?_; intro A3 c3 w3 hown3 hbel3 hgr3 hat3; have z3 := hbel3.size; (try simp only [World.size_alloc] at z3); (try simp only [Nat.zero_add, List.nil_append] at hown3))
              have tc := (below_box wc _).trans hbel3
              have s3 := c8_below (w := wc) ⟨g0, g1, g2, g3, g4, g5, g6, g7⟩ tc (by omega)
              have RD3 := Lib.hid (RD.out.below tc)
              have hz3 := tc.size
              have hzl : wc.heap.size < w3.heap.size := Nat.lt_of_lt_of_le (by simp) hbel3.size
              clear g0 g1 g2 g3 g4 g5 g6 g7 hgr3 hat3
              go_region_held3 (fun w' => (w'.cell? ⟨b, (o + k * 8), none⟩ = some (.int .i64 r.kind) ∧ w'.cell? ⟨b, (o + k * 8) + 1, none⟩ = some (.int .i64 r.id) ∧ w'.cell? ⟨b, (o + k * 8) + 2, none⟩ = some (.int .i64 r.par) ∧ w'.cell? ⟨b, (o + k * 8) + 3, none⟩ = some (.int .i64 r.top) ∧ w'.cell? ⟨b, (o + k * 8) + 4, none⟩ = some (.int .i64 r.left) ∧ w'.cell? ⟨b, (o + k * 8) + 5, none⟩ = some (.int .i64 r.bot) ∧ w'.cell? ⟨b, (o + k * 8) + 6, none⟩ = some (.int .i64 r.right) ∧ w'.cell? ⟨b, (o + k * 8) + 7, none⟩ = some (.string r.label))) (first | assumption | go_keep) (first
                | ((fail_if_success have := hown4); refine app_step rfl _ _ _ rfl elt_reg (wc.heap.size) _ rfl ((own_below (w := w3) hown3 (((Below.refl w3.heap.size w3).drew).alloc (by simp) _))) _ _ rfl ((rd_built (xs := encR r) rfl rfl)) (rfl) (by omega) (by omega) (by first | (simp; done) | (simp; omega) | omega) ?_; intro A4 c4 w4 hown4 hbel4 hgr4 hat4; have z4 := hbel4.size; (try simp only [Nat.zero_add, List.nil_append] at hown4); have t4 := (((Below.refl wc.heap.size w3).drew).alloc (by simp; omega) _).trans hbel4; have zz4 := t4.size; have k4 := c8_below s3 t4 (by omega))
                | (refine app_step rfl _ _ _ rfl elt_reg (wc.heap.size) _ rfl (hown4) _ _ rfl ((RD3.out.below t4)) (encL_cells _) (by omega) (by omega) (by first | (simp; done) | (simp; omega) | omega) ?_; intro A5 c5 w5 hown5 hbel5 hgr5 hat5; have z5 := hbel5.size; (try simp only [Nat.zero_add, List.nil_append] at hown5); have t5 := t4.trans hbel5; have k5 := c8_below s3 t5 (by omega)))
              all_goals
                go_wp2
                have HT : ∀ (q : Nat) (xs : List Value), w5.ownsRow wc.heap.size 31 8 (.slice A5 q c5) q xs → q = m + 1 → xs = encL (insR G r) → w5.ownsRow w.heap.size 31 8 (.slice A5 (m + 1) c5) (m + 1) (encL (insR G r)) := by
                  rintro q xs h rfl rfl
                  exact own_less h hz2
                refine ⟨⟨k + 1, m + 1, by omega, by go_num, by omega, Lib.hid (by rw [HF2.out, HIL.out]), ⟨A5, c5, by first | rfl | (congr 1; omega), ?_⟩, hb2.trans ((tc.trans t5).mono hz2)⟩, by simp [intOf]; omega⟩
                rw [HF2.out]
                exact HT _ _ hown5 (by omega) (by rw [HI.out, encL_app, encL_cons, List.append_assoc])
            · have RD : Hid (Rd wc wc.heap.size 8 (some ⟨g, p * 8, none⟩) (m - p) (encL (G.drop p))) := Lib.hid (by have := RD0.out; rw [if_neg hpc, ← encL_drop] at this; simpa [add_none] using this)
              clear RD0 hwf
              obtain ⟨g0, g1, g2, g3, g4, g5, g6, g7⟩ := hck2
              go_upto_region 10 with (at_builtin; refine app_list rfl _ _ _ rfl elt_reg (wc.heap.size) _ rfl (own_built (xs := []) rfl rfl (Nat.le_refl _) (by omega)) _ _ rfl ((RT.out.below (below_box _ _))) (by first | rfl | exact encL_cells _) (by omega) (by omega) (by first | (simp; done) | (simp; omega) | omega) ?_; intro A3 c3 w3 hown3 hbel3 hgr3 hat3; have z3 := hbel3.size; (try simp only [World.size_alloc] at z3); (try simp only [Nat.zero_add, List.nil_append] at hown3))
              have tc := (below_box wc _).trans hbel3
              have s3 := c8_below (w := wc) ⟨g0, g1, g2, g3, g4, g5, g6, g7⟩ tc (by omega)
              have RD3 := Lib.hid (RD.out.below tc)
              have hz3 := tc.size
              have hzl : wc.heap.size < w3.heap.size := Nat.lt_of_lt_of_le (by simp) hbel3.size
              clear g0 g1 g2 g3 g4 g5 g6 g7 hgr3 hat3
              go_region_held3 (fun w' => (w'.cell? ⟨b, (o + k * 8), none⟩ = some (.int .i64 r.kind) ∧ w'.cell? ⟨b, (o + k * 8) + 1, none⟩ = some (.int .i64 r.id) ∧ w'.cell? ⟨b, (o + k * 8) + 2, none⟩ = some (.int .i64 r.par) ∧ w'.cell? ⟨b, (o + k * 8) + 3, none⟩ = some (.int .i64 r.top) ∧ w'.cell? ⟨b, (o + k * 8) + 4, none⟩ = some (.int .i64 r.left) ∧ w'.cell? ⟨b, (o + k * 8) + 5, none⟩ = some (.int .i64 r.bot) ∧ w'.cell? ⟨b, (o + k * 8) + 6, none⟩ = some (.int .i64 r.right) ∧ w'.cell? ⟨b, (o + k * 8) + 7, none⟩ = some (.string r.label))) (first | assumption | go_keep) (first
                | ((fail_if_success have := hown4); refine app_step rfl _ _ _ rfl elt_reg (wc.heap.size) _ rfl ((own_below (w := w3) hown3 (((Below.refl w3.heap.size w3).drew).alloc (by simp) _))) _ _ rfl ((rd_built (xs := encR r) rfl rfl)) (rfl) (by omega) (by omega) (by first | (simp; done) | (simp; omega) | omega) ?_; intro A4 c4 w4 hown4 hbel4 hgr4 hat4; have z4 := hbel4.size; (try simp only [Nat.zero_add, List.nil_append] at hown4); have t4 := (((Below.refl wc.heap.size w3).drew).alloc (by simp; omega) _).trans hbel4; have zz4 := t4.size; have k4 := c8_below s3 t4 (by omega))
                | (refine app_step rfl _ _ _ rfl elt_reg (wc.heap.size) _ rfl (hown4) _ _ rfl ((RD3.out.below t4)) (encL_cells _) (by omega) (by omega) (by first | (simp; done) | (simp; omega) | omega) ?_; intro A5 c5 w5 hown5 hbel5 hgr5 hat5; have z5 := hbel5.size; (try simp only [Nat.zero_add, List.nil_append] at hown5); have t5 := t4.trans hbel5; have k5 := c8_below s3 t5 (by omega)))
              all_goals
                go_wp2
                have HT : ∀ (q : Nat) (xs : List Value), w5.ownsRow wc.heap.size 31 8 (.slice A5 q c5) q xs → q = m + 1 → xs = encL (insR G r) → w5.ownsRow w.heap.size 31 8 (.slice A5 (m + 1) c5) (m + 1) (encL (insR G r)) := by
                  rintro q xs h rfl rfl
                  exact own_less h hz2
                refine ⟨⟨k + 1, m + 1, by omega, by go_num, by omega, Lib.hid (by rw [HF2.out, HIL.out]), ⟨A5, c5, by first | rfl | (congr 1; omega), ?_⟩, hb2.trans ((tc.trans t5).mono hz2)⟩, by simp [intOf]; omega⟩
                rw [HF2.out]
                exact HT _ _ hown5 (by omega) (by rw [HI.out, encL_app, encL_cons, List.append_assoc])
      · have HF2 := Lib.hid (HFk.out.trans (if_neg he))
        have hne : (properE l[k]! != 0) = true := bne_iff_ne.2 he
        clear he
        generalize properE l[k]! = E at *
        generalize l[k]! = r at *
        obtain ⟨g0, g1, g2, g3, g4, g5, g6, g7⟩ := hck'
        go_wp2_with (go_at_call 27; refine (HP.out _).mono ?_; rintro e w1 ⟨rfl, hbel1⟩)
        refine ⟨⟨k + 1, m, by omega, by go_num, by omega, Lib.hid (by rw [HF2.out, HM.out]), ⟨A0, c0, rfl, ?_⟩, hbel.trans (hbel1.mono hz)⟩, by simp [intOf]; omega⟩
        rw [HF2.out]
        exact own_below hown hbel1
    · obtain rfl : k = n := by omega
      rw [HE.out] at hown
      have HSm : Hid ((sortL (l.filter properB)).length = m) := Lib.hid (by rw [← HE.out]; exact HM.out)
      have hm2 : (m : Int) ≤ 200 := by omega
      have hcap := own_cap hown
      have hcm : c0 ≤ 9223372036854775807 := by have := hcap.2; unfold maxLen at this; omega
      have hmc : (m : Int) ≤ (c0 : Int) := by have := hcap.1; omega
      have hmin : min (m : Int) 200 = m := by omega
      generalize sortL (l.filter properB) = S at *
      clear HM
      have t1 := hbel
      have hown1 := hown
      have hbel1 := Below.refl w.heap.size wo
      have HS := hbel1
      go_wp2
      go_loopw [7] (fun y wr => ∃ i : Nat, i ≤ m ∧ y = .int .i64 i ∧ wr.ownsRow w.heap.size 31 8 (.slice A0 m c0) m (encL (parK S i)) ∧ Below w.heap.size w wr) (fun y _ => m - (intOf y).toNat)
      case atStart => exact ⟨0, Nat.zero_le _, rfl, by rw [parK_zero]; exact hown1, t1⟩
      case round =>
        clear hown1 hbel1 t1 hbel hz HS
        obtain ⟨i, hi, rfl, hown, hbel⟩ := hrel
        obtain ⟨wo2, rfl⟩ : ∃ x : World, x = wr := ⟨_, rfl⟩
        have hz := hbel.size
        by_cases hlt : i < m
        · obtain ⟨g, rfl, hg⟩ := own_at hown (show 0 < m by omega)
          have hpc := rparent (parK S i) (some ⟨g, 0, none⟩) m c0 wo2 (by rw [parK_len]; exact HSm.out) (fun j hj => by
            have hjS : j < S.length := by have := HSm.out; omega
            rw [← properE_iff, (parK_rect hjS).2.2.2.1, properE_iff]
            exact HNS.out j hjS) i hlt hcap.1 hcap.2 (Rd.of_own hown)
          have HPC := Lib.hid hpc
          have HSU := Lib.hid (parK_succ (s := S) (k := i) (by have := HSm.out; omega))
          have HSE := Lib.hid (fun p => encL_set (parK S i) i p (by rw [parK_len]; have := HSm.out; omega))
          have hgw := (hown.lt g rfl).2
          have hcl := hown.cellAt (i * 8 + 2) (by omega)
          have hcx : (encL (parK S i))[i * 8 + 2]? = some (.int .i64 (parK S i)[i]!.par) := by
            have hiS : i < (parK S i).length := by rw [parK_len]; have := HSm.out; omega
            rw [encL_get _ _ _ (by omega), List.getElem?_eq_getElem hiS, getElem!_pos _ i hiS]
            rfl
          rw [hcx] at hcl
          generalize parentL (parK S i) i = P at *
          generalize (parK S i)[i]!.par = Q at *
          clear hpc hcx
          have hfr := hown.frozenAt (i * 8 + 2)
          go_wp2_with (go_at_call 29; refine HPC.out.mono ?_; rintro e w2 ⟨rfl, hbel2⟩; have hcl2 := (hbel2.cell (p := ⟨g, i * 8 + 2, none⟩) hgw).trans hcl; have own2 := own_below hown hbel2; have hfr2 := own2.frozenAt (i * 8 + 2))
          have o3 := (own2.stored (i * 8 + 2) (.int .i64 P)).1
          rw [HSE.out P, ← HSU.out] at o3
          exact ⟨⟨i + 1, by omega, by go_num, o3, (hbel.trans (hbel2.mono hz)).setCell (hown.lt g rfl).1 _⟩, by simp [intOf]; omega⟩
        · obtain rfl : i = m := by omega
          go_wp2
          go_ret
          have e := HSm.out
          rw [HNL.out, parK_len, e]
          exact ⟨A0, c0, rfl, hown, hbel⟩
end Go.Proofs.Ytgmodadgmnfhgaa
