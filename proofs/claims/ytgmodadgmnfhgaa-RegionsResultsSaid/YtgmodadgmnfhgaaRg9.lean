/- Check of both. -/
import Derived.Test.YtgmodadgmnfhgaaRg4
import Derived.Test.YtgmodadgmnfhgaaRg5
import Derived.Test.YtgmodadgmnfhgaaRg6
import Derived.Test.YtgmodadgmnfhgaaRg7
namespace Go.Proofs.Ytgmodadgmnfhgaa
open Go.RowKit
theorem check_many {l : List Reg} {n : Nat} (hn : l.length = n) (h : 200 < n) : checkL l = 5 := by
  unfold checkL
  rw [if_pos (by omega)]
theorem check_err {l : List Reg} {n : Nat} (hn : l.length = n) (h : n ≤ 200) {k : Nat} (hk : k < n) (h0 : errN l k = 0) (he : properE l[k]! ≠ 0) : checkL l = properE l[k]! := by
  have e1 : errN l (k + 1) = properE l[k]! := by rw [errN, if_pos h0]
  have e2 := errN_stay (l := l) (k := k + 1) (by rw [e1]; exact he) n hk
  unfold checkL
  rw [if_neg (by omega), hn, e2, e1, if_neg he]
theorem check_ord {l : List Reg} {n : Nat} (hn : l.length = n) (h : n ≤ 200) (hE : errN l n = 0) {k : Nat} (hk : k < n) (h1 : 1 ≤ k) (hl : ltR l[k]! (setPar l[k - 1]! l[k]!.par) = true) : checkL l = 10 := by
  have e1 : ordN l (k + 1) = false := by rw [ordN, hl]; simp; omega
  have e2 := ordN_stay e1 n hk
  unfold checkL
  rw [if_neg (by omega), hn, if_pos hE, e2]
  rfl
theorem check_par {l : List Reg} {n : Nat} (hn : l.length = n) (h : n ≤ 200) (hE : errN l n = 0) (hO : ordN l n = true) {k : Nat} (hk : k < n) (hp : l[k]!.par ≠ parentL l k) : checkL l = 11 := by
  have e1 : parN l (k + 1) = false := by rw [parN, decide_eq_false hp, Bool.and_false]
  have e2 := parN_stay e1 n hk
  unfold checkL
  rw [if_neg (by omega), hn, if_pos hE, if_pos hO, e2]
  rfl
theorem check_ok {l : List Reg} {n : Nat} (hn : l.length = n) (h : n ≤ 200) (hE : errN l n = 0) (hO : ordN l n = true) (hP : parN l n = true) : checkL l = 0 := by
  unfold checkL
  rw [if_neg (by omega), hn, if_pos hE, if_pos hO, if_pos hP]
theorem errN_proper {l : List Reg} {n : Nat} (hE : errN l n = 0) : ∀ i, i < n → Proper l[i]! := by
  intro i hi
  rw [← properE_iff]
  by_cases h : errN l i = 0
  · by_cases h2 : properE l[i]! = 0
    · exact h2
    · have e1 : errN l (i + 1) = properE l[i]! := by rw [errN, if_pos h]
      have := errN_stay (l := l) (k := i + 1) (by rw [e1]; exact h2) n hi
      rw [hE, e1] at this
      exact absurd this.symm h2
  · have := errN_stay h n (Nat.le_of_lt hi)
    rw [hE] at this
    exact absurd this.symm h
theorem c8z_set {w : World} {b : Nat} {q : Reg} (p : Int) (h : (w.cell? ⟨b, 0, none⟩ = some (.int .i64 q.kind) ∧ w.cell? ⟨b, 1, none⟩ = some (.int .i64 q.id) ∧ w.cell? ⟨b, 2, none⟩ = some (.int .i64 q.par) ∧ w.cell? ⟨b, 3, none⟩ = some (.int .i64 q.top) ∧ w.cell? ⟨b, 4, none⟩ = some (.int .i64 q.left) ∧ w.cell? ⟨b, 5, none⟩ = some (.int .i64 q.bot) ∧ w.cell? ⟨b, 6, none⟩ = some (.int .i64 q.right) ∧ w.cell? ⟨b, 7, none⟩ = some (.string q.label))) : ((w.setCell ⟨b, 2, none⟩ (.int .i64 p)).cell? ⟨b, 0, none⟩ = some (.int .i64 (setPar q p).kind) ∧ (w.setCell ⟨b, 2, none⟩ (.int .i64 p)).cell? ⟨b, 1, none⟩ = some (.int .i64 (setPar q p).id) ∧ (w.setCell ⟨b, 2, none⟩ (.int .i64 p)).cell? ⟨b, 2, none⟩ = some (.int .i64 (setPar q p).par) ∧ (w.setCell ⟨b, 2, none⟩ (.int .i64 p)).cell? ⟨b, 3, none⟩ = some (.int .i64 (setPar q p).top) ∧ (w.setCell ⟨b, 2, none⟩ (.int .i64 p)).cell? ⟨b, 4, none⟩ = some (.int .i64 (setPar q p).left) ∧ (w.setCell ⟨b, 2, none⟩ (.int .i64 p)).cell? ⟨b, 5, none⟩ = some (.int .i64 (setPar q p).bot) ∧ (w.setCell ⟨b, 2, none⟩ (.int .i64 p)).cell? ⟨b, 6, none⟩ = some (.int .i64 (setPar q p).right) ∧ (w.setCell ⟨b, 2, none⟩ (.int .i64 p)).cell? ⟨b, 7, none⟩ = some (.string (setPar q p).label)) := by
  obtain ⟨h0, h1, h2, h3, h4, h5, h6, h7⟩ := h
  exact ⟨(World.cell?_setCell_other _ _ _ _ (by simp)).trans h0, (World.cell?_setCell_other _ _ _ _ (by simp)).trans h1, World.cell?_setCell_same _ _ _ h2, (World.cell?_setCell_other _ _ _ _ (by simp)).trans h3, (World.cell?_setCell_other _ _ _ _ (by simp)).trans h4, (World.cell?_setCell_other _ _ _ _ (by simp)).trans h5, (World.cell?_setCell_other _ _ _ _ (by simp)).trans h6, (World.cell?_setCell_other _ _ _ _ (by simp)).trans h7⟩
theorem c8_far {w : World} {b o b' i : Nat} {v : Value} {r : Reg} (h : (w.cell? ⟨b, o, none⟩ = some (.int .i64 r.kind) ∧ w.cell? ⟨b, o + 1, none⟩ = some (.int .i64 r.id) ∧ w.cell? ⟨b, o + 2, none⟩ = some (.int .i64 r.par) ∧ w.cell? ⟨b, o + 3, none⟩ = some (.int .i64 r.top) ∧ w.cell? ⟨b, o + 4, none⟩ = some (.int .i64 r.left) ∧ w.cell? ⟨b, o + 5, none⟩ = some (.int .i64 r.bot) ∧ w.cell? ⟨b, o + 6, none⟩ = some (.int .i64 r.right) ∧ w.cell? ⟨b, o + 7, none⟩ = some (.string r.label))) (hb : b' ≠ b) : ((w.setCell ⟨b', i, none⟩ v).cell? ⟨b, o, none⟩ = some (.int .i64 r.kind) ∧ (w.setCell ⟨b', i, none⟩ v).cell? ⟨b, o + 1, none⟩ = some (.int .i64 r.id) ∧ (w.setCell ⟨b', i, none⟩ v).cell? ⟨b, o + 2, none⟩ = some (.int .i64 r.par) ∧ (w.setCell ⟨b', i, none⟩ v).cell? ⟨b, o + 3, none⟩ = some (.int .i64 r.top) ∧ (w.setCell ⟨b', i, none⟩ v).cell? ⟨b, o + 4, none⟩ = some (.int .i64 r.left) ∧ (w.setCell ⟨b', i, none⟩ v).cell? ⟨b, o + 5, none⟩ = some (.int .i64 r.bot) ∧ (w.setCell ⟨b', i, none⟩ v).cell? ⟨b, o + 6, none⟩ = some (.int .i64 r.right) ∧ (w.setCell ⟨b', i, none⟩ v).cell? ⟨b, o + 7, none⟩ = some (.string r.label)) := by
  obtain ⟨h0, h1, h2, h3, h4, h5, h6, h7⟩ := h
  have hne : ∀ k : Nat, (⟨b', i, none⟩ : Addr) ≠ ⟨b, k, none⟩ := fun k e => hb (by injection e)
  exact ⟨(World.cell?_setCell_other _ _ _ _ (hne _)).trans h0, (World.cell?_setCell_other _ _ _ _ (hne _)).trans h1, (World.cell?_setCell_other _ _ _ _ (hne _)).trans h2, (World.cell?_setCell_other _ _ _ _ (hne _)).trans h3, (World.cell?_setCell_other _ _ _ _ (hne _)).trans h4, (World.cell?_setCell_other _ _ _ _ (hne _)).trans h5, (World.cell?_setCell_other _ _ _ _ (hne _)).trans h6, (World.cell?_setCell_other _ _ _ _ (hne _)).trans h7⟩
set_option maxHeartbeats 2000000 in
theorem check (l : List Reg) (A : Option Addr) (n c : Nat) (w : World) (hc : n ≤ c) (hm : c ≤ maxLen) (rd : Rd w w.heap.size 8 A n (encL l)) :
    Calls Try.prog 13 #[.slice A n c] w (Gives (.int .i64 (checkL l)) w) := by
  have hl := rd_len rd
  have hcm : c ≤ 9223372036854775807 := by unfold maxLen at hm; omega
  by_cases h200 : 200 < n
  · have HR := Lib.hid (check_many hl h200)
    have hi : (200 : Int) < (n : Int) := by omega
    generalize checkL l = R at *
    clear hl hm
    go_enter Try.func13, Try.ntmps13
    go_wp2
    go_ret
    exact ⟨by rw [HR.out]; rfl, Below.refl _ _⟩
  have h2 : n ≤ 200 := by omega
  have hi2 : (n : Int) ≤ 200 := by omega
  have C1 : Hid (∀ k, k < n → errN l k = 0 → properE l[k]! ≠ 0 → checkL l = properE l[k]!) := Lib.hid fun k h1 h3 h4 => check_err hl h2 h1 h3 h4
  have C2 : Hid (errN l n = 0 → ∀ k, k < n → 1 ≤ k → ltR l[k]! (setPar l[k - 1]! l[k]!.par) = true → checkL l = 10) := Lib.hid fun h k h3 h4 h5 => check_ord hl h2 h h3 h4 h5
  have C3 : Hid (errN l n = 0 → ordN l n = true → ∀ k, k < n → l[k]!.par ≠ parentL l k → checkL l = 11) := Lib.hid fun h h3 k h4 h5 => check_par hl h2 h h3 h4 h5
  have C0 : Hid (errN l n = 0 → ordN l n = true → parN l n = true → checkL l = 0) := Lib.hid fun h h3 h4 => check_ok hl h2 h h3 h4
  have HL := Lib.hid hl
  have HM := Lib.hid hm
  generalize checkL l = R at *
  clear hl hm
  go_enter Try.func13, Try.ntmps13
  go_wp2
  go_loopw [15] (fun x wr => ∃ k : Nat, k ≤ n ∧ x = .int .i64 k ∧ Hid (errN l k = 0) ∧ Below w.heap.size w wr) (fun x _ => n - (intOf x).toNat)
  case atStart => exact ⟨0, Nat.zero_le _, rfl, Lib.hid rfl, Below.refl _ _⟩
  case round =>
    obtain ⟨k, hk, rfl, HE, hbel⟩ := hrel
    obtain ⟨wo, rfl⟩ : ∃ x : World, x = wr := ⟨_, rfl⟩
    have hz := hbel.size
    by_cases hlt : k < n
    · obtain ⟨b, o, rfl, hb, hck⟩ := rd_reg rd hlt
      obtain ⟨g0, g1, g2, g3, g4, g5, g6, g7⟩ := c8_below hck hbel hb
      have HP : Hid (∀ w, Calls Try.prog 23 #[regV l[k]!] w (Gives (.int .i64 (properE l[k]!)) w)) := Lib.hid fun w => proper _ w
      by_cases he : properE l[k]! = 0
      · have HE2 : Hid (errN l (k + 1) = 0) := Lib.hid (by rw [errN, if_pos HE.out, he])
        rw [he] at HP
        clear he hck
        generalize l[k]! = r at *
        go_wp2_with (go_at_call 23; refine (HP.out _).mono ?_; rintro e w1 ⟨rfl, hbel1⟩)
        exact ⟨⟨k + 1, by omega, by go_num, HE2, Below.trans (hbel.alloc hz _) (Below.mono hbel1 (by simp; omega))⟩, by simp [intOf]; omega⟩
      · have HR := Lib.hid (C1.out k hlt HE.out he)
        have hne : (properE l[k]! != 0) = true := bne_iff_ne.2 he
        clear he hck
        generalize properE l[k]! = E at *
        generalize l[k]! = r at *
        go_wp2_with (go_at_call 23; refine (HP.out _).mono ?_; rintro e w1 ⟨rfl, hbel1⟩)
        go_ret
        exact ⟨by rw [HR.out]; rfl, Below.trans (hbel.alloc hz _) (Below.mono hbel1 (by simp; omega))⟩
    · obtain rfl : k = n := by omega
      have HPR := Lib.hid (errN_proper HE.out)
      go_wp2
      go_loopw [6] (fun x wr => ∃ j : Nat, 1 ≤ j ∧ (j ≤ k ∨ j = 1) ∧ x = .int .i64 j ∧ Hid (ordN l j = true) ∧ Below w.heap.size w wr) (fun x _ => k - (intOf x).toNat)
      case atStart => exact ⟨1, Nat.le_refl _, .inr rfl, rfl, Lib.hid (by simp [ordN]), hbel⟩
      case round =>
        clear hbel hz
        clear wo
        obtain ⟨j, hj1, hj, rfl, HO, hbel⟩ := hrel
        obtain ⟨wo, rfl⟩ : ∃ x : World, x = wr := ⟨_, rfl⟩
        have hz := hbel.size
        by_cases hlt : j < k
        · obtain ⟨b, o, rfl, hb, hck⟩ := rd_reg rd hlt
          obtain ⟨b2, o2, e2, _, hcp⟩ := rd_reg rd (show j - 1 < k by omega)
          cases e2
          have hck' := c8_below hck hbel hb
          have hcp' := c8_below hcp hbel hb
          have HCR := Lib.hid (C2.out HE.out j hlt hj1)
          have HON : Hid (ltR l[j]! (setPar l[j - 1]! l[j]!.par) = false → ordN l (j + 1) = true) := Lib.hid fun h => by rw [ordN, HO.out, h]; simp
          have hcast : ((j - 1 : Nat) : Int) = (j : Int) - 1 := by omega
          have hsub : (j : Int) - 1 < (k : Int) := by omega
          have hsub0 : (0 : Int) ≤ (j : Int) - 1 := by omega
          have hsubn : ((j : Int) - 1).toNat = j - 1 := by omega
          have hwrap : IntKind.i64.wrap ((j : Int) - 1) = (j : Int) - 1 := IntWalk.i64_in _ (by omega)
          clear hck hcp
          generalize l[j]! = r at *
          generalize l[j - 1]! = q at *
          obtain ⟨d0, d1, d2, d3, d4, d5, d6, d7⟩ := hcp'
          go_upto_region 14 with fail
          clear d0 d1 d2 d3 d4 d5 d6 d7
          have hwb := below_box wo (.cells #[.int .i64 q.kind, .int .i64 q.id, .int .i64 q.par, .int .i64 q.top, .int .i64 q.left, .int .i64 q.bot, .int .i64 q.right, .string q.label] 31)
          have hbx := c8z_new wo q _ rfl
          have hzb : wo.heap.size < (wo.alloc (.cells #[.int .i64 q.kind, .int .i64 q.id, .int .i64 q.par, .int .i64 q.top, .int .i64 q.left, .int .i64 q.bot, .int .i64 q.right, .string q.label] 31)).heap.size := by simp
          have hfz : (wo.alloc (.cells #[.int .i64 q.kind, .int .i64 q.id, .int .i64 q.par, .int .i64 q.top, .int .i64 q.left, .int .i64 q.bot, .int .i64 q.right, .string q.label] 31)).frozen? ⟨wo.heap.size, 2, none⟩ = false := by simp
          have hcw := c8_below hck' hwb (by omega)
          clear hck'
          generalize wo.alloc (.cells #[.int .i64 q.kind, .int .i64 q.id, .int .i64 q.par, .int .i64 q.top, .int .i64 q.left, .int .i64 q.bot, .int .i64 q.right, .string q.label] 31) = wb at *
          have hne : wo.heap.size ≠ b := by omega
          generalize wo.heap.size = B0 at *
          obtain ⟨g0, g1, g2, g3, g4, g5, g6, g7⟩ := hcw
          obtain ⟨d0, d1, d2, d3, d4, d5, d6, d7⟩ := hbx
          go_upto_region 15 with fail
          have hbx := c8z_set r.par ⟨d0, d1, d2, d3, d4, d5, d6, d7⟩
          have hcw := c8_far (i := 2) (v := .int .i64 r.par) ⟨g0, g1, g2, g3, g4, g5, g6, g7⟩ hne
          clear d0 d1 d2 d3 d4 d5 d6 d7 g0 g1 g2 g3 g4 g5 g6 g7
          have hwc := hwb.setCell (p := ⟨B0, 2, none⟩) (Nat.le_refl _) (.int .i64 r.par)
          have hzc : B0 < (wb.setCell ⟨B0, 2, none⟩ (.int .i64 r.par)).heap.size := by simp; omega
          generalize wb.setCell ⟨B0, 2, none⟩ (.int .i64 r.par) = wc at *
          have N0 := c8z_near (B := wc.heap.size) hbx hzc
          have N1 := c8_near (B := wc.heap.size) hcw (by omega)
          have HCM : Hid (∀ w, Calls Try.prog 25 #[regV r, regV (setPar q r.par)] w (Gives (.int .i64 (cmpR r (setPar q r.par))) w)) := Lib.hid fun w => comp r _ w
          have hzz := Nat.le_refl wc.heap.size
          clear hbx hcw hfz hzb
          by_cases hlr : cmpR r (setPar q r.par) < 0
          · have HR := Lib.hid (HCR.out (by unfold ltR; exact decide_eq_true hlr))
            generalize cmpR r (setPar q r.par) = CM at *
            refine wp_region_near wc.heap.size (by kernel_rfl) (by kernel_rfl) ?_; (repeat (go_big_quiet_step ((go_at_call 25; exact Calls.near _ hzz (HCM.out _))))); refine wpQuiet_nil ?_; intro _ hw'; obtain ⟨x1, hw''⟩ := hw'; subst hw''
            go_wp2
            go_ret
            exact ⟨by rw [HR.out]; rfl, hbel.trans ((hwc.trans (x1.h.mono (by omega))).mono hz)⟩
          · have HO2 := Lib.hid (HON.out (by unfold ltR; exact decide_eq_false hlr))
            generalize cmpR r (setPar q r.par) = CM at *
            refine wp_region_near wc.heap.size (by kernel_rfl) (by kernel_rfl) ?_; (repeat (go_big_quiet_step ((go_at_call 25; exact Calls.near _ hzz (HCM.out _))))); refine wpQuiet_nil ?_; intro _ hw'; obtain ⟨x1, hw''⟩ := hw'; subst hw''
            go_wp2
            exact ⟨⟨j + 1, by omega, by omega, by go_num, HO2, hbel.trans ((hwc.trans (x1.h.mono (by omega))).mono hz)⟩, by simp [intOf]; omega⟩
        · have HON : Hid (ordN l k = true) := Lib.hid (by
            rcases Nat.eq_zero_or_pos k with h | h
            · subst h; rfl
            · obtain rfl : j = k := by omega
              exact HO.out)
          have HPA : Hid (∀ i w1, i < k → Below w.heap.size w w1 → Calls Try.prog 26 #[.slice A k c, .int .i64 i] w1 (Gives (.int .i64 (parentL l i)) w1)) := Lib.hid fun i w1 hi hb => parent_ l A k c w1 HL.out HPR.out i hi hc HM.out ((rd.below hb).more hb.size)
          go_wp2
          go_loopw [51] (fun x wr => ∃ i : Nat, i ≤ k ∧ x = .int .i64 i ∧ Hid (parN l i = true) ∧ Below w.heap.size w wr) (fun x _ => k - (intOf x).toNat)
          case atStart => exact ⟨0, Nat.zero_le _, rfl, Lib.hid rfl, hbel⟩
          case round =>
            clear hbel hz
            clear wo
            obtain ⟨i, hi, rfl, HN, hbel⟩ := hrel
            obtain ⟨wo, rfl⟩ : ∃ x : World, x = wr := ⟨_, rfl⟩
            have hz := hbel.size
            by_cases hlt : i < k
            · obtain ⟨b, o, rfl, hb, hck⟩ := rd_reg rd hlt
              have hck' := c8_below hck hbel hb
              have HCR := Lib.hid (C3.out HE.out HON.out i hlt)
              have HNN : Hid (l[i]!.par = parentL l i → parN l (i + 1) = true) := Lib.hid fun h => by rw [parN, HN.out, h]; simp
              have HPi : Hid (∀ w1, Below w.heap.size w w1 → Calls Try.prog 26 #[.slice (some ⟨b, o, none⟩) k c, .int .i64 i] w1 (Gives (.int .i64 (parentL l i)) w1)) := Lib.hid fun w1 hb => HPA.out i w1 hlt hb
              clear hck
              generalize parentL l i = P at *
              generalize l[i]! = r at *
              obtain ⟨g0, g1, g2, g3, g4, g5, g6, g7⟩ := hck'
              go_upto_region 20 with fail
              clear g0 g1 g2 g3 g4 g5 g6 g7
              have hwb := hbel.alloc hz (.cells #[.int .i64 r.kind, .int .i64 r.id, .int .i64 r.par, .int .i64 r.top, .int .i64 r.left, .int .i64 r.bot, .int .i64 r.right, .string r.label] 31)
              have hbx := c8z_new wo r _ rfl
              have hzb : wo.heap.size < (wo.alloc (.cells #[.int .i64 r.kind, .int .i64 r.id, .int .i64 r.par, .int .i64 r.top, .int .i64 r.left, .int .i64 r.bot, .int .i64 r.right, .string r.label] 31)).heap.size := by simp
              generalize wo.alloc (.cells #[.int .i64 r.kind, .int .i64 r.id, .int .i64 r.par, .int .i64 r.top, .int .i64 r.left, .int .i64 r.bot, .int .i64 r.right, .string r.label] 31) = wb at *
              generalize wo.heap.size = B0 at *
              have N0 := c8z_near (B := wb.heap.size) hbx hzb
              clear hbx
              have hzz := Nat.le_refl wb.heap.size
              have hwq := hwb
              have hwz := hwq.size
              by_cases he : r.par = P
              · have HN2 := Lib.hid (HNN.out he)
                have hne : (r.par != P) = false := by simp [he]
                clear he
                refine wp_region_near wb.heap.size (by kernel_rfl) (by kernel_rfl) ?_; (repeat (go_big_quiet_step ((go_at_call 26; exact Calls.near _ hzz (HPi.out _ (hwq.trans (Below.mono (Near.h _) hwz))))))); refine wpQuiet_nil ?_; intro _ hw'; obtain ⟨x1, hw''⟩ := hw'; subst hw''
                go_wp2
                exact ⟨⟨i + 1, by omega, by go_num, HN2, hwq.trans (x1.h.mono hwz)⟩, by simp [intOf]; omega⟩
              · have HR := Lib.hid (HCR.out he)
                have hne : (r.par != P) = true := bne_iff_ne.2 he
                clear he
                refine wp_region_near wb.heap.size (by kernel_rfl) (by kernel_rfl) ?_; (repeat (go_big_quiet_step ((go_at_call 26; exact Calls.near _ hzz (HPi.out _ (hwq.trans (Below.mono (Near.h _) hwz))))))); refine wpQuiet_nil ?_; intro _ hw'; obtain ⟨x1, hw''⟩ := hw'; subst hw''
                go_wp2
                go_ret
                exact ⟨by rw [HR.out]; rfl, hwq.trans (x1.h.mono hwz)⟩
            · obtain rfl : i = k := by omega
              have HR := Lib.hid (C0.out HE.out HON.out HN.out)
              go_wp2
              go_ret
              exact ⟨by rw [HR.out]; rfl, hbel⟩
set_option maxHeartbeats 2000000 in
theorem rcheck (l : List Reg) (A : Option Addr) (n c : Nat) (w : World) (hc : n ≤ c) (hm : c ≤ maxLen) (rd : Rd w w.heap.size 8 A n (encL l)) :
    Calls Try.prog 14 #[.slice A n c] w (Gives (.int .i64 (checkL l)) w) := by
  have hl := rd_len rd
  have hcm : c ≤ 9223372036854775807 := by unfold maxLen at hm; omega
  by_cases h200 : 200 < n
  · have HR := Lib.hid (check_many hl h200)
    have hi : (200 : Int) < (n : Int) := by omega
    generalize checkL l = R at *
    clear hl hm
    go_enter Try.func14, Try.ntmps14
    go_wp2
    go_ret
    exact ⟨by rw [HR.out]; rfl, Below.refl _ _⟩
  have h2 : n ≤ 200 := by omega
  have hi2 : (n : Int) ≤ 200 := by omega
  have C1 : Hid (∀ k, k < n → errN l k = 0 → properE l[k]! ≠ 0 → checkL l = properE l[k]!) := Lib.hid fun k h1 h3 h4 => check_err hl h2 h1 h3 h4
  have C2 : Hid (errN l n = 0 → ∀ k, k < n → 1 ≤ k → ltR l[k]! (setPar l[k - 1]! l[k]!.par) = true → checkL l = 10) := Lib.hid fun h k h3 h4 h5 => check_ord hl h2 h h3 h4 h5
  have C3 : Hid (errN l n = 0 → ordN l n = true → ∀ k, k < n → l[k]!.par ≠ parentL l k → checkL l = 11) := Lib.hid fun h h3 k h4 h5 => check_par hl h2 h h3 h4 h5
  have C0 : Hid (errN l n = 0 → ordN l n = true → parN l n = true → checkL l = 0) := Lib.hid fun h h3 h4 => check_ok hl h2 h h3 h4
  have HL := Lib.hid hl
  have HM := Lib.hid hm
  generalize checkL l = R at *
  clear hl hm
  go_enter Try.func14, Try.ntmps14
  go_wp2
  go_loopw [3] (fun x wr => ∃ k : Nat, k ≤ n ∧ x = .int .i64 k ∧ Hid (errN l k = 0) ∧ Below w.heap.size w wr) (fun x _ => n - (intOf x).toNat)
  case atStart => exact ⟨0, Nat.zero_le _, rfl, Lib.hid rfl, Below.refl _ _⟩
  case round =>
    obtain ⟨k, hk, rfl, HE, hbel⟩ := hrel
    obtain ⟨wo, rfl⟩ : ∃ x : World, x = wr := ⟨_, rfl⟩
    have hz := hbel.size
    by_cases hlt : k < n
    · obtain ⟨b, o, rfl, hb, hck⟩ := rd_reg rd hlt
      obtain ⟨g0, g1, g2, g3, g4, g5, g6, g7⟩ := c8_below hck hbel hb
      have HP : Hid (∀ w, Calls Try.prog 27 #[regV l[k]!] w (Gives (.int .i64 (properE l[k]!)) w)) := Lib.hid fun w => rone _ w
      by_cases he : properE l[k]! = 0
      · have HE2 : Hid (errN l (k + 1) = 0) := Lib.hid (by rw [errN, if_pos HE.out, he])
        rw [he] at HP
        clear he hck
        generalize l[k]! = r at *
        go_wp2_with (go_at_call 27; refine (HP.out _).mono ?_; rintro e w1 ⟨rfl, hbel1⟩)
        exact ⟨⟨k + 1, by omega, by go_num, HE2, hbel.trans (hbel1.mono hz)⟩, by simp [intOf]; omega⟩
      · have HR := Lib.hid (C1.out k hlt HE.out he)
        have hne : (properE l[k]! != 0) = true := bne_iff_ne.2 he
        clear he hck
        generalize properE l[k]! = E at *
        generalize l[k]! = r at *
        go_wp2_with (go_at_call 27; refine (HP.out _).mono ?_; rintro e w1 ⟨rfl, hbel1⟩)
        go_ret
        exact ⟨by rw [HR.out]; rfl, hbel.trans (hbel1.mono hz)⟩
    · obtain rfl : k = n := by omega
      have HPR := Lib.hid (errN_proper HE.out)
      go_wp2
      go_loopw [5] (fun x wr => ∃ j : Nat, 1 ≤ j ∧ (j ≤ k ∨ j = 1) ∧ x = .int .i64 j ∧ Hid (ordN l j = true) ∧ Below w.heap.size w wr) (fun x _ => k - (intOf x).toNat)
      case atStart => exact ⟨1, Nat.le_refl _, .inr rfl, rfl, Lib.hid (by simp [ordN]), hbel⟩
      case round =>
        clear hbel hz
        clear wo
        obtain ⟨j, hj1, hj, rfl, HO, hbel⟩ := hrel
        obtain ⟨wo, rfl⟩ : ∃ x : World, x = wr := ⟨_, rfl⟩
        have hz := hbel.size
        by_cases hlt : j < k
        · obtain ⟨b, o, rfl, hb, hck⟩ := rd_reg rd hlt
          obtain ⟨b2, o2, e2, _, hcp⟩ := rd_reg rd (show j - 1 < k by omega)
          cases e2
          have hck' := c8_below hck hbel hb
          have hcp' := c8_below hcp hbel hb
          have HCR := Lib.hid (C2.out HE.out j hlt hj1)
          have HON : Hid (ltR l[j]! (setPar l[j - 1]! l[j]!.par) = false → ordN l (j + 1) = true) := Lib.hid fun h => by rw [ordN, HO.out, h]; simp
          have hcast : ((j - 1 : Nat) : Int) = (j : Int) - 1 := by omega
          have hsub : (j : Int) - 1 < (k : Int) := by omega
          have hsub0 : (0 : Int) ≤ (j : Int) - 1 := by omega
          have hsubn : ((j : Int) - 1).toNat = j - 1 := by omega
          have hwrap : IntKind.i64.wrap ((j : Int) - 1) = (j : Int) - 1 := IntWalk.i64_in _ (by omega)
          clear hck hcp
          generalize l[j]! = r at *
          generalize l[j - 1]! = q at *
          have N0 := c8_near (B := wo.heap.size) hck' (by omega)
          have N1 := c8_near (B := wo.heap.size) hcp' (by omega)
          have HLS : Hid (∀ w, Calls Try.prog 28 #[regV r, regV q, .bool false] w (Gives (.bool (ltR r (setPar q r.par))) w)) := Lib.hid fun w => rless r q false w
          have hzz := Nat.le_refl wo.heap.size
          clear hck' hcp'
          cases hlr : ltR r (setPar q r.par) with
          | true =>
            rw [hlr] at HLS
            have HR := Lib.hid (HCR.out hlr)
            clear hlr
            go_wp2
            refine wp_region_near wo.heap.size (by kernel_rfl) (by kernel_rfl) ?_; (repeat (go_big_quiet_step ((go_at_call 28; exact Calls.near _ hzz (HLS.out _))))); refine wpQuiet_nil ?_; intro _ hw'; obtain ⟨x1, hw''⟩ := hw'; subst hw''
            go_wp2
            go_ret
            exact ⟨by rw [HR.out]; rfl, hbel.trans (x1.h.mono hz)⟩
          | false =>
            rw [hlr] at HLS
            have HO2 := Lib.hid (HON.out hlr)
            clear hlr
            go_wp2
            refine wp_region_near wo.heap.size (by kernel_rfl) (by kernel_rfl) ?_; (repeat (go_big_quiet_step ((go_at_call 28; exact Calls.near _ hzz (HLS.out _))))); refine wpQuiet_nil ?_; intro _ hw'; obtain ⟨x1, hw''⟩ := hw'; subst hw''
            go_wp2
            exact ⟨⟨j + 1, by omega, by omega, by go_num, HO2, hbel.trans (x1.h.mono hz)⟩, by simp [intOf]; omega⟩
        · have HON : Hid (ordN l k = true) := Lib.hid (by
            rcases Nat.eq_zero_or_pos k with h | h
            · subst h; rfl
            · obtain rfl : j = k := by omega
              exact HO.out)
          have HPA : Hid (∀ i w1, i < k → Below w.heap.size w w1 → Calls Try.prog 29 #[.slice A k c, .int .i64 i] w1 (Gives (.int .i64 (parentL l i)) w1)) := Lib.hid fun i w1 hi hb => rparent l A k c w1 HL.out HPR.out i hi hc HM.out ((rd.below hb).more hb.size)
          go_wp2
          go_loopw [6] (fun x wr => ∃ i : Nat, i ≤ k ∧ x = .int .i64 i ∧ Hid (parN l i = true) ∧ Below w.heap.size w wr) (fun x _ => k - (intOf x).toNat)
          case atStart => exact ⟨0, Nat.zero_le _, rfl, Lib.hid rfl, hbel⟩
          case round =>
            clear hbel hz
            clear wo
            obtain ⟨i, hi, rfl, HN, hbel⟩ := hrel
            obtain ⟨wo, rfl⟩ : ∃ x : World, x = wr := ⟨_, rfl⟩
            have hz := hbel.size
            by_cases hlt : i < k
            · obtain ⟨b, o, rfl, hb, hck⟩ := rd_reg rd hlt
              have hck' := c8_below hck hbel hb
              have HCR := Lib.hid (C3.out HE.out HON.out i hlt)
              have HNN : Hid (l[i]!.par = parentL l i → parN l (i + 1) = true) := Lib.hid fun h => by rw [parN, HN.out, h]; simp
              have HPi : Hid (∀ w1, Below w.heap.size w w1 → Calls Try.prog 29 #[.slice (some ⟨b, o, none⟩) k c, .int .i64 i] w1 (Gives (.int .i64 (parentL l i)) w1)) := Lib.hid fun w1 hb => HPA.out i w1 hlt hb
              clear hck
              generalize parentL l i = P at *
              generalize l[i]! = r at *
              have N0 := c8_near (B := wo.heap.size) hck' (by omega)
              clear hck'
              go_upto_region 17 with fail
              have hzz := Nat.le_refl wo.heap.size
              have hwq := hbel
              have hwz := hwq.size
              by_cases he : r.par = P
              · have HN2 := Lib.hid (HNN.out he)
                have hne : (r.par != P) = false := by simp [he]
                clear he
                refine wp_region_near wo.heap.size (by kernel_rfl) (by kernel_rfl) ?_; (repeat (go_big_quiet_step ((go_at_call 29; exact Calls.near _ hzz (HPi.out _ (hwq.trans (Below.mono (Near.h _) hwz))))))); refine wpQuiet_nil ?_; intro _ hw'; obtain ⟨x1, hw''⟩ := hw'; subst hw''
                go_wp2
                exact ⟨⟨i + 1, by omega, by go_num, HN2, hwq.trans (x1.h.mono hwz)⟩, by simp [intOf]; omega⟩
              · have HR := Lib.hid (HCR.out he)
                have hne : (r.par != P) = true := bne_iff_ne.2 he
                clear he
                refine wp_region_near wo.heap.size (by kernel_rfl) (by kernel_rfl) ?_; (repeat (go_big_quiet_step ((go_at_call 29; exact Calls.near _ hzz (HPi.out _ (hwq.trans (Below.mono (Near.h _) hwz))))))); refine wpQuiet_nil ?_; intro _ hw'; obtain ⟨x1, hw''⟩ := hw'; subst hw''
                go_wp2
                go_ret
                exact ⟨by rw [HR.out]; rfl, hwq.trans (x1.h.mono hwz)⟩
            · obtain rfl : i = k := by omega
              have HR := Lib.hid (C0.out HE.out HON.out HN.out)
              go_wp2
              go_ret
              exact ⟨by rw [HR.out]; rfl, hbel⟩
end Go.Proofs.Ytgmodadgmnfhgaa
