/- regions.Children, narratorref28.Children; the load of a region out of a slice. -/
import Derived.Test.YtgmodadgmnfhgaaRg1
import Derived.Test.YtgmodadgmnfhgaaNear
namespace Go.Proofs.Ytgmodadgmnfhgaa
open Go.RowKit
theorem rd_reg {w : World} {B n : Nat} {A : Option Addr} {l : List Reg} (rd : Rd w B 8 A n (encL l)) {k : Nat} (hk : k < n) : ∃ b o, A = some ⟨b, o, none⟩ ∧ b < B ∧ (w.cell? ⟨b, (o + k * 8), none⟩ = some (.int .i64 l[k]!.kind) ∧ w.cell? ⟨b, (o + k * 8) + 1, none⟩ = some (.int .i64 l[k]!.id) ∧ w.cell? ⟨b, (o + k * 8) + 2, none⟩ = some (.int .i64 l[k]!.par) ∧ w.cell? ⟨b, (o + k * 8) + 3, none⟩ = some (.int .i64 l[k]!.top) ∧ w.cell? ⟨b, (o + k * 8) + 4, none⟩ = some (.int .i64 l[k]!.left) ∧ w.cell? ⟨b, (o + k * 8) + 5, none⟩ = some (.int .i64 l[k]!.bot) ∧ w.cell? ⟨b, (o + k * 8) + 6, none⟩ = some (.int .i64 l[k]!.right) ∧ w.cell? ⟨b, (o + k * 8) + 7, none⟩ = some (.string l[k]!.label)) := by
  obtain ⟨b, o, e, hb, hc⟩ := rd.2 (by omega)
  have hl : l.length = n := by
    have := rd.1
    rw [encL_len] at this
    omega
  have hg : l[k]? = some l[k]! := by
    rw [getElem!_pos l k (by omega)]
    exact List.getElem?_eq_getElem (by omega)
  have h : ∀ j u, j < 8 → (encR l[k]!)[j]? = some u → w.cell? ⟨b, o + k * 8 + j, none⟩ = some u := fun j u hj hu => by
    have := hc (k * 8 + j) u (by rw [encL_get _ _ _ hj, hg]; exact hu)
    rwa [← Nat.add_assoc] at this
  exact ⟨b, o, e, hb, h 0 _ (by omega) rfl, h 1 _ (by omega) rfl, h 2 _ (by omega) rfl, h 3 _ (by omega) rfl, h 4 _ (by omega) rfl, h 5 _ (by omega) rfl, h 6 _ (by omega) rfl, h 7 _ (by omega) rfl⟩
theorem c8_below {w w' : World} {B b o : Nat} {r : Reg} (h : (w.cell? ⟨b, o, none⟩ = some (.int .i64 r.kind) ∧ w.cell? ⟨b, o + 1, none⟩ = some (.int .i64 r.id) ∧ w.cell? ⟨b, o + 2, none⟩ = some (.int .i64 r.par) ∧ w.cell? ⟨b, o + 3, none⟩ = some (.int .i64 r.top) ∧ w.cell? ⟨b, o + 4, none⟩ = some (.int .i64 r.left) ∧ w.cell? ⟨b, o + 5, none⟩ = some (.int .i64 r.bot) ∧ w.cell? ⟨b, o + 6, none⟩ = some (.int .i64 r.right) ∧ w.cell? ⟨b, o + 7, none⟩ = some (.string r.label))) (hb : Below B w w') (hB : b < B) : (w'.cell? ⟨b, o, none⟩ = some (.int .i64 r.kind) ∧ w'.cell? ⟨b, o + 1, none⟩ = some (.int .i64 r.id) ∧ w'.cell? ⟨b, o + 2, none⟩ = some (.int .i64 r.par) ∧ w'.cell? ⟨b, o + 3, none⟩ = some (.int .i64 r.top) ∧ w'.cell? ⟨b, o + 4, none⟩ = some (.int .i64 r.left) ∧ w'.cell? ⟨b, o + 5, none⟩ = some (.int .i64 r.bot) ∧ w'.cell? ⟨b, o + 6, none⟩ = some (.int .i64 r.right) ∧ w'.cell? ⟨b, o + 7, none⟩ = some (.string r.label)) := by
  obtain ⟨h0, h1, h2, h3, h4, h5, h6, h7⟩ := h
  exact ⟨(hb.cell hB).trans h0, (hb.cell hB).trans h1, (hb.cell hB).trans h2, (hb.cell hB).trans h3, (hb.cell hB).trans h4, (hb.cell hB).trans h5, (hb.cell hB).trans h6, (hb.cell hB).trans h7⟩
theorem c8z_below {w w' : World} {B b : Nat} {r : Reg} (h : (w.cell? ⟨b, 0, none⟩ = some (.int .i64 r.kind) ∧ w.cell? ⟨b, 1, none⟩ = some (.int .i64 r.id) ∧ w.cell? ⟨b, 2, none⟩ = some (.int .i64 r.par) ∧ w.cell? ⟨b, 3, none⟩ = some (.int .i64 r.top) ∧ w.cell? ⟨b, 4, none⟩ = some (.int .i64 r.left) ∧ w.cell? ⟨b, 5, none⟩ = some (.int .i64 r.bot) ∧ w.cell? ⟨b, 6, none⟩ = some (.int .i64 r.right) ∧ w.cell? ⟨b, 7, none⟩ = some (.string r.label))) (hb : Below B w w') (hB : b < B) : (w'.cell? ⟨b, 0, none⟩ = some (.int .i64 r.kind) ∧ w'.cell? ⟨b, 1, none⟩ = some (.int .i64 r.id) ∧ w'.cell? ⟨b, 2, none⟩ = some (.int .i64 r.par) ∧ w'.cell? ⟨b, 3, none⟩ = some (.int .i64 r.top) ∧ w'.cell? ⟨b, 4, none⟩ = some (.int .i64 r.left) ∧ w'.cell? ⟨b, 5, none⟩ = some (.int .i64 r.bot) ∧ w'.cell? ⟨b, 6, none⟩ = some (.int .i64 r.right) ∧ w'.cell? ⟨b, 7, none⟩ = some (.string r.label)) := by
  obtain ⟨h0, h1, h2, h3, h4, h5, h6, h7⟩ := h
  exact ⟨(hb.cell hB).trans h0, (hb.cell hB).trans h1, (hb.cell hB).trans h2, (hb.cell hB).trans h3, (hb.cell hB).trans h4, (hb.cell hB).trans h5, (hb.cell hB).trans h6, (hb.cell hB).trans h7⟩
theorem c8z_new (w : World) (r : Reg) (ob : Obj) (h : ob = (.cells #[.int .i64 r.kind, .int .i64 r.id, .int .i64 r.par, .int .i64 r.top, .int .i64 r.left, .int .i64 r.bot, .int .i64 r.right, .string r.label] 31)) : ((w.alloc ob).cell? ⟨w.heap.size, 0, none⟩ = some (.int .i64 r.kind) ∧ (w.alloc ob).cell? ⟨w.heap.size, 1, none⟩ = some (.int .i64 r.id) ∧ (w.alloc ob).cell? ⟨w.heap.size, 2, none⟩ = some (.int .i64 r.par) ∧ (w.alloc ob).cell? ⟨w.heap.size, 3, none⟩ = some (.int .i64 r.top) ∧ (w.alloc ob).cell? ⟨w.heap.size, 4, none⟩ = some (.int .i64 r.left) ∧ (w.alloc ob).cell? ⟨w.heap.size, 5, none⟩ = some (.int .i64 r.bot) ∧ (w.alloc ob).cell? ⟨w.heap.size, 6, none⟩ = some (.int .i64 r.right) ∧ (w.alloc ob).cell? ⟨w.heap.size, 7, none⟩ = some (.string r.label)) := by
  subst h
  simp
theorem c8_near {wb : World} {B b o : Nat} {r : Reg} (h : (wb.cell? ⟨b, o, none⟩ = some (.int .i64 r.kind) ∧ wb.cell? ⟨b, o + 1, none⟩ = some (.int .i64 r.id) ∧ wb.cell? ⟨b, o + 2, none⟩ = some (.int .i64 r.par) ∧ wb.cell? ⟨b, o + 3, none⟩ = some (.int .i64 r.top) ∧ wb.cell? ⟨b, o + 4, none⟩ = some (.int .i64 r.left) ∧ wb.cell? ⟨b, o + 5, none⟩ = some (.int .i64 r.bot) ∧ wb.cell? ⟨b, o + 6, none⟩ = some (.int .i64 r.right) ∧ wb.cell? ⟨b, o + 7, none⟩ = some (.string r.label))) (hB : b < B) : ∀ x : Near B wb, (x.w.cell? ⟨b, o, none⟩ = some (.int .i64 r.kind) ∧ x.w.cell? ⟨b, o + 1, none⟩ = some (.int .i64 r.id) ∧ x.w.cell? ⟨b, o + 2, none⟩ = some (.int .i64 r.par) ∧ x.w.cell? ⟨b, o + 3, none⟩ = some (.int .i64 r.top) ∧ x.w.cell? ⟨b, o + 4, none⟩ = some (.int .i64 r.left) ∧ x.w.cell? ⟨b, o + 5, none⟩ = some (.int .i64 r.bot) ∧ x.w.cell? ⟨b, o + 6, none⟩ = some (.int .i64 r.right) ∧ x.w.cell? ⟨b, o + 7, none⟩ = some (.string r.label)) := fun x => c8_below h x.h hB
theorem c8z_near {wb : World} {B b : Nat} {r : Reg} (h : (wb.cell? ⟨b, 0, none⟩ = some (.int .i64 r.kind) ∧ wb.cell? ⟨b, 1, none⟩ = some (.int .i64 r.id) ∧ wb.cell? ⟨b, 2, none⟩ = some (.int .i64 r.par) ∧ wb.cell? ⟨b, 3, none⟩ = some (.int .i64 r.top) ∧ wb.cell? ⟨b, 4, none⟩ = some (.int .i64 r.left) ∧ wb.cell? ⟨b, 5, none⟩ = some (.int .i64 r.bot) ∧ wb.cell? ⟨b, 6, none⟩ = some (.int .i64 r.right) ∧ wb.cell? ⟨b, 7, none⟩ = some (.string r.label))) (hB : b < B) : ∀ x : Near B wb, (x.w.cell? ⟨b, 0, none⟩ = some (.int .i64 r.kind) ∧ x.w.cell? ⟨b, 1, none⟩ = some (.int .i64 r.id) ∧ x.w.cell? ⟨b, 2, none⟩ = some (.int .i64 r.par) ∧ x.w.cell? ⟨b, 3, none⟩ = some (.int .i64 r.top) ∧ x.w.cell? ⟨b, 4, none⟩ = some (.int .i64 r.left) ∧ x.w.cell? ⟨b, 5, none⟩ = some (.int .i64 r.bot) ∧ x.w.cell? ⟨b, 6, none⟩ = some (.int .i64 r.right) ∧ x.w.cell? ⟨b, 7, none⟩ = some (.string r.label)) := fun x => c8z_below h x.h hB
theorem below_und {w w' : World} (h : Below w.drew.heap.size w.drew w') : Below w.heap.size w w' := ⟨h.os, h.tape, h.output, h.size, h.block⟩
set_option maxHeartbeats 800000 in
theorem parent_ (l : List Reg) (A : Option Addr) (n c : Nat) (w : World) (hn : l.length = n) (hp : ∀ i, i < n → Proper l[i]!) (i : Nat) (hi : i < n) (hc : n ≤ c) (hm : c ≤ maxLen) (rd : Rd w w.heap.size 8 A n (encL l)) :
    Calls Try.prog 26 #[.slice A n c, .int .i64 i] w (Gives (.int .i64 (parentL l i)) w) := by
  have hcm : c ≤ 9223372036854775807 := by unfold maxLen at hm; omega
  have hic : (i : Int) ≤ (c : Int) := by omega
  have hin : (i : Int) < (n : Int) := by omega
  have HB : Hid (∀ k, best l (fun r => inB r l[i]!) (k + 1) = if inB l[k]! l[i]! = true ∧ (best l (fun r => inB r l[i]!) k < 0 ∨ area l[k]! ≤ area l[(best l (fun r => inB r l[i]!) k).toNat]!) then (k : Int) else best l (fun r => inB r l[i]!) k) := Lib.hid fun k => rfl
  have HR : Hid (∀ k, -1 ≤ best l (fun r => inB r l[i]!) k ∧ best l (fun r => inB r l[i]!) k < k) := Lib.hid fun k => best_rng l _ k
  have H0 : Hid (best l (fun r => inB r l[i]!) 0 = -1) := Lib.hid rfl
  have HP := Lib.hid hp
  unfold parentL
  generalize best l (fun r => inB r l[i]!) = f at *
  clear hp hm
  go_enter Try.func26, Try.ntmps26
  go_wp2
  go_loopw [5, 12] (fun x y wr => ∃ k : Nat, k ≤ i ∧ x = .int .i64 (f k) ∧ y = .int .i64 k ∧ Below w.heap.size w wr) (fun _ y _ => i - (intOf y).toNat)
  case atStart => exact ⟨0, Nat.zero_le _, by rw [H0.out], rfl, Below.refl _ _⟩
  case round =>
    obtain ⟨k, hk, rfl, rfl, hbel⟩ := hrel
    obtain ⟨wo, rfl⟩ : ∃ x : World, x = wr := ⟨_, rfl⟩
    have hz := hbel.size
    by_cases hlt : k < i
    · obtain ⟨b, o, rfl, hb, hck⟩ := rd_reg rd (show k < n by omega)
      have hck' := c8_below hck hbel hb
      obtain ⟨b2, o2, e2, _, hci⟩ := rd_reg rd hi
      cases e2
      have hci' := c8_below hci hbel hb
      have HBk := Lib.hid (HB.out k)
      have HRk := HR.out k
      have HPk := Lib.hid (HP.out k (by omega))
      have hcb : 0 ≤ f k → (wo.cell? ⟨b, (o + (f k).toNat * 8), none⟩ = some (.int .i64 l[(f k).toNat]!.kind) ∧ wo.cell? ⟨b, (o + (f k).toNat * 8) + 1, none⟩ = some (.int .i64 l[(f k).toNat]!.id) ∧ wo.cell? ⟨b, (o + (f k).toNat * 8) + 2, none⟩ = some (.int .i64 l[(f k).toNat]!.par) ∧ wo.cell? ⟨b, (o + (f k).toNat * 8) + 3, none⟩ = some (.int .i64 l[(f k).toNat]!.top) ∧ wo.cell? ⟨b, (o + (f k).toNat * 8) + 4, none⟩ = some (.int .i64 l[(f k).toNat]!.left) ∧ wo.cell? ⟨b, (o + (f k).toNat * 8) + 5, none⟩ = some (.int .i64 l[(f k).toNat]!.bot) ∧ wo.cell? ⟨b, (o + (f k).toNat * 8) + 6, none⟩ = some (.int .i64 l[(f k).toNat]!.right) ∧ wo.cell? ⟨b, (o + (f k).toNat * 8) + 7, none⟩ = some (.string l[(f k).toNat]!.label)) := fun h0 => by
        obtain ⟨b2, o2, e2, _, hcc⟩ := rd_reg rd (show (f k).toNat < n by omega)
        cases e2
        exact c8_below hcc hbel hb
      have HPb : Hid (0 ≤ f k → Proper l[(f k).toNat]!) := Lib.hid fun h0 => HP.out _ (by omega)
      generalize hr : l[k]! = r at *
      generalize hx : l[i]! = x at *
      generalize hy : l[(f k).toNat]! = y at *
      clear hr hx hy hck hci
      obtain ⟨g0, g1, g2, g3, g4, g5, g6, g7⟩ := hck'
      go_upto_region 5 with fail
      clear g0 g1 g2 g3 g4 g5 g6 g7
      have hwb : Below wo.heap.size wo (wo.alloc (.cells #[.int .i64 r.kind, .int .i64 r.id, .int .i64 r.par, .int .i64 r.top, .int .i64 r.left, .int .i64 r.bot, .int .i64 r.right, .string r.label] 31)) := below_box _ _
      have hbx := c8z_new wo r _ rfl
      have hzb : wo.heap.size < (wo.alloc (.cells #[.int .i64 r.kind, .int .i64 r.id, .int .i64 r.par, .int .i64 r.top, .int .i64 r.left, .int .i64 r.bot, .int .i64 r.right, .string r.label] 31)).heap.size := by simp
      have s1 := c8_below hci' hwb (by omega)
      have s2 := fun h => c8_below (hcb h) hwb (by omega)
      clear hci' hcb
      generalize wo.alloc (.cells #[.int .i64 r.kind, .int .i64 r.id, .int .i64 r.par, .int .i64 r.top, .int .i64 r.left, .int .i64 r.bot, .int .i64 r.right, .string r.label] 31) = wb at *
      generalize wo.heap.size = B0 at *
      have N0 := c8z_near hbx hzb
      have N1 := c8_near (B := wb.heap.size) s1 (by omega)
      have HPr := HPk.out
      go_cut [36] (fun v wx => v = .bool (decide (inB r x = true ∧ (f k < 0 ∨ area r ≤ area y))) ∧ Below B0 wo wx)
      case first =>
        have hzz := Nat.le_refl wb.heap.size
        have HC : Hid (∀ w, Calls Try.prog 16 #[regV r, regV x] w (Gives (.bool (inB r x)) w)) := Lib.hid fun w => contains r x w
        have HA : Hid (∀ z w, Proper z → Calls Try.prog 30 #[regV z] w (Gives (.int .i64 (area z)) w)) := Lib.hid fun z w h => area_ z h w
        cases hin' : inB r x with
        | false =>
          rw [hin'] at HC
          clear s2 hbx s1
          refine wp_region_near wb.heap.size (by kernel_rfl) (by kernel_rfl) ?_; (repeat (go_big_quiet_step ((go_at_call 16; exact Calls.near _ hzz (HC.out _))))); refine wpQuiet_nil ?_; intro _ hw'; obtain ⟨x1, hw''⟩ := hw'; subst hw''
          go_wp2
          go_meet
          exact ⟨by simp [hin'], hwb.trans (x1.h.mono (by omega))⟩
        | true =>
          rw [hin'] at HC
          by_cases h0 : f k < 0
          · clear s2 hbx s1
            refine wp_region_near wb.heap.size (by kernel_rfl) (by kernel_rfl) ?_; (repeat (go_big_quiet_step ((go_at_call 16; exact Calls.near _ hzz (HC.out _))))); refine wpQuiet_nil ?_; intro _ hw'; obtain ⟨x1, hw''⟩ := hw'; subst hw''
            go_wp2
            go_meet
            exact ⟨by simp [hin', h0], hwb.trans (x1.h.mono (by omega))⟩
          · have h0' : 0 ≤ f k := by omega
            have h0n : f k < (n : Int) := by omega
            have N2 := c8_near (B := wb.heap.size) (s2 h0') (by omega)
            have HPy := HPb.out h0'
            clear s2 hbx s1
            refine wp_region_near wb.heap.size (by kernel_rfl) (by kernel_rfl) ?_; (repeat (go_big_quiet_step ((first | (go_at_call 16; exact Calls.near _ hzz (HC.out _)) | (go_at_call 30; exact Calls.near _ hzz (HA.out _ _ (by first | exact HPr | exact HPy))))))); refine wpQuiet_nil ?_; intro _ hw'; obtain ⟨x1, hw''⟩ := hw'; subst hw''
            go_wp2
            go_meet
            exact ⟨by simp [hin']; omega, hwb.trans (x1.h.mono (by omega))⟩
      case rest =>
        obtain ⟨rfl, hw2⟩ := hcut
        have t2 := hbel.trans (hw2.mono hz)
        by_cases hD : inB r x = true ∧ (f k < 0 ∨ area r ≤ area y)
        · have HF2 : Hid (f (k + 1) = k) := Lib.hid (by rw [HBk.out, if_pos hD])
          rw [decide_eq_true hD]
          clear hD s1 s2 hbx N0 N1
          go_wp2
          exact ⟨⟨k + 1, by omega, by rw [HF2.out], by go_num, t2⟩, by simp [intOf]; omega⟩
        · have HF2 : Hid (f (k + 1) = f k) := Lib.hid (by rw [HBk.out, if_neg hD])
          rw [decide_eq_false hD]
          clear hD s1 s2 hbx N0 N1
          go_wp2
          exact ⟨⟨k + 1, by omega, by rw [HF2.out], by go_num, t2⟩, by simp [intOf]; omega⟩
    · obtain rfl : k = i := by omega
      go_wp2
      go_ret
      exact ⟨rfl, hbel⟩
end Go.Proofs.Ytgmodadgmnfhgaa
