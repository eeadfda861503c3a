/- narratorref28.parent, At of both. -/
import Derived.Test.YtgmodadgmnfhgaaRg3
namespace Go.Proofs.Ytgmodadgmnfhgaa
open Go.RowKit
set_option maxHeartbeats 800000 in
theorem rparent (l : List Reg) (A : Option Addr) (n c : Nat) (w : World) (hn : l.length = n) (hp : ∀ i, i < n → Proper l[i]!) (i : Nat) (hi : i < n) (hc : n ≤ c) (hm : c ≤ maxLen) (rd : Rd w w.heap.size 8 A n (encL l)) :
    Calls Try.prog 29 #[.slice A n c, .int .i64 i] w (Gives (.int .i64 (parentL l i)) w) := by
  have hcm : c ≤ 9223372036854775807 := by unfold maxLen at hm; omega
  have hic : (i : Int) ≤ (c : Int) := by omega
  have hin : (i : Int) < (n : Int) := by omega
  have HB : Hid (∀ k, best l (fun r => inB r l[i]!) (k + 1) = if inB l[k]! l[i]! = true ∧ (best l (fun r => inB r l[i]!) k < 0 ∨ area l[k]! ≤ area l[(best l (fun r => inB r l[i]!) k).toNat]!) then (k : Int) else best l (fun r => inB r l[i]!) k) := Lib.hid fun k => rfl
  have HR : Hid (∀ k, -1 ≤ best l (fun r => inB r l[i]!) k ∧ best l (fun r => inB r l[i]!) k < k) := Lib.hid fun k => best_rng l _ k
  have H0 : Hid (best l (fun r => inB r l[i]!) 0 = -1) := Lib.hid rfl
  have HP := Lib.hid hp
  unfold parentL
  generalize best l (fun r => inB r l[i]!) = f at *
  clear hp hm
  go_enter Try.func29, Try.ntmps29
  go_wp2
  go_loopw [5, 6] (fun x y wr => ∃ k : Nat, k ≤ i ∧ x = .int .i64 (f k) ∧ y = .int .i64 k ∧ Below w.heap.size w wr) (fun _ y _ => i - (intOf y).toNat)
  case atStart => exact ⟨0, Nat.zero_le _, by rw [H0.out], rfl, Below.refl _ _⟩
  case round =>
    obtain ⟨k, hk, rfl, rfl, hbel⟩ := hrel
    obtain ⟨wo, rfl⟩ : ∃ x : World, x = wr := ⟨_, rfl⟩
    have hz := hbel.size
    by_cases hlt : k < i
    · obtain ⟨b, o, rfl, hb, hck⟩ := rd_reg rd (show k < n by omega)
      have hck' := c8_below hck hbel hb
      obtain ⟨b2, o2, e2, _, hci⟩ := rd_reg rd hi
      cases e2
      have hci' := c8_below hci hbel hb
      have HBk := Lib.hid (HB.out k)
      have HRk := HR.out k
      have HPk := Lib.hid (HP.out k (by omega))
      have hcb : 0 ≤ f k → (wo.cell? ⟨b, (o + (f k).toNat * 8), none⟩ = some (.int .i64 l[(f k).toNat]!.kind) ∧ wo.cell? ⟨b, (o + (f k).toNat * 8) + 1, none⟩ = some (.int .i64 l[(f k).toNat]!.id) ∧ wo.cell? ⟨b, (o + (f k).toNat * 8) + 2, none⟩ = some (.int .i64 l[(f k).toNat]!.par) ∧ wo.cell? ⟨b, (o + (f k).toNat * 8) + 3, none⟩ = some (.int .i64 l[(f k).toNat]!.top) ∧ wo.cell? ⟨b, (o + (f k).toNat * 8) + 4, none⟩ = some (.int .i64 l[(f k).toNat]!.left) ∧ wo.cell? ⟨b, (o + (f k).toNat * 8) + 5, none⟩ = some (.int .i64 l[(f k).toNat]!.bot) ∧ wo.cell? ⟨b, (o + (f k).toNat * 8) + 6, none⟩ = some (.int .i64 l[(f k).toNat]!.right) ∧ wo.cell? ⟨b, (o + (f k).toNat * 8) + 7, none⟩ = some (.string l[(f k).toNat]!.label)) := fun h0 => by
        obtain ⟨b2, o2, e2, _, hcc⟩ := rd_reg rd (show (f k).toNat < n by omega)
        cases e2
        exact c8_below hcc hbel hb
      have HPb : Hid (0 ≤ f k → Proper l[(f k).toNat]!) := Lib.hid fun h0 => HP.out _ (by omega)
      generalize hr : l[k]! = r at *
      generalize hx : l[i]! = x at *
      generalize hy : l[(f k).toNat]! = y at *
      clear hr hx hy hck hci
      go_upto_region 5 with fail
      have N0 := c8_near (B := wo.heap.size) hck' (by omega)
      have N1 := c8_near (B := wo.heap.size) hci' (by omega)
      have s2 := hcb
      clear hcb
      have HPr := HPk.out
      go_cut [37] (fun v wx => v = .bool (decide (inB r x = true ∧ (f k < 0 ∨ area r ≤ area y))) ∧ Below wo.heap.size wo wx)
      case first =>
        have hzz := Nat.le_refl wo.heap.size
        have HA : Hid (∀ z w, Proper z → Calls Try.prog 32 #[regV z] w (Gives (.int .i64 (area z)) w)) := Lib.hid fun z w h => rarea z h w
        have HC : Hid (∀ w, Calls Try.prog 17 #[regV r, regV x] w (Gives (.bool (inB r x)) w)) := Lib.hid fun w => rcontains r x w
        cases hin' : inB r x with
        | false =>
          rw [hin'] at HC
          clear s2 hck' hci'
          refine wp_region_near wo.heap.size (by kernel_rfl) (by kernel_rfl) ?_; (repeat (go_big_quiet_step ((go_at_call 17; exact Calls.near _ hzz (HC.out _))))); refine wpQuiet_nil ?_; intro _ hw'; obtain ⟨x1, hw''⟩ := hw'; subst hw''
          go_wp2
          go_meet
          exact ⟨by simp [hin'], x1.h⟩
        | true =>
          rw [hin'] at HC
          by_cases h0 : f k < 0
          · clear s2 hck' hci'
            refine wp_region_near wo.heap.size (by kernel_rfl) (by kernel_rfl) ?_; (repeat (go_big_quiet_step ((go_at_call 17; exact Calls.near _ hzz (HC.out _))))); refine wpQuiet_nil ?_; intro _ hw'; obtain ⟨x1, hw''⟩ := hw'; subst hw''
            go_wp2
            go_meet
            exact ⟨by simp [hin', h0], x1.h⟩
          · have h0' : 0 ≤ f k := by omega
            have h0n : f k < (n : Int) := by omega
            have N2 := c8_near (B := wo.heap.size) (s2 h0') (by omega)
            have HPy := HPb.out h0'
            clear s2 hck' hci'
            refine wp_region_near wo.heap.size (by kernel_rfl) (by kernel_rfl) ?_; (repeat (go_big_quiet_step ((first | (go_at_call 17; exact Calls.near _ hzz (HC.out _)) | (go_at_call 32; exact Calls.near _ hzz (HA.out _ _ (by first | exact HPr | exact HPy))))))); refine wpQuiet_nil ?_; intro _ hw'; obtain ⟨x1, hw''⟩ := hw'; subst hw''
            go_wp2
            go_meet
            exact ⟨by simp [hin']; omega, x1.h⟩
      case rest =>
        obtain ⟨rfl, hw2⟩ := hcut
        have t2 := hbel.trans (hw2.mono hz)
        by_cases hD : inB r x = true ∧ (f k < 0 ∨ area r ≤ area y)
        · have HF2 : Hid (f (k + 1) = k) := Lib.hid (by rw [HBk.out, if_pos hD])
          rw [decide_eq_true hD]
          clear hD s2 hck' hci' N0 N1
          go_wp2
          exact ⟨⟨k + 1, by omega, by rw [HF2.out], by go_num, t2⟩, by simp [intOf]; omega⟩
        · have HF2 : Hid (f (k + 1) = f k) := Lib.hid (by rw [HBk.out, if_neg hD])
          rw [decide_eq_false hD]
          clear hD s2 hck' hci' N0 N1
          go_wp2
          exact ⟨⟨k + 1, by omega, by rw [HF2.out], by go_num, t2⟩, by simp [intOf]; omega⟩
    · obtain rfl : k = i := by omega
      go_wp2
      go_ret
      exact ⟨rfl, hbel⟩
set_option maxHeartbeats 800000 in
theorem at_ (l : List Reg) (A : Option Addr) (n c : Nat) (w : World) (hn : l.length = n) (hp : ∀ i, i < n → Proper l[i]!) (row col : Int) (hc : n ≤ c) (hm : c ≤ maxLen) (rd : Rd w w.heap.size 8 A n (encL l)) :
    Calls Try.prog 15 #[.slice A n c, .int .i64 row, .int .i64 col] w (Gives (.int .i64 (atL l row col)) w) := by
  have hcm : c ≤ 9223372036854775807 := by unfold maxLen at hm; omega
  have HB : Hid (∀ k, best l (posIn row col) (k + 1) = if posIn row col l[k]! = true ∧ (best l (posIn row col) k < 0 ∨ area l[k]! ≤ area l[(best l (posIn row col) k).toNat]!) then (k : Int) else best l (posIn row col) k) := Lib.hid fun k => rfl
  have HR : Hid (∀ k, -1 ≤ best l (posIn row col) k ∧ best l (posIn row col) k < k) := Lib.hid fun k => best_rng l _ k
  have H0 : Hid (best l (posIn row col) 0 = -1) := Lib.hid rfl
  have HP := Lib.hid hp
  unfold atL
  rw [hn]
  generalize best l (posIn row col) = f at *
  clear hp hm
  go_enter Try.func15, Try.ntmps15
  go_wp2
  go_loopw [7, 12] (fun x y wr => ∃ k : Nat, k ≤ n ∧ x = .int .i64 (f k) ∧ y = .int .i64 k ∧ Below w.heap.size w wr) (fun _ y _ => n - (intOf y).toNat)
  case atStart => exact ⟨0, Nat.zero_le _, by rw [H0.out], rfl, Below.refl _ _⟩
  case round =>
    obtain ⟨k, hk, rfl, rfl, hbel⟩ := hrel
    obtain ⟨wo, rfl⟩ : ∃ x : World, x = wr := ⟨_, rfl⟩
    have hz := hbel.size
    by_cases hlt : k < n
    · obtain ⟨b, o, rfl, hb, hck⟩ := rd_reg rd (show k < n by omega)
      have hck' := c8_below hck hbel hb
      have HBk := Lib.hid (HB.out k)
      have HRk := HR.out k
      have HPk := Lib.hid (HP.out k (by omega))
      have hcb : 0 ≤ f k → (wo.cell? ⟨b, (o + (f k).toNat * 8), none⟩ = some (.int .i64 l[(f k).toNat]!.kind) ∧ wo.cell? ⟨b, (o + (f k).toNat * 8) + 1, none⟩ = some (.int .i64 l[(f k).toNat]!.id) ∧ wo.cell? ⟨b, (o + (f k).toNat * 8) + 2, none⟩ = some (.int .i64 l[(f k).toNat]!.par) ∧ wo.cell? ⟨b, (o + (f k).toNat * 8) + 3, none⟩ = some (.int .i64 l[(f k).toNat]!.top) ∧ wo.cell? ⟨b, (o + (f k).toNat * 8) + 4, none⟩ = some (.int .i64 l[(f k).toNat]!.left) ∧ wo.cell? ⟨b, (o + (f k).toNat * 8) + 5, none⟩ = some (.int .i64 l[(f k).toNat]!.bot) ∧ wo.cell? ⟨b, (o + (f k).toNat * 8) + 6, none⟩ = some (.int .i64 l[(f k).toNat]!.right) ∧ wo.cell? ⟨b, (o + (f k).toNat * 8) + 7, none⟩ = some (.string l[(f k).toNat]!.label)) := fun h0 => by
        obtain ⟨b2, o2, e2, _, hcc⟩ := rd_reg rd (show (f k).toNat < n by omega)
        cases e2
        exact c8_below hcc hbel hb
      have HPb : Hid (0 ≤ f k → Proper l[(f k).toNat]!) := Lib.hid fun h0 => HP.out _ (by omega)
      generalize hr : l[k]! = r at *
      generalize hy : l[(f k).toNat]! = y at *
      clear hr hy hck
      obtain ⟨g0, g1, g2, g3, g4, g5, g6, g7⟩ := hck'
      go_upto_region 5 with fail
      clear g0 g1 g2 g3 g4 g5 g6 g7
      have hwb : Below wo.heap.size wo (wo.alloc (.cells #[.int .i64 r.kind, .int .i64 r.id, .int .i64 r.par, .int .i64 r.top, .int .i64 r.left, .int .i64 r.bot, .int .i64 r.right, .string r.label] 31)) := below_box _ _
      have hbx := c8z_new wo r _ rfl
      have hzb : wo.heap.size < (wo.alloc (.cells #[.int .i64 r.kind, .int .i64 r.id, .int .i64 r.par, .int .i64 r.top, .int .i64 r.left, .int .i64 r.bot, .int .i64 r.right, .string r.label] 31)).heap.size := by simp
      have s2 := fun h => c8_below (hcb h) hwb (by omega)
      clear hcb
      generalize wo.alloc (.cells #[.int .i64 r.kind, .int .i64 r.id, .int .i64 r.par, .int .i64 r.top, .int .i64 r.left, .int .i64 r.bot, .int .i64 r.right, .string r.label] 31) = wb at *
      generalize wo.heap.size = B0 at *
      have N0 := c8z_near hbx hzb
      have HPr := HPk.out
      go_cut [52] (fun v wx => v = .bool (decide (posIn row col r = true ∧ (f k < 0 ∨ area r ≤ area y))) ∧ Below B0 wo wx)
      case first =>
        have hzz := Nat.le_refl wb.heap.size
        have HA : Hid (∀ z w, Proper z → Calls Try.prog 30 #[regV z] w (Gives (.int .i64 (area z)) w)) := Lib.hid fun z w h => area_ z h w
        by_cases q1 : row < r.top
        · have hin' : posIn row col r = false := by rw [Bool.eq_false_iff]; simp [posIn]; omega
          have hneg : ¬ r.top ≤ row := by omega
          clear s2 hbx
          refine wp_region_near wb.heap.size (by kernel_rfl) (by kernel_rfl) ?_; (repeat (go_big_quiet_step (fail))); refine wpQuiet_nil ?_; intro _ hw'; obtain ⟨x1, hw''⟩ := hw'; subst hw''
          go_wp2
          go_meet
          exact ⟨by simp [hin'], hwb.trans (x1.h.mono (by omega))⟩
        have q1' : r.top ≤ row := by omega
        clear q1
        by_cases q2 : r.bot ≤ row
        · have hin' : posIn row col r = false := by rw [Bool.eq_false_iff]; simp [posIn]; omega
          have hneg : ¬ row < r.bot := by omega
          clear s2 hbx
          refine wp_region_near wb.heap.size (by kernel_rfl) (by kernel_rfl) ?_; (repeat (go_big_quiet_step (fail))); refine wpQuiet_nil ?_; intro _ hw'; obtain ⟨x1, hw''⟩ := hw'; subst hw''
          go_wp2
          go_meet
          exact ⟨by simp [hin'], hwb.trans (x1.h.mono (by omega))⟩
        have q2' : row < r.bot := by omega
        clear q2
        by_cases q3 : col < r.left
        · have hin' : posIn row col r = false := by rw [Bool.eq_false_iff]; simp [posIn]; omega
          have hneg : ¬ r.left ≤ col := by omega
          clear s2 hbx
          refine wp_region_near wb.heap.size (by kernel_rfl) (by kernel_rfl) ?_; (repeat (go_big_quiet_step (fail))); refine wpQuiet_nil ?_; intro _ hw'; obtain ⟨x1, hw''⟩ := hw'; subst hw''
          go_wp2
          go_meet
          exact ⟨by simp [hin'], hwb.trans (x1.h.mono (by omega))⟩
        have q3' : r.left ≤ col := by omega
        clear q3
        by_cases q4 : r.right ≤ col
        · have hin' : posIn row col r = false := by rw [Bool.eq_false_iff]; simp [posIn]; omega
          have hneg : ¬ col < r.right := by omega
          clear s2 hbx
          refine wp_region_near wb.heap.size (by kernel_rfl) (by kernel_rfl) ?_; (repeat (go_big_quiet_step (fail))); refine wpQuiet_nil ?_; intro _ hw'; obtain ⟨x1, hw''⟩ := hw'; subst hw''
          go_wp2
          go_meet
          exact ⟨by simp [hin'], hwb.trans (x1.h.mono (by omega))⟩
        have q4' : col < r.right := by omega
        clear q4
        have hin' : posIn row col r = true := by simp [posIn]; omega
        by_cases h0 : f k < 0
        · clear s2 hbx
          refine wp_region_near wb.heap.size (by kernel_rfl) (by kernel_rfl) ?_; (repeat (go_big_quiet_step (fail))); refine wpQuiet_nil ?_; intro _ hw'; obtain ⟨x1, hw''⟩ := hw'; subst hw''
          go_wp2
          go_meet
          exact ⟨by simp [hin', h0], hwb.trans (x1.h.mono (by omega))⟩
        · have h0' : 0 ≤ f k := by omega
          have h0n : f k < (n : Int) := by omega
          have N2 := c8_near (B := wb.heap.size) (s2 h0') (by omega)
          have HPy := HPb.out h0'
          clear s2 hbx
          refine wp_region_near wb.heap.size (by kernel_rfl) (by kernel_rfl) ?_; (repeat (go_big_quiet_step ((first | (go_at_call 30; exact Calls.near _ hzz (HA.out _ _ (by first | exact HPr | exact HPy))))))); refine wpQuiet_nil ?_; intro _ hw'; obtain ⟨x1, hw''⟩ := hw'; subst hw''
          go_wp2
          go_meet
          exact ⟨by simp [hin']; omega, hwb.trans (x1.h.mono (by omega))⟩
      case rest =>
        obtain ⟨rfl, hw2⟩ := hcut
        have t2 := hbel.trans (hw2.mono hz)
        by_cases hD : posIn row col r = true ∧ (f k < 0 ∨ area r ≤ area y)
        · have HF2 : Hid (f (k + 1) = k) := Lib.hid (by rw [HBk.out, if_pos hD])
          rw [decide_eq_true hD]
          clear hD s2 hbx N0
          go_wp2
          exact ⟨⟨k + 1, by omega, by rw [HF2.out], by go_num, t2⟩, by simp [intOf]; omega⟩
        · have HF2 : Hid (f (k + 1) = f k) := Lib.hid (by rw [HBk.out, if_neg hD])
          rw [decide_eq_false hD]
          clear hD s2 hbx N0
          go_wp2
          exact ⟨⟨k + 1, by omega, by rw [HF2.out], by go_num, t2⟩, by simp [intOf]; omega⟩
    · obtain rfl : k = n := by omega
      go_wp2
      go_ret
      exact ⟨rfl, hbel⟩
set_option maxHeartbeats 800000 in
theorem rat (l : List Reg) (A : Option Addr) (n c : Nat) (w : World) (hn : l.length = n) (hp : ∀ i, i < n → Proper l[i]!) (row col : Int) (hc : n ≤ c) (hm : c ≤ maxLen) (rd : Rd w w.heap.size 8 A n (encL l)) :
    Calls Try.prog 21 #[.slice A n c, .int .i64 row, .int .i64 col] w (Gives (.int .i64 (atL l row col)) w) := by
  have hcm : c ≤ 9223372036854775807 := by unfold maxLen at hm; omega
  have HB : Hid (∀ k, best l (posIn row col) (k + 1) = if posIn row col l[k]! = true ∧ (best l (posIn row col) k < 0 ∨ area l[k]! ≤ area l[(best l (posIn row col) k).toNat]!) then (k : Int) else best l (posIn row col) k) := Lib.hid fun k => rfl
  have HR : Hid (∀ k, -1 ≤ best l (posIn row col) k ∧ best l (posIn row col) k < k) := Lib.hid fun k => best_rng l _ k
  have H0 : Hid (best l (posIn row col) 0 = -1) := Lib.hid rfl
  have HP := Lib.hid hp
  unfold atL
  rw [hn]
  generalize best l (posIn row col) = f at *
  clear hp hm
  go_enter Try.func21, Try.ntmps21
  go_wp2
  go_loopw [7, 8] (fun x y wr => ∃ k : Nat, k ≤ n ∧ x = .int .i64 (f k) ∧ y = .int .i64 k ∧ Below w.heap.size w wr) (fun _ y _ => n - (intOf y).toNat)
  case atStart => exact ⟨0, Nat.zero_le _, by rw [H0.out], rfl, Below.refl _ _⟩
  case round =>
    obtain ⟨k, hk, rfl, rfl, hbel⟩ := hrel
    obtain ⟨wo, rfl⟩ : ∃ x : World, x = wr := ⟨_, rfl⟩
    have hz := hbel.size
    by_cases hlt : k < n
    · obtain ⟨b, o, rfl, hb, hck⟩ := rd_reg rd (show k < n by omega)
      have hck' := c8_below hck hbel hb
      have HBk := Lib.hid (HB.out k)
      have HRk := HR.out k
      have HPk := Lib.hid (HP.out k (by omega))
      have hcb : 0 ≤ f k → (wo.cell? ⟨b, (o + (f k).toNat * 8), none⟩ = some (.int .i64 l[(f k).toNat]!.kind) ∧ wo.cell? ⟨b, (o + (f k).toNat * 8) + 1, none⟩ = some (.int .i64 l[(f k).toNat]!.id) ∧ wo.cell? ⟨b, (o + (f k).toNat * 8) + 2, none⟩ = some (.int .i64 l[(f k).toNat]!.par) ∧ wo.cell? ⟨b, (o + (f k).toNat * 8) + 3, none⟩ = some (.int .i64 l[(f k).toNat]!.top) ∧ wo.cell? ⟨b, (o + (f k).toNat * 8) + 4, none⟩ = some (.int .i64 l[(f k).toNat]!.left) ∧ wo.cell? ⟨b, (o + (f k).toNat * 8) + 5, none⟩ = some (.int .i64 l[(f k).toNat]!.bot) ∧ wo.cell? ⟨b, (o + (f k).toNat * 8) + 6, none⟩ = some (.int .i64 l[(f k).toNat]!.right) ∧ wo.cell? ⟨b, (o + (f k).toNat * 8) + 7, none⟩ = some (.string l[(f k).toNat]!.label)) := fun h0 => by
        obtain ⟨b2, o2, e2, _, hcc⟩ := rd_reg rd (show (f k).toNat < n by omega)
        cases e2
        exact c8_below hcc hbel hb
      have HPb : Hid (0 ≤ f k → Proper l[(f k).toNat]!) := Lib.hid fun h0 => HP.out _ (by omega)
      generalize hr : l[k]! = r at *
      generalize hy : l[(f k).toNat]! = y at *
      clear hr hy hck
      go_upto_region 5 with fail
      have N0 := c8_near (B := wo.heap.size) hck' (by omega)
      have s2 := hcb
      clear hcb
      have HPr := HPk.out
      go_cut [38] (fun v wx => v = .bool (decide (posIn row col r = true ∧ (f k < 0 ∨ area r ≤ area y))) ∧ Below wo.heap.size wo wx)
      case first =>
        have hzz := Nat.le_refl wo.heap.size
        have HA : Hid (∀ z w, Proper z → Calls Try.prog 32 #[regV z] w (Gives (.int .i64 (area z)) w)) := Lib.hid fun z w h => rarea z h w
        have HC : Hid (∀ w, Calls Try.prog 31 #[regV r, .int .i64 row, .int .i64 col] w (Gives (.bool (posIn row col r)) w)) := Lib.hid fun w => rin r row col w
        cases hin' : posIn row col r with
        | false =>
          rw [hin'] at HC
          clear s2 hck'
          refine wp_region_near wo.heap.size (by kernel_rfl) (by kernel_rfl) ?_; (repeat (go_big_quiet_step ((go_at_call 31; exact Calls.near _ hzz (HC.out _))))); refine wpQuiet_nil ?_; intro _ hw'; obtain ⟨x1, hw''⟩ := hw'; subst hw''
          go_wp2
          go_meet
          exact ⟨by simp [hin'], x1.h⟩
        | true =>
          rw [hin'] at HC
          by_cases h0 : f k < 0
          · clear s2 hck'
            refine wp_region_near wo.heap.size (by kernel_rfl) (by kernel_rfl) ?_; (repeat (go_big_quiet_step ((go_at_call 31; exact Calls.near _ hzz (HC.out _))))); refine wpQuiet_nil ?_; intro _ hw'; obtain ⟨x1, hw''⟩ := hw'; subst hw''
            go_wp2
            go_meet
            exact ⟨by simp [hin', h0], x1.h⟩
          · have h0' : 0 ≤ f k := by omega
            have h0n : f k < (n : Int) := by omega
            have N2 := c8_near (B := wo.heap.size) (s2 h0') (by omega)
            have HPy := HPb.out h0'
            clear s2 hck'
            refine wp_region_near wo.heap.size (by kernel_rfl) (by kernel_rfl) ?_; (repeat (go_big_quiet_step ((first | (go_at_call 31; exact Calls.near _ hzz (HC.out _)) | (go_at_call 32; exact Calls.near _ hzz (HA.out _ _ (by first | exact HPr | exact HPy))))))); refine wpQuiet_nil ?_; intro _ hw'; obtain ⟨x1, hw''⟩ := hw'; subst hw''
            go_wp2
            go_meet
            exact ⟨by simp [hin']; omega, x1.h⟩
      case rest =>
        obtain ⟨rfl, hw2⟩ := hcut
        have t2 := hbel.trans (hw2.mono hz)
        by_cases hD : posIn row col r = true ∧ (f k < 0 ∨ area r ≤ area y)
        · have HF2 : Hid (f (k + 1) = k) := Lib.hid (by rw [HBk.out, if_pos hD])
          rw [decide_eq_true hD]
          clear hD s2 hck' N0
          go_wp2
          exact ⟨⟨k + 1, by omega, by rw [HF2.out], by go_num, t2⟩, by simp [intOf]; omega⟩
        · have HF2 : Hid (f (k + 1) = f k) := Lib.hid (by rw [HBk.out, if_neg hD])
          rw [decide_eq_false hD]
          clear hD s2 hck' N0
          go_wp2
          exact ⟨⟨k + 1, by omega, by rw [HF2.out], by go_num, t2⟩, by simp [intOf]; omega⟩
    · obtain rfl : k = n := by omega
      go_wp2
      go_ret
      exact ⟨rfl, hbel⟩
end Go.Proofs.Ytgmodadgmnfhgaa
