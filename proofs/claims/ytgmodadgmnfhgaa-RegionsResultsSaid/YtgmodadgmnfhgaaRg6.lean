/- narratorref28.less. -/
import Derived.Test.YtgmodadgmnfhgaaRg3
namespace Go.Proofs.Ytgmodadgmnfhgaa
open Go.RowKit
/-- less with or without the parents. -/
def lessB (a b : Reg) (p : Bool) : Bool := if p then ltR a b else ltR a (setPar b a.par)
def k6 (a b : Reg) (j : Nat) : Int := if j = 0 then a.top else if j = 1 then a.left else if j = 2 then b.bot else if j = 3 then b.right else if j = 4 then a.kind else 0
theorem ci_lt {x y : Int} : Lib.compareInt x y < 0 ↔ x < y := by
  unfold Lib.compareInt
  split
  · omega
  · split <;> omega
theorem bytesLess_eq : ∀ x y : List UInt8, Op.bytesLess x y = decide (Lib.compareBytes x y < 0)
  | [], [] => by simp [Op.bytesLess, Lib.compareBytes]
  | _ :: _, [] => by simp [Op.bytesLess, Lib.compareBytes]
  | [], _ :: _ => by simp [Op.bytesLess, Lib.compareBytes]
  | a :: x, b :: y => by
    rw [Op.bytesLess, cb_cons, bytesLess_eq x y]
    by_cases h : a = b
    · subst h
      have h1 : Lib.compareInt a.toNat a.toNat = 0 := compareInt_eq.2 rfl
      rw [if_pos h1]
      simp
    · have h2 : (a.toNat : Int) ≠ b.toNat := fun e => h (UInt8.toNat_inj.1 (by omega))
      have h1 : ¬ Lib.compareInt a.toNat b.toNat = 0 := fun e => h2 (compareInt_eq.1 e)
      rw [if_neg h1, Bool.eq_iff_iff]
      simp [h, ci_lt, UInt8.lt_iff_toNat_lt]
theorem less_at {a b : Reg} {p : Bool} {k : Nat} (hk : k < 6) (he : ∀ j, j < k → k6 a b j = k6 b a j) (hne : k6 a b k ≠ k6 b a k) : lessB a b p = decide (k6 a b k < k6 b a k) := by
  have e0 : 0 < k → a.top = b.top := fun h => by simpa [k6] using he 0 h
  have e1 : 1 < k → a.left = b.left := fun h => by simpa [k6] using he 1 h
  have e2 : 2 < k → b.bot = a.bot := fun h => by simpa [k6] using he 2 h
  have e3 : 3 < k → b.right = a.right := fun h => by simpa [k6] using he 3 h
  have e4 : 4 < k → a.kind = b.kind := fun h => by simpa [k6] using he 4 h
  have hc : k = 0 ∨ k = 1 ∨ k = 2 ∨ k = 3 ∨ k = 4 ∨ k = 5 := by omega
  rcases hc with rfl | rfl | rfl | rfl | rfl | rfl
  · simp [k6] at hne
    cases p <;> simp [lessB, ltR, cmpR, keyL, firstL, setPar, compareInt_eq, hne, ci_lt, k6]
  · simp [k6] at hne
    cases p <;> simp [lessB, ltR, cmpR, keyL, firstL, setPar, compareInt_eq, hne, ci_lt, k6, e0]
  · simp [k6] at hne
    cases p <;> simp [lessB, ltR, cmpR, keyL, firstL, setPar, compareInt_eq, hne, ci_lt, k6, e0, e1]
  · simp [k6] at hne
    cases p <;> simp [lessB, ltR, cmpR, keyL, firstL, setPar, compareInt_eq, hne, ci_lt, k6, e0, e1, e2]
  · simp [k6] at hne
    cases p <;> simp [lessB, ltR, cmpR, keyL, firstL, setPar, compareInt_eq, hne, ci_lt, k6, e0, e1, e2, e3]
  · simp [k6] at hne
theorem less_five {a b : Reg} (he : ∀ j, j < 6 → k6 a b j = k6 b a j) (p : Bool) : lessB a b p = decide (firstL [Lib.compareBytes a.label.data.toList b.label.data.toList, Lib.compareInt a.id b.id, if p then Lib.compareInt a.par b.par else 0] < 0) := by
  have e0 : a.top = b.top := by simpa [k6] using he 0 (by omega)
  have e1 : a.left = b.left := by simpa [k6] using he 1 (by omega)
  have e2 : b.bot = a.bot := by simpa [k6] using he 2 (by omega)
  have e3 : b.right = a.right := by simpa [k6] using he 3 (by omega)
  have e4 : a.kind = b.kind := by simpa [k6] using he 4 (by omega)
  cases p <;> simp [lessB, ltR, cmpR, keyL, firstL, setPar, e0, e1, e2, e3, e4, ci_self]
theorem less_label {a b : Reg} (he : ∀ j, j < 6 → k6 a b j = k6 b a j) (p : Bool) (h : a.label ≠ b.label) : lessB a b p = Op.bytesLess a.label.toList b.label.toList := by
  have h1 : ¬ Lib.compareBytes a.label.data.toList b.label.data.toList = 0 := fun e => h (ba_ext (compareBytes_eq e))
  rw [less_five he, bytesLess_eq, ByteArray.toList_eq, ByteArray.toList_eq, firstL, if_neg h1]
theorem cb_self : ∀ l : List UInt8, Lib.compareBytes l l = 0
  | [] => rfl
  | a :: l => by
    rw [cb_cons, if_pos (compareInt_eq.2 rfl)]
    exact cb_self l
theorem less_id {a b : Reg} (he : ∀ j, j < 6 → k6 a b j = k6 b a j) (p : Bool) (h : a.label = b.label) (hi : a.id ≠ b.id) : lessB a b p = decide (a.id < b.id) := by
  rw [less_five he, h, firstL, if_pos (cb_self _), firstL, if_neg (fun e => hi (compareInt_eq.1 e))]
  simp [ci_lt]
theorem less_par {a b : Reg} (he : ∀ j, j < 6 → k6 a b j = k6 b a j) (p : Bool) (h : a.label = b.label) (hi : a.id = b.id) : lessB a b p = (p && decide (a.par < b.par)) := by
  rw [less_five he, h, firstL, if_pos (cb_self _), firstL, if_pos (compareInt_eq.2 hi)]
  cases p
  · simp [firstL]
  · by_cases e : a.par = b.par <;> simp [firstL, ci_lt, compareInt_eq, e]
set_option maxHeartbeats 2000000 in
theorem rless (a b : Reg) (p : Bool) (W : World) : Calls Try.prog 28 #[regV a, regV b, .bool p] W (Gives (.bool (lessB a b p)) W) := by
  have HA : Hid (∀ k, k < 6 → (∀ j, j < k → k6 a b j = k6 b a j) → k6 a b k ≠ k6 b a k → lessB a b p = decide (k6 a b k < k6 b a k)) := Lib.hid fun k h1 h2 h3 => less_at h1 h2 h3
  have HL : Hid ((∀ j, j < 6 → k6 a b j = k6 b a j) → a.label ≠ b.label → lessB a b p = Op.bytesLess a.label.toList b.label.toList) := Lib.hid fun h => less_label h p
  have HI : Hid ((∀ j, j < 6 → k6 a b j = k6 b a j) → a.label = b.label → a.id ≠ b.id → lessB a b p = decide (a.id < b.id)) := Lib.hid fun h => less_id h p
  have HP : Hid ((∀ j, j < 6 → k6 a b j = k6 b a j) → a.label = b.label → a.id = b.id → lessB a b p = (p && decide (a.par < b.par))) := Lib.hid fun h => less_par h p
  generalize lessB a b p = R at *
  go_enter Try.func28, Try.ntmps28
  go_upto_block 0 with fail
  have HX : Hid (∀ j, j < 6 → ((((W.alloc (.cells #[.int .i64 a.kind, .int .i64 a.id, .int .i64 a.par, .int .i64 a.top, .int .i64 a.left, .int .i64 a.bot, .int .i64 a.right, .string a.label] 31)).alloc (.cells #[.int .i64 b.kind, .int .i64 b.id, .int .i64 b.par, .int .i64 b.top, .int .i64 b.left, .int .i64 b.bot, .int .i64 b.right, .string b.label] 31)).alloc (.cells #[.int .i64 a.top, .int .i64 a.left, .int .i64 b.bot, .int .i64 b.right, .int .i64 a.kind, .int .i64 0] 53)).alloc (.cells #[.int .i64 b.top, .int .i64 b.left, .int .i64 a.bot, .int .i64 a.right, .int .i64 b.kind, .int .i64 0] 53)).cell? ⟨W.heap.size + 1 + 1, j, none⟩ = some (.int .i64 (k6 a b j))) := Lib.hid fun j hj => by
    refine (World.cell?_alloc_lt _ _ _ (by simp)).trans ?_
    have hs : ((W.alloc (.cells #[.int .i64 a.kind, .int .i64 a.id, .int .i64 a.par, .int .i64 a.top, .int .i64 a.left, .int .i64 a.bot, .int .i64 a.right, .string a.label] 31)).alloc (.cells #[.int .i64 b.kind, .int .i64 b.id, .int .i64 b.par, .int .i64 b.top, .int .i64 b.left, .int .i64 b.bot, .int .i64 b.right, .string b.label] 31)).heap.size = W.heap.size + 1 + 1 := by simp
    rw [← hs, cell_built]
    have hc : j = 0 ∨ j = 1 ∨ j = 2 ∨ j = 3 ∨ j = 4 ∨ j = 5 := by omega
    rcases hc with rfl | rfl | rfl | rfl | rfl | rfl <;> rfl
  have HY : Hid (∀ j, j < 6 → ((((W.alloc (.cells #[.int .i64 a.kind, .int .i64 a.id, .int .i64 a.par, .int .i64 a.top, .int .i64 a.left, .int .i64 a.bot, .int .i64 a.right, .string a.label] 31)).alloc (.cells #[.int .i64 b.kind, .int .i64 b.id, .int .i64 b.par, .int .i64 b.top, .int .i64 b.left, .int .i64 b.bot, .int .i64 b.right, .string b.label] 31)).alloc (.cells #[.int .i64 a.top, .int .i64 a.left, .int .i64 b.bot, .int .i64 b.right, .int .i64 a.kind, .int .i64 0] 53)).alloc (.cells #[.int .i64 b.top, .int .i64 b.left, .int .i64 a.bot, .int .i64 a.right, .int .i64 b.kind, .int .i64 0] 53)).cell? ⟨W.heap.size + 1 + 1 + 1, j, none⟩ = some (.int .i64 (k6 b a j))) := Lib.hid fun j hj => by
    have hs : (((W.alloc (.cells #[.int .i64 a.kind, .int .i64 a.id, .int .i64 a.par, .int .i64 a.top, .int .i64 a.left, .int .i64 a.bot, .int .i64 a.right, .string a.label] 31)).alloc (.cells #[.int .i64 b.kind, .int .i64 b.id, .int .i64 b.par, .int .i64 b.top, .int .i64 b.left, .int .i64 b.bot, .int .i64 b.right, .string b.label] 31)).alloc (.cells #[.int .i64 a.top, .int .i64 a.left, .int .i64 b.bot, .int .i64 b.right, .int .i64 a.kind, .int .i64 0] 53)).heap.size = W.heap.size + 1 + 1 + 1 := by simp
    rw [← hs, cell_built]
    have hc : j = 0 ∨ j = 1 ∨ j = 2 ∨ j = 3 ∨ j = 4 ∨ j = 5 := by omega
    rcases hc with rfl | rfl | rfl | rfl | rfl | rfl <;> rfl
  have hA := c8z_below (c8z_new W a _ rfl) ((((Below.refl (W.heap.size + 1) (W.alloc (.cells #[.int .i64 a.kind, .int .i64 a.id, .int .i64 a.par, .int .i64 a.top, .int .i64 a.left, .int .i64 a.bot, .int .i64 a.right, .string a.label] 31))).alloc (by simp) (.cells #[.int .i64 b.kind, .int .i64 b.id, .int .i64 b.par, .int .i64 b.top, .int .i64 b.left, .int .i64 b.bot, .int .i64 b.right, .string b.label] 31)).alloc (by simp) (.cells #[.int .i64 a.top, .int .i64 a.left, .int .i64 b.bot, .int .i64 b.right, .int .i64 a.kind, .int .i64 0] 53)).alloc (by first | (simp; done) | (simp; omega)) (.cells #[.int .i64 b.top, .int .i64 b.left, .int .i64 a.bot, .int .i64 a.right, .int .i64 b.kind, .int .i64 0] 53)) (by omega)
  have hB := c8z_below (c8z_new (W.alloc (.cells #[.int .i64 a.kind, .int .i64 a.id, .int .i64 a.par, .int .i64 a.top, .int .i64 a.left, .int .i64 a.bot, .int .i64 a.right, .string a.label] 31)) b _ rfl) (((Below.refl (W.heap.size + 1 + 1) ((W.alloc (.cells #[.int .i64 a.kind, .int .i64 a.id, .int .i64 a.par, .int .i64 a.top, .int .i64 a.left, .int .i64 a.bot, .int .i64 a.right, .string a.label] 31)).alloc (.cells #[.int .i64 b.kind, .int .i64 b.id, .int .i64 b.par, .int .i64 b.top, .int .i64 b.left, .int .i64 b.bot, .int .i64 b.right, .string b.label] 31))).alloc (by simp) (.cells #[.int .i64 a.top, .int .i64 a.left, .int .i64 b.bot, .int .i64 b.right, .int .i64 a.kind, .int .i64 0] 53)).alloc (by simp) (.cells #[.int .i64 b.top, .int .i64 b.left, .int .i64 a.bot, .int .i64 a.right, .int .i64 b.kind, .int .i64 0] 53)) (by simp)
  rw [World.size_alloc] at hB
  have hbel : Below W.heap.size W ((((W.alloc (.cells #[.int .i64 a.kind, .int .i64 a.id, .int .i64 a.par, .int .i64 a.top, .int .i64 a.left, .int .i64 a.bot, .int .i64 a.right, .string a.label] 31)).alloc (.cells #[.int .i64 b.kind, .int .i64 b.id, .int .i64 b.par, .int .i64 b.top, .int .i64 b.left, .int .i64 b.bot, .int .i64 b.right, .string b.label] 31)).alloc (.cells #[.int .i64 a.top, .int .i64 a.left, .int .i64 b.bot, .int .i64 b.right, .int .i64 a.kind, .int .i64 0] 53)).alloc (.cells #[.int .i64 b.top, .int .i64 b.left, .int .i64 a.bot, .int .i64 a.right, .int .i64 b.kind, .int .i64 0] 53)) := (((below_box W _).alloc (by simp) _).alloc (by simp; omega) _).alloc (by simp; omega) _
  generalize (((W.alloc (.cells #[.int .i64 a.kind, .int .i64 a.id, .int .i64 a.par, .int .i64 a.top, .int .i64 a.left, .int .i64 a.bot, .int .i64 a.right, .string a.label] 31)).alloc (.cells #[.int .i64 b.kind, .int .i64 b.id, .int .i64 b.par, .int .i64 b.top, .int .i64 b.left, .int .i64 b.bot, .int .i64 b.right, .string b.label] 31)).alloc (.cells #[.int .i64 a.top, .int .i64 a.left, .int .i64 b.bot, .int .i64 b.right, .int .i64 a.kind, .int .i64 0] 53)).alloc (.cells #[.int .i64 b.top, .int .i64 b.left, .int .i64 a.bot, .int .i64 a.right, .int .i64 b.kind, .int .i64 0] 53) = wb at *
  go_wp2
  go_loopw [9] (fun x wr => ∃ k m : Nat, k ≤ 6 ∧ x = .int .i64 k ∧ wr = wb.drewN m ∧ Hid (∀ j, j < k → k6 a b j = k6 b a j)) (fun x _ => 6 - (intOf x).toNat)
  case atStart => exact ⟨0, 0, by omega, rfl, rfl, Lib.hid fun j h => absurd h (Nat.not_lt_zero j)⟩
  case round =>
    obtain ⟨k, m, hk, rfl, rfl, HE⟩ := hrel
    by_cases hlt : k < 6
    · have hx := HX.out k hlt
      have hy := HY.out k hlt
      by_cases he : k6 a b k = k6 b a k
      · have HE2 : Hid (∀ j, j < k + 1 → k6 a b j = k6 b a j) := Lib.hid fun j hj => by
          rcases Nat.lt_or_ge j k with h | h
          · exact HE.out j h
          · obtain rfl : j = k := by omega
            exact he
        rw [he] at hx
        generalize k6 b a k = z at *
        clear he hA hB
        go_wp2
        go_quiet (fail)
        go_wp2
        exact ⟨⟨k + 1, _, by omega, by go_num, rfl, HE2⟩, by simp [intOf]; omega⟩
      · have HR2 : Hid (R = decide (k6 a b k < k6 b a k)) := Lib.hid (HA.out k hlt HE.out he)
        have hne : (k6 a b k != k6 b a k) = true := by simp [he]
        generalize k6 b a k = z at *
        generalize k6 a b k = y at *
        clear he hA hB
        go_wp2
        go_quiet (fail)
        go_wp2
        go_quiet (fail)
        go_wp2
        go_ret
        exact ⟨by rw [HR2.out]; rfl, by first | exact below_drewN hbel | exact below_drewN (below_drewN hbel) | exact below_drewN (below_drewN (below_drewN hbel))⟩
    · obtain rfl : k = 6 := by omega
      have HL2 := Lib.hid (HL.out HE.out)
      have HI2 := Lib.hid (HI.out HE.out)
      have HP2 := Lib.hid (HP.out HE.out)
      clear HA HL HI HP HX HY HE hlt
      by_cases h1 : a.label = b.label
      · have hls : (a.label.toList == b.label.toList) = true := by rw [h1]; simp
        by_cases h2 : a.id = b.id
        · have HR2 : Hid (R = (p && decide (a.par < b.par))) := Lib.hid (HP2.out h1 h2)
          have hii : (a.id != b.id) = false := by simp [h2]
          clear h1 h2 HL2 HI2 HP2
          cases p
          · go_wp2
            go_ret
            exact ⟨by rw [HR2.out]; rfl, by first | exact below_drewN hbel | exact below_drewN (below_drewN hbel) | exact below_drewN (below_drewN (below_drewN hbel))⟩
          · go_wp2
            go_ret
            exact ⟨by rw [HR2.out]; rfl, by first | exact below_drewN hbel | exact below_drewN (below_drewN hbel) | exact below_drewN (below_drewN (below_drewN hbel))⟩
        · have HR2 : Hid (R = decide (a.id < b.id)) := Lib.hid (HI2.out h1 h2)
          have hii : (a.id != b.id) = true := by simp [h2]
          clear h1 h2 HL2 HI2 HP2
          go_wp2
          go_ret
          exact ⟨by rw [HR2.out]; rfl, by first | exact below_drewN hbel | exact below_drewN (below_drewN hbel) | exact below_drewN (below_drewN (below_drewN hbel))⟩
      · have HR2 : Hid (R = Op.bytesLess a.label.toList b.label.toList) := Lib.hid (HL2.out h1)
        have hls : (a.label.toList == b.label.toList) = false := by rw [str_beq]; exact decide_eq_false h1
        clear h1 HL2 HI2 HP2
        go_wp2
        go_ret
        exact ⟨by rw [HR2.out]; rfl, by first | exact below_drewN hbel | exact below_drewN (below_drewN hbel) | exact below_drewN (below_drewN (below_drewN hbel))⟩
end Go.Proofs.Ytgmodadgmnfhgaa
