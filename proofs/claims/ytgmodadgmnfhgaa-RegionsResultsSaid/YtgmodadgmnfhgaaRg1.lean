/- regions and narratorref28: proper, one, Contains, area, in. -/
import Derived.Test.YtgmodadgmnfhgaaRegR
import Derived.Test.YtgmodadgmnfhgaaRegRow
namespace Go.Proofs.Ytgmodadgmnfhgaa
open Go.RowKit
abbrev regV (r : Reg) : Value := .agg #[.int .i64 r.kind, .int .i64 r.id, .int .i64 r.par, .int .i64 r.top, .int .i64 r.left, .int .i64 r.bot, .int .i64 r.right, .string r.label]
theorem below_box (w : World) (o : Obj) : Below w.heap.size w (w.alloc o) := (Below.refl _ _).alloc (Nat.le_refl _) _
theorem below_box2 (w : World) (o o' : Obj) : Below w.heap.size w ((w.alloc o).alloc o') := ((Below.refl _ _).alloc (Nat.le_refl _) _).alloc (by simp) _
set_option maxHeartbeats 800000 in
theorem contains (a b : Reg) (w : World) : Calls Try.prog 16 #[regV a, regV b] w (Gives (.bool (inB a b)) w) := by
  have HI : Hid (inB a b = (decide (a.top ≤ b.top) && decide (b.bot ≤ a.bot) && decide (a.left ≤ b.left) && decide (b.right ≤ a.right))) := Lib.hid rfl
  generalize inB a b = R at *
  go_enter Try.func16, Try.ntmps16
  go_wp2
  all_goals
    go_ret
    refine ⟨?_, below_box2 _ _ _⟩
    show Ending.returned (Value.bool _) = Ending.returned (Value.bool _)
    rw [HI.out]
    refine congrArg (fun x => Ending.returned (Value.bool x)) ?_
    rw [Bool.eq_iff_iff]
    first | (simp; done) | (simp; omega)
set_option maxHeartbeats 800000 in
theorem rcontains (a b : Reg) (w : World) : Calls Try.prog 17 #[regV a, regV b] w (Gives (.bool (inB a b)) w) := by
  have HI : Hid (inB a b = (decide (a.top ≤ b.top) && decide (b.bot ≤ a.bot) && decide (a.left ≤ b.left) && decide (b.right ≤ a.right))) := Lib.hid rfl
  generalize inB a b = R at *
  go_enter Try.func17, Try.ntmps17
  go_wp2
  all_goals
    go_ret
    refine ⟨?_, below_box2 _ _ _⟩
    show Ending.returned (Value.bool _) = Ending.returned (Value.bool _)
    rw [HI.out]
    refine congrArg (fun x => Ending.returned (Value.bool x)) ?_
    rw [Bool.eq_iff_iff]
    first | (simp; done) | (simp; omega)
set_option maxHeartbeats 800000 in
theorem rin (r : Reg) (row col : Int) (w : World) : Calls Try.prog 31 #[regV r, .int .i64 row, .int .i64 col] w (Gives (.bool (posIn row col r)) w) := by
  have HI : Hid (posIn row col r = (decide (r.top ≤ row) && decide (row < r.bot) && decide (r.left ≤ col) && decide (col < r.right))) := Lib.hid rfl
  generalize posIn row col r = R at *
  go_enter Try.func31, Try.ntmps31
  go_wp2
  all_goals
    go_ret
    refine ⟨?_, below_box _ _⟩
    show Ending.returned (Value.bool _) = Ending.returned (Value.bool _)
    rw [HI.out]
    refine congrArg (fun x => Ending.returned (Value.bool x)) ?_
    rw [Bool.eq_iff_iff]
    first | (simp; done) | (simp; omega)
set_option maxHeartbeats 800000 in
theorem proper (r : Reg) (w : World) : Calls Try.prog 23 #[regV r] w (Gives (.int .i64 (properE r)) w) := by
  have HI : Hid (properE r = if r.kind < 1 ∨ 8 < r.kind then 9 else if r.top < 0 ∨ r.bot ≤ r.top ∨ 60 < r.bot ∨ r.left < 0 ∨ r.right ≤ r.left ∨ 132 < r.right then 2 else 0) := Lib.hid rfl
  generalize properE r = R at *
  go_enter Try.func23, Try.ntmps23
  go_wp2
  all_goals
    go_ret
    refine ⟨?_, below_box _ _⟩
    show Ending.returned (Value.int .i64 _) = Ending.returned (Value.int .i64 _)
    rw [HI.out]
    refine congrArg (fun x => Ending.returned (Value.int .i64 x)) ?_
    repeat' split
    all_goals omega
set_option maxHeartbeats 800000 in
theorem rone (r : Reg) (w : World) : Calls Try.prog 27 #[regV r] w (Gives (.int .i64 (properE r)) w) := by
  have HI : Hid (properE r = if r.kind < 1 ∨ 8 < r.kind then 9 else if r.top < 0 ∨ r.bot ≤ r.top ∨ 60 < r.bot ∨ r.left < 0 ∨ r.right ≤ r.left ∨ 132 < r.right then 2 else 0) := Lib.hid rfl
  generalize properE r = R at *
  go_enter Try.func27, Try.ntmps27
  go_wp2
  all_goals
    go_ret
    refine ⟨?_, below_box _ _⟩
    show Ending.returned (Value.int .i64 _) = Ending.returned (Value.int .i64 _)
    rw [HI.out]
    refine congrArg (fun x => Ending.returned (Value.int .i64 x)) ?_
    repeat' split
    all_goals omega
set_option maxHeartbeats 800000 in
theorem area_ (r : Reg) (hp : Proper r) (w : World) : Calls Try.prog 30 #[regV r] w (Gives (.int .i64 (area r)) w) := by
  obtain ⟨h1, h2, h3, h4, h5, h6, h7, h8⟩ := hp
  have ha := (area_pos ⟨h1, h2, h3, h4, h5, h6, h7, h8⟩)
  have HI : Hid (area r = (r.bot - r.top) * (r.right - r.left)) := Lib.hid rfl
  have w1 : IntKind.i64.wrap (r.bot - r.top) = r.bot - r.top := IntWalk.i64_in _ (by omega)
  have w2 : IntKind.i64.wrap (r.right - r.left) = r.right - r.left := IntWalk.i64_in _ (by omega)
  have w3 : IntKind.i64.wrap ((r.bot - r.top) * (r.right - r.left)) = (r.bot - r.top) * (r.right - r.left) := IntWalk.i64_in _ (by rw [← HI.out]; omega)
  generalize area r = R at *
  go_enter Try.func30, Try.ntmps30
  go_wp2
  go_ret
  exact ⟨by rw [HI.out]; rfl, below_box _ _⟩
set_option maxHeartbeats 800000 in
theorem rarea (r : Reg) (hp : Proper r) (w : World) : Calls Try.prog 32 #[regV r] w (Gives (.int .i64 (area r)) w) := by
  obtain ⟨h1, h2, h3, h4, h5, h6, h7, h8⟩ := hp
  have ha := (area_pos ⟨h1, h2, h3, h4, h5, h6, h7, h8⟩)
  have HI : Hid (area r = (r.bot - r.top) * (r.right - r.left)) := Lib.hid rfl
  have w1 : IntKind.i64.wrap (r.bot - r.top) = r.bot - r.top := IntWalk.i64_in _ (by omega)
  have w2 : IntKind.i64.wrap (r.right - r.left) = r.right - r.left := IntWalk.i64_in _ (by omega)
  have w3 : IntKind.i64.wrap ((r.bot - r.top) * (r.right - r.left)) = (r.bot - r.top) * (r.right - r.left) := IntWalk.i64_in _ (by rw [← HI.out]; omega)
  generalize area r = R at *
  go_enter Try.func32, Try.ntmps32
  go_wp2
  go_ret
  exact ⟨by rw [HI.out]; rfl, below_box _ _⟩
set_option maxHeartbeats 800000 in
theorem larea (r : Reg) (hp : Proper r) (w : World) : Calls Try.prog 22 #[regV r] w (Gives (.int .i64 (area r)) w) := by
  obtain ⟨h1, h2, h3, h4, h5, h6, h7, h8⟩ := hp
  have ha := (area_pos ⟨h1, h2, h3, h4, h5, h6, h7, h8⟩)
  have HI : Hid (area r = (r.bot - r.top) * (r.right - r.left)) := Lib.hid rfl
  have w1 : IntKind.i64.wrap (r.bot - r.top) = r.bot - r.top := IntWalk.i64_in _ (by omega)
  have w2 : IntKind.i64.wrap (r.right - r.left) = r.right - r.left := IntWalk.i64_in _ (by omega)
  have w3 : IntKind.i64.wrap ((r.bot - r.top) * (r.right - r.left)) = (r.bot - r.top) * (r.right - r.left) := IntWalk.i64_in _ (by rw [← HI.out]; omega)
  generalize area r = R at *
  go_enter Try.func22, Try.ntmps22
  go_wp2
  go_ret
  exact ⟨by rw [HI.out]; rfl, below_box _ _⟩
end Go.Proofs.Ytgmodadgmnfhgaa
