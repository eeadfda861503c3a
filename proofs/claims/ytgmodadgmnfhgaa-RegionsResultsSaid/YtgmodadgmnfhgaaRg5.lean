/- regions.compare. -/
import Derived.Test.YtgmodadgmnfhgaaRg2
import Derived.Test.YtgmodadgmnfhgaaRg3
import Derived.Test.YtgmodadgmnfhgaaLib
import Derived.Deep.RegionHeld3
namespace Go.Proofs.Ytgmodadgmnfhgaa
open Go.RowKit Go.Sort
theorem Rd.drew_ {w : World} {B size n : Nat} {A : Option Addr} {xs : List Value} (h : Rd w B size A n xs) : Rd w.drew B size A n xs := h
set_option maxHeartbeats 2000000 in
theorem compare_ (a b : Reg) (W : World) : Calls Try.prog 25 #[regV a, regV b] W fun e w' => e = .returned (.int .i64 (cmpR a b)) ∧ ∃ q os', w' = grow (W.drewN q) os' := by
  have HC : Hid (∀ x y w, Calls Try.prog 36 #[.int .i64 x, .int .i64 y] w fun e w' => e = .returned (.int .i64 (Lib.compareInt x y)) ∧ w' = w) := Lib.hid fun x y w => Try.cmp_Compare_int x y w
  have HS : Hid (∀ x y w, Calls Try.prog 37 #[.string x, .string y] w fun e w' => e = .returned (.int .i64 (Lib.compareBytes x.data.toList y.data.toList)) ∧ w' = w) := Lib.hid fun x y w => Try.strings_Compare x y w
  have HF : Hid (∀ A w, Rd w w.heap.size 1 A 8 (ivs .i64 (keyL a b)) → Calls Try.prog 35 #[.slice A 8 8] w fun e w' => e = .returned (.int .i64 (cmpR a b)) ∧ w' = w) := Lib.hid fun A w h => first_ (keyL a b) A 8 8 _ w rfl (by omega) h
  have HK : Hid (keyL a b = [Lib.compareInt a.top b.top, Lib.compareInt a.left b.left, Lib.compareInt b.bot a.bot, Lib.compareInt b.right a.right, Lib.compareInt a.kind b.kind, Lib.compareBytes a.label.data.toList b.label.data.toList, Lib.compareInt a.id b.id, Lib.compareInt a.par b.par]) := Lib.hid rfl
  generalize cmpR a b = R at *
  generalize keyL a b = KL at *
  go_enter Try.func25, Try.ntmps25
  go_upto_region 2 with fail
  have n0 := c8z_new W a _ rfl
  have m0 := c8z_below n0 (below_box (W.alloc (.cells #[.int .i64 a.kind, .int .i64 a.id, .int .i64 a.par, .int .i64 a.top, .int .i64 a.left, .int .i64 a.bot, .int .i64 a.right, .string a.label] 31)) (.cells #[.int .i64 b.kind, .int .i64 b.id, .int .i64 b.par, .int .i64 b.top, .int .i64 b.left, .int .i64 b.bot, .int .i64 b.right, .string b.label] 31)) (by simp)
  have n1 := c8z_new (W.alloc (.cells #[.int .i64 a.kind, .int .i64 a.id, .int .i64 a.par, .int .i64 a.top, .int .i64 a.left, .int .i64 a.bot, .int .i64 a.right, .string a.label] 31)) b _ rfl
  rw [World.size_alloc] at n1
  clear n0
  obtain ⟨wb, hwb⟩ : ∃ x, x = (W.alloc (.cells #[.int .i64 a.kind, .int .i64 a.id, .int .i64 a.par, .int .i64 a.top, .int .i64 a.left, .int .i64 a.bot, .int .i64 a.right, .string a.label] 31)).alloc (.cells #[.int .i64 b.kind, .int .i64 b.id, .int .i64 b.par, .int .i64 b.top, .int .i64 b.left, .int .i64 b.bot, .int .i64 b.right, .string b.label] 31) := ⟨_, rfl⟩
  have HW := Lib.hid hwb
  have hzb : wb.heap.size = W.heap.size + 2 := by rw [hwb]; simp
  rw [← hwb] at m0 n1 ⊢
  clear hwb
  have HRD := Lib.hid (rd_built (w := wb) (xs := ivs .i64 [Lib.compareInt a.top b.top, Lib.compareInt a.left b.left, Lib.compareInt b.bot a.bot, Lib.compareInt b.right a.right, Lib.compareInt a.kind b.kind, Lib.compareBytes a.label.data.toList b.label.data.toList, Lib.compareInt a.id b.id, Lib.compareInt a.par b.par]) (e := 3) (m := 8) (size := 1) hzb rfl)
  go_region_held3 (fun w' => (w'.cell? ⟨W.heap.size, 0, none⟩ = some (.int .i64 a.kind) ∧ w'.cell? ⟨W.heap.size, 1, none⟩ = some (.int .i64 a.id) ∧ w'.cell? ⟨W.heap.size, 2, none⟩ = some (.int .i64 a.par) ∧ w'.cell? ⟨W.heap.size, 3, none⟩ = some (.int .i64 a.top) ∧ w'.cell? ⟨W.heap.size, 4, none⟩ = some (.int .i64 a.left) ∧ w'.cell? ⟨W.heap.size, 5, none⟩ = some (.int .i64 a.bot) ∧ w'.cell? ⟨W.heap.size, 6, none⟩ = some (.int .i64 a.right) ∧ w'.cell? ⟨W.heap.size, 7, none⟩ = some (.string a.label)) ∧ (w'.cell? ⟨(W.heap.size + 1), 0, none⟩ = some (.int .i64 b.kind) ∧ w'.cell? ⟨(W.heap.size + 1), 1, none⟩ = some (.int .i64 b.id) ∧ w'.cell? ⟨(W.heap.size + 1), 2, none⟩ = some (.int .i64 b.par) ∧ w'.cell? ⟨(W.heap.size + 1), 3, none⟩ = some (.int .i64 b.top) ∧ w'.cell? ⟨(W.heap.size + 1), 4, none⟩ = some (.int .i64 b.left) ∧ w'.cell? ⟨(W.heap.size + 1), 5, none⟩ = some (.int .i64 b.bot) ∧ w'.cell? ⟨(W.heap.size + 1), 6, none⟩ = some (.int .i64 b.right) ∧ w'.cell? ⟨(W.heap.size + 1), 7, none⟩ = some (.string b.label))) (go_keep) (first
    | (go_at_call 36; refine (HC.out _ _ _).mono ?_; rintro e w1 ⟨rfl, rfl⟩)
    | (go_at_call 37; refine (HS.out _ _ _).mono ?_; rintro e w1 ⟨rfl, rfl⟩)
    | (go_at_call 35; refine Calls.mono (HF.out _ _ (by rw [HK.out]; exact Rd.drew_ (Rd.more HRD.out (by simp [hzb])))) ?_; rintro e w1 ⟨rfl, rfl⟩))
  go_wp2
  go_ret
  refine ⟨rfl, 1, #[(.cells #[.int .i64 a.kind, .int .i64 a.id, .int .i64 a.par, .int .i64 a.top, .int .i64 a.left, .int .i64 a.bot, .int .i64 a.right, .string a.label] 31), (.cells #[.int .i64 b.kind, .int .i64 b.id, .int .i64 b.par, .int .i64 b.top, .int .i64 b.left, .int .i64 b.bot, .int .i64 b.right, .string b.label] 31), .cells (ivs .i64 [Lib.compareInt a.top b.top, Lib.compareInt a.left b.left, Lib.compareInt b.bot a.bot, Lib.compareInt b.right a.right, Lib.compareInt a.kind b.kind, Lib.compareBytes a.label.data.toList b.label.data.toList, Lib.compareInt a.id b.id, Lib.compareInt a.par b.par]).toArray 3], ?_⟩
  rw [HW.out]
  simp only [alloc_eq_grow, grow_grow]
  rfl
theorem below_grow {W w' : World} (h : ∃ q os', w' = grow (W.drewN q) os') : Below W.heap.size W w' := by
  obtain ⟨q, os', rfl⟩ := h
  refine ⟨rfl, rfl, rfl, by simp [grow, World.drewN], fun k hk => ?_⟩
  show (W.heap ++ os')[k]? = W.heap[k]?
  rw [Array.getElem?_append_left hk]
theorem comp (a b : Reg) (w : World) : Calls Try.prog 25 #[regV a, regV b] w (Gives (.int .i64 (cmpR a b)) w) := (compare_ a b w).mono fun _ _ ⟨he, h⟩ => ⟨he, below_grow h⟩
end Go.Proofs.Ytgmodadgmnfhgaa
