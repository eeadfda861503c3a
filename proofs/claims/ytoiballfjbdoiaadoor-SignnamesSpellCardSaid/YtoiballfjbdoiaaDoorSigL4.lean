/- SignnamesSpell: the law's walk. -/
import Derived.Test.YtoiballfjbdoiaaDoorSig4
import Derived.Test.YtoiballfjbdoiaaDoorRsg3
namespace Go.Proofs.YtoiballfjbdoiaaDoor
open Go.RowKit
set_option maxHeartbeats 800000 in
theorem law_SignnamesSpell (w : World) (hs : Sp w) (ht : Tb w) (r : Int) (wr : (Lit.int .i32 r).wf = true) : Calls Tryd.prog 3 #[.int .i32 r] w (Gives (.bool true) w) := by
  have hr : -2147483648 ≤ r ∧ r ≤ 2147483647 := by simpa [Lit.wf, IntKind.min, IntKind.max, IntKind.signed, IntKind.bits] using wr
  have HA : Hid (∀ w1, Below w.heap.size w w1 → Calls Tryd.prog 14 #[] w1 (Gives (.bool true) w1)) := Lib.hid fun w1 hb => awake w1 (hs.below hb (Nat.le_refl _))
  have HS := Lib.hid (spell r hr.1 hr.2 w hs)
  have HR : Hid (∀ w1, Below w.heap.size w w1 → Calls Tryd.prog 13 #[.int .i32 r] w1 (GivesOwn 9 1 id w1 (spellL r).length (sv (spellL r)))) := Lib.hid fun w1 hb => rspell r w1 (ht.below hb)
  have hle := spellL_le r
  clear hr wr hs ht
  generalize spellL r = L at *
  go_enter Tryd.func3, Tryd.ntmps3
  go_wp2_with (first
    | (go_at_call 12; refine HS.out.mono ?_; rintro e w1 ⟨A1, c1, rfl, hown1, hbel1⟩)
    | (go_at_call 13; refine (HR.out _ hbel1).mono ?_; rintro e w2 ⟨A2, c2, rfl, hown2, hbel2⟩; have t2 := hbel1.trans (hbel2.mono hbel1.size))
    | (go_at_call 11; refine (same_t L L rfl _ _ _ _ _ _ _ _ _ rfl rfl (Rd.of_own (own_below hown1 hbel2)) (Rd.of_own hown2) (by first | omega | (simp only [List.length_cons, List.length_nil]; omega)) (by first | omega | (simp only [List.length_cons, List.length_nil]; omega))).mono ?_; rintro e w3 ⟨rfl, n3, rfl⟩)
    | (go_at_call 14; refine (HA.out _ (below_drewN t2)).mono ?_; rintro e w4 ⟨rfl, hbel4⟩))
  go_ret
  exact ⟨rfl, t2.trans ((below_of_drewN hbel4).mono t2.size)⟩
end Go.Proofs.YtoiballfjbdoiaaDoor
