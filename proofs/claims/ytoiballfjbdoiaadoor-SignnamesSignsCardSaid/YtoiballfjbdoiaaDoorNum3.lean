/- The closure of numwords.Words. -/
import Derived.Test.YtoiballfjbdoiaaDoorNum2
import Derived.Deep.RegionLaw
namespace Go.Proofs.YtoiballfjbdoiaaDoor
open Go.RowKit
/-- What the closure leaves: the number's rest, the words behind those that were there. -/
def GroupPost (k s wn : Nat) (word : List Value) (B bn bl base n : Nat) (xs : List Value) (w : World) (e : Ending) (w' : World) : Prop :=
  e = .returned (.tuple #[]) ∧
      ∃ A' c', Blk w' bn 3 #[.int .i64 ((k % s : Nat) : Int)] ∧ Blk w' bl 23 #[.slice A' (n + (if 0 < k / s then (smallL (k / s)).length + wn else 0)) c'] ∧
        w'.ownsRow base 9 1 (.slice A' (n + (if 0 < k / s then (smallL (k / s)).length + wn else 0)) c') (n + (if 0 < k / s then (smallL (k / s)).length + wn else 0)) (xs ++ (if 0 < k / s then wv (smallL (k / s)) ++ word else [])) ∧ Below B w w'
set_option maxHeartbeats 400000 in
theorem group (k s : Nat) (hs : 0 < s) (hn : k < s * 1000) (hk : k < 1000000000) (W : Option Addr) (wn wc : Nat) (word : List Value) (B bn bl base : Nat) (A : Option Addr) (n c : Nat) (xs : List Value) (w : World)
    (hw1 : word.all Value.oneCell' = true) (hdis : ∀ b o, W = some ⟨b, o, none⟩ → (Value.slice A n c).ownBlock ≠ some b) (hwn : wn ≤ 1) (h5 : base ≤ w.heap.size) (hnn : n ≤ 20)
    (hW : Rd w w.heap.size 1 W wn word) (hbn : Blk w bn 3 #[.int .i64 k]) (hbl : Blk w bl 23 #[.slice A n c]) (hne : bn ≠ bl) (h1 : B ≤ bn) (h2 : B ≤ bl) (h3 : bn < base) (h4 : bl < base)
    (hown : w.ownsRow base 9 1 (.slice A n c) n xs) :
    Calls Tryd.prog 34 #[.int .i64 s, .slice W wn wc, .pointer (some ⟨bn, 0, none⟩), .pointer (some ⟨bl, 0, none⟩)] w (GroupPost k s wn word B bn bl base n xs w) := by
  have hq : k / s < 1000 := Nat.div_lt_of_lt_mul hn
  have cn := hbn.cell 0
  have cl := hbl.cell 0
  have fn := hbn.frozen 0
  have fl := hbl.frozen 0
  simp at cn cl
  by_cases h0 : 0 < k / s
  · have HC : ∀ w : World, Calls Tryd.prog 35 #[.int .i64 ((k : Int) / (s : Int))] w (GivesOwn 9 1 id w (smallL (k / s)).length (wv (smallL (k / s)))) := fun w => by
      have := small (k / s) hq w
      rwa [Int.natCast_ediv] at this
    have hL := smallL_le (k / s)
    have HP : Hid (∀ e w', GroupPost k s wn word B bn bl base n xs w e w' = (e = .returned (.tuple #[]) ∧ ∃ A' c', Blk w' bn 3 #[.int .i64 ((k % s : Nat) : Int)] ∧ Blk w' bl 23 #[.slice A' (n + ((smallL (k / s)).length + wn)) c'] ∧
        w'.ownsRow base 9 1 (.slice A' (n + ((smallL (k / s)).length + wn)) c') (n + ((smallL (k / s)).length + wn)) (xs ++ (wv (smallL (k / s)) ++ word)) ∧ Below B w w')) := Lib.hid fun e w' => by
      unfold GroupPost
      rw [if_pos h0, if_pos h0]
    generalize smallL (k / s) = L at *
    have HC' := Lib.hid HC
    clear HC
    go_enter Tryd.func34, Tryd.ntmps34
    go_wp2_with fail
    go_region_law (first
        | (go_simp; go_at_call 35; refine (HC'.out _).mono ?_; rintro e w1 ⟨A1, c1, rfl, hown1, hbel1⟩; have z1 : w.heap.size ≤ w1.heap.size := hbel1.size; have hW1 : Rd w1 w.heap.size 1 W wn word := Rd.below (w := w.drew) hW hbel1; have B1 := Blk.below (w := w.drew) hbl hbel1 hbl.lt; have b1c := B1.cell 0; simp at b1c)
        | (refine app_step rfl _ _ _ rfl elt_str (base) _ rfl (hown2) _ _ rfl ((hW1.grown hgr2 z1 hdis)) (hw1) (by omega) (by omega) (by first | (simp; done) | (simp; omega) | omega) ?_; intro A3 c3 w3 hown3 hbel3 hgr3 hat3; have z3 := hbel3.size; (try simp only [Nat.zero_add, List.nil_append] at hown3); have B3 := B2.below hbel3 h4; have b3c := B3.cell 0; have b3f := B3.frozen 0; simp at b3c)
        | (refine app_step rfl _ _ _ rfl elt_str (base) _ rfl (own_below (w := w.drew) hown hbel1) _ _ rfl ((Rd.of_own hown1)) ((wv_one _)) (by omega) (by omega) (by first | (simp; done) | (simp; omega) | omega) ?_; intro A2 c2 w2 hown2 hbel2 hgr2 hat2; have z2 := hbel2.size; (try simp only [Nat.zero_add, List.nil_append] at hown2); have B2 := B1.below hbel2 h4; have b2c := B2.cell 0; simp at b2c))
    all_goals
      have hbn3 : Blk w3 bn 3 #[.int .i64 k] := ((Blk.below (w := w.drew) hbn hbel1 hbn.lt).below (hbel2.trans hbel3) h3)
      have hbn4 := hbn3.far (p := ⟨bl, 0, none⟩) hne (.slice A3 (n + L.length + wn) c3)
      have d1 := hbn4.cell 0
      have d2 := hbn4.frozen 0
      simp at d1
      have hb0 : Below B w w3 := (below_of_drew (Below.mono hbel1 (by have := hbl.lt; show B ≤ w.heap.size; omega))).trans ((hbel2.trans hbel3).mono (by omega))
      go_wp2
      go_end0
      rw [HP.out]
      refine ⟨rfl, A3, c3, by simpa using hbn4.set_ 0 (.int .i64 (k % s)), by simpa [Nat.add_assoc] using (B3.set_ 0 (.slice A3 (n + L.length + wn) c3)).far (p := ⟨bn, 0, none⟩) (Ne.symm hne) _, ?_, (hb0.setCell h2 _).setCell h1 _⟩
      have hx := ownsRow_setCell_below (ownsRow_setCell_below hown3 (a := ⟨bl, 0, none⟩) h4 (.slice A3 (n + L.length + wn) c3)) (a := ⟨bn, 0, none⟩) h3 (.int .i64 (k % s))
      simpa [Nat.add_assoc] using hx
  · have e0 : k / s = 0 := Nat.eq_zero_of_not_pos h0
    have e1 : k % s = k := by have := Nat.div_add_mod k s; rw [e0] at this; simpa using this
    have e0' : (k : Int) / (s : Int) = 0 := by rw [← Int.natCast_ediv, e0]; rfl
    have e1' : (k : Int) % (s : Int) = k := by rw [← Int.natCast_emod, e1]
    have E1 := Lib.hid e1'
    clear e1'
    go_enter Tryd.func34, Tryd.ntmps34
    go_wp2
    go_end0
    unfold GroupPost
    rw [if_neg h0, if_neg h0, e1]
    exact ⟨rfl, A, c, by simpa using hbn, by simpa using hbl, by simpa using hown, Below.refl _ _⟩
end Go.Proofs.YtoiballfjbdoiaaDoor
