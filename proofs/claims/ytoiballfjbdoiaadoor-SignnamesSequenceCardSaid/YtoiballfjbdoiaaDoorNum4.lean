/- numwords.Words. -/
import Derived.Test.YtoiballfjbdoiaaDoorNum3
namespace Go.Proofs.YtoiballfjbdoiaaDoor
open Go.RowKit
def segL (q x : Nat) : List Nat := if 0 < q then smallL q ++ [x] else []
def segE (q : Nat) : List Nat := if 0 < q then smallL q else []
def posL (k : Nat) : List Nat := segL (k / 1000000) 30 ++ segL (k % 1000000 / 1000) 29 ++ segE (k % 1000000 % 1000)
def wordsL (n : Int) : List Nat := if n = 0 then [0] else (if n < 0 then [31] else []) ++ posL n.natAbs
theorem segL_two (q x : Nat) : ((if 0 < q then (smallL q).length + 1 else 0) = (segL q x).length) ∧ ((if 0 < q then wv (smallL q) ++ [.string (wb x)] else []) = wv (segL q x)) := by
  unfold segL
  split <;> simp [wv]
theorem segE_two (q : Nat) : ((if 0 < q / 1 then (smallL (q / 1)).length + 0 else 0) = (segE q).length) ∧ ((if 0 < q / 1 then wv (smallL (q / 1)) ++ [] else []) = wv (segE q)) := by
  unfold segE
  rw [Nat.div_one]
  split <;> simp [wv]
theorem segL_le (q x : Nat) : (segL q x).length ≤ 5 := by
  have := smallL_le q
  unfold segL
  split <;> simp <;> omega
theorem posL_eq (m : Nat) : posL m = segL (m / 1000000) 30 ++ segL (m % 1000000 / 1000) 29 ++ segE (m % 1000000 % 1000) := rfl
theorem hown_size {B : Nat} {w w1 : World} {o : Obj} (h : Below B (w.alloc o) w1) : w.heap.size + 1 ≤ w1.heap.size := by
  have := h.size
  rwa [World.size_alloc] at this
abbrev okPair (v : Value) : Value := .tuple #[v, .int .i64 0]
set_option maxHeartbeats 400000 in
theorem words_range (n : Int) (h : n < -999999999 ∨ 999999999 < n) (w : World) :
    Calls Tryd.prog 26 #[.int .i64 n] w (Gives (.tuple #[.slice none 0 0, .int .i64 2]) w) := by
  rcases h with h | h
  · go_enter Tryd.func26, Tryd.ntmps26
    go_wp2
    go_ret2
    exact ⟨rfl, (Below.refl _ _).alloc (Nat.le_refl _) _⟩
  · have h' : ¬ n < -999999999 := by omega
    go_enter Tryd.func26, Tryd.ntmps26
    go_wp2
    go_ret2
    exact ⟨rfl, (Below.refl _ _).alloc (Nat.le_refl _) _⟩
set_option maxHeartbeats 400000 in
theorem words_zero (w : World) :
    Calls Tryd.prog 26 #[.int .i64 0] w (GivesOwn 9 1 okPair w 1 (wv [0])) := by
  go_enter Tryd.func26, Tryd.ntmps26
  go_wp2
  go_ret2
  refine ⟨_, _, rfl, ?_, ((Below.refl _ _).alloc (Nat.le_refl _) _).alloc (by simp) _⟩
  exact own_built (xs := [_]) (by simp) rfl (by omega) (by omega)
set_option maxHeartbeats 4000000 in
theorem words_other (n : Int) (h0 : n ≠ 0) (h1 : -999999999 ≤ n) (h2 : n ≤ 999999999) (w : World) :
    Calls Tryd.prog 26 #[.int .i64 n] w (GivesOwn 9 1 okPair w (wordsL n).length (wv (wordsL n))) := by
  have h3 : (n == 0) = false := by simp [h0]
  have hN := Lib.hid h0
  clear h0
  go_enter Tryd.func26, Tryd.ntmps26
  go_upto_if 16 with fail
  go_cut [] (fun wx => ∃ (A : Option Addr) (c : Nat), Blk wx w.heap.size 3 #[.int .i64 (n.natAbs : Int)] ∧ Blk wx (w.heap.size + 1) 23 #[.slice A (if n < 0 then [31] else []).length c] ∧
    wx.ownsRow (w.heap.size + 2) 9 1 (.slice A (if n < 0 then [31] else []).length c) (if n < 0 then [31] else []).length (wv (if n < 0 then [31] else [])) ∧ Below w.heap.size w wx)
  case first =>
    by_cases hn : n < 0
    · go_wp2_with fail
      go_region_law (refine app_step rfl _ _ _ rfl elt_str (w.heap.size + 2) _ rfl (own_nil _ _ _ _) _ _ rfl ((rd_built (by simp) rfl)) (rfl) (by omega) (by omega) (by first | (simp; done) | (simp; omega) | omega) ?_; intro A1 c1 w1 hown1 hbel1 hgr1 hat1; have z1 := hbel1.size; (try simp only [Nat.zero_add, List.nil_append] at hown1); have B0 : Blk w1 w.heap.size 3 #[.int .i64 n] := Blk.below (by exact ((Blk.new_ rfl).alloc _).alloc _) hbel1 (by omega); have B1 : Blk w1 (w.heap.size + 1) 23 #[.slice none 0 0] := Blk.below (by exact (Blk.new_ (by simp)).alloc _) hbel1 (by omega); have d0 := B0.cell 0; have d1 := B1.cell 0; have f0 := B0.frozen 0; have f1 := B1.frozen 0; simp at d0 d1)
      all_goals
        go_wp2_with fail
        go_meet
        rw [if_pos hn]
        have e0 : ((n.natAbs : Nat) : Int) = -n := by omega
        rw [e0]
        have hw : IntKind.i64.wrap (-n) = -n := IntWalk.i64_in _ (by omega)
        simp only [hw]
        have hb0 : Below w.heap.size w w1 := by
          refine Below.trans (b := _) ?_ (hbel1.mono (by omega))
          (repeat (first | exact Below.refl _ _ | assumption | refine Below.drew ?_ | refine Below.alloc ?_ (by first | (simp; done) | (simp; omega) | omega) _ | refine Below.setCell ?_ (by first | (simp; done) | (simp; omega) | omega) _))
        refine ⟨A1, c1, ?_, ?_, ?_, ?_⟩
        · first
            | (simpa using (B0.far (p := ⟨w.heap.size + 1, 0, none⟩) (by simp) _).set_ 0 (.int .i64 (-n)))
            | (simpa using (B0.set_ 0 (.int .i64 (-n))).far (p := ⟨w.heap.size + 1, 0, none⟩) (by simp) _)
        · first
            | (simpa using (B1.far (p := ⟨w.heap.size, 0, none⟩) (by simp) _).set_ 0 (.slice A1 1 c1))
            | (simpa using (B1.set_ 0 (.slice A1 1 c1)).far (p := ⟨w.heap.size, 0, none⟩) (by simp) _)
        · exact ownsRow_setCell_below (ownsRow_setCell_below hown1 (by simp) _) (by simp) _
        · exact (hb0.setCell (by simp) _).setCell (by simp) _
    · go_wp2_with fail
      go_meet
      rw [if_neg (by omega)]
      have e0 : ((n.natAbs : Nat) : Int) = n := by omega
      rw [e0]
      exact ⟨none, 0, (Blk.new_ rfl).alloc _, Blk.new_ (by simp), own_nil _ _ _ _, ((Below.refl _ _).alloc (Nat.le_refl _) _).alloc (by simp) _⟩
  case rest =>
    obtain ⟨A, c, hB0, hB1, hown, hbel⟩ := hcut
    obtain ⟨wa, rfl⟩ : ∃ x : World, x = wc := ⟨_, rfl⟩
    have hW : Hid (wordsL n = (if n < 0 then [31] else []) ++ posL n.natAbs) := Lib.hid (by unfold wordsL; rw [if_neg hN.out])
    have hm : n.natAbs ≤ 999999999 := by omega
    have hl : (if n < 0 then [31] else [] : List Nat).length ≤ 1 := by split <;> simp
    generalize (if n < 0 then [31] else [] : List Nat) = l0 at *
    generalize n.natAbs = m at *
    have z0 := hB1.lt
    go_wp2_with fail
    refine (group m 1000000 (by omega) (by omega) (by omega) _ 1 1 [.string (wb 30)] w.heap.size _ _ (w.heap.size + 2) A l0.length c (wv l0) _ rfl ?_ (by omega) (by first | (simp; done) | (simp; omega) | omega) (by omega) (rd_built rfl rfl |>.more (by first | (simp; done) | (simp; omega) | omega)) (hB0.alloc _) (hB1.alloc _) (by omega) (by omega) (by omega) (by omega) (by omega) (hown.alloc _)).mono ?_
    · intro b o e
      injection e with e
      injection e with e1
      subst e1
      intro e2
      exact absurd (hown.lt _ e2).2 (by omega)
    rintro e w1 ⟨rfl, A1, c1, hB01, hB11, hown1, hbel1⟩
    have hG1 : ((if 0 < m / 1000000 then (smallL (m / 1000000)).length + 1 else 0) = (segL (m / 1000000) 30).length) ∧ ((if 0 < m / 1000000 then wv (smallL (m / 1000000)) ++ [.string (wb 30)] else []) = wv (segL (m / 1000000) 30)) := segL_two _ _
    rw [hG1.1] at hB11 hown1
    rw [hG1.2] at hown1
    have hq1 := segL_le (m / 1000000) 30
    have hP := Lib.hid (posL_eq m)
    generalize segL (m / 1000000) 30 = l1 at *
    clear hG1
    have hm1 : m % 1000000 < 1000000 := by omega
    generalize m % 1000000 = m1 at *
    have z1 : wa.heap.size + 1 ≤ w1.heap.size := hown_size hbel1
    clear hown hB0 hB1
    go_wp2_with fail
    refine (group m1 1000 (by omega) (by omega) (by omega) _ 1 1 [.string (wb 29)] w.heap.size _ _ (w.heap.size + 2) A1 (l0.length + l1.length) c1 (wv l0 ++ wv l1) _ rfl ?_ (by omega) (by first | (simp; done) | (simp; omega) | omega) (by omega) (rd_built rfl rfl |>.more (by first | (simp; done) | (simp; omega) | omega)) (hB01.alloc _) (hB11.alloc _) (by omega) (by omega) (by omega) (by omega) (by omega) (hown1.alloc _)).mono ?_
    · intro b o e
      injection e with e
      injection e with e1
      subst e1
      intro e2
      exact absurd (hown1.lt _ e2).2 (by omega)
    rintro e w2 ⟨rfl, A2, c2, hB02, hB12, hown2, hbel2⟩
    have hG2 : ((if 0 < m1 / 1000 then (smallL (m1 / 1000)).length + 1 else 0) = (segL (m1 / 1000) 29).length) ∧ ((if 0 < m1 / 1000 then wv (smallL (m1 / 1000)) ++ [.string (wb 29)] else []) = wv (segL (m1 / 1000) 29)) := segL_two _ _
    rw [hG2.1] at hB12 hown2
    rw [hG2.2] at hown2
    have hq2 := segL_le (m1 / 1000) 29
    generalize segL (m1 / 1000) 29 = l2 at *
    clear hG2
    have hm2 : m1 % 1000 < 1000 := by omega
    generalize m1 % 1000 = m2 at *
    have z2 : w1.heap.size + 1 ≤ w2.heap.size := hown_size hbel2
    clear hown1 hB01 hB11
    go_wp2_with fail
    refine (group m2 1 (by omega) (by omega) (by omega) _ 0 0 [] w.heap.size _ _ (w.heap.size + 2) A2 (l0.length + l1.length + l2.length) c2 (wv l0 ++ wv l1 ++ wv l2) _ rfl ?_ (by omega) (by first | (simp; done) | (simp; omega) | omega) (by omega) Rd.none_ hB02 hB12 (by omega) (by omega) (by omega) (by omega) (by omega) hown2).mono ?_
    · intro b o e
      cases e
    rintro e w3 ⟨rfl, A3, c3, hB03, hB13, hown3, hbel3⟩
    have hG3 : ((if 0 < m2 / 1 then (smallL (m2 / 1)).length + 0 else 0) = (segE m2).length) ∧ ((if 0 < m2 / 1 then wv (smallL (m2 / 1)) ++ [] else []) = wv (segE m2)) := segE_two _
    rw [hG3.1] at hB13 hown3
    rw [hG3.2] at hown3
    have d3 := hB13.cell 0
    simp at d3
    go_wp2_with fail
    go_ret2
    rw [hW.out, hP.out]
    refine ⟨A3, c3, by simp [okPair, Nat.add_assoc], ?_, ((hbel.alloc (by first | (simp; done) | (simp; omega) | omega) _).trans hbel1).trans ((((Below.refl _ _).alloc (by first | (simp; done) | (simp; omega) | omega) _).trans hbel2).trans hbel3)⟩
    have := own_less (base' := w.heap.size) hown3 (by omega)
    simpa [wv_append, Nat.add_assoc] using this
theorem words_in (n : Int) (h1 : -999999999 ≤ n) (h2 : n ≤ 999999999) (w : World) :
    Calls Tryd.prog 26 #[.int .i64 n] w (GivesOwn 9 1 okPair w (wordsL n).length (wv (wordsL n))) := by
  by_cases h0 : n = 0
  · subst h0
    exact words_zero w
  · exact words_other n h0 h1 h2 w
theorem wordsL_le (n : Int) : (wordsL n).length ≤ 15 := by
  unfold wordsL
  split
  · simp
  · have a := segL_le (n.natAbs / 1000000) 30
    have b := segL_le (n.natAbs % 1000000 / 1000) 29
    have c : (segE (n.natAbs % 1000000 % 1000)).length ≤ 4 := by
      unfold segE
      split
      · exact smallL_le _
      · simp
    rw [List.length_append, posL_eq, List.length_append, List.length_append]
    have d : (if n < 0 then [31] else [] : List Nat).length ≤ 1 := by split <;> simp
    omega
theorem wv_sv (l : List Nat) : wv l = sv (l.map wb) := by simp [wv, sv]
end Go.Proofs.YtoiballfjbdoiaaDoor
