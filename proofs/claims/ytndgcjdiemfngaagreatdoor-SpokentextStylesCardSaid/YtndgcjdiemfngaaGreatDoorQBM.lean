/- Joined texts: SxS. -/
import Derived.Test.YtndgcjdiemfngaaGreatDoorQBG
import Derived.Test.YtndgcjdiemfngaaGreatDoorQBI
import Derived.Test.YtndgcjdiemfngaaGreatDoorQBL
set_option linter.unusedVariables false
set_option linter.unusedSimpArgs false
set_option linter.unnecessarySimpa false
/- Layer 40's statement Styles. -/
namespace Go.Proofs.YtndgcjdiemfngaaGreatDoor
open Go.RowKit
set_option maxRecDepth 20000
/-- Glyphs, the first j of them in a style. -/
def stTo (k : Int) (j : Nat) (l : List Gl) : List Gl := (l.take j).map (inSt k) ++ l.drop j
theorem stTo_len (k : Int) (j : Nat) (l : List Gl) : (stTo k j l).length = l.length := by
  unfold stTo
  rw [List.length_append, List.length_map, ← List.length_append, List.take_append_drop]
theorem stTo_zero (k : Int) (l : List Gl) : stTo k 0 l = l := by simp [stTo]
theorem stTo_all (k : Int) (l : List Gl) : stTo k l.length l = l.map (inSt k) := by simp [stTo]
theorem encGs_style : ∀ (l : List Gl) (j : Nat) (hj : j < l.length) (k : Int), (encGs l).set (j * 3 + 2) (.int .i64 k) = encGs (l.set j (inSt k l[j]))
  | g :: t, 0, _, k => by
    rw [encGs_cons, List.set_cons_zero, encGs_cons]
    rfl
  | g :: t, j + 1, hj, k => by
    have ih := encGs_style t j (by simpa using hj) k
    rw [encGs_cons, List.set_cons_succ, encGs_cons, show (j + 1) * 3 + 2 = (encG g).length + (j * 3 + 2) by rw [encG_len]; omega, List.set_append_right _ _ (by omega), Nat.add_sub_cancel_left, ih]
    rfl
theorem stTo_step (k : Int) (l : List Gl) (j : Nat) (hj : j < l.length) : (stTo k j l).set j (inSt k ((stTo k j l)[j]'(by rw [stTo_len]; exact hj))) = stTo k (j + 1) l := by
  have h1 : ((l.take j).map (inSt k)).length = j := by rw [List.length_map, List.length_take]; omega
  have h2 : (stTo k j l)[j]'(by rw [stTo_len]; exact hj) = l[j] := by
    simp only [stTo]
    rw [List.getElem_append_right (by omega)]
    simp [List.getElem_drop, show min j l.length = j by omega]
  rw [h2]
  unfold stTo
  rw [List.set_append_right _ _ (by omega), h1, Nat.sub_self, List.drop_eq_getElem_cons hj, List.set_cons_zero, (List.take_append_getElem hj).symm, List.map_append, List.append_assoc]
  rfl
theorem encTo_step (k : Int) (l : List Gl) (j : Nat) (hj : j < l.length) : (encGs (stTo k j l)).set (j * 3 + 2) (.int .i64 k) = encGs (stTo k (j + 1) l) := by
  rw [encGs_style _ j (by rw [stTo_len]; exact hj), stTo_step k l j hj]
theorem own_some {w : World} {base n c : Nat} {e : TypeId} {size : Nat} {A : Option Addr} {xs : List Value} (h : w.ownsRow base e size (.slice A n c) n xs) (hn : 0 < n) : ∃ G, A = some ⟨G, 0, none⟩ ∧ base ≤ G ∧ G < w.heap.size := by
  rcases h.2 with ⟨h0, _⟩ | ⟨g, cap, cur, hv, h1, h2, h3, h4, h5, h6⟩
  · injection h0 with _ h0 _; omega
  · injection hv with hA _ _
    exact ⟨g, hA, h1, Blk.lt h2⟩
/-- Two rows, each with j glyphs in its style. -/
def TwoR (w w2 w4 X : World) (Ga Gb n ca cb : Nat) (k : Int) (l : List Gl) (j : Nat) (wr : World) : Prop :=
  wr.ownsRow w2.heap.size 41 3 (.slice (some ⟨Ga, 0, none⟩) n ca) n (encGs (stTo 0 j l)) ∧ wr.ownsRow w4.heap.size 41 3 (.slice (some ⟨Gb, 0, none⟩) n cb) n (encGs (stTo k j l)) ∧ Below w.heap.size w wr ∧ Below X.heap.size X wr ∧ w4.heap.size ≤ wr.heap.size
theorem TwoR.step {w w2 w4 X wr : World} {Ga Gb n ca cb : Nat} {k : Int} {l : List Gl} {j : Nat} (h : TwoR w w2 w4 X Ga Gb n ca cb k l j wr) (hl : l.length = n) (hj : j < n) (ha : Ga < w4.heap.size) (hb : w4.heap.size ≤ Gb) (hXa : X.heap.size ≤ Ga) (hwX : w.heap.size ≤ X.heap.size) :
    TwoR w w2 w4 X Ga Gb n ca cb k l (j + 1) ((wr.setCell ⟨Ga, j * 3 + 2, none⟩ (.int .i64 0)).setCell ⟨Gb, j * 3 + 2, none⟩ (.int .i64 k)) := by
  obtain ⟨o1, o2, h1, h2, h3⟩ := h
  have p1 := own_cell o1 (i := j * 3 + 2) (by omega) (.int .i64 0)
  rw [encTo_step 0 l j (by omega)] at p1
  have p2 := own_set o2 (p := ⟨Ga, j * 3 + 2, none⟩) ha (.int .i64 0)
  have p3 := own_cell p2 (i := j * 3 + 2) (by omega) (.int .i64 k)
  rw [encTo_step k l j (by omega)] at p3
  have q1 : Below w4.heap.size (wr.setCell ⟨Ga, j * 3 + 2, none⟩ (.int .i64 0)) ((wr.setCell ⟨Ga, j * 3 + 2, none⟩ (.int .i64 0)).setCell ⟨Gb, j * 3 + 2, none⟩ (.int .i64 k)) := Below.setCell (p := ⟨Gb, j * 3 + 2, none⟩) (Below.refl _ _) hb _
  refine ⟨own_under p1 q1 (fun m hm => (show Ga = m by simpa [Value.ownBlock] using hm) ▸ ha), p3, ?_, ?_, ?_⟩
  · exact Below.setCell (p := ⟨Gb, j * 3 + 2, none⟩) (Below.setCell (p := ⟨Ga, j * 3 + 2, none⟩) h1 (by show w.heap.size ≤ Ga; omega) _) (by show w.heap.size ≤ Gb; omega) _
  · exact Below.setCell (p := ⟨Gb, j * 3 + 2, none⟩) (Below.setCell (p := ⟨Ga, j * 3 + 2, none⟩) h2 hXa _) (by show X.heap.size ≤ Gb; omega) _
  · simp [World.setCell]; exact h3
theorem TwoR.cells {w w2 w4 X wr : World} {Ga Gb n ca cb : Nat} {k : Int} {l : List Gl} {j : Nat} (h : TwoR w w2 w4 X Ga Gb n ca cb k l j wr) (hl : l.length = n) (hj : j < n) :
    (∃ u, wr.cell? ⟨Ga, j * 3 + 2, none⟩ = some u) ∧ wr.frozen? ⟨Ga, j * 3 + 2, none⟩ = false ∧ (∃ u, wr.cell? ⟨Gb, j * 3 + 2, none⟩ = some u) ∧ wr.frozen? ⟨Gb, j * 3 + 2, none⟩ = false ∧ n ≤ ca ∧ ca ≤ maxLen ∧ n ≤ cb ∧ cb ≤ maxLen := by
  obtain ⟨o1, o2, h1, h2, h3⟩ := h
  obtain ⟨_, a2, a3, _, a4⟩ := own_blk o1
  obtain ⟨_, b2, b3, _, b4⟩ := own_blk o2
  obtain ⟨B1, O1, e1, _, _, _, c1⟩ := rd_gl (Rd.of_own o1) (k := j) (by rw [stTo_len]; omega) (by rw [stTo_len]; exact hl)
  obtain ⟨B2, O2, e2, _, _, _, c2⟩ := rd_gl (Rd.of_own o2) (k := j) (by rw [stTo_len]; omega) (by rw [stTo_len]; exact hl)
  simp only [Option.some.injEq, Addr.mk.injEq, and_true] at e1 e2
  obtain ⟨rfl, rfl⟩ := e1
  obtain ⟨rfl, rfl⟩ := e2
  rw [Nat.zero_add] at c1 c2
  exact ⟨⟨_, c1⟩, a4.frozen _, ⟨_, c2⟩, b4.frozen _, a2, a3, b2, b3⟩
set_option maxHeartbeats 4000000 in
theorem law_SpokentextStyles (w : World) (hg : Gd w) (A : Option Addr) (n c : Nat) (l : List Gl) (hn : l.length = n) (hc : n ≤ c) (hm : c ≤ maxLen) (rd : Rd w w.heap.size 3 A n (encGs l)) (hs : ∀ g ∈ l, g.text.size ≤ maxLen ∧ (Lit.int .i64 g.style).wf = true) (r : Int) (d sp : Bool) (q : Int) (co : Bool) (k : Int) (wr : (Lit.int .i64 r).wf = true) (wq : (Lit.int .i64 q).wf = true) (wk : (Lit.int .i64 k).wf = true) (st : Int) (wst : (Lit.int .u8 st).wf = true) :
    Calls Tryz.prog 7 #[.slice A n c, stV r d sp q co k, .int .u8 st] w (Gives (.bool true) w) := by
  have hst : 0 ≤ st ∧ st ≤ 255 := by simpa [Lit.wf, IntKind.min, IntKind.max, IntKind.signed, IntKind.bits] using wst
  obtain ⟨hst0, hst1⟩ := hst
  have HRd := Lib.hid rd
  have hgd := Lib.hid hg
  subst hn
  have HA : Hid (∀ w', Below w.heap.size w w' → Calls Tryz.prog 13 #[] w' fun e w'' => e = .returned (.bool true) ∧ Below w.heap.size w w'') := Lib.hid fun w' hw => (awake_ w' (hg.below hw)).mono fun e w'' ⟨h1, h2⟩ => ⟨h1, hw.trans (h2.mono hw.size)⟩
  have HPr : Hid (∀ w', Below w.heap.size w w' → Calls Tryz.prog 11 #[.slice A l.length c] w' fun e w'' => e = .returned (.bool (properB l)) ∧ Below w.heap.size w w'' ∧ Below w'.heap.size w' w'') := Lib.hid fun w' hw => (proper_ l A _ c w.heap.size w' (by unfold maxLen at *; omega) (fun g hg => (hs g hg).1) (rd.below hw) hw.size).mono fun e w'' ⟨h1, h2⟩ => ⟨h1, hw.trans (h2.mono hw.size), h2⟩
  have HCk : Hid (∀ w', Below w.heap.size w w' → Calls Tryz.prog 23 #[stV r d sp q co k] w' fun e w'' => e = .returned (.int .i64 (setE r q k)) ∧ Below w.heap.size w w'' ∧ Below w'.heap.size w' w'') := Lib.hid fun w' hw => (check_s r d sp q co k w').mono fun e w'' ⟨h1, h2⟩ => ⟨h1, hw.trans (h2.mono hw.size), h2⟩
  have HW : Hid (properB l = true → ∀ w', Below w.heap.size w w' → Calls Tryz.prog 15 #[.slice A l.length c, stV r d sp q co k] w' fun e w'' => ∃ A2 c2, e = .returned (.slice A2 (spokenWords l ⟨d, sp, q⟩).length c2) ∧ w''.ownsRow w'.heap.size 9 1 (.slice A2 (spokenWords l ⟨d, sp, q⟩).length c2) (spokenWords l ⟨d, sp, q⟩).length (sv (spokenWords l ⟨d, sp, q⟩)) ∧ Below w.heap.size w w'' ∧ Below w'.heap.size w' w'') := Lib.hid fun hp w' hw => by
    have hg' := hg.below hw
    exact (words_ l A _ c w.heap.size r d sp q co k w' hg'.1 hg'.2.1 hg'.2.2 (Nat.le_trans (properB_all hp).1 (by decide)) hc hm (GW_plain hp) (rd.below hw) hw.size).mono fun e w'' ⟨A, c, he, ho, hb⟩ => ⟨A, c, he, ho, hw.trans (hb.mono hw.size), hb⟩
  have HGl : Hid (properB l = true → ∀ w' A2 c2, Below w.heap.size w w' → (∃ B, w'.ownsRow B 9 1 (.slice A2 (spokenWords l ⟨d, sp, q⟩).length c2) (spokenWords l ⟨d, sp, q⟩).length (sv (spokenWords l ⟨d, sp, q⟩))) → Calls Tryz.prog 18 #[.slice A2 (spokenWords l ⟨d, sp, q⟩).length c2] w' fun e w'' => ∃ A c, e = .returned (.tuple #[.slice A l.length c, .int .i64 0]) ∧ w''.ownsRow w'.heap.size 41 3 (.slice A l.length c) l.length (encGs l) ∧ Below w.heap.size w w'' ∧ Below w'.heap.size w' w'') := Lib.hid fun hp w' A2 c2 hw ⟨B, ho⟩ => by
    have hg' := hg.below hw
    have hnc := own_caps ho
    have hbd := words_bounds l ⟨d, sp, q⟩ (properB_all hp).1 fun x hx => ((properB_all hp).2 x hx).2.2
    have h := glyphs_ _ A2 _ c2 w' rfl hnc.1 hnc.2 (Rd.of_own ho) hbd.2 hbd.1 hg'.1 hg'.2.1 hg'.2.2
    rw [round_proper hp] at h
    exact h.mono fun e w'' ⟨h1, A, c, h2, h3⟩ => ⟨A, c, h2, h3, hw.trans (h1.mono hw.size), h1⟩
  have HSR : Hid (properB l = true → ∀ w' A3 c3, Below w.heap.size w w' → (∃ B, w'.ownsRow B 41 3 (.slice A3 l.length c3) l.length (encGs l)) → Calls Tryz.prog 20 #[.slice A3 l.length c3, .slice A l.length c] w' fun e w'' => e = .returned (.bool true) ∧ Below w.heap.size w w'') := Lib.hid fun hp w' A3 c3 hw ⟨B, ho⟩ => by
    have h := rsamerow l l A3 A l.length l.length c3 c w'.heap.size w' (Nat.le_trans (properB_all hp).1 (by decide)) (Rd.of_own ho) ((rd.below hw).more hw.size)
    rw [decide_eq_true rfl] at h
    exact h.mono fun e w'' h => ⟨h.gives.1, hw.trans (h.gives.2.mono hw.size)⟩
  clear rd hs hg
  cases hp : properB l with
  | false =>
    rw [hp] at HPr
    clear hp
    go_enter Tryz.func7, Tryz.ntmps7
    go_upto_region 1 with fail
    refine wp_fg (fun X => StBox X r d sp q co k w.heap.size ∧ Below w.heap.size w X ∧ X.heap.size = w.heap.size + 1) ⟨StBox.new w r d sp q co k 24, (Below.refl _ _).alloc (Nat.le_refl _) _, by simp⟩ ?_
    rintro X ⟨hst, hbX, hzX⟩
    have HSt : Hid (∀ w', Below X.heap.size X w' → StBox w' r d sp q co k w.heap.size) := Lib.hid fun w' h => hst.below h (by omega)
    clear hst hzX
    go_wp2_with (first | (go_at_call 11; refine (HPr.out _ hbX).mono ?_; rintro e w1 ⟨rfl, hb1, hX1⟩; obtain ⟨_, _, _, _, _, _⟩ := HSt.out _ hX1) | (go_at_call 23; refine (HCk.out _ hb1).mono ?_; rintro e w2 ⟨rfl, hb2, hx2⟩; have hX2 := hX1.trans (hx2.mono hX1.size); obtain ⟨_, _, _, _, _, _⟩ := HSt.out _ hX2) | (go_at_call 13; refine (HA.out _ (by assumption)).mono ?_; rintro e wa ⟨rfl, hba⟩))
    go_ret
    exact ⟨rfl, hba⟩
  | true =>
    by_cases hl0 : l.length = 0
    · have i0 : ((l.length : Int) == 0) = true := by simp [hl0]
      rw [hp] at HPr
      clear hp hl0
      go_enter Tryz.func7, Tryz.ntmps7
      go_upto_region 1 with fail
      refine wp_fg (fun X => StBox X r d sp q co k w.heap.size ∧ Below w.heap.size w X ∧ X.heap.size = w.heap.size + 1) ⟨StBox.new w r d sp q co k 24, (Below.refl _ _).alloc (Nat.le_refl _) _, by simp⟩ ?_
      rintro X ⟨hst, hbX, hzX⟩
      have HSt : Hid (∀ w', Below X.heap.size X w' → StBox w' r d sp q co k w.heap.size) := Lib.hid fun w' h => hst.below h (by omega)
      clear hst hzX
      go_wp2_with (first | (go_at_call 11; refine (HPr.out _ hbX).mono ?_; rintro e w1 ⟨rfl, hb1, hX1⟩; obtain ⟨_, _, _, _, _, _⟩ := HSt.out _ hX1) | (go_at_call 23; refine (HCk.out _ hb1).mono ?_; rintro e w2 ⟨rfl, hb2, hx2⟩; have hX2 := hX1.trans (hx2.mono hX1.size); obtain ⟨_, _, _, _, _, _⟩ := HSt.out _ hX2) | (go_at_call 13; refine (HA.out _ (by assumption)).mono ?_; rintro e wa ⟨rfl, hba⟩))
      go_ret
      exact ⟨rfl, hba⟩
    · have i0 : ((l.length : Int) == 0) = false := beq_eq_false_iff_ne.2 (by omega)
      by_cases hbad : BadS r q k
      · rw [hp] at HPr
        rw [setE_bad hbad] at HCk
        clear hp hbad hl0
        go_enter Tryz.func7, Tryz.ntmps7
        go_upto_region 1 with fail
        refine wp_fg (fun X => StBox X r d sp q co k w.heap.size ∧ Below w.heap.size w X ∧ X.heap.size = w.heap.size + 1) ⟨StBox.new w r d sp q co k 24, (Below.refl _ _).alloc (Nat.le_refl _) _, by simp⟩ ?_
        rintro X ⟨hst, hbX, hzX⟩
        have HSt : Hid (∀ w', Below X.heap.size X w' → StBox w' r d sp q co k w.heap.size) := Lib.hid fun w' h => hst.below h (by omega)
        clear hst hzX
        go_wp2_with (first | (go_at_call 11; refine (HPr.out _ hbX).mono ?_; rintro e w1 ⟨rfl, hb1, hX1⟩; obtain ⟨_, _, _, _, _, _⟩ := HSt.out _ hX1) | (go_at_call 23; refine (HCk.out _ hb1).mono ?_; rintro e w2 ⟨rfl, hb2, hx2⟩; have hX2 := hX1.trans (hx2.mono hX1.size); obtain ⟨_, _, _, _, _, _⟩ := HSt.out _ hX2) | (go_at_call 13; refine (HA.out _ (by assumption)).mono ?_; rintro e wa ⟨rfl, hba⟩))
        go_ret
        exact ⟨rfl, hba⟩
      · rw [setE_ok hbad] at HCk
        have h60 := (properB_all hp).1
        have hnil : l ≠ [] := fun e => hl0 (by rw [e]; rfl)
        have hpos : 0 < l.length := by omega
        obtain ⟨n, hnl⟩ : ∃ n, n = l.length := ⟨_, rfl⟩
        have hK : ∃ K : Int, (K = 1 ∨ K = 2) ∧ 1 + st % 2 = K := ⟨1 + st % 2, by omega, rfl⟩
        obtain ⟨K, hK12, hKe⟩ := hK
        rw [hp] at HPr
        go_enter Tryz.func7, Tryz.ntmps7
        go_upto_region 1 with fail
        refine wp_fg (fun X => StBox X r d sp q co k w.heap.size ∧ Below w.heap.size w X ∧ X.heap.size = w.heap.size + 1) ⟨StBox.new w r d sp q co k 24, (Below.refl _ _).alloc (Nat.le_refl _) _, by simp⟩ ?_
        rintro X ⟨hst, hbX, hzX⟩
        have HSt : Hid (∀ w', Below X.heap.size X w' → StBox w' r d sp q co k w.heap.size) := Lib.hid fun w' h => hst.below h (by omega)
        clear hst hzX
        go_upto_region 5 with (first
          | (go_at_call 11; refine (HPr.out _ hbX).mono ?_; rintro e w1 ⟨rfl, hb1, hX1⟩; obtain ⟨_, _, _, _, _, _⟩ := HSt.out _ hX1)
          | (go_at_call 23; refine (HCk.out _ hb1).mono ?_; rintro e w2 ⟨rfl, hb2, hx2⟩; have hX2 := hX1.trans (hx2.mono hX1.size); obtain ⟨_, _, _, _, _, _⟩ := HSt.out _ hX2)
          | (at_builtin; refine app_list rfl _ _ _ rfl elt_gl (w2.heap.size) _ rfl (own_built (xs := []) rfl rfl (Nat.le_refl _) (by omega)) _ _ rfl ((HRd.out.below (hb2.alloc hb2.size _))) (by first | rfl | exact encGs_cells _) (by omega) (by omega) (by first | (simp; done) | (simp; omega) | omega) ?_; intro A4 c4 w4 hown4 hbel4 hgr4 hat4; have z4 := hbel4.size; (try simp only [World.size_alloc] at z4); (try simp only [Nat.zero_add, List.nil_append] at hown4)); have hb4 : Below w.heap.size w w4 := (hb2.alloc hb2.size _).trans (hbel4.mono hb2.size)
          | (at_builtin; refine app_list rfl _ _ _ rfl elt_gl (w4.heap.size) _ rfl (own_built (xs := []) rfl rfl (Nat.le_refl _) (by omega)) _ _ rfl ((HRd.out.below (hb4.alloc hb4.size _))) (by first | rfl | exact encGs_cells _) (by omega) (by omega) (by first | (simp; done) | (simp; omega) | omega) ?_; intro A5 c5 w5 hown5 hbel5 hgr5 hat5; have z5 := hbel5.size; (try simp only [World.size_alloc] at z5); (try simp only [Nat.zero_add, List.nil_append] at hown5)))
        obtain ⟨Ga, hGa, hGa1, hGa2⟩ := own_some hown4 hpos
        obtain ⟨Gb, hGb, hGb1, hGb2⟩ := own_some hown5 hpos
        subst hGa hGb
        have o45 := own_below hown4 (((Below.refl w4.heap.size w4).alloc (Nat.le_refl _) _).trans hbel5)
        have hb5 : Below w.heap.size w w5 := (hb4.alloc hb4.size _).trans (hbel5.mono hb4.size)
        have hX4 : Below X.heap.size X w4 := (hX2.alloc hX2.size _).trans (hbel4.mono hX2.size)
        have hX5 : Below X.heap.size X w5 := (hX4.alloc hX4.size _).trans (hbel5.mono hX4.size)
        have hT0 : TwoR w w2 w4 X Ga Gb l.length c4 c5 K l 0 w5 := ⟨by rw [stTo_zero]; exact o45, by rw [stTo_zero]; exact hown5, hb5, hX5, by omega⟩
        have hXw2 := hX2.size
        have hwX := hbX.size
        have hK0 : K ≠ 0 := by omega
        have HP0 := Lib.hid hp
        have hwords := styles_words K hK0 l ⟨d, sp, q⟩ hnil fun x hx => ((properB_all hp).2 x hx).1
        have hGWa : ∀ x ∈ l.map (inSt 0), GW x := fun x hx => by
          obtain ⟨y, hy, rfl⟩ := List.mem_map.1 hx
          exact ⟨((properB_all hp).2 y hy).2.1.1, (by decide : (0 : Int) ≤ 0), (by decide : (0 : Int) ≤ 3)⟩
        have hGWb : ∀ x ∈ l.map (inSt K), GW x := fun x hx => by
          obtain ⟨y, hy, rfl⟩ := List.mem_map.1 hx
          exact ⟨((properB_all hp).2 y hy).2.1.1, (by show 0 ≤ K; omega), (by show K ≤ 3; omega)⟩
        clear hown4 hown5 hbel4 hbel5 hgr4 hgr5 hat4 hat5 z4 z5 o45 hb5 hX5 hX4 hb4 hx2 hX2 hb2 hX1 hb1 HW HGl HSR HPr HCk hp hbad hnil hl0 i0
        go_wp2
        go_loopw [38] (fun y wr => ∃ j : Nat, j ≤ l.length ∧ y = .int .i64 j ∧ TwoR w w2 w4 X Ga Gb l.length c4 c5 K l j wr) (fun y _ => l.length - (intOf y).toNat)
        case atStart => exact ⟨0, Nat.zero_le _, rfl, hT0⟩
        case round =>
          clear hT0
          obtain ⟨j, hj, rfl, hT⟩ := hrel
          by_cases hlt : j < l.length
          · obtain ⟨⟨ua, qa⟩, fa, ⟨ub, qb⟩, fb, n1, n2, n3, n4⟩ := hT.cells rfl hlt
            have hne : Ga ≠ Gb := by omega
            have HN := Lib.hid (hT.step rfl hlt (by omega) hGb1 (by omega) hwX)
            have n5 : c4 ≤ 9223372036854775807 := by unfold maxLen at n2; omega
            have n6 : c5 ≤ 9223372036854775807 := by unfold maxLen at n4; omega
            clear hT n2 n4 hwords hGWa hGWb HRd hgd
            go_wp2
            exact ⟨⟨j + 1, by omega, by go_num, HN.out⟩, by simp [intOf]; omega⟩
          · obtain rfl : j = l.length := by omega
            obtain ⟨oA, oB, hb, hX, hz⟩ := hT
            rw [stTo_all] at oA oB
            have HW : ∀ (k' : Int) (G c' : Nat), (∀ x ∈ l.map (inSt k'), GW x) → Hid (∀ w' B, Below w.heap.size w w' → w'.ownsRow B 41 3 (.slice (some ⟨G, 0, none⟩) l.length c') l.length (encGs (l.map (inSt k'))) → Calls Tryz.prog 15 #[.slice (some ⟨G, 0, none⟩) l.length c', stV r d sp q co k] w' fun e w'' => ∃ A2 c2, e = .returned (.slice A2 (spokenWords (l.map (inSt k')) ⟨d, sp, q⟩).length c2) ∧ w''.ownsRow w'.heap.size 9 1 (.slice A2 (spokenWords (l.map (inSt k')) ⟨d, sp, q⟩).length c2) (spokenWords (l.map (inSt k')) ⟨d, sp, q⟩).length (sv (spokenWords (l.map (inSt k')) ⟨d, sp, q⟩)) ∧ Below w.heap.size w w'' ∧ Below w'.heap.size w' w'') := fun k' G c' hG => Lib.hid fun w' B hw ho => by
              have hg' := hgd.out.below hw
              have hnc := own_caps ho
              exact (words_ _ _ l.length c' w'.heap.size r d sp q co k w' hg'.1 hg'.2.1 hg'.2.2 (by rw [List.length_map]; omega) hnc.1 hnc.2 hG (Rd.of_own ho) (Nat.le_refl _)).mono fun e w'' ⟨A, c, he, ho, hb⟩ => ⟨A, c, he, ho, hw.trans (hb.mono hw.size), hb⟩
            have HWa := HW 0 Ga c4 hGWa
            have HWb := HW K Gb c5 hGWb
            have hbd := words_bounds (l.map (inSt 0)) ⟨d, sp, q⟩ (by rw [List.length_map]; omega) fun x hx => by
              obtain ⟨y, hy, rfl⟩ := List.mem_map.1 hx
              exact ((properB_all HP0.out).2 y hy).2.2
            rw [hwords] at HWb
            have hwl := hbd.1
            clear HW hwords hbd HRd hgd hGWa hGWb HP0
            generalize spokenWords (l.map (inSt 0)) ⟨d, sp, q⟩ = WA at *
            generalize encGs (l.map (inSt 0)) = EA at *
            generalize encGs (l.map (inSt K)) = EB at *
            have HSm : Hid (∀ w' sk A2 c2 A3 c3, Below w.heap.size w w' → (∃ B, w'.ownsRow B 9 1 (.slice A2 (sk :: WA).length c2) (sk :: WA).length (sv (sk :: WA))) → (∃ B, w'.ownsRow B 9 1 (.slice A3 (1 + WA.length) c3) (1 + WA.length) (sv (sk :: WA))) →
                Calls Tryz.prog 14 #[.slice A2 (sk :: WA).length c2, .slice A3 (1 + WA.length) c3] w' fun e w'' => e = .returned (.bool true) ∧ Below w.heap.size w w'') := Lib.hid fun w' sk A2 c2 A3 c3 hw ⟨B, o2⟩ ⟨B', o3⟩ => by
              have h := same40 (sk :: WA) (sk :: WA) A2 A3 _ _ c2 c3 _ _ w' rfl (by rw [List.length_cons]; omega) (Rd.of_own o2) (Rd.of_own o3) (by rw [List.length_cons]; omega) (by omega)
              rw [decide_eq_true rfl] at h
              exact h.mono fun e w'' h => ⟨h.gives.1, hw.trans (h.gives.2.mono hw.size)⟩
            obtain ⟨C0, C1, C2, C3, C4, C5⟩ := HSt.out _ hX
            rcases hK12 with hK1 | hK1
            · subst hK1
              have hbl : w.heap.size ≤ wr.heap.size := hb.size
              have hXl : X.heap.size ≤ wr.heap.size := hX.size
              have hGl : Ga < wr.heap.size := Nat.lt_of_lt_of_le hGa2 hz
              rw [show styB (Int.toNat 1) = ⟨#[115, 116, 114, 111, 110, 103]⟩ from rfl] at HWb
              have tw : Below wr.heap.size wr wr := Below.refl _ _
              obtain ⟨_, _, _, _, _, _⟩ := HSt.out (wr.alloc (.cells #[.string ⟨#[112, 108, 97, 105, 110]⟩, .string ⟨#[115, 116, 114, 111, 110, 103]⟩, .string ⟨#[105, 110, 118, 101, 114, 115, 101]⟩] 9)) (hX.alloc hXl _)
              obtain ⟨_, _, _, _, _, _⟩ := HSt.out ((wr.alloc (.cells #[.string ⟨#[112, 108, 97, 105, 110]⟩, .string ⟨#[115, 116, 114, 111, 110, 103]⟩, .string ⟨#[105, 110, 118, 101, 114, 115, 101]⟩] 9)).alloc (.cells #[.string ⟨#[115, 116, 114, 111, 110, 103]⟩] 9)) ((hX.alloc hXl _).alloc (by rw [World.size_alloc]; exact Nat.le_succ_of_le hXl) _)
              clear hKe hst0 hst1 h60 hpos
              go_upto_region 10 with fail
              go_cut [11] (fun v wx => Ow wx wr.heap.size 9 1 v (1 + WA.length) (sv (⟨#[115, 116, 114, 111, 110, 103]⟩ :: WA)) ∧ Below wr.heap.size wr wx)
              case first =>
                clear HSm HWb
                go_region_law (first
                  | (go_simp; go_at_call 15; refine (HWa.out _ _ (by (repeat (first | exact Below.refl _ _ | assumption | refine Below.drew ?_ | refine Below.alloc ?_ (by first | (simp; done) | (simp; omega) | omega) _ | refine Below.setCell ?_ (by first | (simp; done) | (simp; omega) | omega) _))) (own_below oA (by (repeat (first | exact Below.refl _ _ | assumption | refine Below.drew ?_ | refine Below.alloc ?_ (by first | (simp; done) | (simp; omega) | omega) _ | refine Below.setCell ?_ (by first | (simp; done) | (simp; omega) | omega) _))))).mono ?_; rintro e w6 ⟨A6, c6, rfl, o6, hb6, hx6⟩; have hc6 : Below wr.heap.size wr w6 := Below.trans (by (repeat (first | exact Below.refl _ _ | assumption | refine Below.drew ?_ | refine Below.alloc ?_ (by first | (simp; done) | (simp; omega) | omega) _ | refine Below.setCell ?_ (by first | (simp; done) | (simp; omega) | omega) _))) (hx6.mono (by first | (simp; done) | (simp; omega) | omega)); have z6 := hc6.size; (try have q6 : w6.cell? ⟨wr.heap.size, 1, none⟩ = some (.string ⟨#[115, 116, 114, 111, 110, 103]⟩) := (hx6.cell (by show wr.heap.size < _; simp)).trans (cell_built wr _ _ 1)); obtain ⟨_, _, _, _, _, _⟩ := HSt.out _ (hX.trans (hc6.mono hXl)))
                  | (refine app_step rfl _ _ _ rfl elt_str (wr.heap.size) _ rfl ((by first | exact own_built (xs := [_]) (by first | rfl | simp) rfl (by first | omega | simp | (simp; omega)) (by omega) | exact own_below (own_built (xs := [_]) (by first | rfl | simp) rfl (by first | omega | simp | (simp; omega)) (by omega)) hx6 | exact own_below (own_below (own_built (xs := [_]) (by first | rfl | simp) rfl (by first | omega | simp | (simp; omega)) (by omega)) (Below.refl _ _).drew) hx6)) _ _ rfl ((Rd.of_own (own_below o6 (by (repeat (first | exact Below.refl _ _ | assumption | refine Below.drew ?_ | refine Below.alloc ?_ (by first | (simp; done) | (simp; omega) | omega) _ | refine Below.setCell ?_ (by first | (simp; done) | (simp; omega) | omega) _)))))) (sv_one _) (by omega) (by omega) (by first | (simp; done) | (simp; omega) | omega) ?_; intro A7 c7 w7 hown7 hbel7 hgr7 hat7; have z7 := hbel7.size; (try simp only [Nat.zero_add, List.nil_append] at hown7)))
                all_goals go_wp2
                all_goals go_meet
                all_goals exact ⟨⟨_, _, rfl, hown7⟩, Below.trans (by (repeat (first | exact Below.refl _ _ | assumption | refine Below.drew ?_ | refine Below.alloc ?_ (by first | (simp; done) | (simp; omega) | omega) _ | refine Below.setCell ?_ (by first | (simp; done) | (simp; omega) | omega) _))) hbel7⟩
              case rest =>
                clear HWa
                obtain ⟨⟨A7, c7, rfl, o7⟩, hc7⟩ := hcut
                have hb7 : Below w.heap.size w wc := hb.trans (hc7.mono hbl)
                have oB7 := own_under oB hc7 (fun m hm => (show Gb = m by simpa [Value.ownBlock] using hm) ▸ (own_blk oB).2.2.2.elim fun _ h => h.lt)
                obtain ⟨_, _, _, _, _, _⟩ := HSt.out _ (hX.trans (hc7.mono hXl))
                go_wp2_with (first
                  | (go_at_call 15; refine (HWb.out _ _ hb7 oB7).mono ?_; rintro e w8 ⟨A8, c8, rfl, o8, hb8, hx8⟩; have o78 := own_below o7 hx8)
                  | (go_at_call 14; refine (HSm.out _ _ _ _ _ _ hb8 ⟨_, o8⟩ ⟨_, o78⟩).mono ?_; rintro e w9 ⟨rfl, hb9⟩)
                  | (go_at_call 13; refine (HA.out _ (by assumption)).mono ?_; rintro e wa ⟨rfl, hba⟩))
                go_ret
                exact ⟨rfl, hba⟩
            · subst hK1
              have hbl : w.heap.size ≤ wr.heap.size := hb.size
              have hXl : X.heap.size ≤ wr.heap.size := hX.size
              have hGl : Ga < wr.heap.size := Nat.lt_of_lt_of_le hGa2 hz
              rw [show styB (Int.toNat 2) = ⟨#[105, 110, 118, 101, 114, 115, 101]⟩ from rfl] at HWb
              have tw : Below wr.heap.size wr wr := Below.refl _ _
              obtain ⟨_, _, _, _, _, _⟩ := HSt.out (wr.alloc (.cells #[.string ⟨#[112, 108, 97, 105, 110]⟩, .string ⟨#[115, 116, 114, 111, 110, 103]⟩, .string ⟨#[105, 110, 118, 101, 114, 115, 101]⟩] 9)) (hX.alloc hXl _)
              obtain ⟨_, _, _, _, _, _⟩ := HSt.out ((wr.alloc (.cells #[.string ⟨#[112, 108, 97, 105, 110]⟩, .string ⟨#[115, 116, 114, 111, 110, 103]⟩, .string ⟨#[105, 110, 118, 101, 114, 115, 101]⟩] 9)).alloc (.cells #[.string ⟨#[105, 110, 118, 101, 114, 115, 101]⟩] 9)) ((hX.alloc hXl _).alloc (by rw [World.size_alloc]; exact Nat.le_succ_of_le hXl) _)
              clear hKe hst0 hst1 h60 hpos
              go_upto_region 10 with fail
              go_cut [11] (fun v wx => Ow wx wr.heap.size 9 1 v (1 + WA.length) (sv (⟨#[105, 110, 118, 101, 114, 115, 101]⟩ :: WA)) ∧ Below wr.heap.size wr wx)
              case first =>
                clear HSm HWb
                go_region_law (first
                  | (go_simp; go_at_call 15; refine (HWa.out _ _ (by (repeat (first | exact Below.refl _ _ | assumption | refine Below.drew ?_ | refine Below.alloc ?_ (by first | (simp; done) | (simp; omega) | omega) _ | refine Below.setCell ?_ (by first | (simp; done) | (simp; omega) | omega) _))) (own_below oA (by (repeat (first | exact Below.refl _ _ | assumption | refine Below.drew ?_ | refine Below.alloc ?_ (by first | (simp; done) | (simp; omega) | omega) _ | refine Below.setCell ?_ (by first | (simp; done) | (simp; omega) | omega) _))))).mono ?_; rintro e w6 ⟨A6, c6, rfl, o6, hb6, hx6⟩; have hc6 : Below wr.heap.size wr w6 := Below.trans (by (repeat (first | exact Below.refl _ _ | assumption | refine Below.drew ?_ | refine Below.alloc ?_ (by first | (simp; done) | (simp; omega) | omega) _ | refine Below.setCell ?_ (by first | (simp; done) | (simp; omega) | omega) _))) (hx6.mono (by first | (simp; done) | (simp; omega) | omega)); have z6 := hc6.size; (try have q6 : w6.cell? ⟨wr.heap.size, 2, none⟩ = some (.string ⟨#[105, 110, 118, 101, 114, 115, 101]⟩) := (hx6.cell (by show wr.heap.size < _; simp)).trans (cell_built wr _ _ 2)); obtain ⟨_, _, _, _, _, _⟩ := HSt.out _ (hX.trans (hc6.mono hXl)))
                  | (refine app_step rfl _ _ _ rfl elt_str (wr.heap.size) _ rfl ((by first | exact own_built (xs := [_]) (by first | rfl | simp) rfl (by first | omega | simp | (simp; omega)) (by omega) | exact own_below (own_built (xs := [_]) (by first | rfl | simp) rfl (by first | omega | simp | (simp; omega)) (by omega)) hx6 | exact own_below (own_below (own_built (xs := [_]) (by first | rfl | simp) rfl (by first | omega | simp | (simp; omega)) (by omega)) (Below.refl _ _).drew) hx6)) _ _ rfl ((Rd.of_own (own_below o6 (by (repeat (first | exact Below.refl _ _ | assumption | refine Below.drew ?_ | refine Below.alloc ?_ (by first | (simp; done) | (simp; omega) | omega) _ | refine Below.setCell ?_ (by first | (simp; done) | (simp; omega) | omega) _)))))) (sv_one _) (by omega) (by omega) (by first | (simp; done) | (simp; omega) | omega) ?_; intro A7 c7 w7 hown7 hbel7 hgr7 hat7; have z7 := hbel7.size; (try simp only [Nat.zero_add, List.nil_append] at hown7)))
                all_goals go_wp2
                all_goals go_meet
                all_goals exact ⟨⟨_, _, rfl, hown7⟩, Below.trans (by (repeat (first | exact Below.refl _ _ | assumption | refine Below.drew ?_ | refine Below.alloc ?_ (by first | (simp; done) | (simp; omega) | omega) _ | refine Below.setCell ?_ (by first | (simp; done) | (simp; omega) | omega) _))) hbel7⟩
              case rest =>
                clear HWa
                obtain ⟨⟨A7, c7, rfl, o7⟩, hc7⟩ := hcut
                have hb7 : Below w.heap.size w wc := hb.trans (hc7.mono hbl)
                have oB7 := own_under oB hc7 (fun m hm => (show Gb = m by simpa [Value.ownBlock] using hm) ▸ (own_blk oB).2.2.2.elim fun _ h => h.lt)
                obtain ⟨_, _, _, _, _, _⟩ := HSt.out _ (hX.trans (hc7.mono hXl))
                go_wp2_with (first
                  | (go_at_call 15; refine (HWb.out _ _ hb7 oB7).mono ?_; rintro e w8 ⟨A8, c8, rfl, o8, hb8, hx8⟩; have o78 := own_below o7 hx8)
                  | (go_at_call 14; refine (HSm.out _ _ _ _ _ _ hb8 ⟨_, o8⟩ ⟨_, o78⟩).mono ?_; rintro e w9 ⟨rfl, hb9⟩)
                  | (go_at_call 13; refine (HA.out _ (by assumption)).mono ?_; rintro e wa ⟨rfl, hba⟩))
                go_ret
                exact ⟨rfl, hba⟩
end Go.Proofs.YtndgcjdiemfngaaGreatDoor
