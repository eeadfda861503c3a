/- Joined texts: SxW. -/
import Derived.Test.YtndgcjdiemfngaaGreatDoorQBG
import Derived.Test.YtndgcjdiemfngaaGreatDoorQBI
import Derived.Test.YtndgcjdiemfngaaGreatDoorQBT
set_option linter.unusedVariables false
set_option linter.unusedSimpArgs false
set_option linter.unnecessarySimpa false
/- Layer 40's statement Words. -/
namespace Go.Proofs.YtndgcjdiemfngaaGreatDoor
open Go.RowKit
set_option maxRecDepth 20000
set_option maxHeartbeats 4000000 in
theorem law_SpokentextWords (w : World) (hg : Gd w ∧ Tb w) (A : Option Addr) (n c : Nat) (l : List Gl) (hn : l.length = n) (hc : n ≤ c) (hm : c ≤ maxLen) (rd : Rd w w.heap.size 3 A n (encGs l)) (hs : ∀ g ∈ l, g.text.size ≤ maxLen ∧ (Lit.int .i64 g.style).wf = true) (r : Int) (d sp : Bool) (q : Int) (co : Bool) (k : Int) (wr : (Lit.int .i64 r).wf = true) (wq : (Lit.int .i64 q).wf = true) (wk : (Lit.int .i64 k).wf = true) :
    Calls Tryz.prog 3 #[.slice A n c, stV r d sp q co k] w (Gives (.bool true) w) := by
  obtain ⟨hg, ht⟩ := hg
  have HA2 : Hid (∀ w', Below w.heap.size w w' → Calls Tryz.prog 13 #[] w' fun e w'' => e = .returned (.bool true) ∧ Below w.heap.size w w'' ∧ Below w'.heap.size w' w'') := Lib.hid fun w' hw => (awake_ w' (hg.below hw)).mono fun e w'' ⟨h1, h2⟩ => ⟨h1, hw.trans (h2.mono hw.size), h2⟩
  have HCr : Hid (∀ w', Below w.heap.size w w' → Calls Tryz.prog 12 #[stV r d sp q co k] w' fun e w'' => e = .returned (.int .i64 (setE r q k)) ∧ Below w.heap.size w w'' ∧ Below w'.heap.size w' w'') := Lib.hid fun w' hw => (rcheck_s r d sp q co k w').mono fun e w'' ⟨h1, h2⟩ => ⟨h1, hw.trans (h2.mono hw.size), h2⟩
  have HR : Hid (properB l = true → 0 ≤ q → ∀ w', Below w.heap.size w w' → Calls Tryz.prog 16 #[.slice A n c, stV r d sp q co k] w' fun e w'' => ∃ A2 c2, e = .returned (.slice A2 (spokenWords l ⟨d, sp, q⟩).length c2) ∧ w''.ownsRow w'.heap.size 9 1 (.slice A2 (spokenWords l ⟨d, sp, q⟩).length c2) (spokenWords l ⟨d, sp, q⟩).length (sv (spokenWords l ⟨d, sp, q⟩)) ∧ Below w.heap.size w w'' ∧ Below w'.heap.size w' w'') := Lib.hid fun hp hq w' hw =>
    (rwords l A _ c w.heap.size r d sp q co k w' (ht.below hw) (Nat.le_trans (properB_all hp).1 (by decide)) hc hm (GW_plain hp) hq (rd.below hw) hw.size).mono fun e w'' ⟨A, c, he, ho, hb⟩ => ⟨A, c, he, ho, hw.trans (hb.mono hw.size), hb⟩
  subst hn
  have HA : Hid (∀ w', Below w.heap.size w w' → Calls Tryz.prog 13 #[] w' fun e w'' => e = .returned (.bool true) ∧ Below w.heap.size w w'') := Lib.hid fun w' hw => (awake_ w' (hg.below hw)).mono fun e w'' ⟨h1, h2⟩ => ⟨h1, hw.trans (h2.mono hw.size)⟩
  have HPr : Hid (∀ w', Below w.heap.size w w' → Calls Tryz.prog 11 #[.slice A l.length c] w' fun e w'' => e = .returned (.bool (properB l)) ∧ Below w.heap.size w w'' ∧ Below w'.heap.size w' w'') := Lib.hid fun w' hw => (proper_ l A _ c w.heap.size w' (by unfold maxLen at *; omega) (fun g hg => (hs g hg).1) (rd.below hw) hw.size).mono fun e w'' ⟨h1, h2⟩ => ⟨h1, hw.trans (h2.mono hw.size), h2⟩
  have HCk : Hid (∀ w', Below w.heap.size w w' → Calls Tryz.prog 23 #[stV r d sp q co k] w' fun e w'' => e = .returned (.int .i64 (setE r q k)) ∧ Below w.heap.size w w'' ∧ Below w'.heap.size w' w'') := Lib.hid fun w' hw => (check_s r d sp q co k w').mono fun e w'' ⟨h1, h2⟩ => ⟨h1, hw.trans (h2.mono hw.size), h2⟩
  have HW : Hid (properB l = true → ∀ w', Below w.heap.size w w' → Calls Tryz.prog 15 #[.slice A l.length c, stV r d sp q co k] w' fun e w'' => ∃ A2 c2, e = .returned (.slice A2 (spokenWords l ⟨d, sp, q⟩).length c2) ∧ w''.ownsRow w'.heap.size 9 1 (.slice A2 (spokenWords l ⟨d, sp, q⟩).length c2) (spokenWords l ⟨d, sp, q⟩).length (sv (spokenWords l ⟨d, sp, q⟩)) ∧ Below w.heap.size w w'' ∧ Below w'.heap.size w' w'') := Lib.hid fun hp w' hw => by
    have hg' := hg.below hw
    exact (words_ l A _ c w.heap.size r d sp q co k w' hg'.1 hg'.2.1 hg'.2.2 (Nat.le_trans (properB_all hp).1 (by decide)) hc hm (GW_plain hp) (rd.below hw) hw.size).mono fun e w'' ⟨A, c, he, ho, hb⟩ => ⟨A, c, he, ho, hw.trans (hb.mono hw.size), hb⟩
  have HGl : Hid (properB l = true → ∀ w' A2 c2, Below w.heap.size w w' → (∃ B, w'.ownsRow B 9 1 (.slice A2 (spokenWords l ⟨d, sp, q⟩).length c2) (spokenWords l ⟨d, sp, q⟩).length (sv (spokenWords l ⟨d, sp, q⟩))) → Calls Tryz.prog 18 #[.slice A2 (spokenWords l ⟨d, sp, q⟩).length c2] w' fun e w'' => ∃ A c, e = .returned (.tuple #[.slice A l.length c, .int .i64 0]) ∧ w''.ownsRow w'.heap.size 41 3 (.slice A l.length c) l.length (encGs l) ∧ Below w.heap.size w w'' ∧ Below w'.heap.size w' w'') := Lib.hid fun hp w' A2 c2 hw ⟨B, ho⟩ => by
    have hg' := hg.below hw
    have hnc := own_caps ho
    have hbd := words_bounds l ⟨d, sp, q⟩ (properB_all hp).1 fun x hx => ((properB_all hp).2 x hx).2.2
    have h := glyphs_ _ A2 _ c2 w' rfl hnc.1 hnc.2 (Rd.of_own ho) hbd.2 hbd.1 hg'.1 hg'.2.1 hg'.2.2
    rw [round_proper hp] at h
    exact h.mono fun e w'' ⟨h1, A, c, h2, h3⟩ => ⟨A, c, h2, h3, hw.trans (h1.mono hw.size), h1⟩
  have HSR : Hid (properB l = true → ∀ w' A3 c3, Below w.heap.size w w' → (∃ B, w'.ownsRow B 41 3 (.slice A3 l.length c3) l.length (encGs l)) → Calls Tryz.prog 20 #[.slice A3 l.length c3, .slice A l.length c] w' fun e w'' => e = .returned (.bool true) ∧ Below w.heap.size w w'') := Lib.hid fun hp w' A3 c3 hw ⟨B, ho⟩ => by
    have h := rsamerow l l A3 A l.length l.length c3 c w'.heap.size w' (Nat.le_trans (properB_all hp).1 (by decide)) (Rd.of_own ho) ((rd.below hw).more hw.size)
    rw [decide_eq_true rfl] at h
    exact h.mono fun e w'' h => ⟨h.gives.1, hw.trans (h.gives.2.mono hw.size)⟩
  clear rd hs hg
  clear HA HCk HGl HSR ht
  cases hp : properB l with
  | false =>
    rw [hp] at HPr
    clear hp HW HR
    go_enter Tryz.func3, Tryz.ntmps3
    go_upto_region 1 with fail
    refine wp_fg (fun X => StBox X r d sp q co k w.heap.size ∧ Below w.heap.size w X ∧ X.heap.size = w.heap.size + 1) ⟨StBox.new w r d sp q co k 24, (Below.refl _ _).alloc (Nat.le_refl _) _, by simp⟩ ?_
    rintro X ⟨hst, hbX, hzX⟩
    have HSt : Hid (∀ w', Below X.heap.size X w' → StBox w' r d sp q co k w.heap.size) := Lib.hid fun w' h => hst.below h (by omega)
    clear hst hzX
    have hXc : Below X.heap.size X X := Below.refl _ _
    go_wp2_with (first
        | (go_at_call 11; refine (HPr.out _ (by assumption)).mono ?_; rintro e wc ⟨rfl, hbX, hx⟩; have hXc := hXc.trans (hx.mono hXc.size); obtain ⟨_, _, _, _, _, _⟩ := HSt.out _ hXc)
        | (go_at_call 12; refine (HCr.out _ (by assumption)).mono ?_; rintro e wc ⟨rfl, hbX, hx⟩; have hXc := hXc.trans (hx.mono hXc.size); obtain ⟨_, _, _, _, _, _⟩ := HSt.out _ hXc)
        | (go_at_call 13; refine (HA2.out _ (by assumption)).mono ?_; rintro e wc ⟨rfl, hbX, hx⟩; have hXc := hXc.trans (hx.mono hXc.size); obtain ⟨_, _, _, _, _, _⟩ := HSt.out _ hXc))
    go_ret
    exact ⟨rfl, hbX⟩
  | true =>
    rw [hp] at HPr
    by_cases hbad : BadS r q k
    · rw [setE_bad hbad] at HCr
      clear hp HW HR hbad
      go_enter Tryz.func3, Tryz.ntmps3
      go_upto_region 1 with fail
      refine wp_fg (fun X => StBox X r d sp q co k w.heap.size ∧ Below w.heap.size w X ∧ X.heap.size = w.heap.size + 1) ⟨StBox.new w r d sp q co k 24, (Below.refl _ _).alloc (Nat.le_refl _) _, by simp⟩ ?_
      rintro X ⟨hst, hbX, hzX⟩
      have HSt : Hid (∀ w', Below X.heap.size X w' → StBox w' r d sp q co k w.heap.size) := Lib.hid fun w' h => hst.below h (by omega)
      clear hst hzX
      have hXc : Below X.heap.size X X := Below.refl _ _
      go_wp2_with (first
          | (go_at_call 11; refine (HPr.out _ (by assumption)).mono ?_; rintro e wc ⟨rfl, hbX, hx⟩; have hXc := hXc.trans (hx.mono hXc.size); obtain ⟨_, _, _, _, _, _⟩ := HSt.out _ hXc)
          | (go_at_call 12; refine (HCr.out _ (by assumption)).mono ?_; rintro e wc ⟨rfl, hbX, hx⟩; have hXc := hXc.trans (hx.mono hXc.size); obtain ⟨_, _, _, _, _, _⟩ := HSt.out _ hXc)
          | (go_at_call 13; refine (HA2.out _ (by assumption)).mono ?_; rintro e wc ⟨rfl, hbX, hx⟩; have hXc := hXc.trans (hx.mono hXc.size); obtain ⟨_, _, _, _, _, _⟩ := HSt.out _ hXc))
      go_ret
      exact ⟨rfl, hbX⟩
    · rw [setE_ok hbad] at HCr
      have HWk := Lib.hid (HW.out hp)
      have HWl := Lib.hid (HR.out hp (by unfold BadS at hbad; omega))
      have hl1 := (words_bounds l ⟨d, sp, q⟩ (properB_all hp).1 fun x hx => ((properB_all hp).2 x hx).2.2).1
      generalize spokenWords l ⟨d, sp, q⟩ = WK at *
      have HSm : Hid (∀ w' A2 c2 A3 c3, Below w.heap.size w w' → (∃ B, w'.ownsRow B 9 1 (.slice A2 WK.length c2) WK.length (sv WK)) → (∃ B, w'.ownsRow B 9 1 (.slice A3 WK.length c3) WK.length (sv WK)) →
          Calls Tryz.prog 14 #[.slice A2 WK.length c2, .slice A3 WK.length c3] w' fun e w'' => e = .returned (.bool true) ∧ Below w.heap.size w w'' ∧ Below w'.heap.size w' w'') := Lib.hid fun w' A2 c2 A3 c3 hw ⟨B, o2⟩ ⟨B', o3⟩ => by
        have h := same40 WK WK A2 A3 _ _ c2 c3 _ _ w' rfl rfl (Rd.of_own o2) (Rd.of_own o3) (by omega) (by omega)
        rw [decide_eq_true rfl] at h
        exact h.mono fun e w'' h => ⟨h.gives.1, hw.trans (h.gives.2.mono hw.size), h.gives.2⟩
      clear hp HW HR hbad hl1
      go_enter Tryz.func3, Tryz.ntmps3
      go_upto_region 1 with fail
      refine wp_fg (fun X => StBox X r d sp q co k w.heap.size ∧ Below w.heap.size w X ∧ X.heap.size = w.heap.size + 1) ⟨StBox.new w r d sp q co k 24, (Below.refl _ _).alloc (Nat.le_refl _) _, by simp⟩ ?_
      rintro X ⟨hst, hbX, hzX⟩
      have HSt : Hid (∀ w', Below X.heap.size X w' → StBox w' r d sp q co k w.heap.size) := Lib.hid fun w' h => hst.below h (by omega)
      clear hst hzX
      have hXc : Below X.heap.size X X := Below.refl _ _
      go_upto_region 3 with (first
          | (go_at_call 11; refine (HPr.out _ (by assumption)).mono ?_; rintro e wc ⟨rfl, hbX, hx⟩; have hXc := hXc.trans (hx.mono hXc.size); obtain ⟨_, _, _, _, _, _⟩ := HSt.out _ hXc)
          | (go_at_call 12; refine (HCr.out _ (by assumption)).mono ?_; rintro e wc ⟨rfl, hbX, hx⟩; have hXc := hXc.trans (hx.mono hXc.size); obtain ⟨_, _, _, _, _, _⟩ := HSt.out _ hXc)
          | (go_at_call 13; refine (HA2.out _ (by assumption)).mono ?_; rintro e wc ⟨rfl, hbX, hx⟩; have hXc := hXc.trans (hx.mono hXc.size); obtain ⟨_, _, _, _, _, _⟩ := HSt.out _ hXc))
      have hbX := hbX.drew
      have hXc := hXc.drew
      obtain ⟨_, _, _, _, _, _⟩ := HSt.out _ hXc
      go_region_held3 (fun w' => (w'.cell? ⟨w.heap.size, 0, none⟩ = some (.int .i64 r) ∧ w'.cell? ⟨w.heap.size, 1, none⟩ = some (.bool d) ∧ w'.cell? ⟨w.heap.size, 2, none⟩ = some (.bool sp) ∧ w'.cell? ⟨w.heap.size, 3, none⟩ = some (.int .i64 q) ∧ w'.cell? ⟨w.heap.size, 4, none⟩ = some (.bool co) ∧ w'.cell? ⟨w.heap.size, 5, none⟩ = some (.int .i64 k))) (go_keep) (first
        | (go_at_call 15; (with_reducible refine (HWk.out _ (by assumption)).mono ?_); rintro e wc ⟨A2, c2, rfl, ok, hbX, hx⟩; (try have ol := own_below ol hx); have hXc := hXc.trans (hx.mono hXc.size); obtain ⟨_, _, _, _, _, _⟩ := HSt.out _ hXc)
        | (go_at_call 16; (with_reducible refine (HWl.out _ (by assumption)).mono ?_); rintro e wc ⟨A3, c3, rfl, ol, hbX, hx⟩; (try have ok := own_below ok hx); have hXc := hXc.trans (hx.mono hXc.size); obtain ⟨_, _, _, _, _, _⟩ := HSt.out _ hXc)
        | (go_at_call 14; refine (HSm.out _ _ _ _ _ (by assumption) ⟨_, ok⟩ ⟨_, ol⟩).mono ?_; rintro e wc ⟨rfl, hbX, hx⟩; have hXc := hXc.trans (hx.mono hXc.size); obtain ⟨_, _, _, _, _, _⟩ := HSt.out _ hXc)
        | (go_at_call 13; refine (HA2.out _ (by assumption)).mono ?_; rintro e wc ⟨rfl, hbX, hx⟩; have hXc := hXc.trans (hx.mono hXc.size); obtain ⟨_, _, _, _, _, _⟩ := HSt.out _ hXc))
      all_goals go_wp2
      all_goals go_ret
      all_goals exact ⟨rfl, hbX⟩
end Go.Proofs.YtndgcjdiemfngaaGreatDoor
