/- numwords.small. -/
import Derived.Test.YtoiballfjbdoiaaDoorNum1
import Derived.Deep.DeepCutAuto
namespace Go.Proofs.YtoiballfjbdoiaaDoor
open Go.RowKit
def smallR (m : Nat) : List Nat := (if 100 ≤ m then [m / 100, 28] else [])
def smallS (m : Nat) : List Nat := (if 20 ≤ m then [18 + m / 10] else [])
def smallT (m : Nat) : List Nat := (if 0 < m then [m] else [])
def smallL (m : Nat) : List Nat :=
  let k := if 100 ≤ m then m % 100 else m
  smallR m ++ smallS k ++ smallT (if 20 ≤ k then k % 10 else k)
theorem smallL_le (m : Nat) : (smallL m).length ≤ 4 := by
  unfold smallL smallR smallS smallT
  simp only [List.length_append]
  repeat' split
  all_goals simp
set_option maxHeartbeats 400000 in
theorem small (m : Nat) (hm : m < 1000) (w : World) :
    Calls Tryd.prog 35 #[.int .i64 m] w (GivesOwn 9 1 id w (smallL m).length (wv (smallL m))) := by
  go_enter Tryd.func35, Tryd.ntmps35
  go_upto_if 7 with (go_at_call 24; refine (voc _).mono ?_; rintro e w' ⟨rfl, rfl⟩)
  go_cut [0, 4] (fun s0 s4 wx => s0 = .int .i64 ((if 100 ≤ m then m % 100 else m : Nat) : Int) ∧ Ow wx (w.heap.size + 1) 9 1 s4 (smallR m).length (wv (smallR m)) ∧ Below (w.heap.size + 1) (w.alloc (.cells vocab 9)) wx)
  case first =>
    have h1 := cellVoc w (m/100) (by omega)
    by_cases c : 100 ≤ m
    · go_wp2_with (at_builtin; refine app_list rfl _ _ _ rfl elt_str (w.heap.size + 1) _ rfl (own_nil _ _ _ _) _ _ rfl ((rd_built (by simp) rfl)) (by first | rfl | exact sv_one _ | exact wv_one _) (by omega) (by omega) (by first | (simp; done) | (simp; omega) | omega) ?_; intro A1 c1 w1 hown1 hbel1 hgr1 hat1; have z1 := hbel1.size; (try simp only [World.size_alloc] at z1); (try simp only [Nat.zero_add, List.nil_append] at hown1))
      go_meet
      exact ⟨by simp [c], ⟨A1, c1, by simp [smallR, c], by simpa [smallR, c, wv, wb] using hown1⟩, (Below.alloc (Below.refl _ _) (by simp) _).trans hbel1⟩
    · go_wp2_with fail
      go_meet
      exact ⟨by simp [c], ⟨none, 0, by simp [smallR, c], by simpa [smallR, c, wv, wb] using own_nil _ _ _ _⟩, Below.refl _ _⟩
  case rest =>
    obtain ⟨wa, rfl⟩ : ∃ x : World, x = wc := ⟨_, rfl⟩
    obtain ⟨rfl, ⟨A, c, rfl, hown⟩, hbel⟩ := hcut
    have hk : (if 100 ≤ m then m % 100 else m) < 100 := by split <;> omega
    have HL : Hid (smallL m = smallR m ++ smallS (if 100 ≤ m then m % 100 else m) ++ smallT (if 20 ≤ (if 100 ≤ m then m % 100 else m) then (if 100 ≤ m then m % 100 else m) % 10 else (if 100 ≤ m then m % 100 else m))) := Lib.hid rfl
    have hR2 : (smallR m).length ≤ 2 := by unfold smallR; split <;> simp
    generalize (if 100 ≤ m then m % 100 else m) = k at hk HL ⊢
    generalize smallR m = R at hR2 hown HL ⊢
    have hz := hbel.size
    rw [World.size_alloc] at hz
    have h2 : 20 ≤ k → wa.cell? ⟨w.heap.size, 18 + k / 10, none⟩ = some (.string (wb (18 + k / 10))) := fun _ => (hbel.cell (p := ⟨w.heap.size, 18 + k/10, none⟩) (by simp)).trans (cellVoc w (18 + k/10) (by omega))
    go_upto_if 19 with fail
    go_cut [0, 4] (fun s0 s4 wx => s0 = .int .i64 ((if 20 ≤ k then k % 10 else k : Nat) : Int) ∧ Ow wx (w.heap.size + 1) 9 1 s4 (R ++ smallS k).length (wv (R ++ smallS k)) ∧ Below (w.heap.size + 1) wa wx)
    case first =>
      by_cases c20 : 20 ≤ k
      · have h2' := h2 c20
        go_wp2_with (at_builtin; refine app_list rfl _ _ _ rfl elt_str (w.heap.size + 1) _ rfl (hown.alloc _) _ _ rfl ((rd_built (by simp) rfl)) (by first | rfl | exact sv_one _ | exact wv_one _) (by omega) (by omega) (by first | (simp; done) | (simp; omega) | omega) ?_; intro A1 c1 w1 hown1 hbel1 hgr1 hat1; have z1 := hbel1.size; (try simp only [World.size_alloc] at z1); (try simp only [Nat.zero_add, List.nil_append] at hown1))
        go_meet
        exact ⟨by simp [c20], ⟨A1, c1, by simp [smallS, c20], by simpa [smallS, c20, wv] using hown1⟩, ((Below.refl _ _).alloc (by omega) _).trans hbel1⟩
      · go_wp2_with fail
        go_meet
        exact ⟨by simp [c20], ⟨A, c, by simp [smallS, c20], by simpa [smallS, c20, wv] using hown⟩, Below.refl _ _⟩
    case rest =>
      obtain ⟨rfl, ⟨A', c', rfl, hown'⟩, hbel'⟩ := hcut
      have hk' : (if 20 ≤ k then k % 10 else k) < 20 := by split <;> omega
      have hR3 : (R ++ smallS k).length ≤ 3 := by unfold smallS; split <;> simp <;> omega
      have hz' := hbel'.size
      have hbx := hbel.trans hbel'
      clear hown h2
      generalize (if 20 ≤ k then k % 10 else k) = j at hk' HL ⊢
      generalize R ++ smallS k = R' at hR3 hown' HL ⊢
      have h3 : wc.cell? ⟨w.heap.size, j, none⟩ = some (.string (wb j)) := (hbx.cell (p := ⟨w.heap.size, j, none⟩) (by simp)).trans (cellVoc w j (by omega))
      have hb0 : Below w.heap.size w wc := ((Below.refl _ _).alloc (Nat.le_refl _) _).trans (hbx.mono (by omega))
      by_cases c0 : 0 < j
      · go_wp2_with (at_builtin; refine app_list rfl _ _ _ rfl elt_str (w.heap.size + 1) _ rfl (hown'.alloc _) _ _ rfl ((rd_built (by simp) rfl)) (by first | rfl | exact sv_one _ | exact wv_one _) (by omega) (by omega) (by first | (simp; done) | (simp; omega) | omega) ?_; intro A1 c1 w1 hown1 hbel1 hgr1 hat1; have z1 := hbel1.size; (try simp only [World.size_alloc] at z1); (try simp only [Nat.zero_add, List.nil_append] at hown1))
        go_ret
        rw [HL.out]
        refine ⟨A1, c1, by simp [smallT, c0], own_less (base := w.heap.size + 1) (by simpa [smallT, c0, wv] using hown1) (by omega), (hb0.alloc (by omega) _).trans (hbel1.mono (by omega))⟩
      · go_wp2_with fail
        go_ret
        rw [HL.out]
        refine ⟨A', c', by simp [smallT, c0], own_less (base := w.heap.size + 1) (by simpa [smallT, c0, wv] using hown') (by omega), hb0⟩
end Go.Proofs.YtoiballfjbdoiaaDoor
