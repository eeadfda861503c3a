/- The reference of layer 38: small, positive, Words. -/
import Derived.Test.YtoiballfjbdoiaaDoorNum7
namespace Go.Proofs.YtoiballfjbdoiaaDoor
open Go.RowKit
/-- The reference's two tables. -/
def Tb (w : World) : Prop :=
  (∀ i, i < 20 → w.cell? ⟨1, i, none⟩ = some (.string (wb i))) ∧ (∀ i, i < 8 → w.cell? ⟨2, i, none⟩ = some (.string (wb (20 + i))))
theorem cell_under {w w' : World} {B : Nat} {a : Addr} {v : Value} (h : w.cell? a = some v) (hb : Below B w w') (hB : w.heap.size ≤ B) : w'.cell? a = some v := by
  have hl : a.block < w.heap.size := by
    rcases Nat.lt_or_ge a.block w.heap.size with hl | hl
    · exact hl
    · unfold World.cell? at h
      rw [Array.getElem?_eq_none hl] at h
      cases h
  exact (hb.cell (by omega)).trans h
theorem Tb.below {w w' : World} (h : Tb w) (hb : Below w.heap.size w w') : Tb w' :=
  ⟨fun i hi => cell_under (h.1 i hi) hb (Nat.le_refl _), fun i hi => cell_under (h.2 i hi) hb (Nat.le_refl _)⟩
theorem Tb.drewN {w : World} (h : Tb w) (n : Nat) : Tb (w.drewN n) := h
def rsmallL (m : Nat) : List Nat := if m = 0 then [0] else smallL m
theorem rs1 : ∀ m : Fin 20, rsmallL m.val = [m.val] := by decide +kernel
theorem rs2 : ∀ m : Fin 100, 20 ≤ m.val → m.val % 10 = 0 → rsmallL m.val = [18 + m.val / 10] := by decide +kernel
theorem rs3 : ∀ m : Fin 100, 20 ≤ m.val → m.val % 10 ≠ 0 → rsmallL m.val = [18 + m.val / 10, m.val % 10] := by decide +kernel
theorem rs4 : ∀ m : Fin 1000, 100 ≤ m.val → rsmallL m.val = [m.val / 100, 28] ++ (if m.val % 100 = 0 then [] else rsmallL (m.val % 100)) := by decide +kernel
set_option maxHeartbeats 1000000 in
theorem rsmall_lo (m : Nat) (hm : m < 100) (w : World) (ht : Tb w) :
    Calls Tryd.prog 41 #[.int .i64 m] w (GivesOwn 9 1 id w (rsmallL m).length (wv (rsmallL m))) := by
  by_cases c1 : m < 20
  · have hc := ht.1 m c1
    have HL := Lib.hid (rs1 ⟨m, c1⟩)
    simp only at HL
    clear ht
    go_enter Tryd.func41, Tryd.ntmps41
    go_wp2
    go_ret
    rw [HL.out]
    exact ⟨_, _, rfl, own_built (xs := [_]) rfl rfl (Nat.le_refl _) (by first | omega | (simp only [List.length_cons, List.length_nil]; omega)), (Below.refl _ _).alloc (Nat.le_refl _) _⟩
  have hc2 := ht.2 (m / 10 - 2) (by omega)
  rw [show 20 + (m / 10 - 2) = 18 + m / 10 from by omega] at hc2
  by_cases c2 : m % 10 = 0
  · have HL := Lib.hid (rs2 ⟨m, hm⟩ (by simp; omega) c2)
    simp only at HL
    have c2' : ((m : Int) % 10 == 0) = true := by rw [beq_iff_eq]; omega
    clear ht c2
    have c1' : (20 : Int) ≤ (m : Int) := by omega
    go_enter Tryd.func41, Tryd.ntmps41
    go_wp2
    go_ret
    rw [HL.out]
    exact ⟨_, _, rfl, own_built (xs := [_]) rfl rfl (Nat.le_refl _) (by first | omega | (simp only [List.length_cons, List.length_nil]; omega)), (Below.refl _ _).alloc (Nat.le_refl _) _⟩
  · have HL := Lib.hid (rs3 ⟨m, hm⟩ (by simp; omega) c2)
    simp only at HL
    have hc1 := ht.1 (m % 10) (by omega)
    have c2' : ((m : Int) % 10 == 0) = false := by rw [beq_eq_false_iff_ne]; omega
    clear ht c2
    have b1 : (0 : Int) ≤ (m : Int) % 10 := by omega
    have b2 : (m : Int) % 10 < 20 := by omega
    have b3 : (0 : Int) ≤ (m : Int) / 10 - 2 := by omega
    have b4 : (m : Int) / 10 - 2 < 8 := by omega
    have n1 := World.new_ne w _ hc1
    have n2 := World.new_ne w _ hc2
    go_enter Tryd.func41, Tryd.ntmps41
    go_wp2
    have r1 : (m : Int).tdiv 10 = m / 10 := Int.tdiv_eq_ediv_of_nonneg (by omega)
    have r2 : (m : Int).tmod 10 = m % 10 := Int.tmod_eq_emod_of_nonneg (by omega)
    have r3 : IntKind.i64.wrap ((m : Int) / 10) = m / 10 := IntWalk.i64_in _ (by omega)
    have r4 : IntKind.i64.wrap ((m : Int) / 10 - 2) = m / 10 - 2 := IntWalk.i64_in _ (by omega)
    have r5 : IntKind.i64.wrap ((m : Int) % 10) = m % 10 := IntWalk.i64_in _ (by omega)
    have r6 : ((m : Int) / 10 - 2).toNat = m / 10 - 2 := by omega
    have b5 : (2 : Int) ≤ (m : Int) / 10 := by omega
    have b6 : (m : Int) / 10 < 10 := by omega
    have b7 : (m : Int) / 10 < 8 + 2 := by omega
    have r7 : ((m : Int) % 10).toNat = m % 10 := by omega
    go_region_held3 (fun w' => w'.cell? ⟨2, m / 10 - 2, none⟩ = some (.string (wb (18 + m / 10))) ∧ w'.cell? ⟨1, m % 10, none⟩ = some (.string (wb (m % 10)))) (go_keep) (first | fail)
    clear r1 r2 r3 r4 r5 r6 r7 b7
    go_wp2
    go_ret
    rw [HL.out]
    exact ⟨_, _, rfl, own_built (xs := [_, _]) rfl rfl (Nat.le_refl _) (by first | omega | (simp only [List.length_cons, List.length_nil]; omega)), by (repeat (first | exact Below.refl _ _ | assumption | refine Below.drew ?_ | refine Below.alloc ?_ (by first | (simp; done) | (simp; omega) | omega) _ | refine Below.setCell ?_ (by first | (simp; done) | (simp; omega) | omega) _))⟩
set_option maxHeartbeats 1000000 in
theorem rsmall (m : Nat) (hm : m < 1000) (w : World) (ht : Tb w) :
    Calls Tryd.prog 41 #[.int .i64 m] w (GivesOwn 9 1 id w (rsmallL m).length (wv (rsmallL m))) := by
  by_cases c0 : m < 100
  · exact rsmall_lo m c0 w ht
  have c1 : 100 ≤ m := by omega
  have hc := ht.1 (m / 100) (by omega)
  have HL := Lib.hid (rs4 ⟨m, hm⟩ c1)
  simp only at HL
  have HR : Hid (∀ w, Tb w → Calls Tryd.prog 41 #[.int .i64 ((m : Int) % 100)] w (GivesOwn 9 1 id w (rsmallL (m % 100)).length (wv (rsmallL (m % 100))))) := Lib.hid fun w ht => by
    have := rsmall_lo (m % 100) (by omega) w ht
    rwa [Int.natCast_emod] at this
  have HT := Lib.hid ht
  have c2 : (20 : Int) ≤ (m : Int) := by omega
  by_cases c3 : m % 100 = 0
  · have c3' : ((m : Int) % 100 != 0) = false := by rw [bne_eq_false_iff_eq]; omega
    have HL2 : Hid (rsmallL m = [m / 100, 28]) := Lib.hid (by rw [HL.out, if_pos c3]; rfl)
    clear ht c3 c0
    go_enter Tryd.func41, Tryd.ntmps41
    go_wp2_with fail
    go_ret
    rw [HL2.out]
    exact ⟨_, _, rfl, own_built (xs := [_, _]) rfl rfl (Nat.le_refl _) (by first | omega | (simp only [List.length_cons, List.length_nil]; omega)), by (repeat (first | exact Below.refl _ _ | assumption | refine Below.drew ?_ | refine Below.alloc ?_ (by first | (simp; done) | (simp; omega) | omega) _ | refine Below.setCell ?_ (by first | (simp; done) | (simp; omega) | omega) _))⟩
  · have c3' : ((m : Int) % 100 != 0) = true := by rw [bne_iff_ne]; omega
    have HL2 : Hid (rsmallL m = [m / 100, 28] ++ rsmallL (m % 100)) := Lib.hid (by rw [HL.out, if_neg c3])
    have hle : (rsmallL (m % 100)).length ≤ 4 := by
      unfold rsmallL
      split
      · simp
      · exact smallL_le _
    generalize rsmallL (m % 100) = L at *
    clear ht c3 c0
    go_enter Tryd.func41, Tryd.ntmps41
    go_wp2_with (first
      | (go_at_call 41; refine (HR.out _ (HT.out.below (by exact (Below.refl _ _).alloc (Nat.le_refl _) _))).mono ?_; rintro e w1 ⟨A1, c1, rfl, hown1, hbel1⟩; have z1 := hbel1.size; simp only [World.size_alloc] at z1; have hown0 : w1.ownsRow w.heap.size 9 1 (.slice (some ⟨w.heap.size, 0, none⟩) 2 2) 2 [.string (wb (m / 100)), .string (wb 28)] := own_below (own_built (by rfl) rfl (Nat.le_refl _) (by omega)) hbel1)
      | (at_builtin; refine app_list rfl _ _ _ rfl elt_str (w.heap.size) _ rfl (hown0) _ _ rfl (Rd.of_own hown1) (by first | rfl | exact sv_one _ | exact wv_one _) (by omega) (by omega) (by first | (simp; done) | (simp; omega) | omega) ?_; intro A2 c2 w2 hown2 hbel2 hgr2 hat2; have z2 := hbel2.size; (try simp only [World.size_alloc] at z2); (try simp only [Nat.zero_add, List.nil_append] at hown2)))
    go_ret
    rw [HL2.out]
    have e : ([m / 100, 28] ++ L).length = 2 + L.length := by simp; omega
    refine ⟨A2, c2, by rw [e]; rfl, ?_, (((Below.refl _ _).alloc (Nat.le_refl _) _).trans (hbel1.mono (by simp))).trans (hbel2.mono (by omega))⟩
    rw [e]
    simpa [wv] using hown2
/-- The words of a number that is not negative. -/
def rposL (n : Nat) : List Nat := if n = 0 then [0] else posL n
theorem rpos_small (n : Nat) (h : n < 1000) : rposL n = rsmallL n := by
  unfold rposL rsmallL
  by_cases h0 : n = 0
  · rw [if_pos h0, if_pos h0]
  · rw [if_neg h0, if_neg h0, posL_eq]
    have a : n / 1000000 = 0 := by omega
    have b : n % 1000000 / 1000 = 0 := by omega
    have c : n % 1000000 % 1000 = n := by omega
    rw [a, b, c]
    simp [segL, segE, show 0 < n by omega]
theorem rpos_thousand (n : Nat) (h1 : 1000 ≤ n) (h2 : n < 1000000) : rposL n = rsmallL (n / 1000) ++ [29] ++ (if n % 1000 = 0 then [] else rposL (n % 1000)) := by
  have e : (if n % 1000 = 0 then [] else rposL (n % 1000)) = segE (n % 1000) := by
    by_cases h0 : n % 1000 = 0
    · rw [if_pos h0, h0]; rfl
    · rw [if_neg h0, rpos_small _ (by omega), rsmallL, if_neg h0, segE, if_pos (by omega)]
  rw [e, rposL, if_neg (by omega), posL_eq, rsmallL, if_neg (by omega)]
  have a : n / 1000000 = 0 := by omega
  have b : n % 1000000 / 1000 = n / 1000 := by omega
  have c : n % 1000000 % 1000 = n % 1000 := by omega
  rw [a, b, c]
  simp [segL, show 0 < n / 1000 by omega]
theorem rpos_million (n : Nat) (h1 : 1000000 ≤ n) (h2 : n < 1000000000) : rposL n = rsmallL (n / 1000000) ++ [30] ++ (if n % 1000000 = 0 then [] else rposL (n % 1000000)) := by
  have e : (if n % 1000000 = 0 then [] else rposL (n % 1000000)) = segL (n % 1000000 / 1000) 29 ++ segE (n % 1000000 % 1000) := by
    by_cases h0 : n % 1000000 = 0
    · rw [if_pos h0, h0]; rfl
    · have a : n % 1000000 / 1000000 = 0 := by omega
      have b : n % 1000000 % 1000000 = n % 1000000 := by omega
      rw [if_neg h0, rposL, if_neg h0, posL_eq, a, b]
      simp [segL]
  rw [e, rposL, if_neg (by omega), posL_eq, rsmallL, if_neg (by omega), segL, if_pos (by omega)]
  simp
theorem rposL_le (n : Nat) : (rposL n).length ≤ 14 := by
  unfold rposL
  split
  · simp
  · rw [posL_eq]
    have a := segL_le (n / 1000000) 30
    have b := segL_le (n % 1000000 / 1000) 29
    have c : (segE (n % 1000000 % 1000)).length ≤ 4 := by
      unfold segE
      split
      · exact smallL_le _
      · simp
    simp only [List.length_append]
    omega
theorem rsmallL_le (n : Nat) : (rsmallL n).length ≤ 4 := by
  unfold rsmallL
  split
  · simp
  · exact smallL_le _
end Go.Proofs.YtoiballfjbdoiaaDoor
