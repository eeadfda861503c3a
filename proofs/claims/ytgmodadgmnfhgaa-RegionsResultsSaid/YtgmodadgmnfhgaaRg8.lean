/- Children of both, same. -/
import Derived.Test.YtgmodadgmnfhgaaRg3
namespace Go.Proofs.Ytgmodadgmnfhgaa
open Go.RowKit
theorem elt_int : Elt Try.prog 37 3 (.int .i64 0) 1 8 where
  und := Try.underlying37
  row := by
    have h : (Try.prog.info? 3).map (fun i => (i.zero, i.size, i.bytes)) = some (some (.int .i64 0), 1, 8) := by kernel_rfl
    obtain ⟨i, hi, a, b, c⟩ := info_parts h
    exact ⟨i, hi, a, b, c⟩
  zs := rfl
  pos := by decide
theorem ivs_one (k : IntKind) (l : List Int) : (ivs k l).all Value.oneCell' = true := by
  rw [List.all_eq_true]
  intro u hu
  simp [ivs] at hu
  obtain ⟨i, _, rfl⟩ := hu
  rfl
theorem ivs_app (k : IntKind) (l m : List Int) : ivs k (l ++ m) = ivs k l ++ ivs k m := by simp [ivs]
set_option maxHeartbeats 800000 in
theorem children (l : List Reg) (p : Int) (A : Option Addr) (n c : Nat) (w : World) (hn : n ≤ 100000) (rd : Rd w w.heap.size 8 A n (encL l)) :
    Calls Try.prog 19 #[.slice A n c, .int .i64 p] w (GivesOwn 3 1 id w (kidsL l p n).length (ivs .i64 (kidsL l p n))) := by
  have HK : Hid (∀ k, kidsL l p (k + 1) = if l[k]!.par = p then kidsL l p k ++ [(k : Int)] else kidsL l p k) := Lib.hid fun k => rfl
  have H0 : Hid (kidsL l p 0 = []) := Lib.hid rfl
  generalize kidsL l p = f at *
  go_enter Try.func19, Try.ntmps19
  go_wp2
  go_loopw [5, 10] (fun x y wr => ∃ k m : Nat, k ≤ n ∧ y = .int .i64 k ∧ m ≤ k ∧ Hid ((f k).length = m) ∧ Ow wr w.heap.size 3 1 x m (ivs .i64 (f k)) ∧ Below w.heap.size w wr) (fun _ y _ => n - (intOf y).toNat)
  case atStart =>
    refine ⟨0, 0, Nat.zero_le _, rfl, Nat.zero_le _, Lib.hid (by rw [H0.out]; rfl), ?_, Below.refl _ _⟩
    rw [H0.out]
    exact ⟨none, 0, rfl, own_nil _ _ _ _⟩
  case round =>
    obtain ⟨k, m, hk, rfl, hm, HL, ⟨A0, c0, rfl, hown⟩, hbel⟩ := hrel
    obtain ⟨wo, rfl⟩ : ∃ x : World, x = wr := ⟨_, rfl⟩
    have hz := hbel.size
    by_cases hlt : k < n
    · obtain ⟨b, o, rfl, hb, hck⟩ := rd_reg rd hlt
      have hck' := c8_below hck hbel hb
      have HKk := Lib.hid (HK.out k)
      generalize l[k]! = r at *
      clear hck
      obtain ⟨g0, g1, g2, g3, g4, g5, g6, g7⟩ := hck'
      by_cases hp : r.par = p
      · have HF : Hid (f (k + 1) = f k ++ [(k : Int)]) := Lib.hid (by rw [HKk.out, if_pos hp])
        have hpb : (r.par == p) = true := by simp [hp]
        clear hp
        go_wp2_with (at_builtin; refine app_list rfl _ _ _ rfl elt_int (w.heap.size) _ rfl ((own_below hown (((Below.refl _ _).alloc (by simp) _).alloc (by simp) _))) _ _ rfl ((rd_built (by simp) rfl)) (by first | rfl | exact ivs_one _ _) (by omega) (by omega) (by first | (simp; done) | (simp; omega) | omega) ?_; intro A1 c1 w1 hown1 hbel1 hgr1 hat1; have z1 := hbel1.size; (try simp only [World.size_alloc] at z1); (try simp only [Nat.zero_add, List.nil_append] at hown1))
        refine ⟨⟨k + 1, m + 1, by omega, by go_num, by omega, Lib.hid (by rw [HF.out, List.length_append, HL.out]; rfl), ⟨A1, c1, rfl, ?_⟩, ?_⟩, by simp [intOf]; omega⟩
        · rw [HF.out, ivs_app]
          exact hown1
        · exact Below.trans (by (repeat (first | exact Below.refl _ _ | assumption | refine Below.drew ?_ | refine Below.alloc ?_ (by first | (simp; done) | (simp; omega) | omega) _ | refine Below.setCell ?_ (by first | (simp; done) | (simp; omega) | omega) _))) hbel1
      · have HF : Hid (f (k + 1) = f k) := Lib.hid (by rw [HKk.out, if_neg hp])
        have hpb : (r.par == p) = false := by simp [hp]
        clear hp
        go_wp2
        refine ⟨⟨k + 1, m, by omega, by go_num, by omega, Lib.hid (by rw [HF.out, HL.out]), ⟨A0, c0, rfl, ?_⟩, ?_⟩, by simp [intOf]; omega⟩
        · rw [HF.out]
          exact own_below hown (below_box _ _)
        · exact hbel.alloc hz _
    · obtain rfl : k = n := by omega
      go_wp2
      go_ret
      have e := HL.out
      exact ⟨A0, c0, by rw [e]; rfl, by rw [e]; exact hown, hbel⟩
set_option maxHeartbeats 800000 in
theorem rchildren (l : List Reg) (p : Int) (A : Option Addr) (n c : Nat) (w : World) (hn : n ≤ 100000) (rd : Rd w w.heap.size 8 A n (encL l)) :
    Calls Try.prog 20 #[.slice A n c, .int .i64 p] w (GivesOwn 3 1 id w (kidsL l p n).length (ivs .i64 (kidsL l p n))) := by
  have HK : Hid (∀ k, kidsL l p (k + 1) = if l[k]!.par = p then kidsL l p k ++ [(k : Int)] else kidsL l p k) := Lib.hid fun k => rfl
  have H0 : Hid (kidsL l p 0 = []) := Lib.hid rfl
  generalize kidsL l p = f at *
  go_enter Try.func20, Try.ntmps20
  go_wp2
  go_loopw [5, 6] (fun x y wr => ∃ k m : Nat, k ≤ n ∧ y = .int .i64 k ∧ m ≤ k ∧ Hid ((f k).length = m) ∧ Ow wr w.heap.size 3 1 x m (ivs .i64 (f k)) ∧ Below w.heap.size w wr) (fun _ y _ => n - (intOf y).toNat)
  case atStart =>
    refine ⟨0, 0, Nat.zero_le _, rfl, Nat.zero_le _, Lib.hid (by rw [H0.out]; rfl), ?_, below_box _ _⟩
    rw [H0.out]
    exact ⟨_, _, rfl, own_built (xs := []) rfl rfl (Nat.le_refl _) (by omega)⟩
  case round =>
    obtain ⟨k, m, hk, rfl, hm, HL, ⟨A0, c0, rfl, hown⟩, hbel⟩ := hrel
    obtain ⟨wo, rfl⟩ : ∃ x : World, x = wr := ⟨_, rfl⟩
    have hz := hbel.size
    by_cases hlt : k < n
    · obtain ⟨b, o, rfl, hb, hck⟩ := rd_reg rd hlt
      have hck' := c8_below hck hbel hb
      have HKk := Lib.hid (HK.out k)
      generalize l[k]! = r at *
      clear hck
      obtain ⟨g0, g1, g2, g3, g4, g5, g6, g7⟩ := hck'
      by_cases hp : r.par = p
      · have HF : Hid (f (k + 1) = f k ++ [(k : Int)]) := Lib.hid (by rw [HKk.out, if_pos hp])
        have hpb : (r.par == p) = true := by simp [hp]
        clear hp
        go_wp2_with (at_builtin; refine app_list rfl _ _ _ rfl elt_int (w.heap.size) _ rfl ((own_below hown ((Below.refl _ _).alloc (by simp) _))) _ _ rfl ((rd_built (by simp) rfl)) (by first | rfl | exact ivs_one _ _) (by omega) (by omega) (by first | (simp; done) | (simp; omega) | omega) ?_; intro A1 c1 w1 hown1 hbel1 hgr1 hat1; have z1 := hbel1.size; (try simp only [World.size_alloc] at z1); (try simp only [Nat.zero_add, List.nil_append] at hown1))
        refine ⟨⟨k + 1, m + 1, by omega, by go_num, by omega, Lib.hid (by rw [HF.out, List.length_append, HL.out]; rfl), ⟨A1, c1, rfl, ?_⟩, ?_⟩, by simp [intOf]; omega⟩
        · rw [HF.out, ivs_app]
          exact hown1
        · exact Below.trans (by (repeat (first | exact Below.refl _ _ | assumption | refine Below.drew ?_ | refine Below.alloc ?_ (by first | (simp; done) | (simp; omega) | omega) _ | refine Below.setCell ?_ (by first | (simp; done) | (simp; omega) | omega) _))) hbel1
      · have HF : Hid (f (k + 1) = f k) := Lib.hid (by rw [HKk.out, if_neg hp])
        have hpb : (r.par == p) = false := by simp [hp]
        clear hp
        go_wp2
        refine ⟨⟨k + 1, m, by omega, by go_num, by omega, Lib.hid (by rw [HF.out, HL.out]), ⟨A0, c0, rfl, ?_⟩, ?_⟩, by simp [intOf]; omega⟩
        · rw [HF.out]
          exact hown
        · exact hbel
    · obtain rfl : k = n := by omega
      go_wp2
      go_ret
      have e := HL.out
      exact ⟨A0, c0, by rw [e]; rfl, by rw [e]; exact hown, hbel⟩
end Go.Proofs.Ytgmodadgmnfhgaa
