/- RegionsStable: the law's walk. -/
import Derived.Test.YtgmodadgmnfhgaaRgL1
namespace Go.Proofs.Ytgmodadgmnfhgaa
open Go.RowKit
def turnK (l : List Reg) (n s k : Nat) : List Reg := (List.range k).map fun i => l[(n - 1 - i + s) % n]!
theorem turn_perm {l : List Reg} {n : Nat} (hn : l.length = n) (s : Nat) (h0 : 0 < n) : (turnK l n s n).Perm l := by
  have ha : s % n < n := Nat.mod_lt _ h0
  have hs : s = s % n + n * (s / n) := by have := Nat.mod_add_div s n; omega
  have he : turnK l n s n = (l.take (s % n)).reverse ++ (l.drop (s % n)).reverse := by
    apply List.ext_getElem
    · simp [turnK]; omega
    · intro i h1 h2
      have hi : i < n := by simpa [turnK] using h1
      have hm : (n - 1 - i + s) % n = (n - 1 - i + s % n) % n := by
        conv => lhs; rw [hs]
        rw [← Nat.add_assoc, Nat.add_mul_mod_self_left]
      have e1 : (turnK l n s n)[i] = l[(n - 1 - i + s % n) % n]! := by
        simp only [turnK, List.getElem_map, List.getElem_range]
        rw [hm]
      rw [e1]
      by_cases c : i < s % n
      · have e2 : (n - 1 - i + s % n) % n = s % n - 1 - i := by
          rw [show n - 1 - i + s % n = (s % n - 1 - i) + n by omega, Nat.add_mod_right, Nat.mod_eq_of_lt (by omega)]
        rw [e2, List.getElem_append_left (by simp; omega), List.getElem_reverse, List.getElem_take, getElem!_pos l _ (by omega)]
        congr 1
        simp
        omega
      · have e2 : (n - 1 - i + s % n) % n = n - 1 - i + s % n := Nat.mod_eq_of_lt (by omega)
        rw [e2, List.getElem_append_right (by simp; omega), List.getElem_reverse, List.getElem_drop, getElem!_pos l _ (by omega)]
        congr 1
        simp
        omega
  rw [he]
  refine ((List.reverse_perm _).append (List.reverse_perm _)).trans ?_
  rw [List.take_append_drop]
theorem turn_succ (l : List Reg) (n s k : Nat) : turnK l n s (k + 1) = turnK l n s k ++ [l[(n - 1 - k + s) % n]!] := by
  simp [turnK, List.range_succ]
theorem turn_len (l : List Reg) (n s k : Nat) : (turnK l n s k).length = k := by simp [turnK]
set_option maxHeartbeats 2000000 in
theorem law_RegionsStable (w : World) (A : Option Addr) (n c : Nat) (l : List Reg) (hn : l.length = n) (hc : n ≤ c) (hm : c ≤ maxLen) (rd : Rd w w.heap.size 8 A n (encL l)) (_hs : ∀ r ∈ l, r.label.size ≤ maxLen)
    (sh : Int) (wsh : (Lit.int .u8 sh).wf = true) : Calls Try.prog 4 #[.slice A n c, .int .u8 sh] w (Gives (.bool true) w) := by
  have hnm : n ≤ maxLen := Nat.le_trans hc hm
  have hsb : 0 ≤ sh ∧ sh ≤ 255 := by simpa [Lit.wf, IntKind.min, IntKind.max, IntKind.signed, IntKind.bits] using wsh
  obtain ⟨s, rfl⟩ := Int.eq_ofNat_of_zero_le hsb.1
  have hs255 : s ≤ 255 := by omega
  have HG := Lib.hid (rgreat l A n c w.heap.size w hnm rd)
  have HA : Hid (∀ w, Calls Try.prog 9 #[] w (Gives (.bool true) w)) := Lib.hid awake
  clear _hs wsh hsb
  cases hg : grB l with
  | true =>
    rw [grI_t hg] at HG
    clear hg
    go_enter Try.func4, Try.ntmps4
    go_wp2_with (first
      | (go_at_call 8; refine HG.out.mono ?_; rintro e w1 ⟨rfl, rfl⟩)
      | (go_at_call 9; refine (HA.out _).mono ?_; rintro e w2 ⟨rfl, hbel2⟩))
    go_ret
    exact ⟨rfl, hbel2⟩
  | false =>
    rw [grI_f hg] at HG
    have hn60 : n ≤ 60 := by have := grB_le hg; omega
    have hN := nest_ l A n c w (by omega) rd
    have hle : (nestL l).length ≤ 60 := by have := nestL_len l; omega
    have HN := Lib.hid hN
    have HN2 : Hid (∀ A c w1, Rd w1 w1.heap.size 8 A (nestL l).length (encL (nestL l)) → Calls Try.prog 11 #[.slice A (nestL l).length c] w1 (GivesOwn 31 8 id w1 (nestL l).length (encL (nestL l)))) := Lib.hid fun A c w1 h => by
      have := nest_ (nestL l) A _ c w1 (by omega) h
      rwa [nest_nest] at this
    have HN3 : Hid (∀ A c w1, Rd w1 w1.heap.size 8 A n (encL (turnK l n s n)) → Calls Try.prog 11 #[.slice A n c] w1 (GivesOwn 31 8 id w1 (nestL l).length (encL (nestL l)))) := Lib.hid fun A c w1 h => by
      have := nest_ (turnK l n s n) A n c w1 (by omega) h
      rcases Nat.eq_zero_or_pos n with h0 | h0
      · obtain rfl : l = [] := List.length_eq_zero_iff.1 (by omega)
        subst h0
        exact this
      · rwa [nestL_perm (turn_perm hn s h0)] at this
    have HCK : Hid (∀ A c w1, (nestL l).length ≤ c → c ≤ maxLen → Rd w1 w1.heap.size 8 A (nestL l).length (encL (nestL l)) → Calls Try.prog 13 #[.slice A (nestL l).length c] w1 (Gives (.int .i64 0) w1)) := Lib.hid fun A c w1 h1 h2 h3 => by
      have := check (nestL l) A _ c w1 h1 h2 h3
      rwa [check_nest l (by omega)] at this
    have hni : (n : Int) ≤ 60 := by omega
    clear hN hg hm
    generalize nestL l = N at *
    go_enter Try.func4, Try.ntmps4
    go_wp2_with (first
      | (go_at_call 8; refine HG.out.mono ?_; rintro e w1 ⟨rfl, rfl⟩)
      | (go_at_call 11; refine HN.out.mono ?_; rintro e w1 ⟨A1, c1, rfl, hown1, hbel1⟩; have z1 := hbel1.size))
    have hcap1 := own_cap hown1
    have tb := hbel1.alloc z1 (.cells #[] 31)
    have ob := own_below hown1 (below_box w1 (.cells #[] 31))
    go_loopw [6, 17] (fun x y wr => ∃ k : Nat, k ≤ n ∧ y = .int .i64 k ∧ Ow wr w1.heap.size 31 8 x k (encL (turnK l n s k)) ∧ Below w1.heap.size w1 wr) (fun _ y _ => n - (intOf y).toNat)
    case atStart => exact ⟨0, Nat.zero_le _, rfl, ⟨_, _, rfl, own_built (xs := []) rfl rfl (Nat.le_refl _) (by omega)⟩, below_box _ _⟩
    case round =>
      clear tb ob
      obtain ⟨k, hk, rfl, ⟨A2, c2, rfl, hown⟩, hbel⟩ := hrel
      obtain ⟨wo, rfl⟩ : ∃ x : World, x = wr := ⟨_, rfl⟩
      have hz := hbel.size
      by_cases hlt : k < n
      · have hq : (n - 1 - k + s) % n < n := Nat.mod_lt _ (by omega)
        have rdo := (rd.below hbel1).below (hbel.mono z1)
        have HT := Lib.hid (turn_succ l n s k)
        have eq1 : ((n : Int) - 1 - (k : Int) + (s : Int)).tmod (n : Int) = (((n - 1 - k + s) % n : Nat) : Int) := by
          rw [show ((n : Int) - 1 - (k : Int) + (s : Int)) = ((n - 1 - k + s : Nat) : Int) by omega, Int.tmod_eq_emod_of_nonneg (by omega)]
          rfl
        generalize (n - 1 - k + s) % n = q at *
        obtain ⟨b, o, rfl, hb, g0, g1, g2, g3, g4, g5, g6, g7⟩ := rd_reg rdo hq
        generalize l[q]! = r at *
        have e1 : IntKind.i64.wrap ((n : Int) - 1) = (n : Int) - 1 := IntWalk.i64_in _ (by omega)
        have e2 : IntKind.i64.wrap ((n : Int) - 1 - (k : Int)) = (n : Int) - 1 - (k : Int) := IntWalk.i64_in _ (by omega)
        have e3 : IntKind.i64.wrap ((n : Int) - 1 - (k : Int) + (s : Int)) = (n : Int) - 1 - (k : Int) + (s : Int) := IntWalk.i64_in _ (by omega)
        have e4 : IntKind.i64.wrap (s : Int) = (s : Int) := IntWalk.i64_in _ (by omega)
        have e5 : IntKind.i64.wrap (q : Int) = (q : Int) := IntWalk.i64_in _ (by omega)
        have e6 : ((n : Int) == 0) = false := beq_eq_false_iff_ne.2 (by omega)
        have e7 : ¬ (n : Int) = 0 := by omega
        have e8 : (q : Int) < (n : Int) := by omega
        clear rdo rd
        go_wp2_with (at_builtin; refine app_list rfl _ _ _ rfl elt_reg (w1.heap.size) _ rfl ((own_below hown (below_box wo _))) _ _ rfl ((rd_built (xs := encR r) rfl rfl)) (by first | rfl | exact encL_cells _) (by omega) (by omega) (by first | (simp; done) | (simp; omega) | omega) ?_; intro A3 c3 w3 hown3 hbel3 hgr3 hat3; have z3 := hbel3.size; (try simp only [World.size_alloc] at z3); (try simp only [Nat.zero_add, List.nil_append] at hown3))
        refine ⟨⟨k + 1, by omega, by go_num, ⟨A3, c3, rfl, ?_⟩, (hbel.alloc hz _).trans hbel3⟩, by simp [intOf]; omega⟩
        rw [HT.out, encL_app, encL_one]
        exact hown3
      · obtain rfl : k = n := by omega
        have o1 := Rd.of_own (own_below hown1 hbel)
        have o2 := Rd.of_own hown
        obtain ⟨p1, p2⟩ := hcap1
        have t0 := hbel1.trans (hbel.mono z1)
        go_wp2_with (first
          | (go_at_call 11; (fail_if_success have := hbel3); refine (HN2.out _ _ _ o1).mono ?_; rintro e w3 ⟨A3, c3, rfl, hown3, hbel3⟩; have t3 := t0.trans (hbel3.mono t0.size); have z3 := hbel3.size)
          | (go_at_call 10; (fail_if_success have := hbel4); refine (same_t N A3 A1 _ c3 c1 _ _ (by omega) (Rd.of_own hown3) ((o1.below hbel3).more z3)).mono ?_; rintro e w4 ⟨rfl, hbel4⟩; have t4 := t3.trans (hbel4.mono t3.size); have z4 := hbel4.size; have hb4 := hbel3.trans (hbel4.mono z3))
          | (go_at_call 11; refine (HN3.out _ _ _ ((o2.below hb4).more hb4.size)).mono ?_; rintro e w5 ⟨A5, c5, rfl, hown5, hbel5⟩; have t5 := t4.trans (hbel5.mono t4.size); have z5 := hbel5.size; have hb5 := hb4.trans (hbel5.mono hb4.size))
          | (go_at_call 10; refine (same_t N A5 A1 _ c5 c1 _ _ (by omega) (Rd.of_own hown5) ((o1.below hb5).more hb5.size)).mono ?_; rintro e w6 ⟨rfl, hbel6⟩; have t6 := t5.trans (hbel6.mono t5.size); have hb6 := hb5.trans (hbel6.mono hb5.size))
          | (go_at_call 13; refine (HCK.out _ _ _ p1 p2 ((o1.below hb6).more hb6.size)).mono ?_; rintro e w7 ⟨rfl, hbel7⟩; have t7 := t6.trans (hbel7.mono t6.size))
          | (go_at_call 9; refine (HA.out _).mono ?_; rintro e w8 ⟨rfl, hbel8⟩; have t8 := t7.trans (hbel8.mono t7.size)))
        go_ret
        exact ⟨rfl, t8⟩
end Go.Proofs.Ytgmodadgmnfhgaa
