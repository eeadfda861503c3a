/- The reference of layer 38: value. -/
import Derived.Test.YtoiballfjbdoiaaDoorRef2
import Derived.Test.YtoiballfjbdoiaaDoorRefP
namespace Go.Proofs.YtoiballfjbdoiaaDoor
open Go.RowKit
theorem foldl_take_succ (l : List ByteArray) (k : Nat) (h : k < l.length) (x : Int × Int) : (l.take (k + 1)).foldl stepR x = stepR ((l.take k).foldl stepR x) l[k] := by
  rw [List.take_succ_eq_append_getElem h, List.foldl_append]
  rfl
set_option maxHeartbeats 2000000 in
theorem rvalue (l : List ByteArray) (A : Option Addr) (n c B : Nat) (w : World) (hn : l.length = n) (hl : Rd w B 1 A n (sv l)) (hbig : n ≤ maxLen) (ht : Tb w) :
    Calls Tryd.prog 45 #[.slice A n c] w (Quiet (.int .i64 (valR l)) w) := by
  have hb2 : n ≤ 9223372036854775807 := by unfold maxLen at hbig; omega
  have Hn := Lib.hid hn
  have HT := Lib.hid ht
  have HV : Hid (∀ a g, l.foldl stepR (0, 0) = (a, g) → valR l = if l.head? = some (wb 31) then wrap64 (wrap64 (-a) - g) else wrap64 (a + g)) := Lib.hid fun a g h => by
    unfold valR
    rw [h]
  clear hn ht hbig
  generalize valR l = R at *
  go_enter Tryd.func45, Tryd.ntmps45
  go_wp2
  go_loopw [3, 4, 5] (fun x y z wr => ∃ (k j : Nat) (a g : Int), k ≤ n ∧ z = .int .i64 k ∧ x = .int .i64 a ∧ y = .int .i64 g ∧ wr = w.drewN j ∧ Hid ((l.take k).foldl stepR (0, 0) = (a, g))) (fun _ _ z _ => n - (intOf z).toNat)
  case atStart => exact ⟨0, 0, 0, 0, Nat.zero_le _, rfl, rfl, rfl, rfl, Lib.hid rfl⟩
  case round =>
    obtain ⟨k, j, a, g, hk, rfl, rfl, rfl, rfl, HF⟩ := hrel
    by_cases hlt : k < n
    · obtain ⟨b, o, rfl, hbB, hc⟩ := hl.at_ hlt
      have hkl : k < l.length := by rw [Hn.out]; exact hlt
      rw [sv_get _ _ hkl] at hc
      have HS : Hid ((l.take (k + 1)).foldl stepR (0, 0) = stepR (a, g) l[k]) := Lib.hid (by rw [foldl_take_succ l k hkl, HF.out])
      generalize l[k] = s at *
      have HS2 : Hid ((l.take (k + 1)).foldl stepR (0, 0) = ((swR a g s).1, tensR s (unitsR s (swR a g s).2 20) 8)) := Lib.hid HS.out
      have t28 := lit_beq s (wb 28) [104, 117, 110, 100, 114, 101, 100] rfl
      have t29 := lit_beq s (wb 29) [116, 104, 111, 117, 115, 97, 110, 100] rfl
      have t30 := lit_beq s (wb 30) [109, 105, 108, 108, 105, 111, 110] rfl
      go_upto_block 2 with (fail)
      go_cut [3, 4] (fun x y wx => wx = w.drewN j ∧ x = .int .i64 (swR a g s).1 ∧ y = .int .i64 (swR a g s).2)
      case first =>
        by_cases c28 : s = wb 28
        · have d28 : (s.toList == [104, 117, 110, 100, 114, 101, 100]) = true := by rw [t28]; simp [c28]
          have HH : Hid (swR a g s = (a, wrap64 (100 * g))) := Lib.hid (by unfold swR; rw [if_pos c28])
          clear t28 t29 t30 c28
          go_wp2_with fail
          go_meet
          rw [HH.out]
          exact ⟨rfl, rfl, rfl⟩
        have d28 : (s.toList == [104, 117, 110, 100, 114, 101, 100]) = false := by rw [t28]; simp [c28]
        by_cases c29 : s = wb 29
        · have d29 : (s.toList == [116, 104, 111, 117, 115, 97, 110, 100]) = true := by rw [t29]; simp [c29]
          have HH : Hid (swR a g s = (wrap64 (a + wrap64 (1000 * g)), 0)) := Lib.hid (by unfold swR; rw [if_neg c28, if_pos c29])
          clear t28 t29 t30 c28 c29
          go_wp2_with fail
          go_meet
          rw [HH.out]
          exact ⟨rfl, rfl, rfl⟩
        have d29 : (s.toList == [116, 104, 111, 117, 115, 97, 110, 100]) = false := by rw [t29]; simp [c29]
        by_cases c30 : s = wb 30
        · have d30 : (s.toList == [109, 105, 108, 108, 105, 111, 110]) = true := by rw [t30]; simp [c30]
          have HH : Hid (swR a g s = (wrap64 (a + wrap64 (1000000 * g)), 0)) := Lib.hid (by unfold swR; rw [if_neg c28, if_neg c29, if_pos c30])
          clear t28 t29 t30 c28 c29 c30
          go_wp2_with fail
          go_meet
          rw [HH.out]
          exact ⟨rfl, rfl, rfl⟩
        have d30 : (s.toList == [109, 105, 108, 108, 105, 111, 110]) = false := by rw [t30]; simp [c30]
        have HH : Hid (swR a g s = (a, g)) := Lib.hid (by unfold swR; rw [if_neg c28, if_neg c29, if_neg c30])
        clear t28 t29 t30 c28 c29 c30
        go_wp2_with fail
        go_meet
        rw [HH.out]
        exact ⟨rfl, rfl, rfl⟩
      case rest =>
        obtain ⟨rfl, rfl, rfl⟩ := hcut
        clear t28 t29 t30 HS
        generalize (swR a g s).1 = a1 at *
        generalize (swR a g s).2 = g1 at *
        go_wp2_with fail
        go_loopw [4, 6] (fun y z wr => ∃ (i j : Nat) (g : Int), i ≤ 20 ∧ z = .int .i64 i ∧ y = .int .i64 g ∧ wr = w.drewN j ∧ Hid (g = unitsR s g1 i)) (fun _ z _ => 20 - (intOf z).toNat)
        case atStart => exact ⟨0, j, g1, by omega, rfl, rfl, rfl, Lib.hid rfl⟩
        case round =>
          obtain ⟨i, j1, g2, hi, rfl, rfl, rfl, HG⟩ := hrel
          by_cases hi20 : i < 20
          · have hcu := HT.out.1 i hi20
            have HU : Hid (unitsR s g1 (i + 1) = if wb i = s then wrap64 (g2 + i) else g2) := Lib.hid (by rw [unitsR, HG.out])
            have HB := Lib.hid (str_beq (wb i) s)
            generalize wb i = u at *
            go_wp2
            go_quiet (fail)
            go_wp2
            · rename_i he
              rw [HB.out, decide_eq_true_eq] at he
              exact ⟨⟨i + 1, _, _, by omega, by go_num, rfl, rfl, Lib.hid (by rw [HU.out, if_pos he])⟩, by simp [intOf]; omega⟩
            · rename_i he
              rw [HB.out, decide_eq_false_iff_not] at he
              exact ⟨⟨i + 1, _, _, by omega, by go_num, rfl, rfl, Lib.hid (by rw [HU.out, if_neg he])⟩, by simp [intOf]; omega⟩
          · obtain rfl : i = 20 := by omega
            go_wp2_with fail
            go_loopw [4, 7] (fun y z wr => ∃ (i j : Nat) (g : Int), i ≤ 8 ∧ z = .int .i64 i ∧ y = .int .i64 g ∧ wr = w.drewN j ∧ Hid (g = tensR s g2 i)) (fun _ z _ => 8 - (intOf z).toNat)
            case atStart => exact ⟨0, j1, g2, by omega, rfl, rfl, rfl, Lib.hid rfl⟩
            case round =>
              obtain ⟨i, j2, g3, hi, rfl, rfl, rfl, HG3⟩ := hrel
              by_cases hi8 : i < 8
              · have hcu := HT.out.2 i hi8
                have HU : Hid (tensR s g2 (i + 1) = if wb (20 + i) = s then wrap64 (wrap64 (g3 + 10 * i) + 20) else g3) := Lib.hid (by rw [tensR, HG3.out])
                have HB := Lib.hid (str_beq (wb (20 + i)) s)
                generalize wb (20 + i) = u at *
                go_wp2
                go_quiet (fail)
                go_wp2
                · rename_i he
                  rw [HB.out, decide_eq_true_eq] at he
                  exact ⟨⟨i + 1, _, _, by omega, by go_num, rfl, rfl, Lib.hid (by rw [HU.out, if_pos he])⟩, by simp [intOf]; omega⟩
                · rename_i he
                  rw [HB.out, decide_eq_false_iff_not] at he
                  exact ⟨⟨i + 1, _, _, by omega, by go_num, rfl, rfl, Lib.hid (by rw [HU.out, if_neg he])⟩, by simp [intOf]; omega⟩
              · obtain rfl : i = 8 := by omega
                have HX : Hid ((l.take (k + 1)).foldl stepR (0, 0) = (a1, g3)) := Lib.hid (by rw [HS2.out, HG3.out, HG.out])
                go_wp2_with fail
                exact ⟨⟨k + 1, _, _, _, by omega, by go_num, rfl, rfl, rfl, HX⟩, by simp [intOf]; omega⟩
    · obtain rfl : k = n := by omega
      have HF2 : Hid (l.foldl stepR (0, 0) = (a, g)) := Lib.hid (by have := HF.out; rwa [List.take_of_length_le (by rw [Hn.out]; exact Nat.le_refl _)] at this)
      have HR := Lib.hid (HV.out a g HF2.out)
      by_cases h0 : 0 < k
      · obtain ⟨b, o, rfl, hbB, hc⟩ := hl.at_ h0
        have hkl : 0 < l.length := by rw [Hn.out]; exact h0
        rw [sv_get _ _ hkl, Nat.add_zero] at hc
        have hh : l.head? = some l[0] := by
          cases l with
          | nil => simp at hkl
          | cons x t => rfl
        have t31 := lit_beq l[0] (wb 31) [109, 105, 110, 117, 115] rfl
        by_cases c31 : l[0] = wb 31
        · have d31 : (l[0].toList == [109, 105, 110, 117, 115]) = true := by rw [t31]; simp [c31]
          have HR2 : Hid (R = wrap64 (wrap64 (-a) - g)) := Lib.hid (by rw [HR.out, if_pos (by rw [hh, c31])])
          clear t31 hh c31
          generalize l[0] = s at *
          go_wp2_with fail
          go_ret
          exact ⟨by rw [HR2.out]; rfl, j, rfl⟩
        · have d31 : (l[0].toList == [109, 105, 110, 117, 115]) = false := by rw [t31]; simp [c31]
          have HR2 : Hid (R = wrap64 (a + g)) := Lib.hid (by rw [HR.out, if_neg (by rw [hh]; simpa using c31)])
          clear t31 hh c31
          generalize l[0] = s at *
          go_wp2_with fail
          go_ret
          exact ⟨by rw [HR2.out]; rfl, j, rfl⟩
      · have hnil : l = [] := List.eq_nil_of_length_eq_zero (by rw [Hn.out]; omega)
        have HR2 : Hid (R = wrap64 (a + g)) := Lib.hid (by rw [HR.out, if_neg (by rw [hnil]; simp)])
        clear hnil
        go_wp2_with fail
        go_ret
        exact ⟨by rw [HR2.out]; rfl, j, rfl⟩
def refPair (l : List ByteArray) : Value := numPair (refNumberL l)
set_option maxHeartbeats 800000 in
theorem rnumber_short (l : List ByteArray) (A : Option Addr) (c : Nat) (w : World) (h : l.length = 0 ∨ 15 < l.length) :
    Calls Tryd.prog 39 #[.slice A l.length c] w (Gives (numPair (refNumberL l)) w) := by
  have hN : refNumberL l = none := by unfold refNumberL; rw [if_pos h]
  rw [hN]
  by_cases h0 : l.length = 0
  · have e0 : ((l.length : Int) == 0) = true := by simp [h0]
    clear h h0
    go_enter Tryd.func39, Tryd.ntmps39
    go_wp2
    go_ret2
    exact ⟨rfl, Below.refl _ _⟩
  · have e0 : ((l.length : Int) == 0) = false := beq_eq_false_iff_ne.2 (by omega)
    have e1 : 15 < l.length := by omega
    clear h h0
    go_enter Tryd.func39, Tryd.ntmps39
    go_wp2
    go_ret2
    exact ⟨rfl, Below.refl _ _⟩
set_option maxHeartbeats 800000 in
theorem rnumber_long (l : List ByteArray) (A : Option Addr) (n c : Nat) (w : World) (hn : l.length = n) (hl : Rd w w.heap.size 1 A n (sv l)) (h0 : 0 < n) (h1 : n ≤ 15) (ht : Tb w) :
    Calls Tryd.prog 39 #[.slice A n c] w (Gives (numPair (refNumberL l)) w) := by
  have e0 : ((n : Int) == 0) = false := beq_eq_false_iff_ne.2 (by omega)
  have Hn := Lib.hid hn
  have HT := Lib.hid ht
  have HN : Hid (refNumberL l = checkN l (valR l)) := Lib.hid (by unfold refNumberL; rw [if_neg (by omega)])
  have HV := Lib.hid (rvalue l A n c w.heap.size w hn hl (by unfold maxLen; omega) ht)
  clear hn ht
  generalize refNumberL l = R at *
  generalize valR l = v at *
  by_cases hin : -999999999 ≤ v ∧ v ≤ 999999999
  · obtain ⟨i1, i2⟩ := hin
    have hle := wordsL_le v
    by_cases heq : (wordsL v).map wb = l
    · have HR2 : Hid (R = some v) := Lib.hid (by rw [HN.out]; unfold checkN; rw [if_pos ⟨i1, i2, heq⟩])
      have HE := Lib.hid heq
      clear heq
      go_enter Tryd.func39, Tryd.ntmps39
      go_wp2_with (first
        | (go_at_call 45; refine HV.out.mono ?_; rintro e w1 ⟨rfl, n1, rfl⟩)
        | (go_at_call 29; refine (rwords_in v i1 i2 _ (HT.out.drewN _)).mono ?_; rintro e w2 ⟨A2, c2, rfl, hown2, hbel2⟩)
        | (go_at_call 11; refine (same_t ((wordsL v).map wb) (l) (HE.out) _ _ _ _ _ _ _ _ _ (by first | rfl | assumption | exact Hn.out | (simp; done) | (simp; omega)) (by first | rfl | assumption | exact Hn.out | (simp; done) | (simp; omega)) (by rw [← wv_sv]; exact Rd.of_own hown2) ((Rd.below (w := w.drewN _) hl hbel2)) (by first | omega | (simp only [List.length_cons, List.length_nil]; omega)) (by first | omega | (simp only [List.length_cons, List.length_nil]; omega))).mono ?_; rintro e w3 ⟨rfl, n3, rfl⟩))
      go_ret2
      rw [HR2.out]
      exact ⟨rfl, below_drewN (below_of_drewN hbel2)⟩
    · have HR2 : Hid (R = none) := Lib.hid (by rw [HN.out]; unfold checkN; rw [if_neg (fun h => heq h.2.2)])
      have HE := Lib.hid heq
      clear heq
      go_enter Tryd.func39, Tryd.ntmps39
      go_wp2_with (first
        | (go_at_call 45; refine HV.out.mono ?_; rintro e w1 ⟨rfl, n1, rfl⟩)
        | (go_at_call 29; refine (rwords_in v i1 i2 _ (HT.out.drewN _)).mono ?_; rintro e w2 ⟨A2, c2, rfl, hown2, hbel2⟩)
        | (go_at_call 11; refine (same_f ((wordsL v).map wb) (l) (HE.out) _ _ _ _ _ _ _ _ _ (by first | rfl | assumption | exact Hn.out | (simp; done) | (simp; omega)) (by first | rfl | assumption | exact Hn.out | (simp; done) | (simp; omega)) (by rw [← wv_sv]; exact Rd.of_own hown2) ((Rd.below (w := w.drewN _) hl hbel2)) (by first | omega | (simp only [List.length_cons, List.length_nil]; omega)) (by first | omega | (simp only [List.length_cons, List.length_nil]; omega))).mono ?_; rintro e w3 ⟨rfl, n3, rfl⟩))
      go_ret2
      rw [HR2.out]
      exact ⟨rfl, below_drewN (below_of_drewN hbel2)⟩
  · have HR2 : Hid (R = none) := Lib.hid (by rw [HN.out]; unfold checkN; rw [if_neg (fun h => hin ⟨h.1, h.2.1⟩)])
    go_enter Tryd.func39, Tryd.ntmps39
    go_wp2_with (first
      | (go_at_call 45; refine HV.out.mono ?_; rintro e w1 ⟨rfl, n1, rfl⟩)
      | (go_at_call 29; refine (rwords_range v (by omega) _).mono ?_; rintro e w2 ⟨rfl, hbel2⟩))
    go_ret2
    rw [HR2.out]
    exact ⟨rfl, below_of_drewN hbel2⟩
theorem rnumber (l : List ByteArray) (A : Option Addr) (n c : Nat) (w : World) (hn : l.length = n) (hl : Rd w w.heap.size 1 A n (sv l)) (ht : Tb w) :
    Calls Tryd.prog 39 #[.slice A n c] w (Gives (numPair (numberL l)) w) := by
  rw [← refNumber_eq]
  by_cases h : n = 0 ∨ 15 < n
  · subst hn
    exact rnumber_short l A c w h
  · exact rnumber_long l A n c w hn hl (by omega) (by omega) ht
end Go.Proofs.YtoiballfjbdoiaaDoor
