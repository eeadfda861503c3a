/- Joined texts: Ref3, Ref4, Rsg1, Rsg2. -/
import Derived.Test.YtndgcjdiemfngaaGreatDoorQAF
import Derived.Test.YtndgcjdiemfngaaGreatDoorQBN
set_option linter.unusedVariables false
set_option linter.unusedSimpArgs false
set_option linter.unnecessarySimpa false
/- The reference of layer 38: value. -/
namespace Go.Proofs.YtndgcjdiemfngaaGreatDoor
open Go.RowKit
theorem foldl_take_succ (l : List ByteArray) (k : Nat) (h : k < l.length) (x : Int × Int) : (l.take (k + 1)).foldl stepR x = stepR ((l.take k).foldl stepR x) l[k] := by
  rw [List.take_succ_eq_append_getElem h, List.foldl_append]
  rfl
set_option maxHeartbeats 2000000 in
theorem rvalue (l : List ByteArray) (A : Option Addr) (n c B : Nat) (w : World) (hn : l.length = n) (hl : Rd w B 1 A n (sv l)) (hbig : n ≤ maxLen) (ht : Tb w) :
    Calls Tryz.prog 123 #[.slice A n c] w (Quiet (.int .i64 (valR l)) w) := by
  have hb2 : n ≤ 9223372036854775807 := by unfold maxLen at hbig; omega
  have Hn := Lib.hid hn
  have HT := Lib.hid ht
  have HV : Hid (∀ a g, l.foldl stepR (0, 0) = (a, g) → valR l = if l.head? = some (wb 31) then wrap64 (wrap64 (-a) - g) else wrap64 (a + g)) := Lib.hid fun a g h => by
    unfold valR
    rw [h]
  clear hn ht hbig
  generalize valR l = R at *
  go_enter Tryz.func123, Tryz.ntmps123
  go_wp2
  go_loopw [3, 4, 5] (fun x y z wr => ∃ (k j : Nat) (a g : Int), k ≤ n ∧ z = .int .i64 k ∧ x = .int .i64 a ∧ y = .int .i64 g ∧ wr = w.drewN j ∧ Hid ((l.take k).foldl stepR (0, 0) = (a, g))) (fun _ _ z _ => n - (intOf z).toNat)
  case atStart => exact ⟨0, 0, 0, 0, Nat.zero_le _, rfl, rfl, rfl, rfl, Lib.hid rfl⟩
  case round =>
    obtain ⟨k, j, a, g, hk, rfl, rfl, rfl, rfl, HF⟩ := hrel
    by_cases hlt : k < n
    · obtain ⟨b, o, rfl, hbB, hc⟩ := hl.at_ hlt
      have hkl : k < l.length := by rw [Hn.out]; exact hlt
      rw [sv_get _ _ hkl] at hc
      have HS : Hid ((l.take (k + 1)).foldl stepR (0, 0) = stepR (a, g) l[k]) := Lib.hid (by rw [foldl_take_succ l k hkl, HF.out])
      generalize l[k] = s at *
      have HS2 : Hid ((l.take (k + 1)).foldl stepR (0, 0) = ((swR a g s).1, tensR s (unitsR s (swR a g s).2 20) 8)) := Lib.hid HS.out
      have t28 := lit_beq s (wb 28) [104, 117, 110, 100, 114, 101, 100] rfl
      have t29 := lit_beq s (wb 29) [116, 104, 111, 117, 115, 97, 110, 100] rfl
      have t30 := lit_beq s (wb 30) [109, 105, 108, 108, 105, 111, 110] rfl
      go_upto_block 2 with (fail)
      go_cut [3, 4] (fun x y wx => wx = w.drewN j ∧ x = .int .i64 (swR a g s).1 ∧ y = .int .i64 (swR a g s).2)
      case first =>
        by_cases c28 : s = wb 28
        · have d28 : (s.toList == [104, 117, 110, 100, 114, 101, 100]) = true := by rw [t28]; simp [c28]
          have HH : Hid (swR a g s = (a, wrap64 (100 * g))) := Lib.hid (by unfold swR; rw [if_pos c28])
          clear t28 t29 t30 c28
          go_wp2_with fail
          go_meet
          rw [HH.out]
          exact ⟨rfl, rfl, rfl⟩
        have d28 : (s.toList == [104, 117, 110, 100, 114, 101, 100]) = false := by rw [t28]; simp [c28]
        by_cases c29 : s = wb 29
        · have d29 : (s.toList == [116, 104, 111, 117, 115, 97, 110, 100]) = true := by rw [t29]; simp [c29]
          have HH : Hid (swR a g s = (wrap64 (a + wrap64 (1000 * g)), 0)) := Lib.hid (by unfold swR; rw [if_neg c28, if_pos c29])
          clear t28 t29 t30 c28 c29
          go_wp2_with fail
          go_meet
          rw [HH.out]
          exact ⟨rfl, rfl, rfl⟩
        have d29 : (s.toList == [116, 104, 111, 117, 115, 97, 110, 100]) = false := by rw [t29]; simp [c29]
        by_cases c30 : s = wb 30
        · have d30 : (s.toList == [109, 105, 108, 108, 105, 111, 110]) = true := by rw [t30]; simp [c30]
          have HH : Hid (swR a g s = (wrap64 (a + wrap64 (1000000 * g)), 0)) := Lib.hid (by unfold swR; rw [if_neg c28, if_neg c29, if_pos c30])
          clear t28 t29 t30 c28 c29 c30
          go_wp2_with fail
          go_meet
          rw [HH.out]
          exact ⟨rfl, rfl, rfl⟩
        have d30 : (s.toList == [109, 105, 108, 108, 105, 111, 110]) = false := by rw [t30]; simp [c30]
        have HH : Hid (swR a g s = (a, g)) := Lib.hid (by unfold swR; rw [if_neg c28, if_neg c29, if_neg c30])
        clear t28 t29 t30 c28 c29 c30
        go_wp2_with fail
        go_meet
        rw [HH.out]
        exact ⟨rfl, rfl, rfl⟩
      case rest =>
        obtain ⟨rfl, rfl, rfl⟩ := hcut
        clear t28 t29 t30 HS
        generalize (swR a g s).1 = a1 at *
        generalize (swR a g s).2 = g1 at *
        go_wp2_with fail
        go_loopw [4, 6] (fun y z wr => ∃ (i j : Nat) (g : Int), i ≤ 20 ∧ z = .int .i64 i ∧ y = .int .i64 g ∧ wr = w.drewN j ∧ Hid (g = unitsR s g1 i)) (fun _ z _ => 20 - (intOf z).toNat)
        case atStart => exact ⟨0, j, g1, by omega, rfl, rfl, rfl, Lib.hid rfl⟩
        case round =>
          obtain ⟨i, j1, g2, hi, rfl, rfl, rfl, HG⟩ := hrel
          by_cases hi20 : i < 20
          · have hcu := HT.out.1 i hi20
            have HU : Hid (unitsR s g1 (i + 1) = if wb i = s then wrap64 (g2 + i) else g2) := Lib.hid (by rw [unitsR, HG.out])
            have HB := Lib.hid (str_beq (wb i) s)
            generalize wb i = u at *
            go_wp2
            go_quiet (fail)
            go_wp2
            · rename_i he
              rw [HB.out, decide_eq_true_eq] at he
              exact ⟨⟨i + 1, _, _, by omega, by go_num, rfl, rfl, Lib.hid (by rw [HU.out, if_pos he])⟩, by simp [intOf]; omega⟩
            · rename_i he
              rw [HB.out, decide_eq_false_iff_not] at he
              exact ⟨⟨i + 1, _, _, by omega, by go_num, rfl, rfl, Lib.hid (by rw [HU.out, if_neg he])⟩, by simp [intOf]; omega⟩
          · obtain rfl : i = 20 := by omega
            go_wp2_with fail
            go_loopw [4, 7] (fun y z wr => ∃ (i j : Nat) (g : Int), i ≤ 8 ∧ z = .int .i64 i ∧ y = .int .i64 g ∧ wr = w.drewN j ∧ Hid (g = tensR s g2 i)) (fun _ z _ => 8 - (intOf z).toNat)
            case atStart => exact ⟨0, j1, g2, by omega, rfl, rfl, rfl, Lib.hid rfl⟩
            case round =>
              obtain ⟨i, j2, g3, hi, rfl, rfl, rfl, HG3⟩ := hrel
              by_cases hi8 : i < 8
              · have hcu := HT.out.2 i hi8
                have HU : Hid (tensR s g2 (i + 1) = if wb (20 + i) = s then wrap64 (wrap64 (g3 + 10 * i) + 20) else g3) := Lib.hid (by rw [tensR, HG3.out])
                have HB := Lib.hid (str_beq (wb (20 + i)) s)
                generalize wb (20 + i) = u at *
                go_wp2
                go_quiet (fail)
                go_wp2
                · rename_i he
                  rw [HB.out, decide_eq_true_eq] at he
                  exact ⟨⟨i + 1, _, _, by omega, by go_num, rfl, rfl, Lib.hid (by rw [HU.out, if_pos he])⟩, by simp [intOf]; omega⟩
                · rename_i he
                  rw [HB.out, decide_eq_false_iff_not] at he
                  exact ⟨⟨i + 1, _, _, by omega, by go_num, rfl, rfl, Lib.hid (by rw [HU.out, if_neg he])⟩, by simp [intOf]; omega⟩
              · obtain rfl : i = 8 := by omega
                have HX : Hid ((l.take (k + 1)).foldl stepR (0, 0) = (a1, g3)) := Lib.hid (by rw [HS2.out, HG3.out, HG.out])
                go_wp2_with fail
                exact ⟨⟨k + 1, _, _, _, by omega, by go_num, rfl, rfl, rfl, HX⟩, by simp [intOf]; omega⟩
    · obtain rfl : k = n := by omega
      have HF2 : Hid (l.foldl stepR (0, 0) = (a, g)) := Lib.hid (by have := HF.out; rwa [List.take_of_length_le (by rw [Hn.out]; exact Nat.le_refl _)] at this)
      have HR := Lib.hid (HV.out a g HF2.out)
      by_cases h0 : 0 < k
      · obtain ⟨b, o, rfl, hbB, hc⟩ := hl.at_ h0
        have hkl : 0 < l.length := by rw [Hn.out]; exact h0
        rw [sv_get _ _ hkl, Nat.add_zero] at hc
        have hh : l.head? = some l[0] := by
          cases l with
          | nil => simp at hkl
          | cons x t => rfl
        have t31 := lit_beq l[0] (wb 31) [109, 105, 110, 117, 115] rfl
        by_cases c31 : l[0] = wb 31
        · have d31 : (l[0].toList == [109, 105, 110, 117, 115]) = true := by rw [t31]; simp [c31]
          have HR2 : Hid (R = wrap64 (wrap64 (-a) - g)) := Lib.hid (by rw [HR.out, if_pos (by rw [hh, c31])])
          clear t31 hh c31
          generalize l[0] = s at *
          go_wp2_with fail
          go_ret
          exact ⟨by rw [HR2.out]; rfl, j, rfl⟩
        · have d31 : (l[0].toList == [109, 105, 110, 117, 115]) = false := by rw [t31]; simp [c31]
          have HR2 : Hid (R = wrap64 (a + g)) := Lib.hid (by rw [HR.out, if_neg (by rw [hh]; simpa using c31)])
          clear t31 hh c31
          generalize l[0] = s at *
          go_wp2_with fail
          go_ret
          exact ⟨by rw [HR2.out]; rfl, j, rfl⟩
      · have hnil : l = [] := List.eq_nil_of_length_eq_zero (by rw [Hn.out]; omega)
        have HR2 : Hid (R = wrap64 (a + g)) := Lib.hid (by rw [HR.out, if_neg (by rw [hnil]; simp)])
        clear hnil
        go_wp2_with fail
        go_ret
        exact ⟨by rw [HR2.out]; rfl, j, rfl⟩
def refPair (l : List ByteArray) : Value := numPair (refNumberL l)
set_option maxHeartbeats 800000 in
theorem rnumber_short (l : List ByteArray) (A : Option Addr) (c : Nat) (w : World) (h : l.length = 0 ∨ 15 < l.length) :
    Calls Tryz.prog 82 #[.slice A l.length c] w (Gives (numPair (refNumberL l)) w) := by
  have hN : refNumberL l = none := by unfold refNumberL; rw [if_pos h]
  rw [hN]
  by_cases h0 : l.length = 0
  · have e0 : ((l.length : Int) == 0) = true := by simp [h0]
    clear h h0
    go_enter Tryz.func82, Tryz.ntmps82
    go_wp2
    go_ret2
    exact ⟨rfl, Below.refl _ _⟩
  · have e0 : ((l.length : Int) == 0) = false := beq_eq_false_iff_ne.2 (by omega)
    have e1 : 15 < l.length := by omega
    clear h h0
    go_enter Tryz.func82, Tryz.ntmps82
    go_wp2
    go_ret2
    exact ⟨rfl, Below.refl _ _⟩
set_option maxHeartbeats 800000 in
theorem rnumber_long (l : List ByteArray) (A : Option Addr) (n c : Nat) (w : World) (hn : l.length = n) (hl : Rd w w.heap.size 1 A n (sv l)) (h0 : 0 < n) (h1 : n ≤ 15) (ht : Tb w) :
    Calls Tryz.prog 82 #[.slice A n c] w (Gives (numPair (refNumberL l)) w) := by
  have e0 : ((n : Int) == 0) = false := beq_eq_false_iff_ne.2 (by omega)
  have Hn := Lib.hid hn
  have HT := Lib.hid ht
  have HN : Hid (refNumberL l = checkN l (valR l)) := Lib.hid (by unfold refNumberL; rw [if_neg (by omega)])
  have HV := Lib.hid (rvalue l A n c w.heap.size w hn hl (by unfold maxLen; omega) ht)
  clear hn ht
  generalize refNumberL l = R at *
  generalize valR l = v at *
  by_cases hin : -999999999 ≤ v ∧ v ≤ 999999999
  · obtain ⟨i1, i2⟩ := hin
    have hle := wordsL_le v
    by_cases heq : (wordsL v).map wb = l
    · have HR2 : Hid (R = some v) := Lib.hid (by rw [HN.out]; unfold checkN; rw [if_pos ⟨i1, i2, heq⟩])
      have HE := Lib.hid heq
      clear heq
      go_enter Tryz.func82, Tryz.ntmps82
      go_wp2_with (first
        | (go_at_call 123; refine HV.out.mono ?_; rintro e w1 ⟨rfl, n1, rfl⟩)
        | (go_at_call 70; refine (rwords_in v i1 i2 _ (HT.out.drewN _)).mono ?_; rintro e w2 ⟨A2, c2, rfl, hown2, hbel2⟩)
        | (go_at_call 124; refine (same_t ((wordsL v).map wb) (l) (HE.out) _ _ _ _ _ _ _ _ _ (by first | rfl | assumption | exact Hn.out | (simp; done) | (simp; omega)) (by first | rfl | assumption | exact Hn.out | (simp; done) | (simp; omega)) (by rw [← wv_sv]; exact Rd.of_own hown2) ((Rd.below (w := w.drewN _) hl hbel2)) (by first | omega | (simp only [List.length_cons, List.length_nil]; omega)) (by first | omega | (simp only [List.length_cons, List.length_nil]; omega))).mono ?_; rintro e w3 ⟨rfl, n3, rfl⟩))
      go_ret2
      rw [HR2.out]
      exact ⟨rfl, below_drewN (below_of_drewN hbel2)⟩
    · have HR2 : Hid (R = none) := Lib.hid (by rw [HN.out]; unfold checkN; rw [if_neg (fun h => heq h.2.2)])
      have HE := Lib.hid heq
      clear heq
      go_enter Tryz.func82, Tryz.ntmps82
      go_wp2_with (first
        | (go_at_call 123; refine HV.out.mono ?_; rintro e w1 ⟨rfl, n1, rfl⟩)
        | (go_at_call 70; refine (rwords_in v i1 i2 _ (HT.out.drewN _)).mono ?_; rintro e w2 ⟨A2, c2, rfl, hown2, hbel2⟩)
        | (go_at_call 124; refine (same_f ((wordsL v).map wb) (l) (HE.out) _ _ _ _ _ _ _ _ _ (by first | rfl | assumption | exact Hn.out | (simp; done) | (simp; omega)) (by first | rfl | assumption | exact Hn.out | (simp; done) | (simp; omega)) (by rw [← wv_sv]; exact Rd.of_own hown2) ((Rd.below (w := w.drewN _) hl hbel2)) (by first | omega | (simp only [List.length_cons, List.length_nil]; omega)) (by first | omega | (simp only [List.length_cons, List.length_nil]; omega))).mono ?_; rintro e w3 ⟨rfl, n3, rfl⟩))
      go_ret2
      rw [HR2.out]
      exact ⟨rfl, below_drewN (below_of_drewN hbel2)⟩
  · have HR2 : Hid (R = none) := Lib.hid (by rw [HN.out]; unfold checkN; rw [if_neg (fun h => hin ⟨h.1, h.2.1⟩)])
    go_enter Tryz.func82, Tryz.ntmps82
    go_wp2_with (first
      | (go_at_call 123; refine HV.out.mono ?_; rintro e w1 ⟨rfl, n1, rfl⟩)
      | (go_at_call 70; refine (rwords_range v (by omega) _).mono ?_; rintro e w2 ⟨rfl, hbel2⟩))
    go_ret2
    rw [HR2.out]
    exact ⟨rfl, below_of_drewN hbel2⟩
theorem rnumber (l : List ByteArray) (A : Option Addr) (n c : Nat) (w : World) (hn : l.length = n) (hl : Rd w w.heap.size 1 A n (sv l)) (ht : Tb w) :
    Calls Tryz.prog 82 #[.slice A n c] w (Gives (numPair (numberL l)) w) := by
  rw [← refNumber_eq]
  by_cases h : n = 0 ∨ 15 < n
  · subst hn
    exact rnumber_short l A c w h
  · exact rnumber_long l A n c w hn hl (by omega) (by omega) ht
end Go.Proofs.YtndgcjdiemfngaaGreatDoor
/- The reference of layer 38: Prefix. -/
namespace Go.Proofs.YtndgcjdiemfngaaGreatDoor
open Go.RowKit
set_option maxHeartbeats 800000 in
theorem rprefix (l : List ByteArray) (A : Option Addr) (n c : Nat) (w : World) (hn : l.length = n) (hc : n ≤ c) (hbig : c ≤ maxLen) (hl : Rd w w.heap.size 1 A n (sv l)) (ht : Tb w) :
    Calls Tryz.prog 128 #[.slice A n c] w (Gives (preTriple (prefixL l)) w) := by
  have hcm : c ≤ 9223372036854775807 := by unfold maxLen at hbig; omega
  have HN := Lib.hid hn
  have HT := Lib.hid ht
  have HP : Hid (prefixL l = prefN l n) := Lib.hid (by
    rw [← refPref_eq, hn]
    have h1 : ∀ k, refPrefN l k = prefN l k := by
      intro k
      induction k with
      | zero => rfl
      | succ k ih =>
        rw [refPrefN, prefN, refNumber_eq, ih]
        cases numberL (l.take (k + 1)) <;> rfl
    exact h1 n)
  clear hn ht hbig
  generalize prefixL l = R at *
  go_enter Tryz.func128, Tryz.ntmps128
  go_wp2
  go_loopw [5] (fun i wr => ∃ k : Nat, k ≤ n ∧ i = .int .i64 k ∧ Below w.heap.size w wr ∧ Hid (R = prefN l k)) (fun i _ => (intOf i).toNat)
  case atStart => exact ⟨n, Nat.le_refl _, rfl, Below.refl _ _, HP⟩
  case round =>
    obtain ⟨k, hk, rfl, hbel, HL⟩ := hrel
    by_cases hlt : 0 < k
    · obtain ⟨b, o, rfl, hbB, _⟩ := hl.at_ (show k - 1 < n by omega)
      have hT : Rd wr wr.heap.size 1 (some ⟨b, o, none⟩) k (sv (l.take k)) := by
        have := ((hl.below hbel).more hbel.size).take hk
        rwa [Nat.mul_one, ← sv_take] at this
      have hlen : (l.take k).length = k := by rw [List.length_take, HN.out]; omega
      have HC := Lib.hid (rnumber (l.take k) (some ⟨b, o, none⟩) k c wr hlen hT (HT.out.below hbel))
      clear hlen hT hl
      cases hr : numberL (l.take k) with
      | none =>
        rw [hr] at HC
        have HR2 : Hid (R = prefN l (k - 1)) := Lib.hid (by
          rw [HL.out]
          obtain ⟨j, rfl⟩ : ∃ j, k = j + 1 := ⟨k - 1, by omega⟩
          rw [prefN, hr]
          rfl)
        clear hr
        simp only [numPair] at HC
        go_wp2_with (go_at_call 82; refine HC.out.mono ?_; rintro e w1 ⟨rfl, hbel1⟩)
        exact ⟨⟨k - 1, by omega, by go_num, hbel.trans (hbel1.mono hbel.size), HR2⟩, by simp [intOf]; omega⟩
      | some v =>
        rw [hr] at HC
        have HR2 : Hid (R = some (v, k)) := Lib.hid (by
          rw [HL.out]
          obtain ⟨j, rfl⟩ : ∃ j, k = j + 1 := ⟨k - 1, by omega⟩
          rw [prefN, hr])
        clear hr
        simp only [numPair] at HC
        go_wp2_with (go_at_call 82; refine HC.out.mono ?_; rintro e w1 ⟨rfl, hbel1⟩)
        go_ret3
        rw [HR2.out]
        exact ⟨rfl, hbel.trans (hbel1.mono hbel.size)⟩
    · obtain rfl : k = 0 := by omega
      go_wp2
      go_ret3
      rw [HL.out]
      exact ⟨rfl, hbel⟩
end Go.Proofs.YtndgcjdiemfngaaGreatDoor
/- narratorref39: sign, character, Names. -/
namespace Go.Proofs.YtndgcjdiemfngaaGreatDoor
open Go.RowKit
def isS (r : Int) : Bool := (sIdxI r).isSome
theorem isS_tab : ∀ x : Fin 127, isS (x.val : Int) = (decide (33 ≤ x.val) && !(decide (48 ≤ x.val) && decide (x.val ≤ 57)) && !(decide (65 ≤ x.val) && decide (x.val ≤ 90)) && !(decide (97 ≤ x.val) && decide (x.val ≤ 122))) := by decide +kernel
theorem isS_eq (r : Int) : isS r = (decide (33 ≤ r) && decide (r ≤ 126) && !(decide (48 ≤ r) && decide (r ≤ 57)) && !(decide (65 ≤ r) && decide (r ≤ 90)) && !(decide (97 ≤ r) && decide (r ≤ 122))) := by
  by_cases h : 0 ≤ r ∧ r ≤ 126
  · obtain ⟨h1, h2⟩ := h
    obtain ⟨n, rfl⟩ := Int.eq_ofNat_of_zero_le h1
    have := isS_tab ⟨n, by omega⟩
    simp only at this
    rw [this, Bool.eq_iff_iff]
    simp
    omega
  · have h1 : isS r = false := by
      unfold isS
      cases hs : sIdxI r with
      | none => rfl
      | some i =>
        obtain ⟨_, _, a, b⟩ := sIdxI_some hs
        exact absurd ⟨by omega, b⟩ h
    rw [h1, Bool.eq_iff_iff]
    simp
    omega
set_option maxHeartbeats 800000 in
theorem rsign (r : Int) (w : World) : Calls Tryz.prog 149 #[.int .i32 r] w (Gives (.bool (isS r)) w) := by
  have HI := Lib.hid (isS_eq r)
  generalize isS r = R at *
  rcases Int.lt_or_le r 33 with h1 | h1
  · obtain rfl : R = false := by rw [HI.out, Bool.eq_false_iff]; simp; omega
    go_enter Tryz.func149, Tryz.ntmps149
    go_wp2
    go_ret
    exact ⟨rfl, Below.refl _ _⟩
  rcases Int.lt_or_le 126 r with h2 | h2
  · obtain rfl : R = false := by rw [HI.out, Bool.eq_false_iff]; simp; omega
    go_enter Tryz.func149, Tryz.ntmps149
    go_wp2
    go_ret
    exact ⟨rfl, Below.refl _ _⟩
  rcases Int.lt_or_le r 48 with h3 | h3
  · obtain rfl : R = true := by rw [HI.out]; simp; omega
    go_enter Tryz.func149, Tryz.ntmps149
    go_wp2
    go_ret
    exact ⟨rfl, Below.refl _ _⟩
  rcases Int.lt_or_le r 58 with h3 | h3
  · obtain rfl : R = false := by rw [HI.out, Bool.eq_false_iff]; simp; omega
    go_enter Tryz.func149, Tryz.ntmps149
    go_wp2
    go_ret
    exact ⟨rfl, Below.refl _ _⟩
  rcases Int.lt_or_le r 65 with h3 | h3
  · obtain rfl : R = true := by rw [HI.out]; simp; omega
    have e57 : ¬ r ≤ 57 := by omega
    go_enter Tryz.func149, Tryz.ntmps149
    go_wp2
    go_ret
    exact ⟨rfl, Below.refl _ _⟩
  rcases Int.lt_or_le r 91 with h3 | h3
  · obtain rfl : R = false := by rw [HI.out, Bool.eq_false_iff]; simp; omega
    have e57 : ¬ r ≤ 57 := by omega
    go_enter Tryz.func149, Tryz.ntmps149
    go_wp2
    go_ret
    exact ⟨rfl, Below.refl _ _⟩
  rcases Int.lt_or_le r 97 with h3 | h3
  · obtain rfl : R = true := by rw [HI.out]; simp; omega
    have e57 : ¬ r ≤ 57 := by omega
    have e90 : ¬ r ≤ 90 := by omega
    go_enter Tryz.func149, Tryz.ntmps149
    go_wp2
    go_ret
    exact ⟨rfl, Below.refl _ _⟩
  rcases Int.lt_or_le r 123 with h3 | h3
  · obtain rfl : R = false := by rw [HI.out, Bool.eq_false_iff]; simp; omega
    have e57 : ¬ r ≤ 57 := by omega
    have e90 : ¬ r ≤ 90 := by omega
    have g122 : r ≤ 122 := by omega
    go_enter Tryz.func149, Tryz.ntmps149
    go_wp2
    go_ret
    exact ⟨rfl, Below.refl _ _⟩
  obtain rfl : R = true := by rw [HI.out]; simp; omega
  have e57 : ¬ r ≤ 57 := by omega
  have e90 : ¬ r ≤ 90 := by omega
  have e122 : ¬ r ≤ 122 := by omega
  go_enter Tryz.func149, Tryz.ntmps149
  go_wp2
  go_ret
  exact ⟨rfl, Below.refl _ _⟩
def rchar (r : Int) : Bool := isCharB r
set_option maxHeartbeats 800000 in
theorem rcharacter (r : Int) (w : World) : Calls Tryz.prog 148 #[.int .i32 r] w (Gives (.bool (isCharB r)) w) := by
  have HI : Hid (isCharB r = ((decide (0 ≤ r) && decide (r ≤ 55295)) || (decide (57344 ≤ r) && decide (r ≤ 1114111)))) := Lib.hid rfl
  generalize isCharB r = R at *
  rcases Int.lt_or_le r 0 with h1 | h1
  · obtain rfl : R = false := by rw [HI.out, Bool.eq_false_iff]; simp; omega
    go_enter Tryz.func148, Tryz.ntmps148
    go_wp2
    go_ret
    exact ⟨rfl, Below.refl _ _⟩
  rcases Int.lt_or_le 1114111 r with h2 | h2
  · obtain rfl : R = false := by rw [HI.out, Bool.eq_false_iff]; simp; omega
    go_enter Tryz.func148, Tryz.ntmps148
    go_wp2
    go_ret
    exact ⟨rfl, Below.refl _ _⟩
  rcases Int.lt_or_le r 55296 with h3 | h3
  · obtain rfl : R = true := by rw [HI.out]; simp; omega
    go_enter Tryz.func148, Tryz.ntmps148
    go_wp2
    go_ret
    exact ⟨rfl, Below.refl _ _⟩
  rcases Int.lt_or_le 57343 r with h4 | h4
  · obtain rfl : R = true := by rw [HI.out]; simp; omega
    go_enter Tryz.func148, Tryz.ntmps148
    go_wp2
    go_ret
    exact ⟨rfl, Below.refl _ _⟩
  · obtain rfl : R = false := by rw [HI.out, Bool.eq_false_iff]; simp; omega
    have e1 : ¬ r < 55296 := by omega
    have e2 : ¬ 57343 < r := by omega
    go_enter Tryz.func148, Tryz.ntmps148
    go_wp2
    go_ret
    exact ⟨rfl, Below.refl _ _⟩
theorem nm_data : nmL = [.string (nb 0), .string (nb 1), .string (nb 2), .string (nb 3), .string (nb 4), .string (nb 5), .string (nb 6), .string (nb 7), .string (nb 8), .string (nb 9), .string (nb 10), .string (nb 11), .string (nb 12), .string (nb 13), .string (nb 14), .string (nb 15), .string (nb 16), .string (nb 17), .string (nb 18), .string (nb 19), .string (nb 20), .string (nb 21), .string (nb 22), .string (nb 23), .string (nb 24), .string (nb 25), .string (nb 26), .string (nb 27), .string (nb 28), .string (nb 29), .string (nb 30), .string (nb 31)] := by rfl
set_option maxHeartbeats 800000 in
theorem rnames (w : World) : Calls Tryz.prog 43 #[] w (GivesOwn 9 1 id w 32 nmL) := by
  go_enter Tryz.func43, Tryz.ntmps43
  go_wp2
  go_ret
  exact ⟨_, _, rfl, own_built (xs := nmL) rfl rfl (Nat.le_refl _) (by omega), (Below.refl _ _).alloc (Nat.le_refl _) _⟩
end Go.Proofs.YtndgcjdiemfngaaGreatDoor
/- narratorref39: Name, Sign. -/
namespace Go.Proofs.YtndgcjdiemfngaaGreatDoor
open Go.RowKit
def cntS (x : Nat) : Nat := ((List.range 32).filter fun i => decide (sChar i < x)).length
theorem cntS_33 : cntS 33 = 0 := by decide +kernel
theorem cntS_step : ∀ x : Fin 127, cntS (x.val + 1) = cntS x.val + (if isS (x.val : Int) then 1 else 0) := by decide +kernel
theorem cntS_char : ∀ i : Fin 32, cntS (sChar i.val) = i.val := by decide +kernel
theorem cntS_le : ∀ x : Fin 127, cntS x.val ≤ 32 := by decide +kernel
def rnameV (r : Int) : ByteArray := match sIdxI r with
  | some i => nb i
  | none => ⟨#[]⟩
set_option maxHeartbeats 800000 in
theorem rname (r : Int) (w : World) : Calls Tryz.prog 150 #[.int .i32 r] w (Gives (.string (rnameV r)) w) := by
  have HSI : Hid (∀ x w, Calls Tryz.prog 149 #[.int .i32 x] w (Gives (.bool (isS x)) w)) := Lib.hid rsign
  unfold rnameV
  cases hi : sIdxI r with
  | none =>
    have H0 : Hid (∀ w, Calls Tryz.prog 149 #[.int .i32 r] w (Gives (.bool false) w)) := Lib.hid fun w => by
      have := rsign r w
      unfold isS at this
      rwa [hi] at this
    clear hi
    go_enter Tryz.func150, Tryz.ntmps150
    go_wp2_with (go_at_call 149; refine (H0.out _).mono ?_; rintro e w1 ⟨rfl, hbel1⟩)
    go_ret
    exact ⟨rfl, hbel1⟩
  | some i =>
    obtain ⟨hi32, rfl, hr1, hr2⟩ := sIdxI_some hi
    have H0 : Hid (∀ w, Calls Tryz.prog 149 #[.int .i32 (sChar i : Nat)] w (Gives (.bool true) w)) := Lib.hid fun w => by
      have := rsign (sChar i : Int) w
      unfold isS at this
      rwa [hi] at this
    have HC := Lib.hid (cntS_char ⟨i, hi32⟩)
    simp only at HC
    clear hi
    simp only
    generalize sChar i = r at *
    go_enter Tryz.func150, Tryz.ntmps150
    go_wp2_with (go_at_call 149; refine (H0.out _).mono ?_; rintro e w1 ⟨rfl, hbel1⟩)
    have hr127 : r < 127 := by omega
    have HST : Hid (∀ n, n < 127 → cntS (n + 1) = cntS n + (if isS (n : Int) then 1 else 0)) := Lib.hid fun n h => cntS_step ⟨n, h⟩
    have HLE : Hid (∀ n, n < 127 → cntS n ≤ 32) := Lib.hid fun n h => cntS_le ⟨n, h⟩
    have H33 := Lib.hid cntS_33
    have hnb : Hid (nmL[i]? = some (.string (nb i))) := Lib.hid (by simp [nmL, hi32])
    generalize cntS = cnt at *
    obtain ⟨wa, rfl⟩ : ∃ x : World, x = w1 := ⟨_, rfl⟩
    go_loopw [3, 4] (fun k x wr => ∃ n : Nat, 33 ≤ n ∧ n ≤ r ∧ k = .int .i64 (cnt n : Nat) ∧ x = .int .i32 (n : Int) ∧ Below wa.heap.size wa wr) (fun _ x _ => r - (intOf x).toNat)
    case atStart => exact ⟨33, by omega, by omega, by rw [H33.out]; rfl, rfl, Below.refl _ _⟩
    case round =>
      obtain ⟨n, hn1, hn2, rfl, rfl, hbel⟩ := hrel
      by_cases hlt : n < r
      · have hst := Lib.hid (HST.out n (by omega))
        have hle := HLE.out n (by omega)
        have HX := Lib.hid (HSI.out (n : Int))
        generalize isS (n : Int) = X at *
        cases X with
        | true =>
          have hst2 : Hid (cnt (n + 1) = cnt n + 1) := Lib.hid (by rw [hst.out]; rfl)
          go_wp2_with (go_at_call 149; refine (HX.out _).mono ?_; rintro e w2 ⟨rfl, hbel2⟩)
          exact ⟨⟨n + 1, by omega, by omega, by rw [hst2.out]; go_num, by go_num, hbel.trans (hbel2.mono hbel.size)⟩, by simp [intOf]; omega⟩
        | false =>
          have hst2 : Hid (cnt (n + 1) = cnt n) := Lib.hid (by rw [hst.out]; rfl)
          go_wp2_with (go_at_call 149; refine (HX.out _).mono ?_; rintro e w2 ⟨rfl, hbel2⟩)
          exact ⟨⟨n + 1, by omega, by omega, by rw [hst2.out], by go_num, hbel.trans (hbel2.mono hbel.size)⟩, by simp [intOf]; omega⟩
      · obtain rfl : n = r := by omega
        rw [HC.out]
        go_wp2_with (go_at_call 43; refine (rnames _).mono ?_; rintro e w2 ⟨A2, c2, rfl, hown2, hbel2⟩; obtain ⟨b2, o2, rfl, _, hc2⟩ := (Rd.of_own hown2).at_ hi32; rw [hnb.out] at hc2)
        go_ret
        exact ⟨rfl, hbel1.trans ((hbel.trans (hbel2.mono hbel.size)).mono hbel1.size)⟩
def rsignV (s : ByteArray) : Int := match nIdx s with
  | some i => sChar i
  | none => 0
theorem rname_ne {n : Int} {i : Nat} (hi : i < 32) (hn : n ≠ (sChar i : Int)) : rnameV n ≠ nb i := by
  unfold rnameV
  intro h
  cases hs : sIdxI n with
  | none =>
    rw [hs] at h
    have : ∀ i : Fin 32, nb i.val ≠ ⟨#[]⟩ := by decide +kernel
    exact this ⟨i, hi⟩ h.symm
  | some j =>
    rw [hs] at h
    obtain ⟨h1, h2, _⟩ := sIdxI_some hs
    by_cases hj : j = i
    · subst hj; exact hn h2
    · exact nb_ne j i h1 hi hj h
theorem rname_char {i : Nat} (hi : i < 32) : rnameV (sChar i : Int) = nb i := by
  have : ∀ i : Fin 32, rnameV (sChar i.val : Int) = nb i.val := by decide +kernel
  exact this ⟨i, hi⟩
theorem rname_no {n : Int} {s : ByteArray} (h0 : s ≠ ⟨#[]⟩) (h : nIdx s = none) : rnameV n ≠ s := by
  unfold rnameV
  intro e
  cases hs : sIdxI n with
  | none => rw [hs] at e; exact h0 e.symm
  | some j => rw [hs] at e; exact nIdx_none h j (sIdxI_some hs).1 e
theorem sChar_bd {i : Nat} (h : i < 32) : 33 ≤ sChar i ∧ sChar i ≤ 126 := by
  have : ∀ i : Fin 32, 33 ≤ sChar i.val ∧ sChar i.val ≤ 126 := by decide +kernel
  exact this ⟨i, h⟩
set_option maxHeartbeats 800000 in
theorem rSign (s : ByteArray) (w : World) : Calls Tryz.prog 162 #[.string s] w (Gives (.int .i32 (rsignV s)) w) := by
  have HN : Hid (∀ x w, Calls Tryz.prog 150 #[.int .i32 x] w (Gives (.string (rnameV x)) w)) := Lib.hid rname
  unfold rsignV
  have tc := lit_beq s ⟨#[]⟩ [] rfl
  cases hi : nIdx s with
  | some i =>
    obtain ⟨hi32, rfl⟩ := nIdx_some hi
    simp only
    have hne : nb i ≠ ⟨#[]⟩ := by
      have : ∀ i : Fin 32, nb i.val ≠ ⟨#[]⟩ := by decide +kernel
      exact this ⟨i, hi32⟩
    have dc : ((nb i).toList == ([] : List UInt8)) = false := by rw [tc]; simp [hne]
    have HQ : Hid (∀ n : Int, ((rnameV n).toList == (nb i).toList) = decide (n = (sChar i : Int))) := Lib.hid fun n => by
      rw [str_beq]
      by_cases h : n = (sChar i : Int)
      · rw [h, rname_char hi32]; simp
      · rw [decide_eq_false (rname_ne hi32 h), decide_eq_false h]
    obtain ⟨hb1, hb2⟩ := sChar_bd hi32
    clear tc hne hi
    generalize sChar i = m at *
    generalize nb i = s at *
    go_enter Tryz.func162, Tryz.ntmps162
    go_wp2
    obtain ⟨wa, rfl⟩ : ∃ x : World, x = w := ⟨_, rfl⟩
    go_loopw [3] (fun x wr => ∃ n : Nat, 33 ≤ n ∧ n ≤ m ∧ x = .int .i32 (n : Int) ∧ Below wa.heap.size wa wr) (fun x _ => 127 - (intOf x).toNat)
    case atStart => exact ⟨33, by omega, by omega, rfl, Below.refl _ _⟩
    case round =>
      obtain ⟨n, hn1, hn2, rfl, hbel⟩ := hrel
      have hq := HQ.out (n : Int)
      have HX := Lib.hid (HN.out (n : Int))
      generalize rnameV (n : Int) = X at *
      by_cases hlt : n < m
      · have hq' : (X.toList == s.toList) = false := by rw [hq]; exact decide_eq_false (by omega)
        clear hq
        have h127 : (n : Int) < 127 := by omega
        go_wp2_with (go_at_call 150; refine (HX.out _).mono ?_; rintro e w2 ⟨rfl, hbel2⟩)
        exact ⟨⟨n + 1, by omega, by omega, by go_num, hbel.trans (hbel2.mono hbel.size)⟩, by simp [intOf]; omega⟩
      · obtain rfl : n = m := by omega
        have hq' : (X.toList == s.toList) = true := by rw [hq]; exact decide_eq_true rfl
        clear hq
        have h127 : (n : Int) < 127 := by omega
        go_wp2_with (go_at_call 150; refine (HX.out _).mono ?_; rintro e w2 ⟨rfl, hbel2⟩)
        go_ret
        exact ⟨rfl, hbel.trans (hbel2.mono hbel.size)⟩
  | none =>
    simp only
    by_cases h0 : s = ⟨#[]⟩
    · have dc : (s.toList == ([] : List UInt8)) = true := by rw [tc]; simp [h0]
      clear tc h0 hi
      go_enter Tryz.func162, Tryz.ntmps162
      go_wp2
      obtain ⟨wa, rfl⟩ : ∃ x : World, x = w := ⟨_, rfl⟩
      go_loopw [3] (fun x wr => ∃ n : Nat, 33 ≤ n ∧ n ≤ 127 ∧ x = .int .i32 (n : Int) ∧ Below wa.heap.size wa wr) (fun x _ => 127 - (intOf x).toNat)
      case atStart => exact ⟨33, by omega, by omega, rfl, Below.refl _ _⟩
      case round =>
        obtain ⟨n, hn1, hn2, rfl, hbel⟩ := hrel
        by_cases hlt : n < 127
        · have h127 : (n : Int) < 127 := by omega
          go_wp2
          exact ⟨⟨n + 1, by omega, by omega, by go_num, hbel⟩, by simp [intOf]; omega⟩
        · obtain rfl : n = 127 := by omega
          go_wp2
          go_ret
          exact ⟨rfl, hbel⟩
    · have dc : (s.toList == ([] : List UInt8)) = false := by rw [tc]; simp [h0]
      have HQ : Hid (∀ n : Int, ((rnameV n).toList == s.toList) = false) := Lib.hid fun n => by
        rw [str_beq]
        exact decide_eq_false (rname_no h0 hi)
      clear tc h0 hi
      go_enter Tryz.func162, Tryz.ntmps162
      go_wp2
      obtain ⟨wa, rfl⟩ : ∃ x : World, x = w := ⟨_, rfl⟩
      go_loopw [3] (fun x wr => ∃ n : Nat, 33 ≤ n ∧ n ≤ 127 ∧ x = .int .i32 (n : Int) ∧ Below wa.heap.size wa wr) (fun x _ => 127 - (intOf x).toNat)
      case atStart => exact ⟨33, by omega, by omega, rfl, Below.refl _ _⟩
      case round =>
        obtain ⟨n, hn1, hn2, rfl, hbel⟩ := hrel
        by_cases hlt : n < 127
        · have h127 : (n : Int) < 127 := by omega
          have hq := HQ.out (n : Int)
          have HX := Lib.hid (HN.out (n : Int))
          generalize rnameV (n : Int) = X at *
          go_wp2_with (go_at_call 150; refine (HX.out _).mono ?_; rintro e w2 ⟨rfl, hbel2⟩)
          exact ⟨⟨n + 1, by omega, by omega, by go_num, hbel.trans (hbel2.mono hbel.size)⟩, by simp [intOf]; omega⟩
        · obtain rfl : n = 127 := by omega
          go_wp2
          go_ret
          exact ⟨rfl, hbel⟩
end Go.Proofs.YtndgcjdiemfngaaGreatDoor
