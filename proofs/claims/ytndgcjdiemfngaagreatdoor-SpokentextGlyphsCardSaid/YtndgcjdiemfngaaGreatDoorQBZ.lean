/- Joined texts: Rp6. -/
import Derived.Test.YtndgcjdiemfngaaGreatDoorQBY
set_option linter.unusedVariables false
set_option linter.unusedSimpArgs false
set_option linter.unnecessarySimpa false
/- The reference of layer 40: number with times. -/
namespace Go.Proofs.YtndgcjdiemfngaaGreatDoor
open Go.RowKit
set_option maxRecDepth 20000
set_option maxHeartbeats 8000000 in
theorem rnum_times (O : List Gl) (st : Int) (J : Bool) (l : List ByteArray) (ho : O.length ≤ 1000000000) (A : Option Addr) (c base : Nat) (w : World) (hb : base ≤ w.heap.size) (h : w.ownsRow base 41 3 (.slice A O.length c) O.length (encGs O)) (Aw : Option Addr) (nw cw : Nat) (hW : WdA base w l Aw nw cw) (hot : ∀ x ∈ O, x.text.size ≤ 1000000) (nn : Int) (k : Nat) (hp : prefixL l = some (nn, k)) (hneg : ¬ nn < 0) (hTm : l[k]? = some bTimes) : Calls Tryz.prog 85 #[.agg (tC (.slice A O.length c) st J), .slice Aw nw cw] w (PRes base (.slice A O.length c) w l (amtL ⟨l, O, st, J⟩)) := by
  obtain ⟨N, rfl⟩ : ∃ N : Nat, nn = (N : Int) := ⟨nn.toNat, by omega⟩
  obtain ⟨hk0, hkl, hk15, hnum, _⟩ := prefixL_some hp
  obtain ⟨_, hN9, _⟩ := number_some hnum
  have hN : N ≤ 999999999 := by omega
  have eT : amtL ⟨l, O, st, J⟩ = match charW (l.drop (k + 1)) with
      | none => none
      | some (r, m) => if 2 ≤ (N : Int) ∧ (N : Int) ≤ 132 ∧ (addL O st r N).1 = true then some ⟨l.drop (k + 1 + m), (addL O st r N).2, st, false⟩ else none := by
    unfold amtL; simp only; rw [hp]; simp only; rw [if_neg hneg, if_pos hTm, Int.toNat_natCast]; cases charW (l.drop (k + 1)) <;> rfl
  generalize amtL ⟨l, O, st, J⟩ = RES at *
  have hpn := TX.new (st := st) (j := J) h hb
  clear h
  obtain ⟨v0, hv0⟩ : ∃ x, x = Value.slice A O.length c := ⟨_, rfl⟩
  have HV := Lib.hid hv0
  rw [← hv0] at hpn ⊢
  clear hv0
  have HPr : Hid (∀ w', Below base w w' → Calls Tryz.prog 128 #[.slice Aw nw cw] w' (Gives (preTriple (prefixL l)) w')) := Lib.hid fun w' hw =>
    rprefix l Aw nw cw w' hW.len hW.cap hW.max ((hW.rd.below hw).more (Nat.le_trans hb hw.size)) (hW.tb w' hw)
  rw [hp] at HPr
  simp only [preTriple] at HPr
  have hln := hW.len
  have hkn : k < nw := by
    rcases Nat.lt_or_ge k l.length with h | h
    · omega
    · rw [List.getElem?_eq_none h] at hTm; cases hTm
  have hwk : l[k]'(by omega) = bTimes := by
    rw [List.getElem?_eq_getElem (by omega)] at hTm
    injection hTm
  obtain ⟨b, o, hA, hbg, -⟩ := hW.rd.2 (show 0 < nw by omega)
  subst hA
  have HCk : Hid (∀ w', Below base w w' → w'.cell? ⟨b, o + k, none⟩ = some (.string bTimes)) := Lib.hid fun w' hw => by
    obtain ⟨b', o', e', _, hc⟩ := (hW.rd.below hw).at_ hkn
    simp only [Option.some.injEq, Addr.mk.injEq, and_true] at e'
    obtain ⟨rfl, rfl⟩ := e'
    rw [sv_get _ _ (by omega), hwk] at hc
    exact hc
  have HCh : Hid (∀ A' N c', N = nw - (k + 1) → N ≤ c' → c' ≤ maxLen → Rd w base 1 A' N (sv (l.drop (k + 1))) → ∀ w', Below base w w' → Calls Tryz.prog 83 #[.slice A' N c'] w' (Gives (chwV (charW (l.drop (k + 1)))) w')) := Lib.hid fun A' N c' hN hc hm rd w' hw =>
    rchar40 (l.drop (k + 1)) A' N c' w' (by rw [List.length_drop]; omega) hc hm ((rd.below hw).more (Nat.le_trans hb hw.size)) (hW.tb w' hw)
  have hRd := hW.rd.cut (k := k + 1) (by omega) hW.cap
  rw [show (sv l).drop ((k + 1) * 1) = sv (l.drop (k + 1)) by simp [sv]] at hRd
  simp only [Nat.mul_one, Option.map_some, add_none] at hRd
  have qk : (bTimes.toList == [116, 105, 109, 101, 115]) = true := by decide +kernel
  have heq : ((k : Int) == (nw : Int)) = false := beq_eq_false_iff_ne.2 (by omega)
  have hki : (k : Int) < nw := by omega
  have hk0i : (0 : Int) ≤ k := by omega
  have hcap := hW.cap
  have hmax := hW.max
  have i2 : (k : Int) + 1 ≤ nw := by omega
  have i3 : (k : Int) + 1 ≤ cw := by omega
  have i1 : (0 : Int) ≤ (k : Int) + 1 := by omega
  have i4 : (k : Int) + 1 ≤ 16 := by omega
  have hi0 : ¬ (N : Int) < 0 := by omega
  have hfew := hW.few
  have hc63 : cw ≤ 9223372036854775807 := by unfold maxLen at hmax; omega
  clear hnum hneg hTm hwk hW hp
  by_cases hck1 : cw = k + 1
  · rw [if_pos hck1] at hRd
    have HCx := Lib.hid (HCh.out (some ⟨b, o, none⟩) (nw - (k + 1)) 0 rfl (by omega) (by omega) hRd)
    have hnk : nw - (k + 1) = 0 := by omega
    rw [hnk] at HCx
    have l0 : l.drop (k + 1) = [] := List.length_eq_zero_iff.1 (by rw [List.length_drop]; omega)
    rw [l0, show charW [] = none from rfl] at HCx eT
    simp only [chwV] at HCx
    have e0 := Lib.hid eT
    obtain rfl : nw = k + 1 := by omega
    subst hck1
    clear HCh hRd l0 eT
    go_enter Tryz.func85, Tryz.ntmps85
    go_upto_region 1 with fail
    refine wp_fg (TX w base v0 st J O) hpn ?_
    clear hpn
    intro X hX
    go_upto_region 4 with (go_at_call 128; refine (HPr.out _ hX.bel).mono ?_; rintro e w1 ⟨rfl, hb1⟩; have hT := hX.below hb1 hb)
    have hck := HCk.out _ hT.bel
    go_upto_region 13 with (go_at_call 83; refine (HCx.out _ hT.bel).mono ?_; rintro e w2 ⟨rfl, hb2⟩)
    replace hT := hT.below hb2 hb
    clear hX hb1 hb2 hck
    obtain ⟨A6, c6, B1, B2, ox, hs6, tx⟩ := hT
    have c0 := B1.cell 0
    have c1 := B1.cell 1
    have c2 := B1.cell 2
    have d0 := B2.cell 0
    have d1 := B2.cell 1
    have d2 := B2.cell 2
    have f0 := B1.frozen 0
    have f2 := B1.frozen 2
    have g0 := B2.frozen 0
    have g1 := B2.frozen 1
    have g2 := B2.frozen 2
    simp only [tC, List.getElem?_toArray, List.getElem?_cons_zero, List.getElem?_cons_succ] at c0 c1 c2 d0 d1 d2
    have R := TX.copy (v := .slice A6 O.length c6) (st' := st) (j' := J) B2 ox hs6 tx hb
    go_wp2
    exact bodyPost_ret (results_ctmp rfl _ _ (w.heap.size + 1) 64 _ (0, 0) _ rfl R.1 Tryz.underlying64 rfl info_T) rfl (by rw [e0.out]; exact ⟨_, _, _, _, _, rfl, R.2.2⟩)
  · rw [if_neg hck1] at hRd
    have HCx := Lib.hid (HCh.out (some ⟨b, o + (k + 1), none⟩) (nw - (k + 1)) (cw - (k + 1)) rfl (by omega) (by omega) hRd)
    cases hcw : charW (l.drop (k + 1)) with
    | none =>
      rw [hcw] at HCx eT
      simp only [chwV] at HCx
      have e0 := Lib.hid eT
      clear HCh hRd eT hcw
      go_enter Tryz.func85, Tryz.ntmps85
      go_upto_region 1 with fail
      refine wp_fg (TX w base v0 st J O) hpn ?_
      clear hpn
      intro X hX
      go_upto_region 4 with (go_at_call 128; refine (HPr.out _ hX.bel).mono ?_; rintro e w1 ⟨rfl, hb1⟩; have hT := hX.below hb1 hb)
      have hck := HCk.out _ hT.bel
      go_upto_region 13 with (go_at_call 83; refine (HCx.out _ hT.bel).mono ?_; rintro e w2 ⟨rfl, hb2⟩)
      replace hT := hT.below hb2 hb
      clear hX hb1 hb2 hck
      obtain ⟨A6, c6, B1, B2, ox, hs6, tx⟩ := hT
      have c0 := B1.cell 0
      have c1 := B1.cell 1
      have c2 := B1.cell 2
      have d0 := B2.cell 0
      have d1 := B2.cell 1
      have d2 := B2.cell 2
      have f0 := B1.frozen 0
      have f2 := B1.frozen 2
      have g0 := B2.frozen 0
      have g1 := B2.frozen 1
      have g2 := B2.frozen 2
      simp only [tC, List.getElem?_toArray, List.getElem?_cons_zero, List.getElem?_cons_succ] at c0 c1 c2 d0 d1 d2
      have R := TX.copy (v := .slice A6 O.length c6) (st' := st) (j' := J) B2 ox hs6 tx hb
      go_wp2
      exact bodyPost_ret (results_ctmp rfl _ _ (w.heap.size + 1) 64 _ (0, 0) _ rfl R.1 Tryz.underlying64 rfl info_T) rfl (by rw [e0.out]; exact ⟨_, _, _, _, _, rfl, R.2.2⟩)
    | some x =>
      obtain ⟨r, m⟩ := x
      obtain ⟨rr, rfl, hrr⟩ := charW_ch hcw
      obtain ⟨hm0, hml⟩ := charW_len hcw
      rw [hcw] at HCx eT
      simp only [chwV] at HCx
      simp only at eT
      have hml2 : m ≤ nw - (k + 1) := by rw [List.length_drop] at hml; omega
      have hmi : (0 : Int) < m := by omega
      have hmz : ((m : Int) == 0) = false := beq_eq_false_iff_ne.2 (by omega)
      clear HCh hRd hcw hml
      by_cases hN2 : 2 ≤ (N : Int) ∧ (N : Int) ≤ 132
      · have HAd := Lib.hid (fun A6 c6 w2 hb2 ox => radd O st J rr hrr N (by omega) ho hot A6 c6 base w2 hb2 ox)
        have hj1 : ¬ (N : Int) < 2 := by omega
        have hj2 : ¬ (132 : Int) < N := by omega
        have eT2 : RES = if (addL O st (rr : Int) N).1 = true then some ⟨l.drop (k + 1 + m), (addL O st (rr : Int) N).2, st, false⟩ else none := by
          rw [eT]
          by_cases ho : (addL O st (rr : Int) N).1 = true
          · rw [if_pos ho, if_pos ⟨hN2.1, hN2.2, ho⟩]
          · rw [if_neg ho, if_neg (fun h => ho h.2.2)]
        have e0 := Lib.hid eT2
        clear eT eT2 hN2 hot
        generalize addL O st (rr : Int) N = AD at *
        obtain ⟨ok, Q⟩ := AD
        dsimp only at *
        generalize (rr : Int) = R at *
        go_enter Tryz.func85, Tryz.ntmps85
        go_upto_region 1 with fail
        refine wp_fg (TX w base v0 st J O) hpn ?_
        clear hpn
        intro X hX
        go_upto_region 4 with (go_at_call 128; refine (HPr.out _ hX.bel).mono ?_; rintro e w1 ⟨rfl, hb1⟩; have hT := hX.below hb1 hb)
        have hck := HCk.out _ hT.bel
        go_upto_region 13 with (go_at_call 83; refine (HCx.out _ hT.bel).mono ?_; rintro e w2 ⟨rfl, hb2⟩)
        replace hT := hT.below hb2 hb
        clear hX hb1 hb2 hck
        obtain ⟨A6, c6, B1, B2, ox, hs6, tx⟩ := hT
        have HAx := Lib.hid (HAd.out A6 c6 w2 (Nat.le_trans hb tx.size) ox)
        have c0 := B1.cell 0
        have c1 := B1.cell 1
        have c2 := B1.cell 2
        have d0 := B2.cell 0
        have d1 := B2.cell 1
        have d2 := B2.cell 2
        have f0 := B1.frozen 0
        have f2 := B1.frozen 2
        have g0 := B2.frozen 0
        have g1 := B2.frozen 1
        have g2 := B2.frozen 2
        simp only [tC, List.getElem?_toArray, List.getElem?_cons_zero, List.getElem?_cons_succ] at c0 c1 c2 d0 d1 d2
        clear HAd HCx
        go_upto_region 17 with (go_at_call 84; refine HAx.out.mono ?_; rintro e w5 ⟨A7, c7, rfl, o7, bg7, hs7⟩; clear c0 c1 c2 d0 d1 d2 f0 f2 g0 g1 g2; obtain ⟨D1, D2, tx7, hs8⟩ := TX.call B1 B2 hs6 tx bg7 hs7; simp only [tC])
        have N1 : Blk (w5.alloc (.cells (tC (.slice A7 Q.length c7) st false) 64)) w5.heap.size 64 (tC (.slice A7 Q.length c7) st false) := Blk.new _ _ _
        have c0 := N1.cell 0
        have c1 := N1.cell 1
        have c2 := N1.cell 2
        have E1 := D1.alloc (.cells (tC (.slice A7 Q.length c7) st false) 64)
        have E2 := D2.alloc (.cells (tC (.slice A7 Q.length c7) st false) 64)
        have d0 := E2.cell 0
        have d1 := E2.cell 1
        have d2 := E2.cell 2
        have g0 := E2.frozen 0
        have g1 := E2.frozen 1
        have g2 := E2.frozen 2
        have b0 := E1.cell 0
        have b1 := E1.cell 1
        have b2 := E1.cell 2
        have o8 := o7.alloc (.cells (tC (.slice A7 Q.length c7) st false) 64)
        have tx8 := tx7.alloc hb (.cells (tC (.slice A7 Q.length c7) st false) 64)
        simp only [tC, List.getElem?_toArray, List.getElem?_cons_zero, List.getElem?_cons_succ] at c0 c1 c2 d0 d1 d2 b0 b1 b2
        clear HAx B1 B2 ox tx bg7 hs7 o7 tx7 D1 D2 N1 E1 HPr HCk
        cases ok with
        | false =>
          rw [if_neg (by simp)] at e0
          have R := TX.copy (v := .slice A6 O.length c6) (st' := st) (j' := J) E2 o8 hs8 tx8 hb
          go_wp2
          exact bodyPost_ret (results_ctmp rfl _ _ (w.heap.size + 1) 64 _ (0, 0) _ rfl R.1 Tryz.underlying64 rfl info_T) rfl (by rw [e0.out]; exact ⟨_, _, _, _, _, rfl, R.2.2⟩)
        | true =>
          rw [if_pos rfl] at e0
          have HV2 : Hid (wrap64 (wrap64 ((k : Int) + 1) + (m : Int)) = ((k + 1 + m : Nat) : Int)) := Lib.hid (by rw [wrap_k1 k hk15, wrap_km k m hk15 (by omega)]; omega)
          have hkm : k + 1 + m ≤ l.length := by omega
          clear hml2 hm0 hmi hmz hki hk0i hcap hmax i2 i3 i1 i4 hi0 hc63 hfew hj1 hj2 heq qk hN hN9 hk15 hck1
          have R := TX.copy (v := .slice A7 Q.length c7) (st' := st) (j' := false) E2 o8 hs8 tx8 hb
          go_wp2
          exact bodyPost_ret (results_ctmp rfl _ _ (w.heap.size + 1) 64 _ (0, 0) _ rfl R.1 Tryz.underlying64 rfl info_T) rfl (by rw [e0.out]; exact ⟨A7, c7, k + 1 + m, by omega, hkm, rfl, (by show Ending.returned (Value.tuple #[.agg (tC (.slice A7 Q.length c7) st false), .int .i64 (wrap64 (wrap64 ((k : Int) + 1) + (m : Int)))]) = _; rw [HV2.out]), R.2.1, R.2.2, hs8⟩)
      · have e0 := Lib.hid (eT.trans (if_neg fun h => hN2 ⟨h.1, h.2.1⟩))
        have hN3 : (N : Int) < 2 ∨ (¬ (N : Int) < 2 ∧ (132 : Int) < N) := by omega
        clear hN2 eT
        rcases hN3 with hj | ⟨hj1, hj2⟩
        · go_enter Tryz.func85, Tryz.ntmps85
          go_upto_region 1 with fail
          refine wp_fg (TX w base v0 st J O) hpn ?_
          clear hpn
          intro X hX
          go_upto_region 4 with (go_at_call 128; refine (HPr.out _ hX.bel).mono ?_; rintro e w1 ⟨rfl, hb1⟩; have hT := hX.below hb1 hb)
          have hck := HCk.out _ hT.bel
          go_upto_region 13 with (go_at_call 83; refine (HCx.out _ hT.bel).mono ?_; rintro e w2 ⟨rfl, hb2⟩)
          replace hT := hT.below hb2 hb
          clear hX hb1 hb2 hck
          obtain ⟨A6, c6, B1, B2, ox, hs6, tx⟩ := hT
          have c0 := B1.cell 0
          have c1 := B1.cell 1
          have c2 := B1.cell 2
          have d0 := B2.cell 0
          have d1 := B2.cell 1
          have d2 := B2.cell 2
          have f0 := B1.frozen 0
          have f2 := B1.frozen 2
          have g0 := B2.frozen 0
          have g1 := B2.frozen 1
          have g2 := B2.frozen 2
          simp only [tC, List.getElem?_toArray, List.getElem?_cons_zero, List.getElem?_cons_succ] at c0 c1 c2 d0 d1 d2
          have R := TX.copy (v := .slice A6 O.length c6) (st' := st) (j' := J) B2 ox hs6 tx hb
          go_wp2
          exact bodyPost_ret (results_ctmp rfl _ _ (w.heap.size + 1) 64 _ (0, 0) _ rfl R.1 Tryz.underlying64 rfl info_T) rfl (by rw [e0.out]; exact ⟨_, _, _, _, _, rfl, R.2.2⟩)
        · go_enter Tryz.func85, Tryz.ntmps85
          go_upto_region 1 with fail
          refine wp_fg (TX w base v0 st J O) hpn ?_
          clear hpn
          intro X hX
          go_upto_region 4 with (go_at_call 128; refine (HPr.out _ hX.bel).mono ?_; rintro e w1 ⟨rfl, hb1⟩; have hT := hX.below hb1 hb)
          have hck := HCk.out _ hT.bel
          go_upto_region 13 with (go_at_call 83; refine (HCx.out _ hT.bel).mono ?_; rintro e w2 ⟨rfl, hb2⟩)
          replace hT := hT.below hb2 hb
          clear hX hb1 hb2 hck
          obtain ⟨A6, c6, B1, B2, ox, hs6, tx⟩ := hT
          have c0 := B1.cell 0
          have c1 := B1.cell 1
          have c2 := B1.cell 2
          have d0 := B2.cell 0
          have d1 := B2.cell 1
          have d2 := B2.cell 2
          have f0 := B1.frozen 0
          have f2 := B1.frozen 2
          have g0 := B2.frozen 0
          have g1 := B2.frozen 1
          have g2 := B2.frozen 2
          simp only [tC, List.getElem?_toArray, List.getElem?_cons_zero, List.getElem?_cons_succ] at c0 c1 c2 d0 d1 d2
          have R := TX.copy (v := .slice A6 O.length c6) (st' := st) (j' := J) B2 ox hs6 tx hb
          go_wp2
          exact bodyPost_ret (results_ctmp rfl _ _ (w.heap.size + 1) 64 _ (0, 0) _ rfl R.1 Tryz.underlying64 rfl info_T) rfl (by rw [e0.out]; exact ⟨_, _, _, _, _, rfl, R.2.2⟩)
theorem rnum (O : List Gl) (st : Int) (J : Bool) (l : List ByteArray) (ho : O.length ≤ 1000000000) (A : Option Addr) (c base : Nat) (w : World) (hb : base ≤ w.heap.size) (h : w.ownsRow base 41 3 (.slice A O.length c) O.length (encGs O)) (Aw : Option Addr) (nw cw : Nat) (hW : WdA base w l Aw nw cw) (hot : ∀ x ∈ O, x.text.size ≤ 1000000) : Calls Tryz.prog 85 #[.agg (tC (.slice A O.length c) st J), .slice Aw nw cw] w (PRes base (.slice A O.length c) w l (amtL ⟨l, O, st, J⟩)) := by
  cases hp : prefixL l with
  | none => exact rnum_no O st J l ho A c base w hb h Aw nw cw hW hp
  | some x =>
    obtain ⟨nn, k⟩ := x
    by_cases hneg : nn < 0
    · exact rnum_neg O st J l ho A c base w hb h Aw nw cw hW nn k hp hneg
    · by_cases hT : l[k]? = some bTimes
      · exact rnum_times O st J l ho A c base w hb h Aw nw cw hW hot nn k hp hneg hT
      · exact rnum_dec O st J l ho A c base w hb h Aw nw cw hW nn k hp hneg hT
end Go.Proofs.YtndgcjdiemfngaaGreatDoor
