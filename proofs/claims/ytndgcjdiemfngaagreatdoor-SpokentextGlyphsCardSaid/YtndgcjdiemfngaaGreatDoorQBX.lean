/- Joined texts: Rp4, RpP. -/
import Derived.Laws.ResultCell
import Derived.Test.YtndgcjdiemfngaaGreatDoorQAY
import Derived.Test.YtndgcjdiemfngaaGreatDoorQBD
import Derived.Test.YtndgcjdiemfngaaGreatDoorQBW
set_option linter.unusedVariables false
set_option linter.unusedSimpArgs false
set_option linter.unnecessarySimpa false
/- The reference of layer 40: add. -/
namespace Go.Proofs.YtndgcjdiemfngaaGreatDoor
open Go.RowKit
set_option maxRecDepth 20000
theorem results_ctmp {P : Program} {fn : Func} {p u : Tmp} {ty : TypeId} (h : fn.results = #[.cell p ty, .tmp u]) (tmps : Array Value) (w : World) (g : Nat) (t : TypeId) (cs : Array Value) (fr : Nat × Nat) (d : TypeDesc)
    (hp : tmps.getD p undef = .pointer (some ⟨g, 0, none⟩)) (hg : w.heap[g]? = some (.cells cs t fr))
    (hu : P.underlying ty = some d) (hd : (match d with | .struct _ | .array _ _ => true | _ => false) = true) (hi : (P.info? ty).map (·.size) = some cs.size) :
    (results fn tmps).run P w = .ok (.tuple #[.agg cs, tmps.getD u undef]) w := by
  rw [results_cell_tmp h, hp]
  simp [asAddr, run_loadVar_row w g t ty cs fr d hg hu hd hi]
theorem TX.below {w X X' : World} {base : Nat} {v0 : Value} {st : Int} {j : Bool} {O : List Gl} (h : TX w base v0 st j O X) (hb : Below X.heap.size X X') (hbase : base ≤ w.heap.size) : TX w base v0 st j O X' := by
  obtain ⟨A, c, B1, B2, ox, hs, tx⟩ := h
  exact ⟨A, c, B1.below hb B1.lt, B2.below hb B2.lt, own_below ox hb, hs, tx.below hb hbase⟩
/-- The last glyph's text is written. -/
theorem TX.mark {w X : World} {base c k Gr : Nat} {v0 : Value} {st : Int} {j : Bool} {O : List Gl} {s : ByteArray} (hk : k < O.length)
    (B1 : Blk X w.heap.size 64 (tC (.slice (some ⟨Gr, 0, none⟩) O.length c) st j)) (B2 : Blk X (w.heap.size + 1) 64 (tC (.slice none 0 0) 0 false)) (hs : Sep w.heap.size v0 (.slice (some ⟨Gr, 0, none⟩) O.length c))
    (o : X.ownsRow base 41 3 (.slice (some ⟨Gr, 0, none⟩) O.length c) O.length (encGs O)) (tX : BG base v0 w X) :
    TX w base v0 st j (O.set k ⟨s, O[k].wide, O[k].style⟩) (X.setCell ⟨Gr, k * 3, none⟩ (.string s)) := by
  have hg := hs.ne Gr rfl
  have hbg := (own_blk o).1
  have o5 := own_cell o (show k * 3 < O.length * 3 by omega) (.string s)
  rw [encGs_text O k hk s] at o5
  refine ⟨some ⟨Gr, 0, none⟩, c, ?_, B2.far (p := ⟨Gr, k * 3, none⟩) (by show w.heap.size + 1 ≠ Gr; omega) _, ?_, ?_, tX.grown (v := .slice (some ⟨Gr, 0, none⟩) O.length c) ((Below.refl _ _).setCell (p := ⟨Gr, k * 3, none⟩) hbg _) (gby_set X ⟨Gr, k * 3, none⟩ _) hs⟩
  · rw [List.length_set]
    exact B1.far (p := ⟨Gr, k * 3, none⟩) (by show w.heap.size ≠ Gr; omega) _
  · rw [List.length_set]
    exact o5
  · rw [List.length_set]
    exact hs
set_option maxHeartbeats 4000000 in
theorem radd (O : List Gl) (st : Int) (J : Bool) (r : Nat) (hr : isChN r) (times : Nat) (ht : times ≤ 132) (ho : O.length ≤ 1000000000) (hot : ∀ x ∈ O, x.text.size ≤ 1000000) (A : Option Addr) (c base : Nat) (w : World) (hb : base ≤ w.heap.size) (h : w.ownsRow base 41 3 (.slice A O.length c) O.length (encGs O)) :
    Calls Tryz.prog 84 #[.agg (tC (.slice A O.length c) st J), .int .i32 (r : Int), .int .i64 times] w (TRet base (.slice A O.length c) w (addL O st (r : Int) times).2 st J (fun v => .tuple #[v, .bool (addL O st (r : Int) times).1])) := by
  have HW := Lib.hid (rwidth (r : Int))
  have hpn := TX.new (st := st) (j := J) h hb
  clear h
  obtain ⟨v0, hv0⟩ : ∃ x, x = Value.slice A O.length c := ⟨_, rfl⟩
  have HV := Lib.hid hv0
  rw [← hv0] at hpn ⊢
  clear hv0
  by_cases hw0 : widL (r : Int) < 0
  · rw [addL_neg hw0]
    have hz : (widL (r : Int) == 0) = false := beq_eq_false_iff_ne.2 (by omega)
    generalize widL (r : Int) = WL at *
    generalize (r : Int) = R at *
    go_enter Tryz.func84, Tryz.ntmps84
    go_upto_region 1 with fail
    refine wp_fg (TX w base v0 st J O) hpn ?_
    clear hpn
    intro X hX
    go_upto_region 2 with (go_at_call 94; refine (HW.out X).mono ?_; rintro e w1 ⟨rfl, hb1⟩; have hT := hX.below hb1 hb)
    obtain ⟨A6, c6, B1, B2, ox, hs6, tx⟩ := hT
    have c0 := B1.cell 0
    have c1 := B1.cell 1
    have c2 := B1.cell 2
    have d0 := B2.cell 0
    have d1 := B2.cell 1
    have d2 := B2.cell 2
    have f0 := B1.frozen 0
    have f2 := B1.frozen 2
    have g0 := B2.frozen 0
    have g1 := B2.frozen 1
    have g2 := B2.frozen 2
    simp only [tC, List.getElem?_toArray, List.getElem?_cons_zero, List.getElem?_cons_succ] at c0 c1 c2 d0 d1 d2
    have R := TX.copy (v := .slice A6 O.length c6) (st' := st) (j' := J) B2 ox hs6 tx hb
    go_wp2
    exact bodyPost_ret (results_ctmp rfl _ _ (w.heap.size + 1) 64 _ (0, 0) _ rfl R.1 Tryz.underlying64 rfl info_T) rfl ⟨A6, c6, rfl, R.2.1, R.2.2, hs6⟩
  · by_cases hw1 : widL (r : Int) = 0
    · by_cases hmany : 1 < times
      · rw [addL_many hw1 hmany]
        generalize widL (r : Int) = WL at *
        generalize (r : Int) = R at *
        have i1 : (1 : Int) < times := by omega
        subst hw1
        go_enter Tryz.func84, Tryz.ntmps84
        go_upto_region 1 with fail
        refine wp_fg (TX w base v0 st J O) hpn ?_
        clear hpn
        intro X hX
        go_upto_region 2 with (go_at_call 94; refine (HW.out X).mono ?_; rintro e w1 ⟨rfl, hb1⟩; have hT := hX.below hb1 hb)
        obtain ⟨A6, c6, B1, B2, ox, hs6, tx⟩ := hT
        have c0 := B1.cell 0
        have c1 := B1.cell 1
        have c2 := B1.cell 2
        have d0 := B2.cell 0
        have d1 := B2.cell 1
        have d2 := B2.cell 2
        have f0 := B1.frozen 0
        have f2 := B1.frozen 2
        have g0 := B2.frozen 0
        have g1 := B2.frozen 1
        have g2 := B2.frozen 2
        simp only [tC, List.getElem?_toArray, List.getElem?_cons_zero, List.getElem?_cons_succ] at c0 c1 c2 d0 d1 d2
        have R := TX.copy (v := .slice A6 O.length c6) (st' := st) (j' := J) B2 ox hs6 tx hb
        go_wp2
        exact bodyPost_ret (results_ctmp rfl _ _ (w.heap.size + 1) 64 _ (0, 0) _ rfl R.1 Tryz.underlying64 rfl info_T) rfl ⟨A6, c6, rfl, R.2.1, R.2.2, hs6⟩
      · cases hO : O with
        | nil =>
          subst hO
          rw [addL_none hw1]
          generalize widL (r : Int) = WL at *
          generalize (r : Int) = R at *
          have i1 : ¬ (1 : Int) < times := by omega
          subst hw1
          simp only [List.length_nil] at hpn ⊢
          go_enter Tryz.func84, Tryz.ntmps84
          go_upto_region 1 with fail
          refine wp_fg (TX w base v0 st J ([] : List Gl)) hpn ?_
          clear hpn
          intro X hX
          go_upto_region 2 with (go_at_call 94; refine (HW.out X).mono ?_; rintro e w1 ⟨rfl, hb1⟩; have hT := hX.below hb1 hb)
          obtain ⟨A6, c6, B1, B2, ox, hs6, tx⟩ := hT
          have c0 := B1.cell 0
          have c1 := B1.cell 1
          have c2 := B1.cell 2
          have d0 := B2.cell 0
          have d1 := B2.cell 1
          have d2 := B2.cell 2
          have f0 := B1.frozen 0
          have f2 := B1.frozen 2
          have g0 := B2.frozen 0
          have g1 := B2.frozen 1
          have g2 := B2.frozen 2
          simp only [tC, List.getElem?_toArray, List.getElem?_cons_zero, List.getElem?_cons_succ] at c0 c1 c2 d0 d1 d2
          have R := TX.copy (v := .slice A6 ([] : List Gl).length c6) (st' := st) (j' := J) B2 ox hs6 tx hb
          go_wp2
          exact bodyPost_ret (results_ctmp rfl _ _ (w.heap.size + 1) 64 _ (0, 0) _ rfl R.1 Tryz.underlying64 rfl info_T) rfl ⟨A6, c6, rfl, R.2.1, R.2.2, hs6⟩
        | cons x O' =>
          have hk : ∃ k, k + 1 = O.length := ⟨O'.length, by rw [hO]; simp⟩
          rw [← hO]
          clear hO
          obtain ⟨k, hk⟩ := hk
          rw [addL_mark hw1 hmany k hk]
          have htx := hot (O[k]'(by omega)) (List.getElem_mem _)
          have hkl : k < O.length := by omega
          have HCell : Hid (∀ (w' : World) (A : Option Addr) (c : Nat), w'.ownsRow base 41 3 (.slice A O.length c) O.length (encGs O) → ∃ G, A = some ⟨G, 0, none⟩ ∧ w'.cell? ⟨G, k * 3, none⟩ = some (.string (O[k]'hkl).text)) := Lib.hid fun w' A c ho => by
            obtain ⟨b, o, rfl, _, a0, _⟩ := rd_gl (Rd.of_own ho) hkl rfl
            have hz : o = 0 := by
              rcases ho.2 with ⟨h0, _⟩ | ⟨g', cap, cur, hv, _⟩
              · cases h0
              · simp only [Value.slice.injEq, Option.some.injEq, Addr.mk.injEq, and_true] at hv
                exact hv.1.2
            subst hz
            rw [Nat.zero_add] at a0
            exact ⟨b, rfl, a0⟩
          have HAt := Lib.hid (fun w' => rattach (O[k]'hkl).text (Nat.le_trans htx (by decide)) r hr w')
          have HMk : Hid (∀ (X : World) (c Gr : Nat) (s : ByteArray), Blk X w.heap.size 64 (tC (.slice (some ⟨Gr, 0, none⟩) O.length c) st J) → Blk X (w.heap.size + 1) 64 (tC (.slice none 0 0) 0 false) → Sep w.heap.size v0 (.slice (some ⟨Gr, 0, none⟩) O.length c) →
              X.ownsRow base 41 3 (.slice (some ⟨Gr, 0, none⟩) O.length c) O.length (encGs O) → BG base v0 w X → TX w base v0 st J (O.set k ⟨s, (O[k]'hkl).wide, (O[k]'hkl).style⟩) (X.setCell ⟨Gr, k * 3, none⟩ (.string s))) := Lib.hid fun X c Gr s b1 b2 hs o tX => TX.mark hkl b1 b2 hs o tX
          have hk9 : k ≤ 1000000000 := by omega
          have hk3 : k * 3 < O.length * 3 := by omega
          generalize (O[k]'hkl) = x at *
          obtain ⟨tx, wd, sx⟩ := x
          dsimp only at *
          generalize attachC tx (r : Int) = AT at *
          obtain ⟨S, E⟩ := AT
          simp only [attV] at HAt
          dsimp only
          have HNL : Hid (O.length = k + 1) := Lib.hid hk.symm
          generalize hOS : O.set k ⟨S, wd, sx⟩ = OS at *
          have HOS := Lib.hid hOS
          clear hot hkl htx ho hr hk hOS
          generalize widL (r : Int) = WL at *
          generalize (r : Int) = R at *
          have i1 : ¬ (1 : Int) < times := by omega
          subst hw1
          have hk0 : (0 : Int) ≤ k := by omega
          have hkn : (k : Int) < (k : Int) + 1 := by omega
          have hkw : IntKind.i64.wrap ((k : Int) + 1 - 1) = (k : Int) := by rw [IntKind.wrap_i64]; omega
          have hkz : ((k : Int) + 1 == 0) = false := beq_eq_false_iff_ne.2 (by omega)
          go_enter Tryz.func84, Tryz.ntmps84
          go_upto_region 1 with fail
          refine wp_fg (TX w base v0 st J O) hpn ?_
          clear hpn
          intro X hX
          go_upto_region 2 with (go_at_call 94; refine (HW.out X).mono ?_; rintro e w1 ⟨rfl, hb1⟩; have hT := hX.below hb1 hb)
          have hnl := HNL.out
          obtain ⟨A3, c3, B1, B2, o3, hs3, t3⟩ := hT
          obtain ⟨G, rfl, hcG⟩ := HCell.out _ _ _ o3
          have hG := hs3.ne G rfl
          have zz := B2.lt
          have c0 := B1.cell 0
          have c1 := B1.cell 1
          have c2 := B1.cell 2
          have d0 := B2.cell 0
          have d1 := B2.cell 1
          have d2 := B2.cell 2
          have f0 := B1.frozen 0
          have f2 := B1.frozen 2
          have g0 := B2.frozen 0
          have g1 := B2.frozen 1
          have g2 := B2.frozen 2
          simp only [tC, List.getElem?_toArray, List.getElem?_cons_zero, List.getElem?_cons_succ] at c0 c1 c2 d0 d1 d2
          rw [hnl] at c0
          go_upto_region 7 with (go_at_call 126; refine (HAt.out w1).mono ?_; rintro e w2 ⟨rfl, hb2⟩)
          clear c0 c1 c2 d0 d1 d2 f0 f2 g0 g1 g2
          replace B1 := B1.below hb2 B1.lt
          replace B2 := B2.below hb2 B2.lt
          have o4 := own_below o3 hb2
          have t4 := t3.below hb2 hb
          obtain ⟨hgG, _, _, cur, BG⟩ := own_blk o4
          have FG := BG.frozen (k * 3)
          obtain ⟨G', eG, hcG'⟩ := HCell.out _ _ _ o4
          obtain rfl : G = G' := (by simpa using eG)
          have c0 := B1.cell 0
          have c1 := B1.cell 1
          have c2 := B1.cell 2
          have d0 := B2.cell 0
          have d1 := B2.cell 1
          have d2 := B2.cell 2
          have f0 := B1.frozen 0
          have f2 := B1.frozen 2
          have g0 := B2.frozen 0
          have g1 := B2.frozen 1
          have g2 := B2.frozen 2
          simp only [tC, List.getElem?_toArray, List.getElem?_cons_zero, List.getElem?_cons_succ] at c0 c1 c2 d0 d1 d2
          rw [hnl] at c0
          have hT := HMk.out _ _ _ S B1 B2 hs3 o4 t4
          rw [HOS.out] at hT
          go_upto_region 8 with fail
          clear c0 c1 c2 d0 d1 d2 f0 f2 g0 g1 g2 B1 B2
          obtain ⟨A6, c6, B1, B2, ox, hs6, tx⟩ := hT
          have c0 := B1.cell 0
          have c1 := B1.cell 1
          have c2 := B1.cell 2
          have d0 := B2.cell 0
          have d1 := B2.cell 1
          have d2 := B2.cell 2
          have f0 := B1.frozen 0
          have f2 := B1.frozen 2
          have g0 := B2.frozen 0
          have g1 := B2.frozen 1
          have g2 := B2.frozen 2
          simp only [tC, List.getElem?_toArray, List.getElem?_cons_zero, List.getElem?_cons_succ] at c0 c1 c2 d0 d1 d2
          have R := TX.copy (v := .slice A6 OS.length c6) (st' := st) (j' := J) B2 ox hs6 tx hb
          go_wp2
          exact bodyPost_ret (results_ctmp rfl _ _ (w.heap.size + 1) 64 _ (0, 0) _ rfl R.1 Tryz.underlying64 rfl info_T) rfl ⟨A6, c6, rfl, R.2.1, R.2.2, hs6⟩
    · have hw2 : 1 ≤ widL (r : Int) := by omega
      have HSp : Hid (∀ wr : World, Calls Tryz.prog 127 #[.slice (some ⟨wr.heap.size, 0, none⟩) 1 1] (wr.alloc (.cells #[.int .i32 (r : Int)] 21)).drew (GivesOwn 9 1 id (wr.alloc (.cells #[.int .i32 (r : Int)] 21)).drew 1 (sv [encB r]))) := Lib.hid fun wr =>
        rsplit1 r hr hw2 _ 1 (wr.heap.size + 1) _ (chV_built wr r 21) (by show wr.heap.size + 1 ≤ (wr.alloc _).heap.size; simp)
      rw [addL_wide hw2]
      have HGl : Hid ((⟨encB r, decide (widL (r : Int) = 2), st⟩ : Gl) = ⟨encB r, widL (r : Int) == 2, st⟩) := Lib.hid rfl
      rw [HGl.out]
      have HRn : Hid (∀ j, O ++ List.replicate (j + 1) (⟨encB r, widL (r : Int) == 2, st⟩ : Gl) = (O ++ List.replicate j ⟨encB r, widL (r : Int) == 2, st⟩) ++ [⟨encB r, widL (r : Int) == 2, st⟩]) := Lib.hid fun j => by rw [List.replicate_succ', List.append_assoc]
      have HLn : Hid (∀ j, j ≤ times → (O ++ List.replicate j (⟨encB r, widL (r : Int) == 2, st⟩ : Gl)).length ≤ 1000000132) := Lib.hid fun j hj => by rw [List.length_append, List.length_replicate]; omega
      have hz0 : (widL (r : Int) == 0) = false := beq_eq_false_iff_ne.2 hw1
      have hn0 : decide (widL (r : Int) < 0) = false := decide_eq_false hw0
      clear hr hot hw2 HGl hw0 hw1
      generalize hWL : widL (r : Int) = WL at *
      generalize encB r = EB at *
      generalize hGL : (⟨EB, WL == 2, st⟩ : Gl) = GL at *
      replace hGL := Lib.hid hGL
      generalize (r : Int) = R at *
      clear hWL
      go_enter Tryz.func84, Tryz.ntmps84
      go_upto_region 1 with fail
      refine wp_fg (TX w base v0 st J O) hpn ?_
      clear hpn
      intro X hX
      go_upto_region 2 with (go_at_call 94; refine (HW.out X).mono ?_; rintro e w1 ⟨rfl, hb1⟩; have hT := hX.below hb1 hb)
      go_upto_region 9 with fail
      clear hX hb1
      go_wp2
      go_loopw [12] (fun x wr => ∃ j : Nat, j ≤ times ∧ x = .int .i64 j ∧ TX w base v0 st J (O ++ List.replicate j GL) wr) (fun x _ => times - (intOf x).toNat)
      case atStart => exact ⟨0, Nat.zero_le _, rfl, by rw [List.replicate_zero, List.append_nil]; exact hT⟩
      case round =>
        clear hT
        obtain ⟨j, hj, rfl, hT⟩ := hrel
        by_cases hlt : j < times
        · have hlen := HLn.out j hj
          have HQl : Hid ((O ++ List.replicate (j + 1) GL).length = (O ++ List.replicate j GL).length + 1) := Lib.hid (by rw [HRn.out j, List.length_append]; rfl)
          have HQs : Hid (encGs (O ++ List.replicate (j + 1) GL) = encGs (O ++ List.replicate j GL) ++ encG GL) := Lib.hid (by rw [HRn.out j, encGs_app, encGs_one])
          clear HRn HLn HW
          generalize O ++ List.replicate j GL = OJ at *
          obtain ⟨A6, c6, B1, B2, ox, hs6, tx⟩ := hT
          have HS6 := Lib.hid hs6
          have zz := B2.lt
          have zg := B1.lt
          have c0 := B1.cell 0
          have c1 := B1.cell 1
          have c2 := B1.cell 2
          have d0 := B2.cell 0
          have d1 := B2.cell 1
          have d2 := B2.cell 2
          have f0 := B1.frozen 0
          have f2 := B1.frozen 2
          have g0 := B2.frozen 0
          have g1 := B2.frozen 1
          have g2 := B2.frozen 2
          simp only [tC, List.getElem?_toArray, List.getElem?_cons_zero, List.getElem?_cons_succ] at c0 c1 c2 d0 d1 d2
          have HE := Lib.hid (HSp.out wr)
          have o0 := own_below (World.ownsRow.alloc ox (.cells #[.int .i32 R] 21)) (Below.refl _ _).drew
          have B10 := (Blk.alloc B1 (.cells #[.int .i32 R] 21)).drew
          have B20 := (Blk.alloc B2 (.cells #[.int .i32 R] 21)).drew
          have t0 : BG base v0 w (wr.alloc (.cells #[.int .i32 R] 21)).drew := (tx.alloc hb _).drew hb
          have hG := hGL.out
          subst hG
          clear hGL hs6
          go_upto_region 12 with fail
          go_region_law (first
            | (go_simp; go_at_call 127; refine HE.out.mono ?_; rintro e w5 ⟨A5, c5, rfl, o5s, hb5⟩; obtain ⟨Bs, Os, rfl, _, hcs⟩ := (Rd.of_own o5s).at_ (Nat.succ_pos _); rw [sv_get _ _ (Nat.succ_pos _), Nat.add_zero] at hcs; have B15 := B10.below hb5 B10.lt; have B25 := B20.below hb5 B20.lt; have z5 : w.heap.size + 1 < w5.heap.size := B25.lt; have z6 : w.heap.size < w5.heap.size := B15.lt; have o5 := own_below o0 hb5; have t5 := t0.below hb5 hb; have c50 := B15.cell 0; have c51 := B15.cell 1; simp only [tC, List.getElem?_toArray, List.getElem?_cons_zero, List.getElem?_cons_succ] at c50 c51)
            | (refine app_step rfl _ _ _ rfl elt_gl (base) _ rfl ((o5.alloc _)) _ _ rfl ((rd_built (xs := encG ⟨EB, WL == 2, st⟩) rfl rfl)) (rfl) (by omega) (by omega) (by first | (simp; done) | (simp; omega) | omega) ?_; intro A4 c4 w4 hown4 hbel4 hgr4 hat4; have z4 := hbel4.size; (try simp only [Nat.zero_add, List.nil_append] at hown4); have B4 := (Blk.alloc B15 (.cells (encG ⟨EB, WL == 2, st⟩).toArray 41)).grown hgr4 (some_ne fun k hk => (HS6.out.ne k hk).1); have c42 := B4.cell 0; have f42 := B4.frozen 0; simp only [tC, List.getElem?_toArray, List.getElem?_cons_zero, List.getElem?_cons_succ] at c42))
          all_goals go_wp2
          all_goals exact ⟨⟨j + 1, by omega, by go_num, TX.put (Blk.alloc B15 _) (Blk.alloc B25 _) HS6.out (t5.alloc hb _) hb hown4 hbel4 hgr4 hat4 HQl.out HQs.out⟩, by simp [intOf]; omega⟩
        · obtain rfl : j = times := by omega
          clear HRn HLn HW HSp
          obtain ⟨OJ, hOJ⟩ : ∃ x, x = O ++ List.replicate j GL := ⟨_, rfl⟩
          rw [← hOJ] at hT
          have HOJ := Lib.hid hOJ
          clear hOJ
          obtain ⟨A6, c6, B1, B2, ox, hs6, tx⟩ := hT
          have c0 := B1.cell 0
          have c1 := B1.cell 1
          have c2 := B1.cell 2
          have d0 := B2.cell 0
          have d1 := B2.cell 1
          have d2 := B2.cell 2
          have f0 := B1.frozen 0
          have f2 := B1.frozen 2
          have g0 := B2.frozen 0
          have g1 := B2.frozen 1
          have g2 := B2.frozen 2
          simp only [tC, List.getElem?_toArray, List.getElem?_cons_zero, List.getElem?_cons_succ] at c0 c1 c2 d0 d1 d2
          have R := TX.copy (v := .slice A6 OJ.length c6) (st' := st) (j' := J) B2 ox hs6 tx hb
          go_wp2
          rw [← HOJ.out]
          exact bodyPost_ret (results_ctmp rfl _ _ (w.heap.size + 1) 64 _ (0, 0) _ rfl R.1 Tryz.underlying64 rfl info_T) rfl ⟨A6, c6, rfl, R.2.1, R.2.2, hs6⟩
end Go.Proofs.YtndgcjdiemfngaaGreatDoor
/- The reference of layer 40: what a part is, in plain Lean, in the order in which the reference asks. -/
namespace Go.Proofs.YtndgcjdiemfngaaGreatDoor
open Go.RowKit
set_option maxRecDepth 20000
/-- A word that begins neither a character part nor a number. -/
def HeadNo (a : ByteArray) : Prop := nIdx a = none ∧ a ≠ cB ∧ a ≠ bSpace ∧ ∀ j, j < 32 → wb j ≠ a
theorem HeadNo.charW {a : ByteArray} (h : HeadNo a) (t : List ByteArray) : charW (a :: t) = none := by
  obtain ⟨h1, h2, h3, _⟩ := h
  simp only [Proofs.YtndgcjdiemfngaaGreatDoor.charW, if_neg h3, unspellL, h1, if_neg h2]
theorem HeadNo.prefixL {a : ByteArray} (h : HeadNo a) (t : List ByteArray) : prefixL (a :: t) = none := by
  cases hp : Proofs.YtndgcjdiemfngaaGreatDoor.prefixL (a :: t) with
  | none => rfl
  | some y =>
    obtain ⟨n, k⟩ := y
    obtain ⟨hk0, hkl, _, hnum, _⟩ := prefixL_some hp
    obtain ⟨h1, h2, hw, _⟩ := number_some hnum
    obtain ⟨m, rfl⟩ : ∃ m, k = m + 1 := ⟨k - 1, by omega⟩
    rw [List.take_succ_cons] at hw
    cases hws : wordsL n with
    | nil => rw [hws] at hw; cases hw
    | cons j u =>
      rw [hws, List.map_cons] at hw
      injection hw with hw _
      exact absurd hw (h.2.2.2 j (sg_words_lt n h1 h2 j (by rw [hws]; simp)))
theorem headNo_cap : HeadNo bCap := ⟨by decide +kernel, by decide +kernel, by decide +kernel, by decide +kernel⟩
theorem headNo_caps : HeadNo bCaps := ⟨by decide +kernel, by decide +kernel, by decide +kernel, by decide +kernel⟩
theorem headNo_digits : HeadNo bDigits := ⟨by decide +kernel, by decide +kernel, by decide +kernel, by decide +kernel⟩
theorem HeadNo.sign {p : Prs} {a : ByteArray} {t : List ByteArray} (h : HeadNo a) (hw : p.words = a :: t) : signL p = none := by
  unfold signL
  rw [hw, h.charW t]
theorem HeadNo.amt {p : Prs} {a : ByteArray} {t : List ByteArray} (h : HeadNo a) (hw : p.words = a :: t) : amtL p = none := by
  unfold amtL
  rw [hw, h.prefixL t]
section
variable {p : Prs} {a : ByteArray} {t : List ByteArray}
theorem rp_sty {i : Nat} (hw : p.words = a :: t) (h : styIdx a = some i) : partL p = some ⟨t, p.out, (i : Nat), false⟩ := by
  have e : styledL p = some ⟨t, p.out, (i : Nat), false⟩ := by unfold styledL; rw [hw]; simp only [h]
  unfold partL
  rw [e]
  rfl
theorem rp_join (hw : p.words = a :: t) (h : styIdx a = none) (ha : a = bJoined) : partL p = some ⟨t, p.out, p.style, false⟩ := by
  have e : styledL p = some ⟨t, p.out, p.style, false⟩ := by unfold styledL; rw [hw]; simp only [h, if_pos ha]
  unfold partL
  rw [e]
  rfl
theorem sty_no (hw : p.words = a :: t) (h : styIdx a = none) (ha : a ≠ bJoined) : styledL p = none := by
  unfold styledL
  rw [hw]
  simp only [h, if_neg ha]
theorem fig_no (hw : p.words = a :: t) (ha : a ≠ bDigits) : figL p = none := by
  unfold figL
  rw [hw]
  simp only
  rw [if_neg (fun h => ha h.1)]
theorem word_lit (hw : p.words = a :: t) (h1 : a ≠ bCap) (h2 : a ≠ bCaps) : wordL p = (litL (a :: t)).map fun (s, n) => textL p s n := by
  unfold wordL
  rw [hw]
  simp only
  rw [if_neg h1, if_neg h2]
theorem rp_cap (hw : p.words = a :: t) (h : styIdx a = none) (hj : a ≠ bJoined) (ha : a = bCap) : partL p = (litL t).map fun (s, n) => textL p (raiseL s 1) (1 + n) := by
  have e : wordL p = (litL t).map fun (s, n) => textL p (raiseL s 1) (1 + n) := by
    unfold wordL
    rw [hw]
    simp only
    rw [if_pos ha]
  unfold partL
  rw [sty_no hw h hj, e]
  cases litL t with
  | some x => rfl
  | none =>
    have hd : a ≠ bDigits := by rw [ha]; decide +kernel
    have hn : HeadNo a := ha ▸ headNo_cap
    show ((figL p).orElse fun _ => (signL p).orElse fun _ => amtL p) = none
    rw [fig_no hw hd, hn.sign hw, hn.amt hw]
    rfl
theorem rp_caps (hw : p.words = a :: t) (h : styIdx a = none) (hj : a ≠ bJoined) (ha : a = bCaps) : partL p = (litL t).map fun (s, n) => textL p (raiseL s s.size) (1 + n) := by
  have hc : a ≠ bCap := by rw [ha]; decide +kernel
  have e : wordL p = (litL t).map fun (s, n) => textL p (raiseL s s.size) (1 + n) := by
    unfold wordL
    rw [hw]
    simp only
    rw [if_neg hc, if_pos ha]
  unfold partL
  rw [sty_no hw h hj, e]
  cases litL t with
  | some x => rfl
  | none =>
    have hd : a ≠ bDigits := by rw [ha]; decide +kernel
    have hn : HeadNo a := ha ▸ headNo_caps
    show ((figL p).orElse fun _ => (signL p).orElse fun _ => amtL p) = none
    rw [fig_no hw hd, hn.sign hw, hn.amt hw]
    rfl
theorem rp_lit {s : ByteArray} {n : Nat} (hw : p.words = a :: t) (h : styIdx a = none) (hj : a ≠ bJoined) (h1 : a ≠ bCap) (h2 : a ≠ bCaps) (hl : litL (a :: t) = some (s, n)) : partL p = some (textL p s n) := by
  unfold partL
  rw [sty_no hw h hj, word_lit hw h1 h2, hl]
  rfl
theorem rp_fig (hw : p.words = a :: t) (h : styIdx a = none) (hj : a ≠ bJoined) (h1 : a ≠ bCap) (h2 : a ≠ bCaps) (hl : litL (a :: t) = none) (ha : a = bDigits) : partL p = if dgsL t ≠ [] then some (textL p (dgStr (dgsL t)) (1 + (dgsL t).length)) else none := by
  have hn : HeadNo a := ha ▸ headNo_digits
  have e : figL p = if dgsL t ≠ [] then some (textL p (dgStr (dgsL t)) (1 + (dgsL t).length)) else none := by
    unfold figL
    rw [hw]
    simp only [ha, true_and]
  unfold partL
  rw [sty_no hw h hj, word_lit hw h1 h2, hl, e, hn.sign hw, hn.amt hw]
  by_cases hd : dgsL t ≠ []
  · rw [if_pos hd]; rfl
  · rw [if_neg hd]; rfl
theorem rp_sign {r : Int} {n : Nat} (hw : p.words = a :: t) (h : styIdx a = none) (hj : a ≠ bJoined) (h1 : a ≠ bCap) (h2 : a ≠ bCaps) (hl : litL (a :: t) = none) (ha : a ≠ bDigits) (hc : charW (a :: t) = some (r, n)) :
    partL p = if (addL p.out p.style r 1).1 = true then some ⟨p.words.drop n, (addL p.out p.style r 1).2, p.style, false⟩ else none := by
  have e : signL p = if (addL p.out p.style r 1).1 = true then some ⟨p.words.drop n, (addL p.out p.style r 1).2, p.style, false⟩ else none := by
    unfold signL
    rw [show charW p.words = some (r, n) by rw [hw]; exact hc]
  have ea : amtL p = none := by
    unfold amtL
    rw [show prefixL p.words = none by rw [hw]; exact charW_prefix hc]
  unfold partL
  rw [sty_no hw h hj, word_lit hw h1 h2, hl, fig_no hw ha, e, ea]
  by_cases hd : (addL p.out p.style r 1).1 = true
  · rw [if_pos hd]; rfl
  · rw [if_neg hd]; rfl
theorem rp_amt (hw : p.words = a :: t) (h : styIdx a = none) (hj : a ≠ bJoined) (h1 : a ≠ bCap) (h2 : a ≠ bCaps) (hl : litL (a :: t) = none) (ha : a ≠ bDigits) (hc : charW (a :: t) = none) : partL p = amtL p := by
  have e : signL p = none := by
    unfold signL
    rw [show charW p.words = none by rw [hw]; exact hc]
  unfold partL
  rw [sty_no hw h hj, word_lit hw h1 h2, hl, fig_no hw ha, e]
  rfl
end
end Go.Proofs.YtndgcjdiemfngaaGreatDoor
