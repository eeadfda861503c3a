/- Joined: Rp4, RpP. -/
import Derived.Test.YtlndbiamiioakaaGreatDoorVBS
set_option linter.unusedVariables false
set_option linter.unusedSimpArgs false
set_option linter.unnecessarySimpa false
set_option maxHeartbeats 4000000
namespace Go.Proofs.YtlndbiamiioakaaGreatDoor
open Go.Proofs.Tryz Go.RowKit
set_option maxRecDepth 20000
theorem qp {P : Program} {fn : Func} {p u : Tmp} {ty : TypeId} (h : fn.results = #[.cell p ty, .tmp u]) (tmps : Array Value) (w : World) (g : Nat) (t : TypeId) (cs : Array Value) (fr : Nat × Nat) (d : TypeDesc)
  (hp : tmps.getD p undef = .pointer (some ⟨g, 0, none⟩)) (hg : w.heap[g]? = some (.cells cs t fr))
  (hu : P.underlying ty = some d) (hd : (match d with | .struct _ | .array _ _ => true | _ => false) = true) (hi : (P.info? ty).map (·.size) = some cs.size) :
  (results fn tmps).run P w = .ok (.tuple #[.agg cs, tmps.getD u undef]) w := by
 rw [results_cell_tmp h, hp]
 simp [asAddr, run_loadVar_row w g t ty cs fr d hg hu hd hi]
theorem TX.below {w X X' : World} {base : Nat} {v0 : Value} {st : Int} {j : Bool} {O : List Gl} (h : TX w base v0 st j O X) (hb : Below X.heap.size X X') (hbase : base <= w.heap.size) : TX w base v0 st j O X' := by
 obtain ⟨A, c, B1, B2, ox, hs, tx⟩ := h
 exact ⟨A, c, B1.below hb B1.lt, B2.below hb B2.lt, qa ox hb, hs, tx.below hb hbase⟩
theorem TX.mark {w X : World} {base c k Gr : Nat} {v0 : Value} {st : Int} {j : Bool} {O : List Gl} {s : ByteArray} (hk : k < O.length)
  (B1 : Blk X w.heap.size 98 (tC (.slice (some ⟨Gr, 0, none⟩) O.length c) st j)) (B2 : Blk X (w.heap.size + 1) 98 (tC (.slice none 0 0) 0 false)) (hs : Sep w.heap.size v0 (.slice (some ⟨Gr, 0, none⟩) O.length c))
  (o : X.ownsRow base 31 3 (.slice (some ⟨Gr, 0, none⟩) O.length c) O.length (qn O)) (tX : BG base v0 w X) :
  TX w base v0 st j (O.set k ⟨s, O[k].wide, O[k].style⟩) (X.setCell ⟨Gr, k * 3, none⟩ (.string s)) := by
 have hg := hs.ne Gr rfl
 have hbg := (qdF o).1
 have o5 := qed o (show k * 3 < O.length * 3 by omega) (.string s)
 rw [qaG O k hk s] at o5
 refine ⟨some ⟨Gr, 0, none⟩, c, ?_, B2.far (p := ⟨Gr, k * 3, none⟩) (by show w.heap.size + 1 ≠ Gr; omega) _, ?_, ?_, tX.grown (v := .slice (some ⟨Gr, 0, none⟩) O.length c) ((Below.refl _ _).setCell (p := ⟨Gr, k * 3, none⟩) hbg _) (qd1 X ⟨Gr, k * 3, none⟩ _) hs⟩
 ·rw [List.length_set]
  exact B1.far (p := ⟨Gr, k * 3, none⟩) (by show w.heap.size ≠ Gr; omega) _
 ·rw [List.length_set]
  exact o5
 ·rw [List.length_set]
  exact hs
theorem radd (O : List Gl) (st : Int) (J : Bool) (r : Nat) (hr : q9 r) (times : Nat) (ht : times <= 132) (ho : O.length <= 1000000000) (hot : ∀ x ∈ O, x.text.size <= 4000000) (A : Option Addr) (c base : Nat) (w : World) (hb : base <= w.heap.size) (h : w.ownsRow base 31 3 (.slice A O.length c) O.length (qn O)) :
  Calls prog 86 #[.agg (tC (.slice A O.length c) st J), .int .i32 (r : Int), .int .i64 times] w (TRt base (.slice A O.length c) w (zW O st (r : Int) times).2 st J (fun v => .tuple #[v, .bool (zW O st (r : Int) times).1])) := by
 have HW := Lh (qdU (r : Int))
 have hpn := TX.new (st := st) (j := J) h hb
 clear h
 obtain ⟨v0, hv0⟩ : ∃ x, x = Value.slice A O.length c := ⟨_, rfl⟩
 have HV := Lh hv0
 rw [<- hv0] at hpn ⊢
 clear hv0
 by_cases hw0 : zC (r : Int) < 0
 ·rw [qe2 hw0]
  have hz : (zC (r : Int) == 0) = false := beq_eq_false_iff_ne.2 (by omega)
  generalize zC (r : Int) = WL at *
  generalize (r : Int) = R at *
  go_enter func86, ntmps86
  go_upto_region 1 with fail
  refine qc (TX w base v0 st J O) hpn ?_
  clear hpn
  intro X hX
  go_upto_region 2 with (go_at_call 65; refine (HW.out X).mono ?_; rintro e w1 ⟨rfl, hb1⟩; have hT := hX.below hb1 hb)
  obtain ⟨A6, c6, B1, B2, ox, hs6, tx⟩ := hT
  have c0 := B1.cell 0
  have c1 := B1.cell 1
  have c2 := B1.cell 2
  have d0 := B2.cell 0
  have d1 := B2.cell 1
  have d2 := B2.cell 2
  have f0 := B1.frozen 0
  have f2 := B1.frozen 2
  have g0 := B2.frozen 0
  have g1 := B2.frozen 1
  have g2 := B2.frozen 2
  simp only [tC, La, Lb, Lc] at c0 c1 c2 d0 d1 d2
  have R := TX.copy (v := .slice A6 O.length c6) (st' := st) (j' := J) B2 ox hs6 tx hb
  go_wp2
  exact bodyPost_ret (qp rfl _ _ (w.heap.size + 1) 98 _ (0, 0) _ rfl R.1 underlying98 rfl zD) rfl ⟨A6, c6, rfl, R.2.1, R.2.2, hs6⟩
 ·by_cases hw1 : zC (r : Int) = 0
  ·by_cases hmany : 1 < times
   ·rw [qdi hw1 hmany]
    generalize zC (r : Int) = WL at *
    generalize (r : Int) = R at *
    have i1 : (1 : Int) < times := by omega
    subst hw1
    go_enter func86, ntmps86
    go_upto_region 1 with fail
    refine qc (TX w base v0 st J O) hpn ?_
    clear hpn
    intro X hX
    go_upto_region 2 with (go_at_call 65; refine (HW.out X).mono ?_; rintro e w1 ⟨rfl, hb1⟩; have hT := hX.below hb1 hb)
    obtain ⟨A6, c6, B1, B2, ox, hs6, tx⟩ := hT
    have c0 := B1.cell 0
    have c1 := B1.cell 1
    have c2 := B1.cell 2
    have d0 := B2.cell 0
    have d1 := B2.cell 1
    have d2 := B2.cell 2
    have f0 := B1.frozen 0
    have f2 := B1.frozen 2
    have g0 := B2.frozen 0
    have g1 := B2.frozen 1
    have g2 := B2.frozen 2
    simp only [tC, La, Lb, Lc] at c0 c1 c2 d0 d1 d2
    have R := TX.copy (v := .slice A6 O.length c6) (st' := st) (j' := J) B2 ox hs6 tx hb
    go_wp2
    exact bodyPost_ret (qp rfl _ _ (w.heap.size + 1) 98 _ (0, 0) _ rfl R.1 underlying98 rfl zD) rfl ⟨A6, c6, rfl, R.2.1, R.2.2, hs6⟩
   ·cases hO : O with
    | nil =>
     subst hO
     rw [qdj hw1]
     generalize zC (r : Int) = WL at *
     generalize (r : Int) = R at *
     have i1 : ¬ (1 : Int) < times := by omega
     subst hw1
     simp only [List.length_nil] at hpn ⊢
     go_enter func86, ntmps86
     go_upto_region 1 with fail
     refine qc (TX w base v0 st J ([] : List Gl)) hpn ?_
     clear hpn
     intro X hX
     go_upto_region 2 with (go_at_call 65; refine (HW.out X).mono ?_; rintro e w1 ⟨rfl, hb1⟩; have hT := hX.below hb1 hb)
     obtain ⟨A6, c6, B1, B2, ox, hs6, tx⟩ := hT
     have c0 := B1.cell 0
     have c1 := B1.cell 1
     have c2 := B1.cell 2
     have d0 := B2.cell 0
     have d1 := B2.cell 1
     have d2 := B2.cell 2
     have f0 := B1.frozen 0
     have f2 := B1.frozen 2
     have g0 := B2.frozen 0
     have g1 := B2.frozen 1
     have g2 := B2.frozen 2
     simp only [tC, La, Lb, Lc] at c0 c1 c2 d0 d1 d2
     have R := TX.copy (v := .slice A6 ([] : List Gl).length c6) (st' := st) (j' := J) B2 ox hs6 tx hb
     go_wp2
     exact bodyPost_ret (qp rfl _ _ (w.heap.size + 1) 98 _ (0, 0) _ rfl R.1 underlying98 rfl zD) rfl ⟨A6, c6, rfl, R.2.1, R.2.2, hs6⟩
    | cons x O' =>
     have hk : ∃ k, k + 1 = O.length := ⟨O'.length, by rw [hO]; simp⟩
     rw [<- hO]
     clear hO
     obtain ⟨k, hk⟩ := hk
     rw [qc1 hw1 hmany k hk]
     have htx := hot (O[k]'(by omega)) (List.getElem_mem _)
     have hkl : k < O.length := by omega
     have qio : Hid (∀ (w' : World) (A : Option Addr) (c : Nat), w'.ownsRow base 31 3 (.slice A O.length c) O.length (qn O) -> ∃ G, A = some ⟨G, 0, none⟩ /\ w'.cell? ⟨G, k * 3, none⟩ = some (.string (O[k]'hkl).text)) := Lh fun w' A c ho => by
      obtain ⟨b, o, rfl, _, a0, _⟩ := jJ (Rd.of_own ho) hkl rfl
      have hz : o = 0 := by
       rcases ho.2 with ⟨h0, _⟩ | ⟨g', cap, cur, hv, _⟩
       ·cases h0
       ·simp only [Value.slice.injEq, Option.some.injEq, Addr.mk.injEq, and_true] at hv
        exact hv.1.2
      subst hz
      rw [Nat.zero_add] at a0
      exact ⟨b, rfl, a0⟩
     have HAt := Lh (fun w' => rattach (O[k]'hkl).text (Nat.le_trans htx (by decide)) r hr w')
     have HMk : Hid (∀ (X : World) (c Gr : Nat) (s : ByteArray), Blk X w.heap.size 98 (tC (.slice (some ⟨Gr, 0, none⟩) O.length c) st J) -> Blk X (w.heap.size + 1) 98 (tC (.slice none 0 0) 0 false) -> Sep w.heap.size v0 (.slice (some ⟨Gr, 0, none⟩) O.length c) ->
       X.ownsRow base 31 3 (.slice (some ⟨Gr, 0, none⟩) O.length c) O.length (qn O) -> BG base v0 w X -> TX w base v0 st J (O.set k ⟨s, (O[k]'hkl).wide, (O[k]'hkl).style⟩) (X.setCell ⟨Gr, k * 3, none⟩ (.string s))) := Lh fun X c Gr s b1 b2 hs o tX => TX.mark hkl b1 b2 hs o tX
     have hk9 : k <= 1000000000 := by omega
     have hk3 : k * 3 < O.length * 3 := by omega
     generalize (O[k]'hkl) = x at *
     obtain ⟨tx, wd, sx⟩ := x
     dsimp only at *
     generalize vY tx (r : Int) = AT at *
     obtain ⟨S, E⟩ := AT
     simp only [attV] at HAt
     dsimp only
     have HNL : Hid (O.length = k + 1) := Lh hk.symm
     generalize hOS : O.set k ⟨S, wd, sx⟩ = OS at *
     have HOS := Lh hOS
     clear hot hkl htx ho hr hk hOS
     generalize zC (r : Int) = WL at *
     generalize (r : Int) = R at *
     have i1 : ¬ (1 : Int) < times := by omega
     subst hw1
     have hk0 : (0 : Int) <= k := by omega
     have hkn : (k : Int) < (k : Int) + 1 := by omega
     have hkw : IntKind.i64.wrap ((k : Int) + 1 - 1) = (k : Int) := by rw [IntKind.wrap_i64]; omega
     have hkz : ((k : Int) + 1 == 0) = false := beq_eq_false_iff_ne.2 (by omega)
     go_enter func86, ntmps86
     go_upto_region 1 with fail
     refine qc (TX w base v0 st J O) hpn ?_
     clear hpn
     intro X hX
     go_upto_region 2 with (go_at_call 65; refine (HW.out X).mono ?_; rintro e w1 ⟨rfl, hb1⟩; have hT := hX.below hb1 hb)
     have hnl := HNL.out
     obtain ⟨A3, c3, B1, B2, o3, hs3, t3⟩ := hT
     obtain ⟨G, rfl, hcG⟩ := qio.out _ _ _ o3
     have hG := hs3.ne G rfl
     have zz := B2.lt
     have c0 := B1.cell 0
     have c1 := B1.cell 1
     have c2 := B1.cell 2
     have d0 := B2.cell 0
     have d1 := B2.cell 1
     have d2 := B2.cell 2
     have f0 := B1.frozen 0
     have f2 := B1.frozen 2
     have g0 := B2.frozen 0
     have g1 := B2.frozen 1
     have g2 := B2.frozen 2
     simp only [tC, La, Lb, Lc] at c0 c1 c2 d0 d1 d2
     rw [hnl] at c0
     go_upto_region 7 with (go_at_call 114; refine (HAt.out w1).mono ?_; rintro e w2 ⟨rfl, hb2⟩)
     clear c0 c1 c2 d0 d1 d2 f0 f2 g0 g1 g2
     replace B1 := B1.below hb2 B1.lt
     replace B2 := B2.below hb2 B2.lt
     have o4 := qa o3 hb2
     have t4 := t3.below hb2 hb
     obtain ⟨hgG, _, _, cur, BG⟩ := qdF o4
     have FG := BG.frozen (k * 3)
     obtain ⟨G', eG, hcG'⟩ := qio.out _ _ _ o4
     obtain rfl : G = G' := (by simpa using eG)
     have c0 := B1.cell 0
     have c1 := B1.cell 1
     have c2 := B1.cell 2
     have d0 := B2.cell 0
     have d1 := B2.cell 1
     have d2 := B2.cell 2
     have f0 := B1.frozen 0
     have f2 := B1.frozen 2
     have g0 := B2.frozen 0
     have g1 := B2.frozen 1
     have g2 := B2.frozen 2
     simp only [tC, La, Lb, Lc] at c0 c1 c2 d0 d1 d2
     rw [hnl] at c0
     have hT := HMk.out _ _ _ S B1 B2 hs3 o4 t4
     rw [HOS.out] at hT
     go_upto_region 8 with fail
     clear c0 c1 c2 d0 d1 d2 f0 f2 g0 g1 g2 B1 B2
     obtain ⟨A6, c6, B1, B2, ox, hs6, tx⟩ := hT
     have c0 := B1.cell 0
     have c1 := B1.cell 1
     have c2 := B1.cell 2
     have d0 := B2.cell 0
     have d1 := B2.cell 1
     have d2 := B2.cell 2
     have f0 := B1.frozen 0
     have f2 := B1.frozen 2
     have g0 := B2.frozen 0
     have g1 := B2.frozen 1
     have g2 := B2.frozen 2
     simp only [tC, La, Lb, Lc] at c0 c1 c2 d0 d1 d2
     have R := TX.copy (v := .slice A6 OS.length c6) (st' := st) (j' := J) B2 ox hs6 tx hb
     go_wp2
     exact bodyPost_ret (qp rfl _ _ (w.heap.size + 1) 98 _ (0, 0) _ rfl R.1 underlying98 rfl zD) rfl ⟨A6, c6, rfl, R.2.1, R.2.2, hs6⟩
  ·have hw2 : 1 <= zC (r : Int) := by omega
   have HSp : Hid (∀ wr : World, Calls prog 115 #[.slice (some ⟨wr.heap.size, 0, none⟩) 1 1] (wr.alloc (.cells #[.int .i32 (r : Int)] 21)).drew (ql 9 1 id (wr.alloc (.cells #[.int .i32 (r : Int)] 21)).drew 1 (sv [jf r]))) := Lh fun wr =>
    rsplit1 r hr hw2 _ 1 (wr.heap.size + 1) _ (qbi wr r 21) (by show wr.heap.size + 1 <= (wr.alloc _).heap.size; simp)
   rw [qcQ hw2]
   have HGl : Hid ((⟨jf r, decide (zC (r : Int) = 2), st⟩ : Gl) = ⟨jf r, zC (r : Int) == 2, st⟩) := Lh rfl
   rw [HGl.out]
   have HRn : Hid (∀ j, O ++ List.replicate (j + 1) (⟨jf r, zC (r : Int) == 2, st⟩ : Gl) = (O ++ List.replicate j ⟨jf r, zC (r : Int) == 2, st⟩) ++ [⟨jf r, zC (r : Int) == 2, st⟩]) := Lh fun j => by rw [List.replicate_succ', List.append_assoc]
   have HLn : Hid (∀ j, j <= times -> (O ++ List.replicate j (⟨jf r, zC (r : Int) == 2, st⟩ : Gl)).length <= 1000000132) := Lh fun j hj => by rw [List.length_append, List.length_replicate]; omega
   have hz0 : (zC (r : Int) == 0) = false := beq_eq_false_iff_ne.2 hw1
   have hn0 : decide (zC (r : Int) < 0) = false := decide_eq_false hw0
   clear hr hot hw2 HGl hw0 hw1
   generalize hWL : zC (r : Int) = WL at *
   generalize jf r = EB at *
   generalize hGL : (⟨EB, WL == 2, st⟩ : Gl) = GL at *
   replace hGL := Lh hGL
   generalize (r : Int) = R at *
   clear hWL
   go_enter func86, ntmps86
   go_upto_region 1 with fail
   refine qc (TX w base v0 st J O) hpn ?_
   clear hpn
   intro X hX
   go_upto_region 2 with (go_at_call 65; refine (HW.out X).mono ?_; rintro e w1 ⟨rfl, hb1⟩; have hT := hX.below hb1 hb)
   go_upto_region 9 with fail
   clear hX hb1
   go_wp2
   go_loopw [12] (fun x wr => ∃ j : Nat, j <= times /\ x = .int .i64 j /\ TX w base v0 st J (O ++ List.replicate j GL) wr) (fun x _ => times - (intOf x).toNat)
   case atStart => exact ⟨0, Nat.zero_le _, rfl, by rw [List.replicate_zero, List.append_nil]; exact hT⟩
   case round =>
    clear hT
    obtain ⟨j, hj, rfl, hT⟩ := hrel
    by_cases hlt : j < times
    ·have hlen := HLn.out j hj
     have HQl : Hid ((O ++ List.replicate (j + 1) GL).length = (O ++ List.replicate j GL).length + 1) := Lh (by rw [HRn.out j, List.length_append]; rfl)
     have HQs : Hid (qn (O ++ List.replicate (j + 1) GL) = qn (O ++ List.replicate j GL) ++ vp GL) := Lh (by rw [HRn.out j, jE, jF])
     clear HRn HLn HW
     generalize O ++ List.replicate j GL = OJ at *
     obtain ⟨A6, c6, B1, B2, ox, hs6, tx⟩ := hT
     have HS6 := Lh hs6
     have zz := B2.lt
     have zg := B1.lt
     have c0 := B1.cell 0
     have c1 := B1.cell 1
     have c2 := B1.cell 2
     have d0 := B2.cell 0
     have d1 := B2.cell 1
     have d2 := B2.cell 2
     have f0 := B1.frozen 0
     have f2 := B1.frozen 2
     have g0 := B2.frozen 0
     have g1 := B2.frozen 1
     have g2 := B2.frozen 2
     simp only [tC, La, Lb, Lc] at c0 c1 c2 d0 d1 d2
     have HE := Lh (HSp.out wr)
     have o0 := qa (World.ownsRow.alloc ox (.cells #[.int .i32 R] 21)) (Below.refl _ _).drew
     have B10 := (Blk.alloc B1 (.cells #[.int .i32 R] 21)).drew
     have B20 := (Blk.alloc B2 (.cells #[.int .i32 R] 21)).drew
     have t0 : BG base v0 w (wr.alloc (.cells #[.int .i32 R] 21)).drew := (tx.alloc hb _).drew hb
     have hG := hGL.out
     subst hG
     clear hGL hs6
     go_upto_region 12 with fail
     go_region_law (first
      | (go_simp; go_at_call 115; refine HE.out.mono ?_; rintro e w5 ⟨A5, c5, rfl, o5s, hb5⟩; obtain ⟨Bs, Os, rfl, _, hcs⟩ := (Rd.of_own o5s).at_ (Nat.succ_pos _); rw [vM _ _ (Nat.succ_pos _), Nat.add_zero] at hcs; have B15 := B10.below hb5 B10.lt; have B25 := B20.below hb5 B20.lt; have z5 : w.heap.size + 1 < w5.heap.size := B25.lt; have z6 : w.heap.size < w5.heap.size := B15.lt; have o5 := qa o0 hb5; have t5 := t0.below hb5 hb; have c50 := B15.cell 0; have c51 := B15.cell 1; simp only [tC, La, Lb, Lc] at c50 c51)
      | (refine vS rfl _ _ _ rfl kQ (base) _ rfl ((o5.alloc _)) _ _ rfl ((qe (xs := vp ⟨EB, WL == 2, st⟩) rfl rfl)) (rfl) (by omega) (by omega) (by first | (simp; done) | (simp; omega) | omega) ?_; intro A4 c4 w4 qie qia qii qik; have z4 := qia.size; (try simp only [Nat.zero_add, List.nil_append] at qie); have B4 := (Blk.alloc B15 (.cells (vp ⟨EB, WL == 2, st⟩).toArray 31)).grown qii (jL fun k hk => (HS6.out.ne k hk).1); have c42 := B4.cell 0; have f42 := B4.frozen 0; simp only [tC, La, Lb, Lc] at c42))
     all_goals go_wp2
     all_goals exact ⟨⟨j + 1, by omega, by go_num, TX.put (Blk.alloc B15 _) (Blk.alloc B25 _) HS6.out (t5.alloc hb _) hb qie qia qii qik HQl.out HQs.out⟩, by simp [intOf]; omega⟩
    ·obtain rfl : j = times := by omega
     clear HRn HLn HW HSp
     obtain ⟨OJ, hOJ⟩ : ∃ x, x = O ++ List.replicate j GL := ⟨_, rfl⟩
     rw [<- hOJ] at hT
     have HOJ := Lh hOJ
     clear hOJ
     obtain ⟨A6, c6, B1, B2, ox, hs6, tx⟩ := hT
     have c0 := B1.cell 0
     have c1 := B1.cell 1
     have c2 := B1.cell 2
     have d0 := B2.cell 0
     have d1 := B2.cell 1
     have d2 := B2.cell 2
     have f0 := B1.frozen 0
     have f2 := B1.frozen 2
     have g0 := B2.frozen 0
     have g1 := B2.frozen 1
     have g2 := B2.frozen 2
     simp only [tC, La, Lb, Lc] at c0 c1 c2 d0 d1 d2
     have R := TX.copy (v := .slice A6 OJ.length c6) (st' := st) (j' := J) B2 ox hs6 tx hb
     go_wp2
     rw [<- HOJ.out]
     exact bodyPost_ret (qp rfl _ _ (w.heap.size + 1) 98 _ (0, 0) _ rfl R.1 underlying98 rfl zD) rfl ⟨A6, c6, rfl, R.2.1, R.2.2, hs6⟩
def HeadNo (a : ByteArray) : Prop := qbh a = none /\ a ≠ cB /\ a ≠ jS /\ ∀ j, j < 32 -> wb j ≠ a
theorem HeadNo.charW {a : ByteArray} (h : HeadNo a) (t : List ByteArray) : charW (a :: t) = none := by
 obtain ⟨h1, h2, h3, _⟩ := h
 simp only [Proofs.YtlndbiamiioakaaGreatDoor.charW, if_neg h3, qL, h1, if_neg h2]
theorem HeadNo.prefixL {a : ByteArray} (h : HeadNo a) (t : List ByteArray) : prefixL (a :: t) = none := by
 cases hp : Proofs.YtlndbiamiioakaaGreatDoor.prefixL (a :: t) with
 | none => rfl
 | some y =>
  obtain ⟨n, k⟩ := y
  obtain ⟨hk0, hkl, _, qil, _⟩ := qT hp
  obtain ⟨h1, h2, hw, _⟩ := zu qil
  obtain ⟨m, rfl⟩ : ∃ m, k = m + 1 := ⟨k - 1, by omega⟩
  rw [List.take_succ_cons] at hw
  cases hws : qG n with
  | nil => rw [hws] at hw; cases hw
  | cons j u =>
   rw [hws, List.map_cons] at hw
   injection hw with hw _
   exact absurd hw (h.2.2.2 j (qby n h1 h2 j (by rw [hws]; simp)))
theorem qfn : HeadNo bCap := ⟨by decide +kernel, by decide +kernel, by decide +kernel, by decide +kernel⟩
theorem qem : HeadNo vL := ⟨by decide +kernel, by decide +kernel, by decide +kernel, by decide +kernel⟩
theorem qcK : HeadNo qI := ⟨by decide +kernel, by decide +kernel, by decide +kernel, by decide +kernel⟩
theorem HeadNo.sign {p : Prs} {a : ByteArray} {t : List ByteArray} (h : HeadNo a) (hw : p.words = a :: t) : jC p = none := by
 unfold jC
 rw [hw, h.charW t]
theorem HeadNo.amt {p : Prs} {a : ByteArray} {t : List ByteArray} (h : HeadNo a) (hw : p.words = a :: t) : vA p = none := by
 unfold vA
 rw [hw, h.prefixL t]
section
variable {p : Prs} {a : ByteArray} {t : List ByteArray}
theorem rp_sty {i : Nat} (hw : p.words = a :: t) (h : zS a = some i) : zR p = some ⟨t, p.out, (i : Nat), false⟩ := by
 have e : va p = some ⟨t, p.out, (i : Nat), false⟩ := by unfold va; rw [hw]; simp only [h]
 unfold zR
 rw [e]
 rfl
theorem rp_join (hw : p.words = a :: t) (h : zS a = none) (ha : a = qY) : zR p = some ⟨t, p.out, p.style, false⟩ := by
 have e : va p = some ⟨t, p.out, p.style, false⟩ := by unfold va; rw [hw]; simp only [h, if_pos ha]
 unfold zR
 rw [e]
 rfl
theorem qbd (hw : p.words = a :: t) (h : zS a = none) (ha : a ≠ qY) : va p = none := by
 unfold va
 rw [hw]
 simp only [h, if_neg ha]
theorem qdQ (hw : p.words = a :: t) (ha : a ≠ qI) : kD p = none := by
 unfold kD
 rw [hw]
 simp only
 rw [if_neg (fun h => ha h.1)]
theorem qa0 (hw : p.words = a :: t) (h1 : a ≠ bCap) (h2 : a ≠ vL) : ji p = (zV (a :: t)).map fun (s, n) => v8 p s n := by
 unfold ji
 rw [hw]
 simp only
 rw [if_neg h1, if_neg h2]
theorem rp_cap (hw : p.words = a :: t) (h : zS a = none) (hj : a ≠ qY) (ha : a = bCap) : zR p = (zV t).map fun (s, n) => v8 p (qZ s 1) (1 + n) := by
 have e : ji p = (zV t).map fun (s, n) => v8 p (qZ s 1) (1 + n) := by
  unfold ji
  rw [hw]
  simp only
  rw [if_pos ha]
 unfold zR
 rw [qbd hw h hj, e]
 cases zV t with
 | some x => rfl
 | none =>
  have hd : a ≠ qI := by rw [ha]; decide +kernel
  have hn : HeadNo a := ha ▸ qfn
  show ((kD p).orElse fun _ => (jC p).orElse fun _ => vA p) = none
  rw [qdQ hw hd, hn.sign hw, hn.amt hw]
  rfl
theorem rp_caps (hw : p.words = a :: t) (h : zS a = none) (hj : a ≠ qY) (ha : a = vL) : zR p = (zV t).map fun (s, n) => v8 p (qZ s s.size) (1 + n) := by
 have hc : a ≠ bCap := by rw [ha]; decide +kernel
 have e : ji p = (zV t).map fun (s, n) => v8 p (qZ s s.size) (1 + n) := by
  unfold ji
  rw [hw]
  simp only
  rw [if_neg hc, if_pos ha]
 unfold zR
 rw [qbd hw h hj, e]
 cases zV t with
 | some x => rfl
 | none =>
  have hd : a ≠ qI := by rw [ha]; decide +kernel
  have hn : HeadNo a := ha ▸ qem
  show ((kD p).orElse fun _ => (jC p).orElse fun _ => vA p) = none
  rw [qdQ hw hd, hn.sign hw, hn.amt hw]
  rfl
theorem rp_lit {s : ByteArray} {n : Nat} (hw : p.words = a :: t) (h : zS a = none) (hj : a ≠ qY) (h1 : a ≠ bCap) (h2 : a ≠ vL) (hl : zV (a :: t) = some (s, n)) : zR p = some (v8 p s n) := by
 unfold zR
 rw [qbd hw h hj, qa0 hw h1 h2, hl]
 rfl
theorem rp_fig (hw : p.words = a :: t) (h : zS a = none) (hj : a ≠ qY) (h1 : a ≠ bCap) (h2 : a ≠ vL) (hl : zV (a :: t) = none) (ha : a = qI) : zR p = if qaK t ≠ [] then some (v8 p (qQ (qaK t)) (1 + (qaK t).length)) else none := by
 have hn : HeadNo a := ha ▸ qcK
 have e : kD p = if qaK t ≠ [] then some (v8 p (qQ (qaK t)) (1 + (qaK t).length)) else none := by
  unfold kD
  rw [hw]
  simp only [ha, true_and]
 unfold zR
 rw [qbd hw h hj, qa0 hw h1 h2, hl, e, hn.sign hw, hn.amt hw]
 by_cases hd : qaK t ≠ []
 ·rw [if_pos hd]; rfl
 ·rw [if_neg hd]; rfl
theorem rp_sign {r : Int} {n : Nat} (hw : p.words = a :: t) (h : zS a = none) (hj : a ≠ qY) (h1 : a ≠ bCap) (h2 : a ≠ vL) (hl : zV (a :: t) = none) (ha : a ≠ qI) (hc : charW (a :: t) = some (r, n)) :
  zR p = if (zW p.out p.style r 1).1 = true then some ⟨p.words.drop n, (zW p.out p.style r 1).2, p.style, false⟩ else none := by
 have e : jC p = if (zW p.out p.style r 1).1 = true then some ⟨p.words.drop n, (zW p.out p.style r 1).2, p.style, false⟩ else none := by
  unfold jC
  rw [show charW p.words = some (r, n) by rw [hw]; exact hc]
 have ea : vA p = none := by
  unfold vA
  rw [show prefixL p.words = none by rw [hw]; exact qaX hc]
 unfold zR
 rw [qbd hw h hj, qa0 hw h1 h2, hl, qdQ hw ha, e, ea]
 by_cases hd : (zW p.out p.style r 1).1 = true
 ·rw [if_pos hd]; rfl
 ·rw [if_neg hd]; rfl
theorem rp_amt (hw : p.words = a :: t) (h : zS a = none) (hj : a ≠ qY) (h1 : a ≠ bCap) (h2 : a ≠ vL) (hl : zV (a :: t) = none) (ha : a ≠ qI) (hc : charW (a :: t) = none) : zR p = vA p := by
 have e : jC p = none := by
  unfold jC
  rw [show charW p.words = none by rw [hw]; exact hc]
 unfold zR
 rw [qbd hw h hj, qa0 hw h1 h2, hl, qdQ hw ha, e]
 rfl
end
end Go.Proofs.YtlndbiamiioakaaGreatDoor
