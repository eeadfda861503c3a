/- The statement ListenerComposes (a tied card) holds: for every input the law returns true, and nothing that was there has turned. The listed package-level variables start as the program's text lays them. -/
import Derived.Test.YtbogmeeijdaijaaGreatDoorZAA
import Derived.Test.YtbogmeeijdaijaaGreatDoorZAB
import Derived.Test.YtbogmeeijdaijaaGreatDoorZAC
import Derived.Test.YtbogmeeijdaijaaGreatDoorZAD
import Derived.Test.YtbogmeeijdaijaaGreatDoorZAE
import Derived.Test.YtbogmeeijdaijaaGreatDoorZAH
import Derived.Test.YtbogmeeijdaijaaGreatDoorZAI
import Derived.Test.YtbogmeeijdaijaaGreatDoorZAJ
import Derived.Test.YtbogmeeijdaijaaGreatDoorZAK
import Derived.Test.YtbogmeeijdaijaaGreatDoorZAL
import Derived.Test.YtbogmeeijdaijaaGreatDoorZAN
import Derived.Test.YtbogmeeijdaijaaGreatDoorZAO
import Derived.Test.YtbogmeeijdaijaaGreatDoorZAP
import Derived.Test.YtbogmeeijdaijaaGreatDoorZAQ
import Derived.Test.YtbogmeeijdaijaaGreatDoorZAR
import Derived.Test.YtbogmeeijdaijaaGreatDoorZAT
import Derived.Test.YtbogmeeijdaijaaGreatDoorZBA
import Derived.Test.YtbogmeeijdaijaaGreatDoorZBB
import Derived.Test.YtbogmeeijdaijaaGreatDoorZBC
import Derived.Test.YtbogmeeijdaijaaGreatDoorYHT
namespace Go.Proofs.YtbogmeeijdaijaaGreatDoor.listenerComposesDone
open Go.ChangeShapes Go.WideShapes Go.ChangeAt Go.RowKit Go.Proofs.YtbogmeeijdaijaaGreatDoor
open Go.ChangeMaps (open_string shut_string)
set_option linter.unusedVariables false
set_option maxRecDepth 100000 in
theorem contract (H : Type) (enc : TypeId × Value → H) (W : World) (base : Nat) (args : Array Value) (ds gs : List (DataW H)) (before : List MemPlace)
    (hval : ∀ (j : Nat) t v, Tryz.f4.params[j]? = some t → args[j]? = some v → Value.okWide Tryz.prog W .any base t v)
    (hW : DataW.Whole enc Tryz.prog Tryz.f4.params.toList Rows.listenerComposesSpec.vars false W args.toList ds gs before) (hL : laidMetH Tryz.prog Rows.listenerComposesRow.laid W) :
    Calls Tryz.prog 4 args W fun e W' => ∃ v, e = .returned v ∧ Rows.listenerComposesSpec.post enc Tryz.prog Tryz.f4 false true false false W args v W' := by
  have hW' := hW
  obtain ⟨p, q, hA0, hV, rfl, hfz, hnd⟩ := hW
  have hA : DataW.TrodAll enc Tryz.prog W 0 (fun _ => true) true Tryz.f4.params.toList args.toList ds p := hA0
  rw [Tryz.params4] at hA hval
  obtain ⟨v0, vs0, d0, ds0, p0, q0, hargs, rfl, rfl, h0, r0⟩ := trodAll_cons hA
  obtain ⟨v1, vs1, d1, ds1, p1, q1, rfl, rfl, rfl, h1, r1⟩ := trodAll_cons r0
  obtain ⟨v2, vs2, d2, ds2, p2, q2, rfl, rfl, rfl, h2, r2⟩ := trodAll_cons r1
  obtain ⟨v3, vs3, d3, ds3, p3, q3, rfl, rfl, rfl, h3, r3⟩ := trodAll_cons r2
  obtain ⟨v4, vs4, d4, ds4, p4, q4, rfl, rfl, rfl, h4, r4⟩ := trodAll_cons r3
  obtain ⟨v5, vs5, d5, ds5, p5, q5, rfl, rfl, rfl, h5, r5⟩ := trodAll_cons r4
  obtain ⟨rfl, rfl, rfl⟩ := trodAll_nil r5
  obtain rfl : args = #[v0, v1, v2, v3, v4, v5] := by cases args; simp_all
  obtain ⟨rfl, rfl⟩ := trodVars_none hV
  have lt0 : ∀ x ∈ p0, x.block < W.heap.size := by obtain ⟨m, hm⟩ := h0; exact DataW.trod_lt m _ _ _ hm
  obtain ⟨mw0, mh0, A0, n0, c0, mr0, mc0, mv0, mu0, rfl, ⟨_, _, hv0⟩, mz0⟩ := open_model Tryz.underlying26 (by kernel_rfl) rfl ⟨rfl, rfl⟩ (by kernel_rfl) Tryz.underlying24 rfl Tryz.underlying3 (by kernel_rfl) Tryz.underlying4 (by kernel_rfl) Tryz.underlying22 (by kernel_rfl) ⟨rfl, rfl, rfl, rfl, rfl, rfl⟩ (hval 0 26 v0 rfl rfl) h0
  obtain ⟨l0, hn0, hc0, hm0, rd0, hs0⟩ := open_rows Tryz.underlying22 Tryz.underlying45 (by kernel_rfl) Tryz.underlying64 (by kernel_rfl) rfl ⟨Tryz.underlying9, by kernel_rfl⟩ ⟨Tryz.underlying4, by kernel_rfl⟩ ⟨Tryz.underlying3, by kernel_rfl⟩ hv0
  obtain ⟨A1, n1, c1, rfl⟩ := okWide_slice Tryz.underlying36 (hval 1 36 v1 rfl rfl)
  have lt1 : ∀ x ∈ p1, x.block < W.heap.size := by obtain ⟨m, hm⟩ := h1; exact DataW.trod_lt m _ _ _ hm
  obtain ⟨l1, hn1, hc1, hm1, rd1, hs1⟩ := open_chgs Tryz.underlying36 Tryz.underlying57 (by kernel_rfl) rfl Tryz.underlying3 (by kernel_rfl) Tryz.underlying45 (by kernel_rfl) ⟨rfl, rfl, rfl, rfl, rfl, rfl⟩ Tryz.underlying64 (by kernel_rfl) rfl ⟨Tryz.underlying9, by kernel_rfl⟩ ⟨Tryz.underlying4, by kernel_rfl⟩ ⟨Tryz.underlying3, by kernel_rfl⟩ h1
  obtain ⟨A2, n2, c2, rfl⟩ := okWide_slice Tryz.underlying36 (hval 2 36 v2 rfl rfl)
  have lt2 : ∀ x ∈ p2, x.block < W.heap.size := by obtain ⟨m, hm⟩ := h2; exact DataW.trod_lt m _ _ _ hm
  obtain ⟨l2, hn2, hc2, hm2, rd2, hs2⟩ := open_chgs Tryz.underlying36 Tryz.underlying57 (by kernel_rfl) rfl Tryz.underlying3 (by kernel_rfl) Tryz.underlying45 (by kernel_rfl) ⟨rfl, rfl, rfl, rfl, rfl, rfl⟩ Tryz.underlying64 (by kernel_rfl) rfl ⟨Tryz.underlying9, by kernel_rfl⟩ ⟨Tryz.underlying4, by kernel_rfl⟩ ⟨Tryz.underlying3, by kernel_rfl⟩ h2
  obtain ⟨a3, rfl, rfl, rfl, w3⟩ := open_int Tryz.underlying5 (hval 3 5 v3 rfl rfl) h3
  obtain ⟨a4, rfl, rfl, rfl, w4⟩ := open_int Tryz.underlying5 (hval 4 5 v4 rfl rfl) h4
  have lt5 : ∀ x ∈ p5, x.block < W.heap.size := by obtain ⟨m, hm⟩ := h5; exact DataW.trod_lt m _ _ _ hm
  obtain ⟨r5_, dg5, sp5, q5_, co5, k5, rfl, wr5, wq5, wk5⟩ := open_setts Tryz.underlying38 (by kernel_rfl) rfl Tryz.underlying3 (by kernel_rfl) Tryz.underlying4 (by kernel_rfl) ⟨rfl, rfl, rfl, rfl, rfl, rfl⟩ (hval 5 38 v5 rfl rfl) h5
  clear hA0
  refine (law_ListenerComposes W (⟨gd_of hL rfl (List.Mem.tail _ (List.Mem.tail _ (List.Mem.tail _ (List.Mem.tail _ (List.Mem.head _))))) (List.Mem.tail _ (List.Mem.tail _ (List.Mem.tail _ (List.Mem.tail _ (List.Mem.tail _ (List.Mem.head _)))))) (List.Mem.tail _ (List.Mem.tail _ (List.Mem.tail _ (List.Mem.tail _ (List.Mem.tail _ (List.Mem.tail _ (List.Mem.tail _ (List.Mem.head _)))))))) (List.Mem.tail _ (List.Mem.tail _ (List.Mem.head _))), tb_of hL rfl (List.Mem.head _) (List.Mem.tail _ (List.Mem.head _))⟩) ⟨⟨mw0, mh0, rls l0, mr0, mc0, mv0⟩, mu0⟩ A0 n0 c0 l0 ⟨rd0, rfl, hc0, hm0⟩ A1 n1 c1 l1 hn1 hc1 hm1 rd1 A2 n2 c2 l2 hn2 hc2 hm2 rd2 a3 w3 a4 w4 r5_ dg5 sp5 q5_ co5 k5 wr5 wq5 wk5).mono fun e W' ⟨he, bel⟩ => ?_
  subst he
  exact ⟨_, rfl, _, _, _, [], _, [], hW', trodAll_mk1 (shut_bool Tryz.underlying4 _), (trodAll_cons_mk (Below.trod laidOut (by kernel_rfl) (of_decide_eq_true (by kernel_rfl)) h0 bel lt0) (trodAll_cons_mk (Below.trod laidOut (by kernel_rfl) (of_decide_eq_true (by kernel_rfl)) h1 bel lt1) (trodAll_cons_mk (Below.trod laidOut (by kernel_rfl) (of_decide_eq_true (by kernel_rfl)) h2 bel lt2) (trodAll_cons_mk (shut_int Tryz.underlying5 w3) (trodAll_cons_mk (shut_int Tryz.underlying5 w4) (trodAll_cons_mk (Below.trod laidOut (by kernel_rfl) (of_decide_eq_true (by kernel_rfl)) h5 bel lt5) trodAll_mk0)))))), rfl, bel.frame _, fun h => by cases h⟩
noncomputable def laidWorld (os : Os) : World :=
  World.laidAll Tryz.prog os Rows.listenerComposesRow.laid
theorem laid_met (os : Os) : laidMet Tryz.prog Rows.listenerComposesRow.laid ((laidWorld os).forCall (fun _ _ => 0) ⟨#[], #[.agg #[.int .i64 0, .int .i64 0, .slice none 0 0, .int .i64 0, .int .i64 0, .bool false, .int .i64 0], .slice none 0 0, .slice none 0 0, .int .u8 0, .int .u8 0, .agg #[.int .i64 0, .bool false, .bool false, .int .i64 0, .bool false, .int .i64 0]], []⟩).memory :=
  laidMet_laidAll _ (by kernel_rfl) (by kernel_rfl)
theorem reads (os : Os) {H : Type} (enc : TypeId × Value → H) : ∃ places, DataW.whole enc Tryz.prog ((laidWorld os).forCall (fun _ _ => 0) ⟨#[], #[.agg #[.int .i64 0, .int .i64 0, .slice none 0 0, .int .i64 0, .int .i64 0, .bool false, .int .i64 0], .slice none 0 0, .slice none 0 0, .int .u8 0, .int .u8 0, .agg #[.int .i64 0, .bool false, .bool false, .int .i64 0, .bool false, .int .i64 0]], []⟩).memory Tryz.f4.params.toList Rows.listenerComposesSpec.vars false #[(Value.agg #[.int .i64 0, .int .i64 0, .slice none 0 0, .int .i64 0, .int .i64 0, .bool false, .int .i64 0]), (Value.slice none 0 0), (Value.slice none 0 0), (Value.int .u8 0), (Value.int .u8 0), (Value.agg #[.int .i64 0, .bool false, .bool false, .int .i64 0, .bool false, .int .i64 0])].toList 8 = some ([.agg [.agg [.lit (.int .i64 0), .lit (.int .i64 0), .nil, .lit (.int .i64 0), .lit (.int .i64 0), .lit (.bool false)], .lit (.int .i64 0)], .nil, .nil, .lit (.int .u8 0), .lit (.int .u8 0), .agg [.lit (.int .i64 0), .lit (.bool false), .lit (.bool false), .lit (.int .i64 0), .lit (.bool false), .lit (.int .i64 0)]], [], places) :=
  ⟨[], by kernel_rfl⟩
set_option maxRecDepth 100000 in
theorem lifted (os : Os) (started : os.Started) (H : Type) (enc : TypeId × Value → H) (F : Stop.Interp) :
    ReturnsInHanded {} Tryz.checked os 4 .any ((OpenSpec.ofChange Rows.listenerComposesSpec).preRow enc Tryz.prog Tryz.f4 Rows.listenerComposesRow.domain false Rows.listenerComposesRow.laid) (((OpenSpec.ofChange Rows.listenerComposesSpec).at F).post enc Tryz.prog Tryz.f4 false true false false) := by
  obtain ⟨places, hx⟩ := reads os enc
  refine returnsInHanded_of_row (C := Tryz.checked) (s := OpenSpec.ofChange Rows.listenerComposesSpec) own started (by kernel_rfl) Tryz.func4
    (witness_row_atRef (enc := enc) (C := Tryz.checked) false (laidWorld os) #[.agg #[.int .i64 0, .int .i64 0, .slice none 0 0, .int .i64 0, .int .i64 0, .bool false, .int .i64 0], .slice none 0 0, .slice none 0 0, .int .u8 0, .int .u8 0, .agg #[.int .i64 0, .bool false, .bool false, .int .i64 0, .bool false, .int .i64 0]] (World.laidAll_os _ _ _) (by kernel_rfl) (by kernel_rfl) (by kernel_rfl)
      (OpenSpec.preRow_of_cond 8 hx (by kernel_rfl) (fun k hk => by cases hk) (by kernel_rfl) (laid_met os))) ?_
  intro W base args ds gs before hval hW _ _ _ hL _ _
  exact contract H enc W base args ds gs before hval hW hL
theorem said : Rows.ListenerComposesSaid :=
  OpenClaim.holds_of_cond 4 Tryz.f4 rfl rfl rfl rfl rfl rfl rfl ⟨rfl, rfl, rfl, rfl, rfl⟩ rfl rfl rfl rfl rfl (by kernel_rfl) Tryz.func4 (by kernel_rfl)
    (of_decide_eq_true (by kernel_rfl)) (by unfold Func.isWrapper; first | (rw [if_pos (by decide +kernel)]; kernel_rfl) | (rw [if_neg (by decide +kernel)]; exact ⟨rfl, rfl⟩))
    (fun os started H enc _ F => by rw [OpenClaim.pre_eq_preRow]; exact lifted os started H enc F)
theorem plain (f : FuncId) (fn : Func) (hf : Tryz.pinned.checked.prog.funcNamed "narrator/narratorlaw42.ListenerComposes" = some f) (hfn : Tryz.pinned.checked.prog.funcs[f]? = some fn) :
    false = Tryz.pinned.checked.prog.looks [] ∧ ∀ (j : Nat) t, fn.params[j]? = some t → Tryz.pinned.checked.prog.wantsStandIn t = false := by
  obtain rfl : f = 4 := Option.some.inj ((show Tryz.prog.funcNamed "narrator/narratorlaw42.ListenerComposes" = some 4 by kernel_rfl).symm.trans hf) |>.symm
  obtain rfl : fn = Tryz.f4 := (Option.some.inj (Tryz.func4.symm.trans hfn)).symm
  refine ⟨by kernel_rfl, fun j t ht => ?_⟩
  rw [Tryz.params4] at ht
  have hm := Array.mem_of_getElem? ht
  have h : t = 26 ∨ t = 36 ∨ t = 36 ∨ t = 5 ∨ t = 5 ∨ t = 38 := by simpa using hm
  rcases h with rfl | rfl | rfl | rfl | rfl | rfl
  · exact (show Tryz.prog.wantsStandIn 26 = false by kernel_rfl)
  · exact (show Tryz.prog.wantsStandIn 36 = false by kernel_rfl)
  · exact (show Tryz.prog.wantsStandIn 36 = false by kernel_rfl)
  · exact (show Tryz.prog.wantsStandIn 5 = false by kernel_rfl)
  · exact (show Tryz.prog.wantsStandIn 5 = false by kernel_rfl)
  · exact (show Tryz.prog.wantsStandIn 38 = false by kernel_rfl)
theorem card : Rows.ListenerComposesCardSaid :=
  Claim7.holds_tied_plain_at .later [] _ _ _ _ said (fun _ h => by cases h) (by kernel_rfl) (fun _ h => by cases h) listenerComposes_row_tie rfl ⟨rfl, rfl⟩ (by kernel_rfl) rfl plain (by kernel_rfl)
end Go.Proofs.YtbogmeeijdaijaaGreatDoor.listenerComposesDone
