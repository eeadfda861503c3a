/- The statement ListenerAll (a tied card) holds: for every input the law returns true, and nothing that was there has turned. The listed package-level variables start as the program's text lays them. -/
import Derived.Test.YtggegijlfaipfaaGreatDoorZAA
import Derived.Test.YtggegijlfaipfaaGreatDoorZAB
import Derived.Test.YtggegijlfaipfaaGreatDoorZAC
import Derived.Test.YtggegijlfaipfaaGreatDoorZAD
import Derived.Test.YtggegijlfaipfaaGreatDoorZAF
import Derived.Test.YtggegijlfaipfaaGreatDoorZAG
import Derived.Test.YtggegijlfaipfaaGreatDoorZAH
import Derived.Test.YtggegijlfaipfaaGreatDoorZAI
import Derived.Test.YtggegijlfaipfaaGreatDoorZAK
import Derived.Test.YtggegijlfaipfaaGreatDoorZAL
import Derived.Test.YtggegijlfaipfaaGreatDoorZAM
import Derived.Test.YtggegijlfaipfaaGreatDoorZAN
import Derived.Test.YtggegijlfaipfaaGreatDoorZAP
import Derived.Test.YtggegijlfaipfaaGreatDoorZAQ
import Derived.Test.YtggegijlfaipfaaGreatDoorZAR
import Derived.Test.YtggegijlfaipfaaGreatDoorZAS
import Derived.Test.YtggegijlfaipfaaGreatDoorZAT
import Derived.Test.YtggegijlfaipfaaGreatDoorZAU
import Derived.Test.YtggegijlfaipfaaGreatDoorZAV
namespace Go.Proofs.YtggegijlfaipfaaGreatDoor.listenerAllDone
open Go.ChangeShapes Go.WideShapes Go.ChangeAt Go.RowKit Go.Proofs.YtggegijlfaipfaaGreatDoor
open Go.ChangeMaps (open_string shut_string)
set_option linter.unusedVariables false
set_option maxRecDepth 100000 in
theorem contract (H : Type) (enc : TypeId × Value → H) (W : World) (base : Nat) (args : Array Value) (ds gs : List (DataW H)) (before : List MemPlace)
    (hval : ∀ (j : Nat) t v, Tryz.f3.params[j]? = some t → args[j]? = some v → Value.okWide Tryz.prog W .any base t v)
    (hW : DataW.Whole enc Tryz.prog Tryz.f3.params.toList Rows.listenerAllSpec.vars false W args.toList ds gs before) (hL : laidMetH Tryz.prog Rows.listenerAllRow.laid W) :
    Calls Tryz.prog 3 args W fun e W' => ∃ v, e = .returned v ∧ Rows.listenerAllSpec.post enc Tryz.prog Tryz.f3 false true false false W args v W' := by
  have hW' := hW
  obtain ⟨p, q, hA0, hV, rfl, hfz, hnd⟩ := hW
  have hA : DataW.TrodAll enc Tryz.prog W 0 (fun _ => true) true Tryz.f3.params.toList args.toList ds p := hA0
  rw [Tryz.params3] at hA hval
  obtain ⟨v0, vs0, d0, ds0, p0, q0, hargs, rfl, rfl, h0, r0⟩ := trodAll_cons hA
  obtain ⟨v1, vs1, d1, ds1, p1, q1, rfl, rfl, rfl, h1, r1⟩ := trodAll_cons r0
  obtain ⟨v2, vs2, d2, ds2, p2, q2, rfl, rfl, rfl, h2, r2⟩ := trodAll_cons r1
  obtain ⟨v3, vs3, d3, ds3, p3, q3, rfl, rfl, rfl, h3, r3⟩ := trodAll_cons r2
  obtain ⟨rfl, rfl, rfl⟩ := trodAll_nil r3
  obtain rfl : args = #[v0, v1, v2, v3] := by cases args; simp_all
  obtain ⟨rfl, rfl⟩ := trodVars_none hV
  have lt0 : ∀ x ∈ p0, x.block < W.heap.size := by obtain ⟨m, hm⟩ := h0; exact DataW.trod_lt m _ _ _ hm
  obtain ⟨mw0, mh0, A0, n0, c0, mr0, mc0, mv0, mu0, rfl, ⟨_, _, hv0⟩, mz0⟩ := open_model Tryz.underlying26 (by kernel_rfl) rfl ⟨rfl, rfl⟩ (by kernel_rfl) Tryz.underlying24 rfl Tryz.underlying3 (by kernel_rfl) Tryz.underlying4 (by kernel_rfl) Tryz.underlying22 (by kernel_rfl) ⟨rfl, rfl, rfl, rfl, rfl, rfl⟩ (hval 0 26 v0 rfl rfl) h0
  obtain ⟨l0, hn0, hc0, hm0, rd0, hs0⟩ := open_rows Tryz.underlying22 Tryz.underlying38 (by kernel_rfl) Tryz.underlying61 (by kernel_rfl) rfl ⟨Tryz.underlying9, by kernel_rfl⟩ ⟨Tryz.underlying4, by kernel_rfl⟩ ⟨Tryz.underlying3, by kernel_rfl⟩ hv0
  obtain ⟨A1, n1, c1, rfl⟩ := okWide_slice Tryz.underlying27 (hval 1 27 v1 rfl rfl)
  have lt1 : ∀ x ∈ p1, x.block < W.heap.size := by obtain ⟨m, hm⟩ := h1; exact DataW.trod_lt m _ _ _ hm
  obtain ⟨l1, hn1, hc1, hm1, rd1⟩ := open_spks Tryz.underlying27 Tryz.underlying45 (by kernel_rfl) rfl ⟨rfl, rfl, rfl, rfl⟩ Tryz.underlying43 (by kernel_rfl) rfl ⟨rfl, rfl, rfl, rfl, rfl⟩ Tryz.underlying3 (by kernel_rfl) Tryz.underlying4 (by kernel_rfl) Tryz.underlying40 (by kernel_rfl) Tryz.underlying9 (by kernel_rfl) Tryz.underlying41 (by kernel_rfl) h1
  obtain ⟨a2, rfl, rfl, rfl, w2⟩ := open_int Tryz.underlying3 (hval 2 3 v2 rfl rfl) h2
  obtain ⟨a3, rfl, rfl, rfl, w3⟩ := open_int Tryz.underlying3 (hval 3 3 v3 rfl rfl) h3
  clear hA0
  refine (law_ListenerAll W (⟨gd_of hL rfl (List.Mem.tail _ (List.Mem.tail _ (List.Mem.tail _ (List.Mem.tail _ (List.Mem.head _))))) (List.Mem.tail _ (List.Mem.tail _ (List.Mem.tail _ (List.Mem.tail _ (List.Mem.tail _ (List.Mem.head _)))))) (List.Mem.tail _ (List.Mem.tail _ (List.Mem.tail _ (List.Mem.tail _ (List.Mem.tail _ (List.Mem.tail _ (List.Mem.tail _ (List.Mem.head _)))))))) (List.Mem.tail _ (List.Mem.tail _ (List.Mem.head _))), tb_of hL rfl (List.Mem.head _) (List.Mem.tail _ (List.Mem.head _))⟩) ⟨⟨mw0, mh0, rls l0, mr0, mc0, mv0⟩, mu0⟩ A0 n0 c0 l0 ⟨rd0, rfl, hc0, hm0⟩ A1 n1 c1 l1 hn1 hc1 hm1 rd1 a2 w2 a3 w3).mono fun e W' ⟨he, bel⟩ => ?_
  subst he
  exact ⟨_, rfl, _, _, _, [], _, [], hW', trodAll_mk1 (shut_bool Tryz.underlying4 _), (trodAll_cons_mk (Below.trod laidOut (by kernel_rfl) (of_decide_eq_true (by kernel_rfl)) h0 bel lt0) (trodAll_cons_mk (Below.trod laidOut (by kernel_rfl) (of_decide_eq_true (by kernel_rfl)) h1 bel lt1) (trodAll_cons_mk (shut_int Tryz.underlying3 w2) (trodAll_cons_mk (shut_int Tryz.underlying3 w3) trodAll_mk0)))), rfl, bel.frame _, fun h => by cases h⟩
noncomputable def laidWorld (os : Os) : World :=
  World.laidAll Tryz.prog os Rows.listenerAllRow.laid
theorem laid_met (os : Os) : laidMet Tryz.prog Rows.listenerAllRow.laid ((laidWorld os).forCall (fun _ _ => 0) ⟨#[], #[.agg #[.int .i64 0, .int .i64 0, .slice none 0 0, .int .i64 0, .int .i64 0, .bool false, .int .i64 0], .slice none 0 0, .int .i64 0, .int .i64 0], []⟩).memory :=
  laidMet_laidAll _ (by kernel_rfl) (by kernel_rfl)
theorem reads (os : Os) {H : Type} (enc : TypeId × Value → H) : ∃ places, DataW.whole enc Tryz.prog ((laidWorld os).forCall (fun _ _ => 0) ⟨#[], #[.agg #[.int .i64 0, .int .i64 0, .slice none 0 0, .int .i64 0, .int .i64 0, .bool false, .int .i64 0], .slice none 0 0, .int .i64 0, .int .i64 0], []⟩).memory Tryz.f3.params.toList Rows.listenerAllSpec.vars false #[(Value.agg #[.int .i64 0, .int .i64 0, .slice none 0 0, .int .i64 0, .int .i64 0, .bool false, .int .i64 0]), (Value.slice none 0 0), (Value.int .i64 0), (Value.int .i64 0)].toList 8 = some ([.agg [.agg [.lit (.int .i64 0), .lit (.int .i64 0), .nil, .lit (.int .i64 0), .lit (.int .i64 0), .lit (.bool false)], .lit (.int .i64 0)], .nil, .lit (.int .i64 0), .lit (.int .i64 0)], [], places) :=
  ⟨[], by kernel_rfl⟩
set_option maxRecDepth 100000 in
theorem lifted (os : Os) (started : os.Started) (H : Type) (enc : TypeId × Value → H) (F : Stop.Interp) :
    ReturnsInHanded {} Tryz.checked os 3 .any ((OpenSpec.ofChange Rows.listenerAllSpec).preRow enc Tryz.prog Tryz.f3 Rows.listenerAllRow.domain false Rows.listenerAllRow.laid) (((OpenSpec.ofChange Rows.listenerAllSpec).at F).post enc Tryz.prog Tryz.f3 false true false false) := by
  obtain ⟨places, hx⟩ := reads os enc
  refine returnsInHanded_of_row (C := Tryz.checked) (s := OpenSpec.ofChange Rows.listenerAllSpec) own started (by kernel_rfl) Tryz.func3
    (witness_row_atRef (enc := enc) (C := Tryz.checked) false (laidWorld os) #[.agg #[.int .i64 0, .int .i64 0, .slice none 0 0, .int .i64 0, .int .i64 0, .bool false, .int .i64 0], .slice none 0 0, .int .i64 0, .int .i64 0] (World.laidAll_os _ _ _) (by kernel_rfl) (by kernel_rfl) (by kernel_rfl)
      (OpenSpec.preRow_of_cond 8 hx (by kernel_rfl) (fun k hk => by cases hk) (by kernel_rfl) (laid_met os))) ?_
  intro W base args ds gs before hval hW _ _ _ hL _ _
  exact contract H enc W base args ds gs before hval hW hL
theorem said : Rows.ListenerAllSaid :=
  OpenClaim.holds_of_cond 3 Tryz.f3 rfl rfl rfl rfl rfl rfl rfl ⟨rfl, rfl, rfl, rfl, rfl⟩ rfl rfl rfl rfl rfl (by kernel_rfl) Tryz.func3 (by kernel_rfl)
    (of_decide_eq_true (by kernel_rfl)) (by unfold Func.isWrapper; first | (rw [if_pos (by decide +kernel)]; kernel_rfl) | (rw [if_neg (by decide +kernel)]; exact ⟨rfl, rfl⟩))
    (fun os started H enc _ F => by rw [OpenClaim.pre_eq_preRow]; exact lifted os started H enc F)
theorem plain (f : FuncId) (fn : Func) (hf : Tryz.pinned.checked.prog.funcNamed "narrator/narratorlaw42.ListenerAll" = some f) (hfn : Tryz.pinned.checked.prog.funcs[f]? = some fn) :
    false = Tryz.pinned.checked.prog.looks [] ∧ ∀ (j : Nat) t, fn.params[j]? = some t → Tryz.pinned.checked.prog.wantsStandIn t = false := by
  obtain rfl : f = 3 := Option.some.inj ((show Tryz.prog.funcNamed "narrator/narratorlaw42.ListenerAll" = some 3 by kernel_rfl).symm.trans hf) |>.symm
  obtain rfl : fn = Tryz.f3 := (Option.some.inj (Tryz.func3.symm.trans hfn)).symm
  refine ⟨by kernel_rfl, fun j t ht => ?_⟩
  rw [Tryz.params3] at ht
  have hm := Array.mem_of_getElem? ht
  have h : t = 26 ∨ t = 27 ∨ t = 3 ∨ t = 3 := by simpa using hm
  rcases h with rfl | rfl | rfl | rfl
  · exact (show Tryz.prog.wantsStandIn 26 = false by kernel_rfl)
  · exact (show Tryz.prog.wantsStandIn 27 = false by kernel_rfl)
  · exact (show Tryz.prog.wantsStandIn 3 = false by kernel_rfl)
  · exact (show Tryz.prog.wantsStandIn 3 = false by kernel_rfl)
theorem card : Rows.ListenerAllCardSaid :=
  Claim7.holds_tied_plain_at .later [] _ _ _ _ said (fun _ h => by cases h) (by kernel_rfl) (fun _ h => by cases h) listenerAll_row_tie rfl ⟨rfl, rfl⟩ (by kernel_rfl) rfl plain (by kernel_rfl)
end Go.Proofs.YtggegijlfaipfaaGreatDoor.listenerAllDone
