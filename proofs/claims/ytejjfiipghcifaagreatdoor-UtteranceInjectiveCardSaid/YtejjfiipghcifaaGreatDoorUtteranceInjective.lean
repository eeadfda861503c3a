/- The statement UtteranceInjective (a tied card) holds: for every input the law returns true, and nothing that was there has turned. The listed package-level variables start as the program's text lays them. -/
import Derived.Test.YtejjfiipghcifaaGreatDoorQAB
import Derived.Test.YtejjfiipghcifaaGreatDoorQAC
import Derived.Test.YtejjfiipghcifaaGreatDoorQAE
import Derived.Test.YtejjfiipghcifaaGreatDoorQAF
import Derived.Test.YtejjfiipghcifaaGreatDoorQAG
import Derived.Test.YtejjfiipghcifaaGreatDoorQAL
import Derived.Test.YtejjfiipghcifaaGreatDoorQAN
import Derived.Test.YtejjfiipghcifaaGreatDoorQAO
import Derived.Test.YtejjfiipghcifaaGreatDoorQAU
import Derived.Test.YtejjfiipghcifaaGreatDoorQAV
import Derived.Test.YtejjfiipghcifaaGreatDoorQAW
import Derived.Test.YtejjfiipghcifaaGreatDoorQBA
import Derived.Test.YtejjfiipghcifaaGreatDoorQBD
import Derived.Test.YtejjfiipghcifaaGreatDoorQBE
import Derived.Test.YtejjfiipghcifaaGreatDoorQBF
import Derived.Test.YtejjfiipghcifaaGreatDoorQBH
import Derived.Test.YtejjfiipghcifaaGreatDoorQBJ
import Derived.Test.YtejjfiipghcifaaGreatDoorQBP
import Derived.Test.YtejjfiipghcifaaGreatDoorQBQ
import Derived.Test.YtejjfiipghcifaaGreatDoorQBU
import Derived.Test.YtejjfiipghcifaaGreatDoorQHS
import Derived.Test.YtejjfiipghcifaaGreatDoorQIA
import Derived.Test.YtejjfiipghcifaaGreatDoorQID
import Derived.Test.YtejjfiipghcifaaGreatDoorQLO
namespace Go.Proofs.YtejjfiipghcifaaGreatDoor.utteranceInjectiveDone
open Go.ChangeShapes Go.WideShapes Go.ChangeAt Go.RowKit Go.Proofs.YtejjfiipghcifaaGreatDoor
open Go.ChangeMaps (open_string shut_string)
set_option linter.unusedVariables false
set_option maxRecDepth 100000 in
theorem contract (H : Type) (enc : TypeId × Value → H) (W : World) (base : Nat) (args : Array Value) (ds gs : List (DataW H)) (before : List MemPlace)
    (hval : ∀ (j : Nat) t v, Tryz.f9.params[j]? = some t → args[j]? = some v → Value.okWide Tryz.prog W .any base t v)
    (hW : DataW.Whole enc Tryz.prog Tryz.f9.params.toList Rows.utteranceInjectiveSpec.vars false W args.toList ds gs before) (hL : laidMetH Tryz.prog Rows.utteranceInjectiveRow.laid W) :
    Calls Tryz.prog 9 args W fun e W' => ∃ v, e = .returned v ∧ Rows.utteranceInjectiveSpec.post enc Tryz.prog Tryz.f9 false true false false W args v W' := by
  have hW' := hW
  obtain ⟨p, q, hA0, hV, rfl, hfz, hnd⟩ := hW
  have hA : DataW.TrodAll enc Tryz.prog W 0 (fun _ => true) true Tryz.f9.params.toList args.toList ds p := hA0
  rw [Tryz.params9] at hA hval
  obtain ⟨v0, vs0, d0, ds0, p0, q0, hargs, rfl, rfl, h0, r0⟩ := trodAll_cons hA
  obtain ⟨rfl, rfl, rfl⟩ := trodAll_nil r0
  obtain rfl : args = #[v0] := by cases args; simp_all
  obtain ⟨rfl, rfl⟩ := trodVars_none hV
  have lt0 : ∀ x ∈ p0, x.block < W.heap.size := by obtain ⟨m, hm⟩ := h0; exact DataW.trod_lt m _ _ _ hm
  obtain ⟨PA, pn, pc, PB, pn', pc', pr, pdg, psp, pq, pco, pk, pr', pdg', psp', pq', pco', pk', rfl, ⟨_, _, ha⟩, ⟨_, _, hb⟩, ⟨pw1, pw2, pw3⟩, pw4, pw5, pw6⟩ := open_pair Tryz.underlying42 (by kernel_rfl) rfl ⟨rfl, rfl, rfl, rfl⟩ Tryz.underlying22 (by kernel_rfl) (by kernel_rfl) Tryz.underlying24 rfl Tryz.underlying3 (by kernel_rfl) Tryz.underlying4 (by kernel_rfl) ⟨rfl, rfl, rfl, rfl, rfl, rfl⟩ (hval 0 42 v0 rfl rfl) h0
  obtain ⟨la, hna, hca, hma, rda, hsa⟩ := open_chgs Tryz.underlying22 Tryz.underlying46 (by kernel_rfl) rfl Tryz.underlying3 (by kernel_rfl) Tryz.underlying44 (by kernel_rfl) ⟨rfl, rfl, rfl, rfl, rfl, rfl⟩ Tryz.underlying48 (by kernel_rfl) rfl ⟨Tryz.underlying9, by kernel_rfl⟩ ⟨Tryz.underlying4, by kernel_rfl⟩ ⟨Tryz.underlying3, by kernel_rfl⟩ ha
  obtain ⟨lb, hnb, hcb, hmb, rdb, hsb⟩ := open_chgs Tryz.underlying22 Tryz.underlying46 (by kernel_rfl) rfl Tryz.underlying3 (by kernel_rfl) Tryz.underlying44 (by kernel_rfl) ⟨rfl, rfl, rfl, rfl, rfl, rfl⟩ Tryz.underlying48 (by kernel_rfl) rfl ⟨Tryz.underlying9, by kernel_rfl⟩ ⟨Tryz.underlying4, by kernel_rfl⟩ ⟨Tryz.underlying3, by kernel_rfl⟩ hb
  clear hA0
  refine (law_UtteranceInjective W (gd_of hL rfl (List.Mem.tail _ (List.Mem.tail _ (List.Mem.head _))) (List.Mem.tail _ (List.Mem.tail _ (List.Mem.tail _ (List.Mem.head _)))) (List.Mem.tail _ (List.Mem.tail _ (List.Mem.tail _ (List.Mem.tail _ (List.Mem.tail _ (List.Mem.head _)))))) (List.Mem.head _)) PA pn pc la hna hca hma rda PB pn' pc' lb hnb hcb hmb rdb pr pdg psp pq pco pk pw1 pw2 pw3 pr' pdg' psp' pq' pco' pk' pw4 pw5 pw6).mono fun e W' ⟨he, bel⟩ => ?_
  subst he
  exact ⟨_, rfl, _, _, _, [], _, [], hW', trodAll_mk1 (shut_bool Tryz.underlying4 _), (trodAll_cons_mk (Below.trod laidOut (by kernel_rfl) (of_decide_eq_true (by kernel_rfl)) h0 bel lt0) trodAll_mk0), rfl, bel.frame _, fun h => by cases h⟩
noncomputable def laidWorld (os : Os) : World :=
  World.laidAll Tryz.prog os Rows.utteranceInjectiveRow.laid
theorem laid_met (os : Os) : laidMet Tryz.prog Rows.utteranceInjectiveRow.laid ((laidWorld os).forCall (fun _ _ => 0) ⟨#[], #[.agg #[.slice none 0 0, .slice none 0 0, .int .i64 0, .bool false, .bool false, .int .i64 0, .bool false, .int .i64 0, .int .i64 0, .bool false, .bool false, .int .i64 0, .bool false, .int .i64 0]], []⟩).memory :=
  laidMet_laidAll _ (by kernel_rfl) (by kernel_rfl)
theorem reads (os : Os) {H : Type} (enc : TypeId × Value → H) : ∃ places, DataW.whole enc Tryz.prog ((laidWorld os).forCall (fun _ _ => 0) ⟨#[], #[.agg #[.slice none 0 0, .slice none 0 0, .int .i64 0, .bool false, .bool false, .int .i64 0, .bool false, .int .i64 0, .int .i64 0, .bool false, .bool false, .int .i64 0, .bool false, .int .i64 0]], []⟩).memory Tryz.f9.params.toList Rows.utteranceInjectiveSpec.vars false #[(Value.agg #[.slice none 0 0, .slice none 0 0, .int .i64 0, .bool false, .bool false, .int .i64 0, .bool false, .int .i64 0, .int .i64 0, .bool false, .bool false, .int .i64 0, .bool false, .int .i64 0])].toList 8 = some ([.agg [.nil, .nil, .agg [.lit (.int .i64 0), .lit (.bool false), .lit (.bool false), .lit (.int .i64 0), .lit (.bool false), .lit (.int .i64 0)], .agg [.lit (.int .i64 0), .lit (.bool false), .lit (.bool false), .lit (.int .i64 0), .lit (.bool false), .lit (.int .i64 0)]]], [], places) :=
  ⟨[], by kernel_rfl⟩
set_option maxRecDepth 100000 in
theorem lifted (os : Os) (started : os.Started) (H : Type) (enc : TypeId × Value → H) (F : Stop.Interp) :
    ReturnsInHanded {} Tryz.checked os 9 .any ((OpenSpec.ofChange Rows.utteranceInjectiveSpec).preRow enc Tryz.prog Tryz.f9 Rows.utteranceInjectiveRow.domain false Rows.utteranceInjectiveRow.laid) (((OpenSpec.ofChange Rows.utteranceInjectiveSpec).at F).post enc Tryz.prog Tryz.f9 false true false false) := by
  obtain ⟨places, hx⟩ := reads os enc
  refine returnsInHanded_of_row (C := Tryz.checked) (s := OpenSpec.ofChange Rows.utteranceInjectiveSpec) own started (by kernel_rfl) Tryz.func9
    (witness_row_atRef (enc := enc) (C := Tryz.checked) false (laidWorld os) #[.agg #[.slice none 0 0, .slice none 0 0, .int .i64 0, .bool false, .bool false, .int .i64 0, .bool false, .int .i64 0, .int .i64 0, .bool false, .bool false, .int .i64 0, .bool false, .int .i64 0]] (World.laidAll_os _ _ _) (by kernel_rfl) (by kernel_rfl) (by kernel_rfl)
      (OpenSpec.preRow_of_cond 8 hx (by kernel_rfl) (fun k hk => by cases hk) (by kernel_rfl) (laid_met os))) ?_
  intro W base args ds gs before hval hW _ _ _ hL _ _
  exact contract H enc W base args ds gs before hval hW hL
theorem said : Rows.UtteranceInjectiveSaid :=
  OpenClaim.holds_of_cond 9 Tryz.f9 rfl rfl rfl rfl rfl rfl rfl ⟨rfl, rfl, rfl, rfl, rfl⟩ rfl rfl rfl rfl rfl (by kernel_rfl) Tryz.func9 (by kernel_rfl)
    (of_decide_eq_true (by kernel_rfl)) (by unfold Func.isWrapper; first | (rw [if_pos (by decide +kernel)]; kernel_rfl) | (rw [if_neg (by decide +kernel)]; exact ⟨rfl, rfl⟩))
    (fun os started H enc _ F => by rw [OpenClaim.pre_eq_preRow]; exact lifted os started H enc F)
theorem plain (f : FuncId) (fn : Func) (hf : Tryz.pinned.checked.prog.funcNamed "narrator/narratorlaw41.UtteranceInjective" = some f) (hfn : Tryz.pinned.checked.prog.funcs[f]? = some fn) :
    false = Tryz.pinned.checked.prog.looks [] ∧ ∀ (j : Nat) t, fn.params[j]? = some t → Tryz.pinned.checked.prog.wantsStandIn t = false := by
  obtain rfl : f = 9 := Option.some.inj ((show Tryz.prog.funcNamed "narrator/narratorlaw41.UtteranceInjective" = some 9 by kernel_rfl).symm.trans hf) |>.symm
  obtain rfl : fn = Tryz.f9 := (Option.some.inj (Tryz.func9.symm.trans hfn)).symm
  refine ⟨by kernel_rfl, fun j t ht => ?_⟩
  rw [Tryz.params9] at ht
  have hm := Array.mem_of_getElem? ht
  have h : t = 42 := by simpa using hm
  obtain rfl := h
  exact (show Tryz.prog.wantsStandIn 42 = false by kernel_rfl)
theorem card : Rows.UtteranceInjectiveCardSaid :=
  Claim7.holds_tied_plain_at .later [] _ _ _ _ said (fun _ h => by cases h) (by kernel_rfl) (fun _ h => by cases h) utteranceInjective_row_tie rfl ⟨rfl, rfl⟩ (by kernel_rfl) rfl plain (by kernel_rfl)
end Go.Proofs.YtejjfiipghcifaaGreatDoor.utteranceInjectiveDone
