/- The statement UtteranceChanges (a tied card) holds: for every input the law returns true, and nothing that was there has turned. The listed package-level variables start as the program's text lays them. -/
import Derived.Test.YtlndbiamiioakaaGreatDoorVAB
import Derived.Test.YtlndbiamiioakaaGreatDoorVAC
import Derived.Test.YtlndbiamiioakaaGreatDoorVAE
import Derived.Test.YtlndbiamiioakaaGreatDoorVAF
import Derived.Test.YtlndbiamiioakaaGreatDoorVAG
import Derived.Test.YtlndbiamiioakaaGreatDoorVAK
import Derived.Test.YtlndbiamiioakaaGreatDoorVAL
import Derived.Test.YtlndbiamiioakaaGreatDoorVAM
import Derived.Test.YtlndbiamiioakaaGreatDoorVAS
import Derived.Test.YtlndbiamiioakaaGreatDoorVAT
import Derived.Test.YtlndbiamiioakaaGreatDoorVAU
import Derived.Test.YtlndbiamiioakaaGreatDoorVAY
import Derived.Test.YtlndbiamiioakaaGreatDoorVBB
import Derived.Test.YtlndbiamiioakaaGreatDoorVBC
import Derived.Test.YtlndbiamiioakaaGreatDoorVBD
import Derived.Test.YtlndbiamiioakaaGreatDoorVBF
import Derived.Test.YtlndbiamiioakaaGreatDoorVBH
import Derived.Test.YtlndbiamiioakaaGreatDoorVBJ
import Derived.Test.YtlndbiamiioakaaGreatDoorVBK
import Derived.Test.YtlndbiamiioakaaGreatDoorVBN
import Derived.Test.YtlndbiamiioakaaGreatDoorVBR
import Derived.Test.YtlndbiamiioakaaGreatDoorVBS
import Derived.Test.YtlndbiamiioakaaGreatDoorVBU
import Derived.Test.YtlndbiamiioakaaGreatDoorVBX
import Derived.Test.YtlndbiamiioakaaGreatDoorVBZ
namespace Go.Proofs.YtlndbiamiioakaaGreatDoor.utteranceChangesDone
open Go.ChangeShapes Go.WideShapes Go.ChangeAt Go.RowKit Go.Proofs.YtlndbiamiioakaaGreatDoor
open Go.ChangeMaps (open_string shut_string)
set_option linter.unusedVariables false
set_option maxRecDepth 100000 in
theorem contract (H : Type) (enc : TypeId × Value → H) (W : World) (base : Nat) (args : Array Value) (ds gs : List (DataW H)) (before : List MemPlace)
    (hval : ∀ (j : Nat) t v, Tryz.f3.params[j]? = some t → args[j]? = some v → Value.okWide Tryz.prog W .any base t v)
    (hW : DataW.Whole enc Tryz.prog Tryz.f3.params.toList Rows.utteranceChangesSpec.vars false W args.toList ds gs before) (hL : laidMetH Tryz.prog Rows.utteranceChangesRow.laid W) :
    Calls Tryz.prog 3 args W fun e W' => ∃ v, e = .returned v ∧ Rows.utteranceChangesSpec.post enc Tryz.prog Tryz.f3 false true false false W args v W' := by
  have hW' := hW
  obtain ⟨p, q, hA0, hV, rfl, hfz, hnd⟩ := hW
  have hA : DataW.TrodAll enc Tryz.prog W 0 (fun _ => true) true Tryz.f3.params.toList args.toList ds p := hA0
  rw [Tryz.params3] at hA hval
  obtain ⟨v0, vs0, d0, ds0, p0, q0, hargs, rfl, rfl, h0, r0⟩ := trodAll_cons hA
  obtain ⟨rfl, rfl, rfl⟩ := trodAll_nil r0
  obtain rfl : args = #[v0] := by cases args; simp_all
  obtain ⟨rfl, rfl⟩ := trodVars_none hV
  obtain ⟨A0, n0, c0, rfl⟩ := okWide_slice Tryz.underlying22 (hval 0 22 v0 rfl rfl)
  have lt0 : ∀ x ∈ p0, x.block < W.heap.size := by obtain ⟨m, hm⟩ := h0; exact DataW.trod_lt m _ _ _ hm
  obtain ⟨l0, hn0, hc0, hm0, rd0, hs0⟩ := open_strs Tryz.underlying22 Tryz.underlying9 (by kernel_rfl) h0
  clear hA0
  refine (law_UtteranceChanges W (⟨gd_of hL rfl (List.Mem.tail _ (List.Mem.tail _ (List.Mem.tail _ (List.Mem.tail _ (List.Mem.head _))))) (List.Mem.tail _ (List.Mem.tail _ (List.Mem.tail _ (List.Mem.tail _ (List.Mem.tail _ (List.Mem.head _)))))) (List.Mem.tail _ (List.Mem.tail _ (List.Mem.tail _ (List.Mem.tail _ (List.Mem.tail _ (List.Mem.tail _ (List.Mem.tail _ (List.Mem.head _)))))))) (List.Mem.tail _ (List.Mem.tail _ (List.Mem.head _))), tb_of hL rfl (List.Mem.head _) (List.Mem.tail _ (List.Mem.head _))⟩) A0 n0 c0 l0 hn0 hc0 hm0 rd0 hs0).mono fun e W' ⟨he, bel⟩ => ?_
  subst he
  exact ⟨_, rfl, _, _, _, [], _, [], hW', trodAll_mk1 (shut_bool Tryz.underlying4 _), (trodAll_cons_mk (Below.trod laidOut (by kernel_rfl) (of_decide_eq_true (by kernel_rfl)) h0 bel lt0) trodAll_mk0), rfl, bel.frame _, fun h => by cases h⟩
noncomputable def laidWorld (os : Os) : World :=
  World.laidAll Tryz.prog os Rows.utteranceChangesRow.laid
theorem laid_met (os : Os) : laidMet Tryz.prog Rows.utteranceChangesRow.laid ((laidWorld os).forCall (fun _ _ => 0) ⟨#[], #[.slice none 0 0], []⟩).memory :=
  laidMet_laidAll _ (by kernel_rfl) (by kernel_rfl)
theorem reads (os : Os) {H : Type} (enc : TypeId × Value → H) : ∃ places, DataW.whole enc Tryz.prog ((laidWorld os).forCall (fun _ _ => 0) ⟨#[], #[.slice none 0 0], []⟩).memory Tryz.f3.params.toList Rows.utteranceChangesSpec.vars false #[(Value.slice none 0 0)].toList 8 = some ([.nil], [], places) :=
  ⟨[], by kernel_rfl⟩
set_option maxRecDepth 100000 in
theorem lifted (os : Os) (started : os.Started) (H : Type) (enc : TypeId × Value → H) (F : Stop.Interp) :
    ReturnsInHanded {} Tryz.checked os 3 .any ((OpenSpec.ofChange Rows.utteranceChangesSpec).preRow enc Tryz.prog Tryz.f3 Rows.utteranceChangesRow.domain false Rows.utteranceChangesRow.laid) (((OpenSpec.ofChange Rows.utteranceChangesSpec).at F).post enc Tryz.prog Tryz.f3 false true false false) := by
  obtain ⟨places, hx⟩ := reads os enc
  refine returnsInHanded_of_row (C := Tryz.checked) (s := OpenSpec.ofChange Rows.utteranceChangesSpec) own started (by kernel_rfl) Tryz.func3
    (witness_row_atRef (enc := enc) (C := Tryz.checked) false (laidWorld os) #[.slice none 0 0] (World.laidAll_os _ _ _) (by kernel_rfl) (by kernel_rfl) (by kernel_rfl)
      (OpenSpec.preRow_of_cond 8 hx (by kernel_rfl) (fun k hk => by cases hk) (by kernel_rfl) (laid_met os))) ?_
  intro W base args ds gs before hval hW _ _ _ hL _ _
  exact contract H enc W base args ds gs before hval hW hL
theorem said : Rows.UtteranceChangesSaid :=
  OpenClaim.holds_of_cond 3 Tryz.f3 rfl rfl rfl rfl rfl rfl rfl ⟨rfl, rfl, rfl, rfl, rfl⟩ rfl rfl rfl rfl rfl (by kernel_rfl) Tryz.func3 (by kernel_rfl)
    (of_decide_eq_true (by kernel_rfl)) (by unfold Func.isWrapper; first | (rw [if_pos (by decide +kernel)]; kernel_rfl) | (rw [if_neg (by decide +kernel)]; exact ⟨rfl, rfl⟩))
    (fun os started H enc _ F => by rw [OpenClaim.pre_eq_preRow]; exact lifted os started H enc F)
theorem plain (f : FuncId) (fn : Func) (hf : Tryz.pinned.checked.prog.funcNamed "narrator/narratorlaw41.UtteranceChanges" = some f) (hfn : Tryz.pinned.checked.prog.funcs[f]? = some fn) :
    false = Tryz.pinned.checked.prog.looks [] ∧ ∀ (j : Nat) t, fn.params[j]? = some t → Tryz.pinned.checked.prog.wantsStandIn t = false := by
  obtain rfl : f = 3 := Option.some.inj ((show Tryz.prog.funcNamed "narrator/narratorlaw41.UtteranceChanges" = some 3 by kernel_rfl).symm.trans hf) |>.symm
  obtain rfl : fn = Tryz.f3 := (Option.some.inj (Tryz.func3.symm.trans hfn)).symm
  refine ⟨by kernel_rfl, fun j t ht => ?_⟩
  rw [Tryz.params3] at ht
  have hm := Array.mem_of_getElem? ht
  have h : t = 22 := by simpa using hm
  obtain rfl := h
  exact (show Tryz.prog.wantsStandIn 22 = false by kernel_rfl)
theorem card : Rows.UtteranceChangesCardSaid :=
  Claim7.holds_tied_plain_at .later [] _ _ _ _ said (fun _ h => by cases h) (by kernel_rfl) (fun _ h => by cases h) utteranceChanges_row_tie rfl ⟨rfl, rfl⟩ (by kernel_rfl) rfl plain (by kernel_rfl)
end Go.Proofs.YtlndbiamiioakaaGreatDoor.utteranceChangesDone
