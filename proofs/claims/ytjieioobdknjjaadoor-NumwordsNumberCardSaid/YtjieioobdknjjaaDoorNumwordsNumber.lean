/- The statement NumwordsNumber (a tied card) holds: for every input the law returns true, and nothing that was there has turned. The listed package-level variables start as the program's text lays them. -/
import Derived.Test.YtjieioobdknjjaaDoorNumL6
import Derived.Test.YtjieioobdknjjaaDoorLaidNum
namespace Go.Proofs.YtjieioobdknjjaaDoor.numwordsNumberDone
open Go.ChangeShapes Go.WideShapes Go.ChangeAt Go.RowKit Go.Proofs.YtjieioobdknjjaaDoor
open Go.ChangeMaps (open_string shut_string)
set_option linter.unusedVariables false
theorem contract (H : Type) (enc : TypeId × Value → H) (W : World) (base : Nat) (args : Array Value) (ds gs : List (DataW H)) (before : List MemPlace)
    (hval : ∀ (j : Nat) t v, Tryd.f4.params[j]? = some t → args[j]? = some v → Value.okWide Tryd.prog W .any base t v)
    (hW : DataW.Whole enc Tryd.prog Tryd.f4.params.toList Rows.numwordsNumberSpec.vars false W args.toList ds gs before) (hL : laidMetH Tryd.prog Rows.numwordsNumberRow.laid W) :
    Calls Tryd.prog 4 args W fun e W' => ∃ v, e = .returned v ∧ Rows.numwordsNumberSpec.post enc Tryd.prog Tryd.f4 false true false false W args v W' := by
  have hW' := hW
  obtain ⟨p, q, hA0, hV, rfl, hfz, hnd⟩ := hW
  have hA : DataW.TrodAll enc Tryd.prog W 0 (fun _ => true) true Tryd.f4.params.toList args.toList ds p := hA0
  rw [Tryd.params4] at hA hval
  obtain ⟨v0, vs0, d0, ds0, p0, q0, hargs, rfl, rfl, h0, r0⟩ := trodAll_cons hA
  obtain ⟨rfl, rfl, rfl⟩ := trodAll_nil r0
  obtain rfl : args = #[v0] := by cases args; simp_all
  obtain ⟨rfl, rfl⟩ := trodVars_none hV
  obtain ⟨A0, n0, c0, rfl⟩ := okWide_slice Tryd.underlying22 (hval 0 22 v0 rfl rfl)
  have lt0 : ∀ x ∈ p0, x.block < W.heap.size := by obtain ⟨m, hm⟩ := h0; exact DataW.trod_lt m _ _ _ hm
  obtain ⟨l0, hn0, hc0, hm0, rd0, hs0⟩ := open_strs Tryd.underlying22 Tryd.underlying9 (by kernel_rfl) h0
  clear hA0
  refine (law_NumwordsNumber W (tb_of hL rfl (by simp [Rows.numwordsNumberRow]) (by simp [Rows.numwordsNumberRow])) A0 n0 c0 l0 hn0 hc0 hm0 rd0 hs0).mono fun e W' ⟨he, bel⟩ => ?_
  subst he
  exact ⟨_, rfl, _, _, _, [], _, [], hW', trodAll_mk1 (shut_bool Tryd.underlying4 _), (trodAll_cons_mk (Below.trod laidOut (by kernel_rfl) (of_decide_eq_true (by kernel_rfl)) h0 bel lt0) trodAll_mk0), rfl, bel.frame _, fun h => by cases h⟩
noncomputable def laidWorld (os : Os) : World :=
  { World.holding Tryd.prog os ⟨#[], #[], []⟩ with heap := (((World.holding Tryd.prog os ⟨#[], #[], []⟩).heap.modify 0 fun
      | .cells _ t frozen => .cells #[.string ⟨#[122, 101, 114, 111]⟩, .string ⟨#[111, 110, 101]⟩, .string ⟨#[116, 119, 111]⟩, .string ⟨#[116, 104, 114, 101, 101]⟩, .string ⟨#[102, 111, 117, 114]⟩, .string ⟨#[102, 105, 118, 101]⟩, .string ⟨#[115, 105, 120]⟩, .string ⟨#[115, 101, 118, 101, 110]⟩, .string ⟨#[101, 105, 103, 104, 116]⟩, .string ⟨#[110, 105, 110, 101]⟩, .string ⟨#[116, 101, 110]⟩, .string ⟨#[101, 108, 101, 118, 101, 110]⟩, .string ⟨#[116, 119, 101, 108, 118, 101]⟩, .string ⟨#[116, 104, 105, 114, 116, 101, 101, 110]⟩, .string ⟨#[102, 111, 117, 114, 116, 101, 101, 110]⟩, .string ⟨#[102, 105, 102, 116, 101, 101, 110]⟩, .string ⟨#[115, 105, 120, 116, 101, 101, 110]⟩, .string ⟨#[115, 101, 118, 101, 110, 116, 101, 101, 110]⟩, .string ⟨#[101, 105, 103, 104, 116, 101, 101, 110]⟩, .string ⟨#[110, 105, 110, 101, 116, 101, 101, 110]⟩] t frozen
      | o => o).modify 1 fun
      | .cells _ t frozen => .cells #[.string ⟨#[116, 119, 101, 110, 116, 121]⟩, .string ⟨#[116, 104, 105, 114, 116, 121]⟩, .string ⟨#[102, 111, 114, 116, 121]⟩, .string ⟨#[102, 105, 102, 116, 121]⟩, .string ⟨#[115, 105, 120, 116, 121]⟩, .string ⟨#[115, 101, 118, 101, 110, 116, 121]⟩, .string ⟨#[101, 105, 103, 104, 116, 121]⟩, .string ⟨#[110, 105, 110, 101, 116, 121]⟩] t frozen
      | o => o) }
theorem laid_met (os : Os) : laidMet Tryd.prog Rows.numwordsNumberRow.laid ((laidWorld os).forCall (fun _ _ => 0) ⟨#[], #[.slice none 0 0], []⟩).memory :=
  laidMet_of_run' 8 (by kernel_rfl) (by kernel_rfl)
theorem reads (os : Os) {H : Type} (enc : TypeId × Value → H) : ∃ places, DataW.whole enc Tryd.prog ((laidWorld os).forCall (fun _ _ => 0) ⟨#[], #[.slice none 0 0], []⟩).memory Tryd.f4.params.toList Rows.numwordsNumberSpec.vars false #[(Value.slice none 0 0)].toList 8 = some ([.nil], [], places) :=
  ⟨[], by kernel_rfl⟩
set_option maxRecDepth 100000 in
theorem lifted (os : Os) (started : os.Started) (H : Type) (enc : TypeId × Value → H) (F : Stop.Interp) :
    ReturnsInHanded {} Tryd.checked os 4 .any ((OpenSpec.ofChange Rows.numwordsNumberSpec).preRow enc Tryd.prog Tryd.f4 Rows.numwordsNumberRow.domain false Rows.numwordsNumberRow.laid) (((OpenSpec.ofChange Rows.numwordsNumberSpec).at F).post enc Tryd.prog Tryd.f4 false true false false) := by
  obtain ⟨places, hx⟩ := reads os enc
  refine returnsInHanded_of_row (C := Tryd.checked) (s := OpenSpec.ofChange Rows.numwordsNumberSpec) own started (by kernel_rfl) Tryd.func4
    (witness_row_at (enc := enc) (C := Tryd.checked) false (laidWorld os) #[.slice none 0 0] rfl (by kernel_rfl) (by kernel_rfl) (by kernel_rfl)
      (OpenSpec.preRow_of_cond 8 hx (by kernel_rfl) (fun k hk => by cases hk) (by kernel_rfl) (laid_met os))) ?_
  intro W base args ds gs before hval hW _ _ _ hL _ _
  exact contract H enc W base args ds gs before hval hW hL
theorem said : Rows.NumwordsNumberSaid :=
  OpenClaim.holds_of_cond 4 Tryd.f4 rfl rfl rfl rfl rfl rfl rfl ⟨rfl, rfl, rfl, rfl, rfl⟩ rfl rfl rfl rfl rfl (by kernel_rfl) Tryd.func4 (by kernel_rfl)
    (of_decide_eq_true (by kernel_rfl)) (by unfold Func.isWrapper; first | (rw [if_pos (by decide +kernel)]; kernel_rfl) | (rw [if_neg (by decide +kernel)]; exact ⟨rfl, rfl⟩))
    (fun os started H enc _ F => by rw [OpenClaim.pre_eq_preRow]; exact lifted os started H enc F)
theorem plain (f : FuncId) (fn : Func) (hf : Tryd.pinned.checked.prog.funcNamed "narrator/narratorlaw38.NumwordsNumber" = some f) (hfn : Tryd.pinned.checked.prog.funcs[f]? = some fn) :
    false = Tryd.pinned.checked.prog.looks [] ∧ ∀ (j : Nat) t, fn.params[j]? = some t → Tryd.pinned.checked.prog.wantsStandIn t = false := by
  obtain rfl : f = 4 := Option.some.inj ((show Tryd.prog.funcNamed "narrator/narratorlaw38.NumwordsNumber" = some 4 by kernel_rfl).symm.trans hf) |>.symm
  obtain rfl : fn = Tryd.f4 := (Option.some.inj (Tryd.func4.symm.trans hfn)).symm
  refine ⟨by kernel_rfl, fun j t ht => ?_⟩
  rw [Tryd.params4] at ht
  have hm := Array.mem_of_getElem? ht
  have h : t = 22 := by simpa using hm
  obtain rfl := h
  exact (show Tryd.prog.wantsStandIn 22 = false by kernel_rfl)
theorem card : Rows.NumwordsNumberCardSaid :=
  Claim7.holds_tied_plain_at .later [] _ _ _ _ said (fun _ h => by cases h) (by kernel_rfl) (fun _ h => by cases h) numwordsNumber_row_tie rfl ⟨rfl, rfl⟩ (by kernel_rfl) rfl plain (by kernel_rfl)
end Go.Proofs.YtjieioobdknjjaaDoor.numwordsNumberDone
