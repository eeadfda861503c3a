/-
  No cell of these rows narrows 'for every input' (looked for: loops, veiled, ifaces, maps, wideKeys, modest, calm, conditions, laid).
  DERIVED. THE GIVEN ROWS OF THIS SEAT. 5 by the template 'for every input the law returns true; each argument reads behind the call as it read before'; 0 by the template 'total and deterministic' (their statements: YtgmodadgmnfhgaaTotals.lean).
  GIVEN WITH THE SEED: the statements are not yours to turn. If you find one false, say at which input.
  Laid BY PROGRAM, IN A SANDBOX (cutbox-rows.mjs): the forced cells as the released guide's own fill.sh prints them over the translation 95064e785a81c8b1… (all of the seat's roots in one cut). By AI agents, Wed Nov 11 2026. No macro, syntax, notation, axiom, sorry.
-/
import Derived.Test.YtgmodadgmnfhgaaChecked
import GoSem.Claim
import GoSem.ClaimJoined
import GoSem.ClaimMapViews
import Derived.JoinedTies
import Derived.KernelRfl
namespace Go.Proofs.Ytgmodadgmnfhgaa
/- THE CELL 'sum', in the pinned program and in every row, IS THE sha256 OF THE DUMP (.gsa) THAT YtgmodadgmnfhgaaProg.lean LOADS. Nothing in Lean hashes anything: it is a label: what it is worth is what the hold of that sum in a sandbox is worth. -/
noncomputable def Try.pinned : Pinned := { name := "ytgmodadgmnfhgaa", sum := "95064e785a81c8b16628c60181e10a6ee46d316b61a78a5b15f45cf67068f86d", checked := Try.checked }
namespace Rows
def none {H : Type} : Left H := { results := [], args := [] }

/-- 'narratorlaw28.RegionsNest': WHATEVER THE INPUT: true; the input reads as it did. -/
def regionsNestSpec : ChangeSpec := { name := "regionsNest", fn := fun _ => fun
  | [d] => { results := [.lit (.bool true)], args := [d] }
  | _ => none }
def regionsNestRow : OpenClaim := { program := "ytgmodadgmnfhgaa", sum := "95064e785a81c8b16628c60181e10a6ee46d316b61a78a5b15f45cf67068f86d", func := "narrator/narratorlaw28.RegionsNest", spec := "regionsNest", inPlace := ["internal/bytealg.abigen_runtime_cmpstring"], unfollowed := true, recurses := true, apart := false }
def RegionsNestSaid : Prop := regionsNestRow.holds Try.pinned (OpenSpec.ofChange regionsNestSpec)

/-- ITS FALSE NEIGHBOUR: 'it returns false'. Refute it at one input. -/
def regionsNestWrong : ChangeSpec := { name := "regionsNest", fn := fun _ => fun
  | [d] => { results := [.lit (.bool false)], args := [d] }
  | _ => none }
def RegionsNestWrongFalsely : Prop := regionsNestRow.holds Try.pinned (OpenSpec.ofChange regionsNestWrong)

/-- 'narratorlaw28.RegionsStable': WHATEVER THE INPUT: true; the input reads as it did. -/
def regionsStableSpec : ChangeSpec := { name := "regionsStable", fn := fun _ => fun
  | [d1, d2] => { results := [.lit (.bool true)], args := [d1, d2] }
  | _ => none }
def regionsStableRow : OpenClaim := { program := "ytgmodadgmnfhgaa", sum := "95064e785a81c8b16628c60181e10a6ee46d316b61a78a5b15f45cf67068f86d", func := "narrator/narratorlaw28.RegionsStable", spec := "regionsStable", inPlace := ["internal/bytealg.abigen_runtime_cmpstring"], unfollowed := true, recurses := true, apart := false }
def RegionsStableSaid : Prop := regionsStableRow.holds Try.pinned (OpenSpec.ofChange regionsStableSpec)

/-- ITS FALSE NEIGHBOUR: 'it returns false'. Refute it at one input. -/
def regionsStableWrong : ChangeSpec := { name := "regionsStable", fn := fun _ => fun
  | [d1, d2] => { results := [.lit (.bool false)], args := [d1, d2] }
  | _ => none }
def RegionsStableWrongFalsely : Prop := regionsStableRow.holds Try.pinned (OpenSpec.ofChange regionsStableWrong)

/-- 'narratorlaw28.RegionsInnermost': WHATEVER THE INPUT: true; the input reads as it did. -/
def regionsInnermostSpec : ChangeSpec := { name := "regionsInnermost", fn := fun _ => fun
  | [d1, d2, d3] => { results := [.lit (.bool true)], args := [d1, d2, d3] }
  | _ => none }
def regionsInnermostRow : OpenClaim := { program := "ytgmodadgmnfhgaa", sum := "95064e785a81c8b16628c60181e10a6ee46d316b61a78a5b15f45cf67068f86d", func := "narrator/narratorlaw28.RegionsInnermost", spec := "regionsInnermost", inPlace := ["internal/bytealg.abigen_runtime_cmpstring"], unfollowed := true, recurses := true, apart := false }
def RegionsInnermostSaid : Prop := regionsInnermostRow.holds Try.pinned (OpenSpec.ofChange regionsInnermostSpec)

/-- ITS FALSE NEIGHBOUR: 'it returns false'. Refute it at one input. -/
def regionsInnermostWrong : ChangeSpec := { name := "regionsInnermost", fn := fun _ => fun
  | [d1, d2, d3] => { results := [.lit (.bool false)], args := [d1, d2, d3] }
  | _ => none }
def RegionsInnermostWrongFalsely : Prop := regionsInnermostRow.holds Try.pinned (OpenSpec.ofChange regionsInnermostWrong)

/-- 'narratorlaw28.RegionsResults': WHATEVER THE INPUT: true; the input reads as it did. -/
def regionsResultsSpec : ChangeSpec := { name := "regionsResults", fn := fun _ => fun
  | [d1, d2, d3, d4] => { results := [.lit (.bool true)], args := [d1, d2, d3, d4] }
  | _ => none }
def regionsResultsRow : OpenClaim := { program := "ytgmodadgmnfhgaa", sum := "95064e785a81c8b16628c60181e10a6ee46d316b61a78a5b15f45cf67068f86d", func := "narrator/narratorlaw28.RegionsResults", spec := "regionsResults", inPlace := ["internal/bytealg.abigen_runtime_cmpstring"], unfollowed := true, recurses := true, apart := false }
def RegionsResultsSaid : Prop := regionsResultsRow.holds Try.pinned (OpenSpec.ofChange regionsResultsSpec)

/-- ITS FALSE NEIGHBOUR: 'it returns false'. Refute it at one input. -/
def regionsResultsWrong : ChangeSpec := { name := "regionsResults", fn := fun _ => fun
  | [d1, d2, d3, d4] => { results := [.lit (.bool false)], args := [d1, d2, d3, d4] }
  | _ => none }
def RegionsResultsWrongFalsely : Prop := regionsResultsRow.holds Try.pinned (OpenSpec.ofChange regionsResultsWrong)

/-- 'narratorlaw28.RegionsTree': WHATEVER THE INPUT: true; the input reads as it did. -/
def regionsTreeSpec : ChangeSpec := { name := "regionsTree", fn := fun _ => fun
  | [d] => { results := [.lit (.bool true)], args := [d] }
  | _ => none }
def regionsTreeRow : OpenClaim := { program := "ytgmodadgmnfhgaa", sum := "95064e785a81c8b16628c60181e10a6ee46d316b61a78a5b15f45cf67068f86d", func := "narrator/narratorlaw28.RegionsTree", spec := "regionsTree", inPlace := ["internal/bytealg.abigen_runtime_cmpstring"], unfollowed := true, recurses := true, apart := false }
def RegionsTreeSaid : Prop := regionsTreeRow.holds Try.pinned (OpenSpec.ofChange regionsTreeSpec)

/-- ITS FALSE NEIGHBOUR: 'it returns false'. Refute it at one input. -/
def regionsTreeWrong : ChangeSpec := { name := "regionsTree", fn := fun _ => fun
  | [d] => { results := [.lit (.bool false)], args := [d] }
  | _ => none }
def RegionsTreeWrongFalsely : Prop := regionsTreeRow.holds Try.pinned (OpenSpec.ofChange regionsTreeWrong)

/- THE SECOND FORM. 'bulk': how many values and letters a reading holds, each counted each time it is reached (what is shared counts as often as it is met; a slice's spare places count too). A statement '..UptoSaid' is the law's where the arguments, and the package variables that the reading takes, are together of bulk at most 1048576: NARROWER than '..Said'. Prove '..Said' where nothing that the law and all that it calls make is longer than what came in: it says more and counts as full. Else prove '..UptoSaid'. A law counts once. -/
mutual
def uptoBulk {H : Type} : DataW H → Nat
  | .lit (.string bytes) => bytes.length + 1
  | .lit _ => 1
  | .nil => 1
  | .ptr d => uptoBulk d + 1
  | .slice elems spare => uptoBulkAll elems + uptoBulkAll spare + 1
  | .agg parts => uptoBulkAll parts + 1
  | .iface _ d => uptoBulk d + 1
  | .map entries => uptoBulkEntries entries + 1
  | .held _ => 1
def uptoBulkAll {H : Type} : List (DataW H) → Nat
  | [] => 0
  | d :: r => uptoBulk d + uptoBulkAll r
def uptoBulkEntries {H : Type} : List (Lit × DataW H) → Nat
  | [] => 0
  | x :: r => uptoBulkEntry x + uptoBulkEntries r
def uptoBulkEntry {H : Type} : Lit × DataW H → Nat
  | (.string bytes, d) => bytes.length + uptoBulk d + 1
  | (_, d) => uptoBulk d + 1
 end
def uptoSmall : (H : Type) → List (DataW H) → Bool := fun _ ds => decide (uptoBulkAll ds ≤ 1048576)
def OpenSpec.upto (s : _root_.Go.ChangeSpec) : _root_.Go.OpenSpec := { _root_.Go.OpenSpec.ofChange s with cond := some uptoSmall }

/-- 'narratorlaw28.RegionsNest', WHERE WHAT IT READS IS OF BULK AT MOST 1048576: true; the input reads as it did. -/
def regionsNestUptoRow : OpenClaim := { program := "ytgmodadgmnfhgaa", sum := "95064e785a81c8b16628c60181e10a6ee46d316b61a78a5b15f45cf67068f86d", func := "narrator/narratorlaw28.RegionsNest", spec := "regionsNest", inPlace := ["internal/bytealg.abigen_runtime_cmpstring"], unfollowed := true, recurses := true, apart := false, narrowed := true }
def RegionsNestUptoSaid : Prop := regionsNestUptoRow.holds Try.pinned (OpenSpec.upto regionsNestSpec)

/-- 'narratorlaw28.RegionsStable', WHERE WHAT IT READS IS OF BULK AT MOST 1048576: true; the input reads as it did. -/
def regionsStableUptoRow : OpenClaim := { program := "ytgmodadgmnfhgaa", sum := "95064e785a81c8b16628c60181e10a6ee46d316b61a78a5b15f45cf67068f86d", func := "narrator/narratorlaw28.RegionsStable", spec := "regionsStable", inPlace := ["internal/bytealg.abigen_runtime_cmpstring"], unfollowed := true, recurses := true, apart := false, narrowed := true }
def RegionsStableUptoSaid : Prop := regionsStableUptoRow.holds Try.pinned (OpenSpec.upto regionsStableSpec)

/-- 'narratorlaw28.RegionsInnermost', WHERE WHAT IT READS IS OF BULK AT MOST 1048576: true; the input reads as it did. -/
def regionsInnermostUptoRow : OpenClaim := { program := "ytgmodadgmnfhgaa", sum := "95064e785a81c8b16628c60181e10a6ee46d316b61a78a5b15f45cf67068f86d", func := "narrator/narratorlaw28.RegionsInnermost", spec := "regionsInnermost", inPlace := ["internal/bytealg.abigen_runtime_cmpstring"], unfollowed := true, recurses := true, apart := false, narrowed := true }
def RegionsInnermostUptoSaid : Prop := regionsInnermostUptoRow.holds Try.pinned (OpenSpec.upto regionsInnermostSpec)

/-- 'narratorlaw28.RegionsResults', WHERE WHAT IT READS IS OF BULK AT MOST 1048576: true; the input reads as it did. -/
def regionsResultsUptoRow : OpenClaim := { program := "ytgmodadgmnfhgaa", sum := "95064e785a81c8b16628c60181e10a6ee46d316b61a78a5b15f45cf67068f86d", func := "narrator/narratorlaw28.RegionsResults", spec := "regionsResults", inPlace := ["internal/bytealg.abigen_runtime_cmpstring"], unfollowed := true, recurses := true, apart := false, narrowed := true }
def RegionsResultsUptoSaid : Prop := regionsResultsUptoRow.holds Try.pinned (OpenSpec.upto regionsResultsSpec)

/-- 'narratorlaw28.RegionsTree', WHERE WHAT IT READS IS OF BULK AT MOST 1048576: true; the input reads as it did. -/
def regionsTreeUptoRow : OpenClaim := { program := "ytgmodadgmnfhgaa", sum := "95064e785a81c8b16628c60181e10a6ee46d316b61a78a5b15f45cf67068f86d", func := "narrator/narratorlaw28.RegionsTree", spec := "regionsTree", inPlace := ["internal/bytealg.abigen_runtime_cmpstring"], unfollowed := true, recurses := true, apart := false, narrowed := true }
def RegionsTreeUptoSaid : Prop := regionsTreeUptoRow.holds Try.pinned (OpenSpec.upto regionsTreeSpec)

end Rows
end Go.Proofs.Ytgmodadgmnfhgaa
