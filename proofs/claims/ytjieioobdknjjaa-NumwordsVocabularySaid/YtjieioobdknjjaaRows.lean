/-
  No cell of these rows narrows 'for every input' (looked for: loops, veiled, ifaces, maps, wideKeys, modest, calm, conditions, laid).
  DERIVED. THE GIVEN ROWS OF THIS SEAT. 6 by the template 'for every input the law returns true; each argument reads behind the call as it read before'; 0 by the template 'total and deterministic' (their statements: YtjieioobdknjjaaTotals.lean).
  GIVEN WITH THE SEED: the statements are not yours to turn. If you find one false, say at which input.
  Laid BY PROGRAM, IN A SANDBOX (cutbox-rows.mjs): the forced cells as the released guide's own fill.sh prints them over the translation 36d6060b0afaece8… (all of the seat's roots in one cut). By AI agents, Wed Nov 11 2026. No macro, syntax, notation, axiom, sorry.
-/
import Derived.Test.YtjieioobdknjjaaChecked
import GoSem.Claim
import GoSem.ClaimJoined
import GoSem.ClaimMapViews
import Derived.JoinedTies
import Derived.KernelRfl
namespace Go.Proofs.Ytjieioobdknjjaa
/- THE CELL 'sum', in the pinned program and in every row, IS THE sha256 OF THE DUMP (.gsa) THAT YtjieioobdknjjaaProg.lean LOADS. Nothing in Lean hashes anything: it is a label: what it is worth is what the hold of that sum in a sandbox is worth. -/
noncomputable def Try.pinned : Pinned := { name := "ytjieioobdknjjaa", sum := "36d6060b0afaece85ae432eb5de5496cb1b7b3c0f967aa9ac443823cd5b5d8aa", checked := Try.checked }
namespace Rows
def none {H : Type} : Left H := { results := [], args := [] }

/-- 'narratorlaw38.NumwordsRoundTrip': WHATEVER THE INPUT: true; the input reads as it did. -/
def numwordsRoundTripSpec : ChangeSpec := { name := "numwordsRoundTrip", fn := fun _ => fun
  | [d] => { results := [.lit (.bool true)], args := [d] }
  | _ => none }
def numwordsRoundTripRow : OpenClaim := { program := "ytjieioobdknjjaa", sum := "36d6060b0afaece85ae432eb5de5496cb1b7b3c0f967aa9ac443823cd5b5d8aa", func := "narrator/narratorlaw38.NumwordsRoundTrip", spec := "numwordsRoundTrip", unfollowed := true, recurses := true, apart := false }
def NumwordsRoundTripSaid : Prop := numwordsRoundTripRow.holds Try.pinned (OpenSpec.ofChange numwordsRoundTripSpec)

/-- ITS FALSE NEIGHBOUR: 'it returns false'. Refute it at one input. -/
def numwordsRoundTripWrong : ChangeSpec := { name := "numwordsRoundTrip", fn := fun _ => fun
  | [d] => { results := [.lit (.bool false)], args := [d] }
  | _ => none }
def NumwordsRoundTripWrongFalsely : Prop := numwordsRoundTripRow.holds Try.pinned (OpenSpec.ofChange numwordsRoundTripWrong)

/-- 'narratorlaw38.NumwordsCanonical': WHATEVER THE INPUT: true; the input reads as it did. -/
def numwordsCanonicalSpec : ChangeSpec := { name := "numwordsCanonical", fn := fun _ => fun
  | [d] => { results := [.lit (.bool true)], args := [d] }
  | _ => none }
def numwordsCanonicalRow : OpenClaim := { program := "ytjieioobdknjjaa", sum := "36d6060b0afaece85ae432eb5de5496cb1b7b3c0f967aa9ac443823cd5b5d8aa", func := "narrator/narratorlaw38.NumwordsCanonical", spec := "numwordsCanonical", unfollowed := true, recurses := true, apart := false }
def NumwordsCanonicalSaid : Prop := numwordsCanonicalRow.holds Try.pinned (OpenSpec.ofChange numwordsCanonicalSpec)

/-- ITS FALSE NEIGHBOUR: 'it returns false'. Refute it at one input. -/
def numwordsCanonicalWrong : ChangeSpec := { name := "numwordsCanonical", fn := fun _ => fun
  | [d] => { results := [.lit (.bool false)], args := [d] }
  | _ => none }
def NumwordsCanonicalWrongFalsely : Prop := numwordsCanonicalRow.holds Try.pinned (OpenSpec.ofChange numwordsCanonicalWrong)

/-- 'narratorlaw38.NumwordsLongest': WHATEVER THE INPUT: true; the input reads as it did. -/
def numwordsLongestSpec : ChangeSpec := { name := "numwordsLongest", fn := fun _ => fun
  | [d] => { results := [.lit (.bool true)], args := [d] }
  | _ => none }
def numwordsLongestRow : OpenClaim := { program := "ytjieioobdknjjaa", sum := "36d6060b0afaece85ae432eb5de5496cb1b7b3c0f967aa9ac443823cd5b5d8aa", func := "narrator/narratorlaw38.NumwordsLongest", spec := "numwordsLongest", unfollowed := true, recurses := true, apart := false }
def NumwordsLongestSaid : Prop := numwordsLongestRow.holds Try.pinned (OpenSpec.ofChange numwordsLongestSpec)

/-- ITS FALSE NEIGHBOUR: 'it returns false'. Refute it at one input. -/
def numwordsLongestWrong : ChangeSpec := { name := "numwordsLongest", fn := fun _ => fun
  | [d] => { results := [.lit (.bool false)], args := [d] }
  | _ => none }
def NumwordsLongestWrongFalsely : Prop := numwordsLongestRow.holds Try.pinned (OpenSpec.ofChange numwordsLongestWrong)

/-- 'narratorlaw38.NumwordsGroups': WHATEVER THE INPUT: true; the input reads as it did. -/
def numwordsGroupsSpec : ChangeSpec := { name := "numwordsGroups", fn := fun _ => fun
  | [d1, d2, d3] => { results := [.lit (.bool true)], args := [d1, d2, d3] }
  | _ => none }
def numwordsGroupsRow : OpenClaim := { program := "ytjieioobdknjjaa", sum := "36d6060b0afaece85ae432eb5de5496cb1b7b3c0f967aa9ac443823cd5b5d8aa", func := "narrator/narratorlaw38.NumwordsGroups", spec := "numwordsGroups", unfollowed := true, recurses := true, apart := false }
def NumwordsGroupsSaid : Prop := numwordsGroupsRow.holds Try.pinned (OpenSpec.ofChange numwordsGroupsSpec)

/-- ITS FALSE NEIGHBOUR: 'it returns false'. Refute it at one input. -/
def numwordsGroupsWrong : ChangeSpec := { name := "numwordsGroups", fn := fun _ => fun
  | [d1, d2, d3] => { results := [.lit (.bool false)], args := [d1, d2, d3] }
  | _ => none }
def NumwordsGroupsWrongFalsely : Prop := numwordsGroupsRow.holds Try.pinned (OpenSpec.ofChange numwordsGroupsWrong)

/-- 'narratorlaw38.NumwordsMinus': WHATEVER THE INPUT: true; the input reads as it did. -/
def numwordsMinusSpec : ChangeSpec := { name := "numwordsMinus", fn := fun _ => fun
  | [d] => { results := [.lit (.bool true)], args := [d] }
  | _ => none }
def numwordsMinusRow : OpenClaim := { program := "ytjieioobdknjjaa", sum := "36d6060b0afaece85ae432eb5de5496cb1b7b3c0f967aa9ac443823cd5b5d8aa", func := "narrator/narratorlaw38.NumwordsMinus", spec := "numwordsMinus", unfollowed := true, recurses := true, apart := false }
def NumwordsMinusSaid : Prop := numwordsMinusRow.holds Try.pinned (OpenSpec.ofChange numwordsMinusSpec)

/-- ITS FALSE NEIGHBOUR: 'it returns false'. Refute it at one input. -/
def numwordsMinusWrong : ChangeSpec := { name := "numwordsMinus", fn := fun _ => fun
  | [d] => { results := [.lit (.bool false)], args := [d] }
  | _ => none }
def NumwordsMinusWrongFalsely : Prop := numwordsMinusRow.holds Try.pinned (OpenSpec.ofChange numwordsMinusWrong)

/-- 'narratorlaw38.NumwordsVocabulary': WHATEVER THE INPUT: true; the input reads as it did. -/
def numwordsVocabularySpec : ChangeSpec := { name := "numwordsVocabulary", fn := fun _ => fun
  | [d] => { results := [.lit (.bool true)], args := [d] }
  | _ => none }
def numwordsVocabularyRow : OpenClaim := { program := "ytjieioobdknjjaa", sum := "36d6060b0afaece85ae432eb5de5496cb1b7b3c0f967aa9ac443823cd5b5d8aa", func := "narrator/narratorlaw38.NumwordsVocabulary", spec := "numwordsVocabulary", unfollowed := true, recurses := true, apart := false }
def NumwordsVocabularySaid : Prop := numwordsVocabularyRow.holds Try.pinned (OpenSpec.ofChange numwordsVocabularySpec)

/-- ITS FALSE NEIGHBOUR: 'it returns false'. Refute it at one input. -/
def numwordsVocabularyWrong : ChangeSpec := { name := "numwordsVocabulary", fn := fun _ => fun
  | [d] => { results := [.lit (.bool false)], args := [d] }
  | _ => none }
def NumwordsVocabularyWrongFalsely : Prop := numwordsVocabularyRow.holds Try.pinned (OpenSpec.ofChange numwordsVocabularyWrong)

/- THE SECOND FORM. 'bulk': how many values and letters a reading holds, each counted each time it is reached (what is shared counts as often as it is met; a slice's spare places count too). A statement '..UptoSaid' is the law's where the arguments, and the package variables that the reading takes, are together of bulk at most 1048576: NARROWER than '..Said'. Prove '..Said' where nothing that the law and all that it calls make is longer than what came in: it says more and counts as full. Else prove '..UptoSaid'. A law counts once. -/
mutual
def uptoBulk {H : Type} : DataW H → Nat
  | .lit (.string bytes) => bytes.length + 1
  | .lit _ => 1
  | .nil => 1
  | .ptr d => uptoBulk d + 1
  | .slice elems spare => uptoBulkAll elems + uptoBulkAll spare + 1
  | .agg parts => uptoBulkAll parts + 1
  | .iface _ d => uptoBulk d + 1
  | .map entries => uptoBulkEntries entries + 1
  | .held _ => 1
def uptoBulkAll {H : Type} : List (DataW H) → Nat
  | [] => 0
  | d :: r => uptoBulk d + uptoBulkAll r
def uptoBulkEntries {H : Type} : List (Lit × DataW H) → Nat
  | [] => 0
  | x :: r => uptoBulkEntry x + uptoBulkEntries r
def uptoBulkEntry {H : Type} : Lit × DataW H → Nat
  | (.string bytes, d) => bytes.length + uptoBulk d + 1
  | (_, d) => uptoBulk d + 1
 end
def uptoSmall : (H : Type) → List (DataW H) → Bool := fun _ ds => decide (uptoBulkAll ds ≤ 1048576)
def OpenSpec.upto (s : _root_.Go.ChangeSpec) : _root_.Go.OpenSpec := { _root_.Go.OpenSpec.ofChange s with cond := some uptoSmall }

/-- 'narratorlaw38.NumwordsRoundTrip', WHERE WHAT IT READS IS OF BULK AT MOST 1048576: true; the input reads as it did. -/
def numwordsRoundTripUptoRow : OpenClaim := { program := "ytjieioobdknjjaa", sum := "36d6060b0afaece85ae432eb5de5496cb1b7b3c0f967aa9ac443823cd5b5d8aa", func := "narrator/narratorlaw38.NumwordsRoundTrip", spec := "numwordsRoundTrip", unfollowed := true, recurses := true, apart := false, narrowed := true }
def NumwordsRoundTripUptoSaid : Prop := numwordsRoundTripUptoRow.holds Try.pinned (OpenSpec.upto numwordsRoundTripSpec)

/-- 'narratorlaw38.NumwordsCanonical', WHERE WHAT IT READS IS OF BULK AT MOST 1048576: true; the input reads as it did. -/
def numwordsCanonicalUptoRow : OpenClaim := { program := "ytjieioobdknjjaa", sum := "36d6060b0afaece85ae432eb5de5496cb1b7b3c0f967aa9ac443823cd5b5d8aa", func := "narrator/narratorlaw38.NumwordsCanonical", spec := "numwordsCanonical", unfollowed := true, recurses := true, apart := false, narrowed := true }
def NumwordsCanonicalUptoSaid : Prop := numwordsCanonicalUptoRow.holds Try.pinned (OpenSpec.upto numwordsCanonicalSpec)

/-- 'narratorlaw38.NumwordsLongest', WHERE WHAT IT READS IS OF BULK AT MOST 1048576: true; the input reads as it did. -/
def numwordsLongestUptoRow : OpenClaim := { program := "ytjieioobdknjjaa", sum := "36d6060b0afaece85ae432eb5de5496cb1b7b3c0f967aa9ac443823cd5b5d8aa", func := "narrator/narratorlaw38.NumwordsLongest", spec := "numwordsLongest", unfollowed := true, recurses := true, apart := false, narrowed := true }
def NumwordsLongestUptoSaid : Prop := numwordsLongestUptoRow.holds Try.pinned (OpenSpec.upto numwordsLongestSpec)

/-- 'narratorlaw38.NumwordsGroups', WHERE WHAT IT READS IS OF BULK AT MOST 1048576: true; the input reads as it did. -/
def numwordsGroupsUptoRow : OpenClaim := { program := "ytjieioobdknjjaa", sum := "36d6060b0afaece85ae432eb5de5496cb1b7b3c0f967aa9ac443823cd5b5d8aa", func := "narrator/narratorlaw38.NumwordsGroups", spec := "numwordsGroups", unfollowed := true, recurses := true, apart := false, narrowed := true }
def NumwordsGroupsUptoSaid : Prop := numwordsGroupsUptoRow.holds Try.pinned (OpenSpec.upto numwordsGroupsSpec)

/-- 'narratorlaw38.NumwordsMinus', WHERE WHAT IT READS IS OF BULK AT MOST 1048576: true; the input reads as it did. -/
def numwordsMinusUptoRow : OpenClaim := { program := "ytjieioobdknjjaa", sum := "36d6060b0afaece85ae432eb5de5496cb1b7b3c0f967aa9ac443823cd5b5d8aa", func := "narrator/narratorlaw38.NumwordsMinus", spec := "numwordsMinus", unfollowed := true, recurses := true, apart := false, narrowed := true }
def NumwordsMinusUptoSaid : Prop := numwordsMinusUptoRow.holds Try.pinned (OpenSpec.upto numwordsMinusSpec)

/-- 'narratorlaw38.NumwordsVocabulary', WHERE WHAT IT READS IS OF BULK AT MOST 1048576: true; the input reads as it did. -/
def numwordsVocabularyUptoRow : OpenClaim := { program := "ytjieioobdknjjaa", sum := "36d6060b0afaece85ae432eb5de5496cb1b7b3c0f967aa9ac443823cd5b5d8aa", func := "narrator/narratorlaw38.NumwordsVocabulary", spec := "numwordsVocabulary", unfollowed := true, recurses := true, apart := false, narrowed := true }
def NumwordsVocabularyUptoSaid : Prop := numwordsVocabularyUptoRow.holds Try.pinned (OpenSpec.upto numwordsVocabularySpec)

end Rows
end Go.Proofs.Ytjieioobdknjjaa
