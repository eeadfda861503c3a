/-
  NARROWER THAN 'FOR EVERY INPUT', by the rows' own cells (each row's printed sentence says how): NumwordsWords: laid · NumwordsNumber: laid.
  DERIVED. THE GIVEN ROWS OF THIS SEAT. 2 by the template 'for every input the law returns true; each argument reads behind the call as it read before'; 0 by the template 'total and deterministic' (their statements: YtjieioobdknjjaaDoorTotals.lean).
  GIVEN WITH THE SEED: the statements are not yours to turn. If you find one false, say at which input.
  Laid BY PROGRAM, IN A SANDBOX (cutbox-rows.mjs): the forced cells as the released guide's own fill.sh prints them over the translation 2e3afcc06721747f… (all of the seat's roots in one cut). By AI agents, Wed Nov 11 2026. No macro, syntax, notation, axiom, sorry.
-/
import Derived.Test.YtjieioobdknjjaaDoorChecked
import GoSem.Claim
import GoSem.ClaimJoined
import GoSem.ClaimMapViews
import Derived.JoinedTies
import Derived.KernelRfl
namespace Go.Proofs.YtjieioobdknjjaaDoor
/- THE CELL 'sum', in the pinned program and in every row, IS THE sha256 OF THE DUMP (.gsa) THAT YtjieioobdknjjaaDoorProg.lean LOADS. Nothing in Lean hashes anything: it is a label: what it is worth is what the hold of that sum in a sandbox is worth. -/
noncomputable def Tryd.pinned : Pinned := { name := "ytjieioobdknjjaadoor", sum := "2e3afcc06721747f1fcda431be3366fa3645ccb0617356cfe4480fd6077980f9", checked := Tryd.checked }
namespace Rows
def none {H : Type} : Left H := { results := [], args := [] }

/- WHAT THE LISTED PACKAGE-LEVEL VARIABLES READ AS WHEN THE CALL BEGINS. Each datum BY PROGRAM (the guide's laid-datum.mjs) off the statement by which the dump's own 'gosem.cut.vars' lays the variable. In a bare row this is a premise. The card (YtjieioobdknjjaaDoorCards.lean) ties it to the program's text. -/
def laid_narrator_narratorref38_units {H : Type} : DataW H := .agg [.lit (.string [122, 101, 114, 111]), .lit (.string [111, 110, 101]), .lit (.string [116, 119, 111]), .lit (.string [116, 104, 114, 101, 101]), .lit (.string [102, 111, 117, 114]), .lit (.string [102, 105, 118, 101]), .lit (.string [115, 105, 120]), .lit (.string [115, 101, 118, 101, 110]), .lit (.string [101, 105, 103, 104, 116]), .lit (.string [110, 105, 110, 101]), .lit (.string [116, 101, 110]), .lit (.string [101, 108, 101, 118, 101, 110]), .lit (.string [116, 119, 101, 108, 118, 101]), .lit (.string [116, 104, 105, 114, 116, 101, 101, 110]), .lit (.string [102, 111, 117, 114, 116, 101, 101, 110]), .lit (.string [102, 105, 102, 116, 101, 101, 110]), .lit (.string [115, 105, 120, 116, 101, 101, 110]), .lit (.string [115, 101, 118, 101, 110, 116, 101, 101, 110]), .lit (.string [101, 105, 103, 104, 116, 101, 101, 110]), .lit (.string [110, 105, 110, 101, 116, 101, 101, 110])]
def laid_narrator_narratorref38_tens {H : Type} : DataW H := .agg [.lit (.string [116, 119, 101, 110, 116, 121]), .lit (.string [116, 104, 105, 114, 116, 121]), .lit (.string [102, 111, 114, 116, 121]), .lit (.string [102, 105, 102, 116, 121]), .lit (.string [115, 105, 120, 116, 121]), .lit (.string [115, 101, 118, 101, 110, 116, 121]), .lit (.string [101, 105, 103, 104, 116, 121]), .lit (.string [110, 105, 110, 101, 116, 121])]

/-- 'narratorlaw38.NumwordsWords': WHATEVER THE INPUT: true; the input reads as it did. -/
def numwordsWordsSpec : ChangeSpec := { name := "numwordsWords", fn := fun _ => fun
  | [d] => { results := [.lit (.bool true)], args := [d] }
  | _ => none }
def numwordsWordsRow : OpenClaim := { program := "ytjieioobdknjjaadoor", sum := "2e3afcc06721747f1fcda431be3366fa3645ccb0617356cfe4480fd6077980f9", func := "narrator/narratorlaw38.NumwordsWords", spec := "numwordsWords", unfollowed := true, recurses := true, named := ["narrator/narratorref38.units", "narrator/narratorref38.tens"], apart := false, laid := [("narrator/narratorref38.units", laid_narrator_narratorref38_units), ("narrator/narratorref38.tens", laid_narrator_narratorref38_tens)] }
def NumwordsWordsSaid : Prop := numwordsWordsRow.holds Tryd.pinned (OpenSpec.ofChange numwordsWordsSpec)

/-- ITS FALSE NEIGHBOUR: 'it returns false'. Refute it at one input. -/
def numwordsWordsWrong : ChangeSpec := { name := "numwordsWords", fn := fun _ => fun
  | [d] => { results := [.lit (.bool false)], args := [d] }
  | _ => none }
def NumwordsWordsWrongFalsely : Prop := numwordsWordsRow.holds Tryd.pinned (OpenSpec.ofChange numwordsWordsWrong)

/-- 'narratorlaw38.NumwordsNumber': WHATEVER THE INPUT: true; the input reads as it did. -/
def numwordsNumberSpec : ChangeSpec := { name := "numwordsNumber", fn := fun _ => fun
  | [d] => { results := [.lit (.bool true)], args := [d] }
  | _ => none }
def numwordsNumberRow : OpenClaim := { program := "ytjieioobdknjjaadoor", sum := "2e3afcc06721747f1fcda431be3366fa3645ccb0617356cfe4480fd6077980f9", func := "narrator/narratorlaw38.NumwordsNumber", spec := "numwordsNumber", unfollowed := true, recurses := true, named := ["narrator/narratorref38.units", "narrator/narratorref38.tens"], apart := false, laid := [("narrator/narratorref38.units", laid_narrator_narratorref38_units), ("narrator/narratorref38.tens", laid_narrator_narratorref38_tens)] }
def NumwordsNumberSaid : Prop := numwordsNumberRow.holds Tryd.pinned (OpenSpec.ofChange numwordsNumberSpec)

/-- ITS FALSE NEIGHBOUR: 'it returns false'. Refute it at one input. -/
def numwordsNumberWrong : ChangeSpec := { name := "numwordsNumber", fn := fun _ => fun
  | [d] => { results := [.lit (.bool false)], args := [d] }
  | _ => none }
def NumwordsNumberWrongFalsely : Prop := numwordsNumberRow.holds Tryd.pinned (OpenSpec.ofChange numwordsNumberWrong)

/- THE SECOND FORM. 'bulk': how many values and letters a reading holds, each counted each time it is reached (what is shared counts as often as it is met; a slice's spare places count too). A statement '..UptoSaid' is the law's where the arguments, and the package variables that the reading takes, are together of bulk at most 1048576: NARROWER than '..Said'. Prove '..Said' where nothing that the law and all that it calls make is longer than what came in: it says more and counts as full. Else prove '..UptoSaid'. A law counts once. -/
mutual
def uptoBulk {H : Type} : DataW H → Nat
  | .lit (.string bytes) => bytes.length + 1
  | .lit _ => 1
  | .nil => 1
  | .ptr d => uptoBulk d + 1
  | .slice elems spare => uptoBulkAll elems + uptoBulkAll spare + 1
  | .agg parts => uptoBulkAll parts + 1
  | .iface _ d => uptoBulk d + 1
  | .map entries => uptoBulkEntries entries + 1
  | .held _ => 1
def uptoBulkAll {H : Type} : List (DataW H) → Nat
  | [] => 0
  | d :: r => uptoBulk d + uptoBulkAll r
def uptoBulkEntries {H : Type} : List (Lit × DataW H) → Nat
  | [] => 0
  | x :: r => uptoBulkEntry x + uptoBulkEntries r
def uptoBulkEntry {H : Type} : Lit × DataW H → Nat
  | (.string bytes, d) => bytes.length + uptoBulk d + 1
  | (_, d) => uptoBulk d + 1
 end
def uptoSmall : (H : Type) → List (DataW H) → Bool := fun _ ds => decide (uptoBulkAll ds ≤ 1048576)
def OpenSpec.upto (s : _root_.Go.ChangeSpec) : _root_.Go.OpenSpec := { _root_.Go.OpenSpec.ofChange s with cond := some uptoSmall }

/-- 'narratorlaw38.NumwordsWords', WHERE WHAT IT READS IS OF BULK AT MOST 1048576: true; the input reads as it did. -/
def numwordsWordsUptoRow : OpenClaim := { program := "ytjieioobdknjjaadoor", sum := "2e3afcc06721747f1fcda431be3366fa3645ccb0617356cfe4480fd6077980f9", func := "narrator/narratorlaw38.NumwordsWords", spec := "numwordsWords", unfollowed := true, recurses := true, named := ["narrator/narratorref38.units", "narrator/narratorref38.tens"], apart := false, laid := [("narrator/narratorref38.units", laid_narrator_narratorref38_units), ("narrator/narratorref38.tens", laid_narrator_narratorref38_tens)], narrowed := true }
def NumwordsWordsUptoSaid : Prop := numwordsWordsUptoRow.holds Tryd.pinned (OpenSpec.upto numwordsWordsSpec)

/-- 'narratorlaw38.NumwordsNumber', WHERE WHAT IT READS IS OF BULK AT MOST 1048576: true; the input reads as it did. -/
def numwordsNumberUptoRow : OpenClaim := { program := "ytjieioobdknjjaadoor", sum := "2e3afcc06721747f1fcda431be3366fa3645ccb0617356cfe4480fd6077980f9", func := "narrator/narratorlaw38.NumwordsNumber", spec := "numwordsNumber", unfollowed := true, recurses := true, named := ["narrator/narratorref38.units", "narrator/narratorref38.tens"], apart := false, laid := [("narrator/narratorref38.units", laid_narrator_narratorref38_units), ("narrator/narratorref38.tens", laid_narrator_narratorref38_tens)], narrowed := true }
def NumwordsNumberUptoSaid : Prop := numwordsNumberUptoRow.holds Tryd.pinned (OpenSpec.upto numwordsNumberSpec)

end Rows
end Go.Proofs.YtjieioobdknjjaaDoor
