/-
  NARROWER THAN 'FOR EVERY INPUT', by the rows' own cells (each row's printed sentence says how): SignnamesSpell: laid · SignnamesUnspell: laid · SignnamesRoundTrip: laid · SignnamesCanonical: laid · SignnamesSequence: laid · SignnamesNames: laid · SignnamesDistinct: laid · SignnamesSigns: laid.
  DERIVED. THE GIVEN ROWS OF THIS SEAT. 8 by the template 'for every input the law returns true; each argument reads behind the call as it read before'; 0 by the template 'total and deterministic' (their statements: YtoiballfjbdoiaaDoorTotals.lean).
  GIVEN WITH THE SEED: the statements are not yours to turn. If you find one false, say at which input.
  Laid BY PROGRAM, IN A SANDBOX (cutbox-rows.mjs): the forced cells as the released guide's own fill.sh prints them over the translation ea750d7d6e7100c9… (all of the seat's roots in one cut). By AI agents, Wed Nov 11 2026. No macro, syntax, notation, axiom, sorry.
-/
import Derived.Test.YtoiballfjbdoiaaDoorChecked
import GoSem.Claim
import GoSem.ClaimJoined
import GoSem.ClaimMapViews
import Derived.JoinedTies
import Derived.KernelRfl
namespace Go.Proofs.YtoiballfjbdoiaaDoor
/- THE CELL 'sum', in the pinned program and in every row, IS THE sha256 OF THE DUMP (.gsa) THAT YtoiballfjbdoiaaDoorProg.lean LOADS. Nothing in Lean hashes anything: it is a label: what it is worth is what the hold of that sum in a sandbox is worth. -/
noncomputable def Tryd.pinned : Pinned := { name := "ytoiballfjbdoiaadoor", sum := "ea750d7d6e7100c9cad70bdd3ec4abdfc8697db43015e6026a557d12f82a598a", checked := Tryd.checked }
namespace Rows
def none {H : Type} : Left H := { results := [], args := [] }

/- WHAT THE LISTED PACKAGE-LEVEL VARIABLES READ AS WHEN THE CALL BEGINS. Each datum BY PROGRAM (the guide's laid-datum.mjs) off the statement by which the dump's own 'gosem.cut.vars' lays the variable. In a bare row this is a premise. The card (YtoiballfjbdoiaaDoorCards.lean) ties it to the program's text. -/
def laid_narrator_narratorref38_units {H : Type} : DataW H := .agg [.lit (.string [122, 101, 114, 111]), .lit (.string [111, 110, 101]), .lit (.string [116, 119, 111]), .lit (.string [116, 104, 114, 101, 101]), .lit (.string [102, 111, 117, 114]), .lit (.string [102, 105, 118, 101]), .lit (.string [115, 105, 120]), .lit (.string [115, 101, 118, 101, 110]), .lit (.string [101, 105, 103, 104, 116]), .lit (.string [110, 105, 110, 101]), .lit (.string [116, 101, 110]), .lit (.string [101, 108, 101, 118, 101, 110]), .lit (.string [116, 119, 101, 108, 118, 101]), .lit (.string [116, 104, 105, 114, 116, 101, 101, 110]), .lit (.string [102, 111, 117, 114, 116, 101, 101, 110]), .lit (.string [102, 105, 102, 116, 101, 101, 110]), .lit (.string [115, 105, 120, 116, 101, 101, 110]), .lit (.string [115, 101, 118, 101, 110, 116, 101, 101, 110]), .lit (.string [101, 105, 103, 104, 116, 101, 101, 110]), .lit (.string [110, 105, 110, 101, 116, 101, 101, 110])]
def laid_narrator_narratorref38_tens {H : Type} : DataW H := .agg [.lit (.string [116, 119, 101, 110, 116, 121]), .lit (.string [116, 104, 105, 114, 116, 121]), .lit (.string [102, 111, 114, 116, 121]), .lit (.string [102, 105, 102, 116, 121]), .lit (.string [115, 105, 120, 116, 121]), .lit (.string [115, 101, 118, 101, 110, 116, 121]), .lit (.string [101, 105, 103, 104, 116, 121]), .lit (.string [110, 105, 110, 101, 116, 121])]
def laid_unicode_White_Space {H : Type} : DataW H := .ptr (.agg [.slice [.agg [.lit (.int .u16 9), .lit (.int .u16 13), .lit (.int .u16 1)], .agg [.lit (.int .u16 32), .lit (.int .u16 133), .lit (.int .u16 101)], .agg [.lit (.int .u16 160), .lit (.int .u16 5760), .lit (.int .u16 5600)], .agg [.lit (.int .u16 8192), .lit (.int .u16 8202), .lit (.int .u16 1)], .agg [.lit (.int .u16 8232), .lit (.int .u16 8233), .lit (.int .u16 1)], .agg [.lit (.int .u16 8239), .lit (.int .u16 8287), .lit (.int .u16 48)], .agg [.lit (.int .u16 12288), .lit (.int .u16 12288), .lit (.int .u16 1)]] [], .nil, .lit (.int .i64 2)])
def laid_strings_asciiSpace {H : Type} : DataW H := .agg [.lit (.int .u8 0), .lit (.int .u8 0), .lit (.int .u8 0), .lit (.int .u8 0), .lit (.int .u8 0), .lit (.int .u8 0), .lit (.int .u8 0), .lit (.int .u8 0), .lit (.int .u8 0), .lit (.int .u8 1), .lit (.int .u8 1), .lit (.int .u8 1), .lit (.int .u8 1), .lit (.int .u8 1), .lit (.int .u8 0), .lit (.int .u8 0), .lit (.int .u8 0), .lit (.int .u8 0), .lit (.int .u8 0), .lit (.int .u8 0), .lit (.int .u8 0), .lit (.int .u8 0), .lit (.int .u8 0), .lit (.int .u8 0), .lit (.int .u8 0), .lit (.int .u8 0), .lit (.int .u8 0), .lit (.int .u8 0), .lit (.int .u8 0), .lit (.int .u8 0), .lit (.int .u8 0), .lit (.int .u8 0), .lit (.int .u8 1), .lit (.int .u8 0), .lit (.int .u8 0), .lit (.int .u8 0), .lit (.int .u8 0), .lit (.int .u8 0), .lit (.int .u8 0), .lit (.int .u8 0), .lit (.int .u8 0), .lit (.int .u8 0), .lit (.int .u8 0), .lit (.int .u8 0), .lit (.int .u8 0), .lit (.int .u8 0), .lit (.int .u8 0), .lit (.int .u8 0), .lit (.int .u8 0), .lit (.int .u8 0), .lit (.int .u8 0), .lit (.int .u8 0), .lit (.int .u8 0), .lit (.int .u8 0), .lit (.int .u8 0), .lit (.int .u8 0), .lit (.int .u8 0), .lit (.int .u8 0), .lit (.int .u8 0), .lit (.int .u8 0), .lit (.int .u8 0), .lit (.int .u8 0), .lit (.int .u8 0), .lit (.int .u8 0), .lit (.int .u8 0), .lit (.int .u8 0), .lit (.int .u8 0), .lit (.int .u8 0), .lit (.int .u8 0), .lit (.int .u8 0), .lit (.int .u8 0), .lit (.int .u8 0), .lit (.int .u8 0), .lit (.int .u8 0), .lit (.int .u8 0), .lit (.int .u8 0), .lit (.int .u8 0), .lit (.int .u8 0), .lit (.int .u8 0), .lit (.int .u8 0), .lit (.int .u8 0), .lit (.int .u8 0), .lit (.int .u8 0), .lit (.int .u8 0), .lit (.int .u8 0), .lit (.int .u8 0), .lit (.int .u8 0), .lit (.int .u8 0), .lit (.int .u8 0), .lit (.int .u8 0), .lit (.int .u8 0), .lit (.int .u8 0), .lit (.int .u8 0), .lit (.int .u8 0), .lit (.int .u8 0), .lit (.int .u8 0), .lit (.int .u8 0), .lit (.int .u8 0), .lit (.int .u8 0), .lit (.int .u8 0), .lit (.int .u8 0), .lit (.int .u8 0), .lit (.int .u8 0), .lit (.int .u8 0), .lit (.int .u8 0), .lit (.int .u8 0), .lit (.int .u8 0), .lit (.int .u8 0), .lit (.int .u8 0), .lit (.int .u8 0), .lit (.int .u8 0), .lit (.int .u8 0), .lit (.int .u8 0), .lit (.int .u8 0), .lit (.int .u8 0), .lit (.int .u8 0), .lit (.int .u8 0), .lit (.int .u8 0), .lit (.int .u8 0), .lit (.int .u8 0), .lit (.int .u8 0), .lit (.int .u8 0), .lit (.int .u8 0), .lit (.int .u8 0), .lit (.int .u8 0), .lit (.int .u8 0), .lit (.int .u8 0), .lit (.int .u8 0), .lit (.int .u8 0), .lit (.int .u8 0), .lit (.int .u8 0), .lit (.int .u8 0), .lit (.int .u8 0), .lit (.int .u8 0), .lit (.int .u8 0), .lit (.int .u8 0), .lit (.int .u8 0), .lit (.int .u8 0), .lit (.int .u8 0), .lit (.int .u8 0), .lit (.int .u8 0), .lit (.int .u8 0), .lit (.int .u8 0), .lit (.int .u8 0), .lit (.int .u8 0), .lit (.int .u8 0), .lit (.int .u8 0), .lit (.int .u8 0), .lit (.int .u8 0), .lit (.int .u8 0), .lit (.int .u8 0), .lit (.int .u8 0), .lit (.int .u8 0), .lit (.int .u8 0), .lit (.int .u8 0), .lit (.int .u8 0), .lit (.int .u8 0), .lit (.int .u8 0), .lit (.int .u8 0), .lit (.int .u8 0), .lit (.int .u8 0), .lit (.int .u8 0), .lit (.int .u8 0), .lit (.int .u8 0), .lit (.int .u8 0), .lit (.int .u8 0), .lit (.int .u8 0), .lit (.int .u8 0), .lit (.int .u8 0), .lit (.int .u8 0), .lit (.int .u8 0), .lit (.int .u8 0), .lit (.int .u8 0), .lit (.int .u8 0), .lit (.int .u8 0), .lit (.int .u8 0), .lit (.int .u8 0), .lit (.int .u8 0), .lit (.int .u8 0), .lit (.int .u8 0), .lit (.int .u8 0), .lit (.int .u8 0), .lit (.int .u8 0), .lit (.int .u8 0), .lit (.int .u8 0), .lit (.int .u8 0), .lit (.int .u8 0), .lit (.int .u8 0), .lit (.int .u8 0), .lit (.int .u8 0), .lit (.int .u8 0), .lit (.int .u8 0), .lit (.int .u8 0), .lit (.int .u8 0), .lit (.int .u8 0), .lit (.int .u8 0), .lit (.int .u8 0), .lit (.int .u8 0), .lit (.int .u8 0), .lit (.int .u8 0), .lit (.int .u8 0), .lit (.int .u8 0), .lit (.int .u8 0), .lit (.int .u8 0), .lit (.int .u8 0), .lit (.int .u8 0), .lit (.int .u8 0), .lit (.int .u8 0), .lit (.int .u8 0), .lit (.int .u8 0), .lit (.int .u8 0), .lit (.int .u8 0), .lit (.int .u8 0), .lit (.int .u8 0), .lit (.int .u8 0), .lit (.int .u8 0), .lit (.int .u8 0), .lit (.int .u8 0), .lit (.int .u8 0), .lit (.int .u8 0), .lit (.int .u8 0), .lit (.int .u8 0), .lit (.int .u8 0), .lit (.int .u8 0), .lit (.int .u8 0), .lit (.int .u8 0), .lit (.int .u8 0), .lit (.int .u8 0), .lit (.int .u8 0), .lit (.int .u8 0), .lit (.int .u8 0), .lit (.int .u8 0), .lit (.int .u8 0), .lit (.int .u8 0), .lit (.int .u8 0), .lit (.int .u8 0), .lit (.int .u8 0), .lit (.int .u8 0), .lit (.int .u8 0), .lit (.int .u8 0), .lit (.int .u8 0), .lit (.int .u8 0), .lit (.int .u8 0), .lit (.int .u8 0), .lit (.int .u8 0), .lit (.int .u8 0), .lit (.int .u8 0), .lit (.int .u8 0), .lit (.int .u8 0), .lit (.int .u8 0), .lit (.int .u8 0), .lit (.int .u8 0), .lit (.int .u8 0), .lit (.int .u8 0), .lit (.int .u8 0), .lit (.int .u8 0)]

/-- 'narratorlaw39.SignnamesSpell': WHATEVER THE INPUT: true; the input reads as it did. -/
def signnamesSpellSpec : ChangeSpec := { name := "signnamesSpell", fn := fun _ => fun
  | [d] => { results := [.lit (.bool true)], args := [d] }
  | _ => none }
def signnamesSpellRow : OpenClaim := { program := "ytoiballfjbdoiaadoor", sum := "ea750d7d6e7100c9cad70bdd3ec4abdfc8697db43015e6026a557d12f82a598a", func := "narrator/narratorlaw39.SignnamesSpell", spec := "signnamesSpell", inPlace := ["internal/bytealg.IndexByteString"], unfollowed := true, recurses := true, named := ["strings.asciiSpace", "unicode.White_Space", "narrator/narratorref38.units", "narrator/narratorref38.tens"], apart := false, laid := [("narrator/narratorref38.units", laid_narrator_narratorref38_units), ("narrator/narratorref38.tens", laid_narrator_narratorref38_tens), ("unicode.White_Space", laid_unicode_White_Space), ("strings.asciiSpace", laid_strings_asciiSpace)] }
def SignnamesSpellSaid : Prop := signnamesSpellRow.holds Tryd.pinned (OpenSpec.ofChange signnamesSpellSpec)

/-- ITS FALSE NEIGHBOUR: 'it returns false'. Refute it at one input. -/
def signnamesSpellWrong : ChangeSpec := { name := "signnamesSpell", fn := fun _ => fun
  | [d] => { results := [.lit (.bool false)], args := [d] }
  | _ => none }
def SignnamesSpellWrongFalsely : Prop := signnamesSpellRow.holds Tryd.pinned (OpenSpec.ofChange signnamesSpellWrong)

/-- 'narratorlaw39.SignnamesUnspell': WHATEVER THE INPUT: true; the input reads as it did. -/
def signnamesUnspellSpec : ChangeSpec := { name := "signnamesUnspell", fn := fun _ => fun
  | [d] => { results := [.lit (.bool true)], args := [d] }
  | _ => none }
def signnamesUnspellRow : OpenClaim := { program := "ytoiballfjbdoiaadoor", sum := "ea750d7d6e7100c9cad70bdd3ec4abdfc8697db43015e6026a557d12f82a598a", func := "narrator/narratorlaw39.SignnamesUnspell", spec := "signnamesUnspell", inPlace := ["internal/bytealg.IndexByteString"], unfollowed := true, recurses := true, named := ["strings.asciiSpace", "unicode.White_Space", "narrator/narratorref38.units", "narrator/narratorref38.tens"], apart := false, laid := [("narrator/narratorref38.units", laid_narrator_narratorref38_units), ("narrator/narratorref38.tens", laid_narrator_narratorref38_tens), ("unicode.White_Space", laid_unicode_White_Space), ("strings.asciiSpace", laid_strings_asciiSpace)] }
def SignnamesUnspellSaid : Prop := signnamesUnspellRow.holds Tryd.pinned (OpenSpec.ofChange signnamesUnspellSpec)

/-- ITS FALSE NEIGHBOUR: 'it returns false'. Refute it at one input. -/
def signnamesUnspellWrong : ChangeSpec := { name := "signnamesUnspell", fn := fun _ => fun
  | [d] => { results := [.lit (.bool false)], args := [d] }
  | _ => none }
def SignnamesUnspellWrongFalsely : Prop := signnamesUnspellRow.holds Tryd.pinned (OpenSpec.ofChange signnamesUnspellWrong)

/-- 'narratorlaw39.SignnamesRoundTrip': WHATEVER THE INPUT: true; the input reads as it did. -/
def signnamesRoundTripSpec : ChangeSpec := { name := "signnamesRoundTrip", fn := fun _ => fun
  | [d1, d2] => { results := [.lit (.bool true)], args := [d1, d2] }
  | _ => none }
def signnamesRoundTripRow : OpenClaim := { program := "ytoiballfjbdoiaadoor", sum := "ea750d7d6e7100c9cad70bdd3ec4abdfc8697db43015e6026a557d12f82a598a", func := "narrator/narratorlaw39.SignnamesRoundTrip", spec := "signnamesRoundTrip", inPlace := ["internal/bytealg.IndexByteString"], unfollowed := true, recurses := true, named := ["strings.asciiSpace", "unicode.White_Space"], apart := false, laid := [("unicode.White_Space", laid_unicode_White_Space), ("strings.asciiSpace", laid_strings_asciiSpace)] }
def SignnamesRoundTripSaid : Prop := signnamesRoundTripRow.holds Tryd.pinned (OpenSpec.ofChange signnamesRoundTripSpec)

/-- ITS FALSE NEIGHBOUR: 'it returns false'. Refute it at one input. -/
def signnamesRoundTripWrong : ChangeSpec := { name := "signnamesRoundTrip", fn := fun _ => fun
  | [d1, d2] => { results := [.lit (.bool false)], args := [d1, d2] }
  | _ => none }
def SignnamesRoundTripWrongFalsely : Prop := signnamesRoundTripRow.holds Tryd.pinned (OpenSpec.ofChange signnamesRoundTripWrong)

/-- 'narratorlaw39.SignnamesCanonical': WHATEVER THE INPUT: true; the input reads as it did. -/
def signnamesCanonicalSpec : ChangeSpec := { name := "signnamesCanonical", fn := fun _ => fun
  | [d] => { results := [.lit (.bool true)], args := [d] }
  | _ => none }
def signnamesCanonicalRow : OpenClaim := { program := "ytoiballfjbdoiaadoor", sum := "ea750d7d6e7100c9cad70bdd3ec4abdfc8697db43015e6026a557d12f82a598a", func := "narrator/narratorlaw39.SignnamesCanonical", spec := "signnamesCanonical", inPlace := ["internal/bytealg.IndexByteString"], unfollowed := true, recurses := true, named := ["strings.asciiSpace", "unicode.White_Space"], apart := false, laid := [("unicode.White_Space", laid_unicode_White_Space), ("strings.asciiSpace", laid_strings_asciiSpace)] }
def SignnamesCanonicalSaid : Prop := signnamesCanonicalRow.holds Tryd.pinned (OpenSpec.ofChange signnamesCanonicalSpec)

/-- ITS FALSE NEIGHBOUR: 'it returns false'. Refute it at one input. -/
def signnamesCanonicalWrong : ChangeSpec := { name := "signnamesCanonical", fn := fun _ => fun
  | [d] => { results := [.lit (.bool false)], args := [d] }
  | _ => none }
def SignnamesCanonicalWrongFalsely : Prop := signnamesCanonicalRow.holds Tryd.pinned (OpenSpec.ofChange signnamesCanonicalWrong)

/-- 'narratorlaw39.SignnamesSequence': WHATEVER THE INPUT: true; the input reads as it did. -/
def signnamesSequenceSpec : ChangeSpec := { name := "signnamesSequence", fn := fun _ => fun
  | [d] => { results := [.lit (.bool true)], args := [d] }
  | _ => none }
def signnamesSequenceRow : OpenClaim := { program := "ytoiballfjbdoiaadoor", sum := "ea750d7d6e7100c9cad70bdd3ec4abdfc8697db43015e6026a557d12f82a598a", func := "narrator/narratorlaw39.SignnamesSequence", spec := "signnamesSequence", inPlace := ["internal/bytealg.IndexByteString"], unfollowed := true, recurses := true, named := ["strings.asciiSpace", "unicode.White_Space"], apart := false, laid := [("unicode.White_Space", laid_unicode_White_Space), ("strings.asciiSpace", laid_strings_asciiSpace)] }
def SignnamesSequenceSaid : Prop := signnamesSequenceRow.holds Tryd.pinned (OpenSpec.ofChange signnamesSequenceSpec)

/-- ITS FALSE NEIGHBOUR: 'it returns false'. Refute it at one input. -/
def signnamesSequenceWrong : ChangeSpec := { name := "signnamesSequence", fn := fun _ => fun
  | [d] => { results := [.lit (.bool false)], args := [d] }
  | _ => none }
def SignnamesSequenceWrongFalsely : Prop := signnamesSequenceRow.holds Tryd.pinned (OpenSpec.ofChange signnamesSequenceWrong)

/-- 'narratorlaw39.SignnamesNames': WHATEVER THE INPUT: true; the input reads as it did. -/
def signnamesNamesSpec : ChangeSpec := { name := "signnamesNames", fn := fun _ => fun
  | [d1, d2] => { results := [.lit (.bool true)], args := [d1, d2] }
  | _ => none }
def signnamesNamesRow : OpenClaim := { program := "ytoiballfjbdoiaadoor", sum := "ea750d7d6e7100c9cad70bdd3ec4abdfc8697db43015e6026a557d12f82a598a", func := "narrator/narratorlaw39.SignnamesNames", spec := "signnamesNames", inPlace := ["internal/bytealg.IndexByteString"], unfollowed := true, recurses := true, named := ["strings.asciiSpace", "unicode.White_Space"], apart := false, laid := [("unicode.White_Space", laid_unicode_White_Space), ("strings.asciiSpace", laid_strings_asciiSpace)] }
def SignnamesNamesSaid : Prop := signnamesNamesRow.holds Tryd.pinned (OpenSpec.ofChange signnamesNamesSpec)

/-- ITS FALSE NEIGHBOUR: 'it returns false'. Refute it at one input. -/
def signnamesNamesWrong : ChangeSpec := { name := "signnamesNames", fn := fun _ => fun
  | [d1, d2] => { results := [.lit (.bool false)], args := [d1, d2] }
  | _ => none }
def SignnamesNamesWrongFalsely : Prop := signnamesNamesRow.holds Tryd.pinned (OpenSpec.ofChange signnamesNamesWrong)

/-- 'narratorlaw39.SignnamesDistinct': WHATEVER THE INPUT: true; the input reads as it did. -/
def signnamesDistinctSpec : ChangeSpec := { name := "signnamesDistinct", fn := fun _ => fun
  | [d1, d2] => { results := [.lit (.bool true)], args := [d1, d2] }
  | _ => none }
def signnamesDistinctRow : OpenClaim := { program := "ytoiballfjbdoiaadoor", sum := "ea750d7d6e7100c9cad70bdd3ec4abdfc8697db43015e6026a557d12f82a598a", func := "narrator/narratorlaw39.SignnamesDistinct", spec := "signnamesDistinct", inPlace := ["internal/bytealg.IndexByteString"], unfollowed := true, recurses := true, named := ["strings.asciiSpace", "unicode.White_Space"], apart := false, laid := [("unicode.White_Space", laid_unicode_White_Space), ("strings.asciiSpace", laid_strings_asciiSpace)] }
def SignnamesDistinctSaid : Prop := signnamesDistinctRow.holds Tryd.pinned (OpenSpec.ofChange signnamesDistinctSpec)

/-- ITS FALSE NEIGHBOUR: 'it returns false'. Refute it at one input. -/
def signnamesDistinctWrong : ChangeSpec := { name := "signnamesDistinct", fn := fun _ => fun
  | [d1, d2] => { results := [.lit (.bool false)], args := [d1, d2] }
  | _ => none }
def SignnamesDistinctWrongFalsely : Prop := signnamesDistinctRow.holds Tryd.pinned (OpenSpec.ofChange signnamesDistinctWrong)

/-- 'narratorlaw39.SignnamesSigns': WHATEVER THE INPUT: true; the input reads as it did. -/
def signnamesSignsSpec : ChangeSpec := { name := "signnamesSigns", fn := fun _ => fun
  | [d] => { results := [.lit (.bool true)], args := [d] }
  | _ => none }
def signnamesSignsRow : OpenClaim := { program := "ytoiballfjbdoiaadoor", sum := "ea750d7d6e7100c9cad70bdd3ec4abdfc8697db43015e6026a557d12f82a598a", func := "narrator/narratorlaw39.SignnamesSigns", spec := "signnamesSigns", inPlace := ["internal/bytealg.IndexByteString"], unfollowed := true, recurses := true, named := ["strings.asciiSpace", "unicode.White_Space"], apart := false, laid := [("unicode.White_Space", laid_unicode_White_Space), ("strings.asciiSpace", laid_strings_asciiSpace)] }
def SignnamesSignsSaid : Prop := signnamesSignsRow.holds Tryd.pinned (OpenSpec.ofChange signnamesSignsSpec)

/-- ITS FALSE NEIGHBOUR: 'it returns false'. Refute it at one input. -/
def signnamesSignsWrong : ChangeSpec := { name := "signnamesSigns", fn := fun _ => fun
  | [d] => { results := [.lit (.bool false)], args := [d] }
  | _ => none }
def SignnamesSignsWrongFalsely : Prop := signnamesSignsRow.holds Tryd.pinned (OpenSpec.ofChange signnamesSignsWrong)

/- THE SECOND FORM. 'bulk': how many values and letters a reading holds, each counted each time it is reached (what is shared counts as often as it is met; a slice's spare places count too). A statement '..UptoSaid' is the law's where the arguments, and the package variables that the reading takes, are together of bulk at most 1048576: NARROWER than '..Said'. Prove '..Said' where nothing that the law and all that it calls make is longer than what came in: it says more and counts as full. Else prove '..UptoSaid'. A law counts once. -/
mutual
def uptoBulk {H : Type} : DataW H → Nat
  | .lit (.string bytes) => bytes.length + 1
  | .lit _ => 1
  | .nil => 1
  | .ptr d => uptoBulk d + 1
  | .slice elems spare => uptoBulkAll elems + uptoBulkAll spare + 1
  | .agg parts => uptoBulkAll parts + 1
  | .iface _ d => uptoBulk d + 1
  | .map entries => uptoBulkEntries entries + 1
  | .held _ => 1
def uptoBulkAll {H : Type} : List (DataW H) → Nat
  | [] => 0
  | d :: r => uptoBulk d + uptoBulkAll r
def uptoBulkEntries {H : Type} : List (Lit × DataW H) → Nat
  | [] => 0
  | x :: r => uptoBulkEntry x + uptoBulkEntries r
def uptoBulkEntry {H : Type} : Lit × DataW H → Nat
  | (.string bytes, d) => bytes.length + uptoBulk d + 1
  | (_, d) => uptoBulk d + 1
 end
def uptoSmall : (H : Type) → List (DataW H) → Bool := fun _ ds => decide (uptoBulkAll ds ≤ 1048576)
def OpenSpec.upto (s : _root_.Go.ChangeSpec) : _root_.Go.OpenSpec := { _root_.Go.OpenSpec.ofChange s with cond := some uptoSmall }

/-- 'narratorlaw39.SignnamesSpell', WHERE WHAT IT READS IS OF BULK AT MOST 1048576: true; the input reads as it did. -/
def signnamesSpellUptoRow : OpenClaim := { program := "ytoiballfjbdoiaadoor", sum := "ea750d7d6e7100c9cad70bdd3ec4abdfc8697db43015e6026a557d12f82a598a", func := "narrator/narratorlaw39.SignnamesSpell", spec := "signnamesSpell", inPlace := ["internal/bytealg.IndexByteString"], unfollowed := true, recurses := true, named := ["strings.asciiSpace", "unicode.White_Space", "narrator/narratorref38.units", "narrator/narratorref38.tens"], apart := false, laid := [("narrator/narratorref38.units", laid_narrator_narratorref38_units), ("narrator/narratorref38.tens", laid_narrator_narratorref38_tens), ("unicode.White_Space", laid_unicode_White_Space), ("strings.asciiSpace", laid_strings_asciiSpace)], narrowed := true }
def SignnamesSpellUptoSaid : Prop := signnamesSpellUptoRow.holds Tryd.pinned (OpenSpec.upto signnamesSpellSpec)

/-- 'narratorlaw39.SignnamesUnspell', WHERE WHAT IT READS IS OF BULK AT MOST 1048576: true; the input reads as it did. -/
def signnamesUnspellUptoRow : OpenClaim := { program := "ytoiballfjbdoiaadoor", sum := "ea750d7d6e7100c9cad70bdd3ec4abdfc8697db43015e6026a557d12f82a598a", func := "narrator/narratorlaw39.SignnamesUnspell", spec := "signnamesUnspell", inPlace := ["internal/bytealg.IndexByteString"], unfollowed := true, recurses := true, named := ["strings.asciiSpace", "unicode.White_Space", "narrator/narratorref38.units", "narrator/narratorref38.tens"], apart := false, laid := [("narrator/narratorref38.units", laid_narrator_narratorref38_units), ("narrator/narratorref38.tens", laid_narrator_narratorref38_tens), ("unicode.White_Space", laid_unicode_White_Space), ("strings.asciiSpace", laid_strings_asciiSpace)], narrowed := true }
def SignnamesUnspellUptoSaid : Prop := signnamesUnspellUptoRow.holds Tryd.pinned (OpenSpec.upto signnamesUnspellSpec)

/-- 'narratorlaw39.SignnamesRoundTrip', WHERE WHAT IT READS IS OF BULK AT MOST 1048576: true; the input reads as it did. -/
def signnamesRoundTripUptoRow : OpenClaim := { program := "ytoiballfjbdoiaadoor", sum := "ea750d7d6e7100c9cad70bdd3ec4abdfc8697db43015e6026a557d12f82a598a", func := "narrator/narratorlaw39.SignnamesRoundTrip", spec := "signnamesRoundTrip", inPlace := ["internal/bytealg.IndexByteString"], unfollowed := true, recurses := true, named := ["strings.asciiSpace", "unicode.White_Space"], apart := false, laid := [("unicode.White_Space", laid_unicode_White_Space), ("strings.asciiSpace", laid_strings_asciiSpace)], narrowed := true }
def SignnamesRoundTripUptoSaid : Prop := signnamesRoundTripUptoRow.holds Tryd.pinned (OpenSpec.upto signnamesRoundTripSpec)

/-- 'narratorlaw39.SignnamesCanonical', WHERE WHAT IT READS IS OF BULK AT MOST 1048576: true; the input reads as it did. -/
def signnamesCanonicalUptoRow : OpenClaim := { program := "ytoiballfjbdoiaadoor", sum := "ea750d7d6e7100c9cad70bdd3ec4abdfc8697db43015e6026a557d12f82a598a", func := "narrator/narratorlaw39.SignnamesCanonical", spec := "signnamesCanonical", inPlace := ["internal/bytealg.IndexByteString"], unfollowed := true, recurses := true, named := ["strings.asciiSpace", "unicode.White_Space"], apart := false, laid := [("unicode.White_Space", laid_unicode_White_Space), ("strings.asciiSpace", laid_strings_asciiSpace)], narrowed := true }
def SignnamesCanonicalUptoSaid : Prop := signnamesCanonicalUptoRow.holds Tryd.pinned (OpenSpec.upto signnamesCanonicalSpec)

/-- 'narratorlaw39.SignnamesSequence', WHERE WHAT IT READS IS OF BULK AT MOST 1048576: true; the input reads as it did. -/
def signnamesSequenceUptoRow : OpenClaim := { program := "ytoiballfjbdoiaadoor", sum := "ea750d7d6e7100c9cad70bdd3ec4abdfc8697db43015e6026a557d12f82a598a", func := "narrator/narratorlaw39.SignnamesSequence", spec := "signnamesSequence", inPlace := ["internal/bytealg.IndexByteString"], unfollowed := true, recurses := true, named := ["strings.asciiSpace", "unicode.White_Space"], apart := false, laid := [("unicode.White_Space", laid_unicode_White_Space), ("strings.asciiSpace", laid_strings_asciiSpace)], narrowed := true }
def SignnamesSequenceUptoSaid : Prop := signnamesSequenceUptoRow.holds Tryd.pinned (OpenSpec.upto signnamesSequenceSpec)

/-- 'narratorlaw39.SignnamesNames', WHERE WHAT IT READS IS OF BULK AT MOST 1048576: true; the input reads as it did. -/
def signnamesNamesUptoRow : OpenClaim := { program := "ytoiballfjbdoiaadoor", sum := "ea750d7d6e7100c9cad70bdd3ec4abdfc8697db43015e6026a557d12f82a598a", func := "narrator/narratorlaw39.SignnamesNames", spec := "signnamesNames", inPlace := ["internal/bytealg.IndexByteString"], unfollowed := true, recurses := true, named := ["strings.asciiSpace", "unicode.White_Space"], apart := false, laid := [("unicode.White_Space", laid_unicode_White_Space), ("strings.asciiSpace", laid_strings_asciiSpace)], narrowed := true }
def SignnamesNamesUptoSaid : Prop := signnamesNamesUptoRow.holds Tryd.pinned (OpenSpec.upto signnamesNamesSpec)

/-- 'narratorlaw39.SignnamesDistinct', WHERE WHAT IT READS IS OF BULK AT MOST 1048576: true; the input reads as it did. -/
def signnamesDistinctUptoRow : OpenClaim := { program := "ytoiballfjbdoiaadoor", sum := "ea750d7d6e7100c9cad70bdd3ec4abdfc8697db43015e6026a557d12f82a598a", func := "narrator/narratorlaw39.SignnamesDistinct", spec := "signnamesDistinct", inPlace := ["internal/bytealg.IndexByteString"], unfollowed := true, recurses := true, named := ["strings.asciiSpace", "unicode.White_Space"], apart := false, laid := [("unicode.White_Space", laid_unicode_White_Space), ("strings.asciiSpace", laid_strings_asciiSpace)], narrowed := true }
def SignnamesDistinctUptoSaid : Prop := signnamesDistinctUptoRow.holds Tryd.pinned (OpenSpec.upto signnamesDistinctSpec)

/-- 'narratorlaw39.SignnamesSigns', WHERE WHAT IT READS IS OF BULK AT MOST 1048576: true; the input reads as it did. -/
def signnamesSignsUptoRow : OpenClaim := { program := "ytoiballfjbdoiaadoor", sum := "ea750d7d6e7100c9cad70bdd3ec4abdfc8697db43015e6026a557d12f82a598a", func := "narrator/narratorlaw39.SignnamesSigns", spec := "signnamesSigns", inPlace := ["internal/bytealg.IndexByteString"], unfollowed := true, recurses := true, named := ["strings.asciiSpace", "unicode.White_Space"], apart := false, laid := [("unicode.White_Space", laid_unicode_White_Space), ("strings.asciiSpace", laid_strings_asciiSpace)], narrowed := true }
def SignnamesSignsUptoSaid : Prop := signnamesSignsUptoRow.holds Tryd.pinned (OpenSpec.upto signnamesSignsSpec)

end Rows
end Go.Proofs.YtoiballfjbdoiaaDoor
