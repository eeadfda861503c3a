/-
  NARROWER THAN 'FOR EVERY INPUT', by the rows' own cells (each row's printed sentence says how): UtteranceWords: laid · UtteranceChanges: laid · UtteranceRoundTrip: laid · UtteranceCanonical: laid · UtteranceConcatenation: laid · UtteranceEnding: laid · UtteranceInjective: laid · UtteranceLetters: laid.
  DERIVED. THE GIVEN ROWS OF THIS SEAT. 8 by the template 'for every input the law returns true; each argument reads behind the call as it read before'; 0 by the template 'total and deterministic' (their statements: YtejjfiipghcifaaGreatDoorTotals.lean).
  GIVEN WITH THE SEED: the statements are not yours to turn. If you find one false, say at which input.
  Laid BY PROGRAM, IN A SANDBOX (cutbox-rows.mjs): the forced cells as the released guide's own fill.sh prints them over the translation bb8b3f2b9d312341… (all of the seat's roots in one cut). By AI agents, Wed Nov 11 2026. No macro, syntax, notation, axiom, sorry.
-/
import Derived.Test.YtejjfiipghcifaaGreatDoorChecked
import GoSem.PinnedTables
import GoSem.Claim
import GoSem.ClaimJoined
import GoSem.ClaimMapViews
import Derived.JoinedTies
import Derived.KernelRfl
namespace Go.Proofs.YtejjfiipghcifaaGreatDoor
/- THE CELL 'sum', in the pinned program and in every row, IS THE sha256 OF THE DUMP (.gsa) THAT YtejjfiipghcifaaGreatDoorProg.lean LOADS. Nothing in Lean hashes anything: it is a label: what it is worth is what the hold of that sum in a sandbox is worth. -/
noncomputable def Tryz.pinned : Pinned := { name := "ytejjfiipghcifaagreatdoor", sum := "bb8b3f2b9d3123416e55d51eae9572cb6d1c970849b9952b3ebdb5be0f773cc5", checked := Tryz.checked }
namespace Rows
def none {H : Type} : Left H := { results := [], args := [] }

/- WHAT THE LISTED PACKAGE-LEVEL VARIABLES READ AS WHEN THE CALL BEGINS. Each datum BY PROGRAM (the guide's laid-datum.mjs) off the statement by which the dump's own 'gosem.cut.vars' lays the variable. In a bare row this is a premise. The card (YtejjfiipghcifaaGreatDoorCards.lean) ties it to the program's text. -/
def laid_narrator_narratorref38_units {H : Type} : DataW H := .agg [.lit (.string [122, 101, 114, 111]), .lit (.string [111, 110, 101]), .lit (.string [116, 119, 111]), .lit (.string [116, 104, 114, 101, 101]), .lit (.string [102, 111, 117, 114]), .lit (.string [102, 105, 118, 101]), .lit (.string [115, 105, 120]), .lit (.string [115, 101, 118, 101, 110]), .lit (.string [101, 105, 103, 104, 116]), .lit (.string [110, 105, 110, 101]), .lit (.string [116, 101, 110]), .lit (.string [101, 108, 101, 118, 101, 110]), .lit (.string [116, 119, 101, 108, 118, 101]), .lit (.string [116, 104, 105, 114, 116, 101, 101, 110]), .lit (.string [102, 111, 117, 114, 116, 101, 101, 110]), .lit (.string [102, 105, 102, 116, 101, 101, 110]), .lit (.string [115, 105, 120, 116, 101, 101, 110]), .lit (.string [115, 101, 118, 101, 110, 116, 101, 101, 110]), .lit (.string [101, 105, 103, 104, 116, 101, 101, 110]), .lit (.string [110, 105, 110, 101, 116, 101, 101, 110])]
def laid_narrator_narratorref38_tens {H : Type} : DataW H := .agg [.lit (.string [116, 119, 101, 110, 116, 121]), .lit (.string [116, 104, 105, 114, 116, 121]), .lit (.string [102, 111, 114, 116, 121]), .lit (.string [102, 105, 102, 116, 121]), .lit (.string [115, 105, 120, 116, 121]), .lit (.string [115, 101, 118, 101, 110, 116, 121]), .lit (.string [101, 105, 103, 104, 116, 121]), .lit (.string [110, 105, 110, 101, 116, 121])]
def laid_unicode_utf8_acceptRanges {H : Type} : DataW H := .agg [.agg [.lit (.int .u8 128), .lit (.int .u8 191)], .agg [.lit (.int .u8 160), .lit (.int .u8 191)], .agg [.lit (.int .u8 128), .lit (.int .u8 159)], .agg [.lit (.int .u8 144), .lit (.int .u8 191)], .agg [.lit (.int .u8 128), .lit (.int .u8 143)], .agg [.lit (.int .u8 0), .lit (.int .u8 0)], .agg [.lit (.int .u8 0), .lit (.int .u8 0)], .agg [.lit (.int .u8 0), .lit (.int .u8 0)], .agg [.lit (.int .u8 0), .lit (.int .u8 0)], .agg [.lit (.int .u8 0), .lit (.int .u8 0)], .agg [.lit (.int .u8 0), .lit (.int .u8 0)], .agg [.lit (.int .u8 0), .lit (.int .u8 0)], .agg [.lit (.int .u8 0), .lit (.int .u8 0)], .agg [.lit (.int .u8 0), .lit (.int .u8 0)], .agg [.lit (.int .u8 0), .lit (.int .u8 0)], .agg [.lit (.int .u8 0), .lit (.int .u8 0)]]
def laid_unicode_White_Space {H : Type} : DataW H := .ptr (.agg [.slice [.agg [.lit (.int .u16 9), .lit (.int .u16 13), .lit (.int .u16 1)], .agg [.lit (.int .u16 32), .lit (.int .u16 133), .lit (.int .u16 101)], .agg [.lit (.int .u16 160), .lit (.int .u16 5760), .lit (.int .u16 5600)], .agg [.lit (.int .u16 8192), .lit (.int .u16 8202), .lit (.int .u16 1)], .agg [.lit (.int .u16 8232), .lit (.int .u16 8233), .lit (.int .u16 1)], .agg [.lit (.int .u16 8239), .lit (.int .u16 8287), .lit (.int .u16 48)], .agg [.lit (.int .u16 12288), .lit (.int .u16 12288), .lit (.int .u16 1)]] [], .nil, .lit (.int .i64 2)])
def laid_strings_asciiSpace {H : Type} : DataW H := .agg [.lit (.int .u8 0), .lit (.int .u8 0), .lit (.int .u8 0), .lit (.int .u8 0), .lit (.int .u8 0), .lit (.int .u8 0), .lit (.int .u8 0), .lit (.int .u8 0), .lit (.int .u8 0), .lit (.int .u8 1), .lit (.int .u8 1), .lit (.int .u8 1), .lit (.int .u8 1), .lit (.int .u8 1), .lit (.int .u8 0), .lit (.int .u8 0), .lit (.int .u8 0), .lit (.int .u8 0), .lit (.int .u8 0), .lit (.int .u8 0), .lit (.int .u8 0), .lit (.int .u8 0), .lit (.int .u8 0), .lit (.int .u8 0), .lit (.int .u8 0), .lit (.int .u8 0), .lit (.int .u8 0), .lit (.int .u8 0), .lit (.int .u8 0), .lit (.int .u8 0), .lit (.int .u8 0), .lit (.int .u8 0), .lit (.int .u8 1), .lit (.int .u8 0), .lit (.int .u8 0), .lit (.int .u8 0), .lit (.int .u8 0), .lit (.int .u8 0), .lit (.int .u8 0), .lit (.int .u8 0), .lit (.int .u8 0), .lit (.int .u8 0), .lit (.int .u8 0), .lit (.int .u8 0), .lit (.int .u8 0), .lit (.int .u8 0), .lit (.int .u8 0), .lit (.int .u8 0), .lit (.int .u8 0), .lit (.int .u8 0), .lit (.int .u8 0), .lit (.int .u8 0), .lit (.int .u8 0), .lit (.int .u8 0), .lit (.int .u8 0), .lit (.int .u8 0), .lit (.int .u8 0), .lit (.int .u8 0), .lit (.int .u8 0), .lit (.int .u8 0), .lit (.int .u8 0), .lit (.int .u8 0), .lit (.int .u8 0), .lit (.int .u8 0), .lit (.int .u8 0), .lit (.int .u8 0), .lit (.int .u8 0), .lit (.int .u8 0), .lit (.int .u8 0), .lit (.int .u8 0), .lit (.int .u8 0), .lit (.int .u8 0), .lit (.int .u8 0), .lit (.int .u8 0), .lit (.int .u8 0), .lit (.int .u8 0), .lit (.int .u8 0), .lit (.int .u8 0), .lit (.int .u8 0), .lit (.int .u8 0), .lit (.int .u8 0), .lit (.int .u8 0), .lit (.int .u8 0), .lit (.int .u8 0), .lit (.int .u8 0), .lit (.int .u8 0), .lit (.int .u8 0), .lit (.int .u8 0), .lit (.int .u8 0), .lit (.int .u8 0), .lit (.int .u8 0), .lit (.int .u8 0), .lit (.int .u8 0), .lit (.int .u8 0), .lit (.int .u8 0), .lit (.int .u8 0), .lit (.int .u8 0), .lit (.int .u8 0), .lit (.int .u8 0), .lit (.int .u8 0), .lit (.int .u8 0), .lit (.int .u8 0), .lit (.int .u8 0), .lit (.int .u8 0), .lit (.int .u8 0), .lit (.int .u8 0), .lit (.int .u8 0), .lit (.int .u8 0), .lit (.int .u8 0), .lit (.int .u8 0), .lit (.int .u8 0), .lit (.int .u8 0), .lit (.int .u8 0), .lit (.int .u8 0), .lit (.int .u8 0), .lit (.int .u8 0), .lit (.int .u8 0), .lit (.int .u8 0), .lit (.int .u8 0), .lit (.int .u8 0), .lit (.int .u8 0), .lit (.int .u8 0), .lit (.int .u8 0), .lit (.int .u8 0), .lit (.int .u8 0), .lit (.int .u8 0), .lit (.int .u8 0), .lit (.int .u8 0), .lit (.int .u8 0), .lit (.int .u8 0), .lit (.int .u8 0), .lit (.int .u8 0), .lit (.int .u8 0), .lit (.int .u8 0), .lit (.int .u8 0), .lit (.int .u8 0), .lit (.int .u8 0), .lit (.int .u8 0), .lit (.int .u8 0), .lit (.int .u8 0), .lit (.int .u8 0), .lit (.int .u8 0), .lit (.int .u8 0), .lit (.int .u8 0), .lit (.int .u8 0), .lit (.int .u8 0), .lit (.int .u8 0), .lit (.int .u8 0), .lit (.int .u8 0), .lit (.int .u8 0), .lit (.int .u8 0), .lit (.int .u8 0), .lit (.int .u8 0), .lit (.int .u8 0), .lit (.int .u8 0), .lit (.int .u8 0), .lit (.int .u8 0), .lit (.int .u8 0), .lit (.int .u8 0), .lit (.int .u8 0), .lit (.int .u8 0), .lit (.int .u8 0), .lit (.int .u8 0), .lit (.int .u8 0), .lit (.int .u8 0), .lit (.int .u8 0), .lit (.int .u8 0), .lit (.int .u8 0), .lit (.int .u8 0), .lit (.int .u8 0), .lit (.int .u8 0), .lit (.int .u8 0), .lit (.int .u8 0), .lit (.int .u8 0), .lit (.int .u8 0), .lit (.int .u8 0), .lit (.int .u8 0), .lit (.int .u8 0), .lit (.int .u8 0), .lit (.int .u8 0), .lit (.int .u8 0), .lit (.int .u8 0), .lit (.int .u8 0), .lit (.int .u8 0), .lit (.int .u8 0), .lit (.int .u8 0), .lit (.int .u8 0), .lit (.int .u8 0), .lit (.int .u8 0), .lit (.int .u8 0), .lit (.int .u8 0), .lit (.int .u8 0), .lit (.int .u8 0), .lit (.int .u8 0), .lit (.int .u8 0), .lit (.int .u8 0), .lit (.int .u8 0), .lit (.int .u8 0), .lit (.int .u8 0), .lit (.int .u8 0), .lit (.int .u8 0), .lit (.int .u8 0), .lit (.int .u8 0), .lit (.int .u8 0), .lit (.int .u8 0), .lit (.int .u8 0), .lit (.int .u8 0), .lit (.int .u8 0), .lit (.int .u8 0), .lit (.int .u8 0), .lit (.int .u8 0), .lit (.int .u8 0), .lit (.int .u8 0), .lit (.int .u8 0), .lit (.int .u8 0), .lit (.int .u8 0), .lit (.int .u8 0), .lit (.int .u8 0), .lit (.int .u8 0), .lit (.int .u8 0), .lit (.int .u8 0), .lit (.int .u8 0), .lit (.int .u8 0), .lit (.int .u8 0), .lit (.int .u8 0), .lit (.int .u8 0), .lit (.int .u8 0), .lit (.int .u8 0), .lit (.int .u8 0), .lit (.int .u8 0), .lit (.int .u8 0), .lit (.int .u8 0), .lit (.int .u8 0), .lit (.int .u8 0), .lit (.int .u8 0), .lit (.int .u8 0), .lit (.int .u8 0), .lit (.int .u8 0), .lit (.int .u8 0), .lit (.int .u8 0), .lit (.int .u8 0), .lit (.int .u8 0), .lit (.int .u8 0), .lit (.int .u8 0), .lit (.int .u8 0), .lit (.int .u8 0), .lit (.int .u8 0), .lit (.int .u8 0), .lit (.int .u8 0), .lit (.int .u8 0), .lit (.int .u8 0), .lit (.int .u8 0), .lit (.int .u8 0), .lit (.int .u8 0), .lit (.int .u8 0), .lit (.int .u8 0)]
def laid_narrator_spokentext_styles {H : Type} : DataW H := .agg [.lit (.string [112, 108, 97, 105, 110]), .lit (.string [115, 116, 114, 111, 110, 103]), .lit (.string [105, 110, 118, 101, 114, 115, 101]), .lit (.string [104, 105, 100, 100, 101, 110])]
/-- One of Go's own tables, pinned by name: the form's constant. -/
def laid_unicode_CaseRanges : DataW Unit := Go.Pinned.caseRanges
/-- One of Go's own tables, pinned by name: the form's constant. -/
def laid_unicode_utf8_first : DataW Unit := Go.Pinned.utf8First

/-- 'narratorlaw41.UtteranceWords': WHATEVER THE INPUT: true; the input reads as it did. -/
def utteranceWordsSpec : ChangeSpec := { name := "utteranceWords", fn := fun _ => fun
  | [d1, d2, d3] => { results := [.lit (.bool true)], args := [d1, d2, d3] }
  | _ => none }
def utteranceWordsRow : OpenClaim := { program := "ytejjfiipghcifaagreatdoor", sum := "bb8b3f2b9d3123416e55d51eae9572cb6d1c970849b9952b3ebdb5be0f773cc5", func := "narrator/narratorlaw41.UtteranceWords", spec := "utteranceWords", inPlace := ["internal/abi.NoEscape", "internal/bytealg.MakeNoZero", "internal/bytealg.CountString", "internal/bytealg.IndexByteString", "internal/bytealg.IndexString"], unfollowed := true, recurses := true, named := ["unicode/utf8.first", "unicode/utf8.acceptRanges", "unicode.CaseRanges", "internal/bytealg.MaxLen", "strings.asciiSpace", "unicode.White_Space", "narrator/spokentext.styles", "narrator/narratorref38.units", "narrator/narratorref38.tens"], apart := false, laid := [("narrator/narratorref38.units", laid_narrator_narratorref38_units), ("narrator/narratorref38.tens", laid_narrator_narratorref38_tens), ("unicode/utf8.acceptRanges", laid_unicode_utf8_acceptRanges), ("unicode.White_Space", laid_unicode_White_Space), ("strings.asciiSpace", laid_strings_asciiSpace), ("narrator/spokentext.styles", laid_narrator_spokentext_styles), ("unicode.CaseRanges", laid_unicode_CaseRanges), ("unicode/utf8.first", laid_unicode_utf8_first)] }
def UtteranceWordsSaid : Prop := utteranceWordsRow.holds Tryz.pinned (OpenSpec.ofChange utteranceWordsSpec)

/-- ITS FALSE NEIGHBOUR: 'it returns false'. Refute it at one input. -/
def utteranceWordsWrong : ChangeSpec := { name := "utteranceWords", fn := fun _ => fun
  | [d1, d2, d3] => { results := [.lit (.bool false)], args := [d1, d2, d3] }
  | _ => none }
def UtteranceWordsWrongFalsely : Prop := utteranceWordsRow.holds Tryz.pinned (OpenSpec.ofChange utteranceWordsWrong)

/-- 'narratorlaw41.UtteranceChanges': WHATEVER THE INPUT: true; the input reads as it did. -/
def utteranceChangesSpec : ChangeSpec := { name := "utteranceChanges", fn := fun _ => fun
  | [d] => { results := [.lit (.bool true)], args := [d] }
  | _ => none }
def utteranceChangesRow : OpenClaim := { program := "ytejjfiipghcifaagreatdoor", sum := "bb8b3f2b9d3123416e55d51eae9572cb6d1c970849b9952b3ebdb5be0f773cc5", func := "narrator/narratorlaw41.UtteranceChanges", spec := "utteranceChanges", inPlace := ["internal/abi.NoEscape", "internal/bytealg.MakeNoZero", "internal/bytealg.CountString", "internal/bytealg.IndexByteString", "internal/bytealg.IndexString"], unfollowed := true, recurses := true, named := ["unicode/utf8.first", "unicode/utf8.acceptRanges", "unicode.CaseRanges", "internal/bytealg.MaxLen", "strings.asciiSpace", "unicode.White_Space", "narrator/spokentext.styles", "narrator/narratorref38.units", "narrator/narratorref38.tens"], apart := false, laid := [("narrator/narratorref38.units", laid_narrator_narratorref38_units), ("narrator/narratorref38.tens", laid_narrator_narratorref38_tens), ("unicode/utf8.acceptRanges", laid_unicode_utf8_acceptRanges), ("unicode.White_Space", laid_unicode_White_Space), ("strings.asciiSpace", laid_strings_asciiSpace), ("narrator/spokentext.styles", laid_narrator_spokentext_styles), ("unicode.CaseRanges", laid_unicode_CaseRanges), ("unicode/utf8.first", laid_unicode_utf8_first)] }
def UtteranceChangesSaid : Prop := utteranceChangesRow.holds Tryz.pinned (OpenSpec.ofChange utteranceChangesSpec)

/-- ITS FALSE NEIGHBOUR: 'it returns false'. Refute it at one input. -/
def utteranceChangesWrong : ChangeSpec := { name := "utteranceChanges", fn := fun _ => fun
  | [d] => { results := [.lit (.bool false)], args := [d] }
  | _ => none }
def UtteranceChangesWrongFalsely : Prop := utteranceChangesRow.holds Tryz.pinned (OpenSpec.ofChange utteranceChangesWrong)

/-- 'narratorlaw41.UtteranceRoundTrip': WHATEVER THE INPUT: true; the input reads as it did. -/
def utteranceRoundTripSpec : ChangeSpec := { name := "utteranceRoundTrip", fn := fun _ => fun
  | [d1, d2, d3] => { results := [.lit (.bool true)], args := [d1, d2, d3] }
  | _ => none }
def utteranceRoundTripRow : OpenClaim := { program := "ytejjfiipghcifaagreatdoor", sum := "bb8b3f2b9d3123416e55d51eae9572cb6d1c970849b9952b3ebdb5be0f773cc5", func := "narrator/narratorlaw41.UtteranceRoundTrip", spec := "utteranceRoundTrip", inPlace := ["internal/abi.NoEscape", "internal/bytealg.MakeNoZero", "internal/bytealg.CountString", "internal/bytealg.IndexByteString", "internal/bytealg.IndexString"], unfollowed := true, recurses := true, named := ["unicode/utf8.first", "unicode/utf8.acceptRanges", "unicode.CaseRanges", "internal/bytealg.MaxLen", "strings.asciiSpace", "unicode.White_Space", "narrator/spokentext.styles"], apart := false, laid := [("unicode/utf8.acceptRanges", laid_unicode_utf8_acceptRanges), ("unicode.White_Space", laid_unicode_White_Space), ("strings.asciiSpace", laid_strings_asciiSpace), ("narrator/spokentext.styles", laid_narrator_spokentext_styles), ("unicode.CaseRanges", laid_unicode_CaseRanges), ("unicode/utf8.first", laid_unicode_utf8_first)] }
def UtteranceRoundTripSaid : Prop := utteranceRoundTripRow.holds Tryz.pinned (OpenSpec.ofChange utteranceRoundTripSpec)

/-- ITS FALSE NEIGHBOUR: 'it returns false'. Refute it at one input. -/
def utteranceRoundTripWrong : ChangeSpec := { name := "utteranceRoundTrip", fn := fun _ => fun
  | [d1, d2, d3] => { results := [.lit (.bool false)], args := [d1, d2, d3] }
  | _ => none }
def UtteranceRoundTripWrongFalsely : Prop := utteranceRoundTripRow.holds Tryz.pinned (OpenSpec.ofChange utteranceRoundTripWrong)

/-- 'narratorlaw41.UtteranceCanonical': WHATEVER THE INPUT: true; the input reads as it did. -/
def utteranceCanonicalSpec : ChangeSpec := { name := "utteranceCanonical", fn := fun _ => fun
  | [d] => { results := [.lit (.bool true)], args := [d] }
  | _ => none }
def utteranceCanonicalRow : OpenClaim := { program := "ytejjfiipghcifaagreatdoor", sum := "bb8b3f2b9d3123416e55d51eae9572cb6d1c970849b9952b3ebdb5be0f773cc5", func := "narrator/narratorlaw41.UtteranceCanonical", spec := "utteranceCanonical", inPlace := ["internal/abi.NoEscape", "internal/bytealg.MakeNoZero", "internal/bytealg.CountString", "internal/bytealg.IndexByteString", "internal/bytealg.IndexString"], unfollowed := true, recurses := true, named := ["unicode/utf8.first", "unicode/utf8.acceptRanges", "unicode.CaseRanges", "internal/bytealg.MaxLen", "strings.asciiSpace", "unicode.White_Space", "narrator/spokentext.styles"], apart := false, laid := [("unicode/utf8.acceptRanges", laid_unicode_utf8_acceptRanges), ("unicode.White_Space", laid_unicode_White_Space), ("strings.asciiSpace", laid_strings_asciiSpace), ("narrator/spokentext.styles", laid_narrator_spokentext_styles), ("unicode.CaseRanges", laid_unicode_CaseRanges), ("unicode/utf8.first", laid_unicode_utf8_first)] }
def UtteranceCanonicalSaid : Prop := utteranceCanonicalRow.holds Tryz.pinned (OpenSpec.ofChange utteranceCanonicalSpec)

/-- ITS FALSE NEIGHBOUR: 'it returns false'. Refute it at one input. -/
def utteranceCanonicalWrong : ChangeSpec := { name := "utteranceCanonical", fn := fun _ => fun
  | [d] => { results := [.lit (.bool false)], args := [d] }
  | _ => none }
def UtteranceCanonicalWrongFalsely : Prop := utteranceCanonicalRow.holds Tryz.pinned (OpenSpec.ofChange utteranceCanonicalWrong)

/-- 'narratorlaw41.UtteranceConcatenation': WHATEVER THE INPUT: true; the input reads as it did. -/
def utteranceConcatenationSpec : ChangeSpec := { name := "utteranceConcatenation", fn := fun _ => fun
  | [d1, d2, d3] => { results := [.lit (.bool true)], args := [d1, d2, d3] }
  | _ => none }
def utteranceConcatenationRow : OpenClaim := { program := "ytejjfiipghcifaagreatdoor", sum := "bb8b3f2b9d3123416e55d51eae9572cb6d1c970849b9952b3ebdb5be0f773cc5", func := "narrator/narratorlaw41.UtteranceConcatenation", spec := "utteranceConcatenation", inPlace := ["internal/abi.NoEscape", "internal/bytealg.MakeNoZero", "internal/bytealg.CountString", "internal/bytealg.IndexByteString", "internal/bytealg.IndexString"], unfollowed := true, recurses := true, named := ["unicode/utf8.first", "unicode/utf8.acceptRanges", "unicode.CaseRanges", "internal/bytealg.MaxLen", "strings.asciiSpace", "unicode.White_Space", "narrator/spokentext.styles"], apart := false, laid := [("unicode/utf8.acceptRanges", laid_unicode_utf8_acceptRanges), ("unicode.White_Space", laid_unicode_White_Space), ("strings.asciiSpace", laid_strings_asciiSpace), ("narrator/spokentext.styles", laid_narrator_spokentext_styles), ("unicode.CaseRanges", laid_unicode_CaseRanges), ("unicode/utf8.first", laid_unicode_utf8_first)] }
def UtteranceConcatenationSaid : Prop := utteranceConcatenationRow.holds Tryz.pinned (OpenSpec.ofChange utteranceConcatenationSpec)

/-- ITS FALSE NEIGHBOUR: 'it returns false'. Refute it at one input. -/
def utteranceConcatenationWrong : ChangeSpec := { name := "utteranceConcatenation", fn := fun _ => fun
  | [d1, d2, d3] => { results := [.lit (.bool false)], args := [d1, d2, d3] }
  | _ => none }
def UtteranceConcatenationWrongFalsely : Prop := utteranceConcatenationRow.holds Tryz.pinned (OpenSpec.ofChange utteranceConcatenationWrong)

/-- 'narratorlaw41.UtteranceEnding': WHATEVER THE INPUT: true; the input reads as it did. -/
def utteranceEndingSpec : ChangeSpec := { name := "utteranceEnding", fn := fun _ => fun
  | [d1, d2, d3] => { results := [.lit (.bool true)], args := [d1, d2, d3] }
  | _ => none }
def utteranceEndingRow : OpenClaim := { program := "ytejjfiipghcifaagreatdoor", sum := "bb8b3f2b9d3123416e55d51eae9572cb6d1c970849b9952b3ebdb5be0f773cc5", func := "narrator/narratorlaw41.UtteranceEnding", spec := "utteranceEnding", inPlace := ["internal/abi.NoEscape", "internal/bytealg.MakeNoZero", "internal/bytealg.CountString", "internal/bytealg.IndexByteString", "internal/bytealg.IndexString"], unfollowed := true, recurses := true, named := ["unicode/utf8.first", "unicode/utf8.acceptRanges", "unicode.CaseRanges", "internal/bytealg.MaxLen", "strings.asciiSpace", "unicode.White_Space", "narrator/spokentext.styles"], apart := false, laid := [("unicode/utf8.acceptRanges", laid_unicode_utf8_acceptRanges), ("unicode.White_Space", laid_unicode_White_Space), ("strings.asciiSpace", laid_strings_asciiSpace), ("narrator/spokentext.styles", laid_narrator_spokentext_styles), ("unicode.CaseRanges", laid_unicode_CaseRanges), ("unicode/utf8.first", laid_unicode_utf8_first)] }
def UtteranceEndingSaid : Prop := utteranceEndingRow.holds Tryz.pinned (OpenSpec.ofChange utteranceEndingSpec)

/-- ITS FALSE NEIGHBOUR: 'it returns false'. Refute it at one input. -/
def utteranceEndingWrong : ChangeSpec := { name := "utteranceEnding", fn := fun _ => fun
  | [d1, d2, d3] => { results := [.lit (.bool false)], args := [d1, d2, d3] }
  | _ => none }
def UtteranceEndingWrongFalsely : Prop := utteranceEndingRow.holds Tryz.pinned (OpenSpec.ofChange utteranceEndingWrong)

/-- 'narratorlaw41.UtteranceInjective': WHATEVER THE INPUT: true; the input reads as it did. -/
def utteranceInjectiveSpec : ChangeSpec := { name := "utteranceInjective", fn := fun _ => fun
  | [d] => { results := [.lit (.bool true)], args := [d] }
  | _ => none }
def utteranceInjectiveRow : OpenClaim := { program := "ytejjfiipghcifaagreatdoor", sum := "bb8b3f2b9d3123416e55d51eae9572cb6d1c970849b9952b3ebdb5be0f773cc5", func := "narrator/narratorlaw41.UtteranceInjective", spec := "utteranceInjective", inPlace := ["internal/abi.NoEscape", "internal/bytealg.MakeNoZero", "internal/bytealg.CountString", "internal/bytealg.IndexByteString", "internal/bytealg.IndexString"], unfollowed := true, recurses := true, named := ["unicode/utf8.first", "unicode/utf8.acceptRanges", "unicode.CaseRanges", "internal/bytealg.MaxLen", "strings.asciiSpace", "unicode.White_Space", "narrator/spokentext.styles"], apart := false, laid := [("unicode/utf8.acceptRanges", laid_unicode_utf8_acceptRanges), ("unicode.White_Space", laid_unicode_White_Space), ("strings.asciiSpace", laid_strings_asciiSpace), ("narrator/spokentext.styles", laid_narrator_spokentext_styles), ("unicode.CaseRanges", laid_unicode_CaseRanges), ("unicode/utf8.first", laid_unicode_utf8_first)] }
def UtteranceInjectiveSaid : Prop := utteranceInjectiveRow.holds Tryz.pinned (OpenSpec.ofChange utteranceInjectiveSpec)

/-- ITS FALSE NEIGHBOUR: 'it returns false'. Refute it at one input. -/
def utteranceInjectiveWrong : ChangeSpec := { name := "utteranceInjective", fn := fun _ => fun
  | [d] => { results := [.lit (.bool false)], args := [d] }
  | _ => none }
def UtteranceInjectiveWrongFalsely : Prop := utteranceInjectiveRow.holds Tryz.pinned (OpenSpec.ofChange utteranceInjectiveWrong)

/-- 'narratorlaw41.UtteranceLetters': WHATEVER THE INPUT: true; the input reads as it did. -/
def utteranceLettersSpec : ChangeSpec := { name := "utteranceLetters", fn := fun _ => fun
  | [d1, d2, d3] => { results := [.lit (.bool true)], args := [d1, d2, d3] }
  | _ => none }
def utteranceLettersRow : OpenClaim := { program := "ytejjfiipghcifaagreatdoor", sum := "bb8b3f2b9d3123416e55d51eae9572cb6d1c970849b9952b3ebdb5be0f773cc5", func := "narrator/narratorlaw41.UtteranceLetters", spec := "utteranceLetters", inPlace := ["internal/abi.NoEscape", "internal/bytealg.MakeNoZero", "internal/bytealg.CountString", "internal/bytealg.IndexByteString", "internal/bytealg.IndexString"], unfollowed := true, recurses := true, named := ["unicode/utf8.first", "unicode/utf8.acceptRanges", "unicode.CaseRanges", "internal/bytealg.MaxLen", "strings.asciiSpace", "unicode.White_Space", "narrator/spokentext.styles"], apart := false, laid := [("unicode/utf8.acceptRanges", laid_unicode_utf8_acceptRanges), ("unicode.White_Space", laid_unicode_White_Space), ("strings.asciiSpace", laid_strings_asciiSpace), ("narrator/spokentext.styles", laid_narrator_spokentext_styles), ("unicode.CaseRanges", laid_unicode_CaseRanges), ("unicode/utf8.first", laid_unicode_utf8_first)] }
def UtteranceLettersSaid : Prop := utteranceLettersRow.holds Tryz.pinned (OpenSpec.ofChange utteranceLettersSpec)

/-- ITS FALSE NEIGHBOUR: 'it returns false'. Refute it at one input. -/
def utteranceLettersWrong : ChangeSpec := { name := "utteranceLetters", fn := fun _ => fun
  | [d1, d2, d3] => { results := [.lit (.bool false)], args := [d1, d2, d3] }
  | _ => none }
def UtteranceLettersWrongFalsely : Prop := utteranceLettersRow.holds Tryz.pinned (OpenSpec.ofChange utteranceLettersWrong)

/- THE SECOND FORM. 'bulk': how many values and letters a reading holds, each counted each time it is reached (what is shared counts as often as it is met; a slice's spare places count too). A statement '..UptoSaid' is the law's where the arguments, and the package variables that the reading takes, are together of bulk at most 1048576: NARROWER than '..Said'. Prove '..Said' where nothing that the law and all that it calls make is longer than what came in: it says more and counts as full. Else prove '..UptoSaid'. A law counts once. -/
mutual
def uptoBulk {H : Type} : DataW H → Nat
  | .lit (.string bytes) => bytes.length + 1
  | .lit _ => 1
  | .nil => 1
  | .ptr d => uptoBulk d + 1
  | .slice elems spare => uptoBulkAll elems + uptoBulkAll spare + 1
  | .agg parts => uptoBulkAll parts + 1
  | .iface _ d => uptoBulk d + 1
  | .map entries => uptoBulkEntries entries + 1
  | .held _ => 1
def uptoBulkAll {H : Type} : List (DataW H) → Nat
  | [] => 0
  | d :: r => uptoBulk d + uptoBulkAll r
def uptoBulkEntries {H : Type} : List (Lit × DataW H) → Nat
  | [] => 0
  | x :: r => uptoBulkEntry x + uptoBulkEntries r
def uptoBulkEntry {H : Type} : Lit × DataW H → Nat
  | (.string bytes, d) => bytes.length + uptoBulk d + 1
  | (_, d) => uptoBulk d + 1
 end
def uptoSmall : (H : Type) → List (DataW H) → Bool := fun _ ds => decide (uptoBulkAll ds ≤ 1048576)
def OpenSpec.upto (s : _root_.Go.ChangeSpec) : _root_.Go.OpenSpec := { _root_.Go.OpenSpec.ofChange s with cond := some uptoSmall }

/-- 'narratorlaw41.UtteranceWords', WHERE WHAT IT READS IS OF BULK AT MOST 1048576: true; the input reads as it did. -/
def utteranceWordsUptoRow : OpenClaim := { program := "ytejjfiipghcifaagreatdoor", sum := "bb8b3f2b9d3123416e55d51eae9572cb6d1c970849b9952b3ebdb5be0f773cc5", func := "narrator/narratorlaw41.UtteranceWords", spec := "utteranceWords", inPlace := ["internal/abi.NoEscape", "internal/bytealg.MakeNoZero", "internal/bytealg.CountString", "internal/bytealg.IndexByteString", "internal/bytealg.IndexString"], unfollowed := true, recurses := true, named := ["unicode/utf8.first", "unicode/utf8.acceptRanges", "unicode.CaseRanges", "internal/bytealg.MaxLen", "strings.asciiSpace", "unicode.White_Space", "narrator/spokentext.styles", "narrator/narratorref38.units", "narrator/narratorref38.tens"], apart := false, laid := [("narrator/narratorref38.units", laid_narrator_narratorref38_units), ("narrator/narratorref38.tens", laid_narrator_narratorref38_tens), ("unicode/utf8.acceptRanges", laid_unicode_utf8_acceptRanges), ("unicode.White_Space", laid_unicode_White_Space), ("strings.asciiSpace", laid_strings_asciiSpace), ("narrator/spokentext.styles", laid_narrator_spokentext_styles), ("unicode.CaseRanges", laid_unicode_CaseRanges), ("unicode/utf8.first", laid_unicode_utf8_first)], narrowed := true }
def UtteranceWordsUptoSaid : Prop := utteranceWordsUptoRow.holds Tryz.pinned (OpenSpec.upto utteranceWordsSpec)

/-- 'narratorlaw41.UtteranceChanges', WHERE WHAT IT READS IS OF BULK AT MOST 1048576: true; the input reads as it did. -/
def utteranceChangesUptoRow : OpenClaim := { program := "ytejjfiipghcifaagreatdoor", sum := "bb8b3f2b9d3123416e55d51eae9572cb6d1c970849b9952b3ebdb5be0f773cc5", func := "narrator/narratorlaw41.UtteranceChanges", spec := "utteranceChanges", inPlace := ["internal/abi.NoEscape", "internal/bytealg.MakeNoZero", "internal/bytealg.CountString", "internal/bytealg.IndexByteString", "internal/bytealg.IndexString"], unfollowed := true, recurses := true, named := ["unicode/utf8.first", "unicode/utf8.acceptRanges", "unicode.CaseRanges", "internal/bytealg.MaxLen", "strings.asciiSpace", "unicode.White_Space", "narrator/spokentext.styles", "narrator/narratorref38.units", "narrator/narratorref38.tens"], apart := false, laid := [("narrator/narratorref38.units", laid_narrator_narratorref38_units), ("narrator/narratorref38.tens", laid_narrator_narratorref38_tens), ("unicode/utf8.acceptRanges", laid_unicode_utf8_acceptRanges), ("unicode.White_Space", laid_unicode_White_Space), ("strings.asciiSpace", laid_strings_asciiSpace), ("narrator/spokentext.styles", laid_narrator_spokentext_styles), ("unicode.CaseRanges", laid_unicode_CaseRanges), ("unicode/utf8.first", laid_unicode_utf8_first)], narrowed := true }
def UtteranceChangesUptoSaid : Prop := utteranceChangesUptoRow.holds Tryz.pinned (OpenSpec.upto utteranceChangesSpec)

/-- 'narratorlaw41.UtteranceRoundTrip', WHERE WHAT IT READS IS OF BULK AT MOST 1048576: true; the input reads as it did. -/
def utteranceRoundTripUptoRow : OpenClaim := { program := "ytejjfiipghcifaagreatdoor", sum := "bb8b3f2b9d3123416e55d51eae9572cb6d1c970849b9952b3ebdb5be0f773cc5", func := "narrator/narratorlaw41.UtteranceRoundTrip", spec := "utteranceRoundTrip", inPlace := ["internal/abi.NoEscape", "internal/bytealg.MakeNoZero", "internal/bytealg.CountString", "internal/bytealg.IndexByteString", "internal/bytealg.IndexString"], unfollowed := true, recurses := true, named := ["unicode/utf8.first", "unicode/utf8.acceptRanges", "unicode.CaseRanges", "internal/bytealg.MaxLen", "strings.asciiSpace", "unicode.White_Space", "narrator/spokentext.styles"], apart := false, laid := [("unicode/utf8.acceptRanges", laid_unicode_utf8_acceptRanges), ("unicode.White_Space", laid_unicode_White_Space), ("strings.asciiSpace", laid_strings_asciiSpace), ("narrator/spokentext.styles", laid_narrator_spokentext_styles), ("unicode.CaseRanges", laid_unicode_CaseRanges), ("unicode/utf8.first", laid_unicode_utf8_first)], narrowed := true }
def UtteranceRoundTripUptoSaid : Prop := utteranceRoundTripUptoRow.holds Tryz.pinned (OpenSpec.upto utteranceRoundTripSpec)

/-- 'narratorlaw41.UtteranceCanonical', WHERE WHAT IT READS IS OF BULK AT MOST 1048576: true; the input reads as it did. -/
def utteranceCanonicalUptoRow : OpenClaim := { program := "ytejjfiipghcifaagreatdoor", sum := "bb8b3f2b9d3123416e55d51eae9572cb6d1c970849b9952b3ebdb5be0f773cc5", func := "narrator/narratorlaw41.UtteranceCanonical", spec := "utteranceCanonical", inPlace := ["internal/abi.NoEscape", "internal/bytealg.MakeNoZero", "internal/bytealg.CountString", "internal/bytealg.IndexByteString", "internal/bytealg.IndexString"], unfollowed := true, recurses := true, named := ["unicode/utf8.first", "unicode/utf8.acceptRanges", "unicode.CaseRanges", "internal/bytealg.MaxLen", "strings.asciiSpace", "unicode.White_Space", "narrator/spokentext.styles"], apart := false, laid := [("unicode/utf8.acceptRanges", laid_unicode_utf8_acceptRanges), ("unicode.White_Space", laid_unicode_White_Space), ("strings.asciiSpace", laid_strings_asciiSpace), ("narrator/spokentext.styles", laid_narrator_spokentext_styles), ("unicode.CaseRanges", laid_unicode_CaseRanges), ("unicode/utf8.first", laid_unicode_utf8_first)], narrowed := true }
def UtteranceCanonicalUptoSaid : Prop := utteranceCanonicalUptoRow.holds Tryz.pinned (OpenSpec.upto utteranceCanonicalSpec)

/-- 'narratorlaw41.UtteranceConcatenation', WHERE WHAT IT READS IS OF BULK AT MOST 1048576: true; the input reads as it did. -/
def utteranceConcatenationUptoRow : OpenClaim := { program := "ytejjfiipghcifaagreatdoor", sum := "bb8b3f2b9d3123416e55d51eae9572cb6d1c970849b9952b3ebdb5be0f773cc5", func := "narrator/narratorlaw41.UtteranceConcatenation", spec := "utteranceConcatenation", inPlace := ["internal/abi.NoEscape", "internal/bytealg.MakeNoZero", "internal/bytealg.CountString", "internal/bytealg.IndexByteString", "internal/bytealg.IndexString"], unfollowed := true, recurses := true, named := ["unicode/utf8.first", "unicode/utf8.acceptRanges", "unicode.CaseRanges", "internal/bytealg.MaxLen", "strings.asciiSpace", "unicode.White_Space", "narrator/spokentext.styles"], apart := false, laid := [("unicode/utf8.acceptRanges", laid_unicode_utf8_acceptRanges), ("unicode.White_Space", laid_unicode_White_Space), ("strings.asciiSpace", laid_strings_asciiSpace), ("narrator/spokentext.styles", laid_narrator_spokentext_styles), ("unicode.CaseRanges", laid_unicode_CaseRanges), ("unicode/utf8.first", laid_unicode_utf8_first)], narrowed := true }
def UtteranceConcatenationUptoSaid : Prop := utteranceConcatenationUptoRow.holds Tryz.pinned (OpenSpec.upto utteranceConcatenationSpec)

/-- 'narratorlaw41.UtteranceEnding', WHERE WHAT IT READS IS OF BULK AT MOST 1048576: true; the input reads as it did. -/
def utteranceEndingUptoRow : OpenClaim := { program := "ytejjfiipghcifaagreatdoor", sum := "bb8b3f2b9d3123416e55d51eae9572cb6d1c970849b9952b3ebdb5be0f773cc5", func := "narrator/narratorlaw41.UtteranceEnding", spec := "utteranceEnding", inPlace := ["internal/abi.NoEscape", "internal/bytealg.MakeNoZero", "internal/bytealg.CountString", "internal/bytealg.IndexByteString", "internal/bytealg.IndexString"], unfollowed := true, recurses := true, named := ["unicode/utf8.first", "unicode/utf8.acceptRanges", "unicode.CaseRanges", "internal/bytealg.MaxLen", "strings.asciiSpace", "unicode.White_Space", "narrator/spokentext.styles"], apart := false, laid := [("unicode/utf8.acceptRanges", laid_unicode_utf8_acceptRanges), ("unicode.White_Space", laid_unicode_White_Space), ("strings.asciiSpace", laid_strings_asciiSpace), ("narrator/spokentext.styles", laid_narrator_spokentext_styles), ("unicode.CaseRanges", laid_unicode_CaseRanges), ("unicode/utf8.first", laid_unicode_utf8_first)], narrowed := true }
def UtteranceEndingUptoSaid : Prop := utteranceEndingUptoRow.holds Tryz.pinned (OpenSpec.upto utteranceEndingSpec)

/-- 'narratorlaw41.UtteranceInjective', WHERE WHAT IT READS IS OF BULK AT MOST 1048576: true; the input reads as it did. -/
def utteranceInjectiveUptoRow : OpenClaim := { program := "ytejjfiipghcifaagreatdoor", sum := "bb8b3f2b9d3123416e55d51eae9572cb6d1c970849b9952b3ebdb5be0f773cc5", func := "narrator/narratorlaw41.UtteranceInjective", spec := "utteranceInjective", inPlace := ["internal/abi.NoEscape", "internal/bytealg.MakeNoZero", "internal/bytealg.CountString", "internal/bytealg.IndexByteString", "internal/bytealg.IndexString"], unfollowed := true, recurses := true, named := ["unicode/utf8.first", "unicode/utf8.acceptRanges", "unicode.CaseRanges", "internal/bytealg.MaxLen", "strings.asciiSpace", "unicode.White_Space", "narrator/spokentext.styles"], apart := false, laid := [("unicode/utf8.acceptRanges", laid_unicode_utf8_acceptRanges), ("unicode.White_Space", laid_unicode_White_Space), ("strings.asciiSpace", laid_strings_asciiSpace), ("narrator/spokentext.styles", laid_narrator_spokentext_styles), ("unicode.CaseRanges", laid_unicode_CaseRanges), ("unicode/utf8.first", laid_unicode_utf8_first)], narrowed := true }
def UtteranceInjectiveUptoSaid : Prop := utteranceInjectiveUptoRow.holds Tryz.pinned (OpenSpec.upto utteranceInjectiveSpec)

/-- 'narratorlaw41.UtteranceLetters', WHERE WHAT IT READS IS OF BULK AT MOST 1048576: true; the input reads as it did. -/
def utteranceLettersUptoRow : OpenClaim := { program := "ytejjfiipghcifaagreatdoor", sum := "bb8b3f2b9d3123416e55d51eae9572cb6d1c970849b9952b3ebdb5be0f773cc5", func := "narrator/narratorlaw41.UtteranceLetters", spec := "utteranceLetters", inPlace := ["internal/abi.NoEscape", "internal/bytealg.MakeNoZero", "internal/bytealg.CountString", "internal/bytealg.IndexByteString", "internal/bytealg.IndexString"], unfollowed := true, recurses := true, named := ["unicode/utf8.first", "unicode/utf8.acceptRanges", "unicode.CaseRanges", "internal/bytealg.MaxLen", "strings.asciiSpace", "unicode.White_Space", "narrator/spokentext.styles"], apart := false, laid := [("unicode/utf8.acceptRanges", laid_unicode_utf8_acceptRanges), ("unicode.White_Space", laid_unicode_White_Space), ("strings.asciiSpace", laid_strings_asciiSpace), ("narrator/spokentext.styles", laid_narrator_spokentext_styles), ("unicode.CaseRanges", laid_unicode_CaseRanges), ("unicode/utf8.first", laid_unicode_utf8_first)], narrowed := true }
def UtteranceLettersUptoSaid : Prop := utteranceLettersUptoRow.holds Tryz.pinned (OpenSpec.upto utteranceLettersSpec)

end Rows
end Go.Proofs.YtejjfiipghcifaaGreatDoor
