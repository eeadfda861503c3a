/-
  NARROWER THAN 'FOR EVERY INPUT', by the rows' own cells (each row's printed sentence says how): SpokentextWords: laid · SpokentextGlyphs: laid · SpokentextResults: laid · SpokentextRoundTrip: laid · SpokentextStyles: laid · SpokentextDistinct: laid · SpokentextPlain: laid · SpokentextForm: laid.
  DERIVED. THE GIVEN ROWS OF THIS SEAT. 8 by the template 'for every input the law returns true; each argument reads behind the call as it read before'; 0 by the template 'total and deterministic' (their statements: YtndgcjdiemfngaaGreatDoorTotals.lean).
  GIVEN WITH THE SEED: the statements are not yours to turn. If you find one false, say at which input.
  Laid BY PROGRAM, IN A SANDBOX (cutbox-rows.mjs): the forced cells as the released guide's own fill.sh prints them over the translation f7886245871aa02f… (all of the seat's roots in one cut). By AI agents, Wed Nov 11 2026. No macro, syntax, notation, axiom, sorry.
-/
import Derived.Test.YtndgcjdiemfngaaGreatDoorChecked
import GoSem.PinnedTables
import GoSem.Claim
import GoSem.ClaimJoined
import GoSem.ClaimMapViews
import Derived.JoinedTies
import Derived.KernelRfl
namespace Go.Proofs.YtndgcjdiemfngaaGreatDoor
/- THE CELL 'sum', in the pinned program and in every row, IS THE sha256 OF THE DUMP (.gsa) THAT YtndgcjdiemfngaaGreatDoorProg.lean LOADS. Nothing in Lean hashes anything: it is a label: what it is worth is what the hold of that sum in a sandbox is worth. -/
noncomputable def Tryz.pinned : Pinned := { name := "ytndgcjdiemfngaagreatdoor", sum := "f7886245871aa02f535c2877d88ad182f5d5ac5e57ae7e5dd0fc74824ab99cfe", checked := Tryz.checked }
namespace Rows
def none {H : Type} : Left H := { results := [], args := [] }

/- WHAT THE LISTED PACKAGE-LEVEL VARIABLES READ AS WHEN THE CALL BEGINS. Each datum BY PROGRAM (the guide's laid-datum.mjs) off the statement by which the dump's own 'gosem.cut.vars' lays the variable. In a bare row this is a premise. The card (YtndgcjdiemfngaaGreatDoorCards.lean) ties it to the program's text. -/
def laid_narrator_narratorref38_units {H : Type} : DataW H := .agg [.lit (.string [122, 101, 114, 111]), .lit (.string [111, 110, 101]), .lit (.string [116, 119, 111]), .lit (.string [116, 104, 114, 101, 101]), .lit (.string [102, 111, 117, 114]), .lit (.string [102, 105, 118, 101]), .lit (.string [115, 105, 120]), .lit (.string [115, 101, 118, 101, 110]), .lit (.string [101, 105, 103, 104, 116]), .lit (.string [110, 105, 110, 101]), .lit (.string [116, 101, 110]), .lit (.string [101, 108, 101, 118, 101, 110]), .lit (.string [116, 119, 101, 108, 118, 101]), .lit (.string [116, 104, 105, 114, 116, 101, 101, 110]), .lit (.string [102, 111, 117, 114, 116, 101, 101, 110]), .lit (.string [102, 105, 102, 116, 101, 101, 110]), .lit (.string [115, 105, 120, 116, 101, 101, 110]), .lit (.string [115, 101, 118, 101, 110, 116, 101, 101, 110]), .lit (.string [101, 105, 103, 104, 116, 101, 101, 110]), .lit (.string [110, 105, 110, 101, 116, 101, 101, 110])]
def laid_narrator_narratorref38_tens {H : Type} : DataW H := .agg [.lit (.string [116, 119, 101, 110, 116, 121]), .lit (.string [116, 104, 105, 114, 116, 121]), .lit (.string [102, 111, 114, 116, 121]), .lit (.string [102, 105, 102, 116, 121]), .lit (.string [115, 105, 120, 116, 121]), .lit (.string [115, 101, 118, 101, 110, 116, 121]), .lit (.string [101, 105, 103, 104, 116, 121]), .lit (.string [110, 105, 110, 101, 116, 121])]
def laid_unicode_utf8_acceptRanges {H : Type} : DataW H := .agg [.agg [.lit (.int .u8 128), .lit (.int .u8 191)], .agg [.lit (.int .u8 160), .lit (.int .u8 191)], .agg [.lit (.int .u8 128), .lit (.int .u8 159)], .agg [.lit (.int .u8 144), .lit (.int .u8 191)], .agg [.lit (.int .u8 128), .lit (.int .u8 143)], .agg [.lit (.int .u8 0), .lit (.int .u8 0)], .agg [.lit (.int .u8 0), .lit (.int .u8 0)], .agg [.lit (.int .u8 0), .lit (.int .u8 0)], .agg [.lit (.int .u8 0), .lit (.int .u8 0)], .agg [.lit (.int .u8 0), .lit (.int .u8 0)], .agg [.lit (.int .u8 0), .lit (.int .u8 0)], .agg [.lit (.int .u8 0), .lit (.int .u8 0)], .agg [.lit (.int .u8 0), .lit (.int .u8 0)], .agg [.lit (.int .u8 0), .lit (.int .u8 0)], .agg [.lit (.int .u8 0), .lit (.int .u8 0)], .agg [.lit (.int .u8 0), .lit (.int .u8 0)]]
def laid_unicode_White_Space {H : Type} : DataW H := .ptr (.agg [.slice [.agg [.lit (.int .u16 9), .lit (.int .u16 13), .lit (.int .u16 1)], .agg [.lit (.int .u16 32), .lit (.int .u16 133), .lit (.int .u16 101)], .agg [.lit (.int .u16 160), .lit (.int .u16 5760), .lit (.int .u16 5600)], .agg [.lit (.int .u16 8192), .lit (.int .u16 8202), .lit (.int .u16 1)], .agg [.lit (.int .u16 8232), .lit (.int .u16 8233), .lit (.int .u16 1)], .agg [.lit (.int .u16 8239), .lit (.int .u16 8287), .lit (.int .u16 48)], .agg [.lit (.int .u16 12288), .lit (.int .u16 12288), .lit (.int .u16 1)]] [], .nil, .lit (.int .i64 2)])
def laid_strings_asciiSpace {H : Type} : DataW H := .agg [.lit (.int .u8 0), .lit (.int .u8 0), .lit (.int .u8 0), .lit (.int .u8 0), .lit (.int .u8 0), .lit (.int .u8 0), .lit (.int .u8 0), .lit (.int .u8 0), .lit (.int .u8 0), .lit (.int .u8 1), .lit (.int .u8 1), .lit (.int .u8 1), .lit (.int .u8 1), .lit (.int .u8 1), .lit (.int .u8 0), .lit (.int .u8 0), .lit (.int .u8 0), .lit (.int .u8 0), .lit (.int .u8 0), .lit (.int .u8 0), .lit (.int .u8 0), .lit (.int .u8 0), .lit (.int .u8 0), .lit (.int .u8 0), .lit (.int .u8 0), .lit (.int .u8 0), .lit (.int .u8 0), .lit (.int .u8 0), .lit (.int .u8 0), .lit (.int .u8 0), .lit (.int .u8 0), .lit (.int .u8 0), .lit (.int .u8 1), .lit (.int .u8 0), .lit (.int .u8 0), .lit (.int .u8 0), .lit (.int .u8 0), .lit (.int .u8 0), .lit (.int .u8 0), .lit (.int .u8 0), .lit (.int .u8 0), .lit (.int .u8 0), .lit (.int .u8 0), .lit (.int .u8 0), .lit (.int .u8 0), .lit (.int .u8 0), .lit (.int .u8 0), .lit (.int .u8 0), .lit (.int .u8 0), .lit (.int .u8 0), .lit (.int .u8 0), .lit (.int .u8 0), .lit (.int .u8 0), .lit (.int .u8 0), .lit (.int .u8 0), .lit (.int .u8 0), .lit (.int .u8 0), .lit (.int .u8 0), .lit (.int .u8 0), .lit (.int .u8 0), .lit (.int .u8 0), .lit (.int .u8 0), .lit (.int .u8 0), .lit (.int .u8 0), .lit (.int .u8 0), .lit (.int .u8 0), .lit (.int .u8 0), .lit (.int .u8 0), .lit (.int .u8 0), .lit (.int .u8 0), .lit (.int .u8 0), .lit (.int .u8 0), .lit (.int .u8 0), .lit (.int .u8 0), .lit (.int .u8 0), .lit (.int .u8 0), .lit (.int .u8 0), .lit (.int .u8 0), .lit (.int .u8 0), .lit (.int .u8 0), .lit (.int .u8 0), .lit (.int .u8 0), .lit (.int .u8 0), .lit (.int .u8 0), .lit (.int .u8 0), .lit (.int .u8 0), .lit (.int .u8 0), .lit (.int .u8 0), .lit (.int .u8 0), .lit (.int .u8 0), .lit (.int .u8 0), .lit (.int .u8 0), .lit (.int .u8 0), .lit (.int .u8 0), .lit (.int .u8 0), .lit (.int .u8 0), .lit (.int .u8 0), .lit (.int .u8 0), .lit (.int .u8 0), .lit (.int .u8 0), .lit (.int .u8 0), .lit (.int .u8 0), .lit (.int .u8 0), .lit (.int .u8 0), .lit (.int .u8 0), .lit (.int .u8 0), .lit (.int .u8 0), .lit (.int .u8 0), .lit (.int .u8 0), .lit (.int .u8 0), .lit (.int .u8 0), .lit (.int .u8 0), .lit (.int .u8 0), .lit (.int .u8 0), .lit (.int .u8 0), .lit (.int .u8 0), .lit (.int .u8 0), .lit (.int .u8 0), .lit (.int .u8 0), .lit (.int .u8 0), .lit (.int .u8 0), .lit (.int .u8 0), .lit (.int .u8 0), .lit (.int .u8 0), .lit (.int .u8 0), .lit (.int .u8 0), .lit (.int .u8 0), .lit (.int .u8 0), .lit (.int .u8 0), .lit (.int .u8 0), .lit (.int .u8 0), .lit (.int .u8 0), .lit (.int .u8 0), .lit (.int .u8 0), .lit (.int .u8 0), .lit (.int .u8 0), .lit (.int .u8 0), .lit (.int .u8 0), .lit (.int .u8 0), .lit (.int .u8 0), .lit (.int .u8 0), .lit (.int .u8 0), .lit (.int .u8 0), .lit (.int .u8 0), .lit (.int .u8 0), .lit (.int .u8 0), .lit (.int .u8 0), .lit (.int .u8 0), .lit (.int .u8 0), .lit (.int .u8 0), .lit (.int .u8 0), .lit (.int .u8 0), .lit (.int .u8 0), .lit (.int .u8 0), .lit (.int .u8 0), .lit (.int .u8 0), .lit (.int .u8 0), .lit (.int .u8 0), .lit (.int .u8 0), .lit (.int .u8 0), .lit (.int .u8 0), .lit (.int .u8 0), .lit (.int .u8 0), .lit (.int .u8 0), .lit (.int .u8 0), .lit (.int .u8 0), .lit (.int .u8 0), .lit (.int .u8 0), .lit (.int .u8 0), .lit (.int .u8 0), .lit (.int .u8 0), .lit (.int .u8 0), .lit (.int .u8 0), .lit (.int .u8 0), .lit (.int .u8 0), .lit (.int .u8 0), .lit (.int .u8 0), .lit (.int .u8 0), .lit (.int .u8 0), .lit (.int .u8 0), .lit (.int .u8 0), .lit (.int .u8 0), .lit (.int .u8 0), .lit (.int .u8 0), .lit (.int .u8 0), .lit (.int .u8 0), .lit (.int .u8 0), .lit (.int .u8 0), .lit (.int .u8 0), .lit (.int .u8 0), .lit (.int .u8 0), .lit (.int .u8 0), .lit (.int .u8 0), .lit (.int .u8 0), .lit (.int .u8 0), .lit (.int .u8 0), .lit (.int .u8 0), .lit (.int .u8 0), .lit (.int .u8 0), .lit (.int .u8 0), .lit (.int .u8 0), .lit (.int .u8 0), .lit (.int .u8 0), .lit (.int .u8 0), .lit (.int .u8 0), .lit (.int .u8 0), .lit (.int .u8 0), .lit (.int .u8 0), .lit (.int .u8 0), .lit (.int .u8 0), .lit (.int .u8 0), .lit (.int .u8 0), .lit (.int .u8 0), .lit (.int .u8 0), .lit (.int .u8 0), .lit (.int .u8 0), .lit (.int .u8 0), .lit (.int .u8 0), .lit (.int .u8 0), .lit (.int .u8 0), .lit (.int .u8 0), .lit (.int .u8 0), .lit (.int .u8 0), .lit (.int .u8 0), .lit (.int .u8 0), .lit (.int .u8 0), .lit (.int .u8 0), .lit (.int .u8 0), .lit (.int .u8 0), .lit (.int .u8 0), .lit (.int .u8 0), .lit (.int .u8 0), .lit (.int .u8 0), .lit (.int .u8 0), .lit (.int .u8 0), .lit (.int .u8 0), .lit (.int .u8 0), .lit (.int .u8 0), .lit (.int .u8 0), .lit (.int .u8 0), .lit (.int .u8 0), .lit (.int .u8 0), .lit (.int .u8 0), .lit (.int .u8 0), .lit (.int .u8 0), .lit (.int .u8 0), .lit (.int .u8 0), .lit (.int .u8 0), .lit (.int .u8 0), .lit (.int .u8 0), .lit (.int .u8 0), .lit (.int .u8 0), .lit (.int .u8 0), .lit (.int .u8 0), .lit (.int .u8 0), .lit (.int .u8 0)]
def laid_narrator_spokentext_styles {H : Type} : DataW H := .agg [.lit (.string [112, 108, 97, 105, 110]), .lit (.string [115, 116, 114, 111, 110, 103]), .lit (.string [105, 110, 118, 101, 114, 115, 101]), .lit (.string [104, 105, 100, 100, 101, 110])]
/-- One of Go's own tables, pinned by name: the form's constant. -/
def laid_unicode_CaseRanges : DataW Unit := Go.Pinned.caseRanges
/-- One of Go's own tables, pinned by name: the form's constant. -/
def laid_unicode_utf8_first : DataW Unit := Go.Pinned.utf8First

/-- 'narratorlaw40.SpokentextWords': WHATEVER THE INPUT: true; the input reads as it did. -/
def spokentextWordsSpec : ChangeSpec := { name := "spokentextWords", fn := fun _ => fun
  | [d1, d2] => { results := [.lit (.bool true)], args := [d1, d2] }
  | _ => none }
def spokentextWordsRow : OpenClaim := { program := "ytndgcjdiemfngaagreatdoor", sum := "f7886245871aa02f535c2877d88ad182f5d5ac5e57ae7e5dd0fc74824ab99cfe", func := "narrator/narratorlaw40.SpokentextWords", spec := "spokentextWords", inPlace := ["internal/abi.NoEscape", "internal/bytealg.MakeNoZero", "internal/bytealg.CountString", "internal/bytealg.IndexByteString", "internal/bytealg.IndexString"], unfollowed := true, recurses := true, named := ["unicode/utf8.first", "unicode/utf8.acceptRanges", "unicode.CaseRanges", "internal/bytealg.MaxLen", "strings.asciiSpace", "unicode.White_Space", "narrator/spokentext.styles", "narrator/narratorref38.units", "narrator/narratorref38.tens"], apart := false, laid := [("narrator/narratorref38.units", laid_narrator_narratorref38_units), ("narrator/narratorref38.tens", laid_narrator_narratorref38_tens), ("unicode/utf8.acceptRanges", laid_unicode_utf8_acceptRanges), ("unicode.White_Space", laid_unicode_White_Space), ("strings.asciiSpace", laid_strings_asciiSpace), ("narrator/spokentext.styles", laid_narrator_spokentext_styles), ("unicode.CaseRanges", laid_unicode_CaseRanges), ("unicode/utf8.first", laid_unicode_utf8_first)] }
def SpokentextWordsSaid : Prop := spokentextWordsRow.holds Tryz.pinned (OpenSpec.ofChange spokentextWordsSpec)

/-- ITS FALSE NEIGHBOUR: 'it returns false'. Refute it at one input. -/
def spokentextWordsWrong : ChangeSpec := { name := "spokentextWords", fn := fun _ => fun
  | [d1, d2] => { results := [.lit (.bool false)], args := [d1, d2] }
  | _ => none }
def SpokentextWordsWrongFalsely : Prop := spokentextWordsRow.holds Tryz.pinned (OpenSpec.ofChange spokentextWordsWrong)

/-- 'narratorlaw40.SpokentextGlyphs': WHATEVER THE INPUT: true; the input reads as it did. -/
def spokentextGlyphsSpec : ChangeSpec := { name := "spokentextGlyphs", fn := fun _ => fun
  | [d] => { results := [.lit (.bool true)], args := [d] }
  | _ => none }
def spokentextGlyphsRow : OpenClaim := { program := "ytndgcjdiemfngaagreatdoor", sum := "f7886245871aa02f535c2877d88ad182f5d5ac5e57ae7e5dd0fc74824ab99cfe", func := "narrator/narratorlaw40.SpokentextGlyphs", spec := "spokentextGlyphs", inPlace := ["internal/abi.NoEscape", "internal/bytealg.MakeNoZero", "internal/bytealg.CountString", "internal/bytealg.IndexByteString", "internal/bytealg.IndexString"], unfollowed := true, recurses := true, named := ["unicode/utf8.first", "unicode/utf8.acceptRanges", "unicode.CaseRanges", "internal/bytealg.MaxLen", "strings.asciiSpace", "unicode.White_Space", "narrator/spokentext.styles", "narrator/narratorref38.units", "narrator/narratorref38.tens"], apart := false, laid := [("narrator/narratorref38.units", laid_narrator_narratorref38_units), ("narrator/narratorref38.tens", laid_narrator_narratorref38_tens), ("unicode/utf8.acceptRanges", laid_unicode_utf8_acceptRanges), ("unicode.White_Space", laid_unicode_White_Space), ("strings.asciiSpace", laid_strings_asciiSpace), ("narrator/spokentext.styles", laid_narrator_spokentext_styles), ("unicode.CaseRanges", laid_unicode_CaseRanges), ("unicode/utf8.first", laid_unicode_utf8_first)] }
def SpokentextGlyphsSaid : Prop := spokentextGlyphsRow.holds Tryz.pinned (OpenSpec.ofChange spokentextGlyphsSpec)

/-- ITS FALSE NEIGHBOUR: 'it returns false'. Refute it at one input. -/
def spokentextGlyphsWrong : ChangeSpec := { name := "spokentextGlyphs", fn := fun _ => fun
  | [d] => { results := [.lit (.bool false)], args := [d] }
  | _ => none }
def SpokentextGlyphsWrongFalsely : Prop := spokentextGlyphsRow.holds Tryz.pinned (OpenSpec.ofChange spokentextGlyphsWrong)

/-- 'narratorlaw40.SpokentextResults': WHATEVER THE INPUT: true; the input reads as it did. -/
def spokentextResultsSpec : ChangeSpec := { name := "spokentextResults", fn := fun _ => fun
  | [d1, d2] => { results := [.lit (.bool true)], args := [d1, d2] }
  | _ => none }
def spokentextResultsRow : OpenClaim := { program := "ytndgcjdiemfngaagreatdoor", sum := "f7886245871aa02f535c2877d88ad182f5d5ac5e57ae7e5dd0fc74824ab99cfe", func := "narrator/narratorlaw40.SpokentextResults", spec := "spokentextResults", inPlace := ["internal/abi.NoEscape", "internal/bytealg.MakeNoZero", "internal/bytealg.CountString", "internal/bytealg.IndexByteString", "internal/bytealg.IndexString"], unfollowed := true, recurses := true, named := ["unicode/utf8.first", "unicode/utf8.acceptRanges", "unicode.CaseRanges", "internal/bytealg.MaxLen", "strings.asciiSpace", "unicode.White_Space", "narrator/spokentext.styles", "narrator/narratorref38.units", "narrator/narratorref38.tens"], apart := false, laid := [("narrator/narratorref38.units", laid_narrator_narratorref38_units), ("narrator/narratorref38.tens", laid_narrator_narratorref38_tens), ("unicode/utf8.acceptRanges", laid_unicode_utf8_acceptRanges), ("unicode.White_Space", laid_unicode_White_Space), ("strings.asciiSpace", laid_strings_asciiSpace), ("narrator/spokentext.styles", laid_narrator_spokentext_styles), ("unicode.CaseRanges", laid_unicode_CaseRanges), ("unicode/utf8.first", laid_unicode_utf8_first)] }
def SpokentextResultsSaid : Prop := spokentextResultsRow.holds Tryz.pinned (OpenSpec.ofChange spokentextResultsSpec)

/-- ITS FALSE NEIGHBOUR: 'it returns false'. Refute it at one input. -/
def spokentextResultsWrong : ChangeSpec := { name := "spokentextResults", fn := fun _ => fun
  | [d1, d2] => { results := [.lit (.bool false)], args := [d1, d2] }
  | _ => none }
def SpokentextResultsWrongFalsely : Prop := spokentextResultsRow.holds Tryz.pinned (OpenSpec.ofChange spokentextResultsWrong)

/-- 'narratorlaw40.SpokentextRoundTrip': WHATEVER THE INPUT: true; the input reads as it did. -/
def spokentextRoundTripSpec : ChangeSpec := { name := "spokentextRoundTrip", fn := fun _ => fun
  | [d1, d2] => { results := [.lit (.bool true)], args := [d1, d2] }
  | _ => none }
def spokentextRoundTripRow : OpenClaim := { program := "ytndgcjdiemfngaagreatdoor", sum := "f7886245871aa02f535c2877d88ad182f5d5ac5e57ae7e5dd0fc74824ab99cfe", func := "narrator/narratorlaw40.SpokentextRoundTrip", spec := "spokentextRoundTrip", inPlace := ["internal/abi.NoEscape", "internal/bytealg.MakeNoZero", "internal/bytealg.CountString", "internal/bytealg.IndexByteString", "internal/bytealg.IndexString"], unfollowed := true, recurses := true, named := ["unicode/utf8.first", "unicode/utf8.acceptRanges", "unicode.CaseRanges", "internal/bytealg.MaxLen", "strings.asciiSpace", "unicode.White_Space", "narrator/spokentext.styles"], apart := false, laid := [("unicode/utf8.acceptRanges", laid_unicode_utf8_acceptRanges), ("unicode.White_Space", laid_unicode_White_Space), ("strings.asciiSpace", laid_strings_asciiSpace), ("narrator/spokentext.styles", laid_narrator_spokentext_styles), ("unicode.CaseRanges", laid_unicode_CaseRanges), ("unicode/utf8.first", laid_unicode_utf8_first)] }
def SpokentextRoundTripSaid : Prop := spokentextRoundTripRow.holds Tryz.pinned (OpenSpec.ofChange spokentextRoundTripSpec)

/-- ITS FALSE NEIGHBOUR: 'it returns false'. Refute it at one input. -/
def spokentextRoundTripWrong : ChangeSpec := { name := "spokentextRoundTrip", fn := fun _ => fun
  | [d1, d2] => { results := [.lit (.bool false)], args := [d1, d2] }
  | _ => none }
def SpokentextRoundTripWrongFalsely : Prop := spokentextRoundTripRow.holds Tryz.pinned (OpenSpec.ofChange spokentextRoundTripWrong)

/-- 'narratorlaw40.SpokentextStyles': WHATEVER THE INPUT: true; the input reads as it did. -/
def spokentextStylesSpec : ChangeSpec := { name := "spokentextStyles", fn := fun _ => fun
  | [d1, d2, d3] => { results := [.lit (.bool true)], args := [d1, d2, d3] }
  | _ => none }
def spokentextStylesRow : OpenClaim := { program := "ytndgcjdiemfngaagreatdoor", sum := "f7886245871aa02f535c2877d88ad182f5d5ac5e57ae7e5dd0fc74824ab99cfe", func := "narrator/narratorlaw40.SpokentextStyles", spec := "spokentextStyles", inPlace := ["internal/abi.NoEscape", "internal/bytealg.MakeNoZero", "internal/bytealg.CountString", "internal/bytealg.IndexByteString", "internal/bytealg.IndexString"], unfollowed := true, recurses := true, named := ["unicode/utf8.first", "unicode/utf8.acceptRanges", "unicode.CaseRanges", "internal/bytealg.MaxLen", "strings.asciiSpace", "unicode.White_Space", "narrator/spokentext.styles"], apart := false, laid := [("unicode/utf8.acceptRanges", laid_unicode_utf8_acceptRanges), ("unicode.White_Space", laid_unicode_White_Space), ("strings.asciiSpace", laid_strings_asciiSpace), ("narrator/spokentext.styles", laid_narrator_spokentext_styles), ("unicode.CaseRanges", laid_unicode_CaseRanges), ("unicode/utf8.first", laid_unicode_utf8_first)] }
def SpokentextStylesSaid : Prop := spokentextStylesRow.holds Tryz.pinned (OpenSpec.ofChange spokentextStylesSpec)

/-- ITS FALSE NEIGHBOUR: 'it returns false'. Refute it at one input. -/
def spokentextStylesWrong : ChangeSpec := { name := "spokentextStyles", fn := fun _ => fun
  | [d1, d2, d3] => { results := [.lit (.bool false)], args := [d1, d2, d3] }
  | _ => none }
def SpokentextStylesWrongFalsely : Prop := spokentextStylesRow.holds Tryz.pinned (OpenSpec.ofChange spokentextStylesWrong)

/-- 'narratorlaw40.SpokentextDistinct': WHATEVER THE INPUT: true; the input reads as it did. -/
def spokentextDistinctSpec : ChangeSpec := { name := "spokentextDistinct", fn := fun _ => fun
  | [d1, d2, d3, d4] => { results := [.lit (.bool true)], args := [d1, d2, d3, d4] }
  | _ => none }
def spokentextDistinctRow : OpenClaim := { program := "ytndgcjdiemfngaagreatdoor", sum := "f7886245871aa02f535c2877d88ad182f5d5ac5e57ae7e5dd0fc74824ab99cfe", func := "narrator/narratorlaw40.SpokentextDistinct", spec := "spokentextDistinct", inPlace := ["internal/abi.NoEscape", "internal/bytealg.MakeNoZero", "internal/bytealg.CountString", "internal/bytealg.IndexByteString", "internal/bytealg.IndexString"], unfollowed := true, recurses := true, named := ["unicode/utf8.first", "unicode/utf8.acceptRanges", "unicode.CaseRanges", "internal/bytealg.MaxLen", "strings.asciiSpace", "unicode.White_Space", "narrator/spokentext.styles"], apart := false, laid := [("unicode/utf8.acceptRanges", laid_unicode_utf8_acceptRanges), ("unicode.White_Space", laid_unicode_White_Space), ("strings.asciiSpace", laid_strings_asciiSpace), ("narrator/spokentext.styles", laid_narrator_spokentext_styles), ("unicode.CaseRanges", laid_unicode_CaseRanges), ("unicode/utf8.first", laid_unicode_utf8_first)] }
def SpokentextDistinctSaid : Prop := spokentextDistinctRow.holds Tryz.pinned (OpenSpec.ofChange spokentextDistinctSpec)

/-- ITS FALSE NEIGHBOUR: 'it returns false'. Refute it at one input. -/
def spokentextDistinctWrong : ChangeSpec := { name := "spokentextDistinct", fn := fun _ => fun
  | [d1, d2, d3, d4] => { results := [.lit (.bool false)], args := [d1, d2, d3, d4] }
  | _ => none }
def SpokentextDistinctWrongFalsely : Prop := spokentextDistinctRow.holds Tryz.pinned (OpenSpec.ofChange spokentextDistinctWrong)

/-- 'narratorlaw40.SpokentextPlain': WHATEVER THE INPUT: true; the input reads as it did. -/
def spokentextPlainSpec : ChangeSpec := { name := "spokentextPlain", fn := fun _ => fun
  | [d1, d2, d3] => { results := [.lit (.bool true)], args := [d1, d2, d3] }
  | _ => none }
def spokentextPlainRow : OpenClaim := { program := "ytndgcjdiemfngaagreatdoor", sum := "f7886245871aa02f535c2877d88ad182f5d5ac5e57ae7e5dd0fc74824ab99cfe", func := "narrator/narratorlaw40.SpokentextPlain", spec := "spokentextPlain", inPlace := ["internal/abi.NoEscape", "internal/bytealg.MakeNoZero", "internal/bytealg.CountString", "internal/bytealg.IndexByteString", "internal/bytealg.IndexString"], unfollowed := true, recurses := true, named := ["unicode/utf8.first", "unicode/utf8.acceptRanges", "unicode.CaseRanges", "internal/bytealg.MaxLen", "strings.asciiSpace", "unicode.White_Space", "narrator/spokentext.styles"], apart := false, laid := [("unicode/utf8.acceptRanges", laid_unicode_utf8_acceptRanges), ("unicode.White_Space", laid_unicode_White_Space), ("strings.asciiSpace", laid_strings_asciiSpace), ("narrator/spokentext.styles", laid_narrator_spokentext_styles), ("unicode.CaseRanges", laid_unicode_CaseRanges), ("unicode/utf8.first", laid_unicode_utf8_first)] }
def SpokentextPlainSaid : Prop := spokentextPlainRow.holds Tryz.pinned (OpenSpec.ofChange spokentextPlainSpec)

/-- ITS FALSE NEIGHBOUR: 'it returns false'. Refute it at one input. -/
def spokentextPlainWrong : ChangeSpec := { name := "spokentextPlain", fn := fun _ => fun
  | [d1, d2, d3] => { results := [.lit (.bool false)], args := [d1, d2, d3] }
  | _ => none }
def SpokentextPlainWrongFalsely : Prop := spokentextPlainRow.holds Tryz.pinned (OpenSpec.ofChange spokentextPlainWrong)

/-- 'narratorlaw40.SpokentextForm': WHATEVER THE INPUT: true; the input reads as it did. -/
def spokentextFormSpec : ChangeSpec := { name := "spokentextForm", fn := fun _ => fun
  | [d1, d2] => { results := [.lit (.bool true)], args := [d1, d2] }
  | _ => none }
def spokentextFormRow : OpenClaim := { program := "ytndgcjdiemfngaagreatdoor", sum := "f7886245871aa02f535c2877d88ad182f5d5ac5e57ae7e5dd0fc74824ab99cfe", func := "narrator/narratorlaw40.SpokentextForm", spec := "spokentextForm", inPlace := ["internal/abi.NoEscape", "internal/bytealg.MakeNoZero", "internal/bytealg.CountString", "internal/bytealg.IndexByteString", "internal/bytealg.IndexString"], unfollowed := true, recurses := true, named := ["unicode/utf8.first", "unicode/utf8.acceptRanges", "unicode.CaseRanges", "internal/bytealg.MaxLen", "strings.asciiSpace", "unicode.White_Space", "narrator/spokentext.styles"], apart := false, laid := [("unicode/utf8.acceptRanges", laid_unicode_utf8_acceptRanges), ("unicode.White_Space", laid_unicode_White_Space), ("strings.asciiSpace", laid_strings_asciiSpace), ("narrator/spokentext.styles", laid_narrator_spokentext_styles), ("unicode.CaseRanges", laid_unicode_CaseRanges), ("unicode/utf8.first", laid_unicode_utf8_first)] }
def SpokentextFormSaid : Prop := spokentextFormRow.holds Tryz.pinned (OpenSpec.ofChange spokentextFormSpec)

/-- ITS FALSE NEIGHBOUR: 'it returns false'. Refute it at one input. -/
def spokentextFormWrong : ChangeSpec := { name := "spokentextForm", fn := fun _ => fun
  | [d1, d2] => { results := [.lit (.bool false)], args := [d1, d2] }
  | _ => none }
def SpokentextFormWrongFalsely : Prop := spokentextFormRow.holds Tryz.pinned (OpenSpec.ofChange spokentextFormWrong)

/- THE SECOND FORM. 'bulk': how many values and letters a reading holds, each counted each time it is reached (what is shared counts as often as it is met; a slice's spare places count too). A statement '..UptoSaid' is the law's where the arguments, and the package variables that the reading takes, are together of bulk at most 1048576: NARROWER than '..Said'. Prove '..Said' where nothing that the law and all that it calls make is longer than what came in: it says more and counts as full. Else prove '..UptoSaid'. A law counts once. -/
mutual
def uptoBulk {H : Type} : DataW H → Nat
  | .lit (.string bytes) => bytes.length + 1
  | .lit _ => 1
  | .nil => 1
  | .ptr d => uptoBulk d + 1
  | .slice elems spare => uptoBulkAll elems + uptoBulkAll spare + 1
  | .agg parts => uptoBulkAll parts + 1
  | .iface _ d => uptoBulk d + 1
  | .map entries => uptoBulkEntries entries + 1
  | .held _ => 1
def uptoBulkAll {H : Type} : List (DataW H) → Nat
  | [] => 0
  | d :: r => uptoBulk d + uptoBulkAll r
def uptoBulkEntries {H : Type} : List (Lit × DataW H) → Nat
  | [] => 0
  | x :: r => uptoBulkEntry x + uptoBulkEntries r
def uptoBulkEntry {H : Type} : Lit × DataW H → Nat
  | (.string bytes, d) => bytes.length + uptoBulk d + 1
  | (_, d) => uptoBulk d + 1
 end
def uptoSmall : (H : Type) → List (DataW H) → Bool := fun _ ds => decide (uptoBulkAll ds ≤ 1048576)
def OpenSpec.upto (s : _root_.Go.ChangeSpec) : _root_.Go.OpenSpec := { _root_.Go.OpenSpec.ofChange s with cond := some uptoSmall }

/-- 'narratorlaw40.SpokentextWords', WHERE WHAT IT READS IS OF BULK AT MOST 1048576: true; the input reads as it did. -/
def spokentextWordsUptoRow : OpenClaim := { program := "ytndgcjdiemfngaagreatdoor", sum := "f7886245871aa02f535c2877d88ad182f5d5ac5e57ae7e5dd0fc74824ab99cfe", func := "narrator/narratorlaw40.SpokentextWords", spec := "spokentextWords", inPlace := ["internal/abi.NoEscape", "internal/bytealg.MakeNoZero", "internal/bytealg.CountString", "internal/bytealg.IndexByteString", "internal/bytealg.IndexString"], unfollowed := true, recurses := true, named := ["unicode/utf8.first", "unicode/utf8.acceptRanges", "unicode.CaseRanges", "internal/bytealg.MaxLen", "strings.asciiSpace", "unicode.White_Space", "narrator/spokentext.styles", "narrator/narratorref38.units", "narrator/narratorref38.tens"], apart := false, laid := [("narrator/narratorref38.units", laid_narrator_narratorref38_units), ("narrator/narratorref38.tens", laid_narrator_narratorref38_tens), ("unicode/utf8.acceptRanges", laid_unicode_utf8_acceptRanges), ("unicode.White_Space", laid_unicode_White_Space), ("strings.asciiSpace", laid_strings_asciiSpace), ("narrator/spokentext.styles", laid_narrator_spokentext_styles), ("unicode.CaseRanges", laid_unicode_CaseRanges), ("unicode/utf8.first", laid_unicode_utf8_first)], narrowed := true }
def SpokentextWordsUptoSaid : Prop := spokentextWordsUptoRow.holds Tryz.pinned (OpenSpec.upto spokentextWordsSpec)

/-- 'narratorlaw40.SpokentextGlyphs', WHERE WHAT IT READS IS OF BULK AT MOST 1048576: true; the input reads as it did. -/
def spokentextGlyphsUptoRow : OpenClaim := { program := "ytndgcjdiemfngaagreatdoor", sum := "f7886245871aa02f535c2877d88ad182f5d5ac5e57ae7e5dd0fc74824ab99cfe", func := "narrator/narratorlaw40.SpokentextGlyphs", spec := "spokentextGlyphs", inPlace := ["internal/abi.NoEscape", "internal/bytealg.MakeNoZero", "internal/bytealg.CountString", "internal/bytealg.IndexByteString", "internal/bytealg.IndexString"], unfollowed := true, recurses := true, named := ["unicode/utf8.first", "unicode/utf8.acceptRanges", "unicode.CaseRanges", "internal/bytealg.MaxLen", "strings.asciiSpace", "unicode.White_Space", "narrator/spokentext.styles", "narrator/narratorref38.units", "narrator/narratorref38.tens"], apart := false, laid := [("narrator/narratorref38.units", laid_narrator_narratorref38_units), ("narrator/narratorref38.tens", laid_narrator_narratorref38_tens), ("unicode/utf8.acceptRanges", laid_unicode_utf8_acceptRanges), ("unicode.White_Space", laid_unicode_White_Space), ("strings.asciiSpace", laid_strings_asciiSpace), ("narrator/spokentext.styles", laid_narrator_spokentext_styles), ("unicode.CaseRanges", laid_unicode_CaseRanges), ("unicode/utf8.first", laid_unicode_utf8_first)], narrowed := true }
def SpokentextGlyphsUptoSaid : Prop := spokentextGlyphsUptoRow.holds Tryz.pinned (OpenSpec.upto spokentextGlyphsSpec)

/-- 'narratorlaw40.SpokentextResults', WHERE WHAT IT READS IS OF BULK AT MOST 1048576: true; the input reads as it did. -/
def spokentextResultsUptoRow : OpenClaim := { program := "ytndgcjdiemfngaagreatdoor", sum := "f7886245871aa02f535c2877d88ad182f5d5ac5e57ae7e5dd0fc74824ab99cfe", func := "narrator/narratorlaw40.SpokentextResults", spec := "spokentextResults", inPlace := ["internal/abi.NoEscape", "internal/bytealg.MakeNoZero", "internal/bytealg.CountString", "internal/bytealg.IndexByteString", "internal/bytealg.IndexString"], unfollowed := true, recurses := true, named := ["unicode/utf8.first", "unicode/utf8.acceptRanges", "unicode.CaseRanges", "internal/bytealg.MaxLen", "strings.asciiSpace", "unicode.White_Space", "narrator/spokentext.styles", "narrator/narratorref38.units", "narrator/narratorref38.tens"], apart := false, laid := [("narrator/narratorref38.units", laid_narrator_narratorref38_units), ("narrator/narratorref38.tens", laid_narrator_narratorref38_tens), ("unicode/utf8.acceptRanges", laid_unicode_utf8_acceptRanges), ("unicode.White_Space", laid_unicode_White_Space), ("strings.asciiSpace", laid_strings_asciiSpace), ("narrator/spokentext.styles", laid_narrator_spokentext_styles), ("unicode.CaseRanges", laid_unicode_CaseRanges), ("unicode/utf8.first", laid_unicode_utf8_first)], narrowed := true }
def SpokentextResultsUptoSaid : Prop := spokentextResultsUptoRow.holds Tryz.pinned (OpenSpec.upto spokentextResultsSpec)

/-- 'narratorlaw40.SpokentextRoundTrip', WHERE WHAT IT READS IS OF BULK AT MOST 1048576: true; the input reads as it did. -/
def spokentextRoundTripUptoRow : OpenClaim := { program := "ytndgcjdiemfngaagreatdoor", sum := "f7886245871aa02f535c2877d88ad182f5d5ac5e57ae7e5dd0fc74824ab99cfe", func := "narrator/narratorlaw40.SpokentextRoundTrip", spec := "spokentextRoundTrip", inPlace := ["internal/abi.NoEscape", "internal/bytealg.MakeNoZero", "internal/bytealg.CountString", "internal/bytealg.IndexByteString", "internal/bytealg.IndexString"], unfollowed := true, recurses := true, named := ["unicode/utf8.first", "unicode/utf8.acceptRanges", "unicode.CaseRanges", "internal/bytealg.MaxLen", "strings.asciiSpace", "unicode.White_Space", "narrator/spokentext.styles"], apart := false, laid := [("unicode/utf8.acceptRanges", laid_unicode_utf8_acceptRanges), ("unicode.White_Space", laid_unicode_White_Space), ("strings.asciiSpace", laid_strings_asciiSpace), ("narrator/spokentext.styles", laid_narrator_spokentext_styles), ("unicode.CaseRanges", laid_unicode_CaseRanges), ("unicode/utf8.first", laid_unicode_utf8_first)], narrowed := true }
def SpokentextRoundTripUptoSaid : Prop := spokentextRoundTripUptoRow.holds Tryz.pinned (OpenSpec.upto spokentextRoundTripSpec)

/-- 'narratorlaw40.SpokentextStyles', WHERE WHAT IT READS IS OF BULK AT MOST 1048576: true; the input reads as it did. -/
def spokentextStylesUptoRow : OpenClaim := { program := "ytndgcjdiemfngaagreatdoor", sum := "f7886245871aa02f535c2877d88ad182f5d5ac5e57ae7e5dd0fc74824ab99cfe", func := "narrator/narratorlaw40.SpokentextStyles", spec := "spokentextStyles", inPlace := ["internal/abi.NoEscape", "internal/bytealg.MakeNoZero", "internal/bytealg.CountString", "internal/bytealg.IndexByteString", "internal/bytealg.IndexString"], unfollowed := true, recurses := true, named := ["unicode/utf8.first", "unicode/utf8.acceptRanges", "unicode.CaseRanges", "internal/bytealg.MaxLen", "strings.asciiSpace", "unicode.White_Space", "narrator/spokentext.styles"], apart := false, laid := [("unicode/utf8.acceptRanges", laid_unicode_utf8_acceptRanges), ("unicode.White_Space", laid_unicode_White_Space), ("strings.asciiSpace", laid_strings_asciiSpace), ("narrator/spokentext.styles", laid_narrator_spokentext_styles), ("unicode.CaseRanges", laid_unicode_CaseRanges), ("unicode/utf8.first", laid_unicode_utf8_first)], narrowed := true }
def SpokentextStylesUptoSaid : Prop := spokentextStylesUptoRow.holds Tryz.pinned (OpenSpec.upto spokentextStylesSpec)

/-- 'narratorlaw40.SpokentextDistinct', WHERE WHAT IT READS IS OF BULK AT MOST 1048576: true; the input reads as it did. -/
def spokentextDistinctUptoRow : OpenClaim := { program := "ytndgcjdiemfngaagreatdoor", sum := "f7886245871aa02f535c2877d88ad182f5d5ac5e57ae7e5dd0fc74824ab99cfe", func := "narrator/narratorlaw40.SpokentextDistinct", spec := "spokentextDistinct", inPlace := ["internal/abi.NoEscape", "internal/bytealg.MakeNoZero", "internal/bytealg.CountString", "internal/bytealg.IndexByteString", "internal/bytealg.IndexString"], unfollowed := true, recurses := true, named := ["unicode/utf8.first", "unicode/utf8.acceptRanges", "unicode.CaseRanges", "internal/bytealg.MaxLen", "strings.asciiSpace", "unicode.White_Space", "narrator/spokentext.styles"], apart := false, laid := [("unicode/utf8.acceptRanges", laid_unicode_utf8_acceptRanges), ("unicode.White_Space", laid_unicode_White_Space), ("strings.asciiSpace", laid_strings_asciiSpace), ("narrator/spokentext.styles", laid_narrator_spokentext_styles), ("unicode.CaseRanges", laid_unicode_CaseRanges), ("unicode/utf8.first", laid_unicode_utf8_first)], narrowed := true }
def SpokentextDistinctUptoSaid : Prop := spokentextDistinctUptoRow.holds Tryz.pinned (OpenSpec.upto spokentextDistinctSpec)

/-- 'narratorlaw40.SpokentextPlain', WHERE WHAT IT READS IS OF BULK AT MOST 1048576: true; the input reads as it did. -/
def spokentextPlainUptoRow : OpenClaim := { program := "ytndgcjdiemfngaagreatdoor", sum := "f7886245871aa02f535c2877d88ad182f5d5ac5e57ae7e5dd0fc74824ab99cfe", func := "narrator/narratorlaw40.SpokentextPlain", spec := "spokentextPlain", inPlace := ["internal/abi.NoEscape", "internal/bytealg.MakeNoZero", "internal/bytealg.CountString", "internal/bytealg.IndexByteString", "internal/bytealg.IndexString"], unfollowed := true, recurses := true, named := ["unicode/utf8.first", "unicode/utf8.acceptRanges", "unicode.CaseRanges", "internal/bytealg.MaxLen", "strings.asciiSpace", "unicode.White_Space", "narrator/spokentext.styles"], apart := false, laid := [("unicode/utf8.acceptRanges", laid_unicode_utf8_acceptRanges), ("unicode.White_Space", laid_unicode_White_Space), ("strings.asciiSpace", laid_strings_asciiSpace), ("narrator/spokentext.styles", laid_narrator_spokentext_styles), ("unicode.CaseRanges", laid_unicode_CaseRanges), ("unicode/utf8.first", laid_unicode_utf8_first)], narrowed := true }
def SpokentextPlainUptoSaid : Prop := spokentextPlainUptoRow.holds Tryz.pinned (OpenSpec.upto spokentextPlainSpec)

/-- 'narratorlaw40.SpokentextForm', WHERE WHAT IT READS IS OF BULK AT MOST 1048576: true; the input reads as it did. -/
def spokentextFormUptoRow : OpenClaim := { program := "ytndgcjdiemfngaagreatdoor", sum := "f7886245871aa02f535c2877d88ad182f5d5ac5e57ae7e5dd0fc74824ab99cfe", func := "narrator/narratorlaw40.SpokentextForm", spec := "spokentextForm", inPlace := ["internal/abi.NoEscape", "internal/bytealg.MakeNoZero", "internal/bytealg.CountString", "internal/bytealg.IndexByteString", "internal/bytealg.IndexString"], unfollowed := true, recurses := true, named := ["unicode/utf8.first", "unicode/utf8.acceptRanges", "unicode.CaseRanges", "internal/bytealg.MaxLen", "strings.asciiSpace", "unicode.White_Space", "narrator/spokentext.styles"], apart := false, laid := [("unicode/utf8.acceptRanges", laid_unicode_utf8_acceptRanges), ("unicode.White_Space", laid_unicode_White_Space), ("strings.asciiSpace", laid_strings_asciiSpace), ("narrator/spokentext.styles", laid_narrator_spokentext_styles), ("unicode.CaseRanges", laid_unicode_CaseRanges), ("unicode/utf8.first", laid_unicode_utf8_first)], narrowed := true }
def SpokentextFormUptoSaid : Prop := spokentextFormUptoRow.holds Tryz.pinned (OpenSpec.upto spokentextFormSpec)

end Rows
end Go.Proofs.YtndgcjdiemfngaaGreatDoor
