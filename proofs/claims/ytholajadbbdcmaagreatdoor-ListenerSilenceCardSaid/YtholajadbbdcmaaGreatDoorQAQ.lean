/- Joined texts: Sp0. -/
import Derived.Shelf.Strings.OnBuilder
import Derived.Shelf.Strings.BuilderF
import Derived.Shelf.Strings.BuilderK
import Derived.Shelf.Strings.BuilderRune
import Derived.Shelf.Utf8.AppendRunePlain
import Derived.Shelf.LaysM
import Derived.Shelf.Strings.SplitShaped
import Derived.Shelf.Unicode.Decode
import Derived.Shelf.Unicode.DecodeAny
import Derived.Shelf.Strings.MapAny
import Derived.Shelf.Strings.CaseAny
import Derived.Shelf.Unicode.ExclAny
import Derived.Shelf.Spec.SlicesGrow
import Derived.Ground.Names8Prog
import Derived.Lib.Explode
import Derived.Shelf.Unicode.ValidAny
import Derived.SliceStrings
import Derived.ChangeSlices
import Derived.ProofKit
import Derived.OpenShut
import Derived.ShutString
import Derived.ChangeOld
import Derived.Laws.IdiomStrings
import Derived.Test.YtholajadbbdcmaaGreatDoorQAC
import Derived.Test.YtholajadbbdcmaaGreatDoorQAE
import Derived.Test.YtholajadbbdcmaaGreatDoorQAG
set_option linter.unusedVariables false
set_option linter.unusedSimpArgs false
set_option linter.unnecessarySimpa false
namespace Go.Proofs.YtholajadbbdcmaaGreatDoor
open Go.RowKit
set_option maxRecDepth 20000
structure PieceOK (l : List Gl) : Prop where
 n : l.length ≤ 1000
 sz : ∀ g ∈ l, g.text.size ≤ 1000
 ltr : ∀ g t, l = g :: t → kindL g = 1 ∨ kindL g = 2 → ∀ x ∈ l, kindL x = 1 ∨ kindL x = 2
 dig : ∀ g t, l = g :: t → kindL g = 3 → ∀ x ∈ l, kindL x = 3
 oth : ∀ g t, l = g :: t → kindL g = 0 → validB g.text = true
end Go.Proofs.YtholajadbbdcmaaGreatDoor
