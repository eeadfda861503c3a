/- Joined: Gl1. -/
import Derived.Shelf.Unicode.ValidAny
import Derived.SliceStrings
import Derived.ChangeSlices
import Derived.ProofKit
import Derived.OpenShut
import Derived.ShutString
import Derived.Laws.IdiomStrings
import Derived.Test.YticbpkghcglgkaaGreatDoorVAF
set_option linter.unusedVariables false
set_option linter.unusedSimpArgs false
set_option linter.unnecessarySimpa false
namespace Go.Proofs.YticbpkghcglgkaaGreatDoor
open Go.Proofs.Tryz Go.RowKit
set_option maxRecDepth 20000
def qJ (g:Gl):Int:=if zB g.text≠0 then 3 else if g.wide≠decide (kb g.text=2)∨g.style<0∨3<g.style∨(g.style=3/\g.text≠⟨#[42]⟩) then 9 else 0
end Go.Proofs.YticbpkghcglgkaaGreatDoor
