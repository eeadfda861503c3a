/- Joined: UrP, Ur7. -/
import Derived.StillTailTactics
import Derived.Test.YticbpkghcglgkaaGreatDoorVAV
set_option linter.unusedVariables false
set_option linter.unusedSimpArgs false
set_option linter.unnecessarySimpa false
namespace Go.Proofs.YticbpkghcglgkaaGreatDoor
open Go.Proofs.Tryz Go.RowKit
set_option maxRecDepth 20000
def SmG (G:List Gl):Prop:=G.length<=1000000000/\∀ x∈G,x.text.size<=1000000000
theorem SmG.nil:SmG []:=⟨by decide,fun x hx=>by cases hx⟩
def Sub (t l:List ByteArray):Prop:=t.length<=l.length/\∀ s∈t,s∈l
theorem Sub.trans {a b c:List ByteArray} (h:Sub a b) (g:Sub b c):Sub a c:=⟨Nat.le_trans h.1 g.1,fun s hs=>g.2 s (h.2 s hs)⟩
def EndE (w:World) (l:List ByteArray) (e:Ending) (w':World):Prop:=∃ N b,e = .returned (.tuple #[.int .i64 N,.bool b])/\Below w.heap.size w w'/\ki l=if b=true then some N else none
end Go.Proofs.YticbpkghcglgkaaGreatDoor
