/- Joined: Sig3, SigP. -/
import Derived.Test.YticbpkghcglgkaaGreatDoorVAB
import Derived.Test.YticbpkghcglgkaaGreatDoorVAD
set_option linter.unusedVariables false
set_option linter.unusedSimpArgs false
set_option linter.unnecessarySimpa false
namespace Go.Proofs.YticbpkghcglgkaaGreatDoor
open Go.Proofs.Tryz Go.RowKit
def cB:ByteArray:=⟨#[99,104,97,114,97,99,116,101,114]⟩
def zC (n:Int):Bool:=(decide (0<=n)&&decide (n<=55295)) || (decide (57344<=n)&&decide (n<=1114111))
theorem jV (n:Int):zC n=true↔ks n:=by unfold zC ks;simp
def qD (r:Int):List ByteArray:=match jM r with
 | some i=>[nb i]
 | none=>if zC r then cB::(qm r).map wb else []
theorem nb_wb (i j:Nat) (h:i<32) (k:j<32):wb j≠nb i:=by
 have : ∀ i j:Fin 32,wb j.val≠nb i.val:=by decide +kernel
 exact this ⟨i,h⟩ ⟨j,k⟩
theorem cB_wb (j:Nat) (k:j<32):wb j≠cB:=by
 have : ∀ j:Fin 32,wb j.val≠cB:=by decide +kernel
 exact this ⟨j,k⟩
def NoNum (t:List ByteArray):Prop:=∀ h t',t=h::t'->∀ j,j<32->wb j≠h
theorem NoNum.nil:NoNum []:=fun _ _ h=>by cases h
theorem NoNum.nb {i:Nat} (hi:i<32) (t:List ByteArray):NoNum (nb i::t):=fun _ _ h j hj=>by cases h;exact nb_wb i j hi hj
theorem NoNum.cB (t:List ByteArray):NoNum (cB::t):=fun _ _ h j hj=>by cases h;exact cB_wb j hj
end Go.Proofs.YticbpkghcglgkaaGreatDoor
