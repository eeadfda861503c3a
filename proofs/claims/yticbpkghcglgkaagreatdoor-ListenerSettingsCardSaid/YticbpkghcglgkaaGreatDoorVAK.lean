/- Joined: Rn5. -/
import Derived.Test.YticbpkghcglgkaaGreatDoorVAJ
set_option linter.unusedVariables false
set_option linter.unusedSimpArgs false
set_option linter.unnecessarySimpa false
namespace Go.Proofs.YticbpkghcglgkaaGreatDoor
open Go.Proofs.Tryz Go.RowKit
set_option maxRecDepth 20000
theorem qkb (s:ByteArray):(⟨((qB s).map fun b=>UInt8.ofNat b).toArray⟩:ByteArray)=s:=by
 apply ByteArray.ext
 apply Array.toList_inj.1
 simp [qB,Function.comp_def]
theorem qbR (s:ByteArray):yI (qs (qB s))=s↔vb s=true:=by
 rw [vb,decide_eq_true_eq]
 constructor
 ·intro h
  have h2:qB (yI (qs (qB s)))=zm (qs (qB s)):=by
   unfold yI
   show List.map UInt8.toNat (List.toArray _).toList=_
   rw [List.map_map]
   refine (List.map_congr_left (g:=id) fun b hb=>?_).trans (List.map_id _)
   have:=qfl (yD (qB s)) b hb
   simp
   omega
  rw [<- h2,h]
 ·intro h
  unfold yI
  rw [h]
  exact qkb s
end Go.Proofs.YticbpkghcglgkaaGreatDoor
