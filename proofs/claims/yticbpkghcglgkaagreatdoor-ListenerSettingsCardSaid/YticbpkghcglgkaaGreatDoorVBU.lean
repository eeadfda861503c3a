/- Joined: LxP. -/
import Derived.Test.YticbpkghcglgkaaGreatDoorVBS
set_option linter.unusedVariables false
set_option linter.unusedSimpArgs false
set_option linter.unnecessarySimpa false
namespace Go.Proofs.YticbpkghcglgkaaGreatDoor
open Go.Proofs.Tryz Go.RowKit
set_option maxRecDepth 20000
theorem qd0 {v:Vw} (h:js v=0) : ∀ l∈v.rows,l.length<=132/\∀ g∈l,g.text.size<=16:=fun l hl=>by
 obtain ⟨h1,-,-,h4⟩:=qbh.1 h
 obtain ⟨a,b,-⟩:=h4 l hl
 have hs:=jW.1 h1
 refine ⟨?_,fun g hg=>(gw_of (qb9.1 a g hg)).2⟩
 unfold vM at b
 omega
theorem qcF {v:Vw} (h:qaC v=false) : ∀ l∈v.rows,l.length<=140/\∀ g∈l,g.text.size<=40:=fun l hl=>by
 unfold qaC at h
 rw [Bool.or_eq_false_iff] at h
 have:=List.any_eq_false.1 h.2 l hl
 simp only [zA,Bool.or_eq_true,decide_eq_true_eq,List.any_eq_true,not_or,not_exists,not_and] at this
 exact ⟨by omega,fun g hg=>by have:=this.2 g hg;omega⟩
theorem kB {rs:List RowM} {x:RowM} (h:x∈rs):x.l∈rls rs:=List.mem_map_of_mem h
theorem blank_proper {W H:Int} (h:vR W H=true):vu ⟨zD W H,0⟩=true:=by
 have hs:=jW.1 h
 unfold vu
 refine decide_eq_true ⟨qbh.2 ⟨h,?_,?_,fun l hl=>?_⟩,Int.le_refl _,by show (0:Int)<=1099511627776;decide⟩
 ·show ((List.replicate H.toNat ([]:List Gl)).length:Int)=H
  rw [List.length_replicate];omega
 ·show (0:Int)<=0/\0<H/\(0:Int)<=0/\0<W
  omega
 ·obtain rfl:=List.eq_of_mem_replicate hl
  exact ⟨rfl,by show (0:Int)<=W;omega,rfl⟩
end Go.Proofs.YticbpkghcglgkaaGreatDoor
