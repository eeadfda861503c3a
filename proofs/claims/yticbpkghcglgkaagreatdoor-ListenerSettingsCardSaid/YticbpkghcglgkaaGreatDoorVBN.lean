/- Joined: Lvc. -/
import Derived.Test.YticbpkghcglgkaaGreatDoorVBM
set_option linter.unusedVariables false
set_option linter.unusedSimpArgs false
set_option linter.unnecessarySimpa false
namespace Go.Proofs.YticbpkghcglgkaaGreatDoor
open Go.Proofs.Tryz Go.RowKit
set_option maxRecDepth 20000
structure RB (X0:World) (A:Option Addr) (c:Nat) (rs:List RowM) (X:World):Prop where
 out:X.ownsRow X0.heap.size 56 1 (.slice A rs.length c) rs.length (zQ rs)
 gl : ∀ x∈rs,X.ownsRow X0.heap.size 86 3 (.slice x.A x.l.length x.cap) x.l.length (qi x.l)
 dj:(obS A::rs.map fun x=>obS x.A).Pairwise Dj
 bel:Below X0.heap.size X0 X
theorem RB.nil (X0:World):RB X0 none 0 [] X0:=⟨zY _ _ _ _,fun x hx=>(by cases hx),List.pairwise_singleton _ _,Below.refl _ _⟩
section
variable {X0 X w1 w2 : World} {A : Option Addr} {c : Nat} {rs : List RowM}
theorem RB.below (h:RB X0 A c rs X) (hb:Below X.heap.size X w1):RB X0 A c rs w1 :=
 ⟨qb h.out hb,fun x hx=>qb (h.gl x hx) hb,h.dj,h.bel.trans (hb.mono h.bel.size)⟩
end
end Go.Proofs.YticbpkghcglgkaaGreatDoor
