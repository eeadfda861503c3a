/- Joined: Vo1, Lt1. -/
import Derived.Shelf.Spec.SlicesGrow
import Derived.Ground.Names8Prog
import Derived.Lib.Explode
import Derived.Test.YticbpkghcglgkaaGreatDoorVAF
set_option linter.unusedVariables false
set_option linter.unusedSimpArgs false
set_option linter.unnecessarySimpa false
namespace Go.Proofs.YticbpkghcglgkaaGreatDoor
open Go.Proofs.Tryz Go.RowKit Go.Maps
set_option maxRecDepth 20000
def SetM (w:World) (b m:Nat) (S:ByteArray->Bool):Prop :=
 ∃ D:DataW Unit,w.ownsMap prog 9 (plainElem prog 4) b m D/\IsMap D/\∀ s:ByteArray,D.atKey (.string s.data.toList) (.lit (.bool false)) = .lit (.bool (S s))
theorem SetM.lt {w:World} {b m:Nat} {S:ByteArray->Bool} (h:SetM w b m S):b<w.heap.size:=by
 obtain ⟨D,h1,_⟩:=h
 exact h1.lt
theorem SetM.below {w w':World} {b m:Nat} {S:ByteArray->Bool} (h:SetM w b m S) (hb:Below w.heap.size w w'):SetM w' b m S:=by
 obtain ⟨D,h1,h2⟩:=h
 exact ⟨D,h1.kept (row:=none) ⟨hb.os,hb.tape,hb.output,hb.size,fun k hk _=>hb.block k hk⟩ (by simp),h2⟩
theorem SetM.ext {w:World} {b m:Nat} {S S':ByteArray->Bool} (h:SetM w b m S) (e : ∀ s,S s=S' s):SetM w b m S':=by
 obtain rfl:S=S':=funext e
 exact h
theorem SetM.put {w:World} {b m:Nat} {x:ByteArray} {D:DataW Unit} {S:ByteArray->Bool} (h1:w.ownsMap prog 9 (plainElem prog 4) b (m+1) (D.put (.string x.data.toList) (.lit (.bool true))))
  (h2:IsMap D) (h3 : ∀ s:ByteArray,D.atKey (.string s.data.toList) (.lit (.bool false)) = .lit (.bool (S s))):SetM w b (m+1) (fun s=>decide (x=s) || S s):=by
 refine ⟨_,h1,h2.put _ _,fun s=>?_⟩
 by_cases h:x=s
 ·subst h
  rw [atKey_put_same h2 (show WideAt.IsKeyLit (.string x.data.toList) from by rw [WideAt.IsKeyLit.eq_3];trivial)]
  simp
 ·rw [atKey_put_other (by
   intro e
   injection e with e
   exact h (ByteArray.ext (Array.toList_inj.1 e)).symm),h3]
  simp [h]
end Go.Proofs.YticbpkghcglgkaaGreatDoor
namespace Go.Proofs.YticbpkghcglgkaaGreatDoor
open Go.Proofs.Tryz Go.RowKit
set_option maxRecDepth 20000
abbrev stV (rate:Int) (digits spell:Bool) (rep:Int) (con:Bool) (cells:Int):Value:=.agg #[.int .i64 rate,.bool digits,.bool spell,.int .i64 rep,.bool con,.int .i64 cells]
def StBox (w:World) (r:Int) (d s:Bool) (p:Int) (c:Bool) (k:Int) (g:Nat):Prop :=
 w.cell? ⟨g,0,none⟩=some (.int .i64 r)/\w.cell? ⟨g,1,none⟩=some (.bool d)/\w.cell? ⟨g,2,none⟩=some (.bool s)/\w.cell? ⟨g,3,none⟩=some (.int .i64 p)/\w.cell? ⟨g,4,none⟩=some (.bool c)/\w.cell? ⟨g,5,none⟩=some (.int .i64 k)
theorem StBox.below {w w':World} {B g:Nat} {r:Int} {d s:Bool} {p:Int} {c:Bool} {k:Int} (h:StBox w r d s p c k g) (hb:Below B w w') (hg:g<B):StBox w' r d s p c k g:=by
 obtain ⟨h0,h1,h2,h3,h4,h5⟩:=h
 exact ⟨(hb.cell hg).trans h0,(hb.cell hg).trans h1,(hb.cell hg).trans h2,(hb.cell hg).trans h3,(hb.cell hg).trans h4,(hb.cell hg).trans h5⟩
end Go.Proofs.YticbpkghcglgkaaGreatDoor
