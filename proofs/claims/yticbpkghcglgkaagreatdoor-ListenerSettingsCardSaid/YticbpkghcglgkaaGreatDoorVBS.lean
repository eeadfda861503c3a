/- Joined: Lw2, Lw4. -/
import Derived.Test.YticbpkghcglgkaaGreatDoorVBH
import Derived.Test.YticbpkghcglgkaaGreatDoorVBQ
import Derived.Test.YticbpkghcglgkaaGreatDoorVBR
set_option linter.unusedVariables false
set_option linter.unusedSimpArgs false
set_option linter.unnecessarySimpa false
namespace Go.Proofs.YticbpkghcglgkaaGreatDoor
open Go.Proofs.Tryz Go.RowKit
set_option maxRecDepth 20000
structure Few (cs:List Chg) (n:Int):Prop where
 len:cs.length<=1000000
 gl : ∀ c∈cs,c.glyphs.length<=100000000/\∀ g∈c.glyphs,g.text.size<=1000000000
 sum:glN cs<=99999000
 num:0<=n/\n<=1099511627776
def HrX (w:World) (m:Md) (A:Option Addr) (n c:Nat) (X:World):Prop:=Blk X w.heap.size 26 (mdC m A n c)/\ZM X (w.heap.size+1)/\Below w.heap.size w X
theorem HrX.on {w X X':World} {m:Md} {A:Option Addr} {n c:Nat} (h:HrX w m A n c X) (hb:Below X.heap.size X X'):HrX w m A n c X':=by
 have h1:=h.1.lt
 exact ⟨h.1.below hb h1,h.2.1.below hb h.2.1.lt,h.2.2.trans (hb.mono (Nat.le_of_lt h1))⟩
def qaC (v:Vw):Bool:=decide (12<v.rows.length) || (decide (40<v.width)&&decide (2<v.rows.length)) || v.rows.any zA
end Go.Proofs.YticbpkghcglgkaaGreatDoor
