/- Joined: Lv5. -/
import Derived.Lib.SliceRun
import Derived.Test.YticbpkghcglgkaaGreatDoorVAU
import Derived.Test.YticbpkghcglgkaaGreatDoorVBK
set_option linter.unusedVariables false
set_option linter.unusedSimpArgs false
set_option linter.unnecessarySimpa false
namespace Go.Proofs.YticbpkghcglgkaaGreatDoor
open Go.Proofs.Tryz Go.RowKit
set_option maxRecDepth 20000
def VwBox (w:World) (v:Vw) (A:Option Addr) (n c:Nat) (wx:World):Prop:=Blk wx w.heap.size 24 (vwC v A n c)/\Below w.heap.size w wx
section
variable {w wx wy : World} {v : Vw} {A : Option Addr} {n c : Nat}
theorem VwBox.on (h:VwBox w v A n c wx) (hb:Below wx.heap.size wx wy):VwBox w v A n c wy:=⟨h.1.below hb h.1.lt,h.2.trans (hb.mono (Nat.le_of_lt h.1.lt))⟩
theorem VwBox.lt (h:VwBox w v A n c wx):w.heap.size+1<=wx.heap.size:=h.1.lt
theorem VwBox.cells (h:VwBox w v A n c wx):wx.cell? ⟨w.heap.size,0,none⟩=some (.int .i64 v.width)/\wx.cell? ⟨w.heap.size,1,none⟩=some (.int .i64 v.height)/\wx.cell? ⟨w.heap.size,2,none⟩=some (.slice A n c)/\wx.cell? ⟨w.heap.size,3,none⟩=some (.int .i64 v.row)/\wx.cell? ⟨w.heap.size,4,none⟩=some (.int .i64 v.col)/\wx.cell? ⟨w.heap.size,5,none⟩=some (.bool v.vis) :=
 ⟨h.1.cell 0,h.1.cell 1,h.1.cell 2,h.1.cell 3,h.1.cell 4,h.1.cell 5⟩
end
end Go.Proofs.YticbpkghcglgkaaGreatDoor
