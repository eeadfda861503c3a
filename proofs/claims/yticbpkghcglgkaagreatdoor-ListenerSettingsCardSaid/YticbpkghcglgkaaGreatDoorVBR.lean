/- Joined: Lvn. -/
import Derived.LoopN
import Derived.BigRegion
import Derived.Laws.EntriesVeiled
import Derived.Test.YticbpkghcglgkaaGreatDoorVBO
set_option linter.unusedVariables false
set_option linter.unusedSimpArgs false
set_option linter.unnecessarySimpa false
namespace Go.Proofs.YticbpkghcglgkaaGreatDoor
open Go.Proofs.Tryz Go.RowKit
set_option maxRecDepth 20000
def zD (W H:Int):Vw:=⟨W,H,List.replicate H.toNat [],0,0,true⟩
def mdC (m:Md) (A:Option Addr) (n c:Nat):Array Value:=#[.int .i64 m.view.width,.int .i64 m.view.height,.slice A n c,.int .i64 m.view.row,.int .i64 m.view.col,.bool m.view.vis,.int .i64 m.upd]
abbrev ZM (X:World) (g:Nat):Prop:=Blk X g 26 (mdC md0 none 0 0)
end Go.Proofs.YticbpkghcglgkaaGreatDoor
