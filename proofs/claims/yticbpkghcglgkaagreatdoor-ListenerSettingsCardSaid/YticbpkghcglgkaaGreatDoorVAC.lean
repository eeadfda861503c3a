/- Joined: Num1, Num2, Num4, Mp, Num5. -/
import Derived.Maps.Own
import Derived.Maps.OwnOps
import Derived.Maps.OwnSet
import Derived.Maps.Views
import Derived.Test.YticbpkghcglgkaaGreatDoorVAA
set_option linter.unusedVariables false
set_option linter.unusedSimpArgs false
set_option linter.unnecessarySimpa false
namespace Go.Proofs.YticbpkghcglgkaaGreatDoor
open Go.Proofs.Tryz Go.RowKit
def wb:Nat->ByteArray
 | 0=>⟨#[122,101,114,111]⟩ | 1=>⟨#[111,110,101]⟩ | 2=>⟨#[116,119,111]⟩ | 3=>⟨#[116,104,114,101,101]⟩ | 4=>⟨#[102,111,117,114]⟩ | 5=>⟨#[102,105,118,101]⟩
 | 6=>⟨#[115,105,120]⟩ | 7=>⟨#[115,101,118,101,110]⟩ | 8=>⟨#[101,105,103,104,116]⟩ | 9=>⟨#[110,105,110,101]⟩ | 10=>⟨#[116,101,110]⟩ | 11=>⟨#[101,108,101,118,101,110]⟩
 | 12=>⟨#[116,119,101,108,118,101]⟩ | 13=>⟨#[116,104,105,114,116,101,101,110]⟩ | 14=>⟨#[102,111,117,114,116,101,101,110]⟩ | 15=>⟨#[102,105,102,116,101,101,110]⟩
 | 16=>⟨#[115,105,120,116,101,101,110]⟩ | 17=>⟨#[115,101,118,101,110,116,101,101,110]⟩ | 18=>⟨#[101,105,103,104,116,101,101,110]⟩ | 19=>⟨#[110,105,110,101,116,101,101,110]⟩
 | 20=>⟨#[116,119,101,110,116,121]⟩ | 21=>⟨#[116,104,105,114,116,121]⟩ | 22=>⟨#[102,111,114,116,121]⟩ | 23=>⟨#[102,105,102,116,121]⟩ | 24=>⟨#[115,105,120,116,121]⟩
 | 25=>⟨#[115,101,118,101,110,116,121]⟩ | 26=>⟨#[101,105,103,104,116,121]⟩ | 27=>⟨#[110,105,110,101,116,121]⟩ | 28=>⟨#[104,117,110,100,114,101,100]⟩
 | 29=>⟨#[116,104,111,117,115,97,110,100]⟩ | 30=>⟨#[109,105,108,108,105,111,110]⟩ | _=>⟨#[109,105,110,117,115]⟩
def yQ (m:Nat):List Nat:=(if 100<=m then [m / 100,28] else [])
def yz (m:Nat):List Nat:=(if 20<=m then [18+m / 10] else [])
def kO (m:Nat):List Nat:=(if 0<m then [m] else [])
def zj (m:Nat):List Nat :=
 let k:=if 100<=m then m % 100 else m
 yQ m++yz k++kO (if 20<=k then k % 10 else k)
def yO (q x:Nat):List Nat:=if 0<q then zj q++[x] else []
def qak (q:Nat):List Nat:=if 0<q then zj q else []
def posL (k:Nat):List Nat:=yO (k / 1000000) 30++yO (k % 1000000 / 1000) 29++qak (k % 1000000 % 1000)
def qm (n:Int):List Nat:=if n=0 then [0] else (if n<0 then [31] else [])++posL n.natAbs
end Go.Proofs.YticbpkghcglgkaaGreatDoor
namespace Go.Proofs.YticbpkghcglgkaaGreatDoor
open Go.Proofs.Tryz Go.RowKit Go.WideMaps
section
variable {P : Program} {K E : TypeId}
def MapI (P:Program) (K E:TypeId) (w:World) (b n:Nat) (f:ByteArray->Option Int):Prop :=
 ∃ D:DataW Unit,w.ownsMap P K (plainElem P E) b n D/\Maps.IsMap D/\∀ s:ByteArray,Maps.has D (.string s.data.toList)=(f s).isSome/\∀ v,f s=some v->∀ z,D.atKey (.string s.data.toList) z = .lit (.int .i64 v)
theorem MapI.lt {w:World} {b n:Nat} {f:ByteArray->Option Int} (h:MapI P K E w b n f):b<w.heap.size:=by
 obtain ⟨D,h1,_⟩:=h
 exact h1.lt
theorem MapI.keep {w w':World} {b n:Nat} {f:ByteArray->Option Int} (h:MapI P K E w b n f) (hb:w'.heap[b]? = w.heap[b]?):MapI P K E w' b n f:=by
 obtain ⟨D,⟨es,clock,h0,h1⟩,h2⟩:=h
 exact ⟨D,⟨es,clock,hb.trans h0,h1⟩,h2⟩
theorem MapI.ext {w:World} {b n:Nat} {f g:ByteArray->Option Int} (h:MapI P K E w b n f) (hfg : ∀ s,f s=g s):MapI P K E w b n g:=by
 obtain rfl:f=g:=funext hfg
 exact h
end
def qbt (i:Nat):Int:=if 20<i then 10 * ((i:Int)-18) else i
def qbS:Nat->ByteArray->Option Int
 | 0,_=>none
 | k+1,s=>if s=wb k then some (qbt k) else qbS k s
end Go.Proofs.YticbpkghcglgkaaGreatDoor
