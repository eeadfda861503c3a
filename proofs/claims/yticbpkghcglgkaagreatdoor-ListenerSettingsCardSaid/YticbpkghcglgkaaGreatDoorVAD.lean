/- Joined: Eq, Num6, Num7. -/
import Derived.Test.YticbpkghcglgkaaGreatDoorVAC
set_option linter.unusedVariables false
set_option linter.unusedSimpArgs false
set_option linter.unnecessarySimpa false
set_option maxHeartbeats 400000
namespace Go.Proofs.YticbpkghcglgkaaGreatDoor
open Go.Proofs.Tryz Go.RowKit
theorem qaQ (l m:List ByteArray) (h:l.length=m.length) (hk : ∀ i (h1:i<l.length) (h2:i<m.length),l[i]=m[i]):l=m:=List.ext_getElem h hk
theorem same (l m:List ByteArray) (A A':Option Addr) (c c' B:Nat) (w:World) (hl:Rd w B 1 A l.length (sv l)) (hm:Rd w B 1 A' m.length (sv m)) (hb:l.length<=140737488355328) (hb':m.length<=140737488355328) :
  Calls prog 135 #[.slice A l.length c,.slice A' m.length c'] w (Quiet (.bool (decide (l=m))) w):=by
 by_cases hlen:l.length=m.length
 ·have e1:((l.length:Int)==(m.length:Int))=true:=by simp [hlen]
  have e2:((l.length:Int) != (m.length:Int))=false:=by simp [hlen]
  have HL:=Lh hlen
  clear hlen
  go_enter func135,ntmps135
  go_wp2
  go_loopw [5] (fun i wr=>∃ k j:Nat,k<=l.length/\i = .int .i64 k/\wr=w.drewN j/\∀ i (h1:i<l.length) (h2:i<m.length),i<k->l[i]=m[i]) (fun i _=>l.length-(intOf i).toNat)
  case atStart=>exact ⟨0,0,Nat.zero_le _,rfl,rfl,fun _ _ _ h=>absurd h (by omega)⟩
  case round =>
   obtain ⟨k,j,hk,rfl,rfl,hall⟩:=hrel
   have HA:=Lh hall
   clear hall
   by_cases hlt:k<l.length
   ·have hkm:k<m.length:=by have:=HL.out;omega
    obtain ⟨b,o,rfl,hbB,hc⟩:=hl.at_ hlt
    obtain ⟨b',o',rfl,hbB',hc'⟩:=hm.at_ hkm
    rw [yM _ _ hlt] at hc
    rw [yM _ _ hkm] at hc'
    go_wp2
    go_quiet (fail)
    go_wp2
    ·rename_i hne
     rw [jO] at hne
     go_ret
     refine ⟨?_,j+nq,by simp [World.drewN_drewN]⟩
     have:l≠m:=by rintro rfl;simp at hne
     simp [this]
    ·rename_i hne
     rw [jO] at hne
     have hek:l[k]=m[k]:=by simpa using hne
     have hA2:=HA.out
     refine ⟨⟨k+1,_,by omega,by go_num,rfl,fun i h1 h2 h3=>?_⟩,by simp [intOf];omega⟩
     rcases Nat.lt_or_ge i k with h | h
     ·exact hA2 i h1 h2 h
     ·obtain rfl:i=k:=by omega
      exact hek
   ·go_wp2
    go_ret
    have:l=m:=qaQ l m HL.out (fun i h1 h2=>HA.out i h1 h2 (by omega))
    exact ⟨by simp [this],_,rfl⟩
 ·have e2:((l.length:Int) != (m.length:Int))=true:=by simp;omega
  go_enter func135,ntmps135
  go_wp2
  go_ret
  have:l≠m:=by rintro rfl;exact hlen rfl
  exact ⟨by simp [this],0,rfl⟩
theorem Quiet.t {v v':Value} {w w':World} {en:Ending} (h:Quiet v w en w') (e:v=v'):Quiet v' w en w':=e ▸ h
end Go.Proofs.YticbpkghcglgkaaGreatDoor
namespace Go.Proofs.YticbpkghcglgkaaGreatDoor
open Go.Proofs.Tryz Go.RowKit Go.WideMaps
def swN (a p:Int) (s:ByteArray):Option (Int × Int) :=
 if s=wb 31 then some (a,p) else if s=wb 28 then some (a,p * 100) else if s=wb 29 then some (a+1000 * p,0) else if s=wb 30 then some (a+1000000 * p,0) else
 match qbS 28 s with
 | none=>none
 | some v=>some (a,p+v)
def kp (a p:Int) (s:ByteArray):Option (Int × Int) :=
 match swN a p s with
 | none=>none
 | some (a',p')=>if 999999999<p'∨999999999<a' then none else some (a',p')
def vS:List ByteArray->Int->Int->Option (Int × Int)
 | [],a,p=>some (a,p)
 | s::t,a,p=>match kp a p s with
  | none=>none
  | some (a',p')=>vS t a' p'
def qbx (l:List ByteArray) (n:Int):Int:=if l.head? = some (wb 31) then -n else n
def qaA (l:List ByteArray) (n:Int):Option Int:=if -999999999<=n/\n<=999999999/\(qm n).map wb=l then some n else none
def zc (l:List ByteArray):Option Int :=
 if l.length=0∨15<l.length then none else match vS l 0 0 with
 | none=>none
 | some (a,p)=>qaA l (qbx l (a+p))
def qaS (l:List ByteArray):Nat->Option (Int × Nat)
 | 0=>none
 | k+1=>match zc (l.take (k+1)) with
  | some n=>some (n,k+1)
  | none=>qaS l k
def zi (l:List ByteArray):Option (Int × Nat):=qaS l (min l.length 15)
end Go.Proofs.YticbpkghcglgkaaGreatDoor
