/- Joined: SpC, UtP, UtP2, Ur1. -/
import Derived.Test.YticbpkghcglgkaaGreatDoorVAL
import Derived.Test.YticbpkghcglgkaaGreatDoorVAN
set_option linter.unusedVariables false
set_option linter.unusedSimpArgs false
set_option linter.unnecessarySimpa false
namespace Go.Proofs.YticbpkghcglgkaaGreatDoor
open Go.Proofs.Tryz Go.RowKit
set_option maxRecDepth 20000
def qdH (r q k:Int):Prop:=(r<25∨400<r)∨(q≠0/\(q<2∨132<q))∨(k<1∨80<k)
instance (r q k:Int):Decidable (qdH r q k):=by unfold qdH;infer_instance
def jS:ByteArray:=⟨#[115,105,122,101]⟩
def q8:ByteArray:=⟨#[115,99,114,111,108,108]⟩
def qI:ByteArray:=⟨#[108,105,110,101]⟩
def qK:ByteArray:=⟨#[105,110,115,101,114,116]⟩
def q7:ByteArray:=⟨#[99,117,114,115,111,114]⟩
def kZ:ByteArray:=⟨#[109,111,114,101]⟩
def jN:ByteArray:=⟨#[100,111,110,101]⟩
def jG:ByteArray:=⟨#[117,112,100,97,116,101,115]⟩
structure Chg where
 kind:Int
 row:Int
 col:Int
 count:Int
 til:Int
 glyphs:List Gl
def vT (s:ByteArray):List ByteArray->Bool
 | a::_=>decide (a=s)
 | []=>false
def skO (s:ByteArray):List ByteArray->Option (List ByteArray)
 | a::t=>if a=s then some t else none
 | []=>none
def kU (l:List ByteArray):Option (Int × List ByteArray):=(zi l).map fun x=>(x.1,l.drop x.2)
def ki (l:List ByteArray):Option Int :=
 if vT kZ l=true then (if l.length=1 then some 0 else none)
 else (skO jN l).bind fun t=>if t=[] then some 1 else (kU t).bind fun x=>(skO jG x.2).bind fun u=>if u=[]/\1<x.1 then some x.1 else none
def NoW (a:ByteArray):Prop:=∀ j,j<32->wb j≠a
theorem NoW.num {a:ByteArray} (h:NoW a) (t:List ByteArray):NoNum (a::t):=fun x t' e j hj=>by
 injection e with e1 _
 subst e1
 exact h j hj
def qc1:List ByteArray:=[jS,q8,qI,q7,kZ,jN]
theorem noW_nxt : ∀ a∈qc1,NoW a:=by unfold NoW qc1;decide +kernel
def Nxt (t:List ByteArray):Prop:=∃ a u,t=a::u/\a∈qc1
theorem Nxt.num {t:List ByteArray} (h:Nxt t):NoNum t:=by
 obtain ⟨a,u,rfl,ha⟩:=h
 exact (noW_nxt a ha).num u
theorem qcr {g:Gl} (h:qJ g=0):GF g/\0<=g.style/\g.style<=3:=by
 unfold qJ at h
 split at h
 ·cases h
 ·rename_i h3
  split at h
  ·cases h
  ·rename_i h4
   refine ⟨⟨Decidable.not_not.1 h3,Decidable.not_not.1 fun e=>h4 (.inl e)⟩,?_,?_⟩
   ·rcases Int.lt_or_le g.style 0 with h | h
    ·exact absurd (.inr (.inl h)) h4
    ·exact h
   ·rcases Int.lt_or_le 3 g.style with h | h
    ·exact absurd (.inr (.inr (.inl h))) h4
    ·exact h
structure WdR (w:World) (B:Nat) (l:List ByteArray) (A:Option Addr) (n c:Nat):Prop where
 len:l.length=n
 cap:n<=c
 max:c<=maxLen
 rd:Rd w B 1 A n (sv l)
 sz : ∀ s∈l,s.size<=1000
theorem WdR.below {w w':World} {B:Nat} {l:List ByteArray} {A:Option Addr} {n c:Nat} (h:WdR w B l A n c) (hb:Below B w w'):WdR w' B l A n c:=⟨h.len,h.cap,h.max,h.rd.below hb,h.sz⟩
theorem WdR.nil (w:World) (B:Nat):WdR w B [] none 0 0:=⟨rfl,Nat.le_refl _,Nat.zero_le _,Rd.none_,fun s hs=>by cases hs⟩
def y7 (bad:Bool) (l:List ByteArray):Option (List ByteArray):=if bad=true then none else some l
def RV (w:World) (B:Nat) (r:Option (List ByteArray)) (v:Value):Prop:=∃ A n c l bad,v = .agg #[.slice A n c,.bool bad]/\WdR w B l A n c/\r=y7 bad l
theorem RV.below {w w':World} {B:Nat} {r:Option (List ByteArray)} {v:Value} (h:RV w B r v) (hb:Below B w w'):RV w' B r v:=by
 obtain ⟨A,n,c,l,bad,h1,h2,h3⟩:=h
 exact ⟨A,n,c,l,bad,h1,h2.below hb,h3⟩
theorem RV.bad (w:World) (B:Nat):RV w B none (.agg #[.slice none 0 0,.bool true]):=⟨none,0,0,[],true,rfl,WdR.nil w B,rfl⟩
def RX (w:World) (B:Nat) (bad:Bool) (l:List ByteArray) (wx:World):Prop :=
 ∃ A n c,WdR w B l A n c/\Blk wx w.heap.size 92 #[.slice A n c,.bool bad]/\Blk wx (w.heap.size+1) 92 #[.slice none 0 0,.bool false]/\Below w.heap.size w wx
theorem RX.below {w wx wy:World} {B:Nat} {bad:Bool} {l:List ByteArray} (h:RX w B bad l wx) (hb:Below wx.heap.size wx wy):RX w B bad l wy:=by
 obtain ⟨A,n,c,h1,h2,h3,h4⟩:=h
 have:=h2.lt
 exact ⟨A,n,c,h1,h2.below hb h2.lt,h3.below hb h3.lt,h4.trans (hb.mono (by omega))⟩
def RRet (w:World) (B:Nat) (r:Option (List ByteArray)) (F:Value->Value) (e:Ending) (w':World):Prop:=∃ v,e = .returned (F v)/\RV w B r v/\Below w.heap.size w w'
end Go.Proofs.YticbpkghcglgkaaGreatDoor
