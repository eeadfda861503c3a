/- Joined: Pa8, Pa9, PaB0. -/
import Derived.Test.YticbpkghcglgkaaGreatDoorVAN
set_option linter.unusedVariables false
set_option linter.unusedSimpArgs false
set_option linter.unnecessarySimpa false
namespace Go.Proofs.YticbpkghcglgkaaGreatDoor
open Go.Proofs.Tryz Go.RowKit
set_option maxRecDepth 20000
theorem PaT.below {w X X':World} {g nb:Nat} {v:Value} {st:Int} {j:Bool} {O:List Gl} (h:PaT w g nb v st j O X) (hb:Below X.heap.size X X'):PaT w g nb v st j O X':=by
 obtain ⟨A,c,h1,h2,h3⟩:=h
 have hl:=h1.lt
 exact ⟨A,c,h1.below hb hl,qb h2 hb,h3.trans (hb.mono (Nat.le_of_lt hl))⟩
def Kp (w:World) (g:Nat) (X:World):Prop:=X.cell? ⟨g,2,none⟩=w.cell? ⟨g,2,none⟩/\w.heap.size<=X.heap.size/\∀ F i:Nat,F≠g->F<w.heap.size->X.cell? ⟨F,i,none⟩=w.cell? ⟨F,i,none⟩
theorem Kp.below {w X w':World} {g:Nat} (h:Kp w g X) (hb:Below X.heap.size X w') (hg:g<w.heap.size):Kp w g w':=by
 obtain ⟨h1,h2,h3⟩:=h
 exact ⟨(hb.cell (show g<_ by omega)).trans h1,Nat.le_trans h2 hb.size,fun F i hF hl=>(hb.cell (show F<_ by omega)).trans (h3 F i hF hl)⟩
def PaE (E:World) (g nb:Nat):Prop:=Sp E/\U8 E/\SetM E nb 200 jF/\E.heap.size=g
theorem PaE.sp {E w:World} {g nb:Nat} (h:PaE E g nb) (hb:Below g E w):Sp w:=h.1.below hb (Nat.le_of_eq h.2.2.2)
theorem PaE.u8 {E w:World} {g nb:Nat} (h:PaE E g nb) (hb:Below g E w):U8 w:=h.2.1.below (h.2.2.2 ▸ hb)
theorem PaE.set {E w:World} {g nb:Nat} (h:PaE E g nb) (hb:Below g E w):SetM w nb 200 jF:=h.2.2.1.below (h.2.2.2 ▸ hb)
def DecI (N m:Nat) (S:ByteArray):Prop:=(S.size=0/\m=N)∨(S.size≠0/\(if m=0 then [] else kA m)++S.data.toList=kA N)
theorem qge : ∀ (k n:Nat),n<10 ^ (k+1)->(kA n).length<=k+1
 | 0,n,h=>by
  rw [kA,dif_pos (by simpa using h)]
  simp
 | k+1,n,h=>by
  rw [kA]
  split
  ·simp
  ·rw [List.length_append,List.length_singleton]
   have:=qge k (n / 10) (by rw [Nat.pow_succ] at h;omega)
   omega
theorem DecI.size {N m:Nat} {S:ByteArray} (hN:N<=999999999) (h:DecI N m S):S.size<=10:=by
 rcases h with ⟨h,_⟩ | ⟨_,h⟩
 ·omega
 ·have h1:=congrArg List.length h
  have h2:=qge 9 N (by omega)
  have h3:S.data.toList.length=S.size:=by simp
  rw [List.length_append] at h1
  omega
theorem DecI.done {N:Nat} {S:ByteArray} (h:DecI N 0 S) (hS:S.size≠0):S=⟨(kA N).toArray⟩:=by
 rcases h with ⟨h1,_⟩ | ⟨_,h2⟩
 ·exact absurd h1 hS
 ·rw [if_pos rfl,List.nil_append] at h2
  apply ByteArray.ext
  apply Array.toList_inj.1
  rw [h2]
end Go.Proofs.YticbpkghcglgkaaGreatDoor
