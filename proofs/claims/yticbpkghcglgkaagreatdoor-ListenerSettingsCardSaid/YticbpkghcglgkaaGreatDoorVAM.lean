/- Joined: Sp0, Sk0, Sy1, Wo0, Bk0, Bk1, Bk2, FmP. -/
import Derived.Test.YticbpkghcglgkaaGreatDoorVAG
import Derived.Test.YticbpkghcglgkaaGreatDoorVAK
set_option linter.unusedVariables false
set_option linter.unusedSimpArgs false
set_option linter.unnecessarySimpa false
namespace Go.Proofs.YticbpkghcglgkaaGreatDoor
open Go.Proofs.Tryz Go.RowKit
set_option maxRecDepth 20000
structure PieceOK (l:List Gl):Prop where
 n:l.length<=1000
 sz : ∀ g∈l,g.text.size<=1000
 ltr : ∀ g t,l=g::t->qd g=1∨qd g=2->∀ x∈l,qd x=1∨qd x=2
 dig : ∀ g t,l=g::t->qd g=3->∀ x∈l,qd x=3
 oth : ∀ g t,l=g::t->qd g=0->vb g.text=true
end Go.Proofs.YticbpkghcglgkaaGreatDoor
namespace Go.Proofs.YticbpkghcglgkaaGreatDoor
open Go.Proofs.Tryz Go.RowKit
def GOK (g:Gl):Prop:=zB g.text=0/\g.text.size<=1000
theorem ji {r:Nat} (h:qR r):zC (r:Int)=true:=by
 unfold qR at h
 rw [jV]
 unfold ks
 omega
end Go.Proofs.YticbpkghcglgkaaGreatDoor
namespace Go.Proofs.YticbpkghcglgkaaGreatDoor
open Go.Proofs.Tryz Go.RowKit
set_option maxRecDepth 20000
def Sty (w:World):Prop:=∀ i:Nat,i<4->w.cell? ⟨6,i,none⟩=some (.string (vP i))
theorem Sty.below {w w':World} {B:Nat} (h:Sty w) (hb:Below B w w') (hB:w.heap.size<=B):Sty w':=fun i hi=>(hb.cell (Nat.lt_of_lt_of_le (yY (h i hi)) hB)).trans (h i hi)
end Go.Proofs.YticbpkghcglgkaaGreatDoor
namespace Go.Proofs.YticbpkghcglgkaaGreatDoor
open Go.Proofs.Tryz Go.RowKit
def GW (g:Gl):Prop:=GOK g/\0<=g.style/\g.style<=3
def WoI (S:Setts) (R:List ByteArray) (q:Spk) (rest:List Gl):Prop :=
 R=(qQ S rest.length q rest).out/\(∀ x∈rest,GW x)/\q.out.length+50000 * rest.length<=50000000/\(∀ s∈q.out,s.size<=maxLen)
theorem WoI.len {S:Setts} {R:List ByteArray} {q:Spk} {l:List Gl} (h:WoI S R q l):l.length<=1000:=by
 have:=h.2.2.1
 omega
end Go.Proofs.YticbpkghcglgkaaGreatDoor
namespace Go.Proofs.YticbpkghcglgkaaGreatDoor
open Go.Proofs.Tryz Go.RowKit
set_option maxRecDepth 20000
def inC (c:ByteArray):Bool:=ctrlL.any fun x=>decide (x=c)
theorem qcJ {s c:ByteArray} (h:jF s=false) (hc:inC c=true):s≠c:=by
 rintro rfl
 have:jF s=true:=by
  unfold jF
  rw [Bool.or_eq_true,Bool.or_eq_true]
  exact .inl (.inl hc)
 rw [this] at h
 cases h
theorem qjD (i:Nat) (hi:i<4):inC (vP i)=true:=by
 have : ∀ i:Fin 4,inC (vP i.val)=true:=by decide +kernel
 exact this ⟨i,hi⟩
theorem qjf {s:ByteArray} (h : ∀ i,i<4->vP i≠s):vY s=none:=by
 unfold vY
 rw [List.find?_eq_none]
 intro i hi
 simp at hi
 simpa using h i hi
theorem qi1 (j:Nat) (hj:j<32):vY (wb j)=none:=by
 have : ∀ j:Fin 32,vY (wb j.val)=none:=by decide +kernel
 exact this ⟨j,hj⟩
theorem qkh (j:Nat) (hj:j<32):vY (nb j)=none:=by
 have : ∀ j:Fin 32,vY (nb j.val)=none:=by decide +kernel
 exact this ⟨j,hj⟩
def NoSty (s:ByteArray):Prop:=vY s=none/\s≠zO
theorem NoSty.lit {s:ByteArray} (h:jF s=false):NoSty s:=⟨qjf fun i hi e=>qcJ h (qjD i hi) e.symm,qcJ h (by decide +kernel)⟩
theorem NoSty.wb {j:Nat} (hj:j<32):NoSty (wb j):=⟨qi1 j hj,by
 have : ∀ j:Fin 32,Go.Proofs.YticbpkghcglgkaaGreatDoor.wb j.val≠zO:=by decide +kernel
 exact this ⟨j,hj⟩⟩
theorem NoSty.nb {j:Nat} (hj:j<32):NoSty (nb j):=⟨qkh j hj,by
 have : ∀ j:Fin 32,Go.Proofs.YticbpkghcglgkaaGreatDoor.nb j.val≠zO:=by decide +kernel
 exact this ⟨j,hj⟩⟩
theorem NoSty.cap:NoSty bCap:=⟨by decide +kernel,by decide +kernel⟩
theorem NoSty.digits:NoSty vI:=⟨by decide +kernel,by decide +kernel⟩
theorem NoSty.cB:NoSty cB:=⟨by decide +kernel,by decide +kernel⟩
def NoLit (s:ByteArray):Prop:=s≠bCap/\s≠yi/\s≠vD/\s≠qS/\s≠vI/\(azB s=true->jF s=true)
theorem resB_wb (j:Nat) (hj:j<32):jF (wb j)=true:=by
 have : ∀ j:Fin 32,jF (wb j.val)=true:=by decide +kernel
 exact this ⟨j,hj⟩
theorem resB_nb (j:Nat) (hj:j<32):jF (nb j)=true:=by
 have : ∀ j:Fin 32,jF (nb j.val)=true:=by decide +kernel
 exact this ⟨j,hj⟩
theorem NoLit.wb {j:Nat} (hj:j<32):NoLit (wb j):=by
 have : ∀ j:Fin 32,Go.Proofs.YticbpkghcglgkaaGreatDoor.wb j.val≠bCap/\Go.Proofs.YticbpkghcglgkaaGreatDoor.wb j.val≠yi/\Go.Proofs.YticbpkghcglgkaaGreatDoor.wb j.val≠vD/\Go.Proofs.YticbpkghcglgkaaGreatDoor.wb j.val≠qS/\Go.Proofs.YticbpkghcglgkaaGreatDoor.wb j.val≠vI:=by decide +kernel
 obtain ⟨a,b,c,d,e⟩:=this ⟨j,hj⟩
 exact ⟨a,b,c,d,e,fun _=>resB_wb j hj⟩
theorem NoLit.nb {j:Nat} (hj:j<32):NoLit (nb j):=by
 have : ∀ j:Fin 32,Go.Proofs.YticbpkghcglgkaaGreatDoor.nb j.val≠bCap/\Go.Proofs.YticbpkghcglgkaaGreatDoor.nb j.val≠yi/\Go.Proofs.YticbpkghcglgkaaGreatDoor.nb j.val≠vD/\Go.Proofs.YticbpkghcglgkaaGreatDoor.nb j.val≠qS/\Go.Proofs.YticbpkghcglgkaaGreatDoor.nb j.val≠vI:=by decide +kernel
 obtain ⟨a,b,c,d,e⟩:=this ⟨j,hj⟩
 exact ⟨a,b,c,d,e,fun _=>resB_nb j hj⟩
theorem NoLit.cB:NoLit cB:=⟨by decide +kernel,by decide +kernel,by decide +kernel,by decide +kernel,by decide +kernel,fun _=>by decide +kernel⟩
def LtrPat (T:List UInt8):Prop:=T≠[]/\((∀ c∈T,vg c.toNat=1)∨(∃ c t,T=c::t/\vg c.toNat=2/\∀ x∈t,vg x.toNat=1)∨(2<=T.length/\∀ c∈T,vg c.toNat=2))
theorem LtrPat.kind {T:List UInt8} (h:LtrPat T) : ∀ c∈T,vg c.toNat=1∨vg c.toNat=2:=by
 intro c hc
 rcases h.2 with h | ⟨a,t,rfl,h1,h2⟩ | ⟨_,h⟩
 ·exact .inl (h c hc)
 ·rcases List.mem_cons.1 hc with rfl | hc
  ·exact .inr h1
  ·exact .inl (h2 c hc)
 ·exact .inr (h c hc)
theorem NoNum.spell {m:Nat} (h:qR m) (t:List ByteArray):NoNum (qD (m:Int)++t):=by
 unfold qD
 cases hi:jM (m:Int) with
 | some i=>exact NoNum.nb (jz hi).1 _
 | none =>
  rw [ji h]
  exact NoNum.cB _
def GF (g:Gl):Prop:=zB g.text=0/\g.wide=decide (kb g.text=2)
theorem GF.form {g:Gl} (h:GF g) : ∃ r t,qs (qB g.text)=r::t/\qR r/\(∀ x∈t,qR x)/\1<=zR (r:Int)/\(∀ x∈t,inT qM (x:Int)=true)/\t.length<=3/\g.text=yI (r::t)/\g.wide=decide (zR (r:Int)=2):=by
 obtain ⟨hv,r,t,hc,hw,hm,hl⟩:=vL.1 h.1
 have hch:=yD (qB g.text)
 rw [hc] at hch
 refine ⟨r,t,hc,hch r (by simp),fun x hx=>hch x (by simp [hx]),hw,List.all_eq_true.1 hm,hl,?_,?_⟩
 ·rw [<- hc]
  exact ((qbR _).2 hv).symm
 ·have:=h.2
  unfold kb at this
  rw [if_pos h.1,hc] at this
  exact this
def vF:ByteArray:=⟨#[115,116,111,112]⟩
def qbF:Bool->List ByteArray->Option Bool
 | b,[]=>some b
 | b,a::t=>if azB a=false∨(a=vF/\b=false) then none else qbF (decide (a=vD)&&!b) t
theorem qfC : ∀ (A B:List ByteArray) (b:Bool),qbF b (A++B)=(qbF b A).bind fun c=>qbF c B
 | [],B,b=>rfl
 | a::t,B,b=>by
  rw [List.cons_append,qbF,qbF]
  split
  ·rfl
  ·exact qfC t B _
def Clo (W:List ByteArray):Prop:=qbF false W=some false
theorem Clo.nil:Clo []:=rfl
theorem Clo.app {A B:List ByteArray} (hA:Clo A) (hB:Clo B):Clo (A++B):=by
 unfold Clo at *
 rw [qfC,hA]
 exact hB
def okW (a:ByteArray):Bool:=azB a&&!(decide (a=vF))&&!(decide (a=vD))
theorem Clo.one {a:ByteArray} (h:okW a=true):Clo [a]:=by
 unfold okW at h
 simp only [Bool.and_eq_true,Bool.not_eq_true',decide_eq_false_iff_not] at h
 obtain ⟨⟨h1,h2⟩,h3⟩:=h
 unfold Clo
 rw [qbF,if_neg (by rintro (h | ⟨h,_⟩);(rw [h1] at h;cases h);exact h2 h),decide_eq_false h3]
 rfl
theorem Clo.all : ∀ {W:List ByteArray},(∀ a∈W,okW a=true)->Clo W
 | [],_=>Clo.nil
 | a::t,h=>Clo.app (A:=[a]) (Clo.one (h a (by simp))) (Clo.all fun x hx=>h x (by simp [hx]))
end Go.Proofs.YticbpkghcglgkaaGreatDoor
