/- Joined: Wd2, Ut3, Cl0, Pa0, Near, Gk. -/
import Derived.Laws.StructEq
import Derived.Test.YticbpkghcglgkaaGreatDoorVAE
set_option linter.unusedVariables false
set_option linter.unusedSimpArgs false
set_option linter.unnecessarySimpa false
namespace Go.Proofs.YticbpkghcglgkaaGreatDoor
def bCap:ByteArray:=⟨#[99,97,112]⟩
def yi:ByteArray:=⟨#[99,97,112,115]⟩
def vD:ByteArray:=⟨#[119,111,114,100]⟩
def yB:ByteArray:=⟨#[115,112,97,99,101]⟩
def bTimes:ByteArray:=⟨#[116,105,109,101,115]⟩
def qS:ByteArray:=⟨#[115,112,101,108,108,101,100]⟩
def qaO:ByteArray:=⟨#[101,110,100]⟩
def vI:ByteArray:=⟨#[100,105,103,105,116,115]⟩
def zO:ByteArray:=⟨#[106,111,105,110,101,100]⟩
def vP:Nat->ByteArray
 | 0=>⟨#[112,108,97,105,110]⟩
 | 1=>⟨#[115,116,114,111,110,103]⟩
 | 2=>⟨#[105,110,118,101,114,115,101]⟩
 | _=>⟨#[104,105,100,100,101,110]⟩
def ctrlL:List ByteArray:=[cB,zO,bCap,yi,vD,yB,bTimes,qS,qaO,vI,vP 0,vP 1,vP 2,vP 3,
 ⟨#[115,105,122,101]⟩,⟨#[114,111,119,115]⟩,⟨#[99,111,108,117,109,110,115]⟩,⟨#[115,99,114,111,108,108]⟩,⟨#[108,105,110,101]⟩,⟨#[108,105,110,101,115]⟩,⟨#[102,114,111,109]⟩,⟨#[116,111]⟩,⟨#[117,112]⟩,⟨#[100,111,119,110]⟩,
 ⟨#[99,111,108,117,109,110]⟩,⟨#[114,101,112,108,97,99,101]⟩,⟨#[119,105,116,104]⟩,⟨#[105,110,115,101,114,116]⟩,⟨#[100,101,108,101,116,101]⟩,⟨#[99,117,114,115,111,114]⟩,⟨#[118,105,115,105,98,108,101]⟩,⟨#[105,110,118,105,115,105,98,108,101]⟩,
 ⟨#[109,111,114,101]⟩,⟨#[100,111,110,101]⟩,⟨#[117,112,100,97,116,101,115]⟩,⟨#[114,101,97,100,115]⟩,⟨#[115,116,111,112]⟩,⟨#[98,108,97,110,107]⟩,⟨#[98,121]⟩]
def qL (s:ByteArray):Bool:=(List.range 32).any fun j=>decide (wb j=s)
def jF (s:ByteArray):Bool:=ctrlL.any (fun x=>decide (x=s)) || qL s || (List.range 32).any fun j=>decide (nb j=s)
def qT (g:Gl):UInt8:=g.text.data.toList.headD 0
def yp (c:UInt8):UInt8:=if 65<=c.toNat/\c.toNat<=90 then c+32 else c
def yH (l:List Gl):List UInt8:=l.map fun g=>yp (qT g)
def vk (l:List Gl) (spell:Bool):List ByteArray :=
 (if (l.filter fun g=>qd g==2).length=1 then [bCap] else if 1<(l.filter fun g=>qd g==2).length then [yi] else []) ++
 (if spell=true then qS::((yH l).map fun c=>(⟨#[c]⟩:ByteArray))++[qaO] else (if jF ⟨(yH l).toArray⟩=true then [vD] else [])++[⟨(yH l).toArray⟩])
def vC (l:List Gl):List Nat:=l.map fun g=>(qT g).toNat-48
def yj (l:List Nat):Nat:=l.foldl (fun n d=>10 * n+d) 0
def ja (n:Nat):List ByteArray:=(qm (n:Int)).map wb
def jx (l:List Gl) (dig:Bool):List ByteArray :=
 if dig=true∨9<l.length∨(1<l.length/\(vC l).headD 1=0) then vI::(vC l).flatMap ja else ja (yj (vC l))
def qP (g:Gl):List ByteArray:=if g.text.data.toList=[32] then [yB] else (qs (qB g.text)).flatMap fun (r:Nat)=>qD (r:Int)
def qq (l:List Gl) (spell dig:Bool):List ByteArray:=match l with
 | []=>[]
 | g::t =>
  if qd g=1∨qd g=2 then vk (g::t) spell
  else if qd g=3 then jx (g::t) dig
  else if t=[] then qP g
  else ja (t.length+1)++[bTimes]++qP g
structure Spk where
 out:List ByteArray
 style:Int
 before:Nat
 silent:Bool
structure Setts where
 digits:Bool
 spell:Bool
 rep:Int
def jJ (p:Spk) (s:Setts) (l:List Gl) (n:Nat):Bool:=match l with
 | a::b::t=>decide (n=1)&&decide (a.text.data.toList=[32])&&decide (p.before≠0)&&decide (a.style=p.style)&&decide (qd b≠0)&&decide (b.style=p.style) &&
   (decide (p.before≠3) || !(qL ((qq ((b::t).take (qo (b::t) s.rep)) s.spell s.digits).headD ⟨#[]⟩)))
 | _=>false
def qc4 (p:Spk) (s:Setts) (l:List Gl):Spk:=match l with
 | []=>p
 | g::t =>
  let w:=qq (g::t) s.spell s.digits
  ⟨p.out++(if g.style≠p.style then [vP g.style.toNat] else if qd g≠0/\p.before≠0 then (if p.silent=true then [] else [zO])
    else if p.out≠[]/\qL (w.headD ⟨#[]⟩)=true/\qL (p.out.getLastD ⟨#[]⟩)=true then [zO] else [])++w,g.style,qd g,false⟩
def qQ (s:Setts):Nat->Spk->List Gl->Spk
 | 0,p,_=>p
 | f+1,p,l=>if l=[] then p else
  if jJ p s l (qo l s.rep)=true then qQ s f { p with silent:=true } (l.drop (qo l s.rep))
  else qQ s f (qc4 p s (l.take (qo l s.rep))) (l.drop (qo l s.rep))
def InvU (s:US):Prop :=
 (s.m=1->∀ b,s.lo<=b->b<=s.hi->qR (s.v * 64+b % 64)) /\
 (s.m=2->∀ b c,s.lo<=b->b<=s.hi->128<=c->c<=191->qR ((s.v * 64+b % 64) * 64+c % 64)) /\
 (s.m=3->∀ b c d,s.lo<=b->b<=s.hi->128<=c->c<=191->128<=d->d<=191->qR (((s.v * 64+b % 64) * 64+c % 64) * 64+d % 64))/\s.m<=3
theorem InvU.zero {s:US} (h:s.m=0):InvU s:=⟨fun e=>(by omega),fun e=>(by omega),fun e=>(by omega),by omega⟩
theorem begU_inv (b:Nat):InvU (zt b):=by
 by_cases h2:0xC2<=b/\b<=0xDF
 ·rw [qgC h2.1 h2.2]
  refine ⟨fun _ x h3 h4=>?_,fun e=>(by cases e),fun e=>(by cases e),by show 1<=3;omega⟩
  dsimp only at *
  unfold qR
  omega
 ·by_cases h3:0xE0<=b/\b<=0xEF
  ·rw [qdQ h3.1 h3.2]
   refine ⟨fun e=>(by cases e),fun _ x y h4 h5 h6 h7=>?_,fun e=>(by cases e),by show 2<=3;omega⟩
   dsimp only at *
   unfold qR
   split at h4 <;> split at h5 <;> omega
  ·by_cases h4:0xF0<=b/\b<=0xF4
   ·rw [qeM h4.1 h4.2]
    refine ⟨fun e=>(by cases e),fun e=>(by cases e),fun _ x y z h5 h6 h7 h8 h9 h10=>?_,by show 3<=3;omega⟩
    dsimp only at *
    unfold qR
    split at h5 <;> split at h6 <;> omega
   ·refine InvU.zero ?_
    show (if 0xC2<=b/\b<=0xDF then 1 else if 0xE0<=b/\b<=0xEF then 2 else if 0xF0<=b/\b<=0xF4 then 3 else 0)=0
    rw [if_neg h2,if_neg h3,if_neg h4]
theorem qcm {s:US} {b:Nat}:qat s b=true↔0<s.m/\s.lo<=b/\b<=s.hi:=by
 unfold qat
 simp [and_assoc]
theorem qki {s:US} (h:InvU s) (b:Nat):InvU (jU s b):=by
 unfold jU
 split
 ·rename_i ht
  obtain ⟨h0,h1,h2⟩:=qcm.1 ht
  obtain ⟨i1,i2,i3,i4⟩:=h
  refine ⟨fun e x h3 h4=>?_,fun e x y h3 h4 h5 h6=>?_,fun e=>?_,?_⟩
  ·exact i2 (by dsimp only at e;omega) b x h1 h2 h3 h4
  ·exact i3 (by dsimp only at e;omega) b x y h1 h2 h3 h4 h5 h6
  ·dsimp only at e;omega
  ·dsimp only;omega
 ·exact begU_inv b
theorem uOut_ch {s:US} (h:InvU s) (b:Nat) : ∀ r∈ku s b,qR r:=by
 have hu:qR 65533:=by unfold qR;omega
 unfold ku
 split
 ·rename_i ht
  obtain ⟨h0,h1,h2⟩:=qcm.1 ht
  split
  ·rename_i h3
   intro r hr
   rw [List.mem_singleton] at hr
   subst hr
   exact h.1 h3 b h1 h2
  ·intro r hr;cases hr
 ·intro r hr
  rcases List.mem_append.1 hr with hr | hr
  ·split at hr
   ·rw [List.mem_singleton] at hr;subst hr;exact hu
   ·cases hr
  ·split at hr
   ·rw [List.mem_singleton] at hr;subst hr;unfold qR;omega
   ·split at hr
    ·rw [List.mem_singleton] at hr;subst hr;exact hu
    ·cases hr
theorem qil : ∀ (l:List Nat) (s:US) (out:List Nat),InvU s->(∀ r∈out,qR r)->(∀ r∈(zJ l (s,out)).2,qR r)/\InvU (zJ l (s,out)).1
 | [],s,out,h,ho=>⟨ho,h⟩
 | b::l,s,out,h,ho=>qil l _ _ (qki h b) fun r hr=>by
  rcases List.mem_append.1 hr with hr | hr
  ·exact ho r hr
  ·exact uOut_ch h b r hr
theorem yD (l:List Nat) : ∀ r∈qs l,qR r:=(qil l u0 [] (InvU.zero rfl) fun _ h=>by cases h).1
def vb (s:ByteArray):Bool:=decide (zm (qs (qB s))=qB s)
theorem qaR (r:Nat):0<(vQ r).length/\(vQ r).length<=4:=by
 unfold vQ
 split
 ·simp
 ·split
  ·simp
  ·split <;> simp
def kt (r:Nat):ByteArray:=⟨((vQ r).map fun b=>UInt8.ofNat b).toArray⟩
def zB (s:ByteArray):Int:=if vb s=false then 3 else match qs (qB s) with
 | []=>3
 | r::t=>if zR (r:Int)<1∨(t.all fun (x:Nat)=>inT qM (x:Int))=false then 9 else if 3<t.length then 5 else 0
def kb (s:ByteArray):Int:=if zB s=0 then zR (((qs (qB s)).headD 0:Nat):Int) else 0
def ye (s:ByteArray) (r:Int):ByteArray × Int :=
 if zB s≠0 then (⟨#[]⟩,zB s) else if inT qM r=false then (⟨#[]⟩,9) else if 4<=(qs (qB s)).length then (⟨#[]⟩,5) else (s++kt r.toNat,0)
theorem vL {s:ByteArray}:zB s=0↔vb s=true/\∃ r t,qs (qB s)=r::t/\1<=zR (r:Int)/\(t.all fun (x:Nat)=>inT qM (x:Int))=true/\t.length<=3:=by
 unfold zB
 constructor
 ·intro h
  split at h
  ·cases h
  ·rename_i hv
   split at h
   ·cases h
   ·rename_i r t ht
    split at h
    ·cases h
    ·rename_i hw
     split at h
     ·cases h
     ·rename_i hl
      rw [not_or] at hw
      exact ⟨by simpa using hv,r,t,ht,by omega,by simpa using hw.2,by omega⟩
 ·rintro ⟨hv,r,t,ht,hw,ha,hl⟩
  rw [if_neg (by simp [hv]),ht]
  simp only
  rw [if_neg (by rw [not_or];exact ⟨by omega,by simp [ha]⟩),if_neg (by omega)]
end Go.Proofs.YticbpkghcglgkaaGreatDoor
namespace Go.Proofs.YticbpkghcglgkaaGreatDoor
open Go.Proofs.Tryz Go.RowKit
def azB (s:ByteArray):Bool:=!(s.data.toList.isEmpty)&&s.data.toList.all fun c=>decide (97<=c.toNat)&&decide (c.toNat<=122)
structure Prs where
 words:List ByteArray
 out:List Gl
 style:Int
 joins:Bool
def chG (st:Int) (c:UInt8):Gl:=⟨⟨#[c]⟩,false,st⟩
def vm (j:Bool) (st:Int) (s:ByteArray):List Gl:=(if j=true then [chG st 32] else [])++s.data.toList.map (chG st)
def kN (p:Prs) (s:ByteArray) (k:Nat):Prs:=⟨p.words.drop k,p.out++vm p.joins p.style s,p.style,true⟩
def vV (out:List Gl) (st:Int) (r:Int) (times:Nat):Bool × List Gl :=
 if zR r<0 then (false,out)
 else if zR r=0 then
  (if 1<times then (false,out) else match out.getLast? with
   | none=>(false,out)
   | some g=>((ye g.text r).2==0,out.dropLast++[⟨(ye g.text r).1,g.wide,g.style⟩]))
 else (true,out++List.replicate times ⟨kt r.toNat,decide (zR r=2),st⟩)
def vY (s:ByteArray):Option Nat:=(List.range 4).find? fun i=>decide (vP i=s)
def kA (n:Nat):List UInt8:=if h:n<10 then [UInt8.ofNat (48+n)] else kA (n / 10)++[UInt8.ofNat (48+n % 10)]
termination_by n
decreasing_by omega
structure Near (B:Nat) (wb:World) where
 w:World
 h:Below B wb w
instance {B:Nat} {wb:World}:Nonempty (Near B wb):=⟨⟨wb,Below.refl B wb⟩⟩
def ym (g:Gl):List Value:=[.string g.text,.bool g.wide,.int .i64 g.style]
def qi (l:List Gl):List Value:=l.flatMap ym
theorem yU (g:Gl):(ym g).length=3:=rfl
theorem jf (g:Gl) (l:List Gl):qi (g::l)=ym g++qi l:=by simp [qi]
theorem qbi : ∀ l:List Gl,(qi l).length=l.length * 3
 | []=>rfl
 | r::l=>by
  rw [jf,List.length_append,qbi l,yU,List.length_cons]
  omega
theorem qcy : ∀ (l:List Gl) (i j:Nat),j<3->(qi l)[i * 3+j]? = l[i]?.bind fun r=>(ym r)[j]?
 | [],i,j,_=>by simp [qi]
 | r::l,0,j,h=>by
  rw [jf,Nat.zero_mul,Nat.zero_add,List.getElem?_append_left (by rw [yU];exact h)]
  rfl
 | r::l,i+1,j,h=>by
  rw [jf,List.getElem?_append_right (by rw [yU];omega),yU,show (i+1) * 3+j-3=i * 3+j by omega,qcy l i j h]
  rfl
def GlBox (w:World) (t:ByteArray) (wd:Bool) (st:Int) (wx:World):Prop:=wx.cell? ⟨w.heap.size,0,none⟩=some (.string t)/\wx.cell? ⟨w.heap.size,1,none⟩=some (.bool wd)/\wx.cell? ⟨w.heap.size,2,none⟩=some (.int .i64 st)/\Below w.heap.size w wx/\w.heap.size+1<=wx.heap.size
theorem GlBox.on {w wx wy:World} {t:ByteArray} {wd:Bool} {st:Int} (h:GlBox w t wd st wx) (hb:Below wx.heap.size wx wy):GlBox w t wd st wy:=by
 obtain ⟨h0,h1,h2,h3,h4⟩:=h
 exact ⟨(hb.cell (by show w.heap.size<_;omega)).trans h0,(hb.cell (by show w.heap.size<_;omega)).trans h1,(hb.cell (by show w.heap.size<_;omega)).trans h2,h3.trans (hb.mono (by omega)),Nat.le_trans h4 hb.size⟩
end Go.Proofs.YticbpkghcglgkaaGreatDoor
