/- Joined: Ur6, UrP, Ur7, Uc4, PlP. -/
import Derived.StillTailTactics
import Derived.Test.YtbogmeeijdaijaaGreatDoorZAP
set_option linter.unusedVariables false
set_option linter.unusedSimpArgs false
set_option linter.unnecessarySimpa false
set_option maxHeartbeats 4000000
namespace Go.Proofs.YtbogmeeijdaijaaGreatDoor
open Go.Proofs.Tryz Go.RowKit
set_option maxRecDepth 20000
def sizP (r:Option (List ByteArray)):Chg × Option (List ByteArray) :=
 (⟨1,(qN (r.bind (skO jS))).1,(qN ((qN (r.bind (skO jS))).2.bind (skO kv))).1,0,0,[]⟩,(qN ((qN (r.bind (skO jS))).2.bind (skO kv))).2.bind (skO jl))
def qc2 (x:Int × Option (List ByteArray)):Option (List ByteArray):=if x.1<0 then none else x.2
def scrP (r:Option (List ByteArray)):Chg × Option (List ByteArray) :=
 if qX (qN ((qN ((r.bind (skO q8)).bind (skO qI))).2.bind (skO bTo))).2 jj=true then
  (⟨2,(qN ((r.bind (skO q8)).bind (skO qI))).1-1,0,-(qN ((qN ((qN ((r.bind (skO q8)).bind (skO qI))).2.bind (skO bTo))).2.bind (skO jj))).1,(qN ((qN ((r.bind (skO q8)).bind (skO qI))).2.bind (skO bTo))).1,[]⟩,qc2 (qN ((qN ((qN ((r.bind (skO q8)).bind (skO qI))).2.bind (skO bTo))).2.bind (skO jj))))
 else
  (⟨2,(qN ((r.bind (skO q8)).bind (skO qI))).1-1,0,(qN ((qN ((qN ((r.bind (skO q8)).bind (skO qI))).2.bind (skO bTo))).2.bind (skO bUp))).1,(qN ((qN ((r.bind (skO q8)).bind (skO qI))).2.bind (skO bTo))).1,[]⟩,qc2 (qN ((qN ((qN ((r.bind (skO q8)).bind (skO qI))).2.bind (skO bTo))).2.bind (skO bUp))))
def curP (r:Option (List ByteArray)):Chg × Option (List ByteArray) :=
 if qX (qN ((qN ((r.bind (skO q7)).bind (skO qI))).2.bind (skO qO))).2 ze=true then
  (⟨4,(qN ((r.bind (skO q7)).bind (skO qI))).1-1,(qN ((qN ((r.bind (skO q7)).bind (skO qI))).2.bind (skO qO))).1-1,1,0,[]⟩,(qN ((qN ((r.bind (skO q7)).bind (skO qI))).2.bind (skO qO))).2.bind (skO ze))
 else
  (⟨4,(qN ((r.bind (skO q7)).bind (skO qI))).1-1,(qN ((qN ((r.bind (skO q7)).bind (skO qI))).2.bind (skO qO))).1-1,0,0,[]⟩,(qN ((qN ((r.bind (skO q7)).bind (skO qI))).2.bind (skO qO))).2.bind (skO zK))
def chgP (r:Option (List ByteArray)):Chg × Option (List ByteArray) :=
 if qX r jS=true then sizP r
 else if qX r q8=true then scrP r
 else if qX r qI=true then qbN r
 else if qX r q7=true then curP r
 else (⟨0,0,0,0,0,[]⟩,none)
def SplE (w:World) (B:Nat) (c:Chg) (r:Option (List ByteArray)) (e:Ending) (w':World):Prop:=∃ Ag cap A n cc l bad,e = .returned (.tuple #[.agg #[.int .i64 c.kind,.int .i64 c.row,.int .i64 c.col,.int .i64 c.count,.int .i64 c.til,.slice Ag c.glyphs.length cap],.agg #[.slice A n cc,.bool bad]])/\r=y7 bad l/\WdR w' B l A n cc/\Below w.heap.size w w'/\w'.ownsRow w.heap.size 64 3 (.slice Ag c.glyphs.length cap) c.glyphs.length (qi c.glyphs)
theorem CRet.spl {w w':World} {B:Nat} {c:Chg} {r:Option (List ByteArray)} {e:Ending} (h:CRet w B c r e w'):SplE w B c r e w':=by
 obtain ⟨Ag,cap,v,rfl,⟨A,n,cc,l,bad,rfl,hW,hr⟩,hb,ho⟩:=h;exact ⟨Ag,cap,A,n,cc,l,bad,rfl,hr,hW,hb,ho⟩
theorem uchange_ (l:List ByteArray) (A:Option Addr) (n c:Nat) (w:World) (B:Nat) (hW:WdR w B l A n c) (hB:B<=w.heap.size) (hl:l.length<=850000) (hs:Sp w) (hu:U8 w) (hy:Sty w) :
  Calls prog 34 #[.agg #[.slice A n c,.bool false]] w (CRet w B (chgP (some l)).1 (chgP (some l)).2):=by
 obtain ⟨R,hR⟩ : ∃ x,Hid (x=chgP (some l)):=⟨_,Lh rfl⟩
 rw [<- hR.out];have HSp:Hid (∀ X A n c,Below w.heap.size w X->WdR X B l A n c->Calls prog 61 #[.agg #[.slice A n c,.bool false]] X (SplE X B (qbN (some l)).1 (qbN (some l)).2)):=Lh fun X A n c hb hW'=>(usplice_ l A n c X B hW' (Lj hB hb.size) hl (hs.below hb (Ld _)) (hu.below hb) (hy.below hb (Ld _))).mono fun _ _ h=>h.spl
 have hX:=CS.start 0 hW hB;clear hW hl hs hu hy
 go_enter func34,ntmps34
 go_upto_block 0 with fail
 refine qa (CS w B (some l) ⟨0,0,0,0,0,[]⟩ none 0) hX ?_;clear hX;intro X hX;obtain ⟨s1,hs1⟩ : ∃ b,Hid (b=qX (some l) jS):=⟨_,Lh rfl⟩
 obtain ⟨A',n',c',bad',c0,c1,HN0⟩:=CS.nx_ hX hB jS;have HN:=Lh HN0;clear HN0;rw [<- hs1.out] at HN
 go_upto_if 5 with (go_at_call 33;refine HN.out.mono ?_;rintro e w1 ⟨rfl,hY⟩)
 refine qa (CS w B (some l) ⟨0,0,0,0,0,[]⟩ none 0) hY ?_;clear hY hX HN c0 c1;intro X hX
 cases s1 with
 | true =>
  have HR2:Hid (R=sizP (some l)):=Lh (by rw [hR.out,chgP,<- hs1.out];rfl);clear hR hs1 HSp;obtain ⟨x,hx⟩ : ∃ x,Hid (x=qN ((some l).bind (skO jS))):=⟨_,Lh rfl⟩
  obtain ⟨y,hy⟩ : ∃ y,Hid (y=qN (x.2.bind (skO kv))):=⟨_,Lh rfl⟩
  have HR3:Hid (R.1=⟨1,x.1,y.1,0,0,[]⟩/\R.2=y.2.bind (skO jl)):=Lh (by rw [HR2.out,hy.out,hx.out];exact ⟨rfl,rfl⟩);clear HR2;obtain ⟨A',n',c',l',bad',hr',hW,R1,R2,R3,R4,tx,hO⟩:=id hX;obtain ⟨c0,c1,f0,f1⟩:=vN R1;obtain ⟨k0,k1,k2,k3,k4,k5,p0,p1,p2,p3,p4,p5⟩:=qV R4;dsimp only at k0 k1 k2 k3 k4 k5
  go_upto_region 4 with fail
  refine qa (CS w B (some l) ⟨1,0,0,0,0,[]⟩ none 0) (hX.set_ hB 0 1 L2) ?_;clear hX;clear c0 c1 f0 f1 k0 k1 k2 k3 k4 k5 p0 p1 p2 p3 p4 p5 hr' hW R1 R2 R3 R4 tx hO;intro X hX;obtain ⟨A',n',c',bad',c0,c1,HA0⟩:=CS.af_ hX hB jS 1 L2 hx;have HA:=Lh HA0;clear HA0
  go_upto_region 5 with (go_at_call 59;refine HA.out.mono ?_;rintro e w1 ⟨A1,n1,cc1,bad1,v1,rfl,d0,d1,f0,f1,k0,p0,hY⟩)
  refine qa (CS w B x.2 ⟨1,x.1,0,0,0,[]⟩ none 0) hY ?_;clear hY hX HA c0 c1 d0 d1 f0 f1 k0 p0;intro X hX;obtain ⟨A',n',c',bad',c0,c1,HA0⟩:=CS.af_ hX hB kv 2 L2 hy;have HA:=Lh HA0;clear HA0
  go_upto_region 6 with (go_at_call 59;refine HA.out.mono ?_;rintro e w1 ⟨A1,n1,cc1,bad1,v1,rfl,d0,d1,f0,f1,k0,p0,hY⟩)
  refine qa (CS w B y.2 ⟨1,x.1,y.1,0,0,[]⟩ none 0) hY ?_;clear hY hX HA c0 c1 d0 d1 f0 f1 k0 p0;intro X hX;obtain ⟨A',n',c',l',bad',hr',hW,R1,R2,R3,R4,tx,hO⟩:=id hX;obtain ⟨c0,c1,f0,f1⟩:=vN R1;obtain ⟨k0,k1,k2,k3,k4,k5,p0,p1,p2,p3,p4,p5⟩:=qV R4;dsimp only at k0 k1 k2 k3 k4 k5;obtain ⟨o0,o1,o2,o3,o4,o5,q0,q1,q2,q3,q4,q5⟩:=qV R2;obtain ⟨m0,m1,v0,v1⟩:=vN R3;dsimp only at o0 o1 o2 o3 o4 o5;have HK:=Lh (qev y.2 (.agg #[.slice A' n' c',.bool bad']) jl B X.drew ⟨A',n',c',l',bad',rfl,hW.below (Le _ _).drew,hr'⟩ (Lj hB tx.drew.size));have z0:=R1.lt;have z1:=R2.lt;have z2:=R3.lt;have z3:=R4.lt
  go_region_law (go_simp;go_at_call 60;refine HK.out.mono ?_;rintro e w1 ⟨A1,n1,cc1,l1,bad1,rfl,hW1,hr1,hb1⟩;have hY:=(hX.drew hB).below hB hb1;clear o0 o1 o2 o3 o4 o5 q0 q1 q2 q3 q4 q5 m0 m1 v0 v1;clear c0 c1 f0 f1 k0 k1 k2 k3 k4 k5 p0 p1 p2 p3 p4 p5 hr' hW R1 R2 R3 R4 tx hO;(obtain ⟨A',n',c',l',bad',hr',hW,R1,R2,R3,R4,tx,hO⟩:=id hY;obtain ⟨c0,c1,f0,f1⟩:=vN R1;obtain ⟨k0,k1,k2,k3,k4,k5,p0,p1,p2,p3,p4,p5⟩:=qV R4;dsimp only at k0 k1 k2 k3 k4 k5);(obtain ⟨o0,o1,o2,o3,o4,o5,q0,q1,q2,q3,q4,q5⟩:=qV R2;obtain ⟨m0,m1,v0,v1⟩:=vN R3;dsimp only at o0 o1 o2 o3 o4 o5))
  all_goals go_wp2
  all_goals have HF:=Lh (fin_ (c:=⟨1,x.1,y.1,0,0,[]⟩) hB hr1 hW1 R2 R3 tx hO)
  all_goals rw [HR3.out.1,HR3.out.2]
  all_goals exact bodyPost_ret (jg rfl _ _ (w.heap.size+1) (w.heap.size+2) 57 72 _ _ (0,0) (0,0) _ _ rfl HF.out.1 underlying57 rfl yo rfl HF.out.2.1 underlying72 rfl zG) rfl ⟨_,_,_,rfl,HF.out.2.2.1,HF.out.2.2.2.1,HF.out.2.2.2.2⟩
 | false =>
  have hR2:Hid (R=if qX (some l) q8=true then scrP (some l) else if qX (some l) qI=true then qbN (some l) else if qX (some l) q7=true then curP (some l) else (⟨0,0,0,0,0,[]⟩,none)):=Lh (by rw [hR.out,chgP,<- hs1.out];rfl);clear hR hs1;obtain ⟨s2,hs2⟩ : ∃ b,Hid (b=qX (some l) q8):=⟨_,Lh rfl⟩
  obtain ⟨A',n',c',bad',c0,c1,HN0⟩:=CS.nx_ hX hB q8;have HN:=Lh HN0;clear HN0;rw [<- hs2.out] at HN
  go_upto_if 27 with (go_at_call 33;refine HN.out.mono ?_;rintro e w1 ⟨rfl,hY⟩)
  refine qa (CS w B (some l) ⟨0,0,0,0,0,[]⟩ none 0) hY ?_;clear hY hX HN c0 c1;intro X hX
  cases s2 with
  | true =>
   have HR2:Hid (R=scrP (some l)):=Lh (by rw [hR2.out,<- hs2.out];rfl);clear hR2 hs2 HSp;obtain ⟨x,hx⟩ : ∃ x,Hid (x=qN (((some l).bind (skO q8)).bind (skO qI))):=⟨_,Lh rfl⟩
   obtain ⟨y,hy⟩ : ∃ y,Hid (y=qN (x.2.bind (skO bTo))):=⟨_,Lh rfl⟩
   have HR3:Hid (R=if qX y.2 jj=true then (⟨2,x.1-1,0,-(qN (y.2.bind (skO jj))).1,y.1,[]⟩,qc2 (qN (y.2.bind (skO jj)))) else (⟨2,x.1-1,0,(qN (y.2.bind (skO bUp))).1,y.1,[]⟩,qc2 (qN (y.2.bind (skO bUp))))):=Lh (by rw [HR2.out,hy.out,hx.out];rfl);clear HR2;have hxr : -999999999<=x.1/\x.1<=999999999:=by rw [hx.out];exact kd _
   have e1:IntKind.i64.wrap (x.1-1)=x.1-1:=by rw [Lx];omega
   obtain ⟨A',n',c',l',bad',hr',hW,R1,R2,R3,R4,tx,hO⟩:=id hX;obtain ⟨c0,c1,f0,f1⟩:=vN R1;obtain ⟨k0,k1,k2,k3,k4,k5,p0,p1,p2,p3,p4,p5⟩:=qV R4;dsimp only at k0 k1 k2 k3 k4 k5
   go_upto_region 9 with fail
   refine qa (CS w B (some l) ⟨2,0,0,0,0,[]⟩ none 0) (hX.set_ hB 0 2 L2) ?_;clear hX;clear c0 c1 f0 f1 k0 k1 k2 k3 k4 k5 p0 p1 p2 p3 p4 p5 hr' hW R1 R2 R3 R4 tx hO;intro X hX;obtain ⟨A',n',c',bad',c0,c1,HA0⟩:=CS.af2_ hX hB q8 qI 1 L2 hx;have HA:=Lh HA0;clear HA0
   go_upto_region 10 with (go_at_call 59;refine HA.out.mono ?_;rintro e w1 ⟨A1,n1,cc1,bad1,v1,rfl,d0,d1,f0,f1,k0,p0,hY⟩)
   refine qa (CS w B x.2 ⟨2,x.1,0,0,0,[]⟩ none 0) hY ?_;clear hY hX HA c0 c1 d0 d1 f0 f1 k0 p0;intro X hX;obtain ⟨A',n',c',bad',c0,c1,HA0⟩:=CS.af_ hX hB bTo 4 L2 hy;have HA:=Lh HA0;clear HA0
   go_upto_region 11 with (go_at_call 59;refine HA.out.mono ?_;rintro e w1 ⟨A1,n1,cc1,bad1,v1,rfl,d0,d1,f0,f1,k0,p0,hY⟩)
   refine qa (CS w B y.2 ⟨2,x.1,0,0,y.1,[]⟩ none 0) hY ?_;clear hY hX HA c0 c1 d0 d1 f0 f1 k0 p0;intro X hX;obtain ⟨A',n',c',l',bad',hr',hW,R1,R2,R3,R4,tx,hO⟩:=id hX;obtain ⟨c0,c1,f0,f1⟩:=vN R1;obtain ⟨k0,k1,k2,k3,k4,k5,p0,p1,p2,p3,p4,p5⟩:=qV R4;dsimp only at k0 k1 k2 k3 k4 k5
   go_upto_region 12 with fail
   refine qa (CS w B y.2 ⟨2,x.1-1,0,0,y.1,[]⟩ none 0) (hX.set_ hB 1 (x.1-1) L2) ?_;clear hX;clear c0 c1 f0 f1 k0 k1 k2 k3 k4 k5 p0 p1 p2 p3 p4 p5 hr' hW R1 R2 R3 R4 tx hO;intro X hX;clear hx hy hxr;obtain ⟨xn,xr⟩:=x;obtain ⟨yn,yr⟩:=y;simp only at e1 hX HR3;generalize xn-1=Row at *
   obtain ⟨s3,hs3⟩ : ∃ b,Hid (b=qX yr jj):=⟨_,Lh rfl⟩
   obtain ⟨A',n',c',bad',c0,c1,HN0⟩:=CS.nx_ hX hB jj;have HN:=Lh HN0;clear HN0;rw [<- hs3.out] at HN
   go_upto_if 50 with (go_at_call 33;refine HN.out.mono ?_;rintro e w1 ⟨rfl,hY⟩)
   refine qa (CS w B yr ⟨2,Row,0,0,yn,[]⟩ none 0) hY ?_;clear hY hX HN c0 c1;intro X hX
   cases s3 with
   | true =>
    obtain ⟨u,hu⟩ : ∃ u,Hid (u=qN (yr.bind (skO jj))):=⟨_,Lh rfl⟩
    have HR4:Hid (R=(⟨2,Row,0,-u.1,yn,[]⟩,qc2 u)):=Lh (by rw [HR3.out,<- hs3.out,hu.out];rfl);have hur : -999999999<=u.1/\u.1<=999999999:=by rw [hu.out];exact kd _
    have e2:IntKind.i64.wrap (-u.1) = -u.1:=by rw [Lx];omega
    clear HR3 hs3;obtain ⟨A',n',c',bad',c0,c1,HA0⟩:=CS.af_ hX hB jj 3 L2 hu;have HA:=Lh HA0;clear HA0
    go_upto_region 14 with (go_at_call 59;refine HA.out.mono ?_;rintro e w1 ⟨A1,n1,cc1,bad1,v1,rfl,d0,d1,f0,f1,k0,p0,hY⟩)
    refine qa (CS w B u.2 ⟨2,Row,0,u.1,yn,[]⟩ none 0) hY ?_;clear hY hX HA c0 c1 d0 d1 f0 f1 k0 p0;intro X hX;clear hu hur;obtain ⟨un,ur⟩:=u;simp only at e2 hX HR4
    by_cases hlt:un<0
    ·have HR3:Hid (R.1=⟨2,Row,0,-un,yn,[]⟩/\R.2=none):=Lh (by rw [HR4.out,qc2,if_pos hlt];exact ⟨rfl,rfl⟩);clear HR4;obtain ⟨A',n',c',l',bad',hr',hW,R1,R2,R3,R4,tx,hO⟩:=id hX;obtain ⟨c0,c1,f0,f1⟩:=vN R1;obtain ⟨k0,k1,k2,k3,k4,k5,p0,p1,p2,p3,p4,p5⟩:=qV R4;dsimp only at k0 k1 k2 k3 k4 k5
     go_upto_region 16 with fail
     refine qa (CS w B none ⟨2,Row,0,un,yn,[]⟩ none 0) (hX.spoil hB) ?_;clear hX;clear c0 c1 f0 f1 k0 k1 k2 k3 k4 k5 p0 p1 p2 p3 p4 p5 hr' hW R1 R2 R3 R4 tx hO;intro X hX;obtain ⟨A',n',c',l',bad',hr',hW,R1,R2,R3,R4,tx,hO⟩:=id hX;obtain ⟨c0,c1,f0,f1⟩:=vN R1;obtain ⟨k0,k1,k2,k3,k4,k5,p0,p1,p2,p3,p4,p5⟩:=qV R4;dsimp only at k0 k1 k2 k3 k4 k5
     go_upto_region 17 with fail
     refine qa (CS w B none ⟨2,Row,0,-un,yn,[]⟩ none 0) (hX.set_ hB 3 (-un) L2) ?_;clear hX;clear c0 c1 f0 f1 k0 k1 k2 k3 k4 k5 p0 p1 p2 p3 p4 p5 hr' hW R1 R2 R3 R4 tx hO;intro X hX;obtain ⟨A',n',c',l',bad',hr',hW,R1,R2,R3,R4,tx,hO⟩:=id hX;obtain ⟨c0,c1,f0,f1⟩:=vN R1;obtain ⟨k0,k1,k2,k3,k4,k5,p0,p1,p2,p3,p4,p5⟩:=qV R4;dsimp only at k0 k1 k2 k3 k4 k5;obtain ⟨o0,o1,o2,o3,o4,o5,q0,q1,q2,q3,q4,q5⟩:=qV R2;obtain ⟨m0,m1,v0,v1⟩:=vN R3;dsimp only at o0 o1 o2 o3 o4 o5;have HF:=Lh (qaV (c:=⟨2,Row,0,-un,yn,[]⟩) hB hr' hW R2 R3 tx hO)
     go_region_law (fail)
     all_goals go_wp2
     all_goals rw [HR3.out.1,HR3.out.2]
     all_goals exact bodyPost_ret (jg rfl _ _ (w.heap.size+1) (w.heap.size+2) 57 72 _ _ (0,0) (0,0) _ _ rfl HF.out.1 underlying57 rfl yo rfl HF.out.2.1 underlying72 rfl zG) rfl ⟨_,_,_,rfl,HF.out.2.2.1,HF.out.2.2.2.1,HF.out.2.2.2.2⟩
    ·have HR3:Hid (R.1=⟨2,Row,0,-un,yn,[]⟩/\R.2=ur):=Lh (by rw [HR4.out,qc2,if_neg L0];exact ⟨rfl,rfl⟩);clear HR4;obtain ⟨A',n',c',l',bad',hr',hW,R1,R2,R3,R4,tx,hO⟩:=id hX;obtain ⟨c0,c1,f0,f1⟩:=vN R1;obtain ⟨k0,k1,k2,k3,k4,k5,p0,p1,p2,p3,p4,p5⟩:=qV R4;dsimp only at k0 k1 k2 k3 k4 k5
     go_upto_region 16 with fail
     refine qa (CS w B ur ⟨2,Row,0,un,yn,[]⟩ none 0) (hX) ?_;clear hX;clear c0 c1 f0 f1 k0 k1 k2 k3 k4 k5 p0 p1 p2 p3 p4 p5 hr' hW R1 R2 R3 R4 tx hO;intro X hX;obtain ⟨A',n',c',l',bad',hr',hW,R1,R2,R3,R4,tx,hO⟩:=id hX;obtain ⟨c0,c1,f0,f1⟩:=vN R1;obtain ⟨k0,k1,k2,k3,k4,k5,p0,p1,p2,p3,p4,p5⟩:=qV R4;dsimp only at k0 k1 k2 k3 k4 k5
     go_upto_region 17 with fail
     refine qa (CS w B ur ⟨2,Row,0,-un,yn,[]⟩ none 0) (hX.set_ hB 3 (-un) L2) ?_;clear hX;clear c0 c1 f0 f1 k0 k1 k2 k3 k4 k5 p0 p1 p2 p3 p4 p5 hr' hW R1 R2 R3 R4 tx hO;intro X hX;obtain ⟨A',n',c',l',bad',hr',hW,R1,R2,R3,R4,tx,hO⟩:=id hX;obtain ⟨c0,c1,f0,f1⟩:=vN R1;obtain ⟨k0,k1,k2,k3,k4,k5,p0,p1,p2,p3,p4,p5⟩:=qV R4;dsimp only at k0 k1 k2 k3 k4 k5;obtain ⟨o0,o1,o2,o3,o4,o5,q0,q1,q2,q3,q4,q5⟩:=qV R2;obtain ⟨m0,m1,v0,v1⟩:=vN R3;dsimp only at o0 o1 o2 o3 o4 o5;have HF:=Lh (qaV (c:=⟨2,Row,0,-un,yn,[]⟩) hB hr' hW R2 R3 tx hO)
     go_region_law (fail)
     all_goals go_wp2
     all_goals rw [HR3.out.1,HR3.out.2]
     all_goals exact bodyPost_ret (jg rfl _ _ (w.heap.size+1) (w.heap.size+2) 57 72 _ _ (0,0) (0,0) _ _ rfl HF.out.1 underlying57 rfl yo rfl HF.out.2.1 underlying72 rfl zG) rfl ⟨_,_,_,rfl,HF.out.2.2.1,HF.out.2.2.2.1,HF.out.2.2.2.2⟩
   | false =>
    obtain ⟨u,hu⟩ : ∃ u,Hid (u=qN (yr.bind (skO bUp))):=⟨_,Lh rfl⟩
    have HR4:Hid (R=(⟨2,Row,0,u.1,yn,[]⟩,qc2 u)):=Lh (by rw [HR3.out,<- hs3.out,hu.out];rfl);clear HR3 hs3
    go_upto_region 18 with fail
    obtain ⟨A',n',c',bad',c0,c1,HA0⟩:=CS.af_ hX hB bUp 3 L2 hu;have HA:=Lh HA0;clear HA0
    go_upto_region 19 with (go_at_call 59;refine HA.out.mono ?_;rintro e w1 ⟨A1,n1,cc1,bad1,v1,rfl,d0,d1,f0,f1,k0,p0,hY⟩)
    refine qa (CS w B u.2 ⟨2,Row,0,u.1,yn,[]⟩ none 0) hY ?_;clear hY hX HA c0 c1 d0 d1 f0 f1 k0 p0;intro X hX;clear hu;obtain ⟨un,ur⟩:=u;simp only at hX HR4
    by_cases hlt:un<0
    ·have HR3:Hid (R.1=⟨2,Row,0,un,yn,[]⟩/\R.2=none):=Lh (by rw [HR4.out,qc2,if_pos hlt];exact ⟨rfl,rfl⟩);clear HR4;obtain ⟨A',n',c',l',bad',hr',hW,R1,R2,R3,R4,tx,hO⟩:=id hX;obtain ⟨c0,c1,f0,f1⟩:=vN R1;obtain ⟨k0,k1,k2,k3,k4,k5,p0,p1,p2,p3,p4,p5⟩:=qV R4;dsimp only at k0 k1 k2 k3 k4 k5
     go_upto_region 21 with fail
     refine qa (CS w B none ⟨2,Row,0,un,yn,[]⟩ none 0) (hX.spoil hB) ?_;clear hX;clear c0 c1 f0 f1 k0 k1 k2 k3 k4 k5 p0 p1 p2 p3 p4 p5 hr' hW R1 R2 R3 R4 tx hO;intro X hX;obtain ⟨A',n',c',l',bad',hr',hW,R1,R2,R3,R4,tx,hO⟩:=id hX;obtain ⟨c0,c1,f0,f1⟩:=vN R1;obtain ⟨k0,k1,k2,k3,k4,k5,p0,p1,p2,p3,p4,p5⟩:=qV R4;dsimp only at k0 k1 k2 k3 k4 k5;obtain ⟨o0,o1,o2,o3,o4,o5,q0,q1,q2,q3,q4,q5⟩:=qV R2;obtain ⟨m0,m1,v0,v1⟩:=vN R3;dsimp only at o0 o1 o2 o3 o4 o5;have HF:=Lh (qaV (c:=⟨2,Row,0,un,yn,[]⟩) hB hr' hW R2 R3 tx hO)
     go_region_law (fail)
     all_goals go_wp2
     all_goals rw [HR3.out.1,HR3.out.2]
     all_goals exact bodyPost_ret (jg rfl _ _ (w.heap.size+1) (w.heap.size+2) 57 72 _ _ (0,0) (0,0) _ _ rfl HF.out.1 underlying57 rfl yo rfl HF.out.2.1 underlying72 rfl zG) rfl ⟨_,_,_,rfl,HF.out.2.2.1,HF.out.2.2.2.1,HF.out.2.2.2.2⟩
    ·have HR3:Hid (R.1=⟨2,Row,0,un,yn,[]⟩/\R.2=ur):=Lh (by rw [HR4.out,qc2,if_neg L0];exact ⟨rfl,rfl⟩);clear HR4;obtain ⟨A',n',c',l',bad',hr',hW,R1,R2,R3,R4,tx,hO⟩:=id hX;obtain ⟨c0,c1,f0,f1⟩:=vN R1;obtain ⟨k0,k1,k2,k3,k4,k5,p0,p1,p2,p3,p4,p5⟩:=qV R4;dsimp only at k0 k1 k2 k3 k4 k5
     go_upto_region 21 with fail
     refine qa (CS w B ur ⟨2,Row,0,un,yn,[]⟩ none 0) (hX) ?_;clear hX;clear c0 c1 f0 f1 k0 k1 k2 k3 k4 k5 p0 p1 p2 p3 p4 p5 hr' hW R1 R2 R3 R4 tx hO;intro X hX;obtain ⟨A',n',c',l',bad',hr',hW,R1,R2,R3,R4,tx,hO⟩:=id hX;obtain ⟨c0,c1,f0,f1⟩:=vN R1;obtain ⟨k0,k1,k2,k3,k4,k5,p0,p1,p2,p3,p4,p5⟩:=qV R4;dsimp only at k0 k1 k2 k3 k4 k5;obtain ⟨o0,o1,o2,o3,o4,o5,q0,q1,q2,q3,q4,q5⟩:=qV R2;obtain ⟨m0,m1,v0,v1⟩:=vN R3;dsimp only at o0 o1 o2 o3 o4 o5;have HF:=Lh (qaV (c:=⟨2,Row,0,un,yn,[]⟩) hB hr' hW R2 R3 tx hO)
     go_region_law (fail)
     all_goals go_wp2
     all_goals rw [HR3.out.1,HR3.out.2]
     all_goals exact bodyPost_ret (jg rfl _ _ (w.heap.size+1) (w.heap.size+2) 57 72 _ _ (0,0) (0,0) _ _ rfl HF.out.1 underlying57 rfl yo rfl HF.out.2.1 underlying72 rfl zG) rfl ⟨_,_,_,rfl,HF.out.2.2.1,HF.out.2.2.2.1,HF.out.2.2.2.2⟩
  | false =>
   have hR:Hid (R=if qX (some l) qI=true then qbN (some l) else if qX (some l) q7=true then curP (some l) else (⟨0,0,0,0,0,[]⟩,none)):=Lh (by rw [hR2.out,<- hs2.out];rfl);clear hR2 hs2;obtain ⟨s3,hs3⟩ : ∃ b,Hid (b=qX (some l) qI):=⟨_,Lh rfl⟩
   obtain ⟨A',n',c',bad',c0,c1,HN0⟩:=CS.nx_ hX hB qI;have HN:=Lh HN0;clear HN0;rw [<- hs3.out] at HN
   go_upto_if 81 with (go_at_call 33;refine HN.out.mono ?_;rintro e w1 ⟨rfl,hY⟩)
   refine qa (CS w B (some l) ⟨0,0,0,0,0,[]⟩ none 0) hY ?_;clear hY hX HN c0 c1;intro X hX
   cases s3 with
   | true =>
    have HR2:Hid (R=qbN (some l)):=Lh (by rw [hR.out,<- hs3.out];rfl);clear hR hs3;have HR3:Hid (R.1=(qbN (some l)).1/\R.2=(qbN (some l)).2):=Lh (by rw [HR2.out];exact ⟨rfl,rfl⟩);clear HR2;generalize qbN (some l)=SP at *
    obtain ⟨A',n',c',l',bad',hr',hW,R1,R2,R3,R4,tx,hO⟩:=id hX;obtain ⟨c0,c1,f0,f1⟩:=vN R1;obtain ⟨k0,k1,k2,k3,k4,k5,p0,p1,p2,p3,p4,p5⟩:=qV R4;dsimp only at k0 k1 k2 k3 k4 k5;obtain ⟨o0,o1,o2,o3,o4,o5,q0,q1,q2,q3,q4,q5⟩:=qV R2;obtain ⟨m0,m1,v0,v1⟩:=vN R3;dsimp only at o0 o1 o2 o3 o4 o5
    cases bad' with
    | true=>cases hr'
    | false =>
     obtain rfl:l=l':=by cases hr';rfl
     have hxs:=hX.size
     go_wp2_with (go_at_call 61;refine (HSp.out X A' n' c' tx hW).mono ?_;rintro e w1 ⟨Ag,cap,A1,n1,cc1,l1,bad1,rfl,hr1,hW1,hb1,ho1⟩;have hY:=hX.below hB hb1;clear o0 o1 o2 o3 o4 o5 q0 q1 q2 q3 q4 q5 m0 m1 v0 v1;clear c0 c1 f0 f1 k0 k1 k2 k3 k4 k5 p0 p1 p2 p3 p4 p5 hr' hW R1 R2 R3 R4 tx hO;(obtain ⟨A',n',c',l',bad',hr',hW,R1,R2,R3,R4,tx,hO⟩:=id hY;obtain ⟨c0,c1,f0,f1⟩:=vN R1;obtain ⟨k0,k1,k2,k3,k4,k5,p0,p1,p2,p3,p4,p5⟩:=qV R4;dsimp only at k0 k1 k2 k3 k4 k5);(obtain ⟨o0,o1,o2,o3,o4,o5,q0,q1,q2,q3,q4,q5⟩:=qV R2;obtain ⟨m0,m1,v0,v1⟩:=vN R3;dsimp only at o0 o1 o2 o3 o4 o5))
     have HF:=Lh (fin_ (c:=SP.1) hB hr1 hW1 R2 R3 tx (qt ho1 L0))
     all_goals rw [HR3.out.1,HR3.out.2]
     all_goals exact bodyPost_ret (jg rfl _ _ (w.heap.size+1) (w.heap.size+2) 57 72 _ _ (0,0) (0,0) _ _ rfl HF.out.1 underlying57 rfl yo rfl HF.out.2.1 underlying72 rfl zG) rfl ⟨_,_,_,rfl,HF.out.2.2.1,HF.out.2.2.2.1,HF.out.2.2.2.2⟩
   | false =>
    have hR2:Hid (R=if qX (some l) q7=true then curP (some l) else (⟨0,0,0,0,0,[]⟩,none)):=Lh (by rw [hR.out,<- hs3.out];rfl);clear hR hs3 HSp;obtain ⟨s4,hs4⟩ : ∃ b,Hid (b=qX (some l) q7):=⟨_,Lh rfl⟩
    obtain ⟨A',n',c',bad',c0,c1,HN0⟩:=CS.nx_ hX hB q7;have HN:=Lh HN0;clear HN0;rw [<- hs4.out] at HN
    go_upto_if 88 with (go_at_call 33;refine HN.out.mono ?_;rintro e w1 ⟨rfl,hY⟩)
    refine qa (CS w B (some l) ⟨0,0,0,0,0,[]⟩ none 0) hY ?_;clear hY hX HN c0 c1;intro X hX
    cases s4 with
    | true =>
     have HR2:Hid (R=curP (some l)):=Lh (by rw [hR2.out,<- hs4.out];rfl);clear hR2 hs4;obtain ⟨x,hx⟩ : ∃ x,Hid (x=qN (((some l).bind (skO q7)).bind (skO qI))):=⟨_,Lh rfl⟩
     obtain ⟨y,hy⟩ : ∃ y,Hid (y=qN (x.2.bind (skO qO))):=⟨_,Lh rfl⟩
     have HR3:Hid (R=if qX y.2 ze=true then (⟨4,x.1-1,y.1-1,1,0,[]⟩,y.2.bind (skO ze)) else (⟨4,x.1-1,y.1-1,0,0,[]⟩,y.2.bind (skO zK))):=Lh (by rw [HR2.out,hy.out,hx.out];rfl);clear HR2;have hxr : -999999999<=x.1/\x.1<=999999999:=by rw [hx.out];exact kd _
     have hyr : -999999999<=y.1/\y.1<=999999999:=by rw [hy.out];exact kd _
     have e1:IntKind.i64.wrap (x.1-1)=x.1-1:=by rw [Lx];omega
     have e2:IntKind.i64.wrap (y.1-1)=y.1-1:=by rw [Lx];omega
     obtain ⟨A',n',c',l',bad',hr',hW,R1,R2,R3,R4,tx,hO⟩:=id hX;obtain ⟨c0,c1,f0,f1⟩:=vN R1;obtain ⟨k0,k1,k2,k3,k4,k5,p0,p1,p2,p3,p4,p5⟩:=qV R4;dsimp only at k0 k1 k2 k3 k4 k5
     go_upto_region 26 with fail
     refine qa (CS w B (some l) ⟨4,0,0,0,0,[]⟩ none 0) (hX.set_ hB 0 4 L2) ?_;clear hX;clear c0 c1 f0 f1 k0 k1 k2 k3 k4 k5 p0 p1 p2 p3 p4 p5 hr' hW R1 R2 R3 R4 tx hO;intro X hX;obtain ⟨A',n',c',bad',c0,c1,HA0⟩:=CS.af2_ hX hB q7 qI 1 L2 hx;have HA:=Lh HA0;clear HA0
     go_upto_region 27 with (go_at_call 59;refine HA.out.mono ?_;rintro e w1 ⟨A1,n1,cc1,bad1,v1,rfl,d0,d1,f0,f1,k0,p0,hY⟩)
     refine qa (CS w B x.2 ⟨4,x.1,0,0,0,[]⟩ none 0) hY ?_;clear hY hX HA c0 c1 d0 d1 f0 f1 k0 p0;intro X hX;obtain ⟨A',n',c',bad',c0,c1,HA0⟩:=CS.af_ hX hB qO 2 L2 hy;have HA:=Lh HA0;clear HA0
     go_upto_region 28 with (go_at_call 59;refine HA.out.mono ?_;rintro e w1 ⟨A1,n1,cc1,bad1,v1,rfl,d0,d1,f0,f1,k0,p0,hY⟩)
     refine qa (CS w B y.2 ⟨4,x.1,y.1,0,0,[]⟩ none 0) hY ?_;clear hY hX HA c0 c1 d0 d1 f0 f1 k0 p0;intro X hX;obtain ⟨A',n',c',l',bad',hr',hW,R1,R2,R3,R4,tx,hO⟩:=id hX;obtain ⟨c0,c1,f0,f1⟩:=vN R1;obtain ⟨k0,k1,k2,k3,k4,k5,p0,p1,p2,p3,p4,p5⟩:=qV R4;dsimp only at k0 k1 k2 k3 k4 k5
     go_upto_region 29 with fail
     refine qa (CS w B y.2 ⟨4,x.1-1,y.1-1,0,0,[]⟩ none 0) (((hX.set_ hB 1 (x.1-1) L2).set_ hB 2 (y.1-1) L2)) ?_;clear hX;clear c0 c1 f0 f1 k0 k1 k2 k3 k4 k5 p0 p1 p2 p3 p4 p5 hr' hW R1 R2 R3 R4 tx hO;intro X hX;clear hx hy hxr hyr;obtain ⟨xn,xr⟩:=x;obtain ⟨yn,yr⟩:=y;simp only at e1 e2 hX HR3;generalize xn-1=Row at *
     generalize yn-1=Col at *
     obtain ⟨s5,hs5⟩ : ∃ b,Hid (b=qX yr ze):=⟨_,Lh rfl⟩
     have HR2:=HR3;clear HR3;obtain ⟨A',n',c',bad',c0,c1,HN0⟩:=CS.nx_ hX hB ze;have HN:=Lh HN0;clear HN0;rw [<- hs5.out] at HN
     go_upto_if 115 with (go_at_call 33;refine HN.out.mono ?_;rintro e w1 ⟨rfl,hY⟩)
     refine qa (CS w B yr ⟨4,Row,Col,0,0,[]⟩ none 0) hY ?_;clear hY hX HN c0 c1;intro X hX
     cases s5 with
     | true =>
      have HR3:Hid (R.1=⟨4,Row,Col,1,0,[]⟩/\R.2=yr.bind (skO ze)):=Lh (by rw [HR2.out,<- hs5.out];exact ⟨rfl,rfl⟩);clear HR2 hs5;obtain ⟨A',n',c',l',bad',hr',hW,R1,R2,R3,R4,tx,hO⟩:=id hX;obtain ⟨c0,c1,f0,f1⟩:=vN R1;obtain ⟨k0,k1,k2,k3,k4,k5,p0,p1,p2,p3,p4,p5⟩:=qV R4;dsimp only at k0 k1 k2 k3 k4 k5
      go_upto_region 31 with fail
      refine qa (CS w B yr ⟨4,Row,Col,1,0,[]⟩ none 0) (hX.set_ hB 3 1 L2) ?_;clear hX;clear c0 c1 f0 f1 k0 k1 k2 k3 k4 k5 p0 p1 p2 p3 p4 p5 hr' hW R1 R2 R3 R4 tx hO;intro X hX;obtain ⟨A',n',c',l',bad',hr',hW,R1,R2,R3,R4,tx,hO⟩:=id hX;obtain ⟨c0,c1,f0,f1⟩:=vN R1;obtain ⟨k0,k1,k2,k3,k4,k5,p0,p1,p2,p3,p4,p5⟩:=qV R4;dsimp only at k0 k1 k2 k3 k4 k5;obtain ⟨o0,o1,o2,o3,o4,o5,q0,q1,q2,q3,q4,q5⟩:=qV R2;obtain ⟨m0,m1,v0,v1⟩:=vN R3;dsimp only at o0 o1 o2 o3 o4 o5;have HK:=Lh (qev yr (.agg #[.slice A' n' c',.bool bad']) ze B X.drew ⟨A',n',c',l',bad',rfl,hW.below (Le _ _).drew,hr'⟩ (Lj hB tx.drew.size));have z0:=R1.lt;have z1:=R2.lt;have z2:=R3.lt;have z3:=R4.lt
      go_region_law (go_simp;go_at_call 60;refine HK.out.mono ?_;rintro e w1 ⟨A1,n1,cc1,l1,bad1,rfl,hW1,hr1,hb1⟩;have hY:=(hX.drew hB).below hB hb1;clear o0 o1 o2 o3 o4 o5 q0 q1 q2 q3 q4 q5 m0 m1 v0 v1;clear c0 c1 f0 f1 k0 k1 k2 k3 k4 k5 p0 p1 p2 p3 p4 p5 hr' hW R1 R2 R3 R4 tx hO;(obtain ⟨A',n',c',l',bad',hr',hW,R1,R2,R3,R4,tx,hO⟩:=id hY;obtain ⟨c0,c1,f0,f1⟩:=vN R1;obtain ⟨k0,k1,k2,k3,k4,k5,p0,p1,p2,p3,p4,p5⟩:=qV R4;dsimp only at k0 k1 k2 k3 k4 k5);(obtain ⟨o0,o1,o2,o3,o4,o5,q0,q1,q2,q3,q4,q5⟩:=qV R2;obtain ⟨m0,m1,v0,v1⟩:=vN R3;dsimp only at o0 o1 o2 o3 o4 o5))
      all_goals go_wp2
      all_goals have HF:=Lh (fin_ (c:=⟨4,Row,Col,1,0,[]⟩) hB hr1 hW1 R2 R3 tx hO)
      all_goals rw [HR3.out.1,HR3.out.2]
      all_goals exact bodyPost_ret (jg rfl _ _ (w.heap.size+1) (w.heap.size+2) 57 72 _ _ (0,0) (0,0) _ _ rfl HF.out.1 underlying57 rfl yo rfl HF.out.2.1 underlying72 rfl zG) rfl ⟨_,_,_,rfl,HF.out.2.2.1,HF.out.2.2.2.1,HF.out.2.2.2.2⟩
     | false =>
      have HR3:Hid (R.1=⟨4,Row,Col,0,0,[]⟩/\R.2=yr.bind (skO zK)):=Lh (by rw [HR2.out,<- hs5.out];exact ⟨rfl,rfl⟩);clear HR2 hs5
      go_upto_region 32 with fail
      obtain ⟨A',n',c',l',bad',hr',hW,R1,R2,R3,R4,tx,hO⟩:=id hX;obtain ⟨c0,c1,f0,f1⟩:=vN R1;obtain ⟨k0,k1,k2,k3,k4,k5,p0,p1,p2,p3,p4,p5⟩:=qV R4;dsimp only at k0 k1 k2 k3 k4 k5;obtain ⟨o0,o1,o2,o3,o4,o5,q0,q1,q2,q3,q4,q5⟩:=qV R2;obtain ⟨m0,m1,v0,v1⟩:=vN R3;dsimp only at o0 o1 o2 o3 o4 o5;have HK:=Lh (qev yr (.agg #[.slice A' n' c',.bool bad']) zK B X.drew ⟨A',n',c',l',bad',rfl,hW.below (Le _ _).drew,hr'⟩ (Lj hB tx.drew.size));have z0:=R1.lt;have z1:=R2.lt;have z2:=R3.lt;have z3:=R4.lt
      go_region_law (go_simp;go_at_call 60;refine HK.out.mono ?_;rintro e w1 ⟨A1,n1,cc1,l1,bad1,rfl,hW1,hr1,hb1⟩;have hY:=(hX.drew hB).below hB hb1;clear o0 o1 o2 o3 o4 o5 q0 q1 q2 q3 q4 q5 m0 m1 v0 v1;clear c0 c1 f0 f1 k0 k1 k2 k3 k4 k5 p0 p1 p2 p3 p4 p5 hr' hW R1 R2 R3 R4 tx hO;(obtain ⟨A',n',c',l',bad',hr',hW,R1,R2,R3,R4,tx,hO⟩:=id hY;obtain ⟨c0,c1,f0,f1⟩:=vN R1;obtain ⟨k0,k1,k2,k3,k4,k5,p0,p1,p2,p3,p4,p5⟩:=qV R4;dsimp only at k0 k1 k2 k3 k4 k5);(obtain ⟨o0,o1,o2,o3,o4,o5,q0,q1,q2,q3,q4,q5⟩:=qV R2;obtain ⟨m0,m1,v0,v1⟩:=vN R3;dsimp only at o0 o1 o2 o3 o4 o5))
      all_goals go_wp2
      all_goals have HF:=Lh (fin_ (c:=⟨4,Row,Col,0,0,[]⟩) hB hr1 hW1 R2 R3 tx hO)
      all_goals rw [HR3.out.1,HR3.out.2]
      all_goals exact bodyPost_ret (jg rfl _ _ (w.heap.size+1) (w.heap.size+2) 57 72 _ _ (0,0) (0,0) _ _ rfl HF.out.1 underlying57 rfl yo rfl HF.out.2.1 underlying72 rfl zG) rfl ⟨_,_,_,rfl,HF.out.2.2.1,HF.out.2.2.2.1,HF.out.2.2.2.2⟩
    | false =>
     have HR3:Hid (R.1=⟨0,0,0,0,0,[]⟩/\R.2=none):=Lh (by rw [hR2.out,<- hs4.out];exact ⟨rfl,rfl⟩);clear hR2 hs4;obtain ⟨A',n',c',l',bad',hr',hW,R1,R2,R3,R4,tx,hO⟩:=id hX;obtain ⟨c0,c1,f0,f1⟩:=vN R1;obtain ⟨k0,k1,k2,k3,k4,k5,p0,p1,p2,p3,p4,p5⟩:=qV R4;dsimp only at k0 k1 k2 k3 k4 k5;obtain ⟨o0,o1,o2,o3,o4,o5,q0,q1,q2,q3,q4,q5⟩:=qV R2;obtain ⟨m0,m1,v0,v1⟩:=vN R3;dsimp only at o0 o1 o2 o3 o4 o5;go_wp2;have HF:=Lh (fin_ (c:=⟨0,0,0,0,0,[]⟩) (r:=none) (bad:=true) (l:=[]) hB rfl (WdR.nil X B) R2 R3 tx hO)
     all_goals rw [HR3.out.1,HR3.out.2]
     all_goals exact bodyPost_ret (jg rfl _ _ (w.heap.size+1) (w.heap.size+2) 57 72 _ _ (0,0) (0,0) _ _ rfl HF.out.1 underlying57 rfl yo rfl HF.out.2.1 underlying72 rfl zG) rfl ⟨_,_,_,rfl,HF.out.2.2.1,HF.out.2.2.2.1,HF.out.2.2.2.2⟩
theorem kl (l s):qN ((some l).bind (skO s))=match afO s l with
  | some x=>(x.1,some x.2)
  | none=>(0,none):=by
 unfold qN afO;simp only [Option.bind_some]
 cases (skO s l).bind kU <;> rfl
theorem qfO (l s t):qN (((some l).bind (skO s)).bind (skO t))=match (skO s l).bind (afO t) with
  | some x=>(x.1,some x.2)
  | none=>(0,none):=by
 show qN ((skO s l).bind (skO t))=_
 cases skO s l with
 | none=>rfl
 | some l'=>exact kl l' t
theorem sizP_eq (l:List ByteArray):((afO jS l).bind fun x=>(afO kv x.2).bind fun y=>(skO jl y.2).map fun t=>((⟨1,x.1,y.1,0,0,[]⟩:Chg),t))=(sizP (some l)).2.map fun t=>((sizP (some l)).1,t):=by
 unfold sizP;rw [kl]
 cases afO jS l with
 | none=>rfl
 | some x =>
  simp only [Option.bind_some];rw [show skO kv x.2=(some x.2).bind (skO kv) from rfl,kl]
  cases afO kv x.2 with
  | none=>rfl
  | some y=>rfl
theorem scrP_eq (l:List ByteArray):(((skO q8 l).bind (afO qI)).bind fun x=>(afO bTo x.2).bind fun y =>
  if vT jj y.2=true then (afO jj y.2).bind fun z=>if z.1<0 then none else some ((⟨2,x.1-1,0,-z.1,y.1,[]⟩:Chg),z.2)
  else (afO bUp y.2).bind fun z=>if z.1<0 then none else some (⟨2,x.1-1,0,z.1,y.1,[]⟩,z.2))=(scrP (some l)).2.map fun t=>((scrP (some l)).1,t):=by
 unfold scrP;rw [qfO]
 cases (skO q8 l).bind (afO qI) with
 | none=>rfl
 | some x =>
  simp only [Option.bind_some];rw [show skO bTo x.2=(some x.2).bind (skO bTo) from rfl,kl]
  cases afO bTo x.2 with
  | none=>rfl
  | some y =>
   simp only [Option.bind_some]
   by_cases hd:vT jj y.2=true
   ·rw [if_pos hd,if_pos (show qX (some y.2) jj=true from hd),show skO jj y.2=(some y.2).bind (skO jj) from rfl,kl]
    cases afO jj y.2 with
    | none=>rfl
    | some z =>
     simp only [Option.bind_some,qc2]
     split <;> rfl
   ·rw [if_neg hd,if_neg (show ¬ qX (some y.2) jj=true from hd),show skO bUp y.2=(some y.2).bind (skO bUp) from rfl,kl]
    cases afO bUp y.2 with
    | none=>rfl
    | some z =>
     simp only [Option.bind_some,qc2]
     split <;> rfl
theorem curP_eq (l:List ByteArray):(((skO q7 l).bind (afO qI)).bind fun x=>(afO qO x.2).bind fun y =>
  if vT ze y.2=true then (skO ze y.2).map fun t=>((⟨4,x.1-1,y.1-1,1,0,[]⟩:Chg),t)
  else (skO zK y.2).map fun t=>(⟨4,x.1-1,y.1-1,0,0,[]⟩,t))=(curP (some l)).2.map fun t=>((curP (some l)).1,t):=by
 unfold curP;rw [qfO]
 cases (skO q7 l).bind (afO qI) with
 | none=>rfl
 | some x =>
  simp only [Option.bind_some];rw [show skO qO x.2=(some x.2).bind (skO qO) from rfl,kl]
  cases afO qO x.2 with
  | none=>rfl
  | some y =>
   simp only [Option.bind_some]
   by_cases hd:vT ze y.2=true
   ·rw [if_pos hd,if_pos (show qX (some y.2) ze=true from hd)]
   ·rw [if_neg hd,if_neg (show ¬ qX (some y.2) ze=true from hd)]
theorem delP_eq (l:List ByteArray):delL l=(delP (some l)).2.map fun t=>((delP (some l)).1,t):=by
 unfold delL delP
 by_cases hd:vT q9 l=true
 ·rw [if_pos hd,if_pos (show qX (some l) q9=true from hd),kl]
  cases afO q9 l with
  | none=>rfl
  | some x =>
   simp only [Option.bind_some]
   split <;> rfl
 ·rw [if_neg hd,if_neg (show ¬ qX (some l) q9=true from hd)]
  rfl
theorem qln (l:List ByteArray):insL l=(zH (some l)).2.map fun t=>((zH (some l)).1,t):=by
 unfold insL zH qkY
 by_cases hd:vT qK l=true
 ·rw [if_pos hd,if_pos (show qX (some l) qK=true from hd)];simp only [Option.bind_some]
  cases (skO qK l).bind qae <;> rfl
 ·rw [if_neg hd,if_neg (show ¬ qX (some l) qK=true from hd)]
  rfl
theorem splP_eq (l:List ByteArray):qbo l=(qbN (some l)).2.map fun t=>((qbN (some l)).1,t):=by
 unfold qbo qbN;rw [kl]
 cases afO qI l with
 | none=>rfl
 | some x =>
  simp only [Option.bind_some];rw [show skO qO x.2=(some x.2).bind (skO qO) from rfl,kl]
  cases afO qO x.2 with
  | none=>rfl
  | some y =>
   simp only [Option.bind_some];rw [delP_eq];generalize delP (some y.2)=d;obtain ⟨d1,d2⟩:=d
   cases d2 with
   | none=>rfl
   | some t =>
    simp only [Option.map_some,Option.bind_some];rw [qln];generalize zH (some t)=g;obtain ⟨g1,g2⟩:=g
    cases g2 <;> rfl
theorem chgP_eq (l:List ByteArray):qaL l=(chgP (some l)).2.map fun t=>((chgP (some l)).1,t):=by
 unfold qaL chgP
 by_cases h1:vT jS l=true
 ·rw [if_pos h1,if_pos (show qX (some l) jS=true from h1)];exact sizP_eq l
 ·rw [if_neg h1,if_neg (show ¬ qX (some l) jS=true from h1)]
  by_cases h2:vT q8 l=true
  ·rw [if_pos h2,if_pos (show qX (some l) q8=true from h2)];exact scrP_eq l
  ·rw [if_neg h2,if_neg (show ¬ qX (some l) q8=true from h2)]
   by_cases h3:vT qI l=true
   ·rw [if_pos h3,if_pos (show qX (some l) qI=true from h3)];exact splP_eq l
   ·rw [if_neg h3,if_neg (show ¬ qX (some l) qI=true from h3)]
    by_cases h4:vT q7 l=true
    ·rw [if_pos h4,if_pos (show qX (some l) q7=true from h4)];exact curP_eq l
    ·rw [if_neg h4,if_neg (show ¬ qX (some l) q7=true from h4)]
     rfl
theorem yV {s:ByteArray} {l t:List ByteArray} (h:skO s l=some t):t.length<l.length:=by
 cases l with
 | nil=>cases h
 | cons a u =>
  simp only [skO] at h
  split at h
  ·cases h;simp
  ·cases h
theorem qiq {l t:List ByteArray} {n:Int} (h:kU l=some (n,t)):t.length<=l.length:=by
 unfold kU at h;rw [Option.map_eq_some_iff] at h;obtain ⟨x,_,e⟩:=h
 cases e
 rw [List.length_drop]
 omega
theorem kg {s:ByteArray} {l t:List ByteArray} {n:Int} (h:afO s l=some (n,t)):t.length<l.length:=by
 unfold afO at h;rw [Option.bind_eq_some_iff] at h;obtain ⟨x,h1,h2⟩:=h;have:=yV h1;have:=qiq h2
 omega
theorem qgs {l t:List ByteArray} {G:List Gl} (h:qae l=some (G,t)):t.length<=l.length/\∃ k,kC (l.take k)=some G:=by
 unfold qae at h;rw [Option.bind_eq_some_iff] at h;obtain ⟨i,_,h2⟩:=h
 split at h2
 ·rename_i g gs hg
  cases h2
  exact ⟨by rw [List.length_drop];omega,i,hg⟩
 ·cases h2
theorem qim {l t:List ByteArray} {n:Int} (h:delL l=some (n,t)):t.length<=l.length:=by
 unfold delL at h
 split at h
 ·rw [Option.bind_eq_some_iff] at h;obtain ⟨x,h1,h2⟩:=h
  split at h2
  ·cases h2
  ·cases h2
   exact Lr (kg h1)
 ·cases h
  exact Ld _
def SmG (G:List Gl):Prop:=G.length<=1000000000/\∀ x∈G,x.text.size<=1000000000
theorem SmG.nil:SmG []:=⟨by decide,fun x hx=>by cases hx⟩
theorem qcV : ∀ (f:Nat) (q:Prs) (G:List Gl),PaK2 q->ka f q=some G->SmG G
 | 0,q,G,hk,h=>by
  rw [ka] at h
  injection h with h
  have h1:=hk.1.2.1;have h2:=hk.1.2.2;rw [<- h];exact ⟨by omega,fun x hx=>by have:=h2 x hx;omega⟩
 | f+1,q,G,hk,h=>by
  rw [ka] at h
  split at h
  ·injection h with h
   have h1:=hk.1.2.1;have h2:=hk.1.2.2;rw [<- h];exact ⟨by omega,fun x hx=>by have:=h2 x hx;omega⟩
  ·cases hp:va q with
   | none=>rw [hp] at h;cases h
   | some q'=>rw [hp] at h;exact qcV f q' G (hk.part hp) h
theorem qe2 {l:List ByteArray} {G:List Gl} (hl:l.length<=850000) (hsz : ∀ s∈l,s.size<=1000) (h:kC l=some G):SmG G :=
 qcV _ _ _ ⟨⟨hsz,by show 0+1100 * l.length<=_;omega,fun x hx=>by cases hx⟩,hl⟩ h
def Sub (t l:List ByteArray):Prop:=t.length<=l.length/\∀ s∈t,s∈l
theorem Sub.trans {a b c:List ByteArray} (h:Sub a b) (g:Sub b c):Sub a c:=⟨Lj h.1 g.1,fun s hs=>g.2 s (h.2 s hs)⟩
theorem qlJ {s:ByteArray} {l t:List ByteArray} (h:skO s l=some t):Sub t l:=by
 refine ⟨Lr (yV h),?_⟩
 cases l with
 | nil=>cases h
 | cons a u =>
  simp only [skO] at h
  split at h
  ·cases h;exact fun x hx=>List.mem_cons_of_mem _ hx
  ·cases h
theorem qlW {l t:List ByteArray} {n:Int} (h:kU l=some (n,t)):Sub t l:=by
 refine ⟨qiq h,?_⟩;unfold kU at h;rw [Option.map_eq_some_iff] at h;obtain ⟨x,_,e⟩:=h
 cases e
 exact fun s hs=>List.mem_of_mem_drop hs
theorem qhV {s:ByteArray} {l t:List ByteArray} {n:Int} (h:afO s l=some (n,t)):Sub t l:=by
 unfold afO at h;rw [Option.bind_eq_some_iff] at h;obtain ⟨x,h1,h2⟩:=h;exact (qlW h2).trans (qlJ h1)
theorem del_sub {l t:List ByteArray} {n:Int} (h:delL l=some (n,t)):Sub t l:=by
 unfold delL at h
 split at h
 ·rw [Option.bind_eq_some_iff] at h;obtain ⟨x,h1,h2⟩:=h
  split at h2
  ·cases h2
  ·cases h2
   exact qhV h1
 ·cases h
  exact ⟨Ld _,fun s hs=>hs⟩
theorem qlU {l t:List ByteArray} {G:List Gl} (h:insL l=some (G,t)) (hl:l.length<=850000) (hsz : ∀ s∈l,s.size<=1000):t.length<=l.length/\SmG G:=by
 unfold insL at h
 split at h
 ·rw [Option.bind_eq_some_iff] at h;obtain ⟨x,h1,h2⟩:=h;have hs:=qlJ h1;obtain ⟨h3,k,hk⟩:=qgs h2;exact ⟨Lj h3 hs.1,qe2 (by rw [Lu];have:=hs.1;omega) (fun s hs'=>hsz s (hs.2 s (List.mem_of_mem_take hs'))) hk⟩
 ·cases h
  exact ⟨Ld _,SmG.nil⟩
theorem qmp {l t:List ByteArray} {c:Chg} (h:qaL l=some (c,t)) (hl:l.length<=850000) (hsz : ∀ s∈l,s.size<=1000):t.length<l.length/\SmG c.glyphs:=by
 unfold qaL at h
 split at h
 ·rw [Option.bind_eq_some_iff] at h;obtain ⟨x,h1,h⟩:=h;rw [Option.bind_eq_some_iff] at h;obtain ⟨y,h2,h⟩:=h;rw [Option.map_eq_some_iff] at h;obtain ⟨u,h3,h⟩:=h
  cases h
  have:=kg h1;have:=kg h2;have:=yV h3;exact ⟨by omega,SmG.nil⟩
 ·split at h
  ·rw [Option.bind_eq_some_iff] at h;obtain ⟨x,h1,h⟩:=h;rw [Option.bind_eq_some_iff] at h1;obtain ⟨x0,h0,h1⟩:=h1;rw [Option.bind_eq_some_iff] at h;obtain ⟨y,h2,h⟩:=h;have:=yV h0;have:=kg h1;have:=kg h2
   split at h
   ·rw [Option.bind_eq_some_iff] at h;obtain ⟨z,h3,h⟩:=h;have:=kg h3
    split at h
    ·cases h
    ·cases h
     exact ⟨by omega,SmG.nil⟩
   ·rw [Option.bind_eq_some_iff] at h;obtain ⟨z,h3,h⟩:=h;have:=kg h3
    split at h
    ·cases h
    ·cases h
     exact ⟨by omega,SmG.nil⟩
  ·split at h
   ·unfold qbo at h;rw [Option.bind_eq_some_iff] at h;obtain ⟨x,h1,h⟩:=h;rw [Option.bind_eq_some_iff] at h;obtain ⟨y,h2,h⟩:=h;rw [Option.bind_eq_some_iff] at h;obtain ⟨z,h3,h⟩:=h;rw [Option.map_eq_some_iff] at h;obtain ⟨g,h4,h⟩:=h
    cases h
    have hs:=(del_sub h3).trans ((qhV h2).trans (qhV h1));have:=kg h1;have:=kg h2;have:=qim h3;obtain ⟨h5,h6⟩:=qlU h4 (Lj hs.1 hl) (fun s hs'=>hsz s (hs.2 s hs'));exact ⟨by omega,h6⟩
   ·split at h
    ·rw [Option.bind_eq_some_iff] at h;obtain ⟨x,h1,h⟩:=h;rw [Option.bind_eq_some_iff] at h1;obtain ⟨x0,h0,h1⟩:=h1;rw [Option.bind_eq_some_iff] at h;obtain ⟨y,h2,h⟩:=h;have:=yV h0;have:=kg h1;have:=kg h2
     split at h
     ·rw [Option.map_eq_some_iff] at h;obtain ⟨u,h3,h⟩:=h
      cases h
      have:=yV h3;exact ⟨by omega,SmG.nil⟩
     ·rw [Option.map_eq_some_iff] at h;obtain ⟨u,h3,h⟩:=h
      cases h
      have:=yV h3;exact ⟨by omega,SmG.nil⟩
    ·cases h
def ES (w:World) (B:Nat) (r:Option (List ByteArray)) (X:World):Prop :=
 ∃ A n cc l bad,r=y7 bad l/\WdR X B l A n cc/\Blk X w.heap.size 72 #[.slice A n cc,.bool bad]/\Below w.heap.size w X
theorem ES.turn {w X:World} {B:Nat} {r':Option (List ByteArray)} {A A0:Option Addr} {n cc n0 cc0:Nat} {l:List ByteArray} {bad bad0:Bool} (hB:B<=w.heap.size) (R1:Blk X w.heap.size 72 #[.slice A0 n0 cc0,.bool bad0]) (tx:Below w.heap.size w X) (hW:WdR X B l A n cc) (hr:r'=y7 bad l) :
  ES w B r' ((X.setCell ⟨w.heap.size,0,none⟩ (.slice A n cc)).setCell ⟨w.heap.size,1,none⟩ (.bool bad)) :=
 ⟨A,n,cc,l,bad,hr,hW.below (((Le B X).setCell (p:=⟨w.heap.size,0,none⟩) hB _).setCell (p:=⟨w.heap.size,1,none⟩) hB _),vd R1,(tx.setCell (p:=⟨w.heap.size,0,none⟩) (Ld _) _).setCell (p:=⟨w.heap.size,1,none⟩) (Ld _) _⟩
def EndE (w:World) (l:List ByteArray) (e:Ending) (w':World):Prop:=∃ N b,e = .returned (.tuple #[.int .i64 N,.bool b])/\Below w.heap.size w w'/\ki l=if b=true then some N else none
theorem end_tail (t:List ByteArray):((kU t).bind fun x=>(skO jG x.2).bind fun u=>if u=[]/\1<x.1 then some x.1 else none)=((qN (some t)).2.bind (skO jG)).bind fun u=>if u=[]/\1<(qN (some t)).1 then some (qN (some t)).1 else none:=by
 unfold qN;simp only [Option.bind_some]
 cases kU t with
 | none=>rfl
 | some x=>rfl
theorem qeB (l:List ByteArray) (s:ByteArray):qX (some l) s=vT s l:=rfl
theorem uend_ (l:List ByteArray) (A:Option Addr) (n c:Nat) (w:World) (B:Nat) (hW:WdR w B l A n c) (hB:B<=w.heap.size) :
  Calls prog 36 #[.agg #[.slice A n c,.bool false]] w (EndE w l):=by
 have hX:ES w B (some l) (w.alloc (.cells #[.slice A n c,.bool false] 72)):=⟨A,n,c,l,false,rfl,hW.below ((Le _ _).alloc hB _),Blk.new w _ _,L5⟩
 clear hW
 go_enter func36,ntmps36
 go_upto_region 1 with fail
 refine qa (ES w B (some l)) hX ?_;clear hX;intro X hX;obtain ⟨s1,hs1⟩ : ∃ b,Hid (b=qX (some l) kZ):=⟨_,Lh rfl⟩
 obtain ⟨A',n',c',l',bad',hr',hW,R1,tx⟩:=id hX;have c0:=R1.cell 0;have c1:=R1.cell 1;have f0:=R1.frozen 0;have f1:=R1.frozen 1;have z0:=R1.lt;simp only [La,Lb,Lc] at c0 c1;have hBX:=Lj hB tx.size
 cases bad' with
 | true=>cases hr'
 | false =>
  obtain rfl:l=l':=by cases hr';rfl
  have hln:=hW.len;have HN:=Lh (qdo (some l) _ kZ B X ⟨A',n',c',l,false,rfl,hW,rfl⟩ hBX);rw [<- hs1.out] at HN
  cases s1 with
  | true =>
   have HE:Hid (ki l=if l.length=1 then some 0 else none):=Lh (by unfold ki;rw [<- qeB,<- hs1.out];rfl);clear hs1 hr'
   go_upto_region 2 with (go_at_call 33;refine HN.out.mono ?_;rintro e w1 ⟨rfl,hb1⟩;(clear c0 c1 f0 f1;have R0:=R1.below hb1 R1.lt;have f0:=R0.frozen 0;have f1:=R0.frozen 1;have c0:=R0.cell 0;have c1:=R0.cell 1;simp only [La,Lb,Lc] at c0 c1))
   have hq:((n':Int)==1)=decide (l.length=1):=by rw [hln,Bool.eq_iff_iff];simp;omega
   generalize hdd:decide (l.length=1)=dd at *
   have HE2:Hid (ki l=if dd=true then some 0 else none):=Lh (by rw [HE.out,<- hdd];simp);clear HE hdd
   go_quiet (fail)
   go_wp2;go_ret2;exact ⟨0,dd,rfl,qf (tx.trans (hb1.mono L0)),HE2.out⟩
  | false =>
   have HE:Hid (ki l=(skO jN l).bind fun t=>if t=[] then some 1 else (kU t).bind fun x=>(skO jG x.2).bind fun u=>if u=[]/\1<x.1 then some x.1 else none):=Lh (by unfold ki;rw [<- qeB,<- hs1.out];rfl);clear hs1 hr';obtain ⟨r1,hr1⟩ : ∃ r,Hid (r=(some l).bind (skO jN)):=⟨_,Lh rfl⟩
   have HE1:Hid (ki l=r1.bind fun t=>if t=[] then some 1 else (kU t).bind fun x=>(skO jG x.2).bind fun u=>if u=[]/\1<x.1 then some x.1 else none):=Lh (by rw [HE.out,hr1.out];rfl);clear HE
   go_upto_region 3 with (go_at_call 33;refine HN.out.mono ?_;rintro e w1 ⟨rfl,hb1⟩;(clear c0 c1 f0 f1;have R0:=R1.below hb1 R1.lt;have f0:=R0.frozen 0;have f1:=R0.frozen 1;have c0:=R0.cell 0;have c1:=R0.cell 1;simp only [La,Lb,Lc] at c0 c1))
   refine qa (ES w B (some l)) ⟨A',n',c',l,false,rfl,hW.below (hb1.mono hBX),R1.below hb1 R1.lt,tx.trans (hb1.mono L0)⟩ ?_;clear hX c0 c1 f0 f1 z0 R1 tx hb1 hW HN hln hBX;intro X hX;obtain ⟨A',n',c',l',bad',hr',hW,R1,tx⟩:=id hX;have c0:=R1.cell 0;have c1:=R1.cell 1;have f0:=R1.frozen 0;have f1:=R1.frozen 1;have z0:=R1.lt;simp only [La,Lb,Lc] at c0 c1;have HK:=Lh (qev (some l) _ jN B X ⟨A',n',c',l',bad',rfl,hW,hr'⟩ (Lj hB tx.size));rw [<- hr1.out] at HK
   go_upto_region 4 with (go_at_call 60;refine HK.out.mono ?_;rintro e w1 ⟨A1,n1,cc1,l1,bad1,rfl,hW1,hq1,hb1⟩;(clear c0 c1 f0 f1;have R0:=R1.below hb1 R1.lt;have f0:=R0.frozen 0;have f1:=R0.frozen 1;have c0:=R0.cell 0;have c1:=R0.cell 1;simp only [La,Lb,Lc] at c0 c1))
   refine qa (ES w B r1) (ES.turn hB (R1.below hb1 R1.lt) (tx.trans (hb1.mono L0)) hW1 hq1) ?_;clear hX c0 c1 f0 f1 z0 R1 tx hb1 hW HK hr1 hW1 hq1 hr';intro X hX;obtain ⟨A',n',c',l',bad',hr',hW,R1,tx⟩:=id hX;have c0:=R1.cell 0;have c1:=R1.cell 1;have f0:=R1.frozen 0;have f1:=R1.frozen 1;have z0:=R1.lt;simp only [La,Lb,Lc] at c0 c1;have hln:=hW.len
   by_cases hn0:n'=0
   ·subst hn0;have hl0:l'=[]:=List.length_eq_zero_iff.1 hln;have HE2:Hid (ki l=if (!bad')=true then some 1 else none):=Lh (by rw [HE1.out,hr'];cases bad' <;> simp [y7,hl0]);clear HE1 hr'
    go_upto_region 5 with fail
    go_quiet (fail)
    go_wp2;go_ret2;exact ⟨1,!bad',rfl,qf tx,HE2.out⟩
   ·have hni:((n':Int)==0)=false:=Lm.2 L0;have hni2 : ¬ (n':Int)=0:=by omega
    obtain ⟨x,hx⟩ : ∃ x,Hid (x=qN r1):=⟨_,Lh rfl⟩
    obtain ⟨y,hy⟩ : ∃ y,Hid (y=x.2.bind (skO jG)):=⟨_,Lh rfl⟩
    have HE2:Hid (ki l=y.bind fun u=>if u=[]/\1<x.1 then some x.1 else none):=Lh (by
     rw [HE1.out,hy.out,hx.out,hr']
     cases bad' with
     | true=>rfl
     | false =>
      show (if l'=[] then _ else _)=_
      rw [if_neg (fun e=>hn0 (by rw [<- hln,e];rfl))]
      exact end_tail l')
    clear HE1 hn0 hln;have HM:=Lh (qfL r1 _ B X ⟨A',n',c',l',bad',rfl,hW,hr'⟩ (Lj hB tx.size));rw [<- hx.out] at HM
    go_upto_region 7 with (go_at_call 66;refine (HM.out.mono fun _ _ h=>h.e (Lj hB tx.size)).mono ?_;rintro e w1 ⟨v1,rfl,⟨A1,n1,cc1,l1,bad1,rfl,hW1,hq1⟩,hb1⟩;(clear c0 c1 f0 f1;have R0:=R1.below hb1 R1.lt;have f0:=R0.frozen 0;have f1:=R0.frozen 1;have c0:=R0.cell 0;have c1:=R0.cell 1;simp only [La,Lb,Lc] at c0 c1))
    refine qa (ES w B x.2) (ES.turn hB (R1.below hb1 R1.lt) (tx.trans (hb1.mono L0)) hW1 hq1) ?_;clear hX c0 c1 f0 f1 z0 R1 tx hb1 hW HM hW1 hq1 hr' hni hni2 hx;intro X hX;obtain ⟨A',n',c',l',bad',hr',hW,R1,tx⟩:=id hX;have c0:=R1.cell 0;have c1:=R1.cell 1;have f0:=R1.frozen 0;have f1:=R1.frozen 1;have z0:=R1.lt;simp only [La,Lb,Lc] at c0 c1;have HK:=Lh (qev x.2 _ jG B X ⟨A',n',c',l',bad',rfl,hW,hr'⟩ (Lj hB tx.size));rw [<- hy.out] at HK
    go_upto_region 8 with (go_at_call 60;refine HK.out.mono ?_;rintro e w1 ⟨A1,n1,cc1,l1,bad1,rfl,hW1,hq1,hb1⟩;(clear c0 c1 f0 f1;have R0:=R1.below hb1 R1.lt;have f0:=R0.frozen 0;have f1:=R0.frozen 1;have c0:=R0.cell 0;have c1:=R0.cell 1;simp only [La,Lb,Lc] at c0 c1))
    refine qa (ES w B y) (ES.turn hB (R1.below hb1 R1.lt) (tx.trans (hb1.mono L0)) hW1 hq1) ?_;clear hX c0 c1 f0 f1 z0 R1 tx hb1 hW HK hW1 hq1 hr' hy;intro X hX;obtain ⟨A',n',c',l',bad',hr',hW,R1,tx⟩:=id hX;have c0:=R1.cell 0;have c1:=R1.cell 1;have f0:=R1.frozen 0;have f1:=R1.frozen 1;have z0:=R1.lt;simp only [La,Lb,Lc] at c0 c1;have hln:=hW.len;obtain ⟨N,xr⟩:=x;simp only at HE2
    cases bad' with
    | true =>
     have HE3:Hid (ki l=none):=Lh (by rw [HE2.out,hr'];rfl);clear HE2 hr' hln;go_wp2;go_ret2;exact ⟨N,false,rfl,tx,HE3.out⟩
    | false =>
     have HE3:Hid (ki l=if l'=[]/\1<N then some N else none):=Lh (by rw [HE2.out,hr'];rfl);clear HE2 hr'
     by_cases hn0:n'=0
     ·subst hn0;have hl0:l'=[]:=List.length_eq_zero_iff.1 hln;have HE4:Hid (ki l=if decide (1<N)=true then some N else none):=Lh (by rw [HE3.out,hl0];simp);clear HE3 hln;generalize hdd:decide (1<N)=dd at *
      go_wp2;go_ret2;exact ⟨N,dd,by first | rfl | (rw [<- hdd]),tx,HE4.out⟩
     ·have HE4:Hid (ki l=none):=Lh (by rw [HE3.out,if_neg];rintro ⟨e,_⟩;rw [e] at hln;exact hn0 hln.symm);have hni:((n':Int)==0)=false:=Lm.2 L0;have hni2 : ¬ (n':Int)=0:=by omega
      clear HE3 hln;go_wp2;go_ret2;exact ⟨N,false,rfl,tx,HE4.out⟩
def chkAll:List ChgM->Int
 | []=>0
 | x::t=>if vj x.c=0 then chkAll t else vj x.c
def LowW (w:ByteArray):Prop:=azB w=true/\jF w=false
theorem LowW.bytes {w:ByteArray} (h:LowW w) : ∃ c T,w.data.toList=c::T/\∀ x∈c::T,97<=x.toNat/\x.toNat<=122:=by
 have h1:=h.1;unfold azB at h1;simp only [Bool.and_eq_true,Bool.not_eq_true',List.isEmpty_eq_false_iff,List.all_eq_true,decide_eq_true_eq] at h1;obtain ⟨h2,h3⟩:=h1
 match hd:w.data.toList with
 | []=>exact absurd hd h2
 | c::T=>exact ⟨c,T,rfl,by rw [<- hd];exact h3⟩
end Go.Proofs.YtbogmeeijdaijaaGreatDoor
