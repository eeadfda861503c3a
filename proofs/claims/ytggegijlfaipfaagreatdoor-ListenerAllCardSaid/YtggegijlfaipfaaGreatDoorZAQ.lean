/- Joined: Ur6, UrP, Vd5, Uc4, Vc1. -/
import Derived.Test.YtggegijlfaipfaaGreatDoorZAP
set_option linter.unusedVariables false
set_option linter.unusedSimpArgs false
set_option linter.unnecessarySimpa false
set_option maxHeartbeats 4000000
namespace Go.Proofs.YtggegijlfaipfaaGreatDoor
open Go.Proofs.Tryz Go.RowKit
set_option maxRecDepth 20000
def sizP (r:Option (List ByteArray)):Chg × Option (List ByteArray) :=
 (⟨1,(qN (r.bind (skO jS))).1,(qN ((qN (r.bind (skO jS))).2.bind (skO kv))).1,0,0,[]⟩,(qN ((qN (r.bind (skO jS))).2.bind (skO kv))).2.bind (skO jl))
def qc2 (x:Int × Option (List ByteArray)):Option (List ByteArray):=if x.1<0 then none else x.2
def scrP (r:Option (List ByteArray)):Chg × Option (List ByteArray) :=
 if qX (qN ((qN ((r.bind (skO q8)).bind (skO qI))).2.bind (skO bTo))).2 jj=true then
  (⟨2,(qN ((r.bind (skO q8)).bind (skO qI))).1-1,0,-(qN ((qN ((qN ((r.bind (skO q8)).bind (skO qI))).2.bind (skO bTo))).2.bind (skO jj))).1,(qN ((qN ((r.bind (skO q8)).bind (skO qI))).2.bind (skO bTo))).1,[]⟩,qc2 (qN ((qN ((qN ((r.bind (skO q8)).bind (skO qI))).2.bind (skO bTo))).2.bind (skO jj))))
 else
  (⟨2,(qN ((r.bind (skO q8)).bind (skO qI))).1-1,0,(qN ((qN ((qN ((r.bind (skO q8)).bind (skO qI))).2.bind (skO bTo))).2.bind (skO bUp))).1,(qN ((qN ((r.bind (skO q8)).bind (skO qI))).2.bind (skO bTo))).1,[]⟩,qc2 (qN ((qN ((qN ((r.bind (skO q8)).bind (skO qI))).2.bind (skO bTo))).2.bind (skO bUp))))
def curP (r:Option (List ByteArray)):Chg × Option (List ByteArray) :=
 if qX (qN ((qN ((r.bind (skO q7)).bind (skO qI))).2.bind (skO qO))).2 ze=true then
  (⟨4,(qN ((r.bind (skO q7)).bind (skO qI))).1-1,(qN ((qN ((r.bind (skO q7)).bind (skO qI))).2.bind (skO qO))).1-1,1,0,[]⟩,(qN ((qN ((r.bind (skO q7)).bind (skO qI))).2.bind (skO qO))).2.bind (skO ze))
 else
  (⟨4,(qN ((r.bind (skO q7)).bind (skO qI))).1-1,(qN ((qN ((r.bind (skO q7)).bind (skO qI))).2.bind (skO qO))).1-1,0,0,[]⟩,(qN ((qN ((r.bind (skO q7)).bind (skO qI))).2.bind (skO qO))).2.bind (skO zK))
def chgP (r:Option (List ByteArray)):Chg × Option (List ByteArray) :=
 if qX r jS=true then sizP r
 else if qX r q8=true then scrP r
 else if qX r qI=true then qbN r
 else if qX r q7=true then curP r
 else (⟨0,0,0,0,0,[]⟩,none)
def SplE (w:World) (B:Nat) (c:Chg) (r:Option (List ByteArray)) (e:Ending) (w':World):Prop:=∃ Ag cap A n cc l bad,e = .returned (.tuple #[.agg #[.int .i64 c.kind,.int .i64 c.row,.int .i64 c.col,.int .i64 c.count,.int .i64 c.til,.slice Ag c.glyphs.length cap],.agg #[.slice A n cc,.bool bad]])/\r=y7 bad l/\WdR w' B l A n cc/\Below w.heap.size w w'/\w'.ownsRow w.heap.size 61 3 (.slice Ag c.glyphs.length cap) c.glyphs.length (qi c.glyphs)
theorem CRet.spl {w w':World} {B:Nat} {c:Chg} {r:Option (List ByteArray)} {e:Ending} (h:CRet w B c r e w'):SplE w B c r e w':=by
 obtain ⟨Ag,cap,v,rfl,⟨A,n,cc,l,bad,rfl,hW,hr⟩,hb,ho⟩:=h;exact ⟨Ag,cap,A,n,cc,l,bad,rfl,hr,hW,hb,ho⟩
theorem uchange_ (l:List ByteArray) (A:Option Addr) (n c:Nat) (w:World) (B:Nat) (hW:WdR w B l A n c) (hB:B<=w.heap.size) (hl:l.length<=850000) (hs:Sp w) (hu:U8 w) (hy:Sty w) :
  Calls prog 41 #[.agg #[.slice A n c,.bool false]] w (CRet w B (chgP (some l)).1 (chgP (some l)).2):=by
 obtain ⟨R,hR⟩ : ∃ x,Hid (x=chgP (some l)):=⟨_,Lh rfl⟩
 rw [<- hR.out];have HSp:Hid (∀ X A n c,Below w.heap.size w X->WdR X B l A n c->Calls prog 69 #[.agg #[.slice A n c,.bool false]] X (SplE X B (qbN (some l)).1 (qbN (some l)).2)):=Lh fun X A n c hb hW'=>(usplice_ l A n c X B hW' (Lj hB hb.size) hl (hs.below hb (Ld _)) (hu.below hb) (hy.below hb (Ld _))).mono fun _ _ h=>h.spl
 have hX:=CS.start 0 hW hB;clear hW hl hs hu hy
 go_enter func41,ntmps41
 go_upto_block 0 with fail
 refine qa (CS w B (some l) ⟨0,0,0,0,0,[]⟩ none 0) hX ?_;clear hX;intro X hX;obtain ⟨s1,hs1⟩ : ∃ b,Hid (b=qX (some l) jS):=⟨_,Lh rfl⟩
 obtain ⟨A',n',c',bad',c0,c1,HN0⟩:=CS.nx_ hX hB jS;have HN:=Lh HN0;clear HN0;rw [<- hs1.out] at HN
 go_upto_if 5 with (go_at_call 40;refine HN.out.mono ?_;rintro e w1 ⟨rfl,hY⟩)
 refine qa (CS w B (some l) ⟨0,0,0,0,0,[]⟩ none 0) hY ?_;clear hY hX HN c0 c1;intro X hX
 cases s1 with
 | true =>
  have HR2:Hid (R=sizP (some l)):=Lh (by rw [hR.out,chgP,<- hs1.out];rfl);clear hR hs1 HSp;obtain ⟨x,hx⟩ : ∃ x,Hid (x=qN ((some l).bind (skO jS))):=⟨_,Lh rfl⟩
  obtain ⟨y,hy⟩ : ∃ y,Hid (y=qN (x.2.bind (skO kv))):=⟨_,Lh rfl⟩
  have HR3:Hid (R.1=⟨1,x.1,y.1,0,0,[]⟩/\R.2=y.2.bind (skO jl)):=Lh (by rw [HR2.out,hy.out,hx.out];exact ⟨rfl,rfl⟩);clear HR2;obtain ⟨A',n',c',l',bad',hr',hW,R1,R2,R3,R4,tx,hO⟩:=id hX;obtain ⟨c0,c1,f0,f1⟩:=vN R1;obtain ⟨k0,k1,k2,k3,k4,k5,p0,p1,p2,p3,p4,p5⟩:=qV R4;dsimp only at k0 k1 k2 k3 k4 k5
  go_upto_region 4 with fail
  refine qa (CS w B (some l) ⟨1,0,0,0,0,[]⟩ none 0) (hX.set_ hB 0 1 L2) ?_;clear hX;clear c0 c1 f0 f1 k0 k1 k2 k3 k4 k5 p0 p1 p2 p3 p4 p5 hr' hW R1 R2 R3 R4 tx hO;intro X hX;obtain ⟨A',n',c',bad',c0,c1,HA0⟩:=CS.af_ hX hB jS 1 L2 hx;have HA:=Lh HA0;clear HA0
  go_upto_region 5 with (go_at_call 67;refine HA.out.mono ?_;rintro e w1 ⟨A1,n1,cc1,qmK,v1,rfl,d0,d1,f0,f1,k0,p0,hY⟩)
  refine qa (CS w B x.2 ⟨1,x.1,0,0,0,[]⟩ none 0) hY ?_;clear hY hX HA c0 c1 d0 d1 f0 f1 k0 p0;intro X hX;obtain ⟨A',n',c',bad',c0,c1,HA0⟩:=CS.af_ hX hB kv 2 L2 hy;have HA:=Lh HA0;clear HA0
  go_upto_region 6 with (go_at_call 67;refine HA.out.mono ?_;rintro e w1 ⟨A1,n1,cc1,qmK,v1,rfl,d0,d1,f0,f1,k0,p0,hY⟩)
  refine qa (CS w B y.2 ⟨1,x.1,y.1,0,0,[]⟩ none 0) hY ?_;clear hY hX HA c0 c1 d0 d1 f0 f1 k0 p0;intro X hX;obtain ⟨A',n',c',l',bad',hr',hW,R1,R2,R3,R4,tx,hO⟩:=id hX;obtain ⟨c0,c1,f0,f1⟩:=vN R1;obtain ⟨k0,k1,k2,k3,k4,k5,p0,p1,p2,p3,p4,p5⟩:=qV R4;dsimp only at k0 k1 k2 k3 k4 k5;obtain ⟨o0,o1,o2,o3,o4,o5,q0,q1,q2,q3,q4,q5⟩:=qV R2;obtain ⟨m0,m1,v0,v1⟩:=vN R3;dsimp only at o0 o1 o2 o3 o4 o5;have HK:=Lh (qev y.2 (.agg #[.slice A' n' c',.bool bad']) jl B X.drew ⟨A',n',c',l',bad',rfl,hW.below (Le _ _).drew,hr'⟩ (Lj hB tx.drew.size));have z0:=R1.lt;have z1:=R2.lt;have z2:=R3.lt;have z3:=R4.lt
  go_region_law (go_simp;go_at_call 68;refine HK.out.mono ?_;rintro e w1 ⟨A1,n1,cc1,l1,qmK,rfl,hW1,hr1,hb1⟩;have hY:=(hX.drew hB).below hB hb1;clear o0 o1 o2 o3 o4 o5 q0 q1 q2 q3 q4 q5 m0 m1 v0 v1;clear c0 c1 f0 f1 k0 k1 k2 k3 k4 k5 p0 p1 p2 p3 p4 p5 hr' hW R1 R2 R3 R4 tx hO;(obtain ⟨A',n',c',l',bad',hr',hW,R1,R2,R3,R4,tx,hO⟩:=id hY;obtain ⟨c0,c1,f0,f1⟩:=vN R1;obtain ⟨k0,k1,k2,k3,k4,k5,p0,p1,p2,p3,p4,p5⟩:=qV R4;dsimp only at k0 k1 k2 k3 k4 k5);(obtain ⟨o0,o1,o2,o3,o4,o5,q0,q1,q2,q3,q4,q5⟩:=qV R2;obtain ⟨m0,m1,v0,v1⟩:=vN R3;dsimp only at o0 o1 o2 o3 o4 o5))
  all_goals go_wp2
  all_goals have HF:=Lh (fin_ (c:=⟨1,x.1,y.1,0,0,[]⟩) hB hr1 hW1 R2 R3 tx hO)
  all_goals rw [HR3.out.1,HR3.out.2]
  all_goals exact bodyPost_ret (jg rfl _ _ (w.heap.size+1) (w.heap.size+2) 71 84 _ _ (0,0) (0,0) _ _ rfl HF.out.1 underlying71 rfl yo rfl HF.out.2.1 underlying84 rfl zG) rfl ⟨_,_,_,rfl,HF.out.2.2.1,HF.out.2.2.2.1,HF.out.2.2.2.2⟩
 | false =>
  have hR2:Hid (R=if qX (some l) q8=true then scrP (some l) else if qX (some l) qI=true then qbN (some l) else if qX (some l) q7=true then curP (some l) else (⟨0,0,0,0,0,[]⟩,none)):=Lh (by rw [hR.out,chgP,<- hs1.out];rfl);clear hR hs1;obtain ⟨s2,hs2⟩ : ∃ b,Hid (b=qX (some l) q8):=⟨_,Lh rfl⟩
  obtain ⟨A',n',c',bad',c0,c1,HN0⟩:=CS.nx_ hX hB q8;have HN:=Lh HN0;clear HN0;rw [<- hs2.out] at HN
  go_upto_if 27 with (go_at_call 40;refine HN.out.mono ?_;rintro e w1 ⟨rfl,hY⟩)
  refine qa (CS w B (some l) ⟨0,0,0,0,0,[]⟩ none 0) hY ?_;clear hY hX HN c0 c1;intro X hX
  cases s2 with
  | true =>
   have HR2:Hid (R=scrP (some l)):=Lh (by rw [hR2.out,<- hs2.out];rfl);clear hR2 hs2 HSp;obtain ⟨x,hx⟩ : ∃ x,Hid (x=qN (((some l).bind (skO q8)).bind (skO qI))):=⟨_,Lh rfl⟩
   obtain ⟨y,hy⟩ : ∃ y,Hid (y=qN (x.2.bind (skO bTo))):=⟨_,Lh rfl⟩
   have HR3:Hid (R=if qX y.2 jj=true then (⟨2,x.1-1,0,-(qN (y.2.bind (skO jj))).1,y.1,[]⟩,qc2 (qN (y.2.bind (skO jj)))) else (⟨2,x.1-1,0,(qN (y.2.bind (skO bUp))).1,y.1,[]⟩,qc2 (qN (y.2.bind (skO bUp))))):=Lh (by rw [HR2.out,hy.out,hx.out];rfl);clear HR2;have hxr : -999999999<=x.1/\x.1<=999999999:=by rw [hx.out];exact kd _
   have e1:IntKind.i64.wrap (x.1-1)=x.1-1:=by rw [Lx];omega
   obtain ⟨A',n',c',l',bad',hr',hW,R1,R2,R3,R4,tx,hO⟩:=id hX;obtain ⟨c0,c1,f0,f1⟩:=vN R1;obtain ⟨k0,k1,k2,k3,k4,k5,p0,p1,p2,p3,p4,p5⟩:=qV R4;dsimp only at k0 k1 k2 k3 k4 k5
   go_upto_region 9 with fail
   refine qa (CS w B (some l) ⟨2,0,0,0,0,[]⟩ none 0) (hX.set_ hB 0 2 L2) ?_;clear hX;clear c0 c1 f0 f1 k0 k1 k2 k3 k4 k5 p0 p1 p2 p3 p4 p5 hr' hW R1 R2 R3 R4 tx hO;intro X hX;obtain ⟨A',n',c',bad',c0,c1,HA0⟩:=CS.af2_ hX hB q8 qI 1 L2 hx;have HA:=Lh HA0;clear HA0
   go_upto_region 10 with (go_at_call 67;refine HA.out.mono ?_;rintro e w1 ⟨A1,n1,cc1,qmK,v1,rfl,d0,d1,f0,f1,k0,p0,hY⟩)
   refine qa (CS w B x.2 ⟨2,x.1,0,0,0,[]⟩ none 0) hY ?_;clear hY hX HA c0 c1 d0 d1 f0 f1 k0 p0;intro X hX;obtain ⟨A',n',c',bad',c0,c1,HA0⟩:=CS.af_ hX hB bTo 4 L2 hy;have HA:=Lh HA0;clear HA0
   go_upto_region 11 with (go_at_call 67;refine HA.out.mono ?_;rintro e w1 ⟨A1,n1,cc1,qmK,v1,rfl,d0,d1,f0,f1,k0,p0,hY⟩)
   refine qa (CS w B y.2 ⟨2,x.1,0,0,y.1,[]⟩ none 0) hY ?_;clear hY hX HA c0 c1 d0 d1 f0 f1 k0 p0;intro X hX;obtain ⟨A',n',c',l',bad',hr',hW,R1,R2,R3,R4,tx,hO⟩:=id hX;obtain ⟨c0,c1,f0,f1⟩:=vN R1;obtain ⟨k0,k1,k2,k3,k4,k5,p0,p1,p2,p3,p4,p5⟩:=qV R4;dsimp only at k0 k1 k2 k3 k4 k5
   go_upto_region 12 with fail
   refine qa (CS w B y.2 ⟨2,x.1-1,0,0,y.1,[]⟩ none 0) (hX.set_ hB 1 (x.1-1) L2) ?_;clear hX;clear c0 c1 f0 f1 k0 k1 k2 k3 k4 k5 p0 p1 p2 p3 p4 p5 hr' hW R1 R2 R3 R4 tx hO;intro X hX;clear hx hy hxr;obtain ⟨xn,xr⟩:=x;obtain ⟨yn,yr⟩:=y;simp only at e1 hX HR3;generalize xn-1=Row at *
   obtain ⟨s3,hs3⟩ : ∃ b,Hid (b=qX yr jj):=⟨_,Lh rfl⟩
   obtain ⟨A',n',c',bad',c0,c1,HN0⟩:=CS.nx_ hX hB jj;have HN:=Lh HN0;clear HN0;rw [<- hs3.out] at HN
   go_upto_if 50 with (go_at_call 40;refine HN.out.mono ?_;rintro e w1 ⟨rfl,hY⟩)
   refine qa (CS w B yr ⟨2,Row,0,0,yn,[]⟩ none 0) hY ?_;clear hY hX HN c0 c1;intro X hX
   cases s3 with
   | true =>
    obtain ⟨u,hu⟩ : ∃ u,Hid (u=qN (yr.bind (skO jj))):=⟨_,Lh rfl⟩
    have HR4:Hid (R=(⟨2,Row,0,-u.1,yn,[]⟩,qc2 u)):=Lh (by rw [HR3.out,<- hs3.out,hu.out];rfl);have hur : -999999999<=u.1/\u.1<=999999999:=by rw [hu.out];exact kd _
    have e2:IntKind.i64.wrap (-u.1) = -u.1:=by rw [Lx];omega
    clear HR3 hs3;obtain ⟨A',n',c',bad',c0,c1,HA0⟩:=CS.af_ hX hB jj 3 L2 hu;have HA:=Lh HA0;clear HA0
    go_upto_region 14 with (go_at_call 67;refine HA.out.mono ?_;rintro e w1 ⟨A1,n1,cc1,qmK,v1,rfl,d0,d1,f0,f1,k0,p0,hY⟩)
    refine qa (CS w B u.2 ⟨2,Row,0,u.1,yn,[]⟩ none 0) hY ?_;clear hY hX HA c0 c1 d0 d1 f0 f1 k0 p0;intro X hX;clear hu hur;obtain ⟨un,ur⟩:=u;simp only at e2 hX HR4
    by_cases hlt:un<0
    ·have HR3:Hid (R.1=⟨2,Row,0,-un,yn,[]⟩/\R.2=none):=Lh (by rw [HR4.out,qc2,if_pos hlt];exact ⟨rfl,rfl⟩);clear HR4;obtain ⟨A',n',c',l',bad',hr',hW,R1,R2,R3,R4,tx,hO⟩:=id hX;obtain ⟨c0,c1,f0,f1⟩:=vN R1;obtain ⟨k0,k1,k2,k3,k4,k5,p0,p1,p2,p3,p4,p5⟩:=qV R4;dsimp only at k0 k1 k2 k3 k4 k5
     go_upto_region 16 with fail
     refine qa (CS w B none ⟨2,Row,0,un,yn,[]⟩ none 0) (hX.spoil hB) ?_;clear hX;clear c0 c1 f0 f1 k0 k1 k2 k3 k4 k5 p0 p1 p2 p3 p4 p5 hr' hW R1 R2 R3 R4 tx hO;intro X hX;obtain ⟨A',n',c',l',bad',hr',hW,R1,R2,R3,R4,tx,hO⟩:=id hX;obtain ⟨c0,c1,f0,f1⟩:=vN R1;obtain ⟨k0,k1,k2,k3,k4,k5,p0,p1,p2,p3,p4,p5⟩:=qV R4;dsimp only at k0 k1 k2 k3 k4 k5
     go_upto_region 17 with fail
     refine qa (CS w B none ⟨2,Row,0,-un,yn,[]⟩ none 0) (hX.set_ hB 3 (-un) L2) ?_;clear hX;clear c0 c1 f0 f1 k0 k1 k2 k3 k4 k5 p0 p1 p2 p3 p4 p5 hr' hW R1 R2 R3 R4 tx hO;intro X hX;obtain ⟨A',n',c',l',bad',hr',hW,R1,R2,R3,R4,tx,hO⟩:=id hX;obtain ⟨c0,c1,f0,f1⟩:=vN R1;obtain ⟨k0,k1,k2,k3,k4,k5,p0,p1,p2,p3,p4,p5⟩:=qV R4;dsimp only at k0 k1 k2 k3 k4 k5;obtain ⟨o0,o1,o2,o3,o4,o5,q0,q1,q2,q3,q4,q5⟩:=qV R2;obtain ⟨m0,m1,v0,v1⟩:=vN R3;dsimp only at o0 o1 o2 o3 o4 o5;have HF:=Lh (qaV (c:=⟨2,Row,0,-un,yn,[]⟩) hB hr' hW R2 R3 tx hO)
     go_region_law (fail)
     all_goals go_wp2
     all_goals rw [HR3.out.1,HR3.out.2]
     all_goals exact bodyPost_ret (jg rfl _ _ (w.heap.size+1) (w.heap.size+2) 71 84 _ _ (0,0) (0,0) _ _ rfl HF.out.1 underlying71 rfl yo rfl HF.out.2.1 underlying84 rfl zG) rfl ⟨_,_,_,rfl,HF.out.2.2.1,HF.out.2.2.2.1,HF.out.2.2.2.2⟩
    ·have HR3:Hid (R.1=⟨2,Row,0,-un,yn,[]⟩/\R.2=ur):=Lh (by rw [HR4.out,qc2,if_neg L0];exact ⟨rfl,rfl⟩);clear HR4;obtain ⟨A',n',c',l',bad',hr',hW,R1,R2,R3,R4,tx,hO⟩:=id hX;obtain ⟨c0,c1,f0,f1⟩:=vN R1;obtain ⟨k0,k1,k2,k3,k4,k5,p0,p1,p2,p3,p4,p5⟩:=qV R4;dsimp only at k0 k1 k2 k3 k4 k5
     go_upto_region 16 with fail
     refine qa (CS w B ur ⟨2,Row,0,un,yn,[]⟩ none 0) (hX) ?_;clear hX;clear c0 c1 f0 f1 k0 k1 k2 k3 k4 k5 p0 p1 p2 p3 p4 p5 hr' hW R1 R2 R3 R4 tx hO;intro X hX;obtain ⟨A',n',c',l',bad',hr',hW,R1,R2,R3,R4,tx,hO⟩:=id hX;obtain ⟨c0,c1,f0,f1⟩:=vN R1;obtain ⟨k0,k1,k2,k3,k4,k5,p0,p1,p2,p3,p4,p5⟩:=qV R4;dsimp only at k0 k1 k2 k3 k4 k5
     go_upto_region 17 with fail
     refine qa (CS w B ur ⟨2,Row,0,-un,yn,[]⟩ none 0) (hX.set_ hB 3 (-un) L2) ?_;clear hX;clear c0 c1 f0 f1 k0 k1 k2 k3 k4 k5 p0 p1 p2 p3 p4 p5 hr' hW R1 R2 R3 R4 tx hO;intro X hX;obtain ⟨A',n',c',l',bad',hr',hW,R1,R2,R3,R4,tx,hO⟩:=id hX;obtain ⟨c0,c1,f0,f1⟩:=vN R1;obtain ⟨k0,k1,k2,k3,k4,k5,p0,p1,p2,p3,p4,p5⟩:=qV R4;dsimp only at k0 k1 k2 k3 k4 k5;obtain ⟨o0,o1,o2,o3,o4,o5,q0,q1,q2,q3,q4,q5⟩:=qV R2;obtain ⟨m0,m1,v0,v1⟩:=vN R3;dsimp only at o0 o1 o2 o3 o4 o5;have HF:=Lh (qaV (c:=⟨2,Row,0,-un,yn,[]⟩) hB hr' hW R2 R3 tx hO)
     go_region_law (fail)
     all_goals go_wp2
     all_goals rw [HR3.out.1,HR3.out.2]
     all_goals exact bodyPost_ret (jg rfl _ _ (w.heap.size+1) (w.heap.size+2) 71 84 _ _ (0,0) (0,0) _ _ rfl HF.out.1 underlying71 rfl yo rfl HF.out.2.1 underlying84 rfl zG) rfl ⟨_,_,_,rfl,HF.out.2.2.1,HF.out.2.2.2.1,HF.out.2.2.2.2⟩
   | false =>
    obtain ⟨u,hu⟩ : ∃ u,Hid (u=qN (yr.bind (skO bUp))):=⟨_,Lh rfl⟩
    have HR4:Hid (R=(⟨2,Row,0,u.1,yn,[]⟩,qc2 u)):=Lh (by rw [HR3.out,<- hs3.out,hu.out];rfl);clear HR3 hs3
    go_upto_region 18 with fail
    obtain ⟨A',n',c',bad',c0,c1,HA0⟩:=CS.af_ hX hB bUp 3 L2 hu;have HA:=Lh HA0;clear HA0
    go_upto_region 19 with (go_at_call 67;refine HA.out.mono ?_;rintro e w1 ⟨A1,n1,cc1,qmK,v1,rfl,d0,d1,f0,f1,k0,p0,hY⟩)
    refine qa (CS w B u.2 ⟨2,Row,0,u.1,yn,[]⟩ none 0) hY ?_;clear hY hX HA c0 c1 d0 d1 f0 f1 k0 p0;intro X hX;clear hu;obtain ⟨un,ur⟩:=u;simp only at hX HR4
    by_cases hlt:un<0
    ·have HR3:Hid (R.1=⟨2,Row,0,un,yn,[]⟩/\R.2=none):=Lh (by rw [HR4.out,qc2,if_pos hlt];exact ⟨rfl,rfl⟩);clear HR4;obtain ⟨A',n',c',l',bad',hr',hW,R1,R2,R3,R4,tx,hO⟩:=id hX;obtain ⟨c0,c1,f0,f1⟩:=vN R1;obtain ⟨k0,k1,k2,k3,k4,k5,p0,p1,p2,p3,p4,p5⟩:=qV R4;dsimp only at k0 k1 k2 k3 k4 k5
     go_upto_region 21 with fail
     refine qa (CS w B none ⟨2,Row,0,un,yn,[]⟩ none 0) (hX.spoil hB) ?_;clear hX;clear c0 c1 f0 f1 k0 k1 k2 k3 k4 k5 p0 p1 p2 p3 p4 p5 hr' hW R1 R2 R3 R4 tx hO;intro X hX;obtain ⟨A',n',c',l',bad',hr',hW,R1,R2,R3,R4,tx,hO⟩:=id hX;obtain ⟨c0,c1,f0,f1⟩:=vN R1;obtain ⟨k0,k1,k2,k3,k4,k5,p0,p1,p2,p3,p4,p5⟩:=qV R4;dsimp only at k0 k1 k2 k3 k4 k5;obtain ⟨o0,o1,o2,o3,o4,o5,q0,q1,q2,q3,q4,q5⟩:=qV R2;obtain ⟨m0,m1,v0,v1⟩:=vN R3;dsimp only at o0 o1 o2 o3 o4 o5;have HF:=Lh (qaV (c:=⟨2,Row,0,un,yn,[]⟩) hB hr' hW R2 R3 tx hO)
     go_region_law (fail)
     all_goals go_wp2
     all_goals rw [HR3.out.1,HR3.out.2]
     all_goals exact bodyPost_ret (jg rfl _ _ (w.heap.size+1) (w.heap.size+2) 71 84 _ _ (0,0) (0,0) _ _ rfl HF.out.1 underlying71 rfl yo rfl HF.out.2.1 underlying84 rfl zG) rfl ⟨_,_,_,rfl,HF.out.2.2.1,HF.out.2.2.2.1,HF.out.2.2.2.2⟩
    ·have HR3:Hid (R.1=⟨2,Row,0,un,yn,[]⟩/\R.2=ur):=Lh (by rw [HR4.out,qc2,if_neg L0];exact ⟨rfl,rfl⟩);clear HR4;obtain ⟨A',n',c',l',bad',hr',hW,R1,R2,R3,R4,tx,hO⟩:=id hX;obtain ⟨c0,c1,f0,f1⟩:=vN R1;obtain ⟨k0,k1,k2,k3,k4,k5,p0,p1,p2,p3,p4,p5⟩:=qV R4;dsimp only at k0 k1 k2 k3 k4 k5
     go_upto_region 21 with fail
     refine qa (CS w B ur ⟨2,Row,0,un,yn,[]⟩ none 0) (hX) ?_;clear hX;clear c0 c1 f0 f1 k0 k1 k2 k3 k4 k5 p0 p1 p2 p3 p4 p5 hr' hW R1 R2 R3 R4 tx hO;intro X hX;obtain ⟨A',n',c',l',bad',hr',hW,R1,R2,R3,R4,tx,hO⟩:=id hX;obtain ⟨c0,c1,f0,f1⟩:=vN R1;obtain ⟨k0,k1,k2,k3,k4,k5,p0,p1,p2,p3,p4,p5⟩:=qV R4;dsimp only at k0 k1 k2 k3 k4 k5;obtain ⟨o0,o1,o2,o3,o4,o5,q0,q1,q2,q3,q4,q5⟩:=qV R2;obtain ⟨m0,m1,v0,v1⟩:=vN R3;dsimp only at o0 o1 o2 o3 o4 o5;have HF:=Lh (qaV (c:=⟨2,Row,0,un,yn,[]⟩) hB hr' hW R2 R3 tx hO)
     go_region_law (fail)
     all_goals go_wp2
     all_goals rw [HR3.out.1,HR3.out.2]
     all_goals exact bodyPost_ret (jg rfl _ _ (w.heap.size+1) (w.heap.size+2) 71 84 _ _ (0,0) (0,0) _ _ rfl HF.out.1 underlying71 rfl yo rfl HF.out.2.1 underlying84 rfl zG) rfl ⟨_,_,_,rfl,HF.out.2.2.1,HF.out.2.2.2.1,HF.out.2.2.2.2⟩
  | false =>
   have hR:Hid (R=if qX (some l) qI=true then qbN (some l) else if qX (some l) q7=true then curP (some l) else (⟨0,0,0,0,0,[]⟩,none)):=Lh (by rw [hR2.out,<- hs2.out];rfl);clear hR2 hs2;obtain ⟨s3,hs3⟩ : ∃ b,Hid (b=qX (some l) qI):=⟨_,Lh rfl⟩
   obtain ⟨A',n',c',bad',c0,c1,HN0⟩:=CS.nx_ hX hB qI;have HN:=Lh HN0;clear HN0;rw [<- hs3.out] at HN
   go_upto_if 81 with (go_at_call 40;refine HN.out.mono ?_;rintro e w1 ⟨rfl,hY⟩)
   refine qa (CS w B (some l) ⟨0,0,0,0,0,[]⟩ none 0) hY ?_;clear hY hX HN c0 c1;intro X hX
   cases s3 with
   | true =>
    have HR2:Hid (R=qbN (some l)):=Lh (by rw [hR.out,<- hs3.out];rfl);clear hR hs3;have HR3:Hid (R.1=(qbN (some l)).1/\R.2=(qbN (some l)).2):=Lh (by rw [HR2.out];exact ⟨rfl,rfl⟩);clear HR2;generalize qbN (some l)=SP at *
    obtain ⟨A',n',c',l',bad',hr',hW,R1,R2,R3,R4,tx,hO⟩:=id hX;obtain ⟨c0,c1,f0,f1⟩:=vN R1;obtain ⟨k0,k1,k2,k3,k4,k5,p0,p1,p2,p3,p4,p5⟩:=qV R4;dsimp only at k0 k1 k2 k3 k4 k5;obtain ⟨o0,o1,o2,o3,o4,o5,q0,q1,q2,q3,q4,q5⟩:=qV R2;obtain ⟨m0,m1,v0,v1⟩:=vN R3;dsimp only at o0 o1 o2 o3 o4 o5
    cases bad' with
    | true=>cases hr'
    | false =>
     obtain rfl:l=l':=by cases hr';rfl
     have hxs:=hX.size
     go_wp2_with (go_at_call 69;refine (HSp.out X A' n' c' tx hW).mono ?_;rintro e w1 ⟨Ag,cap,A1,n1,cc1,l1,qmK,rfl,hr1,hW1,hb1,ho1⟩;have hY:=hX.below hB hb1;clear o0 o1 o2 o3 o4 o5 q0 q1 q2 q3 q4 q5 m0 m1 v0 v1;clear c0 c1 f0 f1 k0 k1 k2 k3 k4 k5 p0 p1 p2 p3 p4 p5 hr' hW R1 R2 R3 R4 tx hO;(obtain ⟨A',n',c',l',bad',hr',hW,R1,R2,R3,R4,tx,hO⟩:=id hY;obtain ⟨c0,c1,f0,f1⟩:=vN R1;obtain ⟨k0,k1,k2,k3,k4,k5,p0,p1,p2,p3,p4,p5⟩:=qV R4;dsimp only at k0 k1 k2 k3 k4 k5);(obtain ⟨o0,o1,o2,o3,o4,o5,q0,q1,q2,q3,q4,q5⟩:=qV R2;obtain ⟨m0,m1,v0,v1⟩:=vN R3;dsimp only at o0 o1 o2 o3 o4 o5))
     have HF:=Lh (fin_ (c:=SP.1) hB hr1 hW1 R2 R3 tx (qt ho1 L0))
     all_goals rw [HR3.out.1,HR3.out.2]
     all_goals exact bodyPost_ret (jg rfl _ _ (w.heap.size+1) (w.heap.size+2) 71 84 _ _ (0,0) (0,0) _ _ rfl HF.out.1 underlying71 rfl yo rfl HF.out.2.1 underlying84 rfl zG) rfl ⟨_,_,_,rfl,HF.out.2.2.1,HF.out.2.2.2.1,HF.out.2.2.2.2⟩
   | false =>
    have hR2:Hid (R=if qX (some l) q7=true then curP (some l) else (⟨0,0,0,0,0,[]⟩,none)):=Lh (by rw [hR.out,<- hs3.out];rfl);clear hR hs3 HSp;obtain ⟨s4,hs4⟩ : ∃ b,Hid (b=qX (some l) q7):=⟨_,Lh rfl⟩
    obtain ⟨A',n',c',bad',c0,c1,HN0⟩:=CS.nx_ hX hB q7;have HN:=Lh HN0;clear HN0;rw [<- hs4.out] at HN
    go_upto_if 88 with (go_at_call 40;refine HN.out.mono ?_;rintro e w1 ⟨rfl,hY⟩)
    refine qa (CS w B (some l) ⟨0,0,0,0,0,[]⟩ none 0) hY ?_;clear hY hX HN c0 c1;intro X hX
    cases s4 with
    | true =>
     have HR2:Hid (R=curP (some l)):=Lh (by rw [hR2.out,<- hs4.out];rfl);clear hR2 hs4;obtain ⟨x,hx⟩ : ∃ x,Hid (x=qN (((some l).bind (skO q7)).bind (skO qI))):=⟨_,Lh rfl⟩
     obtain ⟨y,hy⟩ : ∃ y,Hid (y=qN (x.2.bind (skO qO))):=⟨_,Lh rfl⟩
     have HR3:Hid (R=if qX y.2 ze=true then (⟨4,x.1-1,y.1-1,1,0,[]⟩,y.2.bind (skO ze)) else (⟨4,x.1-1,y.1-1,0,0,[]⟩,y.2.bind (skO zK))):=Lh (by rw [HR2.out,hy.out,hx.out];rfl);clear HR2;have hxr : -999999999<=x.1/\x.1<=999999999:=by rw [hx.out];exact kd _
     have hyr : -999999999<=y.1/\y.1<=999999999:=by rw [hy.out];exact kd _
     have e1:IntKind.i64.wrap (x.1-1)=x.1-1:=by rw [Lx];omega
     have e2:IntKind.i64.wrap (y.1-1)=y.1-1:=by rw [Lx];omega
     obtain ⟨A',n',c',l',bad',hr',hW,R1,R2,R3,R4,tx,hO⟩:=id hX;obtain ⟨c0,c1,f0,f1⟩:=vN R1;obtain ⟨k0,k1,k2,k3,k4,k5,p0,p1,p2,p3,p4,p5⟩:=qV R4;dsimp only at k0 k1 k2 k3 k4 k5
     go_upto_region 26 with fail
     refine qa (CS w B (some l) ⟨4,0,0,0,0,[]⟩ none 0) (hX.set_ hB 0 4 L2) ?_;clear hX;clear c0 c1 f0 f1 k0 k1 k2 k3 k4 k5 p0 p1 p2 p3 p4 p5 hr' hW R1 R2 R3 R4 tx hO;intro X hX;obtain ⟨A',n',c',bad',c0,c1,HA0⟩:=CS.af2_ hX hB q7 qI 1 L2 hx;have HA:=Lh HA0;clear HA0
     go_upto_region 27 with (go_at_call 67;refine HA.out.mono ?_;rintro e w1 ⟨A1,n1,cc1,qmK,v1,rfl,d0,d1,f0,f1,k0,p0,hY⟩)
     refine qa (CS w B x.2 ⟨4,x.1,0,0,0,[]⟩ none 0) hY ?_;clear hY hX HA c0 c1 d0 d1 f0 f1 k0 p0;intro X hX;obtain ⟨A',n',c',bad',c0,c1,HA0⟩:=CS.af_ hX hB qO 2 L2 hy;have HA:=Lh HA0;clear HA0
     go_upto_region 28 with (go_at_call 67;refine HA.out.mono ?_;rintro e w1 ⟨A1,n1,cc1,qmK,v1,rfl,d0,d1,f0,f1,k0,p0,hY⟩)
     refine qa (CS w B y.2 ⟨4,x.1,y.1,0,0,[]⟩ none 0) hY ?_;clear hY hX HA c0 c1 d0 d1 f0 f1 k0 p0;intro X hX;obtain ⟨A',n',c',l',bad',hr',hW,R1,R2,R3,R4,tx,hO⟩:=id hX;obtain ⟨c0,c1,f0,f1⟩:=vN R1;obtain ⟨k0,k1,k2,k3,k4,k5,p0,p1,p2,p3,p4,p5⟩:=qV R4;dsimp only at k0 k1 k2 k3 k4 k5
     go_upto_region 29 with fail
     refine qa (CS w B y.2 ⟨4,x.1-1,y.1-1,0,0,[]⟩ none 0) (((hX.set_ hB 1 (x.1-1) L2).set_ hB 2 (y.1-1) L2)) ?_;clear hX;clear c0 c1 f0 f1 k0 k1 k2 k3 k4 k5 p0 p1 p2 p3 p4 p5 hr' hW R1 R2 R3 R4 tx hO;intro X hX;clear hx hy hxr hyr;obtain ⟨xn,xr⟩:=x;obtain ⟨yn,yr⟩:=y;simp only at e1 e2 hX HR3;generalize xn-1=Row at *
     generalize yn-1=Col at *
     obtain ⟨s5,hs5⟩ : ∃ b,Hid (b=qX yr ze):=⟨_,Lh rfl⟩
     have HR2:=HR3;clear HR3;obtain ⟨A',n',c',bad',c0,c1,HN0⟩:=CS.nx_ hX hB ze;have HN:=Lh HN0;clear HN0;rw [<- hs5.out] at HN
     go_upto_if 115 with (go_at_call 40;refine HN.out.mono ?_;rintro e w1 ⟨rfl,hY⟩)
     refine qa (CS w B yr ⟨4,Row,Col,0,0,[]⟩ none 0) hY ?_;clear hY hX HN c0 c1;intro X hX
     cases s5 with
     | true =>
      have HR3:Hid (R.1=⟨4,Row,Col,1,0,[]⟩/\R.2=yr.bind (skO ze)):=Lh (by rw [HR2.out,<- hs5.out];exact ⟨rfl,rfl⟩);clear HR2 hs5;obtain ⟨A',n',c',l',bad',hr',hW,R1,R2,R3,R4,tx,hO⟩:=id hX;obtain ⟨c0,c1,f0,f1⟩:=vN R1;obtain ⟨k0,k1,k2,k3,k4,k5,p0,p1,p2,p3,p4,p5⟩:=qV R4;dsimp only at k0 k1 k2 k3 k4 k5
      go_upto_region 31 with fail
      refine qa (CS w B yr ⟨4,Row,Col,1,0,[]⟩ none 0) (hX.set_ hB 3 1 L2) ?_;clear hX;clear c0 c1 f0 f1 k0 k1 k2 k3 k4 k5 p0 p1 p2 p3 p4 p5 hr' hW R1 R2 R3 R4 tx hO;intro X hX;obtain ⟨A',n',c',l',bad',hr',hW,R1,R2,R3,R4,tx,hO⟩:=id hX;obtain ⟨c0,c1,f0,f1⟩:=vN R1;obtain ⟨k0,k1,k2,k3,k4,k5,p0,p1,p2,p3,p4,p5⟩:=qV R4;dsimp only at k0 k1 k2 k3 k4 k5;obtain ⟨o0,o1,o2,o3,o4,o5,q0,q1,q2,q3,q4,q5⟩:=qV R2;obtain ⟨m0,m1,v0,v1⟩:=vN R3;dsimp only at o0 o1 o2 o3 o4 o5;have HK:=Lh (qev yr (.agg #[.slice A' n' c',.bool bad']) ze B X.drew ⟨A',n',c',l',bad',rfl,hW.below (Le _ _).drew,hr'⟩ (Lj hB tx.drew.size));have z0:=R1.lt;have z1:=R2.lt;have z2:=R3.lt;have z3:=R4.lt
      go_region_law (go_simp;go_at_call 68;refine HK.out.mono ?_;rintro e w1 ⟨A1,n1,cc1,l1,qmK,rfl,hW1,hr1,hb1⟩;have hY:=(hX.drew hB).below hB hb1;clear o0 o1 o2 o3 o4 o5 q0 q1 q2 q3 q4 q5 m0 m1 v0 v1;clear c0 c1 f0 f1 k0 k1 k2 k3 k4 k5 p0 p1 p2 p3 p4 p5 hr' hW R1 R2 R3 R4 tx hO;(obtain ⟨A',n',c',l',bad',hr',hW,R1,R2,R3,R4,tx,hO⟩:=id hY;obtain ⟨c0,c1,f0,f1⟩:=vN R1;obtain ⟨k0,k1,k2,k3,k4,k5,p0,p1,p2,p3,p4,p5⟩:=qV R4;dsimp only at k0 k1 k2 k3 k4 k5);(obtain ⟨o0,o1,o2,o3,o4,o5,q0,q1,q2,q3,q4,q5⟩:=qV R2;obtain ⟨m0,m1,v0,v1⟩:=vN R3;dsimp only at o0 o1 o2 o3 o4 o5))
      all_goals go_wp2
      all_goals have HF:=Lh (fin_ (c:=⟨4,Row,Col,1,0,[]⟩) hB hr1 hW1 R2 R3 tx hO)
      all_goals rw [HR3.out.1,HR3.out.2]
      all_goals exact bodyPost_ret (jg rfl _ _ (w.heap.size+1) (w.heap.size+2) 71 84 _ _ (0,0) (0,0) _ _ rfl HF.out.1 underlying71 rfl yo rfl HF.out.2.1 underlying84 rfl zG) rfl ⟨_,_,_,rfl,HF.out.2.2.1,HF.out.2.2.2.1,HF.out.2.2.2.2⟩
     | false =>
      have HR3:Hid (R.1=⟨4,Row,Col,0,0,[]⟩/\R.2=yr.bind (skO zK)):=Lh (by rw [HR2.out,<- hs5.out];exact ⟨rfl,rfl⟩);clear HR2 hs5
      go_upto_region 32 with fail
      obtain ⟨A',n',c',l',bad',hr',hW,R1,R2,R3,R4,tx,hO⟩:=id hX;obtain ⟨c0,c1,f0,f1⟩:=vN R1;obtain ⟨k0,k1,k2,k3,k4,k5,p0,p1,p2,p3,p4,p5⟩:=qV R4;dsimp only at k0 k1 k2 k3 k4 k5;obtain ⟨o0,o1,o2,o3,o4,o5,q0,q1,q2,q3,q4,q5⟩:=qV R2;obtain ⟨m0,m1,v0,v1⟩:=vN R3;dsimp only at o0 o1 o2 o3 o4 o5;have HK:=Lh (qev yr (.agg #[.slice A' n' c',.bool bad']) zK B X.drew ⟨A',n',c',l',bad',rfl,hW.below (Le _ _).drew,hr'⟩ (Lj hB tx.drew.size));have z0:=R1.lt;have z1:=R2.lt;have z2:=R3.lt;have z3:=R4.lt
      go_region_law (go_simp;go_at_call 68;refine HK.out.mono ?_;rintro e w1 ⟨A1,n1,cc1,l1,qmK,rfl,hW1,hr1,hb1⟩;have hY:=(hX.drew hB).below hB hb1;clear o0 o1 o2 o3 o4 o5 q0 q1 q2 q3 q4 q5 m0 m1 v0 v1;clear c0 c1 f0 f1 k0 k1 k2 k3 k4 k5 p0 p1 p2 p3 p4 p5 hr' hW R1 R2 R3 R4 tx hO;(obtain ⟨A',n',c',l',bad',hr',hW,R1,R2,R3,R4,tx,hO⟩:=id hY;obtain ⟨c0,c1,f0,f1⟩:=vN R1;obtain ⟨k0,k1,k2,k3,k4,k5,p0,p1,p2,p3,p4,p5⟩:=qV R4;dsimp only at k0 k1 k2 k3 k4 k5);(obtain ⟨o0,o1,o2,o3,o4,o5,q0,q1,q2,q3,q4,q5⟩:=qV R2;obtain ⟨m0,m1,v0,v1⟩:=vN R3;dsimp only at o0 o1 o2 o3 o4 o5))
      all_goals go_wp2
      all_goals have HF:=Lh (fin_ (c:=⟨4,Row,Col,0,0,[]⟩) hB hr1 hW1 R2 R3 tx hO)
      all_goals rw [HR3.out.1,HR3.out.2]
      all_goals exact bodyPost_ret (jg rfl _ _ (w.heap.size+1) (w.heap.size+2) 71 84 _ _ (0,0) (0,0) _ _ rfl HF.out.1 underlying71 rfl yo rfl HF.out.2.1 underlying84 rfl zG) rfl ⟨_,_,_,rfl,HF.out.2.2.1,HF.out.2.2.2.1,HF.out.2.2.2.2⟩
    | false =>
     have HR3:Hid (R.1=⟨0,0,0,0,0,[]⟩/\R.2=none):=Lh (by rw [hR2.out,<- hs4.out];exact ⟨rfl,rfl⟩);clear hR2 hs4;obtain ⟨A',n',c',l',bad',hr',hW,R1,R2,R3,R4,tx,hO⟩:=id hX;obtain ⟨c0,c1,f0,f1⟩:=vN R1;obtain ⟨k0,k1,k2,k3,k4,k5,p0,p1,p2,p3,p4,p5⟩:=qV R4;dsimp only at k0 k1 k2 k3 k4 k5;obtain ⟨o0,o1,o2,o3,o4,o5,q0,q1,q2,q3,q4,q5⟩:=qV R2;obtain ⟨m0,m1,v0,v1⟩:=vN R3;dsimp only at o0 o1 o2 o3 o4 o5;go_wp2;have HF:=Lh (fin_ (c:=⟨0,0,0,0,0,[]⟩) (r:=none) (bad:=true) (l:=[]) hB rfl (WdR.nil X B) R2 R3 tx hO)
     all_goals rw [HR3.out.1,HR3.out.2]
     all_goals exact bodyPost_ret (jg rfl _ _ (w.heap.size+1) (w.heap.size+2) 71 84 _ _ (0,0) (0,0) _ _ rfl HF.out.1 underlying71 rfl yo rfl HF.out.2.1 underlying84 rfl zG) rfl ⟨_,_,_,rfl,HF.out.2.2.1,HF.out.2.2.2.1,HF.out.2.2.2.2⟩
theorem kl (l s):qN ((some l).bind (skO s))=match afO s l with
  | some x=>(x.1,some x.2)
  | none=>(0,none):=by
 unfold qN afO;simp only [Option.bind_some]
 cases (skO s l).bind kU <;> rfl
theorem qfO (l s t):qN (((some l).bind (skO s)).bind (skO t))=match (skO s l).bind (afO t) with
  | some x=>(x.1,some x.2)
  | none=>(0,none):=by
 show qN ((skO s l).bind (skO t))=_
 cases skO s l with
 | none=>rfl
 | some l'=>exact kl l' t
theorem sizP_eq (l:List ByteArray):((afO jS l).bind fun x=>(afO kv x.2).bind fun y=>(skO jl y.2).map fun t=>((⟨1,x.1,y.1,0,0,[]⟩:Chg),t))=(sizP (some l)).2.map fun t=>((sizP (some l)).1,t):=by
 unfold sizP;rw [kl]
 cases afO jS l with
 | none=>rfl
 | some x =>
  simp only [Option.bind_some];rw [show skO kv x.2=(some x.2).bind (skO kv) from rfl,kl]
  cases afO kv x.2 with
  | none=>rfl
  | some y=>rfl
theorem scrP_eq (l:List ByteArray):(((skO q8 l).bind (afO qI)).bind fun x=>(afO bTo x.2).bind fun y =>
  if vT jj y.2=true then (afO jj y.2).bind fun z=>if z.1<0 then none else some ((⟨2,x.1-1,0,-z.1,y.1,[]⟩:Chg),z.2)
  else (afO bUp y.2).bind fun z=>if z.1<0 then none else some (⟨2,x.1-1,0,z.1,y.1,[]⟩,z.2))=(scrP (some l)).2.map fun t=>((scrP (some l)).1,t):=by
 unfold scrP;rw [qfO]
 cases (skO q8 l).bind (afO qI) with
 | none=>rfl
 | some x =>
  simp only [Option.bind_some];rw [show skO bTo x.2=(some x.2).bind (skO bTo) from rfl,kl]
  cases afO bTo x.2 with
  | none=>rfl
  | some y =>
   simp only [Option.bind_some]
   by_cases hd:vT jj y.2=true
   ·rw [if_pos hd,if_pos (show qX (some y.2) jj=true from hd),show skO jj y.2=(some y.2).bind (skO jj) from rfl,kl]
    cases afO jj y.2 with
    | none=>rfl
    | some z =>
     simp only [Option.bind_some,qc2]
     split <;> rfl
   ·rw [if_neg hd,if_neg (show ¬ qX (some y.2) jj=true from hd),show skO bUp y.2=(some y.2).bind (skO bUp) from rfl,kl]
    cases afO bUp y.2 with
    | none=>rfl
    | some z =>
     simp only [Option.bind_some,qc2]
     split <;> rfl
theorem curP_eq (l:List ByteArray):(((skO q7 l).bind (afO qI)).bind fun x=>(afO qO x.2).bind fun y =>
  if vT ze y.2=true then (skO ze y.2).map fun t=>((⟨4,x.1-1,y.1-1,1,0,[]⟩:Chg),t)
  else (skO zK y.2).map fun t=>(⟨4,x.1-1,y.1-1,0,0,[]⟩,t))=(curP (some l)).2.map fun t=>((curP (some l)).1,t):=by
 unfold curP;rw [qfO]
 cases (skO q7 l).bind (afO qI) with
 | none=>rfl
 | some x =>
  simp only [Option.bind_some];rw [show skO qO x.2=(some x.2).bind (skO qO) from rfl,kl]
  cases afO qO x.2 with
  | none=>rfl
  | some y =>
   simp only [Option.bind_some]
   by_cases hd:vT ze y.2=true
   ·rw [if_pos hd,if_pos (show qX (some y.2) ze=true from hd)]
   ·rw [if_neg hd,if_neg (show ¬ qX (some y.2) ze=true from hd)]
theorem delP_eq (l:List ByteArray):delL l=(delP (some l)).2.map fun t=>((delP (some l)).1,t):=by
 unfold delL delP
 by_cases hd:vT q9 l=true
 ·rw [if_pos hd,if_pos (show qX (some l) q9=true from hd),kl]
  cases afO q9 l with
  | none=>rfl
  | some x =>
   simp only [Option.bind_some]
   split <;> rfl
 ·rw [if_neg hd,if_neg (show ¬ qX (some l) q9=true from hd)]
  rfl
theorem qln (l:List ByteArray):insL l=(zH (some l)).2.map fun t=>((zH (some l)).1,t):=by
 unfold insL zH qkY
 by_cases hd:vT qK l=true
 ·rw [if_pos hd,if_pos (show qX (some l) qK=true from hd)];simp only [Option.bind_some]
  cases (skO qK l).bind qae <;> rfl
 ·rw [if_neg hd,if_neg (show ¬ qX (some l) qK=true from hd)]
  rfl
theorem splP_eq (l:List ByteArray):qbo l=(qbN (some l)).2.map fun t=>((qbN (some l)).1,t):=by
 unfold qbo qbN;rw [kl]
 cases afO qI l with
 | none=>rfl
 | some x =>
  simp only [Option.bind_some];rw [show skO qO x.2=(some x.2).bind (skO qO) from rfl,kl]
  cases afO qO x.2 with
  | none=>rfl
  | some y =>
   simp only [Option.bind_some];rw [delP_eq];generalize delP (some y.2)=d;obtain ⟨d1,d2⟩:=d
   cases d2 with
   | none=>rfl
   | some t =>
    simp only [Option.map_some,Option.bind_some];rw [qln];generalize zH (some t)=g;obtain ⟨g1,g2⟩:=g
    cases g2 <;> rfl
theorem chgP_eq (l:List ByteArray):qaL l=(chgP (some l)).2.map fun t=>((chgP (some l)).1,t):=by
 unfold qaL chgP
 by_cases h1:vT jS l=true
 ·rw [if_pos h1,if_pos (show qX (some l) jS=true from h1)];exact sizP_eq l
 ·rw [if_neg h1,if_neg (show ¬ qX (some l) jS=true from h1)]
  by_cases h2:vT q8 l=true
  ·rw [if_pos h2,if_pos (show qX (some l) q8=true from h2)];exact scrP_eq l
  ·rw [if_neg h2,if_neg (show ¬ qX (some l) q8=true from h2)]
   by_cases h3:vT qI l=true
   ·rw [if_pos h3,if_pos (show qX (some l) qI=true from h3)];exact splP_eq l
   ·rw [if_neg h3,if_neg (show ¬ qX (some l) qI=true from h3)]
    by_cases h4:vT q7 l=true
    ·rw [if_pos h4,if_pos (show qX (some l) q7=true from h4)];exact curP_eq l
    ·rw [if_neg h4,if_neg (show ¬ qX (some l) q7=true from h4)]
     rfl
theorem yV {s:ByteArray} {l t:List ByteArray} (h:skO s l=some t):t.length<l.length:=by
 cases l with
 | nil=>cases h
 | cons a u =>
  simp only [skO] at h
  split at h
  ·cases h;simp
  ·cases h
theorem qiq {l t:List ByteArray} {n:Int} (h:kU l=some (n,t)):t.length<=l.length:=by
 unfold kU at h;rw [Option.map_eq_some_iff] at h;obtain ⟨x,_,e⟩:=h
 cases e
 rw [List.length_drop]
 omega
theorem kg {s:ByteArray} {l t:List ByteArray} {n:Int} (h:afO s l=some (n,t)):t.length<l.length:=by
 unfold afO at h;rw [Option.bind_eq_some_iff] at h;obtain ⟨x,h1,h2⟩:=h;have:=yV h1;have:=qiq h2
 omega
theorem qgs {l t:List ByteArray} {G:List Gl} (h:qae l=some (G,t)):t.length<=l.length/\∃ k,kC (l.take k)=some G:=by
 unfold qae at h;rw [Option.bind_eq_some_iff] at h;obtain ⟨i,_,h2⟩:=h
 split at h2
 ·rename_i g gs hg
  cases h2
  exact ⟨by rw [List.length_drop];omega,i,hg⟩
 ·cases h2
theorem qim {l t:List ByteArray} {n:Int} (h:delL l=some (n,t)):t.length<=l.length:=by
 unfold delL at h
 split at h
 ·rw [Option.bind_eq_some_iff] at h;obtain ⟨x,h1,h2⟩:=h
  split at h2
  ·cases h2
  ·cases h2
   exact Lr (kg h1)
 ·cases h
  exact Ld _
def SmG (G:List Gl):Prop:=G.length<=1000000000/\∀ x∈G,x.text.size<=1000000000
theorem SmG.nil:SmG []:=⟨by decide,fun x hx=>by cases hx⟩
theorem qcV : ∀ (f:Nat) (q:Prs) (G:List Gl),PaK2 q->ka f q=some G->SmG G
 | 0,q,G,hk,h=>by
  rw [ka] at h
  injection h with h
  have h1:=hk.1.2.1;have h2:=hk.1.2.2;rw [<- h];exact ⟨by omega,fun x hx=>by have:=h2 x hx;omega⟩
 | f+1,q,G,hk,h=>by
  rw [ka] at h
  split at h
  ·injection h with h
   have h1:=hk.1.2.1;have h2:=hk.1.2.2;rw [<- h];exact ⟨by omega,fun x hx=>by have:=h2 x hx;omega⟩
  ·cases hp:va q with
   | none=>rw [hp] at h;cases h
   | some q'=>rw [hp] at h;exact qcV f q' G (hk.part hp) h
theorem qe2 {l:List ByteArray} {G:List Gl} (hl:l.length<=850000) (hsz : ∀ s∈l,s.size<=1000) (h:kC l=some G):SmG G :=
 qcV _ _ _ ⟨⟨hsz,by show 0+1100 * l.length<=_;omega,fun x hx=>by cases hx⟩,hl⟩ h
def Sub (t l:List ByteArray):Prop:=t.length<=l.length/\∀ s∈t,s∈l
theorem Sub.trans {a b c:List ByteArray} (h:Sub a b) (g:Sub b c):Sub a c:=⟨Lj h.1 g.1,fun s hs=>g.2 s (h.2 s hs)⟩
theorem qlJ {s:ByteArray} {l t:List ByteArray} (h:skO s l=some t):Sub t l:=by
 refine ⟨Lr (yV h),?_⟩
 cases l with
 | nil=>cases h
 | cons a u =>
  simp only [skO] at h
  split at h
  ·cases h;exact fun x hx=>List.mem_cons_of_mem _ hx
  ·cases h
theorem qlW {l t:List ByteArray} {n:Int} (h:kU l=some (n,t)):Sub t l:=by
 refine ⟨qiq h,?_⟩;unfold kU at h;rw [Option.map_eq_some_iff] at h;obtain ⟨x,_,e⟩:=h
 cases e
 exact fun s hs=>List.mem_of_mem_drop hs
theorem qhV {s:ByteArray} {l t:List ByteArray} {n:Int} (h:afO s l=some (n,t)):Sub t l:=by
 unfold afO at h;rw [Option.bind_eq_some_iff] at h;obtain ⟨x,h1,h2⟩:=h;exact (qlW h2).trans (qlJ h1)
theorem del_sub {l t:List ByteArray} {n:Int} (h:delL l=some (n,t)):Sub t l:=by
 unfold delL at h
 split at h
 ·rw [Option.bind_eq_some_iff] at h;obtain ⟨x,h1,h2⟩:=h
  split at h2
  ·cases h2
  ·cases h2
   exact qhV h1
 ·cases h
  exact ⟨Ld _,fun s hs=>hs⟩
theorem qlU {l t:List ByteArray} {G:List Gl} (h:insL l=some (G,t)) (hl:l.length<=850000) (hsz : ∀ s∈l,s.size<=1000):t.length<=l.length/\SmG G:=by
 unfold insL at h
 split at h
 ·rw [Option.bind_eq_some_iff] at h;obtain ⟨x,h1,h2⟩:=h;have hs:=qlJ h1;obtain ⟨h3,k,hk⟩:=qgs h2;exact ⟨Lj h3 hs.1,qe2 (by rw [Lu];have:=hs.1;omega) (fun s hs'=>hsz s (hs.2 s (List.mem_of_mem_take hs'))) hk⟩
 ·cases h
  exact ⟨Ld _,SmG.nil⟩
theorem qmp {l t:List ByteArray} {c:Chg} (h:qaL l=some (c,t)) (hl:l.length<=850000) (hsz : ∀ s∈l,s.size<=1000):t.length<l.length/\SmG c.glyphs:=by
 unfold qaL at h
 split at h
 ·rw [Option.bind_eq_some_iff] at h;obtain ⟨x,h1,h⟩:=h;rw [Option.bind_eq_some_iff] at h;obtain ⟨y,h2,h⟩:=h;rw [Option.map_eq_some_iff] at h;obtain ⟨u,h3,h⟩:=h
  cases h
  have:=kg h1;have:=kg h2;have:=yV h3;exact ⟨by omega,SmG.nil⟩
 ·split at h
  ·rw [Option.bind_eq_some_iff] at h;obtain ⟨x,h1,h⟩:=h;rw [Option.bind_eq_some_iff] at h1;obtain ⟨x0,h0,h1⟩:=h1;rw [Option.bind_eq_some_iff] at h;obtain ⟨y,h2,h⟩:=h;have:=yV h0;have:=kg h1;have:=kg h2
   split at h
   ·rw [Option.bind_eq_some_iff] at h;obtain ⟨z,h3,h⟩:=h;have:=kg h3
    split at h
    ·cases h
    ·cases h
     exact ⟨by omega,SmG.nil⟩
   ·rw [Option.bind_eq_some_iff] at h;obtain ⟨z,h3,h⟩:=h;have:=kg h3
    split at h
    ·cases h
    ·cases h
     exact ⟨by omega,SmG.nil⟩
  ·split at h
   ·unfold qbo at h;rw [Option.bind_eq_some_iff] at h;obtain ⟨x,h1,h⟩:=h;rw [Option.bind_eq_some_iff] at h;obtain ⟨y,h2,h⟩:=h;rw [Option.bind_eq_some_iff] at h;obtain ⟨z,h3,h⟩:=h;rw [Option.map_eq_some_iff] at h;obtain ⟨g,h4,h⟩:=h
    cases h
    have hs:=(del_sub h3).trans ((qhV h2).trans (qhV h1));have:=kg h1;have:=kg h2;have:=qim h3;obtain ⟨h5,h6⟩:=qlU h4 (Lj hs.1 hl) (fun s hs'=>hsz s (hs.2 s hs'));exact ⟨by omega,h6⟩
   ·split at h
    ·rw [Option.bind_eq_some_iff] at h;obtain ⟨x,h1,h⟩:=h;rw [Option.bind_eq_some_iff] at h1;obtain ⟨x0,h0,h1⟩:=h1;rw [Option.bind_eq_some_iff] at h;obtain ⟨y,h2,h⟩:=h;have:=yV h0;have:=kg h1;have:=kg h2
     split at h
     ·rw [Option.map_eq_some_iff] at h;obtain ⟨u,h3,h⟩:=h
      cases h
      have:=yV h3;exact ⟨by omega,SmG.nil⟩
     ·rw [Option.map_eq_some_iff] at h;obtain ⟨u,h3,h⟩:=h
      cases h
      have:=yV h3;exact ⟨by omega,SmG.nil⟩
    ·cases h
theorem chk_pos {c:Chg} (h:vj c=0):0<=c.row/\0<=c.col/\0<=c.til:=by
 obtain ⟨h1,h2,_,h4⟩:=qdG h;obtain ⟨kind,row,col,count,til,g⟩:=c;unfold je at h2;unfold jk at h4;dsimp only at *
 by_cases k1:kind=1
 ·rw [if_pos k1,decide_eq_true_eq] at h2 h4;exact ⟨by omega,by omega,by omega⟩
 ·rw [if_neg k1] at h2 h4
  by_cases k2:kind=2
  ·rw [if_pos k2,decide_eq_true_eq] at h2 h4;exact ⟨by omega,by omega,by omega⟩
  ·rw [if_neg k2] at h2 h4
   by_cases k3:kind=3
   ·rw [if_pos k3] at h2 h4;rw [decide_eq_true_eq] at h2;rw [Bool.and_eq_true,decide_eq_true_eq] at h4;exact ⟨by omega,by omega,by omega⟩
   ·rw [if_neg k3,decide_eq_true_eq] at h2 h4;exact ⟨by omega,by omega,by omega⟩
def okX (F:Option (Chg × List ByteArray)):Option (Chg × List ByteArray):=F.bind fun x=>if vj x.1=0 then some x else none
def okC (x:Chg × Option (List ByteArray)):Option (Chg × List ByteArray):=okX (x.2.map fun t=>(x.1,t))
theorem zu {F:Option (Chg × List ByteArray)} (h : ∀ x,F=some x->x.1.row<0∨x.1.col<0∨x.1.til<0):okX F=none:=by
 unfold okX
 cases F with
 | none=>rfl
 | some x =>
  have:=h x rfl;rw [Option.bind_some]
  by_cases hc:vj x.1=0
  ·have:=chk_pos hc
   omega
  ·rw [if_neg hc]
theorem qW (l s):qv ((some l).bind (skO s))=match afO s l with
  | some x=>if x.1<0 then (0,none) else (x.1,some x.2)
  | none=>(0,none):=by
 unfold qv afO;simp only [Option.bind_some]
 cases (skO s l).bind kU <;> rfl
theorem qlr (l s t):qv (((some l).bind (skO s)).bind (skO t))=match (skO s l).bind (afO t) with
  | some x=>if x.1<0 then (0,none) else (x.1,some x.2)
  | none=>(0,none):=by
 show qv ((skO s l).bind (skO t))=_
 cases skO s l with
 | none=>rfl
 | some l'=>exact qW l' t
theorem siz_eq (l:List ByteArray):okC (sizV (some l))=okX ((afO jS l).bind fun x=>(afO kv x.2).bind fun y=>(skO jl y.2).map fun t=>((⟨1,x.1,y.1,0,0,[]⟩:Chg),t)):=by
 unfold sizV;rw [qW]
 cases afO jS l with
 | none=>rfl
 | some x =>
  simp only [Option.bind_some]
  by_cases hx:x.1<0
  ·rw [if_pos hx];refine (zu fun z hz=>?_).symm;rw [Option.bind_eq_some_iff] at hz;obtain ⟨y,_,hz⟩:=hz;rw [Option.map_eq_some_iff] at hz;obtain ⟨t,_,rfl⟩:=hz;exact .inl hx
  ·rw [if_neg hx,qW]
   cases afO kv x.2 with
   | none=>rfl
   | some y =>
    simp only [Option.bind_some]
    by_cases hy:y.1<0
    ·rw [if_pos hy];refine (zu fun z hz=>?_).symm;rw [Option.map_eq_some_iff] at hz;obtain ⟨t,_,rfl⟩:=hz;exact .inr (.inl hy)
    ·rw [if_neg hy]
     rfl
theorem up_eq (X Y:Int) (t:List ByteArray):okC (upV X Y (some t))=okX (if vT jj t=true then (afO jj t).bind fun z=>if z.1<0 then none else some ((⟨2,X,0,-z.1,Y,[]⟩:Chg),z.2)
  else (afO bUp t).bind fun z=>if z.1<0 then none else some (⟨2,X,0,z.1,Y,[]⟩,z.2)):=by
 unfold upV
 by_cases hu:vT bUp t=true
 ·rw [if_pos (show qX (some t) bUp=true from hu)];have hd : ¬ vT jj t=true:=by
   cases t with
   | nil=>cases hu
   | cons a u =>
    have e:a=bUp:=by simpa [vT] using hu
    subst e
    show ¬ decide (bUp=jj)=true
    decide
  rw [if_neg hd,qW]
  cases afO bUp t with
  | none=>rfl
  | some z =>
   simp only [Option.bind_some]
   split <;> rfl
 ·rw [if_neg (show ¬ qX (some t) bUp=true from hu),qW]
  by_cases hd:vT jj t=true
  ·rw [if_pos hd]
   cases afO jj t with
   | none=>rfl
   | some z =>
    simp only [Option.bind_some]
    split <;> rfl
  ·rw [if_neg hd];have n1 : ∀ s,¬ vT s t=true->afO s t=none:=fun s h=>by
    have:(some t:Option (List ByteArray)).bind (skO s)=none:=qlx (by show vT s t=false;simpa using h);unfold afO;rw [show skO s t=none from this]
    rfl
   rw [n1 _ hu,n1 _ hd]
   rfl
theorem scr_eq (l:List ByteArray):okC (scrV (some l))=okX (((skO q8 l).bind (afO qI)).bind fun x=>(afO bTo x.2).bind fun y =>
  if vT jj y.2=true then (afO jj y.2).bind fun z=>if z.1<0 then none else some ((⟨2,x.1-1,0,-z.1,y.1,[]⟩:Chg),z.2)
  else (afO bUp y.2).bind fun z=>if z.1<0 then none else some (⟨2,x.1-1,0,z.1,y.1,[]⟩,z.2)):=by
 unfold scrV;rw [qlr]
 cases (skO q8 l).bind (afO qI) with
 | none=>rfl
 | some x =>
  simp only [Option.bind_some]
  have key : ∀ (y:Int × List ByteArray) z,(if vT jj y.2=true then (afO jj y.2).bind fun z=>if z.1<0 then none else some ((⟨2,x.1-1,0,-z.1,y.1,[]⟩:Chg),z.2)
    else (afO bUp y.2).bind fun z=>if z.1<0 then none else some (⟨2,x.1-1,0,z.1,y.1,[]⟩,z.2))=some z->z.1.row=x.1-1/\z.1.til=y.1:=fun y z hz=>by
   split at hz <;>
   ·rw [Option.bind_eq_some_iff] at hz;obtain ⟨q,_,hz⟩:=hz
    split at hz
    ·cases hz
    ·cases hz
     exact ⟨rfl,rfl⟩
  by_cases hx:x.1<0
  ·rw [if_pos hx];refine (zu fun z hz=>?_).symm;rw [Option.bind_eq_some_iff] at hz;obtain ⟨y,_,hz⟩:=hz;have:=(key y z hz).1;exact .inl L0
  ·rw [if_neg hx,qW]
   cases afO bTo x.2 with
   | none=>rfl
   | some y =>
    simp only [Option.bind_some]
    by_cases hy:y.1<0
    ·rw [if_pos hy];refine (zu fun z hz=>?_).symm;have:=(key y z hz).2;exact .inr (.inr L0)
    ·rw [if_neg hy];exact up_eq _ _ _
theorem vis_eq (X Y:Int) (t:List ByteArray):okC (visV X Y (some t))=okX (if vT ze t=true then (skO ze t).map fun u=>((⟨4,X,Y,1,0,[]⟩:Chg),u)
  else (skO zK t).map fun u=>(⟨4,X,Y,0,0,[]⟩,u)):=by
 unfold visV
 by_cases hd:vT ze t=true
 ·rw [if_pos hd,if_pos (show qX (some t) ze=true from hd)]
  rfl
 ·rw [if_neg hd,if_neg (show ¬ qX (some t) ze=true from hd)]
  rfl
theorem cur_eq (l:List ByteArray):okC (curV (some l))=okX (((skO q7 l).bind (afO qI)).bind fun x=>(afO qO x.2).bind fun y =>
  if vT ze y.2=true then (skO ze y.2).map fun t=>((⟨4,x.1-1,y.1-1,1,0,[]⟩:Chg),t)
  else (skO zK y.2).map fun t=>(⟨4,x.1-1,y.1-1,0,0,[]⟩,t)):=by
 unfold curV;rw [qlr]
 cases (skO q7 l).bind (afO qI) with
 | none=>rfl
 | some x =>
  simp only [Option.bind_some]
  have key : ∀ (y:Int × List ByteArray) z,(if vT ze y.2=true then (skO ze y.2).map fun t=>((⟨4,x.1-1,y.1-1,1,0,[]⟩:Chg),t)
    else (skO zK y.2).map fun t=>(⟨4,x.1-1,y.1-1,0,0,[]⟩,t))=some z->z.1.row=x.1-1/\z.1.col=y.1-1:=fun y z hz=>by
   split at hz <;>
   ·rw [Option.map_eq_some_iff] at hz;obtain ⟨q,_,rfl⟩:=hz;exact ⟨rfl,rfl⟩
  by_cases hx:x.1<0
  ·rw [if_pos hx];refine (zu fun z hz=>?_).symm;rw [Option.bind_eq_some_iff] at hz;obtain ⟨y,_,hz⟩:=hz;have:=(key y z hz).1;exact .inl L0
  ·rw [if_neg hx,qW]
   cases afO qO x.2 with
   | none=>rfl
   | some y =>
    simp only [Option.bind_some]
    by_cases hy:y.1<0
    ·rw [if_pos hy];refine (zu fun z hz=>?_).symm;have:=(key y z hz).2;exact .inr (.inl L0)
    ·rw [if_neg hy];exact vis_eq _ _ _
theorem del_eq (X Y:Int) (t:List ByteArray):okC (delV X Y (some t))=okX ((delL t).bind fun z=>(insL z.2).map fun g=>((⟨3,X,Y,z.1,0,g.1⟩:Chg),g.2)):=by
 unfold delV delL
 by_cases hd:vT q9 t=true
 ·rw [if_pos hd,if_pos (show qX (some t) q9=true from hd),qW]
  cases afO q9 t with
  | none=>rfl
  | some x =>
   simp only [Option.bind_some]
   by_cases hx:x.1<0
   ·rw [if_pos hx,if_pos (show x.1<1 by omega)]
    rfl
   ·rw [if_neg hx]
    by_cases h0:x.1=0
    ·rw [if_pos h0,if_pos (show x.1<1 by omega)]
     rfl
    ·rw [if_neg h0,if_neg (show ¬ x.1<1 by omega)];simp only [Option.bind_some];rw [qln,Option.map_map]
     rfl
 ·rw [if_neg hd,if_neg (show ¬ qX (some t) q9=true from hd)];simp only [Option.bind_some];rw [qln,Option.map_map]
  rfl
theorem lin_eq (l:List ByteArray):okC (linV (some l))=okX (qbo l):=by
 unfold linV qbo;rw [qW]
 cases afO qI l with
 | none=>rfl
 | some x =>
  simp only [Option.bind_some];have key : ∀ (y:Int × List ByteArray) z,((delL y.2).bind fun z=>(insL z.2).map fun g=>((⟨3,x.1-1,y.1-1,z.1,0,g.1⟩:Chg),g.2))=some z->z.1.row=x.1-1/\z.1.col=y.1-1:=fun y z hz=>by
   rw [Option.bind_eq_some_iff] at hz;obtain ⟨q,_,hz⟩:=hz;rw [Option.map_eq_some_iff] at hz;obtain ⟨q,_,rfl⟩:=hz;exact ⟨rfl,rfl⟩
  by_cases hx:x.1<0
  ·rw [if_pos hx];refine (zu fun z hz=>?_).symm;rw [Option.bind_eq_some_iff] at hz;obtain ⟨y,_,hz⟩:=hz;have:=(key y z hz).1;exact .inl L0
  ·rw [if_neg hx,qW]
   cases afO qO x.2 with
   | none=>rfl
   | some y =>
    simp only [Option.bind_some]
    by_cases hy:y.1<0
    ·rw [if_pos hy];refine (zu fun z hz=>?_).symm;have:=(key y z hz).2;exact .inr (.inl L0)
    ·rw [if_neg hy];exact del_eq _ _ _
theorem qlV (l:List ByteArray):okC (zU (some l))=okX (qaL l):=by
 unfold qaL zU
 by_cases h1:vT jS l=true
 ·rw [if_pos h1,if_pos (show qX (some l) jS=true from h1)];exact siz_eq l
 ·rw [if_neg h1,if_neg (show ¬ qX (some l) jS=true from h1)]
  by_cases h2:vT q8 l=true
  ·rw [if_pos h2,if_pos (show qX (some l) q8=true from h2)];exact scr_eq l
  ·rw [if_neg h2,if_neg (show ¬ qX (some l) q8=true from h2)]
   by_cases h3:vT qI l=true
   ·rw [if_pos h3,if_pos (show qX (some l) qI=true from h3)];exact lin_eq l
   ·rw [if_neg h3,if_neg (show ¬ qX (some l) qI=true from h3)]
    by_cases h4:vT q7 l=true
    ·rw [if_pos h4,if_pos (show qX (some l) q7=true from h4)];exact cur_eq l
    ·rw [if_neg h4,if_neg (show ¬ qX (some l) q7=true from h4)]
     rfl
def qma (f:Nat) (r:Option (List ByteArray)) (acc:List Chg):Option (List Chg × Int):=r.bind fun l=>yR f l acc
theorem goV_step {f:Nat} {l:List ByteArray} {acc:List Chg} (h1:vT kZ l=false) (h2:vT jN l=false):qma (f+1) (some l) acc=qma f (if vj (zU (some l)).1=0 then (zU (some l)).2 else none) (acc++[(zU (some l)).1]):=by
 have e:qma (f+1) (some l) acc=(okX (qaL l)).bind fun x=>yR f x.2 (acc++[x.1]):=by
  show yR (f+1) l acc=_
  rw [yR,if_neg (by rw [h1,h2];simp),okX]
  cases qaL l with
  | none=>rfl
  | some x =>
   simp only [Option.bind_some]
   split <;> rfl
 rw [e,<- qlV];generalize zU (some l)=q;obtain ⟨c,t⟩:=q;unfold okC okX qma
 cases t with
 | none=>split <;> rfl
 | some t =>
  simp only [Option.map_some,Option.bind_some]
  split <;> rfl
theorem chgQ_len {l t:List ByteArray} (hl:l.length<=1000) (hsz : ∀ s∈l,s.size<=1000) (hc:vj (zU (some l)).1=0) (h:(zU (some l)).2=some t):t.length<l.length:=by
 have e:=qlV l;unfold okC at e;rw [h,Option.map_some] at e;unfold okX at e;rw [Option.bind_some,if_pos hc] at e;obtain ⟨x,hx,h2⟩:=Option.bind_eq_some_iff.1 e.symm
 split at h2
 ·cases h2
  exact (qmp (c:=(zU (some l)).1) hx L0 hsz).1
 ·cases h2
def lenO (r:Option (List ByteArray)):Nat:=match r with
 | some l=>l.length
 | none=>0
def endT (r:Option (List ByteArray)):Int × Option (List ByteArray) :=
 if qX r kZ=true then (0,r.bind (skO kZ))
 else if qX r jN=true/\lenO r=1 then (1,r.bind (skO jN))
 else ((qv (r.bind (skO jN))).1,if (qv (r.bind (skO jN))).1<2 then none else (qv (r.bind (skO jN))).2.bind (skO jG))
def endV (r:Option (List ByteArray)):Option Int:=(endT r).2.bind fun t=>if t=[] then some (endT r).1 else none
theorem endV_nil:endV (some [])=none:=by decide
theorem endV_eq (l:List ByteArray) (h:vT kZ l=true∨vT jN l=true):endV (some l)=ki l:=by
 unfold endV endT ki
 cases l with
 | nil=>rcases h with h | h <;> cases h
 | cons a t =>
  by_cases hm:vT kZ (a::t)=true
  ·rw [if_pos hm,if_pos (show qX (some (a::t)) kZ=true from hm)];have e:a=kZ:=by simpa [vT] using hm
   subst e;simp only [Option.bind_some,yL]
   cases t <;> simp
  ·rw [if_neg hm,if_neg (show ¬ qX (some (a::t)) kZ=true from hm)];have hd:=h.resolve_left hm;have e:a=jN:=by simpa [vT] using hd
   subst e;simp only [Option.bind_some,yL]
   cases t with
   | nil=>rw [if_pos ⟨hd,rfl⟩];rfl
   | cons b u =>
    rw [if_neg (by rintro ⟨_,h⟩;simp [lenO] at h),if_neg (show ¬ (b::u=[]) by simp)];unfold qv;simp only [Option.bind_some]
    cases kU (b::u) with
    | none=>rfl
    | some x =>
     obtain ⟨n,q⟩:=x;simp only [Option.bind_some]
     by_cases hn:n<0
     ·rw [if_pos hn]
      show none=_
      cases skO jG q with
      | none=>rfl
      | some z =>
       show none=if z=[]/\1<n then some n else none
       rw [if_neg (fun h=>by have:=h.2;omega)]
     ·rw [if_neg hn]
      show (Option.bind (if n<2 then none else skO jG q) fun t=>if t=[] then some n else none)=_
      by_cases h2:n<2
      ·rw [if_pos h2]
       cases skO jG q with
       | none=>rfl
       | some z =>
        show none=if z=[]/\1<n then some n else none
        rw [if_neg (fun h=>by have:=h.2;omega)]
      ·rw [if_neg h2]
       cases skO jG q with
       | none=>rfl
       | some z =>
        show (if z=[] then some n else none)=if z=[]/\1<n then some n else none
        by_cases hz:z=[]
        ·rw [if_pos hz,if_pos ⟨hz,by omega⟩]
        ·rw [if_neg hz,if_neg (fun h=>hz h.1)]
theorem goV_end {f:Nat} {r:Option (List ByteArray)} {acc:List Chg} (h : ∀ l,r=some l->l=[]∨vT kZ l=true∨vT jN l=true):qma (f+1) r acc=(endV r).map fun n=>(acc,n):=by
 cases r with
 | none=>rfl
 | some l =>
  rcases h l rfl with rfl | h
  ·rw [endV_nil];rfl
  ·rw [endV_eq l h]
   show yR (f+1) l acc=_
   rw [yR,if_pos h]
theorem qk6 {r:Option (List ByteArray)} (h : ∀ l,r=some l->l.length<=1000/\∀ s∈l,s.size<=1000):SmG (zH r).1:=by
 cases r with
 | none=>exact SmG.nil
 | some l =>
  have e:=qln l
  cases hp:(zH (some l)).2 with
  | none =>
   have:(zH (some l)).1=[]:=by
    unfold zH qkY at hp ⊢
    split
    ·rename_i hn
     rw [if_pos hn] at hp
     cases hq:((some l).bind (skO qK)).bind qae with
     | none=>rfl
     | some x=>rw [hq] at hp;cases hp
    ·rfl
   rw [this];exact SmG.nil
  | some t =>
   rw [hp,Option.map_some] at e;have:=h l rfl;exact (qlU e L0 this.2).2
def OkR (r:Option (List ByteArray)):Prop:=∀ l,r=some l->l.length<=1000/\∀ s∈l,s.size<=1000
theorem OkR.sk {r:Option (List ByteArray)} (h:OkR r) (s:ByteArray):OkR (r.bind (skO s)):=fun t ht=>by
 obtain ⟨l,hl,h2⟩:=Option.bind_eq_some_iff.1 ht;have:=qlJ h2;exact ⟨Lj this.1 (h l hl).1,fun x hx=>(h l hl).2 x (this.2 x hx)⟩
theorem OkR.num {r:Option (List ByteArray)} (h:OkR r):OkR (qv r).2:=fun t ht=>by
 unfold qv at ht
 cases hq:r.bind kU with
 | none=>rw [hq] at ht;cases ht
 | some x =>
  obtain ⟨n,u⟩:=x;rw [hq] at ht;dsimp only at ht
  split at ht
  ·cases ht
  ·cases ht
   obtain ⟨l,hl,h2⟩:=Option.bind_eq_some_iff.1 hq;have:=qlW h2;exact ⟨Lj this.1 (h l hl).1,fun x hx=>(h l hl).2 x (this.2 x hx)⟩
theorem qlK {l:List ByteArray} (h:OkR (some l)):SmG (zU (some l)).1.glyphs:=by
 unfold zU
 split
 ·exact SmG.nil
 ·split
  ·unfold scrV upV
   split <;> exact SmG.nil
  ·split
   ·unfold linV delV;have h2:OkR (qv ((qv ((some l).bind (skO qI))).2.bind (skO qO))).2:=((h.sk _).num.sk _).num
    split
    ·split
     ·exact SmG.nil
     ·exact qk6 (h2.sk _).num
    ·exact qk6 h2
   ·split
    ·unfold curV visV
     split <;> exact SmG.nil
    ·exact SmG.nil
theorem OkR.text {r:Option (List ByteArray)} (h:OkR r):OkR (qkY r).2:=fun t ht=>by
 unfold qkY at ht
 cases hq:r.bind qae with
 | none=>rw [hq] at ht;cases ht
 | some x =>
  obtain ⟨G,u⟩:=x;rw [hq] at ht
  cases ht
  obtain ⟨l,hl,h2⟩:=Option.bind_eq_some_iff.1 hq;unfold qae at h2;obtain ⟨i,_,h3⟩:=Option.bind_eq_some_iff.1 h2
  split at h3
  ·cases h3
   exact ⟨by rw [List.length_drop];have:=(h l hl).1;omega,fun x hx=>(h l hl).2 x (List.mem_of_mem_drop hx)⟩
  ·cases h3
theorem OkR.ins {r:Option (List ByteArray)} (h:OkR r):OkR (zH r).2:=by
 unfold zH
 split
 ·exact (h.sk _).text
 ·exact h
theorem OkR.none_:OkR none:=fun l e=>by cases e
theorem chgQ_ok {l:List ByteArray} (h:OkR (some l)):OkR (zU (some l)).2:=by
 unfold zU
 split
 ·exact ((h.sk _).num.sk _).num.sk _
 ·split
  ·unfold scrV upV;have h2:OkR (qv ((qv (((some l).bind (skO q8)).bind (skO qI))).2.bind (skO bTo))).2:=(((h.sk _).sk _).num.sk _).num
   split <;> exact (h2.sk _).num
  ·split
   ·unfold linV delV;have h2:OkR (qv ((qv ((some l).bind (skO qI))).2.bind (skO qO))).2:=((h.sk _).num.sk _).num
    split
    ·split
     ·exact OkR.none_
     ·exact (h2.sk _).num.ins
    ·exact h2.ins
   ·split
    ·unfold curV visV;have h2:OkR (qv ((qv (((some l).bind (skO q7)).bind (skO qI))).2.bind (skO qO))).2:=(((h.sk _).sk _).num.sk _).num
     split <;> exact h2.sk _
    ·exact OkR.none_
def chkAll:List ChgM->Int
 | []=>0
 | x::t=>if vj x.c=0 then chkAll t else vj x.c
theorem jq (n a b:Int) (w:World):Calls prog 85 #[.int .i64 n,.int .i64 a,.int .i64 b] w fun e w'=>e = .returned (.bool (inB n a b))/\w=w':=by
 unfold inB
 by_cases h1:a<=n
 ·by_cases h2:n<=b
  ·go_enter func85,ntmps85
   go_wp2;go_ret;exact ⟨by simp [h1,h2],rfl⟩
  ·go_enter func85,ntmps85
   go_wp2;go_ret;exact ⟨by simp [h1,h2],rfl⟩
 ·go_enter func85,ntmps85
  go_wp2;go_ret;exact ⟨by rw [Lk (show ¬ a<=n by omega)];rfl,rfl⟩
theorem qhT (row col count til:Int) (g:List Gl) (A:Option Addr) (cap:Nat) (w:World):Calls prog 62 #[jH ⟨1,row,col,count,til,g⟩ A cap] w (qh (.int .i64 (vj ⟨1,row,col,count,til,g⟩)) w):=by
 rw [qiy];obtain ⟨R,hR⟩ : ∃ x,x=jL (inB row 1 60&&inB col 1 132) (decide (count=0)&&decide (til=0)&&decide (g.length=0)) false:=⟨_,rfl⟩
 rw [<- hR];have HR:=Lh hR;clear hR;generalize hz0:inB row 0 59=z0 at *
 cases h1:inB row 1 60 with
 | false=>as_aux_lemma =>
  have HE:Hid (R=2):=Lh (by rw [HR.out];simp [jL,h1]);clear HR
  skip
  go_enter func62,ntmps62
  go_upto_region 1 with fail
  refine qa (ChgBox w ⟨1,row,col,count,til,g⟩ A cap) (ChgBox.new w ⟨1,row,col,count,til,g⟩ A cap _) ?_;rintro X ⟨c0,c1,c2,c3,c4,c5,hb,hzX⟩;dsimp only at c0 c1 c2 c3 c4 c5
  go_wp2_with (go_at_call 85;refine (jq _ _ _ _).mono ?_;rintro e wy ⟨rfl,rfl⟩)
  go_ret;exact ⟨by rw [HE.out];rfl,hb⟩
 | true =>
  cases h2:inB col 1 132 with
  | false=>as_aux_lemma =>
   have HE:Hid (R=2):=Lh (by rw [HR.out];simp [jL,h1,h2]);clear HR
   skip
   go_enter func62,ntmps62
   go_upto_region 1 with fail
   refine qa (ChgBox w ⟨1,row,col,count,til,g⟩ A cap) (ChgBox.new w ⟨1,row,col,count,til,g⟩ A cap _) ?_;rintro X ⟨c0,c1,c2,c3,c4,c5,hb,hzX⟩;dsimp only at c0 c1 c2 c3 c4 c5
   go_wp2_with (go_at_call 85;refine (jq _ _ _ _).mono ?_;rintro e wy ⟨rfl,rfl⟩)
   go_ret;exact ⟨by rw [HE.out];rfl,hb⟩
  | true =>
   by_cases h3:count=0
   ·have k3:(count != 0)=false:=by simp [h3]
    by_cases h4:til=0
    ·have k4:(til != 0)=false:=by simp [h4]
     by_cases h5:g.length=0
     ·as_aux_lemma =>
      have k5 : ¬ (0:Int)<g.length:=by omega
      have HE:Hid (R=0):=Lh (by rw [HR.out];simp [jL,h1,h2,h3,h4,h5]);clear HR;clear h3 h4 h5
      go_enter func62,ntmps62
      go_upto_region 1 with fail
      refine qa (ChgBox w ⟨1,row,col,count,til,g⟩ A cap) (ChgBox.new w ⟨1,row,col,count,til,g⟩ A cap _) ?_;rintro X ⟨c0,c1,c2,c3,c4,c5,hb,hzX⟩;dsimp only at c0 c1 c2 c3 c4 c5
      go_wp2_with (go_at_call 85;refine (jq _ _ _ _).mono ?_;rintro e wy ⟨rfl,rfl⟩)
      go_ret;exact ⟨by rw [HE.out];rfl,hb⟩
     ·as_aux_lemma =>
      have k5:(0:Int)<g.length:=by omega
      have HE:Hid (R=1):=Lh (by rw [HR.out];simp [jL,h1,h2,h3,h4,h5]);clear HR;clear h3 h4 h5
      go_enter func62,ntmps62
      go_upto_region 1 with fail
      refine qa (ChgBox w ⟨1,row,col,count,til,g⟩ A cap) (ChgBox.new w ⟨1,row,col,count,til,g⟩ A cap _) ?_;rintro X ⟨c0,c1,c2,c3,c4,c5,hb,hzX⟩;dsimp only at c0 c1 c2 c3 c4 c5
      go_wp2_with (go_at_call 85;refine (jq _ _ _ _).mono ?_;rintro e wy ⟨rfl,rfl⟩)
      go_ret;exact ⟨by rw [HE.out];rfl,hb⟩
    ·as_aux_lemma =>
     have k4:(til != 0)=true:=Ln.2 h4;have HE:Hid (R=1):=Lh (by rw [HR.out];simp [jL,h1,h2,h3,h4]);clear HR;clear h3 h4
     go_enter func62,ntmps62
     go_upto_region 1 with fail
     refine qa (ChgBox w ⟨1,row,col,count,til,g⟩ A cap) (ChgBox.new w ⟨1,row,col,count,til,g⟩ A cap _) ?_;rintro X ⟨c0,c1,c2,c3,c4,c5,hb,hzX⟩;dsimp only at c0 c1 c2 c3 c4 c5
     go_wp2_with (go_at_call 85;refine (jq _ _ _ _).mono ?_;rintro e wy ⟨rfl,rfl⟩)
     go_ret;exact ⟨by rw [HE.out];rfl,hb⟩
   ·as_aux_lemma =>
    have k3:(count != 0)=true:=Ln.2 h3;have HE:Hid (R=1):=Lh (by rw [HR.out];simp [jL,h1,h2,h3]);clear HR;clear h3
    go_enter func62,ntmps62
    go_upto_region 1 with fail
    refine qa (ChgBox w ⟨1,row,col,count,til,g⟩ A cap) (ChgBox.new w ⟨1,row,col,count,til,g⟩ A cap _) ?_;rintro X ⟨c0,c1,c2,c3,c4,c5,hb,hzX⟩;dsimp only at c0 c1 c2 c3 c4 c5
    go_wp2_with (go_at_call 85;refine (jq _ _ _ _).mono ?_;rintro e wy ⟨rfl,rfl⟩)
    go_ret;exact ⟨by rw [HE.out];rfl,hb⟩
theorem qhF (row col count til:Int) (g:List Gl) (A:Option Addr) (cap:Nat) (w:World):Calls prog 62 #[jH ⟨2,row,col,count,til,g⟩ A cap] w (qh (.int .i64 (vj ⟨2,row,col,count,til,g⟩)) w):=by
 rw [qin];obtain ⟨R,hR⟩ : ∃ x,x=jL (inB row 0 59&&inB til (row+1) 60&&inB count (-60) 60&&decide (count≠0)) (decide (col=0)&&decide (g.length=0)) false:=⟨_,rfl⟩
 rw [<- hR];have HR:=Lh hR;clear hR
 cases h0:inB row 0 59 with
 | false=>as_aux_lemma =>
  have HE:Hid (R=2):=Lh (by rw [HR.out];simp [jL,h0]);clear HR
  skip
  go_enter func62,ntmps62
  go_upto_region 1 with fail
  refine qa (ChgBox w ⟨2,row,col,count,til,g⟩ A cap) (ChgBox.new w ⟨2,row,col,count,til,g⟩ A cap _) ?_;rintro X ⟨c0,c1,c2,c3,c4,c5,hb,hzX⟩;dsimp only at c0 c1 c2 c3 c4 c5
  go_wp2_with (go_at_call 85;refine (jq _ _ _ _).mono ?_;rintro e wy ⟨rfl,rfl⟩)
  go_ret;exact ⟨by rw [HE.out];rfl,hb⟩
 | true =>
  have e0:IntKind.i64.wrap (row+1)=row+1:=by
   unfold inB at h0;simp only [Bool.and_eq_true,decide_eq_true_eq] at h0;rw [Lx];omega
  cases h1:inB til (row+1) 60 with
  | false=>as_aux_lemma =>
   have HE:Hid (R=2):=Lh (by rw [HR.out];simp [jL,h0,h1]);clear HR
   skip
   go_enter func62,ntmps62
   go_upto_region 1 with fail
   refine qa (ChgBox w ⟨2,row,col,count,til,g⟩ A cap) (ChgBox.new w ⟨2,row,col,count,til,g⟩ A cap _) ?_;rintro X ⟨c0,c1,c2,c3,c4,c5,hb,hzX⟩;dsimp only at c0 c1 c2 c3 c4 c5
   go_wp2_with (go_at_call 85;refine (jq _ _ _ _).mono ?_;rintro e wy ⟨rfl,rfl⟩)
   go_ret;exact ⟨by rw [HE.out];rfl,hb⟩
  | true =>
   cases h2:inB count (-60) 60 with
   | false=>as_aux_lemma =>
    have HE:Hid (R=2):=Lh (by rw [HR.out];simp [jL,h0,h1,h2]);clear HR
    skip
    go_enter func62,ntmps62
    go_upto_region 1 with fail
    refine qa (ChgBox w ⟨2,row,col,count,til,g⟩ A cap) (ChgBox.new w ⟨2,row,col,count,til,g⟩ A cap _) ?_;rintro X ⟨c0,c1,c2,c3,c4,c5,hb,hzX⟩;dsimp only at c0 c1 c2 c3 c4 c5
    go_wp2_with (go_at_call 85;refine (jq _ _ _ _).mono ?_;rintro e wy ⟨rfl,rfl⟩)
    go_ret;exact ⟨by rw [HE.out];rfl,hb⟩
   | true =>
    by_cases h3:count=0
    ·as_aux_lemma =>
     have k3:(count==0)=true:=by simp [h3]
     have HE:Hid (R=2):=Lh (by rw [HR.out];simp [jL,h0,h1,h2,h3]);clear HR;clear h3
     go_enter func62,ntmps62
     go_upto_region 1 with fail
     refine qa (ChgBox w ⟨2,row,col,count,til,g⟩ A cap) (ChgBox.new w ⟨2,row,col,count,til,g⟩ A cap _) ?_;rintro X ⟨c0,c1,c2,c3,c4,c5,hb,hzX⟩;dsimp only at c0 c1 c2 c3 c4 c5
     go_wp2_with (go_at_call 85;refine (jq _ _ _ _).mono ?_;rintro e wy ⟨rfl,rfl⟩)
     go_ret;exact ⟨by rw [HE.out];rfl,hb⟩
    ·have k3:(count==0)=false:=Lm.2 h3
     by_cases h4:col=0
     ·have k4:(col != 0)=false:=by simp [h4]
      by_cases h5:g.length=0
      ·as_aux_lemma =>
       have k5 : ¬ (0:Int)<g.length:=by omega
       have HE:Hid (R=0):=Lh (by rw [HR.out];simp [jL,h0,h1,h2,h3,h4,h5]);clear HR;clear h3 h4 h5
       go_enter func62,ntmps62
       go_upto_region 1 with fail
       refine qa (ChgBox w ⟨2,row,col,count,til,g⟩ A cap) (ChgBox.new w ⟨2,row,col,count,til,g⟩ A cap _) ?_;rintro X ⟨c0,c1,c2,c3,c4,c5,hb,hzX⟩;dsimp only at c0 c1 c2 c3 c4 c5
       go_wp2_with (go_at_call 85;refine (jq _ _ _ _).mono ?_;rintro e wy ⟨rfl,rfl⟩)
       go_ret;exact ⟨by rw [HE.out];rfl,hb⟩
      ·as_aux_lemma =>
       have k5:(0:Int)<g.length:=by omega
       have HE:Hid (R=1):=Lh (by rw [HR.out];simp [jL,h0,h1,h2,h3,h4,h5]);clear HR;clear h3 h4 h5
       go_enter func62,ntmps62
       go_upto_region 1 with fail
       refine qa (ChgBox w ⟨2,row,col,count,til,g⟩ A cap) (ChgBox.new w ⟨2,row,col,count,til,g⟩ A cap _) ?_;rintro X ⟨c0,c1,c2,c3,c4,c5,hb,hzX⟩;dsimp only at c0 c1 c2 c3 c4 c5
       go_wp2_with (go_at_call 85;refine (jq _ _ _ _).mono ?_;rintro e wy ⟨rfl,rfl⟩)
       go_ret;exact ⟨by rw [HE.out];rfl,hb⟩
     ·as_aux_lemma =>
      have k4:(col != 0)=true:=Ln.2 h4;have HE:Hid (R=1):=Lh (by rw [HR.out];simp [jL,h0,h1,h2,h3,h4]);clear HR;clear h3 h4
      go_enter func62,ntmps62
      go_upto_region 1 with fail
      refine qa (ChgBox w ⟨2,row,col,count,til,g⟩ A cap) (ChgBox.new w ⟨2,row,col,count,til,g⟩ A cap _) ?_;rintro X ⟨c0,c1,c2,c3,c4,c5,hb,hzX⟩;dsimp only at c0 c1 c2 c3 c4 c5
      go_wp2_with (go_at_call 85;refine (jq _ _ _ _).mono ?_;rintro e wy ⟨rfl,rfl⟩)
      go_ret;exact ⟨by rw [HE.out];rfl,hb⟩
theorem qgO (row col count til:Int) (g:List Gl) (A:Option Addr) (cap:Nat) (w:World):Calls prog 62 #[jH ⟨4,row,col,count,til,g⟩ A cap] w (qh (.int .i64 (vj ⟨4,row,col,count,til,g⟩)) w):=by
 rw [qfB];obtain ⟨R,hR⟩ : ∃ x,x=jL (inB row 0 59&&inB col 0 131&&inB count 0 1) (decide (til=0)&&decide (g.length=0)) false:=⟨_,rfl⟩
 rw [<- hR];have HR:=Lh hR;clear hR
 cases h0:inB row 0 59 with
 | false=>as_aux_lemma =>
  have HE:Hid (R=2):=Lh (by rw [HR.out];simp [jL,h0]);clear HR
  skip
  go_enter func62,ntmps62
  go_upto_region 1 with fail
  refine qa (ChgBox w ⟨4,row,col,count,til,g⟩ A cap) (ChgBox.new w ⟨4,row,col,count,til,g⟩ A cap _) ?_;rintro X ⟨c0,c1,c2,c3,c4,c5,hb,hzX⟩;dsimp only at c0 c1 c2 c3 c4 c5
  go_wp2_with (go_at_call 85;refine (jq _ _ _ _).mono ?_;rintro e wy ⟨rfl,rfl⟩)
  go_ret;exact ⟨by rw [HE.out];rfl,hb⟩
 | true =>
  cases h1:inB col 0 131 with
  | false=>as_aux_lemma =>
   have HE:Hid (R=2):=Lh (by rw [HR.out];simp [jL,h0,h1]);clear HR
   skip
   go_enter func62,ntmps62
   go_upto_region 1 with fail
   refine qa (ChgBox w ⟨4,row,col,count,til,g⟩ A cap) (ChgBox.new w ⟨4,row,col,count,til,g⟩ A cap _) ?_;rintro X ⟨c0,c1,c2,c3,c4,c5,hb,hzX⟩;dsimp only at c0 c1 c2 c3 c4 c5
   go_wp2_with (go_at_call 85;refine (jq _ _ _ _).mono ?_;rintro e wy ⟨rfl,rfl⟩)
   go_ret;exact ⟨by rw [HE.out];rfl,hb⟩
  | true =>
   cases h2:inB count 0 1 with
   | false=>as_aux_lemma =>
    have HE:Hid (R=2):=Lh (by rw [HR.out];simp [jL,h0,h1,h2]);clear HR
    skip
    go_enter func62,ntmps62
    go_upto_region 1 with fail
    refine qa (ChgBox w ⟨4,row,col,count,til,g⟩ A cap) (ChgBox.new w ⟨4,row,col,count,til,g⟩ A cap _) ?_;rintro X ⟨c0,c1,c2,c3,c4,c5,hb,hzX⟩;dsimp only at c0 c1 c2 c3 c4 c5
    go_wp2_with (go_at_call 85;refine (jq _ _ _ _).mono ?_;rintro e wy ⟨rfl,rfl⟩)
    go_ret;exact ⟨by rw [HE.out];rfl,hb⟩
   | true =>
    by_cases h4:til=0
    ·have k4:(til != 0)=false:=by simp [h4]
     by_cases h5:g.length=0
     ·as_aux_lemma =>
      have k5 : ¬ (0:Int)<g.length:=by omega
      have HE:Hid (R=0):=Lh (by rw [HR.out];simp [jL,h0,h1,h2,h4,h5]);clear HR;clear h4 h5
      go_enter func62,ntmps62
      go_upto_region 1 with fail
      refine qa (ChgBox w ⟨4,row,col,count,til,g⟩ A cap) (ChgBox.new w ⟨4,row,col,count,til,g⟩ A cap _) ?_;rintro X ⟨c0,c1,c2,c3,c4,c5,hb,hzX⟩;dsimp only at c0 c1 c2 c3 c4 c5
      go_wp2_with (go_at_call 85;refine (jq _ _ _ _).mono ?_;rintro e wy ⟨rfl,rfl⟩)
      go_ret;exact ⟨by rw [HE.out];rfl,hb⟩
     ·as_aux_lemma =>
      have k5:(0:Int)<g.length:=by omega
      have HE:Hid (R=1):=Lh (by rw [HR.out];simp [jL,h0,h1,h2,h4,h5]);clear HR;clear h4 h5
      go_enter func62,ntmps62
      go_upto_region 1 with fail
      refine qa (ChgBox w ⟨4,row,col,count,til,g⟩ A cap) (ChgBox.new w ⟨4,row,col,count,til,g⟩ A cap _) ?_;rintro X ⟨c0,c1,c2,c3,c4,c5,hb,hzX⟩;dsimp only at c0 c1 c2 c3 c4 c5
      go_wp2_with (go_at_call 85;refine (jq _ _ _ _).mono ?_;rintro e wy ⟨rfl,rfl⟩)
      go_ret;exact ⟨by rw [HE.out];rfl,hb⟩
    ·as_aux_lemma =>
     have k4:(til != 0)=true:=Ln.2 h4;have HE:Hid (R=1):=Lh (by rw [HR.out];simp [jL,h0,h1,h2,h4]);clear HR;clear h4
     go_enter func62,ntmps62
     go_upto_region 1 with fail
     refine qa (ChgBox w ⟨4,row,col,count,til,g⟩ A cap) (ChgBox.new w ⟨4,row,col,count,til,g⟩ A cap _) ?_;rintro X ⟨c0,c1,c2,c3,c4,c5,hb,hzX⟩;dsimp only at c0 c1 c2 c3 c4 c5
     go_wp2_with (go_at_call 85;refine (jq _ _ _ _).mono ?_;rintro e wy ⟨rfl,rfl⟩)
     go_ret;exact ⟨by rw [HE.out];rfl,hb⟩
theorem qfh (row col count til:Int) (g:List Gl) (A:Option Addr) (cap:Nat) (w:World) (B:Nat) (hn:g.length<=1000000000) (rd:Rd w B 3 A g.length (qi g)) (hB:B<=w.heap.size) (hz : ∀ x∈g,x.text.size<=1000000000) :
  Calls prog 62 #[jH ⟨3,row,col,count,til,g⟩ A cap] w (qh (.int .i64 (vj ⟨3,row,col,count,til,g⟩)) w):=by
 rw [qeh];obtain ⟨R,hR⟩ : ∃ x,x=jL (inB row 0 59&&inB col 0 132&&inB count 0 132) (decide (til=0)&&!vA g) (decide (132<g.length)):=⟨_,rfl⟩
 rw [<- hR];have HR:=Lh hR;clear hR
 cases h0:inB row 0 59 with
 | false=>as_aux_lemma =>
  have HE:Hid (R=2):=Lh (by rw [HR.out];simp [jL,h0]);clear HR
  skip
  go_enter func62,ntmps62
  go_upto_region 1 with fail
  refine qa (ChgBox w ⟨3,row,col,count,til,g⟩ A cap) (ChgBox.new w ⟨3,row,col,count,til,g⟩ A cap _) ?_;rintro X ⟨c0,c1,c2,c3,c4,c5,hb,hzX⟩;dsimp only at c0 c1 c2 c3 c4 c5
  go_wp2_with (go_at_call 85;refine (jq _ _ _ _).mono ?_;rintro e wy ⟨rfl,rfl⟩)
  go_ret;exact ⟨by rw [HE.out];rfl,hb⟩
 | true =>
  cases h1:inB col 0 132 with
  | false=>as_aux_lemma =>
   have HE:Hid (R=2):=Lh (by rw [HR.out];simp [jL,h0,h1]);clear HR
   skip
   go_enter func62,ntmps62
   go_upto_region 1 with fail
   refine qa (ChgBox w ⟨3,row,col,count,til,g⟩ A cap) (ChgBox.new w ⟨3,row,col,count,til,g⟩ A cap _) ?_;rintro X ⟨c0,c1,c2,c3,c4,c5,hb,hzX⟩;dsimp only at c0 c1 c2 c3 c4 c5
   go_wp2_with (go_at_call 85;refine (jq _ _ _ _).mono ?_;rintro e wy ⟨rfl,rfl⟩)
   go_ret;exact ⟨by rw [HE.out];rfl,hb⟩
  | true =>
   cases h2:inB count 0 132 with
   | false=>as_aux_lemma =>
    have HE:Hid (R=2):=Lh (by rw [HR.out];simp [jL,h0,h1,h2]);clear HR
    skip
    go_enter func62,ntmps62
    go_upto_region 1 with fail
    refine qa (ChgBox w ⟨3,row,col,count,til,g⟩ A cap) (ChgBox.new w ⟨3,row,col,count,til,g⟩ A cap _) ?_;rintro X ⟨c0,c1,c2,c3,c4,c5,hb,hzX⟩;dsimp only at c0 c1 c2 c3 c4 c5
    go_wp2_with (go_at_call 85;refine (jq _ _ _ _).mono ?_;rintro e wy ⟨rfl,rfl⟩)
    go_ret;exact ⟨by rw [HE.out];rfl,hb⟩
   | true =>
    by_cases h3:132<g.length
    ·as_aux_lemma =>
     have k3:(132:Int)<g.length:=by omega
     have HE:Hid (R=5):=Lh (by rw [HR.out];simp [jL,h0,h1,h2,h3]);clear HR;clear h3
     go_enter func62,ntmps62
     go_upto_region 1 with fail
     refine qa (ChgBox w ⟨3,row,col,count,til,g⟩ A cap) (ChgBox.new w ⟨3,row,col,count,til,g⟩ A cap _) ?_;rintro X ⟨c0,c1,c2,c3,c4,c5,hb,hzX⟩;dsimp only at c0 c1 c2 c3 c4 c5
     go_wp2_with (go_at_call 85;refine (jq _ _ _ _).mono ?_;rintro e wy ⟨rfl,rfl⟩)
     go_ret;exact ⟨by rw [HE.out];rfl,hb⟩
    ·have k3 : ¬ (132:Int)<g.length:=by omega
     by_cases h4:til=0
     ·as_aux_lemma =>
      have HRd:=Lh rd;have HRe:Hid (R=if vA (g.drop 0)=true then 1 else 0):=Lh (by rw [HR.out];simp only [h0,h1,h2,h3,h4,jL,List.drop_zero];cases vA g <;> rfl);have HG:Hid (∀ x∈g,∀ w',Calls prog 57 #[glV x] w' (qh (.int .i64 (qJ x)) w')):=Lh fun x hx w'=>qky x (hz x hx) w'
      clear rd hz HR;have k4:(til != 0)=false:=by simp [h4]
      clear h4
      go_enter func62,ntmps62
      go_upto_region 1 with fail
      refine qa (ChgBox w ⟨3,row,col,count,til,g⟩ A cap) (ChgBox.new w ⟨3,row,col,count,til,g⟩ A cap _) ?_;rintro X ⟨c0,c1,c2,c3,c4,c5,hb,hzX⟩;dsimp only at c0 c1 c2 c3 c4 c5
      go_wp2_with (go_at_call 85;refine (jq _ _ _ _).mono ?_;rintro e wy ⟨rfl,rfl⟩)
      go_loopw [4] (fun x wr=>∃ k:Nat,k<=g.length/\x = .int .i64 k/\ChgBox w ⟨3,row,col,count,til,g⟩ A cap wr/\Hid (R=if vA (g.drop k)=true then 1 else 0)) (fun x _=>g.length-(intOf x).toNat)
      case atStart=>exact ⟨0,Nat.zero_le _,rfl,⟨c0,c1,c2,c3,c4,c5,hb,hzX⟩,HRe⟩
      case round =>
       clear c0 c1 c2 c3 c4 c5 hb hzX;obtain ⟨k,hk,rfl,⟨c0,c1,c2,c3,c4,c5,hb,hzX⟩,HK⟩:=hrel;dsimp only at c0 c1 c2 c3 c4 c5
       by_cases hlt:k<g.length
       ·obtain ⟨b,o,rfl,hbB,g0,g1,g2⟩:=jE (HRd.out.below (hb.mono hB)) hlt rfl;have HD:Hid (vA (g.drop k)=(!qal g[k] || vA (g.drop (k+1)))):=Lh (by rw [Ls hlt];rfl);have HGk:=Lh (HG.out g[k] (Lt hlt));have hvl:qal g[k]=decide (qJ g[k]=0):=rfl;generalize g[k]=y at *
        obtain ⟨t,wd,st⟩:=y;dsimp only at *
        generalize qJ ⟨t,wd,st⟩=K at *
        by_cases hK:K=0
        ·have HR2:Hid (R=if vA (g.drop (k+1))=true then 1 else 0):=Lh (by rw [HK.out,HD.out,hvl,hK];rfl);have hKb:(K != 0)=false:=by simp [hK]
         clear HK HD hvl hK HG HRd
         go_wp2_with (go_at_call 57;refine (HGk.out _).mono ?_;rintro e w1 ⟨rfl,hb1⟩)
         exact ⟨⟨k+1,by omega,by go_num,ChgBox.on ⟨c0,c1,c2,c3,c4,c5,hb,hzX⟩ hb1,HR2⟩,by simp [intOf];omega⟩
        ·have HR2:Hid (R=1):=Lh (by rw [HK.out,HD.out,hvl,Lk hK];rfl);have hKb:(K != 0)=true:=Ln.2 hK;clear HK HD hvl hK HG HRd
         go_wp2_with (go_at_call 57;refine (HGk.out _).mono ?_;rintro e w1 ⟨rfl,hb1⟩)
         go_ret;exact ⟨by rw [HR2.out];rfl,hb.trans (hb1.mono L0)⟩
       ·have HR2:Hid (R=0):=Lh (by rw [HK.out,Lv L0];rfl);go_wp2;go_ret;exact ⟨by rw [HR2.out];rfl,hb⟩
     ·as_aux_lemma =>
      have k4:(til != 0)=true:=Ln.2 h4;have HE:Hid (R=1):=Lh (by rw [HR.out];simp [jL,h0,h1,h2,h3,h4]);clear HR;clear h3 h4
      go_enter func62,ntmps62
      go_upto_region 1 with fail
      refine qa (ChgBox w ⟨3,row,col,count,til,g⟩ A cap) (ChgBox.new w ⟨3,row,col,count,til,g⟩ A cap _) ?_;rintro X ⟨c0,c1,c2,c3,c4,c5,hb,hzX⟩;dsimp only at c0 c1 c2 c3 c4 c5
      go_wp2_with (go_at_call 85;refine (jq _ _ _ _).mono ?_;rintro e wy ⟨rfl,rfl⟩)
      go_ret;exact ⟨by rw [HE.out];rfl,hb⟩
theorem qhC (c:Chg) (A:Option Addr) (cap:Nat) (w:World) (h1:c.kind≠1) (h2:c.kind≠2) (h3:c.kind≠3) (h4:c.kind≠4):Calls prog 62 #[jH c A cap] w (qh (.int .i64 (vj c)) w):=by
 have e:vj c=9:=if_pos L0;rw [e];obtain ⟨kind,row,col,count,til,g⟩:=c;have b1:(kind==1)=false:=Lm.2 h1;have b2:(kind==2)=false:=Lm.2 h2;have b3:(kind==3)=false:=Lm.2 h3;have b4:(kind==4)=false:=Lm.2 h4;clear e h1 h2 h3 h4
 go_enter func62,ntmps62
 go_upto_region 1 with fail
 refine qa (ChgBox w ⟨kind,row,col,count,til,g⟩ A cap) (ChgBox.new w ⟨kind,row,col,count,til,g⟩ A cap _) ?_;rintro X ⟨c0,c1,c2,c3,c4,c5,hb,hzX⟩;dsimp only at c0 c1 c2 c3 c4 c5
 go_wp2_with (go_at_call 85;refine (jq _ _ _ _).mono ?_;rintro e wy ⟨rfl,rfl⟩)
 go_ret;exact ⟨rfl,hb⟩
theorem vchk_ (c:Chg) (A:Option Addr) (cap B:Nat) (w:World) (hn:c.glyphs.length<=1000000000) (rd:Rd w B 3 A c.glyphs.length (qi c.glyphs)) (hB:B<=w.heap.size) (hz : ∀ x∈c.glyphs,x.text.size<=1000000000) :
  Calls prog 62 #[jH c A cap] w (qh (.int .i64 (vj c)) w):=by
 by_cases h1:c.kind=1
 ·obtain ⟨kind,row,col,count,til,g⟩:=c;obtain rfl:kind=1:=h1;exact qhT row col count til g A cap w
 ·by_cases h2:c.kind=2
  ·obtain ⟨kind,row,col,count,til,g⟩:=c;obtain rfl:kind=2:=h2;exact qhF row col count til g A cap w
  ·by_cases h3:c.kind=3
   ·obtain ⟨kind,row,col,count,til,g⟩:=c;obtain rfl:kind=3:=h3;exact qfh row col count til g A cap w B hn rd hB hz
   ·by_cases h4:c.kind=4
    ·obtain ⟨kind,row,col,count,til,g⟩:=c;obtain rfl:kind=4:=h4;exact qgO row col count til g A cap w
    ·exact qhC c A cap w h1 h2 h3 h4
end Go.Proofs.YtggegijlfaipfaaGreatDoor
