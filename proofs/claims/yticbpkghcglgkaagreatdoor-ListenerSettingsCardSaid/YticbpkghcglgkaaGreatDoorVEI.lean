/- Joined: Ur6, UrP, Ur7, Uc4, BdP, GgP, Ur8. -/
import Derived.Test.YticbpkghcglgkaaGreatDoorVEH
set_option linter.unusedVariables false
set_option linter.unusedSimpArgs false
set_option linter.unnecessarySimpa false
set_option maxHeartbeats 4000000
namespace Go.Proofs.YticbpkghcglgkaaGreatDoor
open Go.Proofs.Tryz Go.RowKit
set_option maxRecDepth 20000
def sizP (r:Option (List ByteArray)):Chg × Option (List ByteArray) :=
 (⟨1,(qN (r.bind (skO jS))).1,(qN ((qN (r.bind (skO jS))).2.bind (skO kv))).1,0,0,[]⟩,(qN ((qN (r.bind (skO jS))).2.bind (skO kv))).2.bind (skO jl))
def qc2 (x:Int × Option (List ByteArray)):Option (List ByteArray):=if x.1<0 then none else x.2
def scrP (r:Option (List ByteArray)):Chg × Option (List ByteArray) :=
 if qX (qN ((qN ((r.bind (skO q8)).bind (skO qI))).2.bind (skO bTo))).2 jj=true then
  (⟨2,(qN ((r.bind (skO q8)).bind (skO qI))).1-1,0,-(qN ((qN ((qN ((r.bind (skO q8)).bind (skO qI))).2.bind (skO bTo))).2.bind (skO jj))).1,(qN ((qN ((r.bind (skO q8)).bind (skO qI))).2.bind (skO bTo))).1,[]⟩,qc2 (qN ((qN ((qN ((r.bind (skO q8)).bind (skO qI))).2.bind (skO bTo))).2.bind (skO jj))))
 else
  (⟨2,(qN ((r.bind (skO q8)).bind (skO qI))).1-1,0,(qN ((qN ((qN ((r.bind (skO q8)).bind (skO qI))).2.bind (skO bTo))).2.bind (skO bUp))).1,(qN ((qN ((r.bind (skO q8)).bind (skO qI))).2.bind (skO bTo))).1,[]⟩,qc2 (qN ((qN ((qN ((r.bind (skO q8)).bind (skO qI))).2.bind (skO bTo))).2.bind (skO bUp))))
def curP (r:Option (List ByteArray)):Chg × Option (List ByteArray) :=
 if qX (qN ((qN ((r.bind (skO q7)).bind (skO qI))).2.bind (skO qO))).2 ze=true then
  (⟨4,(qN ((r.bind (skO q7)).bind (skO qI))).1-1,(qN ((qN ((r.bind (skO q7)).bind (skO qI))).2.bind (skO qO))).1-1,1,0,[]⟩,(qN ((qN ((r.bind (skO q7)).bind (skO qI))).2.bind (skO qO))).2.bind (skO ze))
 else
  (⟨4,(qN ((r.bind (skO q7)).bind (skO qI))).1-1,(qN ((qN ((r.bind (skO q7)).bind (skO qI))).2.bind (skO qO))).1-1,0,0,[]⟩,(qN ((qN ((r.bind (skO q7)).bind (skO qI))).2.bind (skO qO))).2.bind (skO zK))
def chgP (r:Option (List ByteArray)):Chg × Option (List ByteArray) :=
 if qX r jS=true then sizP r
 else if qX r q8=true then scrP r
 else if qX r qI=true then qbN r
 else if qX r q7=true then curP r
 else (⟨0,0,0,0,0,[]⟩,none)
def SplE (w:World) (B:Nat) (c:Chg) (r:Option (List ByteArray)) (e:Ending) (w':World):Prop:=∃ Ag cap A n cc l bad,e = .returned (.tuple #[.agg #[.int .i64 c.kind,.int .i64 c.row,.int .i64 c.col,.int .i64 c.count,.int .i64 c.til,.slice Ag c.glyphs.length cap],.agg #[.slice A n cc,.bool bad]])/\r=y7 bad l/\WdR w' B l A n cc/\Below w.heap.size w w'/\w'.ownsRow w.heap.size 86 3 (.slice Ag c.glyphs.length cap) c.glyphs.length (qi c.glyphs)
theorem CRet.spl {w w':World} {B:Nat} {c:Chg} {r:Option (List ByteArray)} {e:Ending} (h:CRet w B c r e w'):SplE w B c r e w':=by
 obtain ⟨Ag,cap,v,rfl,⟨A,n,cc,l,bad,rfl,hW,hr⟩,hb,ho⟩:=h
 exact ⟨Ag,cap,A,n,cc,l,bad,rfl,hr,hW,hb,ho⟩
theorem uchange_ (l:List ByteArray) (A:Option Addr) (n c:Nat) (w:World) (B:Nat) (hW:WdR w B l A n c) (hB:B<=w.heap.size) (hl:l.length<=400000) (hs:Sp w) (hu:U8 w) (hy:Sty w) :
  Calls prog 47 #[.agg #[.slice A n c,.bool false]] w (CRet w B (chgP (some l)).1 (chgP (some l)).2):=by
 obtain ⟨R,hR⟩ : ∃ x,Hid (x=chgP (some l)):=⟨_,Lh rfl⟩
 rw [<- hR.out]
 have HSp:Hid (∀ X A n c,Below w.heap.size w X->WdR X B l A n c->Calls prog 75 #[.agg #[.slice A n c,.bool false]] X (SplE X B (qbN (some l)).1 (qbN (some l)).2)):=Lh fun X A n c hb hW'=>(usplice_ l A n c X B hW' (Nat.le_trans hB hb.size) hl (hs.below hb (Nat.le_refl _)) (hu.below hb) (hy.below hb (Nat.le_refl _))).mono fun _ _ h=>h.spl
 have hX:=CS.start 0 hW hB
 clear hW hl hs hu hy
 go_enter func47,ntmps47
 go_upto_block 0 with fail
 refine qa (CS w B (some l) ⟨0,0,0,0,0,[]⟩ none 0) hX ?_
 clear hX
 intro X hX
 obtain ⟨s1,hs1⟩ : ∃ b,Hid (b=qX (some l) jS):=⟨_,Lh rfl⟩
 obtain ⟨A',n',c',bad',c0,c1,HN0⟩:=CS.nx_ hX hB jS
 have HN:=Lh HN0
 clear HN0
 rw [<- hs1.out] at HN
 go_upto_if 5 with (go_at_call 46;refine HN.out.mono ?_;rintro e w1 ⟨rfl,hY⟩)
 refine qa (CS w B (some l) ⟨0,0,0,0,0,[]⟩ none 0) hY ?_
 clear hY hX HN c0 c1
 intro X hX
 cases s1 with
 | true =>
  have HR2:Hid (R=sizP (some l)):=Lh (by rw [hR.out,chgP,<- hs1.out];rfl)
  clear hR hs1 HSp
  obtain ⟨x,hx⟩ : ∃ x,Hid (x=qN ((some l).bind (skO jS))):=⟨_,Lh rfl⟩
  obtain ⟨y,hy⟩ : ∃ y,Hid (y=qN (x.2.bind (skO kv))):=⟨_,Lh rfl⟩
  have HR3:Hid (R.1=⟨1,x.1,y.1,0,0,[]⟩/\R.2=y.2.bind (skO jl)):=Lh (by rw [HR2.out,hy.out,hx.out];exact ⟨rfl,rfl⟩)
  clear HR2
  obtain ⟨A',n',c',l',bad',hr',hW,R1,R2,R3,R4,tx,hO⟩:=id hX
  obtain ⟨c0,c1,f0,f1⟩:=vN R1
  obtain ⟨k0,k1,k2,k3,k4,k5,p0,p1,p2,p3,p4,p5⟩:=qV R4
  dsimp only at k0 k1 k2 k3 k4 k5
  go_upto_region 4 with fail
  refine qa (CS w B (some l) ⟨1,0,0,0,0,[]⟩ none 0) (hX.set_ hB 0 1 (by decide)) ?_
  clear hX
  clear c0 c1 f0 f1 k0 k1 k2 k3 k4 k5 p0 p1 p2 p3 p4 p5 hr' hW R1 R2 R3 R4 tx hO
  intro X hX
  obtain ⟨A',n',c',bad',c0,c1,HA0⟩:=CS.af_ hX hB jS 1 (by decide) hx
  have HA:=Lh HA0
  clear HA0
  go_upto_region 5 with (go_at_call 73;refine HA.out.mono ?_;rintro e w1 ⟨A1,n1,cc1,bad1,v1,rfl,d0,d1,f0,f1,k0,p0,hY⟩)
  refine qa (CS w B x.2 ⟨1,x.1,0,0,0,[]⟩ none 0) hY ?_
  clear hY hX HA c0 c1 d0 d1 f0 f1 k0 p0
  intro X hX
  obtain ⟨A',n',c',bad',c0,c1,HA0⟩:=CS.af_ hX hB kv 2 (by decide) hy
  have HA:=Lh HA0
  clear HA0
  go_upto_region 6 with (go_at_call 73;refine HA.out.mono ?_;rintro e w1 ⟨A1,n1,cc1,bad1,v1,rfl,d0,d1,f0,f1,k0,p0,hY⟩)
  refine qa (CS w B y.2 ⟨1,x.1,y.1,0,0,[]⟩ none 0) hY ?_
  clear hY hX HA c0 c1 d0 d1 f0 f1 k0 p0
  intro X hX
  obtain ⟨A',n',c',l',bad',hr',hW,R1,R2,R3,R4,tx,hO⟩:=id hX
  obtain ⟨c0,c1,f0,f1⟩:=vN R1
  obtain ⟨k0,k1,k2,k3,k4,k5,p0,p1,p2,p3,p4,p5⟩:=qV R4
  dsimp only at k0 k1 k2 k3 k4 k5
  obtain ⟨o0,o1,o2,o3,o4,o5,q0,q1,q2,q3,q4,q5⟩:=qV R2
  obtain ⟨m0,m1,v0,v1⟩:=vN R3
  dsimp only at o0 o1 o2 o3 o4 o5
  have HK:=Lh (qev y.2 (.agg #[.slice A' n' c',.bool bad']) jl B X.drew ⟨A',n',c',l',bad',rfl,hW.below (Below.refl _ _).drew,hr'⟩ (Nat.le_trans hB tx.drew.size))
  have z0:=R1.lt
  have z1:=R2.lt
  have z2:=R3.lt
  have z3:=R4.lt
  go_region_law (go_simp;go_at_call 74;refine HK.out.mono ?_;rintro e w1 ⟨A1,n1,cc1,l1,bad1,rfl,hW1,hr1,hb1⟩;have hY:=(hX.drew hB).below hB hb1;clear o0 o1 o2 o3 o4 o5 q0 q1 q2 q3 q4 q5 m0 m1 v0 v1;clear c0 c1 f0 f1 k0 k1 k2 k3 k4 k5 p0 p1 p2 p3 p4 p5 hr' hW R1 R2 R3 R4 tx hO;(obtain ⟨A',n',c',l',bad',hr',hW,R1,R2,R3,R4,tx,hO⟩:=id hY;obtain ⟨c0,c1,f0,f1⟩:=vN R1;obtain ⟨k0,k1,k2,k3,k4,k5,p0,p1,p2,p3,p4,p5⟩:=qV R4;dsimp only at k0 k1 k2 k3 k4 k5);(obtain ⟨o0,o1,o2,o3,o4,o5,q0,q1,q2,q3,q4,q5⟩:=qV R2;obtain ⟨m0,m1,v0,v1⟩:=vN R3;dsimp only at o0 o1 o2 o3 o4 o5))
  all_goals go_wp2
  all_goals have HF:=Lh (fin_ (c:=⟨1,x.1,y.1,0,0,[]⟩) hB hr1 hW1 R2 R3 tx hO)
  all_goals rw [HR3.out.1,HR3.out.2]
  all_goals exact bodyPost_ret (jg rfl _ _ (w.heap.size+1) (w.heap.size+2) 64 92 _ _ (0,0) (0,0) _ _ rfl HF.out.1 underlying64 rfl yo rfl HF.out.2.1 underlying92 rfl zG) rfl ⟨_,_,_,rfl,HF.out.2.2.1,HF.out.2.2.2.1,HF.out.2.2.2.2⟩
 | false =>
  have hR2:Hid (R=if qX (some l) q8=true then scrP (some l) else if qX (some l) qI=true then qbN (some l) else if qX (some l) q7=true then curP (some l) else (⟨0,0,0,0,0,[]⟩,none)):=Lh (by rw [hR.out,chgP,<- hs1.out];rfl)
  clear hR hs1
  obtain ⟨s2,hs2⟩ : ∃ b,Hid (b=qX (some l) q8):=⟨_,Lh rfl⟩
  obtain ⟨A',n',c',bad',c0,c1,HN0⟩:=CS.nx_ hX hB q8
  have HN:=Lh HN0
  clear HN0
  rw [<- hs2.out] at HN
  go_upto_if 27 with (go_at_call 46;refine HN.out.mono ?_;rintro e w1 ⟨rfl,hY⟩)
  refine qa (CS w B (some l) ⟨0,0,0,0,0,[]⟩ none 0) hY ?_
  clear hY hX HN c0 c1
  intro X hX
  cases s2 with
  | true =>
   have HR2:Hid (R=scrP (some l)):=Lh (by rw [hR2.out,<- hs2.out];rfl)
   clear hR2 hs2 HSp
   obtain ⟨x,hx⟩ : ∃ x,Hid (x=qN (((some l).bind (skO q8)).bind (skO qI))):=⟨_,Lh rfl⟩
   obtain ⟨y,hy⟩ : ∃ y,Hid (y=qN (x.2.bind (skO bTo))):=⟨_,Lh rfl⟩
   have HR3:Hid (R=if qX y.2 jj=true then (⟨2,x.1-1,0,-(qN (y.2.bind (skO jj))).1,y.1,[]⟩,qc2 (qN (y.2.bind (skO jj)))) else (⟨2,x.1-1,0,(qN (y.2.bind (skO bUp))).1,y.1,[]⟩,qc2 (qN (y.2.bind (skO bUp))))):=Lh (by rw [HR2.out,hy.out,hx.out];rfl)
   clear HR2
   have hxr : -999999999<=x.1/\x.1<=999999999:=by rw [hx.out];exact kd _
   have e1:IntKind.i64.wrap (x.1-1)=x.1-1:=by rw [IntKind.wrap_i64];omega
   obtain ⟨A',n',c',l',bad',hr',hW,R1,R2,R3,R4,tx,hO⟩:=id hX
   obtain ⟨c0,c1,f0,f1⟩:=vN R1
   obtain ⟨k0,k1,k2,k3,k4,k5,p0,p1,p2,p3,p4,p5⟩:=qV R4
   dsimp only at k0 k1 k2 k3 k4 k5
   go_upto_region 9 with fail
   refine qa (CS w B (some l) ⟨2,0,0,0,0,[]⟩ none 0) (hX.set_ hB 0 2 (by decide)) ?_
   clear hX
   clear c0 c1 f0 f1 k0 k1 k2 k3 k4 k5 p0 p1 p2 p3 p4 p5 hr' hW R1 R2 R3 R4 tx hO
   intro X hX
   obtain ⟨A',n',c',bad',c0,c1,HA0⟩:=CS.af2_ hX hB q8 qI 1 (by decide) hx
   have HA:=Lh HA0
   clear HA0
   go_upto_region 10 with (go_at_call 73;refine HA.out.mono ?_;rintro e w1 ⟨A1,n1,cc1,bad1,v1,rfl,d0,d1,f0,f1,k0,p0,hY⟩)
   refine qa (CS w B x.2 ⟨2,x.1,0,0,0,[]⟩ none 0) hY ?_
   clear hY hX HA c0 c1 d0 d1 f0 f1 k0 p0
   intro X hX
   obtain ⟨A',n',c',bad',c0,c1,HA0⟩:=CS.af_ hX hB bTo 4 (by decide) hy
   have HA:=Lh HA0
   clear HA0
   go_upto_region 11 with (go_at_call 73;refine HA.out.mono ?_;rintro e w1 ⟨A1,n1,cc1,bad1,v1,rfl,d0,d1,f0,f1,k0,p0,hY⟩)
   refine qa (CS w B y.2 ⟨2,x.1,0,0,y.1,[]⟩ none 0) hY ?_
   clear hY hX HA c0 c1 d0 d1 f0 f1 k0 p0
   intro X hX
   obtain ⟨A',n',c',l',bad',hr',hW,R1,R2,R3,R4,tx,hO⟩:=id hX
   obtain ⟨c0,c1,f0,f1⟩:=vN R1
   obtain ⟨k0,k1,k2,k3,k4,k5,p0,p1,p2,p3,p4,p5⟩:=qV R4
   dsimp only at k0 k1 k2 k3 k4 k5
   go_upto_region 12 with fail
   refine qa (CS w B y.2 ⟨2,x.1-1,0,0,y.1,[]⟩ none 0) (hX.set_ hB 1 (x.1-1) (by decide)) ?_
   clear hX
   clear c0 c1 f0 f1 k0 k1 k2 k3 k4 k5 p0 p1 p2 p3 p4 p5 hr' hW R1 R2 R3 R4 tx hO
   intro X hX
   clear hx hy hxr
   obtain ⟨xn,xr⟩:=x
   obtain ⟨yn,yr⟩:=y
   simp only at e1 hX HR3
   generalize xn-1=Row at *
   obtain ⟨s3,hs3⟩ : ∃ b,Hid (b=qX yr jj):=⟨_,Lh rfl⟩
   obtain ⟨A',n',c',bad',c0,c1,HN0⟩:=CS.nx_ hX hB jj
   have HN:=Lh HN0
   clear HN0
   rw [<- hs3.out] at HN
   go_upto_if 50 with (go_at_call 46;refine HN.out.mono ?_;rintro e w1 ⟨rfl,hY⟩)
   refine qa (CS w B yr ⟨2,Row,0,0,yn,[]⟩ none 0) hY ?_
   clear hY hX HN c0 c1
   intro X hX
   cases s3 with
   | true =>
    obtain ⟨u,hu⟩ : ∃ u,Hid (u=qN (yr.bind (skO jj))):=⟨_,Lh rfl⟩
    have HR4:Hid (R=(⟨2,Row,0,-u.1,yn,[]⟩,qc2 u)):=Lh (by rw [HR3.out,<- hs3.out,hu.out];rfl)
    have hur : -999999999<=u.1/\u.1<=999999999:=by rw [hu.out];exact kd _
    have e2:IntKind.i64.wrap (-u.1) = -u.1:=by rw [IntKind.wrap_i64];omega
    clear HR3 hs3
    obtain ⟨A',n',c',bad',c0,c1,HA0⟩:=CS.af_ hX hB jj 3 (by decide) hu
    have HA:=Lh HA0
    clear HA0
    go_upto_region 14 with (go_at_call 73;refine HA.out.mono ?_;rintro e w1 ⟨A1,n1,cc1,bad1,v1,rfl,d0,d1,f0,f1,k0,p0,hY⟩)
    refine qa (CS w B u.2 ⟨2,Row,0,u.1,yn,[]⟩ none 0) hY ?_
    clear hY hX HA c0 c1 d0 d1 f0 f1 k0 p0
    intro X hX
    clear hu hur
    obtain ⟨un,ur⟩:=u
    simp only at e2 hX HR4
    by_cases hlt:un<0
    ·have HR3:Hid (R.1=⟨2,Row,0,-un,yn,[]⟩/\R.2=none):=Lh (by rw [HR4.out,qc2,if_pos hlt];exact ⟨rfl,rfl⟩)
     clear HR4
     obtain ⟨A',n',c',l',bad',hr',hW,R1,R2,R3,R4,tx,hO⟩:=id hX
     obtain ⟨c0,c1,f0,f1⟩:=vN R1
     obtain ⟨k0,k1,k2,k3,k4,k5,p0,p1,p2,p3,p4,p5⟩:=qV R4
     dsimp only at k0 k1 k2 k3 k4 k5
     go_upto_region 16 with fail
     refine qa (CS w B none ⟨2,Row,0,un,yn,[]⟩ none 0) (hX.spoil hB) ?_
     clear hX
     clear c0 c1 f0 f1 k0 k1 k2 k3 k4 k5 p0 p1 p2 p3 p4 p5 hr' hW R1 R2 R3 R4 tx hO
     intro X hX
     obtain ⟨A',n',c',l',bad',hr',hW,R1,R2,R3,R4,tx,hO⟩:=id hX
     obtain ⟨c0,c1,f0,f1⟩:=vN R1
     obtain ⟨k0,k1,k2,k3,k4,k5,p0,p1,p2,p3,p4,p5⟩:=qV R4
     dsimp only at k0 k1 k2 k3 k4 k5
     go_upto_region 17 with fail
     refine qa (CS w B none ⟨2,Row,0,-un,yn,[]⟩ none 0) (hX.set_ hB 3 (-un) (by decide)) ?_
     clear hX
     clear c0 c1 f0 f1 k0 k1 k2 k3 k4 k5 p0 p1 p2 p3 p4 p5 hr' hW R1 R2 R3 R4 tx hO
     intro X hX
     obtain ⟨A',n',c',l',bad',hr',hW,R1,R2,R3,R4,tx,hO⟩:=id hX
     obtain ⟨c0,c1,f0,f1⟩:=vN R1
     obtain ⟨k0,k1,k2,k3,k4,k5,p0,p1,p2,p3,p4,p5⟩:=qV R4
     dsimp only at k0 k1 k2 k3 k4 k5
     obtain ⟨o0,o1,o2,o3,o4,o5,q0,q1,q2,q3,q4,q5⟩:=qV R2
     obtain ⟨m0,m1,v0,v1⟩:=vN R3
     dsimp only at o0 o1 o2 o3 o4 o5
     have HF:=Lh (qaV (c:=⟨2,Row,0,-un,yn,[]⟩) hB hr' hW R2 R3 tx hO)
     go_region_law (fail)
     all_goals go_wp2
     all_goals rw [HR3.out.1,HR3.out.2]
     all_goals exact bodyPost_ret (jg rfl _ _ (w.heap.size+1) (w.heap.size+2) 64 92 _ _ (0,0) (0,0) _ _ rfl HF.out.1 underlying64 rfl yo rfl HF.out.2.1 underlying92 rfl zG) rfl ⟨_,_,_,rfl,HF.out.2.2.1,HF.out.2.2.2.1,HF.out.2.2.2.2⟩
    ·have HR3:Hid (R.1=⟨2,Row,0,-un,yn,[]⟩/\R.2=ur):=Lh (by rw [HR4.out,qc2,if_neg (by omega)];exact ⟨rfl,rfl⟩)
     clear HR4
     obtain ⟨A',n',c',l',bad',hr',hW,R1,R2,R3,R4,tx,hO⟩:=id hX
     obtain ⟨c0,c1,f0,f1⟩:=vN R1
     obtain ⟨k0,k1,k2,k3,k4,k5,p0,p1,p2,p3,p4,p5⟩:=qV R4
     dsimp only at k0 k1 k2 k3 k4 k5
     go_upto_region 16 with fail
     refine qa (CS w B ur ⟨2,Row,0,un,yn,[]⟩ none 0) (hX) ?_
     clear hX
     clear c0 c1 f0 f1 k0 k1 k2 k3 k4 k5 p0 p1 p2 p3 p4 p5 hr' hW R1 R2 R3 R4 tx hO
     intro X hX
     obtain ⟨A',n',c',l',bad',hr',hW,R1,R2,R3,R4,tx,hO⟩:=id hX
     obtain ⟨c0,c1,f0,f1⟩:=vN R1
     obtain ⟨k0,k1,k2,k3,k4,k5,p0,p1,p2,p3,p4,p5⟩:=qV R4
     dsimp only at k0 k1 k2 k3 k4 k5
     go_upto_region 17 with fail
     refine qa (CS w B ur ⟨2,Row,0,-un,yn,[]⟩ none 0) (hX.set_ hB 3 (-un) (by decide)) ?_
     clear hX
     clear c0 c1 f0 f1 k0 k1 k2 k3 k4 k5 p0 p1 p2 p3 p4 p5 hr' hW R1 R2 R3 R4 tx hO
     intro X hX
     obtain ⟨A',n',c',l',bad',hr',hW,R1,R2,R3,R4,tx,hO⟩:=id hX
     obtain ⟨c0,c1,f0,f1⟩:=vN R1
     obtain ⟨k0,k1,k2,k3,k4,k5,p0,p1,p2,p3,p4,p5⟩:=qV R4
     dsimp only at k0 k1 k2 k3 k4 k5
     obtain ⟨o0,o1,o2,o3,o4,o5,q0,q1,q2,q3,q4,q5⟩:=qV R2
     obtain ⟨m0,m1,v0,v1⟩:=vN R3
     dsimp only at o0 o1 o2 o3 o4 o5
     have HF:=Lh (qaV (c:=⟨2,Row,0,-un,yn,[]⟩) hB hr' hW R2 R3 tx hO)
     go_region_law (fail)
     all_goals go_wp2
     all_goals rw [HR3.out.1,HR3.out.2]
     all_goals exact bodyPost_ret (jg rfl _ _ (w.heap.size+1) (w.heap.size+2) 64 92 _ _ (0,0) (0,0) _ _ rfl HF.out.1 underlying64 rfl yo rfl HF.out.2.1 underlying92 rfl zG) rfl ⟨_,_,_,rfl,HF.out.2.2.1,HF.out.2.2.2.1,HF.out.2.2.2.2⟩
   | false =>
    obtain ⟨u,hu⟩ : ∃ u,Hid (u=qN (yr.bind (skO bUp))):=⟨_,Lh rfl⟩
    have HR4:Hid (R=(⟨2,Row,0,u.1,yn,[]⟩,qc2 u)):=Lh (by rw [HR3.out,<- hs3.out,hu.out];rfl)
    clear HR3 hs3
    go_upto_region 18 with fail
    obtain ⟨A',n',c',bad',c0,c1,HA0⟩:=CS.af_ hX hB bUp 3 (by decide) hu
    have HA:=Lh HA0
    clear HA0
    go_upto_region 19 with (go_at_call 73;refine HA.out.mono ?_;rintro e w1 ⟨A1,n1,cc1,bad1,v1,rfl,d0,d1,f0,f1,k0,p0,hY⟩)
    refine qa (CS w B u.2 ⟨2,Row,0,u.1,yn,[]⟩ none 0) hY ?_
    clear hY hX HA c0 c1 d0 d1 f0 f1 k0 p0
    intro X hX
    clear hu
    obtain ⟨un,ur⟩:=u
    simp only at hX HR4
    by_cases hlt:un<0
    ·have HR3:Hid (R.1=⟨2,Row,0,un,yn,[]⟩/\R.2=none):=Lh (by rw [HR4.out,qc2,if_pos hlt];exact ⟨rfl,rfl⟩)
     clear HR4
     obtain ⟨A',n',c',l',bad',hr',hW,R1,R2,R3,R4,tx,hO⟩:=id hX
     obtain ⟨c0,c1,f0,f1⟩:=vN R1
     obtain ⟨k0,k1,k2,k3,k4,k5,p0,p1,p2,p3,p4,p5⟩:=qV R4
     dsimp only at k0 k1 k2 k3 k4 k5
     go_upto_region 21 with fail
     refine qa (CS w B none ⟨2,Row,0,un,yn,[]⟩ none 0) (hX.spoil hB) ?_
     clear hX
     clear c0 c1 f0 f1 k0 k1 k2 k3 k4 k5 p0 p1 p2 p3 p4 p5 hr' hW R1 R2 R3 R4 tx hO
     intro X hX
     obtain ⟨A',n',c',l',bad',hr',hW,R1,R2,R3,R4,tx,hO⟩:=id hX
     obtain ⟨c0,c1,f0,f1⟩:=vN R1
     obtain ⟨k0,k1,k2,k3,k4,k5,p0,p1,p2,p3,p4,p5⟩:=qV R4
     dsimp only at k0 k1 k2 k3 k4 k5
     obtain ⟨o0,o1,o2,o3,o4,o5,q0,q1,q2,q3,q4,q5⟩:=qV R2
     obtain ⟨m0,m1,v0,v1⟩:=vN R3
     dsimp only at o0 o1 o2 o3 o4 o5
     have HF:=Lh (qaV (c:=⟨2,Row,0,un,yn,[]⟩) hB hr' hW R2 R3 tx hO)
     go_region_law (fail)
     all_goals go_wp2
     all_goals rw [HR3.out.1,HR3.out.2]
     all_goals exact bodyPost_ret (jg rfl _ _ (w.heap.size+1) (w.heap.size+2) 64 92 _ _ (0,0) (0,0) _ _ rfl HF.out.1 underlying64 rfl yo rfl HF.out.2.1 underlying92 rfl zG) rfl ⟨_,_,_,rfl,HF.out.2.2.1,HF.out.2.2.2.1,HF.out.2.2.2.2⟩
    ·have HR3:Hid (R.1=⟨2,Row,0,un,yn,[]⟩/\R.2=ur):=Lh (by rw [HR4.out,qc2,if_neg (by omega)];exact ⟨rfl,rfl⟩)
     clear HR4
     obtain ⟨A',n',c',l',bad',hr',hW,R1,R2,R3,R4,tx,hO⟩:=id hX
     obtain ⟨c0,c1,f0,f1⟩:=vN R1
     obtain ⟨k0,k1,k2,k3,k4,k5,p0,p1,p2,p3,p4,p5⟩:=qV R4
     dsimp only at k0 k1 k2 k3 k4 k5
     go_upto_region 21 with fail
     refine qa (CS w B ur ⟨2,Row,0,un,yn,[]⟩ none 0) (hX) ?_
     clear hX
     clear c0 c1 f0 f1 k0 k1 k2 k3 k4 k5 p0 p1 p2 p3 p4 p5 hr' hW R1 R2 R3 R4 tx hO
     intro X hX
     obtain ⟨A',n',c',l',bad',hr',hW,R1,R2,R3,R4,tx,hO⟩:=id hX
     obtain ⟨c0,c1,f0,f1⟩:=vN R1
     obtain ⟨k0,k1,k2,k3,k4,k5,p0,p1,p2,p3,p4,p5⟩:=qV R4
     dsimp only at k0 k1 k2 k3 k4 k5
     obtain ⟨o0,o1,o2,o3,o4,o5,q0,q1,q2,q3,q4,q5⟩:=qV R2
     obtain ⟨m0,m1,v0,v1⟩:=vN R3
     dsimp only at o0 o1 o2 o3 o4 o5
     have HF:=Lh (qaV (c:=⟨2,Row,0,un,yn,[]⟩) hB hr' hW R2 R3 tx hO)
     go_region_law (fail)
     all_goals go_wp2
     all_goals rw [HR3.out.1,HR3.out.2]
     all_goals exact bodyPost_ret (jg rfl _ _ (w.heap.size+1) (w.heap.size+2) 64 92 _ _ (0,0) (0,0) _ _ rfl HF.out.1 underlying64 rfl yo rfl HF.out.2.1 underlying92 rfl zG) rfl ⟨_,_,_,rfl,HF.out.2.2.1,HF.out.2.2.2.1,HF.out.2.2.2.2⟩
  | false =>
   have hR:Hid (R=if qX (some l) qI=true then qbN (some l) else if qX (some l) q7=true then curP (some l) else (⟨0,0,0,0,0,[]⟩,none)):=Lh (by rw [hR2.out,<- hs2.out];rfl)
   clear hR2 hs2
   obtain ⟨s3,hs3⟩ : ∃ b,Hid (b=qX (some l) qI):=⟨_,Lh rfl⟩
   obtain ⟨A',n',c',bad',c0,c1,HN0⟩:=CS.nx_ hX hB qI
   have HN:=Lh HN0
   clear HN0
   rw [<- hs3.out] at HN
   go_upto_if 81 with (go_at_call 46;refine HN.out.mono ?_;rintro e w1 ⟨rfl,hY⟩)
   refine qa (CS w B (some l) ⟨0,0,0,0,0,[]⟩ none 0) hY ?_
   clear hY hX HN c0 c1
   intro X hX
   cases s3 with
   | true =>
    have HR2:Hid (R=qbN (some l)):=Lh (by rw [hR.out,<- hs3.out];rfl)
    clear hR hs3
    have HR3:Hid (R.1=(qbN (some l)).1/\R.2=(qbN (some l)).2):=Lh (by rw [HR2.out];exact ⟨rfl,rfl⟩)
    clear HR2
    generalize qbN (some l)=SP at *
    obtain ⟨A',n',c',l',bad',hr',hW,R1,R2,R3,R4,tx,hO⟩:=id hX
    obtain ⟨c0,c1,f0,f1⟩:=vN R1
    obtain ⟨k0,k1,k2,k3,k4,k5,p0,p1,p2,p3,p4,p5⟩:=qV R4
    dsimp only at k0 k1 k2 k3 k4 k5
    obtain ⟨o0,o1,o2,o3,o4,o5,q0,q1,q2,q3,q4,q5⟩:=qV R2
    obtain ⟨m0,m1,v0,v1⟩:=vN R3
    dsimp only at o0 o1 o2 o3 o4 o5
    cases bad' with
    | true=>cases hr'
    | false =>
     obtain rfl:l=l':=by cases hr';rfl
     have hxs:=hX.size
     go_wp2_with (go_at_call 75;refine (HSp.out X A' n' c' tx hW).mono ?_;rintro e w1 ⟨Ag,cap,A1,n1,cc1,l1,bad1,rfl,hr1,hW1,hb1,ho1⟩;have hY:=hX.below hB hb1;clear o0 o1 o2 o3 o4 o5 q0 q1 q2 q3 q4 q5 m0 m1 v0 v1;clear c0 c1 f0 f1 k0 k1 k2 k3 k4 k5 p0 p1 p2 p3 p4 p5 hr' hW R1 R2 R3 R4 tx hO;(obtain ⟨A',n',c',l',bad',hr',hW,R1,R2,R3,R4,tx,hO⟩:=id hY;obtain ⟨c0,c1,f0,f1⟩:=vN R1;obtain ⟨k0,k1,k2,k3,k4,k5,p0,p1,p2,p3,p4,p5⟩:=qV R4;dsimp only at k0 k1 k2 k3 k4 k5);(obtain ⟨o0,o1,o2,o3,o4,o5,q0,q1,q2,q3,q4,q5⟩:=qV R2;obtain ⟨m0,m1,v0,v1⟩:=vN R3;dsimp only at o0 o1 o2 o3 o4 o5))
     have HF:=Lh (fin_ (c:=SP.1) hB hr1 hW1 R2 R3 tx (qt ho1 (by omega)))
     all_goals rw [HR3.out.1,HR3.out.2]
     all_goals exact bodyPost_ret (jg rfl _ _ (w.heap.size+1) (w.heap.size+2) 64 92 _ _ (0,0) (0,0) _ _ rfl HF.out.1 underlying64 rfl yo rfl HF.out.2.1 underlying92 rfl zG) rfl ⟨_,_,_,rfl,HF.out.2.2.1,HF.out.2.2.2.1,HF.out.2.2.2.2⟩
   | false =>
    have hR2:Hid (R=if qX (some l) q7=true then curP (some l) else (⟨0,0,0,0,0,[]⟩,none)):=Lh (by rw [hR.out,<- hs3.out];rfl)
    clear hR hs3 HSp
    obtain ⟨s4,hs4⟩ : ∃ b,Hid (b=qX (some l) q7):=⟨_,Lh rfl⟩
    obtain ⟨A',n',c',bad',c0,c1,HN0⟩:=CS.nx_ hX hB q7
    have HN:=Lh HN0
    clear HN0
    rw [<- hs4.out] at HN
    go_upto_if 88 with (go_at_call 46;refine HN.out.mono ?_;rintro e w1 ⟨rfl,hY⟩)
    refine qa (CS w B (some l) ⟨0,0,0,0,0,[]⟩ none 0) hY ?_
    clear hY hX HN c0 c1
    intro X hX
    cases s4 with
    | true =>
     have HR2:Hid (R=curP (some l)):=Lh (by rw [hR2.out,<- hs4.out];rfl)
     clear hR2 hs4
     obtain ⟨x,hx⟩ : ∃ x,Hid (x=qN (((some l).bind (skO q7)).bind (skO qI))):=⟨_,Lh rfl⟩
     obtain ⟨y,hy⟩ : ∃ y,Hid (y=qN (x.2.bind (skO qO))):=⟨_,Lh rfl⟩
     have HR3:Hid (R=if qX y.2 ze=true then (⟨4,x.1-1,y.1-1,1,0,[]⟩,y.2.bind (skO ze)) else (⟨4,x.1-1,y.1-1,0,0,[]⟩,y.2.bind (skO zK))):=Lh (by rw [HR2.out,hy.out,hx.out];rfl)
     clear HR2
     have hxr : -999999999<=x.1/\x.1<=999999999:=by rw [hx.out];exact kd _
     have hyr : -999999999<=y.1/\y.1<=999999999:=by rw [hy.out];exact kd _
     have e1:IntKind.i64.wrap (x.1-1)=x.1-1:=by rw [IntKind.wrap_i64];omega
     have e2:IntKind.i64.wrap (y.1-1)=y.1-1:=by rw [IntKind.wrap_i64];omega
     obtain ⟨A',n',c',l',bad',hr',hW,R1,R2,R3,R4,tx,hO⟩:=id hX
     obtain ⟨c0,c1,f0,f1⟩:=vN R1
     obtain ⟨k0,k1,k2,k3,k4,k5,p0,p1,p2,p3,p4,p5⟩:=qV R4
     dsimp only at k0 k1 k2 k3 k4 k5
     go_upto_region 26 with fail
     refine qa (CS w B (some l) ⟨4,0,0,0,0,[]⟩ none 0) (hX.set_ hB 0 4 (by decide)) ?_
     clear hX
     clear c0 c1 f0 f1 k0 k1 k2 k3 k4 k5 p0 p1 p2 p3 p4 p5 hr' hW R1 R2 R3 R4 tx hO
     intro X hX
     obtain ⟨A',n',c',bad',c0,c1,HA0⟩:=CS.af2_ hX hB q7 qI 1 (by decide) hx
     have HA:=Lh HA0
     clear HA0
     go_upto_region 27 with (go_at_call 73;refine HA.out.mono ?_;rintro e w1 ⟨A1,n1,cc1,bad1,v1,rfl,d0,d1,f0,f1,k0,p0,hY⟩)
     refine qa (CS w B x.2 ⟨4,x.1,0,0,0,[]⟩ none 0) hY ?_
     clear hY hX HA c0 c1 d0 d1 f0 f1 k0 p0
     intro X hX
     obtain ⟨A',n',c',bad',c0,c1,HA0⟩:=CS.af_ hX hB qO 2 (by decide) hy
     have HA:=Lh HA0
     clear HA0
     go_upto_region 28 with (go_at_call 73;refine HA.out.mono ?_;rintro e w1 ⟨A1,n1,cc1,bad1,v1,rfl,d0,d1,f0,f1,k0,p0,hY⟩)
     refine qa (CS w B y.2 ⟨4,x.1,y.1,0,0,[]⟩ none 0) hY ?_
     clear hY hX HA c0 c1 d0 d1 f0 f1 k0 p0
     intro X hX
     obtain ⟨A',n',c',l',bad',hr',hW,R1,R2,R3,R4,tx,hO⟩:=id hX
     obtain ⟨c0,c1,f0,f1⟩:=vN R1
     obtain ⟨k0,k1,k2,k3,k4,k5,p0,p1,p2,p3,p4,p5⟩:=qV R4
     dsimp only at k0 k1 k2 k3 k4 k5
     go_upto_region 29 with fail
     refine qa (CS w B y.2 ⟨4,x.1-1,y.1-1,0,0,[]⟩ none 0) (((hX.set_ hB 1 (x.1-1) (by decide)).set_ hB 2 (y.1-1) (by decide))) ?_
     clear hX
     clear c0 c1 f0 f1 k0 k1 k2 k3 k4 k5 p0 p1 p2 p3 p4 p5 hr' hW R1 R2 R3 R4 tx hO
     intro X hX
     clear hx hy hxr hyr
     obtain ⟨xn,xr⟩:=x
     obtain ⟨yn,yr⟩:=y
     simp only at e1 e2 hX HR3
     generalize xn-1=Row at *
     generalize yn-1=Col at *
     obtain ⟨s5,hs5⟩ : ∃ b,Hid (b=qX yr ze):=⟨_,Lh rfl⟩
     have HR2:=HR3
     clear HR3
     obtain ⟨A',n',c',bad',c0,c1,HN0⟩:=CS.nx_ hX hB ze
     have HN:=Lh HN0
     clear HN0
     rw [<- hs5.out] at HN
     go_upto_if 115 with (go_at_call 46;refine HN.out.mono ?_;rintro e w1 ⟨rfl,hY⟩)
     refine qa (CS w B yr ⟨4,Row,Col,0,0,[]⟩ none 0) hY ?_
     clear hY hX HN c0 c1
     intro X hX
     cases s5 with
     | true =>
      have HR3:Hid (R.1=⟨4,Row,Col,1,0,[]⟩/\R.2=yr.bind (skO ze)):=Lh (by rw [HR2.out,<- hs5.out];exact ⟨rfl,rfl⟩)
      clear HR2 hs5
      obtain ⟨A',n',c',l',bad',hr',hW,R1,R2,R3,R4,tx,hO⟩:=id hX
      obtain ⟨c0,c1,f0,f1⟩:=vN R1
      obtain ⟨k0,k1,k2,k3,k4,k5,p0,p1,p2,p3,p4,p5⟩:=qV R4
      dsimp only at k0 k1 k2 k3 k4 k5
      go_upto_region 31 with fail
      refine qa (CS w B yr ⟨4,Row,Col,1,0,[]⟩ none 0) (hX.set_ hB 3 1 (by decide)) ?_
      clear hX
      clear c0 c1 f0 f1 k0 k1 k2 k3 k4 k5 p0 p1 p2 p3 p4 p5 hr' hW R1 R2 R3 R4 tx hO
      intro X hX
      obtain ⟨A',n',c',l',bad',hr',hW,R1,R2,R3,R4,tx,hO⟩:=id hX
      obtain ⟨c0,c1,f0,f1⟩:=vN R1
      obtain ⟨k0,k1,k2,k3,k4,k5,p0,p1,p2,p3,p4,p5⟩:=qV R4
      dsimp only at k0 k1 k2 k3 k4 k5
      obtain ⟨o0,o1,o2,o3,o4,o5,q0,q1,q2,q3,q4,q5⟩:=qV R2
      obtain ⟨m0,m1,v0,v1⟩:=vN R3
      dsimp only at o0 o1 o2 o3 o4 o5
      have HK:=Lh (qev yr (.agg #[.slice A' n' c',.bool bad']) ze B X.drew ⟨A',n',c',l',bad',rfl,hW.below (Below.refl _ _).drew,hr'⟩ (Nat.le_trans hB tx.drew.size))
      have z0:=R1.lt
      have z1:=R2.lt
      have z2:=R3.lt
      have z3:=R4.lt
      go_region_law (go_simp;go_at_call 74;refine HK.out.mono ?_;rintro e w1 ⟨A1,n1,cc1,l1,bad1,rfl,hW1,hr1,hb1⟩;have hY:=(hX.drew hB).below hB hb1;clear o0 o1 o2 o3 o4 o5 q0 q1 q2 q3 q4 q5 m0 m1 v0 v1;clear c0 c1 f0 f1 k0 k1 k2 k3 k4 k5 p0 p1 p2 p3 p4 p5 hr' hW R1 R2 R3 R4 tx hO;(obtain ⟨A',n',c',l',bad',hr',hW,R1,R2,R3,R4,tx,hO⟩:=id hY;obtain ⟨c0,c1,f0,f1⟩:=vN R1;obtain ⟨k0,k1,k2,k3,k4,k5,p0,p1,p2,p3,p4,p5⟩:=qV R4;dsimp only at k0 k1 k2 k3 k4 k5);(obtain ⟨o0,o1,o2,o3,o4,o5,q0,q1,q2,q3,q4,q5⟩:=qV R2;obtain ⟨m0,m1,v0,v1⟩:=vN R3;dsimp only at o0 o1 o2 o3 o4 o5))
      all_goals go_wp2
      all_goals have HF:=Lh (fin_ (c:=⟨4,Row,Col,1,0,[]⟩) hB hr1 hW1 R2 R3 tx hO)
      all_goals rw [HR3.out.1,HR3.out.2]
      all_goals exact bodyPost_ret (jg rfl _ _ (w.heap.size+1) (w.heap.size+2) 64 92 _ _ (0,0) (0,0) _ _ rfl HF.out.1 underlying64 rfl yo rfl HF.out.2.1 underlying92 rfl zG) rfl ⟨_,_,_,rfl,HF.out.2.2.1,HF.out.2.2.2.1,HF.out.2.2.2.2⟩
     | false =>
      have HR3:Hid (R.1=⟨4,Row,Col,0,0,[]⟩/\R.2=yr.bind (skO zK)):=Lh (by rw [HR2.out,<- hs5.out];exact ⟨rfl,rfl⟩)
      clear HR2 hs5
      go_upto_region 32 with fail
      obtain ⟨A',n',c',l',bad',hr',hW,R1,R2,R3,R4,tx,hO⟩:=id hX
      obtain ⟨c0,c1,f0,f1⟩:=vN R1
      obtain ⟨k0,k1,k2,k3,k4,k5,p0,p1,p2,p3,p4,p5⟩:=qV R4
      dsimp only at k0 k1 k2 k3 k4 k5
      obtain ⟨o0,o1,o2,o3,o4,o5,q0,q1,q2,q3,q4,q5⟩:=qV R2
      obtain ⟨m0,m1,v0,v1⟩:=vN R3
      dsimp only at o0 o1 o2 o3 o4 o5
      have HK:=Lh (qev yr (.agg #[.slice A' n' c',.bool bad']) zK B X.drew ⟨A',n',c',l',bad',rfl,hW.below (Below.refl _ _).drew,hr'⟩ (Nat.le_trans hB tx.drew.size))
      have z0:=R1.lt
      have z1:=R2.lt
      have z2:=R3.lt
      have z3:=R4.lt
      go_region_law (go_simp;go_at_call 74;refine HK.out.mono ?_;rintro e w1 ⟨A1,n1,cc1,l1,bad1,rfl,hW1,hr1,hb1⟩;have hY:=(hX.drew hB).below hB hb1;clear o0 o1 o2 o3 o4 o5 q0 q1 q2 q3 q4 q5 m0 m1 v0 v1;clear c0 c1 f0 f1 k0 k1 k2 k3 k4 k5 p0 p1 p2 p3 p4 p5 hr' hW R1 R2 R3 R4 tx hO;(obtain ⟨A',n',c',l',bad',hr',hW,R1,R2,R3,R4,tx,hO⟩:=id hY;obtain ⟨c0,c1,f0,f1⟩:=vN R1;obtain ⟨k0,k1,k2,k3,k4,k5,p0,p1,p2,p3,p4,p5⟩:=qV R4;dsimp only at k0 k1 k2 k3 k4 k5);(obtain ⟨o0,o1,o2,o3,o4,o5,q0,q1,q2,q3,q4,q5⟩:=qV R2;obtain ⟨m0,m1,v0,v1⟩:=vN R3;dsimp only at o0 o1 o2 o3 o4 o5))
      all_goals go_wp2
      all_goals have HF:=Lh (fin_ (c:=⟨4,Row,Col,0,0,[]⟩) hB hr1 hW1 R2 R3 tx hO)
      all_goals rw [HR3.out.1,HR3.out.2]
      all_goals exact bodyPost_ret (jg rfl _ _ (w.heap.size+1) (w.heap.size+2) 64 92 _ _ (0,0) (0,0) _ _ rfl HF.out.1 underlying64 rfl yo rfl HF.out.2.1 underlying92 rfl zG) rfl ⟨_,_,_,rfl,HF.out.2.2.1,HF.out.2.2.2.1,HF.out.2.2.2.2⟩
    | false =>
     have HR3:Hid (R.1=⟨0,0,0,0,0,[]⟩/\R.2=none):=Lh (by rw [hR2.out,<- hs4.out];exact ⟨rfl,rfl⟩)
     clear hR2 hs4
     obtain ⟨A',n',c',l',bad',hr',hW,R1,R2,R3,R4,tx,hO⟩:=id hX
     obtain ⟨c0,c1,f0,f1⟩:=vN R1
     obtain ⟨k0,k1,k2,k3,k4,k5,p0,p1,p2,p3,p4,p5⟩:=qV R4
     dsimp only at k0 k1 k2 k3 k4 k5
     obtain ⟨o0,o1,o2,o3,o4,o5,q0,q1,q2,q3,q4,q5⟩:=qV R2
     obtain ⟨m0,m1,v0,v1⟩:=vN R3
     dsimp only at o0 o1 o2 o3 o4 o5
     go_wp2
     have HF:=Lh (fin_ (c:=⟨0,0,0,0,0,[]⟩) (r:=none) (bad:=true) (l:=[]) hB rfl (WdR.nil X B) R2 R3 tx hO)
     all_goals rw [HR3.out.1,HR3.out.2]
     all_goals exact bodyPost_ret (jg rfl _ _ (w.heap.size+1) (w.heap.size+2) 64 92 _ _ (0,0) (0,0) _ _ rfl HF.out.1 underlying64 rfl yo rfl HF.out.2.1 underlying92 rfl zG) rfl ⟨_,_,_,rfl,HF.out.2.2.1,HF.out.2.2.2.1,HF.out.2.2.2.2⟩
theorem kl (l s):qN ((some l).bind (skO s))=match afO s l with
  | some x=>(x.1,some x.2)
  | none=>(0,none):=by
 unfold qN afO
 simp only [Option.bind_some]
 cases (skO s l).bind kU <;> rfl
theorem qfO (l s t):qN (((some l).bind (skO s)).bind (skO t))=match (skO s l).bind (afO t) with
  | some x=>(x.1,some x.2)
  | none=>(0,none):=by
 show qN ((skO s l).bind (skO t))=_
 cases skO s l with
 | none=>rfl
 | some l'=>exact kl l' t
theorem sizP_eq (l:List ByteArray):((afO jS l).bind fun x=>(afO kv x.2).bind fun y=>(skO jl y.2).map fun t=>((⟨1,x.1,y.1,0,0,[]⟩:Chg),t))=(sizP (some l)).2.map fun t=>((sizP (some l)).1,t):=by
 unfold sizP
 rw [kl]
 cases afO jS l with
 | none=>rfl
 | some x =>
  simp only [Option.bind_some]
  rw [show skO kv x.2=(some x.2).bind (skO kv) from rfl,kl]
  cases afO kv x.2 with
  | none=>rfl
  | some y=>rfl
theorem scrP_eq (l:List ByteArray):(((skO q8 l).bind (afO qI)).bind fun x=>(afO bTo x.2).bind fun y =>
  if vT jj y.2=true then (afO jj y.2).bind fun z=>if z.1<0 then none else some ((⟨2,x.1-1,0,-z.1,y.1,[]⟩:Chg),z.2)
  else (afO bUp y.2).bind fun z=>if z.1<0 then none else some (⟨2,x.1-1,0,z.1,y.1,[]⟩,z.2))=(scrP (some l)).2.map fun t=>((scrP (some l)).1,t):=by
 unfold scrP
 rw [qfO]
 cases (skO q8 l).bind (afO qI) with
 | none=>rfl
 | some x =>
  simp only [Option.bind_some]
  rw [show skO bTo x.2=(some x.2).bind (skO bTo) from rfl,kl]
  cases afO bTo x.2 with
  | none=>rfl
  | some y =>
   simp only [Option.bind_some]
   by_cases hd:vT jj y.2=true
   ·rw [if_pos hd,if_pos (show qX (some y.2) jj=true from hd),show skO jj y.2=(some y.2).bind (skO jj) from rfl,kl]
    cases afO jj y.2 with
    | none=>rfl
    | some z =>
     simp only [Option.bind_some,qc2]
     split <;> rfl
   ·rw [if_neg hd,if_neg (show ¬ qX (some y.2) jj=true from hd),show skO bUp y.2=(some y.2).bind (skO bUp) from rfl,kl]
    cases afO bUp y.2 with
    | none=>rfl
    | some z =>
     simp only [Option.bind_some,qc2]
     split <;> rfl
theorem curP_eq (l:List ByteArray):(((skO q7 l).bind (afO qI)).bind fun x=>(afO qO x.2).bind fun y =>
  if vT ze y.2=true then (skO ze y.2).map fun t=>((⟨4,x.1-1,y.1-1,1,0,[]⟩:Chg),t)
  else (skO zK y.2).map fun t=>(⟨4,x.1-1,y.1-1,0,0,[]⟩,t))=(curP (some l)).2.map fun t=>((curP (some l)).1,t):=by
 unfold curP
 rw [qfO]
 cases (skO q7 l).bind (afO qI) with
 | none=>rfl
 | some x =>
  simp only [Option.bind_some]
  rw [show skO qO x.2=(some x.2).bind (skO qO) from rfl,kl]
  cases afO qO x.2 with
  | none=>rfl
  | some y =>
   simp only [Option.bind_some]
   by_cases hd:vT ze y.2=true
   ·rw [if_pos hd,if_pos (show qX (some y.2) ze=true from hd)]
   ·rw [if_neg hd,if_neg (show ¬ qX (some y.2) ze=true from hd)]
theorem delP_eq (l:List ByteArray):delL l=(delP (some l)).2.map fun t=>((delP (some l)).1,t):=by
 unfold delL delP
 by_cases hd:vT q9 l=true
 ·rw [if_pos hd,if_pos (show qX (some l) q9=true from hd),kl]
  cases afO q9 l with
  | none=>rfl
  | some x =>
   simp only [Option.bind_some]
   split <;> rfl
 ·rw [if_neg hd,if_neg (show ¬ qX (some l) q9=true from hd)]
  rfl
theorem insP_eq (l:List ByteArray):insL l=(insP (some l)).2.map fun t=>((insP (some l)).1,t):=by
 unfold insL insP textR
 by_cases hd:vT qK l=true
 ·rw [if_pos hd,if_pos (show qX (some l) qK=true from hd)]
  simp only [Option.bind_some]
  cases (skO qK l).bind qae <;> rfl
 ·rw [if_neg hd,if_neg (show ¬ qX (some l) qK=true from hd)]
  rfl
theorem splP_eq (l:List ByteArray):qbo l=(qbN (some l)).2.map fun t=>((qbN (some l)).1,t):=by
 unfold qbo qbN
 rw [kl]
 cases afO qI l with
 | none=>rfl
 | some x =>
  simp only [Option.bind_some]
  rw [show skO qO x.2=(some x.2).bind (skO qO) from rfl,kl]
  cases afO qO x.2 with
  | none=>rfl
  | some y =>
   simp only [Option.bind_some]
   rw [delP_eq]
   generalize delP (some y.2)=d
   obtain ⟨d1,d2⟩:=d
   cases d2 with
   | none=>rfl
   | some t =>
    simp only [Option.map_some,Option.bind_some]
    rw [insP_eq]
    generalize insP (some t)=g
    obtain ⟨g1,g2⟩:=g
    cases g2 <;> rfl
theorem chgP_eq (l:List ByteArray):qaL l=(chgP (some l)).2.map fun t=>((chgP (some l)).1,t):=by
 unfold qaL chgP
 by_cases h1:vT jS l=true
 ·rw [if_pos h1,if_pos (show qX (some l) jS=true from h1)]
  exact sizP_eq l
 ·rw [if_neg h1,if_neg (show ¬ qX (some l) jS=true from h1)]
  by_cases h2:vT q8 l=true
  ·rw [if_pos h2,if_pos (show qX (some l) q8=true from h2)]
   exact scrP_eq l
  ·rw [if_neg h2,if_neg (show ¬ qX (some l) q8=true from h2)]
   by_cases h3:vT qI l=true
   ·rw [if_pos h3,if_pos (show qX (some l) qI=true from h3)]
    exact splP_eq l
   ·rw [if_neg h3,if_neg (show ¬ qX (some l) qI=true from h3)]
    by_cases h4:vT q7 l=true
    ·rw [if_pos h4,if_pos (show qX (some l) q7=true from h4)]
     exact curP_eq l
    ·rw [if_neg h4,if_neg (show ¬ qX (some l) q7=true from h4)]
     rfl
theorem yV {s:ByteArray} {l t:List ByteArray} (h:skO s l=some t):t.length<l.length:=by
 cases l with
 | nil=>cases h
 | cons a u =>
  simp only [skO] at h
  split at h
  ·cases h;simp
  ·cases h
theorem qiq {l t:List ByteArray} {n:Int} (h:kU l=some (n,t)):t.length<=l.length:=by
 unfold kU at h
 rw [Option.map_eq_some_iff] at h
 obtain ⟨x,_,e⟩:=h
 cases e
 rw [List.length_drop]
 omega
theorem kg {s:ByteArray} {l t:List ByteArray} {n:Int} (h:afO s l=some (n,t)):t.length<l.length:=by
 unfold afO at h
 rw [Option.bind_eq_some_iff] at h
 obtain ⟨x,h1,h2⟩:=h
 have:=yV h1
 have:=qiq h2
 omega
theorem qgs {l t:List ByteArray} {G:List Gl} (h:qae l=some (G,t)):t.length<=l.length/\∃ k,kC (l.take k)=some G:=by
 unfold qae at h
 rw [Option.bind_eq_some_iff] at h
 obtain ⟨i,_,h2⟩:=h
 split at h2
 ·rename_i g gs hg
  cases h2
  exact ⟨by rw [List.length_drop];omega,i,hg⟩
 ·cases h2
theorem qim {l t:List ByteArray} {n:Int} (h:delL l=some (n,t)):t.length<=l.length:=by
 unfold delL at h
 split at h
 ·rw [Option.bind_eq_some_iff] at h
  obtain ⟨x,h1,h2⟩:=h
  split at h2
  ·cases h2
  ·cases h2
   exact Nat.le_of_lt (kg h1)
 ·cases h
  exact Nat.le_refl _
theorem qcV : ∀ (f:Nat) (q:Prs) (G:List Gl),PaK2 q->ka f q=some G->SmG G
 | 0,q,G,hk,h=>by
  rw [ka] at h
  injection h with h
  have h1:=hk.1.2.1
  have h2:=hk.1.2.2
  rw [<- h]
  exact ⟨by omega,fun x hx=>by have:=h2 x hx;omega⟩
 | f+1,q,G,hk,h=>by
  rw [ka] at h
  split at h
  ·injection h with h
   have h1:=hk.1.2.1
   have h2:=hk.1.2.2
   rw [<- h]
   exact ⟨by omega,fun x hx=>by have:=h2 x hx;omega⟩
  ·cases hp:va q with
   | none=>rw [hp] at h;cases h
   | some q'=>rw [hp] at h;exact qcV f q' G (hk.part hp) h
theorem qe2 {l:List ByteArray} {G:List Gl} (hl:l.length<=400000) (hsz : ∀ s∈l,s.size<=1000) (h:kC l=some G):SmG G :=
 qcV _ _ _ ⟨⟨hsz,by show 0+2000 * l.length<=_;omega,fun x hx=>by cases hx⟩,hl⟩ h
theorem sk_sub {s:ByteArray} {l t:List ByteArray} (h:skO s l=some t):Sub t l:=by
 refine ⟨Nat.le_of_lt (yV h),?_⟩
 cases l with
 | nil=>cases h
 | cons a u =>
  simp only [skO] at h
  split at h
  ·cases h;exact fun x hx=>List.mem_cons_of_mem _ hx
  ·cases h
theorem num_sub {l t:List ByteArray} {n:Int} (h:kU l=some (n,t)):Sub t l:=by
 refine ⟨qiq h,?_⟩
 unfold kU at h
 rw [Option.map_eq_some_iff] at h
 obtain ⟨x,_,e⟩:=h
 cases e
 exact fun s hs=>List.mem_of_mem_drop hs
theorem qhV {s:ByteArray} {l t:List ByteArray} {n:Int} (h:afO s l=some (n,t)):Sub t l:=by
 unfold afO at h
 rw [Option.bind_eq_some_iff] at h
 obtain ⟨x,h1,h2⟩:=h
 exact (num_sub h2).trans (sk_sub h1)
theorem del_sub {l t:List ByteArray} {n:Int} (h:delL l=some (n,t)):Sub t l:=by
 unfold delL at h
 split at h
 ·rw [Option.bind_eq_some_iff] at h
  obtain ⟨x,h1,h2⟩:=h
  split at h2
  ·cases h2
  ·cases h2
   exact qhV h1
 ·cases h
  exact ⟨Nat.le_refl _,fun s hs=>hs⟩
theorem ins_len {l t:List ByteArray} {G:List Gl} (h:insL l=some (G,t)) (hl:l.length<=400000) (hsz : ∀ s∈l,s.size<=1000):t.length<=l.length/\SmG G:=by
 unfold insL at h
 split at h
 ·rw [Option.bind_eq_some_iff] at h
  obtain ⟨x,h1,h2⟩:=h
  have hs:=sk_sub h1
  obtain ⟨h3,k,hk⟩:=qgs h2
  exact ⟨Nat.le_trans h3 hs.1,qe2 (by rw [List.length_take];have:=hs.1;omega) (fun s hs'=>hsz s (hs.2 s (List.mem_of_mem_take hs'))) hk⟩
 ·cases h
  exact ⟨Nat.le_refl _,SmG.nil⟩
theorem chg_len {l t:List ByteArray} {c:Chg} (h:qaL l=some (c,t)) (hl:l.length<=400000) (hsz : ∀ s∈l,s.size<=1000):t.length<l.length/\SmG c.glyphs:=by
 unfold qaL at h
 split at h
 ·rw [Option.bind_eq_some_iff] at h
  obtain ⟨x,h1,h⟩:=h
  rw [Option.bind_eq_some_iff] at h
  obtain ⟨y,h2,h⟩:=h
  rw [Option.map_eq_some_iff] at h
  obtain ⟨u,h3,h⟩:=h
  cases h
  have:=kg h1
  have:=kg h2
  have:=yV h3
  exact ⟨by omega,SmG.nil⟩
 ·split at h
  ·rw [Option.bind_eq_some_iff] at h
   obtain ⟨x,h1,h⟩:=h
   rw [Option.bind_eq_some_iff] at h1
   obtain ⟨x0,h0,h1⟩:=h1
   rw [Option.bind_eq_some_iff] at h
   obtain ⟨y,h2,h⟩:=h
   have:=yV h0
   have:=kg h1
   have:=kg h2
   split at h
   ·rw [Option.bind_eq_some_iff] at h
    obtain ⟨z,h3,h⟩:=h
    have:=kg h3
    split at h
    ·cases h
    ·cases h
     exact ⟨by omega,SmG.nil⟩
   ·rw [Option.bind_eq_some_iff] at h
    obtain ⟨z,h3,h⟩:=h
    have:=kg h3
    split at h
    ·cases h
    ·cases h
     exact ⟨by omega,SmG.nil⟩
  ·split at h
   ·unfold qbo at h
    rw [Option.bind_eq_some_iff] at h
    obtain ⟨x,h1,h⟩:=h
    rw [Option.bind_eq_some_iff] at h
    obtain ⟨y,h2,h⟩:=h
    rw [Option.bind_eq_some_iff] at h
    obtain ⟨z,h3,h⟩:=h
    rw [Option.map_eq_some_iff] at h
    obtain ⟨g,h4,h⟩:=h
    cases h
    have hs:=(del_sub h3).trans ((qhV h2).trans (qhV h1))
    have:=kg h1
    have:=kg h2
    have:=qim h3
    obtain ⟨h5,h6⟩:=ins_len h4 (Nat.le_trans hs.1 hl) (fun s hs'=>hsz s (hs.2 s hs'))
    exact ⟨by omega,h6⟩
   ·split at h
    ·rw [Option.bind_eq_some_iff] at h
     obtain ⟨x,h1,h⟩:=h
     rw [Option.bind_eq_some_iff] at h1
     obtain ⟨x0,h0,h1⟩:=h1
     rw [Option.bind_eq_some_iff] at h
     obtain ⟨y,h2,h⟩:=h
     have:=yV h0
     have:=kg h1
     have:=kg h2
     split at h
     ·rw [Option.map_eq_some_iff] at h
      obtain ⟨u,h3,h⟩:=h
      cases h
      have:=yV h3
      exact ⟨by omega,SmG.nil⟩
     ·rw [Option.map_eq_some_iff] at h
      obtain ⟨u,h3,h⟩:=h
      cases h
      have:=yV h3
      exact ⟨by omega,SmG.nil⟩
    ·cases h
def ES (w:World) (B:Nat) (r:Option (List ByteArray)) (X:World):Prop :=
 ∃ A n cc l bad,r=y7 bad l/\WdR X B l A n cc/\Blk X w.heap.size 92 #[.slice A n cc,.bool bad]/\Below w.heap.size w X
theorem ES.turn {w X:World} {B:Nat} {r':Option (List ByteArray)} {A A0:Option Addr} {n cc n0 cc0:Nat} {l:List ByteArray} {bad bad0:Bool} (hB:B<=w.heap.size) (R1:Blk X w.heap.size 92 #[.slice A0 n0 cc0,.bool bad0]) (tx:Below w.heap.size w X) (hW:WdR X B l A n cc) (hr:r'=y7 bad l) :
  ES w B r' ((X.setCell ⟨w.heap.size,0,none⟩ (.slice A n cc)).setCell ⟨w.heap.size,1,none⟩ (.bool bad)) :=
 ⟨A,n,cc,l,bad,hr,hW.below (((Below.refl B X).setCell (p:=⟨w.heap.size,0,none⟩) hB _).setCell (p:=⟨w.heap.size,1,none⟩) hB _),vd R1,(tx.setCell (p:=⟨w.heap.size,0,none⟩) (Nat.le_refl _) _).setCell (p:=⟨w.heap.size,1,none⟩) (Nat.le_refl _) _⟩
theorem end_tail (t:List ByteArray):((kU t).bind fun x=>(skO jG x.2).bind fun u=>if u=[]/\1<x.1 then some x.1 else none)=((qN (some t)).2.bind (skO jG)).bind fun u=>if u=[]/\1<(qN (some t)).1 then some (qN (some t)).1 else none:=by
 unfold qN
 simp only [Option.bind_some]
 cases kU t with
 | none=>rfl
 | some x=>rfl
theorem qeB (l:List ByteArray) (s:ByteArray):qX (some l) s=vT s l:=rfl
theorem uend_ (l:List ByteArray) (A:Option Addr) (n c:Nat) (w:World) (B:Nat) (hW:WdR w B l A n c) (hB:B<=w.heap.size) :
  Calls prog 49 #[.agg #[.slice A n c,.bool false]] w (EndE w l):=by
 have hX:ES w B (some l) (w.alloc (.cells #[.slice A n c,.bool false] 92)):=⟨A,n,c,l,false,rfl,hW.below ((Below.refl _ _).alloc hB _),Blk.new w _ _,(Below.refl _ _).alloc (Nat.le_refl _) _⟩
 clear hW
 go_enter func49,ntmps49
 go_upto_region 1 with fail
 refine qa (ES w B (some l)) hX ?_
 clear hX
 intro X hX
 obtain ⟨s1,hs1⟩ : ∃ b,Hid (b=qX (some l) kZ):=⟨_,Lh rfl⟩
 obtain ⟨A',n',c',l',bad',hr',hW,R1,tx⟩:=id hX
 have c0:=R1.cell 0
 have c1:=R1.cell 1
 have f0:=R1.frozen 0
 have f1:=R1.frozen 1
 have z0:=R1.lt
 simp only [La,Lb,Lc] at c0 c1
 have hBX:=Nat.le_trans hB tx.size
 cases bad' with
 | true=>cases hr'
 | false =>
  obtain rfl:l=l':=by cases hr';rfl
  have hln:=hW.len
  have HN:=Lh (qdo (some l) _ kZ B X ⟨A',n',c',l,false,rfl,hW,rfl⟩ hBX)
  rw [<- hs1.out] at HN
  cases s1 with
  | true =>
   have HE:Hid (ki l=if l.length=1 then some 0 else none):=Lh (by unfold ki;rw [<- qeB,<- hs1.out];rfl)
   clear hs1 hr'
   go_upto_region 2 with (go_at_call 46;refine HN.out.mono ?_;rintro e w1 ⟨rfl,hb1⟩;(clear c0 c1 f0 f1;have R0:=R1.below hb1 R1.lt;have f0:=R0.frozen 0;have f1:=R0.frozen 1;have c0:=R0.cell 0;have c1:=R0.cell 1;simp only [La,Lb,Lc] at c0 c1))
   have hq:((n':Int)==1)=decide (l.length=1):=by rw [hln,Bool.eq_iff_iff];simp;omega
   generalize hdd:decide (l.length=1)=dd at *
   have HE2:Hid (ki l=if dd=true then some 0 else none):=Lh (by rw [HE.out,<- hdd];simp)
   clear HE hdd
   go_quiet (fail)
   go_wp2
   go_ret2
   exact ⟨0,dd,rfl,qf (tx.trans (hb1.mono (by omega))),HE2.out⟩
  | false =>
   have HE:Hid (ki l=(skO jN l).bind fun t=>if t=[] then some 1 else (kU t).bind fun x=>(skO jG x.2).bind fun u=>if u=[]/\1<x.1 then some x.1 else none):=Lh (by unfold ki;rw [<- qeB,<- hs1.out];rfl)
   clear hs1 hr'
   obtain ⟨r1,hr1⟩ : ∃ r,Hid (r=(some l).bind (skO jN)):=⟨_,Lh rfl⟩
   have HE1:Hid (ki l=r1.bind fun t=>if t=[] then some 1 else (kU t).bind fun x=>(skO jG x.2).bind fun u=>if u=[]/\1<x.1 then some x.1 else none):=Lh (by rw [HE.out,hr1.out];rfl)
   clear HE
   go_upto_region 3 with (go_at_call 46;refine HN.out.mono ?_;rintro e w1 ⟨rfl,hb1⟩;(clear c0 c1 f0 f1;have R0:=R1.below hb1 R1.lt;have f0:=R0.frozen 0;have f1:=R0.frozen 1;have c0:=R0.cell 0;have c1:=R0.cell 1;simp only [La,Lb,Lc] at c0 c1))
   refine qa (ES w B (some l)) ⟨A',n',c',l,false,rfl,hW.below (hb1.mono hBX),R1.below hb1 R1.lt,tx.trans (hb1.mono (by omega))⟩ ?_
   clear hX c0 c1 f0 f1 z0 R1 tx hb1 hW HN hln hBX
   intro X hX
   obtain ⟨A',n',c',l',bad',hr',hW,R1,tx⟩:=id hX
   have c0:=R1.cell 0
   have c1:=R1.cell 1
   have f0:=R1.frozen 0
   have f1:=R1.frozen 1
   have z0:=R1.lt
   simp only [La,Lb,Lc] at c0 c1
   have HK:=Lh (qev (some l) _ jN B X ⟨A',n',c',l',bad',rfl,hW,hr'⟩ (Nat.le_trans hB tx.size))
   rw [<- hr1.out] at HK
   go_upto_region 4 with (go_at_call 74;refine HK.out.mono ?_;rintro e w1 ⟨A1,n1,cc1,l1,bad1,rfl,hW1,hq1,hb1⟩;(clear c0 c1 f0 f1;have R0:=R1.below hb1 R1.lt;have f0:=R0.frozen 0;have f1:=R0.frozen 1;have c0:=R0.cell 0;have c1:=R0.cell 1;simp only [La,Lb,Lc] at c0 c1))
   refine qa (ES w B r1) (ES.turn hB (R1.below hb1 R1.lt) (tx.trans (hb1.mono (by omega))) hW1 hq1) ?_
   clear hX c0 c1 f0 f1 z0 R1 tx hb1 hW HK hr1 hW1 hq1 hr'
   intro X hX
   obtain ⟨A',n',c',l',bad',hr',hW,R1,tx⟩:=id hX
   have c0:=R1.cell 0
   have c1:=R1.cell 1
   have f0:=R1.frozen 0
   have f1:=R1.frozen 1
   have z0:=R1.lt
   simp only [La,Lb,Lc] at c0 c1
   have hln:=hW.len
   by_cases hn0:n'=0
   ·subst hn0
    have hl0:l'=[]:=List.length_eq_zero_iff.1 hln
    have HE2:Hid (ki l=if (!bad')=true then some 1 else none):=Lh (by rw [HE1.out,hr'];cases bad' <;> simp [y7,hl0])
    clear HE1 hr'
    go_upto_region 5 with fail
    go_quiet (fail)
    go_wp2
    go_ret2
    exact ⟨1,!bad',rfl,qf tx,HE2.out⟩
   ·have hni:((n':Int)==0)=false:=beq_eq_false_iff_ne.2 (by omega)
    have hni2 : ¬ (n':Int)=0:=by omega
    obtain ⟨x,hx⟩ : ∃ x,Hid (x=qN r1):=⟨_,Lh rfl⟩
    obtain ⟨y,hy⟩ : ∃ y,Hid (y=x.2.bind (skO jG)):=⟨_,Lh rfl⟩
    have HE2:Hid (ki l=y.bind fun u=>if u=[]/\1<x.1 then some x.1 else none):=Lh (by
     rw [HE1.out,hy.out,hx.out,hr']
     cases bad' with
     | true=>rfl
     | false =>
      show (if l'=[] then _ else _)=_
      rw [if_neg (fun e=>hn0 (by rw [<- hln,e];rfl))]
      exact end_tail l')
    clear HE1 hn0 hln
    have HM:=Lh (qfL r1 _ B X ⟨A',n',c',l',bad',rfl,hW,hr'⟩ (Nat.le_trans hB tx.size))
    rw [<- hx.out] at HM
    go_upto_region 7 with (go_at_call 80;refine (HM.out.mono fun _ _ h=>h.e (Nat.le_trans hB tx.size)).mono ?_;rintro e w1 ⟨v1,rfl,⟨A1,n1,cc1,l1,bad1,rfl,hW1,hq1⟩,hb1⟩;(clear c0 c1 f0 f1;have R0:=R1.below hb1 R1.lt;have f0:=R0.frozen 0;have f1:=R0.frozen 1;have c0:=R0.cell 0;have c1:=R0.cell 1;simp only [La,Lb,Lc] at c0 c1))
    refine qa (ES w B x.2) (ES.turn hB (R1.below hb1 R1.lt) (tx.trans (hb1.mono (by omega))) hW1 hq1) ?_
    clear hX c0 c1 f0 f1 z0 R1 tx hb1 hW HM hW1 hq1 hr' hni hni2 hx
    intro X hX
    obtain ⟨A',n',c',l',bad',hr',hW,R1,tx⟩:=id hX
    have c0:=R1.cell 0
    have c1:=R1.cell 1
    have f0:=R1.frozen 0
    have f1:=R1.frozen 1
    have z0:=R1.lt
    simp only [La,Lb,Lc] at c0 c1
    have HK:=Lh (qev x.2 _ jG B X ⟨A',n',c',l',bad',rfl,hW,hr'⟩ (Nat.le_trans hB tx.size))
    rw [<- hy.out] at HK
    go_upto_region 8 with (go_at_call 74;refine HK.out.mono ?_;rintro e w1 ⟨A1,n1,cc1,l1,bad1,rfl,hW1,hq1,hb1⟩;(clear c0 c1 f0 f1;have R0:=R1.below hb1 R1.lt;have f0:=R0.frozen 0;have f1:=R0.frozen 1;have c0:=R0.cell 0;have c1:=R0.cell 1;simp only [La,Lb,Lc] at c0 c1))
    refine qa (ES w B y) (ES.turn hB (R1.below hb1 R1.lt) (tx.trans (hb1.mono (by omega))) hW1 hq1) ?_
    clear hX c0 c1 f0 f1 z0 R1 tx hb1 hW HK hW1 hq1 hr' hy
    intro X hX
    obtain ⟨A',n',c',l',bad',hr',hW,R1,tx⟩:=id hX
    have c0:=R1.cell 0
    have c1:=R1.cell 1
    have f0:=R1.frozen 0
    have f1:=R1.frozen 1
    have z0:=R1.lt
    simp only [La,Lb,Lc] at c0 c1
    have hln:=hW.len
    obtain ⟨N,xr⟩:=x
    simp only at HE2
    cases bad' with
    | true =>
     have HE3:Hid (ki l=none):=Lh (by rw [HE2.out,hr'];rfl)
     clear HE2 hr' hln
     go_wp2
     go_ret2
     exact ⟨N,false,rfl,tx,HE3.out⟩
    | false =>
     have HE3:Hid (ki l=if l'=[]/\1<N then some N else none):=Lh (by rw [HE2.out,hr'];rfl)
     clear HE2 hr'
     by_cases hn0:n'=0
     ·subst hn0
      have hl0:l'=[]:=List.length_eq_zero_iff.1 hln
      have HE4:Hid (ki l=if decide (1<N)=true then some N else none):=Lh (by rw [HE3.out,hl0];simp)
      clear HE3 hln
      generalize hdd:decide (1<N)=dd at *
      go_wp2
      go_ret2
      exact ⟨N,dd,by first | rfl | (rw [<- hdd]),tx,HE4.out⟩
     ·have HE4:Hid (ki l=none):=Lh (by rw [HE3.out,if_neg];rintro ⟨e,_⟩;rw [e] at hln;exact hn0 hln.symm)
      have hni:((n':Int)==0)=false:=beq_eq_false_iff_ne.2 (by omega)
      have hni2 : ¬ (n':Int)=0:=by omega
      clear HE3 hln
      go_wp2
      go_ret2
      exact ⟨N,false,rfl,tx,HE4.out⟩
def vX:List ChgM->Int
 | []=>0
 | x::t=>if vj x.c=0 then vX t else vj x.c
theorem qac : ∀ {l:List ChgM},vX l=0↔∀ c∈zo l,vj c=0
 | []=>by simp [vX,zo]
 | x::t=>by
  have ih:=qac (l:=t)
  unfold vX
  constructor
  ·intro h c hc
   split at h
   ·rename_i h0
    rcases List.mem_cons.1 hc with rfl | hc
    ·exact h0
    ·exact ih.1 h c hc
   ·rename_i h0;exact absurd h h0
  ·intro h
   rw [if_pos (h x.c (by simp [zo]))]
   exact ih.2 fun c hc=>h c (by simp [zo] at hc ⊢;exact .inr hc)
def SmC (l:List ChgM):Prop:=∀ x∈l,x.c.glyphs.length<=1000000000/\∀ g∈x.c.glyphs,g.text.size<=1000000000
theorem sz_wb (j:Nat) (hj:j<32):(wb j).size<=1000:=by
 have : ∀ k:Fin 32,(wb k.val).size<=1000:=by decide +kernel
 exact this ⟨j,hj⟩
theorem sz_nb (j:Nat) (hj:j<32):(nb j).size<=1000:=by
 have : ∀ k:Fin 32,(nb k.val).size<=1000:=by decide +kernel
 exact this ⟨j,hj⟩
theorem sz_sty (i:Nat):(vP i).size<=1000:=by
 unfold vP
 split <;> decide +kernel
theorem qfU {n:Int} (h1 : -999999999<=n) (h2:n<=999999999) : ∀ a∈(qm n).map wb,a.size<=1000:=by
 intro a ha
 obtain ⟨i,hi,rfl⟩:=List.mem_map.1 ha
 exact sz_wb i (jT n h1 h2 i hi)
theorem qfk {n:Nat} (h:n<=999999999) : ∀ a∈ja n,a.size<=1000:=qfU (by omega) (by omega)
theorem sz_spell (r:Int) : ∀ a∈qD r,a.size<=1000:=by
 intro a ha
 unfold qD at ha
 split at ha
 ·rename_i i hi
  rw [List.mem_singleton] at ha
  subst ha
  exact sz_nb i (jz hi).1
 ·split at ha
  ·rename_i hc
   have hr:=kj hc
   rcases List.mem_cons.1 ha with rfl | ha
   ·decide +kernel
   ·exact qfU (by omega) (by omega) a ha
  ·cases ha
theorem qei (g:Gl) : ∀ a∈qP g,a.size<=1000:=by
 intro a ha
 unfold qP at ha
 split at ha
 ·rw [List.mem_singleton] at ha
  subst ha
  decide +kernel
 ·rw [List.mem_flatMap] at ha
  obtain ⟨r,_,ha⟩:=ha
  exact sz_spell _ a ha
theorem qjP {l:List Gl} (h : ∀ x∈l,qd x=3) (dg:Bool) : ∀ a∈jx l dg,a.size<=1000:=by
 have hd : ∀ d∈vC l,d<10:=by
  have:=qc8 h
  unfold jC at this
  intro d hd
  refine this d ?_
  unfold vC at hd
  rw [List.map_map]
  exact hd
 have hl:(vC l).length=l.length:=by unfold vC;rw [List.length_map]
 unfold jx
 split
 ·intro a ha
  rcases List.mem_cons.1 ha with rfl | ha
  ·decide +kernel
  ·obtain ⟨d,hd1,ha⟩:=List.mem_flatMap.1 ha
   have:=hd d hd1
   exact qfk (by omega) a ha
 ·rename_i hc
  have h9:l.length<=9:=by
   rcases Nat.lt_or_ge 9 l.length with h | h
   ·exact absurd (.inr (.inl h)) hc
   ·exact h
  have:=num9 hd
  have hp:10 ^ (vC l).length<=10 ^ 9:=Nat.pow_le_pow_right (by decide) (by omega)
  exact qfk (by omega)
theorem sz_pre (q:Spk) (g:Gl) (w0:ByteArray) : ∀ a∈ky q g w0,a.size<=1000:=by
 unfold ky
 intro a ha
 (repeat' split at ha) <;> first | (cases ha;done) | (rw [List.mem_singleton] at ha;subst ha;first | exact sz_sty _ | decide +kernel)
def S0:Setts:=⟨false,false,3⟩
theorem elt_ch:Elt prog 36 64 (.agg #[.int .i64 0,.int .i64 0,.int .i64 0,.int .i64 0,.int .i64 0,.slice none 0 0]) 6 64 where
 und:=underlying36
 row:=by
  have h:(prog.info? 64).map (fun i=>(i.zero,i.size,i.bytes))=some (some (.agg #[.int .i64 0,.int .i64 0,.int .i64 0,.int .i64 0,.int .i64 0,.slice none 0 0]),6,64):=by kernel_rfl
  obtain ⟨i,hi,a,b,c⟩:=info_parts h
  exact ⟨i,hi,a,b,c⟩
 zs:=rfl
 pos:=by decide
theorem GlO.less {base base':Nat} {wr:World} {out:List ChgM} (h:GlO base wr out) (hb:base'<=base):GlO base' wr out:=fun x hx=>qt (h x hx) hb
theorem GlO.rdc {base n c:Nat} {A:Option Addr} {w:World} {out:List ChgM} (h:GlO base w out) (ho:w.ownsRow base 64 6 (.slice A n c) n (kq out)):RdC w w.heap.size A n out :=
 ⟨Rd.of_own ho,fun x hx=>⟨Rd.of_own (h x hx),qas (h x hx)⟩⟩
def ChR (o:Option (List Chg × Int)) (w:World) (e:Ending) (w':World):Prop :=
 Below w.heap.size w w'/\match o with
 | none=>e = .returned (.tuple #[.slice none 0 0,.int .i64 0,.int .i64 17])
 | some x=>∃ out A c,zo out=x.1/\e = .returned (.tuple #[.slice A out.length c,.int .i64 x.2,.int .i64 0])/\w'.ownsRow w.heap.size 64 6 (.slice A out.length c) out.length (kq out)/\GlO w.heap.size w' out
def qgl (w:World) (g:Nat):Nat:=match w.cell? ⟨g,0,none⟩ with
 | some (.slice _ n _)=>n
 | _=>0
theorem qgj {w:World} {g n c:Nat} {A:Option Addr} {t:TypeId} {v:Value} (h:Blk w g t #[.slice A n c,v]):qgl w g=n:=by
 unfold qgl
 rw [h.cell 0]
 rfl
theorem ChK.new {w X w3:World} {l':List ByteArray} {out:List ChgM} {A:Option Addr} {c:Nat} {cg:Chg} {Ag:Option Addr} {cap:Nat} {A1:Option Addr} {n1 cc:Nat} {bad:Bool} {lr:List ByteArray} (hJ:ChJ w l' out A c X) (hb3:Below X.heap.size X w3) (hW:WdR w3 w.heap.size lr A1 n1 cc) (ho:w3.ownsRow X.heap.size 86 3 (.slice Ag cg.glyphs.length cap) cg.glyphs.length (qi cg.glyphs)) :
  ChK w w3.heap.size l' out A c cg Ag cap A1 n1 cc bad lr ((w3.alloc (.cells (yG cg Ag cap) 64)).alloc (.cells #[.slice A1 n1 cc,.bool bad] 92)):=by
 have hbb:Below w3.heap.size w3 ((w3.alloc (.cells (yG cg Ag cap) 64)).alloc (.cells #[.slice A1 n1 cc,.bool bad] 92)):=((Below.refl _ _).alloc (Nat.le_refl _) _).alloc (by simp) _
 have hX:w.heap.size+1<=X.heap.size:=by
  obtain ⟨A',n',c',ho,hg,hW,R1,tx⟩:=hJ
  exact R1.lt
 have hX3:=hb3.size
 exact ⟨(Blk.new w3 _ _).alloc _,Blk.new_ (by simp),(hJ.on hb3).on hbb,hW.below (hbb.mono (by omega)),qt (qb ho hbb) hX,by omega⟩
theorem blk_app' {X Y:World} {b:Nat} {t:TypeId} {cs:Array Value} {row:Option Nat} (h:Blk X b t cs) (hb:X.grownBy Y row) (hn:some b≠row):Blk Y b t cs:=h.grown hb hn
theorem ChJ.left {w X:World} {l':List ByteArray} {out:List ChgM} {A:Option Addr} {c:Nat} (h:ChJ w l' out A c X):qgl X w.heap.size=l'.length:=by
 obtain ⟨A',n',c',ho,hg,hW,R1,tx⟩:=h
 rw [qgj R1]
 exact hW.len.symm
theorem ChJ.next {w Z U W9:World} {l' lr:List ByteArray} {out:List ChgM} {A A1 A9:Option Addr} {c n1 cc c9:Nat} {x:ChgM} (hJ:ChJ w l' out A c Z) (hW1:WdR Z w.heap.size lr A1 n1 cc) (hx:Z.ownsRow (w.heap.size+1) 86 3 (.slice x.A x.c.glyphs.length x.cap) x.c.glyphs.length (qi x.c.glyphs))
  (hb:Below Z.heap.size Z U) (hgr:U.grownBy W9 (Value.slice A out.length c).ownBlock) (hb9:Below (w.heap.size+1) U W9) (ho9:W9.ownsRow (w.heap.size+1) 64 6 (.slice A9 (out.length+1) c9) (out.length+1) (kq out++qb5 x)) :
  ChJ w lr (out++[x]) A9 c9 ((W9.setCell ⟨w.heap.size,0,none⟩ (.slice A1 n1 cc)).setCell ⟨w.heap.size,1,none⟩ (.bool false)):=by
 obtain ⟨A',n',c',ho,hg,hW,R1,tx⟩:=hJ
 have hz:=R1.lt
 have h9:Below (w.heap.size+1) Z W9:=(hb.mono hz).trans hb9
 have hgl:GlO (w.heap.size+1) W9 (out++[x]):=fun y hy=>by
  rcases List.mem_append.1 hy with hy | hy
  ·exact ((hg.below hb).app (qb ho hb) hgr) y hy
  ·rw [List.mem_singleton] at hy
   subst hy
   exact (qb hx hb).kept hgr (qir (qb hx hb) (qb ho hb) (by decide))
 have hlt : ∀ i,(⟨w.heap.size,i,none⟩:Addr).block<w.heap.size+1:=fun i=>Nat.lt_succ_self _
 have hbw:Below w.heap.size W9 ((W9.setCell ⟨w.heap.size,0,none⟩ (.slice A1 n1 cc)).setCell ⟨w.heap.size,1,none⟩ (.bool false)):=((Below.refl _ _).setCell (p:=⟨w.heap.size,0,none⟩) (Nat.le_refl _) _).setCell (p:=⟨w.heap.size,1,none⟩) (Nat.le_refl _) _
 refine ⟨A1,n1,cc,?_,(hgl.set_ (hlt 0) _).set_ (hlt 1) _,(hW1.below (h9.mono (by omega))).below hbw,vd (R1.below h9 (Nat.lt_succ_self _)),(tx.trans (h9.mono (by omega))).trans hbw⟩
 rw [List.length_append,qjj,show kq [x]=qb5 x by simp [kq]]
 exact zZ (zZ ho9 (hlt 0) _) (hlt 1) _
theorem qej {f:Nat} {l:List ByteArray} {acc:List Chg} (h:vT kZ l=true∨vT jN l=true):yR (f+1) l acc=(ki l).map fun n=>(acc,n):=by
 rw [yR,if_pos h]
theorem qjt {f:Nat} {l:List ByteArray} {acc:List Chg} (h:vT kZ l=false) (h2:vT jN l=false):yR (f+1) l acc=(qaL l).bind fun x=>if vj x.1=0 then yR f x.2 (acc++[x.1]) else none:=by
 rw [yR,if_neg (by rw [h,h2];simp)]
theorem qkg (l:List ByteArray) (A:Option Addr) (n c:Nat) (w:World) (hW:WdR w w.heap.size l A n c) (hl:l.length<=400000) (hs:Sp w) (hu:U8 w) (hy:Sty w) :
  Calls prog 28 #[.slice A n c] w (ChR (jm l) w):=by
 obtain ⟨R,hR⟩ : ∃ x,Hid (x=jm l):=⟨_,Lh rfl⟩
 rw [<- hR.out]
 have HS:Hid (Sp w/\U8 w/\Sty w):=Lh ⟨hs,hu,hy⟩
 have hJ:ChJ w l [] none 0 (w.alloc (.cells #[.slice A n c,.bool false] 92)):=⟨A,n,c,zY _ _ _ _,(fun x hx=>by cases hx),hW.below ((Below.refl _ _).alloc (Nat.le_refl _) _),Blk.new w _ _,(Below.refl _ _).alloc (Nat.le_refl _) _⟩
 have H0:Hid (R=yR (l.length+1) l (zo [])):=Lh (by rw [hR.out];rfl)
 clear hW hs hu hy hR
 go_enter func28,ntmps28
 go_wp2
 go_loopw [6] (fun x wr=>∃ l' out f A c,x = .slice A out.length c/\ChJ w l' out A c wr/\l'.length<f/\out.length+l'.length<=400000/\Hid (R=yR f l' (zo out))) (fun _ wr=>qgl wr w.heap.size)
 case atStart=>exact ⟨l,[],l.length+1,none,0,rfl,hJ,by omega,by simpa using hl,H0⟩
 case round =>
  clear hJ H0 hl
  obtain ⟨l',out,f,A,c,rfl,hJ,hf,hlen,HR⟩:=hrel
  obtain ⟨f',rfl⟩ : ∃ f',f=f'+1:=⟨f-1,by omega⟩
  have HL:Hid (qgl wr w.heap.size=l'.length):=Lh (by obtain ⟨A',n',c',ho,hg,hW,R1,tx⟩:=hJ;rw [qgj R1];exact hW.len.symm)
  rw [HL.out]
  clear HL
  obtain ⟨A',n',c',ho,hg,hW,R1,tx⟩:=id hJ
  have c0:=R1.cell 0
  have c1:=R1.cell 1
  have f0:=R1.frozen 0
  have f1:=R1.frozen 1
  have z0:=R1.lt
  have hBX:=tx.size
  simp only [La,Lb,Lc] at c0 c1
  obtain ⟨s1,hs1⟩ : ∃ b,Hid (b=qX (some l') kZ):=⟨_,Lh rfl⟩
  obtain ⟨s2,hs2⟩ : ∃ b,Hid (b=qX (some l') jN):=⟨_,Lh rfl⟩
  have hRV:RV wr w.heap.size (some l') (.agg #[.slice A' n' c',.bool false]):=⟨A',n',c',l',false,rfl,hW,rfl⟩
  have HN1:=Lh (qdo (some l') _ kZ w.heap.size wr hRV hBX)
  rw [<- hs1.out] at HN1
  have HN2:Hid (∀ w1,Below wr.heap.size wr w1->Calls prog 46 #[.agg #[.slice A' n' c',.bool false],.string jN] w1 (qh (.bool s2) w1)):=Lh fun w1 hb=>by
   rw [hs2.out]
   exact qdo (some l') _ jN w.heap.size w1 (hRV.below (hb.mono hBX)) (Nat.le_trans hBX hb.size)
  clear hRV
  cases s1 with
  | true =>
   have HR2:Hid (R=(ki l').map fun n=>(zo out,n)):=Lh (by rw [HR.out,qej (.inl hs1.out.symm)])
   clear HR hs1 hs2
   go_upto_region 8 with ((fail_if_success have:=hb1);go_at_call 46;refine HN1.out.mono ?_;rintro e w1 ⟨rfl,hb1⟩;clear c0 c1 f0 f1;have R0:=R1.below hb1 R1.lt;have f0:=R0.frozen 0;have f1:=R0.frozen 1;have c0:=R0.cell 0;have c1:=R0.cell 1;simp only [La,Lb,Lc] at c0 c1)
   clear R0
   refine qa (ChJ w l' out A c) (hJ.on (hb1)) ?_
   clear c0 c1 f0 f1 z0 hBX ho hg hW R1 tx
   clear hJ HN1 HN2
   intro X hJ
   obtain ⟨A',n',c',ho,hg,hW,R1,tx⟩:=id hJ
   have c0:=R1.cell 0
   have c1:=R1.cell 1
   have f0:=R1.frozen 0
   have f1:=R1.frozen 1
   have z0:=R1.lt
   have hBX:=tx.size
   simp only [La,Lb,Lc] at c0 c1
   have HEn:=Lh ((uend_ l' A' n' c' X w.heap.size hW tx.size).mono fun _ _ h=>h.v)
   generalize ki l'=E at *
   cases E with
   | none =>
    have HR3:Hid (R=none):=Lh HR2.out
    clear HR2
    go_wp2_with (go_at_call 49;refine HEn.out.mono ?_;rintro e w5 ⟨hb5,N,rfl⟩)
    go_ret3
    rw [HR3.out]
    exact ⟨tx.trans (hb5.mono hBX),rfl⟩
   | some N =>
    have HR3:Hid (R=some (zo out,N)):=Lh HR2.out
    clear HR2
    go_wp2_with (go_at_call 49;refine HEn.out.mono ?_;rintro e w5 ⟨hb5,rfl⟩)
    go_ret3
    rw [HR3.out]
    exact ⟨tx.trans (hb5.mono hBX),out,A,c,rfl,rfl,qt (qb ho hb5) (by omega),(hg.below hb5).less (by omega)⟩
  | false =>
   cases s2 with
   | true =>
    have HR2:Hid (R=(ki l').map fun n=>(zo out,n)):=Lh (by rw [HR.out,qej (.inr hs2.out.symm)])
    clear HR hs1 hs2
    go_upto_region 8 with (first | ((fail_if_success have:=hb1);go_at_call 46;refine HN1.out.mono ?_;rintro e w1 ⟨rfl,hb1⟩;clear c0 c1 f0 f1;have R0:=R1.below hb1 R1.lt;have f0:=R0.frozen 0;have f1:=R0.frozen 1;have c0:=R0.cell 0;have c1:=R0.cell 1;simp only [La,Lb,Lc] at c0 c1) | (go_at_call 46;refine (HN2.out _ hb1).mono ?_;rintro e w2 ⟨rfl,hb2⟩))
    clear R0
    refine qa (ChJ w l' out A c) (hJ.on (hb1.trans (hb2.mono hb1.size))) ?_
    clear c0 c1 f0 f1 z0 hBX ho hg hW R1 tx
    clear hJ HN1 HN2
    intro X hJ
    obtain ⟨A',n',c',ho,hg,hW,R1,tx⟩:=id hJ
    have c0:=R1.cell 0
    have c1:=R1.cell 1
    have f0:=R1.frozen 0
    have f1:=R1.frozen 1
    have z0:=R1.lt
    have hBX:=tx.size
    simp only [La,Lb,Lc] at c0 c1
    have HEn:=Lh ((uend_ l' A' n' c' X w.heap.size hW tx.size).mono fun _ _ h=>h.v)
    generalize ki l'=E at *
    cases E with
    | none =>
     have HR3:Hid (R=none):=Lh HR2.out
     clear HR2
     go_wp2_with (go_at_call 49;refine HEn.out.mono ?_;rintro e w5 ⟨hb5,N,rfl⟩)
     go_ret3
     rw [HR3.out]
     exact ⟨tx.trans (hb5.mono hBX),rfl⟩
    | some N =>
     have HR3:Hid (R=some (zo out,N)):=Lh HR2.out
     clear HR2
     go_wp2_with (go_at_call 49;refine HEn.out.mono ?_;rintro e w5 ⟨hb5,rfl⟩)
     go_ret3
     rw [HR3.out]
     exact ⟨tx.trans (hb5.mono hBX),out,A,c,rfl,rfl,qt (qb ho hb5) (by omega),(hg.below hb5).less (by omega)⟩
   | false =>
    have HR2:Hid (R=(qaL l').bind fun x=>if vj x.1=0 then yR f' x.2 (zo out++[x.1]) else none):=Lh (by rw [HR.out,qjt hs1.out.symm hs2.out.symm])
    clear HR hs1 hs2
    go_upto_region 4 with (first | ((fail_if_success have:=hb1);go_at_call 46;refine HN1.out.mono ?_;rintro e w1 ⟨rfl,hb1⟩;clear c0 c1 f0 f1;have R0:=R1.below hb1 R1.lt;have f0:=R0.frozen 0;have f1:=R0.frozen 1;have c0:=R0.cell 0;have c1:=R0.cell 1;simp only [La,Lb,Lc] at c0 c1) | (go_at_call 46;refine (HN2.out _ hb1).mono ?_;rintro e w2 ⟨rfl,hb2⟩))
    refine qa (ChJ w l' out A c) (hJ.on (hb1.trans (hb2.mono hb1.size))) ?_
    clear R0
    clear c0 c1 f0 f1 z0 hBX ho hg hW R1 tx
    clear hJ HN1 HN2 hb1 hb2
    intro X hJ
    obtain ⟨A',n',c',ho,hg,hW,R1,tx⟩:=id hJ
    have c0:=R1.cell 0
    have c1:=R1.cell 1
    have f0:=R1.frozen 0
    have f1:=R1.frozen 1
    have z0:=R1.lt
    have hBX:=tx.size
    simp only [La,Lb,Lc] at c0 c1
    have hl':l'.length<=400000:=by omega
    have HCh:=Lh ((uchange_ l' A' n' c' X w.heap.size hW tx.size hl' (HS.out.1.below tx (Nat.le_refl _)) (HS.out.2.1.below tx) (HS.out.2.2.below tx (Nat.le_refl _))).mono fun _ _ h=>h.spl)
    have HLn:Hid (∀ c t,qaL l'=some (c,t)->t.length<l'.length/\SmG c.glyphs):=Lh fun c t h=>chg_len h hl' hW.sz
    have HEq:=Lh (chgP_eq l')
    generalize chgP (some l')=P at *
    obtain ⟨cg,rr⟩:=P
    dsimp only at HEq HCh
    go_upto_region 5 with (go_at_call 47;refine HCh.out.mono ?_;rintro e w3 ⟨Ag,cap,A1,n1,cc,lr,bad,rfl,hr,hW1,hb3,ho3⟩)
    refine qa (ChK w w3.heap.size l' out A c cg Ag cap A1 n1 cc bad lr) (ChK.new hJ hb3 hW1 ho3) ?_
    have hg3:w3.heap.size=w3.heap.size:=rfl
    generalize w3.heap.size=gc at *
    clear c0 c1 f0 f1 z0 hBX ho hg hW R1 tx
    clear hJ hb3 hW1 ho3 HCh hg3
    intro Y hK
    obtain ⟨K1,K2,hJ,hW1,ho3,hgc⟩:=id hK
    have k0:=K1.cell 0
    have k1:=K1.cell 1
    have k2:=K1.cell 2
    have k3:=K1.cell 3
    have k4:=K1.cell 4
    have k5:=K1.cell 5
    have m0:=K2.cell 0
    have m1:=K2.cell 1
    simp only [yG,La,Lb,Lc] at k0 k1 k2 k3 k4 k5 m0 m1
    cases bad with
    | true =>
     have HR3:Hid (R=none):=Lh (by rw [HR2.out,HEq.out,hr];rfl)
     clear HR2 HEq hr HLn HS
     have tx:=hJ.bel
     go_wp2
     go_ret3
     rw [HR3.out]
     exact ⟨tx,rfl⟩
    | false =>
     have HEq2:Hid (qaL l'=some (cg,lr)):=Lh (by rw [HEq.out,hr];rfl)
     obtain ⟨hlr,hsm⟩:=HLn.out cg lr HEq2.out
     have HR3:Hid (R=if vj cg=0 then yR f' lr (zo out++[cg]) else none):=Lh (by rw [HR2.out,HEq2.out];rfl)
     have HCk:=Lh (ucheck_ cg Ag cap Y.heap.size Y hsm.1 (Rd.of_own ho3) (Nat.le_refl _) hsm.2 (HS.out.2.1.below hJ.bel))
     clear HR2 HEq HEq2 hr HLn hsm
     by_cases hK0:vj cg=0
     ·rw [hK0] at HCk
      have HR4:Hid (R=yR f' lr (zo (out++[⟨cg,Ag,cap⟩]))):=Lh (by rw [HR3.out,if_pos hK0];unfold zo;rw [List.map_append];rfl)
      clear HR3 hK0
      go_upto_region 7 with (go_at_call 48;refine HCk.out.mono ?_;rintro e w5 ⟨rfl,hb5⟩)
      refine qa (ChK w gc l' out A c cg Ag cap A1 n1 cc false lr) (hK.on hb5) ?_
      clear k0 k1 k2 k3 k4 k5 m0 m1 K1 K2 hJ hW1 ho3 hgc
      clear hK hb5 HCk
      intro Z hK
      obtain ⟨K1,K2,hJ,hW1,ho3,hgc⟩:=id hK
      have k0:=K1.cell 0
      have k1:=K1.cell 1
      have k2:=K1.cell 2
      have k3:=K1.cell 3
      have k4:=K1.cell 4
      have k5:=K1.cell 5
      have m0:=K2.cell 0
      have m1:=K2.cell 1
      simp only [yG,La,Lb,Lc] at k0 k1 k2 k3 k4 k5 m0 m1
      obtain ⟨A',n',c',ho,hg,hW,R1,tx⟩:=id hJ
      have f0:=R1.frozen 0
      have f1:=R1.frozen 1
      have z0:=R1.lt
      have hlr2:lr.length<l'.length:=hlr
      have htz:=tx.size
      have hbZ:Below Z.heap.size Z Z:=Below.refl _ _
      have kz:=K2.lt
      have kz1:=K1.lt
      go_region_law (refine jZ rfl _ _ _ rfl elt_ch ((w.heap.size+1)) _ rfl ((qb ho (by (repeat (first | exact Below.refl _ _ | assumption | refine Below.drew ?_ | refine Below.alloc ?_ (by first | (simp;done) | (simp;omega) | omega) _ | refine Below.setCell ?_ (by first | (simp;done) | (simp;omega) | omega) _))))) _ _ rfl ((qe (xs:=qb5 ⟨cg,Ag,cap⟩) rfl rfl)) (qhb _) (by omega) (by omega) (by first | (simp;done) | (simp;omega) | omega) ?_;intro A9 c9 w9 hown9 hbel9 hgr9 hat9;have z9:=hbel9.size;(try simp only [Nat.zero_add,List.nil_append] at hown9);have R9:=R1.below (B:=w.heap.size+1) (Below.trans (by (repeat (first | exact Below.refl _ _ | assumption | refine Below.drew ?_ | refine Below.alloc ?_ (by first | (simp;done) | (simp;omega) | omega) _ | refine Below.setCell ?_ (by first | (simp;done) | (simp;omega) | omega) _))) hbel9) (Nat.lt_succ_self _);have K9:=blk_app' (K2.below (by (repeat (first | exact Below.refl _ _ | assumption | refine Below.drew ?_ | refine Below.alloc ?_ (by first | (simp;done) | (simp;omega) | omega) _ | refine Below.setCell ?_ (by first | (simp;done) | (simp;omega) | omega) _))) K2.lt) hgr9 (own_ne (K2.below (by (repeat (first | exact Below.refl _ _ | assumption | refine Below.drew ?_ | refine Below.alloc ?_ (by first | (simp;done) | (simp;omega) | omega) _ | refine Below.setCell ?_ (by first | (simp;done) | (simp;omega) | omega) _))) K2.lt) (qb ho (by (repeat (first | exact Below.refl _ _ | assumption | refine Below.drew ?_ | refine Below.alloc ?_ (by first | (simp;done) | (simp;omega) | omega) _ | refine Below.setCell ?_ (by first | (simp;done) | (simp;omega) | omega) _)))) (by decide));clear f0 f1 m0 m1;have f0:=R9.frozen 0;have f1:=R9.frozen 1;have e0:=R9.cell 0;have e1:=R9.cell 1;have m0:=K9.cell 0;have m1:=K9.cell 1;simp only [La,Lb,Lc] at m0 m1 e0 e1)
      all_goals go_wp2
      all_goals exact ⟨⟨lr,out++[⟨cg,Ag,cap⟩],f',A9,c9,by rw [List.length_append];rfl,ChJ.next (x:=⟨cg,Ag,cap⟩) hJ hW1 ho3 (by (repeat (first | exact Below.refl _ _ | assumption | refine Below.drew ?_ | refine Below.alloc ?_ (by first | (simp;done) | (simp;omega) | omega) _ | refine Below.setCell ?_ (by first | (simp;done) | (simp;omega) | omega) _))) hgr9 hbel9 hown9,by omega,by rw [List.length_append];simp only [List.length_cons,List.length_nil];omega,HR4⟩,by rw [ChJ.left (ChJ.next (x:=⟨cg,Ag,cap⟩) hJ hW1 ho3 (by (repeat (first | exact Below.refl _ _ | assumption | refine Below.drew ?_ | refine Below.alloc ?_ (by first | (simp;done) | (simp;omega) | omega) _ | refine Below.setCell ?_ (by first | (simp;done) | (simp;omega) | omega) _))) hgr9 hbel9 hown9)];exact hlr2⟩
     ·have HR4:Hid (R=none):=Lh (by rw [HR3.out,if_neg hK0])
      have hKb:(vj cg != 0)=true:=bne_iff_ne.2 hK0
      generalize vj cg=K at *
      have tx:=hJ.bel
      clear HR3 hK0 HS
      go_wp2_with (go_at_call 48;refine HCk.out.mono ?_;rintro e w5 ⟨rfl,hb5⟩)
      go_ret3
      rw [HR4.out]
      exact ⟨tx.trans (hb5.mono tx.size),rfl⟩
end Go.Proofs.YticbpkghcglgkaaGreatDoor
