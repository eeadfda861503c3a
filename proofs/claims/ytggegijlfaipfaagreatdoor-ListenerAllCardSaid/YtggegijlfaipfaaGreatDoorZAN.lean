/- Joined: Ra6, Ra5, Vd1, RpP, Rw2, Rp5. -/
import Derived.Test.YtggegijlfaipfaaGreatDoorZAM
set_option linter.unusedVariables false
set_option linter.unusedSimpArgs false
set_option linter.unnecessarySimpa false
set_option maxHeartbeats 8000000
namespace Go.Proofs.YtggegijlfaipfaaGreatDoor
open Go.Proofs.Tryz Go.RowKit
set_option maxRecDepth 20000
theorem take_min (l:List Gl) (j:Nat):l.take (min j l.length)=l.take j:=by
 rw [<- List.take_take,List.take_length]
theorem pad_take (l:List Gl) (j:Nat):qam (l.take j) j=l.take j++List.replicate (j-l.length) spG:=by
 unfold qam;rw [Lu]
 congr 2
 omega
def SpM (B0:Nat) (wr:World) (l:List Gl) (A9:Option Addr) (m c9:Nat) (wz:World):Prop:=m=l.length/\wz.ownsRow B0 61 3 (.slice A9 m c9) m (qi l)/\Below wr.heap.size wr wz/\B0=wr.heap.size
section
variable {W Hh : Int} {rows : List (List Gl)} {vr vc : Int} {vis : Bool} {A : Option Addr} {n c B : Nat} {rs : List RowM} {w : World} {row col count til : Int} {g : List Gl} {Ag : Option Addr} {cap : Nat}
theorem qkC (rd:RdV w B ⟨W,Hh,rows,vr,vc,vis⟩ A n c rs) (hB:B<=w.heap.size) (hn:n<=1000) (hr:0<=row/\row<=Hh-1/\0<=col/\col<=264/\0<=count/\(count=0∨col+count<=((rows.getD row.toNat []).length:Int))) (qnQ:(rows.length:Int)=Hh) (hrl : ∀ x∈rs,x.l.length<=100000000) (rg:Rd w B 3 Ag g.length (qi g)) (hgl:g.length<=100000000) (hgc:g.length<=cap) (hcm:cap<=maxLen) :
  Calls prog 66 #[.agg (vwC ⟨W,Hh,rows,vr,vc,vis⟩ A n c),jH ⟨3,row,col,count,til,g⟩ Ag cap] w (StR ⟨W,Hh,rows,vr,vc,vis⟩ A n c ⟨W,Hh,(List.range n).map fun i=>zI (qkw ⟨W,Hh,rows,vr,vc,vis⟩ ⟨3,row,col,count,til,g⟩ i),vr,vc,vis⟩ w):=by
 obtain ⟨r,rfl⟩ : ∃ r:Nat,row=r:=⟨row.toNat,by omega⟩
 obtain ⟨j,rfl⟩ : ∃ j:Nat,col=j:=⟨col.toNat,by omega⟩
 obtain ⟨q,rfl⟩ : ∃ q:Nat,count=q:=⟨count.toNat,by omega⟩
 obtain ⟨-,-,-,hj,-,hjq⟩:=hr;rw [Int.toNat_natCast] at hjq;have qnF:=Lh (qkK rd hB hrl);have HRS:Hid (∀ k:Nat,qkw ⟨W,Hh,rows,vr,vc,vis⟩ ⟨3,r,j,q,til,g⟩ k=if (k:Int)=(r:Int) then zV (rows.getD k []) j q g else rows.getD k []):=Lh fun k=>by
  unfold qkw;rw [if_neg (show ¬ (3:Int)=2 by decide)]
  rfl
 obtain ⟨f,hf⟩ : ∃ f:Nat->List Gl,f=fun i=>zI (qkw ⟨W,Hh,rows,vr,vc,vis⟩ ⟨3,r,j,q,til,g⟩ i):=⟨_,rfl⟩
 have hfk:Hid (∀ k,f k=zI (qkw ⟨W,Hh,rows,vr,vc,vis⟩ ⟨3,r,j,q,til,g⟩ k)):=Lh fun k=>by rw [hf]
 rw [<- hf];have hRg:=Lh (rg.more hB);replace hjq:=Lh hjq;clear hf rd hrl rg;dsimp only at qnF;have hn9:(n:Int)<=9223372036854775807:=by omega
 have hc9:(cap:Int)<=9223372036854775807:=by unfold maxLen at hcm;omega
 go_enter func66,ntmps66
 go_upto_region 1 with fail
 refine qa (StB w ⟨W,Hh,rows,vr,vc,vis⟩ A n c ⟨3,(r:Int),(j:Int),(q:Int),til,g⟩ Ag cap) (StB.new w ⟨W,Hh,rows,vr,vc,vis⟩ A n c ⟨3,(r:Int),(j:Int),(q:Int),til,g⟩ Ag cap) ?_;intro X hX;obtain ⟨e0,e1,e2,e3,e4,e5⟩:=qw (StB.v hX);obtain ⟨d0,d1,d2,d3,d4,d5,-⟩:=qV (StB.c hX);dsimp only at e0 e1 e2 e3 e4 e5 d0 d1 d2 d3 d4 d5;have hlX:=hX.z.lt
 go_upto_region 4 with fail
 refine qa (fun Y=>Blk Y X.heap.size 24 (vwC ⟨W,Hh,rows,vr,vc,vis⟩ A n c)/\Below X.heap.size X Y) ⟨Blk.new_ rfl,L5⟩ ?_;rintro Y ⟨hY,hbY⟩;have hX1:=hX.on hbY hlX;clear e0 e1 e2 e3 e4 e5 d0 d1 d2 d3 d4 d5;obtain ⟨e0,e1,e2,e3,e4,e5⟩:=qw (StB.v hX1);obtain ⟨d0,d1,d2,d3,d4,d5,-⟩:=qV (StB.c hX1);dsimp only at e0 e1 e2 e3 e4 e5 d0 d1 d2 d3 d4 d5;have f2:=hY.frozen 2;obtain ⟨o0,o1,o2,o3,o4,o5⟩:=qw hY
 go_upto_region 10 with fail
 refine qa (NwS X W Hh vr vc vis [] none 0) ⟨⟨hY.set_ 2 _,⟨zY _ _ _ _,fun x hx=>(by cases hx),rfl⟩,Nat.lt_succ_self _⟩,hbY.setCell (p:=⟨X.heap.size,2,none⟩) (Ld _) _⟩ ?_;clear e0 e1 e2 e3 e4 e5 d0 d1 d2 d3 d4 d5 o0 o1 o2 o3 o4 o5 f2 hX1 hY hbY;clear Y;intro Y hS;go_wp2
 go_loopw [6] (fun x wr=>∃ k:Nat,k<=n/\x = .int .i64 k/\∃ rs2 A2 c2,Hid (rls rs2=(List.range k).map f)/\NwS X W Hh vr vc vis rs2 A2 c2 wr) (fun x _=>n-(intOf x).toNat)
 case atStart=>exact ⟨0,Nat.zero_le _,rfl,[],none,0,Lh rfl,hS⟩
 case round =>
  clear hS;obtain ⟨k,hk,rfl,rs2,A2,c2,hr2,hS⟩:=hrel;have hX1:=hX.on hS.old hlX;obtain ⟨e0,e1,e2,e3,e4,e5⟩:=qw (StB.v hX1);obtain ⟨d0,d1,d2,d3,d4,d5,-⟩:=qV (StB.c hX1);dsimp only at e0 e1 e2 e3 e4 e5 d0 d1 d2 d3 d4 d5
  by_cases hlt:k<n
  ·obtain ⟨x,hxl,hxg,hxn,hx1,-⟩:=qnF.out k;replace hxl:=Lh hxl;obtain ⟨b,o,rfl,hbl,qnM⟩:=hx1 hlt;have hcx:=(hX1.bel.cell (p:=⟨b,o+k,none⟩) hbl).trans qnM;have hki:(k:Int)<n:=by omega
   have hl2:rs2.length<=1000:=by
    have:=congrArg List.length hr2.out;rw [vJ,Lq,List.length_range] at this
    omega
   have hbw:=hX1.bel;have hRG:RdG wr wr.heap.size x:=(hxg.below hbw).more hbw.size;clear hx1 hxg
   by_cases hkr:k=r
   ·subst hkr;have hrr:((k:Int)==(k:Int))=true:=Lw _;have hT : ∀ wz A9 m c9,SpM wr.heap.size wr (zV x.l j q g) A9 m c9 wz->TrH X W Hh vr vc vis rs2 A2 c2 k f wz (zV x.l j q g) A9 m c9:=fun wz A9 m c9 ⟨h1,h2,h3,_⟩=>by
     subst h1;refine .mk (hS.on h3) (qe8 (qt h2 (Nat.zero_le _))) rfl ?_ (by rw [hfk.out,HRS.out,if_pos rfl,<- hxl.out]) hr2.out;unfold zV;simp only [Lf,Lu,List.length_replicate,List.length_drop]
     omega
    replace hT:=Lh hT;have hjq2:q=0∨j+q<=x.l.length:=by have:=hjq.out;rw [<- hxl.out] at this;omega
    obtain ⟨l,Al,cl⟩:=x;dsimp only at *
    have hcl63:(cl:Int)<=9223372036854775807:=by have:=hRG.2.2;unfold maxLen at this;dsimp only at this;omega
    have hlc:l.length<=cl:=hRG.2.1;have hmn:min (j:Int) (l.length:Int)=((min j l.length:Nat):Int):=by omega
    obtain ⟨M,hM⟩ : ∃ M,M=min j l.length:=⟨_,rfl⟩
    rw [<- hM] at hmn;have hM1:M<=l.length:=by omega
    have hM2:M<=j:=by omega
    have hM3:M<=cl:=by omega
    have hMl:Hid (l.take M=l.take j):=Lh (by rw [hM,take_min]);have hMk:Hid ((l.take j).length=M):=Lh (by rw [hM,Lu]);have hTk:=hRG.1.take hM1;rw [<- kM,hMl.out] at hTk;have hRGl:=Lh hRG.1;clear hM hRG;obtain ⟨wo,rfl⟩ : ∃ y:World,y=wr:=⟨_,rfl⟩
    go_wp2_with (at_builtin;go_must (refine qg rfl _ _ _ rfl qbz (wo.heap.size) _ rfl ((zY _ _ _ _)) _ _ rfl (hTk) ?_);intro A9 c9 w9 qmE qmL qmH hat9;have z9:=qmL.size;(try simp only [Li] at z9);(try simp only [Lo,Lg] at qmE))
    have hI:SpM wo.heap.size wo (qam (l.take j) M) A9 M c9 w9:=by
     have e:=qkE (l.take j);rw [hMk.out] at e;exact ⟨by rw [e,hMk.out],by rw [e];exact qmE,qmL,rfl⟩
    clear qmE qmL qmH hat9 z9 hTk hmn hcx e0 e1 e2 e3 e4 e5 d0 d1 d2 d3 d4 d5 hX1
    go_loopw [9] (fun v wz=>∃ m A9 c9,M<=m/\m<=j/\v = .slice A9 m c9/\SpM wo.heap.size wo (qam (l.take j) m) A9 m c9 wz) (fun v _=>j-qdq v)
    case atStart=>exact ⟨M,A9,c9,Ld _,hM2,rfl,hI⟩
    case round =>
     clear hI;obtain ⟨m,A9,c9,hm1,hm2,rfl,hsm,ho,hbz,-⟩:=hrel;replace hsm:=Lh hsm;have hX2:=hX.on (hS.on hbz).old hlX;have hzz:=hbz.size;obtain ⟨e0,e1,e2,e3,e4,e5⟩:=qw (StB.v hX2);obtain ⟨d0,d1,d2,d3,d4,d5,-⟩:=qV (StB.c hX2);dsimp only at e0 e1 e2 e3 e4 e5 d0 d1 d2 d3 d4 d5
     by_cases hmj:m<j
     ·go_wp2_with (at_builtin;go_must (refine qg rfl _ _ _ rfl qbz wo.heap.size _ rfl (ho.alloc _) _ _ rfl (qe (xs:=ym spG) (by rfl) rfl) ?_);intro A5 c5 w5 qnA qmz hgr5 hat5)
      have hp:=qkG (l.take j) (m:=m) (by have:=hMk.out;omega);exact ⟨⟨m+1,A5,c5,by omega,by omega,rfl,by rw [hp,Lf,<- hsm.out];rfl,by rw [hp,kF];simpa [qi] using qnA,((hbz.alloc hzz _).trans qmz),rfl⟩,by simp only [qdq];omega⟩
     ·obtain rfl:j=m:=by omega
      rw [pad_take] at ho;clear hsm hmj
      go_upto_region 25 with (at_builtin;go_must (refine qg rfl _ _ _ rfl qbz (wo.heap.size) _ rfl (ho) _ _ rfl ((hRg.out.below hX2.bel)) ?_);intro A8 c8 w8 hown8 hbel8 hgr8 hat8;have z8:=hbel8.size;(try simp only [Li] at z8);(try simp only [Lo,Lg] at hown8))
      have hb8:=hbz.trans hbel8;have hX3:=hX.on (hS.on hb8).old hlX;clear e0 e1 e2 e3 e4 e5 d0 d1 d2 d3 d4 d5 hX2 hgr8 hat8 hbel8 ho hbz;obtain ⟨e0,e1,e2,e3,e4,e5⟩:=qw (StB.v hX3);obtain ⟨d0,d1,d2,d3,d4,d5,-⟩:=qV (StB.c hX3);dsimp only at e0 e1 e2 e3 e4 e5 d0 d1 d2 d3 d4 d5
      by_cases hjl:j<l.length
      ·have hw:IntKind.i64.wrap ((j:Int)+q)=(j:Int)+q:=by rw [Lx];omega
       obtain ⟨t,ht⟩ : ∃ t,t=j+q:=⟨_,rfl⟩
       have hti:(j:Int)+q=t:=by omega
       rw [hti] at hw;have htl:t<=l.length:=by omega
       have hcut:=(((hRGl.out.below hb8).cut (k:=t) (cap:=cl) htl hlc))
       rw [<- qbO] at hcut;replace ht:=Lh ht;have hll:(l.length:Int)<=cl:=by omega
       go_upto_region 28 with (at_builtin;go_must (refine qg rfl _ _ _ rfl qbz (wo.heap.size) _ rfl (hown8) _ _ rfl (hcut) ?_);intro A7 c7 w7 hown7 hbel7 hgr7 hat7;have z7:=hbel7.size;(try simp only [Li] at z7);(try simp only [Lo,Lg] at hown7))
       have hT2:=hT.out w7 A7 (j+g.length+(l.length-t)) c7 ⟨by unfold zV;simp only [Lf,Lu,List.length_replicate,List.length_drop];have:=ht.out;omega,by rw [show qi (zV l j q g)=qi (l.take j++List.replicate (j-l.length) spG)++qi g++qi (l.drop t) by rw [ht.out];simp only [zV,kF,List.append_assoc]];exact hown7,hb8.trans hbel7,rfl⟩;clear hown7 hown8 hbel7 hgr7 hat7 hcut hX3 e0 e1 e2 e3 e4 e5 d0 d1 d2 d3 d4 d5 hT hMl hMk hRGl hxl hfk HRS qnF;obtain ⟨hS,hTr,hNx⟩:=hT2;replace hTr:=Lh hTr;replace hNx:=Lh hNx;obtain ⟨o0,o1,o2,o3,o4,o5⟩:=qw hS.o.blk;dsimp only at o0 o1 o2 o3 o4 o5;have hgl:=hS.o.blk.lt
       go_upto_region 28 with fail
       go_region_law (first
        | (go_simp;go_at_call 90;refine (hTr.out _ ql8).mono ?_;rintro e w2 ⟨A6,c6,rfl,o6,b6⟩;have zb:=b6.size;have z2:=(b6.cell (p:=⟨X.heap.size,2,none⟩) hgl).trans o2;have hR6:=qb hS.o.own.rows b6;have hB6:=hS.o.blk.below b6 hgl;have z3 : ∀ o,(w2.alloc o).cell? ⟨X.heap.size,2,none⟩=some (.slice A2 rs2.length c2):=fun o=>(hB6.alloc o).cell 2)
        | (refine jZ rfl _ _ _ rfl elt_row (X.heap.size+1) _ rfl (by first | exact hR6.alloc _ | exact (hR6.alloc _).drew) _ _ rfl (qe (xs:=[.slice A6 _ c6]) (by rfl) rfl) (by rfl) ?_;intro A4 c4 w4 qmC qmy qmG qmI;have hB4:=(hB6.alloc _).grown qmG (qku hS.o);have q4:w4.cell? ⟨X.heap.size,2,none⟩=some (.slice A2 rs2.length c2):=hB4.cell 2;have y4:=hB4.frozen 2))
       all_goals go_wp2
       all_goals exact ⟨⟨k+1,by omega,by go_num,hNx.out _ _ _ _ _ _ (b6.alloc b6.size _) (o6.alloc _) qmC qmG qmy⟩,by simp [intOf];omega⟩
      ·have hT2:=hT.out w8 A8 (j+g.length) c8 ⟨by unfold zV;simp only [Lf,Lu,List.length_replicate,List.length_drop];omega,by rw [show qi (zV l j q g)=qi (l.take j++List.replicate (j-l.length) spG)++qi g by rw [zV,Lv L0,List.append_nil,kF]];exact hown8,hb8,rfl⟩
       go_upto_region 28 with fail
       clear hown8 hX3 e0 e1 e2 e3 e4 e5 d0 d1 d2 d3 d4 d5 hT hMl hMk hRGl hxl hfk HRS qnF;obtain ⟨hS,hTr,hNx⟩:=hT2;replace hTr:=Lh hTr;replace hNx:=Lh hNx;obtain ⟨o0,o1,o2,o3,o4,o5⟩:=qw hS.o.blk;dsimp only at o0 o1 o2 o3 o4 o5;have hgl:=hS.o.blk.lt
       go_upto_region 28 with fail
       go_region_law (first
        | (go_simp;go_at_call 90;refine (hTr.out _ ql8).mono ?_;rintro e w2 ⟨A6,c6,rfl,o6,b6⟩;have zb:=b6.size;have z2:=(b6.cell (p:=⟨X.heap.size,2,none⟩) hgl).trans o2;have hR6:=qb hS.o.own.rows b6;have hB6:=hS.o.blk.below b6 hgl;have z3 : ∀ o,(w2.alloc o).cell? ⟨X.heap.size,2,none⟩=some (.slice A2 rs2.length c2):=fun o=>(hB6.alloc o).cell 2)
        | (refine jZ rfl _ _ _ rfl elt_row (X.heap.size+1) _ rfl (by first | exact hR6.alloc _ | exact (hR6.alloc _).drew) _ _ rfl (qe (xs:=[.slice A6 _ c6]) (by rfl) rfl) (by rfl) ?_;intro A4 c4 w4 qmC qmy qmG qmI;have hB4:=(hB6.alloc _).grown qmG (qku hS.o);have q4:w4.cell? ⟨X.heap.size,2,none⟩=some (.slice A2 rs2.length c2):=hB4.cell 2;have y4:=hB4.frozen 2))
       all_goals go_wp2
       all_goals exact ⟨⟨k+1,by omega,by go_num,hNx.out _ _ _ _ _ _ (b6.alloc b6.size _) (o6.alloc _) qmC qmG qmy⟩,by simp [intOf];omega⟩
   ·have hrr:((k:Int)==(r:Int))=false:=Lm.2 L0;have hT:TrH X W Hh vr vc vis rs2 A2 c2 k f wr x.l x.A x.l.length x.cap:=.mk hS hRG rfl L0 (by rw [hfk.out,HRS.out,if_neg L0,hxl.out]) hr2.out;clear hxl hRG hkr;obtain ⟨hS,hTr,hNx⟩:=hT;replace hTr:=Lh hTr;replace hNx:=Lh hNx;obtain ⟨o0,o1,o2,o3,o4,o5⟩:=qw hS.o.blk;dsimp only at o0 o1 o2 o3 o4 o5;have hgl:=hS.o.blk.lt
    go_upto_region 28 with fail
    go_region_law (first
     | (go_simp;go_at_call 90;refine (hTr.out _ ql8).mono ?_;rintro e w2 ⟨A6,c6,rfl,o6,b6⟩;have zb:=b6.size;have z2:=(b6.cell (p:=⟨X.heap.size,2,none⟩) hgl).trans o2;have hR6:=qb hS.o.own.rows b6;have hB6:=hS.o.blk.below b6 hgl;have z3 : ∀ o,(w2.alloc o).cell? ⟨X.heap.size,2,none⟩=some (.slice A2 rs2.length c2):=fun o=>(hB6.alloc o).cell 2)
     | (refine jZ rfl _ _ _ rfl elt_row (X.heap.size+1) _ rfl (by first | exact hR6.alloc _ | exact (hR6.alloc _).drew) _ _ rfl (qe (xs:=[.slice A6 _ c6]) (by rfl) rfl) (by rfl) ?_;intro A4 c4 w4 qmC qmy qmG qmI;have hB4:=(hB6.alloc _).grown qmG (qku hS.o);have q4:w4.cell? ⟨X.heap.size,2,none⟩=some (.slice A2 rs2.length c2):=hB4.cell 2;have y4:=hB4.frozen 2))
    all_goals go_wp2
    all_goals exact ⟨⟨k+1,by omega,by go_num,hNx.out _ _ _ _ _ _ (b6.alloc b6.size _) (o6.alloc _) qmC qmG qmy⟩,by simp [intOf];omega⟩
  ·obtain rfl:n=k:=by omega
   have hz1:=hX1.z;obtain ⟨z0,z1,z2,z3,z4,z5,y0,y1,y2,y3,y4,y5⟩:=ZB.facts hz1;obtain ⟨o0,o1,o2,o3,o4,o5⟩:=qw hS.o.blk;dsimp only at o0 o1 o2 o3 o4 o5;have hgl:=hS.o.blk.lt;go_wp2;have hx:=(hS.o.own.set6 (g:=w.heap.size+2) L0 (.int .i64 W) (.int .i64 Hh) (.slice A2 rs2.length c2) (.int .i64 vr) (.int .i64 vc) (.bool vis)).less (N':=w.heap.size) L0;exact bodyPost_ret (results_cell_row rfl _ _ (w.heap.size+2) 24 _ (0,0) _ rfl (ZB.set6 hz1 ⟨W,Hh,rls rs2,vr,vc,vis⟩ A2 rs2.length c2) underlying24 rfl (by kernel_rfl)) rfl ⟨qap hX1.bel L0 _ _ _ _ _ _,.inl ⟨A2,rs2.length,c2,rs2,rfl,hx.rows2 hr2.out.symm⟩⟩
end
theorem rstep19_ (v:Vw) (A:Option Addr) (n c B:Nat) (rs:List RowM) (ch:Chg) (Ag:Option Addr) (cap:Nat) (w:World) (rd:RdV w B v A n c rs) (hB:B<=w.heap.size) (hon:OnV v) (h0:qan v ch=0) (hrl : ∀ x∈rs,x.l.length<=100000000) (rg:Rd w B 3 Ag ch.glyphs.length (qi ch.glyphs)) (hgl:ch.glyphs.length<=100000000) (hgc:ch.glyphs.length<=cap) (hcm:cap<=maxLen) :
  Calls prog 66 #[.agg (vwC v A n c),jH ch Ag cap] w (StR v A n c (jY v ch) w):=by
 obtain ⟨⟨k1,k4⟩,hb,hr,hg⟩:=qey h0;have hs:=jW.1 hon.size;have qnQ:=hon.rows;have hn:=rd.len
 by_cases h23:ch.kind=2∨ch.kind=3
 ·rw [qkU h23 hr hon.trim qnQ,hn];obtain ⟨W,Hh,rows,vr,vc,vis⟩:=v;obtain ⟨kind,row,col,count,til,g⟩:=ch;dsimp only at *
  rcases h23 with rfl | rfl
  ·rw [kk] at hr;have:=of_decide_eq_true hr;dsimp only at this;exact qkP rd hB L0 L0 hrl
  ·rw [qai] at hr;have:=of_decide_eq_true hr;dsimp only at this;exact qkC rd hB L0 this qnQ hrl rg hgl hgc hcm
 ·obtain ⟨W,Hh,rows,vr,vc,vis⟩:=v;obtain ⟨kind,row,col,count,til,g⟩:=ch;dsimp only at *
  rcases (show kind=1∨kind=4 by omega) with rfl | rfl
  ·exact qkS rd hB hr hrl
  ·exact qkL
def SaR (N:Nat) (A0:Option Addr) (n0 c0:Nat) (rs0:List RowM) (X:World) (v:Vw) (A:Option Addr) (n c:Nat) (rs:List RowM):Prop:=(A=A0/\n=n0/\c=c0/\rs=rs0)∨OwV N X v A n c rs
section
variable {N N' n c n0 c0 g : Nat} {X X' : World} {v v' : Vw} {A A0 : Option Addr} {rs rs0 : List RowM}
theorem SaR.below (h:SaR N A0 n0 c0 rs0 X v A n c rs) (hb:Below X.heap.size X X'):SaR N A0 n0 c0 rs0 X' v A n c rs:=h.imp id fun h=>h.below hb
theorem SaR.set6 (h:SaR N A0 n0 c0 rs0 X v A n c rs) (hg:g<N) (u0 u1 u2 u3 u4 u5:Value):SaR N A0 n0 c0 rs0 ((((((X.setCell ⟨g,0,none⟩ u0).setCell ⟨g,1,none⟩ u1).setCell ⟨g,2,none⟩ u2).setCell ⟨g,3,none⟩ u3).setCell ⟨g,4,none⟩ u4).setCell ⟨g,5,none⟩ u5) v A n c rs:=h.imp id fun h=>h.set6 hg _ _ _ _ _ _
theorem SaR.rows2 (h:SaR N A0 n0 c0 rs0 X v A n c rs) (e:v'.rows=v.rows):SaR N A0 n0 c0 rs0 X v' A n c rs:=h.imp id fun h=>h.rows2 e
theorem SaR.less (h:SaR N A0 n0 c0 rs0 X v A n c rs) (hn:N'<=N):SaR N' A0 n0 c0 rs0 X v A n c rs:=h.imp id fun h=>h.less hn
end
def RaL (w:World) (B:Nat) (A0:Option Addr) (n0 c0:Nat) (rs0:List RowM) (cs:List ChgM) (R:Vw × Int) (k:Nat) (X:World):Prop :=
 ∃ v A n c rs,Blk X w.heap.size 24 (vwC v A n c)/\XV B (w.heap.size+2) X v A n c rs/\SaR (w.heap.size+2) A0 n0 c0 rs0 X v A n c rs/\OnV v/\LenV v (100000000-glN (zo (cs.drop k)))/\R=goV v (zo (cs.drop k))/\ZB X (w.heap.size+1)/\Below w.heap.size w X
def RaR (B:Nat) (A0:Option Addr) (n0 c0:Nat) (rs0:List RowM) (r:Vw × Int) (w:World) (e:Ending) (w':World):Prop :=
 Below w.heap.size w w'/\∃ A n c rs,∃ i:Int,e = .returned (.tuple #[.agg (vwC r.1 A n c),.int .i64 i,.int .i64 r.2])/\XV B w.heap.size w' r.1 A n c rs/\SaR w.heap.size A0 n0 c0 rs0 w' r.1 A n c rs
theorem RaR.err {B:Nat} {A0:Option Addr} {n0 c0:Nat} {rs0:List RowM} {w X:World} {r:Vw × Int} {i E:Int} (h:r=(vw0,E)) (hb:Below w.heap.size w X) (u0 u1 u2 u3 u4 u5:Value):RaR B A0 n0 c0 rs0 r w (.returned (.tuple #[.agg (vwC vw0 none 0 0),.int .i64 i,.int .i64 E])) ((((((X.setCell ⟨w.heap.size+1,0,none⟩ u0).setCell ⟨w.heap.size+1,1,none⟩ u1).setCell ⟨w.heap.size+1,2,none⟩ u2).setCell ⟨w.heap.size+1,3,none⟩ u3).setCell ⟨w.heap.size+1,4,none⟩ u4).setCell ⟨w.heap.size+1,5,none⟩ u5):=by
 subst h;exact ⟨qap hb L0 _ _ _ _ _ _,none,0,0,[],i,rfl,.inr (OwV.none_ _ _),.inr (OwV.none_ _ _)⟩
abbrev set6v (X:World) (g:Nat) (v:Vw) (A:Option Addr) (n c:Nat):World:=(((((X.setCell ⟨g,0,none⟩ (.int .i64 v.width)).setCell ⟨g,1,none⟩ (.int .i64 v.height)).setCell ⟨g,2,none⟩ (.slice A n c)).setCell ⟨g,3,none⟩ (.int .i64 v.row)).setCell ⟨g,4,none⟩ (.int .i64 v.col)).setCell ⟨g,5,none⟩ (.bool v.vis)
theorem qkQ {X:World} {g n c:Nat} {t:TypeId} {v:Vw} {A:Option Addr} (h:Blk X g t (vwC v A n c)) (v':Vw) (A':Option Addr) (n' c':Nat):Blk (set6v X g v' A' n' c') g t (vwC v' A' n' c') :=
 (((((h.set_ 0 _).set_ 1 _).set_ 2 _).set_ 3 _).set_ 4 _).set_ 5 _
theorem blk_far6 {X:World} {g k:Nat} {t:TypeId} {cs:Array Value} (h:Blk X k t cs) (hk:k≠g) (u0 u1 u2 u3 u4 u5:Value):Blk ((((((X.setCell ⟨g,0,none⟩ u0).setCell ⟨g,1,none⟩ u1).setCell ⟨g,2,none⟩ u2).setCell ⟨g,3,none⟩ u3).setCell ⟨g,4,none⟩ u4).setCell ⟨g,5,none⟩ u5) k t cs :=
 (((((h.far (p:=⟨g,0,none⟩) hk _).far (p:=⟨g,1,none⟩) hk _).far (p:=⟨g,2,none⟩) hk _).far (p:=⟨g,3,none⟩) hk _).far (p:=⟨g,4,none⟩) hk _).far (p:=⟨g,5,none⟩) hk _
theorem v6_near {B g:Nat} {wb:World} {t:TypeId} {W H r cl:Int} {rows:List (List Gl)} {vs:Bool} {A:Option Addr} {n c:Nat} (h:Blk wb g t (vwC ⟨W,H,rows,r,cl,vs⟩ A n c)) (hg:g<B) :
  (∀ x:Near B wb,x.w.cell? ⟨g,0,none⟩=some (.int .i64 W))/\(∀ x:Near B wb,x.w.cell? ⟨g,1,none⟩=some (.int .i64 H))/\(∀ x:Near B wb,x.w.cell? ⟨g,2,none⟩=some (.slice A n c))/\(∀ x:Near B wb,x.w.cell? ⟨g,3,none⟩=some (.int .i64 r))/\(∀ x:Near B wb,x.w.cell? ⟨g,4,none⟩=some (.int .i64 cl))/\(∀ x:Near B wb,x.w.cell? ⟨g,5,none⟩=some (.bool vs)) :=
 ⟨fun x=>(h.below x.h hg).cell 0,fun x=>(h.below x.h hg).cell 1,fun x=>(h.below x.h hg).cell 2,fun x=>(h.below x.h hg).cell 3,fun x=>(h.below x.h hg).cell 4,fun x=>(h.below x.h hg).cell 5⟩
theorem vw12 {X:World} {g:Nat} {t:TypeId} {W H r cl:Int} {rows:List (List Gl)} {vs:Bool} {A:Option Addr} {n c:Nat} (h:Blk X g t (vwC ⟨W,H,rows,r,cl,vs⟩ A n c)):X.cell? ⟨g,0,none⟩=some (.int .i64 W)/\X.cell? ⟨g,1,none⟩=some (.int .i64 H)/\X.cell? ⟨g,2,none⟩=some (.slice A n c)/\X.cell? ⟨g,3,none⟩=some (.int .i64 r)/\X.cell? ⟨g,4,none⟩=some (.int .i64 cl)/\X.cell? ⟨g,5,none⟩=some (.bool vs) /\
  X.frozen? ⟨g,0,none⟩=false/\X.frozen? ⟨g,1,none⟩=false/\X.frozen? ⟨g,2,none⟩=false/\X.frozen? ⟨g,3,none⟩=false/\X.frozen? ⟨g,4,none⟩=false/\X.frozen? ⟨g,5,none⟩=false :=
 ⟨h.cell 0,h.cell 1,h.cell 2,h.cell 3,h.cell 4,h.cell 5,h.frozen 0,h.frozen 1,h.frozen 2,h.frozen 3,h.frozen 4,h.frozen 5⟩
theorem qkW (v:Vw) (A:Option Addr) (n c B:Nat) (rs:List RowM) (cs:List ChgM) (Ac:Option Addr) (nc cc:Nat) (w:World) (rd:RdV w B v A n c rs) (rc:RdC w w.heap.size Ac nc cs) (hcc:nc<=cc) (hcm:cc<=maxLen) (hB:B<=w.heap.size)
  (hM : ∀ x∈rs,x.l.length+glN (zo cs)<=100000000) (hz : ∀ x∈rs,∀ g∈x.l,g.text.size<=1000000000) (hgz : ∀ x∈cs,x.c.glyphs.length<=100000000/\∀ g∈x.c.glyphs,g.text.size<=1000000000) (hnc:nc<=1000000) :
  Calls prog 36 #[.agg (vwC v A n c),.slice Ac nc cc] w (RaR B A n c rs (yx v (zo cs)) w):=by
 obtain ⟨R,hR⟩ : ∃ R,Hid (yx v (zo cs)=R):=⟨_,Lh rfl⟩
 rw [hR.out];have HCh:Hid (∀ w',Below w.heap.size w w'->Calls prog 34 #[.agg (vwC v A n c)] w' (qh (.int .i64 (js v)) w')):=Lh fun w' hb=>qjk v A n c w.heap.size rs w' ((rd.more hB).below hb) hb.size (fun x hx=>⟨by have:=hM x hx;omega,hz x hx⟩)
 have HLn:Hid (LenV v (100000000-glN (zo cs))):=Lh fun l hl=>by
  rw [rd.2.1] at hl;obtain ⟨x,hx,rfl⟩:=List.mem_map.1 hl;have:=hM x hx
  omega
 have HGl0:Hid (v.rows≠[]->glN (zo cs)<=100000000):=Lh fun h=>by
  rw [rd.2.1] at h
  cases rs with
  | nil=>exact absurd rfl h
  | cons x t=>have:=hM x L1;omega
 have HRc:=Lh rc;have HGz:=Lh hgz;have HRd:=Lh rd;have hnl:cs.length=nc:=rc.len;clear rd rc hM hz hgz;obtain ⟨W,Hh,rows,vr,vc,vis⟩:=v
 go_enter func36,ntmps36
 go_upto_region 1 with fail
 refine qa (fun X=>Blk X w.heap.size 24 (vwC ⟨W,Hh,rows,vr,vc,vis⟩ A n c)/\ZB X (w.heap.size+1)/\Below w.heap.size w X) ⟨(Blk.new_ rfl).alloc _,Blk.new_ L1,(L5).alloc L1 _⟩ ?_;rintro X ⟨hv,hzb,hb⟩;obtain ⟨e0,e1,e2,e3,e4,e5⟩:=qw hv;dsimp only at e0 e1 e2 e3 e4 e5;have hlz:=hzb.lt
 by_cases hv0:js ⟨W,Hh,rows,vr,vc,vis⟩=0
 ·have h0:(js ⟨W,Hh,rows,vr,vc,vis⟩ != 0)=false:=by rw [hv0];rfl
  have hOn:=OnV.of hv0;have hRe:R=goV ⟨W,Hh,rows,vr,vc,vis⟩ (zo cs):=by rw [<- hR.out,yx,if_neg (by simpa using hv0)]
  have hGl1:glN (zo cs)<=100000000:=HGl0.out fun e=>by have h1:=hOn.rows;have h2:=jW.1 hOn.size;rw [e] at h1;simp at h1;dsimp only at h2;omega
  have hI : ∀ Y,Below X.heap.size X Y->RaL w B A n c rs cs R 0 Y:=fun Y hY=>⟨⟨W,Hh,rows,vr,vc,vis⟩,A,n,c,rs,hv.below hY hv.lt,.inl (HRd.out.below ((hb.trans (hY.mono hb.size)).mono hB)),.inl ⟨rfl,rfl,rfl,rfl⟩,hOn,HLn.out,hRe,hzb.below hY hlz,hb.trans (hY.mono hb.size)⟩
  replace hI:=Lh hI;generalize js ⟨W,Hh,rows,vr,vc,vis⟩=VC at *
  clear hv0 HLn HGl0 hR hOn hRe
  go_upto_region 3 with (go_at_call 34;refine (HCh.out _ hb).mono ?_;rintro e w1 ⟨rfl,hb1⟩)
  have hI0:=hI.out _ hb1;clear hI hb1 h0 e0 e1 e2 e3 e4 e5 hv hzb hb HCh hlz HRd;clear X;go_wp2
  go_loopw [7] (fun x wr=>∃ k:Nat,k<=nc/\x = .int .i64 k/\RaL w B A n c rs cs R k wr) (fun x _=>nc-(intOf x).toNat)
  case atStart=>exact ⟨0,Nat.zero_le _,rfl,hI0⟩
  case round =>
   clear hI0;obtain ⟨k,hk,rfl,v1,A1,n1,c1,rs1,hv,hx,hsa,hOn,hLn,hRe,hzb,hb⟩:=hrel;have hzlt:=hzb.lt;have hBz:B<=wr.heap.size:=Lj hB hb.size
   by_cases hlt:k<nc
   ·have hkc:k<cs.length:=by omega
    have hrc:=(HRc.out.below hb).more hb.size;obtain ⟨b,o,rfl,hbl,k0,k1,k2,k3,k4,k5⟩:=hrc.at_ hkc;have hxm:=Lt hkc;have hs:=jW.1 hOn.size;have hg1:=qkz (zo cs) k;rw [show (zo cs).drop k=zo (cs.drop k) from by unfold zo;rw [List.map_drop],qbd hkc,qb3] at hg1;rw [qbd hkc,qb3] at hLn;have hrd:=hx.rdV hBz;have hrl : ∀ x∈rs1,x.l.length<=100000000:=fun x hx1=>by
     have:=hLn x.l (by rw [hx.eq];exact List.mem_map_of_mem hx1)
     omega
    have HCk:Hid (∀ w',Below wr.heap.size wr w'->Calls prog 65 #[.agg (vwC v1 A1 n1 c1),jH cs[k].c cs[k].A cs[k].cap] w' (qh (.int .i64 (qan v1 cs[k].c)) w')):=Lh fun w' hb' =>
     rfits19_ v1 A1 n1 c1 wr.heap.size rs1 cs[k].c cs[k].A cs[k].cap w' (hrd.below hb') hb'.size hOn.rows hOn.size (fun x hx=>Lj (hrl x hx) L2) ((hrc.gl _ hxm).1.below hb') (Lj (HGz.out _ hxm).1 L2) (HGz.out _ hxm).2
    have HAp:Hid (qan v1 cs[k].c=0->∀ w',Below wr.heap.size wr w'->Calls prog 66 #[.agg (vwC v1 A1 n1 c1),jH cs[k].c cs[k].A cs[k].cap] w' fun e w''=>∃ v2 A2 n2 c2,e = .returned (.agg #[.int .i64 v2.width,.int .i64 v2.height,.slice A2 n2 c2,.int .i64 v2.row,.int .i64 v2.col,.bool v2.vis])/\Below wr.heap.size wr w''/\RaL w B A n c rs cs R (k+1) (set6v w'' w.heap.size v2 A2 n2 c2)):=Lh fun h0 w' hb'=>by
     obtain ⟨q1,q2,q3,q4⟩:=qey h0;have hg:=hrc.gl _ hxm;refine (rstep19_ v1 A1 n1 c1 wr.heap.size rs1 cs[k].c cs[k].A cs[k].cap w' (hrd.below hb') hb'.size hOn h0 hrl (hg.1.below hb') (HGz.out _ hxm).1 hg.2.1 hg.2.2).mono ?_;rintro e w'' ⟨hb2,h2⟩;have hb3:Below wr.heap.size wr w'':=hb'.trans (hb2.mono hb'.size);have hxx : ∃ A2 n2 c2 rs2,e = .returned (.agg (vwC (jY v1 cs[k].c) A2 n2 c2))/\XV B (w.heap.size+2) w'' (jY v1 cs[k].c) A2 n2 c2 rs2/\SaR (w.heap.size+2) A n c rs w'' (jY v1 cs[k].c) A2 n2 c2 rs2:=by
      rcases h2 with ⟨A2,n2,c2,rs2,h3,h4⟩ | ⟨h3,h4⟩
      ·exact ⟨A2,n2,c2,rs2,h3,.inr (h4.less (by have:=hb'.size;omega)),.inr (h4.less (by have:=hb'.size;omega))⟩
      ·exact ⟨A1,n1,c1,rs1,h4,(hx.below hBz hb3).rows h3,(hsa.below hb3).rows2 h3⟩
     obtain ⟨A2,n2,c2,rs2,rfl,hx2,hs2⟩:=hxx;have hvl:=hv.lt;refine ⟨jY v1 cs[k].c,A2,n2,c2,rfl,hb3,jY v1 cs[k].c,A2,n2,c2,rs2,qkQ (hv.below hb3 hvl) _ _ _ _,hx2.set6 hB L0 _ _ _ _ _ _,hs2.set6 L0 _ _ _ _ _ _,hOn.step h0,?_,?_,?_,qap (hb.trans (hb3.mono hb.size)) (Ld _) _ _ _ _ _ _⟩
     ·intro l hl;have:=(hLn.step q3) l hl
      omega
     ·rw [hRe,qbd hkc,goV,if_neg (by simpa using h0)]
     ·exact blk_far6 (hzb.below hb3 hzlt) L0 _ _ _ _ _ _
    have HRn:Hid (qan v1 cs[k].c≠0->R=(vw0,qan v1 cs[k].c)):=Lh fun h0=>by
     rw [hRe,qbd hkc,goV,if_pos h0]
    have hzb':=Lh hzb;have hb':=Lh hb;have hBw:=hb.size;generalize hF:qan v1 cs[k].c=F at *
    clear hF;generalize cs[k]=x at *
    obtain ⟨⟨kind,row,col,count,til,gl⟩,Ag,cap⟩:=x;obtain ⟨vW,vH,qnK,vr1,vc1,vis1⟩:=v1;dsimp only at *
    have hkn:(k:Int)<nc:=by omega
    have hkcc:(k:Int)<cc:=by omega
    have hcc9:(cc:Int)<=9223372036854775807:=by unfold maxLen at hcm;omega
    obtain ⟨p0,p1,p2,p3,p4,p5⟩:=v6_near (B:=wr.heap.size) hv hv.lt;have N0 : ∀ x:Near wr.heap.size wr,x.w.cell? ⟨b,o+k * 6,none⟩=some (.int .i64 kind):=fun x=>(x.h.cell (p:=⟨b,o+k * 6,none⟩) hbl).trans k0
    have N1 : ∀ x:Near wr.heap.size wr,x.w.cell? ⟨b,o+k * 6+1,none⟩=some (.int .i64 row):=fun x=>(x.h.cell (p:=⟨b,o+k * 6+1,none⟩) hbl).trans k1
    have N2 : ∀ x:Near wr.heap.size wr,x.w.cell? ⟨b,o+k * 6+2,none⟩=some (.int .i64 col):=fun x=>(x.h.cell (p:=⟨b,o+k * 6+2,none⟩) hbl).trans k2
    have N3 : ∀ x:Near wr.heap.size wr,x.w.cell? ⟨b,o+k * 6+3,none⟩=some (.int .i64 count):=fun x=>(x.h.cell (p:=⟨b,o+k * 6+3,none⟩) hbl).trans k3
    have N4 : ∀ x:Near wr.heap.size wr,x.w.cell? ⟨b,o+k * 6+4,none⟩=some (.int .i64 til):=fun x=>(x.h.cell (p:=⟨b,o+k * 6+4,none⟩) hbl).trans k4
    have N5 : ∀ x:Near wr.heap.size wr,x.w.cell? ⟨b,o+k * 6+5,none⟩=some (.slice Ag gl.length cap):=fun x=>(x.h.cell (p:=⟨b,o+k * 6+5,none⟩) hbl).trans k5
    have hzz:=Ld wr.heap.size;have hv0:=hv;have hvl:=hv.lt;have HCn:Hid (∀ x:Near wr.heap.size wr,Calls prog 65 #[.agg (vwC ⟨vW,vH,qnK,vr1,vc1,vis1⟩ A1 n1 c1),jH ⟨kind,row,col,count,til,gl⟩ Ag cap] x.w (qh (.int .i64 F) x.w)):=Lh fun x=>HCk.out x.w x.h
    clear hx hsa hOn hLn hRe hg1 hrl hs hxm hzb hb hrd hrc k0 k1 k2 k3 k4 k5 HCk
    go_upto_region 6 with fail
    refine qc wr.heap.size ?_;(repeat (go_big_quiet_step ((go_at_call 65;exact Calls.near _ hzz (HCn.out _)))));refine wpQuiet_nil ?_;intro x1;have hv1:=hv.below x1.h hv.lt;have hl1:=Ly hv.lt x1.h.size;have hz1:=x1.h.size;have hzl1:=Ly hzlt x1.h.size;have q0:=N0 x1;have q1:=N1 x1;have q2:=N2 x1;have q3:=N3 x1;have q4:=N4 x1;have q5:=N5 x1;have hb1:=Lh x1.h;generalize x1.w=Y at *
    clear N0 N1 N2 N3 N4 N5 p0 p1 p2 p3 p4 p5 HCn hv x1;obtain ⟨e0,e1,e2,e3,e4,e5⟩:=qw hv1;dsimp only at e0 e1 e2 e3 e4 e5
    by_cases hf:F=0
    ·subst hf;have h00:((0:Int) != 0)=false:=rfl;have HA:=Lh (HAp.out rfl);clear HAp HRn
     go_upto_region 9 with fail
     go_region_law (go_simp;go_at_call 66;refine (HA.out _ (by first | exact hb1.out | exact hb1.out.drew)).mono ?_;rintro e w2 ⟨v2,A2,n2,c2,rfl,hb2,hL2⟩;obtain ⟨z0,z1,z2,z3,z4,z5,y0,y1,y2,y3,y4,y5⟩:=vw12 (Blk.below hv0 hb2 hvl))
     all_goals go_wp2
     all_goals exact ⟨⟨k+1,by omega,by go_num,hL2⟩,by simp [intOf];omega⟩
    ·have hne:(F != 0)=true:=Ln.2 hf;have hRn:=Lh (HRn.out hf);have hZ1:=hzb'.out.below hb1.out hzlt;have hbq:=hb'.out.trans (hb1.out.mono hBw);clear HAp HRn hf;obtain ⟨z0,z1,z2,z3,z4,z5,y0,y1,y2,y3,y4,y5⟩:=ZB.facts hZ1;go_wp2;have hZ2:=ZB.set6 hZ1 vw0 none 0 0;exact bodyPost_ret (qah rfl _ _ (w.heap.size+1) 24 _ (0,0) _ rfl hZ2 underlying24 rfl kI) rfl (RaR.err hRn.out hbq _ _ _ _ _ _)
   ·obtain rfl:nc=k:=by omega
    obtain ⟨vW,vH,qnK,vr1,vc1,vis1⟩:=v1;have hRe2:R=if qcz ⟨vW,vH,qnK,vr1,vc1,vis1⟩=true then (⟨vW,vH,qnK,vr1,vc1,vis1⟩,0) else (vw0,12):=by
     rw [hRe,Lv L0,show zo []=[] from rfl,goV]
    have hRl:qnK=rls rs1:=hx.eq;have hrd:=hx.rdV hBz;have hn1:rs1.length=n1:=hrd.1.len;have hn9:(n1:Int)<=9223372036854775807:=by have h1:=hx.cap.1;have h2:=hx.cap.2;unfold maxLen at h2;omega
    have hm : ∀ x∈rs1,x.l.length<=100000000:=fun x hx1=>by
     have:=hLn x.l (by rw [hx.eq];exact List.mem_map_of_mem hx1)
     omega
    have hWq:Hid (∀ j (h:j<rs1.length) w',Below wr.heap.size wr w'->∃ b o,A1=some ⟨b,o,none⟩/\w'.cell? ⟨b,o+j,none⟩=some (.slice rs1[j].A rs1[j].l.length rs1[j].cap)/\∀ m,Calls prog 58 #[.slice rs1[j].A rs1[j].l.length rs1[j].cap] (w'.drewN m) (Quiet (.int .i64 (vM rs1[j].l:Nat)) (w'.drewN m))):=Lh fun j h w' hb'=>by
     have hxm:=Lt h;obtain ⟨b,o,h1,-,h3⟩:=(hrd.1.below hb').at_ h;exact ⟨b,o,h1,h3,fun m=>(qjp _ _ _ rs1[j].cap wr.heap.size (w'.drewN m) (by have:=hm _ hxm;omega) ((hrd.1.gl _ hxm).1.below (qf hb'))).mono fun e w'' ⟨h1,h2⟩=>⟨h1,0,by subst h2;rfl⟩⟩
    have hRt:Hid ((∀ j (h:j<rs1.length),(vM rs1[j].l:Int)<=vW)->R=(⟨vW,vH,qnK,vr1,vc1,vis1⟩,0)):=Lh fun h=>by
     rw [hRe2,if_pos];unfold qcz;rw [List.all_eq_true,hRl];intro l hl;obtain ⟨x,hx,rfl⟩:=List.mem_map.1 hl;obtain ⟨i,hi,rfl⟩:=List.getElem_of_mem hx;exact Ll (h i hi)
    have hRf:Hid (∀ j (h:j<rs1.length),vW<(vM rs1[j].l:Int)->R=(vw0,12)):=Lh fun j h hl=>by
     rw [hRe2,if_neg];unfold qcz;rw [List.all_eq_true,hRl];intro h2;have:=of_decide_eq_true (h2 rs1[j].l (List.mem_map_of_mem (Lt h)));dsimp only at this
     omega
    have hx':=Lh hx;have hsa':=Lh hsa;have hv':=Lh hv;have hz':=Lh hzb;have hb':=Lh hb;have hvl:=hv.lt;have hbs:=hb.size;obtain ⟨e0,e1,e2,e3,e4,e5⟩:=qw hv;dsimp only at e0 e1 e2 e3 e4 e5;clear hx hsa hOn hLn hRe hRe2 hm hRl hzb hb hv hrd;obtain ⟨wo,rfl⟩ : ∃ x:World,x=wr:=⟨_,rfl⟩
    go_wp2
    go_loopw [9] (fun x wz=>∃ j:Nat,j<=rs1.length/\x = .int .i64 j/\Below wo.heap.size wo wz/\Hid (∀ i (h:i<rs1.length),i<j->(vM rs1[i].l:Int)<=vW)) (fun x _=>rs1.length-(intOf x).toNat)
    case atStart=>exact ⟨0,Nat.zero_le _,rfl,Le _ _,Lh fun i h h0=>absurd h0 (Nat.not_lt_zero _)⟩
    case round =>
     clear e0 e1 e2 e3 e4 e5;obtain ⟨j,hj,rfl,hbq,hq⟩:=hrel;obtain ⟨e0,e1,e2,e3,e4,e5⟩:=qw (hv'.out.below hbq hvl);dsimp only at e0 e1 e2 e3 e4 e5
     by_cases hjl:j<rs1.length
     ·obtain ⟨b,o,rfl,hcx,hw⟩:=hWq.out j hjl _ hbq;have hR2:=Lh (hRf.out j hjl);have hQ2:Hid ((vM rs1[j].l:Int)<=vW->∀ i (h:i<rs1.length),i<j+1->(vM rs1[i].l:Int)<=vW):=Lh fun h0 i h hi=>by
       by_cases hij:i=j
       ·subst hij;exact h0
       ·exact hq.out i h L0
      have hW:=Lh hw;have hji:(j:Int)<n1:=by omega
      clear hq hw hWq hRf hRt;generalize rs1[j]=x at *
      obtain ⟨l,Al,cl⟩:=x;dsimp only at *
      generalize vM l=rw0 at *
      by_cases hgt:vW<(rw0:Int)
      ·have hd:decide (vW<(rw0:Int))=true:=Ll hgt;have hR3:=Lh (hR2.out hgt);have hZ1:=hz'.out.below hbq hzlt;have hbw:=hb'.out.trans (hbq.mono hbs);clear hR2 hQ2;go_wp2
       go_quiet ((go_at_call 58;exact Calls.quiet_of (hW.out _)))
       obtain ⟨z0,z1,z2,z3,z4,z5,y0,y1,y2,y3,y4,y5⟩:=ZB.facts hZ1;go_wp2;exact bodyPost_ret (qah rfl _ _ (w.heap.size+1) 24 _ (0,0) _ rfl (ZB.set6 (Blk.drewN hZ1 nq) vw0 none 0 0) underlying24 rfl kI) rfl (RaR.err hR3.out (qf hbw) _ _ _ _ _ _)
      ·have hd:decide (vW<(rw0:Int))=false:=Lk hgt;have hQ3:=Lh (hQ2.out L0);clear hR2 hQ2;go_wp2
       go_quiet ((go_at_call 58;exact Calls.quiet_of (hW.out _)))
       go_wp2;exact ⟨⟨j+1,by omega,by go_num,qf hbq,hQ3⟩,by simp [intOf];omega⟩
     ·obtain rfl:rs1.length=j:=by omega
      have hRz:=hRt.out fun i h=>hq.out i h h
      have hZ1:=hz'.out.below hbq hzlt;have hbw:=hb'.out.trans (hbq.mono hbs);have hx2:=(hx'.out.below hBz hbq).set6 (g:=w.heap.size+1) L0 L0 (.int .i64 vW) (.int .i64 vH) (.slice A1 n1 c1) (.int .i64 vr1) (.int .i64 vc1) (.bool vis1);have hs2:=(hsa'.out.below hbq).set6 (g:=w.heap.size+1) L0 (.int .i64 vW) (.int .i64 vH) (.slice A1 n1 c1) (.int .i64 vr1) (.int .i64 vc1) (.bool vis1);obtain ⟨z0,z1,z2,z3,z4,z5,y0,y1,y2,y3,y4,y5⟩:=ZB.facts hZ1;subst hRz;go_wp2;exact bodyPost_ret (qah rfl _ _ (w.heap.size+1) 24 _ (0,0) _ rfl (ZB.set6 hZ1 ⟨vW,vH,qnK,vr1,vc1,vis1⟩ A1 n1 c1) underlying24 rfl kI) rfl ⟨qap hbw L0 _ _ _ _ _ _,A1,n1,c1,rs1,0,rfl,hx2.less L0,hs2.less L0⟩
 ·have hne:(js ⟨W,Hh,rows,vr,vc,vis⟩ != 0)=true:=Ln.2 hv0;have hRe:Hid (R=(vw0,1)):=Lh (by rw [<- hR.out,yx,if_pos (by simpa using hv0)]);generalize js ⟨W,Hh,rows,vr,vc,vis⟩=VC at *
  clear hv0 HLn HGl0 HRc HGz hR
  go_wp2_with (go_at_call 34;refine (HCh.out _ hb).mono ?_;rintro e w1 ⟨rfl,hb1⟩;have hZ1:=hzb.below hb1 hlz;obtain ⟨z0,z1,z2,z3,z4,z5,y0,y1,y2,y3,y4,y5⟩:=ZB.facts hZ1)
  have hZ2:=ZB.set6 hZ1 vw0 none 0 0;exact bodyPost_ret (qah rfl _ _ (w.heap.size+1) 24 _ (0,0) _ rfl hZ2 underlying24 rfl kI) rfl (RaR.err hRe.out (hb.trans (hb1.mono hb.size)) _ _ _ _ _ _)
def TV (w:World) (B:Nat) (r:Option (List ByteArray)) (v:Value):Prop:=∃ A n c l bad,v = .agg #[.slice A n c,.bool (!bad)]/\WdR w B l A n c/\r=y7 bad l
theorem TV.below {w w':World} {B:Nat} {r:Option (List ByteArray)} {v:Value} (h:TV w B r v) (hb:Below B w w'):TV w' B r v:=by
 obtain ⟨A,n,c,l,bad,h1,h2,h3⟩:=h;exact ⟨A,n,c,l,bad,h1,h2.below hb,h3⟩
theorem tis_ (r:Option (List ByteArray)) (v:Value) (s:ByteArray) (B:Nat) (w:World) (h:TV w B r v) (hB:B<=w.heap.size):Calls prog 60 #[v,.string s] w (qh (.bool (qX r s)) w):=by
 obtain ⟨A,n,c,l,bad,rfl,hW,rfl⟩:=h
 cases bad with
 | true =>
  clear hW
  show Calls _ _ #[.agg #[.slice A n c,.bool false],.string s] _ (qh (.bool false) w)
  go_enter func60,ntmps60
  go_wp2;go_ret;exact ⟨rfl,L5⟩
 | false =>
  show Calls _ _ #[.agg #[.slice A n c,.bool true],.string s] _ (qh (.bool (vT s l)) w)
  cases l with
  | nil =>
   obtain rfl:n=0:=hW.len.symm;clear hW
   show Calls _ _ _ _ (qh (.bool false) w)
   go_enter func60,ntmps60
   go_wp2;go_ret;exact ⟨rfl,L5⟩
  | cons a t =>
   have hn:0<n:=by have:=hW.len;simp at this;omega
   have hi:(0:Int)<n:=by omega
   obtain ⟨b,o,rfl,hb,hca⟩:=hW.rd.at_ hn;have ha:w.cell? ⟨b,o,none⟩=some (.string a):=hca;have hbl:b<w.heap.size:=by omega
   have q:(a.toList==s.toList)=vT s (a::t):=jO a s;generalize vT s (a::t)=R at *
   clear hW hca
   go_enter func60,ntmps60
   go_wp2;go_ret;exact ⟨rfl,L5⟩
def TVX (w:World) (bad:Bool) (A:Option Addr) (n c:Nat) (X:World):Prop:=Blk X w.heap.size 107 #[.slice A n c,.bool (!bad)]/\Blk X (w.heap.size+1) 107 #[.slice none 0 0,.bool false]/\Below w.heap.size w X
theorem TVX.new (w:World) (bad:Bool) (A:Option Addr) (n c:Nat):TVX w bad A n c ((w.alloc (.cells #[.slice A n c,.bool (!bad)] 107)).alloc (.cells #[.slice none 0 0,.bool false] 107)) :=
 ⟨Blk.alloc (Blk.new w _ _) _,Blk.new_ L1,(L5).alloc L1 _⟩
theorem TVX.turn {w X:World} {bad0 bad:Bool} {A0 A:Option Addr} {n0 c0 n c:Nat} (B1:Blk X w.heap.size 107 #[.slice A0 n0 c0,.bool (!bad0)]) (B2:Blk X (w.heap.size+1) 107 #[.slice none 0 0,.bool false]) (tx:Below w.heap.size w X) :
  TVX w bad A n c ((X.setCell ⟨w.heap.size,0,none⟩ (.slice A n c)).setCell ⟨w.heap.size,1,none⟩ (.bool (!bad))) :=
 ⟨vd B1,(B2.far (p:=⟨w.heap.size,0,none⟩) L7 _).far (p:=⟨w.heap.size,1,none⟩) L7 _,(tx.setCell (p:=⟨w.heap.size,0,none⟩) (Ld _) _).setCell (p:=⟨w.heap.size,1,none⟩) (Ld _) _⟩
theorem qr:(prog.info? 107).map (fun x=>x.size)=some 2:=by kernel_rfl
def TEnd (w:World) (B:Nat) (r:Option (List ByteArray)) (e:Ending) (w':World):Prop:=∃ A n c l bad,e = .returned (.agg #[.slice A n c,.bool (!bad)])/\WdR w' B l A n c/\r=y7 bad l/\Below w.heap.size w w'
theorem WdR.cut1 {w:World} {B:Nat} {l:List ByteArray} {A:Option Addr} {n c k:Nat} (h:WdR w B l A n c) (hk:k<=n) (hc:c=k):WdR w B (l.drop k) A 0 0:=by
 have:=h.cut hk;have hcap:=h.cap;subst hc;rw [if_pos rfl,Nat.sub_self,show n-c=0 by omega] at this;exact this
theorem WdR.cut2 {w:World} {B:Nat} {l:List ByteArray} {A:Option Addr} {n c k:Nat} (h:WdR w B l A n c) (hk:k<=n) (hc : ¬ c=k):WdR w B (l.drop k) (A.map (·.add k)) (n-k) (c-k):=by
 have:=h.cut hk;rw [if_neg hc,Nat.mul_one] at this;exact this
theorem j6 (r:Option (List ByteArray)) (v:Value) (s:ByteArray) (B:Nat) (w:World) (h:TV w B r v) (hB:B<=w.heap.size):Calls prog 63 #[v,.string s] w (TEnd w B (r.bind (skO s))):=by
 have HN:Hid (∀ X,Below w.heap.size w X->Calls prog 60 #[v,.string s] X (qh (.bool (qX r s)) X)):=Lh fun X hb=>tis_ r v s B X (h.below (hb.mono hB)) (Lj hB hb.size)
 obtain ⟨A,n,c,l,bad,rfl,hW,rfl⟩:=h
 cases hb:qX (y7 bad l) s with
 | false =>
  rw [hb] at HN;have HE:Hid ((y7 bad l).bind (skO s)=none):=Lh (qlx hb);clear hb hW
  go_enter func63,ntmps63
  go_upto_region 1 with fail
  refine qa (TVX w bad A n c) (TVX.new w bad A n c) ?_;rintro X ⟨B1,B2,tx⟩;obtain ⟨c0,c1,f0,f1⟩:=vN B1;obtain ⟨d0,d1,g0,g1⟩:=vN B2;have z1:=B2.lt
  go_wp2_with (go_at_call 60;refine (HN.out _ tx).mono ?_;rintro e w1 ⟨rfl,hb1⟩;(clear c0 c1 d0 d1 f0 f1 g0 g1;have C1:=B1.below hb1 B1.lt;have C2:=B2.below hb1 B2.lt;obtain ⟨c0,c1,f0,f1⟩:=vN C1;obtain ⟨d0,d1,g0,g1⟩:=vN C2))
  have Rr:=vd (a':=.slice none 0 0) (b':=.bool false) C2;have tz:=((tx.trans (hb1.mono L0)).setCell (p:=⟨w.heap.size+1,0,none⟩) L7 (.slice none 0 0)).setCell (p:=⟨w.heap.size+1,1,none⟩) L7 (.bool false);exact bodyPost_ret (results_cell_row rfl _ _ (w.heap.size+1) 107 _ (0,0) _ rfl Rr underlying107 rfl qr) rfl ⟨none,0,0,[],true,rfl,WdR.nil _ B,by rw [HE.out];rfl,tz⟩
 | true =>
  rw [hb] at HN;obtain ⟨rfl,t,rfl,ht⟩:=qj9 hb;have HE:Hid ((y7 false (s::t)).bind (skO s)=some t):=Lh ht;have hn1:1<=n:=by have:=hW.len;simp at this;omega
  have hcap:=hW.cap;have hmax:=hW.max;have i1:(1:Int)<=n:=by omega
  have i2:(1:Int)<=c:=by omega
  have i3:c<=9223372036854775807:=by unfold maxLen at hmax;omega
  clear hb ht
  by_cases hc1:c=1
  ·have hcut:=hW.cut1 hn1 hc1;obtain rfl:n=1:=by omega
   subst hc1;clear hW
   go_enter func63,ntmps63
   go_upto_region 1 with fail
   refine qa (TVX w false A 1 1) (TVX.new w false A 1 1) ?_;rintro X ⟨B1,B2,tx⟩;obtain ⟨c0,c1,f0,f1⟩:=vN B1;obtain ⟨d0,d1,g0,g1⟩:=vN B2;have z1:=B2.lt
   go_wp2_with (go_at_call 60;refine (HN.out _ tx).mono ?_;rintro e w1 ⟨rfl,hb1⟩;(clear c0 c1 d0 d1 f0 f1 g0 g1;have C1:=B1.below hb1 B1.lt;have C2:=B2.below hb1 B2.lt;obtain ⟨c0,c1,f0,f1⟩:=vN C1;obtain ⟨d0,d1,g0,g1⟩:=vN C2))
   have Rr:=vd (a':=.slice A 0 0) (b':=.bool true) C2;have tz:=((tx.trans (hb1.mono L0)).setCell (p:=⟨w.heap.size+1,0,none⟩) L7 (.slice A 0 0)).setCell (p:=⟨w.heap.size+1,1,none⟩) L7 (.bool true);exact bodyPost_ret (results_cell_row rfl _ _ (w.heap.size+1) 107 _ (0,0) _ rfl Rr underlying107 rfl qr) rfl ⟨A,0,0,t,false,rfl,hcut.below (tz.mono hB),by rw [HE.out];rfl,tz⟩
  ·have hcut:=hW.cut2 hn1 hc1;clear hW
   go_enter func63,ntmps63
   go_upto_region 1 with fail
   refine qa (TVX w false A n c) (TVX.new w false A n c) ?_;rintro X ⟨B1,B2,tx⟩;obtain ⟨c0,c1,f0,f1⟩:=vN B1;obtain ⟨d0,d1,g0,g1⟩:=vN B2;have z1:=B2.lt
   go_wp2_with (go_at_call 60;refine (HN.out _ tx).mono ?_;rintro e w1 ⟨rfl,hb1⟩;(clear c0 c1 d0 d1 f0 f1 g0 g1;have C1:=B1.below hb1 B1.lt;have C2:=B2.below hb1 B2.lt;obtain ⟨c0,c1,f0,f1⟩:=vN C1;obtain ⟨d0,d1,g0,g1⟩:=vN C2))
   have Rr:=vd (a':=.slice (A.map (·.add 1)) (n-1) (c-1)) (b':=.bool true) C2;have tz:=((tx.trans (hb1.mono L0)).setCell (p:=⟨w.heap.size+1,0,none⟩) L7 (.slice (A.map (·.add 1)) (n-1) (c-1))).setCell (p:=⟨w.heap.size+1,1,none⟩) L7 (.bool true);exact bodyPost_ret (results_cell_row rfl _ _ (w.heap.size+1) 107 _ (0,0) _ rfl Rr underlying107 rfl qr) rfl ⟨_,_,_,t,false,rfl,hcut.below (tz.mono hB),by rw [HE.out];rfl,tz⟩
def qv (q:Option (List ByteArray)):Int × Option (List ByteArray):=match q.bind kU with
 | some (n,t)=>if n<0 then (0,none) else (n,some t)
 | none=>(0,none)
def NEnd (w:World) (B:Nat) (x:Int × Option (List ByteArray)) (e:Ending) (w':World):Prop:=∃ A n c l bad,e = .returned (.tuple #[.int .i64 x.1,.agg #[.slice A n c,.bool (!bad)]])/\WdR w' B l A n c/\x.2=y7 bad l/\Below w.heap.size w w'
theorem qk5 (r:Option (List ByteArray)) (v:Value) (s:ByteArray) (B:Nat) (w:World) (h:TV w B r v) (hB:B<=w.heap.size) (ht:Tb w):Calls prog 64 #[v,.string s] w (NEnd w B (qv (r.bind (skO s)))):=by
 have HS:Hid (∀ X,Below w.heap.size w X->Calls prog 63 #[v,.string s] X (TEnd X B (r.bind (skO s)))):=Lh fun X hb=>j6 r v s B X (h.below (hb.mono hB)) (Lj hB hb.size)
 obtain ⟨A,n,c,l,bad,rfl,hW,rfl⟩:=h;obtain ⟨q,hq⟩ : ∃ q,q=(y7 bad l).bind (skO s):=⟨_,rfl⟩
 rw [<- hq] at HS ⊢;have HT:=Lh ht;clear hW hq ht
 go_enter func64,ntmps64
 go_upto_region 1 with fail
 refine qa (TVX w bad A n c) (TVX.new w bad A n c) ?_;rintro X ⟨B1,B2,tx⟩;obtain ⟨c0,c1,f0,f1⟩:=vN B1;obtain ⟨d0,d1,g0,g1⟩:=vN B2;have z1:=B2.lt
 go_upto_region 2 with (go_at_call 63;refine (HS.out _ tx).mono ?_;rintro e w1 ⟨A1,n1,k1,l1,qmK,rfl,hW1,hr1,hb1⟩;(clear c0 c1 d0 d1 f0 f1 g0 g1;have C1:=B1.below hb1 B1.lt;have C2:=B2.below hb1 B2.lt;obtain ⟨c0,c1,f0,f1⟩:=vN C1;obtain ⟨d0,d1,g0,g1⟩:=vN C2))
 refine qa (fun X=>TVX w qmK A1 n1 k1 X/\WdR X B l1 A1 n1 k1) ⟨TVX.turn C1 C2 (tx.trans (hb1.mono L0)),hW1.below (((Le B w1).setCell (p:=⟨w.heap.size,0,none⟩) hB _).setCell (p:=⟨w.heap.size,1,none⟩) hB _)⟩ ?_;clear B1 B2 tx c0 c1 d0 d1 f0 f1 g0 g1 C1 C2 z1 hW1 hb1 HS;rintro X ⟨⟨B1,B2,tx⟩,hW1⟩;obtain ⟨c0,c1,f0,f1⟩:=vN B1;obtain ⟨d0,d1,g0,g1⟩:=vN B2;have z1:=B2.lt
 cases qmK with
 | true =>
  as_aux_lemma =>
  have HE:Hid (qv q=(0,none)):=Lh (by rw [hr1];rfl);clear hr1;have Rr:=(vd (a':=.slice A1 n1 k1) (b':=.bool false) B2).drew;have tz:=(((tx.setCell (p:=⟨w.heap.size+1,0,none⟩) L7 (.slice A1 n1 k1)).setCell (p:=⟨w.heap.size+1,1,none⟩) L7 (.bool false))).drew
  go_upto_region 3 with fail
  go_region_law (fail)
  all_goals go_wp2
  all_goals exact bodyPost_ret (zn rfl _ _ (w.heap.size+1) 107 _ (0,0) _ rfl Rr underlying107 rfl qr) rfl ⟨A1,n1,k1,l1,true,by rw [HE.out];rfl,hW1.below (((Le B X).setCell (p:=⟨w.heap.size+1,0,none⟩) L7 _).setCell (p:=⟨w.heap.size+1,1,none⟩) L7 _).drew,by rw [HE.out];rfl,tz⟩
 | false =>
  have hln:=hW1.len;have hcap:=hW1.cap;have hmax:=hW1.max;have HPr:=Lh (j8 l1 A1 n1 k1 X hW1.len hW1.cap hW1.max (hW1.rd.more (Lj hB tx.size)) (HT.out.below tx));have hq1:q=some l1:=hr1;clear hr1 HT;subst hq1
  cases hp:prefixL l1 with
  | none =>
   as_aux_lemma =>
   rw [hp] at HPr;simp only [ve] at HPr;have HE:Hid (qv (some l1)=(0,none)):=Lh (by simp [qv,kU,hp]);clear hp hW1
   go_wp2_with (go_at_call 86;refine HPr.out.mono ?_;rintro e w1 ⟨rfl,hb1⟩;(clear c0 c1 d0 d1 f0 f1 g0 g1;have C1:=B1.below hb1 B1.lt;have C2:=B2.below hb1 B2.lt;obtain ⟨c0,c1,f0,f1⟩:=vN C1;obtain ⟨d0,d1,g0,g1⟩:=vN C2))
   have Rr:=vd (a':=.slice none 0 0) (b':=.bool false) C2;have tz:=((tx.trans (hb1.mono L0)).setCell (p:=⟨w.heap.size+1,0,none⟩) L7 (.slice none 0 0)).setCell (p:=⟨w.heap.size+1,1,none⟩) L7 (.bool false);exact bodyPost_ret (zn rfl _ _ (w.heap.size+1) 107 _ (0,0) _ rfl Rr underlying107 rfl qr) rfl ⟨none,0,0,[],true,by rw [HE.out];rfl,WdR.nil _ B,by rw [HE.out];rfl,tz⟩
  | some x =>
   obtain ⟨nn,k⟩:=x;rw [hp] at HPr;simp only [ve] at HPr;obtain ⟨hk0,hkl,qm1,_⟩:=zF hp
   by_cases qnP:nn<0
   ·as_aux_lemma =>
    have HE:Hid (qv (some l1)=(0,none)):=Lh (by simp [qv,kU,hp,qnP]);clear hp hW1
    go_wp2_with (go_at_call 86;refine HPr.out.mono ?_;rintro e w1 ⟨rfl,hb1⟩;(clear c0 c1 d0 d1 f0 f1 g0 g1;have C1:=B1.below hb1 B1.lt;have C2:=B2.below hb1 B2.lt;obtain ⟨c0,c1,f0,f1⟩:=vN C1;obtain ⟨d0,d1,g0,g1⟩:=vN C2))
    have Rr:=vd (a':=.slice none 0 0) (b':=.bool false) C2;have tz:=((tx.trans (hb1.mono L0)).setCell (p:=⟨w.heap.size+1,0,none⟩) L7 (.slice none 0 0)).setCell (p:=⟨w.heap.size+1,1,none⟩) L7 (.bool false);exact bodyPost_ret (zn rfl _ _ (w.heap.size+1) 107 _ (0,0) _ rfl Rr underlying107 rfl qr) rfl ⟨none,0,0,[],true,by rw [HE.out];rfl,WdR.nil _ B,by rw [HE.out];rfl,tz⟩
   ·have HE:Hid (qv (some l1)=(nn,some (l1.drop k))):=Lh (by simp [qv,kU,hp,qnP]);have i1:(k:Int)<=n1:=by omega
    have i2:(k:Int)<=k1:=by omega
    have i3:k1<=9223372036854775807:=by unfold maxLen at hmax;omega
    have i0:(0:Int)<=k:=by omega
    clear hp
    by_cases hck:k1=k
    ·as_aux_lemma =>
     have hcut:=hW1.cut1 (k:=k) L0 hck;obtain rfl:n1=k:=by omega
     subst hck;clear hW1 hmax
     go_upto_region 7 with (go_at_call 86;refine HPr.out.mono ?_;rintro e w1 ⟨rfl,hb1⟩;(clear c0 c1 d0 d1 f0 f1 g0 g1;have C1:=B1.below hb1 B1.lt;have C2:=B2.below hb1 B2.lt;obtain ⟨c0,c1,f0,f1⟩:=vN C1;obtain ⟨d0,d1,g0,g1⟩:=vN C2))
     have Rr:=vd (a':=.slice A1 0 0) (b':=.bool true) C2;have tz:=((tx.trans (hb1.mono L0)).setCell (p:=⟨w.heap.size+1,0,none⟩) L7 (.slice A1 0 0)).setCell (p:=⟨w.heap.size+1,1,none⟩) L7 (.bool true);have Rd:=Rr.drew;have td:=tz.drew
     go_region_law (fail)
     all_goals go_wp2
     all_goals exact bodyPost_ret (zn rfl _ _ (w.heap.size+1) 107 _ (0,0) _ rfl Rd underlying107 rfl qr) rfl ⟨A1,0,0,_,false,by rw [HE.out];rfl,hcut.below ((hb1.mono (Lj hB tx.size)).trans (((Le B w1).setCell (p:=⟨w.heap.size+1,0,none⟩) L7 _).setCell (p:=⟨w.heap.size+1,1,none⟩) L7 _).drew),by rw [HE.out];rfl,td⟩
    ·as_aux_lemma =>
     have hcut:=hW1.cut2 (k:=k) L0 hck;clear hW1 hmax
     go_upto_region 7 with (go_at_call 86;refine HPr.out.mono ?_;rintro e w1 ⟨rfl,hb1⟩;(clear c0 c1 d0 d1 f0 f1 g0 g1;have C1:=B1.below hb1 B1.lt;have C2:=B2.below hb1 B2.lt;obtain ⟨c0,c1,f0,f1⟩:=vN C1;obtain ⟨d0,d1,g0,g1⟩:=vN C2))
     have Rr:=vd (a':=.slice (A1.map (·.add k)) (n1-k) (k1-k)) (b':=.bool true) C2;have tz:=((tx.trans (hb1.mono L0)).setCell (p:=⟨w.heap.size+1,0,none⟩) L7 (.slice (A1.map (·.add k)) (n1-k) (k1-k))).setCell (p:=⟨w.heap.size+1,1,none⟩) L7 (.bool true);have Rd:=Rr.drew;have td:=tz.drew
     go_region_law (fail)
     all_goals go_wp2
     all_goals exact bodyPost_ret (zn rfl _ _ (w.heap.size+1) 107 _ (0,0) _ rfl Rd underlying107 rfl qr) rfl ⟨_,_,_,_,false,by rw [HE.out];rfl,hcut.below ((hb1.mono (Lj hB tx.size)).trans (((Le B w1).setCell (p:=⟨w.heap.size+1,0,none⟩) L7 _).setCell (p:=⟨w.heap.size+1,1,none⟩) L7 _).drew),by rw [HE.out];rfl,td⟩
def HeadNo (a:ByteArray):Prop:=qdK a=none/\a≠cB/\a≠yB/\∀ j,j<32->wb j≠a
theorem HeadNo.charW {a:ByteArray} (h:HeadNo a) (t:List ByteArray):charW (a::t)=none:=by
 obtain ⟨h1,h2,h3,_⟩:=h;simp only [Proofs.YtggegijlfaipfaaGreatDoor.charW,if_neg h3,zM,h1,if_neg h2]
theorem HeadNo.prefixL {a:ByteArray} (h:HeadNo a) (t:List ByteArray):prefixL (a::t)=none:=by
 cases hp:Proofs.YtggegijlfaipfaaGreatDoor.prefixL (a::t) with
 | none=>rfl
 | some y =>
  obtain ⟨n,k⟩:=y;obtain ⟨hk0,hkl,_,qmJ,_⟩:=zF hp;obtain ⟨h1,h2,hw,_⟩:=vp qmJ;obtain ⟨m,rfl⟩ : ∃ m,k=m+1:=⟨k-1,by omega⟩
  rw [List.take_succ_cons] at hw
  cases hws:qm n with
  | nil=>rw [hws] at hw;cases hw
  | cons j u =>
   rw [hws,List.map_cons] at hw
   injection hw with hw _
   exact absurd hw (h.2.2.2 j (jT n h1 h2 j (by rw [hws];simp)))
theorem qlH:HeadNo bCap:=⟨by decide +kernel,by decide +kernel,by decide +kernel,by decide +kernel⟩
theorem qlq:HeadNo yi:=⟨by decide +kernel,by decide +kernel,by decide +kernel,by decide +kernel⟩
theorem qla:HeadNo vI:=⟨by decide +kernel,by decide +kernel,by decide +kernel,by decide +kernel⟩
theorem HeadNo.sign {p:Prs} {a:ByteArray} {t:List ByteArray} (h:HeadNo a) (hw:p.words=a::t):ko p=none:=by
 unfold ko;rw [hw,h.charW t]
theorem HeadNo.amt {p:Prs} {a:ByteArray} {t:List ByteArray} (h:HeadNo a) (hw:p.words=a::t):kD p=none:=by
 unfold kD;rw [hw,h.prefixL t]
section
variable {p : Prs} {a : ByteArray} {t : List ByteArray}
theorem rp_sty {i:Nat} (hw:p.words=a::t) (h:vY a=some i):va p=some ⟨t,p.out,(i:Nat),false⟩:=by
 have e:zP p=some ⟨t,p.out,(i:Nat),false⟩:=by unfold zP;rw [hw];simp only [h]
 unfold va;rw [e]
 rfl
theorem rp_join (hw:p.words=a::t) (h:vY a=none) (ha:a=zO):va p=some ⟨t,p.out,p.style,false⟩:=by
 have e:zP p=some ⟨t,p.out,p.style,false⟩:=by unfold zP;rw [hw];simp only [h,if_pos ha]
 unfold va;rw [e]
 rfl
theorem qk0 (hw:p.words=a::t) (h:vY a=none) (ha:a≠zO):zP p=none:=by
 unfold zP;rw [hw];simp only [h,if_neg ha]
theorem qlj (hw:p.words=a::t) (ha:a≠vI):qaP p=none:=by
 unfold qaP;rw [hw];simp only;rw [if_neg (fun h=>ha h.1)]
theorem k6 (hw:p.words=a::t) (h1:a≠bCap) (h2:a≠yi):jP p=(yl (a::t)).map fun (s,n)=>kN p s n:=by
 unfold jP;rw [hw];simp only;rw [if_neg h1,if_neg h2]
theorem rp_cap (hw:p.words=a::t) (h:vY a=none) (hj:a≠zO) (ha:a=bCap):va p=(yl t).map fun (s,n)=>kN p (jn s 1) (1+n):=by
 have e:jP p=(yl t).map fun (s,n)=>kN p (jn s 1) (1+n):=by
  unfold jP;rw [hw];simp only;rw [if_pos ha]
 unfold va;rw [qk0 hw h hj,e]
 cases yl t with
 | some x=>rfl
 | none =>
  have hd:a≠vI:=by rw [ha];decide +kernel
  have hn:HeadNo a:=ha ▸ qlH
  show ((qaP p).orElse fun _=>(ko p).orElse fun _=>kD p)=none
  rw [qlj hw hd,hn.sign hw,hn.amt hw]
  rfl
theorem rp_caps (hw:p.words=a::t) (h:vY a=none) (hj:a≠zO) (ha:a=yi):va p=(yl t).map fun (s,n)=>kN p (jn s s.size) (1+n):=by
 have hc:a≠bCap:=by rw [ha];decide +kernel
 have e:jP p=(yl t).map fun (s,n)=>kN p (jn s s.size) (1+n):=by
  unfold jP;rw [hw];simp only;rw [if_neg hc,if_pos ha]
 unfold va;rw [qk0 hw h hj,e]
 cases yl t with
 | some x=>rfl
 | none =>
  have hd:a≠vI:=by rw [ha];decide +kernel
  have hn:HeadNo a:=ha ▸ qlq
  show ((qaP p).orElse fun _=>(ko p).orElse fun _=>kD p)=none
  rw [qlj hw hd,hn.sign hw,hn.amt hw]
  rfl
theorem rp_lit {s:ByteArray} {n:Nat} (hw:p.words=a::t) (h:vY a=none) (hj:a≠zO) (h1:a≠bCap) (h2:a≠yi) (hl:yl (a::t)=some (s,n)):va p=some (kN p s n):=by
 unfold va;rw [qk0 hw h hj,k6 hw h1 h2,hl]
 rfl
theorem rp_fig (hw:p.words=a::t) (h:vY a=none) (hj:a≠zO) (h1:a≠bCap) (h2:a≠yi) (hl:yl (a::t)=none) (ha:a=vI):va p=if k7 t≠[] then some (kN p (zN (k7 t)) (1+(k7 t).length)) else none:=by
 have hn:HeadNo a:=ha ▸ qla;have e:qaP p=if k7 t≠[] then some (kN p (zN (k7 t)) (1+(k7 t).length)) else none:=by
  unfold qaP;rw [hw];simp only [ha,true_and]
 unfold va;rw [qk0 hw h hj,k6 hw h1 h2,hl,e,hn.sign hw,hn.amt hw]
 by_cases hd:k7 t≠[]
 ·rw [if_pos hd];rfl
 ·rw [if_neg hd];rfl
theorem rp_sign {r:Int} {n:Nat} (hw:p.words=a::t) (h:vY a=none) (hj:a≠zO) (h1:a≠bCap) (h2:a≠yi) (hl:yl (a::t)=none) (ha:a≠vI) (hc:charW (a::t)=some (r,n)) :
  va p=if (vV p.out p.style r 1).1=true then some ⟨p.words.drop n,(vV p.out p.style r 1).2,p.style,false⟩ else none:=by
 have e:ko p=if (vV p.out p.style r 1).1=true then some ⟨p.words.drop n,(vV p.out p.style r 1).2,p.style,false⟩ else none:=by
  unfold ko;rw [show charW p.words=some (r,n) by rw [hw];exact hc]
 have ea:kD p=none:=by
  unfold kD;rw [show prefixL p.words=none by rw [hw];exact qfu hc]
 unfold va;rw [qk0 hw h hj,k6 hw h1 h2,hl,qlj hw ha,e,ea]
 by_cases hd:(vV p.out p.style r 1).1=true
 ·rw [if_pos hd];rfl
 ·rw [if_neg hd];rfl
theorem rp_amt (hw:p.words=a::t) (h:vY a=none) (hj:a≠zO) (h1:a≠bCap) (h2:a≠yi) (hl:yl (a::t)=none) (ha:a≠vI) (hc:charW (a::t)=none):va p=kD p:=by
 have e:ko p=none:=by
  unfold ko;rw [show charW p.words=none by rw [hw];exact hc]
 unfold va;rw [qk0 hw h hj,k6 hw h1 h2,hl,qlj hw ha,e]
 rfl
end
theorem qgw (w0:World) (v:Int) (b:UInt8) (hv:v=(b.toNat:Int)):(convert 184 9 (.slice (some ⟨w0.heap.size,0,none⟩) 1 1)).run prog (w0.alloc (.cells #[.int .u8 v] 5)) = .ok (.string ⟨#[b]⟩) (w0.alloc (.cells #[.int .u8 v] 5)):=by
 subst hv;exact run_convert_bytes_back _ _ _ 5 ⟨w0.heap.size,0,none⟩ 1 [b] underlying184 underlying5 underlying9 fun j hj=>by
  obtain rfl:j=0:=by simp at hj;exact hj
  exact qu w0 _ _ 0
theorem app_byte (L:List UInt8) (b:UInt8):(⟨L.toArray⟩++⟨#[b]⟩:ByteArray)=⟨(L++[b]).toArray⟩:=by
 apply ByteArray.ext
 rw [ByteArray.data_append]
 simp
def k9 (n j:Nat):List UInt8:=if j<9/\n / 10 ^ (9-j)=0 then [] else kA (n / 10 ^ (9-j))
theorem qlZ {n:Nat} (h:n<=999999999):k9 n 0=[]:=if_pos ⟨by omega,Nat.div_eq_of_lt L0⟩
theorem ql1 (n:Nat):k9 n 9=kA n:=by
 unfold k9;rw [if_neg L0]
 simp
theorem ql2 {n j D:Nat} (hj:j<9) (hD:D=10 ^ (8-j)):((D<=n∨D=1)->k9 n (j+1)=k9 n j++[UInt8.ofNat (48+n / D % 10)])/\(¬ (D<=n∨D=1)->k9 n (j+1)=k9 n j):=by
 have hp:0<D:=by rw [hD];exact Nat.pow_pos L2
 have h1:10 ^ (9-(j+1))=D:=by rw [hD];congr 1;omega
 have h2:n / 10 ^ (9-j)=n / D / 10:=by rw [Nat.div_div_eq_div_mul,hD,<- Nat.pow_succ];congr 2;omega
 unfold k9;rw [h1,h2]
 constructor
 ·intro hc;have h3 : ¬ (j+1<9/\n / D=0):=by
   rintro ⟨h4,h5⟩
   rcases hc with h | h
   ·have:=Nat.div_pos h hp;omega
   ·have:(1:Nat)<D:=by rw [hD];exact Nat.one_lt_pow L0 L2
    omega
  rw [if_neg h3]
  by_cases h10:n / D<10
  ·rw [if_pos ⟨hj,Nat.div_eq_of_lt h10⟩,kA,dif_pos h10,Nat.mod_eq_of_lt h10]
   rfl
  ·have h6 : ¬ (j<9/\n / D / 10=0):=by
    rintro ⟨_,h⟩;rw [Nat.div_eq_zero_iff] at h
    omega
   rw [if_neg h6]
   conv=>lhs;rw [kA]
   rw [dif_neg h10]
 ·intro hc;have h4:n / D=0:=Nat.div_eq_of_lt L0;have h5:j+1<9:=by
   rcases Nat.lt_or_ge (j+1) 9 with h | h
   ·exact h
   ·have h8:j=8:=by omega
    subst h8;exact absurd (Or.inr (by rw [hD])) hc
  rw [h4,if_pos ⟨h5,rfl⟩,if_pos ⟨hj,rfl⟩]
theorem decS_len {n:Nat} (h:n<=999999999) (j:Nat) (hj:j<=9):(k9 n j).length<=10:=by
 unfold k9
 split
 ·simp
 ·exact qge 9 _ (Nat.lt_of_le_of_lt (Nat.div_le_self _ _) L0)
def zW (j:Nat):Nat:=if j<9 then 10 ^ (8-j) else 0
theorem ql4 {j:Nat} (hj:j<9):zW j / 10=zW (j+1)/\0<zW j/\zW j<=100000000/\zW j=10 ^ (8-j)/\zW (j+1)<zW j:=by
 have : ∀ j:Fin 9,zW j.val / 10=zW (j.val+1)/\0<zW j.val/\zW j.val<=100000000/\zW j.val=10 ^ (8-j.val)/\zW (j.val+1)<zW j.val:=by decide +kernel
 exact this ⟨j,hj⟩
theorem dec_one {N D:Nat} (hN:N<=999999999) (hD:0<D) (hD8:D<=100000000) : ∃ Dn Q d:Nat,Dn=D / 10/\Q=N / D/\d=Q % 10/\(D:Int).tdiv 10=(Dn:Int)/\wrap64 (Dn:Int)=Dn/\Dn<D/\(N:Int).tdiv (D:Int)=(Q:Int)/\(Q:Int).tmod 10=(d:Int) /\
  wrap64 (Q:Int)=Q/\wrap64 (d:Int)=d/\wrap64 (48+(d:Int))=48+(d:Int)/\IntKind.u8.wrap (48+(d:Int))=48+(d:Int)/\d<10:=by
 have hQN:N / D<=N:=Nat.div_le_self _ _;have qm6:N / D % 10<10:=Nat.mod_lt _ L2;have hdn:D / 10<D:=Nat.div_lt_self hD L2;refine ⟨D / 10,N / D,N / D % 10,rfl,rfl,rfl,qib D,qcc _ L0,hdn,?_,qii _,qcc _ (Lj hQN hN),qcc _ (Lj (Lr qm6) L2),(qd1 _ qm6).1,?_,qm6⟩
 ·rw [Int.tdiv_eq_ediv_of_nonneg (Int.natCast_nonneg _)];exact (Int.natCast_ediv N D).symm
 ·generalize N / D % 10=d at *
  rw [IntKind.wrap_u8]
  omega
theorem powS_zero:((zW 0:Nat):Int)=100000000:=by rw [show zW 0=100000000 by decide +kernel];simp
structure WdA (base:Nat) (w:World) (l:List ByteArray) (A:Option Addr) (n c:Nat):Prop where
 len:l.length=n
 cap:n<=c
 max:c<=maxLen
 rd:Rd w base 1 A n (sv l)
 sz : ∀ s∈l,s.size<=1000
 few:l.length<=1000
 tb : ∀ w',Below base w w'->Tb w'
theorem WdA.below {base:Nat} {w w':World} {l:List ByteArray} {A:Option Addr} {n c:Nat} (h:WdA base w l A n c) (hb:Below base w w'):WdA base w' l A n c :=
 ⟨h.len,h.cap,h.max,h.rd.below hb,h.sz,h.few,fun w'' h'=>h.tb w'' (hb.trans h')⟩
theorem TX.bel {w wx:World} {base:Nat} {v0:Value} {st:Int} {j:Bool} {O:List Gl} (h:TX w base v0 st j O wx):Below base w wx:=by
 obtain ⟨_,_,_,_,_,_,h⟩:=h;exact h.1
def PRes (base:Nat) (v0:Value) (w:World) (ws:List ByteArray) (o:Option Prs) (e:Ending) (w':World):Prop:=match o with
 | some q=>∃ A c n,0<n/\n<=ws.length/\q.words=ws.drop n/\e = .returned (.tuple #[.agg (tC (.slice A q.out.length c) q.style q.joins),.int .i64 (n:Nat)])/\w'.ownsRow base 61 3 (.slice A q.out.length c) q.out.length (qi q.out)/\BG base v0 w w'/\Sep w.heap.size v0 (.slice A q.out.length c)
 | none=>∃ A m c st j,e = .returned (.tuple #[.agg (tC (.slice A m c) st j),.int .i64 0])/\BG base v0 w w'
theorem Sep.trans {N M:Nat} {v0 v1 v2:Value} (h1:Sep N v0 v1) (h2:Sep M v1 v2) (h:N<=M):Sep N v0 v2:=fun k hk=>by
 rcases h2 k hk with ⟨h,_⟩ | h
 ·exact h1 k h
 ·exact .inr L0
theorem TX.call {w wr w5:World} {base:Nat} {v0 v1:Value} {A:Option Addr} {n c:Nat} {t1 t2:TypeId} {x y:Array Value} (B1:Blk wr w.heap.size t1 x) (B2:Blk wr (w.heap.size+1) t2 y) (hs:Sep w.heap.size v0 (.slice A n c)) (tx:BG base v0 w wr)
  (hg:BG base (.slice A n c) wr w5) (hs':Sep wr.heap.size (.slice A n c) v1):Blk w5 w.heap.size t1 x/\Blk w5 (w.heap.size+1) t2 y/\BG base v0 w w5/\Sep w.heap.size v0 v1 :=
 ⟨B1.grown hg.2 (qh7 fun k hk=>(hs.ne k hk).1),B2.grown hg.2 (qh7 fun k hk=>(hs.ne k hk).2),tx.grown hg.1 hg.2 hs,hs.trans hs' tx.size⟩
theorem rnum_no (O:List Gl) (st:Int) (J:Bool) (l:List ByteArray) (ho:O.length<=1000000000) (A:Option Addr) (c base:Nat) (w:World) (hb:base<=w.heap.size) (h:w.ownsRow base 61 3 (.slice A O.length c) O.length (qi O)) (Aw:Option Addr) (nw cw:Nat) (hW:WdA base w l Aw nw cw) (hp:prefixL l=none):Calls prog 138 #[.agg (tC (.slice A O.length c) st J),.slice Aw nw cw] w (PRes base (.slice A O.length c) w l (kD ⟨l,O,st,J⟩)):=by
 have e0:Hid (kD ⟨l,O,st,J⟩=none):=Lh (by unfold kD;simp only [hp]);generalize kD ⟨l,O,st,J⟩=RES at *
 have hpn:=TX.new (st:=st) (j:=J) h hb;clear h;obtain ⟨v0,hv0⟩ : ∃ x,x=Value.slice A O.length c:=⟨_,rfl⟩
 have HV:=Lh hv0;rw [<- hv0] at hpn ⊢;clear hv0;have HPr:Hid (∀ w',Below base w w'->Calls prog 86 #[.slice Aw nw cw] w' (qh (ve (prefixL l)) w')):=Lh fun w' hw =>
  j8 l Aw nw cw w' hW.len hW.cap hW.max ((hW.rd.below hw).more (Lj hb hw.size)) (hW.tb w' hw)
 rw [hp] at HPr;simp only [ve] at HPr;clear hW hp
 go_enter func138,ntmps138
 go_upto_region 1 with fail
 refine qa (TX w base v0 st J O) hpn ?_;clear hpn;intro X hX
 go_upto_region 2 with (go_at_call 86;refine (HPr.out _ hX.bel).mono ?_;rintro e w1 ⟨rfl,hb1⟩;have hT:=hX.below hb1 hb)
 obtain ⟨A6,c6,B1,B2,ox,hs6,tx⟩:=hT;have c0:=B1.cell 0;have c1:=B1.cell 1;have c2:=B1.cell 2;have d0:=B2.cell 0;have d1:=B2.cell 1;have d2:=B2.cell 2;have f0:=B1.frozen 0;have f2:=B1.frozen 2;have g0:=B2.frozen 0;have g1:=B2.frozen 1;have g2:=B2.frozen 2;simp only [tC,La,Lb,Lc] at c0 c1 c2 d0 d1 d2;have R:=TX.copy (v:=.slice A6 O.length c6) (st':=st) (j':=J) B2 ox hs6 tx hb;go_wp2;exact bodyPost_ret (vG rfl _ _ (w.heap.size+1) 165 _ (0,0) _ rfl R.1 underlying165 rfl qy) rfl (by rw [e0.out];exact ⟨_,_,_,_,_,rfl,R.2.2⟩)
theorem rnum_neg (O:List Gl) (st:Int) (J:Bool) (l:List ByteArray) (ho:O.length<=1000000000) (A:Option Addr) (c base:Nat) (w:World) (hb:base<=w.heap.size) (h:w.ownsRow base 61 3 (.slice A O.length c) O.length (qi O)) (Aw:Option Addr) (nw cw:Nat) (hW:WdA base w l Aw nw cw) (nn:Int) (k:Nat) (hp:prefixL l=some (nn,k)) (qnP:nn<0):Calls prog 138 #[.agg (tC (.slice A O.length c) st J),.slice Aw nw cw] w (PRes base (.slice A O.length c) w l (kD ⟨l,O,st,J⟩)):=by
 have e0:Hid (kD ⟨l,O,st,J⟩=none):=Lh (by unfold kD;simp only [hp,if_pos qnP]);generalize kD ⟨l,O,st,J⟩=RES at *
 have hpn:=TX.new (st:=st) (j:=J) h hb;clear h;obtain ⟨v0,hv0⟩ : ∃ x,x=Value.slice A O.length c:=⟨_,rfl⟩
 have HV:=Lh hv0;rw [<- hv0] at hpn ⊢;clear hv0;have HPr:Hid (∀ w',Below base w w'->Calls prog 86 #[.slice Aw nw cw] w' (qh (ve (prefixL l)) w')):=Lh fun w' hw =>
  j8 l Aw nw cw w' hW.len hW.cap hW.max ((hW.rd.below hw).more (Lj hb hw.size)) (hW.tb w' hw)
 rw [hp] at HPr;simp only [ve] at HPr;clear hW hp
 go_enter func138,ntmps138
 go_upto_region 1 with fail
 refine qa (TX w base v0 st J O) hpn ?_;clear hpn;intro X hX
 go_upto_region 2 with (go_at_call 86;refine (HPr.out _ hX.bel).mono ?_;rintro e w1 ⟨rfl,hb1⟩;have hT:=hX.below hb1 hb)
 obtain ⟨A6,c6,B1,B2,ox,hs6,tx⟩:=hT;have c0:=B1.cell 0;have c1:=B1.cell 1;have c2:=B1.cell 2;have d0:=B2.cell 0;have d1:=B2.cell 1;have d2:=B2.cell 2;have f0:=B1.frozen 0;have f2:=B1.frozen 2;have g0:=B2.frozen 0;have g1:=B2.frozen 1;have g2:=B2.frozen 2;simp only [tC,La,Lb,Lc] at c0 c1 c2 d0 d1 d2;have R:=TX.copy (v:=.slice A6 O.length c6) (st':=st) (j':=J) B2 ox hs6 tx hb;go_wp2;exact bodyPost_ret (vG rfl _ _ (w.heap.size+1) 165 _ (0,0) _ rfl R.1 underlying165 rfl qy) rfl (by rw [e0.out];exact ⟨_,_,_,_,_,rfl,R.2.2⟩)
theorem rnum_dec (O:List Gl) (st:Int) (J:Bool) (l:List ByteArray) (ho:O.length<=1000000000) (A:Option Addr) (c base:Nat) (w:World) (hb:base<=w.heap.size) (h:w.ownsRow base 61 3 (.slice A O.length c) O.length (qi O)) (Aw:Option Addr) (nw cw:Nat) (hW:WdA base w l Aw nw cw) (nn:Int) (k:Nat) (hp:prefixL l=some (nn,k)) (qnP : ¬ nn<0) (hT : ¬ l[k]? = some bTimes):Calls prog 138 #[.agg (tC (.slice A O.length c) st J),.slice Aw nw cw] w (PRes base (.slice A O.length c) w l (kD ⟨l,O,st,J⟩)):=by
 obtain ⟨N,rfl⟩ : ∃ N:Nat,nn=(N:Int):=⟨nn.toNat,by omega⟩
 obtain ⟨hk0,hkl,qm1,qmJ,_⟩:=zF hp;obtain ⟨_,hN9,_⟩:=vp qmJ;have hN:N<=999999999:=by omega
 have e0:Hid (kD ⟨l,O,st,J⟩=some (kN ⟨l,O,st,J⟩ ⟨(kA N).toArray⟩ k)):=Lh (by unfold kD;simp only [hp];rw [if_neg qnP,if_neg hT,Int.toNat_natCast]);have HS:=Lh (fun j D hj hD=>@ql2 N j D hj hD);have HL:=Lh (decS_len hN);have HP:=Lh (fun j hj=>@ql4 j hj);have H0:Hid ((⟨#[]⟩:ByteArray)=⟨(k9 N 0).toArray⟩):=Lh (by rw [qlZ hN]);have H9:Hid (kA N=k9 N 9):=Lh (ql1 N).symm;generalize kD ⟨l,O,st,J⟩=RES at *
 generalize hdT:kA N=DT at *
 have hpn:=TX.new (st:=st) (j:=J) h hb;clear h;obtain ⟨v0,hv0⟩ : ∃ x,x=Value.slice A O.length c:=⟨_,rfl⟩
 have HV:=Lh hv0;rw [<- hv0] at hpn ⊢;clear hv0;have HPr:Hid (∀ w',Below base w w'->Calls prog 86 #[.slice Aw nw cw] w' (qh (ve (prefixL l)) w')):=Lh fun w' hw =>
  j8 l Aw nw cw w' hW.len hW.cap hW.max ((hW.rd.below hw).more (Lj hb hw.size)) (hW.tb w' hw)
 rw [hp] at HPr;simp only [ve] at HPr;have hln:=hW.len;have HCk:Hid (∀ hk:k<nw,∀ w',Below base w w'->∃ b o,Aw=some ⟨b,o,none⟩/\w'.cell? ⟨b,o+k,none⟩=some (.string (l[k]'(by rw [hln];exact hk)))):=Lh fun hk w' hw=>by
  obtain ⟨b,o,rfl,_,hc⟩:=(hW.rd.below hw).at_ hk;rw [yM _ _ (by rw [hln];exact hk)] at hc;exact ⟨b,o,rfl,hc⟩
 have hkn:k<=nw:=by omega
 have hxt:Hid (∀ hk:k<nw,(l[k]'(by rw [hln];exact hk))≠bTimes):=Lh fun hk e=>hT (by rw [List.getElem?_eq_getElem (by rw [hln];exact hk),e])
 have hi0 : ¬ (N:Int)<0:=by omega
 clear hW hp hT qmJ qnP hdT
 go_enter func138,ntmps138
 go_upto_region 1 with fail
 refine qa (TX w base v0 st J O) hpn ?_;clear hpn;intro X hX
 go_upto_region 4 with (go_at_call 86;refine (HPr.out _ hX.bel).mono ?_;rintro e w1 ⟨rfl,hb1⟩;have hT:=hX.below hb1 hb)
 go_cut [38] (fun v wx=>v = .bool true/\wx=w1)
 case first =>
  clear e0 HS HL HP H0 H9 hX
  by_cases hkk:k=nw
  ·have hb1:((k:Int)==nw)=true:=beq_iff_eq.2 L0;go_wp2;go_meet;exact ⟨rfl,rfl⟩
  ·have hb1:((k:Int)==nw)=false:=Lm.2 L0;obtain ⟨b,o,rfl,hc⟩:=HCk.out L0 w1 hT.bel;have q:=qct (a:=l[k]'(by omega)) (b:=bTimes) (l:=[116,105,109,101,115]) rfl;rw [Lk (hxt.out L0)] at q;generalize (l[k]'(by omega))=x at *
   have hki:(k:Int)<nw:=by omega
   clear hT;go_wp2;go_meet;exact ⟨rfl,rfl⟩
 case rest =>
  obtain ⟨rfl,hwc⟩:=hcut;rw [hwc];clear hwc HCk hxt hX hb1;go_wp2
  go_loopw [9,10] (fun x y wr=>∃ j:Nat,j<=9/\y = .int .i64 (zW j:Nat)/\x = .string ⟨(k9 N j).toArray⟩/\TX w base v0 st J O wr) (fun _ y _=>(intOf y).toNat)
  case atStart=>exact ⟨0,Nat.zero_le _,congrArg (fun z=>Value.int .i64 z) powS_zero.symm,by rw [<- H0.out],hT⟩
  case round =>
   clear hT;obtain ⟨j,hj,rfl,rfl,hT⟩:=hrel
   by_cases hlt:j<9
   ·obtain ⟨hp1,hp2,hp3,hp4,hp5⟩:=HP.out j hlt;obtain ⟨HSy,HSn⟩:=HS.out j (zW j) hlt hp4;have hl1:=HL.out j hj;clear HS HL HP H0 H9 hp4;have HNx:Hid (zW (j+1)=zW j / 10):=Lh hp1.symm;have HSy':=Lh HSy;have HSn':=Lh HSn;clear HSy HSn hp1;generalize hD:zW j=D at *
    generalize k9 N j=DS at *
    obtain ⟨Dn,Q,d,hDn,hQ,hd,hq10,hwq,hM5,hdv,hrm,hwQ,hwd,hw2,hw8,qm6⟩:=dec_one hN hp2 hp3;rw [<- hDn] at HNx;rw [<- hQ,<- hd] at HSy';have hcv:=qgw wr (48+(d:Int)) (UInt8.ofNat (48+d)) (by rw [UInt8.toNat_ofNat',Nat.mod_eq_of_lt (show 48+d<2 ^ 8 from Ly (Nat.add_lt_add_left qm6 48) L2)];rfl);have hTn:=hT.below (Below.alloc (Le wr.heap.size wr) (Ld _) (.cells #[.int .u8 (48+(d:Int))] 5)) hb;have hD0 : ¬ (D:Int)=0:=fun h=>Nat.lt_irrefl 0 (Int.ofNat.inj h ▸ hp2)
    have hDp:(0:Int)<(D:Int):=Int.ofNat_lt.2 hp2;have hgy:D<=N->(D:Int)<=N:=fun h=>Int.ofNat_le.2 h
    have hgn : ¬ D<=N->¬ (D:Int)<=N:=fun h h'=>h (Int.ofNat_le.1 h')
    have hoy:D=1->((D:Int)==1)=true:=fun h=>by rw [h];rfl
    have hon : ¬ D=1->((D:Int)==1)=false:=fun h=>Lm.2 fun h'=>h (Int.ofNat.inj h')
    have HM5:=Lh hM5;have happ:Hid ((⟨DS.toArray⟩:ByteArray)++⟨#[UInt8.ofNat (48+d)]⟩=⟨(DS++[UInt8.ofNat (48+d)]).toArray⟩):=Lh (app_byte _ _);have hme:Hid ((intOf (Value.int .i64 (Dn:Int))).toNat<(intOf (Value.int .i64 (D:Int))).toNat):=Lh (by simpa [intOf] using hM5);have HLt:=Lh hlt;clear hQ hd hDn hp5 hp2 hp3 hM5 qm6 hlt;generalize UInt8.ofNat (48+d)=ub at *
    generalize (N:Int)=NI at *
    obtain ⟨DI,hDI⟩ : ∃ x,x=(D:Int):=⟨_,rfl⟩
    obtain ⟨DnI,hDnI⟩ : ∃ x,x=(Dn:Int):=⟨_,rfl⟩
    obtain ⟨dI,hdI⟩ : ∃ x,x=(d:Int):=⟨_,rfl⟩
    rw [<- hDI] at hq10 hdv hD0 hDp hgy hgn hoy hon hme;rw [<- hDnI] at hq10 hwq hme;rw [<- hdI] at hrm hwd hw2 hw8 hcv hTn;generalize (Q:Int)=QI at *
    rw [<- hDI];have HDnI:=Lh hDnI;have HDI:=Lh hDI;clear hDI hdI hDnI
    by_cases hc:D<=N∨D=1
    ·have HD2:=Lh (HSy'.out hc);clear HSy' HSn' hT
     by_cases hge:D<=N
     ·have hgi:=hgy hge;clear hc hgy hgn hoy hon hge;go_wp2;exact ⟨⟨j+1,HLt.out,by rw [HNx.out,hwq,HDnI.out],by rw [HD2.out,happ.out],hTn⟩,by rw [hwq];exact hme.out⟩
     ·have hgi:=hgn hge;have h1':=hoy (hc.resolve_left hge);clear hc hgy hgn hoy hon hge;go_wp2;exact ⟨⟨j+1,HLt.out,by rw [HNx.out,hwq,HDnI.out],by rw [HD2.out,happ.out],hTn⟩,by rw [hwq];exact hme.out⟩
    ·have HD2:=Lh (HSn'.out hc);have hgi:=hgn (fun h=>hc (.inl h));have h1':=hon (fun h=>hc (.inr h));clear HSy' HSn' hc hgy hgn hoy hon hcv hTn;go_wp2;exact ⟨⟨j+1,HLt.out,by rw [HNx.out,hwq,HDnI.out],by rw [HD2.out],hT⟩,by rw [hwq];exact hme.out⟩
   ·obtain rfl:j=9:=by omega
    have hpz:zW 9=0:=rfl;rw [<- H9.out,hpz];have hl1:=HL.out 9 (Ld _);rw [<- H9.out] at hl1;clear HS HL HP H0 H9;obtain ⟨A6,c6,B1,B2,ox,hs6,tx⟩:=hT;have HTx:=Lh (qlf O st J ⟨DT.toArray⟩ (by show DT.toArray.size<=_;rw [List.size_toArray];omega) ho A6 c6 base wr (Lj hb tx.size) ox);have HE:Hid (kN ⟨l,O,st,J⟩ ⟨DT.toArray⟩ k=⟨l.drop k,O++vm J st ⟨DT.toArray⟩,st,true⟩):=Lh rfl;rw [HE.out] at e0;generalize O++vm J st ⟨DT.toArray⟩=Q at *
    generalize (⟨DT.toArray⟩:ByteArray)=DD at *
    have c0:=B1.cell 0;have c1:=B1.cell 1;have c2:=B1.cell 2;have d0:=B2.cell 0;have d1:=B2.cell 1;have d2:=B2.cell 2;have f0:=B1.frozen 0;have f2:=B1.frozen 2;have g0:=B2.frozen 0;have g1:=B2.frozen 1;have g2:=B2.frozen 2;simp only [tC,La,Lb,Lc] at c0 c1 c2 d0 d1 d2;clear HE
    go_wp2_with (go_at_call 132;refine HTx.out.mono ?_;rintro e w5 ⟨A7,c7,rfl,o7,bg7,hs7⟩;clear c0 c1 c2 d0 d1 d2 f0 f2 g0 g1 g2;obtain ⟨D1,D2,tx7,hs8⟩:=TX.call B1 B2 hs6 tx bg7 hs7;have d0:=D2.cell 0;have d1:=D2.cell 1;have d2:=D2.cell 2;have g0:=D2.frozen 0;have g1:=D2.frozen 1;have g2:=D2.frozen 2;simp only [tC,La,Lb,Lc] at d0 d1 d2;simp only [id,tC])
    have R:=TX.copy (v:=.slice A7 Q.length c7) (st':=st) (j':=true) D2 o7 hs8 tx7 hb;exact bodyPost_ret (vG rfl _ _ (w.heap.size+1) 165 _ (0,0) _ rfl R.1 underlying165 rfl qy) rfl (by rw [e0.out];exact ⟨A7,c7,k,hk0,hkl,rfl,rfl,R.2.1,R.2.2,hs8⟩)
end Go.Proofs.YtggegijlfaipfaaGreatDoor
