/- Joined: Rh1, Ls1, Ls2, Up1, Each, EachG, Up4, SpC, Up3, Um2, Ul0, Ul1, Ul3, Lw3, Lw4, Lw5, Lw6, LxP. -/
import Derived.RangeFuncNested
import Derived.RangeFuncBound
import Derived.RangeFuncCalls
import Derived.RangeFuncLeaves
import Derived.RangeFuncBox
import Derived.Shelf.Abstract
import Derived.OwnWalkIn
import Derived.TacticsInMore
import Derived.LoopNIn
import Derived.LoopIn
import Derived.Test.YtggegijlfaipfaaGreatDoorZAR
set_option linter.unusedVariables false
set_option linter.unusedSimpArgs false
set_option linter.unnecessarySimpa false
set_option maxHeartbeats 4000000
namespace Go.Proofs.YtggegijlfaipfaaGreatDoor
open Go.Proofs.Tryz Go.RowKit
set_option maxRecDepth 20000
def RhR (B:Nat) (A0:Option Addr) (n0 c0:Nat) (rs0:List RowM) (r:Md × Int) (w:World) (e:Ending) (w':World):Prop :=
 Below w.heap.size w w'/\∃ A n c rs,e = .returned (.tuple #[.agg (mdC r.1 A n c),.int .i64 r.2])/\XV B w.heap.size w' r.1.view A n c rs/\SaR w.heap.size A0 n0 c0 rs0 w' r.1.view A n c rs
theorem rhear42_ (m:Md) (A:Option Addr) (n c B:Nat) (rs:List RowM) (l:List ByteArray) (Aw:Option Addr) (nw cw:Nat) (w:World) (rd:RdV w B m.view A n c rs) (hB:B<=w.heap.size) (hM : ∀ x∈rs,x.l.length<=1000) (hz : ∀ x∈rs,∀ g∈x.l,g.text.size<=1000000000)
  (hW:WdR w w.heap.size l Aw nw cw) (hl:l.length<=1000) (hF : ∀ cs k,jm l=some (cs,k)->Few cs k) (ht:Tb w) :
  Calls prog 21 #[.agg (mdC m A n c),.slice Aw nw cw] w (RhR B A n c rs (yT m l) w):=by
 have HP:Hid (∀ w',Below w.heap.size w w'->Calls prog 20 #[.agg (mdC m A n c)] w' (qh (.bool (vu m)) w')):=Lh fun w' hb=>qbM m A n c w.heap.size rs w' ((rd.more hB).below hb) hb.size (fun x hx=>⟨Lj (hM x hx) L2,hz x hx⟩)
 have HC:Hid (∀ w',Below w.heap.size w w'->Calls prog 35 #[.slice Aw nw cw] w' (TcR (jm l) w')):=Lh fun w' hb=>qmt l Aw nw cw w' (qmf (hW.below hb) hb.size) hl (ht.below hb)
 have HA:Hid (∀ cs out Ac nc cc w',Below w.heap.size w w'->(∃ k,Few cs k)->zo out=cs->RdC w' w'.heap.size Ac nc out->nc<=cc/\cc<=maxLen->Calls prog 36 #[.agg (vwC m.view A n c),.slice Ac nc cc] w' (RaR B A n c rs (yx m.view cs) w')):=Lh fun cs out Ac nc cc w' hb ⟨k,hf⟩ he hr hcc=>by
  subst he;have h1 : ∀ x∈out,x.c∈zo out:=fun x hx=>List.mem_map_of_mem hx
  have h2:=hr.len;have h3:=hf.len;rw [zo,Lq] at h3;exact qkW m.view A n c B rs out Ac nc cc w' (rd.below (hb.mono hB)) hr hcc.1 hcc.2 (Lj hB hb.size) (fun x hx=>by have:=hM x hx;have:=hf.sum;omega) hz (fun x hx=>hf.gl _ (h1 x hx)) L0
 have HF:=Lh hF;unfold yT MaxT;clear rd hM hz hW hF ht;obtain ⟨⟨W,H,rows,r,cl,vs⟩,U⟩:=m;dsimp only at HP HA ⊢;have hpr:vu ⟨⟨W,H,rows,r,cl,vs⟩,U⟩=true->0<=U/\U<=1099511627776:=fun h=>by
  unfold vu MaxT at h;exact (of_decide_eq_true h).2
 generalize vu ⟨⟨W,H,rows,r,cl,vs⟩,U⟩=P at *
 cases P with
 | false =>
  rw [if_pos rfl];clear HC HA HF hpr
  go_enter func21,ntmps21
  go_upto_region 1 with fail
  refine qa (HrX w ⟨⟨W,H,rows,r,cl,vs⟩,U⟩ A n c) ⟨(Blk.new_ rfl).below L5 L1,Blk.new_ L1,(L5).alloc L1 _⟩ ?_;intro X hX;obtain ⟨c0,c1,c2,c3,c4,c5,c6,hl,hb⟩:=hX.facts
  go_upto_region 2 with (go_at_call 20;refine (HP.out _ hb).mono ?_;rintro e w1 ⟨rfl,hb1⟩;have hX1:=hX.on hb1;have qnS:=hX1.2.2)
  have hZ:=hX1.2.1;obtain ⟨z0,z1,z2,z3,z4,z5,z6,y0,y1,y2,y3,y4,y5,y6⟩:=ZM.facts hZ;go_wp2;exact bodyPost_ret (vG rfl _ _ (w.heap.size+1) 26 _ (0,0) _ rfl (ZM.set7 hX1.2.1 md0 none 0 0) underlying26 rfl yy) rfl ⟨yX hX1.2.2 (Nat.le_succ _) md0 none 0 0,none,0,0,[],rfl,.inr (OwV.none_ _ _),.inr (OwV.none_ _ _)⟩
 | true =>
  rw [if_neg L1];have hU:=hpr rfl;clear hpr;generalize jm l=o at *
  cases o with
  | none =>
   dsimp only;clear HA HF;have h17:((17:Int) != 0)=true:=rfl
   go_enter func21,ntmps21
   go_upto_region 1 with fail
   refine qa (HrX w ⟨⟨W,H,rows,r,cl,vs⟩,U⟩ A n c) ⟨(Blk.new_ rfl).below L5 L1,Blk.new_ L1,(L5).alloc L1 _⟩ ?_;intro X hX;obtain ⟨c0,c1,c2,c3,c4,c5,c6,hl,hb⟩:=hX.facts
   go_upto_region 4 with (first | (go_at_call 20;refine (HP.out _ hb).mono ?_;rintro e w1 ⟨rfl,hb1⟩;have hX1:=hX.on hb1;have qnS:=hX1.2.2) | (go_at_call 35;refine (HC.out _ qnS).mono ?_;rintro e w2 ⟨hb2,A2,rfl⟩;have hX2:=hX1.on hb2))
   have hZ:=hX2.2.1;obtain ⟨z0,z1,z2,z3,z4,z5,z6,y0,y1,y2,y3,y4,y5,y6⟩:=ZM.facts hZ;go_wp2;exact bodyPost_ret (vG rfl _ _ (w.heap.size+1) 26 _ (0,0) _ rfl (ZM.set7 hX2.2.1 md0 none 0 0) underlying26 rfl yy) rfl ⟨yX hX2.2.2 (Nat.le_succ _) md0 none 0 0,none,0,0,[],rfl,.inr (OwV.none_ _ _),.inr (OwV.none_ _ _)⟩
  | some x =>
   obtain ⟨cs,k⟩:=x;have hf:=HF.out cs k rfl;have hk:=hf.num;have HA2:Hid (∀ out Ac nc cc w',Below w.heap.size w w'->zo out=cs->RdC w' w'.heap.size Ac nc out->nc<=cc/\cc<=maxLen->Calls prog 36 #[.agg (vwC ⟨W,H,rows,r,cl,vs⟩ A n c),.slice Ac nc cc] w' (RaR B A n c rs (yx ⟨W,H,rows,r,cl,vs⟩ cs) w')):=Lh fun out Ac nc cc w' hb he hr hcc=>HA.out cs out Ac nc cc w' hb ⟨k,hf⟩ he hr hcc
   clear HA HF hf;dsimp only;generalize yx ⟨W,H,rows,r,cl,vs⟩ cs=R at *
   obtain ⟨⟨vw,vh,vr,vy,vx,vv⟩,E⟩:=R;dsimp only;obtain ⟨RR,hRR⟩ : ∃ RR,Hid ((if E≠0 then (md0,E) else if 1099511627776<U+k then (md0,5) else ((⟨⟨vw,vh,vr,vy,vx,vv⟩,U+k⟩:Md),(0:Int)))=RR):=⟨_,Lh rfl⟩
   rw [hRR.out];have h00:((0:Int) != 0)=false:=rfl;have hwr:IntKind.i64.wrap (U+k)=U+k:=by rw [Lx];omega
   go_enter func21,ntmps21
   go_upto_region 1 with fail
   refine qa (HrX w ⟨⟨W,H,rows,r,cl,vs⟩,U⟩ A n c) ⟨(Blk.new_ rfl).below L5 L1,Blk.new_ L1,(L5).alloc L1 _⟩ ?_;intro X hX;obtain ⟨c0,c1,c2,c3,c4,c5,c6,hl,hb⟩:=hX.facts
   go_upto_region 4 with (first | (go_at_call 20;refine (HP.out _ hb).mono ?_;rintro e w1 ⟨rfl,hb1⟩;have hX1:=hX.on hb1;have qnS:=hX1.2.2) | (go_at_call 35;refine (HC.out _ qnS).mono ?_;rintro e w2 ⟨hb2,out,Ac,cc,he,rfl,ho,hg⟩))
   have hX2:=hX1.on hb2;have hAp:Hid (Calls prog 36 #[.agg (vwC ⟨W,H,rows,r,cl,vs⟩ A n c),.slice Ac out.length cc] w2 fun e w''=>∃ A7 n7 c7 rs7,∃ i:Int,e = .returned (.tuple #[.agg #[.int .i64 vw,.int .i64 vh,.slice A7 n7 c7,.int .i64 vy,.int .i64 vx,.bool vv],.int .i64 i,.int .i64 E])/\(XV B w2.heap.size w'' ⟨vw,vh,vr,vy,vx,vv⟩ A7 n7 c7 rs7/\SaR w2.heap.size A n c rs w'' ⟨vw,vh,vr,vy,vx,vv⟩ A7 n7 c7 rs7)/\Below w2.heap.size w2 w'') :=
    Lh ((HA2.out out Ac out.length cc w2 hX2.2.2 he (hg.rdc ho) (qas ho)).mono fun e w'' ⟨h1,A7,n7,c7,rs7,i,h2,h3⟩=>⟨A7,n7,c7,rs7,i,h2,h3,h1⟩)
   generalize out.length=no at *
   clear HP HC HA2 hg ho he hX1 hX hb1 qnS hb2 c0 c1 c2 c3 c4 c5 c6 hl hb;obtain ⟨d0,d1,d2,d3,d4,d5,d6,hlY,hbY⟩:=HrX.facts hX2
   by_cases hE:E=0
   ·subst hE;have hR1:=hRR.out;rw [if_neg (show ¬ ((0:Int)≠0) from fun h=>h rfl)] at hR1;have hRz:=Lh hR1;clear hRR hR1
    go_upto_region 7 with (go_at_call 36;refine hAp.out.mono ?_;rintro e w3 ⟨A3,n3,e3,rs3,i3,rfl,hv,hb3⟩)
    have hzz:=hb3.size;have hB1:B<=w.heap.size+1:=by omega
    have hB2:B<=w2.heap.size:=by omega
    refine qa (fun Y=>Below w2.heap.size w2 Y/\(XV B w2.heap.size Y ⟨vw,vh,vr,vy,vx,vv⟩ A3 n3 e3 rs3/\SaR w2.heap.size A n c rs Y ⟨vw,vh,vr,vy,vx,vv⟩ A3 n3 e3 rs3)/\Blk Y w3.heap.size 24 (vwC ⟨vw,vh,vr,vy,vx,vv⟩ A3 n3 e3)) ⟨hb3.alloc hb3.size _,⟨hv.1.below (Lj hB2 hb3.size) L5,hv.2.below L5⟩,Blk.new_ rfl⟩ ?_;rintro Y ⟨hY,⟨hoY,hsY⟩,hBY⟩;have hX3:=hX2.on hY;have hZ:=hX3.2.1;obtain ⟨z0,z1,z2,z3,z4,z5,z6,y0,y1,y2,y3,y4,y5,y6⟩:=ZM.facts hZ;have hl2:w.heap.size+1<w2.heap.size:=hlY;clear hX2 d0 d1 d2 d3 d4 d5 d6 hlY hbY;obtain ⟨d0,d1,d2,d3,d4,d5,d6,hlY,hbY⟩:=HrX.facts hX3;clear d0 d1 d2 d3 d4 d5;obtain ⟨v0,v1,v2,v3,v4,v5⟩:=qw hBY;dsimp only at v0 v1 v3 v4 v5;have hng:w.heap.size+1≠w3.heap.size:=by omega
    by_cases hT:1099511627776<U+k
    ·have hRe:Hid (RR=(md0,5)):=Lh (by rw [<- hRz.out,if_pos hT]);have hd:decide (1099511627776<U+k)=true:=Ll hT;clear hRz hT;go_wp2;exact bodyPost_ret (vG rfl _ _ (w.heap.size+1) 26 _ (0,0) _ rfl (ZM.set7 hX3.2.1 md0 none 0 0) underlying26 rfl yy) rfl (by rw [hRe.out];exact ⟨yX hX3.2.2 (Nat.le_succ _) md0 none 0 0,none,0,0,[],rfl,.inr (OwV.none_ _ _),.inr (OwV.none_ _ _)⟩)
    ·have hRe:Hid (RR=(⟨⟨vw,vh,vr,vy,vx,vv⟩,U+k⟩,0)):=Lh (by rw [<- hRz.out,if_neg hT]);have hd:decide (1099511627776<U+k)=false:=Lk hT;have hR:=ZM.set7 hZ ⟨⟨vw,vh,vr,vy,vx,vv⟩,U+k⟩ A3 n3 e3;have ho7:=Lh (((((((hoY.far (p:=⟨w.heap.size+1,0,none⟩) hB1 hl2 (.int .i64 vw)).far (p:=⟨w.heap.size+1,1,none⟩) hB1 hl2 (.int .i64 vh)).far (p:=⟨w.heap.size+1,2,none⟩) hB1 hl2 (.slice A3 n3 e3)).far (p:=⟨w.heap.size+1,3,none⟩) hB1 hl2 (.int .i64 vy)).far (p:=⟨w.heap.size+1,4,none⟩) hB1 hl2 (.int .i64 vx)).far (p:=⟨w.heap.size+1,5,none⟩) hB1 hl2 (.bool vv)).far (p:=⟨w.heap.size+1,6,none⟩) hB1 hl2 (.int .i64 (U+k)));have hb7:=yX hX3.2.2 (Nat.le_succ _) ⟨⟨vw,vh,vr,vy,vx,vv⟩,U+k⟩ A3 n3 e3;have hs7:=Lh ((hsY.set6 (g:=w.heap.size+1) hl2 (.int .i64 vw) (.int .i64 vh) (.slice A3 n3 e3) (.int .i64 vy) (.int .i64 vx) (.bool vv)).imp id fun h=>h.far (p:=⟨w.heap.size+1,6,none⟩) hl2 (.int .i64 (U+k)));clear hoY hsY hv hX3 hZ hBY hRz hT;go_wp2;exact bodyPost_ret (vG rfl _ _ (w.heap.size+1) 26 _ (0,0) _ rfl hR underlying26 rfl yy) rfl (by rw [hRe.out];exact ⟨hb7,A3,n3,e3,rs3,rfl,ho7.out.less L0,SaR.less hs7.out L0⟩)
   ·have hRe:Hid (RR=(md0,E)):=Lh (by rw [<- hRR.out,if_pos hE]);clear hRR;have hEn:(E != 0)=true:=Ln.2 hE;clear hE
    go_upto_region 7 with (go_at_call 36;refine hAp.out.mono ?_;rintro e w3 ⟨A3,n3,e3,rs3,i3,rfl,hv,hb3⟩)
    refine qa (fun Y=>Below w2.heap.size w2 Y) (hb3.alloc hb3.size _) ?_;intro Y hY;have hX3:=hX2.on hY;have hZ:=hX3.2.1;obtain ⟨z0,z1,z2,z3,z4,z5,z6,y0,y1,y2,y3,y4,y5,y6⟩:=ZM.facts hZ;clear hX2 d0 d1 d2 d3 d4 d5 d6;go_wp2;exact bodyPost_ret (vG rfl _ _ (w.heap.size+1) 26 _ (0,0) _ rfl (ZM.set7 hX3.2.1 md0 none 0 0) underlying26 rfl yy) rfl (by rw [hRe.out];exact ⟨yX hX3.2.2 (Nat.le_succ _) md0 none 0 0,none,0,0,[],rfl,.inr (OwV.none_ _ _),.inr (OwV.none_ _ _)⟩)
structure SpkM where
 com:Bool
 ws:List ByteArray
 A:Option Addr
 cap:Nat
 cA:Option Addr
 cn:Nat
 cc:Nat
 cl:Int
 af:Int
 up:Int
 be:Int
 en:Int
instance:Inhabited SpkM:=⟨⟨false,[],none,0,none,0,0,0,0,0,0,0⟩⟩
def encK (x:SpkM):List Value:=[.slice x.A x.ws.length x.cap,.slice x.cA x.cn x.cc,.int .i64 x.cl,.int .i64 x.af,.int .i64 x.up,.int .i64 x.be,.int .i64 x.en,.bool x.com]
def uttV (x:SpkM):Value:=.agg #[.slice x.A x.ws.length x.cap,.slice x.cA x.cn x.cc,.int .i64 x.cl,.int .i64 x.af,.int .i64 x.up]
def qdD (l:List SpkM):List Value:=l.flatMap encK
theorem qbU (x:SpkM):(encK x).length=8:=rfl
theorem qbE (x:SpkM) (l:List SpkM):qdD (x::l)=encK x++qdD l:=by simp [qdD]
theorem qep : ∀ l:List SpkM,(qdD l).length=l.length * 8
 | []=>rfl
 | r::l=>by
  rw [qbE,Lf,qep l,qbU,Lp]
  omega
theorem qex : ∀ (l:List SpkM) (i j:Nat),j<8->(qdD l)[i * 8+j]? = l[i]?.bind fun r=>(encK r)[j]?
 | [],i,j,_=>by simp [qdD]
 | r::l,0,j,h=>by
  rw [qbE,Nat.zero_mul,Lo,List.getElem?_append_left (by rw [qbU];exact h)]
  rfl
 | r::l,i+1,j,h=>by
  rw [qbE,List.getElem?_append_right (by rw [qbU];omega),qbU,show (i+1) * 8+j-8=i * 8+j by omega,qex l i j h]
  rfl
def RdW (w:World) (B:Nat) (x:SpkM):Prop:=Rd w B 1 x.A x.ws.length (sv x.ws)/\x.ws.length<=x.cap/\x.cap<=maxLen/\∀ s∈x.ws,s.size<=maxLen
theorem RdW.below {w w':World} {B:Nat} {x:SpkM} (h:RdW w B x) (hb:Below B w w'):RdW w' B x:=⟨h.1.below hb,h.2⟩
theorem RdW.more {w:World} {B B':Nat} {x:SpkM} (h:RdW w B x) (hb:B<=B'):RdW w B' x:=⟨h.1.more hb,h.2⟩
structure RdS (w:World) (B:Nat) (A:Option Addr) (n:Nat) (l:List SpkM):Prop where
 rd:Rd w B 8 A n (qdD l)
 gl : ∀ x∈l,RdW w B x
theorem RdS.len {w:World} {B n:Nat} {A:Option Addr} {l:List SpkM} (h:RdS w B A n l):l.length=n:=by
 have:=h.rd.1;rw [qep] at this
 omega
theorem RdS.below {w w':World} {B n:Nat} {A:Option Addr} {l:List SpkM} (h:RdS w B A n l) (hb:Below B w w'):RdS w' B A n l:=⟨h.rd.below hb,fun x hx=>(h.gl x hx).below hb⟩
theorem RdS.more {w:World} {B B' n:Nat} {A:Option Addr} {l:List SpkM} (h:RdS w B A n l) (hb:B<=B'):RdS w B' A n l:=⟨h.rd.more hb,fun x hx=>(h.gl x hx).more hb⟩
theorem RdS.at_ {w:World} {B n:Nat} {A:Option Addr} {l:List SpkM} (h:RdS w B A n l) {k:Nat} (hk:k<l.length) : ∃ b o,A=some ⟨b,o,none⟩/\b<B /\
  w.cell? ⟨b,o+k * 8,none⟩=some (.slice l[k].A l[k].ws.length l[k].cap)/\w.cell? ⟨b,o+k * 8+1,none⟩=some (.slice l[k].cA l[k].cn l[k].cc)/\w.cell? ⟨b,o+k * 8+2,none⟩=some (.int .i64 l[k].cl)/\w.cell? ⟨b,o+k * 8+3,none⟩=some (.int .i64 l[k].af) /\
  w.cell? ⟨b,o+k * 8+4,none⟩=some (.int .i64 l[k].up)/\w.cell? ⟨b,o+k * 8+5,none⟩=some (.int .i64 l[k].be)/\w.cell? ⟨b,o+k * 8+6,none⟩=some (.int .i64 l[k].en)/\w.cell? ⟨b,o+k * 8+7,none⟩=some (.bool l[k].com):=by
 have hn:=h.len;obtain ⟨b,o,e,hb,hc⟩:=h.rd.2 L0;have h : ∀ j,j<8->∀ u,(encK l[k])[j]? = some u->w.cell? ⟨b,o+k * 8+j,none⟩=some u:=fun j hj u hu=>by
  have:=hc (k * 8+j) u (by rw [qex _ _ _ hj,List.getElem?_eq_getElem hk];exact hu)
  rwa [<- Nat.add_assoc] at this
 exact ⟨b,o,e,hb,h 0 L0 _ rfl,h 1 L0 _ rfl,h 2 L0 _ rfl,h 3 L0 _ rfl,h 4 L0 _ rfl,h 5 L0 _ rfl,h 6 L0 _ rfl,h 7 L0 _ rfl⟩
def qna (l:List SpkM):List (List ByteArray):=(l.filter fun x=>x.com).map SpkM.ws
def zL (s:Md × Int) (W:List ByteArray):Md × Int:=if s.2=0 then yT s.1 W else s
def goH (m:Md) (L:List (List ByteArray)):Md × Int:=L.foldl zL (m,0)
def allV (m:Md) (L:List (List ByteArray)):Md × Int:=if vu m=false then (md0,1) else goH m L
theorem qnk (m:Md) (W:List ByteArray) (h:(yT m W).2≠0):yT m W=(md0,(yT m W).2):=by
 unfold yT at h ⊢
 split
 ·rfl
 ·next hp =>
  rw [if_neg hp] at h
  split
  ·rfl
  ·next cs n hc =>
   rw [hc] at h;dsimp only at h ⊢
   split
   ·rfl
   ·next h1 =>
    rw [if_neg h1] at h
    split
    ·rfl
    ·next h2=>rw [if_neg h2] at h;exact absurd rfl h
theorem goH_snoc (m:Md) (L:List (List ByteArray)) (W:List ByteArray):goH m (L++[W])=zL (goH m L) W:=by
 unfold goH;rw [List.foldl_append]
 rfl
theorem qnh {s:Md × Int} (h:s.2≠0) : ∀ L:List (List ByteArray),L.foldl zL s=s
 | []=>rfl
 | W::L=>by
  rw [List.foldl_cons];have:zL s W=s:=if_neg h;rw [this];exact qnh h L
theorem goH_stay {m:Md} {L:List (List ByteArray)} (h:(goH m L).2≠0) (T:List (List ByteArray)):goH m (L++T)=goH m L:=by
 unfold goH at h ⊢;rw [List.foldl_append];exact qnh h T
theorem qnb {m:Md} (hp:vu m=true) : ∀ L:List (List ByteArray),((goH m L).2=0->vu (goH m L).1=true)/\((goH m L).2≠0->(goH m L).1=md0):=fun L=>by
 suffices ∀ (L:List (List ByteArray)) (s:Md × Int),((s.2=0->vu s.1=true)/\(s.2≠0->s.1=md0))->((L.foldl zL s).2=0->vu (L.foldl zL s).1=true)/\((L.foldl zL s).2≠0->(L.foldl zL s).1=md0) from this L (m,0) ⟨fun _=>hp,fun h=>absurd rfl h⟩
 intro L
 induction L with
 | nil=>intro s h;exact h
 | cons W L ih =>
  intro s h;rw [List.foldl_cons];refine ih _ ?_;unfold zL
  split
  ·exact ⟨qcL,fun h=>by rw [qnk _ _ h]⟩
  ·exact h
end Go.Proofs.YtggegijlfaipfaaGreatDoor
namespace Go.Proofs.YtggegijlfaipfaaGreatDoor
open Go.Proofs.Tryz Go.RowKit Go.Shelf
set_option maxRecDepth 20000
attribute [local go_sem] Oper.semAt_some
abbrev SpX (ls:List SpkM):={ x:SpkM // x∈ls/\x.com=true }
def qmO (ls:List SpkM):List SpkM:=ls.filter fun x=>x.com
theorem qni {ls:List SpkM} {k:Nat} (h:k<ls.length):qmO (ls.take (k+1))=qmO (ls.take k)++(if ls[k].com=true then [ls[k]] else []):=by
 unfold qmO;rw [List.take_succ_eq_append_getElem h,List.filter_append]
 cases h:ls[k].com <;> simp [h]
theorem qnm (ls:List SpkM) (k:Nat):qmO (ls.take k) <+: qmO ls:=by
 refine ⟨qmO (ls.drop k),?_⟩;unfold qmO;rw [<- List.filter_append,List.take_append_drop]
theorem cmpl_len {ls:List SpkM} {k:Nat} (h:k<ls.length) (hc:ls[k].com=true):(qmO (ls.take k)).length<(qmO ls).length:=by
 have h1:=(qnm ls (k+1)).length_le;rw [qni h,if_pos hc,Lf,Lz] at h1
 omega
theorem comp1_in (F:Fence) (n:Nat) (h72:F.fn 33) (hro:F.round=none) (hn:1<=n) (l Bs n₀:Nat) (A:Option Addr) (m c:Nat) (ls:List SpkM) (J Jx:List (SpX ls)->World->Prop) (W:World) (hJ:AbidesFrom W.heap.size J) (hm:m<=1000)
  (hY : ∀ (pre:List (SpX ls)) (x:SpX ls) (W1:World),J pre W1->pre.length<(qmO ls).length->YieldAt F (n-1) prog l #[uttV x.1] W1 fun e W'=>(e = .returned (.bool true)/\J (pre++[x]) W'/\Below n₀ W1 W')∨(e = .returned (.bool false)/\Jx (pre++[x]) W'))
  (hBs:W.cell? ⟨Bs,0,none⟩=some (.slice A m c)) (rd:RdS W n₀ A m ls) (hn₀:n₀<=W.heap.size) (h0:J [] W) :
  CallsIn F n prog 33 #[.func (.yield l) #[] #[],.pointer (some ⟨Bs,0,none⟩)] W fun e W'=>(∃ v,e = .returned v) /\
   ((∃ ys:List (SpX ls),ys.map (·.1)=qmO ls/\J ys W')∨(∃ pre:List (SpX ls),pre.map (·.1) <+: qmO ls/\Jx pre W')):=by
 have hln:=rd.len;have HRd:=Lh rd;clear rd;refine callsIn_of_wp func33 rfl h72 ?_ hro;simp only [ntmps33,List.size_toArray,Lp,List.length_nil,Nat.reduceAdd,Nat.reduceSub,Array.replicate_succ,Array.replicate_zero,List.push_toArray,List.append_toArray,Lg,List.cons_append]
 gi_wp2
 gi_loopw [7] (fun i wr=>∃ (k:Nat) (pre:List (SpX ls)),k<=m/\i = .int .i64 k/\pre.map (·.1)=qmO (ls.take k)/\J pre wr/\Below n₀ W wr) (fun i _=>m-(intOf i).toNat)
 case atStart=>exact ⟨0,[],Nat.zero_le _,rfl,rfl,h0,Le _ _⟩
 case round =>
  obtain ⟨k,pre,hk,rfl,hp,hJs,hnx⟩:=hrel
  by_cases hlt:k<m
  ·have hkl:k<ls.length:=by omega
   obtain ⟨b,o,rfl,hbB,c0,c1,c2,c3,c4,c5,c6,c7⟩:=(HRd.out.below hnx).at_ hkl;have hmem:ls[k]∈ls:=Lt hkl;have htk:=qni hkl;have hpl:ls[k].com=true->pre.length<(qmO ls).length:=fun h=>by
    have:=cmpl_len hkl h;rw [<- hp,Lq] at this;exact this
   have hpre:=qnm ls (k+1);generalize ls[k]=x at *
   obtain ⟨com,ws,xA,xcap,cA,cn,cc,cl,af,up,be,en⟩:=x;dsimp only at c0 c1 c2 c3 c4 c5 c6 c7;generalize hws:ws.length=nw at *
   cases com with
   | true =>
    obtain ⟨fn,tmps,assign,body,hy,hR⟩:=hY pre ⟨_,hmem,rfl⟩ (wr.alloc (.cells #[.slice xA nw xcap,.slice cA cn cc,.int .i64 cl,.int .i64 af,.int .i64 up,.int .i64 be,.int .i64 en,.bool true] 45)) (hJ _ _ _ none hJs (World.grownBy_alloc _ _ none) (fun r e=>by cases e)) (hpl rfl);dsimp only [uttV] at hy;rw [hws] at hy;have hka:Below n₀ W (wr.alloc (.cells #[.slice xA nw xcap,.slice cA cn cc,.int .i64 cl,.int .i64 af,.int .i64 up,.int .i64 be,.int .i64 en,.bool true] 45)):=hnx.alloc (Lj hn₀ hnx.size) _
    gi_wp2
    refine hR.mono ?_;rintro e W3 (⟨rfl,hJ3,hk3⟩ | ⟨rfl,hJx3⟩)
    ·gi_wp2
     go_roundw
     case rel=>exact ⟨k+1,_,by omega,by simp,by simp [List.map_append,hp,htk],hJ3,hka.trans hk3⟩
     case measure=>simp [intOf];omega
    ·gi_wp2
     refine bodyPost_ret (results_none rfl _ _ _) rfl ?_;exact ⟨⟨_,rfl⟩,.inr ⟨_,by rw [List.map_append,hp];rw [htk] at hpre;simpa using hpre,hJx3⟩⟩
   | false =>
    have hka:Below n₀ W (wr.alloc (.cells #[.slice xA nw xcap,.slice cA cn cc,.int .i64 cl,.int .i64 af,.int .i64 up,.int .i64 be,.int .i64 en,.bool false] 45)):=hnx.alloc (Lj hn₀ hnx.size) _;have hJ2:=hJ _ _ (wr.alloc (.cells #[.slice xA nw xcap,.slice cA cn cc,.int .i64 cl,.int .i64 af,.int .i64 up,.int .i64 be,.int .i64 en,.bool false] 45)) none hJs (World.grownBy_alloc _ _ none) (fun r e=>by cases e)
    gi_wp2
    refine ⟨fun _ h=>(by cases h),?_⟩
    gi_wp2
    go_roundw
    case rel=>exact ⟨k+1,pre,by omega,by simp,by simp [hp,htk],hJ2,hka⟩
    case measure=>simp [intOf];omega
  ·obtain rfl:k=m:=by omega
   gi_wp2
   go_end0;refine ⟨⟨_,rfl⟩,.inl ⟨pre,?_,hJs⟩⟩;rw [hp,<- hln,List.take_length]
theorem comp_in (F:Fence) (n:Nat) (h44:F.fn 19) (hro:F.round=none) (A:Option Addr) (m c:Nat) (w:World) :
  CallsIn F n prog 19 #[.slice A m c] w fun e w'=>e = .returned (.func (.func 33) #[] #[.pointer (some ⟨w.heap.size,0,none⟩)])/\w'=w.alloc (.cells #[.slice A m c] 27):=by
 refine callsIn_of_wp func19 rfl h44 ?_ hro;simp only [ntmps19,List.size_toArray,Lp,List.length_nil,Nat.reduceAdd,Nat.reduceSub,Array.replicate_succ,Array.replicate_zero,List.push_toArray,List.append_toArray,Lg,List.cons_append]
 gi_wp2
 go_ret;exact ⟨rfl,rfl⟩
theorem qnp (F:Fence) (n:Nat) (h72:F.fn 33) (hro:F.round=none) (hn:1<=n) (Bs n₀:Nat) (A:Option Addr) (m c:Nat) (ls:List SpkM) (hm:m<=1000) (w:World) (hBs:Bs<w.heap.size) (hn₀:n₀<=w.heap.size)
  (hc:w.cell? ⟨Bs,0,none⟩=some (.slice A m c)) (rd:RdS w n₀ A m ls) :
  SeqStopsK F n prog 33 #[.pointer (some ⟨Bs,0,none⟩)] (fun x:SpX ls=>#[uttV x.1]) (Below n₀) (fun ys=>ys.map (·.1)=qmO ls) (fun pre=>pre.map (·.1) <+: qmO ls) (qmO ls).length w:=fun l J Jx W hW hJ _ hY h0 =>
 comp1_in F n h72 hro hn l Bs n₀ A m c ls J Jx W hJ hm hY ((hW.cell (p:=⟨Bs,0,none⟩) hBs).trans hc) (rd.below (hW.mono hn₀)) (Lj hn₀ hW.size) h0
end Go.Proofs.YtggegijlfaipfaaGreatDoor
namespace Go.Proofs.YtggegijlfaipfaaGreatDoor
open Go.Proofs.Tryz Go.RowKit
set_option maxRecDepth 20000
theorem sv_app (a b:List ByteArray):sv (a++b)=sv a++sv b:=by simp [sv]
def SayI (X:World) (base g:Nat) (xs:List ByteArray):Prop:=∃ A c,Blk X g 40 #[.slice A xs.length c]/\X.ownsRow base 9 1 (.slice A xs.length c) xs.length (sv xs)
theorem SayI.lt {X:World} {base g:Nat} {xs:List ByteArray} (h:SayI X base g xs):g<X.heap.size:=by
 obtain ⟨A,c,h1,h2⟩:=h;exact h1.lt
theorem SayI.on {X Y:World} {base g:Nat} {xs:List ByteArray} (h:SayI X base g xs) (hb:Below X.heap.size X Y):SayI Y base g xs:=by
 obtain ⟨A,c,h1,h2⟩:=h;exact ⟨A,c,h1.below hb h1.lt,qb h2 hb⟩
theorem SayI.put {X:World} {base g n c:Nat} {xs ys:List ByteArray} {A:Option Addr} {v:Value} (h:Blk X g 40 #[v]) (ho:X.ownsRow base 9 1 (.slice A n c) n (sv xs++sv ys)) (hn:n=xs.length+ys.length) (hg:g<base):SayI (X.setCell ⟨g,0,none⟩ (.slice A n c)) base g (xs++ys):=by
 subst hn;refine ⟨A,c,?_,?_⟩
 ·have:=h.set_ 0 (.slice A (xs.length+ys.length) c);rw [Lf]
  simpa using this
 ·rw [Lf,sv_app];exact zZ ho hg _
section
variable {P : Program}
def EachOp (P:Program) (V:Nat->Value->World->Prop) (W:World->Prop) (T:World->World->Prop) (Q:Exit->Act->World->Prop) (l:List Oper) (a:Act):List Oper->Nat->Prop
 | [],_=>True
 | o::rest,i=>(∀ (a':Act) (w':World),W w'->a'.tmps.size=a.tmps.size->(∀ s,(l.filterMap (·.dst)).contains s=false->a'.tmps.getD s undef=a.tmps.getD s undef) ->
   (∀ e∈o.after,Region.binds .any e=true->∀ oe d,l[e.on]? = some oe->oe.dst=some d->V e.on (a'.tmps.getD d undef) w') ->
   if Region.wanted o (yielded l.toArray a'.tmps)=true then o.wp P a' w' (fun a'' w''=>∃ v,a''=a'.put o.dst v/\V i v w''/\W w''/\T w' w'') Q else V i undef w')/\EachOp P V W T Q l a rest (i+1)
theorem EachOp.at_ {V:Nat->Value->World->Prop} {W:World->Prop} {T:World->World->Prop} {Q:Exit->Act->World->Prop} {l:List Oper} {a:Act} : ∀ (r:List Oper) (k i:Nat) (o:Oper),EachOp P V W T Q l a r k->r[i]? = some o ->
  (∀ (a':Act) (w':World),W w'->a'.tmps.size=a.tmps.size->(∀ s,(l.filterMap (·.dst)).contains s=false->a'.tmps.getD s undef=a.tmps.getD s undef) ->
   (∀ e∈o.after,Region.binds .any e=true->∀ oe d,l[e.on]? = some oe->oe.dst=some d->V e.on (a'.tmps.getD d undef) w') ->
   if Region.wanted o (yielded l.toArray a'.tmps)=true then o.wp P a' w' (fun a'' w''=>∃ v,a''=a'.put o.dst v/\V (k+i) v w''/\W w''/\T w' w'') Q else V (k+i) undef w')
 | [],_,_,_,_,h=>by cases h
 | o::r,k,0,o',h,hi=>by
  obtain rfl:o=o':=by simpa using hi
  exact h.1
 | o::r,k,i+1,o',h,hi=>by
  have:=EachOp.at_ r (k+1) i o' h.2 (by simpa using hi)
  rwa [show k+1+i=k+(i+1) by omega] at this
end
section
variable {P : Program} {G : Type}
def EachG (P:Program) (V:G->Nat->Value->World->Prop) (C:G->Array Bool->Prop) (W:G->World->Prop) (Q:Exit->Act->World->Prop) (l:List Oper) (a:Act):List Oper->Nat->Prop
 | [],_=>True
 | o::rest,i=>(∀ (s:G) (L:Array Bool) (a':Act) (w':World),C s L->W s w'->L.size=l.length->L.getD i false=false->(∀ e∈o.after,Region.binds .any e=true->L.getD e.on false=true)->a'.tmps.size=a.tmps.size->(∀ t,(l.filterMap (·.dst)).contains t=false->a'.tmps.getD t undef=a.tmps.getD t undef) ->
   (∀ e∈o.after,Region.binds .any e=true->∀ oe d,l[e.on]? = some oe->oe.dst=some d->V s e.on (a'.tmps.getD d undef) w') ->
   o.guard=none/\o.wp P a' w' (fun a'' w''=>∃ v s',a''=a'.put o.dst v/\C s' (L.setIfInBounds i true)/\W s' w''/\V s' i v w''/\∀ j u,j≠i->L.getD j false=true->V s j u w'->V s' j u w'') Q)/\EachG P V C W Q l a rest (i+1)
theorem EachG.at_ {V:G->Nat->Value->World->Prop} {C:G->Array Bool->Prop} {W:G->World->Prop} {Q:Exit->Act->World->Prop} {l:List Oper} {a:Act} : ∀ (r:List Oper) (k i:Nat) (o:Oper),EachG P V C W Q l a r k->r[i]? = some o ->
  (∀ (s:G) (L:Array Bool) (a':Act) (w':World),C s L->W s w'->L.size=l.length->L.getD (k+i) false=false->(∀ e∈o.after,Region.binds .any e=true->L.getD e.on false=true)->a'.tmps.size=a.tmps.size->(∀ t,(l.filterMap (·.dst)).contains t=false->a'.tmps.getD t undef=a.tmps.getD t undef) ->
   (∀ e∈o.after,Region.binds .any e=true->∀ oe d,l[e.on]? = some oe->oe.dst=some d->V s e.on (a'.tmps.getD d undef) w') ->
   o.guard=none/\o.wp P a' w' (fun a'' w''=>∃ v s',a''=a'.put o.dst v/\C s' (L.setIfInBounds (k+i) true)/\W s' w''/\V s' (k+i) v w''/\∀ j u,j≠k+i->L.getD j false=true->V s j u w'->V s' j u w'') Q)
 | [],_,_,_,_,h=>by cases h
 | o::r,k,0,o',h,hi=>by
  obtain rfl:o=o':=by simpa using hi
  exact h.1
 | o::r,k,i+1,o',h,hi=>by
  have:=EachG.at_ r (k+1) i o' h.2 (by simpa using hi)
  rwa [show k+1+i=k+(i+1) by omega] at this
end
def OneS (lo:Nat) (rho:Value) (x:ByteArray) (v:Value) (wx:World):Prop:=∃ b,v = .slice (some ⟨b,0,none⟩) 1 1/\Blk wx b 9 #[.string x]/\lo<=b/\some b≠rho.ownBlock
theorem OneS.on {lo:Nat} {rho v:Value} {x:ByteArray} {w w':World} (h:OneS lo rho x v w) (hb:Below w.heap.size w w'):OneS lo rho x v w':=by
 obtain ⟨b,e,hk,hl,hn⟩:=h;exact ⟨b,e,hk.below hb hk.lt,hl,hn⟩
theorem OneS.app {lo:Nat} {rho rho' v:Value} {x:ByteArray} {w w':World} (h:OneS lo rho x v w) (hg:w.grownBy w' rho.ownBlock) (hat:rho'.ownBlock=rho.ownBlock∨rho'.ownBlock=some w.heap.size):OneS lo rho' x v w':=by
 obtain ⟨b,e,hk,hl,hn⟩:=h;refine ⟨b,e,hk.grown hg hn,hl,fun h'=>?_⟩
 rcases hat with h | h
 ·exact hn (h'.trans h)
 ·rw [h] at h'
  cases h'
  exact Nat.lt_irrefl _ hk.lt
def RowS (lo:Nat) (rho:Value) (l:List ByteArray) (v:Value) (wx:World):Prop:=∃ A c,v = .slice A l.length c/\wx.ownsRow lo 9 1 v l.length (sv l)/\(v.ownBlock=none∨v.ownBlock≠rho.ownBlock)
theorem RowS.on {lo:Nat} {rho v:Value} {x:List ByteArray} {w w':World} (h:RowS lo rho x v w) (hb:Below w.heap.size w w'):RowS lo rho x v w':=by
 obtain ⟨A,c,e,ho,hn⟩:=h;exact ⟨A,c,e,qb ho hb,hn⟩
theorem RowS.app {lo:Nat} {rho rho' v:Value} {x:List ByteArray} {w w':World} (h:RowS lo rho x v w) (hg:w.grownBy w' rho.ownBlock) (hat:rho'.ownBlock=rho.ownBlock∨rho'.ownBlock=some w.heap.size):RowS lo rho' x v w':=by
 obtain ⟨A,c,e,ho,hn⟩:=h;refine ⟨A,c,e,ho.kept hg hn,?_⟩
 rcases hk:v.ownBlock with _ | k
 ·exact .inl rfl
 ·right
  intro h'
  rcases hat with h | h
  ·rcases hn with h0 | h0
   ·rw [hk] at h0;cases h0
   ·exact h0 (hk.trans (h'.trans h))
  ·rw [h] at h'
   cases h'
   exact Nat.lt_irrefl _ (ho.lt _ hk).2
def rwL (xs SW:List ByteArray):Nat->List ByteArray
 | 0=>xs
 | 1=>xs++[qK]
 | 2=>xs++[qK]++SW
 | _=>xs++[qK]++SW++[vF]
def rgV (h lo:Nat) (v0:Value) (Ag:Option Addr) (gl cap:Nat) (st:Value) (SW:List ByteArray) (s:Nat × Value) (i:Nat) (v:Value) (wx:World):Prop:=match i with
 | 0=>v=v0
 | 1=>s.1=0->OneS lo s.2 qK v wx
 | 2=>s.1=1->v=s.2
 | 3=>v = .pointer (some ⟨h,5,none⟩)
 | 4=>v = .slice Ag gl cap
 | 5=>v=st
 | 6=>s.1<=1->RowS lo s.2 SW v wx
 | 7=>s.1=2->v=s.2
 | 8=>s.1<=2->OneS lo s.2 vF v wx
 | 9=>s.1=3->v=s.2
 | _=>True
theorem rgV.on {h lo:Nat} {v0:Value} {Ag:Option Addr} {gl cap:Nat} {st:Value} {SW:List ByteArray} {s:Nat × Value} {i:Nat} {v:Value} {w w':World} (H:rgV h lo v0 Ag gl cap st SW s i v w) (hb:Below w.heap.size w w'):rgV h lo v0 Ag gl cap st SW s i v w':=by
 unfold rgV at *
 split at H <;> first | exact H | exact fun e=>(H e).on hb
def rgC (s:Nat × Value) (L:Array Bool):Prop:=(L.size=11/\L.getD 2 false=decide (1<=s.1)/\L.getD 7 false=decide (2<=s.1)/\L.getD 9 false=decide (3<=s.1)/\L.getD 10 false=decide (4<=s.1)) /\
 (1<=s.1->L.getD 0 false=true/\L.getD 1 false=true)/\(2<=s.1->L.getD 6 false=true)/\(3<=s.1->L.getD 8 false=true)/\(L.getD 6 false=true->L.getD 4 false=true/\L.getD 5 false=true)
theorem qcI {L:Array Bool} {i j:Nat} (h:j≠i):(L.setIfInBounds i true).getD j false=L.getD j false:=by
 rw [Array.getD_eq_getD_getElem?,Array.getD_eq_getD_getElem?,Array.getElem?_setIfInBounds_ne (Ne.symm h)]
theorem qfY {L:Array Bool} {i:Nat} (h:i<L.size):(L.setIfInBounds i true).getD i false=true:=by
 rw [Array.getD_eq_getD_getElem?,Array.getElem?_setIfInBounds_self_of_lt h]
 rfl
theorem vK {L:Array Bool} {i j:Nat} (h:L.getD j false=true):(L.setIfInBounds i true).getD j false=true:=by
 by_cases e:j=i
 ·subst e;have hl:j<L.size:=by
   rcases Nat.lt_or_ge j L.size with h' | h'
   ·exact h'
   ·rw [Array.getD_eq_getD_getElem?,Array.getElem?_eq_none h'] at h;cases h
  exact qfY hl
 ·rw [qcI e];exact h
theorem rgC.step {s s':Nat × Value} {L:Array Bool} (h:rgC s L) {i:Nat} (h2:(L.setIfInBounds i true).getD 2 false=decide (1<=s'.1)) (h7:(L.setIfInBounds i true).getD 7 false=decide (2<=s'.1)) (h9:(L.setIfInBounds i true).getD 9 false=decide (3<=s'.1)) (h10:(L.setIfInBounds i true).getD 10 false=decide (4<=s'.1))
  (g0:1<=s'.1->1<=s.1∨L.getD 0 false=true/\L.getD 1 false=true) (g6:2<=s'.1->2<=s.1∨L.getD 6 false=true) (g8:3<=s'.1->3<=s.1∨L.getD 8 false=true) (g4:i=6->L.getD 4 false=true/\L.getD 5 false=true):rgC s' (L.setIfInBounds i true):=by
 obtain ⟨⟨a0,a1,a2,a3,a4⟩,b1,b2,b3,b4⟩:=h;refine ⟨⟨by rw [Array.size_setIfInBounds];exact a0,h2,h7,h9,h10⟩,fun e=>?_,fun e=>?_,fun e=>?_,fun e=>?_⟩
 ·have:=(g0 e).elim b1 id;exact ⟨vK this.1,vK this.2⟩
 ·exact vK ((g6 e).elim b2 id)
 ·exact vK ((g8 e).elim b3 id)
 ·by_cases h6:i=6
  ·exact ⟨vK (g4 h6).1,vK (g4 h6).2⟩
  ·rw [qcI (Ne.symm h6)] at e;exact ⟨vK (b4 e).1,vK (b4 e).2⟩
def rgW (X:World) (h:Nat) (v0:Value) (xs SW:List ByteArray) (s:Nat × Value) (wx:World):Prop :=
 (∃ A c,s.2 = .slice A (rwL xs SW s.1).length c)/\wx.ownsRow (h+3) 9 1 s.2 (rwL xs SW s.1).length (sv (rwL xs SW s.1))/\(s.1=0->s.2=v0)/\s.1<=4/\X.heap.size<=wx.heap.size /\
  (s.1<=3->Below (h+3) X wx)/\(s.1=4->Below (h+2) X wx/\Blk wx (h+2) 40 #[s.2])
theorem rgW.on {X:World} {h:Nat} {v0:Value} {xs SW:List ByteArray} {s:Nat × Value} {w w':World} (H:rgW X h v0 xs SW s w) (hX:h+3<=X.heap.size) (hb:Below w.heap.size w w'):rgW X h v0 xs SW s w':=by
 obtain ⟨h1,h2,h3,h4,h5,h6,h7⟩:=H;exact ⟨h1,qb h2 hb,h3,h4,Lj h5 hb.size,fun e=>(h6 e).trans (hb.mono L0),fun e=>⟨(h7 e).1.trans (hb.mono L0),(h7 e).2.below hb (h7 e).2.lt⟩⟩
section
variable {a : Act} {w : World} {K : Act -> World -> Prop} {Q : Exit -> Act -> World -> Prop}
end
def BadS (r q k:Int):Prop:=(r<25∨400<r)∨(q≠0/\(q<2∨132<q))∨(k<1∨80<k)
instance (r q k:Int):Decidable (BadS r q k):=by unfold BadS;infer_instance
def setE (r q k:Int):Int:=if BadS r q k then 2 else 0
theorem qjy (l:List Nat):(yI l).size<=4 * l.length:=by
 unfold yI
 show (List.toArray _).size<=_
 rw [List.size_toArray,Lq];exact qf8 l
theorem gw_of {g:Gl} (h:qJ g=0):GW g/\g.text.size<=16:=by
 obtain ⟨h1,h2,h3⟩:=qcr h;obtain ⟨r,t,_,_,_,_,_,ht,he,_⟩:=h1.form;have:=qjy (r::t);rw [<- he] at this;simp only [Lp] at this;exact ⟨⟨⟨h1.1,by omega⟩,h2,h3⟩,by omega⟩
theorem chk_gl {c:Chg} (h:vj c=0):c.glyphs.length<=132/\(∀ g∈c.glyphs,qJ g=0)/\(1<=c.kind/\c.kind<=4)/\je c=true:=by
 obtain ⟨h1,h2,h3,h4⟩:=qdG h;refine ⟨?_,?_,h1,h2⟩
 ·by_cases hk:c.kind=3
  ·by_cases hl:132<c.glyphs.length
   ·exact absurd ⟨hk,hl⟩ h3
   ·omega
  ·unfold jk at h4;have:c.glyphs=[]:=by
    split at h4
    ·exact (of_decide_eq_true h4).2.2
    ·split at h4
     ·exact (of_decide_eq_true h4).2
     ·exact (of_decide_eq_true h4).2
   rw [this]
   simp
 ·by_cases hk:c.kind=3
  ·unfold jk at h4;rw [if_neg L0,if_neg L0,if_pos hk] at h4;simp only [Bool.and_eq_true,List.all_eq_true,decide_eq_true_eq] at h4;exact h4.2
  ·have:c.glyphs=[]:=by
    unfold jk at h4
    split at h4
    ·exact (of_decide_eq_true h4).2.2
    ·split at h4
     ·exact (of_decide_eq_true h4).2
     ·exact (of_decide_eq_true h4).2
   rw [this];exact fun g hg=>by cases hg
def wErr (l:List ChgM) (m r q k:Int):Int:=if setE r q k≠0∨m<0 then 1 else if 999999999<m then 5 else chkAll l
def UwR (l:List ChgM) (m r q k:Int) (S:Setts) (w:World) (e:Ending) (w':World):Prop :=
 if wErr l m r q k=0 then ql 9 1 yP w (qZ (zo l) m S).length (sv (qZ (zo l) m S)) e w' else e = .returned (.tuple #[.slice none 0 0,.int .i64 (wErr l m r q k)])/\Below w.heap.size w w'
theorem UwR.err {l:List ChgM} {m r q k x:Int} {S:Setts} {w w':World} {e:Ending} (h:wErr l m r q k=x) (hx:x≠0) (he:e = .returned (.tuple #[.slice none 0 0,.int .i64 x])/\Below w.heap.size w w'):UwR l m r q k S w e w':=by
 unfold UwR;rw [if_neg (by rw [h];exact hx),h];exact he
theorem UwR.ok {l:List ChgM} {m r q k:Int} {S:Setts} {w w':World} {e:Ending} (h:wErr l m r q k=0) (he:ql 9 1 yP w (qZ (zo l) m S).length (sv (qZ (zo l) m S)) e w'):UwR l m r q k S w e w':=by
 unfold UwR;rw [if_pos h];exact he
theorem chg_ext {a b:Chg} (h1:a.kind=b.kind) (h2:a.row=b.row) (h3:a.col=b.col) (h4:a.count=b.count) (h5:a.til=b.til) (h6:a.glyphs=b.glyphs):a=b:=by
 cases a;cases b
 simp only at h1 h2 h3 h4 h5 h6;subst h1 h2 h3 h4 h5 h6
 rfl
instance:DecidableEq Chg:=fun a b=>if h:a.kind=b.kind/\a.row=b.row/\a.col=b.col/\a.count=b.count/\a.til=b.til/\a.glyphs=b.glyphs then isTrue (chg_ext h.1 h.2.1 h.2.2.1 h.2.2.2.1 h.2.2.2.2.1 h.2.2.2.2.2) else isFalse fun e=>h (by subst e;exact ⟨rfl,rfl,rfl,rfl,rfl,rfl⟩)
def eCh:Chg:=⟨3,4,0,0,0,[⟨⟨#[111]⟩,false,0⟩,⟨⟨#[107]⟩,false,0⟩]⟩
theorem WdR.own {w:World} {base n c:Nat} {A:Option Addr} {l:List ByteArray} (h:w.ownsRow base 9 1 (.slice A n c) n (sv l)) (hs : ∀ s∈l,s.size<=1000):WdR w w.heap.size l A n c:=by
 have hl:l.length=n:=by have:=(Rd.of_own h).1;rw [sv_len] at this;omega
 exact ⟨hl,(qas h).1,(qas h).2,Rd.of_own h,hs⟩
theorem WdR.more {w:World} {B B':Nat} {l:List ByteArray} {A:Option Addr} {n c:Nat} (h:WdR w B l A n c) (hb:B<=B'):WdR w B' l A n c:=⟨h.len,h.cap,h.max,h.rd.more hb,h.sz⟩
def ExI (w X:World):Prop:=RdC X X.heap.size (some ⟨w.heap.size+1,0,none⟩) 1 [⟨eCh,some ⟨w.heap.size,0,none⟩,2⟩]/\Below w.heap.size w X
theorem ExI.on {w X Y:World} (h:ExI w X) (hb:Below X.heap.size X Y):ExI w Y:=⟨(h.1.below hb).more hb.size,h.2.trans (hb.mono h.2.size)⟩
theorem ExI.new (w:World):ExI w ((w.alloc (.cells (qi eCh.glyphs).toArray 61)).alloc (.cells (qb5 ⟨eCh,some ⟨w.heap.size,0,none⟩,2⟩).toArray 71)):=by
 have hr:Rd (w.alloc (.cells (qi eCh.glyphs).toArray 61)) (w.heap.size+1) 3 (some ⟨w.heap.size,0,none⟩) 2 (qi eCh.glyphs):=qe rfl rfl;have hb2:Below (w.heap.size+1) (w.alloc (.cells (qi eCh.glyphs).toArray 61)) ((w.alloc (.cells (qi eCh.glyphs).toArray 61)).alloc (.cells (qb5 ⟨eCh,some ⟨w.heap.size,0,none⟩,2⟩).toArray 71)):=(Le _ _).alloc L1 _;refine ⟨⟨?_,fun x hx=>?_⟩,(L5).alloc L1 _⟩
 ·exact Rd.more (B:=w.heap.size+1+1) (qe (xs:=qb5 ⟨eCh,some ⟨w.heap.size,0,none⟩,2⟩) L1 rfl) L1
 ·rw [List.mem_singleton] at hx;subst hx;exact ⟨(hr.below hb2).more L1,(by show 2<=2;decide),(by show 2<=maxLen;decide)⟩
def SzW (l:List ByteArray):Prop:=∀ s∈l,s.size<=1000
theorem SzW.nil:SzW []:=fun s hs=>by cases hs
theorem SzW.cons {a:ByteArray} {l:List ByteArray} (h:a.size<=1000) (hl:SzW l):SzW (a::l):=fun s hs=>by
 rcases List.mem_cons.1 hs with rfl | hs
 ·exact h
 ·exact hl s hs
theorem SzW.app {a b:List ByteArray} (h:SzW a) (hl:SzW b):SzW (a++b):=fun s hs=>by
 rcases List.mem_append.1 hs with hs | hs
 ·exact h s hs
 ·exact hl s hs
theorem bothG {P:Program} {f:FuncId} {args:Array Value} {w X:World} {v:Value} (h:Calls P f args X (qh v X)) (hb:Below w.heap.size w X):Calls P f args X fun e X'=>e = .returned v/\Below w.heap.size w X'/\Below X.heap.size X X' :=
 h.mono fun _ _ ⟨h1,h2⟩=>⟨h1,hb.trans (h2.mono hb.size),h2⟩
theorem bothS {P:Program} {f:FuncId} {args:Array Value} {w X:World} {v:Value} (h:Calls P f args X fun e X'=>e = .returned v/\X'=X) (hb:Below w.heap.size w X):Calls P f args X fun e X'=>e = .returned v/\Below w.heap.size w X'/\Below X.heap.size X X' :=
 h.mono fun _ _ ⟨h1,h2⟩=>by subst h2;exact ⟨h1,hb,Le _ _⟩
theorem num_len2 {l t:List ByteArray} {n:Int} (h:kU l=some (n,t)):t.length+1<=l.length:=by
 unfold kU at h;rw [Option.map_eq_some_iff] at h;obtain ⟨x,hp,e⟩:=h
 cases e
 obtain ⟨hk0,hkl,_⟩:=zF (n:=x.1) (k:=x.2) hp;rw [List.length_drop]
 omega
theorem qaf {s:ByteArray} {l t:List ByteArray} {n:Int} (h:afO s l=some (n,t)):t.length+2<=l.length:=by
 unfold afO at h;rw [Option.bind_eq_some_iff] at h;obtain ⟨x,h1,h2⟩:=h;have:=yV h1;have:=num_len2 h2
 omega
theorem ins_len2 {l t:List ByteArray} {G:List Gl} (h:insL l=some (G,t)):t.length<=l.length:=by
 unfold insL at h
 split at h
 ·rw [Option.bind_eq_some_iff] at h;obtain ⟨x,h1,h2⟩:=h;have:=yV h1;have:=(qgs h2).1
  omega
 ·cases h
  exact Ld _
theorem chg_len4 {l t:List ByteArray} {c:Chg} (h:qaL l=some (c,t)):t.length+4<=l.length:=by
 unfold qaL at h
 split at h
 ·rw [Option.bind_eq_some_iff] at h;obtain ⟨x,h1,h⟩:=h;rw [Option.bind_eq_some_iff] at h;obtain ⟨y,h2,h⟩:=h;rw [Option.map_eq_some_iff] at h;obtain ⟨u,h3,h⟩:=h
  cases h
  have:=qaf h1;have:=qaf h2;have:=yV h3
  omega
 ·split at h
  ·rw [Option.bind_eq_some_iff] at h;obtain ⟨x,h1,h⟩:=h;rw [Option.bind_eq_some_iff] at h1;obtain ⟨x0,h0,h1⟩:=h1;rw [Option.bind_eq_some_iff] at h;obtain ⟨y,h2,h⟩:=h;have:=yV h0;have:=qaf h1;have:=qaf h2
   split at h
   ·rw [Option.bind_eq_some_iff] at h;obtain ⟨z,h3,h⟩:=h;have:=kg h3
    split at h
    ·cases h
    ·cases h
     omega
   ·rw [Option.bind_eq_some_iff] at h;obtain ⟨z,h3,h⟩:=h;have:=kg h3
    split at h
    ·cases h
    ·cases h
     omega
  ·split at h
   ·unfold qbo at h;rw [Option.bind_eq_some_iff] at h;obtain ⟨x,h1,h⟩:=h;rw [Option.bind_eq_some_iff] at h;obtain ⟨y,h2,h⟩:=h;rw [Option.bind_eq_some_iff] at h;obtain ⟨z,h3,h⟩:=h;rw [Option.map_eq_some_iff] at h;obtain ⟨g,h4,h⟩:=h
    cases h
    have:=qaf h1;have:=qaf h2;have:=qim h3;have:=ins_len2 h4
    omega
   ·split at h
    ·rw [Option.bind_eq_some_iff] at h;obtain ⟨x,h1,h⟩:=h;rw [Option.bind_eq_some_iff] at h1;obtain ⟨x0,h0,h1⟩:=h1;rw [Option.bind_eq_some_iff] at h;obtain ⟨y,h2,h⟩:=h;have:=yV h0;have:=qaf h1;have:=qaf h2
     split at h
     ·rw [Option.map_eq_some_iff] at h;obtain ⟨u,h3,h⟩:=h
      cases h
      have:=yV h3
      omega
     ·rw [Option.map_eq_some_iff] at h;obtain ⟨u,h3,h⟩:=h
      cases h
      have:=yV h3
      omega
    ·cases h
theorem qdl : ∀ (f:Nat) (l:List ByteArray) (acc m:List Chg) (n:Int),yR f l acc=some (m,n)->4 * m.length<=4 * acc.length+l.length
 | 0,l,acc,m,n,h=>by cases h
 | f+1,l,acc,m,n,h=>by
  rw [yR] at h
  split at h
  ·rw [Option.map_eq_some_iff] at h;obtain ⟨x,_,h⟩:=h
   cases h
   omega
  ·rw [Option.bind_eq_some_iff] at h;obtain ⟨x,h1,h⟩:=h
   split at h
   ·have:=qdl f x.2 (acc++[x.1]) m n h;have:=chg_len4 (c:=x.1) (t:=x.2) h1;rw [Lf,Lp,List.length_nil] at *
    omega
   ·cases h
theorem qeb {l:List ByteArray} {m:List Chg} {n:Int} (h:jm l=some (m,n)):4 * m.length<=l.length:=by
 have:=qdl _ _ _ _ _ h;simp only [List.length_nil] at this
 omega
theorem glN_le {cs:List Chg} (h : ∀ c∈cs,c.glyphs.length<=132):glN cs<=cs.length * 396:=by
 induction cs with
 | nil=>simp [glN]
 | cons c t ih =>
  rw [qb3,Lp];have h1:=h c L1;have h2:=ih fun x hx=>h x (by simp [hx])
  omega
theorem few_chk {cs:List Chg} {k:Int} (h : ∀ c∈cs,vj c=0) (hk:0<=k/\k<=999999999) (hl:cs.length<=250000):Few cs k:=by
 have hg : ∀ c∈cs,c.glyphs.length<=132:=fun c hc=>(chk_gl (h c hc)).1
 have:=glN_le hg;refine ⟨by omega,fun c hc=>⟨by have:=hg c hc;omega,fun g hg2=>?_⟩,by omega,hk.1,by omega⟩;have:=(gw_of ((chk_gl (h c hc)).2.1 g hg2)).2
 omega
theorem qhS {l:List ByteArray} (hl:l.length<=850000) : ∀ cs k,jm l=some (cs,k)->Few cs k:=fun cs k h=>by
 obtain ⟨h1,h2⟩:=qbv h;have:=qeb h;exact few_chk h1 h2 L0
theorem rlong42_ (l:List ByteArray) (A:Option Addr) (n c B:Nat) (w:World) (hm:n<=maxLen) (rd:Rd w B 1 A n (sv l)) :
  Calls prog 13 #[.slice A n c] w fun e w'=>e = .returned (.bool (!qcx 300 200 l))/\w'=w:=by
 have HN:Hid (l.length=n):=Lh (by have:=rd.1;rw [sv_len] at this;omega);have hmm:n<=9223372036854775807:=by unfold maxLen at hm;omega
 unfold qcx;rw [HN.out];clear hm
 by_cases h0:n<=300
 ·rw [Ll h0,Bool.true_and];have hi:(n:Int)<=300:=by omega
  have H0:Hid ((l.all fun s=>decide (s.size<=200))=((l.drop 0).all fun s=>decide (s.size<=200))):=Lh rfl;generalize (l.all fun s=>decide (s.size<=200))=R at *
  clear h0
  go_enter func13,ntmps13
  go_wp2
  go_loop [3] (fun x=>∃ k:Nat,k<=n/\x = .int .i64 k/\Hid (R=((l.drop k).all fun s=>decide (s.size<=200)))) (fun x=>n-(intOf x).toNat)
  case atStart=>exact ⟨0,Nat.zero_le _,rfl,H0⟩
  case round =>
   obtain ⟨k,hk,rfl,HK⟩:=hrel
   by_cases hlt:k<n
   ·have hkl:k<l.length:=by have:=HN.out;omega
    obtain ⟨b,o,rfl,_,g0⟩:=rd.at_ hlt;rw [yM _ _ hkl] at g0;have HD:=Lh (all_drop (fun s:ByteArray=>decide (s.size<=200)) hkl);generalize l[k]=t at *
    by_cases hz:t.size<=200
    ·have HR2:Hid (R=((l.drop (k+1)).all fun s=>decide (s.size<=200))):=Lh (by rw [HK.out,HD.out,Ll hz];rfl);have hzi:(t.size:Int)<=200:=by omega
     clear HK HD hz;go_wp2;exact ⟨⟨k+1,by omega,by go_num,HR2⟩,by simp [intOf];omega⟩
    ·have HR2:Hid (R=false):=Lh (by rw [HK.out,HD.out,Lk hz];rfl);have hzi:(200:Int)<(t.size:Int):=by omega
     clear HK HD hz;go_wp2;go_ret;exact ⟨by rw [HR2.out];rfl,rfl⟩
   ·have HR2:Hid (R=true):=Lh (by rw [HK.out,Lv (by have:=HN.out;omega)];rfl);go_wp2;go_ret;exact ⟨by rw [HR2.out];rfl,rfl⟩
 ·rw [Lk h0,Bool.false_and];have hi:(300:Int)<(n:Int):=by omega
  clear h0 rd HN
  go_enter func13,ntmps13
  go_wp2;go_ret;exact ⟨rfl,rfl⟩
def qaC (v:Vw):Bool:=decide (12<v.rows.length) || (decide (40<v.width)&&decide (2<v.rows.length)) || v.rows.any zA
theorem qek (v:Vw) (A:Option Addr) (n c B:Nat) (rs:List RowM) (w:World) (rd:RdV w B v A n c rs) (hB:B<=w.heap.size) :
  Calls prog 4 #[.agg (vwC v A n c)] w (qh (.bool (qaC v)) w):=by
 have HN:Hid (rs.length=n):=Lh rd.1.len;have hnm:n<=9223372036854775807:=by have h1:=rd.2.2.1;have h2:=rd.2.2.2;unfold maxLen at h2;omega
 have HA:Hid (∀ k (hk:k<rs.length) w',Below w.heap.size w w'->∃ b o,A=some ⟨b,o,none⟩/\b<w.heap.size/\w'.cell? ⟨b,o+k,none⟩=some (.slice rs[k].A rs[k].l.length rs[k].cap)):=Lh fun k hk w' hb=>((rd.1.more hB).below hb).at_ hk
 have HG:Hid (∀ x∈rs,∀ w',Below w.heap.size w w'->Calls prog 12 #[.slice x.A x.l.length x.cap] w' fun e w''=>e = .returned (.bool (zA x.l))/\w''=w'):=Lh fun x hx w' hb=>qeP _ _ _ _ w.heap.size w' (Lj (rd.1.gl x hx).2.1 (rd.1.gl x hx).2.2) (((rd.1.gl x hx).1.more hB).below hb)
 have hgv:qaC v=(decide (12<n) || (decide (40<v.width)&&decide (2<n)) || (rls rs).any zA):=by unfold qaC;rw [rd.len,rd.2.1]
 rw [hgv];have H0:Hid ((rls rs).any zA=((rls rs).drop 0).any zA):=Lh rfl;generalize hR:(rls rs).any zA=R at *
 clear rd hgv hR;obtain ⟨W,Hh,rows,row,col,vis⟩:=v;dsimp only
 by_cases h1:12<n
 ·have d1:decide ((12:Int)<(n:Int))=true:=Ll L0;rw [Ll h1,Bool.true_or,Bool.true_or];clear h1;clear HA HG H0 HN
  go_enter func4,ntmps4
  go_upto_region 1 with fail
  refine qa (VwBox w ⟨W,Hh,rows,row,col,vis⟩ A n c) (VwBox.new w ⟨W,Hh,rows,row,col,vis⟩ A n c) ?_;intro X hX;obtain ⟨c0,c1,c2,c3,c4,c5⟩:=hX.cells;have hb:=hX.2;have hzX:=hX.lt;dsimp only at c0 c1 c2 c3 c4 c5;go_wp2;go_ret;exact ⟨rfl,hb⟩
 ·have d1:decide ((12:Int)<(n:Int))=false:=Lk L0;rw [Lk h1,Bool.false_or];clear h1
  by_cases h2:40<W
  ·have d2:decide ((40:Int)<W)=true:=Ll h2;rw [d2,Bool.true_and];clear h2
   by_cases h3:2<n
   ·have d3:decide ((2:Int)<(n:Int))=true:=Ll L0;rw [Ll h3,Bool.true_or];clear h3;clear HA HG H0 HN
    go_enter func4,ntmps4
    go_upto_region 1 with fail
    refine qa (VwBox w ⟨W,Hh,rows,row,col,vis⟩ A n c) (VwBox.new w ⟨W,Hh,rows,row,col,vis⟩ A n c) ?_;intro X hX;obtain ⟨c0,c1,c2,c3,c4,c5⟩:=hX.cells;have hb:=hX.2;have hzX:=hX.lt;dsimp only at c0 c1 c2 c3 c4 c5;go_wp2;go_ret;exact ⟨rfl,hb⟩
   ·have d3:decide ((2:Int)<(n:Int))=false:=Lk L0;rw [Lk h3,Bool.false_or];clear h3
    go_enter func4,ntmps4
    go_upto_region 1 with fail
    refine qa (VwBox w ⟨W,Hh,rows,row,col,vis⟩ A n c) (VwBox.new w ⟨W,Hh,rows,row,col,vis⟩ A n c) ?_;intro X hX;obtain ⟨c0,c1,c2,c3,c4,c5⟩:=hX.cells;have hb:=hX.2;have hzX:=hX.lt;dsimp only at c0 c1 c2 c3 c4 c5;go_wp2
    go_loopw [3] (fun x wr=>∃ k:Nat,k<=n/\x = .int .i64 k/\VwBox w ⟨W,Hh,rows,row,col,vis⟩ A n c wr/\Hid (R=((rls rs).drop k).any zA)) (fun x _=>n-(intOf x).toNat)
    case atStart=>exact ⟨0,Nat.zero_le _,rfl,hX,H0⟩
    case round =>
     clear c0 c1 c2 c3 c4 c5 hX hb hzX H0;obtain ⟨k,hk,rfl,hX,HK⟩:=hrel;obtain ⟨c0,c1,c2,c3,c4,c5⟩:=hX.cells;have hb:=hX.2;dsimp only at c0 c1 c2 c3 c4 c5
     by_cases hlt:k<n
     ·have hkl:k<rs.length:=by have:=HN.out;omega
      obtain ⟨b,o,rfl,_,g0⟩:=HA.out k hkl _ hb;have HD:Hid (((rls rs).drop k).any zA=(zA rs[k].l || ((rls rs).drop (k+1)).any zA)):=Lh (by rw [qb4 zA (by rw [vJ];exact hkl),qiE hkl]);have HC:=Lh (HG.out _ (Lt hkl));generalize rs[k]=x at *
      obtain ⟨l,Al,cl⟩:=x;dsimp only at *
      have hki:(k:Int)<n:=by omega
      cases hgr:zA l with
      | true =>
       rw [hgr] at HC HD;have HR2:Hid (R=true):=Lh (by rw [HK.out,HD.out];rfl);clear HK HD hgr
       go_wp2_with (go_at_call 12;refine (HC.out _ hb).mono ?_;rintro e w1 ⟨rfl,rfl⟩)
       go_ret;exact ⟨by rw [HR2.out];rfl,hb⟩
      | false =>
       rw [hgr] at HC HD;have HR2:Hid (R=((rls rs).drop (k+1)).any zA):=Lh (by rw [HK.out,HD.out];rfl);clear HK HD hgr
       go_wp2_with (go_at_call 12;refine (HC.out _ hb).mono ?_;rintro e w1 ⟨rfl,rfl⟩)
       exact ⟨⟨k+1,by omega,by go_num,hX,HR2⟩,by simp [intOf];omega⟩
     ·have HR2:Hid (R=false):=Lh (by rw [HK.out,Lv (by rw [vJ];have:=HN.out;omega)];rfl);obtain rfl:k=n:=by omega
      go_wp2;go_ret;exact ⟨by rw [HR2.out];rfl,hb⟩
  ·have d2:decide ((40:Int)<W)=false:=Lk h2;rw [d2,Bool.false_and,Bool.false_or];clear h2
   go_enter func4,ntmps4
   go_upto_region 1 with fail
   refine qa (VwBox w ⟨W,Hh,rows,row,col,vis⟩ A n c) (VwBox.new w ⟨W,Hh,rows,row,col,vis⟩ A n c) ?_;intro X hX;obtain ⟨c0,c1,c2,c3,c4,c5⟩:=hX.cells;have hb:=hX.2;have hzX:=hX.lt;dsimp only at c0 c1 c2 c3 c4 c5;go_wp2
   go_loopw [3] (fun x wr=>∃ k:Nat,k<=n/\x = .int .i64 k/\VwBox w ⟨W,Hh,rows,row,col,vis⟩ A n c wr/\Hid (R=((rls rs).drop k).any zA)) (fun x _=>n-(intOf x).toNat)
   case atStart=>exact ⟨0,Nat.zero_le _,rfl,hX,H0⟩
   case round =>
    clear c0 c1 c2 c3 c4 c5 hX hb hzX H0;obtain ⟨k,hk,rfl,hX,HK⟩:=hrel;obtain ⟨c0,c1,c2,c3,c4,c5⟩:=hX.cells;have hb:=hX.2;dsimp only at c0 c1 c2 c3 c4 c5
    by_cases hlt:k<n
    ·have hkl:k<rs.length:=by have:=HN.out;omega
     obtain ⟨b,o,rfl,_,g0⟩:=HA.out k hkl _ hb;have HD:Hid (((rls rs).drop k).any zA=(zA rs[k].l || ((rls rs).drop (k+1)).any zA)):=Lh (by rw [qb4 zA (by rw [vJ];exact hkl),qiE hkl]);have HC:=Lh (HG.out _ (Lt hkl));generalize rs[k]=x at *
     obtain ⟨l,Al,cl⟩:=x;dsimp only at *
     have hki:(k:Int)<n:=by omega
     cases hgr:zA l with
     | true =>
      rw [hgr] at HC HD;have HR2:Hid (R=true):=Lh (by rw [HK.out,HD.out];rfl);clear HK HD hgr
      go_wp2_with (go_at_call 12;refine (HC.out _ hb).mono ?_;rintro e w1 ⟨rfl,rfl⟩)
      go_ret;exact ⟨by rw [HR2.out];rfl,hb⟩
     | false =>
      rw [hgr] at HC HD;have HR2:Hid (R=((rls rs).drop (k+1)).any zA):=Lh (by rw [HK.out,HD.out];rfl);clear HK HD hgr
      go_wp2_with (go_at_call 12;refine (HC.out _ hb).mono ?_;rintro e w1 ⟨rfl,rfl⟩)
      exact ⟨⟨k+1,by omega,by go_num,hX,HR2⟩,by simp [intOf];omega⟩
    ·have HR2:Hid (R=false):=Lh (by rw [HK.out,Lv (by rw [vJ];have:=HN.out;omega)];rfl);obtain rfl:k=n:=by omega
     go_wp2;go_ret;exact ⟨by rw [HR2.out];rfl,hb⟩
def qaJ (l:List Gl):ByteArray:=l.foldl (fun s g=>s++g.text) ⟨#[]⟩
theorem qes {l:List Gl} {k:Nat} (h:k<l.length):qaJ (l.take (k+1))=qaJ (l.take k)++l[k].text:=by
 unfold qaJ;rw [List.take_succ_eq_append_getElem h,List.foldl_append]
 rfl
theorem qjz {l:List Gl} {M:Nat} (h : ∀ g∈l,g.text.size<=M) : ∀ k,k<=l.length->(qaJ (l.take k)).size<=k * M:=by
 intro k
 induction k with
 | zero=>intro _;rw [List.take_zero,Nat.zero_mul];exact Ld _
 | succ k ih =>
  intro hk;have h1:=ih L0;have h2:=h _ (Lt (show k<l.length by omega));rw [qes L0,ByteArray.size_append,Nat.add_mul]
  omega
theorem rtext15_ (l:List Gl) (A:Option Addr) (n c B:Nat) (w:World) (rd:Rd w B 3 A n (qi l)) (hn:n<=1000) (hz : ∀ g∈l,g.text.size<=1000) :
  Calls prog 16 #[.slice A n c] w fun e w'=>e = .returned (.string (qaJ l))/\w'=w:=by
 have HN:=Lh (jK rd);have hT:Hid (∀ k,k<=n->(qaJ (l.take k)).size<=1000000):=Lh fun k hk=>by
  have h1:=qjz hz k (by have:=HN.out;omega);have:k * 1000<=1000 * 1000:=Nat.mul_le_mul_right _ L0
  omega
 have hZ:=Lh hz;clear hz;have HE:Hid (qaJ l=qaJ (l.take n)):=Lh (by rw [<- HN.out,List.take_length]);rw [HE.out]
 go_enter func16,ntmps16
 go_wp2
 go_loop [3,4] (fun s x=>∃ k:Nat,k<=n/\x = .int .i64 k/\s = .string (qaJ (l.take k))) (fun _ x=>n-(intOf x).toNat)
 case atStart=>exact ⟨0,Nat.zero_le _,rfl,rfl⟩
 case round =>
  obtain ⟨k,hk,rfl,rfl⟩:=hrel
  by_cases hlt:k<n
  ·have hkl:k<l.length:=by have:=HN.out;omega
   obtain ⟨b,o,rfl,_,g0,_,_⟩:=jE rd hkl (jK rd);have HD:=Lh (qes hkl);have h1:=hT.out k hk;have h2:=hZ.out _ (Lt hkl);generalize l[k]=g at *
   obtain ⟨t,wd,st⟩:=g;dsimp only at *
   generalize hS:qaJ (l.take k)=S at *
   have hki:(k:Int)<n:=by omega
   have hsum:S.size+t.size<=9223372036854775807:=by omega
   clear hS;go_wp2;exact ⟨⟨k+1,by omega,by go_num,by rw [HD.out]⟩,by simp [intOf];omega⟩
  ·obtain rfl:k=n:=by omega
   go_wp2;go_ret;exact ⟨rfl,rfl⟩
def exB42:ByteArray:=⟨#[108,105,110,101,32,116,119,111,32,99,111,108,117,109,110,32,111,110,101,32,105,110,115,101,114,116,32,104,105,32,115,116,111,112,32,100,111,110,101]⟩
def exL42:List ByteArray:=[⟨#[108,105,110,101]⟩,⟨#[116,119,111]⟩,⟨#[99,111,108,117,109,110]⟩,⟨#[111,110,101]⟩,⟨#[105,110,115,101,114,116]⟩,⟨#[104,105]⟩,⟨#[115,116,111,112]⟩,⟨#[100,111,110,101]⟩]
def exC42:Chg:=⟨3,1,0,0,0,[⟨⟨#[104]⟩,false,0⟩,⟨⟨#[105]⟩,false,0⟩]⟩
def exV42:Vw:=⟨10,2,[[],[⟨⟨#[104]⟩,false,0⟩,⟨⟨#[105]⟩,false,0⟩]],0,0,true⟩
theorem qcT:Lib.fields exB42.data.toList=exL42.map fun s=>s.data.toList:=by decide +kernel
theorem qjB:exB42.size<4294967281:=by decide +kernel
theorem qhD : ∀ (j:Nat) b,exB42.data.toList[j]? = some b->b.toNat<128:=qdF _ L4
theorem ex42_sv:((Lib.fields exB42.data.toList).map fun l=>Value.string ⟨l.toArray⟩)=sv exL42:=by
 rw [qcT,List.map_map]
 rfl
theorem qiY:jm exL42=some ([exC42],1):=by kernel_rfl
theorem ex42_new:newM 10 2=(⟨zD 10 2,0⟩,0):=by unfold newM;rw [if_pos L2]
theorem qhP:yx (zD 10 2) [exC42]=(exV42,0):=by kernel_rfl
theorem qgo:vu ⟨zD 10 2,0⟩=true:=by kernel_rfl
theorem qjH:yT ⟨zD 10 2,0⟩ exL42=(⟨exV42,1⟩,0):=by
 unfold yT;rw [qgo,qiY];dsimp only;rw [qhP]
 rfl
theorem qkr:qaJ [⟨⟨#[104]⟩,false,0⟩,⟨⟨#[105]⟩,false,0⟩]=⟨#[104,105]⟩:=by decide +kernel
theorem zd {X:World} {g:Nat} {m:Md} {A:Option Addr} {n c:Nat} (h:Blk X g 26 (mdC m A n c)):X.cell? ⟨g,0,none⟩=some (.int .i64 m.view.width)/\X.cell? ⟨g,1,none⟩=some (.int .i64 m.view.height)/\X.cell? ⟨g,2,none⟩=some (.slice A n c)/\X.cell? ⟨g,3,none⟩=some (.int .i64 m.view.row)/\X.cell? ⟨g,4,none⟩=some (.int .i64 m.view.col)/\X.cell? ⟨g,5,none⟩=some (.bool m.view.vis)/\X.cell? ⟨g,6,none⟩=some (.int .i64 m.upd) /\
  X.frozen? ⟨g,0,none⟩=false/\X.frozen? ⟨g,1,none⟩=false/\X.frozen? ⟨g,2,none⟩=false/\X.frozen? ⟨g,3,none⟩=false/\X.frozen? ⟨g,4,none⟩=false/\X.frozen? ⟨g,5,none⟩=false/\X.frozen? ⟨g,6,none⟩=false :=
 ⟨h.cell 0,h.cell 1,h.cell 2,h.cell 3,h.cell 4,h.cell 5,h.cell 6,h.frozen 0,h.frozen 1,h.frozen 2,h.frozen 3,h.frozen 4,h.frozen 5,h.frozen 6⟩
theorem set7_ {X:World} {g:Nat} {t:TypeId} {a0 a1 a2 a3 a4 a5 a6:Value} (h:Blk X g t #[a0,a1,a2,a3,a4,a5,a6]) (b0 b1 b2 b3 b4 b5 b6:Value):Blk (((((((X.setCell ⟨g,0,none⟩ b0).setCell ⟨g,1,none⟩ b1).setCell ⟨g,2,none⟩ b2).setCell ⟨g,3,none⟩ b3).setCell ⟨g,4,none⟩ b4).setCell ⟨g,5,none⟩ b5).setCell ⟨g,6,none⟩ b6) g t #[b0,b1,b2,b3,b4,b5,b6]:=by
 have h0:Blk _ g t #[b0,a1,a2,a3,a4,a5,a6]:=h.set_ 0 b0;have h1:Blk _ g t #[b0,b1,a2,a3,a4,a5,a6]:=h0.set_ 1 b1;have h2:Blk _ g t #[b0,b1,b2,a3,a4,a5,a6]:=h1.set_ 2 b2;have h3:Blk _ g t #[b0,b1,b2,b3,a4,a5,a6]:=h2.set_ 3 b3;have h4:Blk _ g t #[b0,b1,b2,b3,b4,a5,a6]:=h3.set_ 4 b4;have h5:Blk _ g t #[b0,b1,b2,b3,b4,b5,a6]:=h4.set_ 5 b5;exact h5.set_ 6 b6
theorem qnf {X:World} {g:Nat} {m0:Md} {A0:Option Addr} {n0 c0:Nat} (h:Blk X g 26 (mdC m0 A0 n0 c0)) (m:Md) (A:Option Addr) (n c:Nat):Blk (zq X g m A n c) g 26 (mdC m A n c):=set7_ h _ _ _ _ _ _ _
theorem qiB {N g n c n' c':Nat} {X:World} {v:Vw} {A A':Option Addr} {rs:List RowM} {m:Md} (h:OwV N X v A n c rs) (hg:g<N):OwV N (zq X g m A' n' c') v A n c rs :=
 ((((((h.far (p:=⟨g,0,none⟩) hg _).far (p:=⟨g,1,none⟩) hg _).far (p:=⟨g,2,none⟩) hg _).far (p:=⟨g,3,none⟩) hg _).far (p:=⟨g,4,none⟩) hg _).far (p:=⟨g,5,none⟩) hg _).far (p:=⟨g,6,none⟩) hg _
theorem two_rows {rs:List RowM} (h:exV42.rows=rls rs) : ∃ r0 r1,rs=[r0,r1]/\r0.l=[]/\r1.l=[⟨⟨#[104]⟩,false,0⟩,⟨⟨#[105]⟩,false,0⟩]:=by
 have hl:rs.length=2:=by
  have:=congrArg List.length h;rw [vJ] at this;exact this.symm
 match rs,hl,h with
 | [r0,r1],_,h =>
  have h:([[],[⟨⟨#[104]⟩,false,0⟩,⟨⟨#[105]⟩,false,0⟩]]:List (List Gl))=[r0.l,r1.l]:=h
  injection h with h1 h2
  injection h2 with h2
  exact ⟨r0,r1,rfl,h1.symm,h2.symm⟩
theorem ex42_sz : ∀ s∈exL42,s.size<=1000:=by decide +kernel
theorem qic (W:World):WdR (W.alloc (.cells (sv exL42).toArray 9)) (W.alloc (.cells (sv exL42).toArray 9)).heap.size exL42 (some ⟨W.heap.size,0,none⟩) 8 8:=by
 have h:Rd (W.alloc (.cells (sv exL42).toArray 9)) (W.heap.size+1) 1 (some ⟨W.heap.size,0,none⟩) 8 (sv exL42):=qe (w:=W) (xs:=sv exL42) (e:=9) rfl rfl;have h2:W.heap.size+1<=(W.alloc (.cells (sv exL42).toArray 9)).heap.size:=by rw [Li];exact Ld _
 have h3:=Rd.more h h2;have h4:(8:Nat)<=maxLen:=by unfold maxLen;omega
 generalize W.alloc (.cells (sv exL42).toArray 9)=Y at *
 exact ⟨rfl,Ld _,h4,h3,ex42_sz⟩
theorem ex42_wdr (W:World):WdR (W.alloc (.cells (sv exL42).toArray 9)).drew (W.alloc (.cells (sv exL42).toArray 9)).drew.heap.size exL42 (some ⟨W.heap.size,0,none⟩) 8 8:=(qic W).below (Le _ _).drew
theorem awake42_ (w:World) (hg:Gd w):Calls prog 6 #[] w (qh (.bool true) w):=by
 have HF:Hid (∀ X,Below w.heap.size w X->Calls prog 15 #[.string exB42] X fun e w'=>e = .returned (.slice (some ⟨X.heap.size,0,none⟩) 8 8)/\w'=X.alloc (.cells (sv exL42).toArray 9)):=Lh fun X hX=>by
  have h:=Tryz.strings_Fields exB42 X qjB qhD (hg.below hX).1;rw [ex42_sv,qcT,Lq] at h;exact h
 have HN:Hid (∀ X,Below w.heap.size w X->Calls prog 9 #[.int .i64 10,.int .i64 2] X fun e w'=>∃ A c rs,e = .returned (.tuple #[.agg #[.int .i64 10,.int .i64 2,.slice A 2 c,.int .i64 0,.int .i64 0,.bool true,.int .i64 0],.int .i64 0])/\RdV w' w'.heap.size (zD 10 2) A 2 c rs/\Below w.heap.size w w'/\Below X.heap.size X w'):=Lh fun X hX=>(lnew_ 10 2 X).mono fun e w' h=>by
  rw [ex42_new] at h;obtain ⟨h1,A,n,c,rs,h2,h3⟩:=h;obtain rfl:2=n:=h3.rdV.len;exact ⟨A,c,rs,h2,h3.rdV,hX.trans (h1.mono hX.size),h1⟩
 have HH:Hid (∀ X A c rs Y,Below w.heap.size w X->RdV X X.heap.size (zD 10 2) A 2 c rs->Below X.heap.size X Y->∀ B2,WdR Y Y.heap.size exL42 (some B2) 8 8->Calls prog 14 #[.agg #[.int .i64 10,.int .i64 2,.slice A 2 c,.int .i64 0,.int .i64 0,.bool true,.int .i64 0],.slice (some B2) 8 8] Y fun e w'=>∃ A c rs,e = .returned (.tuple #[.agg #[.int .i64 10,.int .i64 2,.slice A 2 c,.int .i64 0,.int .i64 0,.bool true,.int .i64 1],.int .i64 0])/\OwV Y.heap.size w' exV42 A 2 c rs/\Below Y.heap.size Y w'):=Lh fun X A c rs Y hX hr hY B2 hW=>by
  have hb:=hX.trans (hY.mono hX.size);have hg':=hg.below hb;have hrl:rls rs=[[],[]]:=hr.2.1.symm;have hx : ∀ x∈rs,x.l=[]:=fun x hx=>by
   have:x.l∈rls rs:=List.mem_map_of_mem hx;rw [hrl] at this
   simpa using this
  refine (hear_ ⟨zD 10 2,0⟩ A 2 c X.heap.size rs exL42 (some B2) 8 8 Y (hr.below hY) hY.size (fun x h=>by rw [hx x h];decide) (fun x h=>by rw [hx x h];intro g hg;cases hg) hW L2 (qhS L2) hg'.1 hg'.2.1 hg'.2.2).mono fun e w' h=>?_
  rw [qjH] at h;obtain ⟨h1,A,n,c,rs,h2,h3⟩:=h;obtain rfl:2=n:=h3.rdV.len;exact ⟨A,c,rs,h2,h3,h1⟩
 have hb0:Below w.heap.size w w:=Le _ _;clear hg
 go_enter func6,ntmps6
 go_upto_region 2 with (go_at_call 9;refine (HN.out _ hb0).mono ?_;rintro e w1 ⟨A1,d1,rs1,rfl,hr1,hb1,hx1⟩)
 refine qa (fun X=>Blk X w1.heap.size 26 (mdC ⟨zD 10 2,0⟩ A1 2 d1)/\Below w1.heap.size w1 X) ⟨Blk.new_ rfl,L5⟩ ?_;rintro X ⟨hB,hx⟩;have hbX:=hb1.trans (hx.mono hb1.size);have hGl:=hB.lt;obtain ⟨e0,e1,e2,e3,e4,e5,e6,-,-,-,-,-,-,-⟩:=zd hB;have hz1:=hx.size;have hbl:(zD 10 2).width=10/\(zD 10 2).height=2/\(zD 10 2).row=0/\(zD 10 2).col=0/\(zD 10 2).vis=true:=⟨rfl,rfl,rfl,rfl,rfl⟩
 obtain ⟨l0,l1,l2,l3,l4⟩:=hbl;dsimp only at e0 e1 e3 e4 e5 e6;rw [l0] at e0;rw [l1] at e1;rw [l2] at e3;rw [l3] at e4;rw [l4] at e5;clear l0 l1 l2 l3 l4;have HFX:Hid (∀ W,Below X.heap.size X W->Calls prog 15 #[.string exB42] W fun e w'=>e = .returned (.slice (some ⟨W.heap.size,0,none⟩) 8 8)/\w'=W.alloc (.cells (sv exL42).toArray 9)):=Lh fun W h=>HF.out W (hbX.trans (h.mono hbX.size))
 have HHX:Hid (∀ Y B2,Below X.heap.size X Y->WdR Y Y.heap.size exL42 (some B2) 8 8->Calls prog 14 #[.agg #[.int .i64 10,.int .i64 2,.slice A1 2 d1,.int .i64 0,.int .i64 0,.bool true,.int .i64 0],.slice (some B2) 8 8] Y fun e w'=>∃ A c rs,e = .returned (.tuple #[.agg #[.int .i64 10,.int .i64 2,.slice A 2 c,.int .i64 0,.int .i64 0,.bool true,.int .i64 1],.int .i64 0])/\OwV X.heap.size w' exV42 A 2 c rs/\Below X.heap.size X w'):=Lh fun Y B2 h hW =>
  (HH.out w1 A1 d1 rs1 Y hb1 hr1 (hx.trans (h.mono hz1)) B2 hW).mono fun e w' ⟨A,c,rs,q1,q2,q3⟩=>⟨A,c,rs,q1,q2.less h.size,h.trans (q3.mono h.size)⟩
 clear HN HF HH hb0 hr1
 go_region_law (first
  | (go_simp;go_at_call 15;refine (HFX.out _ ql8).mono ?_;rintro e w2 ⟨rfl,rfl⟩)
  | (go_simp;go_at_call 14;refine (HHX.out _ _ ql8 (by first | exact qic _ | exact ex42_wdr _)).mono ?_;rintro e w3 ⟨A3,d3,rs3,rfl,hr3,hx3⟩;have hB3:=hB.below hx3 hGl;have hB4:=qnf hB3 ⟨exV42,1⟩ A3 2 d3;have ho4:=qiB (m:=⟨exV42,1⟩) (A':=A3) (n':=2) (c':=d3) hr3 hGl;have hb4:=yX (g:=w1.heap.size) (hbX.trans (hx3.mono hbX.size)) hb1.size ⟨exV42,1⟩ A3 2 d3;obtain ⟨z0,z1,z2,z3,z4,z5,z6,y0,y1,y2,y3,y4,y5,y6⟩:=zd hB3))
 all_goals
  go_upto_region 3 with fail
  refine qa (fun Y=>Blk Y w1.heap.size 26 (mdC ⟨exV42,1⟩ A3 2 d3)/\OwV X.heap.size Y exV42 A3 2 d3 rs3/\Below w.heap.size w Y) ⟨hB4,ho4,hb4⟩ ?_;rintro Y ⟨hBY,hoY,hbY⟩;clear hB3 hB4 hr3 ho4 hb4 z0 z1 z2 z3 z4 z5 z6 y0 y1 y2 y3 y4 y5 y6;obtain ⟨-,-,e2',-,-,-,e6',-,-,-,-,-,-,-⟩:=zd hBY;dsimp only at e6';obtain ⟨G1,cap1,hA,hG1,-⟩:=hoY.rows.form L2;obtain ⟨rfl,rfl⟩:A3=some ⟨G1,0,none⟩/\d3=cap1:=by injection hA with h1 _ h2;exact ⟨h1,h2⟩
  obtain ⟨r0,r1,rfl,hq0,hq1⟩:=two_rows hoY.eq;have k0:Y.cell? ⟨G1,0,none⟩=some (.slice r0.A r0.l.length r0.cap):=hoY.rows.cellAt 0 L2;have k1:Y.cell? ⟨G1,1,none⟩=some (.slice r1.A r1.l.length r1.cap):=hoY.rows.cellAt 1 L2;have hT:Hid (Calls prog 16 #[.slice r1.A r1.l.length r1.cap] Y fun e w'=>e = .returned (.string (qaJ r1.l))/\w'=Y):=Lh (rtext15_ _ _ _ _ Y.heap.size Y (qe8 (hoY.gl r1 L1)).1 (by rw [hq1];decide) (by rw [hq1];decide));rw [hq0] at k0;rw [hq1] at k1 hT;rw [qkr] at hT;dsimp only [List.length_nil,Lp] at k0 k1 hT;clear hBY hoY hA hq0 hq1 e0 e1 e2 e3 e4 e5 e6 hB hx3
  go_wp2_with (go_at_call 16;refine hT.out.mono ?_;rintro e w4 ⟨rfl,rfl⟩)
  go_ret;exact ⟨rfl,hbY⟩
theorem qd0 {v:Vw} (h:js v=0) : ∀ l∈v.rows,l.length<=132/\∀ g∈l,g.text.size<=16:=fun l hl=>by
 obtain ⟨h1,-,-,h4⟩:=qbh.1 h;obtain ⟨a,b,-⟩:=h4 l hl;have hs:=jW.1 h1;refine ⟨?_,fun g hg=>(gw_of (qb9.1 a g hg)).2⟩;unfold vM at b
 omega
theorem qcF {v:Vw} (h:qaC v=false) : ∀ l∈v.rows,l.length<=140/\∀ g∈l,g.text.size<=40:=fun l hl=>by
 unfold qaC at h;rw [Bool.or_eq_false_iff] at h;have:=List.any_eq_false.1 h.2 l hl;simp only [zA,Bool.or_eq_true,decide_eq_true_eq,List.any_eq_true,not_or,not_exists,not_and] at this;exact ⟨by omega,fun g hg=>by have:=this.2 g hg;omega⟩
theorem kB {rs:List RowM} {x:RowM} (h:x∈rs):x.l∈rls rs:=List.mem_map_of_mem h
end Go.Proofs.YtggegijlfaipfaaGreatDoor
