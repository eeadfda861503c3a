/- Joined: Lw2. -/
import Derived.Test.YtbogmeeijdaijaaGreatDoorZAR
set_option linter.unusedVariables false
set_option linter.unusedSimpArgs false
set_option linter.unnecessarySimpa false
set_option maxHeartbeats 4000000
namespace Go.Proofs.YtbogmeeijdaijaaGreatDoor
open Go.Proofs.Tryz Go.RowKit
set_option maxRecDepth 20000
theorem qmf {w:World} {B B' n c:Nat} {l:List ByteArray} {A:Option Addr} (h:WdR w B l A n c) (hb:B<=B'):WdR w B' l A n c:=⟨h.len,h.cap,h.max,h.rd.more hb,h.sz⟩
structure Few (cs:List Chg) (n:Int):Prop where
 len:cs.length<=1000000
 gl : ∀ c∈cs,c.glyphs.length<=100000000/\∀ g∈c.glyphs,g.text.size<=1000000000
 sum:glN cs<=99999000
 num:0<=n/\n<=1099511627776
def HrX (w:World) (m:Md) (A:Option Addr) (n c:Nat) (X:World):Prop:=Blk X w.heap.size 26 (mdC m A n c)/\ZM X (w.heap.size+1)/\Below w.heap.size w X
theorem HrX.on {w X X':World} {m:Md} {A:Option Addr} {n c:Nat} (h:HrX w m A n c X) (hb:Below X.heap.size X X'):HrX w m A n c X':=by
 have h1:=h.1.lt;exact ⟨h.1.below hb h1,h.2.1.below hb h.2.1.lt,h.2.2.trans (hb.mono (Lr h1))⟩
theorem HrX.facts {w X:World} {W H r cl U:Int} {rows:List (List Gl)} {vs:Bool} {A:Option Addr} {n c:Nat} (h:HrX w ⟨⟨W,H,rows,r,cl,vs⟩,U⟩ A n c X) :
  X.cell? ⟨w.heap.size,0,none⟩=some (.int .i64 W)/\X.cell? ⟨w.heap.size,1,none⟩=some (.int .i64 H)/\X.cell? ⟨w.heap.size,2,none⟩=some (.slice A n c)/\X.cell? ⟨w.heap.size,3,none⟩=some (.int .i64 r)/\X.cell? ⟨w.heap.size,4,none⟩=some (.int .i64 cl)/\X.cell? ⟨w.heap.size,5,none⟩=some (.bool vs)/\X.cell? ⟨w.heap.size,6,none⟩=some (.int .i64 U)/\w.heap.size+1<X.heap.size/\Below w.heap.size w X :=
 ⟨h.1.cell 0,h.1.cell 1,h.1.cell 2,h.1.cell 3,h.1.cell 4,h.1.cell 5,h.1.cell 6,h.2.1.lt,h.2.2⟩
theorem hear_ (m:Md) (A:Option Addr) (n c B:Nat) (rs:List RowM) (l:List ByteArray) (Aw:Option Addr) (nw cw:Nat) (w:World) (rd:RdV w B m.view A n c rs) (hB:B<=w.heap.size) (hM : ∀ x∈rs,x.l.length<=1000) (hz : ∀ x∈rs,∀ g∈x.l,g.text.size<=1000000000)
  (hW:WdR w w.heap.size l Aw nw cw) (hl:l.length<=850000) (hF : ∀ cs k,jm l=some (cs,k)->Few cs k) (hs:Sp w) (hu:U8 w) (hy:Sty w) :
  Calls prog 8 #[.agg (mdC m A n c),.slice Aw nw cw] w (MdR (yT m l) w):=by
 have HP:Hid (∀ w',Below w.heap.size w w'->Calls prog 18 #[.agg (mdC m A n c)] w' (qh (.bool (vu m)) w')):=Lh fun w' hb=>proper_ m A n c w.heap.size rs w' ((rd.more hB).below hb) hb.size (fun x hx=>⟨Lj (hM x hx) L2,hz x hx⟩) (hu.below hb)
 have HC:Hid (∀ w',Below w.heap.size w w'->Calls prog 19 #[.slice Aw nw cw] w' (ChR (jm l) w')):=Lh fun w' hb=>qkg l Aw nw cw w' (qmf (hW.below hb) hb.size) hl (hs.below hb (Ld _)) (hu.below hb) (hy.below hb (Ld _))
 have HA:Hid (∀ cs out Ac nc cc w',Below w.heap.size w w'->(∃ k,Few cs k)->zo out=cs->RdC w' w'.heap.size Ac nc out->nc<=cc->Calls prog 20 #[.agg (vwC m.view A n c),.slice Ac nc cc] w' (ApR (yx m.view cs) w')):=Lh fun cs out Ac nc cc w' hb ⟨k,hf⟩ he hr hcc=>by
  subst he;have h1 : ∀ x∈out,x.c∈zo out:=fun x hx=>List.mem_map_of_mem hx
  have h2:=hr.len;have h3:=hf.len;rw [zo,Lq] at h3;exact apply_ m.view A n c w'.heap.size rs out Ac nc cc w' (((rd.more hB).below hb).more hb.size) hr hcc (Ld _) (fun x hx=>by have:=hM x hx;have:=hf.sum;omega) hz (fun x hx=>hf.gl _ (h1 x hx)) L0 (hu.below hb)
 have HF:=Lh hF;unfold yT MaxT;clear rd hM hz hW hF hs hu hy;obtain ⟨⟨W,H,rows,r,cl,vs⟩,U⟩:=m;dsimp only at HP HA ⊢;have hpr:vu ⟨⟨W,H,rows,r,cl,vs⟩,U⟩=true->0<=U/\U<=1099511627776:=fun h=>by
  unfold vu MaxT at h;exact (of_decide_eq_true h).2
 generalize vu ⟨⟨W,H,rows,r,cl,vs⟩,U⟩=P at *
 cases P with
 | false =>
  rw [if_pos rfl];clear HC HA HF hpr
  go_enter func8,ntmps8
  go_upto_region 1 with fail
  refine qa (HrX w ⟨⟨W,H,rows,r,cl,vs⟩,U⟩ A n c) ⟨(Blk.new_ rfl).below L5 L1,Blk.new_ L1,(L5).alloc L1 _⟩ ?_;intro X hX;obtain ⟨c0,c1,c2,c3,c4,c5,c6,hl,hb⟩:=hX.facts
  go_upto_region 2 with (go_at_call 18;refine (HP.out _ hb).mono ?_;rintro e w1 ⟨rfl,hb1⟩;have hX1:=hX.on hb1;have hbw1:=hX1.2.2)
  have hZ:=hX1.2.1;obtain ⟨z0,z1,z2,z3,z4,z5,z6,y0,y1,y2,y3,y4,y5,y6⟩:=ZM.facts hZ;go_wp2;exact bodyPost_ret (vG rfl _ _ (w.heap.size+1) 26 _ (0,0) _ rfl (ZM.set7 hX1.2.1 md0 none 0 0) underlying26 rfl yy) rfl ⟨yX hX1.2.2 (Nat.le_succ _) md0 none 0 0,none,0,0,[],rfl,OwV.none_ _ _⟩
 | true =>
  rw [if_neg L1];have hU:=hpr rfl;clear hpr;generalize jm l=o at *
  cases o with
  | none =>
   dsimp only;clear HA HF;have h17:((17:Int) != 0)=true:=rfl
   go_enter func8,ntmps8
   go_upto_region 1 with fail
   refine qa (HrX w ⟨⟨W,H,rows,r,cl,vs⟩,U⟩ A n c) ⟨(Blk.new_ rfl).below L5 L1,Blk.new_ L1,(L5).alloc L1 _⟩ ?_;intro X hX;obtain ⟨c0,c1,c2,c3,c4,c5,c6,hl,hb⟩:=hX.facts
   go_upto_region 4 with (first | (go_at_call 18;refine (HP.out _ hb).mono ?_;rintro e w1 ⟨rfl,hb1⟩;have hX1:=hX.on hb1;have hbw1:=hX1.2.2) | (go_at_call 19;refine (HC.out _ hbw1).mono ?_;rintro e w2 ⟨hb2,rfl⟩;have hX2:=hX1.on hb2))
   have hZ:=hX2.2.1;obtain ⟨z0,z1,z2,z3,z4,z5,z6,y0,y1,y2,y3,y4,y5,y6⟩:=ZM.facts hZ;go_wp2;exact bodyPost_ret (vG rfl _ _ (w.heap.size+1) 26 _ (0,0) _ rfl (ZM.set7 hX2.2.1 md0 none 0 0) underlying26 rfl yy) rfl ⟨yX hX2.2.2 (Nat.le_succ _) md0 none 0 0,none,0,0,[],rfl,OwV.none_ _ _⟩
  | some x =>
   obtain ⟨cs,k⟩:=x;have hf:=HF.out cs k rfl;have hk:=hf.num;have HA2:Hid (∀ out Ac nc cc w',Below w.heap.size w w'->zo out=cs->RdC w' w'.heap.size Ac nc out->nc<=cc->Calls prog 20 #[.agg (vwC ⟨W,H,rows,r,cl,vs⟩ A n c),.slice Ac nc cc] w' (ApR (yx ⟨W,H,rows,r,cl,vs⟩ cs) w')):=Lh fun out Ac nc cc w' hb he hr hcc=>HA.out cs out Ac nc cc w' hb ⟨k,hf⟩ he hr hcc
   clear HA HF hf;dsimp only;generalize yx ⟨W,H,rows,r,cl,vs⟩ cs=R at *
   obtain ⟨⟨vw,vh,vr,vy,vx,vv⟩,E⟩:=R;dsimp only;obtain ⟨RR,hRR⟩ : ∃ RR,Hid ((if E≠0 then (md0,E) else if 1099511627776<U+k then (md0,5) else ((⟨⟨vw,vh,vr,vy,vx,vv⟩,U+k⟩:Md),(0:Int)))=RR):=⟨_,Lh rfl⟩
   rw [hRR.out];have h00:((0:Int) != 0)=false:=rfl;have hwr:IntKind.i64.wrap (U+k)=U+k:=by rw [Lx];omega
   go_enter func8,ntmps8
   go_upto_region 1 with fail
   refine qa (HrX w ⟨⟨W,H,rows,r,cl,vs⟩,U⟩ A n c) ⟨(Blk.new_ rfl).below L5 L1,Blk.new_ L1,(L5).alloc L1 _⟩ ?_;intro X hX;obtain ⟨c0,c1,c2,c3,c4,c5,c6,hl,hb⟩:=hX.facts
   go_upto_region 4 with (first | (go_at_call 18;refine (HP.out _ hb).mono ?_;rintro e w1 ⟨rfl,hb1⟩;have hX1:=hX.on hb1;have hbw1:=hX1.2.2) | (go_at_call 19;refine (HC.out _ hbw1).mono ?_;rintro e w2 ⟨hb2,out,Ac,cc,he,rfl,ho,hg⟩))
   have hX2:=hX1.on hb2;have hAp:Hid (Calls prog 20 #[.agg (vwC ⟨W,H,rows,r,cl,vs⟩ A n c),.slice Ac out.length cc] w2 fun e w''=>∃ A n c rs,∃ i:Int,e = .returned (.tuple #[.agg #[.int .i64 vw,.int .i64 vh,.slice A n c,.int .i64 vy,.int .i64 vx,.bool vv],.int .i64 i,.int .i64 E])/\OwV w2.heap.size w'' ⟨vw,vh,vr,vy,vx,vv⟩ A n c rs/\Below w2.heap.size w2 w'') :=
    Lh ((HA2.out out Ac out.length cc w2 hX2.2.2 he (hg.rdc ho) (qas ho).1).mono fun e w'' ⟨h1,A,n,c,rs,i,h2,h3⟩=>⟨A,n,c,rs,i,h2,h3,h1⟩)
   generalize out.length=no at *
   clear HP HC HA2 hg ho he hX1 hX hb1 hbw1 hb2 c0 c1 c2 c3 c4 c5 c6 hl hb;obtain ⟨d0,d1,d2,d3,d4,d5,d6,hlY,hbY⟩:=HrX.facts hX2
   by_cases hE:E=0
   ·subst hE;have hR1:=hRR.out;rw [if_neg (show ¬ ((0:Int)≠0) from fun h=>h rfl)] at hR1;have hRz:=Lh hR1;clear hRR hR1
    go_upto_region 7 with (go_at_call 20;refine hAp.out.mono ?_;rintro e w3 ⟨A3,n3,e3,rs3,i3,rfl,hv,hb3⟩)
    have hzz:=hb3.size;refine qa (fun Y=>Below w2.heap.size w2 Y/\OwV w2.heap.size Y ⟨vw,vh,vr,vy,vx,vv⟩ A3 n3 e3 rs3/\Blk Y w3.heap.size 24 (vwC ⟨vw,vh,vr,vy,vx,vv⟩ A3 n3 e3)) ⟨hb3.alloc hb3.size _,hv.below L5,Blk.new_ rfl⟩ ?_;rintro Y ⟨hY,hoY,hBY⟩;have hX3:=hX2.on hY;have hZ:=hX3.2.1;obtain ⟨z0,z1,z2,z3,z4,z5,z6,y0,y1,y2,y3,y4,y5,y6⟩:=ZM.facts hZ;have hl2:w.heap.size+1<w2.heap.size:=hlY;clear hX2 d0 d1 d2 d3 d4 d5 d6 hlY hbY;obtain ⟨d0,d1,d2,d3,d4,d5,d6,hlY,hbY⟩:=HrX.facts hX3;clear d0 d1 d2 d3 d4 d5;obtain ⟨v0,v1,v2,v3,v4,v5⟩:=qw hBY;dsimp only at v0 v1 v3 v4 v5;have hng:w.heap.size+1≠w3.heap.size:=by omega
    by_cases hT:1099511627776<U+k
    ·have hRe:Hid (RR=(md0,5)):=Lh (by rw [<- hRz.out,if_pos hT]);have hd:decide (1099511627776<U+k)=true:=Ll hT;clear hRz hT;go_wp2;exact bodyPost_ret (vG rfl _ _ (w.heap.size+1) 26 _ (0,0) _ rfl (ZM.set7 hX3.2.1 md0 none 0 0) underlying26 rfl yy) rfl (by rw [hRe.out];exact ⟨yX hX3.2.2 (Nat.le_succ _) md0 none 0 0,none,0,0,[],rfl,OwV.none_ _ _⟩)
    ·have hRe:Hid (RR=(⟨⟨vw,vh,vr,vy,vx,vv⟩,U+k⟩,0)):=Lh (by rw [<- hRz.out,if_neg hT]);have hd:decide (1099511627776<U+k)=false:=Lk hT;have hR:=ZM.set7 hZ ⟨⟨vw,vh,vr,vy,vx,vv⟩,U+k⟩ A3 n3 e3;have ho7:=Lh (((((((hoY.far (p:=⟨w.heap.size+1,0,none⟩) L7 (.int .i64 vw)).far (p:=⟨w.heap.size+1,1,none⟩) L7 (.int .i64 vh)).far (p:=⟨w.heap.size+1,2,none⟩) L7 (.slice A3 n3 e3)).far (p:=⟨w.heap.size+1,3,none⟩) L7 (.int .i64 vy)).far (p:=⟨w.heap.size+1,4,none⟩) L7 (.int .i64 vx)).far (p:=⟨w.heap.size+1,5,none⟩) L7 (.bool vv)).far (p:=⟨w.heap.size+1,6,none⟩) L7 (.int .i64 (U+k)));have hb7:=yX hX3.2.2 (Nat.le_succ _) ⟨⟨vw,vh,vr,vy,vx,vv⟩,U+k⟩ A3 n3 e3;clear hoY hv hX3 hZ hBY hRz hT;go_wp2;exact bodyPost_ret (vG rfl _ _ (w.heap.size+1) 26 _ (0,0) _ rfl hR underlying26 rfl yy) rfl (by rw [hRe.out];exact ⟨hb7,A3,n3,e3,rs3,rfl,ho7.out.less L0⟩)
   ·have hRe:Hid (RR=(md0,E)):=Lh (by rw [<- hRR.out,if_pos hE]);clear hRR;have hEn:(E != 0)=true:=Ln.2 hE;clear hE
    go_upto_region 7 with (go_at_call 20;refine hAp.out.mono ?_;rintro e w3 ⟨A3,n3,e3,rs3,i3,rfl,hv,hb3⟩)
    refine qa (fun Y=>Below w2.heap.size w2 Y) (hb3.alloc hb3.size _) ?_;intro Y hY;have hX3:=hX2.on hY;have hZ:=hX3.2.1;obtain ⟨z0,z1,z2,z3,z4,z5,z6,y0,y1,y2,y3,y4,y5,y6⟩:=ZM.facts hZ;clear hX2 d0 d1 d2 d3 d4 d5 d6;go_wp2;exact bodyPost_ret (vG rfl _ _ (w.heap.size+1) 26 _ (0,0) _ rfl (ZM.set7 hX3.2.1 md0 none 0 0) underlying26 rfl yy) rfl (by rw [hRe.out];exact ⟨yX hX3.2.2 (Nat.le_succ _) md0 none 0 0,none,0,0,[],rfl,OwV.none_ _ _⟩)
end Go.Proofs.YtbogmeeijdaijaaGreatDoor
