/- Joined: Ra2, Ra3, Ra4, Ra6. -/
import Derived.Test.YtbogmeeijdaijaaGreatDoorZEB
set_option linter.unusedVariables false
set_option linter.unusedSimpArgs false
set_option linter.unnecessarySimpa false
set_option maxHeartbeats 8000000
namespace Go.Proofs.YtbogmeeijdaijaaGreatDoor
open Go.Proofs.Tryz Go.RowKit
set_option maxRecDepth 20000
def NvR (u:Vw) (w:World) (e:Ending) (w':World):Prop:=Below w.heap.size w w'/\∃ A n c rs,e = .returned (.agg (vwC u A n c))/\OwV w.heap.size w' u A n c rs
structure NwS (X0:World) (W H r cl:Int) (vs:Bool) (rs2:List RowM) (A2:Option Addr) (c2:Nat) (X:World):Prop where
 o:OutV X0.heap.size (X0.heap.size+1) W H r cl vs rs2 A2 c2 X
 old:Below X0.heap.size X0 X
section
variable {X0 X X' w1 w4 : World} {v : Vw} {A A2 A4 A6 : Option Addr} {n c c2 c4 c6 : Nat} {W H r cl : Int} {vs : Bool} {rs2 : List RowM} {l : List Gl}
theorem NwS.new (X0:World) (W H r cl:Int) (vs:Bool):NwS X0 W H r cl vs [] none 0 (X0.alloc (.cells #[.int .i64 W,.int .i64 H,.slice none 0 0,.int .i64 r,.int .i64 cl,.bool vs] 24)) :=
 ⟨⟨Blk.new_ rfl,⟨zY _ _ _ _,fun x hx=>(by cases hx),rfl⟩,Nat.lt_succ_self _⟩,L5⟩
theorem NwS.on (h:NwS X0 W H r cl vs rs2 A2 c2 X) (hb:Below X.heap.size X X'):NwS X0 W H r cl vs rs2 A2 c2 X':=⟨h.o.below hb,h.old.trans (hb.mono h.old.size)⟩
theorem NwS.push (h:NwS X0 W H r cl vs rs2 A2 c2 X) (hb1:Below X.heap.size X w1) (ho:w1.ownsRow X.heap.size 64 3 (.slice A6 l.length c6) l.length (qi l))
  (hown:w4.ownsRow (X0.heap.size+1) 45 1 (.slice A4 (rs2.length+1) c4) (rs2.length+1) (zQ rs2++[.slice A6 l.length c6])) (hgr:w1.grownBy w4 (Value.slice A2 rs2.length c2).ownBlock) (hbel:Below (X0.heap.size+1) w1 w4) :
  NwS X0 W H r cl vs (rs2++[⟨l,A6,c6⟩]) A4 c4 (w4.setCell ⟨X0.heap.size,2,none⟩ (.slice A4 (rs2.length+1) c4)) :=
 ⟨h.o.push h.o.blk.lt hb1 ho hown hgr,((h.on hb1).old.trans (hbel.mono (Nat.le_succ _))).setCell (p:=⟨X0.heap.size,2,none⟩) (Ld _) _⟩
end
theorem qkK {w:World} {v:Vw} {A:Option Addr} {n c B M:Nat} {rs:List RowM} (rd:RdV w B v A n c rs) (hB:B<=w.heap.size) (hrl : ∀ x∈rs,x.l.length<=M) (k:Nat) :
  ∃ x:RowM,x.l=v.rows.getD k []/\RdG w w.heap.size x/\x.l.length<=M/\(k<n->∃ b o,A=some ⟨b,o,none⟩/\b<w.heap.size/\w.cell? ⟨b,o+k,none⟩=some (.slice x.A x.l.length x.cap))/\(¬ k<n->x=⟨[],none,0⟩):=by
 have hl:=rd.1.len
 by_cases hk:k<n
 ·have hk2:k<rs.length:=by omega
  refine ⟨rs[k],by rw [rd.2.1,qa4 hk2],(rd.1.gl _ (Lt hk2)).more hB,hrl _ (Lt hk2),fun _=>?_,fun h=>absurd hk h⟩;obtain ⟨b,o,h1,h2,h3⟩:=rd.1.at_ hk2;exact ⟨b,o,h1,by omega,h3⟩
 ·refine ⟨⟨[],none,0⟩,?_,⟨Rd.none_,Ld _,Nat.zero_le _⟩,Nat.zero_le _,fun h=>absurd h hk,fun _=>rfl⟩;rw [rd.2.1,List.getD_eq_getElem?_getD,List.getElem?_eq_none (by rw [vJ];omega)]
  rfl
theorem qku {g N:Nat} {W H r cl:Int} {vs:Bool} {rs:List RowM} {A:Option Addr} {c:Nat} {X:World} (h:OutV g N W H r cl vs rs A c X):some g≠(Value.slice A rs.length c).ownBlock:=fun e=>by
 rw [qC] at e;have:=(vB h.own.rows g e.symm).1;have:=h.lt
 omega
theorem qkT (v:Vw) (A:Option Addr) (n c B:Nat) (rs:List RowM) (W H:Int) (w:World) (rd:RdV w B v A n c rs) (hB:B<=w.heap.size) (hW:1<=W/\W<=132) (hH:1<=H/\H<=60) (hrl : ∀ x∈rs,x.l.length<=100000000) :
  Calls prog 82 #[.agg (vwC v A n c),.int .i64 H,.int .i64 W] w (NvR ⟨W,H,(List.range H.toNat).map fun i=>kr W (v.rows.getD i []),min v.row (H-1),min v.col (W-1),v.vis⟩ w):=by
 obtain ⟨H,rfl⟩ : ∃ k:Nat,H=k:=⟨H.toNat,by omega⟩
 have hw1:IntKind.i64.wrap ((H:Int)-1)=H-1:=by rw [Lx];omega
 have hw2:IntKind.i64.wrap (W-1)=W-1:=by rw [Lx];omega
 have hnc:(n:Int)<=9223372036854775807:=by have h1:=rd.2.2.1;have h2:=rd.2.2.2;unfold maxLen at h2;omega
 have HRow:=Lh (qkK rd hB hrl);obtain ⟨vW,vH,rows,vr,vc,vis⟩:=v;dsimp only at *
 rw [Int.toNat_natCast];obtain ⟨M1,hM1⟩ : ∃ M1:Int,Hid (min vr ((H:Int)-1)=M1):=⟨_,Lh rfl⟩
 obtain ⟨M2,hM2⟩ : ∃ M2:Int,Hid (min vc (W-1)=M2):=⟨_,Lh rfl⟩
 rw [hM1.out,hM2.out];clear rd hrl
 go_enter func82,ntmps82
 go_upto_region 1 with fail
 refine qa (fun X=>Blk X w.heap.size 24 (vwC ⟨vW,vH,rows,vr,vc,vis⟩ A n c)/\ZB X (w.heap.size+1)/\Below w.heap.size w X) ⟨(Blk.new_ rfl).alloc _,Blk.new_ L1,(L5).alloc L1 _⟩ ?_;rintro X ⟨hv,hz,hb⟩;obtain ⟨e0,e1,e2,e3,e4,e5⟩:=qw hv;dsimp only at e0 e1 e2 e3 e4 e5
 go_upto_region 5 with fail
 refine qa (NwS X W H vr vc vis [] none 0) (NwS.new X W H vr vc vis) ?_;clear e0 e1 e2 e3 e4 e5;intro Y hS;go_wp2
 go_loopw [8] (fun x wr=>∃ k:Nat,k<=H/\x = .int .i64 k/\∃ rs2 A2 c2,Hid (rls rs2=(List.range k).map fun i=>kr W (rows.getD i []))/\NwS X W H vr vc vis rs2 A2 c2 wr) (fun x _=>H-(intOf x).toNat)
 case atStart=>exact ⟨0,Nat.zero_le _,rfl,[],none,0,Lh rfl,hS⟩
 case round =>
  clear hS;obtain ⟨k,hk,rfl,rs2,A2,c2,hr2,hS⟩:=hrel;obtain ⟨e0,e1,e2,e3,e4,e5⟩:=qw (hv.below hS.old hv.lt);dsimp only at e0 e1 e2 e3 e4 e5;obtain ⟨o0,o1,o2,o3,o4,o5⟩:=qw hS.o.blk;dsimp only at o0 o1 o2 o3 o4 o5;have hgl:=hS.o.blk.lt;have hbw:=hb.trans (hS.old.mono hb.size)
  by_cases hlt:k<H
  ·obtain ⟨x,hxl,hxg,hxn,hx1,hx2⟩:=HRow.out k;obtain ⟨CR,hCR⟩ : ∃ y,y=kr W x.l:=⟨_,rfl⟩
   have HN:Hid (∀ A4 A6 c4 c6 w1 w4,Below wr.heap.size wr w1->w1.ownsRow wr.heap.size 64 3 (.slice A6 CR.length c6) CR.length (qi CR)->w4.ownsRow (X.heap.size+1) 45 1 (.slice A4 (rs2.length+1) c4) (rs2.length+1) (zQ rs2++[.slice A6 CR.length c6])->w1.grownBy w4 (Value.slice A2 rs2.length c2).ownBlock->Below (X.heap.size+1) w1 w4 ->
     ∃ rs3 A3 c3,Hid (rls rs3=(List.range (k+1)).map fun i=>kr W (rows.getD i []))/\NwS X W H vr vc vis rs3 A3 c3 (w4.setCell ⟨X.heap.size,2,none⟩ (.slice A4 (rs2.length+1) c4))):=Lh fun A4 A6 c4 c6 w1 w4 h1 h2 h3 h4 h5=>by
    refine ⟨rs2++[⟨CR,A6,c6⟩],A4,c4,Lh ?_,hS.push h1 h2 h3 h4 h5⟩;rw [List.range_succ,List.map_append,<- hr2.out,List.map_singleton,<- hxl,<- hCR]
    simp [rls]
   have hl2:rs2.length<=60:=by
    have:=congrArg List.length hr2.out;rw [vJ,Lq,List.length_range] at this
    omega
   obtain ⟨F,hF⟩ : ∃ F,F=qaT W x.l:=⟨_,rfl⟩
   have hFl:F<=x.l.length:=hF ▸ qhy W x.l;have hTr:Hid (∀ Y,Below wr.heap.size wr Y->Calls prog 83 #[.slice x.A F x.cap] Y fun e w'=>∃ A6 c6,e = .returned (.slice A6 CR.length c6)/\w'.ownsRow wr.heap.size 64 3 (.slice A6 CR.length c6) CR.length (qi CR)/\Below wr.heap.size wr w'):=Lh fun Y hY=>by
    have hR1:=(((hxg.1.below hbw).more hbw.size).below hY).take hFl;rw [<- kM] at hR1;subst hF hCR;exact (qkD (x.l.take (qaT W x.l)) x.A (qaT W x.l) x.cap wr.heap.size Y L0 (Lj hFl hxg.2.1) hxg.2.2 hR1 hY.size).mono fun e w' ⟨A6,c6,h1,h2,h3⟩=>⟨A6,c6,h1,qt h2 hY.size,hY.trans (h3.mono hY.size)⟩
   have HWd:Hid (∀ q,q<x.l.length->Calls prog 48 #[.slice x.A (q+1) x.cap] wr fun e w'=>e = .returned (.int .i64 (vM (x.l.take (q+1)):Nat))/\w'=wr):=Lh fun q h=>by
    have hR1:=(hxg.1.below hbw).take (k:=q+1) L0;rw [<- kM] at hR1;exact qjp (x.l.take (q+1)) x.A (q+1) x.cap _ wr L0 hR1
   have HF0:Hid (F=0+qaT (W-(vM (x.l.take 0):Nat)) (x.l.drop 0)):=Lh (by rw [List.take_zero,List.drop_zero,Lo,hF];simp [vM,kw]);have hcl0:=hxg.2.1;have hFc:F<=x.cap:=Lj hFl hxg.2.1;have hcl63:(x.cap:Int)<=9223372036854775807:=by have:=hxg.2.2;unfold maxLen at this;omega
   have hWr:=Lh hbw;clear hr2 hxl hxg hCR hF hbw o0 o1 o3 o4 o5
   go_upto_if 26 with fail
   go_cut [9] (fun v9 wx=>v9 = .slice x.A x.l.length x.cap/\wx=wr)
   case first =>
    by_cases hkn:k<n
    ·obtain ⟨b,o,rfl,hbl,hcell⟩:=hx1 hkn;have hcx:=(hWr.out.cell (p:=⟨b,o+k,none⟩) hbl).trans hcell;go_wp2;go_meet;exact ⟨rfl,rfl⟩
    ·obtain rfl:=hx2 hkn;go_wp2;go_meet;exact ⟨rfl,rfl⟩
   case rest =>
    obtain ⟨rfl,rfl⟩:=hcut;clear hx1 hx2 e0 e1 e2 e3 e4 e5 hWr;obtain ⟨l,Al,cl⟩:=x;dsimp only at *
    obtain ⟨wo,rfl⟩ : ∃ y:World,y=wc:=⟨_,rfl⟩
    go_wp2
    go_loopw [10] (fun vn wz=>∃ q:Nat,q<=l.length/\vn = .int .i64 q/\wz=wo/\Hid (F=q+qaT (W-(vM (l.take q):Nat)) (l.drop q))) (fun vn _=>l.length-(intOf vn).toNat)
    case atStart=>exact ⟨0,Nat.zero_le _,rfl,rfl,HF0⟩
    case round =>
     clear HF0;obtain ⟨q,hq,rfl,rfl,HF⟩:=hrel
     by_cases hlq:q<l.length
     ·have hW1:=Lh (HWd.out q hlq);have hrt:=qkm hlq;have HF2:=HF.out;rw [qkF hlq] at HF2;have hqc:(q:Int)+1<=cl:=by omega
      generalize hr1:vM (l.take (q+1))=r1 at *
      replace hr1:=Lh hr1
      by_cases hfit:(r1:Int)<=W
      ·rw [if_neg L0,show W-((vM (l.take q):Nat):Int)-(glW l[q]:Nat)=W-(r1:Nat) by omega] at HF2;have HF3:Hid (F=(q+1)+qaT (W-(r1:Nat)) (l.drop (q+1))):=Lh L0;have hd:decide ((r1:Int)<=W)=true:=Ll hfit;clear HF HF2 hrt
       go_wp2_with (go_at_call 48;refine hW1.out.mono ?_;rintro e w1 ⟨rfl,rfl⟩)
       exact ⟨⟨q+1,by omega,by go_num,by trivial,by rw [hr1.out];exact HF3⟩,by simp [intOf];omega⟩
      ·rw [if_pos L0] at HF2;have hd:decide ((r1:Int)<=W)=false:=Lk hfit;obtain rfl:F=q:=by omega
       clear HF HF2 hrt
       go_upto_region 14 with (go_at_call 48;refine hW1.out.mono ?_;rintro e w1 ⟨rfl,rfl⟩)
       go_region_law (first
        | (go_simp;go_at_call 83;refine (hTr.out _ ql8).mono ?_;rintro e w2 ⟨A6,c6,rfl,o6,b6⟩;have zb:=b6.size;have z2:=(b6.cell (p:=⟨X.heap.size,2,none⟩) hgl).trans o2;have hR6:=qb hS.o.own.rows b6;have hB6:=hS.o.blk.below b6 hgl;have z3 : ∀ o,(w2.alloc o).cell? ⟨X.heap.size,2,none⟩=some (.slice A2 rs2.length c2):=fun o=>(hB6.alloc o).cell 2)
        | (refine jZ rfl _ _ _ rfl elt_row (X.heap.size+1) _ rfl (by first | exact hR6.alloc _ | exact (hR6.alloc _).drew) _ _ rfl (qe (xs:=[.slice A6 _ c6]) (by rfl) rfl) (by rfl) ?_;intro A4 c4 w4 hown4 hbel4 hgr4 hat4;have hB4:=(hB6.alloc _).grown hgr4 (qku hS.o);have q4:w4.cell? ⟨X.heap.size,2,none⟩=some (.slice A2 rs2.length c2):=hB4.cell 2;have y4:=hB4.frozen 2))
       all_goals go_wp2
       all_goals exact ⟨⟨k+1,by omega,by go_num,HN.out _ _ _ _ _ _ (b6.alloc b6.size _) (o6.alloc _) hown4 hgr4 hbel4⟩,by simp [intOf];omega⟩
     ·obtain rfl:q=l.length:=by omega
      have HF2:=HF.out;rw [Lv (Ld _),qaT] at HF2;obtain rfl:F=l.length:=by omega
      clear HF HF2 HWd
      go_upto_region 14 with fail
      go_region_law (first
       | (go_simp;go_at_call 83;refine (hTr.out _ ql8).mono ?_;rintro e w2 ⟨A6,c6,rfl,o6,b6⟩;have zb:=b6.size;have z2:=(b6.cell (p:=⟨X.heap.size,2,none⟩) hgl).trans o2;have hR6:=qb hS.o.own.rows b6;have hB6:=hS.o.blk.below b6 hgl;have z3 : ∀ o,(w2.alloc o).cell? ⟨X.heap.size,2,none⟩=some (.slice A2 rs2.length c2):=fun o=>(hB6.alloc o).cell 2)
       | (refine jZ rfl _ _ _ rfl elt_row (X.heap.size+1) _ rfl (by first | exact hR6.alloc _ | exact (hR6.alloc _).drew) _ _ rfl (qe (xs:=[.slice A6 _ c6]) (by rfl) rfl) (by rfl) ?_;intro A4 c4 w4 hown4 hbel4 hgr4 hat4;have hB4:=(hB6.alloc _).grown hgr4 (qku hS.o);have q4:w4.cell? ⟨X.heap.size,2,none⟩=some (.slice A2 rs2.length c2):=hB4.cell 2;have y4:=hB4.frozen 2))
      all_goals go_wp2
      all_goals exact ⟨⟨k+1,by omega,by go_num,HN.out _ _ _ _ _ _ (b6.alloc b6.size _) (o6.alloc _) hown4 hgr4 hbel4⟩,by simp [intOf];omega⟩
  ·obtain rfl:H=k:=by omega
   have f3:=hS.o.blk.frozen 3;have f4:=hS.o.blk.frozen 4;have hM1':=hM1.out;have hM2':=hM2.out;have hg0:X.heap.size<X.heap.size+1:=Nat.lt_succ_self _
   go_upto_region 17 with fail
   refine qa (fun Y=>Blk Y X.heap.size 24 (vwC ⟨W,H,rls rs2,M1,M2,vis⟩ A2 rs2.length c2)/\OwV (X.heap.size+1) Y ⟨W,H,rls rs2,vr,vc,vis⟩ A2 rs2.length c2 rs2/\Below X.heap.size X Y) ⟨(hS.o.blk.set_ 3 _).set_ 4 _,(hS.o.own.far (p:=⟨X.heap.size,3,none⟩) hg0 _).far (p:=⟨X.heap.size,4,none⟩) hg0 _,(hS.old.setCell (p:=⟨X.heap.size,3,none⟩) (Ld _) _).setCell (p:=⟨X.heap.size,4,none⟩) (Ld _) _⟩ ?_;clear hM1' hM2' hM1 hM2 e0 e1 e2 e3 e4 e5 o0 o1 o2 o3 o4 o5 f3 f4 hS hbw;rintro Y ⟨hBY,hO,hY⟩;obtain ⟨o0,o1,o2,o3,o4,o5⟩:=qw hBY;dsimp only at o0 o1 o2 o3 o4 o5;have hlz:=hz.lt;have hz1:=hz.below hY hlz;obtain ⟨z0,z1,z2,z3,z4,z5,y0,y1,y2,y3,y4,y5⟩:=ZB.facts hz1;go_wp2;have hx:=(hO.set6 (g:=w.heap.size+1) L0 (.int .i64 W) (.int .i64 H) (.slice A2 rs2.length c2) (.int .i64 M1) (.int .i64 M2) (.bool vis)).less (N':=w.heap.size) L0;exact bodyPost_ret (results_cell_row rfl _ _ (w.heap.size+1) 24 _ (0,0) _ rfl (ZB.set6 hz1 ⟨W,H,rls rs2,M1,M2,vis⟩ A2 rs2.length c2) underlying24 rfl (by kernel_rfl)) rfl ⟨qap (hb.trans (hY.mono hb.size)) L0 _ _ _ _ _ _,A2,rs2.length,c2,rs2,rfl,hx.rows2 hr2.out.symm⟩
def StR (v:Vw) (A:Option Addr) (n c:Nat) (u:Vw) (w:World) (e:Ending) (w':World):Prop:=Below w.heap.size w w'/\((∃ A' n' c' rs',e = .returned (.agg (vwC u A' n' c'))/\OwV w.heap.size w' u A' n' c' rs')∨(u.rows=v.rows/\e = .returned (.agg (vwC u A n c))))
structure StB (w:World) (v:Vw) (A:Option Addr) (n c:Nat) (ch:Chg) (Ag:Option Addr) (cap:Nat) (X:World):Prop where
 v:Blk X w.heap.size 24 (vwC v A n c)
 c:Blk X (w.heap.size+1) 57 (yG ch Ag cap)
 z:ZB X (w.heap.size+2)
 bel:Below w.heap.size w X
section
variable {w X X' : World} {v : Vw} {A : Option Addr} {n c B : Nat} {ch : Chg} {Ag : Option Addr} {cap : Nat}
theorem StB.new (w:World) (v:Vw) (A:Option Addr) (n c:Nat) (ch:Chg) (Ag:Option Addr) (cap:Nat):StB w v A n c ch Ag cap (((w.alloc (.cells (vwC v A n c) 24)).alloc (.cells (yG ch Ag cap) 57)).alloc (.cells (vwC vw0 none 0 0) 24)) :=
 ⟨((Blk.new_ rfl).alloc _).alloc _,(Blk.new_ L1).alloc _,Blk.new_ L1,((L5).alloc L1 _).alloc (by simp;omega) _⟩
theorem StB.on (h:StB w v A n c ch Ag cap X) (hb:Below B X X') (hB:w.heap.size+2<B):StB w v A n c ch Ag cap X' :=
 ⟨h.v.below hb L0,h.c.below hb L0,h.z.below hb hB,h.bel.trans (hb.mono L0)⟩
end
section
variable {W Hh : Int} {rows : List (List Gl)} {vr vc : Int} {vis : Bool} {A : Option Addr} {n c B : Nat} {rs : List RowM} {w : World} {row col count til : Int} {g : List Gl} {Ag : Option Addr} {cap : Nat}
theorem qkS (rd:RdV w B ⟨W,Hh,rows,vr,vc,vis⟩ A n c rs) (hB:B<=w.heap.size) (hr:zh ⟨W,Hh,rows,vr,vc,vis⟩ ⟨1,row,col,count,til,g⟩=true) (hrl : ∀ x∈rs,x.l.length<=100000000) :
  Calls prog 47 #[.agg (vwC ⟨W,Hh,rows,vr,vc,vis⟩ A n c),jH ⟨1,row,col,count,til,g⟩ Ag cap] w (StR ⟨W,Hh,rows,vr,vc,vis⟩ A n c (jY ⟨W,Hh,rows,vr,vc,vis⟩ ⟨1,row,col,count,til,g⟩) w):=by
 obtain ⟨r1,r2,r3,r4⟩:1<=row/\row<=60/\1<=col/\col<=132:=of_decide_eq_true hr;have HSz:Hid (∀ w',Below w.heap.size w w'->Calls prog 82 #[.agg (vwC ⟨W,Hh,rows,vr,vc,vis⟩ A n c),.int .i64 row,.int .i64 col] w' (NvR (jY ⟨W,Hh,rows,vr,vc,vis⟩ ⟨1,row,col,count,til,g⟩) w')):=Lh fun w' hb =>
  qkT _ A n c w.heap.size rs col row w' ((rd.more hB).below hb) hb.size ⟨r3,r4⟩ ⟨r1,r2⟩ hrl
 generalize jY ⟨W,Hh,rows,vr,vc,vis⟩ ⟨1,row,col,count,til,g⟩=u at *
 obtain ⟨uW,uH,urows,ur,uc,uv⟩:=u;have HS2:Hid (∀ w',Below w.heap.size w w'->Calls prog 82 #[.agg (vwC ⟨W,Hh,rows,vr,vc,vis⟩ A n c),.int .i64 row,.int .i64 col] w' fun e w1=>Below w'.heap.size w' w1/\∃ A1 n1 c1 rs1,e = .returned (.agg #[.int .i64 uW,.int .i64 uH,.slice A1 n1 c1,.int .i64 ur,.int .i64 uc,.bool uv])/\OwV w'.heap.size w1 ⟨uW,uH,urows,ur,uc,uv⟩ A1 n1 c1 rs1):=HSz;clear rd hr hrl r1 r2 r3 r4 HSz
 go_enter func47,ntmps47
 go_upto_region 1 with fail
 refine qa (StB w ⟨W,Hh,rows,vr,vc,vis⟩ A n c ⟨1,row,col,count,til,g⟩ Ag cap) (StB.new w ⟨W,Hh,rows,vr,vc,vis⟩ A n c ⟨1,row,col,count,til,g⟩ Ag cap) ?_;intro X hX;obtain ⟨e0,e1,e2,e3,e4,e5⟩:=qw (StB.v hX);obtain ⟨d0,d1,d2,d3,d4,d5,-⟩:=qV (StB.c hX);dsimp only at e0 e1 e2 e3 e4 e5 d0 d1 d2 d3 d4 d5
 go_wp2_with (go_at_call 82;refine (HS2.out _ hX.bel).mono ?_;rintro e w1 ⟨hb1,A1,n1,c1,rs1,rfl,ho1⟩;have hz1:=hX.z.below hb1 hX.z.lt;obtain ⟨z0,z1,z2,z3,z4,z5,y0,y1,y2,y3,y4,y5⟩:=ZB.facts hz1)
 have hX1:=hX.on hb1 hX.z.lt;exact bodyPost_ret (results_cell_row rfl _ _ (w.heap.size+2) 24 _ (0,0) _ rfl (ZB.set6 hz1 ⟨uW,uH,urows,ur,uc,uv⟩ A1 n1 c1) underlying24 rfl (by kernel_rfl)) rfl ⟨qap hX1.bel L0 _ _ _ _ _ _,.inl ⟨A1,n1,c1,rs1,rfl,(ho1.set6 hX.z.lt _ _ _ _ _ _).less hX.bel.size⟩⟩
theorem qkL :
  Calls prog 47 #[.agg (vwC ⟨W,Hh,rows,vr,vc,vis⟩ A n c),jH ⟨4,row,col,count,til,g⟩ Ag cap] w (StR ⟨W,Hh,rows,vr,vc,vis⟩ A n c ⟨W,Hh,rows,row,col,decide (count=1)⟩ w):=by
 have hbe:(count==1)=decide (count=1):=by rw [Bool.eq_iff_iff];simp
 generalize decide (count=1)=vb at *
 go_enter func47,ntmps47
 go_upto_region 1 with fail
 refine qa (StB w ⟨W,Hh,rows,vr,vc,vis⟩ A n c ⟨4,row,col,count,til,g⟩ Ag cap) (StB.new w ⟨W,Hh,rows,vr,vc,vis⟩ A n c ⟨4,row,col,count,til,g⟩ Ag cap) ?_;intro X hX;obtain ⟨e0,e1,e2,e3,e4,e5⟩:=qw (StB.v hX);obtain ⟨d0,d1,d2,d3,d4,d5,-⟩:=qV (StB.c hX);dsimp only at e0 e1 e2 e3 e4 e5 d0 d1 d2 d3 d4 d5
 go_upto_region 4 with fail
 refine qa (fun Y=>Blk Y X.heap.size 24 (vwC ⟨W,Hh,rows,vr,vc,vis⟩ A n c)/\Below X.heap.size X Y) ⟨Blk.new_ rfl,L5⟩ ?_;rintro Y ⟨hY,hbY⟩;have hlX:=hX.z.lt;have hX1:=hX.on hbY hlX;clear e0 e1 e2 e3 e4 e5 d0 d1 d2 d3 d4 d5;obtain ⟨d0,d1,d2,d3,d4,d5,-⟩:=qV hX1.c;dsimp only at d0 d1 d2 d3 d4 d5;have f3:=hY.frozen 3;have f4:=hY.frozen 4;have f5:=hY.frozen 5;obtain ⟨o0,o1,o2,o3,o4,o5⟩:=qw hY;dsimp only at o0 o1 o2 o3 o4 o5
 go_upto_region 8 with fail
 refine qa (fun Z=>Blk Z X.heap.size 24 (vwC ⟨W,Hh,rows,row,col,vb⟩ A n c)/\Below X.heap.size X Z) ⟨(((hY.set_ 3 _).set_ 4 _).set_ 5 _),((hbY.setCell (p:=⟨X.heap.size,3,none⟩) (Ld _) _).setCell (p:=⟨X.heap.size,4,none⟩) (Ld _) _).setCell (p:=⟨X.heap.size,5,none⟩) (Ld _) _⟩ ?_;clear d0 d1 d2 d3 d4 d5 o0 o1 o2 o3 o4 o5 f3 f4 f5 hX1 hbY hY;clear Y;rintro Z ⟨hZ,hbZ⟩;have hX1:=hX.on hbZ hlX;obtain ⟨o0,o1,o2,o3,o4,o5⟩:=qw hZ;dsimp only at o0 o1 o2 o3 o4 o5;have hz1:=hX1.z;obtain ⟨z0,z1,z2,z3,z4,z5,y0,y1,y2,y3,y4,y5⟩:=ZB.facts hz1;go_wp2;exact bodyPost_ret (results_cell_row rfl _ _ (w.heap.size+2) 24 _ (0,0) _ rfl (ZB.set6 hz1 ⟨W,Hh,rows,row,col,vb⟩ A n c) underlying24 rfl (by kernel_rfl)) rfl ⟨qap hX1.bel L0 _ _ _ _ _ _,.inr ⟨rfl,rfl⟩⟩
end
def TrH (X:World) (W H r cl:Int) (vs:Bool) (rs2:List RowM) (A2:Option Addr) (c2 k:Nat) (f:Nat->List Gl) (wz:World) (l:List Gl) (Ay:Option Addr) (m cy:Nat):Prop :=
 NwS X W H r cl vs rs2 A2 c2 wz/\(∀ Y,Below wz.heap.size wz Y->Calls prog 83 #[.slice Ay m cy] Y fun e w'=>∃ A6 c6,e = .returned (.slice A6 (zI l).length c6)/\w'.ownsRow wz.heap.size 64 3 (.slice A6 (zI l).length c6) (zI l).length (qi (zI l))/\Below wz.heap.size wz w') /\
 ∀ A4 A6 c4 c6 w1 w4,Below wz.heap.size wz w1->w1.ownsRow wz.heap.size 64 3 (.slice A6 (zI l).length c6) (zI l).length (qi (zI l))->w4.ownsRow (X.heap.size+1) 45 1 (.slice A4 (rs2.length+1) c4) (rs2.length+1) (zQ rs2++[.slice A6 (zI l).length c6])->w1.grownBy w4 (Value.slice A2 rs2.length c2).ownBlock->Below (X.heap.size+1) w1 w4 ->
  ∃ rs3 A3 c3,Hid (rls rs3=(List.range (k+1)).map f)/\NwS X W H r cl vs rs3 A3 c3 (w4.setCell ⟨X.heap.size,2,none⟩ (.slice A4 (rs2.length+1) c4))
theorem TrH.mk {X:World} {W H r cl:Int} {vs:Bool} {rs2:List RowM} {A2:Option Addr} {c2 k:Nat} {f:Nat->List Gl} {wz:World} {l:List Gl} {Ay:Option Addr} {m cy:Nat} (hS:NwS X W H r cl vs rs2 A2 c2 wz) (hy:RdG wz wz.heap.size ⟨l,Ay,cy⟩) (hm:m=l.length) (hl:l.length<=1000000000) (hf:f k=zI l) (hr:rls rs2=(List.range k).map f):TrH X W H r cl vs rs2 A2 c2 k f wz l Ay m cy:=by
 subst hm;refine ⟨hS,fun Y hY=>?_,fun A4 A6 c4 c6 w1 w4 h1 h2 h3 h4 h5=>⟨rs2++[⟨zI l,A6,c6⟩],A4,c4,Lh ?_,hS.push h1 h2 h3 h4 h5⟩⟩
 ·exact (qkD l Ay l.length cy wz.heap.size Y hl hy.2.1 hy.2.2 (hy.1.below hY) hY.size).mono fun e w' ⟨A6,c6,h1,h2,h3⟩=>⟨A6,c6,h1,qt h2 hY.size,hY.trans (h3.mono hY.size)⟩
 ·rw [List.range_succ,List.map_append,<- hr,List.map_singleton,hf]
  simp [rls]
section
variable {W Hh : Int} {rows : List (List Gl)} {vr vc : Int} {vis : Bool} {A : Option Addr} {n c B : Nat} {rs : List RowM} {w : World} {row col count til : Int} {g : List Gl} {Ag : Option Addr} {cap : Nat}
theorem qkP (rd:RdV w B ⟨W,Hh,rows,vr,vc,vis⟩ A n c rs) (hB:B<=w.heap.size) (hn:n<=1000) (hr:0<=row/\row<til/\til<=n/\count<til-row/\row-til<count) (hrl : ∀ x∈rs,x.l.length<=100000000) :
  Calls prog 47 #[.agg (vwC ⟨W,Hh,rows,vr,vc,vis⟩ A n c),jH ⟨2,row,col,count,til,g⟩ Ag cap] w (StR ⟨W,Hh,rows,vr,vc,vis⟩ A n c ⟨W,Hh,(List.range n).map fun i=>zI (qkw ⟨W,Hh,rows,vr,vc,vis⟩ ⟨2,row,col,count,til,g⟩ i),vr,vc,vis⟩ w):=by
 have HRow:=Lh (qkK rd hB hrl);have HRS:Hid (∀ k:Nat,qkw ⟨W,Hh,rows,vr,vc,vis⟩ ⟨2,row,col,count,til,g⟩ k=if row<=(k:Int)/\(k:Int)<til then (if row<=(k:Int)+count/\(k:Int)+count<til then rows.getD ((k:Int)+count).toNat [] else []) else rows.getD k []):=Lh fun k=>rfl
 obtain ⟨f,hf⟩ : ∃ f:Nat->List Gl,f=fun i=>zI (qkw ⟨W,Hh,rows,vr,vc,vis⟩ ⟨2,row,col,count,til,g⟩ i):=⟨_,rfl⟩
 have hfk:Hid (∀ k,f k=zI (qkw ⟨W,Hh,rows,vr,vc,vis⟩ ⟨2,row,col,count,til,g⟩ k)):=Lh fun k=>by rw [hf]
 rw [<- hf];clear hf rd hrl;dsimp only at HRow;have hn9:(n:Int)<=9223372036854775807:=by omega
 go_enter func47,ntmps47
 go_upto_region 1 with fail
 refine qa (StB w ⟨W,Hh,rows,vr,vc,vis⟩ A n c ⟨2,row,col,count,til,g⟩ Ag cap) (StB.new w ⟨W,Hh,rows,vr,vc,vis⟩ A n c ⟨2,row,col,count,til,g⟩ Ag cap) ?_;intro X hX;obtain ⟨e0,e1,e2,e3,e4,e5⟩:=qw (StB.v hX);obtain ⟨d0,d1,d2,d3,d4,d5,-⟩:=qV (StB.c hX);dsimp only at e0 e1 e2 e3 e4 e5 d0 d1 d2 d3 d4 d5;have hlX:=hX.z.lt
 go_upto_region 4 with fail
 refine qa (fun Y=>Blk Y X.heap.size 24 (vwC ⟨W,Hh,rows,vr,vc,vis⟩ A n c)/\Below X.heap.size X Y) ⟨Blk.new_ rfl,L5⟩ ?_;rintro Y ⟨hY,hbY⟩;have hX1:=hX.on hbY hlX;clear e0 e1 e2 e3 e4 e5 d0 d1 d2 d3 d4 d5;obtain ⟨e0,e1,e2,e3,e4,e5⟩:=qw (StB.v hX1);obtain ⟨d0,d1,d2,d3,d4,d5,-⟩:=qV (StB.c hX1);dsimp only at e0 e1 e2 e3 e4 e5 d0 d1 d2 d3 d4 d5;have f2:=hY.frozen 2;obtain ⟨o0,o1,o2,o3,o4,o5⟩:=qw hY
 go_upto_region 10 with fail
 refine qa (NwS X W Hh vr vc vis [] none 0) ⟨⟨hY.set_ 2 _,⟨zY _ _ _ _,fun x hx=>(by cases hx),rfl⟩,Nat.lt_succ_self _⟩,hbY.setCell (p:=⟨X.heap.size,2,none⟩) (Ld _) _⟩ ?_;clear e0 e1 e2 e3 e4 e5 d0 d1 d2 d3 d4 d5 o0 o1 o2 o3 o4 o5 f2 hX1 hY hbY;clear Y;intro Y hS;go_wp2
 go_loopw [6] (fun x wr=>∃ k:Nat,k<=n/\x = .int .i64 k/\∃ rs2 A2 c2,Hid (rls rs2=(List.range k).map f)/\NwS X W Hh vr vc vis rs2 A2 c2 wr) (fun x _=>n-(intOf x).toNat)
 case atStart=>exact ⟨0,Nat.zero_le _,rfl,[],none,0,Lh rfl,hS⟩
 case round =>
  clear hS;obtain ⟨k,hk,rfl,rs2,A2,c2,hr2,hS⟩:=hrel;have hX1:=hX.on hS.old hlX;obtain ⟨e0,e1,e2,e3,e4,e5⟩:=qw (StB.v hX1);obtain ⟨d0,d1,d2,d3,d4,d5,-⟩:=qV (StB.c hX1);dsimp only at e0 e1 e2 e3 e4 e5 d0 d1 d2 d3 d4 d5
  by_cases hlt:k<n
  ·obtain ⟨x,hxl,hxg,hxn,hx1,-⟩:=HRow.out k;replace hxl:=Lh hxl;obtain ⟨b,o,rfl,hbl,hcell⟩:=hx1 hlt;have hcx:=(hX1.bel.cell (p:=⟨b,o+k,none⟩) hbl).trans hcell;have hki:(k:Int)<n:=by omega
   have hl2:rs2.length<=1000:=by
    have:=congrArg List.length hr2.out;rw [vJ,Lq,List.length_range] at this
    omega
   have hbw:=hX1.bel;have hRG : ∀ y:RowM,RdG w w.heap.size y->RdG wr wr.heap.size y:=fun y h=>(h.below hbw).more hbw.size
   clear hx1;obtain ⟨bn,hbn⟩ : ∃ b:Bool,Hid (b=decide (row<=(k:Int)/\(k:Int)<til)):=⟨_,Lh rfl⟩
   go_upto_region 14 with fail
   go_cut [61] (fun v wx=>v = .bool bn/\wx=wr)
   case first =>
    by_cases h1:row<=(k:Int)
    ·by_cases h2:(k:Int)<til
     ·have g1:decide (row<=(k:Int))=true:=Ll h1;have g2:decide ((k:Int)<til)=true:=Ll h2;have gd:=Lh (Ll (show row<=(k:Int)/\(k:Int)<til from ⟨h1,h2⟩));clear h1 h2;go_wp2;go_meet;exact ⟨congrArg Value.bool (hbn.out.trans gd.out).symm,rfl⟩
     ·have g1:decide (row<=(k:Int))=true:=Ll h1;have g2:decide ((k:Int)<til)=false:=Lk h2;have gd:=Lh (Lk (show ¬ (row<=(k:Int)/\(k:Int)<til) from fun h=>h2 h.2));clear h1 h2;go_wp2;go_meet;exact ⟨congrArg Value.bool (hbn.out.trans gd.out).symm,rfl⟩
    ·have g1:decide (row<=(k:Int))=false:=Lk h1;have gd:=Lh (Lk (show ¬ (row<=(k:Int)/\(k:Int)<til) from fun h=>h1 h.1));clear h1;go_wp2;go_meet;exact ⟨congrArg Value.bool (hbn.out.trans gd.out).symm,rfl⟩
   case rest =>
    obtain ⟨rfl,rfl⟩:=hcut
    by_cases hin:row<=(k:Int)/\(k:Int)<til
    ·have hw:IntKind.i64.wrap ((k:Int)+count)=(k:Int)+count:=by rw [Lx];omega
     obtain rfl:bn=true:=hbn.out.trans (Ll hin);clear hbn
     by_cases h1:row<=(k:Int)+count
     ·have g1:decide (row<=(k:Int)+count)=true:=Ll h1
      by_cases h2:(k:Int)+count<til
      ·have g2:decide ((k:Int)+count<til)=true:=Ll h2;obtain ⟨m,hm⟩ : ∃ m:Nat,(k:Int)+count=m:=⟨((k:Int)+count).toNat,by omega⟩
       obtain ⟨y,hyl,hyg,hyn,hy1,-⟩:=HRow.out m;replace hyl:=Lh hyl;obtain ⟨b',o',hA,hbl',hcell'⟩:=hy1 L0;obtain ⟨rfl,rfl⟩:b=b'/\o=o':=by injection hA with hA;injection hA with h1 h2;exact ⟨h1,h2⟩
       have hcy:=(hbw.cell (p:=⟨b,o+m,none⟩) hbl').trans hcell';have hT:TrH X W Hh vr vc vis rs2 A2 c2 k f wc y.l y.A y.l.length y.cap:=.mk hS (hRG y hyg) rfl L0 (by rw [hfk.out,HRS.out,if_pos hin,if_pos ⟨h1,h2⟩,hm,Int.toNat_natCast,hyl.out]) hr2.out;have hmi:(m:Int)<n:=by omega
       rw [hm] at hw g1 g2;clear hin h1 h2 hy1 hcell hxl hyl hRG hA;obtain ⟨hS,hTr,hNx⟩:=hT;replace hTr:=Lh hTr;replace hNx:=Lh hNx;obtain ⟨o0,o1,o2,o3,o4,o5⟩:=qw hS.o.blk;dsimp only at o0 o1 o2 o3 o4 o5;have hgl:=hS.o.blk.lt
       go_upto_region 28 with fail
       go_region_law (first
        | (go_simp;go_at_call 83;refine (hTr.out _ ql8).mono ?_;rintro e w2 ⟨A6,c6,rfl,o6,b6⟩;have zb:=b6.size;have z2:=(b6.cell (p:=⟨X.heap.size,2,none⟩) hgl).trans o2;have hR6:=qb hS.o.own.rows b6;have hB6:=hS.o.blk.below b6 hgl;have z3 : ∀ o,(w2.alloc o).cell? ⟨X.heap.size,2,none⟩=some (.slice A2 rs2.length c2):=fun o=>(hB6.alloc o).cell 2)
        | (refine jZ rfl _ _ _ rfl elt_row (X.heap.size+1) _ rfl (by first | exact hR6.alloc _ | exact (hR6.alloc _).drew) _ _ rfl (qe (xs:=[.slice A6 _ c6]) (by rfl) rfl) (by rfl) ?_;intro A4 c4 w4 hown4 hbel4 hgr4 hat4;have hB4:=(hB6.alloc _).grown hgr4 (qku hS.o);have q4:w4.cell? ⟨X.heap.size,2,none⟩=some (.slice A2 rs2.length c2):=hB4.cell 2;have y4:=hB4.frozen 2))
       all_goals go_wp2
       all_goals exact ⟨⟨k+1,by omega,by go_num,hNx.out _ _ _ _ _ _ (b6.alloc b6.size _) (o6.alloc _) hown4 hgr4 hbel4⟩,by simp [intOf];omega⟩
      ·have g2:decide ((k:Int)+count<til)=false:=Lk h2;have hT:TrH X W Hh vr vc vis rs2 A2 c2 k f wc [] none 0 0:=.mk hS ⟨Rd.none_,Ld _,Nat.zero_le _⟩ rfl (Nat.zero_le _) (by rw [hfk.out,HRS.out,if_pos hin,if_neg (fun h=>h2 h.2)]) hr2.out;clear hin h1 h2 hxl hRG;obtain ⟨hS,hTr,hNx⟩:=hT;replace hTr:=Lh hTr;replace hNx:=Lh hNx;obtain ⟨o0,o1,o2,o3,o4,o5⟩:=qw hS.o.blk;dsimp only at o0 o1 o2 o3 o4 o5;have hgl:=hS.o.blk.lt
       go_upto_region 28 with fail
       go_region_law (first
        | (go_simp;go_at_call 83;refine (hTr.out _ ql8).mono ?_;rintro e w2 ⟨A6,c6,rfl,o6,b6⟩;have zb:=b6.size;have z2:=(b6.cell (p:=⟨X.heap.size,2,none⟩) hgl).trans o2;have hR6:=qb hS.o.own.rows b6;have hB6:=hS.o.blk.below b6 hgl;have z3 : ∀ o,(w2.alloc o).cell? ⟨X.heap.size,2,none⟩=some (.slice A2 rs2.length c2):=fun o=>(hB6.alloc o).cell 2)
        | (refine jZ rfl _ _ _ rfl elt_row (X.heap.size+1) _ rfl (by first | exact hR6.alloc _ | exact (hR6.alloc _).drew) _ _ rfl (qe (xs:=[.slice A6 _ c6]) (by rfl) rfl) (by rfl) ?_;intro A4 c4 w4 hown4 hbel4 hgr4 hat4;have hB4:=(hB6.alloc _).grown hgr4 (qku hS.o);have q4:w4.cell? ⟨X.heap.size,2,none⟩=some (.slice A2 rs2.length c2):=hB4.cell 2;have y4:=hB4.frozen 2))
       all_goals go_wp2
       all_goals exact ⟨⟨k+1,by omega,by go_num,hNx.out _ _ _ _ _ _ (b6.alloc b6.size _) (o6.alloc _) hown4 hgr4 hbel4⟩,by simp [intOf];omega⟩
     ·have g1:decide (row<=(k:Int)+count)=false:=Lk h1;have hT:TrH X W Hh vr vc vis rs2 A2 c2 k f wc [] none 0 0:=.mk hS ⟨Rd.none_,Ld _,Nat.zero_le _⟩ rfl (Nat.zero_le _) (by rw [hfk.out,HRS.out,if_pos hin,if_neg (fun h=>h1 h.1)]) hr2.out;clear hin h1 hxl hRG;obtain ⟨hS,hTr,hNx⟩:=hT;replace hTr:=Lh hTr;replace hNx:=Lh hNx;obtain ⟨o0,o1,o2,o3,o4,o5⟩:=qw hS.o.blk;dsimp only at o0 o1 o2 o3 o4 o5;have hgl:=hS.o.blk.lt
      go_upto_region 28 with fail
      go_region_law (first
       | (go_simp;go_at_call 83;refine (hTr.out _ ql8).mono ?_;rintro e w2 ⟨A6,c6,rfl,o6,b6⟩;have zb:=b6.size;have z2:=(b6.cell (p:=⟨X.heap.size,2,none⟩) hgl).trans o2;have hR6:=qb hS.o.own.rows b6;have hB6:=hS.o.blk.below b6 hgl;have z3 : ∀ o,(w2.alloc o).cell? ⟨X.heap.size,2,none⟩=some (.slice A2 rs2.length c2):=fun o=>(hB6.alloc o).cell 2)
       | (refine jZ rfl _ _ _ rfl elt_row (X.heap.size+1) _ rfl (by first | exact hR6.alloc _ | exact (hR6.alloc _).drew) _ _ rfl (qe (xs:=[.slice A6 _ c6]) (by rfl) rfl) (by rfl) ?_;intro A4 c4 w4 hown4 hbel4 hgr4 hat4;have hB4:=(hB6.alloc _).grown hgr4 (qku hS.o);have q4:w4.cell? ⟨X.heap.size,2,none⟩=some (.slice A2 rs2.length c2):=hB4.cell 2;have y4:=hB4.frozen 2))
      all_goals go_wp2
      all_goals exact ⟨⟨k+1,by omega,by go_num,hNx.out _ _ _ _ _ _ (b6.alloc b6.size _) (o6.alloc _) hown4 hgr4 hbel4⟩,by simp [intOf];omega⟩
    ·obtain rfl:bn=false:=hbn.out.trans (Lk hin);clear hbn;have hT:TrH X W Hh vr vc vis rs2 A2 c2 k f wc x.l x.A x.l.length x.cap:=.mk hS (hRG x hxg) rfl L0 (by rw [hfk.out,HRS.out,if_neg hin,hxl.out]) hr2.out;clear hin hxl hRG;obtain ⟨hS,hTr,hNx⟩:=hT;replace hTr:=Lh hTr;replace hNx:=Lh hNx;obtain ⟨o0,o1,o2,o3,o4,o5⟩:=qw hS.o.blk;dsimp only at o0 o1 o2 o3 o4 o5;have hgl:=hS.o.blk.lt
     go_upto_region 28 with fail
     go_region_law (first
      | (go_simp;go_at_call 83;refine (hTr.out _ ql8).mono ?_;rintro e w2 ⟨A6,c6,rfl,o6,b6⟩;have zb:=b6.size;have z2:=(b6.cell (p:=⟨X.heap.size,2,none⟩) hgl).trans o2;have hR6:=qb hS.o.own.rows b6;have hB6:=hS.o.blk.below b6 hgl;have z3 : ∀ o,(w2.alloc o).cell? ⟨X.heap.size,2,none⟩=some (.slice A2 rs2.length c2):=fun o=>(hB6.alloc o).cell 2)
      | (refine jZ rfl _ _ _ rfl elt_row (X.heap.size+1) _ rfl (by first | exact hR6.alloc _ | exact (hR6.alloc _).drew) _ _ rfl (qe (xs:=[.slice A6 _ c6]) (by rfl) rfl) (by rfl) ?_;intro A4 c4 w4 hown4 hbel4 hgr4 hat4;have hB4:=(hB6.alloc _).grown hgr4 (qku hS.o);have q4:w4.cell? ⟨X.heap.size,2,none⟩=some (.slice A2 rs2.length c2):=hB4.cell 2;have y4:=hB4.frozen 2))
     all_goals go_wp2
     all_goals exact ⟨⟨k+1,by omega,by go_num,hNx.out _ _ _ _ _ _ (b6.alloc b6.size _) (o6.alloc _) hown4 hgr4 hbel4⟩,by simp [intOf];omega⟩
  ·obtain rfl:n=k:=by omega
   have hz1:=hX1.z;obtain ⟨z0,z1,z2,z3,z4,z5,y0,y1,y2,y3,y4,y5⟩:=ZB.facts hz1;obtain ⟨o0,o1,o2,o3,o4,o5⟩:=qw hS.o.blk;dsimp only at o0 o1 o2 o3 o4 o5;have hgl:=hS.o.blk.lt;go_wp2;have hx:=(hS.o.own.set6 (g:=w.heap.size+2) L0 (.int .i64 W) (.int .i64 Hh) (.slice A2 rs2.length c2) (.int .i64 vr) (.int .i64 vc) (.bool vis)).less (N':=w.heap.size) L0;exact bodyPost_ret (results_cell_row rfl _ _ (w.heap.size+2) 24 _ (0,0) _ rfl (ZB.set6 hz1 ⟨W,Hh,rls rs2,vr,vc,vis⟩ A2 rs2.length c2) underlying24 rfl (by kernel_rfl)) rfl ⟨qap hX1.bel L0 _ _ _ _ _ _,.inl ⟨A2,rs2.length,c2,rs2,rfl,hx.rows2 hr2.out.symm⟩⟩
end
theorem take_min (l:List Gl) (j:Nat):l.take (min j l.length)=l.take j:=by
 rw [<- List.take_take,List.take_length]
theorem pad_take (l:List Gl) (j:Nat):qam (l.take j) j=l.take j++List.replicate (j-l.length) spG:=by
 unfold qam;rw [Lu]
 congr 2
 omega
def SpM (B0:Nat) (wr:World) (l:List Gl) (A9:Option Addr) (m c9:Nat) (wz:World):Prop:=m=l.length/\wz.ownsRow B0 64 3 (.slice A9 m c9) m (qi l)/\Below wr.heap.size wr wz/\B0=wr.heap.size
section
variable {W Hh : Int} {rows : List (List Gl)} {vr vc : Int} {vis : Bool} {A : Option Addr} {n c B : Nat} {rs : List RowM} {w : World} {row col count til : Int} {g : List Gl} {Ag : Option Addr} {cap : Nat}
theorem qkC (rd:RdV w B ⟨W,Hh,rows,vr,vc,vis⟩ A n c rs) (hB:B<=w.heap.size) (hn:n<=1000) (hr:0<=row/\row<=Hh-1/\0<=col/\col<=264/\0<=count/\(count=0∨col+count<=((rows.getD row.toNat []).length:Int))) (hlen:(rows.length:Int)=Hh) (hrl : ∀ x∈rs,x.l.length<=100000000) (rg:Rd w B 3 Ag g.length (qi g)) (hgl:g.length<=100000000) (hgc:g.length<=cap) (hcm:cap<=maxLen) :
  Calls prog 47 #[.agg (vwC ⟨W,Hh,rows,vr,vc,vis⟩ A n c),jH ⟨3,row,col,count,til,g⟩ Ag cap] w (StR ⟨W,Hh,rows,vr,vc,vis⟩ A n c ⟨W,Hh,(List.range n).map fun i=>zI (qkw ⟨W,Hh,rows,vr,vc,vis⟩ ⟨3,row,col,count,til,g⟩ i),vr,vc,vis⟩ w):=by
 obtain ⟨r,rfl⟩ : ∃ r:Nat,row=r:=⟨row.toNat,by omega⟩
 obtain ⟨j,rfl⟩ : ∃ j:Nat,col=j:=⟨col.toNat,by omega⟩
 obtain ⟨q,rfl⟩ : ∃ q:Nat,count=q:=⟨count.toNat,by omega⟩
 obtain ⟨-,-,-,hj,-,hjq⟩:=hr;rw [Int.toNat_natCast] at hjq;have HRow:=Lh (qkK rd hB hrl);have HRS:Hid (∀ k:Nat,qkw ⟨W,Hh,rows,vr,vc,vis⟩ ⟨3,r,j,q,til,g⟩ k=if (k:Int)=(r:Int) then zV (rows.getD k []) j q g else rows.getD k []):=Lh fun k=>by
  unfold qkw;rw [if_neg (show ¬ (3:Int)=2 by decide)]
  rfl
 obtain ⟨f,hf⟩ : ∃ f:Nat->List Gl,f=fun i=>zI (qkw ⟨W,Hh,rows,vr,vc,vis⟩ ⟨3,r,j,q,til,g⟩ i):=⟨_,rfl⟩
 have hfk:Hid (∀ k,f k=zI (qkw ⟨W,Hh,rows,vr,vc,vis⟩ ⟨3,r,j,q,til,g⟩ k)):=Lh fun k=>by rw [hf]
 rw [<- hf];have hRg:=Lh (rg.more hB);replace hjq:=Lh hjq;clear hf rd hrl rg;dsimp only at HRow;have hn9:(n:Int)<=9223372036854775807:=by omega
 have hc9:(cap:Int)<=9223372036854775807:=by unfold maxLen at hcm;omega
 go_enter func47,ntmps47
 go_upto_region 1 with fail
 refine qa (StB w ⟨W,Hh,rows,vr,vc,vis⟩ A n c ⟨3,(r:Int),(j:Int),(q:Int),til,g⟩ Ag cap) (StB.new w ⟨W,Hh,rows,vr,vc,vis⟩ A n c ⟨3,(r:Int),(j:Int),(q:Int),til,g⟩ Ag cap) ?_;intro X hX;obtain ⟨e0,e1,e2,e3,e4,e5⟩:=qw (StB.v hX);obtain ⟨d0,d1,d2,d3,d4,d5,-⟩:=qV (StB.c hX);dsimp only at e0 e1 e2 e3 e4 e5 d0 d1 d2 d3 d4 d5;have hlX:=hX.z.lt
 go_upto_region 4 with fail
 refine qa (fun Y=>Blk Y X.heap.size 24 (vwC ⟨W,Hh,rows,vr,vc,vis⟩ A n c)/\Below X.heap.size X Y) ⟨Blk.new_ rfl,L5⟩ ?_;rintro Y ⟨hY,hbY⟩;have hX1:=hX.on hbY hlX;clear e0 e1 e2 e3 e4 e5 d0 d1 d2 d3 d4 d5;obtain ⟨e0,e1,e2,e3,e4,e5⟩:=qw (StB.v hX1);obtain ⟨d0,d1,d2,d3,d4,d5,-⟩:=qV (StB.c hX1);dsimp only at e0 e1 e2 e3 e4 e5 d0 d1 d2 d3 d4 d5;have f2:=hY.frozen 2;obtain ⟨o0,o1,o2,o3,o4,o5⟩:=qw hY
 go_upto_region 10 with fail
 refine qa (NwS X W Hh vr vc vis [] none 0) ⟨⟨hY.set_ 2 _,⟨zY _ _ _ _,fun x hx=>(by cases hx),rfl⟩,Nat.lt_succ_self _⟩,hbY.setCell (p:=⟨X.heap.size,2,none⟩) (Ld _) _⟩ ?_;clear e0 e1 e2 e3 e4 e5 d0 d1 d2 d3 d4 d5 o0 o1 o2 o3 o4 o5 f2 hX1 hY hbY;clear Y;intro Y hS;go_wp2
 go_loopw [6] (fun x wr=>∃ k:Nat,k<=n/\x = .int .i64 k/\∃ rs2 A2 c2,Hid (rls rs2=(List.range k).map f)/\NwS X W Hh vr vc vis rs2 A2 c2 wr) (fun x _=>n-(intOf x).toNat)
 case atStart=>exact ⟨0,Nat.zero_le _,rfl,[],none,0,Lh rfl,hS⟩
 case round =>
  clear hS;obtain ⟨k,hk,rfl,rs2,A2,c2,hr2,hS⟩:=hrel;have hX1:=hX.on hS.old hlX;obtain ⟨e0,e1,e2,e3,e4,e5⟩:=qw (StB.v hX1);obtain ⟨d0,d1,d2,d3,d4,d5,-⟩:=qV (StB.c hX1);dsimp only at e0 e1 e2 e3 e4 e5 d0 d1 d2 d3 d4 d5
  by_cases hlt:k<n
  ·obtain ⟨x,hxl,hxg,hxn,hx1,-⟩:=HRow.out k;replace hxl:=Lh hxl;obtain ⟨b,o,rfl,hbl,hcell⟩:=hx1 hlt;have hcx:=(hX1.bel.cell (p:=⟨b,o+k,none⟩) hbl).trans hcell;have hki:(k:Int)<n:=by omega
   have hl2:rs2.length<=1000:=by
    have:=congrArg List.length hr2.out;rw [vJ,Lq,List.length_range] at this
    omega
   have hbw:=hX1.bel;have hRG:RdG wr wr.heap.size x:=(hxg.below hbw).more hbw.size;clear hx1 hxg
   by_cases hkr:k=r
   ·subst hkr;have hrr:((k:Int)==(k:Int))=true:=Lw _;have hT : ∀ wz A9 m c9,SpM wr.heap.size wr (zV x.l j q g) A9 m c9 wz->TrH X W Hh vr vc vis rs2 A2 c2 k f wz (zV x.l j q g) A9 m c9:=fun wz A9 m c9 ⟨h1,h2,h3,_⟩=>by
     subst h1;refine .mk (hS.on h3) (qe8 (qt h2 (Nat.zero_le _))) rfl ?_ (by rw [hfk.out,HRS.out,if_pos rfl,<- hxl.out]) hr2.out;unfold zV;simp only [Lf,Lu,List.length_replicate,List.length_drop]
     omega
    replace hT:=Lh hT;have hjq2:q=0∨j+q<=x.l.length:=by have:=hjq.out;rw [<- hxl.out] at this;omega
    obtain ⟨l,Al,cl⟩:=x;dsimp only at *
    have hcl63:(cl:Int)<=9223372036854775807:=by have:=hRG.2.2;unfold maxLen at this;dsimp only at this;omega
    have hlc:l.length<=cl:=hRG.2.1;have hmn:min (j:Int) (l.length:Int)=((min j l.length:Nat):Int):=by omega
    obtain ⟨M,hM⟩ : ∃ M,M=min j l.length:=⟨_,rfl⟩
    rw [<- hM] at hmn;have hM1:M<=l.length:=by omega
    have hM2:M<=j:=by omega
    have hM3:M<=cl:=by omega
    have hMl:Hid (l.take M=l.take j):=Lh (by rw [hM,take_min]);have hMk:Hid ((l.take j).length=M):=Lh (by rw [hM,Lu]);have hTk:=hRG.1.take hM1;rw [<- kM,hMl.out] at hTk;have hRGl:=Lh hRG.1;clear hM hRG;obtain ⟨wo,rfl⟩ : ∃ y:World,y=wr:=⟨_,rfl⟩
    go_wp2_with (at_builtin;go_must (refine qg rfl _ _ _ rfl qbz (wo.heap.size) _ rfl ((zY _ _ _ _)) _ _ rfl (hTk) ?_);intro A9 c9 w9 hown9 hbel9 hgr9 hat9;have z9:=hbel9.size;(try simp only [Li] at z9);(try simp only [Lo,Lg] at hown9))
    have hI:SpM wo.heap.size wo (qam (l.take j) M) A9 M c9 w9:=by
     have e:=qkE (l.take j);rw [hMk.out] at e;exact ⟨by rw [e,hMk.out],by rw [e];exact hown9,hbel9,rfl⟩
    clear hown9 hbel9 hgr9 hat9 z9 hTk hmn hcx e0 e1 e2 e3 e4 e5 d0 d1 d2 d3 d4 d5 hX1
    go_loopw [9] (fun v wz=>∃ m A9 c9,M<=m/\m<=j/\v = .slice A9 m c9/\SpM wo.heap.size wo (qam (l.take j) m) A9 m c9 wz) (fun v _=>j-qdq v)
    case atStart=>exact ⟨M,A9,c9,Ld _,hM2,rfl,hI⟩
    case round =>
     clear hI;obtain ⟨m,A9,c9,hm1,hm2,rfl,hsm,ho,hbz,-⟩:=hrel;replace hsm:=Lh hsm;have hX2:=hX.on (hS.on hbz).old hlX;have hzz:=hbz.size;obtain ⟨e0,e1,e2,e3,e4,e5⟩:=qw (StB.v hX2);obtain ⟨d0,d1,d2,d3,d4,d5,-⟩:=qV (StB.c hX2);dsimp only at e0 e1 e2 e3 e4 e5 d0 d1 d2 d3 d4 d5
     by_cases hmj:m<j
     ·go_wp2_with (at_builtin;go_must (refine qg rfl _ _ _ rfl qbz wo.heap.size _ rfl (ho.alloc _) _ _ rfl (qe (xs:=ym spG) (by rfl) rfl) ?_);intro A5 c5 w5 hown5 hbel5 hgr5 hat5)
      have hp:=qkG (l.take j) (m:=m) (by have:=hMk.out;omega);exact ⟨⟨m+1,A5,c5,by omega,by omega,rfl,by rw [hp,Lf,<- hsm.out];rfl,by rw [hp,kF];simpa [qi] using hown5,((hbz.alloc hzz _).trans hbel5),rfl⟩,by simp only [qdq];omega⟩
     ·obtain rfl:j=m:=by omega
      rw [pad_take] at ho;clear hsm hmj
      go_upto_region 25 with (at_builtin;go_must (refine qg rfl _ _ _ rfl qbz (wo.heap.size) _ rfl (ho) _ _ rfl ((hRg.out.below hX2.bel)) ?_);intro A8 c8 w8 hown8 hbel8 hgr8 hat8;have z8:=hbel8.size;(try simp only [Li] at z8);(try simp only [Lo,Lg] at hown8))
      have hb8:=hbz.trans hbel8;have hX3:=hX.on (hS.on hb8).old hlX;clear e0 e1 e2 e3 e4 e5 d0 d1 d2 d3 d4 d5 hX2 hgr8 hat8 hbel8 ho hbz;obtain ⟨e0,e1,e2,e3,e4,e5⟩:=qw (StB.v hX3);obtain ⟨d0,d1,d2,d3,d4,d5,-⟩:=qV (StB.c hX3);dsimp only at e0 e1 e2 e3 e4 e5 d0 d1 d2 d3 d4 d5
      by_cases hjl:j<l.length
      ·have hw:IntKind.i64.wrap ((j:Int)+q)=(j:Int)+q:=by rw [Lx];omega
       obtain ⟨t,ht⟩ : ∃ t,t=j+q:=⟨_,rfl⟩
       have hti:(j:Int)+q=t:=by omega
       rw [hti] at hw;have htl:t<=l.length:=by omega
       have hcut:=(((hRGl.out.below hb8).cut (k:=t) (cap:=cl) htl hlc))
       rw [<- qbO] at hcut;replace ht:=Lh ht;have hll:(l.length:Int)<=cl:=by omega
       go_upto_region 28 with (at_builtin;go_must (refine qg rfl _ _ _ rfl qbz (wo.heap.size) _ rfl (hown8) _ _ rfl (hcut) ?_);intro A7 c7 w7 hown7 hbel7 hgr7 hat7;have z7:=hbel7.size;(try simp only [Li] at z7);(try simp only [Lo,Lg] at hown7))
       have hT2:=hT.out w7 A7 (j+g.length+(l.length-t)) c7 ⟨by unfold zV;simp only [Lf,Lu,List.length_replicate,List.length_drop];have:=ht.out;omega,by rw [show qi (zV l j q g)=qi (l.take j++List.replicate (j-l.length) spG)++qi g++qi (l.drop t) by rw [ht.out];simp only [zV,kF,List.append_assoc]];exact hown7,hb8.trans hbel7,rfl⟩;clear hown7 hown8 hbel7 hgr7 hat7 hcut hX3 e0 e1 e2 e3 e4 e5 d0 d1 d2 d3 d4 d5 hT hMl hMk hRGl hxl hfk HRS HRow;obtain ⟨hS,hTr,hNx⟩:=hT2;replace hTr:=Lh hTr;replace hNx:=Lh hNx;obtain ⟨o0,o1,o2,o3,o4,o5⟩:=qw hS.o.blk;dsimp only at o0 o1 o2 o3 o4 o5;have hgl:=hS.o.blk.lt
       go_upto_region 28 with fail
       go_region_law (first
        | (go_simp;go_at_call 83;refine (hTr.out _ ql8).mono ?_;rintro e w2 ⟨A6,c6,rfl,o6,b6⟩;have zb:=b6.size;have z2:=(b6.cell (p:=⟨X.heap.size,2,none⟩) hgl).trans o2;have hR6:=qb hS.o.own.rows b6;have hB6:=hS.o.blk.below b6 hgl;have z3 : ∀ o,(w2.alloc o).cell? ⟨X.heap.size,2,none⟩=some (.slice A2 rs2.length c2):=fun o=>(hB6.alloc o).cell 2)
        | (refine jZ rfl _ _ _ rfl elt_row (X.heap.size+1) _ rfl (by first | exact hR6.alloc _ | exact (hR6.alloc _).drew) _ _ rfl (qe (xs:=[.slice A6 _ c6]) (by rfl) rfl) (by rfl) ?_;intro A4 c4 w4 hown4 hbel4 hgr4 hat4;have hB4:=(hB6.alloc _).grown hgr4 (qku hS.o);have q4:w4.cell? ⟨X.heap.size,2,none⟩=some (.slice A2 rs2.length c2):=hB4.cell 2;have y4:=hB4.frozen 2))
       all_goals go_wp2
       all_goals exact ⟨⟨k+1,by omega,by go_num,hNx.out _ _ _ _ _ _ (b6.alloc b6.size _) (o6.alloc _) hown4 hgr4 hbel4⟩,by simp [intOf];omega⟩
      ·have hT2:=hT.out w8 A8 (j+g.length) c8 ⟨by unfold zV;simp only [Lf,Lu,List.length_replicate,List.length_drop];omega,by rw [show qi (zV l j q g)=qi (l.take j++List.replicate (j-l.length) spG)++qi g by rw [zV,Lv L0,List.append_nil,kF]];exact hown8,hb8,rfl⟩
       go_upto_region 28 with fail
       clear hown8 hX3 e0 e1 e2 e3 e4 e5 d0 d1 d2 d3 d4 d5 hT hMl hMk hRGl hxl hfk HRS HRow;obtain ⟨hS,hTr,hNx⟩:=hT2;replace hTr:=Lh hTr;replace hNx:=Lh hNx;obtain ⟨o0,o1,o2,o3,o4,o5⟩:=qw hS.o.blk;dsimp only at o0 o1 o2 o3 o4 o5;have hgl:=hS.o.blk.lt
       go_upto_region 28 with fail
       go_region_law (first
        | (go_simp;go_at_call 83;refine (hTr.out _ ql8).mono ?_;rintro e w2 ⟨A6,c6,rfl,o6,b6⟩;have zb:=b6.size;have z2:=(b6.cell (p:=⟨X.heap.size,2,none⟩) hgl).trans o2;have hR6:=qb hS.o.own.rows b6;have hB6:=hS.o.blk.below b6 hgl;have z3 : ∀ o,(w2.alloc o).cell? ⟨X.heap.size,2,none⟩=some (.slice A2 rs2.length c2):=fun o=>(hB6.alloc o).cell 2)
        | (refine jZ rfl _ _ _ rfl elt_row (X.heap.size+1) _ rfl (by first | exact hR6.alloc _ | exact (hR6.alloc _).drew) _ _ rfl (qe (xs:=[.slice A6 _ c6]) (by rfl) rfl) (by rfl) ?_;intro A4 c4 w4 hown4 hbel4 hgr4 hat4;have hB4:=(hB6.alloc _).grown hgr4 (qku hS.o);have q4:w4.cell? ⟨X.heap.size,2,none⟩=some (.slice A2 rs2.length c2):=hB4.cell 2;have y4:=hB4.frozen 2))
       all_goals go_wp2
       all_goals exact ⟨⟨k+1,by omega,by go_num,hNx.out _ _ _ _ _ _ (b6.alloc b6.size _) (o6.alloc _) hown4 hgr4 hbel4⟩,by simp [intOf];omega⟩
   ·have hrr:((k:Int)==(r:Int))=false:=Lm.2 L0;have hT:TrH X W Hh vr vc vis rs2 A2 c2 k f wr x.l x.A x.l.length x.cap:=.mk hS hRG rfl L0 (by rw [hfk.out,HRS.out,if_neg L0,hxl.out]) hr2.out;clear hxl hRG hkr;obtain ⟨hS,hTr,hNx⟩:=hT;replace hTr:=Lh hTr;replace hNx:=Lh hNx;obtain ⟨o0,o1,o2,o3,o4,o5⟩:=qw hS.o.blk;dsimp only at o0 o1 o2 o3 o4 o5;have hgl:=hS.o.blk.lt
    go_upto_region 28 with fail
    go_region_law (first
     | (go_simp;go_at_call 83;refine (hTr.out _ ql8).mono ?_;rintro e w2 ⟨A6,c6,rfl,o6,b6⟩;have zb:=b6.size;have z2:=(b6.cell (p:=⟨X.heap.size,2,none⟩) hgl).trans o2;have hR6:=qb hS.o.own.rows b6;have hB6:=hS.o.blk.below b6 hgl;have z3 : ∀ o,(w2.alloc o).cell? ⟨X.heap.size,2,none⟩=some (.slice A2 rs2.length c2):=fun o=>(hB6.alloc o).cell 2)
     | (refine jZ rfl _ _ _ rfl elt_row (X.heap.size+1) _ rfl (by first | exact hR6.alloc _ | exact (hR6.alloc _).drew) _ _ rfl (qe (xs:=[.slice A6 _ c6]) (by rfl) rfl) (by rfl) ?_;intro A4 c4 w4 hown4 hbel4 hgr4 hat4;have hB4:=(hB6.alloc _).grown hgr4 (qku hS.o);have q4:w4.cell? ⟨X.heap.size,2,none⟩=some (.slice A2 rs2.length c2):=hB4.cell 2;have y4:=hB4.frozen 2))
    all_goals go_wp2
    all_goals exact ⟨⟨k+1,by omega,by go_num,hNx.out _ _ _ _ _ _ (b6.alloc b6.size _) (o6.alloc _) hown4 hgr4 hbel4⟩,by simp [intOf];omega⟩
  ·obtain rfl:n=k:=by omega
   have hz1:=hX1.z;obtain ⟨z0,z1,z2,z3,z4,z5,y0,y1,y2,y3,y4,y5⟩:=ZB.facts hz1;obtain ⟨o0,o1,o2,o3,o4,o5⟩:=qw hS.o.blk;dsimp only at o0 o1 o2 o3 o4 o5;have hgl:=hS.o.blk.lt;go_wp2;have hx:=(hS.o.own.set6 (g:=w.heap.size+2) L0 (.int .i64 W) (.int .i64 Hh) (.slice A2 rs2.length c2) (.int .i64 vr) (.int .i64 vc) (.bool vis)).less (N':=w.heap.size) L0;exact bodyPost_ret (results_cell_row rfl _ _ (w.heap.size+2) 24 _ (0,0) _ rfl (ZB.set6 hz1 ⟨W,Hh,rls rs2,vr,vc,vis⟩ A2 rs2.length c2) underlying24 rfl (by kernel_rfl)) rfl ⟨qap hX1.bel L0 _ _ _ _ _ _,.inl ⟨A2,rs2.length,c2,rs2,rfl,hx.rows2 hr2.out.symm⟩⟩
end
end Go.Proofs.YtbogmeeijdaijaaGreatDoor
