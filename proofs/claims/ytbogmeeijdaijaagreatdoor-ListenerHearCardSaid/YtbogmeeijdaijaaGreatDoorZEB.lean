/- Joined: Ra0, Ra1. -/
import Derived.Test.YtbogmeeijdaijaaGreatDoorZAP
import Derived.Test.YtbogmeeijdaijaaGreatDoorZDX
set_option linter.unusedVariables false
set_option linter.unusedSimpArgs false
set_option linter.unnecessarySimpa false
set_option maxHeartbeats 4000000
namespace Go.Proofs.YtbogmeeijdaijaaGreatDoor
open Go.Proofs.Tryz Go.RowKit
set_option maxRecDepth 20000
def qkw (v:Vw) (c:Chg) (i:Nat):List Gl:=if c.kind=2 then kP v.rows c.row c.til c.count i else if (i:Int)=c.row then zV (v.rows.getD i []) c.col.toNat c.count.toNat c.glyphs else v.rows.getD i []
theorem qkU {v:Vw} {c:Chg} (hk:c.kind=2∨c.kind=3) (hr:zh v c=true) (ht:TrimR v.rows) (hl:(v.rows.length:Int)=v.height) :
  jY v c=⟨v.width,v.height,(List.range v.rows.length).map fun i=>zI (qkw v c i),v.row,v.col,v.vis⟩:=by
 rcases hk with hk | hk
 ·unfold jY;rw [if_neg L0,if_pos hk]
  congr 1
  refine List.map_congr_left fun i _=>?_
  unfold qkw;rw [if_pos hk];unfold kP
  split
  ·split
   ·exact (qjs ht _).symm
   ·rfl
  ·exact (qjs ht _).symm
 ·unfold zh at hr;rw [if_neg L0,if_neg L0,if_pos hk,decide_eq_true_iff] at hr;unfold jY;rw [if_neg L0,if_neg L0,if_pos hk]
  congr 1
  refine List.ext_getElem L1 fun i h1 h2=>?_
  rw [List.length_set] at h1;rw [List.getElem_set,List.getElem_map,List.getElem_range];unfold qkw;rw [if_neg (show ¬ c.kind=2 by omega)]
  by_cases h:c.row.toNat=i
  ·rw [if_pos h,if_pos L0,h]
  ·rw [if_neg h,if_neg L0,qjs ht];simp [h1]
def XV (B N:Nat) (X:World) (v:Vw) (A:Option Addr) (n c:Nat) (rs:List RowM):Prop:=RdV X B v A n c rs∨OwV N X v A n c rs
section
variable {B N B' N' n c : Nat} {X X' : World} {v v' : Vw} {A : Option Addr} {rs : List RowM}
theorem XV.rdV (h:XV B N X v A n c rs) (hB:B<=X.heap.size):RdV X X.heap.size v A n c rs:=h.elim (fun h=>h.more hB) OwV.rdV
theorem XV.below (h:XV B N X v A n c rs) (hB:B<=X.heap.size) (hb:Below X.heap.size X X'):XV B N X' v A n c rs:=h.elim (fun h=>.inl (h.below (hb.mono hB))) fun h=>.inr (h.below hb)
theorem XV.less (h:XV B N X v A n c rs) (hn:N'<=N):XV B N' X v A n c rs:=h.elim .inl fun h=>.inr (h.less hn)
theorem XV.more (h:XV B N X v A n c rs) (hn:B<=B'):XV B' N X v A n c rs:=h.elim (fun h=>.inl (h.more hn)) .inr
theorem XV.far (h:XV B N X v A n c rs) {p:Addr} (h1:B<=p.block) (h2:p.block<N) (u:Value):XV B N (X.setCell p u) v A n c rs :=
 h.elim (fun h=>.inl (h.below ((Le B X).setCell h1 u))) fun h=>.inr (h.far h2 u)
theorem XV.rows (h:XV B N X v A n c rs) (e:v'.rows=v.rows):XV B N X v' A n c rs :=
 h.elim (fun h=>.inl ⟨h.1,by rw [e];exact h.2.1,h.2.2⟩) fun h=>.inr ⟨h.rows,h.gl,by rw [e];exact h.eq⟩
theorem XV.eq (h:XV B N X v A n c rs):v.rows=rls rs:=h.elim (fun h=>h.2.1) OwV.eq
theorem XV.cap (h:XV B N X v A n c rs):n<=c/\c<=maxLen:=h.elim (fun h=>h.2.2) fun h=>yd h.rows
theorem XV.set6 (h:XV B N X v A n c rs) {g:Nat} (h1:B<=g) (h2:g<N) (u0 u1 u2 u3 u4 u5:Value):XV B N ((((((X.setCell ⟨g,0,none⟩ u0).setCell ⟨g,1,none⟩ u1).setCell ⟨g,2,none⟩ u2).setCell ⟨g,3,none⟩ u3).setCell ⟨g,4,none⟩ u4).setCell ⟨g,5,none⟩ u5) v A n c rs :=
 (((((h.far (p:=⟨g,0,none⟩) h1 h2 _).far (p:=⟨g,1,none⟩) h1 h2 _).far (p:=⟨g,2,none⟩) h1 h2 _).far (p:=⟨g,3,none⟩) h1 h2 _).far (p:=⟨g,4,none⟩) h1 h2 _).far (p:=⟨g,5,none⟩) h1 h2 _
end
theorem OwV.set6 {N n c g:Nat} {X:World} {v:Vw} {A:Option Addr} {rs:List RowM} (h:OwV N X v A n c rs) (h2:g<N) (u0 u1 u2 u3 u4 u5:Value):OwV N ((((((X.setCell ⟨g,0,none⟩ u0).setCell ⟨g,1,none⟩ u1).setCell ⟨g,2,none⟩ u2).setCell ⟨g,3,none⟩ u3).setCell ⟨g,4,none⟩ u4).setCell ⟨g,5,none⟩ u5) v A n c rs :=
 (((((h.far (p:=⟨g,0,none⟩) h2 _).far (p:=⟨g,1,none⟩) h2 _).far (p:=⟨g,2,none⟩) h2 _).far (p:=⟨g,3,none⟩) h2 _).far (p:=⟨g,4,none⟩) h2 _).far (p:=⟨g,5,none⟩) h2 _
theorem OwV.rows2 {N n c:Nat} {X:World} {v v':Vw} {A:Option Addr} {rs:List RowM} (h:OwV N X v A n c rs) (e:v'.rows=v.rows):OwV N X v' A n c rs:=⟨h.rows,h.gl,by rw [e];exact h.eq⟩
theorem qkx {W:World} {b b' s s' n n':Nat} {e e':TypeId} {v v':Value} {xs xs':List Value} (h:W.ownsRow b e s v n xs) (h':W.ownsRow b' e' s' v' n' xs') (he:e≠e'):v.ownBlock=none∨v.ownBlock≠v'.ownBlock:=by
 rcases h.2 with ⟨rfl,_⟩ | ⟨g,cap,cur,rfl,_,hgb,_⟩
 ·exact .inl rfl
 ·rcases h'.2 with ⟨rfl,_⟩ | ⟨g',cap',cur',rfl,_,hgb',_⟩
  ·exact .inr (by simp [Value.ownBlock])
  ·refine .inr fun e1=>?_
   obtain rfl:g=g':=by simpa [Value.ownBlock] using e1
   rw [hgb] at hgb'
   simp at hgb'
   exact he hgb'.2
structure OutV (g N:Nat) (W H r cl:Int) (vs:Bool) (rs:List RowM) (A:Option Addr) (c:Nat) (X:World):Prop where
 blk:Blk X g 24 (vwC ⟨W,H,rls rs,r,cl,vs⟩ A rs.length c)
 own:OwV N X ⟨W,H,rls rs,r,cl,vs⟩ A rs.length c rs
 lt:g<N
section
variable {g N c c4 c6 : Nat} {W H r cl : Int} {vs : Bool} {rs : List RowM} {A A4 A6 : Option Addr} {X X' w1 w4 : World} {l : List Gl}
theorem OutV.below (h:OutV g N W H r cl vs rs A c X) (hb:Below X.heap.size X X'):OutV g N W H r cl vs rs A c X':=⟨h.blk.below hb h.blk.lt,h.own.below hb,h.lt⟩
theorem OutV.push (h:OutV g N W H r cl vs rs A c X) (hN:N<=X.heap.size) (hb1:Below X.heap.size X w1) (ho:w1.ownsRow X.heap.size 64 3 (.slice A6 l.length c6) l.length (qi l))
  (hown:w4.ownsRow N 45 1 (.slice A4 (rs.length+1) c4) (rs.length+1) (zQ rs++[.slice A6 l.length c6])) (hgr:w1.grownBy w4 (Value.slice A rs.length c).ownBlock) :
  OutV g N W H r cl vs (rs++[⟨l,A6,c6⟩]) A4 c4 (w4.setCell ⟨g,2,none⟩ (.slice A4 (rs.length+1) c4)):=by
 have h1:=h.below hb1;have hne:some g≠(Value.slice A rs.length c).ownBlock:=fun e=>by
  rw [qC] at e;have:=(vB h1.own.rows g e.symm).1;have:=h.lt
  omega
 have hB:=(h1.blk.grown hgr hne).set_ 2 (.slice A4 (rs.length+1) c4);have hO:OwV N w4 ⟨W,H,rls (rs++[(⟨l,A6,c6⟩:RowM)]),r,cl,vs⟩ A4 (rs++[(⟨l,A6,c6⟩:RowM)]).length c4 (rs++[(⟨l,A6,c6⟩:RowM)]):=by
  refine ⟨?_,fun x hx=>?_,rfl⟩
  ·rw [Lf,Lz,show zQ (rs++[(⟨l,A6,c6⟩:RowM)])=zQ rs++[.slice A6 l.length c6] by simp [zQ]];exact hown
  ·rcases List.mem_append.1 hx with hx | hx
   ·exact (h1.own.gl x hx).kept hgr (qkx (h1.own.gl x hx) h1.own.rows L2)
   ·obtain rfl:=List.mem_singleton.1 hx;exact (qt ho hN).kept hgr (qkx ho h1.own.rows L2)
 exact ⟨by rw [Lf,Lz];exact hB,hO.far (p:=⟨g,2,none⟩) h.lt _,h.lt⟩
end
structure VcBox (w:World) (v:Vw) (A:Option Addr) (n c:Nat) (ch:Chg) (Ag:Option Addr) (cap:Nat) (X:World):Prop where
 v:Blk X w.heap.size 24 (vwC v A n c)
 c:Blk X (w.heap.size+1) 57 (yG ch Ag cap)
 bel:Below w.heap.size w X
theorem VcBox.new (w:World) (v:Vw) (A:Option Addr) (n c:Nat) (ch:Chg) (Ag:Option Addr) (cap:Nat):VcBox w v A n c ch Ag cap ((w.alloc (.cells (vwC v A n c) 24)).alloc (.cells (yG ch Ag cap) 57)) :=
 ⟨(Blk.new_ rfl).alloc _,Blk.new_ L1,(L5).alloc L1 _⟩
theorem VcBox.on {w:World} {v:Vw} {A:Option Addr} {n c:Nat} {ch:Chg} {Ag:Option Addr} {cap:Nat} {X X':World} (h:VcBox w v A n c ch Ag cap X) (hb:Below X.heap.size X X'):VcBox w v A n c ch Ag cap X' :=
 ⟨h.v.below hb h.v.lt,h.c.below hb h.c.lt,h.bel.trans (hb.mono h.bel.size)⟩
section
variable {W Hh : Int} {rows : List (List Gl)} {vr vc : Int} {vis : Bool} {A : Option Addr} {n c B : Nat} {rs : List RowM} {w : World} {row col count til : Int} {g : List Gl} {Ag : Option Addr} {cap : Nat}
theorem qkM (rd:RdV w B ⟨W,Hh,rows,vr,vc,vis⟩ A n c rs) (hB:B<=w.heap.size) (hlen:(rows.length:Int)=Hh) (hh:1<=Hh/\Hh<=60) (hrl : ∀ x∈rs,x.l.length<=1000000000) (rg:Rd w B 3 Ag g.length (qi g)) (hgl:g.length<=1000000000) (hgz : ∀ x∈g,x.text.size<=1000000000) :
  Calls prog 80 #[.agg (vwC ⟨W,Hh,rows,vr,vc,vis⟩ A n c),jH ⟨3,row,col,count,til,g⟩ Ag cap] w (qh (.int .i64 (qan ⟨W,Hh,rows,vr,vc,vis⟩ ⟨3,row,col,count,til,g⟩)) w):=by
 obtain ⟨E,HE⟩ : ∃ E,Hid (qan ⟨W,Hh,rows,vr,vc,vis⟩ ⟨3,row,col,count,til,g⟩=E):=⟨_,Lh rfl⟩
 have hf:qan ⟨W,Hh,rows,vr,vc,vis⟩ ⟨3,row,col,count,til,g⟩=if til≠0 then 1 else if zh ⟨W,Hh,rows,vr,vc,vis⟩ ⟨3,row,col,count,til,g⟩=false then 2 else yK g:=by
  have hb:zS ⟨3,row,col,count,til,g⟩=decide (til=0):=rfl;unfold qan;rw [if_neg (show ¬ ((3:Int)<1∨(4:Int)<3) by decide),hb]
  by_cases h:til=0 <;> simp [h]
 have hf:=Lh hf;have hrr:=Lh (qai (v:=⟨W,Hh,rows,vr,vc,vis⟩) (row:=row) (col:=col) (count:=count) (til:=til) (g:=g));have hHw:IntKind.i64.wrap (Hh-1)=Hh-1:=by rw [Lx];omega
 have hn:=rd.len;dsimp only at hn
 by_cases h1:til=0
 ·subst h1
  cases z1:inB row 0 (Hh-1) with
  | false =>
   have HE:Hid (qan ⟨W,Hh,rows,vr,vc,vis⟩ ⟨3,row,col,count,0,g⟩=2):=Lh (by
    rw [hf.out,if_neg L1,if_pos];rw [hrr.out];simp only [inB,Bool.and_eq_false_iff,decide_eq_false_iff_not] at z1
    exact Lk (by dsimp only;omega))
   clear hf hrr rd hrl rg hgz
   go_enter func80,ntmps80
   go_upto_region 1 with fail
   refine qa (VcBox w ⟨W,Hh,rows,vr,vc,vis⟩ A n c ⟨3,row,col,count,0,g⟩ Ag cap) (VcBox.new w ⟨W,Hh,rows,vr,vc,vis⟩ A n c ⟨3,row,col,count,0,g⟩ Ag cap) ?_;intro X hX;obtain ⟨e0,e1,e2,e3,e4,e5⟩:=qw hX.v;obtain ⟨d0,d1,d2,d3,d4,d5,-⟩:=qV hX.c;have hb:=hX.bel;dsimp only at e0 e1 e2 e3 e4 e5 d0 d1 d2 d3 d4 d5
   go_wp2_with (go_at_call 81;refine (qks _ _ _ _).mono ?_;rintro e wy ⟨rfl,rfl⟩)
   go_ret;exact ⟨by rw [HE.out];rfl,hb⟩
  | true =>
   have hz1:=z1;simp only [inB,Bool.and_eq_true,decide_eq_true_eq] at hz1
   cases z2:inB col 0 264 with
   | false =>
    have HE:Hid (qan ⟨W,Hh,rows,vr,vc,vis⟩ ⟨3,row,col,count,0,g⟩=2):=Lh (by
     rw [hf.out,if_neg L1,if_pos];rw [hrr.out];simp only [inB,Bool.and_eq_false_iff,decide_eq_false_iff_not] at z2
     exact Lk (by dsimp only;omega))
    clear hf hrr rd hrl rg hgz hz1
    go_enter func80,ntmps80
    go_upto_region 1 with fail
    refine qa (VcBox w ⟨W,Hh,rows,vr,vc,vis⟩ A n c ⟨3,row,col,count,0,g⟩ Ag cap) (VcBox.new w ⟨W,Hh,rows,vr,vc,vis⟩ A n c ⟨3,row,col,count,0,g⟩ Ag cap) ?_;intro X hX;obtain ⟨e0,e1,e2,e3,e4,e5⟩:=qw hX.v;obtain ⟨d0,d1,d2,d3,d4,d5,-⟩:=qV hX.c;have hb:=hX.bel;dsimp only at e0 e1 e2 e3 e4 e5 d0 d1 d2 d3 d4 d5
    go_wp2_with (go_at_call 81;refine (qks _ _ _ _).mono ?_;rintro e wy ⟨rfl,rfl⟩)
    go_ret;exact ⟨by rw [HE.out];rfl,hb⟩
   | true =>
    have hz2:=z2;simp only [inB,Bool.and_eq_true,decide_eq_true_eq] at hz2
    by_cases h3:count<0
    ·have HE:Hid (qan ⟨W,Hh,rows,vr,vc,vis⟩ ⟨3,row,col,count,0,g⟩=2):=Lh (by
      rw [hf.out,if_neg L1,if_pos];rw [hrr.out]
      exact Lk (by dsimp only;omega))
     have hd3:decide (count<0)=true:=Ll h3;clear hf hrr rd hrl rg hgz hz1 hz2
     go_enter func80,ntmps80
     go_upto_region 1 with fail
     refine qa (VcBox w ⟨W,Hh,rows,vr,vc,vis⟩ A n c ⟨3,row,col,count,0,g⟩ Ag cap) (VcBox.new w ⟨W,Hh,rows,vr,vc,vis⟩ A n c ⟨3,row,col,count,0,g⟩ Ag cap) ?_;intro X hX;obtain ⟨e0,e1,e2,e3,e4,e5⟩:=qw hX.v;obtain ⟨d0,d1,d2,d3,d4,d5,-⟩:=qV hX.c;have hb:=hX.bel;dsimp only at e0 e1 e2 e3 e4 e5 d0 d1 d2 d3 d4 d5
     go_wp2_with (go_at_call 81;refine (qks _ _ _ _).mono ?_;rintro e wy ⟨rfl,rfl⟩)
     go_ret;exact ⟨by rw [HE.out];rfl,hb⟩
    ·have hd3:decide (count<0)=false:=Lk h3;obtain ⟨k,rfl⟩ : ∃ k:Nat,row=k:=⟨row.toNat,by omega⟩
     have hkr:k<rs.length:=by have:=rd.1.len;omega
     obtain ⟨b,o,rfl,hbB,hcell⟩:=rd.1.at_ hkr;have hkn:(k:Int)<n:=by omega
     have hl1:=hrl _ (Lt hkr);have hD:(rows.getD ((k:Int).toNat) []).length=rs[k].l.length:=by rw [show rows=rls rs from rd.2.1,Int.toNat_natCast,qa4 hkr]
     have hf2:Hid (qan ⟨W,Hh,rows,vr,vc,vis⟩ ⟨3,(k:Int),col,count,0,g⟩=if (count=0∨col+count<=(rs[k].l.length:Int)) then yK g else 2):=Lh (by
      rw [hf.out,if_neg L1,hrr.out];dsimp only;rw [hD]
      by_cases hq:count=0∨col+count<=(rs[k].l.length:Int)
      ·rw [if_pos hq,if_neg];rw [Ll L0]
       decide
      ·rw [if_neg hq,if_pos (Lk L0)])
     have hn9:(n:Int)<=9223372036854775807:=by have h1:=rd.2.2.1;have h2:=rd.2.2.2;unfold maxLen at h2;omega
     clear hf hrr HE;generalize qan ⟨W,Hh,rows,vr,vc,vis⟩ ⟨3,(k:Int),col,count,0,g⟩=E at *
     have hcell':=Lh hcell;clear rd hrl hcell hD;generalize rs[k].l.length=q at *
     generalize rs[k].A=Aq at *
     generalize rs[k].cap=cq at *
     have hqc:IntKind.i64.wrap ((q:Int)-col)=(q:Int)-col:=by rw [Lx];omega
     by_cases hc1:col<=(q:Int)
     ·have b1:decide (col<=(q:Int))=true:=Ll hc1;have b2:decide ((q:Int)<col)=false:=Lk L0
      by_cases hc2:(q:Int)-col<count
      ·have b3:decide ((q:Int)-col<count)=true:=Ll hc2;have HE:Hid (E=2):=Lh (by rw [hf2.out,if_neg L0]);clear hf2 rg hgz hz1 hz2 hc1 hc2 h3
       go_enter func80,ntmps80
       go_upto_region 1 with fail
       refine qa (VcBox w ⟨W,Hh,rows,vr,vc,vis⟩ (some ⟨b,o,none⟩) n c ⟨3,(k:Int),col,count,0,g⟩ Ag cap) (VcBox.new w ⟨W,Hh,rows,vr,vc,vis⟩ (some ⟨b,o,none⟩) n c ⟨3,(k:Int),col,count,0,g⟩ Ag cap) ?_;intro X hX;obtain ⟨e0,e1,e2,e3,e4,e5⟩:=qw hX.v;obtain ⟨d0,d1,d2,d3,d4,d5,-⟩:=qV hX.c;have hb:=hX.bel;dsimp only at e0 e1 e2 e3 e4 e5 d0 d1 d2 d3 d4 d5;have hcl:=(hb.cell (p:=⟨b,o+k,none⟩) L7).trans hcell'.out
       go_wp2_with (go_at_call 81;refine (qks _ _ _ _).mono ?_;rintro e wy ⟨rfl,rfl⟩)
       go_ret;exact ⟨by rw [HE.out];rfl,hb⟩
      ·have b3:decide ((q:Int)-col<count)=false:=Lk hc2;have HE:Hid (E=yK (g.drop 0)):=Lh (by rw [hf2.out,if_pos L0];rfl);clear hf2 hz1 hz2 hc1 hc2 h3
       go_enter func80,ntmps80
       go_upto_region 1 with fail
       refine qa (VcBox w ⟨W,Hh,rows,vr,vc,vis⟩ (some ⟨b,o,none⟩) n c ⟨3,(k:Int),col,count,0,g⟩ Ag cap) (VcBox.new w ⟨W,Hh,rows,vr,vc,vis⟩ (some ⟨b,o,none⟩) n c ⟨3,(k:Int),col,count,0,g⟩ Ag cap) ?_;intro X hX;obtain ⟨e0,e1,e2,e3,e4,e5⟩:=qw hX.v;obtain ⟨d0,d1,d2,d3,d4,d5,-⟩:=qV hX.c;have hb:=hX.bel;dsimp only at e0 e1 e2 e3 e4 e5 d0 d1 d2 d3 d4 d5;have hcl:=(hb.cell (p:=⟨b,o+k,none⟩) L7).trans hcell'.out
       go_wp2_with (go_at_call 81;refine (qks _ _ _ _).mono ?_;rintro e wy ⟨rfl,rfl⟩)
       clear e0 e1 e2 e3 e4 e5 d0 d1 d2 d3 d4 d5 hcl
       go_loopw [6] (fun y wr=>∃ j:Nat,j<=g.length/\y = .int .i64 j/\VcBox w ⟨W,Hh,rows,vr,vc,vis⟩ (some ⟨b,o,none⟩) n c ⟨3,(k:Int),col,count,0,g⟩ Ag cap wr/\Hid (E=yK (g.drop j))) (fun y _=>g.length-(intOf y).toNat)
       case atStart=>exact ⟨0,Nat.zero_le _,rfl,hX,HE⟩
       case round =>
        clear hX hb HE;obtain ⟨j,hj,rfl,hX,HJ⟩:=hrel;obtain ⟨e0,e1,e2,e3,e4,e5⟩:=qw hX.v;obtain ⟨d0,d1,d2,d3,d4,d5,-⟩:=qV hX.c;have hb:=hX.bel;dsimp only at e0 e1 e2 e3 e4 e5 d0 d1 d2 d3 d4 d5
        by_cases hlj:j<g.length
        ·obtain ⟨b',o',rfl,hbB',g0,g1,g2⟩:=jE ((rg.more hB).below hb) hlj rfl;have HVj:=Lh fun w'=>qky g[j] (hgz _ (Lt hlj)) w'
         have HJ2:=HJ.out;rw [qdN hlj] at HJ2;clear hgz rg;generalize g[j]=x at *
         by_cases h0:qJ x=0
         ·rw [if_neg (show ¬ qJ x≠0 by simp [h0])] at HJ2;replace HJ2:=Lh HJ2;rw [h0] at HVj;clear h0;obtain ⟨t,wd,st⟩:=x;dsimp only at *
          go_wp2_with (go_at_call 53;refine (HVj.out _).mono ?_;rintro e w1 ⟨rfl,hb1⟩)
          exact ⟨⟨j+1,by omega,by go_num,hX.on hb1,HJ2⟩,by simp [intOf];omega⟩
         ·rw [if_pos (show qJ x≠0 from h0)] at HJ2;replace HJ2:=Lh HJ2;have hn0:(qJ x != 0)=true:=Ln.2 h0;clear h0;generalize hq:qJ x=K at *
          clear hq;obtain ⟨t,wd,st⟩:=x;dsimp only at *
          go_wp2_with (go_at_call 53;refine (HVj.out _).mono ?_;rintro e w1 ⟨rfl,hb1⟩)
          go_ret;exact ⟨by rw [HJ2.out];rfl,(hX.on hb1).bel⟩
        ·obtain rfl:j=g.length:=by omega
         have HJ2:Hid (E=0):=Lh (by rw [HJ.out,Lv (Ld _)];rfl);clear HJ;go_wp2;go_ret;exact ⟨by rw [HJ2.out];rfl,hb⟩
     ·have b1:decide (col<=(q:Int))=false:=Lk hc1;have b2:decide ((q:Int)<col)=true:=Ll L0
      by_cases hc2:0<count
      ·have b3:decide (0<count)=true:=Ll hc2;have HE:Hid (E=2):=Lh (by rw [hf2.out,if_neg L0]);clear hf2 rg hgz hz1 hz2 hc1 hc2 h3
       go_enter func80,ntmps80
       go_upto_region 1 with fail
       refine qa (VcBox w ⟨W,Hh,rows,vr,vc,vis⟩ (some ⟨b,o,none⟩) n c ⟨3,(k:Int),col,count,0,g⟩ Ag cap) (VcBox.new w ⟨W,Hh,rows,vr,vc,vis⟩ (some ⟨b,o,none⟩) n c ⟨3,(k:Int),col,count,0,g⟩ Ag cap) ?_;intro X hX;obtain ⟨e0,e1,e2,e3,e4,e5⟩:=qw hX.v;obtain ⟨d0,d1,d2,d3,d4,d5,-⟩:=qV hX.c;have hb:=hX.bel;dsimp only at e0 e1 e2 e3 e4 e5 d0 d1 d2 d3 d4 d5;have hcl:=(hb.cell (p:=⟨b,o+k,none⟩) L7).trans hcell'.out
       go_wp2_with (go_at_call 81;refine (qks _ _ _ _).mono ?_;rintro e wy ⟨rfl,rfl⟩)
       go_ret;exact ⟨by rw [HE.out];rfl,hb⟩
      ·have b3:decide (0<count)=false:=Lk hc2;have HE:Hid (E=yK (g.drop 0)):=Lh (by rw [hf2.out,if_pos L0];rfl);clear hf2 hz1 hz2 hc1 hc2 h3
       go_enter func80,ntmps80
       go_upto_region 1 with fail
       refine qa (VcBox w ⟨W,Hh,rows,vr,vc,vis⟩ (some ⟨b,o,none⟩) n c ⟨3,(k:Int),col,count,0,g⟩ Ag cap) (VcBox.new w ⟨W,Hh,rows,vr,vc,vis⟩ (some ⟨b,o,none⟩) n c ⟨3,(k:Int),col,count,0,g⟩ Ag cap) ?_;intro X hX;obtain ⟨e0,e1,e2,e3,e4,e5⟩:=qw hX.v;obtain ⟨d0,d1,d2,d3,d4,d5,-⟩:=qV hX.c;have hb:=hX.bel;dsimp only at e0 e1 e2 e3 e4 e5 d0 d1 d2 d3 d4 d5;have hcl:=(hb.cell (p:=⟨b,o+k,none⟩) L7).trans hcell'.out
       go_wp2_with (go_at_call 81;refine (qks _ _ _ _).mono ?_;rintro e wy ⟨rfl,rfl⟩)
       clear e0 e1 e2 e3 e4 e5 d0 d1 d2 d3 d4 d5 hcl
       go_loopw [6] (fun y wr=>∃ j:Nat,j<=g.length/\y = .int .i64 j/\VcBox w ⟨W,Hh,rows,vr,vc,vis⟩ (some ⟨b,o,none⟩) n c ⟨3,(k:Int),col,count,0,g⟩ Ag cap wr/\Hid (E=yK (g.drop j))) (fun y _=>g.length-(intOf y).toNat)
       case atStart=>exact ⟨0,Nat.zero_le _,rfl,hX,HE⟩
       case round =>
        clear hX hb HE;obtain ⟨j,hj,rfl,hX,HJ⟩:=hrel;obtain ⟨e0,e1,e2,e3,e4,e5⟩:=qw hX.v;obtain ⟨d0,d1,d2,d3,d4,d5,-⟩:=qV hX.c;have hb:=hX.bel;dsimp only at e0 e1 e2 e3 e4 e5 d0 d1 d2 d3 d4 d5
        by_cases hlj:j<g.length
        ·obtain ⟨b',o',rfl,hbB',g0,g1,g2⟩:=jE ((rg.more hB).below hb) hlj rfl;have HVj:=Lh fun w'=>qky g[j] (hgz _ (Lt hlj)) w'
         have HJ2:=HJ.out;rw [qdN hlj] at HJ2;clear hgz rg;generalize g[j]=x at *
         by_cases h0:qJ x=0
         ·rw [if_neg (show ¬ qJ x≠0 by simp [h0])] at HJ2;replace HJ2:=Lh HJ2;rw [h0] at HVj;clear h0;obtain ⟨t,wd,st⟩:=x;dsimp only at *
          go_wp2_with (go_at_call 53;refine (HVj.out _).mono ?_;rintro e w1 ⟨rfl,hb1⟩)
          exact ⟨⟨j+1,by omega,by go_num,hX.on hb1,HJ2⟩,by simp [intOf];omega⟩
         ·rw [if_pos (show qJ x≠0 from h0)] at HJ2;replace HJ2:=Lh HJ2;have hn0:(qJ x != 0)=true:=Ln.2 h0;clear h0;generalize hq:qJ x=K at *
          clear hq;obtain ⟨t,wd,st⟩:=x;dsimp only at *
          go_wp2_with (go_at_call 53;refine (HVj.out _).mono ?_;rintro e w1 ⟨rfl,hb1⟩)
          go_ret;exact ⟨by rw [HJ2.out];rfl,(hX.on hb1).bel⟩
        ·obtain rfl:j=g.length:=by omega
         have HJ2:Hid (E=0):=Lh (by rw [HJ.out,Lv (Ld _)];rfl);clear HJ;go_wp2;go_ret;exact ⟨by rw [HJ2.out];rfl,hb⟩
 ·have HE:Hid (qan ⟨W,Hh,rows,vr,vc,vis⟩ ⟨3,row,col,count,til,g⟩=1):=Lh (by rw [hf.out,if_pos h1]);have hb1:(til != 0)=true:=Ln.2 h1;clear hf hrr rd hrl rg hgz h1
  go_enter func80,ntmps80
  go_upto_region 1 with fail
  refine qa (VcBox w ⟨W,Hh,rows,vr,vc,vis⟩ A n c ⟨3,row,col,count,til,g⟩ Ag cap) (VcBox.new w ⟨W,Hh,rows,vr,vc,vis⟩ A n c ⟨3,row,col,count,til,g⟩ Ag cap) ?_;intro X hX;obtain ⟨e0,e1,e2,e3,e4,e5⟩:=qw hX.v;obtain ⟨d0,d1,d2,d3,d4,d5,-⟩:=qV hX.c;have hb:=hX.bel;dsimp only at e0 e1 e2 e3 e4 e5 d0 d1 d2 d3 d4 d5
  go_wp2_with (go_at_call 81;refine (qks _ _ _ _).mono ?_;rintro e wy ⟨rfl,rfl⟩)
  go_ret;exact ⟨by rw [HE.out];rfl,hb⟩
end
theorem qkt {v:Vw} {c:Chg} (h1:1<=c.kind) (h4:c.kind<=4) (h:zS c=false):qan v c=1:=by
 unfold qan;rw [if_neg L0,if_pos h]
theorem qkv {v:Vw} {c:Chg} (h1:1<=c.kind) (h4:c.kind<=4) (h:zS c=true) (hg:c.glyphs=[]):qan v c=if zh v c=false then 2 else 0:=by
 unfold qan;rw [if_neg L0,if_neg (by rw [h];decide),hg]
 rfl
section
variable {W Hh : Int} {rows : List (List Gl)} {vr vc : Int} {vis : Bool} {A : Option Addr} {n c : Nat} {w : World} {row col count til : Int} {g : List Gl} {Ag : Option Addr} {cap : Nat}
theorem qkR:Calls prog 46 #[.agg (vwC ⟨W,Hh,rows,vr,vc,vis⟩ A n c),jH ⟨1,row,col,count,til,g⟩ Ag cap] w (qh (.int .i64 (qan ⟨W,Hh,rows,vr,vc,vis⟩ ⟨1,row,col,count,til,g⟩)) w):=by
 have hi:inB 1 1 4=true:=rfl
 by_cases hg:g=[]
 ·subst hg
  by_cases a1:til=0
  ·have b1:(til != 0)=false:=by simp [a1]
   by_cases a2:count=0
   ·have b2:(count != 0)=false:=by simp [a2]
    have HE:Hid (qan ⟨W,Hh,rows,vr,vc,vis⟩ ⟨1,row,col,count,til,[]⟩=if zh ⟨W,Hh,rows,vr,vc,vis⟩ ⟨1,row,col,count,til,[]⟩=false then 2 else 0):=Lh (qkv (show (1:Int)<=1 by decide) (show (1:Int)<=4 by decide) (by simp [zS, *]) rfl);have hr:zh ⟨W,Hh,rows,vr,vc,vis⟩ ⟨1,row,col,count,til,[]⟩=vR col row:=by
     rw [Bool.eq_iff_iff];simp [zh,vR];omega
    clear a1 a2
    cases z:vR col row with
    | false =>
     replace HE:=Lh (HE.out.trans (if_pos (hr.trans z)));clear hr
     go_enter func46,ntmps46
     go_upto_region 1 with fail
     refine qa (VcBox w ⟨W,Hh,rows,vr,vc,vis⟩ A n c ⟨1,row,col,count,til,[]⟩ Ag cap) (VcBox.new w ⟨W,Hh,rows,vr,vc,vis⟩ A n c ⟨1,row,col,count,til,[]⟩ Ag cap) ?_;intro X hX;obtain ⟨e0,e1,e2,e3,e4,e5⟩:=qw hX.v;obtain ⟨d0,d1,d2,d3,d4,d5,-⟩:=qV hX.c;have hb:=hX.bel;dsimp only at e0 e1 e2 e3 e4 e5 d0 d1 d2 d3 d4 d5
     go_wp2_with (first | (go_at_call 81;refine (qks _ _ _ _).mono ?_;rintro e wy ⟨rfl,rfl⟩) | (go_at_call 52;refine (q6 _ _ _).mono ?_;rintro e wy ⟨rfl,rfl⟩))
     go_ret;exact ⟨by rw [HE.out];rfl,hb⟩
    | true =>
     replace HE:=Lh (HE.out.trans (if_neg (by rw [(hr.trans z)];decide)));clear hr
     go_enter func46,ntmps46
     go_upto_region 1 with fail
     refine qa (VcBox w ⟨W,Hh,rows,vr,vc,vis⟩ A n c ⟨1,row,col,count,til,[]⟩ Ag cap) (VcBox.new w ⟨W,Hh,rows,vr,vc,vis⟩ A n c ⟨1,row,col,count,til,[]⟩ Ag cap) ?_;intro X hX;obtain ⟨e0,e1,e2,e3,e4,e5⟩:=qw hX.v;obtain ⟨d0,d1,d2,d3,d4,d5,-⟩:=qV hX.c;have hb:=hX.bel;dsimp only at e0 e1 e2 e3 e4 e5 d0 d1 d2 d3 d4 d5
     go_wp2_with (first | (go_at_call 81;refine (qks _ _ _ _).mono ?_;rintro e wy ⟨rfl,rfl⟩) | (go_at_call 52;refine (q6 _ _ _).mono ?_;rintro e wy ⟨rfl,rfl⟩))
     go_ret;exact ⟨by rw [HE.out];rfl,hb⟩
   ·have b2:(count != 0)=true:=Ln.2 a2;have HE:Hid (qan ⟨W,Hh,rows,vr,vc,vis⟩ ⟨1,row,col,count,til,[]⟩=1):=Lh (qkt (show (1:Int)<=1 by decide) (show (1:Int)<=4 by decide) (by simp [zS, *]));clear a1 a2
    go_enter func46,ntmps46
    go_upto_region 1 with fail
    refine qa (VcBox w ⟨W,Hh,rows,vr,vc,vis⟩ A n c ⟨1,row,col,count,til,[]⟩ Ag cap) (VcBox.new w ⟨W,Hh,rows,vr,vc,vis⟩ A n c ⟨1,row,col,count,til,[]⟩ Ag cap) ?_;intro X hX;obtain ⟨e0,e1,e2,e3,e4,e5⟩:=qw hX.v;obtain ⟨d0,d1,d2,d3,d4,d5,-⟩:=qV hX.c;have hb:=hX.bel;dsimp only at e0 e1 e2 e3 e4 e5 d0 d1 d2 d3 d4 d5
    go_wp2_with (first | (go_at_call 81;refine (qks _ _ _ _).mono ?_;rintro e wy ⟨rfl,rfl⟩) | (go_at_call 52;refine (q6 _ _ _).mono ?_;rintro e wy ⟨rfl,rfl⟩))
    go_ret;exact ⟨by rw [HE.out];rfl,hb⟩
  ·have b1:(til != 0)=true:=Ln.2 a1;have HE:Hid (qan ⟨W,Hh,rows,vr,vc,vis⟩ ⟨1,row,col,count,til,[]⟩=1):=Lh (qkt (show (1:Int)<=1 by decide) (show (1:Int)<=4 by decide) (by simp [zS, *]));clear a1
   go_enter func46,ntmps46
   go_upto_region 1 with fail
   refine qa (VcBox w ⟨W,Hh,rows,vr,vc,vis⟩ A n c ⟨1,row,col,count,til,[]⟩ Ag cap) (VcBox.new w ⟨W,Hh,rows,vr,vc,vis⟩ A n c ⟨1,row,col,count,til,[]⟩ Ag cap) ?_;intro X hX;obtain ⟨e0,e1,e2,e3,e4,e5⟩:=qw hX.v;obtain ⟨d0,d1,d2,d3,d4,d5,-⟩:=qV hX.c;have hb:=hX.bel;dsimp only at e0 e1 e2 e3 e4 e5 d0 d1 d2 d3 d4 d5
   go_wp2_with (first | (go_at_call 81;refine (qks _ _ _ _).mono ?_;rintro e wy ⟨rfl,rfl⟩) | (go_at_call 52;refine (q6 _ _ _).mono ?_;rintro e wy ⟨rfl,rfl⟩))
   go_ret;exact ⟨by rw [HE.out];rfl,hb⟩
 ·have HE:Hid (qan ⟨W,Hh,rows,vr,vc,vis⟩ ⟨1,row,col,count,til,g⟩=1):=Lh (qkt (show (1:Int)<=1 by decide) (show (1:Int)<=4 by decide) (by simp [zS, *]));have hg0:0<g.length:=List.length_pos_iff.2 hg;have hg1:(0:Int)<(g.length:Int):=by omega
  clear hg
  go_enter func46,ntmps46
  go_upto_region 1 with fail
  refine qa (VcBox w ⟨W,Hh,rows,vr,vc,vis⟩ A n c ⟨1,row,col,count,til,g⟩ Ag cap) (VcBox.new w ⟨W,Hh,rows,vr,vc,vis⟩ A n c ⟨1,row,col,count,til,g⟩ Ag cap) ?_;intro X hX;obtain ⟨e0,e1,e2,e3,e4,e5⟩:=qw hX.v;obtain ⟨d0,d1,d2,d3,d4,d5,-⟩:=qV hX.c;have hb:=hX.bel;dsimp only at e0 e1 e2 e3 e4 e5 d0 d1 d2 d3 d4 d5
  go_wp2_with (first | (go_at_call 81;refine (qks _ _ _ _).mono ?_;rintro e wy ⟨rfl,rfl⟩) | (go_at_call 52;refine (q6 _ _ _).mono ?_;rintro e wy ⟨rfl,rfl⟩))
  go_ret;exact ⟨by rw [HE.out];rfl,hb⟩
theorem qkV (hh:Hh<=60):Calls prog 46 #[.agg (vwC ⟨W,Hh,rows,vr,vc,vis⟩ A n c),jH ⟨2,row,col,count,til,g⟩ Ag cap] w (qh (.int .i64 (qan ⟨W,Hh,rows,vr,vc,vis⟩ ⟨2,row,col,count,til,g⟩)) w):=by
 have hi:inB 2 1 4=true:=rfl
 by_cases hg:g=[]
 ·subst hg
  by_cases a1:col=0
  ·have b1:(col != 0)=false:=by simp [a1]
   have HE:Hid (qan ⟨W,Hh,rows,vr,vc,vis⟩ ⟨2,row,col,count,til,[]⟩=if zh ⟨W,Hh,rows,vr,vc,vis⟩ ⟨2,row,col,count,til,[]⟩=false then 2 else 0):=Lh (qkv (show (1:Int)<=2 by decide) (show (2:Int)<=4 by decide) (by simp [zS, *]) rfl);clear a1
   by_cases c1:0<=row
   ·have f1:decide (0<=row)=true:=Ll c1
    by_cases c2:row<til
    ·have f2:decide (row<til)=true:=Ll c2
     by_cases c3:til<=Hh
     ·have f3:decide (til<=Hh)=true:=Ll c3
      by_cases c4:count=0
      ·have f4:(count != 0)=false:=by simp [c4]
       have hr:zh ⟨W,Hh,rows,vr,vc,vis⟩ ⟨2,row,col,count,til,[]⟩=false:=by rw [kk];exact Lk (by dsimp only;omega)
       replace HE:=Lh (HE.out.trans (if_pos hr));clear hr c1 c2 c3 c4
       go_enter func46,ntmps46
       go_upto_region 1 with fail
       refine qa (VcBox w ⟨W,Hh,rows,vr,vc,vis⟩ A n c ⟨2,row,col,count,til,[]⟩ Ag cap) (VcBox.new w ⟨W,Hh,rows,vr,vc,vis⟩ A n c ⟨2,row,col,count,til,[]⟩ Ag cap) ?_;intro X hX;obtain ⟨e0,e1,e2,e3,e4,e5⟩:=qw hX.v;obtain ⟨d0,d1,d2,d3,d4,d5,-⟩:=qV hX.c;have hb:=hX.bel;dsimp only at e0 e1 e2 e3 e4 e5 d0 d1 d2 d3 d4 d5
       go_wp2_with (first | (go_at_call 81;refine (qks _ _ _ _).mono ?_;rintro e wy ⟨rfl,rfl⟩) | (go_at_call 52;refine (q6 _ _ _).mono ?_;rintro e wy ⟨rfl,rfl⟩))
       go_ret;exact ⟨by rw [HE.out];rfl,hb⟩
      ·have f4:(count != 0)=true:=Ln.2 c4;have w1:IntKind.i64.wrap (til-row)=til-row:=by rw [Lx];omega
       have w2:IntKind.i64.wrap (-(til-row)) = -(til-row):=by rw [Lx];omega
       by_cases c5:count<til-row
       ·have f5:decide (count<til-row)=true:=Ll c5
        by_cases c6 : -(til-row)<count
        ·have f6:decide (-(til-row)<count)=true:=Ll c6;have hr:zh ⟨W,Hh,rows,vr,vc,vis⟩ ⟨2,row,col,count,til,[]⟩=true:=by rw [kk];exact Ll (by dsimp only;omega)
         replace HE:=Lh (HE.out.trans (if_neg (by rw [hr];decide)));clear hr c1 c2 c3 c4 c5 c6
         go_enter func46,ntmps46
         go_upto_region 1 with fail
         refine qa (VcBox w ⟨W,Hh,rows,vr,vc,vis⟩ A n c ⟨2,row,col,count,til,[]⟩ Ag cap) (VcBox.new w ⟨W,Hh,rows,vr,vc,vis⟩ A n c ⟨2,row,col,count,til,[]⟩ Ag cap) ?_;intro X hX;obtain ⟨e0,e1,e2,e3,e4,e5⟩:=qw hX.v;obtain ⟨d0,d1,d2,d3,d4,d5,-⟩:=qV hX.c;have hb:=hX.bel;dsimp only at e0 e1 e2 e3 e4 e5 d0 d1 d2 d3 d4 d5
         go_wp2_with (first | (go_at_call 81;refine (qks _ _ _ _).mono ?_;rintro e wy ⟨rfl,rfl⟩) | (go_at_call 52;refine (q6 _ _ _).mono ?_;rintro e wy ⟨rfl,rfl⟩))
         go_ret;exact ⟨by rw [HE.out];rfl,hb⟩
        ·have f6:decide (-(til-row)<count)=false:=Lk c6;have hr:zh ⟨W,Hh,rows,vr,vc,vis⟩ ⟨2,row,col,count,til,[]⟩=false:=by rw [kk];exact Lk (by dsimp only;omega)
         replace HE:=Lh (HE.out.trans (if_pos hr));clear hr c1 c2 c3 c4 c5 c6
         go_enter func46,ntmps46
         go_upto_region 1 with fail
         refine qa (VcBox w ⟨W,Hh,rows,vr,vc,vis⟩ A n c ⟨2,row,col,count,til,[]⟩ Ag cap) (VcBox.new w ⟨W,Hh,rows,vr,vc,vis⟩ A n c ⟨2,row,col,count,til,[]⟩ Ag cap) ?_;intro X hX;obtain ⟨e0,e1,e2,e3,e4,e5⟩:=qw hX.v;obtain ⟨d0,d1,d2,d3,d4,d5,-⟩:=qV hX.c;have hb:=hX.bel;dsimp only at e0 e1 e2 e3 e4 e5 d0 d1 d2 d3 d4 d5
         go_wp2_with (first | (go_at_call 81;refine (qks _ _ _ _).mono ?_;rintro e wy ⟨rfl,rfl⟩) | (go_at_call 52;refine (q6 _ _ _).mono ?_;rintro e wy ⟨rfl,rfl⟩))
         go_ret;exact ⟨by rw [HE.out];rfl,hb⟩
       ·have f5:decide (count<til-row)=false:=Lk c5;have hr:zh ⟨W,Hh,rows,vr,vc,vis⟩ ⟨2,row,col,count,til,[]⟩=false:=by rw [kk];exact Lk (by dsimp only;omega)
        replace HE:=Lh (HE.out.trans (if_pos hr));clear hr c1 c2 c3 c4 c5
        go_enter func46,ntmps46
        go_upto_region 1 with fail
        refine qa (VcBox w ⟨W,Hh,rows,vr,vc,vis⟩ A n c ⟨2,row,col,count,til,[]⟩ Ag cap) (VcBox.new w ⟨W,Hh,rows,vr,vc,vis⟩ A n c ⟨2,row,col,count,til,[]⟩ Ag cap) ?_;intro X hX;obtain ⟨e0,e1,e2,e3,e4,e5⟩:=qw hX.v;obtain ⟨d0,d1,d2,d3,d4,d5,-⟩:=qV hX.c;have hb:=hX.bel;dsimp only at e0 e1 e2 e3 e4 e5 d0 d1 d2 d3 d4 d5
        go_wp2_with (first | (go_at_call 81;refine (qks _ _ _ _).mono ?_;rintro e wy ⟨rfl,rfl⟩) | (go_at_call 52;refine (q6 _ _ _).mono ?_;rintro e wy ⟨rfl,rfl⟩))
        go_ret;exact ⟨by rw [HE.out];rfl,hb⟩
     ·have f3:decide (til<=Hh)=false:=Lk c3;have hr:zh ⟨W,Hh,rows,vr,vc,vis⟩ ⟨2,row,col,count,til,[]⟩=false:=by rw [kk];exact Lk (by dsimp only;omega)
      replace HE:=Lh (HE.out.trans (if_pos hr));clear hr c1 c2 c3
      go_enter func46,ntmps46
      go_upto_region 1 with fail
      refine qa (VcBox w ⟨W,Hh,rows,vr,vc,vis⟩ A n c ⟨2,row,col,count,til,[]⟩ Ag cap) (VcBox.new w ⟨W,Hh,rows,vr,vc,vis⟩ A n c ⟨2,row,col,count,til,[]⟩ Ag cap) ?_;intro X hX;obtain ⟨e0,e1,e2,e3,e4,e5⟩:=qw hX.v;obtain ⟨d0,d1,d2,d3,d4,d5,-⟩:=qV hX.c;have hb:=hX.bel;dsimp only at e0 e1 e2 e3 e4 e5 d0 d1 d2 d3 d4 d5
      go_wp2_with (first | (go_at_call 81;refine (qks _ _ _ _).mono ?_;rintro e wy ⟨rfl,rfl⟩) | (go_at_call 52;refine (q6 _ _ _).mono ?_;rintro e wy ⟨rfl,rfl⟩))
      go_ret;exact ⟨by rw [HE.out];rfl,hb⟩
    ·have f2:decide (row<til)=false:=Lk c2;have hr:zh ⟨W,Hh,rows,vr,vc,vis⟩ ⟨2,row,col,count,til,[]⟩=false:=by rw [kk];exact Lk (by dsimp only;omega)
     replace HE:=Lh (HE.out.trans (if_pos hr));clear hr c1 c2
     go_enter func46,ntmps46
     go_upto_region 1 with fail
     refine qa (VcBox w ⟨W,Hh,rows,vr,vc,vis⟩ A n c ⟨2,row,col,count,til,[]⟩ Ag cap) (VcBox.new w ⟨W,Hh,rows,vr,vc,vis⟩ A n c ⟨2,row,col,count,til,[]⟩ Ag cap) ?_;intro X hX;obtain ⟨e0,e1,e2,e3,e4,e5⟩:=qw hX.v;obtain ⟨d0,d1,d2,d3,d4,d5,-⟩:=qV hX.c;have hb:=hX.bel;dsimp only at e0 e1 e2 e3 e4 e5 d0 d1 d2 d3 d4 d5
     go_wp2_with (first | (go_at_call 81;refine (qks _ _ _ _).mono ?_;rintro e wy ⟨rfl,rfl⟩) | (go_at_call 52;refine (q6 _ _ _).mono ?_;rintro e wy ⟨rfl,rfl⟩))
     go_ret;exact ⟨by rw [HE.out];rfl,hb⟩
   ·have f1:decide (0<=row)=false:=Lk c1;have hr:zh ⟨W,Hh,rows,vr,vc,vis⟩ ⟨2,row,col,count,til,[]⟩=false:=by rw [kk];exact Lk (by dsimp only;omega)
    replace HE:=Lh (HE.out.trans (if_pos hr));clear hr c1
    go_enter func46,ntmps46
    go_upto_region 1 with fail
    refine qa (VcBox w ⟨W,Hh,rows,vr,vc,vis⟩ A n c ⟨2,row,col,count,til,[]⟩ Ag cap) (VcBox.new w ⟨W,Hh,rows,vr,vc,vis⟩ A n c ⟨2,row,col,count,til,[]⟩ Ag cap) ?_;intro X hX;obtain ⟨e0,e1,e2,e3,e4,e5⟩:=qw hX.v;obtain ⟨d0,d1,d2,d3,d4,d5,-⟩:=qV hX.c;have hb:=hX.bel;dsimp only at e0 e1 e2 e3 e4 e5 d0 d1 d2 d3 d4 d5
    go_wp2_with (first | (go_at_call 81;refine (qks _ _ _ _).mono ?_;rintro e wy ⟨rfl,rfl⟩) | (go_at_call 52;refine (q6 _ _ _).mono ?_;rintro e wy ⟨rfl,rfl⟩))
    go_ret;exact ⟨by rw [HE.out];rfl,hb⟩
  ·have b1:(col != 0)=true:=Ln.2 a1;have HE:Hid (qan ⟨W,Hh,rows,vr,vc,vis⟩ ⟨2,row,col,count,til,[]⟩=1):=Lh (qkt (show (1:Int)<=2 by decide) (show (2:Int)<=4 by decide) (by simp [zS, *]));clear a1
   go_enter func46,ntmps46
   go_upto_region 1 with fail
   refine qa (VcBox w ⟨W,Hh,rows,vr,vc,vis⟩ A n c ⟨2,row,col,count,til,[]⟩ Ag cap) (VcBox.new w ⟨W,Hh,rows,vr,vc,vis⟩ A n c ⟨2,row,col,count,til,[]⟩ Ag cap) ?_;intro X hX;obtain ⟨e0,e1,e2,e3,e4,e5⟩:=qw hX.v;obtain ⟨d0,d1,d2,d3,d4,d5,-⟩:=qV hX.c;have hb:=hX.bel;dsimp only at e0 e1 e2 e3 e4 e5 d0 d1 d2 d3 d4 d5
   go_wp2_with (first | (go_at_call 81;refine (qks _ _ _ _).mono ?_;rintro e wy ⟨rfl,rfl⟩) | (go_at_call 52;refine (q6 _ _ _).mono ?_;rintro e wy ⟨rfl,rfl⟩))
   go_ret;exact ⟨by rw [HE.out];rfl,hb⟩
 ·have HE:Hid (qan ⟨W,Hh,rows,vr,vc,vis⟩ ⟨2,row,col,count,til,g⟩=1):=Lh (qkt (show (1:Int)<=2 by decide) (show (2:Int)<=4 by decide) (by simp [zS, *]));have hg0:0<g.length:=List.length_pos_iff.2 hg;have hg1:(0:Int)<(g.length:Int):=by omega
  clear hg
  go_enter func46,ntmps46
  go_upto_region 1 with fail
  refine qa (VcBox w ⟨W,Hh,rows,vr,vc,vis⟩ A n c ⟨2,row,col,count,til,g⟩ Ag cap) (VcBox.new w ⟨W,Hh,rows,vr,vc,vis⟩ A n c ⟨2,row,col,count,til,g⟩ Ag cap) ?_;intro X hX;obtain ⟨e0,e1,e2,e3,e4,e5⟩:=qw hX.v;obtain ⟨d0,d1,d2,d3,d4,d5,-⟩:=qV hX.c;have hb:=hX.bel;dsimp only at e0 e1 e2 e3 e4 e5 d0 d1 d2 d3 d4 d5
  go_wp2_with (first | (go_at_call 81;refine (qks _ _ _ _).mono ?_;rintro e wy ⟨rfl,rfl⟩) | (go_at_call 52;refine (q6 _ _ _).mono ?_;rintro e wy ⟨rfl,rfl⟩))
  go_ret;exact ⟨by rw [HE.out];rfl,hb⟩
theorem qkJ (hh:1<=Hh/\Hh<=60) (hw:1<=W/\W<=132):Calls prog 46 #[.agg (vwC ⟨W,Hh,rows,vr,vc,vis⟩ A n c),jH ⟨4,row,col,count,til,g⟩ Ag cap] w (qh (.int .i64 (qan ⟨W,Hh,rows,vr,vc,vis⟩ ⟨4,row,col,count,til,g⟩)) w):=by
 have hi:inB 4 1 4=true:=rfl;have w1:IntKind.i64.wrap (Hh-1)=Hh-1:=by rw [Lx];omega
 have w2:IntKind.i64.wrap (W-1)=W-1:=by rw [Lx];omega
 by_cases hg:g=[]
 ·subst hg
  by_cases a1:til=0
  ·have b1:(til != 0)=false:=by simp [a1]
   have HE:Hid (qan ⟨W,Hh,rows,vr,vc,vis⟩ ⟨4,row,col,count,til,[]⟩=if zh ⟨W,Hh,rows,vr,vc,vis⟩ ⟨4,row,col,count,til,[]⟩=false then 2 else 0):=Lh (qkv (show (1:Int)<=4 by decide) (show (4:Int)<=4 by decide) (by simp [zS, *]) rfl);clear a1
   cases z1:inB row 0 (Hh-1) with
   | false =>
    have hr:zh ⟨W,Hh,rows,vr,vc,vis⟩ ⟨4,row,col,count,til,[]⟩=false:=by rw [qg6];simp [z1]
    replace HE:=Lh (HE.out.trans (if_pos hr));clear hr
    go_enter func46,ntmps46
    go_upto_region 1 with fail
    refine qa (VcBox w ⟨W,Hh,rows,vr,vc,vis⟩ A n c ⟨4,row,col,count,til,[]⟩ Ag cap) (VcBox.new w ⟨W,Hh,rows,vr,vc,vis⟩ A n c ⟨4,row,col,count,til,[]⟩ Ag cap) ?_;intro X hX;obtain ⟨e0,e1,e2,e3,e4,e5⟩:=qw hX.v;obtain ⟨d0,d1,d2,d3,d4,d5,-⟩:=qV hX.c;have hb:=hX.bel;dsimp only at e0 e1 e2 e3 e4 e5 d0 d1 d2 d3 d4 d5
    go_wp2_with (first | (go_at_call 81;refine (qks _ _ _ _).mono ?_;rintro e wy ⟨rfl,rfl⟩) | (go_at_call 52;refine (q6 _ _ _).mono ?_;rintro e wy ⟨rfl,rfl⟩))
    go_ret;exact ⟨by rw [HE.out];rfl,hb⟩
   | true =>
    cases z2:inB col 0 (W-1) with
    | false =>
     have hr:zh ⟨W,Hh,rows,vr,vc,vis⟩ ⟨4,row,col,count,til,[]⟩=false:=by rw [qg6];simp [z2]
     replace HE:=Lh (HE.out.trans (if_pos hr));clear hr
     go_enter func46,ntmps46
     go_upto_region 1 with fail
     refine qa (VcBox w ⟨W,Hh,rows,vr,vc,vis⟩ A n c ⟨4,row,col,count,til,[]⟩ Ag cap) (VcBox.new w ⟨W,Hh,rows,vr,vc,vis⟩ A n c ⟨4,row,col,count,til,[]⟩ Ag cap) ?_;intro X hX;obtain ⟨e0,e1,e2,e3,e4,e5⟩:=qw hX.v;obtain ⟨d0,d1,d2,d3,d4,d5,-⟩:=qV hX.c;have hb:=hX.bel;dsimp only at e0 e1 e2 e3 e4 e5 d0 d1 d2 d3 d4 d5
     go_wp2_with (first | (go_at_call 81;refine (qks _ _ _ _).mono ?_;rintro e wy ⟨rfl,rfl⟩) | (go_at_call 52;refine (q6 _ _ _).mono ?_;rintro e wy ⟨rfl,rfl⟩))
     go_ret;exact ⟨by rw [HE.out];rfl,hb⟩
    | true =>
     cases z3:inB count 0 1 with
     | false =>
      have hr:zh ⟨W,Hh,rows,vr,vc,vis⟩ ⟨4,row,col,count,til,[]⟩=false:=by rw [qg6];simp [z3]
      replace HE:=Lh (HE.out.trans (if_pos hr));clear hr
      go_enter func46,ntmps46
      go_upto_region 1 with fail
      refine qa (VcBox w ⟨W,Hh,rows,vr,vc,vis⟩ A n c ⟨4,row,col,count,til,[]⟩ Ag cap) (VcBox.new w ⟨W,Hh,rows,vr,vc,vis⟩ A n c ⟨4,row,col,count,til,[]⟩ Ag cap) ?_;intro X hX;obtain ⟨e0,e1,e2,e3,e4,e5⟩:=qw hX.v;obtain ⟨d0,d1,d2,d3,d4,d5,-⟩:=qV hX.c;have hb:=hX.bel;dsimp only at e0 e1 e2 e3 e4 e5 d0 d1 d2 d3 d4 d5
      go_wp2_with (first | (go_at_call 81;refine (qks _ _ _ _).mono ?_;rintro e wy ⟨rfl,rfl⟩) | (go_at_call 52;refine (q6 _ _ _).mono ?_;rintro e wy ⟨rfl,rfl⟩))
      go_ret;exact ⟨by rw [HE.out];rfl,hb⟩
     | true =>
      have hr:zh ⟨W,Hh,rows,vr,vc,vis⟩ ⟨4,row,col,count,til,[]⟩=true:=by rw [qg6];simp [z1,z2,z3]
      replace HE:=Lh (HE.out.trans (if_neg (by rw [hr];decide)));clear hr
      go_enter func46,ntmps46
      go_upto_region 1 with fail
      refine qa (VcBox w ⟨W,Hh,rows,vr,vc,vis⟩ A n c ⟨4,row,col,count,til,[]⟩ Ag cap) (VcBox.new w ⟨W,Hh,rows,vr,vc,vis⟩ A n c ⟨4,row,col,count,til,[]⟩ Ag cap) ?_;intro X hX;obtain ⟨e0,e1,e2,e3,e4,e5⟩:=qw hX.v;obtain ⟨d0,d1,d2,d3,d4,d5,-⟩:=qV hX.c;have hb:=hX.bel;dsimp only at e0 e1 e2 e3 e4 e5 d0 d1 d2 d3 d4 d5
      go_wp2_with (first | (go_at_call 81;refine (qks _ _ _ _).mono ?_;rintro e wy ⟨rfl,rfl⟩) | (go_at_call 52;refine (q6 _ _ _).mono ?_;rintro e wy ⟨rfl,rfl⟩))
      go_ret;exact ⟨by rw [HE.out];rfl,hb⟩
  ·have b1:(til != 0)=true:=Ln.2 a1;have HE:Hid (qan ⟨W,Hh,rows,vr,vc,vis⟩ ⟨4,row,col,count,til,[]⟩=1):=Lh (qkt (show (1:Int)<=4 by decide) (show (4:Int)<=4 by decide) (by simp [zS, *]));clear a1
   go_enter func46,ntmps46
   go_upto_region 1 with fail
   refine qa (VcBox w ⟨W,Hh,rows,vr,vc,vis⟩ A n c ⟨4,row,col,count,til,[]⟩ Ag cap) (VcBox.new w ⟨W,Hh,rows,vr,vc,vis⟩ A n c ⟨4,row,col,count,til,[]⟩ Ag cap) ?_;intro X hX;obtain ⟨e0,e1,e2,e3,e4,e5⟩:=qw hX.v;obtain ⟨d0,d1,d2,d3,d4,d5,-⟩:=qV hX.c;have hb:=hX.bel;dsimp only at e0 e1 e2 e3 e4 e5 d0 d1 d2 d3 d4 d5
   go_wp2_with (first | (go_at_call 81;refine (qks _ _ _ _).mono ?_;rintro e wy ⟨rfl,rfl⟩) | (go_at_call 52;refine (q6 _ _ _).mono ?_;rintro e wy ⟨rfl,rfl⟩))
   go_ret;exact ⟨by rw [HE.out];rfl,hb⟩
 ·have HE:Hid (qan ⟨W,Hh,rows,vr,vc,vis⟩ ⟨4,row,col,count,til,g⟩=1):=Lh (qkt (show (1:Int)<=4 by decide) (show (4:Int)<=4 by decide) (by simp [zS, *]));have hg0:0<g.length:=List.length_pos_iff.2 hg;have hg1:(0:Int)<(g.length:Int):=by omega
  clear hg
  go_enter func46,ntmps46
  go_upto_region 1 with fail
  refine qa (VcBox w ⟨W,Hh,rows,vr,vc,vis⟩ A n c ⟨4,row,col,count,til,g⟩ Ag cap) (VcBox.new w ⟨W,Hh,rows,vr,vc,vis⟩ A n c ⟨4,row,col,count,til,g⟩ Ag cap) ?_;intro X hX;obtain ⟨e0,e1,e2,e3,e4,e5⟩:=qw hX.v;obtain ⟨d0,d1,d2,d3,d4,d5,-⟩:=qV hX.c;have hb:=hX.bel;dsimp only at e0 e1 e2 e3 e4 e5 d0 d1 d2 d3 d4 d5
  go_wp2_with (first | (go_at_call 81;refine (qks _ _ _ _).mono ?_;rintro e wy ⟨rfl,rfl⟩) | (go_at_call 52;refine (q6 _ _ _).mono ?_;rintro e wy ⟨rfl,rfl⟩))
  go_ret;exact ⟨by rw [HE.out];rfl,hb⟩
end
theorem rfits19_ (v:Vw) (A:Option Addr) (n c B:Nat) (rs:List RowM) (ch:Chg) (Ag:Option Addr) (cap:Nat) (w:World) (rd:RdV w B v A n c rs) (hB:B<=w.heap.size) (hlen:(v.rows.length:Int)=v.height) (hs:vR v.width v.height=true) (hrl : ∀ x∈rs,x.l.length<=1000000000) (rg:Rd w B 3 Ag ch.glyphs.length (qi ch.glyphs)) (hgl:ch.glyphs.length<=1000000000) (hgz : ∀ x∈ch.glyphs,x.text.size<=1000000000) :
  Calls prog 46 #[.agg (vwC v A n c),jH ch Ag cap] w (qh (.int .i64 (qan v ch)) w):=by
 obtain ⟨W,Hh,rows,vr,vc,vis⟩:=v;obtain ⟨kind,row,col,count,til,g⟩:=ch;dsimp only at *
 have hz:=jW.1 hs
 by_cases k3:kind=3
 ·subst k3;have HS:Hid (∀ w',Below w.heap.size w w'->Calls prog 80 #[.agg (vwC ⟨W,Hh,rows,vr,vc,vis⟩ A n c),jH ⟨3,row,col,count,til,g⟩ Ag cap] w' (qh (.int .i64 (qan ⟨W,Hh,rows,vr,vc,vis⟩ ⟨3,row,col,count,til,g⟩)) w')):=Lh fun w' hb =>
   qkM ((rd.more hB).below hb) hb.size hlen ⟨hz.2.2.1,hz.2.2.2⟩ hrl ((rg.more hB).below hb) hgl hgz
  clear rd rg hgz hrl hlen hs hz
  go_enter func46,ntmps46
  go_upto_region 1 with fail
  refine qa (VcBox w ⟨W,Hh,rows,vr,vc,vis⟩ A n c ⟨3,row,col,count,til,g⟩ Ag cap) (VcBox.new w ⟨W,Hh,rows,vr,vc,vis⟩ A n c ⟨3,row,col,count,til,g⟩ Ag cap) ?_;intro X hX;obtain ⟨e0,e1,e2,e3,e4,e5⟩:=qw hX.v;obtain ⟨d0,d1,d2,d3,d4,d5,-⟩:=qV hX.c;have hb:=hX.bel;dsimp only at e0 e1 e2 e3 e4 e5 d0 d1 d2 d3 d4 d5
  go_wp2_with (go_at_call 80;refine (HS.out _ hb).mono ?_;rintro e w1 ⟨rfl,hb1⟩)
  go_ret;exact ⟨rfl,hb.trans (hb1.mono hb.size)⟩
 ·by_cases k0:kind<1∨4<kind
  ·have hi:inB kind 1 4=false:=by
    unfold inB
    rcases k0 with h | h
    ·rw [Lk L0];rfl
    ·rw [Lk (show ¬ kind<=4 by omega),Bool.and_false]
   have d3:(kind==3)=false:=Lm.2 k3;have HE:Hid (qan ⟨W,Hh,rows,vr,vc,vis⟩ ⟨kind,row,col,count,til,g⟩=9):=Lh (by unfold qan;rw [if_pos k0]);clear rd rg hgz hrl hlen hs hz k0 k3
   go_enter func46,ntmps46
   go_upto_region 1 with fail
   refine qa (VcBox w ⟨W,Hh,rows,vr,vc,vis⟩ A n c ⟨kind,row,col,count,til,g⟩ Ag cap) (VcBox.new w ⟨W,Hh,rows,vr,vc,vis⟩ A n c ⟨kind,row,col,count,til,g⟩ Ag cap) ?_;intro X hX;obtain ⟨e0,e1,e2,e3,e4,e5⟩:=qw hX.v;obtain ⟨d0,d1,d2,d3,d4,d5,-⟩:=qV hX.c;have hb:=hX.bel;dsimp only at e0 e1 e2 e3 e4 e5 d0 d1 d2 d3 d4 d5
   go_wp2_with (first | (go_at_call 81;refine (qks _ _ _ _).mono ?_;rintro e wy ⟨rfl,rfl⟩) | (go_at_call 52;refine (q6 _ _ _).mono ?_;rintro e wy ⟨rfl,rfl⟩))
   go_ret;exact ⟨by rw [HE.out];rfl,hb⟩
  ·rcases (show kind=1∨kind=2∨kind=4 by omega) with rfl | rfl | rfl
   ·exact qkR
   ·exact qkV hz.2.2.2
   ·exact qkJ ⟨hz.2.2.1,hz.2.2.2⟩ ⟨hz.1,hz.2.1⟩
end Go.Proofs.YtbogmeeijdaijaaGreatDoor
