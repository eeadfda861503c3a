/- Joined: Ra5, LxE. -/
import Derived.Test.YticbpkghcglgkaaGreatDoorZEF
import Derived.Test.YticbpkghcglgkaaGreatDoorZHT
import Derived.Test.YticbpkghcglgkaaGreatDoorZHU
set_option linter.unusedVariables false
set_option linter.unusedSimpArgs false
set_option linter.unnecessarySimpa false
set_option maxHeartbeats 8000000
namespace Go.Proofs.YticbpkghcglgkaaGreatDoor
open Go.Proofs.Tryz Go.RowKit
set_option maxRecDepth 20000
theorem rstep19_ (v:Vw) (A:Option Addr) (n c B:Nat) (rs:List RowM) (ch:Chg) (Ag:Option Addr) (cap:Nat) (w:World) (rd:RdV w B v A n c rs) (hB:B<=w.heap.size) (hon:OnV v) (h0:qan v ch=0) (hrl : ∀ x∈rs,x.l.length<=100000000) (rg:Rd w B 3 Ag ch.glyphs.length (qi ch.glyphs)) (hgl:ch.glyphs.length<=100000000) (hgc:ch.glyphs.length<=cap) (hcm:cap<=maxLen) :
  Calls prog 37 #[.agg (vwC v A n c),jH ch Ag cap] w (StR v A n c (jY v ch) w):=by
 obtain ⟨⟨k1,k4⟩,hb,hr,hg⟩:=qey h0
 have hs:=jW.1 hon.size
 have hlen:=hon.rows
 have hn:=rd.len
 by_cases h23:ch.kind=2∨ch.kind=3
 ·rw [qkU h23 hr hon.trim hlen,hn]
  obtain ⟨W,Hh,rows,vr,vc,vis⟩:=v
  obtain ⟨kind,row,col,count,til,g⟩:=ch
  dsimp only at *
  rcases h23 with rfl | rfl
  ·rw [kk] at hr
   have:=of_decide_eq_true hr
   dsimp only at this
   exact qkP rd hB (by omega) (by omega) hrl
  ·rw [qai] at hr
   have:=of_decide_eq_true hr
   dsimp only at this
   exact qkC rd hB (by omega) this hlen hrl rg hgl hgc hcm
 ·obtain ⟨W,Hh,rows,vr,vc,vis⟩:=v
  obtain ⟨kind,row,col,count,til,g⟩:=ch
  dsimp only at *
  rcases (show kind=1∨kind=4 by omega) with rfl | rfl
  ·exact qkS rd hB hr hrl
  ·exact qkL
def SaR (N:Nat) (A0:Option Addr) (n0 c0:Nat) (rs0:List RowM) (X:World) (v:Vw) (A:Option Addr) (n c:Nat) (rs:List RowM):Prop:=(A=A0/\n=n0/\c=c0/\rs=rs0)∨OwV N X v A n c rs
section
variable {N N' n c n0 c0 g : Nat} {X X' : World} {v v' : Vw} {A A0 : Option Addr} {rs rs0 : List RowM}
theorem SaR.below (h:SaR N A0 n0 c0 rs0 X v A n c rs) (hb:Below X.heap.size X X'):SaR N A0 n0 c0 rs0 X' v A n c rs:=h.imp id fun h=>h.below hb
theorem SaR.set6 (h:SaR N A0 n0 c0 rs0 X v A n c rs) (hg:g<N) (u0 u1 u2 u3 u4 u5:Value):SaR N A0 n0 c0 rs0 ((((((X.setCell ⟨g,0,none⟩ u0).setCell ⟨g,1,none⟩ u1).setCell ⟨g,2,none⟩ u2).setCell ⟨g,3,none⟩ u3).setCell ⟨g,4,none⟩ u4).setCell ⟨g,5,none⟩ u5) v A n c rs:=h.imp id fun h=>h.set6 hg _ _ _ _ _ _
theorem SaR.rows2 (h:SaR N A0 n0 c0 rs0 X v A n c rs) (e:v'.rows=v.rows):SaR N A0 n0 c0 rs0 X v' A n c rs:=h.imp id fun h=>h.rows2 e
theorem SaR.less (h:SaR N A0 n0 c0 rs0 X v A n c rs) (hn:N'<=N):SaR N' A0 n0 c0 rs0 X v A n c rs:=h.imp id fun h=>h.less hn
end
def RaL (w:World) (B:Nat) (A0:Option Addr) (n0 c0:Nat) (rs0:List RowM) (cs:List ChgM) (R:Vw × Int) (k:Nat) (X:World):Prop :=
 ∃ v A n c rs,Blk X w.heap.size 24 (vwC v A n c)/\XV B (w.heap.size+2) X v A n c rs/\SaR (w.heap.size+2) A0 n0 c0 rs0 X v A n c rs/\OnV v/\LenV v (100000000-glN (zo (cs.drop k)))/\R=goV v (zo (cs.drop k))/\ZB X (w.heap.size+1)/\Below w.heap.size w X
def RaR (B:Nat) (A0:Option Addr) (n0 c0:Nat) (rs0:List RowM) (r:Vw × Int) (w:World) (e:Ending) (w':World):Prop :=
 Below w.heap.size w w'/\∃ A n c rs,∃ i:Int,e = .returned (.tuple #[.agg (vwC r.1 A n c),.int .i64 i,.int .i64 r.2])/\XV B w.heap.size w' r.1 A n c rs/\SaR w.heap.size A0 n0 c0 rs0 w' r.1 A n c rs
theorem RaR.err {B:Nat} {A0:Option Addr} {n0 c0:Nat} {rs0:List RowM} {w X:World} {r:Vw × Int} {i E:Int} (h:r=(vw0,E)) (hb:Below w.heap.size w X) (u0 u1 u2 u3 u4 u5:Value):RaR B A0 n0 c0 rs0 r w (.returned (.tuple #[.agg (vwC vw0 none 0 0),.int .i64 i,.int .i64 E])) ((((((X.setCell ⟨w.heap.size+1,0,none⟩ u0).setCell ⟨w.heap.size+1,1,none⟩ u1).setCell ⟨w.heap.size+1,2,none⟩ u2).setCell ⟨w.heap.size+1,3,none⟩ u3).setCell ⟨w.heap.size+1,4,none⟩ u4).setCell ⟨w.heap.size+1,5,none⟩ u5):=by
 subst h
 exact ⟨qap hb (by omega) _ _ _ _ _ _,none,0,0,[],i,rfl,.inr (OwV.none_ _ _),.inr (OwV.none_ _ _)⟩
abbrev set6v (X:World) (g:Nat) (v:Vw) (A:Option Addr) (n c:Nat):World:=(((((X.setCell ⟨g,0,none⟩ (.int .i64 v.width)).setCell ⟨g,1,none⟩ (.int .i64 v.height)).setCell ⟨g,2,none⟩ (.slice A n c)).setCell ⟨g,3,none⟩ (.int .i64 v.row)).setCell ⟨g,4,none⟩ (.int .i64 v.col)).setCell ⟨g,5,none⟩ (.bool v.vis)
theorem qkQ {X:World} {g n c:Nat} {t:TypeId} {v:Vw} {A:Option Addr} (h:Blk X g t (vwC v A n c)) (v':Vw) (A':Option Addr) (n' c':Nat):Blk (set6v X g v' A' n' c') g t (vwC v' A' n' c') :=
 (((((h.set_ 0 _).set_ 1 _).set_ 2 _).set_ 3 _).set_ 4 _).set_ 5 _
theorem blk_far6 {X:World} {g k:Nat} {t:TypeId} {cs:Array Value} (h:Blk X k t cs) (hk:k≠g) (u0 u1 u2 u3 u4 u5:Value):Blk ((((((X.setCell ⟨g,0,none⟩ u0).setCell ⟨g,1,none⟩ u1).setCell ⟨g,2,none⟩ u2).setCell ⟨g,3,none⟩ u3).setCell ⟨g,4,none⟩ u4).setCell ⟨g,5,none⟩ u5) k t cs :=
 (((((h.far (p:=⟨g,0,none⟩) hk _).far (p:=⟨g,1,none⟩) hk _).far (p:=⟨g,2,none⟩) hk _).far (p:=⟨g,3,none⟩) hk _).far (p:=⟨g,4,none⟩) hk _).far (p:=⟨g,5,none⟩) hk _
theorem v6_near {B g:Nat} {wb:World} {t:TypeId} {W H r cl:Int} {rows:List (List Gl)} {vs:Bool} {A:Option Addr} {n c:Nat} (h:Blk wb g t (vwC ⟨W,H,rows,r,cl,vs⟩ A n c)) (hg:g<B) :
  (∀ x:Near B wb,x.w.cell? ⟨g,0,none⟩=some (.int .i64 W))/\(∀ x:Near B wb,x.w.cell? ⟨g,1,none⟩=some (.int .i64 H))/\(∀ x:Near B wb,x.w.cell? ⟨g,2,none⟩=some (.slice A n c))/\(∀ x:Near B wb,x.w.cell? ⟨g,3,none⟩=some (.int .i64 r))/\(∀ x:Near B wb,x.w.cell? ⟨g,4,none⟩=some (.int .i64 cl))/\(∀ x:Near B wb,x.w.cell? ⟨g,5,none⟩=some (.bool vs)) :=
 ⟨fun x=>(h.below x.h hg).cell 0,fun x=>(h.below x.h hg).cell 1,fun x=>(h.below x.h hg).cell 2,fun x=>(h.below x.h hg).cell 3,fun x=>(h.below x.h hg).cell 4,fun x=>(h.below x.h hg).cell 5⟩
theorem vw12 {X:World} {g:Nat} {t:TypeId} {W H r cl:Int} {rows:List (List Gl)} {vs:Bool} {A:Option Addr} {n c:Nat} (h:Blk X g t (vwC ⟨W,H,rows,r,cl,vs⟩ A n c)):X.cell? ⟨g,0,none⟩=some (.int .i64 W)/\X.cell? ⟨g,1,none⟩=some (.int .i64 H)/\X.cell? ⟨g,2,none⟩=some (.slice A n c)/\X.cell? ⟨g,3,none⟩=some (.int .i64 r)/\X.cell? ⟨g,4,none⟩=some (.int .i64 cl)/\X.cell? ⟨g,5,none⟩=some (.bool vs) /\
  X.frozen? ⟨g,0,none⟩=false/\X.frozen? ⟨g,1,none⟩=false/\X.frozen? ⟨g,2,none⟩=false/\X.frozen? ⟨g,3,none⟩=false/\X.frozen? ⟨g,4,none⟩=false/\X.frozen? ⟨g,5,none⟩=false :=
 ⟨h.cell 0,h.cell 1,h.cell 2,h.cell 3,h.cell 4,h.cell 5,h.frozen 0,h.frozen 1,h.frozen 2,h.frozen 3,h.frozen 4,h.frozen 5⟩
theorem qkW (v:Vw) (A:Option Addr) (n c B:Nat) (rs:List RowM) (cs:List ChgM) (Ac:Option Addr) (nc cc:Nat) (w:World) (rd:RdV w B v A n c rs) (rc:RdC w w.heap.size Ac nc cs) (hcc:nc<=cc) (hcm:cc<=maxLen) (hB:B<=w.heap.size)
  (hM : ∀ x∈rs,x.l.length+glN (zo cs)<=100000000) (hz : ∀ x∈rs,∀ g∈x.l,g.text.size<=1000000000) (hgz : ∀ x∈cs,x.c.glyphs.length<=100000000/\∀ g∈x.c.glyphs,g.text.size<=1000000000) (hnc:nc<=1000000) :
  Calls prog 17 #[.agg (vwC v A n c),.slice Ac nc cc] w (RaR B A n c rs (yx v (zo cs)) w):=by
 obtain ⟨R,hR⟩ : ∃ R,Hid (yx v (zo cs)=R):=⟨_,Lh rfl⟩
 rw [hR.out]
 have HCh:Hid (∀ w',Below w.heap.size w w'->Calls prog 31 #[.agg (vwC v A n c)] w' (qh (.int .i64 (js v)) w')):=Lh fun w' hb=>qjk v A n c w.heap.size rs w' ((rd.more hB).below hb) hb.size (fun x hx=>⟨by have:=hM x hx;omega,hz x hx⟩)
 have HLn:Hid (LenV v (100000000-glN (zo cs))):=Lh fun l hl=>by
  rw [rd.2.1] at hl
  obtain ⟨x,hx,rfl⟩:=List.mem_map.1 hl
  have:=hM x hx
  omega
 have HGl0:Hid (v.rows≠[]->glN (zo cs)<=100000000):=Lh fun h=>by
  rw [rd.2.1] at h
  cases rs with
  | nil=>exact absurd rfl h
  | cons x t=>have:=hM x (by simp);omega
 have HRc:=Lh rc
 have HGz:=Lh hgz
 have HRd:=Lh rd
 have hnl:cs.length=nc:=rc.len
 clear rd rc hM hz hgz
 obtain ⟨W,Hh,rows,vr,vc,vis⟩:=v
 go_enter func17,ntmps17
 go_upto_region 1 with fail
 refine qa (fun X=>Blk X w.heap.size 24 (vwC ⟨W,Hh,rows,vr,vc,vis⟩ A n c)/\ZB X (w.heap.size+1)/\Below w.heap.size w X) ⟨(Blk.new_ rfl).alloc _,Blk.new_ (by simp),((Le _ _).alloc (Ld _) _).alloc (by simp) _⟩ ?_
 rintro X ⟨hv,hzb,hb⟩
 obtain ⟨e0,e1,e2,e3,e4,e5⟩:=qw hv;dsimp only at e0 e1 e2 e3 e4 e5
 have hlz:=hzb.lt
 by_cases hv0:js ⟨W,Hh,rows,vr,vc,vis⟩=0
 ·have h0:(js ⟨W,Hh,rows,vr,vc,vis⟩ != 0)=false:=by rw [hv0];rfl
  have hOn:=OnV.of hv0
  have hRe:R=goV ⟨W,Hh,rows,vr,vc,vis⟩ (zo cs):=by rw [<- hR.out,yx,if_neg (by simpa using hv0)]
  have hGl1:glN (zo cs)<=100000000:=HGl0.out fun e=>by have h1:=hOn.rows;have h2:=jW.1 hOn.size;rw [e] at h1;simp at h1;dsimp only at h2;omega
  have hI : ∀ Y,Below X.heap.size X Y->RaL w B A n c rs cs R 0 Y:=fun Y hY=>⟨⟨W,Hh,rows,vr,vc,vis⟩,A,n,c,rs,hv.below hY hv.lt,.inl (HRd.out.below ((hb.trans (hY.mono hb.size)).mono hB)),.inl ⟨rfl,rfl,rfl,rfl⟩,hOn,HLn.out,hRe,hzb.below hY hlz,hb.trans (hY.mono hb.size)⟩
  replace hI:=Lh hI
  generalize js ⟨W,Hh,rows,vr,vc,vis⟩=VC at *
  clear hv0 HLn HGl0 hR hOn hRe
  go_upto_region 3 with (go_at_call 31;refine (HCh.out _ hb).mono ?_;rintro e w1 ⟨rfl,hb1⟩)
  have hI0:=hI.out _ hb1
  clear hI hb1 h0 e0 e1 e2 e3 e4 e5 hv hzb hb HCh hlz HRd
  clear X
  go_wp2
  go_loopw [7] (fun x wr=>∃ k:Nat,k<=nc/\x = .int .i64 k/\RaL w B A n c rs cs R k wr) (fun x _=>nc-(intOf x).toNat)
  case atStart=>exact ⟨0,Nat.zero_le _,rfl,hI0⟩
  case round =>
   clear hI0
   obtain ⟨k,hk,rfl,v1,A1,n1,c1,rs1,hv,hx,hsa,hOn,hLn,hRe,hzb,hb⟩:=hrel
   have hzlt:=hzb.lt
   have hBz:B<=wr.heap.size:=Lj hB hb.size
   by_cases hlt:k<nc
   ·have hkc:k<cs.length:=by omega
    have hrc:=(HRc.out.below hb).more hb.size
    obtain ⟨b,o,rfl,hbl,k0,k1,k2,k3,k4,k5⟩:=hrc.at_ hkc
    have hxm:=Lt hkc
    have hs:=jW.1 hOn.size
    have hg1:=qkz (zo cs) k
    rw [show (zo cs).drop k=zo (cs.drop k) from by unfold zo;rw [List.map_drop],qbd hkc,qb3] at hg1
    rw [qbd hkc,qb3] at hLn
    have hrd:=hx.rdV hBz
    have hrl : ∀ x∈rs1,x.l.length<=100000000:=fun x hx1=>by
     have:=hLn x.l (by rw [hx.eq];exact List.mem_map_of_mem hx1)
     omega
    have HCk:Hid (∀ w',Below wr.heap.size wr w'->Calls prog 36 #[.agg (vwC v1 A1 n1 c1),jH cs[k].c cs[k].A cs[k].cap] w' (qh (.int .i64 (qan v1 cs[k].c)) w')):=Lh fun w' hb' =>
     rfits19_ v1 A1 n1 c1 wr.heap.size rs1 cs[k].c cs[k].A cs[k].cap w' (hrd.below hb') hb'.size hOn.rows hOn.size (fun x hx=>Lj (hrl x hx) (by decide)) ((hrc.gl _ hxm).1.below hb') (Lj (HGz.out _ hxm).1 (by decide)) (HGz.out _ hxm).2
    have HAp:Hid (qan v1 cs[k].c=0->∀ w',Below wr.heap.size wr w'->Calls prog 37 #[.agg (vwC v1 A1 n1 c1),jH cs[k].c cs[k].A cs[k].cap] w' fun e w''=>∃ v2 A2 n2 c2,e = .returned (.agg #[.int .i64 v2.width,.int .i64 v2.height,.slice A2 n2 c2,.int .i64 v2.row,.int .i64 v2.col,.bool v2.vis])/\Below wr.heap.size wr w''/\RaL w B A n c rs cs R (k+1) (set6v w'' w.heap.size v2 A2 n2 c2)):=Lh fun h0 w' hb'=>by
     obtain ⟨q1,q2,q3,q4⟩:=qey h0
     have hg:=hrc.gl _ hxm
     refine (rstep19_ v1 A1 n1 c1 wr.heap.size rs1 cs[k].c cs[k].A cs[k].cap w' (hrd.below hb') hb'.size hOn h0 hrl (hg.1.below hb') (HGz.out _ hxm).1 hg.2.1 hg.2.2).mono ?_
     rintro e w'' ⟨hb2,h2⟩
     have hb3:Below wr.heap.size wr w'':=hb'.trans (hb2.mono hb'.size)
     have hxx : ∃ A2 n2 c2 rs2,e = .returned (.agg (vwC (jY v1 cs[k].c) A2 n2 c2))/\XV B (w.heap.size+2) w'' (jY v1 cs[k].c) A2 n2 c2 rs2/\SaR (w.heap.size+2) A n c rs w'' (jY v1 cs[k].c) A2 n2 c2 rs2:=by
      rcases h2 with ⟨A2,n2,c2,rs2,h3,h4⟩ | ⟨h3,h4⟩
      ·exact ⟨A2,n2,c2,rs2,h3,.inr (h4.less (by have:=hb'.size;omega)),.inr (h4.less (by have:=hb'.size;omega))⟩
      ·exact ⟨A1,n1,c1,rs1,h4,(hx.below hBz hb3).rows h3,(hsa.below hb3).rows2 h3⟩
     obtain ⟨A2,n2,c2,rs2,rfl,hx2,hs2⟩:=hxx
     have hvl:=hv.lt
     refine ⟨jY v1 cs[k].c,A2,n2,c2,rfl,hb3,jY v1 cs[k].c,A2,n2,c2,rs2,qkQ (hv.below hb3 hvl) _ _ _ _,hx2.set6 hB (by omega) _ _ _ _ _ _,hs2.set6 (by omega) _ _ _ _ _ _,hOn.step h0,?_,?_,?_,qap (hb.trans (hb3.mono hb.size)) (Ld _) _ _ _ _ _ _⟩
     ·intro l hl
      have:=(hLn.step q3) l hl
      omega
     ·rw [hRe,qbd hkc,goV,if_neg (by simpa using h0)]
     ·exact blk_far6 (hzb.below hb3 hzlt) (by omega) _ _ _ _ _ _
    have HRn:Hid (qan v1 cs[k].c≠0->R=(vw0,qan v1 cs[k].c)):=Lh fun h0=>by
     rw [hRe,qbd hkc,goV,if_pos h0]
    have hzb':=Lh hzb
    have hb':=Lh hb
    have hBw:=hb.size
    generalize hF:qan v1 cs[k].c=F at *
    clear hF
    generalize cs[k]=x at *
    obtain ⟨⟨kind,row,col,count,til,gl⟩,Ag,cap⟩:=x
    obtain ⟨vW,vH,vrows,vr1,vc1,vis1⟩:=v1
    dsimp only at *
    have hkn:(k:Int)<nc:=by omega
    have hkcc:(k:Int)<cc:=by omega
    have hcc9:(cc:Int)<=9223372036854775807:=by unfold maxLen at hcm;omega
    obtain ⟨p0,p1,p2,p3,p4,p5⟩:=v6_near (B:=wr.heap.size) hv hv.lt
    have N0 : ∀ x:Near wr.heap.size wr,x.w.cell? ⟨b,o+k * 6,none⟩=some (.int .i64 kind):=fun x=>(x.h.cell (p:=⟨b,o+k * 6,none⟩) hbl).trans k0
    have N1 : ∀ x:Near wr.heap.size wr,x.w.cell? ⟨b,o+k * 6+1,none⟩=some (.int .i64 row):=fun x=>(x.h.cell (p:=⟨b,o+k * 6+1,none⟩) hbl).trans k1
    have N2 : ∀ x:Near wr.heap.size wr,x.w.cell? ⟨b,o+k * 6+2,none⟩=some (.int .i64 col):=fun x=>(x.h.cell (p:=⟨b,o+k * 6+2,none⟩) hbl).trans k2
    have N3 : ∀ x:Near wr.heap.size wr,x.w.cell? ⟨b,o+k * 6+3,none⟩=some (.int .i64 count):=fun x=>(x.h.cell (p:=⟨b,o+k * 6+3,none⟩) hbl).trans k3
    have N4 : ∀ x:Near wr.heap.size wr,x.w.cell? ⟨b,o+k * 6+4,none⟩=some (.int .i64 til):=fun x=>(x.h.cell (p:=⟨b,o+k * 6+4,none⟩) hbl).trans k4
    have N5 : ∀ x:Near wr.heap.size wr,x.w.cell? ⟨b,o+k * 6+5,none⟩=some (.slice Ag gl.length cap):=fun x=>(x.h.cell (p:=⟨b,o+k * 6+5,none⟩) hbl).trans k5
    have hzz:=Ld wr.heap.size
    have hv0:=hv
    have hvl:=hv.lt
    have HCn:Hid (∀ x:Near wr.heap.size wr,Calls prog 36 #[.agg (vwC ⟨vW,vH,vrows,vr1,vc1,vis1⟩ A1 n1 c1),jH ⟨kind,row,col,count,til,gl⟩ Ag cap] x.w (qh (.int .i64 F) x.w)):=Lh fun x=>HCk.out x.w x.h
    clear hx hsa hOn hLn hRe hg1 hrl hs hxm hzb hb hrd hrc k0 k1 k2 k3 k4 k5 HCk
    go_upto_region 6 with fail
    refine qc wr.heap.size (by kernel_rfl) (by kernel_rfl) ?_;(repeat (go_big_quiet_step ((go_at_call 36;exact Calls.near _ hzz (HCn.out _)))));refine wpQuiet_nil ?_;intro _ hw';obtain ⟨x1,hw''⟩:=hw';subst hw''
    have hv1:=hv.below x1.h hv.lt
    have hl1:=Ly hv.lt x1.h.size
    have hz1:=x1.h.size
    have hzl1:=Ly hzlt x1.h.size
    have q0:=N0 x1
    have q1:=N1 x1
    have q2:=N2 x1
    have q3:=N3 x1
    have q4:=N4 x1
    have q5:=N5 x1
    have hb1:=Lh x1.h
    generalize x1.w=Y at *
    clear N0 N1 N2 N3 N4 N5 p0 p1 p2 p3 p4 p5 HCn hv x1
    obtain ⟨e0,e1,e2,e3,e4,e5⟩:=qw hv1;dsimp only at e0 e1 e2 e3 e4 e5
    by_cases hf:F=0
    ·subst hf
     have h00:((0:Int) != 0)=false:=rfl
     have HA:=Lh (HAp.out rfl)
     clear HAp HRn
     go_upto_region 9 with fail
     go_region_law (go_simp;go_at_call 37;refine (HA.out _ (by first | exact hb1.out | exact hb1.out.drew)).mono ?_;rintro e w2 ⟨v2,A2,n2,c2,rfl,hb2,hL2⟩;obtain ⟨z0,z1,z2,z3,z4,z5,y0,y1,y2,y3,y4,y5⟩:=vw12 (Blk.below hv0 hb2 hvl))
     all_goals go_wp2
     all_goals exact ⟨⟨k+1,by omega,by go_num,hL2⟩,by simp [intOf];omega⟩
    ·have hne:(F != 0)=true:=Ln.2 hf
     have hRn:=Lh (HRn.out hf)
     have hZ1:=hzb'.out.below hb1.out hzlt
     have hbq:=hb'.out.trans (hb1.out.mono hBw)
     clear HAp HRn hf
     obtain ⟨z0,z1,z2,z3,z4,z5,y0,y1,y2,y3,y4,y5⟩:=ZB.facts hZ1
     go_wp2
     have hZ2:=ZB.set6 hZ1 vw0 none 0 0
     exact bodyPost_ret (qah rfl _ _ (w.heap.size+1) 24 _ (0,0) _ rfl hZ2 underlying24 rfl kI) rfl (RaR.err hRn.out hbq _ _ _ _ _ _)
   ·obtain rfl:nc=k:=by omega
    obtain ⟨vW,vH,vrows,vr1,vc1,vis1⟩:=v1
    have hRe2:R=if qcz ⟨vW,vH,vrows,vr1,vc1,vis1⟩=true then (⟨vW,vH,vrows,vr1,vc1,vis1⟩,0) else (vw0,12):=by
     rw [hRe,Lv (by omega),show zo []=[] from rfl,goV]
    have hRl:vrows=rls rs1:=hx.eq
    have hrd:=hx.rdV hBz
    have hn1:rs1.length=n1:=hrd.1.len
    have hn9:(n1:Int)<=9223372036854775807:=by have h1:=hx.cap.1;have h2:=hx.cap.2;unfold maxLen at h2;omega
    have hm : ∀ x∈rs1,x.l.length<=100000000:=fun x hx1=>by
     have:=hLn x.l (by rw [hx.eq];exact List.mem_map_of_mem hx1)
     omega
    have hWq:Hid (∀ j (h:j<rs1.length) w',Below wr.heap.size wr w'->∃ b o,A1=some ⟨b,o,none⟩/\w'.cell? ⟨b,o+j,none⟩=some (.slice rs1[j].A rs1[j].l.length rs1[j].cap)/\∀ m,Calls prog 38 #[.slice rs1[j].A rs1[j].l.length rs1[j].cap] (w'.drewN m) (Quiet (.int .i64 (vM rs1[j].l:Nat)) (w'.drewN m))):=Lh fun j h w' hb'=>by
     have hxm:=Lt h
     obtain ⟨b,o,h1,-,h3⟩:=(hrd.1.below hb').at_ h
     exact ⟨b,o,h1,h3,fun m=>(qjp _ _ _ rs1[j].cap wr.heap.size (w'.drewN m) (by have:=hm _ hxm;omega) ((hrd.1.gl _ hxm).1.below (qf hb'))).mono fun e w'' ⟨h1,h2⟩=>⟨h1,0,by subst h2;rfl⟩⟩
    have hRt:Hid ((∀ j (h:j<rs1.length),(vM rs1[j].l:Int)<=vW)->R=(⟨vW,vH,vrows,vr1,vc1,vis1⟩,0)):=Lh fun h=>by
     rw [hRe2,if_pos]
     unfold qcz
     rw [List.all_eq_true,hRl]
     intro l hl
     obtain ⟨x,hx,rfl⟩:=List.mem_map.1 hl
     obtain ⟨i,hi,rfl⟩:=List.getElem_of_mem hx
     exact Ll (h i hi)
    have hRf:Hid (∀ j (h:j<rs1.length),vW<(vM rs1[j].l:Int)->R=(vw0,12)):=Lh fun j h hl=>by
     rw [hRe2,if_neg]
     unfold qcz
     rw [List.all_eq_true,hRl]
     intro h2
     have:=of_decide_eq_true (h2 rs1[j].l (List.mem_map_of_mem (Lt h)))
     dsimp only at this
     omega
    have hx':=Lh hx
    have hsa':=Lh hsa
    have hv':=Lh hv
    have hz':=Lh hzb
    have hb':=Lh hb
    have hvl:=hv.lt
    have hbs:=hb.size
    obtain ⟨e0,e1,e2,e3,e4,e5⟩:=qw hv;dsimp only at e0 e1 e2 e3 e4 e5
    clear hx hsa hOn hLn hRe hRe2 hm hRl hzb hb hv hrd
    obtain ⟨wo,rfl⟩ : ∃ x:World,x=wr:=⟨_,rfl⟩
    go_wp2
    go_loopw [9] (fun x wz=>∃ j:Nat,j<=rs1.length/\x = .int .i64 j/\Below wo.heap.size wo wz/\Hid (∀ i (h:i<rs1.length),i<j->(vM rs1[i].l:Int)<=vW)) (fun x _=>rs1.length-(intOf x).toNat)
    case atStart=>exact ⟨0,Nat.zero_le _,rfl,Le _ _,Lh fun i h h0=>absurd h0 (Nat.not_lt_zero _)⟩
    case round =>
     clear e0 e1 e2 e3 e4 e5
     obtain ⟨j,hj,rfl,hbq,hq⟩:=hrel
     obtain ⟨e0,e1,e2,e3,e4,e5⟩:=qw (hv'.out.below hbq hvl);dsimp only at e0 e1 e2 e3 e4 e5
     by_cases hjl:j<rs1.length
     ·obtain ⟨b,o,rfl,hcx,hw⟩:=hWq.out j hjl _ hbq
      have hR2:=Lh (hRf.out j hjl)
      have hQ2:Hid ((vM rs1[j].l:Int)<=vW->∀ i (h:i<rs1.length),i<j+1->(vM rs1[i].l:Int)<=vW):=Lh fun h0 i h hi=>by
       by_cases hij:i=j
       ·subst hij;exact h0
       ·exact hq.out i h (by omega)
      have hW:=Lh hw
      have hji:(j:Int)<n1:=by omega
      clear hq hw hWq hRf hRt
      generalize rs1[j]=x at *
      obtain ⟨l,Al,cl⟩:=x
      dsimp only at *
      generalize vM l=rw0 at *
      by_cases hgt:vW<(rw0:Int)
      ·have hd:decide (vW<(rw0:Int))=true:=Ll hgt
       have hR3:=Lh (hR2.out hgt)
       have hZ1:=hz'.out.below hbq hzlt
       have hbw:=hb'.out.trans (hbq.mono hbs)
       clear hR2 hQ2
       go_wp2
       go_quiet ((go_at_call 38;exact Calls.quiet_of (hW.out _)))
       obtain ⟨z0,z1,z2,z3,z4,z5,y0,y1,y2,y3,y4,y5⟩:=ZB.facts hZ1
       go_wp2
       exact bodyPost_ret (qah rfl _ _ (w.heap.size+1) 24 _ (0,0) _ rfl (ZB.set6 (Blk.drewN hZ1 nq) vw0 none 0 0) underlying24 rfl kI) rfl (RaR.err hR3.out (qf hbw) _ _ _ _ _ _)
      ·have hd:decide (vW<(rw0:Int))=false:=Lk hgt
       have hQ3:=Lh (hQ2.out (by omega))
       clear hR2 hQ2
       go_wp2
       go_quiet ((go_at_call 38;exact Calls.quiet_of (hW.out _)))
       go_wp2
       exact ⟨⟨j+1,by omega,by go_num,qf hbq,hQ3⟩,by simp [intOf];omega⟩
     ·obtain rfl:rs1.length=j:=by omega
      have hRz:=hRt.out fun i h=>hq.out i h h
      have hZ1:=hz'.out.below hbq hzlt
      have hbw:=hb'.out.trans (hbq.mono hbs)
      have hx2:=(hx'.out.below hBz hbq).set6 (g:=w.heap.size+1) (by omega) (by omega) (.int .i64 vW) (.int .i64 vH) (.slice A1 n1 c1) (.int .i64 vr1) (.int .i64 vc1) (.bool vis1)
      have hs2:=(hsa'.out.below hbq).set6 (g:=w.heap.size+1) (by omega) (.int .i64 vW) (.int .i64 vH) (.slice A1 n1 c1) (.int .i64 vr1) (.int .i64 vc1) (.bool vis1)
      obtain ⟨z0,z1,z2,z3,z4,z5,y0,y1,y2,y3,y4,y5⟩:=ZB.facts hZ1
      subst hRz
      go_wp2
      exact bodyPost_ret (qah rfl _ _ (w.heap.size+1) 24 _ (0,0) _ rfl (ZB.set6 hZ1 ⟨vW,vH,vrows,vr1,vc1,vis1⟩ A1 n1 c1) underlying24 rfl kI) rfl ⟨qap hbw (by omega) _ _ _ _ _ _,A1,n1,c1,rs1,0,rfl,hx2.less (by omega),hs2.less (by omega)⟩
 ·have hne:(js ⟨W,Hh,rows,vr,vc,vis⟩ != 0)=true:=Ln.2 hv0
  have hRe:Hid (R=(vw0,1)):=Lh (by rw [<- hR.out,yx,if_pos (by simpa using hv0)])
  generalize js ⟨W,Hh,rows,vr,vc,vis⟩=VC at *
  clear hv0 HLn HGl0 HRc HGz hR
  go_wp2_with (go_at_call 31;refine (HCh.out _ hb).mono ?_;rintro e w1 ⟨rfl,hb1⟩;have hZ1:=hzb.below hb1 hlz;obtain ⟨z0,z1,z2,z3,z4,z5,y0,y1,y2,y3,y4,y5⟩:=ZB.facts hZ1)
  have hZ2:=ZB.set6 hZ1 vw0 none 0 0
  exact bodyPost_ret (qah rfl _ _ (w.heap.size+1) 24 _ (0,0) _ rfl hZ2 underlying24 rfl kI) rfl (RaR.err hRe.out (hb.trans (hb1.mono hb.size)) _ _ _ _ _ _)
theorem qkI {m:Md} (hp:vu m=true) {l:List Chg} {k:Int} (S:Setts) (hc : ∀ c∈l,vj c=0) (h0:0<=k) (hk:k<=65535) (hu:m.upd<=549755813888) :
  yT m (qZ l k S)=if (yx m.view l).2≠0 then (md0,(yx m.view l).2) else (⟨(yx m.view l).1,m.upd+k⟩,0):=by
 unfold yT
 rw [if_neg (by rw [hp];decide),qby l k S h0 (by omega) hc]
 dsimp only
 by_cases h:(yx m.view l).2≠0
 ·rw [if_pos h,if_pos h]
 ·rw [if_neg h,if_neg h,if_neg (by unfold MaxT;omega)]
theorem qkO (M:Nat) : ∀ l:List Chg,(∀ c∈l,c.glyphs.length<=M)->glN l<=l.length * (M+264)
 | [],_=>by simp [glN]
 | c::t,h=>by
  have h1:=h c (by simp)
  have h2:=qkO M t fun x hx=>h x (by simp [hx])
  rw [qb3,Lp,Nat.add_mul]
  omega
theorem qkH {l:List ChgM} (h:qci l=false) : ∀ x∈l,x.c.glyphs.length<=140/\∀ g∈x.c.glyphs,g.text.size<=40:=by
 unfold qci at h
 rw [Bool.or_eq_false_iff] at h
 intro x hx
 have h2:=List.any_eq_false.1 h.2 x hx
 simp only [zA,Bool.or_eq_true,decide_eq_true_eq,List.any_eq_true,not_or,not_exists,not_and] at h2
 exact ⟨by omega,fun g hg=>by have:=h2.2 g hg;omega⟩
theorem law_ListenerExact (w:World) (hg:Gd w/\Tb w) (m:Md) (A:Option Addr) (n c:Nat) (rs:List RowM) (rd:RdV w w.heap.size m.view A n c rs) (Ac:Option Addr) (nc cc:Nat) (l:List ChgM) (hn:l.length=nc) (hc:nc<=cc) (hm:cc<=maxLen) (rc:RdC w w.heap.size Ac nc l) (a:Int) (wa:(Lit.int .u16 a).wf=true)
  (r1:Int) (d1 sp1:Bool) (q1:Int) (co1:Bool) (k1:Int) (_:(Lit.int .i64 r1).wf=true) (_:(Lit.int .i64 q1).wf=true) (_:(Lit.int .i64 k1).wf=true) :
  Calls prog 4 #[.agg (mdC m A n c),.slice Ac nc cc,.int .u16 a,stV r1 d1 sp1 q1 co1 k1] w (qh (.bool true) w):=by
 obtain ⟨hg,ht⟩:=hg
 obtain ⟨ha0,ha1⟩:=wf_u16 wa
 have ea:wrap64 a=a:=by unfold wrap64;omega
 clear wa
 have HA:Hid (∀ X,Below w.heap.size w X->Calls prog 10 #[] X fun e X'=>e = .returned (.bool true)/\Below w.heap.size w X'/\Below X.heap.size X X'):=Lh fun X hX=>bothG (awake42_ X (hg.below hX)) hX
 have HG:Hid (∀ X,Below w.heap.size w X->Calls prog 8 #[.agg (vwC m.view A n c)] X fun e X'=>e = .returned (.bool (qaC m.view))/\Below w.heap.size w X'/\Below X.heap.size X X'):=Lh fun X hX=>bothG (qek m.view A n c w.heap.size rs X (rd.below hX) hX.size) hX
 have HC9:Hid (∀ X,Below w.heap.size w X->Calls prog 14 #[.slice Ac nc cc] X fun e X'=>e = .returned (.bool (qci l))/\Below w.heap.size w X'/\Below X.heap.size X X'):=Lh fun X hX=>bothS (great19_ l Ac nc cc w.heap.size X (by omega) (rc.below hX)) hX
 cases hgr:qaC m.view with
 | true =>
  rw [hgr] at HG
  clear hg rd hgr ht HC9 rc
  obtain ⟨⟨W,H,rows,r,cl,vs⟩,U⟩:=m
  dsimp only at HG
  go_enter func4,ntmps4
  go_upto_region 1 with fail
  refine qa (Bx2 w ⟨⟨W,H,rows,r,cl,vs⟩,U⟩ A n c r1 d1 sp1 q1 co1 k1) (Bx2.new w _ A n c _ _ _ _ _ _) ?_
  intro X hX
  obtain ⟨c_0,c_1,c_2,c_3,c_4,c_5,c_6,-,-,-,-,-,-,-⟩:=zd hX.m;dsimp only at c_0 c_1 c_3 c_4 c_5 c_6
  go_wp2_with (first | (go_at_call 8;refine (HG.out _ hX.bel).mono ?_;rintro e w1 ⟨rfl,hb1,hx1⟩;have hX1:=hX.on hx1;obtain ⟨p_0,p_1,p_2,p_3,p_4,p_5,p_6,-,-,-,-,-,-,-⟩:=zd hX1.m;dsimp only at p_0 p_1 p_3 p_4 p_5 p_6) | (go_at_call 10;refine (HA.out _ (by assumption)).mono ?_;rintro e wa ⟨rfl,hba,hxa⟩))
  go_ret
  exact ⟨rfl,hba⟩
 | false =>
  rw [hgr] at HG
  have hsm : ∀ x∈rs,x.l.length<=140/\∀ g∈x.l,g.text.size<=40:=fun x hx=>qcF hgr x.l (by rw [rd.2.1];exact kB hx)
  cases hgc:qci l with
  | true =>
   rw [hgc] at HC9
   clear hg rd hgr ht rc hgc hsm
   obtain ⟨⟨W,H,rows,r,cl,vs⟩,U⟩:=m
   dsimp only at HG
   go_enter func4,ntmps4
   go_upto_region 1 with fail
   refine qa (Bx2 w ⟨⟨W,H,rows,r,cl,vs⟩,U⟩ A n c r1 d1 sp1 q1 co1 k1) (Bx2.new w _ A n c _ _ _ _ _ _) ?_
   intro X hX
   obtain ⟨c_0,c_1,c_2,c_3,c_4,c_5,c_6,-,-,-,-,-,-,-⟩:=zd hX.m;dsimp only at c_0 c_1 c_3 c_4 c_5 c_6
   go_wp2_with (first | (go_at_call 8;refine (HG.out _ hX.bel).mono ?_;rintro e w1 ⟨rfl,hb1,hx1⟩;have hX1:=hX.on hx1;obtain ⟨p_0,p_1,p_2,p_3,p_4,p_5,p_6,-,-,-,-,-,-,-⟩:=zd hX1.m;dsimp only at p_0 p_1 p_3 p_4 p_5 p_6) | (go_at_call 14;refine (HC9.out _ hX1.bel).mono ?_;rintro e w2 ⟨rfl,hb2,hx2⟩;have hX2:=hX1.on hx2;obtain ⟨q_0,q_1,q_2,q_3,q_4,q_5,q_6,-,-,-,-,-,-,-⟩:=zd hX2.m;dsimp only at q_0 q_1 q_3 q_4 q_5 q_6) | (go_at_call 10;refine (HA.out _ (by assumption)).mono ?_;rintro e wa ⟨rfl,hba,hxa⟩))
   go_ret
   exact ⟨rfl,hba⟩
  | false =>
   rw [hgc] at HC9
   obtain ⟨hl30,hsc⟩:=qga hgc
   have HP:Hid (∀ X,Below w.heap.size w X->Calls prog 15 #[.agg (mdC m A n c)] X fun e X'=>e = .returned (.bool (vu m))/\Below w.heap.size w X'/\Below X.heap.size X X'):=Lh fun X hX=>bothG (qbM m A n c w.heap.size rs X (rd.below hX) hX.size fun x hx=>⟨Lj (hsm x hx).1 (by decide),fun g hg=>Lj ((hsm x hx).2 g hg) (by decide)⟩) hX
   cases hpr:vu m with
   | false =>
    rw [hpr] at HP
    clear hg rd hgr ht rc hgc hsm hpr hsc
    obtain ⟨⟨W,H,rows,r,cl,vs⟩,U⟩:=m
    dsimp only at HG
    go_enter func4,ntmps4
    go_upto_region 1 with fail
    refine qa (Bx2 w ⟨⟨W,H,rows,r,cl,vs⟩,U⟩ A n c r1 d1 sp1 q1 co1 k1) (Bx2.new w _ A n c _ _ _ _ _ _) ?_
    intro X hX
    obtain ⟨c_0,c_1,c_2,c_3,c_4,c_5,c_6,-,-,-,-,-,-,-⟩:=zd hX.m;dsimp only at c_0 c_1 c_3 c_4 c_5 c_6
    go_wp2_with (first | (go_at_call 8;refine (HG.out _ hX.bel).mono ?_;rintro e w1 ⟨rfl,hb1,hx1⟩;have hX1:=hX.on hx1;obtain ⟨p_0,p_1,p_2,p_3,p_4,p_5,p_6,-,-,-,-,-,-,-⟩:=zd hX1.m;dsimp only at p_0 p_1 p_3 p_4 p_5 p_6) | (go_at_call 14;refine (HC9.out _ hX1.bel).mono ?_;rintro e w2 ⟨rfl,hb2,hx2⟩;have hX2:=hX1.on hx2;obtain ⟨q_0,q_1,q_2,q_3,q_4,q_5,q_6,-,-,-,-,-,-,-⟩:=zd hX2.m;dsimp only at q_0 q_1 q_3 q_4 q_5 q_6) | (go_at_call 15;refine (HP.out _ hX2.bel).mono ?_;rintro e w3 ⟨rfl,hb3,hx3⟩;have hX3:=hX2.on hx3;obtain ⟨r_0,r_1,r_2,r_3,r_4,r_5,r_6,-,-,-,-,-,-,-⟩:=zd hX3.m;dsimp only at r_0 r_1 r_3 r_4 r_5 r_6;obtain ⟨s_0,s_1,s_2,s_3,s_4,s_5⟩:=hX3.setts) | (go_at_call 10;refine (HA.out _ (by assumption)).mono ?_;rintro e wa ⟨rfl,hba,hxa⟩))
    go_ret
    exact ⟨rfl,hba⟩
   | true =>
    rw [hpr] at HP
    by_cases hU:549755813888<m.upd
    ·clear hg rd hgr ht rc hgc hsm hpr hsc
     obtain ⟨⟨W,H,rows,r,cl,vs⟩,U⟩:=m
     dsimp only at HG hU
     go_enter func4,ntmps4
     go_upto_region 1 with fail
     refine qa (Bx2 w ⟨⟨W,H,rows,r,cl,vs⟩,U⟩ A n c r1 d1 sp1 q1 co1 k1) (Bx2.new w _ A n c _ _ _ _ _ _) ?_
     intro X hX
     obtain ⟨c_0,c_1,c_2,c_3,c_4,c_5,c_6,-,-,-,-,-,-,-⟩:=zd hX.m;dsimp only at c_0 c_1 c_3 c_4 c_5 c_6
     go_wp2_with (first | (go_at_call 8;refine (HG.out _ hX.bel).mono ?_;rintro e w1 ⟨rfl,hb1,hx1⟩;have hX1:=hX.on hx1;obtain ⟨p_0,p_1,p_2,p_3,p_4,p_5,p_6,-,-,-,-,-,-,-⟩:=zd hX1.m;dsimp only at p_0 p_1 p_3 p_4 p_5 p_6) | (go_at_call 14;refine (HC9.out _ hX1.bel).mono ?_;rintro e w2 ⟨rfl,hb2,hx2⟩;have hX2:=hX1.on hx2;obtain ⟨q_0,q_1,q_2,q_3,q_4,q_5,q_6,-,-,-,-,-,-,-⟩:=zd hX2.m;dsimp only at q_0 q_1 q_3 q_4 q_5 q_6) | (go_at_call 15;refine (HP.out _ hX2.bel).mono ?_;rintro e w3 ⟨rfl,hb3,hx3⟩;have hX3:=hX2.on hx3;obtain ⟨r_0,r_1,r_2,r_3,r_4,r_5,r_6,-,-,-,-,-,-,-⟩:=zd hX3.m;dsimp only at r_0 r_1 r_3 r_4 r_5 r_6;obtain ⟨s_0,s_1,s_2,s_3,s_4,s_5⟩:=hX3.setts) | (go_at_call 10;refine (HA.out _ (by assumption)).mono ?_;rintro e wa ⟨rfl,hba,hxa⟩))
     go_ret
     exact ⟨rfl,hba⟩
    ·have hup:0<=m.upd:=by
      unfold vu at hpr
      exact (of_decide_eq_true hpr).2.1
     have HW1 : ∀ X,Below w.heap.size w X->Calls prog 16 #[.slice Ac nc cc,.int .i64 a,stV r1 d1 sp1 q1 co1 k1] X (VwR l a r1 q1 k1 ⟨d1,sp1,q1⟩ X):=fun X hX=>vwords_ l Ac nc cc a r1 d1 sp1 q1 co1 k1 X (by omega) ((rc.below hX).more hX.size) hsc (ht.below hX)
     by_cases h1:qaE l a r1 q1 k1=0
     ·have hck : ∀ c∈zo l,vj c=0:=qac.1 (wErr_ok h1).2.2.2
      have hc30:(zo l).length<=30:=by rw [zo,Lq];exact hl30
      have hs1:=qch ⟨d1,sp1,q1⟩ ha0 (by omega) hc30 hck
      have HT1:Hid (∀ X,Below w.heap.size w X->Calls prog 16 #[.slice Ac nc cc,.int .i64 a,stV r1 d1 sp1 q1 co1 k1] X (WoT (qZ (zo l) a ⟨d1,sp1,q1⟩) w X)):=Lh fun X hX=>(HW1 X hX).mono fun e X' h=>h.good h1 hX
      have heq:=qkI hpr ⟨d1,sp1,q1⟩ hck ha0 ha1 (by omega)
      obtain ⟨R,hR⟩ : ∃ R,R=yx m.view (zo l):=⟨_,rfl⟩
      rw [<- hR] at heq
      have HH : ∀ X Aw cw,Below w.heap.size w X->Rd X X.heap.size 1 Aw (qZ (zo l) a ⟨d1,sp1,q1⟩).length (sv (qZ (zo l) a ⟨d1,sp1,q1⟩))->(qZ (zo l) a ⟨d1,sp1,q1⟩).length<=cw->cw<=maxLen->Calls prog 11 #[.agg (mdC m A n c),.slice Aw (qZ (zo l) a ⟨d1,sp1,q1⟩).length cw] X fun e X'=>(∃ A4 n4 d4 rs4,e = .returned (.tuple #[.agg (mdC (if R.2≠0 then (md0,R.2) else (⟨R.1,m.upd+a⟩,0)).1 A4 n4 d4),.int .i64 (if R.2≠0 then (md0,R.2) else (⟨R.1,m.upd+a⟩,0)).2])/\OwV X.heap.size X' (if R.2≠0 then (md0,R.2) else (⟨R.1,m.upd+a⟩,0)).1.view A4 n4 d4 rs4)/\Below w.heap.size w X'/\Below X.heap.size X X':=fun X Aw cw hX hr hc hm=>by
       have hg':=hg.below hX
       have:=hear_ m A n c X.heap.size rs (qZ (zo l) a ⟨d1,sp1,q1⟩) Aw (qZ (zo l) a ⟨d1,sp1,q1⟩).length cw X ((rd.below hX).more hX.size) (Ld _) (fun y hy=>by have:=(hsm y hy).1;omega) (fun y hy g hg=>by have:=(hsm y hy).2 g hg;omega) ⟨rfl,hc,hm,hr,hs1.2⟩ hs1.1 (few_of hs1.1) hg'.1 hg'.2.1 hg'.2.2
       rw [heq] at this
       exact this.mono fun e X' ⟨h1,A4,n4,d4,rs4,h2,h3⟩=>⟨⟨A4,n4,d4,rs4,h2,h3⟩,hX.trans (h1.mono hX.size),h1⟩
      have hlen : ∀ x∈l,x.c.glyphs.length<=140/\∀ g∈x.c.glyphs,g.text.size<=40:=qkH hgc
      have hgN:glN (zo l)<=12120:=Lj (qkO 140 (zo l) fun c hc=>by obtain ⟨x,hx,rfl⟩:=List.mem_map.1 hc;exact (hlen x hx).1) (by have:=Nat.mul_le_mul_right 404 hc30;omega)
      have HAp:Hid (∀ X,Below w.heap.size w X->Calls prog 17 #[.agg (vwC m.view A n c),.slice Ac nc cc] X fun e X'=>(∃ A6 n6 d6,∃ i:Int,e = .returned (.tuple #[.agg (vwC R.1 A6 n6 d6),.int .i64 i,.int .i64 R.2])/\∃ rs6,RdV X' X'.heap.size R.1 A6 n6 d6 rs6)/\Below w.heap.size w X'/\Below X.heap.size X X'):=Lh fun X hX=>by
       have:=qkW m.view A n c X.heap.size rs l Ac nc cc X ((rd.below hX).more hX.size) ((rc.below hX).more hX.size) hc hm (Ld _) (fun y hy=>by have:=(hsm y hy).1;omega) (fun y hy g hg=>by have:=(hsm y hy).2 g hg;omega) (fun y hy=>⟨by have:=(hlen y hy).1;omega,fun g hg=>by have:=(hlen y hy).2 g hg;omega⟩) (by omega)
       rw [<- hR] at this
       exact this.mono fun e X' ⟨h1,A6,n6,d6,rs6,i,h2,h3,_⟩=>⟨⟨A6,n6,d6,i,h2,rs6,h3.rdV h1.size⟩,hX.trans (h1.mono hX.size),h1⟩
      by_cases hE:R.2=0
      ·have hvz:js R.1=0:=by rw [hR] at hE ⊢;exact qe3 hE
       have hpz:vu ⟨R.1,m.upd+a⟩=true:=by
        unfold vu MaxT
        exact Ll ⟨hvz,by dsimp only;omega,by dsimp only;omega⟩
       have HSm:Hid (∀ X A1 n1 c1 A2 n2 c2,Below w.heap.size w X->(∃ rs1,RdV X X.heap.size R.1 A1 n1 c1 rs1)->(∃ rs2,RdV X X.heap.size R.1 A2 n2 c2 rs2)->Calls prog 18 #[.agg (vwC R.1 A1 n1 c1),.agg (vwC R.1 A2 n2 c2)] X fun e X'=>e = .returned (.bool true)/\Below w.heap.size w X'/\Below X.heap.size X X'):=Lh fun X A1 n1 c1 A2 n2 c2 hX ⟨rs1,h1⟩ ⟨rs2,h2⟩=>by
        obtain rfl:n1=n2:=h1.len.symm.trans h2.len
        refine bothG (qkA R.1 A1 A2 n1 c1 c2 X.heap.size rs1 rs2 X h1 h2 (Ld _) fun x hx=>?_) hX
        have:=(qfj (m:=⟨R.1,m.upd+a⟩) hpz h1 x hx).1
        omega
       have HU:Hid (∀ X Aw cw,Below w.heap.size w X->Rd X X.heap.size 1 Aw (qZ (zo l) a ⟨d1,sp1,q1⟩).length (sv (qZ (zo l) a ⟨d1,sp1,q1⟩))->(qZ (zo l) a ⟨d1,sp1,q1⟩).length<=cw->cw<=maxLen->Calls prog 11 #[.agg (mdC m A n c),.slice Aw (qZ (zo l) a ⟨d1,sp1,q1⟩).length cw] X fun e X'=>(∃ A4 n4 d4,e = .returned (.tuple #[.agg (mdC ⟨R.1,m.upd+a⟩ A4 n4 d4),.int .i64 0])/\∃ rs4,RdV X' X'.heap.size R.1 A4 n4 d4 rs4)/\Below w.heap.size w X'/\Below X.heap.size X X'):=Lh fun X Aw cw hX hr hc hm=>by
        have:=HH X Aw cw hX hr hc hm
        rw [if_neg (fun h=>h hE)] at this
        exact this.mono fun e X' ⟨⟨A4,n4,d4,rs4,h1,h2⟩,h3,h4⟩=>⟨⟨A4,n4,d4,h1,rs4,h2.rdV⟩,h3,h4⟩
       rw [hE] at HAp
       have ew:wrap64 (m.upd+a)=m.upd+a:=by unfold wrap64;omega
       clear HH HW1 heq hR hE hvz hpz hg rd hgr ht rc hgc hsm hsc hpr hck hc30 hs1 hlen hgN h1
       generalize qZ (zo l) a ⟨d1,sp1,q1⟩=W1 at *
       obtain ⟨⟨W,H,rows,r,cl,vs⟩,U⟩:=m
       obtain ⟨⟨zW,zH,zrows,zr,zy,zv⟩,zE⟩:=R
       dsimp only at HG hU hup ew
       have HR1:Hid (∀ X Aw cw,Below w.heap.size w X->Rd X X.heap.size 1 Aw W1.length (sv W1)->W1.length<=cw->cw<=maxLen->Calls prog 11 #[.agg #[.int .i64 W,.int .i64 H,.slice A n c,.int .i64 r,.int .i64 cl,.bool vs,.int .i64 U],.slice Aw W1.length cw] X fun e X'=>(∃ A4 n4 d4,e = .returned (.tuple #[.agg #[.int .i64 zW,.int .i64 zH,.slice A4 n4 d4,.int .i64 zr,.int .i64 zy,.bool zv,.int .i64 (U+a)],.int .i64 0])/\(∃ rs4,RdV X' X'.heap.size ⟨zW,zH,zrows,zr,zy,zv⟩ A4 n4 d4 rs4))/\Below w.heap.size w X'/\Below X.heap.size X X'):=HU
       have HR2:Hid (∀ X,Below w.heap.size w X->Calls prog 17 #[.agg #[.int .i64 W,.int .i64 H,.slice A n c,.int .i64 r,.int .i64 cl,.bool vs],.slice Ac nc cc] X fun e X'=>(∃ A6 n6 d6,∃ i:Int,e = .returned (.tuple #[.agg #[.int .i64 zW,.int .i64 zH,.slice A6 n6 d6,.int .i64 zr,.int .i64 zy,.bool zv],.int .i64 i,.int .i64 0])/\(∃ rs4,RdV X' X'.heap.size ⟨zW,zH,zrows,zr,zy,zv⟩ A6 n6 d6 rs4))/\Below w.heap.size w X'/\Below X.heap.size X X'):=HAp
       have HRS:Hid (∀ X A1 n1 c1 A2 n2 c2,Below w.heap.size w X->(∃ rs4,RdV X X.heap.size ⟨zW,zH,zrows,zr,zy,zv⟩ A1 n1 c1 rs4)->(∃ rs4,RdV X X.heap.size ⟨zW,zH,zrows,zr,zy,zv⟩ A2 n2 c2 rs4)->Calls prog 18 #[.agg #[.int .i64 zW,.int .i64 zH,.slice A1 n1 c1,.int .i64 zr,.int .i64 zy,.bool zv],.agg #[.int .i64 zW,.int .i64 zH,.slice A2 n2 c2,.int .i64 zr,.int .i64 zy,.bool zv]] X fun e X'=>e = .returned (.bool true)/\Below w.heap.size w X'/\Below X.heap.size X X'):=HSm
       clear HU HAp HSm
       have h00:((0:Int) != 0)=false:=rfl
       have hee:((U+a)==(U+a))=true:=Lw _
       go_enter func4,ntmps4
       go_upto_region 1 with fail
       refine qa (Bx2 w ⟨⟨W,H,rows,r,cl,vs⟩,U⟩ A n c r1 d1 sp1 q1 co1 k1) (Bx2.new w _ A n c _ _ _ _ _ _) ?_
       intro X hX
       obtain ⟨c_0,c_1,c_2,c_3,c_4,c_5,c_6,-,-,-,-,-,-,-⟩:=zd hX.m;dsimp only at c_0 c_1 c_3 c_4 c_5 c_6
       go_upto_region 6 with (first | (go_at_call 8;refine (HG.out _ hX.bel).mono ?_;rintro e w1 ⟨rfl,hb1,hx1⟩;have hX1:=hX.on hx1;obtain ⟨p_0,p_1,p_2,p_3,p_4,p_5,p_6,-,-,-,-,-,-,-⟩:=zd hX1.m;dsimp only at p_0 p_1 p_3 p_4 p_5 p_6) | (go_at_call 14;refine (HC9.out _ hX1.bel).mono ?_;rintro e w2 ⟨rfl,hb2,hx2⟩;have hX2:=hX1.on hx2;obtain ⟨q_0,q_1,q_2,q_3,q_4,q_5,q_6,-,-,-,-,-,-,-⟩:=zd hX2.m;dsimp only at q_0 q_1 q_3 q_4 q_5 q_6) | (go_at_call 15;refine (HP.out _ hX2.bel).mono ?_;rintro e w3 ⟨rfl,hb3,hx3⟩;have hX3:=hX2.on hx3;obtain ⟨r_0,r_1,r_2,r_3,r_4,r_5,r_6,-,-,-,-,-,-,-⟩:=zd hX3.m;dsimp only at r_0 r_1 r_3 r_4 r_5 r_6;obtain ⟨s_0,s_1,s_2,s_3,s_4,s_5⟩:=hX3.setts) | (go_at_call 16;refine (HT1.out _ hX3.bel).mono ?_;rintro e w4 ⟨⟨A4,c4,rfl,o4⟩,hb4,hx4⟩))
       have hX4:=hX3.on hx4
       have hr4:Rd w4 w4.heap.size 1 A4 W1.length (sv W1):=Rd.of_own o4
       have hp4:=qas o4
       clear o4 hX hX1 hX2 hX3 hb1 hb2 hb3 hx1 hx2 hx3 hx4 HT1 HG HC9 HP c_0 c_1 c_2 c_3 c_4 c_5 c_6 p_0 p_1 p_2 p_3 p_4 p_5 p_6 q_0 q_1 q_2 q_3 q_4 q_5 q_6 r_0 r_1 r_2 r_3 r_4 r_5 r_6 s_0 s_1 s_2 s_3 s_4 s_5
       obtain ⟨s_0,s_1,s_2,s_3,s_4,s_5,s_6,-,-,-,-,-,-,-⟩:=zd hX4.m;dsimp only at s_0 s_1 s_3 s_4 s_5 s_6
       go_upto_region 7 with (go_at_call 11;refine (HR1.out _ _ _ hb4 hr4 hp4.1 hp4.2).mono ?_;rintro e w5 ⟨⟨A5,n5,d5,rfl,hr5⟩,hb5,hx5⟩)
       have hz5:=hb5.size
       refine qa (fun Y=>Blk Y w.heap.size 26 (mdC ⟨⟨W,H,rows,r,cl,vs⟩,U⟩ A n c)/\Blk Y w5.heap.size 26 (mdC ⟨⟨zW,zH,zrows,zr,zy,zv⟩,U+a⟩ A5 n5 d5)/\(∃ rs4,RdV Y Y.heap.size ⟨zW,zH,zrows,zr,zy,zv⟩ A5 n5 d5 rs4)/\Below w.heap.size w Y) ⟨(hX4.m.below hx5 hX4.m.lt).alloc _,Blk.new_ rfl,hr5.imp fun _ h=>(h.below ((Le _ _).alloc (Ld _) _)).more (by rw [Li];omega),hb5.alloc hz5 _⟩ ?_
       clear s_0 s_1 s_2 s_3 s_4 s_5 s_6 hX4 hr4 hr5 hb5 hx5 hz5 hb4 hp4 HR1
       rintro Y ⟨hM5,hX5,hr5,hbY⟩
       obtain ⟨s_0,s_1,s_2,s_3,s_4,s_5,s_6,-,-,-,-,-,-,-⟩:=zd hM5;dsimp only at s_0 s_1 s_3 s_4 s_5 s_6
       go_upto_region 8 with (go_at_call 17;refine (HR2.out _ hbY).mono ?_;rintro e w6 ⟨⟨A6,n6,d6,i6,rfl,hr6⟩,hb6,hx6⟩)
       have hz6:=hb6.size
       have hzy:=hx6.size
       refine qa (fun Z=>Blk Z w.heap.size 26 (mdC ⟨⟨W,H,rows,r,cl,vs⟩,U⟩ A n c)/\(Blk Z w5.heap.size 26 (mdC ⟨⟨zW,zH,zrows,zr,zy,zv⟩,U+a⟩ A5 n5 d5)/\(∃ rs4,RdV Z Z.heap.size ⟨zW,zH,zrows,zr,zy,zv⟩ A5 n5 d5 rs4))/\(Blk Z w6.heap.size 24 (vwC ⟨zW,zH,zrows,zr,zy,zv⟩ A6 n6 d6)/\(∃ rs4,RdV Z Z.heap.size ⟨zW,zH,zrows,zr,zy,zv⟩ A6 n6 d6 rs4))/\Below w.heap.size w Z) ⟨(hM5.below hx6 hM5.lt).alloc _,⟨(hX5.below hx6 hX5.lt).alloc _,hr5.imp fun _ h=>((h.below hx6).below (((Le w6.heap.size w6).alloc (Ld _) _).mono hzy)).more (by rw [Li];omega)⟩,⟨Blk.new_ rfl,hr6.imp fun _ h=>(h.below ((Le _ _).alloc (Ld _) _)).more (by rw [Li];omega)⟩,hb6.alloc hz6 _⟩ ?_
       clear s_0 s_1 s_2 s_3 s_4 s_5 s_6 hM5 hX5 hr5 hr6 hb6 hx6 hz6 hzy hbY HR2
       rintro Z ⟨hM6,⟨hX6,hr5⟩,⟨hV6,hr6⟩,hbZ⟩
       obtain ⟨s_0,s_1,s_2,s_3,s_4,s_5,s_6,-,-,-,-,-,-,-⟩:=zd hM6;dsimp only at s_0 s_1 s_3 s_4 s_5 s_6
       obtain ⟨x_0,x_1,x_2,x_3,x_4,x_5,x_6,-,-,-,-,-,-,-⟩:=zd hX6;dsimp only at x_0 x_1 x_3 x_4 x_5 x_6
       obtain ⟨v0,v1,v2,v3,v4,v5⟩:=qw hV6
       dsimp only at v0 v1 v2 v3 v4 v5
       go_wp2_with (first
        | (go_at_call 18;refine (HRS.out _ _ _ _ _ _ _ hbZ hr5 hr6).mono ?_;rintro e w8 ⟨rfl,hb8,hx8⟩;have hM8:=hM6.below hx8 hM6.lt;have hX8:=hX6.below hx8 hX6.lt;obtain ⟨g_0,g_1,g_2,g_3,g_4,g_5,g_6,-,-,-,-,-,-,-⟩:=zd hM8;dsimp only at g_0 g_1 g_3 g_4 g_5 g_6;obtain ⟨h_0,h_1,h_2,h_3,h_4,h_5,h_6,-,-,-,-,-,-,-⟩:=zd hX8;dsimp only at h_0 h_1 h_3 h_4 h_5 h_6)
        | (go_at_call 10;refine (HA.out _ (by assumption)).mono ?_;rintro e wa ⟨rfl,hba,hxa⟩))
       go_ret
       exact ⟨rfl,hba⟩
      ·have HR1:Hid (∀ X Aw cw,Below w.heap.size w X->Rd X X.heap.size 1 Aw (qZ (zo l) a ⟨d1,sp1,q1⟩).length (sv (qZ (zo l) a ⟨d1,sp1,q1⟩))->(qZ (zo l) a ⟨d1,sp1,q1⟩).length<=cw->cw<=maxLen->Calls prog 11 #[.agg (mdC m A n c),.slice Aw (qZ (zo l) a ⟨d1,sp1,q1⟩).length cw] X fun e X'=>(∃ A4 n4 d4,e = .returned (.tuple #[.agg #[.int .i64 0,.int .i64 0,.slice A4 n4 d4,.int .i64 0,.int .i64 0,.bool false,.int .i64 0],.int .i64 R.2]))/\Below w.heap.size w X'/\Below X.heap.size X X'):=Lh fun X Aw cw hX hr hc hm=>by
        have:=HH X Aw cw hX hr hc hm
        rw [if_pos hE] at this
        exact this.mono fun e X' ⟨⟨A4,n4,d4,rs4,h1,h2⟩,h3,h4⟩=>⟨⟨A4,n4,d4,h1⟩,h3,h4⟩
       clear HH HW1 heq hR hg rd hgr ht rc hgc hsm hsc hpr hck hc30 hs1 hlen hgN h1
       generalize qZ (zo l) a ⟨d1,sp1,q1⟩=W1 at *
       obtain ⟨⟨W,H,rows,r,cl,vs⟩,U⟩:=m
       obtain ⟨⟨zW,zH,zrows,zr,zy,zv⟩,zE⟩:=R
       dsimp only at HG hU hup hE HR1
       have HR2:Hid (∀ X,Below w.heap.size w X->Calls prog 17 #[.agg #[.int .i64 W,.int .i64 H,.slice A n c,.int .i64 r,.int .i64 cl,.bool vs],.slice Ac nc cc] X fun e X'=>(∃ A6 n6 d6,∃ i:Int,e = .returned (.tuple #[.agg #[.int .i64 zW,.int .i64 zH,.slice A6 n6 d6,.int .i64 zr,.int .i64 zy,.bool zv],.int .i64 i,.int .i64 zE]))/\Below w.heap.size w X'/\Below X.heap.size X X'):=Lh fun X hX=>(HAp.out X hX).mono fun e X' ⟨⟨A6,n6,d6,i,h1,_⟩,h2⟩=>⟨⟨A6,n6,d6,i,h1⟩,h2⟩
       have hEn:(zE != 0)=true:=Ln.2 hE
       have hee:(zE==zE)=true:=Lw _
       have h00:((0:Int) != 0)=false:=rfl
       clear HAp hE
       go_enter func4,ntmps4
       go_upto_region 1 with fail
       refine qa (Bx2 w ⟨⟨W,H,rows,r,cl,vs⟩,U⟩ A n c r1 d1 sp1 q1 co1 k1) (Bx2.new w _ A n c _ _ _ _ _ _) ?_
       intro X hX
       obtain ⟨c_0,c_1,c_2,c_3,c_4,c_5,c_6,-,-,-,-,-,-,-⟩:=zd hX.m;dsimp only at c_0 c_1 c_3 c_4 c_5 c_6
       go_upto_region 6 with (first | (go_at_call 8;refine (HG.out _ hX.bel).mono ?_;rintro e w1 ⟨rfl,hb1,hx1⟩;have hX1:=hX.on hx1;obtain ⟨p_0,p_1,p_2,p_3,p_4,p_5,p_6,-,-,-,-,-,-,-⟩:=zd hX1.m;dsimp only at p_0 p_1 p_3 p_4 p_5 p_6) | (go_at_call 14;refine (HC9.out _ hX1.bel).mono ?_;rintro e w2 ⟨rfl,hb2,hx2⟩;have hX2:=hX1.on hx2;obtain ⟨q_0,q_1,q_2,q_3,q_4,q_5,q_6,-,-,-,-,-,-,-⟩:=zd hX2.m;dsimp only at q_0 q_1 q_3 q_4 q_5 q_6) | (go_at_call 15;refine (HP.out _ hX2.bel).mono ?_;rintro e w3 ⟨rfl,hb3,hx3⟩;have hX3:=hX2.on hx3;obtain ⟨r_0,r_1,r_2,r_3,r_4,r_5,r_6,-,-,-,-,-,-,-⟩:=zd hX3.m;dsimp only at r_0 r_1 r_3 r_4 r_5 r_6;obtain ⟨s_0,s_1,s_2,s_3,s_4,s_5⟩:=hX3.setts) | (go_at_call 16;refine (HT1.out _ hX3.bel).mono ?_;rintro e w4 ⟨⟨A4,c4,rfl,o4⟩,hb4,hx4⟩))
       have hX4:=hX3.on hx4
       have hr4:Rd w4 w4.heap.size 1 A4 W1.length (sv W1):=Rd.of_own o4
       have hp4:=qas o4
       clear o4 hX hX1 hX2 hX3 hb1 hb2 hb3 hx1 hx2 hx3 hx4 HT1 HG HC9 HP c_0 c_1 c_2 c_3 c_4 c_5 c_6 p_0 p_1 p_2 p_3 p_4 p_5 p_6 q_0 q_1 q_2 q_3 q_4 q_5 q_6 r_0 r_1 r_2 r_3 r_4 r_5 r_6 s_0 s_1 s_2 s_3 s_4 s_5
       obtain ⟨s_0,s_1,s_2,s_3,s_4,s_5,s_6,-,-,-,-,-,-,-⟩:=zd hX4.m;dsimp only at s_0 s_1 s_3 s_4 s_5 s_6
       go_upto_region 7 with (go_at_call 11;refine (HR1.out _ _ _ hb4 hr4 hp4.1 hp4.2).mono ?_;rintro e w5 ⟨⟨A5,n5,d5,rfl⟩,hb5,hx5⟩)
       have hz5:=hb5.size
       refine qa (fun Y=>Blk Y w.heap.size 26 (mdC ⟨⟨W,H,rows,r,cl,vs⟩,U⟩ A n c)/\Below w.heap.size w Y) ⟨(hX4.m.below hx5 hX4.m.lt).alloc _,hb5.alloc hz5 _⟩ ?_
       clear s_0 s_1 s_2 s_3 s_4 s_5 s_6 hX4 hr4 hb5 hx5 hz5 hb4 hp4 HR1
       rintro Y ⟨hM5,hbY⟩
       obtain ⟨s_0,s_1,s_2,s_3,s_4,s_5,s_6,-,-,-,-,-,-,-⟩:=zd hM5;dsimp only at s_0 s_1 s_3 s_4 s_5 s_6
       go_upto_region 8 with (go_at_call 17;refine (HR2.out _ hbY).mono ?_;rintro e w6 ⟨⟨A6,n6,d6,i6,rfl⟩,hb6,hx6⟩)
       refine qa (fun Z=>Below w.heap.size w Z) (hb6.alloc hb6.size _) ?_
       clear s_0 s_1 s_2 s_3 s_4 s_5 s_6 hM5 hb6 hx6 hbY HR2
       intro Z hbZ
       go_wp2_with (go_at_call 10;refine (HA.out _ (by assumption)).mono ?_;rintro e wa ⟨rfl,hba,hxa⟩)
       go_ret
       exact ⟨rfl,hba⟩
     ·have HE1:Hid (∀ X,Below w.heap.size w X->Calls prog 16 #[.slice Ac nc cc,.int .i64 a,stV r1 d1 sp1 q1 co1 k1] X (WoE (qaE l a r1 q1 k1) w X)):=Lh fun X hX=>(HW1 X hX).mono fun e X' h=>h.any hX
      have h2:(qaE l a r1 q1 k1 != 0)=true:=Ln.2 h1
      generalize qaE l a r1 q1 k1=E1 at *
      clear hg rd hgr ht rc hgc hsm hpr hsc HW1 h1
      obtain ⟨⟨W,H,rows,r,cl,vs⟩,U⟩:=m
      dsimp only at HG hU
      go_enter func4,ntmps4
      go_upto_region 1 with fail
      refine qa (Bx2 w ⟨⟨W,H,rows,r,cl,vs⟩,U⟩ A n c r1 d1 sp1 q1 co1 k1) (Bx2.new w _ A n c _ _ _ _ _ _) ?_
      intro X hX
      obtain ⟨c_0,c_1,c_2,c_3,c_4,c_5,c_6,-,-,-,-,-,-,-⟩:=zd hX.m;dsimp only at c_0 c_1 c_3 c_4 c_5 c_6
      go_wp2_with (first | (go_at_call 8;refine (HG.out _ hX.bel).mono ?_;rintro e w1 ⟨rfl,hb1,hx1⟩;have hX1:=hX.on hx1;obtain ⟨p_0,p_1,p_2,p_3,p_4,p_5,p_6,-,-,-,-,-,-,-⟩:=zd hX1.m;dsimp only at p_0 p_1 p_3 p_4 p_5 p_6) | (go_at_call 14;refine (HC9.out _ hX1.bel).mono ?_;rintro e w2 ⟨rfl,hb2,hx2⟩;have hX2:=hX1.on hx2;obtain ⟨q_0,q_1,q_2,q_3,q_4,q_5,q_6,-,-,-,-,-,-,-⟩:=zd hX2.m;dsimp only at q_0 q_1 q_3 q_4 q_5 q_6) | (go_at_call 15;refine (HP.out _ hX2.bel).mono ?_;rintro e w3 ⟨rfl,hb3,hx3⟩;have hX3:=hX2.on hx3;obtain ⟨r_0,r_1,r_2,r_3,r_4,r_5,r_6,-,-,-,-,-,-,-⟩:=zd hX3.m;dsimp only at r_0 r_1 r_3 r_4 r_5 r_6;obtain ⟨s_0,s_1,s_2,s_3,s_4,s_5⟩:=hX3.setts) | (go_at_call 16;refine (HE1.out _ hX3.bel).mono ?_;rintro e w4 ⟨⟨A4,n4,c4,rfl⟩,hb4,hx4⟩) | (go_at_call 10;refine (HA.out _ (by assumption)).mono ?_;rintro e wa ⟨rfl,hba,hxa⟩))
      go_ret
      exact ⟨rfl,hba⟩
end Go.Proofs.YticbpkghcglgkaaGreatDoor
