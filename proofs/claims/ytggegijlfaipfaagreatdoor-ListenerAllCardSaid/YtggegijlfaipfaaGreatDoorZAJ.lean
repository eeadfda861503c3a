/- Joined: Lvg, Lvh, Lvi, Tail, Lvj, Lvk, Ref1, Ref2. -/
import Derived.BigRegion
import Derived.Laws.EntriesVeiled
import Derived.Test.YtggegijlfaipfaaGreatDoorZAF
import Derived.Test.YtggegijlfaipfaaGreatDoorZAI
set_option linter.unusedVariables false
set_option linter.unusedSimpArgs false
set_option linter.unnecessarySimpa false
set_option maxHeartbeats 4000000
namespace Go.Proofs.YtggegijlfaipfaaGreatDoor
open Go.Proofs.Tryz Go.RowKit
set_option maxRecDepth 20000
def qam (l:List Gl) (m:Nat):List Gl:=l++List.replicate (m-l.length) spG
theorem qdb (l:List Gl) {m:Nat} (h:l.length<=m):(qam l m).length=m:=by
 unfold qam;rw [Lf,List.length_replicate]
 omega
theorem qkE (l:List Gl):qam l l.length=l:=by unfold qam;simp
theorem qkG (l:List Gl) {m:Nat} (h:l.length<=m):qam l (m+1)=qam l m++[spG]:=by
 unfold qam;rw [show m+1-l.length=(m-l.length)+1 by omega,List.replicate_succ',List.append_assoc]
theorem qhu (l gs:List Gl) (col count m:Nat) (hl:l.length<=m) (hc:col<=m) (hm:m<=max l.length col) (h:count=0∨col+count<=l.length):(qam l m).take col++gs++(qam l m).drop (col+count)=zV l col count gs:=by
 have e1:(qam l m).take col=l.take col++List.replicate (col-l.length) spG:=by
  unfold qam;rw [List.take_append,List.take_replicate]
  congr 2
  omega
 have e2:(qam l m).drop (col+count)=l.drop (col+count):=by
  unfold qam;rw [List.drop_append,List.drop_replicate,show m-l.length-(col+count-l.length)=0 by omega,List.replicate_zero,List.append_nil]
 unfold zV;rw [e1,e2]
def qdq:Value->Nat
 | .slice _ n _=>n
 | _=>0
def SpI (base G:Nat) (v:Vw) (rs:List RowM) (A:Option Addr) (cA k:Nat) (l:List Gl) (X0:World) (ch:Array Value) (m:Nat) (A4:Option Addr) (c4:Nat) (X:World):Prop :=
 EDx base G v rs A cA k (qam l m) A4 c4 X/\Blk X X0.heap.size 71 ch/\Dj (some X0.heap.size) (obS A4)/\Below base X0 X/\X0.heap.size+1<=X.heap.size
theorem SpI.next {base G:Nat} {v:Vw} {rs:List RowM} {A:Option Addr} {cA k:Nat} {l:List Gl} {X0:World} {ch:Array Value} {m:Nat} {A4:Option Addr} {c4:Nat} {X w2:World} {o:Obj} (h:SpI base G v rs A cA k l X0 ch m A4 c4 X) (hk:k<rs.length) (qnR:base<=X0.heap.size) (hm:l.length<=m) {A5:Option Addr} {c5:Nat}
  (qnB:w2.ownsRow base 61 3 (.slice A5 (m+1) c5) (m+1) (qi (qam l m)++ym spG)) (qnw:Below base (X.alloc o) w2) (hgr:(X.alloc o).grownBy w2 (Value.slice A4 m c4).ownBlock) (hat:(Value.slice A5 (m+1) c5).ownBlock=(Value.slice A4 m c4).ownBlock∨(Value.slice A5 (m+1) c5).ownBlock=some (X.alloc o).heap.size) :
  SpI base G v rs A cA k l X0 ch (m+1) A5 c5 w2:=by
 obtain ⟨hE,hbx,hdx,hbw,hzw⟩:=h;have hz:(X.alloc o).heap.size=X.heap.size+1:=by simp
 have h5:=hgr.size;refine ⟨?_,(hbx.alloc o).grown hgr (fun e=>?_),?_,(hbw.alloc L0 _).trans qnw,by omega⟩
 ·rw [qkG l hm];exact hE.grow hk L0 L5 (by rw [qdb l hm]) qnB hgr hat
 ·rw [qC] at e;exact hdx _ rfl e.symm
 ·rw [qC,qC] at hat;exact Dj.new hdx hat fun b hb=>by injection hb with hb;omega
theorem csplice_ {base G B:Nat} {v:Vw} {rs:List RowM} {A:Option Addr} {cA:Nat} {X0:World} (h:ED base G v rs A cA X0) (qnR:base<=X0.heap.size) (qnQ:(rs.length:Int)=v.height) (hh:v.height<=1000) (hrl : ∀ x∈rs,x.l.length<=100000000)
  (c:Chg) (Ag:Option Addr) (cap:Nat) (hB:B<=base) (rd:Rd X0 B 3 Ag c.glyphs.length (qi c.glyphs)) (hgl:c.glyphs.length<=100000000) (hk:c.kind=3) (hr:zh v c=true) :
  Calls prog 55 #[.pointer (some ⟨G,0,none⟩),jH c Ag cap] X0 (EdR base G (jY v c) X0):=by
 obtain ⟨W,Hh,rows,vr,vc,vis⟩:=v;obtain ⟨kind,row,col,count,til,g⟩:=c;dsimp only at qnQ hh hk hgl rd;subst hk;rw [qai] at hr;dsimp only at hr;obtain ⟨r1,r2,r3,r4,r5,r6⟩:=of_decide_eq_true hr;have hE:=h.eq;dsimp only at hE;obtain ⟨k,rfl⟩ : ∃ k:Nat,row=k:=⟨row.toNat,by omega⟩
 obtain ⟨j,rfl⟩ : ∃ j:Nat,col=j:=⟨col.toNat,by omega⟩
 obtain ⟨q,rfl⟩ : ∃ q:Nat,count=q:=⟨count.toNat,by omega⟩
 have hkl:k<rs.length:=by omega
 rw [Int.toNat_natCast,hE,qa4 hkl] at r6;have hcq:q=0∨j+q<=rs[k].l.length:=by omega
 have hS:jY ⟨W,Hh,rows,vr,vc,vis⟩ ⟨3,(k:Int),(j:Int),(q:Int),til,g⟩=⟨W,Hh,(rls rs).set k (zI (zV rs[k].l j q g)),vr,vc,vis⟩:=by
  unfold jY;rw [if_neg (show ¬ (3:Int)=1 by decide),if_neg (show ¬ (3:Int)=2 by decide),if_pos (show (3:Int)=3 from rfl)];simp only [Int.toNat_natCast];rw [hE,qa4 hkl]
 rw [hS];obtain ⟨G1,cap1,hA,hG1,hG2⟩:=h.rows.form L0;obtain ⟨rfl,rfl⟩:A=some ⟨G1,0,none⟩/\cA=cap1:=by injection hA with h1 _ h2;exact ⟨h1,h2⟩
 have hL:=hrl _ (Lt hkl);have HX:=Lh (EDx.start h hkl);have hcx:=h.rows.cellAt k L0;rw [yF hkl] at hcx;have hGl:=h.blk.lt;have HRd:Hid (∀ w',Below base X0 w'->Rd w' base 3 Ag g.length (qi g)):=Lh fun w' hb=>((rd.more hB).below hb)
 clear hS hr r6 hE hrl hA rd;generalize rs[k].l=l at *
 have hBk:=h.blk;clear h
 go_enter func55,ntmps55
 go_upto_region 1 with fail
 refine qa (fun X=>Blk X X0.heap.size 71 (yG ⟨3,(k:Int),(j:Int),(q:Int),til,g⟩ Ag cap)/\Below X0.heap.size X0 X) ⟨Blk.new _ _ _,L5⟩ ?_;rintro X ⟨hbx,hb⟩;have c1:X.cell? ⟨X0.heap.size,1,none⟩=some (.int .i64 (k:Int)):=hbx.cell 1;obtain ⟨e0,e1,e2,e3,e4,e5⟩:=qw (hBk.below hb hGl);have hcx2:=(hb.cell (p:=⟨G1,k,none⟩) hG2).trans hcx;have hki:(k:Int)<(rs.length:Int):=by omega
 go_quiet (fail)
 have hI:SpI base G ⟨W,Hh,rows,vr,vc,vis⟩ rs (some ⟨G1,0,none⟩) cA k l X0 (yG ⟨3,(k:Int),(j:Int),(q:Int),til,g⟩ Ag cap) l.length rs[k].A rs[k].cap (X.drewN nq):=by
  have h1:=HX.out.below hb;rw [<- qkE l] at h1;exact ⟨h1.below (qf (Le _ _)),hbx.drewN _,Dj.symm (Dj.fresh (N:=X0.heap.size) (fun b hb2=>(vB HX.out.row b hb2).2) (fun b hb2=>by injection hb2 with e;omega)),qf (hb.mono qnR),hbx.lt⟩
 clear hcx hcx2 hbx hb c1 e0 e1 e2 e3 e4 e5 HX hBk;generalize rs[k].A=Al at *
 generalize rs[k].cap=cl at *
 go_wp2
 go_loopw [4] (fun x wr=>∃ (m:Nat) (A4:Option Addr) (c4:Nat),l.length<=m/\m<=max l.length j/\x = .slice A4 m c4/\SpI base G ⟨W,Hh,rows,vr,vc,vis⟩ rs (some ⟨G1,0,none⟩) cA k l X0 (yG ⟨3,(k:Int),(j:Int),(q:Int),til,g⟩ Ag cap) m A4 c4 wr) (fun x _=>j-qdq x)
 case atStart=>exact ⟨l.length,Al,cl,Ld _,by omega,rfl,hI⟩
 case round =>
  clear hI;obtain ⟨m,A4,c4,hm1,hm2,rfl,hx⟩:=hrel;obtain ⟨hE,hbx,hdx,hbw,hzw⟩:=id hx;have c2:wr.cell? ⟨X0.heap.size,2,none⟩=some (.int .i64 (j:Int)):=hbx.cell 2;have hrow:=hE.row;rw [qdb l hm1] at hrow
  by_cases hlt:m<j
  ·go_wp2_with (at_builtin;go_must (refine qg rfl _ _ _ rfl qbz base _ rfl (hrow.alloc _) _ _ rfl (qe (xs:=ym spG) (by rfl) rfl) ?_);intro A5 c5 w5 qnA qmz hgr5 hat5)
   exact ⟨⟨m+1,A5,c5,by omega,by omega,rfl,hx.next hkl qnR hm1 qnA qmz hgr5 hat5⟩,by simp only [qdq];omega⟩
  ·have hcaps:=yd hrow;have hcap2:(c4:Int)<=9223372036854775807:=by have:=hcaps.2;unfold maxLen at this;omega
   obtain ⟨u,hu⟩ : ∃ u,(zQ rs)[k]? = some u:=⟨_,yF hkl⟩
   have hcx:=hE.rows.cellAt k L0;rw [hu] at hcx;have hfx:=hE.rows.frozenAt k;have hG1w:=(vB hE.rows G1 rfl).2;have hGw:=hE.blk.lt;have HCE:Hid (∀ w',Below wr.heap.size wr w'->(w'.cell? ⟨G,2,none⟩=some (.slice (some ⟨G1,0,none⟩) rs.length cA)/\w'.cell? ⟨X0.heap.size,1,none⟩=some (.int .i64 (k:Int))/\w'.cell? ⟨X0.heap.size,2,none⟩=some (.int .i64 (j:Int))/\w'.cell? ⟨X0.heap.size,3,none⟩=some (.int .i64 (q:Int))/\w'.cell? ⟨X0.heap.size,5,none⟩=some (.slice Ag g.length cap))/\w'.cell? ⟨G1,k,none⟩=some u/\w'.frozen? ⟨G1,k,none⟩=false):=Lh fun w' hw =>
    ⟨⟨(hw.cell (p:=⟨G,2,none⟩) hGw).trans (hE.blk.cell 2),(hw.cell (p:=⟨X0.heap.size,1,none⟩) hbx.lt).trans (hbx.cell 1),(hw.cell (p:=⟨X0.heap.size,2,none⟩) hbx.lt).trans (hbx.cell 2),(hw.cell (p:=⟨X0.heap.size,3,none⟩) hbx.lt).trans (hbx.cell 3),(hw.cell (p:=⟨X0.heap.size,5,none⟩) hbx.lt).trans (hbx.cell 5)⟩,(hw.cell (p:=⟨G1,k,none⟩) hG1w).trans hcx,(hw.frozen (p:=⟨G1,k,none⟩) hG1w).trans hfx⟩
   have hsl:(zV l j q g).length<=400000000:=by
    unfold zV;simp only [Lf,Lu,List.length_replicate,List.length_drop]
    omega
   have hjm:j+q<=m:=by omega
   obtain ⟨t,ht⟩ : ∃ t,t=j+q:=⟨_,rfl⟩
   have qnG:Hid (∀ W1,Below wr.heap.size wr W1->Calls prog 81 #[.slice (some ⟨W1.heap.size,0,none⟩) 3 3] (W1.alloc (.cells #[.slice A4 j c4,.slice Ag g.length cap,.slice (if c4=t then A4 else A4.map (·.add (t * 3))) (m-t) (c4-t)] 38)).drew fun e w'=>∃ A5 c5,e = .returned (.slice A5 (zV l j q g).length c5)/\w'.ownsRow wr.heap.size 61 3 (.slice A5 (zV l j q g).length c5) (zV l j q g).length (qi (zV l j q g))/\Below wr.heap.size wr w'):=Lh fun W1 hW=>by
    have hz:=hW.size;have hp:=qhu l g j q m hm1 L0 hm2 hcq;rw [<- ht] at hp;have hR:=(Rd.of_own (qb hrow hW)).below ((Le W1.heap.size W1).alloc (Ld _) (.cells #[.slice A4 j c4,.slice Ag g.length cap,.slice (if c4=t then A4 else A4.map (·.add (t * 3))) (m-t) (c4-t)] 38));have hcat:yA [⟨(qam l m).take j,A4,c4⟩,⟨g,Ag,cap⟩,⟨(qam l m).drop t,if c4=t then A4 else A4.map (·.add (t * 3)),c4-t⟩]=zV l j q g:=by
     rw [<- hp]
     simp [yA,rls]
    have l1:((qam l m).take j).length=j:=by rw [Lu,qdb l hm1];omega
    have l2:((qam l m).drop t).length=m-t:=by rw [List.length_drop,qdb l hm1]
    have hc:=qjO [⟨(qam l m).take j,A4,c4⟩,⟨g,Ag,cap⟩,⟨(qam l m).drop t,if c4=t then A4 else A4.map (·.add (t * 3)),c4-t⟩] (some ⟨W1.heap.size,0,none⟩) 3 3 (W1.heap.size+1) (W1.alloc (.cells #[.slice A4 j c4,.slice Ag g.length cap,.slice (if c4=t then A4 else A4.map (·.add (t * 3))) (m-t) (c4-t)] 38)).drew rfl L0 L1 (by rw [hcat];omega)
     (by
      have:=qe (w:=W1) (xs:=[.slice A4 j c4,.slice Ag g.length cap,.slice (if c4=t then A4 else A4.map (·.add (t * 3))) (m-t) (c4-t)]) (e:=38) (m:=3) (size:=1) rfl rfl;unfold zQ;simp only [List.map_cons,List.map_nil,l1,l2]
      exact this)
     (fun x hx=>by
      simp only [List.mem_cons,List.not_mem_nil,or_false] at hx
      rcases hx with rfl | rfl | rfl
      ·dsimp only;rw [l1,kM];exact (hR.more (Nat.le_succ _)).take L0
      ·exact ((HRd.out _ (hbw.trans (hW.mono L0))).below ((Le _ _).alloc L0 _)).more L0
      ·dsimp only;rw [l2,qbO]
       exact (hR.more (Nat.le_succ _)).cut L0 hcaps.1)
    rw [hcat] at hc;exact hc.mono fun e w' ⟨A5,c5,h1,h2,h3⟩=>⟨A5,c5,h1,qt h2 (by simp;omega),((hW.alloc hz _).drew).trans (h3.mono (by simp;omega))⟩
   have HTr:Hid (∀ W1 A5 c5,Below wr.heap.size wr W1->W1.ownsRow wr.heap.size 61 3 (.slice A5 (zV l j q g).length c5) (zV l j q g).length (qi (zV l j q g))->Calls prog 79 #[.slice A5 (zV l j q g).length c5] W1 fun e w'=>∃ A6 c6,e = .returned (.slice A6 (zI (zV l j q g)).length c6)/\w'.ownsRow wr.heap.size 61 3 (.slice A6 (zI (zV l j q g)).length c6) (zI (zV l j q g)).length (qi (zI (zV l j q g)))/\Below wr.heap.size wr w'):=Lh fun W1 A5 c5 hW ho=>by
    have hcp:=yd ho;exact (vtrim_ _ A5 _ c5 W1.heap.size W1 L0 hcp.1 hcp.2 (Rd.of_own ho) (Ld _)).mono fun e w' ⟨A6,c6,h1,h2,h3⟩=>⟨A6,c6,h1,qt h2 hW.size,hW.trans (h3.mono hW.size)⟩
   generalize zV l j q g=S at *
   have hEh:=Lh hE;have hjc:(j:Int)<=c4:=by omega
   have hjqm:(j:Int)+q<=m:=by omega
   have hmc:(m:Int)<=c4:=by omega
   have hb0:Below wr.heap.size wr wr:=Le _ _;obtain ⟨⟨s1,s2,s3,s4,s5⟩,s6,s7⟩:=HCE.out wr hb0;have hn1:G≠G1:=fun e=>(hE.apart hkl).1 G rfl (by rw [e];rfl)
   have hn2:G1≠G:=Ne.symm hn1;have hn3:X0.heap.size≠G1:=by omega
   have hn4:G1≠X0.heap.size:=by omega
   have hrow2:=hrow.2;clear qnQ hh r2;clear hE hbx hx hcx hfx hrow hu hdx HRd hGw hG1w c2 hL hcq hm1 hm2;have q2:IntKind.i64.wrap ((j:Int)+q)=(t:Int):=by rw [Lx];omega
   rcases hrow2 with ⟨hv,hm0⟩ | ⟨b4,cap4,-,hv,-⟩
   ·obtain rfl:A4=none:=by injection hv
    simp only [Option.map_none,ite_self] at qnG;have i3:(t:Int)<=c4:=by omega
    have i4:(t:Int)<=m:=by omega
    have i5:(j:Int)<=t:=by omega
    clear hv hm0 ht hjm hjqm
    go_upto_region 4 with fail
    go_region_held3 (fun w'=>(w'.cell? ⟨G,2,none⟩=some (.slice (some ⟨G1,0,none⟩) rs.length cA)/\w'.cell? ⟨X0.heap.size,1,none⟩=some (.int .i64 (k:Int))/\w'.cell? ⟨X0.heap.size,2,none⟩=some (.int .i64 (j:Int))/\w'.cell? ⟨X0.heap.size,3,none⟩=some (.int .i64 (q:Int))/\w'.cell? ⟨X0.heap.size,5,none⟩=some (.slice Ag g.length cap))) (first | (refine (HCE.out _ ?_).1;(repeat (first | exact Le _ _ | assumption | refine Below.drew ?_ | refine Below.alloc ?_ L6 _ | refine Below.setCell ?_ L6 _));done) | go_keep) (first
     | (go_at_call 81;refine (qnG.out _ ql8).mono ?_;rintro e w1 ⟨A5,c5,rfl,o1,b1⟩)
     | (go_at_call 79;refine (HTr.out _ _ _ b1 o1).mono ?_;rintro e w2 ⟨A6,c6,rfl,o2,b2⟩;obtain ⟨-,t6,t7⟩:=HCE.out w2 b2))
    go_wp2;go_end0;exact ⟨rfl,⟨_,_,_,EDx.put hEh.out hkl (Lj qnR (Lr hzw)) rfl b2 o2⟩,(hbw.trans (b2.mono (Lj qnR (Lr hzw)))).setCell (p:=⟨G1,k,none⟩) hG1 _⟩
   ·obtain ⟨rfl,rfl⟩:A4=some ⟨b4,0,none⟩/\c4=cap4:=by injection hv with h1 _ h2;exact ⟨h1,h2⟩
    clear hv;have i3:(t:Int)<=c4:=by omega
    have i4:(t:Int)<=m:=by omega
    have i5:(j:Int)<=t:=by omega
    by_cases hce:c4=t
    ·obtain rfl:m=t:=by omega
     simp only [if_pos hce,hce,Nat.sub_self] at qnG;subst hce;clear hjc hjqm hmc ht hjm i3 i4
     go_upto_region 4 with fail
     go_region_held3 (fun w'=>(w'.cell? ⟨G,2,none⟩=some (.slice (some ⟨G1,0,none⟩) rs.length cA)/\w'.cell? ⟨X0.heap.size,1,none⟩=some (.int .i64 (k:Int))/\w'.cell? ⟨X0.heap.size,2,none⟩=some (.int .i64 (j:Int))/\w'.cell? ⟨X0.heap.size,3,none⟩=some (.int .i64 (q:Int))/\w'.cell? ⟨X0.heap.size,5,none⟩=some (.slice Ag g.length cap))) (first | (refine (HCE.out _ ?_).1;(repeat (first | exact Le _ _ | assumption | refine Below.drew ?_ | refine Below.alloc ?_ L6 _ | refine Below.setCell ?_ L6 _));done) | go_keep) (first
      | (go_at_call 81;refine (qnG.out _ ql8).mono ?_;rintro e w1 ⟨A5,c5,rfl,o1,b1⟩)
      | (go_at_call 79;refine (HTr.out _ _ _ b1 o1).mono ?_;rintro e w2 ⟨A6,c6,rfl,o2,b2⟩;obtain ⟨-,t6,t7⟩:=HCE.out w2 b2))
     go_wp2;go_end0;exact ⟨rfl,⟨_,_,_,EDx.put hEh.out hkl (Lj qnR (Lr hzw)) rfl b2 o2⟩,(hbw.trans (b2.mono (Lj qnR (Lr hzw)))).setCell (p:=⟨G1,k,none⟩) hG1 _⟩
    ·simp only [if_neg hce,Option.map_some,vl,Lo] at qnG;clear ht hjm hjqm
     go_upto_region 4 with fail
     go_region_held3 (fun w'=>(w'.cell? ⟨G,2,none⟩=some (.slice (some ⟨G1,0,none⟩) rs.length cA)/\w'.cell? ⟨X0.heap.size,1,none⟩=some (.int .i64 (k:Int))/\w'.cell? ⟨X0.heap.size,2,none⟩=some (.int .i64 (j:Int))/\w'.cell? ⟨X0.heap.size,3,none⟩=some (.int .i64 (q:Int))/\w'.cell? ⟨X0.heap.size,5,none⟩=some (.slice Ag g.length cap))) (first | (refine (HCE.out _ ?_).1;(repeat (first | exact Le _ _ | assumption | refine Below.drew ?_ | refine Below.alloc ?_ L6 _ | refine Below.setCell ?_ L6 _));done) | go_keep) (first
      | (go_at_call 81;refine (qnG.out _ ql8).mono ?_;rintro e w1 ⟨A5,c5,rfl,o1,b1⟩)
      | (go_at_call 79;refine (HTr.out _ _ _ b1 o1).mono ?_;rintro e w2 ⟨A6,c6,rfl,o2,b2⟩;obtain ⟨-,t6,t7⟩:=HCE.out w2 b2))
     go_wp2;go_end0;exact ⟨rfl,⟨_,_,_,EDx.put hEh.out hkl (Lj qnR (Lr hzw)) rfl b2 o2⟩,(hbw.trans (b2.mono (Lj qnR (Lr hzw)))).setCell (p:=⟨G1,k,none⟩) hG1 _⟩
section
variable {base G c : Nat} {v : Vw} {rs : List RowM} {A : Option Addr} {X w1 w2 : World}
theorem ED.ob_lt (h:ED base G v rs A c X) : ∀ y∈obR G A rs,∀ b,y=some b->b<X.heap.size:=fun y hy b hb=>by
 subst hb;unfold obR at hy
 rcases List.mem_cons.1 hy with hy | hy
 ·injection hy with hy;have:=h.blk.lt;omega
 ·rcases List.mem_cons.1 hy with hy | hy
  ·exact (vB h.rows b hy.symm).2
  ·obtain ⟨x,hx,e⟩:=List.mem_map.1 hy;exact (vB (h.gl x hx) b e).2
theorem ED.addnil (h:ED base G v rs A c X) (hb1:Below X.heap.size X w1) {A2:Option Addr} {c2 n m:Nat} (hn:n=rs.length+1) (qnB:w2.ownsRow base 38 1 (.slice A2 n c2) n (zQ rs++[.slice none 0 0]))
  (hgr:w1.grownBy w2 (Value.slice A m c).ownBlock) (hat:(Value.slice A2 n c2).ownBlock=(Value.slice A m c).ownBlock∨(Value.slice A2 n c2).ownBlock=some w1.heap.size) :
  ED base G ⟨v.width,v.height,rls rs++[[]],v.row,v.col,v.vis⟩ (rs++[qaI]) A2 c2 (w2.setCell ⟨G,2,none⟩ (.slice A2 n c2)):=by
 subst hn;rw [qC] at hgr;rw [qC,qC] at hat;have h1:=h.below hb1;obtain ⟨hd1,hd2⟩:=List.pairwise_cons.1 h.dj;obtain ⟨hd3,hd4⟩:=List.pairwise_cons.1 hd2;have hlt:=h1.ob_lt;have hnew : ∀ y∈obR G A rs,Dj (obS A) y->Dj (obS A2) y:=fun y hy hd=>(Dj.new hd.symm hat (hlt y hy)).symm
 have dG:Dj (some G) (obS A2):=(hnew _ (by simp [obR]) (hd1 _ L1).symm).symm;have len1:(rs++[qaI]).length=rs.length+1:=by simp
 have hblk:=((h1.blk.grown hgr fun e=>hd1 (obS A) L1 G rfl e.symm).set_ 2 (.slice A2 (rs.length+1) c2))
 refine ⟨by rw [len1];exact hblk,?_,fun x hx=>?_,by unfold rls;rw [List.map_append];rfl,h.lo,?_⟩
 ·rw [len1,qeN];exact ownsRow_setCell_other (a:=⟨G,2,none⟩) qnB (fun e=>by rw [qC] at e;exact dG G rfl e) _
 ·rcases List.mem_append.1 hx with hx | hx
  ·have hm:=List.mem_map_of_mem (f:=fun x=>obS x.A) hx
   exact ownsRow_setCell_other (a:=⟨G,2,none⟩) ((h1.gl x hx).kept hgr (by rw [qC];exact (hd3 _ hm).symm.ne)) (fun e=>by
    rw [qC] at e
    exact hd1 _ (List.mem_cons_of_mem _ hm) G rfl e) _
  ·rw [List.mem_singleton.1 hx];exact zY _ _ _ _
 ·unfold obR;rw [List.map_append,<- List.cons_append,<- List.cons_append];refine qeX (List.pairwise_cons.2 ⟨fun y hy=>?_,List.pairwise_cons.2 ⟨fun y hy=>hnew y (by unfold obR;exact List.mem_cons_of_mem _ (List.mem_cons_of_mem _ hy)) (hd3 y hy),hd4⟩⟩) (fun y _ j h1 h2=>by cases h2)
  rcases List.mem_cons.1 hy with rfl | hy
  ·exact dG
  ·exact hd1 y (List.mem_cons_of_mem _ hy)
theorem qjd {w:World} {e:TypeId} {n m:Nat} {xs:List Value} (h:w.ownsRow base e 1 (.slice A n c) n xs) (hm:m<=n) (hm0:0<m):w.ownsRow base e 1 (.slice A m c) m (xs.take m):=by
 refine ⟨by rw [Lu,h.1];omega,?_⟩
 rcases h.2 with ⟨_,h0⟩ | ⟨g,cap,cur,h1,h2,h3,h4,h5,h6,h7⟩
 ·omega
 ·injection h1 with e1 _ e2
  subst e1 e2;refine .inr ⟨g,c,cur,rfl,h2,h3,by omega,h5,h6,?_⟩;rw [<- h7,List.take_take]
  congr 1
  omega
theorem ED.cut (h:ED base G v rs A c X) {m:Nat} (hm:m<=rs.length) (hm0:0<m):ED base G ⟨v.width,v.height,(rls rs).take m,v.row,v.col,v.vis⟩ (rs.take m) A c (X.setCell ⟨G,2,none⟩ (.slice A m c)):=by
 obtain ⟨hd1,hd2⟩:=List.pairwise_cons.1 h.dj;have len1:(rs.take m).length=m:=by rw [Lu];omega
 have hblk:=h.blk.set_ 2 (.slice A m c);refine ⟨by rw [len1];exact hblk,?_,fun x hx=>?_,by unfold rls;rw [List.map_take],h.lo,?_⟩
 ·rw [len1];have:=qjd h.rows hm hm0;rw [show (zQ rs).take m=zQ (rs.take m) by unfold zQ;rw [List.map_take]] at this;exact ownsRow_setCell_other (a:=⟨G,2,none⟩) this (fun e=>by rw [qC] at e;exact hd1 (obS A) L1 G rfl e) _
 ·have hx':=List.mem_of_mem_take hx
  exact ownsRow_setCell_other (a:=⟨G,2,none⟩) (h.gl x hx') (fun e=>by
   rw [qC] at e
   exact hd1 _ (List.mem_cons_of_mem _ (List.mem_map_of_mem (f:=fun x=>obS x.A) hx')) G rfl e) _
 ·have:obR G A (rs.take m)=(obR G A rs).take (m+2):=by
   unfold obR;rw [List.take_succ_cons,List.take_succ_cons,List.map_take]
  rw [this];exact h.dj.sublist (List.take_sublist _ _)
end
theorem qkF {l:List Gl} {q:Nat} (h:q<l.length) (w:Int):qaT w (l.drop q)=if w<(glW l[q]:Int) then 0 else qaT (w-glW l[q]) (l.drop (q+1))+1:=by
 rw [Ls h,qaT]
theorem qkm {l:List Gl} {q:Nat} (h:q<l.length):vM (l.take (q+1))=vM (l.take q)+glW l[q]:=by
 unfold vM glW;rw [qcw h,Lu,Lu]
 cases l[q].wide
 ·simp only [Bool.toNat_false,Bool.false_eq_true,if_false];omega
 ·simp only [Bool.toNat_true,if_true];omega
theorem rowW_one (g:Gl):vM [g]=glW g:=by
 unfold vM kw glW
 cases h:g.wide <;> simp [h]
theorem rowW_le (l:List Gl):vM l<=2 * l.length:=by
 unfold vM;have:=qh4 l
 omega
theorem pad_rows (rows:List (List Gl)) (m h:Nat) (hm:rows.length<=m) (hh:h<=m):(rows++List.replicate (m-rows.length) []).take h=(List.range h).map fun i=>rows.getD i []:=by
 refine List.ext_getElem (by rw [Lu,Lf,List.length_replicate,Lq,List.length_range];omega) fun i h1 h2=>?_
 rw [Lq,List.length_range] at h2;rw [List.getElem_take,List.getElem_map,List.getElem_range,List.getElem_append,List.getD_eq_getElem?_getD]
 split
 ·rw [List.getElem?_eq_getElem L3];rfl
 ·rw [List.getElem_replicate,List.getElem?_eq_none L0];rfl
def SzA (base G:Nat) (W H vr vc:Int) (vis:Bool) (rows:List (List Gl)) (X0:World) (m:Nat) (X:World):Prop :=
 rows.length<=m/\∃ rs A c,rs.length=m/\rls rs=rows++List.replicate (m-rows.length) []/\ED base G ⟨W,H,rls rs,vr,vc,vis⟩ rs A c X/\Below base X0 X/\X0.heap.size+1<=X.heap.size
def SzB (base G:Nat) (W H vr vc:Int) (vis:Bool) (R:List (List Gl)) (A:Option Addr) (c:Nat) (X0:World) (k:Nat) (X:World):Prop :=
 ∃ rs,rs.length=R.length/\rls rs=(R.take k).map (kr W)++R.drop k/\ED base G ⟨W,H,rls rs,vr,vc,vis⟩ rs A c X/\Below base X0 X
theorem SzB.next {base G:Nat} {W H vr vc:Int} {vis:Bool} {R:List (List Gl)} {A:Option Addr} {c:Nat} {X0 X w1:World} {k:Nat} {rs:List RowM} (hl:rs.length=R.length) (hr:rls rs=(R.take k).map (kr W)++R.drop k) (hE:ED base G ⟨W,H,rls rs,vr,vc,vis⟩ rs A c X) (hb:Below base X0 X) (hk:k<R.length) (qnR:base<=X.heap.size) {G1:Nat} (hA:A=some ⟨G1,0,none⟩)
  {A6:Option Addr} {c6:Nat} (hb1:Below X.heap.size X w1) (qnB:w1.ownsRow X.heap.size 61 3 (.slice A6 (kr W R[k]).length c6) (kr W R[k]).length (qi (kr W R[k]))) :
  SzB base G W H vr vc vis R A c X0 (k+1) (w1.setCell ⟨G1,k,none⟩ (.slice A6 (kr W R[k]).length c6)):=by
 have hk':k<rs.length:=by omega
 have hp:=EDx.put (EDx.start hE hk') hk' qnR hA hb1 qnB;have e:rls (rs.set k ⟨kr W R[k],A6,c6⟩)=(R.take (k+1)).map (kr W)++R.drop (k+1):=by
  have l0:((R.take k).map (kr W)).length=k:=by rw [Lq,Lu];omega
  rw [qfd,hr,List.set_append_right _ _ L0,l0,Nat.sub_self,Ls hk,List.set_cons_zero,List.take_succ_eq_append_getElem hk,List.map_append,List.append_assoc]
  rfl
 have hG1:base<=G1:=by
  subst hA;exact (vB hE.rows G1 rfl).1
 refine ⟨rs.set k ⟨kr W R[k],A6,c6⟩,by rw [List.length_set];exact hl,e,?_,(hb.trans (hb1.mono qnR)).setCell (p:=⟨G1,k,none⟩) hG1 _⟩;rw [qfd];exact hp
section
variable {P : Program}
def qa6 (L:List Oper):Nat->Nat->Nat->Bool
 | 0,_,_=>false
 | f+1,i,j=>match L[i]? with
  | some o=>o.after.toList.any fun e=>Region.binds .any e&&(decide (e.on=j) || qa6 L f e.on j)
  | none=>false
theorem qaw {L:List Oper} {f i j:Nat} (h:qa6 L f i j=true) : ∃ o,L[i]? = some o/\∃ e∈o.after,Region.binds .any e=true/\(e.on=j∨∃ f',f=f'+1/\qa6 L f' e.on j=true):=by
 cases f with
 | zero=>cases h
 | succ f =>
  unfold qa6 at h
  cases ho:L[i]? with
  | none=>rw [ho] at h;cases h
  | some o =>
   rw [ho] at h;simp only [List.any_eq_true,Bool.and_eq_true,Bool.or_eq_true,decide_eq_true_eq,Array.mem_toList_iff] at h;obtain ⟨e,he,hb,h⟩:=h;exact ⟨o,rfl,e,he,hb,h.imp id fun h=>⟨f,rfl,h⟩⟩
theorem reach_lt {L:List Oper} (hord : ∀ i o,L[i]? = some o->∀ e∈o.after,Region.binds .any e=true->e.on<i) : ∀ (f i j:Nat),qa6 L f i j=true->j<i:=by
 intro f
 induction f with
 | zero=>intro i j h;cases h
 | succ f ih =>
  intro i j h;obtain ⟨o,ho,e,he,hb,h⟩:=qaw h;have h1:=hord i o ho e he hb
  rcases h with h | ⟨f',hf,h⟩
  ·omega
  ·obtain rfl:f=f':=by omega
   have:=ih _ _ h
   omega
def qeo (L:List Oper) (k:Nat):Bool:=decide (k<=L.length)&&(List.range L.length).all fun i=>match L[i]? with
 | some o=>(o.after.all fun e=>!Region.binds .any e || decide (e.on<i))&&(match o.guard with | some (j,_)=>decide (j<i) | none=>true)&&(decide (i<k) || (List.range i).all fun j=>qa6 L i i j)
 | none=>true
theorem qcn {L:List Oper} {k:Nat} (h:qeo L k=true):k<=L.length/\∀ i o,L[i]? = some o->(∀ e∈o.after,Region.binds .any e=true->e.on<i)/\(∀ j b,o.guard=some (j,b)->j<i)/\(k<=i->∀ j,j<i->qa6 L i i j=true):=by
 unfold qeo at h;rw [Bool.and_eq_true,decide_eq_true_eq,List.all_eq_true] at h;refine ⟨h.1,fun i o hi=>?_⟩;have hl:i<L.length:=(List.getElem?_eq_some_iff.1 hi).1;have:=h.2 i (List.mem_range.2 hl);rw [hi] at this;simp only [Bool.and_eq_true,Bool.or_eq_true,decide_eq_true_eq,Array.all_eq_true_iff_forall_mem,List.all_eq_true,List.mem_range] at this;obtain ⟨⟨h1,h2⟩,h3⟩:=this;refine ⟨fun e he hb=>?_,fun j b hg=>?_,fun hk j hj=>?_⟩
 ·rcases h1 e he with h | h
  ·rw [hb] at h;cases h
  ·exact h
 ·rw [hg] at h2
  simpa using h2
 ·rcases h3 with h | h
  ·omega
  ·exact h j hj
theorem tail_any {L:List Oper} {k:Nat} {Q:Exit->Act->World->Prop} (hL:qeo L k=true) : ∀ (T:List Oper) (m fuel:Nat) (listed:Array Bool) (a:Act) (w:World),k<=m->L.drop m=T->listed.size=L.length ->
  (∀ j,j<L.length->listed.getD j true=decide (j<m))->T.length<=fuel->wpList P L.toArray Q T a w->wpAny P .any L.toArray Q fuel listed a w:=by
 have hsp:=(qcn hL).2;intro T
 induction T with
 | nil =>
  intro m fuel listed a w hk hd hs hl _ h;have qnQ:L.length<=m:=List.drop_eq_nil_iff.1 hd;have hr:Region.ready .any L.toArray listed=[]:=by
   rw [List.eq_nil_iff_forall_not_mem];intro i hi;obtain ⟨h1,o,h2,_⟩:=mem_ready.1 hi;rw [La] at h2;have hi:=(List.getElem?_eq_some_iff.1 h2).1;rw [hl i hi,Ll L0] at h1
   cases h1
  cases fuel with
  | zero=>exact ⟨hr,h⟩
  | succ f=>exact ⟨fun _=>h,fun i hi=>by rw [hr] at hi;cases hi⟩
 | cons o T ih =>
  intro m fuel listed a w hk hd hs hl hf h;have hm:m<L.length:=by
   rcases Nat.lt_or_ge m L.length with h | h
   ·exact h
   ·rw [Lv h] at hd;cases hd
  rw [Ls hm] at hd
  injection hd with hd1 hd2
  have hmo:L[m]? = some o:=by rw [List.getElem?_eq_getElem hm,hd1]
  obtain ⟨f,rfl⟩ : ∃ f,fuel=f+1:=⟨fuel-1,by simp at hf;omega⟩
  have hgd : ∀ j,j<L.length->listed.getD j false=listed.getD j true:=fun j hj=>by
   rw [Array.getD_eq_getD_getElem?,Array.getD_eq_getD_getElem?,Array.getElem?_eq_getElem L0]
   rfl
  have hrm:m∈Region.ready .any L.toArray listed:=by
   refine mem_ready.2 ⟨by rw [hl m hm,Lk L0],o,by simpa using hmo,fun e he hb=>?_⟩;have:=(hsp m o hmo).1 e he hb;rw [hgd _ L0,hl _ L0,Ll this]
  refine ⟨fun h0=>(by rw [h0] at hrm;cases hrm),fun i hi=>?_⟩;obtain ⟨h1,oi,h2,h3⟩:=mem_ready.1 hi;rw [La] at h2;have hil:=(List.getElem?_eq_some_iff.1 h2).1;rw [hl i hil] at h1;have him : ¬ i<m:=of_decide_eq_false h1;have hie:i=m:=by
   rcases Nat.lt_or_ge m i with hlt | hge
   ·obtain ⟨o',ho',e,he,hb,hon⟩:=qaw ((hsp i oi h2).2.2 L0 m hlt);obtain rfl:o'=oi:=by rw [h2] at ho';injection ho' with e;exact e.symm
    have h4:=h3 e he hb;have h5:=(hsp i _ h2).1 e he hb;rw [hgd _ L0,hl _ L0,decide_eq_true_iff] at h4
    rcases hon with hon | ⟨f',_,hon⟩
    ·omega
    ·have:=reach_lt (fun i o ho=>(hsp i o ho).1) _ _ _ hon
     omega
   ·omega
  subst hie;obtain rfl:o=oi:=by rw [hmo] at h2;injection h2
  have hK : ∀ a w,wpList P L.toArray Q T a w->wpAny P .any L.toArray Q f (listed.setIfInBounds i true) a w:=fun a w h=>by
   refine ih (i+1) f _ a w L0 hd2 (by rw [Array.size_setIfInBounds];exact hs) (fun j hj=>?_) (by simp at hf;omega) h
   by_cases hji:j=i
   ·subst hji;rw [Ll L0,Array.getD_eq_getD_getElem?]
    simp [hs,hj]
   ·rw [Array.getD_eq_getD_getElem?,Array.getElem?_setIfInBounds_ne (Ne.symm hji),<- Array.getD_eq_getD_getElem?,hl j hj,Bool.eq_iff_iff,decide_eq_true_iff,decide_eq_true_iff]
    omega
  unfold wpOp;rw [La,hmo];simp only;rw [wpList] at h
  split
  ·rename_i hw
   rw [if_pos hw] at h;exact h.imp (Oper.wp_mono hK) id
  ·rename_i hw
   rw [if_neg hw] at h;exact hK _ _ h
theorem qg0 {L:List Oper} {k j:Nat} (tmps:Array Value) (h:j<k):yielded (L.take k).toArray tmps j=yielded L.toArray tmps j:=by
 unfold yielded;rw [La,La,List.getElem?_take_of_lt h]
theorem qhx {L:List Oper} {k:Nat} {Q:Exit->Act->World->Prop} {C:World->Prop} (hL:qeo L k=true) : ∀ (fuel:Nat) (ll listed:Array Bool) (a:Act) (w:World),ll.size=k->listed.size=L.length ->
  (∀ j,j<k->listed.getD j true=ll.getD j true)->(∀ j,k<=j->j<L.length->listed.getD j true=false)->(∀ p,p<k->ll.getD p true=true->∀ o,L[p]? = some o->∀ e∈o.after,Region.binds .any e=true->ll.getD e.on true=true)->C w ->
  wpAnyQ P .any (L.take k).toArray C (fun a'=>∀ w',C w'->wpList P L.toArray Q (L.drop k) a' w') fuel ll a->wpAny P .any L.toArray Q (fuel+(L.length-k)) listed a w:=by
 obtain ⟨hkl,hsp⟩:=qcn hL;have hlt:(L.take k).length=k:=by rw [Lu];omega
 have hend : ∀ (ll:Array Bool),ll.size=k->Region.ready .any (L.take k).toArray ll=[]->∀ i,i<k->ll.getD i true=true:=by
  intro ll hsz hr i
  induction i using Nat.strongRecOn with
  | ind i ih =>
   intro hi
   cases hli:ll.getD i true with
   | true=>rfl
   | false =>
    exfalso
    have ho:L[i]? = some (L[i]'(by omega)):=List.getElem?_eq_getElem L0;have hm:i∈Region.ready .any (L.take k).toArray ll:=by
     refine mem_ready.2 ⟨hli,L[i]'(by omega),by rw [La,List.getElem?_take_of_lt hi];exact ho,fun e he hb=>?_⟩;have h2:=(hsp i _ ho).1 e he hb;have h3:=ih e.on h2 L0;rw [Array.getD_eq_getD_getElem?] at h3 ⊢;rw [Array.getElem?_eq_getElem L0] at h3 ⊢;exact h3
    rw [hr] at hm
    cases hm
 have hfin : ∀ (fuel:Nat) (ll listed:Array Bool) (a:Act) (w:World),ll.size=k->listed.size=L.length->(∀ j,j<k->listed.getD j true=ll.getD j true)->(∀ j,k<=j->j<L.length->listed.getD j true=false) ->
   (∀ i,i<k->ll.getD i true=true)->wpList P L.toArray Q (L.drop k) a w->wpAny P .any L.toArray Q (fuel+(L.length-k)) listed a w:=fun fuel ll listed a w hs1 hs2 h1 h2 h3 h =>
  tail_any hL (L.drop k) k _ listed a w (Ld _) rfl hs2 (fun j hj=>by
   rcases Nat.lt_or_ge j k with hjk | hjk
   ·rw [h1 j hjk,h3 j hjk,Ll hjk]
   ·rw [h2 j hjk hj,Lk L0]) (by rw [List.length_drop];omega) h
 intro fuel
 induction fuel with
 | zero=>intro ll listed a w hs1 hs2 h1 h2 hcl hC h;exact hfin 0 ll listed a w hs1 hs2 h1 h2 (hend ll hs1 h.1) (h.2 w hC)
 | succ f ih =>
  intro ll listed a w hs1 hs2 h1 h2 hcl hC h;have hreach : ∀ (f p x:Nat),p<k->ll.getD p true=true->qa6 L f p x=true->ll.getD x true=true:=by
   intro f
   induction f with
   | zero=>intro p x _ _ h;cases h
   | succ f ihf =>
    intro p x hp hl h;obtain ⟨o,ho,e,he,hb,h⟩:=qaw h;have h3:=hcl p hp hl o ho e he hb;have h4:=(hsp p o ho).1 e he hb
    rcases h with h | ⟨f',hf,h⟩
    ·rw [<- h];exact h3
    ·obtain rfl:f=f':=by omega
     exact ihf _ _ L0 h3 h
  rcases hrd:Region.ready .any (L.take k).toArray ll with _ | ⟨x,xs⟩
  ·exact hfin (f+1) ll listed a w hs1 hs2 h1 h2 (hend ll hs1 hrd) (h.1 hrd w hC)
  ·have hx:x∈Region.ready .any (L.take k).toArray ll:=by rw [hrd];exact List.mem_cons_self
   have hgd : ∀ j,j<L.length->listed.getD j false=listed.getD j true:=fun j hj=>by
    rw [Array.getD_eq_getD_getElem?,Array.getD_eq_getD_getElem?,Array.getElem?_eq_getElem L0]
    rfl
   have hgl : ∀ j,j<k->ll.getD j false=ll.getD j true:=fun j hj=>by
    rw [Array.getD_eq_getD_getElem?,Array.getD_eq_getD_getElem?,Array.getElem?_eq_getElem L0]
    rfl
   have hiff : ∀ i,i<k->(i∈Region.ready .any L.toArray listed↔i∈Region.ready .any (L.take k).toArray ll):=fun i hi=>by
    rw [mem_ready,mem_ready,La,La,List.getElem?_take_of_lt hi,h1 i hi];have key : ∀ o,L[i]? = some o->((∀ e∈o.after,Region.binds .any e=true->listed.getD e.on false=true)↔∀ e∈o.after,Region.binds .any e=true->ll.getD e.on false=true):=fun o ho=>by
     constructor
     ·intro h e he hb;have:=(hsp i o ho).1 e he hb;rw [hgl _ L0,<- h1 _ L0,<- hgd _ L0];exact h e he hb
     ·intro h e he hb;have:=(hsp i o ho).1 e he hb;rw [hgd _ L0,h1 _ L0,<- hgl _ L0];exact h e he hb
    constructor
    ·rintro ⟨p,o,ho,q⟩;exact ⟨p,o,ho,(key o ho).1 q⟩
    ·rintro ⟨p,o,ho,q⟩;exact ⟨p,o,ho,(key o ho).2 q⟩
   have hxk:x<k:=by
    obtain ⟨_,o,ho,_⟩:=mem_ready.1 hx;rw [La] at ho;have:=(List.getElem?_eq_some_iff.1 ho).1
    omega
   rw [show f+1+(L.length-k)=(f+(L.length-k))+1 by omega];refine ⟨fun h0=>?_,fun i hi=>?_⟩
   ·have:=(hiff x hxk).2 hx;rw [h0] at this
    cases this
   ·have hik:i<k:=by
     rcases Nat.lt_or_ge i k with hik | hik
     ·exact hik
     ·exfalso
      obtain ⟨_,o,ho,hall⟩:=mem_ready.1 hi;rw [La] at ho;obtain ⟨o',ho',e,he,hb,hon⟩:=qaw ((hsp i o ho).2.2 hik x L0);obtain rfl:o'=o:=by rw [ho] at ho';injection ho' with e;exact e.symm
      have h5:=hall e he hb;have h6:=(mem_ready.1 hx).1;have h7:=(hsp i _ ho).1 e he hb;have hil:=(List.getElem?_eq_some_iff.1 ho).1;rw [hgd _ L0] at h5
      rcases hon with hon | ⟨f',_,hon⟩
      ·rw [hon,h1 x hxk,h6] at h5
       cases h5
      ·rcases Nat.lt_or_ge e.on k with hek | hek
       ·rw [h1 _ hek] at h5;rw [hreach _ _ _ hek h5 hon] at h6
        cases h6
       ·rw [h2 _ hek L0] at h5
        cases h5
    have hq:=h.2 i ((hiff i hik).1 hi);have hgo : ∀ a' w',C w'->wpAnyQ P .any (L.take k).toArray C (fun a'=>∀ w',C w'->wpList P L.toArray Q (L.drop k) a' w') f (ll.setIfInBounds i true) a'->wpAny P .any L.toArray Q (f+(L.length-k)) (listed.setIfInBounds i true) a' w':=fun a' w' hC' h'=>by
     refine ih _ _ a' w' (by rw [Array.size_setIfInBounds];exact hs1) (by rw [Array.size_setIfInBounds];exact hs2) (fun j hj=>?_) (fun j hj hj2=>?_) (fun p hp hl o ho e he hb=>?_) hC' h'
     ·by_cases hji:j=i
      ·subst hji;rw [Array.getD_eq_getD_getElem?,Array.getD_eq_getD_getElem?,Array.getElem?_setIfInBounds_self_of_lt L0,Array.getElem?_setIfInBounds_self_of_lt L0]
      ·rw [Array.getD_eq_getD_getElem?,Array.getD_eq_getD_getElem?,Array.getElem?_setIfInBounds_ne (Ne.symm hji),Array.getElem?_setIfInBounds_ne (Ne.symm hji),<- Array.getD_eq_getD_getElem?,<- Array.getD_eq_getD_getElem?];exact h1 j hj
     ·rw [Array.getD_eq_getD_getElem?,Array.getElem?_setIfInBounds_ne L0,<- Array.getD_eq_getD_getElem?];exact h2 j hj hj2
     ·have hset : ∀ x,ll.getD x true=true->(ll.setIfInBounds i true).getD x true=true:=fun x hx=>by
       by_cases hxi:x=i
       ·subst hxi;rw [Array.getD_eq_getD_getElem?,Array.getElem?_setIfInBounds_self_of_lt L0]
        rfl
       ·rw [Array.getD_eq_getD_getElem?,Array.getElem?_setIfInBounds_ne (Ne.symm hxi),<- Array.getD_eq_getD_getElem?];exact hx
      have hek:=(hsp p o ho).1 e he hb
      by_cases hpi:p=i
      ·subst hpi;obtain ⟨_,o',ho',hall⟩:=mem_ready.1 hi;rw [La,ho] at ho'
       injection ho' with ho'
       subst ho';have:=hall e he hb;rw [hgd _ L0,h1 _ L0] at this;exact hset _ this
      ·rw [Array.getD_eq_getD_getElem?,Array.getElem?_setIfInBounds_ne (Ne.symm hpi),<- Array.getD_eq_getD_getElem?] at hl;exact hset _ (hcl p hp hl o ho e he hb)
    unfold qOp at hq;unfold wpOp;have hoi:L[i]? = some (L[i]'(by omega)):=List.getElem?_eq_getElem L0;rw [La,List.getElem?_take_of_lt hik,hoi] at hq;rw [La,hoi];simp only at hq ⊢;have hwt:Region.wanted (L[i]'(by omega)) (yielded (L.take k).toArray a.tmps)=Region.wanted (L[i]'(by omega)) (yielded L.toArray a.tmps):=by
     unfold Region.wanted
     cases hg:(L[i]'(by omega)).guard with
     | none=>rfl
     | some p =>
      obtain ⟨j,b⟩:=p;simp only;rw [qg0 a.tmps (Nat.lt_trans ((hsp i _ hoi).2.1 j b hg) hik)]
    rw [hwt] at hq
    split
    ·rename_i hw
     rw [if_pos hw] at hq;exact .inl (Oper.wp_of_quiet hC hgo hq)
    ·rename_i hw
     rw [if_neg hw] at hq;exact hgo _ _ hC hq
theorem qdW {id:Nat} {Q:Exit->Act->World->Prop} {a:Act} {w:World} {L:List Oper} {C:World->Prop} (k:Nat) (hm:P.follows .mixedOrders=true) (hB:Region.lexB .any (L.take k).toArray=true) (hL:qeo L k=true) (hC:C w.drew)
  (h:wpQuiet P (L.take k).toArray C (fun a'=>∀ w',C w'->wpList P L.toArray Q (L.drop k) a' w') (L.take k) a):(Code.region id L.toArray true).wp P Q a w:=by
 obtain ⟨hkl,_⟩:=qcn hL;have hlt:(L.take k).length=k:=by rw [Lu];omega
 simp only [Region.lexB,Bool.and_eq_true] at hB;have h1:=wpAnyQ_lex (C:=C) (md:=.any) hB.1 (L.take k) 0 (Array.replicate (L.take k).toArray.size false) a L1 (by simpa using hB.2) h;rw [hlt,List.size_toArray,hlt] at h1;refine wp_region_any hm ?_
 have h2:=qhx (Q:=Q) hL k (Array.replicate k false) (Array.replicate L.length false) a w.drew L1 L1 (fun j hj=>by
  rw [Array.getD_eq_getD_getElem?,Array.getD_eq_getD_getElem?,Array.getElem?_replicate,Array.getElem?_replicate,if_pos L0,if_pos hj]) (fun j _ hj=>by
  rw [Array.getD_eq_getD_getElem?,Array.getElem?_replicate,if_pos hj];rfl) (fun p hp hl=>by rw [Array.getD_eq_getD_getElem?,Array.getElem?_replicate,if_pos hp] at hl;cases hl) hC h1
 rw [List.size_toArray,show L.length=k+(L.length-k) by omega];rw [show k+(L.length-k)=L.length by omega];rw [show k+(L.length-k)=L.length by omega] at h2;exact h2
theorem qbs {id:Nat} {Q:Exit->Act->World->Prop} {a:Act} {w:World} {L:List Oper} (B k:Nat) (hm:P.follows .mixedOrders=true) (hB:Region.lexB .any (L.take k).toArray=true) (hL:qeo L k=true)
  (h:wpQuiet P (L.take k).toArray (fun w'=>∃ x:Near B w,w'=x.w) (fun a'=>∀ w',(∃ x:Near B w,w'=x.w)->wpList P L.toArray Q (L.drop k) a' w') (L.take k) a):(Code.region id L.toArray true).wp P Q a w :=
 qdW (C:=fun w'=>∃ x:Near B w,w'=x.w) k hm hB hL ⟨⟨w.drew,(Le B w).drew⟩,rfl⟩ h
end
def szc (w:World) (G:Nat):Nat:=match w.cell? ⟨G,2,none⟩ with
 | some v=>qdq v
 | none=>0
theorem szc_ED {base G c:Nat} {v:Vw} {rs:List RowM} {A:Option Addr} {X:World} (h:ED base G v rs A c X):szc X G=rs.length:=by
 unfold szc;rw [(qw h.blk).2.2.1]
 rfl
theorem csize_ {base G:Nat} {v:Vw} {rs:List RowM} {A:Option Addr} {cA:Nat} {X0:World} (h:ED base G v rs A cA X0) (qnR:base<=X0.heap.size) (hh:rs.length<=1000) (hrl : ∀ x∈rs,x.l.length<=100000000)
  (c:Chg) (Ag:Option Addr) (cap:Nat) (hk:c.kind=1) (hr:zh v c=true) :
  Calls prog 53 #[.pointer (some ⟨G,0,none⟩),jH c Ag cap] X0 (EdR base G (jY v c) X0):=by
 obtain ⟨W,Hh,rows,vr,vc,vis⟩:=v;obtain ⟨kind,row,col,count,til,g⟩:=c;dsimp only at hk;subst hk;obtain ⟨r1,r2,r3,r4⟩:1<=row/\row<=60/\1<=col/\col<=132:=of_decide_eq_true hr;obtain ⟨H,rfl⟩ : ∃ H:Nat,row=H:=⟨row.toNat,by omega⟩
 have hS:jY ⟨W,Hh,rows,vr,vc,vis⟩ ⟨1,(H:Int),col,count,til,g⟩=⟨col,H,((List.range H).map fun i=>rows.getD i []).map (kr col),min vr ((H:Int)-1),min vc (col-1),vis⟩:=by
  unfold jY;rw [if_pos (show (1:Int)=1 from rfl)];simp only [Int.toNat_natCast,List.map_map]
  rfl
 rw [hS];obtain ⟨R,hR⟩ : ∃ R,((List.range H).map fun i=>rows.getD i [])=R:=⟨_,rfl⟩
 obtain ⟨M1,hM1⟩ : ∃ M1:Int,min vr ((H:Int)-1)=M1:=⟨_,rfl⟩
 obtain ⟨M2,hM2⟩ : ∃ M2:Int,min vc (col-1)=M2:=⟨_,rfl⟩
 rw [hR,hM1,hM2];have hR':=Lh hR;have hM1':=Lh hM1;have hM2':=Lh hM2;clear hR hM1 hM2;have hE:=h.eq;dsimp only at hE;have hn:rows.length=rs.length:=by rw [hE,vJ]
 have hRl:Hid (∀ i,(rows.getD i []).length<=100000000):=Lh fun i=>by
  rw [hE,List.getD_eq_getElem?_getD,rls,List.getElem?_map]
  cases hx:rs[i]? with
  | none=>exact Nat.zero_le _
  | some x=>exact hrl x (List.mem_of_getElem? hx)
 have hB:=h.blk;have hGl:=hB.lt;have hED:=Lh h;clear hS hr hrl h
 go_enter func53,ntmps53
 go_upto_region 1 with fail
 refine qa (fun X=>Blk X X0.heap.size 71 (yG ⟨1,(H:Int),col,count,til,g⟩ Ag cap)/\Below X0.heap.size X0 X) ⟨Blk.new _ _ _,L5⟩ ?_;rintro X ⟨hbx,hb⟩;have c1:X.cell? ⟨X0.heap.size,1,none⟩=some (.int .i64 (H:Int)):=hbx.cell 1;have c2:X.cell? ⟨X0.heap.size,2,none⟩=some (.int .i64 col):=hbx.cell 2;have hBX:=hB.below hb hGl;obtain ⟨e0,e1,e2,e3,e4,e5⟩:=qw hBX;have f0:=hBX.frozen 0;have f1:=hBX.frozen 1;have hne:X0.heap.size≠G:=by omega
 have hne2:G≠X0.heap.size:=by omega
 have hzX:=hbx.lt;clear e2 e3 e4 e5 hB hBX
 go_region_held3 (fun w'=>w'.cell? ⟨X0.heap.size,1,none⟩=some (.int .i64 (H:Int))/\w'.cell? ⟨X0.heap.size,2,none⟩=some (.int .i64 col)) (go_keep) (first | fail)
 have hI:SzA base G col H vr vc vis rows X0 rows.length (((X.setCell ⟨G,1,none⟩ (.int .i64 (H:Int))).setCell ⟨G,0,none⟩ (.int .i64 col)).drew):=by
  have h1:=((hED.out.below hb).setg (v':=⟨W,H,rows,vr,vc,vis⟩) (i:=1) (u:=.int .i64 (H:Int)) rfl rfl).setg (v':=⟨col,H,rows,vr,vc,vis⟩) (i:=0) (u:=.int .i64 col) rfl rfl;refine ⟨Ld _,rs,A,cA,hn.symm,by rw [Nat.sub_self,List.replicate_zero,List.append_nil,hE],?_,(((hb.mono qnR).setCell (p:=⟨G,1,none⟩) hED.out.lo _).setCell (p:=⟨G,0,none⟩) hED.out.lo _).drew,by simp [World.drew];omega⟩;rw [<- hE];exact h1.drew
 go_wp2
 go_loopw [] (fun wr=>∃ m,SzA base G col H vr vc vis rows X0 m wr) (fun wr=>H-szc wr G)
 case atStart=>exact ⟨rows.length,hI⟩
 case round =>
  clear hI hbx hb hED c1 c2 e0 e1 f0 f1;obtain ⟨m,hm,rs1,A1,d1,hl1,hr1,hE1,hb1,hz1⟩:=hrel;obtain ⟨e0,e1,e2,e3,e4,e5⟩:=qw hE1.blk;dsimp only at e0 e1 e3 e4 e5;have hsz:=szc_ED hE1;rw [hl1] at e2 hsz
  by_cases hlt:m<H
  ·have hrow:=hE1.rows;rw [hl1] at hrow;have hrow2 : ∀ n,(wr.drewN n).ownsRow base 38 1 (.slice A1 m d1) m (zQ rs1):=fun n=>hrow
   have hbz:base<=wr.heap.size:=by omega
   have hne4:some G≠(Value.slice A1 m d1).ownBlock:=fun e=>by
    rw [qC] at e;exact (List.pairwise_cons.1 hE1.dj).1 (obS A1) L1 G rfl e.symm
   go_wp2
   go_quiet (fail)
   go_wp2_with (at_builtin;go_must (refine qg rfl _ _ _ rfl elt_row base _ rfl ((hrow2 _).alloc _) _ _ rfl (qe (xs:=[.slice none 0 0]) (by rfl) rfl) ?_);intro A4 c4 w4 qmC qmy qmG qmI;have hB4:=((Blk.drewN hE1.blk nq).alloc (.cells #[.slice none 0 0] 38)).grown qmG hne4;have q4:=(qw hB4).2.2.1;have z4:=hB4.frozen 2)
   have hEn:=(hE1.below (qf (n:=nq) (Le _ _))).addnil L5 (by rw [hl1]) qmC qmG qmI;have hrn:rls rs1++[[]]=rls (rs1++[qaI]):=by unfold rls;rw [List.map_append];rfl
   have hsn:=szc_ED hEn;rw [Lf,hl1] at hsn;refine ⟨⟨m+1,by omega,rs1++[qaI],A4,c4,by rw [Lf,hl1];rfl,?_,by rw [<- hrn];exact hEn,?_,?_⟩,by rw [hsn,hsz];simp only [Lz];omega⟩
   ·rw [<- hrn,hr1,List.append_assoc,show m+1-rows.length=(m-rows.length)+1 by omega,List.replicate_succ']
   ·exact ((((qf hb1).alloc hbz _).trans qmy).setCell (p:=⟨G,2,none⟩) hE1.lo _)
   ·have:=qmG.size
    simp at this ⊢
    omega
  ·go_wp2
   go_quiet (fail)
   go_upto_region 4 with fail
   have hcaps:=yd hE1.rows;rw [hl1] at hcaps;have hHm:(H:Int)<=m:=by omega
   have hHd:(H:Int)<=d1:=by omega
   have hmd:(m:Int)<=d1:=by omega
   refine qa (fun Y=>Below wr.heap.size wr Y) (qf (Le _ _)) ?_;intro Y hY;have hE2:=hE1.below hY;obtain ⟨-,d1_,d2_,-⟩:=qw hE2.blk;rw [hl1] at d2_;dsimp only at d1_;have hGY:=hE2.blk.lt;have N1 : ∀ x:Near Y.heap.size Y,x.w.cell? ⟨G,1,none⟩=some (.int .i64 (H:Int)):=fun x=>(x.h.cell (p:=⟨G,1,none⟩) hGY).trans d1_
   have N2 : ∀ x:Near Y.heap.size Y,x.w.cell? ⟨G,2,none⟩=some (.slice A1 m d1):=fun x=>(x.h.cell (p:=⟨G,2,none⟩) hGY).trans d2_
   clear e0 e1 e2 e3 e4 e5 d1_ d2_;refine qbs (Y.heap.size) 15 (by kernel_rfl) (by kernel_rfl) (by kernel_rfl) ?_;simp only [List.take_succ_cons,List.take_zero,List.drop_succ_cons,List.drop_zero];(repeat (go_big_quiet_step (fail)));refine wpQuiet_nil ?_;intro _ hw';obtain ⟨x1,hw''⟩:=hw';subst hw'';have hE3:=hE2.below x1.h;have q3:=(qw hE3.blk).2.2.1;have z3:=hE3.blk.frozen 2;rw [hl1] at q3;have hE4:=hE3.cut (m:=H) L0 L0;obtain ⟨G1,cap1,hA,hG1,-⟩:=hE1.rows.form L0;obtain ⟨rfl,rfl⟩:A1=some ⟨G1,0,none⟩/\d1=cap1:=by injection hA with h1 _ h2;exact ⟨h1,h2⟩
   have hRR:(rls rs1).take H=R:=by rw [hr1,<- hR'.out];exact pad_rows rows m H hm L0
   have hI2:SzB base G col H vr vc vis R (some ⟨G1,0,none⟩) d1 X0 0 (x1.w.setCell ⟨G,2,none⟩ (.slice (some ⟨G1,0,none⟩) H d1)):=by
    have e:rls (rs1.take H)=R:=by rw [<- hRR];unfold rls;rw [List.map_take]
    refine ⟨rs1.take H,by rw [<- hR'.out,Lu,Lq,List.length_range];omega,by rw [e];rfl,?_,((hb1.trans ((hY.trans (x1.h.mono hY.size)).mono L0)).setCell (p:=⟨G,2,none⟩) hE1.lo _)⟩;rw [e,<- hRR];exact hE4
   have hsz0:X0.heap.size<=(x1.w.setCell ⟨G,2,none⟩ (.slice (some ⟨G1,0,none⟩) H d1)).heap.size:=by
    have h1:=hY.size;have h2:=x1.h.size;rw [World.size_setCell]
    omega
   have hRk:Hid (∀ k (h:k<R.length),(R[k]).length<=100000000):=Lh fun k h=>by
    have:(((List.range H).map fun i=>rows.getD i [])[k]'(by rw [hR'.out];exact h)).length<=100000000:=by
     rw [List.getElem_map];exact hRl.out _
    simp only [hR'.out] at this;exact this
   have hRn:R.length=H:=by rw [<- hR'.out,Lq,List.length_range]
   go_wp2;clear N1 N2 q3 z3 hE4 hE3 hE2 hE1 hY hGY hcaps hHm hHd hmd hb1 hz1 hsz hlt hRR hr1 hl1 hm;have hH60:H<=60:=by omega
   go_loopw [64] (fun x wr=>∃ k:Nat,k<=H/\x = .int .i64 k/\SzB base G col H vr vc vis R (some ⟨G1,0,none⟩) d1 X0 k wr/\X0.heap.size<=wr.heap.size) (fun x _=>H-(intOf x).toNat)
   case atStart=>exact ⟨0,Nat.zero_le _,rfl,hI2,hsz0⟩
   case round =>
    clear hI2 hsz0;obtain ⟨k,hk,rfl,hSz,hsz⟩:=hrel;obtain ⟨rs2,hl2,hr2,hE5,hb5⟩:=id hSz
    by_cases hlt:k<H
    ·have hkR:k<R.length:=by omega
     have hk2:k<rs2.length:=by omega
     have hxl:rs2[k].l=R[k]:=by
      have e1:(rls rs2)[k]? = some rs2[k].l:=by unfold rls;rw [List.getElem?_map,List.getElem?_eq_getElem hk2];rfl
      rw [hr2,List.getElem?_append_right (by rw [Lq,Lu];omega),Lq,Lu,Nat.min_eq_left L0,Nat.sub_self,Ls hkR,Lb] at e1
      injection e1 with e1
      exact e1.symm
     have hcx:=hE5.rows.cellAt k L0;rw [yF hk2] at hcx;have hrow:=hE5.gl _ (Lt hk2);have hcaps:=yd hrow;have hNx:Hid (∀ w1 A6 c6,Below wr.heap.size wr w1->w1.ownsRow wr.heap.size 61 3 (.slice A6 (kr col R[k]).length c6) (kr col R[k]).length (qi (kr col R[k]))->SzB base G col H vr vc vis R (some ⟨G1,0,none⟩) d1 X0 (k+1) (w1.setCell ⟨G1,k,none⟩ (.slice A6 (kr col R[k]).length c6))/\X0.heap.size<=(w1.setCell ⟨G1,k,none⟩ (.slice A6 (kr col R[k]).length c6)).heap.size):=Lh fun w1 A6 c6 h1 h2=>⟨SzB.next hl2 hr2 hE5 hb5 hkR L0 rfl h1 h2,by rw [World.size_setCell];have:=h1.size;omega⟩
     have hfz:=hE5.rows.frozenAt k;have hG1w:=(vB hE5.rows G1 rfl).2;have hGw:=hE5.blk.lt;have hLk:=hRk.out k hkR;obtain ⟨e0,-,e2,-⟩:=qw hE5.blk;dsimp only at e0;rw [hl2,hRn] at e2;have hHi:(k:Int)<H:=by omega
     rw [<- hxl] at hNx hLk;generalize rs2[k]=x at *
     obtain ⟨l,Al,cl⟩:=x;dsimp only at *
     have hRd:=Rd.of_own hrow;have HTr:Hid (∀ W1,Below wr.heap.size wr W1->Calls prog 79 #[.slice Al (qaT col l) cl] W1 fun e w'=>∃ A6 c6,e = .returned (.slice A6 (kr col l).length c6)/\w'.ownsRow wr.heap.size 61 3 (.slice A6 (kr col l).length c6) (kr col l).length (qi (kr col l))/\Below wr.heap.size wr w'):=Lh fun W1 hW=>by
      have hf:=qhy col l;have hR1:=(hRd.below hW).take hf;rw [<- kM] at hR1;exact (vtrim_ (l.take (qaT col l)) Al (qaT col l) cl wr.heap.size W1 L0 L0 hcaps.2 hR1 hW.size).mono fun e w' ⟨A6,c6,h1,h2,h3⟩=>⟨A6,c6,h1,qt h2 hW.size,hW.trans (h3.mono hW.size)⟩
     have HWd:Hid (∀ q (h:q<l.length) W1,Below wr.heap.size wr W1->∃ b,Al=some ⟨b,0,none⟩/\Calls prog 32 #[.slice (some ⟨b,q * 3,none⟩) 1 (cl-q)] W1 (qh (.int .i64 (glW l[q]:Nat)) W1)):=Lh fun q h W1 hW=>by
      rcases hrow.2 with ⟨hv,hm0⟩ | ⟨b,cap4,cur4,hv,-⟩
      ·omega
      ·obtain rfl:Al=some ⟨b,0,none⟩:=by injection hv
       have hR1:=(((hRd.below hW).cut (k:=q) (cap:=cl) L0 hcaps.1).take (k:=1) L0)
       rw [if_neg L0,Option.map_some,vl,Lo] at hR1;have e:(qi l).drop (q * 3)=qi (l.drop q):=(qbO l q).symm;rw [e,<- kM,Ls h,List.take_succ_cons,List.take_zero] at hR1;have:=qeY [l[q]] (some ⟨b,q * 3,none⟩) 1 (cl-q) wr.heap.size W1 L0 hR1 hW.size;rw [rowW_one] at this;exact ⟨b,rfl,this⟩
     have hfl:=Lh (qhy col l);have HF0:Hid (qaT col l=0+qaT (col-(vM (l.take 0):Nat)) (l.drop 0)):=Lh (by rw [List.take_zero,List.drop_zero,Lo];simp [vM,kw]);generalize qaT col l=F at *
     generalize kr col l=CR at *
     clear hSz hl2 hr2 hE5 hb5 hxl hrow hRd hRk hkR hk2;have hcl63:(cl:Int)<=9223372036854775807:=by have:=hcaps.2;unfold maxLen at this;omega
     have hcl0:=hcaps.1;clear hcaps;obtain ⟨wo,rfl⟩ : ∃ x:World,x=wr:=⟨_,rfl⟩
     go_wp2
     go_loopw [6,7] (fun vn vw wz=>∃ q:Nat,q<=l.length/\vn = .int .i64 q/\vw = .int .i64 (vM (l.take q):Nat)/\Below wo.heap.size wo wz/\Hid (F=q+qaT (col-(vM (l.take q):Nat)) (l.drop q))) (fun vn _ _=>l.length-(intOf vn).toNat)
     case atStart=>exact ⟨0,Nat.zero_le _,rfl,rfl,Le _ _,HF0⟩
     case round =>
      clear HF0;obtain ⟨q,hq,rfl,rfl,hbz,HF⟩:=hrel;have hzz:=hbz.size;have e0z:=(hbz.cell (p:=⟨G,0,none⟩) hGw).trans e0
      by_cases hlq:q<l.length
      ·obtain ⟨b,rfl,hw⟩:=HWd.out q hlq wr hbz;have hW:=Lh hw;have hrt:=qkm hlq;have hfd:=qkF hlq (col-(vM (l.take q):Nat));have hrl:=rowW_le (l.take q);rw [Lu] at hrl;have hg2:glW l[q]<=2:=by unfold glW;split <;> omega
       have HF2:=HF.out;rw [hfd] at HF2;generalize glW l[q]=gw at *
       generalize hr0:vM (l.take q)=r0 at *
       have hr0b:r0<=200000000:=by omega
       have hq1:(q:Int)+1<=l.length:=by omega
       have hq2:(q:Int)+1<=cl:=by omega
       clear hfd hw HWd hrl
       by_cases hfit:col<(r0:Int)+gw
       ·rw [if_pos L0] at HF2;obtain rfl:F=q:=by omega
        clear HF HF2 hr0 hrt;have hFc:F<=cl:=by omega
        have hFi:(F:Int)<=cl:=by omega
        have hF0:(0:Int)<=F:=by omega
        go_upto_region 13 with (go_at_call 32;refine hW.out.mono ?_;rintro e w1 ⟨rfl,hb1⟩;have e0w:=(hb1.cell (p:=⟨G,0,none⟩) (Ly hGw hzz)).trans e0z)
        refine qa (fun Y=>Below wo.heap.size wo Y) (hbz.trans (hb1.mono hzz)) ?_;intro Y hY;have y2:=(hY.cell (p:=⟨G,2,none⟩) hGw).trans e2;have yk:=(hY.cell (p:=⟨G1,k,none⟩) hG1w).trans hcx;have yf:=(hY.frozen (p:=⟨G1,k,none⟩) hG1w).trans hfz
        go_region_law (go_simp;go_at_call 79;refine (HTr.out _ (by first | exact hY | exact hY.drew)).mono ?_;rintro e w2 ⟨A6,c6,rfl,o2,b2⟩;have z2:=(b2.cell (p:=⟨G,2,none⟩) hGw).trans e2;have zk:=(b2.cell (p:=⟨G1,k,none⟩) hG1w).trans hcx;have zf:=(b2.frozen (p:=⟨G1,k,none⟩) hG1w).trans hfz)
        all_goals go_wp2
        all_goals exact ⟨⟨k+1,by omega,by go_num,hNx.out _ _ _ b2 o2⟩,by simp [intOf];omega⟩
       ·rw [if_neg L0,show col-(r0:Int)-gw=col-((r0+gw:Nat):Int) by omega,<- hrt] at HF2;have HF3:Hid (F=(q+1)+qaT (col-(vM (l.take (q+1)):Nat)) (l.drop (q+1))):=Lh L0;have hd:decide (col<(r0:Int)+gw)=false:=Lk hfit;clear HF HF2 hr0
        go_wp2_with (go_at_call 32;refine hW.out.mono ?_;rintro e w1 ⟨rfl,hb1⟩;have e0w:=(hb1.cell (p:=⟨G,0,none⟩) (Ly hGw hzz)).trans e0z)
        exact ⟨⟨q+1,by omega,by go_num,by rw [hrt];go_num,hbz.trans (hb1.mono hzz),HF3⟩,by simp [intOf];omega⟩
      ·obtain rfl:q=l.length:=by omega
       have HF2:=HF.out;rw [Lv (Ld _),qaT] at HF2;obtain rfl:F=l.length:=by omega
       clear HF HF2 HWd
       go_upto_region 13 with fail
       refine qa (fun Y=>Below wo.heap.size wo Y) hbz ?_;intro Y hY;have y2:=(hY.cell (p:=⟨G,2,none⟩) hGw).trans e2;have yk:=(hY.cell (p:=⟨G1,k,none⟩) hG1w).trans hcx;have yf:=(hY.frozen (p:=⟨G1,k,none⟩) hG1w).trans hfz
       go_region_law (go_simp;go_at_call 79;refine (HTr.out _ (by first | exact hY | exact hY.drew)).mono ?_;rintro e w2 ⟨A6,c6,rfl,o2,b2⟩;have z2:=(b2.cell (p:=⟨G,2,none⟩) hGw).trans e2;have zk:=(b2.cell (p:=⟨G1,k,none⟩) hG1w).trans hcx;have zf:=(b2.frozen (p:=⟨G1,k,none⟩) hG1w).trans hfz)
       all_goals go_wp2
       all_goals exact ⟨⟨k+1,by omega,by go_num,hNx.out _ _ _ b2 o2⟩,by simp [intOf];omega⟩
    ·obtain rfl:k=H:=by omega
     have hcr:(R.take k).map (kr col)++R.drop k=R.map (kr col):=by rw [<- hRn,List.take_length,List.drop_length,List.append_nil]
     rw [hcr] at hr2;obtain ⟨e0,e1,-,e3,e4,-⟩:=qw hE5.blk;dsimp only at e0 e1 e3 e4;have f3:=hE5.blk.frozen 3;have f4:=hE5.blk.frozen 4;have g1:=hE5.setg (v':=⟨col,k,rls rs2,M1,vc,vis⟩) (i:=3) (u:=.int .i64 M1) rfl rfl;have g2:=g1.setg (v':=⟨col,k,rls rs2,M1,M2,vis⟩) (i:=4) (u:=.int .i64 M2) rfl rfl;have hB2:=Lh ((hb5.setCell (p:=⟨G,3,none⟩) hE5.lo (.int .i64 M1)).setCell (p:=⟨G,4,none⟩) hE5.lo (.int .i64 M2));have hg2:=Lh g2;have hrl2:=Lh hr2;have hM1:=hM1'.out;have hM2:=hM2'.out;clear hSz hr2 hE5 hb5 g1 g2 hl2 hcr hRk hsz hM1' hM2' hR';go_wp2
     go_region
     all_goals go_wp2
     all_goals go_end0
     refine ⟨rfl,⟨rs2,some ⟨G1,0,none⟩,d1,?_⟩,hB2.out.drew⟩;rw [<- hrl2.out];exact hg2.out.drew
theorem capply_ {base G B:Nat} {v:Vw} {rs:List RowM} {A:Option Addr} {cA:Nat} {X0:World} (h:ED base G v rs A cA X0) (qnR:base<=X0.heap.size) (qnQ:(rs.length:Int)=v.height) (hh:v.height<=1000) (hrl : ∀ x∈rs,x.l.length<=100000000)
  (c:Chg) (Ag:Option Addr) (cap:Nat) (hB:B<=base) (rd:Rd X0 B 3 Ag c.glyphs.length (qi c.glyphs)) (hgl:c.glyphs.length<=100000000) (hk:1<=c.kind/\c.kind<=4) (hr:zh v c=true) :
  Calls prog 31 #[.pointer (some ⟨G,0,none⟩),jH c Ag cap] X0 (EdR base G (jY v c) X0):=by
 have hl2 : ∀ x∈rs,x.l.length<=1000000000:=fun x hx=>Lj (hrl x hx) L2
 have hw : ∀ w',Below X0.heap.size X0 w'->ED base G v rs A cA w'/\base<=w'.heap.size/\Rd w' B 3 Ag c.glyphs.length (qi c.glyphs):=fun w' hb=>⟨h.below hb,Lj qnR hb.size,rd.below (hb.mono L0)⟩
 have hb2 : ∀ w' e w'',Below X0.heap.size X0 w'->EdR base G (jY v c) w' e w''->EdR base G (jY v c) X0 e w'':=fun w' e w'' hb ⟨h1,h2,h3⟩=>⟨h1,h2,(hb.mono qnR).trans h3⟩
 obtain ⟨kind,row,col,count,til,g⟩:=c;dsimp only at *
 have hcases:kind=1∨kind=2∨kind=3∨kind=4:=by omega
 rcases hcases with rfl | rfl | rfl | rfl
 ·have HC:Hid (∀ w',Below X0.heap.size X0 w'->Calls prog 53 #[.pointer (some ⟨G,0,none⟩),jH ⟨1,row,col,count,til,g⟩ Ag cap] w' (EdR base G (jY v ⟨1,row,col,count,til,g⟩) X0)):=Lh fun w' hb=>(csize_ (hw w' hb).1 (hw w' hb).2.1 L0 hrl _ Ag cap rfl hr).mono fun e w'' hq=>hb2 w' e w'' hb hq
  clear hb2 hw hr h qnQ rd hrl hl2;have HG:=HC;clear HC
  go_enter func31,ntmps31
  go_upto_region 1 with fail
  refine qa (ChgBox X0 ⟨1,row,col,count,til,g⟩ Ag cap) (ChgBox.new X0 ⟨1,row,col,count,til,g⟩ Ag cap _) ?_;rintro X ⟨c0,c1,c2,c3,c4,c5,hb,hzX⟩;dsimp only at c0 c1 c2 c3 c4 c5
  go_upto_region 2 with fail
  refine qa (fun Y=>Below X.heap.size X Y/\Y.cell? ⟨X.heap.size,0,none⟩=some (.func (Fn.func 53) #[] #[])) ⟨L5,by simp⟩ ?_;rintro Y ⟨hY,hf⟩;have e0:=(hY.cell (p:=⟨X0.heap.size,0,none⟩) hzX).trans c0;have e1:=(hY.cell (p:=⟨X0.heap.size,1,none⟩) hzX).trans c1;have e2:=(hY.cell (p:=⟨X0.heap.size,2,none⟩) hzX).trans c2;have e3:=(hY.cell (p:=⟨X0.heap.size,3,none⟩) hzX).trans c3;have e4:=(hY.cell (p:=⟨X0.heap.size,4,none⟩) hzX).trans c4;have e5:=(hY.cell (p:=⟨X0.heap.size,5,none⟩) hzX).trans c5;have hbY:=hb.trans (hY.mono L0);clear c0 c1 c2 c3 c4 c5 hb hY;have hwr:IntKind.i64.wrap 0=0:=by decide
  go_region_law (go_simp;go_at_call 53;refine (HG.out _ (by first | exact hbY | exact hbY.drew)).mono ?_;rintro e w2 ⟨rfl,h2,h3⟩)
  all_goals go_wp2
  all_goals go_end0
  all_goals exact ⟨rfl,h2,h3⟩
 ·have HC:Hid (∀ w',Below X0.heap.size X0 w'->Calls prog 54 #[.pointer (some ⟨G,0,none⟩),jH ⟨2,row,col,count,til,g⟩ Ag cap] w' (EdR base G (jY v ⟨2,row,col,count,til,g⟩) X0)):=Lh fun w' hb=>(cscroll_ (hw w' hb).1 (hw w' hb).2.1 qnQ hh hl2 _ Ag cap rfl hr).mono fun e w'' hq=>hb2 w' e w'' hb hq
  clear hb2 hw hr h qnQ rd hrl hl2;have HG:=HC;clear HC
  go_enter func31,ntmps31
  go_upto_region 1 with fail
  refine qa (ChgBox X0 ⟨2,row,col,count,til,g⟩ Ag cap) (ChgBox.new X0 ⟨2,row,col,count,til,g⟩ Ag cap _) ?_;rintro X ⟨c0,c1,c2,c3,c4,c5,hb,hzX⟩;dsimp only at c0 c1 c2 c3 c4 c5
  go_upto_region 2 with fail
  refine qa (fun Y=>Below X.heap.size X Y/\Y.cell? ⟨X.heap.size,1,none⟩=some (.func (Fn.func 54) #[] #[])) ⟨L5,by simp⟩ ?_;rintro Y ⟨hY,hf⟩;have e0:=(hY.cell (p:=⟨X0.heap.size,0,none⟩) hzX).trans c0;have e1:=(hY.cell (p:=⟨X0.heap.size,1,none⟩) hzX).trans c1;have e2:=(hY.cell (p:=⟨X0.heap.size,2,none⟩) hzX).trans c2;have e3:=(hY.cell (p:=⟨X0.heap.size,3,none⟩) hzX).trans c3;have e4:=(hY.cell (p:=⟨X0.heap.size,4,none⟩) hzX).trans c4;have e5:=(hY.cell (p:=⟨X0.heap.size,5,none⟩) hzX).trans c5;have hbY:=hb.trans (hY.mono L0);clear c0 c1 c2 c3 c4 c5 hb hY;have hwr:IntKind.i64.wrap 1=1:=by decide
  go_region_law (go_simp;go_at_call 54;refine (HG.out _ (by first | exact hbY | exact hbY.drew)).mono ?_;rintro e w2 ⟨rfl,h2,h3⟩)
  all_goals go_wp2
  all_goals go_end0
  all_goals exact ⟨rfl,h2,h3⟩
 ·have HC:Hid (∀ w',Below X0.heap.size X0 w'->Calls prog 55 #[.pointer (some ⟨G,0,none⟩),jH ⟨3,row,col,count,til,g⟩ Ag cap] w' (EdR base G (jY v ⟨3,row,col,count,til,g⟩) X0)):=Lh fun w' hb=>(csplice_ (hw w' hb).1 (hw w' hb).2.1 qnQ hh hrl _ Ag cap hB (hw w' hb).2.2 hgl rfl hr).mono fun e w'' hq=>hb2 w' e w'' hb hq
  clear hb2 hw hr h qnQ rd hrl hl2;have HG:=HC;clear HC
  go_enter func31,ntmps31
  go_upto_region 1 with fail
  refine qa (ChgBox X0 ⟨3,row,col,count,til,g⟩ Ag cap) (ChgBox.new X0 ⟨3,row,col,count,til,g⟩ Ag cap _) ?_;rintro X ⟨c0,c1,c2,c3,c4,c5,hb,hzX⟩;dsimp only at c0 c1 c2 c3 c4 c5
  go_upto_region 2 with fail
  refine qa (fun Y=>Below X.heap.size X Y/\Y.cell? ⟨X.heap.size,2,none⟩=some (.func (Fn.func 55) #[] #[])) ⟨L5,by simp⟩ ?_;rintro Y ⟨hY,hf⟩;have e0:=(hY.cell (p:=⟨X0.heap.size,0,none⟩) hzX).trans c0;have e1:=(hY.cell (p:=⟨X0.heap.size,1,none⟩) hzX).trans c1;have e2:=(hY.cell (p:=⟨X0.heap.size,2,none⟩) hzX).trans c2;have e3:=(hY.cell (p:=⟨X0.heap.size,3,none⟩) hzX).trans c3;have e4:=(hY.cell (p:=⟨X0.heap.size,4,none⟩) hzX).trans c4;have e5:=(hY.cell (p:=⟨X0.heap.size,5,none⟩) hzX).trans c5;have hbY:=hb.trans (hY.mono L0);clear c0 c1 c2 c3 c4 c5 hb hY;have hwr:IntKind.i64.wrap 2=2:=by decide
  go_region_law (go_simp;go_at_call 55;refine (HG.out _ (by first | exact hbY | exact hbY.drew)).mono ?_;rintro e w2 ⟨rfl,h2,h3⟩)
  all_goals go_wp2
  all_goals go_end0
  all_goals exact ⟨rfl,h2,h3⟩
 ·have HC:Hid (∀ w',Below X0.heap.size X0 w'->Calls prog 56 #[.pointer (some ⟨G,0,none⟩),jH ⟨4,row,col,count,til,g⟩ Ag cap] w' (EdR base G (jY v ⟨4,row,col,count,til,g⟩) X0)):=Lh fun w' hb=>(ccursor_ (hw w' hb).1 (hw w' hb).2.1 _ Ag cap rfl).mono fun e w'' hq=>hb2 w' e w'' hb hq
  clear hb2 hw hr h qnQ rd hrl hl2;have HG:=HC;clear HC
  go_enter func31,ntmps31
  go_upto_region 1 with fail
  refine qa (ChgBox X0 ⟨4,row,col,count,til,g⟩ Ag cap) (ChgBox.new X0 ⟨4,row,col,count,til,g⟩ Ag cap _) ?_;rintro X ⟨c0,c1,c2,c3,c4,c5,hb,hzX⟩;dsimp only at c0 c1 c2 c3 c4 c5
  go_upto_region 2 with fail
  refine qa (fun Y=>Below X.heap.size X Y/\Y.cell? ⟨X.heap.size,3,none⟩=some (.func (Fn.func 56) #[] #[])) ⟨L5,by simp⟩ ?_;rintro Y ⟨hY,hf⟩;have e0:=(hY.cell (p:=⟨X0.heap.size,0,none⟩) hzX).trans c0;have e1:=(hY.cell (p:=⟨X0.heap.size,1,none⟩) hzX).trans c1;have e2:=(hY.cell (p:=⟨X0.heap.size,2,none⟩) hzX).trans c2;have e3:=(hY.cell (p:=⟨X0.heap.size,3,none⟩) hzX).trans c3;have e4:=(hY.cell (p:=⟨X0.heap.size,4,none⟩) hzX).trans c4;have e5:=(hY.cell (p:=⟨X0.heap.size,5,none⟩) hzX).trans c5;have hbY:=hb.trans (hY.mono L0);clear c0 c1 c2 c3 c4 c5 hb hY;have hwr:IntKind.i64.wrap 3=3:=by decide
  go_region_law (go_simp;go_at_call 56;refine (HG.out _ (by first | exact hbY | exact hbY.drew)).mono ?_;rintro e w2 ⟨rfl,h2,h3⟩)
  all_goals go_wp2
  all_goals go_end0
  all_goals exact ⟨rfl,h2,h3⟩
def Tb (w:World):Prop :=
 (∀ i,i<20->w.cell? ⟨4,i,none⟩=some (.string (wb i)))/\(∀ i,i<8->w.cell? ⟨5,i,none⟩=some (.string (wb (20+i))))
theorem qdj {w w':World} {B:Nat} {a:Addr} {v:Value} (h:w.cell? a=some v) (hb:Below B w w') (hB:w.heap.size<=B):w'.cell? a=some v:=by
 have hl:a.block<w.heap.size:=by
  rcases Nat.lt_or_ge a.block w.heap.size with hl | hl
  ·exact hl
  ·unfold World.cell? at h;rw [Array.getElem?_eq_none hl] at h
   cases h
 exact (hb.cell L0).trans h
theorem Tb.below {w w':World} (h:Tb w) (hb:Below w.heap.size w w'):Tb w' :=
 ⟨fun i hi=>qdj (h.1 i hi) hb (Ld _),fun i hi=>qdj (h.2 i hi) hb (Ld _)⟩
theorem Tb.drewN {w:World} (h:Tb w) (n:Nat):Tb (w.drewN n):=h
def qG (m:Nat):List Nat:=if m=0 then [0] else zj m
theorem rs1 : ∀ m:Fin 20,qG m.val=[m.val]:=by decide +kernel
theorem rs2 : ∀ m:Fin 100,20<=m.val->m.val % 10=0->qG m.val=[18+m.val / 10]:=by decide +kernel
theorem rs3 : ∀ m:Fin 100,20<=m.val->m.val % 10≠0->qG m.val=[18+m.val / 10,m.val % 10]:=by decide +kernel
theorem rs4 : ∀ m:Fin 1000,100<=m.val->qG m.val=[m.val / 100,28]++(if m.val % 100=0 then [] else qG (m.val % 100)):=by decide +kernel
theorem qef (m:Nat) (hm:m<100) (w:World) (ht:Tb w) :
  Calls prog 156 #[.int .i64 m] w (ql 9 1 id w (qG m).length (wv (qG m))):=by
 by_cases c1:m<20
 ·have hc:=ht.1 m c1;have HL:=Lh (rs1 ⟨m,c1⟩);simp only at HL;clear ht
  go_enter func156,ntmps156
  go_wp2;go_ret;rw [HL.out];exact ⟨_,_,rfl,qx (xs:=[_]) rfl rfl (Ld _) (by first | omega | (simp only [Lp,List.length_nil];omega)),L5⟩
 have hc2:=ht.2 (m / 10-2) L0;rw [show 20+(m / 10-2)=18+m / 10 from by omega] at hc2
 by_cases c2:m % 10=0
 ·have HL:=Lh (rs2 ⟨m,hm⟩ (by simp;omega) c2);simp only at HL;have c2':((m:Int) % 10==0)=true:=by rw [beq_iff_eq];omega
  clear ht c2;have c1':(20:Int)<=(m:Int):=by omega
  go_enter func156,ntmps156
  go_wp2;go_ret;rw [HL.out];exact ⟨_,_,rfl,qx (xs:=[_]) rfl rfl (Ld _) (by first | omega | (simp only [Lp,List.length_nil];omega)),L5⟩
 ·have HL:=Lh (rs3 ⟨m,hm⟩ (by simp;omega) c2);simp only at HL;have hc1:=ht.1 (m % 10) L0;have c2':((m:Int) % 10==0)=false:=by rw [Lm];omega
  clear ht c2;have b1:(0:Int)<=(m:Int) % 10:=by omega
  have b2:(m:Int) % 10<20:=by omega
  have b3:(0:Int)<=(m:Int) / 10-2:=by omega
  have b4:(m:Int) / 10-2<8:=by omega
  have n1:=World.new_ne w _ hc1;have n2:=World.new_ne w _ hc2
  go_enter func156,ntmps156
  go_wp2;have r1:(m:Int).tdiv 10=m / 10:=Int.tdiv_eq_ediv_of_nonneg L0;have r2:(m:Int).tmod 10=m % 10:=Int.tmod_eq_emod_of_nonneg L0;have r3:IntKind.i64.wrap ((m:Int) / 10)=m / 10:=IntWalk.i64_in _ L0;have r4:IntKind.i64.wrap ((m:Int) / 10-2)=m / 10-2:=IntWalk.i64_in _ L0;have r5:IntKind.i64.wrap ((m:Int) % 10)=m % 10:=IntWalk.i64_in _ L0;have r6:((m:Int) / 10-2).toNat=m / 10-2:=by omega
  have b5:(2:Int)<=(m:Int) / 10:=by omega
  have b6:(m:Int) / 10<10:=by omega
  have b7:(m:Int) / 10<8+2:=by omega
  have r7:((m:Int) % 10).toNat=m % 10:=by omega
  go_region_held3 (fun w'=>w'.cell? ⟨5,m / 10-2,none⟩=some (.string (wb (18+m / 10)))/\w'.cell? ⟨4,m % 10,none⟩=some (.string (wb (m % 10)))) (go_keep) (first | fail)
  clear r1 r2 r3 r4 r5 r6 r7 b7;go_wp2;go_ret;rw [HL.out];exact ⟨_,_,rfl,qx (xs:=[_,_]) rfl rfl (Ld _) (by first | omega | (simp only [Lp,List.length_nil];omega)),by exact ql8⟩
theorem qha (m:Nat) (hm:m<1000) (w:World) (ht:Tb w) :
  Calls prog 156 #[.int .i64 m] w (ql 9 1 id w (qG m).length (wv (qG m))):=by
 by_cases c0:m<100
 ·exact qef m c0 w ht
 have c1:100<=m:=by omega
 have hc:=ht.1 (m / 100) L0;have HL:=Lh (rs4 ⟨m,hm⟩ c1);simp only at HL;have HR:Hid (∀ w,Tb w->Calls prog 156 #[.int .i64 ((m:Int) % 100)] w (ql 9 1 id w (qG (m % 100)).length (wv (qG (m % 100))))):=Lh fun w ht=>by
  have:=qef (m % 100) L0 w ht
  rwa [Int.natCast_emod] at this
 have HT:=Lh ht;have c2:(20:Int)<=(m:Int):=by omega
 by_cases c3:m % 100=0
 ·have c3':((m:Int) % 100 != 0)=false:=by rw [bne_eq_false_iff_eq];omega
  have HL2:Hid (qG m=[m / 100,28]):=Lh (by rw [HL.out,if_pos c3];rfl);clear ht c3 c0
  go_enter func156,ntmps156
  go_wp2_with fail
  go_ret;rw [HL2.out];exact ⟨_,_,rfl,qx (xs:=[_,_]) rfl rfl (Ld _) (by first | omega | (simp only [Lp,List.length_nil];omega)),by exact ql8⟩
 ·have c3':((m:Int) % 100 != 0)=true:=by rw [Ln];omega
  have HL2:Hid (qG m=[m / 100,28]++qG (m % 100)):=Lh (by rw [HL.out,if_neg c3]);have hle:(qG (m % 100)).length<=4:=by
   unfold qG
   split
   ·simp
   ·exact kJ _
  generalize qG (m % 100)=L at *
  clear ht c3 c0
  go_enter func156,ntmps156
  go_wp2_with (first
   | (go_at_call 156;refine (HR.out _ (HT.out.below (by exact L5))).mono ?_;rintro e w1 ⟨A1,c1,rfl,qnx,qmv⟩;have z1:=qmv.size;simp only [Li] at z1;have hown0:w1.ownsRow w.heap.size 9 1 (.slice (some ⟨w.heap.size,0,none⟩) 2 2) 2 [.string (wb (m / 100)),.string (wb 28)]:=qb (qx (by rfl) rfl (Ld _) L0) qmv)
   | (at_builtin;refine qg rfl _ _ _ rfl qp (w.heap.size) _ rfl (hown0) _ _ rfl (Rd.of_own qnx) ?_;intro A2 c2 w2 qny qmw qnC qnD;have z2:=qmw.size;(try simp only [Li] at z2);(try simp only [Lo,Lg] at qny)))
  go_ret;rw [HL2.out];have e:([m / 100,28]++L).length=2+L.length:=by simp;omega
  refine ⟨A2,c2,by rw [e];rfl,?_,((L5).trans (qmv.mono L1)).trans (qmw.mono L0)⟩;rw [e]
  simpa [wv] using qny
def zp (n:Nat):List Nat:=if n=0 then [0] else posL n
theorem qd3 (n:Nat) (h:n<1000):zp n=qG n:=by
 unfold zp qG
 by_cases h0:n=0
 ·rw [if_pos h0,if_pos h0]
 ·rw [if_neg h0,if_neg h0,km];have a:n / 1000000=0:=by omega
  have b:n % 1000000 / 1000=0:=by omega
  have c:n % 1000000 % 1000=n:=by omega
  rw [a,b,c]
  simp [yO,qak,show 0<n by omega]
theorem qd6 (n:Nat) (h1:1000<=n) (h2:n<1000000):zp n=qG (n / 1000)++[29]++(if n % 1000=0 then [] else zp (n % 1000)):=by
 have e:(if n % 1000=0 then [] else zp (n % 1000))=qak (n % 1000):=by
  by_cases h0:n % 1000=0
  ·rw [if_pos h0,h0];rfl
  ·rw [if_neg h0,qd3 _ L0,qG,if_neg h0,qak,if_pos L0]
 rw [e,zp,if_neg L0,km,qG,if_neg L0];have a:n / 1000000=0:=by omega
 have b:n % 1000000 / 1000=n / 1000:=by omega
 have c:n % 1000000 % 1000=n % 1000:=by omega
 rw [a,b,c]
 simp [yO,show 0<n / 1000 by omega]
theorem qeZ (n:Nat) (h1:1000000<=n) (h2:n<1000000000):zp n=qG (n / 1000000)++[30]++(if n % 1000000=0 then [] else zp (n % 1000000)):=by
 have e:(if n % 1000000=0 then [] else zp (n % 1000000))=yO (n % 1000000 / 1000) 29++qak (n % 1000000 % 1000):=by
  by_cases h0:n % 1000000=0
  ·rw [if_pos h0,h0];rfl
  ·have a:n % 1000000 / 1000000=0:=by omega
   have b:n % 1000000 % 1000000=n % 1000000:=by omega
   rw [if_neg h0,zp,if_neg h0,km,a,b]
   simp [yO]
 rw [e,zp,if_neg L0,km,qG,if_neg L0,yO,if_pos L0]
 simp
theorem qdh (n:Nat):(zp n).length<=14:=by
 unfold zp
 split
 ·simp
 ·rw [km];have a:=qbm (n / 1000000) 30;have b:=qbm (n % 1000000 / 1000) 29;have c:(qak (n % 1000000 % 1000)).length<=4:=by
   unfold qak
   split
   ·exact kJ _
   ·simp
  simp only [Lf]
  omega
theorem qd5 (n:Nat):(qG n).length<=4:=by
 unfold qG
 split
 ·simp
 ·exact kJ _
set_option maxRecDepth 100000 in
theorem rpos_a (n:Nat) (hn:n<1000) (x:Int) (hx:x=n) (w:World) (ht:Tb w) :
  Calls prog 139 #[.int .i64 x] w (ql 9 1 id w (zp n).length (wv (zp n))):=by
 have HS:=Lh (qha n hn w ht);rw [<- qd3 n hn,<- hx] at HS;have x1:x<1000:=by omega
 clear ht hx hn
 go_enter func139,ntmps139
 go_wp2_with (go_at_call 156;refine HS.out.mono ?_;rintro e w1 ⟨A1,c1,rfl,qnx,qmv⟩)
 go_ret;exact ⟨A1,c1,rfl,qnx,qmv⟩
set_option maxRecDepth 100000 in
theorem rpos_b (n:Nat) (h1:1000<=n) (h2:n<1000000) (x:Int) (hx:x=n) (w:World) (ht:Tb w) :
  Calls prog 139 #[.int .i64 x] w (ql 9 1 id w (zp n).length (wv (zp n))):=by
 have HT:=Lh ht;have x1:1000<=x:=by omega
 have x2:x<1000000:=by omega
 have hq:n / 1000<1000:=by omega
 have HS:Hid (∀ w,Tb w->Calls prog 156 #[.int .i64 (x / 1000)] w (ql 9 1 id w (qG (n / 1000)).length (wv (qG (n / 1000))))):=Lh fun w ht=>by
  have:=qha (n / 1000) hq w ht
  rwa [show ((n / 1000:Nat):Int)=x / 1000 from by omega] at this
 have HR:Hid (∀ w,Tb w->Calls prog 139 #[.int .i64 (x % 1000)] w (ql 9 1 id w (zp (n % 1000)).length (wv (zp (n % 1000))))):=Lh fun w ht=>by
  exact rpos_a (n % 1000) L0 (x % 1000) L0 w ht
 have HL:=Lh (qd6 n L0 L0);have l1:=qd5 (n / 1000);have l2:=qdh (n % 1000)
 by_cases c3:n % 1000=0
 ·have c3':(x % 1000 != 0)=false:=by rw [bne_eq_false_iff_eq];omega
  have HL2:Hid (zp n=qG (n / 1000)++[29]):=Lh (by rw [HL.out,if_pos c3,List.append_nil]);clear ht c3 hx h1 h2 hq;generalize qG (n / 1000)=L at *
  go_enter func139,ntmps139
  go_wp2_with (first
   | (go_at_call 156;refine (HS.out _ HT.out).mono ?_;rintro e w1 ⟨A1,c1,rfl,qnx,qmv⟩;have z1:=qmv.size)
   | (at_builtin;refine qg rfl _ _ _ rfl qp (w.heap.size) _ rfl (qnx.alloc _) _ _ rfl (qe (by rfl) rfl) ?_;intro A2 c2 w2 qny qmw qnC qnD;have z2:=qmw.size;(try simp only [Li] at z2);(try simp only [Lo,Lg] at qny)))
  go_ret;rw [HL2.out];have e:(L++[29]).length=L.length+1:=by simp
  exact ⟨A2,c2,by rw [e];rfl,by rw [e];simpa [wv,wb] using qny,(qmv.alloc L0 _).trans (qmw.mono L0)⟩
 ·have c3':(x % 1000 != 0)=true:=by rw [Ln];omega
  have HL2:Hid (zp n=qG (n / 1000)++[29]++zp (n % 1000)):=Lh (by rw [HL.out,if_neg c3]);clear ht c3 hx h1 h2 hq;generalize qG (n / 1000)=L at *
  generalize zp (n % 1000)=L' at *
  go_enter func139,ntmps139
  go_wp2_with (first
   | (go_at_call 156;refine (HS.out _ HT.out).mono ?_;rintro e w1 ⟨A1,c1,rfl,qnx,qmv⟩;have z1:=qmv.size)
   | (at_builtin;refine qg rfl _ _ _ rfl qp (w.heap.size) _ rfl (qnx.alloc _) _ _ rfl (qe (by rfl) rfl) ?_;intro A2 c2 w2 qny qmw qnC qnD;have z2:=qmw.size;(try simp only [Li] at z2);(try simp only [Lo,Lg] at qny))
   | (go_at_call 139;refine (HR.out _ (HT.out.below ((qmv.alloc L0 _).trans qmw))).mono ?_;rintro e w3 ⟨A3,c3,rfl,qnz,qmx⟩;have z3:=qmx.size;have hown2':=qb qny qmx)
   | (at_builtin;refine qg rfl _ _ _ rfl qp (w.heap.size) _ rfl (hown2') _ _ rfl (Rd.of_own qnz) ?_;intro A4 c4 w4 qmC qmy qmG qmI;have z4:=qmy.size;(try simp only [Li] at z4);(try simp only [Lo,Lg] at qmC)))
  go_ret;rw [HL2.out];have e:(L++[29]++L').length=L.length+1+L'.length:=by simp;omega
  exact ⟨A4,c4,by rw [e];rfl,by rw [e];simpa [wv,wb] using qmC,(((qmv.alloc L0 _).trans (qmw.mono L0)).trans (qmx.mono L0)).trans (qmy.mono L0)⟩
theorem qiw (n:Nat) (h2:n<1000000) (x:Int) (hx:x=n) (w:World) (ht:Tb w) :
  Calls prog 139 #[.int .i64 x] w (ql 9 1 id w (zp n).length (wv (zp n))):=by
 rcases Nat.lt_or_ge n 1000 with h | h
 ·exact rpos_a n h x hx w ht
 ·exact rpos_b n h h2 x hx w ht
set_option maxRecDepth 100000 in
theorem rpos_c (n:Nat) (h1:1000000<=n) (h2:n<1000000000) (x:Int) (hx:x=n) (w:World) (ht:Tb w) :
  Calls prog 139 #[.int .i64 x] w (ql 9 1 id w (zp n).length (wv (zp n))):=by
 have HT:=Lh ht;have x1:1000000<=x:=by omega
 have x2:x<1000000000:=by omega
 have hq:n / 1000000<1000:=by omega
 have HS:Hid (∀ w,Tb w->Calls prog 156 #[.int .i64 (x / 1000000)] w (ql 9 1 id w (qG (n / 1000000)).length (wv (qG (n / 1000000))))):=Lh fun w ht=>by
  have:=qha (n / 1000000) hq w ht
  rwa [show ((n / 1000000:Nat):Int)=x / 1000000 from by omega] at this
 have HR:Hid (∀ w,Tb w->Calls prog 139 #[.int .i64 (x % 1000000)] w (ql 9 1 id w (zp (n % 1000000)).length (wv (zp (n % 1000000))))):=Lh fun w ht=>by
  exact qiw (n % 1000000) L0 (x % 1000000) L0 w ht
 have HL:=Lh (qeZ n L0 L0);have l1:=qd5 (n / 1000000);have l2:=qdh (n % 1000000)
 by_cases c3:n % 1000000=0
 ·have c3':(x % 1000000 != 0)=false:=by rw [bne_eq_false_iff_eq];omega
  have HL2:Hid (zp n=qG (n / 1000000)++[30]):=Lh (by rw [HL.out,if_pos c3,List.append_nil]);clear ht c3 hx h1 h2 hq;generalize qG (n / 1000000)=L at *
  go_enter func139,ntmps139
  go_wp2_with (first
   | (go_at_call 156;refine (HS.out _ HT.out).mono ?_;rintro e w1 ⟨A1,c1,rfl,qnx,qmv⟩;have z1:=qmv.size)
   | (at_builtin;refine qg rfl _ _ _ rfl qp (w.heap.size) _ rfl (qnx.alloc _) _ _ rfl (qe (by rfl) rfl) ?_;intro A2 c2 w2 qny qmw qnC qnD;have z2:=qmw.size;(try simp only [Li] at z2);(try simp only [Lo,Lg] at qny)))
  go_ret;rw [HL2.out];have e:(L++[30]).length=L.length+1:=by simp
  exact ⟨A2,c2,by rw [e];rfl,by rw [e];simpa [wv,wb] using qny,(qmv.alloc L0 _).trans (qmw.mono L0)⟩
 ·have c3':(x % 1000000 != 0)=true:=by rw [Ln];omega
  have HL2:Hid (zp n=qG (n / 1000000)++[30]++zp (n % 1000000)):=Lh (by rw [HL.out,if_neg c3]);clear ht c3 hx h1 h2 hq;generalize qG (n / 1000000)=L at *
  generalize zp (n % 1000000)=L' at *
  go_enter func139,ntmps139
  go_wp2_with (first
   | (go_at_call 156;refine (HS.out _ HT.out).mono ?_;rintro e w1 ⟨A1,c1,rfl,qnx,qmv⟩;have z1:=qmv.size)
   | (at_builtin;refine qg rfl _ _ _ rfl qp (w.heap.size) _ rfl (qnx.alloc _) _ _ rfl (qe (by rfl) rfl) ?_;intro A2 c2 w2 qny qmw qnC qnD;have z2:=qmw.size;(try simp only [Li] at z2);(try simp only [Lo,Lg] at qny))
   | (go_at_call 139;refine (HR.out _ (HT.out.below ((qmv.alloc L0 _).trans qmw))).mono ?_;rintro e w3 ⟨A3,c3,rfl,qnz,qmx⟩;have z3:=qmx.size;have hown2':=qb qny qmx)
   | (at_builtin;refine qg rfl _ _ _ rfl qp (w.heap.size) _ rfl (hown2') _ _ rfl (Rd.of_own qnz) ?_;intro A4 c4 w4 qmC qmy qmG qmI;have z4:=qmy.size;(try simp only [Li] at z4);(try simp only [Lo,Lg] at qmC)))
  go_ret;rw [HL2.out];have e:(L++[30]++L').length=L.length+1+L'.length:=by simp;omega
  exact ⟨A4,c4,by rw [e];rfl,by rw [e];simpa [wv,wb] using qmC,(((qmv.alloc L0 _).trans (qmw.mono L0)).trans (qmx.mono L0)).trans (qmy.mono L0)⟩
theorem rpos (n:Nat) (h2:n<1000000000) (x:Int) (hx:x=n) (w:World) (ht:Tb w) :
  Calls prog 139 #[.int .i64 x] w (ql 9 1 id w (zp n).length (wv (zp n))):=by
 rcases Nat.lt_or_ge n 1000000 with h | h
 ·exact qiw n h x hx w ht
 ·exact rpos_c n h h2 x hx w ht
theorem qd8 (n:Nat):qm n=zp n:=by
 unfold qm zp
 by_cases h0:n=0
 ·subst h0;rfl
 ·have h1 : ¬ ((n:Int)=0):=by omega
  have h2 : ¬ ((n:Int)<0):=by omega
  rw [if_neg h1,if_neg h2,if_neg h0,Int.natAbs_natCast]
  rfl
theorem qd9 (n:Nat) (h0:0<n):qm (-(n:Int))=31::zp n:=by
 have e:(-(n:Int)).natAbs=n:=by omega
 have h1 : ¬ (-(n:Int)=0):=by omega
 have h2 : -(n:Int)<0:=by omega
 unfold qm zp;rw [if_neg h1,if_pos h2,if_neg L0,e]
 rfl
theorem qlg (n:Int) (h:n < -999999999∨999999999<n) (w:World) :
  Calls prog 119 #[.int .i64 n] w (qh (.tuple #[.slice none 0 0,.int .i64 2]) w):=by
 rcases h with h | h
 ·go_enter func119,ntmps119
  go_wp2;go_ret2;exact ⟨rfl,Le _ _⟩
 ·have h' : ¬ n < -999999999:=by omega
  go_enter func119,ntmps119
  go_wp2;go_ret2;exact ⟨rfl,Le _ _⟩
set_option maxRecDepth 100000 in
theorem qbl (n:Int) (h1 : -999999999<=n) (h2:n<=999999999) (w:World) (ht:Tb w) :
  Calls prog 119 #[.int .i64 n] w (ql 9 1 yP w (qm n).length (wv (qm n))):=by
 have HT:=Lh ht;clear ht
 by_cases hn:n<0
 ·obtain ⟨m,hm⟩ : ∃ m:Nat,n = -(m:Int):=⟨n.natAbs,by omega⟩
  have hm1:0<m:=by omega
  have HL:=Lh (qd9 m hm1);have hle:=qdh m;have HS:Hid (∀ w,Tb w->Calls prog 139 #[.int .i64 (-n)] w (ql 9 1 id w (zp m).length (wv (zp m)))):=Lh fun w ht=>by
   exact rpos m L0 (-n) L0 w ht
  rw [<- hm] at HL;clear hm;generalize zp m=L at *
  go_enter func119,ntmps119
  go_wp2_with (first
   | (go_at_call 139;refine (HS.out _ (HT.out.below (by exact L5))).mono ?_;rintro e w1 ⟨A1,c1,rfl,qnx,qmv⟩;have z1:=qmv.size;simp only [Li] at z1;have hown0:w1.ownsRow w.heap.size 9 1 (.slice (some ⟨w.heap.size,0,none⟩) 1 1) 1 [.string (wb 31)]:=qb (qx (by rfl) rfl (Ld _) L0) qmv)
   | (at_builtin;refine qg rfl _ _ _ rfl qp (w.heap.size) _ rfl (hown0) _ _ rfl (Rd.of_own qnx) ?_;intro A2 c2 w2 qny qmw qnC qnD;have z2:=qmw.size;(try simp only [Li] at z2);(try simp only [Lo,Lg] at qny)))
  go_ret2;rw [HL.out];have e:(31::L).length=1+L.length:=by simp;omega
  exact ⟨A2,c2,by rw [e];rfl,by rw [e];simpa [wv] using qny,((L5).trans (qmv.mono L1)).trans (qmw.mono L0)⟩
 ·obtain ⟨m,rfl⟩ : ∃ m:Nat,n=(m:Int):=⟨n.toNat,by omega⟩
  have HL:=Lh (qd8 m);have HS:Hid (∀ w,Tb w->Calls prog 139 #[.int .i64 (m:Int)] w (ql 9 1 id w (zp m).length (wv (zp m)))):=Lh fun w ht=>rpos m L0 m rfl w ht
  generalize zp m=L at *
  go_enter func119,ntmps119
  go_wp2_with (go_at_call 139;refine (HS.out _ HT.out).mono ?_;rintro e w1 ⟨A1,c1,rfl,qnx,qmv⟩)
  go_ret2;rw [HL.out];exact ⟨A1,c1,rfl,qnx,qmv⟩
end Go.Proofs.YtggegijlfaipfaaGreatDoor
