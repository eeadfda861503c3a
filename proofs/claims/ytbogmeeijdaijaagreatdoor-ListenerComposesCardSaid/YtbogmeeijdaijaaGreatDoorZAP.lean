/- Joined: Lvl, Lvm, Lvn, Lvo, Lw1, Ur5. -/
import Derived.Test.YtbogmeeijdaijaaGreatDoorZAO
set_option linter.unusedVariables false
set_option linter.unusedSimpArgs false
set_option linter.unnecessarySimpa false
set_option maxHeartbeats 4000000
namespace Go.Proofs.YtbogmeeijdaijaaGreatDoor
open Go.Proofs.Tryz Go.RowKit
set_option maxRecDepth 20000
theorem qah {P:Program} {fn:Func} {p u u2:Tmp} {ty:TypeId} (h:fn.results = #[.cell p ty,.tmp u,.tmp u2]) (tmps:Array Value) (w:World) (g:Nat) (t:TypeId) (cs:Array Value) (fr:Nat × Nat) (d:TypeDesc)
  (hp:tmps.getD p undef = .pointer (some ⟨g,0,none⟩)) (hg:w.heap[g]? = some (.cells cs t fr))
  (hu:P.underlying ty=some d) (hd:(match d with | .struct _ | .array _ _=>true | _=>false)=true) (hi:(P.info? ty).map (·.size)=some cs.size) :
  (results fn tmps).run P w = .ok (.tuple #[.agg cs,tmps.getD u undef,tmps.getD u2 undef]) w:=by
 simp only [results,h];have hp':tmps[p]?.getD undef = .pointer (some ⟨g,0,none⟩):=by simpa using hp
 simp [Sem.run_bind,Result.andThen,hp',asAddr,run_loadVar_row w g t ty cs fr d hg hu hd hi]
def glN (l:List Chg):Nat:=(l.map fun c=>c.glyphs.length+264).sum
theorem qb3 (c:Chg) (l:List Chg):glN (c::l)=c.glyphs.length+264+glN l:=by simp [glN]
def LenV (v:Vw) (M:Nat):Prop:=∀ l∈v.rows,l.length<=M
theorem LenV.getD {v:Vw} {M:Nat} (h:LenV v M) (i:Nat):(v.rows.getD i []).length<=M:=by
 rw [List.getD_eq_getElem?_getD]
 cases hx:v.rows[i]? with
 | none=>exact Nat.zero_le _
 | some l=>exact h l (List.mem_of_getElem? hx)
theorem LenV.step {v:Vw} {c:Chg} {M:Nat} (h:LenV v M) (hr:zh v c=true):LenV (jY v c) (M+(c.glyphs.length+264)):=by
 have h0 : ∀ i,(v.rows.getD i []).length<=M+(c.glyphs.length+264):=fun i=>by have:=h.getD i;omega
 unfold jY;unfold zh at hr
 by_cases h1:c.kind=1
 ·rw [if_pos h1];intro l hl;simp only [List.mem_map] at hl;obtain ⟨i,_,rfl⟩:=hl;have h2:=qdP ((v.rows.getD i []).take (qaT c.col (v.rows.getD i [])));rw [Lu] at h2;have:=h0 i;unfold kr
  omega
 ·rw [if_neg h1] at hr ⊢
  by_cases h2:c.kind=2
  ·rw [if_pos h2];intro l hl;simp only [List.mem_map] at hl;obtain ⟨i,_,rfl⟩:=hl;unfold kP
   split
   ·split
    ·exact h0 _
    ·exact Nat.zero_le _
   ·exact h0 _
  ·rw [if_neg h2] at hr ⊢
   by_cases h3:c.kind=3
   ·rw [if_pos h3,decide_eq_true_iff] at hr;rw [if_pos h3];intro l hl
    rcases List.mem_or_eq_of_mem_set hl with hl | rfl
    ·have:=h l hl;omega
    ·have h4:=qdP (zV (v.rows.getD c.row.toNat []) c.col.toNat c.count.toNat c.glyphs);have h5:=h.getD c.row.toNat;unfold zV at h4 ⊢;simp only [Lf,Lu,List.length_replicate,List.length_drop] at h4
     omega
   ·rw [if_neg h3];intro l hl;have:=h l hl
    omega
theorem kI:(prog.info? 24).map (fun x=>x.size)=some 6:=by kernel_rfl
structure OwV (N:Nat) (X:World) (v:Vw) (A:Option Addr) (n c:Nat) (rs:List RowM):Prop where
 rows:X.ownsRow N 45 1 (.slice A n c) n (zQ rs)
 gl : ∀ x∈rs,X.ownsRow N 64 3 (.slice x.A x.l.length x.cap) x.l.length (qi x.l)
 eq:v.rows=rls rs
section
variable {N N' n c : Nat} {X X' : World} {v : Vw} {A : Option Addr} {rs : List RowM}
theorem OwV.below (h:OwV N X v A n c rs) (hb:Below X.heap.size X X'):OwV N X' v A n c rs:=⟨qb h.rows hb,fun x hx=>qb (h.gl x hx) hb,h.eq⟩
theorem OwV.less (h:OwV N X v A n c rs) (hn:N'<=N):OwV N' X v A n c rs:=⟨qt h.rows hn,fun x hx=>qt (h.gl x hx) hn,h.eq⟩
theorem OwV.far (h:OwV N X v A n c rs) {p:Addr} (hp:p.block<N) (u:Value):OwV N (X.setCell p u) v A n c rs:=by
 have hne : ∀ {B:Option Addr} {n c size:Nat} {e:TypeId} {xs:List Value},X.ownsRow N e size (.slice B n c) n xs->(Value.slice B n c).ownBlock≠some p.block:=fun ho e=>by
  rw [qC] at e;have:=(vB ho _ e).1
  omega
 exact ⟨ownsRow_setCell_other h.rows (hne h.rows) _,fun x hx=>ownsRow_setCell_other (h.gl x hx) (hne (h.gl x hx)) _,h.eq⟩
theorem OwV.rdV (h:OwV N X v A n c rs):RdV X X.heap.size v A n c rs :=
 ⟨⟨Rd.of_own h.rows,fun x hx=>qe8 (h.gl x hx)⟩,h.eq,(yd h.rows).1,(yd h.rows).2⟩
end
theorem OwV.none_ (N:Nat) (w:World):OwV N w vw0 none 0 0 []:=⟨zY _ _ _ _,fun x hx=>(by cases hx),rfl⟩
theorem ED.ow {base g c:Nat} {v:Vw} {rs:List RowM} {A:Option Addr} {X:World} (h:ED base g v rs A c X):OwV base X v A rs.length c rs:=⟨h.rows,h.gl,h.eq⟩
def ApR (r:Vw × Int) (w:World) (e:Ending) (w':World):Prop :=
 Below w.heap.size w w'/\∃ A n c rs,∃ i:Int,e = .returned (.tuple #[.agg (vwC r.1 A n c),.int .i64 i,.int .i64 r.2])/\OwV w.heap.size w' r.1 A n c rs
theorem ED.far {base g c:Nat} {v:Vw} {rs:List RowM} {A:Option Addr} {X:World} (h:ED base g v rs A c X) {p:Addr} (hp:p.block<base) (u:Value):ED base g v rs A c (X.setCell p u):=by
 have hne : ∀ {B:Option Addr} {n c size:Nat} {e:TypeId} {xs:List Value},X.ownsRow base e size (.slice B n c) n xs->(Value.slice B n c).ownBlock≠some p.block:=fun ho e=>by
  rw [qC] at e;have:=(vB ho _ e).1
  omega
 exact ⟨h.blk.far (by have:=h.lo;omega) _,ownsRow_setCell_other h.rows (hne h.rows) _,fun x hx=>ownsRow_setCell_other (h.gl x hx) (hne (h.gl x hx)) _,h.eq,h.lo,h.dj⟩
abbrev ZB (X:World) (g:Nat):Prop:=Blk X g 24 (vwC vw0 none 0 0)
theorem ZB.facts {X:World} {g:Nat} (h:ZB X g):X.cell? ⟨g,0,none⟩=some (.int .i64 0)/\X.cell? ⟨g,1,none⟩=some (.int .i64 0)/\X.cell? ⟨g,2,none⟩=some (.slice none 0 0)/\X.cell? ⟨g,3,none⟩=some (.int .i64 0)/\X.cell? ⟨g,4,none⟩=some (.int .i64 0)/\X.cell? ⟨g,5,none⟩=some (.bool false) /\
  X.frozen? ⟨g,0,none⟩=false/\X.frozen? ⟨g,1,none⟩=false/\X.frozen? ⟨g,2,none⟩=false/\X.frozen? ⟨g,3,none⟩=false/\X.frozen? ⟨g,4,none⟩=false/\X.frozen? ⟨g,5,none⟩=false :=
 ⟨h.cell 0,h.cell 1,h.cell 2,h.cell 3,h.cell 4,h.cell 5,h.frozen 0,h.frozen 1,h.frozen 2,h.frozen 3,h.frozen 4,h.frozen 5⟩
theorem ZB.set6 {X:World} {g:Nat} (h:ZB X g) (v:Vw) (A:Option Addr) (n c:Nat):Blk ((((((X.setCell ⟨g,0,none⟩ (.int .i64 v.width)).setCell ⟨g,1,none⟩ (.int .i64 v.height)).setCell ⟨g,2,none⟩ (.slice A n c)).setCell ⟨g,3,none⟩ (.int .i64 v.row)).setCell ⟨g,4,none⟩ (.int .i64 v.col)).setCell ⟨g,5,none⟩ (.bool v.vis)) g 24 (vwC v A n c) :=
 (((((h.set_ 0 _).set_ 1 _).set_ 2 _).set_ 3 _).set_ 4 _).set_ 5 _
theorem qap {B g:Nat} {X Y:World} (h:Below B X Y) (hg:B<=g) (u0 u1 u2 u3 u4 u5:Value):Below B X ((((((Y.setCell ⟨g,0,none⟩ u0).setCell ⟨g,1,none⟩ u1).setCell ⟨g,2,none⟩ u2).setCell ⟨g,3,none⟩ u3).setCell ⟨g,4,none⟩ u4).setCell ⟨g,5,none⟩ u5) :=
 (((((h.setCell (p:=⟨g,0,none⟩) hg _).setCell (p:=⟨g,1,none⟩) hg _).setCell (p:=⟨g,2,none⟩) hg _).setCell (p:=⟨g,3,none⟩) hg _).setCell (p:=⟨g,4,none⟩) hg _).setCell (p:=⟨g,5,none⟩) hg _
theorem qkz (l:List Chg) (k:Nat):glN (l.drop k)<=glN l:=by
 induction l generalizing k with
 | nil=>simp [glN]
 | cons c t ih =>
  cases k with
  | zero=>exact Ld _
  | succ k=>rw [List.drop_succ_cons,qb3];have:=ih k;omega
def ApL (w:World) (base g:Nat) (cs:List ChgM) (R:Vw × Int) (k:Nat) (X:World):Prop :=
 ∃ v rs A c,ED base g v rs A c X/\OnV v/\LenV v (100000000-glN (zo (cs.drop k)))/\R=goV v (zo (cs.drop k))/\ZB X (w.heap.size+1)/\Below w.heap.size w X/\base<=X.heap.size
theorem qbd {cs:List ChgM} {k:Nat} (h:k<cs.length):zo (cs.drop k)=cs[k].c::zo (cs.drop (k+1)):=by
 rw [Ls h]
 rfl
theorem apply_ (v:Vw) (A:Option Addr) (n c B:Nat) (rs:List RowM) (cs:List ChgM) (Ac:Option Addr) (nc cc:Nat) (w:World) (rd:RdV w B v A n c rs) (rc:RdC w B Ac nc cs) (hcc:nc<=cc) (hB:B<=w.heap.size)
  (hM : ∀ x∈rs,x.l.length+glN (zo cs)<=100000000) (hz : ∀ x∈rs,∀ g∈x.l,g.text.size<=1000000000) (hgz : ∀ x∈cs,x.c.glyphs.length<=100000000/\∀ g∈x.c.glyphs,g.text.size<=1000000000) (hnc:nc<=1000000) (hu:U8 w) :
  Calls prog 20 #[.agg (vwC v A n c),.slice Ac nc cc] w (ApR (yx v (zo cs)) w):=by
 obtain ⟨R,hR⟩ : ∃ R,Hid (yx v (zo cs)=R):=⟨_,Lh rfl⟩
 rw [hR.out];have HCh:Hid (∀ w',Below w.heap.size w w'->Calls prog 32 #[.agg (vwC v A n c)] w' (qh (.int .i64 (js v)) w')):=Lh fun w' hb=>qig v A n c w.heap.size rs w' ((rd.more hB).below hb) hb.size (fun x hx=>⟨by have:=hM x hx;omega,hz x hx⟩) (hu.below hb)
 have HOp:Hid (js v=0->∀ w',Below w.heap.size w w'->Calls prog 37 #[.agg (vwC v A n c)] w' fun e w''=>∃ g rs' A' c',e = .returned (.pointer (some ⟨g,0,none⟩))/\ED w'.heap.size g v rs' A' c' w''/\Below w'.heap.size w' w''):=Lh fun h0 w' hb=>by
  have h1:=OnV.of h0;have h2:=jW.1 h1.size;have h3:=h1.rows;have h4:=rd.len;exact open_ v A n c w.heap.size rs w' ((rd.more hB).below hb) hb.size L0 L0 (fun x hx=>by have:=hM x hx;omega)
 have HLn:Hid (LenV v (100000000-glN (zo cs))):=Lh fun l hl=>by
  rw [rd.2.1] at hl;obtain ⟨x,hx,rfl⟩:=List.mem_map.1 hl;have:=hM x hx
  omega
 have HGl0:Hid (v.rows≠[]->glN (zo cs)<=100000000):=Lh fun h=>by
  rw [rd.2.1] at h
  cases rs with
  | nil=>exact absurd rfl h
  | cons x t=>have:=hM x L1;omega
 have HU:=Lh hu;have HRc:=Lh (rc.more hB);have HGz:=Lh hgz;have hnl:cs.length=nc:=rc.len;clear rd rc hM hz hgz hu
 go_enter func20,ntmps20
 go_upto_region 1 with fail
 refine qa (fun X=>VwBox w v A n c X/\ZB X (w.heap.size+1)) ⟨(VwBox.new w v A n c).on ((Le _ _).alloc L1 _),Blk.new_ L1⟩ ?_;rintro X ⟨hX,hZ⟩;obtain ⟨c0,c1,c2,c3,c4,c5⟩:=hX.cells;have hb:=hX.2;have hzX:=hX.lt;have hZl:=hZ.lt
 by_cases hv:js v=0
 ·have h0:(js v != 0)=false:=by rw [hv];rfl
  have hOn:=OnV.of hv;have hRe:Hid (R=goV v (zo cs)):=Lh (by rw [<- hR.out,yx,if_neg (by simpa using hv)]);have hs0:=jW.1 hOn.size;have hHO:=Lh (HOp.out hv);have hGl1:glN (zo cs)<=100000000:=HGl0.out fun e=>by have h1:=hOn.rows;rw [e] at h1;simp at h1;omega
  have hLn:Hid (LenV v (100000000-glN (zo cs))):=HLn;have hOnH:=Lh hOn;have hnn:nc<=9223372036854775807:=by omega
  generalize js v=VC at *
  clear hv HOp HLn HGl0 hR hs0 hOn
  go_upto_region 3 with (go_at_call 32;refine (HCh.out _ hb).mono ?_;rintro e w1 ⟨rfl,hb1⟩)
  have hX1:=hX.on hb1;have hZ1:=hZ.below hb1 hZl;have hbz:=hX1.2;have hzz:=hX1.lt;have hZl1:=Ly hZl hb1.size;clear hX hZ c0 c1 c2 c3 c4 c5 hb1 hb h0;obtain ⟨c0,c1,c2,c3,c4,c5⟩:=hX1.cells;have hI:Hid (∀ g rs' A' c' w2,ED w1.heap.size g v rs' A' c' w2->Below w1.heap.size w1 w2->ApL w w1.heap.size g cs R 0 w2):=Lh fun g rs' A' c' w2 hE hb2=>⟨v,rs',A',c',hE,hOnH.out,hLn.out,hRe.out,hZ1.below hb2 hZl1,hbz.trans (hb2.mono L0),hb2.size⟩
  go_upto_region 5 with (go_at_call 37;refine (hHO.out _ hbz).mono ?_;rintro e w2 ⟨g,rs',A',c',rfl,hE,hb2⟩)
  have hI0:=hI.out _ _ _ _ _ hE hb2;have hbw:w.heap.size+2<=w1.heap.size:=by omega
  generalize w1.heap.size=base at *
  clear c0 c1 c2 c3 c4 c5 hE hb2 hI hX1 hZ1 hZl1 hzz hbz hHO hLn hRe hOnH HCh hzX hZl
  go_loopw [21] (fun x wr=>∃ k:Nat,k<=nc/\x = .int .i64 k/\ApL w base g cs R k wr) (fun x _=>nc-(intOf x).toNat)
  case atStart=>exact ⟨0,Nat.zero_le _,rfl,hI0⟩
  case round =>
   clear hI0;obtain ⟨k,hk,rfl,v1,rs1,A1,d1,hE,hOn,hLn,hRe,hZ,hbz,hbb⟩:=hrel
   by_cases hlt:k<nc
   ·have hkc:k<cs.length:=by omega
    obtain ⟨b,o,rfl,hbl,k0,k1,k2,k3,k4,k5⟩:=(HRc.out.below hbz).at_ hkc;have hxm:=Lt hkc;have hs:=jW.1 hOn.size;have hlen:(rs1.length:Int)=v1.height:=by rw [<- hOn.rows,hE.eq,vJ]
    have hg1:=qkz (zo cs) k;rw [show (zo cs).drop k=zo (cs.drop k) from by unfold zo;rw [List.map_drop],qbd hkc,qb3] at hg1;rw [qbd hkc,qb3] at hLn;have hrl : ∀ x∈rs1,x.l.length<=100000000:=fun x hx=>by
     have:=hLn x.l (by rw [hE.eq];exact List.mem_map_of_mem hx)
     omega
    have HCk:Hid (∀ w',Below wr.heap.size wr w'->Calls prog 38 #[.pointer (some ⟨g,0,none⟩),jH cs[k].c cs[k].A cs[k].cap] w' (qh (.int .i64 (qan v1 cs[k].c)) w')):=Lh fun w' hb'=>by
     have h1:=hbz.trans (hb'.mono (Lj L0 hbb));exact ccheck_ (B:=w.heap.size) (hE.below hb') hlen L0 L0 L0 (fun x hx=>Lj (hrl x hx) L2) _ _ _ h1.size ((HRc.out.below h1).gl _ hxm).1 (Lj (HGz.out _ hxm).1 L2) (HGz.out _ hxm).2 (HU.out.below h1)
    have HAp:Hid (qan v1 cs[k].c=0->∀ w',Below wr.heap.size wr w'->Calls prog 39 #[.pointer (some ⟨g,0,none⟩),jH cs[k].c cs[k].A cs[k].cap] w' fun e w''=>e = .returned (.tuple #[])/\ApL w base g cs R (k+1) w''):=Lh fun h0 w' hb'=>by
     have h1:=hbz.trans (hb'.mono (Lj L0 hbb));obtain ⟨q1,q2,q3,q4⟩:=qey h0;refine (capply_ (B:=w.heap.size) (hE.below hb') (Lj hbb hb'.size) hlen L0 hrl _ _ _ L0 ((HRc.out.below h1).gl _ hxm).1 (HGz.out _ hxm).1 q1 q3).mono ?_;rintro e w'' ⟨rfl,⟨rs2,A2,c2,hE2⟩,hb2⟩;have hb3:=(hb'.mono hbb).trans hb2;refine ⟨rfl,_,rs2,A2,c2,hE2,hOn.step h0,?_,?_,hZ.below hb3 L0,hbz.trans (hb3.mono L0),Lj (Lj hbb hb'.size) hb2.size⟩
     ·intro l hl;have:=(hLn.step q3) l hl
      omega
     ·rw [hRe,qbd hkc,goV,if_neg (by simpa using h0)]
    have HRn:Hid (qan v1 cs[k].c≠0->R=(vw0,qan v1 cs[k].c)):=Lh fun h0=>by
     rw [hRe,qbd hkc,goV,if_pos h0]
    have hZl:w.heap.size+1<wr.heap.size:=by omega
    have hZ':=Lh hZ;have hbz':=Lh hbz;clear hE hOn hLn hRe hg1 hrl hlen hs hxm hZ hbz;generalize qan v1 cs[k].c=F at *
    generalize cs[k]=x at *
    obtain ⟨⟨kind,row,col,count,til,gl⟩,Ag,cap⟩:=x;dsimp only at *
    have hkn:(k:Int)<nc:=by omega
    have hkcc:(k:Int)<cc:=by omega
    go_upto_region 7 with fail
    refine qa (ChgBox wr ⟨kind,row,col,count,til,gl⟩ Ag cap) (ChgBox.new wr ⟨kind,row,col,count,til,gl⟩ Ag cap _) ?_;intro wb hX;obtain ⟨c0,c1,c2,c3,c4,c5,hb,hzX⟩:=id hX;dsimp only at c0 c1 c2 c3 c4 c5;clear k0 k1 k2 k3 k4 k5 hkn hkcc
    by_cases hf:F=0
    ·subst hf;have h00:((0:Int) != 0)=false:=rfl;have HA:=Lh (HAp.out rfl);clear HAp HRn
     go_wp2_with (first
      | (go_at_call 38;refine (HCk.out _ hb).mono ?_;rintro e w1 ⟨rfl,hb1⟩;have hX1:=hX.on hb1;obtain ⟨d0,d1,d2,d3,d4,d5,hbd,hzd⟩:=hX1;dsimp only at d0 d1 d2 d3 d4 d5)
      | (go_at_call 39;refine (HA.out _ hbd).mono ?_;rintro e w2 ⟨rfl,hL⟩))
     exact ⟨⟨k+1,by omega,by go_num,hL⟩,by simp [intOf];omega⟩
    ·have hne:(F != 0)=true:=Ln.2 hf;have hRn:=Lh (HRn.out hf);clear HAp HRn hf;have hZb:=hZ'.out.below hb hZl
     go_wp2_with (go_at_call 38;refine (HCk.out _ hb).mono ?_;rintro e w1 ⟨rfl,hb1⟩;have hZ1:=hZb.below hb1 (Ly hZl hb.size);obtain ⟨z0,z1,z2,z3,z4,z5,y0,y1,y2,y3,y4,y5⟩:=ZB.facts hZ1)
     have hZ2:=ZB.set6 hZ1 vw0 none 0 0;have hbq:=hbz'.out.trans ((hb.trans (hb1.mono hb.size)).mono (show w.heap.size<=wr.heap.size by omega));exact bodyPost_ret (qah rfl _ _ (w.heap.size+1) 24 _ (0,0) _ rfl hZ2 underlying24 rfl kI) rfl (by rw [hRn.out];exact ⟨qap hbq L0 _ _ _ _ _ _,none,0,0,[],k,rfl,OwV.none_ _ _⟩)
   ·obtain rfl:k=nc:=by omega
    have hRe2:R=if qcz v1=true then (v1,0) else (vw0,12):=by
     rw [hRe,Lv L0,show zo []=[] from rfl,goV]
    have hm : ∀ x∈rs1,x.l.length<=100000000:=fun x hx=>by
     have:=hLn x.l (by rw [hE.eq];exact List.mem_map_of_mem hx)
     omega
    have hE':=Lh hE;have hZ':=Lh hZ;have hbz':=Lh hbz;have hRl:v1.rows=rls rs1:=hE.eq;have hRd:Hid (∀ j (h:j<rs1.length) w',Below wr.heap.size wr w'->Calls prog 40 #[.slice rs1[j].A rs1[j].l.length rs1[j].cap] w' (qh (.int .i64 (vM rs1[j].l:Nat)) w')):=Lh fun j h w' hb=>by
     have hxm:=Lt h;exact qeY _ _ _ _ wr.heap.size w' (by have:=hm _ hxm;omega) ((Rd.of_own (hE.gl _ hxm)).below hb) hb.size
    have hRt:Hid ((∀ j (h:j<rs1.length),(vM rs1[j].l:Int)<=v1.width)->R=(v1,0)):=Lh fun h=>by
     rw [hRe2,if_pos];unfold qcz;rw [List.all_eq_true,hRl];intro l hl;obtain ⟨x,hx,rfl⟩:=List.mem_map.1 hl;obtain ⟨i,hi,rfl⟩:=List.getElem_of_mem hx;exact Ll (h i hi)
    have hRf:Hid (∀ j (h:j<rs1.length),v1.width<(vM rs1[j].l:Int)->R=(vw0,12)):=Lh fun j h hl=>by
     rw [hRe2,if_neg];unfold qcz;rw [List.all_eq_true,hRl];intro h2;have:=of_decide_eq_true (h2 rs1[j].l (List.mem_map_of_mem (Lt h)))
     omega
    have hcl:Hid (∀ j,j<rs1.length->∃ G1,A1=some ⟨G1,0,none⟩/\G1<wr.heap.size/\wr.cell? ⟨G1,j,none⟩=(zQ rs1)[j]?):=Lh fun j hj=>by
     obtain ⟨G1,cap1,hA,hG1,-⟩:=hE.rows.form L0;obtain ⟨rfl,rfl⟩:A1=some ⟨G1,0,none⟩/\d1=cap1:=by injection hA with h1 _ h2;exact ⟨h1,h2⟩
     exact ⟨G1,rfl,(vB hE.rows G1 rfl).2,hE.rows.cellAt j L0⟩
    have hgl:=hE.blk.lt;have hcaps:=yd hE.rows;obtain ⟨g0,g1,g2,g3,g4,g5⟩:=qw hE.blk;have hn9:(rs1.length:Int)<=9223372036854775807:=by have h1:=hcaps.1;have h2:=hcaps.2;unfold maxLen at h2;omega
    have hZl:w.heap.size+1<wr.heap.size:=by omega
    clear hE hOn hLn hRe hRe2 hm hRl hZ hcaps;obtain ⟨wo,rfl⟩ : ∃ x:World,x=wr:=⟨_,rfl⟩
    go_wp2
    go_loopw [44] (fun x wz=>∃ j:Nat,j<=rs1.length/\x = .int .i64 j/\Below wo.heap.size wo wz/\Hid (∀ i (h:i<rs1.length),i<j->(vM rs1[i].l:Int)<=v1.width)) (fun x _=>rs1.length-(intOf x).toNat)
    case atStart=>exact ⟨0,Nat.zero_le _,rfl,Le _ _,Lh fun i h h0=>absurd h0 (Nat.not_lt_zero _)⟩
    case round =>
     obtain ⟨j,hj,rfl,hbq,hq⟩:=hrel
     by_cases hjl:j<rs1.length
     ·obtain ⟨G1,rfl,hG1,hc1⟩:=hcl.out j hjl;rw [yF hjl] at hc1;have hc:=(hbq.cell (p:=⟨G1,j,none⟩) hG1).trans hc1;have hqz:=hbq.size;have hw:Hid (∀ w',Below wr.heap.size wr w'->Calls prog 40 #[.slice rs1[j].A rs1[j].l.length rs1[j].cap] w' fun e w''=>e = .returned (.int .i64 (vM rs1[j].l:Nat))/\Below wr.heap.size wr w''):=Lh fun w' h=>(hRd.out j hjl w' (hbq.trans (h.mono hqz))).mono fun e w'' ⟨h1,h2⟩=>⟨h1,h.trans (h2.mono h.size)⟩
      have hR2:=Lh (hRf.out j hjl);have hQ2:Hid ((vM rs1[j].l:Int)<=v1.width->∀ i (h:i<rs1.length),i<j+1->(vM rs1[i].l:Int)<=v1.width):=Lh fun h0 i h hi=>by
       by_cases hij:i=j
       ·subst hij;exact h0
       ·exact hq.out i h L0
      have e0:=(hbq.cell (p:=⟨g,0,none⟩) hgl).trans g0;have hgw:=Ly hgl hqz;clear hc1 hq hRf hRd hcl;generalize rs1[j]=x at *
      obtain ⟨l,Al,cl⟩:=x;dsimp only at *
      generalize vM l=rw0 at *
      have hji:(j:Int)<rs1.length:=by omega
      by_cases hgt:v1.width<(rw0:Int)
      ·have hd:decide (v1.width<(rw0:Int))=true:=Ll hgt;have hR3:=Lh (hR2.out hgt);have hZ1:=hZ'.out.below hbq hZl;have hZl1:=Ly hZl hqz;clear hR2 hQ2
       go_upto_region 15 with fail
       go_region_law (go_simp;go_at_call 40;refine (hw.out _ (by first | exact Le _ _ | exact (Le _ _).drew)).mono ?_;rintro e w2 ⟨rfl,b2⟩;have e2:=(b2.cell (p:=⟨g,0,none⟩) hgw).trans e0;have hZ2:=hZ1.below b2 hZl1;obtain ⟨z0,z1,z2,z3,z4,z5,y0,y1,y2,y3,y4,y5⟩:=ZB.facts hZ2)
       all_goals go_wp2
       all_goals exact bodyPost_ret (qah rfl _ _ (w.heap.size+1) 24 _ (0,0) _ rfl (ZB.set6 hZ2 vw0 none 0 0) underlying24 rfl kI) rfl (by rw [hR3.out];exact ⟨qap (hbz'.out.trans ((hbq.trans (b2.mono hqz)).mono L0)) L0 _ _ _ _ _ _,none,0,0,[],k,rfl,OwV.none_ _ _⟩)
      ·have hd:decide (v1.width<(rw0:Int))=false:=Lk hgt;have hQ3:=Lh (hQ2.out L0);clear hR2 hQ2
       go_upto_region 15 with fail
       go_region_law (go_simp;go_at_call 40;refine (hw.out _ (by first | exact Le _ _ | exact (Le _ _).drew)).mono ?_;rintro e w2 ⟨rfl,b2⟩;have e2:=(b2.cell (p:=⟨g,0,none⟩) hgw).trans e0)
       all_goals go_wp2
       all_goals exact ⟨⟨j+1,by omega,by go_num,hbq.trans (b2.mono hqz),hQ3⟩,by simp [intOf];omega⟩
     ·obtain rfl:j=rs1.length:=by omega
      have hRz:=Lh (hRt.out fun i h=>hq.out i h h);have hZ1:=hZ'.out.below hbq hZl;have hE2:=hE'.out.below hbq;obtain ⟨c0,c1,c2,c3,c4,c5⟩:=qw hE2.blk;obtain ⟨z0,z1,z2,z3,z4,z5,y0,y1,y2,y3,y4,y5⟩:=ZB.facts hZ1;have hlb:w.heap.size+1<base:=by omega
      have hE3:=Lh (((((((hE2.far (p:=⟨w.heap.size+1,0,none⟩) hlb (.int .i64 v1.width)).far (p:=⟨w.heap.size+1,1,none⟩) hlb (.int .i64 v1.height)).far (p:=⟨w.heap.size+1,2,none⟩) hlb (.slice A1 rs1.length d1)).far (p:=⟨w.heap.size+1,3,none⟩) hlb (.int .i64 v1.row)).far (p:=⟨w.heap.size+1,4,none⟩) hlb (.int .i64 v1.col)).far (p:=⟨w.heap.size+1,5,none⟩) hlb (.bool v1.vis)).ow.less (Lr (Nat.lt_of_succ_lt hlb)));have hng:w.heap.size+1≠g:=by have:=hE2.lo;omega
      have hR:=ZB.set6 hZ1 v1 A1 rs1.length d1;have hb6:=qap (B:=w.heap.size) (hbz.trans (hbq.mono L0)) (g:=w.heap.size+1) L0 (.int .i64 v1.width) (.int .i64 v1.height) (.slice A1 rs1.length d1) (.int .i64 v1.row) (.int .i64 v1.col) (.bool v1.vis);clear hE' hZ' hq hRt hRf hRd hcl g0 g1 g2 g3 g4 g5 hE2 hZ1;go_wp2;exact bodyPost_ret (qah rfl _ _ (w.heap.size+1) 24 _ (0,0) _ rfl hR underlying24 rfl kI) rfl (by rw [hRz.out];exact ⟨hb6,A1,rs1.length,d1,rs1,0,rfl,hE3.out⟩)
 ·have hne:(js v != 0)=true:=Ln.2 hv;have hRe:Hid (R=(vw0,1)):=Lh (by rw [<- hR.out,yx,if_pos (by simpa using hv)]);generalize js v=VC at *
  clear hv HOp HLn HGl0 HRc HGz hR
  go_wp2_with (go_at_call 32;refine (HCh.out _ hb).mono ?_;rintro e w1 ⟨rfl,hb1⟩;have hZ1:=hZ.below hb1 hZl;obtain ⟨z0,z1,z2,z3,z4,z5,y0,y1,y2,y3,y4,y5⟩:=ZB.facts hZ1)
  have hZ2:=ZB.set6 hZ1 vw0 none 0 0;exact bodyPost_ret (qah rfl _ _ (w.heap.size+1) 24 _ (0,0) _ rfl hZ2 underlying24 rfl kI) rfl (by rw [hRe.out];exact ⟨qap (hb.trans (hb1.mono L0)) L0 _ _ _ _ _ _,none,0,0,[],0,rfl,OwV.none_ _ _⟩)
def zD (W H:Int):Vw:=⟨W,H,List.replicate H.toNat [],0,0,true⟩
def newM (W H:Int):Md × Int:=if vR W H=true then (⟨zD W H,0⟩,0) else (md0,2)
def mdC (m:Md) (A:Option Addr) (n c:Nat):Array Value:=#[.int .i64 m.view.width,.int .i64 m.view.height,.slice A n c,.int .i64 m.view.row,.int .i64 m.view.col,.bool m.view.vis,.int .i64 m.upd]
theorem yy:(prog.info? 26).map (fun x=>x.size)=some 7:=by kernel_rfl
def BlR (r:Vw × Int) (w:World) (e:Ending) (w':World):Prop :=
 Below w.heap.size w w'/\∃ A n c rs,e = .returned (.tuple #[.agg (vwC r.1 A n c),.int .i64 r.2])/\OwV w.heap.size w' r.1 A n c rs
def MdR (r:Md × Int) (w:World) (e:Ending) (w':World):Prop :=
 Below w.heap.size w w'/\∃ A n c rs,e = .returned (.tuple #[.agg (mdC r.1 A n c),.int .i64 r.2])/\OwV w.heap.size w' r.1.view A n c rs
abbrev ZM (X:World) (g:Nat):Prop:=Blk X g 26 (mdC md0 none 0 0)
theorem ZM.facts {X:World} {g:Nat} (h:ZM X g):X.cell? ⟨g,0,none⟩=some (.int .i64 0)/\X.cell? ⟨g,1,none⟩=some (.int .i64 0)/\X.cell? ⟨g,2,none⟩=some (.slice none 0 0)/\X.cell? ⟨g,3,none⟩=some (.int .i64 0)/\X.cell? ⟨g,4,none⟩=some (.int .i64 0)/\X.cell? ⟨g,5,none⟩=some (.bool false)/\X.cell? ⟨g,6,none⟩=some (.int .i64 0) /\
  X.frozen? ⟨g,0,none⟩=false/\X.frozen? ⟨g,1,none⟩=false/\X.frozen? ⟨g,2,none⟩=false/\X.frozen? ⟨g,3,none⟩=false/\X.frozen? ⟨g,4,none⟩=false/\X.frozen? ⟨g,5,none⟩=false/\X.frozen? ⟨g,6,none⟩=false :=
 ⟨h.cell 0,h.cell 1,h.cell 2,h.cell 3,h.cell 4,h.cell 5,h.cell 6,h.frozen 0,h.frozen 1,h.frozen 2,h.frozen 3,h.frozen 4,h.frozen 5,h.frozen 6⟩
abbrev setM (X:World) (g:Nat) (m:Md) (A:Option Addr) (n c:Nat):World:=((((((X.setCell ⟨g,0,none⟩ (.int .i64 m.view.width)).setCell ⟨g,1,none⟩ (.int .i64 m.view.height)).setCell ⟨g,2,none⟩ (.slice A n c)).setCell ⟨g,3,none⟩ (.int .i64 m.view.row)).setCell ⟨g,4,none⟩ (.int .i64 m.view.col)).setCell ⟨g,5,none⟩ (.bool m.view.vis)).setCell ⟨g,6,none⟩ (.int .i64 m.upd)
theorem ZM.set7 {X:World} {g:Nat} (h:ZM X g) (m:Md) (A:Option Addr) (n c:Nat):Blk (setM X g m A n c) g 26 (mdC m A n c) :=
 ((((((h.set_ 0 _).set_ 1 _).set_ 2 _).set_ 3 _).set_ 4 _).set_ 5 _).set_ 6 _
theorem yX {B g:Nat} {X Y:World} (h:Below B X Y) (hg:B<=g) (m:Md) (A:Option Addr) (n c:Nat):Below B X (setM Y g m A n c) :=
 ((((((h.setCell (p:=⟨g,0,none⟩) hg _).setCell (p:=⟨g,1,none⟩) hg _).setCell (p:=⟨g,2,none⟩) hg _).setCell (p:=⟨g,3,none⟩) hg _).setCell (p:=⟨g,4,none⟩) hg _).setCell (p:=⟨g,5,none⟩) hg _).setCell (p:=⟨g,6,none⟩) hg _
theorem qhK (n:Nat):zQ (List.replicate n qaI)=List.replicate n (.slice none 0 0):=by unfold zQ;rw [List.map_replicate];rfl
theorem rls_nils (n:Nat):rls (List.replicate n qaI)=List.replicate n []:=by unfold rls;rw [List.map_replicate];rfl
theorem blank_ (W H:Int) (w:World):Calls prog 29 #[.int .i64 W,.int .i64 H] w (BlR (if vR W H=true then (zD W H,0) else (vw0,2)) w):=by
 have HS:Hid (∀ w',_):=Lh (qiA W H)
 by_cases h:vR W H=true
 ·rw [if_pos h];have hs:=jW.1 h;rw [h] at HS;obtain ⟨n,rfl⟩ : ∃ n:Nat,H=n:=⟨H.toNat,by omega⟩
  obtain ⟨i0,hi,hz0,hz1,hz2⟩:=elt_row.row;clear h
  go_enter func29,ntmps29
  go_upto_region 1 with fail
  refine qa (fun X=>ZB X w.heap.size/\Below w.heap.size w X) ⟨Blk.new_ rfl,L5⟩ ?_;rintro X ⟨hZ,hb⟩;have hlX:=hZ.lt
  go_upto_region 3 with (go_at_call 55;refine (HS.out _).mono ?_;rintro e w1 ⟨rfl,rfl⟩)
  go_wp2_with (at_make;refine wpList_make_full _ rfl _ _ 22 rfl X.heap.size 45 i0 (.slice none 0 0) 1 underlying22 hi hz0 hz1 _ _ _ _ n rfl rfl rfl rfl (by rw [hz2];omega) (by unfold maxLen;omega) (Ld _) ?_;intro w1 hown hgr;have hb1:=(Le X.heap.size X).grown hgr (Ld _) (fun k h=>by cases h);have hZ1:=hZ.below hb1 hlX;obtain ⟨z0,z1,z2,z3,z4,z5,y0,y1,y2,y3,y4,y5⟩:=ZB.facts hZ1)
  have hown':w1.ownsRow X.heap.size 45 1 (.slice (some ⟨X.heap.size,0,none⟩) n n) n (zQ (List.replicate n qaI)):=by
   rw [qhK];rw [Nat.mul_one,show (Value.slice none 0 0).cells = #[.slice none 0 0] from rfl,toList_madeCells_one] at hown;exact hown
  have hne:(Value.slice (some ⟨X.heap.size,0,none⟩) n n).ownBlock≠some w.heap.size:=fun e=>by
   rw [qC] at e
   injection e with e
   dsimp only at e
   omega
  have hw5:=ownsRow_setCell_other (a:=⟨w.heap.size,5,none⟩) (ownsRow_setCell_other (a:=⟨w.heap.size,4,none⟩) (ownsRow_setCell_other (a:=⟨w.heap.size,3,none⟩) (ownsRow_setCell_other (a:=⟨w.heap.size,2,none⟩) (ownsRow_setCell_other (a:=⟨w.heap.size,1,none⟩) (ownsRow_setCell_other (a:=⟨w.heap.size,0,none⟩) hown' hne (.int .i64 W)) hne (.int .i64 n)) hne (.slice (some ⟨X.heap.size,0,none⟩) n n)) hne (.int .i64 0)) hne (.int .i64 0)) hne (.bool true);have hR:=ZB.set6 hZ1 (zD W n) (some ⟨X.heap.size,0,none⟩) n n;refine bodyPost_ret (vG rfl _ _ w.heap.size 24 _ (0,0) _ rfl hR underlying24 rfl kI) rfl ⟨qap (hb.trans (hb1.mono L0)) (Ld _) _ _ _ _ _ _,some ⟨X.heap.size,0,none⟩,n,n,List.replicate n qaI,rfl,⟨qt hw5 (Lr hlX),fun x hx=>?_,?_⟩⟩
  ·obtain rfl:=List.eq_of_mem_replicate hx;exact zY _ _ _ _
  ·rw [rls_nils]
   show List.replicate ((n:Int).toNat) []=_
   rw [Int.toNat_natCast]
 ·rw [if_neg h];have h:vR W H=false:=by simpa using h
  rw [h] at HS;clear h
  go_enter func29,ntmps29
  go_upto_region 1 with fail
  refine qa (fun X=>ZB X w.heap.size/\Below w.heap.size w X) ⟨Blk.new_ rfl,L5⟩ ?_;rintro X ⟨hZ,hb⟩;obtain ⟨z0,z1,z2,z3,z4,z5,y0,y1,y2,y3,y4,y5⟩:=ZB.facts hZ
  go_wp2_with (go_at_call 55;refine (HS.out _).mono ?_;rintro e w1 ⟨rfl,rfl⟩)
  exact bodyPost_ret (vG rfl _ _ w.heap.size 24 _ (0,0) _ rfl (ZB.set6 hZ vw0 none 0 0) underlying24 rfl kI) rfl ⟨qap hb (Ld _) _ _ _ _ _ _,none,0,0,[],rfl,OwV.none_ _ _⟩
theorem qdz (m:Md):vu m=(decide (js m.view=0)&&(decide (0<=m.upd)&&decide (m.upd<=1099511627776))):=by
 unfold vu MaxT;rw [Bool.decide_and,Bool.decide_and]
theorem proper_ (m:Md) (A:Option Addr) (n c B:Nat) (rs:List RowM) (w:World) (rd:RdV w B m.view A n c rs) (hB:B<=w.heap.size) (hz : ∀ x∈rs,x.l.length<=1000000000/\∀ g∈x.l,g.text.size<=1000000000) (hu:U8 w) :
  Calls prog 18 #[.agg (mdC m A n c)] w (qh (.bool (vu m)) w):=by
 have HC:Hid (∀ w',Below w.heap.size w w'->Calls prog 32 #[.agg (vwC m.view A n c)] w' (qh (.int .i64 (js m.view)) w')):=Lh fun w' hb=>qig _ _ _ _ w.heap.size _ _ ((rd.more hB).below hb) hb.size hz (hu.below hb)
 clear rd hz hu;obtain ⟨⟨W,H,rows,r,cl,vs⟩,U⟩:=m;dsimp only at HC;rw [qdz];dsimp only;generalize js ⟨W,H,rows,r,cl,vs⟩=V at *
 have h1:(V==0)=decide (V=0):=by rw [Bool.eq_iff_iff];simp
 by_cases hv:V=0
 ·have e1:(V==0)=true:=beq_iff_eq.2 hv;rw [Ll hv];clear h1 hv
  by_cases hu:0<=U
  ·by_cases ht:U<=1099511627776
   ·have hu':decide (0<=U)=true:=Ll hu;have ht':decide (U<=1099511627776)=true:=Ll ht;rw [hu',ht'];clear hu ht
    go_enter func18,ntmps18
    go_upto_region 1 with fail
    refine qa (fun X=>Blk X w.heap.size 26 (mdC ⟨⟨W,H,rows,r,cl,vs⟩,U⟩ A n c)/\Below w.heap.size w X) ⟨Blk.new_ rfl,L5⟩ ?_;rintro X ⟨hM,hb⟩;have c0:X.cell? ⟨w.heap.size,0,none⟩=some (.int .i64 W):=hM.cell 0;have c1:X.cell? ⟨w.heap.size,1,none⟩=some (.int .i64 H):=hM.cell 1;have c2:X.cell? ⟨w.heap.size,2,none⟩=some (.slice A n c):=hM.cell 2;have c3:X.cell? ⟨w.heap.size,3,none⟩=some (.int .i64 r):=hM.cell 3;have c4:X.cell? ⟨w.heap.size,4,none⟩=some (.int .i64 cl):=hM.cell 4;have c5:X.cell? ⟨w.heap.size,5,none⟩=some (.bool vs):=hM.cell 5;have c6:X.cell? ⟨w.heap.size,6,none⟩=some (.int .i64 U):=hM.cell 6;have hl:=hM.lt;clear hM
    go_wp2_with (go_at_call 32;refine (HC.out _ hb).mono ?_;rintro e w1 ⟨rfl,hb1⟩;have d6:=(hb1.cell (p:=⟨w.heap.size,6,none⟩) hl).trans c6)
    go_ret;exact ⟨rfl,hb.trans (hb1.mono hb.size)⟩
   ·have hu':decide (0<=U)=true:=Ll hu;have ht':decide (U<=1099511627776)=false:=Lk ht;rw [hu',ht'];clear hu ht
    go_enter func18,ntmps18
    go_upto_region 1 with fail
    refine qa (fun X=>Blk X w.heap.size 26 (mdC ⟨⟨W,H,rows,r,cl,vs⟩,U⟩ A n c)/\Below w.heap.size w X) ⟨Blk.new_ rfl,L5⟩ ?_;rintro X ⟨hM,hb⟩;have c0:X.cell? ⟨w.heap.size,0,none⟩=some (.int .i64 W):=hM.cell 0;have c1:X.cell? ⟨w.heap.size,1,none⟩=some (.int .i64 H):=hM.cell 1;have c2:X.cell? ⟨w.heap.size,2,none⟩=some (.slice A n c):=hM.cell 2;have c3:X.cell? ⟨w.heap.size,3,none⟩=some (.int .i64 r):=hM.cell 3;have c4:X.cell? ⟨w.heap.size,4,none⟩=some (.int .i64 cl):=hM.cell 4;have c5:X.cell? ⟨w.heap.size,5,none⟩=some (.bool vs):=hM.cell 5;have c6:X.cell? ⟨w.heap.size,6,none⟩=some (.int .i64 U):=hM.cell 6;have hl:=hM.lt;clear hM
    go_wp2_with (go_at_call 32;refine (HC.out _ hb).mono ?_;rintro e w1 ⟨rfl,hb1⟩;have d6:=(hb1.cell (p:=⟨w.heap.size,6,none⟩) hl).trans c6)
    go_ret;exact ⟨rfl,hb.trans (hb1.mono hb.size)⟩
  ·have hu':decide (0<=U)=false:=Lk hu;rw [hu'];clear hu
   go_enter func18,ntmps18
   go_upto_region 1 with fail
   refine qa (fun X=>Blk X w.heap.size 26 (mdC ⟨⟨W,H,rows,r,cl,vs⟩,U⟩ A n c)/\Below w.heap.size w X) ⟨Blk.new_ rfl,L5⟩ ?_;rintro X ⟨hM,hb⟩;have c0:X.cell? ⟨w.heap.size,0,none⟩=some (.int .i64 W):=hM.cell 0;have c1:X.cell? ⟨w.heap.size,1,none⟩=some (.int .i64 H):=hM.cell 1;have c2:X.cell? ⟨w.heap.size,2,none⟩=some (.slice A n c):=hM.cell 2;have c3:X.cell? ⟨w.heap.size,3,none⟩=some (.int .i64 r):=hM.cell 3;have c4:X.cell? ⟨w.heap.size,4,none⟩=some (.int .i64 cl):=hM.cell 4;have c5:X.cell? ⟨w.heap.size,5,none⟩=some (.bool vs):=hM.cell 5;have c6:X.cell? ⟨w.heap.size,6,none⟩=some (.int .i64 U):=hM.cell 6;have hl:=hM.lt;clear hM
   go_wp2_with (go_at_call 32;refine (HC.out _ hb).mono ?_;rintro e w1 ⟨rfl,hb1⟩;have d6:=(hb1.cell (p:=⟨w.heap.size,6,none⟩) hl).trans c6)
   go_ret;exact ⟨rfl,hb.trans (hb1.mono hb.size)⟩
 ·have e1:(V==0)=false:=Lm.2 hv;rw [Lk hv];clear h1 hv
  go_enter func18,ntmps18
  go_upto_region 1 with fail
  refine qa (fun X=>Blk X w.heap.size 26 (mdC ⟨⟨W,H,rows,r,cl,vs⟩,U⟩ A n c)/\Below w.heap.size w X) ⟨Blk.new_ rfl,L5⟩ ?_;rintro X ⟨hM,hb⟩;have c0:X.cell? ⟨w.heap.size,0,none⟩=some (.int .i64 W):=hM.cell 0;have c1:X.cell? ⟨w.heap.size,1,none⟩=some (.int .i64 H):=hM.cell 1;have c2:X.cell? ⟨w.heap.size,2,none⟩=some (.slice A n c):=hM.cell 2;have c3:X.cell? ⟨w.heap.size,3,none⟩=some (.int .i64 r):=hM.cell 3;have c4:X.cell? ⟨w.heap.size,4,none⟩=some (.int .i64 cl):=hM.cell 4;have c5:X.cell? ⟨w.heap.size,5,none⟩=some (.bool vs):=hM.cell 5;have c6:X.cell? ⟨w.heap.size,6,none⟩=some (.int .i64 U):=hM.cell 6;have hl:=hM.lt;clear hM
  go_wp2_with (go_at_call 32;refine (HC.out _ hb).mono ?_;rintro e w1 ⟨rfl,hb1⟩;have d6:=(hb1.cell (p:=⟨w.heap.size,6,none⟩) hl).trans c6)
  go_ret;exact ⟨rfl,hb.trans (hb1.mono hb.size)⟩
theorem lnew_ (W H:Int) (w:World):Calls prog 15 #[.int .i64 W,.int .i64 H] w (MdR (newM W H) w):=by
 obtain ⟨R,hR⟩ : ∃ R:Vw × Int,(if vR W H=true then (zD W H,(0:Int)) else (vw0,2))=R:=⟨_,rfl⟩
 have hN:newM W H=if R.2=0 then (⟨R.1,0⟩,0) else (md0,R.2):=by
  rw [<- hR];unfold newM
  by_cases h:vR W H=true
  ·rw [if_pos h,if_pos h];rfl
  ·rw [if_neg h,if_neg h];rfl
 have HB:Hid (∀ w',Below w.heap.size w w'->Calls prog 29 #[.int .i64 W,.int .i64 H] w' fun e w''=>∃ A n c rs,e = .returned (.tuple #[.agg #[.int .i64 R.1.width,.int .i64 R.1.height,.slice A n c,.int .i64 R.1.row,.int .i64 R.1.col,.bool R.1.vis],.int .i64 R.2])/\OwV w'.heap.size w'' R.1 A n c rs/\Below w'.heap.size w' w''):=Lh fun w' _=>(blank_ W H w').mono fun e w'' h=>by
  rw [hR] at h;obtain ⟨h1,A,n,c,rs,h2,h3⟩:=h;exact ⟨A,n,c,rs,h2,h3,h1⟩
 rw [hN];clear hN hR;obtain ⟨⟨vw,vh,rows,vr,vc,vis⟩,E⟩:=R;dsimp only at HB ⊢
 by_cases hE:E=0
 ·subst hE;rw [if_pos rfl];have h0:((0:Int) != 0)=false:=rfl
  go_enter func15,ntmps15
  go_upto_region 1 with fail
  refine qa (fun X=>ZM X w.heap.size/\Below w.heap.size w X) ⟨Blk.new_ rfl,L5⟩ ?_;rintro X ⟨hZ,hb⟩;have hlX:=hZ.lt
  go_upto_region 2 with (go_at_call 29;refine (HB.out _ hb).mono ?_;rintro e w1 ⟨A1,n1,d1,rs1,rfl,ho,hb1⟩)
  have hzz:=hb1.size;refine qa (fun Y=>Below X.heap.size X Y/\OwV X.heap.size Y ⟨vw,vh,rows,vr,vc,vis⟩ A1 n1 d1 rs1/\Blk Y w1.heap.size 24 (vwC ⟨vw,vh,rows,vr,vc,vis⟩ A1 n1 d1)) ⟨hb1.alloc hzz _,ho.below L5,Blk.new_ rfl⟩ ?_;rintro Y ⟨hY,hoY,hB⟩;have hZ1:=hZ.below hY hlX;obtain ⟨z0,z1,z2,z3,z4,z5,z6,y0,y1,y2,y3,y4,y5,y6⟩:=ZM.facts hZ1;obtain ⟨c0,c1,c2,c3,c4,c5⟩:=qw hB;dsimp only at c0 c1 c3 c4 c5;have hR:=ZM.set7 hZ1 ⟨⟨vw,vh,rows,vr,vc,vis⟩,0⟩ A1 n1 d1;have ho7:=Lh (((((((hoY.far (p:=⟨w.heap.size,0,none⟩) hlX (.int .i64 vw)).far (p:=⟨w.heap.size,1,none⟩) hlX (.int .i64 vh)).far (p:=⟨w.heap.size,2,none⟩) hlX (.slice A1 n1 d1)).far (p:=⟨w.heap.size,3,none⟩) hlX (.int .i64 vr)).far (p:=⟨w.heap.size,4,none⟩) hlX (.int .i64 vc)).far (p:=⟨w.heap.size,5,none⟩) hlX (.bool vis)).far (p:=⟨w.heap.size,6,none⟩) hlX (.int .i64 0));have hng:w.heap.size≠w1.heap.size:=by omega
  clear hB hoY ho;go_wp2;exact bodyPost_ret (vG rfl _ _ w.heap.size 26 _ (0,0) _ rfl hR underlying26 rfl yy) rfl ⟨yX (hb.trans (hY.mono (Lr hlX))) (Ld _) ⟨⟨vw,vh,rows,vr,vc,vis⟩,0⟩ A1 n1 d1,A1,n1,d1,rs1,rfl,ho7.out.less (Lr hlX)⟩
 ·rw [if_neg hE];have h0:(E != 0)=true:=Ln.2 hE;clear hE
  go_enter func15,ntmps15
  go_upto_region 1 with fail
  refine qa (fun X=>ZM X w.heap.size/\Below w.heap.size w X) ⟨Blk.new_ rfl,L5⟩ ?_;rintro X ⟨hZ,hb⟩;have hlX:=hZ.lt
  go_upto_region 2 with (go_at_call 29;refine (HB.out _ hb).mono ?_;rintro e w1 ⟨A1,n1,d1,rs1,rfl,ho,hb1⟩)
  refine qa (fun Y=>Below X.heap.size X Y) (hb1.alloc hb1.size _) ?_;intro Y hY;have hZ1:=hZ.below hY hlX;obtain ⟨z0,z1,z2,z3,z4,z5,z6,y0,y1,y2,y3,y4,y5,y6⟩:=ZM.facts hZ1;go_wp2;exact bodyPost_ret (vG rfl _ _ w.heap.size 26 _ (0,0) _ rfl (ZM.set7 hZ1 md0 none 0 0) underlying26 rfl yy) rfl ⟨yX (hb.trans (hY.mono (Lr hlX))) (Ld _) md0 none 0 0,none,0,0,[],rfl,OwV.none_ _ _⟩
def LenR (r:Option (List ByteArray)):Prop:=∀ l,r=some l->l.length<=850000
theorem LenR.sk {r:Option (List ByteArray)} (h:LenR r) (s:ByteArray):LenR (r.bind (skO s)):=by
 intro l hl
 cases r with
 | none=>cases hl
 | some x =>
  cases x with
  | nil=>cases hl
  | cons a t =>
   have:=h _ rfl;simp only [Option.bind_some,skO] at hl
   split at hl
   ·cases hl
    simp at this
    omega
   ·cases hl
theorem LenR.num {r:Option (List ByteArray)} (h:LenR r):LenR (qN r).2:=by
 intro l hl
 cases r with
 | none=>cases hl
 | some x =>
  have:=h _ rfl;unfold qN at hl;simp only [Option.bind_some,kU] at hl
  cases hp:prefixL x with
  | none=>rw [hp] at hl;cases hl
  | some y =>
   rw [hp] at hl
   cases hl
   rw [List.length_drop]
   omega
theorem kd (r:Option (List ByteArray)) : -999999999<=(qN r).1/\(qN r).1<=999999999:=by
 cases r with
 | none=>exact ⟨by decide,by decide⟩
 | some x =>
  unfold qN;simp only [Option.bind_some,kU]
  cases hp:prefixL x with
  | none=>exact (show (-999999999:Int)<=0/\(0:Int)<=999999999 by decide)
  | some y =>
   obtain ⟨n,k⟩:=y;obtain ⟨_,_,_,hn,_⟩:=zF hp;have:=vp hn;exact ⟨this.1,this.2.1⟩
def qkY (r:Option (List ByteArray)):List Gl × Option (List ByteArray):=match r.bind qae with
 | some (G,t)=>(G,some t)
 | none=>([],none)
def delP (r:Option (List ByteArray)):Int × Option (List ByteArray):=if qX r q9=true then ((qN (r.bind (skO q9))).1,if (qN (r.bind (skO q9))).1<1 then none else (qN (r.bind (skO q9))).2) else (0,r)
def zH (r:Option (List ByteArray)):List Gl × Option (List ByteArray):=if qX r qK=true then qkY (r.bind (skO qK)) else ([],r)
def qbN (r:Option (List ByteArray)):Chg × Option (List ByteArray) :=
 (⟨3,(qN (r.bind (skO qI))).1-1,(qN ((qN (r.bind (skO qI))).2.bind (skO qO))).1-1,(delP (qN ((qN (r.bind (skO qI))).2.bind (skO qO))).2).1,0,(zH (delP (qN ((qN (r.bind (skO qI))).2.bind (skO qO))).2).2).1⟩,(zH (delP (qN ((qN (r.bind (skO qI))).2.bind (skO qO))).2).2).2)
theorem CS.start {w:World} {B:Nat} {A:Option Addr} {n c:Nat} {l:List ByteArray} (k:Int) (hW:WdR w B l A n c) (hB:B<=w.heap.size) :
  CS w B (some l) ⟨k,0,0,0,0,[]⟩ none 0 ((((w.alloc (.cells #[.slice A n c,.bool false] 72)).alloc (.cells (yG ⟨0,0,0,0,0,[]⟩ none 0) 57)).alloc (.cells #[.slice none 0 0,.bool false] 72)).alloc (.cells (yG ⟨k,0,0,0,0,[]⟩ none 0) 57)):=by
 have tb:Below w.heap.size w ((((w.alloc (.cells #[.slice A n c,.bool false] 72)).alloc (.cells (yG ⟨0,0,0,0,0,[]⟩ none 0) 57)).alloc (.cells #[.slice none 0 0,.bool false] 72)).alloc (.cells (yG ⟨k,0,0,0,0,[]⟩ none 0) 57)) :=
  (((L5).alloc L1 _).alloc (by simp;omega) _).alloc (by simp;omega) _
 exact ⟨A,n,c,l,false,rfl,hW.below (tb.mono hB),(((Blk.new w _ _).alloc _).alloc _).alloc _,((Blk.new_ L1).alloc _).alloc _,(Blk.new_ L1).alloc _,Blk.new_ L1,tb,zY _ _ _ _⟩
theorem usplice_ (l:List ByteArray) (A:Option Addr) (n c:Nat) (w:World) (B:Nat) (hW:WdR w B l A n c) (hB:B<=w.heap.size) (hl:l.length<=850000) (hs:Sp w) (hu:U8 w) (hy:Sty w) :
  Calls prog 61 #[.agg #[.slice A n c,.bool false]] w (CRet w B (qbN (some l)).1 (qbN (some l)).2):=by
 obtain ⟨R,hR⟩ : ∃ x,x=qbN (some l):=⟨_,rfl⟩
 rw [<- hR];have HR:=Lh hR;have HL:Hid (LenR (some l)):=Lh fun _ e=>by cases e;exact hl
 have HS:Hid (Sp w/\U8 w/\Sty w):=Lh ⟨hs,hu,hy⟩;have hX:=CS.start 3 hW hB;clear hW hR hl hs hu hy
 go_enter func61,ntmps61
 go_upto_region 2 with fail
 refine qa (CS w B (some l) ⟨3,0,0,0,0,[]⟩ none 0) hX ?_;clear hX;intro X hX;obtain ⟨x,hx⟩ : ∃ x,Hid (x=qN ((some l).bind (skO qI))):=⟨_,Lh rfl⟩
 obtain ⟨y,hy⟩ : ∃ y,Hid (y=qN (x.2.bind (skO qO))):=⟨_,Lh rfl⟩
 obtain ⟨A',n',c',bad',c0,c1,HA0⟩:=CS.af_ hX hB qI 1 L2 hx;have HA:=Lh HA0;clear HA0
 go_upto_region 3 with (go_at_call 59;refine HA.out.mono ?_;rintro e w1 ⟨A1,n1,cc1,bad1,v1,rfl,d0,d1,f0,f1,k0,p0,hY⟩)
 refine qa (CS w B x.2 ⟨3,x.1,0,0,0,[]⟩ none 0) hY ?_;clear hY hX HA c0 c1 d0 d1 f0 f1 k0 p0;intro X hX;obtain ⟨A',n',c',bad',c0,c1,HA0⟩:=CS.af_ hX hB qO 2 L2 hy;have HA:=Lh HA0;clear HA0
 go_upto_region 4 with (go_at_call 59;refine HA.out.mono ?_;rintro e w1 ⟨A1,n1,cc1,bad1,v1,rfl,d0,d1,f0,f1,k0,p0,hY⟩)
 refine qa (CS w B y.2 ⟨3,x.1,y.1,0,0,[]⟩ none 0) hY ?_;clear hY hX HA c0 c1 d0 d1 f0 f1 k0 p0;intro X hX;obtain ⟨z,hz⟩ : ∃ z,Hid (z=delP y.2):=⟨_,Lh rfl⟩
 obtain ⟨g,hg⟩ : ∃ g,Hid (g=zH z.2):=⟨_,Lh rfl⟩
 have HR2:Hid (R=(⟨3,x.1-1,y.1-1,z.1,0,g.1⟩,g.2)):=Lh (by rw [HR.out,hg.out,hz.out,hy.out,hx.out];rfl);have HLy:Hid (LenR y.2):=Lh (by rw [hy.out];exact LenR.num (LenR.sk (by rw [hx.out];exact LenR.num (LenR.sk HL.out _)) _));have hxr : -999999999<=x.1/\x.1<=999999999:=by rw [hx.out];exact kd _
 have hyr : -999999999<=y.1/\y.1<=999999999:=by rw [hy.out];exact kd _
 clear HR hx hy HL;obtain ⟨xn,xr⟩:=x;obtain ⟨yn,yr⟩:=y;simp only at hxr hyr HR2 HLy hz;obtain ⟨A',n',c',l',bad',hr',hW,R1,R2,R3,R4,tx,hO⟩:=id hX;obtain ⟨c0,c1,f0,f1⟩:=vN R1;obtain ⟨k0,k1,k2,k3,k4,k5,p0,p1,p2,p3,p4,p5⟩:=qV R4;dsimp only at k0 k1 k2 k3 k4 k5;have e1:IntKind.i64.wrap (xn-1)=xn-1:=by rw [Lx];omega
 have e2:IntKind.i64.wrap (yn-1)=yn-1:=by rw [Lx];omega
 go_upto_region 5 with fail
 refine qa (CS w B yr ⟨3,xn-1,yn-1,0,0,[]⟩ none 0) ((hX.set_ hB 1 (xn-1) L2).set_ hB 2 (yn-1) L2) ?_;clear hX;clear c0 c1 f0 f1 k0 k1 k2 k3 k4 k5 p0 p1 p2 p3 p4 p5 hr' hW R1 R2 R3 R4 tx hO;intro X hX;generalize xn-1=Row at *
 generalize yn-1=Col at *
 obtain ⟨A',n',c',bad',c0,c1,HN0⟩:=CS.nx_ hX hB q9;have HN:=Lh HN0;clear HN0;obtain ⟨b,hb⟩ : ∃ b,Hid (b=qX yr q9):=⟨_,Lh rfl⟩
 rw [<- hb.out] at HN
 go_upto_if 29 with (go_at_call 33;refine HN.out.mono ?_;rintro e w1 ⟨rfl,hY⟩)
 refine qa (CS w B yr ⟨3,Row,Col,0,0,[]⟩ none 0) hY ?_;clear hY hX HN c0 c1;intro X hX
 go_cut [] (fun wx=>CS w B z.2 ⟨3,Row,Col,z.1,0,[]⟩ none 0 wx)
 case first =>
  clear HR2 HLy hg
  cases b with
  | false =>
   have hz2:Hid (z=(0,yr)):=Lh (by rw [hz.out];show (if qX yr q9=true then _ else _)=_;rw [<- hb.out];rfl);clear hz hb;go_wp2;go_meet;rw [hz2.out];exact hX
  | true =>
   obtain ⟨u,hu⟩ : ∃ u,Hid (u=qN (yr.bind (skO q9))):=⟨_,Lh rfl⟩
   have hz2:Hid (z=(u.1,if u.1<1 then none else u.2)):=Lh (by rw [hz.out,hu.out];show (if qX yr q9=true then _ else _)=_;rw [<- hb.out];rfl);clear hz hb;obtain ⟨A',n',c',bad',c0,c1,HA0⟩:=CS.af_ hX hB q9 3 L2 hu;have HA:=Lh HA0;clear HA0
   go_upto_region 7 with (go_at_call 59;refine HA.out.mono ?_;rintro e w1 ⟨A1,n1,cc1,bad1,v1,rfl,d0,d1,f0,f1,k0,p0,hY⟩)
   refine qa (CS w B u.2 ⟨3,Row,Col,u.1,0,[]⟩ none 0) hY ?_;clear hY hX HA c0 c1 d0 d1 f0 f1 k0 p0;intro X hX;obtain ⟨A',n',c',l',bad',hr',hW,R1,R2,R3,R4,tx,hO⟩:=id hX;obtain ⟨c0,c1,f0,f1⟩:=vN R1;obtain ⟨k0,k1,k2,k3,k4,k5,p0,p1,p2,p3,p4,p5⟩:=qV R4;dsimp only at k0 k1 k2 k3 k4 k5
   by_cases hlt:u.1<1
   ·go_wp2;go_meet;rw [hz2.out,if_pos hlt];exact hX.spoil hB
   ·go_wp2;go_meet;rw [hz2.out,if_neg (show ¬ u.1<1 by omega)];exact hX
 case rest =>
  clear hX;have hX:=hcut
  have HLz:Hid (LenR z.2):=Lh (by
   rw [hz.out];unfold delP
   split
   ·show LenR (if _ then none else _)
    split
    ·intro _ h;cases h
    ·exact LenR.num (LenR.sk HLy.out _)
   ·exact HLy.out)
  clear hcut hz hb HLy;obtain ⟨Z,zr⟩:=z;simp only at HLz HR2 hg;generalize hXw:wc=X at *
  clear hXw;obtain ⟨A',n',c',bad',c0,c1,HN0⟩:=CS.nx_ hX hB qK;have HN:=Lh HN0;clear HN0;obtain ⟨b2,hb2⟩ : ∃ b,Hid (b=qX zr qK):=⟨_,Lh rfl⟩
  rw [<- hb2.out] at HN
  go_upto_if 42 with (go_at_call 33;refine HN.out.mono ?_;rintro e w1 ⟨rfl,hY⟩)
  refine qa (CS w B zr ⟨3,Row,Col,Z,0,[]⟩ none 0) hY ?_;clear hY hX HN c0 c1;intro X hX
  go_cut [] (fun wx=>∃ Ag cap,CS w B g.2 ⟨3,Row,Col,Z,0,g.1⟩ Ag cap wx)
  case first =>
   clear HR2
   cases b2 with
   | false =>
    have hg2:Hid (g=([],zr)):=Lh (by rw [hg.out];show (if qX zr qK=true then _ else _)=_;rw [<- hb2.out];rfl);clear hg hb2;go_wp2;go_meet;rw [hg2.out];exact ⟨_,_,hX⟩
   | true =>
    obtain ⟨u,hu⟩ : ∃ u,Hid (u=zr.bind (skO qK)):=⟨_,Lh rfl⟩
    have hg2:Hid (g=qkY u):=Lh (by rw [hg.out,hu.out];show (if qX zr qK=true then _ else _)=_;rw [<- hb2.out];rfl);have HLu:LenR u:=by rw [hu.out];exact HLz.out.sk _
    clear hg hb2 HLz;obtain ⟨A',n',c',l',bad',hr',hW,R1,R2,R3,R4,tx,hO⟩:=id hX;obtain ⟨c0,c1,f0,f1⟩:=vN R1;obtain ⟨k0,k1,k2,k3,k4,k5,p0,p1,p2,p3,p4,p5⟩:=qV R4;dsimp only at k0 k1 k2 k3 k4 k5;have HK:=Lh (qev zr _ qK B X ⟨A',n',c',l',bad',rfl,hW,hr'⟩ (Lj hB tx.size));rw [<- hu.out] at HK;have HT:Hid (∀ (v':Value) (w':World),RV w' B u v'->Below w.heap.size w w'->Calls prog 95 #[v'] w' (TRet w' B (u.bind qae))):=Lh fun v' w' hv hb=>utext_ u v' B w' hv (Lj hB hb.size) HLu (HS.out.1.below hb (Ld _)) (HS.out.2.1.below hb) (HS.out.2.2.below hb (Ld _))
    clear HLu hu HS
    go_wp2_with (first
     | (go_at_call 60;refine HK.out.mono ?_;rintro e w1 ⟨A1,n1,cc1,l1,bad1,rfl,hW1,hr1,hb1⟩;have tx1:=tx.trans (hb1.mono (by have:=hX.size;omega)))
     | (go_at_call 95;refine (HT.out _ _ ⟨A1,n1,cc1,l1,bad1,rfl,hW1,hr1⟩ tx1).mono ?_;rintro e w2 ⟨A2,G,c2,v2,rfl,ho2,⟨A3,n3,c3,l3,bad3,rfl,hW3,hr3⟩,hb3,hG⟩;have hb4:=hb1.trans (hb3.mono hb1.size);have hY:=hX.below hB hb4;clear c0 c1 f0 f1 k0 k1 k2 k3 k4 k5 p0 p1 p2 p3 p4 p5 hr' hW R1 R2 R3 R4 tx hO;(obtain ⟨A',n',c',l',bad',hr',hW,R1,R2,R3,R4,tx,hO⟩:=id hY;obtain ⟨c0,c1,f0,f1⟩:=vN R1;obtain ⟨k0,k1,k2,k3,k4,k5,p0,p1,p2,p3,p4,p5⟩:=qV R4;dsimp only at k0 k1 k2 k3 k4 k5)))
    go_meet;have hgg:g=(G,(u.bind qae).map (·.2)):=by
     rw [hg2.out,qkY,<- hG]
     cases u.bind qae <;> rfl
    have hz1:=hX.size;have hz2:=hb1.size;have hXX:=(hY.glyphs hB (qt ho2 L0)).turn hB (hW3.below ((Le B w2).setCell (p:=⟨w.heap.size+3,5,none⟩) L7 (.slice A2 G.length c2))) hr3;exact ⟨A2,c2,by rw [hgg];exact hXX⟩
  case rest =>
   clear hX;obtain ⟨Ag,cap,hX⟩:=hcut;have HR3:Hid (R.1=⟨3,Row,Col,Z,0,g.1⟩/\R.2=g.2):=Lh (by rw [HR2.out];exact ⟨rfl,rfl⟩);clear HR2 hg hb2 HLz HS;generalize hXw:wc=X at *
   clear hXw;obtain ⟨G,gr⟩:=g
   go_upto_region 11 with fail
   obtain ⟨A',n',c',l',bad',hr',hW,R1,R2,R3,R4,tx,hO⟩:=id hX;obtain ⟨c0,c1,f0,f1⟩:=vN R1;obtain ⟨k0,k1,k2,k3,k4,k5,p0,p1,p2,p3,p4,p5⟩:=qV R4;dsimp only at k0 k1 k2 k3 k4 k5;obtain ⟨o0,o1,o2,o3,o4,o5,q0,q1,q2,q3,q4,q5⟩:=qV R2;obtain ⟨m0,m1,v0,v1⟩:=vN R3;dsimp only at o0 o1 o2 o3 o4 o5;have HF:=Lh (qaV hB hr' hW R2 R3 tx hO)
   go_region_law (fail)
   all_goals go_wp2
   all_goals rw [HR3.out.1,HR3.out.2]
   all_goals exact bodyPost_ret (jg rfl _ _ (w.heap.size+1) (w.heap.size+2) 57 72 _ _ (0,0) (0,0) _ _ rfl HF.out.1 underlying57 rfl yo rfl HF.out.2.1 underlying72 rfl zG) rfl ⟨_,_,_,rfl,HF.out.2.2.1,HF.out.2.2.2.1,HF.out.2.2.2.2⟩
end Go.Proofs.YtbogmeeijdaijaaGreatDoor
