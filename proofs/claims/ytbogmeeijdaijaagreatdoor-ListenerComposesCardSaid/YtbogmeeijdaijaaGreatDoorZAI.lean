/- Joined: Lve, Lvf, Pa1, Pa2, Pa3, Pa4. -/
import Derived.Test.YtbogmeeijdaijaaGreatDoorZAH
set_option linter.unusedVariables false
set_option linter.unusedSimpArgs false
set_option linter.unnecessarySimpa false
set_option maxHeartbeats 8000000
namespace Go.Proofs.YtbogmeeijdaijaaGreatDoor
open Go.Proofs.Tryz Go.RowKit
set_option maxRecDepth 20000
theorem qj4 (n:Nat) (hn:n<=1000000000) (w:World):Calls prog 122 #[.slice none 0 0,.int .i64 n] w fun e w'=>∃ A c,e = .returned (.slice A 0 c)/\w'.ownsRow w.heap.size 64 3 (.slice A 0 c) 0 []/\Below w.heap.size w w':=by
 rcases Nat.eq_zero_or_pos n with h0 | h0
 ·subst h0;refine (Any8.slices_Grow_room Tryz.laysGrowG none 0 0 0 w L0 L0 L0 L0).mono ?_;rintro e w' ⟨rfl,rfl⟩;exact ⟨none,0,rfl,zY _ _ _ _,Le _ _⟩
 ·have h:(prog.info? 64).map (fun i=>(i.zero,i.size,i.bytes))=some (some (.agg #[.string ⟨#[]⟩,.bool false,.int .i64 0]),3,32):=by kernel_rfl
  obtain ⟨i,hi,hz,hs,hb⟩:=info_parts h;refine (Any8.slices_Grow_grow Tryz.laysGrowG i (.agg #[.string ⟨#[]⟩,.bool false,.int .i64 0]) hi hz L0 none 0 0 n [] w L0 L0 (by rw [hb];omega) L0 L1 (fun _=>rfl) (fun a h=>by cases h)).mono ?_;rintro e w' ⟨rfl,rfl⟩;have hge:=grownCap_ge w (0+n) 0 64;refine ⟨_,_,rfl,⟨rfl,.inr ⟨w.heap.size,grownCap w (0+n) 0 64,_,rfl,Ld _,heap_alloc_new w.drew _,Nat.zero_le _,grownCap_le_maxLen _ _ _ _ (by unfold maxLen;omega),?_,by simp⟩⟩,jI ((Le w.heap.size w.drew).alloc (Ld _) _)⟩;rw [Array.size_append,Array.size_append,size_zeroCells,size_zeroCells];have e1:(Value.agg #[.string ⟨#[]⟩,.bool false,.int .i64 0]).cells.size=3:=rfl;have e2:Tryz.laysGrowG_ren.t 25=64:=rfl;rw [e1];simp only [List.size_toArray,List.length_nil,e2]
  omega
def yA (L:List RowM):List Gl:=(rls L).flatten
theorem qkl {L:List RowM} {k:Nat} (h:k<L.length):yA (L.take (k+1))=yA (L.take k)++L[k].l:=by
 unfold yA rls;rw [(List.take_append_getElem h).symm,List.map_append,List.flatten_append]
 simp
theorem catG_le (L:List RowM) (k:Nat):(yA (L.take k)).length<=(yA L).length:=by
 have e:yA L=yA (L.take k)++yA (L.drop k):=by
  unfold yA rls;rw [<- List.flatten_append,<- List.map_append,List.take_append_drop]
 rw [e,Lf]
 omega
theorem qjO (L:List RowM) (A:Option Addr) (n c B:Nat) (w:World) (hn:L.length=n) (hn2:n<=1000) (hB:B<=w.heap.size) (htot:(yA L).length<=1000000000)
  (rd:Rd w B 1 A n (zQ L)) (hr : ∀ x∈L,Rd w B 3 x.A x.l.length (qi x.l)) :
  Calls prog 100 #[.slice A n c] w (ql 64 3 id w (yA L).length (qi (yA L))):=by
 have HN:=Lh hn;have HT:Hid (∀ k (h:k<L.length),yA (L.take (k+1))=yA (L.take k)++L[k].l):=Lh fun k h=>qkl h
 have HLe:=Lh (catG_le L);have HC:Hid (∀ k (h:k<L.length),(zQ L)[k]? = some (.slice L[k].A L[k].l.length L[k].cap)):=Lh fun k h=>yF h
 have HR:Hid (∀ k (h:k<L.length),Rd w B 3 L[k].A L[k].l.length (qi L[k].l)):=Lh fun k h=>hr _ (Lt h)
 have HG:=Lh qj4;have HA:Hid (L.take n=L):=Lh (List.take_of_length_le L0);clear hn hr
 go_enter func100,ntmps100
 go_wp2
 go_loopw [3,11] (fun v x wr=>∃ k:Nat,k<=n/\x = .int .i64 k/\v = .int .i64 ((yA (L.take k)).length:Nat)/\w=wr) (fun _ x _=>n-(intOf x).toNat)
 case atStart=>exact ⟨0,Nat.zero_le _,rfl,rfl,rfl⟩
 case round =>
  obtain ⟨k,hk,rfl,rfl,rfl⟩:=hrel
  by_cases hlt:k<n
  ·have hkl:k<L.length:=by have:=HN.out;omega
   obtain ⟨b,o,rfl,hbB,hc⟩:=rd.at_ hlt;rw [HC.out k hkl] at hc;have hl1:=HLe.out k;have hl2:=HLe.out (k+1);have hT:=HT.out k hkl;have hTl:(yA (L.take (k+1))).length=(yA (L.take k)).length+L[k].l.length:=by rw [hT,Lf]
   generalize hm2:(yA (L.take (k+1))).length=m2 at *
   replace hm2:=Lh hm2;generalize (yA (L.take k)).length=m1 at *
   generalize L[k].l.length=q at *
   generalize L[k].A=aa at *
   generalize L[k].cap=cc at *
   clear hT;go_wp2;exact ⟨⟨k+1,by omega,by go_num,by rw [hm2.out,hTl];go_num,by trivial⟩,by simp [intOf];omega⟩
  ·obtain rfl:k=n:=by omega
   have hA:=HA.out;rw [hA];clear hA;generalize hm:(yA L).length=m at *
   replace hm:=Lh hm
   go_wp2_with (go_at_call 122;refine (HG.out m htot _).mono ?_;rintro e w1 ⟨A1,c1,rfl,hown1,hbel1⟩)
   go_loopw [6,27] (fun v x wr=>∃ (A':Option Addr) (c' j:Nat),j<=k/\x = .int .i64 j/\v = .slice A' (yA (L.take j)).length c'/\wr.ownsRow w.heap.size 64 3 (.slice A' (yA (L.take j)).length c') (yA (L.take j)).length (qi (yA (L.take j)))/\Below w.heap.size w wr) (fun _ x _=>k-(intOf x).toNat)
   case atStart=>exact ⟨A1,c1,0,Nat.zero_le _,rfl,rfl,hown1,hbel1⟩
   case round =>
    obtain ⟨A',c',j,hj,rfl,rfl,hown,hbel⟩:=hrel
    by_cases hlt:j<k
    ·have hkl:j<L.length:=by have:=HN.out;omega
     obtain ⟨b,o,rfl,hbB,hc⟩:=(rd.keep (w':=wr) fun p hp=>hbel.cell L0).at_ hlt;rw [HC.out j hkl] at hc;have hr:=Lh ((HR.out j hkl).keep (w':=wr) fun p hp=>hbel.cell L0);have hl1:=HLe.out j;have hl2:=HLe.out (j+1);have hT:=HT.out j hkl;have hTl:(yA (L.take (j+1))).length=(yA (L.take j)).length+L[j].l.length:=by rw [hT,Lf]
     replace hT:=Lh hT;replace hTl:=Lh hTl;have hl3:(yA (L.take j)).length+L[j].l.length<=m:=by rw [<- hTl.out];exact hl2
     generalize hM1:yA (L.take j)=M1 at *
     generalize hl:L[j].l=l at *
     generalize L[j].A=aa at *
     generalize L[j].cap=cc at *
     clear hl hM1 hl2;have zb:=hbel.size
     go_wp2_with (at_builtin;go_must (refine qg rfl _ _ _ rfl qbz (w.heap.size) _ rfl (hown) _ _ rfl (hr.out) ?_);intro A4 c4 w4 hown4 hbel4 hgr4 hat4;have z4:=hbel4.size;(try simp only [Li] at z4);(try simp only [Lo,Lg] at hown4))
     exact ⟨⟨A4,c4,j+1,by omega,by go_num,by rw [hTl.out],by rw [hTl.out,hT.out,kF];exact hown4,hbel.trans hbel4⟩,by simp [intOf];omega⟩
    ·obtain rfl:j=k:=by omega
     have hA:=HA.out;rw [hA] at hown;go_wp2;go_ret;have e1:(yA (L.take j)).length=m:=by rw [hA,hm.out]
     rw [hm.out] at hown;exact ⟨A',c',by rw [e1];rfl,hown,hbel⟩
structure EDx (base G:Nat) (v:Vw) (rs:List RowM) (A:Option Addr) (c k:Nat) (l':List Gl) (A4:Option Addr) (c4:Nat) (X:World):Prop where
 blk:Blk X G 83 (vwC v A rs.length c)
 rows:X.ownsRow base 45 1 (.slice A rs.length c) rs.length (zQ rs)
 gl : ∀ j (h:j<rs.length),j≠k->X.ownsRow base 64 3 (.slice rs[j].A rs[j].l.length rs[j].cap) rs[j].l.length (qi rs[j].l)
 row:X.ownsRow base 64 3 (.slice A4 l'.length c4) l'.length (qi l')
 eq:v.rows=rls rs
 lo:base<=G
 dj:(obR G A (rs.set k ⟨l',A4,c4⟩)).Pairwise Dj
theorem qaD {l:List (Option Nat)} (h:l.Pairwise Dj) {i j:Nat} (hi:i<l.length) (hj:j<l.length) (hne:i≠j):Dj l[i] l[j]:=by
 rcases Nat.lt_or_ge i j with hlt | hge
 ·exact List.pairwise_iff_getElem.1 h i j hi hj hlt
 ·exact (List.pairwise_iff_getElem.1 h j i hj hi L0).symm
theorem obR_set (G:Nat) (A:Option Addr) (rs:List RowM) (k:Nat) (x:RowM):obR G A (rs.set k x)=(obR G A rs).set (k+2) (obS x.A):=by
 unfold obR;rw [List.map_set,List.set_cons_succ,List.set_cons_succ]
section
variable {base G c k c4 : Nat} {v : Vw} {rs : List RowM} {A A4 : Option Addr} {l' : List Gl} {X X' w1 w2 : World}
theorem EDx.start (h:ED base G v rs A c X) (hk:k<rs.length):EDx base G v rs A c k rs[k].l rs[k].A rs[k].cap X :=
 ⟨h.blk,h.rows,fun j hj _=>h.gl _ (Lt hj),h.gl _ (Lt hk),h.eq,h.lo,by
  have e:rs.set k ⟨rs[k].l,rs[k].A,rs[k].cap⟩=rs:=List.set_getElem_self hk;rw [e]
  exact h.dj⟩
theorem EDx.below (h:EDx base G v rs A c k l' A4 c4 X) (hb:Below X.heap.size X X'):EDx base G v rs A c k l' A4 c4 X' :=
 ⟨h.blk.below hb h.blk.lt,qb h.rows hb,fun j hj hne=>qb (h.gl j hj hne) hb,qb h.row hb,h.eq,h.lo,h.dj⟩
theorem EDx.apart (h:EDx base G v rs A c k l' A4 c4 X) (hk:k<rs.length):Dj (some G) (obS A)/\Dj (some G) (obS A4)/\Dj (obS A) (obS A4)/\(∀ j (hj:j<rs.length),j≠k->Dj (some G) (obS rs[j].A)/\Dj (obS A) (obS rs[j].A)/\Dj (obS rs[j].A) (obS A4)):=by
 have hd:=h.dj;have hl:(obR G A (rs.set k ⟨l',A4,c4⟩)).length=rs.length+2:=by simp [obR]
 have g0:(obR G A (rs.set k ⟨l',A4,c4⟩))[0]'(by omega)=some G:=rfl;have g1:(obR G A (rs.set k ⟨l',A4,c4⟩))[1]'(by omega)=obS A:=rfl;have gk:(obR G A (rs.set k ⟨l',A4,c4⟩))[k+2]'(by omega)=obS A4:=by simp [obR]
 have gj : ∀ j (hj:j<rs.length),j≠k->(obR G A (rs.set k ⟨l',A4,c4⟩))[j+2]'(by omega)=obS rs[j].A:=fun j hj hne=>by
  simp [obR,List.getElem_set_ne (Ne.symm hne)]
 refine ⟨?_,?_,?_,fun j hj hne=>⟨?_,?_,?_⟩⟩
 ·have:=qaD hd (i:=0) (j:=1) L0 L0 L0;rwa [g0,g1] at this
 ·have:=qaD hd (i:=0) (j:=k+2) L0 L0 L0;rwa [g0,gk] at this
 ·have:=qaD hd (i:=1) (j:=k+2) L0 L0 L0;rwa [g1,gk] at this
 ·have:=qaD hd (i:=0) (j:=j+2) L0 L0 L0;rwa [g0,gj j hj hne] at this
 ·have:=qaD hd (i:=1) (j:=j+2) L0 L0 L0;rwa [g1,gj j hj hne] at this
 ·have:=qaD hd (i:=j+2) (j:=k+2) L0 L0 L0;rwa [gj j hj hne,gk] at this
theorem EDx.dj_new (h:EDx base G v rs A c k l' A4 c4 X) {l2:List Gl} {A5:Option Addr} {c5:Nat} (hn : ∀ y∈obR G A (rs.set k ⟨l',A4,c4⟩),y=obS A4∨Dj y (obS A5)) (hk:k<rs.length):(obR G A (rs.set k ⟨l2,A5,c5⟩)).Pairwise Dj:=by
 obtain ⟨d1,d2,d3,d4⟩:=h.apart hk;rw [List.pairwise_iff_getElem];have hl:(obR G A (rs.set k ⟨l2,A5,c5⟩)).length=rs.length+2:=by simp [obR]
 have hl':(obR G A (rs.set k ⟨l',A4,c4⟩)).length=rs.length+2:=by simp [obR]
 have same : ∀ i (hi:i<rs.length+2),i≠k+2->(obR G A (rs.set k ⟨l2,A5,c5⟩))[i]'(by omega)=(obR G A (rs.set k ⟨l',A4,c4⟩))[i]'(by omega):=fun i hi hne=>by
  have e1 : ∀ (x:RowM),(obR G A (rs.set k x))[i]? = (obR G A rs)[i]?:=fun x=>by rw [obR_set,List.getElem?_set_ne (Ne.symm hne)]
  have:=(e1 ⟨l2,A5,c5⟩).trans (e1 ⟨l',A4,c4⟩).symm;rw [List.getElem?_eq_getElem L0,List.getElem?_eq_getElem L0] at this
  injection this
 have gk:(obR G A (rs.set k ⟨l2,A5,c5⟩))[k+2]'(by omega)=obS A5:=by simp [obR]
 have key : ∀ i (hi:i<rs.length+2),i≠k+2->Dj ((obR G A (rs.set k ⟨l',A4,c4⟩))[i]'(by omega)) (obS A5):=fun i hi hne=>by
  rcases hn _ (Lt (by omega:i<(obR G A (rs.set k ⟨l',A4,c4⟩)).length)) with e | e
  ·have hd:=qaD h.dj (i:=i) (j:=k+2) L0 L0 hne;have gk':(obR G A (rs.set k ⟨l',A4,c4⟩))[k+2]'(by omega)=obS A4:=by simp [obR]
   rw [e,gk'] at hd;rw [e];intro j h1 _;exact hd j h1 h1
  ·exact e
 intro i j hi hj hij
 by_cases hik:i=k+2
 ·subst hik;rw [gk,same j L0 L0];exact (key j L0 L0).symm
 ·by_cases hjk:j=k+2
  ·subst hjk;rw [gk,same i L0 hik];exact key i L0 hik
  ·rw [same i L0 hik,same j L0 hjk];exact qaD h.dj L0 L0 L0
theorem EDx.grow (h:EDx base G v rs A c k l' A4 c4 X) (hk:k<rs.length) (hbase:base<=X.heap.size) (hb1:Below X.heap.size X w1) {A5:Option Addr} {c5 n m:Nat} {g:Gl} (hn:n=l'.length+1) (hown:w2.ownsRow base 64 3 (.slice A5 n c5) n (qi l'++ym g))
  (hgr:w1.grownBy w2 (Value.slice A4 m c4).ownBlock) (hat:(Value.slice A5 n c5).ownBlock=(Value.slice A4 m c4).ownBlock∨(Value.slice A5 n c5).ownBlock=some w1.heap.size):EDx base G v rs A c k (l'++[g]) A5 c5 w2:=by
 subst hn;rw [qC] at hgr;rw [qC,qC] at hat;obtain ⟨d1,d2,d3,d4⟩:=h.apart hk;have h1:=h.below hb1;refine ⟨h1.blk.grown hgr fun e=>d2 G rfl e.symm,h1.rows.kept hgr (by rw [qC];exact d3.ne),fun j hj hne=>(h1.gl j hj hne).kept hgr (by rw [qC];exact (d4 j hj hne).2.2.ne),by rw [Lf,kF];simpa [qi] using hown,h.eq,h.lo,h.dj_new (fun y hy=>?_) hk⟩
 by_cases e:y=obS A4
 ·exact .inl e
 ·right
  have hlt : ∀ b,y=some b->b<w1.heap.size:=fun b hb=>by
   subst hb;have hz:=hb1.size;unfold obR at hy
   rcases List.mem_cons.1 hy with hy | hy
   ·injection hy with hy;have:=h1.blk.lt;omega
   ·rcases List.mem_cons.1 hy with hy | hy
    ·exact (vB h1.rows b hy.symm).2
    ·obtain ⟨x,hx,e2⟩:=List.mem_map.1 hy;obtain ⟨i,hi,rfl⟩:=List.getElem_of_mem hx;rw [List.length_set] at hi
     by_cases hik:i=k
     ·subst hik;rw [List.getElem_set_self] at e2;exact absurd e2.symm e
     ·rw [List.getElem_set_ne (Ne.symm hik)] at e2;exact (vB (h1.gl i hi hik) b e2).2
  obtain ⟨i,hi,rfl⟩:=List.getElem_of_mem hy;have hlen:(obR G A (rs.set k ⟨l',A4,c4⟩)).length=rs.length+2:=by simp [obR]
  have gk':(obR G A (rs.set k ⟨l',A4,c4⟩))[k+2]'(by omega)=obS A4:=by simp [obR]
  have hik:i≠k+2:=fun e3=>e (by subst e3;exact gk')
  have hd:=qaD h.dj (i:=i) (j:=k+2) hi L0 hik;rw [gk'] at hd;exact Dj.new hd hat hlt
theorem EDx.put (h:EDx base G v rs A c k l' A4 c4 X) (hk:k<rs.length) (hbase:base<=X.heap.size) {G1:Nat} (hA:A=some ⟨G1,0,none⟩) {l6:List Gl} {A6:Option Addr} {c6:Nat} (hb1:Below X.heap.size X w1) (hown:w1.ownsRow X.heap.size 64 3 (.slice A6 l6.length c6) l6.length (qi l6)) :
  ED base G ⟨v.width,v.height,(rls rs).set k l6,v.row,v.col,v.vis⟩ (rs.set k ⟨l6,A6,c6⟩) A c (w1.setCell ⟨G1,k,none⟩ (.slice A6 l6.length c6)):=by
 subst hA;obtain ⟨d1,d2,d3,d4⟩:=h.apart hk;have h1:=h.below hb1;have hfr : ∀ b,obS A6=some b->X.heap.size<=b:=fun b hb=>(vB hown b hb).1
 have hG1:G1<X.heap.size:=(vB h.rows G1 rfl).2;refine ⟨?_,?_,fun x hx=>?_,(qfd rs k ⟨l6,A6,c6⟩).symm,h.lo,h.dj_new (fun y hy=>?_) hk⟩
 ·rw [List.length_set];exact h1.blk.far (p:=⟨G1,k,none⟩) (fun e=>d1 G rfl (by rw [e];rfl)) _
 ·rw [List.length_set,qeJ];exact (h1.rows.stored k _).1
 ·obtain ⟨i,hi,rfl⟩:=List.getElem_of_mem hx;rw [List.length_set] at hi
  by_cases hik:i=k
  ·subst hik;rw [List.getElem_set_self]
   exact ownsRow_setCell_other (a:=⟨G1,i,none⟩) (qt hown hbase) (fun e=>by
    rw [qC] at e;have:=hfr _ e;simp only at this
    omega) _
  ·rw [List.getElem_set_ne (Ne.symm hik)]
   exact ownsRow_setCell_other (a:=⟨G1,k,none⟩) (h1.gl i hi hik) (fun e=>by
    rw [qC] at e
    exact (d4 i hi hik).2.1 G1 rfl e) _
 ·by_cases e:y=obS A4
  ·exact .inl e
  ·right
   refine Dj.fresh (N:=X.heap.size) (fun b hb=>?_) hfr;subst hb;unfold obR at hy
   rcases List.mem_cons.1 hy with hy | hy
   ·injection hy with hy;have:=h.blk.lt;omega
   ·rcases List.mem_cons.1 hy with hy | hy
    ·exact (vB h.rows b hy.symm).2
    ·obtain ⟨x,hx,e2⟩:=List.mem_map.1 hy;obtain ⟨i,hi,rfl⟩:=List.getElem_of_mem hx;rw [List.length_set] at hi
     by_cases hik:i=k
     ·subst hik;rw [List.getElem_set_self] at e2;exact absurd e2.symm e
     ·rw [List.getElem_set_ne (Ne.symm hik)] at e2;exact (vB (h.gl i hi hik) b e2).2
end
def jh (nb:Nat) (v u:Value) (st:Int) (j:Bool):Array Value:=#[.map (some nb),v,u,.int .i64 st,.bool j]
def PaS (w:World) (g nb:Nat) (p:Prs):Prop :=
 ∃ A n c A2 c2,n<=c/\c<=maxLen/\Blk w g 185 (jh nb (.slice A n c) (.slice A2 p.out.length c2) p.style p.joins)/\Rd w g 1 A n (sv p.words)/\w.ownsRow (g+1) 64 3 (.slice A2 p.out.length c2) p.out.length (qi p.out)
theorem PaS.lt {w:World} {g nb:Nat} {p:Prs} (h:PaS w g nb p):g<w.heap.size:=by
 obtain ⟨A,n,c,A2,c2,_,_,h,_⟩:=h;exact h.lt
theorem PaS.below {w w':World} {g nb:Nat} {p:Prs} (h:PaS w g nb p) (hb:Below w.heap.size w w'):PaS w' g nb p:=by
 have hl:=h.lt;obtain ⟨A,n,c,A2,c2,h1,h2,h3,h4,h5⟩:=h;exact ⟨A,n,c,A2,c2,h1,h2,h3.below hb hl,h4.below (hb.mono (Lr hl)),qb h5 hb⟩
def PaK (p:Prs):Prop:=(∀ s∈p.words,s.size<=1000)/\p.out.length+1100 * p.words.length<=1000000000/\(∀ x∈p.out,x.text.size+8 * p.words.length<=8000000)
theorem PaK.len {p:Prs} (h:PaK p):p.words.length<=950000:=by have:=h.2.1;omega
theorem PaK.sz {p:Prs} (h:PaK p) : ∀ s∈p.words,s.size<=maxLen:=fun s hs=>Lj (h.1 s hs) L2
def PaR (g nb:Nat) (p:Prs) (o:Option Prs) (w:World) (e:Ending) (w':World):Prop :=
 Below g w w'/\match o with
 | some q=>e = .returned (.bool true)/\PaS w' g nb q
 | none=>e = .returned (.bool false)/\PaS w' g nb p/\Below w.heap.size w w'
theorem next_ (p:Prs) (g nb:Nat) (w:World) (h:PaS w g nb p):Calls prog 176 #[.pointer (some ⟨g,0,none⟩)] w (qh (.string (p.words.headD ⟨#[]⟩)) w):=by
 obtain ⟨A,n,c,A2,c2,h1,h2,h3,h4,h5⟩:=h;have C1:=h3.cell 1;simp only [jh,La,Lb,Lc] at C1;obtain ⟨W,O,S,J⟩:=p;dsimp only at *
 cases W with
 | nil =>
  obtain rfl:n=0:=by have:=h4.1;simp [sv] at this;omega
  rw [show ([]:List ByteArray).headD ⟨#[]⟩=⟨#[]⟩ from rfl];clear h1 h2 h3 h4 h5
  go_enter func176,ntmps176
  go_wp2;go_ret;exact ⟨rfl,Le _ _⟩
 | cons s t =>
  have hn:0<n:=by have:=h4.1;simp [sv] at this;omega
  obtain ⟨b,o,rfl,hb,hc⟩:=h4.at_ hn;have hc':w.cell? ⟨b,o,none⟩=some (.string s):=hc;rw [List.headD_cons];clear h1 h2 h3 h4 h5 hc
  go_enter func176,ntmps176
  go_wp2;go_ret;exact ⟨rfl,Le _ _⟩
theorem take_ (p:Prs) (k:Nat) (hk:k<=p.words.length) (g nb:Nat) (w:World) (h:PaS w g nb p) :
  Calls prog 177 #[.pointer (some ⟨g,0,none⟩),.int .i64 k] w fun e w'=>e = .returned (.tuple #[])/\PaS w' g nb ⟨p.words.drop k,p.out,p.style,p.joins⟩/\Below g w w':=by
 obtain ⟨A,n,c,A2,c2,h1,h2,h3,h4,h5⟩:=h;have C1:=h3.cell 1;have F1:=h3.frozen 1;simp only [jh,La,Lb,Lc] at C1;have hn:p.words.length=n:=by have:=h4.1;simp [sv] at this;omega
 have hkn:k<=n:=by omega
 have hc63:c<=9223372036854775807:=by unfold maxLen at h2;omega
 have HF:Hid (∀ A' N C,Rd w g 1 A' N (sv (p.words.drop k))->N<=C->C<=maxLen->PaS (w.setCell ⟨g,1,none⟩ (.slice A' N C)) g nb ⟨p.words.drop k,p.out,p.style,p.joins⟩):=Lh fun A' N C hr hN hC =>
  ⟨A',N,C,A2,c2,hN,hC,by have:=h3.set_ 1 (.slice A' N C);simpa [jh] using this,hr.below (show Below g w (w.setCell ⟨g,1,none⟩ (.slice A' N C)) from (Le g w).setCell (Ld g) _),zZ h5 (Nat.lt_succ_self _) _⟩
 have HRd:Hid (Rd w g 1 (if c=k then A else A.map (·.add (k * 1))) (n-k) (sv (p.words.drop k))):=Lh (by
  have:=h4.cut hkn h1
  rwa [show (sv p.words).drop (k * 1)=sv (p.words.drop k) by simp [sv]] at this)
 have hcm:=h2;clear h2 h3 h4 h5 hn hk
 by_cases hck:c=k
 ·subst hck;rw [if_pos rfl] at HRd;obtain rfl:n=c:=by omega
  rw [Nat.sub_self] at HRd;have HG:=Lh (HF.out _ _ 0 HRd.out L0 L0);clear HF HRd
  go_enter func177,ntmps177
  go_wp2;go_end0;exact ⟨rfl,HG.out,(Le g w).setCell (Ld g) _⟩
 ·rw [if_neg hck] at HRd;have HG:=Lh (HF.out _ _ (c-k) HRd.out L0 L0);clear HF HRd;rw [Nat.mul_one] at HG
  go_enter func177,ntmps177
  go_wp2;go_end0;exact ⟨rfl,HG.out,(Le g w).setCell (Ld g) _⟩
theorem par_put {X w4:World} {g nb n N c0 c4:Nat} {A0 A4:Option Addr} {v:Value} {st:Int} {j:Bool} {ys:List Value}
  (hX:Blk X g 185 (jh nb v (.slice A0 n c0) st j)) (hown4:w4.ownsRow (g+1) 64 3 (.slice A4 N c4) N ys) (hbel4:Below (g+1) X w4) :
  Blk (w4.setCell ⟨g,2,none⟩ (.slice A4 N c4)) g 185 (jh nb v (.slice A4 N c4) st j)/\(w4.setCell ⟨g,2,none⟩ (.slice A4 N c4)).ownsRow (g+1) 64 3 (.slice A4 N c4) N ys/\Below g X (w4.setCell ⟨g,2,none⟩ (.slice A4 N c4)):=by
 have hb4:=hX.below hbel4 (Nat.lt_succ_self g);refine ⟨?_,zZ hown4 (Nat.lt_succ_self g) _,(hbel4.mono (Nat.le_succ g)).setCell (Ld _) _⟩;have:=hb4.set_ 2 (.slice A4 N c4)
 simpa [jh] using this
def PaT (w:World) (g nb:Nat) (v:Value) (st:Int) (j:Bool) (O:List Gl) (wx:World):Prop :=
 ∃ A c,Blk wx g 185 (jh nb v (.slice A O.length c) st j)/\wx.ownsRow (g+1) 64 3 (.slice A O.length c) O.length (qi O)/\Below g w wx
theorem PaT.put {w X w4:World} {g nb n N c0 c4:Nat} {A0 A4:Option Addr} {v:Value} {st:Int} {j:Bool} {ys:List Value} {O:List Gl}
  (hX:Blk X g 185 (jh nb v (.slice A0 n c0) st j)) (tX:Below g w X) (hown4:w4.ownsRow (g+1) 64 3 (.slice A4 N c4) N ys) (hbel4:Below (g+1) X w4) (hN:O.length=N) (hy:qi O=ys) :
  PaT w g nb v st j O (w4.setCell ⟨g,2,none⟩ (.slice A4 N c4)):=by
 subst hN hy;obtain ⟨h1,h2,h3⟩:=par_put hX hown4 hbel4;exact ⟨A4,c4,h1,h2,tX.trans h3⟩
theorem qeF (s:ByteArray) (j:Nat) (h:j<s.size):s.extract j (j+1)=⟨#[s[j]]⟩:=by
 apply ByteArray.ext
 apply Array.toList_inj.1
 rw [ByteArray.data_extract];simp only [Array.toList_extract,List.extract_eq_take_drop];rw [Nat.add_sub_cancel_left,Ls (by simpa using h)]
 rfl
theorem qjr (O:List Gl) (st:Int) (T:List UInt8) (j:Nat) (h:j<T.length):O++(T.take (j+1)).map (chG st)=(O++(T.take j).map (chG st))++[chG st T[j]]:=by
 rw [(List.take_append_getElem h).symm,List.map_append,<- List.append_assoc]
 rfl
theorem qbe (g:Gl):qi [g]=ym g:=by simp [qi]
theorem text_ (p:Prs) (s:ByteArray) (hs:s.size<=1000000) (ho:p.out.length<=1000000000) (g nb:Nat) (w:World) (h:PaS w g nb p) :
  Calls prog 180 #[.pointer (some ⟨g,0,none⟩),.string s] w fun e w'=>e = .returned (.tuple #[])/\PaS w' g nb ⟨p.words,p.out++vm p.joins p.style s,p.style,true⟩/\Below g w w':=by
 have hgl:=h.lt;obtain ⟨A,n,c,A2,c2,h1,h2,h3,h4,h5⟩:=h;obtain ⟨W,O,st,J⟩:=p;dsimp only at *
 have HF:Hid (∀ w',PaT w g nb (.slice A n c) st true (O++vm J st s) w'->PaS w' g nb ⟨W,O++vm J st s,st,true⟩/\Below g w w'):=Lh fun w' ⟨A',c',a1,a2,a3⟩ =>
  ⟨⟨A,n,c,A',c',h1,h2,a1,h4.below a3,a2⟩,a3⟩
 obtain ⟨O1,hO1⟩ : ∃ x,x=O++(if J=true then [chG st 32] else []):=⟨_,rfl⟩
 have hO1l:O1.length<=O.length+1:=by
  rw [hO1,Lf]
  split <;> simp
 have HE:Hid (O++vm J st s=O1++(s.data.toList.take s.data.toList.length).map (chG st)):=Lh (by rw [hO1,vm,List.take_length,List.append_assoc]);have HT:Hid (∀ j (h:j<s.size),O1++(s.data.toList.take (j+1)).map (chG st)=(O1++(s.data.toList.take j).map (chG st))++[chG st s[j]]):=Lh fun j h=>qjr O1 st _ j (by simpa using h)
 have HX:Hid (∀ j (h:j<s.size),s.extract j (j+1)=⟨#[s[j]]⟩):=Lh (qeF s);have HL:Hid (∀ j,(O1++(s.data.toList.take j).map (chG st)).length<=1000000001+j):=Lh fun j=>by
  rw [Lf,Lq,Lu]
  omega
 have HZ:Hid (s.data.toList.length=s.size):=Lh L1;have H0:Hid (O1=O1++(s.data.toList.take 0).map (chG st)):=Lh L1;generalize O++vm J st s=Q at *
 generalize hv:Value.slice A n c=v at *
 have C2:=h3.cell 2;have C3:=h3.cell 3;have C4:=h3.cell 4;have F2:=h3.frozen 2;simp only [jh,La,Lb,Lc] at C2 C3 C4;have tw:Below g w w:=Le _ _;clear h1 h2 h4 hv
 cases J with
 | false =>
  rw [if_neg L1,List.append_nil] at hO1;have hpa:PaT w g nb v st false O1 w:=by subst hO1;exact ⟨A2,c2,h3,h5,tw⟩
  clear hO1 hO1l
  go_enter func180,ntmps180
  go_upto_block 0 with fail
  go_upto_region 2 with fail
  refine qa (PaT w g nb v st false O1) hpa ?_;clear hpa C2 C3 C4 F2 tw;clear h3 h5;intro wx hpx;go_wp2
  go_loopw [25] (fun x wr=>∃ j:Nat,j<=s.size/\x = .int .i64 j/\PaT w g nb v st false (O1++(s.data.toList.take j).map (chG st)) wr) (fun x _=>s.size-(intOf x).toNat)
  case atStart=>exact ⟨0,Nat.zero_le _,rfl,by rw [<- H0.out];exact hpx⟩
  case round =>
   clear hpx;obtain ⟨j,hj,rfl,A6,c6,Bx,ox,tx⟩:=hrel
   by_cases hlt:j<s.size
   ·have hx:=HX.out j hlt;have HTj:=Lh (HT.out j hlt);have hlen:=HL.out j;have HQl:Hid ((O1++(s.data.toList.take (j+1)).map (chG st)).length=(O1++(s.data.toList.take j).map (chG st)).length+1):=Lh (by rw [HTj.out,Lf];rfl);have HQs:Hid (qi (O1++(s.data.toList.take (j+1)).map (chG st))=qi (O1++(s.data.toList.take j).map (chG st))++ym (chG st s[j])):=Lh (by rw [HTj.out,kF,qbe]);clear HTj HT HX HE H0 HF HL;generalize O1++(s.data.toList.take j).map (chG st)=OJ at *
    generalize s[j]=cj at *
    have C2:=Bx.cell 2;have C3:=Bx.cell 3;have F2:=Bx.frozen 2;simp only [jh,La,Lb,Lc] at C2 C3;have hown:=(World.ownsRow.alloc (qb ox (Le wr.heap.size wr).drew) (.cells (ym (chG st cj)).toArray 64))
    have BS:=(Blk.alloc Bx (.cells (ym (chG st cj)).toArray 64)).drew;have hgr:g<wr.heap.size:=Bx.lt;have hwj:IntKind.i64.wrap ((j:Int)+1)=(j:Int)+1:=by rw [Lx];omega
    have hj0:(0:Int)<=(j:Int)+1:=by omega
    have hj1:(j:Int)+1<=s.size:=by omega
    have hj2:(j:Int)<=(j:Int)+1:=by omega
    have hj3:((j:Int)+1).toNat=j+1:=by omega
    have tX:Below g w (wr.alloc (.cells (ym (chG st cj)).toArray 64)).drew:=(tx.alloc (Lr hgr) _).drew
    go_upto_region 5 with fail
    go_region_law (refine jZ rfl _ _ _ rfl qbz ((g+1)) _ rfl (hown) _ _ rfl ((qe (xs:=ym (chG st cj)) rfl rfl)) (rfl) ?_;intro A4 c4 w4 hown4 hbel4 hgr4 hat4;have z4:=hbel4.size;(try simp only [Lo,Lg] at hown4);have B4:=(Blk.alloc (Blk.drew Bx) (.cells (ym (chG st cj)).toArray 64)).below hbel4 (Nat.lt_succ_self g);have c42:=B4.cell 2;have f42:=B4.frozen 2;simp only [jh,La,Lb,Lc] at c42)
    all_goals go_wp2
    all_goals exact ⟨⟨j+1,by omega,by go_num,PaT.put BS tX hown4 hbel4 HQl.out HQs.out⟩,by simp [intOf];omega⟩
   ·obtain rfl:j=s.size:=by omega
    have HQ:Hid (Q=O1++(s.data.toList.take s.size).map (chG st)):=Lh (by rw [HE.out,HZ.out]);rw [<- HQ.out] at Bx ox;clear HT HX HE H0 HL HQ;have F4:=Bx.frozen 4;have C4:=Bx.cell 4;simp only [jh,La,Lb,Lc] at C4;go_wp2;go_end0;have h4':=HF.out (wr.setCell ⟨g,4,none⟩ (.bool true)) ⟨A6,c6,by have:=Bx.set_ 4 (.bool true);simpa [jh] using this,zZ ox (Nat.lt_succ_self g) _,tx.setCell (Ld g) _⟩;exact ⟨rfl,h4'.1,h4'.2⟩
 | true =>
  rw [if_pos rfl] at hO1;have hO1l':O1.length=O.length+1:=by rw [hO1];simp
  have hO1s:qi O1=qi O++ym (chG st 32):=by rw [hO1,kF,qbe]
  replace hO1:=Lh hO1
  go_enter func180,ntmps180
  go_upto_block 0 with fail
  go_cut [] (fun wx=>PaT w g nb v st true O1 wx)
  case first =>
   clear HE HT HX HL HZ H0 HF
   go_upto_region 1 with fail
   have hown:=(World.ownsRow.alloc (qb h5 (Le w.heap.size w).drew) (.cells (ym (chG st 32)).toArray 64))
   have BS:=(Blk.alloc h3 (.cells (ym (chG st 32)).toArray 64)).drew
   go_region_law (refine jZ rfl _ _ _ rfl qbz ((g+1)) _ rfl (hown) _ _ rfl ((qe (xs:=ym (chG st 32)) rfl rfl)) (rfl) ?_;intro A4 c4 w4 hown4 hbel4 hgr4 hat4;have z4:=hbel4.size;(try simp only [Lo,Lg] at hown4);have B4:=(Blk.alloc (Blk.drew h3) (.cells (ym (chG st 32)).toArray 64)).below hbel4 (Nat.lt_succ_self g);have c42:=B4.cell 2;have f42:=B4.frozen 2;simp only [jh,La,Lb,Lc] at c42)
   all_goals go_wp2
   all_goals go_meet
   all_goals exact PaT.put BS ((tw.alloc (Lr hgl) _).drew) hown4 hbel4 hO1l' hO1s
  case rest =>
   clear C2 C3 C4 F2 tw;clear h3 h5;have hpx:=hcut;clear hcut;go_wp2
   go_loopw [25] (fun x wr=>∃ j:Nat,j<=s.size/\x = .int .i64 j/\PaT w g nb v st true (O1++(s.data.toList.take j).map (chG st)) wr) (fun x _=>s.size-(intOf x).toNat)
   case atStart=>exact ⟨0,Nat.zero_le _,rfl,by rw [<- H0.out];exact hpx⟩
   case round =>
    clear hpx;obtain ⟨j,hj,rfl,A6,c6,Bx,ox,tx⟩:=hrel
    by_cases hlt:j<s.size
    ·have hx:=HX.out j hlt;have HTj:=Lh (HT.out j hlt);have hlen:=HL.out j;have HQl:Hid ((O1++(s.data.toList.take (j+1)).map (chG st)).length=(O1++(s.data.toList.take j).map (chG st)).length+1):=Lh (by rw [HTj.out,Lf];rfl);have HQs:Hid (qi (O1++(s.data.toList.take (j+1)).map (chG st))=qi (O1++(s.data.toList.take j).map (chG st))++ym (chG st s[j])):=Lh (by rw [HTj.out,kF,qbe]);clear HTj HT HX HE H0 HF HL;generalize O1++(s.data.toList.take j).map (chG st)=OJ at *
     generalize s[j]=cj at *
     have C2:=Bx.cell 2;have C3:=Bx.cell 3;have F2:=Bx.frozen 2;simp only [jh,La,Lb,Lc] at C2 C3;have hown:=(World.ownsRow.alloc (qb ox (Le wr.heap.size wr).drew) (.cells (ym (chG st cj)).toArray 64))
     have BS:=(Blk.alloc Bx (.cells (ym (chG st cj)).toArray 64)).drew;have hgr:g<wr.heap.size:=Bx.lt;have hwj:IntKind.i64.wrap ((j:Int)+1)=(j:Int)+1:=by rw [Lx];omega
     have hj0:(0:Int)<=(j:Int)+1:=by omega
     have hj1:(j:Int)+1<=s.size:=by omega
     have hj2:(j:Int)<=(j:Int)+1:=by omega
     have hj3:((j:Int)+1).toNat=j+1:=by omega
     have tX:Below g w (wr.alloc (.cells (ym (chG st cj)).toArray 64)).drew:=(tx.alloc (Lr hgr) _).drew
     go_upto_region 5 with fail
     go_region_law (refine jZ rfl _ _ _ rfl qbz ((g+1)) _ rfl (hown) _ _ rfl ((qe (xs:=ym (chG st cj)) rfl rfl)) (rfl) ?_;intro A4 c4 w4 hown4 hbel4 hgr4 hat4;have z4:=hbel4.size;(try simp only [Lo,Lg] at hown4);have B4:=(Blk.alloc (Blk.drew Bx) (.cells (ym (chG st cj)).toArray 64)).below hbel4 (Nat.lt_succ_self g);have c42:=B4.cell 2;have f42:=B4.frozen 2;simp only [jh,La,Lb,Lc] at c42)
     all_goals go_wp2
     all_goals exact ⟨⟨j+1,by omega,by go_num,PaT.put BS tX hown4 hbel4 HQl.out HQs.out⟩,by simp [intOf];omega⟩
    ·obtain rfl:j=s.size:=by omega
     have HQ:Hid (Q=O1++(s.data.toList.take s.size).map (chG st)):=Lh (by rw [HE.out,HZ.out]);rw [<- HQ.out] at Bx ox;clear HT HX HE H0 HL HQ;have F4:=Bx.frozen 4;have C4:=Bx.cell 4;simp only [jh,La,Lb,Lc] at C4;go_wp2;go_end0;have h4':=HF.out (wr.setCell ⟨g,4,none⟩ (.bool true)) ⟨A6,c6,by have:=Bx.set_ 4 (.bool true);simpa [jh] using this,zZ ox (Nat.lt_succ_self g) _,tx.setCell (Ld g) _⟩;exact ⟨rfl,h4'.1,h4'.2⟩
theorem jp {s:ByteArray} (h:s.size≠0):s.toList.isEmpty=false:=by
 rw [ByteArray.toList_eq,List.isEmpty_eq_false_iff];intro e;have:=congrArg List.length e;exact h (by simpa using this)
def azC (c:UInt8):Bool:=decide (97<=c.toNat)&&decide (c.toNat<=122)
theorem qhR (s:ByteArray) (hs:s.size<=1000000000) (w:World):Calls prog 185 #[.string s] w (qh (.bool (azB s)) w):=by
 have HF:Hid (azB s=(!(s.data.toList.isEmpty)&&(s.data.toList.drop 0).all azC)):=Lh rfl;have HS:Hid (∀ j (h:j<s.size),(s.data.toList.drop j).all azC=(azC s[j]&&(s.data.toList.drop (j+1)).all azC)):=Lh fun j h=>by
  rw [Ls (by simpa using h),List.all_cons]
  rfl
 have HE:Hid ((s.data.toList.drop s.size).all azC=true):=Lh (by rw [Lv L1];rfl);have HZ:Hid (s.size=0->s.toList.isEmpty=true/\s.data.toList.isEmpty=true):=Lh fun h=>by
  have:s.data.toList=[]:=List.length_eq_zero_iff.1 (by simpa using h);rw [ByteArray.toList_eq,this];exact ⟨rfl,rfl⟩
 have HY:Hid (s.size≠0->s.toList.isEmpty=false/\s.data.toList.isEmpty=false):=Lh fun h=>by
  refine ⟨jp h,?_⟩;rw [List.isEmpty_eq_false_iff];intro e;have:=congrArg List.length e;exact h (by simpa using this)
 generalize azB s=R at *
 go_enter func185,ntmps185
 go_wp2
 go_loopw [6] (fun x wr=>∃ j:Nat,j<=s.size/\x = .int .i64 j/\Below w.heap.size w wr/\Hid (R=(!(s.data.toList.isEmpty)&&(s.data.toList.drop j).all azC))) (fun x _=>s.size-(intOf x).toNat)
 case atStart=>exact ⟨0,Nat.zero_le _,rfl,Le _ _,HF⟩
 case round =>
  obtain ⟨j,hj,rfl,hbel,HR⟩:=hrel
  by_cases hlt:j<s.size
  ·have HSj:=Lh (HS.out j hlt);have hb:=UInt8.toNat_lt s[j];have hne:=(HY.out L0).2;have HN:Hid (azC s[j]=true->R=(!(s.data.toList.isEmpty)&&(s.data.toList.drop (j+1)).all azC)):=Lh fun h=>by rw [HR.out,HSj.out,h,Bool.true_and]
   have HM:Hid (azC s[j]=false->R=false):=Lh fun h=>by rw [HR.out,HSj.out,h,Bool.false_and,Bool.and_false]
   clear HR HSj HS HE HF HZ HY hne;unfold azC at HN HM;generalize hc:s[j]=c at *
   by_cases h1:c.toNat<97
   ·have i1:decide ((c.toNat:Int)<97)=true:=Ll L0;have HR2:=Lh (HM.out (by rw [Lk L0];rfl));go_wp2;go_ret;exact ⟨by rw [HR2.out];rfl,hbel⟩
   ·have i1:decide ((c.toNat:Int)<97)=false:=Lk L0
    by_cases h2:122<c.toNat
    ·have HR2:=Lh (HM.out (by rw [Ll (show 97<=c.toNat by omega),Lk L0];rfl));go_wp2;go_ret;exact ⟨by rw [HR2.out];rfl,hbel⟩
    ·have HR2:=Lh (HN.out (by rw [Ll (show 97<=c.toNat by omega),Ll (show c.toNat<=122 by omega)];rfl));go_wp2;exact ⟨⟨j+1,by omega,by go_num,hbel,HR2⟩,by simp [intOf];omega⟩
  ·obtain rfl:j=s.size:=by omega
   have HR2:=Lh (HR.out.trans (by rw [HE.out,Bool.and_true]))
   by_cases h0:s.size=0
   ·obtain ⟨e1,e2⟩:=HZ.out h0;go_wp2;go_ret;exact ⟨by rw [HR2.out,e2];rfl,hbel⟩
   ·obtain ⟨e1,e2⟩:=HY.out h0;go_wp2;go_ret;exact ⟨by rw [HR2.out,e2];rfl,hbel⟩
def ql9:Option (ByteArray × Nat)->Value
 | some (s,n)=>.tuple #[.string s,.int .i64 n]
 | none=>.tuple #[.string ⟨#[]⟩,.int .i64 0]
def qaM (t:List ByteArray) (j:Nat):ByteArray:=⟨((t.take j).flatMap fun s=>s.data.toList).toArray⟩
theorem qeD {t:List ByteArray} {j:Nat} (h:j<t.length):qaM t (j+1)=qaM t j++t[j]:=by
 unfold qaM
 apply ByteArray.ext
 rw [ByteArray.data_append]
 apply Array.toList_inj.1
 rw [(List.take_append_getElem h).symm,List.flatMap_append]
 simp
theorem qdr {α:Type} {p:α->Bool} {t:List α} {j:Nat} (hj:j<=t.length) (h : ∀ k (hk:k<t.length),k<j->p t[k]=true) (hs : ∀ hk:j<t.length,p t[j]=false):t.takeWhile p=t.take j:=by
 have e:t=t.take j++t.drop j:=(List.take_append_drop _ _).symm
 conv=>lhs;rw [e]
 rw [List.takeWhile_append_of_pos fun x hx=>by
  obtain ⟨k,hk,rfl⟩:=List.mem_iff_getElem.1 hx;rw [List.getElem_take];rw [Lu] at hk
  exact h k L0 L0]
 rcases Nat.lt_or_ge j t.length with hlt | hge
 ·rw [Ls hlt,List.takeWhile_cons_of_neg (by rw [hs hlt];simp),List.append_nil]
 ·rw [Lv hge]
  simp
theorem qmk {t:List ByteArray} {j:Nat} (hj:j<=t.length) (h : ∀ k (hk:k<t.length),k<j->jQ t[k]=true) (hs : ∀ hk:j<t.length,jQ t[j]=false) :
  ya t=if j=0 then none else if t[j]? = some qaO then some (qaM t j,j+2) else none:=by
 unfold ya;rw [qdr hj h hs,Lu,Nat.min_eq_left hj]
 rfl
theorem qjc {t:List ByteArray} {j:Nat} (hj:j<=t.length) (h : ∀ k (hk:k<t.length),k<j->jQ t[k]=true):(qaM t j).size=j:=by
 induction j with
 | zero=>rfl
 | succ j ih =>
  have h1:=h j L0 L0;unfold jQ at h1;rw [Bool.and_eq_true,decide_eq_true_eq] at h1;rw [qeD L0,ByteArray.size_append,ih L0 fun k hk hkj=>h k hk L0,h1.2]
theorem qct {a b:ByteArray} {l:List UInt8} (hb:b.data.toList=l):(a.toList==l)=decide (a=b):=by rw [<- hb,<- ByteArray.toList_eq,jO]
theorem literal_ (l:List ByteArray) (A:Option Addr) (n c B g nb:Nat) (w:World) (hsz : ∀ s∈l,s.size<=1000) (hl:l.length<=1000000) (rd:Rd w B 1 A n (sv l)) (hB:B<=w.heap.size)
  (hg:g<w.heap.size) (C0:w.cell? ⟨g,0,none⟩=some (.map (some nb))) (hset:SetM w nb 200 jF) :
  Calls prog 178 #[.pointer (some ⟨g,0,none⟩),.slice A n c] w (qh (ql9 (yl l)) w):=by
 have hn:l.length=n:=by have:=rd.1;simp [sv] at this;omega
 have hzz:w.heap.size<=w.heap.size:=Ld _
 cases l with
 | nil =>
  obtain rfl:n=0:=by simpa using hn.symm
  clear rd hset C0
  go_enter func178,ntmps178
  go_wp2;go_ret2;exact ⟨rfl,Le _ _⟩
 | cons a t =>
  have hn1:0<n:=by rw [<- hn];simp
  have ht:t.length+1=n:=by simpa using hn
  obtain ⟨b,o,rfl,hb,hca⟩:=rd.at_ hn1;have ha:w.cell? ⟨b,o,none⟩=some (.string a):=hca;have han : ∀ x:Near w.heap.size w,x.w.cell? ⟨b,o,none⟩=some (.string a):=fun x=>(x.h.cell (by show b<_;omega)).trans ha
  have h0n : ∀ x:Near w.heap.size w,x.w.cell? ⟨g,0,none⟩=some (.map (some nb)):=fun x=>(x.h.cell hg).trans C0
  have hHL : ∀ x:Near w.heap.size w,(Instr.lookup 182 (.map (some nb)) (.string a) false).run prog x.w = .ok (.bool (jF a)) x.w:=fun x=>(hset.below x.h).look a (Lj (hsz a L1) L2)
  have HP:=Lh (qhR a (Lj (hsz a L1) L2));have q1:=qct (a:=a) (b:=vD) (l:=[119,111,114,100]) rfl;have q2:=qct (a:=a) (b:=qS) (l:=[115,112,101,108,108,101,100]) rfl;have haz:=azB a
  by_cases hw:a=vD
  ·rw [Ll hw] at q1;have hne:a≠qS:=by rw [hw];decide +kernel
   rw [Lk hne] at q2;have haz1:azB a=true:=by rw [hw];decide +kernel
   have hrs1:jF a=true:=by rw [hw];decide +kernel
   rw [hrs1] at hHL;rw [haz1] at HP;have e1:azB (t.headD ⟨#[]⟩)=false->yl (a::t)=none:=fun h=>by
    rw [yl,if_neg (by rw [h];simp),if_neg (by rw [hrs1];simp),if_neg hne]
   cases t with
   | nil =>
    obtain rfl:n=1:=by simpa using ht.symm
    rw [e1 L4];clear e1 hne haz1 hrs1 hset hsz hw hca rd haz
    go_enter func178,ntmps178
    go_upto_region 5 with fail
    refine qc w.heap.size ?_;(repeat (go_big_quiet_step ((go_at_call 185;exact Calls.near _ hzz (HP.out _)))));refine wpQuiet_nil ?_;intro x1;have ha1:=han x1;have hb1:=x1.h;generalize x1.w=w1 at *
    go_wp2;go_ret2;exact ⟨rfl,hb1⟩
   | cons d t' =>
    have hn2:1<n:=by rw [<- ht];simp
    have hcd:=rd.at_ hn2;obtain ⟨b',o',e',_,hcd⟩:=hcd;simp only [Option.some.injEq,Addr.mk.injEq,and_true] at e';obtain ⟨rfl,rfl⟩:=e';have hd:w.cell? ⟨b,o+1,none⟩=some (.string d):=hcd;have HD:=Lh (qhR d (Lj (hsz d L1) L2));rw [List.headD_cons] at e1
    cases hz:azB d with
    | true =>
     have e2:yl (a::d::t')=some (d,2):=by rw [yl,List.headD_cons,if_pos ⟨hw,hz⟩]
     rw [e2];rw [hz] at HD;clear e1 e2 hne haz1 hrs1 hset hsz hw hca hcd rd haz hz
     go_enter func178,ntmps178
     go_wp2_with (go_at_call 185;refine (HD.out _).mono ?_;rintro e w1 ⟨rfl,hbel1⟩;have hd1:=(hbel1.cell (p:=⟨b,o+1,none⟩) (by show b<_;omega)).trans hd)
     go_ret2;exact ⟨rfl,hbel1⟩
    | false =>
     rw [e1 hz];rw [hz] at HD;clear e1 hne haz1 hrs1 hset hsz hw hca hcd rd haz hz
     go_enter func178,ntmps178
     go_upto_region 5 with (go_at_call 185;refine (HD.out _).mono ?_;rintro e w1 ⟨rfl,hbel1⟩)
     have hzz1:w.heap.size<=w1.heap.size:=hbel1.size;have han1 : ∀ x:Near w.heap.size w1,x.w.cell? ⟨b,o,none⟩=some (.string a):=fun x=>han ⟨x.w,hbel1.trans x.h⟩
     have h0n1 : ∀ x:Near w.heap.size w1,x.w.cell? ⟨g,0,none⟩=some (.map (some nb)):=fun x=>h0n ⟨x.w,hbel1.trans x.h⟩
     have hHL1 : ∀ x:Near w.heap.size w1,(Instr.lookup 182 (.map (some nb)) (.string a) false).run prog x.w = .ok (.bool true) x.w:=fun x=>hHL ⟨x.w,hbel1.trans x.h⟩
     refine qc w.heap.size ?_;(repeat (go_big_quiet_step ((go_at_call 185;exact Calls.near _ hzz1 (HP.out _)))));refine wpQuiet_nil ?_;intro x1;have ha1:=han1 x1;have hb1:=hbel1.trans x1.h;generalize x1.w=w2 at *
     go_wp2;go_ret2;exact ⟨rfl,hb1⟩
  ·rw [Lk hw] at q1;have e1:yl (a::t)=if azB a=true/\jF a=false then some (a,1) else if a=qS then ya t else none:=if_neg fun h=>hw h.1
   by_cases hlit:azB a=true/\jF a=false
   ·rw [e1,if_pos hlit];rw [hlit.1] at HP;rw [hlit.2] at hHL;clear e1 hlit q2 hset hsz hw hca rd
    go_enter func178,ntmps178
    go_upto_region 5 with fail
    refine qc w.heap.size ?_;(repeat (go_big_quiet_step ((go_at_call 185;exact Calls.near _ hzz (HP.out _)))));refine wpQuiet_nil ?_;intro x1;go_wp2;go_ret2;exact ⟨rfl,x1.h⟩
   ·rw [e1,if_neg hlit];obtain ⟨RES,hRES⟩ : ∃ x,x=if a=qS then ya t else none:=⟨_,rfl⟩
    rw [<- hRES];replace hRES:=Lh hRES;have hcs:azB a=false∨(azB a=true/\jF a=true):=by
     cases h1:azB a with
     | false=>exact .inl rfl
     | true =>
      cases h2:jF a with
      | true=>exact .inr ⟨rfl,rfl⟩
      | false=>exact absurd ⟨h1,h2⟩ hlit
    have hsz':=Lh hsz;clear e1 hlit hset hsz hw hca haz
    go_enter func178,ntmps178
    go_upto_region 5 with fail
    go_cut [30] (fun v wx=>v = .bool false/\Below w.heap.size w wx)
    case first =>
     clear hsz' rd q2
     rcases hcs with hz | ⟨hz,hr⟩
     ·rw [hz] at HP;clear hHL hz;refine qc w.heap.size ?_;(repeat (go_big_quiet_step ((go_at_call 185;exact Calls.near _ hzz (HP.out _)))));refine wpQuiet_nil ?_;intro x1;go_wp2;go_meet;exact ⟨rfl,x1.h⟩
     ·rw [hz] at HP;rw [hr] at hHL;clear hz hr;refine qc w.heap.size ?_;(repeat (go_big_quiet_step ((go_at_call 185;exact Calls.near _ hzz (HP.out _)))));refine wpQuiet_nil ?_;intro x1;go_wp2;go_meet;exact ⟨rfl,x1.h⟩
    case rest =>
     obtain ⟨rfl,hbc⟩:=hcut;clear han h0n hHL HP hcs C0 hg;have ha1:=(hbc.cell (p:=⟨b,o,none⟩) (by show b<_;omega)).trans ha
     by_cases hsp:a=qS
     ·rw [Ll hsp] at q2;replace hRES:=Lh (hRES.out.trans (if_pos hsp));have HLt:Hid (∀ k (hk:k<t.length),t[k].size<=1000):=Lh fun k hk=>hsz'.out _ (List.mem_cons_of_mem _ (Lt hk))
      have HC:Hid (∀ k (hk:k<t.length) w',Below w.heap.size w w'->w'.cell? ⟨b,o+(k+1),none⟩=some (.string t[k])):=Lh fun k hk w' hw=>by
       obtain ⟨b',o',e',_,hcd⟩:=rd.at_ (k:=k+1) L0;simp only [Option.some.injEq,Addr.mk.injEq,and_true] at e';obtain ⟨rfl,rfl⟩:=e';refine (hw.cell (by show b<_;omega)).trans (hcd.trans ?_)
       show (sv (a::t))[k+1]? = _
       simp [sv,hk]
      have HS:Hid (∀ k (hk:k<t.length),qaM t (k+1)=qaM t k++t[k]):=Lh fun k hk=>qeD hk
      have HSt:Hid (∀ j,j<=t.length->(∀ k (hk:k<t.length),k<j->jQ t[k]=true)->(∀ hk:j<t.length,jQ t[j]=false)->ya t=if j=0 then none else if t[j]? = some qaO then some (qaM t j,j+2) else none):=Lh fun j h1 h2 h3=>qmk h1 h2 h3
      have HSz:Hid (∀ j,j<=t.length->(∀ k (hk:k<t.length),k<j->jQ t[k]=true)->(qaM t j).size=j):=Lh fun j h1 h2=>qjc h1 h2
      rw [<- hRES.out] at HSt;clear rd hsz' hsp q1 ha;have hl':t.length<=1000000:=by simp at hl;omega
      have ht':=Lh ht;clear hn hl ht;go_wp2
      go_loopw [7,6] (fun x y wr=>∃ j:Nat,j<=t.length/\x = .int .i64 (j+1:Nat)/\y = .string (qaM t j)/\Below w.heap.size w wr/\Hid (∀ k (hk:k<t.length),k<j->jQ t[k]=true)) (fun x _ _=>n-(intOf x).toNat)
      case atStart=>exact ⟨0,Nat.zero_le _,rfl,rfl,hbc,Lh fun k hk h=>absurd h (Nat.not_lt_zero k)⟩
      case round =>
       clear hbc;obtain ⟨j,hj,rfl,rfl,hbel,HA⟩:=hrel;have hz:=HSz.out j hj HA.out
       by_cases hlt:j<t.length
       ·have hc:=HC.out j hlt wr hbel;have HCn:=Lh (HS.out j hlt);have hxs:=HLt.out j hlt;have HSj:=Lh (HSt.out j hj HA.out);have HAn:Hid (jQ t[j]=true->∀ k (hk:k<t.length),k<j+1->jQ t[k]=true):=Lh fun h k hk hkj=>by
         rcases Nat.lt_or_ge k j with h' | h'
         ·exact HA.out k hk h'
         ·obtain rfl:k=j:=by omega
          exact h
        have HP:=Lh (qhR t[j] (Lj hxs L2));have hqe:=qct (a:=t[j]) (b:=qaO) (l:=[101,110,100]) rfl;have htj:t[j]? = some t[j]:=List.getElem?_eq_getElem hlt;have hjn:j+1<n:=by have:=ht'.out;omega
        by_cases hone:jQ t[j]=true
        ·have HA2:=Lh (HAn.out hone);have ho:=hone;unfold jQ at ho;rw [Bool.and_eq_true,decide_eq_true_eq] at ho;obtain ⟨ho1,ho2⟩:=ho;have hne:t[j]≠qaO:=by rintro e;rw [e] at ho2;cases ho2
         rw [Lk hne] at hqe;rw [ho1] at HP;clear HSj HAn HSt hone hne ho1 HS HSz HC htj;generalize t[j]=x at *
         generalize qaM t j=CJ at *
         go_wp2_with (go_at_call 185;refine (HP.out _).mono ?_;rintro e w1 ⟨rfl,hbel1⟩;have hc1:=(hbel1.cell (p:=⟨b,o+(j+1),none⟩) (by show b<wr.heap.size;have:=hbel.size;omega)).trans hc)
         exact ⟨⟨j+1,by omega,by go_num,by rw [HCn.out],hbel.trans (hbel1.mono hbel.size),HA2⟩,by simp [intOf];omega⟩
        ·have HSj2:=Lh (HSj.out (fun _=>by simpa using hone));rw [htj] at HSj2
         by_cases hend:t[j]=qaO/\j≠0
         ·have he:(qaM t j).toList.isEmpty=false:=jp L0;have HR2:Hid (RES=some (qaM t j,j+2)):=Lh (by rw [HSj2.out,if_neg hend.2,if_pos (by rw [hend.1])]);rw [Ll hend.1] at hqe;clear HSj HSj2 HAn HSt hone HS HSz HC htj HP HCn hend;generalize t[j]=x at *
          generalize qaM t j=CJ at *
          go_wp2;go_ret2;exact ⟨by rw [HR2.out];show Ending.returned (.tuple #[.string CJ,.int .i64 ((j:Int)+1+1)]) = .returned (.tuple #[.string CJ,.int .i64 ((j+2:Nat):Int)]);rw [show ((j+2:Nat):Int)=(j:Int)+1+1 by omega],hbel⟩
         ·have HR2:Hid (RES=none):=Lh (by
           rw [HSj2.out]
           by_cases h0:j=0
           ·rw [if_pos h0]
           ·rw [if_neg h0,if_neg (fun e=>hend ⟨by injection e,h0⟩)])
          by_cases hxe:t[j]=qaO
          ·have h0:j=0:=Classical.not_not.1 fun h=>hend ⟨hxe,h⟩
           have he:(qaM t j).toList.isEmpty=true:=by rw [h0,ByteArray.toList_eq];rfl
           rw [Ll hxe] at hqe;have hx3:t[j].size=3:=by rw [hxe];rfl
           have hxp:azB t[j]=true:=by rw [hxe];decide +kernel
           rw [hxp] at HP;have hx1:((t[j].size:Int) != 1)=true:=by rw [hx3];rfl
           clear HSj HSj2 HAn HSt hone HS HSz HC htj HCn hend hxe hxp h0 hx3;generalize t[j]=x at *
           generalize qaM t j=CJ at *
           go_wp2_with (go_at_call 185;refine (HP.out _).mono ?_;rintro e w1 ⟨rfl,hbel1⟩;have hc1:=(hbel1.cell (p:=⟨b,o+(j+1),none⟩) (by show b<wr.heap.size;have:=hbel.size;omega)).trans hc)
           go_ret2;exact ⟨by rw [HR2.out];rfl,hbel.trans (hbel1.mono hbel.size)⟩
          ·rw [Lk hxe] at hqe;have hone':azB t[j]=false∨(azB t[j]=true/\t[j].size≠1):=by
            cases h1:azB t[j] with
            | false=>exact .inl rfl
            | true =>
             refine .inr ⟨rfl,fun h2=>hone ?_⟩;unfold jQ;rw [h1,Ll h2]
             rfl
           clear HSj HSj2 HAn HSt hone HS HSz HC htj HCn hend hxe;generalize t[j]=x at *
           generalize qaM t j=CJ at *
           rcases hone' with hz | ⟨hz,hx1⟩
           ·rw [hz] at HP;clear hz
            go_wp2_with (go_at_call 185;refine (HP.out _).mono ?_;rintro e w1 ⟨rfl,hbel1⟩)
            go_ret2;exact ⟨by rw [HR2.out];rfl,hbel.trans (hbel1.mono hbel.size)⟩
           ·rw [hz] at HP;have hx1':((x.size:Int) != 1)=true:=Ln.2 L0;clear hz
            go_wp2_with (go_at_call 185;refine (HP.out _).mono ?_;rintro e w1 ⟨rfl,hbel1⟩;have hc1:=(hbel1.cell (p:=⟨b,o+(j+1),none⟩) (by show b<wr.heap.size;have:=hbel.size;omega)).trans hc)
            go_ret2;exact ⟨by rw [HR2.out];rfl,hbel.trans (hbel1.mono hbel.size)⟩
       ·obtain rfl:j=t.length:=by omega
        have hjn : ¬ t.length+1<n:=by have:=ht'.out;omega
        have HR2:Hid (RES=none):=Lh (by
         rw [HSt.out t.length (Ld _) HA.out (fun hk=>absurd hk (Nat.lt_irrefl _))]
         split
         ·rfl
         ·rw [List.getElem?_eq_none (Ld _),if_neg L1])
        clear HSt HS HSz HC HA HLt;generalize qaM t t.length=CJ at *
        go_wp2;go_ret2;exact ⟨by rw [HR2.out];rfl,hbel⟩
     ·rw [Lk hsp] at q2;replace hRES:=Lh (hRES.out.trans (if_neg hsp));clear rd hsz' hsp q1 ha;go_wp2;go_ret2;exact ⟨by rw [hRES.out];rfl,hbc⟩
end Go.Proofs.YtbogmeeijdaijaaGreatDoor
