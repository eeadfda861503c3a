/- Joined: Lvh, Lvi, Tail, Lvj, Lvk, Ref1, Ref2, Rsg1, Rsg2, Rp1. -/
import Derived.Test.YticbpkghcglgkaaGreatDoorVBQ
import Derived.Test.YticbpkghcglgkaaGreatDoorVEF
set_option linter.unusedVariables false
set_option linter.unusedSimpArgs false
set_option linter.unnecessarySimpa false
set_option maxHeartbeats 4000000
namespace Go.Proofs.YticbpkghcglgkaaGreatDoor
open Go.Proofs.Tryz Go.RowKit
set_option maxRecDepth 20000
section
variable {base G c : Nat} {v : Vw} {rs : List RowM} {A : Option Addr} {X w1 w2 : World}
theorem ED.ob_lt (h:ED base G v rs A c X) : ∀ y∈obR G A rs,∀ b,y=some b->b<X.heap.size:=fun y hy b hb=>by
 subst hb
 unfold obR at hy
 rcases List.mem_cons.1 hy with hy | hy
 ·injection hy with hy;have:=h.blk.lt;omega
 ·rcases List.mem_cons.1 hy with hy | hy
  ·exact (vB h.rows b hy.symm).2
  ·obtain ⟨x,hx,e⟩:=List.mem_map.1 hy
   exact (vB (h.gl x hx) b e).2
theorem ED.addnil (h:ED base G v rs A c X) (hb1:Below X.heap.size X w1) {A2:Option Addr} {c2 n m:Nat} (hn:n=rs.length+1) (hown:w2.ownsRow base 56 1 (.slice A2 n c2) n (zQ rs++[.slice none 0 0]))
  (hgr:w1.grownBy w2 (Value.slice A m c).ownBlock) (hat:(Value.slice A2 n c2).ownBlock=(Value.slice A m c).ownBlock∨(Value.slice A2 n c2).ownBlock=some w1.heap.size) :
  ED base G ⟨v.width,v.height,rls rs++[[]],v.row,v.col,v.vis⟩ (rs++[qaI]) A2 c2 (w2.setCell ⟨G,2,none⟩ (.slice A2 n c2)):=by
 subst hn
 rw [qC] at hgr
 rw [qC,qC] at hat
 have h1:=h.below hb1
 obtain ⟨hd1,hd2⟩:=List.pairwise_cons.1 h.dj
 obtain ⟨hd3,hd4⟩:=List.pairwise_cons.1 hd2
 have hlt:=h1.ob_lt
 have hnew : ∀ y∈obR G A rs,Dj (obS A) y->Dj (obS A2) y:=fun y hy hd=>(Dj.new hd.symm hat (hlt y hy)).symm
 have dG:Dj (some G) (obS A2):=(hnew _ (by simp [obR]) (hd1 _ (by simp)).symm).symm
 have len1:(rs++[qaI]).length=rs.length+1:=by simp
 have hblk:=((h1.blk.grown hgr fun e=>hd1 (obS A) (by simp) G rfl e.symm).set_ 2 (.slice A2 (rs.length+1) c2))
 refine ⟨by rw [len1];exact hblk,?_,fun x hx=>?_,by unfold rls;rw [List.map_append];rfl,h.lo,?_⟩
 ·rw [len1,qeN]
  exact ownsRow_setCell_other (a:=⟨G,2,none⟩) hown (fun e=>by rw [qC] at e;exact dG G rfl e) _
 ·rcases List.mem_append.1 hx with hx | hx
  ·have hm:=List.mem_map_of_mem (f:=fun x=>obS x.A) hx
   exact ownsRow_setCell_other (a:=⟨G,2,none⟩) ((h1.gl x hx).kept hgr (by rw [qC];exact (hd3 _ hm).symm.ne)) (fun e=>by
    rw [qC] at e
    exact hd1 _ (List.mem_cons_of_mem _ hm) G rfl e) _
  ·rw [List.mem_singleton.1 hx]
   exact zY _ _ _ _
 ·unfold obR
  rw [List.map_append,<- List.cons_append,<- List.cons_append]
  refine qeX (List.pairwise_cons.2 ⟨fun y hy=>?_,List.pairwise_cons.2 ⟨fun y hy=>hnew y (by unfold obR;exact List.mem_cons_of_mem _ (List.mem_cons_of_mem _ hy)) (hd3 y hy),hd4⟩⟩) (fun y _ j h1 h2=>by cases h2)
  rcases List.mem_cons.1 hy with rfl | hy
  ·exact dG
  ·exact hd1 y (List.mem_cons_of_mem _ hy)
theorem qjd {w:World} {e:TypeId} {n m:Nat} {xs:List Value} (h:w.ownsRow base e 1 (.slice A n c) n xs) (hm:m<=n) (hm0:0<m):w.ownsRow base e 1 (.slice A m c) m (xs.take m):=by
 refine ⟨by rw [List.length_take,h.1];omega,?_⟩
 rcases h.2 with ⟨_,h0⟩ | ⟨g,cap,cur,h1,h2,h3,h4,h5,h6,h7⟩
 ·omega
 ·injection h1 with e1 _ e2
  subst e1 e2
  refine .inr ⟨g,c,cur,rfl,h2,h3,by omega,h5,h6,?_⟩
  rw [<- h7,List.take_take]
  congr 1
  omega
theorem ED.cut (h:ED base G v rs A c X) {m:Nat} (hm:m<=rs.length) (hm0:0<m):ED base G ⟨v.width,v.height,(rls rs).take m,v.row,v.col,v.vis⟩ (rs.take m) A c (X.setCell ⟨G,2,none⟩ (.slice A m c)):=by
 obtain ⟨hd1,hd2⟩:=List.pairwise_cons.1 h.dj
 have len1:(rs.take m).length=m:=by rw [List.length_take];omega
 have hblk:=h.blk.set_ 2 (.slice A m c)
 refine ⟨by rw [len1];exact hblk,?_,fun x hx=>?_,by unfold rls;rw [List.map_take],h.lo,?_⟩
 ·rw [len1]
  have:=qjd h.rows hm hm0
  rw [show (zQ rs).take m=zQ (rs.take m) by unfold zQ;rw [List.map_take]] at this
  exact ownsRow_setCell_other (a:=⟨G,2,none⟩) this (fun e=>by rw [qC] at e;exact hd1 (obS A) (by simp) G rfl e) _
 ·have hx':=List.mem_of_mem_take hx
  exact ownsRow_setCell_other (a:=⟨G,2,none⟩) (h.gl x hx') (fun e=>by
   rw [qC] at e
   exact hd1 _ (List.mem_cons_of_mem _ (List.mem_map_of_mem (f:=fun x=>obS x.A) hx')) G rfl e) _
 ·have:obR G A (rs.take m)=(obR G A rs).take (m+2):=by
   unfold obR
   rw [List.take_succ_cons,List.take_succ_cons,List.map_take]
  rw [this]
  exact h.dj.sublist (List.take_sublist _ _)
end
theorem fit_drop {l:List Gl} {q:Nat} (h:q<l.length) (w:Int):qaT w (l.drop q)=if w<(glW l[q]:Int) then 0 else qaT (w-glW l[q]) (l.drop (q+1))+1:=by
 rw [List.drop_eq_getElem_cons h,qaT]
theorem qkm {l:List Gl} {q:Nat} (h:q<l.length):vM (l.take (q+1))=vM (l.take q)+glW l[q]:=by
 unfold vM glW
 rw [qcw h,List.length_take,List.length_take]
 cases l[q].wide
 ·simp only [Bool.toNat_false,Bool.false_eq_true,if_false];omega
 ·simp only [Bool.toNat_true,if_true];omega
theorem rowW_one (g:Gl):vM [g]=glW g:=by
 unfold vM kw glW
 cases h:g.wide <;> simp [h]
theorem rowW_le (l:List Gl):vM l<=2 * l.length:=by
 unfold vM
 have:=qh4 l
 omega
theorem pad_rows (rows:List (List Gl)) (m h:Nat) (hm:rows.length<=m) (hh:h<=m):(rows++List.replicate (m-rows.length) []).take h=(List.range h).map fun i=>rows.getD i []:=by
 refine List.ext_getElem (by rw [List.length_take,List.length_append,List.length_replicate,List.length_map,List.length_range];omega) fun i h1 h2=>?_
 rw [List.length_map,List.length_range] at h2
 rw [List.getElem_take,List.getElem_map,List.getElem_range,List.getElem_append,List.getD_eq_getElem?_getD]
 split
 ·rw [List.getElem?_eq_getElem (by assumption)];rfl
 ·rw [List.getElem_replicate,List.getElem?_eq_none (by omega)];rfl
def SzA (base G:Nat) (W H vr vc:Int) (vis:Bool) (rows:List (List Gl)) (X0:World) (m:Nat) (X:World):Prop :=
 rows.length<=m/\∃ rs A c,rs.length=m/\rls rs=rows++List.replicate (m-rows.length) []/\ED base G ⟨W,H,rls rs,vr,vc,vis⟩ rs A c X/\Below base X0 X/\X0.heap.size+1<=X.heap.size
def SzB (base G:Nat) (W H vr vc:Int) (vis:Bool) (R:List (List Gl)) (A:Option Addr) (c:Nat) (X0:World) (k:Nat) (X:World):Prop :=
 ∃ rs,rs.length=R.length/\rls rs=(R.take k).map (kr W)++R.drop k/\ED base G ⟨W,H,rls rs,vr,vc,vis⟩ rs A c X/\Below base X0 X
theorem SzB.next {base G:Nat} {W H vr vc:Int} {vis:Bool} {R:List (List Gl)} {A:Option Addr} {c:Nat} {X0 X w1:World} {k:Nat} {rs:List RowM} (hl:rs.length=R.length) (hr:rls rs=(R.take k).map (kr W)++R.drop k) (hE:ED base G ⟨W,H,rls rs,vr,vc,vis⟩ rs A c X) (hb:Below base X0 X) (hk:k<R.length) (hbase:base<=X.heap.size) {G1:Nat} (hA:A=some ⟨G1,0,none⟩)
  {A6:Option Addr} {c6:Nat} (hb1:Below X.heap.size X w1) (hown:w1.ownsRow X.heap.size 86 3 (.slice A6 (kr W R[k]).length c6) (kr W R[k]).length (qi (kr W R[k]))) :
  SzB base G W H vr vc vis R A c X0 (k+1) (w1.setCell ⟨G1,k,none⟩ (.slice A6 (kr W R[k]).length c6)):=by
 have hk':k<rs.length:=by omega
 have hp:=EDx.put (EDx.start hE hk') hk' hbase hA hb1 hown
 have e:rls (rs.set k ⟨kr W R[k],A6,c6⟩)=(R.take (k+1)).map (kr W)++R.drop (k+1):=by
  have l0:((R.take k).map (kr W)).length=k:=by rw [List.length_map,List.length_take];omega
  rw [qfd,hr,List.set_append_right _ _ (by omega),l0,Nat.sub_self,List.drop_eq_getElem_cons hk,List.set_cons_zero,List.take_succ_eq_append_getElem hk,List.map_append,List.append_assoc]
  rfl
 have hG1:base<=G1:=by
  subst hA
  exact (vB hE.rows G1 rfl).1
 refine ⟨rs.set k ⟨kr W R[k],A6,c6⟩,by rw [List.length_set];exact hl,e,?_,(hb.trans (hb1.mono hbase)).setCell (p:=⟨G1,k,none⟩) hG1 _⟩
 rw [qfd]
 exact hp
end Go.Proofs.YticbpkghcglgkaaGreatDoor
namespace Go.Proofs.YticbpkghcglgkaaGreatDoor
open Go.Proofs.Tryz Go.RowKit
section
variable {P : Program}
def qa6 (L:List Oper):Nat->Nat->Nat->Bool
 | 0,_,_=>false
 | f+1,i,j=>match L[i]? with
  | some o=>o.after.toList.any fun e=>Region.binds .any e&&(decide (e.on=j) || qa6 L f e.on j)
  | none=>false
theorem qaw {L:List Oper} {f i j:Nat} (h:qa6 L f i j=true) : ∃ o,L[i]? = some o/\∃ e∈o.after,Region.binds .any e=true/\(e.on=j∨∃ f',f=f'+1/\qa6 L f' e.on j=true):=by
 cases f with
 | zero=>cases h
 | succ f =>
  unfold qa6 at h
  cases ho:L[i]? with
  | none=>rw [ho] at h;cases h
  | some o =>
   rw [ho] at h
   simp only [List.any_eq_true,Bool.and_eq_true,Bool.or_eq_true,decide_eq_true_eq,Array.mem_toList_iff] at h
   obtain ⟨e,he,hb,h⟩:=h
   exact ⟨o,rfl,e,he,hb,h.imp id fun h=>⟨f,rfl,h⟩⟩
theorem reach_lt {L:List Oper} (hord : ∀ i o,L[i]? = some o->∀ e∈o.after,Region.binds .any e=true->e.on<i) : ∀ (f i j:Nat),qa6 L f i j=true->j<i:=by
 intro f
 induction f with
 | zero=>intro i j h;cases h
 | succ f ih =>
  intro i j h
  obtain ⟨o,ho,e,he,hb,h⟩:=qaw h
  have h1:=hord i o ho e he hb
  rcases h with h | ⟨f',hf,h⟩
  ·omega
  ·obtain rfl:f=f':=by omega
   have:=ih _ _ h
   omega
def qeo (L:List Oper) (k:Nat):Bool:=decide (k<=L.length)&&(List.range L.length).all fun i=>match L[i]? with
 | some o=>(o.after.all fun e=>!Region.binds .any e || decide (e.on<i))&&(match o.guard with | some (j,_)=>decide (j<i) | none=>true)&&(decide (i<k) || (List.range i).all fun j=>qa6 L i i j)
 | none=>true
theorem qcn {L:List Oper} {k:Nat} (h:qeo L k=true):k<=L.length/\∀ i o,L[i]? = some o->(∀ e∈o.after,Region.binds .any e=true->e.on<i)/\(∀ j b,o.guard=some (j,b)->j<i)/\(k<=i->∀ j,j<i->qa6 L i i j=true):=by
 unfold qeo at h
 rw [Bool.and_eq_true,decide_eq_true_eq,List.all_eq_true] at h
 refine ⟨h.1,fun i o hi=>?_⟩
 have hl:i<L.length:=(List.getElem?_eq_some_iff.1 hi).1
 have:=h.2 i (List.mem_range.2 hl)
 rw [hi] at this
 simp only [Bool.and_eq_true,Bool.or_eq_true,decide_eq_true_eq,Array.all_eq_true_iff_forall_mem,List.all_eq_true,List.mem_range] at this
 obtain ⟨⟨h1,h2⟩,h3⟩:=this
 refine ⟨fun e he hb=>?_,fun j b hg=>?_,fun hk j hj=>?_⟩
 ·rcases h1 e he with h | h
  ·rw [hb] at h;cases h
  ·exact h
 ·rw [hg] at h2
  simpa using h2
 ·rcases h3 with h | h
  ·omega
  ·exact h j hj
theorem tail_any {L:List Oper} {k:Nat} {Q:Exit->Act->World->Prop} (hL:qeo L k=true) : ∀ (T:List Oper) (m fuel:Nat) (listed:Array Bool) (a:Act) (w:World),k<=m->L.drop m=T->listed.size=L.length ->
  (∀ j,j<L.length->listed.getD j true=decide (j<m))->T.length<=fuel->wpList P L.toArray Q T a w->wpAny P .any L.toArray Q fuel listed a w:=by
 have hsp:=(qcn hL).2
 intro T
 induction T with
 | nil =>
  intro m fuel listed a w hk hd hs hl _ h
  have hlen:L.length<=m:=List.drop_eq_nil_iff.1 hd
  have hr:Region.ready .any L.toArray listed=[]:=by
   rw [List.eq_nil_iff_forall_not_mem]
   intro i hi
   obtain ⟨h1,o,h2,_⟩:=mem_ready.1 hi
   rw [La] at h2
   have hi:=(List.getElem?_eq_some_iff.1 h2).1
   rw [hl i hi,decide_eq_true (by omega)] at h1
   cases h1
  cases fuel with
  | zero=>exact ⟨hr,h⟩
  | succ f=>exact ⟨fun _=>h,fun i hi=>by rw [hr] at hi;cases hi⟩
 | cons o T ih =>
  intro m fuel listed a w hk hd hs hl hf h
  have hm:m<L.length:=by
   rcases Nat.lt_or_ge m L.length with h | h
   ·exact h
   ·rw [List.drop_of_length_le h] at hd;cases hd
  rw [List.drop_eq_getElem_cons hm] at hd
  injection hd with hd1 hd2
  have hmo:L[m]? = some o:=by rw [List.getElem?_eq_getElem hm,hd1]
  obtain ⟨f,rfl⟩ : ∃ f,fuel=f+1:=⟨fuel-1,by simp at hf;omega⟩
  have hgd : ∀ j,j<L.length->listed.getD j false=listed.getD j true:=fun j hj=>by
   rw [Array.getD_eq_getD_getElem?,Array.getD_eq_getD_getElem?,Array.getElem?_eq_getElem (by omega)]
   rfl
  have hrm:m∈Region.ready .any L.toArray listed:=by
   refine mem_ready.2 ⟨by rw [hl m hm,decide_eq_false (by omega)],o,by simpa using hmo,fun e he hb=>?_⟩
   have:=(hsp m o hmo).1 e he hb
   rw [hgd _ (by omega),hl _ (by omega),decide_eq_true this]
  refine ⟨fun h0=>(by rw [h0] at hrm;cases hrm),fun i hi=>?_⟩
  obtain ⟨h1,oi,h2,h3⟩:=mem_ready.1 hi
  rw [La] at h2
  have hil:=(List.getElem?_eq_some_iff.1 h2).1
  rw [hl i hil] at h1
  have him : ¬ i<m:=of_decide_eq_false h1
  have hie:i=m:=by
   rcases Nat.lt_or_ge m i with hlt | hge
   ·obtain ⟨o',ho',e,he,hb,hon⟩:=qaw ((hsp i oi h2).2.2 (by omega) m hlt)
    obtain rfl:o'=oi:=by rw [h2] at ho';injection ho' with e;exact e.symm
    have h4:=h3 e he hb
    have h5:=(hsp i _ h2).1 e he hb
    rw [hgd _ (by omega),hl _ (by omega),decide_eq_true_iff] at h4
    rcases hon with hon | ⟨f',_,hon⟩
    ·omega
    ·have:=reach_lt (fun i o ho=>(hsp i o ho).1) _ _ _ hon
     omega
   ·omega
  subst hie
  obtain rfl:o=oi:=by rw [hmo] at h2;injection h2
  have hK : ∀ a w,wpList P L.toArray Q T a w->wpAny P .any L.toArray Q f (listed.setIfInBounds i true) a w:=fun a w h=>by
   refine ih (i+1) f _ a w (by omega) hd2 (by rw [Array.size_setIfInBounds];exact hs) (fun j hj=>?_) (by simp at hf;omega) h
   by_cases hji:j=i
   ·subst hji
    rw [decide_eq_true (by omega),Array.getD_eq_getD_getElem?]
    simp [hs,hj]
   ·rw [Array.getD_eq_getD_getElem?,Array.getElem?_setIfInBounds_ne (Ne.symm hji),<- Array.getD_eq_getD_getElem?,hl j hj,Bool.eq_iff_iff,decide_eq_true_iff,decide_eq_true_iff]
    omega
  unfold wpOp
  rw [La,hmo]
  simp only
  rw [wpList] at h
  split
  ·rename_i hw
   rw [if_pos hw] at h
   exact h.imp (Oper.wp_mono hK) id
  ·rename_i hw
   rw [if_neg hw] at h
   exact hK _ _ h
theorem qg0 {L:List Oper} {k j:Nat} (tmps:Array Value) (h:j<k):yielded (L.take k).toArray tmps j=yielded L.toArray tmps j:=by
 unfold yielded
 rw [La,La,List.getElem?_take_of_lt h]
theorem qhx {L:List Oper} {k:Nat} {Q:Exit->Act->World->Prop} {C:World->Prop} (hL:qeo L k=true) : ∀ (fuel:Nat) (ll listed:Array Bool) (a:Act) (w:World),ll.size=k->listed.size=L.length ->
  (∀ j,j<k->listed.getD j true=ll.getD j true)->(∀ j,k<=j->j<L.length->listed.getD j true=false)->(∀ p,p<k->ll.getD p true=true->∀ o,L[p]? = some o->∀ e∈o.after,Region.binds .any e=true->ll.getD e.on true=true)->C w ->
  wpAnyQ P .any (L.take k).toArray C (fun a'=>∀ w',C w'->wpList P L.toArray Q (L.drop k) a' w') fuel ll a->wpAny P .any L.toArray Q (fuel+(L.length-k)) listed a w:=by
 obtain ⟨hkl,hsp⟩:=qcn hL
 have hlt:(L.take k).length=k:=by rw [List.length_take];omega
 have hend : ∀ (ll:Array Bool),ll.size=k->Region.ready .any (L.take k).toArray ll=[]->∀ i,i<k->ll.getD i true=true:=by
  intro ll hsz hr i
  induction i using Nat.strongRecOn with
  | ind i ih =>
   intro hi
   cases hli:ll.getD i true with
   | true=>rfl
   | false =>
    exfalso
    have ho:L[i]? = some (L[i]'(by omega)):=List.getElem?_eq_getElem (by omega)
    have hm:i∈Region.ready .any (L.take k).toArray ll:=by
     refine mem_ready.2 ⟨hli,L[i]'(by omega),by rw [La,List.getElem?_take_of_lt hi];exact ho,fun e he hb=>?_⟩
     have h2:=(hsp i _ ho).1 e he hb
     have h3:=ih e.on h2 (by omega)
     rw [Array.getD_eq_getD_getElem?] at h3 ⊢
     rw [Array.getElem?_eq_getElem (by omega)] at h3 ⊢
     exact h3
    rw [hr] at hm
    cases hm
 have hfin : ∀ (fuel:Nat) (ll listed:Array Bool) (a:Act) (w:World),ll.size=k->listed.size=L.length->(∀ j,j<k->listed.getD j true=ll.getD j true)->(∀ j,k<=j->j<L.length->listed.getD j true=false) ->
   (∀ i,i<k->ll.getD i true=true)->wpList P L.toArray Q (L.drop k) a w->wpAny P .any L.toArray Q (fuel+(L.length-k)) listed a w:=fun fuel ll listed a w hs1 hs2 h1 h2 h3 h =>
  tail_any hL (L.drop k) k _ listed a w (Nat.le_refl _) rfl hs2 (fun j hj=>by
   rcases Nat.lt_or_ge j k with hjk | hjk
   ·rw [h1 j hjk,h3 j hjk,decide_eq_true hjk]
   ·rw [h2 j hjk hj,decide_eq_false (by omega)]) (by rw [List.length_drop];omega) h
 intro fuel
 induction fuel with
 | zero=>intro ll listed a w hs1 hs2 h1 h2 hcl hC h;exact hfin 0 ll listed a w hs1 hs2 h1 h2 (hend ll hs1 h.1) (h.2 w hC)
 | succ f ih =>
  intro ll listed a w hs1 hs2 h1 h2 hcl hC h
  have hreach : ∀ (f p x:Nat),p<k->ll.getD p true=true->qa6 L f p x=true->ll.getD x true=true:=by
   intro f
   induction f with
   | zero=>intro p x _ _ h;cases h
   | succ f ihf =>
    intro p x hp hl h
    obtain ⟨o,ho,e,he,hb,h⟩:=qaw h
    have h3:=hcl p hp hl o ho e he hb
    have h4:=(hsp p o ho).1 e he hb
    rcases h with h | ⟨f',hf,h⟩
    ·rw [<- h];exact h3
    ·obtain rfl:f=f':=by omega
     exact ihf _ _ (by omega) h3 h
  rcases hrd:Region.ready .any (L.take k).toArray ll with _ | ⟨x,xs⟩
  ·exact hfin (f+1) ll listed a w hs1 hs2 h1 h2 (hend ll hs1 hrd) (h.1 hrd w hC)
  ·have hx:x∈Region.ready .any (L.take k).toArray ll:=by rw [hrd];exact List.mem_cons_self
   have hgd : ∀ j,j<L.length->listed.getD j false=listed.getD j true:=fun j hj=>by
    rw [Array.getD_eq_getD_getElem?,Array.getD_eq_getD_getElem?,Array.getElem?_eq_getElem (by omega)]
    rfl
   have hgl : ∀ j,j<k->ll.getD j false=ll.getD j true:=fun j hj=>by
    rw [Array.getD_eq_getD_getElem?,Array.getD_eq_getD_getElem?,Array.getElem?_eq_getElem (by omega)]
    rfl
   have hiff : ∀ i,i<k->(i∈Region.ready .any L.toArray listed↔i∈Region.ready .any (L.take k).toArray ll):=fun i hi=>by
    rw [mem_ready,mem_ready,La,La,List.getElem?_take_of_lt hi,h1 i hi]
    have key : ∀ o,L[i]? = some o->((∀ e∈o.after,Region.binds .any e=true->listed.getD e.on false=true)↔∀ e∈o.after,Region.binds .any e=true->ll.getD e.on false=true):=fun o ho=>by
     constructor
     ·intro h e he hb
      have:=(hsp i o ho).1 e he hb
      rw [hgl _ (by omega),<- h1 _ (by omega),<- hgd _ (by omega)]
      exact h e he hb
     ·intro h e he hb
      have:=(hsp i o ho).1 e he hb
      rw [hgd _ (by omega),h1 _ (by omega),<- hgl _ (by omega)]
      exact h e he hb
    constructor
    ·rintro ⟨p,o,ho,q⟩;exact ⟨p,o,ho,(key o ho).1 q⟩
    ·rintro ⟨p,o,ho,q⟩;exact ⟨p,o,ho,(key o ho).2 q⟩
   have hxk:x<k:=by
    obtain ⟨_,o,ho,_⟩:=mem_ready.1 hx
    rw [La] at ho
    have:=(List.getElem?_eq_some_iff.1 ho).1
    omega
   rw [show f+1+(L.length-k)=(f+(L.length-k))+1 by omega]
   refine ⟨fun h0=>?_,fun i hi=>?_⟩
   ·have:=(hiff x hxk).2 hx
    rw [h0] at this
    cases this
   ·have hik:i<k:=by
     rcases Nat.lt_or_ge i k with hik | hik
     ·exact hik
     ·exfalso
      obtain ⟨_,o,ho,hall⟩:=mem_ready.1 hi
      rw [La] at ho
      obtain ⟨o',ho',e,he,hb,hon⟩:=qaw ((hsp i o ho).2.2 hik x (by omega))
      obtain rfl:o'=o:=by rw [ho] at ho';injection ho' with e;exact e.symm
      have h5:=hall e he hb
      have h6:=(mem_ready.1 hx).1
      have h7:=(hsp i _ ho).1 e he hb
      have hil:=(List.getElem?_eq_some_iff.1 ho).1
      rw [hgd _ (by omega)] at h5
      rcases hon with hon | ⟨f',_,hon⟩
      ·rw [hon,h1 x hxk,h6] at h5
       cases h5
      ·rcases Nat.lt_or_ge e.on k with hek | hek
       ·rw [h1 _ hek] at h5
        rw [hreach _ _ _ hek h5 hon] at h6
        cases h6
       ·rw [h2 _ hek (by omega)] at h5
        cases h5
    have hq:=h.2 i ((hiff i hik).1 hi)
    have hgo : ∀ a' w',C w'->wpAnyQ P .any (L.take k).toArray C (fun a'=>∀ w',C w'->wpList P L.toArray Q (L.drop k) a' w') f (ll.setIfInBounds i true) a'->wpAny P .any L.toArray Q (f+(L.length-k)) (listed.setIfInBounds i true) a' w':=fun a' w' hC' h'=>by
     refine ih _ _ a' w' (by rw [Array.size_setIfInBounds];exact hs1) (by rw [Array.size_setIfInBounds];exact hs2) (fun j hj=>?_) (fun j hj hj2=>?_) (fun p hp hl o ho e he hb=>?_) hC' h'
     ·by_cases hji:j=i
      ·subst hji
       rw [Array.getD_eq_getD_getElem?,Array.getD_eq_getD_getElem?,Array.getElem?_setIfInBounds_self_of_lt (by omega),Array.getElem?_setIfInBounds_self_of_lt (by omega)]
      ·rw [Array.getD_eq_getD_getElem?,Array.getD_eq_getD_getElem?,Array.getElem?_setIfInBounds_ne (Ne.symm hji),Array.getElem?_setIfInBounds_ne (Ne.symm hji),<- Array.getD_eq_getD_getElem?,<- Array.getD_eq_getD_getElem?]
       exact h1 j hj
     ·rw [Array.getD_eq_getD_getElem?,Array.getElem?_setIfInBounds_ne (by omega),<- Array.getD_eq_getD_getElem?]
      exact h2 j hj hj2
     ·have hset : ∀ x,ll.getD x true=true->(ll.setIfInBounds i true).getD x true=true:=fun x hx=>by
       by_cases hxi:x=i
       ·subst hxi
        rw [Array.getD_eq_getD_getElem?,Array.getElem?_setIfInBounds_self_of_lt (by omega)]
        rfl
       ·rw [Array.getD_eq_getD_getElem?,Array.getElem?_setIfInBounds_ne (Ne.symm hxi),<- Array.getD_eq_getD_getElem?]
        exact hx
      have hek:=(hsp p o ho).1 e he hb
      by_cases hpi:p=i
      ·subst hpi
       obtain ⟨_,o',ho',hall⟩:=mem_ready.1 hi
       rw [La,ho] at ho'
       injection ho' with ho'
       subst ho'
       have:=hall e he hb
       rw [hgd _ (by omega),h1 _ (by omega)] at this
       exact hset _ this
      ·rw [Array.getD_eq_getD_getElem?,Array.getElem?_setIfInBounds_ne (Ne.symm hpi),<- Array.getD_eq_getD_getElem?] at hl
       exact hset _ (hcl p hp hl o ho e he hb)
    unfold qOp at hq
    unfold wpOp
    have hoi:L[i]? = some (L[i]'(by omega)):=List.getElem?_eq_getElem (by omega)
    rw [La,List.getElem?_take_of_lt hik,hoi] at hq
    rw [La,hoi]
    simp only at hq ⊢
    have hwt:Region.wanted (L[i]'(by omega)) (yielded (L.take k).toArray a.tmps)=Region.wanted (L[i]'(by omega)) (yielded L.toArray a.tmps):=by
     unfold Region.wanted
     cases hg:(L[i]'(by omega)).guard with
     | none=>rfl
     | some p =>
      obtain ⟨j,b⟩:=p
      simp only
      rw [qg0 a.tmps (Nat.lt_trans ((hsp i _ hoi).2.1 j b hg) hik)]
    rw [hwt] at hq
    split
    ·rename_i hw
     rw [if_pos hw] at hq
     exact .inl (Oper.wp_of_quiet hC hgo hq)
    ·rename_i hw
     rw [if_neg hw] at hq
     exact hgo _ _ hC hq
theorem qdW {id:Nat} {Q:Exit->Act->World->Prop} {a:Act} {w:World} {L:List Oper} {C:World->Prop} (k:Nat) (hm:P.follows .mixedOrders=true) (hB:Region.lexB .any (L.take k).toArray=true) (hL:qeo L k=true) (hC:C w.drew)
  (h:wpQuiet P (L.take k).toArray C (fun a'=>∀ w',C w'->wpList P L.toArray Q (L.drop k) a' w') (L.take k) a):(Code.region id L.toArray true).wp P Q a w:=by
 obtain ⟨hkl,_⟩:=qcn hL
 have hlt:(L.take k).length=k:=by rw [List.length_take];omega
 simp only [Region.lexB,Bool.and_eq_true] at hB
 have h1:=wpAnyQ_lex (C:=C) (md:=.any) hB.1 (L.take k) 0 (Array.replicate (L.take k).toArray.size false) a (by simp) (by simpa using hB.2) h
 rw [hlt,List.size_toArray,hlt] at h1
 refine wp_region_any hm ?_
 have h2:=qhx (Q:=Q) hL k (Array.replicate k false) (Array.replicate L.length false) a w.drew (by simp) (by simp) (fun j hj=>by
  rw [Array.getD_eq_getD_getElem?,Array.getD_eq_getD_getElem?,Array.getElem?_replicate,Array.getElem?_replicate,if_pos (by omega),if_pos hj]) (fun j _ hj=>by
  rw [Array.getD_eq_getD_getElem?,Array.getElem?_replicate,if_pos hj];rfl) (fun p hp hl=>by rw [Array.getD_eq_getD_getElem?,Array.getElem?_replicate,if_pos hp] at hl;cases hl) hC h1
 rw [List.size_toArray,show L.length=k+(L.length-k) by omega]
 rw [show k+(L.length-k)=L.length by omega]
 rw [show k+(L.length-k)=L.length by omega] at h2
 exact h2
theorem qbs {id:Nat} {Q:Exit->Act->World->Prop} {a:Act} {w:World} {L:List Oper} (B k:Nat) (hm:P.follows .mixedOrders=true) (hB:Region.lexB .any (L.take k).toArray=true) (hL:qeo L k=true)
  (h:wpQuiet P (L.take k).toArray (fun w'=>∃ x:Near B w,w'=x.w) (fun a'=>∀ w',(∃ x:Near B w,w'=x.w)->wpList P L.toArray Q (L.drop k) a' w') (L.take k) a):(Code.region id L.toArray true).wp P Q a w :=
 qdW (C:=fun w'=>∃ x:Near B w,w'=x.w) k hm hB hL ⟨⟨w.drew,(Below.refl B w).drew⟩,rfl⟩ h
end
end Go.Proofs.YticbpkghcglgkaaGreatDoor
namespace Go.Proofs.YticbpkghcglgkaaGreatDoor
open Go.Proofs.Tryz Go.RowKit
set_option maxRecDepth 20000
def szc (w:World) (G:Nat):Nat:=match w.cell? ⟨G,2,none⟩ with
 | some v=>qdq v
 | none=>0
theorem szc_ED {base G c:Nat} {v:Vw} {rs:List RowM} {A:Option Addr} {X:World} (h:ED base G v rs A c X):szc X G=rs.length:=by
 unfold szc
 rw [(qw h.blk).2.2.1]
 rfl
theorem csize_ {base G:Nat} {v:Vw} {rs:List RowM} {A:Option Addr} {cA:Nat} {X0:World} (h:ED base G v rs A cA X0) (hbase:base<=X0.heap.size) (hh:rs.length<=1000) (hrl : ∀ x∈rs,x.l.length<=100000000)
  (c:Chg) (Ag:Option Addr) (cap:Nat) (hk:c.kind=1) (hr:zh v c=true) :
  Calls prog 87 #[.pointer (some ⟨G,0,none⟩),jH c Ag cap] X0 (EdR base G (jY v c) X0):=by
 obtain ⟨W,Hh,rows,vr,vc,vis⟩:=v
 obtain ⟨kind,row,col,count,til,g⟩:=c
 dsimp only at hk
 subst hk
 obtain ⟨r1,r2,r3,r4⟩:1<=row/\row<=60/\1<=col/\col<=132:=of_decide_eq_true hr
 obtain ⟨H,rfl⟩ : ∃ H:Nat,row=H:=⟨row.toNat,by omega⟩
 have hS:jY ⟨W,Hh,rows,vr,vc,vis⟩ ⟨1,(H:Int),col,count,til,g⟩=⟨col,H,((List.range H).map fun i=>rows.getD i []).map (kr col),min vr ((H:Int)-1),min vc (col-1),vis⟩:=by
  unfold jY
  rw [if_pos (show (1:Int)=1 from rfl)]
  simp only [Int.toNat_natCast,List.map_map]
  rfl
 rw [hS]
 obtain ⟨R,hR⟩ : ∃ R,((List.range H).map fun i=>rows.getD i [])=R:=⟨_,rfl⟩
 obtain ⟨M1,hM1⟩ : ∃ M1:Int,min vr ((H:Int)-1)=M1:=⟨_,rfl⟩
 obtain ⟨M2,hM2⟩ : ∃ M2:Int,min vc (col-1)=M2:=⟨_,rfl⟩
 rw [hR,hM1,hM2]
 have hR':=Lh hR
 have hM1':=Lh hM1
 have hM2':=Lh hM2
 clear hR hM1 hM2
 have hE:=h.eq
 dsimp only at hE
 have hn:rows.length=rs.length:=by rw [hE,vJ]
 have hRl:Hid (∀ i,(rows.getD i []).length<=100000000):=Lh fun i=>by
  rw [hE,List.getD_eq_getElem?_getD,rls,List.getElem?_map]
  cases hx:rs[i]? with
  | none=>exact Nat.zero_le _
  | some x=>exact hrl x (List.mem_of_getElem? hx)
 have hB:=h.blk
 have hGl:=hB.lt
 have hED:=Lh h
 clear hS hr hrl h
 go_enter func87,ntmps87
 go_upto_region 1 with fail
 refine qa (fun X=>Blk X X0.heap.size 64 (yG ⟨1,(H:Int),col,count,til,g⟩ Ag cap)/\Below X0.heap.size X0 X) ⟨Blk.new _ _ _,(Below.refl _ _).alloc (Nat.le_refl _) _⟩ ?_
 rintro X ⟨hbx,hb⟩
 have c1:X.cell? ⟨X0.heap.size,1,none⟩=some (.int .i64 (H:Int)):=hbx.cell 1
 have c2:X.cell? ⟨X0.heap.size,2,none⟩=some (.int .i64 col):=hbx.cell 2
 have hBX:=hB.below hb hGl
 obtain ⟨e0,e1,e2,e3,e4,e5⟩:=qw hBX
 have f0:=hBX.frozen 0
 have f1:=hBX.frozen 1
 have hne:X0.heap.size≠G:=by omega
 have hne2:G≠X0.heap.size:=by omega
 have hzX:=hbx.lt
 clear e2 e3 e4 e5 hB hBX
 go_region_held3 (fun w'=>w'.cell? ⟨X0.heap.size,1,none⟩=some (.int .i64 (H:Int))/\w'.cell? ⟨X0.heap.size,2,none⟩=some (.int .i64 col)) (go_keep) (first | fail)
 have hI:SzA base G col H vr vc vis rows X0 rows.length (((X.setCell ⟨G,1,none⟩ (.int .i64 (H:Int))).setCell ⟨G,0,none⟩ (.int .i64 col)).drew):=by
  have h1:=((hED.out.below hb).setg (v':=⟨W,H,rows,vr,vc,vis⟩) (i:=1) (u:=.int .i64 (H:Int)) rfl rfl).setg (v':=⟨col,H,rows,vr,vc,vis⟩) (i:=0) (u:=.int .i64 col) rfl rfl
  refine ⟨Nat.le_refl _,rs,A,cA,hn.symm,by rw [Nat.sub_self,List.replicate_zero,List.append_nil,hE],?_,(((hb.mono hbase).setCell (p:=⟨G,1,none⟩) hED.out.lo _).setCell (p:=⟨G,0,none⟩) hED.out.lo _).drew,by simp [World.drew];omega⟩
  rw [<- hE]
  exact h1.drew
 go_wp2
 go_loopw [] (fun wr=>∃ m,SzA base G col H vr vc vis rows X0 m wr) (fun wr=>H-szc wr G)
 case atStart=>exact ⟨rows.length,hI⟩
 case round =>
  clear hI hbx hb hED c1 c2 e0 e1 f0 f1
  obtain ⟨m,hm,rs1,A1,d1,hl1,hr1,hE1,hb1,hz1⟩:=hrel
  obtain ⟨e0,e1,e2,e3,e4,e5⟩:=qw hE1.blk
  dsimp only at e0 e1 e3 e4 e5
  have hsz:=szc_ED hE1
  rw [hl1] at e2 hsz
  by_cases hlt:m<H
  ·have hrow:=hE1.rows
   rw [hl1] at hrow
   have hrow2 : ∀ n,(wr.drewN n).ownsRow base 56 1 (.slice A1 m d1) m (zQ rs1):=fun n=>hrow
   have hbz:base<=wr.heap.size:=by omega
   have hne4:some G≠(Value.slice A1 m d1).ownBlock:=fun e=>by
    rw [qC] at e
    exact (List.pairwise_cons.1 hE1.dj).1 (obS A1) (by simp) G rfl e.symm
   go_wp2
   go_quiet (fail)
   go_wp2_with (at_builtin;go_must (refine qg rfl _ _ _ rfl elt_row base _ rfl ((hrow2 _).alloc _) _ _ rfl (qe (xs:=[.slice none 0 0]) (by rfl) rfl) (by rfl) (by omega) (by omega) (by first | (simp;done) | (simp;omega) | omega) ?_);intro A4 c4 w4 hown4 hbel4 hgr4 hat4;have hB4:=((Blk.drewN hE1.blk nq).alloc (.cells #[.slice none 0 0] 56)).grown hgr4 hne4;have q4:=(qw hB4).2.2.1;have z4:=hB4.frozen 2)
   have hEn:=(hE1.below (qf (n:=nq) (Below.refl _ _))).addnil ((Below.refl _ _).alloc (Nat.le_refl _) _) (by rw [hl1]) hown4 hgr4 hat4
   have hrn:rls rs1++[[]]=rls (rs1++[qaI]):=by unfold rls;rw [List.map_append];rfl
   have hsn:=szc_ED hEn
   rw [List.length_append,hl1] at hsn
   refine ⟨⟨m+1,by omega,rs1++[qaI],A4,c4,by rw [List.length_append,hl1];rfl,?_,by rw [<- hrn];exact hEn,?_,?_⟩,by rw [hsn,hsz];simp only [List.length_singleton];omega⟩
   ·rw [<- hrn,hr1,List.append_assoc,show m+1-rows.length=(m-rows.length)+1 by omega,List.replicate_succ']
   ·exact ((((qf hb1).alloc hbz _).trans hbel4).setCell (p:=⟨G,2,none⟩) hE1.lo _)
   ·have:=hgr4.size
    simp at this ⊢
    omega
  ·go_wp2
   go_quiet (fail)
   go_upto_region 4 with fail
   have hcaps:=yd hE1.rows
   rw [hl1] at hcaps
   have hHm:(H:Int)<=m:=by omega
   have hHd:(H:Int)<=d1:=by omega
   have hmd:(m:Int)<=d1:=by omega
   refine qa (fun Y=>Below wr.heap.size wr Y) (qf (Below.refl _ _)) ?_
   intro Y hY
   have hE2:=hE1.below hY
   obtain ⟨-,d1_,d2_,-⟩:=qw hE2.blk
   rw [hl1] at d2_
   dsimp only at d1_
   have hGY:=hE2.blk.lt
   have N1 : ∀ x:Near Y.heap.size Y,x.w.cell? ⟨G,1,none⟩=some (.int .i64 (H:Int)):=fun x=>(x.h.cell (p:=⟨G,1,none⟩) hGY).trans d1_
   have N2 : ∀ x:Near Y.heap.size Y,x.w.cell? ⟨G,2,none⟩=some (.slice A1 m d1):=fun x=>(x.h.cell (p:=⟨G,2,none⟩) hGY).trans d2_
   clear e0 e1 e2 e3 e4 e5 d1_ d2_
   refine qbs (Y.heap.size) 15 (by kernel_rfl) (by kernel_rfl) (by kernel_rfl) ?_;simp only [List.take_succ_cons,List.take_zero,List.drop_succ_cons,List.drop_zero];(repeat (go_big_quiet_step (fail)));refine wpQuiet_nil ?_;intro _ hw';obtain ⟨x1,hw''⟩:=hw';subst hw''
   have hE3:=hE2.below x1.h
   have q3:=(qw hE3.blk).2.2.1
   have z3:=hE3.blk.frozen 2
   rw [hl1] at q3
   have hE4:=hE3.cut (m:=H) (by omega) (by omega)
   obtain ⟨G1,cap1,hA,hG1,-⟩:=hE1.rows.form (by omega)
   obtain ⟨rfl,rfl⟩:A1=some ⟨G1,0,none⟩/\d1=cap1:=by injection hA with h1 _ h2;exact ⟨h1,h2⟩
   have hRR:(rls rs1).take H=R:=by rw [hr1,<- hR'.out];exact pad_rows rows m H hm (by omega)
   have hI2:SzB base G col H vr vc vis R (some ⟨G1,0,none⟩) d1 X0 0 (x1.w.setCell ⟨G,2,none⟩ (.slice (some ⟨G1,0,none⟩) H d1)):=by
    have e:rls (rs1.take H)=R:=by rw [<- hRR];unfold rls;rw [List.map_take]
    refine ⟨rs1.take H,by rw [<- hR'.out,List.length_take,List.length_map,List.length_range];omega,by rw [e];rfl,?_,((hb1.trans ((hY.trans (x1.h.mono hY.size)).mono (by omega))).setCell (p:=⟨G,2,none⟩) hE1.lo _)⟩
    rw [e,<- hRR]
    exact hE4
   have hsz0:X0.heap.size<=(x1.w.setCell ⟨G,2,none⟩ (.slice (some ⟨G1,0,none⟩) H d1)).heap.size:=by
    have h1:=hY.size
    have h2:=x1.h.size
    rw [World.size_setCell]
    omega
   have hRk:Hid (∀ k (h:k<R.length),(R[k]).length<=100000000):=Lh fun k h=>by
    have:(((List.range H).map fun i=>rows.getD i [])[k]'(by rw [hR'.out];exact h)).length<=100000000:=by
     rw [List.getElem_map]
     exact hRl.out _
    simp only [hR'.out] at this
    exact this
   have hRn:R.length=H:=by rw [<- hR'.out,List.length_map,List.length_range]
   go_wp2
   clear N1 N2 q3 z3 hE4 hE3 hE2 hE1 hY hGY hcaps hHm hHd hmd hb1 hz1 hsz hlt hRR hr1 hl1 hm
   have hH60:H<=60:=by omega
   go_loopw [64] (fun x wr=>∃ k:Nat,k<=H/\x = .int .i64 k/\SzB base G col H vr vc vis R (some ⟨G1,0,none⟩) d1 X0 k wr/\X0.heap.size<=wr.heap.size) (fun x _=>H-(intOf x).toNat)
   case atStart=>exact ⟨0,Nat.zero_le _,rfl,hI2,hsz0⟩
   case round =>
    clear hI2 hsz0
    obtain ⟨k,hk,rfl,hSz,hsz⟩:=hrel
    obtain ⟨rs2,hl2,hr2,hE5,hb5⟩:=id hSz
    by_cases hlt:k<H
    ·have hkR:k<R.length:=by omega
     have hk2:k<rs2.length:=by omega
     have hxl:rs2[k].l=R[k]:=by
      have e1:(rls rs2)[k]? = some rs2[k].l:=by unfold rls;rw [List.getElem?_map,List.getElem?_eq_getElem hk2];rfl
      rw [hr2,List.getElem?_append_right (by rw [List.length_map,List.length_take];omega),List.length_map,List.length_take,Nat.min_eq_left (by omega),Nat.sub_self,List.drop_eq_getElem_cons hkR,Lb] at e1
      injection e1 with e1
      exact e1.symm
     have hcx:=hE5.rows.cellAt k (by omega)
     rw [yF hk2] at hcx
     have hrow:=hE5.gl _ (List.getElem_mem hk2)
     have hcaps:=yd hrow
     have hNx:Hid (∀ w1 A6 c6,Below wr.heap.size wr w1->w1.ownsRow wr.heap.size 86 3 (.slice A6 (kr col R[k]).length c6) (kr col R[k]).length (qi (kr col R[k]))->SzB base G col H vr vc vis R (some ⟨G1,0,none⟩) d1 X0 (k+1) (w1.setCell ⟨G1,k,none⟩ (.slice A6 (kr col R[k]).length c6))/\X0.heap.size<=(w1.setCell ⟨G1,k,none⟩ (.slice A6 (kr col R[k]).length c6)).heap.size):=Lh fun w1 A6 c6 h1 h2=>⟨SzB.next hl2 hr2 hE5 hb5 hkR (by omega) rfl h1 h2,by rw [World.size_setCell];have:=h1.size;omega⟩
     have hfz:=hE5.rows.frozenAt k
     have hG1w:=(vB hE5.rows G1 rfl).2
     have hGw:=hE5.blk.lt
     have hLk:=hRk.out k hkR
     obtain ⟨e0,-,e2,-⟩:=qw hE5.blk
     dsimp only at e0
     rw [hl2,hRn] at e2
     have hHi:(k:Int)<H:=by omega
     rw [<- hxl] at hNx hLk
     generalize rs2[k]=x at *
     obtain ⟨l,Al,cl⟩:=x
     dsimp only at *
     have hRd:=Rd.of_own hrow
     have HTr:Hid (∀ W1,Below wr.heap.size wr W1->Calls prog 108 #[.slice Al (qaT col l) cl] W1 fun e w'=>∃ A6 c6,e = .returned (.slice A6 (kr col l).length c6)/\w'.ownsRow wr.heap.size 86 3 (.slice A6 (kr col l).length c6) (kr col l).length (qi (kr col l))/\Below wr.heap.size wr w'):=Lh fun W1 hW=>by
      have hf:=qhy col l
      have hR1:=(hRd.below hW).take hf
      rw [<- kM] at hR1
      exact (vtrim_ (l.take (qaT col l)) Al (qaT col l) cl wr.heap.size W1 (by omega) (by omega) hcaps.2 hR1 hW.size).mono fun e w' ⟨A6,c6,h1,h2,h3⟩=>⟨A6,c6,h1,qt h2 hW.size,hW.trans (h3.mono hW.size)⟩
     have HWd:Hid (∀ q (h:q<l.length) W1,Below wr.heap.size wr W1->∃ b,Al=some ⟨b,0,none⟩/\Calls prog 53 #[.slice (some ⟨b,q * 3,none⟩) 1 (cl-q)] W1 (qh (.int .i64 (glW l[q]:Nat)) W1)):=Lh fun q h W1 hW=>by
      rcases hrow.2 with ⟨hv,hm0⟩ | ⟨b,cap4,cur4,hv,-⟩
      ·omega
      ·obtain rfl:Al=some ⟨b,0,none⟩:=by injection hv
       have hR1:=(((hRd.below hW).cut (k:=q) (cap:=cl) (by omega) hcaps.1).take (k:=1) (by omega))
       rw [if_neg (by omega),Option.map_some,vl,Nat.zero_add] at hR1
       have e:(qi l).drop (q * 3)=qi (l.drop q):=(qbO l q).symm
       rw [e,<- kM,List.drop_eq_getElem_cons h,List.take_succ_cons,List.take_zero] at hR1
       have:=qeY [l[q]] (some ⟨b,q * 3,none⟩) 1 (cl-q) wr.heap.size W1 (by omega) hR1 hW.size
       rw [rowW_one] at this
       exact ⟨b,rfl,this⟩
     have hfl:=Lh (qhy col l)
     have HF0:Hid (qaT col l=0+qaT (col-(vM (l.take 0):Nat)) (l.drop 0)):=Lh (by rw [List.take_zero,List.drop_zero,Nat.zero_add];simp [vM,kw])
     generalize qaT col l=F at *
     generalize kr col l=CR at *
     clear hSz hl2 hr2 hE5 hb5 hxl hrow hRd hRk hkR hk2
     have hcl63:(cl:Int)<=9223372036854775807:=by have:=hcaps.2;unfold maxLen at this;omega
     have hcl0:=hcaps.1
     clear hcaps
     obtain ⟨wo,rfl⟩ : ∃ x:World,x=wr:=⟨_,rfl⟩
     go_wp2
     go_loopw [6,7] (fun vn vw wz=>∃ q:Nat,q<=l.length/\vn = .int .i64 q/\vw = .int .i64 (vM (l.take q):Nat)/\Below wo.heap.size wo wz/\Hid (F=q+qaT (col-(vM (l.take q):Nat)) (l.drop q))) (fun vn _ _=>l.length-(intOf vn).toNat)
     case atStart=>exact ⟨0,Nat.zero_le _,rfl,rfl,Below.refl _ _,HF0⟩
     case round =>
      clear HF0
      obtain ⟨q,hq,rfl,rfl,hbz,HF⟩:=hrel
      have hzz:=hbz.size
      have e0z:=(hbz.cell (p:=⟨G,0,none⟩) hGw).trans e0
      by_cases hlq:q<l.length
      ·obtain ⟨b,rfl,hw⟩:=HWd.out q hlq wr hbz
       have hW:=Lh hw
       have hrt:=qkm hlq
       have hfd:=fit_drop hlq (col-(vM (l.take q):Nat))
       have hrl:=rowW_le (l.take q)
       rw [List.length_take] at hrl
       have hg2:glW l[q]<=2:=by unfold glW;split <;> omega
       have HF2:=HF.out
       rw [hfd] at HF2
       generalize glW l[q]=gw at *
       generalize hr0:vM (l.take q)=r0 at *
       have hr0b:r0<=200000000:=by omega
       have hq1:(q:Int)+1<=l.length:=by omega
       have hq2:(q:Int)+1<=cl:=by omega
       clear hfd hw HWd hrl
       by_cases hfit:col<(r0:Int)+gw
       ·rw [if_pos (by omega)] at HF2
        obtain rfl:F=q:=by omega
        clear HF HF2 hr0 hrt
        have hFc:F<=cl:=by omega
        have hFi:(F:Int)<=cl:=by omega
        have hF0:(0:Int)<=F:=by omega
        go_upto_region 13 with (go_at_call 53;refine hW.out.mono ?_;rintro e w1 ⟨rfl,hb1⟩;have e0w:=(hb1.cell (p:=⟨G,0,none⟩) (Nat.lt_of_lt_of_le hGw hzz)).trans e0z)
        refine qa (fun Y=>Below wo.heap.size wo Y) (hbz.trans (hb1.mono hzz)) ?_
        intro Y hY
        have y2:=(hY.cell (p:=⟨G,2,none⟩) hGw).trans e2
        have yk:=(hY.cell (p:=⟨G1,k,none⟩) hG1w).trans hcx
        have yf:=(hY.frozen (p:=⟨G1,k,none⟩) hG1w).trans hfz
        go_region_law (go_simp;go_at_call 108;refine (HTr.out _ (by first | exact hY | exact hY.drew)).mono ?_;rintro e w2 ⟨A6,c6,rfl,o2,b2⟩;have z2:=(b2.cell (p:=⟨G,2,none⟩) hGw).trans e2;have zk:=(b2.cell (p:=⟨G1,k,none⟩) hG1w).trans hcx;have zf:=(b2.frozen (p:=⟨G1,k,none⟩) hG1w).trans hfz)
        all_goals go_wp2
        all_goals exact ⟨⟨k+1,by omega,by go_num,hNx.out _ _ _ b2 o2⟩,by simp [intOf];omega⟩
       ·rw [if_neg (by omega),show col-(r0:Int)-gw=col-((r0+gw:Nat):Int) by omega,<- hrt] at HF2
        have HF3:Hid (F=(q+1)+qaT (col-(vM (l.take (q+1)):Nat)) (l.drop (q+1))):=Lh (by omega)
        have hd:decide (col<(r0:Int)+gw)=false:=decide_eq_false hfit
        clear HF HF2 hr0
        go_wp2_with (go_at_call 53;refine hW.out.mono ?_;rintro e w1 ⟨rfl,hb1⟩;have e0w:=(hb1.cell (p:=⟨G,0,none⟩) (Nat.lt_of_lt_of_le hGw hzz)).trans e0z)
        exact ⟨⟨q+1,by omega,by go_num,by rw [hrt];go_num,hbz.trans (hb1.mono hzz),HF3⟩,by simp [intOf];omega⟩
      ·obtain rfl:q=l.length:=by omega
       have HF2:=HF.out
       rw [List.drop_of_length_le (Nat.le_refl _),qaT] at HF2
       obtain rfl:F=l.length:=by omega
       clear HF HF2 HWd
       go_upto_region 13 with fail
       refine qa (fun Y=>Below wo.heap.size wo Y) hbz ?_
       intro Y hY
       have y2:=(hY.cell (p:=⟨G,2,none⟩) hGw).trans e2
       have yk:=(hY.cell (p:=⟨G1,k,none⟩) hG1w).trans hcx
       have yf:=(hY.frozen (p:=⟨G1,k,none⟩) hG1w).trans hfz
       go_region_law (go_simp;go_at_call 108;refine (HTr.out _ (by first | exact hY | exact hY.drew)).mono ?_;rintro e w2 ⟨A6,c6,rfl,o2,b2⟩;have z2:=(b2.cell (p:=⟨G,2,none⟩) hGw).trans e2;have zk:=(b2.cell (p:=⟨G1,k,none⟩) hG1w).trans hcx;have zf:=(b2.frozen (p:=⟨G1,k,none⟩) hG1w).trans hfz)
       all_goals go_wp2
       all_goals exact ⟨⟨k+1,by omega,by go_num,hNx.out _ _ _ b2 o2⟩,by simp [intOf];omega⟩
    ·obtain rfl:k=H:=by omega
     have hcr:(R.take k).map (kr col)++R.drop k=R.map (kr col):=by rw [<- hRn,List.take_length,List.drop_length,List.append_nil]
     rw [hcr] at hr2
     obtain ⟨e0,e1,-,e3,e4,-⟩:=qw hE5.blk
     dsimp only at e0 e1 e3 e4
     have f3:=hE5.blk.frozen 3
     have f4:=hE5.blk.frozen 4
     have g1:=hE5.setg (v':=⟨col,k,rls rs2,M1,vc,vis⟩) (i:=3) (u:=.int .i64 M1) rfl rfl
     have g2:=g1.setg (v':=⟨col,k,rls rs2,M1,M2,vis⟩) (i:=4) (u:=.int .i64 M2) rfl rfl
     have hB2:=Lh ((hb5.setCell (p:=⟨G,3,none⟩) hE5.lo (.int .i64 M1)).setCell (p:=⟨G,4,none⟩) hE5.lo (.int .i64 M2))
     have hg2:=Lh g2
     have hrl2:=Lh hr2
     have hM1:=hM1'.out
     have hM2:=hM2'.out
     clear hSz hr2 hE5 hb5 g1 g2 hl2 hcr hRk hsz hM1' hM2' hR'
     go_wp2
     go_region
     all_goals go_wp2
     all_goals go_end0
     refine ⟨rfl,⟨rs2,some ⟨G1,0,none⟩,d1,?_⟩,hB2.out.drew⟩
     rw [<- hrl2.out]
     exact hg2.out.drew
end Go.Proofs.YticbpkghcglgkaaGreatDoor
namespace Go.Proofs.YticbpkghcglgkaaGreatDoor
open Go.Proofs.Tryz Go.RowKit
set_option maxRecDepth 20000
theorem capply_ {base G B:Nat} {v:Vw} {rs:List RowM} {A:Option Addr} {cA:Nat} {X0:World} (h:ED base G v rs A cA X0) (hbase:base<=X0.heap.size) (hlen:(rs.length:Int)=v.height) (hh:v.height<=1000) (hrl : ∀ x∈rs,x.l.length<=100000000)
  (c:Chg) (Ag:Option Addr) (cap:Nat) (hB:B<=base) (rd:Rd X0 B 3 Ag c.glyphs.length (qi c.glyphs)) (hgl:c.glyphs.length<=100000000) (hk:1<=c.kind/\c.kind<=4) (hr:zh v c=true) :
  Calls prog 52 #[.pointer (some ⟨G,0,none⟩),jH c Ag cap] X0 (EdR base G (jY v c) X0):=by
 have hl2 : ∀ x∈rs,x.l.length<=1000000000:=fun x hx=>Nat.le_trans (hrl x hx) (by decide)
 have hw : ∀ w',Below X0.heap.size X0 w'->ED base G v rs A cA w'/\base<=w'.heap.size/\Rd w' B 3 Ag c.glyphs.length (qi c.glyphs):=fun w' hb=>⟨h.below hb,Nat.le_trans hbase hb.size,rd.below (hb.mono (by omega))⟩
 have hb2 : ∀ w' e w'',Below X0.heap.size X0 w'->EdR base G (jY v c) w' e w''->EdR base G (jY v c) X0 e w'':=fun w' e w'' hb ⟨h1,h2,h3⟩=>⟨h1,h2,(hb.mono hbase).trans h3⟩
 obtain ⟨kind,row,col,count,til,g⟩:=c
 dsimp only at *
 have hcases:kind=1∨kind=2∨kind=3∨kind=4:=by omega
 rcases hcases with rfl | rfl | rfl | rfl
 ·have HC:Hid (∀ w',Below X0.heap.size X0 w'->Calls prog 87 #[.pointer (some ⟨G,0,none⟩),jH ⟨1,row,col,count,til,g⟩ Ag cap] w' (EdR base G (jY v ⟨1,row,col,count,til,g⟩) X0)):=Lh fun w' hb=>(csize_ (hw w' hb).1 (hw w' hb).2.1 (by omega) hrl _ Ag cap rfl hr).mono fun e w'' hq=>hb2 w' e w'' hb hq
  clear hb2 hw hr h hlen rd hrl hl2
  have HG:=HC
  clear HC
  go_enter func52,ntmps52
  go_upto_region 1 with fail
  refine qa (ChgBox X0 ⟨1,row,col,count,til,g⟩ Ag cap) (ChgBox.new X0 ⟨1,row,col,count,til,g⟩ Ag cap _) ?_
  rintro X ⟨c0,c1,c2,c3,c4,c5,hb,hzX⟩
  dsimp only at c0 c1 c2 c3 c4 c5
  go_upto_region 2 with fail
  refine qa (fun Y=>Below X.heap.size X Y/\Y.cell? ⟨X.heap.size,0,none⟩=some (.func (Fn.func 87) #[] #[])) ⟨(Below.refl _ _).alloc (Nat.le_refl _) _,by simp⟩ ?_
  rintro Y ⟨hY,hf⟩
  have e0:=(hY.cell (p:=⟨X0.heap.size,0,none⟩) hzX).trans c0
  have e1:=(hY.cell (p:=⟨X0.heap.size,1,none⟩) hzX).trans c1
  have e2:=(hY.cell (p:=⟨X0.heap.size,2,none⟩) hzX).trans c2
  have e3:=(hY.cell (p:=⟨X0.heap.size,3,none⟩) hzX).trans c3
  have e4:=(hY.cell (p:=⟨X0.heap.size,4,none⟩) hzX).trans c4
  have e5:=(hY.cell (p:=⟨X0.heap.size,5,none⟩) hzX).trans c5
  have hbY:=hb.trans (hY.mono (by omega))
  clear c0 c1 c2 c3 c4 c5 hb hY
  have hwr:IntKind.i64.wrap 0=0:=by decide
  go_region_law (go_simp;go_at_call 87;refine (HG.out _ (by first | exact hbY | exact hbY.drew)).mono ?_;rintro e w2 ⟨rfl,h2,h3⟩)
  all_goals go_wp2
  all_goals go_end0
  all_goals exact ⟨rfl,h2,h3⟩
 ·have HC:Hid (∀ w',Below X0.heap.size X0 w'->Calls prog 88 #[.pointer (some ⟨G,0,none⟩),jH ⟨2,row,col,count,til,g⟩ Ag cap] w' (EdR base G (jY v ⟨2,row,col,count,til,g⟩) X0)):=Lh fun w' hb=>(cscroll_ (hw w' hb).1 (hw w' hb).2.1 hlen hh hl2 _ Ag cap rfl hr).mono fun e w'' hq=>hb2 w' e w'' hb hq
  clear hb2 hw hr h hlen rd hrl hl2
  have HG:=HC
  clear HC
  go_enter func52,ntmps52
  go_upto_region 1 with fail
  refine qa (ChgBox X0 ⟨2,row,col,count,til,g⟩ Ag cap) (ChgBox.new X0 ⟨2,row,col,count,til,g⟩ Ag cap _) ?_
  rintro X ⟨c0,c1,c2,c3,c4,c5,hb,hzX⟩
  dsimp only at c0 c1 c2 c3 c4 c5
  go_upto_region 2 with fail
  refine qa (fun Y=>Below X.heap.size X Y/\Y.cell? ⟨X.heap.size,1,none⟩=some (.func (Fn.func 88) #[] #[])) ⟨(Below.refl _ _).alloc (Nat.le_refl _) _,by simp⟩ ?_
  rintro Y ⟨hY,hf⟩
  have e0:=(hY.cell (p:=⟨X0.heap.size,0,none⟩) hzX).trans c0
  have e1:=(hY.cell (p:=⟨X0.heap.size,1,none⟩) hzX).trans c1
  have e2:=(hY.cell (p:=⟨X0.heap.size,2,none⟩) hzX).trans c2
  have e3:=(hY.cell (p:=⟨X0.heap.size,3,none⟩) hzX).trans c3
  have e4:=(hY.cell (p:=⟨X0.heap.size,4,none⟩) hzX).trans c4
  have e5:=(hY.cell (p:=⟨X0.heap.size,5,none⟩) hzX).trans c5
  have hbY:=hb.trans (hY.mono (by omega))
  clear c0 c1 c2 c3 c4 c5 hb hY
  have hwr:IntKind.i64.wrap 1=1:=by decide
  go_region_law (go_simp;go_at_call 88;refine (HG.out _ (by first | exact hbY | exact hbY.drew)).mono ?_;rintro e w2 ⟨rfl,h2,h3⟩)
  all_goals go_wp2
  all_goals go_end0
  all_goals exact ⟨rfl,h2,h3⟩
 ·have HC:Hid (∀ w',Below X0.heap.size X0 w'->Calls prog 89 #[.pointer (some ⟨G,0,none⟩),jH ⟨3,row,col,count,til,g⟩ Ag cap] w' (EdR base G (jY v ⟨3,row,col,count,til,g⟩) X0)):=Lh fun w' hb=>(csplice_ (hw w' hb).1 (hw w' hb).2.1 hlen hh hrl _ Ag cap hB (hw w' hb).2.2 hgl rfl hr).mono fun e w'' hq=>hb2 w' e w'' hb hq
  clear hb2 hw hr h hlen rd hrl hl2
  have HG:=HC
  clear HC
  go_enter func52,ntmps52
  go_upto_region 1 with fail
  refine qa (ChgBox X0 ⟨3,row,col,count,til,g⟩ Ag cap) (ChgBox.new X0 ⟨3,row,col,count,til,g⟩ Ag cap _) ?_
  rintro X ⟨c0,c1,c2,c3,c4,c5,hb,hzX⟩
  dsimp only at c0 c1 c2 c3 c4 c5
  go_upto_region 2 with fail
  refine qa (fun Y=>Below X.heap.size X Y/\Y.cell? ⟨X.heap.size,2,none⟩=some (.func (Fn.func 89) #[] #[])) ⟨(Below.refl _ _).alloc (Nat.le_refl _) _,by simp⟩ ?_
  rintro Y ⟨hY,hf⟩
  have e0:=(hY.cell (p:=⟨X0.heap.size,0,none⟩) hzX).trans c0
  have e1:=(hY.cell (p:=⟨X0.heap.size,1,none⟩) hzX).trans c1
  have e2:=(hY.cell (p:=⟨X0.heap.size,2,none⟩) hzX).trans c2
  have e3:=(hY.cell (p:=⟨X0.heap.size,3,none⟩) hzX).trans c3
  have e4:=(hY.cell (p:=⟨X0.heap.size,4,none⟩) hzX).trans c4
  have e5:=(hY.cell (p:=⟨X0.heap.size,5,none⟩) hzX).trans c5
  have hbY:=hb.trans (hY.mono (by omega))
  clear c0 c1 c2 c3 c4 c5 hb hY
  have hwr:IntKind.i64.wrap 2=2:=by decide
  go_region_law (go_simp;go_at_call 89;refine (HG.out _ (by first | exact hbY | exact hbY.drew)).mono ?_;rintro e w2 ⟨rfl,h2,h3⟩)
  all_goals go_wp2
  all_goals go_end0
  all_goals exact ⟨rfl,h2,h3⟩
 ·have HC:Hid (∀ w',Below X0.heap.size X0 w'->Calls prog 90 #[.pointer (some ⟨G,0,none⟩),jH ⟨4,row,col,count,til,g⟩ Ag cap] w' (EdR base G (jY v ⟨4,row,col,count,til,g⟩) X0)):=Lh fun w' hb=>(ccursor_ (hw w' hb).1 (hw w' hb).2.1 _ Ag cap rfl).mono fun e w'' hq=>hb2 w' e w'' hb hq
  clear hb2 hw hr h hlen rd hrl hl2
  have HG:=HC
  clear HC
  go_enter func52,ntmps52
  go_upto_region 1 with fail
  refine qa (ChgBox X0 ⟨4,row,col,count,til,g⟩ Ag cap) (ChgBox.new X0 ⟨4,row,col,count,til,g⟩ Ag cap _) ?_
  rintro X ⟨c0,c1,c2,c3,c4,c5,hb,hzX⟩
  dsimp only at c0 c1 c2 c3 c4 c5
  go_upto_region 2 with fail
  refine qa (fun Y=>Below X.heap.size X Y/\Y.cell? ⟨X.heap.size,3,none⟩=some (.func (Fn.func 90) #[] #[])) ⟨(Below.refl _ _).alloc (Nat.le_refl _) _,by simp⟩ ?_
  rintro Y ⟨hY,hf⟩
  have e0:=(hY.cell (p:=⟨X0.heap.size,0,none⟩) hzX).trans c0
  have e1:=(hY.cell (p:=⟨X0.heap.size,1,none⟩) hzX).trans c1
  have e2:=(hY.cell (p:=⟨X0.heap.size,2,none⟩) hzX).trans c2
  have e3:=(hY.cell (p:=⟨X0.heap.size,3,none⟩) hzX).trans c3
  have e4:=(hY.cell (p:=⟨X0.heap.size,4,none⟩) hzX).trans c4
  have e5:=(hY.cell (p:=⟨X0.heap.size,5,none⟩) hzX).trans c5
  have hbY:=hb.trans (hY.mono (by omega))
  clear c0 c1 c2 c3 c4 c5 hb hY
  have hwr:IntKind.i64.wrap 3=3:=by decide
  go_region_law (go_simp;go_at_call 90;refine (HG.out _ (by first | exact hbY | exact hbY.drew)).mono ?_;rintro e w2 ⟨rfl,h2,h3⟩)
  all_goals go_wp2
  all_goals go_end0
  all_goals exact ⟨rfl,h2,h3⟩
end Go.Proofs.YticbpkghcglgkaaGreatDoor
namespace Go.Proofs.YticbpkghcglgkaaGreatDoor
open Go.Proofs.Tryz Go.RowKit
def qG (m:Nat):List Nat:=if m=0 then [0] else zj m
theorem rs1 : ∀ m:Fin 20,qG m.val=[m.val]:=by decide +kernel
theorem rs2 : ∀ m:Fin 100,20<=m.val->m.val % 10=0->qG m.val=[18+m.val / 10]:=by decide +kernel
theorem rs3 : ∀ m:Fin 100,20<=m.val->m.val % 10≠0->qG m.val=[18+m.val / 10,m.val % 10]:=by decide +kernel
theorem rs4 : ∀ m:Fin 1000,100<=m.val->qG m.val=[m.val / 100,28]++(if m.val % 100=0 then [] else qG (m.val % 100)):=by decide +kernel
theorem qef (m:Nat) (hm:m<100) (w:World) (ht:Tb w) :
  Calls prog 124 #[.int .i64 m] w (ql 9 1 id w (qG m).length (wv (qG m))):=by
 by_cases c1:m<20
 ·have hc:=ht.1 m c1
  have HL:=Lh (rs1 ⟨m,c1⟩)
  simp only at HL
  clear ht
  go_enter func124,ntmps124
  go_wp2
  go_ret
  rw [HL.out]
  exact ⟨_,_,rfl,qx (xs:=[_]) rfl rfl (Nat.le_refl _) (by first | omega | (simp only [List.length_cons,List.length_nil];omega)),(Below.refl _ _).alloc (Nat.le_refl _) _⟩
 have hc2:=ht.2 (m / 10-2) (by omega)
 rw [show 20+(m / 10-2)=18+m / 10 from by omega] at hc2
 by_cases c2:m % 10=0
 ·have HL:=Lh (rs2 ⟨m,hm⟩ (by simp;omega) c2)
  simp only at HL
  have c2':((m:Int) % 10==0)=true:=by rw [beq_iff_eq];omega
  clear ht c2
  have c1':(20:Int)<=(m:Int):=by omega
  go_enter func124,ntmps124
  go_wp2
  go_ret
  rw [HL.out]
  exact ⟨_,_,rfl,qx (xs:=[_]) rfl rfl (Nat.le_refl _) (by first | omega | (simp only [List.length_cons,List.length_nil];omega)),(Below.refl _ _).alloc (Nat.le_refl _) _⟩
 ·have HL:=Lh (rs3 ⟨m,hm⟩ (by simp;omega) c2)
  simp only at HL
  have hc1:=ht.1 (m % 10) (by omega)
  have c2':((m:Int) % 10==0)=false:=by rw [beq_eq_false_iff_ne];omega
  clear ht c2
  have b1:(0:Int)<=(m:Int) % 10:=by omega
  have b2:(m:Int) % 10<20:=by omega
  have b3:(0:Int)<=(m:Int) / 10-2:=by omega
  have b4:(m:Int) / 10-2<8:=by omega
  have n1:=World.new_ne w _ hc1
  have n2:=World.new_ne w _ hc2
  go_enter func124,ntmps124
  go_wp2
  have r1:(m:Int).tdiv 10=m / 10:=Int.tdiv_eq_ediv_of_nonneg (by omega)
  have r2:(m:Int).tmod 10=m % 10:=Int.tmod_eq_emod_of_nonneg (by omega)
  have r3:IntKind.i64.wrap ((m:Int) / 10)=m / 10:=IntWalk.i64_in _ (by omega)
  have r4:IntKind.i64.wrap ((m:Int) / 10-2)=m / 10-2:=IntWalk.i64_in _ (by omega)
  have r5:IntKind.i64.wrap ((m:Int) % 10)=m % 10:=IntWalk.i64_in _ (by omega)
  have r6:((m:Int) / 10-2).toNat=m / 10-2:=by omega
  have b5:(2:Int)<=(m:Int) / 10:=by omega
  have b6:(m:Int) / 10<10:=by omega
  have b7:(m:Int) / 10<8+2:=by omega
  have r7:((m:Int) % 10).toNat=m % 10:=by omega
  go_region_held3 (fun w'=>w'.cell? ⟨3,m / 10-2,none⟩=some (.string (wb (18+m / 10)))/\w'.cell? ⟨2,m % 10,none⟩=some (.string (wb (m % 10)))) (go_keep) (first | fail)
  clear r1 r2 r3 r4 r5 r6 r7 b7
  go_wp2
  go_ret
  rw [HL.out]
  exact ⟨_,_,rfl,qx (xs:=[_,_]) rfl rfl (Nat.le_refl _) (by first | omega | (simp only [List.length_cons,List.length_nil];omega)),by (repeat (first | exact Below.refl _ _ | assumption | refine Below.drew ?_ | refine Below.alloc ?_ (by first | (simp;done) | (simp;omega) | omega) _ | refine Below.setCell ?_ (by first | (simp;done) | (simp;omega) | omega) _))⟩
theorem qha (m:Nat) (hm:m<1000) (w:World) (ht:Tb w) :
  Calls prog 124 #[.int .i64 m] w (ql 9 1 id w (qG m).length (wv (qG m))):=by
 by_cases c0:m<100
 ·exact qef m c0 w ht
 have c1:100<=m:=by omega
 have hc:=ht.1 (m / 100) (by omega)
 have HL:=Lh (rs4 ⟨m,hm⟩ c1)
 simp only at HL
 have HR:Hid (∀ w,Tb w->Calls prog 124 #[.int .i64 ((m:Int) % 100)] w (ql 9 1 id w (qG (m % 100)).length (wv (qG (m % 100))))):=Lh fun w ht=>by
  have:=qef (m % 100) (by omega) w ht
  rwa [Int.natCast_emod] at this
 have HT:=Lh ht
 have c2:(20:Int)<=(m:Int):=by omega
 by_cases c3:m % 100=0
 ·have c3':((m:Int) % 100 != 0)=false:=by rw [bne_eq_false_iff_eq];omega
  have HL2:Hid (qG m=[m / 100,28]):=Lh (by rw [HL.out,if_pos c3];rfl)
  clear ht c3 c0
  go_enter func124,ntmps124
  go_wp2_with fail
  go_ret
  rw [HL2.out]
  exact ⟨_,_,rfl,qx (xs:=[_,_]) rfl rfl (Nat.le_refl _) (by first | omega | (simp only [List.length_cons,List.length_nil];omega)),by (repeat (first | exact Below.refl _ _ | assumption | refine Below.drew ?_ | refine Below.alloc ?_ (by first | (simp;done) | (simp;omega) | omega) _ | refine Below.setCell ?_ (by first | (simp;done) | (simp;omega) | omega) _))⟩
 ·have c3':((m:Int) % 100 != 0)=true:=by rw [bne_iff_ne];omega
  have HL2:Hid (qG m=[m / 100,28]++qG (m % 100)):=Lh (by rw [HL.out,if_neg c3])
  have hle:(qG (m % 100)).length<=4:=by
   unfold qG
   split
   ·simp
   ·exact kJ _
  generalize qG (m % 100)=L at *
  clear ht c3 c0
  go_enter func124,ntmps124
  go_wp2_with (first
   | (go_at_call 124;refine (HR.out _ (HT.out.below (by exact (Below.refl _ _).alloc (Nat.le_refl _) _))).mono ?_;rintro e w1 ⟨A1,c1,rfl,hown1,hbel1⟩;have z1:=hbel1.size;simp only [World.size_alloc] at z1;have hown0:w1.ownsRow w.heap.size 9 1 (.slice (some ⟨w.heap.size,0,none⟩) 2 2) 2 [.string (wb (m / 100)),.string (wb 28)]:=qb (qx (by rfl) rfl (Nat.le_refl _) (by omega)) hbel1)
   | (at_builtin;refine qg rfl _ _ _ rfl qp (w.heap.size) _ rfl (hown0) _ _ rfl (Rd.of_own hown1) (by first | rfl | exact qA _ | exact qF _) (by omega) (by omega) (by first | (simp;done) | (simp;omega) | omega) ?_;intro A2 c2 w2 hown2 hbel2 hgr2 hat2;have z2:=hbel2.size;(try simp only [World.size_alloc] at z2);(try simp only [Nat.zero_add,List.nil_append] at hown2)))
  go_ret
  rw [HL2.out]
  have e:([m / 100,28]++L).length=2+L.length:=by simp;omega
  refine ⟨A2,c2,by rw [e];rfl,?_,(((Below.refl _ _).alloc (Nat.le_refl _) _).trans (hbel1.mono (by simp))).trans (hbel2.mono (by omega))⟩
  rw [e]
  simpa [wv] using hown2
def zp (n:Nat):List Nat:=if n=0 then [0] else posL n
theorem qd3 (n:Nat) (h:n<1000):zp n=qG n:=by
 unfold zp qG
 by_cases h0:n=0
 ·rw [if_pos h0,if_pos h0]
 ·rw [if_neg h0,if_neg h0,km]
  have a:n / 1000000=0:=by omega
  have b:n % 1000000 / 1000=0:=by omega
  have c:n % 1000000 % 1000=n:=by omega
  rw [a,b,c]
  simp [yO,qak,show 0<n by omega]
theorem qd6 (n:Nat) (h1:1000<=n) (h2:n<1000000):zp n=qG (n / 1000)++[29]++(if n % 1000=0 then [] else zp (n % 1000)):=by
 have e:(if n % 1000=0 then [] else zp (n % 1000))=qak (n % 1000):=by
  by_cases h0:n % 1000=0
  ·rw [if_pos h0,h0];rfl
  ·rw [if_neg h0,qd3 _ (by omega),qG,if_neg h0,qak,if_pos (by omega)]
 rw [e,zp,if_neg (by omega),km,qG,if_neg (by omega)]
 have a:n / 1000000=0:=by omega
 have b:n % 1000000 / 1000=n / 1000:=by omega
 have c:n % 1000000 % 1000=n % 1000:=by omega
 rw [a,b,c]
 simp [yO,show 0<n / 1000 by omega]
theorem qeZ (n:Nat) (h1:1000000<=n) (h2:n<1000000000):zp n=qG (n / 1000000)++[30]++(if n % 1000000=0 then [] else zp (n % 1000000)):=by
 have e:(if n % 1000000=0 then [] else zp (n % 1000000))=yO (n % 1000000 / 1000) 29++qak (n % 1000000 % 1000):=by
  by_cases h0:n % 1000000=0
  ·rw [if_pos h0,h0];rfl
  ·have a:n % 1000000 / 1000000=0:=by omega
   have b:n % 1000000 % 1000000=n % 1000000:=by omega
   rw [if_neg h0,zp,if_neg h0,km,a,b]
   simp [yO]
 rw [e,zp,if_neg (by omega),km,qG,if_neg (by omega),yO,if_pos (by omega)]
 simp
theorem qdh (n:Nat):(zp n).length<=14:=by
 unfold zp
 split
 ·simp
 ·rw [km]
  have a:=qbm (n / 1000000) 30
  have b:=qbm (n % 1000000 / 1000) 29
  have c:(qak (n % 1000000 % 1000)).length<=4:=by
   unfold qak
   split
   ·exact kJ _
   ·simp
  simp only [List.length_append]
  omega
theorem qd5 (n:Nat):(qG n).length<=4:=by
 unfold qG
 split
 ·simp
 ·exact kJ _
end Go.Proofs.YticbpkghcglgkaaGreatDoor
namespace Go.Proofs.YticbpkghcglgkaaGreatDoor
open Go.Proofs.Tryz Go.RowKit
set_option maxRecDepth 100000 in
theorem rpos_a (n:Nat) (hn:n<1000) (x:Int) (hx:x=n) (w:World) (ht:Tb w) :
  Calls prog 100 #[.int .i64 x] w (ql 9 1 id w (zp n).length (wv (zp n))):=by
 have HS:=Lh (qha n hn w ht)
 rw [<- qd3 n hn,<- hx] at HS
 have x1:x<1000:=by omega
 clear ht hx hn
 go_enter func100,ntmps100
 go_wp2_with (go_at_call 124;refine HS.out.mono ?_;rintro e w1 ⟨A1,c1,rfl,hown1,hbel1⟩)
 go_ret
 exact ⟨A1,c1,rfl,hown1,hbel1⟩
set_option maxRecDepth 100000 in
theorem rpos_b (n:Nat) (h1:1000<=n) (h2:n<1000000) (x:Int) (hx:x=n) (w:World) (ht:Tb w) :
  Calls prog 100 #[.int .i64 x] w (ql 9 1 id w (zp n).length (wv (zp n))):=by
 have HT:=Lh ht
 have x1:1000<=x:=by omega
 have x2:x<1000000:=by omega
 have hq:n / 1000<1000:=by omega
 have HS:Hid (∀ w,Tb w->Calls prog 124 #[.int .i64 (x / 1000)] w (ql 9 1 id w (qG (n / 1000)).length (wv (qG (n / 1000))))):=Lh fun w ht=>by
  have:=qha (n / 1000) hq w ht
  rwa [show ((n / 1000:Nat):Int)=x / 1000 from by omega] at this
 have HR:Hid (∀ w,Tb w->Calls prog 100 #[.int .i64 (x % 1000)] w (ql 9 1 id w (zp (n % 1000)).length (wv (zp (n % 1000))))):=Lh fun w ht=>by
  exact rpos_a (n % 1000) (by omega) (x % 1000) (by omega) w ht
 have HL:=Lh (qd6 n (by omega) (by omega))
 have l1:=qd5 (n / 1000)
 have l2:=qdh (n % 1000)
 by_cases c3:n % 1000=0
 ·have c3':(x % 1000 != 0)=false:=by rw [bne_eq_false_iff_eq];omega
  have HL2:Hid (zp n=qG (n / 1000)++[29]):=Lh (by rw [HL.out,if_pos c3,List.append_nil])
  clear ht c3 hx h1 h2 hq
  generalize qG (n / 1000)=L at *
  go_enter func100,ntmps100
  go_wp2_with (first
   | (go_at_call 124;refine (HS.out _ HT.out).mono ?_;rintro e w1 ⟨A1,c1,rfl,hown1,hbel1⟩;have z1:=hbel1.size)
   | (at_builtin;refine qg rfl _ _ _ rfl qp (w.heap.size) _ rfl (hown1.alloc _) _ _ rfl (qe (by rfl) rfl) (by first | rfl | exact qA _ | exact qF _) (by omega) (by omega) (by first | (simp;done) | (simp;omega) | omega) ?_;intro A2 c2 w2 hown2 hbel2 hgr2 hat2;have z2:=hbel2.size;(try simp only [World.size_alloc] at z2);(try simp only [Nat.zero_add,List.nil_append] at hown2)))
  go_ret
  rw [HL2.out]
  have e:(L++[29]).length=L.length+1:=by simp
  exact ⟨A2,c2,by rw [e];rfl,by rw [e];simpa [wv,wb] using hown2,(hbel1.alloc (by omega) _).trans (hbel2.mono (by omega))⟩
 ·have c3':(x % 1000 != 0)=true:=by rw [bne_iff_ne];omega
  have HL2:Hid (zp n=qG (n / 1000)++[29]++zp (n % 1000)):=Lh (by rw [HL.out,if_neg c3])
  clear ht c3 hx h1 h2 hq
  generalize qG (n / 1000)=L at *
  generalize zp (n % 1000)=L' at *
  go_enter func100,ntmps100
  go_wp2_with (first
   | (go_at_call 124;refine (HS.out _ HT.out).mono ?_;rintro e w1 ⟨A1,c1,rfl,hown1,hbel1⟩;have z1:=hbel1.size)
   | (at_builtin;refine qg rfl _ _ _ rfl qp (w.heap.size) _ rfl (hown1.alloc _) _ _ rfl (qe (by rfl) rfl) (by first | rfl | exact qA _ | exact qF _) (by omega) (by omega) (by first | (simp;done) | (simp;omega) | omega) ?_;intro A2 c2 w2 hown2 hbel2 hgr2 hat2;have z2:=hbel2.size;(try simp only [World.size_alloc] at z2);(try simp only [Nat.zero_add,List.nil_append] at hown2))
   | (go_at_call 100;refine (HR.out _ (HT.out.below ((hbel1.alloc (by omega) _).trans hbel2))).mono ?_;rintro e w3 ⟨A3,c3,rfl,hown3,hbel3⟩;have z3:=hbel3.size;have hown2':=qb hown2 hbel3)
   | (at_builtin;refine qg rfl _ _ _ rfl qp (w.heap.size) _ rfl (hown2') _ _ rfl (Rd.of_own hown3) (by first | rfl | exact qA _ | exact qF _) (by omega) (by omega) (by first | (simp;done) | (simp;omega) | omega) ?_;intro A4 c4 w4 hown4 hbel4 hgr4 hat4;have z4:=hbel4.size;(try simp only [World.size_alloc] at z4);(try simp only [Nat.zero_add,List.nil_append] at hown4)))
  go_ret
  rw [HL2.out]
  have e:(L++[29]++L').length=L.length+1+L'.length:=by simp;omega
  exact ⟨A4,c4,by rw [e];rfl,by rw [e];simpa [wv,wb] using hown4,(((hbel1.alloc (by omega) _).trans (hbel2.mono (by omega))).trans (hbel3.mono (by omega))).trans (hbel4.mono (by omega))⟩
theorem qiw (n:Nat) (h2:n<1000000) (x:Int) (hx:x=n) (w:World) (ht:Tb w) :
  Calls prog 100 #[.int .i64 x] w (ql 9 1 id w (zp n).length (wv (zp n))):=by
 rcases Nat.lt_or_ge n 1000 with h | h
 ·exact rpos_a n h x hx w ht
 ·exact rpos_b n h h2 x hx w ht
set_option maxRecDepth 100000 in
theorem rpos_c (n:Nat) (h1:1000000<=n) (h2:n<1000000000) (x:Int) (hx:x=n) (w:World) (ht:Tb w) :
  Calls prog 100 #[.int .i64 x] w (ql 9 1 id w (zp n).length (wv (zp n))):=by
 have HT:=Lh ht
 have x1:1000000<=x:=by omega
 have x2:x<1000000000:=by omega
 have hq:n / 1000000<1000:=by omega
 have HS:Hid (∀ w,Tb w->Calls prog 124 #[.int .i64 (x / 1000000)] w (ql 9 1 id w (qG (n / 1000000)).length (wv (qG (n / 1000000))))):=Lh fun w ht=>by
  have:=qha (n / 1000000) hq w ht
  rwa [show ((n / 1000000:Nat):Int)=x / 1000000 from by omega] at this
 have HR:Hid (∀ w,Tb w->Calls prog 100 #[.int .i64 (x % 1000000)] w (ql 9 1 id w (zp (n % 1000000)).length (wv (zp (n % 1000000))))):=Lh fun w ht=>by
  exact qiw (n % 1000000) (by omega) (x % 1000000) (by omega) w ht
 have HL:=Lh (qeZ n (by omega) (by omega))
 have l1:=qd5 (n / 1000000)
 have l2:=qdh (n % 1000000)
 by_cases c3:n % 1000000=0
 ·have c3':(x % 1000000 != 0)=false:=by rw [bne_eq_false_iff_eq];omega
  have HL2:Hid (zp n=qG (n / 1000000)++[30]):=Lh (by rw [HL.out,if_pos c3,List.append_nil])
  clear ht c3 hx h1 h2 hq
  generalize qG (n / 1000000)=L at *
  go_enter func100,ntmps100
  go_wp2_with (first
   | (go_at_call 124;refine (HS.out _ HT.out).mono ?_;rintro e w1 ⟨A1,c1,rfl,hown1,hbel1⟩;have z1:=hbel1.size)
   | (at_builtin;refine qg rfl _ _ _ rfl qp (w.heap.size) _ rfl (hown1.alloc _) _ _ rfl (qe (by rfl) rfl) (by first | rfl | exact qA _ | exact qF _) (by omega) (by omega) (by first | (simp;done) | (simp;omega) | omega) ?_;intro A2 c2 w2 hown2 hbel2 hgr2 hat2;have z2:=hbel2.size;(try simp only [World.size_alloc] at z2);(try simp only [Nat.zero_add,List.nil_append] at hown2)))
  go_ret
  rw [HL2.out]
  have e:(L++[30]).length=L.length+1:=by simp
  exact ⟨A2,c2,by rw [e];rfl,by rw [e];simpa [wv,wb] using hown2,(hbel1.alloc (by omega) _).trans (hbel2.mono (by omega))⟩
 ·have c3':(x % 1000000 != 0)=true:=by rw [bne_iff_ne];omega
  have HL2:Hid (zp n=qG (n / 1000000)++[30]++zp (n % 1000000)):=Lh (by rw [HL.out,if_neg c3])
  clear ht c3 hx h1 h2 hq
  generalize qG (n / 1000000)=L at *
  generalize zp (n % 1000000)=L' at *
  go_enter func100,ntmps100
  go_wp2_with (first
   | (go_at_call 124;refine (HS.out _ HT.out).mono ?_;rintro e w1 ⟨A1,c1,rfl,hown1,hbel1⟩;have z1:=hbel1.size)
   | (at_builtin;refine qg rfl _ _ _ rfl qp (w.heap.size) _ rfl (hown1.alloc _) _ _ rfl (qe (by rfl) rfl) (by first | rfl | exact qA _ | exact qF _) (by omega) (by omega) (by first | (simp;done) | (simp;omega) | omega) ?_;intro A2 c2 w2 hown2 hbel2 hgr2 hat2;have z2:=hbel2.size;(try simp only [World.size_alloc] at z2);(try simp only [Nat.zero_add,List.nil_append] at hown2))
   | (go_at_call 100;refine (HR.out _ (HT.out.below ((hbel1.alloc (by omega) _).trans hbel2))).mono ?_;rintro e w3 ⟨A3,c3,rfl,hown3,hbel3⟩;have z3:=hbel3.size;have hown2':=qb hown2 hbel3)
   | (at_builtin;refine qg rfl _ _ _ rfl qp (w.heap.size) _ rfl (hown2') _ _ rfl (Rd.of_own hown3) (by first | rfl | exact qA _ | exact qF _) (by omega) (by omega) (by first | (simp;done) | (simp;omega) | omega) ?_;intro A4 c4 w4 hown4 hbel4 hgr4 hat4;have z4:=hbel4.size;(try simp only [World.size_alloc] at z4);(try simp only [Nat.zero_add,List.nil_append] at hown4)))
  go_ret
  rw [HL2.out]
  have e:(L++[30]++L').length=L.length+1+L'.length:=by simp;omega
  exact ⟨A4,c4,by rw [e];rfl,by rw [e];simpa [wv,wb] using hown4,(((hbel1.alloc (by omega) _).trans (hbel2.mono (by omega))).trans (hbel3.mono (by omega))).trans (hbel4.mono (by omega))⟩
theorem rpos (n:Nat) (h2:n<1000000000) (x:Int) (hx:x=n) (w:World) (ht:Tb w) :
  Calls prog 100 #[.int .i64 x] w (ql 9 1 id w (zp n).length (wv (zp n))):=by
 rcases Nat.lt_or_ge n 1000000 with h | h
 ·exact qiw n h x hx w ht
 ·exact rpos_c n h h2 x hx w ht
theorem qd8 (n:Nat):qm n=zp n:=by
 unfold qm zp
 by_cases h0:n=0
 ·subst h0;rfl
 ·have h1 : ¬ ((n:Int)=0):=by omega
  have h2 : ¬ ((n:Int)<0):=by omega
  rw [if_neg h1,if_neg h2,if_neg h0,Int.natAbs_natCast]
  rfl
theorem qd9 (n:Nat) (h0:0<n):qm (-(n:Int))=31::zp n:=by
 have e:(-(n:Int)).natAbs=n:=by omega
 have h1 : ¬ (-(n:Int)=0):=by omega
 have h2 : -(n:Int)<0:=by omega
 unfold qm zp
 rw [if_neg h1,if_pos h2,if_neg (by omega),e]
 rfl
set_option maxRecDepth 100000 in
theorem qbl (n:Int) (h1 : -999999999<=n) (h2:n<=999999999) (w:World) (ht:Tb w) :
  Calls prog 63 #[.int .i64 n] w (ql 9 1 yP w (qm n).length (wv (qm n))):=by
 have HT:=Lh ht
 clear ht
 by_cases hn:n<0
 ·obtain ⟨m,hm⟩ : ∃ m:Nat,n = -(m:Int):=⟨n.natAbs,by omega⟩
  have hm1:0<m:=by omega
  have HL:=Lh (qd9 m hm1)
  have hle:=qdh m
  have HS:Hid (∀ w,Tb w->Calls prog 100 #[.int .i64 (-n)] w (ql 9 1 id w (zp m).length (wv (zp m)))):=Lh fun w ht=>by
   exact rpos m (by omega) (-n) (by omega) w ht
  rw [<- hm] at HL
  clear hm
  generalize zp m=L at *
  go_enter func63,ntmps63
  go_wp2_with (first
   | (go_at_call 100;refine (HS.out _ (HT.out.below (by exact (Below.refl _ _).alloc (Nat.le_refl _) _))).mono ?_;rintro e w1 ⟨A1,c1,rfl,hown1,hbel1⟩;have z1:=hbel1.size;simp only [World.size_alloc] at z1;have hown0:w1.ownsRow w.heap.size 9 1 (.slice (some ⟨w.heap.size,0,none⟩) 1 1) 1 [.string (wb 31)]:=qb (qx (by rfl) rfl (Nat.le_refl _) (by omega)) hbel1)
   | (at_builtin;refine qg rfl _ _ _ rfl qp (w.heap.size) _ rfl (hown0) _ _ rfl (Rd.of_own hown1) (by first | rfl | exact qA _ | exact qF _) (by omega) (by omega) (by first | (simp;done) | (simp;omega) | omega) ?_;intro A2 c2 w2 hown2 hbel2 hgr2 hat2;have z2:=hbel2.size;(try simp only [World.size_alloc] at z2);(try simp only [Nat.zero_add,List.nil_append] at hown2)))
  go_ret2
  rw [HL.out]
  have e:(31::L).length=1+L.length:=by simp;omega
  exact ⟨A2,c2,by rw [e];rfl,by rw [e];simpa [wv] using hown2,(((Below.refl _ _).alloc (Nat.le_refl _) _).trans (hbel1.mono (by simp))).trans (hbel2.mono (by omega))⟩
 ·obtain ⟨m,rfl⟩ : ∃ m:Nat,n=(m:Int):=⟨n.toNat,by omega⟩
  have HL:=Lh (qd8 m)
  have HS:Hid (∀ w,Tb w->Calls prog 100 #[.int .i64 (m:Int)] w (ql 9 1 id w (zp m).length (wv (zp m)))):=Lh fun w ht=>rpos m (by omega) m rfl w ht
  generalize zp m=L at *
  go_enter func63,ntmps63
  go_wp2_with (go_at_call 100;refine (HS.out _ HT.out).mono ?_;rintro e w1 ⟨A1,c1,rfl,hown1,hbel1⟩)
  go_ret2
  rw [HL.out]
  exact ⟨A1,c1,rfl,hown1,hbel1⟩
end Go.Proofs.YticbpkghcglgkaaGreatDoor
namespace Go.Proofs.YticbpkghcglgkaaGreatDoor
open Go.Proofs.Tryz Go.RowKit
def isS (r:Int):Bool:=(jM r).isSome
theorem isS_tab : ∀ x:Fin 127,isS (x.val:Int)=(decide (33<=x.val)&&!(decide (48<=x.val)&&decide (x.val<=57))&&!(decide (65<=x.val)&&decide (x.val<=90))&&!(decide (97<=x.val)&&decide (x.val<=122))):=by decide +kernel
theorem isS_eq (r:Int):isS r=(decide (33<=r)&&decide (r<=126)&&!(decide (48<=r)&&decide (r<=57))&&!(decide (65<=r)&&decide (r<=90))&&!(decide (97<=r)&&decide (r<=122))):=by
 by_cases h:0<=r/\r<=126
 ·obtain ⟨h1,h2⟩:=h
  obtain ⟨n,rfl⟩:=Int.eq_ofNat_of_zero_le h1
  have:=isS_tab ⟨n,by omega⟩
  simp only at this
  rw [this,Bool.eq_iff_iff]
  simp
  omega
 ·have h1:isS r=false:=by
   unfold isS
   cases hs:jM r with
   | none=>rfl
   | some i =>
    obtain ⟨_,_,a,b⟩:=jz hs
    exact absurd ⟨by omega,b⟩ h
  rw [h1,Bool.eq_iff_iff]
  simp
  omega
theorem rsign (r:Int) (w:World):Calls prog 163 #[.int .i32 r] w (qh (.bool (isS r)) w):=by
 have HI:=Lh (isS_eq r)
 generalize isS r=R at *
 rcases Int.lt_or_le r 33 with h1 | h1
 ·obtain rfl:R=false:=by rw [HI.out,Bool.eq_false_iff];simp;omega
  go_enter func163,ntmps163
  go_wp2
  go_ret
  exact ⟨rfl,Below.refl _ _⟩
 rcases Int.lt_or_le 126 r with h2 | h2
 ·obtain rfl:R=false:=by rw [HI.out,Bool.eq_false_iff];simp;omega
  go_enter func163,ntmps163
  go_wp2
  go_ret
  exact ⟨rfl,Below.refl _ _⟩
 rcases Int.lt_or_le r 48 with h3 | h3
 ·obtain rfl:R=true:=by rw [HI.out];simp;omega
  go_enter func163,ntmps163
  go_wp2
  go_ret
  exact ⟨rfl,Below.refl _ _⟩
 rcases Int.lt_or_le r 58 with h3 | h3
 ·obtain rfl:R=false:=by rw [HI.out,Bool.eq_false_iff];simp;omega
  go_enter func163,ntmps163
  go_wp2
  go_ret
  exact ⟨rfl,Below.refl _ _⟩
 rcases Int.lt_or_le r 65 with h3 | h3
 ·obtain rfl:R=true:=by rw [HI.out];simp;omega
  have e57 : ¬ r<=57:=by omega
  go_enter func163,ntmps163
  go_wp2
  go_ret
  exact ⟨rfl,Below.refl _ _⟩
 rcases Int.lt_or_le r 91 with h3 | h3
 ·obtain rfl:R=false:=by rw [HI.out,Bool.eq_false_iff];simp;omega
  have e57 : ¬ r<=57:=by omega
  go_enter func163,ntmps163
  go_wp2
  go_ret
  exact ⟨rfl,Below.refl _ _⟩
 rcases Int.lt_or_le r 97 with h3 | h3
 ·obtain rfl:R=true:=by rw [HI.out];simp;omega
  have e57 : ¬ r<=57:=by omega
  have e90 : ¬ r<=90:=by omega
  go_enter func163,ntmps163
  go_wp2
  go_ret
  exact ⟨rfl,Below.refl _ _⟩
 rcases Int.lt_or_le r 123 with h3 | h3
 ·obtain rfl:R=false:=by rw [HI.out,Bool.eq_false_iff];simp;omega
  have e57 : ¬ r<=57:=by omega
  have e90 : ¬ r<=90:=by omega
  have g122:r<=122:=by omega
  go_enter func163,ntmps163
  go_wp2
  go_ret
  exact ⟨rfl,Below.refl _ _⟩
 obtain rfl:R=true:=by rw [HI.out];simp;omega
 have e57 : ¬ r<=57:=by omega
 have e90 : ¬ r<=90:=by omega
 have e122 : ¬ r<=122:=by omega
 go_enter func163,ntmps163
 go_wp2
 go_ret
 exact ⟨rfl,Below.refl _ _⟩
theorem qhd (r:Int) (w:World):Calls prog 162 #[.int .i32 r] w (qh (.bool (zC r)) w):=by
 have HI:Hid (zC r=((decide (0<=r)&&decide (r<=55295)) || (decide (57344<=r)&&decide (r<=1114111)))):=Lh rfl
 generalize zC r=R at *
 rcases Int.lt_or_le r 0 with h1 | h1
 ·obtain rfl:R=false:=by rw [HI.out,Bool.eq_false_iff];simp;omega
  go_enter func162,ntmps162
  go_wp2
  go_ret
  exact ⟨rfl,Below.refl _ _⟩
 rcases Int.lt_or_le 1114111 r with h2 | h2
 ·obtain rfl:R=false:=by rw [HI.out,Bool.eq_false_iff];simp;omega
  go_enter func162,ntmps162
  go_wp2
  go_ret
  exact ⟨rfl,Below.refl _ _⟩
 rcases Int.lt_or_le r 55296 with h3 | h3
 ·obtain rfl:R=true:=by rw [HI.out];simp;omega
  go_enter func162,ntmps162
  go_wp2
  go_ret
  exact ⟨rfl,Below.refl _ _⟩
 rcases Int.lt_or_le 57343 r with h4 | h4
 ·obtain rfl:R=true:=by rw [HI.out];simp;omega
  go_enter func162,ntmps162
  go_wp2
  go_ret
  exact ⟨rfl,Below.refl _ _⟩
 ·obtain rfl:R=false:=by rw [HI.out,Bool.eq_false_iff];simp;omega
  have e1 : ¬ r<55296:=by omega
  have e2 : ¬ 57343<r:=by omega
  go_enter func162,ntmps162
  go_wp2
  go_ret
  exact ⟨rfl,Below.refl _ _⟩
theorem rnames (w:World):Calls prog 161 #[] w (ql 9 1 id w 32 nmL):=by
 go_enter func161,ntmps161
 go_wp2
 go_ret
 exact ⟨_,_,rfl,qx (xs:=nmL) rfl rfl (Nat.le_refl _) (by omega),(Below.refl _ _).alloc (Nat.le_refl _) _⟩
def cntS (x:Nat):Nat:=((List.range 32).filter fun i=>decide (yq i<x)).length
theorem cntS_33:cntS 33=0:=by decide +kernel
theorem qkk : ∀ x:Fin 127,cntS (x.val+1)=cntS x.val+(if isS (x.val:Int) then 1 else 0):=by decide +kernel
theorem qi7 : ∀ i:Fin 32,cntS (yq i.val)=i.val:=by decide +kernel
theorem cntS_le : ∀ x:Fin 127,cntS x.val<=32:=by decide +kernel
def qhZ (r:Int):ByteArray:=match jM r with
 | some i=>nb i
 | none=>⟨#[]⟩
theorem rname (r:Int) (w:World):Calls prog 164 #[.int .i32 r] w (qh (.string (qhZ r)) w):=by
 have HSI:Hid (∀ x w,Calls prog 163 #[.int .i32 x] w (qh (.bool (isS x)) w)):=Lh rsign
 unfold qhZ
 cases hi:jM r with
 | none =>
  have H0:Hid (∀ w,Calls prog 163 #[.int .i32 r] w (qh (.bool false) w)):=Lh fun w=>by
   have:=rsign r w
   unfold isS at this
   rwa [hi] at this
  clear hi
  go_enter func164,ntmps164
  go_wp2_with (go_at_call 163;refine (H0.out _).mono ?_;rintro e w1 ⟨rfl,hbel1⟩)
  go_ret
  exact ⟨rfl,hbel1⟩
 | some i =>
  obtain ⟨hi32,rfl,hr1,hr2⟩:=jz hi
  have H0:Hid (∀ w,Calls prog 163 #[.int .i32 (yq i:Nat)] w (qh (.bool true) w)):=Lh fun w=>by
   have:=rsign (yq i:Int) w
   unfold isS at this
   rwa [hi] at this
  have HC:=Lh (qi7 ⟨i,hi32⟩)
  simp only at HC
  clear hi
  simp only
  generalize yq i=r at *
  go_enter func164,ntmps164
  go_wp2_with (go_at_call 163;refine (H0.out _).mono ?_;rintro e w1 ⟨rfl,hbel1⟩)
  have hr127:r<127:=by omega
  have HST:Hid (∀ n,n<127->cntS (n+1)=cntS n+(if isS (n:Int) then 1 else 0)):=Lh fun n h=>qkk ⟨n,h⟩
  have HLE:Hid (∀ n,n<127->cntS n<=32):=Lh fun n h=>cntS_le ⟨n,h⟩
  have H33:=Lh cntS_33
  have hnb:Hid (nmL[i]? = some (.string (nb i))):=Lh (by simp [nmL,hi32])
  generalize cntS=cnt at *
  obtain ⟨wa,rfl⟩ : ∃ x:World,x=w1:=⟨_,rfl⟩
  go_loopw [3,4] (fun k x wr=>∃ n:Nat,33<=n/\n<=r/\k = .int .i64 (cnt n:Nat)/\x = .int .i32 (n:Int)/\Below wa.heap.size wa wr) (fun _ x _=>r-(intOf x).toNat)
  case atStart=>exact ⟨33,by omega,by omega,by rw [H33.out];rfl,rfl,Below.refl _ _⟩
  case round =>
   obtain ⟨n,hn1,hn2,rfl,rfl,hbel⟩:=hrel
   by_cases hlt:n<r
   ·have hst:=Lh (HST.out n (by omega))
    have hle:=HLE.out n (by omega)
    have HX:=Lh (HSI.out (n:Int))
    generalize isS (n:Int)=X at *
    cases X with
    | true =>
     have hst2:Hid (cnt (n+1)=cnt n+1):=Lh (by rw [hst.out];rfl)
     go_wp2_with (go_at_call 163;refine (HX.out _).mono ?_;rintro e w2 ⟨rfl,hbel2⟩)
     exact ⟨⟨n+1,by omega,by omega,by rw [hst2.out];go_num,by go_num,hbel.trans (hbel2.mono hbel.size)⟩,by simp [intOf];omega⟩
    | false =>
     have hst2:Hid (cnt (n+1)=cnt n):=Lh (by rw [hst.out];rfl)
     go_wp2_with (go_at_call 163;refine (HX.out _).mono ?_;rintro e w2 ⟨rfl,hbel2⟩)
     exact ⟨⟨n+1,by omega,by omega,by rw [hst2.out],by go_num,hbel.trans (hbel2.mono hbel.size)⟩,by simp [intOf];omega⟩
   ·obtain rfl:n=r:=by omega
    rw [HC.out]
    go_wp2_with (go_at_call 161;refine (rnames _).mono ?_;rintro e w2 ⟨A2,c2,rfl,hown2,hbel2⟩;obtain ⟨b2,o2,rfl,_,hc2⟩:=(Rd.of_own hown2).at_ hi32;rw [hnb.out] at hc2)
    go_ret
    exact ⟨rfl,hbel1.trans ((hbel.trans (hbel2.mono hbel.size)).mono hbel1.size)⟩
end Go.Proofs.YticbpkghcglgkaaGreatDoor
namespace Go.Proofs.YticbpkghcglgkaaGreatDoor
open Go.Proofs.Tryz Go.RowKit
set_option maxRecDepth 20000
theorem RaS.next {w wr:World} {s:ByteArray} {j:Nat} (h:RaS w s j wr) (hj:j<s.size):RaS w s (j+1) (wr.setCell ⟨w.heap.size,j,none⟩ (.int .u8 (((qB s)[j]'(by rw [zT];exact hj)-32:Nat):Int))):=by
 refine ⟨fun i hi=>⟨?_,?_⟩,h.2.setCell (Nat.le_refl _) _⟩
 ·by_cases hij:i=j
  ·subst hij
   rw [World.cell?_setCell_same' _ _ _ (by rw [(h.1 i hi).1];rfl),qc9 s (i+1) i hi,if_pos (by omega)]
  ·rw [World.cell?_setCell_other _ _ _ _ (by intro e;injection e with _ e;exact hij e.symm),(h.1 i hi).1,qc9 s (j+1) i hi,qc9 s j i hi]
   by_cases hl:i<j
   ·rw [if_pos hl,if_pos (by omega)]
   ·rw [if_neg hl,if_neg (by omega)]
 ·rw [World.frozen?_setCell]
  exact (h.1 i hi).2
end Go.Proofs.YticbpkghcglgkaaGreatDoor
