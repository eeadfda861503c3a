/- Joined: Tail, Lvj, Lvk, Ref1, Rp1, Rp3, Rp4. -/
import Derived.BigRegion
import Derived.Laws.EntriesVeiled
import Derived.Test.YtbogmeeijdaijaaGreatDoorZAN
set_option linter.unusedVariables false
set_option linter.unusedSimpArgs false
set_option linter.unnecessarySimpa false
set_option maxHeartbeats 4000000
namespace Go.Proofs.YtbogmeeijdaijaaGreatDoor
open Go.Proofs.Tryz Go.RowKit
set_option maxRecDepth 20000
section
variable {P : Program}
def qa6 (L:List Oper):Nat->Nat->Nat->Bool
 | 0,_,_=>false
 | f+1,i,j=>match L[i]? with
  | some o=>o.after.toList.any fun e=>Region.binds .any e&&(decide (e.on=j) || qa6 L f e.on j)
  | none=>false
theorem qaw {L:List Oper} {f i j:Nat} (h:qa6 L f i j=true) : ∃ o,L[i]? = some o/\∃ e∈o.after,Region.binds .any e=true/\(e.on=j∨∃ f',f=f'+1/\qa6 L f' e.on j=true):=by
 cases f with
 | zero=>cases h
 | succ f =>
  unfold qa6 at h
  cases ho:L[i]? with
  | none=>rw [ho] at h;cases h
  | some o =>
   rw [ho] at h;simp only [List.any_eq_true,Bool.and_eq_true,Bool.or_eq_true,decide_eq_true_eq,Array.mem_toList_iff] at h;obtain ⟨e,he,hb,h⟩:=h;exact ⟨o,rfl,e,he,hb,h.imp id fun h=>⟨f,rfl,h⟩⟩
theorem reach_lt {L:List Oper} (hord : ∀ i o,L[i]? = some o->∀ e∈o.after,Region.binds .any e=true->e.on<i) : ∀ (f i j:Nat),qa6 L f i j=true->j<i:=by
 intro f
 induction f with
 | zero=>intro i j h;cases h
 | succ f ih =>
  intro i j h;obtain ⟨o,ho,e,he,hb,h⟩:=qaw h;have h1:=hord i o ho e he hb
  rcases h with h | ⟨f',hf,h⟩
  ·omega
  ·obtain rfl:f=f':=by omega
   have:=ih _ _ h
   omega
def qeo (L:List Oper) (k:Nat):Bool:=decide (k<=L.length)&&(List.range L.length).all fun i=>match L[i]? with
 | some o=>(o.after.all fun e=>!Region.binds .any e || decide (e.on<i))&&(match o.guard with | some (j,_)=>decide (j<i) | none=>true)&&(decide (i<k) || (List.range i).all fun j=>qa6 L i i j)
 | none=>true
theorem qcn {L:List Oper} {k:Nat} (h:qeo L k=true):k<=L.length/\∀ i o,L[i]? = some o->(∀ e∈o.after,Region.binds .any e=true->e.on<i)/\(∀ j b,o.guard=some (j,b)->j<i)/\(k<=i->∀ j,j<i->qa6 L i i j=true):=by
 unfold qeo at h;rw [Bool.and_eq_true,decide_eq_true_eq,List.all_eq_true] at h;refine ⟨h.1,fun i o hi=>?_⟩;have hl:i<L.length:=(List.getElem?_eq_some_iff.1 hi).1;have:=h.2 i (List.mem_range.2 hl);rw [hi] at this;simp only [Bool.and_eq_true,Bool.or_eq_true,decide_eq_true_eq,Array.all_eq_true_iff_forall_mem,List.all_eq_true,List.mem_range] at this;obtain ⟨⟨h1,h2⟩,h3⟩:=this;refine ⟨fun e he hb=>?_,fun j b hg=>?_,fun hk j hj=>?_⟩
 ·rcases h1 e he with h | h
  ·rw [hb] at h;cases h
  ·exact h
 ·rw [hg] at h2
  simpa using h2
 ·rcases h3 with h | h
  ·omega
  ·exact h j hj
theorem tail_any {L:List Oper} {k:Nat} {Q:Exit->Act->World->Prop} (hL:qeo L k=true) : ∀ (T:List Oper) (m fuel:Nat) (listed:Array Bool) (a:Act) (w:World),k<=m->L.drop m=T->listed.size=L.length ->
  (∀ j,j<L.length->listed.getD j true=decide (j<m))->T.length<=fuel->wpList P L.toArray Q T a w->wpAny P .any L.toArray Q fuel listed a w:=by
 have hsp:=(qcn hL).2;intro T
 induction T with
 | nil =>
  intro m fuel listed a w hk hd hs hl _ h;have hlen:L.length<=m:=List.drop_eq_nil_iff.1 hd;have hr:Region.ready .any L.toArray listed=[]:=by
   rw [List.eq_nil_iff_forall_not_mem];intro i hi;obtain ⟨h1,o,h2,_⟩:=mem_ready.1 hi;rw [La] at h2;have hi:=(List.getElem?_eq_some_iff.1 h2).1;rw [hl i hi,Ll L0] at h1
   cases h1
  cases fuel with
  | zero=>exact ⟨hr,h⟩
  | succ f=>exact ⟨fun _=>h,fun i hi=>by rw [hr] at hi;cases hi⟩
 | cons o T ih =>
  intro m fuel listed a w hk hd hs hl hf h;have hm:m<L.length:=by
   rcases Nat.lt_or_ge m L.length with h | h
   ·exact h
   ·rw [Lv h] at hd;cases hd
  rw [Ls hm] at hd
  injection hd with hd1 hd2
  have hmo:L[m]? = some o:=by rw [List.getElem?_eq_getElem hm,hd1]
  obtain ⟨f,rfl⟩ : ∃ f,fuel=f+1:=⟨fuel-1,by simp at hf;omega⟩
  have hgd : ∀ j,j<L.length->listed.getD j false=listed.getD j true:=fun j hj=>by
   rw [Array.getD_eq_getD_getElem?,Array.getD_eq_getD_getElem?,Array.getElem?_eq_getElem L0]
   rfl
  have hrm:m∈Region.ready .any L.toArray listed:=by
   refine mem_ready.2 ⟨by rw [hl m hm,Lk L0],o,by simpa using hmo,fun e he hb=>?_⟩;have:=(hsp m o hmo).1 e he hb;rw [hgd _ L0,hl _ L0,Ll this]
  refine ⟨fun h0=>(by rw [h0] at hrm;cases hrm),fun i hi=>?_⟩;obtain ⟨h1,oi,h2,h3⟩:=mem_ready.1 hi;rw [La] at h2;have hil:=(List.getElem?_eq_some_iff.1 h2).1;rw [hl i hil] at h1;have him : ¬ i<m:=of_decide_eq_false h1;have hie:i=m:=by
   rcases Nat.lt_or_ge m i with hlt | hge
   ·obtain ⟨o',ho',e,he,hb,hon⟩:=qaw ((hsp i oi h2).2.2 L0 m hlt);obtain rfl:o'=oi:=by rw [h2] at ho';injection ho' with e;exact e.symm
    have h4:=h3 e he hb;have h5:=(hsp i _ h2).1 e he hb;rw [hgd _ L0,hl _ L0,decide_eq_true_iff] at h4
    rcases hon with hon | ⟨f',_,hon⟩
    ·omega
    ·have:=reach_lt (fun i o ho=>(hsp i o ho).1) _ _ _ hon
     omega
   ·omega
  subst hie;obtain rfl:o=oi:=by rw [hmo] at h2;injection h2
  have hK : ∀ a w,wpList P L.toArray Q T a w->wpAny P .any L.toArray Q f (listed.setIfInBounds i true) a w:=fun a w h=>by
   refine ih (i+1) f _ a w L0 hd2 (by rw [Array.size_setIfInBounds];exact hs) (fun j hj=>?_) (by simp at hf;omega) h
   by_cases hji:j=i
   ·subst hji;rw [Ll L0,Array.getD_eq_getD_getElem?]
    simp [hs,hj]
   ·rw [Array.getD_eq_getD_getElem?,Array.getElem?_setIfInBounds_ne (Ne.symm hji),<- Array.getD_eq_getD_getElem?,hl j hj,Bool.eq_iff_iff,decide_eq_true_iff,decide_eq_true_iff]
    omega
  unfold wpOp;rw [La,hmo];simp only;rw [wpList] at h
  split
  ·rename_i hw
   rw [if_pos hw] at h;exact h.imp (Oper.wp_mono hK) id
  ·rename_i hw
   rw [if_neg hw] at h;exact hK _ _ h
theorem qg0 {L:List Oper} {k j:Nat} (tmps:Array Value) (h:j<k):yielded (L.take k).toArray tmps j=yielded L.toArray tmps j:=by
 unfold yielded;rw [La,La,List.getElem?_take_of_lt h]
theorem qhx {L:List Oper} {k:Nat} {Q:Exit->Act->World->Prop} {C:World->Prop} (hL:qeo L k=true) : ∀ (fuel:Nat) (ll listed:Array Bool) (a:Act) (w:World),ll.size=k->listed.size=L.length ->
  (∀ j,j<k->listed.getD j true=ll.getD j true)->(∀ j,k<=j->j<L.length->listed.getD j true=false)->(∀ p,p<k->ll.getD p true=true->∀ o,L[p]? = some o->∀ e∈o.after,Region.binds .any e=true->ll.getD e.on true=true)->C w ->
  wpAnyQ P .any (L.take k).toArray C (fun a'=>∀ w',C w'->wpList P L.toArray Q (L.drop k) a' w') fuel ll a->wpAny P .any L.toArray Q (fuel+(L.length-k)) listed a w:=by
 obtain ⟨hkl,hsp⟩:=qcn hL;have hlt:(L.take k).length=k:=by rw [Lu];omega
 have hend : ∀ (ll:Array Bool),ll.size=k->Region.ready .any (L.take k).toArray ll=[]->∀ i,i<k->ll.getD i true=true:=by
  intro ll hsz hr i
  induction i using Nat.strongRecOn with
  | ind i ih =>
   intro hi
   cases hli:ll.getD i true with
   | true=>rfl
   | false =>
    exfalso
    have ho:L[i]? = some (L[i]'(by omega)):=List.getElem?_eq_getElem L0;have hm:i∈Region.ready .any (L.take k).toArray ll:=by
     refine mem_ready.2 ⟨hli,L[i]'(by omega),by rw [La,List.getElem?_take_of_lt hi];exact ho,fun e he hb=>?_⟩;have h2:=(hsp i _ ho).1 e he hb;have h3:=ih e.on h2 L0;rw [Array.getD_eq_getD_getElem?] at h3 ⊢;rw [Array.getElem?_eq_getElem L0] at h3 ⊢;exact h3
    rw [hr] at hm
    cases hm
 have hfin : ∀ (fuel:Nat) (ll listed:Array Bool) (a:Act) (w:World),ll.size=k->listed.size=L.length->(∀ j,j<k->listed.getD j true=ll.getD j true)->(∀ j,k<=j->j<L.length->listed.getD j true=false) ->
   (∀ i,i<k->ll.getD i true=true)->wpList P L.toArray Q (L.drop k) a w->wpAny P .any L.toArray Q (fuel+(L.length-k)) listed a w:=fun fuel ll listed a w hs1 hs2 h1 h2 h3 h =>
  tail_any hL (L.drop k) k _ listed a w (Ld _) rfl hs2 (fun j hj=>by
   rcases Nat.lt_or_ge j k with hjk | hjk
   ·rw [h1 j hjk,h3 j hjk,Ll hjk]
   ·rw [h2 j hjk hj,Lk L0]) (by rw [List.length_drop];omega) h
 intro fuel
 induction fuel with
 | zero=>intro ll listed a w hs1 hs2 h1 h2 hcl hC h;exact hfin 0 ll listed a w hs1 hs2 h1 h2 (hend ll hs1 h.1) (h.2 w hC)
 | succ f ih =>
  intro ll listed a w hs1 hs2 h1 h2 hcl hC h;have hreach : ∀ (f p x:Nat),p<k->ll.getD p true=true->qa6 L f p x=true->ll.getD x true=true:=by
   intro f
   induction f with
   | zero=>intro p x _ _ h;cases h
   | succ f ihf =>
    intro p x hp hl h;obtain ⟨o,ho,e,he,hb,h⟩:=qaw h;have h3:=hcl p hp hl o ho e he hb;have h4:=(hsp p o ho).1 e he hb
    rcases h with h | ⟨f',hf,h⟩
    ·rw [<- h];exact h3
    ·obtain rfl:f=f':=by omega
     exact ihf _ _ L0 h3 h
  rcases hrd:Region.ready .any (L.take k).toArray ll with _ | ⟨x,xs⟩
  ·exact hfin (f+1) ll listed a w hs1 hs2 h1 h2 (hend ll hs1 hrd) (h.1 hrd w hC)
  ·have hx:x∈Region.ready .any (L.take k).toArray ll:=by rw [hrd];exact List.mem_cons_self
   have hgd : ∀ j,j<L.length->listed.getD j false=listed.getD j true:=fun j hj=>by
    rw [Array.getD_eq_getD_getElem?,Array.getD_eq_getD_getElem?,Array.getElem?_eq_getElem L0]
    rfl
   have hgl : ∀ j,j<k->ll.getD j false=ll.getD j true:=fun j hj=>by
    rw [Array.getD_eq_getD_getElem?,Array.getD_eq_getD_getElem?,Array.getElem?_eq_getElem L0]
    rfl
   have hiff : ∀ i,i<k->(i∈Region.ready .any L.toArray listed↔i∈Region.ready .any (L.take k).toArray ll):=fun i hi=>by
    rw [mem_ready,mem_ready,La,La,List.getElem?_take_of_lt hi,h1 i hi];have key : ∀ o,L[i]? = some o->((∀ e∈o.after,Region.binds .any e=true->listed.getD e.on false=true)↔∀ e∈o.after,Region.binds .any e=true->ll.getD e.on false=true):=fun o ho=>by
     constructor
     ·intro h e he hb;have:=(hsp i o ho).1 e he hb;rw [hgl _ L0,<- h1 _ L0,<- hgd _ L0];exact h e he hb
     ·intro h e he hb;have:=(hsp i o ho).1 e he hb;rw [hgd _ L0,h1 _ L0,<- hgl _ L0];exact h e he hb
    constructor
    ·rintro ⟨p,o,ho,q⟩;exact ⟨p,o,ho,(key o ho).1 q⟩
    ·rintro ⟨p,o,ho,q⟩;exact ⟨p,o,ho,(key o ho).2 q⟩
   have hxk:x<k:=by
    obtain ⟨_,o,ho,_⟩:=mem_ready.1 hx;rw [La] at ho;have:=(List.getElem?_eq_some_iff.1 ho).1
    omega
   rw [show f+1+(L.length-k)=(f+(L.length-k))+1 by omega];refine ⟨fun h0=>?_,fun i hi=>?_⟩
   ·have:=(hiff x hxk).2 hx;rw [h0] at this
    cases this
   ·have hik:i<k:=by
     rcases Nat.lt_or_ge i k with hik | hik
     ·exact hik
     ·exfalso
      obtain ⟨_,o,ho,hall⟩:=mem_ready.1 hi;rw [La] at ho;obtain ⟨o',ho',e,he,hb,hon⟩:=qaw ((hsp i o ho).2.2 hik x L0);obtain rfl:o'=o:=by rw [ho] at ho';injection ho' with e;exact e.symm
      have h5:=hall e he hb;have h6:=(mem_ready.1 hx).1;have h7:=(hsp i _ ho).1 e he hb;have hil:=(List.getElem?_eq_some_iff.1 ho).1;rw [hgd _ L0] at h5
      rcases hon with hon | ⟨f',_,hon⟩
      ·rw [hon,h1 x hxk,h6] at h5
       cases h5
      ·rcases Nat.lt_or_ge e.on k with hek | hek
       ·rw [h1 _ hek] at h5;rw [hreach _ _ _ hek h5 hon] at h6
        cases h6
       ·rw [h2 _ hek L0] at h5
        cases h5
    have hq:=h.2 i ((hiff i hik).1 hi);have hgo : ∀ a' w',C w'->wpAnyQ P .any (L.take k).toArray C (fun a'=>∀ w',C w'->wpList P L.toArray Q (L.drop k) a' w') f (ll.setIfInBounds i true) a'->wpAny P .any L.toArray Q (f+(L.length-k)) (listed.setIfInBounds i true) a' w':=fun a' w' hC' h'=>by
     refine ih _ _ a' w' (by rw [Array.size_setIfInBounds];exact hs1) (by rw [Array.size_setIfInBounds];exact hs2) (fun j hj=>?_) (fun j hj hj2=>?_) (fun p hp hl o ho e he hb=>?_) hC' h'
     ·by_cases hji:j=i
      ·subst hji;rw [Array.getD_eq_getD_getElem?,Array.getD_eq_getD_getElem?,Array.getElem?_setIfInBounds_self_of_lt L0,Array.getElem?_setIfInBounds_self_of_lt L0]
      ·rw [Array.getD_eq_getD_getElem?,Array.getD_eq_getD_getElem?,Array.getElem?_setIfInBounds_ne (Ne.symm hji),Array.getElem?_setIfInBounds_ne (Ne.symm hji),<- Array.getD_eq_getD_getElem?,<- Array.getD_eq_getD_getElem?];exact h1 j hj
     ·rw [Array.getD_eq_getD_getElem?,Array.getElem?_setIfInBounds_ne L0,<- Array.getD_eq_getD_getElem?];exact h2 j hj hj2
     ·have hset : ∀ x,ll.getD x true=true->(ll.setIfInBounds i true).getD x true=true:=fun x hx=>by
       by_cases hxi:x=i
       ·subst hxi;rw [Array.getD_eq_getD_getElem?,Array.getElem?_setIfInBounds_self_of_lt L0]
        rfl
       ·rw [Array.getD_eq_getD_getElem?,Array.getElem?_setIfInBounds_ne (Ne.symm hxi),<- Array.getD_eq_getD_getElem?];exact hx
      have hek:=(hsp p o ho).1 e he hb
      by_cases hpi:p=i
      ·subst hpi;obtain ⟨_,o',ho',hall⟩:=mem_ready.1 hi;rw [La,ho] at ho'
       injection ho' with ho'
       subst ho';have:=hall e he hb;rw [hgd _ L0,h1 _ L0] at this;exact hset _ this
      ·rw [Array.getD_eq_getD_getElem?,Array.getElem?_setIfInBounds_ne (Ne.symm hpi),<- Array.getD_eq_getD_getElem?] at hl;exact hset _ (hcl p hp hl o ho e he hb)
    unfold qOp at hq;unfold wpOp;have hoi:L[i]? = some (L[i]'(by omega)):=List.getElem?_eq_getElem L0;rw [La,List.getElem?_take_of_lt hik,hoi] at hq;rw [La,hoi];simp only at hq ⊢;have hwt:Region.wanted (L[i]'(by omega)) (yielded (L.take k).toArray a.tmps)=Region.wanted (L[i]'(by omega)) (yielded L.toArray a.tmps):=by
     unfold Region.wanted
     cases hg:(L[i]'(by omega)).guard with
     | none=>rfl
     | some p =>
      obtain ⟨j,b⟩:=p;simp only;rw [qg0 a.tmps (Nat.lt_trans ((hsp i _ hoi).2.1 j b hg) hik)]
    rw [hwt] at hq
    split
    ·rename_i hw
     rw [if_pos hw] at hq;exact .inl (Oper.wp_of_quiet hC hgo hq)
    ·rename_i hw
     rw [if_neg hw] at hq;exact hgo _ _ hC hq
theorem qdW {id:Nat} {Q:Exit->Act->World->Prop} {a:Act} {w:World} {L:List Oper} {C:World->Prop} (k:Nat) (hm:P.follows .mixedOrders=true) (hB:Region.lexB .any (L.take k).toArray=true) (hL:qeo L k=true) (hC:C w.drew)
  (h:wpQuiet P (L.take k).toArray C (fun a'=>∀ w',C w'->wpList P L.toArray Q (L.drop k) a' w') (L.take k) a):(Code.region id L.toArray true).wp P Q a w:=by
 obtain ⟨hkl,_⟩:=qcn hL;have hlt:(L.take k).length=k:=by rw [Lu];omega
 simp only [Region.lexB,Bool.and_eq_true] at hB;have h1:=wpAnyQ_lex (C:=C) (md:=.any) hB.1 (L.take k) 0 (Array.replicate (L.take k).toArray.size false) a L1 (by simpa using hB.2) h;rw [hlt,List.size_toArray,hlt] at h1;refine wp_region_any hm ?_
 have h2:=qhx (Q:=Q) hL k (Array.replicate k false) (Array.replicate L.length false) a w.drew L1 L1 (fun j hj=>by
  rw [Array.getD_eq_getD_getElem?,Array.getD_eq_getD_getElem?,Array.getElem?_replicate,Array.getElem?_replicate,if_pos L0,if_pos hj]) (fun j _ hj=>by
  rw [Array.getD_eq_getD_getElem?,Array.getElem?_replicate,if_pos hj];rfl) (fun p hp hl=>by rw [Array.getD_eq_getD_getElem?,Array.getElem?_replicate,if_pos hp] at hl;cases hl) hC h1
 rw [List.size_toArray,show L.length=k+(L.length-k) by omega];rw [show k+(L.length-k)=L.length by omega];rw [show k+(L.length-k)=L.length by omega] at h2;exact h2
theorem qbs {id:Nat} {Q:Exit->Act->World->Prop} {a:Act} {w:World} {L:List Oper} (B k:Nat) (hm:P.follows .mixedOrders=true) (hB:Region.lexB .any (L.take k).toArray=true) (hL:qeo L k=true)
  (h:wpQuiet P (L.take k).toArray (fun w'=>∃ x:Near B w,w'=x.w) (fun a'=>∀ w',(∃ x:Near B w,w'=x.w)->wpList P L.toArray Q (L.drop k) a' w') (L.take k) a):(Code.region id L.toArray true).wp P Q a w :=
 qdW (C:=fun w'=>∃ x:Near B w,w'=x.w) k hm hB hL ⟨⟨w.drew,(Le B w).drew⟩,rfl⟩ h
end
def szc (w:World) (G:Nat):Nat:=match w.cell? ⟨G,2,none⟩ with
 | some v=>qdq v
 | none=>0
theorem szc_ED {base G c:Nat} {v:Vw} {rs:List RowM} {A:Option Addr} {X:World} (h:ED base G v rs A c X):szc X G=rs.length:=by
 unfold szc;rw [(qw h.blk).2.2.1]
 rfl
theorem csize_ {base G:Nat} {v:Vw} {rs:List RowM} {A:Option Addr} {cA:Nat} {X0:World} (h:ED base G v rs A cA X0) (hbase:base<=X0.heap.size) (hh:rs.length<=1000) (hrl : ∀ x∈rs,x.l.length<=100000000)
  (c:Chg) (Ag:Option Addr) (cap:Nat) (hk:c.kind=1) (hr:zh v c=true) :
  Calls prog 73 #[.pointer (some ⟨G,0,none⟩),jH c Ag cap] X0 (EdR base G (jY v c) X0):=by
 obtain ⟨W,Hh,rows,vr,vc,vis⟩:=v;obtain ⟨kind,row,col,count,til,g⟩:=c;dsimp only at hk;subst hk;obtain ⟨r1,r2,r3,r4⟩:1<=row/\row<=60/\1<=col/\col<=132:=of_decide_eq_true hr;obtain ⟨H,rfl⟩ : ∃ H:Nat,row=H:=⟨row.toNat,by omega⟩
 have hS:jY ⟨W,Hh,rows,vr,vc,vis⟩ ⟨1,(H:Int),col,count,til,g⟩=⟨col,H,((List.range H).map fun i=>rows.getD i []).map (kr col),min vr ((H:Int)-1),min vc (col-1),vis⟩:=by
  unfold jY;rw [if_pos (show (1:Int)=1 from rfl)];simp only [Int.toNat_natCast,List.map_map]
  rfl
 rw [hS];obtain ⟨R,hR⟩ : ∃ R,((List.range H).map fun i=>rows.getD i [])=R:=⟨_,rfl⟩
 obtain ⟨M1,hM1⟩ : ∃ M1:Int,min vr ((H:Int)-1)=M1:=⟨_,rfl⟩
 obtain ⟨M2,hM2⟩ : ∃ M2:Int,min vc (col-1)=M2:=⟨_,rfl⟩
 rw [hR,hM1,hM2];have hR':=Lh hR;have hM1':=Lh hM1;have hM2':=Lh hM2;clear hR hM1 hM2;have hE:=h.eq;dsimp only at hE;have hn:rows.length=rs.length:=by rw [hE,vJ]
 have hRl:Hid (∀ i,(rows.getD i []).length<=100000000):=Lh fun i=>by
  rw [hE,List.getD_eq_getElem?_getD,rls,List.getElem?_map]
  cases hx:rs[i]? with
  | none=>exact Nat.zero_le _
  | some x=>exact hrl x (List.mem_of_getElem? hx)
 have hB:=h.blk;have hGl:=hB.lt;have hED:=Lh h;clear hS hr hrl h
 go_enter func73,ntmps73
 go_upto_region 1 with fail
 refine qa (fun X=>Blk X X0.heap.size 57 (yG ⟨1,(H:Int),col,count,til,g⟩ Ag cap)/\Below X0.heap.size X0 X) ⟨Blk.new _ _ _,L5⟩ ?_;rintro X ⟨hbx,hb⟩;have c1:X.cell? ⟨X0.heap.size,1,none⟩=some (.int .i64 (H:Int)):=hbx.cell 1;have c2:X.cell? ⟨X0.heap.size,2,none⟩=some (.int .i64 col):=hbx.cell 2;have hBX:=hB.below hb hGl;obtain ⟨e0,e1,e2,e3,e4,e5⟩:=qw hBX;have f0:=hBX.frozen 0;have f1:=hBX.frozen 1;have hne:X0.heap.size≠G:=by omega
 have hne2:G≠X0.heap.size:=by omega
 have hzX:=hbx.lt;clear e2 e3 e4 e5 hB hBX
 go_region_held3 (fun w'=>w'.cell? ⟨X0.heap.size,1,none⟩=some (.int .i64 (H:Int))/\w'.cell? ⟨X0.heap.size,2,none⟩=some (.int .i64 col)) (go_keep) (first | fail)
 have hI:SzA base G col H vr vc vis rows X0 rows.length (((X.setCell ⟨G,1,none⟩ (.int .i64 (H:Int))).setCell ⟨G,0,none⟩ (.int .i64 col)).drew):=by
  have h1:=((hED.out.below hb).setg (v':=⟨W,H,rows,vr,vc,vis⟩) (i:=1) (u:=.int .i64 (H:Int)) rfl rfl).setg (v':=⟨col,H,rows,vr,vc,vis⟩) (i:=0) (u:=.int .i64 col) rfl rfl;refine ⟨Ld _,rs,A,cA,hn.symm,by rw [Nat.sub_self,List.replicate_zero,List.append_nil,hE],?_,(((hb.mono hbase).setCell (p:=⟨G,1,none⟩) hED.out.lo _).setCell (p:=⟨G,0,none⟩) hED.out.lo _).drew,by simp [World.drew];omega⟩;rw [<- hE];exact h1.drew
 go_wp2
 go_loopw [] (fun wr=>∃ m,SzA base G col H vr vc vis rows X0 m wr) (fun wr=>H-szc wr G)
 case atStart=>exact ⟨rows.length,hI⟩
 case round =>
  clear hI hbx hb hED c1 c2 e0 e1 f0 f1;obtain ⟨m,hm,rs1,A1,d1,hl1,hr1,hE1,hb1,hz1⟩:=hrel;obtain ⟨e0,e1,e2,e3,e4,e5⟩:=qw hE1.blk;dsimp only at e0 e1 e3 e4 e5;have hsz:=szc_ED hE1;rw [hl1] at e2 hsz
  by_cases hlt:m<H
  ·have hrow:=hE1.rows;rw [hl1] at hrow;have hrow2 : ∀ n,(wr.drewN n).ownsRow base 45 1 (.slice A1 m d1) m (zQ rs1):=fun n=>hrow
   have hbz:base<=wr.heap.size:=by omega
   have hne4:some G≠(Value.slice A1 m d1).ownBlock:=fun e=>by
    rw [qC] at e;exact (List.pairwise_cons.1 hE1.dj).1 (obS A1) L1 G rfl e.symm
   go_wp2
   go_quiet (fail)
   go_wp2_with (at_builtin;go_must (refine qg rfl _ _ _ rfl elt_row base _ rfl ((hrow2 _).alloc _) _ _ rfl (qe (xs:=[.slice none 0 0]) (by rfl) rfl) ?_);intro A4 c4 w4 hown4 hbel4 hgr4 hat4;have hB4:=((Blk.drewN hE1.blk nq).alloc (.cells #[.slice none 0 0] 45)).grown hgr4 hne4;have q4:=(qw hB4).2.2.1;have z4:=hB4.frozen 2)
   have hEn:=(hE1.below (qf (n:=nq) (Le _ _))).addnil L5 (by rw [hl1]) hown4 hgr4 hat4;have hrn:rls rs1++[[]]=rls (rs1++[qaI]):=by unfold rls;rw [List.map_append];rfl
   have hsn:=szc_ED hEn;rw [Lf,hl1] at hsn;refine ⟨⟨m+1,by omega,rs1++[qaI],A4,c4,by rw [Lf,hl1];rfl,?_,by rw [<- hrn];exact hEn,?_,?_⟩,by rw [hsn,hsz];simp only [Lz];omega⟩
   ·rw [<- hrn,hr1,List.append_assoc,show m+1-rows.length=(m-rows.length)+1 by omega,List.replicate_succ']
   ·exact ((((qf hb1).alloc hbz _).trans hbel4).setCell (p:=⟨G,2,none⟩) hE1.lo _)
   ·have:=hgr4.size
    simp at this ⊢
    omega
  ·go_wp2
   go_quiet (fail)
   go_upto_region 4 with fail
   have hcaps:=yd hE1.rows;rw [hl1] at hcaps;have hHm:(H:Int)<=m:=by omega
   have hHd:(H:Int)<=d1:=by omega
   have hmd:(m:Int)<=d1:=by omega
   refine qa (fun Y=>Below wr.heap.size wr Y) (qf (Le _ _)) ?_;intro Y hY;have hE2:=hE1.below hY;obtain ⟨-,d1_,d2_,-⟩:=qw hE2.blk;rw [hl1] at d2_;dsimp only at d1_;have hGY:=hE2.blk.lt;have N1 : ∀ x:Near Y.heap.size Y,x.w.cell? ⟨G,1,none⟩=some (.int .i64 (H:Int)):=fun x=>(x.h.cell (p:=⟨G,1,none⟩) hGY).trans d1_
   have N2 : ∀ x:Near Y.heap.size Y,x.w.cell? ⟨G,2,none⟩=some (.slice A1 m d1):=fun x=>(x.h.cell (p:=⟨G,2,none⟩) hGY).trans d2_
   clear e0 e1 e2 e3 e4 e5 d1_ d2_;refine qbs (Y.heap.size) 15 (by kernel_rfl) (by kernel_rfl) (by kernel_rfl) ?_;simp only [List.take_succ_cons,List.take_zero,List.drop_succ_cons,List.drop_zero];(repeat (go_big_quiet_step (fail)));refine wpQuiet_nil ?_;intro _ hw';obtain ⟨x1,hw''⟩:=hw';subst hw'';have hE3:=hE2.below x1.h;have q3:=(qw hE3.blk).2.2.1;have z3:=hE3.blk.frozen 2;rw [hl1] at q3;have hE4:=hE3.cut (m:=H) L0 L0;obtain ⟨G1,cap1,hA,hG1,-⟩:=hE1.rows.form L0;obtain ⟨rfl,rfl⟩:A1=some ⟨G1,0,none⟩/\d1=cap1:=by injection hA with h1 _ h2;exact ⟨h1,h2⟩
   have hRR:(rls rs1).take H=R:=by rw [hr1,<- hR'.out];exact pad_rows rows m H hm L0
   have hI2:SzB base G col H vr vc vis R (some ⟨G1,0,none⟩) d1 X0 0 (x1.w.setCell ⟨G,2,none⟩ (.slice (some ⟨G1,0,none⟩) H d1)):=by
    have e:rls (rs1.take H)=R:=by rw [<- hRR];unfold rls;rw [List.map_take]
    refine ⟨rs1.take H,by rw [<- hR'.out,Lu,Lq,List.length_range];omega,by rw [e];rfl,?_,((hb1.trans ((hY.trans (x1.h.mono hY.size)).mono L0)).setCell (p:=⟨G,2,none⟩) hE1.lo _)⟩;rw [e,<- hRR];exact hE4
   have hsz0:X0.heap.size<=(x1.w.setCell ⟨G,2,none⟩ (.slice (some ⟨G1,0,none⟩) H d1)).heap.size:=by
    have h1:=hY.size;have h2:=x1.h.size;rw [World.size_setCell]
    omega
   have hRk:Hid (∀ k (h:k<R.length),(R[k]).length<=100000000):=Lh fun k h=>by
    have:(((List.range H).map fun i=>rows.getD i [])[k]'(by rw [hR'.out];exact h)).length<=100000000:=by
     rw [List.getElem_map];exact hRl.out _
    simp only [hR'.out] at this;exact this
   have hRn:R.length=H:=by rw [<- hR'.out,Lq,List.length_range]
   go_wp2;clear N1 N2 q3 z3 hE4 hE3 hE2 hE1 hY hGY hcaps hHm hHd hmd hb1 hz1 hsz hlt hRR hr1 hl1 hm;have hH60:H<=60:=by omega
   go_loopw [64] (fun x wr=>∃ k:Nat,k<=H/\x = .int .i64 k/\SzB base G col H vr vc vis R (some ⟨G1,0,none⟩) d1 X0 k wr/\X0.heap.size<=wr.heap.size) (fun x _=>H-(intOf x).toNat)
   case atStart=>exact ⟨0,Nat.zero_le _,rfl,hI2,hsz0⟩
   case round =>
    clear hI2 hsz0;obtain ⟨k,hk,rfl,hSz,hsz⟩:=hrel;obtain ⟨rs2,hl2,hr2,hE5,hb5⟩:=id hSz
    by_cases hlt:k<H
    ·have hkR:k<R.length:=by omega
     have hk2:k<rs2.length:=by omega
     have hxl:rs2[k].l=R[k]:=by
      have e1:(rls rs2)[k]? = some rs2[k].l:=by unfold rls;rw [List.getElem?_map,List.getElem?_eq_getElem hk2];rfl
      rw [hr2,List.getElem?_append_right (by rw [Lq,Lu];omega),Lq,Lu,Nat.min_eq_left L0,Nat.sub_self,Ls hkR,Lb] at e1
      injection e1 with e1
      exact e1.symm
     have hcx:=hE5.rows.cellAt k L0;rw [yF hk2] at hcx;have hrow:=hE5.gl _ (Lt hk2);have hcaps:=yd hrow;have hNx:Hid (∀ w1 A6 c6,Below wr.heap.size wr w1->w1.ownsRow wr.heap.size 64 3 (.slice A6 (kr col R[k]).length c6) (kr col R[k]).length (qi (kr col R[k]))->SzB base G col H vr vc vis R (some ⟨G1,0,none⟩) d1 X0 (k+1) (w1.setCell ⟨G1,k,none⟩ (.slice A6 (kr col R[k]).length c6))/\X0.heap.size<=(w1.setCell ⟨G1,k,none⟩ (.slice A6 (kr col R[k]).length c6)).heap.size):=Lh fun w1 A6 c6 h1 h2=>⟨SzB.next hl2 hr2 hE5 hb5 hkR L0 rfl h1 h2,by rw [World.size_setCell];have:=h1.size;omega⟩
     have hfz:=hE5.rows.frozenAt k;have hG1w:=(vB hE5.rows G1 rfl).2;have hGw:=hE5.blk.lt;have hLk:=hRk.out k hkR;obtain ⟨e0,-,e2,-⟩:=qw hE5.blk;dsimp only at e0;rw [hl2,hRn] at e2;have hHi:(k:Int)<H:=by omega
     rw [<- hxl] at hNx hLk;generalize rs2[k]=x at *
     obtain ⟨l,Al,cl⟩:=x;dsimp only at *
     have hRd:=Rd.of_own hrow;have HTr:Hid (∀ W1,Below wr.heap.size wr W1->Calls prog 98 #[.slice Al (qaT col l) cl] W1 fun e w'=>∃ A6 c6,e = .returned (.slice A6 (kr col l).length c6)/\w'.ownsRow wr.heap.size 64 3 (.slice A6 (kr col l).length c6) (kr col l).length (qi (kr col l))/\Below wr.heap.size wr w'):=Lh fun W1 hW=>by
      have hf:=qhy col l;have hR1:=(hRd.below hW).take hf;rw [<- kM] at hR1;exact (vtrim_ (l.take (qaT col l)) Al (qaT col l) cl wr.heap.size W1 L0 L0 hcaps.2 hR1 hW.size).mono fun e w' ⟨A6,c6,h1,h2,h3⟩=>⟨A6,c6,h1,qt h2 hW.size,hW.trans (h3.mono hW.size)⟩
     have HWd:Hid (∀ q (h:q<l.length) W1,Below wr.heap.size wr W1->∃ b,Al=some ⟨b,0,none⟩/\Calls prog 40 #[.slice (some ⟨b,q * 3,none⟩) 1 (cl-q)] W1 (qh (.int .i64 (glW l[q]:Nat)) W1)):=Lh fun q h W1 hW=>by
      rcases hrow.2 with ⟨hv,hm0⟩ | ⟨b,cap4,cur4,hv,-⟩
      ·omega
      ·obtain rfl:Al=some ⟨b,0,none⟩:=by injection hv
       have hR1:=(((hRd.below hW).cut (k:=q) (cap:=cl) L0 hcaps.1).take (k:=1) L0)
       rw [if_neg L0,Option.map_some,vl,Lo] at hR1;have e:(qi l).drop (q * 3)=qi (l.drop q):=(qbO l q).symm;rw [e,<- kM,Ls h,List.take_succ_cons,List.take_zero] at hR1;have:=qeY [l[q]] (some ⟨b,q * 3,none⟩) 1 (cl-q) wr.heap.size W1 L0 hR1 hW.size;rw [rowW_one] at this;exact ⟨b,rfl,this⟩
     have hfl:=Lh (qhy col l);have HF0:Hid (qaT col l=0+qaT (col-(vM (l.take 0):Nat)) (l.drop 0)):=Lh (by rw [List.take_zero,List.drop_zero,Lo];simp [vM,kw]);generalize qaT col l=F at *
     generalize kr col l=CR at *
     clear hSz hl2 hr2 hE5 hb5 hxl hrow hRd hRk hkR hk2;have hcl63:(cl:Int)<=9223372036854775807:=by have:=hcaps.2;unfold maxLen at this;omega
     have hcl0:=hcaps.1;clear hcaps;obtain ⟨wo,rfl⟩ : ∃ x:World,x=wr:=⟨_,rfl⟩
     go_wp2
     go_loopw [6,7] (fun vn vw wz=>∃ q:Nat,q<=l.length/\vn = .int .i64 q/\vw = .int .i64 (vM (l.take q):Nat)/\Below wo.heap.size wo wz/\Hid (F=q+qaT (col-(vM (l.take q):Nat)) (l.drop q))) (fun vn _ _=>l.length-(intOf vn).toNat)
     case atStart=>exact ⟨0,Nat.zero_le _,rfl,rfl,Le _ _,HF0⟩
     case round =>
      clear HF0;obtain ⟨q,hq,rfl,rfl,hbz,HF⟩:=hrel;have hzz:=hbz.size;have e0z:=(hbz.cell (p:=⟨G,0,none⟩) hGw).trans e0
      by_cases hlq:q<l.length
      ·obtain ⟨b,rfl,hw⟩:=HWd.out q hlq wr hbz;have hW:=Lh hw;have hrt:=qkm hlq;have hfd:=qkF hlq (col-(vM (l.take q):Nat));have hrl:=rowW_le (l.take q);rw [Lu] at hrl;have hg2:glW l[q]<=2:=by unfold glW;split <;> omega
       have HF2:=HF.out;rw [hfd] at HF2;generalize glW l[q]=gw at *
       generalize hr0:vM (l.take q)=r0 at *
       have hr0b:r0<=200000000:=by omega
       have hq1:(q:Int)+1<=l.length:=by omega
       have hq2:(q:Int)+1<=cl:=by omega
       clear hfd hw HWd hrl
       by_cases hfit:col<(r0:Int)+gw
       ·rw [if_pos L0] at HF2;obtain rfl:F=q:=by omega
        clear HF HF2 hr0 hrt;have hFc:F<=cl:=by omega
        have hFi:(F:Int)<=cl:=by omega
        have hF0:(0:Int)<=F:=by omega
        go_upto_region 13 with (go_at_call 40;refine hW.out.mono ?_;rintro e w1 ⟨rfl,hb1⟩;have e0w:=(hb1.cell (p:=⟨G,0,none⟩) (Ly hGw hzz)).trans e0z)
        refine qa (fun Y=>Below wo.heap.size wo Y) (hbz.trans (hb1.mono hzz)) ?_;intro Y hY;have y2:=(hY.cell (p:=⟨G,2,none⟩) hGw).trans e2;have yk:=(hY.cell (p:=⟨G1,k,none⟩) hG1w).trans hcx;have yf:=(hY.frozen (p:=⟨G1,k,none⟩) hG1w).trans hfz
        go_region_law (go_simp;go_at_call 98;refine (HTr.out _ (by first | exact hY | exact hY.drew)).mono ?_;rintro e w2 ⟨A6,c6,rfl,o2,b2⟩;have z2:=(b2.cell (p:=⟨G,2,none⟩) hGw).trans e2;have zk:=(b2.cell (p:=⟨G1,k,none⟩) hG1w).trans hcx;have zf:=(b2.frozen (p:=⟨G1,k,none⟩) hG1w).trans hfz)
        all_goals go_wp2
        all_goals exact ⟨⟨k+1,by omega,by go_num,hNx.out _ _ _ b2 o2⟩,by simp [intOf];omega⟩
       ·rw [if_neg L0,show col-(r0:Int)-gw=col-((r0+gw:Nat):Int) by omega,<- hrt] at HF2;have HF3:Hid (F=(q+1)+qaT (col-(vM (l.take (q+1)):Nat)) (l.drop (q+1))):=Lh L0;have hd:decide (col<(r0:Int)+gw)=false:=Lk hfit;clear HF HF2 hr0
        go_wp2_with (go_at_call 40;refine hW.out.mono ?_;rintro e w1 ⟨rfl,hb1⟩;have e0w:=(hb1.cell (p:=⟨G,0,none⟩) (Ly hGw hzz)).trans e0z)
        exact ⟨⟨q+1,by omega,by go_num,by rw [hrt];go_num,hbz.trans (hb1.mono hzz),HF3⟩,by simp [intOf];omega⟩
      ·obtain rfl:q=l.length:=by omega
       have HF2:=HF.out;rw [Lv (Ld _),qaT] at HF2;obtain rfl:F=l.length:=by omega
       clear HF HF2 HWd
       go_upto_region 13 with fail
       refine qa (fun Y=>Below wo.heap.size wo Y) hbz ?_;intro Y hY;have y2:=(hY.cell (p:=⟨G,2,none⟩) hGw).trans e2;have yk:=(hY.cell (p:=⟨G1,k,none⟩) hG1w).trans hcx;have yf:=(hY.frozen (p:=⟨G1,k,none⟩) hG1w).trans hfz
       go_region_law (go_simp;go_at_call 98;refine (HTr.out _ (by first | exact hY | exact hY.drew)).mono ?_;rintro e w2 ⟨A6,c6,rfl,o2,b2⟩;have z2:=(b2.cell (p:=⟨G,2,none⟩) hGw).trans e2;have zk:=(b2.cell (p:=⟨G1,k,none⟩) hG1w).trans hcx;have zf:=(b2.frozen (p:=⟨G1,k,none⟩) hG1w).trans hfz)
       all_goals go_wp2
       all_goals exact ⟨⟨k+1,by omega,by go_num,hNx.out _ _ _ b2 o2⟩,by simp [intOf];omega⟩
    ·obtain rfl:k=H:=by omega
     have hcr:(R.take k).map (kr col)++R.drop k=R.map (kr col):=by rw [<- hRn,List.take_length,List.drop_length,List.append_nil]
     rw [hcr] at hr2;obtain ⟨e0,e1,-,e3,e4,-⟩:=qw hE5.blk;dsimp only at e0 e1 e3 e4;have f3:=hE5.blk.frozen 3;have f4:=hE5.blk.frozen 4;have g1:=hE5.setg (v':=⟨col,k,rls rs2,M1,vc,vis⟩) (i:=3) (u:=.int .i64 M1) rfl rfl;have g2:=g1.setg (v':=⟨col,k,rls rs2,M1,M2,vis⟩) (i:=4) (u:=.int .i64 M2) rfl rfl;have hB2:=Lh ((hb5.setCell (p:=⟨G,3,none⟩) hE5.lo (.int .i64 M1)).setCell (p:=⟨G,4,none⟩) hE5.lo (.int .i64 M2));have hg2:=Lh g2;have hrl2:=Lh hr2;have hM1:=hM1'.out;have hM2:=hM2'.out;clear hSz hr2 hE5 hb5 g1 g2 hl2 hcr hRk hsz hM1' hM2' hR';go_wp2
     go_region
     all_goals go_wp2
     all_goals go_end0
     refine ⟨rfl,⟨rs2,some ⟨G1,0,none⟩,d1,?_⟩,hB2.out.drew⟩;rw [<- hrl2.out];exact hg2.out.drew
theorem capply_ {base G B:Nat} {v:Vw} {rs:List RowM} {A:Option Addr} {cA:Nat} {X0:World} (h:ED base G v rs A cA X0) (hbase:base<=X0.heap.size) (hlen:(rs.length:Int)=v.height) (hh:v.height<=1000) (hrl : ∀ x∈rs,x.l.length<=100000000)
  (c:Chg) (Ag:Option Addr) (cap:Nat) (hB:B<=base) (rd:Rd X0 B 3 Ag c.glyphs.length (qi c.glyphs)) (hgl:c.glyphs.length<=100000000) (hk:1<=c.kind/\c.kind<=4) (hr:zh v c=true) :
  Calls prog 39 #[.pointer (some ⟨G,0,none⟩),jH c Ag cap] X0 (EdR base G (jY v c) X0):=by
 have hl2 : ∀ x∈rs,x.l.length<=1000000000:=fun x hx=>Lj (hrl x hx) L2
 have hw : ∀ w',Below X0.heap.size X0 w'->ED base G v rs A cA w'/\base<=w'.heap.size/\Rd w' B 3 Ag c.glyphs.length (qi c.glyphs):=fun w' hb=>⟨h.below hb,Lj hbase hb.size,rd.below (hb.mono L0)⟩
 have hb2 : ∀ w' e w'',Below X0.heap.size X0 w'->EdR base G (jY v c) w' e w''->EdR base G (jY v c) X0 e w'':=fun w' e w'' hb ⟨h1,h2,h3⟩=>⟨h1,h2,(hb.mono hbase).trans h3⟩
 obtain ⟨kind,row,col,count,til,g⟩:=c;dsimp only at *
 have hcases:kind=1∨kind=2∨kind=3∨kind=4:=by omega
 rcases hcases with rfl | rfl | rfl | rfl
 ·have HC:Hid (∀ w',Below X0.heap.size X0 w'->Calls prog 73 #[.pointer (some ⟨G,0,none⟩),jH ⟨1,row,col,count,til,g⟩ Ag cap] w' (EdR base G (jY v ⟨1,row,col,count,til,g⟩) X0)):=Lh fun w' hb=>(csize_ (hw w' hb).1 (hw w' hb).2.1 L0 hrl _ Ag cap rfl hr).mono fun e w'' hq=>hb2 w' e w'' hb hq
  clear hb2 hw hr h hlen rd hrl hl2;have HG:=HC;clear HC
  go_enter func39,ntmps39
  go_upto_region 1 with fail
  refine qa (ChgBox X0 ⟨1,row,col,count,til,g⟩ Ag cap) (ChgBox.new X0 ⟨1,row,col,count,til,g⟩ Ag cap _) ?_;rintro X ⟨c0,c1,c2,c3,c4,c5,hb,hzX⟩;dsimp only at c0 c1 c2 c3 c4 c5
  go_upto_region 2 with fail
  refine qa (fun Y=>Below X.heap.size X Y/\Y.cell? ⟨X.heap.size,0,none⟩=some (.func (Fn.func 73) #[] #[])) ⟨L5,by simp⟩ ?_;rintro Y ⟨hY,hf⟩;have e0:=(hY.cell (p:=⟨X0.heap.size,0,none⟩) hzX).trans c0;have e1:=(hY.cell (p:=⟨X0.heap.size,1,none⟩) hzX).trans c1;have e2:=(hY.cell (p:=⟨X0.heap.size,2,none⟩) hzX).trans c2;have e3:=(hY.cell (p:=⟨X0.heap.size,3,none⟩) hzX).trans c3;have e4:=(hY.cell (p:=⟨X0.heap.size,4,none⟩) hzX).trans c4;have e5:=(hY.cell (p:=⟨X0.heap.size,5,none⟩) hzX).trans c5;have hbY:=hb.trans (hY.mono L0);clear c0 c1 c2 c3 c4 c5 hb hY;have hwr:IntKind.i64.wrap 0=0:=by decide
  go_region_law (go_simp;go_at_call 73;refine (HG.out _ (by first | exact hbY | exact hbY.drew)).mono ?_;rintro e w2 ⟨rfl,h2,h3⟩)
  all_goals go_wp2
  all_goals go_end0
  all_goals exact ⟨rfl,h2,h3⟩
 ·have HC:Hid (∀ w',Below X0.heap.size X0 w'->Calls prog 74 #[.pointer (some ⟨G,0,none⟩),jH ⟨2,row,col,count,til,g⟩ Ag cap] w' (EdR base G (jY v ⟨2,row,col,count,til,g⟩) X0)):=Lh fun w' hb=>(cscroll_ (hw w' hb).1 (hw w' hb).2.1 hlen hh hl2 _ Ag cap rfl hr).mono fun e w'' hq=>hb2 w' e w'' hb hq
  clear hb2 hw hr h hlen rd hrl hl2;have HG:=HC;clear HC
  go_enter func39,ntmps39
  go_upto_region 1 with fail
  refine qa (ChgBox X0 ⟨2,row,col,count,til,g⟩ Ag cap) (ChgBox.new X0 ⟨2,row,col,count,til,g⟩ Ag cap _) ?_;rintro X ⟨c0,c1,c2,c3,c4,c5,hb,hzX⟩;dsimp only at c0 c1 c2 c3 c4 c5
  go_upto_region 2 with fail
  refine qa (fun Y=>Below X.heap.size X Y/\Y.cell? ⟨X.heap.size,1,none⟩=some (.func (Fn.func 74) #[] #[])) ⟨L5,by simp⟩ ?_;rintro Y ⟨hY,hf⟩;have e0:=(hY.cell (p:=⟨X0.heap.size,0,none⟩) hzX).trans c0;have e1:=(hY.cell (p:=⟨X0.heap.size,1,none⟩) hzX).trans c1;have e2:=(hY.cell (p:=⟨X0.heap.size,2,none⟩) hzX).trans c2;have e3:=(hY.cell (p:=⟨X0.heap.size,3,none⟩) hzX).trans c3;have e4:=(hY.cell (p:=⟨X0.heap.size,4,none⟩) hzX).trans c4;have e5:=(hY.cell (p:=⟨X0.heap.size,5,none⟩) hzX).trans c5;have hbY:=hb.trans (hY.mono L0);clear c0 c1 c2 c3 c4 c5 hb hY;have hwr:IntKind.i64.wrap 1=1:=by decide
  go_region_law (go_simp;go_at_call 74;refine (HG.out _ (by first | exact hbY | exact hbY.drew)).mono ?_;rintro e w2 ⟨rfl,h2,h3⟩)
  all_goals go_wp2
  all_goals go_end0
  all_goals exact ⟨rfl,h2,h3⟩
 ·have HC:Hid (∀ w',Below X0.heap.size X0 w'->Calls prog 75 #[.pointer (some ⟨G,0,none⟩),jH ⟨3,row,col,count,til,g⟩ Ag cap] w' (EdR base G (jY v ⟨3,row,col,count,til,g⟩) X0)):=Lh fun w' hb=>(csplice_ (hw w' hb).1 (hw w' hb).2.1 hlen hh hrl _ Ag cap hB (hw w' hb).2.2 hgl rfl hr).mono fun e w'' hq=>hb2 w' e w'' hb hq
  clear hb2 hw hr h hlen rd hrl hl2;have HG:=HC;clear HC
  go_enter func39,ntmps39
  go_upto_region 1 with fail
  refine qa (ChgBox X0 ⟨3,row,col,count,til,g⟩ Ag cap) (ChgBox.new X0 ⟨3,row,col,count,til,g⟩ Ag cap _) ?_;rintro X ⟨c0,c1,c2,c3,c4,c5,hb,hzX⟩;dsimp only at c0 c1 c2 c3 c4 c5
  go_upto_region 2 with fail
  refine qa (fun Y=>Below X.heap.size X Y/\Y.cell? ⟨X.heap.size,2,none⟩=some (.func (Fn.func 75) #[] #[])) ⟨L5,by simp⟩ ?_;rintro Y ⟨hY,hf⟩;have e0:=(hY.cell (p:=⟨X0.heap.size,0,none⟩) hzX).trans c0;have e1:=(hY.cell (p:=⟨X0.heap.size,1,none⟩) hzX).trans c1;have e2:=(hY.cell (p:=⟨X0.heap.size,2,none⟩) hzX).trans c2;have e3:=(hY.cell (p:=⟨X0.heap.size,3,none⟩) hzX).trans c3;have e4:=(hY.cell (p:=⟨X0.heap.size,4,none⟩) hzX).trans c4;have e5:=(hY.cell (p:=⟨X0.heap.size,5,none⟩) hzX).trans c5;have hbY:=hb.trans (hY.mono L0);clear c0 c1 c2 c3 c4 c5 hb hY;have hwr:IntKind.i64.wrap 2=2:=by decide
  go_region_law (go_simp;go_at_call 75;refine (HG.out _ (by first | exact hbY | exact hbY.drew)).mono ?_;rintro e w2 ⟨rfl,h2,h3⟩)
  all_goals go_wp2
  all_goals go_end0
  all_goals exact ⟨rfl,h2,h3⟩
 ·have HC:Hid (∀ w',Below X0.heap.size X0 w'->Calls prog 76 #[.pointer (some ⟨G,0,none⟩),jH ⟨4,row,col,count,til,g⟩ Ag cap] w' (EdR base G (jY v ⟨4,row,col,count,til,g⟩) X0)):=Lh fun w' hb=>(ccursor_ (hw w' hb).1 (hw w' hb).2.1 _ Ag cap rfl).mono fun e w'' hq=>hb2 w' e w'' hb hq
  clear hb2 hw hr h hlen rd hrl hl2;have HG:=HC;clear HC
  go_enter func39,ntmps39
  go_upto_region 1 with fail
  refine qa (ChgBox X0 ⟨4,row,col,count,til,g⟩ Ag cap) (ChgBox.new X0 ⟨4,row,col,count,til,g⟩ Ag cap _) ?_;rintro X ⟨c0,c1,c2,c3,c4,c5,hb,hzX⟩;dsimp only at c0 c1 c2 c3 c4 c5
  go_upto_region 2 with fail
  refine qa (fun Y=>Below X.heap.size X Y/\Y.cell? ⟨X.heap.size,3,none⟩=some (.func (Fn.func 76) #[] #[])) ⟨L5,by simp⟩ ?_;rintro Y ⟨hY,hf⟩;have e0:=(hY.cell (p:=⟨X0.heap.size,0,none⟩) hzX).trans c0;have e1:=(hY.cell (p:=⟨X0.heap.size,1,none⟩) hzX).trans c1;have e2:=(hY.cell (p:=⟨X0.heap.size,2,none⟩) hzX).trans c2;have e3:=(hY.cell (p:=⟨X0.heap.size,3,none⟩) hzX).trans c3;have e4:=(hY.cell (p:=⟨X0.heap.size,4,none⟩) hzX).trans c4;have e5:=(hY.cell (p:=⟨X0.heap.size,5,none⟩) hzX).trans c5;have hbY:=hb.trans (hY.mono L0);clear c0 c1 c2 c3 c4 c5 hb hY;have hwr:IntKind.i64.wrap 3=3:=by decide
  go_region_law (go_simp;go_at_call 76;refine (HG.out _ (by first | exact hbY | exact hbY.drew)).mono ?_;rintro e w2 ⟨rfl,h2,h3⟩)
  all_goals go_wp2
  all_goals go_end0
  all_goals exact ⟨rfl,h2,h3⟩
def Tb (w:World):Prop :=
 (∀ i,i<20->w.cell? ⟨2,i,none⟩=some (.string (wb i)))/\(∀ i,i<8->w.cell? ⟨3,i,none⟩=some (.string (wb (20+i))))
theorem qdj {w w':World} {B:Nat} {a:Addr} {v:Value} (h:w.cell? a=some v) (hb:Below B w w') (hB:w.heap.size<=B):w'.cell? a=some v:=by
 have hl:a.block<w.heap.size:=by
  rcases Nat.lt_or_ge a.block w.heap.size with hl | hl
  ·exact hl
  ·unfold World.cell? at h;rw [Array.getElem?_eq_none hl] at h
   cases h
 exact (hb.cell L0).trans h
theorem Tb.below {w w':World} (h:Tb w) (hb:Below w.heap.size w w'):Tb w' :=
 ⟨fun i hi=>qdj (h.1 i hi) hb (Ld _),fun i hi=>qdj (h.2 i hi) hb (Ld _)⟩
theorem Tb.drewN {w:World} (h:Tb w) (n:Nat):Tb (w.drewN n):=h
def qG (m:Nat):List Nat:=if m=0 then [0] else zj m
theorem rs1 : ∀ m:Fin 20,qG m.val=[m.val]:=by decide +kernel
theorem rs2 : ∀ m:Fin 100,20<=m.val->m.val % 10=0->qG m.val=[18+m.val / 10]:=by decide +kernel
theorem rs3 : ∀ m:Fin 100,20<=m.val->m.val % 10≠0->qG m.val=[18+m.val / 10,m.val % 10]:=by decide +kernel
def raN (s:ByteArray) (j:Nat):List Nat:=((qB s).take j).map (fun b=>b-32)++(qB s).drop j
theorem qie (s:ByteArray) (j:Nat):(raN s j).length=s.size:=by
 unfold raN;rw [Lf,Lq,Lu,List.length_drop,zT]
 omega
theorem qc9 (s:ByteArray) (j i:Nat) (h:i<s.size):(raN s j)[i]'(by rw [qie];exact h)=if i<j then (qB s)[i]'(by rw [zT];exact h)-32 else (qB s)[i]'(by rw [zT];exact h):=by
 unfold raN;rw [List.getElem_append]
 by_cases hi:i<j
 ·rw [if_pos hi,dif_pos (by rw [Lq,Lu,zT];omega)]
  simp
 ·rw [if_neg hi,dif_neg (by rw [Lq,Lu,zT];omega)];simp only [Lq,Lu,zT,List.getElem_drop]
  congr 1
  omega
def RaS (w:World) (s:ByteArray) (j:Nat) (wr:World):Prop :=
 (∀ i (h:i<s.size),wr.cell? ⟨w.heap.size,i,none⟩=some (.int .u8 ((raN s j)[i]'(by rw [qie];exact h):Nat))/\wr.frozen? ⟨w.heap.size,i,none⟩=false)/\Below w.heap.size w wr
theorem RaS.next {w wr:World} {s:ByteArray} {j:Nat} (h:RaS w s j wr) (hj:j<s.size):RaS w s (j+1) (wr.setCell ⟨w.heap.size,j,none⟩ (.int .u8 (((qB s)[j]'(by rw [zT];exact hj)-32:Nat):Int))):=by
 refine ⟨fun i hi=>⟨?_,?_⟩,h.2.setCell (Ld _) _⟩
 ·by_cases hij:i=j
  ·subst hij;rw [World.cell?_setCell_same' _ _ _ (by rw [(h.1 i hi).1];rfl),qc9 s (i+1) i hi,if_pos L0]
  ·rw [World.cell?_setCell_other _ _ _ _ (by intro e;injection e with _ e;exact hij e.symm),(h.1 i hi).1,qc9 s (j+1) i hi,qc9 s j i hi]
   by_cases hl:i<j
   ·rw [if_pos hl,if_pos L0]
   ·rw [if_neg hl,if_neg L0]
 ·rw [World.frozen?_setCell];exact (h.1 i hi).2
theorem RaS.first (w:World) (s:ByteArray):RaS w s 0 (w.drew.alloc (.cells (bytesRow s (grownCap w s.size 0 5)) 5 ((bytesRow s (grownCap w s.size 0 5)).size,(bytesRow s (grownCap w s.size 0 5)).size+1))):=by
 have hrow:(w.drew.alloc (.cells (bytesRow s (grownCap w s.size 0 5)) 5 ((bytesRow s (grownCap w s.size 0 5)).size,(bytesRow s (grownCap w s.size 0 5)).size+1))).heap[w.heap.size]? = some (.cells (bytesRow s (grownCap w s.size 0 5)) 5 ((bytesRow s (grownCap w s.size 0 5)).size,(bytesRow s (grownCap w s.size 0 5)).size+1)):=heap_alloc_new w.drew _;refine ⟨fun i hi=>⟨?_,?_⟩,(Le _ _).drew.alloc (Ld _) _⟩
 ·rw [cell_of_row _ _ _ _ _ _ hrow];unfold bytesRow;rw [Array.getElem?_append_left (by simpa using hi),Array.getElem?_map,Array.getElem?_eq_getElem (by simpa using hi),qc9 s 0 i hi,if_neg L0]
  simp [qB]
 ·unfold World.frozen?;rw [hrow];have:i<(bytesRow s (grownCap w s.size 0 5)).size:=by
   unfold bytesRow;rw [Array.size_append,Array.size_map];have:s.data.size=s.size:=rfl
   omega
  simp only [decide_eq_false_iff_not,Bool.and_eq_false_iff,decide_eq_true_eq]
  omega
abbrev tC (v:Value) (st:Int) (j:Bool):Array Value:=#[v,.int .i64 st,.bool j]
theorem qio (w:World) (a:Addr) (u:Value):w.grownBy (w.setCell a u) (some a.block) :=
 ⟨rfl,rfl,rfl,by simp,fun k _ hk=>Below.heap_setCell w a u k (fun e=>hk (by rw [e]))⟩
theorem ne_own {v:Value} {p:Nat} (hp : ∀ k,v.ownBlock=some k->k≠p):v.ownBlock=none∨v.ownBlock≠some p:=by
 cases h:v.ownBlock with
 | none=>exact .inl rfl
 | some k=>exact .inr fun e=>hp k h (by injection e)
theorem qh7 {v:Value} {p:Nat} (hp : ∀ k,v.ownBlock=some k->k≠p):some p≠v.ownBlock:=fun e=>hp p e.symm rfl
theorem zy {w:World} {base size n:Nat} {e:TypeId} {v:Value} {xs:List Value} (h:w.ownsRow base e size v n xs) {p:Addr} (hp : ∀ k,v.ownBlock=some k->k≠p.block) (u:Value):(w.setCell p u).ownsRow base e size v n xs :=
 h.kept (qio w p u) (ne_own hp)
def Sep (N:Nat) (v0 v:Value):Prop:=∀ k,v.ownBlock=some k->(v0.ownBlock=some k/\k<N)∨N+2<=k
theorem Sep.ne {N:Nat} {v0 v:Value} (h:Sep N v0 v) : ∀ k,v.ownBlock=some k->k≠N/\k≠N+1:=fun k hk=>by
 rcases h k hk with h | h <;> omega
def BG (base:Nat) (v0:Value) (w wx:World):Prop:=Below base w wx/\w.grownBy wx v0.ownBlock
theorem qdA {w w':World} (hb:Below w.heap.size w w') (row:Option Nat):w.grownBy w' row:=⟨hb.os,hb.tape,hb.output,hb.size,fun k hk _=>hb.block k hk⟩
section
variable {base : Nat} {v0 : Value} {w wx wy : World}
theorem BG.refl (base:Nat) (v0:Value) (w:World):BG base v0 w w:=⟨Le _ _,World.grownBy.refl w _⟩
theorem BG.below (h:BG base v0 w wx) (hb:Below wx.heap.size wx wy) (hbase:base<=w.heap.size):BG base v0 w wy :=
 ⟨h.1.trans (hb.mono (Lj hbase h.2.size)),h.2.trans (qdA hb _)⟩
theorem BG.grown (h:BG base v0 w wx) (hb:Below base wx wy) {v:Value} (hg:wx.grownBy wy v.ownBlock) (hs:Sep w.heap.size v0 v):BG base v0 w wy :=
 ⟨h.1.trans hb,h.2.andThen hg fun j hj=>by
  rcases hs j hj with ⟨h,_⟩ | h
  ·exact .inr h
  ·exact .inl L0⟩
theorem BG.alloc (h:BG base v0 w wx) (hbase:base<=w.heap.size) (o:Obj):BG base v0 w (wx.alloc o):=h.below (Below.alloc (Le _ _) (Ld _) _) hbase
theorem BG.drew (h:BG base v0 w wx) (hbase:base<=w.heap.size):BG base v0 w wx.drew:=h.below (Le _ _).drew hbase
theorem BG.set_ (h:BG base v0 w wx) (hbase:base<=w.heap.size) {p:Addr} (hp:w.heap.size<=p.block) (u:Value):BG base v0 w (wx.setCell p u) :=
 ⟨h.1.setCell (Lj hbase hp) _,h.2.andThen (qio wx p u) fun j hj=>.inl (by injection hj with hj;omega)⟩
theorem BG.size (h:BG base v0 w wx):w.heap.size<=wx.heap.size:=h.2.size
end
def TX (w:World) (base:Nat) (v0:Value) (st:Int) (j:Bool) (O:List Gl) (wx:World):Prop :=
 ∃ A c,Blk wx w.heap.size 165 (tC (.slice A O.length c) st j)/\Blk wx (w.heap.size+1) 165 (tC (.slice none 0 0) 0 false)/\wx.ownsRow base 64 3 (.slice A O.length c) O.length (qi O) /\
  Sep w.heap.size v0 (.slice A O.length c)/\BG base v0 w wx
theorem TX.new {w:World} {base:Nat} {st:Int} {j:Bool} {O:List Gl} {A:Option Addr} {c:Nat} (h:w.ownsRow base 64 3 (.slice A O.length c) O.length (qi O)) (hb:base<=w.heap.size) :
  TX w base (.slice A O.length c) st j O ((w.alloc (.cells (tC (.slice A O.length c) st j) 165)).alloc (.cells (tC (.slice none 0 0) 0 false) 165)) :=
 ⟨A,c,Blk.alloc (Blk.new w _ _) _,Blk.new_ L1,(h.alloc _).alloc _,fun k hk=>.inl ⟨hk,(h.lt k hk).2⟩,((BG.refl _ _ _).alloc hb _).alloc hb _⟩
theorem TX.put {w X w4:World} {base n N c0 c4:Nat} {v0:Value} {A0 A4:Option Addr} {st:Int} {j:Bool} {ys:List Value} {O:List Gl}
  (B1:Blk X w.heap.size 165 (tC (.slice A0 n c0) st j)) (B2:Blk X (w.heap.size+1) 165 (tC (.slice none 0 0) 0 false)) (hs:Sep w.heap.size v0 (.slice A0 n c0)) (tX:BG base v0 w X) (hb:base<=w.heap.size)
  (hown4:w4.ownsRow base 64 3 (.slice A4 N c4) N ys) (hbel4:Below base X w4) (hgr:X.grownBy w4 (Value.slice A0 n c0).ownBlock) (hat:(Value.slice A4 N c4).ownBlock=(Value.slice A0 n c0).ownBlock∨(Value.slice A4 N c4).ownBlock=some X.heap.size) (hN:O.length=N) (hy:qi O=ys) :
  TX w base v0 st j O (w4.setCell ⟨w.heap.size,0,none⟩ (.slice A4 N c4)):=by
 subst hN hy;have z1:=B2.lt;have hs4:Sep w.heap.size v0 (.slice A4 O.length c4):=fun k hk=>by
  rcases hat with h | h
  ·exact hs k (h ▸ hk)
  ·rw [h] at hk
   injection hk with hk
   omega
 have C1:=B1.grown hgr (qh7 fun k hk=>(hs.ne k hk).1);have C2:=B2.grown hgr (qh7 fun k hk=>(hs.ne k hk).2);refine ⟨A4,c4,?_,C2.far (p:=⟨w.heap.size,0,none⟩) L7 _,zy hown4 (p:=⟨w.heap.size,0,none⟩) (fun k hk=>(hs4.ne k hk).1) _,hs4,(tX.grown hbel4 hgr hs).set_ hb (Ld _) _⟩;have:=C1.set_ 0 (.slice A4 O.length c4)
 simpa [tC] using this
theorem vG {P:Program} {fn:Func} {p u:Tmp} {ty:TypeId} (h:fn.results = #[.cell p ty,.tmp u]) (tmps:Array Value) (w:World) (g:Nat) (t:TypeId) (cs:Array Value) (fr:Nat × Nat) (d:TypeDesc)
  (hp:tmps.getD p undef = .pointer (some ⟨g,0,none⟩)) (hg:w.heap[g]? = some (.cells cs t fr))
  (hu:P.underlying ty=some d) (hd:(match d with | .struct _ | .array _ _=>true | _=>false)=true) (hi:(P.info? ty).map (·.size)=some cs.size) :
  (results fn tmps).run P w = .ok (.tuple #[.agg cs,tmps.getD u undef]) w:=by
 rw [results_cell_tmp h,hp]
 simp [asAddr,run_loadVar_row w g t ty cs fr d hg hu hd hi]
theorem TX.below {w X X':World} {base:Nat} {v0:Value} {st:Int} {j:Bool} {O:List Gl} (h:TX w base v0 st j O X) (hb:Below X.heap.size X X') (hbase:base<=w.heap.size):TX w base v0 st j O X':=by
 obtain ⟨A,c,B1,B2,ox,hs,tx⟩:=h;exact ⟨A,c,B1.below hb B1.lt,B2.below hb B2.lt,qb ox hb,hs,tx.below hb hbase⟩
end Go.Proofs.YtbogmeeijdaijaaGreatDoor
