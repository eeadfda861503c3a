/- Joined: Bk3, Bk4, FmP, UtP2, Um1, Ref1. -/
import Derived.Test.YtbogmeeijdaijaaGreatDoorZAO
import Derived.Test.YtbogmeeijdaijaaGreatDoorYDY
set_option linter.unusedVariables false
set_option linter.unusedSimpArgs false
set_option linter.unnecessarySimpa false
set_option maxHeartbeats 1000000
namespace Go.Proofs.YtbogmeeijdaijaaGreatDoor
open Go.Proofs.Tryz Go.RowKit
set_option maxRecDepth 20000
theorem numL_pos {a:Nat} (ha:a≠0) (t:List Nat):0<numL (a::t):=by
 have : ∀ (t:List Nat) (n:Nat),0<n->0<t.foldl (fun n d=>10 * n+d) n:=by
  intro t
  induction t with
  | nil=>intro n h;exact h
  | cons d t ih=>intro n h;exact ih _ (by show 0<10 * n+d;omega)
 unfold numL;exact this t _ (by show 0<10 * 0+a;omega)
theorem qg2 {n:Nat} (h:n<10):kA n=[UInt8.ofNat (48+n)]:=by rw [kA,dif_pos h]
theorem decT_big {n:Nat} (h : ¬ n<10):kA n=kA (n / 10)++[UInt8.ofNat (48+n % 10)]:=by rw [kA,dif_neg h]
theorem qf5 : ∀ (k:Nat) (D:List Nat),D.length=k+1->(∀ d∈D,d<10)->(k=0∨D.headD 1≠0)->kA (numL D)=D.map fun d=>UInt8.ofNat (48+d)
 | 0,D,hl,h,_=>by
  match D,hl with
  | [d],_ =>
   have:numL [d]=d:=by unfold numL;simp
   rw [this,qg2 (h d L1)]
   rfl
 | k+1,D,hl,h,h0=>by
  have hne:D≠[]:=by rintro rfl;simp at hl
  obtain ⟨D',d,rfl⟩ : ∃ D' d,D=D'++[d]:=⟨_,_,(List.dropLast_concat_getLast hne).symm⟩
  rw [Lf,Lz] at hl;have hd:=h d L1
  cases D' with
  | nil=>simp at hl
  | cons a t =>
   have ha:a≠0:=by
    rcases h0 with h0 | h0
    ·omega
    ·exact h0
   have hp:=numL_pos ha t;have ih:=qf5 k (a::t) L0 (fun x hx=>h x (by simp at hx ⊢;rcases hx with hx | hx <;> simp [hx])) (.inr ha);rw [qeq,decT_big L0,show (10 * numL (a::t)+d) / 10=numL (a::t) by omega,show (10 * numL (a::t)+d) % 10=d by omega,ih,List.map_append]
   rfl
theorem qke (c:UInt8) (h:vg c.toNat≠0∨c=32):kb ⟨#[c]⟩=1:=by
 have:=qd2 (P:=fun c=>(vg c.toNat==0&&c != 32) || decide (kb ⟨#[c]⟩=1)) L4 c;simp only [Bool.or_eq_true,Bool.and_eq_true,beq_iff_eq,Ln,decide_eq_true_eq] at this
 rcases this with ⟨h1,h2⟩ | h1
 ·rcases h with h | h
  ·exact absurd h1 h
  ·exact absurd h h2
 ·exact h1
theorem qh3 {x:Gl} (h:GF x) {c:UInt8} (hc:x.text.data.toList=[c]) (hk:vg c.toNat≠0∨c=32):x=chG x.style c:=by
 obtain ⟨tx,wd,st⟩:=x;have ht:tx=⟨#[c]⟩:=ByteArray.ext (Array.toList_inj.1 hc);subst ht;have:=h.2;simp only at this;rw [qke c hk] at this;have:wd=false:=by simpa using this
 rw [this]
 rfl
theorem gl_kind {x:Gl} (h:GF x) (hk:qd x≠0):x=chG x.style (headB x):=by
 obtain ⟨h1,h2⟩:=kH hk;exact qh3 h h1 (.inl (by rw [<- h2];exact hk))
theorem qgX {P:List Gl} {st:Int} (h : ∀ x∈P,GF x) (hk : ∀ x∈P,qd x≠0/\x.style=st):(P.map headB).map (chG st)=P:=by
 rw [List.map_map];refine (List.map_congr_left (g:=id) fun x hx=>?_).trans (List.map_id _);have:=gl_kind (h x hx) (hk x hx).1;rw [(hk x hx).2] at this;exact this.symm
theorem qeT : ∀ (t:List Gl) (g:Gl) (m:Nat),t.take (runE t g m)=List.replicate (runE t g m) g
 | t,g,0=>by cases t <;> simp [runE]
 | [],g,m+1=>by simp [runE]
 | x::t,g,m+1=>by
  rw [runE]
  split
  ·rename_i h
   subst h;rw [List.take_succ_cons,List.replicate_succ,qeT t x m]
  ·rfl
def pcL (l:List Gl) (rep:Int):List Gl:=l.take (qo l rep)
theorem kn (g:Gl) (t:List Gl) (rep:Int):pcL (g::t) rep=g::t.take (qo (g::t) rep-1):=by
 have:=vz (g:=g) (t:=t) rep;obtain ⟨m,hm⟩ : ∃ m,qo (g::t) rep=m+1:=⟨qo (g::t) rep-1,by omega⟩
 unfold pcL;rw [hm,List.take_succ_cons,Nat.add_sub_cancel]
theorem qhk {g:Gl} {t:List Gl} {rep:Int} (h:qd g=1∨qd g=2):LtrPat ((pcL (g::t) rep).map headB)/\∀ x∈pcL (g::t) rep,(qd x=1∨qd x=2)/\x.style=g.style:=by
 have hne:(pcL (g::t) rep).map headB≠[]:=by rw [kn];simp
 have hkb : ∀ x:Gl,qd x≠0->vg (headB x).toNat=qd x:=fun x hx=>(kH hx).2.symm
 rcases h with h | h
 ·have hall : ∀ x∈pcL (g::t) rep,qd x=1/\x.style=g.style:=by
   unfold pcL;rw [kL (.inl h),h];exact yb _ _ _
  refine ⟨⟨hne,.inl fun c hc=>?_⟩,fun x hx=>⟨.inl (hall x hx).1,(hall x hx).2⟩⟩;obtain ⟨x,hx,rfl⟩:=List.mem_map.1 hc;rw [hkb x (by have:=(hall x hx).1;omega),(hall x hx).1]
 ·by_cases h1:1<runK (g::t) 2 g.style
  ·have hall : ∀ x∈pcL (g::t) rep,qd x=2/\x.style=g.style:=by
    unfold pcL;rw [kW h,if_pos h1];exact yb _ _ _
   refine ⟨⟨hne,.inr (.inr ⟨?_,fun c hc=>?_⟩)⟩,fun x hx=>⟨.inr (hall x hx).1,(hall x hx).2⟩⟩
   ·have:=qaz (g::t) 2 g.style;unfold pcL;rw [Lq,Lu,kW h,if_pos h1]
    omega
   ·obtain ⟨x,hx,rfl⟩:=List.mem_map.1 hc;rw [hkb x (by have:=(hall x hx).1;omega),(hall x hx).1]
  ·have e:pcL (g::t) rep=g::t.take (runK t 1 g.style):=by
    unfold pcL;rw [kW h,if_neg h1,Nat.add_comm,List.take_succ_cons]
   have hall:=yb t 1 g.style;rw [e];refine ⟨⟨by simp,.inr (.inl ⟨headB g,(t.take (runK t 1 g.style)).map headB,rfl,by rw [hkb g L0,h],fun c hc=>?_⟩)⟩,fun x hx=>?_⟩
   ·obtain ⟨x,hx,rfl⟩:=List.mem_map.1 hc;rw [hkb x (by have:=(hall x hx).1;omega),(hall x hx).1]
   ·rcases List.mem_cons.1 hx with rfl | hx
    ·exact ⟨.inr h,rfl⟩
    ·exact ⟨.inl (hall x hx).1,(hall x hx).2⟩
theorem qe1 {g:Gl} {t:List Gl} {rep:Int} (h:qd g=3) : ∀ x∈pcL (g::t) rep,qd x=3/\x.style=g.style:=by
 unfold pcL;rw [kL (.inr h),h];exact yb _ _ _
theorem qfe {g:Gl} {t:List Gl} {rep:Int} (h:qd g=0):pcL (g::t) rep=[g]∨∃ n,2<=n/\n<=132/\pcL (g::t) rep=List.replicate n g/\(qs (qB g.text)).length=1:=by
 have hle:=(qfA t g 131).2;unfold pcL;rw [qdm h]
 split
 ·rename_i hc
  rw [Nat.add_comm,List.take_succ_cons,qeT]
  rcases Nat.eq_zero_or_pos (runE t g 131) with h0 | h0
  ·rw [h0];exact .inl rfl
  ·exact .inr ⟨runE t g 131+1,by omega,by omega,by rw [List.replicate_succ],hc.2.2⟩
 ·exact .inl rfl
theorem qfS {g:Gl} (h:GF g):qP g≠[]:=by
 by_cases hs:g.text.data.toList=[32]
 ·rw [yC hs];simp
 ·obtain ⟨r,t,hc,h1,_⟩:=h.form;rw [jr hs,hc,vq];intro e;have:=qao.1 (List.append_eq_nil_iff.1 e).1;rw [ji h1] at this
  cases this
theorem qiL (a:ByteArray) {t:List ByteArray} (h:t≠[]) (d:ByteArray):(a::t).getLastD d=t.getLastD d:=by
 cases t with
 | nil=>exact absurd rfl h
 | cons b t=>rw [List.getLastD_cons,List.getLastD_cons,List.getLastD_cons]
theorem qeL (n:Nat) (hn:n<=999999999) (A:List ByteArray):qL ((A++numW n).getLastD ⟨#[]⟩)=true:=by
 obtain ⟨j,t,hj,e⟩:=qau n hn;have:=qdk (n:=(n:Int)) L0 L0 ⟨#[]⟩;rw [qa0 (by rw [e];simp)];rw [qiL] at this
 ·exact this
 ·show numW n≠[]
  rw [e]
  simp
theorem qjI {D:List Nat} (h0:D≠[]) (h : ∀ d∈D,d<10) (a:ByteArray):qL ((a::D.flatMap numW).getLastD ⟨#[]⟩)=true:=by
 obtain ⟨D',d,rfl⟩ : ∃ D' d,D=D'++[d]:=⟨_,_,(List.dropLast_concat_getLast h0).symm⟩
 rw [List.flatMap_append,<- List.cons_append];simp only [List.flatMap_cons,List.flatMap_nil,List.append_nil];exact qeL d (by have:=h d L1;omega) _
theorem qc8 {P:List Gl} (h : ∀ x∈P,qd x=3) : ∀ d∈jC (P.map headB),d<10:=by
 intro d hd;unfold jC at hd;obtain ⟨c,hc,rfl⟩:=List.mem_map.1 hd;obtain ⟨x,hx,rfl⟩:=List.mem_map.1 hc;have h1:=(kH (by rw [h x hx];omega)).2;rw [h x hx] at h1;unfold vg at h1
 split at h1
 ·omega
 ·split at h1
  ·omega
  ·split at h1
   ·omega
   ·omega
theorem qjQ {P:List Gl} (h : ∀ x∈P,qd x=3):(jC (P.map headB)).map (fun d=>UInt8.ofNat (48+d))=P.map headB:=by
 unfold jC;rw [List.map_map];refine (List.map_congr_left (g:=id) fun c hc=>?_).trans (List.map_id _);obtain ⟨x,hx,rfl⟩:=List.mem_map.1 hc;have h1:=(kH (by rw [h x hx];omega)).2;rw [h x hx] at h1;generalize headB x=c at *
 have:=qd2 (P:=fun c=>!(vg c.toNat==3) || (UInt8.ofNat (48+(c.toNat-48))==c)) L4 c;rw [<- h1] at this
 simpa using this
theorem qiu (J:Bool) (st:Int) (T:List UInt8):vm J st ⟨T.toArray⟩=(if J=true then [chG st 32] else [])++T.map (chG st):=rfl
theorem qhJ {g:Gl} {t:List Gl} {rep:Int} {sp dg:Bool} (hG : ∀ x∈g::t,GF x) {R:List ByteArray} (hT:R[0]?≠some bTimes)
  (hR:qd g=0∨qd g=3->qL ((qq (pcL (g::t) rep) sp dg).getLastD ⟨#[]⟩)=true->NoNum R) (O:List Gl) (J:Bool) :
  qag ⟨qq (pcL (g::t) rep) sp dg++R,O,g.style,J⟩=qag ⟨R,O++(if qd g≠0/\J=true then [chG g.style 32] else [])++pcL (g::t) rep,g.style,decide (qd g≠0)⟩:=by
 have hGP : ∀ x∈pcL (g::t) rep,GF x:=fun x hx=>hG x (List.mem_of_mem_take hx)
 have hcons:=kn g t rep;have hk3:=jX g
 by_cases h12:qd g=1∨qd g=2
 ·obtain ⟨hp,hall⟩:=qhk (rep:=rep) (t:=t) h12;have e:qq (pcL (g::t) rep) sp dg=kS ((pcL (g::t) rep).map headB) sp:=by
   rw [<- qbI (fun x hx=>by have:=(hall x hx).1;omega),hcons,jv h12]
  rw [e,jy (qfa hp sp R O g.style J),qiu,qgX hGP (fun x hx=>⟨by have:=(hall x hx).1;omega,(hall x hx).2⟩),Ll (show qd g≠0 by omega)];have:(qd g≠0/\J=true)↔J=true:=⟨fun h=>h.2,fun h=>⟨by omega,h⟩⟩
  simp only [this,List.append_assoc]
 ·by_cases h3:qd g=3
  ·have hall:=qe1 (rep:=rep) (t:=t) h3;have hk : ∀ x∈pcL (g::t) rep,qd x=3:=fun x hx=>(hall x hx).1
   have e:qq (pcL (g::t) rep) sp dg=yt ((pcL (g::t) rep).map headB) dg:=by
    rw [<- kG,hcons,ju h3]
   have hlt:=qc8 hk;have hbk:=qjQ hk;have hne:jC ((pcL (g::t) rep).map headB)≠[]:=by unfold jC;rw [hcons];simp
   have hN:NoNum R:=hR (.inr h3) (by
    rw [e];unfold yt
    split
    ·exact qjI hne hlt _
    ·rename_i hc
     rw [not_or,not_or,Lq] at hc;have h1:=qc5 _ hlt;have h2:(jC ((pcL (g::t) rep).map headB)).length<=9:=by unfold jC;rw [Lq,Lq];omega
     have h3:10 ^ (jC ((pcL (g::t) rep).map headB)).length<=10 ^ 9:=Nat.pow_le_pow_right L0 h2
     exact qeL _ L0 [])
   have hfin:va ⟨yt ((pcL (g::t) rep).map headB) dg++R,O,g.style,J⟩=some ⟨R,O++vm J g.style ⟨((pcL (g::t) rep).map headB).toArray⟩,g.style,true⟩:=by
    unfold yt
    split
    ·have:=qfD hne hlt hN O g.style J;unfold zN at this;rw [hbk] at this;exact this
    ·rename_i hc
     rw [not_or,not_or,Lq] at hc;have h1:=qc5 _ hlt;have h2:(jC ((pcL (g::t) rep).map headB)).length<=9:=by unfold jC;rw [Lq,Lq];omega
     have h3:10 ^ (jC ((pcL (g::t) rep).map headB)).length<=10 ^ 9:=Nat.pow_le_pow_right L0 h2;have:=qfR (n:=numL (jC ((pcL (g::t) rep).map headB))) L0 hN hT O g.style J;obtain ⟨k,hk'⟩ : ∃ k,(jC ((pcL (g::t) rep).map headB)).length=k+1:=⟨_,(Nat.succ_pred_eq_of_pos (List.length_pos_iff.2 hne)).symm⟩
     rw [qf5 k _ hk' hlt,hbk] at this
     ·exact this
     ·rcases Nat.eq_zero_or_pos k with h0 | h0
      ·exact .inl h0
      ·refine .inr fun hz=>hc.2.2 ⟨?_,hz⟩
       unfold jC at hk';rw [Lq,Lq] at hk'
       omega
   rw [e,jy hfin,qiu,qgX hGP (fun x hx=>⟨by rw [hk x hx];omega,(hall x hx).2⟩),Ll (show qd g≠0 by omega)];have:(qd g≠0/\J=true)↔J=true:=⟨fun h=>h.2,fun h=>⟨by omega,h⟩⟩
   simp only [this,List.append_assoc]
  ·have h0:qd g=0:=by omega
   have hg:=hG g L1;rw [Lk (show ¬ qd g≠0 by omega),if_neg (fun h=>h.1 h0),List.append_nil]
   rcases qfe (rep:=rep) (t:=t) h0 with e | ⟨n,h2,hn,e,hc⟩
   ·rw [e] at hR ⊢;rw [jt h0] at hR ⊢;exact qfW hg (hR (.inl h0)) O J
   ·obtain ⟨m,rfl⟩ : ∃ m,n=m+2:=⟨n-2,by omega⟩
    have e2:qq (List.replicate (m+2) g) sp dg=numW (m+2)++[bTimes]++qP g:=by
     rw [List.replicate_succ,jb h0 L1,List.length_replicate]
    rw [e,e2] at hR;rw [e,e2];obtain ⟨r,t',hc',h1,_,h3',_,_,h6,h7⟩:=hg.form;rw [hc'] at hc;obtain rfl:t'=[]:=by simpa using hc
    have hch:ChW (r:Int) (qP g) R:=by
     refine qeE hg hc' fun hl=>hR (.inl h0) ?_
     rw [qa0]
     ·exact hl
     ·exact qfS hg
    have hgg:g=⟨kt r,decide (zR (r:Int)=2),g.style⟩:=by
     obtain ⟨tx,wd,st⟩:=g;simp only at h6 h7;rw [h6,h7,qh1]
    rw [jy (qhQ L0 hn hch h3' O g.style J),<- hgg]
theorem qgf {g:Gl} {t:List Gl} {rep:Int} {sp dg:Bool} (hG : ∀ x∈g::t,GF x) : ∃ a W,qq (pcL (g::t) rep) sp dg=a::W/\a≠bTimes:=by
 have hcons:=kn g t rep;have hk3:=jX g;have hwb : ∀ j:Fin 32,wb j.val≠bTimes:=by decide +kernel
 by_cases h12:qd g=1∨qd g=2
 ·obtain ⟨hp,hall⟩:=qhk (rep:=rep) (t:=t) h12;have e:qq (pcL (g::t) rep) sp dg=kS ((pcL (g::t) rep).map headB) sp:=by
   rw [<- qbI (fun x hx=>by have:=(hall x hx).1;omega),hcons,jv h12]
  rw [e,qay];unfold qaB
  split
  ·exact ⟨bCap,_,rfl,by decide +kernel⟩
  ·split
   ·exact ⟨yi,_,rfl,by decide +kernel⟩
   ·rw [Lg];unfold qcP
    cases sp with
    | true=>exact ⟨qS,_,rfl,by decide +kernel⟩
    | false =>
     rw [if_neg L1]
     cases hr:jF ⟨(((pcL (g::t) rep).map headB).map lowB).toArray⟩ with
     | true=>exact ⟨vD,_,rfl,by decide +kernel⟩
     | false=>exact ⟨_,_,rfl,noRes hr L4⟩
 ·by_cases h3:qd g=3
  ·have hall:=qe1 (rep:=rep) (t:=t) h3;have hk : ∀ x∈pcL (g::t) rep,qd x=3:=fun x hx=>(hall x hx).1
   have e:qq (pcL (g::t) rep) sp dg=yt ((pcL (g::t) rep).map headB) dg:=by
    rw [<- kG,hcons,ju h3]
   rw [e];unfold yt
   split
   ·exact ⟨vI,_,rfl,by decide +kernel⟩
   ·rename_i hc
    rw [not_or,not_or,Lq] at hc;have h1:=qc5 _ (qc8 hk);have h2:(jC ((pcL (g::t) rep).map headB)).length<=9:=by unfold jC;rw [Lq,Lq];omega
    have h3:10 ^ (jC ((pcL (g::t) rep).map headB)).length<=10 ^ 9:=Nat.pow_le_pow_right L0 h2;obtain ⟨j,W,hj,e⟩:=qau (numL (jC ((pcL (g::t) rep).map headB))) L0;exact ⟨_,_,e,hwb ⟨j,hj⟩⟩
  ·have h0:qd g=0:=by omega
   have hg:=hG g L1
   rcases qfe (rep:=rep) (t:=t) h0 with e | ⟨n,h2,hn,e,hc⟩
   ·rw [e,jt h0]
    by_cases hs:g.text.data.toList=[32]
    ·rw [yC hs];exact ⟨_,_,rfl,by decide +kernel⟩
    ·obtain ⟨r,t',hc,h1,_⟩:=hg.form;have hch:ChW (r:Int) (qD (r:Int)) []:=.inr ⟨ji h1,rfl,fun _=>NoNum.nil⟩;obtain ⟨a,W,e2,_,_,_,h⟩:=hch.head;rw [jr hs,hc,vq,e2];exact ⟨a,_,rfl,h⟩
   ·obtain ⟨m,rfl⟩ : ∃ m,n=m+2:=⟨n-2,by omega⟩
    rw [e,List.replicate_succ,jb h0 L1,List.length_replicate];obtain ⟨j,W,hj,e⟩:=qau (m+1+1) L0;rw [e];exact ⟨_,_,rfl,hwb ⟨j,hj⟩⟩
def SilOK (S:Setts) (q:Spk) (rest:List Gl):Prop:=q.silent=true->q.before≠0/\∃ b t,rest=b::t/\qd b≠0/\b.style=q.style/\(q.before=3->qL ((qq (pcL (b::t) S.rep) S.spell S.digits).headD ⟨#[]⟩)=false)
def NumEnd (q:Spk):Prop:=(q.before=0∨q.before=3)/\q.out≠[]/\qL (q.out.getLastD ⟨#[]⟩)=true
theorem NoNum.sty (i:Nat) (t:List ByteArray):NoNum (vP i::t):=by
 refine NoNum.of ?_ t;unfold vP
 split <;> decide +kernel
theorem NoNum.joined (t:List ByteArray):NoNum (zO::t):=NoNum.of L4 t
theorem qjg (i:Nat):vP i≠bTimes:=by
 unfold vP
 split <;> decide +kernel
theorem read_sty {i:Int} (h0:0<=i) (h3:i<=3) (R:List ByteArray) (O:List Gl) (st:Int) (J:Bool):va ⟨vP i.toNat::R,O,st,J⟩=some ⟨R,O,i,false⟩:=by
 unfold va zP;simp only;rw [qg5 i.toNat L0];simp only;rw [some_or,Int.toNat_of_nonneg h0]
theorem qcX (R:List ByteArray) (O:List Gl) (st:Int) (J:Bool):va ⟨zO::R,O,st,J⟩=some ⟨R,O,st,false⟩:=by
 unfold va zP;simp only;rw [show vY zO=none by decide +kernel];simp only;rw [if_pos trivial,some_or]
theorem qhA {a:Gl} (h:a.text.data.toList=[32]):qd a=0:=by
 unfold qd;rw [h]
 rfl
theorem qjK {q:Spk} {S:Setts} {a:Gl} {l:List Gl} {n:Nat} (h:jJ q S (a::l) n=true) : ∃ b t,l=b::t/\n=1/\a.text.data.toList=[32]/\q.before≠0/\a.style=q.style/\qd b≠0/\b.style=q.style /\
  (q.before=3->qL ((qq (pcL (b::t) S.rep) S.spell S.digits).headD ⟨#[]⟩)=false):=by
 cases l with
 | nil=>cases h
 | cons b t =>
  unfold jJ at h;simp only [Bool.and_eq_true,Bool.or_eq_true,decide_eq_true_eq,Bool.not_eq_true'] at h;obtain ⟨⟨⟨⟨⟨⟨h1,h2⟩,h3⟩,h4⟩,h5⟩,h6⟩,h7⟩:=h;exact ⟨b,t,rfl,h1,h2,h3,h4,h5,h6,fun h=>h7.resolve_left fun h'=>h' h⟩
theorem qdg {q:Spk} {S:Setts} {g:Gl} {t:List Gl}:sayL q S (pcL (g::t) S.rep)=⟨q.out++ky q g ((qq (pcL (g::t) S.rep) S.spell S.digits).headD ⟨#[]⟩)++qq (pcL (g::t) S.rep) S.spell S.digits,g.style,qd g,false⟩:=qfo (kn g t S.rep)
theorem back (S:Setts) : ∀ (n:Nat) (q:Spk) (rest:List Gl),rest.length<=n->(∀ x∈rest,GF x/\0<=x.style/\x.style<=3)->SilOK S q rest ->
  ∃ T,(qQ S rest.length q rest).out=q.out++T/\T[0]?≠some bTimes/\(NumEnd q->NoNum T)/\∀ O,qag ⟨T,O,q.style,decide (q.before≠0)⟩=some (O++(if q.silent=true then [chG q.style 32] else [])++rest)
 | n,q,[],_,_,hs=>by
  have hsil:q.silent=false:=by
   cases h:q.silent with
   | false=>rfl
   | true =>
    obtain ⟨_,b,t,e,_⟩:=hs h
    cases e
  refine ⟨[],by simp [qQ],by simp,fun _=>NoNum.nil,fun O=>?_⟩;rw [hsil,qjR rfl]
  simp
 | 0,q,g::t,hn,_,_=>by simp at hn
 | n+1,q,g::t,hn,hG,hs=>by
  have hp:=vz (g:=g) (t:=t) S.rep;have hd:((g::t).drop (qo (g::t) S.rep)).length<=n:=by
   rw [List.length_drop];rw [Lp] at hn ⊢
   omega
  have hG2 : ∀ x∈(g::t).drop (qo (g::t) S.rep),GF x/\0<=x.style/\x.style<=3:=fun x hx=>hG x (List.mem_of_mem_drop hx)
  have hgs:=hG g L1;rw [jR]
  cases hb:jJ q S (g::t) (qo (g::t) S.rep) with
  | true =>
   rw [if_pos rfl];obtain ⟨b,t',rfl,h1,h2,h3,h4,h5,h6,h7⟩:=qjK hb;rw [h1] at hd hG2 ⊢;rw [List.drop_succ_cons,List.drop_zero] at hd hG2 ⊢;have hsil:q.silent=false:=by
    cases h:q.silent with
    | false=>rfl
    | true =>
     obtain ⟨_,b',t'',e,hk,_⟩:=hs h
     injection e with e _
     subst e;exact absurd (qhA h2) hk
   obtain ⟨T,e1,e2,e3,e4⟩:=back S n { q with silent:=true } (b::t') hd hG2 fun _=>⟨h3,b,t',rfl,h5,h6,h7⟩
   refine ⟨T,e1,e2,e3,fun O=>?_⟩;have:=e4 O;simp only [if_true] at this;rw [this,hsil];have hgg:g=chG q.style 32:=by
    have:=qh3 hgs.1 h2 (.inr rfl)
    rwa [h4] at this
   rw [<- hgg]
   simp
  | false =>
   rw [if_neg L1];have hGF : ∀ x∈g::t,GF x:=fun x hx=>(hG x hx).1
   obtain ⟨w0,W,hw,hwt⟩:=qgf (rep:=S.rep) (sp:=S.spell) (dg:=S.digits) hGF;have hsay:=qdg (q:=q) (S:=S) (g:=g) (t:=t);obtain ⟨T,e1,e2,e3,e4⟩:=back S n (sayL q S (pcL (g::t) S.rep)) ((g::t).drop (qo (g::t) S.rep)) hd hG2 (by rw [hsay];intro h;cases h);rw [hsay] at e1 e3 e4;simp only [Bool.false_eq_true,if_false,List.append_nil] at e4;have hpr:g::t=pcL (g::t) S.rep++(g::t).drop (qo (g::t) S.rep):=(List.take_append_drop _ _).symm
   have hNE:qd g=0∨qd g=3->qL ((qq (pcL (g::t) S.rep) S.spell S.digits).getLastD ⟨#[]⟩)=true->NoNum T:=fun hk hl=>e3 ⟨hk,by rw [hw];simp,by
    rw [qa0 (by rw [hw];simp)]
    exact hl⟩
   have hrd:=fun O J=>qhJ (rep:=S.rep) (sp:=S.spell) (dg:=S.digits) hGF (R:=T) e2 hNE O J
   rw [hw] at hsay e1 hrd;rw [List.headD_cons] at hsay e1;have hfin : ∀ O J,(qd g≠0->J=q.silent)->(qd g=0->q.silent=false)->qag ⟨w0::W++T,O,g.style,J⟩=some (O++(if q.silent=true then [chG g.style 32] else [])++g::t):=by
    intro O J h1 h2;rw [hrd O J,e4];have:(if qd g≠0/\J=true then [chG g.style 32] else [])=(if q.silent=true then [chG g.style 32] else []):=by
     by_cases hk:qd g=0
     ·rw [if_neg (fun h=>h.1 hk),h2 hk,if_neg L1]
     ·rw [h1 hk]
      by_cases hq:q.silent=true
      ·rw [if_pos ⟨hk,hq⟩,if_pos hq]
      ·rw [if_neg (fun h=>hq h.2),if_neg hq]
    rw [this,List.append_assoc _ (pcL _ _),<- hpr]
   have hsil : ∀ h:q.silent=true,q.before≠0/\qd g≠0/\g.style=q.style/\(q.before=3->qL w0=false):=fun h=>by
    obtain ⟨a1,b',t'',e,hk,a2,a3⟩:=hs h
    injection e with e e'
    subst e e';rw [hw] at a3;exact ⟨a1,hk,a2,a3⟩
   have hsf:q.silent=false∨q.silent=true:=by cases q.silent <;> simp
   refine ⟨ky q g w0++(w0::W)++T,by rw [show (g::t).take (qo (g::t) S.rep)=pcL (g::t) S.rep from rfl,hsay,e1];simp,?_,?_,?_⟩
   ·unfold ky
    split
    ·simp only [List.cons_append,Lg,Lb];exact fun e=>qjg _ (by injection e)
    ·split
     ·split
      ·simp only [Lg,List.cons_append,Lb];exact fun e=>hwt (by injection e)
      ·simp only [List.cons_append,Lg,Lb];exact fun e=>absurd (show zO=bTimes by injection e) L4
     ·split
      ·simp only [List.cons_append,Lg,Lb];exact fun e=>absurd (show zO=bTimes by injection e) L4
      ·simp only [Lg,List.cons_append,Lb];exact fun e=>hwt (by injection e)
   ·rintro ⟨n1,n2,n3⟩;unfold ky
    split
    ·exact NoNum.sty _ _
    ·split
     ·rename_i hst hk
      split
      ·rename_i hsl
       obtain ⟨a1,a2,a3,a4⟩:=hsil hsl;exact NoNum.of (a4 (n1.resolve_left a1)) _
      ·exact NoNum.joined _
     ·rename_i hst hk
      split
      ·exact NoNum.joined _
      ·rename_i hj
       refine NoNum.of ?_ _
       cases hw0:qL w0 with
       | false=>rfl
       | true=>exact absurd ⟨n2,hw0,n3⟩ hj
   ·intro O;unfold ky
    split
    ·rename_i hst
     have hsl:q.silent=false:=hsf.resolve_right fun h=>hst (hsil h).2.2.1
     rw [List.append_assoc,List.singleton_append,jy (read_sty hgs.2.1 hgs.2.2 _ O q.style _),hfin O false (fun _=>hsl.symm) (fun _=>hsl),hsl]
     simp
    ·rename_i hst
     have hst':g.style=q.style:=Classical.not_not.1 hst;rw [<- hst']
     split
     ·rename_i hk
      split
      ·rename_i hsl
       rw [Lg,hfin O _ (fun _=>by rw [hsl,Ll hk.2]) (fun h=>absurd h hk.1),if_pos hsl]
      ·rename_i hsl
       have hsl':q.silent=false:=by simpa using hsl
       rw [List.append_assoc,List.singleton_append,jy (qcX _ O g.style _),hfin O false (fun _=>hsl'.symm) (fun _=>hsl'),if_neg hsl]
     ·rename_i hk
      have hsl:q.silent=false:=hsf.resolve_right fun h=>hk ⟨(hsil h).2.1,(hsil h).1⟩
      split
      ·rw [List.append_assoc,List.singleton_append,jy (qcX _ O g.style _),hfin O false (fun _=>hsl.symm) (fun _=>hsl)]
      ·rw [Lg,hfin O _ (fun hkg=>by
        have:q.before=0:=by
         rcases Nat.eq_zero_or_pos q.before with h | h
         ·exact h
         ·exact absurd ⟨hkg,by omega⟩ hk
        rw [this,hsl]
        rfl) (fun _=>hsl)]
theorem qhi (l:List Gl) (S:Setts) (h : ∀ x∈l,GF x/\0<=x.style/\x.style<=3):kC (qz l S)=some l:=by
 obtain ⟨T,e1,_,_,e4⟩:=back S l.length ⟨[],0,0,false⟩ l (Ld _) h (fun h=>by cases h);have:=e4 [];unfold kC qz;rw [e1]
 simpa [qag] using this
theorem ok_wb (j:Nat) (hj:j<32):okW (wb j)=true:=by
 have : ∀ k:Fin 32,okW (wb k.val)=true:=by decide +kernel
 exact this ⟨j,hj⟩
theorem ok_nb (j:Nat) (hj:j<32):okW (nb j)=true:=by
 have : ∀ k:Fin 32,okW (nb k.val)=true:=by decide +kernel
 exact this ⟨j,hj⟩
theorem ok_sty (i:Nat):okW (vP i)=true:=by
 unfold vP
 split <;> decide +kernel
theorem ok_one {c:UInt8} (h:97<=c.toNat/\c.toNat<=122):okW ⟨#[c]⟩=true:=by
 have h1:=qc0 c h;unfold jQ at h1;simp only [Bool.and_eq_true] at h1;unfold okW;rw [h1.1,Lk (fun e=>absurd (show 1=4 from congrArg ByteArray.size e) L2:(⟨#[c]⟩:ByteArray)≠vF),Lk (fun e=>absurd (show 1=4 from congrArg ByteArray.size e) L2:(⟨#[c]⟩:ByteArray)≠vD)]
 rfl
theorem qfI {n:Int} (h1 : -999999999<=n) (h2:n<=999999999) : ∀ a∈(qm n).map wb,okW a=true:=by
 intro a ha;obtain ⟨i,hi,rfl⟩:=List.mem_map.1 ha;exact ok_wb i (jT n h1 h2 i hi)
theorem qfw {n:Nat} (h:n<=999999999) : ∀ a∈numW n,okW a=true:=qfI L0 L0
theorem ok_spell (r:Int) : ∀ a∈qD r,okW a=true:=by
 intro a ha;unfold qD at ha
 split at ha
 ·rename_i i hi
  rw [List.mem_singleton] at ha;subst ha;exact ok_nb i (jz hi).1
 ·split at ha
  ·rename_i hc
   have hr:=kj hc
   rcases List.mem_cons.1 ha with rfl | ha
   ·decide +kernel
   ·exact qfI L0 L0 a ha
  ·cases ha
theorem qeu (g:Gl) : ∀ a∈qP g,okW a=true:=by
 intro a ha;unfold qP at ha
 split at ha
 ·rw [List.mem_singleton] at ha;subst ha
  decide +kernel
 ·rw [List.mem_flatMap] at ha;obtain ⟨r,_,ha⟩:=ha;exact ok_spell _ a ha
theorem qgQ {T:List UInt8} (h:LtrPat T) (sp:Bool):Clo (kS T sp):=by
 have haz:=qiv h.1 h.kind;rw [qay];refine Clo.app (Clo.all fun a ha=>?_) ?_
 ·unfold qaB at ha
  split at ha
  ·rw [List.mem_singleton] at ha;subst ha;decide +kernel
  ·split at ha
   ·rw [List.mem_singleton] at ha;subst ha;decide +kernel
   ·cases ha
 ·unfold qcP
  split
  ·refine Clo.all fun a ha=>?_
   rcases List.mem_cons.1 ha with rfl | ha
   ·decide +kernel
   ·rcases List.mem_append.1 ha with ha | ha
    ·obtain ⟨c,hc,rfl⟩:=List.mem_map.1 ha;obtain ⟨x,hx,rfl⟩:=List.mem_map.1 hc;exact ok_one (qgY x (h.kind x hx))
    ·rw [List.mem_singleton] at ha;subst ha;decide +kernel
  ·split
   ·unfold Clo
    rw [List.singleton_append,frmF,if_neg (by rintro (h | ⟨h,_⟩) <;> revert h <;> decide +kernel),frmF,if_neg (by
     rintro (h | ⟨_,h⟩)
     ·rw [haz] at h;cases h
     ·revert h;decide +kernel),frmF]
    simp
   ·rename_i hr
    have hr':jF ⟨(T.map lowB).toArray⟩=false:=by simpa using hr
    rw [Lg];refine Clo.one ?_;unfold okW;rw [haz,Lk (noRes hr' L4),Lk (noRes hr' L4)]
    rfl
theorem num9 {D:List Nat} (h : ∀ d∈D,d<10):numL D<10 ^ D.length:=by
 have key : ∀ (D:List Nat) (n m:Nat),(∀ d∈D,d<10)->n<10 ^ m->D.foldl (fun n d=>10 * n+d) n<10 ^ (m+D.length):=by
  intro D
  induction D with
  | nil=>intro n m _ h;simpa using h
  | cons d t ih =>
   intro n m hd hn;have h1:=hd d L1;have:=ih (10 * n+d) (m+1) (fun x hx=>hd x (by simp [hx])) (by rw [Nat.pow_succ];omega);rw [List.foldl_cons,Lp,show m+(t.length+1)=m+1+t.length by omega];exact this
 have:=key D 0 0 h L2
 rwa [Lo] at this
theorem qhg {l:List Gl} (h : ∀ x∈l,qd x=3) (dg:Bool):Clo (digitsL l dg):=by
 have hd : ∀ d∈digL l,d<10:=by
  have:=qc8 h;unfold jC at this;intro d hd;refine this d ?_;unfold digL at hd;rw [List.map_map];exact hd
 have hl:(digL l).length=l.length:=by unfold digL;rw [Lq]
 unfold digitsL
 split
 ·refine Clo.all fun a ha=>?_
  rcases List.mem_cons.1 ha with rfl | ha
  ·decide +kernel
  ·obtain ⟨d,hd1,ha⟩:=List.mem_flatMap.1 ha;have:=hd d hd1;exact qfw L0 a ha
 ·rename_i hc
  have h9:l.length<=9:=by
   rcases Nat.lt_or_ge 9 l.length with h | h
   ·exact absurd (.inr (.inl h)) hc
   ·exact h
  have:=num9 hd;have hp:10 ^ (digL l).length<=10 ^ 9:=Nat.pow_le_pow_right L2 L0;exact Clo.all (qfw L0)
theorem qhw {g:Gl} {t:List Gl} {rep:Int} {sp dg:Bool}:Clo (qq (pcL (g::t) rep) sp dg):=by
 have hpc:=kn g t rep
 by_cases hk:qd g=1∨qd g=2
 ·obtain ⟨h1,h2⟩:=qhk (t:=t) (rep:=rep) hk;rw [hpc] at h1 h2 ⊢;rw [jv hk,qbI (fun x hx=>by rcases (h2 x hx).1 with h | h <;> omega)];exact qgQ h1 sp
 ·by_cases h3:qd g=3
  ·have h2:=qe1 (t:=t) (rep:=rep) h3;rw [hpc] at h2 ⊢;rw [ju h3];exact qhg (fun x hx=>(h2 x hx).1) dg
  ·have h0:qd g=0:=by
    have:qd g<=3:=by
     unfold qd
     split
     ·unfold vg;repeat' split
      all_goals omega
     ·omega
    omega
   rcases qfe (t:=t) (rep:=rep) h0 with e | ⟨n,hn,hn2,e,_⟩
   ·rw [e,jt h0];exact Clo.all (qeu g)
   ·rw [e];obtain ⟨m,rfl⟩ : ∃ m,n=m+1:=⟨n-1,by omega⟩
    rw [List.replicate_succ,jb h0 (by intro e;have:=congrArg List.length e;simp at this;omega)];refine Clo.app (Clo.app (Clo.all (qfw (by simp;omega))) (Clo.one L4)) (Clo.all (qeu g))
theorem clo_pre (q:Spk) (g:Gl) (w0:ByteArray):Clo (ky q g w0):=by
 unfold ky
 repeat' split
 all_goals first | exact Clo.nil | exact Clo.one (ok_sty _) | exact Clo.one L4
theorem qdO (S:Setts) : ∀ (n:Nat) (q:Spk) (rest:List Gl),rest.length<=n->Clo q.out->Clo (qQ S rest.length q rest).out
 | n,q,[],_,h=>by simpa [qQ] using h
 | 0,q,g::t,hn,_=>by simp at hn
 | n+1,q,g::t,hn,h=>by
  have hp:=vz (g:=g) (t:=t) S.rep;have hd:((g::t).drop (qo (g::t) S.rep)).length<=n:=by
   rw [List.length_drop];rw [Lp] at hn ⊢
   omega
  rw [jR]
  split
  ·exact qdO S n _ _ hd h
  ·refine qdO S n _ _ hd ?_
   show Clo (sayL q S (pcL (g::t) S.rep)).out
   rw [qdg];exact Clo.app (Clo.app h (clo_pre q g _)) qhw
theorem qiX (l:List Gl) (S:Setts):frmF false (qz l S)=some false:=qdO S l.length _ l (Ld _) Clo.nil
theorem jD (s:ByteArray) (t:List ByteArray):vT s (s::t)=true:=by simp [vT]
theorem vo {s a:ByteArray} (h:a≠s) (t:List ByteArray):vT s (a::t)=false:=by simp [vT,h]
theorem qfK {n:Int} (h1 : -999999999<=n) (h2:n<=999999999) {t:List ByteArray} (ht:NoNum t):kU (qY n++t)=some (n,t):=by
 unfold kU qY;rw [qax n h1 h2 t ht,Option.map_some]
 congr 2
 rw [List.drop_append_of_le_length L1]
 simp
theorem yc {s:ByteArray} {n:Int} (h1 : -999999999<=n) (h2:n<=999999999) {t:List ByteArray} (ht:NoNum t):afO s (s::(qY n++t))=some (n,t):=by
 unfold afO;rw [yL];exact qfK h1 h2 ht
theorem noW_rows:NoW kv:=by unfold NoW;decide +kernel
theorem noW_columns:NoW jl:=by unfold NoW;decide +kernel
theorem noW_to:NoW bTo:=by unfold NoW;decide +kernel
theorem noW_up:NoW bUp:=by unfold NoW;decide +kernel
theorem noW_down:NoW jj:=by unfold NoW;decide +kernel
theorem noW_column:NoW qO:=by unfold NoW;decide +kernel
theorem noW_insert:NoW qK:=by unfold NoW;decide +kernel
theorem noW_delete:NoW q9:=by unfold NoW;decide +kernel
theorem noW_visible:NoW ze:=by unfold NoW;decide +kernel
theorem noW_invisible:NoW zK:=by unfold NoW;decide +kernel
theorem noW_updates:NoW jG:=by unfold NoW;decide +kernel
theorem nxt_ne : ∀ a∈nxtB,a≠q9/\a≠qK:=by unfold nxtB;decide +kernel
theorem qbq : ∀ (W:List ByteArray) (b:Bool) (t:List ByteArray),frmF b W=some false->zx b (W++vF::t)=some W.length
 | [],b,t,h=>by
  rw [frmF] at h
  injection h with h
  subst h;rw [Lg,zx,if_neg L4,if_pos rfl]
  rfl
 | a::W,b,t,h=>by
  rw [frmF] at h
  split at h
  ·cases h
  ·rename_i hc
   rw [List.cons_append]
   cases b with
   | true =>
    rw [Bool.not_true,Bool.and_false] at h;rw [zx,qbq W false t h]
    rfl
   | false =>
    rw [Bool.not_false,Bool.and_true] at h;have hs:a≠vF:=fun e=>hc (.inr ⟨e,rfl⟩)
    by_cases hw:a=vD
    ·rw [Ll hw] at h;rw [zx,if_pos hw,qbq W true t h]
     rfl
    ·rw [Lk hw] at h;rw [zx,if_neg hw,if_neg hs,qbq W false t h]
     rfl
theorem text_say {g:List Gl} (hg:g≠[]) (h : ∀ x∈g,qJ x=0) (S:Setts) (t:List ByteArray):qae (qz g S++vF::t)=some (g,t):=by
 unfold qae;rw [qbq _ false t (qiX g S),Option.bind_some,List.take_left',qhi g S fun x hx=>qcr (h x hx)]
 ·cases g with
  | nil=>exact absurd rfl hg
  | cons a u =>
   simp only
   congr 2
   rw [<- List.drop_drop,List.drop_left']
   ·rfl
   ·rfl
 ·rfl
theorem del_say {n:Int} (h0:0<=n) (h1:n<=132) {t:List ByteArray} (ht:NoNum t) (hd:vT q9 t=false):delL ((if 0<n then q9::qY n else [])++t)=some (n,t):=by
 unfold delL
 by_cases hn:0<n
 ·rw [if_pos hn,List.cons_append,if_pos (jD _ _),yc L0 L0 ht,Option.bind_some,if_neg (by show ¬ n<1;omega)]
 ·obtain rfl:n=0:=by omega
  rw [if_neg hn,Lg,hd,if_neg L1]
theorem ins_say {g:List Gl} (h : ∀ x∈g,qJ x=0) (S:Setts) {t:List ByteArray} (ht:vT qK t=false):insL ((if g=[] then [] else qK::(qz g S++[vF]))++t)=some (g,t):=by
 unfold insL
 by_cases hg:g=[]
 ·rw [if_pos hg,Lg,ht,if_neg L1,hg]
 ·rw [if_neg hg,List.cons_append,if_pos (jD _ _),yL,Option.bind_some,List.append_assoc];exact text_say hg h S t
theorem qgq (c:Chg) (S:Setts) (hc:vj c=0) (t:List ByteArray) (htn:NoNum t) (htd:vT q9 t=false) (hti:vT qK t=false):qaL (phraseL c S++t)=some (c,t):=by
 obtain ⟨hk,hr,hl,ho⟩:=qdG hc;obtain ⟨kind,row,col,count,til,g⟩:=c;simp only at hk hl;have hk4:kind=1∨kind=2∨kind=3∨kind=4:=by omega
 rcases hk4 with rfl | rfl | rfl | rfl
 ·simp [je] at hr
  simp [jk] at ho
  obtain ⟨rfl,rfl,rfl⟩:=ho;have e:phraseL ⟨1,row,col,0,0,[]⟩ S++t=jS::(qY row++(kv::(qY col++(jl::t)))):=by simp [phraseL]
  rw [e];unfold qaL;rw [if_pos (jD _ _),yc L0 L0 (noW_rows.num _),Option.bind_some];simp only;rw [yc L0 L0 (noW_columns.num _),Option.bind_some];simp only;rw [yL]
  rfl
 ·simp [je] at hr
  simp [jk] at ho
  obtain ⟨rfl,rfl⟩:=ho;have e:phraseL ⟨2,row,0,count,til,[]⟩ S++t=q8::qI::(qY (row+1)++(bTo::(qY til++((if 0<count then bUp::qY count else jj::qY (-count))++t)))):=by simp [phraseL]
  rw [e];unfold qaL;rw [vo L4,if_neg L1,if_pos (jD _ _),yL,Option.bind_some,yc L0 L0 (noW_to.num _),Option.bind_some];simp only
  by_cases hp:0<count
  ·rw [if_pos hp,List.cons_append,yc L0 L0 (noW_up.num _),Option.bind_some];simp only;rw [vo L4,if_neg L1,yc L0 L0 htn,Option.bind_some];simp only;rw [if_neg L0,Int.add_sub_cancel]
  ·rw [if_neg hp,List.cons_append,yc L0 L0 (noW_down.num _),Option.bind_some];simp only;rw [if_pos (jD _ _),yc L0 L0 htn,Option.bind_some];simp only;rw [if_neg L0,Int.add_sub_cancel,Int.neg_neg]
 ·simp [je] at hr
  simp only [jk] at ho
  simp at ho
  obtain ⟨rfl,ho⟩:=ho;have e:phraseL ⟨3,row,col,count,0,g⟩ S++t=qI::(qY (row+1)++(qO::(qY (col+1)++((if 0<count then q9::qY count else [])++((if g=[] then [] else qK::(qz g S++[vF]))++t))))):=by simp [phraseL]
  have hI:NoNum ((if g=[] then [] else qK::(qz g S++[vF]))++t)/\vT q9 ((if g=[] then [] else qK::(qz g S++[vF]))++t)=false:=by
   by_cases hg:g=[]
   ·rw [if_pos hg,Lg];exact ⟨htn,htd⟩
   ·rw [if_neg hg,List.cons_append];exact ⟨noW_insert.num _,vo L4 _⟩
  have hD:NoNum ((if 0<count then q9::qY count else [])++((if g=[] then [] else qK::(qz g S++[vF]))++t)):=by
   by_cases hp:0<count
   ·rw [if_pos hp,List.cons_append];exact noW_delete.num _
   ·rw [if_neg hp,Lg];exact hI.1
  rw [e];unfold qaL;rw [vo L4,if_neg L1,vo L4,if_neg L1,if_pos (jD _ _)];unfold qbo;rw [yc L0 L0 (noW_column.num _),Option.bind_some];simp only;rw [yc L0 L0 hD,Option.bind_some];simp only;rw [del_say L0 L0 hI.1 hI.2,Option.bind_some];simp only;rw [ins_say ho S hti,Option.map_some,Int.add_sub_cancel,Int.add_sub_cancel]
 ·simp [je] at hr
  simp [jk] at ho
  obtain ⟨rfl,rfl⟩:=ho;have e:phraseL ⟨4,row,col,count,0,[]⟩ S++t=q7::qI::(qY (row+1)++(qO::(qY (col+1)++((if count=1 then ze else zK)::t)))):=by simp [phraseL]
  rw [e];unfold qaL;rw [vo L4,if_neg L1,vo L4,if_neg L1,vo L4,if_neg L1,if_pos (jD _ _),yL,Option.bind_some,yc L0 L0 (noW_column.num _),Option.bind_some];simp only
  by_cases hp:count=1
  ·rw [if_pos hp,yc L0 L0 (noW_visible.num _),Option.bind_some];simp only;rw [if_pos (jD _ _),yL,Option.map_some,Int.add_sub_cancel,Int.add_sub_cancel,hp]
  ·obtain rfl:count=0:=by omega
   rw [if_neg hp,yc L0 L0 (noW_invisible.num _),Option.bind_some];simp only;rw [vo L4,if_neg L1,yL,Option.map_some,Int.add_sub_cancel,Int.add_sub_cancel]
theorem qhr (c:Chg) (S:Setts) (hc:vj c=0) (t:List ByteArray) (ht:Nxt t):qaL (phraseL c S++t)=some (c,t):=by
 have hn:=ht.num;obtain ⟨a,u,rfl,ha⟩:=ht;exact qgq c S hc _ hn (vo (nxt_ne a ha).1 u) (vo (nxt_ne a ha).2 u)
theorem qe7 {n:Int} (h0:0<=n) (h1:n<=999999999):ki (endW n)=some n/\(vT kZ (endW n)=true∨vT jN (endW n)=true)/\Nxt (endW n):=by
 unfold endW
 by_cases hz:n=0
 ·rw [if_pos hz];refine ⟨?_,.inl (jD _ _),kZ,[],rfl,by simp [nxtB]⟩;unfold ki;rw [if_pos (jD _ _),hz]
  rfl
 ·rw [if_neg hz]
  by_cases ho:n=1
  ·rw [if_pos ho];refine ⟨?_,.inr (jD _ _),jN,[],rfl,by simp [nxtB]⟩;unfold ki;rw [vo L4,if_neg L1,yL,Option.bind_some,if_pos rfl,ho]
  ·rw [if_neg ho];refine ⟨?_,.inr (jD _ _),jN,_,rfl,by simp [nxtB]⟩;unfold ki;rw [vo L4,if_neg L1,yL,Option.bind_some,if_neg L1,qfK L0 h1 (noW_updates.num _),Option.bind_some];simp only;rw [yL,Option.bind_some,if_pos ⟨rfl,by omega⟩]
theorem qbD (c:Chg) (S:Setts) (hc:vj c=0) (t:List ByteArray):Nxt (phraseL c S++t)/\vT kZ (phraseL c S++t)=false/\vT jN (phraseL c S++t)=false:=by
 obtain ⟨hk,-⟩:=qdG hc;unfold phraseL;have hk4:c.kind=1∨c.kind=2∨c.kind=3∨c.kind=4:=by omega
 rcases hk4 with h | h | h | h
 ·rw [if_pos h,List.cons_append];exact ⟨⟨jS,_,rfl,by simp [nxtB]⟩,vo L4 _,vo L4 _⟩
 ·rw [if_neg L0,if_pos h,List.cons_append];exact ⟨⟨q8,_,rfl,by simp [nxtB]⟩,vo L4 _,vo L4 _⟩
 ·rw [if_neg L0,if_neg L0,if_pos h,List.cons_append];exact ⟨⟨qI,_,rfl,by simp [nxtB]⟩,vo L4 _,vo L4 _⟩
 ·rw [if_neg L0,if_neg L0,if_neg L0,if_pos h,List.cons_append];exact ⟨⟨q7,_,rfl,by simp [nxtB]⟩,vo L4 _,vo L4 _⟩
theorem qgg (S:Setts) {n:Int} (h0:0<=n) (h1:n<=999999999) : ∀ (l:List Chg) (f:Nat) (acc:List Chg),(∀ c∈l,vj c=0)->l.length<f->yR f (qZ l n S) acc=some (acc++l,n)
 | [],f+1,acc,_,_=>by
  unfold qZ;rw [List.flatMap_nil,Lg,yR,if_pos (qe7 h0 h1).2.1,(qe7 h0 h1).1,List.append_nil]
  rfl
 | c::l,f+1,acc,h,hf=>by
  have hc:=h c L1;have e:qZ (c::l) n S=phraseL c S++qZ l n S:=by unfold qZ;rw [List.flatMap_cons,List.append_assoc]
  have hN:Nxt (qZ l n S):=by
   cases l with
   | nil=>unfold qZ;rw [List.flatMap_nil,Lg];exact (qe7 h0 h1).2.2
   | cons d u =>
    have e2:qZ (d::u) n S=phraseL d S++qZ u n S:=by unfold qZ;rw [List.flatMap_cons,List.append_assoc]
    rw [e2];exact (qbD d S (h d L1) _).1
  obtain ⟨_,h2,h3⟩:=qbD c S hc (qZ l n S);rw [e,yR,if_neg (by rw [h2,h3];simp),qhr c S hc _ hN,Option.bind_some];simp only;rw [if_pos hc,qgg S h0 h1 l f (acc++[c]) (fun x hx=>h x (by simp [hx])) (by simpa using hf),List.append_assoc]
  rfl
theorem qhs (c:Chg) (S:Setts) (hc:vj c=0):0<(phraseL c S).length:=by
 obtain ⟨a,u,e,_⟩:=(qbD c S hc []).1;rw [List.append_nil] at e;rw [e]
 simp
theorem qeA (S:Setts) (n:Int) : ∀ (l:List Chg),(∀ c∈l,vj c=0)->l.length<=(qZ l n S).length
 | [],_=>by simp
 | c::l,h=>by
  have e:qZ (c::l) n S=phraseL c S++qZ l n S:=by unfold qZ;rw [List.flatMap_cons,List.append_assoc]
  have h1:=qeA S n l fun x hx=>h x (by simp [hx])
  have h2:=qhs c S (h c L1);rw [e,Lf,Lp]
  omega
theorem qby (l:List Chg) (n:Int) (S:Setts) (h0:0<=n) (h1:n<=999999999) (h : ∀ c∈l,vj c=0):jm (qZ l n S)=some (l,n):=by
 unfold jm;rw [qgg S h0 h1 l _ [] h (by have:=qeA S n l h;omega),Lg]
def ctlU:List ByteArray:=[jS,kv,jl,q8,qI,bTo,bUp,jj,qO,qK,q9,q7,ze,zK,kZ,jN,jG,vF]
def qci (l:List ChgM):Bool:=decide (30<l.length) || l.any fun x=>zA x.c.glyphs
theorem rs4 : ∀ m:Fin 1000,100<=m.val->qG m.val=[m.val / 100,28]++(if m.val % 100=0 then [] else qG (m.val % 100)):=by decide +kernel
theorem qef (m:Nat) (hm:m<100) (w:World) (ht:Tb w) :
  Calls prog 111 #[.int .i64 m] w (ql 9 1 id w (qG m).length (wv (qG m))):=by
 by_cases c1:m<20
 ·have hc:=ht.1 m c1;have HL:=Lh (rs1 ⟨m,c1⟩);simp only at HL;clear ht
  go_enter func111,ntmps111
  go_wp2;go_ret;rw [HL.out];exact ⟨_,_,rfl,qx (xs:=[_]) rfl rfl (Ld _) (by first | omega | (simp only [Lp,List.length_nil];omega)),L5⟩
 have hc2:=ht.2 (m / 10-2) L0;rw [show 20+(m / 10-2)=18+m / 10 from by omega] at hc2
 by_cases c2:m % 10=0
 ·have HL:=Lh (rs2 ⟨m,hm⟩ (by simp;omega) c2);simp only at HL;have c2':((m:Int) % 10==0)=true:=by rw [beq_iff_eq];omega
  clear ht c2;have c1':(20:Int)<=(m:Int):=by omega
  go_enter func111,ntmps111
  go_wp2;go_ret;rw [HL.out];exact ⟨_,_,rfl,qx (xs:=[_]) rfl rfl (Ld _) (by first | omega | (simp only [Lp,List.length_nil];omega)),L5⟩
 ·have HL:=Lh (rs3 ⟨m,hm⟩ (by simp;omega) c2);simp only at HL;have hc1:=ht.1 (m % 10) L0;have c2':((m:Int) % 10==0)=false:=by rw [Lm];omega
  clear ht c2;have b1:(0:Int)<=(m:Int) % 10:=by omega
  have b2:(m:Int) % 10<20:=by omega
  have b3:(0:Int)<=(m:Int) / 10-2:=by omega
  have b4:(m:Int) / 10-2<8:=by omega
  have n1:=World.new_ne w _ hc1;have n2:=World.new_ne w _ hc2
  go_enter func111,ntmps111
  go_wp2;have r1:(m:Int).tdiv 10=m / 10:=Int.tdiv_eq_ediv_of_nonneg L0;have r2:(m:Int).tmod 10=m % 10:=Int.tmod_eq_emod_of_nonneg L0;have r3:IntKind.i64.wrap ((m:Int) / 10)=m / 10:=IntWalk.i64_in _ L0;have r4:IntKind.i64.wrap ((m:Int) / 10-2)=m / 10-2:=IntWalk.i64_in _ L0;have r5:IntKind.i64.wrap ((m:Int) % 10)=m % 10:=IntWalk.i64_in _ L0;have r6:((m:Int) / 10-2).toNat=m / 10-2:=by omega
  have b5:(2:Int)<=(m:Int) / 10:=by omega
  have b6:(m:Int) / 10<10:=by omega
  have b7:(m:Int) / 10<8+2:=by omega
  have r7:((m:Int) % 10).toNat=m % 10:=by omega
  go_region_held3 (fun w'=>w'.cell? ⟨3,m / 10-2,none⟩=some (.string (wb (18+m / 10)))/\w'.cell? ⟨2,m % 10,none⟩=some (.string (wb (m % 10)))) (go_keep) (first | fail)
  clear r1 r2 r3 r4 r5 r6 r7 b7;go_wp2;go_ret;rw [HL.out];exact ⟨_,_,rfl,qx (xs:=[_,_]) rfl rfl (Ld _) (by first | omega | (simp only [Lp,List.length_nil];omega)),by exact ql8⟩
theorem qha (m:Nat) (hm:m<1000) (w:World) (ht:Tb w) :
  Calls prog 111 #[.int .i64 m] w (ql 9 1 id w (qG m).length (wv (qG m))):=by
 by_cases c0:m<100
 ·exact qef m c0 w ht
 have c1:100<=m:=by omega
 have hc:=ht.1 (m / 100) L0;have HL:=Lh (rs4 ⟨m,hm⟩ c1);simp only at HL;have HR:Hid (∀ w,Tb w->Calls prog 111 #[.int .i64 ((m:Int) % 100)] w (ql 9 1 id w (qG (m % 100)).length (wv (qG (m % 100))))):=Lh fun w ht=>by
  have:=qef (m % 100) L0 w ht
  rwa [Int.natCast_emod] at this
 have HT:=Lh ht;have c2:(20:Int)<=(m:Int):=by omega
 by_cases c3:m % 100=0
 ·have c3':((m:Int) % 100 != 0)=false:=by rw [bne_eq_false_iff_eq];omega
  have HL2:Hid (qG m=[m / 100,28]):=Lh (by rw [HL.out,if_pos c3];rfl);clear ht c3 c0
  go_enter func111,ntmps111
  go_wp2_with fail
  go_ret;rw [HL2.out];exact ⟨_,_,rfl,qx (xs:=[_,_]) rfl rfl (Ld _) (by first | omega | (simp only [Lp,List.length_nil];omega)),by exact ql8⟩
 ·have c3':((m:Int) % 100 != 0)=true:=by rw [Ln];omega
  have HL2:Hid (qG m=[m / 100,28]++qG (m % 100)):=Lh (by rw [HL.out,if_neg c3]);have hle:(qG (m % 100)).length<=4:=by
   unfold qG
   split
   ·simp
   ·exact kJ _
  generalize qG (m % 100)=L at *
  clear ht c3 c0
  go_enter func111,ntmps111
  go_wp2_with (first
   | (go_at_call 111;refine (HR.out _ (HT.out.below (by exact L5))).mono ?_;rintro e w1 ⟨A1,c1,rfl,hown1,hbel1⟩;have z1:=hbel1.size;simp only [Li] at z1;have hown0:w1.ownsRow w.heap.size 9 1 (.slice (some ⟨w.heap.size,0,none⟩) 2 2) 2 [.string (wb (m / 100)),.string (wb 28)]:=qb (qx (by rfl) rfl (Ld _) L0) hbel1)
   | (at_builtin;refine qg rfl _ _ _ rfl qp (w.heap.size) _ rfl (hown0) _ _ rfl (Rd.of_own hown1) ?_;intro A2 c2 w2 hown2 hbel2 hgr2 hat2;have z2:=hbel2.size;(try simp only [Li] at z2);(try simp only [Lo,Lg] at hown2)))
  go_ret;rw [HL2.out];have e:([m / 100,28]++L).length=2+L.length:=by simp;omega
  refine ⟨A2,c2,by rw [e];rfl,?_,((L5).trans (hbel1.mono L1)).trans (hbel2.mono L0)⟩;rw [e]
  simpa [wv] using hown2
def zp (n:Nat):List Nat:=if n=0 then [0] else posL n
theorem qd3 (n:Nat) (h:n<1000):zp n=qG n:=by
 unfold zp qG
 by_cases h0:n=0
 ·rw [if_pos h0,if_pos h0]
 ·rw [if_neg h0,if_neg h0,km];have a:n / 1000000=0:=by omega
  have b:n % 1000000 / 1000=0:=by omega
  have c:n % 1000000 % 1000=n:=by omega
  rw [a,b,c]
  simp [yO,qak,show 0<n by omega]
theorem qd6 (n:Nat) (h1:1000<=n) (h2:n<1000000):zp n=qG (n / 1000)++[29]++(if n % 1000=0 then [] else zp (n % 1000)):=by
 have e:(if n % 1000=0 then [] else zp (n % 1000))=qak (n % 1000):=by
  by_cases h0:n % 1000=0
  ·rw [if_pos h0,h0];rfl
  ·rw [if_neg h0,qd3 _ L0,qG,if_neg h0,qak,if_pos L0]
 rw [e,zp,if_neg L0,km,qG,if_neg L0];have a:n / 1000000=0:=by omega
 have b:n % 1000000 / 1000=n / 1000:=by omega
 have c:n % 1000000 % 1000=n % 1000:=by omega
 rw [a,b,c]
 simp [yO,show 0<n / 1000 by omega]
theorem qeZ (n:Nat) (h1:1000000<=n) (h2:n<1000000000):zp n=qG (n / 1000000)++[30]++(if n % 1000000=0 then [] else zp (n % 1000000)):=by
 have e:(if n % 1000000=0 then [] else zp (n % 1000000))=yO (n % 1000000 / 1000) 29++qak (n % 1000000 % 1000):=by
  by_cases h0:n % 1000000=0
  ·rw [if_pos h0,h0];rfl
  ·have a:n % 1000000 / 1000000=0:=by omega
   have b:n % 1000000 % 1000000=n % 1000000:=by omega
   rw [if_neg h0,zp,if_neg h0,km,a,b]
   simp [yO]
 rw [e,zp,if_neg L0,km,qG,if_neg L0,yO,if_pos L0]
 simp
theorem qdh (n:Nat):(zp n).length<=14:=by
 unfold zp
 split
 ·simp
 ·rw [km];have a:=qbm (n / 1000000) 30;have b:=qbm (n % 1000000 / 1000) 29;have c:(qak (n % 1000000 % 1000)).length<=4:=by
   unfold qak
   split
   ·exact kJ _
   ·simp
  simp only [Lf]
  omega
theorem qd5 (n:Nat):(qG n).length<=4:=by
 unfold qG
 split
 ·simp
 ·exact kJ _
end Go.Proofs.YtbogmeeijdaijaaGreatDoor
