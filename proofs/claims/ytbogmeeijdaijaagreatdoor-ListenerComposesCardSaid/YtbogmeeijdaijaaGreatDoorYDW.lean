/- Joined: Wd1, NumP, Sig3, SigP, Ut3, Lt1, Dg1, Kd1, Un0, Un2, Sg1, Rn1, Rn2. -/
import Derived.Test.YtbogmeeijdaijaaGreatDoorZAD
set_option linter.unusedVariables false
set_option linter.unusedSimpArgs false
set_option linter.unnecessarySimpa false
set_option maxHeartbeats 4000000
namespace Go.Proofs.YtbogmeeijdaijaaGreatDoor
theorem qaz : ∀ (l:List Gl) (k:Nat) (st:Int),runK l k st<=l.length
 | [],_,_=>Nat.le_refl _
 | g::t,k,st=>by
  have:=qaz t k st;rw [runK]
  split
  ·simp;omega
  ·simp
theorem qfA : ∀ (l:List Gl) (g:Gl) (m:Nat),runE l g m<=l.length/\runE l g m<=m
 | l,_,0=>by cases l <;> simp [runE]
 | [],_,_+1=>by simp [runE]
 | x::t,g,m+1=>by
  have:=qfA t g m;rw [runE]
  split
  ·simp;omega
  ·simp
theorem vz {g:Gl} {t:List Gl} (rep:Int):0<qo (g::t) rep/\qo (g::t) rep<=t.length+1:=by
 have h1:=qaz (g::t) (qd g) g.style;have h2:=qaz (g::t) 2 g.style;have h3:=qaz t 1 g.style;have h4:=qfA t g 131;have h5:runK (g::t) (qd g) g.style=runK t (qd g) g.style+1:=by rw [runK,if_pos ⟨rfl,rfl⟩]
 simp only [List.length_cons] at h1 h2;unfold qo;simp only
 split
 ·omega
 ·split
  ·split <;> omega
  ·split <;> omega
theorem valK_wb (i:Nat) (h:i<28):qbS 28 (wb i)=some (qbt i):=by
 have : ∀ i:Fin 28,qbS 28 (wb i.val)=some (qbt i.val):=by decide +kernel
 exact this ⟨i,h⟩
theorem qa1 (i j:Nat) (h:i<32) (k:j<32) (hne:i≠j):wb i≠wb j:=by
 have : ∀ i j:Fin 32,i≠j->wb i.val≠wb j.val:=by decide +kernel
 exact this ⟨i,h⟩ ⟨j,k⟩ (by intro e;injection e with e;exact hne e)
theorem qd4 (a p:Int) (i:Nat) (h:i<28) (ha:a<=999999999) (hp:p+qbt i<=999999999):kp a p (wb i)=some (a,p+qbt i):=by
 unfold kp swN;rw [if_neg (qa1 _ _ L0 L0 L0),if_neg (qa1 _ _ L0 L0 L0),if_neg (qa1 _ _ L0 L0 L0),if_neg (qa1 _ _ L0 L0 L0),valK_wb i h];simp only;rw [if_neg L0]
theorem qfc (a p:Int) (ha:a<=999999999) (hp:p * 100<=999999999):kp a p (wb 28)=some (a,p * 100):=by
 unfold kp swN;rw [if_neg (qa1 _ _ L0 L0 L0),if_pos rfl];simp only;rw [if_neg L0]
theorem qea (a p:Int) (ha:a+1000 * p<=999999999):kp a p (wb 29)=some (a+1000 * p,0):=by
 unfold kp swN;rw [if_neg (qa1 _ _ L0 L0 L0),if_neg (qa1 _ _ L0 L0 L0),if_pos rfl];simp only;rw [if_neg L0]
theorem qfm (a p:Int) (ha:a+1000000 * p<=999999999):kp a p (wb 30)=some (a+1000000 * p,0):=by
 unfold kp swN;rw [if_neg (qa1 _ _ L0 L0 L0),if_neg (qa1 _ _ L0 L0 L0),if_neg (qa1 _ _ L0 L0 L0),if_pos rfl];simp only;rw [if_neg L0]
theorem qhn (a p:Int) (ha:a<=999999999) (hp:p<=999999999):kp a p (wb 31)=some (a,p):=by
 unfold kp swN;rw [if_pos rfl];simp only;rw [if_neg L0]
theorem kf {s:ByteArray} {t:List ByteArray} {a p a' p':Int} (h:kp a p s=some (a',p')):vS (s::t) a p=vS t a' p':=by
 rw [vS,h]
theorem qbA (q:Nat) (hq:q<1000) (a:Int) (ha:a<=999999999) (t:List ByteArray):vS ((zj q).map wb++t) a 0=vS t a q:=by
 have hT : ∀ (j:Nat) (p:Int),j<20->p+j<=999999999->vS ((kO j).map wb++t) a p=vS t a (p+j):=by
  intro j p hj hp;unfold kO
  by_cases h:0<j
  ·rw [if_pos h];have hv:qbt j=j:=by unfold qbt;rw [if_neg L0]
   simp only [List.map_cons,List.map_nil,List.cons_append,Lg];rw [kf (qd4 a p j L0 ha L0),hv]
  ·obtain rfl:j=0:=by omega
   simp
 have hS : ∀ (k:Nat) (p:Int),k<100->p+k<=999999999->vS ((yz k).map wb++((kO (if 20<=k then k % 10 else k)).map wb++t)) a p=vS t a (p+k):=by
  intro k p hk hp;unfold yz
  by_cases h:20<=k
  ·rw [if_pos h,if_pos h];have hv:qbt (18+k / 10)=10 * (k / 10:Nat):=by unfold qbt;split <;> omega
   simp only [List.map_cons,List.map_nil,List.cons_append,Lg];rw [kf (qd4 a p (18+k / 10) L0 ha (by rw [hv];omega)),hv,hT _ _ L0 L0]
   congr 1
   omega
  ·rw [if_neg h,if_neg h];simp only [List.map_nil,Lg];rw [hT _ _ L0 L0]
 unfold zj yQ
 by_cases h:100<=q
 ·simp only [if_pos h,List.map_append,List.map_cons,List.cons_append,Lg,List.append_assoc];have hv:qbt (q / 100)=(q / 100:Nat):=by unfold qbt;rw [if_neg L0]
  rw [kf (qd4 a 0 (q / 100) L0 ha (by rw [hv];omega)),hv,kf (qfc a _ ha L0),hS _ _ L0 L0]
  congr 1
  omega
 ·simp only [if_neg h,List.map_append,Lg,List.append_assoc];rw [hS _ _ L0 L0]
  congr 1
  omega
theorem loop_pos (m:Nat) (hm:m<=999999999) : ∃ a p:Int,vS ((posL m).map wb) 0 0=some (a,p)/\a+p=m:=by
 rw [km];have h1 : ∀ t,vS ((yO (m / 1000000) 30).map wb++t) 0 0=vS t (1000000 * (m / 1000000:Nat)) 0:=by
  intro t;unfold yO
  by_cases h:0<m / 1000000
  ·rw [if_pos h];simp only [List.map_append,List.map_cons,List.map_nil,List.append_assoc,List.cons_append,Lg];rw [qbA _ L0 0 L0,kf (qfm _ _ L0)]
   congr 1
   omega
  ·rw [if_neg h];have:m / 1000000=0:=by omega
   simp [this]
 have h2 : ∀ t,vS ((yO (m % 1000000 / 1000) 29).map wb++t) (1000000 * (m / 1000000:Nat)) 0=vS t (1000000 * (m / 1000000:Nat)+1000 * (m % 1000000 / 1000:Nat)) 0:=by
  intro t;unfold yO
  by_cases h:0<m % 1000000 / 1000
  ·rw [if_pos h];simp only [List.map_append,List.map_cons,List.map_nil,List.append_assoc,List.cons_append,Lg];rw [qbA _ L0 _ L0,kf (qea _ _ L0)]
  ·rw [if_neg h];have:m % 1000000 / 1000=0:=by omega
   rw [this]
   simp
 have h3:vS ((qak (m % 1000000 % 1000)).map wb) (1000000 * (m / 1000000:Nat)+1000 * (m % 1000000 / 1000:Nat)) 0=some ((1000000 * (m / 1000000:Nat)+1000 * (m % 1000000 / 1000:Nat):Int),((m % 1000000 % 1000:Nat):Int)):=by
  unfold qak
  by_cases h:0<m % 1000000 % 1000
  ·rw [if_pos h];have:=qbA (m % 1000000 % 1000) L0 (1000000 * (m / 1000000:Nat)+1000 * (m % 1000000 / 1000:Nat)) L0 [];rw [List.append_nil] at this;rw [this,vS]
  ·rw [if_neg h];have:m % 1000000 % 1000=0:=by omega
   rw [this]
   rfl
 have h4:vS ((yO (m / 1000000) 30++yO (m % 1000000 / 1000) 29++qak (m % 1000000 % 1000)).map wb) 0 0=some ((1000000 * (m / 1000000:Nat)+1000 * (m % 1000000 / 1000:Nat):Int),((m % 1000000 % 1000:Nat):Int)):=by
  rw [List.map_append,List.map_append,List.append_assoc,h1,h2,h3]
 exact ⟨_,_,h4,by omega⟩
theorem qbJ (q:Nat) (hq:q<1000) (h0:0<q) : ∃ i t,zj q=i::t/\i<28:=by
 unfold zj yQ yz kO
 by_cases h:100<=q
 ·exact ⟨q / 100,_,by simp only [if_pos h];rfl,by omega⟩
 ·simp only [if_neg h,Lg]
  by_cases h2:20<=q
  ·exact ⟨18+q / 10,_,by simp only [if_pos h2];rfl,by omega⟩
  ·exact ⟨q,[],by simp [h2,h0],by omega⟩
theorem qfJ (m:Nat) (hm:m<=999999999) (h0:0<m) : ∃ i t,posL m=i::t/\i<28:=by
 rw [km];unfold yO qak
 by_cases h1:0<m / 1000000
 ·obtain ⟨i,t,e,hi⟩:=qbJ (m / 1000000) L0 h1;rw [if_pos h1,e];exact ⟨i,_,rfl,hi⟩
 rw [if_neg h1,Lg]
 by_cases h2:0<m % 1000000 / 1000
 ·obtain ⟨i,t,e,hi⟩:=qbJ (m % 1000000 / 1000) L0 h2;rw [if_pos h2,e];exact ⟨i,_,rfl,hi⟩
 rw [if_neg h2,Lg];obtain ⟨i,t,e,hi⟩:=qbJ (m % 1000000 % 1000) L0 L0;rw [if_pos L0,e];exact ⟨i,t,rfl,hi⟩
theorem qaa (n:Int):0<(qm n).length∨n < -999999999∨999999999<n:=by
 by_cases hn:n < -999999999∨999999999<n
 ·exact .inr hn
 left
 unfold qm
 by_cases h0:n=0
 ·rw [if_pos h0];decide
 ·rw [if_neg h0];obtain ⟨i,t,e,_⟩:=qfJ n.natAbs L0 L0;rw [e]
  simp
  omega
theorem qfg (n:Int) (h1 : -999999999<=n) (h2:n<=999999999):zc ((qm n).map wb)=some n:=by
 have hlen:=ke n;have hpos:0<(qm n).length:=by
  rcases qaa n with h | h
  ·exact h
  ·omega
 have hck:qaA ((qm n).map wb) n=some n:=by unfold qaA;rw [if_pos ⟨h1,h2,rfl⟩]
 unfold zc;rw [if_neg (by rw [Lq];omega)]
 by_cases h0:n=0
 ·subst h0
  decide +kernel
 ·obtain ⟨i,t,e,hi⟩:=qfJ n.natAbs L0 L0;obtain ⟨a,p,hl,hap⟩:=loop_pos n.natAbs L0
  by_cases hneg:n<0
  ·have hw:qm n=31::posL n.natAbs:=by unfold qm;rw [if_neg h0,if_pos hneg];rfl
   have hlo:vS ((qm n).map wb) 0 0=some (a,p):=by rw [hw,List.map_cons,kf (qhn 0 0 L0 L0),hl]
   have hs:qbx ((qm n).map wb) (a+p)=n:=by
    rw [hw]
    show (if some (wb 31)=some (wb 31) then -(a+p) else a+p)=n
    rw [if_pos rfl]
    omega
   rw [hlo];simp only;rw [hs,hck]
  ·have hw:qm n=posL n.natAbs:=by unfold qm;rw [if_neg h0,if_neg hneg];rfl
   have hlo:vS ((qm n).map wb) 0 0=some (a,p):=by rw [hw,hl]
   have hs:qbx ((qm n).map wb) (a+p)=n:=by
    rw [hw,e];unfold qbx
    rw [if_neg (by
     simp only [List.map_cons,List.head?_cons,Option.some.injEq]
     exact qa1 _ _ L0 L0 L0)]
    omega
   rw [hlo];simp only;rw [hs,hck]
end Go.Proofs.YtbogmeeijdaijaaGreatDoor
namespace Go.Proofs.YtbogmeeijdaijaaGreatDoor
open Go.Proofs.Tryz Go.RowKit
set_option maxRecDepth 20000
theorem qia (i:Nat) (hi:i<32):qdK (nb i)=some i:=by
 have : ∀ i:Fin 32,qdK (nb i.val)=some i.val:=by decide +kernel
 exact this ⟨i,hi⟩
theorem qeR (r:Int):(qD r).length<=16:=by
 unfold qD
 split
 ·simp
 ·split
  ·have:=ke r
   simp
   omega
  ·simp
theorem nIdx_cB:qdK cB=none:=by decide +kernel
theorem prefN_of {l:List ByteArray} {k:Nat} {v:Int} (h0:0<k) (hv:zc (l.take k)=some v) : ∀ {m:Nat},k<=m->(∀ i,k<i->i<=m->zc (l.take i)=none)->qaS l m=some (v,k):=by
 intro m
 induction m with
 | zero=>intro h _;omega
 | succ m ih =>
  intro h hn;rw [qaS]
  rcases Nat.lt_or_ge m k with h1 | h1
  ·obtain rfl:k=m+1:=by omega
   rw [hv]
  ·rw [hn (m+1) L0 L0];exact ih h1 fun i a b=>hn i a L0
theorem qax (n:Int) (h1 : -999999999<=n) (h2:n<=999999999) (t:List ByteArray) (ht:NoNum t):prefixL ((qm n).map wb++t)=some (n,(qm n).length):=by
 have hpos:0<(qm n).length:=by
  rcases qaa n with h | h
  ·exact h
  ·omega
 have hle:=ke n;have hnum:=qfg n h1 h2;have hlen:((qm n).map wb++t).length=(qm n).length+t.length:=by simp
 refine prefN_of hpos ?_ L0 ?_
 ·rw [List.take_append_of_le_length L1,List.take_of_length_le L1];exact hnum
 ·intro i hi1 hi2
  cases h:zc (((qm n).map wb++t).take i) with
  | none=>rfl
  | some v =>
   exfalso
   obtain ⟨a1,a2,a3,_⟩:=vp h;have hk:(qm n).length<(((qm n).map wb++t).take i).length:=by rw [Lu,hlen];omega
   have e:(((qm n).map wb++t).take i)[(qm n).length]=t[0]'(by omega):=by
    rw [List.getElem_take,List.getElem_append_right L1]
    simp
   have hk2:(qm n).length<((qm v).map wb).length:=by rw [a3];exact hk
   have e2:((qm v).map wb)[(qm n).length]=(((qm n).map wb++t).take i)[(qm n).length]:=by
    simp only [a3]
   rw [e,List.getElem_map] at e2
   cases t with
   | nil=>simp only [List.length_nil,Nat.add_zero] at hlen;omega
   | cons x t'=>exact ht x t' rfl _ (jT v a1 a2 _ (Lt _)) e2
theorem qao {r:Int}:qD r=[]↔zC r=false:=by
 unfold qD
 cases h:jM r with
 | some i=>simp [qaY h]
 | none=>cases zC r <;> simp
theorem qj1 {r:Int} (h:zC r=true):0<(qD r).length:=by
 rcases Nat.eq_zero_or_pos (qD r).length with h0 | h0
 ·have:=qao.1 (List.length_eq_zero_iff.1 h0);rw [h] at this
  cases this
 ·exact h0
theorem qd7 {r:Int} (hr:zC r=true) {t:List ByteArray} (ht:NoNum t):zM (qD r++t)=some (r,(qD r).length):=by
 unfold qD
 cases h:jM r with
 | some i =>
  obtain ⟨a,b,_⟩:=jz h;simp only [List.cons_append,Lg,zM,qia i a,Lp,List.length_nil,Lo];rw [b]
 | none =>
  obtain ⟨a,b⟩:=kj hr;simp only [hr,if_true,List.cons_append,zM,nIdx_cB,qax r L0 L0 t ht,Lp,Lq];rw [qcu ⟨hr,h⟩,Nat.add_comm]
end Go.Proofs.YtbogmeeijdaijaaGreatDoor
namespace Go.Proofs.YtbogmeeijdaijaaGreatDoor
theorem qf2 {s:ByteArray} (h:vb s=true):(zJ (qB s) (u0,[])).1.m=0:=by
 rw [vb,decide_eq_true_eq] at h;obtain ⟨s',e,h0⟩:=qcj (qs (qB s)) (yD _) u0 rfl [];rw [h] at e;rw [e];exact h0
end Go.Proofs.YtbogmeeijdaijaaGreatDoor
namespace Go.Proofs.YtbogmeeijdaijaaGreatDoor
open Go.Proofs.Tryz Go.RowKit
set_option maxRecDepth 20000
def qbb (T:List UInt8):Nat:=(T.filter fun c=>vg c.toNat==2).length
def qaB (n:Nat):List ByteArray:=if n=1 then [bCap] else if 1<n then [yi] else []
def kS (T:List UInt8) (spell:Bool):List ByteArray :=
 qaB (qbb T)++(if spell=true then qS::((T.map lowB).map fun c=>(⟨#[c]⟩:ByteArray))++[qaO] else (if jF ⟨(T.map lowB).toArray⟩=true then [vD] else [])++[⟨(T.map lowB).toArray⟩])
def jC (T:List UInt8):List Nat:=T.map fun c=>c.toNat-48
def qbu (D:List Nat):List ByteArray:=D.flatMap numW
theorem qi3 (D:List Nat) (d:Nat):qbu (D++[d])=qbu D++numW d:=by
 unfold qbu;rw [List.flatMap_append];simp only [List.flatMap_cons,List.flatMap_nil,List.append_nil]
def yt (T:List UInt8) (dig:Bool):List ByteArray :=
 if dig=true∨9<T.length∨(1<T.length/\(jC T).headD 1=0) then vI::qbu (jC T) else numW (numL (jC T))
theorem kR (n:Nat):(numW n).length<=16:=by
 unfold numW;rw [Lq];have:=ke (n:Int)
 omega
theorem qeq (l:List Nat) (d:Nat):numL (l++[d])=10 * numL l+d:=by
 unfold numL;rw [List.foldl_append]
 rfl
theorem qc5 (l:List Nat) (h : ∀ d∈l,d<10):numL l<10 ^ l.length:=by
 have e : ∀ (l:List Nat),(∀ d∈l,d<10)->∀ a,l.foldl (fun n d=>10 * n+d) a<(a+1) * 10 ^ l.length:=by
  intro l
  induction l with
  | nil=>intro _ a;simp
  | cons d t ih =>
   intro h a;have h1:=h d L1;have h2:=ih (fun x hx=>h x (by simp [hx])) (10 * a+d);rw [Lp,Nat.pow_succ]
   show List.foldl _ (10 * a+d) t<_
   have:(10 * a+d+1) * 10 ^ t.length<=(a+1) * 10 * 10 ^ t.length:=Nat.mul_le_mul_right _ L0;have e2:(a+1) * 10 * 10 ^ t.length=(a+1) * (10 ^ t.length * 10):=by rw [Nat.mul_assoc,Nat.mul_comm 10]
   omega
 have:=e l h 0;unfold numL
 omega
theorem qgR {s:ByteArray} (h:s.size=1) : ∃ c,s=⟨#[c]⟩:=by
 obtain ⟨⟨l⟩⟩:=s
 match l,h with
 | [c],_=>exact ⟨c,rfl⟩
theorem qj3 (c:UInt8) (wd:Bool) (st:Int):qd ⟨⟨#[c]⟩,wd,st⟩=vg c.toNat:=rfl
theorem kindL_no {g:Gl} (h:g.text.size≠1):qd g=0:=by
 unfold qd
 split
 ·rename_i c hc
  have:=congrArg List.length hc;exact absurd (by simpa using this) h
 ·rfl
def qdU (s:ByteArray) (lo hi:Nat):Bool:=match s.data.toList with
 | [c]=>decide (lo<=c.toNat)&&decide (c.toNat<=hi)
 | _=>false
theorem qde {s:ByteArray} (h:s.size≠1) (lo hi:Nat):qdU s lo hi=false:=by
 unfold qdU
 split
 ·rename_i c hc
  have:=congrArg List.length hc;exact absurd (by simpa using this) h
 ·rfl
theorem rin1 (s:ByteArray) (hs:s.size<=1000000000) (lo hi:Nat) (w:World):Calls prog 105 #[.string s,.int .u8 lo,.int .u8 hi] w (qh (.bool (qdU s lo hi)) w):=by
 by_cases h1:s.size=1
 ·obtain ⟨c,rfl⟩:=qgR h1;have HK:Hid (qdU ⟨#[c]⟩ lo hi=(decide (lo<=c.toNat)&&decide (c.toNat<=hi))):=Lh rfl;generalize qdU ⟨#[c]⟩ lo hi=K at *
  clear hs h1
  go_enter func105,ntmps105
  go_wp2
  all_goals go_ret
  all_goals
   refine ⟨congrArg (fun x=>Ending.returned (Value.bool x)) ?_,Le _ _⟩;rw [HK.out,Bool.eq_iff_iff];simp only [ByteArray.getElem_eq_getElem_data,List.getElem_toArray,List.getElem_cons_zero] at *
   first | (simp;done) | (simp;omega)
 ·rw [qde h1];have h2:((s.size:Int)==1)=false:=Lm.2 L0
  go_enter func105,ntmps105
  go_wp2;go_ret;exact ⟨rfl,Le _ _⟩
def rkV (k:Nat):Int:=if k=1 then 97 else if k=2 then 65 else if k=3 then 48 else 46
theorem rkV_eq (g:Gl):rkV (qd g)=if qdU g.text 97 122=true then 97 else if qdU g.text 65 90=true then 65 else if qdU g.text 48 57=true then 48 else 46:=by
 by_cases h1:g.text.size=1
 ·obtain ⟨t,wd,st⟩:=g;obtain ⟨c,rfl⟩:=qgR h1;rw [qj3]
  show rkV (vg c.toNat)=if (decide (97<=c.toNat)&&decide (c.toNat<=122))=true then 97 else if (decide (65<=c.toNat)&&decide (c.toNat<=90))=true then 65 else if (decide (48<=c.toNat)&&decide (c.toNat<=57))=true then 48 else 46
  unfold vg rkV;simp only [Bool.and_eq_true,decide_eq_true_eq]
  (repeat' split) <;> omega
 ·rw [kindL_no h1,qde h1,qde h1,qde h1]
  rfl
theorem qfZ (g:Gl) (hs:g.text.size<=1000000000) (w:World):Calls prog 85 #[glV g] w (qh (.int .u8 (rkV (qd g))) w):=by
 have H1:=Lh (rin1 g.text hs 97 122);have H2:=Lh (rin1 g.text hs 65 90);have H3:=Lh (rin1 g.text hs 48 57);rw [rkV_eq];generalize qdU g.text 97 122=x1 at *
 generalize qdU g.text 65 90=x2 at *
 generalize qdU g.text 48 57=x3 at *
 obtain ⟨t,wd,st⟩:=g;dsimp only at *
 cases x1 with
 | true =>
  simp only [if_true]
  go_enter func85,ntmps85
  go_upto_region 1 with fail
  refine qa (GlBox w t wd st) (GlBox.new w t wd st _) ?_;rintro wb hgb;obtain ⟨c0,_,_,hb0,hz0⟩:=id hgb
  go_wp2_with (go_at_call 105;refine (H1.out _).mono ?_;rintro e w1 ⟨rfl,hbel1⟩)
  go_ret;exact ⟨rfl,hb0.trans (hbel1.mono L0)⟩
 | false =>
  cases x2 with
  | true =>
   simp only [Bool.false_eq_true,if_false,if_true]
   go_enter func85,ntmps85
   go_upto_region 1 with fail
   refine qa (GlBox w t wd st) (GlBox.new w t wd st _) ?_;rintro wb hgb;obtain ⟨c0,_,_,hb0,hz0⟩:=id hgb
   go_upto_region 3 with (go_at_call 105;refine (H1.out _).mono ?_;rintro e w1 ⟨rfl,hbel1⟩;obtain ⟨d0,_,_,hb1,hz1⟩:=hgb.on hbel1)
   go_wp2_with (go_at_call 105;refine (H2.out _).mono ?_;rintro e w2 ⟨rfl,hbel2⟩)
   go_ret;exact ⟨rfl,hb1.trans (hbel2.mono L0)⟩
  | false =>
   cases x3 with
   | true =>
    simp only [Bool.false_eq_true,if_false,if_true]
    go_enter func85,ntmps85
    go_upto_region 1 with fail
    refine qa (GlBox w t wd st) (GlBox.new w t wd st _) ?_;rintro wb hgb;obtain ⟨c0,_,_,hb0,hz0⟩:=id hgb
    go_upto_region 3 with (go_at_call 105;refine (H1.out _).mono ?_;rintro e w1 ⟨rfl,hbel1⟩;have hg1:=hgb.on hbel1;obtain ⟨d0,_,_,hb1,hz1⟩:=id hg1)
    go_upto_region 5 with (go_at_call 105;refine (H2.out _).mono ?_;rintro e w2 ⟨rfl,hbel2⟩;obtain ⟨e0,_,_,hb2,hz2⟩:=hg1.on hbel2)
    go_wp2_with (go_at_call 105;refine (H3.out _).mono ?_;rintro e w3 ⟨rfl,hbel3⟩)
    go_ret;exact ⟨rfl,hb2.trans (hbel3.mono L0)⟩
   | false =>
    simp only [Bool.false_eq_true,if_false]
    go_enter func85,ntmps85
    go_upto_region 1 with fail
    refine qa (GlBox w t wd st) (GlBox.new w t wd st _) ?_;rintro wb hgb;obtain ⟨c0,_,_,hb0,hz0⟩:=id hgb
    go_upto_region 3 with (go_at_call 105;refine (H1.out _).mono ?_;rintro e w1 ⟨rfl,hbel1⟩;have hg1:=hgb.on hbel1;obtain ⟨d0,_,_,hb1,hz1⟩:=id hg1)
    go_upto_region 5 with (go_at_call 105;refine (H2.out _).mono ?_;rintro e w2 ⟨rfl,hbel2⟩;obtain ⟨e0,_,_,hb2,hz2⟩:=hg1.on hbel2)
    go_wp2_with (go_at_call 105;refine (H3.out _).mono ?_;rintro e w3 ⟨rfl,hbel3⟩)
    go_ret;exact ⟨rfl,hb2.trans (hbel3.mono L0)⟩
end Go.Proofs.YtbogmeeijdaijaaGreatDoor
namespace Go.Proofs.YtbogmeeijdaijaaGreatDoor
theorem step_on {s:US} {b:Nat} {t out:List Nat} (h0:0<s.m) (h1:s.lo<=b) (h2:b<=s.hi) (h3:s.m≠1):zJ (b::t) (s,out)=zJ t (⟨s.v * 64+b % 64,s.m-1,0x80,0xBF⟩,out):=qdc (by omega) h1 h2 t out
theorem qj5 {s:US} {b:Nat} {t out:List Nat} (h0:s.m=1) (h1:s.lo<=b) (h2:b<=s.hi):zJ (b::t) (s,out)=zJ t (⟨s.v * 64+b % 64,s.m-1,0x80,0xBF⟩,out++[s.v * 64+b % 64]):=by rw [qbj h0 h1 h2,h0]
theorem qjq {s:US} {b:Nat} {t out:List Nat} (h0:0<s.m) (h1 : ¬ (s.lo<=b/\b<=s.hi)):zJ (b::t) (s,out)=zJ (b::t) (u0,out++[65533]):=by
 have e:qat s b=false:=by
  cases h:qat s b with
  | false=>rfl
  | true=>exact absurd (qcm.1 h).2 h1
 show zJ t (jU s b,out++ku s b)=zJ t (jU u0 b,out++[65533]++ku u0 b)
 have e0:qat u0 b=false:=qav rfl b;rw [jU,jU,e,e0,ku,ku,e,e0];simp only [Bool.false_eq_true,if_false,if_pos h0];rw [if_neg (show ¬ 0<u0.m from Nat.lt_irrefl 0)]
 simp
theorem step_asc {s:US} {b:Nat} {t out:List Nat} (h0:s.m=0) (h1:b<128):zJ (b::t) (s,out)=zJ t (zt b,out++[b]):=qgi h0 h1 t out
theorem step_bad {s:US} {b:Nat} {t out:List Nat} (h0:s.m=0) (h1 : ¬ b<128) (h2:(zt b).m=0):zJ (b::t) (s,out)=zJ t (zt b,out++[65533]):=by
 show zJ t (jU s b,out++ku s b)=_
 rw [jU,ku,qav h0];simp only [Bool.false_eq_true,if_false];rw [if_neg (by omega),if_neg h1,if_pos h2]
 rfl
theorem qje {s:US} {b:Nat} {t out:List Nat} (h0:s.m=0) (h1 : ¬ b<128) (h2:(zt b).m≠0):zJ (b::t) (s,out)=zJ t (zt b,out):=qbf h0 (by omega) rfl h2 t out
section
variable {l t outs : List Nat} {sv sm slo shi b : Nat} {F : US × List Nat}
theorem run_on (h:zJ l (⟨sv,sm,slo,shi⟩,outs)=F) (hl:l=b::t) (h0:0<sm) (h1:slo<=b) (h2:b<=shi) (h3:sm≠1):zJ t (⟨sv * 64+b % 64,sm-1,128,191⟩,outs)=F:=by
 rw [<- h,hl,step_on (s:=⟨sv,sm,slo,shi⟩) h0 h1 h2 h3]
theorem run_last (h:zJ l (⟨sv,1,slo,shi⟩,outs)=F) (hl:l=b::t) (h1:slo<=b) (h2:b<=shi):zJ t (⟨sv * 64+b % 64,0,128,191⟩,outs++[sv * 64+b % 64])=F:=by
 rw [<- h,hl,qj5 (s:=⟨sv,1,slo,shi⟩) rfl h1 h2]
 rfl
theorem run_back (h:zJ l (⟨sv,sm,slo,shi⟩,outs)=F) (hl:l=b::t) (h0:0<sm) (h1 : ¬ (slo<=b/\b<=shi)):zJ l (u0,outs++[65533])=F:=by
 rw [<- h,hl,qjq (s:=⟨sv,sm,slo,shi⟩) h0 h1]
theorem run_asc {s:US} (h:zJ l (s,outs)=F) (hl:l=b::t) (h0:s.m=0) (h1:b<128):zJ t (zt b,outs++[b])=F:=by
 rw [<- h,hl,step_asc h0 h1]
theorem run_bad {s:US} (h:zJ l (s,outs)=F) (hl:l=b::t) (h0:s.m=0) (h1 : ¬ b<128) (h2:(zt b).m=0):zJ t (zt b,outs++[65533])=F:=by
 rw [<- h,hl,step_bad h0 h1 h2]
theorem run_lead {s:US} (h:zJ l (s,outs)=F) (hl:l=b::t) (h0:s.m=0) (h1 : ¬ b<128) (h2:(zt b).m≠0):zJ t (zt b,outs)=F:=by
 rw [<- h,hl,qje h0 h1 h2]
end
def KeptU (K:List Nat) (s:US):Prop :=
 (s.m=0/\K=[])∨(0<s.m/\∃ b0 rest,K=b0::rest/\b0<256/\(zt b0).m=s.m+rest.length/\(rest=[]->zt b0=s)/\(rest≠[]->s.lo=128/\s.hi=191) /\
  rest.foldl (fun n b=>n * 64+b-128) (zt b0).v=s.v/\∀ x∈rest,128<=x/\x<=191)
theorem qgz:KeptU [] u0:=.inl ⟨rfl,rfl⟩
theorem KeptU.beg {b:Nat} (hb:b<256) (h:(zt b).m≠0):KeptU [b] (zt b):=.inr ⟨by omega,b,[],rfl,hb,rfl,fun _=>rfl,fun h=>absurd rfl h,rfl,fun x hx=>by cases hx⟩
theorem qf4 (b:Nat):128<=(zt b).lo/\(zt b).hi<=191:=by
 unfold zt;dsimp only
 constructor
 ·split
  ·omega
  ·split <;> omega
 ·split
  ·omega
  ·split <;> omega
theorem KeptU.snoc {K:List Nat} {s:US} {b:Nat} (h:KeptU K s) (h0:1<s.m) (h1:s.lo<=b) (h2:b<=s.hi):KeptU (K++[b]) ⟨s.v * 64+b % 64,s.m-1,0x80,0xBF⟩:=by
 rcases h with ⟨h,_⟩ | ⟨_,b0,rest,rfl,hb,hm,hr,hr2,hv,hx⟩
 ·omega
 ·have hb2:128<=b/\b<=191:=by
   by_cases e:rest=[]
   ·have:=hr e;subst this;have:=qf4 b0
    omega
   ·have:=hr2 e
    omega
  refine .inr ⟨by dsimp only;omega,b0,rest++[b],rfl,hb,?_,fun e=>absurd e (by simp),fun _=>⟨rfl,rfl⟩,?_,fun x h=>?_⟩
  ·rw [List.length_append,List.length_singleton];dsimp only
   omega
  ·rw [List.foldl_append,hv];dsimp only [List.foldl]
   omega
  ·rcases List.mem_append.1 h with h | h
   ·exact hx x h
   ·rw [List.mem_singleton] at h;subst h;exact hb2
def valU (K:List Nat):Nat:=match K with
 | []=>0
 | b0::rest=>rest.foldl (fun n b=>n * 64+b-128) (zt b0).v
theorem KeptU.whole {K:List Nat} {s:US} {b:Nat} (h:KeptU K s) (h0:s.m=1) (h1:s.lo<=b) (h2:b<=s.hi):valU (K++[b])=s.v * 64+b % 64/\∃ b0 rest,K++[b]=b0::rest/\b0<256/\(zt b0).m=rest.length/\0<rest.length/\∀ x∈rest,128<=x/\x<=191:=by
 rcases h with ⟨h,_⟩ | ⟨_,b0,rest,rfl,hb,hm,hr,hr2,hv,hx⟩
 ·omega
 ·have hb2:128<=b/\b<=191:=by
   by_cases e:rest=[]
   ·have:=hr e;subst this;have:=qf4 b0
    omega
   ·have:=hr2 e
    omega
  refine ⟨?_,b0,rest++[b],rfl,hb,by rw [List.length_append,List.length_singleton];omega,by simp,fun x h=>?_⟩
  ·show (rest++[b]).foldl _ (zt b0).v=_
   rw [List.foldl_append,hv];dsimp only [List.foldl]
   omega
  ·rcases List.mem_append.1 h with h | h
   ·exact hx x h
   ·rw [List.mem_singleton] at h;subst h;exact hb2
def limU (K:List Nat):Nat × Nat × Nat:=match K with
 | []=>(0,255,0)
 | b::rest=>(if rest=[] then (zt b).lo else 128,if rest=[] then (zt b).hi else 191,if (zt b).m=0 then 0 else (zt b).m+1)
theorem KeptU.lim {K:List Nat} {s:US} (h:KeptU K s) (hK:0<s.m):limU K=(s.lo,s.hi,K.length+s.m):=by
 rcases h with ⟨h,_⟩ | ⟨_,b0,rest,rfl,hb,hm,hr,hr2,hv,hx⟩
 ·omega
 ·unfold limU;dsimp only;rw [if_neg (show ¬ (zt b0).m=0 by omega),hm]
  by_cases e:rest=[]
  ·rw [if_pos e,if_pos e,hr e,e]
   simp
   omega
  ·obtain ⟨a,c⟩:=hr2 e;rw [if_neg e,if_neg e,a,c]
   simp
   omega
end Go.Proofs.YtbogmeeijdaijaaGreatDoor
namespace Go.Proofs.YtbogmeeijdaijaaGreatDoor
open Go.Proofs.Tryz Go.RowKit
set_option maxRecDepth 20000
theorem chV_app (a b:List Nat):chV (a++b)=chV a++chV b:=by simp [chV]
theorem qdd:Elt prog 151 21 (.int .i32 0) 1 4 where
 und:=underlying151
 row:=by
  have h:(prog.info? 21).map (fun i=>(i.zero,i.size,i.bytes))=some (some (.int .i32 0),1,4):=by kernel_rfl
  obtain ⟨i,hi,a,b,c⟩:=info_parts h;exact ⟨i,hi,a,b,c⟩
 zs:=rfl
 pos:=by decide
theorem qca {w:World} {base c x:Nat} {A:Option Addr} {e:TypeId} {outs:List Nat} {v:Int} (h:w.ownsRow base e 1 (.slice A (outs.length+1) c) (outs.length+1) (chV outs++[.int .i32 v])) (hv:(x:Int)=v) :
  w.ownsRow base e 1 (.slice A (outs++[x]).length c) (outs++[x]).length (chV (outs++[x])):=by
 rw [chV_app,Lf,Lz];subst hv;exact h
theorem qgd (s:ByteArray) (c:UInt8):(s.toList==[c])=decide (s.data.toList=[c]):=by
 rw [ByteArray.toList_eq];rw [Bool.eq_iff_iff]
 simp
def za (l:List Nat):List ByteArray:=l.flatMap fun (r:Nat)=>qD (r:Int)
theorem qgu (l:List Nat) (r:Nat):za (l++[r])=za l++qD (r:Int):=by
 unfold za;rw [List.flatMap_append];simp only [List.flatMap_cons,List.flatMap_nil,List.append_nil]
theorem qdS (l:List Nat):(za l).length<=16 * l.length:=by
 induction l with
 | nil=>simp [za]
 | cons a t ih =>
  have h1:=qeR (a:Int);have e:za (a::t)=qD (a:Int)++za t:=by simp [za]
  rw [e,Lf,Lp]
  omega
theorem qfH {l:List Nat} {j:Nat} (h:j<l.length):za (l.take (j+1))=za (l.take j)++qD (l[j]:Int):=by
 have e:l.take (j+1)=l.take j++[l[j]]:=(List.take_append_getElem h).symm;rw [e,qgu]
theorem yC {g:Gl} (h:g.text.data.toList=[32]):qP g=[yB]:=if_pos h
theorem jr {g:Gl} (h:g.text.data.toList≠[32]):qP g=za (qs (qB g.text)):=if_neg h
def Same (v:Value) (w:World) (en:Ending) (w':World):Prop:=en = .returned v/\w=w'
def limV (x:Nat × Nat × Nat):Value:=.tuple #[.int .u8 x.1,.int .u8 x.2.1,.int .i64 x.2.2]
theorem qh9 (a b:List Nat):byV (a++b)=byV a++byV b:=by simp [byV]
theorem lim_eq (x:Nat × Nat × Nat) (a b c:Int) (h1:a=x.1) (h2:b=x.2.1) (h3:c=x.2.2):Value.tuple #[.int .u8 a,.int .u8 b,.int .i64 c]=limV x:=by subst h1 h2 h3;rfl
theorem qcZ (b:Nat) (rest:List Nat) (hb:b<256) (A:Option Addr) (n c B:Nat) (w:World) (hn:rest.length+1=n) (hn2:n<=1000000000) (rd:Rd w B 1 A n (byV (b::rest))) :
  Calls prog 148 #[.slice A n c] w (Same (limV (limU (b::rest))) w):=by
 obtain ⟨g,o,rfl,_,hcc⟩:=rd.2 L0;have hcell:w.cell? ⟨g,o,none⟩=some (.int .u8 (b:Int)):=hcc 0 _ rfl;have HE:=Lh (lim_eq (limU (b::rest)))
 have HM:Hid ((limU (b::rest)).2.2=if 0xC2<=b/\b<=0xDF then 2 else if 0xE0<=b/\b<=0xEF then 3 else if 0xF0<=b/\b<=0xF4 then 4 else 0):=Lh (by
  show (if (if 0xC2<=b/\b<=0xDF then 1 else if 0xE0<=b/\b<=0xEF then 2 else if 0xF0<=b/\b<=0xF4 then 3 else 0)=0 then 0 else (if 0xC2<=b/\b<=0xDF then 1 else if 0xE0<=b/\b<=0xEF then 2 else if 0xF0<=b/\b<=0xF4 then 3 else 0)+1)=_
  by_cases h1:0xC2<=b/\b<=0xDF
  ·simp [h1]
  ·by_cases h2:0xE0<=b/\b<=0xEF
   ·simp [h1,h2]
   ·by_cases h3:0xF0<=b/\b<=0xF4
    ·simp [h1,h2,h3]
    ·simp [h1,h2,h3])
 have hr:rest=[]↔n=1:=by
  constructor
  ·rintro rfl;simpa using hn.symm
  ·intro h;exact List.eq_nil_of_length_eq_zero L0
 have HL:Hid ((limU (b::rest)).1=if n=1 then (if b=0xE0 then 0xA0 else if b=0xF0 then 0x90 else 0x80) else 128):=Lh (by
  show (if rest=[] then (zt b).lo else 128)=_
  simp only [hr]
  rfl)
 have HH:Hid ((limU (b::rest)).2.1=if n=1 then (if b=0xED then 0x9F else if b=0xF4 then 0x8F else 0xBF) else 191):=Lh (by
  show (if rest=[] then (zt b).hi else 191)=_
  simp only [hr]
  rfl)
 have h0:0<n:=by omega
 clear hcc hn hr rd;generalize limU (b::rest)=S at *
 by_cases h1:n=1
 ·subst h1;rw [if_pos rfl] at HL HH
  go_enter func148,ntmps148
  go_wp2
  all_goals
   simp only [beq_iff_eq,Lm,ne_eq] at *
   go_ret3;refine ⟨congrArg Ending.returned (HE.out _ _ _ ?_ ?_ ?_),rfl⟩
   ·rw [HL.out];(repeat' split) <;> omega
   ·rw [HH.out];(repeat' split) <;> omega
   ·rw [HM.out];(repeat' split) <;> omega
 ·rw [if_neg h1] at HL HH;have h2:((n:Int)==1)=false:=Lm.2 L0
  go_enter func148,ntmps148
  go_wp2
  all_goals
   go_ret3;refine ⟨congrArg Ending.returned (HE.out _ _ _ ?_ ?_ ?_),rfl⟩
   ·rw [HL.out];(repeat' split) <;> omega
   ·rw [HH.out];(repeat' split) <;> omega
   ·rw [HM.out];(repeat' split) <;> omega
theorem begU_m (b:Nat):((zt b).m=1->(zt b).v+192=b)/\((zt b).m=2->(zt b).v+224=b)/\((zt b).m=3->(zt b).v+240=b)/\(zt b).v<32/\(zt b).m<=3:=by
 unfold zt;dsimp only;refine ⟨?_,?_,?_,?_,?_⟩
 ·intro h
  split at h
  ·rw [if_pos L3];omega
  ·split at h
   ·omega
   ·split at h <;> omega
 ·intro h
  split at h
  ·omega
  ·split at h
   ·rw [if_neg L3,if_pos L3];omega
   ·split at h <;> omega
 ·intro h
  split at h
  ·omega
  ·split at h
   ·omega
   ·split at h
    ·rw [if_neg L3,if_neg L3,if_pos L3];omega
    ·omega
 ·split
  ·omega
  ·split
   ·omega
   ·split <;> omega
 ·split
  ·omega
  ·split
   ·omega
   ·split <;> omega
def jd (b0:Nat) (rest:List Nat) (j:Nat):Nat:=(rest.take j).foldl (fun n b=>n * 64+b-128) (zt b0).v
theorem qjG (b0:Nat) (rest:List Nat):jd b0 rest 0=(zt b0).v:=rfl
theorem qiM {b0:Nat} {rest:List Nat} {j:Nat} (h:j<rest.length):jd b0 rest (j+1)=jd b0 rest j * 64+rest[j]-128:=by
 unfold jd;rw [List.take_add_one,List.getElem?_eq_getElem h,List.foldl_append]
 rfl
theorem valK_all (b0:Nat) (rest:List Nat):jd b0 rest rest.length=valU (b0::rest):=by
 unfold jd valU;rw [List.take_length]
theorem value_ (b0:Nat) (rest:List Nat) (hb:b0<256) (hm:(zt b0).m=rest.length) (h0:0<rest.length) (hx : ∀ x∈rest,128<=x/\x<=191) (A:Option Addr) (n c B:Nat) (w:World) (hn:rest.length+1=n) (rd:Rd w B 1 A n (byV (b0::rest))) :
  Calls prog 149 #[.slice A n c] w (Same (.int .i32 (valU (b0::rest):Int)) w):=by
 obtain ⟨m1,m2,m3,mv,m4⟩:=begU_m b0;obtain ⟨g,o,rfl,_,hcc⟩:=rd.2 L0;have hcell:w.cell? ⟨g,o,none⟩=some (.int .u8 (b0:Int)):=hcc 0 _ rfl;have HC:Hid (∀ j (h:j<rest.length),w.cell? ⟨g,o+(j+1),none⟩=some (.int .u8 (rest[j]:Int))):=Lh fun j h=>hcc (j+1) _ (by simp [byV,h])
 have HS:Hid (∀ j (h:j<rest.length),jd b0 rest (j+1)=jd b0 rest j * 64+rest[j]-128):=Lh fun j h=>qiM h
 have HX:Hid (∀ j (h:j<rest.length),128<=rest[j]/\rest[j]<=191):=Lh fun j h=>hx _ (Lt h)
 have HZ:=Lh (qjG b0 rest);rw [<- valK_all];rw [hm] at m1 m2 m3 m4;generalize (zt b0).v=bv at *
 obtain rfl:n=rest.length+1:=hn.symm;clear hcc rd hx hm
 by_cases hl:rest.length=1
 ·have hv:=(m1 L0)
  have hb2:(b0:Int)=bv+192:=by omega
  have hl2:(rest.length:Int)=1:=by omega
  clear m1 m2 m3
  go_enter func149,ntmps149
  go_wp2
  go_loopw [3,4] (fun v x wr=>∃ j:Nat,j<=rest.length/\x = .int .i64 ((j:Int)+1)/\v = .int .i32 (jd b0 rest j:Int)/\wr=w/\((j=0/\jd b0 rest j<32)∨(j=1/\jd b0 rest j<2048)∨(j=2/\jd b0 rest j<131072)∨(j=3/\jd b0 rest j<8388608))) (fun _ x _=>rest.length+1-(intOf x).toNat)
  case atStart=>exact ⟨0,Nat.zero_le _,rfl,by rw [HZ.out],rfl,.inl ⟨rfl,by rw [HZ.out];exact mv⟩⟩
  case round =>
   obtain ⟨j,hj,rfl,rfl,rfl,hbd⟩:=hrel
   by_cases hlt:j<rest.length
   ·have hc:=HC.out j hlt;have hs:=HS.out j hlt;have hxx:=HX.out j hlt;generalize rest[j]=y at *
    generalize hv1:jd b0 rest (j+1)=v1 at *
    generalize jd b0 rest j=v0 at *
    have hv2:(v1:Int)=(v0:Int) * 64+y-128:=by omega
    go_wp2;refine ⟨⟨j+1,by omega,by go_num,?_,(by first | trivial | rfl),by omega⟩,by simp [intOf];omega⟩;rw [hv1,hv2]
   ·obtain rfl:j=rest.length:=by omega
    go_wp2;go_ret;exact ⟨rfl,rfl⟩
 skip
 by_cases hl:rest.length=2
 ·have hv:=(m2 L0)
  have hb2:(b0:Int)=bv+224:=by omega
  have hl2:(rest.length:Int)=2:=by omega
  clear m1 m2 m3
  go_enter func149,ntmps149
  go_wp2
  go_loopw [3,4] (fun v x wr=>∃ j:Nat,j<=rest.length/\x = .int .i64 ((j:Int)+1)/\v = .int .i32 (jd b0 rest j:Int)/\wr=w/\((j=0/\jd b0 rest j<32)∨(j=1/\jd b0 rest j<2048)∨(j=2/\jd b0 rest j<131072)∨(j=3/\jd b0 rest j<8388608))) (fun _ x _=>rest.length+1-(intOf x).toNat)
  case atStart=>exact ⟨0,Nat.zero_le _,rfl,by rw [HZ.out],rfl,.inl ⟨rfl,by rw [HZ.out];exact mv⟩⟩
  case round =>
   obtain ⟨j,hj,rfl,rfl,rfl,hbd⟩:=hrel
   by_cases hlt:j<rest.length
   ·have hc:=HC.out j hlt;have hs:=HS.out j hlt;have hxx:=HX.out j hlt;generalize rest[j]=y at *
    generalize hv1:jd b0 rest (j+1)=v1 at *
    generalize jd b0 rest j=v0 at *
    have hv2:(v1:Int)=(v0:Int) * 64+y-128:=by omega
    go_wp2;refine ⟨⟨j+1,by omega,by go_num,?_,(by first | trivial | rfl),by omega⟩,by simp [intOf];omega⟩;rw [hv1,hv2]
   ·obtain rfl:j=rest.length:=by omega
    go_wp2;go_ret;exact ⟨rfl,rfl⟩
 skip
 by_cases hl:rest.length=3
 ·have hv:=(m3 L0)
  have hb2:(b0:Int)=bv+240:=by omega
  have hl2:(rest.length:Int)=3:=by omega
  clear m1 m2 m3
  go_enter func149,ntmps149
  go_wp2
  go_loopw [3,4] (fun v x wr=>∃ j:Nat,j<=rest.length/\x = .int .i64 ((j:Int)+1)/\v = .int .i32 (jd b0 rest j:Int)/\wr=w/\((j=0/\jd b0 rest j<32)∨(j=1/\jd b0 rest j<2048)∨(j=2/\jd b0 rest j<131072)∨(j=3/\jd b0 rest j<8388608))) (fun _ x _=>rest.length+1-(intOf x).toNat)
  case atStart=>exact ⟨0,Nat.zero_le _,rfl,by rw [HZ.out],rfl,.inl ⟨rfl,by rw [HZ.out];exact mv⟩⟩
  case round =>
   obtain ⟨j,hj,rfl,rfl,rfl,hbd⟩:=hrel
   by_cases hlt:j<rest.length
   ·have hc:=HC.out j hlt;have hs:=HS.out j hlt;have hxx:=HX.out j hlt;generalize rest[j]=y at *
    generalize hv1:jd b0 rest (j+1)=v1 at *
    generalize jd b0 rest j=v0 at *
    have hv2:(v1:Int)=(v0:Int) * 64+y-128:=by omega
    go_wp2;refine ⟨⟨j+1,by omega,by go_num,?_,(by first | trivial | rfl),by omega⟩,by simp [intOf];omega⟩;rw [hv1,hv2]
   ·obtain rfl:j=rest.length:=by omega
    go_wp2;go_ret;exact ⟨rfl,rfl⟩
 skip
 omega
end Go.Proofs.YtbogmeeijdaijaaGreatDoor
