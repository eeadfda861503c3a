/- Joined: Kit, Wd1, Eq, NumP, Ut3, Un0, Un2, Rn1, Rn2, Rn3, Rn4. -/
import Derived.Test.YtbogmeeijdaijaaGreatDoorZAD
set_option linter.unusedVariables false
set_option linter.unusedSimpArgs false
set_option linter.unnecessarySimpa false
set_option maxHeartbeats 4000000
namespace Go.Proofs.YtbogmeeijdaijaaGreatDoor
open Go.Proofs.Tryz Go.RowKit
set_option maxRecDepth 20000
section
variable {w w' : World} {B B' size n : Nat} {A : Option Addr} {xs : List Value}
end
theorem zE {B n:Nat} {w w':World} (h:Below B (w.drewN n) w'):Below B w w':=⟨h.os,h.tape,h.output,h.size,h.block⟩
section
variable {w w' : World} {g : Nat} {t : TypeId} {cs : Array Value}
end
section
variable {P : Program} {w : World}
end
end Go.Proofs.YtbogmeeijdaijaaGreatDoor
namespace Go.Proofs.YtbogmeeijdaijaaGreatDoor
theorem qaz : ∀ (l:List Gl) (k:Nat) (st:Int),runK l k st<=l.length
 | [],_,_=>Nat.le_refl _
 | g::t,k,st=>by
  have:=qaz t k st;rw [runK]
  split
  ·simp;omega
  ·simp
theorem qfA : ∀ (l:List Gl) (g:Gl) (m:Nat),runE l g m<=l.length/\runE l g m<=m
 | l,_,0=>by cases l <;> simp [runE]
 | [],_,_+1=>by simp [runE]
 | x::t,g,m+1=>by
  have:=qfA t g m;rw [runE]
  split
  ·simp;omega
  ·simp
theorem vz {g:Gl} {t:List Gl} (rep:Int):0<qo (g::t) rep/\qo (g::t) rep<=t.length+1:=by
 have h1:=qaz (g::t) (qd g) g.style;have h2:=qaz (g::t) 2 g.style;have h3:=qaz t 1 g.style;have h4:=qfA t g 131;have h5:runK (g::t) (qd g) g.style=runK t (qd g) g.style+1:=by rw [runK,if_pos ⟨rfl,rfl⟩]
 simp only [List.length_cons] at h1 h2;unfold qo;simp only
 split
 ·omega
 ·split
  ·split <;> omega
  ·split <;> omega
end Go.Proofs.YtbogmeeijdaijaaGreatDoor
namespace Go.Proofs.YtbogmeeijdaijaaGreatDoor
open Go.Proofs.Tryz Go.RowKit
set_option maxRecDepth 20000
theorem same_t (l m:List ByteArray) (h:l=m) (A A':Option Addr) (n n' c c' B B':Nat) (w:World) (hn:l.length=n) (hn':m.length=n') (hl:Rd w B 1 A n (sv l)) (hm:Rd w B' 1 A' n' (sv m)) (hb:n<=140737488355328) (hb':n'<=140737488355328) :
  Calls prog 125 #[.slice A n c,.slice A' n' c'] w (Quiet (.bool true) w):=by
 subst hn hn';exact (same l m A A' c c' (max B B') w (hl.more (Nat.le_max_left _ _)) (hm.more (Nat.le_max_right _ _)) hb hb').mono fun _ _ x=>x.t (by simp [h])
theorem same_f (l m:List ByteArray) (h:l≠m) (A A':Option Addr) (n n' c c' B B':Nat) (w:World) (hn:l.length=n) (hn':m.length=n') (hl:Rd w B 1 A n (sv l)) (hm:Rd w B' 1 A' n' (sv m)) (hb:n<=140737488355328) (hb':n'<=140737488355328) :
  Calls prog 125 #[.slice A n c,.slice A' n' c'] w (Quiet (.bool false) w):=by
 subst hn hn';exact (same l m A A' c c' (max B B') w (hl.more (Nat.le_max_left _ _)) (hm.more (Nat.le_max_right _ _)) hb hb').mono fun _ _ x=>x.t (by simp [h])
end Go.Proofs.YtbogmeeijdaijaaGreatDoor
namespace Go.Proofs.YtbogmeeijdaijaaGreatDoor
theorem valK_wb (i:Nat) (h:i<28):qbS 28 (wb i)=some (qbt i):=by
 have : ∀ i:Fin 28,qbS 28 (wb i.val)=some (qbt i.val):=by decide +kernel
 exact this ⟨i,h⟩
theorem qa1 (i j:Nat) (h:i<32) (k:j<32) (hne:i≠j):wb i≠wb j:=by
 have : ∀ i j:Fin 32,i≠j->wb i.val≠wb j.val:=by decide +kernel
 exact this ⟨i,h⟩ ⟨j,k⟩ (by intro e;injection e with e;exact hne e)
theorem qd4 (a p:Int) (i:Nat) (h:i<28) (ha:a<=999999999) (hp:p+qbt i<=999999999):kp a p (wb i)=some (a,p+qbt i):=by
 unfold kp swN;rw [if_neg (qa1 _ _ L0 L0 L0),if_neg (qa1 _ _ L0 L0 L0),if_neg (qa1 _ _ L0 L0 L0),if_neg (qa1 _ _ L0 L0 L0),valK_wb i h];simp only;rw [if_neg L0]
theorem qfc (a p:Int) (ha:a<=999999999) (hp:p * 100<=999999999):kp a p (wb 28)=some (a,p * 100):=by
 unfold kp swN;rw [if_neg (qa1 _ _ L0 L0 L0),if_pos rfl];simp only;rw [if_neg L0]
theorem qea (a p:Int) (ha:a+1000 * p<=999999999):kp a p (wb 29)=some (a+1000 * p,0):=by
 unfold kp swN;rw [if_neg (qa1 _ _ L0 L0 L0),if_neg (qa1 _ _ L0 L0 L0),if_pos rfl];simp only;rw [if_neg L0]
theorem qfm (a p:Int) (ha:a+1000000 * p<=999999999):kp a p (wb 30)=some (a+1000000 * p,0):=by
 unfold kp swN;rw [if_neg (qa1 _ _ L0 L0 L0),if_neg (qa1 _ _ L0 L0 L0),if_neg (qa1 _ _ L0 L0 L0),if_pos rfl];simp only;rw [if_neg L0]
theorem qhn (a p:Int) (ha:a<=999999999) (hp:p<=999999999):kp a p (wb 31)=some (a,p):=by
 unfold kp swN;rw [if_pos rfl];simp only;rw [if_neg L0]
theorem kf {s:ByteArray} {t:List ByteArray} {a p a' p':Int} (h:kp a p s=some (a',p')):vS (s::t) a p=vS t a' p':=by
 rw [vS,h]
theorem qbA (q:Nat) (hq:q<1000) (a:Int) (ha:a<=999999999) (t:List ByteArray):vS ((zj q).map wb++t) a 0=vS t a q:=by
 have hT : ∀ (j:Nat) (p:Int),j<20->p+j<=999999999->vS ((kO j).map wb++t) a p=vS t a (p+j):=by
  intro j p hj hp;unfold kO
  by_cases h:0<j
  ·rw [if_pos h];have hv:qbt j=j:=by unfold qbt;rw [if_neg L0]
   simp only [List.map_cons,List.map_nil,List.cons_append,Lg];rw [kf (qd4 a p j L0 ha L0),hv]
  ·obtain rfl:j=0:=by omega
   simp
 have hS : ∀ (k:Nat) (p:Int),k<100->p+k<=999999999->vS ((yz k).map wb++((kO (if 20<=k then k % 10 else k)).map wb++t)) a p=vS t a (p+k):=by
  intro k p hk hp;unfold yz
  by_cases h:20<=k
  ·rw [if_pos h,if_pos h];have hv:qbt (18+k / 10)=10 * (k / 10:Nat):=by unfold qbt;split <;> omega
   simp only [List.map_cons,List.map_nil,List.cons_append,Lg];rw [kf (qd4 a p (18+k / 10) L0 ha (by rw [hv];omega)),hv,hT _ _ L0 L0]
   congr 1
   omega
  ·rw [if_neg h,if_neg h];simp only [List.map_nil,Lg];rw [hT _ _ L0 L0]
 unfold zj yQ
 by_cases h:100<=q
 ·simp only [if_pos h,List.map_append,List.map_cons,List.cons_append,Lg,List.append_assoc];have hv:qbt (q / 100)=(q / 100:Nat):=by unfold qbt;rw [if_neg L0]
  rw [kf (qd4 a 0 (q / 100) L0 ha (by rw [hv];omega)),hv,kf (qfc a _ ha L0),hS _ _ L0 L0]
  congr 1
  omega
 ·simp only [if_neg h,List.map_append,Lg,List.append_assoc];rw [hS _ _ L0 L0]
  congr 1
  omega
theorem loop_pos (m:Nat) (hm:m<=999999999) : ∃ a p:Int,vS ((posL m).map wb) 0 0=some (a,p)/\a+p=m:=by
 rw [km];have h1 : ∀ t,vS ((yO (m / 1000000) 30).map wb++t) 0 0=vS t (1000000 * (m / 1000000:Nat)) 0:=by
  intro t;unfold yO
  by_cases h:0<m / 1000000
  ·rw [if_pos h];simp only [List.map_append,List.map_cons,List.map_nil,List.append_assoc,List.cons_append,Lg];rw [qbA _ L0 0 L0,kf (qfm _ _ L0)]
   congr 1
   omega
  ·rw [if_neg h];have:m / 1000000=0:=by omega
   simp [this]
 have h2 : ∀ t,vS ((yO (m % 1000000 / 1000) 29).map wb++t) (1000000 * (m / 1000000:Nat)) 0=vS t (1000000 * (m / 1000000:Nat)+1000 * (m % 1000000 / 1000:Nat)) 0:=by
  intro t;unfold yO
  by_cases h:0<m % 1000000 / 1000
  ·rw [if_pos h];simp only [List.map_append,List.map_cons,List.map_nil,List.append_assoc,List.cons_append,Lg];rw [qbA _ L0 _ L0,kf (qea _ _ L0)]
  ·rw [if_neg h];have:m % 1000000 / 1000=0:=by omega
   rw [this]
   simp
 have h3:vS ((qak (m % 1000000 % 1000)).map wb) (1000000 * (m / 1000000:Nat)+1000 * (m % 1000000 / 1000:Nat)) 0=some ((1000000 * (m / 1000000:Nat)+1000 * (m % 1000000 / 1000:Nat):Int),((m % 1000000 % 1000:Nat):Int)):=by
  unfold qak
  by_cases h:0<m % 1000000 % 1000
  ·rw [if_pos h];have:=qbA (m % 1000000 % 1000) L0 (1000000 * (m / 1000000:Nat)+1000 * (m % 1000000 / 1000:Nat)) L0 [];rw [List.append_nil] at this;rw [this,vS]
  ·rw [if_neg h];have:m % 1000000 % 1000=0:=by omega
   rw [this]
   rfl
 have h4:vS ((yO (m / 1000000) 30++yO (m % 1000000 / 1000) 29++qak (m % 1000000 % 1000)).map wb) 0 0=some ((1000000 * (m / 1000000:Nat)+1000 * (m % 1000000 / 1000:Nat):Int),((m % 1000000 % 1000:Nat):Int)):=by
  rw [List.map_append,List.map_append,List.append_assoc,h1,h2,h3]
 exact ⟨_,_,h4,by omega⟩
theorem qbJ (q:Nat) (hq:q<1000) (h0:0<q) : ∃ i t,zj q=i::t/\i<28:=by
 unfold zj yQ yz kO
 by_cases h:100<=q
 ·exact ⟨q / 100,_,by simp only [if_pos h];rfl,by omega⟩
 ·simp only [if_neg h,Lg]
  by_cases h2:20<=q
  ·exact ⟨18+q / 10,_,by simp only [if_pos h2];rfl,by omega⟩
  ·exact ⟨q,[],by simp [h2,h0],by omega⟩
theorem qfJ (m:Nat) (hm:m<=999999999) (h0:0<m) : ∃ i t,posL m=i::t/\i<28:=by
 rw [km];unfold yO qak
 by_cases h1:0<m / 1000000
 ·obtain ⟨i,t,e,hi⟩:=qbJ (m / 1000000) L0 h1;rw [if_pos h1,e];exact ⟨i,_,rfl,hi⟩
 rw [if_neg h1,Lg]
 by_cases h2:0<m % 1000000 / 1000
 ·obtain ⟨i,t,e,hi⟩:=qbJ (m % 1000000 / 1000) L0 h2;rw [if_pos h2,e];exact ⟨i,_,rfl,hi⟩
 rw [if_neg h2,Lg];obtain ⟨i,t,e,hi⟩:=qbJ (m % 1000000 % 1000) L0 L0;rw [if_pos L0,e];exact ⟨i,t,rfl,hi⟩
theorem qaa (n:Int):0<(qm n).length∨n < -999999999∨999999999<n:=by
 by_cases hn:n < -999999999∨999999999<n
 ·exact .inr hn
 left
 unfold qm
 by_cases h0:n=0
 ·rw [if_pos h0];decide
 ·rw [if_neg h0];obtain ⟨i,t,e,_⟩:=qfJ n.natAbs L0 L0;rw [e]
  simp
  omega
theorem qfg (n:Int) (h1 : -999999999<=n) (h2:n<=999999999):zc ((qm n).map wb)=some n:=by
 have hlen:=ke n;have hpos:0<(qm n).length:=by
  rcases qaa n with h | h
  ·exact h
  ·omega
 have hck:qaA ((qm n).map wb) n=some n:=by unfold qaA;rw [if_pos ⟨h1,h2,rfl⟩]
 unfold zc;rw [if_neg (by rw [Lq];omega)]
 by_cases h0:n=0
 ·subst h0
  decide +kernel
 ·obtain ⟨i,t,e,hi⟩:=qfJ n.natAbs L0 L0;obtain ⟨a,p,hl,hap⟩:=loop_pos n.natAbs L0
  by_cases hneg:n<0
  ·have hw:qm n=31::posL n.natAbs:=by unfold qm;rw [if_neg h0,if_pos hneg];rfl
   have hlo:vS ((qm n).map wb) 0 0=some (a,p):=by rw [hw,List.map_cons,kf (qhn 0 0 L0 L0),hl]
   have hs:qbx ((qm n).map wb) (a+p)=n:=by
    rw [hw]
    show (if some (wb 31)=some (wb 31) then -(a+p) else a+p)=n
    rw [if_pos rfl]
    omega
   rw [hlo];simp only;rw [hs,hck]
  ·have hw:qm n=posL n.natAbs:=by unfold qm;rw [if_neg h0,if_neg hneg];rfl
   have hlo:vS ((qm n).map wb) 0 0=some (a,p):=by rw [hw,hl]
   have hs:qbx ((qm n).map wb) (a+p)=n:=by
    rw [hw,e];unfold qbx
    rw [if_neg (by
     simp only [List.map_cons,List.head?_cons,Option.some.injEq]
     exact qa1 _ _ L0 L0 L0)]
    omega
   rw [hlo];simp only;rw [hs,hck]
theorem qf2 {s:ByteArray} (h:vb s=true):(zJ (qB s) (u0,[])).1.m=0:=by
 rw [vb,decide_eq_true_eq] at h;obtain ⟨s',e,h0⟩:=qcj (qs (qB s)) (yD _) u0 rfl [];rw [h] at e;rw [e];exact h0
theorem step_on {s:US} {b:Nat} {t out:List Nat} (h0:0<s.m) (h1:s.lo<=b) (h2:b<=s.hi) (h3:s.m≠1):zJ (b::t) (s,out)=zJ t (⟨s.v * 64+b % 64,s.m-1,0x80,0xBF⟩,out):=qdc (by omega) h1 h2 t out
theorem qj5 {s:US} {b:Nat} {t out:List Nat} (h0:s.m=1) (h1:s.lo<=b) (h2:b<=s.hi):zJ (b::t) (s,out)=zJ t (⟨s.v * 64+b % 64,s.m-1,0x80,0xBF⟩,out++[s.v * 64+b % 64]):=by rw [qbj h0 h1 h2,h0]
theorem qjq {s:US} {b:Nat} {t out:List Nat} (h0:0<s.m) (h1 : ¬ (s.lo<=b/\b<=s.hi)):zJ (b::t) (s,out)=zJ (b::t) (u0,out++[65533]):=by
 have e:qat s b=false:=by
  cases h:qat s b with
  | false=>rfl
  | true=>exact absurd (qcm.1 h).2 h1
 show zJ t (jU s b,out++ku s b)=zJ t (jU u0 b,out++[65533]++ku u0 b)
 have e0:qat u0 b=false:=qav rfl b;rw [jU,jU,e,e0,ku,ku,e,e0];simp only [Bool.false_eq_true,if_false,if_pos h0];rw [if_neg (show ¬ 0<u0.m from Nat.lt_irrefl 0)]
 simp
theorem step_asc {s:US} {b:Nat} {t out:List Nat} (h0:s.m=0) (h1:b<128):zJ (b::t) (s,out)=zJ t (zt b,out++[b]):=qgi h0 h1 t out
theorem step_bad {s:US} {b:Nat} {t out:List Nat} (h0:s.m=0) (h1 : ¬ b<128) (h2:(zt b).m=0):zJ (b::t) (s,out)=zJ t (zt b,out++[65533]):=by
 show zJ t (jU s b,out++ku s b)=_
 rw [jU,ku,qav h0];simp only [Bool.false_eq_true,if_false];rw [if_neg (by omega),if_neg h1,if_pos h2]
 rfl
theorem qje {s:US} {b:Nat} {t out:List Nat} (h0:s.m=0) (h1 : ¬ b<128) (h2:(zt b).m≠0):zJ (b::t) (s,out)=zJ t (zt b,out):=qbf h0 (by omega) rfl h2 t out
section
variable {l t outs : List Nat} {sv sm slo shi b : Nat} {F : US × List Nat}
theorem run_on (h:zJ l (⟨sv,sm,slo,shi⟩,outs)=F) (hl:l=b::t) (h0:0<sm) (h1:slo<=b) (h2:b<=shi) (h3:sm≠1):zJ t (⟨sv * 64+b % 64,sm-1,128,191⟩,outs)=F:=by
 rw [<- h,hl,step_on (s:=⟨sv,sm,slo,shi⟩) h0 h1 h2 h3]
theorem run_last (h:zJ l (⟨sv,1,slo,shi⟩,outs)=F) (hl:l=b::t) (h1:slo<=b) (h2:b<=shi):zJ t (⟨sv * 64+b % 64,0,128,191⟩,outs++[sv * 64+b % 64])=F:=by
 rw [<- h,hl,qj5 (s:=⟨sv,1,slo,shi⟩) rfl h1 h2]
 rfl
theorem run_back (h:zJ l (⟨sv,sm,slo,shi⟩,outs)=F) (hl:l=b::t) (h0:0<sm) (h1 : ¬ (slo<=b/\b<=shi)):zJ l (u0,outs++[65533])=F:=by
 rw [<- h,hl,qjq (s:=⟨sv,sm,slo,shi⟩) h0 h1]
theorem run_asc {s:US} (h:zJ l (s,outs)=F) (hl:l=b::t) (h0:s.m=0) (h1:b<128):zJ t (zt b,outs++[b])=F:=by
 rw [<- h,hl,step_asc h0 h1]
theorem run_bad {s:US} (h:zJ l (s,outs)=F) (hl:l=b::t) (h0:s.m=0) (h1 : ¬ b<128) (h2:(zt b).m=0):zJ t (zt b,outs++[65533])=F:=by
 rw [<- h,hl,step_bad h0 h1 h2]
theorem run_lead {s:US} (h:zJ l (s,outs)=F) (hl:l=b::t) (h0:s.m=0) (h1 : ¬ b<128) (h2:(zt b).m≠0):zJ t (zt b,outs)=F:=by
 rw [<- h,hl,qje h0 h1 h2]
end
def KeptU (K:List Nat) (s:US):Prop :=
 (s.m=0/\K=[])∨(0<s.m/\∃ b0 rest,K=b0::rest/\b0<256/\(zt b0).m=s.m+rest.length/\(rest=[]->zt b0=s)/\(rest≠[]->s.lo=128/\s.hi=191) /\
  rest.foldl (fun n b=>n * 64+b-128) (zt b0).v=s.v/\∀ x∈rest,128<=x/\x<=191)
theorem qgz:KeptU [] u0:=.inl ⟨rfl,rfl⟩
theorem KeptU.beg {b:Nat} (hb:b<256) (h:(zt b).m≠0):KeptU [b] (zt b):=.inr ⟨by omega,b,[],rfl,hb,rfl,fun _=>rfl,fun h=>absurd rfl h,rfl,fun x hx=>by cases hx⟩
theorem qf4 (b:Nat):128<=(zt b).lo/\(zt b).hi<=191:=by
 unfold zt;dsimp only
 constructor
 ·split
  ·omega
  ·split <;> omega
 ·split
  ·omega
  ·split <;> omega
theorem KeptU.snoc {K:List Nat} {s:US} {b:Nat} (h:KeptU K s) (h0:1<s.m) (h1:s.lo<=b) (h2:b<=s.hi):KeptU (K++[b]) ⟨s.v * 64+b % 64,s.m-1,0x80,0xBF⟩:=by
 rcases h with ⟨h,_⟩ | ⟨_,b0,rest,rfl,hb,hm,hr,hr2,hv,hx⟩
 ·omega
 ·have hb2:128<=b/\b<=191:=by
   by_cases e:rest=[]
   ·have:=hr e;subst this;have:=qf4 b0
    omega
   ·have:=hr2 e
    omega
  refine .inr ⟨by dsimp only;omega,b0,rest++[b],rfl,hb,?_,fun e=>absurd e (by simp),fun _=>⟨rfl,rfl⟩,?_,fun x h=>?_⟩
  ·rw [List.length_append,List.length_singleton];dsimp only
   omega
  ·rw [List.foldl_append,hv];dsimp only [List.foldl]
   omega
  ·rcases List.mem_append.1 h with h | h
   ·exact hx x h
   ·rw [List.mem_singleton] at h;subst h;exact hb2
def valU (K:List Nat):Nat:=match K with
 | []=>0
 | b0::rest=>rest.foldl (fun n b=>n * 64+b-128) (zt b0).v
theorem KeptU.whole {K:List Nat} {s:US} {b:Nat} (h:KeptU K s) (h0:s.m=1) (h1:s.lo<=b) (h2:b<=s.hi):valU (K++[b])=s.v * 64+b % 64/\∃ b0 rest,K++[b]=b0::rest/\b0<256/\(zt b0).m=rest.length/\0<rest.length/\∀ x∈rest,128<=x/\x<=191:=by
 rcases h with ⟨h,_⟩ | ⟨_,b0,rest,rfl,hb,hm,hr,hr2,hv,hx⟩
 ·omega
 ·have hb2:128<=b/\b<=191:=by
   by_cases e:rest=[]
   ·have:=hr e;subst this;have:=qf4 b0
    omega
   ·have:=hr2 e
    omega
  refine ⟨?_,b0,rest++[b],rfl,hb,by rw [List.length_append,List.length_singleton];omega,by simp,fun x h=>?_⟩
  ·show (rest++[b]).foldl _ (zt b0).v=_
   rw [List.foldl_append,hv];dsimp only [List.foldl]
   omega
  ·rcases List.mem_append.1 h with h | h
   ·exact hx x h
   ·rw [List.mem_singleton] at h;subst h;exact hb2
def limU (K:List Nat):Nat × Nat × Nat:=match K with
 | []=>(0,255,0)
 | b::rest=>(if rest=[] then (zt b).lo else 128,if rest=[] then (zt b).hi else 191,if (zt b).m=0 then 0 else (zt b).m+1)
theorem KeptU.lim {K:List Nat} {s:US} (h:KeptU K s) (hK:0<s.m):limU K=(s.lo,s.hi,K.length+s.m):=by
 rcases h with ⟨h,_⟩ | ⟨_,b0,rest,rfl,hb,hm,hr,hr2,hv,hx⟩
 ·omega
 ·unfold limU;dsimp only;rw [if_neg (show ¬ (zt b0).m=0 by omega),hm]
  by_cases e:rest=[]
  ·rw [if_pos e,if_pos e,hr e,e]
   simp
   omega
  ·obtain ⟨a,c⟩:=hr2 e;rw [if_neg e,if_neg e,a,c]
   simp
   omega
end Go.Proofs.YtbogmeeijdaijaaGreatDoor
namespace Go.Proofs.YtbogmeeijdaijaaGreatDoor
open Go.Proofs.Tryz Go.RowKit
set_option maxRecDepth 20000
theorem chV_app (a b:List Nat):chV (a++b)=chV a++chV b:=by simp [chV]
theorem qdd:Elt prog 151 21 (.int .i32 0) 1 4 where
 und:=underlying151
 row:=by
  have h:(prog.info? 21).map (fun i=>(i.zero,i.size,i.bytes))=some (some (.int .i32 0),1,4):=by kernel_rfl
  obtain ⟨i,hi,a,b,c⟩:=info_parts h;exact ⟨i,hi,a,b,c⟩
 zs:=rfl
 pos:=by decide
theorem qca {w:World} {base c x:Nat} {A:Option Addr} {e:TypeId} {outs:List Nat} {v:Int} (h:w.ownsRow base e 1 (.slice A (outs.length+1) c) (outs.length+1) (chV outs++[.int .i32 v])) (hv:(x:Int)=v) :
  w.ownsRow base e 1 (.slice A (outs++[x]).length c) (outs++[x]).length (chV (outs++[x])):=by
 rw [chV_app,Lf,Lz];subst hv;exact h
def Same (v:Value) (w:World) (en:Ending) (w':World):Prop:=en = .returned v/\w=w'
def limV (x:Nat × Nat × Nat):Value:=.tuple #[.int .u8 x.1,.int .u8 x.2.1,.int .i64 x.2.2]
theorem qlO (l:List Nat):(byV l).length=l.length:=by simp [byV]
theorem byV_get (l:List Nat) (k:Nat) (h:k<l.length):(byV l)[k]? = some (.int .u8 (l[k]:Int)):=by simp [byV,h]
theorem qh9 (a b:List Nat):byV (a++b)=byV a++byV b:=by simp [byV]
theorem lim_eq (x:Nat × Nat × Nat) (a b c:Int) (h1:a=x.1) (h2:b=x.2.1) (h3:c=x.2.2):Value.tuple #[.int .u8 a,.int .u8 b,.int .i64 c]=limV x:=by subst h1 h2 h3;rfl
theorem qcZ (b:Nat) (rest:List Nat) (hb:b<256) (A:Option Addr) (n c B:Nat) (w:World) (hn:rest.length+1=n) (hn2:n<=1000000000) (rd:Rd w B 1 A n (byV (b::rest))) :
  Calls prog 148 #[.slice A n c] w (Same (limV (limU (b::rest))) w):=by
 obtain ⟨g,o,rfl,_,hcc⟩:=rd.2 L0;have hcell:w.cell? ⟨g,o,none⟩=some (.int .u8 (b:Int)):=hcc 0 _ rfl;have HE:=Lh (lim_eq (limU (b::rest)))
 have HM:Hid ((limU (b::rest)).2.2=if 0xC2<=b/\b<=0xDF then 2 else if 0xE0<=b/\b<=0xEF then 3 else if 0xF0<=b/\b<=0xF4 then 4 else 0):=Lh (by
  show (if (if 0xC2<=b/\b<=0xDF then 1 else if 0xE0<=b/\b<=0xEF then 2 else if 0xF0<=b/\b<=0xF4 then 3 else 0)=0 then 0 else (if 0xC2<=b/\b<=0xDF then 1 else if 0xE0<=b/\b<=0xEF then 2 else if 0xF0<=b/\b<=0xF4 then 3 else 0)+1)=_
  by_cases h1:0xC2<=b/\b<=0xDF
  ·simp [h1]
  ·by_cases h2:0xE0<=b/\b<=0xEF
   ·simp [h1,h2]
   ·by_cases h3:0xF0<=b/\b<=0xF4
    ·simp [h1,h2,h3]
    ·simp [h1,h2,h3])
 have hr:rest=[]↔n=1:=by
  constructor
  ·rintro rfl;simpa using hn.symm
  ·intro h;exact List.eq_nil_of_length_eq_zero L0
 have HL:Hid ((limU (b::rest)).1=if n=1 then (if b=0xE0 then 0xA0 else if b=0xF0 then 0x90 else 0x80) else 128):=Lh (by
  show (if rest=[] then (zt b).lo else 128)=_
  simp only [hr]
  rfl)
 have HH:Hid ((limU (b::rest)).2.1=if n=1 then (if b=0xED then 0x9F else if b=0xF4 then 0x8F else 0xBF) else 191):=Lh (by
  show (if rest=[] then (zt b).hi else 191)=_
  simp only [hr]
  rfl)
 have h0:0<n:=by omega
 clear hcc hn hr rd;generalize limU (b::rest)=S at *
 by_cases h1:n=1
 ·subst h1;rw [if_pos rfl] at HL HH
  go_enter func148,ntmps148
  go_wp2
  all_goals
   simp only [beq_iff_eq,Lm,ne_eq] at *
   go_ret3;refine ⟨congrArg Ending.returned (HE.out _ _ _ ?_ ?_ ?_),rfl⟩
   ·rw [HL.out];(repeat' split) <;> omega
   ·rw [HH.out];(repeat' split) <;> omega
   ·rw [HM.out];(repeat' split) <;> omega
 ·rw [if_neg h1] at HL HH;have h2:((n:Int)==1)=false:=Lm.2 L0
  go_enter func148,ntmps148
  go_wp2
  all_goals
   go_ret3;refine ⟨congrArg Ending.returned (HE.out _ _ _ ?_ ?_ ?_),rfl⟩
   ·rw [HL.out];(repeat' split) <;> omega
   ·rw [HH.out];(repeat' split) <;> omega
   ·rw [HM.out];(repeat' split) <;> omega
theorem begU_m (b:Nat):((zt b).m=1->(zt b).v+192=b)/\((zt b).m=2->(zt b).v+224=b)/\((zt b).m=3->(zt b).v+240=b)/\(zt b).v<32/\(zt b).m<=3:=by
 unfold zt;dsimp only;refine ⟨?_,?_,?_,?_,?_⟩
 ·intro h
  split at h
  ·rw [if_pos L3];omega
  ·split at h
   ·omega
   ·split at h <;> omega
 ·intro h
  split at h
  ·omega
  ·split at h
   ·rw [if_neg L3,if_pos L3];omega
   ·split at h <;> omega
 ·intro h
  split at h
  ·omega
  ·split at h
   ·omega
   ·split at h
    ·rw [if_neg L3,if_neg L3,if_pos L3];omega
    ·omega
 ·split
  ·omega
  ·split
   ·omega
   ·split <;> omega
 ·split
  ·omega
  ·split
   ·omega
   ·split <;> omega
def jd (b0:Nat) (rest:List Nat) (j:Nat):Nat:=(rest.take j).foldl (fun n b=>n * 64+b-128) (zt b0).v
theorem qjG (b0:Nat) (rest:List Nat):jd b0 rest 0=(zt b0).v:=rfl
theorem qiM {b0:Nat} {rest:List Nat} {j:Nat} (h:j<rest.length):jd b0 rest (j+1)=jd b0 rest j * 64+rest[j]-128:=by
 unfold jd;rw [List.take_add_one,List.getElem?_eq_getElem h,List.foldl_append]
 rfl
theorem valK_all (b0:Nat) (rest:List Nat):jd b0 rest rest.length=valU (b0::rest):=by
 unfold jd valU;rw [List.take_length]
theorem value_ (b0:Nat) (rest:List Nat) (hb:b0<256) (hm:(zt b0).m=rest.length) (h0:0<rest.length) (hx : ∀ x∈rest,128<=x/\x<=191) (A:Option Addr) (n c B:Nat) (w:World) (hn:rest.length+1=n) (rd:Rd w B 1 A n (byV (b0::rest))) :
  Calls prog 149 #[.slice A n c] w (Same (.int .i32 (valU (b0::rest):Int)) w):=by
 obtain ⟨m1,m2,m3,mv,m4⟩:=begU_m b0;obtain ⟨g,o,rfl,_,hcc⟩:=rd.2 L0;have hcell:w.cell? ⟨g,o,none⟩=some (.int .u8 (b0:Int)):=hcc 0 _ rfl;have HC:Hid (∀ j (h:j<rest.length),w.cell? ⟨g,o+(j+1),none⟩=some (.int .u8 (rest[j]:Int))):=Lh fun j h=>hcc (j+1) _ (by simp [byV,h])
 have HS:Hid (∀ j (h:j<rest.length),jd b0 rest (j+1)=jd b0 rest j * 64+rest[j]-128):=Lh fun j h=>qiM h
 have HX:Hid (∀ j (h:j<rest.length),128<=rest[j]/\rest[j]<=191):=Lh fun j h=>hx _ (Lt h)
 have HZ:=Lh (qjG b0 rest);rw [<- valK_all];rw [hm] at m1 m2 m3 m4;generalize (zt b0).v=bv at *
 obtain rfl:n=rest.length+1:=hn.symm;clear hcc rd hx hm
 by_cases hl:rest.length=1
 ·have hv:=(m1 L0)
  have hb2:(b0:Int)=bv+192:=by omega
  have hl2:(rest.length:Int)=1:=by omega
  clear m1 m2 m3
  go_enter func149,ntmps149
  go_wp2
  go_loopw [3,4] (fun v x wr=>∃ j:Nat,j<=rest.length/\x = .int .i64 ((j:Int)+1)/\v = .int .i32 (jd b0 rest j:Int)/\wr=w/\((j=0/\jd b0 rest j<32)∨(j=1/\jd b0 rest j<2048)∨(j=2/\jd b0 rest j<131072)∨(j=3/\jd b0 rest j<8388608))) (fun _ x _=>rest.length+1-(intOf x).toNat)
  case atStart=>exact ⟨0,Nat.zero_le _,rfl,by rw [HZ.out],rfl,.inl ⟨rfl,by rw [HZ.out];exact mv⟩⟩
  case round =>
   obtain ⟨j,hj,rfl,rfl,rfl,hbd⟩:=hrel
   by_cases hlt:j<rest.length
   ·have hc:=HC.out j hlt;have hs:=HS.out j hlt;have hxx:=HX.out j hlt;generalize rest[j]=y at *
    generalize hv1:jd b0 rest (j+1)=v1 at *
    generalize jd b0 rest j=v0 at *
    have hv2:(v1:Int)=(v0:Int) * 64+y-128:=by omega
    go_wp2;refine ⟨⟨j+1,by omega,by go_num,?_,(by first | trivial | rfl),by omega⟩,by simp [intOf];omega⟩;rw [hv1,hv2]
   ·obtain rfl:j=rest.length:=by omega
    go_wp2;go_ret;exact ⟨rfl,rfl⟩
 skip
 by_cases hl:rest.length=2
 ·have hv:=(m2 L0)
  have hb2:(b0:Int)=bv+224:=by omega
  have hl2:(rest.length:Int)=2:=by omega
  clear m1 m2 m3
  go_enter func149,ntmps149
  go_wp2
  go_loopw [3,4] (fun v x wr=>∃ j:Nat,j<=rest.length/\x = .int .i64 ((j:Int)+1)/\v = .int .i32 (jd b0 rest j:Int)/\wr=w/\((j=0/\jd b0 rest j<32)∨(j=1/\jd b0 rest j<2048)∨(j=2/\jd b0 rest j<131072)∨(j=3/\jd b0 rest j<8388608))) (fun _ x _=>rest.length+1-(intOf x).toNat)
  case atStart=>exact ⟨0,Nat.zero_le _,rfl,by rw [HZ.out],rfl,.inl ⟨rfl,by rw [HZ.out];exact mv⟩⟩
  case round =>
   obtain ⟨j,hj,rfl,rfl,rfl,hbd⟩:=hrel
   by_cases hlt:j<rest.length
   ·have hc:=HC.out j hlt;have hs:=HS.out j hlt;have hxx:=HX.out j hlt;generalize rest[j]=y at *
    generalize hv1:jd b0 rest (j+1)=v1 at *
    generalize jd b0 rest j=v0 at *
    have hv2:(v1:Int)=(v0:Int) * 64+y-128:=by omega
    go_wp2;refine ⟨⟨j+1,by omega,by go_num,?_,(by first | trivial | rfl),by omega⟩,by simp [intOf];omega⟩;rw [hv1,hv2]
   ·obtain rfl:j=rest.length:=by omega
    go_wp2;go_ret;exact ⟨rfl,rfl⟩
 skip
 by_cases hl:rest.length=3
 ·have hv:=(m3 L0)
  have hb2:(b0:Int)=bv+240:=by omega
  have hl2:(rest.length:Int)=3:=by omega
  clear m1 m2 m3
  go_enter func149,ntmps149
  go_wp2
  go_loopw [3,4] (fun v x wr=>∃ j:Nat,j<=rest.length/\x = .int .i64 ((j:Int)+1)/\v = .int .i32 (jd b0 rest j:Int)/\wr=w/\((j=0/\jd b0 rest j<32)∨(j=1/\jd b0 rest j<2048)∨(j=2/\jd b0 rest j<131072)∨(j=3/\jd b0 rest j<8388608))) (fun _ x _=>rest.length+1-(intOf x).toNat)
  case atStart=>exact ⟨0,Nat.zero_le _,rfl,by rw [HZ.out],rfl,.inl ⟨rfl,by rw [HZ.out];exact mv⟩⟩
  case round =>
   obtain ⟨j,hj,rfl,rfl,rfl,hbd⟩:=hrel
   by_cases hlt:j<rest.length
   ·have hc:=HC.out j hlt;have hs:=HS.out j hlt;have hxx:=HX.out j hlt;generalize rest[j]=y at *
    generalize hv1:jd b0 rest (j+1)=v1 at *
    generalize jd b0 rest j=v0 at *
    have hv2:(v1:Int)=(v0:Int) * 64+y-128:=by omega
    go_wp2;refine ⟨⟨j+1,by omega,by go_num,?_,(by first | trivial | rfl),by omega⟩,by simp [intOf];omega⟩;rw [hv1,hv2]
   ·obtain rfl:j=rest.length:=by omega
    go_wp2;go_ret;exact ⟨rfl,rfl⟩
 skip
 omega
def lenV:Value->Nat
 | .slice _ n _=>n
 | _=>0
theorem qdv (A:Option Addr) (n m c:Nat):(Value.slice A n c).ownBlock=(Value.slice A m c).ownBlock:=by cases A <;> rfl
theorem qa8 {w:World} {base size n:Nat} {e:TypeId} {v:Value} {xs:List Value} (h:w.ownsRow base e size v n xs) : ∀ k,v.ownBlock=some k->k<w.heap.size:=fun k hk=>(h.lt k hk).2
theorem qba:Elt prog 172 5 (.int .u8 0) 1 1 where
 und:=underlying172
 row:=by
  have h:(prog.info? 5).map (fun i=>(i.zero,i.size,i.bytes))=some (some (.int .u8 0),1,1):=by kernel_rfl
  obtain ⟨i,hi,a,b,c⟩:=info_parts h;exact ⟨i,hi,a,b,c⟩
 zs:=rfl
 pos:=by decide
theorem qeS {w:World} {base c x:Nat} {A:Option Addr} {e:TypeId} {outs:List Nat} {v:Int} (h:w.ownsRow base e 1 (.slice A (outs.length+1) c) (outs.length+1) (byV outs++[.int .u8 v])) (hv:(x:Int)=v) :
  w.ownsRow base e 1 (.slice A (outs++[x]).length c) (outs++[x]).length (byV (outs++[x])):=by
 rw [qh9,Lf,Lz];subst hv;exact h
theorem KeptU.lt_ {K:List Nat} {s:US} (h:KeptU K s) : ∀ b∈K,b<256:=by
 rcases h with ⟨_,rfl⟩ | ⟨_,b0,rest,rfl,hb,_,_,_,_,hx⟩
 ·intro b hb;cases hb
 ·intro b hb2
  rcases List.mem_cons.1 hb2 with rfl | h
  ·exact hb
  ·have:=hx b h;omega
theorem KeptU.nil_iff {K:List Nat} {s:US} (h:KeptU K s):K=[]↔s.m=0:=by
 rcases h with ⟨h0,rfl⟩ | ⟨h0,b0,rest,rfl,_⟩
 ·simp [h0]
 ·simp;omega
theorem qgA {w:World} {B n c:Nat} {A:Option Addr} {l:List Nat} (rd:Rd w B 1 A n (byV l)) (hn:l.length=n) (hl : ∀ b∈l,b<256) :
  (convert 172 9 (.slice A n c)).run prog w = .ok (.string ⟨(l.map fun b=>UInt8.ofNat b).toArray⟩) w:=by
 rcases Nat.eq_zero_or_pos n with h0 | h0
 ·subst h0;obtain rfl:=List.eq_nil_of_length_eq_zero hn
  cases A with
  | none=>exact run_convert_bytes_nil (P:=prog) w _ _ underlying172 underlying5 0 c _ underlying9
  | some a=>exact run_convert_bytes_back (P:=prog) w _ _ _ a c [] underlying172 underlying5 underlying9 (fun j hj=>absurd hj (Nat.not_lt_zero j))
 ·exact qgb rd hn h0 hl
def DecP (L:List Nat) (pend:Prop) (w:World) (en:Ending) (w':World):Prop :=
 ∃ A c rest,en = .returned (.tuple #[.slice A L.length c,.string rest])/\w'.ownsRow w.heap.size 21 1 (.slice A L.length c) L.length (chV L)/\Below w.heap.size w w'/\(rest=⟨#[]⟩↔pend)
def DecR (w:World) (t:ByteArray) (F:US × List Nat) (v u x:Value) (wr:World):Prop :=
 ∃ (A A':Option Addr) (c c' k:Nat) (s:US) (outs K:List Nat),k<=t.size/\x = .int .i64 k/\v = .slice A outs.length c/\u = .slice A' K.length c' /\
  wr.ownsRow w.heap.size 21 1 (.slice A outs.length c) outs.length (chV outs)/\wr.ownsRow w.heap.size 5 1 (.slice A' K.length c') K.length (byV K)/\Dj (Value.slice A outs.length c).ownBlock (Value.slice A' K.length c').ownBlock /\
  Below w.heap.size w wr/\KeptU K s/\zJ ((qB t).drop k) (s,outs)=F/\outs.length+K.length<=k
theorem qiF (t:ByteArray) (ht:t.size<=1000000000) (w:World) :
  Calls prog 126 #[.string ⟨#[]⟩,.string t] w (DecP (qs (qB t)) ((zJ (qB t) (u0,[])).1.m=0) w):=by
 have HF:Hid (zJ ((qB t).drop 0) (u0,[])=zJ (qB t) (u0,[])):=Lh rfl;unfold qs;generalize zJ (qB t) (u0,[])=F at *
 have HN:Hid ((qB t).length=t.size):=Lh (zT t)
 go_enter func126,ntmps126
 go_wp2;have e0:(⟨#[]⟩++t:ByteArray)=t:=ByteArray.ext (by rw [ByteArray.data_append];simp);simp only [e0]
 go_loopw [7,8,9] (fun v u x wr=>DecR w t F v u x wr) (fun _ u x _=>2 * (t.size-(intOf x).toNat)+lenV u)
 case atStart=>exact ⟨_,_,_,_,0,u0,[],[],Nat.zero_le _,rfl,rfl,rfl,(qx (xs:=[]) rfl rfl (Ld _) (Nat.zero_le _)).alloc _,qx (xs:=[]) L1 rfl L0 (Nat.zero_le _),(fun k h1 h2=>by
  simp only [Value.ownBlock,Option.some.injEq] at h1 h2
  omega),(L5).alloc L1 _,qgz,HF.out,by simp⟩
 case round =>
  obtain ⟨A,A',c,c',k,⟨sv,sm,slo,shi⟩,outs,K,hk,rfl,rfl,rfl,hown,hownK,hdj,hbel,HK,HR,hle⟩:=hrel;replace HK:=Lh HK;replace HR:=Lh HR
  by_cases hlt:k<t.size
  ·have HD:Hid ((qB t).drop k=(t[k]'hlt).toNat::(qB t).drop (k+1)):=Lh (by rw [Ls (by rw [HN.out];exact hlt),qdL t k hlt];congr 2;exact getElem!_pos t.data k hlt);have hbl:(t[k]'hlt).toNat<256:=UInt8.toNat_lt _
   go_upto_region 7 with fail
   generalize (t[k]'hlt).toNat=b at *
   have zb:=hbel.size;have hne1:=qa8 hown;have hne2:=qa8 hownK
   rcases Nat.eq_zero_or_pos sm with hm | hm
   ·have hKn:K=[]:=by
     rcases HK.out with ⟨_,h⟩ | ⟨h,_⟩
     ·exact h
     ·have:sm=0:=hm;exact absurd h (by show ¬ 0<sm;omega)
    subst hKn;subst hm;rw [List.length_nil] at hownK hdj hle;have HL1:Hid (∀ w:World,Calls prog 148 #[.slice (some ⟨w.heap.size,0,none⟩) 1 1] (w.alloc (.cells #[.int .u8 (b:Int)] 5)) (Same (limV (limU [b])) (w.alloc (.cells #[.int .u8 (b:Int)] 5)))):=Lh fun w=>qcZ b [] hbl _ 1 1 (w.heap.size+1) _ rfl L0 (qe (xs:=byV [b]) rfl rfl)
    obtain ⟨z,hz0,hz1,HL2⟩ : ∃ z:Nat,((zt b).m=0->z=0)/\((zt b).m≠0->0<z)/\limU [b]=((zt b).lo,(zt b).hi,z):=by
     refine ⟨if (zt b).m=0 then 0 else (zt b).m+1,fun h=>by rw [if_pos h],fun h=>by rw [if_neg h];omega,rfl⟩
    rw [HL2] at HL1;simp only [limV] at HL1
    by_cases h128:b<128
    ·have hm0:(zt b).m=0:=qgy L0;have HS:=Lh (run_asc HR.out HD.out rfl h128);have HKu:Hid (KeptU [] (zt b)):=Lh (.inl ⟨hm0,rfl⟩);clear hz0 hz1 hm0 HK HR HD HL2;generalize zt b=Z at *
     go_wp2_with (first
      | (go_at_call 148;refine (HL1.out _).mono ?_;rintro e w3 ⟨rfl,rfl⟩)
      | (at_builtin;go_must (refine qg rfl _ _ _ rfl qdd (w.heap.size) _ rfl (((hown.alloc _).alloc _)) _ _ rfl ((qe (by first | rfl | (simp;done)) rfl)) ?_);intro A4 c4 w4 hown4 hbel4 hgr4 hat4;have z4:=hbel4.size;(try simp only [Li] at z4);(try simp only [Lo,Lg] at hown4)))
     exact ⟨⟨A4,A',c4,c',k+1,Z,outs++[b],[],by omega,by go_num,by rw [Lf];rfl,rfl,qca hown4 rfl,((hownK.alloc _).alloc _).kept hgr4 hdj.symm.ne,(by rw [qdv A4 _ (outs.length+1) c4];exact (Dj.new hdj.symm hat4 (qa8 ((hownK.alloc _).alloc _))).symm),((hbel.alloc zb _).alloc (by simp;omega) _).trans hbel4,HKu.out,HS.out,by rw [Lf,Lz];simp;omega⟩,by simp [intOf,lenV];omega⟩
    ·by_cases hz:(zt b).m=0
     ·have HS:=Lh (run_bad HR.out HD.out rfl h128 hz);have HKu:Hid (KeptU [] (zt b)):=Lh (.inl ⟨hz,rfl⟩);obtain rfl:=hz0 hz;clear hz0 hz1 hz HK HR HD HL2;generalize zt b=Z at *
      go_wp2_with (first
       | (go_at_call 148;refine (HL1.out _).mono ?_;rintro e w3 ⟨rfl,rfl⟩)
       | (at_builtin;go_must (refine qg rfl _ _ _ rfl qdd (w.heap.size) _ rfl (((hown.alloc _).alloc _)) _ _ rfl ((qe (by first | rfl | (simp;done)) rfl)) ?_);intro A4 c4 w4 hown4 hbel4 hgr4 hat4;have z4:=hbel4.size;(try simp only [Li] at z4);(try simp only [Lo,Lg] at hown4)))
      exact ⟨⟨A4,A',c4,c',k+1,Z,outs++[65533],[],by omega,by go_num,by rw [Lf];rfl,rfl,qca hown4 rfl,((hownK.alloc _).alloc _).kept hgr4 hdj.symm.ne,(by rw [qdv A4 _ (outs.length+1) c4];exact (Dj.new hdj.symm hat4 (qa8 ((hownK.alloc _).alloc _))).symm),((hbel.alloc zb _).alloc (by simp;omega) _).trans hbel4,HKu.out,HS.out,by rw [Lf,Lz];simp;omega⟩,by simp [intOf,lenV];omega⟩
     ·have HS:=Lh (run_lead HR.out HD.out rfl h128 hz);have HKu:Hid (KeptU [b] (zt b)):=Lh (KeptU.beg hbl hz);have hzp:=hz1 hz;clear hz0 hz1 hz HK HR HD HL2;generalize zt b=Z at *
      go_wp2_with (first
       | (go_at_call 148;refine (HL1.out _).mono ?_;rintro e w3 ⟨rfl,rfl⟩)
       | (at_builtin;go_must (refine qg rfl _ _ _ rfl qba (w.heap.size) _ rfl (((hownK.alloc _).alloc _)) _ _ rfl ((qe (by first | rfl | (simp;done)) rfl)) ?_);intro A4 c4 w4 hown4 hbel4 hgr4 hat4;have z4:=hbel4.size;(try simp only [Li] at z4);(try simp only [Lo,Lg] at hown4)))
      exact ⟨⟨A,A4,c,c4,k+1,Z,outs,[b],by omega,by go_num,rfl,rfl,((hown.alloc _).alloc _).kept hgr4 hdj.ne,hown4,Dj.new hdj hat4 (qa8 ((hown.alloc _).alloc _)),((hbel.alloc zb _).alloc (by simp;omega) _).trans hbel4,HKu.out,HS.out,by simp;omega⟩,by simp [intOf,lenV];omega⟩
   ·have hm':0<sm:=hm;have HLim:=Lh (HK.out.lim hm);obtain ⟨b0,rest,hK,hb0⟩ : ∃ b0 rest,K=b0::rest/\b0<256:=by
     rcases HK.out with ⟨h,_⟩ | ⟨_,b0,rest,h1,h2,_⟩
     ·have:sm=0:=h
      omega
     ·exact ⟨b0,rest,h1,h2⟩
    have hKl:0<K.length:=by rw [hK];simp
    have HL1:Hid (∀ (w:World) (B:Nat) (A:Option Addr) (c:Nat),Rd w B 1 A K.length (byV K)->Calls prog 148 #[.slice A K.length c] w (Same (limV (slo,shi,K.length+sm)) w)):=Lh fun w B A c rd=>by
     have h:=HLim.out;have h2:=qcZ b0 rest hb0 A K.length c B w (by rw [hK];rfl) L0 (by rw [<- hK];exact rd);rw [<- hK,h] at h2;exact h2
    simp only [limV] at HL1;clear HLim hK
    by_cases hin:slo<=b/\b<=shi
    ·have HKs:Hid (1<sm->KeptU (K++[b]) ⟨sv * 64+b % 64,sm-1,0x80,0xBF⟩):=Lh fun h=>HK.out.snoc h hin.1 hin.2
     have HKw:Hid (sm=1->_):=Lh fun (h:sm=1)=>HK.out.whole h hin.1 hin.2
     have HRn:Hid (sm≠1->zJ ((qB t).drop (k+1)) (⟨sv * 64+b % 64,sm-1,128,191⟩,outs)=F):=Lh fun h=>run_on HR.out HD.out hm' hin.1 hin.2 h
     have HRl:Hid (sm=1->zJ ((qB t).drop (k+1)) (⟨sv * 64+b % 64,0,128,191⟩,outs++[sv * 64+b % 64])=F):=Lh fun h=>by
      subst h;exact run_last HR.out HD.out hin.1 hin.2
     obtain ⟨hi1,hi2⟩:=hin
     by_cases h1:sm=1
     ·have HS:=Lh (HRl.out h1);have HVal:Hid (∀ (A:Option Addr) (c B:Nat) (w:World),Rd w B 1 A (K++[b]).length (byV (K++[b]))->Calls prog 149 #[.slice A (K.length+1) c] w (Same (.int .i32 ((sv * 64+b % 64:Nat):Int)) w)):=Lh fun A c B w rd=>by
       obtain ⟨hv,b1,rest1,e1,hb1,hm1,hp1,hx1⟩:=HKw.out h1;have hl1:rest1.length+1=(K++[b]).length:=by rw [e1];rfl
       rw [e1] at rd hv;have h:=value_ b1 rest1 hb1 hm1 hp1 hx1 A (rest1.length+1) c B w rfl (by rw [show (b1::rest1).length=rest1.length+1 from rfl] at rd;exact rd);rw [hl1,Lf,Lz] at h;rw [hv] at h;exact h
      subst h1;clear HRn HRl HKw HKs HK HR HD;have zz:(((K.length:Int)+1)==((K.length+1:Nat):Int))=true:=beq_iff_eq.2 L0
      go_upto_region 22 with (first
       | (go_at_call 148;refine (HL1.out _ _ _ _ (Rd.of_own hownK)).mono ?_;rintro e w3 ⟨rfl,rfl⟩)
       | (at_builtin;go_must (refine qg rfl _ _ _ rfl qba (w.heap.size) _ rfl ((hownK.alloc _)) _ _ rfl ((qe (by first | rfl | (simp;done)) rfl)) ?_);intro A4 c4 w4 hown4 hbel4 hgr4 hat4;have z4:=hbel4.size;(try simp only [Li] at z4);(try simp only [Lo,Lg] at hown4)))
      have HO:=(hown.alloc (Obj.cells #[Value.int IntKind.u8 (b:Int)] 5)).kept hgr4 hdj.ne;have HB4:=(hbel.alloc zb (Obj.cells #[Value.int IntKind.u8 (b:Int)] 5)).trans hbel4;have HV4:=Lh (HVal.out A4 c4 _ w4 (Rd.of_own (qeS hown4 rfl)));have zw:=HB4.size;clear hgr4 hat4 hbel4 hown4 hown hownK hdj HVal HL1;generalize sv * 64+b % 64=X at *
      go_wp2_with (first
       | (go_at_call 149;refine HV4.out.mono ?_;rintro e w6 ⟨rfl,rfl⟩)
       | (at_builtin;go_must (refine qg rfl _ _ _ rfl qdd (w.heap.size) _ rfl ((HO.alloc _)) _ _ rfl ((qe (by first | rfl | (simp;done)) rfl)) ?_);intro A5 c5 w5 hown5 hbel5 hgr5 hat5;have z5:=hbel5.size;(try simp only [Li] at z5);(try simp only [Lo,Lg] at hown5)))
      exact ⟨⟨A5,_,c5,_,k+1,⟨X,0,128,191⟩,outs++[X],[],by omega,by go_num,by rw [Lf];rfl,rfl,(qca hown5 rfl).alloc _,qx (xs:=[]) rfl rfl L0 (Nat.zero_le _),by
       rw [qdv A5 _ (outs.length+1) c5];intro q q1 q2;have:=qa8 hown5 q q1;simp only [Value.ownBlock,Option.some.injEq] at q2
       omega,((HB4.alloc zw _).trans hbel5).alloc L0 _,.inl ⟨rfl,rfl⟩,HS.out,by rw [Lf,Lz];simp;omega⟩,by simp [intOf,lenV];omega⟩
     ·have HS:=Lh (HRn.out h1);have HKu:=Lh (HKs.out L0);clear HRn HRl HKw HKs HK HR HD;have zz:(((K.length:Int)+1)==((K.length+sm:Nat):Int))=false:=Lm.2 L0
      go_wp2_with (first
       | (go_at_call 148;refine (HL1.out _ _ _ _ (Rd.of_own hownK)).mono ?_;rintro e w3 ⟨rfl,rfl⟩)
       | (at_builtin;go_must (refine qg rfl _ _ _ rfl qba (w.heap.size) _ rfl ((hownK.alloc _)) _ _ rfl ((qe (by first | rfl | (simp;done)) rfl)) ?_);intro A4 c4 w4 hown4 hbel4 hgr4 hat4;have z4:=hbel4.size;(try simp only [Li] at z4);(try simp only [Lo,Lg] at hown4)))
      exact ⟨⟨A,A4,c,c4,k+1,⟨sv * 64+b % 64,sm-1,128,191⟩,outs,K++[b],by omega,by go_num,rfl,by rw [Lf];rfl,(hown.alloc _).kept hgr4 hdj.ne,qeS hown4 rfl,by rw [qdv A4 _ (K.length+1) c4];exact Dj.new hdj hat4 (qa8 (hown.alloc _)),(hbel.alloc zb _).trans hbel4,HKu.out,HS.out,by rw [Lf,Lz];omega⟩,by simp [intOf,lenV];omega⟩
    ·have HS:=Lh (run_back HR.out HD.out hm' hin);clear HK HR HD;have hin2 : ¬ slo<=b∨(slo<=b/\¬ b<=shi):=by omega
     clear hin
     rcases hin2 with hin | ⟨hin,hin2⟩ <;>
     ·go_wp2_with (first
       | (go_at_call 148;refine (HL1.out _ _ _ _ (Rd.of_own hownK)).mono ?_;rintro e w3 ⟨rfl,rfl⟩)
       | (at_builtin;go_must (refine qg rfl _ _ _ rfl qdd (w.heap.size) _ rfl ((hown.alloc _)) _ _ rfl ((qe (by first | rfl | (simp;done)) rfl)) ?_);intro A4 c4 w4 hown4 hbel4 hgr4 hat4;have z4:=hbel4.size;(try simp only [Li] at z4);(try simp only [Lo,Lg] at hown4)))
      exact ⟨⟨A4,_,c4,_,k,u0,outs++[65533],[],by omega,rfl,by rw [Lf];rfl,rfl,(qca hown4 rfl).alloc _,qx (xs:=[]) rfl rfl (by have:=hbel4.size;simp at this;omega) (Nat.zero_le _),by
       rw [qdv A4 _ (outs.length+1) c4];intro q q1 q2;have:=qa8 hown4 q q1;simp only [Value.ownBlock,Option.some.injEq] at q2
       omega,((hbel.alloc zb _).trans hbel4).alloc (by have:=hbel4.size;simp at this;omega) _,qgz,HS.out,by rw [Lf,Lz];simp;omega⟩,by simp [intOf,lenV];omega⟩
  ·obtain rfl:k=t.size:=by omega
   have HF2:Hid (F=(⟨sv,sm,slo,shi⟩,outs)):=Lh (by rw [<- HR.out,Lv (by rw [HN.out];exact Ld _)];rfl);have HCv : ∀ m,(convert 172 9 (.slice A' K.length c')).run prog (wr.drewN m) = .ok (.string ⟨(K.map fun b=>UInt8.ofNat b).toArray⟩) (wr.drewN m):=fun m=>qgA (Rd.keep (Rd.of_own hownK) fun _ _=>rfl) rfl HK.out.lt_
   have HCd:(convert 172 9 (.slice A' K.length c')).run prog wr.drew = .ok (.string ⟨(K.map fun b=>UInt8.ofNat b).toArray⟩) wr.drew:=HCv 1
   have HNil:Hid ((⟨(K.map fun b=>UInt8.ofNat b).toArray⟩:ByteArray)=⟨#[]⟩↔F.1.m=0):=Lh (by
    rw [HF2.out,<- HK.out.nil_iff]
    constructor
    ·intro h;have:=congrArg (fun x:ByteArray=>x.data.size) h
     simpa using this
    ·rintro rfl;rfl)
   have HO:=Lh hown;have e1:F.2=outs:=by rw [HF2.out]
   clear HF2 HR HK;generalize (⟨(K.map fun b=>UInt8.ofNat b).toArray⟩:ByteArray)=REST at *
   go_wp2
   go_quiet (fail)
   go_wp2;go_ret2;rw [e1];exact ⟨A,c,REST,rfl,qb HO.out (qf (Le _ _)),qf hbel,HNil.out⟩
end Go.Proofs.YtbogmeeijdaijaaGreatDoor
namespace Go.Proofs.YtbogmeeijdaijaaGreatDoor
open Go.Proofs.Tryz Go.RowKit
set_option maxRecDepth 100000
theorem qjC {rs:List Nat} {k:Nat} (h:k<rs.length):zm (rs.take (k+1))=zm (rs.take k)++vQ rs[k]:=by
 have e:rs.take (k+1)=rs.take k++[rs[k]]:=(List.take_append_getElem h).symm;rw [zm,zm,e,List.flatMap_append];simp only [List.flatMap_cons,List.flatMap_nil,List.append_nil]
theorem qa5 {w:World} {base c n:Nat} {A:Option Addr} {e:TypeId} {outs l:List Nat} {vs:List Value} (h:w.ownsRow base e 1 (.slice A n c) n (byV outs++vs)) (hv:byV l=vs) (hn:n=(outs++l).length) :
  w.ownsRow base e 1 (.slice A (outs++l).length c) (outs++l).length (byV (outs++l)):=by
 subst hv hn;rw [qh9];exact h
theorem qlX (rs:List Nat) (hr : ∀ r∈rs,qR r) (A:Option Addr) (n c B:Nat) (w:World) (hn:rs.length=n) (hb:n<=4000000000) (rd:Rd w B 1 A n (chV rs)) (hB:B<=w.heap.size) :
  Calls prog 129 #[.slice A n c] w (qh (.string (yI rs)) w):=by
 have HN:=Lh hn;have HC:Hid (∀ k (h:k<rs.length),qR rs[k]):=Lh fun k h=>hr _ (Lt h)
 have HT:Hid (∀ k (h:k<rs.length),zm (rs.take (k+1))=zm (rs.take k)++vQ rs[k]):=Lh fun k h=>qjC h
 have HL:Hid (∀ k,(zm (rs.take k)).length<=4 * k):=Lh fun k=>by
  have:=qf8 (rs.take k);rw [Lu] at this
  omega
 have HE:Hid (∀ A c w,Rd w w.heap.size 1 A (zm rs).length (byV (zm rs))->(convert 172 9 (.slice A (zm rs).length c)).run prog w = .ok (.string (yI rs)) w):=Lh fun A c w rd=>qgA rd rfl (qfl hr)
 generalize yI rs=R at *
 clear hn
 go_enter func129,ntmps129
 go_wp2
 go_loopw [3,4] (fun v x wr=>∃ (A':Option Addr) (c' k:Nat),k<=n/\x = .int .i64 k/\v = .slice A' (zm (rs.take k)).length c'/\wr.ownsRow w.heap.size 5 1 (.slice A' (zm (rs.take k)).length c') (zm (rs.take k)).length (byV (zm (rs.take k)))/\Below w.heap.size w wr) (fun _ x _=>n-(intOf x).toNat)
 case atStart=>exact ⟨_,_,0,Nat.zero_le _,rfl,rfl,qx (xs:=[]) rfl rfl (Ld _) (Nat.zero_le _),L5⟩
 case round =>
  obtain ⟨A',c',k,hk,rfl,rfl,hown,hbel⟩:=hrel
  by_cases hlt:k<n
  ·have hkl:k<rs.length:=by have:=HN.out;omega
   obtain ⟨b,o,rfl,hbB,hc⟩:=(rd.keep (w':=wr) fun p hp=>hbel.cell L0).at_ hlt;rw [qft _ _ hkl] at hc;have hch:=HC.out k hkl;have HTk:=Lh (HT.out k hkl);have hlk:=HL.out k;have zb:=hbel.size;generalize rs[k]=r at *
   generalize zm (rs.take k)=E at *
   unfold qR at hch
   by_cases h1:r<128
   ·have HEn:Hid (vQ r=[r]):=Lh (by rw [vQ,if_pos h1])
    go_wp2_with (at_builtin;go_must (refine qg rfl _ _ _ rfl qba (w.heap.size) _ rfl ((hown.alloc _)) _ _ rfl ((qe (by first | rfl | (simp;done)) rfl)) ?_);intro A4 c4 w4 hown4 hbel4 hgr4 hat4;have z4:=hbel4.size;(try simp only [Li] at z4);(try simp only [Lo,Lg] at hown4))
    exact ⟨⟨A4,c4,k+1,by omega,by go_num,by rw [HTk.out,HEn.out,Lf];rfl,by rw [HTk.out];exact qa5 hown4 (by rw [HEn.out];simp [byV]) (by rw [HEn.out];simp),(hbel.alloc zb _).trans hbel4⟩,by simp [intOf];omega⟩
   ·by_cases h2:r<2048
    ·have HEn:Hid (vQ r=[0xC0+r / 64,0x80+r % 64]):=Lh (by rw [vQ,if_neg h1,if_pos h2])
     go_wp2_with (at_builtin;go_must (refine qg rfl _ _ _ rfl qba (w.heap.size) _ rfl ((hown.alloc _)) _ _ rfl ((qe (by first | rfl | (simp;done)) rfl)) ?_);intro A4 c4 w4 hown4 hbel4 hgr4 hat4;have z4:=hbel4.size;(try simp only [Li] at z4);(try simp only [Lo,Lg] at hown4))
     exact ⟨⟨A4,c4,k+1,by omega,by go_num,by rw [HTk.out,HEn.out,Lf];rfl,by rw [HTk.out];exact qa5 hown4 (by rw [HEn.out];simp [byV]) (by rw [HEn.out];simp),(hbel.alloc zb _).trans hbel4⟩,by simp [intOf];omega⟩
    ·by_cases h3:r<65536
     ·have HEn:Hid (vQ r=[0xE0+r / 4096,0x80+r / 64 % 64,0x80+r % 64]):=Lh (by rw [vQ,if_neg h1,if_neg h2,if_pos h3]);obtain ⟨z,hz⟩ : ∃ z:Int,z=(r:Int):=⟨_,rfl⟩
      rw [<- hz] at hc;have z1:2048<=z:=by omega
      have z2:z<65536:=by omega
      have z3:z<55296∨(55296<=z/\¬ z<=57343):=by omega
      have HZ:=Lh hz;clear hz h1 h2 h3;clear hch
      rcases z3 with z3 | ⟨z3,z4⟩
      ·skip
       go_wp2_with (at_builtin;go_must (refine qg rfl _ _ _ rfl qba (w.heap.size) _ rfl ((hown.alloc _)) _ _ rfl ((qe (by first | rfl | (simp;done)) rfl)) ?_);intro A4 c4 w4 hown4 hbel4 hgr4 hat4;have z4:=hbel4.size;(try simp only [Li] at z4);(try simp only [Lo,Lg] at hown4))
       exact ⟨⟨A4,c4,k+1,by omega,by go_num,by rw [HTk.out,HEn.out,Lf];rfl,by rw [HTk.out];exact qa5 hown4 (by rw [HEn.out,HZ.out];simp [byV]) (by rw [HEn.out];simp),(hbel.alloc zb _).trans hbel4⟩,by simp [intOf];omega⟩
      ·skip
       go_wp2_with (at_builtin;go_must (refine qg rfl _ _ _ rfl qba (w.heap.size) _ rfl ((hown.alloc _)) _ _ rfl ((qe (by first | rfl | (simp;done)) rfl)) ?_);intro A4 c4 w4 hown4 hbel4 hgr4 hat4;have z4:=hbel4.size;(try simp only [Li] at z4);(try simp only [Lo,Lg] at hown4))
       exact ⟨⟨A4,c4,k+1,by omega,by go_num,by rw [HTk.out,HEn.out,Lf];rfl,by rw [HTk.out];exact qa5 hown4 (by rw [HEn.out,HZ.out];simp [byV]) (by rw [HEn.out];simp),(hbel.alloc zb _).trans hbel4⟩,by simp [intOf];omega⟩
     ·have HEn:Hid (vQ r=[0xF0+r / 262144,0x80+r / 4096 % 64,0x80+r / 64 % 64,0x80+r % 64]):=Lh (by rw [vQ,if_neg h1,if_neg h2,if_neg h3]);obtain ⟨z,hz⟩ : ∃ z:Int,z=(r:Int):=⟨_,rfl⟩
      rw [<- hz] at hc;have z1:2048<=z:=by omega
      have z2:65536<=z:=by omega
      have z3:z<=1114111:=by omega
      have HZ:=Lh hz;clear hz h1 h2 h3;clear hch
      go_wp2_with (at_builtin;go_must (refine qg rfl _ _ _ rfl qba (w.heap.size) _ rfl ((hown.alloc _)) _ _ rfl ((qe (by first | rfl | (simp;done)) rfl)) ?_);intro A4 c4 w4 hown4 hbel4 hgr4 hat4;have z4:=hbel4.size;(try simp only [Li] at z4);(try simp only [Lo,Lg] at hown4))
      exact ⟨⟨A4,c4,k+1,by omega,by go_num,by rw [HTk.out,HEn.out,Lf];rfl,by rw [HTk.out];exact qa5 hown4 (by rw [HEn.out,HZ.out];simp [byV]) (by rw [HEn.out];simp),(hbel.alloc zb _).trans hbel4⟩,by simp [intOf];omega⟩
  ·obtain rfl:k=n:=by omega
   have ht:rs.take k=rs:=List.take_of_length_le (by have:=HN.out;omega);rw [ht] at hown;have hl:(zm (rs.take k)).length=(zm rs).length:=by rw [ht]
   have hcv:=HE.out _ c' wr (Rd.of_own hown);rw [ht];clear hl HL HT HC HE;generalize (zm rs).length=m at *
   clear ht;go_wp2;go_ret;exact ⟨rfl,hbel⟩
end Go.Proofs.YtbogmeeijdaijaaGreatDoor
