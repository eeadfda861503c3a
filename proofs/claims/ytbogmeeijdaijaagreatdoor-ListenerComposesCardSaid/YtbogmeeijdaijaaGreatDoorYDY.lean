/- Joined: Pc1, Sp0, Sk0, Sy0, Sy1, Wo0, Bk0, Bk1, Bk2. -/
import Derived.Test.YtbogmeeijdaijaaGreatDoorYDX
set_option linter.unusedVariables false
set_option linter.unusedSimpArgs false
set_option linter.unnecessarySimpa false
namespace Go.Proofs.YtbogmeeijdaijaaGreatDoor
open Go.Proofs.Tryz Go.RowKit
set_option maxRecDepth 20000
theorem qjU {t:List Gl} {g:Gl} {j:Nat} (h:j<t.length) (h2:j<131) (e:t[j]=g):runE (t.drop j) g (131-j)=runE (t.drop (j+1)) g (131-(j+1))+1:=by
 rw [Ls h,show 131-j=(131-(j+1))+1 by omega,runE,if_pos e]
theorem qkf {t:List Gl} {g:Gl} {j:Nat} (h:t.length<=j∨131<=j∨∃ h:j<t.length,t[j]≠g):runE (t.drop j) g (131-j)=0:=by
 rcases h with h | h | ⟨h,e⟩
 ·rw [Lv h]
  cases 131-j <;> rfl
 ·rw [show 131-j=0 by omega]
  cases t.drop j <;> rfl
 ·rw [Ls h]
  cases 131-j with
  | zero=>rfl
  | succ m=>rw [runE,if_neg e]
theorem kL {g:Gl} {t:List Gl} {rep:Int} (h:qd g=1∨qd g=3):qo (g::t) rep=runK (g::t) (qd g) g.style:=by
 unfold qo;exact if_pos h
theorem kW {g:Gl} {t:List Gl} {rep:Int} (h:qd g=2):qo (g::t) rep=if 1<runK (g::t) 2 g.style then runK (g::t) 2 g.style else 1+runK t 1 g.style:=by
 unfold qo;simp only;rw [if_neg L0,if_pos h]
theorem qdm {g:Gl} {t:List Gl} {rep:Int} (h:qd g=0):qo (g::t) rep=if 0<rep/\rep<=(1+runE t g 131:Nat)/\(qs (qB g.text)).length=1 then 1+runE t g 131 else 1:=by
 unfold qo;simp only;rw [if_neg L0,if_neg L0]
theorem kH {g:Gl} (h:qd g≠0):g.text.data.toList=[headB g]/\qd g=vg (headB g).toNat:=by
 unfold qd headB at *
 split at h
 ·rename_i c hc
  rw [hc];exact ⟨rfl,rfl⟩
 ·exact absurd rfl h
theorem qbI {l:List Gl} (h : ∀ g∈l,qd g≠0) (spell:Bool):lettersL l spell=kS (l.map headB) spell:=by
 have e1:(l.filter fun g=>qd g==2).length=qbb (l.map headB):=by
  unfold qbb;rw [List.filter_map,Lq]
  congr 1
  apply List.filter_congr
  intro g hg;rw [(kH (h g hg)).2]
  rfl
 have e2:lowL l=(l.map headB).map lowB:=by
  unfold lowL;rw [List.map_map]
  rfl
 unfold lettersL kS qaB;rw [e1,e2]
theorem kG (l:List Gl) (dig:Bool):digitsL l dig=yt (l.map headB) dig:=by
 have e1:digL l=jC (l.map headB):=by
  unfold digL jC;rw [List.map_map]
  rfl
 unfold digitsL yt qbu;rw [e1,Lq]
theorem jv {g:Gl} {t:List Gl} {sp d:Bool} (h:qd g=1∨qd g=2):qq (g::t) sp d=lettersL (g::t) sp:=if_pos h
theorem ju {g:Gl} {t:List Gl} {sp d:Bool} (h:qd g=3):qq (g::t) sp d=digitsL (g::t) d:=by
 unfold qq;simp only;rw [if_neg L0,if_pos h]
theorem jt {g:Gl} {sp d:Bool} (h:qd g=0):qq [g] sp d=qP g:=by
 unfold qq;simp only;rw [if_neg L0,if_neg L0,if_pos trivial]
theorem jb {g:Gl} {t:List Gl} {sp d:Bool} (h:qd g=0) (ht:t≠[]):qq (g::t) sp d=numW (t.length+1)++[bTimes]++qP g:=by
 unfold qq;simp only;rw [if_neg L0,if_neg L0,if_neg ht]
theorem qaX {g:Gl}:(qP g).length<=1+16 * (qs (qB g.text)).length:=by
 by_cases h:g.text.data.toList=[32]
 ·rw [yC h];simp
 ·rw [jr h];have:=qdS (qs (qB g.text))
  omega
theorem rd_up {w w':World} {size n:Nat} {A:Option Addr} {xs:List Value} (h:Rd w w.heap.size size A n xs) (hb:Below w.heap.size w w'):Rd w' w'.heap.size size A n xs:=Rd.more (h.below hb) hb.size
theorem qfy {w:World} {v:Value} {e:TypeId}:Rd (w.alloc (.cells #[v] e)) (w.alloc (.cells #[v] e)).heap.size 1 (some ⟨w.heap.size,0,none⟩) 1 [v]:=Rd.more (qe (xs:=[v]) rfl rfl) L1
theorem GOK.valid {g:Gl} (h:GOK g):vb g.text=true:=(vL.1 h.1).1
theorem yb : ∀ (l:List Gl) (k:Nat) (st:Int),∀ x∈l.take (runK l k st),qd x=k/\x.style=st
 | [],_,_,x,h=>by simp at h
 | g::t,k,st,x,h=>by
  rw [qcv] at h
  split at h
  ·rename_i hc
   rw [List.take_succ_cons] at h
   rcases List.mem_cons.1 h with rfl | h
   ·exact hc
   ·exact yb t k st x h
  ·cases h
theorem qb7 {l:List Gl} {g:Gl} {t:List Gl} (hl:l=g::t) (hn:l.length<=1000) (hg : ∀ x∈l,GOK x) (rep:Int):PieceOK (l.take (qo l rep)):=by
 have hpos:=vz (g:=g) (t:=t) rep;rw [<- hl] at hpos;have htk : ∀ g' t',l.take (qo l rep)=g'::t'->g'=g:=fun g' t' e=>by
  obtain ⟨m,hm⟩ : ∃ m,qo l rep=m+1:=⟨qo l rep-1,by omega⟩
  rw [hm,hl,List.take_succ_cons] at e
  injection e with e
  exact e.symm
 refine ⟨?_,fun x hx=>(hg x (List.mem_of_mem_take hx)).2,fun g' t' e h=>?_,fun g' t' e h=>?_,fun g' t' e h=>?_⟩
 ·rw [Lu];omega
 ·obtain rfl:=htk g' t' e;intro x hx
  rcases h with h | h
  ·rw [hl,kL (.inl h),h] at hx;exact .inl (yb _ _ _ x hx).1
  ·rw [hl,kW h] at hx
   split at hx
   ·exact .inr (yb _ _ _ x hx).1
   ·rw [Nat.add_comm,List.take_succ_cons] at hx
    rcases List.mem_cons.1 hx with rfl | hx
    ·exact .inr h
    ·exact .inl (yb _ _ _ x hx).1
 ·obtain rfl:=htk g' t' e;intro x hx;rw [hl,kL (.inr h),h] at hx;exact (yb _ _ _ x hx).1
 ·obtain rfl:=htk g' t' e;exact (hg g' (by rw [hl];simp)).valid
theorem qkn {g:Gl} (h:GOK g):qP g≠[]:=by
 by_cases h1:g.text.data.toList=[32]
 ·rw [yC h1];simp
 ·rw [jr h1];obtain ⟨_,r,t,hL,_⟩:=vL.1 h.1;have hch:=yD (qB g.text) r (by rw [hL];simp);rw [hL];have e:za (r::t)=qD (r:Int)++za t:=by simp [za]
  rw [e];intro h2;have h3:=qj1 (ji hch);have:=(List.append_eq_nil_iff.1 h2).1;rw [this] at h3
  simp at h3
theorem numW_ne (n:Nat) (hn:n<=999999999):numW n≠[]:=by
 unfold numW;intro h;have h1:=List.map_eq_nil_iff.1 h;have:=qaa (n:Int);rw [h1] at this
 simp at this
 omega
theorem qem {l:List Gl} {g:Gl} {t:List Gl} (hl:l=g::t) (hP:PieceOK l) (hg:GOK g) (sp d:Bool):qq l sp d≠[]:=by
 subst hl;have hk:=jX g
 by_cases h1:qd g=1∨qd g=2
 ·rw [jv h1];unfold lettersL
  cases sp <;> simp
 ·by_cases h3:qd g=3
  ·rw [ju h3,kG];unfold yt
   split
   ·simp
   ·rename_i hc
    refine numW_ne _ ?_;have hl9:(List.map headB (g::t)).length<=9:=by
     rcases Nat.lt_or_ge 9 (List.map headB (g::t)).length with h | h
     ·exact absurd (.inr (.inl h)) hc
     ·exact h
    have h1:=qc5 (jC (List.map headB (g::t))) (fun x hx=>by
     unfold jC at hx;obtain ⟨c,hc2,rfl⟩:=List.mem_map.1 hx;obtain ⟨y,hy,rfl⟩:=List.mem_map.1 hc2;have h4:=hP.dig g t rfl h3 y hy;have h5:=(kH (g:=y) L0).2;rw [h5] at h4;unfold vg at h4
     (repeat' split at h4) <;> omega)
    have h2:(jC (List.map headB (g::t))).length<=9:=by unfold jC;rw [Lq];exact hl9
    have h3:10 ^ (jC (List.map headB (g::t))).length<=10 ^ 9:=Nat.pow_le_pow_right L0 h2
    omega
  ·have h0:qd g=0:=by omega
   by_cases ht:t=[]
   ·subst ht;rw [jt h0];exact qkn hg
   ·rw [jb h0 ht]
    simp
theorem qe5 (l:List Nat) : ∀ s∈l.map wb,s.size<=maxLen:=by
 intro s hs
 simp at hs
 obtain ⟨i,_,rfl⟩:=hs;exact qce i
theorem nb_size (i:Nat):(nb i).size<=maxLen:=by
 unfold nb maxLen
 split <;> decide
theorem qgc (r:Int) : ∀ s∈qD r,s.size<=maxLen:=by
 intro s hs;unfold qD at hs
 split at hs
 ·simp at hs
  subst hs;exact nb_size _
 ·split at hs
  ·rcases List.mem_cons.1 hs with rfl | hs
   ·unfold maxLen cB;decide
   ·exact qe5 _ s hs
  ·cases hs
theorem qbW (g:Gl) : ∀ s∈qP g,s.size<=maxLen:=by
 intro s hs
 by_cases h:g.text.data.toList=[32]
 ·rw [yC h,List.mem_singleton] at hs;subst hs;unfold maxLen yB;decide
 ·rw [jr h] at hs;obtain ⟨r,_,hr⟩:=List.mem_flatMap.1 hs;exact qgc _ s hr
theorem qfp {l:List Gl} {g:Gl} {t:List Gl} (hl:l=g::t) (hP:PieceOK l) (sp d:Bool) : ∀ s∈qq l sp d,s.size<=maxLen:=by
 intro s hs;have hn:=hP.n;subst hl;have hk:=jX g;have hlow : ∀ T:List UInt8,T.length<=1000->(⟨T.toArray⟩:ByteArray).size<=maxLen:=fun T hT=>by
  show T.toArray.size<=maxLen
  rw [List.size_toArray];unfold maxLen
  omega
 by_cases h1:qd g=1∨qd g=2
 ·rw [jv h1] at hs;unfold lettersL at hs
  rcases List.mem_append.1 hs with hs | hs
  ·(repeat' split at hs) <;> first | (cases hs;done) | (rw [List.mem_singleton] at hs;subst hs;unfold maxLen;decide)
  ·split at hs
   ·rcases List.mem_append.1 hs with hs | hs
    ·rcases List.mem_cons.1 hs with rfl | hs
     ·unfold maxLen qS;decide
     ·obtain ⟨c,_,rfl⟩:=List.mem_map.1 hs;unfold maxLen
      show (1:Nat)<=_
      omega
    ·rw [List.mem_singleton] at hs;subst hs;unfold maxLen qaO;decide
   ·rcases List.mem_append.1 hs with hs | hs
    ·split at hs
     ·rw [List.mem_singleton] at hs;subst hs;unfold maxLen vD;decide
     ·cases hs
    ·rw [List.mem_singleton] at hs;subst hs;exact hlow _ (by unfold lowL;rw [Lq];exact hn)
 ·by_cases h3:qd g=3
  ·rw [ju h3,kG] at hs;unfold yt at hs
   split at hs
   ·rcases List.mem_cons.1 hs with rfl | hs
    ·unfold maxLen vI;decide
    ·obtain ⟨x,_,hx⟩:=List.mem_flatMap.1 hs;exact qe5 _ s hx
   ·exact qe5 _ s hs
  ·have h0:qd g=0:=by omega
   by_cases ht:t=[]
   ·subst ht;rw [jt h0] at hs;exact qbW g s hs
   ·rw [jb h0 ht] at hs
    rcases List.mem_append.1 hs with hs | hs
    ·rcases List.mem_append.1 hs with hs | hs
     ·exact qe5 _ s hs
     ·rw [List.mem_singleton] at hs;subst hs;unfold maxLen bTimes;decide
    ·exact qbW g s hs
theorem qdJ (l:List Nat):(qbu l).length<=16 * l.length:=by
 unfold qbu
 induction l with
 | nil=>simp
 | cons a t ih =>
  have:=kR a;simp only [List.flatMap_cons,Lf,Lp]
  omega
theorem qdV {l:List Gl} {g:Gl} {t:List Gl} (hl:l=g::t) (hP:PieceOK l) (sp d:Bool):(qq l sp d).length<=40000:=by
 have hn:=hP.n;have hz:=hP.sz;subst hl;have hk:=jX g;have hs1:(qP g).length<=1+16 * 2000:=by
  have h1:=@qaX g;have h2:=jB g.text;have h3:=hz g L1
  omega
 by_cases h1:qd g=1∨qd g=2
 ·rw [jv h1];unfold lettersL;have hlow:(lowL (g::t)).length<=1000:=by unfold lowL;rw [Lq];exact hn
  simp only [Lf]
  (repeat' split) <;> simp only [Lf,Lp,List.length_nil,Lq] <;> omega
 ·by_cases h3:qd g=3
  ·rw [ju h3,kG];unfold yt
   split
   ·have:=qdJ (jC (List.map headB (g::t)));have h5:(jC (List.map headB (g::t))).length<=1000:=by unfold jC;rw [Lq,Lq];exact hn
    rw [Lp]
    omega
   ·have:=kR (numL (jC (List.map headB (g::t))))
    omega
  ·have h0:qd g=0:=by omega
   by_cases ht:t=[]
   ·subst ht;rw [jt h0]
    omega
   ·rw [jb h0 ht];have:=kR (t.length+1);simp only [Lf,Lp,List.length_nil]
    omega
def ky (p:Spk) (g:Gl) (w0:ByteArray):List ByteArray :=
 if g.style≠p.style then [vP g.style.toNat] else if qd g≠0/\p.before≠0 then (if p.silent=true then [] else [zO])
  else if p.out≠[]/\qL w0=true/\qL (p.out.getLastD ⟨#[]⟩)=true then [zO] else []
theorem qfo {p:Spk} {s:Setts} {l:List Gl} {g:Gl} {t:List Gl} (hl:l=g::t):sayL p s l=⟨p.out++ky p g ((qq l s.spell s.digits).headD ⟨#[]⟩)++qq l s.spell s.digits,g.style,qd g,false⟩:=by
 subst hl
 rfl
theorem kY (s:Setts) (f:Nat) (q:Spk) (g:Gl) (t:List Gl):qQ s (f+1) q (g::t) =
  if jJ q s (g::t) (qo (g::t) s.rep)=true then qQ s f { q with silent:=true } ((g::t).drop (qo (g::t) s.rep))
  else qQ s f (sayL q s ((g::t).take (qo (g::t) s.rep))) ((g::t).drop (qo (g::t) s.rep)):=by
 show (if g::t=[] then q else _)=_
 rw [if_neg L1]
theorem qa7 (s:Setts) : ∀ (f f':Nat) (q:Spk) (l:List Gl),l.length<=f->l.length<=f'->qQ s f q l=qQ s f' q l
 | 0,f',q,l,h1,h2=>by
  obtain rfl:l=[]:=List.length_eq_zero_iff.1 L0
  cases f' with
  | zero=>rfl
  | succ f'=>simp [qQ]
 | f+1,0,q,l,h1,h2=>by
  obtain rfl:l=[]:=List.length_eq_zero_iff.1 L0
  simp [qQ]
 | f+1,f'+1,q,l,h1,h2=>by
  cases l with
  | nil=>simp [qQ]
  | cons g t =>
   have hp:=vz (g:=g) (t:=t) s.rep;have hd:((g::t).drop (qo (g::t) s.rep)).length<=t.length:=by
    rw [List.length_drop,Lp];omega
   rw [Lp] at h1 h2;rw [kY,kY];have e:=fun q'=>qa7 s f f' q' ((g::t).drop (qo (g::t) s.rep)) L0 L0
   rw [e,e]
theorem jR (s:Setts) (q:Spk) (g:Gl) (t:List Gl):qQ s (g::t).length q (g::t) =
  if jJ q s (g::t) (qo (g::t) s.rep)=true then qQ s ((g::t).drop (qo (g::t) s.rep)).length { q with silent:=true } ((g::t).drop (qo (g::t) s.rep))
  else qQ s ((g::t).drop (qo (g::t) s.rep)).length (sayL q s ((g::t).take (qo (g::t) s.rep))) ((g::t).drop (qo (g::t) s.rep)):=by
 have hp:=vz (g:=g) (t:=t) s.rep;have hd:((g::t).drop (qo (g::t) s.rep)).length<=t.length:=by
  rw [List.length_drop,Lp];omega
 rw [Lp,kY];have e:=fun q'=>qa7 s t.length _ q' ((g::t).drop (qo (g::t) s.rep)) hd (Ld _)
 rw [e,e]
theorem qfF (p:Spk) (g:Gl) (w0:ByteArray):(ky p g w0).length<=1:=by
 unfold ky
 (repeat' split) <;> simp
theorem qjl (i:Nat):(vP i).size<=maxLen:=by
 unfold vP maxLen
 split <;> decide
theorem qhe (p:Spk) (g:Gl) (w0:ByteArray) : ∀ s∈ky p g w0,s.size<=maxLen:=by
 intro s hs;unfold ky at hs
 (repeat' split at hs) <;> first
  | (cases hs;done)
  | (rw [List.mem_singleton] at hs;subst hs;first | exact qjl _ | (unfold maxLen;decide))
theorem WoI.skip {S:Setts} {R:List ByteArray} {q:Spk} {g:Gl} {t:List Gl} (h:WoI S R q (g::t)) (hb:jJ q S (g::t) (qo (g::t) S.rep)=true) :
  WoI S R { q with silent:=true } ((g::t).drop (qo (g::t) S.rep)):=by
 obtain ⟨h1,h2,h3,h4⟩:=h;rw [jR,if_pos hb] at h1;refine ⟨h1,fun x hx=>h2 x (List.mem_of_mem_drop hx),?_,h4⟩
 show q.out.length+50000 * ((g::t).drop _).length<=_
 rw [List.length_drop]
 omega
theorem WoI.say {S:Setts} {R:List ByteArray} {q:Spk} {g:Gl} {t:List Gl} (h:WoI S R q (g::t)) (hb:jJ q S (g::t) (qo (g::t) S.rep)=false) :
  WoI S R (sayL q S ((g::t).take (qo (g::t) S.rep))) ((g::t).drop (qo (g::t) S.rep)):=by
 have hl:=h.len;obtain ⟨h1,h2,h3,h4⟩:=h;have hp:=vz (g:=g) (t:=t) S.rep;have hP:=qb7 (l:=g::t) rfl hl (fun x hx=>(h2 x hx).1) S.rep;obtain ⟨m,hm⟩ : ∃ m,qo (g::t) S.rep=m+1:=⟨qo (g::t) S.rep-1,by omega⟩
 have htk:(g::t).take (qo (g::t) S.rep)=g::t.take m:=by rw [hm,List.take_succ_cons]
 rw [jR,hb,if_neg L1] at h1;refine ⟨h1,fun x hx=>h2 x (List.mem_of_mem_drop hx),?_,?_⟩
 ·rw [qfo htk];have e1:=qfF q g ((qq ((g::t).take (qo (g::t) S.rep)) S.spell S.digits).headD ⟨#[]⟩);have e2:=qdV htk hP S.spell S.digits;simp only [Lf,List.length_drop];rw [Lp] at h3 ⊢
  omega
 ·rw [qfo htk];intro s hs;simp only [List.mem_append] at hs
  rcases hs with (hs | hs) | hs
  ·exact h4 s hs
  ·exact qhe _ _ _ s hs
  ·exact qfp htk hP _ _ s hs
theorem WoI.stop {S:Setts} {R:List ByteArray} {q:Spk} (h:WoI S R q []):R=q.out:=by
 have:=h.1
 simpa [qQ] using this
theorem yv {S:Setts} {R:List ByteArray} : ∀ (n:Nat) {q:Spk} {l:List Gl},l.length<=n->WoI S R q l->R.length<=50000000/\∀ s∈R,s.size<=maxLen
 | n,q,[],_,h=>by rw [h.stop];exact ⟨by have:=h.2.2.1;omega,h.2.2.2⟩
 | 0,q,g::t,hn,h=>by simp at hn
 | n+1,q,g::t,hn,h=>by
  have hp:=vz (g:=g) (t:=t) S.rep;have hd:((g::t).drop (qo (g::t) S.rep)).length<=n:=by
   rw [List.length_drop];rw [Lp] at hn ⊢
   omega
  cases hb:jJ q S (g::t) (qo (g::t) S.rep) with
  | true=>exact yv n hd (h.skip hb)
  | false=>exact yv n hd (h.say hb)
theorem qg5 (i:Nat) (hi:i<4):vY (vP i)=some i:=by
 have : ∀ i:Fin 4,vY (vP i.val)=some i.val:=by decide +kernel
 exact this ⟨i,hi⟩
theorem NoSty.caps:NoSty yi:=⟨by decide +kernel,by decide +kernel⟩
theorem NoSty.space:NoSty yB:=⟨by decide +kernel,by decide +kernel⟩
theorem NoSty.spelled:NoSty qS:=⟨by decide +kernel,by decide +kernel⟩
theorem yE {a:ByteArray} {t:List ByteArray} {p:Prs} (hw:p.words=a::t) (h:NoSty a):zP p=none:=by
 unfold zP;rw [hw];simp only;rw [h.1];simp only;rw [if_neg h.2]
theorem qcp {p q:Prs} (h1:zP p=none) (h2:jP p=some q):va p=some q:=by
 unfold va;rw [h1,y9,h2,some_or]
theorem part_fig {p q:Prs} (h1:zP p=none) (h2:jP p=none) (h3:qaP p=some q):va p=some q:=by
 unfold va;rw [h1,y9,h2,y9,h3,some_or]
theorem qiI {p q:Prs} (h1:zP p=none) (h2:jP p=none) (h3:qaP p=none) (h4:ko p=some q):va p=some q:=by
 unfold va;rw [h1,y9,h2,y9,h3,y9,h4,some_or]
theorem part_amt {p:Prs} (h1:zP p=none) (h2:jP p=none) (h3:qaP p=none) (h4:ko p=none):va p=kD p:=by
 unfold va;rw [h1,y9,h2,y9,h3,y9,h4,y9]
theorem NoLit.fig {a:ByteArray} {t:List ByteArray} {p:Prs} (hw:p.words=a::t) (h:NoLit a):qaP p=none:=by
 unfold qaP;rw [hw];simp only;rw [if_neg fun h'=>h.2.2.2.2.1 h'.1]
theorem NoLit.space:NoLit yB:=⟨by decide +kernel,by decide +kernel,by decide +kernel,by decide +kernel,by decide +kernel,fun _=>by decide +kernel⟩
theorem qe0 {j:Nat} (hj:j<32) {t:List ByteArray} {p:Prs} (hw:p.words=wb j::t):ko p=none:=by
 unfold ko;rw [hw,qbZ hj]
theorem qfG {j:Nat} (hj:j<32) {t:List ByteArray} {p:Prs} (hw:p.words=wb j::t):va p=kD p :=
 part_amt (yE hw (NoSty.wb hj)) (NoLit.word hw (NoLit.wb hj)) (NoLit.fig hw (NoLit.wb hj)) (qe0 hj hw)
def qag (p:Prs):Option (List Gl):=ka p.words.length p
theorem qdR : ∀ (f f':Nat) (p:Prs),p.words.length<=f->p.words.length<=f'->ka f p=ka f' p
 | 0,f',p,h1,h2=>by
  have e:p.words=[]:=List.length_eq_zero_iff.1 L0
  cases f' with
  | zero=>rfl
  | succ f'=>rw [ka,ka,if_pos e]
 | f+1,0,p,h1,h2=>by
  have e:p.words=[]:=List.length_eq_zero_iff.1 L0;rw [ka,ka,if_pos e]
 | f+1,f'+1,p,h1,h2=>by
  rw [ka,ka]
  split
  ·rfl
  ·cases hq:va p with
   | none=>rfl
   | some q =>
    have:=qcs hq;exact qdR f f' q L0 L0
theorem jy {p q:Prs} (h:va p=some q):qag p=qag q:=by
 have hl:=qcs h;unfold qag;obtain ⟨n,hn⟩ : ∃ n,p.words.length=n+1:=⟨p.words.length-1,by omega⟩
 rw [hn,ka,if_neg (by rintro e;rw [e] at hn;cases hn),h];exact qdR _ _ q L0 (Ld _)
theorem qjR {p:Prs} (hp:p.words=[]):qag p=some p.out:=by
 unfold qag;rw [hp]
 rfl
theorem qd2 {P:UInt8->Bool} (h : ∀ n:Fin 256,P (UInt8.ofNat n.val)=true) (c:UInt8):P c=true:=by
 have:=h ⟨c.toNat,UInt8.toNat_lt c⟩
 simpa using this
theorem qdn (c:UInt8) (h:vg c.toNat=2):upB (lowB c)=c:=by
 have:=qd2 (P:=fun c=>vg c.toNat != 2 || upB (lowB c)==c) L4 c;simp only [Bool.or_eq_true,Ln,beq_iff_eq] at this;exact this.resolve_left fun e=>e h
theorem qiW (c:UInt8) (h:vg c.toNat=1):lowB c=c:=by
 have:=qd2 (P:=fun c=>vg c.toNat != 1 || lowB c==c) L4 c;simp only [Bool.or_eq_true,Ln,beq_iff_eq] at this;exact this.resolve_left fun e=>e h
theorem qgY (c:UInt8) (h:vg c.toNat=1∨vg c.toNat=2):97<=(lowB c).toNat/\(lowB c).toNat<=122:=by
 have:=qd2 (P:=fun c=>!(vg c.toNat==1 || vg c.toNat==2) || (decide (97<=(lowB c).toNat)&&decide ((lowB c).toNat<=122))) L4 c
 rcases h with h | h <;> simpa [h] using this
theorem qeO {T:List UInt8} (h : ∀ c∈T,vg c.toNat=1):qbb T=0:=by
 unfold qbb;rw [List.length_eq_zero_iff,List.filter_eq_nil_iff];intro c hc;rw [h c hc]
 decide
theorem caps_all {T:List UInt8} (h : ∀ c∈T,vg c.toNat=2):qbb T=T.length:=by
 unfold qbb;rw [List.filter_eq_self.2];intro c hc;rw [h c hc]
 decide
theorem caps_one {c:UInt8} {t:List UInt8} (h1:vg c.toNat=2) (h2 : ∀ x∈t,vg x.toNat=1):qbb (c::t)=1:=by
 have:=qeO h2;unfold qbb at *
 rw [List.filter_cons_of_pos (by rw [h1];decide),Lp,this]
theorem qiG {t:List UInt8} (h : ∀ x∈t,vg x.toNat=1):t.map lowB=t:=by
 refine (List.map_congr_left (g:=id) fun c hc=>qiW c (h c hc)).trans (List.map_id _)
theorem qiv {T:List UInt8} (h0:T≠[]) (h : ∀ c∈T,vg c.toNat=1∨vg c.toNat=2):azB ⟨(T.map lowB).toArray⟩=true:=by
 unfold azB;simp only [Bool.and_eq_true,Bool.not_eq_true',List.isEmpty_eq_false_iff,List.all_eq_true,decide_eq_true_eq];refine ⟨by simpa using h0,fun c hc=>?_⟩;obtain ⟨x,hx,rfl⟩:=List.mem_map.1 hc;exact qgY x (h x hx)
def qcP (L:List UInt8) (sp:Bool):List ByteArray:=if sp=true then qS::(L.map fun c=>(⟨#[c]⟩:ByteArray))++[qaO] else (if jF ⟨L.toArray⟩=true then [vD] else [])++[⟨L.toArray⟩]
theorem qay (T:List UInt8) (sp:Bool):kS T sp=qaB (qbb T)++qcP (T.map lowB) sp:=rfl
theorem qc0 (c:UInt8) (h:97<=c.toNat/\c.toNat<=122):jQ ⟨#[c]⟩=true:=by
 unfold jQ azB;simp only [List.all_cons,List.all_nil,List.isEmpty_cons,Bool.not_false,Bool.true_and,Bool.and_true,Bool.and_eq_true,decide_eq_true_eq];exact ⟨h,rfl⟩
theorem qfr {L:List UInt8} (h0:L≠[]) (h : ∀ c∈L,97<=c.toNat/\c.toNat<=122) (R:List ByteArray):ya ((L.map fun c=>(⟨#[c]⟩:ByteArray))++qaO::R)=some (⟨L.toArray⟩,L.length+2):=by
 have e:((L.map fun c=>(⟨#[c]⟩:ByteArray))++qaO::R).takeWhile jQ=L.map fun c=>(⟨#[c]⟩:ByteArray):=by
  rw [List.takeWhile_append_of_pos fun s hs=>by
   obtain ⟨c,hc,rfl⟩:=List.mem_map.1 hs
   exact qc0 c (h c hc)]
  rw [List.takeWhile_cons_of_neg L4,List.append_nil]
 have hl:=List.length_pos_iff.2 h0;unfold ya;rw [e,Lq,if_neg L0,List.getElem?_append_right L1,Lq,Nat.sub_self];simp only [Lb,if_true];have e2:(L.map fun c=>(⟨#[c]⟩:ByteArray)).flatMap (fun s=>s.data.toList)=L:=by
  rw [List.flatMap_map]
  show L.flatMap (fun c=>[c])=L
  exact List.flatMap_singleton' L
 rw [e2]
theorem lit_body {L:List UInt8} (h0:L≠[]) (h : ∀ c∈L,97<=c.toNat/\c.toNat<=122) (haz:azB ⟨L.toArray⟩=true) (sp:Bool) (R:List ByteArray):yl (qcP L sp++R)=some (⟨L.toArray⟩,(qcP L sp).length):=by
 unfold qcP
 cases sp with
 | true =>
  rw [if_pos rfl,List.append_assoc,List.cons_append,List.singleton_append,yl,if_neg (fun e=>absurd e.1 L4),if_neg (fun e=>absurd e.2 L4),if_pos rfl,qfr h0 h]
  simp
 | false =>
  rw [if_neg L1]
  cases hr:jF ⟨L.toArray⟩ with
  | true =>
   rw [if_pos rfl,List.append_assoc,List.singleton_append,List.singleton_append,yl,List.headD_cons,if_pos ⟨rfl,haz⟩]
   rfl
  | false =>
   rw [if_neg L1,Lg,List.singleton_append,yl,if_neg (fun e=>absurd e.1 (noRes hr L4)),if_pos ⟨haz,hr⟩]
   rfl
theorem qjJ (L:List UInt8) (sp:Bool) : ∃ a t,qcP L sp=a::t/\NoSty a/\a≠bCap/\a≠yi:=by
 unfold qcP
 cases sp with
 | true=>exact ⟨qS,_,rfl,NoSty.spelled,by decide +kernel,by decide +kernel⟩
 | false =>
  rw [if_neg L1]
  cases hr:jF ⟨L.toArray⟩ with
  | true=>exact ⟨vD,_,rfl,NoSty.word,by decide +kernel,by decide +kernel⟩
  | false=>exact ⟨_,_,rfl,NoSty.lit hr,noRes hr L4,noRes hr L4⟩
theorem kV {α:Type} (W R:List α) (k:Nat) (h:W.length=k):(W++R).drop k=R:=by
 subst h;exact List.drop_left
theorem qfP {L:List UInt8}:(⟨L.toArray⟩:ByteArray).data.toList=L:=rfl
theorem qfa {T:List UInt8} (h:LtrPat T) (sp:Bool) (R:List ByteArray) (O:List Gl) (st:Int) (J:Bool) :
  va ⟨kS T sp++R,O,st,J⟩=some ⟨R,O++vm J st ⟨T.toArray⟩,st,true⟩:=by
 have hk:=h.kind;have hl0:T.map lowB≠[]:=by simpa using h.1
 have hlz : ∀ c∈T.map lowB,97<=c.toNat/\c.toNat<=122:=fun c hc=>by
  obtain ⟨x,hx,rfl⟩:=List.mem_map.1 hc;exact qgY x (hk x hx)
 have haz:=qiv h.1 hk;obtain ⟨a,t,hb,hs,hc1,hc2⟩:=qjJ (T.map lowB) sp;have hlit:=fun R=>lit_body hl0 hlz haz sp R
 rw [qay]
 rcases h.2 with h1 | ⟨c,tt,rfl,h1,h2⟩ | ⟨h1,h2⟩
 ·rw [qeO h1,show qaB 0=[] from rfl,Lg];have e:=hlit R;rw [qiG h1] at *
  rw [hb] at e ⊢;refine qcp (yE rfl hs) ?_;unfold jP;simp only [List.cons_append];rw [if_neg hc1,if_neg hc2,<- List.cons_append,e];simp only [Option.map_some,kN];rw [kV _ _ _ rfl]
 ·rw [caps_one h1 h2,show qaB 1=[bCap] from rfl];refine qcp (yE rfl NoSty.cap) ?_;unfold jP;simp only [List.cons_append,Lg];rw [if_pos trivial,hlit R];simp only [Option.map_some,kN];rw [Nat.add_comm,List.drop_succ_cons,kV _ _ _ rfl];have e:jn ⟨((c::tt).map lowB).toArray⟩ 1=⟨(c::tt).toArray⟩:=by
   unfold jn;simp only [List.map_cons,List.take_succ_cons,List.take_zero,List.drop_succ_cons,List.drop_zero,List.map_nil,List.cons_append,Lg];rw [qdn c h1,qiG h2]
  rw [e]
 ·have hc:qaB (qbb T)=[yi]:=by
   unfold qaB;rw [caps_all h2,if_neg L0,if_pos L0]
  rw [hc];refine qcp (yE rfl NoSty.caps) ?_;unfold jP;simp only [List.cons_append,Lg];rw [if_neg L4,if_pos trivial,hlit R];simp only [Option.map_some,kN];rw [Nat.add_comm,List.drop_succ_cons,kV _ _ _ rfl];have e:jn ⟨(T.map lowB).toArray⟩ (⟨(T.map lowB).toArray⟩:ByteArray).size=⟨T.toArray⟩:=by
   unfold jn;have hz:(⟨(T.map lowB).toArray⟩:ByteArray).size=(T.map lowB).length:=rfl;rw [hz,qfP,List.take_length,List.drop_length,List.append_nil,List.map_map]
   congr 2
   exact (List.map_congr_left (g:=id) fun c hc=>qdn c (h2 c hc)).trans (List.map_id _)
  rw [e]
theorem qg1 (d:Nat) (hd:d<10):numW d=[wb d]:=by
 have : ∀ d:Fin 10,numW d.val=[wb d.val]:=by decide +kernel
 exact this ⟨d,hd⟩
theorem dgW_wb (d:Nat) (hd:d<10):dgW (wb d)=some d:=by
 have : ∀ d:Fin 10,dgW (wb d.val)=some d.val:=by decide +kernel
 exact this ⟨d,hd⟩
theorem dgW_no {a:ByteArray} (h : ∀ j,j<32->wb j≠a):dgW a=none:=by
 unfold dgW;rw [List.find?_eq_none];intro i hi
 simp at hi
 simpa using h i L0
theorem qgH {D:List Nat} (h : ∀ d∈D,d<10):D.flatMap numW=D.map wb:=by
 induction D with
 | nil=>rfl
 | cons d t ih =>
  rw [List.flatMap_cons,List.map_cons,qg1 d (h d L1),ih fun x hx=>h x (by simp [hx])]
  rfl
theorem dgs_back {D:List Nat} (h : ∀ d∈D,d<10) {R:List ByteArray} (hR:NoNum R):k7 (D.map wb++R)=D:=by
 have e:(D.map wb++R).takeWhile (fun s=>(dgW s).isSome)=D.map wb:=by
  rw [List.takeWhile_append_of_pos fun s hs=>by
   obtain ⟨d,hd,rfl⟩:=List.mem_map.1 hs;rw [dgW_wb d (h d hd)]
   rfl]
  have:R.takeWhile (fun s=>(dgW s).isSome)=[]:=by
   cases R with
   | nil=>rfl
   | cons a t=>rw [List.takeWhile_cons_of_neg (by rw [dgW_no (hR a t rfl)];simp)]
  rw [this,List.append_nil]
 unfold k7;rw [e,List.map_map];exact (List.map_congr_left (g:=id) fun d hd=>by simp [dgW_wb d (h d hd)]).trans (List.map_id _)
theorem qfD {D:List Nat} (h0:D≠[]) (h : ∀ d∈D,d<10) {R:List ByteArray} (hR:NoNum R) (O:List Gl) (st:Int) (J:Bool) :
  va ⟨(vI::D.flatMap numW)++R,O,st,J⟩=some ⟨R,O++vm J st (zN D),st,true⟩:=by
 rw [qgH h];refine part_fig (yE rfl NoSty.digits) ?_ ?_
 ·unfold jP;simp only [List.cons_append];rw [if_neg L4,if_neg L4,yl,if_neg (fun e=>absurd e.1 L4),if_neg (fun e=>absurd e.2 L4),if_neg L4]
  rfl
 ·unfold qaP;simp only [List.cons_append];rw [dgs_back h hR,if_pos ⟨trivial,h0⟩];simp only [kN];rw [Nat.add_comm,List.drop_succ_cons,kV _ _ _ L1]
theorem qau (n:Nat) (hn:n<=999999999) : ∃ j t,j<32/\numW n=wb j::t:=by
 have h1:0<(qm (n:Int)).length:=by
  rcases qaa (n:Int) with h | h
  ·exact h
  ·omega
 have h2:=jT (n:Int) L0 L0;unfold numW
 cases hw:qm (n:Int) with
 | nil=>rw [hw] at h1;simp at h1
 | cons j t =>
  rw [hw] at h2;exact ⟨j,t.map wb,h2 j L1,rfl⟩
theorem qfR {n:Nat} (hn:n<=999999999) {R:List ByteArray} (hR:NoNum R) (hT:R[0]?≠some bTimes) (O:List Gl) (st:Int) (J:Bool) :
  va ⟨numW n++R,O,st,J⟩=some ⟨R,O++vm J st ⟨(kA n).toArray⟩,st,true⟩:=by
 obtain ⟨j,t,hj,e⟩:=qau n hn;rw [qfG hj (t:=t++R) (by rw [e];rfl)];unfold kD;simp only;have hp:=qax (n:Int) L0 L0 R hR;have hl:(numW n).length=(qm (n:Int)).length:=by unfold numW;rw [Lq]
 rw [show numW n++R=(qm (n:Int)).map wb++R from rfl,hp];simp only;rw [if_neg L0,List.getElem?_append_right L1,Lq,Nat.sub_self,if_neg hT];simp only [kN];rw [kV _ _ _ L1,Int.toNat_natCast]
theorem enc_bytN {rs:List Nat} (h : ∀ r∈rs,qR r):qB (yI rs)=zm rs:=by
 unfold yI
 show List.map UInt8.toNat (List.toArray _).toList=_
 rw [List.map_map];refine (List.map_congr_left (g:=id) fun b hb=>?_).trans (List.map_id _);have:=qfl h b hb
 simp
 omega
theorem qcl {rs:List Nat} (h : ∀ r∈rs,qR r):qs (qB (yI rs))=rs:=by rw [enc_bytN h,qbP h]
theorem qjS {rs:List Nat} (h : ∀ r∈rs,qR r):vb (yI rs)=true:=(qbR _).1 (by rw [qcl h])
theorem qh1 (r:Nat):yI [r]=kt r:=by
 unfold yI kt zm;simp only [List.flatMap_cons,List.flatMap_nil,List.append_nil]
theorem enc_snoc (a:List Nat) (m:Nat):yI (a++[m])=yI a++kt m:=by
 apply ByteArray.ext
 rw [ByteArray.data_append]
 apply Array.toList_inj.1
 unfold yI kt zm
 simp
theorem qjM {r:Nat} {pre:List Nat} (h : ∀ x∈r::pre,qR x) (hw:1<=zR (r:Int)) (hm : ∀ x∈pre,inT qM (x:Int)=true) (hl:pre.length<=3):zB (yI (r::pre))=0 :=
 vL.2 ⟨qjS h,r,pre,qcl h,hw,List.all_eq_true.2 hm,hl⟩
theorem qhl {r m:Nat} {pre:List Nat} (h : ∀ x∈r::pre,qR x) (hw:1<=zR (r:Int)) (hm : ∀ x∈pre,inT qM (x:Int)=true) (hl:pre.length<3) (hmm:inT qM (m:Int)=true) :
  ye (yI (r::pre)) (m:Int)=(yI (r::pre++[m]),0):=by
 unfold ye;rw [if_neg (by rw [qjM h hw hm L0];simp),if_neg (by rw [hmm];simp),qcl h,if_neg (by rw [Lp];omega),Int.toNat_natCast,enc_snoc]
theorem mark_wid {m:Nat} (h:inT qM (m:Int)=true):zR (m:Int)=0:=by
 have hlow : ∀ p∈qM,160<=p.1:=by decide +kernel
 have:160<=(m:Int):=by
  unfold inT at h;obtain ⟨p,hp,h⟩:=List.any_eq_true.1 h;simp only [Bool.and_eq_true,decide_eq_true_eq] at h;have:=hlow p hp
  omega
 unfold zR;rw [if_neg L0,if_pos h]
def ChW (r:Int) (W R:List ByteArray):Prop:=(r=32/\W=[yB])∨(zC r=true/\W=qD r/\(qL (W.getLastD ⟨#[]⟩)=true->NoNum R))
theorem qdk {n:Int} (h1 : -999999999<=n) (h2:n<=999999999) (c:ByteArray):qL ((c::(qm n).map wb).getLastD ⟨#[]⟩)=true:=by
 have hpos:0<(qm n).length:=by
  rcases qaa n with h | h
  ·exact h
  ·omega
 rw [List.getLastD_cons];obtain ⟨a,l,hl⟩ : ∃ a l,(qm n).map wb=l++[a]:=by
  have hne:(qm n).map wb≠[]:=by rw [<- List.length_pos_iff,Lq];exact hpos
  exact ⟨_,_,(List.dropLast_concat_getLast hne).symm⟩
 rw [hl,List.getLastD_concat];have:a∈(qm n).map wb:=by rw [hl];simp
 obtain ⟨j,hj,rfl⟩:=List.mem_map.1 this;exact qds.2 ⟨j,jT n h1 h2 j hj,rfl⟩
theorem ChW.back {r:Int} {W R:List ByteArray} (h:ChW r W R):charW (W++R)=some (r,W.length):=by
 rcases h with ⟨rfl,rfl⟩ | ⟨hr,rfl,hn⟩
 ·show charW (yB::R)=_
  rw [charW,if_pos rfl]
  rfl
 ·have hnb : ∀ i:Fin 32,nb i.val≠yB:=by decide +kernel
  cases hi:jM r with
  | some i =>
   have e:qD r=[nb i]:=by unfold qD;rw [hi]
   obtain ⟨a,b,_⟩:=jz hi;rw [e]
   show charW (nb i::R)=_
   rw [charW,if_neg (hnb ⟨i,a⟩),zM,qia i a];simp only [Lp,List.length_nil];rw [b]
  | none =>
   have e:qD r=cB::(qm r).map wb:=by unfold qD;rw [hi];simp only [hr,if_true]
   obtain ⟨a,b⟩:=kj hr;have hR:NoNum R:=hn (by rw [e];exact qdk L0 L0 _);have:=qd7 hr hR;rw [e] at this ⊢;rw [List.cons_append,charW,if_neg L4,<- List.cons_append];exact this
theorem ChW.head {r:Int} {W R:List ByteArray} (h:ChW r W R) : ∃ a t,W=a::t/\NoSty a/\NoLit a/\qL a=false/\a≠bTimes:=by
 have hnb : ∀ i:Fin 32,qL (nb i.val)=false/\nb i.val≠bTimes:=by decide +kernel
 rcases h with ⟨rfl,rfl⟩ | ⟨hr,rfl,hn⟩
 ·exact ⟨_,_,rfl,NoSty.space,NoLit.space,by decide +kernel,by decide +kernel⟩
 ·cases hi:jM r with
  | some i =>
   have e:qD r=[nb i]:=by unfold qD;rw [hi]
   obtain ⟨a,_⟩:=jz hi;exact ⟨_,_,e,NoSty.nb a,NoLit.nb a,(hnb ⟨i,a⟩).1,(hnb ⟨i,a⟩).2⟩
  | none =>
   have e:qD r=cB::(qm r).map wb:=by unfold qD;rw [hi];simp only [hr,if_true]
   exact ⟨_,_,e,NoSty.cB,NoLit.cB,by decide +kernel,by decide +kernel⟩
theorem qck {r:Int} {W R:List ByteArray} (h:ChW r W R) {O O':List Gl} {st:Int} (ha:vV O st r 1=(true,O')) (J:Bool) :
  va ⟨W++R,O,st,J⟩=some ⟨R,O',st,false⟩:=by
 obtain ⟨a,t,e,h1,h2,_,_⟩:=h.head;have hw:(⟨W++R,O,st,J⟩:Prs).words=a::(t++R):=by rw [e];rfl
 refine qiI (yE hw h1) (NoLit.word hw h2) (NoLit.fig hw h2) ?_;unfold ko;simp only;rw [h.back];simp only;rw [ha,if_pos rfl,kV _ _ _ rfl]
theorem qgN {O:List Gl} {st:Int} {r n:Nat} (h:1<=zR (r:Int)):vV O st (r:Int) n=(true,O++List.replicate n ⟨kt r,decide (zR (r:Int)=2),st⟩):=by
 unfold vV;rw [if_neg L0,if_neg L0,Int.toNat_natCast]
theorem qhQ {n:Nat} (h2:2<=n) (hn:n<=132) {r:Nat} {W R:List ByteArray} (h:ChW (r:Int) W R) (hw:1<=zR (r:Int)) (O:List Gl) (st:Int) (J:Bool) :
  va ⟨numW n++[bTimes]++W++R,O,st,J⟩=some ⟨R,O++List.replicate n ⟨kt r,decide (zR (r:Int)=2),st⟩,st,false⟩:=by
 obtain ⟨j,t,hj,e⟩:=qau n L0;have hl:(numW n).length=(qm (n:Int)).length:=by unfold numW;rw [Lq]
 have hT:NoNum (bTimes::(W++R)):=NoNum.of L4 _;have ew:numW n++[bTimes]++W++R=numW n++(bTimes::(W++R)):=by simp
 rw [ew,qfG hj (t:=t++(bTimes::(W++R))) (by rw [e];rfl)];have hp:=qax (n:Int) L0 L0 _ hT;unfold kD;simp only;rw [show numW n++(bTimes::(W++R))=(qm (n:Int)).map wb++(bTimes::(W++R)) from rfl,hp];simp only;rw [if_neg L0,List.getElem?_append_right L1,Lq,Nat.sub_self,Lb,if_pos rfl];have hd : ∀ k,((qm (n:Int)).map wb++(bTimes::(W++R))).drop ((qm (n:Int)).length+1+k)=(W++R).drop k:=by
  intro k;rw [Nat.add_assoc,List.drop_append]
  simp [Nat.add_comm 1 k]
 have hd0:=hd 0;rw [Nat.add_zero,List.drop_zero] at hd0;rw [hd0,h.back];simp only;rw [Int.toNat_natCast,qgN hw,if_pos ⟨by omega,by omega,rfl⟩,hd,kV _ _ _ rfl]
theorem vq (m:Nat) (t:List Nat):za (m::t)=qD (m:Int)++za t:=by simp [za]
theorem qa0 {A B:List ByteArray} (h:B≠[]) (d:ByteArray):(A++B).getLastD d=B.getLastD d:=by
 obtain ⟨B',b,rfl⟩ : ∃ B' b,B=B'++[b]:=⟨_,_,(List.dropLast_concat_getLast h).symm⟩
 rw [<- List.append_assoc,List.getLastD_concat,List.getLastD_concat]
theorem qdY {r:Nat} (hr:qR r) (hw:1<=zR (r:Int)) (O:List Gl) (st:Int) (wd:Bool) (st0:Int) {R:List ByteArray} : ∀ (t pre:List Nat),(∀ x∈pre,qR x)->(∀ x∈t,qR x)->(∀ x∈pre,inT qM (x:Int)=true)->(∀ x∈t,inT qM (x:Int)=true)->pre.length+t.length<=3 ->
  (t≠[]->qL ((za t).getLastD ⟨#[]⟩)=true->NoNum R)->qag ⟨za t++R,O++[⟨yI (r::pre),wd,st0⟩],st,false⟩=qag ⟨R,O++[⟨yI (r::(pre++t)),wd,st0⟩],st,false⟩
 | [],pre,_,_,_,_,_,_=>by rw [List.append_nil];rfl
 | m::t,pre,h1,h2,h3,h4,h5,h6=>by
  rw [Lp] at h5;have hm:=h2 m L1;have hmm:=h4 m L1;have hne:qD (m:Int)≠[]:=by
   intro e;have:=qao.1 e;rw [ji hm] at this
   cases this
  have hc:ChW (m:Int) (qD (m:Int)) (za t++R):=.inr ⟨ji hm,rfl,fun hl=>by
   cases t with
   | nil=>exact h6 L1 (by rw [vq,show za []=[] from rfl,List.append_nil];exact hl)
   | cons x t' =>
    rw [vq,List.append_assoc]
    exact NoNum.spell (h2 x L1) _⟩
  have ha:vV (O++[⟨yI (r::pre),wd,st0⟩]) st (m:Int) 1=(true,O++[⟨yI (r::(pre++[m])),wd,st0⟩]):=by
   unfold vV;rw [mark_wid hmm,if_neg L0,if_pos rfl,if_neg L0,List.getLast?_append,List.getLast?_singleton,Option.some_or];simp only;rw [qhl (List.forall_mem_cons.2 ⟨hr,h1⟩) hw h3 L0 hmm,List.dropLast_concat]
   rfl
  rw [vq,List.append_assoc,jy (qck hc ha false)]
  have:=qdY hr hw O st wd st0 t (pre++[m]) (fun x hx=>by
    rcases List.mem_append.1 hx with hx | hx
    ·exact h1 x hx
    ·rw [List.mem_singleton] at hx;subst hx;exact hm) (fun x hx=>h2 x (by simp [hx])) (fun x hx=>by
    rcases List.mem_append.1 hx with hx | hx
    ·exact h3 x hx
    ·rw [List.mem_singleton] at hx;subst hx;exact hmm) (fun x hx=>h4 x (by simp [hx])) (by rw [Lf,Lz];omega) (fun ht hl=>h6 L1 (by
     rw [vq,qa0 _]
     ·exact hl
     ·cases t with
      | nil=>exact absurd rfl ht
      | cons x t' =>
       rw [vq];intro e;have:=qao.1 (List.append_eq_nil_iff.1 e).1;rw [ji (h2 x L1)] at this
       cases this))
  rw [List.append_assoc,List.singleton_append] at this;exact this
theorem qcK {g:Gl} (h:g.text.data.toList=[32]):qs (qB g.text)=[32]:=by
 unfold qB;rw [h]
 decide +kernel
theorem qeE {g:Gl} (h:GF g) {r:Nat} {R:List ByteArray} (hc:qs (qB g.text)=[r]) (hR:qL ((qP g).getLastD ⟨#[]⟩)=true->NoNum R):ChW (r:Int) (qP g) R:=by
 by_cases hs:g.text.data.toList=[32]
 ·have:=qcK hs;rw [hc] at this
  injection this with this
  exact .inl ⟨by rw [this];rfl,yC hs⟩
 ·have hch:=yD (qB g.text);rw [hc] at hch;have e:qP g=qD (r:Int):=by
   rw [jr hs,hc,vq];exact List.append_nil _
  exact .inr ⟨ji (hch r L1),e,hR⟩
theorem qfW {g:Gl} (h:GF g) {R:List ByteArray} (hR:qL ((qP g).getLastD ⟨#[]⟩)=true->NoNum R) (O:List Gl) (J:Bool) :
  qag ⟨qP g++R,O,g.style,J⟩=qag ⟨R,O++[g],g.style,false⟩:=by
 obtain ⟨r,t,hc,h1,h2,h3,h4,h5,h6,h7⟩:=h.form;have hg:g=⟨yI (r::t),decide (zR (r:Int)=2),g.style⟩:=by
  obtain ⟨tx,wd,st⟩:=g;simp only at h6 h7;rw [h6,h7]
 have ha:vV O g.style (r:Int) 1=(true,O++[⟨yI [r],decide (zR (r:Int)=2),g.style⟩]):=by rw [qgN h3,qh1];rfl
 cases t with
 | nil =>
  rw [jy (qck (qeE h hc hR) ha J),<- hg]
 | cons m t' =>
  have hs:g.text.data.toList≠[32]:=by
   intro hs;have:=qcK hs;rw [hc] at this
   cases this
  have e:qP g=qD (r:Int)++za (m::t'):=by rw [jr hs,hc,vq]
  have hlast:(qP g).getLastD ⟨#[]⟩=(za (m::t')).getLastD ⟨#[]⟩:=by
   rw [e,qa0];rw [vq];intro e;have:=qao.1 (List.append_eq_nil_iff.1 e).1;rw [ji (h2 m L1)] at this
   cases this
  rw [hlast] at hR
  have hcw:ChW (r:Int) (qD (r:Int)) (za (m::t')++R):=.inr ⟨ji h1,rfl,fun _=>by
   rw [vq,List.append_assoc]
   exact NoNum.spell (h2 m L1) _⟩
  rw [e,List.append_assoc,jy (qck hcw ha J),qdY h1 h3 O g.style _ g.style (m::t') [] L1 h2 L1 h4 (by simpa using h5) (fun _=>hR),Lg,<- hg]
end Go.Proofs.YtbogmeeijdaijaaGreatDoor
