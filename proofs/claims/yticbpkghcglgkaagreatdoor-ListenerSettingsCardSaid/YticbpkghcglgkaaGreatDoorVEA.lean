/- Joined: Bk4, FmP, UtP, UtP2, UtP3, LvP, LvM, UtM, Um1, Uc1, Lv1, Lv2, Lv3. -/
import Derived.Lib.SliceRun
import Derived.Test.YticbpkghcglgkaaGreatDoorVBH
import Derived.Test.YticbpkghcglgkaaGreatDoorVBK
import Derived.Test.YticbpkghcglgkaaGreatDoorVDZ
set_option linter.unusedVariables false
set_option linter.unusedSimpArgs false
set_option linter.unnecessarySimpa false
set_option maxHeartbeats 4000000
namespace Go.Proofs.YticbpkghcglgkaaGreatDoor
open Go.Proofs.Tryz Go.RowKit
set_option maxRecDepth 20000
theorem qgf {g:Gl} {t:List Gl} {rep:Int} {sp dg:Bool} (hG : ∀ x∈g::t,GF x) : ∃ a W,qq (pcL (g::t) rep) sp dg=a::W/\a≠bTimes:=by
 have hcons:=kn g t rep
 have hk3:=jX g
 have hwb : ∀ j:Fin 32,wb j.val≠bTimes:=by decide +kernel
 by_cases h12:qd g=1∨qd g=2
 ·obtain ⟨hp,hall⟩:=qhk (rep:=rep) (t:=t) h12
  have e:qq (pcL (g::t) rep) sp dg=kS ((pcL (g::t) rep).map qT) sp:=by
   rw [<- qbI (fun x hx=>by have:=(hall x hx).1;omega),hcons,jv h12]
  rw [e,qay]
  unfold qaB
  split
  ·exact ⟨bCap,_,rfl,by decide +kernel⟩
  ·split
   ·exact ⟨yi,_,rfl,by decide +kernel⟩
   ·rw [List.nil_append]
    unfold qcP
    cases sp with
    | true=>exact ⟨qS,_,rfl,by decide +kernel⟩
    | false =>
     rw [if_neg (by simp)]
     cases hr:jF ⟨(((pcL (g::t) rep).map qT).map yp).toArray⟩ with
     | true=>exact ⟨vD,_,rfl,by decide +kernel⟩
     | false=>exact ⟨_,_,rfl,qcJ hr (by decide +kernel)⟩
 ·by_cases h3:qd g=3
  ·have hall:=qe1 (rep:=rep) (t:=t) h3
   have hk : ∀ x∈pcL (g::t) rep,qd x=3:=fun x hx=>(hall x hx).1
   have e:qq (pcL (g::t) rep) sp dg=yt ((pcL (g::t) rep).map qT) dg:=by
    rw [<- kG,hcons,ju h3]
   rw [e]
   unfold yt
   split
   ·exact ⟨vI,_,rfl,by decide +kernel⟩
   ·rename_i hc
    rw [not_or,not_or,List.length_map] at hc
    have h1:=qc5 _ (qc8 hk)
    have h2:(jC ((pcL (g::t) rep).map qT)).length<=9:=by unfold jC;rw [List.length_map,List.length_map];omega
    have h3:10 ^ (jC ((pcL (g::t) rep).map qT)).length<=10 ^ 9:=Nat.pow_le_pow_right (by omega) h2
    obtain ⟨j,W,hj,e⟩:=qau (yj (jC ((pcL (g::t) rep).map qT))) (by omega)
    exact ⟨_,_,e,hwb ⟨j,hj⟩⟩
  ·have h0:qd g=0:=by omega
   have hg:=hG g (by simp)
   rcases qfe (rep:=rep) (t:=t) h0 with e | ⟨n,h2,hn,e,hc⟩
   ·rw [e,jt h0]
    by_cases hs:g.text.data.toList=[32]
    ·rw [yC hs]
     exact ⟨_,_,rfl,by decide +kernel⟩
    ·obtain ⟨r,t',hc,h1,_⟩:=hg.form
     have hch:ChW (r:Int) (qD (r:Int)) []:=.inr ⟨ji h1,rfl,fun _=>NoNum.nil⟩
     obtain ⟨a,W,e2,_,_,_,h⟩:=hch.head
     rw [jr hs,hc,vq,e2]
     exact ⟨a,_,rfl,h⟩
   ·obtain ⟨m,rfl⟩ : ∃ m,n=m+2:=⟨n-2,by omega⟩
    rw [e,List.replicate_succ,jb h0 (by simp),List.length_replicate]
    obtain ⟨j,W,hj,e⟩:=qau (m+1+1) (by omega)
    rw [e]
    exact ⟨_,_,rfl,hwb ⟨j,hj⟩⟩
def SilOK (S:Setts) (q:Spk) (rest:List Gl):Prop:=q.silent=true->q.before≠0/\∃ b t,rest=b::t/\qd b≠0/\b.style=q.style/\(q.before=3->qL ((qq (pcL (b::t) S.rep) S.spell S.digits).headD ⟨#[]⟩)=false)
def NumEnd (q:Spk):Prop:=(q.before=0∨q.before=3)/\q.out≠[]/\qL (q.out.getLastD ⟨#[]⟩)=true
theorem NoNum.sty (i:Nat) (t:List ByteArray):NoNum (vP i::t):=by
 refine NoNum.of ?_ t
 unfold vP
 split <;> decide +kernel
theorem NoNum.joined (t:List ByteArray):NoNum (zO::t):=NoNum.of (by decide +kernel) t
theorem qjg (i:Nat):vP i≠bTimes:=by
 unfold vP
 split <;> decide +kernel
theorem read_sty {i:Int} (h0:0<=i) (h3:i<=3) (R:List ByteArray) (O:List Gl) (st:Int) (J:Bool):va ⟨vP i.toNat::R,O,st,J⟩=some ⟨R,O,i,false⟩:=by
 unfold va zP
 simp only
 rw [qg5 i.toNat (by omega)]
 simp only
 rw [some_or,Int.toNat_of_nonneg h0]
theorem qcX (R:List ByteArray) (O:List Gl) (st:Int) (J:Bool):va ⟨zO::R,O,st,J⟩=some ⟨R,O,st,false⟩:=by
 unfold va zP
 simp only
 rw [show vY zO=none by decide +kernel]
 simp only
 rw [if_pos trivial,some_or]
theorem qhA {a:Gl} (h:a.text.data.toList=[32]):qd a=0:=by
 unfold qd
 rw [h]
 rfl
theorem qjK {q:Spk} {S:Setts} {a:Gl} {l:List Gl} {n:Nat} (h:jJ q S (a::l) n=true) : ∃ b t,l=b::t/\n=1/\a.text.data.toList=[32]/\q.before≠0/\a.style=q.style/\qd b≠0/\b.style=q.style /\
  (q.before=3->qL ((qq (pcL (b::t) S.rep) S.spell S.digits).headD ⟨#[]⟩)=false):=by
 cases l with
 | nil=>cases h
 | cons b t =>
  unfold jJ at h
  simp only [Bool.and_eq_true,Bool.or_eq_true,decide_eq_true_eq,Bool.not_eq_true'] at h
  obtain ⟨⟨⟨⟨⟨⟨h1,h2⟩,h3⟩,h4⟩,h5⟩,h6⟩,h7⟩:=h
  exact ⟨b,t,rfl,h1,h2,h3,h4,h5,h6,fun h=>h7.resolve_left fun h'=>h' h⟩
theorem qdg {q:Spk} {S:Setts} {g:Gl} {t:List Gl}:qc4 q S (pcL (g::t) S.rep)=⟨q.out++ky q g ((qq (pcL (g::t) S.rep) S.spell S.digits).headD ⟨#[]⟩)++qq (pcL (g::t) S.rep) S.spell S.digits,g.style,qd g,false⟩:=qfo (kn g t S.rep)
theorem back (S:Setts) : ∀ (n:Nat) (q:Spk) (rest:List Gl),rest.length<=n->(∀ x∈rest,GF x/\0<=x.style/\x.style<=3)->SilOK S q rest ->
  ∃ T,(qQ S rest.length q rest).out=q.out++T/\T[0]?≠some bTimes/\(NumEnd q->NoNum T)/\∀ O,qag ⟨T,O,q.style,decide (q.before≠0)⟩=some (O++(if q.silent=true then [chG q.style 32] else [])++rest)
 | n,q,[],_,_,hs=>by
  have hsil:q.silent=false:=by
   cases h:q.silent with
   | false=>rfl
   | true =>
    obtain ⟨_,b,t,e,_⟩:=hs h
    cases e
  refine ⟨[],by simp [qQ],by simp,fun _=>NoNum.nil,fun O=>?_⟩
  rw [hsil,qjR rfl]
  simp
 | 0,q,g::t,hn,_,_=>by simp at hn
 | n+1,q,g::t,hn,hG,hs=>by
  have hp:=vz (g:=g) (t:=t) S.rep
  have hd:((g::t).drop (qo (g::t) S.rep)).length<=n:=by
   rw [List.length_drop]
   rw [List.length_cons] at hn ⊢
   omega
  have hG2 : ∀ x∈(g::t).drop (qo (g::t) S.rep),GF x/\0<=x.style/\x.style<=3:=fun x hx=>hG x (List.mem_of_mem_drop hx)
  have hgs:=hG g (by simp)
  rw [jR]
  cases hb:jJ q S (g::t) (qo (g::t) S.rep) with
  | true =>
   rw [if_pos rfl]
   obtain ⟨b,t',rfl,h1,h2,h3,h4,h5,h6,h7⟩:=qjK hb
   rw [h1] at hd hG2 ⊢
   rw [List.drop_succ_cons,List.drop_zero] at hd hG2 ⊢
   have hsil:q.silent=false:=by
    cases h:q.silent with
    | false=>rfl
    | true =>
     obtain ⟨_,b',t'',e,hk,_⟩:=hs h
     injection e with e _
     subst e
     exact absurd (qhA h2) hk
   obtain ⟨T,e1,e2,e3,e4⟩:=back S n { q with silent:=true } (b::t') hd hG2 fun _=>⟨h3,b,t',rfl,h5,h6,h7⟩
   refine ⟨T,e1,e2,e3,fun O=>?_⟩
   have:=e4 O
   simp only [if_true] at this
   rw [this,hsil]
   have hgg:g=chG q.style 32:=by
    have:=qh3 hgs.1 h2 (.inr rfl)
    rwa [h4] at this
   rw [<- hgg]
   simp
  | false =>
   rw [if_neg (by simp)]
   have hGF : ∀ x∈g::t,GF x:=fun x hx=>(hG x hx).1
   obtain ⟨w0,W,hw,hwt⟩:=qgf (rep:=S.rep) (sp:=S.spell) (dg:=S.digits) hGF
   have hsay:=qdg (q:=q) (S:=S) (g:=g) (t:=t)
   obtain ⟨T,e1,e2,e3,e4⟩:=back S n (qc4 q S (pcL (g::t) S.rep)) ((g::t).drop (qo (g::t) S.rep)) hd hG2 (by rw [hsay];intro h;cases h)
   rw [hsay] at e1 e3 e4
   simp only [Bool.false_eq_true,if_false,List.append_nil] at e4
   have hpr:g::t=pcL (g::t) S.rep++(g::t).drop (qo (g::t) S.rep):=(List.take_append_drop _ _).symm
   have hNE:qd g=0∨qd g=3->qL ((qq (pcL (g::t) S.rep) S.spell S.digits).getLastD ⟨#[]⟩)=true->NoNum T:=fun hk hl=>e3 ⟨hk,by rw [hw];simp,by
    rw [qa0 (by rw [hw];simp)]
    exact hl⟩
   have hrd:=fun O J=>qhJ (rep:=S.rep) (sp:=S.spell) (dg:=S.digits) hGF (R:=T) e2 hNE O J
   rw [hw] at hsay e1 hrd
   rw [List.headD_cons] at hsay e1
   have hfin : ∀ O J,(qd g≠0->J=q.silent)->(qd g=0->q.silent=false)->qag ⟨w0::W++T,O,g.style,J⟩=some (O++(if q.silent=true then [chG g.style 32] else [])++g::t):=by
    intro O J h1 h2
    rw [hrd O J,e4]
    have:(if qd g≠0/\J=true then [chG g.style 32] else [])=(if q.silent=true then [chG g.style 32] else []):=by
     by_cases hk:qd g=0
     ·rw [if_neg (fun h=>h.1 hk),h2 hk,if_neg (by simp)]
     ·rw [h1 hk]
      by_cases hq:q.silent=true
      ·rw [if_pos ⟨hk,hq⟩,if_pos hq]
      ·rw [if_neg (fun h=>hq h.2),if_neg hq]
    rw [this,List.append_assoc _ (pcL _ _),<- hpr]
   have hsil : ∀ h:q.silent=true,q.before≠0/\qd g≠0/\g.style=q.style/\(q.before=3->qL w0=false):=fun h=>by
    obtain ⟨a1,b',t'',e,hk,a2,a3⟩:=hs h
    injection e with e e'
    subst e e'
    rw [hw] at a3
    exact ⟨a1,hk,a2,a3⟩
   have hsf:q.silent=false∨q.silent=true:=by cases q.silent <;> simp
   refine ⟨ky q g w0++(w0::W)++T,by rw [show (g::t).take (qo (g::t) S.rep)=pcL (g::t) S.rep from rfl,hsay,e1];simp,?_,?_,?_⟩
   ·unfold ky
    split
    ·simp only [List.cons_append,List.nil_append,Lb]
     exact fun e=>qjg _ (by injection e)
    ·split
     ·split
      ·simp only [List.nil_append,List.cons_append,Lb]
       exact fun e=>hwt (by injection e)
      ·simp only [List.cons_append,List.nil_append,Lb]
       exact fun e=>absurd (show zO=bTimes by injection e) (by decide +kernel)
     ·split
      ·simp only [List.cons_append,List.nil_append,Lb]
       exact fun e=>absurd (show zO=bTimes by injection e) (by decide +kernel)
      ·simp only [List.nil_append,List.cons_append,Lb]
       exact fun e=>hwt (by injection e)
   ·rintro ⟨n1,n2,n3⟩
    unfold ky
    split
    ·exact NoNum.sty _ _
    ·split
     ·rename_i hst hk
      split
      ·rename_i hsl
       obtain ⟨a1,a2,a3,a4⟩:=hsil hsl
       exact NoNum.of (a4 (n1.resolve_left a1)) _
      ·exact NoNum.joined _
     ·rename_i hst hk
      split
      ·exact NoNum.joined _
      ·rename_i hj
       refine NoNum.of ?_ _
       cases hw0:qL w0 with
       | false=>rfl
       | true=>exact absurd ⟨n2,hw0,n3⟩ hj
   ·intro O
    unfold ky
    split
    ·rename_i hst
     have hsl:q.silent=false:=hsf.resolve_right fun h=>hst (hsil h).2.2.1
     rw [List.append_assoc,List.singleton_append,jy (read_sty hgs.2.1 hgs.2.2 _ O q.style _),hfin O false (fun _=>hsl.symm) (fun _=>hsl),hsl]
     simp
    ·rename_i hst
     have hst':g.style=q.style:=Classical.not_not.1 hst
     rw [<- hst']
     split
     ·rename_i hk
      split
      ·rename_i hsl
       rw [List.nil_append,hfin O _ (fun _=>by rw [hsl,decide_eq_true hk.2]) (fun h=>absurd h hk.1),if_pos hsl]
      ·rename_i hsl
       have hsl':q.silent=false:=by simpa using hsl
       rw [List.append_assoc,List.singleton_append,jy (qcX _ O g.style _),hfin O false (fun _=>hsl'.symm) (fun _=>hsl'),if_neg hsl]
     ·rename_i hk
      have hsl:q.silent=false:=hsf.resolve_right fun h=>hk ⟨(hsil h).2.1,(hsil h).1⟩
      split
      ·rw [List.append_assoc,List.singleton_append,jy (qcX _ O g.style _),hfin O false (fun _=>hsl.symm) (fun _=>hsl)]
      ·rw [List.nil_append,hfin O _ (fun hkg=>by
        have:q.before=0:=by
         rcases Nat.eq_zero_or_pos q.before with h | h
         ·exact h
         ·exact absurd ⟨hkg,by omega⟩ hk
        rw [this,hsl]
        rfl) (fun _=>hsl)]
theorem qhi (l:List Gl) (S:Setts) (h : ∀ x∈l,GF x/\0<=x.style/\x.style<=3):kC (qz l S)=some l:=by
 obtain ⟨T,e1,_,_,e4⟩:=back S l.length ⟨[],0,0,false⟩ l (Nat.le_refl _) h (fun h=>by cases h)
 have:=e4 []
 unfold kC qz
 rw [e1]
 simpa [qag] using this
theorem ok_wb (j:Nat) (hj:j<32):okW (wb j)=true:=by
 have : ∀ k:Fin 32,okW (wb k.val)=true:=by decide +kernel
 exact this ⟨j,hj⟩
theorem ok_nb (j:Nat) (hj:j<32):okW (nb j)=true:=by
 have : ∀ k:Fin 32,okW (nb k.val)=true:=by decide +kernel
 exact this ⟨j,hj⟩
theorem ok_sty (i:Nat):okW (vP i)=true:=by
 unfold vP
 split <;> decide +kernel
theorem ok_one {c:UInt8} (h:97<=c.toNat/\c.toNat<=122):okW ⟨#[c]⟩=true:=by
 have h1:=qc0 c h
 unfold jQ at h1
 simp only [Bool.and_eq_true] at h1
 unfold okW
 rw [h1.1,decide_eq_false (fun e=>absurd (show 1=4 from congrArg ByteArray.size e) (by decide):(⟨#[c]⟩:ByteArray)≠vF),decide_eq_false (fun e=>absurd (show 1=4 from congrArg ByteArray.size e) (by decide):(⟨#[c]⟩:ByteArray)≠vD)]
 rfl
theorem qfI {n:Int} (h1 : -999999999<=n) (h2:n<=999999999) : ∀ a∈(qm n).map wb,okW a=true:=by
 intro a ha
 obtain ⟨i,hi,rfl⟩:=List.mem_map.1 ha
 exact ok_wb i (jT n h1 h2 i hi)
theorem qfw {n:Nat} (h:n<=999999999) : ∀ a∈ja n,okW a=true:=qfI (by omega) (by omega)
theorem ok_spell (r:Int) : ∀ a∈qD r,okW a=true:=by
 intro a ha
 unfold qD at ha
 split at ha
 ·rename_i i hi
  rw [List.mem_singleton] at ha
  subst ha
  exact ok_nb i (jz hi).1
 ·split at ha
  ·rename_i hc
   have hr:=kj hc
   rcases List.mem_cons.1 ha with rfl | ha
   ·decide +kernel
   ·exact qfI (by omega) (by omega) a ha
  ·cases ha
theorem qeu (g:Gl) : ∀ a∈qP g,okW a=true:=by
 intro a ha
 unfold qP at ha
 split at ha
 ·rw [List.mem_singleton] at ha
  subst ha
  decide +kernel
 ·rw [List.mem_flatMap] at ha
  obtain ⟨r,_,ha⟩:=ha
  exact ok_spell _ a ha
theorem qgQ {T:List UInt8} (h:LtrPat T) (sp:Bool):Clo (kS T sp):=by
 have haz:=qiv h.1 h.kind
 rw [qay]
 refine Clo.app (Clo.all fun a ha=>?_) ?_
 ·unfold qaB at ha
  split at ha
  ·rw [List.mem_singleton] at ha;subst ha;decide +kernel
  ·split at ha
   ·rw [List.mem_singleton] at ha;subst ha;decide +kernel
   ·cases ha
 ·unfold qcP
  split
  ·refine Clo.all fun a ha=>?_
   rcases List.mem_cons.1 ha with rfl | ha
   ·decide +kernel
   ·rcases List.mem_append.1 ha with ha | ha
    ·obtain ⟨c,hc,rfl⟩:=List.mem_map.1 ha
     obtain ⟨x,hx,rfl⟩:=List.mem_map.1 hc
     exact ok_one (qgY x (h.kind x hx))
    ·rw [List.mem_singleton] at ha;subst ha;decide +kernel
  ·split
   ·unfold Clo
    rw [List.singleton_append,qbF,if_neg (by rintro (h | ⟨h,_⟩) <;> revert h <;> decide +kernel),qbF,if_neg (by
     rintro (h | ⟨_,h⟩)
     ·rw [haz] at h;cases h
     ·revert h;decide +kernel),qbF]
    simp
   ·rename_i hr
    have hr':jF ⟨(T.map yp).toArray⟩=false:=by simpa using hr
    rw [List.nil_append]
    refine Clo.one ?_
    unfold okW
    rw [haz,decide_eq_false (qcJ hr' (by decide +kernel)),decide_eq_false (qcJ hr' (by decide +kernel))]
    rfl
theorem num9 {D:List Nat} (h : ∀ d∈D,d<10):yj D<10 ^ D.length:=by
 have key : ∀ (D:List Nat) (n m:Nat),(∀ d∈D,d<10)->n<10 ^ m->D.foldl (fun n d=>10 * n+d) n<10 ^ (m+D.length):=by
  intro D
  induction D with
  | nil=>intro n m _ h;simpa using h
  | cons d t ih =>
   intro n m hd hn
   have h1:=hd d (by simp)
   have:=ih (10 * n+d) (m+1) (fun x hx=>hd x (by simp [hx])) (by rw [Nat.pow_succ];omega)
   rw [List.foldl_cons,List.length_cons,show m+(t.length+1)=m+1+t.length by omega]
   exact this
 have:=key D 0 0 h (by decide)
 rwa [Nat.zero_add] at this
theorem qhg {l:List Gl} (h : ∀ x∈l,qd x=3) (dg:Bool):Clo (jx l dg):=by
 have hd : ∀ d∈vC l,d<10:=by
  have:=qc8 h
  unfold jC at this
  intro d hd
  refine this d ?_
  unfold vC at hd
  rw [List.map_map]
  exact hd
 have hl:(vC l).length=l.length:=by unfold vC;rw [List.length_map]
 unfold jx
 split
 ·refine Clo.all fun a ha=>?_
  rcases List.mem_cons.1 ha with rfl | ha
  ·decide +kernel
  ·obtain ⟨d,hd1,ha⟩:=List.mem_flatMap.1 ha
   have:=hd d hd1
   exact qfw (by omega) a ha
 ·rename_i hc
  have h9:l.length<=9:=by
   rcases Nat.lt_or_ge 9 l.length with h | h
   ·exact absurd (.inr (.inl h)) hc
   ·exact h
  have:=num9 hd
  have hp:10 ^ (vC l).length<=10 ^ 9:=Nat.pow_le_pow_right (by decide) (by omega)
  exact Clo.all (qfw (by omega))
theorem qhw {g:Gl} {t:List Gl} {rep:Int} {sp dg:Bool}:Clo (qq (pcL (g::t) rep) sp dg):=by
 have hpc:=kn g t rep
 by_cases hk:qd g=1∨qd g=2
 ·obtain ⟨h1,h2⟩:=qhk (t:=t) (rep:=rep) hk
  rw [hpc] at h1 h2 ⊢
  rw [jv hk,qbI (fun x hx=>by rcases (h2 x hx).1 with h | h <;> omega)]
  exact qgQ h1 sp
 ·by_cases h3:qd g=3
  ·have h2:=qe1 (t:=t) (rep:=rep) h3
   rw [hpc] at h2 ⊢
   rw [ju h3]
   exact qhg (fun x hx=>(h2 x hx).1) dg
  ·have h0:qd g=0:=by
    have:qd g<=3:=by
     unfold qd
     split
     ·unfold vg;repeat' split
      all_goals omega
     ·omega
    omega
   rcases qfe (t:=t) (rep:=rep) h0 with e | ⟨n,hn,hn2,e,_⟩
   ·rw [e,jt h0]
    exact Clo.all (qeu g)
   ·rw [e]
    obtain ⟨m,rfl⟩ : ∃ m,n=m+1:=⟨n-1,by omega⟩
    rw [List.replicate_succ,jb h0 (by intro e;have:=congrArg List.length e;simp at this;omega)]
    refine Clo.app (Clo.app (Clo.all (qfw (by simp;omega))) (Clo.one (by decide +kernel))) (Clo.all (qeu g))
theorem clo_pre (q:Spk) (g:Gl) (w0:ByteArray):Clo (ky q g w0):=by
 unfold ky
 repeat' split
 all_goals first | exact Clo.nil | exact Clo.one (ok_sty _) | exact Clo.one (by decide +kernel)
theorem qdO (S:Setts) : ∀ (n:Nat) (q:Spk) (rest:List Gl),rest.length<=n->Clo q.out->Clo (qQ S rest.length q rest).out
 | n,q,[],_,h=>by simpa [qQ] using h
 | 0,q,g::t,hn,_=>by simp at hn
 | n+1,q,g::t,hn,h=>by
  have hp:=vz (g:=g) (t:=t) S.rep
  have hd:((g::t).drop (qo (g::t) S.rep)).length<=n:=by
   rw [List.length_drop]
   rw [List.length_cons] at hn ⊢
   omega
  rw [jR]
  split
  ·exact qdO S n _ _ hd h
  ·refine qdO S n _ _ hd ?_
   show Clo (qc4 q S (pcL (g::t) S.rep)).out
   rw [qdg]
   exact Clo.app (Clo.app h (clo_pre q g _)) qhw
theorem qiX (l:List Gl) (S:Setts):qbF false (qz l S)=some false:=qdO S l.length _ l (Nat.le_refl _) Clo.nil
def kv:ByteArray:=⟨#[114,111,119,115]⟩
def jl:ByteArray:=⟨#[99,111,108,117,109,110,115]⟩
def bTo:ByteArray:=⟨#[116,111]⟩
def bUp:ByteArray:=⟨#[117,112]⟩
def jj:ByteArray:=⟨#[100,111,119,110]⟩
def qO:ByteArray:=⟨#[99,111,108,117,109,110]⟩
def q9:ByteArray:=⟨#[100,101,108,101,116,101]⟩
def ze:ByteArray:=⟨#[118,105,115,105,98,108,101]⟩
def zK:ByteArray:=⟨#[105,110,118,105,115,105,98,108,101]⟩
def qY (n:Int):List ByteArray:=(qm n).map wb
def je (c:Chg):Bool :=
 if c.kind=1 then decide (1<=c.row/\c.row<=60/\1<=c.col/\c.col<=132)
 else if c.kind=2 then decide (0<=c.row/\c.row<=59/\c.row+1<=c.til/\c.til<=60 /\ -60<=c.count/\c.count<=60/\c.count≠0)
 else if c.kind=3 then decide (0<=c.row/\c.row<=59/\0<=c.col/\c.col<=132/\0<=c.count/\c.count<=132)
 else decide (0<=c.row/\c.row<=59/\0<=c.col/\c.col<=131/\0<=c.count/\c.count<=1)
def jk (c:Chg):Bool :=
 if c.kind=1 then decide (c.count=0/\c.til=0/\c.glyphs=[])
 else if c.kind=2 then decide (c.col=0/\c.glyphs=[])
 else if c.kind=3 then decide (c.til=0)&&c.glyphs.all fun g=>decide (qJ g=0)
 else decide (c.til=0/\c.glyphs=[])
def vj (c:Chg):Int :=
 if c.kind<1∨4<c.kind then 9
 else if je c=false then 2
 else if c.kind=3/\132<c.glyphs.length then 5
 else if jk c=false then 1
 else 0
def qn (c:Chg) (S:Setts):List ByteArray :=
 if c.kind=1 then jS::(qY c.row++kv::(qY c.col++[jl]))
 else if c.kind=2 then q8::qI::(qY (c.row+1)++bTo::(qY c.til++(if 0<c.count then bUp::qY c.count else jj::qY (-c.count))))
 else if c.kind=3 then qI::(qY (c.row+1)++qO::(qY (c.col+1)++((if 0<c.count then q9::qY c.count else [])++(if c.glyphs=[] then [] else qK::(qz c.glyphs S++[vF])))))
 else if c.kind=4 then q7::qI::(qY (c.row+1)++qO::(qY (c.col+1)++[if c.count=1 then ze else zK]))
 else []
def qbQ (n:Int):List ByteArray:=if n=0 then [kZ] else if n=1 then [jN] else jN::(qY n++[jG])
def qZ (l:List Chg) (n:Int) (S:Setts):List ByteArray:=(l.flatMap fun c=>qn c S)++qbQ n
def afO (s:ByteArray) (l:List ByteArray):Option (Int × List ByteArray):=(skO s l).bind kU
def zx:Bool->List ByteArray->Option Nat
 | _,[]=>none
 | true,_::t=>(zx false t).map (· + 1)
 | false,a::t=>if a=vD then (zx true t).map (· + 1) else if a=vF then some 0 else (zx false t).map (· + 1)
def qae (l:List ByteArray):Option (List Gl × List ByteArray):=(zx false l).bind fun i=>match kC (l.take i) with
 | some (g::gs)=>some (g::gs,l.drop (i+1))
 | _=>none
def delL (l:List ByteArray):Option (Int × List ByteArray):=if vT q9 l=true then (afO q9 l).bind fun x=>if x.1<1 then none else some x else some (0,l)
def insL (l:List ByteArray):Option (List Gl × List ByteArray):=if vT qK l=true then (skO qK l).bind qae else some ([],l)
def qbo (l:List ByteArray):Option (Chg × List ByteArray) :=
 (afO qI l).bind fun x=>(afO qO x.2).bind fun y=>(delL y.2).bind fun z=>(insL z.2).map fun g=>(⟨3,x.1-1,y.1-1,z.1,0,g.1⟩,g.2)
def qaL (l:List ByteArray):Option (Chg × List ByteArray) :=
 if vT jS l=true then (afO jS l).bind fun x=>(afO kv x.2).bind fun y=>(skO jl y.2).map fun t=>(⟨1,x.1,y.1,0,0,[]⟩,t)
 else if vT q8 l=true then ((skO q8 l).bind (afO qI)).bind fun x=>(afO bTo x.2).bind fun y =>
  if vT jj y.2=true then (afO jj y.2).bind fun z=>if z.1<0 then none else some (⟨2,x.1-1,0,-z.1,y.1,[]⟩,z.2)
  else (afO bUp y.2).bind fun z=>if z.1<0 then none else some (⟨2,x.1-1,0,z.1,y.1,[]⟩,z.2)
 else if vT qI l=true then qbo l
 else if vT q7 l=true then ((skO q7 l).bind (afO qI)).bind fun x=>(afO qO x.2).bind fun y =>
  if vT ze y.2=true then (skO ze y.2).map fun t=>(⟨4,x.1-1,y.1-1,1,0,[]⟩,t)
  else (skO zK y.2).map fun t=>(⟨4,x.1-1,y.1-1,0,0,[]⟩,t)
 else none
def yR:Nat->List ByteArray->List Chg->Option (List Chg × Int)
 | 0,_,_=>none
 | f+1,l,acc=>if vT kZ l=true∨vT jN l=true then (ki l).map fun n=>(acc,n) else (qaL l).bind fun x=>if vj x.1=0 then yR f x.2 (acc++[x.1]) else none
def jm (l:List ByteArray):Option (List Chg × Int):=yR (l.length+1) l []
theorem jD (s:ByteArray) (t:List ByteArray):vT s (s::t)=true:=by simp [vT]
theorem vo {s a:ByteArray} (h:a≠s) (t:List ByteArray):vT s (a::t)=false:=by simp [vT,h]
theorem yL (s:ByteArray) (t:List ByteArray):skO s (s::t)=some t:=by simp [skO]
theorem qfK {n:Int} (h1 : -999999999<=n) (h2:n<=999999999) {t:List ByteArray} (ht:NoNum t):kU (qY n++t)=some (n,t):=by
 unfold kU qY
 rw [qax n h1 h2 t ht,Option.map_some]
 congr 2
 rw [List.drop_append_of_le_length (by simp)]
 simp
theorem yc {s:ByteArray} {n:Int} (h1 : -999999999<=n) (h2:n<=999999999) {t:List ByteArray} (ht:NoNum t):afO s (s::(qY n++t))=some (n,t):=by
 unfold afO
 rw [yL]
 exact qfK h1 h2 ht
theorem noW_rows:NoW kv:=by unfold NoW;decide +kernel
theorem noW_columns:NoW jl:=by unfold NoW;decide +kernel
theorem noW_to:NoW bTo:=by unfold NoW;decide +kernel
theorem noW_up:NoW bUp:=by unfold NoW;decide +kernel
theorem noW_down:NoW jj:=by unfold NoW;decide +kernel
theorem noW_column:NoW qO:=by unfold NoW;decide +kernel
theorem noW_insert:NoW qK:=by unfold NoW;decide +kernel
theorem noW_delete:NoW q9:=by unfold NoW;decide +kernel
theorem noW_visible:NoW ze:=by unfold NoW;decide +kernel
theorem noW_invisible:NoW zK:=by unfold NoW;decide +kernel
theorem noW_updates:NoW jG:=by unfold NoW;decide +kernel
theorem nxt_ne : ∀ a∈qc1,a≠q9/\a≠qK:=by unfold qc1;decide +kernel
theorem qbq : ∀ (W:List ByteArray) (b:Bool) (t:List ByteArray),qbF b W=some false->zx b (W++vF::t)=some W.length
 | [],b,t,h=>by
  rw [qbF] at h
  injection h with h
  subst h
  rw [List.nil_append,zx,if_neg (by decide +kernel),if_pos rfl]
  rfl
 | a::W,b,t,h=>by
  rw [qbF] at h
  split at h
  ·cases h
  ·rename_i hc
   rw [List.cons_append]
   cases b with
   | true =>
    rw [Bool.not_true,Bool.and_false] at h
    rw [zx,qbq W false t h]
    rfl
   | false =>
    rw [Bool.not_false,Bool.and_true] at h
    have hs:a≠vF:=fun e=>hc (.inr ⟨e,rfl⟩)
    by_cases hw:a=vD
    ·rw [decide_eq_true hw] at h
     rw [zx,if_pos hw,qbq W true t h]
     rfl
    ·rw [decide_eq_false hw] at h
     rw [zx,if_neg hw,if_neg hs,qbq W false t h]
     rfl
theorem text_say {g:List Gl} (hg:g≠[]) (h : ∀ x∈g,qJ x=0) (S:Setts) (t:List ByteArray):qae (qz g S++vF::t)=some (g,t):=by
 unfold qae
 rw [qbq _ false t (qiX g S),Option.bind_some,List.take_left',qhi g S fun x hx=>qcr (h x hx)]
 ·cases g with
  | nil=>exact absurd rfl hg
  | cons a u =>
   simp only
   congr 2
   rw [<- List.drop_drop,List.drop_left']
   ·rfl
   ·rfl
 ·rfl
theorem del_say {n:Int} (h0:0<=n) (h1:n<=132) {t:List ByteArray} (ht:NoNum t) (hd:vT q9 t=false):delL ((if 0<n then q9::qY n else [])++t)=some (n,t):=by
 unfold delL
 by_cases hn:0<n
 ·rw [if_pos hn,List.cons_append,if_pos (jD _ _),yc (by omega) (by omega) ht,Option.bind_some,if_neg (by show ¬ n<1;omega)]
 ·obtain rfl:n=0:=by omega
  rw [if_neg hn,List.nil_append,hd,if_neg (by simp)]
theorem ins_say {g:List Gl} (h : ∀ x∈g,qJ x=0) (S:Setts) {t:List ByteArray} (ht:vT qK t=false):insL ((if g=[] then [] else qK::(qz g S++[vF]))++t)=some (g,t):=by
 unfold insL
 by_cases hg:g=[]
 ·rw [if_pos hg,List.nil_append,ht,if_neg (by simp),hg]
 ·rw [if_neg hg,List.cons_append,if_pos (jD _ _),yL,Option.bind_some,List.append_assoc]
  exact text_say hg h S t
theorem qdG {c:Chg} (h:vj c=0):(1<=c.kind/\c.kind<=4)/\je c=true/\¬ (c.kind=3/\132<c.glyphs.length)/\jk c=true:=by
 unfold vj at h
 split at h
 ·cases h
 ·rename_i h1
  split at h
  ·cases h
  ·rename_i h2
   split at h
   ·cases h
   ·rename_i h3
    split at h
    ·cases h
    ·rename_i h4
     exact ⟨by omega,by simpa using h2,h3,by simpa using h4⟩
theorem qgq (c:Chg) (S:Setts) (hc:vj c=0) (t:List ByteArray) (htn:NoNum t) (htd:vT q9 t=false) (hti:vT qK t=false):qaL (qn c S++t)=some (c,t):=by
 obtain ⟨hk,hr,hl,ho⟩:=qdG hc
 obtain ⟨kind,row,col,count,til,g⟩:=c
 simp only at hk hl
 have hk4:kind=1∨kind=2∨kind=3∨kind=4:=by omega
 rcases hk4 with rfl | rfl | rfl | rfl
 ·simp [je] at hr
  simp [jk] at ho
  obtain ⟨rfl,rfl,rfl⟩:=ho
  have e:qn ⟨1,row,col,0,0,[]⟩ S++t=jS::(qY row++(kv::(qY col++(jl::t)))):=by simp [qn]
  rw [e]
  unfold qaL
  rw [if_pos (jD _ _),yc (by omega) (by omega) (noW_rows.num _),Option.bind_some]
  simp only
  rw [yc (by omega) (by omega) (noW_columns.num _),Option.bind_some]
  simp only
  rw [yL]
  rfl
 ·simp [je] at hr
  simp [jk] at ho
  obtain ⟨rfl,rfl⟩:=ho
  have e:qn ⟨2,row,0,count,til,[]⟩ S++t=q8::qI::(qY (row+1)++(bTo::(qY til++((if 0<count then bUp::qY count else jj::qY (-count))++t)))):=by simp [qn]
  rw [e]
  unfold qaL
  rw [vo (by decide +kernel),if_neg (by simp),if_pos (jD _ _),yL,Option.bind_some,yc (by omega) (by omega) (noW_to.num _),Option.bind_some]
  simp only
  by_cases hp:0<count
  ·rw [if_pos hp,List.cons_append,yc (by omega) (by omega) (noW_up.num _),Option.bind_some]
   simp only
   rw [vo (by decide +kernel),if_neg (by simp),yc (by omega) (by omega) htn,Option.bind_some]
   simp only
   rw [if_neg (by omega),Int.add_sub_cancel]
  ·rw [if_neg hp,List.cons_append,yc (by omega) (by omega) (noW_down.num _),Option.bind_some]
   simp only
   rw [if_pos (jD _ _),yc (by omega) (by omega) htn,Option.bind_some]
   simp only
   rw [if_neg (by omega),Int.add_sub_cancel,Int.neg_neg]
 ·simp [je] at hr
  simp only [jk] at ho
  simp at ho
  obtain ⟨rfl,ho⟩:=ho
  have e:qn ⟨3,row,col,count,0,g⟩ S++t=qI::(qY (row+1)++(qO::(qY (col+1)++((if 0<count then q9::qY count else [])++((if g=[] then [] else qK::(qz g S++[vF]))++t))))):=by simp [qn]
  have hI:NoNum ((if g=[] then [] else qK::(qz g S++[vF]))++t)/\vT q9 ((if g=[] then [] else qK::(qz g S++[vF]))++t)=false:=by
   by_cases hg:g=[]
   ·rw [if_pos hg,List.nil_append]
    exact ⟨htn,htd⟩
   ·rw [if_neg hg,List.cons_append]
    exact ⟨noW_insert.num _,vo (by decide +kernel) _⟩
  have hD:NoNum ((if 0<count then q9::qY count else [])++((if g=[] then [] else qK::(qz g S++[vF]))++t)):=by
   by_cases hp:0<count
   ·rw [if_pos hp,List.cons_append]
    exact noW_delete.num _
   ·rw [if_neg hp,List.nil_append]
    exact hI.1
  rw [e]
  unfold qaL
  rw [vo (by decide +kernel),if_neg (by simp),vo (by decide +kernel),if_neg (by simp),if_pos (jD _ _)]
  unfold qbo
  rw [yc (by omega) (by omega) (noW_column.num _),Option.bind_some]
  simp only
  rw [yc (by omega) (by omega) hD,Option.bind_some]
  simp only
  rw [del_say (by omega) (by omega) hI.1 hI.2,Option.bind_some]
  simp only
  rw [ins_say ho S hti,Option.map_some,Int.add_sub_cancel,Int.add_sub_cancel]
 ·simp [je] at hr
  simp [jk] at ho
  obtain ⟨rfl,rfl⟩:=ho
  have e:qn ⟨4,row,col,count,0,[]⟩ S++t=q7::qI::(qY (row+1)++(qO::(qY (col+1)++((if count=1 then ze else zK)::t)))):=by simp [qn]
  rw [e]
  unfold qaL
  rw [vo (by decide +kernel),if_neg (by simp),vo (by decide +kernel),if_neg (by simp),vo (by decide +kernel),if_neg (by simp),if_pos (jD _ _),yL,Option.bind_some,yc (by omega) (by omega) (noW_column.num _),Option.bind_some]
  simp only
  by_cases hp:count=1
  ·rw [if_pos hp,yc (by omega) (by omega) (noW_visible.num _),Option.bind_some]
   simp only
   rw [if_pos (jD _ _),yL,Option.map_some,Int.add_sub_cancel,Int.add_sub_cancel,hp]
  ·obtain rfl:count=0:=by omega
   rw [if_neg hp,yc (by omega) (by omega) (noW_invisible.num _),Option.bind_some]
   simp only
   rw [vo (by decide +kernel),if_neg (by simp),yL,Option.map_some,Int.add_sub_cancel,Int.add_sub_cancel]
theorem qhr (c:Chg) (S:Setts) (hc:vj c=0) (t:List ByteArray) (ht:Nxt t):qaL (qn c S++t)=some (c,t):=by
 have hn:=ht.num
 obtain ⟨a,u,rfl,ha⟩:=ht
 exact qgq c S hc _ hn (vo (nxt_ne a ha).1 u) (vo (nxt_ne a ha).2 u)
theorem qe7 {n:Int} (h0:0<=n) (h1:n<=999999999):ki (qbQ n)=some n/\(vT kZ (qbQ n)=true∨vT jN (qbQ n)=true)/\Nxt (qbQ n):=by
 unfold qbQ
 by_cases hz:n=0
 ·rw [if_pos hz]
  refine ⟨?_,.inl (jD _ _),kZ,[],rfl,by simp [qc1]⟩
  unfold ki
  rw [if_pos (jD _ _),hz]
  rfl
 ·rw [if_neg hz]
  by_cases ho:n=1
  ·rw [if_pos ho]
   refine ⟨?_,.inr (jD _ _),jN,[],rfl,by simp [qc1]⟩
   unfold ki
   rw [vo (by decide +kernel),if_neg (by simp),yL,Option.bind_some,if_pos rfl,ho]
  ·rw [if_neg ho]
   refine ⟨?_,.inr (jD _ _),jN,_,rfl,by simp [qc1]⟩
   unfold ki
   rw [vo (by decide +kernel),if_neg (by simp),yL,Option.bind_some,if_neg (by simp),qfK (by omega) h1 (noW_updates.num _),Option.bind_some]
   simp only
   rw [yL,Option.bind_some,if_pos ⟨rfl,by omega⟩]
theorem qbD (c:Chg) (S:Setts) (hc:vj c=0) (t:List ByteArray):Nxt (qn c S++t)/\vT kZ (qn c S++t)=false/\vT jN (qn c S++t)=false:=by
 obtain ⟨hk,-⟩:=qdG hc
 unfold qn
 have hk4:c.kind=1∨c.kind=2∨c.kind=3∨c.kind=4:=by omega
 rcases hk4 with h | h | h | h
 ·rw [if_pos h,List.cons_append]
  exact ⟨⟨jS,_,rfl,by simp [qc1]⟩,vo (by decide +kernel) _,vo (by decide +kernel) _⟩
 ·rw [if_neg (by omega),if_pos h,List.cons_append]
  exact ⟨⟨q8,_,rfl,by simp [qc1]⟩,vo (by decide +kernel) _,vo (by decide +kernel) _⟩
 ·rw [if_neg (by omega),if_neg (by omega),if_pos h,List.cons_append]
  exact ⟨⟨qI,_,rfl,by simp [qc1]⟩,vo (by decide +kernel) _,vo (by decide +kernel) _⟩
 ·rw [if_neg (by omega),if_neg (by omega),if_neg (by omega),if_pos h,List.cons_append]
  exact ⟨⟨q7,_,rfl,by simp [qc1]⟩,vo (by decide +kernel) _,vo (by decide +kernel) _⟩
theorem qgg (S:Setts) {n:Int} (h0:0<=n) (h1:n<=999999999) : ∀ (l:List Chg) (f:Nat) (acc:List Chg),(∀ c∈l,vj c=0)->l.length<f->yR f (qZ l n S) acc=some (acc++l,n)
 | [],f+1,acc,_,_=>by
  unfold qZ
  rw [List.flatMap_nil,List.nil_append,yR,if_pos (qe7 h0 h1).2.1,(qe7 h0 h1).1,List.append_nil]
  rfl
 | c::l,f+1,acc,h,hf=>by
  have hc:=h c (by simp)
  have e:qZ (c::l) n S=qn c S++qZ l n S:=by unfold qZ;rw [List.flatMap_cons,List.append_assoc]
  have hN:Nxt (qZ l n S):=by
   cases l with
   | nil=>unfold qZ;rw [List.flatMap_nil,List.nil_append];exact (qe7 h0 h1).2.2
   | cons d u =>
    have e2:qZ (d::u) n S=qn d S++qZ u n S:=by unfold qZ;rw [List.flatMap_cons,List.append_assoc]
    rw [e2]
    exact (qbD d S (h d (by simp)) _).1
  obtain ⟨_,h2,h3⟩:=qbD c S hc (qZ l n S)
  rw [e,yR,if_neg (by rw [h2,h3];simp),qhr c S hc _ hN,Option.bind_some]
  simp only
  rw [if_pos hc,qgg S h0 h1 l f (acc++[c]) (fun x hx=>h x (by simp [hx])) (by simpa using hf),List.append_assoc]
  rfl
theorem qhs (c:Chg) (S:Setts) (hc:vj c=0):0<(qn c S).length:=by
 obtain ⟨a,u,e,_⟩:=(qbD c S hc []).1
 rw [List.append_nil] at e
 rw [e]
 simp
theorem qeA (S:Setts) (n:Int) : ∀ (l:List Chg),(∀ c∈l,vj c=0)->l.length<=(qZ l n S).length
 | [],_=>by simp
 | c::l,h=>by
  have e:qZ (c::l) n S=qn c S++qZ l n S:=by unfold qZ;rw [List.flatMap_cons,List.append_assoc]
  have h1:=qeA S n l fun x hx=>h x (by simp [hx])
  have h2:=qhs c S (h c (by simp))
  rw [e,List.length_append,List.length_cons]
  omega
theorem qby (l:List Chg) (n:Int) (S:Setts) (h0:0<=n) (h1:n<=999999999) (h : ∀ c∈l,vj c=0):jm (qZ l n S)=some (l,n):=by
 unfold jm
 rw [qgg S h0 h1 l _ [] h (by have:=qeA S n l h;omega),List.nil_append]
theorem qi5 {l r:List ByteArray} {n:Int} (h:kU l=some (n,r)) : -999999999<=n/\n<=999999999:=by
 unfold kU at h
 cases hp:zi l with
 | none=>rw [hp] at h;cases h
 | some x =>
  obtain ⟨m,k⟩:=x
  rw [hp] at h
  simp only [Option.map_some,Option.some.injEq,Prod.mk.injEq] at h
  obtain ⟨rfl,_⟩:=h
  obtain ⟨_,_,_,hnum,_⟩:=zF hp
  obtain ⟨h1,h2,_⟩:=vp hnum
  exact ⟨h1,h2⟩
theorem qiQ {l:List ByteArray} {n:Int} (h:ki l=some n):0<=n/\n<=999999999:=by
 unfold ki at h
 split at h
 ·split at h
  ·injection h with h;omega
  ·cases h
 ·cases hs:skO jN l with
  | none=>rw [hs] at h;cases h
  | some t =>
   rw [hs,Option.bind_some] at h
   split at h
   ·injection h with h;omega
   ·cases hn:kU t with
    | none=>rw [hn] at h;cases h
    | some x =>
     obtain ⟨m,r⟩:=x
     rw [hn,Option.bind_some] at h
     simp only at h
     cases hu:skO jG r with
     | none=>rw [hu] at h;cases h
     | some u =>
      rw [hu,Option.bind_some] at h
      split at h
      ·rename_i hc
       injection h with h
       have:=qi5 hn
       omega
      ·cases h
theorem qdi : ∀ (f:Nat) (l:List ByteArray) (acc m:List Chg) (n:Int),(∀ c∈acc,vj c=0)->yR f l acc=some (m,n)->(∀ c∈m,vj c=0)/\0<=n/\n<=999999999
 | 0,l,acc,m,n,_,h=>by cases h
 | f+1,l,acc,m,n,ha,h=>by
  rw [yR] at h
  split at h
  ·cases he:ki l with
   | none=>rw [he] at h;cases h
   | some k =>
    rw [he] at h
    simp only [Option.map_some,Option.some.injEq,Prod.mk.injEq] at h
    obtain ⟨rfl,rfl⟩:=h
    exact ⟨ha,qiQ he⟩
  ·cases hc:qaL l with
   | none=>rw [hc] at h;cases h
   | some x =>
    obtain ⟨c,r⟩:=x
    rw [hc,Option.bind_some] at h
    simp only at h
    split at h
    ·rename_i h0
     exact qdi f r (acc++[c]) m n (fun x hx=>by
      rcases List.mem_append.1 hx with h' | h'
      ·exact ha x h'
      ·rw [List.mem_singleton] at h'
       exact h' ▸ h0) h
    ·cases h
theorem qbv {l:List ByteArray} {m:List Chg} {n:Int} (h:jm l=some (m,n)):(∀ c∈m,vj c=0)/\0<=n/\n<=999999999:=qdi _ _ _ _ _ (fun c hc=>by cases hc) h
end Go.Proofs.YticbpkghcglgkaaGreatDoor
namespace Go.Proofs.YticbpkghcglgkaaGreatDoor
open Go.Proofs.Tryz Go.RowKit
def glW (g:Gl):Nat:=if g.wide=true then 2 else 1
def zS (c:Chg):Bool :=
 if c.kind=1 then decide (c.count=0/\c.til=0/\c.glyphs=[])
 else if c.kind=2 then decide (c.col=0/\c.glyphs=[])
 else if c.kind=3 then decide (c.til=0)
 else decide (c.til=0/\c.glyphs=[])
def zh (v:Vw) (c:Chg):Bool :=
 if c.kind=1 then decide (1<=c.row/\c.row<=60/\1<=c.col/\c.col<=132)
 else if c.kind=2 then decide (0<=c.row/\c.row<c.til/\c.til<=v.height/\c.count≠0/\c.count<c.til-c.row/\c.row-c.til<c.count)
 else if c.kind=3 then decide (0<=c.row/\c.row<=v.height-1/\0<=c.col/\c.col<=264/\0<=c.count/\(c.count=0∨c.col+c.count<=((v.rows.getD c.row.toNat []).length:Int)))
 else decide (0<=c.row/\c.row<=v.height-1/\0<=c.col/\c.col<=v.width-1/\0<=c.count/\c.count<=1)
def qan (v:Vw) (c:Chg):Int:=if c.kind<1∨4<c.kind then 9 else if zS c=false then 1 else if zh v c=false then 2 else yK c.glyphs
def qaT:Int->List Gl->Nat
 | _,[]=>0
 | w,g::t=>if w<(glW g:Int) then 0 else qaT (w-glW g) t+1
def kr (w:Int) (l:List Gl):List Gl:=zI (l.take (qaT w l))
def zV (l:List Gl) (col count:Nat) (gs:List Gl):List Gl:=l.take col++List.replicate (col-l.length) spG++gs++l.drop (col+count)
def kP (rows:List (List Gl)) (top til by_:Int) (i:Nat):List Gl :=
 if top<=(i:Int)/\(i:Int)<til then (if top<=(i:Int)+by_/\(i:Int)+by_<til then rows.getD ((i:Int)+by_).toNat [] else []) else rows.getD i []
def jY (v:Vw) (c:Chg):Vw :=
 if c.kind=1 then ⟨c.col,c.row,(List.range c.row.toNat).map fun i=>kr c.col (v.rows.getD i []),min v.row (c.row-1),min v.col (c.col-1),v.vis⟩
 else if c.kind=2 then ⟨v.width,v.height,(List.range v.rows.length).map (kP v.rows c.row c.til c.count),v.row,v.col,v.vis⟩
 else if c.kind=3 then ⟨v.width,v.height,v.rows.set c.row.toNat (zI (zV (v.rows.getD c.row.toNat []) c.col.toNat c.count.toNat c.glyphs)),v.row,v.col,v.vis⟩
 else ⟨v.width,v.height,v.rows,c.row,c.col,decide (c.count=1)⟩
def goV:Vw->List Chg->Vw × Int
 | v,[]=>if qcz v=true then (v,0) else (vw0,12)
 | v,c::t=>if qan v c≠0 then (vw0,qan v c) else goV (jY v c) t
def yx (v:Vw) (l:List Chg):Vw × Int:=if js v≠0 then (vw0,1) else goV v l
def yT (m:Md) (l:List ByteArray):Md × Int :=
 if vu m=false then (md0,1) else match jm l with
 | none=>(md0,17)
 | some (cs,n)=>if (yx m.view cs).2≠0 then (md0,(yx m.view cs).2) else if MaxT<m.upd+n then (md0,5) else (⟨(yx m.view cs).1,m.upd+n⟩,0)
theorem qcw {l:List Gl} {k:Nat} (h:k<l.length):kw (l.take (k+1))=kw (l.take k)+l[k].wide.toNat:=by
 unfold kw
 rw [List.take_succ_eq_append_getElem h,List.filter_append,List.length_append]
 cases h:l[k].wide <;> simp [h]
theorem qh4 (l:List Gl):kw l<=l.length:=List.length_filter_le _ _
theorem qcf (l:List Gl) (k:Nat):kw (l.take k)<=l.length:=Nat.le_trans (qh4 _) (by rw [List.length_take];omega)
theorem qjX {l:List Gl} {k:Nat} (hk:k<l.length):zI (l.take (k+1))=if l[k]=spG then zI (l.take k) else l.take (k+1):=by
 rw [List.take_succ_eq_append_getElem hk,qbc]
theorem trim_id : ∀ (n:Nat) (l:List Gl),l.length=n->zI (zI l)=zI l:=by
 intro n
 induction n with
 | zero=>intro l h;obtain rfl:=List.length_eq_zero_iff.1 h;rfl
 | succ n ih =>
  intro l h
  rcases qdE l with rfl | ⟨m,g,rfl⟩
  ·cases h
  ·rw [qbc]
   rw [List.length_append,List.length_singleton] at h
   split
   ·exact ih m (by omega)
   ·next hg=>rw [qbc,if_neg hg]
theorem qeK (l:List Gl):zI (zI l)=zI l:=trim_id _ l rfl
theorem qfV {l:List Gl} {g:Gl} (h:g∈zI l):g∈l:=by
 unfold zI at h
 rw [List.mem_reverse] at h
 exact List.mem_reverse.1 ((List.dropWhile_sublist _).mem h)
theorem spG_ok:qJ spG=0:=by decide +kernel
theorem qhy : ∀ (w:Int) (l:List Gl),qaT w l<=l.length
 | _,[]=>Nat.le_refl _
 | w,g::t=>by
  unfold qaT
  split
  ·omega
  ·have:=qhy (w-glW g) t
   rw [List.length_cons];omega
theorem qbY {r:List (List Gl)} {i:Nat} {g:Gl} (h:g∈r.getD i []) : ∃ l∈r,g∈l:=by
 rw [List.getD_eq_getElem?_getD] at h
 cases hx:r[i]? with
 | none=>rw [hx] at h;cases h
 | some l=>rw [hx] at h;exact ⟨l,List.mem_of_getElem? hx,h⟩
theorem qjs {r:List (List Gl)} (h:TrimR r) (i:Nat):zI (r.getD i [])=r.getD i []:=by
 rw [List.getD_eq_getElem?_getD]
 cases hx:r[i]? with
 | none=>rfl
 | some l=>exact h l (List.mem_of_getElem? hx)
theorem OnV.of {v:Vw} (h:js v=0):OnV v:=by
 obtain ⟨a,b,c,d⟩:=qbh.1 h
 exact ⟨a,b,c,fun l hl=>qb9.1 (d l hl).1,fun l hl=>(d l hl).2.2⟩
theorem qey {v:Vw} {c:Chg} (h:qan v c=0):(1<=c.kind/\c.kind<=4)/\zS c=true/\zh v c=true/\yK c.glyphs=0:=by
 unfold qan at h
 split at h
 ·cases h
 ·next h1 =>
  split at h
  ·cases h
  ·next h2 =>
   split at h
   ·cases h
   ·next h3=>exact ⟨by omega,by simpa using h2,by simpa using h3,h⟩
theorem OnV.step {v:Vw} {c:Chg} (h:OnV v) (hc:qan v c=0):OnV (jY v c):=by
 obtain ⟨hk,hb,hr,hg⟩:=qey hc
 unfold jY
 unfold zh at hr
 have hs:=jW.1 h.size
 have hcur:=h.cur
 by_cases h1:c.kind=1
 ·rw [if_pos h1,decide_eq_true_iff] at hr
  rw [if_pos h1]
  refine ⟨jW.2 (by simp only;omega),by simp only [List.length_map,List.length_range];omega,by simp only;omega,?_,?_⟩
  ·intro l hl g hg
   simp only [List.mem_map] at hl
   obtain ⟨i,_,rfl⟩:=hl
   obtain ⟨m,hm,hgm⟩:=qbY (List.mem_of_mem_take (qfV hg))
   exact h.gls m hm g hgm
  ·intro l hl
   simp only [List.mem_map] at hl
   obtain ⟨i,_,rfl⟩:=hl
   exact qeK _
 ·rw [if_neg h1] at hr ⊢
  by_cases h2:c.kind=2
  ·rw [if_pos h2]
   have hroll : ∀ i,(∀ g∈kP v.rows c.row c.til c.count i,qJ g=0)/\zI (kP v.rows c.row c.til c.count i)=kP v.rows c.row c.til c.count i:=fun i=>by
    have key : ∀ j,(∀ g∈v.rows.getD j [],qJ g=0)/\zI (v.rows.getD j [])=v.rows.getD j []:=fun j =>
     ⟨fun g hg=>by obtain ⟨m,hm,hgm⟩:=qbY hg;exact h.gls m hm g hgm,qjs h.trim j⟩
    unfold kP
    split
    ·split
     ·exact key _
     ·exact ⟨fun g hg=>(by cases hg),rfl⟩
    ·exact key _
   refine ⟨h.size,by simp only [List.length_map,List.length_range];exact h.rows,h.cur,?_,?_⟩
   ·intro l hl
    simp only [List.mem_map] at hl
    obtain ⟨i,_,rfl⟩:=hl
    exact (hroll i).1
   ·intro l hl
    simp only [List.mem_map] at hl
    obtain ⟨i,_,rfl⟩:=hl
    exact (hroll i).2
  ·rw [if_neg h2] at hr ⊢
   by_cases h3:c.kind=3
   ·rw [if_pos h3]
    refine ⟨h.size,by simp only [List.length_set];exact h.rows,h.cur,?_,?_⟩
    ·intro l hl g hgl
     rcases List.mem_or_eq_of_mem_set hl with hl | rfl
     ·exact h.gls l hl g hgl
     ·have:=qfV hgl
      unfold zV at this
      simp only [List.mem_append,List.mem_replicate] at this
      rcases this with ((hm | ⟨_,rfl⟩) | hm) | hm
      ·obtain ⟨m,hm,hgm⟩:=qbY (List.mem_of_mem_take hm);exact h.gls m hm g hgm
      ·exact spG_ok
      ·exact qb9.1 hg g hm
      ·obtain ⟨m,hm,hgm⟩:=qbY (List.mem_of_mem_drop hm);exact h.gls m hm g hgm
    ·intro l hl
     rcases List.mem_or_eq_of_mem_set hl with hl | rfl
     ·exact h.trim l hl
     ·exact qeK _
   ·rw [if_neg h3] at hr ⊢
    rw [decide_eq_true_iff] at hr
    exact ⟨h.size,h.rows,by simp only;omega,h.gls,h.trim⟩
theorem qer : ∀ (l:List Chg) (v:Vw),OnV v->(goV v l).2=0->js (goV v l).1=0
 | [],v,h,e=>by
  unfold goV at e ⊢
  split
  ·next hw=>exact h.zero hw
  ·next hw=>rw [if_neg hw] at e;cases e
 | c::t,v,h,e=>by
  unfold goV at e ⊢
  by_cases hc:qan v c=0
  ·rw [if_neg (by simpa using hc)] at e ⊢
   exact qer t _ (h.step hc) e
  ·rw [if_pos hc] at e
   exact absurd e hc
theorem qe3 {v:Vw} {l:List Chg} (e:(yx v l).2=0):js (yx v l).1=0:=by
 unfold yx at e ⊢
 split
 ·next h=>rw [if_pos h] at e;cases e
 ·next h=>rw [if_neg h] at e;exact qer l v (.of (by simpa using h)) e
theorem qcL {m:Md} {l:List ByteArray} (e:(yT m l).2=0):vu (yT m l).1=true:=by
 unfold yT at e ⊢
 by_cases hp:vu m=false
 ·rw [if_pos hp] at e;cases e
 ·rw [if_neg hp] at e ⊢
  cases hc:jm l with
  | none=>rw [hc] at e;cases e
  | some x =>
   obtain ⟨cs,n⟩:=x
   rw [hc] at e
   simp only at e ⊢
   by_cases h1:(yx m.view cs).2=0
   ·rw [if_neg (by simpa using h1)] at e ⊢
    by_cases h2:MaxT<m.upd+n
    ·rw [if_pos h2] at e;cases e
    ·rw [if_neg h2]
     have hp:vu m=true:=by simpa using hp
     unfold vu at hp ⊢
     rw [decide_eq_true_iff] at hp ⊢
     have:=(qbv hc).2
     exact ⟨qe3 h1,by simp only;omega,by simp only;omega⟩
   ·rw [if_pos h1] at e;exact absurd e h1
theorem qiE {rs:List RowM} {k:Nat} (h:k<rs.length):(rls rs)[k]'(by rw [vJ];exact h)=rs[k].l:=by simp [rls]
theorem qa4 {rs:List RowM} {k:Nat} (h:k<rs.length):(rls rs).getD k []=rs[k].l:=by simp [rls,h]
theorem qf6 (rs:List RowM):(zQ rs).all Value.oneCell'=true:=by
 rw [List.all_eq_true]
 intro u hu
 obtain ⟨x,_,rfl⟩:=List.mem_map.1 hu
 rfl
abbrev jH (c:Chg) (A:Option Addr) (cap:Nat):Value:=.agg #[.int .i64 c.kind,.int .i64 c.row,.int .i64 c.col,.int .i64 c.count,.int .i64 c.til,.slice A c.glyphs.length cap]
theorem qjj (a b:List ChgM):kq (a++b)=kq a++kq b:=by simp [kq]
theorem qhb (x:ChgM):(qb5 x).all Value.oneCell'=true:=by simp [qb5,Value.oneCell']
def zo (l:List ChgM):List Chg:=l.map ChgM.c
end Go.Proofs.YticbpkghcglgkaaGreatDoor
namespace Go.Proofs.YticbpkghcglgkaaGreatDoor
open Go.Proofs.Tryz Go.RowKit
set_option maxRecDepth 20000
def qci (l:List ChgM):Bool:=decide (30<l.length) || l.any fun x=>zA x.c.glyphs
theorem qb4 {α:Type} {l:List α} {k:Nat} (p:α->Bool) (h:k<l.length):(l.drop k).any p=(p l[k] || (l.drop (k+1)).any p):=by
 rw [List.drop_eq_getElem_cons h,List.any_cons]
theorem qeP (l:List Gl) (A:Option Addr) (n c B:Nat) (w:World) (hm:n<=maxLen) (rd:Rd w B 3 A n (qi l)) :
  Calls prog 24 #[.slice A n c] w fun e w'=>e = .returned (.bool (zA l))/\w'=w:=by
 have HN:=Lh (jK rd)
 have hmm:n<=9223372036854775807:=by unfold maxLen at hm;omega
 unfold zA
 rw [HN.out]
 clear hm
 by_cases h0:140<n
 ·rw [decide_eq_true h0,Bool.true_or]
  have hi:(140:Int)<(n:Int):=by omega
  go_enter func24,ntmps24
  go_wp2
  go_ret
  exact ⟨rfl,rfl⟩
 ·rw [decide_eq_false h0,Bool.false_or]
  have hi:(n:Int)<=140:=by omega
  have H0:Hid ((l.any fun g=>decide (40<g.text.size))=((l.drop 0).any fun g=>decide (40<g.text.size))):=Lh rfl
  generalize (l.any fun g=>decide (40<g.text.size))=R at *
  clear h0
  go_enter func24,ntmps24
  go_wp2
  go_loop [3] (fun x=>∃ k:Nat,k<=n/\x = .int .i64 k/\Hid (R=((l.drop k).any fun g=>decide (40<g.text.size)))) (fun x=>n-(intOf x).toNat)
  case atStart=>exact ⟨0,Nat.zero_le _,rfl,H0⟩
  case round =>
   obtain ⟨k,hk,rfl,HK⟩:=hrel
   by_cases hlt:k<n
   ·have hkl:k<l.length:=by have:=HN.out;omega
    obtain ⟨b,o,rfl,_,g0,-,-⟩:=jE rd hkl HN.out
    have HD:=Lh (qb4 (fun g:Gl=>decide (40<g.text.size)) hkl)
    generalize l[k]=g at *
    obtain ⟨t,wd,st⟩:=g
    dsimp only at *
    by_cases hz:40<t.size
    ·have HR2:Hid (R=true):=Lh (by rw [HK.out,HD.out,decide_eq_true hz];rfl)
     have hzi:(40:Int)<(t.size:Int):=by omega
     clear HK HD hz
     go_wp2
     go_ret
     exact ⟨by rw [HR2.out];rfl,rfl⟩
    ·have HR2:Hid (R=((l.drop (k+1)).any fun g=>decide (40<g.text.size))):=Lh (by rw [HK.out,HD.out,decide_eq_false hz];rfl)
     have hzi:(t.size:Int)<=40:=by omega
     clear HK HD hz
     go_wp2
     exact ⟨⟨k+1,by omega,by go_num,HR2⟩,by simp [intOf];omega⟩
   ·have HR2:Hid (R=false):=Lh (by rw [HK.out,List.drop_of_length_le (by have:=HN.out;omega)];rfl)
    go_wp2
    go_ret
    exact ⟨by rw [HR2.out];rfl,rfl⟩
theorem great19_ (l:List ChgM) (A:Option Addr) (n c B:Nat) (w:World) (hm:n<=maxLen) (rd:RdC w B A n l) :
  Calls prog 14 #[.slice A n c] w fun e w'=>e = .returned (.bool (qci l))/\w'=w:=by
 have HN:=Lh rd.len
 have hmm:n<=9223372036854775807:=by unfold maxLen at hm;omega
 have HG:Hid (∀ x∈l,Calls prog 24 #[.slice x.A x.c.glyphs.length x.cap] w fun e w'=>e = .returned (.bool (zA x.c.glyphs))/\w'=w):=Lh fun x hx =>
  qeP _ _ _ _ B w (Nat.le_trans (rd.gl x hx).2.1 (rd.gl x hx).2.2) (rd.gl x hx).1
 unfold qci
 rw [HN.out]
 clear hm
 by_cases h0:30<n
 ·rw [decide_eq_true h0,Bool.true_or]
  have hi:(30:Int)<(n:Int):=by omega
  go_enter func14,ntmps14
  go_wp2
  go_ret
  exact ⟨rfl,rfl⟩
 ·rw [decide_eq_false h0,Bool.false_or]
  have hi:(n:Int)<=30:=by omega
  have H0:Hid ((l.any fun x=>zA x.c.glyphs)=((l.drop 0).any fun x=>zA x.c.glyphs)):=Lh rfl
  generalize (l.any fun x=>zA x.c.glyphs)=R at *
  clear h0
  go_enter func14,ntmps14
  go_wp2
  go_loop [3] (fun x=>∃ k:Nat,k<=n/\x = .int .i64 k/\Hid (R=((l.drop k).any fun x=>zA x.c.glyphs))) (fun x=>n-(intOf x).toNat)
  case atStart=>exact ⟨0,Nat.zero_le _,rfl,H0⟩
  case round =>
   obtain ⟨k,hk,rfl,HK⟩:=hrel
   by_cases hlt:k<n
   ·have hkl:k<l.length:=by have:=HN.out;omega
    obtain ⟨b,o,rfl,_,-,-,-,-,-,c5⟩:=rd.at_ hkl
    have HD:=Lh (qb4 (fun x:ChgM=>zA x.c.glyphs) hkl)
    have HGk:=Lh (HG.out _ (List.getElem_mem hkl))
    generalize l[k]=g at *
    obtain ⟨⟨k1,k2,k3,k4,k5,G⟩,Ag,cg⟩:=g
    dsimp only at *
    generalize zA G=gg at *
    cases gg with
    | true =>
     have HR2:Hid (R=true):=Lh (by rw [HK.out,HD.out];rfl)
     clear HK HD HG
     go_wp2_with (go_at_call 24;refine HGk.out.mono ?_;rintro e w1 ⟨rfl,rfl⟩)
     go_ret
     exact ⟨by rw [HR2.out];rfl,rfl⟩
    | false =>
     have HR2:Hid (R=((l.drop (k+1)).any fun x=>zA x.c.glyphs)):=Lh (by rw [HK.out,HD.out];rfl)
     clear HK HD HG
     go_wp2_with (go_at_call 24;refine HGk.out.mono ?_;rintro e w1 ⟨rfl,rfl⟩)
     exact ⟨⟨k+1,by omega,by go_num,HR2⟩,by simp [intOf];omega⟩
   ·have HR2:Hid (R=false):=Lh (by rw [HK.out,List.drop_of_length_le (by have:=HN.out;omega)];rfl)
    go_wp2
    go_ret
    exact ⟨by rw [HR2.out];rfl,rfl⟩
def inB (n a b:Int):Bool:=decide (a<=n)&&decide (n<=b)
theorem qaG (n a b:Int) (w:World):Calls prog 76 #[.int .i64 n,.int .i64 a,.int .i64 b] w fun e w'=>e = .returned (.bool (inB n a b))/\w=w':=by
 unfold inB
 by_cases h1:a<=n
 ·by_cases h2:n<=b
  ·go_enter func76,ntmps76
   go_wp2
   go_ret
   exact ⟨by simp [h1,h2],rfl⟩
  ·go_enter func76,ntmps76
   go_wp2
   go_ret
   exact ⟨by simp [h1,h2],rfl⟩
 ·go_enter func76,ntmps76
  go_wp2
  go_ret
  exact ⟨by rw [decide_eq_false (show ¬ a<=n by omega)];rfl,rfl⟩
theorem in_ (n a b:Int) (w:World):Calls prog 76 #[.int .i64 n,.int .i64 a,.int .i64 b] w (qh (.bool (inB n a b)) w):=(qaG n a b w).mono fun e w' ⟨h1,h2⟩=>⟨h1,h2 ▸ Below.refl _ _⟩
def RnP (s:ByteArray) (w:World) (e:Ending) (w':World):Prop:=Below w.heap.size w w'/\((zB s≠0/\e = .returned (.slice none 0 0))∨(zB s=0/\∃ G c,e = .returned (.slice (some ⟨G,0,none⟩) (qs (qB s)).length c)/\Rd w' w'.heap.size 1 (some ⟨G,0,none⟩) (qs (qB s)).length (chV (qs (qB s)))))
theorem crunes_ (s:ByteArray) (hs:s.size<=1000000000) (w:World) (hu:U8 w):Calls prog 128 #[.string s] w (RnP s w):=by
 have HC:=Lh (qdB s hs w hu)
 by_cases h0:zB s=0
 ·have hv:=(vL.1 h0).1
  have HR:Hid (∀ w,_):=Lh (qbK s hv hs)
  have H0:=Lh h0
  rw [h0] at HC
  clear h0 hv hu
  go_enter func128,ntmps128
  go_upto_region 3 with (go_at_call 103;refine HC.out.mono ?_;rintro e w1 ⟨rfl,hb1⟩)
  obtain ⟨c2,w2,hrun,rd2,hbel2,hcap⟩:=HR.out w1
  go_wp2
  go_ret
  have z:=hbel2.size
  exact ⟨hb1.trans (hbel2.mono hb1.size),.inr ⟨H0.out,_,c2,rfl,rd2⟩⟩
 ·have H0:=Lh h0
  have hne:(zB s != 0)=true:=bne_iff_ne.2 h0
  generalize zB s=K at HC hne
  clear h0 hu
  go_enter func128,ntmps128
  go_wp2_with (go_at_call 103;refine HC.out.mono ?_;rintro e w1 ⟨rfl,hb1⟩)
  go_ret
  exact ⟨hb1,.inl ⟨H0.out,rfl⟩⟩
theorem qip (s:ByteArray) (hs:s.size<=1000000000) (w:World) (hu:U8 w):Calls prog 104 #[.string s] w (qh (.int .i64 (kb s)) w):=by
 have HR:=Lh (crunes_ s hs w hu)
 by_cases h0:zB s=0
 ·obtain ⟨r,t,hc,-⟩:=(vL.1 h0).2
  have H0:=Lh h0
  unfold kb
  rw [if_pos h0,hc,List.headD_cons]
  unfold RnP at HR
  rw [hc] at HR
  have HW:=Lh (qgZ (r:Int))
  generalize zR (r:Int)=W at *
  clear h0 hu hc
  go_enter func104,ntmps104
  go_wp2_with (first
   | (go_at_call 128;refine HR.out.mono ?_;rintro e w1 ⟨hb1,h⟩;obtain ⟨G,c1,rfl,rd1⟩:=(h.resolve_left fun x=>x.1 H0.out).2;have hc0:=qh2 rd1 (by simp);simp only [List.length_cons] at *)
   | (go_at_call 126;refine (HW.out _).mono ?_;rintro e w2 ⟨rfl,hb2⟩))
  go_ret
  exact ⟨rfl,hb1.trans (hb2.mono hb1.size)⟩
 ·have H0:=Lh h0
  unfold kb
  rw [if_neg h0]
  clear h0 hu
  go_enter func104,ntmps104
  go_wp2_with (go_at_call 128;refine HR.out.mono ?_;rintro e w1 ⟨hb1,h⟩;obtain rfl:=(h.resolve_right fun x=>H0.out x.1).2)
  go_ret
  exact ⟨rfl,hb1⟩
def qal (g:Gl):Bool:=decide (qJ g=0)
theorem validu_ (g:Gl) (hs:g.text.size<=1000000000) (w:World) (hu:U8 w):Calls prog 79 #[glV g] w (qh (.bool (qal g)) w):=by
 have HK:Hid (∀ w',U8 w'->_):=Lh (qdB g.text hs)
 have HW:Hid (∀ w',U8 w'->_):=Lh (qip g.text hs)
 have HI:=Lh (in_ g.style 0 3)
 have HU:=Lh hu
 have hq:=qdC g.text
 unfold qal qJ
 obtain ⟨t,wd,st⟩:=g
 dsimp only at *
 clear hu
 by_cases hc:zB t=0
 ·rw [if_neg (by simp [hc])]
  rw [hc] at HK
  clear hc
  generalize kb t=W at *
  by_cases h1:wd=decide (W=2)
  ·have e1:(wd==(W==2))=true:=by
    cases wd <;> by_cases h:W=2 <;> simp_all
   by_cases h2:st<0
   ·rw [if_pos (.inr (.inl h2))]
    have e2:inB st 0 3=false:=by unfold inB;rw [decide_eq_false (by omega)];rfl
    rw [e2] at HI
    clear hq h1
    go_enter func79,ntmps79
    go_upto_region 1 with fail
    refine qa (GlBox w t wd st) (GlBox.new w t wd st _) ?_
    rintro wb hgb
    obtain ⟨d0,d1,d2,hb1,hz1⟩:=id hgb
    have N0 : ∀ x:Near wb.heap.size wb,x.w.cell? ⟨w.heap.size,0,none⟩=some (.string t):=fun x=>(x.h.cell (by show w.heap.size<_;omega)).trans d0
    have N1 : ∀ x:Near wb.heap.size wb,x.w.cell? ⟨w.heap.size,1,none⟩=some (.bool wd):=fun x=>(x.h.cell (by show w.heap.size<_;omega)).trans d1
    have N2 : ∀ x:Near wb.heap.size wb,x.w.cell? ⟨w.heap.size,2,none⟩=some (.int .i64 st):=fun x=>(x.h.cell (by show w.heap.size<_;omega)).trans d2
    have hzz:=Nat.le_refl wb.heap.size
    have HUx:Hid (∀ x:Near wb.heap.size wb,U8 x.w):=Lh fun x=>HU.out.below (hb1.trans (x.h.mono (by omega)))
    clear d0 d1 d2 hgb
    refine qc wb.heap.size (by kernel_rfl) (by kernel_rfl) ?_;(repeat (go_big_quiet_step ((first | (go_at_call 103;exact Calls.near _ hzz (HK.out _ (HUx.out _))) | (go_at_call 104;exact Calls.near _ hzz (HW.out _ (HUx.out _))) | (go_at_call 76;exact Calls.near _ hzz (HI.out _))))));refine wpQuiet_nil ?_;intro _ hw';obtain ⟨x1,hw''⟩:=hw';subst hw''
    go_wp2
    go_ret
    exact ⟨rfl,hb1.trans (x1.h.mono (by omega))⟩
   ·by_cases h3:3<st
    ·rw [if_pos (.inr (.inr (.inl h3)))]
     have e2:inB st 0 3=false:=by unfold inB;rw [decide_eq_false (show ¬ st<=3 by omega),Bool.and_false]
     rw [e2] at HI
     clear hq h1
     go_enter func79,ntmps79
     go_upto_region 1 with fail
     refine qa (GlBox w t wd st) (GlBox.new w t wd st _) ?_
     rintro wb hgb
     obtain ⟨d0,d1,d2,hb1,hz1⟩:=id hgb
     have N0 : ∀ x:Near wb.heap.size wb,x.w.cell? ⟨w.heap.size,0,none⟩=some (.string t):=fun x=>(x.h.cell (by show w.heap.size<_;omega)).trans d0
     have N1 : ∀ x:Near wb.heap.size wb,x.w.cell? ⟨w.heap.size,1,none⟩=some (.bool wd):=fun x=>(x.h.cell (by show w.heap.size<_;omega)).trans d1
     have N2 : ∀ x:Near wb.heap.size wb,x.w.cell? ⟨w.heap.size,2,none⟩=some (.int .i64 st):=fun x=>(x.h.cell (by show w.heap.size<_;omega)).trans d2
     have hzz:=Nat.le_refl wb.heap.size
     have HUx:Hid (∀ x:Near wb.heap.size wb,U8 x.w):=Lh fun x=>HU.out.below (hb1.trans (x.h.mono (by omega)))
     clear d0 d1 d2 hgb
     refine qc wb.heap.size (by kernel_rfl) (by kernel_rfl) ?_;(repeat (go_big_quiet_step ((first | (go_at_call 103;exact Calls.near _ hzz (HK.out _ (HUx.out _))) | (go_at_call 104;exact Calls.near _ hzz (HW.out _ (HUx.out _))) | (go_at_call 76;exact Calls.near _ hzz (HI.out _))))));refine wpQuiet_nil ?_;intro _ hw';obtain ⟨x1,hw''⟩:=hw';subst hw''
     go_wp2
     go_ret
     exact ⟨rfl,hb1.trans (x1.h.mono (by omega))⟩
    ·have e2:inB st 0 3=true:=by unfold inB;rw [decide_eq_true (by omega),decide_eq_true (by omega)];rfl
     rw [e2] at HI
     by_cases h4:st=3
     ·have e4:(st != 3)=false:=by simp [h4]
      by_cases h5:t=⟨#[42]⟩
      ·rw [if_neg (by rw [not_or,not_or,not_or];exact ⟨fun h=>h h1,h2,h3,fun h=>h.2 h5⟩)]
       have e5:(t.toList==[42])=true:=by rw [hq];simp [h5]
       clear hq h1 h5 h4
       go_enter func79,ntmps79
       go_upto_region 1 with fail
       refine qa (GlBox w t wd st) (GlBox.new w t wd st _) ?_
       rintro wb hgb
       obtain ⟨d0,d1,d2,hb1,hz1⟩:=id hgb
       have N0 : ∀ x:Near wb.heap.size wb,x.w.cell? ⟨w.heap.size,0,none⟩=some (.string t):=fun x=>(x.h.cell (by show w.heap.size<_;omega)).trans d0
       have N1 : ∀ x:Near wb.heap.size wb,x.w.cell? ⟨w.heap.size,1,none⟩=some (.bool wd):=fun x=>(x.h.cell (by show w.heap.size<_;omega)).trans d1
       have N2 : ∀ x:Near wb.heap.size wb,x.w.cell? ⟨w.heap.size,2,none⟩=some (.int .i64 st):=fun x=>(x.h.cell (by show w.heap.size<_;omega)).trans d2
       have hzz:=Nat.le_refl wb.heap.size
       have HUx:Hid (∀ x:Near wb.heap.size wb,U8 x.w):=Lh fun x=>HU.out.below (hb1.trans (x.h.mono (by omega)))
       clear d0 d1 d2 hgb
       refine qc wb.heap.size (by kernel_rfl) (by kernel_rfl) ?_;(repeat (go_big_quiet_step ((first | (go_at_call 103;exact Calls.near _ hzz (HK.out _ (HUx.out _))) | (go_at_call 104;exact Calls.near _ hzz (HW.out _ (HUx.out _))) | (go_at_call 76;exact Calls.near _ hzz (HI.out _))))));refine wpQuiet_nil ?_;intro _ hw';obtain ⟨x1,hw''⟩:=hw';subst hw''
       go_wp2
       go_ret
       exact ⟨rfl,hb1.trans (x1.h.mono (by omega))⟩
      ·rw [if_pos (.inr (.inr (.inr ⟨h4,h5⟩)))]
       have e5:(t.toList==[42])=false:=by rw [hq];simp [h5]
       clear hq h1 h5 h4
       go_enter func79,ntmps79
       go_upto_region 1 with fail
       refine qa (GlBox w t wd st) (GlBox.new w t wd st _) ?_
       rintro wb hgb
       obtain ⟨d0,d1,d2,hb1,hz1⟩:=id hgb
       have N0 : ∀ x:Near wb.heap.size wb,x.w.cell? ⟨w.heap.size,0,none⟩=some (.string t):=fun x=>(x.h.cell (by show w.heap.size<_;omega)).trans d0
       have N1 : ∀ x:Near wb.heap.size wb,x.w.cell? ⟨w.heap.size,1,none⟩=some (.bool wd):=fun x=>(x.h.cell (by show w.heap.size<_;omega)).trans d1
       have N2 : ∀ x:Near wb.heap.size wb,x.w.cell? ⟨w.heap.size,2,none⟩=some (.int .i64 st):=fun x=>(x.h.cell (by show w.heap.size<_;omega)).trans d2
       have hzz:=Nat.le_refl wb.heap.size
       have HUx:Hid (∀ x:Near wb.heap.size wb,U8 x.w):=Lh fun x=>HU.out.below (hb1.trans (x.h.mono (by omega)))
       clear d0 d1 d2 hgb
       refine qc wb.heap.size (by kernel_rfl) (by kernel_rfl) ?_;(repeat (go_big_quiet_step ((first | (go_at_call 103;exact Calls.near _ hzz (HK.out _ (HUx.out _))) | (go_at_call 104;exact Calls.near _ hzz (HW.out _ (HUx.out _))) | (go_at_call 76;exact Calls.near _ hzz (HI.out _))))));refine wpQuiet_nil ?_;intro _ hw';obtain ⟨x1,hw''⟩:=hw';subst hw''
       go_wp2
       go_ret
       exact ⟨rfl,hb1.trans (x1.h.mono (by omega))⟩
     ·rw [if_neg (by rw [not_or,not_or,not_or];exact ⟨fun h=>h h1,h2,h3,fun h=>h4 h.1⟩)]
      have e4:(st != 3)=true:=bne_iff_ne.2 h4
      clear hq h1
      go_enter func79,ntmps79
      go_upto_region 1 with fail
      refine qa (GlBox w t wd st) (GlBox.new w t wd st _) ?_
      rintro wb hgb
      obtain ⟨d0,d1,d2,hb1,hz1⟩:=id hgb
      have N0 : ∀ x:Near wb.heap.size wb,x.w.cell? ⟨w.heap.size,0,none⟩=some (.string t):=fun x=>(x.h.cell (by show w.heap.size<_;omega)).trans d0
      have N1 : ∀ x:Near wb.heap.size wb,x.w.cell? ⟨w.heap.size,1,none⟩=some (.bool wd):=fun x=>(x.h.cell (by show w.heap.size<_;omega)).trans d1
      have N2 : ∀ x:Near wb.heap.size wb,x.w.cell? ⟨w.heap.size,2,none⟩=some (.int .i64 st):=fun x=>(x.h.cell (by show w.heap.size<_;omega)).trans d2
      have hzz:=Nat.le_refl wb.heap.size
      have HUx:Hid (∀ x:Near wb.heap.size wb,U8 x.w):=Lh fun x=>HU.out.below (hb1.trans (x.h.mono (by omega)))
      clear d0 d1 d2 hgb
      refine qc wb.heap.size (by kernel_rfl) (by kernel_rfl) ?_;(repeat (go_big_quiet_step ((first | (go_at_call 103;exact Calls.near _ hzz (HK.out _ (HUx.out _))) | (go_at_call 104;exact Calls.near _ hzz (HW.out _ (HUx.out _))) | (go_at_call 76;exact Calls.near _ hzz (HI.out _))))));refine wpQuiet_nil ?_;intro _ hw';obtain ⟨x1,hw''⟩:=hw';subst hw''
      go_wp2
      go_ret
      exact ⟨rfl,hb1.trans (x1.h.mono (by omega))⟩
  ·rw [if_pos (.inl h1)]
   have e2:(wd==(W==2))=false:=by
    cases wd <;> by_cases h:W=2 <;> simp_all
   clear hq h1
   go_enter func79,ntmps79
   go_upto_region 1 with fail
   refine qa (GlBox w t wd st) (GlBox.new w t wd st _) ?_
   rintro wb hgb
   obtain ⟨d0,d1,d2,hb1,hz1⟩:=id hgb
   have N0 : ∀ x:Near wb.heap.size wb,x.w.cell? ⟨w.heap.size,0,none⟩=some (.string t):=fun x=>(x.h.cell (by show w.heap.size<_;omega)).trans d0
   have N1 : ∀ x:Near wb.heap.size wb,x.w.cell? ⟨w.heap.size,1,none⟩=some (.bool wd):=fun x=>(x.h.cell (by show w.heap.size<_;omega)).trans d1
   have N2 : ∀ x:Near wb.heap.size wb,x.w.cell? ⟨w.heap.size,2,none⟩=some (.int .i64 st):=fun x=>(x.h.cell (by show w.heap.size<_;omega)).trans d2
   have hzz:=Nat.le_refl wb.heap.size
   have HUx:Hid (∀ x:Near wb.heap.size wb,U8 x.w):=Lh fun x=>HU.out.below (hb1.trans (x.h.mono (by omega)))
   clear d0 d1 d2 hgb
   refine qc wb.heap.size (by kernel_rfl) (by kernel_rfl) ?_;(repeat (go_big_quiet_step ((first | (go_at_call 103;exact Calls.near _ hzz (HK.out _ (HUx.out _))) | (go_at_call 104;exact Calls.near _ hzz (HW.out _ (HUx.out _))) | (go_at_call 76;exact Calls.near _ hzz (HI.out _))))));refine wpQuiet_nil ?_;intro _ hw';obtain ⟨x1,hw''⟩:=hw';subst hw''
   go_wp2
   go_ret
   exact ⟨rfl,hb1.trans (x1.h.mono (by omega))⟩
 ·rw [if_pos hc]
  generalize zB t=K at *
  have hcb:(K==0)=false:=beq_eq_false_iff_ne.2 hc
  clear hc hq
  go_enter func79,ntmps79
  go_upto_region 1 with fail
  refine qa (GlBox w t wd st) (GlBox.new w t wd st _) ?_
  rintro wb hgb
  obtain ⟨d0,d1,d2,hb1,hz1⟩:=id hgb
  have N0 : ∀ x:Near wb.heap.size wb,x.w.cell? ⟨w.heap.size,0,none⟩=some (.string t):=fun x=>(x.h.cell (by show w.heap.size<_;omega)).trans d0
  have N1 : ∀ x:Near wb.heap.size wb,x.w.cell? ⟨w.heap.size,1,none⟩=some (.bool wd):=fun x=>(x.h.cell (by show w.heap.size<_;omega)).trans d1
  have N2 : ∀ x:Near wb.heap.size wb,x.w.cell? ⟨w.heap.size,2,none⟩=some (.int .i64 st):=fun x=>(x.h.cell (by show w.heap.size<_;omega)).trans d2
  have hzz:=Nat.le_refl wb.heap.size
  have HUx:Hid (∀ x:Near wb.heap.size wb,U8 x.w):=Lh fun x=>HU.out.below (hb1.trans (x.h.mono (by omega)))
  clear d0 d1 d2 hgb
  refine qc wb.heap.size (by kernel_rfl) (by kernel_rfl) ?_;(repeat (go_big_quiet_step ((first | (go_at_call 103;exact Calls.near _ hzz (HK.out _ (HUx.out _))) | (go_at_call 104;exact Calls.near _ hzz (HW.out _ (HUx.out _))) | (go_at_call 76;exact Calls.near _ hzz (HI.out _))))));refine wpQuiet_nil ?_;intro _ hw';obtain ⟨x1,hw''⟩:=hw';subst hw''
  go_wp2
  go_ret
  exact ⟨rfl,hb1.trans (x1.h.mono (by omega))⟩
theorem qjA (g:Gl) (hs:g.text.size<=1000000000) (w:World) (hu:U8 w):Calls prog 78 #[glV g] w (qh (.bool (!qal g)) w):=by
 have HV:Hid (∀ w',U8 w'->_):=Lh (validu_ g hs)
 have HU:=Lh hu
 generalize qal g=V at *
 obtain ⟨t,wd,st⟩:=g
 clear hu
 go_enter func78,ntmps78
 go_upto_region 1 with fail
 refine qa (GlBox w t wd st) (GlBox.new w t wd st _) ?_
 rintro wb hgb
 obtain ⟨d0,d1,d2,hb1,hz1⟩:=hgb
 have hub:=HU.out.below hb1
 go_wp2_with (go_at_call 79;refine (HV.out _ hub).mono ?_;rintro e w1 ⟨rfl,hbel1⟩)
 go_ret
 exact ⟨rfl,hb1.trans (hbel1.mono (by omega))⟩
end Go.Proofs.YticbpkghcglgkaaGreatDoor
namespace Go.Proofs.YticbpkghcglgkaaGreatDoor
open Go.Proofs.Tryz Go.RowKit
set_option maxRecDepth 20000
theorem qeY (l:List Gl) (A:Option Addr) (n c B:Nat) (w:World) (hm:n<=1000000000) (rd:Rd w B 3 A n (qi l)) (hB:B<=w.heap.size):Calls prog 53 #[.slice A n c] w (qh (.int .i64 (vM l:Nat)) w):=by
 have HG:Hid (∀ k (hk:k<l.length) w',Below w.heap.size w w'->∃ b o,A=some ⟨b,o,none⟩/\b<B/\(w'.cell? ⟨b,(o+k * 3),none⟩=some (.string l[k].text)/\w'.cell? ⟨b,(o+k * 3)+1,none⟩=some (.bool l[k].wide)/\w'.cell? ⟨b,(o+k * 3)+2,none⟩=some (.int .i64 l[k].style))):=Lh fun k hk w' hb=>jE (rd.below (hb.mono hB)) hk (jK rd)
 have HN:=Lh (jK rd)
 have HL:Hid (∀ k,kw (l.take k)<=n):=Lh fun k=>by rw [<- HN.out];exact qcf l k
 have HE:Hid (vM l=n+kw (l.take n)):=Lh (by unfold vM;rw [HN.out,List.take_of_length_le (Nat.le_of_eq HN.out)])
 generalize vM l=R at *
 clear rd
 go_enter func53,ntmps53
 go_wp2
 go_loopw [3,10] (fun v x wr=>∃ k:Nat,k<=n/\x = .int .i64 k/\v = .int .i64 ((n+kw (l.take k):Nat):Int)/\Below w.heap.size w wr) (fun _ x _=>n-(intOf x).toNat)
 case atStart=>exact ⟨0,Nat.zero_le _,rfl,rfl,Below.refl _ _⟩
 case round =>
  obtain ⟨k,hk,rfl,rfl,hb⟩:=hrel
  by_cases hlt:k<n
  ·have hkl:k<l.length:=by have:=HN.out;omega
   obtain ⟨b,o,rfl,_,g0,g1,g2⟩:=HG.out k hkl _ hb
   have HT:=Lh (qcw hkl)
   have hW:=HL.out k
   generalize kw (l.take k)=W1 at *
   generalize l[k]=g at *
   obtain ⟨t,wd,st⟩:=g
   dsimp only at *
   cases wd
   ·go_wp2
    exact ⟨⟨k+1,by omega,by go_num,by rw [HT.out];rfl,hb.alloc hb.size _⟩,by simp [intOf];omega⟩
   ·go_wp2
    exact ⟨⟨k+1,by omega,by go_num,by rw [HT.out];simp only [Bool.toNat_true];go_num,hb.alloc hb.size _⟩,by simp [intOf];omega⟩
  ·obtain rfl:k=n:=by omega
   go_wp2
   go_ret
   exact ⟨by rw [HE.out];rfl,hb⟩
theorem qiA (w0 h0:Int) (w:World):Calls prog 69 #[.int .i64 w0,.int .i64 h0] w fun e w'=>e = .returned (.bool (vR w0 h0))/\w=w':=by
 by_cases h1:1<=w0
 ·by_cases h2:w0<=132
  ·by_cases h3:1<=h0
   ·by_cases h4:h0<=60
    ·go_enter func69,ntmps69
     go_wp2
     go_ret
     exact ⟨by unfold vR;rw [decide_eq_true (by omega)];rfl,rfl⟩
    ·go_enter func69,ntmps69
     go_wp2
     go_ret
     exact ⟨by unfold vR;rw [decide_eq_false (by omega)];rfl,rfl⟩
   ·go_enter func69,ntmps69
    go_wp2
    go_ret
    exact ⟨by unfold vR;rw [decide_eq_false (by omega)];rfl,rfl⟩
  ·go_enter func69,ntmps69
   go_wp2
   go_ret
   exact ⟨by unfold vR;rw [decide_eq_false (by omega)];rfl,rfl⟩
 ·go_enter func69,ntmps69
  go_wp2
  go_ret
  exact ⟨by unfold vR;rw [decide_eq_false (by omega)];rfl,rfl⟩
theorem btw_ (n a b:Int) (w:World):Calls prog 83 #[.int .i64 n,.int .i64 a,.int .i64 b] w fun e w'=>e = .returned (.bool (inB n a b))/\w=w':=by
 unfold inB
 by_cases h1:a<=n
 ·by_cases h2:n<=b
  ·go_enter func83,ntmps83
   go_wp2
   go_ret
   exact ⟨by simp [h1,h2],rfl⟩
  ·go_enter func83,ntmps83
   go_wp2
   go_ret
   exact ⟨by simp [h1,h2],rfl⟩
 ·go_enter func83,ntmps83
  go_wp2
  go_ret
  exact ⟨by rw [decide_eq_false (show ¬ a<=n by omega)];rfl,rfl⟩
end Go.Proofs.YticbpkghcglgkaaGreatDoor
namespace Go.Proofs.YticbpkghcglgkaaGreatDoor
open Go.Proofs.Tryz Go.RowKit
set_option maxRecDepth 20000
theorem elt_row:Elt prog 22 56 (.slice none 0 0) 1 24 where
 und:=underlying22
 row:=by
  have h:(prog.info? 56).map (fun i=>(i.zero,i.size,i.bytes))=some (some (.slice none 0 0),1,24):=by kernel_rfl
  obtain ⟨i,hi,a,b,c⟩:=info_parts h
  exact ⟨i,hi,a,b,c⟩
 zs:=rfl
 pos:=by decide
theorem nil_gl (w:World) (a:Option Addr) (n c n' c':Nat):(binOp .eql 56 (.slice a n c) (.slice none n' c')).run prog w = .ok (.bool a.isNone) w:=Lib.run_eql_slice_nil w _ _ a n c n' c' underlying56
theorem nil_rs (w:World) (a:Option Addr) (n c n' c':Nat):(binOp .eql 22 (.slice a n c) (.slice none n' c')).run prog w = .ok (.bool a.isNone) w:=Lib.run_eql_slice_nil w _ _ a n c n' c' underlying22
theorem qc7 (w:World):Calls prog 72 #[] w (qh (.agg #[.string ⟨#[32]⟩,.bool false,.int .i64 0]) w):=by
 go_enter func72,ntmps72
 go_wp2
 exact bodyPost_ret (results_cell_row rfl _ _ w.heap.size 86 _ (0,0) _ rfl (heap_alloc_new w _) underlying86 rfl (by kernel_rfl)) rfl ⟨rfl,(Below.refl _ _).alloc (Nat.le_refl _) _⟩
theorem qcd (l:List Gl) (A:Option Addr) (n c B:Nat) (w:World) (hm:n<=1000000000) (rd:Rd w B 3 A n (qi l)) (hB:B<=w.heap.size):Calls prog 82 #[.slice A n c] w (ql 86 3 id w n (qi l)):=by
 have q22:=nil_gl
 rcases A with _ | a
 ·have hn:n=0:=by
   rcases Nat.eq_zero_or_pos n with h | h
   ·exact h
   ·obtain ⟨_,_,h,_⟩:=rd.2 h
    cases h
  subst hn
  obtain rfl:l=[]:=List.length_eq_zero_iff.1 (jK rd)
  clear rd
  go_enter func82,ntmps82
  go_wp2
  go_ret
  exact ⟨none,0,rfl,zY _ _ _ _,Below.refl _ _⟩
 ·go_enter func82,ntmps82
  go_wp2_with (at_builtin;go_must (refine qg rfl _ _ _ rfl qbz (w.heap.size) _ rfl (qx (xs:=[]) (by rfl) rfl (Nat.le_refl _) (by omega)) _ _ rfl (rd.below ((Below.refl _ _).alloc hB _)) (by first | rfl | exact qcY _) (by omega) (by omega) (by first | (simp;done) | (simp;omega) | omega) ?_);intro A4 c4 w4 hown4 hbel4 hgr4 hat4;have z4:=hbel4.size;(try simp only [World.size_alloc] at z4);(try simp only [Nat.zero_add,List.nil_append] at hown4))
  go_ret
  exact ⟨A4,c4,by first | rfl | (rw [Nat.zero_add];rfl),hown4,((Below.refl _ _).alloc (Nat.le_refl _) _).trans hbel4⟩
theorem clone_rs (l:List RowM) (A:Option Addr) (n c B:Nat) (w:World) (hm:n<=1000000000) (rd:Rd w B 1 A n (zQ l)) (hB:B<=w.heap.size):Calls prog 81 #[.slice A n c] w (ql 56 1 id w n (zQ l)):=by
 have q22:=nil_rs
 rcases A with _ | a
 ·have hn:n=0:=by
   rcases Nat.eq_zero_or_pos n with h | h
   ·exact h
   ·obtain ⟨_,_,h,_⟩:=rd.2 h
    cases h
  subst hn
  obtain rfl:l=[]:=by
   have:=rd.1
   rw [qbg] at this
   exact List.length_eq_zero_iff.1 (by omega)
  clear rd
  go_enter func81,ntmps81
  go_wp2
  go_ret
  exact ⟨none,0,rfl,zY _ _ _ _,Below.refl _ _⟩
 ·go_enter func81,ntmps81
  go_wp2_with (at_builtin;refine qg rfl _ _ _ rfl elt_row (w.heap.size) _ rfl (qx (xs:=[]) (by rfl) rfl (Nat.le_refl _) (by omega)) _ _ rfl (rd.below ((Below.refl _ _).alloc hB _)) (qf6 _) (by omega) (by omega) (by first | (simp;done) | (simp;omega) | omega) ?_;intro A4 c4 w4 hown4 hbel4 hgr4 hat4;simp only [Nat.zero_add,List.nil_append] at hown4)
  go_ret
  exact ⟨A4,c4,by first | rfl | (rw [Nat.zero_add];rfl),hown4,((Below.refl _ _).alloc (Nat.le_refl _) _).trans hbel4⟩
end Go.Proofs.YticbpkghcglgkaaGreatDoor
namespace Go.Proofs.YticbpkghcglgkaaGreatDoor
open Go.Proofs.Tryz Go.RowKit
set_option maxRecDepth 20000
theorem vtrim_ (l:List Gl) (A:Option Addr) (n c B:Nat) (w:World) (hm:n<=1000000000) (hc:n<=c) (hcm:c<=maxLen) (rd:Rd w B 3 A n (qi l)) (hB:B<=w.heap.size):Calls prog 108 #[.slice A n c] w (ql 86 3 id w (zI l).length (qi (zI l))):=by
 have HN:=Lh (jK rd)
 have HG:Hid (∀ k (hk:k<l.length) w',Below w.heap.size w w'->∃ b o,A=some ⟨b,o,none⟩/\b<w.heap.size/\(w'.cell? ⟨b,(o+k * 3),none⟩=some (.string l[k].text)/\w'.cell? ⟨b,(o+k * 3)+1,none⟩=some (.bool l[k].wide)/\w'.cell? ⟨b,(o+k * 3)+2,none⟩=some (.int .i64 l[k].style))):=Lh fun k hk w' hb=>jE ((rd.more hB).below hb) hk (jK rd)
 have HR:Hid (∀ k,k<=n->Rd w w.heap.size 3 A k (qi (l.take k))):=Lh fun k hk=>by
  rw [kM]
  exact (rd.more hB).take hk
 have HT:Hid (∀ k (hk:k<l.length),zI (l.take (k+1))=if l[k]=spG then zI (l.take k) else l.take (k+1)):=Lh fun k hk=>qjX hk
 have H0:Hid (zI l=zI (l.take n)):=Lh (by rw [List.take_of_length_le (Nat.le_of_eq HN.out)])
 clear rd
 have HC:Hid (∀ k,k<=n->∀ w',Below w.heap.size w w'->Calls prog 82 #[.slice A k c] w' fun e w''=>∃ A' c',e = .returned (.slice A' k c')/\w''.ownsRow w.heap.size 86 3 (.slice A' k c') k (qi (l.take k))/\Below w.heap.size w w''):=Lh fun k hk w' hb =>
  (qcd (l.take k) A k c w.heap.size w' (by omega) ((HR.out k hk).below hb) hb.size).mono fun e w'' ⟨A',c',h1,h2,h3⟩=>⟨A',c',h1,qt h2 hb.size,hb.trans (h3.mono hb.size)⟩
 have hcc:(c:Int)<=9223372036854775807:=by unfold maxLen at hcm;omega
 clear hcm
 go_enter func108,ntmps108
 go_wp2
 go_loopw [3] (fun v wr=>∃ k:Nat,k<=n/\v = .int .i64 k/\Below w.heap.size w wr/\Hid (zI l=zI (l.take k))) (fun v _=>(intOf v).toNat)
 case atStart=>exact ⟨n,Nat.le_refl _,rfl,Below.refl _ _,H0⟩
 case round =>
  clear H0
  obtain ⟨k,hk,rfl,hb,HK⟩:=hrel
  have hzz:=Nat.le_refl wr.heap.size
  by_cases h0:k=0
  ·have HL:Hid (zI l=l.take k):=Lh (by rw [HK.out,h0];rfl)
   have hk0:decide (0<k)=false:=decide_eq_false (by omega)
   clear h0 HG HT
   go_wp2
   go_quiet (fail)
   go_wp2_with (go_at_call 82;refine (HC.out k hk _ (qf hb)).mono ?_;rintro e w1 ⟨A1,c1,rfl,o1,b1⟩)
   go_ret
   rw [HL.out,List.length_take,HN.out,Nat.min_eq_left hk]
   exact ⟨A1,c1,rfl,o1,b1⟩
  ·obtain ⟨j,rfl⟩ : ∃ j,k=j+1:=⟨k-1,by omega⟩
   have hjl:j<l.length:=by have:=HN.out;omega
   obtain ⟨b,o,rfl,hbB,g0,g1,g2⟩:=HG.out j hjl _ hb
   have hq:=eq_gl l[j] spG
   have hg:=qa2 l[j] spG .eql
   have N:=qeW ⟨g0,g1,g2⟩ (show b<wr.heap.size from Nat.lt_of_lt_of_le hbB hb.size)
   by_cases he:l[j]=spG
   ·have HL:Hid (zI l=zI (l.take j)):=Lh (by rw [HK.out,HT.out j hjl,if_pos he])
    rw [decide_eq_true he] at hq
    clear he HC HG HT
    unfold glV spG at hq hg
    generalize l[j]=g at *
    obtain ⟨t,wd,st⟩:=g
    dsimp only at *
    clear g0 g1 g2 h0
    go_wp2
    refine qc wr.heap.size (by kernel_rfl) (by kernel_rfl) ?_;(repeat (go_big_quiet_step ((go_at_call 72;exact Calls.near _ hzz (qc7 _)))));refine wpQuiet_nil ?_;intro _ hw';obtain ⟨x1,hw''⟩:=hw';subst hw''
    go_wp2
    exact ⟨⟨j,by omega,by go_num,hb.trans (x1.h.mono hb.size),HL⟩,by simp [intOf]⟩
   ·have HL:Hid (zI l=l.take (j+1)):=Lh (by rw [HK.out,HT.out j hjl,if_neg he])
    rw [decide_eq_false he] at hq
    clear he HG HT
    unfold glV spG at hq hg
    generalize l[j]=g at *
    obtain ⟨t,wd,st⟩:=g
    dsimp only at *
    clear g0 g1 g2 h0
    go_wp2
    refine qc wr.heap.size (by kernel_rfl) (by kernel_rfl) ?_;(repeat (go_big_quiet_step ((go_at_call 72;exact Calls.near _ hzz (qc7 _)))));refine wpQuiet_nil ?_;intro _ hw';obtain ⟨x1,hw''⟩:=hw';subst hw''
    go_wp2_with (go_at_call 82;refine (HC.out (j+1) hk _ (hb.trans (x1.h.mono hb.size))).mono ?_;rintro e w1 ⟨A1,c1,rfl,o1,b1⟩)
    go_ret
    rw [HL.out,List.length_take,HN.out,Nat.min_eq_left hk]
    exact ⟨A1,c1,rfl,o1,b1⟩
end Go.Proofs.YticbpkghcglgkaaGreatDoor
