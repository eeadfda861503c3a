/- Joined: RefP, Ref3, Ref4, Rsg1, Rsg2, Rsg4, Rp1, Rv1, Rv2, Rp2. -/
import Derived.Test.YtggegijlfaipfaaGreatDoorZAJ
set_option linter.unusedVariables false
set_option linter.unusedSimpArgs false
set_option linter.unnecessarySimpa false
set_option maxHeartbeats 8000000
namespace Go.Proofs.YtggegijlfaipfaaGreatDoor
open Go.Proofs.Tryz Go.RowKit
set_option maxRecDepth 20000
def swR (a g:Int) (s:ByteArray):Int × Int :=
 if s=wb 28 then (a,wrap64 (100 * g)) else if s=wb 29 then (wrap64 (a+wrap64 (1000 * g)),0) else if s=wb 30 then (wrap64 (a+wrap64 (1000000 * g)),0) else (a,g)
def zv (s:ByteArray) (g:Int):Nat->Int
 | 0=>g
 | k+1=>if wb k=s then wrap64 (zv s g k+k) else zv s g k
def jw (s:ByteArray) (g:Int):Nat->Int
 | 0=>g
 | k+1=>if wb (20+k)=s then wrap64 (wrap64 (jw s g k+10 * k)+20) else jw s g k
def zX (x:Int × Int) (s:ByteArray):Int × Int:=((swR x.1 x.2 s).1,jw s (zv s (swR x.1 x.2 s).2 20) 8)
def valR (l:List ByteArray):Int :=
 let x:=l.foldl zX (0,0)
 if l.head? = some (wb 31) then wrap64 (wrap64 (-x.1)-x.2) else wrap64 (x.1+x.2)
def qE (l:List ByteArray):Option Int:=if l.length=0∨15<l.length then none else qaA l (valR l)
def vE (l:List ByteArray):Nat->Option (Int × Nat)
 | 0=>none
 | k+1=>match qE (l.take (k+1)) with
  | some n=>some (n,k+1)
  | none=>vE l k
theorem w64 (n:Int) (h1 : -9223372036854775808<=n) (h2:n<=9223372036854775807):wrap64 n=n:=IntWalk.wrap64_in n ⟨h1,h2⟩
theorem j7 (s:ByteArray) (g:Int) : ∀ k,(∀ i,i<k->wb i≠s)->zv s g k=g:=by
 intro k
 induction k with
 | zero=>intro _;rfl
 | succ k ih =>
  intro h;rw [zv,if_neg (h k L0),ih (fun i hi=>h i L0)]
theorem qlL (i:Nat) (g:Int) : ∀ k,k<=20->i<k->zv (wb i) g k=wrap64 (g+i):=by
 intro k
 induction k with
 | zero=>intro _ h;omega
 | succ k ih =>
  intro h1 h2;rw [zv]
  by_cases e:i=k
  ·subst e;rw [if_pos rfl,j7 _ _ _ (fun j hj=>qa1 j i L0 L0 L0)]
  ·rw [if_neg (qa1 k i L0 L0 L0),ih L0 L0]
theorem j9 (s:ByteArray) (g:Int) : ∀ k,(∀ i,i<k->wb (20+i)≠s)->jw s g k=g:=by
 intro k
 induction k with
 | zero=>intro _;rfl
 | succ k ih =>
  intro h;rw [jw,if_neg (h k L0),ih (fun i hi=>h i L0)]
theorem ql6 (i:Nat) (g:Int) : ∀ k,k<=8->i<k->jw (wb (20+i)) g k=wrap64 (wrap64 (g+10 * i)+20):=by
 intro k
 induction k with
 | zero=>intro _ h;omega
 | succ k ih =>
  intro h1 h2;rw [jw]
  by_cases e:i=k
  ·subst e;rw [if_pos rfl,j9 _ _ _ (fun j hj=>qa1 _ _ L0 L0 L0)]
  ·rw [if_neg (qa1 _ _ L0 L0 L0),ih L0 L0]
theorem valK_inv (k:Nat) (s:ByteArray) (v:Int) (h:qbS k s=some v) : ∃ i,i<k/\s=wb i/\v=qbt i:=by
 induction k with
 | zero=>cases h
 | succ k ih =>
  rw [qbS] at h
  split at h
  ·rename_i hs
   injection h with h
   exact ⟨k,by omega,hs,h.symm⟩
  ·obtain ⟨i,a,b,c⟩:=ih h;exact ⟨i,by omega,b,c⟩
theorem qkX (j:Nat) (hj:28<=j) (hj2:j<32) (g:Int):jw (wb j) (zv (wb j) g 20) 8=g:=by
 rw [j9 _ _ _ (fun i hi=>qa1 _ _ L0 L0 L0),j7 _ _ _ (fun i hi=>qa1 _ _ L0 L0 L0)]
theorem ql0 (a p a' p':Int) (s:ByteArray) (h:kp a p s=some (a',p')) (ha0:0<=a) (ha:a<=999999999) (hp0:0<=p) (hp:p<=999999999):zX (a,p) s=(a',p')/\0<=a'/\a'<=999999999/\0<=p'/\p'<=999999999:=by
 unfold kp at h
 cases hsw:swN a p s with
 | none=>rw [hsw] at h;cases h
 | some x =>
  obtain ⟨a1,p1⟩:=x;rw [hsw] at h;simp only at h;have hb:=swN_bd a p s a1 p1 hsw ha0 ha hp0 hp
  split at h
  ·cases h
  rename_i hbig
  simp only [Option.some.injEq,Prod.mk.injEq] at h;obtain ⟨rfl,rfl⟩:=h;refine ⟨?_,hb.1,by omega,hb.2.2.1,by omega⟩;unfold swN at hsw;unfold zX swR;simp only
  split at hsw
  ·rename_i e
   subst e;simp only [Option.some.injEq,Prod.mk.injEq] at hsw;obtain ⟨rfl,rfl⟩:=hsw;rw [if_neg (qa1 _ _ L0 L0 L0),if_neg (qa1 _ _ L0 L0 L0),if_neg (qa1 _ _ L0 L0 L0),qkX 31 L0 L0]
  split at hsw
  ·rename_i e
   subst e;simp only [Option.some.injEq,Prod.mk.injEq] at hsw;obtain ⟨rfl,rfl⟩:=hsw;rw [if_pos rfl,qkX 28 L0 L0];simp only;rw [w64 _ L0 L0,Int.mul_comm]
  split at hsw
  ·rename_i e
   subst e;simp only [Option.some.injEq,Prod.mk.injEq] at hsw;obtain ⟨rfl,rfl⟩:=hsw;rw [if_neg (qa1 _ _ L0 L0 L0),if_pos rfl,qkX 29 L0 L0];simp only;rw [w64 (1000 * p) L0 L0,w64 _ L0 L0]
  split at hsw
  ·rename_i e
   subst e;simp only [Option.some.injEq,Prod.mk.injEq] at hsw;obtain ⟨rfl,rfl⟩:=hsw;rw [if_neg (qa1 _ _ L0 L0 L0),if_neg (qa1 _ _ L0 L0 L0),if_pos rfl,qkX 30 L0 L0];simp only;rw [w64 (1000000 * p) L0 L0,w64 _ L0 L0]
  rename_i n31 n28 n29 n30
  cases hv:qbS 28 s with
  | none=>rw [hv] at hsw;cases hsw
  | some v =>
   rw [hv] at hsw;simp only [Option.some.injEq,Prod.mk.injEq] at hsw;obtain ⟨rfl,rfl⟩:=hsw;obtain ⟨i,hi,rfl,rfl⟩:=valK_inv _ _ _ hv;rw [if_neg n28,if_neg n29,if_neg n30];simp only;have hvb:=qlQ i hi
   by_cases h20:i<20
   ·rw [qlL i p 20 L0 h20,j9 _ _ _ (fun j hj=>qa1 _ _ L0 L0 L0)];unfold qbt;rw [if_neg L0,w64 _ L0 L0]
   ·obtain ⟨j,rfl⟩ : ∃ j,i=20+j:=⟨i-20,by omega⟩
    rw [j7 _ _ _ (fun j hj=>qa1 _ _ L0 L0 L0),ql6 j p 8 L0 L0,w64 (p+10 * j) L0 L0,w64 _ L0 L0];unfold qbt
    split <;> (congr 1;omega)
theorem qlY : ∀ (l:List ByteArray) (a p a' p':Int),vS l a p=some (a',p')->0<=a->a<=999999999->0<=p->p<=999999999->l.foldl zX (a,p)=(a',p')/\0<=a'/\a'<=999999999/\0<=p'/\p'<=999999999:=by
 intro l
 induction l with
 | nil =>
  intro a p a' p' h h1 h2 h3 h4;rw [vS] at h;simp only [Option.some.injEq,Prod.mk.injEq] at h;obtain ⟨rfl,rfl⟩:=h;exact ⟨rfl,h1,h2,h3,h4⟩
 | cons s t ih =>
  intro a p a' p' h h1 h2 h3 h4;rw [vS] at h
  cases hs:kp a p s with
  | none=>rw [hs] at h;cases h
  | some x =>
   obtain ⟨a1,p1⟩:=x;rw [hs] at h;obtain ⟨e,b1,b2,b3,b4⟩:=ql0 a p a1 p1 s hs h1 h2 h3 h4;rw [List.foldl_cons,e];exact ih a1 p1 a' p' h b1 b2 b3 b4
theorem qk9 {l:List ByteArray} {n:Int} (h:zc l=some n):valR l=n:=by
 unfold zc at h
 split at h
 ·cases h
 cases hl:vS l 0 0 with
 | none=>rw [hl] at h;cases h
 | some x =>
  obtain ⟨a,p⟩:=x;rw [hl] at h;simp only at h;obtain ⟨e,b1,b2,b3,b4⟩:=qlY l 0 0 a p hl L0 L0 L0 L0;unfold qaA at h
  split at h
  ·injection h with h
   subst h;unfold valR qbx;rw [e];simp only
   split
   ·rw [w64 (-a) L0 L0,w64 _ L0 L0]
    omega
   ·rw [w64 _ L0 L0]
  ·cases h
theorem v8 (l:List ByteArray):qE l=zc l:=by
 cases hn:zc l with
 | some n =>
  have hv:=qk9 hn;obtain ⟨h1,h2,h3,h4,h5⟩:=vp hn;unfold qE;rw [if_neg L0,hv];unfold qaA;rw [if_pos ⟨h1,h2,h3⟩]
 | none =>
  cases hr:qE l with
  | none=>rfl
  | some n =>
   exfalso
   unfold qE at hr
   split at hr
   ·cases hr
   unfold qaA at hr
   split at hr
   ·rename_i hc
    obtain ⟨h1,h2,h3⟩:=hc;have:=qfg (valR l) h1 h2;rw [h3,hn] at this
    cases this
   ·cases hr
theorem qlM (l:List ByteArray):vE l l.length=prefixL l:=by
 have h1 : ∀ k,vE l k=qaS l k:=by
  intro k
  induction k with
  | zero=>rfl
  | succ k ih =>
   rw [vE,qaS,v8,ih]
   cases zc (l.take (k+1)) <;> rfl
 unfold prefixL;rw [h1]
 rcases Nat.lt_or_ge l.length 16 with h | h
 ·rw [Nat.min_eq_left L0]
 ·rw [Nat.min_eq_right L0];obtain ⟨d,hd⟩ : ∃ d,l.length=15+d:=⟨l.length-15,by omega⟩
  have : ∀ d,15+d<=l.length->qaS l (15+d)=qaS l 15:=by
   intro d
   induction d with
   | zero=>intro _;rfl
   | succ d ih =>
    intro hle;rw [show 15+(d+1)=(15+d)+1 from rfl,qaS,qcq l _ L0 L0];exact ih L0
  rw [hd];exact this d L0
theorem qk3 (l:List ByteArray) (k:Nat) (h:k<l.length) (x:Int × Int):(l.take (k+1)).foldl zX x=zX ((l.take k).foldl zX x) l[k]:=by
 rw [List.take_succ_eq_append_getElem h,List.foldl_append]
 rfl
theorem rvalue (l:List ByteArray) (A:Option Addr) (n c B:Nat) (w:World) (hn:l.length=n) (hl:Rd w B 1 A n (sv l)) (hbig:n<=maxLen) (ht:Tb w) :
  Calls prog 118 #[.slice A n c] w (Quiet (.int .i64 (valR l)) w):=by
 have hb2:n<=9223372036854775807:=by unfold maxLen at hbig;omega
 have Hn:=Lh hn;have HT:=Lh ht;have HV:Hid (∀ a g,l.foldl zX (0,0)=(a,g)->valR l=if l.head? = some (wb 31) then wrap64 (wrap64 (-a)-g) else wrap64 (a+g)):=Lh fun a g h=>by
  unfold valR;rw [h]
 clear hn ht hbig;generalize valR l=R at *
 go_enter func118,ntmps118
 go_wp2
 go_loopw [3,4,5] (fun x y z wr=>∃ (k j:Nat) (a g:Int),k<=n/\z = .int .i64 k/\x = .int .i64 a/\y = .int .i64 g/\wr=w.drewN j/\Hid ((l.take k).foldl zX (0,0)=(a,g))) (fun _ _ z _=>n-(intOf z).toNat)
 case atStart=>exact ⟨0,0,0,0,Nat.zero_le _,rfl,rfl,rfl,rfl,Lh rfl⟩
 case round =>
  obtain ⟨k,j,a,g,hk,rfl,rfl,rfl,rfl,HF⟩:=hrel
  by_cases hlt:k<n
  ·obtain ⟨b,o,rfl,hbB,hc⟩:=hl.at_ hlt;have hkl:k<l.length:=by rw [Hn.out];exact hlt
   rw [yM _ _ hkl] at hc;have HS:Hid ((l.take (k+1)).foldl zX (0,0)=zX (a,g) l[k]):=Lh (by rw [qk3 l k hkl,HF.out]);generalize l[k]=s at *
   have HS2:Hid ((l.take (k+1)).foldl zX (0,0)=((swR a g s).1,jw s (zv s (swR a g s).2 20) 8)):=Lh HS.out;have t28:=qbr s (wb 28) [104,117,110,100,114,101,100] rfl;have t29:=qbr s (wb 29) [116,104,111,117,115,97,110,100] rfl;have t30:=qbr s (wb 30) [109,105,108,108,105,111,110] rfl
   go_upto_block 2 with (fail)
   go_cut [3,4] (fun x y wx=>wx=w.drewN j/\x = .int .i64 (swR a g s).1/\y = .int .i64 (swR a g s).2)
   case first =>
    by_cases c28:s=wb 28
    ·have d28:(s.toList==[104,117,110,100,114,101,100])=true:=by rw [t28];simp [c28]
     have HH:Hid (swR a g s=(a,wrap64 (100 * g))):=Lh (by unfold swR;rw [if_pos c28]);clear t28 t29 t30 c28
     go_wp2_with fail
     go_meet;rw [HH.out];exact ⟨rfl,rfl,rfl⟩
    have d28:(s.toList==[104,117,110,100,114,101,100])=false:=by rw [t28];simp [c28]
    by_cases c29:s=wb 29
    ·have d29:(s.toList==[116,104,111,117,115,97,110,100])=true:=by rw [t29];simp [c29]
     have HH:Hid (swR a g s=(wrap64 (a+wrap64 (1000 * g)),0)):=Lh (by unfold swR;rw [if_neg c28,if_pos c29]);clear t28 t29 t30 c28 c29
     go_wp2_with fail
     go_meet;rw [HH.out];exact ⟨rfl,rfl,rfl⟩
    have d29:(s.toList==[116,104,111,117,115,97,110,100])=false:=by rw [t29];simp [c29]
    by_cases c30:s=wb 30
    ·have d30:(s.toList==[109,105,108,108,105,111,110])=true:=by rw [t30];simp [c30]
     have HH:Hid (swR a g s=(wrap64 (a+wrap64 (1000000 * g)),0)):=Lh (by unfold swR;rw [if_neg c28,if_neg c29,if_pos c30]);clear t28 t29 t30 c28 c29 c30
     go_wp2_with fail
     go_meet;rw [HH.out];exact ⟨rfl,rfl,rfl⟩
    have d30:(s.toList==[109,105,108,108,105,111,110])=false:=by rw [t30];simp [c30]
    have HH:Hid (swR a g s=(a,g)):=Lh (by unfold swR;rw [if_neg c28,if_neg c29,if_neg c30]);clear t28 t29 t30 c28 c29 c30
    go_wp2_with fail
    go_meet;rw [HH.out];exact ⟨rfl,rfl,rfl⟩
   case rest =>
    obtain ⟨rfl,rfl,rfl⟩:=hcut;clear t28 t29 t30 HS;generalize (swR a g s).1=a1 at *
    generalize (swR a g s).2=g1 at *
    go_wp2_with fail
    go_loopw [4,6] (fun y z wr=>∃ (i j:Nat) (g:Int),i<=20/\z = .int .i64 i/\y = .int .i64 g/\wr=w.drewN j/\Hid (g=zv s g1 i)) (fun _ z _=>20-(intOf z).toNat)
    case atStart=>exact ⟨0,j,g1,by omega,rfl,rfl,rfl,Lh rfl⟩
    case round =>
     obtain ⟨i,j1,g2,hi,rfl,rfl,rfl,HG⟩:=hrel
     by_cases hi20:i<20
     ·have hcu:=HT.out.1 i hi20;have HU:Hid (zv s g1 (i+1)=if wb i=s then wrap64 (g2+i) else g2):=Lh (by rw [zv,HG.out]);have HB:=Lh (jO (wb i) s);generalize wb i=u at *
      go_wp2
      go_quiet (fail)
      go_wp2
      ·rename_i he
       rw [HB.out,decide_eq_true_eq] at he;exact ⟨⟨i+1,_,_,by omega,by go_num,rfl,rfl,Lh (by rw [HU.out,if_pos he])⟩,by simp [intOf];omega⟩
      ·rename_i he
       rw [HB.out,decide_eq_false_iff_not] at he;exact ⟨⟨i+1,_,_,by omega,by go_num,rfl,rfl,Lh (by rw [HU.out,if_neg he])⟩,by simp [intOf];omega⟩
     ·obtain rfl:i=20:=by omega
      go_wp2_with fail
      go_loopw [4,7] (fun y z wr=>∃ (i j:Nat) (g:Int),i<=8/\z = .int .i64 i/\y = .int .i64 g/\wr=w.drewN j/\Hid (g=jw s g2 i)) (fun _ z _=>8-(intOf z).toNat)
      case atStart=>exact ⟨0,j1,g2,by omega,rfl,rfl,rfl,Lh rfl⟩
      case round =>
       obtain ⟨i,j2,g3,hi,rfl,rfl,rfl,HG3⟩:=hrel
       by_cases hi8:i<8
       ·have hcu:=HT.out.2 i hi8;have HU:Hid (jw s g2 (i+1)=if wb (20+i)=s then wrap64 (wrap64 (g3+10 * i)+20) else g3):=Lh (by rw [jw,HG3.out]);have HB:=Lh (jO (wb (20+i)) s);generalize wb (20+i)=u at *
        go_wp2
        go_quiet (fail)
        go_wp2
        ·rename_i he
         rw [HB.out,decide_eq_true_eq] at he;exact ⟨⟨i+1,_,_,by omega,by go_num,rfl,rfl,Lh (by rw [HU.out,if_pos he])⟩,by simp [intOf];omega⟩
        ·rename_i he
         rw [HB.out,decide_eq_false_iff_not] at he;exact ⟨⟨i+1,_,_,by omega,by go_num,rfl,rfl,Lh (by rw [HU.out,if_neg he])⟩,by simp [intOf];omega⟩
       ·obtain rfl:i=8:=by omega
        have HX:Hid ((l.take (k+1)).foldl zX (0,0)=(a1,g3)):=Lh (by rw [HS2.out,HG3.out,HG.out])
        go_wp2_with fail
        exact ⟨⟨k+1,_,_,_,by omega,by go_num,rfl,rfl,rfl,HX⟩,by simp [intOf];omega⟩
  ·obtain rfl:k=n:=by omega
   have HF2:Hid (l.foldl zX (0,0)=(a,g)):=Lh (by have:=HF.out;rwa [List.take_of_length_le (by rw [Hn.out];exact Ld _)] at this);have HR:=Lh (HV.out a g HF2.out)
   by_cases h0:0<k
   ·obtain ⟨b,o,rfl,hbB,hc⟩:=hl.at_ h0;have hkl:0<l.length:=by rw [Hn.out];exact h0
    rw [yM _ _ hkl,Nat.add_zero] at hc;have hh:l.head? = some l[0]:=by
     cases l with
     | nil=>simp at hkl
     | cons x t=>rfl
    have t31:=qbr l[0] (wb 31) [109,105,110,117,115] rfl
    by_cases c31:l[0]=wb 31
    ·have d31:(l[0].toList==[109,105,110,117,115])=true:=by rw [t31];simp [c31]
     have HR2:Hid (R=wrap64 (wrap64 (-a)-g)):=Lh (by rw [HR.out,if_pos (by rw [hh,c31])]);clear t31 hh c31;generalize l[0]=s at *
     go_wp2_with fail
     go_ret;exact ⟨by rw [HR2.out];rfl,j,rfl⟩
    ·have d31:(l[0].toList==[109,105,110,117,115])=false:=by rw [t31];simp [c31]
     have HR2:Hid (R=wrap64 (a+g)):=Lh (by rw [HR.out,if_neg (by rw [hh];simpa using c31)]);clear t31 hh c31;generalize l[0]=s at *
     go_wp2_with fail
     go_ret;exact ⟨by rw [HR2.out];rfl,j,rfl⟩
   ·have hnil:l=[]:=List.eq_nil_of_length_eq_zero (by rw [Hn.out];omega);have HR2:Hid (R=wrap64 (a+g)):=Lh (by rw [HR.out,if_neg (by rw [hnil];simp)]);clear hnil
    go_wp2_with fail
    go_ret;exact ⟨by rw [HR2.out];rfl,j,rfl⟩
theorem qk8 (l:List ByteArray) (A:Option Addr) (c:Nat) (w:World) (h:l.length=0∨15<l.length) :
  Calls prog 105 #[.slice A l.length c] w (qh (kE (qE l)) w):=by
 have hN:qE l=none:=by unfold qE;rw [if_pos h]
 rw [hN]
 by_cases h0:l.length=0
 ·have e0:((l.length:Int)==0)=true:=by simp [h0]
  clear h h0
  go_enter func105,ntmps105
  go_wp2;go_ret2;exact ⟨rfl,Le _ _⟩
 ·have e0:((l.length:Int)==0)=false:=Lm.2 L0;have e1:15<l.length:=by omega
  clear h h0
  go_enter func105,ntmps105
  go_wp2;go_ret2;exact ⟨rfl,Le _ _⟩
theorem qlh (l:List ByteArray) (A:Option Addr) (n c:Nat) (w:World) (hn:l.length=n) (hl:Rd w w.heap.size 1 A n (sv l)) (h0:0<n) (h1:n<=15) (ht:Tb w) :
  Calls prog 105 #[.slice A n c] w (qh (kE (qE l)) w):=by
 have e0:((n:Int)==0)=false:=Lm.2 L0;have Hn:=Lh hn;have HT:=Lh ht;have HN:Hid (qE l=qaA l (valR l)):=Lh (by unfold qE;rw [if_neg L0]);have HV:=Lh (rvalue l A n c w.heap.size w hn hl (by unfold maxLen;omega) ht);clear hn ht;generalize qE l=R at *
 generalize valR l=v at *
 by_cases hin : -999999999<=v/\v<=999999999
 ·obtain ⟨i1,i2⟩:=hin;have hle:=ke v
  by_cases heq:(qm v).map wb=l
  ·have HR2:Hid (R=some v):=Lh (by rw [HN.out];unfold qaA;rw [if_pos ⟨i1,i2,heq⟩]);have HE:=Lh heq;clear heq
   go_enter func105,ntmps105
   go_wp2_with (first
    | (go_at_call 118;refine HV.out.mono ?_;rintro e w1 ⟨rfl,n1,rfl⟩)
    | (go_at_call 119;refine (qbl v i1 i2 _ (HT.out.drewN _)).mono ?_;rintro e w2 ⟨A2,c2,rfl,qny,qmw⟩)
    | (go_at_call 120;refine (same_t ((qm v).map wb) (l) (HE.out) _ _ _ _ _ _ _ _ _ (by first | rfl | assumption | exact Hn.out | (simp;done) | (simp;omega)) (by first | rfl | assumption | exact Hn.out | (simp;done) | (simp;omega)) (by rw [<- wv_sv];exact Rd.of_own qny) ((Rd.below (w:=w.drewN _) hl qmw)) (by first | omega | (simp only [Lp,List.length_nil];omega)) (by first | omega | (simp only [Lp,List.length_nil];omega))).mono ?_;rintro e w3 ⟨rfl,n3,rfl⟩))
   go_ret2;rw [HR2.out];exact ⟨rfl,qf (zE qmw)⟩
  ·have HR2:Hid (R=none):=Lh (by rw [HN.out];unfold qaA;rw [if_neg (fun h=>heq h.2.2)]);have HE:=Lh heq;clear heq
   go_enter func105,ntmps105
   go_wp2_with (first
    | (go_at_call 118;refine HV.out.mono ?_;rintro e w1 ⟨rfl,n1,rfl⟩)
    | (go_at_call 119;refine (qbl v i1 i2 _ (HT.out.drewN _)).mono ?_;rintro e w2 ⟨A2,c2,rfl,qny,qmw⟩)
    | (go_at_call 120;refine (same_f ((qm v).map wb) (l) (HE.out) _ _ _ _ _ _ _ _ _ (by first | rfl | assumption | exact Hn.out | (simp;done) | (simp;omega)) (by first | rfl | assumption | exact Hn.out | (simp;done) | (simp;omega)) (by rw [<- wv_sv];exact Rd.of_own qny) ((Rd.below (w:=w.drewN _) hl qmw)) (by first | omega | (simp only [Lp,List.length_nil];omega)) (by first | omega | (simp only [Lp,List.length_nil];omega))).mono ?_;rintro e w3 ⟨rfl,n3,rfl⟩))
   go_ret2;rw [HR2.out];exact ⟨rfl,qf (zE qmw)⟩
 ·have HR2:Hid (R=none):=Lh (by rw [HN.out];unfold qaA;rw [if_neg (fun h=>hin ⟨h.1,h.2.1⟩)])
  go_enter func105,ntmps105
  go_wp2_with (first
   | (go_at_call 118;refine HV.out.mono ?_;rintro e w1 ⟨rfl,n1,rfl⟩)
   | (go_at_call 119;refine (qlg v L0 _).mono ?_;rintro e w2 ⟨rfl,qmw⟩))
  go_ret2;rw [HR2.out];exact ⟨rfl,zE qmw⟩
theorem qlN (l:List ByteArray) (A:Option Addr) (n c:Nat) (w:World) (hn:l.length=n) (hl:Rd w w.heap.size 1 A n (sv l)) (ht:Tb w) :
  Calls prog 105 #[.slice A n c] w (qh (kE (zc l)) w):=by
 rw [<- v8]
 by_cases h:n=0∨15<n
 ·subst hn;exact qk8 l A c w h
 ·exact qlh l A n c w hn hl L0 L0 ht
theorem j8 (l:List ByteArray) (A:Option Addr) (n c:Nat) (w:World) (hn:l.length=n) (hc:n<=c) (hbig:c<=maxLen) (hl:Rd w w.heap.size 1 A n (sv l)) (ht:Tb w) :
  Calls prog 86 #[.slice A n c] w (qh (ve (prefixL l)) w):=by
 have hcm:c<=9223372036854775807:=by unfold maxLen at hbig;omega
 have HN:=Lh hn;have HT:=Lh ht
 have HP:Hid (prefixL l=qaS l n):=Lh (by
  rw [<- qlM,hn];have h1 : ∀ k,vE l k=qaS l k:=by
   intro k
   induction k with
   | zero=>rfl
   | succ k ih =>
    rw [vE,qaS,v8,ih]
    cases zc (l.take (k+1)) <;> rfl
  exact h1 n)
 clear hn ht hbig;generalize prefixL l=R at *
 go_enter func86,ntmps86
 go_wp2
 go_loopw [5] (fun i wr=>∃ k:Nat,k<=n/\i = .int .i64 k/\Below w.heap.size w wr/\Hid (R=qaS l k)) (fun i _=>(intOf i).toNat)
 case atStart=>exact ⟨n,Ld _,rfl,Le _ _,HP⟩
 case round =>
  obtain ⟨k,hk,rfl,qnw,HL⟩:=hrel
  by_cases hlt:0<k
  ·obtain ⟨b,o,rfl,hbB,_⟩:=hl.at_ (show k-1<n by omega);have hT:Rd wr wr.heap.size 1 (some ⟨b,o,none⟩) k (sv (l.take k)):=by
    have:=((hl.below qnw).more qnw.size).take hk
    rwa [Nat.mul_one,<- qmq] at this
   have qnQ:(l.take k).length=k:=by rw [Lu,HN.out];omega
   have HC:=Lh (qlN (l.take k) (some ⟨b,o,none⟩) k c wr qnQ hT (HT.out.below qnw));clear qnQ hT hl
   cases hr:zc (l.take k) with
   | none =>
    rw [hr] at HC
    have HR2:Hid (R=qaS l (k-1)):=Lh (by
     rw [HL.out];obtain ⟨j,rfl⟩ : ∃ j,k=j+1:=⟨k-1,by omega⟩
     rw [qaS,hr]
     rfl)
    clear hr;simp only [kE] at HC
    go_wp2_with (go_at_call 105;refine HC.out.mono ?_;rintro e w1 ⟨rfl,qmv⟩)
    exact ⟨⟨k-1,by omega,by go_num,qnw.trans (qmv.mono qnw.size),HR2⟩,by simp [intOf];omega⟩
   | some v =>
    rw [hr] at HC
    have HR2:Hid (R=some (v,k)):=Lh (by
     rw [HL.out];obtain ⟨j,rfl⟩ : ∃ j,k=j+1:=⟨k-1,by omega⟩
     rw [qaS,hr])
    clear hr;simp only [kE] at HC
    go_wp2_with (go_at_call 105;refine HC.out.mono ?_;rintro e w1 ⟨rfl,qmv⟩)
    go_ret3;rw [HR2.out];exact ⟨rfl,qnw.trans (qmv.mono qnw.size)⟩
  ·obtain rfl:k=0:=by omega
   go_wp2;go_ret3;rw [HL.out];exact ⟨rfl,qnw⟩
def isS (r:Int):Bool:=(jM r).isSome
theorem isS_tab : ∀ x:Fin 127,isS (x.val:Int)=(decide (33<=x.val)&&!(decide (48<=x.val)&&decide (x.val<=57))&&!(decide (65<=x.val)&&decide (x.val<=90))&&!(decide (97<=x.val)&&decide (x.val<=122))):=by decide +kernel
theorem isS_eq (r:Int):isS r=(decide (33<=r)&&decide (r<=126)&&!(decide (48<=r)&&decide (r<=57))&&!(decide (65<=r)&&decide (r<=90))&&!(decide (97<=r)&&decide (r<=122))):=by
 by_cases h:0<=r/\r<=126
 ·obtain ⟨h1,h2⟩:=h;obtain ⟨n,rfl⟩:=Int.eq_ofNat_of_zero_le h1;have:=isS_tab ⟨n,by omega⟩;simp only at this;rw [this,Bool.eq_iff_iff]
  simp
  omega
 ·have h1:isS r=false:=by
   unfold isS
   cases hs:jM r with
   | none=>rfl
   | some i =>
    obtain ⟨_,_,a,b⟩:=jz hs;exact absurd ⟨by omega,b⟩ h
  rw [h1,Bool.eq_iff_iff]
  simp
  omega
theorem rsign (r:Int) (w:World):Calls prog 171 #[.int .i32 r] w (qh (.bool (isS r)) w):=by
 have HI:=Lh (isS_eq r);generalize isS r=R at *
 rcases Int.lt_or_le r 33 with h1 | h1
 ·obtain rfl:R=false:=by rw [HI.out,Bool.eq_false_iff];simp;omega
  go_enter func171,ntmps171
  go_wp2;go_ret;exact ⟨rfl,Le _ _⟩
 rcases Int.lt_or_le 126 r with h2 | h2
 ·obtain rfl:R=false:=by rw [HI.out,Bool.eq_false_iff];simp;omega
  go_enter func171,ntmps171
  go_wp2;go_ret;exact ⟨rfl,Le _ _⟩
 rcases Int.lt_or_le r 48 with h3 | h3
 ·obtain rfl:R=true:=by rw [HI.out];simp;omega
  go_enter func171,ntmps171
  go_wp2;go_ret;exact ⟨rfl,Le _ _⟩
 rcases Int.lt_or_le r 58 with h3 | h3
 ·obtain rfl:R=false:=by rw [HI.out,Bool.eq_false_iff];simp;omega
  go_enter func171,ntmps171
  go_wp2;go_ret;exact ⟨rfl,Le _ _⟩
 rcases Int.lt_or_le r 65 with h3 | h3
 ·obtain rfl:R=true:=by rw [HI.out];simp;omega
  have e57 : ¬ r<=57:=by omega
  go_enter func171,ntmps171
  go_wp2;go_ret;exact ⟨rfl,Le _ _⟩
 rcases Int.lt_or_le r 91 with h3 | h3
 ·obtain rfl:R=false:=by rw [HI.out,Bool.eq_false_iff];simp;omega
  have e57 : ¬ r<=57:=by omega
  go_enter func171,ntmps171
  go_wp2;go_ret;exact ⟨rfl,Le _ _⟩
 rcases Int.lt_or_le r 97 with h3 | h3
 ·obtain rfl:R=true:=by rw [HI.out];simp;omega
  have e57 : ¬ r<=57:=by omega
  have e90 : ¬ r<=90:=by omega
  go_enter func171,ntmps171
  go_wp2;go_ret;exact ⟨rfl,Le _ _⟩
 rcases Int.lt_or_le r 123 with h3 | h3
 ·obtain rfl:R=false:=by rw [HI.out,Bool.eq_false_iff];simp;omega
  have e57 : ¬ r<=57:=by omega
  have e90 : ¬ r<=90:=by omega
  have g122:r<=122:=by omega
  go_enter func171,ntmps171
  go_wp2;go_ret;exact ⟨rfl,Le _ _⟩
 obtain rfl:R=true:=by rw [HI.out];simp;omega
 have e57 : ¬ r<=57:=by omega
 have e90 : ¬ r<=90:=by omega
 have e122 : ¬ r<=122:=by omega
 go_enter func171,ntmps171
 go_wp2;go_ret;exact ⟨rfl,Le _ _⟩
theorem qhd (r:Int) (w:World):Calls prog 170 #[.int .i32 r] w (qh (.bool (zC r)) w):=by
 have HI:Hid (zC r=((decide (0<=r)&&decide (r<=55295)) || (decide (57344<=r)&&decide (r<=1114111)))):=Lh rfl;generalize zC r=R at *
 rcases Int.lt_or_le r 0 with h1 | h1
 ·obtain rfl:R=false:=by rw [HI.out,Bool.eq_false_iff];simp;omega
  go_enter func170,ntmps170
  go_wp2;go_ret;exact ⟨rfl,Le _ _⟩
 rcases Int.lt_or_le 1114111 r with h2 | h2
 ·obtain rfl:R=false:=by rw [HI.out,Bool.eq_false_iff];simp;omega
  go_enter func170,ntmps170
  go_wp2;go_ret;exact ⟨rfl,Le _ _⟩
 rcases Int.lt_or_le r 55296 with h3 | h3
 ·obtain rfl:R=true:=by rw [HI.out];simp;omega
  go_enter func170,ntmps170
  go_wp2;go_ret;exact ⟨rfl,Le _ _⟩
 rcases Int.lt_or_le 57343 r with h4 | h4
 ·obtain rfl:R=true:=by rw [HI.out];simp;omega
  go_enter func170,ntmps170
  go_wp2;go_ret;exact ⟨rfl,Le _ _⟩
 ·obtain rfl:R=false:=by rw [HI.out,Bool.eq_false_iff];simp;omega
  have e1 : ¬ r<55296:=by omega
  have e2 : ¬ 57343<r:=by omega
  go_enter func170,ntmps170
  go_wp2;go_ret;exact ⟨rfl,Le _ _⟩
theorem rnames (w:World):Calls prog 168 #[] w (ql 9 1 id w 32 nmL):=by
 go_enter func168,ntmps168
 go_wp2;go_ret;exact ⟨_,_,rfl,qx (xs:=nmL) rfl rfl (Ld _) L0,L5⟩
def cntS (x:Nat):Nat:=((List.range 32).filter fun i=>decide (yq i<x)).length
theorem cntS_33:cntS 33=0:=by decide +kernel
theorem qkk : ∀ x:Fin 127,cntS (x.val+1)=cntS x.val+(if isS (x.val:Int) then 1 else 0):=by decide +kernel
theorem qi7 : ∀ i:Fin 32,cntS (yq i.val)=i.val:=by decide +kernel
theorem cntS_le : ∀ x:Fin 127,cntS x.val<=32:=by decide +kernel
def qhZ (r:Int):ByteArray:=match jM r with
 | some i=>nb i
 | none=>⟨#[]⟩
theorem rname (r:Int) (w:World):Calls prog 183 #[.int .i32 r] w (qh (.string (qhZ r)) w):=by
 have HSI:Hid (∀ x w,Calls prog 171 #[.int .i32 x] w (qh (.bool (isS x)) w)):=Lh rsign;unfold qhZ
 cases hi:jM r with
 | none =>
  have H0:Hid (∀ w,Calls prog 171 #[.int .i32 r] w (qh (.bool false) w)):=Lh fun w=>by
   have:=rsign r w;unfold isS at this
   rwa [hi] at this
  clear hi
  go_enter func183,ntmps183
  go_wp2_with (go_at_call 171;refine (H0.out _).mono ?_;rintro e w1 ⟨rfl,qmv⟩)
  go_ret;exact ⟨rfl,qmv⟩
 | some i =>
  obtain ⟨qnV,rfl,hr1,hr2⟩:=jz hi;have H0:Hid (∀ w,Calls prog 171 #[.int .i32 (yq i:Nat)] w (qh (.bool true) w)):=Lh fun w=>by
   have:=rsign (yq i:Int) w;unfold isS at this
   rwa [hi] at this
  have HC:=Lh (qi7 ⟨i,qnV⟩);simp only at HC;clear hi;simp only;generalize yq i=r at *
  go_enter func183,ntmps183
  go_wp2_with (go_at_call 171;refine (H0.out _).mono ?_;rintro e w1 ⟨rfl,qmv⟩)
  have hr127:r<127:=by omega
  have HST:Hid (∀ n,n<127->cntS (n+1)=cntS n+(if isS (n:Int) then 1 else 0)):=Lh fun n h=>qkk ⟨n,h⟩
  have HLE:Hid (∀ n,n<127->cntS n<=32):=Lh fun n h=>cntS_le ⟨n,h⟩
  have H33:=Lh cntS_33;have hnb:Hid (nmL[i]? = some (.string (nb i))):=Lh (by simp [nmL,qnV]);generalize cntS=cnt at *
  obtain ⟨wa,rfl⟩ : ∃ x:World,x=w1:=⟨_,rfl⟩
  go_loopw [3,4] (fun k x wr=>∃ n:Nat,33<=n/\n<=r/\k = .int .i64 (cnt n:Nat)/\x = .int .i32 (n:Int)/\Below wa.heap.size wa wr) (fun _ x _=>r-(intOf x).toNat)
  case atStart=>exact ⟨33,by omega,by omega,by rw [H33.out];rfl,rfl,Le _ _⟩
  case round =>
   obtain ⟨n,hn1,hn2,rfl,rfl,qnw⟩:=hrel
   by_cases hlt:n<r
   ·have hst:=Lh (HST.out n L0);have hle:=HLE.out n L0;have HX:=Lh (HSI.out (n:Int));generalize isS (n:Int)=X at *
    cases X with
    | true =>
     have hst2:Hid (cnt (n+1)=cnt n+1):=Lh (by rw [hst.out];rfl)
     go_wp2_with (go_at_call 171;refine (HX.out _).mono ?_;rintro e w2 ⟨rfl,qmw⟩)
     exact ⟨⟨n+1,by omega,by omega,by rw [hst2.out];go_num,by go_num,qnw.trans (qmw.mono qnw.size)⟩,by simp [intOf];omega⟩
    | false =>
     have hst2:Hid (cnt (n+1)=cnt n):=Lh (by rw [hst.out];rfl)
     go_wp2_with (go_at_call 171;refine (HX.out _).mono ?_;rintro e w2 ⟨rfl,qmw⟩)
     exact ⟨⟨n+1,by omega,by omega,by rw [hst2.out],by go_num,qnw.trans (qmw.mono qnw.size)⟩,by simp [intOf];omega⟩
   ·obtain rfl:n=r:=by omega
    rw [HC.out]
    go_wp2_with (go_at_call 168;refine (rnames _).mono ?_;rintro e w2 ⟨A2,c2,rfl,qny,qmw⟩;obtain ⟨b2,o2,rfl,_,hc2⟩:=(Rd.of_own qny).at_ qnV;rw [hnb.out] at hc2)
    go_ret;exact ⟨rfl,qmv.trans ((qnw.trans (qmw.mono qnw.size)).mono qmv.size)⟩
def qli (s:ByteArray):Int:=match qdK s with
 | some i=>yq i
 | none=>0
theorem rname_ne {n:Int} {i:Nat} (hi:i<32) (hn:n≠(yq i:Int)):qhZ n≠nb i:=by
 unfold qhZ;intro h
 cases hs:jM n with
 | none =>
  rw [hs] at h;have : ∀ i:Fin 32,nb i.val≠⟨#[]⟩:=by decide +kernel
  exact this ⟨i,hi⟩ h.symm
 | some j =>
  rw [hs] at h;obtain ⟨h1,h2,_⟩:=jz hs
  by_cases hj:j=i
  ·subst hj;exact hn h2
  ·exact nb_ne j i h1 hi hj h
theorem qlI {i:Nat} (hi:i<32):qhZ (yq i:Int)=nb i:=by
 have : ∀ i:Fin 32,qhZ (yq i.val:Int)=nb i.val:=by decide +kernel
 exact this ⟨i,hi⟩
theorem rname_no {n:Int} {s:ByteArray} (h0:s≠⟨#[]⟩) (h:qdK s=none):qhZ n≠s:=by
 unfold qhZ;intro e
 cases hs:jM n with
 | none=>rw [hs] at e;exact h0 e.symm
 | some j=>rw [hs] at e;exact qiZ h j (jz hs).1 e
theorem qlu {i:Nat} (h:i<32):33<=yq i/\yq i<=126:=by
 have : ∀ i:Fin 32,33<=yq i.val/\yq i.val<=126:=by decide +kernel
 exact this ⟨i,h⟩
theorem rSign (s:ByteArray) (w:World):Calls prog 169 #[.string s] w (qh (.int .i32 (qli s)) w):=by
 have HN:Hid (∀ x w,Calls prog 183 #[.int .i32 x] w (qh (.string (qhZ x)) w)):=Lh rname;unfold qli;have tc:=qbr s ⟨#[]⟩ [] rfl
 cases hi:qdK s with
 | some i =>
  obtain ⟨qnV,rfl⟩:=qez hi;simp only;have hne:nb i≠⟨#[]⟩:=by
   have : ∀ i:Fin 32,nb i.val≠⟨#[]⟩:=by decide +kernel
   exact this ⟨i,qnV⟩
  have dc:((nb i).toList==([]:List UInt8))=false:=by rw [tc];simp [hne]
  have HQ:Hid (∀ n:Int,((qhZ n).toList==(nb i).toList)=decide (n=(yq i:Int))):=Lh fun n=>by
   rw [jO]
   by_cases h:n=(yq i:Int)
   ·rw [h,qlI qnV];simp
   ·rw [Lk (rname_ne qnV h),Lk h]
  obtain ⟨hb1,hb2⟩:=qlu qnV;clear tc hne hi;generalize yq i=m at *
  generalize nb i=s at *
  go_enter func169,ntmps169
  go_wp2;obtain ⟨wa,rfl⟩ : ∃ x:World,x=w:=⟨_,rfl⟩
  go_loopw [3] (fun x wr=>∃ n:Nat,33<=n/\n<=m/\x = .int .i32 (n:Int)/\Below wa.heap.size wa wr) (fun x _=>127-(intOf x).toNat)
  case atStart=>exact ⟨33,by omega,by omega,rfl,Le _ _⟩
  case round =>
   obtain ⟨n,hn1,hn2,rfl,qnw⟩:=hrel;have hq:=HQ.out (n:Int);have HX:=Lh (HN.out (n:Int));generalize qhZ (n:Int)=X at *
   by_cases hlt:n<m
   ·have hq':(X.toList==s.toList)=false:=by rw [hq];exact Lk L0
    clear hq;have h127:(n:Int)<127:=by omega
    go_wp2_with (go_at_call 183;refine (HX.out _).mono ?_;rintro e w2 ⟨rfl,qmw⟩)
    exact ⟨⟨n+1,by omega,by omega,by go_num,qnw.trans (qmw.mono qnw.size)⟩,by simp [intOf];omega⟩
   ·obtain rfl:n=m:=by omega
    have hq':(X.toList==s.toList)=true:=by rw [hq];exact Ll rfl
    clear hq;have h127:(n:Int)<127:=by omega
    go_wp2_with (go_at_call 183;refine (HX.out _).mono ?_;rintro e w2 ⟨rfl,qmw⟩)
    go_ret;exact ⟨rfl,qnw.trans (qmw.mono qnw.size)⟩
 | none =>
  simp only
  by_cases h0:s=⟨#[]⟩
  ·have dc:(s.toList==([]:List UInt8))=true:=by rw [tc];simp [h0]
   clear tc h0 hi
   go_enter func169,ntmps169
   go_wp2;obtain ⟨wa,rfl⟩ : ∃ x:World,x=w:=⟨_,rfl⟩
   go_loopw [3] (fun x wr=>∃ n:Nat,33<=n/\n<=127/\x = .int .i32 (n:Int)/\Below wa.heap.size wa wr) (fun x _=>127-(intOf x).toNat)
   case atStart=>exact ⟨33,by omega,by omega,rfl,Le _ _⟩
   case round =>
    obtain ⟨n,hn1,hn2,rfl,qnw⟩:=hrel
    by_cases hlt:n<127
    ·have h127:(n:Int)<127:=by omega
     go_wp2;exact ⟨⟨n+1,by omega,by omega,by go_num,qnw⟩,by simp [intOf];omega⟩
    ·obtain rfl:n=127:=by omega
     go_wp2;go_ret;exact ⟨rfl,qnw⟩
  ·have dc:(s.toList==([]:List UInt8))=false:=by rw [tc];simp [h0]
   have HQ:Hid (∀ n:Int,((qhZ n).toList==s.toList)=false):=Lh fun n=>by
    rw [jO];exact Lk (rname_no h0 hi)
   clear tc h0 hi
   go_enter func169,ntmps169
   go_wp2;obtain ⟨wa,rfl⟩ : ∃ x:World,x=w:=⟨_,rfl⟩
   go_loopw [3] (fun x wr=>∃ n:Nat,33<=n/\n<=127/\x = .int .i32 (n:Int)/\Below wa.heap.size wa wr) (fun x _=>127-(intOf x).toNat)
   case atStart=>exact ⟨33,by omega,by omega,rfl,Le _ _⟩
   case round =>
    obtain ⟨n,hn1,hn2,rfl,qnw⟩:=hrel
    by_cases hlt:n<127
    ·have h127:(n:Int)<127:=by omega
     have hq:=HQ.out (n:Int);have HX:=Lh (HN.out (n:Int));generalize qhZ (n:Int)=X at *
     go_wp2_with (go_at_call 183;refine (HX.out _).mono ?_;rintro e w2 ⟨rfl,qmw⟩)
     exact ⟨⟨n+1,by omega,by omega,by go_num,qnw.trans (qmw.mono qnw.size)⟩,by simp [intOf];omega⟩
    ·obtain rfl:n=127:=by omega
     go_wp2;go_ret;exact ⟨rfl,qnw⟩
theorem qlm (A:Option Addr) (c:Nat) (w:World):Calls prog 153 #[.slice A 0 c] w (qh (qmc none) w):=by
 go_enter func153,ntmps153
 go_wp2;go_ret3;exact ⟨rfl,Le _ _⟩
theorem qk7 (s:ByteArray) (t:List ByteArray) (b o n c:Nat) (w:World) (hn:t.length+1=n) (hc:n<=c) (hm:c<=maxLen) (rd:Rd w w.heap.size 1 (some ⟨b,o,none⟩) n (sv (s::t))) (ht:Tb w) :
  Calls prog 153 #[.slice (some ⟨b,o,none⟩) n c] w (qh (qmc (zM (s::t))) w):=by
 have e0:((n:Int)==0)=false:=Lm.2 L0;have hn1:1<=n:=by omega
 have qnM:w.cell? ⟨b,o,none⟩=some (.string s):=by
  obtain ⟨b',o',e,_,h⟩:=rd.at_ (show 0<n by omega)
  cases e
  simpa [sv] using h
 have HT:=Lh ht;have HC:Hid (∀ w,Calls prog 169 #[.string s] w (qh (.int .i32 (qli s)) w)):=Lh fun w=>rSign s w
 unfold qli at HC
 cases hi:qdK s with
 | some i =>
  obtain ⟨qnV,rfl⟩:=qez hi;have HR:Hid (zM (nb i::t)=some ((yq i:Int),1)):=Lh (by rw [zM,hi]);rw [hi] at HC;simp only at HC;have hpos:(yq i:Int) > 0:=by have:=qlu qnV;omega
  rw [HR.out];clear hi ht rd hn hm;generalize (yq i:Int)=v at *
  generalize nb i=s at *
  go_enter func153,ntmps153
  go_wp2_with (go_at_call 169;refine (HC.out _).mono ?_;rintro e w1 ⟨rfl,qmv⟩)
  go_ret3;exact ⟨rfl,qmv⟩
 | none =>
  rw [hi] at HC;simp only at HC;have tc:=qbr s cB [99,104,97,114,97,99,116,101,114] rfl;have hcm:c<=9223372036854775807:=by unfold maxLen at hm;omega
  have HTl:=Lh (qmu hn hc rd);have HP:Hid (∀ w1 A',Below w.heap.size w w1->Rd w w.heap.size 1 A' (n-1) (sv t)->Calls prog 86 #[.slice A' (n-1) (c-1)] w1 (qh (ve (prefixL t)) w1)):=Lh fun w1 A' hb h =>
   j8 t A' (n-1) (c-1) w1 L0 L0 (Lj (Nat.sub_le _ _) hm) ((h.below hb).more hb.size) (HT.out.below hb)
  have Htn:=Lh hn;have HRR:Hid (zM (s::t)=if s=cB then qda (prefixL t) else none):=Lh (by rw [zM,hi]);clear hi ht rd hn hm
  by_cases c1:c=1
  ·obtain rfl:n=1:=by omega
   obtain rfl:t=[]:=List.length_eq_zero_iff.1 (by have:=Htn.out;omega);have HT1:Hid (Rd w w.heap.size 1 (some ⟨b,o,none⟩) 0 (sv [])):=Lh (by have:=HTl.out;rwa [if_pos c1] at this);subst c1;have hp0:prefixL []=none:=rfl;have HR:Hid (zM [s]=none):=Lh (by rw [HRR.out,hp0];split <;> rfl);rw [hp0] at HP;rw [HR.out];clear HTl HRR HR hp0;simp only [Nat.sub_self,ve] at HP
   by_cases hcb:s=cB
   ·have dc:(s.toList==[99,104,97,114,97,99,116,101,114])=true:=by rw [tc];simp [hcb]
    clear tc hcb
    go_enter func153,ntmps153
    go_wp2_with (first
     | (go_at_call 169;refine (HC.out _).mono ?_;rintro e w1 ⟨rfl,qmv⟩;have qnN:=qbk qnM qmv)
     | (go_at_call 86;refine (HP.out _ _ qmv HT1.out).mono ?_;rintro e w2 ⟨rfl,qmw⟩;have t2:=qmv.trans (qmw.mono qmv.size);have qnO:=qbk qnM t2))
    go_ret3;exact ⟨rfl,t2⟩
   ·have dc:(s.toList==[99,104,97,114,97,99,116,101,114])=false:=by rw [tc];simp [hcb]
    clear tc hcb
    go_enter func153,ntmps153
    go_wp2_with (first
     | (go_at_call 169;refine (HC.out _).mono ?_;rintro e w1 ⟨rfl,qmv⟩;have qnN:=qbk qnM qmv)
     | (go_at_call 86;refine (HP.out _ _ qmv HT1.out).mono ?_;rintro e w2 ⟨rfl,qmw⟩;have t2:=qmv.trans (qmw.mono qmv.size);have qnO:=qbk qnM t2))
    go_ret3;exact ⟨rfl,t2⟩
  ·have HT1:Hid (Rd w w.heap.size 1 (some ⟨b,o+1,none⟩) (n-1) (sv t)):=Lh (by have:=HTl.out;rwa [if_neg c1] at this);clear HTl
   by_cases hcb:s=cB
   ·have dc:(s.toList==[99,104,97,114,97,99,116,101,114])=true:=by rw [tc];simp [hcb]
    have HR:Hid (zM (s::t)=qda (prefixL t)):=Lh (by rw [HRR.out];exact if_pos hcb);clear tc hcb HRR
    cases hp:prefixL t with
    | none =>
     rw [hp] at HP;have HR2:Hid (zM (s::t)=none):=Lh (by rw [HR.out,hp];rfl);rw [HR2.out];clear hp;simp only [ve] at HP
     go_enter func153,ntmps153
     go_wp2_with (first
      | (go_at_call 169;refine (HC.out _).mono ?_;rintro e w1 ⟨rfl,qmv⟩;have qnN:=qbk qnM qmv)
      | (go_at_call 86;refine (HP.out _ _ qmv HT1.out).mono ?_;rintro e w2 ⟨rfl,qmw⟩;have t2:=qmv.trans (qmw.mono qmv.size);have qnO:=qbk qnM t2))
     go_ret3;exact ⟨rfl,t2⟩
    | some x =>
     obtain ⟨v,k⟩:=x;rw [hp] at HP;obtain ⟨k1,k2,k3,k4,k5⟩:=zF hp;obtain ⟨v1,v2,_⟩:=vp k4;have hk16:k<=15:=k3;simp only [ve] at HP;have Hpv:Hid (prefixL t=some (v,k)):=Lh hp;clear hp k4 k5 k2 k3
     by_cases hv0:v<0
     ·have HR2:Hid (zM (s::t)=none):=Lh (by rw [HR.out,Hpv.out];exact qco (by have:zC v=false:=(qed v).2 (by unfold ks;omega);simp [this]));rw [HR2.out]
      go_enter func153,ntmps153
      go_wp2_with (first
       | (go_at_call 169;refine (HC.out _).mono ?_;rintro e w1 ⟨rfl,qmv⟩;have qnN:=qbk qnM qmv)
       | (go_at_call 86;refine (HP.out _ _ qmv HT1.out).mono ?_;rintro e w2 ⟨rfl,qmw⟩;have t2:=qmv.trans (qmw.mono qmv.size);have qnO:=qbk qnM t2))
      go_ret3;exact ⟨rfl,t2⟩
     by_cases hv1:v > 1114111
     ·have HR2:Hid (zM (s::t)=none):=Lh (by rw [HR.out,Hpv.out];exact qco (by have:zC v=false:=(qed v).2 (by unfold ks;omega);simp [this]));rw [HR2.out]
      go_enter func153,ntmps153
      go_wp2_with (first
       | (go_at_call 169;refine (HC.out _).mono ?_;rintro e w1 ⟨rfl,qmv⟩;have qnN:=qbk qnM qmv)
       | (go_at_call 86;refine (HP.out _ _ qmv HT1.out).mono ?_;rintro e w2 ⟨rfl,qmw⟩;have t2:=qmv.trans (qmw.mono qmv.size);have qnO:=qbk qnM t2))
      go_ret3;exact ⟨rfl,t2⟩
     have Hw:IntKind.i32.wrap v=v:=IntWalk.i32_in _ L0;have HCH:Hid (∀ w,Calls prog 170 #[.int .i32 v] w (qh (.bool (zC v)) w)):=Lh fun w=>qhd v w
     have HSG:Hid (∀ w,Calls prog 171 #[.int .i32 v] w (qh (.bool (isS v)) w)):=Lh fun w=>rsign v w
     cases hch:zC v with
     | false =>
      have HR2:Hid (zM (s::t)=none):=Lh (by rw [HR.out,Hpv.out];exact qco (by simp [hch]));rw [hch] at HCH;rw [HR2.out];clear hch
      go_enter func153,ntmps153
      go_wp2_with (first
       | (go_at_call 169;refine (HC.out _).mono ?_;rintro e w1 ⟨rfl,qmv⟩;have qnN:=qbk qnM qmv)
       | (go_at_call 86;refine (HP.out _ _ qmv HT1.out).mono ?_;rintro e w2 ⟨rfl,qmw⟩;have t2:=qmv.trans (qmw.mono qmv.size);have qnO:=qbk qnM t2)
       | (go_at_call 170;refine (HCH.out _).mono ?_;rintro e w3 ⟨rfl,qmx⟩;have t3:=t2.trans (qmx.mono t2.size)))
      go_ret3;exact ⟨rfl,t3⟩
     | true =>
      rw [hch] at HCH;unfold isS at HSG
      cases hi:jM v with
      | some i =>
       have HR2:Hid (zM (s::t)=none):=Lh (by rw [HR.out,Hpv.out];exact qco (by simp [hi]));rw [hi] at HSG;simp only [Option.isSome] at HSG;rw [HR2.out];clear hch hi
       go_enter func153,ntmps153
       go_wp2_with (first
        | (go_at_call 169;refine (HC.out _).mono ?_;rintro e w1 ⟨rfl,qmv⟩;have qnN:=qbk qnM qmv)
        | (go_at_call 86;refine (HP.out _ _ qmv HT1.out).mono ?_;rintro e w2 ⟨rfl,qmw⟩;have t2:=qmv.trans (qmw.mono qmv.size);have qnO:=qbk qnM t2)
        | (go_at_call 170;refine (HCH.out _).mono ?_;rintro e w3 ⟨rfl,qmx⟩;have t3:=t2.trans (qmx.mono t2.size))
        | (go_at_call 171;refine (HSG.out _).mono ?_;rintro e w4 ⟨rfl,qmy⟩;have t4:=t3.trans (qmy.mono t3.size)))
       go_ret3;exact ⟨rfl,t4⟩
      | none =>
       have HR2:Hid (zM (s::t)=some (v,1+k)):=Lh (by rw [HR.out,Hpv.out];exact qcu ⟨hch,hi⟩);rw [hi] at HSG;simp only [Option.isSome] at HSG;rw [HR2.out];clear hch hi
       go_enter func153,ntmps153
       go_wp2_with (first
        | (go_at_call 169;refine (HC.out _).mono ?_;rintro e w1 ⟨rfl,qmv⟩;have qnN:=qbk qnM qmv)
        | (go_at_call 86;refine (HP.out _ _ qmv HT1.out).mono ?_;rintro e w2 ⟨rfl,qmw⟩;have t2:=qmv.trans (qmw.mono qmv.size);have qnO:=qbk qnM t2)
        | (go_at_call 170;refine (HCH.out _).mono ?_;rintro e w3 ⟨rfl,qmx⟩;have t3:=t2.trans (qmx.mono t2.size))
        | (go_at_call 171;refine (HSG.out _).mono ?_;rintro e w4 ⟨rfl,qmy⟩;have t4:=t3.trans (qmy.mono t3.size)))
       go_ret3;exact ⟨by simp [qmc],t4⟩
   ·have dc:(s.toList==[99,104,97,114,97,99,116,101,114])=false:=by rw [tc];simp [hcb]
    have HR:Hid (zM (s::t)=none):=Lh (by rw [HRR.out];exact if_neg hcb);rw [HR.out];clear tc hcb HRR HR
    cases hp:prefixL t with
    | none =>
     rw [hp] at HP;clear hp;simp only [ve] at HP
     go_enter func153,ntmps153
     go_wp2_with (first
      | (go_at_call 169;refine (HC.out _).mono ?_;rintro e w1 ⟨rfl,qmv⟩;have qnN:=qbk qnM qmv)
      | (go_at_call 86;refine (HP.out _ _ qmv HT1.out).mono ?_;rintro e w2 ⟨rfl,qmw⟩;have t2:=qmv.trans (qmw.mono qmv.size);have qnO:=qbk qnM t2))
     go_ret3;exact ⟨rfl,t2⟩
    | some x =>
     obtain ⟨v,k⟩:=x;rw [hp] at HP;clear hp;simp only [ve] at HP
     go_enter func153,ntmps153
     go_wp2_with (first
      | (go_at_call 169;refine (HC.out _).mono ?_;rintro e w1 ⟨rfl,qmv⟩;have qnN:=qbk qnM qmv)
      | (go_at_call 86;refine (HP.out _ _ qmv HT1.out).mono ?_;rintro e w2 ⟨rfl,qmw⟩;have t2:=qmv.trans (qmw.mono qmv.size);have qnO:=qbk qnM t2))
     go_ret3;exact ⟨rfl,t2⟩
theorem rlower (s:ByteArray) (hs:s.size<=1000000000) (w:World):Calls prog 151 #[.string s] w (qh (.bool (azB s)) w):=by
 have HF:Hid (azB s=(!(s.data.toList.isEmpty)&&(s.data.toList.drop 0).all azC)):=Lh rfl;have HS:Hid (∀ j (h:j<s.size),(s.data.toList.drop j).all azC=(azC s[j]&&(s.data.toList.drop (j+1)).all azC)):=Lh fun j h=>by
  rw [Ls (by simpa using h),List.all_cons]
  rfl
 have HE:Hid ((s.data.toList.drop s.size).all azC=true):=Lh (by rw [Lv L1];rfl);have HZ:Hid (s.size=0->s.toList.isEmpty=true/\s.data.toList.isEmpty=true):=Lh fun h=>by
  have:s.data.toList=[]:=List.length_eq_zero_iff.1 (by simpa using h);rw [ByteArray.toList_eq,this];exact ⟨rfl,rfl⟩
 have HY:Hid (s.size≠0->s.toList.isEmpty=false/\s.data.toList.isEmpty=false):=Lh fun h=>by
  refine ⟨jp h,?_⟩;rw [List.isEmpty_eq_false_iff];intro e;have:=congrArg List.length e;exact h (by simpa using this)
 generalize azB s=R at *
 go_enter func151,ntmps151
 go_wp2
 go_loopw [3] (fun x wr=>∃ j:Nat,j<=s.size/\x = .int .i64 j/\Below w.heap.size w wr/\Hid (R=(!(s.data.toList.isEmpty)&&(s.data.toList.drop j).all azC))) (fun x _=>s.size-(intOf x).toNat)
 case atStart=>exact ⟨0,Nat.zero_le _,rfl,Le _ _,HF⟩
 case round =>
  obtain ⟨j,hj,rfl,qnw,HR⟩:=hrel
  by_cases hlt:j<s.size
  ·have HSj:=Lh (HS.out j hlt);have hb:=UInt8.toNat_lt s[j];have hne:=(HY.out L0).2;have HN:Hid (azC s[j]=true->R=(!(s.data.toList.isEmpty)&&(s.data.toList.drop (j+1)).all azC)):=Lh fun h=>by rw [HR.out,HSj.out,h,Bool.true_and]
   have HM:Hid (azC s[j]=false->R=false):=Lh fun h=>by rw [HR.out,HSj.out,h,Bool.false_and,Bool.and_false]
   clear HR HSj HS HE HF HZ HY hne;unfold azC at HN HM;generalize hc:s[j]=c at *
   by_cases h1:c.toNat<97
   ·have i1:decide ((c.toNat:Int)<97)=true:=Ll L0;have HR2:=Lh (HM.out (by rw [Lk L0];rfl));go_wp2;go_ret;exact ⟨by rw [HR2.out];rfl,qnw⟩
   ·have i1:decide ((c.toNat:Int)<97)=false:=Lk L0
    by_cases h2:122<c.toNat
    ·have HR2:=Lh (HM.out (by rw [Ll (show 97<=c.toNat by omega),Lk L0];rfl));go_wp2;go_ret;exact ⟨by rw [HR2.out];rfl,qnw⟩
    ·have HR2:=Lh (HN.out (by rw [Ll (show 97<=c.toNat by omega),Ll (show c.toNat<=122 by omega)];rfl));go_wp2;exact ⟨⟨j+1,by omega,by go_num,qnw,HR2⟩,by simp [intOf];omega⟩
  ·obtain rfl:j=s.size:=by omega
   have HR2:=Lh (HR.out.trans (by rw [HE.out,Bool.and_true]))
   by_cases h0:s.size=0
   ·obtain ⟨e1,e2⟩:=HZ.out h0;go_wp2;go_ret;exact ⟨by rw [HR2.out,e2];rfl,qnw⟩
   ·obtain ⟨e1,e2⟩:=HY.out h0;go_wp2;go_ret;exact ⟨by rw [HR2.out,e2];rfl,qnw⟩
theorem qlP (l:List ByteArray) (A:Option Addr) (n c:Nat) (w:World) (hn:l.length=n) (hc:n<=c) (hm:c<=maxLen) (rd:Rd w w.heap.size 1 A n (sv l)) (ht:Tb w) :
  Calls prog 136 #[.slice A n c] w (qh (qmb (charW l)) w):=by
 cases l with
 | nil =>
  obtain rfl:n=0:=by simpa using hn.symm
  have HU:=Lh (qlm A c w);simp only [qmc] at HU;clear rd ht
  go_enter func136,ntmps136
  go_wp2_with (go_at_call 153;refine HU.out.mono ?_;rintro e w1 ⟨rfl,hb1⟩)
  go_ret2;exact ⟨rfl,hb1⟩
 | cons a t =>
  have hn1:0<n:=by rw [<- hn];simp
  obtain ⟨b,o,rfl,hb,hca⟩:=rd.at_ hn1;have ha:w.cell? ⟨b,o,none⟩=some (.string a):=hca;have q1:=qct (a:=a) (b:=yB) (l:=[115,112,97,99,101]) rfl;have HU:=Lh (qk7 a t b o n c w (by simpa using hn) hc hm rd ht);have hi:(0:Int)<n:=by omega
  by_cases hsp:a=yB
  ·rw [Ll hsp] at q1;rw [charW,if_pos hsp];clear rd ht hca hsp hn hm HU
   go_enter func136,ntmps136
   go_wp2;go_ret2;exact ⟨rfl,Le _ _⟩
  ·rw [Lk hsp] at q1;rw [charW,if_neg hsp];clear rd ht hca hsp hn hm
   cases hu:zM (a::t) with
   | none =>
    rw [hu] at HU;simp only [qmc] at HU;clear hu
    go_enter func136,ntmps136
    go_wp2_with (go_at_call 153;refine HU.out.mono ?_;rintro e w1 ⟨rfl,hb1⟩)
    go_ret2;exact ⟨rfl,hb1⟩
   | some x =>
    obtain ⟨r,k⟩:=x;rw [hu] at HU;simp only [qmc] at HU;clear hu
    go_enter func136,ntmps136
    go_wp2_with (go_at_call 153;refine HU.out.mono ?_;rintro e w1 ⟨rfl,hb1⟩)
    go_ret2;exact ⟨rfl,hb1⟩
def raN (s:ByteArray) (j:Nat):List Nat:=((qB s).take j).map (fun b=>b-32)++(qB s).drop j
theorem qie (s:ByteArray) (j:Nat):(raN s j).length=s.size:=by
 unfold raN;rw [Lf,Lq,Lu,List.length_drop,zT]
 omega
theorem qc9 (s:ByteArray) (j i:Nat) (h:i<s.size):(raN s j)[i]'(by rw [qie];exact h)=if i<j then (qB s)[i]'(by rw [zT];exact h)-32 else (qB s)[i]'(by rw [zT];exact h):=by
 unfold raN;rw [List.getElem_append]
 by_cases hi:i<j
 ·rw [if_pos hi,dif_pos (by rw [Lq,Lu,zT];omega)]
  simp
 ·rw [if_neg hi,dif_neg (by rw [Lq,Lu,zT];omega)];simp only [Lq,Lu,zT,List.getElem_drop]
  congr 1
  omega
theorem ql3 (s:ByteArray) (j:Nat) (hb : ∀ c∈s.data.toList,97<=c.toNat/\c.toNat<=122):(⟨((raN s j).map fun b=>UInt8.ofNat b).toArray⟩:ByteArray)=jn s j:=by
 unfold raN jn qB
 apply ByteArray.ext
 apply Array.toList_inj.1
 simp only [List.map_append,List.map_map,<- List.map_take,<- List.map_drop]
 congr 1
 ·refine List.map_congr_left fun c hc=>?_
  obtain ⟨h1,h2⟩:=hb c (List.mem_of_mem_take hc)
  show UInt8.ofNat (c.toNat-32)=upB c
  unfold upB;rw [if_pos ⟨h1,h2⟩]
  apply UInt8.toNat_inj.1
  have h3:=UInt8.toNat_sub_of_le c 32 (UInt8.le_iff_toNat_le.2 (Lj L2 h1));rw [h3,UInt8.toNat_ofNat']
  show (c.toNat-32) % 256=c.toNat-32
  omega
 ·refine (List.map_congr_left fun c hc=>?_).trans (List.map_id _)
  show UInt8.ofNat c.toNat=c
  simp
theorem qk4 (s:ByteArray) (k:Nat) (h:s.size<=k):jn s k=jn s s.size:=by
 unfold jn;have hl:s.data.toList.length=s.size:=by simp
 rw [List.take_of_length_le L0,Lv L0,List.take_of_length_le L0,Lv L0]
def RaS (w:World) (s:ByteArray) (j:Nat) (wr:World):Prop :=
 (∀ i (h:i<s.size),wr.cell? ⟨w.heap.size,i,none⟩=some (.int .u8 ((raN s j)[i]'(by rw [qie];exact h):Nat))/\wr.frozen? ⟨w.heap.size,i,none⟩=false)/\Below w.heap.size w wr
theorem RaS.str {w wr:World} {s:ByteArray} {j c:Nat} (h:RaS w s j wr) (hb : ∀ c∈s.data.toList,97<=c.toNat/\c.toNat<=122) :
  (convert 184 9 (.slice (some ⟨w.heap.size,0,none⟩) s.size c)).run prog wr = .ok (.string (jn s j)) wr:=by
 rw [<- ql3 s j hb];refine qgA (B:=w.heap.size+1) (l:=raN s j) ?_ (qie s j) ?_
 ·refine Rd.some_ (by rw [qlO,qie];omega) L0 fun t u hu=>?_
  have ht:t<s.size:=by
   rcases Nat.lt_or_ge t s.size with h | h
   ·exact h
   ·rw [List.getElem?_eq_none (by rw [qlO,qie];exact h)] at hu;cases hu
  rw [byV_get _ _ (by rw [qie];exact ht)] at hu;rw [Lo,(h.1 t ht).1];exact hu
 ·intro b hb';obtain ⟨i,hi,rfl⟩:=List.mem_iff_getElem.1 hb';rw [qie] at hi;have hlt:(qB s)[i]'(by rw [zT];exact hi)<256:=by
   simp only [qB,List.getElem_map];exact UInt8.toNat_lt _
  rw [qc9 s j i hi]
  split <;> omega
theorem RaS.next {w wr:World} {s:ByteArray} {j:Nat} (h:RaS w s j wr) (hj:j<s.size):RaS w s (j+1) (wr.setCell ⟨w.heap.size,j,none⟩ (.int .u8 (((qB s)[j]'(by rw [zT];exact hj)-32:Nat):Int))):=by
 refine ⟨fun i hi=>⟨?_,?_⟩,h.2.setCell (Ld _) _⟩
 ·by_cases hij:i=j
  ·subst hij;rw [World.cell?_setCell_same' _ _ _ (by rw [(h.1 i hi).1];rfl),qc9 s (i+1) i hi,if_pos L0]
  ·rw [World.cell?_setCell_other _ _ _ _ (by intro e;injection e with _ e;exact hij e.symm),(h.1 i hi).1,qc9 s (j+1) i hi,qc9 s j i hi]
   by_cases hl:i<j
   ·rw [if_pos hl,if_pos L0]
   ·rw [if_neg hl,if_neg L0]
 ·rw [World.frozen?_setCell];exact (h.1 i hi).2
theorem RaS.first (w:World) (s:ByteArray):RaS w s 0 (w.drew.alloc (.cells (bytesRow s (grownCap w s.size 0 5)) 5 ((bytesRow s (grownCap w s.size 0 5)).size,(bytesRow s (grownCap w s.size 0 5)).size+1))):=by
 have hrow:(w.drew.alloc (.cells (bytesRow s (grownCap w s.size 0 5)) 5 ((bytesRow s (grownCap w s.size 0 5)).size,(bytesRow s (grownCap w s.size 0 5)).size+1))).heap[w.heap.size]? = some (.cells (bytesRow s (grownCap w s.size 0 5)) 5 ((bytesRow s (grownCap w s.size 0 5)).size,(bytesRow s (grownCap w s.size 0 5)).size+1)):=heap_alloc_new w.drew _;refine ⟨fun i hi=>⟨?_,?_⟩,(Le _ _).drew.alloc (Ld _) _⟩
 ·rw [cell_of_row _ _ _ _ _ _ hrow];unfold bytesRow;rw [Array.getElem?_append_left (by simpa using hi),Array.getElem?_map,Array.getElem?_eq_getElem (by simpa using hi),qc9 s 0 i hi,if_neg L0]
  simp [qB]
 ·unfold World.frozen?;rw [hrow];have:i<(bytesRow s (grownCap w s.size 0 5)).size:=by
   unfold bytesRow;rw [Array.size_append,Array.size_map];have:s.data.size=s.size:=rfl
   omega
  simp only [decide_eq_false_iff_not,Bool.and_eq_false_iff,decide_eq_true_eq]
  omega
theorem qll (s:ByteArray) (hz:azB s=true) (hs:s.size<=1000000) (k:Nat) (hk:k<=1000000) (w:World):Calls prog 133 #[.string s,.int .i64 k] w (qh (.string (jn s k)) w):=by
 have hby:=(qcA hz).2;have HR:Hid (∀ j,(j=k∨j=s.size)->j<=k->jn s j=jn s k):=Lh fun j h hj=>by
  rcases h with rfl | rfl
  ·rfl
  ·exact (qk4 s k hj).symm
 have HStr:Hid (∀ j wr c,RaS w s j wr->(convert 184 9 (.slice (some ⟨w.heap.size,0,none⟩) s.size c)).run prog wr = .ok (.string (jn s j)) wr):=Lh fun j wr c h=>h.str hby
 have HB:Hid (∀ j (h:j<s.size),97<=(qB s)[j]'(by rw [zT];exact h)/\(qB s)[j]'(by rw [zT];exact h)<=122):=Lh fun j h=>by
  simp only [qB,List.getElem_map];exact hby _ (Lt _)
 have hcv:=run_bytes_of_string (P:=prog) w 9 184 5 s underlying9 underlying184 underlying5;have h0:=RaS.first w s;generalize w.drew.alloc (.cells (bytesRow s (grownCap w s.size 0 5)) 5 ((bytesRow s (grownCap w s.size 0 5)).size,(bytesRow s (grownCap w s.size 0 5)).size+1))=X at *
 generalize grownCap w s.size 0 5=cp at *
 generalize jn s k=RS at *
 clear hz hby
 go_enter func133,ntmps133
 go_wp2
 go_loopw [6] (fun x wr=>∃ j:Nat,j<=s.size/\j<=k/\x = .int .i64 j/\RaS w s j wr) (fun x _=>s.size-(intOf x).toNat)
 case atStart=>exact ⟨0,Nat.zero_le _,Nat.zero_le _,rfl,h0⟩
 case round =>
  clear h0 hcv;obtain ⟨j,hj,hjk,rfl,hR⟩:=hrel
  by_cases hlk:j<k
  ·by_cases hlt:j<s.size
   ·have hn:=hR.next hlt;obtain ⟨hc,hf⟩:=hR.1 j hlt;obtain ⟨b1,b2⟩:=HB.out j hlt;rw [qc9 s j j hlt,if_neg (Nat.lt_irrefl j)] at hc;generalize (qB s)[j]'(by rw [zT];exact hlt)=bj at *
    have hwb:IntKind.u8.wrap ((bj:Int)-32)=((bj-32:Nat):Int):=by rw [IntKind.wrap_u8];omega
    clear HB HStr HR;go_wp2;exact ⟨⟨j+1,by omega,by omega,by go_num,hn⟩,by simp [intOf];omega⟩
   ·obtain rfl:j=s.size:=by omega
    have hst:=HStr.out _ _ cp hR;have hR2:=Lh (HR.out _ (.inr rfl) hjk);clear HStr HB HR;go_wp2;go_ret;exact ⟨by rw [hR2.out];rfl,hR.2⟩
  ·obtain rfl:j=k:=by omega
   have hst:=HStr.out _ _ cp hR;have hR2:=Lh (HR.out _ (.inl rfl) hjk);clear HStr HB HR;go_wp2;go_ret;exact ⟨by rw [hR2.out];rfl,hR.2⟩
def vocB:List ByteArray:=(List.range 32).map wb
theorem qkj {k:Nat} (h:k<32):vocB.take (k+1)=vocB.take k++[wb k]:=by
 unfold vocB;rw [<- List.map_take,<- List.map_take,List.take_range,List.take_range,Nat.min_eq_left L0,Nat.min_eq_left L0,List.range_succ,List.map_append]
 rfl
theorem vocB_len (k:Nat) (h:k<=32):(vocB.take k).length=k:=by
 unfold vocB
 simp
 omega
theorem qcH (w:World) (ht:Tb w):Calls prog 135 #[] w (ql 9 1 id w 32 (sv vocB)):=by
 have HT:=Lh ht;have HK:Hid (∀ k,k<32->vocB.take (k+1)=vocB.take k++[wb k]):=Lh fun k h=>qkj h
 have HL:Hid (∀ k,k<=32->(vocB.take k).length=k):=Lh vocB_len;have HE:Hid (sv vocB=sv (vocB.take 28)++sv [wb 28,wb 29,wb 30,wb 31]):=Lh rfl;clear ht
 go_enter func135,ntmps135
 go_wp2
 go_loopw [1,2] (fun v x wr=>∃ (A:Option Addr) (c k:Nat),k<=20/\x = .int .i64 k/\v = .slice A k c/\wr.ownsRow w.heap.size 9 1 (.slice A k c) k (sv (vocB.take k))/\Below w.heap.size w wr) (fun _ x _=>20-(intOf x).toNat)
 case atStart=>exact ⟨_,_,0,by omega,rfl,rfl,qx (xs:=[]) rfl rfl (Ld _) (Nat.zero_le _),L5⟩
 case round =>
  obtain ⟨A,c,k,hk,rfl,rfl,qnB,qnw⟩:=hrel;have zb:=qnw.size
  by_cases hlt:k<20
  ·have hc:=(HT.out.below qnw).1 k hlt;have hkk:=Lh (HK.out k L0);have hll:=Lh (HL.out (k+1) L0);generalize wb k=x at *
   generalize vocB.take k=V at *
   go_wp2_with (at_builtin;go_must (refine qg rfl _ _ _ rfl qp (w.heap.size) _ rfl ((qnB.alloc _)) _ _ rfl ((qe (by first | rfl | (simp;done)) rfl)) ?_);intro A4 c4 w4 qmC qmy qmG qmI;have z4:=qmy.size;(try simp only [Li] at z4);(try simp only [Lo,Lg] at qmC))
   exact ⟨⟨A4,c4,k+1,by omega,by go_num,rfl,by rw [hkk.out];simpa [sv] using qmC,(qnw.alloc zb _).trans qmy⟩,by simp [intOf];omega⟩
  ·obtain rfl:k=20:=by omega
   have e20:((20:Nat):Int)=20:=rfl;rw [e20];go_wp2
   go_loopw [1,3] (fun v x wr=>∃ (A:Option Addr) (c k:Nat),k<=8/\x = .int .i64 k/\v = .slice A (20+k) c/\wr.ownsRow w.heap.size 9 1 (.slice A (20+k) c) (20+k) (sv (vocB.take (20+k)))/\Below w.heap.size w wr) (fun _ x _=>8-(intOf x).toNat)
   case atStart=>exact ⟨A,c,0,by omega,rfl,rfl,qnB,qnw⟩
   case round =>
    obtain ⟨A,c,k,hk,rfl,rfl,qnB,qnw⟩:=hrel;have zb:=qnw.size
    by_cases hlt:k<8
    ·have hc:=(HT.out.below qnw).2 k hlt;have hkk:=Lh (HK.out (20+k) L0);generalize wb (20+k)=x at *
     generalize vocB.take (20+k)=V at *
     go_wp2_with (at_builtin;go_must (refine qg rfl _ _ _ rfl qp (w.heap.size) _ rfl ((qnB.alloc _)) _ _ rfl ((qe (by first | rfl | (simp;done)) rfl)) ?_);intro A4 c4 w4 qmC qmy qmG qmI;have z4:=qmy.size;(try simp only [Li] at z4);(try simp only [Lo,Lg] at qmC))
     exact ⟨⟨A4,c4,k+1,by omega,by go_num,by rw [Nat.add_assoc],by rw [show 20+(k+1)=20+k+1 by omega,hkk.out];simpa [sv] using qmC,(qnw.alloc zb _).trans qmy⟩,by simp [intOf];omega⟩
    ·obtain rfl:k=8:=by omega
     go_wp2_with (at_builtin;go_must (refine qg rfl _ _ _ rfl qp (w.heap.size) _ rfl ((qnB.alloc _)) _ _ rfl ((qe (xs:=sv [wb 28,wb 29,wb 30,wb 31]) (by first | rfl | (simp;done)) rfl)) ?_);intro A4 c4 w4 qmC qmy qmG qmI;have z4:=qmy.size;(try simp only [Li] at z4);(try simp only [Lo,Lg] at qmC))
     go_ret;exact ⟨A4,c4,rfl,by rw [HE.out];exact qmC,(qnw.alloc zb _).trans qmy⟩
end Go.Proofs.YtggegijlfaipfaaGreatDoor
namespace Go.Proofs.YtggegijlfaipfaaGreatDoor
open Go.Proofs.Tryz Go.RowKit
set_option maxRecDepth 100000
def qab (l:List ByteArray) (s:ByteArray):Bool:=l.any fun x=>decide (x=s)
theorem has_ (l:List ByteArray) (s:ByteArray) (A:Option Addr) (n c B:Nat) (w:World) (hn:l.length=n) (hb:n<=1000000000) (rd:Rd w B 1 A n (sv l)) :
  Calls prog 134 #[.slice A n c,.string s] w (Same (.bool (qab l s)) w):=by
 have HF:Hid (qab l s=qab (l.drop 0) s):=Lh rfl;have HN:=Lh hn;generalize qab l s=R at HF ⊢;clear hn
 go_enter func134,ntmps134
 go_wp2
 go_loop [5] (fun x=>∃ k:Nat,k<=n/\x = .int .i64 k/\Hid (R=qab (l.drop k) s)) (fun x=>n-(intOf x).toNat)
 case atStart=>exact ⟨0,Nat.zero_le _,rfl,HF⟩
 case round =>
  obtain ⟨k,hk,rfl,HR⟩:=hrel
  by_cases hlt:k<n
  ·have hkl:k<l.length:=by have:=HN.out;omega
   obtain ⟨b,o,rfl,_,hc⟩:=rd.at_ hlt;rw [yM _ _ hkl] at hc;have HD:Hid (l.drop k=l[k]::l.drop (k+1)):=Lh (Ls hkl);generalize l[k]=x at *
   by_cases he:x=s
   ·have HR2:Hid (R=true):=Lh (by rw [HR.out,HD.out];simp [qab,he]);have hq:(x.toList==s.toList)=true:=by rw [jO];simp [he]
    clear he HR HD;go_wp2;go_ret;exact ⟨by rw [HR2.out];rfl,rfl⟩
   ·have HR2:Hid (R=qab (l.drop (k+1)) s):=Lh (by rw [HR.out,HD.out];simp [qab,he]);have hq:(x.toList==s.toList)=false:=by rw [jO];simp [he]
    clear he HR HD;go_wp2;exact ⟨⟨k+1,by omega,by go_num,HR2⟩,by simp [intOf];omega⟩
  ·have HR2:Hid (R=false):=Lh (by rw [HR.out,Lv (by have:=HN.out;omega)];rfl);go_wp2;go_ret;exact ⟨by rw [HR2.out];rfl,rfl⟩
theorem qi0 (w:World):Calls prog 167 #[] w fun e w'=>e = .returned (.slice (some ⟨w.heap.size,0,none⟩) 39 39)/\w.alloc (.cells (sv ctrlL).toArray 9)=w':=by
 have e:(sv ctrlL).toArray = #[.string cB,.string zO,.string bCap,.string yi,.string vD,.string yB,.string bTimes,.string qS,.string qaO,.string vI,.string (vP 0),.string (vP 1),.string (vP 2),.string (vP 3),
 .string ⟨#[115,105,122,101]⟩,.string ⟨#[114,111,119,115]⟩,.string ⟨#[99,111,108,117,109,110,115]⟩,.string ⟨#[115,99,114,111,108,108]⟩,.string ⟨#[108,105,110,101]⟩,.string ⟨#[108,105,110,101,115]⟩,.string ⟨#[102,114,111,109]⟩,.string ⟨#[116,111]⟩,.string ⟨#[117,112]⟩,.string ⟨#[100,111,119,110]⟩,
 .string ⟨#[99,111,108,117,109,110]⟩,.string ⟨#[114,101,112,108,97,99,101]⟩,.string ⟨#[119,105,116,104]⟩,.string ⟨#[105,110,115,101,114,116]⟩,.string ⟨#[100,101,108,101,116,101]⟩,.string ⟨#[99,117,114,115,111,114]⟩,.string ⟨#[118,105,115,105,98,108,101]⟩,.string ⟨#[105,110,118,105,115,105,98,108,101]⟩,
 .string ⟨#[109,111,114,101]⟩,.string ⟨#[100,111,110,101]⟩,.string ⟨#[117,112,100,97,116,101,115]⟩,.string ⟨#[114,101,97,100,115]⟩,.string ⟨#[115,116,111,112]⟩,.string ⟨#[98,108,97,110,107]⟩,.string ⟨#[98,121]⟩]:=rfl
 rw [e]
 go_enter func167,ntmps167
 go_wp2;go_ret;exact ⟨rfl,rfl⟩
theorem qjW (s:ByteArray):jF s=(qab ctrlL s || (qab vocB s || qab ((List.range 32).map nb) s)):=by
 unfold jF qab qL vocB;rw [List.any_map,List.any_map,Bool.or_assoc]
 rfl
theorem qiS (s:ByteArray) (w:World) (ht:Tb w):Calls prog 152 #[.string s] w (qh (.bool (jF s)) w):=by
 have HC:Hid (∀ w:World,Calls prog 134 #[.slice (some ⟨w.heap.size,0,none⟩) 39 39,.string s] (w.alloc (.cells (sv ctrlL).toArray 9)) (Same (.bool (qab ctrlL s)) (w.alloc (.cells (sv ctrlL).toArray 9)))):=Lh fun w=>has_ ctrlL s _ 39 39 _ _ rfl L0 (qe (xs:=sv ctrlL) rfl rfl)
 have HV:Hid (∀ A c B w,Rd w B 1 A 32 (sv vocB)->Calls prog 134 #[.slice A 32 c,.string s] w (Same (.bool (qab vocB s)) w)):=Lh fun A c B w rd=>has_ vocB s A 32 c B w rfl L0 rd
 have HN:Hid (∀ A c B w,Rd w B 1 A 32 nmL->Calls prog 134 #[.slice A 32 c,.string s] w (Same (.bool (qab ((List.range 32).map nb) s)) w)):=Lh fun A c B w rd=>has_ ((List.range 32).map nb) s A 32 c B w rfl L0 rd
 have HT:=Lh ht;have HCo:=Lh qi0;have HVo:=Lh qcH;have HNo:=Lh rnames;rw [qjW];generalize qab ctrlL s=x1 at *
 generalize qab vocB s=x2 at *
 generalize qab ((List.range 32).map nb) s=x3 at *
 generalize (sv ctrlL).toArray=CA at *
 clear ht
 cases x1 with
 | true =>
  rw [Bool.true_or]
  go_enter func152,ntmps152
  go_wp2_with (first
   | (go_at_call 167;refine (HCo.out _).mono ?_;rintro e w1 ⟨rfl,rfl⟩)
   | (go_at_call 134;refine (HC.out _).mono ?_;rintro e w2 ⟨rfl,rfl⟩))
  go_ret;exact ⟨rfl,L5⟩
 | false =>
  rw [Bool.false_or]
  cases x2 with
  | true =>
   rw [Bool.true_or]
   go_enter func152,ntmps152
   go_wp2_with (first
    | (go_at_call 167;refine (HCo.out _).mono ?_;rintro e w1 ⟨rfl,rfl⟩)
    | (go_at_call 135;refine (HVo.out _ (HT.out.below L5)).mono ?_;rintro e w3 ⟨A3,c3,rfl,qnz,qmx⟩)
    | ((fail_if_success have:=qnz);go_at_call 134;refine (HC.out _).mono ?_;rintro e w2 ⟨rfl,rfl⟩)
    | (go_at_call 134;refine (HV.out _ _ _ _ (Rd.of_own qnz)).mono ?_;rintro e w4 ⟨rfl,rfl⟩))
   go_ret;exact ⟨rfl,(L5).trans (qmx.mono L1)⟩
  | false =>
   rw [Bool.false_or]
   go_enter func152,ntmps152
   go_wp2_with (first
    | (go_at_call 167;refine (HCo.out _).mono ?_;rintro e w1 ⟨rfl,rfl⟩)
    | (go_at_call 135;refine (HVo.out _ (HT.out.below L5)).mono ?_;rintro e w3 ⟨A3,c3,rfl,qnz,qmx⟩;have t3:=((Le w.heap.size w).alloc (Ld _) _).trans (qmx.mono L1))
    | (go_at_call 168;refine (HNo.out _).mono ?_;rintro e w5 ⟨A5,c5,rfl,qnA,qmz⟩;have t5:=t3.trans (qmz.mono t3.size))
    | ((fail_if_success have:=qnz);go_at_call 134;refine (HC.out _).mono ?_;rintro e w2 ⟨rfl,rfl⟩)
    | ((fail_if_success have:=qnA);go_at_call 134;refine (HV.out _ _ _ _ (Rd.of_own qnz)).mono ?_;rintro e w4 ⟨rfl,rfl⟩)
    | (go_at_call 134;refine (HN.out _ _ _ _ (Rd.of_own qnA)).mono ?_;rintro e w6 ⟨rfl,rfl⟩))
   go_ret;exact ⟨rfl,t5⟩
end Go.Proofs.YtggegijlfaipfaaGreatDoor
namespace Go.Proofs.YtggegijlfaipfaaGreatDoor
open Go.Proofs.Tryz Go.RowKit
set_option maxRecDepth 20000
theorem rliteral (l:List ByteArray) (A:Option Addr) (n c B:Nat) (w:World) (hsz : ∀ s∈l,s.size<=1000) (hl:l.length<=1000000) (rd:Rd w B 1 A n (sv l)) (hB:B<=w.heap.size) (ht:Tb w) :
  Calls prog 131 #[.slice A n c] w (qh (ql9 (yl l)) w):=by
 have hn:l.length=n:=by have:=rd.1;simp [sv] at this;omega
 cases l with
 | nil =>
  obtain rfl:n=0:=by simpa using hn.symm
  clear rd ht
  go_enter func131,ntmps131
  go_wp2;go_ret2;exact ⟨rfl,Le _ _⟩
 | cons a t =>
  have hn1:0<n:=by rw [<- hn];simp
  have htl:t.length+1=n:=by simpa using hn
  obtain ⟨b,o,rfl,hb,hca⟩:=rd.at_ hn1;have ha:w.cell? ⟨b,o,none⟩=some (.string a):=hca;have HCa:Hid (∀ w',Below w.heap.size w w'->w'.cell? ⟨b,o,none⟩=some (.string a)):=Lh fun w' hw=>(hw.cell (by show b<_;omega)).trans ha
  have qm5 : ∀ s:ByteArray,s.size<=1000->Hid (∀ w',Below w.heap.size w w'->Calls prog 151 #[.string s] w' fun e w''=>e = .returned (.bool (azB s))/\Below w.heap.size w w''):=fun s hs=>Lh fun w' hw=>(rlower s (Lj hs L2) w').mono fun e w'' ⟨h1,h2⟩=>⟨h1,hw.trans (h2.mono hw.size)⟩
  have HPa:=qm5 a (hsz a L1);have HRs:Hid (∀ w',Below w.heap.size w w'->Calls prog 152 #[.string a] w' fun e w''=>e = .returned (.bool (jF a))/\Below w.heap.size w w''):=Lh fun w' hw=>(qiS a w' (ht.below hw)).mono fun e w'' ⟨h1,h2⟩=>⟨h1,hw.trans (h2.mono hw.size)⟩
  have q1:=qct (a:=a) (b:=vD) (l:=[119,111,114,100]) rfl;have q2:=qct (a:=a) (b:=qS) (l:=[115,112,101,108,108,101,100]) rfl;have hb0:Below w.heap.size w w:=Le _ _;have hi0:(0:Int)<n:=by omega
  have hn0:((n:Int)==0)=false:=Lm.2 L0
  by_cases hw:a=vD
  ·rw [Ll hw] at q1;have hne:a≠qS:=by rw [hw];decide +kernel
   rw [Lk hne] at q2;have haz1:azB a=true:=by rw [hw];decide +kernel
   have qnT:jF a=true:=by rw [hw];decide +kernel
   have e1:azB (t.headD ⟨#[]⟩)=false->yl (a::t)=none:=fun h=>by
    rw [yl,if_neg (by rw [h];simp),if_neg (by rw [qnT];simp),if_neg hne]
   rw [qnT] at HRs;rw [haz1] at HPa
   cases t with
   | nil =>
    obtain rfl:n=1:=by simpa using htl.symm
    rw [e1 L4];clear e1 hne haz1 qnT hsz hw hca rd qm5
    go_enter func131,ntmps131
    go_wp2_with (first
      | (go_at_call 151;with_reducible refine (HPa.out _ L3).mono ?_;rintro e w1 ⟨rfl,hb1⟩;have ha1:=HCa.out _ hb1)
      | (go_at_call 152;with_reducible refine (HRs.out _ L3).mono ?_;rintro e w2 ⟨rfl,hb2⟩;have ha2:=HCa.out _ hb2))
    go_ret2;exact ⟨rfl,by assumption⟩
   | cons d t' =>
    have hn2:1<n:=by rw [<- htl];simp
    have hi1:(1:Int)<n:=by omega
    have hcd:=rd.at_ hn2;obtain ⟨b',o',e',_,hcd⟩:=hcd;simp only [Option.some.injEq,Addr.mk.injEq,and_true] at e';obtain ⟨rfl,rfl⟩:=e';have hd:w.cell? ⟨b,o+1,none⟩=some (.string d):=hcd;have HCd:Hid (∀ w',Below w.heap.size w w'->w'.cell? ⟨b,o+1,none⟩=some (.string d)):=Lh fun w' hw=>(hw.cell (by show b<_;omega)).trans hd
    have HPd:=qm5 d (hsz d L1);rw [List.headD_cons] at e1
    cases hz:azB d with
    | true =>
     have e2:yl (a::d::t')=some (d,2):=by rw [yl,List.headD_cons,if_pos ⟨hw,hz⟩]
     rw [e2];rw [hz] at HPd;clear e1 e2 hne haz1 qnT hsz hw hca hcd rd hz qm5
     go_enter func131,ntmps131
     go_wp2_with (first
       | (go_at_call 151;with_reducible refine (HPd.out _ L3).mono ?_;rintro e w3 ⟨rfl,hb3⟩;have ha3:=HCa.out _ hb3;have hd3:=HCd.out _ hb3)
       | (go_at_call 151;with_reducible refine (HPa.out _ L3).mono ?_;rintro e w1 ⟨rfl,hb1⟩;have ha1:=HCa.out _ hb1)
       | (go_at_call 152;with_reducible refine (HRs.out _ L3).mono ?_;rintro e w2 ⟨rfl,hb2⟩;have ha2:=HCa.out _ hb2))
     go_ret2;exact ⟨rfl,by assumption⟩
    | false =>
     rw [e1 hz];rw [hz] at HPd;clear e1 hne haz1 qnT hsz hw hca hcd rd hz qm5
     go_enter func131,ntmps131
     go_wp2_with (first
       | (go_at_call 151;with_reducible refine (HPd.out _ L3).mono ?_;rintro e w3 ⟨rfl,hb3⟩;have ha3:=HCa.out _ hb3;have hd3:=HCd.out _ hb3)
       | (go_at_call 151;with_reducible refine (HPa.out _ L3).mono ?_;rintro e w1 ⟨rfl,hb1⟩;have ha1:=HCa.out _ hb1)
       | (go_at_call 152;with_reducible refine (HRs.out _ L3).mono ?_;rintro e w2 ⟨rfl,hb2⟩;have ha2:=HCa.out _ hb2))
     go_ret2;exact ⟨rfl,by assumption⟩
  ·rw [Lk hw] at q1;have e1:yl (a::t)=if azB a=true/\jF a=false then some (a,1) else if a=qS then ya t else none:=if_neg fun h=>hw h.1
   by_cases qmN:azB a=true/\jF a=false
   ·rw [e1,if_pos qmN];rw [qmN.1] at HPa;rw [qmN.2] at HRs;clear e1 qmN q2 hsz hw hca rd qm5
    go_enter func131,ntmps131
    go_upto_region 1 with fail
    go_cut [20] (fun v wx=>v = .bool false/\wx=w)
    case first =>
     clear HRs HPa
     by_cases h1n:(1:Int)<n
     ·go_wp2;go_meet;exact ⟨rfl,rfl⟩
     ·go_wp2;go_meet;exact ⟨rfl,rfl⟩
    case rest =>
    obtain ⟨rfl,hwc⟩:=hcut;rw [hwc];clear hwc
    go_upto_region 3 with fail
    go_wp2_with (first
      | (go_at_call 151;with_reducible refine (HPa.out _ L3).mono ?_;rintro e w1 ⟨rfl,hb1⟩;have ha1:=HCa.out _ hb1)
      | (go_at_call 152;with_reducible refine (HRs.out _ L3).mono ?_;rintro e w2 ⟨rfl,hb2⟩;have ha2:=HCa.out _ hb2))
    go_ret2;exact ⟨rfl,by assumption⟩
   ·rw [e1,if_neg qmN];obtain ⟨RES,qmF⟩ : ∃ x,x=if a=qS then ya t else none:=⟨_,rfl⟩
    rw [<- qmF];replace qmF:=Lh qmF;have hcs:azB a=false∨(azB a=true/\jF a=true):=by
     cases h1:azB a with
     | false=>exact .inl rfl
     | true =>
      cases h2:jF a with
      | true=>exact .inr ⟨rfl,rfl⟩
      | false=>exact absurd ⟨h1,h2⟩ qmN
    have hsz':=Lh hsz;clear e1 qmN hsz hw hca
    go_enter func131,ntmps131
    go_upto_region 1 with fail
    go_cut [20] (fun v wx=>v = .bool false/\wx=w)
    case first =>
     clear HRs HPa
     by_cases h1n:(1:Int)<n
     ·go_wp2;go_meet;exact ⟨rfl,rfl⟩
     ·go_wp2;go_meet;exact ⟨rfl,rfl⟩
    case rest =>
    obtain ⟨rfl,hwc⟩:=hcut;rw [hwc];clear hwc
    go_upto_region 3 with fail
    go_cut [39] (fun v wx=>v = .bool false/\Below w.heap.size w wx)
    case first =>
     clear hsz' rd q2 qm5
     rcases hcs with hz | ⟨hz,hr⟩
     ·rw [hz] at HPa;clear hz
      go_wp2_with (first
        | (go_at_call 151;with_reducible refine (HPa.out _ L3).mono ?_;rintro e w1 ⟨rfl,hb1⟩;have ha1:=HCa.out _ hb1)
        | (go_at_call 152;with_reducible refine (HRs.out _ L3).mono ?_;rintro e w2 ⟨rfl,hb2⟩;have ha2:=HCa.out _ hb2))
      go_meet;exact ⟨rfl,by assumption⟩
     ·rw [hz] at HPa;rw [hr] at HRs;clear hz hr
      go_wp2_with (first
        | (go_at_call 151;with_reducible refine (HPa.out _ L3).mono ?_;rintro e w1 ⟨rfl,hb1⟩;have ha1:=HCa.out _ hb1)
        | (go_at_call 152;with_reducible refine (HRs.out _ L3).mono ?_;rintro e w2 ⟨rfl,hb2⟩;have ha2:=HCa.out _ hb2))
      go_meet;exact ⟨rfl,by assumption⟩
    case rest =>
     obtain ⟨wq,rfl⟩ : ∃ x:World,x=wc:=⟨_,rfl⟩
     obtain ⟨rfl,hbc⟩:=hcut;clear HPa HRs hcs;have ha1:=HCa.out _ hbc
     by_cases hsp:a=qS
     ·rw [Ll hsp] at q2;replace qmF:=Lh (qmF.out.trans (if_pos hsp));have HLt:Hid (∀ k (hk:k<t.length),t[k].size<=1000):=Lh fun k hk=>hsz'.out _ (List.mem_cons_of_mem _ (Lt hk))
      have HC:Hid (∀ k (hk:k<t.length) w',Below w.heap.size w w'->w'.cell? ⟨b,o+(k+1),none⟩=some (.string t[k])):=Lh fun k hk w' hw=>by
       obtain ⟨b',o',e',_,hcd⟩:=rd.at_ (k:=k+1) L0;simp only [Option.some.injEq,Addr.mk.injEq,and_true] at e';obtain ⟨rfl,rfl⟩:=e';refine (hw.cell (by show b<_;omega)).trans (hcd.trans ?_)
       show (sv (a::t))[k+1]? = _
       simp [sv,hk]
      have HS:Hid (∀ k (hk:k<t.length),qaM t (k+1)=qaM t k++t[k]):=Lh fun k hk=>qeD hk
      have HSt:Hid (∀ j,j<=t.length->(∀ k (hk:k<t.length),k<j->jQ t[k]=true)->(∀ hk:j<t.length,jQ t[j]=false)->ya t=if j=0 then none else if t[j]? = some qaO then some (qaM t j,j+2) else none):=Lh fun j h1 h2 h3=>qmk h1 h2 h3
      have HSz:Hid (∀ j,j<=t.length->(∀ k (hk:k<t.length),k<j->jQ t[k]=true)->(qaM t j).size=j):=Lh fun j h1 h2=>qjc h1 h2
      have HLo:=Lh qm5;rw [<- qmF.out] at HSt;clear rd hsz' hsp q1 ha qm5;have hl':t.length<=1000000:=by simp at hl;omega
      have ht':=Lh htl;clear hn hl htl HCa;go_wp2
      go_loopw [4,5] (fun y x wr=>∃ j:Nat,j<=t.length/\x = .int .i64 (j+1:Nat)/\y = .string (qaM t j)/\Below w.heap.size w wr/\Hid (∀ k (hk:k<t.length),k<j->jQ t[k]=true)) (fun _ x _=>n-(intOf x).toNat)
      case atStart=>exact ⟨0,Nat.zero_le _,rfl,rfl,hbc,Lh fun k hk h=>absurd h (Nat.not_lt_zero k)⟩
      case round =>
       clear hbc;obtain ⟨j,hj,rfl,rfl,qnw,HA⟩:=hrel;have hz:=HSz.out j hj HA.out
       by_cases hlt:j<t.length
       ·have HCx:=Lh (HC.out j hlt);have hc:=HCx.out wr qnw;have HCn:=Lh (HS.out j hlt);have hxs:=HLt.out j hlt;have HSj:=Lh (HSt.out j hj HA.out);have HAn:Hid (jQ t[j]=true->∀ k (hk:k<t.length),k<j+1->jQ t[k]=true):=Lh fun h k hk hkj=>by
         rcases Nat.lt_or_ge k j with h' | h'
         ·exact HA.out k hk h'
         ·obtain rfl:k=j:=by omega
          exact h
        have HPx:=HLo.out t[j] hxs;have hqe:=qct (a:=t[j]) (b:=qaO) (l:=[101,110,100]) rfl;have htj:t[j]? = some t[j]:=List.getElem?_eq_getElem hlt;have hjn:j+1<n:=by have:=ht'.out;omega
        have hji:(j:Int)+1<n:=by omega
        have hje:((j:Int)+1==n)=false:=Lm.2 L0
        by_cases hone:jQ t[j]=true
        ·have HA2:=Lh (HAn.out hone);have ho:=hone;unfold jQ at ho;rw [Bool.and_eq_true,decide_eq_true_eq] at ho;obtain ⟨ho1,ho2⟩:=ho;rw [ho1] at HPx;clear HSj HAn HSt hone ho1 HS HSz HC htj HLo hqe;generalize t[j]=x at *
         generalize qaM t j=CJ at *
         go_wp2_with (go_at_call 151;with_reducible refine (HPx.out _ qnw).mono ?_;rintro e w4 ⟨rfl,qmv⟩;have hc1:=HCx.out _ qmv)
         exact ⟨⟨j+1,by omega,by go_num,by rw [HCn.out],qmv,HA2⟩,by simp [intOf];omega⟩
        ·have qm8:=Lh (HSj.out (fun _=>by simpa using hone));rw [htj] at qm8;have hone':azB t[j]=false∨(azB t[j]=true/\t[j].size≠1):=by
          cases h1:azB t[j] with
          | false=>exact .inl rfl
          | true =>
           refine .inr ⟨rfl,fun h2=>hone ?_⟩;unfold jQ;rw [h1,Ll h2]
           rfl
         have hnend:azB t[j]=false->t[j]≠qaO:=fun h e=>by rw [e] at h;exact absurd h L4
         clear HSj HAn HSt hone HS HSz HC htj HLo HCn HA;generalize t[j]=x at *
         by_cases h0:j=0
         ·have he:(qaM t j).toList.isEmpty=true:=by rw [h0,ByteArray.toList_eq];rfl
          have HR2:Hid (RES=none):=Lh (by rw [qm8.out,if_pos h0]);clear qm8 hqe hnend h0;generalize qaM t j=CJ at *
          rcases hone' with hz1 | ⟨hz1,hx1⟩
          ·rw [hz1] at HPx;clear hz1
           go_wp2_with (go_at_call 151;with_reducible refine (HPx.out _ qnw).mono ?_;rintro e w4 ⟨rfl,qmv⟩;have hc1:=HCx.out _ qmv)
           go_ret2;exact ⟨by rw [HR2.out];rfl,qmv⟩
          ·rw [hz1] at HPx;have hx1':((x.size:Int)==1)=false:=Lm.2 L0;clear hz1
           go_wp2_with (go_at_call 151;with_reducible refine (HPx.out _ qnw).mono ?_;rintro e w4 ⟨rfl,qmv⟩;have hc1:=HCx.out _ qmv)
           go_ret2;exact ⟨by rw [HR2.out];rfl,qmv⟩
         ·have he:(qaM t j).toList.isEmpty=false:=jp L0;rw [if_neg h0] at qm8
          rcases hone' with hz1 | ⟨hz1,hx1⟩
          ·have hne:=hnend hz1;have HR2:Hid (RES=none):=Lh (by rw [qm8.out,if_neg (fun e=>hne (by injection e))]);rw [Lk hne] at hqe;rw [hz1] at HPx;clear qm8 hne hnend h0 hz1;generalize qaM t j=CJ at *
           go_wp2_with (go_at_call 151;with_reducible refine (HPx.out _ qnw).mono ?_;rintro e w4 ⟨rfl,qmv⟩;have hc1:=HCx.out _ qmv)
           go_ret2;exact ⟨by rw [HR2.out];rfl,qmv⟩
          ·have hx1':((x.size:Int)==1)=false:=Lm.2 L0;rw [hz1] at HPx
           by_cases hend:x=qaO
           ·have HR2:Hid (RES=some (qaM t j,j+2)):=Lh (by rw [qm8.out,if_pos (by rw [hend])]);rw [Ll hend] at hqe;clear qm8 hnend h0 hz1 hend;generalize qaM t j=CJ at *
            go_wp2_with (go_at_call 151;with_reducible refine (HPx.out _ qnw).mono ?_;rintro e w4 ⟨rfl,qmv⟩;have hc1:=HCx.out _ qmv)
            go_ret2;exact ⟨by rw [HR2.out];show Ending.returned (.tuple #[.string CJ,.int .i64 ((j:Int)+1+1)]) = .returned (.tuple #[.string CJ,.int .i64 ((j+2:Nat):Int)]);rw [show ((j+2:Nat):Int)=(j:Int)+1+1 by omega],qmv⟩
           ·have HR2:Hid (RES=none):=Lh (by rw [qm8.out,if_neg (fun e=>hend (by injection e))]);rw [Lk hend] at hqe;clear qm8 hnend h0 hz1 hend;generalize qaM t j=CJ at *
            go_wp2_with (go_at_call 151;with_reducible refine (HPx.out _ qnw).mono ?_;rintro e w4 ⟨rfl,qmv⟩;have hc1:=HCx.out _ qmv)
            go_ret2;exact ⟨by rw [HR2.out];rfl,qmv⟩
       ·obtain rfl:j=t.length:=by omega
        have hjn : ¬ t.length+1<n:=by have:=ht'.out;omega
        have hji : ¬ (t.length:Int)+1<n:=by omega
        have hje:((t.length:Int)+1==n)=true:=beq_iff_eq.2 (by have:=ht'.out;omega)
        have HR2:Hid (RES=none):=Lh (by
         rw [HSt.out t.length (Ld _) HA.out (fun hk=>absurd hk (Nat.lt_irrefl _))]
         split
         ·rfl
         ·rw [List.getElem?_eq_none (Ld _),if_neg L1])
        by_cases h0:t.length=0
        ·have he:(qaM t t.length).toList.isEmpty=true:=by
          have:qaM t t.length=⟨#[]⟩:=by rw [h0];rfl
          rw [this,ByteArray.toList_eq];rfl
         clear HSt HS HSz HC HA HLt HLo;generalize qaM t t.length=CJ at *
         go_wp2;go_ret2;exact ⟨by rw [HR2.out];rfl,qnw⟩
        ·have he:(qaM t t.length).toList.isEmpty=false:=jp L0;clear HSt HS HSz HC HA HLt HLo;generalize qaM t t.length=CJ at *
         go_wp2;go_ret2;exact ⟨by rw [HR2.out];rfl,qnw⟩
     ·rw [Lk hsp] at q2;replace qmF:=Lh (qmF.out.trans (if_neg hsp));clear rd hsz' hsp q1 ha qm5;go_wp2;go_ret2;exact ⟨by rw [qmF.out];rfl,hbc⟩
end Go.Proofs.YtggegijlfaipfaaGreatDoor
