/- Joined: Num6, Num7, NumP, Sig3, SigP, Wd2, Ut3, Cl0, Pa0, Vo1. -/
import Derived.Test.YtbogmeeijdaijaaGreatDoorZAB
set_option linter.unusedVariables false
set_option linter.unusedSimpArgs false
set_option linter.unnecessarySimpa false
set_option maxHeartbeats 2000000
namespace Go.Proofs.YtbogmeeijdaijaaGreatDoor
open Go.Proofs.Tryz Go.RowKit Go.WideMaps
def swN (a p:Int) (s:ByteArray):Option (Int × Int) :=
 if s=wb 31 then some (a,p) else if s=wb 28 then some (a,p * 100) else if s=wb 29 then some (a+1000 * p,0) else if s=wb 30 then some (a+1000000 * p,0) else
 match qbS 28 s with
 | none=>none
 | some v=>some (a,p+v)
def kp (a p:Int) (s:ByteArray):Option (Int × Int) :=
 match swN a p s with
 | none=>none
 | some (a',p')=>if 999999999<p'∨999999999<a' then none else some (a',p')
def vS:List ByteArray->Int->Int->Option (Int × Int)
 | [],a,p=>some (a,p)
 | s::t,a,p=>match kp a p s with
  | none=>none
  | some (a',p')=>vS t a' p'
def qbx (l:List ByteArray) (n:Int):Int:=if l.head? = some (wb 31) then -n else n
def qaA (l:List ByteArray) (n:Int):Option Int:=if -999999999<=n/\n<=999999999/\(qm n).map wb=l then some n else none
def zc (l:List ByteArray):Option Int :=
 if l.length=0∨15<l.length then none else match vS l 0 0 with
 | none=>none
 | some (a,p)=>qaA l (qbx l (a+p))
def kE:Option Int->Value
 | some n=>.tuple #[.int .i64 n,.int .i64 0]
 | none=>.tuple #[.int .i64 0,.int .i64 17]
theorem qlQ (i:Nat) (h:i<28):0<=qbt i/\qbt i<=90:=by unfold qbt;split <;> omega
theorem qih (k:Nat) (hk:k<=28) (s:ByteArray) (v:Int) (h:qbS k s=some v):0<=v/\v<=90:=by
 induction k with
 | zero=>cases h
 | succ k ih =>
  rw [qbS] at h
  split at h
  ·injection h with h
   have:=qlQ k L0
   omega
  ·exact ih L0 h
theorem swN_bd (a p:Int) (s:ByteArray) (a' p':Int) (h:swN a p s=some (a',p')) (h0:0<=a) (h1:a<=999999999) (h2:0<=p) (h3:p<=999999999):0<=a'/\a'<=1000000999999999/\0<=p'/\p'<=99999999900:=by
 unfold swN at h
 split at h
 ·simp only [Option.some.injEq,Prod.mk.injEq] at h;omega
 split at h
 ·simp only [Option.some.injEq,Prod.mk.injEq] at h;omega
 split at h
 ·simp only [Option.some.injEq,Prod.mk.injEq] at h;omega
 split at h
 ·simp only [Option.some.injEq,Prod.mk.injEq] at h;omega
 cases hv:qbS 28 s with
 | none=>rw [hv] at h;cases h
 | some v =>
  rw [hv] at h;have hb:=qih 28 L0 s v hv;simp only [Option.some.injEq,Prod.mk.injEq] at h;omega
theorem qbr (s b:ByteArray) (l:List UInt8) (hb:b=⟨l.toArray⟩):(s.toList==l)=decide (s=b):=by
 have e:b.toList=l:=by rw [hb];exact ByteArray.toList_mk l
 rw [<- e];exact jO s b
theorem qfn (l:List ByteArray) (A:Option Addr) (c:Nat) (w:World) (h:l.length=0∨15<l.length) :
  Calls prog 120 #[.slice A l.length c] w (qh (kE (zc l)) w):=by
 have hN:zc l=none:=by unfold zc;rw [if_pos h]
 rw [hN]
 by_cases h0:l.length=0
 ·have e0:((l.length:Int)==0)=true:=by simp [h0]
  clear h h0
  go_enter func120,ntmps120
  go_wp2;go_ret2;exact ⟨rfl,Le _ _⟩
 ·have e0:((l.length:Int)==0)=false:=Lm.2 L0;have e1:15<l.length:=by omega
  clear h h0
  go_enter func120,ntmps120
  go_wp2;go_ret2;exact ⟨rfl,Le _ _⟩
theorem qcR (l:List ByteArray) (A:Option Addr) (c:Nat) (w:World) (hl:Rd w w.heap.size 1 A l.length (sv l)) (h0:0<l.length) (h1:l.length<=15) (hsz : ∀ s∈l,s.size<=maxLen) :
  Calls prog 120 #[.slice A l.length c] w (qh (kE (zc l)) w):=by
 have e0:((l.length:Int)==0)=false:=Lm.2 L0
 have HN:Hid (zc l=match vS l 0 0 with
  | none=>none
  | some (a,p)=>qaA l (qbx l (a+p))):=Lh (by unfold zc;rw [if_neg L0];try rfl)
 generalize zc l=R at HN ⊢
 go_enter func120,ntmps120
 go_wp2_with (first | (go_at_call 139;refine (values _).mono ?_;rintro e w1 ⟨b,rfl,hmap,hbel,hbb⟩))
 have hl1:=hl.below hbel
 go_loop [5,6,25] (fun x y i=>∃ (k:Nat) (a p:Int),k<=l.length/\i = .int .i64 k/\x = .int .i64 a/\y = .int .i64 p/\0<=a/\a<=999999999/\0<=p/\p<=999999999/\Hid (vS l 0 0=vS (l.drop k) a p)) (fun _ _ i=>l.length-(intOf i).toNat)
 case atStart=>exact ⟨0,0,0,by omega,rfl,rfl,rfl,by omega,by omega,by omega,by omega,Lh rfl⟩
 case round =>
  obtain ⟨k,a,p,hk,rfl,rfl,rfl,ha0,ha1,hp0,hp1,HL⟩:=hrel
  by_cases hlt:k<l.length
  ·obtain ⟨bb,oo,rfl,hbB,hc⟩:=hl1.at_ hlt;rw [yM _ _ hlt] at hc;have hs:l[k].size<=maxLen:=hsz _ (Lt hlt);have HD:Hid (l.drop k=l[k]::l.drop (k+1)):=Lh (Ls hlt);generalize l[k]=s at *
   have t31:=qbr s (wb 31) [109,105,110,117,115] rfl;have t28:=qbr s (wb 28) [104,117,110,100,114,101,100] rfl;have t29:=qbr s (wb 29) [116,104,111,117,115,97,110,100] rfl;have t30:=qbr s (wb 30) [109,105,108,108,105,111,110] rfl;have HS:Hid (∀ x,swN a p s=x->swN a p s=x):=Lh fun _ h=>h
   have HL2:Hid (∀ x,kp a p s=x->vS l 0 0=match x with
    | none=>none
    | some (a',p')=>vS (l.drop (k+1)) a' p'):=Lh (by rintro x rfl;rw [HL.out,HD.out,vS];try rfl)
   go_upto_block 2 with (fail)
   go_cut [5,6] (fun x y wx=>wx=w1/\∃ a' p':Int,x = .int .i64 a'/\y = .int .i64 p'/\Hid (swN a p s=some (a',p')))
   case first =>
    by_cases c31:s=wb 31
    ·have d31:(s.toList==[109,105,110,117,115])=true:=by rw [t31];simp [c31]
     have HH:Hid (swN a p s=some (a,p)):=Lh (by unfold swN;rw [if_pos c31]);clear t31 t28 t29 t30 c31
     go_wp2_with fail
     go_meet;exact ⟨rfl,_,_,rfl,rfl,HH⟩
    have d31:(s.toList==[109,105,110,117,115])=false:=by rw [t31];simp [c31]
    by_cases c28:s=wb 28
    ·have d28:(s.toList==[104,117,110,100,114,101,100])=true:=by rw [t28];simp [c28]
     have HH:Hid (swN a p s=some (a,p * 100)):=Lh (by unfold swN;rw [if_neg c31,if_pos c28]);clear t31 t28 t29 t30 c31 c28
     go_wp2_with fail
     go_meet;exact ⟨rfl,_,_,rfl,rfl,HH⟩
    have d28:(s.toList==[104,117,110,100,114,101,100])=false:=by rw [t28];simp [c28]
    by_cases c29:s=wb 29
    ·have d29:(s.toList==[116,104,111,117,115,97,110,100])=true:=by rw [t29];simp [c29]
     have HH:Hid (swN a p s=some (a+1000 * p,0)):=Lh (by unfold swN;rw [if_neg c31,if_neg c28,if_pos c29]);clear t31 t28 t29 t30 c31 c28 c29
     go_wp2_with fail
     go_meet;exact ⟨rfl,_,_,rfl,rfl,HH⟩
    have d29:(s.toList==[116,104,111,117,115,97,110,100])=false:=by rw [t29];simp [c29]
    by_cases c30:s=wb 30
    ·have d30:(s.toList==[109,105,108,108,105,111,110])=true:=by rw [t30];simp [c30]
     have HH:Hid (swN a p s=some (a+1000000 * p,0)):=Lh (by unfold swN;rw [if_neg c31,if_neg c28,if_neg c29,if_pos c30]);clear t31 t28 t29 t30 c31 c28 c29 c30
     go_wp2_with fail
     go_meet;exact ⟨rfl,_,_,rfl,rfl,HH⟩
    have d30:(s.toList==[109,105,108,108,105,111,110])=false:=by rw [t30];simp [c30]
    have HH:Hid (swN a p s=match qbS 28 s with
     | none=>none
     | some v=>some (a,p+v)):=Lh (by unfold swN;rw [if_neg c31,if_neg c28,if_neg c29,if_neg c30];try rfl)
    have HB:=Lh (qih 28 L0 s);have HM:=Lh hmap;clear t31 t28 t29 t30 c31 c28 c29 c30 hmap;generalize qbS 28=vf at *
    cases hv:vf s with
    | none =>
     have HV:=Lh hv;clear hv;have k1:(vf s).isSome=false:=by rw [HV.out];rfl
     have k2:(vf s).getD 0=0:=by rw [HV.out];rfl
     go_wp2_with (at_lookup;refine qeg rfl _ _ _ rfl underlying9 underlying186 underlying3 qid rfl HM.out rfl hs ?_)
     go_ret2;have:R=none:=by
      rw [HN.out,HL2.out none (by unfold kp;rw [HH.out,HV.out];try rfl)]
     rw [this];exact ⟨rfl,hbel⟩
    | some v =>
     have HV:=Lh hv;clear hv;have k1:(vf s).isSome=true:=by rw [HV.out];rfl
     have k2:(vf s).getD 0=v:=by rw [HV.out];rfl
     have hb1:=(HB.out v HV.out).1;have hb2:=(HB.out v HV.out).2
     go_wp2_with (at_lookup;refine qeg rfl _ _ _ rfl underlying9 underlying186 underlying3 qid rfl HM.out rfl hs ?_)
     go_meet;exact ⟨rfl,_,_,rfl,rfl,Lh (by rw [HH.out,HV.out])⟩
   case rest =>
    obtain ⟨rfl,a',p',rfl,rfl,HH⟩:=hcut;have hbd:=swN_bd a p s a' p' HH.out ha0 ha1 hp0 hp1;obtain ⟨b1,b2,b3,b4⟩:=hbd
    by_cases q1:999999999<p'
    ·have HR:Hid (R=none):=Lh (by rw [HN.out,HL2.out none (by unfold kp;rw [HH.out];simp [q1])]);clear t31 t28 t29 t30 hmap
     go_wp2_with fail
     go_ret2;rw [HR.out];exact ⟨rfl,hbel⟩
    by_cases q2:999999999<a'
    ·have HR:Hid (R=none):=Lh (by rw [HN.out,HL2.out none (by unfold kp;rw [HH.out];simp [q2])]);clear t31 t28 t29 t30 hmap
     go_wp2_with fail
     go_ret2;rw [HR.out];exact ⟨rfl,hbel⟩
    clear t31 t28 t29 t30;have HX:Hid (vS l 0 0=vS (l.drop (k+1)) a' p'):=Lh (by rw [HL2.out (some (a',p')) (by unfold kp;rw [HH.out];simp [q1,q2])]);clear hmap
    go_wp2_with fail
    exact ⟨⟨k+1,a',p',by omega,by go_num,rfl,rfl,b1,by omega,b3,by omega,HX⟩,by simp [intOf];omega⟩
  ·obtain rfl:k=l.length:=by omega
   have HR:Hid (R=qaA l (qbx l (a+p))):=Lh (by rw [HN.out,HL.out,List.drop_length,vS]);obtain ⟨bb,oo,rfl,hbB,hc⟩:=hl1.at_ h0;rw [yM _ _ h0,Nat.add_zero] at hc;have t31:=qbr l[0] (wb 31) [109,105,110,117,115] rfl
   have HG:Hid (qbx l (a+p)=if l[0]=wb 31 then -(a+p) else a+p):=Lh (by
    unfold qbx
    cases l with
    | nil=>simp at h0
    | cons x t=>simp)
   clear hmap
   go_upto_if 72 with fail
   go_cut [11] (fun x wx=>wx=w1/\x = .int .i64 (qbx l (a+p)))
   case first =>
    by_cases c31:l[0]=wb 31
    ·have d31:(l[0].toList==[109,105,110,117,115])=true:=by rw [t31];simp [c31]
     clear t31
     go_wp2_with fail
     go_meet;rw [HG.out,if_pos c31];exact ⟨rfl,by go_num⟩
    ·have d31:(l[0].toList==[109,105,110,117,115])=false:=by rw [t31];simp [c31]
     clear t31
     go_wp2_with fail
     go_meet;rw [HG.out,if_neg c31];exact ⟨rfl,rfl⟩
   case rest =>
    obtain ⟨rfl,rfl⟩:=hcut;clear t31 HG;generalize qbx l (a+p)=n at *
    by_cases hin : -999999999<=n/\n<=999999999
    ·obtain ⟨i1,i2⟩:=hin;have hle:=ke n
     by_cases heq:(qm n).map wb=l
     ·have HR2:Hid (R=some n):=Lh (by rw [HR.out];unfold qaA;rw [if_pos ⟨i1,i2,heq⟩]);have HE:=Lh heq;clear heq
      go_wp2_with (first
       | (go_at_call 140;refine (qgW n i1 i2 _).mono ?_;rintro e w2 ⟨A2,c2,rfl,hown2,hbel2⟩)
       | (go_at_call 141;refine (equal_t ((qm n).map wb) l HE.out A2 _ _ _ c2 c _ _ _ L1 rfl (by rw [<- wv_sv];exact Rd.of_own hown2) ((hl1.more hbel.size).below hbel2) L0 L0).mono ?_;rintro e w3 ⟨rfl,n3,rfl⟩))
      go_ret2;rw [HR2.out];exact ⟨rfl,qf (hbel.trans (hbel2.mono hbel.size))⟩
     ·have HR2:Hid (R=none):=Lh (by rw [HR.out];unfold qaA;rw [if_neg (fun h=>heq h.2.2)]);have HE:=Lh heq;clear heq
      go_wp2_with (first
       | (go_at_call 140;refine (qgW n i1 i2 _).mono ?_;rintro e w2 ⟨A2,c2,rfl,hown2,hbel2⟩)
       | (go_at_call 141;refine (equal_f ((qm n).map wb) l HE.out A2 _ _ _ c2 c _ _ _ L1 rfl (by rw [<- wv_sv];exact Rd.of_own hown2) ((hl1.more hbel.size).below hbel2) L0 L0).mono ?_;rintro e w3 ⟨rfl,n3,rfl⟩))
      go_ret2;rw [HR2.out];exact ⟨rfl,qf (hbel.trans (hbel2.mono hbel.size))⟩
    ·have HR2:Hid (R=none):=Lh (by rw [HR.out];unfold qaA;rw [if_neg (fun h=>hin ⟨h.1,h.2.1⟩)])
     go_wp2_with (go_at_call 140;refine (qf7 n L0 _).mono ?_;rintro e w2 ⟨rfl,hbel2⟩)
     go_ret2;rw [HR2.out];exact ⟨rfl,hbel.trans (hbel2.mono hbel.size)⟩
theorem number (l:List ByteArray) (A:Option Addr) (n c:Nat) (w:World) (hn:l.length=n) (hl:Rd w w.heap.size 1 A n (sv l)) (hsz : ∀ s∈l,s.size<=maxLen) :
  Calls prog 120 #[.slice A n c] w (qh (kE (zc l)) w):=by
 subst hn
 by_cases h:l.length=0∨15<l.length
 ·exact qfn l A c w h
 ·exact qcR l A c w hl L0 L0 hsz
def qaS (l:List ByteArray):Nat->Option (Int × Nat)
 | 0=>none
 | k+1=>match zc (l.take (k+1)) with
  | some n=>some (n,k+1)
  | none=>qaS l k
def prefixL (l:List ByteArray):Option (Int × Nat):=qaS l (min l.length 15)
def ve:Option (Int × Nat)->Value
 | some (n,k)=>.tuple #[.int .i64 n,.int .i64 k,.int .i64 0]
 | none=>.tuple #[.int .i64 0,.int .i64 0,.int .i64 17]
theorem qmq (l:List ByteArray) (k:Nat):sv (l.take k)=(sv l).take k:=by simp [sv,List.map_take]
theorem kx (l:List ByteArray) (A:Option Addr) (n c:Nat) (w:World) (hn:l.length=n) (hc:n<=c) (hbig:c<=maxLen) (hl:Rd w w.heap.size 1 A n (sv l)) (hsz : ∀ s∈l,s.size<=maxLen) :
  Calls prog 97 #[.slice A n c] w (qh (ve (prefixL l)) w):=by
 unfold maxLen at hbig;have HN:=Lh hn;clear hn;have HP:Hid (prefixL l=qaS l (min l.length 15)):=Lh rfl;generalize prefixL l=R at *
 go_enter func97,ntmps97
 go_upto_region 1 with fail
 go_cut [5] (fun x wx=>wx=w/\x = .int .i64 ((min n 15:Nat):Int))
 case first =>
  by_cases hq:n<=15
  ·have hq':(n:Int)<=15:=by omega
   have hm:min n 15=n:=Nat.min_eq_left hq;have HM:=Lh hm;clear hm
   go_wp2_with fail
   go_meet;exact ⟨rfl,by first | (rw [HM.out];done) | (rw [HM.out];congr 1;omega)⟩
  ·have hq':(15:Int)<(n:Int):=by omega
   have hm:min n 15=15:=Nat.min_eq_right L0;have HM:=Lh hm;clear hm
   go_wp2_with fail
   go_meet;exact ⟨rfl,by first | (rw [HM.out];rfl) | (rw [HM.out];congr 1;omega)⟩
 case rest =>
  obtain ⟨rfl,rfl⟩:=hcut;have hkm:min n 15<=n/\min n 15<=15:=by omega
  rw [HN.out] at HP;generalize min n 15=k0 at *
  go_wp2_with fail
  go_loopw [5] (fun i wr=>∃ k:Nat,k<=n/\k<=15/\i = .int .i64 k/\Below wc.heap.size wc wr/\Hid (R=qaS l k)) (fun i _=>(intOf i).toNat)
  case atStart=>exact ⟨k0,hkm.1,hkm.2,rfl,Le _ _,HP⟩
  case round =>
   obtain ⟨k,hk,hk15,rfl,hbel,HL⟩:=hrel
   by_cases hlt:0<k
   ·obtain ⟨b,o,rfl,hbB,_⟩:=hl.at_ (show k-1<n by omega);have hT:Rd wr wr.heap.size 1 (some ⟨b,o,none⟩) k (sv (l.take k)):=by
     have:=((hl.below hbel).more hbel.size).take hk
     rwa [Nat.mul_one,<- qmq] at this
    have hlen:(l.take k).length=k:=by rw [Lu,HN.out];omega
    have hszT : ∀ s∈l.take k,s.size<=maxLen:=fun s hs=>hsz s (List.mem_of_mem_take hs)
    have HC:=Lh (number (l.take k) (some ⟨b,o,none⟩) k c wr hlen hT hszT);clear hlen hT hszT hl
    cases hr:zc (l.take k) with
    | none =>
     rw [hr] at HC
     have HR2:Hid (R=qaS l (k-1)):=Lh (by
      rw [HL.out];obtain ⟨j,rfl⟩ : ∃ j,k=j+1:=⟨k-1,by omega⟩
      rw [qaS,hr]
      rfl)
     clear hr;simp only [kE] at HC
     go_wp2_with (go_at_call 120;refine HC.out.mono ?_;rintro e w1 ⟨rfl,hbel1⟩)
     exact ⟨⟨k-1,by omega,by omega,by go_num,hbel.trans (hbel1.mono hbel.size),HR2⟩,by simp [intOf];omega⟩
    | some v =>
     rw [hr] at HC
     have HR2:Hid (R=some (v,k)):=Lh (by
      rw [HL.out];obtain ⟨j,rfl⟩ : ∃ j,k=j+1:=⟨k-1,by omega⟩
      rw [qaS,hr])
     clear hr;simp only [kE] at HC
     go_wp2_with (go_at_call 120;refine HC.out.mono ?_;rintro e w1 ⟨rfl,hbel1⟩)
     go_ret3;rw [HR2.out];exact ⟨rfl,hbel.trans (hbel1.mono hbel.size)⟩
   ·obtain rfl:k=0:=by omega
    go_wp2;go_ret3;rw [HL.out];exact ⟨rfl,hbel⟩
end Go.Proofs.YtbogmeeijdaijaaGreatDoor
namespace Go.Proofs.YtbogmeeijdaijaaGreatDoor
theorem vp {l:List ByteArray} {n:Int} (h:zc l=some n) : -999999999<=n/\n<=999999999/\(qm n).map wb=l/\0<l.length/\l.length<=15:=by
 unfold zc at h
 split at h
 ·cases h
 ·split at h
  ·cases h
  ·unfold qaA at h
   split at h
   ·rename_i hc
    injection h with h
    subst h;exact ⟨hc.1,hc.2.1,hc.2.2,by omega,by omega⟩
   ·cases h
theorem qhc {l:List ByteArray} : ∀ {m:Nat} {n:Int} {k:Nat},qaS l m=some (n,k)->0<k/\k<=m/\zc (l.take k)=some n/\∀ i,k<i->i<=m->zc (l.take i)=none:=by
 intro m
 induction m with
 | zero=>intro n k h;cases h
 | succ m ih =>
  intro n k h;rw [qaS] at h
  split at h
  ·rename_i v hv
   simp only [Option.some.injEq,Prod.mk.injEq] at h;obtain ⟨rfl,rfl⟩:=h;exact ⟨by omega,by omega,hv,fun i h1 h2=>by omega⟩
  ·rename_i hv
   obtain ⟨a,b,c,d⟩:=ih h;refine ⟨a,by omega,c,fun i h1 h2=>?_⟩
   rcases Nat.lt_or_ge i (m+1) with h3 | h3
   ·exact d i h1 L0
   ·obtain rfl:i=m+1:=by omega
    exact hv
theorem qcq (l:List ByteArray) (i:Nat) (h1:15<i) (h2:i<=l.length):zc (l.take i)=none:=by
 unfold zc;rw [if_pos (by rw [Lu];omega)]
theorem zF {l:List ByteArray} {n:Int} {k:Nat} (h:prefixL l=some (n,k)):0<k/\k<=l.length/\k<=15/\zc (l.take k)=some n/\∀ i,k<i->i<=l.length->zc (l.take i)=none:=by
 obtain ⟨a,b,c,d⟩:=qhc h;refine ⟨a,by omega,by omega,c,fun i h1 h2=>?_⟩
 rcases Nat.lt_or_ge 15 i with h3 | h3
 ·exact qcq l i h3 h2
 ·exact d i h1 L0
end Go.Proofs.YtbogmeeijdaijaaGreatDoor
namespace Go.Proofs.YtbogmeeijdaijaaGreatDoor
open Go.Proofs.Tryz Go.RowKit
set_option maxRecDepth 20000
theorem qbk {w w':World} {a:Addr} {v:Value} (h:w.cell? a=some v) (hb:Below w.heap.size w w'):w'.cell? a=some v:=by
 have hl:a.block<w.heap.size:=by
  rcases Nat.lt_or_ge a.block w.heap.size with hl | hl
  ·exact hl
  ·unfold World.cell? at h;rw [Array.getElem?_eq_none hl] at h
   cases h
 exact (hb.cell hl).trans h
def cB:ByteArray:=⟨#[99,104,97,114,97,99,116,101,114]⟩
def zC (n:Int):Bool:=(decide (0<=n)&&decide (n<=55295)) || (decide (57344<=n)&&decide (n<=1114111))
theorem jV (n:Int):zC n=true↔ks n:=by unfold zC ks;simp
theorem qed (n:Int):zC n=false↔¬ ks n:=by rw [<- jV];cases zC n <;> simp
def qD (r:Int):List ByteArray:=match jM r with
 | some i=>[nb i]
 | none=>if zC r then cB::(qm r).map wb else []
def qdK (s:ByteArray):Option Nat:=(List.range 32).find? fun i=>decide (nb i=s)
theorem qez {s:ByteArray} {i:Nat} (h:qdK s=some i):i<32/\s=nb i:=by
 unfold qdK at h;have h1:=List.find?_some h;have h2:=List.mem_of_find?_eq_some h
 simp at h1 h2
 exact ⟨h2,h1.symm⟩
theorem qiZ {s:ByteArray} (h:qdK s=none) : ∀ i,i<32->nb i≠s:=by
 intro i hi;unfold qdK at h;rw [List.find?_eq_none] at h;have:=h i (by simp [hi])
 simpa using this
def qda:Option (Int × Nat)->Option (Int × Nat)
 | none=>none
 | some (n,k)=>if zC n=true/\jM n=none then some (n,1+k) else none
def zM:List ByteArray->Option (Int × Nat)
 | []=>none
 | s::t=>match qdK s with
  | some i=>some (yq i,1)
  | none=>if s=cB then qda (prefixL t) else none
def qmc:Option (Int × Nat)->Value
 | some (r,k)=>.tuple #[.int .i32 r,.int .i64 k,.int .i64 0]
 | none=>.tuple #[.int .i32 0,.int .i64 0,.int .i64 17]
theorem qco {v:Int} {k:Nat} (h : ¬ (zC v=true/\jM v=none)):qda (some (v,k))=none:=if_neg h
theorem qcu {v:Int} {k:Nat} (h:zC v=true/\jM v=none):qda (some (v,k))=some (v,1+k):=if_pos h
theorem wrap_i32 {v:Int} (h:zC v=true):IntKind.i32.wrap v=v:=by
 have:=(jV v).1 h;unfold ks at this;exact IntWalk.i32_in _ L0
theorem qgt (A:Option Addr) (c:Nat) (w:World):Calls prog 192 #[.slice A 0 c] w (qh (qmc none) w):=by
 go_enter func192,ntmps192
 go_wp2;go_ret3;exact ⟨rfl,Le _ _⟩
theorem qmu {w:World} {B n c:Nat} {b o:Nat} {s:ByteArray} {t:List ByteArray} (hn:t.length+1=n) (hc:n<=c) (rd:Rd w B 1 (some ⟨b,o,none⟩) n (sv (s::t))) :
  Rd w B 1 (if c=1 then some ⟨b,o,none⟩ else some ⟨b,o+1,none⟩) (n-1) (sv t):=by
 have h:=rd.cut (k:=1) (cap:=c) L0 hc;simp only [Nat.mul_one,Option.map_some,vl] at h;exact h
theorem qfi (s:ByteArray) (t:List ByteArray) (b o n c:Nat) (w:World) (hn:t.length+1=n) (hc:n<=c) (hm:c<=maxLen) (rd:Rd w w.heap.size 1 (some ⟨b,o,none⟩) n (sv (s::t))) (hsz : ∀ x∈s::t,x.size<=maxLen) (hs:Sp w) :
  Calls prog 192 #[.slice (some ⟨b,o,none⟩) n c] w (qh (qmc (zM (s::t))) w):=by
 have e0:((n:Int)==0)=false:=Lm.2 L0;have hn1:1<=n:=by omega
 have hcell:w.cell? ⟨b,o,none⟩=some (.string s):=by
  obtain ⟨b',o',e,_,h⟩:=rd.at_ (show 0<n by omega)
  cases e
  simpa [sv] using h
 have HS:=Lh hs
 cases hi:qdK s with
 | some i =>
  obtain ⟨hi32,rfl⟩:=qez hi;have HR:Hid (zM (nb i::t)=some ((yq i:Int),1)):=Lh (by rw [zM,hi]);have HC:=Lh (qiU i hi32 w hs);rw [HR.out];clear hi hs rd hsz hn hm;generalize nb i=s at *
  go_enter func192,ntmps192
  go_wp2_with (go_at_call 202;refine HC.out.mono ?_;rintro e w1 ⟨rfl,hbel1⟩)
  go_ret3;exact ⟨rfl,hbel1⟩
 | none =>
  have HC:=Lh (qjY s (qiZ hi) w hs);have tc:=qbr s cB [99,104,97,114,97,99,116,101,114] rfl
  by_cases hcb:s=cB
  ·have dc:(s.toList==[99,104,97,114,97,99,116,101,114])=true:=by rw [tc];simp [hcb]
   have HR:Hid (zM (s::t)=qda (prefixL t)):=Lh (by rw [zM,hi];exact if_pos hcb);have hcm:c<=9223372036854775807:=by unfold maxLen at hm;omega
   have HT:=Lh (qmu hn hc rd);have HP:Hid (∀ w1 A',Below w.heap.size w w1->Rd w w.heap.size 1 A' (n-1) (sv t)->Calls prog 97 #[.slice A' (n-1) (c-1)] w1 (qh (ve (prefixL t)) w1)):=Lh fun w1 A' hb h =>
    kx t A' (n-1) (c-1) w1 L0 L0 (Lj (Nat.sub_le _ _) hm) ((h.below hb).more hb.size) (fun x hx=>hsz x (List.mem_cons_of_mem _ hx))
   have Htn:=Lh hn;clear tc hcb hi hs rd hsz hn hm
   cases hp:prefixL t with
   | none =>
    rw [hp] at HP;have HR2:Hid (zM (s::t)=none):=Lh (by rw [HR.out,hp];rfl);rw [HR2.out];clear hp;simp only [ve] at HP
    by_cases c1:c=1
    ·obtain rfl:n=1:=by omega
     have HT1:Hid (Rd w w.heap.size 1 (some ⟨b,o,none⟩) 0 (sv t)):=Lh (by have:=HT.out;rwa [if_pos c1] at this);subst c1;simp only [Nat.sub_self] at HP;clear HT HR HR2
     go_enter func192,ntmps192
     go_wp2_with (first
      | (go_at_call 202;refine HC.out.mono ?_;rintro e w1 ⟨rfl,hbel1⟩;have hcell1:=qbk hcell hbel1)
      | (go_at_call 97;refine (HP.out _ _ hbel1 HT1.out).mono ?_;rintro e w2 ⟨rfl,hbel2⟩))
     go_ret3;exact ⟨rfl,hbel1.trans (hbel2.mono hbel1.size)⟩
    ·have HT1:Hid (Rd w w.heap.size 1 (some ⟨b,o+1,none⟩) (n-1) (sv t)):=Lh (by have:=HT.out;rwa [if_neg c1] at this)
     go_enter func192,ntmps192
     go_wp2_with (first
      | (go_at_call 202;refine HC.out.mono ?_;rintro e w1 ⟨rfl,hbel1⟩;have hcell1:=qbk hcell hbel1)
      | (go_at_call 97;refine (HP.out _ _ hbel1 HT1.out).mono ?_;rintro e w2 ⟨rfl,hbel2⟩))
     go_ret3;exact ⟨rfl,hbel1.trans (hbel2.mono hbel1.size)⟩
   | some x =>
    obtain ⟨v,k⟩:=x;rw [hp] at HP;obtain ⟨k1,k2,k3,k4,k5⟩:=zF hp;obtain ⟨v1,v2,_⟩:=vp k4;have c1 : ¬ c=1:=by have:=Htn.out;omega
    have hk16:k<=15:=k3;have HT1:Hid (Rd w w.heap.size 1 (some ⟨b,o+1,none⟩) (n-1) (sv t)):=Lh (by have:=HT.out;rwa [if_neg c1] at this);simp only [ve] at HP;have Hpv:Hid (prefixL t=some (v,k)):=Lh hp;clear hp k4 k5 k2 k3
    cases hch:zC v with
    | false =>
     have HR2:Hid (zM (s::t)=none):=Lh (by rw [HR.out,Hpv.out];exact qco (by simp [hch]));have HCC:=Lh (char_f v ((qed v).1 hch));rw [HR2.out];clear hch
     go_enter func192,ntmps192
     go_wp2_with (first
      | (go_at_call 202;refine HC.out.mono ?_;rintro e w1 ⟨rfl,hbel1⟩;have hcell1:=qbk hcell hbel1)
      | (go_at_call 97;refine (HP.out _ _ hbel1 HT1.out).mono ?_;rintro e w2 ⟨rfl,hbel2⟩)
      | (go_at_call 203;refine (HCC.out _).mono ?_;rintro e w3 ⟨rfl,hbel3⟩))
     go_ret3;exact ⟨rfl,(hbel1.trans (hbel2.mono hbel1.size)).trans (hbel3.mono (Lj hbel1.size hbel2.size))⟩
    | true =>
     have HCC:=Lh (char_t v ((jV v).1 hch));have Hw:=wrap_i32 hch
     cases hi:jM v with
     | some i =>
      have HR2:Hid (zM (s::t)=none):=Lh (by rw [HR.out,Hpv.out];exact qco (by simp [hi]));have HI:Hid (∀ w,Calls prog 204 #[.int .i32 v] w (qh (.int .i64 (i:Int)) w)):=Lh fun w=>by
       have:=index v w;unfold idxV at this
       rwa [hi] at this
      rw [HR2.out];have hge:(i:Int) ≥ 0:=Int.natCast_nonneg i;clear hch hi
      go_enter func192,ntmps192
      go_wp2_with (first
       | (go_at_call 202;refine HC.out.mono ?_;rintro e w1 ⟨rfl,hbel1⟩;have hcell1:=qbk hcell hbel1)
       | (go_at_call 97;refine (HP.out _ _ hbel1 HT1.out).mono ?_;rintro e w2 ⟨rfl,hbel2⟩)
       | (go_at_call 203;refine (HCC.out _).mono ?_;rintro e w3 ⟨rfl,hbel3⟩)
       | (go_at_call 204;refine (HI.out _).mono ?_;rintro e w4 ⟨rfl,hbel4⟩))
      go_ret3;exact ⟨rfl,((hbel1.trans (hbel2.mono hbel1.size)).trans (hbel3.mono (Lj hbel1.size hbel2.size))).trans (hbel4.mono (Lj hbel1.size (Lj hbel2.size hbel3.size)))⟩
     | none =>
      have HR2:Hid (zM (s::t)=some (v,1+k)):=Lh (by rw [HR.out,Hpv.out];exact qcu ⟨hch,hi⟩);have HI:Hid (∀ w,Calls prog 204 #[.int .i32 v] w (qh (.int .i64 (-1)) w)):=Lh fun w=>by
       have:=index v w;unfold idxV at this
       rwa [hi] at this
      rw [HR2.out];clear hch hi
      go_enter func192,ntmps192
      go_wp2_with (first
       | (go_at_call 202;refine HC.out.mono ?_;rintro e w1 ⟨rfl,hbel1⟩;have hcell1:=qbk hcell hbel1)
       | (go_at_call 97;refine (HP.out _ _ hbel1 HT1.out).mono ?_;rintro e w2 ⟨rfl,hbel2⟩)
       | (go_at_call 203;refine (HCC.out _).mono ?_;rintro e w3 ⟨rfl,hbel3⟩)
       | (go_at_call 204;refine (HI.out _).mono ?_;rintro e w4 ⟨rfl,hbel4⟩))
      go_ret3;exact ⟨by simp [qmc],((hbel1.trans (hbel2.mono hbel1.size)).trans (hbel3.mono (Lj hbel1.size hbel2.size))).trans (hbel4.mono (Lj hbel1.size (Lj hbel2.size hbel3.size)))⟩
  ·have dc:(s.toList==[99,104,97,114,97,99,116,101,114])=false:=by rw [tc];simp [hcb]
   have HR:Hid (zM (s::t)=none):=Lh (by rw [zM,hi];exact if_neg hcb);rw [HR.out];clear tc hcb hi hs rd hsz hn hm
   go_enter func192,ntmps192
   go_wp2_with (go_at_call 202;refine HC.out.mono ?_;rintro e w1 ⟨rfl,hbel1⟩;have hcell1:=qbk hcell hbel1)
   go_ret3;exact ⟨rfl,hbel1⟩
theorem qcO (q:Nat) (hq:q<1000) : ∀ i∈zj q,i<32:=by
 have : ∀ q:Fin 1000,(zj q.val).all (· < 32)=true:=by decide +kernel
 have h:=this ⟨q,hq⟩;intro i hi;have:=List.all_eq_true.1 h i hi
 simpa using this
theorem nb_wb (i j:Nat) (h:i<32) (k:j<32):wb j≠nb i:=by
 have : ∀ i j:Fin 32,wb j.val≠nb i.val:=by decide +kernel
 exact this ⟨i,h⟩ ⟨j,k⟩
theorem cB_wb (j:Nat) (k:j<32):wb j≠cB:=by
 have : ∀ j:Fin 32,wb j.val≠cB:=by decide +kernel
 exact this ⟨j,k⟩
def NoNum (t:List ByteArray):Prop:=∀ h t',t=h::t'->∀ j,j<32->wb j≠h
theorem NoNum.nil:NoNum []:=fun _ _ h=>by cases h
theorem NoNum.nb {i:Nat} (hi:i<32) (t:List ByteArray):NoNum (nb i::t):=fun _ _ h j hj=>by cases h;exact nb_wb i j hi hj
theorem NoNum.cB (t:List ByteArray):NoNum (cB::t):=fun _ _ h j hj=>by cases h;exact cB_wb j hj
theorem jT (n:Int) (h1 : -999999999<=n) (h2:n<=999999999) : ∀ i∈qm n,i<32:=by
 have hsg : ∀ q x,q<1000->x<32->∀ i∈yO q x,i<32:=by
  intro q x hq hx i hi;unfold yO at hi
  split at hi
  ·rw [List.mem_append] at hi
   rcases hi with hi | hi
   ·exact qcO q hq i hi
   ·simp at hi;omega
  ·cases hi
 have hse : ∀ q,q<1000->∀ i∈qak q,i<32:=by
  intro q hq i hi;unfold qak at hi
  split at hi
  ·exact qcO q hq i hi
  ·cases hi
 intro i hi;unfold qm at hi
 split at hi
 ·simp at hi;omega
 ·rw [km,List.mem_append,List.mem_append,List.mem_append] at hi
  rcases hi with hi | (hi | hi) | hi
  ·split at hi
   ·simp at hi;omega
   ·cases hi
  ·exact hsg _ _ L0 L0 i hi
  ·exact hsg _ _ L0 L0 i hi
  ·exact hse _ L0 i hi
theorem kj {r:Int} (h:zC r=true):0<=r/\r<=1114111:=by
 have:=(jV r).1 h;unfold ks at this
 omega
theorem qaY {r:Int} {i:Nat} (h:jM r=some i):zC r=true:=by
 obtain ⟨_,_,a,b⟩:=jz h;exact (jV r).2 (by unfold ks;omega)
theorem qaj {l:List ByteArray} {r:Int} {k:Nat} (h:zM l=some (r,k)):zC r=true/\0<k/\k<=l.length/\k<=16/\qD r=l.take k:=by
 cases l with
 | nil=>cases h
 | cons s t =>
  rw [zM] at h
  cases hi:qdK s with
  | some i =>
   rw [hi] at h;simp only [Option.some.injEq,Prod.mk.injEq] at h;obtain ⟨rfl,rfl⟩:=h;obtain ⟨a,rfl⟩:=qez hi;have hs:jM (yq i:Int)=some i:=by
    unfold jM;rw [if_pos L0];exact qjv i a
   refine ⟨qaY hs,by omega,by simp,by omega,?_⟩;unfold qD;rw [hs]
   simp
  | none =>
   rw [hi] at h;simp only at h
   split at h
   ·rename_i hc
    cases hp:prefixL t with
    | none=>rw [hp] at h;cases h
    | some x =>
     obtain ⟨v,m⟩:=x;rw [hp] at h
     by_cases hq:zC v=true/\jM v=none
     ·rw [qcu hq] at h;simp only [Option.some.injEq,Prod.mk.injEq] at h;obtain ⟨rfl,rfl⟩:=h;obtain ⟨p1,p2,p3,p4,_⟩:=zF hp;obtain ⟨_,_,n3,_⟩:=vp p4;refine ⟨hq.1,by omega,by simp;omega,by omega,?_⟩;unfold qD;rw [hq.2];simp only [hq.1,if_true,n3,hc];rw [Nat.add_comm 1 m,List.take_succ_cons]
     ·rw [qco hq] at h
      cases h
   ·cases h
end Go.Proofs.YtbogmeeijdaijaaGreatDoor
namespace Go.Proofs.YtbogmeeijdaijaaGreatDoor
def bCap:ByteArray:=⟨#[99,97,112]⟩
def yi:ByteArray:=⟨#[99,97,112,115]⟩
def vD:ByteArray:=⟨#[119,111,114,100]⟩
def yB:ByteArray:=⟨#[115,112,97,99,101]⟩
def bTimes:ByteArray:=⟨#[116,105,109,101,115]⟩
def qS:ByteArray:=⟨#[115,112,101,108,108,101,100]⟩
def qaO:ByteArray:=⟨#[101,110,100]⟩
def vI:ByteArray:=⟨#[100,105,103,105,116,115]⟩
def zO:ByteArray:=⟨#[106,111,105,110,101,100]⟩
def vP:Nat->ByteArray
 | 0=>⟨#[112,108,97,105,110]⟩
 | 1=>⟨#[115,116,114,111,110,103]⟩
 | 2=>⟨#[105,110,118,101,114,115,101]⟩
 | _=>⟨#[104,105,100,100,101,110]⟩
def ctrlL:List ByteArray:=[cB,zO,bCap,yi,vD,yB,bTimes,qS,qaO,vI,vP 0,vP 1,vP 2,vP 3,
 ⟨#[115,105,122,101]⟩,⟨#[114,111,119,115]⟩,⟨#[99,111,108,117,109,110,115]⟩,⟨#[115,99,114,111,108,108]⟩,⟨#[108,105,110,101]⟩,⟨#[108,105,110,101,115]⟩,⟨#[102,114,111,109]⟩,⟨#[116,111]⟩,⟨#[117,112]⟩,⟨#[100,111,119,110]⟩,
 ⟨#[99,111,108,117,109,110]⟩,⟨#[114,101,112,108,97,99,101]⟩,⟨#[119,105,116,104]⟩,⟨#[105,110,115,101,114,116]⟩,⟨#[100,101,108,101,116,101]⟩,⟨#[99,117,114,115,111,114]⟩,⟨#[118,105,115,105,98,108,101]⟩,⟨#[105,110,118,105,115,105,98,108,101]⟩,
 ⟨#[109,111,114,101]⟩,⟨#[100,111,110,101]⟩,⟨#[117,112,100,97,116,101,115]⟩,⟨#[114,101,97,100,115]⟩,⟨#[115,116,111,112]⟩,⟨#[98,108,97,110,107]⟩,⟨#[98,121]⟩]
def qL (s:ByteArray):Bool:=(List.range 32).any fun j=>decide (wb j=s)
def jF (s:ByteArray):Bool:=ctrlL.any (fun x=>decide (x=s)) || qL s || (List.range 32).any fun j=>decide (nb j=s)
def headB (g:Gl):UInt8:=g.text.data.toList.headD 0
def lowB (c:UInt8):UInt8:=if 65<=c.toNat/\c.toNat<=90 then c+32 else c
def lowL (l:List Gl):List UInt8:=l.map fun g=>lowB (headB g)
def lettersL (l:List Gl) (spell:Bool):List ByteArray :=
 (if (l.filter fun g=>qd g==2).length=1 then [bCap] else if 1<(l.filter fun g=>qd g==2).length then [yi] else []) ++
 (if spell=true then qS::((lowL l).map fun c=>(⟨#[c]⟩:ByteArray))++[qaO] else (if jF ⟨(lowL l).toArray⟩=true then [vD] else [])++[⟨(lowL l).toArray⟩])
def digL (l:List Gl):List Nat:=l.map fun g=>(headB g).toNat-48
def numL (l:List Nat):Nat:=l.foldl (fun n d=>10 * n+d) 0
def numW (n:Nat):List ByteArray:=(qm (n:Int)).map wb
def digitsL (l:List Gl) (dig:Bool):List ByteArray :=
 if dig=true∨9<l.length∨(1<l.length/\(digL l).headD 1=0) then vI::(digL l).flatMap numW else numW (numL (digL l))
def qP (g:Gl):List ByteArray:=if g.text.data.toList=[32] then [yB] else (qs (qB g.text)).flatMap fun (r:Nat)=>qD (r:Int)
def qq (l:List Gl) (spell dig:Bool):List ByteArray:=match l with
 | []=>[]
 | g::t =>
  if qd g=1∨qd g=2 then lettersL (g::t) spell
  else if qd g=3 then digitsL (g::t) dig
  else if t=[] then qP g
  else numW (t.length+1)++[bTimes]++qP g
structure Spk where
 out:List ByteArray
 style:Int
 before:Nat
 silent:Bool
structure Setts where
 digits:Bool
 spell:Bool
 rep:Int
def jJ (p:Spk) (s:Setts) (l:List Gl) (n:Nat):Bool:=match l with
 | a::b::t=>decide (n=1)&&decide (a.text.data.toList=[32])&&decide (p.before≠0)&&decide (a.style=p.style)&&decide (qd b≠0)&&decide (b.style=p.style) &&
   (decide (p.before≠3) || !(qL ((qq ((b::t).take (qo (b::t) s.rep)) s.spell s.digits).headD ⟨#[]⟩)))
 | _=>false
def sayL (p:Spk) (s:Setts) (l:List Gl):Spk:=match l with
 | []=>p
 | g::t =>
  let w:=qq (g::t) s.spell s.digits
  ⟨p.out++(if g.style≠p.style then [vP g.style.toNat] else if qd g≠0/\p.before≠0 then (if p.silent=true then [] else [zO])
    else if p.out≠[]/\qL (w.headD ⟨#[]⟩)=true/\qL (p.out.getLastD ⟨#[]⟩)=true then [zO] else [])++w,g.style,qd g,false⟩
def qQ (s:Setts):Nat->Spk->List Gl->Spk
 | 0,p,_=>p
 | f+1,p,l=>if l=[] then p else
  if jJ p s l (qo l s.rep)=true then qQ s f { p with silent:=true } (l.drop (qo l s.rep))
  else qQ s f (sayL p s (l.take (qo l s.rep))) (l.drop (qo l s.rep))
def qz (l:List Gl) (s:Setts):List ByteArray:=(qQ s l.length ⟨[],0,0,false⟩ l).out
def InvU (s:US):Prop :=
 (s.m=1->∀ b,s.lo<=b->b<=s.hi->qR (s.v * 64+b % 64)) /\
 (s.m=2->∀ b c,s.lo<=b->b<=s.hi->128<=c->c<=191->qR ((s.v * 64+b % 64) * 64+c % 64)) /\
 (s.m=3->∀ b c d,s.lo<=b->b<=s.hi->128<=c->c<=191->128<=d->d<=191->qR (((s.v * 64+b % 64) * 64+c % 64) * 64+d % 64))/\s.m<=3
theorem InvU.zero {s:US} (h:s.m=0):InvU s:=⟨fun e=>(by omega),fun e=>(by omega),fun e=>(by omega),by omega⟩
theorem begU_inv (b:Nat):InvU (zt b):=by
 by_cases h2:0xC2<=b/\b<=0xDF
 ·rw [qgC h2.1 h2.2];refine ⟨fun _ x h3 h4=>?_,fun e=>(by cases e),fun e=>(by cases e),by show 1<=3;omega⟩;dsimp only at *
  unfold qR
  omega
 ·by_cases h3:0xE0<=b/\b<=0xEF
  ·rw [qdQ h3.1 h3.2];refine ⟨fun e=>(by cases e),fun _ x y h4 h5 h6 h7=>?_,fun e=>(by cases e),by show 2<=3;omega⟩;dsimp only at *
   unfold qR
   split at h4 <;> split at h5 <;> omega
  ·by_cases h4:0xF0<=b/\b<=0xF4
   ·rw [qeM h4.1 h4.2];refine ⟨fun e=>(by cases e),fun e=>(by cases e),fun _ x y z h5 h6 h7 h8 h9 h10=>?_,by show 3<=3;omega⟩;dsimp only at *
    unfold qR
    split at h5 <;> split at h6 <;> omega
   ·refine InvU.zero ?_
    show (if 0xC2<=b/\b<=0xDF then 1 else if 0xE0<=b/\b<=0xEF then 2 else if 0xF0<=b/\b<=0xF4 then 3 else 0)=0
    rw [if_neg h2,if_neg h3,if_neg h4]
theorem qcm {s:US} {b:Nat}:qat s b=true↔0<s.m/\s.lo<=b/\b<=s.hi:=by
 unfold qat
 simp [and_assoc]
theorem qki {s:US} (h:InvU s) (b:Nat):InvU (jU s b):=by
 unfold jU
 split
 ·rename_i ht
  obtain ⟨h0,h1,h2⟩:=qcm.1 ht;obtain ⟨i1,i2,i3,i4⟩:=h;refine ⟨fun e x h3 h4=>?_,fun e x y h3 h4 h5 h6=>?_,fun e=>?_,?_⟩
  ·exact i2 (by dsimp only at e;omega) b x h1 h2 h3 h4
  ·exact i3 (by dsimp only at e;omega) b x y h1 h2 h3 h4 h5 h6
  ·dsimp only at e;omega
  ·dsimp only;omega
 ·exact begU_inv b
theorem uOut_ch {s:US} (h:InvU s) (b:Nat) : ∀ r∈ku s b,qR r:=by
 have hu:qR 65533:=by unfold qR;omega
 unfold ku
 split
 ·rename_i ht
  obtain ⟨h0,h1,h2⟩:=qcm.1 ht
  split
  ·rename_i h3
   intro r hr;rw [List.mem_singleton] at hr;subst hr;exact h.1 h3 b h1 h2
  ·intro r hr;cases hr
 ·intro r hr
  rcases List.mem_append.1 hr with hr | hr
  ·split at hr
   ·rw [List.mem_singleton] at hr;subst hr;exact hu
   ·cases hr
  ·split at hr
   ·rw [List.mem_singleton] at hr;subst hr;unfold qR;omega
   ·split at hr
    ·rw [List.mem_singleton] at hr;subst hr;exact hu
    ·cases hr
theorem qil : ∀ (l:List Nat) (s:US) (out:List Nat),InvU s->(∀ r∈out,qR r)->(∀ r∈(zJ l (s,out)).2,qR r)/\InvU (zJ l (s,out)).1
 | [],s,out,h,ho=>⟨ho,h⟩
 | b::l,s,out,h,ho=>qil l _ _ (qki h b) fun r hr=>by
  rcases List.mem_append.1 hr with hr | hr
  ·exact ho r hr
  ·exact uOut_ch h b r hr
theorem yD (l:List Nat) : ∀ r∈qs l,qR r:=(qil l u0 [] (InvU.zero rfl) fun _ h=>by cases h).1
def vb (s:ByteArray):Bool:=decide (zm (qs (qB s))=qB s)
theorem qi9 {s:ByteArray} (h:kK s s.size 0):vb s=true:=by
 obtain ⟨h1,h2⟩:=qbL s s.size 0 (by omega) h;rw [List.drop_zero] at h1;rw [vb,decide_eq_true_eq,<- h1,qbP h2]
theorem enc_dec {n b0 b1 b2 b3 r:Nat} (hr:qR r) (hn:(vQ r).length<=n) (he:vQ r=[b0,b1,b2,b3].take (vQ r).length):Lib.decodeN n b0 b1 b2 b3=(r,(vQ r).length):=by
 unfold qR at hr;unfold vQ at *
 split at he
 ·rename_i h
  simp only [if_pos h,List.length_cons,List.length_nil,List.take_succ_cons,List.take_zero,List.cons.injEq,and_true,Nat.zero_add] at *
  unfold Lib.decodeN;rw [if_pos (by omega)];simp only [Prod.mk.injEq,and_true]
  omega
 ·split at he
  ·rename_i h1 h
   simp only [if_neg h1,if_pos h,List.length_cons,List.length_nil,List.take_succ_cons,List.take_zero,List.cons.injEq,and_true,Nat.zero_add] at *
   obtain ⟨e0,e1⟩:=he;unfold Lib.decodeN
   split
   ·omega
   ·split
    ·split
     ·simp only [Prod.mk.injEq,and_true];omega
     ·omega
    ·omega
  ·split at he
   ·rename_i h1 h2 h
    simp only [if_neg h1,if_neg h2,if_pos h,List.length_cons,List.length_nil,List.take_succ_cons,List.take_zero,List.cons.injEq,and_true,Nat.zero_add] at *
    obtain ⟨e0,e1,e2⟩:=he;unfold Lib.decodeN
    split
    ·omega
    ·split
     ·omega
     ·split
      ·split
       ·simp only [Prod.mk.injEq,and_true];omega
       ·omega
      ·omega
   ·rename_i h1 h2 h3
    simp only [if_neg h1,if_neg h2,if_neg h3,List.length_cons,List.length_nil,List.take_succ_cons,List.take_zero,List.cons.injEq,and_true,Nat.zero_add] at *
    obtain ⟨e0,e1,e2,e3⟩:=he;unfold Lib.decodeN
    split
    ·omega
    ·split
     ·omega
     ·split
      ·omega
      ·split
       ·split
        ·simp only [Prod.mk.injEq,and_true];omega
        ·omega
       ·omega
theorem qaR (r:Nat):0<(vQ r).length/\(vQ r).length<=4:=by
 unfold vQ
 split
 ·simp
 ·split
  ·simp
  ·split <;> simp
theorem qbw (s:ByteArray) : ∀ (f:Nat) (rs:List Nat) (i:Nat),(∀ r∈rs,qR r)->zm rs=(qB s).drop i->kK s f i
 | 0,_,_,_,_=>trivial
 | f+1,rs,i,h,he=>by
  rw [kK]
  by_cases hi:i<s.size
  ·rw [if_pos hi]
   cases rs with
   | nil =>
    have:=congrArg List.length he
    simp [zm,zT] at this
    omega
   | cons r t =>
    have e:zm (r::t)=vQ r++zm t:=by simp [zm]
    rw [e] at he;have hl:=congrArg List.length he;rw [List.length_append,List.length_drop,zT] at hl;have hp:=qaR r;have h1:vQ r=((qB s).drop i).take (vQ r).length:=by rw [<- he,List.take_left]
    have hd:Utf8.decode s i=(r,(vQ r).length):=by
     rw [Lib.decode_at];refine enc_dec (h r (by simp)) (by omega) ?_;rw [h1]
     apply List.ext_getElem
     ·simp [zT];omega
     ·intro j h1 h2;have hj:j<(vQ r).length:=by simp at h2;omega
      rw [List.getElem_take,List.getElem_take,List.getElem_drop,qdL s (i+j) (by omega)];have hc:j=0∨j=1∨j=2∨j=3:=by omega
      rcases hc with rfl | rfl | rfl | rfl <;> rfl
    rw [hd];refine ⟨fun hc=>?_,qbw s f t (i+(vQ r).length) (fun x hx=>h x (by simp [hx])) ?_⟩
    ·obtain ⟨hc1,hc2⟩:=hc;simp only at hc1 hc2;subst hc1;exact absurd hc2 (by decide)
    ·rw [<- List.drop_drop,<- he,List.drop_left]
  ·rw [if_neg hi]
   trivial
theorem qdx (s:ByteArray):vb s=true↔kK s s.size 0:=by
 refine ⟨fun h=>?_,qi9⟩;rw [vb,decide_eq_true_eq] at h;exact qbw s s.size _ 0 (yD _) (by rw [h,List.drop_zero])
def kt (r:Nat):ByteArray:=⟨((vQ r).map fun b=>UInt8.ofNat b).toArray⟩
def zB (s:ByteArray):Int:=if vb s=false then 3 else match qs (qB s) with
 | []=>3
 | r::t=>if zR (r:Int)<1∨(t.all fun (x:Nat)=>inT qM (x:Int))=false then 9 else if 3<t.length then 5 else 0
def kb (s:ByteArray):Int:=if zB s=0 then zR (((qs (qB s)).headD 0:Nat):Int) else 0
def ye (s:ByteArray) (r:Int):ByteArray × Int :=
 if zB s≠0 then (⟨#[]⟩,zB s) else if inT qM r=false then (⟨#[]⟩,9) else if 4<=(qs (qB s)).length then (⟨#[]⟩,5) else (s++kt r.toNat,0)
theorem qaK {s:ByteArray} (h:s.size=0):zB s=3:=by
 have e:qB s=[]:=List.eq_nil_of_length_eq_zero (by rw [zT];exact h);unfold zB
 split
 ·rfl
 ·rw [e];rfl
theorem vL {s:ByteArray}:zB s=0↔vb s=true/\∃ r t,qs (qB s)=r::t/\1<=zR (r:Int)/\(t.all fun (x:Nat)=>inT qM (x:Int))=true/\t.length<=3:=by
 unfold zB
 constructor
 ·intro h
  split at h
  ·cases h
  ·rename_i hv
   split at h
   ·cases h
   ·rename_i r t ht
    split at h
    ·cases h
    ·rename_i hw
     split at h
     ·cases h
     ·rename_i hl
      rw [not_or] at hw;exact ⟨by simpa using hv,r,t,ht,by omega,by simpa using hw.2,by omega⟩
 ·rintro ⟨hv,r,t,ht,hw,ha,hl⟩;rw [if_neg (by simp [hv]),ht];simp only;rw [if_neg (by rw [not_or];exact ⟨by omega,by simp [ha]⟩),if_neg (by omega)]
end Go.Proofs.YtbogmeeijdaijaaGreatDoor
namespace Go.Proofs.YtbogmeeijdaijaaGreatDoor
open Go.Proofs.Tryz Go.RowKit
set_option maxRecDepth 20000
def azB (s:ByteArray):Bool:=!(s.data.toList.isEmpty)&&s.data.toList.all fun c=>decide (97<=c.toNat)&&decide (c.toNat<=122)
structure Prs where
 words:List ByteArray
 out:List Gl
 style:Int
 joins:Bool
def chG (st:Int) (c:UInt8):Gl:=⟨⟨#[c]⟩,false,st⟩
def vm (j:Bool) (st:Int) (s:ByteArray):List Gl:=(if j=true then [chG st 32] else [])++s.data.toList.map (chG st)
def kN (p:Prs) (s:ByteArray) (k:Nat):Prs:=⟨p.words.drop k,p.out++vm p.joins p.style s,p.style,true⟩
def vV (out:List Gl) (st:Int) (r:Int) (times:Nat):Bool × List Gl :=
 if zR r<0 then (false,out)
 else if zR r=0 then
  (if 1<times then (false,out) else match out.getLast? with
   | none=>(false,out)
   | some g=>((ye g.text r).2==0,out.dropLast++[⟨(ye g.text r).1,g.wide,g.style⟩]))
 else (true,out++List.replicate times ⟨kt r.toNat,decide (zR r=2),st⟩)
def jQ (s:ByteArray):Bool:=azB s&&decide (s.size=1)
def ya (t:List ByteArray):Option (ByteArray × Nat) :=
 if (t.takeWhile jQ).length=0 then none
 else if t[(t.takeWhile jQ).length]? = some qaO then some (⟨((t.takeWhile jQ).flatMap fun s=>s.data.toList).toArray⟩,(t.takeWhile jQ).length+2) else none
def yl:List ByteArray->Option (ByteArray × Nat)
 | []=>none
 | a::t=>if a=vD/\azB (t.headD ⟨#[]⟩)=true then some (t.headD ⟨#[]⟩,2)
  else if azB a=true/\jF a=false then some (a,1)
  else if a=qS then ya t else none
def upB (c:UInt8):UInt8:=if 97<=c.toNat/\c.toNat<=122 then c-32 else c
def jn (s:ByteArray) (n:Nat):ByteArray:=⟨((s.data.toList.take n).map upB++s.data.toList.drop n).toArray⟩
def vY (s:ByteArray):Option Nat:=(List.range 4).find? fun i=>decide (vP i=s)
def zP (p:Prs):Option Prs:=match p.words with
 | []=>none
 | a::t=>match vY a with
  | some i=>some ⟨t,p.out,(i:Nat),false⟩
  | none=>if a=zO then some ⟨t,p.out,p.style,false⟩ else none
def jP (p:Prs):Option Prs:=match p.words with
 | []=>none
 | a::t =>
  if a=bCap then (yl t).map fun (s,n)=>kN p (jn s 1) (1+n)
  else if a=yi then (yl t).map fun (s,n)=>kN p (jn s s.size) (1+n)
  else (yl (a::t)).map fun (s,n)=>kN p s n
def dgW (s:ByteArray):Option Nat:=(List.range 10).find? fun i=>decide (wb i=s)
def k7 (t:List ByteArray):List Nat:=(t.takeWhile fun s=>(dgW s).isSome).map fun s=>(dgW s).getD 0
def zN (D:List Nat):ByteArray:=⟨(D.map fun d=>UInt8.ofNat (48+d)).toArray⟩
def qaP (p:Prs):Option Prs:=match p.words with
 | []=>none
 | a::t=>if a=vI/\k7 t≠[] then some (kN p (zN (k7 t)) (1+(k7 t).length)) else none
def charW:List ByteArray->Option (Int × Nat)
 | []=>none
 | a::t=>if a=yB then some (32,1) else zM (a::t)
def ko (p:Prs):Option Prs:=match charW p.words with
 | none=>none
 | some (r,n)=>if (vV p.out p.style r 1).1=true then some ⟨p.words.drop n,(vV p.out p.style r 1).2,p.style,false⟩ else none
def kA (n:Nat):List UInt8:=if h:n<10 then [UInt8.ofNat (48+n)] else kA (n / 10)++[UInt8.ofNat (48+n % 10)]
termination_by n
decreasing_by omega
def kD (p:Prs):Option Prs:=match prefixL p.words with
 | none=>none
 | some (n,k)=>if n<0 then none
  else if p.words[k]? = some bTimes then (match charW (p.words.drop (k+1)) with
   | none=>none
   | some (r,m)=>if 2<=n/\n<=132/\(vV p.out p.style r n.toNat).1=true then some ⟨p.words.drop (k+1+m),(vV p.out p.style r n.toNat).2,p.style,false⟩ else none)
  else some (kN p ⟨(kA n.toNat).toArray⟩ k)
def va (p:Prs):Option Prs:=(zP p).orElse fun _=>(jP p).orElse fun _=>(qaP p).orElse fun _=>(ko p).orElse fun _=>kD p
def ka:Nat->Prs->Option (List Gl)
 | 0,p=>some p.out
 | f+1,p=>if p.words=[] then some p.out else match va p with
  | none=>none
  | some q=>ka f q
def kC (l:List ByteArray):Option (List Gl):=ka l.length ⟨l,[],0,false⟩
end Go.Proofs.YtbogmeeijdaijaaGreatDoor
namespace Go.Proofs.YtbogmeeijdaijaaGreatDoor
open Go.Proofs.Tryz Go.RowKit Go.Maps
set_option maxRecDepth 20000
def SetM (w:World) (b m:Nat) (S:ByteArray->Bool):Prop :=
 ∃ D:DataW Unit,w.ownsMap prog 9 (plainElem prog 4) b m D/\IsMap D/\∀ s:ByteArray,D.atKey (.string s.data.toList) (.lit (.bool false)) = .lit (.bool (S s))
theorem SetM.made (w:World):SetM (w.alloc (.map #[] 0)) w.heap.size 0 (fun _=>false) :=
 ⟨.map [],World.ownsMap_made w _ _ _,⟨[],rfl⟩,fun s=>rfl⟩
theorem SetM.lt {w:World} {b m:Nat} {S:ByteArray->Bool} (h:SetM w b m S):b<w.heap.size:=by
 obtain ⟨D,h1,_⟩:=h;exact h1.lt
theorem SetM.below {w w':World} {b m:Nat} {S:ByteArray->Bool} (h:SetM w b m S) (hb:Below w.heap.size w w'):SetM w' b m S:=by
 obtain ⟨D,h1,h2⟩:=h;exact ⟨D,h1.kept (row:=none) ⟨hb.os,hb.tape,hb.output,hb.size,fun k hk _=>hb.block k hk⟩ L1,h2⟩
theorem SetM.up {w w':World} {b m B:Nat} {S:ByteArray->Bool} (h:SetM w b m S) (hb:Below B w w') (hB:b<B):SetM w' b m S:=by
 obtain ⟨D,⟨es,clock,hh,hr⟩,h2⟩:=h;exact ⟨D,⟨es,clock,(hb.block b hB).trans hh,hr⟩,h2⟩
theorem SetM.ext {w:World} {b m:Nat} {S S':ByteArray->Bool} (h:SetM w b m S) (e : ∀ s,S s=S' s):SetM w b m S':=by
 obtain rfl:S=S':=funext e;exact h
theorem SetM.put {w:World} {b m:Nat} {x:ByteArray} {D:DataW Unit} {S:ByteArray->Bool} (h1:w.ownsMap prog 9 (plainElem prog 4) b (m+1) (D.put (.string x.data.toList) (.lit (.bool true))))
  (h2:IsMap D) (h3 : ∀ s:ByteArray,D.atKey (.string s.data.toList) (.lit (.bool false)) = .lit (.bool (S s))):SetM w b (m+1) (fun s=>decide (x=s) || S s):=by
 refine ⟨_,h1,h2.put _ _,fun s=>?_⟩
 by_cases h:x=s
 ·subst h;rw [atKey_put_same h2 (show WideAt.IsKeyLit (.string x.data.toList) from by rw [WideAt.IsKeyLit.eq_3];trivial)]
  simp
 ·rw [atKey_put_other (by
   intro e
   injection e with e
   exact h (ByteArray.ext (Array.toList_inj.1 e)).symm),h3]
  simp [h]
theorem qj7 (w:World):(zeroValue 4).run prog w = .ok (.bool false) w:=by kernel_rfl
theorem SetM.look {w:World} {b m:Nat} {S:ByteArray->Bool} (h:SetM w b m S) (s:ByteArray) (hs:s.size<=maxLen):(Instr.lookup 182 (.map (some b)) (.string s) false).run prog w = .ok (.bool (S s)) w:=by
 obtain ⟨D,h1,_,h3⟩:=h;obtain ⟨v,ps,hrun,hv⟩:=h1.lookup (string_keyed underlying9) underlying182 (qj7 w) (plainElem_bool (H:=Unit) underlying4 false) (WideMaps.keyOf_string_mk underlying9 hs);rw [h3] at hv;have hvb:v = .bool (S s):=by
  unfold plainElem at hv;rw [underlying4] at hv
  cases v <;> simp at hv
  rw [hv.1]
 rw [hrun,hvb]
theorem any_succ (f:Nat->ByteArray) (k:Nat) (s:ByteArray):(decide (f k=s) || (List.range k).any fun j=>decide (f j=s))=(List.range (k+1)).any fun j=>decide (f j=s):=by
 rw [List.range_succ,List.any_append,Bool.or_comm]
 simp
theorem qgT (w:World):Calls prog 158 #[] w fun e w'=>∃ b,e = .returned (.map (some b))/\SetM w' b 32 qL/\w.heap.size<=b/\Below w.heap.size w w':=by
 have hmm:=@run_makeMap prog
 go_enter func158,ntmps158
 go_wp2_with (go_at_call 166;refine (voc _).mono ?_;rintro e w1 ⟨rfl,rfl⟩)
 have hset:=(SetM.made w).below ((Le _ _).alloc (Ld _) (.cells qb6 9));have hbel:Below w.heap.size w ((w.alloc (.map #[] 0)).alloc (.cells qb6 9)):=(L5).alloc L1 _;have hcell:=qb2 (w.alloc (.map #[] 0));have hz:(w.alloc (.map #[] 0)).heap.size=w.heap.size+1:=by simp
 rw [hz] at hcell;have hz2:((w.alloc (.map #[] 0)).alloc (.cells qb6 9)).heap.size=w.heap.size+2:=by simp
 generalize (w.alloc (.map #[] 0)).alloc (.cells qb6 9)=wb0 at *
 have HC:=Lh hcell;clear hcell
 go_loopw [7] (fun x wr=>∃ k:Nat,k<=32/\x = .int .i64 k/\SetM wr w.heap.size k (fun s=>(List.range k).any fun j=>decide (wb j=s))/\Below w.heap.size w wr/\w.heap.size+2<=wr.heap.size/\Hid (∀ i,i<32->wr.cell? ⟨w.heap.size+1,i,none⟩=some (.string (wb i)))) (fun x _=>32-(intOf x).toNat)
 case atStart=>exact ⟨0,by omega,rfl,hset,hbel,by omega,HC⟩
 case round =>
  obtain ⟨k,hk,rfl,hst,hb,hsz,HCk⟩:=hrel
  by_cases hlt:k<32
  ·have hc:=HCk.out k hlt;have hws:(wb k).size<=maxLen:=Lj (qce k) (by unfold maxLen;omega);have HX:=Lh (any_succ wb k);generalize wb k=x at *
   obtain ⟨D,hown,hD,hS⟩:=hst
   go_wp2_with (at_mapUpdate;refine wpList_mapUpdate_own _ rfl _ _ _ 182 rfl 9 4 (string_keyed underlying9) underlying182 _ w.heap.size k _ rfl hown (by unfold maxLen;omega) _ _ _ rfl rfl (WideMaps.keyOf_string_mk underlying9 hws) _ [] (plainElem_bool (H:=Unit) underlying4 true) ?_;intro w2 hown2 hgr2)
   refine ⟨⟨k+1,by omega,by go_num,(SetM.put hown2 hD hS).ext HX.out,hb.grown hgr2 L0 (fun q hq=>by cases hq;exact Ld _),Lj hsz hgr2.size,Lh fun i hi=>?_⟩,by simp [intOf];omega⟩;rw [World.cell?_of_block (hgr2.block (w.heap.size+1) L0 L1)];exact HCk.out i hi
  ·obtain rfl:k=32:=by omega
   go_wp2;go_ret;exact ⟨w.heap.size,rfl,hst,Ld _,hb⟩
end Go.Proofs.YtbogmeeijdaijaaGreatDoor
