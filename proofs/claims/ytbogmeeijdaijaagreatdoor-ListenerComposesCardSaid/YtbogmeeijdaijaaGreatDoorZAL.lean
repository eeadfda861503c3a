/- Joined: PaB0, PaB1, PaB2, PaB, PaC. -/
import Derived.Test.YtbogmeeijdaijaaGreatDoorZAK
set_option linter.unusedVariables false
set_option linter.unusedSimpArgs false
set_option linter.unnecessarySimpa false
set_option maxHeartbeats 4000000
namespace Go.Proofs.YtbogmeeijdaijaaGreatDoor
open Go.Proofs.Tryz Go.RowKit
set_option maxRecDepth 20000
def PaR3 (g nb:Nat) (p:Prs) (o:Option Prs) (w:World) (e:Ending) (w':World):Prop :=
 Below g w w'/\match o with
 | some q=>e = .returned (.bool true)/\PaS w' g nb q
 | none=>e = .returned (.bool false)/\∃ q:Prs,q.words=p.words/\PaS w' g nb q
def szV:Value->Nat
 | .string s=>s.size
 | _=>0
def DecI (N m:Nat) (S:ByteArray):Prop:=(S.size=0/\m=N)∨(S.size≠0/\(if m=0 then [] else kA m)++S.data.toList=kA N)
theorem qge : ∀ (k n:Nat),n<10 ^ (k+1)->(kA n).length<=k+1
 | 0,n,h=>by
  rw [kA,dif_pos (by simpa using h)]
  simp
 | k+1,n,h=>by
  rw [kA]
  split
  ·simp
  ·rw [Lf,Lz];have:=qge k (n / 10) (by rw [Nat.pow_succ] at h;omega)
   omega
theorem DecI.size {N m:Nat} {S:ByteArray} (hN:N<=999999999) (h:DecI N m S):S.size<=10:=by
 rcases h with ⟨h,_⟩ | ⟨_,h⟩
 ·omega
 ·have h1:=congrArg List.length h;have h2:=qge 9 N L0;have h3:S.data.toList.length=S.size:=by simp
  rw [Lf] at h1
  omega
theorem DecI.step {N m:Nat} {S:ByteArray} (h:DecI N m S) (hc:0<m∨S.size=0):DecI N (m / 10) (⟨#[UInt8.ofNat (48+m % 10)]⟩++S):=by
 have hb:(⟨#[UInt8.ofNat (48+m % 10)]⟩++S:ByteArray).data.toList=UInt8.ofNat (48+m % 10)::S.data.toList:=by
  rw [ByteArray.data_append,Array.toList_append]
  rfl
 refine .inr ⟨by rw [ByteArray.size_append];show 1+S.size≠0;omega,?_⟩;rw [hb];have key:(if m / 10=0 then [] else kA (m / 10))++UInt8.ofNat (48+m % 10)::S.data.toList=kA m++S.data.toList:=by
  by_cases h10:m<10
  ·rw [if_pos L0,kA,dif_pos h10,Nat.mod_eq_of_lt h10]
   rfl
  ·conv=>rhs;rw [kA]
   rw [dif_neg h10,if_neg L0]
   simp
 rw [key]
 rcases h with ⟨h1,rfl⟩ | ⟨h1,h2⟩
 ·have:S.data.toList=[]:=List.length_eq_zero_iff.1 (by simpa using h1);rw [this,List.append_nil]
 ·rw [if_neg L0] at h2;exact h2
theorem DecI.done {N:Nat} {S:ByteArray} (h:DecI N 0 S) (hS:S.size≠0):S=⟨(kA N).toArray⟩:=by
 rcases h with ⟨h1,_⟩ | ⟨_,h2⟩
 ·exact absurd h1 hS
 ·rw [if_pos rfl,Lg] at h2
  apply ByteArray.ext
  apply Array.toList_inj.1
  rw [h2]
theorem qdf (m:Nat):Utf8.encode (48+((m % 10:Nat):Int))=⟨#[UInt8.ofNat (48+m % 10)]⟩:=qif (m % 10) L0
theorem qcW {S:ByteArray} (h:S.size=0):S.toList.isEmpty=true:=by
 have:S.data.toList=[]:=List.length_eq_zero_iff.1 (by simpa using h);rw [ByteArray.toList_eq,this]
 rfl
theorem qgJ (m:Nat) (S:ByteArray) (hc:0<m∨S.size=0):2 * (m / 10)+(if (Utf8.encode (48+((m % 10:Nat):Int))++S).size=0 then 1 else 0)<2 * m+(if S.size=0 then 1 else 0):=by
 have h1:(Utf8.encode (48+((m % 10:Nat):Int))++S).size≠0:=by
  rw [qdf,ByteArray.size_append,show (⟨#[UInt8.ofNat (48+m % 10)]⟩:ByteArray).size=1 from rfl]
  omega
 rw [if_neg h1]
 by_cases hs:S.size=0
 ·rw [if_pos hs];omega
 ·rw [if_neg hs];have:=hc.resolve_right hs
  omega
theorem qii (m:Nat):(m:Int).tmod 10=((m % 10:Nat):Int):=by rw [Int.tmod_eq_emod_of_nonneg L0];omega
theorem qib (m:Nat):(m:Int).tdiv 10=((m / 10:Nat):Int):=by rw [Int.tdiv_eq_ediv_of_nonneg L0];omega
theorem enc_sz (m:Nat):(Utf8.encode (48+((m % 10:Nat):Int))).size<=4:=by rw [qdf];exact (by decide:1<=4)
theorem qcc (m:Nat) (hm:m<=999999999):wrap64 (m:Int)=m:=by unfold wrap64;omega
attribute [local irreducible] Utf8.encode
theorem qeQ (p:Prs) (g nb:Nat) (w:World) (h:PaS w g nb p) (hsz : ∀ s∈p.words,s.size<=maxLen) (hlen:p.words.length<=950000) (hp:prefixL p.words=none):Calls prog 165 #[.pointer (some ⟨g,0,none⟩)] w fun e w'=>Below g w w'/\e = .returned (.bool false)/\PaS w' g nb p:=by
 have hgl:=h.lt;have HPS:=Lh h;have hb0:Below w.heap.size w w:=Le _ _;obtain ⟨A,n,c,A2,c2,h1,h2,h3,h4,h5⟩:=h;have C1:=h3.cell 1;simp only [jh,La,Lb,Lc] at C1;have hn:p.words.length=n:=by have:=h4.1;simp [sv] at this;omega
 have HC1:Hid (∀ w',Below w.heap.size w w'->w'.cell? ⟨g,1,none⟩=some (.slice A n c)):=Lh fun w' hw=>(hw.cell (show g<_ from hgl)).trans C1
 have HPr:Hid (∀ w',Below w.heap.size w w'->Calls prog 97 #[.slice A n c] w' fun e w''=>e = .returned (ve (prefixL p.words))/\Below w.heap.size w w''):=Lh fun w' hw =>
  (kx p.words A n c w' hn h1 h2 ((h4.below (hw.mono (Lr hgl))).more (by have:=hw.size;omega)) hsz).mono fun e w'' ⟨h1,h2⟩=>⟨h1,hw.trans (h2.mono hw.size)⟩
 rw [hp] at HPr;simp only [ve] at HPr;clear hp h2 h3 h4 h5 hn hlen hsz
 go_enter func165,ntmps165
 go_wp2_with (go_at_call 97;refine (HPr.out _ L3).mono ?_;rintro e w1 ⟨rfl,hb1⟩;have C1':=HC1.out _ hb1)
 go_ret;exact ⟨hb1.mono (Lr hgl),rfl,HPS.out.below hb1⟩
theorem qg9 (E:World) (p:Prs) (g nb:Nat) (w:World) (hE:PaE E g nb) (hEw:Below g E w) (h:PaS w g nb p) (hk:PaK p) (nn:Int) (k:Nat) (hp:prefixL p.words=some (nn,k)) (hneg:nn<0):Calls prog 165 #[.pointer (some ⟨g,0,none⟩)] w (PaR3 g nb p (kD p) w):=by
 have hgl:=h.lt;have HPS:=Lh h;have hb0:Below w.heap.size w w:=Le _ _;have hlen:=hk.len;have hout:p.out.length<=1000000000:=by have h:=hk.2.1;omega
 have hot : ∀ x∈p.out,x.text.size<=8000000:=fun x hx=>by have:=hk.2.2 x hx;omega
 have HAdd:Hid (∀ (r:Nat) (times:Nat),qR r->times<=132->∀ w',Below w.heap.size w w'->Calls prog 182 #[.pointer (some ⟨g,0,none⟩),.int .i32 (r:Int),.int .i64 times] w' fun e w''=>e = .returned (.bool (vV p.out p.style (r:Int) times).1)/\PaS w'' g nb ⟨p.words,(vV p.out p.style (r:Int) times).2,p.style,false⟩/\Below g w w''):=Lh fun r times hr ht w' hw =>
  (add_ p r hr times ht hout hot g nb w' (h.below hw) fun w'' hb=>hE.u8 ((hEw.trans (hw.mono (Lr hgl))).trans hb)).mono fun e w'' ⟨h1,h2,h3,_⟩=>⟨h1,h2,(hw.mono (Lr hgl)).trans h3⟩
 have hs:=hE.sp hEw;obtain ⟨A,n,c,A2,c2,h1,h2,h3,h4,h5⟩:=h;have C1:=h3.cell 1;simp only [jh,La,Lb,Lc] at C1;have hn:p.words.length=n:=by have:=h4.1;simp [sv] at this;omega
 have HC1:Hid (∀ w',Below w.heap.size w w'->w'.cell? ⟨g,1,none⟩=some (.slice A n c)):=Lh fun w' hw=>(hw.cell (show g<_ from hgl)).trans C1
 have HPr:Hid (∀ w',Below w.heap.size w w'->Calls prog 97 #[.slice A n c] w' fun e w''=>e = .returned (ve (prefixL p.words))/\Below w.heap.size w w''):=Lh fun w' hw =>
  (kx p.words A n c w' hn h1 h2 ((h4.below (hw.mono (Lr hgl))).more (by have:=hw.size;omega)) hk.sz).mono fun e w'' ⟨h1,h2⟩=>⟨h1,hw.trans (h2.mono hw.size)⟩
 have HCh:Hid (∀ (k:Nat) A' N c',k<=n->N=n-k->N<=c'->c'<=maxLen->Rd w g 1 A' N (sv (p.words.drop k))->∀ w',Below w.heap.size w w'->Calls prog 181 #[.slice A' N c'] w' fun e w''=>e = .returned (qmb (charW (p.words.drop k)))/\Below w.heap.size w w''):=Lh fun k A' N c' hkn hN hc hm rd w' hw =>
  (qaH (p.words.drop k) A' N c' w' (by rw [List.length_drop];omega) hc hm ((rd.below (hw.mono (Lr hgl))).more (by have:=hw.size;omega)) (fun s hs=>hk.sz s (List.mem_of_mem_drop hs)) (hs.below hw (Ld _))).mono fun e w'' ⟨h1,h2⟩=>⟨h1,hw.trans (h2.mono hw.size)⟩
 obtain ⟨RES,hRES⟩ : ∃ x,x=kD p:=⟨_,rfl⟩
 rw [<- hRES];obtain ⟨hk0,hkl,hk15,hnum,_⟩:=zF hp;obtain ⟨hn1,hn2,_⟩:=vp hnum;rw [hp] at HPr;simp only [ve] at HPr;have e0:RES=none:=by rw [hRES];unfold kD;rw [hp];simp only;rw [if_pos hneg]
 have i1:decide (nn<0)=true:=Ll hneg;subst e0;clear hRES hp h2 h3 h4 h5 hn hk hlen hs hot hout HAdd HCh hnum hn1 hn2 hneg hk0 hkl hk15;generalize (k:Int)=K at *
 go_enter func165,ntmps165
 go_wp2_with (go_at_call 97;refine (HPr.out _ L3).mono ?_;rintro e w1 ⟨rfl,hb1⟩;have C1':=HC1.out _ hb1)
 go_ret;exact ⟨hb1.mono (Lr hgl),rfl,p,rfl,HPS.out.below hb1⟩
theorem qhO (E:World) (p:Prs) (g nb:Nat) (w:World) (hE:PaE E g nb) (hEw:Below g E w) (h:PaS w g nb p) (hk:PaK p) (nn:Int) (k:Nat) (hp:prefixL p.words=some (nn,k)) (hneg : ¬ nn<0) (hT : ¬ p.words[k]? = some bTimes):Calls prog 165 #[.pointer (some ⟨g,0,none⟩)] w (PaR3 g nb p (kD p) w):=by
 have hgl:=h.lt;have HPS:=Lh h;have hb0:Below w.heap.size w w:=Le _ _;have hlen:=hk.len;have hout:p.out.length<=1000000000:=by have h:=hk.2.1;omega
 have hot : ∀ x∈p.out,x.text.size<=8000000:=fun x hx=>by have:=hk.2.2 x hx;omega
 have HAdd:Hid (∀ (r:Nat) (times:Nat),qR r->times<=132->∀ w',Below w.heap.size w w'->Calls prog 182 #[.pointer (some ⟨g,0,none⟩),.int .i32 (r:Int),.int .i64 times] w' fun e w''=>e = .returned (.bool (vV p.out p.style (r:Int) times).1)/\PaS w'' g nb ⟨p.words,(vV p.out p.style (r:Int) times).2,p.style,false⟩/\Below g w w''):=Lh fun r times hr ht w' hw =>
  (add_ p r hr times ht hout hot g nb w' (h.below hw) fun w'' hb=>hE.u8 ((hEw.trans (hw.mono (Lr hgl))).trans hb)).mono fun e w'' ⟨h1,h2,h3,_⟩=>⟨h1,h2,(hw.mono (Lr hgl)).trans h3⟩
 have hs:=hE.sp hEw;obtain ⟨A,n,c,A2,c2,h1,h2,h3,h4,h5⟩:=h;have C1:=h3.cell 1;simp only [jh,La,Lb,Lc] at C1;have hn:p.words.length=n:=by have:=h4.1;simp [sv] at this;omega
 have HC1:Hid (∀ w',Below w.heap.size w w'->w'.cell? ⟨g,1,none⟩=some (.slice A n c)):=Lh fun w' hw=>(hw.cell (show g<_ from hgl)).trans C1
 have HPr:Hid (∀ w',Below w.heap.size w w'->Calls prog 97 #[.slice A n c] w' fun e w''=>e = .returned (ve (prefixL p.words))/\Below w.heap.size w w''):=Lh fun w' hw =>
  (kx p.words A n c w' hn h1 h2 ((h4.below (hw.mono (Lr hgl))).more (by have:=hw.size;omega)) hk.sz).mono fun e w'' ⟨h1,h2⟩=>⟨h1,hw.trans (h2.mono hw.size)⟩
 have HCh:Hid (∀ (k:Nat) A' N c',k<=n->N=n-k->N<=c'->c'<=maxLen->Rd w g 1 A' N (sv (p.words.drop k))->∀ w',Below w.heap.size w w'->Calls prog 181 #[.slice A' N c'] w' fun e w''=>e = .returned (qmb (charW (p.words.drop k)))/\Below w.heap.size w w''):=Lh fun k A' N c' hkn hN hc hm rd w' hw =>
  (qaH (p.words.drop k) A' N c' w' (by rw [List.length_drop];omega) hc hm ((rd.below (hw.mono (Lr hgl))).more (by have:=hw.size;omega)) (fun s hs=>hk.sz s (List.mem_of_mem_drop hs)) (hs.below hw (Ld _))).mono fun e w'' ⟨h1,h2⟩=>⟨h1,hw.trans (h2.mono hw.size)⟩
 obtain ⟨RES,hRES⟩ : ∃ x,x=kD p:=⟨_,rfl⟩
 rw [<- hRES];obtain ⟨hk0,hkl,hk15,hnum,_⟩:=zF hp;obtain ⟨hn1,hn2,_⟩:=vp hnum;rw [hp] at HPr;simp only [ve] at HPr;have i1:decide (nn<0)=false:=Lk hneg;obtain ⟨N,hN⟩ : ∃ N:Nat,nn=(N:Int):=⟨nn.toNat,by omega⟩
 subst hN;have hN9:N<=999999999:=by omega
 have hn0:0<n:=by omega
 obtain ⟨b,o,hA,hbg,-⟩:=h4.2 hn0;subst hA;have HCk:Hid (∀ (hkn:k<n) w',Below w.heap.size w w'->w'.cell? ⟨b,o+k,none⟩=some (.string (p.words[k]'(by omega)))):=Lh fun hkn w' hw=>by
  obtain ⟨b',o',e',_,hcd⟩:=h4.at_ hkn;simp only [Option.some.injEq,Addr.mk.injEq,and_true] at e';obtain ⟨rfl,rfl⟩:=e';refine (hw.cell (by show b<_;omega)).trans (hcd.trans ?_)
  simp [sv,hn,hkn]
 have e0:RES=some ⟨p.words.drop k,p.out++vm p.joins p.style ⟨(kA N).toArray⟩,p.style,true⟩:=by
  rw [hRES];unfold kD;rw [hp];simp only;rw [if_neg hneg,if_neg hT];rfl
 have HDn:Hid (∀ S:ByteArray,S.size≠0->DecI N 0 S->(⟨(kA N).toArray⟩:ByteArray)=S):=Lh fun S h0 h=>(h.done h0).symm
 have HTxt:Hid (∀ S:ByteArray,S.size<=10->∀ w' (hw:Below w.heap.size w w'),_):=Lh fun S hS w' hw=>qdw HPS.out hout S L0 hw
 have HTk:Hid (∀ (S:ByteArray) w' (hp:PaS w' g nb ⟨p.words,p.out++vm p.joins p.style S,p.style,true⟩) (hb:Below g w w'),_):=Lh fun S w' hp hb=>qaZ hp k hkl hb
 clear hRES hp h4 h5 hk hlen hs hot hout HAdd HCh hnum hn1 hn2 hneg
 rcases Nat.lt_or_ge k n with hkn | hkn
 ·have heq:((k:Int)==(n:Int))=false:=Lm.2 L0;have hck:=Lh (HCk.out hkn);have hne:p.words[k]'(by omega)≠bTimes:=fun e=>hT (by rw [List.getElem?_eq_getElem L0,e])
  have qk:=qct (a:=p.words[k]'(by omega)) (b:=bTimes) (l:=[116,105,109,101,115]) rfl;rw [Lk hne] at qk;clear hT hne HCk;generalize p.words[k]'(by omega)=wk at *
  have hki:(k:Int)<n:=by omega
  have hk0i:(0:Int)<=k:=by omega
  go_enter func165,ntmps165
  go_upto_region 5 with (go_at_call 97;refine (HPr.out _ L3).mono ?_;rintro e w1 ⟨rfl,hb1⟩;have C1':=HC1.out _ hb1;have ck1:=hck.out _ hb1)
  go_wp2
  go_loopw [6,7] (fun x y wr=>∃ (m:Nat) (S:ByteArray),m<=N/\x = .string S/\y = .int .i64 m/\wr=w1/\Hid (DecI N m S)) (fun x y _=>2 * (intOf y).toNat+(if szV x=0 then 1 else 0))
  case atStart=>exact ⟨N,⟨#[]⟩,Ld _,rfl,rfl,rfl,Lh (.inl ⟨rfl,rfl⟩)⟩
  case round =>
   obtain ⟨m,S,hm,rfl,rfl,rfl,HD⟩:=hrel
   by_cases hc:0<m∨S.size=0
   ·have hsz:=HD.out.size hN9;have hmeas:=Lh (qgJ m S hc);have hpos:0<m∨m=0:=by omega
    have hm10:m / 10<=N:=by omega
    have hS0:m=0->S.toList.isEmpty=true:=fun h=>qcW (hc.resolve_left L0)
    obtain ⟨M,hM⟩ : ∃ M,M=(m:Int):=⟨_,rfl⟩
    obtain ⟨D,hD⟩ : ∃ D,D=((m % 10:Nat):Int):=⟨_,rfl⟩
    obtain ⟨Q,hQ⟩ : ∃ Q,Q=((m / 10:Nat):Int):=⟨_,rfl⟩
    have i5:0<m->decide (0<M)=true:=fun h=>Ll L0
    have i6:m=0->decide (0<M)=false:=fun h=>Lk L0
    have hr:=qii m;have hq:=qib m;obtain ⟨hw2,hw3⟩:=qd1 (m % 10) (Nat.mod_lt _ L2);have HD2:=Lh (HD.out.step hc);rw [<- qdf] at HD2;have hsz2:(Utf8.encode (48+((m % 10:Nat):Int))).size<=4:=enc_sz m;have hwD:wrap64 D=D:=by rw [hD];exact qcc _ (Lj (Nat.mod_le m 10) (Lj hm hN9))
    have hwQ:wrap64 Q=Q:=by rw [hQ];exact qcc _ (Lj hm10 hN9)
    rw [<- hM,<- hD] at hr;rw [<- hM,<- hQ] at hq;rw [<- hD] at hw2 hw3 hsz2 HD2 hmeas;rw [<- hM];replace hM:=Lh hM;replace hQ:=Lh hQ;clear hD hc hm HDn HTxt HTk
    rcases hpos with h0 | h0
    ·have i7:=i5 h0;clear i5 i6 hS0 h0;go_wp2;exact ⟨⟨m / 10,_,hm10,rfl,by rw [hwQ,hQ.out],trivial,HD2⟩,by have hh:=hmeas.out;rw [hwQ,hQ.out,hM.out];simp only [intOf,szV,Int.toNat_natCast] at hh ⊢;exact hh⟩
    ·have i7:=i6 h0;have i8:=hS0 h0;clear i5 i6 hS0 h0;go_wp2;exact ⟨⟨m / 10,_,hm10,rfl,by rw [hwQ,hQ.out],trivial,HD2⟩,by have hh:=hmeas.out;rw [hwQ,hQ.out,hM.out];simp only [intOf,szV,Int.toNat_natCast] at hh ⊢;exact hh⟩
   ·have hS0:S.size≠0:=by omega
    obtain rfl:m=0:=by omega
    have i8:=jp hS0;have hsz:=HD.out.size hN9;have e1:=Lh (HDn.out S hS0 HD.out);have HTx:=Lh (HTxt.out S hsz);have HTkS:=Lh (HTk.out S);clear HDn HTxt HTk
    go_wp2_with (first
     | (go_at_call 180;refine (HTx.out _ L3).mono ?_;rintro e w5 ⟨rfl,hp5,hb5⟩)
     | (go_at_call 177;refine (HTkS.out _ hp5 hb5).mono ?_;rintro e w6 ⟨rfl,hp6,hb6⟩))
    go_ret;rw [e0,e1.out];exact ⟨hb6,rfl,hp6⟩
 ·have heq:((k:Int)==(n:Int))=true:=beq_iff_eq.2 L0;clear hT HCk
  go_enter func165,ntmps165
  go_upto_region 5 with (go_at_call 97;refine (HPr.out _ L3).mono ?_;rintro e w1 ⟨rfl,hb1⟩;have C1':=HC1.out _ hb1)
  go_wp2
  go_loopw [6,7] (fun x y wr=>∃ (m:Nat) (S:ByteArray),m<=N/\x = .string S/\y = .int .i64 m/\wr=w1/\Hid (DecI N m S)) (fun x y _=>2 * (intOf y).toNat+(if szV x=0 then 1 else 0))
  case atStart=>exact ⟨N,⟨#[]⟩,Ld _,rfl,rfl,rfl,Lh (.inl ⟨rfl,rfl⟩)⟩
  case round =>
   obtain ⟨m,S,hm,rfl,rfl,rfl,HD⟩:=hrel
   by_cases hc:0<m∨S.size=0
   ·have hsz:=HD.out.size hN9;have hmeas:=Lh (qgJ m S hc);have hpos:0<m∨m=0:=by omega
    have hm10:m / 10<=N:=by omega
    have hS0:m=0->S.toList.isEmpty=true:=fun h=>qcW (hc.resolve_left L0)
    obtain ⟨M,hM⟩ : ∃ M,M=(m:Int):=⟨_,rfl⟩
    obtain ⟨D,hD⟩ : ∃ D,D=((m % 10:Nat):Int):=⟨_,rfl⟩
    obtain ⟨Q,hQ⟩ : ∃ Q,Q=((m / 10:Nat):Int):=⟨_,rfl⟩
    have i5:0<m->decide (0<M)=true:=fun h=>Ll L0
    have i6:m=0->decide (0<M)=false:=fun h=>Lk L0
    have hr:=qii m;have hq:=qib m;obtain ⟨hw2,hw3⟩:=qd1 (m % 10) (Nat.mod_lt _ L2);have HD2:=Lh (HD.out.step hc);rw [<- qdf] at HD2;have hsz2:(Utf8.encode (48+((m % 10:Nat):Int))).size<=4:=enc_sz m;have hwD:wrap64 D=D:=by rw [hD];exact qcc _ (Lj (Nat.mod_le m 10) (Lj hm hN9))
    have hwQ:wrap64 Q=Q:=by rw [hQ];exact qcc _ (Lj hm10 hN9)
    rw [<- hM,<- hD] at hr;rw [<- hM,<- hQ] at hq;rw [<- hD] at hw2 hw3 hsz2 HD2 hmeas;rw [<- hM];replace hM:=Lh hM;replace hQ:=Lh hQ;clear hD hc hm HDn HTxt HTk
    rcases hpos with h0 | h0
    ·have i7:=i5 h0;clear i5 i6 hS0 h0;go_wp2;exact ⟨⟨m / 10,_,hm10,rfl,by rw [hwQ,hQ.out],trivial,HD2⟩,by have hh:=hmeas.out;rw [hwQ,hQ.out,hM.out];simp only [intOf,szV,Int.toNat_natCast] at hh ⊢;exact hh⟩
    ·have i7:=i6 h0;have i8:=hS0 h0;clear i5 i6 hS0 h0;go_wp2;exact ⟨⟨m / 10,_,hm10,rfl,by rw [hwQ,hQ.out],trivial,HD2⟩,by have hh:=hmeas.out;rw [hwQ,hQ.out,hM.out];simp only [intOf,szV,Int.toNat_natCast] at hh ⊢;exact hh⟩
   ·have hS0:S.size≠0:=by omega
    obtain rfl:m=0:=by omega
    have i8:=jp hS0;have hsz:=HD.out.size hN9;have e1:=Lh (HDn.out S hS0 HD.out);have HTx:=Lh (HTxt.out S hsz);have HTkS:=Lh (HTk.out S);clear HDn HTxt HTk
    go_wp2_with (first
     | (go_at_call 180;refine (HTx.out _ L3).mono ?_;rintro e w5 ⟨rfl,hp5,hb5⟩)
     | (go_at_call 177;refine (HTkS.out _ hp5 hb5).mono ?_;rintro e w6 ⟨rfl,hp6,hb6⟩))
    go_ret;rw [e0,e1.out];exact ⟨hb6,rfl,hp6⟩
end Go.Proofs.YtbogmeeijdaijaaGreatDoor
namespace Go.Proofs.YtbogmeeijdaijaaGreatDoor
open Go.Proofs.Tryz Go.RowKit
set_option maxRecDepth 20000
attribute [local irreducible] Utf8.encode
theorem qe4 (E:World) (p:Prs) (g nb:Nat) (w:World) (hE:PaE E g nb) (hEw:Below g E w) (h:PaS w g nb p) (hk:PaK p) (nn:Int) (k:Nat) (hp:prefixL p.words=some (nn,k)) (hneg : ¬ nn<0) (hT:p.words[k]? = some bTimes):Calls prog 165 #[.pointer (some ⟨g,0,none⟩)] w (PaR3 g nb p (kD p) w):=by
 have hgl:=h.lt;have HPS:=Lh h;have hb0:Below w.heap.size w w:=Le _ _;have hlen:=hk.len;have hout:p.out.length<=1000000000:=by have h:=hk.2.1;omega
 have hot : ∀ x∈p.out,x.text.size<=8000000:=fun x hx=>by have:=hk.2.2 x hx;omega
 have HAdd:Hid (∀ (r:Nat) (times:Nat),qR r->times<=132->∀ w',Below w.heap.size w w'->Calls prog 182 #[.pointer (some ⟨g,0,none⟩),.int .i32 (r:Int),.int .i64 times] w' fun e w''=>e = .returned (.bool (vV p.out p.style (r:Int) times).1)/\PaS w'' g nb ⟨p.words,(vV p.out p.style (r:Int) times).2,p.style,false⟩/\Below g w w''):=Lh fun r times hr ht w' hw =>
  (add_ p r hr times ht hout hot g nb w' (h.below hw) fun w'' hb=>hE.u8 ((hEw.trans (hw.mono (Lr hgl))).trans hb)).mono fun e w'' ⟨h1,h2,h3,_⟩=>⟨h1,h2,(hw.mono (Lr hgl)).trans h3⟩
 have hs:=hE.sp hEw;obtain ⟨A,n,c,A2,c2,h1,h2,h3,h4,h5⟩:=h;have C1:=h3.cell 1;simp only [jh,La,Lb,Lc] at C1;have hn:p.words.length=n:=by have:=h4.1;simp [sv] at this;omega
 have HC1:Hid (∀ w',Below w.heap.size w w'->w'.cell? ⟨g,1,none⟩=some (.slice A n c)):=Lh fun w' hw=>(hw.cell (show g<_ from hgl)).trans C1
 have HPr:Hid (∀ w',Below w.heap.size w w'->Calls prog 97 #[.slice A n c] w' fun e w''=>e = .returned (ve (prefixL p.words))/\Below w.heap.size w w''):=Lh fun w' hw =>
  (kx p.words A n c w' hn h1 h2 ((h4.below (hw.mono (Lr hgl))).more (by have:=hw.size;omega)) hk.sz).mono fun e w'' ⟨h1,h2⟩=>⟨h1,hw.trans (h2.mono hw.size)⟩
 have HCh:Hid (∀ (k:Nat) A' N c',k<=n->N=n-k->N<=c'->c'<=maxLen->Rd w g 1 A' N (sv (p.words.drop k))->∀ w',Below w.heap.size w w'->Calls prog 181 #[.slice A' N c'] w' fun e w''=>e = .returned (qmb (charW (p.words.drop k)))/\Below w.heap.size w w''):=Lh fun k A' N c' hkn hN hc hm rd w' hw =>
  (qaH (p.words.drop k) A' N c' w' (by rw [List.length_drop];omega) hc hm ((rd.below (hw.mono (Lr hgl))).more (by have:=hw.size;omega)) (fun s hs=>hk.sz s (List.mem_of_mem_drop hs)) (hs.below hw (Ld _))).mono fun e w'' ⟨h1,h2⟩=>⟨h1,hw.trans (h2.mono hw.size)⟩
 obtain ⟨RES,hRES⟩ : ∃ x,x=kD p:=⟨_,rfl⟩
 rw [<- hRES];obtain ⟨hk0,hkl,hk15,hnum,_⟩:=zF hp;obtain ⟨hn1,hn2,_⟩:=vp hnum;rw [hp] at HPr;simp only [ve] at HPr;have i1:decide (nn<0)=false:=Lk hneg;obtain ⟨N,hN⟩ : ∃ N:Nat,nn=(N:Int):=⟨nn.toNat,by omega⟩
 subst hN;have hN9:N<=999999999:=by omega
 have hn0:0<n:=by omega
 obtain ⟨b,o,hA,hbg,-⟩:=h4.2 hn0;subst hA;have HCk:Hid (∀ (hkn:k<n) w',Below w.heap.size w w'->w'.cell? ⟨b,o+k,none⟩=some (.string (p.words[k]'(by omega)))):=Lh fun hkn w' hw=>by
  obtain ⟨b',o',e',_,hcd⟩:=h4.at_ hkn;simp only [Option.some.injEq,Addr.mk.injEq,and_true] at e';obtain ⟨rfl,rfl⟩:=e';refine (hw.cell (by show b<_;omega)).trans (hcd.trans ?_)
  simp [sv,hn,hkn]
 have hkn:k<n:=by
  rcases Nat.lt_or_ge k p.words.length with h | h
  ·omega
  ·rw [List.getElem?_eq_none h] at hT;cases hT
 have hck:=Lh (HCk.out hkn);have hwk:p.words[k]'(by omega)=bTimes:=by
  rw [List.getElem?_eq_getElem L0] at hT
  injection hT
 rw [hwk] at hck;have qk:(bTimes.toList==[116,105,109,101,115])=true:=by decide +kernel
 have heq:((k:Int)==(n:Int))=false:=Lm.2 L0;have hki:(k:Int)<n:=by omega
 have hk0i:(0:Int)<=k:=by omega
 have hkn1:k+1<=n:=by omega
 have i2:(k:Int)+1<=n:=by omega
 have i3:(k:Int)+1<=c:=by omega
 have i1:(0:Int)<=(k:Int)+1:=by omega
 have i4:(k:Int)+1<=16:=by omega
 have hRd:=h4.cut (k:=k+1) hkn1 h1;rw [show (sv p.words).drop ((k+1) * 1)=sv (p.words.drop (k+1)) by simp [sv]] at hRd;simp only [Nat.mul_one,Option.map_some,vl] at hRd;have eT:RES=match charW (p.words.drop (k+1)) with
   | none=>none
   | some (r,m)=>if 2<=(N:Int)/\(N:Int)<=132/\(vV p.out p.style r N).1=true then some ⟨p.words.drop (k+1+m),(vV p.out p.style r N).2,p.style,false⟩ else none:=by
  rw [hRES];unfold kD;rw [hp];simp only;rw [if_neg hneg,if_pos hT,Int.toNat_natCast];cases charW (p.words.drop (k+1)) <;> rfl
 have hc63:c<=9223372036854775807:=by unfold maxLen at h2;omega
 have hln1:(p.words.drop (k+1)).length=p.words.length-(k+1):=List.length_drop;clear hp h4 h5 hk hs hot hout hnum hn1 hn2 hneg hT HCk hwk hRES
 by_cases hck1:c=k+1
 ·rw [if_pos hck1] at hRd;have HCx:=Lh (HCh.out (k+1) (some ⟨b,o,none⟩) (n-(k+1)) 0 hkn1 rfl L0 L0 hRd);have hnk:n-(k+1)=0:=by omega
  rw [hnk] at HCx;have l0:p.words.drop (k+1)=[]:=List.length_eq_zero_iff.1 L0;rw [l0,show charW []=none from rfl] at HCx eT;simp only [qmb] at HCx;simp only at eT;subst eT;obtain rfl:n=k+1:=by omega
  subst hck1;clear HCh hRd hln1 HAdd hlen hn l0 h2 hk15 hkl hk0
  go_enter func165,ntmps165
  go_wp2_with (first | (go_at_call 97;refine (HPr.out _ L3).mono ?_;rintro e w1 ⟨rfl,hb1⟩;have C1':=HC1.out _ hb1;have ck1:=hck.out _ hb1) | (go_at_call 181;refine (HCx.out _ L3).mono ?_;rintro e w2 ⟨rfl,hb2⟩))
  go_ret;exact ⟨hb2.mono (Lr hgl),rfl,p,rfl,HPS.out.below hb2⟩
 ·rw [if_neg hck1] at hRd;have HCx:=Lh (HCh.out (k+1) (some ⟨b,o+(k+1),none⟩) (n-(k+1)) (c-(k+1)) hkn1 rfl L0 L0 hRd)
  cases hcw:charW (p.words.drop (k+1)) with
  | none =>
   rw [hcw] at HCx eT;simp only [qmb] at HCx;simp only at eT;subst eT;clear HCh hRd hln1 HAdd hlen hn hcw h2 hk15 hkl hk0
   go_enter func165,ntmps165
   go_wp2_with (first | (go_at_call 97;refine (HPr.out _ L3).mono ?_;rintro e w1 ⟨rfl,hb1⟩;have C1':=HC1.out _ hb1;have ck1:=hck.out _ hb1) | (go_at_call 181;refine (HCx.out _ L3).mono ?_;rintro e w2 ⟨rfl,hb2⟩))
   go_ret;exact ⟨hb2.mono (Lr hgl),rfl,p,rfl,HPS.out.below hb2⟩
  | some x =>
   obtain ⟨r,m⟩:=x;obtain ⟨rr,rfl,hrr⟩:=qfT hcw;obtain ⟨hm0,hml⟩:=qeG hcw;rw [hcw] at HCx eT;simp only [qmb] at HCx;simp only at eT;have em:((m:Int)==0)=false:=Lm.2 L0;have hm5:m<=950000:=by omega
   by_cases h2N:N<2
   ·rw [if_neg L0] at eT;subst eT;have i7:decide ((N:Int)<2)=true:=Ll L0;clear HCh hRd hln1 HAdd hlen hn hcw h2 hm0 hml h2N hN9 hrr hk15 hkl hk0;generalize (N:Int)=NI at *
    generalize (rr:Int)=RR at *
    go_enter func165,ntmps165
    go_wp2_with (first | (go_at_call 97;refine (HPr.out _ L3).mono ?_;rintro e w1 ⟨rfl,hb1⟩;have C1':=HC1.out _ hb1;have ck1:=hck.out _ hb1) | (go_at_call 181;refine (HCx.out _ L3).mono ?_;rintro e w2 ⟨rfl,hb2⟩))
    go_ret;exact ⟨hb2.mono (Lr hgl),rfl,p,rfl,HPS.out.below hb2⟩
   ·have i7:decide ((N:Int)<2)=false:=Lk L0
    by_cases h3N:132<N
    ·rw [if_neg L0] at eT;subst eT;have i8:decide (132<(N:Int))=true:=Ll L0;clear HCh hRd hln1 HAdd hlen hn hcw h2 hm0 hml h2N h3N hN9 hrr hk15 hkl hk0;generalize (N:Int)=NI at *
     generalize (rr:Int)=RR at *
     go_enter func165,ntmps165
     go_wp2_with (first | (go_at_call 97;refine (HPr.out _ L3).mono ?_;rintro e w1 ⟨rfl,hb1⟩;have C1':=HC1.out _ hb1;have ck1:=hck.out _ hb1) | (go_at_call 181;refine (HCx.out _ L3).mono ?_;rintro e w2 ⟨rfl,hb2⟩))
     go_ret;exact ⟨hb2.mono (Lr hgl),rfl,p,rfl,HPS.out.below hb2⟩
    ·have i8:decide (132<(N:Int))=false:=Lk L0;have HAd:=Lh (HAdd.out rr N hrr L0);have hkm:k+1+m<=p.words.length:=by omega
     have HTk:=Lh (fun w' (hp:PaS w' g nb ⟨p.words,(vV p.out p.style (rr:Int) N).2,p.style,false⟩) (hb:Below g w w')=>qaZ hp (k+1+m) hkm hb);rw [show (((k+1+m:Nat)):Int)=(k:Int)+1+(m:Int) by omega] at HTk;generalize vV p.out p.style (rr:Int) N=AL at *
     obtain ⟨ok,O'⟩:=AL;dsimp only at *
     cases ok with
     | false =>
      rw [if_neg L1] at eT;subst eT;clear HCh hRd hln1 HAdd hlen hn hcw h2 hm0 hml h2N h3N hN9 hrr HTk hkm hk15 hkl hk0;generalize (N:Int)=NI at *
      generalize (rr:Int)=RR at *
      go_enter func165,ntmps165
      go_wp2_with (first | (go_at_call 97;refine (HPr.out _ L3).mono ?_;rintro e w1 ⟨rfl,hb1⟩;have C1':=HC1.out _ hb1;have ck1:=hck.out _ hb1) | (go_at_call 181;refine (HCx.out _ L3).mono ?_;rintro e w2 ⟨rfl,hb2⟩) | (go_at_call 182;refine (HAd.out _ L3).mono ?_;rintro e w3 ⟨rfl,hp3,hb3⟩))
      go_ret;exact ⟨hb3,rfl,⟨p.words,O',p.style,false⟩,rfl,hp3⟩
     | true =>
      rw [if_pos ⟨by omega,by omega,rfl⟩] at eT;subst eT;clear HCh hRd hln1 HAdd hlen hn hcw h2 hm0 hml h2N h3N hN9 hrr hkm hk15 hkl hk0;generalize (N:Int)=NI at *
      generalize (rr:Int)=RR at *
      go_enter func165,ntmps165
      go_wp2_with (first | (go_at_call 97;refine (HPr.out _ L3).mono ?_;rintro e w1 ⟨rfl,hb1⟩;have C1':=HC1.out _ hb1;have ck1:=hck.out _ hb1) | (go_at_call 181;refine (HCx.out _ L3).mono ?_;rintro e w2 ⟨rfl,hb2⟩) | (go_at_call 182;refine (HAd.out _ L3).mono ?_;rintro e w3 ⟨rfl,hp3,hb3⟩) | (go_at_call 177;refine (HTk.out _ hp3 hb3).mono ?_;rintro e w6 ⟨rfl,hp6,hb6⟩))
      go_ret;exact ⟨hb6,rfl,hp6⟩
end Go.Proofs.YtbogmeeijdaijaaGreatDoor
namespace Go.Proofs.YtbogmeeijdaijaaGreatDoor
open Go.Proofs.Tryz Go.RowKit
set_option maxRecDepth 20000
theorem amount_ (E:World) (p:Prs) (g nb:Nat) (w:World) (hE:PaE E g nb) (hEw:Below g E w) (h:PaS w g nb p) (hk:PaK p):Calls prog 165 #[.pointer (some ⟨g,0,none⟩)] w (PaR3 g nb p (kD p) w):=by
 cases hp:prefixL p.words with
 | none =>
  have e0:kD p=none:=by unfold kD;rw [hp]
  rw [e0];exact (qeQ p g nb w h hk.sz hk.len hp).mono fun e w' ⟨h1,h2,h3⟩=>⟨h1,h2,p,rfl,h3⟩
 | some x =>
  obtain ⟨nn,k⟩:=x
  by_cases hneg:nn<0
  ·exact qg9 E p g nb w hE hEw h hk nn k hp hneg
  ·by_cases hT:p.words[k]? = some bTimes
   ·exact qe4 E p g nb w hE hEw h hk nn k hp hneg hT
   ·exact qhO E p g nb w hE hEw h hk nn k hp hneg hT
def PaK2 (p:Prs):Prop:=PaK p/\p.words.length<=850000
theorem qfu {l:List ByteArray} {x:Int × Nat} (h:charW l=some x):prefixL l=none:=by
 cases hp:prefixL l with
 | none=>rfl
 | some y =>
  obtain ⟨n,k⟩:=y;obtain ⟨hk0,hkl,_,hnum,_⟩:=zF hp;obtain ⟨h1,h2,hw,_⟩:=vp hnum
  cases l with
  | nil=>cases h
  | cons a t =>
   obtain ⟨m,rfl⟩ : ∃ m,k=m+1:=⟨k-1,by omega⟩
   rw [List.take_succ_cons] at hw
   cases hws:qm n with
   | nil=>rw [hws] at hw;cases hw
   | cons j u =>
    rw [hws,List.map_cons] at hw
    injection hw with hw _
    have hj:=jT n h1 h2 j (by rw [hws];simp);rw [<- hw,qbZ hj] at h
    cases h
theorem encN_len (r:Nat):(vQ r).length<=4:=by
 unfold vQ
 repeat' split
 all_goals simp
theorem qet (r:Nat):(kt r).size<=4:=by
 unfold kt
 show (List.toArray _).size<=_
 rw [List.size_toArray,Lq];exact encN_len r
theorem qkd (j:Bool) (st:Int) (s:ByteArray):(vm j st s).length<=s.size+1:=by
 have h:s.data.toList.length=s.size:=by simp
 unfold vm;rw [Lf,Lq,h]
 split <;> simp <;> omega
theorem qiT {j:Bool} {st:Int} {s:ByteArray} : ∀ x∈vm j st s,x.text.size=1:=by
 intro x hx;unfold vm at hx
 rcases List.mem_append.1 hx with hx | hx
 ·split at hx
  ·rw [List.mem_singleton] at hx;subst hx;rfl
  ·cases hx
 ·obtain ⟨c,_,rfl⟩:=List.mem_map.1 hx
  rfl
theorem PaK2.text {p:Prs} (h:PaK2 p) {s:ByteArray} {k:Nat} (hk:0<k) (hkl:k<=p.words.length) (hs:s.size+1<=1100 * k):PaK2 (kN p s k):=by
 obtain ⟨⟨h1,h2,h3⟩,h4⟩:=h;have hl:(p.words.drop k).length=p.words.length-k:=List.length_drop;have ht:=qkd p.joins p.style s;refine ⟨⟨fun x hx=>h1 x (List.mem_of_mem_drop hx),?_,fun x hx=>?_⟩,?_⟩
 ·show (p.out++vm p.joins p.style s).length+1100 * (p.words.drop k).length<=_
  rw [Lf,hl]
  omega
 ·show _+8 * (p.words.drop k).length<=_
  rw [hl]
  rcases List.mem_append.1 hx with hx | hx
  ·have:=h3 x hx;omega
  ·have:=qiT x hx;omega
 ·show (p.words.drop k).length<=_
  omega
theorem qgU {s:ByteArray} {r:Int} (h:((ye s r).2==0)=true):(ye s r).1.size<=s.size+4:=by
 unfold ye at *
 split at h
 ·rename_i hc
  exact absurd (beq_iff_eq.1 h) hc
 ·split at h
  ·exact absurd (beq_iff_eq.1 h) L2
  ·split at h
   ·exact absurd (beq_iff_eq.1 h) L2
   ·rename_i h1 h2 h3
    rw [if_neg h1,if_neg h2,if_neg h3,ByteArray.size_append];have:=qet r.toNat
    show s.size+_<=_
    omega
theorem PaK2.add {p:Prs} (h:PaK2 p) {r:Int} {times n:Nat} (ht:times<=132) (hn:0<n) (hnl:n<=p.words.length) (ha:(vV p.out p.style r times).1=true):PaK2 ⟨p.words.drop n,(vV p.out p.style r times).2,p.style,false⟩:=by
 obtain ⟨⟨h1,h2,h3⟩,h4⟩:=h;have hl:(p.words.drop n).length=p.words.length-n:=List.length_drop;have key:(vV p.out p.style r times).2.length<=p.out.length+132/\∀ x∈(vV p.out p.style r times).2,x.text.size+8 * p.words.length<=8000008:=by
  unfold vV at *
  split at ha
  ·cases ha
  ·split at ha
   ·split at ha
    ·cases ha
    ·rename_i hw1 hw2 hw3
     rw [if_neg hw1,if_pos hw2,if_neg hw3]
     cases hg:p.out.getLast? with
     | none=>rw [hg] at ha;cases ha
     | some g =>
      rw [hg] at ha;simp only at ha ⊢;have hz:=qgU ha;have hne:p.out≠[]:=by rintro e;rw [e] at hg;cases hg
      have hgm:g∈p.out:=by
       rw [List.getLast?_eq_some_getLast hne] at hg
       injection hg with hg
       rw [<- hg];exact List.getLast_mem hne
      have:=h3 g hgm;refine ⟨by rw [Lf,List.length_dropLast,Lz];omega,fun x hx=>?_⟩
      rcases List.mem_append.1 hx with hx | hx
      ·have:=h3 x (List.dropLast_subset _ hx);omega
      ·rw [List.mem_singleton] at hx;subst hx
       show (ye g.text r).1.size+_<=_
       omega
   ·rename_i hw1 hw2
    rw [if_neg hw1,if_neg hw2];refine ⟨by simp only [Lf,List.length_replicate];omega,fun x hx=>?_⟩
    rcases List.mem_append.1 hx with hx | hx
    ·have:=h3 x hx;omega
    ·have:=List.eq_of_mem_replicate hx;subst this;have:=qet r.toNat
     show (kt r.toNat).size+_<=_
     omega
 refine ⟨⟨fun x hx=>h1 x (List.mem_of_mem_drop hx),?_,fun x hx=>?_⟩,?_⟩
 ·show (vV p.out p.style r times).2.length+1100 * (p.words.drop n).length<=_
  rw [hl];have:=key.1
  omega
 ·show _+8 * (p.words.drop n).length<=_
  rw [hl];have:=key.2 x hx
  omega
 ·show (p.words.drop n).length<=_
  omega
theorem qfz {l:List ByteArray} {s:ByteArray} {n:Nat} (h:yl l=some (s,n)) (hsz : ∀ s∈l,s.size<=1000):s.size+1<=1100 * n/\0<n/\n<=l.length:=by
 cases l with
 | nil=>cases h
 | cons a t =>
  rw [yl] at h
  split at h
  ·rename_i hc
   simp only [Option.some.injEq,Prod.mk.injEq] at h;obtain ⟨rfl,rfl⟩:=h
   cases t with
   | nil=>exact absurd hc.2 L4
   | cons d t'=>have:=hsz d L1;exact ⟨by rw [List.headD_cons];omega,by omega,by simp⟩
  ·split at h
   ·simp only [Option.some.injEq,Prod.mk.injEq] at h;obtain ⟨rfl,rfl⟩:=h;have:=hsz a L1;exact ⟨by omega,by omega,by simp⟩
   ·split at h
    ·unfold ya at h
     split at h
     ·cases h
     ·split at h
      ·rename_i he
       simp only [Option.some.injEq,Prod.mk.injEq] at h;obtain ⟨rfl,rfl⟩:=h;have hk:(t.takeWhile jQ).length<t.length:=by
        rcases Nat.lt_or_ge (t.takeWhile jQ).length t.length with h | h
        ·exact h
        ·rw [List.getElem?_eq_none h] at he;cases he
       have hall : ∀ x∈t.takeWhile jQ,jQ x=true:=fun x hx=>List.all_eq_true.1 (List.all_takeWhile (l:=t) (p:=jQ)) x hx
       have hlen : ∀ T:List ByteArray,(∀ x∈T,jQ x=true)->(T.flatMap fun s=>s.data.toList).length=T.length:=by
        intro T
        induction T with
        | nil=>intro _;rfl
        | cons x T ih =>
         intro hall;have hx:=hall x L1;unfold jQ at hx;rw [Bool.and_eq_true,decide_eq_true_eq] at hx;rw [List.flatMap_cons,Lf,Lp,ih fun y hy=>hall y (by simp [hy])];have:x.data.toList.length=x.size:=by simp
         omega
       have hT:=hlen _ hall;refine ⟨?_,by omega,by rw [Lp];omega⟩
       show (List.toArray _).size+1<=_
       rw [List.size_toArray,hT]
       omega
      ·cases h
    ·cases h
theorem qcM (s:ByteArray) (n:Nat):(jn s n).size=s.size:=by
 unfold jn
 show (List.toArray _).size=_
 rw [List.size_toArray,Lf,Lq,<- Lf,List.take_append_drop]
 simp
theorem dgs_len (t:List ByteArray):(k7 t).length<=t.length:=by
 unfold k7;rw [Lq];exact (List.takeWhile_sublist _).length_le
theorem qis : ∀ (k n:Nat),n<10 ^ (k+1)->(kA n).length<=k+1
 | 0,n,h=>by
  rw [kA,dif_pos (by simpa using h)]
  simp
 | k+1,n,h=>by
  rw [kA]
  split
  ·simp
  ·rw [Lf,Lz];have:=qis k (n / 10) (by rw [Nat.pow_succ] at h;omega)
   omega
theorem PaK2.part {p q:Prs} (hK:PaK2 p) (h:va p=some q):PaK2 q:=by
 have hK0:=hK;obtain ⟨⟨hw1,hw2,hw3⟩,hw4⟩:=hK0;have hdrop : ∀ {W:List ByteArray} {a st j},p.words=a::W->PaK2 ⟨W,p.out,st,j⟩:=by
  intro W a st j e;rw [e,Lp] at hw2 hw4;refine ⟨⟨fun x hx=>hw1 x (by rw [e];simp [hx]),?_,fun x hx=>?_⟩,?_⟩
  ·show p.out.length+1100 * W.length<=_
   omega
  ·show _+8 * W.length<=_
   have:=hw3 x hx;rw [e,Lp] at this
   omega
  ·show W.length<=_
   omega
 unfold va at h
 cases h1:zP p with
 | some q' =>
  rw [h1,some_or] at h;obtain rfl:q'=q:=by injection h
  unfold zP at h1
  split at h1
  ·cases h1
  ·rename_i a t hw
   split at h1
   ·injection h1 with h1;subst h1;exact hdrop hw
   ·split at h1
    ·injection h1 with h1;subst h1;exact hdrop hw
    ·cases h1
 | none =>
  rw [h1,y9] at h
  cases h2:jP p with
  | some q' =>
   rw [h2,some_or] at h;obtain rfl:q'=q:=by injection h
   unfold jP at h2
   split at h2
   ·cases h2
   ·rename_i a t hw
    have ht : ∀ s∈t,s.size<=1000:=fun s hs=>hw1 s (by rw [hw];simp [hs])
    have hat : ∀ s∈a::t,s.size<=1000:=fun s hs=>hw1 s (by rw [hw];exact hs)
    split at h2
    ·rw [Option.map_eq_some_iff] at h2;obtain ⟨⟨s,n⟩,hl,rfl⟩:=h2;obtain ⟨a1,a2,a3⟩:=qfz hl ht;exact hK.text L0 (by rw [hw,Lp];omega) (by rw [qcM];omega)
    ·split at h2
     ·rw [Option.map_eq_some_iff] at h2;obtain ⟨⟨s,n⟩,hl,rfl⟩:=h2;obtain ⟨a1,a2,a3⟩:=qfz hl ht;exact hK.text L0 (by rw [hw,Lp];omega) (by rw [qcM];omega)
     ·rw [Option.map_eq_some_iff] at h2;obtain ⟨⟨s,n⟩,hl,rfl⟩:=h2;obtain ⟨a1,a2,a3⟩:=qfz hl hat;exact hK.text a2 (by rw [hw];exact a3) a1
  | none =>
   rw [h2,y9] at h
   cases h3:qaP p with
   | some q' =>
    rw [h3,some_or] at h;obtain rfl:q'=q:=by injection h
    unfold qaP at h3
    split at h3
    ·cases h3
    ·rename_i a t hw
     split at h3
     ·injection h3 with h3
      subst h3;have:=dgs_len t;refine hK.text L0 (by rw [hw,Lp];omega) ?_;unfold zN
      show (List.toArray _).size+1<=_
      rw [List.size_toArray,Lq]
      omega
     ·cases h3
   | none =>
    rw [h3,y9] at h
    cases h4:ko p with
    | some q' =>
     rw [h4,some_or] at h;obtain rfl:q'=q:=by injection h
     unfold ko at h4
     split at h4
     ·cases h4
     ·rename_i r n hc
      obtain ⟨a,b,_⟩:=qcB hc
      split at h4
      ·rename_i hadd
       injection h4 with h4
       subst h4;exact hK.add L0 a b hadd
      ·cases h4
    | none =>
     rw [h4,y9] at h;unfold kD at h
     split at h
     ·cases h
     ·rename_i n k hk
      obtain ⟨a,b,_,hnum,_⟩:=zF hk;obtain ⟨hn1,hn2,_⟩:=vp hnum
      split at h
      ·cases h
      ·split at h
       ·rename_i hT
        split at h
        ·cases h
        ·rename_i r m hc
         obtain ⟨a2,b2,_⟩:=qcB hc;rw [List.length_drop] at b2
         split at h
         ·rename_i hadd
          injection h with h
          subst h;exact hK.add L0 L0 L0 hadd.2.2
         ·cases h
       ·injection h with h
        subst h;refine hK.text a b ?_;have:=qis 8 n.toNat L0
        show (List.toArray _).size+1<=_
        rw [List.size_toArray]
        omega
end Go.Proofs.YtbogmeeijdaijaaGreatDoor
