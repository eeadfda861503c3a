/- Joined: Rp6, Rp7, Rp8. -/
import Derived.Test.YtggegijlfaipfaaGreatDoorZAN
set_option linter.unusedVariables false
set_option linter.unusedSimpArgs false
set_option linter.unnecessarySimpa false
set_option maxHeartbeats 8000000
namespace Go.Proofs.YtggegijlfaipfaaGreatDoor
open Go.Proofs.Tryz Go.RowKit
set_option maxRecDepth 20000
theorem qlG (O:List Gl) (st:Int) (J:Bool) (l:List ByteArray) (ho:O.length<=1000000000) (A:Option Addr) (c base:Nat) (w:World) (hb:base<=w.heap.size) (h:w.ownsRow base 61 3 (.slice A O.length c) O.length (qi O)) (Aw:Option Addr) (nw cw:Nat) (hW:WdA base w l Aw nw cw) (hot : ∀ x∈O,x.text.size<=8000000) (nn:Int) (k:Nat) (hp:prefixL l=some (nn,k)) (qnP : ¬ nn<0) (hTm:l[k]? = some bTimes):Calls prog 138 #[.agg (tC (.slice A O.length c) st J),.slice Aw nw cw] w (PRes base (.slice A O.length c) w l (kD ⟨l,O,st,J⟩)):=by
 obtain ⟨N,rfl⟩ : ∃ N:Nat,nn=(N:Int):=⟨nn.toNat,by omega⟩
 obtain ⟨hk0,hkl,qm1,qmJ,_⟩:=zF hp;obtain ⟨_,hN9,_⟩:=vp qmJ;have hN:N<=999999999:=by omega
 have eT:kD ⟨l,O,st,J⟩=match charW (l.drop (k+1)) with
   | none=>none
   | some (r,m)=>if 2<=(N:Int)/\(N:Int)<=132/\(vV O st r N).1=true then some ⟨l.drop (k+1+m),(vV O st r N).2,st,false⟩ else none:=by
  unfold kD;simp only;rw [hp];simp only;rw [if_neg qnP,if_pos hTm,Int.toNat_natCast];cases charW (l.drop (k+1)) <;> rfl
 generalize kD ⟨l,O,st,J⟩=RES at *
 have hpn:=TX.new (st:=st) (j:=J) h hb;clear h;obtain ⟨v0,hv0⟩ : ∃ x,x=Value.slice A O.length c:=⟨_,rfl⟩
 have HV:=Lh hv0;rw [<- hv0] at hpn ⊢;clear hv0;have HPr:Hid (∀ w',Below base w w'->Calls prog 86 #[.slice Aw nw cw] w' (qh (ve (prefixL l)) w')):=Lh fun w' hw =>
  j8 l Aw nw cw w' hW.len hW.cap hW.max ((hW.rd.below hw).more (Lj hb hw.size)) (hW.tb w' hw)
 rw [hp] at HPr;simp only [ve] at HPr;have hln:=hW.len;have hkn:k<nw:=by
  rcases Nat.lt_or_ge k l.length with h | h
  ·omega
  ·rw [List.getElem?_eq_none h] at hTm;cases hTm
 have hwk:l[k]'(by omega)=bTimes:=by
  rw [List.getElem?_eq_getElem L0] at hTm
  injection hTm
 obtain ⟨b,o,hA,hbg,-⟩:=hW.rd.2 (show 0<nw by omega);subst hA;have HCk:Hid (∀ w',Below base w w'->w'.cell? ⟨b,o+k,none⟩=some (.string bTimes)):=Lh fun w' hw=>by
  obtain ⟨b',o',e',_,hc⟩:=(hW.rd.below hw).at_ hkn;simp only [Option.some.injEq,Addr.mk.injEq,and_true] at e';obtain ⟨rfl,rfl⟩:=e';rw [yM _ _ L0,hwk] at hc;exact hc
 have HCh:Hid (∀ A' N c',N=nw-(k+1)->N<=c'->c'<=maxLen->Rd w base 1 A' N (sv (l.drop (k+1)))->∀ w',Below base w w'->Calls prog 136 #[.slice A' N c'] w' (qh (qmb (charW (l.drop (k+1)))) w')):=Lh fun A' N c' hN hc hm rd w' hw =>
  qlP (l.drop (k+1)) A' N c' w' (by rw [List.length_drop];omega) hc hm ((rd.below hw).more (Lj hb hw.size)) (hW.tb w' hw)
 have hRd:=hW.rd.cut (k:=k+1) L0 hW.cap;rw [show (sv l).drop ((k+1) * 1)=sv (l.drop (k+1)) by simp [sv]] at hRd;simp only [Nat.mul_one,Option.map_some,vl] at hRd;have qk:(bTimes.toList==[116,105,109,101,115])=true:=by decide +kernel
 have heq:((k:Int)==(nw:Int))=false:=Lm.2 L0;have hki:(k:Int)<nw:=by omega
 have hk0i:(0:Int)<=k:=by omega
 have hcap:=hW.cap;have hmax:=hW.max;have i2:(k:Int)+1<=nw:=by omega
 have i3:(k:Int)+1<=cw:=by omega
 have i1:(0:Int)<=(k:Int)+1:=by omega
 have i4:(k:Int)+1<=16:=by omega
 have hi0 : ¬ (N:Int)<0:=by omega
 have hfew:=hW.few;have hc63:cw<=9223372036854775807:=by unfold maxLen at hmax;omega
 clear qmJ qnP hTm hwk hW hp
 by_cases hck1:cw=k+1
 ·rw [if_pos hck1] at hRd;have HCx:=Lh (HCh.out (some ⟨b,o,none⟩) (nw-(k+1)) 0 rfl L0 L0 hRd);have hnk:nw-(k+1)=0:=by omega
  rw [hnk] at HCx;have l0:l.drop (k+1)=[]:=List.length_eq_zero_iff.1 (by rw [List.length_drop];omega);rw [l0,show charW []=none from rfl] at HCx eT;simp only [qmb] at HCx;have e0:=Lh eT;obtain rfl:nw=k+1:=by omega
  subst hck1;clear HCh hRd l0 eT
  go_enter func138,ntmps138
  go_upto_region 1 with fail
  refine qa (TX w base v0 st J O) hpn ?_;clear hpn;intro X hX
  go_upto_region 4 with (go_at_call 86;refine (HPr.out _ hX.bel).mono ?_;rintro e w1 ⟨rfl,hb1⟩;have hT:=hX.below hb1 hb)
  have hck:=HCk.out _ hT.bel
  go_upto_region 13 with (go_at_call 136;refine (HCx.out _ hT.bel).mono ?_;rintro e w2 ⟨rfl,hb2⟩)
  replace hT:=hT.below hb2 hb;clear hX hb1 hb2 hck;obtain ⟨A6,c6,B1,B2,ox,hs6,tx⟩:=hT;have c0:=B1.cell 0;have c1:=B1.cell 1;have c2:=B1.cell 2;have d0:=B2.cell 0;have d1:=B2.cell 1;have d2:=B2.cell 2;have f0:=B1.frozen 0;have f2:=B1.frozen 2;have g0:=B2.frozen 0;have g1:=B2.frozen 1;have g2:=B2.frozen 2;simp only [tC,La,Lb,Lc] at c0 c1 c2 d0 d1 d2;have R:=TX.copy (v:=.slice A6 O.length c6) (st':=st) (j':=J) B2 ox hs6 tx hb;go_wp2;exact bodyPost_ret (vG rfl _ _ (w.heap.size+1) 165 _ (0,0) _ rfl R.1 underlying165 rfl qy) rfl (by rw [e0.out];exact ⟨_,_,_,_,_,rfl,R.2.2⟩)
 ·rw [if_neg hck1] at hRd;have HCx:=Lh (HCh.out (some ⟨b,o+(k+1),none⟩) (nw-(k+1)) (cw-(k+1)) rfl L0 L0 hRd)
  cases hcw:charW (l.drop (k+1)) with
  | none =>
   rw [hcw] at HCx eT;simp only [qmb] at HCx;have e0:=Lh eT;clear HCh hRd eT hcw
   go_enter func138,ntmps138
   go_upto_region 1 with fail
   refine qa (TX w base v0 st J O) hpn ?_;clear hpn;intro X hX
   go_upto_region 4 with (go_at_call 86;refine (HPr.out _ hX.bel).mono ?_;rintro e w1 ⟨rfl,hb1⟩;have hT:=hX.below hb1 hb)
   have hck:=HCk.out _ hT.bel
   go_upto_region 13 with (go_at_call 136;refine (HCx.out _ hT.bel).mono ?_;rintro e w2 ⟨rfl,hb2⟩)
   replace hT:=hT.below hb2 hb;clear hX hb1 hb2 hck;obtain ⟨A6,c6,B1,B2,ox,hs6,tx⟩:=hT;have c0:=B1.cell 0;have c1:=B1.cell 1;have c2:=B1.cell 2;have d0:=B2.cell 0;have d1:=B2.cell 1;have d2:=B2.cell 2;have f0:=B1.frozen 0;have f2:=B1.frozen 2;have g0:=B2.frozen 0;have g1:=B2.frozen 1;have g2:=B2.frozen 2;simp only [tC,La,Lb,Lc] at c0 c1 c2 d0 d1 d2;have R:=TX.copy (v:=.slice A6 O.length c6) (st':=st) (j':=J) B2 ox hs6 tx hb;go_wp2;exact bodyPost_ret (vG rfl _ _ (w.heap.size+1) 165 _ (0,0) _ rfl R.1 underlying165 rfl qy) rfl (by rw [e0.out];exact ⟨_,_,_,_,_,rfl,R.2.2⟩)
  | some x =>
   obtain ⟨r,m⟩:=x;obtain ⟨rr,rfl,hrr⟩:=qfT hcw;obtain ⟨hm0,hml⟩:=qeG hcw;rw [hcw] at HCx eT;simp only [qmb] at HCx;simp only at eT;have hml2:m<=nw-(k+1):=by rw [List.length_drop] at hml;omega
   have hmi:(0:Int)<m:=by omega
   have hmz:((m:Int)==0)=false:=Lm.2 L0;clear HCh hRd hcw hml
   by_cases hN2:2<=(N:Int)/\(N:Int)<=132
   ·have HAd:=Lh (fun A6 c6 w2 hb2 ox=>radd O st J rr hrr N L0 ho hot A6 c6 base w2 hb2 ox);have hj1 : ¬ (N:Int)<2:=by omega
    have hj2 : ¬ (132:Int)<N:=by omega
    have eT2:RES=if (vV O st (rr:Int) N).1=true then some ⟨l.drop (k+1+m),(vV O st (rr:Int) N).2,st,false⟩ else none:=by
     rw [eT]
     by_cases ho:(vV O st (rr:Int) N).1=true
     ·rw [if_pos ho,if_pos ⟨hN2.1,hN2.2,ho⟩]
     ·rw [if_neg ho,if_neg (fun h=>ho h.2.2)]
    have e0:=Lh eT2;clear eT eT2 hN2 hot;generalize vV O st (rr:Int) N=AD at *
    obtain ⟨ok,Q⟩:=AD;dsimp only at *
    generalize (rr:Int)=R at *
    go_enter func138,ntmps138
    go_upto_region 1 with fail
    refine qa (TX w base v0 st J O) hpn ?_;clear hpn;intro X hX
    go_upto_region 4 with (go_at_call 86;refine (HPr.out _ hX.bel).mono ?_;rintro e w1 ⟨rfl,hb1⟩;have hT:=hX.below hb1 hb)
    have hck:=HCk.out _ hT.bel
    go_upto_region 13 with (go_at_call 136;refine (HCx.out _ hT.bel).mono ?_;rintro e w2 ⟨rfl,hb2⟩)
    replace hT:=hT.below hb2 hb;clear hX hb1 hb2 hck;obtain ⟨A6,c6,B1,B2,ox,hs6,tx⟩:=hT;have HAx:=Lh (HAd.out A6 c6 w2 (Lj hb tx.size) ox);have c0:=B1.cell 0;have c1:=B1.cell 1;have c2:=B1.cell 2;have d0:=B2.cell 0;have d1:=B2.cell 1;have d2:=B2.cell 2;have f0:=B1.frozen 0;have f2:=B1.frozen 2;have g0:=B2.frozen 0;have g1:=B2.frozen 1;have g2:=B2.frozen 2;simp only [tC,La,Lb,Lc] at c0 c1 c2 d0 d1 d2;clear HAd HCx
    go_upto_region 17 with (go_at_call 137;refine HAx.out.mono ?_;rintro e w5 ⟨A7,c7,rfl,o7,bg7,hs7⟩;clear c0 c1 c2 d0 d1 d2 f0 f2 g0 g1 g2;obtain ⟨D1,D2,tx7,hs8⟩:=TX.call B1 B2 hs6 tx bg7 hs7;simp only [tC])
    have N1:Blk (w5.alloc (.cells (tC (.slice A7 Q.length c7) st false) 165)) w5.heap.size 165 (tC (.slice A7 Q.length c7) st false):=Blk.new _ _ _;have c0:=N1.cell 0;have c1:=N1.cell 1;have c2:=N1.cell 2;have E1:=D1.alloc (.cells (tC (.slice A7 Q.length c7) st false) 165);have E2:=D2.alloc (.cells (tC (.slice A7 Q.length c7) st false) 165);have d0:=E2.cell 0;have d1:=E2.cell 1;have d2:=E2.cell 2;have g0:=E2.frozen 0;have g1:=E2.frozen 1;have g2:=E2.frozen 2;have b0:=E1.cell 0;have b1:=E1.cell 1;have b2:=E1.cell 2;have o8:=o7.alloc (.cells (tC (.slice A7 Q.length c7) st false) 165);have tx8:=tx7.alloc hb (.cells (tC (.slice A7 Q.length c7) st false) 165);simp only [tC,La,Lb,Lc] at c0 c1 c2 d0 d1 d2 b0 b1 b2;clear HAx B1 B2 ox tx bg7 hs7 o7 tx7 D1 D2 N1 E1 HPr HCk
    cases ok with
    | false =>
     rw [if_neg L1] at e0;have R:=TX.copy (v:=.slice A6 O.length c6) (st':=st) (j':=J) E2 o8 hs8 tx8 hb;go_wp2;exact bodyPost_ret (vG rfl _ _ (w.heap.size+1) 165 _ (0,0) _ rfl R.1 underlying165 rfl qy) rfl (by rw [e0.out];exact ⟨_,_,_,_,_,rfl,R.2.2⟩)
    | true =>
     rw [if_pos rfl] at e0;have HV2:Hid (wrap64 (wrap64 ((k:Int)+1)+(m:Int))=((k+1+m:Nat):Int)):=Lh (by rw [wrap_k1 k qm1,wrap_km k m qm1 L0];omega);have hkm:k+1+m<=l.length:=by omega
     clear hml2 hm0 hmi hmz hki hk0i hcap hmax i2 i3 i1 i4 hi0 hc63 hfew hj1 hj2 heq qk hN hN9 qm1 hck1;have R:=TX.copy (v:=.slice A7 Q.length c7) (st':=st) (j':=false) E2 o8 hs8 tx8 hb;go_wp2;exact bodyPost_ret (vG rfl _ _ (w.heap.size+1) 165 _ (0,0) _ rfl R.1 underlying165 rfl qy) rfl (by rw [e0.out];exact ⟨A7,c7,k+1+m,by omega,hkm,rfl,(by show Ending.returned (Value.tuple #[.agg (tC (.slice A7 Q.length c7) st false),.int .i64 (wrap64 (wrap64 ((k:Int)+1)+(m:Int)))])=_;rw [HV2.out]),R.2.1,R.2.2,hs8⟩)
   ·have e0:=Lh (eT.trans (if_neg fun h=>hN2 ⟨h.1,h.2.1⟩));have hN3:(N:Int)<2∨(¬ (N:Int)<2/\(132:Int)<N):=by omega
    clear hN2 eT
    rcases hN3 with hj | ⟨hj1,hj2⟩
    ·go_enter func138,ntmps138
     go_upto_region 1 with fail
     refine qa (TX w base v0 st J O) hpn ?_;clear hpn;intro X hX
     go_upto_region 4 with (go_at_call 86;refine (HPr.out _ hX.bel).mono ?_;rintro e w1 ⟨rfl,hb1⟩;have hT:=hX.below hb1 hb)
     have hck:=HCk.out _ hT.bel
     go_upto_region 13 with (go_at_call 136;refine (HCx.out _ hT.bel).mono ?_;rintro e w2 ⟨rfl,hb2⟩)
     replace hT:=hT.below hb2 hb;clear hX hb1 hb2 hck;obtain ⟨A6,c6,B1,B2,ox,hs6,tx⟩:=hT;have c0:=B1.cell 0;have c1:=B1.cell 1;have c2:=B1.cell 2;have d0:=B2.cell 0;have d1:=B2.cell 1;have d2:=B2.cell 2;have f0:=B1.frozen 0;have f2:=B1.frozen 2;have g0:=B2.frozen 0;have g1:=B2.frozen 1;have g2:=B2.frozen 2;simp only [tC,La,Lb,Lc] at c0 c1 c2 d0 d1 d2;have R:=TX.copy (v:=.slice A6 O.length c6) (st':=st) (j':=J) B2 ox hs6 tx hb;go_wp2;exact bodyPost_ret (vG rfl _ _ (w.heap.size+1) 165 _ (0,0) _ rfl R.1 underlying165 rfl qy) rfl (by rw [e0.out];exact ⟨_,_,_,_,_,rfl,R.2.2⟩)
    ·go_enter func138,ntmps138
     go_upto_region 1 with fail
     refine qa (TX w base v0 st J O) hpn ?_;clear hpn;intro X hX
     go_upto_region 4 with (go_at_call 86;refine (HPr.out _ hX.bel).mono ?_;rintro e w1 ⟨rfl,hb1⟩;have hT:=hX.below hb1 hb)
     have hck:=HCk.out _ hT.bel
     go_upto_region 13 with (go_at_call 136;refine (HCx.out _ hT.bel).mono ?_;rintro e w2 ⟨rfl,hb2⟩)
     replace hT:=hT.below hb2 hb;clear hX hb1 hb2 hck;obtain ⟨A6,c6,B1,B2,ox,hs6,tx⟩:=hT;have c0:=B1.cell 0;have c1:=B1.cell 1;have c2:=B1.cell 2;have d0:=B2.cell 0;have d1:=B2.cell 1;have d2:=B2.cell 2;have f0:=B1.frozen 0;have f2:=B1.frozen 2;have g0:=B2.frozen 0;have g1:=B2.frozen 1;have g2:=B2.frozen 2;simp only [tC,La,Lb,Lc] at c0 c1 c2 d0 d1 d2;have R:=TX.copy (v:=.slice A6 O.length c6) (st':=st) (j':=J) B2 ox hs6 tx hb;go_wp2;exact bodyPost_ret (vG rfl _ _ (w.heap.size+1) 165 _ (0,0) _ rfl R.1 underlying165 rfl qy) rfl (by rw [e0.out];exact ⟨_,_,_,_,_,rfl,R.2.2⟩)
theorem rnum (O:List Gl) (st:Int) (J:Bool) (l:List ByteArray) (ho:O.length<=1000000000) (A:Option Addr) (c base:Nat) (w:World) (hb:base<=w.heap.size) (h:w.ownsRow base 61 3 (.slice A O.length c) O.length (qi O)) (Aw:Option Addr) (nw cw:Nat) (hW:WdA base w l Aw nw cw) (hot : ∀ x∈O,x.text.size<=8000000):Calls prog 138 #[.agg (tC (.slice A O.length c) st J),.slice Aw nw cw] w (PRes base (.slice A O.length c) w l (kD ⟨l,O,st,J⟩)):=by
 cases hp:prefixL l with
 | none=>exact rnum_no O st J l ho A c base w hb h Aw nw cw hW hp
 | some x =>
  obtain ⟨nn,k⟩:=x
  by_cases qnP:nn<0
  ·exact rnum_neg O st J l ho A c base w hb h Aw nw cw hW nn k hp qnP
  ·by_cases hT:l[k]? = some bTimes
   ·exact qlG O st J l ho A c base w hb h Aw nw cw hW hot nn k hp qnP hT
   ·exact rnum_dec O st J l ho A c base w hb h Aw nw cw hW nn k hp qnP hT
def NmT (w:World) (b:Nat):Prop:=∀ i:Nat,i<4->w.cell? ⟨b,i,none⟩=some (.string (vP i))
theorem NmT.new {w:World} {b:Nat} (hb:w.heap.size=b):NmT (w.alloc (.cells #[.string ⟨#[112,108,97,105,110]⟩,.string ⟨#[115,116,114,111,110,103]⟩,.string ⟨#[105,110,118,101,114,115,101]⟩,.string ⟨#[104,105,100,100,101,110]⟩] 9)) b:=fun i hi=>by
 subst hb;rw [qu]
 match i,hi with
 | 0,_=>rfl
 | 1,_=>rfl
 | 2,_=>rfl
 | 3,_=>rfl
theorem NmT.drewN {w:World} {b:Nat} (h:NmT w b) (n:Nat):NmT (w.drewN n) b:=h
theorem TX.drewN {w X:World} {base:Nat} {v0:Value} {st:Int} {j:Bool} {O:List Gl} (h:TX w base v0 st j O X) (qnR:base<=w.heap.size) (n:Nat):TX w base v0 st j O (X.drewN n):=h.below (qf (Le _ _)) qnR
theorem ql5 {l:List ByteArray} {s:ByteArray} {n:Nat} (h:yl l=some (s,n)) (hsz : ∀ s∈l,s.size<=1000) (hl:l.length<=1000):s.size<=1000:=by
 cases l with
 | nil=>cases h
 | cons a t =>
  rw [yl] at h
  split at h
  ·rename_i hc
   simp only [Option.some.injEq,Prod.mk.injEq] at h;obtain ⟨rfl,rfl⟩:=h
   cases t with
   | nil=>exact absurd hc.2 L4
   | cons d t'=>exact hsz d L1
  ·split at h
   ·simp only [Option.some.injEq,Prod.mk.injEq] at h;obtain ⟨rfl,rfl⟩:=h;exact hsz a L1
   ·split at h
    ·unfold ya at h
     split at h
     ·cases h
     ·split at h
      ·simp only [Option.some.injEq,Prod.mk.injEq] at h;obtain ⟨rfl,rfl⟩:=h;have hall : ∀ x∈t.takeWhile jQ,jQ x=true:=fun x hx=>List.all_eq_true.1 (List.all_takeWhile (l:=t) (p:=jQ)) x hx
       have qnQ : ∀ T:List ByteArray,(∀ x∈T,jQ x=true)->(T.flatMap fun s=>s.data.toList).length=T.length:=by
        intro T
        induction T with
        | nil=>intro _;rfl
        | cons x T ih =>
         intro hall;have hx:=hall x L1;unfold jQ at hx;rw [Bool.and_eq_true,decide_eq_true_eq] at hx;rw [List.flatMap_cons,Lf,Lp,ih fun y hy=>hall y (by simp [hy])];have:x.data.toList.length=x.size:=by simp
         omega
       have hT:=qnQ _ hall;have hle:(t.takeWhile jQ).length<=t.length:=(List.takeWhile_sublist _).length_le;rw [Lp] at hl
       show (List.toArray _).size<=_
       rw [List.size_toArray,hT]
       omega
      ·cases h
    ·cases h
theorem wrap8 (d:Nat) (h:d<10):IntKind.u8.wrap (48+(d:Int))=48+(d:Int):=by
 have : ∀ d:Fin 10,IntKind.u8.wrap (48+((d.val:Nat):Int))=48+((d.val:Nat):Int):=by decide +kernel
 exact this ⟨d,h⟩
theorem own_cap2 {w:World} {base size n c:Nat} {e:TypeId} {A:Option Addr} {xs:List Value} (h:w.ownsRow base e size (.slice A n c) n xs):n<=c:=by
 rcases h.2 with ⟨h0,_⟩ | ⟨g,cap,cur,hv,h1,h2,h3,h4,_⟩
 ·injection h0 with _ h0 h0';omega
 ·injection hv with _ _ hv;omega
theorem qk1 {α:Type} (p:α->Bool) : ∀ l:List α,(l.find? p).isSome=l.any p
 | []=>rfl
 | a::l=>by
  rw [List.find?_cons,List.any_cons]
  cases p a with
  | true=>rfl
  | false=>exact qk1 p l
theorem dgW_has (x:ByteArray):(dgW x).isSome=qab (vocB.take 10) x:=by
 unfold dgW qab vocB;rw [qk1,<- List.map_take,List.any_map]
 rfl
theorem qlF (s:ByteArray):jn s 0=s:=by
 unfold jn
 apply ByteArray.ext
 apply Array.toList_inj.1
 simp
theorem TX.copy0 {w wr:World} {base:Nat} {v0:Value} {v:Value} {st':Int} {j':Bool} (B1:Blk wr (w.heap.size+1) 165 (tC (.slice none 0 0) 0 false)) (tx:BG base v0 w wr) (hb:base<=w.heap.size) :
  Blk (((wr.setCell ⟨w.heap.size+1,0,none⟩ v).setCell ⟨w.heap.size+1,1,none⟩ (.int .i64 st')).setCell ⟨w.heap.size+1,2,none⟩ (.bool j')) (w.heap.size+1) 165 (tC v st' j') /\
  BG base v0 w (((wr.setCell ⟨w.heap.size+1,0,none⟩ v).setCell ⟨w.heap.size+1,1,none⟩ (.int .i64 st')).setCell ⟨w.heap.size+1,2,none⟩ (.bool j')) :=
 ⟨k8 B1,((tx.set_ hb (Nat.le_succ _) _).set_ hb (Nat.le_succ _) _).set_ hb (Nat.le_succ _) _⟩
theorem qld {l:List ByteArray} {o:Option (ByteArray × Nat)} {O:List Gl} {st:Int} {J:Bool} {RES:Option Prs} {s:ByteArray} {n cp:Nat} (h:RES=o.map fun (s,n)=>kN ⟨l,O,st,J⟩ (jn s cp) (1+n)) (ho:o=some (s,n)):RES=some ⟨l.drop (1+n),O++vm J st (jn s cp),st,true⟩:=by
 rw [h,ho]
 rfl
theorem TX.drew {w X:World} {base:Nat} {v0:Value} {st:Int} {j:Bool} {O:List Gl} (h:TX w base v0 st j O X) (qnR:base<=w.heap.size):TX w base v0 st j O X.drew:=h.below (Le _ _).drew qnR
theorem TX.turn {w wr:World} {base:Nat} {v0:Value} {O:List Gl} {A:Option Addr} {c:Nat} {p q:Addr} {u x:Value} (hp:p.block=w.heap.size) (hq:q.block=w.heap.size) (B2:Blk wr (w.heap.size+1) 165 (tC (.slice none 0 0) 0 false)) (ox:wr.ownsRow base 61 3 (.slice A O.length c) O.length (qi O))
  (hs:Sep w.heap.size v0 (.slice A O.length c)) (tx:BG base v0 w wr) (hb:base<=w.heap.size) :
  (Blk ((wr.setCell p u).setCell q x) (w.heap.size+1) 165 (tC (.slice none 0 0) 0 false)/\((wr.setCell p u).setCell q x).ownsRow base 61 3 (.slice A O.length c) O.length (qi O)/\BG base v0 w ((wr.setCell p u).setCell q x)) /\
  (Blk (wr.setCell q x) (w.heap.size+1) 165 (tC (.slice none 0 0) 0 false)/\(wr.setCell q x).ownsRow base 61 3 (.slice A O.length c) O.length (qi O)/\BG base v0 w (wr.setCell q x)):=by
 have h1 : ∀ k,(Value.slice A O.length c).ownBlock=some k->k≠p.block:=fun k hk=>by rw [hp];exact (hs.ne k hk).1
 have h2 : ∀ k,(Value.slice A O.length c).ownBlock=some k->k≠q.block:=fun k hk=>by rw [hq];exact (hs.ne k hk).1
 exact ⟨⟨(B2.far (by rw [hp];omega) _).far (by rw [hq];omega) _,zy (zy ox h1 _) h2 _,(tx.set_ hb (by rw [hp];exact Ld _) _).set_ hb (by rw [hq];exact Ld _) _⟩,
  B2.far (by rw [hq];omega) _,zy ox h2 _,tx.set_ hb (by rw [hq];exact Ld _) _⟩
theorem rone (O:List Gl) (st:Int) (J:Bool) (l:List ByteArray) (ho:O.length<=1000000000) (A:Option Addr) (c base:Nat) (w:World) (hb:base<=w.heap.size) (h:w.ownsRow base 61 3 (.slice A O.length c) O.length (qi O)) (Aw:Option Addr) (nw cw:Nat) (hW:WdA base w l Aw nw cw) (hot : ∀ x∈O,x.text.size<=8000000) (a:ByteArray) (t:List ByteArray) (hl:l=a::t):Calls prog 117 #[.agg (tC (.slice A O.length c) st J),.slice Aw nw cw] w (PRes base (.slice A O.length c) w l (va ⟨l,O,st,J⟩)):=by
 have hpn:=TX.new (st:=st) (j:=J) h hb;clear h;obtain ⟨v0,hv0⟩ : ∃ x,x=Value.slice A O.length c:=⟨_,rfl⟩
 have HV:=Lh hv0;rw [<- hv0] at hpn ⊢;clear hv0;obtain ⟨RES,qmF⟩ : ∃ x,x=va ⟨l,O,st,J⟩:=⟨_,rfl⟩
 rw [<- qmF];replace qmF:=Lh qmF;have hln:=hW.len;have hnw:t.length+1=nw:=by rw [<- hln,hl];simp
 obtain ⟨b,o,hA,hbg,hca⟩:=hW.rd.2 (show 0<nw by omega);subst hA;have HCa:Hid (∀ w',Below base w w'->w'.cell? ⟨b,o,none⟩=some (.string a)):=Lh fun w' hw=>(hw.cell (show b<base from hbg)).trans (hca 0 _ (by rw [hl];rfl))
 clear hca;have HW:=Lh hW;have HL:=Lh hl;have hi0:(0:Int)<nw:=by omega
 clear hW hl hln
 go_enter func117,ntmps117
 go_upto_region 2 with fail
 refine qa (fun X=>TX w base v0 st J O X/\NmT X (w.heap.size+2)) ⟨hpn.below (Below.alloc (Le _ _) (Ld _) _) hb,NmT.new L1⟩ ?_;clear hpn;rintro X ⟨hT,hnm⟩;go_wp2
 go_loopw [7] (fun x wr=>∃ i:Nat,i<=4/\x = .int .i64 i/\TX w base v0 st J O wr/\NmT wr (w.heap.size+2)/\Hid (∀ k,k<i->vP k≠a)) (fun x _=>4-(intOf x).toNat)
 case atStart=>exact ⟨0,Nat.zero_le _,rfl,hT,hnm,Lh fun k hk=>absurd hk (Nat.not_lt_zero k)⟩
 case round =>
  clear hT hnm;obtain ⟨i,hi,rfl,hT,hnm,HN⟩:=hrel;have ca:=HCa.out _ hT.bel
  by_cases hlt:i<4
  ·have cn:=hnm i hlt;have hq:=jO a (vP i);have hii:(i:Int)<4:=by omega
   have hi1:(0:Int)<=i:=by omega
   by_cases he:vP i=a
   ·as_aux_lemma =>
    have e0:Hid (RES=some ⟨t,O,(i:Nat),false⟩):=Lh (by rw [qmF.out];exact rp_sty (HL.out) (sty_at hlt HN.out he));rw [Ll he.symm] at hq;generalize vP i=SN at *
    obtain ⟨A6,c6,B1,B2,ox,hs6,tx⟩:=hT;have c0:=B1.cell 0;have c1:=B1.cell 1;have c2:=B1.cell 2;have d0:=B2.cell 0;have d1:=B2.cell 1;have d2:=B2.cell 2;have f0:=B1.frozen 0;have f2:=B1.frozen 2;have g0:=B2.frozen 0;have g1:=B2.frozen 1;have g2:=B2.frozen 2;simp only [tC,La,Lb,Lc] at c0 c1 c2 d0 d1 d2;have f1:=B1.frozen 1;have R1:=fun nq=>(TX.turn (p:=⟨w.heap.size,1,none⟩) (q:=⟨w.heap.size,2,none⟩) (u:=.int .i64 (i:Int)) (x:=.bool false) rfl rfl (B2.drewN nq) (qb ox (qf (Le _ _))) hs6 (tx.below (qf (Le _ _)) hb) hb).1
    have R0:=fun nq=>TX.copy (v:=.slice A6 O.length c6) (st':=(i:Int)) (j':=false) (R1 nq).1 (R1 nq).2.1 hs6 (R1 nq).2.2 hb
    have HLx:=HL;have HLn:Hid (1<=l.length):=Lh (by rw [HL.out];simp);clear he hnm HN qmF HL HW HCa B1 B2 ox tx
    go_upto_region 5 with fail
    go_quiet (fail)
    go_wp2;have R:=R0 nq;exact bodyPost_ret (vG rfl _ _ (w.heap.size+1) 165 _ (0,0) _ rfl R.1 underlying165 rfl qy) rfl (by rw [e0.out];exact ⟨A6,c6,1,by omega,HLn.out,by rw [HLx.out];rfl,rfl,R.2.1,R.2.2,hs6⟩)
   ·as_aux_lemma =>
    rw [Lk (fun h=>he h.symm)] at hq;have HN2:Hid (∀ k,k<i+1->vP k≠a):=Lh fun k hk=>by
     rcases Nat.lt_or_ge k i with h | h
     ·exact HN.out k h
     ·obtain rfl:k=i:=by omega
      exact he
    have hTd:=fun nq=>hT.drewN hb nq
    have hnd:=fun nq=>hnm.drewN nq
    generalize vP i=SN at *
    clear he hT hnm HN qmF HL HW HCa
    go_upto_region 5 with fail
    go_quiet (fail)
    go_wp2;exact ⟨⟨i+1,by omega,by go_num,hTd _,hnd _,HN2⟩,by simp [intOf];omega⟩
  ·as_aux_lemma =>
   have hs0:Hid (vY a=none):=Lh (qmn fun k hk=>HN.out k L0);obtain rfl:i=4:=by omega
   clear HN hnm hlt hi;have q1:=qct (a:=a) (b:=zO) (l:=[106,111,105,110,101,100]) rfl;have q2:=qct (a:=a) (b:=bCap) (l:=[99,97,112]) rfl;have q3:=qct (a:=a) (b:=yi) (l:=[99,97,112,115]) rfl;have q4:=qct (a:=a) (b:=vI) (l:=[100,105,103,105,116,115]) rfl;have HLi:Hid (∀ l' A' n' c',(∀ s∈l',s.size<=1000)->l'.length<=850000->Rd w base 1 A' n' (sv l')->∀ w',Below base w w'->Calls prog 131 #[.slice A' n' c'] w' (qh (ql9 (yl l')) w')):=Lh fun l' A' n' c' h1 h2 rd w' hw =>
    rliteral l' A' n' c' base w' h1 L0 (rd.below hw) (Lj hb hw.size) (HW.out.tb w' hw)
   by_cases hj:a=zO
   ·as_aux_lemma =>
    have e0:Hid (RES=some ⟨t,O,st,false⟩):=Lh (by rw [qmF.out];exact rp_join HL.out hs0.out hj);rw [Ll hj] at q1;obtain ⟨A6,c6,B1,B2,ox,hs6,tx⟩:=hT;have c0:=B1.cell 0;have c1:=B1.cell 1;have c2:=B1.cell 2;have d0:=B2.cell 0;have d1:=B2.cell 1;have d2:=B2.cell 2;have f0:=B1.frozen 0;have f2:=B1.frozen 2;have g0:=B2.frozen 0;have g1:=B2.frozen 1;have g2:=B2.frozen 2;simp only [tC,La,Lb,Lc] at c0 c1 c2 d0 d1 d2;have R1:=(TX.turn (p:=⟨w.heap.size,1,none⟩) (q:=⟨w.heap.size,2,none⟩) (u:=.int .i64 0) (x:=.bool false) rfl rfl B2 ox hs6 tx hb).2;have R:=TX.copy (v:=.slice A6 O.length c6) (st':=st) (j':=false) R1.1 R1.2.1 hs6 R1.2.2 hb;have HLx:=HL;have HLn:Hid (1<=l.length):=Lh (by rw [HL.out];simp);clear qmF HL HW HCa B1 B2 ox tx hj HLi;go_wp2;exact bodyPost_ret (vG rfl _ _ (w.heap.size+1) 165 _ (0,0) _ rfl R.1 underlying165 rfl qy) rfl (by rw [e0.out];exact ⟨A6,c6,1,by omega,HLn.out,by rw [HLx.out];rfl,rfl,R.2.1,R.2.2,hs6⟩)
   ·rw [Lk hj] at q1;have hcap:=HW.out.cap;have hmax:=HW.out.max;have hfew:=HW.out.few;have hsz:=Lh HW.out.sz;have HJ:=Lh hj;clear hj;have qm2 : ∀ s∈t,s.size<=1000:=fun s hs=>hsz.out s (by rw [HL.out];exact List.mem_cons_of_mem _ hs)
    have hnl:l.length=nw:=HW.out.len;have htl:t.length<=1000:=by omega
    have hRd:=HW.out.rd.cut (k:=1) L0 hcap;have hdr:(sv l).drop (1 * 1)=sv t:=by rw [HL.out];rfl
    rw [hdr] at hRd;simp only [Nat.mul_one,Option.map_some,vl] at hRd;have qm7:=Lh HW.out.rd;have j1:(1:Int)<=nw:=by omega
    have j2:(1:Int)<=cw:=by omega
    have j3:cw<=9223372036854775807:=by unfold maxLen at hmax;omega
    by_cases hc:a=bCap
    ·as_aux_lemma =>
     have hres:RES=(yl t).map fun (s,n)=>kN ⟨l,O,st,J⟩ (jn s 1) (1+n):=by rw [qmF.out];exact rp_cap HL.out hs0.out HJ.out hc
     have hn3:a≠yi:=by rw [hc];decide +kernel
     rw [Ll hc] at q2;rw [Lk hn3] at q3;clear hc hn3 q4 hdr hsz
     by_cases hc1:cw=1
     ·rw [if_pos hc1] at hRd;have t0:t=[]:=List.length_eq_zero_iff.1 L0;have hnk:nw-1=0:=by omega
      rw [hnk] at hRd;have HLt:=Lh (HLi.out t (some ⟨b,o,none⟩) 0 0 qm2 L0 hRd);rw [t0,show yl []=none from rfl] at HLt hres;simp only [ql9] at HLt;have e0:=Lh hres;obtain rfl:nw=1:=by omega
      subst hc1;clear HLi hRd qm7 hres qm2 htl t0 qmF HL HW
      go_upto_region 19 with (go_at_call 131;refine (HLt.out _ hT.bel).mono ?_;rintro e w3 ⟨rfl,hb3⟩)
      replace hT:=hT.below hb3 hb;clear hb3 ca;obtain ⟨A6,c6,B1,B2,ox,hs6,tx⟩:=hT;have c0:=B1.cell 0;have c1:=B1.cell 1;have c2:=B1.cell 2;have d0:=B2.cell 0;have d1:=B2.cell 1;have d2:=B2.cell 2;have f0:=B1.frozen 0;have f2:=B1.frozen 2;have g0:=B2.frozen 0;have g1:=B2.frozen 1;have g2:=B2.frozen 2;simp only [tC,La,Lb,Lc] at c0 c1 c2 d0 d1 d2;have R:=TX.copy (v:=.slice A6 O.length c6) (st':=st) (j':=J) B2 ox hs6 tx hb;go_wp2;exact bodyPost_ret (vG rfl _ _ (w.heap.size+1) 165 _ (0,0) _ rfl R.1 underlying165 rfl qy) rfl (by rw [e0.out];exact ⟨_,_,_,_,_,rfl,R.2.2⟩)
     ·rw [if_neg hc1] at hRd;have HLt:=Lh (HLi.out t (some ⟨b,o+1,none⟩) (nw-1) (cw-1) qm2 L0 hRd)
      cases hlt:yl t with
      | none =>
       rw [hlt] at HLt hres;simp only [ql9] at HLt;have e0:=Lh hres;clear HLi hRd qm7 hres qm2 htl qmF HL HW hlt
       go_upto_region 19 with (go_at_call 131;refine (HLt.out _ hT.bel).mono ?_;rintro e w3 ⟨rfl,hb3⟩)
       replace hT:=hT.below hb3 hb;clear hb3 ca;obtain ⟨A6,c6,B1,B2,ox,hs6,tx⟩:=hT;have c0:=B1.cell 0;have c1:=B1.cell 1;have c2:=B1.cell 2;have d0:=B2.cell 0;have d1:=B2.cell 1;have d2:=B2.cell 2;have f0:=B1.frozen 0;have f2:=B1.frozen 2;have g0:=B2.frozen 0;have g1:=B2.frozen 1;have g2:=B2.frozen 2;simp only [tC,La,Lb,Lc] at c0 c1 c2 d0 d1 d2;have R:=TX.copy (v:=.slice A6 O.length c6) (st':=st) (j':=J) B2 ox hs6 tx hb;go_wp2;exact bodyPost_ret (vG rfl _ _ (w.heap.size+1) 165 _ (0,0) _ rfl R.1 underlying165 rfl qy) rfl (by rw [e0.out];exact ⟨_,_,_,_,_,rfl,R.2.2⟩)
      | some x =>
       obtain ⟨s,n⟩:=x;rw [hlt] at HLt;simp only [ql9] at HLt;have e0:=Lh (qld hres hlt);obtain ⟨hs1,hs2,hn0,hn1⟩:=qfx hlt qm2 L0;have HRz:=Lh (qll s hs1 hs2 1 L0);have hS2:(jn s 1).size<=1000000:=by rw [qdX];exact hs2
       have hni:(0:Int)<n:=by omega
       have qnU:1+n<=l.length:=by omega
       have HV2:Hid (IntKind.i64.wrap (1+(n:Int))=((1+n:Nat):Int)):=Lh (by rw [Lx];omega);clear HLi hRd qm7 hres qm2 htl qmF HL HW hlt hs1 hs2
       go_upto_region 19 with (go_at_call 131;refine (HLt.out _ hT.bel).mono ?_;rintro e w3 ⟨rfl,hb3⟩)
       replace hT:=hT.below hb3 hb;clear hb3 ca;generalize jn s 1=S2 at *
       obtain ⟨A6,c6,B1,B2,ox,hs6,tx⟩:=hT;have hTx:=fun w5 hb5 ox=>qlf O st J S2 hS2 ho A6 c6 base w5 hb5 ox
       generalize O++vm J st S2=Q at *
       have HTx:=Lh hTx;clear hTx;have o1:=qb ox (Le _ _).drew;have tx1:=tx.drew hb;have C1:=B1.drew;have C2:=B2.drew;have c0:=B1.cell 0;have c1:=B1.cell 1;have c2:=B1.cell 2;have d0:=B2.cell 0;have d1:=B2.cell 1;have d2:=B2.cell 2;have f0:=B1.frozen 0;have f2:=B1.frozen 2;have g0:=B2.frozen 0;have g1:=B2.frozen 1;have g2:=B2.frozen 2;simp only [tC,La,Lb,Lc] at c0 c1 c2 d0 d1 d2
       go_upto_region 20 with fail
       go_region_held3 (fun w'=>w'.cell? ⟨w.heap.size,0,none⟩=some (.slice A6 O.length c6)/\w'.cell? ⟨w.heap.size,1,none⟩=some (.int .i64 st)/\w'.cell? ⟨w.heap.size,2,none⟩=some (.bool J)) (go_keep) (first
        | (go_at_call 133;refine (HRz.out _).mono ?_;rintro e w5 ⟨rfl,hb5⟩;have o5:=qb o1 hb5;have tx5:=tx1.below hb5 hb;have E1:=C1.below hb5 C1.lt;have E2:=C2.below hb5 C2.lt;have k0:=E1.cell 0;have k1:=E1.cell 1;have k2:=E1.cell 2;simp only [tC,La,Lb,Lc] at k0 k1 k2)
        | (go_at_call 132;refine (HTx.out _ (Lj hb tx5.size) o5).mono ?_;rintro e w6 ⟨A7,c7,rfl,o7,bg7,hs7⟩;obtain ⟨D1,D2,tx7,hs8⟩:=TX.call E1 E2 hs6 tx5 bg7 hs7;have m0:=D1.cell 0;have m1:=D1.cell 1;have m2:=D1.cell 2;have n0:=D2.cell 0;have n1:=D2.cell 1;have n2:=D2.cell 2;have l0:=D2.frozen 0;have l1:=D2.frozen 1;have l2:=D2.frozen 2;simp only [tC,La,Lb,Lc] at m0 m1 m2 n0 n1 n2;simp only [id,tC]))
       go_wp2;have R:=TX.copy (v:=.slice A7 Q.length c7) (st':=st) (j':=true) D2 o7 hs8 tx7 hb;exact bodyPost_ret (vG rfl _ _ (w.heap.size+1) 165 _ (0,0) _ rfl R.1 underlying165 rfl qy) rfl (by rw [e0.out];exact ⟨A7,c7,1+n,by omega,qnU,rfl,(by show Ending.returned (Value.tuple #[.agg (tC (.slice A7 Q.length c7) st true),.int .i64 (IntKind.i64.wrap (1+(n:Int)))])=_;rw [HV2.out]),R.2.1,R.2.2,hs8⟩)
    ·rw [Lk hc] at q2
     by_cases hcs:a=yi
     ·as_aux_lemma =>
      have hres:RES=(yl t).map fun (s,n)=>kN ⟨l,O,st,J⟩ (jn s 1000) (1+n):=by
       rw [qmF.out,rp_caps HL.out hs0.out HJ.out hcs]
       cases hlt:yl t with
       | none=>rfl
       | some x =>
        obtain ⟨s,n⟩:=x;simp only [Option.map_some];rw [qk4 s 1000 (ql5 hlt qm2 htl)]
      rw [Ll hcs] at q3;clear hc hcs q4 hdr hsz
      by_cases hc1:cw=1
      ·rw [if_pos hc1] at hRd;have t0:t=[]:=List.length_eq_zero_iff.1 L0;have hnk:nw-1=0:=by omega
       rw [hnk] at hRd;have HLt:=Lh (HLi.out t (some ⟨b,o,none⟩) 0 0 qm2 L0 hRd);rw [t0,show yl []=none from rfl] at HLt hres;simp only [ql9] at HLt;have e0:=Lh hres;obtain rfl:nw=1:=by omega
       subst hc1;clear HLi hRd qm7 hres qm2 htl t0 qmF HL HW
       go_upto_region 19 with (go_at_call 131;refine (HLt.out _ hT.bel).mono ?_;rintro e w3 ⟨rfl,hb3⟩)
       replace hT:=hT.below hb3 hb;clear hb3 ca;obtain ⟨A6,c6,B1,B2,ox,hs6,tx⟩:=hT;have c0:=B1.cell 0;have c1:=B1.cell 1;have c2:=B1.cell 2;have d0:=B2.cell 0;have d1:=B2.cell 1;have d2:=B2.cell 2;have f0:=B1.frozen 0;have f2:=B1.frozen 2;have g0:=B2.frozen 0;have g1:=B2.frozen 1;have g2:=B2.frozen 2;simp only [tC,La,Lb,Lc] at c0 c1 c2 d0 d1 d2;have R:=TX.copy (v:=.slice A6 O.length c6) (st':=st) (j':=J) B2 ox hs6 tx hb;go_wp2;exact bodyPost_ret (vG rfl _ _ (w.heap.size+1) 165 _ (0,0) _ rfl R.1 underlying165 rfl qy) rfl (by rw [e0.out];exact ⟨_,_,_,_,_,rfl,R.2.2⟩)
      ·rw [if_neg hc1] at hRd;have HLt:=Lh (HLi.out t (some ⟨b,o+1,none⟩) (nw-1) (cw-1) qm2 L0 hRd)
       cases hlt:yl t with
       | none =>
        rw [hlt] at HLt hres;simp only [ql9] at HLt;have e0:=Lh hres;clear HLi hRd qm7 hres qm2 htl qmF HL HW hlt
        go_upto_region 19 with (go_at_call 131;refine (HLt.out _ hT.bel).mono ?_;rintro e w3 ⟨rfl,hb3⟩)
        replace hT:=hT.below hb3 hb;clear hb3 ca;obtain ⟨A6,c6,B1,B2,ox,hs6,tx⟩:=hT;have c0:=B1.cell 0;have c1:=B1.cell 1;have c2:=B1.cell 2;have d0:=B2.cell 0;have d1:=B2.cell 1;have d2:=B2.cell 2;have f0:=B1.frozen 0;have f2:=B1.frozen 2;have g0:=B2.frozen 0;have g1:=B2.frozen 1;have g2:=B2.frozen 2;simp only [tC,La,Lb,Lc] at c0 c1 c2 d0 d1 d2;have R:=TX.copy (v:=.slice A6 O.length c6) (st':=st) (j':=J) B2 ox hs6 tx hb;go_wp2;exact bodyPost_ret (vG rfl _ _ (w.heap.size+1) 165 _ (0,0) _ rfl R.1 underlying165 rfl qy) rfl (by rw [e0.out];exact ⟨_,_,_,_,_,rfl,R.2.2⟩)
       | some x =>
        obtain ⟨s,n⟩:=x;rw [hlt] at HLt;simp only [ql9] at HLt;have e0:=Lh (qld hres hlt);obtain ⟨hs1,hs2,hn0,hn1⟩:=qfx hlt qm2 L0;have HRz:=Lh (qll s hs1 hs2 1000 L0);have hS2:(jn s 1000).size<=1000000:=by rw [qdX];exact hs2
        have hni:(0:Int)<n:=by omega
        have qnU:1+n<=l.length:=by omega
        have HV2:Hid (IntKind.i64.wrap (1+(n:Int))=((1+n:Nat):Int)):=Lh (by rw [Lx];omega);clear HLi hRd qm7 hres qm2 htl qmF HL HW hlt hs1 hs2
        go_upto_region 19 with (go_at_call 131;refine (HLt.out _ hT.bel).mono ?_;rintro e w3 ⟨rfl,hb3⟩)
        replace hT:=hT.below hb3 hb;clear hb3 ca;generalize jn s 1000=S2 at *
        obtain ⟨A6,c6,B1,B2,ox,hs6,tx⟩:=hT;have hTx:=fun w5 hb5 ox=>qlf O st J S2 hS2 ho A6 c6 base w5 hb5 ox
        generalize O++vm J st S2=Q at *
        have HTx:=Lh hTx;clear hTx;have o1:=qb ox (Le _ _).drew;have tx1:=tx.drew hb;have C1:=B1.drew;have C2:=B2.drew;have c0:=B1.cell 0;have c1:=B1.cell 1;have c2:=B1.cell 2;have d0:=B2.cell 0;have d1:=B2.cell 1;have d2:=B2.cell 2;have f0:=B1.frozen 0;have f2:=B1.frozen 2;have g0:=B2.frozen 0;have g1:=B2.frozen 1;have g2:=B2.frozen 2;simp only [tC,La,Lb,Lc] at c0 c1 c2 d0 d1 d2
        go_upto_region 20 with fail
        go_region_held3 (fun w'=>w'.cell? ⟨w.heap.size,0,none⟩=some (.slice A6 O.length c6)/\w'.cell? ⟨w.heap.size,1,none⟩=some (.int .i64 st)/\w'.cell? ⟨w.heap.size,2,none⟩=some (.bool J)) (go_keep) (first
         | (go_at_call 133;refine (HRz.out _).mono ?_;rintro e w5 ⟨rfl,hb5⟩;have o5:=qb o1 hb5;have tx5:=tx1.below hb5 hb;have E1:=C1.below hb5 C1.lt;have E2:=C2.below hb5 C2.lt;have k0:=E1.cell 0;have k1:=E1.cell 1;have k2:=E1.cell 2;simp only [tC,La,Lb,Lc] at k0 k1 k2)
         | (go_at_call 132;refine (HTx.out _ (Lj hb tx5.size) o5).mono ?_;rintro e w6 ⟨A7,c7,rfl,o7,bg7,hs7⟩;obtain ⟨D1,D2,tx7,hs8⟩:=TX.call E1 E2 hs6 tx5 bg7 hs7;have m0:=D1.cell 0;have m1:=D1.cell 1;have m2:=D1.cell 2;have n0:=D2.cell 0;have n1:=D2.cell 1;have n2:=D2.cell 2;have l0:=D2.frozen 0;have l1:=D2.frozen 1;have l2:=D2.frozen 2;simp only [tC,La,Lb,Lc] at m0 m1 m2 n0 n1 n2;simp only [id,tC]))
        go_wp2;have R:=TX.copy (v:=.slice A7 Q.length c7) (st':=st) (j':=true) D2 o7 hs8 tx7 hb;exact bodyPost_ret (vG rfl _ _ (w.heap.size+1) 165 _ (0,0) _ rfl R.1 underlying165 rfl qy) rfl (by rw [e0.out];exact ⟨A7,c7,1+n,by omega,qnU,rfl,(by show Ending.returned (Value.tuple #[.agg (tC (.slice A7 Q.length c7) st true),.int .i64 (IntKind.i64.wrap (1+(n:Int)))])=_;rw [HV2.out]),R.2.1,R.2.2,hs8⟩)
     ·rw [Lk hcs] at q3
      as_aux_lemma =>
      have hcw0 : ¬ cw=0:=by omega
      have HLt:=Lh (HLi.out l (some ⟨b,o,none⟩) nw cw hsz.out L0 qm7.out);have HC:=Lh hc;have HCs:=Lh hcs;clear hRd qm2 htl hdr hc hcs HLi
      cases hlt:yl l with
      | some x =>
       as_aux_lemma =>
       obtain ⟨s,n⟩:=x;have e0:Hid (RES=some ⟨l.drop n,O++vm J st s,st,true⟩):=Lh (by rw [qmF.out];exact rp_lit HL.out hs0.out HJ.out HC.out HCs.out (by rw [<- HL.out];exact hlt));obtain ⟨hs1,hs2,hn0,hn1⟩:=qfx hlt hsz.out L0;rw [hlt] at HLt;simp only [ql9] at HLt;have HRz:Hid (∀ w',Calls prog 133 #[.string s,.int .i64 0] w' (qh (.string s) w')):=Lh fun w'=>by
        have h:=qll s hs1 hs2 0 L0 w'
        rwa [qlF] at h
       have hni:(0:Int)<n:=by omega
       have hwn:IntKind.i64.wrap (n:Int)=(n:Int):=by rw [Lx];omega
       clear qm7 qmF HL HW hlt hs1 q4
       go_upto_region 19 with (go_at_call 131;refine (HLt.out _ hT.bel).mono ?_;rintro e w3 ⟨rfl,hb3⟩)
       replace hT:=hT.below hb3 hb;clear hb3 ca;obtain ⟨A6,c6,B1,B2,ox,hs6,tx⟩:=hT;have hTx:=fun w5 hb5 ox=>qlf O st J s hs2 ho A6 c6 base w5 hb5 ox
       generalize O++vm J st s=Q at *
       have HTx:=Lh hTx;clear hTx;have o1:=qb ox (Le _ _).drew;have tx1:=tx.drew hb;have C1:=B1.drew;have C2:=B2.drew;have c0:=B1.cell 0;have c1:=B1.cell 1;have c2:=B1.cell 2;have d0:=B2.cell 0;have d1:=B2.cell 1;have d2:=B2.cell 2;have f0:=B1.frozen 0;have f2:=B1.frozen 2;have g0:=B2.frozen 0;have g1:=B2.frozen 1;have g2:=B2.frozen 2;simp only [tC,La,Lb,Lc] at c0 c1 c2 d0 d1 d2
       go_upto_region 20 with fail
       go_region_held3 (fun w'=>w'.cell? ⟨w.heap.size,0,none⟩=some (.slice A6 O.length c6)/\w'.cell? ⟨w.heap.size,1,none⟩=some (.int .i64 st)/\w'.cell? ⟨w.heap.size,2,none⟩=some (.bool J)) (go_keep) (first
        | (go_at_call 133;refine (HRz.out _).mono ?_;rintro e w5 ⟨rfl,hb5⟩;have o5:=qb o1 hb5;have tx5:=tx1.below hb5 hb;have E1:=C1.below hb5 C1.lt;have E2:=C2.below hb5 C2.lt;have k0:=E1.cell 0;have k1:=E1.cell 1;have k2:=E1.cell 2;simp only [tC,La,Lb,Lc] at k0 k1 k2)
        | (go_at_call 132;refine (HTx.out _ (Lj hb tx5.size) o5).mono ?_;rintro e w6 ⟨A7,c7,rfl,o7,bg7,hs7⟩;obtain ⟨D1,D2,tx7,hs8⟩:=TX.call E1 E2 hs6 tx5 bg7 hs7;have m0:=D1.cell 0;have m1:=D1.cell 1;have m2:=D1.cell 2;have n0:=D2.cell 0;have n1:=D2.cell 1;have n2:=D2.cell 2;have l0:=D2.frozen 0;have l1:=D2.frozen 1;have l2:=D2.frozen 2;simp only [tC,La,Lb,Lc] at m0 m1 m2 n0 n1 n2;simp only [id,tC]))
       go_wp2;have R:=TX.copy (v:=.slice A7 Q.length c7) (st':=st) (j':=true) D2 o7 hs8 tx7 hb;exact bodyPost_ret (vG rfl _ _ (w.heap.size+1) 165 _ (0,0) _ rfl R.1 underlying165 rfl qy) rfl (by rw [e0.out];exact ⟨A7,c7,n,hn0,hn1,rfl,rfl,R.2.1,R.2.2,hs8⟩)
      | none =>
       rw [hlt] at HLt;simp only [ql9] at HLt;have hlt':yl (a::t)=none:=by rw [<- HL.out];exact hlt
       go_upto_region 19 with (go_at_call 131;refine (HLt.out _ hT.bel).mono ?_;rintro e w3 ⟨rfl,hb3⟩)
       replace hT:=hT.below hb3 hb;replace ca:=HCa.out _ hT.bel;clear hb3 HLt
       by_cases hd:a=vI
       ·as_aux_lemma =>
        rw [Ll hd] at q4;have HF:Hid (∀ j,j<=t.length->(∀ k (hk:k<t.length),k<j->(dgW t[k]).isSome=true)->(∀ hk:j<t.length,dgW t[j]=none)->RES=if j=0 then none else some ⟨l.drop (j+1),O++vm J st (zN (jo t j)),st,true⟩):=Lh fun j h1 h2 h3=>by
         rw [qmF.out,rp_fig HL.out hs0.out HJ.out HC.out HCs.out hlt' hd,qmg h1 h2 h3];have hz:(jo t j).length=j:=by unfold jo;rw [Lq,Lu];omega
         by_cases h0:j=0
         ·rw [if_pos h0,if_neg];exact fun hne=>hne (List.length_eq_zero_iff.1 L0)
         ·rw [if_neg h0,if_pos (fun e=>h0 (by rw [e] at hz;exact hz.symm)),hz,Nat.add_comm]
          rfl
        have HCx:Hid (∀ j (hj:j<t.length) w',Below base w w'->w'.cell? ⟨b,o+(j+1),none⟩=some (.string t[j])):=Lh fun j hj w' hw=>by
         obtain ⟨b',o',e',_,hc⟩:=(qm7.out.below hw).at_ (k:=j+1) L0;simp only [Option.some.injEq,Addr.mk.injEq,and_true] at e';obtain ⟨rfl,rfl⟩:=e';rw [yM _ _ L0] at hc;rw [hc];simp only [HL.out,List.getElem_cons_succ]
        have HTb:Hid (∀ w',Below base w w'->Tb w'):=Lh HW.out.tb;have HNu:Hid (∀ j (hj:j<t.length) w',Below base w w'->Calls prog 105 #[.slice (some ⟨b,o+(j+1),none⟩) 1 (cw-(j+1))] w' (qh (kE (zc [t[j]])) w')):=Lh fun j hj w' hw =>
         qlN [t[j]] _ 1 _ w' rfl (Rd.some_ (by simp [sv]) (by have:=hw.size;omega) fun i u hi=>by
          have:i=0:=by
           have:i<1:=by
            rcases Nat.lt_or_ge i 1 with h | h
            ·exact h
            ·rw [List.getElem?_eq_none (by simpa [sv] using h)] at hi;cases hi
           omega
          subst this;rw [Nat.add_zero,HCx.out j hj w' hw]
          simpa [sv] using hi) (HTb.out w' hw)
        clear qmF HL HW hd hlt hlt' qm7 hot hsz HC HCs HJ hs0;have e00:(⟨#[]⟩:ByteArray)=zN (jo t 0):=rfl;replace e00:=Lh e00;go_wp2
        go_loopw [10,12] (fun x y wr=>∃ j:Nat,j<=t.length/\y = .int .i64 (j+1:Nat)/\x = .string (zN (jo t j))/\TX w base v0 st J O wr/\Hid (∀ k (hk:k<t.length),k<j->(dgW t[k]).isSome=true)) (fun _ y _=>nw-(intOf y).toNat)
        case atStart=>exact ⟨0,Nat.zero_le _,rfl,by rw [e00.out],hT,Lh fun k hk h=>absurd h (Nat.not_lt_zero k)⟩
        case round =>
         clear hT ca;obtain ⟨j,hj,rfl,rfl,hT,HA⟩:=hrel
         by_cases hjt:j<t.length
         ·have hcx:=HCx.out j hjt wr hT.bel;have hjn:j+1<nw:=by omega
          have hji:(j:Int)+1<nw:=by omega
          have hj0:(0:Int)<=(j:Int)+1:=by omega
          go_upto_region 25 with fail
          go_cut [92] (fun v wx=>v = .bool (dgW t[j]).isSome/\Below wr.heap.size wr wx)
          case first =>
           as_aux_lemma =>
           have HHs:Hid (∀ A' c' B' w',Rd w' B' 1 A' 10 (sv (vocB.take 10))->Calls prog 134 #[.slice A' 10 c',.string t[j]] w' (Same (.bool (dgW t[j]).isSome) w')):=Lh fun A' c' B' w' rd=>by
            rw [dgW_has];exact has_ (vocB.take 10) t[j] A' 10 c' B' w' rfl L0 rd
           have hbd:Below base w wr.drew:=hT.bel.drew;have hTbd:=HTb.out _ hbd;have HCj:=Lh (HCx.out j hjt);have hzb:base<=wr.heap.size:=Lj hb hT.bel.size;have hbw:Below wr.heap.size wr wr.drew:=(Le _ _).drew;clear HF HNu HCx HA hT e00 HTb;generalize t[j]=x at *
           generalize (dgW x).isSome=fl at *
           go_region_held3 (fun w'=>w'.cell? ⟨b,o+(j+1),none⟩=some (.string x)) (go_keep) (first
            | (go_at_call 135;refine (qcH _ hTbd).mono ?_;rintro e w4 ⟨A4,c4,rfl,o4,hb4⟩;have hx4:=HCj.out _ (hbd.trans (hb4.mono hzb));have hc4:=own_cap2 o4;have hc10:(10:Int)<=c4:=L0;have rd4:=(Rd.of_own o4).take (k:=10) L0;simp only [Nat.mul_one] at rd4;rw [show (sv vocB).take 10=sv (vocB.take 10) by simp [sv,List.map_take]] at rd4;have hbw:=hbw.trans hb4)
            | (go_at_call 134;refine (HHs.out _ _ _ _ rd4).mono ?_;rintro e w5 ⟨rfl,rfl⟩))
           go_wp2;go_meet;exact ⟨rfl,hbw⟩
          case rest =>
           obtain ⟨w4,rfl⟩ : ∃ x:World,x=wc:=⟨_,rfl⟩
           obtain ⟨rfl,hb4⟩:=hcut;replace hT:=hT.below hb4 hb;clear hb4 hcx
           cases hdg:dgW t[j] with
           | some d =>
            as_aux_lemma =>
            obtain ⟨qm6,qmJ⟩:=num_dg hdg;have HNj:=Lh (HNu.out j hjt w4 hT.bel);rw [qmJ] at HNj;simp only [kE] at HNj;have HA2:Hid (∀ k (hk:k<t.length),k<j+1->(dgW t[k]).isSome=true):=Lh fun k hk hkj=>by
             rcases Nat.lt_or_ge k j with h' | h'
             ·exact HA.out k hk h'
             ·obtain rfl:k=j:=by omega
              rw [hdg]
              rfl
            have HDn:=Lh (qjN hjt hdg);have hw2:=(qd1 d qm6).1;have hw8:=wrap8 d qm6;have hbs : ∀ w0:World,(convert 184 9 (.slice (some ⟨w0.heap.size,0,none⟩) 1 1)).run prog (w0.alloc (.cells #[.int .u8 (48+(d:Int))] 5)) = .ok (.string ⟨#[UInt8.ofNat (48+d)]⟩) (w0.alloc (.cells #[.int .u8 (48+(d:Int))] 5)):=fun w0=>qgw w0 _ _ (by rw [UInt8.toNat_ofNat',Nat.mod_eq_of_lt (show 48+d<2 ^ 8 from Ly (Nat.add_lt_add_left qm6 48) L2)];rfl)
            have HBs:=Lh hbs;have i2:(j:Int)+1+1<=cw:=by omega
            have i3:(0:Int)<=(j:Int)+1+1:=by omega
            have i4:(j:Int)+1<=(j:Int)+1+1:=by omega
            have i5 : ¬ cw=j+1:=by omega
            have i6:((j:Int)+1).toNat=j+1:=by omega
            have i7:((j:Int)+1+1).toNat=j+1+1:=by omega
            have i8:j+1+1-(j+1)=1:=by omega
            have hw1:IntKind.i64.wrap ((j:Int)+1+1)=(j:Int)+1+1:=by rw [Lx];omega
            have hdz:(zN (jo t j)).size<=1000:=by rw [yg hj];omega
            have HM:Hid (nw-(j+1+1)<nw-(j+1)):=Lh L0;clear HF HNu HCx HA hdg qmJ qm6 e00 HTb hbs;generalize UInt8.ofNat (48+d)=ub at *
            generalize zN (jo t j)=DS at *
            generalize (d:Int)=dI at *
            go_wp2_with (go_at_call 105;refine HNj.out.mono ?_;rintro e w5 ⟨rfl,hb5⟩;have hcv:=HBs.out w5;have hT5:=(hT.below hb5 hb).below (Below.alloc (Le w5.heap.size w5) (Ld _) (.cells #[.int .u8 (48+dI)] 5)) hb;clear hw1)
            exact ⟨⟨j+1,hjt,by go_num,by rw [HDn.out],hT5,HA2⟩,by simp [intOf];omega⟩
           | none =>
            as_aux_lemma =>
            have hstop : ∀ hk:j<t.length,dgW t[j]=none:=fun _=>hdg
            clear HNu HCx HTb e00
            by_cases h0:j=0
            ·have he:(zN (jo t j)).toList.isEmpty=true:=by rw [h0,ByteArray.toList_eq];rfl
             have e0:Hid (RES=none):=Lh (by rw [HF.out j hj HA.out hstop,if_pos h0]);clear HF HA h0;generalize zN (jo t j)=DS at *
             obtain ⟨A6,c6,B1,B2,ox,hs6,tx⟩:=hT;have c0:=B1.cell 0;have c1:=B1.cell 1;have c2:=B1.cell 2;have d0:=B2.cell 0;have d1:=B2.cell 1;have d2:=B2.cell 2;have f0:=B1.frozen 0;have f2:=B1.frozen 2;have g0:=B2.frozen 0;have g1:=B2.frozen 1;have g2:=B2.frozen 2;simp only [tC,La,Lb,Lc] at c0 c1 c2 d0 d1 d2;have R:=TX.copy (v:=.slice A6 O.length c6) (st':=st) (j':=J) B2 ox hs6 tx hb;go_wp2;exact bodyPost_ret (vG rfl _ _ (w.heap.size+1) 165 _ (0,0) _ rfl R.1 underlying165 rfl qy) rfl (by rw [e0.out];exact ⟨_,_,_,_,_,rfl,R.2.2⟩)
            ·have he:(zN (jo t j)).toList.isEmpty=false:=jp (by rw [yg hj];exact h0);have e0:Hid (RES=some ⟨l.drop (j+1),O++vm J st (zN (jo t j)),st,true⟩):=Lh (by rw [HF.out j hj HA.out hstop,if_neg h0]);have hds:(zN (jo t j)).size<=1000000:=by rw [yg hj];omega
             have hjl:j+1<=l.length:=by omega
             obtain ⟨A6,c6,B1,B2,ox,hs6,tx⟩:=hT;have hTx:=qlf O st J (zN (jo t j)) hds ho A6 c6 base w4 (Lj hb tx.size) ox;clear HF HA h0;generalize O++vm J st (zN (jo t j))=Q at *
             have HTx:=Lh hTx;clear hTx hds;generalize zN (jo t j)=DS at *
             have c0:=B1.cell 0;have c1:=B1.cell 1;have c2:=B1.cell 2;have d0:=B2.cell 0;have d1:=B2.cell 1;have d2:=B2.cell 2;have f0:=B1.frozen 0;have f2:=B1.frozen 2;have g0:=B2.frozen 0;have g1:=B2.frozen 1;have g2:=B2.frozen 2;simp only [tC,La,Lb,Lc] at c0 c1 c2 d0 d1 d2
             go_wp2_with (go_at_call 132;refine HTx.out.mono ?_;rintro e w5 ⟨A7,c7,rfl,o7,bg7,hs7⟩;clear c0 c1 c2 d0 d1 d2 f0 f2 g0 g1 g2;obtain ⟨D1,D2,tx7,hs8⟩:=TX.call B1 B2 hs6 tx bg7 hs7;have d0:=D2.cell 0;have d1:=D2.cell 1;have d2:=D2.cell 2;have g0:=D2.frozen 0;have g1:=D2.frozen 1;have g2:=D2.frozen 2;simp only [tC,La,Lb,Lc] at d0 d1 d2;simp only [id,tC])
             have R:=TX.copy (v:=.slice A7 Q.length c7) (st':=st) (j':=true) D2 o7 hs8 tx7 hb;exact bodyPost_ret (vG rfl _ _ (w.heap.size+1) 165 _ (0,0) _ rfl R.1 underlying165 rfl qy) rfl (by rw [e0.out];exact ⟨A7,c7,j+1,by omega,hjl,rfl,rfl,R.2.1,R.2.2,hs8⟩)
         ·have hjn : ¬ j+1<nw:=by omega
          have hji : ¬ (j:Int)+1<nw:=by omega
          have hstop : ∀ hk:j<t.length,dgW t[j]=none:=fun hk=>absurd hk hjt
          clear HNu HCx HTb e00
          as_aux_lemma =>
          go_upto_region 25 with fail
          go_quiet (fail)
          replace hT:=hT.drewN hb nq;generalize wr.drewN nq=w4 at *
          by_cases h0:j=0
          ·have he:(zN (jo t j)).toList.isEmpty=true:=by rw [h0,ByteArray.toList_eq];rfl
           have e0:Hid (RES=none):=Lh (by rw [HF.out j hj HA.out hstop,if_pos h0]);clear HF HA h0;generalize zN (jo t j)=DS at *
           obtain ⟨A6,c6,B1,B2,ox,hs6,tx⟩:=hT;have c0:=B1.cell 0;have c1:=B1.cell 1;have c2:=B1.cell 2;have d0:=B2.cell 0;have d1:=B2.cell 1;have d2:=B2.cell 2;have f0:=B1.frozen 0;have f2:=B1.frozen 2;have g0:=B2.frozen 0;have g1:=B2.frozen 1;have g2:=B2.frozen 2;simp only [tC,La,Lb,Lc] at c0 c1 c2 d0 d1 d2;have R:=TX.copy (v:=.slice A6 O.length c6) (st':=st) (j':=J) B2 ox hs6 tx hb;go_wp2;exact bodyPost_ret (vG rfl _ _ (w.heap.size+1) 165 _ (0,0) _ rfl R.1 underlying165 rfl qy) rfl (by rw [e0.out];exact ⟨_,_,_,_,_,rfl,R.2.2⟩)
          ·have he:(zN (jo t j)).toList.isEmpty=false:=jp (by rw [yg hj];exact h0);have e0:Hid (RES=some ⟨l.drop (j+1),O++vm J st (zN (jo t j)),st,true⟩):=Lh (by rw [HF.out j hj HA.out hstop,if_neg h0]);have hds:(zN (jo t j)).size<=1000000:=by rw [yg hj];omega
           have hjl:j+1<=l.length:=by omega
           obtain ⟨A6,c6,B1,B2,ox,hs6,tx⟩:=hT;have hTx:=qlf O st J (zN (jo t j)) hds ho A6 c6 base w4 (Lj hb tx.size) ox;clear HF HA h0;generalize O++vm J st (zN (jo t j))=Q at *
           have HTx:=Lh hTx;clear hTx hds;generalize zN (jo t j)=DS at *
           have c0:=B1.cell 0;have c1:=B1.cell 1;have c2:=B1.cell 2;have d0:=B2.cell 0;have d1:=B2.cell 1;have d2:=B2.cell 2;have f0:=B1.frozen 0;have f2:=B1.frozen 2;have g0:=B2.frozen 0;have g1:=B2.frozen 1;have g2:=B2.frozen 2;simp only [tC,La,Lb,Lc] at c0 c1 c2 d0 d1 d2
           go_wp2_with (go_at_call 132;refine HTx.out.mono ?_;rintro e w5 ⟨A7,c7,rfl,o7,bg7,hs7⟩;clear c0 c1 c2 d0 d1 d2 f0 f2 g0 g1 g2;obtain ⟨D1,D2,tx7,hs8⟩:=TX.call B1 B2 hs6 tx bg7 hs7;have d0:=D2.cell 0;have d1:=D2.cell 1;have d2:=D2.cell 2;have g0:=D2.frozen 0;have g1:=D2.frozen 1;have g2:=D2.frozen 2;simp only [tC,La,Lb,Lc] at d0 d1 d2;simp only [id,tC])
           have R:=TX.copy (v:=.slice A7 Q.length c7) (st':=st) (j':=true) D2 o7 hs8 tx7 hb;exact bodyPost_ret (vG rfl _ _ (w.heap.size+1) 165 _ (0,0) _ rfl R.1 underlying165 rfl qy) rfl (by rw [e0.out];exact ⟨A7,c7,j+1,by omega,hjl,rfl,rfl,R.2.1,R.2.2,hs8⟩)
       ·rw [Lk hd] at q4
        as_aux_lemma =>
        have HCh:Hid (∀ w',Below base w w'->Calls prog 136 #[.slice (some ⟨b,o,none⟩) nw cw] w' (qh (qmb (charW l)) w')):=Lh fun w' hw =>
         qlP l _ nw cw w' hnl hcap hmax ((qm7.out.below hw).more (Lj hb hw.size)) (HW.out.tb w' hw)
        cases hcw:charW l with
        | some x =>
         as_aux_lemma =>
         obtain ⟨r,m⟩:=x;obtain ⟨rr,rfl,hrr⟩:=qfT hcw;obtain ⟨hm0,hml⟩:=qeG hcw;have eT:RES=if (vV O st (rr:Int) 1).1=true then some ⟨l.drop m,(vV O st (rr:Int) 1).2,st,false⟩ else none:=by
          rw [qmF.out];exact rp_sign HL.out hs0.out HJ.out HC.out HCs.out hlt' hd (by rw [<- HL.out];exact hcw)
         have e0:=Lh eT;rw [hcw] at HCh;simp only [qmb] at HCh;have HAd:Hid (∀ A6 c6 w2 (hb2:base<=w2.heap.size) (ox:w2.ownsRow base 61 3 (.slice A6 O.length c6) O.length (qi O)),Calls prog 137 #[.agg (tC (.slice A6 O.length c6) st J),.int .i32 (rr:Int),.int .i64 1] w2 (TRt base (.slice A6 O.length c6) w2 (vV O st (rr:Int) 1).2 st J (fun v=>.tuple #[v,.bool (vV O st (rr:Int) 1).1]))):=Lh fun A6 c6 w2 hb2 ox=>radd O st J rr hrr 1 L0 ho hot A6 c6 base w2 hb2 ox
         have hmi:(0:Int)<m:=by omega
         clear eT hot hcw hlt hlt' qm7 qmF HL HW hd hrr;generalize vV O st (rr:Int) 1=AD at *
         obtain ⟨ok,Q⟩:=AD;dsimp only at *
         generalize (rr:Int)=R at *
         go_upto_region 33 with (go_at_call 136;refine (HCh.out _ hT.bel).mono ?_;rintro e w4 ⟨rfl,hb4⟩)
         replace hT:=hT.below hb4 hb;clear hb4 ca;obtain ⟨A6,c6,B1,B2,ox,hs6,tx⟩:=hT;have HAx:=Lh (HAd.out A6 c6 w4 (Lj hb tx.size) ox);have c0:=B1.cell 0;have c1:=B1.cell 1;have c2:=B1.cell 2;have d0:=B2.cell 0;have d1:=B2.cell 1;have d2:=B2.cell 2;have f0:=B1.frozen 0;have f2:=B1.frozen 2;have g0:=B2.frozen 0;have g1:=B2.frozen 1;have g2:=B2.frozen 2;simp only [tC,La,Lb,Lc] at c0 c1 c2 d0 d1 d2;clear HAd HCh
         go_upto_region 36 with (go_at_call 137;refine HAx.out.mono ?_;rintro e w5 ⟨A7,c7,rfl,o7,bg7,hs7⟩;clear c0 c1 c2 d0 d1 d2 f0 f2 g0 g1 g2;obtain ⟨D1,D2,tx7,hs8⟩:=TX.call B1 B2 hs6 tx bg7 hs7;simp only [tC])
         have N1:Blk (w5.alloc (.cells (tC (.slice A7 Q.length c7) st false) 165)) w5.heap.size 165 (tC (.slice A7 Q.length c7) st false):=Blk.new _ _ _;have c0:=N1.cell 0;have c1:=N1.cell 1;have c2:=N1.cell 2;have E1:=D1.alloc (.cells (tC (.slice A7 Q.length c7) st false) 165);have E2:=D2.alloc (.cells (tC (.slice A7 Q.length c7) st false) 165);have d0:=E2.cell 0;have d1:=E2.cell 1;have d2:=E2.cell 2;have g0:=E2.frozen 0;have g1:=E2.frozen 1;have g2:=E2.frozen 2;have b0:=E1.cell 0;have b1:=E1.cell 1;have b2:=E1.cell 2;have o8:=o7.alloc (.cells (tC (.slice A7 Q.length c7) st false) 165);have tx8:=tx7.alloc hb (.cells (tC (.slice A7 Q.length c7) st false) 165);simp only [tC,La,Lb,Lc] at c0 c1 c2 d0 d1 d2 b0 b1 b2;clear HAx B1 B2 ox tx bg7 hs7 o7 tx7 D1 D2 N1 E1
         cases ok with
         | false =>
          rw [if_neg L1] at e0;have R:=TX.copy (v:=.slice A6 O.length c6) (st':=st) (j':=J) E2 o8 hs8 tx8 hb;go_wp2;exact bodyPost_ret (vG rfl _ _ (w.heap.size+1) 165 _ (0,0) _ rfl R.1 underlying165 rfl qy) rfl (by rw [e0.out];exact ⟨_,_,_,_,_,rfl,R.2.2⟩)
         | true =>
          rw [if_pos rfl] at e0;have R:=TX.copy (v:=.slice A7 Q.length c7) (st':=st) (j':=false) E2 o8 hs8 tx8 hb;go_wp2;exact bodyPost_ret (vG rfl _ _ (w.heap.size+1) 165 _ (0,0) _ rfl R.1 underlying165 rfl qy) rfl (by rw [e0.out];exact ⟨A7,c7,m,hm0,hml,rfl,rfl,R.2.1,R.2.2,hs8⟩)
        | none =>
         as_aux_lemma =>
         have eT:RES=kD ⟨l,O,st,J⟩:=by
          rw [qmF.out];exact rp_amt HL.out hs0.out HJ.out HC.out HCs.out hlt' hd (by rw [<- HL.out];exact hcw)
         rw [hcw] at HCh;simp only [qmb] at HCh;have HNm:Hid (∀ A6 c6 w2 (hw:Below base w w2) (ox:w2.ownsRow base 61 3 (.slice A6 O.length c6) O.length (qi O)),Calls prog 138 #[.agg (tC (.slice A6 O.length c6) st J),.slice (some ⟨b,o,none⟩) nw cw] w2 (PRes base (.slice A6 O.length c6) w2 l RES)):=Lh fun A6 c6 w2 hw ox=>by
          rw [eT];exact rnum O st J l ho A6 c6 base w2 (Lj hb hw.size) ox _ nw cw (HW.out.below hw) hot
         clear eT hot hcw hlt hlt' qm7 qmF HL HW hd
         go_upto_region 33 with (go_at_call 136;refine (HCh.out _ hT.bel).mono ?_;rintro e w4 ⟨rfl,hb4⟩)
         replace hT:=hT.below hb4 hb;clear hb4 ca;obtain ⟨A6,c6,B1,B2,ox,hs6,tx⟩:=hT;have HNx:=Lh (HNm.out A6 c6 w4 tx.1 ox);have c0:=B1.cell 0;have c1:=B1.cell 1;have c2:=B1.cell 2;have d0:=B2.cell 0;have d1:=B2.cell 1;have d2:=B2.cell 2;have f0:=B1.frozen 0;have f2:=B1.frozen 2;have g0:=B2.frozen 0;have g1:=B2.frozen 1;have g2:=B2.frozen 2;simp only [tC,La,Lb,Lc] at c0 c1 c2 d0 d1 d2;clear HNm HCh
         cases RES with
         | none =>
          go_wp2_with (go_at_call 138;refine HNx.out.mono ?_;rintro e w5 ⟨A',m',c',st',j',rfl,bg7⟩;clear c0 c1 c2 d0 d1 d2 f0 f2 g0 g1 g2;have D2:=B2.grown bg7.2 (qh7 fun k hk=>(hs6.ne k hk).2);have d0:=D2.cell 0;have d1:=D2.cell 1;have d2:=D2.cell 2;have g0:=D2.frozen 0;have g1:=D2.frozen 1;have g2:=D2.frozen 2;simp only [tC,La,Lb,Lc] at d0 d1 d2;simp only [tC])
          have R:=TX.copy0 (v:=.slice A' m' c') (st':=st') (j':=j') D2 (tx.grown bg7.1 bg7.2 hs6) hb;exact bodyPost_ret (vG rfl _ _ (w.heap.size+1) 165 _ (0,0) _ rfl R.1 underlying165 rfl qy) rfl ⟨_,_,_,_,_,rfl,R.2⟩
         | some q =>
          go_wp2_with (go_at_call 138;refine HNx.out.mono ?_;rintro e w5 ⟨A7,c7,n,hn0,hn1,hqw,rfl,o7,bg7,hs7⟩;clear c0 c1 c2 d0 d1 d2 f0 f2 g0 g1 g2;obtain ⟨D1,D2,tx7,hs8⟩:=TX.call B1 B2 hs6 tx bg7 hs7;have d0:=D2.cell 0;have d1:=D2.cell 1;have d2:=D2.cell 2;have g0:=D2.frozen 0;have g1:=D2.frozen 1;have g2:=D2.frozen 2;simp only [tC,La,Lb,Lc] at d0 d1 d2;simp only [tC])
          have R:=TX.copy (v:=.slice A7 q.out.length c7) (st':=q.style) (j':=q.joins) D2 o7 hs8 tx7 hb;exact bodyPost_ret (vG rfl _ _ (w.heap.size+1) 165 _ (0,0) _ rfl R.1 underlying165 rfl qy) rfl ⟨A7,c7,n,hn0,hn1,hqw,rfl,R.2.1,R.2.2,hs8⟩
def RgI (w:World) (l:List ByteArray) (R:Option (List Gl)) (i:Nat) (wr:World):Prop :=
 ∃ q f A c,q.words=l.drop i/\q.words.length<=f/\ka f q=R/\PaK2 q/\Blk wr w.heap.size 165 (tC (.slice A q.out.length c) q.style q.joins) /\
  wr.ownsRow (w.heap.size+1) 61 3 (.slice A q.out.length c) q.out.length (qi q.out)/\Below w.heap.size w wr
def RgN (w:World) (q':Prs) (v6:Value) (wx:World):Prop :=
 ∃ H A c m0 A0 c0 st0 j0,v6 = .pointer (some ⟨H,0,none⟩)/\w.heap.size<H/\Blk wx H 165 (tC (.slice A q'.out.length c) q'.style q'.joins)/\Blk wx w.heap.size 165 (tC (.slice A0 m0 c0) st0 j0) /\
  wx.ownsRow (w.heap.size+1) 61 3 (.slice A q'.out.length c) q'.out.length (qi q'.out)/\Below w.heap.size w wx
theorem qlb {w:World} {g p i:Nat} {a b c:Value} (h:g≠p):(((w.setCell ⟨p,0,none⟩ a).setCell ⟨p,1,none⟩ b).setCell ⟨p,2,none⟩ c).cell? ⟨g,i,none⟩=w.cell? ⟨g,i,none⟩:=by
 rw [World.cell?_setCell_other _ _ _ _ (by intro e;injection e with e;exact h e.symm),World.cell?_setCell_other _ _ _ _ (by intro e;injection e with e;exact h e.symm),World.cell?_setCell_other _ _ _ _ (by intro e;injection e with e;exact h e.symm)]
theorem RgN.mk {w wr wz:World} {q':Prs} {H c7:Nat} {A7:Option Addr} {m0 c0:Nat} {A0:Option Addr} {st0:Int} {j0:Bool} (hw:w.heap.size+1<=wr.heap.size) (bz:Blk wz H 165 (tC (.slice none 0 0) 0 false)) (hH:wr.heap.size<=H)
  (hbox:Blk wz w.heap.size 165 (tC (.slice A0 m0 c0) st0 j0)) (o7:wz.ownsRow (w.heap.size+1) 61 3 (.slice A7 q'.out.length c7) q'.out.length (qi q'.out)) (hz:Below w.heap.size w wz)
  (hne : ∀ k,(Value.slice A7 q'.out.length c7).ownBlock=some k->k≠H) :
  RgN w q' (.pointer (some ⟨H,0,none⟩)) (((wz.setCell ⟨H,0,none⟩ (.slice A7 q'.out.length c7)).setCell ⟨H,1,none⟩ (.int .i64 q'.style)).setCell ⟨H,2,none⟩ (.bool q'.joins)):=by
 have hne0:w.heap.size≠H:=by omega
 exact ⟨H,A7,c7,m0,A0,c0,st0,j0,rfl,by omega,k8 bz,((hbox.far (p:=⟨H,0,none⟩) hne0 _).far (p:=⟨H,1,none⟩) hne0 _).far (p:=⟨H,2,none⟩) hne0 _,qlv o7 hne,vU hz L0⟩
theorem rglyphs (l:List ByteArray) (A:Option Addr) (n c:Nat) (w:World) (hn:l.length=n) (hc:n<=c) (hm:c<=maxLen) (rd:Rd w w.heap.size 1 A n (sv l)) (hsz : ∀ s∈l,s.size<=1000) (hl:l.length<=1000) (ht:Tb w) :
  Calls prog 104 #[.slice A n c] w (GlR (kC l) w):=by
 obtain ⟨R,hR⟩ : ∃ R,R=kC l:=⟨_,rfl⟩
 rw [<- hR];have hI:RgI w l R 0 (w.alloc (.cells (tC (.slice none 0 0) 0 false) 165)) :=
  ⟨⟨l,[],0,false⟩,l.length,none,0,rfl,Ld _,hR.symm,⟨⟨hsz,by show 0+1100 * l.length<=_;omega,fun x hx=>by cases hx⟩,by show l.length<=_;omega⟩,Blk.new w _ _,zY _ _ _ _,L5⟩
 have HWd:Hid (∀ i,i<n->∃ b o,A=some ⟨b,o,none⟩/\∀ wr,Below w.heap.size w wr->WdA (w.heap.size+1) wr (l.drop i) (some ⟨b,o+i,none⟩) (n-i) (c-i)):=Lh fun i hi=>by
  obtain ⟨b,o,hA,hb,-⟩:=rd.2 (show 0<n by omega);subst hA;refine ⟨b,o,rfl,fun wr hw=>⟨by rw [List.length_drop];omega,by omega,by omega,?_,fun s hs=>hsz s (List.mem_of_mem_drop hs),by rw [List.length_drop];omega,fun w' h'=>ht.below (hw.trans (h'.mono (Nat.le_succ _)))⟩⟩;have hcut:=(rd.below hw).cut (k:=i) L0 hc;rw [if_neg L0,show (sv l).drop (i * 1)=sv (l.drop i) by simp [sv]] at hcut;simp only [Nat.mul_one,Option.map_some,vl] at hcut;exact hcut.more (Nat.le_succ _)
 have hcm:c<=9223372036854775807:=by unfold maxLen at hm;omega
 have hn5:n<=1000:=by omega
 have HN:=Lh hn;clear rd hsz hl ht hR hn hm
 go_enter func104,ntmps104
 go_upto_region 2 with fail
 refine qa (RgI w l R 0) hI ?_;clear hI;intro X hX;go_wp2
 go_loopw [5] (fun x wr=>∃ i:Nat,i<=n/\x = .int .i64 i/\RgI w l R i wr) (fun x _=>n-(intOf x).toNat)
 case atStart=>exact ⟨0,Nat.zero_le _,rfl,hX⟩
 case round =>
  clear hX;obtain ⟨i,hi,rfl,q,f,Aq,cq,hqw,hf,hq,hk,bq,oq,hb⟩:=hrel;have hzw:=bq.lt
  by_cases hlt:i<n
  ·as_aux_lemma =>
   obtain ⟨b,o,hA,hWi⟩:=HWd.out i hlt;subst hA;have hne:q.words≠[]:=by
    rw [hqw];intro e;have:=congrArg List.length e;rw [List.length_drop,HN.out,List.length_nil] at this
    omega
   obtain ⟨a,t,hat⟩ : ∃ a t,q.words=a::t:=by
    cases h:q.words with
    | nil=>exact absurd h hne
    | cons a t=>exact ⟨a,t,rfl⟩
   obtain ⟨f',rfl⟩ : ∃ f',f=f'+1:=⟨f-1,by rw [hat,Lp] at hf;omega⟩
   rw [ka,if_neg hne] at hq;have hout:q.out.length<=1000000000:=by have h:=hk.1.2.1;omega
   have hot : ∀ x∈q.out,x.text.size<=8000000:=fun x hx=>by have:=hk.1.2.2 x hx;omega
   have HOne:Hid (∀ w',Below wr.heap.size wr w'->Calls prog 117 #[.agg #[.slice Aq q.out.length cq,.int .i64 q.style,.bool q.joins],.slice (some ⟨b,o+i,none⟩) (n-i) (c-i)] w' (PRes (w.heap.size+1) (.slice Aq q.out.length cq) w' (l.drop i) (va q))):=Lh fun w' hw'=>by
    have h:=rone q.out q.style q.joins q.words hout Aq cq (w.heap.size+1) w' (by have:=hw'.size;omega) (qb oq hw') (some ⟨b,o+i,none⟩) (n-i) (c-i) (by rw [hqw];exact hWi w' (hb.trans (hw'.mono L0))) hot a t hat;rw [hqw] at h
    rwa [show (⟨l.drop i,q.out,q.style,q.joins⟩:Prs)=q by rw [<- hqw]] at h
   have hsep : ∀ k,(Value.slice Aq q.out.length cq).ownBlock=some k->k<wr.heap.size:=fun k hk=>(oq.lt k hk).2
   have hdn:(l.drop i).length=n-i:=by rw [List.length_drop,HN.out]
   have hii:(0:Int)<=i:=by omega
   have hin:(i:Int)<=n:=by omega
   have hin2:(i:Int)<n:=by omega
   have hic:(i:Int)<=c:=by omega
   have hci : ¬ c=i:=by omega
   have hPart : ∀ q',va q=some q'->PaK2 q':=fun q' h=>hk.part h
   have hless : ∀ q',va q=some q'->q'.words.length<q.words.length:=fun q' h=>qcs h
   clear hot hout hk hat;generalize va q=PT at *
   have c0:=bq.cell 0;have c1:=bq.cell 1;have c2:=bq.cell 2;simp only [tC,La,Lb,Lc] at c0 c1 c2;have hd1:Below wr.heap.size wr wr.drew:=(Le _ _).drew;have hd2:Below wr.heap.size wr (wr.drew.alloc (.cells (tC (.slice none 0 0) 0 false) 165)):=hd1.alloc (Ld _) _;have HBx:Hid (∀ w' w5,Below wr.heap.size wr w'->Below (w.heap.size+1) w' w5->Blk w5 w.heap.size 165 (tC (.slice Aq q.out.length cq) q.style q.joins)/\Below w.heap.size w w5):=Lh fun w' w5 h1 h2=>⟨(bq.below h1 hzw).below h2 (Nat.lt_succ_self _),(hb.trans (h1.mono L0)).trans (h2.mono (Nat.le_succ _))⟩
   cases PT with
   | none =>
    as_aux_lemma =>
    have e0:R=none:=hq.symm;replace e0:=Lh e0;clear hq hPart hless oq hne hqw hf hWi HWd bq
    go_upto_region 4 with fail
    go_cut [7] (fun v wx=>v = .int .i64 0/\Below w.heap.size w wx)
    case first =>
     as_aux_lemma =>
     go_region_held3 (fun w'=>w'.cell? ⟨w.heap.size,0,none⟩=some (.slice Aq q.out.length cq)/\w'.cell? ⟨w.heap.size,1,none⟩=some (.int .i64 q.style)/\w'.cell? ⟨w.heap.size,2,none⟩=some (.bool q.joins)) (first | go_keep | (refine ⟨?_,?_,?_⟩ <;> (rw [qlb L0];assumption))) (first
      | (go_at_call 117;refine (HOne.out wr.drew hd1).mono ?_;rintro e w5 ⟨A',m',c',st',j',rfl,bg5⟩;obtain ⟨E5,hb5⟩:=HBx.out _ _ hd1 bg5.1;have zz5:=Lj hd1.size bg5.size;have k0:=E5.cell 0;have k1:=E5.cell 1;have k2:=E5.cell 2;simp only [tC,La,Lb,Lc] at k0 k1 k2;(try simp only [tC]))
      | (go_at_call 117;refine (HOne.out _ hd2).mono ?_;rintro e w5 ⟨A',m',c',st',j',rfl,bg5⟩;obtain ⟨E5,hb5⟩:=HBx.out _ _ hd2 bg5.1;have zz5:=Lj hd2.size bg5.size;have k0:=E5.cell 0;have k1:=E5.cell 1;have k2:=E5.cell 2;have BZ:Blk w5 wr.heap.size 165 (tC (.slice none 0 0) 0 false):=(Blk.new_ (w:=wr.drew) rfl).grown bg5.2 (qh7 fun k hk=>Nat.ne_of_lt (hsep k hk));have y0:=BZ.cell 0;have y1:=BZ.cell 1;have y2:=BZ.cell 2;have z0:=BZ.frozen 0;have z1:=BZ.frozen 1;have z2:=BZ.frozen 2;simp only [tC,La,Lb,Lc] at k0 k1 k2 y0 y1 y2;(try simp only [tC])))
     all_goals go_wp2
     all_goals go_meet
     all_goals exact ⟨rfl,by first | exact vU (hb5.alloc L0 _) L0 | exact vU hb5 L0 | exact hb5.alloc L0 _⟩
    case rest =>
     obtain ⟨w6,rfl⟩ : ∃ x:World,x=wc:=⟨_,rfl⟩
     obtain ⟨rfl,hb6⟩:=hcut;go_wp2;go_ret2;rw [e0.out];exact ⟨hb6,rfl⟩
   | some q' =>
    as_aux_lemma =>
    have hk':=Lh (hPart q' rfl);have hle:=Lh (hless q' rfl);have hqq:=Lh hq;have HQw:=Lh hqw;have HF:=Lh hf;clear hq hPart hless hne hqw hf hWi HWd bq
    go_upto_region 4 with fail
    go_cut [6,7] (fun v6 v7 wx=>∃ m:Nat,v7 = .int .i64 (m:Int)/\0<m/\m<=n-i/\q'.words=(l.drop i).drop m/\RgN w q' v6 wx)
    case first =>
     as_aux_lemma =>
     go_region_held3 (fun w'=>w'.cell? ⟨w.heap.size,0,none⟩=some (.slice Aq q.out.length cq)/\w'.cell? ⟨w.heap.size,1,none⟩=some (.int .i64 q.style)/\w'.cell? ⟨w.heap.size,2,none⟩=some (.bool q.joins)) (first | go_keep | (refine ⟨?_,?_,?_⟩ <;> (rw [qlb L0];assumption))) (first
      | (go_at_call 117;refine (HOne.out wr.drew hd1).mono ?_;rintro e w5 ⟨A7,c7,m,hm0,hm1,hm2,rfl,o7,bg5,hs7⟩;obtain ⟨E5,hb5⟩:=HBx.out _ _ hd1 bg5.1;have zz5:=Lj hd1.size bg5.size;have k0:=E5.cell 0;have k1:=E5.cell 1;have k2:=E5.cell 2;simp only [tC,La,Lb,Lc] at k0 k1 k2;(try simp only [tC]))
      | (go_at_call 117;refine (HOne.out _ hd2).mono ?_;rintro e w5 ⟨A7,c7,m,hm0,hm1,hm2,rfl,o7,bg5,hs7⟩;obtain ⟨E5,hb5⟩:=HBx.out _ _ hd2 bg5.1;have zz5:=Lj hd2.size bg5.size;have k0:=E5.cell 0;have k1:=E5.cell 1;have k2:=E5.cell 2;have BZ:Blk w5 wr.heap.size 165 (tC (.slice none 0 0) 0 false):=(Blk.new_ (w:=wr.drew) rfl).grown bg5.2 (qh7 fun k hk=>Nat.ne_of_lt (hsep k hk));have y0:=BZ.cell 0;have y1:=BZ.cell 1;have y2:=BZ.cell 2;have z0:=BZ.frozen 0;have z1:=BZ.frozen 1;have z2:=BZ.frozen 2;simp only [tC,La,Lb,Lc] at k0 k1 k2 y0 y1 y2;(try simp only [tC])))
     all_goals go_wp2
     all_goals go_meet
     all_goals refine ⟨m,rfl,hm0,by omega,hm2,?_⟩
     all_goals first
      | exact RgN.mk hzw (Blk.new_ rfl) zz5 (E5.alloc _) (o7.alloc _) (hb5.alloc L0 _) (fun k hk=>by have:=(o7.lt k hk).2;omega)
      | exact ⟨w5.heap.size,A7,c7,_,_,_,_,_,rfl,by omega,Blk.new_ rfl,E5.alloc _,o7.alloc _,hb5.alloc L0 _⟩
      | exact RgN.mk hzw BZ (Ld _) E5 o7 hb5 (fun k hk=>by rcases hs7 k hk with ⟨h,_⟩ | h;(have:=hsep k h;omega);(simp at h;omega))
    case rest =>
     obtain ⟨w6,rfl⟩ : ∃ x:World,x=wc:=⟨_,rfl⟩
     obtain ⟨m,rfl,hm0,hm1,hm2,H,A7,c7,m0,A0,c0',st0,j0,rfl,hwH,bH,b0,o6,hb6⟩:=hcut;have h0:=bH.cell 0;have h1:=bH.cell 1;have h2:=bH.cell 2;have k0:=b0.cell 0;have k1:=b0.cell 1;have k2:=b0.cell 2;have f0:=b0.frozen 0;have f1:=b0.frozen 1;have f2:=b0.frozen 2;simp only [tC,La,Lb,Lc] at h0 h1 h2 k0 k1 k2;have hmz:((m:Int)==0)=false:=Lm.2 L0;have hwi:IntKind.i64.wrap ((i:Int)+m)=(i:Int)+m:=by rw [Lx];omega
     have bn:=k8 (a':=.slice A7 q'.out.length c7) (b':=.int .i64 q'.style) (c':=.bool q'.joins) b0;have on:=zZ (zZ (zZ o6 (p:=⟨w.heap.size,0,none⟩) (Nat.lt_succ_self _) (.slice A7 q'.out.length c7)) (p:=⟨w.heap.size,1,none⟩) (Nat.lt_succ_self _) (.int .i64 q'.style)) (p:=⟨w.heap.size,2,none⟩) (Nat.lt_succ_self _) (.bool q'.joins);have hbn:=vU (a':=.slice A7 q'.out.length c7) (b':=.int .i64 q'.style) (c':=.bool q'.joins) (g:=w.heap.size) hb6 (Ld _);clear bH b0 o6 hb6;go_wp2;exact ⟨⟨i+m,by omega,by first | go_num | simp,q',f',A7,c7,by rw [hm2,List.drop_drop],by have:=hle.out;have:=HF.out;omega,hqq.out,hk'.out,bn,on,hbn⟩,by simp [intOf];omega⟩
  ·as_aux_lemma =>
   obtain rfl:i=n:=by omega
   have h0:q.words=[]:=by rw [hqw,<- HN.out,List.drop_length]
   have e0:R=some q.out:=by rw [<- hq];cases f <;> simp [ka,h0]
   replace e0:=Lh e0;have c0:=bq.cell 0;simp only [tC,La,Lb,Lc] at c0;clear hq hk h0 HWd hqw hf;go_wp2;go_ret2;rw [e0.out];exact ⟨hb,Aq,cq,rfl,qt oq (Nat.le_succ _)⟩
end Go.Proofs.YtggegijlfaipfaaGreatDoor
