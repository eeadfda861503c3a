/- Joined: Rp8, Vd2, Vd3. -/
import Derived.Test.YtbogmeeijdaijaaGreatDoorZEF
set_option linter.unusedVariables false
set_option linter.unusedSimpArgs false
set_option linter.unnecessarySimpa false
set_option maxHeartbeats 4000000
namespace Go.Proofs.YtbogmeeijdaijaaGreatDoor
open Go.Proofs.Tryz Go.RowKit
set_option maxRecDepth 20000
def RgI (w:World) (l:List ByteArray) (R:Option (List Gl)) (i:Nat) (wr:World):Prop :=
 ∃ q f A c,q.words=l.drop i/\q.words.length<=f/\ka f q=R/\PaK2 q/\Blk wr w.heap.size 165 (tC (.slice A q.out.length c) q.style q.joins) /\
  wr.ownsRow (w.heap.size+1) 64 3 (.slice A q.out.length c) q.out.length (qi q.out)/\Below w.heap.size w wr
def RgN (w:World) (q':Prs) (v6:Value) (wx:World):Prop :=
 ∃ H A c m0 A0 c0 st0 j0,v6 = .pointer (some ⟨H,0,none⟩)/\w.heap.size<H/\Blk wx H 165 (tC (.slice A q'.out.length c) q'.style q'.joins)/\Blk wx w.heap.size 165 (tC (.slice A0 m0 c0) st0 j0) /\
  wx.ownsRow (w.heap.size+1) 64 3 (.slice A q'.out.length c) q'.out.length (qi q'.out)/\Below w.heap.size w wx
theorem qlb {w:World} {g p i:Nat} {a b c:Value} (h:g≠p):(((w.setCell ⟨p,0,none⟩ a).setCell ⟨p,1,none⟩ b).setCell ⟨p,2,none⟩ c).cell? ⟨g,i,none⟩=w.cell? ⟨g,i,none⟩:=by
 rw [World.cell?_setCell_other _ _ _ _ (by intro e;injection e with e;exact h e.symm),World.cell?_setCell_other _ _ _ _ (by intro e;injection e with e;exact h e.symm),World.cell?_setCell_other _ _ _ _ (by intro e;injection e with e;exact h e.symm)]
theorem RgN.mk {w wr wz:World} {q':Prs} {H c7:Nat} {A7:Option Addr} {m0 c0:Nat} {A0:Option Addr} {st0:Int} {j0:Bool} (hw:w.heap.size+1<=wr.heap.size) (bz:Blk wz H 165 (tC (.slice none 0 0) 0 false)) (hH:wr.heap.size<=H)
  (hbox:Blk wz w.heap.size 165 (tC (.slice A0 m0 c0) st0 j0)) (o7:wz.ownsRow (w.heap.size+1) 64 3 (.slice A7 q'.out.length c7) q'.out.length (qi q'.out)) (hz:Below w.heap.size w wz)
  (hne : ∀ k,(Value.slice A7 q'.out.length c7).ownBlock=some k->k≠H) :
  RgN w q' (.pointer (some ⟨H,0,none⟩)) (((wz.setCell ⟨H,0,none⟩ (.slice A7 q'.out.length c7)).setCell ⟨H,1,none⟩ (.int .i64 q'.style)).setCell ⟨H,2,none⟩ (.bool q'.joins)):=by
 have hne0:w.heap.size≠H:=by omega
 exact ⟨H,A7,c7,m0,A0,c0,st0,j0,rfl,by omega,k8 bz,((hbox.far (p:=⟨H,0,none⟩) hne0 _).far (p:=⟨H,1,none⟩) hne0 _).far (p:=⟨H,2,none⟩) hne0 _,qlv o7 hne,vU hz L0⟩
theorem rglyphs (l:List ByteArray) (A:Option Addr) (n c:Nat) (w:World) (hn:l.length=n) (hc:n<=c) (hm:c<=maxLen) (rd:Rd w w.heap.size 1 A n (sv l)) (hsz : ∀ s∈l,s.size<=1000) (hl:l.length<=1000) (ht:Tb w) :
  Calls prog 101 #[.slice A n c] w (GlR (kC l) w):=by
 obtain ⟨R,hR⟩ : ∃ R,R=kC l:=⟨_,rfl⟩
 rw [<- hR];have hI:RgI w l R 0 (w.alloc (.cells (tC (.slice none 0 0) 0 false) 165)) :=
  ⟨⟨l,[],0,false⟩,l.length,none,0,rfl,Ld _,hR.symm,⟨⟨hsz,by show 0+1100 * l.length<=_;omega,fun x hx=>by cases hx⟩,by show l.length<=_;omega⟩,Blk.new w _ _,zY _ _ _ _,L5⟩
 have HWd:Hid (∀ i,i<n->∃ b o,A=some ⟨b,o,none⟩/\∀ wr,Below w.heap.size w wr->WdA (w.heap.size+1) wr (l.drop i) (some ⟨b,o+i,none⟩) (n-i) (c-i)):=Lh fun i hi=>by
  obtain ⟨b,o,hA,hb,-⟩:=rd.2 (show 0<n by omega);subst hA;refine ⟨b,o,rfl,fun wr hw=>⟨by rw [List.length_drop];omega,by omega,by omega,?_,fun s hs=>hsz s (List.mem_of_mem_drop hs),by rw [List.length_drop];omega,fun w' h'=>ht.below (hw.trans (h'.mono (Nat.le_succ _)))⟩⟩;have hcut:=(rd.below hw).cut (k:=i) L0 hc;rw [if_neg L0,show (sv l).drop (i * 1)=sv (l.drop i) by simp [sv]] at hcut;simp only [Nat.mul_one,Option.map_some,vl] at hcut;exact hcut.more (Nat.le_succ _)
 have hcm:c<=9223372036854775807:=by unfold maxLen at hm;omega
 have hn5:n<=1000:=by omega
 have HN:=Lh hn;clear rd hsz hl ht hR hn hm
 go_enter func101,ntmps101
 go_upto_region 2 with fail
 refine qa (RgI w l R 0) hI ?_;clear hI;intro X hX;go_wp2
 go_loopw [5] (fun x wr=>∃ i:Nat,i<=n/\x = .int .i64 i/\RgI w l R i wr) (fun x _=>n-(intOf x).toNat)
 case atStart=>exact ⟨0,Nat.zero_le _,rfl,hX⟩
 case round =>
  clear hX;obtain ⟨i,hi,rfl,q,f,Aq,cq,hqw,hf,hq,hk,bq,oq,hb⟩:=hrel;have hzw:=bq.lt
  by_cases hlt:i<n
  ·as_aux_lemma =>
   obtain ⟨b,o,hA,hWi⟩:=HWd.out i hlt;subst hA;have hne:q.words≠[]:=by
    rw [hqw];intro e;have:=congrArg List.length e;rw [List.length_drop,HN.out,List.length_nil] at this
    omega
   obtain ⟨a,t,hat⟩ : ∃ a t,q.words=a::t:=by
    cases h:q.words with
    | nil=>exact absurd h hne
    | cons a t=>exact ⟨a,t,rfl⟩
   obtain ⟨f',rfl⟩ : ∃ f',f=f'+1:=⟨f-1,by rw [hat,Lp] at hf;omega⟩
   rw [ka,if_neg hne] at hq;have hout:q.out.length<=1000000000:=by have h:=hk.1.2.1;omega
   have hot : ∀ x∈q.out,x.text.size<=8000000:=fun x hx=>by have:=hk.1.2.2 x hx;omega
   have HOne:Hid (∀ w',Below wr.heap.size wr w'->Calls prog 123 #[.agg #[.slice Aq q.out.length cq,.int .i64 q.style,.bool q.joins],.slice (some ⟨b,o+i,none⟩) (n-i) (c-i)] w' (PRes (w.heap.size+1) (.slice Aq q.out.length cq) w' (l.drop i) (va q))):=Lh fun w' hw'=>by
    have h:=rone q.out q.style q.joins q.words hout Aq cq (w.heap.size+1) w' (by have:=hw'.size;omega) (qb oq hw') (some ⟨b,o+i,none⟩) (n-i) (c-i) (by rw [hqw];exact hWi w' (hb.trans (hw'.mono L0))) hot a t hat;rw [hqw] at h
    rwa [show (⟨l.drop i,q.out,q.style,q.joins⟩:Prs)=q by rw [<- hqw]] at h
   have hsep : ∀ k,(Value.slice Aq q.out.length cq).ownBlock=some k->k<wr.heap.size:=fun k hk=>(oq.lt k hk).2
   have hdn:(l.drop i).length=n-i:=by rw [List.length_drop,HN.out]
   have hii:(0:Int)<=i:=by omega
   have hin:(i:Int)<=n:=by omega
   have hin2:(i:Int)<n:=by omega
   have hic:(i:Int)<=c:=by omega
   have hci : ¬ c=i:=by omega
   have hPart : ∀ q',va q=some q'->PaK2 q':=fun q' h=>hk.part h
   have hless : ∀ q',va q=some q'->q'.words.length<q.words.length:=fun q' h=>qcs h
   clear hot hout hk hat;generalize va q=PT at *
   have c0:=bq.cell 0;have c1:=bq.cell 1;have c2:=bq.cell 2;simp only [tC,La,Lb,Lc] at c0 c1 c2;have hd1:Below wr.heap.size wr wr.drew:=(Le _ _).drew;have hd2:Below wr.heap.size wr (wr.drew.alloc (.cells (tC (.slice none 0 0) 0 false) 165)):=hd1.alloc (Ld _) _;have HBx:Hid (∀ w' w5,Below wr.heap.size wr w'->Below (w.heap.size+1) w' w5->Blk w5 w.heap.size 165 (tC (.slice Aq q.out.length cq) q.style q.joins)/\Below w.heap.size w w5):=Lh fun w' w5 h1 h2=>⟨(bq.below h1 hzw).below h2 (Nat.lt_succ_self _),(hb.trans (h1.mono L0)).trans (h2.mono (Nat.le_succ _))⟩
   cases PT with
   | none =>
    as_aux_lemma =>
    have e0:R=none:=hq.symm;replace e0:=Lh e0;clear hq hPart hless oq hne hqw hf hWi HWd bq
    go_upto_region 4 with fail
    go_cut [7] (fun v wx=>v = .int .i64 0/\Below w.heap.size w wx)
    case first =>
     as_aux_lemma =>
     go_region_held3 (fun w'=>w'.cell? ⟨w.heap.size,0,none⟩=some (.slice Aq q.out.length cq)/\w'.cell? ⟨w.heap.size,1,none⟩=some (.int .i64 q.style)/\w'.cell? ⟨w.heap.size,2,none⟩=some (.bool q.joins)) (first | go_keep | (refine ⟨?_,?_,?_⟩ <;> (rw [qlb L0];assumption))) (first
      | (go_at_call 123;refine (HOne.out wr.drew hd1).mono ?_;rintro e w5 ⟨A',m',c',st',j',rfl,bg5⟩;obtain ⟨E5,hb5⟩:=HBx.out _ _ hd1 bg5.1;have zz5:=Lj hd1.size bg5.size;have k0:=E5.cell 0;have k1:=E5.cell 1;have k2:=E5.cell 2;simp only [tC,La,Lb,Lc] at k0 k1 k2;(try simp only [tC]))
      | (go_at_call 123;refine (HOne.out _ hd2).mono ?_;rintro e w5 ⟨A',m',c',st',j',rfl,bg5⟩;obtain ⟨E5,hb5⟩:=HBx.out _ _ hd2 bg5.1;have zz5:=Lj hd2.size bg5.size;have k0:=E5.cell 0;have k1:=E5.cell 1;have k2:=E5.cell 2;have BZ:Blk w5 wr.heap.size 165 (tC (.slice none 0 0) 0 false):=(Blk.new_ (w:=wr.drew) rfl).grown bg5.2 (qh7 fun k hk=>Nat.ne_of_lt (hsep k hk));have y0:=BZ.cell 0;have y1:=BZ.cell 1;have y2:=BZ.cell 2;have z0:=BZ.frozen 0;have z1:=BZ.frozen 1;have z2:=BZ.frozen 2;simp only [tC,La,Lb,Lc] at k0 k1 k2 y0 y1 y2;(try simp only [tC])))
     all_goals go_wp2
     all_goals go_meet
     all_goals exact ⟨rfl,by first | exact vU (hb5.alloc L0 _) L0 | exact vU hb5 L0 | exact hb5.alloc L0 _⟩
    case rest =>
     obtain ⟨w6,rfl⟩ : ∃ x:World,x=wc:=⟨_,rfl⟩
     obtain ⟨rfl,hb6⟩:=hcut;go_wp2;go_ret2;rw [e0.out];exact ⟨hb6,rfl⟩
   | some q' =>
    as_aux_lemma =>
    have hk':=Lh (hPart q' rfl);have hle:=Lh (hless q' rfl);have hqq:=Lh hq;have HQw:=Lh hqw;have HF:=Lh hf;clear hq hPart hless hne hqw hf hWi HWd bq
    go_upto_region 4 with fail
    go_cut [6,7] (fun v6 v7 wx=>∃ m:Nat,v7 = .int .i64 (m:Int)/\0<m/\m<=n-i/\q'.words=(l.drop i).drop m/\RgN w q' v6 wx)
    case first =>
     as_aux_lemma =>
     go_region_held3 (fun w'=>w'.cell? ⟨w.heap.size,0,none⟩=some (.slice Aq q.out.length cq)/\w'.cell? ⟨w.heap.size,1,none⟩=some (.int .i64 q.style)/\w'.cell? ⟨w.heap.size,2,none⟩=some (.bool q.joins)) (first | go_keep | (refine ⟨?_,?_,?_⟩ <;> (rw [qlb L0];assumption))) (first
      | (go_at_call 123;refine (HOne.out wr.drew hd1).mono ?_;rintro e w5 ⟨A7,c7,m,hm0,hm1,hm2,rfl,o7,bg5,hs7⟩;obtain ⟨E5,hb5⟩:=HBx.out _ _ hd1 bg5.1;have zz5:=Lj hd1.size bg5.size;have k0:=E5.cell 0;have k1:=E5.cell 1;have k2:=E5.cell 2;simp only [tC,La,Lb,Lc] at k0 k1 k2;(try simp only [tC]))
      | (go_at_call 123;refine (HOne.out _ hd2).mono ?_;rintro e w5 ⟨A7,c7,m,hm0,hm1,hm2,rfl,o7,bg5,hs7⟩;obtain ⟨E5,hb5⟩:=HBx.out _ _ hd2 bg5.1;have zz5:=Lj hd2.size bg5.size;have k0:=E5.cell 0;have k1:=E5.cell 1;have k2:=E5.cell 2;have BZ:Blk w5 wr.heap.size 165 (tC (.slice none 0 0) 0 false):=(Blk.new_ (w:=wr.drew) rfl).grown bg5.2 (qh7 fun k hk=>Nat.ne_of_lt (hsep k hk));have y0:=BZ.cell 0;have y1:=BZ.cell 1;have y2:=BZ.cell 2;have z0:=BZ.frozen 0;have z1:=BZ.frozen 1;have z2:=BZ.frozen 2;simp only [tC,La,Lb,Lc] at k0 k1 k2 y0 y1 y2;(try simp only [tC])))
     all_goals go_wp2
     all_goals go_meet
     all_goals refine ⟨m,rfl,hm0,by omega,hm2,?_⟩
     all_goals first
      | exact RgN.mk hzw (Blk.new_ rfl) zz5 (E5.alloc _) (o7.alloc _) (hb5.alloc L0 _) (fun k hk=>by have:=(o7.lt k hk).2;omega)
      | exact ⟨w5.heap.size,A7,c7,_,_,_,_,_,rfl,by omega,Blk.new_ rfl,E5.alloc _,o7.alloc _,hb5.alloc L0 _⟩
      | exact RgN.mk hzw BZ (Ld _) E5 o7 hb5 (fun k hk=>by rcases hs7 k hk with ⟨h,_⟩ | h;(have:=hsep k h;omega);(simp at h;omega))
    case rest =>
     obtain ⟨w6,rfl⟩ : ∃ x:World,x=wc:=⟨_,rfl⟩
     obtain ⟨m,rfl,hm0,hm1,hm2,H,A7,c7,m0,A0,c0',st0,j0,rfl,hwH,bH,b0,o6,hb6⟩:=hcut;have h0:=bH.cell 0;have h1:=bH.cell 1;have h2:=bH.cell 2;have k0:=b0.cell 0;have k1:=b0.cell 1;have k2:=b0.cell 2;have f0:=b0.frozen 0;have f1:=b0.frozen 1;have f2:=b0.frozen 2;simp only [tC,La,Lb,Lc] at h0 h1 h2 k0 k1 k2;have hmz:((m:Int)==0)=false:=Lm.2 L0;have hwi:IntKind.i64.wrap ((i:Int)+m)=(i:Int)+m:=by rw [Lx];omega
     have bn:=k8 (a':=.slice A7 q'.out.length c7) (b':=.int .i64 q'.style) (c':=.bool q'.joins) b0;have on:=zZ (zZ (zZ o6 (p:=⟨w.heap.size,0,none⟩) (Nat.lt_succ_self _) (.slice A7 q'.out.length c7)) (p:=⟨w.heap.size,1,none⟩) (Nat.lt_succ_self _) (.int .i64 q'.style)) (p:=⟨w.heap.size,2,none⟩) (Nat.lt_succ_self _) (.bool q'.joins);have hbn:=vU (a':=.slice A7 q'.out.length c7) (b':=.int .i64 q'.style) (c':=.bool q'.joins) (g:=w.heap.size) hb6 (Ld _);clear bH b0 o6 hb6;go_wp2;exact ⟨⟨i+m,by omega,by first | go_num | simp,q',f',A7,c7,by rw [hm2,List.drop_drop],by have:=hle.out;have:=HF.out;omega,hqq.out,hk'.out,bn,on,hbn⟩,by simp [intOf];omega⟩
  ·as_aux_lemma =>
   obtain rfl:i=n:=by omega
   have h0:q.words=[]:=by rw [hqw,<- HN.out,List.drop_length]
   have e0:R=some q.out:=by rw [<- hq];cases f <;> simp [ka,h0]
   replace e0:=Lh e0;have c0:=bq.cell 0;simp only [tC,La,Lb,Lc] at c0;clear hq hk h0 HWd hqw hf;go_wp2;go_ret2;rw [e0.out];exact ⟨hb,Aq,cq,rfl,qt oq (Nat.le_succ _)⟩
def TxEnd (w:World) (B:Nat) (r:Option (List Gl × List ByteArray)) (e:Ending) (w':World):Prop:=∃ Ag G cap A n c l bad,e = .returned (.tuple #[.slice Ag (List.length G) cap,.agg #[.slice A n c,.bool (!bad)]])/\w'.ownsRow w.heap.size 64 3 (.slice Ag G.length cap) G.length (qi G)/\WdR w' B l A n c/\r.map (·.2)=y7 bad l/\Below w.heap.size w w'/\(r.map (·.1)).getD []=G
theorem ttext_ (r:Option (List ByteArray)) (v:Value) (B:Nat) (w:World) (h:TV w B r v) (hB:B<=w.heap.size) (hl : ∀ l,r=some l->l.length<=1000) (hr:r≠none) (ht:Tb w) :
  Calls prog 77 #[v] w (TxEnd w B (r.bind qae)):=by
 obtain ⟨A,n,c,l,bad,rfl,hW,rfl⟩:=h
 cases bad with
 | true=>exact absurd rfl hr
 | false =>
  have hl':=hl l rfl;obtain ⟨R,hR⟩ : ∃ x,x=(y7 false l).bind qae:=⟨_,rfl⟩
  rw [<- hR];have HT:=Lh ht;have H0:Hid (R=qaF l ((zx false (l.drop 0)).map (· + 0))):=Lh (by rw [hR];show qae l=_;rw [qka];simp);clear hR hl hr ht
  go_enter func77,ntmps77
  go_upto_region 1 with fail
  refine qa (TVX w false A n c) (TVX.new w false A n c) ?_;intro X hX;go_wp2
  go_loopw [4] (fun x wr=>∃ (k:Nat),k<=l.length+1/\x = .int .i64 k/\TVX w false A n c wr/\Hid (R=qaF l ((zx false (l.drop k)).map (· + k)))) (fun x _=>l.length+1-(intOf x).toNat)
  case atStart=>exact ⟨0,by omega,rfl,hX,H0⟩
  case round =>
   clear hX H0;obtain ⟨k,hk,rfl,hX,HK⟩:=hrel;obtain ⟨B1,B2,tx⟩:=id hX;obtain ⟨c0,c1,f0,f1⟩:=vN B1;obtain ⟨d0,d1,g0,g1⟩:=vN B2;have z1:=B2.lt;have z0:=B1.lt;have hln:=hW.len
   by_cases hlt:k<n
   ·have hkl:k<l.length:=by omega
    have hki:(k:Int)<n:=by omega
    obtain ⟨bw,ow,rfl,hbw,hcw⟩:=hW.rd.at_ hlt;rw [yM _ _ hkl] at hcw;replace hcw:=(tx.cell (p:=⟨bw,ow+k,none⟩) L7).trans hcw
    by_cases hwd:l[k]=vD
    ·as_aux_lemma =>
     have HK2:Hid (R=qaF l ((zx false (l.drop (k+2))).map (· + (k+2)))):=Lh (by rw [HK.out,qms hkl hwd,Option.map_map];congr 2;funext i;show i+2+k=i+(k+2);omega);have q1:(l[k].toList==[119,111,114,100])=true:=qmm hwd;generalize l[k]=s at *
     clear HK hwd hW;go_wp2;exact ⟨⟨k+2,by omega,by go_num,hX,HK2⟩,by simp [intOf];omega⟩
    ·by_cases hst:l[k]=vF
     ·have HK2:Hid (R=qaF l (some k)):=Lh (by rw [HK.out,qmo hkl hst];simp);have q1:(l[k].toList==[119,111,114,100])=false:=qit hwd;have q2:(l[k].toList==[115,116,111,112])=true:=qmr hst;generalize l[k]=s at *
      have hcap:=hW.cap;have hmax:=hW.max;have htk:Rd wr wr.heap.size 1 (some ⟨bw,ow,none⟩) k (sv (l.take k)):=by
       have:=((hW.rd.below (tx.mono hB)).more (Lj hB tx.size)).take (k:=k) L0
       rwa [show (sv l).take (k * 1)=sv (l.take k) by simp [sv]] at this
      have HG:=Lh (rglyphs (l.take k) (some ⟨bw,ow,none⟩) k c wr (by rw [Lu];omega) L0 hmax htk (fun s hs=>hW.sz s (List.mem_of_mem_take hs)) (by rw [Lu];omega) (HT.out.below tx));have i1:(k:Int)<=c:=by omega
      have i2:(k:Int)+1<=n:=by omega
      have i3:(k:Int)+1<=c:=by omega
      have i4:(c:Int)<=9223372036854775807:=by unfold maxLen at hmax;omega
      have i0:(0:Int)<=k:=by omega
      have i5:(0:Int)<=(k:Int)+1:=by omega
      have hwr:IntKind.i64.wrap ((k:Int)+1)=(k:Int)+1:=by rw [Lx];omega
      have HC1:=Lh (fun h:c=k+1=>hW.cut1 (k:=k+1) L0 h);have HC2:=Lh (fun h : ¬ c=k+1=>hW.cut2 (k:=k+1) L0 h);clear HK hst hwd htk hW hX
      have HO:Hid (R=(kC (l.take k)).bind fun G=>match G with
        | g::gs=>some (g::gs,l.drop (k+1))
        | _=>none):=Lh (by rw [HK2.out];simp only [qaF,Option.bind_some];cases kC (l.take k) with
        | none=>rfl
        | some G=>cases G <;> rfl)
      clear HK2;obtain ⟨G,e5,HG2,HO2⟩ : ∃ (G:List Gl) (e5:Int),Hid (∀ Q:Ending->World->Prop,(∀ A1 c1 w1,Below wr.heap.size wr w1->w1.ownsRow wr.heap.size 64 3 (.slice A1 G.length c1) G.length (qi G)->Q (.returned (.tuple #[.slice A1 G.length c1,.int .i64 e5])) w1)->Calls prog 101 #[.slice (some ⟨bw,ow,none⟩) k c] wr Q)/\Hid (R.map (·.2)=y7 (!(e5==0&&decide ((G.length:Int) > 0))) (l.drop (k+1))/\(R.map (·.1)).getD []=G):=by
       cases hg:kC (l.take k) with
       | none =>
        have h:=HG.out;rw [hg] at h;refine ⟨[],17,Lh fun Q hQ=>h.mono ?_,Lh (by rw [HO.out,hg];exact ⟨rfl,rfl⟩)⟩;rintro e w1 ⟨hb1,rfl⟩;exact hQ none 0 w1 hb1 (zY _ _ _ _)
       | some G =>
        have h:=HG.out;rw [hg] at h
        refine ⟨G,0,Lh fun Q hQ=>h.mono ?_,Lh (by rw [HO.out,hg];cases G with
         | nil=>exact ⟨rfl,rfl⟩
         | cons g gs=>exact ⟨by simp [y7],rfl⟩)⟩
        rintro e w1 ⟨hb1,A1,c1,rfl,ho⟩;exact hQ A1 c1 w1 hb1 ho
      clear HG HO
      go_upto_region 8 with (go_at_call 101;refine HG2.out _ ?_;rintro A1 c1' w1 hb1 hown1;(clear c0 c1 d0 d1 f0 f1 g0 g1;have C1:=B1.below hb1 B1.lt;have C2:=B2.below hb1 B2.lt;obtain ⟨c0,c1,f0,f1⟩:=vN C1;obtain ⟨d0,d1,g0,g1⟩:=vN C2))
      have tx1:=tx.trans (hb1.mono L0);have e1:IntKind.i64.wrap ((k:Int)+1)=(k:Int)+1:=hwr
      by_cases h5:e5=0
      ·by_cases hgl0:G.length=0
       ·have HO3:Hid (R.map (·.2)=y7 (!false) (l.drop (k+1))/\(R.map (·.1)).getD []=G):=Lh (by have:=HO2.out;rw [h5,hgl0] at this;exact this);have hg1 : ¬ 0<G.length:=by omega
        have h5b:(e5==0)=true:=by simp [h5]
        clear HO2 HG2 h5 hgl0
        by_cases hck:c=k+1
        ·as_aux_lemma =>
         have hcut:=HC1.out hck;subst hck;obtain rfl:n=k+1:=by omega
         clear HC1 HC2 i4 i3;have Rr:=vd (a':=.slice (some ⟨bw,ow,none⟩) 0 0) (b':=.bool false) C2;have tz:=(tx1.setCell (p:=⟨w.heap.size+1,0,none⟩) L7 (.slice (some ⟨bw,ow,none⟩) 0 0)).setCell (p:=⟨w.heap.size+1,1,none⟩) L7 (.bool false);have Rd:=Rr.drew;have td:=tz.drew
         go_region
         all_goals go_wp2
         all_goals exact bodyPost_ret (zn rfl _ _ (w.heap.size+1) 86 _ (0,0) _ rfl Rd underlying86 rfl qr) rfl ⟨A1,G,c1',_,_,_,_,!false,rfl,qt (base:=wr.heap.size) (qb (zZ (zZ hown1 L7 _) L7 _) (Le _ _).drew) L0,hcut.below (td.mono hB),HO3.out.1,td,HO3.out.2⟩
        ·as_aux_lemma =>
         have hcut:=HC2.out hck;clear HC1 HC2;have Rr:=vd (a':=.slice (some ⟨bw,ow+(k+1),none⟩) (n-(k+1)) (c-(k+1))) (b':=.bool false) C2;have tz:=(tx1.setCell (p:=⟨w.heap.size+1,0,none⟩) L7 (.slice (some ⟨bw,ow+(k+1),none⟩) (n-(k+1)) (c-(k+1)))).setCell (p:=⟨w.heap.size+1,1,none⟩) L7 (.bool false);have Rd:=Rr.drew;have td:=tz.drew
         go_region
         all_goals go_wp2
         all_goals exact bodyPost_ret (zn rfl _ _ (w.heap.size+1) 86 _ (0,0) _ rfl Rd underlying86 rfl qr) rfl ⟨A1,G,c1',_,_,_,_,!false,rfl,qt (base:=wr.heap.size) (qb (zZ (zZ hown1 L7 _) L7 _) (Le _ _).drew) L0,hcut.below (td.mono hB),HO3.out.1,td,HO3.out.2⟩
       ·have HO3:Hid (R.map (·.2)=y7 (!true) (l.drop (k+1))/\(R.map (·.1)).getD []=G):=Lh (by have:=HO2.out;rw [h5,show decide ((G.length:Int) > 0)=true from Ll L0] at this;exact this);have hg1:0<G.length:=by omega
        have h5b:(e5==0)=true:=by simp [h5]
        clear HO2 HG2 h5 hgl0
        by_cases hck:c=k+1
        ·as_aux_lemma =>
         have hcut:=HC1.out hck;subst hck;obtain rfl:n=k+1:=by omega
         clear HC1 HC2 i4 i3;have Rr:=vd (a':=.slice (some ⟨bw,ow,none⟩) 0 0) (b':=.bool true) C2;have tz:=(tx1.setCell (p:=⟨w.heap.size+1,0,none⟩) L7 (.slice (some ⟨bw,ow,none⟩) 0 0)).setCell (p:=⟨w.heap.size+1,1,none⟩) L7 (.bool true);have Rd:=Rr.drew;have td:=tz.drew
         go_region
         all_goals go_wp2
         all_goals exact bodyPost_ret (zn rfl _ _ (w.heap.size+1) 86 _ (0,0) _ rfl Rd underlying86 rfl qr) rfl ⟨A1,G,c1',_,_,_,_,!true,rfl,qt (base:=wr.heap.size) (qb (zZ (zZ hown1 L7 _) L7 _) (Le _ _).drew) L0,hcut.below (td.mono hB),HO3.out.1,td,HO3.out.2⟩
        ·as_aux_lemma =>
         have hcut:=HC2.out hck;clear HC1 HC2;have Rr:=vd (a':=.slice (some ⟨bw,ow+(k+1),none⟩) (n-(k+1)) (c-(k+1))) (b':=.bool true) C2;have tz:=(tx1.setCell (p:=⟨w.heap.size+1,0,none⟩) L7 (.slice (some ⟨bw,ow+(k+1),none⟩) (n-(k+1)) (c-(k+1)))).setCell (p:=⟨w.heap.size+1,1,none⟩) L7 (.bool true);have Rd:=Rr.drew;have td:=tz.drew
         go_region
         all_goals go_wp2
         all_goals exact bodyPost_ret (zn rfl _ _ (w.heap.size+1) 86 _ (0,0) _ rfl Rd underlying86 rfl qr) rfl ⟨A1,G,c1',_,_,_,_,!true,rfl,qt (base:=wr.heap.size) (qb (zZ (zZ hown1 L7 _) L7 _) (Le _ _).drew) L0,hcut.below (td.mono hB),HO3.out.1,td,HO3.out.2⟩
      ·have h5b:(e5==0)=false:=Lm.2 h5;have HO3:Hid (R.map (·.2)=y7 (!false) (l.drop (k+1))/\(R.map (·.1)).getD []=G):=Lh (by have:=HO2.out;rw [h5b] at this;exact this);clear HO2 HG2 h5
       by_cases hck:c=k+1
       ·as_aux_lemma =>
        have hcut:=HC1.out hck;subst hck;obtain rfl:n=k+1:=by omega
        clear HC1 HC2 i4 i3;have Rr:=vd (a':=.slice (some ⟨bw,ow,none⟩) 0 0) (b':=.bool false) C2;have tz:=(tx1.setCell (p:=⟨w.heap.size+1,0,none⟩) L7 (.slice (some ⟨bw,ow,none⟩) 0 0)).setCell (p:=⟨w.heap.size+1,1,none⟩) L7 (.bool false);have Rd:=Rr.drew;have td:=tz.drew
        go_region
        all_goals go_wp2
        all_goals exact bodyPost_ret (zn rfl _ _ (w.heap.size+1) 86 _ (0,0) _ rfl Rd underlying86 rfl qr) rfl ⟨A1,G,c1',_,_,_,_,!false,rfl,qt (base:=wr.heap.size) (qb (zZ (zZ hown1 L7 _) L7 _) (Le _ _).drew) L0,hcut.below (td.mono hB),HO3.out.1,td,HO3.out.2⟩
       ·as_aux_lemma =>
        have hcut:=HC2.out hck;clear HC1 HC2;have Rr:=vd (a':=.slice (some ⟨bw,ow+(k+1),none⟩) (n-(k+1)) (c-(k+1))) (b':=.bool false) C2;have tz:=(tx1.setCell (p:=⟨w.heap.size+1,0,none⟩) L7 (.slice (some ⟨bw,ow+(k+1),none⟩) (n-(k+1)) (c-(k+1)))).setCell (p:=⟨w.heap.size+1,1,none⟩) L7 (.bool false);have Rd:=Rr.drew;have td:=tz.drew
        go_region
        all_goals go_wp2
        all_goals exact bodyPost_ret (zn rfl _ _ (w.heap.size+1) 86 _ (0,0) _ rfl Rd underlying86 rfl qr) rfl ⟨A1,G,c1',_,_,_,_,!false,rfl,qt (base:=wr.heap.size) (qb (zZ (zZ hown1 L7 _) L7 _) (Le _ _).drew) L0,hcut.below (td.mono hB),HO3.out.1,td,HO3.out.2⟩
     ·as_aux_lemma =>
      have HK2:Hid (R=qaF l ((zx false (l.drop (k+1))).map (· + (k+1)))):=Lh (by rw [HK.out,qml hkl hwd hst,Option.map_map];congr 2;funext i;show i+1+k=i+(k+1);omega);have q1:(l[k].toList==[119,111,114,100])=false:=qit hwd;have q2:(l[k].toList==[115,116,111,112])=false:=qmj hst;generalize l[k]=s at *
      clear HK hwd hst hW;go_wp2;exact ⟨⟨k+1,by omega,by go_num,hX,HK2⟩,by simp [intOf];omega⟩
   ·as_aux_lemma =>
    have HE:Hid (R=none):=Lh (by rw [HK.out,Lv L0];rfl);have hki : ¬ (k:Int)<n:=by omega
    have C2:=B2;clear HK hX;go_wp2;have Rr:=vd (a':=.slice none 0 0) (b':=.bool false) C2;have tz:=(tx.setCell (p:=⟨w.heap.size+1,0,none⟩) L7 (.slice none 0 0)).setCell (p:=⟨w.heap.size+1,1,none⟩) L7 (.bool false);exact bodyPost_ret (zn rfl _ _ (w.heap.size+1) 86 _ (0,0) _ rfl Rr underlying86 rfl qr) rfl ⟨none,[],0,none,0,0,[],true,rfl,zY _ _ _ _,WdR.nil _ B,by rw [HE.out];rfl,tz,by rw [HE.out];rfl⟩
def TS (w:World) (B:Nat) (r:Option (List ByteArray)) (c:Chg) (Ag:Option Addr) (cap:Nat) (X:World):Prop :=
 ∃ A n cc l bad,r=y7 bad l/\WdR X B l A n cc/\Blk X w.heap.size 86 #[.slice A n cc,.bool (!bad)]/\Blk X (w.heap.size+1) 57 (yG ⟨0,0,0,0,0,[]⟩ none 0)/\Blk X (w.heap.size+2) 86 #[.slice none 0 0,.bool false]/\Blk X (w.heap.size+3) 57 (yG c Ag cap)/\Below w.heap.size w X/\X.ownsRow (w.heap.size+4) 64 3 (.slice Ag c.glyphs.length cap) c.glyphs.length (qi c.glyphs)
theorem TS.size {w X:World} {B:Nat} {r:Option (List ByteArray)} {c:Chg} {Ag:Option Addr} {cap:Nat} (h:TS w B r c Ag cap X):w.heap.size+4<=X.heap.size:=by
 obtain ⟨A,n,cc,l,bad,h1,h2,h3,h4,h5,h6,h7,h8⟩:=h;have:=h6.lt
 omega
theorem TS.below {w X Y:World} {B:Nat} {r:Option (List ByteArray)} {c:Chg} {Ag:Option Addr} {cap:Nat} (h:TS w B r c Ag cap X) (hB:B<=w.heap.size) (hb:Below X.heap.size X Y):TS w B r c Ag cap Y:=by
 have hz:=h.size;obtain ⟨A,n,cc,l,bad,h1,h2,h3,h4,h5,h6,h7,h8⟩:=h;exact ⟨A,n,cc,l,bad,h1,h2.below (hb.mono L0),h3.below hb h3.lt,h4.below hb h4.lt,h5.below hb h5.lt,h6.below hb h6.lt,h7.trans (hb.mono L0),qb h8 hb⟩
theorem TS.drew {w X:World} {B:Nat} {r:Option (List ByteArray)} {c:Chg} {Ag:Option Addr} {cap:Nat} (h:TS w B r c Ag cap X) (hB:B<=w.heap.size):TS w B r c Ag cap X.drew:=h.below hB (Le _ _).drew
theorem TS.set_ {w X:World} {B:Nat} {r:Option (List ByteArray)} {c:Chg} {Ag:Option Addr} {cap:Nat} (h:TS w B r c Ag cap X) (hB:B<=w.heap.size) (i:Nat) (N:Int) (hi:i<5):TS w B r (c.put i N) Ag cap (X.setCell ⟨w.heap.size+3,i,none⟩ (.int .i64 N)):=by
 obtain ⟨A,n,cc,l,bad,h1,h2,h3,h4,h5,h6,h7,h8⟩:=h;refine ⟨A,n,cc,l,bad,h1,h2.below ((Le B X).setCell L7 _),h3.far L7 _,h4.far L7 _,h5.far L7 _,?_,h7.setCell L7 _,?_⟩
 ·have:=h6.set_ i (.int .i64 N)
  rwa [qls _ _ _ _ _ hi] at this
 ·rw [qhL];exact zZ h8 L7 _
theorem TS.turn {w X:World} {B:Nat} {r r':Option (List ByteArray)} {c:Chg} {Ag:Option Addr} {cap:Nat} {A:Option Addr} {n cc:Nat} {l:List ByteArray} {bad:Bool} (h:TS w B r c Ag cap X) (hB:B<=w.heap.size) (hW:WdR X B l A n cc) (hr:r'=y7 bad l) :
  TS w B r' c Ag cap ((X.setCell ⟨w.heap.size,0,none⟩ (.slice A n cc)).setCell ⟨w.heap.size,1,none⟩ (.bool (!bad))):=by
 obtain ⟨A0,n0,cc0,l0,bad0,h1,h2,h3,h4,h5,h6,h7,h8⟩:=h;exact ⟨A,n,cc,l,bad,hr,hW.below (((Le B X).setCell (p:=⟨w.heap.size,0,none⟩) hB _).setCell (p:=⟨w.heap.size,1,none⟩) hB _),vd h3,(h4.far (p:=⟨w.heap.size,0,none⟩) L7 _).far (p:=⟨w.heap.size,1,none⟩) L7 _,(h5.far (p:=⟨w.heap.size,0,none⟩) L7 _).far (p:=⟨w.heap.size,1,none⟩) L7 _,(h6.far (p:=⟨w.heap.size,0,none⟩) L7 _).far (p:=⟨w.heap.size,1,none⟩) L7 _,(h7.setCell (p:=⟨w.heap.size,0,none⟩) (Ld _) _).setCell (p:=⟨w.heap.size,1,none⟩) (Ld _) _,zZ (zZ h8 (p:=⟨w.heap.size,0,none⟩) L7 _) (p:=⟨w.heap.size,1,none⟩) L7 _⟩
theorem TS.glyphs {w X:World} {B:Nat} {r:Option (List ByteArray)} {c:Chg} {Ag:Option Addr} {cap:Nat} (h:TS w B r c Ag cap X) (hB:B<=w.heap.size) {G:List Gl} {A:Option Addr} {cp:Nat} (ho:X.ownsRow (w.heap.size+4) 64 3 (.slice A G.length cp) G.length (qi G)):TS w B r {c with glyphs:=G} A cp (X.setCell ⟨w.heap.size+3,5,none⟩ (.slice A G.length cp)):=by
 obtain ⟨A0,n,cc,l,bad,h1,h2,h3,h4,h5,h6,h7,h8⟩:=h;refine ⟨A0,n,cc,l,bad,h1,h2.below ((Le B X).setCell L7 _),h3.far L7 _,h4.far L7 _,h5.far L7 _,?_,h7.setCell L7 _,zZ ho L7 _⟩;have:=h6.set_ 5 (.slice A G.length cp);exact this
def qk2 (w X:World) (c:Chg) (Ag:Option Addr) (cap:Nat) (A:Option Addr) (n cc:Nat) (bad:Bool):World :=
 (((((((X.setCell ⟨w.heap.size+1,0,none⟩ (.int .i64 c.kind)).setCell ⟨w.heap.size+1,1,none⟩ (.int .i64 c.row)).setCell ⟨w.heap.size+1,2,none⟩ (.int .i64 c.col)).setCell ⟨w.heap.size+1,3,none⟩ (.int .i64 c.count)).setCell ⟨w.heap.size+1,4,none⟩ (.int .i64 c.til)).setCell ⟨w.heap.size+1,5,none⟩ (.slice Ag c.glyphs.length cap)).setCell ⟨w.heap.size+2,0,none⟩ (.slice A n cc)).setCell ⟨w.heap.size+2,1,none⟩ (.bool (!bad))
theorem fint_ {w X:World} {B:Nat} {c0:Chg} {A0:Option Addr} {cap0:Nat} {x y:Value} {r:Option (List ByteArray)} {c:Chg} {Ag:Option Addr} {cap:Nat} {A:Option Addr} {n cc:Nat} {l:List ByteArray} {bad:Bool} (hB:B<=w.heap.size) (hr:r=y7 bad l) (hW:WdR X B l A n cc) (R2:Blk X (w.heap.size+1) 57 (yG c0 A0 cap0)) (R3:Blk X (w.heap.size+2) 86 #[x,y]) (tx:Below w.heap.size w X) (hO:X.ownsRow (w.heap.size+4) 64 3 (.slice Ag c.glyphs.length cap) c.glyphs.length (qi c.glyphs)) :
  Blk (qk2 w X c Ag cap A n cc bad) (w.heap.size+1) 57 (yG c Ag cap)/\Blk (qk2 w X c Ag cap A n cc bad) (w.heap.size+2) 86 #[.slice A n cc,.bool (!bad)]/\WdR (qk2 w X c Ag cap A n cc bad) B l A n cc/\Below w.heap.size w (qk2 w X c Ag cap A n cc bad)/\(qk2 w X c Ag cap A n cc bad).ownsRow w.heap.size 64 3 (.slice Ag c.glyphs.length cap) c.glyphs.length (qi c.glyphs):=by
 have b6:=fun k (hk:k<=w.heap.size+1)=>qhB (X:=X) hk (.int .i64 c.kind) (.int .i64 c.row) (.int .i64 c.col) (.int .i64 c.count) (.int .i64 c.til) (.slice Ag c.glyphs.length cap)
 have b8 : ∀ k,k<=w.heap.size+1->Below k X (qk2 w X c Ag cap A n cc bad):=fun k hk=>((b6 k hk).setCell (p:=⟨w.heap.size+2,0,none⟩) L7 _).setCell (p:=⟨w.heap.size+2,1,none⟩) L7 _
 refine ⟨?_,?_,hW.below (b8 B L0),tx.trans (b8 _ L0),qt (base:=w.heap.size+4) ?_ L0⟩
 ·exact ((qmh R2).far (p:=⟨w.heap.size+2,0,none⟩) L7 _).far (p:=⟨w.heap.size+2,1,none⟩) L7 _
 ·have R3':=((((((R3.far (p:=⟨w.heap.size+1,0,none⟩) L7 (.int .i64 c.kind)).far (p:=⟨w.heap.size+1,1,none⟩) L7 (.int .i64 c.row)).far (p:=⟨w.heap.size+1,2,none⟩) L7 (.int .i64 c.col)).far (p:=⟨w.heap.size+1,3,none⟩) L7 (.int .i64 c.count)).far (p:=⟨w.heap.size+1,4,none⟩) L7 (.int .i64 c.til)).far (p:=⟨w.heap.size+1,5,none⟩) L7 (.slice Ag c.glyphs.length cap))
  exact vd R3'
 ·unfold qk2
  iterate 8 refine zZ ?_ (by first | (show w.heap.size+1<_;omega) | (show w.heap.size+2<_;omega)) _
  exact hO
theorem qH {w X:World} {B:Nat} {c0:Chg} {A0:Option Addr} {cap0:Nat} {x y:Value} {r:Option (List ByteArray)} {c:Chg} {Ag:Option Addr} {cap:Nat} {A:Option Addr} {n cc:Nat} {l:List ByteArray} {bad:Bool} (hB:B<=w.heap.size) (hr:r=y7 bad l) (hW:WdR X B l A n cc) (R2:Blk X (w.heap.size+1) 57 (yG c0 A0 cap0)) (R3:Blk X (w.heap.size+2) 86 #[x,y]) (tx:Below w.heap.size w X) (hO:X.ownsRow (w.heap.size+4) 64 3 (.slice Ag c.glyphs.length cap) c.glyphs.length (qi c.glyphs)) :
  Blk (qk2 w X c Ag cap A n cc bad).drew (w.heap.size+1) 57 (yG c Ag cap)/\Blk (qk2 w X c Ag cap A n cc bad).drew (w.heap.size+2) 86 #[.slice A n cc,.bool (!bad)]/\WdR (qk2 w X c Ag cap A n cc bad).drew B l A n cc/\Below w.heap.size w (qk2 w X c Ag cap A n cc bad).drew/\(qk2 w X c Ag cap A n cc bad).drew.ownsRow w.heap.size 64 3 (.slice Ag c.glyphs.length cap) c.glyphs.length (qi c.glyphs):=by
 obtain ⟨h1,h2,h3,h4,h5⟩:=fint_ hB hr hW R2 R3 tx hO;exact ⟨h1.drew,h2.drew,h3.below (Le _ _).drew,h4.drew,qb h5 (Le _ _).drew⟩
theorem TS.start {w:World} {B:Nat} {A:Option Addr} {n c:Nat} {l:List ByteArray} (hW:WdR w B l A n c) (hB:B<=w.heap.size) :
  TS w B (some l) ⟨0,0,0,0,0,[]⟩ none 0 ((((w.alloc (.cells #[.slice A n c,.bool true] 86)).alloc (.cells (yG ⟨0,0,0,0,0,[]⟩ none 0) 57)).alloc (.cells #[.slice none 0 0,.bool false] 86)).alloc (.cells (yG ⟨0,0,0,0,0,[]⟩ none 0) 57)):=by
 have tb:Below w.heap.size w ((((w.alloc (.cells #[.slice A n c,.bool true] 86)).alloc (.cells (yG ⟨0,0,0,0,0,[]⟩ none 0) 57)).alloc (.cells #[.slice none 0 0,.bool false] 86)).alloc (.cells (yG ⟨0,0,0,0,0,[]⟩ none 0) 57)) :=
  (((L5).alloc L1 _).alloc (by simp;omega) _).alloc (by simp;omega) _
 exact ⟨A,n,c,l,false,rfl,hW.below (tb.mono hB),(((Blk.new w _ _).alloc _).alloc _).alloc _,((Blk.new_ L1).alloc _).alloc _,(Blk.new_ L1).alloc _,Blk.new_ L1,tb,zY _ _ _ _⟩
def qle (w:World) (B:Nat) (c:Chg) (r:Option (List ByteArray)) (e:Ending) (w':World):Prop:=∃ Ag cap A n cc l bad,e = .returned (.tuple #[.agg #[.int .i64 c.kind,.int .i64 c.row,.int .i64 c.col,.int .i64 c.count,.int .i64 c.til,.slice Ag c.glyphs.length cap],.agg #[.slice A n cc,.bool (!bad)]])/\r=y7 bad l/\WdR w' B l A n cc/\Below w.heap.size w w'/\w'.ownsRow w.heap.size 64 3 (.slice Ag c.glyphs.length cap) c.glyphs.length (qi c.glyphs)
end Go.Proofs.YtbogmeeijdaijaaGreatDoor
