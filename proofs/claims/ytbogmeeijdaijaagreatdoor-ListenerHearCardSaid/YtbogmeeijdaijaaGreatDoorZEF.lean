/- Joined: Rp7. -/
import Derived.Test.YtbogmeeijdaijaaGreatDoorZEE
set_option linter.unusedVariables false
set_option linter.unusedSimpArgs false
set_option linter.unnecessarySimpa false
set_option maxHeartbeats 8000000
namespace Go.Proofs.YtbogmeeijdaijaaGreatDoor
open Go.Proofs.Tryz Go.RowKit
set_option maxRecDepth 20000
def NmT (w:World) (b:Nat):Prop:=∀ i:Nat,i<4->w.cell? ⟨b,i,none⟩=some (.string (vP i))
theorem NmT.new {w:World} {b:Nat} (hb:w.heap.size=b):NmT (w.alloc (.cells #[.string ⟨#[112,108,97,105,110]⟩,.string ⟨#[115,116,114,111,110,103]⟩,.string ⟨#[105,110,118,101,114,115,101]⟩,.string ⟨#[104,105,100,100,101,110]⟩] 9)) b:=fun i hi=>by
 subst hb;rw [qu]
 match i,hi with
 | 0,_=>rfl
 | 1,_=>rfl
 | 2,_=>rfl
 | 3,_=>rfl
theorem NmT.drewN {w:World} {b:Nat} (h:NmT w b) (n:Nat):NmT (w.drewN n) b:=h
theorem TX.drewN {w X:World} {base:Nat} {v0:Value} {st:Int} {j:Bool} {O:List Gl} (h:TX w base v0 st j O X) (hbase:base<=w.heap.size) (n:Nat):TX w base v0 st j O (X.drewN n):=h.below (qf (Le _ _)) hbase
theorem ql5 {l:List ByteArray} {s:ByteArray} {n:Nat} (h:yl l=some (s,n)) (hsz : ∀ s∈l,s.size<=1000) (hl:l.length<=1000):s.size<=1000:=by
 cases l with
 | nil=>cases h
 | cons a t =>
  rw [yl] at h
  split at h
  ·rename_i hc
   simp only [Option.some.injEq,Prod.mk.injEq] at h;obtain ⟨rfl,rfl⟩:=h
   cases t with
   | nil=>exact absurd hc.2 L4
   | cons d t'=>exact hsz d L1
  ·split at h
   ·simp only [Option.some.injEq,Prod.mk.injEq] at h;obtain ⟨rfl,rfl⟩:=h;exact hsz a L1
   ·split at h
    ·unfold ya at h
     split at h
     ·cases h
     ·split at h
      ·simp only [Option.some.injEq,Prod.mk.injEq] at h;obtain ⟨rfl,rfl⟩:=h;have hall : ∀ x∈t.takeWhile jQ,jQ x=true:=fun x hx=>List.all_eq_true.1 (List.all_takeWhile (l:=t) (p:=jQ)) x hx
       have hlen : ∀ T:List ByteArray,(∀ x∈T,jQ x=true)->(T.flatMap fun s=>s.data.toList).length=T.length:=by
        intro T
        induction T with
        | nil=>intro _;rfl
        | cons x T ih =>
         intro hall;have hx:=hall x L1;unfold jQ at hx;rw [Bool.and_eq_true,decide_eq_true_eq] at hx;rw [List.flatMap_cons,Lf,Lp,ih fun y hy=>hall y (by simp [hy])];have:x.data.toList.length=x.size:=by simp
         omega
       have hT:=hlen _ hall;have hle:(t.takeWhile jQ).length<=t.length:=(List.takeWhile_sublist _).length_le;rw [Lp] at hl
       show (List.toArray _).size<=_
       rw [List.size_toArray,hT]
       omega
      ·cases h
    ·cases h
theorem wrap8 (d:Nat) (h:d<10):IntKind.u8.wrap (48+(d:Int))=48+(d:Int):=by
 have : ∀ d:Fin 10,IntKind.u8.wrap (48+((d.val:Nat):Int))=48+((d.val:Nat):Int):=by decide +kernel
 exact this ⟨d,h⟩
theorem own_cap2 {w:World} {base size n c:Nat} {e:TypeId} {A:Option Addr} {xs:List Value} (h:w.ownsRow base e size (.slice A n c) n xs):n<=c:=by
 rcases h.2 with ⟨h0,_⟩ | ⟨g,cap,cur,hv,h1,h2,h3,h4,_⟩
 ·injection h0 with _ h0 h0';omega
 ·injection hv with _ _ hv;omega
theorem qk1 {α:Type} (p:α->Bool) : ∀ l:List α,(l.find? p).isSome=l.any p
 | []=>rfl
 | a::l=>by
  rw [List.find?_cons,List.any_cons]
  cases p a with
  | true=>rfl
  | false=>exact qk1 p l
theorem dgW_has (x:ByteArray):(dgW x).isSome=qab (vocB.take 10) x:=by
 unfold dgW qab vocB;rw [qk1,<- List.map_take,List.any_map]
 rfl
theorem qlF (s:ByteArray):jn s 0=s:=by
 unfold jn
 apply ByteArray.ext
 apply Array.toList_inj.1
 simp
theorem TX.copy0 {w wr:World} {base:Nat} {v0:Value} {v:Value} {st':Int} {j':Bool} (B1:Blk wr (w.heap.size+1) 165 (tC (.slice none 0 0) 0 false)) (tx:BG base v0 w wr) (hb:base<=w.heap.size) :
  Blk (((wr.setCell ⟨w.heap.size+1,0,none⟩ v).setCell ⟨w.heap.size+1,1,none⟩ (.int .i64 st')).setCell ⟨w.heap.size+1,2,none⟩ (.bool j')) (w.heap.size+1) 165 (tC v st' j') /\
  BG base v0 w (((wr.setCell ⟨w.heap.size+1,0,none⟩ v).setCell ⟨w.heap.size+1,1,none⟩ (.int .i64 st')).setCell ⟨w.heap.size+1,2,none⟩ (.bool j')) :=
 ⟨k8 B1,((tx.set_ hb (Nat.le_succ _) _).set_ hb (Nat.le_succ _) _).set_ hb (Nat.le_succ _) _⟩
theorem qld {l:List ByteArray} {o:Option (ByteArray × Nat)} {O:List Gl} {st:Int} {J:Bool} {RES:Option Prs} {s:ByteArray} {n cp:Nat} (h:RES=o.map fun (s,n)=>kN ⟨l,O,st,J⟩ (jn s cp) (1+n)) (ho:o=some (s,n)):RES=some ⟨l.drop (1+n),O++vm J st (jn s cp),st,true⟩:=by
 rw [h,ho]
 rfl
theorem TX.drew {w X:World} {base:Nat} {v0:Value} {st:Int} {j:Bool} {O:List Gl} (h:TX w base v0 st j O X) (hbase:base<=w.heap.size):TX w base v0 st j O X.drew:=h.below (Le _ _).drew hbase
theorem TX.turn {w wr:World} {base:Nat} {v0:Value} {O:List Gl} {A:Option Addr} {c:Nat} {p q:Addr} {u x:Value} (hp:p.block=w.heap.size) (hq:q.block=w.heap.size) (B2:Blk wr (w.heap.size+1) 165 (tC (.slice none 0 0) 0 false)) (ox:wr.ownsRow base 64 3 (.slice A O.length c) O.length (qi O))
  (hs:Sep w.heap.size v0 (.slice A O.length c)) (tx:BG base v0 w wr) (hb:base<=w.heap.size) :
  (Blk ((wr.setCell p u).setCell q x) (w.heap.size+1) 165 (tC (.slice none 0 0) 0 false)/\((wr.setCell p u).setCell q x).ownsRow base 64 3 (.slice A O.length c) O.length (qi O)/\BG base v0 w ((wr.setCell p u).setCell q x)) /\
  (Blk (wr.setCell q x) (w.heap.size+1) 165 (tC (.slice none 0 0) 0 false)/\(wr.setCell q x).ownsRow base 64 3 (.slice A O.length c) O.length (qi O)/\BG base v0 w (wr.setCell q x)):=by
 have h1 : ∀ k,(Value.slice A O.length c).ownBlock=some k->k≠p.block:=fun k hk=>by rw [hp];exact (hs.ne k hk).1
 have h2 : ∀ k,(Value.slice A O.length c).ownBlock=some k->k≠q.block:=fun k hk=>by rw [hq];exact (hs.ne k hk).1
 exact ⟨⟨(B2.far (by rw [hp];omega) _).far (by rw [hq];omega) _,zy (zy ox h1 _) h2 _,(tx.set_ hb (by rw [hp];exact Ld _) _).set_ hb (by rw [hq];exact Ld _) _⟩,
  B2.far (by rw [hq];omega) _,zy ox h2 _,tx.set_ hb (by rw [hq];exact Ld _) _⟩
theorem rone (O:List Gl) (st:Int) (J:Bool) (l:List ByteArray) (ho:O.length<=1000000000) (A:Option Addr) (c base:Nat) (w:World) (hb:base<=w.heap.size) (h:w.ownsRow base 64 3 (.slice A O.length c) O.length (qi O)) (Aw:Option Addr) (nw cw:Nat) (hW:WdA base w l Aw nw cw) (hot : ∀ x∈O,x.text.size<=8000000) (a:ByteArray) (t:List ByteArray) (hl:l=a::t):Calls prog 123 #[.agg (tC (.slice A O.length c) st J),.slice Aw nw cw] w (PRes base (.slice A O.length c) w l (va ⟨l,O,st,J⟩)):=by
 have hpn:=TX.new (st:=st) (j:=J) h hb;clear h;obtain ⟨v0,hv0⟩ : ∃ x,x=Value.slice A O.length c:=⟨_,rfl⟩
 have HV:=Lh hv0;rw [<- hv0] at hpn ⊢;clear hv0;obtain ⟨RES,hRES⟩ : ∃ x,x=va ⟨l,O,st,J⟩:=⟨_,rfl⟩
 rw [<- hRES];replace hRES:=Lh hRES;have hln:=hW.len;have hnw:t.length+1=nw:=by rw [<- hln,hl];simp
 obtain ⟨b,o,hA,hbg,hca⟩:=hW.rd.2 (show 0<nw by omega);subst hA;have HCa:Hid (∀ w',Below base w w'->w'.cell? ⟨b,o,none⟩=some (.string a)):=Lh fun w' hw=>(hw.cell (show b<base from hbg)).trans (hca 0 _ (by rw [hl];rfl))
 clear hca;have HW:=Lh hW;have HL:=Lh hl;have hi0:(0:Int)<nw:=by omega
 clear hW hl hln
 go_enter func123,ntmps123
 go_upto_region 2 with fail
 refine qa (fun X=>TX w base v0 st J O X/\NmT X (w.heap.size+2)) ⟨hpn.below (Below.alloc (Le _ _) (Ld _) _) hb,NmT.new L1⟩ ?_;clear hpn;rintro X ⟨hT,hnm⟩;go_wp2
 go_loopw [7] (fun x wr=>∃ i:Nat,i<=4/\x = .int .i64 i/\TX w base v0 st J O wr/\NmT wr (w.heap.size+2)/\Hid (∀ k,k<i->vP k≠a)) (fun x _=>4-(intOf x).toNat)
 case atStart=>exact ⟨0,Nat.zero_le _,rfl,hT,hnm,Lh fun k hk=>absurd hk (Nat.not_lt_zero k)⟩
 case round =>
  clear hT hnm;obtain ⟨i,hi,rfl,hT,hnm,HN⟩:=hrel;have ca:=HCa.out _ hT.bel
  by_cases hlt:i<4
  ·have cn:=hnm i hlt;have hq:=jO a (vP i);have hii:(i:Int)<4:=by omega
   have hi1:(0:Int)<=i:=by omega
   by_cases he:vP i=a
   ·as_aux_lemma =>
    have e0:Hid (RES=some ⟨t,O,(i:Nat),false⟩):=Lh (by rw [hRES.out];exact rp_sty (HL.out) (sty_at hlt HN.out he));rw [Ll he.symm] at hq;generalize vP i=SN at *
    obtain ⟨A6,c6,B1,B2,ox,hs6,tx⟩:=hT;have c0:=B1.cell 0;have c1:=B1.cell 1;have c2:=B1.cell 2;have d0:=B2.cell 0;have d1:=B2.cell 1;have d2:=B2.cell 2;have f0:=B1.frozen 0;have f2:=B1.frozen 2;have g0:=B2.frozen 0;have g1:=B2.frozen 1;have g2:=B2.frozen 2;simp only [tC,La,Lb,Lc] at c0 c1 c2 d0 d1 d2;have f1:=B1.frozen 1;have R1:=fun nq=>(TX.turn (p:=⟨w.heap.size,1,none⟩) (q:=⟨w.heap.size,2,none⟩) (u:=.int .i64 (i:Int)) (x:=.bool false) rfl rfl (B2.drewN nq) (qb ox (qf (Le _ _))) hs6 (tx.below (qf (Le _ _)) hb) hb).1
    have R0:=fun nq=>TX.copy (v:=.slice A6 O.length c6) (st':=(i:Int)) (j':=false) (R1 nq).1 (R1 nq).2.1 hs6 (R1 nq).2.2 hb
    have HLx:=HL;have HLn:Hid (1<=l.length):=Lh (by rw [HL.out];simp);clear he hnm HN hRES HL HW HCa B1 B2 ox tx
    go_upto_region 5 with fail
    go_quiet (fail)
    go_wp2;have R:=R0 nq;exact bodyPost_ret (vG rfl _ _ (w.heap.size+1) 165 _ (0,0) _ rfl R.1 underlying165 rfl qy) rfl (by rw [e0.out];exact ⟨A6,c6,1,by omega,HLn.out,by rw [HLx.out];rfl,rfl,R.2.1,R.2.2,hs6⟩)
   ·as_aux_lemma =>
    rw [Lk (fun h=>he h.symm)] at hq;have HN2:Hid (∀ k,k<i+1->vP k≠a):=Lh fun k hk=>by
     rcases Nat.lt_or_ge k i with h | h
     ·exact HN.out k h
     ·obtain rfl:k=i:=by omega
      exact he
    have hTd:=fun nq=>hT.drewN hb nq
    have hnd:=fun nq=>hnm.drewN nq
    generalize vP i=SN at *
    clear he hT hnm HN hRES HL HW HCa
    go_upto_region 5 with fail
    go_quiet (fail)
    go_wp2;exact ⟨⟨i+1,by omega,by go_num,hTd _,hnd _,HN2⟩,by simp [intOf];omega⟩
  ·as_aux_lemma =>
   have hs0:Hid (vY a=none):=Lh (qmn fun k hk=>HN.out k L0);obtain rfl:i=4:=by omega
   clear HN hnm hlt hi;have q1:=qct (a:=a) (b:=zO) (l:=[106,111,105,110,101,100]) rfl;have q2:=qct (a:=a) (b:=bCap) (l:=[99,97,112]) rfl;have q3:=qct (a:=a) (b:=yi) (l:=[99,97,112,115]) rfl;have q4:=qct (a:=a) (b:=vI) (l:=[100,105,103,105,116,115]) rfl;have HLi:Hid (∀ l' A' n' c',(∀ s∈l',s.size<=1000)->l'.length<=850000->Rd w base 1 A' n' (sv l')->∀ w',Below base w w'->Calls prog 142 #[.slice A' n' c'] w' (qh (ql9 (yl l')) w')):=Lh fun l' A' n' c' h1 h2 rd w' hw =>
    rliteral l' A' n' c' base w' h1 L0 (rd.below hw) (Lj hb hw.size) (HW.out.tb w' hw)
   by_cases hj:a=zO
   ·as_aux_lemma =>
    have e0:Hid (RES=some ⟨t,O,st,false⟩):=Lh (by rw [hRES.out];exact rp_join HL.out hs0.out hj);rw [Ll hj] at q1;obtain ⟨A6,c6,B1,B2,ox,hs6,tx⟩:=hT;have c0:=B1.cell 0;have c1:=B1.cell 1;have c2:=B1.cell 2;have d0:=B2.cell 0;have d1:=B2.cell 1;have d2:=B2.cell 2;have f0:=B1.frozen 0;have f2:=B1.frozen 2;have g0:=B2.frozen 0;have g1:=B2.frozen 1;have g2:=B2.frozen 2;simp only [tC,La,Lb,Lc] at c0 c1 c2 d0 d1 d2;have R1:=(TX.turn (p:=⟨w.heap.size,1,none⟩) (q:=⟨w.heap.size,2,none⟩) (u:=.int .i64 0) (x:=.bool false) rfl rfl B2 ox hs6 tx hb).2;have R:=TX.copy (v:=.slice A6 O.length c6) (st':=st) (j':=false) R1.1 R1.2.1 hs6 R1.2.2 hb;have HLx:=HL;have HLn:Hid (1<=l.length):=Lh (by rw [HL.out];simp);clear hRES HL HW HCa B1 B2 ox tx hj HLi;go_wp2;exact bodyPost_ret (vG rfl _ _ (w.heap.size+1) 165 _ (0,0) _ rfl R.1 underlying165 rfl qy) rfl (by rw [e0.out];exact ⟨A6,c6,1,by omega,HLn.out,by rw [HLx.out];rfl,rfl,R.2.1,R.2.2,hs6⟩)
   ·rw [Lk hj] at q1;have hcap:=HW.out.cap;have hmax:=HW.out.max;have hfew:=HW.out.few;have hsz:=Lh HW.out.sz;have HJ:=Lh hj;clear hj;have hszt : ∀ s∈t,s.size<=1000:=fun s hs=>hsz.out s (by rw [HL.out];exact List.mem_cons_of_mem _ hs)
    have hnl:l.length=nw:=HW.out.len;have htl:t.length<=1000:=by omega
    have hRd:=HW.out.rd.cut (k:=1) L0 hcap;have hdr:(sv l).drop (1 * 1)=sv t:=by rw [HL.out];rfl
    rw [hdr] at hRd;simp only [Nat.mul_one,Option.map_some,vl] at hRd;have hRd0:=Lh HW.out.rd;have j1:(1:Int)<=nw:=by omega
    have j2:(1:Int)<=cw:=by omega
    have j3:cw<=9223372036854775807:=by unfold maxLen at hmax;omega
    by_cases hc:a=bCap
    ·as_aux_lemma =>
     have hres:RES=(yl t).map fun (s,n)=>kN ⟨l,O,st,J⟩ (jn s 1) (1+n):=by rw [hRES.out];exact rp_cap HL.out hs0.out HJ.out hc
     have hn3:a≠yi:=by rw [hc];decide +kernel
     rw [Ll hc] at q2;rw [Lk hn3] at q3;clear hc hn3 q4 hdr hsz
     by_cases hc1:cw=1
     ·rw [if_pos hc1] at hRd;have t0:t=[]:=List.length_eq_zero_iff.1 L0;have hnk:nw-1=0:=by omega
      rw [hnk] at hRd;have HLt:=Lh (HLi.out t (some ⟨b,o,none⟩) 0 0 hszt L0 hRd);rw [t0,show yl []=none from rfl] at HLt hres;simp only [ql9] at HLt;have e0:=Lh hres;obtain rfl:nw=1:=by omega
      subst hc1;clear HLi hRd hRd0 hres hszt htl t0 hRES HL HW
      go_upto_region 19 with (go_at_call 142;refine (HLt.out _ hT.bel).mono ?_;rintro e w3 ⟨rfl,hb3⟩)
      replace hT:=hT.below hb3 hb;clear hb3 ca;obtain ⟨A6,c6,B1,B2,ox,hs6,tx⟩:=hT;have c0:=B1.cell 0;have c1:=B1.cell 1;have c2:=B1.cell 2;have d0:=B2.cell 0;have d1:=B2.cell 1;have d2:=B2.cell 2;have f0:=B1.frozen 0;have f2:=B1.frozen 2;have g0:=B2.frozen 0;have g1:=B2.frozen 1;have g2:=B2.frozen 2;simp only [tC,La,Lb,Lc] at c0 c1 c2 d0 d1 d2;have R:=TX.copy (v:=.slice A6 O.length c6) (st':=st) (j':=J) B2 ox hs6 tx hb;go_wp2;exact bodyPost_ret (vG rfl _ _ (w.heap.size+1) 165 _ (0,0) _ rfl R.1 underlying165 rfl qy) rfl (by rw [e0.out];exact ⟨_,_,_,_,_,rfl,R.2.2⟩)
     ·rw [if_neg hc1] at hRd;have HLt:=Lh (HLi.out t (some ⟨b,o+1,none⟩) (nw-1) (cw-1) hszt L0 hRd)
      cases hlt:yl t with
      | none =>
       rw [hlt] at HLt hres;simp only [ql9] at HLt;have e0:=Lh hres;clear HLi hRd hRd0 hres hszt htl hRES HL HW hlt
       go_upto_region 19 with (go_at_call 142;refine (HLt.out _ hT.bel).mono ?_;rintro e w3 ⟨rfl,hb3⟩)
       replace hT:=hT.below hb3 hb;clear hb3 ca;obtain ⟨A6,c6,B1,B2,ox,hs6,tx⟩:=hT;have c0:=B1.cell 0;have c1:=B1.cell 1;have c2:=B1.cell 2;have d0:=B2.cell 0;have d1:=B2.cell 1;have d2:=B2.cell 2;have f0:=B1.frozen 0;have f2:=B1.frozen 2;have g0:=B2.frozen 0;have g1:=B2.frozen 1;have g2:=B2.frozen 2;simp only [tC,La,Lb,Lc] at c0 c1 c2 d0 d1 d2;have R:=TX.copy (v:=.slice A6 O.length c6) (st':=st) (j':=J) B2 ox hs6 tx hb;go_wp2;exact bodyPost_ret (vG rfl _ _ (w.heap.size+1) 165 _ (0,0) _ rfl R.1 underlying165 rfl qy) rfl (by rw [e0.out];exact ⟨_,_,_,_,_,rfl,R.2.2⟩)
      | some x =>
       obtain ⟨s,n⟩:=x;rw [hlt] at HLt;simp only [ql9] at HLt;have e0:=Lh (qld hres hlt);obtain ⟨hs1,hs2,hn0,hn1⟩:=qfx hlt hszt L0;have HRz:=Lh (qll s hs1 hs2 1 L0);have hS2:(jn s 1).size<=1000000:=by rw [qdX];exact hs2
       have hni:(0:Int)<n:=by omega
       have hln1:1+n<=l.length:=by omega
       have HV2:Hid (IntKind.i64.wrap (1+(n:Int))=((1+n:Nat):Int)):=Lh (by rw [Lx];omega);clear HLi hRd hRd0 hres hszt htl hRES HL HW hlt hs1 hs2
       go_upto_region 19 with (go_at_call 142;refine (HLt.out _ hT.bel).mono ?_;rintro e w3 ⟨rfl,hb3⟩)
       replace hT:=hT.below hb3 hb;clear hb3 ca;generalize jn s 1=S2 at *
       obtain ⟨A6,c6,B1,B2,ox,hs6,tx⟩:=hT;have hTx:=fun w5 hb5 ox=>qlf O st J S2 hS2 ho A6 c6 base w5 hb5 ox
       generalize O++vm J st S2=Q at *
       have HTx:=Lh hTx;clear hTx;have o1:=qb ox (Le _ _).drew;have tx1:=tx.drew hb;have C1:=B1.drew;have C2:=B2.drew;have c0:=B1.cell 0;have c1:=B1.cell 1;have c2:=B1.cell 2;have d0:=B2.cell 0;have d1:=B2.cell 1;have d2:=B2.cell 2;have f0:=B1.frozen 0;have f2:=B1.frozen 2;have g0:=B2.frozen 0;have g1:=B2.frozen 1;have g2:=B2.frozen 2;simp only [tC,La,Lb,Lc] at c0 c1 c2 d0 d1 d2
       go_upto_region 20 with fail
       go_region_held3 (fun w'=>w'.cell? ⟨w.heap.size,0,none⟩=some (.slice A6 O.length c6)/\w'.cell? ⟨w.heap.size,1,none⟩=some (.int .i64 st)/\w'.cell? ⟨w.heap.size,2,none⟩=some (.bool J)) (go_keep) (first
        | (go_at_call 144;refine (HRz.out _).mono ?_;rintro e w5 ⟨rfl,hb5⟩;have o5:=qb o1 hb5;have tx5:=tx1.below hb5 hb;have E1:=C1.below hb5 C1.lt;have E2:=C2.below hb5 C2.lt;have k0:=E1.cell 0;have k1:=E1.cell 1;have k2:=E1.cell 2;simp only [tC,La,Lb,Lc] at k0 k1 k2)
        | (go_at_call 143;refine (HTx.out _ (Lj hb tx5.size) o5).mono ?_;rintro e w6 ⟨A7,c7,rfl,o7,bg7,hs7⟩;obtain ⟨D1,D2,tx7,hs8⟩:=TX.call E1 E2 hs6 tx5 bg7 hs7;have m0:=D1.cell 0;have m1:=D1.cell 1;have m2:=D1.cell 2;have n0:=D2.cell 0;have n1:=D2.cell 1;have n2:=D2.cell 2;have l0:=D2.frozen 0;have l1:=D2.frozen 1;have l2:=D2.frozen 2;simp only [tC,La,Lb,Lc] at m0 m1 m2 n0 n1 n2;simp only [id,tC]))
       go_wp2;have R:=TX.copy (v:=.slice A7 Q.length c7) (st':=st) (j':=true) D2 o7 hs8 tx7 hb;exact bodyPost_ret (vG rfl _ _ (w.heap.size+1) 165 _ (0,0) _ rfl R.1 underlying165 rfl qy) rfl (by rw [e0.out];exact ⟨A7,c7,1+n,by omega,hln1,rfl,(by show Ending.returned (Value.tuple #[.agg (tC (.slice A7 Q.length c7) st true),.int .i64 (IntKind.i64.wrap (1+(n:Int)))])=_;rw [HV2.out]),R.2.1,R.2.2,hs8⟩)
    ·rw [Lk hc] at q2
     by_cases hcs:a=yi
     ·as_aux_lemma =>
      have hres:RES=(yl t).map fun (s,n)=>kN ⟨l,O,st,J⟩ (jn s 1000) (1+n):=by
       rw [hRES.out,rp_caps HL.out hs0.out HJ.out hcs]
       cases hlt:yl t with
       | none=>rfl
       | some x =>
        obtain ⟨s,n⟩:=x;simp only [Option.map_some];rw [qk4 s 1000 (ql5 hlt hszt htl)]
      rw [Ll hcs] at q3;clear hc hcs q4 hdr hsz
      by_cases hc1:cw=1
      ·rw [if_pos hc1] at hRd;have t0:t=[]:=List.length_eq_zero_iff.1 L0;have hnk:nw-1=0:=by omega
       rw [hnk] at hRd;have HLt:=Lh (HLi.out t (some ⟨b,o,none⟩) 0 0 hszt L0 hRd);rw [t0,show yl []=none from rfl] at HLt hres;simp only [ql9] at HLt;have e0:=Lh hres;obtain rfl:nw=1:=by omega
       subst hc1;clear HLi hRd hRd0 hres hszt htl t0 hRES HL HW
       go_upto_region 19 with (go_at_call 142;refine (HLt.out _ hT.bel).mono ?_;rintro e w3 ⟨rfl,hb3⟩)
       replace hT:=hT.below hb3 hb;clear hb3 ca;obtain ⟨A6,c6,B1,B2,ox,hs6,tx⟩:=hT;have c0:=B1.cell 0;have c1:=B1.cell 1;have c2:=B1.cell 2;have d0:=B2.cell 0;have d1:=B2.cell 1;have d2:=B2.cell 2;have f0:=B1.frozen 0;have f2:=B1.frozen 2;have g0:=B2.frozen 0;have g1:=B2.frozen 1;have g2:=B2.frozen 2;simp only [tC,La,Lb,Lc] at c0 c1 c2 d0 d1 d2;have R:=TX.copy (v:=.slice A6 O.length c6) (st':=st) (j':=J) B2 ox hs6 tx hb;go_wp2;exact bodyPost_ret (vG rfl _ _ (w.heap.size+1) 165 _ (0,0) _ rfl R.1 underlying165 rfl qy) rfl (by rw [e0.out];exact ⟨_,_,_,_,_,rfl,R.2.2⟩)
      ·rw [if_neg hc1] at hRd;have HLt:=Lh (HLi.out t (some ⟨b,o+1,none⟩) (nw-1) (cw-1) hszt L0 hRd)
       cases hlt:yl t with
       | none =>
        rw [hlt] at HLt hres;simp only [ql9] at HLt;have e0:=Lh hres;clear HLi hRd hRd0 hres hszt htl hRES HL HW hlt
        go_upto_region 19 with (go_at_call 142;refine (HLt.out _ hT.bel).mono ?_;rintro e w3 ⟨rfl,hb3⟩)
        replace hT:=hT.below hb3 hb;clear hb3 ca;obtain ⟨A6,c6,B1,B2,ox,hs6,tx⟩:=hT;have c0:=B1.cell 0;have c1:=B1.cell 1;have c2:=B1.cell 2;have d0:=B2.cell 0;have d1:=B2.cell 1;have d2:=B2.cell 2;have f0:=B1.frozen 0;have f2:=B1.frozen 2;have g0:=B2.frozen 0;have g1:=B2.frozen 1;have g2:=B2.frozen 2;simp only [tC,La,Lb,Lc] at c0 c1 c2 d0 d1 d2;have R:=TX.copy (v:=.slice A6 O.length c6) (st':=st) (j':=J) B2 ox hs6 tx hb;go_wp2;exact bodyPost_ret (vG rfl _ _ (w.heap.size+1) 165 _ (0,0) _ rfl R.1 underlying165 rfl qy) rfl (by rw [e0.out];exact ⟨_,_,_,_,_,rfl,R.2.2⟩)
       | some x =>
        obtain ⟨s,n⟩:=x;rw [hlt] at HLt;simp only [ql9] at HLt;have e0:=Lh (qld hres hlt);obtain ⟨hs1,hs2,hn0,hn1⟩:=qfx hlt hszt L0;have HRz:=Lh (qll s hs1 hs2 1000 L0);have hS2:(jn s 1000).size<=1000000:=by rw [qdX];exact hs2
        have hni:(0:Int)<n:=by omega
        have hln1:1+n<=l.length:=by omega
        have HV2:Hid (IntKind.i64.wrap (1+(n:Int))=((1+n:Nat):Int)):=Lh (by rw [Lx];omega);clear HLi hRd hRd0 hres hszt htl hRES HL HW hlt hs1 hs2
        go_upto_region 19 with (go_at_call 142;refine (HLt.out _ hT.bel).mono ?_;rintro e w3 ⟨rfl,hb3⟩)
        replace hT:=hT.below hb3 hb;clear hb3 ca;generalize jn s 1000=S2 at *
        obtain ⟨A6,c6,B1,B2,ox,hs6,tx⟩:=hT;have hTx:=fun w5 hb5 ox=>qlf O st J S2 hS2 ho A6 c6 base w5 hb5 ox
        generalize O++vm J st S2=Q at *
        have HTx:=Lh hTx;clear hTx;have o1:=qb ox (Le _ _).drew;have tx1:=tx.drew hb;have C1:=B1.drew;have C2:=B2.drew;have c0:=B1.cell 0;have c1:=B1.cell 1;have c2:=B1.cell 2;have d0:=B2.cell 0;have d1:=B2.cell 1;have d2:=B2.cell 2;have f0:=B1.frozen 0;have f2:=B1.frozen 2;have g0:=B2.frozen 0;have g1:=B2.frozen 1;have g2:=B2.frozen 2;simp only [tC,La,Lb,Lc] at c0 c1 c2 d0 d1 d2
        go_upto_region 20 with fail
        go_region_held3 (fun w'=>w'.cell? ⟨w.heap.size,0,none⟩=some (.slice A6 O.length c6)/\w'.cell? ⟨w.heap.size,1,none⟩=some (.int .i64 st)/\w'.cell? ⟨w.heap.size,2,none⟩=some (.bool J)) (go_keep) (first
         | (go_at_call 144;refine (HRz.out _).mono ?_;rintro e w5 ⟨rfl,hb5⟩;have o5:=qb o1 hb5;have tx5:=tx1.below hb5 hb;have E1:=C1.below hb5 C1.lt;have E2:=C2.below hb5 C2.lt;have k0:=E1.cell 0;have k1:=E1.cell 1;have k2:=E1.cell 2;simp only [tC,La,Lb,Lc] at k0 k1 k2)
         | (go_at_call 143;refine (HTx.out _ (Lj hb tx5.size) o5).mono ?_;rintro e w6 ⟨A7,c7,rfl,o7,bg7,hs7⟩;obtain ⟨D1,D2,tx7,hs8⟩:=TX.call E1 E2 hs6 tx5 bg7 hs7;have m0:=D1.cell 0;have m1:=D1.cell 1;have m2:=D1.cell 2;have n0:=D2.cell 0;have n1:=D2.cell 1;have n2:=D2.cell 2;have l0:=D2.frozen 0;have l1:=D2.frozen 1;have l2:=D2.frozen 2;simp only [tC,La,Lb,Lc] at m0 m1 m2 n0 n1 n2;simp only [id,tC]))
        go_wp2;have R:=TX.copy (v:=.slice A7 Q.length c7) (st':=st) (j':=true) D2 o7 hs8 tx7 hb;exact bodyPost_ret (vG rfl _ _ (w.heap.size+1) 165 _ (0,0) _ rfl R.1 underlying165 rfl qy) rfl (by rw [e0.out];exact ⟨A7,c7,1+n,by omega,hln1,rfl,(by show Ending.returned (Value.tuple #[.agg (tC (.slice A7 Q.length c7) st true),.int .i64 (IntKind.i64.wrap (1+(n:Int)))])=_;rw [HV2.out]),R.2.1,R.2.2,hs8⟩)
     ·rw [Lk hcs] at q3
      as_aux_lemma =>
      have hcw0 : ¬ cw=0:=by omega
      have HLt:=Lh (HLi.out l (some ⟨b,o,none⟩) nw cw hsz.out L0 hRd0.out);have HC:=Lh hc;have HCs:=Lh hcs;clear hRd hszt htl hdr hc hcs HLi
      cases hlt:yl l with
      | some x =>
       as_aux_lemma =>
       obtain ⟨s,n⟩:=x;have e0:Hid (RES=some ⟨l.drop n,O++vm J st s,st,true⟩):=Lh (by rw [hRES.out];exact rp_lit HL.out hs0.out HJ.out HC.out HCs.out (by rw [<- HL.out];exact hlt));obtain ⟨hs1,hs2,hn0,hn1⟩:=qfx hlt hsz.out L0;rw [hlt] at HLt;simp only [ql9] at HLt;have HRz:Hid (∀ w',Calls prog 144 #[.string s,.int .i64 0] w' (qh (.string s) w')):=Lh fun w'=>by
        have h:=qll s hs1 hs2 0 L0 w'
        rwa [qlF] at h
       have hni:(0:Int)<n:=by omega
       have hwn:IntKind.i64.wrap (n:Int)=(n:Int):=by rw [Lx];omega
       clear hRd0 hRES HL HW hlt hs1 q4
       go_upto_region 19 with (go_at_call 142;refine (HLt.out _ hT.bel).mono ?_;rintro e w3 ⟨rfl,hb3⟩)
       replace hT:=hT.below hb3 hb;clear hb3 ca;obtain ⟨A6,c6,B1,B2,ox,hs6,tx⟩:=hT;have hTx:=fun w5 hb5 ox=>qlf O st J s hs2 ho A6 c6 base w5 hb5 ox
       generalize O++vm J st s=Q at *
       have HTx:=Lh hTx;clear hTx;have o1:=qb ox (Le _ _).drew;have tx1:=tx.drew hb;have C1:=B1.drew;have C2:=B2.drew;have c0:=B1.cell 0;have c1:=B1.cell 1;have c2:=B1.cell 2;have d0:=B2.cell 0;have d1:=B2.cell 1;have d2:=B2.cell 2;have f0:=B1.frozen 0;have f2:=B1.frozen 2;have g0:=B2.frozen 0;have g1:=B2.frozen 1;have g2:=B2.frozen 2;simp only [tC,La,Lb,Lc] at c0 c1 c2 d0 d1 d2
       go_upto_region 20 with fail
       go_region_held3 (fun w'=>w'.cell? ⟨w.heap.size,0,none⟩=some (.slice A6 O.length c6)/\w'.cell? ⟨w.heap.size,1,none⟩=some (.int .i64 st)/\w'.cell? ⟨w.heap.size,2,none⟩=some (.bool J)) (go_keep) (first
        | (go_at_call 144;refine (HRz.out _).mono ?_;rintro e w5 ⟨rfl,hb5⟩;have o5:=qb o1 hb5;have tx5:=tx1.below hb5 hb;have E1:=C1.below hb5 C1.lt;have E2:=C2.below hb5 C2.lt;have k0:=E1.cell 0;have k1:=E1.cell 1;have k2:=E1.cell 2;simp only [tC,La,Lb,Lc] at k0 k1 k2)
        | (go_at_call 143;refine (HTx.out _ (Lj hb tx5.size) o5).mono ?_;rintro e w6 ⟨A7,c7,rfl,o7,bg7,hs7⟩;obtain ⟨D1,D2,tx7,hs8⟩:=TX.call E1 E2 hs6 tx5 bg7 hs7;have m0:=D1.cell 0;have m1:=D1.cell 1;have m2:=D1.cell 2;have n0:=D2.cell 0;have n1:=D2.cell 1;have n2:=D2.cell 2;have l0:=D2.frozen 0;have l1:=D2.frozen 1;have l2:=D2.frozen 2;simp only [tC,La,Lb,Lc] at m0 m1 m2 n0 n1 n2;simp only [id,tC]))
       go_wp2;have R:=TX.copy (v:=.slice A7 Q.length c7) (st':=st) (j':=true) D2 o7 hs8 tx7 hb;exact bodyPost_ret (vG rfl _ _ (w.heap.size+1) 165 _ (0,0) _ rfl R.1 underlying165 rfl qy) rfl (by rw [e0.out];exact ⟨A7,c7,n,hn0,hn1,rfl,rfl,R.2.1,R.2.2,hs8⟩)
      | none =>
       rw [hlt] at HLt;simp only [ql9] at HLt;have hlt':yl (a::t)=none:=by rw [<- HL.out];exact hlt
       go_upto_region 19 with (go_at_call 142;refine (HLt.out _ hT.bel).mono ?_;rintro e w3 ⟨rfl,hb3⟩)
       replace hT:=hT.below hb3 hb;replace ca:=HCa.out _ hT.bel;clear hb3 HLt
       by_cases hd:a=vI
       ·as_aux_lemma =>
        rw [Ll hd] at q4;have HF:Hid (∀ j,j<=t.length->(∀ k (hk:k<t.length),k<j->(dgW t[k]).isSome=true)->(∀ hk:j<t.length,dgW t[j]=none)->RES=if j=0 then none else some ⟨l.drop (j+1),O++vm J st (zN (jo t j)),st,true⟩):=Lh fun j h1 h2 h3=>by
         rw [hRES.out,rp_fig HL.out hs0.out HJ.out HC.out HCs.out hlt' hd,qmg h1 h2 h3];have hz:(jo t j).length=j:=by unfold jo;rw [Lq,Lu];omega
         by_cases h0:j=0
         ·rw [if_pos h0,if_neg];exact fun hne=>hne (List.length_eq_zero_iff.1 L0)
         ·rw [if_neg h0,if_pos (fun e=>h0 (by rw [e] at hz;exact hz.symm)),hz,Nat.add_comm]
          rfl
        have HCx:Hid (∀ j (hj:j<t.length) w',Below base w w'->w'.cell? ⟨b,o+(j+1),none⟩=some (.string t[j])):=Lh fun j hj w' hw=>by
         obtain ⟨b',o',e',_,hc⟩:=(hRd0.out.below hw).at_ (k:=j+1) L0;simp only [Option.some.injEq,Addr.mk.injEq,and_true] at e';obtain ⟨rfl,rfl⟩:=e';rw [yM _ _ L0] at hc;rw [hc];simp only [HL.out,List.getElem_cons_succ]
        have HTb:Hid (∀ w',Below base w w'->Tb w'):=Lh HW.out.tb;have HNu:Hid (∀ j (hj:j<t.length) w',Below base w w'->Calls prog 102 #[.slice (some ⟨b,o+(j+1),none⟩) 1 (cw-(j+1))] w' (qh (kE (zc [t[j]])) w')):=Lh fun j hj w' hw =>
         qlN [t[j]] _ 1 _ w' rfl (Rd.some_ (by simp [sv]) (by have:=hw.size;omega) fun i u hi=>by
          have:i=0:=by
           have:i<1:=by
            rcases Nat.lt_or_ge i 1 with h | h
            ·exact h
            ·rw [List.getElem?_eq_none (by simpa [sv] using h)] at hi;cases hi
           omega
          subst this;rw [Nat.add_zero,HCx.out j hj w' hw]
          simpa [sv] using hi) (HTb.out w' hw)
        clear hRES HL HW hd hlt hlt' hRd0 hot hsz HC HCs HJ hs0;have e00:(⟨#[]⟩:ByteArray)=zN (jo t 0):=rfl;replace e00:=Lh e00;go_wp2
        go_loopw [10,12] (fun x y wr=>∃ j:Nat,j<=t.length/\y = .int .i64 (j+1:Nat)/\x = .string (zN (jo t j))/\TX w base v0 st J O wr/\Hid (∀ k (hk:k<t.length),k<j->(dgW t[k]).isSome=true)) (fun _ y _=>nw-(intOf y).toNat)
        case atStart=>exact ⟨0,Nat.zero_le _,rfl,by rw [e00.out],hT,Lh fun k hk h=>absurd h (Nat.not_lt_zero k)⟩
        case round =>
         clear hT ca;obtain ⟨j,hj,rfl,rfl,hT,HA⟩:=hrel
         by_cases hjt:j<t.length
         ·have hcx:=HCx.out j hjt wr hT.bel;have hjn:j+1<nw:=by omega
          have hji:(j:Int)+1<nw:=by omega
          have hj0:(0:Int)<=(j:Int)+1:=by omega
          go_upto_region 25 with fail
          go_cut [92] (fun v wx=>v = .bool (dgW t[j]).isSome/\Below wr.heap.size wr wx)
          case first =>
           as_aux_lemma =>
           have HHs:Hid (∀ A' c' B' w',Rd w' B' 1 A' 10 (sv (vocB.take 10))->Calls prog 109 #[.slice A' 10 c',.string t[j]] w' (Same (.bool (dgW t[j]).isSome) w')):=Lh fun A' c' B' w' rd=>by
            rw [dgW_has];exact has_ (vocB.take 10) t[j] A' 10 c' B' w' rfl L0 rd
           have hbd:Below base w wr.drew:=hT.bel.drew;have hTbd:=HTb.out _ hbd;have HCj:=Lh (HCx.out j hjt);have hzb:base<=wr.heap.size:=Lj hb hT.bel.size;have hbw:Below wr.heap.size wr wr.drew:=(Le _ _).drew;clear HF HNu HCx HA hT e00 HTb;generalize t[j]=x at *
           generalize (dgW x).isSome=fl at *
           go_region_held3 (fun w'=>w'.cell? ⟨b,o+(j+1),none⟩=some (.string x)) (go_keep) (first
            | (go_at_call 110;refine (qcH _ hTbd).mono ?_;rintro e w4 ⟨A4,c4,rfl,o4,hb4⟩;have hx4:=HCj.out _ (hbd.trans (hb4.mono hzb));have hc4:=own_cap2 o4;have hc10:(10:Int)<=c4:=L0;have rd4:=(Rd.of_own o4).take (k:=10) L0;simp only [Nat.mul_one] at rd4;rw [show (sv vocB).take 10=sv (vocB.take 10) by simp [sv,List.map_take]] at rd4;have hbw:=hbw.trans hb4)
            | (go_at_call 109;refine (HHs.out _ _ _ _ rd4).mono ?_;rintro e w5 ⟨rfl,rfl⟩))
           go_wp2;go_meet;exact ⟨rfl,hbw⟩
          case rest =>
           obtain ⟨w4,rfl⟩ : ∃ x:World,x=wc:=⟨_,rfl⟩
           obtain ⟨rfl,hb4⟩:=hcut;replace hT:=hT.below hb4 hb;clear hb4 hcx
           cases hdg:dgW t[j] with
           | some d =>
            as_aux_lemma =>
            obtain ⟨hd10,hnum⟩:=num_dg hdg;have HNj:=Lh (HNu.out j hjt w4 hT.bel);rw [hnum] at HNj;simp only [kE] at HNj;have HA2:Hid (∀ k (hk:k<t.length),k<j+1->(dgW t[k]).isSome=true):=Lh fun k hk hkj=>by
             rcases Nat.lt_or_ge k j with h' | h'
             ·exact HA.out k hk h'
             ·obtain rfl:k=j:=by omega
              rw [hdg]
              rfl
            have HDn:=Lh (qjN hjt hdg);have hw2:=(qd1 d hd10).1;have hw8:=wrap8 d hd10;have hbs : ∀ w0:World,(convert 172 9 (.slice (some ⟨w0.heap.size,0,none⟩) 1 1)).run prog (w0.alloc (.cells #[.int .u8 (48+(d:Int))] 5)) = .ok (.string ⟨#[UInt8.ofNat (48+d)]⟩) (w0.alloc (.cells #[.int .u8 (48+(d:Int))] 5)):=fun w0=>qgw w0 _ _ (by rw [UInt8.toNat_ofNat',Nat.mod_eq_of_lt (show 48+d<2 ^ 8 from Ly (Nat.add_lt_add_left hd10 48) L2)];rfl)
            have HBs:=Lh hbs;have i2:(j:Int)+1+1<=cw:=by omega
            have i3:(0:Int)<=(j:Int)+1+1:=by omega
            have i4:(j:Int)+1<=(j:Int)+1+1:=by omega
            have i5 : ¬ cw=j+1:=by omega
            have i6:((j:Int)+1).toNat=j+1:=by omega
            have i7:((j:Int)+1+1).toNat=j+1+1:=by omega
            have i8:j+1+1-(j+1)=1:=by omega
            have hw1:IntKind.i64.wrap ((j:Int)+1+1)=(j:Int)+1+1:=by rw [Lx];omega
            have hdz:(zN (jo t j)).size<=1000:=by rw [yg hj];omega
            have HM:Hid (nw-(j+1+1)<nw-(j+1)):=Lh L0;clear HF HNu HCx HA hdg hnum hd10 e00 HTb hbs;generalize UInt8.ofNat (48+d)=ub at *
            generalize zN (jo t j)=DS at *
            generalize (d:Int)=dI at *
            go_wp2_with (go_at_call 102;refine HNj.out.mono ?_;rintro e w5 ⟨rfl,hb5⟩;have hcv:=HBs.out w5;have hT5:=(hT.below hb5 hb).below (Below.alloc (Le w5.heap.size w5) (Ld _) (.cells #[.int .u8 (48+dI)] 5)) hb;clear hw1)
            exact ⟨⟨j+1,hjt,by go_num,by rw [HDn.out],hT5,HA2⟩,by simp [intOf];omega⟩
           | none =>
            as_aux_lemma =>
            have hstop : ∀ hk:j<t.length,dgW t[j]=none:=fun _=>hdg
            clear HNu HCx HTb e00
            by_cases h0:j=0
            ·have he:(zN (jo t j)).toList.isEmpty=true:=by rw [h0,ByteArray.toList_eq];rfl
             have e0:Hid (RES=none):=Lh (by rw [HF.out j hj HA.out hstop,if_pos h0]);clear HF HA h0;generalize zN (jo t j)=DS at *
             obtain ⟨A6,c6,B1,B2,ox,hs6,tx⟩:=hT;have c0:=B1.cell 0;have c1:=B1.cell 1;have c2:=B1.cell 2;have d0:=B2.cell 0;have d1:=B2.cell 1;have d2:=B2.cell 2;have f0:=B1.frozen 0;have f2:=B1.frozen 2;have g0:=B2.frozen 0;have g1:=B2.frozen 1;have g2:=B2.frozen 2;simp only [tC,La,Lb,Lc] at c0 c1 c2 d0 d1 d2;have R:=TX.copy (v:=.slice A6 O.length c6) (st':=st) (j':=J) B2 ox hs6 tx hb;go_wp2;exact bodyPost_ret (vG rfl _ _ (w.heap.size+1) 165 _ (0,0) _ rfl R.1 underlying165 rfl qy) rfl (by rw [e0.out];exact ⟨_,_,_,_,_,rfl,R.2.2⟩)
            ·have he:(zN (jo t j)).toList.isEmpty=false:=jp (by rw [yg hj];exact h0);have e0:Hid (RES=some ⟨l.drop (j+1),O++vm J st (zN (jo t j)),st,true⟩):=Lh (by rw [HF.out j hj HA.out hstop,if_neg h0]);have hds:(zN (jo t j)).size<=1000000:=by rw [yg hj];omega
             have hjl:j+1<=l.length:=by omega
             obtain ⟨A6,c6,B1,B2,ox,hs6,tx⟩:=hT;have hTx:=qlf O st J (zN (jo t j)) hds ho A6 c6 base w4 (Lj hb tx.size) ox;clear HF HA h0;generalize O++vm J st (zN (jo t j))=Q at *
             have HTx:=Lh hTx;clear hTx hds;generalize zN (jo t j)=DS at *
             have c0:=B1.cell 0;have c1:=B1.cell 1;have c2:=B1.cell 2;have d0:=B2.cell 0;have d1:=B2.cell 1;have d2:=B2.cell 2;have f0:=B1.frozen 0;have f2:=B1.frozen 2;have g0:=B2.frozen 0;have g1:=B2.frozen 1;have g2:=B2.frozen 2;simp only [tC,La,Lb,Lc] at c0 c1 c2 d0 d1 d2
             go_wp2_with (go_at_call 143;refine HTx.out.mono ?_;rintro e w5 ⟨A7,c7,rfl,o7,bg7,hs7⟩;clear c0 c1 c2 d0 d1 d2 f0 f2 g0 g1 g2;obtain ⟨D1,D2,tx7,hs8⟩:=TX.call B1 B2 hs6 tx bg7 hs7;have d0:=D2.cell 0;have d1:=D2.cell 1;have d2:=D2.cell 2;have g0:=D2.frozen 0;have g1:=D2.frozen 1;have g2:=D2.frozen 2;simp only [tC,La,Lb,Lc] at d0 d1 d2;simp only [id,tC])
             have R:=TX.copy (v:=.slice A7 Q.length c7) (st':=st) (j':=true) D2 o7 hs8 tx7 hb;exact bodyPost_ret (vG rfl _ _ (w.heap.size+1) 165 _ (0,0) _ rfl R.1 underlying165 rfl qy) rfl (by rw [e0.out];exact ⟨A7,c7,j+1,by omega,hjl,rfl,rfl,R.2.1,R.2.2,hs8⟩)
         ·have hjn : ¬ j+1<nw:=by omega
          have hji : ¬ (j:Int)+1<nw:=by omega
          have hstop : ∀ hk:j<t.length,dgW t[j]=none:=fun hk=>absurd hk hjt
          clear HNu HCx HTb e00
          as_aux_lemma =>
          go_upto_region 25 with fail
          go_quiet (fail)
          replace hT:=hT.drewN hb nq;generalize wr.drewN nq=w4 at *
          by_cases h0:j=0
          ·have he:(zN (jo t j)).toList.isEmpty=true:=by rw [h0,ByteArray.toList_eq];rfl
           have e0:Hid (RES=none):=Lh (by rw [HF.out j hj HA.out hstop,if_pos h0]);clear HF HA h0;generalize zN (jo t j)=DS at *
           obtain ⟨A6,c6,B1,B2,ox,hs6,tx⟩:=hT;have c0:=B1.cell 0;have c1:=B1.cell 1;have c2:=B1.cell 2;have d0:=B2.cell 0;have d1:=B2.cell 1;have d2:=B2.cell 2;have f0:=B1.frozen 0;have f2:=B1.frozen 2;have g0:=B2.frozen 0;have g1:=B2.frozen 1;have g2:=B2.frozen 2;simp only [tC,La,Lb,Lc] at c0 c1 c2 d0 d1 d2;have R:=TX.copy (v:=.slice A6 O.length c6) (st':=st) (j':=J) B2 ox hs6 tx hb;go_wp2;exact bodyPost_ret (vG rfl _ _ (w.heap.size+1) 165 _ (0,0) _ rfl R.1 underlying165 rfl qy) rfl (by rw [e0.out];exact ⟨_,_,_,_,_,rfl,R.2.2⟩)
          ·have he:(zN (jo t j)).toList.isEmpty=false:=jp (by rw [yg hj];exact h0);have e0:Hid (RES=some ⟨l.drop (j+1),O++vm J st (zN (jo t j)),st,true⟩):=Lh (by rw [HF.out j hj HA.out hstop,if_neg h0]);have hds:(zN (jo t j)).size<=1000000:=by rw [yg hj];omega
           have hjl:j+1<=l.length:=by omega
           obtain ⟨A6,c6,B1,B2,ox,hs6,tx⟩:=hT;have hTx:=qlf O st J (zN (jo t j)) hds ho A6 c6 base w4 (Lj hb tx.size) ox;clear HF HA h0;generalize O++vm J st (zN (jo t j))=Q at *
           have HTx:=Lh hTx;clear hTx hds;generalize zN (jo t j)=DS at *
           have c0:=B1.cell 0;have c1:=B1.cell 1;have c2:=B1.cell 2;have d0:=B2.cell 0;have d1:=B2.cell 1;have d2:=B2.cell 2;have f0:=B1.frozen 0;have f2:=B1.frozen 2;have g0:=B2.frozen 0;have g1:=B2.frozen 1;have g2:=B2.frozen 2;simp only [tC,La,Lb,Lc] at c0 c1 c2 d0 d1 d2
           go_wp2_with (go_at_call 143;refine HTx.out.mono ?_;rintro e w5 ⟨A7,c7,rfl,o7,bg7,hs7⟩;clear c0 c1 c2 d0 d1 d2 f0 f2 g0 g1 g2;obtain ⟨D1,D2,tx7,hs8⟩:=TX.call B1 B2 hs6 tx bg7 hs7;have d0:=D2.cell 0;have d1:=D2.cell 1;have d2:=D2.cell 2;have g0:=D2.frozen 0;have g1:=D2.frozen 1;have g2:=D2.frozen 2;simp only [tC,La,Lb,Lc] at d0 d1 d2;simp only [id,tC])
           have R:=TX.copy (v:=.slice A7 Q.length c7) (st':=st) (j':=true) D2 o7 hs8 tx7 hb;exact bodyPost_ret (vG rfl _ _ (w.heap.size+1) 165 _ (0,0) _ rfl R.1 underlying165 rfl qy) rfl (by rw [e0.out];exact ⟨A7,c7,j+1,by omega,hjl,rfl,rfl,R.2.1,R.2.2,hs8⟩)
       ·rw [Lk hd] at q4
        as_aux_lemma =>
        have HCh:Hid (∀ w',Below base w w'->Calls prog 145 #[.slice (some ⟨b,o,none⟩) nw cw] w' (qh (qmb (charW l)) w')):=Lh fun w' hw =>
         qlP l _ nw cw w' hnl hcap hmax ((hRd0.out.below hw).more (Lj hb hw.size)) (HW.out.tb w' hw)
        cases hcw:charW l with
        | some x =>
         as_aux_lemma =>
         obtain ⟨r,m⟩:=x;obtain ⟨rr,rfl,hrr⟩:=qfT hcw;obtain ⟨hm0,hml⟩:=qeG hcw;have eT:RES=if (vV O st (rr:Int) 1).1=true then some ⟨l.drop m,(vV O st (rr:Int) 1).2,st,false⟩ else none:=by
          rw [hRES.out];exact rp_sign HL.out hs0.out HJ.out HC.out HCs.out hlt' hd (by rw [<- HL.out];exact hcw)
         have e0:=Lh eT;rw [hcw] at HCh;simp only [qmb] at HCh;have HAd:Hid (∀ A6 c6 w2 (hb2:base<=w2.heap.size) (ox:w2.ownsRow base 64 3 (.slice A6 O.length c6) O.length (qi O)),Calls prog 146 #[.agg (tC (.slice A6 O.length c6) st J),.int .i32 (rr:Int),.int .i64 1] w2 (TRt base (.slice A6 O.length c6) w2 (vV O st (rr:Int) 1).2 st J (fun v=>.tuple #[v,.bool (vV O st (rr:Int) 1).1]))):=Lh fun A6 c6 w2 hb2 ox=>radd O st J rr hrr 1 L0 ho hot A6 c6 base w2 hb2 ox
         have hmi:(0:Int)<m:=by omega
         clear eT hot hcw hlt hlt' hRd0 hRES HL HW hd hrr;generalize vV O st (rr:Int) 1=AD at *
         obtain ⟨ok,Q⟩:=AD;dsimp only at *
         generalize (rr:Int)=R at *
         go_upto_region 33 with (go_at_call 145;refine (HCh.out _ hT.bel).mono ?_;rintro e w4 ⟨rfl,hb4⟩)
         replace hT:=hT.below hb4 hb;clear hb4 ca;obtain ⟨A6,c6,B1,B2,ox,hs6,tx⟩:=hT;have HAx:=Lh (HAd.out A6 c6 w4 (Lj hb tx.size) ox);have c0:=B1.cell 0;have c1:=B1.cell 1;have c2:=B1.cell 2;have d0:=B2.cell 0;have d1:=B2.cell 1;have d2:=B2.cell 2;have f0:=B1.frozen 0;have f2:=B1.frozen 2;have g0:=B2.frozen 0;have g1:=B2.frozen 1;have g2:=B2.frozen 2;simp only [tC,La,Lb,Lc] at c0 c1 c2 d0 d1 d2;clear HAd HCh
         go_upto_region 36 with (go_at_call 146;refine HAx.out.mono ?_;rintro e w5 ⟨A7,c7,rfl,o7,bg7,hs7⟩;clear c0 c1 c2 d0 d1 d2 f0 f2 g0 g1 g2;obtain ⟨D1,D2,tx7,hs8⟩:=TX.call B1 B2 hs6 tx bg7 hs7;simp only [tC])
         have N1:Blk (w5.alloc (.cells (tC (.slice A7 Q.length c7) st false) 165)) w5.heap.size 165 (tC (.slice A7 Q.length c7) st false):=Blk.new _ _ _;have c0:=N1.cell 0;have c1:=N1.cell 1;have c2:=N1.cell 2;have E1:=D1.alloc (.cells (tC (.slice A7 Q.length c7) st false) 165);have E2:=D2.alloc (.cells (tC (.slice A7 Q.length c7) st false) 165);have d0:=E2.cell 0;have d1:=E2.cell 1;have d2:=E2.cell 2;have g0:=E2.frozen 0;have g1:=E2.frozen 1;have g2:=E2.frozen 2;have b0:=E1.cell 0;have b1:=E1.cell 1;have b2:=E1.cell 2;have o8:=o7.alloc (.cells (tC (.slice A7 Q.length c7) st false) 165);have tx8:=tx7.alloc hb (.cells (tC (.slice A7 Q.length c7) st false) 165);simp only [tC,La,Lb,Lc] at c0 c1 c2 d0 d1 d2 b0 b1 b2;clear HAx B1 B2 ox tx bg7 hs7 o7 tx7 D1 D2 N1 E1
         cases ok with
         | false =>
          rw [if_neg L1] at e0;have R:=TX.copy (v:=.slice A6 O.length c6) (st':=st) (j':=J) E2 o8 hs8 tx8 hb;go_wp2;exact bodyPost_ret (vG rfl _ _ (w.heap.size+1) 165 _ (0,0) _ rfl R.1 underlying165 rfl qy) rfl (by rw [e0.out];exact ⟨_,_,_,_,_,rfl,R.2.2⟩)
         | true =>
          rw [if_pos rfl] at e0;have R:=TX.copy (v:=.slice A7 Q.length c7) (st':=st) (j':=false) E2 o8 hs8 tx8 hb;go_wp2;exact bodyPost_ret (vG rfl _ _ (w.heap.size+1) 165 _ (0,0) _ rfl R.1 underlying165 rfl qy) rfl (by rw [e0.out];exact ⟨A7,c7,m,hm0,hml,rfl,rfl,R.2.1,R.2.2,hs8⟩)
        | none =>
         as_aux_lemma =>
         have eT:RES=kD ⟨l,O,st,J⟩:=by
          rw [hRES.out];exact rp_amt HL.out hs0.out HJ.out HC.out HCs.out hlt' hd (by rw [<- HL.out];exact hcw)
         rw [hcw] at HCh;simp only [qmb] at HCh;have HNm:Hid (∀ A6 c6 w2 (hw:Below base w w2) (ox:w2.ownsRow base 64 3 (.slice A6 O.length c6) O.length (qi O)),Calls prog 147 #[.agg (tC (.slice A6 O.length c6) st J),.slice (some ⟨b,o,none⟩) nw cw] w2 (PRes base (.slice A6 O.length c6) w2 l RES)):=Lh fun A6 c6 w2 hw ox=>by
          rw [eT];exact rnum O st J l ho A6 c6 base w2 (Lj hb hw.size) ox _ nw cw (HW.out.below hw) hot
         clear eT hot hcw hlt hlt' hRd0 hRES HL HW hd
         go_upto_region 33 with (go_at_call 145;refine (HCh.out _ hT.bel).mono ?_;rintro e w4 ⟨rfl,hb4⟩)
         replace hT:=hT.below hb4 hb;clear hb4 ca;obtain ⟨A6,c6,B1,B2,ox,hs6,tx⟩:=hT;have HNx:=Lh (HNm.out A6 c6 w4 tx.1 ox);have c0:=B1.cell 0;have c1:=B1.cell 1;have c2:=B1.cell 2;have d0:=B2.cell 0;have d1:=B2.cell 1;have d2:=B2.cell 2;have f0:=B1.frozen 0;have f2:=B1.frozen 2;have g0:=B2.frozen 0;have g1:=B2.frozen 1;have g2:=B2.frozen 2;simp only [tC,La,Lb,Lc] at c0 c1 c2 d0 d1 d2;clear HNm HCh
         cases RES with
         | none =>
          go_wp2_with (go_at_call 147;refine HNx.out.mono ?_;rintro e w5 ⟨A',m',c',st',j',rfl,bg7⟩;clear c0 c1 c2 d0 d1 d2 f0 f2 g0 g1 g2;have D2:=B2.grown bg7.2 (qh7 fun k hk=>(hs6.ne k hk).2);have d0:=D2.cell 0;have d1:=D2.cell 1;have d2:=D2.cell 2;have g0:=D2.frozen 0;have g1:=D2.frozen 1;have g2:=D2.frozen 2;simp only [tC,La,Lb,Lc] at d0 d1 d2;simp only [tC])
          have R:=TX.copy0 (v:=.slice A' m' c') (st':=st') (j':=j') D2 (tx.grown bg7.1 bg7.2 hs6) hb;exact bodyPost_ret (vG rfl _ _ (w.heap.size+1) 165 _ (0,0) _ rfl R.1 underlying165 rfl qy) rfl ⟨_,_,_,_,_,rfl,R.2⟩
         | some q =>
          go_wp2_with (go_at_call 147;refine HNx.out.mono ?_;rintro e w5 ⟨A7,c7,n,hn0,hn1,hqw,rfl,o7,bg7,hs7⟩;clear c0 c1 c2 d0 d1 d2 f0 f2 g0 g1 g2;obtain ⟨D1,D2,tx7,hs8⟩:=TX.call B1 B2 hs6 tx bg7 hs7;have d0:=D2.cell 0;have d1:=D2.cell 1;have d2:=D2.cell 2;have g0:=D2.frozen 0;have g1:=D2.frozen 1;have g2:=D2.frozen 2;simp only [tC,La,Lb,Lc] at d0 d1 d2;simp only [tC])
          have R:=TX.copy (v:=.slice A7 q.out.length c7) (st':=q.style) (j':=q.joins) D2 o7 hs8 tx7 hb;exact bodyPost_ret (vG rfl _ _ (w.heap.size+1) 165 _ (0,0) _ rfl R.1 underlying165 rfl qy) rfl ⟨A7,c7,n,hn0,hn1,hqw,rfl,R.2.1,R.2.2,hs8⟩
end Go.Proofs.YtbogmeeijdaijaaGreatDoor
