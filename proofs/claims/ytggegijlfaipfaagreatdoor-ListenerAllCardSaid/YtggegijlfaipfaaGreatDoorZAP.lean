/- Joined: Vd2, Ur5, Vd3, Vd4. -/
import Derived.StillTailTactics
import Derived.Test.YtggegijlfaipfaaGreatDoorZAO
set_option linter.unusedVariables false
set_option linter.unusedSimpArgs false
set_option linter.unnecessarySimpa false
set_option maxHeartbeats 8000000
namespace Go.Proofs.YtggegijlfaipfaaGreatDoor
open Go.Proofs.Tryz Go.RowKit
set_option maxRecDepth 20000
def TxEnd (w:World) (B:Nat) (r:Option (List Gl × List ByteArray)) (e:Ending) (w':World):Prop:=∃ Ag G cap A n c l bad,e = .returned (.tuple #[.slice Ag (List.length G) cap,.agg #[.slice A n c,.bool (!bad)]])/\w'.ownsRow w.heap.size 61 3 (.slice Ag G.length cap) G.length (qi G)/\WdR w' B l A n c/\r.map (·.2)=y7 bad l/\Below w.heap.size w w'/\(r.map (·.1)).getD []=G
theorem ttext_ (r:Option (List ByteArray)) (v:Value) (B:Nat) (w:World) (h:TV w B r v) (hB:B<=w.heap.size) (hl : ∀ l,r=some l->l.length<=1000) (hr:r≠none) (ht:Tb w) :
  Calls prog 84 #[v] w (TxEnd w B (r.bind qae)):=by
 obtain ⟨A,n,c,l,bad,rfl,hW,rfl⟩:=h
 cases bad with
 | true=>exact absurd rfl hr
 | false =>
  have hl':=hl l rfl;obtain ⟨R,hR⟩ : ∃ x,x=(y7 false l).bind qae:=⟨_,rfl⟩
  rw [<- hR];have HT:=Lh ht;have H0:Hid (R=qaF l ((zx false (l.drop 0)).map (· + 0))):=Lh (by rw [hR];show qae l=_;rw [qka];simp);clear hR hl hr ht
  go_enter func84,ntmps84
  go_upto_region 1 with fail
  refine qa (TVX w false A n c) (TVX.new w false A n c) ?_;intro X hX;go_wp2
  go_loopw [4] (fun x wr=>∃ (k:Nat),k<=l.length+1/\x = .int .i64 k/\TVX w false A n c wr/\Hid (R=qaF l ((zx false (l.drop k)).map (· + k)))) (fun x _=>l.length+1-(intOf x).toNat)
  case atStart=>exact ⟨0,by omega,rfl,hX,H0⟩
  case round =>
   clear hX H0;obtain ⟨k,hk,rfl,hX,HK⟩:=hrel;obtain ⟨B1,B2,tx⟩:=id hX;obtain ⟨c0,c1,f0,f1⟩:=vN B1;obtain ⟨d0,d1,g0,g1⟩:=vN B2;have z1:=B2.lt;have z0:=B1.lt;have hln:=hW.len
   by_cases hlt:k<n
   ·have hkl:k<l.length:=by omega
    have hki:(k:Int)<n:=by omega
    obtain ⟨bw,ow,rfl,hbw,hcw⟩:=hW.rd.at_ hlt;rw [yM _ _ hkl] at hcw;replace hcw:=(tx.cell (p:=⟨bw,ow+k,none⟩) L7).trans hcw
    by_cases hwd:l[k]=vD
    ·as_aux_lemma =>
     have HK2:Hid (R=qaF l ((zx false (l.drop (k+2))).map (· + (k+2)))):=Lh (by rw [HK.out,qms hkl hwd,Option.map_map];congr 2;funext i;show i+2+k=i+(k+2);omega);have q1:(l[k].toList==[119,111,114,100])=true:=qmm hwd;generalize l[k]=s at *
     clear HK hwd hW;go_wp2;exact ⟨⟨k+2,by omega,by go_num,hX,HK2⟩,by simp [intOf];omega⟩
    ·by_cases hst:l[k]=vF
     ·have HK2:Hid (R=qaF l (some k)):=Lh (by rw [HK.out,qmo hkl hst];simp);have q1:(l[k].toList==[119,111,114,100])=false:=qit hwd;have q2:(l[k].toList==[115,116,111,112])=true:=qmr hst;generalize l[k]=s at *
      have hcap:=hW.cap;have hmax:=hW.max;have htk:Rd wr wr.heap.size 1 (some ⟨bw,ow,none⟩) k (sv (l.take k)):=by
       have:=((hW.rd.below (tx.mono hB)).more (Lj hB tx.size)).take (k:=k) L0
       rwa [show (sv l).take (k * 1)=sv (l.take k) by simp [sv]] at this
      have HG:=Lh (rglyphs (l.take k) (some ⟨bw,ow,none⟩) k c wr (by rw [Lu];omega) L0 hmax htk (fun s hs=>hW.sz s (List.mem_of_mem_take hs)) (by rw [Lu];omega) (HT.out.below tx));have i1:(k:Int)<=c:=by omega
      have i2:(k:Int)+1<=n:=by omega
      have i3:(k:Int)+1<=c:=by omega
      have i4:(c:Int)<=9223372036854775807:=by unfold maxLen at hmax;omega
      have i0:(0:Int)<=k:=by omega
      have i5:(0:Int)<=(k:Int)+1:=by omega
      have hwr:IntKind.i64.wrap ((k:Int)+1)=(k:Int)+1:=by rw [Lx];omega
      have HC1:=Lh (fun h:c=k+1=>hW.cut1 (k:=k+1) L0 h);have HC2:=Lh (fun h : ¬ c=k+1=>hW.cut2 (k:=k+1) L0 h);clear HK hst hwd htk hW hX
      have HO:Hid (R=(kC (l.take k)).bind fun G=>match G with
        | g::gs=>some (g::gs,l.drop (k+1))
        | _=>none):=Lh (by rw [HK2.out];simp only [qaF,Option.bind_some];cases kC (l.take k) with
        | none=>rfl
        | some G=>cases G <;> rfl)
      clear HK2;obtain ⟨G,e5,HG2,HO2⟩ : ∃ (G:List Gl) (e5:Int),Hid (∀ Q:Ending->World->Prop,(∀ A1 c1 w1,Below wr.heap.size wr w1->w1.ownsRow wr.heap.size 61 3 (.slice A1 G.length c1) G.length (qi G)->Q (.returned (.tuple #[.slice A1 G.length c1,.int .i64 e5])) w1)->Calls prog 104 #[.slice (some ⟨bw,ow,none⟩) k c] wr Q)/\Hid (R.map (·.2)=y7 (!(e5==0&&decide ((G.length:Int) > 0))) (l.drop (k+1))/\(R.map (·.1)).getD []=G):=by
       cases hg:kC (l.take k) with
       | none =>
        have h:=HG.out;rw [hg] at h;refine ⟨[],17,Lh fun Q hQ=>h.mono ?_,Lh (by rw [HO.out,hg];exact ⟨rfl,rfl⟩)⟩;rintro e w1 ⟨hb1,rfl⟩;exact hQ none 0 w1 hb1 (zY _ _ _ _)
       | some G =>
        have h:=HG.out;rw [hg] at h
        refine ⟨G,0,Lh fun Q hQ=>h.mono ?_,Lh (by rw [HO.out,hg];cases G with
         | nil=>exact ⟨rfl,rfl⟩
         | cons g gs=>exact ⟨by simp [y7],rfl⟩)⟩
        rintro e w1 ⟨hb1,A1,c1,rfl,ho⟩;exact hQ A1 c1 w1 hb1 ho
      clear HG HO
      go_upto_region 8 with (go_at_call 104;refine HG2.out _ ?_;rintro A1 c1' w1 hb1 qnx;(clear c0 c1 d0 d1 f0 f1 g0 g1;have C1:=B1.below hb1 B1.lt;have C2:=B2.below hb1 B2.lt;obtain ⟨c0,c1,f0,f1⟩:=vN C1;obtain ⟨d0,d1,g0,g1⟩:=vN C2))
      have tx1:=tx.trans (hb1.mono L0);have e1:IntKind.i64.wrap ((k:Int)+1)=(k:Int)+1:=hwr
      by_cases h5:e5=0
      ·by_cases hgl0:G.length=0
       ·have HO3:Hid (R.map (·.2)=y7 (!false) (l.drop (k+1))/\(R.map (·.1)).getD []=G):=Lh (by have:=HO2.out;rw [h5,hgl0] at this;exact this);have hg1 : ¬ 0<G.length:=by omega
        have h5b:(e5==0)=true:=by simp [h5]
        clear HO2 HG2 h5 hgl0
        by_cases hck:c=k+1
        ·as_aux_lemma =>
         have hcut:=HC1.out hck;subst hck;obtain rfl:n=k+1:=by omega
         clear HC1 HC2 i4 i3;have Rr:=vd (a':=.slice (some ⟨bw,ow,none⟩) 0 0) (b':=.bool false) C2;have tz:=(tx1.setCell (p:=⟨w.heap.size+1,0,none⟩) L7 (.slice (some ⟨bw,ow,none⟩) 0 0)).setCell (p:=⟨w.heap.size+1,1,none⟩) L7 (.bool false);have Rd:=Rr.drew;have td:=tz.drew
         go_region
         all_goals go_wp2
         all_goals exact bodyPost_ret (zn rfl _ _ (w.heap.size+1) 107 _ (0,0) _ rfl Rd underlying107 rfl qr) rfl ⟨A1,G,c1',_,_,_,_,!false,rfl,qt (base:=wr.heap.size) (qb (zZ (zZ qnx L7 _) L7 _) (Le _ _).drew) L0,hcut.below (td.mono hB),HO3.out.1,td,HO3.out.2⟩
        ·as_aux_lemma =>
         have hcut:=HC2.out hck;clear HC1 HC2;have Rr:=vd (a':=.slice (some ⟨bw,ow+(k+1),none⟩) (n-(k+1)) (c-(k+1))) (b':=.bool false) C2;have tz:=(tx1.setCell (p:=⟨w.heap.size+1,0,none⟩) L7 (.slice (some ⟨bw,ow+(k+1),none⟩) (n-(k+1)) (c-(k+1)))).setCell (p:=⟨w.heap.size+1,1,none⟩) L7 (.bool false);have Rd:=Rr.drew;have td:=tz.drew
         go_region
         all_goals go_wp2
         all_goals exact bodyPost_ret (zn rfl _ _ (w.heap.size+1) 107 _ (0,0) _ rfl Rd underlying107 rfl qr) rfl ⟨A1,G,c1',_,_,_,_,!false,rfl,qt (base:=wr.heap.size) (qb (zZ (zZ qnx L7 _) L7 _) (Le _ _).drew) L0,hcut.below (td.mono hB),HO3.out.1,td,HO3.out.2⟩
       ·have HO3:Hid (R.map (·.2)=y7 (!true) (l.drop (k+1))/\(R.map (·.1)).getD []=G):=Lh (by have:=HO2.out;rw [h5,show decide ((G.length:Int) > 0)=true from Ll L0] at this;exact this);have hg1:0<G.length:=by omega
        have h5b:(e5==0)=true:=by simp [h5]
        clear HO2 HG2 h5 hgl0
        by_cases hck:c=k+1
        ·as_aux_lemma =>
         have hcut:=HC1.out hck;subst hck;obtain rfl:n=k+1:=by omega
         clear HC1 HC2 i4 i3;have Rr:=vd (a':=.slice (some ⟨bw,ow,none⟩) 0 0) (b':=.bool true) C2;have tz:=(tx1.setCell (p:=⟨w.heap.size+1,0,none⟩) L7 (.slice (some ⟨bw,ow,none⟩) 0 0)).setCell (p:=⟨w.heap.size+1,1,none⟩) L7 (.bool true);have Rd:=Rr.drew;have td:=tz.drew
         go_region
         all_goals go_wp2
         all_goals exact bodyPost_ret (zn rfl _ _ (w.heap.size+1) 107 _ (0,0) _ rfl Rd underlying107 rfl qr) rfl ⟨A1,G,c1',_,_,_,_,!true,rfl,qt (base:=wr.heap.size) (qb (zZ (zZ qnx L7 _) L7 _) (Le _ _).drew) L0,hcut.below (td.mono hB),HO3.out.1,td,HO3.out.2⟩
        ·as_aux_lemma =>
         have hcut:=HC2.out hck;clear HC1 HC2;have Rr:=vd (a':=.slice (some ⟨bw,ow+(k+1),none⟩) (n-(k+1)) (c-(k+1))) (b':=.bool true) C2;have tz:=(tx1.setCell (p:=⟨w.heap.size+1,0,none⟩) L7 (.slice (some ⟨bw,ow+(k+1),none⟩) (n-(k+1)) (c-(k+1)))).setCell (p:=⟨w.heap.size+1,1,none⟩) L7 (.bool true);have Rd:=Rr.drew;have td:=tz.drew
         go_region
         all_goals go_wp2
         all_goals exact bodyPost_ret (zn rfl _ _ (w.heap.size+1) 107 _ (0,0) _ rfl Rd underlying107 rfl qr) rfl ⟨A1,G,c1',_,_,_,_,!true,rfl,qt (base:=wr.heap.size) (qb (zZ (zZ qnx L7 _) L7 _) (Le _ _).drew) L0,hcut.below (td.mono hB),HO3.out.1,td,HO3.out.2⟩
      ·have h5b:(e5==0)=false:=Lm.2 h5;have HO3:Hid (R.map (·.2)=y7 (!false) (l.drop (k+1))/\(R.map (·.1)).getD []=G):=Lh (by have:=HO2.out;rw [h5b] at this;exact this);clear HO2 HG2 h5
       by_cases hck:c=k+1
       ·as_aux_lemma =>
        have hcut:=HC1.out hck;subst hck;obtain rfl:n=k+1:=by omega
        clear HC1 HC2 i4 i3;have Rr:=vd (a':=.slice (some ⟨bw,ow,none⟩) 0 0) (b':=.bool false) C2;have tz:=(tx1.setCell (p:=⟨w.heap.size+1,0,none⟩) L7 (.slice (some ⟨bw,ow,none⟩) 0 0)).setCell (p:=⟨w.heap.size+1,1,none⟩) L7 (.bool false);have Rd:=Rr.drew;have td:=tz.drew
        go_region
        all_goals go_wp2
        all_goals exact bodyPost_ret (zn rfl _ _ (w.heap.size+1) 107 _ (0,0) _ rfl Rd underlying107 rfl qr) rfl ⟨A1,G,c1',_,_,_,_,!false,rfl,qt (base:=wr.heap.size) (qb (zZ (zZ qnx L7 _) L7 _) (Le _ _).drew) L0,hcut.below (td.mono hB),HO3.out.1,td,HO3.out.2⟩
       ·as_aux_lemma =>
        have hcut:=HC2.out hck;clear HC1 HC2;have Rr:=vd (a':=.slice (some ⟨bw,ow+(k+1),none⟩) (n-(k+1)) (c-(k+1))) (b':=.bool false) C2;have tz:=(tx1.setCell (p:=⟨w.heap.size+1,0,none⟩) L7 (.slice (some ⟨bw,ow+(k+1),none⟩) (n-(k+1)) (c-(k+1)))).setCell (p:=⟨w.heap.size+1,1,none⟩) L7 (.bool false);have Rd:=Rr.drew;have td:=tz.drew
        go_region
        all_goals go_wp2
        all_goals exact bodyPost_ret (zn rfl _ _ (w.heap.size+1) 107 _ (0,0) _ rfl Rd underlying107 rfl qr) rfl ⟨A1,G,c1',_,_,_,_,!false,rfl,qt (base:=wr.heap.size) (qb (zZ (zZ qnx L7 _) L7 _) (Le _ _).drew) L0,hcut.below (td.mono hB),HO3.out.1,td,HO3.out.2⟩
     ·as_aux_lemma =>
      have HK2:Hid (R=qaF l ((zx false (l.drop (k+1))).map (· + (k+1)))):=Lh (by rw [HK.out,qml hkl hwd hst,Option.map_map];congr 2;funext i;show i+1+k=i+(k+1);omega);have q1:(l[k].toList==[119,111,114,100])=false:=qit hwd;have q2:(l[k].toList==[115,116,111,112])=false:=qmj hst;generalize l[k]=s at *
      clear HK hwd hst hW;go_wp2;exact ⟨⟨k+1,by omega,by go_num,hX,HK2⟩,by simp [intOf];omega⟩
   ·as_aux_lemma =>
    have HE:Hid (R=none):=Lh (by rw [HK.out,Lv L0];rfl);have hki : ¬ (k:Int)<n:=by omega
    have C2:=B2;clear HK hX;go_wp2;have Rr:=vd (a':=.slice none 0 0) (b':=.bool false) C2;have tz:=(tx.setCell (p:=⟨w.heap.size+1,0,none⟩) L7 (.slice none 0 0)).setCell (p:=⟨w.heap.size+1,1,none⟩) L7 (.bool false);exact bodyPost_ret (zn rfl _ _ (w.heap.size+1) 107 _ (0,0) _ rfl Rr underlying107 rfl qr) rfl ⟨none,[],0,none,0,0,[],true,rfl,zY _ _ _ _,WdR.nil _ B,by rw [HE.out];rfl,tz,by rw [HE.out];rfl⟩
def LenR (r:Option (List ByteArray)):Prop:=∀ l,r=some l->l.length<=850000
theorem LenR.sk {r:Option (List ByteArray)} (h:LenR r) (s:ByteArray):LenR (r.bind (skO s)):=by
 intro l hl
 cases r with
 | none=>cases hl
 | some x =>
  cases x with
  | nil=>cases hl
  | cons a t =>
   have:=h _ rfl;simp only [Option.bind_some,skO] at hl
   split at hl
   ·cases hl
    simp at this
    omega
   ·cases hl
theorem LenR.num {r:Option (List ByteArray)} (h:LenR r):LenR (qN r).2:=by
 intro l hl
 cases r with
 | none=>cases hl
 | some x =>
  have:=h _ rfl;unfold qN at hl;simp only [Option.bind_some,kU] at hl
  cases hp:prefixL x with
  | none=>rw [hp] at hl;cases hl
  | some y =>
   rw [hp] at hl
   cases hl
   rw [List.length_drop]
   omega
theorem kd (r:Option (List ByteArray)) : -999999999<=(qN r).1/\(qN r).1<=999999999:=by
 cases r with
 | none=>exact ⟨by decide,by decide⟩
 | some x =>
  unfold qN;simp only [Option.bind_some,kU]
  cases hp:prefixL x with
  | none=>exact (show (-999999999:Int)<=0/\(0:Int)<=999999999 by decide)
  | some y =>
   obtain ⟨n,k⟩:=y;obtain ⟨_,_,_,hn,_⟩:=zF hp;have:=vp hn;exact ⟨this.1,this.2.1⟩
def qkY (r:Option (List ByteArray)):List Gl × Option (List ByteArray):=match r.bind qae with
 | some (G,t)=>(G,some t)
 | none=>([],none)
def delP (r:Option (List ByteArray)):Int × Option (List ByteArray):=if qX r q9=true then ((qN (r.bind (skO q9))).1,if (qN (r.bind (skO q9))).1<1 then none else (qN (r.bind (skO q9))).2) else (0,r)
def zH (r:Option (List ByteArray)):List Gl × Option (List ByteArray):=if qX r qK=true then qkY (r.bind (skO qK)) else ([],r)
def qbN (r:Option (List ByteArray)):Chg × Option (List ByteArray) :=
 (⟨3,(qN (r.bind (skO qI))).1-1,(qN ((qN (r.bind (skO qI))).2.bind (skO qO))).1-1,(delP (qN ((qN (r.bind (skO qI))).2.bind (skO qO))).2).1,0,(zH (delP (qN ((qN (r.bind (skO qI))).2.bind (skO qO))).2).2).1⟩,(zH (delP (qN ((qN (r.bind (skO qI))).2.bind (skO qO))).2).2).2)
theorem CS.start {w:World} {B:Nat} {A:Option Addr} {n c:Nat} {l:List ByteArray} (k:Int) (hW:WdR w B l A n c) (hB:B<=w.heap.size) :
  CS w B (some l) ⟨k,0,0,0,0,[]⟩ none 0 ((((w.alloc (.cells #[.slice A n c,.bool false] 84)).alloc (.cells (yG ⟨0,0,0,0,0,[]⟩ none 0) 71)).alloc (.cells #[.slice none 0 0,.bool false] 84)).alloc (.cells (yG ⟨k,0,0,0,0,[]⟩ none 0) 71)):=by
 have tb:Below w.heap.size w ((((w.alloc (.cells #[.slice A n c,.bool false] 84)).alloc (.cells (yG ⟨0,0,0,0,0,[]⟩ none 0) 71)).alloc (.cells #[.slice none 0 0,.bool false] 84)).alloc (.cells (yG ⟨k,0,0,0,0,[]⟩ none 0) 71)) :=
  (((L5).alloc L1 _).alloc (by simp;omega) _).alloc (by simp;omega) _
 exact ⟨A,n,c,l,false,rfl,hW.below (tb.mono hB),(((Blk.new w _ _).alloc _).alloc _).alloc _,((Blk.new_ L1).alloc _).alloc _,(Blk.new_ L1).alloc _,Blk.new_ L1,tb,zY _ _ _ _⟩
theorem usplice_ (l:List ByteArray) (A:Option Addr) (n c:Nat) (w:World) (B:Nat) (hW:WdR w B l A n c) (hB:B<=w.heap.size) (hl:l.length<=850000) (hs:Sp w) (hu:U8 w) (hy:Sty w) :
  Calls prog 69 #[.agg #[.slice A n c,.bool false]] w (CRet w B (qbN (some l)).1 (qbN (some l)).2):=by
 obtain ⟨R,hR⟩ : ∃ x,x=qbN (some l):=⟨_,rfl⟩
 rw [<- hR];have HR:=Lh hR;have HL:Hid (LenR (some l)):=Lh fun _ e=>by cases e;exact hl
 have HS:Hid (Sp w/\U8 w/\Sty w):=Lh ⟨hs,hu,hy⟩;have hX:=CS.start 3 hW hB;clear hW hR hl hs hu hy
 go_enter func69,ntmps69
 go_upto_region 2 with fail
 refine qa (CS w B (some l) ⟨3,0,0,0,0,[]⟩ none 0) hX ?_;clear hX;intro X hX;obtain ⟨x,hx⟩ : ∃ x,Hid (x=qN ((some l).bind (skO qI))):=⟨_,Lh rfl⟩
 obtain ⟨y,hy⟩ : ∃ y,Hid (y=qN (x.2.bind (skO qO))):=⟨_,Lh rfl⟩
 obtain ⟨A',n',c',bad',c0,c1,HA0⟩:=CS.af_ hX hB qI 1 L2 hx;have HA:=Lh HA0;clear HA0
 go_upto_region 3 with (go_at_call 67;refine HA.out.mono ?_;rintro e w1 ⟨A1,n1,cc1,qmK,v1,rfl,d0,d1,f0,f1,k0,p0,hY⟩)
 refine qa (CS w B x.2 ⟨3,x.1,0,0,0,[]⟩ none 0) hY ?_;clear hY hX HA c0 c1 d0 d1 f0 f1 k0 p0;intro X hX;obtain ⟨A',n',c',bad',c0,c1,HA0⟩:=CS.af_ hX hB qO 2 L2 hy;have HA:=Lh HA0;clear HA0
 go_upto_region 4 with (go_at_call 67;refine HA.out.mono ?_;rintro e w1 ⟨A1,n1,cc1,qmK,v1,rfl,d0,d1,f0,f1,k0,p0,hY⟩)
 refine qa (CS w B y.2 ⟨3,x.1,y.1,0,0,[]⟩ none 0) hY ?_;clear hY hX HA c0 c1 d0 d1 f0 f1 k0 p0;intro X hX;obtain ⟨z,hz⟩ : ∃ z,Hid (z=delP y.2):=⟨_,Lh rfl⟩
 obtain ⟨g,hg⟩ : ∃ g,Hid (g=zH z.2):=⟨_,Lh rfl⟩
 have HR2:Hid (R=(⟨3,x.1-1,y.1-1,z.1,0,g.1⟩,g.2)):=Lh (by rw [HR.out,hg.out,hz.out,hy.out,hx.out];rfl);have HLy:Hid (LenR y.2):=Lh (by rw [hy.out];exact LenR.num (LenR.sk (by rw [hx.out];exact LenR.num (LenR.sk HL.out _)) _));have hxr : -999999999<=x.1/\x.1<=999999999:=by rw [hx.out];exact kd _
 have hyr : -999999999<=y.1/\y.1<=999999999:=by rw [hy.out];exact kd _
 clear HR hx hy HL;obtain ⟨xn,xr⟩:=x;obtain ⟨yn,yr⟩:=y;simp only at hxr hyr HR2 HLy hz;obtain ⟨A',n',c',l',bad',hr',hW,R1,R2,R3,R4,tx,hO⟩:=id hX;obtain ⟨c0,c1,f0,f1⟩:=vN R1;obtain ⟨k0,k1,k2,k3,k4,k5,p0,p1,p2,p3,p4,p5⟩:=qV R4;dsimp only at k0 k1 k2 k3 k4 k5;have e1:IntKind.i64.wrap (xn-1)=xn-1:=by rw [Lx];omega
 have e2:IntKind.i64.wrap (yn-1)=yn-1:=by rw [Lx];omega
 go_upto_region 5 with fail
 refine qa (CS w B yr ⟨3,xn-1,yn-1,0,0,[]⟩ none 0) ((hX.set_ hB 1 (xn-1) L2).set_ hB 2 (yn-1) L2) ?_;clear hX;clear c0 c1 f0 f1 k0 k1 k2 k3 k4 k5 p0 p1 p2 p3 p4 p5 hr' hW R1 R2 R3 R4 tx hO;intro X hX;generalize xn-1=Row at *
 generalize yn-1=Col at *
 obtain ⟨A',n',c',bad',c0,c1,HN0⟩:=CS.nx_ hX hB q9;have HN:=Lh HN0;clear HN0;obtain ⟨b,hb⟩ : ∃ b,Hid (b=qX yr q9):=⟨_,Lh rfl⟩
 rw [<- hb.out] at HN
 go_upto_if 29 with (go_at_call 40;refine HN.out.mono ?_;rintro e w1 ⟨rfl,hY⟩)
 refine qa (CS w B yr ⟨3,Row,Col,0,0,[]⟩ none 0) hY ?_;clear hY hX HN c0 c1;intro X hX
 go_cut [] (fun wx=>CS w B z.2 ⟨3,Row,Col,z.1,0,[]⟩ none 0 wx)
 case first =>
  clear HR2 HLy hg
  cases b with
  | false =>
   have hz2:Hid (z=(0,yr)):=Lh (by rw [hz.out];show (if qX yr q9=true then _ else _)=_;rw [<- hb.out];rfl);clear hz hb;go_wp2;go_meet;rw [hz2.out];exact hX
  | true =>
   obtain ⟨u,hu⟩ : ∃ u,Hid (u=qN (yr.bind (skO q9))):=⟨_,Lh rfl⟩
   have hz2:Hid (z=(u.1,if u.1<1 then none else u.2)):=Lh (by rw [hz.out,hu.out];show (if qX yr q9=true then _ else _)=_;rw [<- hb.out];rfl);clear hz hb;obtain ⟨A',n',c',bad',c0,c1,HA0⟩:=CS.af_ hX hB q9 3 L2 hu;have HA:=Lh HA0;clear HA0
   go_upto_region 7 with (go_at_call 67;refine HA.out.mono ?_;rintro e w1 ⟨A1,n1,cc1,qmK,v1,rfl,d0,d1,f0,f1,k0,p0,hY⟩)
   refine qa (CS w B u.2 ⟨3,Row,Col,u.1,0,[]⟩ none 0) hY ?_;clear hY hX HA c0 c1 d0 d1 f0 f1 k0 p0;intro X hX;obtain ⟨A',n',c',l',bad',hr',hW,R1,R2,R3,R4,tx,hO⟩:=id hX;obtain ⟨c0,c1,f0,f1⟩:=vN R1;obtain ⟨k0,k1,k2,k3,k4,k5,p0,p1,p2,p3,p4,p5⟩:=qV R4;dsimp only at k0 k1 k2 k3 k4 k5
   by_cases hlt:u.1<1
   ·go_wp2;go_meet;rw [hz2.out,if_pos hlt];exact hX.spoil hB
   ·go_wp2;go_meet;rw [hz2.out,if_neg (show ¬ u.1<1 by omega)];exact hX
 case rest =>
  clear hX;have hX:=hcut
  have HLz:Hid (LenR z.2):=Lh (by
   rw [hz.out];unfold delP
   split
   ·show LenR (if _ then none else _)
    split
    ·intro _ h;cases h
    ·exact LenR.num (LenR.sk HLy.out _)
   ·exact HLy.out)
  clear hcut hz hb HLy;obtain ⟨Z,zr⟩:=z;simp only at HLz HR2 hg;generalize hXw:wc=X at *
  clear hXw;obtain ⟨A',n',c',bad',c0,c1,HN0⟩:=CS.nx_ hX hB qK;have HN:=Lh HN0;clear HN0;obtain ⟨b2,hb2⟩ : ∃ b,Hid (b=qX zr qK):=⟨_,Lh rfl⟩
  rw [<- hb2.out] at HN
  go_upto_if 42 with (go_at_call 40;refine HN.out.mono ?_;rintro e w1 ⟨rfl,hY⟩)
  refine qa (CS w B zr ⟨3,Row,Col,Z,0,[]⟩ none 0) hY ?_;clear hY hX HN c0 c1;intro X hX
  go_cut [] (fun wx=>∃ Ag cap,CS w B g.2 ⟨3,Row,Col,Z,0,g.1⟩ Ag cap wx)
  case first =>
   clear HR2
   cases b2 with
   | false =>
    have hg2:Hid (g=([],zr)):=Lh (by rw [hg.out];show (if qX zr qK=true then _ else _)=_;rw [<- hb2.out];rfl);clear hg hb2;go_wp2;go_meet;rw [hg2.out];exact ⟨_,_,hX⟩
   | true =>
    obtain ⟨u,hu⟩ : ∃ u,Hid (u=zr.bind (skO qK)):=⟨_,Lh rfl⟩
    have hg2:Hid (g=qkY u):=Lh (by rw [hg.out,hu.out];show (if qX zr qK=true then _ else _)=_;rw [<- hb2.out];rfl);have HLu:LenR u:=by rw [hu.out];exact HLz.out.sk _
    clear hg hb2 HLz;obtain ⟨A',n',c',l',bad',hr',hW,R1,R2,R3,R4,tx,hO⟩:=id hX;obtain ⟨c0,c1,f0,f1⟩:=vN R1;obtain ⟨k0,k1,k2,k3,k4,k5,p0,p1,p2,p3,p4,p5⟩:=qV R4;dsimp only at k0 k1 k2 k3 k4 k5;have HK:=Lh (qev zr _ qK B X ⟨A',n',c',l',bad',rfl,hW,hr'⟩ (Lj hB tx.size));rw [<- hu.out] at HK;have HT:Hid (∀ (v':Value) (w':World),RV w' B u v'->Below w.heap.size w w'->Calls prog 91 #[v'] w' (TRet w' B (u.bind qae))):=Lh fun v' w' hv hb=>utext_ u v' B w' hv (Lj hB hb.size) HLu (HS.out.1.below hb (Ld _)) (HS.out.2.1.below hb) (HS.out.2.2.below hb (Ld _))
    clear HLu hu HS
    go_wp2_with (first
     | (go_at_call 68;refine HK.out.mono ?_;rintro e w1 ⟨A1,n1,cc1,l1,qmK,rfl,hW1,hr1,hb1⟩;have tx1:=tx.trans (hb1.mono (by have:=hX.size;omega)))
     | (go_at_call 91;refine (HT.out _ _ ⟨A1,n1,cc1,l1,qmK,rfl,hW1,hr1⟩ tx1).mono ?_;rintro e w2 ⟨A2,G,c2,v2,rfl,ho2,⟨A3,n3,c3,l3,bad3,rfl,hW3,hr3⟩,hb3,hG⟩;have hb4:=hb1.trans (hb3.mono hb1.size);have hY:=hX.below hB hb4;clear c0 c1 f0 f1 k0 k1 k2 k3 k4 k5 p0 p1 p2 p3 p4 p5 hr' hW R1 R2 R3 R4 tx hO;(obtain ⟨A',n',c',l',bad',hr',hW,R1,R2,R3,R4,tx,hO⟩:=id hY;obtain ⟨c0,c1,f0,f1⟩:=vN R1;obtain ⟨k0,k1,k2,k3,k4,k5,p0,p1,p2,p3,p4,p5⟩:=qV R4;dsimp only at k0 k1 k2 k3 k4 k5)))
    go_meet;have hgg:g=(G,(u.bind qae).map (·.2)):=by
     rw [hg2.out,qkY,<- hG]
     cases u.bind qae <;> rfl
    have hz1:=hX.size;have hz2:=hb1.size;have hXX:=(hY.glyphs hB (qt ho2 L0)).turn hB (hW3.below ((Le B w2).setCell (p:=⟨w.heap.size+3,5,none⟩) L7 (.slice A2 G.length c2))) hr3;exact ⟨A2,c2,by rw [hgg];exact hXX⟩
  case rest =>
   clear hX;obtain ⟨Ag,cap,hX⟩:=hcut;have HR3:Hid (R.1=⟨3,Row,Col,Z,0,g.1⟩/\R.2=g.2):=Lh (by rw [HR2.out];exact ⟨rfl,rfl⟩);clear HR2 hg hb2 HLz HS;generalize hXw:wc=X at *
   clear hXw;obtain ⟨G,gr⟩:=g
   go_upto_region 11 with fail
   obtain ⟨A',n',c',l',bad',hr',hW,R1,R2,R3,R4,tx,hO⟩:=id hX;obtain ⟨c0,c1,f0,f1⟩:=vN R1;obtain ⟨k0,k1,k2,k3,k4,k5,p0,p1,p2,p3,p4,p5⟩:=qV R4;dsimp only at k0 k1 k2 k3 k4 k5;obtain ⟨o0,o1,o2,o3,o4,o5,q0,q1,q2,q3,q4,q5⟩:=qV R2;obtain ⟨m0,m1,v0,v1⟩:=vN R3;dsimp only at o0 o1 o2 o3 o4 o5;have HF:=Lh (qaV hB hr' hW R2 R3 tx hO)
   go_region_law (fail)
   all_goals go_wp2
   all_goals rw [HR3.out.1,HR3.out.2]
   all_goals exact bodyPost_ret (jg rfl _ _ (w.heap.size+1) (w.heap.size+2) 71 84 _ _ (0,0) (0,0) _ _ rfl HF.out.1 underlying71 rfl yo rfl HF.out.2.1 underlying84 rfl zG) rfl ⟨_,_,_,rfl,HF.out.2.2.1,HF.out.2.2.2.1,HF.out.2.2.2.2⟩
def TS (w:World) (B:Nat) (r:Option (List ByteArray)) (c:Chg) (Ag:Option Addr) (cap:Nat) (X:World):Prop :=
 ∃ A n cc l bad,r=y7 bad l/\WdR X B l A n cc/\Blk X w.heap.size 107 #[.slice A n cc,.bool (!bad)]/\Blk X (w.heap.size+1) 71 (yG ⟨0,0,0,0,0,[]⟩ none 0)/\Blk X (w.heap.size+2) 107 #[.slice none 0 0,.bool false]/\Blk X (w.heap.size+3) 71 (yG c Ag cap)/\Below w.heap.size w X/\X.ownsRow (w.heap.size+4) 61 3 (.slice Ag c.glyphs.length cap) c.glyphs.length (qi c.glyphs)
theorem TS.size {w X:World} {B:Nat} {r:Option (List ByteArray)} {c:Chg} {Ag:Option Addr} {cap:Nat} (h:TS w B r c Ag cap X):w.heap.size+4<=X.heap.size:=by
 obtain ⟨A,n,cc,l,bad,h1,h2,h3,h4,h5,h6,h7,h8⟩:=h;have:=h6.lt
 omega
theorem TS.below {w X Y:World} {B:Nat} {r:Option (List ByteArray)} {c:Chg} {Ag:Option Addr} {cap:Nat} (h:TS w B r c Ag cap X) (hB:B<=w.heap.size) (hb:Below X.heap.size X Y):TS w B r c Ag cap Y:=by
 have hz:=h.size;obtain ⟨A,n,cc,l,bad,h1,h2,h3,h4,h5,h6,h7,h8⟩:=h;exact ⟨A,n,cc,l,bad,h1,h2.below (hb.mono L0),h3.below hb h3.lt,h4.below hb h4.lt,h5.below hb h5.lt,h6.below hb h6.lt,h7.trans (hb.mono L0),qb h8 hb⟩
theorem TS.drew {w X:World} {B:Nat} {r:Option (List ByteArray)} {c:Chg} {Ag:Option Addr} {cap:Nat} (h:TS w B r c Ag cap X) (hB:B<=w.heap.size):TS w B r c Ag cap X.drew:=h.below hB (Le _ _).drew
theorem TS.set_ {w X:World} {B:Nat} {r:Option (List ByteArray)} {c:Chg} {Ag:Option Addr} {cap:Nat} (h:TS w B r c Ag cap X) (hB:B<=w.heap.size) (i:Nat) (N:Int) (hi:i<5):TS w B r (c.put i N) Ag cap (X.setCell ⟨w.heap.size+3,i,none⟩ (.int .i64 N)):=by
 obtain ⟨A,n,cc,l,bad,h1,h2,h3,h4,h5,h6,h7,h8⟩:=h;refine ⟨A,n,cc,l,bad,h1,h2.below ((Le B X).setCell L7 _),h3.far L7 _,h4.far L7 _,h5.far L7 _,?_,h7.setCell L7 _,?_⟩
 ·have:=h6.set_ i (.int .i64 N)
  rwa [qls _ _ _ _ _ hi] at this
 ·rw [qhL];exact zZ h8 L7 _
theorem TS.turn {w X:World} {B:Nat} {r r':Option (List ByteArray)} {c:Chg} {Ag:Option Addr} {cap:Nat} {A:Option Addr} {n cc:Nat} {l:List ByteArray} {bad:Bool} (h:TS w B r c Ag cap X) (hB:B<=w.heap.size) (hW:WdR X B l A n cc) (hr:r'=y7 bad l) :
  TS w B r' c Ag cap ((X.setCell ⟨w.heap.size,0,none⟩ (.slice A n cc)).setCell ⟨w.heap.size,1,none⟩ (.bool (!bad))):=by
 obtain ⟨A0,n0,cc0,l0,bad0,h1,h2,h3,h4,h5,h6,h7,h8⟩:=h;exact ⟨A,n,cc,l,bad,hr,hW.below (((Le B X).setCell (p:=⟨w.heap.size,0,none⟩) hB _).setCell (p:=⟨w.heap.size,1,none⟩) hB _),vd h3,(h4.far (p:=⟨w.heap.size,0,none⟩) L7 _).far (p:=⟨w.heap.size,1,none⟩) L7 _,(h5.far (p:=⟨w.heap.size,0,none⟩) L7 _).far (p:=⟨w.heap.size,1,none⟩) L7 _,(h6.far (p:=⟨w.heap.size,0,none⟩) L7 _).far (p:=⟨w.heap.size,1,none⟩) L7 _,(h7.setCell (p:=⟨w.heap.size,0,none⟩) (Ld _) _).setCell (p:=⟨w.heap.size,1,none⟩) (Ld _) _,zZ (zZ h8 (p:=⟨w.heap.size,0,none⟩) L7 _) (p:=⟨w.heap.size,1,none⟩) L7 _⟩
theorem TS.glyphs {w X:World} {B:Nat} {r:Option (List ByteArray)} {c:Chg} {Ag:Option Addr} {cap:Nat} (h:TS w B r c Ag cap X) (hB:B<=w.heap.size) {G:List Gl} {A:Option Addr} {cp:Nat} (ho:X.ownsRow (w.heap.size+4) 61 3 (.slice A G.length cp) G.length (qi G)):TS w B r {c with glyphs:=G} A cp (X.setCell ⟨w.heap.size+3,5,none⟩ (.slice A G.length cp)):=by
 obtain ⟨A0,n,cc,l,bad,h1,h2,h3,h4,h5,h6,h7,h8⟩:=h;refine ⟨A0,n,cc,l,bad,h1,h2.below ((Le B X).setCell L7 _),h3.far L7 _,h4.far L7 _,h5.far L7 _,?_,h7.setCell L7 _,zZ ho L7 _⟩;have:=h6.set_ 5 (.slice A G.length cp);exact this
def qk2 (w X:World) (c:Chg) (Ag:Option Addr) (cap:Nat) (A:Option Addr) (n cc:Nat) (bad:Bool):World :=
 (((((((X.setCell ⟨w.heap.size+1,0,none⟩ (.int .i64 c.kind)).setCell ⟨w.heap.size+1,1,none⟩ (.int .i64 c.row)).setCell ⟨w.heap.size+1,2,none⟩ (.int .i64 c.col)).setCell ⟨w.heap.size+1,3,none⟩ (.int .i64 c.count)).setCell ⟨w.heap.size+1,4,none⟩ (.int .i64 c.til)).setCell ⟨w.heap.size+1,5,none⟩ (.slice Ag c.glyphs.length cap)).setCell ⟨w.heap.size+2,0,none⟩ (.slice A n cc)).setCell ⟨w.heap.size+2,1,none⟩ (.bool (!bad))
theorem fint_ {w X:World} {B:Nat} {c0:Chg} {A0:Option Addr} {cap0:Nat} {x y:Value} {r:Option (List ByteArray)} {c:Chg} {Ag:Option Addr} {cap:Nat} {A:Option Addr} {n cc:Nat} {l:List ByteArray} {bad:Bool} (hB:B<=w.heap.size) (hr:r=y7 bad l) (hW:WdR X B l A n cc) (R2:Blk X (w.heap.size+1) 71 (yG c0 A0 cap0)) (R3:Blk X (w.heap.size+2) 107 #[x,y]) (tx:Below w.heap.size w X) (hO:X.ownsRow (w.heap.size+4) 61 3 (.slice Ag c.glyphs.length cap) c.glyphs.length (qi c.glyphs)) :
  Blk (qk2 w X c Ag cap A n cc bad) (w.heap.size+1) 71 (yG c Ag cap)/\Blk (qk2 w X c Ag cap A n cc bad) (w.heap.size+2) 107 #[.slice A n cc,.bool (!bad)]/\WdR (qk2 w X c Ag cap A n cc bad) B l A n cc/\Below w.heap.size w (qk2 w X c Ag cap A n cc bad)/\(qk2 w X c Ag cap A n cc bad).ownsRow w.heap.size 61 3 (.slice Ag c.glyphs.length cap) c.glyphs.length (qi c.glyphs):=by
 have b6:=fun k (hk:k<=w.heap.size+1)=>qhB (X:=X) hk (.int .i64 c.kind) (.int .i64 c.row) (.int .i64 c.col) (.int .i64 c.count) (.int .i64 c.til) (.slice Ag c.glyphs.length cap)
 have b8 : ∀ k,k<=w.heap.size+1->Below k X (qk2 w X c Ag cap A n cc bad):=fun k hk=>((b6 k hk).setCell (p:=⟨w.heap.size+2,0,none⟩) L7 _).setCell (p:=⟨w.heap.size+2,1,none⟩) L7 _
 refine ⟨?_,?_,hW.below (b8 B L0),tx.trans (b8 _ L0),qt (base:=w.heap.size+4) ?_ L0⟩
 ·exact ((qmh R2).far (p:=⟨w.heap.size+2,0,none⟩) L7 _).far (p:=⟨w.heap.size+2,1,none⟩) L7 _
 ·have R3':=((((((R3.far (p:=⟨w.heap.size+1,0,none⟩) L7 (.int .i64 c.kind)).far (p:=⟨w.heap.size+1,1,none⟩) L7 (.int .i64 c.row)).far (p:=⟨w.heap.size+1,2,none⟩) L7 (.int .i64 c.col)).far (p:=⟨w.heap.size+1,3,none⟩) L7 (.int .i64 c.count)).far (p:=⟨w.heap.size+1,4,none⟩) L7 (.int .i64 c.til)).far (p:=⟨w.heap.size+1,5,none⟩) L7 (.slice Ag c.glyphs.length cap))
  exact vd R3'
 ·unfold qk2
  iterate 8 refine zZ ?_ (by first | (show w.heap.size+1<_;omega) | (show w.heap.size+2<_;omega)) _
  exact hO
theorem qH {w X:World} {B:Nat} {c0:Chg} {A0:Option Addr} {cap0:Nat} {x y:Value} {r:Option (List ByteArray)} {c:Chg} {Ag:Option Addr} {cap:Nat} {A:Option Addr} {n cc:Nat} {l:List ByteArray} {bad:Bool} (hB:B<=w.heap.size) (hr:r=y7 bad l) (hW:WdR X B l A n cc) (R2:Blk X (w.heap.size+1) 71 (yG c0 A0 cap0)) (R3:Blk X (w.heap.size+2) 107 #[x,y]) (tx:Below w.heap.size w X) (hO:X.ownsRow (w.heap.size+4) 61 3 (.slice Ag c.glyphs.length cap) c.glyphs.length (qi c.glyphs)) :
  Blk (qk2 w X c Ag cap A n cc bad).drew (w.heap.size+1) 71 (yG c Ag cap)/\Blk (qk2 w X c Ag cap A n cc bad).drew (w.heap.size+2) 107 #[.slice A n cc,.bool (!bad)]/\WdR (qk2 w X c Ag cap A n cc bad).drew B l A n cc/\Below w.heap.size w (qk2 w X c Ag cap A n cc bad).drew/\(qk2 w X c Ag cap A n cc bad).drew.ownsRow w.heap.size 61 3 (.slice Ag c.glyphs.length cap) c.glyphs.length (qi c.glyphs):=by
 obtain ⟨h1,h2,h3,h4,h5⟩:=fint_ hB hr hW R2 R3 tx hO;exact ⟨h1.drew,h2.drew,h3.below (Le _ _).drew,h4.drew,qb h5 (Le _ _).drew⟩
theorem TS.start {w:World} {B:Nat} {A:Option Addr} {n c:Nat} {l:List ByteArray} (hW:WdR w B l A n c) (hB:B<=w.heap.size) :
  TS w B (some l) ⟨0,0,0,0,0,[]⟩ none 0 ((((w.alloc (.cells #[.slice A n c,.bool true] 107)).alloc (.cells (yG ⟨0,0,0,0,0,[]⟩ none 0) 71)).alloc (.cells #[.slice none 0 0,.bool false] 107)).alloc (.cells (yG ⟨0,0,0,0,0,[]⟩ none 0) 71)):=by
 have tb:Below w.heap.size w ((((w.alloc (.cells #[.slice A n c,.bool true] 107)).alloc (.cells (yG ⟨0,0,0,0,0,[]⟩ none 0) 71)).alloc (.cells #[.slice none 0 0,.bool false] 107)).alloc (.cells (yG ⟨0,0,0,0,0,[]⟩ none 0) 71)) :=
  (((L5).alloc L1 _).alloc (by simp;omega) _).alloc (by simp;omega) _
 exact ⟨A,n,c,l,false,rfl,hW.below (tb.mono hB),(((Blk.new w _ _).alloc _).alloc _).alloc _,((Blk.new_ L1).alloc _).alloc _,(Blk.new_ L1).alloc _,Blk.new_ L1,tb,zY _ _ _ _⟩
def qle (w:World) (B:Nat) (c:Chg) (r:Option (List ByteArray)) (e:Ending) (w':World):Prop:=∃ Ag cap A n cc l bad,e = .returned (.tuple #[.agg #[.int .i64 c.kind,.int .i64 c.row,.int .i64 c.col,.int .i64 c.count,.int .i64 c.til,.slice Ag c.glyphs.length cap],.agg #[.slice A n cc,.bool (!bad)]])/\r=y7 bad l/\WdR w' B l A n cc/\Below w.heap.size w w'/\w'.ownsRow w.heap.size 61 3 (.slice Ag c.glyphs.length cap) c.glyphs.length (qi c.glyphs)
def sizV (r:Option (List ByteArray)):Chg × Option (List ByteArray) :=
 (⟨1,(qv (r.bind (skO jS))).1,(qv ((qv (r.bind (skO jS))).2.bind (skO kv))).1,0,0,[]⟩,(qv ((qv (r.bind (skO jS))).2.bind (skO kv))).2.bind (skO jl))
def upV (X Y:Int) (r:Option (List ByteArray)):Chg × Option (List ByteArray) :=
 if qX r bUp=true then (⟨2,X,0,(qv (r.bind (skO bUp))).1,Y,[]⟩,(qv (r.bind (skO bUp))).2) else (⟨2,X,0,-(qv (r.bind (skO jj))).1,Y,[]⟩,(qv (r.bind (skO jj))).2)
def scrV (r:Option (List ByteArray)):Chg × Option (List ByteArray) :=
 upV ((qv ((r.bind (skO q8)).bind (skO qI))).1-1) (qv ((qv ((r.bind (skO q8)).bind (skO qI))).2.bind (skO bTo))).1 (qv ((qv ((r.bind (skO q8)).bind (skO qI))).2.bind (skO bTo))).2
def delV (X Y:Int) (r:Option (List ByteArray)):Chg × Option (List ByteArray) :=
 if qX r q9=true then (if (qv (r.bind (skO q9))).1=0 then (⟨3,X,Y,0,0,[]⟩,none) else (⟨3,X,Y,(qv (r.bind (skO q9))).1,0,(zH (qv (r.bind (skO q9))).2).1⟩,(zH (qv (r.bind (skO q9))).2).2)) else (⟨3,X,Y,0,0,(zH r).1⟩,(zH r).2)
def linV (r:Option (List ByteArray)):Chg × Option (List ByteArray) :=
 delV ((qv (r.bind (skO qI))).1-1) ((qv ((qv (r.bind (skO qI))).2.bind (skO qO))).1-1) (qv ((qv (r.bind (skO qI))).2.bind (skO qO))).2
def visV (X Y:Int) (r:Option (List ByteArray)):Chg × Option (List ByteArray) :=
 if qX r ze=true then (⟨4,X,Y,1,0,[]⟩,r.bind (skO ze)) else (⟨4,X,Y,0,0,[]⟩,r.bind (skO zK))
def curV (r:Option (List ByteArray)):Chg × Option (List ByteArray) :=
 visV ((qv ((r.bind (skO q7)).bind (skO qI))).1-1) ((qv ((qv ((r.bind (skO q7)).bind (skO qI))).2.bind (skO qO))).1-1) (qv ((qv ((r.bind (skO q7)).bind (skO qI))).2.bind (skO qO))).2
def zU (r:Option (List ByteArray)):Chg × Option (List ByteArray) :=
 if qX r jS=true then sizV r
 else if qX r q8=true then scrV r
 else if qX r qI=true then linV r
 else if qX r q7=true then curV r
 else (⟨0,0,0,0,0,[]⟩,none)
theorem qU (q:Option (List ByteArray)):0<=(qv q).1/\(qv q).1<=999999999:=by
 have h:=kd q;unfold qN at h;unfold qv
 cases hq:q.bind kU with
 | none=>exact ⟨Int.le_refl _,by decide⟩
 | some x =>
  obtain ⟨n,t⟩:=x;rw [hq] at h;dsimp only at h ⊢
  split
  ·exact ⟨Int.le_refl _,by decide⟩
  ·exact ⟨by show 0<=n;omega,h.2⟩
def LenVd (r:Option (List ByteArray)):Prop:=∀ l,r=some l->l.length<=1000
theorem LenVd.sk {r:Option (List ByteArray)} (h:LenVd r) (s:ByteArray):LenVd (r.bind (skO s)):=by
 intro l hl
 cases r with
 | none=>cases hl
 | some x =>
  cases x with
  | nil=>cases hl
  | cons a t =>
   have:=h _ rfl;simp only [Option.bind_some,skO] at hl
   split at hl
   ·cases hl
    simp at this
    omega
   ·cases hl
theorem LenVd.num {r:Option (List ByteArray)} (h:LenVd r):LenVd (qv r).2:=by
 intro l hl
 cases r with
 | none=>cases hl
 | some x =>
  have:=h _ rfl;unfold qv at hl;simp only [Option.bind_some,kU] at hl
  cases hp:prefixL x with
  | none=>rw [hp] at hl;cases hl
  | some y =>
   rw [hp] at hl;simp only [Option.map_some] at hl
   split at hl
   ·cases hl
   ·cases hl
    rw [List.length_drop]
    omega
theorem qlc {r:Option (List ByteArray)} {s:ByteArray} (h:qX r s=true):r.bind (skO s)≠none:=by
 cases r with
 | none=>cases h
 | some l =>
  obtain ⟨_,t,_,ht⟩:=qj9 (bad:=false) h;have ht':(some l:Option (List ByteArray)).bind (skO s)=some t:=ht;rw [ht'];exact fun e=>by cases e
section
variable {w X : World} {B : Nat} {r : Option (List ByteArray)} {c : Chg}
theorem TS.num_ (hX:TS w B r c none 0 X) (hB:B<=w.heap.size) (ht:Tb w) (s:ByteArray) (i:Nat) (hi:i<5) {x:Int × Option (List ByteArray)} (hx:Hid (x=qv (r.bind (skO s)))) :
  ∃ A' n' c' bad',X.cell? ⟨w.heap.size,0,none⟩=some (.slice A' n' c')/\X.cell? ⟨w.heap.size,1,none⟩=some (.bool (!bad'))/\Calls prog 64 #[.agg #[.slice A' n' c',.bool (!bad')],.string s] X fun e w1=>∃ A1 n1 cc bad v,e = .returned (.tuple #[.int .i64 x.1,.agg #[.slice A1 n1 cc,.bool (!bad)]]) /\
   w1.cell? ⟨w.heap.size,0,none⟩=some (.slice A' n' c')/\w1.cell? ⟨w.heap.size,1,none⟩=some (.bool (!bad'))/\w1.frozen? ⟨w.heap.size,0,none⟩=false/\w1.frozen? ⟨w.heap.size,1,none⟩=false/\w1.cell? ⟨w.heap.size+3,i,none⟩=some (.int .i64 v)/\w1.frozen? ⟨w.heap.size+3,i,none⟩=false /\
   TS w B x.2 (c.put i x.1) none 0 (((w1.setCell ⟨w.heap.size+3,i,none⟩ (.int .i64 x.1)).setCell ⟨w.heap.size,0,none⟩ (.slice A1 n1 cc)).setCell ⟨w.heap.size,1,none⟩ (.bool (!bad))):=by
 obtain ⟨A',n',c',l',bad',hr',hW,R1,R2,R3,R4,tx,hO⟩:=id hX;have h1:=vN R1;refine ⟨A',n',c',bad',h1.1,h1.2.1,(qk5 r _ s B X ⟨A',n',c',l',bad',rfl,hW,hr'⟩ (Lj hB tx.size) (ht.below tx)).mono ?_⟩;rw [<- hx.out];rintro e w1 ⟨A1,n1,cc1,l1,qmK,rfl,hW1,hr1,hb1⟩;have hY:=hX.below hB hb1;have h2:=vN (R1.below hb1 R1.lt);have K:=R4.below hb1 R4.lt;have h3:=qV K;obtain ⟨v,hv⟩ : ∃ v,w1.cell? ⟨w.heap.size+3,i,none⟩=some (.int .i64 v):=by
  match i,hi with
  | 0,_=>exact ⟨_,h3.1⟩
  | 1,_=>exact ⟨_,h3.2.1⟩
  | 2,_=>exact ⟨_,h3.2.2.1⟩
  | 3,_=>exact ⟨_,h3.2.2.2.1⟩
  | 4,_=>exact ⟨_,h3.2.2.2.2.1⟩
 exact ⟨A1,n1,cc1,qmK,v,rfl,h2.1,h2.2.1,h2.2.2.1,h2.2.2.2,hv,K.frozen i,(hY.set_ hB i x.1 hi).turn hB (hW1.below ((Le B w1).setCell (p:=⟨w.heap.size+3,i,none⟩) L7 (.int .i64 x.1))) hr1⟩
theorem TS.is_ (hX:TS w B r c none 0 X) (hB:B<=w.heap.size) (s:ByteArray) :
  ∃ A' n' c' bad',X.cell? ⟨w.heap.size,0,none⟩=some (.slice A' n' c')/\X.cell? ⟨w.heap.size,1,none⟩=some (.bool (!bad'))/\Calls prog 60 #[.agg #[.slice A' n' c',.bool (!bad')],.string s] X fun e w1=>e = .returned (.bool (qX r s))/\TS w B r c none 0 w1:=by
 obtain ⟨A',n',c',l',bad',hr',hW,R1,R2,R3,R4,tx,hO⟩:=id hX;have h1:=vN R1;refine ⟨A',n',c',bad',h1.1,h1.2.1,(tis_ r _ s B X ⟨A',n',c',l',bad',rfl,hW,hr'⟩ (Lj hB tx.size)).mono ?_⟩;rintro e w1 ⟨rfl,hb1⟩;exact ⟨rfl,hX.below hB hb1⟩
theorem TS.sk_ (hX:TS w B r c none 0 X) (hB:B<=w.heap.size) (s:ByteArray) :
  ∃ A' n' c' bad',X.cell? ⟨w.heap.size,0,none⟩=some (.slice A' n' c')/\X.cell? ⟨w.heap.size,1,none⟩=some (.bool (!bad'))/\Calls prog 63 #[.agg #[.slice A' n' c',.bool (!bad')],.string s] X fun e w1=>∃ A1 n1 cc bad,e = .returned (.agg #[.slice A1 n1 cc,.bool (!bad)]) /\
   w1.cell? ⟨w.heap.size,0,none⟩=some (.slice A' n' c')/\w1.cell? ⟨w.heap.size,1,none⟩=some (.bool (!bad'))/\w1.frozen? ⟨w.heap.size,0,none⟩=false/\w1.frozen? ⟨w.heap.size,1,none⟩=false /\
   TS w B (r.bind (skO s)) c none 0 ((w1.setCell ⟨w.heap.size,0,none⟩ (.slice A1 n1 cc)).setCell ⟨w.heap.size,1,none⟩ (.bool (!bad))):=by
 obtain ⟨A',n',c',l',bad',hr',hW,R1,R2,R3,R4,tx,hO⟩:=id hX;have h1:=vN R1;refine ⟨A',n',c',bad',h1.1,h1.2.1,(j6 r _ s B X ⟨A',n',c',l',bad',rfl,hW,hr'⟩ (Lj hB tx.size)).mono ?_⟩;rintro e w1 ⟨A1,n1,cc1,l1,qmK,rfl,hW1,hr1,hb1⟩;have h2:=vN (R1.below hb1 R1.lt);exact ⟨A1,n1,cc1,qmK,rfl,h2.1,h2.2.1,h2.2.2.1,h2.2.2.2,(hX.below hB hb1).turn hB hW1 hr1⟩
end
theorem qlw (l:List ByteArray) (A:Option Addr) (n c:Nat) (w:World) (B:Nat) (hW:WdR w B l A n c) (hB:B<=w.heap.size) (hl:l.length<=1000) (ht:Tb w) (h1:qX (some l) jS=true) :
  Calls prog 61 #[.agg #[.slice A n c,.bool true]] w (qle w B (sizV (some l)).1 (sizV (some l)).2):=by
 obtain ⟨R,hR⟩ : ∃ x,Hid (x=(sizV (some l))):=⟨_,Lh rfl⟩
 rw [<- hR.out];have HT:=Lh ht;have HL:Hid (LenVd (some l)):=Lh fun _ e=>by cases e;exact hl
 have hX:=TS.start hW hB;have hs1:Hid (true=qX (some l) jS):=Lh h1.symm;clear hW hl ht h1
 go_enter func61,ntmps61
 go_upto_region 3 with fail
 refine qa (TS w B (some l) ⟨0,0,0,0,0,[]⟩ none 0) hX ?_;clear hX;intro X hX;obtain ⟨A',n',c',bad',c0,c1,HN⟩:=TS.is_ hX hB jS;rw [<- hs1.out] at HN;replace HN:=Lh HN
 go_upto_if 7 with (go_at_call 60;refine HN.out.mono ?_;rintro e w1 ⟨rfl,hY⟩)
 refine qa (TS w B (some l) ⟨0,0,0,0,0,[]⟩ none 0) hY ?_;clear hY hX HN c0 c1;intro X hX;obtain ⟨x,hx⟩ : ∃ x,Hid (x=qv ((some l).bind (skO jS))):=⟨_,Lh rfl⟩
 obtain ⟨y,hy⟩ : ∃ y,Hid (y=qv (x.2.bind (skO kv))):=⟨_,Lh rfl⟩
 have HR3:Hid (R.1=⟨1,x.1,y.1,0,0,[]⟩/\R.2=y.2.bind (skO jl)):=Lh (by rw [hR.out,sizV,hy.out,hx.out];exact ⟨rfl,rfl⟩);clear hR hs1 HL;obtain ⟨A',n',c',l',bad',hr',hW,R1,R2,R3,R4,tx,hO⟩:=id hX;obtain ⟨c0,c1,f0,f1⟩:=vN R1;obtain ⟨k0,k1,k2,k3,k4,k5,p0,p1,p2,p3,p4,p5⟩:=qV R4;dsimp only at k0 k1 k2 k3 k4 k5
 go_upto_region 5 with fail
 refine qa (TS w B (some l) ⟨1,0,0,0,0,[]⟩ none 0) (hX.set_ hB 0 1 L2) ?_;clear hX;clear c0 c1 f0 f1 k0 k1 k2 k3 k4 k5 p0 p1 p2 p3 p4 p5 hr' hW R1 R2 R3 R4 tx hO;intro X hX;obtain ⟨A',n',c',bad',c0,c1,HA⟩:=TS.num_ hX hB HT.out jS 1 L2 hx;replace HA:=Lh HA
 go_upto_region 6 with (go_at_call 64;refine HA.out.mono ?_;rintro e w1 ⟨A1,n1,cc1,qmK,v1,rfl,d0,d1,f0,f1,k0,p0,hY⟩)
 refine qa (TS w B x.2 ⟨1,x.1,0,0,0,[]⟩ none 0) hY ?_;clear hY hX HA c0 c1 d0 d1 f0 f1 k0 p0;intro X hX;obtain ⟨A',n',c',bad',c0,c1,HA⟩:=TS.num_ hX hB HT.out kv 2 L2 hy;replace HA:=Lh HA
 go_upto_region 7 with (go_at_call 64;refine HA.out.mono ?_;rintro e w1 ⟨A1,n1,cc1,qmK,v1,rfl,d0,d1,f0,f1,k0,p0,hY⟩)
 refine qa (TS w B y.2 ⟨1,x.1,y.1,0,0,[]⟩ none 0) hY ?_;clear hY hX HA c0 c1 d0 d1 f0 f1 k0 p0;intro X hX;obtain ⟨A',n',c',bad',c0,c1,HK⟩:=TS.sk_ hX hB jl;replace HK:=Lh HK
 go_upto_region 41 with (go_at_call 63;refine HK.out.mono ?_;rintro e w1 ⟨A1,n1,cc1,qmK,rfl,d0,d1,f0,f1,hY⟩)
 refine qa (TS w B ((y.2).bind (skO jl)) ⟨1,x.1,y.1,0,0,[]⟩ none 0) hY ?_;clear hY hX HK c0 c1 d0 d1 f0 f1;intro X hX;obtain ⟨A',n',c',l',bad',hr',hW,R1,R2,R3,R4,tx,hO⟩:=id hX;obtain ⟨c0,c1,f0,f1⟩:=vN R1;obtain ⟨k0,k1,k2,k3,k4,k5,p0,p1,p2,p3,p4,p5⟩:=qV R4;dsimp only at k0 k1 k2 k3 k4 k5;obtain ⟨o0,o1,o2,o3,o4,o5,q0,q1,q2,q3,q4,q5⟩:=qV R2;obtain ⟨m0,m1,v0,v1⟩:=vN R3;dsimp only at o0 o1 o2 o3 o4 o5;have HF:=Lh (qH (c:=⟨1,x.1,y.1,0,0,[]⟩) hB hr' hW R2 R3 tx hO)
 go_region_law (fail)
 all_goals go_wp2
 all_goals rw [HR3.out.1,HR3.out.2]
 all_goals exact bodyPost_ret (jg rfl _ _ (w.heap.size+1) (w.heap.size+2) 71 107 _ _ (0,0) (0,0) _ _ rfl HF.out.1 underlying71 rfl yo rfl HF.out.2.1 underlying107 rfl qr) rfl ⟨_,_,_,_,_,_,bad',rfl,hr',HF.out.2.2.1,HF.out.2.2.2.1,HF.out.2.2.2.2⟩
theorem qly (l:List ByteArray) (A:Option Addr) (n c:Nat) (w:World) (B:Nat) (hW:WdR w B l A n c) (hB:B<=w.heap.size) (hl:l.length<=1000) (ht:Tb w) (h1:qX (some l) jS=false) (h2:qX (some l) q8=true) :
  Calls prog 61 #[.agg #[.slice A n c,.bool true]] w (qle w B (scrV (some l)).1 (scrV (some l)).2):=by
 obtain ⟨R,hR⟩ : ∃ x,Hid (x=(scrV (some l))):=⟨_,Lh rfl⟩
 rw [<- hR.out];have HT:=Lh ht;have HL:Hid (LenVd (some l)):=Lh fun _ e=>by cases e;exact hl
 have hX:=TS.start hW hB;have hs1:Hid (false=qX (some l) jS):=Lh h1.symm;have hs2:Hid (true=qX (some l) q8):=Lh h2.symm;clear hW hl ht h1 h2
 go_enter func61,ntmps61
 go_upto_region 3 with fail
 refine qa (TS w B (some l) ⟨0,0,0,0,0,[]⟩ none 0) hX ?_;clear hX;intro X hX;obtain ⟨A',n',c',bad',c0,c1,HN⟩:=TS.is_ hX hB jS;rw [<- hs1.out] at HN;replace HN:=Lh HN
 go_upto_if 7 with (go_at_call 60;refine HN.out.mono ?_;rintro e w1 ⟨rfl,hY⟩)
 refine qa (TS w B (some l) ⟨0,0,0,0,0,[]⟩ none 0) hY ?_;clear hY hX HN c0 c1;intro X hX;obtain ⟨A',n',c',bad',c0,c1,HN⟩:=TS.is_ hX hB q8;rw [<- hs2.out] at HN;replace HN:=Lh HN
 go_upto_if 25 with (go_at_call 60;refine HN.out.mono ?_;rintro e w1 ⟨rfl,hY⟩)
 refine qa (TS w B (some l) ⟨0,0,0,0,0,[]⟩ none 0) hY ?_;clear hY hX HN c0 c1;intro X hX;obtain ⟨x,hx⟩ : ∃ x,Hid (x=qv (((some l).bind (skO q8)).bind (skO qI))):=⟨_,Lh rfl⟩
 obtain ⟨y,hy⟩ : ∃ y,Hid (y=qv (x.2.bind (skO bTo))):=⟨_,Lh rfl⟩
 have HR2:Hid (R=upV (x.1-1) y.1 y.2):=Lh (by rw [hR.out,hy.out,hx.out];rfl);have hxr:0<=x.1/\x.1<=999999999:=by rw [hx.out];exact qU _
 have e1:IntKind.i64.wrap (x.1-1)=x.1-1:=by rw [Lx];omega
 clear hR hs1 hs2 HL;obtain ⟨A',n',c',l',bad',hr',hW,R1,R2,R3,R4,tx,hO⟩:=id hX;obtain ⟨c0,c1,f0,f1⟩:=vN R1;obtain ⟨k0,k1,k2,k3,k4,k5,p0,p1,p2,p3,p4,p5⟩:=qV R4;dsimp only at k0 k1 k2 k3 k4 k5
 go_upto_region 10 with fail
 refine qa (TS w B (some l) ⟨2,0,0,0,0,[]⟩ none 0) (hX.set_ hB 0 2 L2) ?_;clear hX;clear c0 c1 f0 f1 k0 k1 k2 k3 k4 k5 p0 p1 p2 p3 p4 p5 hr' hW R1 R2 R3 R4 tx hO;intro X hX;obtain ⟨A',n',c',bad',c0,c1,HK⟩:=TS.sk_ hX hB q8;replace HK:=Lh HK
 go_upto_region 11 with (go_at_call 63;refine HK.out.mono ?_;rintro e w1 ⟨A1,n1,cc1,qmK,rfl,d0,d1,f0,f1,hY⟩)
 refine qa (TS w B (((some l)).bind (skO q8)) ⟨2,0,0,0,0,[]⟩ none 0) hY ?_;clear hY hX HK c0 c1 d0 d1 f0 f1;intro X hX;obtain ⟨A',n',c',bad',c0,c1,HA⟩:=TS.num_ hX hB HT.out qI 1 L2 hx;replace HA:=Lh HA
 go_upto_region 12 with (go_at_call 64;refine HA.out.mono ?_;rintro e w1 ⟨A1,n1,cc1,qmK,v1,rfl,d0,d1,f0,f1,k0,p0,hY⟩)
 refine qa (TS w B x.2 ⟨2,x.1,0,0,0,[]⟩ none 0) hY ?_;clear hY hX HA c0 c1 d0 d1 f0 f1 k0 p0;intro X hX;obtain ⟨A',n',c',l',bad',hr',hW,R1,R2,R3,R4,tx,hO⟩:=id hX;obtain ⟨c0,c1,f0,f1⟩:=vN R1;obtain ⟨k0,k1,k2,k3,k4,k5,p0,p1,p2,p3,p4,p5⟩:=qV R4;dsimp only at k0 k1 k2 k3 k4 k5
 go_upto_region 13 with fail
 refine qa (TS w B x.2 ⟨2,x.1-1,0,0,0,[]⟩ none 0) (hX.set_ hB 1 (x.1-1) L2) ?_;clear hX;clear c0 c1 f0 f1 k0 k1 k2 k3 k4 k5 p0 p1 p2 p3 p4 p5 hr' hW R1 R2 R3 R4 tx hO;intro X hX;obtain ⟨A',n',c',bad',c0,c1,HA⟩:=TS.num_ hX hB HT.out bTo 4 L2 hy;replace HA:=Lh HA
 go_upto_region 14 with (go_at_call 64;refine HA.out.mono ?_;rintro e w1 ⟨A1,n1,cc1,qmK,v1,rfl,d0,d1,f0,f1,k0,p0,hY⟩)
 refine qa (TS w B y.2 ⟨2,x.1-1,0,0,y.1,[]⟩ none 0) hY ?_;clear hY hX HA c0 c1 d0 d1 f0 f1 k0 p0;intro X hX;clear hx hy hxr e1;obtain ⟨xn,xr⟩:=x;obtain ⟨yn,yr⟩:=y;simp only at hX HR2;generalize xn-1=Row at *
 obtain ⟨s3,hs3⟩ : ∃ b,Hid (b=qX yr bUp):=⟨_,Lh rfl⟩
 obtain ⟨A',n',c',bad',c0,c1,HN⟩:=TS.is_ hX hB bUp;rw [<- hs3.out] at HN;replace HN:=Lh HN
 go_upto_if 48 with (go_at_call 60;refine HN.out.mono ?_;rintro e w1 ⟨rfl,hY⟩)
 refine qa (TS w B yr ⟨2,Row,0,0,yn,[]⟩ none 0) hY ?_;clear hY hX HN c0 c1;intro X hX
 cases s3 with
 | true =>
  obtain ⟨u,hu⟩ : ∃ u,Hid (u=qv (yr.bind (skO bUp))):=⟨_,Lh rfl⟩
  have HR3:Hid (R.1=⟨2,Row,0,u.1,yn,[]⟩/\R.2=u.2):=Lh (by rw [HR2.out,upV,<- hs3.out,hu.out];exact ⟨rfl,rfl⟩);clear HR2 hs3
  go_upto_region 15 with fail
  obtain ⟨A',n',c',bad',c0,c1,HA⟩:=TS.num_ hX hB HT.out bUp 3 L2 hu;replace HA:=Lh HA
  go_upto_region 41 with (go_at_call 64;refine HA.out.mono ?_;rintro e w1 ⟨A1,n1,cc1,qmK,v1,rfl,d0,d1,f0,f1,k0,p0,hY⟩)
  refine qa (TS w B u.2 ⟨2,Row,0,u.1,yn,[]⟩ none 0) hY ?_;clear hY hX HA c0 c1 d0 d1 f0 f1 k0 p0;intro X hX;obtain ⟨A',n',c',l',bad',hr',hW,R1,R2,R3,R4,tx,hO⟩:=id hX;obtain ⟨c0,c1,f0,f1⟩:=vN R1;obtain ⟨k0,k1,k2,k3,k4,k5,p0,p1,p2,p3,p4,p5⟩:=qV R4;dsimp only at k0 k1 k2 k3 k4 k5;obtain ⟨o0,o1,o2,o3,o4,o5,q0,q1,q2,q3,q4,q5⟩:=qV R2;obtain ⟨m0,m1,v0,v1⟩:=vN R3;dsimp only at o0 o1 o2 o3 o4 o5;have HF:=Lh (qH (c:=⟨2,Row,0,u.1,yn,[]⟩) hB hr' hW R2 R3 tx hO)
  go_region_law (fail)
  all_goals go_wp2
  all_goals rw [HR3.out.1,HR3.out.2]
  all_goals exact bodyPost_ret (jg rfl _ _ (w.heap.size+1) (w.heap.size+2) 71 107 _ _ (0,0) (0,0) _ _ rfl HF.out.1 underlying71 rfl yo rfl HF.out.2.1 underlying107 rfl qr) rfl ⟨_,_,_,_,_,_,bad',rfl,hr',HF.out.2.2.1,HF.out.2.2.2.1,HF.out.2.2.2.2⟩
 | false =>
  obtain ⟨u,hu⟩ : ∃ u,Hid (u=qv (yr.bind (skO jj))):=⟨_,Lh rfl⟩
  have HR3:Hid (R.1=⟨2,Row,0,-u.1,yn,[]⟩/\R.2=u.2):=Lh (by rw [HR2.out,upV,<- hs3.out,hu.out];exact ⟨rfl,rfl⟩);have hur:0<=u.1/\u.1<=999999999:=by rw [hu.out];exact qU _
  have e2:IntKind.i64.wrap (-u.1) = -u.1:=by rw [Lx];omega
  clear HR2 hs3
  go_upto_region 16 with fail
  obtain ⟨A',n',c',bad',c0,c1,HA⟩:=TS.num_ hX hB HT.out jj 3 L2 hu;replace HA:=Lh HA
  go_upto_region 17 with (go_at_call 64;refine HA.out.mono ?_;rintro e w1 ⟨A1,n1,cc1,qmK,v1,rfl,d0,d1,f0,f1,k0,p0,hY⟩)
  refine qa (TS w B u.2 ⟨2,Row,0,u.1,yn,[]⟩ none 0) hY ?_;clear hY hX HA c0 c1 d0 d1 f0 f1 k0 p0;intro X hX;obtain ⟨A',n',c',l',bad',hr',hW,R1,R2,R3,R4,tx,hO⟩:=id hX;obtain ⟨c0,c1,f0,f1⟩:=vN R1;obtain ⟨k0,k1,k2,k3,k4,k5,p0,p1,p2,p3,p4,p5⟩:=qV R4;dsimp only at k0 k1 k2 k3 k4 k5
  go_upto_region 41 with fail
  refine qa (TS w B u.2 ⟨2,Row,0,-u.1,yn,[]⟩ none 0) (hX.set_ hB 3 (-u.1) L2) ?_;clear hX;clear c0 c1 f0 f1 k0 k1 k2 k3 k4 k5 p0 p1 p2 p3 p4 p5 hr' hW R1 R2 R3 R4 tx hO;intro X hX;obtain ⟨A',n',c',l',bad',hr',hW,R1,R2,R3,R4,tx,hO⟩:=id hX;obtain ⟨c0,c1,f0,f1⟩:=vN R1;obtain ⟨k0,k1,k2,k3,k4,k5,p0,p1,p2,p3,p4,p5⟩:=qV R4;dsimp only at k0 k1 k2 k3 k4 k5;obtain ⟨o0,o1,o2,o3,o4,o5,q0,q1,q2,q3,q4,q5⟩:=qV R2;obtain ⟨m0,m1,v0,v1⟩:=vN R3;dsimp only at o0 o1 o2 o3 o4 o5;have HF:=Lh (qH (c:=⟨2,Row,0,-u.1,yn,[]⟩) hB hr' hW R2 R3 tx hO)
  go_region_law (fail)
  all_goals go_wp2
  all_goals rw [HR3.out.1,HR3.out.2]
  all_goals exact bodyPost_ret (jg rfl _ _ (w.heap.size+1) (w.heap.size+2) 71 107 _ _ (0,0) (0,0) _ _ rfl HF.out.1 underlying71 rfl yo rfl HF.out.2.1 underlying107 rfl qr) rfl ⟨_,_,_,_,_,_,bad',rfl,hr',HF.out.2.2.1,HF.out.2.2.2.1,HF.out.2.2.2.2⟩
theorem qlz (l:List ByteArray) (A:Option Addr) (n c:Nat) (w:World) (B:Nat) (hW:WdR w B l A n c) (hB:B<=w.heap.size) (hl:l.length<=1000) (ht:Tb w) (h1:qX (some l) jS=false) (h2:qX (some l) q8=false) (h3:qX (some l) qI=true) :
  Calls prog 61 #[.agg #[.slice A n c,.bool true]] w (qle w B (linV (some l)).1 (linV (some l)).2):=by
 obtain ⟨R,hR⟩ : ∃ x,Hid (x=(linV (some l))):=⟨_,Lh rfl⟩
 rw [<- hR.out];have HT:=Lh ht;have HL:Hid (LenVd (some l)):=Lh fun _ e=>by cases e;exact hl
 have hX:=TS.start hW hB;have hs1:Hid (false=qX (some l) jS):=Lh h1.symm;have hs2:Hid (false=qX (some l) q8):=Lh h2.symm;have hs3:Hid (true=qX (some l) qI):=Lh h3.symm;clear hW hl ht h1 h2 h3
 go_enter func61,ntmps61
 go_upto_region 3 with fail
 refine qa (TS w B (some l) ⟨0,0,0,0,0,[]⟩ none 0) hX ?_;clear hX;intro X hX;obtain ⟨A',n',c',bad',c0,c1,HN⟩:=TS.is_ hX hB jS;rw [<- hs1.out] at HN;replace HN:=Lh HN
 go_upto_if 7 with (go_at_call 60;refine HN.out.mono ?_;rintro e w1 ⟨rfl,hY⟩)
 refine qa (TS w B (some l) ⟨0,0,0,0,0,[]⟩ none 0) hY ?_;clear hY hX HN c0 c1;intro X hX;obtain ⟨A',n',c',bad',c0,c1,HN⟩:=TS.is_ hX hB q8;rw [<- hs2.out] at HN;replace HN:=Lh HN
 go_upto_if 25 with (go_at_call 60;refine HN.out.mono ?_;rintro e w1 ⟨rfl,hY⟩)
 refine qa (TS w B (some l) ⟨0,0,0,0,0,[]⟩ none 0) hY ?_;clear hY hX HN c0 c1;intro X hX;obtain ⟨A',n',c',bad',c0,c1,HN⟩:=TS.is_ hX hB qI;rw [<- hs3.out] at HN;replace HN:=Lh HN
 go_upto_if 65 with (go_at_call 60;refine HN.out.mono ?_;rintro e w1 ⟨rfl,hY⟩)
 refine qa (TS w B (some l) ⟨0,0,0,0,0,[]⟩ none 0) hY ?_;clear hY hX HN c0 c1;intro X hX;obtain ⟨x,hx⟩ : ∃ x,Hid (x=qv ((some l).bind (skO qI))):=⟨_,Lh rfl⟩
 obtain ⟨y,hy⟩ : ∃ y,Hid (y=qv (x.2.bind (skO qO))):=⟨_,Lh rfl⟩
 have HR1:Hid (R=delV (x.1-1) (y.1-1) y.2):=Lh (by rw [hR.out,hy.out,hx.out];rfl);have HLy:Hid (LenVd y.2):=Lh (by rw [hy.out];exact LenVd.num (LenVd.sk (by rw [hx.out];exact LenVd.num (LenVd.sk HL.out _)) _));have hxr:0<=x.1/\x.1<=999999999:=by rw [hx.out];exact qU _
 have hyr:0<=y.1/\y.1<=999999999:=by rw [hy.out];exact qU _
 have e1:IntKind.i64.wrap (x.1-1)=x.1-1:=by rw [Lx];omega
 have e2:IntKind.i64.wrap (y.1-1)=y.1-1:=by rw [Lx];omega
 clear hR hs1 hs2 hs3 HL;obtain ⟨A',n',c',l',bad',hr',hW,R1,R2,R3,R4,tx,hO⟩:=id hX;obtain ⟨c0,c1,f0,f1⟩:=vN R1;obtain ⟨k0,k1,k2,k3,k4,k5,p0,p1,p2,p3,p4,p5⟩:=qV R4;dsimp only at k0 k1 k2 k3 k4 k5
 go_upto_region 20 with fail
 refine qa (TS w B (some l) ⟨3,0,0,0,0,[]⟩ none 0) (hX.set_ hB 0 3 L2) ?_;clear hX;clear c0 c1 f0 f1 k0 k1 k2 k3 k4 k5 p0 p1 p2 p3 p4 p5 hr' hW R1 R2 R3 R4 tx hO;intro X hX;obtain ⟨A',n',c',bad',c0,c1,HA⟩:=TS.num_ hX hB HT.out qI 1 L2 hx;replace HA:=Lh HA
 go_upto_region 21 with (go_at_call 64;refine HA.out.mono ?_;rintro e w1 ⟨A1,n1,cc1,qmK,v1,rfl,d0,d1,f0,f1,k0,p0,hY⟩)
 refine qa (TS w B x.2 ⟨3,x.1,0,0,0,[]⟩ none 0) hY ?_;clear hY hX HA c0 c1 d0 d1 f0 f1 k0 p0;intro X hX;obtain ⟨A',n',c',bad',c0,c1,HA⟩:=TS.num_ hX hB HT.out qO 2 L2 hy;replace HA:=Lh HA
 go_upto_region 22 with (go_at_call 64;refine HA.out.mono ?_;rintro e w1 ⟨A1,n1,cc1,qmK,v1,rfl,d0,d1,f0,f1,k0,p0,hY⟩)
 refine qa (TS w B y.2 ⟨3,x.1,y.1,0,0,[]⟩ none 0) hY ?_;clear hY hX HA c0 c1 d0 d1 f0 f1 k0 p0;intro X hX;obtain ⟨A',n',c',l',bad',hr',hW,R1,R2,R3,R4,tx,hO⟩:=id hX;obtain ⟨c0,c1,f0,f1⟩:=vN R1;obtain ⟨k0,k1,k2,k3,k4,k5,p0,p1,p2,p3,p4,p5⟩:=qV R4;dsimp only at k0 k1 k2 k3 k4 k5
 go_upto_region 24 with fail
 refine qa (TS w B y.2 ⟨3,x.1-1,y.1-1,0,0,[]⟩ none 0) ((hX.set_ hB 1 (x.1-1) L2).set_ hB 2 (y.1-1) L2) ?_;clear hX;clear c0 c1 f0 f1 k0 k1 k2 k3 k4 k5 p0 p1 p2 p3 p4 p5 hr' hW R1 R2 R3 R4 tx hO;intro X hX;clear hx hy hxr hyr e1 e2;obtain ⟨xn,xr⟩:=x;obtain ⟨yn,yr⟩:=y;simp only at hX HR1 HLy;generalize xn-1=Row at *
 generalize yn-1=Col at *
 obtain ⟨s4,hs4⟩ : ∃ b,Hid (b=qX yr q9):=⟨_,Lh rfl⟩
 obtain ⟨A',n',c',bad',c0,c1,HN⟩:=TS.is_ hX hB q9;rw [<- hs4.out] at HN;replace HN:=Lh HN
 go_upto_if 90 with (go_at_call 60;refine HN.out.mono ?_;rintro e w1 ⟨rfl,hY⟩)
 refine qa (TS w B yr ⟨3,Row,Col,0,0,[]⟩ none 0) hY ?_;clear hY hX HN c0 c1;intro X hX
 cases s4 with
 | true =>
  obtain ⟨u,hu⟩ : ∃ u,Hid (u=qv (yr.bind (skO q9))):=⟨_,Lh rfl⟩
  have HR4:Hid (R=if u.1=0 then (⟨3,Row,Col,0,0,[]⟩,none) else (⟨3,Row,Col,u.1,0,(zH u.2).1⟩,(zH u.2).2)):=Lh (by rw [HR1.out,delV,<- hs4.out,hu.out];rfl);have HLz:Hid (LenVd u.2):=Lh (by rw [hu.out];exact LenVd.num (LenVd.sk HLy.out _));clear HR1 hs4 HLy
  go_upto_region 25 with fail
  obtain ⟨A',n',c',bad',c0,c1,HA⟩:=TS.num_ hX hB HT.out q9 3 L2 hu;replace HA:=Lh HA
  go_upto_region 26 with (go_at_call 64;refine HA.out.mono ?_;rintro e w1 ⟨A1,n1,cc1,qmK,v1,rfl,d0,d1,f0,f1,k0,p0,hY⟩)
  refine qa (TS w B u.2 ⟨3,Row,Col,u.1,0,[]⟩ none 0) hY ?_;clear hY hX HA c0 c1 d0 d1 f0 f1 k0 p0;intro X hX;clear hu;obtain ⟨un,ur⟩:=u;simp only at hX HR4 HLz
  by_cases h0:un=0
  ·subst h0;have HR3:Hid (R.1=⟨3,Row,Col,0,0,[]⟩/\R.2=none):=Lh (by rw [HR4.out];exact ⟨rfl,rfl⟩);clear HR4 HLz;obtain ⟨A',n',c',l',bad',hr',hW,R1,R2,R3,R4,tx,hO⟩:=id hX;obtain ⟨c0,c1,f0,f1⟩:=vN R1;obtain ⟨k0,k1,k2,k3,k4,k5,p0,p1,p2,p3,p4,p5⟩:=qV R4;dsimp only at k0 k1 k2 k3 k4 k5;obtain ⟨o0,o1,o2,o3,o4,o5,q0,q1,q2,q3,q4,q5⟩:=qV R2;obtain ⟨m0,m1,v0,v1⟩:=vN R3;dsimp only at o0 o1 o2 o3 o4 o5;go_wp2;have HF:=Lh (fint_ (c:=⟨3,Row,Col,0,0,[]⟩) (r:=none) (bad:=true) (l:=[]) (A:=none) (n:=0) (cc:=0) hB rfl (WdR.nil X B) R2 R3 tx hO);rw [HR3.out.1,HR3.out.2];exact bodyPost_ret (jg rfl _ _ (w.heap.size+1) (w.heap.size+2) 71 107 _ _ (0,0) (0,0) _ _ rfl HF.out.1 underlying71 rfl yo rfl HF.out.2.1 underlying107 rfl qr) rfl ⟨_,_,_,_,_,_,true,rfl,rfl,HF.out.2.2.1,HF.out.2.2.2.1,HF.out.2.2.2.2⟩
  ·have HR2:Hid (R=(⟨3,Row,Col,un,0,(zH ur).1⟩,(zH ur).2)):=Lh (by rw [HR4.out,if_neg h0]);have hub:(un==0)=false:=Lm.2 h0;clear HR4 h0;obtain ⟨A',n',c',l',bad',hr',hW,R1,R2,R3,R4,tx,hO⟩:=id hX;obtain ⟨c0,c1,f0,f1⟩:=vN R1;obtain ⟨k0,k1,k2,k3,k4,k5,p0,p1,p2,p3,p4,p5⟩:=qV R4;dsimp only at k0 k1 k2 k3 k4 k5
   go_upto_region 28 with fail
   refine qa (TS w B ur ⟨3,Row,Col,un,0,[]⟩ none 0) (hX) ?_;clear hX;clear c0 c1 f0 f1 k0 k1 k2 k3 k4 k5 p0 p1 p2 p3 p4 p5 hr' hW R1 R2 R3 R4 tx hO;intro X hX;clear hub;obtain ⟨b2,hb2⟩ : ∃ b,Hid (b=qX ur qK):=⟨_,Lh rfl⟩
   obtain ⟨A',n',c',bad',c0,c1,HN⟩:=TS.is_ hX hB qK;rw [<- hb2.out] at HN;replace HN:=Lh HN
   go_upto_if 103 with (go_at_call 60;refine HN.out.mono ?_;rintro e w1 ⟨rfl,hY⟩)
   refine qa (TS w B ur ⟨3,Row,Col,un,0,[]⟩ none 0) hY ?_;clear hY hX HN c0 c1;intro X hX
   cases b2 with
   | false =>
    have hg2:Hid (zH ur=([],ur)):=Lh (by show (if qX ur qK=true then _ else _)=_;rw [<- hb2.out];rfl);have HR3:Hid (R.1=⟨3,Row,Col,un,0,[]⟩/\R.2=ur):=Lh (by rw [HR2.out,hg2.out];exact ⟨rfl,rfl⟩);clear HR2 hg2 hb2 HLz;obtain ⟨A',n',c',l',bad',hr',hW,R1,R2,R3,R4,tx,hO⟩:=id hX;obtain ⟨c0,c1,f0,f1⟩:=vN R1;obtain ⟨k0,k1,k2,k3,k4,k5,p0,p1,p2,p3,p4,p5⟩:=qV R4;dsimp only at k0 k1 k2 k3 k4 k5
    go_upto_region 41 with fail
    refine qa (TS w B ur ⟨3,Row,Col,un,0,[]⟩ none 0) (hX) ?_;clear hX;clear c0 c1 f0 f1 k0 k1 k2 k3 k4 k5 p0 p1 p2 p3 p4 p5 hr' hW R1 R2 R3 R4 tx hO;intro X hX;obtain ⟨A',n',c',l',bad',hr',hW,R1,R2,R3,R4,tx,hO⟩:=id hX;obtain ⟨c0,c1,f0,f1⟩:=vN R1;obtain ⟨k0,k1,k2,k3,k4,k5,p0,p1,p2,p3,p4,p5⟩:=qV R4;dsimp only at k0 k1 k2 k3 k4 k5;obtain ⟨o0,o1,o2,o3,o4,o5,q0,q1,q2,q3,q4,q5⟩:=qV R2;obtain ⟨m0,m1,v0,v1⟩:=vN R3;dsimp only at o0 o1 o2 o3 o4 o5;have HF:=Lh (qH (c:=⟨3,Row,Col,un,0,[]⟩) hB hr' hW R2 R3 tx hO)
    go_region_law (fail)
    all_goals go_wp2
    all_goals rw [HR3.out.1,HR3.out.2]
    all_goals exact bodyPost_ret (jg rfl _ _ (w.heap.size+1) (w.heap.size+2) 71 107 _ _ (0,0) (0,0) _ _ rfl HF.out.1 underlying71 rfl yo rfl HF.out.2.1 underlying107 rfl qr) rfl ⟨_,_,_,_,_,_,bad',rfl,hr',HF.out.2.2.1,HF.out.2.2.2.1,HF.out.2.2.2.2⟩
   | true =>
    obtain ⟨u2,hu2⟩ : ∃ u,Hid (u=(ur).bind (skO qK)):=⟨_,Lh rfl⟩
    obtain ⟨g,hg⟩ : ∃ g,Hid (g=zH ur):=⟨_,Lh rfl⟩
    have hg2:Hid (g=qkY u2):=Lh (by rw [hg.out,hu2.out];show (if qX ur qK=true then _ else _)=_;rw [<- hb2.out];rfl);have HR3:Hid (R.1=⟨3,Row,Col,un,0,g.1⟩/\R.2=g.2):=Lh (by rw [HR2.out,hg.out];exact ⟨rfl,rfl⟩);have HLu : ∀ l,u2=some l->l.length<=1000:=by rw [hu2.out];exact HLz.out.sk _
    have hun:u2≠none:=by rw [hu2.out];exact qlc hb2.out.symm
    clear HR2 hg hb2 HLz
    go_upto_region 29 with fail
    obtain ⟨A',n',c',l',bad',hr',hW,R1,R2,R3,R4,tx,hO⟩:=id hX;obtain ⟨c0,c1,f0,f1⟩:=vN R1;obtain ⟨k0,k1,k2,k3,k4,k5,p0,p1,p2,p3,p4,p5⟩:=qV R4;dsimp only at k0 k1 k2 k3 k4 k5;have HK:=Lh (j6 ur _ qK B X ⟨A',n',c',l',bad',rfl,hW,hr'⟩ (Lj hB tx.size));rw [<- hu2.out] at HK;have HTx:Hid (∀ (v':Value) (w':World),TV w' B u2 v'->Below w.heap.size w w'->Calls prog 84 #[v'] w' (TxEnd w' B (u2.bind qae))):=Lh fun v' w' hv hb=>ttext_ u2 v' B w' hv (Lj hB hb.size) HLu hun (HT.out.below hb)
    clear HLu hu2 hun
    go_upto_region 41 with (first
     | (go_at_call 63;refine HK.out.mono ?_;rintro e w1 ⟨A1,n1,cc1,l1,qmK,rfl,hW1,hr1,hb1⟩;have tx1:=tx.trans (hb1.mono (by have:=hX.size;omega)))
     | (go_at_call 84;refine (HTx.out _ _ ⟨A1,n1,cc1,l1,qmK,rfl,hW1,hr1⟩ tx1).mono ?_;rintro e w2 ⟨A2,G,c2,A3,n3,c3,l3,bad3,rfl,ho2,hW3,hr3,hb3,hG⟩;have hb4:=hb1.trans (hb3.mono hb1.size);have hY:=hX.below hB hb4;clear c0 c1 f0 f1 k0 k1 k2 k3 k4 k5 p0 p1 p2 p3 p4 p5 hr' hW R1 R2 R3 R4 tx hO;(obtain ⟨A',n',c',l',bad',hr',hW,R1,R2,R3,R4,tx,hO⟩:=id hY;obtain ⟨c0,c1,f0,f1⟩:=vN R1;obtain ⟨k0,k1,k2,k3,k4,k5,p0,p1,p2,p3,p4,p5⟩:=qV R4;dsimp only at k0 k1 k2 k3 k4 k5)))
    have hgg:g=(G,(u2.bind qae).map (·.2)):=by
     rw [hg2.out,qkY,<- hG]
     cases u2.bind qae <;> rfl
    have hz1:=hX.size;have hz2:=hb1.size;refine qa (TS w B g.2 ⟨3,Row,Col,un,0,g.1⟩ A2 c2) (by rw [hgg];exact (hY.glyphs hB (qt ho2 L0)).turn hB (hW3.below ((Le B w2).setCell (p:=⟨w.heap.size+3,5,none⟩) L7 (.slice A2 G.length c2))) hr3) ?_;clear hY hX hW1 hr1 hb1 ho2 hW3 hr3 hb3 hG hgg HTx HK hg2 tx1 hb4 hz1 hz2;clear c0 c1 f0 f1 k0 k1 k2 k3 k4 k5 p0 p1 p2 p3 p4 p5 hr' hW R1 R2 R3 R4 tx hO;intro X hX;obtain ⟨G1,gr⟩:=g;obtain ⟨A',n',c',l',bad',hr',hW,R1,R2,R3,R4,tx,hO⟩:=id hX;obtain ⟨c0,c1,f0,f1⟩:=vN R1;obtain ⟨k0,k1,k2,k3,k4,k5,p0,p1,p2,p3,p4,p5⟩:=qV R4;dsimp only at k0 k1 k2 k3 k4 k5;obtain ⟨o0,o1,o2,o3,o4,o5,q0,q1,q2,q3,q4,q5⟩:=qV R2;obtain ⟨m0,m1,v0,v1⟩:=vN R3;dsimp only at o0 o1 o2 o3 o4 o5;have HF:=Lh (qH (c:=⟨3,Row,Col,un,0,G1⟩) hB hr' hW R2 R3 tx hO)
    go_region_law (fail)
    all_goals go_wp2
    all_goals rw [HR3.out.1,HR3.out.2]
    all_goals exact bodyPost_ret (jg rfl _ _ (w.heap.size+1) (w.heap.size+2) 71 107 _ _ (0,0) (0,0) _ _ rfl HF.out.1 underlying71 rfl yo rfl HF.out.2.1 underlying107 rfl qr) rfl ⟨_,_,_,_,_,_,bad',rfl,hr',HF.out.2.2.1,HF.out.2.2.2.1,HF.out.2.2.2.2⟩
 | false =>
  have HR2:Hid (R=(⟨3,Row,Col,0,0,(zH yr).1⟩,(zH yr).2)):=Lh (by rw [HR1.out,delV,<- hs4.out];rfl);have HLz:=HLy;clear HR1 hs4 HLy;obtain ⟨A',n',c',l',bad',hr',hW,R1,R2,R3,R4,tx,hO⟩:=id hX;obtain ⟨c0,c1,f0,f1⟩:=vN R1;obtain ⟨k0,k1,k2,k3,k4,k5,p0,p1,p2,p3,p4,p5⟩:=qV R4;dsimp only at k0 k1 k2 k3 k4 k5
  go_upto_region 28 with fail
  refine qa (TS w B yr ⟨3,Row,Col,0,0,[]⟩ none 0) (hX) ?_;clear hX;clear c0 c1 f0 f1 k0 k1 k2 k3 k4 k5 p0 p1 p2 p3 p4 p5 hr' hW R1 R2 R3 R4 tx hO;intro X hX;obtain ⟨b2,hb2⟩ : ∃ b,Hid (b=qX yr qK):=⟨_,Lh rfl⟩
  obtain ⟨A',n',c',bad',c0,c1,HN⟩:=TS.is_ hX hB qK;rw [<- hb2.out] at HN;replace HN:=Lh HN
  go_upto_if 103 with (go_at_call 60;refine HN.out.mono ?_;rintro e w1 ⟨rfl,hY⟩)
  refine qa (TS w B yr ⟨3,Row,Col,0,0,[]⟩ none 0) hY ?_;clear hY hX HN c0 c1;intro X hX
  cases b2 with
  | false =>
   have hg2:Hid (zH yr=([],yr)):=Lh (by show (if qX yr qK=true then _ else _)=_;rw [<- hb2.out];rfl);have HR3:Hid (R.1=⟨3,Row,Col,0,0,[]⟩/\R.2=yr):=Lh (by rw [HR2.out,hg2.out];exact ⟨rfl,rfl⟩);clear HR2 hg2 hb2 HLz;obtain ⟨A',n',c',l',bad',hr',hW,R1,R2,R3,R4,tx,hO⟩:=id hX;obtain ⟨c0,c1,f0,f1⟩:=vN R1;obtain ⟨k0,k1,k2,k3,k4,k5,p0,p1,p2,p3,p4,p5⟩:=qV R4;dsimp only at k0 k1 k2 k3 k4 k5
   go_upto_region 41 with fail
   refine qa (TS w B yr ⟨3,Row,Col,0,0,[]⟩ none 0) (hX) ?_;clear hX;clear c0 c1 f0 f1 k0 k1 k2 k3 k4 k5 p0 p1 p2 p3 p4 p5 hr' hW R1 R2 R3 R4 tx hO;intro X hX;obtain ⟨A',n',c',l',bad',hr',hW,R1,R2,R3,R4,tx,hO⟩:=id hX;obtain ⟨c0,c1,f0,f1⟩:=vN R1;obtain ⟨k0,k1,k2,k3,k4,k5,p0,p1,p2,p3,p4,p5⟩:=qV R4;dsimp only at k0 k1 k2 k3 k4 k5;obtain ⟨o0,o1,o2,o3,o4,o5,q0,q1,q2,q3,q4,q5⟩:=qV R2;obtain ⟨m0,m1,v0,v1⟩:=vN R3;dsimp only at o0 o1 o2 o3 o4 o5;have HF:=Lh (qH (c:=⟨3,Row,Col,0,0,[]⟩) hB hr' hW R2 R3 tx hO)
   go_region_law (fail)
   all_goals go_wp2
   all_goals rw [HR3.out.1,HR3.out.2]
   all_goals exact bodyPost_ret (jg rfl _ _ (w.heap.size+1) (w.heap.size+2) 71 107 _ _ (0,0) (0,0) _ _ rfl HF.out.1 underlying71 rfl yo rfl HF.out.2.1 underlying107 rfl qr) rfl ⟨_,_,_,_,_,_,bad',rfl,hr',HF.out.2.2.1,HF.out.2.2.2.1,HF.out.2.2.2.2⟩
  | true =>
   obtain ⟨u2,hu2⟩ : ∃ u,Hid (u=(yr).bind (skO qK)):=⟨_,Lh rfl⟩
   obtain ⟨g,hg⟩ : ∃ g,Hid (g=zH yr):=⟨_,Lh rfl⟩
   have hg2:Hid (g=qkY u2):=Lh (by rw [hg.out,hu2.out];show (if qX yr qK=true then _ else _)=_;rw [<- hb2.out];rfl);have HR3:Hid (R.1=⟨3,Row,Col,0,0,g.1⟩/\R.2=g.2):=Lh (by rw [HR2.out,hg.out];exact ⟨rfl,rfl⟩);have HLu : ∀ l,u2=some l->l.length<=1000:=by rw [hu2.out];exact HLz.out.sk _
   have hun:u2≠none:=by rw [hu2.out];exact qlc hb2.out.symm
   clear HR2 hg hb2 HLz
   go_upto_region 29 with fail
   obtain ⟨A',n',c',l',bad',hr',hW,R1,R2,R3,R4,tx,hO⟩:=id hX;obtain ⟨c0,c1,f0,f1⟩:=vN R1;obtain ⟨k0,k1,k2,k3,k4,k5,p0,p1,p2,p3,p4,p5⟩:=qV R4;dsimp only at k0 k1 k2 k3 k4 k5;have HK:=Lh (j6 yr _ qK B X ⟨A',n',c',l',bad',rfl,hW,hr'⟩ (Lj hB tx.size));rw [<- hu2.out] at HK;have HTx:Hid (∀ (v':Value) (w':World),TV w' B u2 v'->Below w.heap.size w w'->Calls prog 84 #[v'] w' (TxEnd w' B (u2.bind qae))):=Lh fun v' w' hv hb=>ttext_ u2 v' B w' hv (Lj hB hb.size) HLu hun (HT.out.below hb)
   clear HLu hu2 hun
   go_upto_region 41 with (first
    | (go_at_call 63;refine HK.out.mono ?_;rintro e w1 ⟨A1,n1,cc1,l1,qmK,rfl,hW1,hr1,hb1⟩;have tx1:=tx.trans (hb1.mono (by have:=hX.size;omega)))
    | (go_at_call 84;refine (HTx.out _ _ ⟨A1,n1,cc1,l1,qmK,rfl,hW1,hr1⟩ tx1).mono ?_;rintro e w2 ⟨A2,G,c2,A3,n3,c3,l3,bad3,rfl,ho2,hW3,hr3,hb3,hG⟩;have hb4:=hb1.trans (hb3.mono hb1.size);have hY:=hX.below hB hb4;clear c0 c1 f0 f1 k0 k1 k2 k3 k4 k5 p0 p1 p2 p3 p4 p5 hr' hW R1 R2 R3 R4 tx hO;(obtain ⟨A',n',c',l',bad',hr',hW,R1,R2,R3,R4,tx,hO⟩:=id hY;obtain ⟨c0,c1,f0,f1⟩:=vN R1;obtain ⟨k0,k1,k2,k3,k4,k5,p0,p1,p2,p3,p4,p5⟩:=qV R4;dsimp only at k0 k1 k2 k3 k4 k5)))
   have hgg:g=(G,(u2.bind qae).map (·.2)):=by
    rw [hg2.out,qkY,<- hG]
    cases u2.bind qae <;> rfl
   have hz1:=hX.size;have hz2:=hb1.size;refine qa (TS w B g.2 ⟨3,Row,Col,0,0,g.1⟩ A2 c2) (by rw [hgg];exact (hY.glyphs hB (qt ho2 L0)).turn hB (hW3.below ((Le B w2).setCell (p:=⟨w.heap.size+3,5,none⟩) L7 (.slice A2 G.length c2))) hr3) ?_;clear hY hX hW1 hr1 hb1 ho2 hW3 hr3 hb3 hG hgg HTx HK hg2 tx1 hb4 hz1 hz2;clear c0 c1 f0 f1 k0 k1 k2 k3 k4 k5 p0 p1 p2 p3 p4 p5 hr' hW R1 R2 R3 R4 tx hO;intro X hX;obtain ⟨G1,gr⟩:=g;obtain ⟨A',n',c',l',bad',hr',hW,R1,R2,R3,R4,tx,hO⟩:=id hX;obtain ⟨c0,c1,f0,f1⟩:=vN R1;obtain ⟨k0,k1,k2,k3,k4,k5,p0,p1,p2,p3,p4,p5⟩:=qV R4;dsimp only at k0 k1 k2 k3 k4 k5;obtain ⟨o0,o1,o2,o3,o4,o5,q0,q1,q2,q3,q4,q5⟩:=qV R2;obtain ⟨m0,m1,v0,v1⟩:=vN R3;dsimp only at o0 o1 o2 o3 o4 o5;have HF:=Lh (qH (c:=⟨3,Row,Col,0,0,G1⟩) hB hr' hW R2 R3 tx hO)
   go_region_law (fail)
   all_goals go_wp2
   all_goals rw [HR3.out.1,HR3.out.2]
   all_goals exact bodyPost_ret (jg rfl _ _ (w.heap.size+1) (w.heap.size+2) 71 107 _ _ (0,0) (0,0) _ _ rfl HF.out.1 underlying71 rfl yo rfl HF.out.2.1 underlying107 rfl qr) rfl ⟨_,_,_,_,_,_,bad',rfl,hr',HF.out.2.2.1,HF.out.2.2.2.1,HF.out.2.2.2.2⟩
theorem qlt (l:List ByteArray) (A:Option Addr) (n c:Nat) (w:World) (B:Nat) (hW:WdR w B l A n c) (hB:B<=w.heap.size) (hl:l.length<=1000) (ht:Tb w) (h1:qX (some l) jS=false) (h2:qX (some l) q8=false) (h3:qX (some l) qI=false) (h4:qX (some l) q7=true) :
  Calls prog 61 #[.agg #[.slice A n c,.bool true]] w (qle w B (curV (some l)).1 (curV (some l)).2):=by
 obtain ⟨R,hR⟩ : ∃ x,Hid (x=(curV (some l))):=⟨_,Lh rfl⟩
 rw [<- hR.out];have HT:=Lh ht;have HL:Hid (LenVd (some l)):=Lh fun _ e=>by cases e;exact hl
 have hX:=TS.start hW hB;have hs1:Hid (false=qX (some l) jS):=Lh h1.symm;have hs2:Hid (false=qX (some l) q8):=Lh h2.symm;have hs3:Hid (false=qX (some l) qI):=Lh h3.symm;have hs4:Hid (true=qX (some l) q7):=Lh h4.symm;clear hW hl ht h1 h2 h3 h4
 go_enter func61,ntmps61
 go_upto_region 3 with fail
 refine qa (TS w B (some l) ⟨0,0,0,0,0,[]⟩ none 0) hX ?_;clear hX;intro X hX;obtain ⟨A',n',c',bad',c0,c1,HN⟩:=TS.is_ hX hB jS;rw [<- hs1.out] at HN;replace HN:=Lh HN
 go_upto_if 7 with (go_at_call 60;refine HN.out.mono ?_;rintro e w1 ⟨rfl,hY⟩)
 refine qa (TS w B (some l) ⟨0,0,0,0,0,[]⟩ none 0) hY ?_;clear hY hX HN c0 c1;intro X hX;obtain ⟨A',n',c',bad',c0,c1,HN⟩:=TS.is_ hX hB q8;rw [<- hs2.out] at HN;replace HN:=Lh HN
 go_upto_if 25 with (go_at_call 60;refine HN.out.mono ?_;rintro e w1 ⟨rfl,hY⟩)
 refine qa (TS w B (some l) ⟨0,0,0,0,0,[]⟩ none 0) hY ?_;clear hY hX HN c0 c1;intro X hX;obtain ⟨A',n',c',bad',c0,c1,HN⟩:=TS.is_ hX hB qI;rw [<- hs3.out] at HN;replace HN:=Lh HN
 go_upto_if 65 with (go_at_call 60;refine HN.out.mono ?_;rintro e w1 ⟨rfl,hY⟩)
 refine qa (TS w B (some l) ⟨0,0,0,0,0,[]⟩ none 0) hY ?_;clear hY hX HN c0 c1;intro X hX;obtain ⟨A',n',c',bad',c0,c1,HN⟩:=TS.is_ hX hB q7;rw [<- hs4.out] at HN;replace HN:=Lh HN
 go_upto_if 111 with (go_at_call 60;refine HN.out.mono ?_;rintro e w1 ⟨rfl,hY⟩)
 refine qa (TS w B (some l) ⟨0,0,0,0,0,[]⟩ none 0) hY ?_;clear hY hX HN c0 c1;intro X hX;obtain ⟨x,hx⟩ : ∃ x,Hid (x=qv (((some l).bind (skO q7)).bind (skO qI))):=⟨_,Lh rfl⟩
 obtain ⟨y,hy⟩ : ∃ y,Hid (y=qv (x.2.bind (skO qO))):=⟨_,Lh rfl⟩
 have HR2:Hid (R=visV (x.1-1) (y.1-1) y.2):=Lh (by rw [hR.out,hy.out,hx.out];rfl);have hxr:0<=x.1/\x.1<=999999999:=by rw [hx.out];exact qU _
 have hyr:0<=y.1/\y.1<=999999999:=by rw [hy.out];exact qU _
 have e1:IntKind.i64.wrap (x.1-1)=x.1-1:=by rw [Lx];omega
 have e2:IntKind.i64.wrap (y.1-1)=y.1-1:=by rw [Lx];omega
 clear hR hs1 hs2 hs3 hs4 HL;obtain ⟨A',n',c',l',bad',hr',hW,R1,R2,R3,R4,tx,hO⟩:=id hX;obtain ⟨c0,c1,f0,f1⟩:=vN R1;obtain ⟨k0,k1,k2,k3,k4,k5,p0,p1,p2,p3,p4,p5⟩:=qV R4;dsimp only at k0 k1 k2 k3 k4 k5
 go_upto_region 32 with fail
 refine qa (TS w B (some l) ⟨4,0,0,0,0,[]⟩ none 0) (hX.set_ hB 0 4 L2) ?_;clear hX;clear c0 c1 f0 f1 k0 k1 k2 k3 k4 k5 p0 p1 p2 p3 p4 p5 hr' hW R1 R2 R3 R4 tx hO;intro X hX;obtain ⟨A',n',c',bad',c0,c1,HK⟩:=TS.sk_ hX hB q7;replace HK:=Lh HK
 go_upto_region 33 with (go_at_call 63;refine HK.out.mono ?_;rintro e w1 ⟨A1,n1,cc1,qmK,rfl,d0,d1,f0,f1,hY⟩)
 refine qa (TS w B (((some l)).bind (skO q7)) ⟨4,0,0,0,0,[]⟩ none 0) hY ?_;clear hY hX HK c0 c1 d0 d1 f0 f1;intro X hX;obtain ⟨A',n',c',bad',c0,c1,HA⟩:=TS.num_ hX hB HT.out qI 1 L2 hx;replace HA:=Lh HA
 go_upto_region 34 with (go_at_call 64;refine HA.out.mono ?_;rintro e w1 ⟨A1,n1,cc1,qmK,v1,rfl,d0,d1,f0,f1,k0,p0,hY⟩)
 refine qa (TS w B x.2 ⟨4,x.1,0,0,0,[]⟩ none 0) hY ?_;clear hY hX HA c0 c1 d0 d1 f0 f1 k0 p0;intro X hX;obtain ⟨A',n',c',bad',c0,c1,HA⟩:=TS.num_ hX hB HT.out qO 2 L2 hy;replace HA:=Lh HA
 go_upto_region 35 with (go_at_call 64;refine HA.out.mono ?_;rintro e w1 ⟨A1,n1,cc1,qmK,v1,rfl,d0,d1,f0,f1,k0,p0,hY⟩)
 refine qa (TS w B y.2 ⟨4,x.1,y.1,0,0,[]⟩ none 0) hY ?_;clear hY hX HA c0 c1 d0 d1 f0 f1 k0 p0;intro X hX;obtain ⟨A',n',c',l',bad',hr',hW,R1,R2,R3,R4,tx,hO⟩:=id hX;obtain ⟨c0,c1,f0,f1⟩:=vN R1;obtain ⟨k0,k1,k2,k3,k4,k5,p0,p1,p2,p3,p4,p5⟩:=qV R4;dsimp only at k0 k1 k2 k3 k4 k5
 go_upto_region 37 with fail
 refine qa (TS w B y.2 ⟨4,x.1-1,y.1-1,0,0,[]⟩ none 0) ((hX.set_ hB 1 (x.1-1) L2).set_ hB 2 (y.1-1) L2) ?_;clear hX;clear c0 c1 f0 f1 k0 k1 k2 k3 k4 k5 p0 p1 p2 p3 p4 p5 hr' hW R1 R2 R3 R4 tx hO;intro X hX;clear hx hy hxr hyr e1 e2;obtain ⟨xn,xr⟩:=x;obtain ⟨yn,yr⟩:=y;simp only at hX HR2;generalize xn-1=Row at *
 generalize yn-1=Col at *
 obtain ⟨s5,hs5⟩ : ∃ b,Hid (b=qX yr ze):=⟨_,Lh rfl⟩
 obtain ⟨A',n',c',bad',c0,c1,HN⟩:=TS.is_ hX hB ze;rw [<- hs5.out] at HN;replace HN:=Lh HN
 go_upto_if 138 with (go_at_call 60;refine HN.out.mono ?_;rintro e w1 ⟨rfl,hY⟩)
 refine qa (TS w B yr ⟨4,Row,Col,0,0,[]⟩ none 0) hY ?_;clear hY hX HN c0 c1;intro X hX
 cases s5 with
 | true =>
  have HR3:Hid (R.1=⟨4,Row,Col,1,0,[]⟩/\R.2=yr.bind (skO ze)):=Lh (by rw [HR2.out,visV,<- hs5.out];exact ⟨rfl,rfl⟩);clear HR2 hs5;obtain ⟨A',n',c',l',bad',hr',hW,R1,R2,R3,R4,tx,hO⟩:=id hX;obtain ⟨c0,c1,f0,f1⟩:=vN R1;obtain ⟨k0,k1,k2,k3,k4,k5,p0,p1,p2,p3,p4,p5⟩:=qV R4;dsimp only at k0 k1 k2 k3 k4 k5
  go_upto_region 39 with fail
  refine qa (TS w B yr ⟨4,Row,Col,1,0,[]⟩ none 0) (hX.set_ hB 3 1 L2) ?_;clear hX;clear c0 c1 f0 f1 k0 k1 k2 k3 k4 k5 p0 p1 p2 p3 p4 p5 hr' hW R1 R2 R3 R4 tx hO;intro X hX;obtain ⟨A',n',c',bad',c0,c1,HK⟩:=TS.sk_ hX hB ze;replace HK:=Lh HK
  go_upto_region 41 with (go_at_call 63;refine HK.out.mono ?_;rintro e w1 ⟨A1,n1,cc1,qmK,rfl,d0,d1,f0,f1,hY⟩)
  refine qa (TS w B ((yr).bind (skO ze)) ⟨4,Row,Col,1,0,[]⟩ none 0) hY ?_;clear hY hX HK c0 c1 d0 d1 f0 f1;intro X hX;obtain ⟨A',n',c',l',bad',hr',hW,R1,R2,R3,R4,tx,hO⟩:=id hX;obtain ⟨c0,c1,f0,f1⟩:=vN R1;obtain ⟨k0,k1,k2,k3,k4,k5,p0,p1,p2,p3,p4,p5⟩:=qV R4;dsimp only at k0 k1 k2 k3 k4 k5;obtain ⟨o0,o1,o2,o3,o4,o5,q0,q1,q2,q3,q4,q5⟩:=qV R2;obtain ⟨m0,m1,v0,v1⟩:=vN R3;dsimp only at o0 o1 o2 o3 o4 o5;have HF:=Lh (qH (c:=⟨4,Row,Col,1,0,[]⟩) hB hr' hW R2 R3 tx hO)
  go_region_law (fail)
  all_goals go_wp2
  all_goals rw [HR3.out.1,HR3.out.2]
  all_goals exact bodyPost_ret (jg rfl _ _ (w.heap.size+1) (w.heap.size+2) 71 107 _ _ (0,0) (0,0) _ _ rfl HF.out.1 underlying71 rfl yo rfl HF.out.2.1 underlying107 rfl qr) rfl ⟨_,_,_,_,_,_,bad',rfl,hr',HF.out.2.2.1,HF.out.2.2.2.1,HF.out.2.2.2.2⟩
 | false =>
  have HR3:Hid (R.1=⟨4,Row,Col,0,0,[]⟩/\R.2=yr.bind (skO zK)):=Lh (by rw [HR2.out,visV,<- hs5.out];exact ⟨rfl,rfl⟩);clear HR2 hs5
  go_upto_region 40 with fail
  obtain ⟨A',n',c',bad',c0,c1,HK⟩:=TS.sk_ hX hB zK;replace HK:=Lh HK
  go_upto_region 41 with (go_at_call 63;refine HK.out.mono ?_;rintro e w1 ⟨A1,n1,cc1,qmK,rfl,d0,d1,f0,f1,hY⟩)
  refine qa (TS w B ((yr).bind (skO zK)) ⟨4,Row,Col,0,0,[]⟩ none 0) hY ?_;clear hY hX HK c0 c1 d0 d1 f0 f1;intro X hX;obtain ⟨A',n',c',l',bad',hr',hW,R1,R2,R3,R4,tx,hO⟩:=id hX;obtain ⟨c0,c1,f0,f1⟩:=vN R1;obtain ⟨k0,k1,k2,k3,k4,k5,p0,p1,p2,p3,p4,p5⟩:=qV R4;dsimp only at k0 k1 k2 k3 k4 k5;obtain ⟨o0,o1,o2,o3,o4,o5,q0,q1,q2,q3,q4,q5⟩:=qV R2;obtain ⟨m0,m1,v0,v1⟩:=vN R3;dsimp only at o0 o1 o2 o3 o4 o5;have HF:=Lh (qH (c:=⟨4,Row,Col,0,0,[]⟩) hB hr' hW R2 R3 tx hO)
  go_region_law (fail)
  all_goals go_wp2
  all_goals rw [HR3.out.1,HR3.out.2]
  all_goals exact bodyPost_ret (jg rfl _ _ (w.heap.size+1) (w.heap.size+2) 71 107 _ _ (0,0) (0,0) _ _ rfl HF.out.1 underlying71 rfl yo rfl HF.out.2.1 underlying107 rfl qr) rfl ⟨_,_,_,_,_,_,bad',rfl,hr',HF.out.2.2.1,HF.out.2.2.2.1,HF.out.2.2.2.2⟩
theorem qlB (l:List ByteArray) (A:Option Addr) (n c:Nat) (w:World) (B:Nat) (hW:WdR w B l A n c) (hB:B<=w.heap.size) (hl:l.length<=1000) (ht:Tb w) (h1:qX (some l) jS=false) (h2:qX (some l) q8=false) (h3:qX (some l) qI=false) (h4:qX (some l) q7=false) :
  Calls prog 61 #[.agg #[.slice A n c,.bool true]] w (qle w B ((⟨0,0,0,0,0,[]⟩,none):Chg × Option (List ByteArray)).1 ((⟨0,0,0,0,0,[]⟩,none):Chg × Option (List ByteArray)).2):=by
 obtain ⟨R,hR⟩ : ∃ x,Hid (x=((⟨0,0,0,0,0,[]⟩,none):Chg × Option (List ByteArray))):=⟨_,Lh rfl⟩
 rw [<- hR.out];have HT:=Lh ht;have HL:Hid (LenVd (some l)):=Lh fun _ e=>by cases e;exact hl
 have hX:=TS.start hW hB;have hs1:Hid (false=qX (some l) jS):=Lh h1.symm;have hs2:Hid (false=qX (some l) q8):=Lh h2.symm;have hs3:Hid (false=qX (some l) qI):=Lh h3.symm;have hs4:Hid (false=qX (some l) q7):=Lh h4.symm;clear hW hl ht h1 h2 h3 h4
 go_enter func61,ntmps61
 go_upto_region 3 with fail
 refine qa (TS w B (some l) ⟨0,0,0,0,0,[]⟩ none 0) hX ?_;clear hX;intro X hX;obtain ⟨A',n',c',bad',c0,c1,HN⟩:=TS.is_ hX hB jS;rw [<- hs1.out] at HN;replace HN:=Lh HN
 go_upto_if 7 with (go_at_call 60;refine HN.out.mono ?_;rintro e w1 ⟨rfl,hY⟩)
 refine qa (TS w B (some l) ⟨0,0,0,0,0,[]⟩ none 0) hY ?_;clear hY hX HN c0 c1;intro X hX;obtain ⟨A',n',c',bad',c0,c1,HN⟩:=TS.is_ hX hB q8;rw [<- hs2.out] at HN;replace HN:=Lh HN
 go_upto_if 25 with (go_at_call 60;refine HN.out.mono ?_;rintro e w1 ⟨rfl,hY⟩)
 refine qa (TS w B (some l) ⟨0,0,0,0,0,[]⟩ none 0) hY ?_;clear hY hX HN c0 c1;intro X hX;obtain ⟨A',n',c',bad',c0,c1,HN⟩:=TS.is_ hX hB qI;rw [<- hs3.out] at HN;replace HN:=Lh HN
 go_upto_if 65 with (go_at_call 60;refine HN.out.mono ?_;rintro e w1 ⟨rfl,hY⟩)
 refine qa (TS w B (some l) ⟨0,0,0,0,0,[]⟩ none 0) hY ?_;clear hY hX HN c0 c1;intro X hX;obtain ⟨A',n',c',bad',c0,c1,HN⟩:=TS.is_ hX hB q7;rw [<- hs4.out] at HN;replace HN:=Lh HN
 go_upto_if 111 with (go_at_call 60;refine HN.out.mono ?_;rintro e w1 ⟨rfl,hY⟩)
 refine qa (TS w B (some l) ⟨0,0,0,0,0,[]⟩ none 0) hY ?_;clear hY hX HN c0 c1;intro X hX;have HR3:Hid (R.1=⟨0,0,0,0,0,[]⟩/\R.2=none):=Lh (by rw [hR.out];exact ⟨rfl,rfl⟩);clear hR hs1 hs2 hs3 hs4 HL;obtain ⟨A',n',c',l',bad',hr',hW,R1,R2,R3,R4,tx,hO⟩:=id hX;obtain ⟨c0,c1,f0,f1⟩:=vN R1;obtain ⟨k0,k1,k2,k3,k4,k5,p0,p1,p2,p3,p4,p5⟩:=qV R4;dsimp only at k0 k1 k2 k3 k4 k5
 go_upto_region 41 with fail
 refine qa (TS w B none ⟨0,0,0,0,0,[]⟩ none 0) (hX.turn hB (A:=none) (n:=0) (cc:=0) (l:=[]) (bad:=true) (WdR.nil X B) rfl) ?_;clear hX;clear c0 c1 f0 f1 k0 k1 k2 k3 k4 k5 p0 p1 p2 p3 p4 p5 hr' hW R1 R2 R3 R4 tx hO;intro X hX;obtain ⟨A',n',c',l',bad',hr',hW,R1,R2,R3,R4,tx,hO⟩:=id hX;obtain ⟨c0,c1,f0,f1⟩:=vN R1;obtain ⟨k0,k1,k2,k3,k4,k5,p0,p1,p2,p3,p4,p5⟩:=qV R4;dsimp only at k0 k1 k2 k3 k4 k5;obtain ⟨o0,o1,o2,o3,o4,o5,q0,q1,q2,q3,q4,q5⟩:=qV R2;obtain ⟨m0,m1,v0,v1⟩:=vN R3;dsimp only at o0 o1 o2 o3 o4 o5;have HF:=Lh (qH (c:=⟨0,0,0,0,0,[]⟩) hB hr' hW R2 R3 tx hO)
 go_region_law (fail)
 all_goals go_wp2
 all_goals rw [HR3.out.1,HR3.out.2]
 all_goals exact bodyPost_ret (jg rfl _ _ (w.heap.size+1) (w.heap.size+2) 71 107 _ _ (0,0) (0,0) _ _ rfl HF.out.1 underlying71 rfl yo rfl HF.out.2.1 underlying107 rfl qr) rfl ⟨_,_,_,_,_,_,bad',rfl,hr',HF.out.2.2.1,HF.out.2.2.2.1,HF.out.2.2.2.2⟩
theorem tchange_ (l:List ByteArray) (A:Option Addr) (n c:Nat) (w:World) (B:Nat) (hW:WdR w B l A n c) (hB:B<=w.heap.size) (hl:l.length<=1000) (ht:Tb w) :
  Calls prog 61 #[.agg #[.slice A n c,.bool true]] w (qle w B (zU (some l)).1 (zU (some l)).2):=by
 unfold zU
 cases h1:qX (some l) jS with
 | true=>exact qlw l A n c w B hW hB hl ht h1
 | false =>
  cases h2:qX (some l) q8 with
  | true=>exact qly l A n c w B hW hB hl ht h1 h2
  | false =>
   cases h3:qX (some l) qI with
   | true=>exact qlz l A n c w B hW hB hl ht h1 h2 h3
   | false =>
    cases h4:qX (some l) q7 with
    | true=>exact qlt l A n c w B hW hB hl ht h1 h2 h3 h4
    | false=>exact qlB l A n c w B hW hB hl ht h1 h2 h3 h4
end Go.Proofs.YtggegijlfaipfaaGreatDoor
