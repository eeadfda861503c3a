/- Joined: Rw5. -/
import Derived.Test.YtbogmeeijdaijaaGreatDoorYEC
set_option linter.unusedVariables false
set_option linter.unusedSimpArgs false
set_option linter.unnecessarySimpa false
set_option maxHeartbeats 8000000
namespace Go.Proofs.YtbogmeeijdaijaaGreatDoor
open Go.Proofs.Tryz Go.RowKit
set_option maxRecDepth 20000
def NmA (w:World) (b:Nat):Prop:=∀ i:Nat,i<4->w.cell? ⟨b,i,none⟩=some (.string (vP i))
def kQ (q:Spk) (l:List Gl) (n:Nat):Bool:=match l with
 | a::b::_=>decide (n=1)&&decide (a.text.data.toList=[32])&&decide (q.before≠0)&&decide (a.style=q.style)&&decide (b.style=q.style)&&decide (qd b≠0)
 | _=>false
def skip2 (q:Spk) (s:Setts) (l:List Gl):Bool:=match l with
 | _::b::t=>decide (q.before≠3) || !(qL ((qq (pcL (b::t) s.rep) s.spell s.digits).headD ⟨#[]⟩))
 | _=>false
theorem qju (q:Spk) (s:Setts) (l:List Gl) (n:Nat):jJ q s l n=(kQ q l n&&skip2 q s l):=by
 match l with
 | []=>rfl
 | [_]=>rfl
 | a::b::t =>
  unfold jJ kQ skip2 pcL;simp only;rw [Bool.eq_iff_iff];simp only [Bool.and_eq_true]
  constructor
  ·rintro ⟨⟨⟨⟨⟨⟨a1,a2⟩,a3⟩,a4⟩,a5⟩,a6⟩,a7⟩;exact ⟨⟨⟨⟨⟨⟨a1,a2⟩,a3⟩,a4⟩,a6⟩,a5⟩,a7⟩
  ·rintro ⟨⟨⟨⟨⟨⟨a1,a2⟩,a3⟩,a4⟩,a6⟩,a5⟩,a7⟩;exact ⟨⟨⟨⟨⟨⟨a1,a2⟩,a3⟩,a4⟩,a5⟩,a6⟩,a7⟩
theorem kh {q:Spk} {g:Gl} {t:List Gl} {n:Nat} (h:kQ q (g::t) n=true):n=1/\g.text.data.toList=[32]/\q.before≠0/\g.style=q.style/\∃ b u,t=b::u/\b.style=q.style/\qd b≠0:=by
 cases t with
 | nil=>cases h
 | cons b u =>
  unfold kQ at h;simp only [Bool.and_eq_true,decide_eq_true_eq] at h;obtain ⟨⟨⟨⟨⟨a1,a2⟩,a3⟩,a4⟩,a5⟩,a6⟩:=h;exact ⟨a1,a2,a3,a4,b,u,rfl,a5,a6⟩
theorem qi2 {q:Spk} {g b:Gl} {u:List Gl} {n:Nat} (a1:n=1) (a2:g.text.data.toList=[32]) (a3:q.before≠0) (a4:g.style=q.style) (a5:b.style=q.style) (a6:qd b≠0):kQ q (g::b::u) n=true:=by
 unfold kQ;simp only [Bool.and_eq_true,decide_eq_true_eq];exact ⟨⟨⟨⟨⟨a1,a2⟩,a3⟩,a4⟩,a5⟩,a6⟩
theorem qfE {b:Bool} (h:b=true->False):b=false:=by
 cases b with
 | false=>rfl
 | true=>exact absurd rfl h
def RwR (w X:World) (S:Setts) (R:List ByteArray) (l:List Gl) (i:Nat) (q:Spk) (v6 v7 v8 v9:Value) (wr:World):Prop :=
 v7 = .int .i64 q.style/\v8 = .int .u8 (rkV q.before)/\v9 = .bool q.silent/\Ow wr (w.heap.size+2) 9 1 v6 q.out.length (sv q.out)/\Below (w.heap.size+2) X wr/\Hid (WoI S R q (l.drop i))
theorem qcb {k:Nat} (h:k<=3):(rkV k=46)↔k=0:=by
 unfold rkV
 repeat' split
 all_goals omega
theorem qko {k:Nat} (h:k<=3):(rkV k=48)↔k=3:=by
 unfold rkV
 repeat' split
 all_goals omega
def RwP (w X:World) (b6:Nat) (OUT WS:List ByteArray) (A7:Option Addr) (c7:Nat) (v6:Value) (wx:World):Prop :=
 Ow wx (w.heap.size+2) 9 1 v6 OUT.length (sv OUT)/\wx.ownsRow b6 9 1 (.slice A7 WS.length c7) WS.length (sv WS)/\Below (w.heap.size+2) X wx/\b6<=wx.heap.size
theorem RwP.stay {w X:World} {b6:Nat} {OUT WS:List ByteArray} {A6 A7:Option Addr} {c6 c7:Nat} {wx wy:World} (h6:wx.ownsRow (w.heap.size+2) 9 1 (.slice A6 OUT.length c6) OUT.length (sv OUT)) (h7:wx.ownsRow b6 9 1 (.slice A7 WS.length c7) WS.length (sv WS))
  (hX:Below (w.heap.size+2) X wx) (hz:b6<=wx.heap.size) (hg:w.heap.size+2<=wx.heap.size) (hy:Below wx.heap.size wx wy):RwP w X b6 (OUT++[]) WS A7 c7 (.slice A6 OUT.length c6) wy:=by
 rw [List.append_nil];exact ⟨⟨_,_,rfl,qb h6 hy⟩,qb h7 hy,hX.trans (hy.mono hg),by have:=hy.size;omega⟩
theorem RwP.put {w X w0:World} {b6:Nat} {OUT WS:List ByteArray} {A6 A7 A':Option Addr} {c6 c7 c':Nat} {wx wy wz:World} {s:ByteArray} (h0:w0.ownsRow (w.heap.size+2) 9 1 (.slice A6 OUT.length c6) OUT.length (sv OUT)) (hb:w0.heap.size<=b6)
  (h7:wx.ownsRow b6 9 1 (.slice A7 WS.length c7) WS.length (sv WS))
  (hX:Below (w.heap.size+2) X wx) (hz:b6<=wx.heap.size) (hg:w.heap.size+2<=wx.heap.size) (hy:Below wx.heap.size wx wy)
  (hown:wz.ownsRow (w.heap.size+2) 9 1 (.slice A' (OUT.length+1) c') (OUT.length+1) (sv OUT++sv [s])) (hbel:Below (w.heap.size+2) wy wz) (hgr:wy.grownBy wz (Value.slice A6 OUT.length c6).ownBlock) :
  RwP w X b6 (OUT++[s]) WS A7 c7 (.slice A' (OUT.length+1) c') wz:=by
 have e1:(OUT++[s]).length=OUT.length+1:=by simp
 have e2:sv (OUT++[s])=sv OUT++sv [s]:=by simp [sv]
 have z1:=hy.size;have z2:=hbel.size;refine ⟨by rw [e1,e2];exact ⟨_,_,rfl,hown⟩,(qb h7 hy).kept hgr (qdI h0 h7 hb),(hX.trans (hy.mono hg)).trans hbel,by omega⟩
theorem rwords (l:List Gl) (A:Option Addr) (n c B:Nat) (r:Int) (d sp:Bool) (p:Int) (co:Bool) (k:Int) (w:World) (ht:Tb w) (hn:l.length<=1000) (hnc:n<=c) (hcx:c<=maxLen) (hok : ∀ x∈l,GW x) (hp0:0<=p)
  (rd:Rd w B 3 A n (qi l)) (hB:B<=w.heap.size) :
  Calls prog 50 #[.slice A n c,stV r d sp p co k] w (ql 9 1 id w (qz l ⟨d,sp,p⟩).length (sv (qz l ⟨d,sp,p⟩))):=by
 obtain rfl:=jK rd;have HI0:=Lh (WoI.start ⟨d,sp,p⟩ l hn hok);generalize qz l ⟨d,sp,p⟩=R at *
 have HRd:=Lh rd;have HT:=Lh ht;have hx63:c<=9223372036854775807:=by unfold maxLen at hcx;omega
 have HPc:Hid (∀ (j:Nat) (g:Gl) (t:List Gl),l.drop j=g::t->∀ w',Below w.heap.size w w'->Calls prog 84 #[.slice A l.length c,.int .i64 j,.int .i64 p] w' (qh (.int .i64 (qo (g::t) p:Nat)) w')):=Lh fun j g t hd w' hw =>
  rpiece l j g t hd p hp0 A _ c B w' L0 (fun x hx=>by have:=(hok x hx).1.2;omega) (rd.below (hw.mono hB)) (Lj hB hw.size)
 have HKd:Hid (∀ g∈l,∀ w',Calls prog 85 #[glV g] w' (qh (.int .u8 (rkV (qd g))) w')):=Lh fun g hg w'=>qfZ g (by have:=(hok g hg).1.2;omega) w'
 have HNum:Hid (∀ s w',Below w.heap.size w w'->Calls prog 87 #[.string s] w' (qh (.bool (qL s)) w')):=Lh fun s w' hw=>rnumber_ s w' (ht.below hw)
 have HSp:Hid (∀ (j:Nat) (g:Gl) (t:List Gl) (b o:Nat),A=some ⟨b,o,none⟩->l.drop j=g::t->∀ w',Below w.heap.size w w'->Calls prog 86 #[.slice (some ⟨b,o+j * 3,none⟩) (qo (g::t) p) (c-j),stV r d sp p co k] w' (ql 9 1 id w' (qq (pcL (g::t) p) sp d).length (sv (qq (pcL (g::t) p) sp d)))):=Lh fun j g t b o hA hd w' hw=>by
  subst hA;have hjl:j<l.length:=by
   rcases Nat.lt_or_ge j l.length with h | h
   ·exact h
   ·rw [List.drop_eq_nil_of_le h] at hd;cases hd
  have hdl:(g::t).length=l.length-j:=by rw [<- hd,List.length_drop]
  have hdl0:=hdl;have hpl:=(vz (g:=g) (t:=t) p).2;rw [Lp] at hdl;have hpc:=kn g t p;have hP:PieceOK (pcL (g::t) p):=qb7 (l:=g::t) rfl L0 (fun x hx=>(hok x (List.mem_of_mem_drop (i:=j) (by rw [hd];exact hx))).1) p;have hcut:=(rd.below (hw.mono hB)).cut (k:=j) L0 hnc;rw [if_neg L0] at hcut;simp only [Option.map_some,vl] at hcut;have htk:=hcut.take (k:=qo (g::t) p) L0;rw [<- qbO,hd,<- kM] at htk;exact rspoken _ g _ hpc hP _ _ (c-j) B r d sp p co k w' (ht.below hw) htk (Lj hB hw.size)
 have HC:Hid (∀ (j:Nat) (g:Gl) (t:List Gl),l.drop j=g::t->∃ b o,A=some ⟨b,o,none⟩/\b<B/\∀ w',Below w.heap.size w w'->(w'.cell? ⟨b,(o+j * 3),none⟩=some (.string g.text)/\w'.cell? ⟨b,(o+j * 3)+1,none⟩=some (.bool g.wide)/\w'.cell? ⟨b,(o+j * 3)+2,none⟩=some (.int .i64 g.style))):=Lh fun j g t hd=>by
  have hjl:j<l.length:=by
   rcases Nat.lt_or_ge j l.length with h | h
   ·exact h
   ·rw [List.drop_eq_nil_of_le h] at hd;cases hd
  have hg:l[j]=g:=by
   rw [Ls hjl] at hd
   injection hd
  obtain ⟨b,o,e,hb,_⟩:=jE rd hjl rfl;refine ⟨b,o,e,hb,fun w' hw=>?_⟩;obtain ⟨b',o',e',_,c0,c1,c2⟩:=jE (rd.below (hw.mono hB)) hjl rfl;rw [e] at e';simp only [Option.some.injEq,Addr.mk.injEq,and_true] at e';obtain ⟨rfl,rfl⟩:=e';rw [hg] at c0 c1 c2;exact ⟨c0,c1,c2⟩
 have HMem:Hid (∀ (j:Nat) (g:Gl) (t:List Gl),l.drop j=g::t->g∈l):=Lh fun j g t hd=>List.mem_of_mem_drop (i:=j) (by rw [hd];simp)
 have HOk:=Lh hok;clear hok rd ht
 go_enter func50,ntmps50
 go_upto_region 3 with fail
 refine qa (fun X=>StBox X r d sp p co k w.heap.size/\NmA X (w.heap.size+1)/\Below w.heap.size w X/\X.ownsRow (w.heap.size+2) 9 1 (.slice (some ⟨w.heap.size+2,0,none⟩) 0 0) 0 []/\X.heap.size=w.heap.size+3) ?_ ?_
 ·have b1:Below (w.heap.size+1) (w.alloc (.cells #[.int .i64 r,.bool d,.bool sp,.int .i64 p,.bool co,.int .i64 k] 38)) ((w.alloc (.cells #[.int .i64 r,.bool d,.bool sp,.int .i64 p,.bool co,.int .i64 k] 38)).alloc (.cells #[.string ⟨#[112,108,97,105,110]⟩,.string ⟨#[115,116,114,111,110,103]⟩,.string ⟨#[105,110,118,101,114,115,101]⟩,.string ⟨#[104,105,100,100,101,110]⟩] 9)):=Below.alloc (Le _ _) L1 _;have hnm:NmA ((w.alloc (.cells #[.int .i64 r,.bool d,.bool sp,.int .i64 p,.bool co,.int .i64 k] 38)).alloc (.cells #[.string ⟨#[112,108,97,105,110]⟩,.string ⟨#[115,116,114,111,110,103]⟩,.string ⟨#[105,110,118,101,114,115,101]⟩,.string ⟨#[104,105,100,100,101,110]⟩] 9)) (w.heap.size+1):=fun i hi=>by
   have h:=qu (w.alloc (.cells #[.int .i64 r,.bool d,.bool sp,.int .i64 p,.bool co,.int .i64 k] 38)) #[.string ⟨#[112,108,97,105,110]⟩,.string ⟨#[115,116,114,111,110,103]⟩,.string ⟨#[105,110,118,101,114,115,101]⟩,.string ⟨#[104,105,100,100,101,110]⟩] 9 i;rw [Li] at h;rw [h]
   match i,hi with
   | 0,_=>rfl
   | 1,_=>rfl
   | 2,_=>rfl
   | 3,_=>rfl
  have b2:=Below.alloc (Le (w.heap.size+2) ((w.alloc (.cells #[.int .i64 r,.bool d,.bool sp,.int .i64 p,.bool co,.int .i64 k] 38)).alloc (.cells #[.string ⟨#[112,108,97,105,110]⟩,.string ⟨#[115,116,114,111,110,103]⟩,.string ⟨#[105,110,118,101,114,115,101]⟩,.string ⟨#[104,105,100,100,101,110]⟩] 9))) L1 (.cells #[] 9);refine ⟨((StBox.new w r d sp p co k 38).below b1 L0).below b2 L0,fun i hi=>(b2.cell L7).trans (hnm i hi),((Below.alloc (Le _ _) (Ld _) _).alloc L1 _).alloc (by simp;omega) _,?_,by simp⟩;exact qx (xs:=[]) (n:=0) L1 rfl (Ld _) L0
 rintro X ⟨hst,hnm,hbX,hoX,hzX⟩;have HSt:Hid (∀ wx,Below (w.heap.size+2) X wx->StBox wx r d sp p co k w.heap.size/\NmA wx (w.heap.size+1)/\Below w.heap.size w wx/\w.heap.size+3<=wx.heap.size):=Lh fun wx h=>⟨hst.below h L0,fun i hi=>(h.cell L7).trans (hnm i hi),hbX.trans (h.mono L0),by have:=h.size;omega⟩
 clear hst hnm hbX;go_wp2
 go_loopw [6,7,8,9,10] (fun v6 v7 v8 v9 x wr=>∃ (q:Spk) (i:Nat),i<=l.length/\x = .int .i64 i/\q.before<=3/\RwR w X ⟨d,sp,p⟩ R l i q v6 v7 v8 v9 wr) (fun _ _ _ _ x _=>l.length-(intOf x).toNat)
 case atStart=>exact ⟨⟨[],0,0,false⟩,0,Nat.zero_le _,rfl,Nat.zero_le _,rfl,rfl,rfl,⟨_,_,rfl,hoX⟩,Le _ _,HI0⟩
 case round =>
  as_aux_lemma =>
  clear hoX hzX HI0;obtain ⟨q,i,hi,rfl,hq3,rfl,rfl,rfl,⟨A6,c6,rfl,o6⟩,hb,HW⟩:=hrel;obtain ⟨⟨C0,C1,C2,C3,C4,C5⟩,hnm,hbw,hz⟩:=HSt.out _ hb
  by_cases hlt:i<l.length
  ·obtain ⟨g,t,hd⟩ : ∃ g t,l.drop i=g::t:=⟨l[i],l.drop (i+1),Ls hlt⟩
   obtain ⟨b,o,hA,hbB,HCi⟩:=HC.out i g t hd;subst hA;have hdl:t.length+1=l.length-i:=by
    have:=congrArg List.length hd;rw [List.length_drop,Lp] at this
    omega
   obtain ⟨hnp1,hnp2⟩:=vz (g:=g) (t:=t) p;have HPi:=Lh (HPc.out i g t hd);have HSi:=Lh (HSp.out i g t b o rfl hd);have HKi:=Lh (HKd.out g (HMem.out i g t hd));have hkg:=jX g;have HW':=HW.out;rw [hd] at HW';have hGW:=HW'.2.1 g L1;have hql:=HW'.2.2.1;have hP:PieceOK (pcL (g::t) p):=qb7 (l:=g::t) rfl HW'.len (fun x hx=>(HW'.2.1 x hx).1) p;have hwl:=qdV (kn g t p) hP sp d;have hwne:=qem (kn g t p) hP hGW.1 sp d;have HWs:=Lh (fun (h:jJ q ⟨d,sp,p⟩ (g::t) (qo (g::t) p)=true)=>WoI.skip (S:=⟨d,sp,p⟩) HW' h);have HWy:=Lh (fun (h:jJ q ⟨d,sp,p⟩ (g::t) (qo (g::t) p)=false)=>WoI.say (S:=⟨d,sp,p⟩) HW' h);have HDr:Hid (∀ m,(g::t).drop m=l.drop (i+m)):=Lh fun m=>by rw [<- hd,List.drop_drop]
   have hqo:q.out.length<=50000000:=by omega
   obtain ⟨WS,hWS⟩ : ∃ x,x=qq (pcL (g::t) p) sp d:=⟨_,rfl⟩
   rw [<- hWS] at HSi hwl hwne;obtain ⟨np,hnp⟩ : ∃ x,x=qo (g::t) p:=⟨_,rfl⟩
   rw [<- hnp] at HPi HSi hnp1 hnp2 HWs HWy;have HNp:=Lh hnp;have HWS:=Lh hWS;clear hnp hWS hP HW' HW;obtain ⟨a0,a1,a2⟩:=HCi wr hbw;have j1:(0:Int)<=i:=by omega
   have j2:(i:Int)<=(i:Int)+np:=by omega
   have j3:(i:Int)+np<=l.length:=by omega
   have j4:(i:Int)+np<=c:=by omega
   have j5:((i:Int)+np).toNat=i+np:=by omega
   have j6:(i:Int)<l.length:=by omega
   have j7 : ¬ c=i:=by omega
   have hHCi:=Lh HCi;clear HCi;obtain ⟨tg,wg,sg⟩:=g;dsimp only at *
   go_upto_region 10 with (first
    | (go_at_call 84;refine (HPi.out _ hbw).mono ?_;rintro e w5 ⟨rfl,hb5⟩;have t5:=hbw.trans (hb5.mono hbw.size);have e5:=hb.trans (hb5.mono (by have:=hbw.size;omega));obtain ⟨_,_,_⟩:=hHCi.out _ t5)
    | (go_at_call 85;refine (HKi.out _).mono ?_;rintro e w6 ⟨rfl,hb6⟩;have t6:=t5.trans (hb6.mono t5.size);have e6:=e5.trans (hb6.mono (by have:=hb5.size;omega));obtain ⟨_,_,_⟩:=hHCi.out _ t6))
   have z5:=hb5.size;have z6:=hb6.size;have o66:=qb (qb o6 hb5) hb6;have HO66:=Lh o66;have e7:Below (w.heap.size+2) X w6.drew:=e6.drew;have t7:Below w.heap.size w w6.drew:=t6.drew;obtain ⟨⟨K0,K1,K2,K3,K4,K5⟩,_⟩:=HSt.out _ e6;have j8:(0:Int)<=(i:Int)+np:=by omega
   have j9:i<=i+np:=by omega
   have j10:i+np-i=np:=by omega
   have jw:IntKind.i64.wrap ((i:Int)+np)=(i:Int)+np:=by rw [Lx];omega
   go_region_law (first
    | (go_simp;go_at_call 86;refine (HSi.out _ t7).mono ?_;rintro e w7 ⟨A7,c7,rfl,o7,hb7⟩))
   clear jw j8 j9 j10
   go_upto_region 12 with fail
   have z7:=hb7.size;rw [World.size_drew] at z7;have t8:Below w.heap.size w w7:=t7.trans (hb7.mono (by rw [World.size_drew];omega));have e8:Below (w.heap.size+2) X w7:=e7.trans (hb7.mono (by rw [World.size_drew];omega));have o68:=qb (qb o66 (Le _ _).drew) hb7;have o78:=o7;rw [World.size_drew] at o78;clear hb7 o66 o6 hb5 hb6 e5 e6 e7 t5 t6 t7 K0 K1 K2 K3 K4 K5 C0 C1 C2 C3 C4 C5 a0 a1 a2 HPi HSi HKi o7 hb hbw hnm;obtain ⟨a0,a1,a2⟩:=hHCi.out _ t8
   go_cut [88] (fun v wx=>v = .bool (kQ q (⟨tg,wg,sg⟩::t) np)/\Below w7.heap.size w7 wx)
   case first =>
    as_aux_lemma =>
    have hbs:=qgd tg 32;have hRB:=qcb hq3;clear hwne HWs HWy HWS HNp o68 o78 HPc HSp HNum;generalize rkV q.before=RB at *
    by_cases c1:np=1
    ·have f1:((np:Int)==1)=true:=by simp [c1]
     by_cases c2:tg.data.toList=[32]
     ·rw [Ll c2] at hbs
      by_cases c3:q.before=0
      ·have f3:(RB != 46)=false:=by simp [hRB.2 c3]
       have HE:Hid (kQ q (⟨tg,wg,sg⟩::t) np=false):=Lh (qfE fun h=>(kh h).2.2.1 c3);clear c1 c2 c3 hRB
       as_aux_lemma =>
       go_wp2_with fail
       go_meet
       case rel=>exact ⟨by rw [HE.out],Le _ _⟩
      ·have f3:(RB != 46)=true:=Ln.2 fun h=>c3 (hRB.1 h)
       by_cases c4:sg=q.style
       ·have f4:(sg==q.style)=true:=by simp [c4]
        cases t with
        | nil =>
         have f5 : ¬ (i:Int)+np<l.length:=by rw [List.length_nil] at hdl;omega
         have HE:Hid (kQ q [⟨tg,wg,sg⟩] np=false):=Lh rfl;clear c1 c2 c3 c4 hRB
         as_aux_lemma =>
         go_wp2_with fail
         go_meet
         case rel=>exact ⟨by rw [HE.out],Le _ _⟩
        | cons g2 t2 =>
         have f5:(i:Int)+np<l.length:=by rw [Lp] at hdl;omega
         have hd2:l.drop (i+np)=g2::t2:=by rw [<- HDr.out,c1];rfl
         obtain ⟨b2,o2,e2,_,HC2⟩:=HC.out (i+np) g2 t2 hd2;simp only [Option.some.injEq,Addr.mk.injEq,and_true] at e2;obtain ⟨rfl,rfl⟩:=e2;obtain ⟨x0,x1,x2⟩:=HC2 w7 t8;have HK2:=Lh (HKd.out g2 (HMem.out (i+np) g2 t2 hd2));have hk2:=jX g2;have hK2:=qcb hk2;obtain ⟨K2,hK2e⟩ : ∃ K2,K2=qd g2:=⟨_,rfl⟩
         rw [<- hK2e] at HK2 hK2
         have hE2 : ∀ s:Int,s=g2.style->(s=q.style->K2≠0->kQ q (⟨tg,wg,sg⟩::g2::t2) np=true)/\(¬ (s=q.style/\K2≠0)->kQ q (⟨tg,wg,sg⟩::g2::t2) np=false):=fun s hs=>⟨fun h1 h2=>qi2 c1 c2 c3 c4 (hs ▸ h1) (hK2e ▸ h2),fun h=>qfE fun h'=>by
          obtain ⟨_,_,_,_,b',u',e',h1,h2⟩:=kh h'
          injection e' with e' _
          subst e'
          exact h ⟨hs.trans h1,hK2e ▸ h2⟩⟩
         have HE2:=Lh (hE2 g2.style rfl);clear hd2 HC2 hK2e c1 c2 c3 c4 hRB HC HMem HKd hdl hE2 hHCi;obtain ⟨tb,wdb,sb⟩:=g2;dsimp only at *
         have jj5:((i:Int)+np).toNat=i+np:=j5
         by_cases c6:sb=q.style
         ·have f6:(sb==q.style)=true:=by simp [c6]
          by_cases c7:K2=0
          ·have f7:(rkV K2 != 46)=false:=by simp [hK2.2 c7]
           have HE:=Lh (HE2.out.2 fun h=>h.2 c7);clear c6 c7 hK2 HE2;generalize rkV K2=RK at *
           as_aux_lemma =>
           go_wp2_with (go_at_call 85;refine (HK2.out _).mono ?_;rintro e w8 ⟨rfl,hb8⟩)
           go_meet
           case rel=>exact ⟨by rw [HE.out],hb8⟩
          ·have f7:(rkV K2 != 46)=true:=Ln.2 fun h=>c7 (hK2.1 h)
           have HE:=Lh (HE2.out.1 c6 c7);clear c6 c7 hK2 HE2;generalize rkV K2=RK at *
           as_aux_lemma =>
           go_wp2_with (go_at_call 85;refine (HK2.out _).mono ?_;rintro e w8 ⟨rfl,hb8⟩)
           go_meet
           case rel=>exact ⟨by rw [HE.out],hb8⟩
         ·have f6:(sb==q.style)=false:=Lm.2 c6;have HE:=Lh (HE2.out.2 fun h=>c6 h.1);clear c6 hK2 HE2
          as_aux_lemma =>
          go_wp2_with fail
          go_meet
          case rel=>exact ⟨by rw [HE.out],Le _ _⟩
       ·have f4:(sg==q.style)=false:=Lm.2 c4;have HE:Hid (kQ q (⟨tg,wg,sg⟩::t) np=false):=Lh (qfE fun h=>c4 (kh h).2.2.2.1);clear c1 c2 c3 c4 hRB
        as_aux_lemma =>
        go_wp2_with fail
        go_meet
        case rel=>exact ⟨by rw [HE.out],Le _ _⟩
     ·rw [Lk c2] at hbs;have HE:Hid (kQ q (⟨tg,wg,sg⟩::t) np=false):=Lh (qfE fun h=>c2 (kh h).2.1);clear c1 c2 hRB
      as_aux_lemma =>
      go_wp2_with fail
      go_meet
      case rel=>exact ⟨by rw [HE.out],Le _ _⟩
    ·have f1:((np:Int)==1)=false:=Lm.2 L0;have HE:Hid (kQ q (⟨tg,wg,sg⟩::t) np=false):=Lh (qfE fun h=>c1 (kh h).1);clear c1 hRB
     as_aux_lemma =>
     go_wp2_with fail
     go_meet
     case rel=>exact ⟨by rw [HE.out],Le _ _⟩
   case rest =>
    as_aux_lemma =>
    obtain ⟨w9,rfl⟩ : ∃ x:World,x=wc:=⟨_,rfl⟩
    obtain ⟨rfl,hb9⟩:=hcut;have t9:Below w.heap.size w w9:=t8.trans (hb9.mono t8.size);have z9:=hb9.size;have e9:Below (w.heap.size+2) X w9:=e8.trans (hb9.mono L0);have o69:=qb o68 hb9;have o79:=qb o78 hb9;obtain ⟨⟨K0,K1,K2,K3,K4,K5⟩,hnm9,_,hz9⟩:=HSt.out _ e9;clear t8 e8 o68 o78 a0 a1 a2 hb9;have tq:Below w9.heap.size w9 w9:=Le _ _
    go_upto_if 88 with fail
    go_cut [9,10] (fun v9 v10 wx=>v9 = .bool q.silent/\v10 = .int .i64 i/\jJ q ⟨d,sp,p⟩ (⟨tg,wg,sg⟩::t) np=false/\Below w9.heap.size w9 wx)
    case first =>
     as_aux_lemma =>
     clear HWy hwne;have HSk:=Lh (qju q ⟨d,sp,p⟩ (⟨tg,wg,sg⟩::t) np)
     cases hV:kQ q (⟨tg,wg,sg⟩::t) np with
     | false =>
      have HE:=Lh (show jJ q ⟨d,sp,p⟩ (⟨tg,wg,sg⟩::t) np=false by rw [HSk.out,hV];rfl);clear hV HSk;go_wp2;go_meet
      case rel=>exact ⟨rfl,rfl,HE.out,tq⟩
     | true =>
      obtain ⟨c1,_,_,_,g2,t2,rfl,_,_⟩:=kh hV;have hd2:l.drop (i+np)=g2::t2:=by rw [<- HDr.out,c1];rfl
      have HP2:=Lh (HPc.out (i+np) g2 t2 hd2);have HS2:=Lh (HSp.out (i+np) g2 t2 b o rfl hd2);have hdl2:t2.length+1=l.length-(i+np):=by
       have:=congrArg List.length hd2;rw [List.length_drop,Lp] at this
       omega
      have hm2:=(vz (g:=g2) (t:=t2) p).2;have hP2:PieceOK (pcL (g2::t2) p):=qb7 (l:=g2::t2) rfl (by rw [Lp];omega) (fun x hx=>(HOk.out x (List.mem_of_mem_drop (i:=i+np) (by rw [hd2];exact hx))).1) p;have hne2:=qem (kn g2 t2 p) hP2 (HOk.out g2 (HMem.out _ _ _ hd2)).1 sp d;have HV2:Hid (jJ q ⟨d,sp,p⟩ (⟨tg,wg,sg⟩::g2::t2) np=(decide (q.before≠3) || !(qL ((qq (pcL (g2::t2) p) sp d).headD ⟨#[]⟩)))):=Lh (by rw [HSk.out,hV];rfl);have hRB:=qko hq3;clear hd2 hV HSk hP2 HPc HSp HC HMem HKd HOk HNp HWS c1;rw [Int.natCast_add] at HP2;generalize qq (pcL (g2::t2) p) sp d=W2 at *
      generalize qo (g2::t2) p=m2 at *
      by_cases c8:q.before=3
      ·have f8:(rkV q.before != 48)=false:=by simp [hRB.2 c8]
       cases W2 with
       | nil=>exact absurd rfl hne2
       | cons s0 W2' =>
        have HE:=Lh (show jJ q ⟨d,sp,p⟩ (⟨tg,wg,sg⟩::g2::t2) np = !(qL s0) by rw [HV2.out,Lk (fun h=>h c8),List.headD_cons,Bool.false_or]);clear HV2 hRB c8 hne2;generalize hRBe:rkV q.before=RB at *
        have HRBe:=Lh hRBe.symm;clear hRBe;obtain ⟨bn,hbn⟩ : ∃ x,x = !qL s0:=⟨_,rfl⟩
        rw [<- hbn] at HE;have HBn:=Lh hbn;clear hbn
        go_upto_region 14 with (go_at_call 84;refine (HP2.out _ t9).mono ?_;rintro e w10 ⟨rfl,hb10⟩)
        have z10:=hb10.size;have e10:=e9.trans (hb10.mono L0);have t10:=t9.trans (hb10.mono t9.size)
        go_cut [109] (fun v wx=>v = .bool bn/\Below w10.heap.size w10 wx)
        case first =>
         as_aux_lemma =>
         clear HE HWs HP2 o69 o79 hd hwl hql HDr hHCi hnm9 HT;have bq:Below w10.heap.size w10 w10.drew:=(Le _ _).drew;have tq:Below w.heap.size w w10.drew:=t10.drew;obtain ⟨⟨hx0,hx1,hx2,hx3,hx4,hx5⟩,_⟩:=HSt.out _ e10;have k1:(0:Int)<=(i:Int)+np:=by omega
         have k2:(i:Int)+np<=(i:Int)+np+m2:=by omega
         have k3:(i:Int)+np+m2<=c:=by omega
         have k4:(0:Int)<=(i:Int)+np+m2:=by omega
         have k5:((i:Int)+np+m2).toNat=i+np+m2:=by omega
         have k6:i+np<=i+np+m2:=by omega
         have k7:i+np+m2-(i+np)=m2:=by omega
         have k8 : ¬ c=i+np:=by omega
         have k9:IntKind.i64.wrap ((i:Int)+np+m2)=(i:Int)+np+m2:=by rw [Lx];omega
         go_still_tail 10,(by kernel_rfl)
         change wpList _ _ _ _ _ w10.drew
         go_wp2_with (first
          | (go_at_call 86;refine (HS2.out _ tq).mono ?_;rintro e w11 ⟨A11,c11,rfl,o11,hb11⟩;obtain ⟨B11,O11,rfl,_,hc11⟩:=(Rd.of_own o11).at_ (Nat.succ_pos _);rw [yM _ _ (Nat.succ_pos _),Nat.add_zero] at hc11;have t11:=tq.trans (hb11.mono tq.size);have b11:=bq.trans (hb11.mono bq.size))
          | (go_at_call 87;refine (HNum.out s0 _ t11).mono ?_;rintro e w12 ⟨rfl,hb12⟩;have b12:=b11.trans (hb12.mono b11.size)))
         go_meet
         case rel=>exact ⟨by rw [HBn.out],b12⟩
        case rest =>
         as_aux_lemma =>
         obtain ⟨w13,rfl⟩ : ∃ x:World,x=wc:=⟨_,rfl⟩
         obtain ⟨rfl,hb13⟩:=hcut;have hd13:Below w9.heap.size w9 w13:=hb10.trans (hb13.mono z10)
         cases bn with
         | true =>
          have HWs':=Lh (HWs.out HE.out);clear HS2 HWs HE HBn;go_wp2;exact ⟨⟨{ q with silent:=true },i+np,by omega,by go_num,hq3,rfl,congrArg (fun z=>Value.int .u8 z) HRBe.out,rfl,⟨A6,c6,rfl,qb o69 hd13⟩,e9.trans (hd13.mono L0),by rw [<- HDr.out];exact HWs'⟩,by simp [intOf];omega⟩
         | false =>
          clear HS2 HWs HBn;go_wp2;go_meet
          case rel=>exact ⟨rfl,rfl,HE.out,hd13⟩
      ·have f8:(rkV q.before != 48)=true:=Ln.2 fun h=>c8 (hRB.1 h)
       have HE:=Lh (show jJ q ⟨d,sp,p⟩ (⟨tg,wg,sg⟩::g2::t2) np=true by rw [HV2.out,Ll c8];rfl);have HWs':=Lh (HWs.out HE.out);clear HV2 HE HWs hRB c8 HS2
       go_upto_region 14 with (go_at_call 84;refine (HP2.out _ t9).mono ?_;rintro e w10 ⟨rfl,hb10⟩)
       go_quiet (fail)
       go_wp2;have hd10:Below w9.heap.size w9 (w10.drewN nq):=qf hb10;exact ⟨⟨{ q with silent:=true },i+np,by omega,by go_num,hq3,rfl,rfl,rfl,⟨A6,c6,rfl,qb o69 hd10⟩,e9.trans (hd10.mono L0),by rw [<- HDr.out];exact HWs'⟩,by simp [intOf];omega⟩
    case rest =>
     as_aux_lemma =>
     obtain ⟨w14,rfl⟩ : ∃ x:World,x=wc:=⟨_,rfl⟩
     obtain ⟨rfl,rfl,hsk,hb14⟩:=hcut
     have HWn:Hid (WoI ⟨d,sp,p⟩ R ⟨q.out++ky q ⟨tg,wg,sg⟩ (WS.headD ⟨#[]⟩)++WS,sg,qd ⟨tg,wg,sg⟩,false⟩ (l.drop (i+np))):=Lh (by
      have h:=HWy.out hsk;rw [HDr.out] at h;have e:sayL q ⟨d,sp,p⟩ ((⟨tg,wg,sg⟩::t).take np)=⟨q.out++ky q ⟨tg,wg,sg⟩ (WS.headD ⟨#[]⟩)++WS,sg,qd ⟨tg,wg,sg⟩,false⟩:=by
       rw [HWS.out,HNp.out];exact qdg (S:=⟨d,sp,p⟩)
      rw [e] at h
      exact h)
     have t14:Below w.heap.size w w14:=t9.trans (hb14.mono t9.size);have z14:=hb14.size;have e14:=e9.trans (hb14.mono L0);have o614:=qb o69 hb14;have o714:=qb o79 hb14;obtain ⟨_,hnm14,_,hz14⟩:=HSt.out _ e14;obtain ⟨a0,a1,a2⟩:=hHCi.out _ t14;have hsg:0<=sg/\sg<=3:=by have:=hGW.2;dsimp only at this;omega
     clear hsk HWy HWs HDr HNp HWS tq K0 K1 K2 K3 K4 K5 hnm9 o69 o79 HPc HSp HC HMem HKd HOk hHCi hd hdl HRd hb14
     cases WS with
     | nil=>exact absurd rfl hwne
     | cons s0 W =>
      rw [List.headD_cons] at HWn;obtain ⟨PRE,hPRE⟩ : ∃ x,x=ky q ⟨tg,wg,sg⟩ s0:=⟨_,rfl⟩
      rw [<- hPRE] at HWn;have HPre:=Lh hPRE;have hpl:PRE.length<=1:=by rw [hPRE];unfold ky;(repeat' split) <;> simp
      clear hPRE;have hk0:qd ⟨tg,wg,sg⟩<=3:=hkg;have hKz:=qcb hkg;have hBz:=qcb hq3;generalize hK:qd ⟨tg,wg,sg⟩=K at *
      have HK:=Lh hK;clear hK;have hfr:Below w14.heap.size w14 w14:=Le _ _
      go_upto_if 117 with fail
      obtain ⟨z117,h117⟩ : ∃ x,x=(sg != q.style):=⟨_,rfl⟩
      rw [<- h117];replace h117:=Lh h117;obtain ⟨sl,hsl⟩ : ∃ x,x=q.silent:=⟨_,rfl⟩
      rw [<- hsl];have HSl:=Lh hsl;clear hsl
      go_cut [6,7] (fun v6 v7 wx=>v7 = .int .i64 sg/\RwP w X w6.heap.size (q.out++PRE) (s0::W) A7 c7 v6 wx)
      case first =>
       as_aux_lemma =>
       clear HWn
       by_cases h1:sg=q.style
       ·subst h1;obtain rfl:z117=false:=by rw [h117.out];simp
        clear h117
        by_cases h2:K≠0/\q.before≠0
        ·have f2:(rkV K != 46)=true:=Ln.2 fun h=>h2.1 (hKz.1 h)
         have f3:(rkV q.before != 46)=true:=Ln.2 fun h=>h2.2 (hBz.1 h)
         cases sl with
         | true =>
          have HE:Hid (PRE=[]):=Lh (by rw [HPre.out];simp [ky,HK.out,h2.1,h2.2,HSl.out.symm]);clear h2 hKz hBz;go_wp2;go_meet
          case rel=>exact ⟨rfl,by rw [HE.out];exact RwP.stay o614 o714 e14 L0 L0 (Le _ _)⟩
         | false =>
          have HE:Hid (PRE=[zO]):=Lh (by rw [HPre.out];simp [ky,HK.out,h2.1,h2.2,HSl.out.symm]);clear h2 hKz hBz
          go_wp2_with (at_builtin;go_must (refine qg rfl _ _ _ rfl qp ((w.heap.size+2)) _ rfl ((qb o614 (Below.alloc (Le _ _) (Ld _) _))) _ _ rfl ((qe (xs:=sv [zO]) rfl rfl)) ?_);intro A20 c20 w20 hown20 hbel20 hgr20 hat20;have z20:=hbel20.size;(try simp only [Li] at z20);(try simp only [Lo,Lg] at hown20))
          go_meet
          case rel=>exact ⟨rfl,by rw [HE.out];exact RwP.put HO66.out (Ld _) o714 e14 L0 L0 (Below.alloc (Le _ _) (Ld _) _) hown20 hbel20 hgr20⟩
        ·have hpre:ky q ⟨tg,wg,q.style⟩ s0=if q.out≠[]/\qL s0=true/\qL (q.out.getLastD ⟨#[]⟩)=true then [zO] else []:=by
          unfold ky;rw [if_neg L1,HK.out,if_neg h2]
         have HPr:=Lh (HPre.out.trans hpre);clear hpre HPre
         go_upto_region 20 with fail
         go_cut [135] (fun v wx=>v = .bool false/\wx=w14)
         case first =>
          as_aux_lemma =>
          by_cases h3:K=0
          ·have f2:(rkV K != 46)=false:=by simp [hKz.2 h3]
           clear h2 hKz hBz h3;generalize rkV K=RK at *
           go_wp2;go_meet
           case rel=>exact ⟨rfl,rfl⟩
          ·have h4:q.before=0:=by
            rcases Nat.eq_zero_or_pos q.before with h | h
            ·exact h
            ·exact absurd ⟨h3,by omega⟩ h2
           have f2:(rkV K != 46)=true:=Ln.2 fun h=>h3 (hKz.1 h)
           have f3:(rkV q.before != 46)=false:=by simp [hBz.2 h4]
           clear h2 hKz hBz h3 h4;generalize rkV K=RK at *
           generalize rkV q.before=RB at *
           go_wp2;go_meet
           case rel=>exact ⟨rfl,rfl⟩
         case rest =>
          as_aux_lemma =>
          obtain ⟨rfl,hwc⟩:=hcut;rw [hwc];clear hwc h2 hKz hBz
          by_cases h5:q.out=[]
          ·have HE:Hid (PRE=[]):=Lh (by rw [HPr.out,if_neg (fun h=>h.1 h5)]);have f4 : ¬ (0:Int)<q.out.length:=by rw [h5];simp
           have f5 : ¬ 0<q.out.length:=by rw [h5];simp
           clear h5;go_wp2;go_meet
           case rel=>exact ⟨rfl,by rw [HE.out];exact RwP.stay o614 o714 e14 L0 L0 (Le _ _)⟩
          ·have f5:0<q.out.length:=List.length_pos_iff.2 h5;have f4:(0:Int)<q.out.length:=by omega
           have hlst:q.out.getLastD ⟨#[]⟩=q.out[q.out.length-1]'(by omega):=by
            rw [List.getLastD_eq_getLast?,List.getLast?_eq_getElem?,List.getElem?_eq_getElem L0]
            rfl
           obtain ⟨bo,oo,rfl,hbo,hco⟩:=(Rd.of_own o614).at_ (k:=q.out.length-1) L0;rw [yM _ _ L0,<- hlst] at hco;obtain ⟨bw,ow,rfl,hbw7,hcw⟩:=(Rd.of_own o714).at_ (k:=0) (Nat.succ_pos _);rw [yM _ _ (Nat.succ_pos _),Nat.add_zero] at hcw;have HPs:=Lh (show PRE=if qL s0=true/\qL (q.out.getLastD ⟨#[]⟩)=true then [zO] else [] by rw [HPr.out];simp only [ne_eq,h5,not_false_eq_true,true_and]);clear hlst h5 HPr;generalize q.out.getLastD ⟨#[]⟩=LW at *
           have j8:(0:Int)<=(q.out.length:Int)-1:=by omega
           have j9:((q.out.length:Int)-1).toNat=q.out.length-1:=by omega
           have j10:(q.out.length:Int)-1<q.out.length:=by omega
           cases hN:qL s0 with
           | false =>
            have HE:Hid (PRE=[]):=Lh (by rw [HPs.out,hN];simp)
            go_wp2_with (go_at_call 87;refine (HNum.out s0 _ t14).mono ?_;rintro e w15 ⟨rfl,hb15⟩)
            go_meet
            case rel=>exact ⟨rfl,by rw [HE.out];exact RwP.stay o614 o714 e14 L0 L0 hb15⟩
           | true =>
            cases hM:qL LW with
            | false =>
             have HE:Hid (PRE=[]):=Lh (by rw [HPs.out,hM];simp)
             go_wp2_with (first
              | (go_at_call 87;refine (HNum.out s0 _ t14).mono ?_;rintro e w15 ⟨rfl,hb15⟩;have t15:=t14.trans (hb15.mono t14.size);have hc5:=(hb15.cell hbo).trans hco)
              | (go_at_call 87;refine (HNum.out LW _ t15).mono ?_;rintro e w17 ⟨rfl,hb17⟩;have b17:=hb15.trans (hb17.mono hb15.size)))
             go_meet
             case rel=>exact ⟨rfl,by rw [HE.out];exact RwP.stay o614 o714 e14 L0 L0 b17⟩
            | true =>
             have HE:Hid (PRE=[zO]):=Lh (by rw [HPs.out,hN,hM];simp)
             go_wp2_with (first
              | (go_at_call 87;refine (HNum.out s0 _ t14).mono ?_;rintro e w15 ⟨rfl,hb15⟩;have t15:=t14.trans (hb15.mono t14.size);have hc5:=(hb15.cell hbo).trans hco)
              | (go_at_call 87;refine (HNum.out LW _ t15).mono ?_;rintro e w17 ⟨rfl,hb17⟩;have b17:=hb15.trans (hb17.mono hb15.size);have z17:=b17.size)
              | (at_builtin;refine qg rfl _ _ _ rfl qp ((w.heap.size+2)) _ rfl ((qb (qb o614 b17) (Below.alloc (Le _ _) (Ld _) _))) _ _ rfl ((qe (xs:=sv [zO]) rfl rfl)) ?_;intro A23 c23 w23 hown23 hbel23 hgr23 hat23;have z23:=hbel23.size;(try simp only [Li] at z23);(try simp only [Lo,Lg] at hown23)))
             go_meet
             case rel=>exact ⟨rfl,by rw [HE.out];exact RwP.put HO66.out (Ld _) o714 e14 L0 L0 (Below.alloc b17 L0 _) hown23 hbel23 hgr23⟩
       ·obtain rfl:z117=true:=by rw [h117.out];exact Ln.2 h1
        clear h117;have HE:Hid (PRE=[vP sg.toNat]):=Lh (by rw [HPre.out];simp [ky,h1]);have cn:=hnm14 sg.toNat L0;have hj0:0<=sg:=hsg.1;have hj1:sg<4:=by omega
        generalize vP sg.toNat=SN at *
        clear h1 hKz hBz hnm14 hsg HPre HK
        go_wp2_with (at_builtin;go_must (refine qg rfl _ _ _ rfl qp ((w.heap.size+2)) _ rfl ((qb o614 (Below.alloc (Le _ _) (Ld _) _))) _ _ rfl ((qe (xs:=sv [SN]) rfl rfl)) ?_);intro A22 c22 w22 hown22 hbel22 hgr22 hat22;have z22:=hbel22.size;(try simp only [Li] at z22);(try simp only [Lo,Lg] at hown22))
        go_meet
        case rel=>exact ⟨rfl,by rw [HE.out];exact RwP.put HO66.out (Ld _) o714 e14 L0 L0 (Below.alloc (Le _ _) (Ld _) _) hown22 hbel22 hgr22⟩
      case rest =>
       as_aux_lemma =>
       obtain ⟨w16,rfl⟩ : ∃ x:World,x=wc:=⟨_,rfl⟩
       obtain ⟨rfl,⟨A8,c8,rfl,o8⟩,o9,e16,z16⟩:=hcut;have hqp:(q.out++PRE).length<=50000001:=by rw [Lf];omega
       go_wp2_with (at_builtin;go_must (refine qg rfl _ _ _ rfl qp ((w.heap.size+2)) _ rfl (o8) _ _ rfl ((Rd.of_own o9)) ?_);intro A21 c21 w21 hown21 hbel21 hgr21 hat21;have z21:=hbel21.size;(try simp only [Li] at z21);(try simp only [Lo,Lg] at hown21))
       have hln:(q.out++PRE++s0::W).length=(q.out++PRE).length+(s0::W).length:=by rw [Lf]
       have hsv:sv (q.out++PRE++s0::W)=sv (q.out++PRE)++sv (s0::W):=by simp [sv]
       exact ⟨⟨⟨q.out++PRE++s0::W,sg,K,false⟩,i+np,by omega,by go_num,hk0,rfl,rfl,rfl,by dsimp only;rw [hln,hsv];exact ⟨A21,c21,by simp,hown21⟩,e16.trans hbel21,HWn⟩,by simp [intOf];omega⟩
  ·obtain rfl:i=l.length:=by omega
   have hw:=HW.out;rw [List.drop_length] at hw;have HR:=Lh hw.stop;clear HPc HKd HNum HSp HC HMem HOk HW;go_wp2;go_ret;rw [HR.out];exact ⟨A6,c6,rfl,qt o6 L0,hbw⟩
end Go.Proofs.YtbogmeeijdaijaaGreatDoor
