/- Joined: Rw4, Pc2. -/
import Derived.Test.YtbogmeeijdaijaaGreatDoorYEB
set_option linter.unusedVariables false
set_option linter.unusedSimpArgs false
set_option linter.unnecessarySimpa false
set_option maxHeartbeats 8000000
namespace Go.Proofs.YtbogmeeijdaijaaGreatDoor
open Go.Proofs.Tryz Go.RowKit
set_option maxRecDepth 20000
theorem qdI {w1 w2:World} {b1 b2 s1 s2 n1 n2:Nat} {e1 e2:TypeId} {v1 v2:Value} {x1 x2:List Value} (h1:w1.ownsRow b1 e1 s1 v1 n1 x1) (h2:w2.ownsRow b2 e2 s2 v2 n2 x2) (hb:w1.heap.size<=b2):v2.ownBlock=none∨v2.ownBlock≠v1.ownBlock:=by
 rcases hk:v2.ownBlock with _ | k
 ·exact .inl rfl
 ·right
  intro e;have:=h2.lt k hk;have:=h1.lt k e.symm
  omega
theorem rspoken (l:List Gl) (g:Gl) (t:List Gl) (hl:l=g::t) (hP:PieceOK l) (A:Option Addr) (n c B:Nat) (r:Int) (d sp:Bool) (q:Int) (co:Bool) (k:Int) (w:World) (ht:Tb w) (rd:Rd w B 3 A n (qi l)) (hB:B<=w.heap.size) :
  Calls prog 86 #[.slice A n c,stV r d sp q co k] w (ql 9 1 id w (qq l sp d).length (sv (qq l sp d))):=by
 have hln:=jK rd;subst hln;have hl0:0<l.length:=by rw [hl];simp
 have hg0:l[0]=g:=by subst hl;rfl
 obtain ⟨b,o,rfl,hbB,_,_,_⟩:=jE rd hl0 rfl;have HRd:=Lh rd;have HC0:Hid (∀ (w':World),Below w.heap.size w w'->(w'.cell? ⟨b,o,none⟩=some (.string g.text)/\w'.cell? ⟨b,o+1,none⟩=some (.bool g.wide)/\w'.cell? ⟨b,o+2,none⟩=some (.int .i64 g.style))):=Lh fun w' hw=>by
  obtain ⟨b',o',e',_,c0,c1,c2⟩:=jE (rd.below (hw.mono hB)) hl0 rfl;simp only [Option.some.injEq,Addr.mk.injEq,and_true] at e';obtain ⟨rfl,rfl⟩:=e';rw [Nat.zero_mul,Nat.add_zero,hg0] at c0 c1 c2;exact ⟨c0,c1,c2⟩
 have hn1:=hP.n;have HT:=Lh ht;have hgm:g∈l:=by rw [hl];simp
 have hzg:g.text.size<=1000:=hP.sz g hgm;have HK:=Lh (qfZ g L0);have hk3:=jX g
 by_cases h1:qd g=1∨qd g=2
 ·have hall:=hP.ltr g t hl h1;have HLet:Hid (∀ w',Below w.heap.size w w'->Calls prog 106 #[.slice (some ⟨b,o,none⟩) l.length c,stV r d sp q co k] w' (ql 9 1 id w' (qq l sp d).length (sv (qq l sp d)))):=Lh fun w' hw=>by
   have e:qq l sp d=lettersL l sp:=by subst hl;exact jv h1
   rw [e];exact rletters l hall L0 _ _ c B r d sp q co k w' (HT.out.below hw) (HRd.out.below (hw.mono hB)) (Lj hB hw.size)
  generalize qq l sp d=RES at *
  generalize qd g=K at *
  clear hP hall hl rd hg0 hgm ht HT;obtain ⟨xx,wd,st⟩:=g;dsimp only at *
  rcases h1 with rfl | rfl
  ·go_enter func86,ntmps86
   go_upto_region 1 with fail
   refine qa (fun wx=>StBox wx r d sp q co k w.heap.size/\Below w.heap.size w wx/\w.heap.size+1<=wx.heap.size) ⟨StBox.new w r d sp q co k _,L5,by simp⟩ ?_;rintro wb ⟨hst,hb0,hz0⟩;obtain ⟨q0,q1,q2⟩:=HC0.out wb hb0
   go_wp2_with (first
    | (go_at_call 85;refine (HK.out _).mono ?_;rintro e w5 ⟨rfl,hbel5⟩;obtain ⟨u0,u1,u2,u3,u4,u5⟩:=hst.below hbel5 L0;have t5:=hb0.trans (hbel5.mono L0);obtain ⟨v0,v1,v2⟩:=HC0.out w5 t5)
    | (go_at_call 106;refine (HLet.out _ t5).mono ?_;rintro e w6 ⟨A6,c6,rfl,hown6,hbel6⟩))
   go_ret;exact ⟨A6,c6,rfl,qt hown6 t5.size,t5.trans (hbel6.mono t5.size)⟩
  ·go_enter func86,ntmps86
   go_upto_region 1 with fail
   refine qa (fun wx=>StBox wx r d sp q co k w.heap.size/\Below w.heap.size w wx/\w.heap.size+1<=wx.heap.size) ⟨StBox.new w r d sp q co k _,L5,by simp⟩ ?_;rintro wb ⟨hst,hb0,hz0⟩;obtain ⟨q0,q1,q2⟩:=HC0.out wb hb0
   go_wp2_with (first
    | (go_at_call 85;refine (HK.out _).mono ?_;rintro e w5 ⟨rfl,hbel5⟩;obtain ⟨u0,u1,u2,u3,u4,u5⟩:=hst.below hbel5 L0;have t5:=hb0.trans (hbel5.mono L0);obtain ⟨v0,v1,v2⟩:=HC0.out w5 t5)
    | (go_at_call 106;refine (HLet.out _ t5).mono ?_;rintro e w6 ⟨A6,c6,rfl,hown6,hbel6⟩))
   go_ret;exact ⟨A6,c6,rfl,qt hown6 t5.size,t5.trans (hbel6.mono t5.size)⟩
 ·by_cases h3:qd g=3
  ·have hall3 : ∀ x∈l,qd x=3:=hP.dig g t hl h3;have HDig:Hid (∀ w',Below w.heap.size w w'->Calls prog 107 #[.slice (some ⟨b,o,none⟩) l.length c,stV r d sp q co k] w' (ql 9 1 id w' (qq l sp d).length (sv (qq l sp d)))):=Lh fun w' hw=>by
    have e:qq l sp d=digitsL l d:=by subst hl;exact ju h3
    rw [e];exact rdigits l hall3 hl0 L0 _ _ c B r d sp q co k w' (HT.out.below hw) (HRd.out.below (hw.mono hB)) (Lj hB hw.size)
   generalize qq l sp d=RES at *
   rw [h3] at HK;clear hP hall3 hl rd hg0 hgm ht HT h1 h3 hk3;obtain ⟨xx,wd,st⟩:=g;dsimp only at *
   go_enter func86,ntmps86
   go_upto_region 1 with fail
   refine qa (fun wx=>StBox wx r d sp q co k w.heap.size/\Below w.heap.size w wx/\w.heap.size+1<=wx.heap.size) ⟨StBox.new w r d sp q co k _,L5,by simp⟩ ?_;rintro wb ⟨hst,hb0,hz0⟩;obtain ⟨q0,q1,q2⟩:=HC0.out wb hb0
   go_wp2_with (first
    | (go_at_call 85;refine (HK.out _).mono ?_;rintro e w5 ⟨rfl,hbel5⟩;obtain ⟨u0,u1,u2,u3,u4,u5⟩:=hst.below hbel5 L0;have t5:=hb0.trans (hbel5.mono L0);obtain ⟨v0,v1,v2⟩:=HC0.out w5 t5)
    | (go_at_call 107;refine (HDig.out _ t5).mono ?_;rintro e w6 ⟨A6,c6,rfl,hown6,hbel6⟩))
   go_ret;exact ⟨A6,c6,rfl,qt hown6 t5.size,t5.trans (hbel6.mono t5.size)⟩
  ·have h0:qd g=0:=by omega
   have HSi:Hid (∀ w',Below w.heap.size w w'->Calls prog 108 #[glV g] w' (ql 9 1 id w' (qP g).length (sv (qP g)))):=Lh fun w' hw=>rsingle g L0 w' (HT.out.below hw)
   have hsl:(qP g).length<=40000:=by
    have a1:=@qaX g;have a2:=jB g.text
    omega
   rw [h0] at HK
   by_cases h2:l.length=1
   ·have e:qq l sp d=qP g:=by
     have ht0:t=[]:=by
      have:=hl ▸ h2
      simpa using this
     subst ht0;rw [hl];exact jt h0
    rw [e];have i2:((l.length:Int)==1)=true:=by simp [h2]
    generalize qP g=RES at *
    clear hP hl rd hg0 hgm ht HT h1 h3 hk3 h0 e h2;obtain ⟨xx,wd,st⟩:=g;dsimp only at *
    go_enter func86,ntmps86
    go_upto_region 1 with fail
    refine qa (fun wx=>StBox wx r d sp q co k w.heap.size/\Below w.heap.size w wx/\w.heap.size+1<=wx.heap.size) ⟨StBox.new w r d sp q co k _,L5,by simp⟩ ?_;rintro wb ⟨hst,hb0,hz0⟩;obtain ⟨q0,q1,q2⟩:=HC0.out wb hb0
    go_wp2_with (first
     | (go_at_call 85;refine (HK.out _).mono ?_;rintro e w5 ⟨rfl,hbel5⟩;obtain ⟨u0,u1,u2,u3,u4,u5⟩:=hst.below hbel5 L0;have t5:=hb0.trans (hbel5.mono L0);obtain ⟨v0,v1,v2⟩:=HC0.out w5 t5)
     | (go_at_call 108;refine (HSi.out _ t5).mono ?_;rintro e w6 ⟨A6,c6,rfl,hown6,hbel6⟩))
    go_ret;exact ⟨A6,c6,rfl,qt hown6 t5.size,t5.trans (hbel6.mono t5.size)⟩
   ·have i2:((l.length:Int)==1)=false:=Lm.2 L0;have e:qq l sp d=numW l.length++[bTimes]++qP g:=by
     have ht0:t≠[]:=fun e=>h2 (by rw [hl,e];rfl)
     rw [hl,jb h0 ht0]
     rfl
    have HNu:Hid (∀ w',Below w.heap.size w w'->Calls prog 51 #[.int .i64 l.length] w' (ql 9 1 yP w' (numW l.length).length (sv (numW l.length)))):=Lh fun w' hw=>by
     have h:=qbl (l.length:Int) L0 L0 w' (HT.out.below hw);rw [wv_sv] at h;unfold numW;rw [Lq];exact h
    have hnl:=kR l.length;have HQ:=Lh e;generalize qP g=SL at *
    generalize numW l.length=NW at *
    clear hP hl rd hg0 hgm ht HT h1 h3 hk3 h0 e h2;obtain ⟨xx,wd,st⟩:=g;dsimp only at *
    go_enter func86,ntmps86
    go_upto_region 1 with fail
    refine qa (fun wx=>StBox wx r d sp q co k w.heap.size/\Below w.heap.size w wx/\w.heap.size+1<=wx.heap.size) ⟨StBox.new w r d sp q co k _,L5,by simp⟩ ?_;rintro wb ⟨hst,hb0,hz0⟩;obtain ⟨q0,q1,q2⟩:=HC0.out wb hb0
    go_upto_region 10 with (first
     | (go_at_call 85;refine (HK.out _).mono ?_;rintro e w5 ⟨rfl,hbel5⟩;obtain ⟨u0,u1,u2,u3,u4,u5⟩:=hst.below hbel5 L0;have t5:=hb0.trans (hbel5.mono L0);obtain ⟨v0,v1,v2⟩:=HC0.out w5 t5)
     | (go_at_call 51;refine (HNu.out _ t5).mono ?_;rintro e w6 ⟨A6,c6,rfl,hown6,hbel6⟩;have t6:=t5.trans (hbel6.mono t5.size)))
    obtain ⟨x0,x1,x2⟩:=HC0.out w6 t6;obtain ⟨y0,y1,y2⟩:=HC0.out (w6.alloc (.cells #[.string ⟨#[116,105,109,101,115]⟩] 9)) (t6.alloc t6.size _);have z6:=t6.size;have z56:=hbel6.size;have z5:=t5.size;have zu:w6.heap.size<=(w6.alloc (.cells #[.string ⟨#[116,105,109,101,115]⟩] 9)).drew.heap.size:=by simp
    go_region_law (first
     | ((fail_if_success have:=hown8);go_simp;go_at_call 108;refine (HSi.out _ ql8).mono ?_;rintro e w7 ⟨A7,c7,rfl,hown7,hbel7⟩;have hc7:Below w6.heap.size w6 w7:=Below.trans ql8 (hbel7.mono L6);have z7:=hbel7.size;(try simp only [Li] at z7 hbel7);have t7:Below w.heap.size w w7:=t6.trans (hc7.mono z6);(first | have r7:=rd_up (qfy (w:=w6) (v:=.string ⟨#[116,105,109,101,115]⟩) (e:=9)) hbel7 | have r7:=rd_up (w:=(w6.alloc (.cells #[.string ⟨#[116,105,109,101,115]⟩] 9)).drew) (size:=1) (n:=1) (A:=some ⟨w6.heap.size,0,none⟩) (xs:=[.string ⟨#[116,105,109,101,115]⟩]) (by exact qfy (w:=w6)) hbel7 | skip))
     | (go_simp;go_at_call 108;refine (HSi.out _ ql8).mono ?_;rintro e w7 ⟨A7,c7,rfl,hown7,hbel7⟩;have k8:=qb hown8 hbel7;have z7:=hbel7.size;have t7:Below w.heap.size w w7:=t8.trans (hbel7.mono t8.size))
     | (refine jZ rfl _ _ _ rfl qp (w5.heap.size) _ rfl ((qb hown6 ql8)) _ _ rfl ((by first | exact qfy | exact r7 | exact (qfy (w:=w6)))) (rfl) ?_;intro A8 c8 w8 hown8 hbel8 hgr8 hat8;have z8:=hbel8.size;(try simp only [Lo,Lg] at hown8);have t8:Below w.heap.size w w8:=Below.trans ql8 (hbel8.mono L6);obtain ⟨_,_,_⟩:=HC0.out w8 t8;(try have k7:=(qb hown7 (by (repeat (first | exact Le _ _ | assumption | refine Below.drew ?_ | refine Below.alloc ?_ L6 _ | refine Below.setCell ?_ L6 _));done)).kept hgr8 (qdI hown6 hown7 L6)))
     | (refine jZ rfl _ _ _ rfl qp (w5.heap.size) _ rfl ((by first | exact k8 | exact hown8)) _ _ rfl ((by first | exact Rd.of_own k7 | exact Rd.of_own hown7)) (sv_one _) ?_;intro A9 c9 w9 hown9 hbel9 hgr9 hat9;have z9:=hbel9.size;(try simp only [Lo,Lg] at hown9)))
    all_goals go_wp2
    all_goals go_ret
    all_goals rw [HQ.out]
    all_goals exact jA hown9 (by first | (simp;done) | (simp;omega)) (by first | rfl | (simp [sv];done) | (simp [sv];rfl)) z5 (Below.trans ql8 (hbel9.mono z5))
theorem rpiece (l:List Gl) (i:Nat) (g:Gl) (t:List Gl) (hd:l.drop i=g::t) (rep:Int) (hrep:0<=rep) (A:Option Addr) (n c B:Nat) (w:World) (hn:n<=1000000000) (hsz : ∀ x∈l,x.text.size<=1000000000) (rd:Rd w B 3 A n (qi l)) (hB:B<=w.heap.size) :
  Calls prog 84 #[.slice A n c,.int .i64 i,.int .i64 rep] w (qh (.int .i64 (qo (g::t) rep:Nat)) w):=by
 have hln:=jK rd;have hil:i<l.length:=by
  rcases Nat.lt_or_ge i l.length with h | h
  ·exact h
  ·rw [Lv h] at hd;cases hd
 have hdl:t.length+1+i=n:=by
  have:=congrArg List.length hd;rw [List.length_drop,Lp] at this
  omega
 have hli:l[i]=g:=by
  rw [Ls hil] at hd
  injection hd
 have hdt:l.drop (i+1)=t:=by
  rw [Ls hil] at hd
  injection hd
 obtain ⟨b,o,rfl,hbB,c0,c1,c2⟩:=jE rd hil hln;rw [hli] at c0 c1 c2;have hz:g.text.size<=1000000000:=by rw [<- hli];exact hsz _ (Lt hil)
 have HK:=Lh (qfZ g hz);have HC:=Lh (fun k (hk:k<=3) st i' (hi:i'<=n) w' (hw:Below w.heap.size w w')=>rrun l i' k hk st (some ⟨b,o,none⟩) n c B w' hn hi hsz (rd.keep fun p hp=>hw.cell L0) (Lj hB hw.size));have hk3:=jX g;have hb:b<w.heap.size:=by omega
 have hin:i<n:=by omega
 by_cases h1:qd g=1∨qd g=3
 ·rw [kL h1];have HC2:=Lh (HC.out (qd g) hk3 g.style i L0);rw [hd] at HC2;generalize runK (g::t) (qd g) g.style=R at *
  clear HC;generalize qd g=K at *
  obtain ⟨x,wd,st⟩:=g;dsimp only at *
  clear rd hsz hli hdt hd
  rcases h1 with rfl | rfl
  ·rw [show rkV 1=97 from rfl] at HK HC2
   go_enter func84,ntmps84
   go_upto_region 2 with fail
   refine qa (GlBox w x wd st) (GlBox.new w x wd st _) ?_;rintro wb hgb;obtain ⟨d0,d1,d2,hb0,hz0⟩:=id hgb
   go_wp2_with (first
    | (go_at_call 85;refine (HK.out _).mono ?_;rintro e w1 ⟨rfl,hbel1⟩;obtain ⟨e0,e1,e2,hb1,hz1⟩:=hgb.on hbel1)
    | (go_at_call 103;refine (HC2.out _ hb1).mono ?_;rintro e w2 ⟨rfl,hbel2⟩))
   go_ret;exact ⟨rfl,hb1.trans (hbel2.mono L0)⟩
  ·rw [show rkV 3=48 from rfl] at HK HC2
   go_enter func84,ntmps84
   go_upto_region 2 with fail
   refine qa (GlBox w x wd st) (GlBox.new w x wd st _) ?_;rintro wb hgb;obtain ⟨d0,d1,d2,hb0,hz0⟩:=id hgb
   go_wp2_with (first
    | (go_at_call 85;refine (HK.out _).mono ?_;rintro e w1 ⟨rfl,hbel1⟩;obtain ⟨e0,e1,e2,hb1,hz1⟩:=hgb.on hbel1)
    | (go_at_call 103;refine (HC2.out _ hb1).mono ?_;rintro e w2 ⟨rfl,hbel2⟩))
   go_ret;exact ⟨rfl,hb1.trans (hbel2.mono L0)⟩
 ·by_cases h2:qd g=2
  ·rw [kW h2];have HC2:=Lh (HC.out 2 L0 g.style i L0);rw [hd,show rkV 2=65 from rfl] at HC2;have HC1:=Lh (HC.out 1 L0 g.style (i+1) L0);rw [hdt,show rkV 1=97 from rfl,show ((i+1:Nat):Int)=(i:Int)+1 by omega] at HC1;have HR1:=Lh (qaz (g::t) 2 g.style);have HR2:=Lh (qaz t 1 g.style);have hr1:=HR1.out;have hr2:=HR2.out;rw [Lp] at hr1;rw [h2,show rkV 2=65 from rfl] at HK;generalize runK (g::t) 2 g.style=R at *
   generalize runK t 1 g.style=R2 at *
   clear HC HR1 HR2;obtain ⟨x,wd,st⟩:=g;dsimp only at *
   clear rd hsz h1 h2 hk3 hli hdt hd
   by_cases hR:1<R
   ·rw [if_pos hR]
    go_enter func84,ntmps84
    go_upto_region 2 with fail
    refine qa (GlBox w x wd st) (GlBox.new w x wd st _) ?_;rintro wb hgb;obtain ⟨d0,d1,d2,hb0,hz0⟩:=id hgb
    go_wp2_with (first
     | (go_at_call 85;refine (HK.out _).mono ?_;rintro e w1 ⟨rfl,hbel1⟩;obtain ⟨e0,e1,e2,hb1,hz1⟩:=hgb.on hbel1)
     | (go_at_call 103;refine (HC2.out _ hb1).mono ?_;rintro e w2 ⟨rfl,hbel2⟩))
    go_ret;exact ⟨rfl,hb1.trans (hbel2.mono L0)⟩
   ·rw [if_neg hR]
    go_enter func84,ntmps84
    go_upto_region 2 with fail
    refine qa (GlBox w x wd st) (GlBox.new w x wd st _) ?_;rintro wb hgb;obtain ⟨d0,d1,d2,hb0,hz0⟩:=id hgb
    go_upto_region 11 with (first
     | (go_at_call 85;refine (HK.out _).mono ?_;rintro e w1 ⟨rfl,hbel1⟩;have hg1:=hgb.on hbel1;obtain ⟨e0,e1,e2,hb1,hz1⟩:=id hg1)
     | (go_at_call 103;refine (HC2.out _ hb1).mono ?_;rintro e w2 ⟨rfl,hbel2⟩;have hg2:=hg1.on hbel2;obtain ⟨f0,f1,f2,hb2,hz2⟩:=id hg2))
    go_wp2_with (go_at_call 103;refine (HC1.out _ hb2).mono ?_;rintro e w3 ⟨rfl,hbel3⟩)
    go_ret;exact ⟨by go_num,hb2.trans (hbel3.mono L0)⟩
  ·have h3:qd g=0:=by omega
   rw [qdm h3];have HCh:=Lh (qad g.text hz);rw [h3,show rkV 0=46 from rfl] at HK;generalize hL:qs (qB g.text)=L at *
   clear hL;have HE:Hid (∀ j (h:j<t.length),j<131->t[j]=g->runE (t.drop j) g (131-j)=runE (t.drop (j+1)) g (131-(j+1))+1):=Lh fun j h h2 e=>qjU h h2 e
   have HS:Hid (∀ j,(t.length<=j∨131<=j∨∃ h:j<t.length,t[j]≠g)->runE (t.drop j) g (131-j)=0):=Lh fun j h=>qkf h
   generalize hM:runE t g 131=M at *
   have HM0:Hid (M=0+runE (t.drop 0) g (131-0)):=Lh (by rw [<- hM,Lo];rfl);have HQ:Hid (∀ (j:Nat) (h:j<t.length) w,(binOp .eql 64 (glV t[j]) (glV g)).run prog w = .ok (.bool (decide (t[j]=g))) w):=Lh fun j h w=>eq_gl _ _ w
   have HGd:Hid (∀ (j:Nat) (h:j<t.length) x y w,(eqGuard .eql 64 x y (glV t[j]) (glV g)).run prog w = .ok () w):=Lh fun j h x y w=>qa2 _ _ _ _ _ w
   have HCell:Hid (∀ (j:Nat) (h:j<t.length) (w':World),Below w.heap.size w w'->(w'.cell? ⟨b,(o+(i+(j+1)) * 3),none⟩=some (.string t[j].text)/\w'.cell? ⟨b,(o+(i+(j+1)) * 3)+1,none⟩=some (.bool t[j].wide)/\w'.cell? ⟨b,(o+(i+(j+1)) * 3)+2,none⟩=some (.int .i64 t[j].style))):=Lh fun j h w' hw=>by
    have hlt:i+(j+1)<l.length:=by omega
    obtain ⟨b2,o2,e,_,q0,q1,q2⟩:=jE (rd.keep (w':=w') fun p hp=>hw.cell L0) hlt hln
    injection e with e
    injection e with e1 e2
    subst e1 e2;have e3:l[i+(j+1)]=t[j]:=by
     subst hdt;rw [List.getElem_drop]
     congr 1
     omega
    rw [e3] at q0 q1 q2;exact ⟨q0,q1,q2⟩
   obtain ⟨RES,hRES⟩ : ∃ x:Nat,x=if 0<rep/\rep<=(1+M:Nat)/\L.length=1 then 1+M else 1:=⟨_,rfl⟩
   rw [<- hRES];have HRES:=Lh hRES;clear hM rd hsz h1 h2 hk3 h3 HC hRES hli hdt hd;obtain ⟨x,wd,st⟩:=g;dsimp only at *
   go_enter func84,ntmps84
   go_upto_region 2 with fail
   refine qa (GlBox w x wd st) (GlBox.new w x wd st _) ?_;rintro wb hgb;obtain ⟨d0,d1,d2,hb0,hz0⟩:=id hgb
   go_wp2_with (go_at_call 85;refine (HK.out _).mono ?_;rintro e w1 ⟨rfl,hbel1⟩;have hg1:=hgb.on hbel1)
   clear c0 c1 c2 d0 d1 d2 hgb hb0 hz0
   go_loopw [9] (fun v wr=>∃ j m:Nat,j<=t.length/\j<=131/\v = .int .i64 ((j:Int)+1)/\wr=w1.drewN m/\Hid (M=j+runE (t.drop j) ⟨x,wd,st⟩ (131-j))) (fun v _=>133-(intOf v).toNat)
   case atStart=>exact ⟨0,0,Nat.zero_le _,by omega,rfl,rfl,HM0⟩
   case round =>
    obtain ⟨j,m,hj,hj2,rfl,rfl,HR⟩:=hrel;obtain ⟨e0,e1,e2,hb1,hz1⟩:=id hg1
    by_cases hlt:j<t.length
    ·have dd1:decide ((i:Int)+((j:Int)+1)<(n:Int))=true:=Ll L0
     by_cases hlt2:j<131
     ·have dd2:decide ((j:Int)+1<132)=true:=Ll L0;have hq:=HQ.out j hlt;have hgd:=HGd.out j hlt;obtain ⟨q0,q1,q2⟩:=HCell.out j hlt w1 hb1
      by_cases he:t[j]=⟨x,wd,st⟩
      ·have HR2:Hid (M=(j+1)+runE (t.drop (j+1)) ⟨x,wd,st⟩ (131-(j+1))):=Lh (by rw [HR.out,HE.out j hlt hlt2 he];omega);rw [Ll he] at hq;clear he;generalize t[j]=y at *
       go_wp2
       go_quiet (fail)
       go_wp2;exact ⟨⟨j+1,_,by omega,by omega,by go_num,rfl,HR2⟩,by simp [intOf];omega⟩
      ·rw [Lk he] at hq;have HR2:Hid (M=j):=Lh (by rw [HR.out,HS.out j (.inr (.inr ⟨hlt,he⟩))];rfl);clear HE HS HQ HGd HCell HR HM0
       (clear he;generalize t[j]=y at *)
       by_cases r1:rep=0
       ·have HX:Hid (RES=1):=Lh (by rw [HRES.out,if_neg (fun h=>by have:=h.1;omega)]);subst r1;go_wp2
        go_quiet (fail)
        go_wp2;go_ret;exact ⟨by rw [HX.out];rfl,qf hb1⟩
       ·have r1':(rep==0)=false:=Lm.2 r1
        by_cases r2:rep<=(j:Int)+1
        ·by_cases r3:L.length=1
         ·have HX:Hid (RES=j+1):=Lh (by rw [HRES.out,HR2.out,if_pos ⟨by omega,by omega,r3⟩];omega);have r3':((L.length:Int) != 1)=false:=by simp;omega
          go_wp2
          go_quiet (fail)
          go_wp2_with (go_at_call 104;refine (HCh.out _).mono ?_;rintro e w2 ⟨A2,c2,rfl,_,hbel2⟩)
          go_ret;exact ⟨by rw [HX.out];go_num,(qf hb1).trans (hbel2.mono (by simp;omega))⟩
         ·have HX:Hid (RES=1):=Lh (by rw [HRES.out,if_neg (fun h=>r3 h.2.2)]);have r3':((L.length:Int) != 1)=true:=Ln.2 L0;go_wp2
          go_quiet (fail)
          go_wp2_with (go_at_call 104;refine (HCh.out _).mono ?_;rintro e w2 ⟨A2,c2,rfl,_,hbel2⟩)
          go_ret;exact ⟨by rw [HX.out];rfl,(qf hb1).trans (hbel2.mono (by simp;omega))⟩
        ·have HX:Hid (RES=1):=Lh (by rw [HRES.out,HR2.out,if_neg (fun h=>r2 (by have:=h.2.1;omega))]);go_wp2
         go_quiet (fail)
         go_wp2;go_ret;exact ⟨by rw [HX.out];rfl,qf hb1⟩
     ·have dd2:decide ((j:Int)+1<132)=false:=Lk L0;have HR2:Hid (M=j):=Lh (by rw [HR.out,HS.out j (.inr (.inl L0))];rfl);clear HE HS HQ HGd HCell HR HM0
      skip
      by_cases r1:rep=0
      ·have HX:Hid (RES=1):=Lh (by rw [HRES.out,if_neg (fun h=>by have:=h.1;omega)]);subst r1;go_wp2
       go_quiet (fail)
       go_wp2;go_ret;exact ⟨by rw [HX.out];rfl,qf hb1⟩
      ·have r1':(rep==0)=false:=Lm.2 r1
       by_cases r2:rep<=(j:Int)+1
       ·by_cases r3:L.length=1
        ·have HX:Hid (RES=j+1):=Lh (by rw [HRES.out,HR2.out,if_pos ⟨by omega,by omega,r3⟩];omega);have r3':((L.length:Int) != 1)=false:=by simp;omega
         go_wp2
         go_quiet (fail)
         go_wp2_with (go_at_call 104;refine (HCh.out _).mono ?_;rintro e w2 ⟨A2,c2,rfl,_,hbel2⟩)
         go_ret;exact ⟨by rw [HX.out];go_num,(qf hb1).trans (hbel2.mono (by simp;omega))⟩
        ·have HX:Hid (RES=1):=Lh (by rw [HRES.out,if_neg (fun h=>r3 h.2.2)]);have r3':((L.length:Int) != 1)=true:=Ln.2 L0;go_wp2
         go_quiet (fail)
         go_wp2_with (go_at_call 104;refine (HCh.out _).mono ?_;rintro e w2 ⟨A2,c2,rfl,_,hbel2⟩)
         go_ret;exact ⟨by rw [HX.out];rfl,(qf hb1).trans (hbel2.mono (by simp;omega))⟩
       ·have HX:Hid (RES=1):=Lh (by rw [HRES.out,HR2.out,if_neg (fun h=>r2 (by have:=h.2.1;omega))]);go_wp2
        go_quiet (fail)
        go_wp2;go_ret;exact ⟨by rw [HX.out];rfl,qf hb1⟩
    ·have dd1:decide ((i:Int)+((j:Int)+1)<(n:Int))=false:=Lk L0;have HR2:Hid (M=j):=Lh (by rw [HR.out,HS.out j (.inl L0)];rfl);clear HE HS HQ HGd HCell HR HM0
     skip
     by_cases r1:rep=0
     ·have HX:Hid (RES=1):=Lh (by rw [HRES.out,if_neg (fun h=>by have:=h.1;omega)]);subst r1;go_wp2
      go_quiet (fail)
      go_wp2;go_ret;exact ⟨by rw [HX.out];rfl,qf hb1⟩
     ·have r1':(rep==0)=false:=Lm.2 r1
      by_cases r2:rep<=(j:Int)+1
      ·by_cases r3:L.length=1
       ·have HX:Hid (RES=j+1):=Lh (by rw [HRES.out,HR2.out,if_pos ⟨by omega,by omega,r3⟩];omega);have r3':((L.length:Int) != 1)=false:=by simp;omega
        go_wp2
        go_quiet (fail)
        go_wp2_with (go_at_call 104;refine (HCh.out _).mono ?_;rintro e w2 ⟨A2,c2,rfl,_,hbel2⟩)
        go_ret;exact ⟨by rw [HX.out];go_num,(qf hb1).trans (hbel2.mono (by simp;omega))⟩
       ·have HX:Hid (RES=1):=Lh (by rw [HRES.out,if_neg (fun h=>r3 h.2.2)]);have r3':((L.length:Int) != 1)=true:=Ln.2 L0;go_wp2
        go_quiet (fail)
        go_wp2_with (go_at_call 104;refine (HCh.out _).mono ?_;rintro e w2 ⟨A2,c2,rfl,_,hbel2⟩)
        go_ret;exact ⟨by rw [HX.out];rfl,(qf hb1).trans (hbel2.mono (by simp;omega))⟩
      ·have HX:Hid (RES=1):=Lh (by rw [HRES.out,HR2.out,if_neg (fun h=>r2 (by have:=h.2.1;omega))]);go_wp2
       go_quiet (fail)
       go_wp2;go_ret;exact ⟨by rw [HX.out];rfl,qf hb1⟩
end Go.Proofs.YtbogmeeijdaijaaGreatDoor
