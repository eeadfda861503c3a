/- Joined: Uc1, Lv1, Lv2, Lv3, Lv4, Lv5, Lv7, Uc2. -/
import Derived.Lib.SliceRun
import Derived.OneCell
import Derived.Test.YtggegijlfaipfaaGreatDoorZAD
set_option linter.unusedVariables false
set_option linter.unusedSimpArgs false
set_option linter.unnecessarySimpa false
set_option maxHeartbeats 8000000
namespace Go.Proofs.YtggegijlfaipfaaGreatDoor
open Go.Proofs.Tryz Go.RowKit
set_option maxRecDepth 20000
def inB (n a b:Int):Bool:=decide (a<=n)&&decide (n<=b)
theorem qaG (n a b:Int) (w:World):Calls prog 70 #[.int .i64 n,.int .i64 a,.int .i64 b] w fun e w'=>e = .returned (.bool (inB n a b))/\w=w':=by
 unfold inB
 by_cases h1:a<=n
 ·by_cases h2:n<=b
  ·go_enter func70,ntmps70
   go_wp2;go_ret;exact ⟨by simp [h1,h2],rfl⟩
  ·go_enter func70,ntmps70
   go_wp2;go_ret;exact ⟨by simp [h1,h2],rfl⟩
 ·go_enter func70,ntmps70
  go_wp2;go_ret;exact ⟨by rw [Lk (show ¬ a<=n by omega)];rfl,rfl⟩
theorem in_ (n a b:Int) (w:World):Calls prog 70 #[.int .i64 n,.int .i64 a,.int .i64 b] w (qh (.bool (inB n a b)) w):=(qaG n a b w).mono fun e w' ⟨h1,h2⟩=>⟨h1,h2 ▸ Le _ _⟩
def RnP (s:ByteArray) (w:World) (e:Ending) (w':World):Prop:=Below w.heap.size w w'/\((zB s≠0/\e = .returned (.slice none 0 0))∨(zB s=0/\∃ G c,e = .returned (.slice (some ⟨G,0,none⟩) (qs (qB s)).length c)/\Rd w' w'.heap.size 1 (some ⟨G,0,none⟩) (qs (qB s)).length (chV (qs (qB s)))))
theorem crunes_ (s:ByteArray) (hs:s.size<=1000000000) (w:World) (hu:U8 w):Calls prog 97 #[.string s] w (RnP s w):=by
 have HC:=Lh (qdB s hs w hu)
 by_cases h0:zB s=0
 ·have hv:=(vL.1 h0).1;have HR:Hid (∀ w,_):=Lh (qbK s hv hs);have H0:=Lh h0;rw [h0] at HC;clear h0 hv hu
  go_enter func97,ntmps97
  go_upto_region 3 with (go_at_call 77;refine HC.out.mono ?_;rintro e w1 ⟨rfl,hb1⟩)
  obtain ⟨c2,w2,hrun,rd2,qmw,hcap⟩:=HR.out w1;go_wp2;go_ret;have z:=qmw.size;exact ⟨hb1.trans (qmw.mono hb1.size),.inr ⟨H0.out,_,c2,rfl,rd2⟩⟩
 ·have H0:=Lh h0;have hne:(zB s != 0)=true:=Ln.2 h0;generalize zB s=K at HC hne;clear h0 hu
  go_enter func97,ntmps97
  go_wp2_with (go_at_call 77;refine HC.out.mono ?_;rintro e w1 ⟨rfl,hb1⟩)
  go_ret;exact ⟨hb1,.inl ⟨H0.out,rfl⟩⟩
theorem qip (s:ByteArray) (hs:s.size<=1000000000) (w:World) (hu:U8 w):Calls prog 78 #[.string s] w (qh (.int .i64 (kb s)) w):=by
 have HR:=Lh (crunes_ s hs w hu)
 by_cases h0:zB s=0
 ·obtain ⟨r,t,hc,-⟩:=(vL.1 h0).2;have H0:=Lh h0;unfold kb;rw [if_pos h0,hc,List.headD_cons];unfold RnP at HR;rw [hc] at HR;have HW:=Lh (qgZ (r:Int));generalize zR (r:Int)=W at *
  clear h0 hu hc
  go_enter func78,ntmps78
  go_wp2_with (first
   | (go_at_call 97;refine HR.out.mono ?_;rintro e w1 ⟨hb1,h⟩;obtain ⟨G,c1,rfl,rd1⟩:=(h.resolve_left fun x=>x.1 H0.out).2;have hc0:=qh2 rd1 L1;simp only [Lp] at *)
   | (go_at_call 95;refine (HW.out _).mono ?_;rintro e w2 ⟨rfl,hb2⟩))
  go_ret;exact ⟨rfl,hb1.trans (hb2.mono hb1.size)⟩
 ·have H0:=Lh h0;unfold kb;rw [if_neg h0];clear h0 hu
  go_enter func78,ntmps78
  go_wp2_with (go_at_call 97;refine HR.out.mono ?_;rintro e w1 ⟨hb1,h⟩;obtain rfl:=(h.resolve_right fun x=>H0.out x.1).2)
  go_ret;exact ⟨rfl,hb1⟩
def qal (g:Gl):Bool:=decide (qJ g=0)
theorem validu_ (g:Gl) (hs:g.text.size<=1000000000) (w:World) (hu:U8 w):Calls prog 73 #[glV g] w (qh (.bool (qal g)) w):=by
 have HK:Hid (∀ w',U8 w'->_):=Lh (qdB g.text hs);have HW:Hid (∀ w',U8 w'->_):=Lh (qip g.text hs);have HI:=Lh (in_ g.style 0 3);have HU:=Lh hu;have hq:=qdC g.text;unfold qal qJ;obtain ⟨t,wd,st⟩:=g;dsimp only at *
 clear hu
 by_cases hc:zB t=0
 ·rw [if_neg (by simp [hc])];rw [hc] at HK;clear hc;generalize kb t=W at *
  by_cases h1:wd=decide (W=2)
  ·have e1:(wd==(W==2))=true:=by
    cases wd <;> by_cases h:W=2 <;> simp_all
   by_cases h2:st<0
   ·rw [if_pos (.inr (.inl h2))];have e2:inB st 0 3=false:=by unfold inB;rw [Lk L0];rfl
    rw [e2] at HI;clear hq h1
    go_enter func73,ntmps73
    go_upto_region 1 with fail
    refine qa (GlBox w t wd st) (GlBox.new w t wd st _) ?_;rintro wb hgb;obtain ⟨d0,d1,d2,hb1,hz1⟩:=id hgb;have N0 : ∀ x:Near wb.heap.size wb,x.w.cell? ⟨w.heap.size,0,none⟩=some (.string t):=fun x=>(x.h.cell L7).trans d0
    have N1 : ∀ x:Near wb.heap.size wb,x.w.cell? ⟨w.heap.size,1,none⟩=some (.bool wd):=fun x=>(x.h.cell L7).trans d1
    have N2 : ∀ x:Near wb.heap.size wb,x.w.cell? ⟨w.heap.size,2,none⟩=some (.int .i64 st):=fun x=>(x.h.cell L7).trans d2
    have hzz:=Ld wb.heap.size;have HUx:Hid (∀ x:Near wb.heap.size wb,U8 x.w):=Lh fun x=>HU.out.below (hb1.trans (x.h.mono L0))
    clear d0 d1 d2 hgb;refine qc wb.heap.size ?_;(repeat (go_big_quiet_step ((first | (go_at_call 77;exact Calls.near _ hzz (HK.out _ (HUx.out _))) | (go_at_call 78;exact Calls.near _ hzz (HW.out _ (HUx.out _))) | (go_at_call 70;exact Calls.near _ hzz (HI.out _))))));refine wpQuiet_nil ?_;intro x1;go_wp2;go_ret;exact ⟨rfl,hb1.trans (x1.h.mono L0)⟩
   ·by_cases h3:3<st
    ·rw [if_pos (.inr (.inr (.inl h3)))];have e2:inB st 0 3=false:=by unfold inB;rw [Lk (show ¬ st<=3 by omega),Bool.and_false]
     rw [e2] at HI;clear hq h1
     go_enter func73,ntmps73
     go_upto_region 1 with fail
     refine qa (GlBox w t wd st) (GlBox.new w t wd st _) ?_;rintro wb hgb;obtain ⟨d0,d1,d2,hb1,hz1⟩:=id hgb;have N0 : ∀ x:Near wb.heap.size wb,x.w.cell? ⟨w.heap.size,0,none⟩=some (.string t):=fun x=>(x.h.cell L7).trans d0
     have N1 : ∀ x:Near wb.heap.size wb,x.w.cell? ⟨w.heap.size,1,none⟩=some (.bool wd):=fun x=>(x.h.cell L7).trans d1
     have N2 : ∀ x:Near wb.heap.size wb,x.w.cell? ⟨w.heap.size,2,none⟩=some (.int .i64 st):=fun x=>(x.h.cell L7).trans d2
     have hzz:=Ld wb.heap.size;have HUx:Hid (∀ x:Near wb.heap.size wb,U8 x.w):=Lh fun x=>HU.out.below (hb1.trans (x.h.mono L0))
     clear d0 d1 d2 hgb;refine qc wb.heap.size ?_;(repeat (go_big_quiet_step ((first | (go_at_call 77;exact Calls.near _ hzz (HK.out _ (HUx.out _))) | (go_at_call 78;exact Calls.near _ hzz (HW.out _ (HUx.out _))) | (go_at_call 70;exact Calls.near _ hzz (HI.out _))))));refine wpQuiet_nil ?_;intro x1;go_wp2;go_ret;exact ⟨rfl,hb1.trans (x1.h.mono L0)⟩
    ·have e2:inB st 0 3=true:=by unfold inB;rw [Ll L0,Ll L0];rfl
     rw [e2] at HI
     by_cases h4:st=3
     ·have e4:(st != 3)=false:=by simp [h4]
      by_cases h5:t=⟨#[42]⟩
      ·rw [if_neg (by rw [not_or,not_or,not_or];exact ⟨fun h=>h h1,h2,h3,fun h=>h.2 h5⟩)];have e5:(t.toList==[42])=true:=by rw [hq];simp [h5]
       clear hq h1 h5 h4
       go_enter func73,ntmps73
       go_upto_region 1 with fail
       refine qa (GlBox w t wd st) (GlBox.new w t wd st _) ?_;rintro wb hgb;obtain ⟨d0,d1,d2,hb1,hz1⟩:=id hgb;have N0 : ∀ x:Near wb.heap.size wb,x.w.cell? ⟨w.heap.size,0,none⟩=some (.string t):=fun x=>(x.h.cell L7).trans d0
       have N1 : ∀ x:Near wb.heap.size wb,x.w.cell? ⟨w.heap.size,1,none⟩=some (.bool wd):=fun x=>(x.h.cell L7).trans d1
       have N2 : ∀ x:Near wb.heap.size wb,x.w.cell? ⟨w.heap.size,2,none⟩=some (.int .i64 st):=fun x=>(x.h.cell L7).trans d2
       have hzz:=Ld wb.heap.size;have HUx:Hid (∀ x:Near wb.heap.size wb,U8 x.w):=Lh fun x=>HU.out.below (hb1.trans (x.h.mono L0))
       clear d0 d1 d2 hgb;refine qc wb.heap.size ?_;(repeat (go_big_quiet_step ((first | (go_at_call 77;exact Calls.near _ hzz (HK.out _ (HUx.out _))) | (go_at_call 78;exact Calls.near _ hzz (HW.out _ (HUx.out _))) | (go_at_call 70;exact Calls.near _ hzz (HI.out _))))));refine wpQuiet_nil ?_;intro x1;go_wp2;go_ret;exact ⟨rfl,hb1.trans (x1.h.mono L0)⟩
      ·rw [if_pos (.inr (.inr (.inr ⟨h4,h5⟩)))];have e5:(t.toList==[42])=false:=by rw [hq];simp [h5]
       clear hq h1 h5 h4
       go_enter func73,ntmps73
       go_upto_region 1 with fail
       refine qa (GlBox w t wd st) (GlBox.new w t wd st _) ?_;rintro wb hgb;obtain ⟨d0,d1,d2,hb1,hz1⟩:=id hgb;have N0 : ∀ x:Near wb.heap.size wb,x.w.cell? ⟨w.heap.size,0,none⟩=some (.string t):=fun x=>(x.h.cell L7).trans d0
       have N1 : ∀ x:Near wb.heap.size wb,x.w.cell? ⟨w.heap.size,1,none⟩=some (.bool wd):=fun x=>(x.h.cell L7).trans d1
       have N2 : ∀ x:Near wb.heap.size wb,x.w.cell? ⟨w.heap.size,2,none⟩=some (.int .i64 st):=fun x=>(x.h.cell L7).trans d2
       have hzz:=Ld wb.heap.size;have HUx:Hid (∀ x:Near wb.heap.size wb,U8 x.w):=Lh fun x=>HU.out.below (hb1.trans (x.h.mono L0))
       clear d0 d1 d2 hgb;refine qc wb.heap.size ?_;(repeat (go_big_quiet_step ((first | (go_at_call 77;exact Calls.near _ hzz (HK.out _ (HUx.out _))) | (go_at_call 78;exact Calls.near _ hzz (HW.out _ (HUx.out _))) | (go_at_call 70;exact Calls.near _ hzz (HI.out _))))));refine wpQuiet_nil ?_;intro x1;go_wp2;go_ret;exact ⟨rfl,hb1.trans (x1.h.mono L0)⟩
     ·rw [if_neg (by rw [not_or,not_or,not_or];exact ⟨fun h=>h h1,h2,h3,fun h=>h4 h.1⟩)];have e4:(st != 3)=true:=Ln.2 h4;clear hq h1
      go_enter func73,ntmps73
      go_upto_region 1 with fail
      refine qa (GlBox w t wd st) (GlBox.new w t wd st _) ?_;rintro wb hgb;obtain ⟨d0,d1,d2,hb1,hz1⟩:=id hgb;have N0 : ∀ x:Near wb.heap.size wb,x.w.cell? ⟨w.heap.size,0,none⟩=some (.string t):=fun x=>(x.h.cell L7).trans d0
      have N1 : ∀ x:Near wb.heap.size wb,x.w.cell? ⟨w.heap.size,1,none⟩=some (.bool wd):=fun x=>(x.h.cell L7).trans d1
      have N2 : ∀ x:Near wb.heap.size wb,x.w.cell? ⟨w.heap.size,2,none⟩=some (.int .i64 st):=fun x=>(x.h.cell L7).trans d2
      have hzz:=Ld wb.heap.size;have HUx:Hid (∀ x:Near wb.heap.size wb,U8 x.w):=Lh fun x=>HU.out.below (hb1.trans (x.h.mono L0))
      clear d0 d1 d2 hgb;refine qc wb.heap.size ?_;(repeat (go_big_quiet_step ((first | (go_at_call 77;exact Calls.near _ hzz (HK.out _ (HUx.out _))) | (go_at_call 78;exact Calls.near _ hzz (HW.out _ (HUx.out _))) | (go_at_call 70;exact Calls.near _ hzz (HI.out _))))));refine wpQuiet_nil ?_;intro x1;go_wp2;go_ret;exact ⟨rfl,hb1.trans (x1.h.mono L0)⟩
  ·rw [if_pos (.inl h1)];have e2:(wd==(W==2))=false:=by
    cases wd <;> by_cases h:W=2 <;> simp_all
   clear hq h1
   go_enter func73,ntmps73
   go_upto_region 1 with fail
   refine qa (GlBox w t wd st) (GlBox.new w t wd st _) ?_;rintro wb hgb;obtain ⟨d0,d1,d2,hb1,hz1⟩:=id hgb;have N0 : ∀ x:Near wb.heap.size wb,x.w.cell? ⟨w.heap.size,0,none⟩=some (.string t):=fun x=>(x.h.cell L7).trans d0
   have N1 : ∀ x:Near wb.heap.size wb,x.w.cell? ⟨w.heap.size,1,none⟩=some (.bool wd):=fun x=>(x.h.cell L7).trans d1
   have N2 : ∀ x:Near wb.heap.size wb,x.w.cell? ⟨w.heap.size,2,none⟩=some (.int .i64 st):=fun x=>(x.h.cell L7).trans d2
   have hzz:=Ld wb.heap.size;have HUx:Hid (∀ x:Near wb.heap.size wb,U8 x.w):=Lh fun x=>HU.out.below (hb1.trans (x.h.mono L0))
   clear d0 d1 d2 hgb;refine qc wb.heap.size ?_;(repeat (go_big_quiet_step ((first | (go_at_call 77;exact Calls.near _ hzz (HK.out _ (HUx.out _))) | (go_at_call 78;exact Calls.near _ hzz (HW.out _ (HUx.out _))) | (go_at_call 70;exact Calls.near _ hzz (HI.out _))))));refine wpQuiet_nil ?_;intro x1;go_wp2;go_ret;exact ⟨rfl,hb1.trans (x1.h.mono L0)⟩
 ·rw [if_pos hc];generalize zB t=K at *
  have hcb:(K==0)=false:=Lm.2 hc;clear hc hq
  go_enter func73,ntmps73
  go_upto_region 1 with fail
  refine qa (GlBox w t wd st) (GlBox.new w t wd st _) ?_;rintro wb hgb;obtain ⟨d0,d1,d2,hb1,hz1⟩:=id hgb;have N0 : ∀ x:Near wb.heap.size wb,x.w.cell? ⟨w.heap.size,0,none⟩=some (.string t):=fun x=>(x.h.cell L7).trans d0
  have N1 : ∀ x:Near wb.heap.size wb,x.w.cell? ⟨w.heap.size,1,none⟩=some (.bool wd):=fun x=>(x.h.cell L7).trans d1
  have N2 : ∀ x:Near wb.heap.size wb,x.w.cell? ⟨w.heap.size,2,none⟩=some (.int .i64 st):=fun x=>(x.h.cell L7).trans d2
  have hzz:=Ld wb.heap.size;have HUx:Hid (∀ x:Near wb.heap.size wb,U8 x.w):=Lh fun x=>HU.out.below (hb1.trans (x.h.mono L0))
  clear d0 d1 d2 hgb;refine qc wb.heap.size ?_;(repeat (go_big_quiet_step ((first | (go_at_call 77;exact Calls.near _ hzz (HK.out _ (HUx.out _))) | (go_at_call 78;exact Calls.near _ hzz (HW.out _ (HUx.out _))) | (go_at_call 70;exact Calls.near _ hzz (HI.out _))))));refine wpQuiet_nil ?_;intro x1;go_wp2;go_ret;exact ⟨rfl,hb1.trans (x1.h.mono L0)⟩
theorem qjA (g:Gl) (hs:g.text.size<=1000000000) (w:World) (hu:U8 w):Calls prog 72 #[glV g] w (qh (.bool (!qal g)) w):=by
 have HV:Hid (∀ w',U8 w'->_):=Lh (validu_ g hs);have HU:=Lh hu;generalize qal g=V at *
 obtain ⟨t,wd,st⟩:=g;clear hu
 go_enter func72,ntmps72
 go_upto_region 1 with fail
 refine qa (GlBox w t wd st) (GlBox.new w t wd st _) ?_;rintro wb hgb;obtain ⟨d0,d1,d2,hb1,hz1⟩:=hgb;have hub:=HU.out.below hb1
 go_wp2_with (go_at_call 73;refine (HV.out _ hub).mono ?_;rintro e w1 ⟨rfl,qmv⟩)
 go_ret;exact ⟨rfl,hb1.trans (qmv.mono L0)⟩
theorem qeY (l:List Gl) (A:Option Addr) (n c B:Nat) (w:World) (hm:n<=1000000000) (rd:Rd w B 3 A n (qi l)) (hB:B<=w.heap.size):Calls prog 32 #[.slice A n c] w (qh (.int .i64 (vM l:Nat)) w):=by
 have HG:Hid (∀ k (hk:k<l.length) w',Below w.heap.size w w'->∃ b o,A=some ⟨b,o,none⟩/\b<B/\(w'.cell? ⟨b,(o+k * 3),none⟩=some (.string l[k].text)/\w'.cell? ⟨b,(o+k * 3)+1,none⟩=some (.bool l[k].wide)/\w'.cell? ⟨b,(o+k * 3)+2,none⟩=some (.int .i64 l[k].style))):=Lh fun k hk w' hb=>jE (rd.below (hb.mono hB)) hk (jK rd)
 have HN:=Lh (jK rd);have HL:Hid (∀ k,kw (l.take k)<=n):=Lh fun k=>by rw [<- HN.out];exact qcf l k
 have HE:Hid (vM l=n+kw (l.take n)):=Lh (by unfold vM;rw [HN.out,List.take_of_length_le (Nat.le_of_eq HN.out)]);generalize vM l=R at *
 clear rd
 go_enter func32,ntmps32
 go_wp2
 go_loopw [3,10] (fun v x wr=>∃ k:Nat,k<=n/\x = .int .i64 k/\v = .int .i64 ((n+kw (l.take k):Nat):Int)/\Below w.heap.size w wr) (fun _ x _=>n-(intOf x).toNat)
 case atStart=>exact ⟨0,Nat.zero_le _,rfl,rfl,Le _ _⟩
 case round =>
  obtain ⟨k,hk,rfl,rfl,hb⟩:=hrel
  by_cases hlt:k<n
  ·have hkl:k<l.length:=by have:=HN.out;omega
   obtain ⟨b,o,rfl,_,g0,g1,g2⟩:=HG.out k hkl _ hb;have HT:=Lh (qcw hkl);have hW:=HL.out k;generalize kw (l.take k)=W1 at *
   generalize l[k]=g at *
   obtain ⟨t,wd,st⟩:=g;dsimp only at *
   cases wd
   ·go_wp2;exact ⟨⟨k+1,by omega,by go_num,by rw [HT.out];rfl,hb.alloc hb.size _⟩,by simp [intOf];omega⟩
   ·go_wp2;exact ⟨⟨k+1,by omega,by go_num,by rw [HT.out];simp only [Bool.toNat_true];go_num,hb.alloc hb.size _⟩,by simp [intOf];omega⟩
  ·obtain rfl:k=n:=by omega
   go_wp2;go_ret;exact ⟨by rw [HE.out];rfl,hb⟩
theorem qjp (l:List Gl) (A:Option Addr) (n c B:Nat) (w:World) (hm:n<=1000000000) (rd:Rd w B 3 A n (qi l)):Calls prog 58 #[.slice A n c] w fun e w'=>e = .returned (.int .i64 (vM l:Nat))/\w'=w:=by
 have HN:=Lh (jK rd);have HRd:=Lh rd;have HL:Hid (∀ k,kw (l.take k)<=n):=Lh fun k=>by rw [<- HN.out];exact qcf l k
 have HE:Hid (vM l=n+kw (l.take n)):=Lh (by unfold vM;rw [HN.out,List.take_of_length_le (Nat.le_of_eq HN.out)]);generalize vM l=R at *
 clear rd
 go_enter func58,ntmps58
 go_wp2
 go_loop [3,4] (fun v x=>∃ k:Nat,k<=n/\x = .int .i64 k/\v = .int .i64 ((k+kw (l.take k):Nat):Int)) (fun _ x=>n-(intOf x).toNat)
 case atStart=>exact ⟨0,Nat.zero_le _,rfl,rfl⟩
 case round =>
  obtain ⟨k,hk,rfl,rfl⟩:=hrel
  by_cases hlt:k<n
  ·have hkl:k<l.length:=by have:=HN.out;omega
   obtain ⟨b,o,rfl,_,-,g1,-⟩:=jE HRd.out hkl HN.out;have HT:=Lh (qcw hkl);have hW:=HL.out k;generalize kw (l.take k)=W1 at *
   generalize l[k].wide=wd at *
   cases wd
   ·go_wp2;exact ⟨⟨k+1,by omega,by go_num,by rw [HT.out];simp only [Bool.toNat_false];go_num⟩,by simp [intOf];omega⟩
   ·go_wp2;exact ⟨⟨k+1,by omega,by go_num,by rw [HT.out];simp only [Bool.toNat_true];go_num⟩,by simp [intOf];omega⟩
  ·obtain rfl:k=n:=by omega
   go_wp2;go_ret;exact ⟨by rw [HE.out];rfl,rfl⟩
theorem qiA (w0 h0:Int) (w:World):Calls prog 37 #[.int .i64 w0,.int .i64 h0] w fun e w'=>e = .returned (.bool (vR w0 h0))/\w=w':=by
 by_cases h1:1<=w0
 ·by_cases h2:w0<=132
  ·by_cases h3:1<=h0
   ·by_cases h4:h0<=60
    ·go_enter func37,ntmps37
     go_wp2;go_ret;exact ⟨by unfold vR;rw [Ll L0];rfl,rfl⟩
    ·go_enter func37,ntmps37
     go_wp2;go_ret;exact ⟨by unfold vR;rw [Lk L0];rfl,rfl⟩
   ·go_enter func37,ntmps37
    go_wp2;go_ret;exact ⟨by unfold vR;rw [Lk L0];rfl,rfl⟩
  ·go_enter func37,ntmps37
   go_wp2;go_ret;exact ⟨by unfold vR;rw [Lk L0];rfl,rfl⟩
 ·go_enter func37,ntmps37
  go_wp2;go_ret;exact ⟨by unfold vR;rw [Lk L0];rfl,rfl⟩
theorem q6 (w0 h0:Int) (w:World):Calls prog 38 #[.int .i64 w0,.int .i64 h0] w fun e w'=>e = .returned (.bool (vR w0 h0))/\w=w':=by
 by_cases h1:1<=w0
 ·by_cases h2:w0<=132
  ·by_cases h3:1<=h0
   ·by_cases h4:h0<=60
    ·go_enter func38,ntmps38
     go_wp2;go_ret;exact ⟨by unfold vR;rw [Ll L0];rfl,rfl⟩
    ·go_enter func38,ntmps38
     go_wp2;go_ret;exact ⟨by unfold vR;rw [Lk L0];rfl,rfl⟩
   ·go_enter func38,ntmps38
    go_wp2;go_ret;exact ⟨by unfold vR;rw [Lk L0];rfl,rfl⟩
  ·go_enter func38,ntmps38
   go_wp2;go_ret;exact ⟨by unfold vR;rw [Lk L0];rfl,rfl⟩
 ·go_enter func38,ntmps38
  go_wp2;go_ret;exact ⟨by unfold vR;rw [Lk L0];rfl,rfl⟩
theorem btw_ (n a b:Int) (w:World):Calls prog 49 #[.int .i64 n,.int .i64 a,.int .i64 b] w fun e w'=>e = .returned (.bool (inB n a b))/\w=w':=by
 unfold inB
 by_cases h1:a<=n
 ·by_cases h2:n<=b
  ·go_enter func49,ntmps49
   go_wp2;go_ret;exact ⟨by simp [h1,h2],rfl⟩
  ·go_enter func49,ntmps49
   go_wp2;go_ret;exact ⟨by simp [h1,h2],rfl⟩
 ·go_enter func49,ntmps49
  go_wp2;go_ret;exact ⟨by rw [Lk (show ¬ a<=n by omega)];rfl,rfl⟩
theorem qks (n a b:Int) (w:World):Calls prog 88 #[.int .i64 n,.int .i64 a,.int .i64 b] w fun e w'=>e = .returned (.bool (inB n a b))/\w=w':=by
 unfold inB
 by_cases h1:a<=n
 ·by_cases h2:n<=b
  ·go_enter func88,ntmps88
   go_wp2;go_ret;exact ⟨by simp [h1,h2],rfl⟩
  ·go_enter func88,ntmps88
   go_wp2;go_ret;exact ⟨by simp [h1,h2],rfl⟩
 ·go_enter func88,ntmps88
  go_wp2;go_ret;exact ⟨by rw [Lk (show ¬ a<=n by omega)];rfl,rfl⟩
theorem elt_row:Elt prog 22 38 (.slice none 0 0) 1 24 where
 und:=underlying22
 row:=by
  have h:(prog.info? 38).map (fun i=>(i.zero,i.size,i.bytes))=some (some (.slice none 0 0),1,24):=by kernel_rfl
  obtain ⟨i,hi,a,b,c⟩:=info_parts h;exact ⟨i,hi,a,b,c⟩
 zs:=rfl
 pos:=by decide
theorem nil_gl (w:World) (a:Option Addr) (n c n' c':Nat):(binOp .eql 38 (.slice a n c) (.slice none n' c')).run prog w = .ok (.bool a.isNone) w:=Lib.run_eql_slice_nil w _ _ a n c n' c' underlying38
theorem nil_rs (w:World) (a:Option Addr) (n c n' c':Nat):(binOp .eql 22 (.slice a n c) (.slice none n' c')).run prog w = .ok (.bool a.isNone) w:=Lib.run_eql_slice_nil w _ _ a n c n' c' underlying22
theorem qc7 (w:World):Calls prog 46 #[] w (qh (.agg #[.string ⟨#[32]⟩,.bool false,.int .i64 0]) w):=by
 go_enter func46,ntmps46
 go_wp2;exact bodyPost_ret (results_cell_row rfl _ _ w.heap.size 61 _ (0,0) _ rfl (heap_alloc_new w _) underlying61 rfl (by kernel_rfl)) rfl ⟨rfl,L5⟩
theorem qjx (g:Gl) (w:World):Calls prog 59 #[glV g] w (qh (.bool (decide (g=spG))) w):=by
 have hq:=eq_gl g spG;have hg:=qa2 g spG .eql;unfold glV spG at hq hg;unfold spG;generalize decide (g=_)=R at *
 obtain ⟨t,wd,st⟩:=g;dsimp only at *
 go_enter func59,ntmps59
 go_wp2;go_ret;exact ⟨rfl,L5⟩
theorem qcd (l:List Gl) (A:Option Addr) (n c B:Nat) (w:World) (hm:n<=1000000000) (rd:Rd w B 3 A n (qi l)) (hB:B<=w.heap.size):Calls prog 48 #[.slice A n c] w (ql 61 3 id w n (qi l)):=by
 have q22:=nil_gl
 rcases A with _ | a
 ·have hn:n=0:=by
   rcases Nat.eq_zero_or_pos n with h | h
   ·exact h
   ·obtain ⟨_,_,h,_⟩:=rd.2 h
    cases h
  subst hn;obtain rfl:l=[]:=List.length_eq_zero_iff.1 (jK rd);clear rd
  go_enter func48,ntmps48
  go_wp2;go_ret;exact ⟨none,0,rfl,zY _ _ _ _,Le _ _⟩
 ·go_enter func48,ntmps48
  go_wp2_with (at_builtin;go_must (refine qg rfl _ _ _ rfl qbz (w.heap.size) _ rfl (qx (xs:=[]) (by rfl) rfl (Ld _) L0) _ _ rfl (rd.below ((Le _ _).alloc hB _)) ?_);intro A4 c4 w4 qmC qmy qmG qmI;have z4:=qmy.size;(try simp only [Li] at z4);(try simp only [Lo,Lg] at qmC))
  go_ret;exact ⟨A4,c4,by first | rfl | (rw [Lo];rfl),qmC,(L5).trans qmy⟩
theorem clone_rs (l:List RowM) (A:Option Addr) (n c B:Nat) (w:World) (hm:n<=1000000000) (rd:Rd w B 1 A n (zQ l)) (hB:B<=w.heap.size):Calls prog 47 #[.slice A n c] w (ql 38 1 id w n (zQ l)):=by
 have q22:=nil_rs
 rcases A with _ | a
 ·have hn:n=0:=by
   rcases Nat.eq_zero_or_pos n with h | h
   ·exact h
   ·obtain ⟨_,_,h,_⟩:=rd.2 h
    cases h
  subst hn;obtain rfl:l=[]:=by
   have:=rd.1;rw [qbg] at this;exact List.length_eq_zero_iff.1 L0
  clear rd
  go_enter func47,ntmps47
  go_wp2;go_ret;exact ⟨none,0,rfl,zY _ _ _ _,Le _ _⟩
 ·go_enter func47,ntmps47
  go_wp2_with (at_builtin;refine qg rfl _ _ _ rfl elt_row (w.heap.size) _ rfl (qx (xs:=[]) (by rfl) rfl (Ld _) L0) _ _ rfl (rd.below ((Le _ _).alloc hB _)) ?_ (qf6 _);intro A4 c4 w4 qmC qmy qmG qmI;simp only [Lo,Lg] at qmC)
  go_ret;exact ⟨A4,c4,by first | rfl | (rw [Lo];rfl),qmC,(L5).trans qmy⟩
theorem vtrim_ (l:List Gl) (A:Option Addr) (n c B:Nat) (w:World) (hm:n<=1000000000) (hc:n<=c) (hcm:c<=maxLen) (rd:Rd w B 3 A n (qi l)) (hB:B<=w.heap.size):Calls prog 79 #[.slice A n c] w (ql 61 3 id w (zI l).length (qi (zI l))):=by
 have HN:=Lh (jK rd);have HG:Hid (∀ k (hk:k<l.length) w',Below w.heap.size w w'->∃ b o,A=some ⟨b,o,none⟩/\b<w.heap.size/\(w'.cell? ⟨b,(o+k * 3),none⟩=some (.string l[k].text)/\w'.cell? ⟨b,(o+k * 3)+1,none⟩=some (.bool l[k].wide)/\w'.cell? ⟨b,(o+k * 3)+2,none⟩=some (.int .i64 l[k].style))):=Lh fun k hk w' hb=>jE ((rd.more hB).below hb) hk (jK rd)
 have HR:Hid (∀ k,k<=n->Rd w w.heap.size 3 A k (qi (l.take k))):=Lh fun k hk=>by
  rw [kM];exact (rd.more hB).take hk
 have HT:Hid (∀ k (hk:k<l.length),zI (l.take (k+1))=if l[k]=spG then zI (l.take k) else l.take (k+1)):=Lh fun k hk=>qjX hk
 have H0:Hid (zI l=zI (l.take n)):=Lh (by rw [List.take_of_length_le (Nat.le_of_eq HN.out)]);clear rd;have HC:Hid (∀ k,k<=n->∀ w',Below w.heap.size w w'->Calls prog 48 #[.slice A k c] w' fun e w''=>∃ A' c',e = .returned (.slice A' k c')/\w''.ownsRow w.heap.size 61 3 (.slice A' k c') k (qi (l.take k))/\Below w.heap.size w w''):=Lh fun k hk w' hb =>
  (qcd (l.take k) A k c w.heap.size w' L0 ((HR.out k hk).below hb) hb.size).mono fun e w'' ⟨A',c',h1,h2,h3⟩=>⟨A',c',h1,qt h2 hb.size,hb.trans (h3.mono hb.size)⟩
 have hcc:(c:Int)<=9223372036854775807:=by unfold maxLen at hcm;omega
 clear hcm
 go_enter func79,ntmps79
 go_wp2
 go_loopw [3] (fun v wr=>∃ k:Nat,k<=n/\v = .int .i64 k/\Below w.heap.size w wr/\Hid (zI l=zI (l.take k))) (fun v _=>(intOf v).toNat)
 case atStart=>exact ⟨n,Ld _,rfl,Le _ _,H0⟩
 case round =>
  clear H0;obtain ⟨k,hk,rfl,hb,HK⟩:=hrel;have hzz:=Ld wr.heap.size
  by_cases h0:k=0
  ·have HL:Hid (zI l=l.take k):=Lh (by rw [HK.out,h0];rfl);have hk0:decide (0<k)=false:=Lk L0;clear h0 HG HT;go_wp2
   go_quiet (fail)
   go_wp2_with (go_at_call 48;refine (HC.out k hk _ (qf hb)).mono ?_;rintro e w1 ⟨A1,c1,rfl,o1,b1⟩)
   go_ret;rw [HL.out,Lu,HN.out,Nat.min_eq_left hk];exact ⟨A1,c1,rfl,o1,b1⟩
  ·obtain ⟨j,rfl⟩ : ∃ j,k=j+1:=⟨k-1,by omega⟩
   have hjl:j<l.length:=by have:=HN.out;omega
   obtain ⟨b,o,rfl,hbB,g0,g1,g2⟩:=HG.out j hjl _ hb;have hq:=eq_gl l[j] spG;have hg:=qa2 l[j] spG .eql;have N:=qeW ⟨g0,g1,g2⟩ (show b<wr.heap.size from Ly hbB hb.size)
   by_cases he:l[j]=spG
   ·have HL:Hid (zI l=zI (l.take j)):=Lh (by rw [HK.out,HT.out j hjl,if_pos he]);rw [Ll he] at hq;clear he HC HG HT;unfold glV spG at hq hg;generalize l[j]=g at *
    obtain ⟨t,wd,st⟩:=g;dsimp only at *
    clear g0 g1 g2 h0;go_wp2;refine qc wr.heap.size ?_;(repeat (go_big_quiet_step ((go_at_call 46;exact Calls.near _ hzz (qc7 _)))));refine wpQuiet_nil ?_;intro x1;go_wp2;exact ⟨⟨j,by omega,by go_num,hb.trans (x1.h.mono hb.size),HL⟩,by simp [intOf]⟩
   ·have HL:Hid (zI l=l.take (j+1)):=Lh (by rw [HK.out,HT.out j hjl,if_neg he]);rw [Lk he] at hq;clear he HG HT;unfold glV spG at hq hg;generalize l[j]=g at *
    obtain ⟨t,wd,st⟩:=g;dsimp only at *
    clear g0 g1 g2 h0;go_wp2;refine qc wr.heap.size ?_;(repeat (go_big_quiet_step ((go_at_call 46;exact Calls.near _ hzz (qc7 _)))));refine wpQuiet_nil ?_;intro x1
    go_wp2_with (go_at_call 48;refine (HC.out (j+1) hk _ (hb.trans (x1.h.mono hb.size))).mono ?_;rintro e w1 ⟨A1,c1,rfl,o1,b1⟩)
    go_ret;rw [HL.out,Lu,HN.out,Nat.min_eq_left hk];exact ⟨A1,c1,rfl,o1,b1⟩
theorem qkD (l:List Gl) (A:Option Addr) (n c B:Nat) (w:World) (hm:n<=1000000000) (hc:n<=c) (hcm:c<=maxLen) (rd:Rd w B 3 A n (qi l)) (hB:B<=w.heap.size):Calls prog 90 #[.slice A n c] w (ql 61 3 id w (zI l).length (qi (zI l))):=by
 have HN:=Lh (jK rd);have HG:Hid (∀ k (hk:k<l.length) w',Below w.heap.size w w'->∃ b o,A=some ⟨b,o,none⟩/\b<w.heap.size/\(w'.cell? ⟨b,(o+k * 3),none⟩=some (.string l[k].text)/\w'.cell? ⟨b,(o+k * 3)+1,none⟩=some (.bool l[k].wide)/\w'.cell? ⟨b,(o+k * 3)+2,none⟩=some (.int .i64 l[k].style))):=Lh fun k hk w' hb=>jE ((rd.more hB).below hb) hk (jK rd)
 have HR:Hid (∀ k,k<=n->Rd w w.heap.size 3 A k (qi (l.take k))):=Lh fun k hk=>by
  rw [kM];exact (rd.more hB).take hk
 have HT:Hid (∀ k (hk:k<l.length),zI (l.take (k+1))=if l[k]=spG then zI (l.take k) else l.take (k+1)):=Lh fun k hk=>qjX hk
 have H0:Hid (zI l=zI (l.take n)):=Lh (by rw [List.take_of_length_le (Nat.le_of_eq HN.out)]);clear rd;have hcc:(c:Int)<=9223372036854775807:=by unfold maxLen at hcm;omega
 clear hcm
 go_enter func90,ntmps90
 go_wp2
 go_loopw [3] (fun v wr=>∃ k:Nat,k<=n/\v = .int .i64 k/\Below w.heap.size w wr/\Hid (zI l=zI (l.take k))) (fun v _=>(intOf v).toNat)
 case atStart=>exact ⟨n,Ld _,rfl,Le _ _,H0⟩
 case round =>
  clear H0;obtain ⟨k,hk,rfl,hb,HK⟩:=hrel;have hzz:=hb.size
  by_cases h0:k=0
  ·have HL:Hid (zI l=l.take k):=Lh (by rw [HK.out,h0];rfl);have hk0:decide (0<k)=false:=Lk L0;clear h0 HG HT
   go_wp2_with (at_builtin;go_must (refine qg rfl _ _ _ rfl qbz (w.heap.size) _ rfl (qx (xs:=[]) (by rfl) rfl hzz L0) _ _ rfl ((HR.out _ hk).below (hb.alloc hzz _)) ?_);intro A4 c4 w4 qmC qmy qmG qmI;have z4:=qmy.size;(try simp only [Li] at z4);(try simp only [Lo,Lg] at qmC))
   go_ret;rw [HL.out,Lu,HN.out,Nat.min_eq_left hk];exact ⟨A4,c4,by first | rfl | (rw [Lo];rfl),qmC,(hb.alloc hzz _).trans qmy⟩
  ·obtain ⟨j,rfl⟩ : ∃ j,k=j+1:=⟨k-1,by omega⟩
   have hjl:j<l.length:=by have:=HN.out;omega
   obtain ⟨b,o,rfl,hbB,g0,g1,g2⟩:=HG.out j hjl _ hb;have HL:=HK.out;rw [HT.out j hjl] at HL;replace HL:=Lh HL;have HBk:=Lh (qjx l[j]);generalize l[j]=g at *
   by_cases he:g=spG
   ·rw [if_pos he] at HL;rw [Ll he] at HBk;clear he HG HT;obtain ⟨t,wd,st⟩:=g;dsimp only at *
    clear h0
    go_wp2_with (go_at_call 59;refine (HBk.out _).mono ?_;rintro e w1 ⟨rfl,hb1⟩)
    exact ⟨⟨j,by omega,by go_num,hb.trans (hb1.mono hb.size),HL⟩,by simp [intOf]⟩
   ·rw [if_neg he] at HL;rw [Lk he] at HBk;clear he HG HT;obtain ⟨t,wd,st⟩:=g;dsimp only at *
    clear h0
    go_wp2_with (first
     | (go_at_call 59;refine (HBk.out _).mono ?_;rintro e w1 ⟨rfl,hb1⟩;have hb2:=hb.trans (hb1.mono hb.size);have hz2:=hb2.size)
     | (at_builtin;go_must (refine qg rfl _ _ _ rfl qbz (w.heap.size) _ rfl (qx (xs:=[]) (by rfl) rfl hz2 L0) _ _ rfl ((HR.out _ hk).below (hb2.alloc hz2 _)) ?_);intro A4 c4 w4 qmC qmy qmG qmI;have z4:=qmy.size;(try simp only [Li] at z4);(try simp only [Lo,Lg] at qmC)))
    go_ret;rw [HL.out,Lu,HN.out,Nat.min_eq_left hk];exact ⟨A4,c4,by first | rfl | (rw [Lo];rfl),qmC,(hb2.alloc hz2 _).trans qmy⟩
theorem qcG (g:Gl) (hs:g.text.size<=1000000000) (w:World) (hu:U8 w):Calls prog 45 #[glV g] w (qh (.int .i64 (qJ g)) w)/\Calls prog 52 #[glV g] w (qh (.int .i64 (qJ g)) w):=by
 have HK:Hid (∀ w',U8 w'->_):=Lh (qdB g.text hs);have HW:Hid (∀ w',U8 w'->_):=Lh (qip g.text hs);have HI:Hid (∀ w',Calls prog 49 #[.int .i64 g.style,.int .i64 0,.int .i64 3] w' (qh (.bool (inB g.style 0 3)) w')):=Lh fun w'=>(btw_ _ _ _ w').mono fun e w'' ⟨h1,h2⟩=>⟨h1,h2 ▸ Le _ _⟩
 have HU:=Lh hu;have hq:=qdC g.text;unfold qJ;obtain ⟨t,wd,st⟩:=g;dsimp only at *
 clear hu
 by_cases hc:zB t=0
 ·rw [if_neg (by simp [hc])];rw [hc] at HK;clear hc;generalize kb t=W at *
  by_cases h1:wd=decide (W=2)
  ·have e1:(wd==(W==2))=true:=by
    cases wd <;> by_cases h:W=2 <;> simp_all
   by_cases h2:st<0
   ·rw [if_pos (.inr (.inl h2))];have d2:decide (st<0)=true:=Ll h2;have e2:inB st 0 3=false:=by unfold inB;rw [Lk L0];rfl
    rw [e2] at HI;clear hq h1 e2;refine ⟨?_,?_⟩
    ·clear HI
     go_enter func45,ntmps45
     go_upto_region 1 with fail
     refine qa (GlBox w t wd st) (GlBox.new w t wd st _) ?_;rintro wb hgb;obtain ⟨c0,_,_,hb0,hz0⟩:=id hgb;have hub:=HU.out.below hb0
     go_upto_region 3 with (go_at_call 77;refine (HK.out _ hub).mono ?_;rintro e w1 ⟨rfl,qmv⟩;have hg1:=hgb.on qmv)
     obtain ⟨d0,d1,d2,hb1,hz1⟩:=id hg1;have N0 : ∀ x:Near w1.heap.size w1,x.w.cell? ⟨w.heap.size,0,none⟩=some (.string t):=fun x=>(x.h.cell L7).trans d0
     have N1 : ∀ x:Near w1.heap.size w1,x.w.cell? ⟨w.heap.size,1,none⟩=some (.bool wd):=fun x=>(x.h.cell L7).trans d1
     have N2 : ∀ x:Near w1.heap.size w1,x.w.cell? ⟨w.heap.size,2,none⟩=some (.int .i64 st):=fun x=>(x.h.cell L7).trans d2
     have hzz:=Ld w1.heap.size;have HUx:Hid (∀ x:Near w1.heap.size w1,U8 x.w):=Lh fun x=>HU.out.below (hb1.trans (x.h.mono L0))
     clear d0 d1 d2 hg1 hgb c0 hub;refine qc w1.heap.size ?_;(repeat (go_big_quiet_step ((go_at_call 78;exact Calls.near _ hzz (HW.out _ (HUx.out _))))));refine wpQuiet_nil ?_;intro x1;go_wp2;go_ret;exact ⟨rfl,hb1.trans (x1.h.mono L0)⟩
    ·go_enter func52,ntmps52
     go_upto_region 1 with fail
     refine qa (GlBox w t wd st) (GlBox.new w t wd st _) ?_;rintro wb hgb;obtain ⟨c0,_,_,hb0,hz0⟩:=id hgb;have hub:=HU.out.below hb0
     go_upto_region 3 with (go_at_call 77;refine (HK.out _ hub).mono ?_;rintro e w1 ⟨rfl,qmv⟩;have hg1:=hgb.on qmv)
     obtain ⟨d0,d1,d2,hb1,hz1⟩:=id hg1;have N0 : ∀ x:Near w1.heap.size w1,x.w.cell? ⟨w.heap.size,0,none⟩=some (.string t):=fun x=>(x.h.cell L7).trans d0
     have N1 : ∀ x:Near w1.heap.size w1,x.w.cell? ⟨w.heap.size,1,none⟩=some (.bool wd):=fun x=>(x.h.cell L7).trans d1
     have N2 : ∀ x:Near w1.heap.size w1,x.w.cell? ⟨w.heap.size,2,none⟩=some (.int .i64 st):=fun x=>(x.h.cell L7).trans d2
     have hzz:=Ld w1.heap.size;have HUx:Hid (∀ x:Near w1.heap.size w1,U8 x.w):=Lh fun x=>HU.out.below (hb1.trans (x.h.mono L0))
     clear d0 d1 d2 hg1 hgb c0 hub;refine qc w1.heap.size ?_;(repeat (go_big_quiet_step ((first | (go_at_call 78;exact Calls.near _ hzz (HW.out _ (HUx.out _))) | (go_at_call 49;exact Calls.near _ hzz (HI.out _))))));refine wpQuiet_nil ?_;intro x1;go_wp2;go_ret;exact ⟨rfl,hb1.trans (x1.h.mono L0)⟩
   ·have d2:decide (st<0)=false:=Lk h2
    by_cases h3:3<st
    ·rw [if_pos (.inr (.inr (.inl h3)))];have d3:decide (3<st)=true:=Ll h3;have e2:inB st 0 3=false:=by unfold inB;rw [Lk (show ¬ st<=3 by omega),Bool.and_false]
     rw [e2] at HI;clear hq h1 e2;refine ⟨?_,?_⟩
     ·clear HI
      go_enter func45,ntmps45
      go_upto_region 1 with fail
      refine qa (GlBox w t wd st) (GlBox.new w t wd st _) ?_;rintro wb hgb;obtain ⟨c0,_,_,hb0,hz0⟩:=id hgb;have hub:=HU.out.below hb0
      go_upto_region 3 with (go_at_call 77;refine (HK.out _ hub).mono ?_;rintro e w1 ⟨rfl,qmv⟩;have hg1:=hgb.on qmv)
      obtain ⟨d0,d1,d2,hb1,hz1⟩:=id hg1;have N0 : ∀ x:Near w1.heap.size w1,x.w.cell? ⟨w.heap.size,0,none⟩=some (.string t):=fun x=>(x.h.cell L7).trans d0
      have N1 : ∀ x:Near w1.heap.size w1,x.w.cell? ⟨w.heap.size,1,none⟩=some (.bool wd):=fun x=>(x.h.cell L7).trans d1
      have N2 : ∀ x:Near w1.heap.size w1,x.w.cell? ⟨w.heap.size,2,none⟩=some (.int .i64 st):=fun x=>(x.h.cell L7).trans d2
      have hzz:=Ld w1.heap.size;have HUx:Hid (∀ x:Near w1.heap.size w1,U8 x.w):=Lh fun x=>HU.out.below (hb1.trans (x.h.mono L0))
      clear d0 d1 d2 hg1 hgb c0 hub;refine qc w1.heap.size ?_;(repeat (go_big_quiet_step ((go_at_call 78;exact Calls.near _ hzz (HW.out _ (HUx.out _))))));refine wpQuiet_nil ?_;intro x1;go_wp2;go_ret;exact ⟨rfl,hb1.trans (x1.h.mono L0)⟩
     ·go_enter func52,ntmps52
      go_upto_region 1 with fail
      refine qa (GlBox w t wd st) (GlBox.new w t wd st _) ?_;rintro wb hgb;obtain ⟨c0,_,_,hb0,hz0⟩:=id hgb;have hub:=HU.out.below hb0
      go_upto_region 3 with (go_at_call 77;refine (HK.out _ hub).mono ?_;rintro e w1 ⟨rfl,qmv⟩;have hg1:=hgb.on qmv)
      obtain ⟨d0,d1,d2,hb1,hz1⟩:=id hg1;have N0 : ∀ x:Near w1.heap.size w1,x.w.cell? ⟨w.heap.size,0,none⟩=some (.string t):=fun x=>(x.h.cell L7).trans d0
      have N1 : ∀ x:Near w1.heap.size w1,x.w.cell? ⟨w.heap.size,1,none⟩=some (.bool wd):=fun x=>(x.h.cell L7).trans d1
      have N2 : ∀ x:Near w1.heap.size w1,x.w.cell? ⟨w.heap.size,2,none⟩=some (.int .i64 st):=fun x=>(x.h.cell L7).trans d2
      have hzz:=Ld w1.heap.size;have HUx:Hid (∀ x:Near w1.heap.size w1,U8 x.w):=Lh fun x=>HU.out.below (hb1.trans (x.h.mono L0))
      clear d0 d1 d2 hg1 hgb c0 hub;refine qc w1.heap.size ?_;(repeat (go_big_quiet_step ((first | (go_at_call 78;exact Calls.near _ hzz (HW.out _ (HUx.out _))) | (go_at_call 49;exact Calls.near _ hzz (HI.out _))))));refine wpQuiet_nil ?_;intro x1;go_wp2;go_ret;exact ⟨rfl,hb1.trans (x1.h.mono L0)⟩
    ·have d3:decide (3<st)=false:=Lk h3;have e2:inB st 0 3=true:=by unfold inB;rw [Ll L0,Ll L0];rfl
     rw [e2] at HI;clear e2
     by_cases h4:st=3
     ·have e4:(st==3)=true:=beq_iff_eq.2 h4
      by_cases h5:t=⟨#[42]⟩
      ·rw [if_neg (by rw [not_or,not_or,not_or];exact ⟨fun h=>h h1,h2,h3,fun h=>h.2 h5⟩)];have e5:(t.toList==[42])=true:=by rw [hq];simp [h5]
       clear hq h1 h5 h4;refine ⟨?_,?_⟩
       ·clear HI
        go_enter func45,ntmps45
        go_upto_region 1 with fail
        refine qa (GlBox w t wd st) (GlBox.new w t wd st _) ?_;rintro wb hgb;obtain ⟨c0,_,_,hb0,hz0⟩:=id hgb;have hub:=HU.out.below hb0
        go_upto_region 3 with (go_at_call 77;refine (HK.out _ hub).mono ?_;rintro e w1 ⟨rfl,qmv⟩;have hg1:=hgb.on qmv)
        obtain ⟨d0,d1,d2,hb1,hz1⟩:=id hg1;have N0 : ∀ x:Near w1.heap.size w1,x.w.cell? ⟨w.heap.size,0,none⟩=some (.string t):=fun x=>(x.h.cell L7).trans d0
        have N1 : ∀ x:Near w1.heap.size w1,x.w.cell? ⟨w.heap.size,1,none⟩=some (.bool wd):=fun x=>(x.h.cell L7).trans d1
        have N2 : ∀ x:Near w1.heap.size w1,x.w.cell? ⟨w.heap.size,2,none⟩=some (.int .i64 st):=fun x=>(x.h.cell L7).trans d2
        have hzz:=Ld w1.heap.size;have HUx:Hid (∀ x:Near w1.heap.size w1,U8 x.w):=Lh fun x=>HU.out.below (hb1.trans (x.h.mono L0))
        clear d0 d1 d2 hg1 hgb c0 hub;refine qc w1.heap.size ?_;(repeat (go_big_quiet_step ((go_at_call 78;exact Calls.near _ hzz (HW.out _ (HUx.out _))))));refine wpQuiet_nil ?_;intro x1;go_wp2;go_ret;exact ⟨rfl,hb1.trans (x1.h.mono L0)⟩
       ·go_enter func52,ntmps52
        go_upto_region 1 with fail
        refine qa (GlBox w t wd st) (GlBox.new w t wd st _) ?_;rintro wb hgb;obtain ⟨c0,_,_,hb0,hz0⟩:=id hgb;have hub:=HU.out.below hb0
        go_upto_region 3 with (go_at_call 77;refine (HK.out _ hub).mono ?_;rintro e w1 ⟨rfl,qmv⟩;have hg1:=hgb.on qmv)
        obtain ⟨d0,d1,d2,hb1,hz1⟩:=id hg1;have N0 : ∀ x:Near w1.heap.size w1,x.w.cell? ⟨w.heap.size,0,none⟩=some (.string t):=fun x=>(x.h.cell L7).trans d0
        have N1 : ∀ x:Near w1.heap.size w1,x.w.cell? ⟨w.heap.size,1,none⟩=some (.bool wd):=fun x=>(x.h.cell L7).trans d1
        have N2 : ∀ x:Near w1.heap.size w1,x.w.cell? ⟨w.heap.size,2,none⟩=some (.int .i64 st):=fun x=>(x.h.cell L7).trans d2
        have hzz:=Ld w1.heap.size;have HUx:Hid (∀ x:Near w1.heap.size w1,U8 x.w):=Lh fun x=>HU.out.below (hb1.trans (x.h.mono L0))
        clear d0 d1 d2 hg1 hgb c0 hub;refine qc w1.heap.size ?_;(repeat (go_big_quiet_step ((first | (go_at_call 78;exact Calls.near _ hzz (HW.out _ (HUx.out _))) | (go_at_call 49;exact Calls.near _ hzz (HI.out _))))));refine wpQuiet_nil ?_;intro x1;go_wp2;go_ret;exact ⟨rfl,hb1.trans (x1.h.mono L0)⟩
      ·rw [if_pos (.inr (.inr (.inr ⟨h4,h5⟩)))];have e5:(t.toList==[42])=false:=by rw [hq];simp [h5]
       clear hq h1 h5 h4;refine ⟨?_,?_⟩
       ·clear HI
        go_enter func45,ntmps45
        go_upto_region 1 with fail
        refine qa (GlBox w t wd st) (GlBox.new w t wd st _) ?_;rintro wb hgb;obtain ⟨c0,_,_,hb0,hz0⟩:=id hgb;have hub:=HU.out.below hb0
        go_upto_region 3 with (go_at_call 77;refine (HK.out _ hub).mono ?_;rintro e w1 ⟨rfl,qmv⟩;have hg1:=hgb.on qmv)
        obtain ⟨d0,d1,d2,hb1,hz1⟩:=id hg1;have N0 : ∀ x:Near w1.heap.size w1,x.w.cell? ⟨w.heap.size,0,none⟩=some (.string t):=fun x=>(x.h.cell L7).trans d0
        have N1 : ∀ x:Near w1.heap.size w1,x.w.cell? ⟨w.heap.size,1,none⟩=some (.bool wd):=fun x=>(x.h.cell L7).trans d1
        have N2 : ∀ x:Near w1.heap.size w1,x.w.cell? ⟨w.heap.size,2,none⟩=some (.int .i64 st):=fun x=>(x.h.cell L7).trans d2
        have hzz:=Ld w1.heap.size;have HUx:Hid (∀ x:Near w1.heap.size w1,U8 x.w):=Lh fun x=>HU.out.below (hb1.trans (x.h.mono L0))
        clear d0 d1 d2 hg1 hgb c0 hub;refine qc w1.heap.size ?_;(repeat (go_big_quiet_step ((go_at_call 78;exact Calls.near _ hzz (HW.out _ (HUx.out _))))));refine wpQuiet_nil ?_;intro x1;go_wp2;go_ret;exact ⟨rfl,hb1.trans (x1.h.mono L0)⟩
       ·go_enter func52,ntmps52
        go_upto_region 1 with fail
        refine qa (GlBox w t wd st) (GlBox.new w t wd st _) ?_;rintro wb hgb;obtain ⟨c0,_,_,hb0,hz0⟩:=id hgb;have hub:=HU.out.below hb0
        go_upto_region 3 with (go_at_call 77;refine (HK.out _ hub).mono ?_;rintro e w1 ⟨rfl,qmv⟩;have hg1:=hgb.on qmv)
        obtain ⟨d0,d1,d2,hb1,hz1⟩:=id hg1;have N0 : ∀ x:Near w1.heap.size w1,x.w.cell? ⟨w.heap.size,0,none⟩=some (.string t):=fun x=>(x.h.cell L7).trans d0
        have N1 : ∀ x:Near w1.heap.size w1,x.w.cell? ⟨w.heap.size,1,none⟩=some (.bool wd):=fun x=>(x.h.cell L7).trans d1
        have N2 : ∀ x:Near w1.heap.size w1,x.w.cell? ⟨w.heap.size,2,none⟩=some (.int .i64 st):=fun x=>(x.h.cell L7).trans d2
        have hzz:=Ld w1.heap.size;have HUx:Hid (∀ x:Near w1.heap.size w1,U8 x.w):=Lh fun x=>HU.out.below (hb1.trans (x.h.mono L0))
        clear d0 d1 d2 hg1 hgb c0 hub;refine qc w1.heap.size ?_;(repeat (go_big_quiet_step ((first | (go_at_call 78;exact Calls.near _ hzz (HW.out _ (HUx.out _))) | (go_at_call 49;exact Calls.near _ hzz (HI.out _))))));refine wpQuiet_nil ?_;intro x1;go_wp2;go_ret;exact ⟨rfl,hb1.trans (x1.h.mono L0)⟩
     ·rw [if_neg (by rw [not_or,not_or,not_or];exact ⟨fun h=>h h1,h2,h3,fun h=>h4 h.1⟩)];have e4:(st==3)=false:=Lm.2 h4;clear hq h1;refine ⟨?_,?_⟩
      ·clear HI
       go_enter func45,ntmps45
       go_upto_region 1 with fail
       refine qa (GlBox w t wd st) (GlBox.new w t wd st _) ?_;rintro wb hgb;obtain ⟨c0,_,_,hb0,hz0⟩:=id hgb;have hub:=HU.out.below hb0
       go_upto_region 3 with (go_at_call 77;refine (HK.out _ hub).mono ?_;rintro e w1 ⟨rfl,qmv⟩;have hg1:=hgb.on qmv)
       obtain ⟨d0,d1,d2,hb1,hz1⟩:=id hg1;have N0 : ∀ x:Near w1.heap.size w1,x.w.cell? ⟨w.heap.size,0,none⟩=some (.string t):=fun x=>(x.h.cell L7).trans d0
       have N1 : ∀ x:Near w1.heap.size w1,x.w.cell? ⟨w.heap.size,1,none⟩=some (.bool wd):=fun x=>(x.h.cell L7).trans d1
       have N2 : ∀ x:Near w1.heap.size w1,x.w.cell? ⟨w.heap.size,2,none⟩=some (.int .i64 st):=fun x=>(x.h.cell L7).trans d2
       have hzz:=Ld w1.heap.size;have HUx:Hid (∀ x:Near w1.heap.size w1,U8 x.w):=Lh fun x=>HU.out.below (hb1.trans (x.h.mono L0))
       clear d0 d1 d2 hg1 hgb c0 hub;refine qc w1.heap.size ?_;(repeat (go_big_quiet_step ((go_at_call 78;exact Calls.near _ hzz (HW.out _ (HUx.out _))))));refine wpQuiet_nil ?_;intro x1;go_wp2;go_ret;exact ⟨rfl,hb1.trans (x1.h.mono L0)⟩
      ·go_enter func52,ntmps52
       go_upto_region 1 with fail
       refine qa (GlBox w t wd st) (GlBox.new w t wd st _) ?_;rintro wb hgb;obtain ⟨c0,_,_,hb0,hz0⟩:=id hgb;have hub:=HU.out.below hb0
       go_upto_region 3 with (go_at_call 77;refine (HK.out _ hub).mono ?_;rintro e w1 ⟨rfl,qmv⟩;have hg1:=hgb.on qmv)
       obtain ⟨d0,d1,d2,hb1,hz1⟩:=id hg1;have N0 : ∀ x:Near w1.heap.size w1,x.w.cell? ⟨w.heap.size,0,none⟩=some (.string t):=fun x=>(x.h.cell L7).trans d0
       have N1 : ∀ x:Near w1.heap.size w1,x.w.cell? ⟨w.heap.size,1,none⟩=some (.bool wd):=fun x=>(x.h.cell L7).trans d1
       have N2 : ∀ x:Near w1.heap.size w1,x.w.cell? ⟨w.heap.size,2,none⟩=some (.int .i64 st):=fun x=>(x.h.cell L7).trans d2
       have hzz:=Ld w1.heap.size;have HUx:Hid (∀ x:Near w1.heap.size w1,U8 x.w):=Lh fun x=>HU.out.below (hb1.trans (x.h.mono L0))
       clear d0 d1 d2 hg1 hgb c0 hub;refine qc w1.heap.size ?_;(repeat (go_big_quiet_step ((first | (go_at_call 78;exact Calls.near _ hzz (HW.out _ (HUx.out _))) | (go_at_call 49;exact Calls.near _ hzz (HI.out _))))));refine wpQuiet_nil ?_;intro x1;go_wp2;go_ret;exact ⟨rfl,hb1.trans (x1.h.mono L0)⟩
  ·rw [if_pos (.inl h1)];have e2:(wd==(W==2))=false:=by
    cases wd <;> by_cases h:W=2 <;> simp_all
   clear hq h1;refine ⟨?_,?_⟩
   ·clear HI
    go_enter func45,ntmps45
    go_upto_region 1 with fail
    refine qa (GlBox w t wd st) (GlBox.new w t wd st _) ?_;rintro wb hgb;obtain ⟨c0,_,_,hb0,hz0⟩:=id hgb;have hub:=HU.out.below hb0
    go_upto_region 3 with (go_at_call 77;refine (HK.out _ hub).mono ?_;rintro e w1 ⟨rfl,qmv⟩;have hg1:=hgb.on qmv)
    obtain ⟨d0,d1,d2,hb1,hz1⟩:=id hg1;have N0 : ∀ x:Near w1.heap.size w1,x.w.cell? ⟨w.heap.size,0,none⟩=some (.string t):=fun x=>(x.h.cell L7).trans d0
    have N1 : ∀ x:Near w1.heap.size w1,x.w.cell? ⟨w.heap.size,1,none⟩=some (.bool wd):=fun x=>(x.h.cell L7).trans d1
    have N2 : ∀ x:Near w1.heap.size w1,x.w.cell? ⟨w.heap.size,2,none⟩=some (.int .i64 st):=fun x=>(x.h.cell L7).trans d2
    have hzz:=Ld w1.heap.size;have HUx:Hid (∀ x:Near w1.heap.size w1,U8 x.w):=Lh fun x=>HU.out.below (hb1.trans (x.h.mono L0))
    clear d0 d1 d2 hg1 hgb c0 hub;refine qc w1.heap.size ?_;(repeat (go_big_quiet_step ((go_at_call 78;exact Calls.near _ hzz (HW.out _ (HUx.out _))))));refine wpQuiet_nil ?_;intro x1;go_wp2;go_ret;exact ⟨rfl,hb1.trans (x1.h.mono L0)⟩
   ·go_enter func52,ntmps52
    go_upto_region 1 with fail
    refine qa (GlBox w t wd st) (GlBox.new w t wd st _) ?_;rintro wb hgb;obtain ⟨c0,_,_,hb0,hz0⟩:=id hgb;have hub:=HU.out.below hb0
    go_upto_region 3 with (go_at_call 77;refine (HK.out _ hub).mono ?_;rintro e w1 ⟨rfl,qmv⟩;have hg1:=hgb.on qmv)
    obtain ⟨d0,d1,d2,hb1,hz1⟩:=id hg1;have N0 : ∀ x:Near w1.heap.size w1,x.w.cell? ⟨w.heap.size,0,none⟩=some (.string t):=fun x=>(x.h.cell L7).trans d0
    have N1 : ∀ x:Near w1.heap.size w1,x.w.cell? ⟨w.heap.size,1,none⟩=some (.bool wd):=fun x=>(x.h.cell L7).trans d1
    have N2 : ∀ x:Near w1.heap.size w1,x.w.cell? ⟨w.heap.size,2,none⟩=some (.int .i64 st):=fun x=>(x.h.cell L7).trans d2
    have hzz:=Ld w1.heap.size;have HUx:Hid (∀ x:Near w1.heap.size w1,U8 x.w):=Lh fun x=>HU.out.below (hb1.trans (x.h.mono L0))
    clear d0 d1 d2 hg1 hgb c0 hub;refine qc w1.heap.size ?_;(repeat (go_big_quiet_step ((first | (go_at_call 78;exact Calls.near _ hzz (HW.out _ (HUx.out _))) | (go_at_call 49;exact Calls.near _ hzz (HI.out _))))));refine wpQuiet_nil ?_;intro x1;go_wp2;go_ret;exact ⟨rfl,hb1.trans (x1.h.mono L0)⟩
 ·rw [if_pos hc];generalize zB t=K at *
  have hcb:(K != 0)=true:=Ln.2 hc;clear hc hq;refine ⟨?_,?_⟩
  ·go_enter func45,ntmps45
   go_upto_region 1 with fail
   refine qa (GlBox w t wd st) (GlBox.new w t wd st _) ?_;rintro wb hgb;obtain ⟨c0,_,_,hb0,hz0⟩:=id hgb;have hub:=HU.out.below hb0
   go_wp2_with (go_at_call 77;refine (HK.out _ hub).mono ?_;rintro e w1 ⟨rfl,qmv⟩)
   go_ret;exact ⟨rfl,hb0.trans (qmv.mono L0)⟩
  ·go_enter func52,ntmps52
   go_upto_region 1 with fail
   refine qa (GlBox w t wd st) (GlBox.new w t wd st _) ?_;rintro wb hgb;obtain ⟨c0,_,_,hb0,hz0⟩:=id hgb;have hub:=HU.out.below hb0
   go_wp2_with (go_at_call 77;refine (HK.out _ hub).mono ?_;rintro e w1 ⟨rfl,qmv⟩)
   go_ret;exact ⟨rfl,hb0.trans (qmv.mono L0)⟩
def VwBox (w:World) (v:Vw) (A:Option Addr) (n c:Nat) (wx:World):Prop:=Blk wx w.heap.size 24 (vwC v A n c)/\Below w.heap.size w wx
section
variable {w wx wy : World} {v : Vw} {A : Option Addr} {n c : Nat}
theorem VwBox.new (w:World) (v:Vw) (A:Option Addr) (n c:Nat):VwBox w v A n c (w.alloc (.cells (vwC v A n c) 24)):=⟨Blk.new _ _ _,L5⟩
theorem VwBox.on (h:VwBox w v A n c wx) (hb:Below wx.heap.size wx wy):VwBox w v A n c wy:=⟨h.1.below hb h.1.lt,h.2.trans (hb.mono (Lr h.1.lt))⟩
theorem VwBox.lt (h:VwBox w v A n c wx):w.heap.size+1<=wx.heap.size:=h.1.lt
theorem VwBox.cells (h:VwBox w v A n c wx):wx.cell? ⟨w.heap.size,0,none⟩=some (.int .i64 v.width)/\wx.cell? ⟨w.heap.size,1,none⟩=some (.int .i64 v.height)/\wx.cell? ⟨w.heap.size,2,none⟩=some (.slice A n c)/\wx.cell? ⟨w.heap.size,3,none⟩=some (.int .i64 v.row)/\wx.cell? ⟨w.heap.size,4,none⟩=some (.int .i64 v.col)/\wx.cell? ⟨w.heap.size,5,none⟩=some (.bool v.vis) :=
 ⟨h.1.cell 0,h.1.cell 1,h.1.cell 2,h.1.cell 3,h.1.cell 4,h.1.cell 5⟩
end
theorem qdu (w:Int) (l:List Gl) (t:List (List Gl)):yh w (l::t)=if yK l≠0 then yK l else if w<vM l then 12 else if l.getLast? = some spG then 1 else yh w t:=by
 rw [yh,rowC]
 by_cases h1:yK l=0
 ·by_cases h2:w<vM l
  ·simp only [h1,h2,ne_eq,not_true,if_true,if_false];rfl
  ·by_cases h3:l.getLast? = some spG
   ·simp only [h1,h2,h3,ne_eq,not_true,if_true,if_false];rfl
   ·simp only [h1,h2,h3,ne_eq,not_true,if_false]
 ·simp only [h1,ne_eq,not_false_eq_true,if_true]
theorem qdN {l:List Gl} {k:Nat} (h:k<l.length):yK (l.drop k)=if qJ l[k]≠0 then qJ l[k] else yK (l.drop (k+1)):=by
 rw [Ls h,yK]
theorem qh5 {l:List Gl} {k:Nat} (h:l.length=k+1):l.getLast? = some (l[k]'(by omega)):=by
 rw [List.getLast?_eq_getElem?,show l.length-1=k by omega,List.getElem?_eq_getElem L0]
theorem qig (v:Vw) (A:Option Addr) (n c B:Nat) (rs:List RowM) (w:World) (rd:RdV w B v A n c rs) (hB:B<=w.heap.size) (hz : ∀ x∈rs,x.l.length<=1000000000/\∀ g∈x.l,g.text.size<=1000000000) (hu:U8 w) :
  Calls prog 28 #[.agg (vwC v A n c)] w (qh (.int .i64 (js v)) w):=by
 have hU:=Lh hu;clear hu;have HN:=Lh rd.1.len;have hnm:n<=9223372036854775807:=by have h1:=rd.2.2.1;have h2:=rd.2.2.2;unfold maxLen at h2;omega
 have HRL:Hid (v.rows=rls rs):=Lh rd.2.1;have HA:Hid (∀ k (hk:k<rs.length) w',Below w.heap.size w w'->∃ b o,A=some ⟨b,o,none⟩/\b<w.heap.size/\w'.cell? ⟨b,o+k,none⟩=some (.slice rs[k].A rs[k].l.length rs[k].cap)):=Lh fun k hk w' hb=>((rd.1.more hB).below hb).at_ hk
 have HG:Hid (∀ x∈rs,∀ w',Below w.heap.size w w'->Rd w' w.heap.size 3 x.A x.l.length (qi x.l)):=Lh fun x hx w' hb=>(((rd.1.gl x hx).1.more hB).below hb)
 have HX:Hid (∀ x∈rs,x.l.length<=1000000000/\∀ g∈x.l,g.text.size<=1000000000):=Lh hz;have HS:Hid (∀ k,k<rs.length->(rls rs).drop k=(rls rs).getD k []::(rls rs).drop (k+1)):=Lh fun k hk=>by
  rw [Ls (by rw [vJ];exact hk),List.getD_eq_getElem?_getD,List.getElem?_eq_getElem (by rw [vJ];exact hk)]
  rfl
 unfold js;rw [HRL.out,vJ,HN.out];clear rd hz;obtain ⟨W,Hh,rows,row,col,vis⟩:=v;dsimp only at *
 have HV:Hid (∀ x∈rs,∀ g∈x.l,∀ w',Below w.heap.size w w'->Calls prog 45 #[glV g] w' (qh (.int .i64 (qJ g)) w')):=Lh fun x hx g hg w' hb=>(qcG g ((HX.out x hx).2 g hg) w' (hU.out.below hb)).1
 have HWd:Hid (∀ x∈rs,∀ w',Below w.heap.size w w'->Calls prog 32 #[.slice x.A x.l.length x.cap] w' (qh (.int .i64 (vM x.l:Nat)) w')):=Lh fun x hx w' hb=>qeY x.l x.A _ x.cap w.heap.size w' (HX.out x hx).1 (HG.out x hx w' hb) hb.size
 have HSz:=Lh (qiA W Hh)
 by_cases h1:vR W Hh=false
 ·rw [if_pos h1];rw [h1] at HSz;clear h1
  go_enter func28,ntmps28;go_upto_region 1 with fail;refine qa (VwBox w ⟨W,Hh,rows,row,col,vis⟩ A n c) (VwBox.new w ⟨W,Hh,rows,row,col,vis⟩ A n c) ?_;intro X hX;obtain ⟨c0,c1,c2,c3,c4,c5⟩:=hX.cells;have hb:=hX.2;dsimp only at c0 c1 c2 c3 c4 c5
  go_wp2_with (go_at_call 37;refine (HSz.out _).mono ?_;rintro e w1 ⟨rfl,rfl⟩)
  go_ret;exact ⟨rfl,hb⟩
 ·have h1':vR W Hh=true:=by simpa using h1
  rw [if_neg h1];rw [h1'] at HSz;clear h1 h1'
  by_cases h2:(n:Int)=Hh
  ·rw [if_neg (by simpa using h2)];have hne:((n:Int) != Hh)=false:=by simp [h2]
   replace h2:=Lh h2
   by_cases h3:row<0∨Hh<=row∨col<0∨W<=col
   ·rw [if_pos h3]
    by_cases r1:row<0
    ·go_enter func28,ntmps28;go_upto_region 1 with fail;refine qa (VwBox w ⟨W,Hh,rows,row,col,vis⟩ A n c) (VwBox.new w ⟨W,Hh,rows,row,col,vis⟩ A n c) ?_;intro X hX;obtain ⟨c0,c1,c2,c3,c4,c5⟩:=hX.cells;have hb:=hX.2;dsimp only at c0 c1 c2 c3 c4 c5
     go_wp2_with (go_at_call 37;refine (HSz.out _).mono ?_;rintro e w1 ⟨rfl,rfl⟩)
     go_ret;exact ⟨rfl,hb⟩
    ·by_cases r2:Hh<=row
     ·go_enter func28,ntmps28;go_upto_region 1 with fail;refine qa (VwBox w ⟨W,Hh,rows,row,col,vis⟩ A n c) (VwBox.new w ⟨W,Hh,rows,row,col,vis⟩ A n c) ?_;intro X hX;obtain ⟨c0,c1,c2,c3,c4,c5⟩:=hX.cells;have hb:=hX.2;dsimp only at c0 c1 c2 c3 c4 c5
      go_wp2_with (go_at_call 37;refine (HSz.out _).mono ?_;rintro e w1 ⟨rfl,rfl⟩)
      go_ret;exact ⟨rfl,hb⟩
     ·by_cases r3:col<0
      ·go_enter func28,ntmps28;go_upto_region 1 with fail;refine qa (VwBox w ⟨W,Hh,rows,row,col,vis⟩ A n c) (VwBox.new w ⟨W,Hh,rows,row,col,vis⟩ A n c) ?_;intro X hX;obtain ⟨c0,c1,c2,c3,c4,c5⟩:=hX.cells;have hb:=hX.2;dsimp only at c0 c1 c2 c3 c4 c5
       go_wp2_with (go_at_call 37;refine (HSz.out _).mono ?_;rintro e w1 ⟨rfl,rfl⟩)
       go_ret;exact ⟨rfl,hb⟩
      ·have r4:W<=col:=by omega
       go_enter func28,ntmps28;go_upto_region 1 with fail;refine qa (VwBox w ⟨W,Hh,rows,row,col,vis⟩ A n c) (VwBox.new w ⟨W,Hh,rows,row,col,vis⟩ A n c) ?_;intro X hX;obtain ⟨c0,c1,c2,c3,c4,c5⟩:=hX.cells;have hb:=hX.2;dsimp only at c0 c1 c2 c3 c4 c5
       go_wp2_with (go_at_call 37;refine (HSz.out _).mono ?_;rintro e w1 ⟨rfl,rfl⟩)
       go_ret;exact ⟨rfl,hb⟩
   ·rw [if_neg h3];have r1:0<=row:=by omega
    have r2:row<Hh:=by omega
    have r3:0<=col:=by omega
    have r4:col<W:=by omega
    clear h3;have H0:Hid (yh W (rls rs)=yh W ((rls rs).drop 0)):=Lh rfl;generalize yh W (rls rs)=R at *
    go_enter func28,ntmps28;go_upto_region 1 with fail;refine qa (VwBox w ⟨W,Hh,rows,row,col,vis⟩ A n c) (VwBox.new w ⟨W,Hh,rows,row,col,vis⟩ A n c) ?_;intro X hX;obtain ⟨c0,c1,c2,c3,c4,c5⟩:=hX.cells;have hb:=hX.2;dsimp only at c0 c1 c2 c3 c4 c5
    go_wp2_with (go_at_call 37;refine (HSz.out _).mono ?_;rintro e w1 ⟨rfl,rfl⟩)
    go_loopw [49] (fun x wr=>∃ k:Nat,k<=n/\x = .int .i64 k/\VwBox w ⟨W,Hh,rows,row,col,vis⟩ A n c wr/\Hid (R=yh W ((rls rs).drop k))) (fun x _=>n-(intOf x).toNat)
    case atStart=>exact ⟨0,Nat.zero_le _,rfl,hX,H0⟩
    case round =>
     clear hX hb c0 c1 c2 c3 c4 c5 H0 HSz hne r1 r2 r3 r4;obtain ⟨k,hk,rfl,hX,HK⟩:=hrel;obtain ⟨c0,c1,c2,c3,c4,c5⟩:=hX.cells;have hb:=hX.2;have hzX:=hX.lt;dsimp only at c0 c1 c2 c3 c4 c5
     by_cases hlt:k<n
     ·have hkl:k<rs.length:=by have:=HN.out;omega
      obtain ⟨b,o,rfl,hbB,hc⟩:=HA.out k hkl _ hb;have hx:rs[k]∈rs:=Lt hkl;obtain ⟨T,HT⟩ : ∃ T,Hid (T=if W<vM rs[k].l then 12 else if rs[k].l.getLast? = some spG then 1 else yh W ((rls rs).drop (k+1))):=⟨_,Lh rfl⟩
      have HK2:Hid (R=if yK (rs[k].l.drop 0)≠0 then yK (rs[k].l.drop 0) else T):=Lh (by rw [HK.out,HS.out k hkl,qa4 hkl,qdu,HT.out,List.drop_zero]);have hl:=(HX.out _ hx).1;have HGk:=Lh (HG.out _ hx);have HVk:=Lh (HV.out _ hx);have HWk:=Lh (HWd.out _ hx);clear HK HA HG HX HV HWd HS hx;generalize rs[k]=x at *
      obtain ⟨l,Al,cl⟩:=x;dsimp only at *
      go_wp2
      go_loopw [55] (fun y wy=>∃ j:Nat,j<=l.length/\y = .int .i64 j/\VwBox w ⟨W,Hh,rows,row,col,vis⟩ (some ⟨b,o,none⟩) n c wy/\Hid (R=if yK (l.drop j)≠0 then yK (l.drop j) else T)) (fun y _=>l.length-(intOf y).toNat)
      case atStart=>exact ⟨0,Nat.zero_le _,rfl,hX,HK2⟩
      case round=>as_aux_lemma =>
       clear hX hb c0 c1 c2 c3 c4 c5 HK2 hc hzX;obtain ⟨j,hj,rfl,hX,HJ⟩:=hrel;obtain ⟨c0,c1,c2,c3,c4,c5⟩:=hX.cells;have hb:=hX.2;have hzX:=hX.lt;dsimp only at c0 c1 c2 c3 c4 c5
       by_cases hlj:j<l.length
       ·obtain ⟨b',o',rfl,hbB',g0,g1,g2⟩:=jE (HGk.out _ hb) hlj rfl;have HVj:=Lh (HVk.out _ (Lt hlj));have HJ2:=HJ.out;rw [qdN hlj] at HJ2;generalize l[j]=g at *
        by_cases h0:qJ g=0
        ·rw [if_neg (show ¬ qJ g≠0 by simp [h0])] at HJ2;replace HJ2:=Lh HJ2;rw [h0] at HVj;clear h0;obtain ⟨t,wd,st⟩:=g;dsimp only at *
         go_wp2_with (go_at_call 45;refine (HVj.out _ (hb.alloc L0 _)).mono ?_;rintro e w1 ⟨rfl,hb1⟩)
         exact ⟨⟨j+1,by omega,by go_num,hX.on ((L5).trans (hb1.mono L1)),HJ2⟩,by simp [intOf];omega⟩
        ·rw [if_pos (show qJ g≠0 from h0),if_pos h0] at HJ2;replace HJ2:=Lh HJ2;have hn0:(qJ g != 0)=true:=Ln.2 h0;clear h0;generalize hq:qJ g=K at *
         clear hq;obtain ⟨t,wd,st⟩:=g;dsimp only at *
         go_wp2_with (go_at_call 45;refine (HVj.out _ (hb.alloc L0 _)).mono ?_;rintro e w1 ⟨rfl,hb1⟩)
         go_ret;exact ⟨by rw [HJ2.out];rfl,(hX.on ((L5).trans (hb1.mono L1))).2⟩
       ·obtain rfl:j=l.length:=by omega
        have HT2:Hid (R=if W<vM l then 12 else if l.getLast? = some spG then 1 else yh W ((rls rs).drop (k+1))):=Lh (by rw [HJ.out,Lv (Ld _),<- HT.out];rfl);clear HT HJ HVk;have hzz:=Ld wr.heap.size;have N0 : ∀ x:Near wr.heap.size wr,x.w.cell? ⟨w.heap.size,0,none⟩=some (.int .i64 W):=fun x=>(x.h.cell L7).trans c0
        have HWx:Hid (∀ x:Near wr.heap.size wr,Calls prog 32 #[.slice Al l.length cl] x.w (qh (.int .i64 (vM l:Nat)) x.w)):=Lh fun x=>HWk.out _ (hb.trans (x.h.mono L0))
        clear HWk c0 c1 c2 c3 c4 c5;generalize vM l=rw0 at *
        by_cases hw:W<(rw0:Int)
        ·rw [if_pos hw] at HT2;go_wp2;refine qc wr.heap.size ?_;(repeat (go_big_quiet_step ((go_at_call 32;exact Calls.near _ hzz (HWx.out _)))));refine wpQuiet_nil ?_;intro x1;go_wp2;go_ret;exact ⟨by rw [HT2.out];rfl,(hX.on x1.h).2⟩
        ·as_aux_lemma =>
         rw [if_neg hw] at HT2;have hw' : ¬ W<(rw0:Int):=hw;have hd:decide (W<(rw0:Int))=false:=Lk hw;clear hw hw';go_wp2;refine qc wr.heap.size ?_;(repeat (go_big_quiet_step ((go_at_call 32;exact Calls.near _ hzz (HWx.out _)))));refine wpQuiet_nil ?_;intro x1;have hX1:=hX.on x1.h;have hb1:=hX1.2;have hz1:=Ld x1.w.heap.size;clear HWx N0 hd hX hb
         rcases Nat.eq_zero_or_pos l.length with h0 | h0
         ·have HT3:Hid (R=yh W ((rls rs).drop (k+1))):=Lh (by rw [HT2.out,List.length_eq_zero_iff.1 h0];rfl);have hd:decide (0<l.length)=false:=Lk L0;clear HT2 h0;go_wp2
          go_quiet (fail)
          go_wp2;exact ⟨⟨k+1,by omega,by go_num,hX1.on (qf (Le _ _)),HT3⟩,by simp [intOf];omega⟩
         ·obtain ⟨m,hm⟩ : ∃ m,l.length=m+1:=⟨l.length-1,by omega⟩
          have hml:m<l.length:=by omega
          obtain ⟨b',o',rfl,hbB',g0,g1,g2⟩:=jE (HGk.out _ hb1) hml rfl;rw [qh5 hm] at HT2;have hq:=eq_gl l[m] spG;have hg:=qa2 l[m] spG .eql;have hmi:(l.length:Int)=(m:Int)+1:=by omega
          have hd:decide (0<l.length)=true:=Ll h0;have N:=qeW (wb:=x1.w) (B:=x1.w.heap.size) ⟨g0,g1,g2⟩ (Ly hbB' (by have:=x1.h.size;omega))
          by_cases he:l[m]=spG
          ·rw [if_pos (by rw [he])] at HT2;rw [Ll he] at hq;clear he h0 HGk;unfold glV spG at hq hg;generalize l[m]=g at *
           obtain ⟨t,wd,st⟩:=g;dsimp only at *
           clear g0 g1 g2;go_wp2;refine qc x1.w.heap.size ?_;(repeat (go_big_quiet_step ((go_at_call 46;exact Calls.near _ hz1 (qc7 _)))));refine wpQuiet_nil ?_;intro x2;go_wp2;go_ret;exact ⟨by rw [HT2.out];rfl,hb1.trans (x2.h.mono (by have:=hX1.lt;omega))⟩
          ·rw [if_neg (fun e=>he (by injection e))] at HT2;rw [Lk he] at hq;clear he h0 HGk;unfold glV spG at hq hg;generalize l[m]=g at *
           obtain ⟨t,wd,st⟩:=g;dsimp only at *
           clear g0 g1 g2;go_wp2;refine qc x1.w.heap.size ?_;(repeat (go_big_quiet_step ((go_at_call 46;exact Calls.near _ hz1 (qc7 _)))));refine wpQuiet_nil ?_;intro x2;go_wp2;exact ⟨⟨k+1,by omega,by go_num,hX1.on x2.h,HT2⟩,by simp [intOf];omega⟩
     ·have HK2:Hid (R=0):=Lh (by rw [HK.out,Lv (by rw [vJ];have:=HN.out;omega)];rfl);go_wp2;go_ret;exact ⟨by rw [HK2.out];rfl,hb⟩
  ·rw [if_pos h2];have hne:((n:Int) != Hh)=true:=Ln.2 h2;clear h2
   go_enter func28,ntmps28;go_upto_region 1 with fail;refine qa (VwBox w ⟨W,Hh,rows,row,col,vis⟩ A n c) (VwBox.new w ⟨W,Hh,rows,row,col,vis⟩ A n c) ?_;intro X hX;obtain ⟨c0,c1,c2,c3,c4,c5⟩:=hX.cells;have hb:=hX.2;dsimp only at c0 c1 c2 c3 c4 c5
   go_wp2_with (go_at_call 37;refine (HSz.out _).mono ?_;rintro e w1 ⟨rfl,rfl⟩)
   go_ret;exact ⟨rfl,hb⟩
def obS (A:Option Addr):Option Nat:=A.map Addr.block
theorem qC (A:Option Addr) (n c:Nat):(Value.slice A n c).ownBlock=obS A:=by cases A <;> rfl
def obR (g:Nat) (A:Option Addr) (rs:List RowM):List (Option Nat):=some g::obS A::rs.map fun x=>obS x.A
structure ED (base g:Nat) (v:Vw) (rs:List RowM) (A:Option Addr) (c:Nat) (X:World):Prop where
 blk:Blk X g 75 (vwC v A rs.length c)
 rows:X.ownsRow base 38 1 (.slice A rs.length c) rs.length (zQ rs)
 gl : ∀ x∈rs,X.ownsRow base 61 3 (.slice x.A x.l.length x.cap) x.l.length (qi x.l)
 eq:v.rows=rls rs
 lo:base<=g
 dj:(obR g A rs).Pairwise Dj
theorem qw {X:World} {g n c:Nat} {t:TypeId} {v:Vw} {A:Option Addr} (h:Blk X g t (vwC v A n c)):X.cell? ⟨g,0,none⟩=some (.int .i64 v.width)/\X.cell? ⟨g,1,none⟩=some (.int .i64 v.height)/\X.cell? ⟨g,2,none⟩=some (.slice A n c)/\X.cell? ⟨g,3,none⟩=some (.int .i64 v.row)/\X.cell? ⟨g,4,none⟩=some (.int .i64 v.col)/\X.cell? ⟨g,5,none⟩=some (.bool v.vis) :=
 ⟨h.cell 0,h.cell 1,h.cell 2,h.cell 3,h.cell 4,h.cell 5⟩
section
variable {base g : Nat} {v : Vw} {rs : List RowM} {A : Option Addr} {c : Nat} {X X' : World}
theorem ED.below (h:ED base g v rs A c X) (hb:Below X.heap.size X X'):ED base g v rs A c X' :=
 ⟨h.blk.below hb h.blk.lt,qb h.rows hb,fun x hx=>qb (h.gl x hx) hb,h.eq,h.lo,h.dj⟩
theorem ED.drew (h:ED base g v rs A c X):ED base g v rs A c X.drew:=h.below (Le _ _).drew
end
theorem yd {w:World} {base size n c:Nat} {e:TypeId} {A:Option Addr} {xs:List Value} (h:w.ownsRow base e size (.slice A n c) n xs):n<=c/\c<=maxLen:=by
 rcases h.2 with ⟨h1,h2⟩ | ⟨g,cap,cur,h1,_,_,h3,h4,_⟩
 ·injection h1 with _ _ h1
  subst h1 h2;exact ⟨Ld _,by unfold maxLen;omega⟩
 ·injection h1 with _ _ h1
  subst h1;exact ⟨h3,h4⟩
theorem qe8 {w:World} {base c:Nat} {A:Option Addr} {l:List Gl} (h:w.ownsRow base 61 3 (.slice A l.length c) l.length (qi l)):RdG w w.heap.size ⟨l,A,c⟩ :=
 ⟨Rd.of_own h,(yd h).1,(yd h).2⟩
theorem vB {w:World} {base size n c:Nat} {e:TypeId} {A:Option Addr} {xs:List Value} (h:w.ownsRow base e size (.slice A n c) n xs) : ∀ k,obS A=some k->base<=k/\k<w.heap.size:=fun k hk=>h.lt k (by rw [qC];exact hk)
theorem Dj.fresh {a b:Option Nat} {N:Nat} (ha : ∀ k,a=some k->k<N) (hb : ∀ k,b=some k->N<=k):Dj a b:=fun k h1 h2=>by
 have:=ha k h1;have:=hb k h2
 omega
theorem qeX {l:List (Option Nat)} {x:Option Nat} (h:l.Pairwise Dj) (hx : ∀ y∈l,Dj y x):(l++[x]).Pairwise Dj:=by
 rw [List.pairwise_append];exact ⟨h,List.pairwise_singleton _ _,fun a ha b hb=>by rw [List.mem_singleton.1 hb];exact hx a ha⟩
theorem qeN (a b:List RowM):zQ (a++b)=zQ a++zQ b:=by simp [zQ]
theorem qeJ (rs:List RowM) (k:Nat) (x:RowM):zQ (rs.set k x)=(zQ rs).set k (.slice x.A x.l.length x.cap):=by
 unfold zQ;rw [List.map_set]
theorem qfd (rs:List RowM) (k:Nat) (x:RowM):rls (rs.set k x)=(rls rs).set k x.l:=by
 unfold rls;rw [List.map_set]
def OpI (w:World) (v:Vw) (rs:List RowM) (G n c1 k:Nat) (X:World):Prop :=
 ∃ cl:List RowM,cl.length=k/\Blk X w.heap.size 24 (vwC v (some ⟨G,0,none⟩) n c1)/\X.ownsRow w.heap.size 38 1 (.slice (some ⟨G,0,none⟩) n c1) n (zQ (cl++rs.drop k)) /\
  (∀ x∈cl,X.ownsRow w.heap.size 61 3 (.slice x.A x.l.length x.cap) x.l.length (qi x.l))/\rls cl=(rls rs).take k/\(some w.heap.size::some G::cl.map fun x=>obS x.A).Pairwise Dj/\Below w.heap.size w X
theorem OpI.drew {w X:World} {v:Vw} {rs:List RowM} {G n c1 k:Nat} (h:OpI w v rs G n c1 k X):OpI w v rs G n c1 k X.drew:=by
 obtain ⟨cl,h1,h2,h3,h4,h5,h6,h7⟩:=h;exact ⟨cl,h1,h2,h3,h4,h5,h6,h7.drew⟩
theorem OpI.next {w X w2:World} {v:Vw} {rs:List RowM} {G n c1 k:Nat} {A2:Option Addr} {c2:Nat} (h:OpI w v rs G n c1 k X) (hkl:k<rs.length) (hb:Below X.heap.size X w2) (o2:w2.ownsRow X.heap.size 61 3 (.slice A2 rs[k].l.length c2) rs[k].l.length (qi rs[k].l)) :
  OpI w v rs G n c1 (k+1) (w2.setCell ⟨G,k,none⟩ (.slice A2 rs[k].l.length c2)):=by
 obtain ⟨cl,hcl,hB,ho,hg,hr,hd,hbw⟩:=h;have hGlt:=(ho.lt G rfl).2;have hGlo:=(ho.lt G rfl).1;obtain ⟨hd1,hd2⟩:=List.pairwise_cons.1 hd;obtain ⟨hd3,hd4⟩:=List.pairwise_cons.1 hd2;have hne:w.heap.size≠G:=fun e=>hd1 (some G) L1 _ rfl (by rw [e])
 have hz:=hbw.size;have hfr : ∀ k,obS A2=some k->X.heap.size<=k:=fun k hk=>(vB o2 k hk).1
 have hdl : ∀ y∈some w.heap.size::some G::cl.map fun x=>obS x.A,Dj y (obS A2):=fun y hy=>by
  refine Dj.fresh (N:=X.heap.size) (fun j hj=>?_) hfr;subst hj
  rcases List.mem_cons.1 hy with hy | hy
  ·injection hy with hy;have:=hB.lt;omega
  ·rcases List.mem_cons.1 hy with hy | hy
   ·injection hy with hy;omega
   ·obtain ⟨x,hx,e⟩:=List.mem_map.1 hy;exact (vB (hg x hx) j e).2
 refine ⟨cl++[⟨rs[k].l,A2,c2⟩],by rw [Lf,hcl];rfl,(hB.below hb hB.lt).far (p:=⟨G,k,none⟩) hne _,?_,fun x hx=>?_,?_,?_,((hbw.trans (hb.mono hz)).setCell (p:=⟨G,k,none⟩) hGlo _)⟩
 ·have h2:=((qb ho hb).stored k (.slice A2 rs[k].l.length c2)).1;rw [show zQ ((cl++[⟨rs[k].l,A2,c2⟩])++rs.drop (k+1))=(zQ (cl++rs.drop k)).set k (.slice A2 rs[k].l.length c2) from ?_]
  ·exact h2
  ·rw [<- qeJ _ _ ⟨rs[k].l,A2,c2⟩,List.set_append_right _ _ L0,hcl,Nat.sub_self,Ls hkl,List.set_cons_zero,List.append_assoc,List.singleton_append]
 ·rcases List.mem_append.1 hx with hx | hx
  ·refine ownsRow_setCell_other (qb (hg x hx) hb) (fun e=>?_) _;rw [qC] at e;exact hd3 _ (List.mem_map_of_mem (f:=fun x=>obS x.A) hx) G rfl e
  ·obtain rfl:=List.mem_singleton.1 hx
   exact ownsRow_setCell_other (qt o2 L0) (fun e=>by
    rw [qC] at e;have:=hfr _ e;simp only at this
    omega) _
 ·unfold rls at hr ⊢;rw [List.map_append,hr,List.map_cons,List.map_nil,List.take_succ_eq_append_getElem (by rw [Lq];exact hkl),List.getElem_map]
 ·have:=qeX hd hdl
  simpa using this
theorem open_ (v:Vw) (A:Option Addr) (n c B:Nat) (rs:List RowM) (w:World) (rd:RdV w B v A n c rs) (hB:B<=w.heap.size) (h0:0<n) (hn:n<=1000) (hz : ∀ x∈rs,x.l.length<=1000000000) :
  Calls prog 29 #[.agg (vwC v A n c)] w fun e w'=>∃ g rs' A' c',e = .returned (.pointer (some ⟨g,0,none⟩))/\ED w.heap.size g v rs' A' c' w'/\Below w.heap.size w w':=by
 have HN:=Lh rd.1.len;have HRL:Hid (v.rows=rls rs):=Lh rd.2.1;have HC:Hid (∀ w',Below w.heap.size w w'->Calls prog 47 #[.slice A n c] w' (ql 38 1 id w' n (zQ rs))):=Lh fun w' hb=>clone_rs rs A n c w.heap.size w' L0 ((rd.1.rd.more hB).below hb) hb.size
 have HG:Hid (∀ x∈rs,∀ w',Below w.heap.size w w'->Calls prog 48 #[.slice x.A x.l.length x.cap] w' (ql 61 3 id w' x.l.length (qi x.l))):=Lh fun x hx w' hb=>qcd x.l x.A _ x.cap w.heap.size w' (hz x hx) (((rd.1.gl x hx).1.more hB).below hb) hb.size
 clear rd hz
 go_enter func29,ntmps29
 go_upto_region 1 with fail
 refine qa (VwBox w v A n c) (VwBox.new w v A n c) ?_;intro X hX;obtain ⟨c0,c1,c2,c3,c4,c5⟩:=hX.cells;have hb:=hX.2;have hzX:=hX.lt;have hfz:=hX.1.frozen 2
 go_upto_region 2 with (go_at_call 47;refine (HC.out _ hb).mono ?_;rintro e w1 ⟨A1,d1,rfl,o1,b1⟩;have hfz1:=(b1.frozen (p:=⟨w.heap.size,2,none⟩) hzX).trans hfz;have hc1:=(b1.cell (p:=⟨w.heap.size,2,none⟩) hzX).trans c2)
 obtain ⟨G,cap,hA,hG1,hG2⟩:=o1.form h0;obtain ⟨rfl,rfl⟩:A1=some ⟨G,0,none⟩/\d1=cap:=by injection hA with h1 _ h2;exact ⟨h1,h2⟩
 have hI:OpI w v rs G n d1 0 (w1.setCell ⟨w.heap.size,2,none⟩ (.slice (some ⟨G,0,none⟩) n d1)) :=
  ⟨[],rfl,(hX.1.below b1 hX.1.lt).set_ 2 _,qt (zZ o1 (p:=⟨w.heap.size,2,none⟩) hzX _) L0,fun x hx=>(by cases hx),rfl,by
   refine List.pairwise_cons.2 ⟨fun y hy=>?_,List.pairwise_singleton _ _⟩;rw [List.mem_singleton.1 hy];intro k h1 h2
   injection h1 with h1
   injection h2 with h2
   omega,(hb.trans (b1.mono L0)).setCell (Ld _) _⟩
 clear o1 hX hb hfz c0 c1 c2 c3 c4 c5 hA hG2;go_wp2;clear hc1 hfz1
 go_loopw [12] (fun x wr=>∃ k:Nat,k<=n/\x = .int .i64 k/\OpI w v rs G n d1 k wr) (fun x _=>n-(intOf x).toNat)
 case atStart=>exact ⟨0,Nat.zero_le _,rfl,hI⟩
 case round =>
  clear hI b1;obtain ⟨k,hk,rfl,hI⟩:=hrel;obtain ⟨cl,hcl,hB1,ho,hg,hr,hd,hb⟩:=id hI;replace hI:=Lh hI;have hzr:=hb.size
  by_cases hlt:k<n
  ·have hkl:k<rs.length:=by have:=HN.out;omega
   have hx:rs[k]∈rs:=Lt hkl;have HGk:=Lh (HG.out _ hx);have hcx:=ho.cellAt k L0;have hfr:=ho.frozenAt k;have hex:(zQ (cl++rs.drop k))[k]? = some (.slice rs[k].A rs[k].l.length rs[k].cap):=by
    rw [yF (by rw [Lf,List.length_drop];omega)]
    simp [List.getElem_append_right (show cl.length<=k by omega),hcl]
   rw [hex] at hcx;have HI:Hid (∀ X w2 A2 c2,OpI w v rs G n d1 k X->Below X.heap.size X w2->w2.ownsRow X.heap.size 61 3 (.slice A2 rs[k].l.length c2) rs[k].l.length (qi rs[k].l)->OpI w v rs G n d1 (k+1) (w2.setCell ⟨G,k,none⟩ (.slice A2 rs[k].l.length c2))):=Lh fun X w2 A2 c2 h1 h2 h3=>h1.next hkl h2 h3
   generalize rs[k]=x at *
   obtain ⟨l,Al,cx⟩:=x;dsimp only at *
   clear hex hx;have hc2:wr.cell? ⟨w.heap.size,2,none⟩=some (.slice (some ⟨G,0,none⟩) n d1):=hB1.cell 2;have hGw:=(ho.lt G rfl).2;go_wp2
   go_region_law (go_simp;go_at_call 48;refine (HGk.out _ (by first | exact hb | exact hb.drew)).mono ?_;rintro e w2 ⟨A2,c2,rfl,o2,b2⟩;have hc3:=(b2.cell (p:=⟨w.heap.size,2,none⟩) (Ly (Nat.lt_succ_self _) hB1.lt)).trans hc2;have hcx3:=(b2.cell (p:=⟨G,k,none⟩) hGw).trans hcx;have hfr3:=(b2.frozen (p:=⟨G,k,none⟩) hGw).trans hfr)
   all_goals go_wp2
   all_goals refine ⟨⟨k+1,by omega,by go_num,?_⟩,by simp [intOf];omega⟩
   all_goals exact HI.out _ _ _ _ (by first | exact hI.out | exact hI.out.drew) b2 o2
  ·obtain rfl:k=n:=by omega
   rw [Lv (by have:=HN.out;omega),List.append_nil] at ho;have hrr:v.rows=rls cl:=by rw [hr,HRL.out,List.take_of_length_le (by rw [vJ];have:=HN.out;omega)]
   obtain ⟨c0,c1,c2,c3,c4,c5⟩:=qw hB1;go_wp2;go_ret;refine ⟨wr.heap.size,cl,some ⟨G,0,none⟩,d1,rfl,⟨?_,?_,fun x hx=>(hg x hx).alloc _,hrr,hzr,?_⟩,hb.alloc hzr _⟩
   ·rw [hcl];exact Blk.new _ _ _
   ·rw [hcl];exact ho.alloc _
   ·obtain ⟨_,hd2⟩:=List.pairwise_cons.1 hd;refine List.pairwise_cons.2 ⟨fun y hy=>Dj.symm (Dj.fresh (N:=wr.heap.size) (fun j hj=>?_) (fun j hj=>by injection hj with hj;omega)),hd2⟩;subst hj
    rcases List.mem_cons.1 hy with hy | hy
    ·injection hy with hy
     rw [hy];exact (ho.lt G rfl).2
    ·obtain ⟨x,hx,e⟩:=List.mem_map.1 hy;exact (vB (hg x hx) j e).2
def vA (l:List Gl):Bool:=l.any fun g=>!qal g
theorem qjT (l:List Gl) (A:Option Addr) (n c B:Nat) (w:World) (hn:n<=1000000000) (rd:Rd w B 3 A n (qi l)) (hB:B<=w.heap.size) (hz : ∀ g∈l,g.text.size<=1000000000) (hu:U8 w) :
  Calls prog 92 #[.slice A n c,(Value.func (.func 72) #[] #[])] w fun e w'=>(∃ x:Int,e = .returned (.int .i64 x)/\(0<=x↔vA l=true))/\Below w.heap.size w w':=by
 have HN:=Lh (jK rd);have HR:=Lh rd;have HF:Hid (vA l=vA (l.drop 0)):=Lh rfl;have HV:Hid (∀ g∈l,∀ w',Below w.heap.size w w'->Calls prog 72 #[glV g] w' (qh (.bool (!qal g)) w')):=Lh fun g hg w' hw=>qjA g (hz g hg) w' (hu.below hw)
 generalize vA l=R at *
 clear hz hu rd
 go_enter func92,ntmps92
 go_wp2
 go_loopw [8] (fun x wr=>∃ k:Nat,k<=n/\x = .int .i64 k/\Below w.heap.size w wr/\Hid (R=vA (l.drop k))) (fun x _=>n-(intOf x).toNat)
 case atStart=>exact ⟨0,Nat.zero_le _,rfl,Le _ _,HF⟩
 case round =>
  obtain ⟨k,hk,rfl,qnw,HK⟩:=hrel
  by_cases hlt:k<n
  ·have hkl:k<l.length:=by have:=HN.out;omega
   obtain ⟨b,o,rfl,hbB,g0,g1,g2⟩:=jE (HR.out.below (qnw.mono hB)) hkl HN.out;have HD:Hid (vA (l.drop k)=(!qal l[k] || vA (l.drop (k+1)))):=Lh (by rw [Ls hkl];rfl);have HVk:=Lh (HV.out l[k] (Lt hkl) wr qnw);generalize l[k]=g at *
   obtain ⟨t,wd,st⟩:=g;dsimp only at *
   cases hv:qal ⟨t,wd,st⟩ with
   | false =>
    rw [hv] at HVk;have HR2:Hid (R=true):=Lh (by rw [HK.out,HD.out,hv];rfl);clear HK HD hv HV HR
    go_wp2_with (go_at_call 72;refine HVk.out.mono ?_;rintro e w1 ⟨rfl,hb1⟩)
    go_ret;exact ⟨⟨k,rfl,by rw [HR2.out];simp⟩,qnw.trans (hb1.mono qnw.size)⟩
   | true =>
    rw [hv] at HVk;have HR2:Hid (R=vA (l.drop (k+1))):=Lh (by rw [HK.out,HD.out,hv];rfl);clear HK HD hv HV HR
    go_wp2_with (go_at_call 72;refine HVk.out.mono ?_;rintro e w1 ⟨rfl,hb1⟩)
    exact ⟨⟨k+1,by omega,by go_num,qnw.trans (hb1.mono qnw.size),HR2⟩,by simp [intOf];omega⟩
  ·have HR2:Hid (R=false):=Lh (by rw [HK.out,Lv (by have:=HN.out;omega)];rfl);go_wp2;go_ret;exact ⟨⟨-1,rfl,by rw [HR2.out];simp⟩,qnw⟩
theorem qfq (l:List Gl) (A:Option Addr) (n c B:Nat) (w:World) (hn:n<=1000000000) (rd:Rd w B 3 A n (qi l)) (hB:B<=w.heap.size) (hz : ∀ g∈l,g.text.size<=1000000000) (hu:U8 w) :
  Calls prog 71 #[.slice A n c,(Value.func (.func 72) #[] #[])] w (qh (.bool (vA l)) w):=by
 have HI:=Lh (qjT l A n c B w hn rd hB hz hu);generalize vA l=R at *
 clear rd hz hu
 go_enter func71,ntmps71
 go_wp2_with (go_at_call 92;refine HI.out.mono ?_;rintro e w1 ⟨⟨x,rfl,hx⟩,hb1⟩)
 go_ret;exact ⟨rfl,hb1⟩
end Go.Proofs.YtggegijlfaipfaaGreatDoor
