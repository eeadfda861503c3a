/- Joined: UtM, Um1, Uc1, Lv1, Lv2, Lv3, Lv4. -/
import Derived.Lib.SliceRun
import Derived.Test.YtbogmeeijdaijaaGreatDoorZAE
set_option linter.unusedVariables false
set_option linter.unusedSimpArgs false
set_option linter.unnecessarySimpa false
set_option maxHeartbeats 4000000
namespace Go.Proofs.YtbogmeeijdaijaaGreatDoor
open Go.Proofs.Tryz Go.RowKit
set_option maxRecDepth 20000
structure ChgM where
 c:Chg
 A:Option Addr
 cap:Nat
instance:Inhabited ChgM:=⟨⟨⟨0,0,0,0,0,[]⟩,none,0⟩⟩
def qb5 (x:ChgM):List Value:=[.int .i64 x.c.kind,.int .i64 x.c.row,.int .i64 x.c.col,.int .i64 x.c.count,.int .i64 x.c.til,.slice x.A x.c.glyphs.length x.cap]
def kq (l:List ChgM):List Value:=l.flatMap qb5
abbrev jH (c:Chg) (A:Option Addr) (cap:Nat):Value:=.agg #[.int .i64 c.kind,.int .i64 c.row,.int .i64 c.col,.int .i64 c.count,.int .i64 c.til,.slice A c.glyphs.length cap]
theorem qa3 (x:ChgM):(qb5 x).length=6:=rfl
theorem qbB (x:ChgM) (l:List ChgM):kq (x::l)=qb5 x++kq l:=by simp [kq]
theorem qjj (a b:List ChgM):kq (a++b)=kq a++kq b:=by simp [kq]
theorem qbp : ∀ l:List ChgM,(kq l).length=l.length * 6
 | []=>rfl
 | r::l=>by
  rw [qbB,Lf,qbp l,qa3,Lp]
  omega
theorem qcE : ∀ (l:List ChgM) (i j:Nat),j<6->(kq l)[i * 6+j]? = l[i]?.bind fun r=>(qb5 r)[j]?
 | [],i,j,_=>by simp [kq]
 | r::l,0,j,h=>by
  rw [qbB,Nat.zero_mul,Lo,List.getElem?_append_left (by rw [qa3];exact h)]
  rfl
 | r::l,i+1,j,h=>by
  rw [qbB,List.getElem?_append_right (by rw [qa3];omega),qa3,show (i+1) * 6+j-6=i * 6+j by omega,qcE l i j h]
  rfl
theorem qhb (x:ChgM):(qb5 x).all Value.oneCell'=true:=by simp [qb5,Value.oneCell']
def zo (l:List ChgM):List Chg:=l.map ChgM.c
structure RdC (w:World) (B:Nat) (A:Option Addr) (n:Nat) (l:List ChgM):Prop where
 rd:Rd w B 6 A n (kq l)
 gl : ∀ x∈l,Rd w B 3 x.A x.c.glyphs.length (qi x.c.glyphs)/\x.c.glyphs.length<=x.cap/\x.cap<=maxLen
theorem RdC.len {w:World} {B n:Nat} {A:Option Addr} {l:List ChgM} (h:RdC w B A n l):l.length=n:=by
 have:=h.rd.1;rw [qbp] at this
 omega
theorem RdC.below {w w':World} {B n:Nat} {A:Option Addr} {l:List ChgM} (h:RdC w B A n l) (hb:Below B w w'):RdC w' B A n l :=
 ⟨h.rd.below hb,fun x hx=>⟨(h.gl x hx).1.below hb,(h.gl x hx).2⟩⟩
theorem RdC.more {w:World} {B B' n:Nat} {A:Option Addr} {l:List ChgM} (h:RdC w B A n l) (hb:B<=B'):RdC w B' A n l :=
 ⟨h.rd.more hb,fun x hx=>⟨(h.gl x hx).1.more hb,(h.gl x hx).2⟩⟩
theorem RdC.at_ {w:World} {B n:Nat} {A:Option Addr} {l:List ChgM} (h:RdC w B A n l) {k:Nat} (hk:k<l.length) : ∃ b o,A=some ⟨b,o,none⟩/\b<B/\(w.cell? ⟨b,(o+k * 6),none⟩=some (.int .i64 l[k].c.kind)/\w.cell? ⟨b,(o+k * 6)+1,none⟩=some (.int .i64 l[k].c.row)/\w.cell? ⟨b,(o+k * 6)+2,none⟩=some (.int .i64 l[k].c.col)/\w.cell? ⟨b,(o+k * 6)+3,none⟩=some (.int .i64 l[k].c.count)/\w.cell? ⟨b,(o+k * 6)+4,none⟩=some (.int .i64 l[k].c.til)/\w.cell? ⟨b,(o+k * 6)+5,none⟩=some (.slice l[k].A l[k].c.glyphs.length l[k].cap)):=by
 have hn:=h.len;obtain ⟨b,o,e,hb,hc⟩:=h.rd.2 L0;have h : ∀ j,j<6->∀ u,(qb5 l[k])[j]? = some u->w.cell? ⟨b,o+k * 6+j,none⟩=some u:=fun j hj u hu=>by
  have:=hc (k * 6+j) u (by rw [qcE _ _ _ hj,List.getElem?_eq_getElem hk];exact hu)
  rwa [<- Nat.add_assoc] at this
 exact ⟨b,o,e,hb,h 0 L0 _ rfl,h 1 L0 _ rfl,h 2 L0 _ rfl,h 3 L0 _ rfl,h 4 L0 _ rfl,h 5 L0 _ rfl⟩
def zA (l:List Gl):Bool:=decide (140<l.length) || l.any fun g=>decide (40<g.text.size)
def qcx (m z:Nat) (l:List ByteArray):Bool:=decide (l.length<=m)&&l.all fun s=>decide (s.size<=z)
theorem qb4 {α:Type} {l:List α} {k:Nat} (p:α->Bool) (h:k<l.length):(l.drop k).any p=(p l[k] || (l.drop (k+1)).any p):=by
 rw [Ls h,List.any_cons]
theorem all_drop {α:Type} {l:List α} {k:Nat} (p:α->Bool) (h:k<l.length):(l.drop k).all p=(p l[k]&&(l.drop (k+1)).all p):=by
 rw [Ls h,List.all_cons]
theorem qeP (l:List Gl) (A:Option Addr) (n c B:Nat) (w:World) (hm:n<=maxLen) (rd:Rd w B 3 A n (qi l)) :
  Calls prog 14 #[.slice A n c] w fun e w'=>e = .returned (.bool (zA l))/\w'=w:=by
 have HN:=Lh (jK rd);have hmm:n<=9223372036854775807:=by unfold maxLen at hm;omega
 unfold zA;rw [HN.out];clear hm
 by_cases h0:140<n
 ·rw [Ll h0,Bool.true_or];have hi:(140:Int)<(n:Int):=by omega
  go_enter func14,ntmps14
  go_wp2;go_ret;exact ⟨rfl,rfl⟩
 ·rw [Lk h0,Bool.false_or];have hi:(n:Int)<=140:=by omega
  have H0:Hid ((l.any fun g=>decide (40<g.text.size))=((l.drop 0).any fun g=>decide (40<g.text.size))):=Lh rfl;generalize (l.any fun g=>decide (40<g.text.size))=R at *
  clear h0
  go_enter func14,ntmps14
  go_wp2
  go_loop [3] (fun x=>∃ k:Nat,k<=n/\x = .int .i64 k/\Hid (R=((l.drop k).any fun g=>decide (40<g.text.size)))) (fun x=>n-(intOf x).toNat)
  case atStart=>exact ⟨0,Nat.zero_le _,rfl,H0⟩
  case round =>
   obtain ⟨k,hk,rfl,HK⟩:=hrel
   by_cases hlt:k<n
   ·have hkl:k<l.length:=by have:=HN.out;omega
    obtain ⟨b,o,rfl,_,g0,-,-⟩:=jE rd hkl HN.out;have HD:=Lh (qb4 (fun g:Gl=>decide (40<g.text.size)) hkl);generalize l[k]=g at *
    obtain ⟨t,wd,st⟩:=g;dsimp only at *
    by_cases hz:40<t.size
    ·have HR2:Hid (R=true):=Lh (by rw [HK.out,HD.out,Ll hz];rfl);have hzi:(40:Int)<(t.size:Int):=by omega
     clear HK HD hz;go_wp2;go_ret;exact ⟨by rw [HR2.out];rfl,rfl⟩
    ·have HR2:Hid (R=((l.drop (k+1)).any fun g=>decide (40<g.text.size))):=Lh (by rw [HK.out,HD.out,Lk hz];rfl);have hzi:(t.size:Int)<=40:=by omega
     clear HK HD hz;go_wp2;exact ⟨⟨k+1,by omega,by go_num,HR2⟩,by simp [intOf];omega⟩
   ·have HR2:Hid (R=false):=Lh (by rw [HK.out,Lv (by have:=HN.out;omega)];rfl);go_wp2;go_ret;exact ⟨by rw [HR2.out];rfl,rfl⟩
def inB (n a b:Int):Bool:=decide (a<=n)&&decide (n<=b)
theorem qaG (n a b:Int) (w:World):Calls prog 62 #[.int .i64 n,.int .i64 a,.int .i64 b] w fun e w'=>e = .returned (.bool (inB n a b))/\w=w':=by
 unfold inB
 by_cases h1:a<=n
 ·by_cases h2:n<=b
  ·go_enter func62,ntmps62
   go_wp2;go_ret;exact ⟨by simp [h1,h2],rfl⟩
  ·go_enter func62,ntmps62
   go_wp2;go_ret;exact ⟨by simp [h1,h2],rfl⟩
 ·go_enter func62,ntmps62
  go_wp2;go_ret;exact ⟨by rw [Lk (show ¬ a<=n by omega)];rfl,rfl⟩
theorem in_ (n a b:Int) (w:World):Calls prog 62 #[.int .i64 n,.int .i64 a,.int .i64 b] w (qh (.bool (inB n a b)) w):=(qaG n a b w).mono fun e w' ⟨h1,h2⟩=>⟨h1,h2 ▸ Le _ _⟩
def RnP (s:ByteArray) (w:World) (e:Ending) (w':World):Prop:=Below w.heap.size w w'/\((zB s≠0/\e = .returned (.slice none 0 0))∨(zB s=0/\∃ G c,e = .returned (.slice (some ⟨G,0,none⟩) (qs (qB s)).length c)/\Rd w' w'.heap.size 1 (some ⟨G,0,none⟩) (qs (qB s)).length (chV (qs (qB s)))))
theorem crunes_ (s:ByteArray) (hs:s.size<=1000000000) (w:World) (hu:U8 w):Calls prog 118 #[.string s] w (RnP s w):=by
 have HC:=Lh (qdB s hs w hu)
 by_cases h0:zB s=0
 ·have hv:=(vL.1 h0).1;have HR:Hid (∀ w,_):=Lh (qbK s hv hs);have H0:=Lh h0;rw [h0] at HC;clear h0 hv hu
  go_enter func118,ntmps118
  go_upto_region 3 with (go_at_call 93;refine HC.out.mono ?_;rintro e w1 ⟨rfl,hb1⟩)
  obtain ⟨c2,w2,hrun,rd2,hbel2,hcap⟩:=HR.out w1;go_wp2;go_ret;have z:=hbel2.size;exact ⟨hb1.trans (hbel2.mono hb1.size),.inr ⟨H0.out,_,c2,rfl,rd2⟩⟩
 ·have H0:=Lh h0;have hne:(zB s != 0)=true:=Ln.2 h0;generalize zB s=K at HC hne;clear h0 hu
  go_enter func118,ntmps118
  go_wp2_with (go_at_call 93;refine HC.out.mono ?_;rintro e w1 ⟨rfl,hb1⟩)
  go_ret;exact ⟨hb1,.inl ⟨H0.out,rfl⟩⟩
theorem qip (s:ByteArray) (hs:s.size<=1000000000) (w:World) (hu:U8 w):Calls prog 94 #[.string s] w (qh (.int .i64 (kb s)) w):=by
 have HR:=Lh (crunes_ s hs w hu)
 by_cases h0:zB s=0
 ·obtain ⟨r,t,hc,-⟩:=(vL.1 h0).2;have H0:=Lh h0;unfold kb;rw [if_pos h0,hc,List.headD_cons];unfold RnP at HR;rw [hc] at HR;have HW:=Lh (qgZ (r:Int));generalize zR (r:Int)=W at *
  clear h0 hu hc
  go_enter func94,ntmps94
  go_wp2_with (first
   | (go_at_call 118;refine HR.out.mono ?_;rintro e w1 ⟨hb1,h⟩;obtain ⟨G,c1,rfl,rd1⟩:=(h.resolve_left fun x=>x.1 H0.out).2;have hc0:=qh2 rd1 L1;simp only [Lp] at *)
   | (go_at_call 116;refine (HW.out _).mono ?_;rintro e w2 ⟨rfl,hb2⟩))
  go_ret;exact ⟨rfl,hb1.trans (hb2.mono hb1.size)⟩
 ·have H0:=Lh h0;unfold kb;rw [if_neg h0];clear h0 hu
  go_enter func94,ntmps94
  go_wp2_with (go_at_call 118;refine HR.out.mono ?_;rintro e w1 ⟨hb1,h⟩;obtain rfl:=(h.resolve_right fun x=>H0.out x.1).2)
  go_ret;exact ⟨rfl,hb1⟩
def qal (g:Gl):Bool:=decide (qJ g=0)
theorem validu_ (g:Gl) (hs:g.text.size<=1000000000) (w:World) (hu:U8 w):Calls prog 65 #[glV g] w (qh (.bool (qal g)) w):=by
 have HK:Hid (∀ w',U8 w'->_):=Lh (qdB g.text hs);have HW:Hid (∀ w',U8 w'->_):=Lh (qip g.text hs);have HI:=Lh (in_ g.style 0 3);have HU:=Lh hu;have hq:=qdC g.text;unfold qal qJ;obtain ⟨t,wd,st⟩:=g;dsimp only at *
 clear hu
 by_cases hc:zB t=0
 ·rw [if_neg (by simp [hc])];rw [hc] at HK;clear hc;generalize kb t=W at *
  by_cases h1:wd=decide (W=2)
  ·have e1:(wd==(W==2))=true:=by
    cases wd <;> by_cases h:W=2 <;> simp_all
   by_cases h2:st<0
   ·rw [if_pos (.inr (.inl h2))];have e2:inB st 0 3=false:=by unfold inB;rw [Lk L0];rfl
    rw [e2] at HI;clear hq h1
    go_enter func65,ntmps65
    go_upto_region 1 with fail
    refine qa (GlBox w t wd st) (GlBox.new w t wd st _) ?_;rintro wb hgb;obtain ⟨d0,d1,d2,hb1,hz1⟩:=id hgb;have N0 : ∀ x:Near wb.heap.size wb,x.w.cell? ⟨w.heap.size,0,none⟩=some (.string t):=fun x=>(x.h.cell L7).trans d0
    have N1 : ∀ x:Near wb.heap.size wb,x.w.cell? ⟨w.heap.size,1,none⟩=some (.bool wd):=fun x=>(x.h.cell L7).trans d1
    have N2 : ∀ x:Near wb.heap.size wb,x.w.cell? ⟨w.heap.size,2,none⟩=some (.int .i64 st):=fun x=>(x.h.cell L7).trans d2
    have hzz:=Ld wb.heap.size;have HUx:Hid (∀ x:Near wb.heap.size wb,U8 x.w):=Lh fun x=>HU.out.below (hb1.trans (x.h.mono L0))
    clear d0 d1 d2 hgb;refine qc wb.heap.size ?_;(repeat (go_big_quiet_step ((first | (go_at_call 93;exact Calls.near _ hzz (HK.out _ (HUx.out _))) | (go_at_call 94;exact Calls.near _ hzz (HW.out _ (HUx.out _))) | (go_at_call 62;exact Calls.near _ hzz (HI.out _))))));refine wpQuiet_nil ?_;intro x1;go_wp2;go_ret;exact ⟨rfl,hb1.trans (x1.h.mono L0)⟩
   ·by_cases h3:3<st
    ·rw [if_pos (.inr (.inr (.inl h3)))];have e2:inB st 0 3=false:=by unfold inB;rw [Lk (show ¬ st<=3 by omega),Bool.and_false]
     rw [e2] at HI;clear hq h1
     go_enter func65,ntmps65
     go_upto_region 1 with fail
     refine qa (GlBox w t wd st) (GlBox.new w t wd st _) ?_;rintro wb hgb;obtain ⟨d0,d1,d2,hb1,hz1⟩:=id hgb;have N0 : ∀ x:Near wb.heap.size wb,x.w.cell? ⟨w.heap.size,0,none⟩=some (.string t):=fun x=>(x.h.cell L7).trans d0
     have N1 : ∀ x:Near wb.heap.size wb,x.w.cell? ⟨w.heap.size,1,none⟩=some (.bool wd):=fun x=>(x.h.cell L7).trans d1
     have N2 : ∀ x:Near wb.heap.size wb,x.w.cell? ⟨w.heap.size,2,none⟩=some (.int .i64 st):=fun x=>(x.h.cell L7).trans d2
     have hzz:=Ld wb.heap.size;have HUx:Hid (∀ x:Near wb.heap.size wb,U8 x.w):=Lh fun x=>HU.out.below (hb1.trans (x.h.mono L0))
     clear d0 d1 d2 hgb;refine qc wb.heap.size ?_;(repeat (go_big_quiet_step ((first | (go_at_call 93;exact Calls.near _ hzz (HK.out _ (HUx.out _))) | (go_at_call 94;exact Calls.near _ hzz (HW.out _ (HUx.out _))) | (go_at_call 62;exact Calls.near _ hzz (HI.out _))))));refine wpQuiet_nil ?_;intro x1;go_wp2;go_ret;exact ⟨rfl,hb1.trans (x1.h.mono L0)⟩
    ·have e2:inB st 0 3=true:=by unfold inB;rw [Ll L0,Ll L0];rfl
     rw [e2] at HI
     by_cases h4:st=3
     ·have e4:(st != 3)=false:=by simp [h4]
      by_cases h5:t=⟨#[42]⟩
      ·rw [if_neg (by rw [not_or,not_or,not_or];exact ⟨fun h=>h h1,h2,h3,fun h=>h.2 h5⟩)];have e5:(t.toList==[42])=true:=by rw [hq];simp [h5]
       clear hq h1 h5 h4
       go_enter func65,ntmps65
       go_upto_region 1 with fail
       refine qa (GlBox w t wd st) (GlBox.new w t wd st _) ?_;rintro wb hgb;obtain ⟨d0,d1,d2,hb1,hz1⟩:=id hgb;have N0 : ∀ x:Near wb.heap.size wb,x.w.cell? ⟨w.heap.size,0,none⟩=some (.string t):=fun x=>(x.h.cell L7).trans d0
       have N1 : ∀ x:Near wb.heap.size wb,x.w.cell? ⟨w.heap.size,1,none⟩=some (.bool wd):=fun x=>(x.h.cell L7).trans d1
       have N2 : ∀ x:Near wb.heap.size wb,x.w.cell? ⟨w.heap.size,2,none⟩=some (.int .i64 st):=fun x=>(x.h.cell L7).trans d2
       have hzz:=Ld wb.heap.size;have HUx:Hid (∀ x:Near wb.heap.size wb,U8 x.w):=Lh fun x=>HU.out.below (hb1.trans (x.h.mono L0))
       clear d0 d1 d2 hgb;refine qc wb.heap.size ?_;(repeat (go_big_quiet_step ((first | (go_at_call 93;exact Calls.near _ hzz (HK.out _ (HUx.out _))) | (go_at_call 94;exact Calls.near _ hzz (HW.out _ (HUx.out _))) | (go_at_call 62;exact Calls.near _ hzz (HI.out _))))));refine wpQuiet_nil ?_;intro x1;go_wp2;go_ret;exact ⟨rfl,hb1.trans (x1.h.mono L0)⟩
      ·rw [if_pos (.inr (.inr (.inr ⟨h4,h5⟩)))];have e5:(t.toList==[42])=false:=by rw [hq];simp [h5]
       clear hq h1 h5 h4
       go_enter func65,ntmps65
       go_upto_region 1 with fail
       refine qa (GlBox w t wd st) (GlBox.new w t wd st _) ?_;rintro wb hgb;obtain ⟨d0,d1,d2,hb1,hz1⟩:=id hgb;have N0 : ∀ x:Near wb.heap.size wb,x.w.cell? ⟨w.heap.size,0,none⟩=some (.string t):=fun x=>(x.h.cell L7).trans d0
       have N1 : ∀ x:Near wb.heap.size wb,x.w.cell? ⟨w.heap.size,1,none⟩=some (.bool wd):=fun x=>(x.h.cell L7).trans d1
       have N2 : ∀ x:Near wb.heap.size wb,x.w.cell? ⟨w.heap.size,2,none⟩=some (.int .i64 st):=fun x=>(x.h.cell L7).trans d2
       have hzz:=Ld wb.heap.size;have HUx:Hid (∀ x:Near wb.heap.size wb,U8 x.w):=Lh fun x=>HU.out.below (hb1.trans (x.h.mono L0))
       clear d0 d1 d2 hgb;refine qc wb.heap.size ?_;(repeat (go_big_quiet_step ((first | (go_at_call 93;exact Calls.near _ hzz (HK.out _ (HUx.out _))) | (go_at_call 94;exact Calls.near _ hzz (HW.out _ (HUx.out _))) | (go_at_call 62;exact Calls.near _ hzz (HI.out _))))));refine wpQuiet_nil ?_;intro x1;go_wp2;go_ret;exact ⟨rfl,hb1.trans (x1.h.mono L0)⟩
     ·rw [if_neg (by rw [not_or,not_or,not_or];exact ⟨fun h=>h h1,h2,h3,fun h=>h4 h.1⟩)];have e4:(st != 3)=true:=Ln.2 h4;clear hq h1
      go_enter func65,ntmps65
      go_upto_region 1 with fail
      refine qa (GlBox w t wd st) (GlBox.new w t wd st _) ?_;rintro wb hgb;obtain ⟨d0,d1,d2,hb1,hz1⟩:=id hgb;have N0 : ∀ x:Near wb.heap.size wb,x.w.cell? ⟨w.heap.size,0,none⟩=some (.string t):=fun x=>(x.h.cell L7).trans d0
      have N1 : ∀ x:Near wb.heap.size wb,x.w.cell? ⟨w.heap.size,1,none⟩=some (.bool wd):=fun x=>(x.h.cell L7).trans d1
      have N2 : ∀ x:Near wb.heap.size wb,x.w.cell? ⟨w.heap.size,2,none⟩=some (.int .i64 st):=fun x=>(x.h.cell L7).trans d2
      have hzz:=Ld wb.heap.size;have HUx:Hid (∀ x:Near wb.heap.size wb,U8 x.w):=Lh fun x=>HU.out.below (hb1.trans (x.h.mono L0))
      clear d0 d1 d2 hgb;refine qc wb.heap.size ?_;(repeat (go_big_quiet_step ((first | (go_at_call 93;exact Calls.near _ hzz (HK.out _ (HUx.out _))) | (go_at_call 94;exact Calls.near _ hzz (HW.out _ (HUx.out _))) | (go_at_call 62;exact Calls.near _ hzz (HI.out _))))));refine wpQuiet_nil ?_;intro x1;go_wp2;go_ret;exact ⟨rfl,hb1.trans (x1.h.mono L0)⟩
  ·rw [if_pos (.inl h1)];have e2:(wd==(W==2))=false:=by
    cases wd <;> by_cases h:W=2 <;> simp_all
   clear hq h1
   go_enter func65,ntmps65
   go_upto_region 1 with fail
   refine qa (GlBox w t wd st) (GlBox.new w t wd st _) ?_;rintro wb hgb;obtain ⟨d0,d1,d2,hb1,hz1⟩:=id hgb;have N0 : ∀ x:Near wb.heap.size wb,x.w.cell? ⟨w.heap.size,0,none⟩=some (.string t):=fun x=>(x.h.cell L7).trans d0
   have N1 : ∀ x:Near wb.heap.size wb,x.w.cell? ⟨w.heap.size,1,none⟩=some (.bool wd):=fun x=>(x.h.cell L7).trans d1
   have N2 : ∀ x:Near wb.heap.size wb,x.w.cell? ⟨w.heap.size,2,none⟩=some (.int .i64 st):=fun x=>(x.h.cell L7).trans d2
   have hzz:=Ld wb.heap.size;have HUx:Hid (∀ x:Near wb.heap.size wb,U8 x.w):=Lh fun x=>HU.out.below (hb1.trans (x.h.mono L0))
   clear d0 d1 d2 hgb;refine qc wb.heap.size ?_;(repeat (go_big_quiet_step ((first | (go_at_call 93;exact Calls.near _ hzz (HK.out _ (HUx.out _))) | (go_at_call 94;exact Calls.near _ hzz (HW.out _ (HUx.out _))) | (go_at_call 62;exact Calls.near _ hzz (HI.out _))))));refine wpQuiet_nil ?_;intro x1;go_wp2;go_ret;exact ⟨rfl,hb1.trans (x1.h.mono L0)⟩
 ·rw [if_pos hc];generalize zB t=K at *
  have hcb:(K==0)=false:=Lm.2 hc;clear hc hq
  go_enter func65,ntmps65
  go_upto_region 1 with fail
  refine qa (GlBox w t wd st) (GlBox.new w t wd st _) ?_;rintro wb hgb;obtain ⟨d0,d1,d2,hb1,hz1⟩:=id hgb;have N0 : ∀ x:Near wb.heap.size wb,x.w.cell? ⟨w.heap.size,0,none⟩=some (.string t):=fun x=>(x.h.cell L7).trans d0
  have N1 : ∀ x:Near wb.heap.size wb,x.w.cell? ⟨w.heap.size,1,none⟩=some (.bool wd):=fun x=>(x.h.cell L7).trans d1
  have N2 : ∀ x:Near wb.heap.size wb,x.w.cell? ⟨w.heap.size,2,none⟩=some (.int .i64 st):=fun x=>(x.h.cell L7).trans d2
  have hzz:=Ld wb.heap.size;have HUx:Hid (∀ x:Near wb.heap.size wb,U8 x.w):=Lh fun x=>HU.out.below (hb1.trans (x.h.mono L0))
  clear d0 d1 d2 hgb;refine qc wb.heap.size ?_;(repeat (go_big_quiet_step ((first | (go_at_call 93;exact Calls.near _ hzz (HK.out _ (HUx.out _))) | (go_at_call 94;exact Calls.near _ hzz (HW.out _ (HUx.out _))) | (go_at_call 62;exact Calls.near _ hzz (HI.out _))))));refine wpQuiet_nil ?_;intro x1;go_wp2;go_ret;exact ⟨rfl,hb1.trans (x1.h.mono L0)⟩
theorem qjA (g:Gl) (hs:g.text.size<=1000000000) (w:World) (hu:U8 w):Calls prog 64 #[glV g] w (qh (.bool (!qal g)) w):=by
 have HV:Hid (∀ w',U8 w'->_):=Lh (validu_ g hs);have HU:=Lh hu;generalize qal g=V at *
 obtain ⟨t,wd,st⟩:=g;clear hu
 go_enter func64,ntmps64
 go_upto_region 1 with fail
 refine qa (GlBox w t wd st) (GlBox.new w t wd st _) ?_;rintro wb hgb;obtain ⟨d0,d1,d2,hb1,hz1⟩:=hgb;have hub:=HU.out.below hb1
 go_wp2_with (go_at_call 65;refine (HV.out _ hub).mono ?_;rintro e w1 ⟨rfl,hbel1⟩)
 go_ret;exact ⟨rfl,hb1.trans (hbel1.mono L0)⟩
theorem qeY (l:List Gl) (A:Option Addr) (n c B:Nat) (w:World) (hm:n<=1000000000) (rd:Rd w B 3 A n (qi l)) (hB:B<=w.heap.size):Calls prog 40 #[.slice A n c] w (qh (.int .i64 (vM l:Nat)) w):=by
 have HG:Hid (∀ k (hk:k<l.length) w',Below w.heap.size w w'->∃ b o,A=some ⟨b,o,none⟩/\b<B/\(w'.cell? ⟨b,(o+k * 3),none⟩=some (.string l[k].text)/\w'.cell? ⟨b,(o+k * 3)+1,none⟩=some (.bool l[k].wide)/\w'.cell? ⟨b,(o+k * 3)+2,none⟩=some (.int .i64 l[k].style))):=Lh fun k hk w' hb=>jE (rd.below (hb.mono hB)) hk (jK rd)
 have HN:=Lh (jK rd);have HL:Hid (∀ k,kw (l.take k)<=n):=Lh fun k=>by rw [<- HN.out];exact qcf l k
 have HE:Hid (vM l=n+kw (l.take n)):=Lh (by unfold vM;rw [HN.out,List.take_of_length_le (Nat.le_of_eq HN.out)]);generalize vM l=R at *
 clear rd
 go_enter func40,ntmps40
 go_wp2
 go_loopw [3,10] (fun v x wr=>∃ k:Nat,k<=n/\x = .int .i64 k/\v = .int .i64 ((n+kw (l.take k):Nat):Int)/\Below w.heap.size w wr) (fun _ x _=>n-(intOf x).toNat)
 case atStart=>exact ⟨0,Nat.zero_le _,rfl,rfl,Le _ _⟩
 case round =>
  obtain ⟨k,hk,rfl,rfl,hb⟩:=hrel
  by_cases hlt:k<n
  ·have hkl:k<l.length:=by have:=HN.out;omega
   obtain ⟨b,o,rfl,_,g0,g1,g2⟩:=HG.out k hkl _ hb;have HT:=Lh (qcw hkl);have hW:=HL.out k;generalize kw (l.take k)=W1 at *
   generalize l[k]=g at *
   obtain ⟨t,wd,st⟩:=g;dsimp only at *
   cases wd
   ·go_wp2;exact ⟨⟨k+1,by omega,by go_num,by rw [HT.out];rfl,hb.alloc hb.size _⟩,by simp [intOf];omega⟩
   ·go_wp2;exact ⟨⟨k+1,by omega,by go_num,by rw [HT.out];simp only [Bool.toNat_true];go_num,hb.alloc hb.size _⟩,by simp [intOf];omega⟩
  ·obtain rfl:k=n:=by omega
   go_wp2;go_ret;exact ⟨by rw [HE.out];rfl,hb⟩
theorem qiA (w0 h0:Int) (w:World):Calls prog 55 #[.int .i64 w0,.int .i64 h0] w fun e w'=>e = .returned (.bool (vR w0 h0))/\w=w':=by
 by_cases h1:1<=w0
 ·by_cases h2:w0<=132
  ·by_cases h3:1<=h0
   ·by_cases h4:h0<=60
    ·go_enter func55,ntmps55
     go_wp2;go_ret;exact ⟨by unfold vR;rw [Ll L0];rfl,rfl⟩
    ·go_enter func55,ntmps55
     go_wp2;go_ret;exact ⟨by unfold vR;rw [Lk L0];rfl,rfl⟩
   ·go_enter func55,ntmps55
    go_wp2;go_ret;exact ⟨by unfold vR;rw [Lk L0];rfl,rfl⟩
  ·go_enter func55,ntmps55
   go_wp2;go_ret;exact ⟨by unfold vR;rw [Lk L0];rfl,rfl⟩
 ·go_enter func55,ntmps55
  go_wp2;go_ret;exact ⟨by unfold vR;rw [Lk L0];rfl,rfl⟩
theorem btw_ (n a b:Int) (w:World):Calls prog 69 #[.int .i64 n,.int .i64 a,.int .i64 b] w fun e w'=>e = .returned (.bool (inB n a b))/\w=w':=by
 unfold inB
 by_cases h1:a<=n
 ·by_cases h2:n<=b
  ·go_enter func69,ntmps69
   go_wp2;go_ret;exact ⟨by simp [h1,h2],rfl⟩
  ·go_enter func69,ntmps69
   go_wp2;go_ret;exact ⟨by simp [h1,h2],rfl⟩
 ·go_enter func69,ntmps69
  go_wp2;go_ret;exact ⟨by rw [Lk (show ¬ a<=n by omega)];rfl,rfl⟩
theorem elt_row:Elt prog 22 45 (.slice none 0 0) 1 24 where
 und:=underlying22
 row:=by
  have h:(prog.info? 45).map (fun i=>(i.zero,i.size,i.bytes))=some (some (.slice none 0 0),1,24):=by kernel_rfl
  obtain ⟨i,hi,a,b,c⟩:=info_parts h;exact ⟨i,hi,a,b,c⟩
 zs:=rfl
 pos:=by decide
theorem nil_gl (w:World) (a:Option Addr) (n c n' c':Nat):(binOp .eql 45 (.slice a n c) (.slice none n' c')).run prog w = .ok (.bool a.isNone) w:=Lib.run_eql_slice_nil w _ _ a n c n' c' underlying45
theorem nil_rs (w:World) (a:Option Addr) (n c n' c':Nat):(binOp .eql 22 (.slice a n c) (.slice none n' c')).run prog w = .ok (.bool a.isNone) w:=Lib.run_eql_slice_nil w _ _ a n c n' c' underlying22
theorem qc7 (w:World):Calls prog 58 #[] w (qh (.agg #[.string ⟨#[32]⟩,.bool false,.int .i64 0]) w):=by
 go_enter func58,ntmps58
 go_wp2;exact bodyPost_ret (results_cell_row rfl _ _ w.heap.size 64 _ (0,0) _ rfl (heap_alloc_new w _) underlying64 rfl (by kernel_rfl)) rfl ⟨rfl,L5⟩
theorem qcd (l:List Gl) (A:Option Addr) (n c B:Nat) (w:World) (hm:n<=1000000000) (rd:Rd w B 3 A n (qi l)) (hB:B<=w.heap.size):Calls prog 68 #[.slice A n c] w (ql 64 3 id w n (qi l)):=by
 have q22:=nil_gl
 rcases A with _ | a
 ·have hn:n=0:=by
   rcases Nat.eq_zero_or_pos n with h | h
   ·exact h
   ·obtain ⟨_,_,h,_⟩:=rd.2 h
    cases h
  subst hn;obtain rfl:l=[]:=List.length_eq_zero_iff.1 (jK rd);clear rd
  go_enter func68,ntmps68
  go_wp2;go_ret;exact ⟨none,0,rfl,zY _ _ _ _,Le _ _⟩
 ·go_enter func68,ntmps68
  go_wp2_with (at_builtin;go_must (refine qg rfl _ _ _ rfl qbz (w.heap.size) _ rfl (qx (xs:=[]) (by rfl) rfl (Ld _) L0) _ _ rfl (rd.below ((Le _ _).alloc hB _)) ?_);intro A4 c4 w4 hown4 hbel4 hgr4 hat4;have z4:=hbel4.size;(try simp only [Li] at z4);(try simp only [Lo,Lg] at hown4))
  go_ret;exact ⟨A4,c4,by first | rfl | (rw [Lo];rfl),hown4,(L5).trans hbel4⟩
theorem clone_rs (l:List RowM) (A:Option Addr) (n c B:Nat) (w:World) (hm:n<=1000000000) (rd:Rd w B 1 A n (zQ l)) (hB:B<=w.heap.size):Calls prog 67 #[.slice A n c] w (ql 45 1 id w n (zQ l)):=by
 have q22:=nil_rs
 rcases A with _ | a
 ·have hn:n=0:=by
   rcases Nat.eq_zero_or_pos n with h | h
   ·exact h
   ·obtain ⟨_,_,h,_⟩:=rd.2 h
    cases h
  subst hn;obtain rfl:l=[]:=by
   have:=rd.1;rw [qbg] at this;exact List.length_eq_zero_iff.1 L0
  clear rd
  go_enter func67,ntmps67
  go_wp2;go_ret;exact ⟨none,0,rfl,zY _ _ _ _,Le _ _⟩
 ·go_enter func67,ntmps67
  go_wp2_with (at_builtin;refine qg rfl _ _ _ rfl elt_row (w.heap.size) _ rfl (qx (xs:=[]) (by rfl) rfl (Ld _) L0) _ _ rfl (rd.below ((Le _ _).alloc hB _)) ?_ (qf6 _);intro A4 c4 w4 hown4 hbel4 hgr4 hat4;simp only [Lo,Lg] at hown4)
  go_ret;exact ⟨A4,c4,by first | rfl | (rw [Lo];rfl),hown4,(L5).trans hbel4⟩
theorem vtrim_ (l:List Gl) (A:Option Addr) (n c B:Nat) (w:World) (hm:n<=1000000000) (hc:n<=c) (hcm:c<=maxLen) (rd:Rd w B 3 A n (qi l)) (hB:B<=w.heap.size):Calls prog 98 #[.slice A n c] w (ql 64 3 id w (zI l).length (qi (zI l))):=by
 have HN:=Lh (jK rd);have HG:Hid (∀ k (hk:k<l.length) w',Below w.heap.size w w'->∃ b o,A=some ⟨b,o,none⟩/\b<w.heap.size/\(w'.cell? ⟨b,(o+k * 3),none⟩=some (.string l[k].text)/\w'.cell? ⟨b,(o+k * 3)+1,none⟩=some (.bool l[k].wide)/\w'.cell? ⟨b,(o+k * 3)+2,none⟩=some (.int .i64 l[k].style))):=Lh fun k hk w' hb=>jE ((rd.more hB).below hb) hk (jK rd)
 have HR:Hid (∀ k,k<=n->Rd w w.heap.size 3 A k (qi (l.take k))):=Lh fun k hk=>by
  rw [kM];exact (rd.more hB).take hk
 have HT:Hid (∀ k (hk:k<l.length),zI (l.take (k+1))=if l[k]=spG then zI (l.take k) else l.take (k+1)):=Lh fun k hk=>qjX hk
 have H0:Hid (zI l=zI (l.take n)):=Lh (by rw [List.take_of_length_le (Nat.le_of_eq HN.out)]);clear rd;have HC:Hid (∀ k,k<=n->∀ w',Below w.heap.size w w'->Calls prog 68 #[.slice A k c] w' fun e w''=>∃ A' c',e = .returned (.slice A' k c')/\w''.ownsRow w.heap.size 64 3 (.slice A' k c') k (qi (l.take k))/\Below w.heap.size w w''):=Lh fun k hk w' hb =>
  (qcd (l.take k) A k c w.heap.size w' L0 ((HR.out k hk).below hb) hb.size).mono fun e w'' ⟨A',c',h1,h2,h3⟩=>⟨A',c',h1,qt h2 hb.size,hb.trans (h3.mono hb.size)⟩
 have hcc:(c:Int)<=9223372036854775807:=by unfold maxLen at hcm;omega
 clear hcm
 go_enter func98,ntmps98
 go_wp2
 go_loopw [3] (fun v wr=>∃ k:Nat,k<=n/\v = .int .i64 k/\Below w.heap.size w wr/\Hid (zI l=zI (l.take k))) (fun v _=>(intOf v).toNat)
 case atStart=>exact ⟨n,Ld _,rfl,Le _ _,H0⟩
 case round =>
  clear H0;obtain ⟨k,hk,rfl,hb,HK⟩:=hrel;have hzz:=Ld wr.heap.size
  by_cases h0:k=0
  ·have HL:Hid (zI l=l.take k):=Lh (by rw [HK.out,h0];rfl);have hk0:decide (0<k)=false:=Lk L0;clear h0 HG HT;go_wp2
   go_quiet (fail)
   go_wp2_with (go_at_call 68;refine (HC.out k hk _ (qf hb)).mono ?_;rintro e w1 ⟨A1,c1,rfl,o1,b1⟩)
   go_ret;rw [HL.out,Lu,HN.out,Nat.min_eq_left hk];exact ⟨A1,c1,rfl,o1,b1⟩
  ·obtain ⟨j,rfl⟩ : ∃ j,k=j+1:=⟨k-1,by omega⟩
   have hjl:j<l.length:=by have:=HN.out;omega
   obtain ⟨b,o,rfl,hbB,g0,g1,g2⟩:=HG.out j hjl _ hb;have hq:=eq_gl l[j] spG;have hg:=qa2 l[j] spG .eql;have N:=qeW ⟨g0,g1,g2⟩ (show b<wr.heap.size from Ly hbB hb.size)
   by_cases he:l[j]=spG
   ·have HL:Hid (zI l=zI (l.take j)):=Lh (by rw [HK.out,HT.out j hjl,if_pos he]);rw [Ll he] at hq;clear he HC HG HT;unfold glV spG at hq hg;generalize l[j]=g at *
    obtain ⟨t,wd,st⟩:=g;dsimp only at *
    clear g0 g1 g2 h0;go_wp2;refine qc wr.heap.size ?_;(repeat (go_big_quiet_step ((go_at_call 58;exact Calls.near _ hzz (qc7 _)))));refine wpQuiet_nil ?_;intro x1;go_wp2;exact ⟨⟨j,by omega,by go_num,hb.trans (x1.h.mono hb.size),HL⟩,by simp [intOf]⟩
   ·have HL:Hid (zI l=l.take (j+1)):=Lh (by rw [HK.out,HT.out j hjl,if_neg he]);rw [Lk he] at hq;clear he HG HT;unfold glV spG at hq hg;generalize l[j]=g at *
    obtain ⟨t,wd,st⟩:=g;dsimp only at *
    clear g0 g1 g2 h0;go_wp2;refine qc wr.heap.size ?_;(repeat (go_big_quiet_step ((go_at_call 58;exact Calls.near _ hzz (qc7 _)))));refine wpQuiet_nil ?_;intro x1
    go_wp2_with (go_at_call 68;refine (HC.out (j+1) hk _ (hb.trans (x1.h.mono hb.size))).mono ?_;rintro e w1 ⟨A1,c1,rfl,o1,b1⟩)
    go_ret;rw [HL.out,Lu,HN.out,Nat.min_eq_left hk];exact ⟨A1,c1,rfl,o1,b1⟩
theorem qcG (g:Gl) (hs:g.text.size<=1000000000) (w:World) (hu:U8 w):Calls prog 57 #[glV g] w (qh (.int .i64 (qJ g)) w)/\Calls prog 72 #[glV g] w (qh (.int .i64 (qJ g)) w):=by
 have HK:Hid (∀ w',U8 w'->_):=Lh (qdB g.text hs);have HW:Hid (∀ w',U8 w'->_):=Lh (qip g.text hs);have HI:Hid (∀ w',Calls prog 69 #[.int .i64 g.style,.int .i64 0,.int .i64 3] w' (qh (.bool (inB g.style 0 3)) w')):=Lh fun w'=>(btw_ _ _ _ w').mono fun e w'' ⟨h1,h2⟩=>⟨h1,h2 ▸ Le _ _⟩
 have HU:=Lh hu;have hq:=qdC g.text;unfold qJ;obtain ⟨t,wd,st⟩:=g;dsimp only at *
 clear hu
 by_cases hc:zB t=0
 ·rw [if_neg (by simp [hc])];rw [hc] at HK;clear hc;generalize kb t=W at *
  by_cases h1:wd=decide (W=2)
  ·have e1:(wd==(W==2))=true:=by
    cases wd <;> by_cases h:W=2 <;> simp_all
   by_cases h2:st<0
   ·rw [if_pos (.inr (.inl h2))];have d2:decide (st<0)=true:=Ll h2;have e2:inB st 0 3=false:=by unfold inB;rw [Lk L0];rfl
    rw [e2] at HI;clear hq h1 e2;refine ⟨?_,?_⟩
    ·clear HI
     go_enter func57,ntmps57
     go_upto_region 1 with fail
     refine qa (GlBox w t wd st) (GlBox.new w t wd st _) ?_;rintro wb hgb;obtain ⟨c0,_,_,hb0,hz0⟩:=id hgb;have hub:=HU.out.below hb0
     go_upto_region 3 with (go_at_call 93;refine (HK.out _ hub).mono ?_;rintro e w1 ⟨rfl,hbel1⟩;have hg1:=hgb.on hbel1)
     obtain ⟨d0,d1,d2,hb1,hz1⟩:=id hg1;have N0 : ∀ x:Near w1.heap.size w1,x.w.cell? ⟨w.heap.size,0,none⟩=some (.string t):=fun x=>(x.h.cell L7).trans d0
     have N1 : ∀ x:Near w1.heap.size w1,x.w.cell? ⟨w.heap.size,1,none⟩=some (.bool wd):=fun x=>(x.h.cell L7).trans d1
     have N2 : ∀ x:Near w1.heap.size w1,x.w.cell? ⟨w.heap.size,2,none⟩=some (.int .i64 st):=fun x=>(x.h.cell L7).trans d2
     have hzz:=Ld w1.heap.size;have HUx:Hid (∀ x:Near w1.heap.size w1,U8 x.w):=Lh fun x=>HU.out.below (hb1.trans (x.h.mono L0))
     clear d0 d1 d2 hg1 hgb c0 hub;refine qc w1.heap.size ?_;(repeat (go_big_quiet_step ((go_at_call 94;exact Calls.near _ hzz (HW.out _ (HUx.out _))))));refine wpQuiet_nil ?_;intro x1;go_wp2;go_ret;exact ⟨rfl,hb1.trans (x1.h.mono L0)⟩
    ·go_enter func72,ntmps72
     go_upto_region 1 with fail
     refine qa (GlBox w t wd st) (GlBox.new w t wd st _) ?_;rintro wb hgb;obtain ⟨c0,_,_,hb0,hz0⟩:=id hgb;have hub:=HU.out.below hb0
     go_upto_region 3 with (go_at_call 93;refine (HK.out _ hub).mono ?_;rintro e w1 ⟨rfl,hbel1⟩;have hg1:=hgb.on hbel1)
     obtain ⟨d0,d1,d2,hb1,hz1⟩:=id hg1;have N0 : ∀ x:Near w1.heap.size w1,x.w.cell? ⟨w.heap.size,0,none⟩=some (.string t):=fun x=>(x.h.cell L7).trans d0
     have N1 : ∀ x:Near w1.heap.size w1,x.w.cell? ⟨w.heap.size,1,none⟩=some (.bool wd):=fun x=>(x.h.cell L7).trans d1
     have N2 : ∀ x:Near w1.heap.size w1,x.w.cell? ⟨w.heap.size,2,none⟩=some (.int .i64 st):=fun x=>(x.h.cell L7).trans d2
     have hzz:=Ld w1.heap.size;have HUx:Hid (∀ x:Near w1.heap.size w1,U8 x.w):=Lh fun x=>HU.out.below (hb1.trans (x.h.mono L0))
     clear d0 d1 d2 hg1 hgb c0 hub;refine qc w1.heap.size ?_;(repeat (go_big_quiet_step ((first | (go_at_call 94;exact Calls.near _ hzz (HW.out _ (HUx.out _))) | (go_at_call 69;exact Calls.near _ hzz (HI.out _))))));refine wpQuiet_nil ?_;intro x1;go_wp2;go_ret;exact ⟨rfl,hb1.trans (x1.h.mono L0)⟩
   ·have d2:decide (st<0)=false:=Lk h2
    by_cases h3:3<st
    ·rw [if_pos (.inr (.inr (.inl h3)))];have d3:decide (3<st)=true:=Ll h3;have e2:inB st 0 3=false:=by unfold inB;rw [Lk (show ¬ st<=3 by omega),Bool.and_false]
     rw [e2] at HI;clear hq h1 e2;refine ⟨?_,?_⟩
     ·clear HI
      go_enter func57,ntmps57
      go_upto_region 1 with fail
      refine qa (GlBox w t wd st) (GlBox.new w t wd st _) ?_;rintro wb hgb;obtain ⟨c0,_,_,hb0,hz0⟩:=id hgb;have hub:=HU.out.below hb0
      go_upto_region 3 with (go_at_call 93;refine (HK.out _ hub).mono ?_;rintro e w1 ⟨rfl,hbel1⟩;have hg1:=hgb.on hbel1)
      obtain ⟨d0,d1,d2,hb1,hz1⟩:=id hg1;have N0 : ∀ x:Near w1.heap.size w1,x.w.cell? ⟨w.heap.size,0,none⟩=some (.string t):=fun x=>(x.h.cell L7).trans d0
      have N1 : ∀ x:Near w1.heap.size w1,x.w.cell? ⟨w.heap.size,1,none⟩=some (.bool wd):=fun x=>(x.h.cell L7).trans d1
      have N2 : ∀ x:Near w1.heap.size w1,x.w.cell? ⟨w.heap.size,2,none⟩=some (.int .i64 st):=fun x=>(x.h.cell L7).trans d2
      have hzz:=Ld w1.heap.size;have HUx:Hid (∀ x:Near w1.heap.size w1,U8 x.w):=Lh fun x=>HU.out.below (hb1.trans (x.h.mono L0))
      clear d0 d1 d2 hg1 hgb c0 hub;refine qc w1.heap.size ?_;(repeat (go_big_quiet_step ((go_at_call 94;exact Calls.near _ hzz (HW.out _ (HUx.out _))))));refine wpQuiet_nil ?_;intro x1;go_wp2;go_ret;exact ⟨rfl,hb1.trans (x1.h.mono L0)⟩
     ·go_enter func72,ntmps72
      go_upto_region 1 with fail
      refine qa (GlBox w t wd st) (GlBox.new w t wd st _) ?_;rintro wb hgb;obtain ⟨c0,_,_,hb0,hz0⟩:=id hgb;have hub:=HU.out.below hb0
      go_upto_region 3 with (go_at_call 93;refine (HK.out _ hub).mono ?_;rintro e w1 ⟨rfl,hbel1⟩;have hg1:=hgb.on hbel1)
      obtain ⟨d0,d1,d2,hb1,hz1⟩:=id hg1;have N0 : ∀ x:Near w1.heap.size w1,x.w.cell? ⟨w.heap.size,0,none⟩=some (.string t):=fun x=>(x.h.cell L7).trans d0
      have N1 : ∀ x:Near w1.heap.size w1,x.w.cell? ⟨w.heap.size,1,none⟩=some (.bool wd):=fun x=>(x.h.cell L7).trans d1
      have N2 : ∀ x:Near w1.heap.size w1,x.w.cell? ⟨w.heap.size,2,none⟩=some (.int .i64 st):=fun x=>(x.h.cell L7).trans d2
      have hzz:=Ld w1.heap.size;have HUx:Hid (∀ x:Near w1.heap.size w1,U8 x.w):=Lh fun x=>HU.out.below (hb1.trans (x.h.mono L0))
      clear d0 d1 d2 hg1 hgb c0 hub;refine qc w1.heap.size ?_;(repeat (go_big_quiet_step ((first | (go_at_call 94;exact Calls.near _ hzz (HW.out _ (HUx.out _))) | (go_at_call 69;exact Calls.near _ hzz (HI.out _))))));refine wpQuiet_nil ?_;intro x1;go_wp2;go_ret;exact ⟨rfl,hb1.trans (x1.h.mono L0)⟩
    ·have d3:decide (3<st)=false:=Lk h3;have e2:inB st 0 3=true:=by unfold inB;rw [Ll L0,Ll L0];rfl
     rw [e2] at HI;clear e2
     by_cases h4:st=3
     ·have e4:(st==3)=true:=beq_iff_eq.2 h4
      by_cases h5:t=⟨#[42]⟩
      ·rw [if_neg (by rw [not_or,not_or,not_or];exact ⟨fun h=>h h1,h2,h3,fun h=>h.2 h5⟩)];have e5:(t.toList==[42])=true:=by rw [hq];simp [h5]
       clear hq h1 h5 h4;refine ⟨?_,?_⟩
       ·clear HI
        go_enter func57,ntmps57
        go_upto_region 1 with fail
        refine qa (GlBox w t wd st) (GlBox.new w t wd st _) ?_;rintro wb hgb;obtain ⟨c0,_,_,hb0,hz0⟩:=id hgb;have hub:=HU.out.below hb0
        go_upto_region 3 with (go_at_call 93;refine (HK.out _ hub).mono ?_;rintro e w1 ⟨rfl,hbel1⟩;have hg1:=hgb.on hbel1)
        obtain ⟨d0,d1,d2,hb1,hz1⟩:=id hg1;have N0 : ∀ x:Near w1.heap.size w1,x.w.cell? ⟨w.heap.size,0,none⟩=some (.string t):=fun x=>(x.h.cell L7).trans d0
        have N1 : ∀ x:Near w1.heap.size w1,x.w.cell? ⟨w.heap.size,1,none⟩=some (.bool wd):=fun x=>(x.h.cell L7).trans d1
        have N2 : ∀ x:Near w1.heap.size w1,x.w.cell? ⟨w.heap.size,2,none⟩=some (.int .i64 st):=fun x=>(x.h.cell L7).trans d2
        have hzz:=Ld w1.heap.size;have HUx:Hid (∀ x:Near w1.heap.size w1,U8 x.w):=Lh fun x=>HU.out.below (hb1.trans (x.h.mono L0))
        clear d0 d1 d2 hg1 hgb c0 hub;refine qc w1.heap.size ?_;(repeat (go_big_quiet_step ((go_at_call 94;exact Calls.near _ hzz (HW.out _ (HUx.out _))))));refine wpQuiet_nil ?_;intro x1;go_wp2;go_ret;exact ⟨rfl,hb1.trans (x1.h.mono L0)⟩
       ·go_enter func72,ntmps72
        go_upto_region 1 with fail
        refine qa (GlBox w t wd st) (GlBox.new w t wd st _) ?_;rintro wb hgb;obtain ⟨c0,_,_,hb0,hz0⟩:=id hgb;have hub:=HU.out.below hb0
        go_upto_region 3 with (go_at_call 93;refine (HK.out _ hub).mono ?_;rintro e w1 ⟨rfl,hbel1⟩;have hg1:=hgb.on hbel1)
        obtain ⟨d0,d1,d2,hb1,hz1⟩:=id hg1;have N0 : ∀ x:Near w1.heap.size w1,x.w.cell? ⟨w.heap.size,0,none⟩=some (.string t):=fun x=>(x.h.cell L7).trans d0
        have N1 : ∀ x:Near w1.heap.size w1,x.w.cell? ⟨w.heap.size,1,none⟩=some (.bool wd):=fun x=>(x.h.cell L7).trans d1
        have N2 : ∀ x:Near w1.heap.size w1,x.w.cell? ⟨w.heap.size,2,none⟩=some (.int .i64 st):=fun x=>(x.h.cell L7).trans d2
        have hzz:=Ld w1.heap.size;have HUx:Hid (∀ x:Near w1.heap.size w1,U8 x.w):=Lh fun x=>HU.out.below (hb1.trans (x.h.mono L0))
        clear d0 d1 d2 hg1 hgb c0 hub;refine qc w1.heap.size ?_;(repeat (go_big_quiet_step ((first | (go_at_call 94;exact Calls.near _ hzz (HW.out _ (HUx.out _))) | (go_at_call 69;exact Calls.near _ hzz (HI.out _))))));refine wpQuiet_nil ?_;intro x1;go_wp2;go_ret;exact ⟨rfl,hb1.trans (x1.h.mono L0)⟩
      ·rw [if_pos (.inr (.inr (.inr ⟨h4,h5⟩)))];have e5:(t.toList==[42])=false:=by rw [hq];simp [h5]
       clear hq h1 h5 h4;refine ⟨?_,?_⟩
       ·clear HI
        go_enter func57,ntmps57
        go_upto_region 1 with fail
        refine qa (GlBox w t wd st) (GlBox.new w t wd st _) ?_;rintro wb hgb;obtain ⟨c0,_,_,hb0,hz0⟩:=id hgb;have hub:=HU.out.below hb0
        go_upto_region 3 with (go_at_call 93;refine (HK.out _ hub).mono ?_;rintro e w1 ⟨rfl,hbel1⟩;have hg1:=hgb.on hbel1)
        obtain ⟨d0,d1,d2,hb1,hz1⟩:=id hg1;have N0 : ∀ x:Near w1.heap.size w1,x.w.cell? ⟨w.heap.size,0,none⟩=some (.string t):=fun x=>(x.h.cell L7).trans d0
        have N1 : ∀ x:Near w1.heap.size w1,x.w.cell? ⟨w.heap.size,1,none⟩=some (.bool wd):=fun x=>(x.h.cell L7).trans d1
        have N2 : ∀ x:Near w1.heap.size w1,x.w.cell? ⟨w.heap.size,2,none⟩=some (.int .i64 st):=fun x=>(x.h.cell L7).trans d2
        have hzz:=Ld w1.heap.size;have HUx:Hid (∀ x:Near w1.heap.size w1,U8 x.w):=Lh fun x=>HU.out.below (hb1.trans (x.h.mono L0))
        clear d0 d1 d2 hg1 hgb c0 hub;refine qc w1.heap.size ?_;(repeat (go_big_quiet_step ((go_at_call 94;exact Calls.near _ hzz (HW.out _ (HUx.out _))))));refine wpQuiet_nil ?_;intro x1;go_wp2;go_ret;exact ⟨rfl,hb1.trans (x1.h.mono L0)⟩
       ·go_enter func72,ntmps72
        go_upto_region 1 with fail
        refine qa (GlBox w t wd st) (GlBox.new w t wd st _) ?_;rintro wb hgb;obtain ⟨c0,_,_,hb0,hz0⟩:=id hgb;have hub:=HU.out.below hb0
        go_upto_region 3 with (go_at_call 93;refine (HK.out _ hub).mono ?_;rintro e w1 ⟨rfl,hbel1⟩;have hg1:=hgb.on hbel1)
        obtain ⟨d0,d1,d2,hb1,hz1⟩:=id hg1;have N0 : ∀ x:Near w1.heap.size w1,x.w.cell? ⟨w.heap.size,0,none⟩=some (.string t):=fun x=>(x.h.cell L7).trans d0
        have N1 : ∀ x:Near w1.heap.size w1,x.w.cell? ⟨w.heap.size,1,none⟩=some (.bool wd):=fun x=>(x.h.cell L7).trans d1
        have N2 : ∀ x:Near w1.heap.size w1,x.w.cell? ⟨w.heap.size,2,none⟩=some (.int .i64 st):=fun x=>(x.h.cell L7).trans d2
        have hzz:=Ld w1.heap.size;have HUx:Hid (∀ x:Near w1.heap.size w1,U8 x.w):=Lh fun x=>HU.out.below (hb1.trans (x.h.mono L0))
        clear d0 d1 d2 hg1 hgb c0 hub;refine qc w1.heap.size ?_;(repeat (go_big_quiet_step ((first | (go_at_call 94;exact Calls.near _ hzz (HW.out _ (HUx.out _))) | (go_at_call 69;exact Calls.near _ hzz (HI.out _))))));refine wpQuiet_nil ?_;intro x1;go_wp2;go_ret;exact ⟨rfl,hb1.trans (x1.h.mono L0)⟩
     ·rw [if_neg (by rw [not_or,not_or,not_or];exact ⟨fun h=>h h1,h2,h3,fun h=>h4 h.1⟩)];have e4:(st==3)=false:=Lm.2 h4;clear hq h1;refine ⟨?_,?_⟩
      ·clear HI
       go_enter func57,ntmps57
       go_upto_region 1 with fail
       refine qa (GlBox w t wd st) (GlBox.new w t wd st _) ?_;rintro wb hgb;obtain ⟨c0,_,_,hb0,hz0⟩:=id hgb;have hub:=HU.out.below hb0
       go_upto_region 3 with (go_at_call 93;refine (HK.out _ hub).mono ?_;rintro e w1 ⟨rfl,hbel1⟩;have hg1:=hgb.on hbel1)
       obtain ⟨d0,d1,d2,hb1,hz1⟩:=id hg1;have N0 : ∀ x:Near w1.heap.size w1,x.w.cell? ⟨w.heap.size,0,none⟩=some (.string t):=fun x=>(x.h.cell L7).trans d0
       have N1 : ∀ x:Near w1.heap.size w1,x.w.cell? ⟨w.heap.size,1,none⟩=some (.bool wd):=fun x=>(x.h.cell L7).trans d1
       have N2 : ∀ x:Near w1.heap.size w1,x.w.cell? ⟨w.heap.size,2,none⟩=some (.int .i64 st):=fun x=>(x.h.cell L7).trans d2
       have hzz:=Ld w1.heap.size;have HUx:Hid (∀ x:Near w1.heap.size w1,U8 x.w):=Lh fun x=>HU.out.below (hb1.trans (x.h.mono L0))
       clear d0 d1 d2 hg1 hgb c0 hub;refine qc w1.heap.size ?_;(repeat (go_big_quiet_step ((go_at_call 94;exact Calls.near _ hzz (HW.out _ (HUx.out _))))));refine wpQuiet_nil ?_;intro x1;go_wp2;go_ret;exact ⟨rfl,hb1.trans (x1.h.mono L0)⟩
      ·go_enter func72,ntmps72
       go_upto_region 1 with fail
       refine qa (GlBox w t wd st) (GlBox.new w t wd st _) ?_;rintro wb hgb;obtain ⟨c0,_,_,hb0,hz0⟩:=id hgb;have hub:=HU.out.below hb0
       go_upto_region 3 with (go_at_call 93;refine (HK.out _ hub).mono ?_;rintro e w1 ⟨rfl,hbel1⟩;have hg1:=hgb.on hbel1)
       obtain ⟨d0,d1,d2,hb1,hz1⟩:=id hg1;have N0 : ∀ x:Near w1.heap.size w1,x.w.cell? ⟨w.heap.size,0,none⟩=some (.string t):=fun x=>(x.h.cell L7).trans d0
       have N1 : ∀ x:Near w1.heap.size w1,x.w.cell? ⟨w.heap.size,1,none⟩=some (.bool wd):=fun x=>(x.h.cell L7).trans d1
       have N2 : ∀ x:Near w1.heap.size w1,x.w.cell? ⟨w.heap.size,2,none⟩=some (.int .i64 st):=fun x=>(x.h.cell L7).trans d2
       have hzz:=Ld w1.heap.size;have HUx:Hid (∀ x:Near w1.heap.size w1,U8 x.w):=Lh fun x=>HU.out.below (hb1.trans (x.h.mono L0))
       clear d0 d1 d2 hg1 hgb c0 hub;refine qc w1.heap.size ?_;(repeat (go_big_quiet_step ((first | (go_at_call 94;exact Calls.near _ hzz (HW.out _ (HUx.out _))) | (go_at_call 69;exact Calls.near _ hzz (HI.out _))))));refine wpQuiet_nil ?_;intro x1;go_wp2;go_ret;exact ⟨rfl,hb1.trans (x1.h.mono L0)⟩
  ·rw [if_pos (.inl h1)];have e2:(wd==(W==2))=false:=by
    cases wd <;> by_cases h:W=2 <;> simp_all
   clear hq h1;refine ⟨?_,?_⟩
   ·clear HI
    go_enter func57,ntmps57
    go_upto_region 1 with fail
    refine qa (GlBox w t wd st) (GlBox.new w t wd st _) ?_;rintro wb hgb;obtain ⟨c0,_,_,hb0,hz0⟩:=id hgb;have hub:=HU.out.below hb0
    go_upto_region 3 with (go_at_call 93;refine (HK.out _ hub).mono ?_;rintro e w1 ⟨rfl,hbel1⟩;have hg1:=hgb.on hbel1)
    obtain ⟨d0,d1,d2,hb1,hz1⟩:=id hg1;have N0 : ∀ x:Near w1.heap.size w1,x.w.cell? ⟨w.heap.size,0,none⟩=some (.string t):=fun x=>(x.h.cell L7).trans d0
    have N1 : ∀ x:Near w1.heap.size w1,x.w.cell? ⟨w.heap.size,1,none⟩=some (.bool wd):=fun x=>(x.h.cell L7).trans d1
    have N2 : ∀ x:Near w1.heap.size w1,x.w.cell? ⟨w.heap.size,2,none⟩=some (.int .i64 st):=fun x=>(x.h.cell L7).trans d2
    have hzz:=Ld w1.heap.size;have HUx:Hid (∀ x:Near w1.heap.size w1,U8 x.w):=Lh fun x=>HU.out.below (hb1.trans (x.h.mono L0))
    clear d0 d1 d2 hg1 hgb c0 hub;refine qc w1.heap.size ?_;(repeat (go_big_quiet_step ((go_at_call 94;exact Calls.near _ hzz (HW.out _ (HUx.out _))))));refine wpQuiet_nil ?_;intro x1;go_wp2;go_ret;exact ⟨rfl,hb1.trans (x1.h.mono L0)⟩
   ·go_enter func72,ntmps72
    go_upto_region 1 with fail
    refine qa (GlBox w t wd st) (GlBox.new w t wd st _) ?_;rintro wb hgb;obtain ⟨c0,_,_,hb0,hz0⟩:=id hgb;have hub:=HU.out.below hb0
    go_upto_region 3 with (go_at_call 93;refine (HK.out _ hub).mono ?_;rintro e w1 ⟨rfl,hbel1⟩;have hg1:=hgb.on hbel1)
    obtain ⟨d0,d1,d2,hb1,hz1⟩:=id hg1;have N0 : ∀ x:Near w1.heap.size w1,x.w.cell? ⟨w.heap.size,0,none⟩=some (.string t):=fun x=>(x.h.cell L7).trans d0
    have N1 : ∀ x:Near w1.heap.size w1,x.w.cell? ⟨w.heap.size,1,none⟩=some (.bool wd):=fun x=>(x.h.cell L7).trans d1
    have N2 : ∀ x:Near w1.heap.size w1,x.w.cell? ⟨w.heap.size,2,none⟩=some (.int .i64 st):=fun x=>(x.h.cell L7).trans d2
    have hzz:=Ld w1.heap.size;have HUx:Hid (∀ x:Near w1.heap.size w1,U8 x.w):=Lh fun x=>HU.out.below (hb1.trans (x.h.mono L0))
    clear d0 d1 d2 hg1 hgb c0 hub;refine qc w1.heap.size ?_;(repeat (go_big_quiet_step ((first | (go_at_call 94;exact Calls.near _ hzz (HW.out _ (HUx.out _))) | (go_at_call 69;exact Calls.near _ hzz (HI.out _))))));refine wpQuiet_nil ?_;intro x1;go_wp2;go_ret;exact ⟨rfl,hb1.trans (x1.h.mono L0)⟩
 ·rw [if_pos hc];generalize zB t=K at *
  have hcb:(K != 0)=true:=Ln.2 hc;clear hc hq;refine ⟨?_,?_⟩
  ·go_enter func57,ntmps57
   go_upto_region 1 with fail
   refine qa (GlBox w t wd st) (GlBox.new w t wd st _) ?_;rintro wb hgb;obtain ⟨c0,_,_,hb0,hz0⟩:=id hgb;have hub:=HU.out.below hb0
   go_wp2_with (go_at_call 93;refine (HK.out _ hub).mono ?_;rintro e w1 ⟨rfl,hbel1⟩)
   go_ret;exact ⟨rfl,hb0.trans (hbel1.mono L0)⟩
  ·go_enter func72,ntmps72
   go_upto_region 1 with fail
   refine qa (GlBox w t wd st) (GlBox.new w t wd st _) ?_;rintro wb hgb;obtain ⟨c0,_,_,hb0,hz0⟩:=id hgb;have hub:=HU.out.below hb0
   go_wp2_with (go_at_call 93;refine (HK.out _ hub).mono ?_;rintro e w1 ⟨rfl,hbel1⟩)
   go_ret;exact ⟨rfl,hb0.trans (hbel1.mono L0)⟩
end Go.Proofs.YtbogmeeijdaijaaGreatDoor
