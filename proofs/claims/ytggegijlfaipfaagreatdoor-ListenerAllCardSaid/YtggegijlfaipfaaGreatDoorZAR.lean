/- Joined: Ur7, PlP, Gd0, Ur8, Vd6, Lvo, Lw2. -/
import Derived.Test.YtggegijlfaipfaaGreatDoorZAQ
set_option linter.unusedVariables false
set_option linter.unusedSimpArgs false
set_option linter.unnecessarySimpa false
set_option maxHeartbeats 8000000
namespace Go.Proofs.YtggegijlfaipfaaGreatDoor
open Go.Proofs.Tryz Go.RowKit
set_option maxRecDepth 20000
def ES (w:World) (B:Nat) (r:Option (List ByteArray)) (X:World):Prop :=
 ∃ A n cc l bad,r=y7 bad l/\WdR X B l A n cc/\Blk X w.heap.size 84 #[.slice A n cc,.bool bad]/\Below w.heap.size w X
theorem ES.turn {w X:World} {B:Nat} {r':Option (List ByteArray)} {A A0:Option Addr} {n cc n0 cc0:Nat} {l:List ByteArray} {bad bad0:Bool} (hB:B<=w.heap.size) (R1:Blk X w.heap.size 84 #[.slice A0 n0 cc0,.bool bad0]) (tx:Below w.heap.size w X) (hW:WdR X B l A n cc) (hr:r'=y7 bad l) :
  ES w B r' ((X.setCell ⟨w.heap.size,0,none⟩ (.slice A n cc)).setCell ⟨w.heap.size,1,none⟩ (.bool bad)) :=
 ⟨A,n,cc,l,bad,hr,hW.below (((Le B X).setCell (p:=⟨w.heap.size,0,none⟩) hB _).setCell (p:=⟨w.heap.size,1,none⟩) hB _),vd R1,(tx.setCell (p:=⟨w.heap.size,0,none⟩) (Ld _) _).setCell (p:=⟨w.heap.size,1,none⟩) (Ld _) _⟩
def EndE (w:World) (l:List ByteArray) (e:Ending) (w':World):Prop:=∃ N b,e = .returned (.tuple #[.int .i64 N,.bool b])/\Below w.heap.size w w'/\ki l=if b=true then some N else none
theorem end_tail (t:List ByteArray):((kU t).bind fun x=>(skO jG x.2).bind fun u=>if u=[]/\1<x.1 then some x.1 else none)=((qN (some t)).2.bind (skO jG)).bind fun u=>if u=[]/\1<(qN (some t)).1 then some (qN (some t)).1 else none:=by
 unfold qN;simp only [Option.bind_some]
 cases kU t with
 | none=>rfl
 | some x=>rfl
theorem qeB (l:List ByteArray) (s:ByteArray):qX (some l) s=vT s l:=rfl
theorem uend_ (l:List ByteArray) (A:Option Addr) (n c:Nat) (w:World) (B:Nat) (hW:WdR w B l A n c) (hB:B<=w.heap.size) :
  Calls prog 43 #[.agg #[.slice A n c,.bool false]] w (EndE w l):=by
 have hX:ES w B (some l) (w.alloc (.cells #[.slice A n c,.bool false] 84)):=⟨A,n,c,l,false,rfl,hW.below ((Le _ _).alloc hB _),Blk.new w _ _,L5⟩
 clear hW
 go_enter func43,ntmps43
 go_upto_region 1 with fail
 refine qa (ES w B (some l)) hX ?_;clear hX;intro X hX;obtain ⟨s1,hs1⟩ : ∃ b,Hid (b=qX (some l) kZ):=⟨_,Lh rfl⟩
 obtain ⟨A',n',c',l',bad',hr',hW,R1,tx⟩:=id hX;have c0:=R1.cell 0;have c1:=R1.cell 1;have f0:=R1.frozen 0;have f1:=R1.frozen 1;have z0:=R1.lt;simp only [La,Lb,Lc] at c0 c1;have hBX:=Lj hB tx.size
 cases bad' with
 | true=>cases hr'
 | false =>
  obtain rfl:l=l':=by cases hr';rfl
  have hln:=hW.len;have HN:=Lh (qdo (some l) _ kZ B X ⟨A',n',c',l,false,rfl,hW,rfl⟩ hBX);rw [<- hs1.out] at HN
  cases s1 with
  | true =>
   have HE:Hid (ki l=if l.length=1 then some 0 else none):=Lh (by unfold ki;rw [<- qeB,<- hs1.out];rfl);clear hs1 hr'
   go_upto_region 2 with (go_at_call 40;refine HN.out.mono ?_;rintro e w1 ⟨rfl,hb1⟩;(clear c0 c1 f0 f1;have R0:=R1.below hb1 R1.lt;have f0:=R0.frozen 0;have f1:=R0.frozen 1;have c0:=R0.cell 0;have c1:=R0.cell 1;simp only [La,Lb,Lc] at c0 c1))
   have hq:((n':Int)==1)=decide (l.length=1):=by rw [hln,Bool.eq_iff_iff];simp;omega
   generalize hdd:decide (l.length=1)=dd at *
   have HE2:Hid (ki l=if dd=true then some 0 else none):=Lh (by rw [HE.out,<- hdd];simp);clear HE hdd
   go_quiet (fail)
   go_wp2;go_ret2;exact ⟨0,dd,rfl,qf (tx.trans (hb1.mono L0)),HE2.out⟩
  | false =>
   have HE:Hid (ki l=(skO jN l).bind fun t=>if t=[] then some 1 else (kU t).bind fun x=>(skO jG x.2).bind fun u=>if u=[]/\1<x.1 then some x.1 else none):=Lh (by unfold ki;rw [<- qeB,<- hs1.out];rfl);clear hs1 hr';obtain ⟨r1,hr1⟩ : ∃ r,Hid (r=(some l).bind (skO jN)):=⟨_,Lh rfl⟩
   have HE1:Hid (ki l=r1.bind fun t=>if t=[] then some 1 else (kU t).bind fun x=>(skO jG x.2).bind fun u=>if u=[]/\1<x.1 then some x.1 else none):=Lh (by rw [HE.out,hr1.out];rfl);clear HE
   go_upto_region 3 with (go_at_call 40;refine HN.out.mono ?_;rintro e w1 ⟨rfl,hb1⟩;(clear c0 c1 f0 f1;have R0:=R1.below hb1 R1.lt;have f0:=R0.frozen 0;have f1:=R0.frozen 1;have c0:=R0.cell 0;have c1:=R0.cell 1;simp only [La,Lb,Lc] at c0 c1))
   refine qa (ES w B (some l)) ⟨A',n',c',l,false,rfl,hW.below (hb1.mono hBX),R1.below hb1 R1.lt,tx.trans (hb1.mono L0)⟩ ?_;clear hX c0 c1 f0 f1 z0 R1 tx hb1 hW HN hln hBX;intro X hX;obtain ⟨A',n',c',l',bad',hr',hW,R1,tx⟩:=id hX;have c0:=R1.cell 0;have c1:=R1.cell 1;have f0:=R1.frozen 0;have f1:=R1.frozen 1;have z0:=R1.lt;simp only [La,Lb,Lc] at c0 c1;have HK:=Lh (qev (some l) _ jN B X ⟨A',n',c',l',bad',rfl,hW,hr'⟩ (Lj hB tx.size));rw [<- hr1.out] at HK
   go_upto_region 4 with (go_at_call 68;refine HK.out.mono ?_;rintro e w1 ⟨A1,n1,cc1,l1,qmK,rfl,hW1,hq1,hb1⟩;(clear c0 c1 f0 f1;have R0:=R1.below hb1 R1.lt;have f0:=R0.frozen 0;have f1:=R0.frozen 1;have c0:=R0.cell 0;have c1:=R0.cell 1;simp only [La,Lb,Lc] at c0 c1))
   refine qa (ES w B r1) (ES.turn hB (R1.below hb1 R1.lt) (tx.trans (hb1.mono L0)) hW1 hq1) ?_;clear hX c0 c1 f0 f1 z0 R1 tx hb1 hW HK hr1 hW1 hq1 hr';intro X hX;obtain ⟨A',n',c',l',bad',hr',hW,R1,tx⟩:=id hX;have c0:=R1.cell 0;have c1:=R1.cell 1;have f0:=R1.frozen 0;have f1:=R1.frozen 1;have z0:=R1.lt;simp only [La,Lb,Lc] at c0 c1;have hln:=hW.len
   by_cases hn0:n'=0
   ·subst hn0;have hl0:l'=[]:=List.length_eq_zero_iff.1 hln;have HE2:Hid (ki l=if (!bad')=true then some 1 else none):=Lh (by rw [HE1.out,hr'];cases bad' <;> simp [y7,hl0]);clear HE1 hr'
    go_upto_region 5 with fail
    go_quiet (fail)
    go_wp2;go_ret2;exact ⟨1,!bad',rfl,qf tx,HE2.out⟩
   ·have hni:((n':Int)==0)=false:=Lm.2 L0;have hni2 : ¬ (n':Int)=0:=by omega
    obtain ⟨x,hx⟩ : ∃ x,Hid (x=qN r1):=⟨_,Lh rfl⟩
    obtain ⟨y,hy⟩ : ∃ y,Hid (y=x.2.bind (skO jG)):=⟨_,Lh rfl⟩
    have HE2:Hid (ki l=y.bind fun u=>if u=[]/\1<x.1 then some x.1 else none):=Lh (by
     rw [HE1.out,hy.out,hx.out,hr']
     cases bad' with
     | true=>rfl
     | false =>
      show (if l'=[] then _ else _)=_
      rw [if_neg (fun e=>hn0 (by rw [<- hln,e];rfl))]
      exact end_tail l')
    clear HE1 hn0 hln;have HM:=Lh (qfL r1 _ B X ⟨A',n',c',l',bad',rfl,hW,hr'⟩ (Lj hB tx.size));rw [<- hx.out] at HM
    go_upto_region 7 with (go_at_call 74;refine (HM.out.mono fun _ _ h=>h.e (Lj hB tx.size)).mono ?_;rintro e w1 ⟨v1,rfl,⟨A1,n1,cc1,l1,qmK,rfl,hW1,hq1⟩,hb1⟩;(clear c0 c1 f0 f1;have R0:=R1.below hb1 R1.lt;have f0:=R0.frozen 0;have f1:=R0.frozen 1;have c0:=R0.cell 0;have c1:=R0.cell 1;simp only [La,Lb,Lc] at c0 c1))
    refine qa (ES w B x.2) (ES.turn hB (R1.below hb1 R1.lt) (tx.trans (hb1.mono L0)) hW1 hq1) ?_;clear hX c0 c1 f0 f1 z0 R1 tx hb1 hW HM hW1 hq1 hr' hni hni2 hx;intro X hX;obtain ⟨A',n',c',l',bad',hr',hW,R1,tx⟩:=id hX;have c0:=R1.cell 0;have c1:=R1.cell 1;have f0:=R1.frozen 0;have f1:=R1.frozen 1;have z0:=R1.lt;simp only [La,Lb,Lc] at c0 c1;have HK:=Lh (qev x.2 _ jG B X ⟨A',n',c',l',bad',rfl,hW,hr'⟩ (Lj hB tx.size));rw [<- hy.out] at HK
    go_upto_region 8 with (go_at_call 68;refine HK.out.mono ?_;rintro e w1 ⟨A1,n1,cc1,l1,qmK,rfl,hW1,hq1,hb1⟩;(clear c0 c1 f0 f1;have R0:=R1.below hb1 R1.lt;have f0:=R0.frozen 0;have f1:=R0.frozen 1;have c0:=R0.cell 0;have c1:=R0.cell 1;simp only [La,Lb,Lc] at c0 c1))
    refine qa (ES w B y) (ES.turn hB (R1.below hb1 R1.lt) (tx.trans (hb1.mono L0)) hW1 hq1) ?_;clear hX c0 c1 f0 f1 z0 R1 tx hb1 hW HK hW1 hq1 hr' hy;intro X hX;obtain ⟨A',n',c',l',bad',hr',hW,R1,tx⟩:=id hX;have c0:=R1.cell 0;have c1:=R1.cell 1;have f0:=R1.frozen 0;have f1:=R1.frozen 1;have z0:=R1.lt;simp only [La,Lb,Lc] at c0 c1;have hln:=hW.len;obtain ⟨N,xr⟩:=x;simp only at HE2
    cases bad' with
    | true =>
     have HE3:Hid (ki l=none):=Lh (by rw [HE2.out,hr'];rfl);clear HE2 hr' hln;go_wp2;go_ret2;exact ⟨N,false,rfl,tx,HE3.out⟩
    | false =>
     have HE3:Hid (ki l=if l'=[]/\1<N then some N else none):=Lh (by rw [HE2.out,hr'];rfl);clear HE2 hr'
     by_cases hn0:n'=0
     ·subst hn0;have hl0:l'=[]:=List.length_eq_zero_iff.1 hln;have HE4:Hid (ki l=if decide (1<N)=true then some N else none):=Lh (by rw [HE3.out,hl0];simp);clear HE3 hln;generalize hdd:decide (1<N)=dd at *
      go_wp2;go_ret2;exact ⟨N,dd,by first | rfl | (rw [<- hdd]),tx,HE4.out⟩
     ·have HE4:Hid (ki l=none):=Lh (by rw [HE3.out,if_neg];rintro ⟨e,_⟩;rw [e] at hln;exact hn0 hln.symm);have hni:((n':Int)==0)=false:=Lm.2 L0;have hni2 : ¬ (n':Int)=0:=by omega
      clear HE3 hln;go_wp2;go_ret2;exact ⟨N,false,rfl,tx,HE4.out⟩
def LowW (w:ByteArray):Prop:=azB w=true/\jF w=false
theorem LowW.bytes {w:ByteArray} (h:LowW w) : ∃ c T,w.data.toList=c::T/\∀ x∈c::T,97<=x.toNat/\x.toNat<=122:=by
 have h1:=h.1;unfold azB at h1;simp only [Bool.and_eq_true,Bool.not_eq_true',List.isEmpty_eq_false_iff,List.all_eq_true,decide_eq_true_eq] at h1;obtain ⟨h2,h3⟩:=h1
 match hd:w.data.toList with
 | []=>exact absurd hd h2
 | c::T=>exact ⟨c,T,rfl,by rw [<- hd];exact h3⟩
def Gd (w:World):Prop:=Sp w/\U8 w/\Sty w
theorem Gd.below {w w':World} (h:Gd w) (hb:Below w.heap.size w w'):Gd w':=⟨h.1.below hb (Ld _),h.2.1.below hb,h.2.2.below hb (Ld _)⟩
theorem qas {w:World} {base size n c:Nat} {e:TypeId} {A:Option Addr} {xs:List Value} (h:w.ownsRow base e size (.slice A n c) n xs):n<=c/\c<=maxLen:=by
 rcases h.2 with ⟨h0,_⟩ | ⟨g,cap,cur,hv,h1,h2,h3,h4,_⟩
 ·injection h0 with _ h0 h0';exact ⟨by omega,by unfold maxLen;omega⟩
 ·injection hv with _ _ hv;exact ⟨by omega,by omega⟩
theorem qmi:Elt prog 41 71 (.agg #[.int .i64 0,.int .i64 0,.int .i64 0,.int .i64 0,.int .i64 0,.slice none 0 0]) 6 64 where
 und:=underlying41
 row:=by
  have h:(prog.info? 71).map (fun i=>(i.zero,i.size,i.bytes))=some (some (.agg #[.int .i64 0,.int .i64 0,.int .i64 0,.int .i64 0,.int .i64 0,.slice none 0 0]),6,64):=by kernel_rfl
  obtain ⟨i,hi,a,b,c⟩:=info_parts h;exact ⟨i,hi,a,b,c⟩
 zs:=rfl
 pos:=by decide
theorem qlo {w:World} {g base size n:Nat} {t e:TypeId} {cs:Array Value} {v:Value} {xs:List Value} (h:Blk w g t cs) (ho:w.ownsRow base e size v n xs) (hte:t≠e):some g≠v.ownBlock:=by
 rcases ho.2 with ⟨rfl,_⟩ | ⟨g',cap,cur,rfl,_,h2,_⟩
 ·simp [Value.ownBlock]
 ·intro hg;simp only [Value.ownBlock,Option.some.injEq] at hg;subst hg;unfold Blk at h;rw [h] at h2
  injection h2 with h2
  injection h2 with _ h2
  exact hte h2
theorem qir {w:World} {base size n base' size' n':Nat} {e e':TypeId} {v v':Value} {xs xs':List Value} (h:w.ownsRow base e size v n xs) (ho:w.ownsRow base' e' size' v' n' xs') (hte:e≠e'):v.ownBlock=none∨v.ownBlock≠v'.ownBlock:=by
 rcases h.2 with ⟨rfl,_⟩ | ⟨g,cap,cur,rfl,_,h1,_⟩
 ·exact .inl rfl
 ·exact .inr (qlo (t:=e) (cs:=cur) h1 ho hte)
def GlO (base:Nat) (wr:World) (out:List ChgM):Prop:=∀ x∈out,wr.ownsRow base 61 3 (.slice x.A x.c.glyphs.length x.cap) x.c.glyphs.length (qi x.c.glyphs)
theorem GlO.below {base:Nat} {wr w':World} {out:List ChgM} (h:GlO base wr out) (hb:Below wr.heap.size wr w'):GlO base w' out:=fun x hx=>qb (h x hx) hb
theorem GlO.less {base base':Nat} {wr:World} {out:List ChgM} (h:GlO base wr out) (hb:base'<=base):GlO base' wr out:=fun x hx=>qt (h x hx) hb
theorem GlO.set_ {base:Nat} {wr:World} {out:List ChgM} (h:GlO base wr out) {p:Addr} (hp:p.block<base) (u:Value):GlO base (wr.setCell p u) out:=fun x hx=>zZ (h x hx) hp u
theorem GlO.rdc {base n c:Nat} {A:Option Addr} {w:World} {out:List ChgM} (h:GlO base w out) (ho:w.ownsRow base 71 6 (.slice A n c) n (kq out)):RdC w w.heap.size A n out :=
 ⟨Rd.of_own ho,fun x hx=>⟨Rd.of_own (h x hx),qas (h x hx)⟩⟩
def ChR (o:Option (List Chg × Int)) (w:World) (e:Ending) (w':World):Prop :=
 Below w.heap.size w w'/\match o with
 | none=>e = .returned (.tuple #[.slice none 0 0,.int .i64 0,.int .i64 17])
 | some x=>∃ out A c,zo out=x.1/\e = .returned (.tuple #[.slice A out.length c,.int .i64 x.2,.int .i64 0])/\w'.ownsRow w.heap.size 71 6 (.slice A out.length c) out.length (kq out)/\GlO w.heap.size w' out
def qgl (w:World) (g:Nat):Nat:=match w.cell? ⟨g,0,none⟩ with
 | some (.slice _ n _)=>n
 | _=>0
theorem qgj {w:World} {g n c:Nat} {A:Option Addr} {t:TypeId} {v:Value} (h:Blk w g t #[.slice A n c,v]):qgl w g=n:=by
 unfold qgl;rw [h.cell 0]
 rfl
def ChJ (w:World) (l':List ByteArray) (out:List ChgM) (A:Option Addr) (c:Nat) (X:World):Prop :=
 ∃ A' n' c',X.ownsRow (w.heap.size+1) 71 6 (.slice A out.length c) out.length (kq out)/\GlO (w.heap.size+1) X out/\WdR X w.heap.size l' A' n' c'/\Blk X w.heap.size 84 #[.slice A' n' c',.bool false]/\Below w.heap.size w X
theorem ChJ.bel {w X:World} {l':List ByteArray} {out:List ChgM} {A:Option Addr} {c:Nat} (h:ChJ w l' out A c X):Below w.heap.size w X:=by
 obtain ⟨A',n',c',ho,hg,hW,R1,tx⟩:=h;exact tx
theorem ChJ.on {w X Y:World} {l':List ByteArray} {out:List ChgM} {A:Option Addr} {c:Nat} (h:ChJ w l' out A c X) (hb:Below X.heap.size X Y):ChJ w l' out A c Y:=by
 obtain ⟨A',n',c',ho,hg,hW,R1,tx⟩:=h;exact ⟨A',n',c',qb ho hb,hg.below hb,hW.below (hb.mono tx.size),R1.below hb R1.lt,tx.trans (hb.mono tx.size)⟩
theorem GlO.app {base base' n:Nat} {w w':World} {out:List ChgM} {v:Value} {xs:List Value} (h:GlO base w out) (ho:w.ownsRow base' 71 6 v n xs) (hg:w.grownBy w' v.ownBlock):GlO base w' out:=fun x hx=>(h x hx).kept hg (qir (h x hx) ho L2)
def ChK (w:World) (gc:Nat) (l':List ByteArray) (out:List ChgM) (A:Option Addr) (c:Nat) (cg:Chg) (Ag:Option Addr) (cap:Nat) (A1:Option Addr) (n1 cc:Nat) (bad:Bool) (lr:List ByteArray) (Y:World):Prop :=
 Blk Y gc 71 (yG cg Ag cap)/\Blk Y (gc+1) 84 #[.slice A1 n1 cc,.bool bad]/\ChJ w l' out A c Y/\WdR Y w.heap.size lr A1 n1 cc/\Y.ownsRow (w.heap.size+1) 61 3 (.slice Ag cg.glyphs.length cap) cg.glyphs.length (qi cg.glyphs)/\w.heap.size+1<=gc
theorem ChK.on {w:World} {gc:Nat} {l':List ByteArray} {out:List ChgM} {A:Option Addr} {c:Nat} {cg:Chg} {Ag:Option Addr} {cap:Nat} {A1:Option Addr} {n1 cc:Nat} {bad:Bool} {lr:List ByteArray} {Y Z:World} (h:ChK w gc l' out A c cg Ag cap A1 n1 cc bad lr Y) (hb:Below Y.heap.size Y Z):ChK w gc l' out A c cg Ag cap A1 n1 cc bad lr Z:=by
 obtain ⟨h1,h2,h3,h4,h5,h6⟩:=h;have:=h1.lt;exact ⟨h1.below hb h1.lt,h2.below hb h2.lt,h3.on hb,h4.below (hb.mono L0),qb h5 hb,h6⟩
theorem ChK.new {w X w3:World} {l':List ByteArray} {out:List ChgM} {A:Option Addr} {c:Nat} {cg:Chg} {Ag:Option Addr} {cap:Nat} {A1:Option Addr} {n1 cc:Nat} {bad:Bool} {lr:List ByteArray} (hJ:ChJ w l' out A c X) (hb3:Below X.heap.size X w3) (hW:WdR w3 w.heap.size lr A1 n1 cc) (ho:w3.ownsRow X.heap.size 61 3 (.slice Ag cg.glyphs.length cap) cg.glyphs.length (qi cg.glyphs)) :
  ChK w w3.heap.size l' out A c cg Ag cap A1 n1 cc bad lr ((w3.alloc (.cells (yG cg Ag cap) 71)).alloc (.cells #[.slice A1 n1 cc,.bool bad] 84)):=by
 have hbb:Below w3.heap.size w3 ((w3.alloc (.cells (yG cg Ag cap) 71)).alloc (.cells #[.slice A1 n1 cc,.bool bad] 84)):=(L5).alloc L1 _;have hX:w.heap.size+1<=X.heap.size:=by
  obtain ⟨A',n',c',ho,hg,hW,R1,tx⟩:=hJ;exact R1.lt
 have hX3:=hb3.size;exact ⟨(Blk.new w3 _ _).alloc _,Blk.new_ L1,(hJ.on hb3).on hbb,hW.below (hbb.mono L0),qt (qb ho hbb) hX,by omega⟩
theorem qlA {X Y:World} {b:Nat} {t:TypeId} {cs:Array Value} {row:Option Nat} (h:Blk X b t cs) (hb:X.grownBy Y row) (hn:some b≠row):Blk Y b t cs:=h.grown hb hn
theorem ChJ.left {w X:World} {l':List ByteArray} {out:List ChgM} {A:Option Addr} {c:Nat} (h:ChJ w l' out A c X):qgl X w.heap.size=l'.length:=by
 obtain ⟨A',n',c',ho,hg,hW,R1,tx⟩:=h;rw [qgj R1];exact hW.len.symm
theorem ChJ.next {w Z U W9:World} {l' lr:List ByteArray} {out:List ChgM} {A A1 A9:Option Addr} {c n1 cc c9:Nat} {x:ChgM} (hJ:ChJ w l' out A c Z) (hW1:WdR Z w.heap.size lr A1 n1 cc) (hx:Z.ownsRow (w.heap.size+1) 61 3 (.slice x.A x.c.glyphs.length x.cap) x.c.glyphs.length (qi x.c.glyphs))
  (hb:Below Z.heap.size Z U) (hgr:U.grownBy W9 (Value.slice A out.length c).ownBlock) (hb9:Below (w.heap.size+1) U W9) (ho9:W9.ownsRow (w.heap.size+1) 71 6 (.slice A9 (out.length+1) c9) (out.length+1) (kq out++qb5 x)) :
  ChJ w lr (out++[x]) A9 c9 ((W9.setCell ⟨w.heap.size,0,none⟩ (.slice A1 n1 cc)).setCell ⟨w.heap.size,1,none⟩ (.bool false)):=by
 obtain ⟨A',n',c',ho,hg,hW,R1,tx⟩:=hJ;have hz:=R1.lt;have h9:Below (w.heap.size+1) Z W9:=(hb.mono hz).trans hb9;have hgl:GlO (w.heap.size+1) W9 (out++[x]):=fun y hy=>by
  rcases List.mem_append.1 hy with hy | hy
  ·exact ((hg.below hb).app (qb ho hb) hgr) y hy
  ·rw [List.mem_singleton] at hy;subst hy;exact (qb hx hb).kept hgr (qir (qb hx hb) (qb ho hb) L2)
 have hlt : ∀ i,(⟨w.heap.size,i,none⟩:Addr).block<w.heap.size+1:=fun i=>Nat.lt_succ_self _
 have hbw:Below w.heap.size W9 ((W9.setCell ⟨w.heap.size,0,none⟩ (.slice A1 n1 cc)).setCell ⟨w.heap.size,1,none⟩ (.bool false)):=((Le _ _).setCell (p:=⟨w.heap.size,0,none⟩) (Ld _) _).setCell (p:=⟨w.heap.size,1,none⟩) (Ld _) _;refine ⟨A1,n1,cc,?_,(hgl.set_ (hlt 0) _).set_ (hlt 1) _,(hW1.below (h9.mono L0)).below hbw,vd (R1.below h9 (Nat.lt_succ_self _)),(tx.trans (h9.mono L0)).trans hbw⟩;rw [Lf,qjj,show kq [x]=qb5 x by simp [kq]];exact zZ (zZ ho9 (hlt 0) _) (hlt 1) _
theorem qej {f:Nat} {l:List ByteArray} {acc:List Chg} (h:vT kZ l=true∨vT jN l=true):yR (f+1) l acc=(ki l).map fun n=>(acc,n):=by
 rw [yR,if_pos h]
theorem qjt {f:Nat} {l:List ByteArray} {acc:List Chg} (h:vT kZ l=false) (h2:vT jN l=false):yR (f+1) l acc=(qaL l).bind fun x=>if vj x.1=0 then yR f x.2 (acc++[x.1]) else none:=by
 rw [yR,if_neg (by rw [h,h2];simp)]
def EndV (o:Option Int) (w:World) (e:Ending) (w':World):Prop:=Below w.heap.size w w'/\match o with
 | none=>∃ N,e = .returned (.tuple #[.int .i64 N,.bool false])
 | some N=>e = .returned (.tuple #[.int .i64 N,.bool true])
theorem EndE.v {l:List ByteArray} {w w':World} {e:Ending} (h:EndE w l e w'):EndV (ki l) w e w':=by
 obtain ⟨N,b,rfl,hb,hE⟩:=h;rw [hE]
 cases b with
 | true=>exact ⟨hb,rfl⟩
 | false=>exact ⟨hb,N,rfl⟩
theorem qkg (l:List ByteArray) (A:Option Addr) (n c:Nat) (w:World) (hW:WdR w w.heap.size l A n c) (hl:l.length<=850000) (hs:Sp w) (hu:U8 w) (hy:Sty w) :
  Calls prog 25 #[.slice A n c] w (ChR (jm l) w):=by
 obtain ⟨R,hR⟩ : ∃ x,Hid (x=jm l):=⟨_,Lh rfl⟩
 rw [<- hR.out];have HS:Hid (Sp w/\U8 w/\Sty w):=Lh ⟨hs,hu,hy⟩;have hJ:ChJ w l [] none 0 (w.alloc (.cells #[.slice A n c,.bool false] 84)):=⟨A,n,c,zY _ _ _ _,(fun x hx=>by cases hx),hW.below L5,Blk.new w _ _,L5⟩
 have H0:Hid (R=yR (l.length+1) l (zo [])):=Lh (by rw [hR.out];rfl);clear hW hs hu hy hR
 go_enter func25,ntmps25
 go_wp2
 go_loopw [6] (fun x wr=>∃ l' out f A c,x = .slice A out.length c/\ChJ w l' out A c wr/\l'.length<f/\out.length+l'.length<=850000/\Hid (R=yR f l' (zo out))) (fun _ wr=>qgl wr w.heap.size)
 case atStart=>exact ⟨l,[],l.length+1,none,0,rfl,hJ,by omega,by simpa using hl,H0⟩
 case round =>
  clear hJ H0 hl;obtain ⟨l',out,f,A,c,rfl,hJ,hf,qnQ,HR⟩:=hrel;obtain ⟨f',rfl⟩ : ∃ f',f=f'+1:=⟨f-1,by omega⟩
  have HL:Hid (qgl wr w.heap.size=l'.length):=Lh (by obtain ⟨A',n',c',ho,hg,hW,R1,tx⟩:=hJ;rw [qgj R1];exact hW.len.symm);rw [HL.out];clear HL;obtain ⟨A',n',c',ho,hg,hW,R1,tx⟩:=id hJ;have c0:=R1.cell 0;have c1:=R1.cell 1;have f0:=R1.frozen 0;have f1:=R1.frozen 1;have z0:=R1.lt;have hBX:=tx.size;simp only [La,Lb,Lc] at c0 c1;obtain ⟨s1,hs1⟩ : ∃ b,Hid (b=qX (some l') kZ):=⟨_,Lh rfl⟩
  obtain ⟨s2,hs2⟩ : ∃ b,Hid (b=qX (some l') jN):=⟨_,Lh rfl⟩
  have hRV:RV wr w.heap.size (some l') (.agg #[.slice A' n' c',.bool false]):=⟨A',n',c',l',false,rfl,hW,rfl⟩
  have HN1:=Lh (qdo (some l') _ kZ w.heap.size wr hRV hBX);rw [<- hs1.out] at HN1;have HN2:Hid (∀ w1,Below wr.heap.size wr w1->Calls prog 40 #[.agg #[.slice A' n' c',.bool false],.string jN] w1 (qh (.bool s2) w1)):=Lh fun w1 hb=>by
   rw [hs2.out];exact qdo (some l') _ jN w.heap.size w1 (hRV.below (hb.mono hBX)) (Lj hBX hb.size)
  clear hRV
  cases s1 with
  | true =>
   have HR2:Hid (R=(ki l').map fun n=>(zo out,n)):=Lh (by rw [HR.out,qej (.inl hs1.out.symm)]);clear HR hs1 hs2
   go_upto_region 8 with ((fail_if_success have:=hb1);go_at_call 40;refine HN1.out.mono ?_;rintro e w1 ⟨rfl,hb1⟩;clear c0 c1 f0 f1;have R0:=R1.below hb1 R1.lt;have f0:=R0.frozen 0;have f1:=R0.frozen 1;have c0:=R0.cell 0;have c1:=R0.cell 1;simp only [La,Lb,Lc] at c0 c1)
   clear R0;refine qa (ChJ w l' out A c) (hJ.on (hb1)) ?_;clear c0 c1 f0 f1 z0 hBX ho hg hW R1 tx;clear hJ HN1 HN2;intro X hJ;obtain ⟨A',n',c',ho,hg,hW,R1,tx⟩:=id hJ;have c0:=R1.cell 0;have c1:=R1.cell 1;have f0:=R1.frozen 0;have f1:=R1.frozen 1;have z0:=R1.lt;have hBX:=tx.size;simp only [La,Lb,Lc] at c0 c1;have HEn:=Lh ((uend_ l' A' n' c' X w.heap.size hW tx.size).mono fun _ _ h=>h.v);generalize ki l'=E at *
   cases E with
   | none =>
    have HR3:Hid (R=none):=Lh HR2.out;clear HR2
    go_wp2_with (go_at_call 43;refine HEn.out.mono ?_;rintro e w5 ⟨hb5,N,rfl⟩)
    go_ret3;rw [HR3.out];exact ⟨tx.trans (hb5.mono hBX),rfl⟩
   | some N =>
    have HR3:Hid (R=some (zo out,N)):=Lh HR2.out;clear HR2
    go_wp2_with (go_at_call 43;refine HEn.out.mono ?_;rintro e w5 ⟨hb5,rfl⟩)
    go_ret3;rw [HR3.out];exact ⟨tx.trans (hb5.mono hBX),out,A,c,rfl,rfl,qt (qb ho hb5) L0,(hg.below hb5).less L0⟩
  | false =>
   cases s2 with
   | true =>
    have HR2:Hid (R=(ki l').map fun n=>(zo out,n)):=Lh (by rw [HR.out,qej (.inr hs2.out.symm)]);clear HR hs1 hs2
    go_upto_region 8 with (first | ((fail_if_success have:=hb1);go_at_call 40;refine HN1.out.mono ?_;rintro e w1 ⟨rfl,hb1⟩;clear c0 c1 f0 f1;have R0:=R1.below hb1 R1.lt;have f0:=R0.frozen 0;have f1:=R0.frozen 1;have c0:=R0.cell 0;have c1:=R0.cell 1;simp only [La,Lb,Lc] at c0 c1) | (go_at_call 40;refine (HN2.out _ hb1).mono ?_;rintro e w2 ⟨rfl,hb2⟩))
    clear R0;refine qa (ChJ w l' out A c) (hJ.on (hb1.trans (hb2.mono hb1.size))) ?_;clear c0 c1 f0 f1 z0 hBX ho hg hW R1 tx;clear hJ HN1 HN2;intro X hJ;obtain ⟨A',n',c',ho,hg,hW,R1,tx⟩:=id hJ;have c0:=R1.cell 0;have c1:=R1.cell 1;have f0:=R1.frozen 0;have f1:=R1.frozen 1;have z0:=R1.lt;have hBX:=tx.size;simp only [La,Lb,Lc] at c0 c1;have HEn:=Lh ((uend_ l' A' n' c' X w.heap.size hW tx.size).mono fun _ _ h=>h.v);generalize ki l'=E at *
    cases E with
    | none =>
     have HR3:Hid (R=none):=Lh HR2.out;clear HR2
     go_wp2_with (go_at_call 43;refine HEn.out.mono ?_;rintro e w5 ⟨hb5,N,rfl⟩)
     go_ret3;rw [HR3.out];exact ⟨tx.trans (hb5.mono hBX),rfl⟩
    | some N =>
     have HR3:Hid (R=some (zo out,N)):=Lh HR2.out;clear HR2
     go_wp2_with (go_at_call 43;refine HEn.out.mono ?_;rintro e w5 ⟨hb5,rfl⟩)
     go_ret3;rw [HR3.out];exact ⟨tx.trans (hb5.mono hBX),out,A,c,rfl,rfl,qt (qb ho hb5) L0,(hg.below hb5).less L0⟩
   | false =>
    have HR2:Hid (R=(qaL l').bind fun x=>if vj x.1=0 then yR f' x.2 (zo out++[x.1]) else none):=Lh (by rw [HR.out,qjt hs1.out.symm hs2.out.symm]);clear HR hs1 hs2
    go_upto_region 4 with (first | ((fail_if_success have:=hb1);go_at_call 40;refine HN1.out.mono ?_;rintro e w1 ⟨rfl,hb1⟩;clear c0 c1 f0 f1;have R0:=R1.below hb1 R1.lt;have f0:=R0.frozen 0;have f1:=R0.frozen 1;have c0:=R0.cell 0;have c1:=R0.cell 1;simp only [La,Lb,Lc] at c0 c1) | (go_at_call 40;refine (HN2.out _ hb1).mono ?_;rintro e w2 ⟨rfl,hb2⟩))
    refine qa (ChJ w l' out A c) (hJ.on (hb1.trans (hb2.mono hb1.size))) ?_;clear R0;clear c0 c1 f0 f1 z0 hBX ho hg hW R1 tx;clear hJ HN1 HN2 hb1 hb2;intro X hJ;obtain ⟨A',n',c',ho,hg,hW,R1,tx⟩:=id hJ;have c0:=R1.cell 0;have c1:=R1.cell 1;have f0:=R1.frozen 0;have f1:=R1.frozen 1;have z0:=R1.lt;have hBX:=tx.size;simp only [La,Lb,Lc] at c0 c1;have hl':l'.length<=850000:=by omega
    have HCh:=Lh ((uchange_ l' A' n' c' X w.heap.size hW tx.size hl' (HS.out.1.below tx (Ld _)) (HS.out.2.1.below tx) (HS.out.2.2.below tx (Ld _))).mono fun _ _ h=>h.spl);have HLn:Hid (∀ c t,qaL l'=some (c,t)->t.length<l'.length/\SmG c.glyphs):=Lh fun c t h=>qmp h hl' hW.sz
    have HEq:=Lh (chgP_eq l');generalize chgP (some l')=P at *
    obtain ⟨cg,rr⟩:=P;dsimp only at HEq HCh
    go_upto_region 5 with (go_at_call 41;refine HCh.out.mono ?_;rintro e w3 ⟨Ag,cap,A1,n1,cc,lr,bad,rfl,hr,hW1,hb3,ho3⟩)
    refine qa (ChK w w3.heap.size l' out A c cg Ag cap A1 n1 cc bad lr) (ChK.new hJ hb3 hW1 ho3) ?_;have hg3:w3.heap.size=w3.heap.size:=rfl;generalize w3.heap.size=gc at *
    clear c0 c1 f0 f1 z0 hBX ho hg hW R1 tx;clear hJ hb3 hW1 ho3 HCh hg3;intro Y hK;obtain ⟨K1,K2,hJ,hW1,ho3,hgc⟩:=id hK;have k0:=K1.cell 0;have k1:=K1.cell 1;have k2:=K1.cell 2;have k3:=K1.cell 3;have k4:=K1.cell 4;have k5:=K1.cell 5;have m0:=K2.cell 0;have m1:=K2.cell 1;simp only [yG,La,Lb,Lc] at k0 k1 k2 k3 k4 k5 m0 m1
    cases bad with
    | true =>
     have HR3:Hid (R=none):=Lh (by rw [HR2.out,HEq.out,hr];rfl);clear HR2 HEq hr HLn HS;have tx:=hJ.bel;go_wp2;go_ret3;rw [HR3.out];exact ⟨tx,rfl⟩
    | false =>
     have HEq2:Hid (qaL l'=some (cg,lr)):=Lh (by rw [HEq.out,hr];rfl);obtain ⟨hlr,hsm⟩:=HLn.out cg lr HEq2.out;have HR3:Hid (R=if vj cg=0 then yR f' lr (zo out++[cg]) else none):=Lh (by rw [HR2.out,HEq2.out];rfl);have HCk:=Lh (ucheck_ cg Ag cap Y.heap.size Y hsm.1 (Rd.of_own ho3) (Ld _) hsm.2 (HS.out.2.1.below hJ.bel));clear HR2 HEq HEq2 hr HLn hsm
     by_cases hK0:vj cg=0
     ·rw [hK0] at HCk;have HR4:Hid (R=yR f' lr (zo (out++[⟨cg,Ag,cap⟩]))):=Lh (by rw [HR3.out,if_pos hK0];unfold zo;rw [List.map_append];rfl);clear HR3 hK0
      go_upto_region 7 with (go_at_call 42;refine HCk.out.mono ?_;rintro e w5 ⟨rfl,hb5⟩)
      refine qa (ChK w gc l' out A c cg Ag cap A1 n1 cc false lr) (hK.on hb5) ?_;clear k0 k1 k2 k3 k4 k5 m0 m1 K1 K2 hJ hW1 ho3 hgc;clear hK hb5 HCk;intro Z hK;obtain ⟨K1,K2,hJ,hW1,ho3,hgc⟩:=id hK;have k0:=K1.cell 0;have k1:=K1.cell 1;have k2:=K1.cell 2;have k3:=K1.cell 3;have k4:=K1.cell 4;have k5:=K1.cell 5;have m0:=K2.cell 0;have m1:=K2.cell 1;simp only [yG,La,Lb,Lc] at k0 k1 k2 k3 k4 k5 m0 m1;obtain ⟨A',n',c',ho,hg,hW,R1,tx⟩:=id hJ;have f0:=R1.frozen 0;have f1:=R1.frozen 1;have z0:=R1.lt;have hlr2:lr.length<l'.length:=hlr;have htz:=tx.size;have hbZ:Below Z.heap.size Z Z:=Le _ _;have kz:=K2.lt;have kz1:=K1.lt
      go_region_law (refine jZ rfl _ _ _ rfl qmi ((w.heap.size+1)) _ rfl ((qb ho ql8)) _ _ rfl ((qe (xs:=qb5 ⟨cg,Ag,cap⟩) rfl rfl)) (qhb _) ?_;intro A9 c9 w9 qmE qmL qmH hat9;have z9:=qmL.size;(try simp only [Lo,Lg] at qmE);have R9:=R1.below (B:=w.heap.size+1) (Below.trans ql8 qmL) (Nat.lt_succ_self _);have K9:=qlA (K2.below ql8 K2.lt) qmH (qlo (K2.below ql8 K2.lt) (qb ho ql8) L2);clear f0 f1 m0 m1;have f0:=R9.frozen 0;have f1:=R9.frozen 1;have e0:=R9.cell 0;have e1:=R9.cell 1;have m0:=K9.cell 0;have m1:=K9.cell 1;simp only [La,Lb,Lc] at m0 m1 e0 e1)
      all_goals go_wp2
      all_goals exact ⟨⟨lr,out++[⟨cg,Ag,cap⟩],f',A9,c9,by rw [Lf];rfl,ChJ.next (x:=⟨cg,Ag,cap⟩) hJ hW1 ho3 ql8 qmH qmL qmE,by omega,by rw [Lf];simp only [Lp,List.length_nil];omega,HR4⟩,by rw [ChJ.left (ChJ.next (x:=⟨cg,Ag,cap⟩) hJ hW1 ho3 ql8 qmH qmL qmE)];exact hlr2⟩
     ·have HR4:Hid (R=none):=Lh (by rw [HR3.out,if_neg hK0]);have hKb:(vj cg != 0)=true:=Ln.2 hK0;generalize vj cg=K at *
      have tx:=hJ.bel;clear HR3 hK0 HS
      go_wp2_with (go_at_call 42;refine HCk.out.mono ?_;rintro e w5 ⟨rfl,hb5⟩)
      go_ret3;rw [HR4.out];exact ⟨tx.trans (hb5.mono tx.size),rfl⟩
def TcR (o:Option (List Chg × Int)) (w:World) (e:Ending) (w':World):Prop :=
 Below w.heap.size w w'/\match o with
 | none=>∃ A,e = .returned (.tuple #[.slice A 0 0,.int .i64 0,.int .i64 17])
 | some x=>∃ out A c,zo out=x.1/\e = .returned (.tuple #[.slice A out.length c,.int .i64 x.2,.int .i64 0])/\w'.ownsRow w.heap.size 71 6 (.slice A out.length c) out.length (kq out)/\GlO w.heap.size w' out
def qlC (w:World) (g:Nat):Nat:=match w.cell? ⟨g,0,none⟩,w.cell? ⟨g,1,none⟩ with
 | some (.slice _ n _),some (.bool true)=>n+1
 | _,_=>0
theorem leftT_eq {w:World} {g n c:Nat} {A:Option Addr} {t:TypeId} {b:Bool} (h:Blk w g t #[.slice A n c,.bool b]):qlC w g=if b=true then n+1 else 0:=by
 obtain ⟨h0,h1,_⟩:=vN h;unfold qlC;rw [h0,h1]
 cases b <;> rfl
def TJ (w:World) (r:Option (List ByteArray)) (out:List ChgM) (A:Option Addr) (c:Nat) (X:World):Prop :=
 (∃ A' n' c' l' bad',r=y7 bad' l'/\WdR X w.heap.size l' A' n' c'/\Blk X w.heap.size 107 #[.slice A' n' c',.bool (!bad')])/\X.ownsRow (w.heap.size+1) 71 6 (.slice A out.length c) out.length (kq out)/\GlO (w.heap.size+1) X out/\Below w.heap.size w X
theorem TJ.lt {w X:World} {r:Option (List ByteArray)} {out:List ChgM} {A:Option Addr} {c:Nat} (h:TJ w r out A c X):w.heap.size<X.heap.size:=by
 obtain ⟨⟨A',n',c',l',bad',hr',hW,R1⟩,ho,hg,tx⟩:=h;exact R1.lt
theorem TJ.on {w X Y:World} {r:Option (List ByteArray)} {out:List ChgM} {A:Option Addr} {c:Nat} (h:TJ w r out A c X) (hb:Below X.heap.size X Y):TJ w r out A c Y:=by
 obtain ⟨⟨A',n',c',l',bad',hr',hW,R1⟩,ho,hg,tx⟩:=h;exact ⟨⟨A',n',c',l',bad',hr',hW.below (hb.mono tx.size),R1.below hb R1.lt⟩,qb ho hb,hg.below hb,tx.trans (hb.mono tx.size)⟩
theorem TJ.turn {w X:World} {r r':Option (List ByteArray)} {out:List ChgM} {A A1:Option Addr} {c n1 cc:Nat} {lr:List ByteArray} {bad:Bool} (h:TJ w r out A c X) (hW:WdR X w.heap.size lr A1 n1 cc) (hr:r'=y7 bad lr) :
  TJ w r' out A c ((X.setCell ⟨w.heap.size,0,none⟩ (.slice A1 n1 cc)).setCell ⟨w.heap.size,1,none⟩ (.bool (!bad))):=by
 obtain ⟨⟨A',n',c',l',bad',hr',hW',R1⟩,ho,hg,tx⟩:=h;have hlt : ∀ i,(⟨w.heap.size,i,none⟩:Addr).block<w.heap.size+1:=fun i=>Nat.lt_succ_self _
 have hbw:Below w.heap.size X ((X.setCell ⟨w.heap.size,0,none⟩ (.slice A1 n1 cc)).setCell ⟨w.heap.size,1,none⟩ (.bool (!bad))):=((Le _ _).setCell (p:=⟨w.heap.size,0,none⟩) (Ld _) _).setCell (p:=⟨w.heap.size,1,none⟩) (Ld _) _;exact ⟨⟨A1,n1,cc,lr,bad,hr,hW.below hbw,vd R1⟩,zZ (zZ ho (hlt 0) _) (hlt 1) _,(hg.set_ (hlt 0) _).set_ (hlt 1) _,tx.trans hbw⟩
def lenT (r:Option (List ByteArray)):Nat:=match r with
 | some l=>l.length+1
 | none=>0
theorem lenT_lt {r:Option (List ByteArray)} {l:List ByteArray} (h : ∀ t,r=some t->t.length<l.length):lenT r<lenT (some l):=by
 cases r with
 | none=>exact Nat.succ_pos _
 | some t =>
  have:=h t rfl
  show t.length+1<l.length+1
  omega
theorem TJ.left {w X:World} {r:Option (List ByteArray)} {out:List ChgM} {A:Option Addr} {c:Nat} (h:TJ w r out A c X):qlC X w.heap.size=lenT r:=by
 obtain ⟨⟨A',n',c',l',bad',rfl,hW,R1⟩,ho,hg,tx⟩:=h;rw [leftT_eq R1];have:=hW.len
 cases bad'
 ·show n'+1=l'.length+1
  omega
 ·rfl
theorem TJ.next {w Z U W9:World} {r r':Option (List ByteArray)} {lr:List ByteArray} {out:List ChgM} {A A1 A9:Option Addr} {c n1 cc c9:Nat} {bad:Bool} {x:ChgM} (hJ:TJ w r out A c Z) (hW1:WdR Z w.heap.size lr A1 n1 cc) (hr1:r'=y7 bad lr) (hx:Z.ownsRow (w.heap.size+1) 61 3 (.slice x.A x.c.glyphs.length x.cap) x.c.glyphs.length (qi x.c.glyphs))
  (hb:Below Z.heap.size Z U) (hgr:U.grownBy W9 (Value.slice A out.length c).ownBlock) (hb9:Below (w.heap.size+1) U W9) (ho9:W9.ownsRow (w.heap.size+1) 71 6 (.slice A9 (out.length+1) c9) (out.length+1) (kq out++qb5 x)) :
  TJ w r' (out++[x]) A9 c9 ((W9.setCell ⟨w.heap.size,0,none⟩ (.slice A1 n1 cc)).setCell ⟨w.heap.size,1,none⟩ (.bool (!bad))):=by
 have hz:=hJ.lt;obtain ⟨⟨A',n',c',l',bad',hr',hW,R1⟩,ho,hg,tx⟩:=hJ;have h9:Below (w.heap.size+1) Z W9:=(hb.mono hz).trans hb9;have hgl:GlO (w.heap.size+1) W9 (out++[x]):=fun y hy=>by
  rcases List.mem_append.1 hy with hy | hy
  ·exact ((hg.below hb).app (qb ho hb) hgr) y hy
  ·rw [List.mem_singleton] at hy;subst hy;exact (qb hx hb).kept hgr (qir (qb hx hb) (qb ho hb) L2)
 have h':TJ w r (out++[x]) A9 c9 W9:=⟨⟨A',n',c',l',bad',hr',hW.below (h9.mono L0),R1.below h9 (Nat.lt_succ_self _)⟩,by rw [Lf,qjj,show kq [x]=qb5 x by simp [kq]];exact ho9,hgl,tx.trans (h9.mono L0)⟩
 exact h'.turn (hW1.below (h9.mono L0)) hr1
def TK (w:World) (gc:Nat) (r:Option (List ByteArray)) (out:List ChgM) (A:Option Addr) (c:Nat) (cg:Chg) (Ag:Option Addr) (cap:Nat) (A1:Option Addr) (n1 cc:Nat) (bad:Bool) (lr:List ByteArray) (Y:World):Prop :=
 Blk Y gc 71 (yG cg Ag cap)/\Blk Y (gc+1) 107 #[.slice A1 n1 cc,.bool (!bad)]/\TJ w r out A c Y/\WdR Y w.heap.size lr A1 n1 cc/\Y.ownsRow (w.heap.size+1) 61 3 (.slice Ag cg.glyphs.length cap) cg.glyphs.length (qi cg.glyphs)/\w.heap.size+1<=gc
theorem TK.on {w:World} {gc:Nat} {r:Option (List ByteArray)} {out:List ChgM} {A:Option Addr} {c:Nat} {cg:Chg} {Ag:Option Addr} {cap:Nat} {A1:Option Addr} {n1 cc:Nat} {bad:Bool} {lr:List ByteArray} {Y Z:World} (h:TK w gc r out A c cg Ag cap A1 n1 cc bad lr Y) (hb:Below Y.heap.size Y Z):TK w gc r out A c cg Ag cap A1 n1 cc bad lr Z:=by
 obtain ⟨h1,h2,h3,h4,h5,h6⟩:=h;have:=h1.lt;exact ⟨h1.below hb h1.lt,h2.below hb h2.lt,h3.on hb,h4.below (hb.mono L0),qb h5 hb,h6⟩
theorem TK.new {w X w3:World} {r:Option (List ByteArray)} {out:List ChgM} {A:Option Addr} {c:Nat} {cg:Chg} {Ag:Option Addr} {cap:Nat} {A1:Option Addr} {n1 cc:Nat} {bad:Bool} {lr:List ByteArray} (hJ:TJ w r out A c X) (hb3:Below X.heap.size X w3) (hW:WdR w3 w.heap.size lr A1 n1 cc) (ho:w3.ownsRow X.heap.size 61 3 (.slice Ag cg.glyphs.length cap) cg.glyphs.length (qi cg.glyphs)) :
  TK w w3.heap.size r out A c cg Ag cap A1 n1 cc bad lr ((w3.alloc (.cells (yG cg Ag cap) 71)).alloc (.cells #[.slice A1 n1 cc,.bool (!bad)] 107)):=by
 have hX:=hJ.lt;have hX3:=hb3.size;have hbb:Below w3.heap.size w3 ((w3.alloc (.cells (yG cg Ag cap) 71)).alloc (.cells #[.slice A1 n1 cc,.bool (!bad)] 107)):=(L5).alloc L1 _;exact ⟨(Blk.new w3 _ _).alloc _,Blk.new_ L1,(hJ.on hb3).on hbb,hW.below (hbb.mono L0),qt (qb ho hbb) hX,by omega⟩
theorem qlS {w:World} {base size n:Nat} {e:TypeId} {v:Value} {xs:List Value} (h:w.ownsRow base e size v n xs) {p:Addr} (hn:some p.block≠v.ownBlock) (u:Value):(w.setCell p u).ownsRow base e size v n xs :=
 h.kept (row:=some p.block) ⟨rfl,rfl,rfl,by simp,fun k _ hk=>Below.heap_setCell _ _ _ _ (fun e=>hk (by rw [e]))⟩ (.inr (Ne.symm hn))
theorem TK.spoil {w:World} {gc:Nat} {r:Option (List ByteArray)} {out:List ChgM} {A:Option Addr} {c:Nat} {cg:Chg} {Ag:Option Addr} {cap:Nat} {A1:Option Addr} {n1 cc:Nat} {bad:Bool} {lr:List ByteArray} {Y:World} (h:TK w gc r out A c cg Ag cap A1 n1 cc bad lr Y):TK w gc r out A c cg Ag cap none 0 0 true [] ((Y.setCell ⟨gc+1,0,none⟩ (.slice none 0 0)).setCell ⟨gc+1,1,none⟩ (.bool false)):=by
 obtain ⟨h1,h2,⟨⟨A',n',c',l',bad',hr',hW',R1⟩,ho,hg,tx⟩,h4,h5,h6⟩:=h;have hb : ∀ k,k<=gc+1->Below k Y ((Y.setCell ⟨gc+1,0,none⟩ (.slice none 0 0)).setCell ⟨gc+1,1,none⟩ (.bool false)):=fun k hk=>((Le k Y).setCell (p:=⟨gc+1,0,none⟩) hk _).setCell (p:=⟨gc+1,1,none⟩) hk _
 have own_ne3 : ∀ {e:TypeId} {size n:Nat} {v:Value} {xs:List Value},107≠e->Y.ownsRow (w.heap.size+1) e size v n xs->((Y.setCell ⟨gc+1,0,none⟩ (.slice none 0 0)).setCell ⟨gc+1,1,none⟩ (.bool false)).ownsRow (w.heap.size+1) e size v n xs:=fun hne hw=>by
  have n1:=qlo h2 hw hne;exact qlS (qlS hw (p:=⟨gc+1,0,none⟩) n1 _) (p:=⟨gc+1,1,none⟩) n1 _
 refine ⟨h1.below (hb _ (Ld _)) (Nat.lt_succ_self _),vd h2,⟨⟨A',n',c',l',bad',hr',hW'.below (hb _ L0),R1.below (hb (w.heap.size+1) L0) (Nat.lt_succ_self _)⟩,own_ne3 L2 ho,fun x hx=>own_ne3 L2 (hg x hx),tx.trans (hb _ L0)⟩,WdR.nil _ _,own_ne3 L2 h5,h6⟩
def qkZ (r:Option (List ByteArray)):Bool:=match r with
 | some l=>decide (l≠[])&&!(vT kZ l)&&!(vT jN l)
 | none=>false
theorem contB_no {r:Option (List ByteArray)} (h:qkZ r=false) : ∀ l,r=some l->l=[]∨vT kZ l=true∨vT jN l=true:=fun l e=>by
 subst e;replace h:(decide (l≠[])&&!(vT kZ l)&&!(vT jN l))=false:=h
 by_cases hl:l=[]
 ·exact .inl hl
 ·right
  cases hm:vT kZ l with
  | true=>exact .inl rfl
  | false =>
   right
   rw [hm] at h
   simpa [hl] using h
theorem ql7 {r:Option (List ByteArray)} (h:qkZ r=true) : ∃ l,r=some l/\0<l.length/\vT kZ l=false/\vT jN l=false:=by
 cases r with
 | none=>cases h
 | some l =>
  unfold qkZ at h;simp only [Bool.and_eq_true,decide_eq_true_eq,Bool.not_eq_true'] at h;exact ⟨l,rfl,List.length_pos_iff.2 h.1.1,h.1.2,h.2⟩
theorem goV_zero {f:Nat} {r:Option (List ByteArray)} {acc:List Chg} (h : ∀ l,r=some l->l.length<f) : ∃ f',qma f r acc=qma (f'+1) r acc/\∀ l,r=some l->l.length<f'+1:=by
 cases f with
 | succ f=>exact ⟨f,rfl,h⟩
 | zero =>
  cases r with
  | none=>exact ⟨0,rfl,fun l e=>by cases e⟩
  | some l=>exact absurd (h l rfl) (Nat.not_lt_zero _)
theorem qmt (l:List ByteArray) (A:Option Addr) (n c:Nat) (w:World) (hW:WdR w w.heap.size l A n c) (hl:l.length<=1000) (ht:Tb w) :
  Calls prog 35 #[.slice A n c] w (TcR (jm l) w):=by
 obtain ⟨R,hR⟩ : ∃ x,Hid (x=jm l):=⟨_,Lh rfl⟩
 rw [<- hR.out];have HT:=Lh ht;have hJ:TJ w (some l) [] (some ⟨w.heap.size+1,0,none⟩) 0 ((w.alloc (.cells #[.slice A n c,.bool true] 107)).alloc (.cells #[] 71)):=by
  have hb:Below w.heap.size w (w.alloc (.cells #[.slice A n c,.bool true] 107)):=L5;have hz:(w.alloc (.cells #[.slice A n c,.bool true] 107)).heap.size=w.heap.size+1:=by simp
  exact ⟨⟨A,n,c,l,false,rfl,hW.below (hb.alloc L0 _),(Blk.new w _ _).alloc _⟩,qx (xs:=[]) (n:=0) hz rfl (Ld _) L0,(fun x hx=>by cases hx),hb.alloc L0 _⟩
 have H0:Hid (R=qma (l.length+1) (some l) (zo [])):=Lh (by rw [hR.out];rfl);have H1:OkR (some l):=fun x e=>by cases e;exact ⟨hl,hW.sz⟩
 clear hW hR ht
 go_enter func35,ntmps35
 go_wp2
 go_loopw [6] (fun x wr=>∃ r out f A c,x = .slice A out.length c/\TJ w r out A c wr/\(∀ l,r=some l->l.length<f)/\out.length+lenO r<=1000/\OkR r/\Hid (R=qma f r (zo out))) (fun _ wr=>qlC wr w.heap.size)
 case atStart=>exact ⟨some l,[],l.length+1,_,0,rfl,hJ,fun x e=>by cases e;omega,by simpa [lenO] using hl,H1,H0⟩
 case round =>
  clear hJ H0 H1 hl;obtain ⟨r,out,f,Ao,co,rfl,hJ,hf,qnQ,hok,HR⟩:=hrel;obtain ⟨f',hgo,hf'⟩:=goV_zero (acc:=zo out) hf;have HR1:Hid (R=qma (f'+1) r (zo out)):=Lh (by rw [HR.out,hgo]);have HM:Hid (qlC wr w.heap.size=lenT r):=Lh hJ.left;rw [HM.out];clear HR hgo hf HM
  go_upto_region 3 with fail
  go_cut [30] (fun v wx=>v = .bool (qkZ r)/\TJ w r out Ao co wx)
  case first =>
   as_aux_lemma =>
   clear HR1 hf' qnQ hok;obtain ⟨⟨A',n',c',l',bad',hr',hW,R1⟩,ho,hg,tx⟩:=id hJ;obtain ⟨c0,c1,f0,f1⟩:=vN R1;have z0:=R1.lt;have hBX:=tx.size;subst hr'
   cases bad' with
   | true =>
    replace c1:wr.cell? ⟨w.heap.size,1,none⟩=some (.bool false):=c1;go_wp2;go_meet;exact ⟨rfl,hJ⟩
   | false =>
    replace c1:wr.cell? ⟨w.heap.size,1,none⟩=some (.bool true):=c1;have HC:Hid (qkZ (some l')=(decide (l'≠[])&&!(vT kZ l')&&!(vT jN l'))):=Lh rfl;have hln:=hW.len
    by_cases hn:n'=0
    ·have e:Hid (qkZ (y7 false l')=false):=Lh (by rw [show y7 false l'=some l' from rfl,HC.out,List.length_eq_zero_iff.1 (hln.trans hn)];rfl);subst hn;clear HC;go_wp2;go_meet;exact ⟨by rw [e.out],hJ⟩
    ·have hi:(0:Int)<n':=by omega
     have hne:l'≠[]:=fun e=>hn (by rw [<- hln,e];rfl)
     have HN1:=Lh (tis_ (some l') (.agg #[.slice A' n' c',.bool true]) kZ w.heap.size wr ⟨A',n',c',l',false,rfl,hW,rfl⟩ hBX);have HN2:Hid (∀ w1,Below wr.heap.size wr w1->Calls prog 60 #[.agg #[.slice A' n' c',.bool true],.string jN] w1 (qh (.bool (qX (some l') jN)) w1)):=Lh fun w1 hb=>tis_ (some l') _ jN w.heap.size w1 ⟨A',n',c',l',false,rfl,hW.below (hb.mono hBX),rfl⟩ (Lj hBX hb.size)
     cases s1:qX (some l') kZ with
     | true =>
      have e:Hid (qkZ (y7 false l')=false):=Lh (by rw [show y7 false l'=some l' from rfl,HC.out,show vT kZ l'=true from s1];simp);rw [s1] at HN1;clear HC s1 HN2 hn hne
      go_wp2_with ((fail_if_success have:=hb1);go_at_call 60;refine HN1.out.mono ?_;rintro e w1 ⟨rfl,hb1⟩;clear c0 c1 f0 f1;have R0:=R1.below hb1 R1.lt;obtain ⟨c0,c1,f0,f1⟩:=vN R0)
      go_meet;exact ⟨by rw [e.out],hJ.on hb1⟩
     | false =>
      have e:Hid (qkZ (y7 false l') = !(qX (some l') jN)):=Lh (by rw [show y7 false l'=some l' from rfl,HC.out,show vT kZ l'=false from s1];simp [hne];rfl);rw [s1] at HN1;generalize qX (some l') jN=s2 at *
      clear HC s1 hn hne
      go_wp2_with (first | ((fail_if_success have:=hb1);go_at_call 60;refine HN1.out.mono ?_;rintro e w1 ⟨rfl,hb1⟩;clear c0 c1 f0 f1;have R0:=R1.below hb1 R1.lt;obtain ⟨c0,c1,f0,f1⟩:=vN R0) | (go_at_call 60;refine (HN2.out _ hb1).mono ?_;rintro e w2 ⟨rfl,hb2⟩))
      go_meet;exact ⟨by rw [e.out],hJ.on (hb1.trans (hb2.mono hb1.size))⟩
  case rest =>
   clear hJ;obtain ⟨rfl,hJ⟩:=hcut;generalize hXw:wc=X at *
   clear hXw
   cases hcb:qkZ r with
   | true =>
    obtain ⟨l',rfl,hpos,hm,hd⟩:=ql7 hcb;have HR2:Hid (R=qma f' (if vj (zU (some l')).1=0 then (zU (some l')).2 else none) (zo out++[(zU (some l')).1])):=Lh (by rw [HR1.out,goV_step hm hd]);have hl':=(hok l' rfl).1;have hsz:=(hok l' rfl).2;have HSm:=Lh (qlK hok);have HLn:Hid (vj (zU (some l')).1=0->∀ t,(zU (some l')).2=some t->t.length<l'.length):=Lh fun h0 t ht=>chgQ_len hl' hsz h0 ht
    have HOk:Hid (OkR (zU (some l')).2):=Lh (chgQ_ok hok);have hlen':out.length+l'.length<=1000:=qnQ;have hfl:=hf' l' rfl;clear HR1 hcb hf' qnQ hm hd hok;obtain ⟨⟨A',n',c',l',bad',hr',hW,R1⟩,ho,hg,tx⟩:=id hJ;obtain ⟨c0,c1,f0,f1⟩:=vN R1;have z0:=R1.lt;have hBX:=tx.size
    cases bad' with
    | true=>cases hr'
    | false =>
     replace c1:X.cell? ⟨w.heap.size,1,none⟩=some (.bool true):=c1;obtain rfl:l'=_:=by cases hr';rfl
     have HCh:=Lh (tchange_ l' A' n' c' X w.heap.size hW hBX hl' (HT.out.below tx));generalize zU (some l')=P at *
     obtain ⟨cg,rr⟩:=P;dsimp only at HCh HR2 HSm HLn HOk
     go_upto_region 5 with (go_at_call 61;refine HCh.out.mono ?_;rintro e w3 ⟨Ag,cap,A1,n1,cc,lr,bad,rfl,hr,hW1,hb3,ho3⟩)
     refine qa (TK w w3.heap.size (some l') out Ao co cg Ag cap A1 n1 cc bad lr) (TK.new hJ hb3 hW1 ho3) ?_;generalize w3.heap.size=gc at *
     clear c0 c1 f0 f1 z0 hBX ho hg hW R1 tx hr';clear hJ hb3 hW1 ho3 HCh;intro Y hK;obtain ⟨K1,K2,hJ,hW1,ho3,hgc⟩:=id hK;obtain ⟨k0,k1,k2,k3,k4,k5,p0,p1,p2,p3,p4,p5⟩:=qV K1;obtain ⟨m0,m1,q0,q1⟩:=vN K2;have kz:=K2.lt;have kz1:=K1.lt;have HCk:=Lh (vchk_ cg Ag cap Y.heap.size Y HSm.out.1 (Rd.of_own ho3) (Ld _) HSm.out.2)
     by_cases hK0:vj cg=0
     ·rw [hK0] at HCk;have HR3:Hid (R=qma f' rr (zo (out++[⟨cg,Ag,cap⟩]))):=Lh (by rw [HR2.out,if_pos hK0];unfold zo;rw [List.map_append];rfl);have hlt:=HLn.out hK0;clear HR2 hK0 HLn HSm
      go_upto_region 7 with (go_at_call 62;refine HCk.out.mono ?_;rintro e w5 ⟨rfl,hb5⟩)
      refine qa (TK w gc (some l') out Ao co cg Ag cap A1 n1 cc bad lr) (hK.on hb5) ?_;clear k0 k1 k2 k3 k4 k5 p0 p1 p2 p3 p4 p5 m0 m1 q0 q1 K1 K2 hJ hW1 ho3 hgc kz kz1;clear hK hb5 HCk;intro Z hK;have qnU:out.length+1+lenO rr<=1000:=by
       cases rr with
       | none=>show out.length+1+0<=1000;omega
       | some t=>have:=hlt t rfl;show out.length+1+t.length<=1000;omega
      obtain ⟨K1,K2,hJ,hW1,ho3,hgc⟩:=id hK;obtain ⟨k0,k1,k2,k3,k4,k5,p0,p1,p2,p3,p4,p5⟩:=qV K1;obtain ⟨m0,m1,q0,q1⟩:=vN K2;have kz:=K2.lt;have kz1:=K1.lt;obtain ⟨⟨A',n',c',lz,bad',hr',hW,R1⟩,ho,hg,tx⟩:=id hJ;obtain ⟨c0,c1,f0,f1⟩:=vN R1;have z0:=R1.lt;have htz:=tx.size
      go_wp2_with ((at_builtin;refine qg rfl _ _ _ rfl qmi ((w.heap.size+1)) _ rfl (qb ho L5) _ _ rfl ((qe (xs:=qb5 ⟨cg,Ag,cap⟩) rfl rfl)) ?_;intro A9 c9 w9 qmE qmL qmH hat9;have z9:=qmL.size;(try simp only [Li] at z9);(try simp only [Lo,Lg] at qmE));have hbA:Below Z.heap.size Z (Z.alloc (.cells (qb5 ⟨cg,Ag,cap⟩).toArray 71)):=L5;have R9:=(R1.below hbA R1.lt).below qmL (Nat.lt_succ_self _);have K9:=qlA (K2.below hbA K2.lt) qmH (qlo (K2.below hbA K2.lt) (qb ho hbA) L2);clear f0 f1 m0 m1 c0 c1;obtain ⟨c0,c1,f0,f1⟩:=vN R9;obtain ⟨m0,m1,-,-⟩:=vN K9)
      have hJ9:=TJ.next (x:=⟨cg,Ag,cap⟩) hJ hW1 hr ho3 hbA qmH qmL qmE;refine ⟨⟨rr,out++[⟨cg,Ag,cap⟩],f',A9,c9,?_,?_,?_,?_,?_,?_⟩,?_⟩
      ·rw [Lf];rfl
      ·exact hJ9
      ·exact fun x e=>by have:=hlt x e;omega
      ·rw [Lf];exact qnU
      ·exact HOk.out
      ·exact HR3
      ·exact Nat.lt_of_le_of_lt (Nat.le_of_eq hJ9.left) (lenT_lt hlt)
     ·have HR3:Hid (R=qma f' none (zo (out++[⟨cg,Ag,cap⟩]))):=Lh (by rw [HR2.out,if_neg hK0];rfl);have hKb:(vj cg != 0)=true:=Ln.2 hK0;generalize vj cg=K at *
      clear HR2 hK0 HLn HSm HOk hr
      go_upto_region 6 with (go_at_call 62;refine HCk.out.mono ?_;rintro e w5 ⟨rfl,hb5⟩)
      refine qa (TK w gc (some l') out Ao co cg Ag cap A1 n1 cc bad lr) (hK.on hb5) ?_;clear k0 k1 k2 k3 k4 k5 p0 p1 p2 p3 p4 p5 m0 m1 q0 q1 K1 K2 hJ hW1 ho3 hgc kz kz1;clear hK hb5 HCk;intro Y hK;obtain ⟨K1,K2,hJ,hW1,ho3,hgc⟩:=id hK;obtain ⟨k0,k1,k2,k3,k4,k5,p0,p1,p2,p3,p4,p5⟩:=qV K1;obtain ⟨m0,m1,q0,q1⟩:=vN K2;have kz:=K2.lt;have kz1:=K1.lt
      go_upto_region 7 with fail
      refine qa (TK w gc (some l') out Ao co cg Ag cap none 0 0 true []) hK.spoil ?_;clear k0 k1 k2 k3 k4 k5 p0 p1 p2 p3 p4 p5 m0 m1 q0 q1 K1 K2 hJ hW1 ho3 hgc kz kz1;clear hK;intro Z hK;have qnU:out.length+1+lenO none<=1000:=by show out.length+1+0<=1000;omega
      obtain ⟨K1,K2,hJ,hW1,ho3,hgc⟩:=id hK;obtain ⟨k0,k1,k2,k3,k4,k5,p0,p1,p2,p3,p4,p5⟩:=qV K1;obtain ⟨m0,m1,q0,q1⟩:=vN K2;have kz:=K2.lt;have kz1:=K1.lt;obtain ⟨⟨A',n',c',lz,bad',hr',hW,R1⟩,ho,hg,tx⟩:=id hJ;obtain ⟨c0,c1,f0,f1⟩:=vN R1;have z0:=R1.lt;have htz:=tx.size
      go_wp2_with ((at_builtin;refine qg rfl _ _ _ rfl qmi ((w.heap.size+1)) _ rfl (qb ho L5) _ _ rfl ((qe (xs:=qb5 ⟨cg,Ag,cap⟩) rfl rfl)) ?_;intro A9 c9 w9 qmE qmL qmH hat9;have z9:=qmL.size;(try simp only [Li] at z9);(try simp only [Lo,Lg] at qmE));have hbA:Below Z.heap.size Z (Z.alloc (.cells (qb5 ⟨cg,Ag,cap⟩).toArray 71)):=L5;have R9:=(R1.below hbA R1.lt).below qmL (Nat.lt_succ_self _);have K9:=qlA (K2.below hbA K2.lt) qmH (qlo (K2.below hbA K2.lt) (qb ho hbA) L2);clear f0 f1 m0 m1 c0 c1;obtain ⟨c0,c1,f0,f1⟩:=vN R9;obtain ⟨m0,m1,-,-⟩:=vN K9)
      have hJ9:=TJ.next (x:=⟨cg,Ag,cap⟩) hJ hW1 (show (none:Option (List ByteArray))=y7 true [] from rfl) ho3 hbA qmH qmL qmE;refine ⟨⟨none,out++[⟨cg,Ag,cap⟩],f',A9,c9,?_,?_,?_,?_,?_,?_⟩,?_⟩
      ·rw [Lf];rfl
      ·exact hJ9
      ·exact fun x e=>by cases e
      ·rw [Lf];exact qnU
      ·exact fun x e=>by cases e
      ·exact HR3
      ·exact Nat.lt_of_le_of_lt (Nat.le_of_eq hJ9.left) (Nat.succ_pos _)
   | false =>
    as_aux_lemma =>
    have HR2:Hid (R=(endV r).map fun n=>(zo out,n)):=Lh (by rw [HR1.out,goV_end (contB_no hcb)]);clear HR1 hcb hf' qnQ hok;obtain ⟨E,hE⟩ : ∃ E,Hid (E=endT r):=⟨_,Lh rfl⟩
    have HR3:Hid (R=(E.2.bind fun t=>if t=[] then some E.1 else none).map fun n=>(zo out,n)):=Lh (by rw [HR2.out,endV,hE.out]);clear HR2
    go_upto_block 2 with fail
    go_cut [9] (fun v wx=>v = .int .i64 E.1/\TJ w E.2 out Ao co wx)
    case first =>
     as_aux_lemma =>
     clear HR3;obtain ⟨s1,hs1⟩ : ∃ b,Hid (b=qX r kZ):=⟨_,Lh rfl⟩
     obtain ⟨⟨A',n',c',l',bad',hr',hW,R1⟩,ho,hg,tx⟩:=id hJ;obtain ⟨c0,c1,f0,f1⟩:=vN R1;have z0:=R1.lt;have hBX:=tx.size;have HN:=Lh (tis_ r (.agg #[.slice A' n' c',.bool (!bad')]) kZ w.heap.size X ⟨A',n',c',l',bad',rfl,hW,hr'⟩ hBX);rw [<- hs1.out] at HN
     cases s1 with
     | true =>
      have hE2:Hid (E=(0,r.bind (skO kZ))):=Lh (by rw [hE.out,endT,<- hs1.out];rfl);clear hE hs1
      go_upto_region 15 with ((fail_if_success have:=hb1);go_at_call 60;refine HN.out.mono ?_;rintro e w1 ⟨rfl,hb1⟩;clear c0 c1 f0 f1;have R0:=R1.below hb1 R1.lt;obtain ⟨c0,c1,f0,f1⟩:=vN R0)
      clear HN;refine qa (TJ w r out Ao co) (hJ.on hb1) ?_;clear c0 c1 f0 f1 z0 hBX ho hg hW R1 tx hr';clear hJ
      (try clear hb1 R0)
      (try clear hW1 hr1)
      intro X hJ;obtain ⟨⟨A',n',c',l',bad',hr',hW,R1⟩,ho,hg,tx⟩:=id hJ;obtain ⟨c0,c1,f0,f1⟩:=vN R1;have z0:=R1.lt;have hBX:=tx.size;have HK:=Lh (j6 r (.agg #[.slice A' n' c',.bool (!bad')]) kZ w.heap.size X ⟨A',n',c',l',bad',rfl,hW,hr'⟩ hBX)
      go_wp2_with (go_at_call 63;refine HK.out.mono ?_;rintro e w1 ⟨A1,n1,cc,l1,qmK,rfl,hW1,hr1,hb1⟩;clear c0 c1 f0 f1;have R0:=R1.below hb1 R1.lt;obtain ⟨c0,c1,f0,f1⟩:=vN R0)
      go_meet;rw [hE2.out];exact ⟨rfl,(hJ.on hb1).turn hW1 hr1⟩
     | false =>
      have hE1:Hid (E=if qX r jN=true/\lenO r=1 then (1,r.bind (skO jN)) else ((qv (r.bind (skO jN))).1,if (qv (r.bind (skO jN))).1<2 then none else (qv (r.bind (skO jN))).2.bind (skO jG))):=Lh (by rw [hE.out,endT,<- hs1.out];rfl);clear hE hs1
      go_upto_region 16 with ((fail_if_success have:=hb1);go_at_call 60;refine HN.out.mono ?_;rintro e w1 ⟨rfl,hb1⟩;clear c0 c1 f0 f1;have R0:=R1.below hb1 R1.lt;obtain ⟨c0,c1,f0,f1⟩:=vN R0)
      clear HN;refine qa (TJ w r out Ao co) (hJ.on hb1) ?_;clear c0 c1 f0 f1 z0 hBX ho hg hW R1 tx hr';clear hJ
      (try clear hb1 R0)
      (try clear hW1 hr1)
      intro X hJ;obtain ⟨⟨A',n',c',l',bad',hr',hW,R1⟩,ho,hg,tx⟩:=id hJ;obtain ⟨c0,c1,f0,f1⟩:=vN R1;have z0:=R1.lt;have hBX:=tx.size;have HN:=Lh (tis_ r (.agg #[.slice A' n' c',.bool (!bad')]) jN w.heap.size X ⟨A',n',c',l',bad',rfl,hW,hr'⟩ hBX);have hln:=hW.len;obtain ⟨s2,hs2⟩ : ∃ b,Hid (b=qX r jN):=⟨_,Lh rfl⟩
      rw [<- hs2.out] at HN hE1;have HL1:Hid (s2=true->lenO r=n'):=Lh fun h=>by
       rw [hs2.out] at h;rw [hr'] at h ⊢
       cases bad' with
       | true=>cases h
       | false=>exact hln
      by_cases hc:s2=true/\lenO r=1
      ·as_aux_lemma =>
       have hE2:Hid (E=(1,r.bind (skO jN))):=Lh (by rw [hE1.out,if_pos hc]);have hn1:n'=1:=by rw [<- HL1.out hc.1];exact hc.2
       obtain rfl:=hc.1;have hni:((n':Int)==1)=true:=by rw [hn1];rfl
       clear hE1 hs2 HL1 hc hln hn1
       go_upto_region 17 with ((fail_if_success have:=hb1);go_at_call 60;refine HN.out.mono ?_;rintro e w1 ⟨rfl,hb1⟩;clear c0 c1 f0 f1;have R0:=R1.below hb1 R1.lt;obtain ⟨c0,c1,f0,f1⟩:=vN R0)
       clear HN hni;refine qa (TJ w r out Ao co) (hJ.on hb1) ?_;clear c0 c1 f0 f1 z0 hBX ho hg hW R1 tx hr';clear hJ
       (try clear hb1 R0)
       (try clear hW1 hr1)
       intro X hJ;obtain ⟨⟨A',n',c',l',bad',hr',hW,R1⟩,ho,hg,tx⟩:=id hJ;obtain ⟨c0,c1,f0,f1⟩:=vN R1;have z0:=R1.lt;have hBX:=tx.size;have HK:=Lh (j6 r (.agg #[.slice A' n' c',.bool (!bad')]) jN w.heap.size X ⟨A',n',c',l',bad',rfl,hW,hr'⟩ hBX)
       go_wp2_with (go_at_call 63;refine HK.out.mono ?_;rintro e w1 ⟨A1,n1,cc,l1,qmK,rfl,hW1,hr1,hb1⟩;clear c0 c1 f0 f1;have R0:=R1.below hb1 R1.lt;obtain ⟨c0,c1,f0,f1⟩:=vN R0)
       go_meet;rw [hE2.out];exact ⟨rfl,(hJ.on hb1).turn hW1 hr1⟩
      ·as_aux_lemma =>
       have hE2:Hid (E=((qv (r.bind (skO jN))).1,if (qv (r.bind (skO jN))).1<2 then none else (qv (r.bind (skO jN))).2.bind (skO jG))):=Lh (by rw [hE1.out,if_neg hc]);have HN2:Hid (s2=true->((n':Int)==1)=false):=Lh fun h=>Lm.2 fun e=>hc ⟨h,by rw [HL1.out h];omega⟩
       clear hE1 hs2 HL1 hc hln
       cases s2 with
       | false =>
        go_upto_region 10 with ((fail_if_success have:=hb1);go_at_call 60;refine HN.out.mono ?_;rintro e w1 ⟨rfl,hb1⟩;clear c0 c1 f0 f1;have R0:=R1.below hb1 R1.lt;obtain ⟨c0,c1,f0,f1⟩:=vN R0)
        clear HN HN2;refine qa (TJ w r out Ao co) (hJ.on hb1) ?_;clear c0 c1 f0 f1 z0 hBX ho hg hW R1 tx hr';clear hJ
        (try clear hb1 R0)
        (try clear hW1 hr1)
        intro X hJ;obtain ⟨⟨A',n',c',l',bad',hr',hW,R1⟩,ho,hg,tx⟩:=id hJ;obtain ⟨c0,c1,f0,f1⟩:=vN R1;have z0:=R1.lt;have hBX:=tx.size;obtain ⟨x,hx⟩ : ∃ x,Hid (x=qv (r.bind (skO jN))):=⟨_,Lh rfl⟩
        have hE3:Hid (E=(x.1,if x.1<2 then none else x.2.bind (skO jG))):=Lh (by rw [hE2.out,hx.out]);have HU:=Lh (qk5 r (.agg #[.slice A' n' c',.bool (!bad')]) jN w.heap.size X ⟨A',n',c',l',bad',rfl,hW,hr'⟩ hBX (HT.out.below tx));rw [<- hx.out] at HU;clear hE2 hx
        go_upto_region 11 with (go_at_call 64;refine HU.out.mono ?_;rintro e w1 ⟨A1,n1,cc,l1,qmK,rfl,hW1,hr1,hb1⟩;clear c0 c1 f0 f1;have R0:=R1.below hb1 R1.lt;obtain ⟨c0,c1,f0,f1⟩:=vN R0)
        clear HU;refine qa (TJ w x.2 out Ao co) ((hJ.on hb1).turn hW1 hr1) ?_;clear c0 c1 f0 f1 z0 hBX ho hg hW R1 tx hr';clear hJ
        (try clear hb1 R0)
        (try clear hW1 hr1)
        intro X hJ;obtain ⟨⟨A',n',c',l',bad',hr',hW,R1⟩,ho,hg,tx⟩:=id hJ;obtain ⟨c0,c1,f0,f1⟩:=vN R1;have z0:=R1.lt;have hBX:=tx.size;have HK:=Lh (j6 x.2 (.agg #[.slice A' n' c',.bool (!bad')]) jG w.heap.size X ⟨A',n',c',l',bad',rfl,hW,hr'⟩ hBX)
        go_upto_region 12 with (go_at_call 63;refine HK.out.mono ?_;rintro e w1 ⟨A1,n1,cc,l1,qmK,rfl,hW1,hr1,hb1⟩;clear c0 c1 f0 f1;have R0:=R1.below hb1 R1.lt;obtain ⟨c0,c1,f0,f1⟩:=vN R0)
        clear HK;refine qa (TJ w (x.2.bind (skO jG)) out Ao co) ((hJ.on hb1).turn hW1 hr1) ?_;clear c0 c1 f0 f1 z0 hBX ho hg hW R1 tx hr';clear hJ
        (try clear hb1 R0)
        (try clear hW1 hr1)
        intro X hJ;obtain ⟨⟨A',n',c',l',bad',hr',hW,R1⟩,ho,hg,tx⟩:=id hJ;obtain ⟨c0,c1,f0,f1⟩:=vN R1;have z0:=R1.lt;have hBX:=tx.size;obtain ⟨xn,xr⟩:=x;dsimp only at *
        by_cases h2:xn<2
        ·go_wp2;go_meet;rw [hE3.out,if_pos h2];exact ⟨rfl,hJ.turn (bad:=true) (lr:=[]) (WdR.nil X _) rfl⟩
        ·go_wp2;go_meet;rw [hE3.out,if_neg (show ¬ xn<2 by omega)];exact ⟨rfl,hJ⟩
       | true =>
        have hni:=HN2.out rfl
        go_upto_region 10 with ((fail_if_success have:=hb1);go_at_call 60;refine HN.out.mono ?_;rintro e w1 ⟨rfl,hb1⟩;clear c0 c1 f0 f1;have R0:=R1.below hb1 R1.lt;obtain ⟨c0,c1,f0,f1⟩:=vN R0)
        clear HN HN2 hni;refine qa (TJ w r out Ao co) (hJ.on hb1) ?_;clear c0 c1 f0 f1 z0 hBX ho hg hW R1 tx hr';clear hJ
        (try clear hb1 R0)
        (try clear hW1 hr1)
        intro X hJ;obtain ⟨⟨A',n',c',l',bad',hr',hW,R1⟩,ho,hg,tx⟩:=id hJ;obtain ⟨c0,c1,f0,f1⟩:=vN R1;have z0:=R1.lt;have hBX:=tx.size;obtain ⟨x,hx⟩ : ∃ x,Hid (x=qv (r.bind (skO jN))):=⟨_,Lh rfl⟩
        have hE3:Hid (E=(x.1,if x.1<2 then none else x.2.bind (skO jG))):=Lh (by rw [hE2.out,hx.out]);have HU:=Lh (qk5 r (.agg #[.slice A' n' c',.bool (!bad')]) jN w.heap.size X ⟨A',n',c',l',bad',rfl,hW,hr'⟩ hBX (HT.out.below tx));rw [<- hx.out] at HU;clear hE2 hx
        go_upto_region 11 with (go_at_call 64;refine HU.out.mono ?_;rintro e w1 ⟨A1,n1,cc,l1,qmK,rfl,hW1,hr1,hb1⟩;clear c0 c1 f0 f1;have R0:=R1.below hb1 R1.lt;obtain ⟨c0,c1,f0,f1⟩:=vN R0)
        clear HU;refine qa (TJ w x.2 out Ao co) ((hJ.on hb1).turn hW1 hr1) ?_;clear c0 c1 f0 f1 z0 hBX ho hg hW R1 tx hr';clear hJ
        (try clear hb1 R0)
        (try clear hW1 hr1)
        intro X hJ;obtain ⟨⟨A',n',c',l',bad',hr',hW,R1⟩,ho,hg,tx⟩:=id hJ;obtain ⟨c0,c1,f0,f1⟩:=vN R1;have z0:=R1.lt;have hBX:=tx.size;have HK:=Lh (j6 x.2 (.agg #[.slice A' n' c',.bool (!bad')]) jG w.heap.size X ⟨A',n',c',l',bad',rfl,hW,hr'⟩ hBX)
        go_upto_region 12 with (go_at_call 63;refine HK.out.mono ?_;rintro e w1 ⟨A1,n1,cc,l1,qmK,rfl,hW1,hr1,hb1⟩;clear c0 c1 f0 f1;have R0:=R1.below hb1 R1.lt;obtain ⟨c0,c1,f0,f1⟩:=vN R0)
        clear HK;refine qa (TJ w (x.2.bind (skO jG)) out Ao co) ((hJ.on hb1).turn hW1 hr1) ?_;clear c0 c1 f0 f1 z0 hBX ho hg hW R1 tx hr';clear hJ
        (try clear hb1 R0)
        (try clear hW1 hr1)
        intro X hJ;obtain ⟨⟨A',n',c',l',bad',hr',hW,R1⟩,ho,hg,tx⟩:=id hJ;obtain ⟨c0,c1,f0,f1⟩:=vN R1;have z0:=R1.lt;have hBX:=tx.size;obtain ⟨xn,xr⟩:=x;dsimp only at *
        by_cases h2:xn<2
        ·go_wp2;go_meet;rw [hE3.out,if_pos h2];exact ⟨rfl,hJ.turn (bad:=true) (lr:=[]) (WdR.nil X _) rfl⟩
        ·go_wp2;go_meet;rw [hE3.out,if_neg (show ¬ xn<2 by omega)];exact ⟨rfl,hJ⟩
    case rest =>
     as_aux_lemma =>
     clear hJ hE;obtain ⟨rfl,hJ⟩:=hcut;obtain ⟨N,r3⟩:=E;dsimp only at hJ HR3;obtain ⟨⟨A',n',c',l',bad',hr',hW,R1⟩,ho,hg,tx⟩:=id hJ;obtain ⟨c0,c1,f0,f1⟩:=vN R1;have z0:=R1.lt;have hBX:=tx.size;have hln:=hW.len
     cases bad' with
     | true =>
      replace c1:wc.cell? ⟨w.heap.size,1,none⟩=some (.bool false):=c1;have HR4:Hid (R=none):=Lh (by rw [HR3.out,hr'];rfl);clear HR3 hr';go_wp2;go_ret3;rw [HR4.out];exact ⟨tx.alloc hBX _,_,rfl⟩
     | false =>
      replace c1:wc.cell? ⟨w.heap.size,1,none⟩=some (.bool true):=c1
      by_cases hn:n'=0
      ·have HR4:Hid (R=some (zo out,N)):=Lh (by rw [HR3.out,hr',List.length_eq_zero_iff.1 (hln.trans hn)];rfl);subst hn;clear HR3 hr';go_wp2;go_ret3;rw [HR4.out];exact ⟨tx,out,Ao,co,rfl,rfl,qt ho L0,hg.less L0⟩
      ·have hne:l'≠[]:=fun e=>hn (by rw [<- hln,e];rfl)
       have HR4:Hid (R=none):=Lh (by rw [HR3.out,hr'];show ((if l'=[] then some N else none).map _)=none;rw [if_neg hne];rfl);have hi:(0:Int)<n':=by omega
       clear HR3 hr' hn hne;go_wp2;go_ret3;rw [HR4.out];exact ⟨tx.alloc hBX _,_,rfl⟩
theorem qdz (m:Md):vu m=(decide (js m.view=0)&&(decide (0<=m.upd)&&decide (m.upd<=1099511627776))):=by
 unfold vu MaxT;rw [Bool.decide_and,Bool.decide_and]
theorem qnr (m:Md) (A:Option Addr) (n c B:Nat) (rs:List RowM) (w:World) (rd:RdV w B m.view A n c rs) (hB:B<=w.heap.size) (hz : ∀ x∈rs,x.l.length<=1000000000/\∀ g∈x.l,g.text.size<=1000000000) (hu:U8 w) :
  Calls prog 17 #[.agg (mdC m A n c)] w (qh (.bool (vu m)) w):=by
 have HC:Hid (∀ w',Below w.heap.size w w'->Calls prog 28 #[.agg (vwC m.view A n c)] w' (qh (.int .i64 (js m.view)) w')):=Lh fun w' hb=>qig _ _ _ _ w.heap.size _ _ ((rd.more hB).below hb) hb.size hz (hu.below hb)
 clear rd hz hu;obtain ⟨⟨W,H,rows,r,cl,vs⟩,U⟩:=m;dsimp only at HC;rw [qdz];dsimp only;generalize js ⟨W,H,rows,r,cl,vs⟩=V at *
 have h1:(V==0)=decide (V=0):=by rw [Bool.eq_iff_iff];simp
 by_cases hv:V=0
 ·have e1:(V==0)=true:=beq_iff_eq.2 hv;rw [Ll hv];clear h1 hv
  by_cases hu:0<=U
  ·by_cases ht:U<=1099511627776
   ·have hu':decide (0<=U)=true:=Ll hu;have ht':decide (U<=1099511627776)=true:=Ll ht;rw [hu',ht'];clear hu ht
    go_enter func17,ntmps17
    go_upto_region 1 with fail
    refine qa (fun X=>Blk X w.heap.size 26 (mdC ⟨⟨W,H,rows,r,cl,vs⟩,U⟩ A n c)/\Below w.heap.size w X) ⟨Blk.new_ rfl,L5⟩ ?_;rintro X ⟨hM,hb⟩;have c0:X.cell? ⟨w.heap.size,0,none⟩=some (.int .i64 W):=hM.cell 0;have c1:X.cell? ⟨w.heap.size,1,none⟩=some (.int .i64 H):=hM.cell 1;have c2:X.cell? ⟨w.heap.size,2,none⟩=some (.slice A n c):=hM.cell 2;have c3:X.cell? ⟨w.heap.size,3,none⟩=some (.int .i64 r):=hM.cell 3;have c4:X.cell? ⟨w.heap.size,4,none⟩=some (.int .i64 cl):=hM.cell 4;have c5:X.cell? ⟨w.heap.size,5,none⟩=some (.bool vs):=hM.cell 5;have c6:X.cell? ⟨w.heap.size,6,none⟩=some (.int .i64 U):=hM.cell 6;have hl:=hM.lt;clear hM
    go_wp2_with (go_at_call 28;refine (HC.out _ hb).mono ?_;rintro e w1 ⟨rfl,hb1⟩;have d6:=(hb1.cell (p:=⟨w.heap.size,6,none⟩) hl).trans c6)
    go_ret;exact ⟨rfl,hb.trans (hb1.mono hb.size)⟩
   ·have hu':decide (0<=U)=true:=Ll hu;have ht':decide (U<=1099511627776)=false:=Lk ht;rw [hu',ht'];clear hu ht
    go_enter func17,ntmps17
    go_upto_region 1 with fail
    refine qa (fun X=>Blk X w.heap.size 26 (mdC ⟨⟨W,H,rows,r,cl,vs⟩,U⟩ A n c)/\Below w.heap.size w X) ⟨Blk.new_ rfl,L5⟩ ?_;rintro X ⟨hM,hb⟩;have c0:X.cell? ⟨w.heap.size,0,none⟩=some (.int .i64 W):=hM.cell 0;have c1:X.cell? ⟨w.heap.size,1,none⟩=some (.int .i64 H):=hM.cell 1;have c2:X.cell? ⟨w.heap.size,2,none⟩=some (.slice A n c):=hM.cell 2;have c3:X.cell? ⟨w.heap.size,3,none⟩=some (.int .i64 r):=hM.cell 3;have c4:X.cell? ⟨w.heap.size,4,none⟩=some (.int .i64 cl):=hM.cell 4;have c5:X.cell? ⟨w.heap.size,5,none⟩=some (.bool vs):=hM.cell 5;have c6:X.cell? ⟨w.heap.size,6,none⟩=some (.int .i64 U):=hM.cell 6;have hl:=hM.lt;clear hM
    go_wp2_with (go_at_call 28;refine (HC.out _ hb).mono ?_;rintro e w1 ⟨rfl,hb1⟩;have d6:=(hb1.cell (p:=⟨w.heap.size,6,none⟩) hl).trans c6)
    go_ret;exact ⟨rfl,hb.trans (hb1.mono hb.size)⟩
  ·have hu':decide (0<=U)=false:=Lk hu;rw [hu'];clear hu
   go_enter func17,ntmps17
   go_upto_region 1 with fail
   refine qa (fun X=>Blk X w.heap.size 26 (mdC ⟨⟨W,H,rows,r,cl,vs⟩,U⟩ A n c)/\Below w.heap.size w X) ⟨Blk.new_ rfl,L5⟩ ?_;rintro X ⟨hM,hb⟩;have c0:X.cell? ⟨w.heap.size,0,none⟩=some (.int .i64 W):=hM.cell 0;have c1:X.cell? ⟨w.heap.size,1,none⟩=some (.int .i64 H):=hM.cell 1;have c2:X.cell? ⟨w.heap.size,2,none⟩=some (.slice A n c):=hM.cell 2;have c3:X.cell? ⟨w.heap.size,3,none⟩=some (.int .i64 r):=hM.cell 3;have c4:X.cell? ⟨w.heap.size,4,none⟩=some (.int .i64 cl):=hM.cell 4;have c5:X.cell? ⟨w.heap.size,5,none⟩=some (.bool vs):=hM.cell 5;have c6:X.cell? ⟨w.heap.size,6,none⟩=some (.int .i64 U):=hM.cell 6;have hl:=hM.lt;clear hM
   go_wp2_with (go_at_call 28;refine (HC.out _ hb).mono ?_;rintro e w1 ⟨rfl,hb1⟩;have d6:=(hb1.cell (p:=⟨w.heap.size,6,none⟩) hl).trans c6)
   go_ret;exact ⟨rfl,hb.trans (hb1.mono hb.size)⟩
 ·have e1:(V==0)=false:=Lm.2 hv;rw [Lk hv];clear h1 hv
  go_enter func17,ntmps17
  go_upto_region 1 with fail
  refine qa (fun X=>Blk X w.heap.size 26 (mdC ⟨⟨W,H,rows,r,cl,vs⟩,U⟩ A n c)/\Below w.heap.size w X) ⟨Blk.new_ rfl,L5⟩ ?_;rintro X ⟨hM,hb⟩;have c0:X.cell? ⟨w.heap.size,0,none⟩=some (.int .i64 W):=hM.cell 0;have c1:X.cell? ⟨w.heap.size,1,none⟩=some (.int .i64 H):=hM.cell 1;have c2:X.cell? ⟨w.heap.size,2,none⟩=some (.slice A n c):=hM.cell 2;have c3:X.cell? ⟨w.heap.size,3,none⟩=some (.int .i64 r):=hM.cell 3;have c4:X.cell? ⟨w.heap.size,4,none⟩=some (.int .i64 cl):=hM.cell 4;have c5:X.cell? ⟨w.heap.size,5,none⟩=some (.bool vs):=hM.cell 5;have c6:X.cell? ⟨w.heap.size,6,none⟩=some (.int .i64 U):=hM.cell 6;have hl:=hM.lt;clear hM
  go_wp2_with (go_at_call 28;refine (HC.out _ hb).mono ?_;rintro e w1 ⟨rfl,hb1⟩;have d6:=(hb1.cell (p:=⟨w.heap.size,6,none⟩) hl).trans c6)
  go_ret;exact ⟨rfl,hb.trans (hb1.mono hb.size)⟩
theorem qbM (m:Md) (A:Option Addr) (n c B:Nat) (rs:List RowM) (w:World) (rd:RdV w B m.view A n c rs) (hB:B<=w.heap.size) (hz : ∀ x∈rs,x.l.length<=1000000000/\∀ g∈x.l,g.text.size<=1000000000) :
  Calls prog 20 #[.agg (mdC m A n c)] w (qh (.bool (vu m)) w):=by
 have HC:Hid (∀ w',Below w.heap.size w w'->Calls prog 34 #[.agg (vwC m.view A n c)] w' (qh (.int .i64 (js m.view)) w')):=Lh fun w' hb=>qjk _ _ _ _ w.heap.size _ _ ((rd.more hB).below hb) hb.size hz
 clear rd hz;obtain ⟨⟨W,H,rows,r,cl,vs⟩,U⟩:=m;dsimp only at HC;rw [qdz];dsimp only;generalize js ⟨W,H,rows,r,cl,vs⟩=V at *
 have h1:(V==0)=decide (V=0):=by rw [Bool.eq_iff_iff];simp
 by_cases hv:V=0
 ·have e1:(V==0)=true:=beq_iff_eq.2 hv;rw [Ll hv];clear h1 hv
  by_cases hu:0<=U
  ·by_cases ht:U<=1099511627776
   ·have hu':decide (0<=U)=true:=Ll hu;have ht':decide (U<=1099511627776)=true:=Ll ht;rw [hu',ht'];clear hu ht
    go_enter func20,ntmps20
    go_upto_region 1 with fail
    refine qa (fun X=>Blk X w.heap.size 26 (mdC ⟨⟨W,H,rows,r,cl,vs⟩,U⟩ A n c)/\Below w.heap.size w X) ⟨Blk.new_ rfl,L5⟩ ?_;rintro X ⟨hM,hb⟩;have c0:X.cell? ⟨w.heap.size,0,none⟩=some (.int .i64 W):=hM.cell 0;have c1:X.cell? ⟨w.heap.size,1,none⟩=some (.int .i64 H):=hM.cell 1;have c2:X.cell? ⟨w.heap.size,2,none⟩=some (.slice A n c):=hM.cell 2;have c3:X.cell? ⟨w.heap.size,3,none⟩=some (.int .i64 r):=hM.cell 3;have c4:X.cell? ⟨w.heap.size,4,none⟩=some (.int .i64 cl):=hM.cell 4;have c5:X.cell? ⟨w.heap.size,5,none⟩=some (.bool vs):=hM.cell 5;have c6:X.cell? ⟨w.heap.size,6,none⟩=some (.int .i64 U):=hM.cell 6;have hl:=hM.lt;clear hM
    go_wp2_with (go_at_call 34;refine (HC.out _ hb).mono ?_;rintro e w1 ⟨rfl,hb1⟩;have d6:=(hb1.cell (p:=⟨w.heap.size,6,none⟩) hl).trans c6)
    go_ret;exact ⟨rfl,hb.trans (hb1.mono hb.size)⟩
   ·have hu':decide (0<=U)=true:=Ll hu;have ht':decide (U<=1099511627776)=false:=Lk ht;rw [hu',ht'];clear hu ht
    go_enter func20,ntmps20
    go_upto_region 1 with fail
    refine qa (fun X=>Blk X w.heap.size 26 (mdC ⟨⟨W,H,rows,r,cl,vs⟩,U⟩ A n c)/\Below w.heap.size w X) ⟨Blk.new_ rfl,L5⟩ ?_;rintro X ⟨hM,hb⟩;have c0:X.cell? ⟨w.heap.size,0,none⟩=some (.int .i64 W):=hM.cell 0;have c1:X.cell? ⟨w.heap.size,1,none⟩=some (.int .i64 H):=hM.cell 1;have c2:X.cell? ⟨w.heap.size,2,none⟩=some (.slice A n c):=hM.cell 2;have c3:X.cell? ⟨w.heap.size,3,none⟩=some (.int .i64 r):=hM.cell 3;have c4:X.cell? ⟨w.heap.size,4,none⟩=some (.int .i64 cl):=hM.cell 4;have c5:X.cell? ⟨w.heap.size,5,none⟩=some (.bool vs):=hM.cell 5;have c6:X.cell? ⟨w.heap.size,6,none⟩=some (.int .i64 U):=hM.cell 6;have hl:=hM.lt;clear hM
    go_wp2_with (go_at_call 34;refine (HC.out _ hb).mono ?_;rintro e w1 ⟨rfl,hb1⟩;have d6:=(hb1.cell (p:=⟨w.heap.size,6,none⟩) hl).trans c6)
    go_ret;exact ⟨rfl,hb.trans (hb1.mono hb.size)⟩
  ·have hu':decide (0<=U)=false:=Lk hu;rw [hu'];clear hu
   go_enter func20,ntmps20
   go_upto_region 1 with fail
   refine qa (fun X=>Blk X w.heap.size 26 (mdC ⟨⟨W,H,rows,r,cl,vs⟩,U⟩ A n c)/\Below w.heap.size w X) ⟨Blk.new_ rfl,L5⟩ ?_;rintro X ⟨hM,hb⟩;have c0:X.cell? ⟨w.heap.size,0,none⟩=some (.int .i64 W):=hM.cell 0;have c1:X.cell? ⟨w.heap.size,1,none⟩=some (.int .i64 H):=hM.cell 1;have c2:X.cell? ⟨w.heap.size,2,none⟩=some (.slice A n c):=hM.cell 2;have c3:X.cell? ⟨w.heap.size,3,none⟩=some (.int .i64 r):=hM.cell 3;have c4:X.cell? ⟨w.heap.size,4,none⟩=some (.int .i64 cl):=hM.cell 4;have c5:X.cell? ⟨w.heap.size,5,none⟩=some (.bool vs):=hM.cell 5;have c6:X.cell? ⟨w.heap.size,6,none⟩=some (.int .i64 U):=hM.cell 6;have hl:=hM.lt;clear hM
   go_wp2_with (go_at_call 34;refine (HC.out _ hb).mono ?_;rintro e w1 ⟨rfl,hb1⟩;have d6:=(hb1.cell (p:=⟨w.heap.size,6,none⟩) hl).trans c6)
   go_ret;exact ⟨rfl,hb.trans (hb1.mono hb.size)⟩
 ·have e1:(V==0)=false:=Lm.2 hv;rw [Lk hv];clear h1 hv
  go_enter func20,ntmps20
  go_upto_region 1 with fail
  refine qa (fun X=>Blk X w.heap.size 26 (mdC ⟨⟨W,H,rows,r,cl,vs⟩,U⟩ A n c)/\Below w.heap.size w X) ⟨Blk.new_ rfl,L5⟩ ?_;rintro X ⟨hM,hb⟩;have c0:X.cell? ⟨w.heap.size,0,none⟩=some (.int .i64 W):=hM.cell 0;have c1:X.cell? ⟨w.heap.size,1,none⟩=some (.int .i64 H):=hM.cell 1;have c2:X.cell? ⟨w.heap.size,2,none⟩=some (.slice A n c):=hM.cell 2;have c3:X.cell? ⟨w.heap.size,3,none⟩=some (.int .i64 r):=hM.cell 3;have c4:X.cell? ⟨w.heap.size,4,none⟩=some (.int .i64 cl):=hM.cell 4;have c5:X.cell? ⟨w.heap.size,5,none⟩=some (.bool vs):=hM.cell 5;have c6:X.cell? ⟨w.heap.size,6,none⟩=some (.int .i64 U):=hM.cell 6;have hl:=hM.lt;clear hM
  go_wp2_with (go_at_call 34;refine (HC.out _ hb).mono ?_;rintro e w1 ⟨rfl,hb1⟩;have d6:=(hb1.cell (p:=⟨w.heap.size,6,none⟩) hl).trans c6)
  go_ret;exact ⟨rfl,hb.trans (hb1.mono hb.size)⟩
theorem qmf {w:World} {B B' n c:Nat} {l:List ByteArray} {A:Option Addr} (h:WdR w B l A n c) (hb:B<=B'):WdR w B' l A n c:=⟨h.len,h.cap,h.max,h.rd.more hb,h.sz⟩
structure Few (cs:List Chg) (n:Int):Prop where
 len:cs.length<=1000000
 gl : ∀ c∈cs,c.glyphs.length<=100000000/\∀ g∈c.glyphs,g.text.size<=1000000000
 sum:glN cs<=99999000
 num:0<=n/\n<=1099511627776
def HrX (w:World) (m:Md) (A:Option Addr) (n c:Nat) (X:World):Prop:=Blk X w.heap.size 26 (mdC m A n c)/\ZM X (w.heap.size+1)/\Below w.heap.size w X
theorem HrX.on {w X X':World} {m:Md} {A:Option Addr} {n c:Nat} (h:HrX w m A n c X) (hb:Below X.heap.size X X'):HrX w m A n c X':=by
 have h1:=h.1.lt;exact ⟨h.1.below hb h1,h.2.1.below hb h.2.1.lt,h.2.2.trans (hb.mono (Lr h1))⟩
theorem HrX.facts {w X:World} {W H r cl U:Int} {rows:List (List Gl)} {vs:Bool} {A:Option Addr} {n c:Nat} (h:HrX w ⟨⟨W,H,rows,r,cl,vs⟩,U⟩ A n c X) :
  X.cell? ⟨w.heap.size,0,none⟩=some (.int .i64 W)/\X.cell? ⟨w.heap.size,1,none⟩=some (.int .i64 H)/\X.cell? ⟨w.heap.size,2,none⟩=some (.slice A n c)/\X.cell? ⟨w.heap.size,3,none⟩=some (.int .i64 r)/\X.cell? ⟨w.heap.size,4,none⟩=some (.int .i64 cl)/\X.cell? ⟨w.heap.size,5,none⟩=some (.bool vs)/\X.cell? ⟨w.heap.size,6,none⟩=some (.int .i64 U)/\w.heap.size+1<X.heap.size/\Below w.heap.size w X :=
 ⟨h.1.cell 0,h.1.cell 1,h.1.cell 2,h.1.cell 3,h.1.cell 4,h.1.cell 5,h.1.cell 6,h.2.1.lt,h.2.2⟩
theorem hear_ (m:Md) (A:Option Addr) (n c B:Nat) (rs:List RowM) (l:List ByteArray) (Aw:Option Addr) (nw cw:Nat) (w:World) (rd:RdV w B m.view A n c rs) (hB:B<=w.heap.size) (hM : ∀ x∈rs,x.l.length<=1000) (hz : ∀ x∈rs,∀ g∈x.l,g.text.size<=1000000000)
  (hW:WdR w w.heap.size l Aw nw cw) (hl:l.length<=850000) (hF : ∀ cs k,jm l=some (cs,k)->Few cs k) (hs:Sp w) (hu:U8 w) (hy:Sty w) :
  Calls prog 14 #[.agg (mdC m A n c),.slice Aw nw cw] w (MdR (yT m l) w):=by
 have HP:Hid (∀ w',Below w.heap.size w w'->Calls prog 17 #[.agg (mdC m A n c)] w' (qh (.bool (vu m)) w')):=Lh fun w' hb=>qnr m A n c w.heap.size rs w' ((rd.more hB).below hb) hb.size (fun x hx=>⟨Lj (hM x hx) L2,hz x hx⟩) (hu.below hb)
 have HC:Hid (∀ w',Below w.heap.size w w'->Calls prog 25 #[.slice Aw nw cw] w' (ChR (jm l) w')):=Lh fun w' hb=>qkg l Aw nw cw w' (qmf (hW.below hb) hb.size) hl (hs.below hb (Ld _)) (hu.below hb) (hy.below hb (Ld _))
 have HA:Hid (∀ cs out Ac nc cc w',Below w.heap.size w w'->(∃ k,Few cs k)->zo out=cs->RdC w' w'.heap.size Ac nc out->nc<=cc->Calls prog 18 #[.agg (vwC m.view A n c),.slice Ac nc cc] w' (ApR (yx m.view cs) w')):=Lh fun cs out Ac nc cc w' hb ⟨k,hf⟩ he hr hcc=>by
  subst he;have h1 : ∀ x∈out,x.c∈zo out:=fun x hx=>List.mem_map_of_mem hx
  have h2:=hr.len;have h3:=hf.len;rw [zo,Lq] at h3;exact apply_ m.view A n c w'.heap.size rs out Ac nc cc w' (((rd.more hB).below hb).more hb.size) hr hcc (Ld _) (fun x hx=>by have:=hM x hx;have:=hf.sum;omega) hz (fun x hx=>hf.gl _ (h1 x hx)) L0 (hu.below hb)
 have HF:=Lh hF;unfold yT MaxT;clear rd hM hz hW hF hs hu hy;obtain ⟨⟨W,H,rows,r,cl,vs⟩,U⟩:=m;dsimp only at HP HA ⊢;have hpr:vu ⟨⟨W,H,rows,r,cl,vs⟩,U⟩=true->0<=U/\U<=1099511627776:=fun h=>by
  unfold vu MaxT at h;exact (of_decide_eq_true h).2
 generalize vu ⟨⟨W,H,rows,r,cl,vs⟩,U⟩=P at *
 cases P with
 | false =>
  rw [if_pos rfl];clear HC HA HF hpr
  go_enter func14,ntmps14
  go_upto_region 1 with fail
  refine qa (HrX w ⟨⟨W,H,rows,r,cl,vs⟩,U⟩ A n c) ⟨(Blk.new_ rfl).below L5 L1,Blk.new_ L1,(L5).alloc L1 _⟩ ?_;intro X hX;obtain ⟨c0,c1,c2,c3,c4,c5,c6,hl,hb⟩:=hX.facts
  go_upto_region 2 with (go_at_call 17;refine (HP.out _ hb).mono ?_;rintro e w1 ⟨rfl,hb1⟩;have hX1:=hX.on hb1;have qnS:=hX1.2.2)
  have hZ:=hX1.2.1;obtain ⟨z0,z1,z2,z3,z4,z5,z6,y0,y1,y2,y3,y4,y5,y6⟩:=ZM.facts hZ;go_wp2;exact bodyPost_ret (vG rfl _ _ (w.heap.size+1) 26 _ (0,0) _ rfl (ZM.set7 hX1.2.1 md0 none 0 0) underlying26 rfl yy) rfl ⟨yX hX1.2.2 (Nat.le_succ _) md0 none 0 0,none,0,0,[],rfl,OwV.none_ _ _⟩
 | true =>
  rw [if_neg L1];have hU:=hpr rfl;clear hpr;generalize jm l=o at *
  cases o with
  | none =>
   dsimp only;clear HA HF;have h17:((17:Int) != 0)=true:=rfl
   go_enter func14,ntmps14
   go_upto_region 1 with fail
   refine qa (HrX w ⟨⟨W,H,rows,r,cl,vs⟩,U⟩ A n c) ⟨(Blk.new_ rfl).below L5 L1,Blk.new_ L1,(L5).alloc L1 _⟩ ?_;intro X hX;obtain ⟨c0,c1,c2,c3,c4,c5,c6,hl,hb⟩:=hX.facts
   go_upto_region 4 with (first | (go_at_call 17;refine (HP.out _ hb).mono ?_;rintro e w1 ⟨rfl,hb1⟩;have hX1:=hX.on hb1;have qnS:=hX1.2.2) | (go_at_call 25;refine (HC.out _ qnS).mono ?_;rintro e w2 ⟨hb2,rfl⟩;have hX2:=hX1.on hb2))
   have hZ:=hX2.2.1;obtain ⟨z0,z1,z2,z3,z4,z5,z6,y0,y1,y2,y3,y4,y5,y6⟩:=ZM.facts hZ;go_wp2;exact bodyPost_ret (vG rfl _ _ (w.heap.size+1) 26 _ (0,0) _ rfl (ZM.set7 hX2.2.1 md0 none 0 0) underlying26 rfl yy) rfl ⟨yX hX2.2.2 (Nat.le_succ _) md0 none 0 0,none,0,0,[],rfl,OwV.none_ _ _⟩
  | some x =>
   obtain ⟨cs,k⟩:=x;have hf:=HF.out cs k rfl;have hk:=hf.num;have HA2:Hid (∀ out Ac nc cc w',Below w.heap.size w w'->zo out=cs->RdC w' w'.heap.size Ac nc out->nc<=cc->Calls prog 18 #[.agg (vwC ⟨W,H,rows,r,cl,vs⟩ A n c),.slice Ac nc cc] w' (ApR (yx ⟨W,H,rows,r,cl,vs⟩ cs) w')):=Lh fun out Ac nc cc w' hb he hr hcc=>HA.out cs out Ac nc cc w' hb ⟨k,hf⟩ he hr hcc
   clear HA HF hf;dsimp only;generalize yx ⟨W,H,rows,r,cl,vs⟩ cs=R at *
   obtain ⟨⟨vw,vh,vr,vy,vx,vv⟩,E⟩:=R;dsimp only;obtain ⟨RR,hRR⟩ : ∃ RR,Hid ((if E≠0 then (md0,E) else if 1099511627776<U+k then (md0,5) else ((⟨⟨vw,vh,vr,vy,vx,vv⟩,U+k⟩:Md),(0:Int)))=RR):=⟨_,Lh rfl⟩
   rw [hRR.out];have h00:((0:Int) != 0)=false:=rfl;have hwr:IntKind.i64.wrap (U+k)=U+k:=by rw [Lx];omega
   go_enter func14,ntmps14
   go_upto_region 1 with fail
   refine qa (HrX w ⟨⟨W,H,rows,r,cl,vs⟩,U⟩ A n c) ⟨(Blk.new_ rfl).below L5 L1,Blk.new_ L1,(L5).alloc L1 _⟩ ?_;intro X hX;obtain ⟨c0,c1,c2,c3,c4,c5,c6,hl,hb⟩:=hX.facts
   go_upto_region 4 with (first | (go_at_call 17;refine (HP.out _ hb).mono ?_;rintro e w1 ⟨rfl,hb1⟩;have hX1:=hX.on hb1;have qnS:=hX1.2.2) | (go_at_call 25;refine (HC.out _ qnS).mono ?_;rintro e w2 ⟨hb2,out,Ac,cc,he,rfl,ho,hg⟩))
   have hX2:=hX1.on hb2;have hAp:Hid (Calls prog 18 #[.agg (vwC ⟨W,H,rows,r,cl,vs⟩ A n c),.slice Ac out.length cc] w2 fun e w''=>∃ A n c rs,∃ i:Int,e = .returned (.tuple #[.agg #[.int .i64 vw,.int .i64 vh,.slice A n c,.int .i64 vy,.int .i64 vx,.bool vv],.int .i64 i,.int .i64 E])/\OwV w2.heap.size w'' ⟨vw,vh,vr,vy,vx,vv⟩ A n c rs/\Below w2.heap.size w2 w'') :=
    Lh ((HA2.out out Ac out.length cc w2 hX2.2.2 he (hg.rdc ho) (qas ho).1).mono fun e w'' ⟨h1,A,n,c,rs,i,h2,h3⟩=>⟨A,n,c,rs,i,h2,h3,h1⟩)
   generalize out.length=no at *
   clear HP HC HA2 hg ho he hX1 hX hb1 qnS hb2 c0 c1 c2 c3 c4 c5 c6 hl hb;obtain ⟨d0,d1,d2,d3,d4,d5,d6,hlY,hbY⟩:=HrX.facts hX2
   by_cases hE:E=0
   ·subst hE;have hR1:=hRR.out;rw [if_neg (show ¬ ((0:Int)≠0) from fun h=>h rfl)] at hR1;have hRz:=Lh hR1;clear hRR hR1
    go_upto_region 7 with (go_at_call 18;refine hAp.out.mono ?_;rintro e w3 ⟨A3,n3,e3,rs3,i3,rfl,hv,hb3⟩)
    have hzz:=hb3.size;refine qa (fun Y=>Below w2.heap.size w2 Y/\OwV w2.heap.size Y ⟨vw,vh,vr,vy,vx,vv⟩ A3 n3 e3 rs3/\Blk Y w3.heap.size 24 (vwC ⟨vw,vh,vr,vy,vx,vv⟩ A3 n3 e3)) ⟨hb3.alloc hb3.size _,hv.below L5,Blk.new_ rfl⟩ ?_;rintro Y ⟨hY,hoY,hBY⟩;have hX3:=hX2.on hY;have hZ:=hX3.2.1;obtain ⟨z0,z1,z2,z3,z4,z5,z6,y0,y1,y2,y3,y4,y5,y6⟩:=ZM.facts hZ;have hl2:w.heap.size+1<w2.heap.size:=hlY;clear hX2 d0 d1 d2 d3 d4 d5 d6 hlY hbY;obtain ⟨d0,d1,d2,d3,d4,d5,d6,hlY,hbY⟩:=HrX.facts hX3;clear d0 d1 d2 d3 d4 d5;obtain ⟨v0,v1,v2,v3,v4,v5⟩:=qw hBY;dsimp only at v0 v1 v3 v4 v5;have hng:w.heap.size+1≠w3.heap.size:=by omega
    by_cases hT:1099511627776<U+k
    ·have hRe:Hid (RR=(md0,5)):=Lh (by rw [<- hRz.out,if_pos hT]);have hd:decide (1099511627776<U+k)=true:=Ll hT;clear hRz hT;go_wp2;exact bodyPost_ret (vG rfl _ _ (w.heap.size+1) 26 _ (0,0) _ rfl (ZM.set7 hX3.2.1 md0 none 0 0) underlying26 rfl yy) rfl (by rw [hRe.out];exact ⟨yX hX3.2.2 (Nat.le_succ _) md0 none 0 0,none,0,0,[],rfl,OwV.none_ _ _⟩)
    ·have hRe:Hid (RR=(⟨⟨vw,vh,vr,vy,vx,vv⟩,U+k⟩,0)):=Lh (by rw [<- hRz.out,if_neg hT]);have hd:decide (1099511627776<U+k)=false:=Lk hT;have hR:=ZM.set7 hZ ⟨⟨vw,vh,vr,vy,vx,vv⟩,U+k⟩ A3 n3 e3;have ho7:=Lh (((((((hoY.far (p:=⟨w.heap.size+1,0,none⟩) L7 (.int .i64 vw)).far (p:=⟨w.heap.size+1,1,none⟩) L7 (.int .i64 vh)).far (p:=⟨w.heap.size+1,2,none⟩) L7 (.slice A3 n3 e3)).far (p:=⟨w.heap.size+1,3,none⟩) L7 (.int .i64 vy)).far (p:=⟨w.heap.size+1,4,none⟩) L7 (.int .i64 vx)).far (p:=⟨w.heap.size+1,5,none⟩) L7 (.bool vv)).far (p:=⟨w.heap.size+1,6,none⟩) L7 (.int .i64 (U+k)));have hb7:=yX hX3.2.2 (Nat.le_succ _) ⟨⟨vw,vh,vr,vy,vx,vv⟩,U+k⟩ A3 n3 e3;clear hoY hv hX3 hZ hBY hRz hT;go_wp2;exact bodyPost_ret (vG rfl _ _ (w.heap.size+1) 26 _ (0,0) _ rfl hR underlying26 rfl yy) rfl (by rw [hRe.out];exact ⟨hb7,A3,n3,e3,rs3,rfl,ho7.out.less L0⟩)
   ·have hRe:Hid (RR=(md0,E)):=Lh (by rw [<- hRR.out,if_pos hE]);clear hRR;have hEn:(E != 0)=true:=Ln.2 hE;clear hE
    go_upto_region 7 with (go_at_call 18;refine hAp.out.mono ?_;rintro e w3 ⟨A3,n3,e3,rs3,i3,rfl,hv,hb3⟩)
    refine qa (fun Y=>Below w2.heap.size w2 Y) (hb3.alloc hb3.size _) ?_;intro Y hY;have hX3:=hX2.on hY;have hZ:=hX3.2.1;obtain ⟨z0,z1,z2,z3,z4,z5,z6,y0,y1,y2,y3,y4,y5,y6⟩:=ZM.facts hZ;clear hX2 d0 d1 d2 d3 d4 d5 d6;go_wp2;exact bodyPost_ret (vG rfl _ _ (w.heap.size+1) 26 _ (0,0) _ rfl (ZM.set7 hX3.2.1 md0 none 0 0) underlying26 rfl yy) rfl (by rw [hRe.out];exact ⟨yX hX3.2.2 (Nat.le_succ _) md0 none 0 0,none,0,0,[],rfl,OwV.none_ _ _⟩)
end Go.Proofs.YtggegijlfaipfaaGreatDoor
