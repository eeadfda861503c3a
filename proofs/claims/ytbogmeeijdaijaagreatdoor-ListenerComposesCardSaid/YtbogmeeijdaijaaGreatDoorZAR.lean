/- Joined: Gd0, Ur8. -/
import Derived.Test.YtbogmeeijdaijaaGreatDoorZAQ
set_option linter.unusedVariables false
set_option linter.unusedSimpArgs false
set_option linter.unnecessarySimpa false
set_option maxHeartbeats 4000000
namespace Go.Proofs.YtbogmeeijdaijaaGreatDoor
open Go.Proofs.Tryz Go.RowKit
set_option maxRecDepth 20000
def Gd (w:World):Prop:=Sp w/\U8 w/\Sty w
theorem Gd.below {w w':World} (h:Gd w) (hb:Below w.heap.size w w'):Gd w':=⟨h.1.below hb (Ld _),h.2.1.below hb,h.2.2.below hb (Ld _)⟩
theorem qas {w:World} {base size n c:Nat} {e:TypeId} {A:Option Addr} {xs:List Value} (h:w.ownsRow base e size (.slice A n c) n xs):n<=c/\c<=maxLen:=by
 rcases h.2 with ⟨h0,_⟩ | ⟨g,cap,cur,hv,h1,h2,h3,h4,_⟩
 ·injection h0 with _ h0 h0';exact ⟨by omega,by unfold maxLen;omega⟩
 ·injection hv with _ _ hv;exact ⟨by omega,by omega⟩
theorem qmi:Elt prog 36 57 (.agg #[.int .i64 0,.int .i64 0,.int .i64 0,.int .i64 0,.int .i64 0,.slice none 0 0]) 6 64 where
 und:=underlying36
 row:=by
  have h:(prog.info? 57).map (fun i=>(i.zero,i.size,i.bytes))=some (some (.agg #[.int .i64 0,.int .i64 0,.int .i64 0,.int .i64 0,.int .i64 0,.slice none 0 0]),6,64):=by kernel_rfl
  obtain ⟨i,hi,a,b,c⟩:=info_parts h;exact ⟨i,hi,a,b,c⟩
 zs:=rfl
 pos:=by decide
theorem qlo {w:World} {g base size n:Nat} {t e:TypeId} {cs:Array Value} {v:Value} {xs:List Value} (h:Blk w g t cs) (ho:w.ownsRow base e size v n xs) (hte:t≠e):some g≠v.ownBlock:=by
 rcases ho.2 with ⟨rfl,_⟩ | ⟨g',cap,cur,rfl,_,h2,_⟩
 ·simp [Value.ownBlock]
 ·intro hg;simp only [Value.ownBlock,Option.some.injEq] at hg;subst hg;unfold Blk at h;rw [h] at h2
  injection h2 with h2
  injection h2 with _ h2
  exact hte h2
theorem qir {w:World} {base size n base' size' n':Nat} {e e':TypeId} {v v':Value} {xs xs':List Value} (h:w.ownsRow base e size v n xs) (ho:w.ownsRow base' e' size' v' n' xs') (hte:e≠e'):v.ownBlock=none∨v.ownBlock≠v'.ownBlock:=by
 rcases h.2 with ⟨rfl,_⟩ | ⟨g,cap,cur,rfl,_,h1,_⟩
 ·exact .inl rfl
 ·exact .inr (qlo (t:=e) (cs:=cur) h1 ho hte)
def GlO (base:Nat) (wr:World) (out:List ChgM):Prop:=∀ x∈out,wr.ownsRow base 64 3 (.slice x.A x.c.glyphs.length x.cap) x.c.glyphs.length (qi x.c.glyphs)
theorem GlO.below {base:Nat} {wr w':World} {out:List ChgM} (h:GlO base wr out) (hb:Below wr.heap.size wr w'):GlO base w' out:=fun x hx=>qb (h x hx) hb
theorem GlO.less {base base':Nat} {wr:World} {out:List ChgM} (h:GlO base wr out) (hb:base'<=base):GlO base' wr out:=fun x hx=>qt (h x hx) hb
theorem GlO.set_ {base:Nat} {wr:World} {out:List ChgM} (h:GlO base wr out) {p:Addr} (hp:p.block<base) (u:Value):GlO base (wr.setCell p u) out:=fun x hx=>zZ (h x hx) hp u
theorem GlO.rdc {base n c:Nat} {A:Option Addr} {w:World} {out:List ChgM} (h:GlO base w out) (ho:w.ownsRow base 57 6 (.slice A n c) n (kq out)):RdC w w.heap.size A n out :=
 ⟨Rd.of_own ho,fun x hx=>⟨Rd.of_own (h x hx),qas (h x hx)⟩⟩
def ChR (o:Option (List Chg × Int)) (w:World) (e:Ending) (w':World):Prop :=
 Below w.heap.size w w'/\match o with
 | none=>e = .returned (.tuple #[.slice none 0 0,.int .i64 0,.int .i64 17])
 | some x=>∃ out A c,zo out=x.1/\e = .returned (.tuple #[.slice A out.length c,.int .i64 x.2,.int .i64 0])/\w'.ownsRow w.heap.size 57 6 (.slice A out.length c) out.length (kq out)/\GlO w.heap.size w' out
def qgl (w:World) (g:Nat):Nat:=match w.cell? ⟨g,0,none⟩ with
 | some (.slice _ n _)=>n
 | _=>0
theorem qgj {w:World} {g n c:Nat} {A:Option Addr} {t:TypeId} {v:Value} (h:Blk w g t #[.slice A n c,v]):qgl w g=n:=by
 unfold qgl;rw [h.cell 0]
 rfl
def ChJ (w:World) (l':List ByteArray) (out:List ChgM) (A:Option Addr) (c:Nat) (X:World):Prop :=
 ∃ A' n' c',X.ownsRow (w.heap.size+1) 57 6 (.slice A out.length c) out.length (kq out)/\GlO (w.heap.size+1) X out/\WdR X w.heap.size l' A' n' c'/\Blk X w.heap.size 72 #[.slice A' n' c',.bool false]/\Below w.heap.size w X
theorem ChJ.bel {w X:World} {l':List ByteArray} {out:List ChgM} {A:Option Addr} {c:Nat} (h:ChJ w l' out A c X):Below w.heap.size w X:=by
 obtain ⟨A',n',c',ho,hg,hW,R1,tx⟩:=h;exact tx
theorem ChJ.on {w X Y:World} {l':List ByteArray} {out:List ChgM} {A:Option Addr} {c:Nat} (h:ChJ w l' out A c X) (hb:Below X.heap.size X Y):ChJ w l' out A c Y:=by
 obtain ⟨A',n',c',ho,hg,hW,R1,tx⟩:=h;exact ⟨A',n',c',qb ho hb,hg.below hb,hW.below (hb.mono tx.size),R1.below hb R1.lt,tx.trans (hb.mono tx.size)⟩
theorem GlO.app {base base' n:Nat} {w w':World} {out:List ChgM} {v:Value} {xs:List Value} (h:GlO base w out) (ho:w.ownsRow base' 57 6 v n xs) (hg:w.grownBy w' v.ownBlock):GlO base w' out:=fun x hx=>(h x hx).kept hg (qir (h x hx) ho L2)
def ChK (w:World) (gc:Nat) (l':List ByteArray) (out:List ChgM) (A:Option Addr) (c:Nat) (cg:Chg) (Ag:Option Addr) (cap:Nat) (A1:Option Addr) (n1 cc:Nat) (bad:Bool) (lr:List ByteArray) (Y:World):Prop :=
 Blk Y gc 57 (yG cg Ag cap)/\Blk Y (gc+1) 72 #[.slice A1 n1 cc,.bool bad]/\ChJ w l' out A c Y/\WdR Y w.heap.size lr A1 n1 cc/\Y.ownsRow (w.heap.size+1) 64 3 (.slice Ag cg.glyphs.length cap) cg.glyphs.length (qi cg.glyphs)/\w.heap.size+1<=gc
theorem ChK.on {w:World} {gc:Nat} {l':List ByteArray} {out:List ChgM} {A:Option Addr} {c:Nat} {cg:Chg} {Ag:Option Addr} {cap:Nat} {A1:Option Addr} {n1 cc:Nat} {bad:Bool} {lr:List ByteArray} {Y Z:World} (h:ChK w gc l' out A c cg Ag cap A1 n1 cc bad lr Y) (hb:Below Y.heap.size Y Z):ChK w gc l' out A c cg Ag cap A1 n1 cc bad lr Z:=by
 obtain ⟨h1,h2,h3,h4,h5,h6⟩:=h;have:=h1.lt;exact ⟨h1.below hb h1.lt,h2.below hb h2.lt,h3.on hb,h4.below (hb.mono L0),qb h5 hb,h6⟩
theorem ChK.new {w X w3:World} {l':List ByteArray} {out:List ChgM} {A:Option Addr} {c:Nat} {cg:Chg} {Ag:Option Addr} {cap:Nat} {A1:Option Addr} {n1 cc:Nat} {bad:Bool} {lr:List ByteArray} (hJ:ChJ w l' out A c X) (hb3:Below X.heap.size X w3) (hW:WdR w3 w.heap.size lr A1 n1 cc) (ho:w3.ownsRow X.heap.size 64 3 (.slice Ag cg.glyphs.length cap) cg.glyphs.length (qi cg.glyphs)) :
  ChK w w3.heap.size l' out A c cg Ag cap A1 n1 cc bad lr ((w3.alloc (.cells (yG cg Ag cap) 57)).alloc (.cells #[.slice A1 n1 cc,.bool bad] 72)):=by
 have hbb:Below w3.heap.size w3 ((w3.alloc (.cells (yG cg Ag cap) 57)).alloc (.cells #[.slice A1 n1 cc,.bool bad] 72)):=(L5).alloc L1 _;have hX:w.heap.size+1<=X.heap.size:=by
  obtain ⟨A',n',c',ho,hg,hW,R1,tx⟩:=hJ;exact R1.lt
 have hX3:=hb3.size;exact ⟨(Blk.new w3 _ _).alloc _,Blk.new_ L1,(hJ.on hb3).on hbb,hW.below (hbb.mono L0),qt (qb ho hbb) hX,by omega⟩
theorem qlA {X Y:World} {b:Nat} {t:TypeId} {cs:Array Value} {row:Option Nat} (h:Blk X b t cs) (hb:X.grownBy Y row) (hn:some b≠row):Blk Y b t cs:=h.grown hb hn
theorem ChJ.left {w X:World} {l':List ByteArray} {out:List ChgM} {A:Option Addr} {c:Nat} (h:ChJ w l' out A c X):qgl X w.heap.size=l'.length:=by
 obtain ⟨A',n',c',ho,hg,hW,R1,tx⟩:=h;rw [qgj R1];exact hW.len.symm
theorem ChJ.next {w Z U W9:World} {l' lr:List ByteArray} {out:List ChgM} {A A1 A9:Option Addr} {c n1 cc c9:Nat} {x:ChgM} (hJ:ChJ w l' out A c Z) (hW1:WdR Z w.heap.size lr A1 n1 cc) (hx:Z.ownsRow (w.heap.size+1) 64 3 (.slice x.A x.c.glyphs.length x.cap) x.c.glyphs.length (qi x.c.glyphs))
  (hb:Below Z.heap.size Z U) (hgr:U.grownBy W9 (Value.slice A out.length c).ownBlock) (hb9:Below (w.heap.size+1) U W9) (ho9:W9.ownsRow (w.heap.size+1) 57 6 (.slice A9 (out.length+1) c9) (out.length+1) (kq out++qb5 x)) :
  ChJ w lr (out++[x]) A9 c9 ((W9.setCell ⟨w.heap.size,0,none⟩ (.slice A1 n1 cc)).setCell ⟨w.heap.size,1,none⟩ (.bool false)):=by
 obtain ⟨A',n',c',ho,hg,hW,R1,tx⟩:=hJ;have hz:=R1.lt;have h9:Below (w.heap.size+1) Z W9:=(hb.mono hz).trans hb9;have hgl:GlO (w.heap.size+1) W9 (out++[x]):=fun y hy=>by
  rcases List.mem_append.1 hy with hy | hy
  ·exact ((hg.below hb).app (qb ho hb) hgr) y hy
  ·rw [List.mem_singleton] at hy;subst hy;exact (qb hx hb).kept hgr (qir (qb hx hb) (qb ho hb) L2)
 have hlt : ∀ i,(⟨w.heap.size,i,none⟩:Addr).block<w.heap.size+1:=fun i=>Nat.lt_succ_self _
 have hbw:Below w.heap.size W9 ((W9.setCell ⟨w.heap.size,0,none⟩ (.slice A1 n1 cc)).setCell ⟨w.heap.size,1,none⟩ (.bool false)):=((Le _ _).setCell (p:=⟨w.heap.size,0,none⟩) (Ld _) _).setCell (p:=⟨w.heap.size,1,none⟩) (Ld _) _;refine ⟨A1,n1,cc,?_,(hgl.set_ (hlt 0) _).set_ (hlt 1) _,(hW1.below (h9.mono L0)).below hbw,vd (R1.below h9 (Nat.lt_succ_self _)),(tx.trans (h9.mono L0)).trans hbw⟩;rw [Lf,qjj,show kq [x]=qb5 x by simp [kq]];exact zZ (zZ ho9 (hlt 0) _) (hlt 1) _
theorem qej {f:Nat} {l:List ByteArray} {acc:List Chg} (h:vT kZ l=true∨vT jN l=true):yR (f+1) l acc=(ki l).map fun n=>(acc,n):=by
 rw [yR,if_pos h]
theorem qjt {f:Nat} {l:List ByteArray} {acc:List Chg} (h:vT kZ l=false) (h2:vT jN l=false):yR (f+1) l acc=(qaL l).bind fun x=>if vj x.1=0 then yR f x.2 (acc++[x.1]) else none:=by
 rw [yR,if_neg (by rw [h,h2];simp)]
def EndV (o:Option Int) (w:World) (e:Ending) (w':World):Prop:=Below w.heap.size w w'/\match o with
 | none=>∃ N,e = .returned (.tuple #[.int .i64 N,.bool false])
 | some N=>e = .returned (.tuple #[.int .i64 N,.bool true])
theorem EndE.v {l:List ByteArray} {w w':World} {e:Ending} (h:EndE w l e w'):EndV (ki l) w e w':=by
 obtain ⟨N,b,rfl,hb,hE⟩:=h;rw [hE]
 cases b with
 | true=>exact ⟨hb,rfl⟩
 | false=>exact ⟨hb,N,rfl⟩
theorem qkg (l:List ByteArray) (A:Option Addr) (n c:Nat) (w:World) (hW:WdR w w.heap.size l A n c) (hl:l.length<=850000) (hs:Sp w) (hu:U8 w) (hy:Sty w) :
  Calls prog 19 #[.slice A n c] w (ChR (jm l) w):=by
 obtain ⟨R,hR⟩ : ∃ x,Hid (x=jm l):=⟨_,Lh rfl⟩
 rw [<- hR.out];have HS:Hid (Sp w/\U8 w/\Sty w):=Lh ⟨hs,hu,hy⟩;have hJ:ChJ w l [] none 0 (w.alloc (.cells #[.slice A n c,.bool false] 72)):=⟨A,n,c,zY _ _ _ _,(fun x hx=>by cases hx),hW.below L5,Blk.new w _ _,L5⟩
 have H0:Hid (R=yR (l.length+1) l (zo [])):=Lh (by rw [hR.out];rfl);clear hW hs hu hy hR
 go_enter func19,ntmps19
 go_wp2
 go_loopw [6] (fun x wr=>∃ l' out f A c,x = .slice A out.length c/\ChJ w l' out A c wr/\l'.length<f/\out.length+l'.length<=850000/\Hid (R=yR f l' (zo out))) (fun _ wr=>qgl wr w.heap.size)
 case atStart=>exact ⟨l,[],l.length+1,none,0,rfl,hJ,by omega,by simpa using hl,H0⟩
 case round =>
  clear hJ H0 hl;obtain ⟨l',out,f,A,c,rfl,hJ,hf,hlen,HR⟩:=hrel;obtain ⟨f',rfl⟩ : ∃ f',f=f'+1:=⟨f-1,by omega⟩
  have HL:Hid (qgl wr w.heap.size=l'.length):=Lh (by obtain ⟨A',n',c',ho,hg,hW,R1,tx⟩:=hJ;rw [qgj R1];exact hW.len.symm);rw [HL.out];clear HL;obtain ⟨A',n',c',ho,hg,hW,R1,tx⟩:=id hJ;have c0:=R1.cell 0;have c1:=R1.cell 1;have f0:=R1.frozen 0;have f1:=R1.frozen 1;have z0:=R1.lt;have hBX:=tx.size;simp only [La,Lb,Lc] at c0 c1;obtain ⟨s1,hs1⟩ : ∃ b,Hid (b=qX (some l') kZ):=⟨_,Lh rfl⟩
  obtain ⟨s2,hs2⟩ : ∃ b,Hid (b=qX (some l') jN):=⟨_,Lh rfl⟩
  have hRV:RV wr w.heap.size (some l') (.agg #[.slice A' n' c',.bool false]):=⟨A',n',c',l',false,rfl,hW,rfl⟩
  have HN1:=Lh (qdo (some l') _ kZ w.heap.size wr hRV hBX);rw [<- hs1.out] at HN1;have HN2:Hid (∀ w1,Below wr.heap.size wr w1->Calls prog 33 #[.agg #[.slice A' n' c',.bool false],.string jN] w1 (qh (.bool s2) w1)):=Lh fun w1 hb=>by
   rw [hs2.out];exact qdo (some l') _ jN w.heap.size w1 (hRV.below (hb.mono hBX)) (Lj hBX hb.size)
  clear hRV
  cases s1 with
  | true =>
   have HR2:Hid (R=(ki l').map fun n=>(zo out,n)):=Lh (by rw [HR.out,qej (.inl hs1.out.symm)]);clear HR hs1 hs2
   go_upto_region 8 with ((fail_if_success have:=hb1);go_at_call 33;refine HN1.out.mono ?_;rintro e w1 ⟨rfl,hb1⟩;clear c0 c1 f0 f1;have R0:=R1.below hb1 R1.lt;have f0:=R0.frozen 0;have f1:=R0.frozen 1;have c0:=R0.cell 0;have c1:=R0.cell 1;simp only [La,Lb,Lc] at c0 c1)
   clear R0;refine qa (ChJ w l' out A c) (hJ.on (hb1)) ?_;clear c0 c1 f0 f1 z0 hBX ho hg hW R1 tx;clear hJ HN1 HN2;intro X hJ;obtain ⟨A',n',c',ho,hg,hW,R1,tx⟩:=id hJ;have c0:=R1.cell 0;have c1:=R1.cell 1;have f0:=R1.frozen 0;have f1:=R1.frozen 1;have z0:=R1.lt;have hBX:=tx.size;simp only [La,Lb,Lc] at c0 c1;have HEn:=Lh ((uend_ l' A' n' c' X w.heap.size hW tx.size).mono fun _ _ h=>h.v);generalize ki l'=E at *
   cases E with
   | none =>
    have HR3:Hid (R=none):=Lh HR2.out;clear HR2
    go_wp2_with (go_at_call 36;refine HEn.out.mono ?_;rintro e w5 ⟨hb5,N,rfl⟩)
    go_ret3;rw [HR3.out];exact ⟨tx.trans (hb5.mono hBX),rfl⟩
   | some N =>
    have HR3:Hid (R=some (zo out,N)):=Lh HR2.out;clear HR2
    go_wp2_with (go_at_call 36;refine HEn.out.mono ?_;rintro e w5 ⟨hb5,rfl⟩)
    go_ret3;rw [HR3.out];exact ⟨tx.trans (hb5.mono hBX),out,A,c,rfl,rfl,qt (qb ho hb5) L0,(hg.below hb5).less L0⟩
  | false =>
   cases s2 with
   | true =>
    have HR2:Hid (R=(ki l').map fun n=>(zo out,n)):=Lh (by rw [HR.out,qej (.inr hs2.out.symm)]);clear HR hs1 hs2
    go_upto_region 8 with (first | ((fail_if_success have:=hb1);go_at_call 33;refine HN1.out.mono ?_;rintro e w1 ⟨rfl,hb1⟩;clear c0 c1 f0 f1;have R0:=R1.below hb1 R1.lt;have f0:=R0.frozen 0;have f1:=R0.frozen 1;have c0:=R0.cell 0;have c1:=R0.cell 1;simp only [La,Lb,Lc] at c0 c1) | (go_at_call 33;refine (HN2.out _ hb1).mono ?_;rintro e w2 ⟨rfl,hb2⟩))
    clear R0;refine qa (ChJ w l' out A c) (hJ.on (hb1.trans (hb2.mono hb1.size))) ?_;clear c0 c1 f0 f1 z0 hBX ho hg hW R1 tx;clear hJ HN1 HN2;intro X hJ;obtain ⟨A',n',c',ho,hg,hW,R1,tx⟩:=id hJ;have c0:=R1.cell 0;have c1:=R1.cell 1;have f0:=R1.frozen 0;have f1:=R1.frozen 1;have z0:=R1.lt;have hBX:=tx.size;simp only [La,Lb,Lc] at c0 c1;have HEn:=Lh ((uend_ l' A' n' c' X w.heap.size hW tx.size).mono fun _ _ h=>h.v);generalize ki l'=E at *
    cases E with
    | none =>
     have HR3:Hid (R=none):=Lh HR2.out;clear HR2
     go_wp2_with (go_at_call 36;refine HEn.out.mono ?_;rintro e w5 ⟨hb5,N,rfl⟩)
     go_ret3;rw [HR3.out];exact ⟨tx.trans (hb5.mono hBX),rfl⟩
    | some N =>
     have HR3:Hid (R=some (zo out,N)):=Lh HR2.out;clear HR2
     go_wp2_with (go_at_call 36;refine HEn.out.mono ?_;rintro e w5 ⟨hb5,rfl⟩)
     go_ret3;rw [HR3.out];exact ⟨tx.trans (hb5.mono hBX),out,A,c,rfl,rfl,qt (qb ho hb5) L0,(hg.below hb5).less L0⟩
   | false =>
    have HR2:Hid (R=(qaL l').bind fun x=>if vj x.1=0 then yR f' x.2 (zo out++[x.1]) else none):=Lh (by rw [HR.out,qjt hs1.out.symm hs2.out.symm]);clear HR hs1 hs2
    go_upto_region 4 with (first | ((fail_if_success have:=hb1);go_at_call 33;refine HN1.out.mono ?_;rintro e w1 ⟨rfl,hb1⟩;clear c0 c1 f0 f1;have R0:=R1.below hb1 R1.lt;have f0:=R0.frozen 0;have f1:=R0.frozen 1;have c0:=R0.cell 0;have c1:=R0.cell 1;simp only [La,Lb,Lc] at c0 c1) | (go_at_call 33;refine (HN2.out _ hb1).mono ?_;rintro e w2 ⟨rfl,hb2⟩))
    refine qa (ChJ w l' out A c) (hJ.on (hb1.trans (hb2.mono hb1.size))) ?_;clear R0;clear c0 c1 f0 f1 z0 hBX ho hg hW R1 tx;clear hJ HN1 HN2 hb1 hb2;intro X hJ;obtain ⟨A',n',c',ho,hg,hW,R1,tx⟩:=id hJ;have c0:=R1.cell 0;have c1:=R1.cell 1;have f0:=R1.frozen 0;have f1:=R1.frozen 1;have z0:=R1.lt;have hBX:=tx.size;simp only [La,Lb,Lc] at c0 c1;have hl':l'.length<=850000:=by omega
    have HCh:=Lh ((uchange_ l' A' n' c' X w.heap.size hW tx.size hl' (HS.out.1.below tx (Ld _)) (HS.out.2.1.below tx) (HS.out.2.2.below tx (Ld _))).mono fun _ _ h=>h.spl);have HLn:Hid (∀ c t,qaL l'=some (c,t)->t.length<l'.length/\SmG c.glyphs):=Lh fun c t h=>qmp h hl' hW.sz
    have HEq:=Lh (chgP_eq l');generalize chgP (some l')=P at *
    obtain ⟨cg,rr⟩:=P;dsimp only at HEq HCh
    go_upto_region 5 with (go_at_call 34;refine HCh.out.mono ?_;rintro e w3 ⟨Ag,cap,A1,n1,cc,lr,bad,rfl,hr,hW1,hb3,ho3⟩)
    refine qa (ChK w w3.heap.size l' out A c cg Ag cap A1 n1 cc bad lr) (ChK.new hJ hb3 hW1 ho3) ?_;have hg3:w3.heap.size=w3.heap.size:=rfl;generalize w3.heap.size=gc at *
    clear c0 c1 f0 f1 z0 hBX ho hg hW R1 tx;clear hJ hb3 hW1 ho3 HCh hg3;intro Y hK;obtain ⟨K1,K2,hJ,hW1,ho3,hgc⟩:=id hK;have k0:=K1.cell 0;have k1:=K1.cell 1;have k2:=K1.cell 2;have k3:=K1.cell 3;have k4:=K1.cell 4;have k5:=K1.cell 5;have m0:=K2.cell 0;have m1:=K2.cell 1;simp only [yG,La,Lb,Lc] at k0 k1 k2 k3 k4 k5 m0 m1
    cases bad with
    | true =>
     have HR3:Hid (R=none):=Lh (by rw [HR2.out,HEq.out,hr];rfl);clear HR2 HEq hr HLn HS;have tx:=hJ.bel;go_wp2;go_ret3;rw [HR3.out];exact ⟨tx,rfl⟩
    | false =>
     have HEq2:Hid (qaL l'=some (cg,lr)):=Lh (by rw [HEq.out,hr];rfl);obtain ⟨hlr,hsm⟩:=HLn.out cg lr HEq2.out;have HR3:Hid (R=if vj cg=0 then yR f' lr (zo out++[cg]) else none):=Lh (by rw [HR2.out,HEq2.out];rfl);have HCk:=Lh (ucheck_ cg Ag cap Y.heap.size Y hsm.1 (Rd.of_own ho3) (Ld _) hsm.2 (HS.out.2.1.below hJ.bel));clear HR2 HEq HEq2 hr HLn hsm
     by_cases hK0:vj cg=0
     ·rw [hK0] at HCk;have HR4:Hid (R=yR f' lr (zo (out++[⟨cg,Ag,cap⟩]))):=Lh (by rw [HR3.out,if_pos hK0];unfold zo;rw [List.map_append];rfl);clear HR3 hK0
      go_upto_region 7 with (go_at_call 35;refine HCk.out.mono ?_;rintro e w5 ⟨rfl,hb5⟩)
      refine qa (ChK w gc l' out A c cg Ag cap A1 n1 cc false lr) (hK.on hb5) ?_;clear k0 k1 k2 k3 k4 k5 m0 m1 K1 K2 hJ hW1 ho3 hgc;clear hK hb5 HCk;intro Z hK;obtain ⟨K1,K2,hJ,hW1,ho3,hgc⟩:=id hK;have k0:=K1.cell 0;have k1:=K1.cell 1;have k2:=K1.cell 2;have k3:=K1.cell 3;have k4:=K1.cell 4;have k5:=K1.cell 5;have m0:=K2.cell 0;have m1:=K2.cell 1;simp only [yG,La,Lb,Lc] at k0 k1 k2 k3 k4 k5 m0 m1;obtain ⟨A',n',c',ho,hg,hW,R1,tx⟩:=id hJ;have f0:=R1.frozen 0;have f1:=R1.frozen 1;have z0:=R1.lt;have hlr2:lr.length<l'.length:=hlr;have htz:=tx.size;have hbZ:Below Z.heap.size Z Z:=Le _ _;have kz:=K2.lt;have kz1:=K1.lt
      go_region_law (refine jZ rfl _ _ _ rfl qmi ((w.heap.size+1)) _ rfl ((qb ho ql8)) _ _ rfl ((qe (xs:=qb5 ⟨cg,Ag,cap⟩) rfl rfl)) (qhb _) ?_;intro A9 c9 w9 hown9 hbel9 hgr9 hat9;have z9:=hbel9.size;(try simp only [Lo,Lg] at hown9);have R9:=R1.below (B:=w.heap.size+1) (Below.trans ql8 hbel9) (Nat.lt_succ_self _);have K9:=qlA (K2.below ql8 K2.lt) hgr9 (qlo (K2.below ql8 K2.lt) (qb ho ql8) L2);clear f0 f1 m0 m1;have f0:=R9.frozen 0;have f1:=R9.frozen 1;have e0:=R9.cell 0;have e1:=R9.cell 1;have m0:=K9.cell 0;have m1:=K9.cell 1;simp only [La,Lb,Lc] at m0 m1 e0 e1)
      all_goals go_wp2
      all_goals exact ⟨⟨lr,out++[⟨cg,Ag,cap⟩],f',A9,c9,by rw [Lf];rfl,ChJ.next (x:=⟨cg,Ag,cap⟩) hJ hW1 ho3 ql8 hgr9 hbel9 hown9,by omega,by rw [Lf];simp only [Lp,List.length_nil];omega,HR4⟩,by rw [ChJ.left (ChJ.next (x:=⟨cg,Ag,cap⟩) hJ hW1 ho3 ql8 hgr9 hbel9 hown9)];exact hlr2⟩
     ·have HR4:Hid (R=none):=Lh (by rw [HR3.out,if_neg hK0]);have hKb:(vj cg != 0)=true:=Ln.2 hK0;generalize vj cg=K at *
      have tx:=hJ.bel;clear HR3 hK0 HS
      go_wp2_with (go_at_call 35;refine HCk.out.mono ?_;rintro e w5 ⟨rfl,hb5⟩)
      go_ret3;rw [HR4.out];exact ⟨tx.trans (hb5.mono tx.size),rfl⟩
end Go.Proofs.YtbogmeeijdaijaaGreatDoor
