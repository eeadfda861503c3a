/- Joined: Vd6, Rh1. -/
import Derived.Test.YtbogmeeijdaijaaGreatDoorZAS
import Derived.Test.YtbogmeeijdaijaaGreatDoorZEI
set_option linter.unusedVariables false
set_option linter.unusedSimpArgs false
set_option linter.unnecessarySimpa false
set_option maxHeartbeats 8000000
namespace Go.Proofs.YtbogmeeijdaijaaGreatDoor
open Go.Proofs.Tryz Go.RowKit
set_option maxRecDepth 20000
def TcR (o:Option (List Chg × Int)) (w:World) (e:Ending) (w':World):Prop :=
 Below w.heap.size w w'/\match o with
 | none=>∃ A,e = .returned (.tuple #[.slice A 0 0,.int .i64 0,.int .i64 17])
 | some x=>∃ out A c,zo out=x.1/\e = .returned (.tuple #[.slice A out.length c,.int .i64 x.2,.int .i64 0])/\w'.ownsRow w.heap.size 57 6 (.slice A out.length c) out.length (kq out)/\GlO w.heap.size w' out
def qlC (w:World) (g:Nat):Nat:=match w.cell? ⟨g,0,none⟩,w.cell? ⟨g,1,none⟩ with
 | some (.slice _ n _),some (.bool true)=>n+1
 | _,_=>0
theorem leftT_eq {w:World} {g n c:Nat} {A:Option Addr} {t:TypeId} {b:Bool} (h:Blk w g t #[.slice A n c,.bool b]):qlC w g=if b=true then n+1 else 0:=by
 obtain ⟨h0,h1,_⟩:=vN h;unfold qlC;rw [h0,h1]
 cases b <;> rfl
def TJ (w:World) (r:Option (List ByteArray)) (out:List ChgM) (A:Option Addr) (c:Nat) (X:World):Prop :=
 (∃ A' n' c' l' bad',r=y7 bad' l'/\WdR X w.heap.size l' A' n' c'/\Blk X w.heap.size 86 #[.slice A' n' c',.bool (!bad')])/\X.ownsRow (w.heap.size+1) 57 6 (.slice A out.length c) out.length (kq out)/\GlO (w.heap.size+1) X out/\Below w.heap.size w X
theorem TJ.lt {w X:World} {r:Option (List ByteArray)} {out:List ChgM} {A:Option Addr} {c:Nat} (h:TJ w r out A c X):w.heap.size<X.heap.size:=by
 obtain ⟨⟨A',n',c',l',bad',hr',hW,R1⟩,ho,hg,tx⟩:=h;exact R1.lt
theorem TJ.on {w X Y:World} {r:Option (List ByteArray)} {out:List ChgM} {A:Option Addr} {c:Nat} (h:TJ w r out A c X) (hb:Below X.heap.size X Y):TJ w r out A c Y:=by
 obtain ⟨⟨A',n',c',l',bad',hr',hW,R1⟩,ho,hg,tx⟩:=h;exact ⟨⟨A',n',c',l',bad',hr',hW.below (hb.mono tx.size),R1.below hb R1.lt⟩,qb ho hb,hg.below hb,tx.trans (hb.mono tx.size)⟩
theorem TJ.turn {w X:World} {r r':Option (List ByteArray)} {out:List ChgM} {A A1:Option Addr} {c n1 cc:Nat} {lr:List ByteArray} {bad:Bool} (h:TJ w r out A c X) (hW:WdR X w.heap.size lr A1 n1 cc) (hr:r'=y7 bad lr) :
  TJ w r' out A c ((X.setCell ⟨w.heap.size,0,none⟩ (.slice A1 n1 cc)).setCell ⟨w.heap.size,1,none⟩ (.bool (!bad))):=by
 obtain ⟨⟨A',n',c',l',bad',hr',hW',R1⟩,ho,hg,tx⟩:=h;have hlt : ∀ i,(⟨w.heap.size,i,none⟩:Addr).block<w.heap.size+1:=fun i=>Nat.lt_succ_self _
 have hbw:Below w.heap.size X ((X.setCell ⟨w.heap.size,0,none⟩ (.slice A1 n1 cc)).setCell ⟨w.heap.size,1,none⟩ (.bool (!bad))):=((Le _ _).setCell (p:=⟨w.heap.size,0,none⟩) (Ld _) _).setCell (p:=⟨w.heap.size,1,none⟩) (Ld _) _;exact ⟨⟨A1,n1,cc,lr,bad,hr,hW.below hbw,vd R1⟩,zZ (zZ ho (hlt 0) _) (hlt 1) _,(hg.set_ (hlt 0) _).set_ (hlt 1) _,tx.trans hbw⟩
def lenT (r:Option (List ByteArray)):Nat:=match r with
 | some l=>l.length+1
 | none=>0
theorem lenT_lt {r:Option (List ByteArray)} {l:List ByteArray} (h : ∀ t,r=some t->t.length<l.length):lenT r<lenT (some l):=by
 cases r with
 | none=>exact Nat.succ_pos _
 | some t =>
  have:=h t rfl
  show t.length+1<l.length+1
  omega
theorem TJ.left {w X:World} {r:Option (List ByteArray)} {out:List ChgM} {A:Option Addr} {c:Nat} (h:TJ w r out A c X):qlC X w.heap.size=lenT r:=by
 obtain ⟨⟨A',n',c',l',bad',rfl,hW,R1⟩,ho,hg,tx⟩:=h;rw [leftT_eq R1];have:=hW.len
 cases bad'
 ·show n'+1=l'.length+1
  omega
 ·rfl
theorem TJ.next {w Z U W9:World} {r r':Option (List ByteArray)} {lr:List ByteArray} {out:List ChgM} {A A1 A9:Option Addr} {c n1 cc c9:Nat} {bad:Bool} {x:ChgM} (hJ:TJ w r out A c Z) (hW1:WdR Z w.heap.size lr A1 n1 cc) (hr1:r'=y7 bad lr) (hx:Z.ownsRow (w.heap.size+1) 64 3 (.slice x.A x.c.glyphs.length x.cap) x.c.glyphs.length (qi x.c.glyphs))
  (hb:Below Z.heap.size Z U) (hgr:U.grownBy W9 (Value.slice A out.length c).ownBlock) (hb9:Below (w.heap.size+1) U W9) (ho9:W9.ownsRow (w.heap.size+1) 57 6 (.slice A9 (out.length+1) c9) (out.length+1) (kq out++qb5 x)) :
  TJ w r' (out++[x]) A9 c9 ((W9.setCell ⟨w.heap.size,0,none⟩ (.slice A1 n1 cc)).setCell ⟨w.heap.size,1,none⟩ (.bool (!bad))):=by
 have hz:=hJ.lt;obtain ⟨⟨A',n',c',l',bad',hr',hW,R1⟩,ho,hg,tx⟩:=hJ;have h9:Below (w.heap.size+1) Z W9:=(hb.mono hz).trans hb9;have hgl:GlO (w.heap.size+1) W9 (out++[x]):=fun y hy=>by
  rcases List.mem_append.1 hy with hy | hy
  ·exact ((hg.below hb).app (qb ho hb) hgr) y hy
  ·rw [List.mem_singleton] at hy;subst hy;exact (qb hx hb).kept hgr (qir (qb hx hb) (qb ho hb) L2)
 have h':TJ w r (out++[x]) A9 c9 W9:=⟨⟨A',n',c',l',bad',hr',hW.below (h9.mono L0),R1.below h9 (Nat.lt_succ_self _)⟩,by rw [Lf,qjj,show kq [x]=qb5 x by simp [kq]];exact ho9,hgl,tx.trans (h9.mono L0)⟩
 exact h'.turn (hW1.below (h9.mono L0)) hr1
def TK (w:World) (gc:Nat) (r:Option (List ByteArray)) (out:List ChgM) (A:Option Addr) (c:Nat) (cg:Chg) (Ag:Option Addr) (cap:Nat) (A1:Option Addr) (n1 cc:Nat) (bad:Bool) (lr:List ByteArray) (Y:World):Prop :=
 Blk Y gc 57 (yG cg Ag cap)/\Blk Y (gc+1) 86 #[.slice A1 n1 cc,.bool (!bad)]/\TJ w r out A c Y/\WdR Y w.heap.size lr A1 n1 cc/\Y.ownsRow (w.heap.size+1) 64 3 (.slice Ag cg.glyphs.length cap) cg.glyphs.length (qi cg.glyphs)/\w.heap.size+1<=gc
theorem TK.on {w:World} {gc:Nat} {r:Option (List ByteArray)} {out:List ChgM} {A:Option Addr} {c:Nat} {cg:Chg} {Ag:Option Addr} {cap:Nat} {A1:Option Addr} {n1 cc:Nat} {bad:Bool} {lr:List ByteArray} {Y Z:World} (h:TK w gc r out A c cg Ag cap A1 n1 cc bad lr Y) (hb:Below Y.heap.size Y Z):TK w gc r out A c cg Ag cap A1 n1 cc bad lr Z:=by
 obtain ⟨h1,h2,h3,h4,h5,h6⟩:=h;have:=h1.lt;exact ⟨h1.below hb h1.lt,h2.below hb h2.lt,h3.on hb,h4.below (hb.mono L0),qb h5 hb,h6⟩
theorem TK.new {w X w3:World} {r:Option (List ByteArray)} {out:List ChgM} {A:Option Addr} {c:Nat} {cg:Chg} {Ag:Option Addr} {cap:Nat} {A1:Option Addr} {n1 cc:Nat} {bad:Bool} {lr:List ByteArray} (hJ:TJ w r out A c X) (hb3:Below X.heap.size X w3) (hW:WdR w3 w.heap.size lr A1 n1 cc) (ho:w3.ownsRow X.heap.size 64 3 (.slice Ag cg.glyphs.length cap) cg.glyphs.length (qi cg.glyphs)) :
  TK w w3.heap.size r out A c cg Ag cap A1 n1 cc bad lr ((w3.alloc (.cells (yG cg Ag cap) 57)).alloc (.cells #[.slice A1 n1 cc,.bool (!bad)] 86)):=by
 have hX:=hJ.lt;have hX3:=hb3.size;have hbb:Below w3.heap.size w3 ((w3.alloc (.cells (yG cg Ag cap) 57)).alloc (.cells #[.slice A1 n1 cc,.bool (!bad)] 86)):=(L5).alloc L1 _;exact ⟨(Blk.new w3 _ _).alloc _,Blk.new_ L1,(hJ.on hb3).on hbb,hW.below (hbb.mono L0),qt (qb ho hbb) hX,by omega⟩
theorem qlS {w:World} {base size n:Nat} {e:TypeId} {v:Value} {xs:List Value} (h:w.ownsRow base e size v n xs) {p:Addr} (hn:some p.block≠v.ownBlock) (u:Value):(w.setCell p u).ownsRow base e size v n xs :=
 h.kept (row:=some p.block) ⟨rfl,rfl,rfl,by simp,fun k _ hk=>Below.heap_setCell _ _ _ _ (fun e=>hk (by rw [e]))⟩ (.inr (Ne.symm hn))
theorem TK.spoil {w:World} {gc:Nat} {r:Option (List ByteArray)} {out:List ChgM} {A:Option Addr} {c:Nat} {cg:Chg} {Ag:Option Addr} {cap:Nat} {A1:Option Addr} {n1 cc:Nat} {bad:Bool} {lr:List ByteArray} {Y:World} (h:TK w gc r out A c cg Ag cap A1 n1 cc bad lr Y):TK w gc r out A c cg Ag cap none 0 0 true [] ((Y.setCell ⟨gc+1,0,none⟩ (.slice none 0 0)).setCell ⟨gc+1,1,none⟩ (.bool false)):=by
 obtain ⟨h1,h2,⟨⟨A',n',c',l',bad',hr',hW',R1⟩,ho,hg,tx⟩,h4,h5,h6⟩:=h;have hb : ∀ k,k<=gc+1->Below k Y ((Y.setCell ⟨gc+1,0,none⟩ (.slice none 0 0)).setCell ⟨gc+1,1,none⟩ (.bool false)):=fun k hk=>((Le k Y).setCell (p:=⟨gc+1,0,none⟩) hk _).setCell (p:=⟨gc+1,1,none⟩) hk _
 have own_ne3 : ∀ {e:TypeId} {size n:Nat} {v:Value} {xs:List Value},86≠e->Y.ownsRow (w.heap.size+1) e size v n xs->((Y.setCell ⟨gc+1,0,none⟩ (.slice none 0 0)).setCell ⟨gc+1,1,none⟩ (.bool false)).ownsRow (w.heap.size+1) e size v n xs:=fun hne hw=>by
  have n1:=qlo h2 hw hne;exact qlS (qlS hw (p:=⟨gc+1,0,none⟩) n1 _) (p:=⟨gc+1,1,none⟩) n1 _
 refine ⟨h1.below (hb _ (Ld _)) (Nat.lt_succ_self _),vd h2,⟨⟨A',n',c',l',bad',hr',hW'.below (hb _ L0),R1.below (hb (w.heap.size+1) L0) (Nat.lt_succ_self _)⟩,own_ne3 L2 ho,fun x hx=>own_ne3 L2 (hg x hx),tx.trans (hb _ L0)⟩,WdR.nil _ _,own_ne3 L2 h5,h6⟩
def qkZ (r:Option (List ByteArray)):Bool:=match r with
 | some l=>decide (l≠[])&&!(vT kZ l)&&!(vT jN l)
 | none=>false
theorem contB_no {r:Option (List ByteArray)} (h:qkZ r=false) : ∀ l,r=some l->l=[]∨vT kZ l=true∨vT jN l=true:=fun l e=>by
 subst e;replace h:(decide (l≠[])&&!(vT kZ l)&&!(vT jN l))=false:=h
 by_cases hl:l=[]
 ·exact .inl hl
 ·right
  cases hm:vT kZ l with
  | true=>exact .inl rfl
  | false =>
   right
   rw [hm] at h
   simpa [hl] using h
theorem ql7 {r:Option (List ByteArray)} (h:qkZ r=true) : ∃ l,r=some l/\0<l.length/\vT kZ l=false/\vT jN l=false:=by
 cases r with
 | none=>cases h
 | some l =>
  unfold qkZ at h;simp only [Bool.and_eq_true,decide_eq_true_eq,Bool.not_eq_true'] at h;exact ⟨l,rfl,List.length_pos_iff.2 h.1.1,h.1.2,h.2⟩
theorem goV_zero {f:Nat} {r:Option (List ByteArray)} {acc:List Chg} (h : ∀ l,r=some l->l.length<f) : ∃ f',qma f r acc=qma (f'+1) r acc/\∀ l,r=some l->l.length<f'+1:=by
 cases f with
 | succ f=>exact ⟨f,rfl,h⟩
 | zero =>
  cases r with
  | none=>exact ⟨0,rfl,fun l e=>by cases e⟩
  | some l=>exact absurd (h l rfl) (Nat.not_lt_zero _)
theorem qmt (l:List ByteArray) (A:Option Addr) (n c:Nat) (w:World) (hW:WdR w w.heap.size l A n c) (hl:l.length<=1000) (ht:Tb w) :
  Calls prog 21 #[.slice A n c] w (TcR (jm l) w):=by
 obtain ⟨R,hR⟩ : ∃ x,Hid (x=jm l):=⟨_,Lh rfl⟩
 rw [<- hR.out];have HT:=Lh ht;have hJ:TJ w (some l) [] (some ⟨w.heap.size+1,0,none⟩) 0 ((w.alloc (.cells #[.slice A n c,.bool true] 86)).alloc (.cells #[] 57)):=by
  have hb:Below w.heap.size w (w.alloc (.cells #[.slice A n c,.bool true] 86)):=L5;have hz:(w.alloc (.cells #[.slice A n c,.bool true] 86)).heap.size=w.heap.size+1:=by simp
  exact ⟨⟨A,n,c,l,false,rfl,hW.below (hb.alloc L0 _),(Blk.new w _ _).alloc _⟩,qx (xs:=[]) (n:=0) hz rfl (Ld _) L0,(fun x hx=>by cases hx),hb.alloc L0 _⟩
 have H0:Hid (R=qma (l.length+1) (some l) (zo [])):=Lh (by rw [hR.out];rfl);have H1:OkR (some l):=fun x e=>by cases e;exact ⟨hl,hW.sz⟩
 clear hW hR ht
 go_enter func21,ntmps21
 go_wp2
 go_loopw [6] (fun x wr=>∃ r out f A c,x = .slice A out.length c/\TJ w r out A c wr/\(∀ l,r=some l->l.length<f)/\out.length+lenO r<=1000/\OkR r/\Hid (R=qma f r (zo out))) (fun _ wr=>qlC wr w.heap.size)
 case atStart=>exact ⟨some l,[],l.length+1,_,0,rfl,hJ,fun x e=>by cases e;omega,by simpa [lenO] using hl,H1,H0⟩
 case round =>
  clear hJ H0 H1 hl;obtain ⟨r,out,f,Ao,co,rfl,hJ,hf,hlen,hok,HR⟩:=hrel;obtain ⟨f',hgo,hf'⟩:=goV_zero (acc:=zo out) hf;have HR1:Hid (R=qma (f'+1) r (zo out)):=Lh (by rw [HR.out,hgo]);have HM:Hid (qlC wr w.heap.size=lenT r):=Lh hJ.left;rw [HM.out];clear HR hgo hf HM
  go_upto_region 3 with fail
  go_cut [30] (fun v wx=>v = .bool (qkZ r)/\TJ w r out Ao co wx)
  case first =>
   as_aux_lemma =>
   clear HR1 hf' hlen hok;obtain ⟨⟨A',n',c',l',bad',hr',hW,R1⟩,ho,hg,tx⟩:=id hJ;obtain ⟨c0,c1,f0,f1⟩:=vN R1;have z0:=R1.lt;have hBX:=tx.size;subst hr'
   cases bad' with
   | true =>
    replace c1:wr.cell? ⟨w.heap.size,1,none⟩=some (.bool false):=c1;go_wp2;go_meet;exact ⟨rfl,hJ⟩
   | false =>
    replace c1:wr.cell? ⟨w.heap.size,1,none⟩=some (.bool true):=c1;have HC:Hid (qkZ (some l')=(decide (l'≠[])&&!(vT kZ l')&&!(vT jN l'))):=Lh rfl;have hln:=hW.len
    by_cases hn:n'=0
    ·have e:Hid (qkZ (y7 false l')=false):=Lh (by rw [show y7 false l'=some l' from rfl,HC.out,List.length_eq_zero_iff.1 (hln.trans hn)];rfl);subst hn;clear HC;go_wp2;go_meet;exact ⟨by rw [e.out],hJ⟩
    ·have hi:(0:Int)<n':=by omega
     have hne:l'≠[]:=fun e=>hn (by rw [<- hln,e];rfl)
     have HN1:=Lh (tis_ (some l') (.agg #[.slice A' n' c',.bool true]) kZ w.heap.size wr ⟨A',n',c',l',false,rfl,hW,rfl⟩ hBX);have HN2:Hid (∀ w1,Below wr.heap.size wr w1->Calls prog 41 #[.agg #[.slice A' n' c',.bool true],.string jN] w1 (qh (.bool (qX (some l') jN)) w1)):=Lh fun w1 hb=>tis_ (some l') _ jN w.heap.size w1 ⟨A',n',c',l',false,rfl,hW.below (hb.mono hBX),rfl⟩ (Lj hBX hb.size)
     cases s1:qX (some l') kZ with
     | true =>
      have e:Hid (qkZ (y7 false l')=false):=Lh (by rw [show y7 false l'=some l' from rfl,HC.out,show vT kZ l'=true from s1];simp);rw [s1] at HN1;clear HC s1 HN2 hn hne
      go_wp2_with ((fail_if_success have:=hb1);go_at_call 41;refine HN1.out.mono ?_;rintro e w1 ⟨rfl,hb1⟩;clear c0 c1 f0 f1;have R0:=R1.below hb1 R1.lt;obtain ⟨c0,c1,f0,f1⟩:=vN R0)
      go_meet;exact ⟨by rw [e.out],hJ.on hb1⟩
     | false =>
      have e:Hid (qkZ (y7 false l') = !(qX (some l') jN)):=Lh (by rw [show y7 false l'=some l' from rfl,HC.out,show vT kZ l'=false from s1];simp [hne];rfl);rw [s1] at HN1;generalize qX (some l') jN=s2 at *
      clear HC s1 hn hne
      go_wp2_with (first | ((fail_if_success have:=hb1);go_at_call 41;refine HN1.out.mono ?_;rintro e w1 ⟨rfl,hb1⟩;clear c0 c1 f0 f1;have R0:=R1.below hb1 R1.lt;obtain ⟨c0,c1,f0,f1⟩:=vN R0) | (go_at_call 41;refine (HN2.out _ hb1).mono ?_;rintro e w2 ⟨rfl,hb2⟩))
      go_meet;exact ⟨by rw [e.out],hJ.on (hb1.trans (hb2.mono hb1.size))⟩
  case rest =>
   clear hJ;obtain ⟨rfl,hJ⟩:=hcut;generalize hXw:wc=X at *
   clear hXw
   cases hcb:qkZ r with
   | true =>
    obtain ⟨l',rfl,hpos,hm,hd⟩:=ql7 hcb;have HR2:Hid (R=qma f' (if vj (zU (some l')).1=0 then (zU (some l')).2 else none) (zo out++[(zU (some l')).1])):=Lh (by rw [HR1.out,goV_step hm hd]);have hl':=(hok l' rfl).1;have hsz:=(hok l' rfl).2;have HSm:=Lh (qlK hok);have HLn:Hid (vj (zU (some l')).1=0->∀ t,(zU (some l')).2=some t->t.length<l'.length):=Lh fun h0 t ht=>chgQ_len hl' hsz h0 ht
    have HOk:Hid (OkR (zU (some l')).2):=Lh (chgQ_ok hok);have hlen':out.length+l'.length<=1000:=hlen;have hfl:=hf' l' rfl;clear HR1 hcb hf' hlen hm hd hok;obtain ⟨⟨A',n',c',l',bad',hr',hW,R1⟩,ho,hg,tx⟩:=id hJ;obtain ⟨c0,c1,f0,f1⟩:=vN R1;have z0:=R1.lt;have hBX:=tx.size
    cases bad' with
    | true=>cases hr'
    | false =>
     replace c1:X.cell? ⟨w.heap.size,1,none⟩=some (.bool true):=c1;obtain rfl:l'=_:=by cases hr';rfl
     have HCh:=Lh (tchange_ l' A' n' c' X w.heap.size hW hBX hl' (HT.out.below tx));generalize zU (some l')=P at *
     obtain ⟨cg,rr⟩:=P;dsimp only at HCh HR2 HSm HLn HOk
     go_upto_region 5 with (go_at_call 42;refine HCh.out.mono ?_;rintro e w3 ⟨Ag,cap,A1,n1,cc,lr,bad,rfl,hr,hW1,hb3,ho3⟩)
     refine qa (TK w w3.heap.size (some l') out Ao co cg Ag cap A1 n1 cc bad lr) (TK.new hJ hb3 hW1 ho3) ?_;generalize w3.heap.size=gc at *
     clear c0 c1 f0 f1 z0 hBX ho hg hW R1 tx hr';clear hJ hb3 hW1 ho3 HCh;intro Y hK;obtain ⟨K1,K2,hJ,hW1,ho3,hgc⟩:=id hK;obtain ⟨k0,k1,k2,k3,k4,k5,p0,p1,p2,p3,p4,p5⟩:=qV K1;obtain ⟨m0,m1,q0,q1⟩:=vN K2;have kz:=K2.lt;have kz1:=K1.lt;have HCk:=Lh (vchk_ cg Ag cap Y.heap.size Y HSm.out.1 (Rd.of_own ho3) (Ld _) HSm.out.2)
     by_cases hK0:vj cg=0
     ·rw [hK0] at HCk;have HR3:Hid (R=qma f' rr (zo (out++[⟨cg,Ag,cap⟩]))):=Lh (by rw [HR2.out,if_pos hK0];unfold zo;rw [List.map_append];rfl);have hlt:=HLn.out hK0;clear HR2 hK0 HLn HSm
      go_upto_region 7 with (go_at_call 43;refine HCk.out.mono ?_;rintro e w5 ⟨rfl,hb5⟩)
      refine qa (TK w gc (some l') out Ao co cg Ag cap A1 n1 cc bad lr) (hK.on hb5) ?_;clear k0 k1 k2 k3 k4 k5 p0 p1 p2 p3 p4 p5 m0 m1 q0 q1 K1 K2 hJ hW1 ho3 hgc kz kz1;clear hK hb5 HCk;intro Z hK;have hln1:out.length+1+lenO rr<=1000:=by
       cases rr with
       | none=>show out.length+1+0<=1000;omega
       | some t=>have:=hlt t rfl;show out.length+1+t.length<=1000;omega
      obtain ⟨K1,K2,hJ,hW1,ho3,hgc⟩:=id hK;obtain ⟨k0,k1,k2,k3,k4,k5,p0,p1,p2,p3,p4,p5⟩:=qV K1;obtain ⟨m0,m1,q0,q1⟩:=vN K2;have kz:=K2.lt;have kz1:=K1.lt;obtain ⟨⟨A',n',c',lz,bad',hr',hW,R1⟩,ho,hg,tx⟩:=id hJ;obtain ⟨c0,c1,f0,f1⟩:=vN R1;have z0:=R1.lt;have htz:=tx.size
      go_wp2_with ((at_builtin;refine qg rfl _ _ _ rfl qmi ((w.heap.size+1)) _ rfl (qb ho L5) _ _ rfl ((qe (xs:=qb5 ⟨cg,Ag,cap⟩) rfl rfl)) ?_;intro A9 c9 w9 hown9 hbel9 hgr9 hat9;have z9:=hbel9.size;(try simp only [Li] at z9);(try simp only [Lo,Lg] at hown9));have hbA:Below Z.heap.size Z (Z.alloc (.cells (qb5 ⟨cg,Ag,cap⟩).toArray 57)):=L5;have R9:=(R1.below hbA R1.lt).below hbel9 (Nat.lt_succ_self _);have K9:=qlA (K2.below hbA K2.lt) hgr9 (qlo (K2.below hbA K2.lt) (qb ho hbA) L2);clear f0 f1 m0 m1 c0 c1;obtain ⟨c0,c1,f0,f1⟩:=vN R9;obtain ⟨m0,m1,-,-⟩:=vN K9)
      have hJ9:=TJ.next (x:=⟨cg,Ag,cap⟩) hJ hW1 hr ho3 hbA hgr9 hbel9 hown9;refine ⟨⟨rr,out++[⟨cg,Ag,cap⟩],f',A9,c9,?_,?_,?_,?_,?_,?_⟩,?_⟩
      ·rw [Lf];rfl
      ·exact hJ9
      ·exact fun x e=>by have:=hlt x e;omega
      ·rw [Lf];exact hln1
      ·exact HOk.out
      ·exact HR3
      ·exact Nat.lt_of_le_of_lt (Nat.le_of_eq hJ9.left) (lenT_lt hlt)
     ·have HR3:Hid (R=qma f' none (zo (out++[⟨cg,Ag,cap⟩]))):=Lh (by rw [HR2.out,if_neg hK0];rfl);have hKb:(vj cg != 0)=true:=Ln.2 hK0;generalize vj cg=K at *
      clear HR2 hK0 HLn HSm HOk hr
      go_upto_region 6 with (go_at_call 43;refine HCk.out.mono ?_;rintro e w5 ⟨rfl,hb5⟩)
      refine qa (TK w gc (some l') out Ao co cg Ag cap A1 n1 cc bad lr) (hK.on hb5) ?_;clear k0 k1 k2 k3 k4 k5 p0 p1 p2 p3 p4 p5 m0 m1 q0 q1 K1 K2 hJ hW1 ho3 hgc kz kz1;clear hK hb5 HCk;intro Y hK;obtain ⟨K1,K2,hJ,hW1,ho3,hgc⟩:=id hK;obtain ⟨k0,k1,k2,k3,k4,k5,p0,p1,p2,p3,p4,p5⟩:=qV K1;obtain ⟨m0,m1,q0,q1⟩:=vN K2;have kz:=K2.lt;have kz1:=K1.lt
      go_upto_region 7 with fail
      refine qa (TK w gc (some l') out Ao co cg Ag cap none 0 0 true []) hK.spoil ?_;clear k0 k1 k2 k3 k4 k5 p0 p1 p2 p3 p4 p5 m0 m1 q0 q1 K1 K2 hJ hW1 ho3 hgc kz kz1;clear hK;intro Z hK;have hln1:out.length+1+lenO none<=1000:=by show out.length+1+0<=1000;omega
      obtain ⟨K1,K2,hJ,hW1,ho3,hgc⟩:=id hK;obtain ⟨k0,k1,k2,k3,k4,k5,p0,p1,p2,p3,p4,p5⟩:=qV K1;obtain ⟨m0,m1,q0,q1⟩:=vN K2;have kz:=K2.lt;have kz1:=K1.lt;obtain ⟨⟨A',n',c',lz,bad',hr',hW,R1⟩,ho,hg,tx⟩:=id hJ;obtain ⟨c0,c1,f0,f1⟩:=vN R1;have z0:=R1.lt;have htz:=tx.size
      go_wp2_with ((at_builtin;refine qg rfl _ _ _ rfl qmi ((w.heap.size+1)) _ rfl (qb ho L5) _ _ rfl ((qe (xs:=qb5 ⟨cg,Ag,cap⟩) rfl rfl)) ?_;intro A9 c9 w9 hown9 hbel9 hgr9 hat9;have z9:=hbel9.size;(try simp only [Li] at z9);(try simp only [Lo,Lg] at hown9));have hbA:Below Z.heap.size Z (Z.alloc (.cells (qb5 ⟨cg,Ag,cap⟩).toArray 57)):=L5;have R9:=(R1.below hbA R1.lt).below hbel9 (Nat.lt_succ_self _);have K9:=qlA (K2.below hbA K2.lt) hgr9 (qlo (K2.below hbA K2.lt) (qb ho hbA) L2);clear f0 f1 m0 m1 c0 c1;obtain ⟨c0,c1,f0,f1⟩:=vN R9;obtain ⟨m0,m1,-,-⟩:=vN K9)
      have hJ9:=TJ.next (x:=⟨cg,Ag,cap⟩) hJ hW1 (show (none:Option (List ByteArray))=y7 true [] from rfl) ho3 hbA hgr9 hbel9 hown9;refine ⟨⟨none,out++[⟨cg,Ag,cap⟩],f',A9,c9,?_,?_,?_,?_,?_,?_⟩,?_⟩
      ·rw [Lf];rfl
      ·exact hJ9
      ·exact fun x e=>by cases e
      ·rw [Lf];exact hln1
      ·exact fun x e=>by cases e
      ·exact HR3
      ·exact Nat.lt_of_le_of_lt (Nat.le_of_eq hJ9.left) (Nat.succ_pos _)
   | false =>
    as_aux_lemma =>
    have HR2:Hid (R=(endV r).map fun n=>(zo out,n)):=Lh (by rw [HR1.out,goV_end (contB_no hcb)]);clear HR1 hcb hf' hlen hok;obtain ⟨E,hE⟩ : ∃ E,Hid (E=endT r):=⟨_,Lh rfl⟩
    have HR3:Hid (R=(E.2.bind fun t=>if t=[] then some E.1 else none).map fun n=>(zo out,n)):=Lh (by rw [HR2.out,endV,hE.out]);clear HR2
    go_upto_block 2 with fail
    go_cut [9] (fun v wx=>v = .int .i64 E.1/\TJ w E.2 out Ao co wx)
    case first =>
     as_aux_lemma =>
     clear HR3;obtain ⟨s1,hs1⟩ : ∃ b,Hid (b=qX r kZ):=⟨_,Lh rfl⟩
     obtain ⟨⟨A',n',c',l',bad',hr',hW,R1⟩,ho,hg,tx⟩:=id hJ;obtain ⟨c0,c1,f0,f1⟩:=vN R1;have z0:=R1.lt;have hBX:=tx.size;have HN:=Lh (tis_ r (.agg #[.slice A' n' c',.bool (!bad')]) kZ w.heap.size X ⟨A',n',c',l',bad',rfl,hW,hr'⟩ hBX);rw [<- hs1.out] at HN
     cases s1 with
     | true =>
      have hE2:Hid (E=(0,r.bind (skO kZ))):=Lh (by rw [hE.out,endT,<- hs1.out];rfl);clear hE hs1
      go_upto_region 15 with ((fail_if_success have:=hb1);go_at_call 41;refine HN.out.mono ?_;rintro e w1 ⟨rfl,hb1⟩;clear c0 c1 f0 f1;have R0:=R1.below hb1 R1.lt;obtain ⟨c0,c1,f0,f1⟩:=vN R0)
      clear HN;refine qa (TJ w r out Ao co) (hJ.on hb1) ?_;clear c0 c1 f0 f1 z0 hBX ho hg hW R1 tx hr';clear hJ
      (try clear hb1 R0)
      (try clear hW1 hr1)
      intro X hJ;obtain ⟨⟨A',n',c',l',bad',hr',hW,R1⟩,ho,hg,tx⟩:=id hJ;obtain ⟨c0,c1,f0,f1⟩:=vN R1;have z0:=R1.lt;have hBX:=tx.size;have HK:=Lh (j6 r (.agg #[.slice A' n' c',.bool (!bad')]) kZ w.heap.size X ⟨A',n',c',l',bad',rfl,hW,hr'⟩ hBX)
      go_wp2_with (go_at_call 44;refine HK.out.mono ?_;rintro e w1 ⟨A1,n1,cc,l1,bad1,rfl,hW1,hr1,hb1⟩;clear c0 c1 f0 f1;have R0:=R1.below hb1 R1.lt;obtain ⟨c0,c1,f0,f1⟩:=vN R0)
      go_meet;rw [hE2.out];exact ⟨rfl,(hJ.on hb1).turn hW1 hr1⟩
     | false =>
      have hE1:Hid (E=if qX r jN=true/\lenO r=1 then (1,r.bind (skO jN)) else ((qv (r.bind (skO jN))).1,if (qv (r.bind (skO jN))).1<2 then none else (qv (r.bind (skO jN))).2.bind (skO jG))):=Lh (by rw [hE.out,endT,<- hs1.out];rfl);clear hE hs1
      go_upto_region 16 with ((fail_if_success have:=hb1);go_at_call 41;refine HN.out.mono ?_;rintro e w1 ⟨rfl,hb1⟩;clear c0 c1 f0 f1;have R0:=R1.below hb1 R1.lt;obtain ⟨c0,c1,f0,f1⟩:=vN R0)
      clear HN;refine qa (TJ w r out Ao co) (hJ.on hb1) ?_;clear c0 c1 f0 f1 z0 hBX ho hg hW R1 tx hr';clear hJ
      (try clear hb1 R0)
      (try clear hW1 hr1)
      intro X hJ;obtain ⟨⟨A',n',c',l',bad',hr',hW,R1⟩,ho,hg,tx⟩:=id hJ;obtain ⟨c0,c1,f0,f1⟩:=vN R1;have z0:=R1.lt;have hBX:=tx.size;have HN:=Lh (tis_ r (.agg #[.slice A' n' c',.bool (!bad')]) jN w.heap.size X ⟨A',n',c',l',bad',rfl,hW,hr'⟩ hBX);have hln:=hW.len;obtain ⟨s2,hs2⟩ : ∃ b,Hid (b=qX r jN):=⟨_,Lh rfl⟩
      rw [<- hs2.out] at HN hE1;have HL1:Hid (s2=true->lenO r=n'):=Lh fun h=>by
       rw [hs2.out] at h;rw [hr'] at h ⊢
       cases bad' with
       | true=>cases h
       | false=>exact hln
      by_cases hc:s2=true/\lenO r=1
      ·as_aux_lemma =>
       have hE2:Hid (E=(1,r.bind (skO jN))):=Lh (by rw [hE1.out,if_pos hc]);have hn1:n'=1:=by rw [<- HL1.out hc.1];exact hc.2
       obtain rfl:=hc.1;have hni:((n':Int)==1)=true:=by rw [hn1];rfl
       clear hE1 hs2 HL1 hc hln hn1
       go_upto_region 17 with ((fail_if_success have:=hb1);go_at_call 41;refine HN.out.mono ?_;rintro e w1 ⟨rfl,hb1⟩;clear c0 c1 f0 f1;have R0:=R1.below hb1 R1.lt;obtain ⟨c0,c1,f0,f1⟩:=vN R0)
       clear HN hni;refine qa (TJ w r out Ao co) (hJ.on hb1) ?_;clear c0 c1 f0 f1 z0 hBX ho hg hW R1 tx hr';clear hJ
       (try clear hb1 R0)
       (try clear hW1 hr1)
       intro X hJ;obtain ⟨⟨A',n',c',l',bad',hr',hW,R1⟩,ho,hg,tx⟩:=id hJ;obtain ⟨c0,c1,f0,f1⟩:=vN R1;have z0:=R1.lt;have hBX:=tx.size;have HK:=Lh (j6 r (.agg #[.slice A' n' c',.bool (!bad')]) jN w.heap.size X ⟨A',n',c',l',bad',rfl,hW,hr'⟩ hBX)
       go_wp2_with (go_at_call 44;refine HK.out.mono ?_;rintro e w1 ⟨A1,n1,cc,l1,bad1,rfl,hW1,hr1,hb1⟩;clear c0 c1 f0 f1;have R0:=R1.below hb1 R1.lt;obtain ⟨c0,c1,f0,f1⟩:=vN R0)
       go_meet;rw [hE2.out];exact ⟨rfl,(hJ.on hb1).turn hW1 hr1⟩
      ·as_aux_lemma =>
       have hE2:Hid (E=((qv (r.bind (skO jN))).1,if (qv (r.bind (skO jN))).1<2 then none else (qv (r.bind (skO jN))).2.bind (skO jG))):=Lh (by rw [hE1.out,if_neg hc]);have HN2:Hid (s2=true->((n':Int)==1)=false):=Lh fun h=>Lm.2 fun e=>hc ⟨h,by rw [HL1.out h];omega⟩
       clear hE1 hs2 HL1 hc hln
       cases s2 with
       | false =>
        go_upto_region 10 with ((fail_if_success have:=hb1);go_at_call 41;refine HN.out.mono ?_;rintro e w1 ⟨rfl,hb1⟩;clear c0 c1 f0 f1;have R0:=R1.below hb1 R1.lt;obtain ⟨c0,c1,f0,f1⟩:=vN R0)
        clear HN HN2;refine qa (TJ w r out Ao co) (hJ.on hb1) ?_;clear c0 c1 f0 f1 z0 hBX ho hg hW R1 tx hr';clear hJ
        (try clear hb1 R0)
        (try clear hW1 hr1)
        intro X hJ;obtain ⟨⟨A',n',c',l',bad',hr',hW,R1⟩,ho,hg,tx⟩:=id hJ;obtain ⟨c0,c1,f0,f1⟩:=vN R1;have z0:=R1.lt;have hBX:=tx.size;obtain ⟨x,hx⟩ : ∃ x,Hid (x=qv (r.bind (skO jN))):=⟨_,Lh rfl⟩
        have hE3:Hid (E=(x.1,if x.1<2 then none else x.2.bind (skO jG))):=Lh (by rw [hE2.out,hx.out]);have HU:=Lh (qk5 r (.agg #[.slice A' n' c',.bool (!bad')]) jN w.heap.size X ⟨A',n',c',l',bad',rfl,hW,hr'⟩ hBX (HT.out.below tx));rw [<- hx.out] at HU;clear hE2 hx
        go_upto_region 11 with (go_at_call 45;refine HU.out.mono ?_;rintro e w1 ⟨A1,n1,cc,l1,bad1,rfl,hW1,hr1,hb1⟩;clear c0 c1 f0 f1;have R0:=R1.below hb1 R1.lt;obtain ⟨c0,c1,f0,f1⟩:=vN R0)
        clear HU;refine qa (TJ w x.2 out Ao co) ((hJ.on hb1).turn hW1 hr1) ?_;clear c0 c1 f0 f1 z0 hBX ho hg hW R1 tx hr';clear hJ
        (try clear hb1 R0)
        (try clear hW1 hr1)
        intro X hJ;obtain ⟨⟨A',n',c',l',bad',hr',hW,R1⟩,ho,hg,tx⟩:=id hJ;obtain ⟨c0,c1,f0,f1⟩:=vN R1;have z0:=R1.lt;have hBX:=tx.size;have HK:=Lh (j6 x.2 (.agg #[.slice A' n' c',.bool (!bad')]) jG w.heap.size X ⟨A',n',c',l',bad',rfl,hW,hr'⟩ hBX)
        go_upto_region 12 with (go_at_call 44;refine HK.out.mono ?_;rintro e w1 ⟨A1,n1,cc,l1,bad1,rfl,hW1,hr1,hb1⟩;clear c0 c1 f0 f1;have R0:=R1.below hb1 R1.lt;obtain ⟨c0,c1,f0,f1⟩:=vN R0)
        clear HK;refine qa (TJ w (x.2.bind (skO jG)) out Ao co) ((hJ.on hb1).turn hW1 hr1) ?_;clear c0 c1 f0 f1 z0 hBX ho hg hW R1 tx hr';clear hJ
        (try clear hb1 R0)
        (try clear hW1 hr1)
        intro X hJ;obtain ⟨⟨A',n',c',l',bad',hr',hW,R1⟩,ho,hg,tx⟩:=id hJ;obtain ⟨c0,c1,f0,f1⟩:=vN R1;have z0:=R1.lt;have hBX:=tx.size;obtain ⟨xn,xr⟩:=x;dsimp only at *
        by_cases h2:xn<2
        ·go_wp2;go_meet;rw [hE3.out,if_pos h2];exact ⟨rfl,hJ.turn (bad:=true) (lr:=[]) (WdR.nil X _) rfl⟩
        ·go_wp2;go_meet;rw [hE3.out,if_neg (show ¬ xn<2 by omega)];exact ⟨rfl,hJ⟩
       | true =>
        have hni:=HN2.out rfl
        go_upto_region 10 with ((fail_if_success have:=hb1);go_at_call 41;refine HN.out.mono ?_;rintro e w1 ⟨rfl,hb1⟩;clear c0 c1 f0 f1;have R0:=R1.below hb1 R1.lt;obtain ⟨c0,c1,f0,f1⟩:=vN R0)
        clear HN HN2 hni;refine qa (TJ w r out Ao co) (hJ.on hb1) ?_;clear c0 c1 f0 f1 z0 hBX ho hg hW R1 tx hr';clear hJ
        (try clear hb1 R0)
        (try clear hW1 hr1)
        intro X hJ;obtain ⟨⟨A',n',c',l',bad',hr',hW,R1⟩,ho,hg,tx⟩:=id hJ;obtain ⟨c0,c1,f0,f1⟩:=vN R1;have z0:=R1.lt;have hBX:=tx.size;obtain ⟨x,hx⟩ : ∃ x,Hid (x=qv (r.bind (skO jN))):=⟨_,Lh rfl⟩
        have hE3:Hid (E=(x.1,if x.1<2 then none else x.2.bind (skO jG))):=Lh (by rw [hE2.out,hx.out]);have HU:=Lh (qk5 r (.agg #[.slice A' n' c',.bool (!bad')]) jN w.heap.size X ⟨A',n',c',l',bad',rfl,hW,hr'⟩ hBX (HT.out.below tx));rw [<- hx.out] at HU;clear hE2 hx
        go_upto_region 11 with (go_at_call 45;refine HU.out.mono ?_;rintro e w1 ⟨A1,n1,cc,l1,bad1,rfl,hW1,hr1,hb1⟩;clear c0 c1 f0 f1;have R0:=R1.below hb1 R1.lt;obtain ⟨c0,c1,f0,f1⟩:=vN R0)
        clear HU;refine qa (TJ w x.2 out Ao co) ((hJ.on hb1).turn hW1 hr1) ?_;clear c0 c1 f0 f1 z0 hBX ho hg hW R1 tx hr';clear hJ
        (try clear hb1 R0)
        (try clear hW1 hr1)
        intro X hJ;obtain ⟨⟨A',n',c',l',bad',hr',hW,R1⟩,ho,hg,tx⟩:=id hJ;obtain ⟨c0,c1,f0,f1⟩:=vN R1;have z0:=R1.lt;have hBX:=tx.size;have HK:=Lh (j6 x.2 (.agg #[.slice A' n' c',.bool (!bad')]) jG w.heap.size X ⟨A',n',c',l',bad',rfl,hW,hr'⟩ hBX)
        go_upto_region 12 with (go_at_call 44;refine HK.out.mono ?_;rintro e w1 ⟨A1,n1,cc,l1,bad1,rfl,hW1,hr1,hb1⟩;clear c0 c1 f0 f1;have R0:=R1.below hb1 R1.lt;obtain ⟨c0,c1,f0,f1⟩:=vN R0)
        clear HK;refine qa (TJ w (x.2.bind (skO jG)) out Ao co) ((hJ.on hb1).turn hW1 hr1) ?_;clear c0 c1 f0 f1 z0 hBX ho hg hW R1 tx hr';clear hJ
        (try clear hb1 R0)
        (try clear hW1 hr1)
        intro X hJ;obtain ⟨⟨A',n',c',l',bad',hr',hW,R1⟩,ho,hg,tx⟩:=id hJ;obtain ⟨c0,c1,f0,f1⟩:=vN R1;have z0:=R1.lt;have hBX:=tx.size;obtain ⟨xn,xr⟩:=x;dsimp only at *
        by_cases h2:xn<2
        ·go_wp2;go_meet;rw [hE3.out,if_pos h2];exact ⟨rfl,hJ.turn (bad:=true) (lr:=[]) (WdR.nil X _) rfl⟩
        ·go_wp2;go_meet;rw [hE3.out,if_neg (show ¬ xn<2 by omega)];exact ⟨rfl,hJ⟩
    case rest =>
     as_aux_lemma =>
     clear hJ hE;obtain ⟨rfl,hJ⟩:=hcut;obtain ⟨N,r3⟩:=E;dsimp only at hJ HR3;obtain ⟨⟨A',n',c',l',bad',hr',hW,R1⟩,ho,hg,tx⟩:=id hJ;obtain ⟨c0,c1,f0,f1⟩:=vN R1;have z0:=R1.lt;have hBX:=tx.size;have hln:=hW.len
     cases bad' with
     | true =>
      replace c1:wc.cell? ⟨w.heap.size,1,none⟩=some (.bool false):=c1;have HR4:Hid (R=none):=Lh (by rw [HR3.out,hr'];rfl);clear HR3 hr';go_wp2;go_ret3;rw [HR4.out];exact ⟨tx.alloc hBX _,_,rfl⟩
     | false =>
      replace c1:wc.cell? ⟨w.heap.size,1,none⟩=some (.bool true):=c1
      by_cases hn:n'=0
      ·have HR4:Hid (R=some (zo out,N)):=Lh (by rw [HR3.out,hr',List.length_eq_zero_iff.1 (hln.trans hn)];rfl);subst hn;clear HR3 hr';go_wp2;go_ret3;rw [HR4.out];exact ⟨tx,out,Ao,co,rfl,rfl,qt ho L0,hg.less L0⟩
      ·have hne:l'≠[]:=fun e=>hn (by rw [<- hln,e];rfl)
       have HR4:Hid (R=none):=Lh (by rw [HR3.out,hr'];show ((if l'=[] then some N else none).map _)=none;rw [if_neg hne];rfl);have hi:(0:Int)<n':=by omega
       clear HR3 hr' hn hne;go_wp2;go_ret3;rw [HR4.out];exact ⟨tx.alloc hBX _,_,rfl⟩
def RhR (B:Nat) (A0:Option Addr) (n0 c0:Nat) (rs0:List RowM) (r:Md × Int) (w:World) (e:Ending) (w':World):Prop :=
 Below w.heap.size w w'/\∃ A n c rs,e = .returned (.tuple #[.agg (mdC r.1 A n c),.int .i64 r.2])/\XV B w.heap.size w' r.1.view A n c rs/\SaR w.heap.size A0 n0 c0 rs0 w' r.1.view A n c rs
theorem rhear42_ (m:Md) (A:Option Addr) (n c B:Nat) (rs:List RowM) (l:List ByteArray) (Aw:Option Addr) (nw cw:Nat) (w:World) (rd:RdV w B m.view A n c rs) (hB:B<=w.heap.size) (hM : ∀ x∈rs,x.l.length<=1000) (hz : ∀ x∈rs,∀ g∈x.l,g.text.size<=1000000000)
  (hW:WdR w w.heap.size l Aw nw cw) (hl:l.length<=1000) (hF : ∀ cs k,jm l=some (cs,k)->Few cs k) (ht:Tb w) :
  Calls prog 9 #[.agg (mdC m A n c),.slice Aw nw cw] w (RhR B A n c rs (yT m l) w):=by
 have HP:Hid (∀ w',Below w.heap.size w w'->Calls prog 13 #[.agg (mdC m A n c)] w' (qh (.bool (vu m)) w')):=Lh fun w' hb=>qbM m A n c w.heap.size rs w' ((rd.more hB).below hb) hb.size (fun x hx=>⟨Lj (hM x hx) L2,hz x hx⟩)
 have HC:Hid (∀ w',Below w.heap.size w w'->Calls prog 21 #[.slice Aw nw cw] w' (TcR (jm l) w')):=Lh fun w' hb=>qmt l Aw nw cw w' (qmf (hW.below hb) hb.size) hl (ht.below hb)
 have HA:Hid (∀ cs out Ac nc cc w',Below w.heap.size w w'->(∃ k,Few cs k)->zo out=cs->RdC w' w'.heap.size Ac nc out->nc<=cc/\cc<=maxLen->Calls prog 22 #[.agg (vwC m.view A n c),.slice Ac nc cc] w' (RaR B A n c rs (yx m.view cs) w')):=Lh fun cs out Ac nc cc w' hb ⟨k,hf⟩ he hr hcc=>by
  subst he;have h1 : ∀ x∈out,x.c∈zo out:=fun x hx=>List.mem_map_of_mem hx
  have h2:=hr.len;have h3:=hf.len;rw [zo,Lq] at h3;exact qkW m.view A n c B rs out Ac nc cc w' (rd.below (hb.mono hB)) hr hcc.1 hcc.2 (Lj hB hb.size) (fun x hx=>by have:=hM x hx;have:=hf.sum;omega) hz (fun x hx=>hf.gl _ (h1 x hx)) L0
 have HF:=Lh hF;unfold yT MaxT;clear rd hM hz hW hF ht;obtain ⟨⟨W,H,rows,r,cl,vs⟩,U⟩:=m;dsimp only at HP HA ⊢;have hpr:vu ⟨⟨W,H,rows,r,cl,vs⟩,U⟩=true->0<=U/\U<=1099511627776:=fun h=>by
  unfold vu MaxT at h;exact (of_decide_eq_true h).2
 generalize vu ⟨⟨W,H,rows,r,cl,vs⟩,U⟩=P at *
 cases P with
 | false =>
  rw [if_pos rfl];clear HC HA HF hpr
  go_enter func9,ntmps9
  go_upto_region 1 with fail
  refine qa (HrX w ⟨⟨W,H,rows,r,cl,vs⟩,U⟩ A n c) ⟨(Blk.new_ rfl).below L5 L1,Blk.new_ L1,(L5).alloc L1 _⟩ ?_;intro X hX;obtain ⟨c0,c1,c2,c3,c4,c5,c6,hl,hb⟩:=hX.facts
  go_upto_region 2 with (go_at_call 13;refine (HP.out _ hb).mono ?_;rintro e w1 ⟨rfl,hb1⟩;have hX1:=hX.on hb1;have hbw1:=hX1.2.2)
  have hZ:=hX1.2.1;obtain ⟨z0,z1,z2,z3,z4,z5,z6,y0,y1,y2,y3,y4,y5,y6⟩:=ZM.facts hZ;go_wp2;exact bodyPost_ret (vG rfl _ _ (w.heap.size+1) 26 _ (0,0) _ rfl (ZM.set7 hX1.2.1 md0 none 0 0) underlying26 rfl yy) rfl ⟨yX hX1.2.2 (Nat.le_succ _) md0 none 0 0,none,0,0,[],rfl,.inr (OwV.none_ _ _),.inr (OwV.none_ _ _)⟩
 | true =>
  rw [if_neg L1];have hU:=hpr rfl;clear hpr;generalize jm l=o at *
  cases o with
  | none =>
   dsimp only;clear HA HF;have h17:((17:Int) != 0)=true:=rfl
   go_enter func9,ntmps9
   go_upto_region 1 with fail
   refine qa (HrX w ⟨⟨W,H,rows,r,cl,vs⟩,U⟩ A n c) ⟨(Blk.new_ rfl).below L5 L1,Blk.new_ L1,(L5).alloc L1 _⟩ ?_;intro X hX;obtain ⟨c0,c1,c2,c3,c4,c5,c6,hl,hb⟩:=hX.facts
   go_upto_region 4 with (first | (go_at_call 13;refine (HP.out _ hb).mono ?_;rintro e w1 ⟨rfl,hb1⟩;have hX1:=hX.on hb1;have hbw1:=hX1.2.2) | (go_at_call 21;refine (HC.out _ hbw1).mono ?_;rintro e w2 ⟨hb2,A2,rfl⟩;have hX2:=hX1.on hb2))
   have hZ:=hX2.2.1;obtain ⟨z0,z1,z2,z3,z4,z5,z6,y0,y1,y2,y3,y4,y5,y6⟩:=ZM.facts hZ;go_wp2;exact bodyPost_ret (vG rfl _ _ (w.heap.size+1) 26 _ (0,0) _ rfl (ZM.set7 hX2.2.1 md0 none 0 0) underlying26 rfl yy) rfl ⟨yX hX2.2.2 (Nat.le_succ _) md0 none 0 0,none,0,0,[],rfl,.inr (OwV.none_ _ _),.inr (OwV.none_ _ _)⟩
  | some x =>
   obtain ⟨cs,k⟩:=x;have hf:=HF.out cs k rfl;have hk:=hf.num;have HA2:Hid (∀ out Ac nc cc w',Below w.heap.size w w'->zo out=cs->RdC w' w'.heap.size Ac nc out->nc<=cc/\cc<=maxLen->Calls prog 22 #[.agg (vwC ⟨W,H,rows,r,cl,vs⟩ A n c),.slice Ac nc cc] w' (RaR B A n c rs (yx ⟨W,H,rows,r,cl,vs⟩ cs) w')):=Lh fun out Ac nc cc w' hb he hr hcc=>HA.out cs out Ac nc cc w' hb ⟨k,hf⟩ he hr hcc
   clear HA HF hf;dsimp only;generalize yx ⟨W,H,rows,r,cl,vs⟩ cs=R at *
   obtain ⟨⟨vw,vh,vr,vy,vx,vv⟩,E⟩:=R;dsimp only;obtain ⟨RR,hRR⟩ : ∃ RR,Hid ((if E≠0 then (md0,E) else if 1099511627776<U+k then (md0,5) else ((⟨⟨vw,vh,vr,vy,vx,vv⟩,U+k⟩:Md),(0:Int)))=RR):=⟨_,Lh rfl⟩
   rw [hRR.out];have h00:((0:Int) != 0)=false:=rfl;have hwr:IntKind.i64.wrap (U+k)=U+k:=by rw [Lx];omega
   go_enter func9,ntmps9
   go_upto_region 1 with fail
   refine qa (HrX w ⟨⟨W,H,rows,r,cl,vs⟩,U⟩ A n c) ⟨(Blk.new_ rfl).below L5 L1,Blk.new_ L1,(L5).alloc L1 _⟩ ?_;intro X hX;obtain ⟨c0,c1,c2,c3,c4,c5,c6,hl,hb⟩:=hX.facts
   go_upto_region 4 with (first | (go_at_call 13;refine (HP.out _ hb).mono ?_;rintro e w1 ⟨rfl,hb1⟩;have hX1:=hX.on hb1;have hbw1:=hX1.2.2) | (go_at_call 21;refine (HC.out _ hbw1).mono ?_;rintro e w2 ⟨hb2,out,Ac,cc,he,rfl,ho,hg⟩))
   have hX2:=hX1.on hb2;have hAp:Hid (Calls prog 22 #[.agg (vwC ⟨W,H,rows,r,cl,vs⟩ A n c),.slice Ac out.length cc] w2 fun e w''=>∃ A7 n7 c7 rs7,∃ i:Int,e = .returned (.tuple #[.agg #[.int .i64 vw,.int .i64 vh,.slice A7 n7 c7,.int .i64 vy,.int .i64 vx,.bool vv],.int .i64 i,.int .i64 E])/\(XV B w2.heap.size w'' ⟨vw,vh,vr,vy,vx,vv⟩ A7 n7 c7 rs7/\SaR w2.heap.size A n c rs w'' ⟨vw,vh,vr,vy,vx,vv⟩ A7 n7 c7 rs7)/\Below w2.heap.size w2 w'') :=
    Lh ((HA2.out out Ac out.length cc w2 hX2.2.2 he (hg.rdc ho) (qas ho)).mono fun e w'' ⟨h1,A7,n7,c7,rs7,i,h2,h3⟩=>⟨A7,n7,c7,rs7,i,h2,h3,h1⟩)
   generalize out.length=no at *
   clear HP HC HA2 hg ho he hX1 hX hb1 hbw1 hb2 c0 c1 c2 c3 c4 c5 c6 hl hb;obtain ⟨d0,d1,d2,d3,d4,d5,d6,hlY,hbY⟩:=HrX.facts hX2
   by_cases hE:E=0
   ·subst hE;have hR1:=hRR.out;rw [if_neg (show ¬ ((0:Int)≠0) from fun h=>h rfl)] at hR1;have hRz:=Lh hR1;clear hRR hR1
    go_upto_region 7 with (go_at_call 22;refine hAp.out.mono ?_;rintro e w3 ⟨A3,n3,e3,rs3,i3,rfl,hv,hb3⟩)
    have hzz:=hb3.size;have hB1:B<=w.heap.size+1:=by omega
    have hB2:B<=w2.heap.size:=by omega
    refine qa (fun Y=>Below w2.heap.size w2 Y/\(XV B w2.heap.size Y ⟨vw,vh,vr,vy,vx,vv⟩ A3 n3 e3 rs3/\SaR w2.heap.size A n c rs Y ⟨vw,vh,vr,vy,vx,vv⟩ A3 n3 e3 rs3)/\Blk Y w3.heap.size 24 (vwC ⟨vw,vh,vr,vy,vx,vv⟩ A3 n3 e3)) ⟨hb3.alloc hb3.size _,⟨hv.1.below (Lj hB2 hb3.size) L5,hv.2.below L5⟩,Blk.new_ rfl⟩ ?_;rintro Y ⟨hY,⟨hoY,hsY⟩,hBY⟩;have hX3:=hX2.on hY;have hZ:=hX3.2.1;obtain ⟨z0,z1,z2,z3,z4,z5,z6,y0,y1,y2,y3,y4,y5,y6⟩:=ZM.facts hZ;have hl2:w.heap.size+1<w2.heap.size:=hlY;clear hX2 d0 d1 d2 d3 d4 d5 d6 hlY hbY;obtain ⟨d0,d1,d2,d3,d4,d5,d6,hlY,hbY⟩:=HrX.facts hX3;clear d0 d1 d2 d3 d4 d5;obtain ⟨v0,v1,v2,v3,v4,v5⟩:=qw hBY;dsimp only at v0 v1 v3 v4 v5;have hng:w.heap.size+1≠w3.heap.size:=by omega
    by_cases hT:1099511627776<U+k
    ·have hRe:Hid (RR=(md0,5)):=Lh (by rw [<- hRz.out,if_pos hT]);have hd:decide (1099511627776<U+k)=true:=Ll hT;clear hRz hT;go_wp2;exact bodyPost_ret (vG rfl _ _ (w.heap.size+1) 26 _ (0,0) _ rfl (ZM.set7 hX3.2.1 md0 none 0 0) underlying26 rfl yy) rfl (by rw [hRe.out];exact ⟨yX hX3.2.2 (Nat.le_succ _) md0 none 0 0,none,0,0,[],rfl,.inr (OwV.none_ _ _),.inr (OwV.none_ _ _)⟩)
    ·have hRe:Hid (RR=(⟨⟨vw,vh,vr,vy,vx,vv⟩,U+k⟩,0)):=Lh (by rw [<- hRz.out,if_neg hT]);have hd:decide (1099511627776<U+k)=false:=Lk hT;have hR:=ZM.set7 hZ ⟨⟨vw,vh,vr,vy,vx,vv⟩,U+k⟩ A3 n3 e3;have ho7:=Lh (((((((hoY.far (p:=⟨w.heap.size+1,0,none⟩) hB1 hl2 (.int .i64 vw)).far (p:=⟨w.heap.size+1,1,none⟩) hB1 hl2 (.int .i64 vh)).far (p:=⟨w.heap.size+1,2,none⟩) hB1 hl2 (.slice A3 n3 e3)).far (p:=⟨w.heap.size+1,3,none⟩) hB1 hl2 (.int .i64 vy)).far (p:=⟨w.heap.size+1,4,none⟩) hB1 hl2 (.int .i64 vx)).far (p:=⟨w.heap.size+1,5,none⟩) hB1 hl2 (.bool vv)).far (p:=⟨w.heap.size+1,6,none⟩) hB1 hl2 (.int .i64 (U+k)));have hb7:=yX hX3.2.2 (Nat.le_succ _) ⟨⟨vw,vh,vr,vy,vx,vv⟩,U+k⟩ A3 n3 e3;have hs7:=Lh ((hsY.set6 (g:=w.heap.size+1) hl2 (.int .i64 vw) (.int .i64 vh) (.slice A3 n3 e3) (.int .i64 vy) (.int .i64 vx) (.bool vv)).imp id fun h=>h.far (p:=⟨w.heap.size+1,6,none⟩) hl2 (.int .i64 (U+k)));clear hoY hsY hv hX3 hZ hBY hRz hT;go_wp2;exact bodyPost_ret (vG rfl _ _ (w.heap.size+1) 26 _ (0,0) _ rfl hR underlying26 rfl yy) rfl (by rw [hRe.out];exact ⟨hb7,A3,n3,e3,rs3,rfl,ho7.out.less L0,SaR.less hs7.out L0⟩)
   ·have hRe:Hid (RR=(md0,E)):=Lh (by rw [<- hRR.out,if_pos hE]);clear hRR;have hEn:(E != 0)=true:=Ln.2 hE;clear hE
    go_upto_region 7 with (go_at_call 22;refine hAp.out.mono ?_;rintro e w3 ⟨A3,n3,e3,rs3,i3,rfl,hv,hb3⟩)
    refine qa (fun Y=>Below w2.heap.size w2 Y) (hb3.alloc hb3.size _) ?_;intro Y hY;have hX3:=hX2.on hY;have hZ:=hX3.2.1;obtain ⟨z0,z1,z2,z3,z4,z5,z6,y0,y1,y2,y3,y4,y5,y6⟩:=ZM.facts hZ;clear hX2 d0 d1 d2 d3 d4 d5 d6;go_wp2;exact bodyPost_ret (vG rfl _ _ (w.heap.size+1) 26 _ (0,0) _ rfl (ZM.set7 hX3.2.1 md0 none 0 0) underlying26 rfl yy) rfl (by rw [hRe.out];exact ⟨yX hX3.2.2 (Nat.le_succ _) md0 none 0 0,none,0,0,[],rfl,.inr (OwV.none_ _ _),.inr (OwV.none_ _ _)⟩)
end Go.Proofs.YtbogmeeijdaijaaGreatDoor
