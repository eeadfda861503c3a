/- Joined: Ur1, Ur2, Pa5. -/
import Derived.Test.YtbogmeeijdaijaaGreatDoorZAI
set_option linter.unusedVariables false
set_option linter.unusedSimpArgs false
set_option linter.unnecessarySimpa false
set_option maxHeartbeats 4000000
namespace Go.Proofs.YtbogmeeijdaijaaGreatDoor
open Go.Proofs.Tryz Go.RowKit
set_option maxRecDepth 20000
structure WdR (w:World) (B:Nat) (l:List ByteArray) (A:Option Addr) (n c:Nat):Prop where
 len:l.length=n
 cap:n<=c
 max:c<=maxLen
 rd:Rd w B 1 A n (sv l)
 sz : ∀ s∈l,s.size<=1000
theorem WdR.below {w w':World} {B:Nat} {l:List ByteArray} {A:Option Addr} {n c:Nat} (h:WdR w B l A n c) (hb:Below B w w'):WdR w' B l A n c:=⟨h.len,h.cap,h.max,h.rd.below hb,h.sz⟩
theorem WdR.nil (w:World) (B:Nat):WdR w B [] none 0 0:=⟨rfl,Ld _,Nat.zero_le _,Rd.none_,fun s hs=>by cases hs⟩
theorem WdR.cut {w:World} {B:Nat} {l:List ByteArray} {A:Option Addr} {n c k:Nat} (h:WdR w B l A n c) (hk:k<=n):WdR w B (l.drop k) (if c=k then A else A.map (·.add (k * 1))) (n-k) (c-k):=by
 have hr:=h.rd.cut (k:=k) hk h.cap;rw [show (sv l).drop (k * 1)=sv (l.drop k) by simp [sv]] at hr;have:=h.len;have:=h.cap;have:=h.max;exact ⟨by rw [List.length_drop];omega,by omega,by omega,hr,fun s hs=>h.sz s (List.mem_of_mem_drop hs)⟩
def y7 (bad:Bool) (l:List ByteArray):Option (List ByteArray):=if bad=true then none else some l
def RV (w:World) (B:Nat) (r:Option (List ByteArray)) (v:Value):Prop:=∃ A n c l bad,v = .agg #[.slice A n c,.bool bad]/\WdR w B l A n c/\r=y7 bad l
theorem RV.below {w w':World} {B:Nat} {r:Option (List ByteArray)} {v:Value} (h:RV w B r v) (hb:Below B w w'):RV w' B r v:=by
 obtain ⟨A,n,c,l,bad,h1,h2,h3⟩:=h;exact ⟨A,n,c,l,bad,h1,h2.below hb,h3⟩
theorem RV.bad (w:World) (B:Nat):RV w B none (.agg #[.slice none 0 0,.bool true]):=⟨none,0,0,[],true,rfl,WdR.nil w B,rfl⟩
def qX (r:Option (List ByteArray)) (s:ByteArray):Bool:=match r with
 | some l=>vT s l
 | none=>false
theorem qdo (r:Option (List ByteArray)) (v:Value) (s:ByteArray) (B:Nat) (w:World) (h:RV w B r v) (hB:B<=w.heap.size):Calls prog 33 #[v,.string s] w (qh (.bool (qX r s)) w):=by
 obtain ⟨A,n,c,l,bad,rfl,hW,rfl⟩:=h
 cases bad with
 | true =>
  clear hW
  show Calls _ _ _ _ (qh (.bool false) w)
  go_enter func33,ntmps33
  go_wp2;go_ret;exact ⟨rfl,L5⟩
 | false =>
  show Calls _ _ _ _ (qh (.bool (vT s l)) w)
  cases l with
  | nil =>
   obtain rfl:n=0:=hW.len.symm;clear hW
   show Calls _ _ _ _ (qh (.bool false) w)
   go_enter func33,ntmps33
   go_wp2;go_ret;exact ⟨rfl,L5⟩
  | cons a t =>
   have hn:0<n:=by have:=hW.len;simp at this;omega
   have hi:(0:Int)<n:=by omega
   obtain ⟨b,o,rfl,hb,hca⟩:=hW.rd.at_ hn;have ha:w.cell? ⟨b,o,none⟩=some (.string a):=hca;have hbl:b<w.heap.size:=by omega
   have q:(a.toList==s.toList)=vT s (a::t):=jO a s;generalize vT s (a::t)=R at *
   clear hW hca
   go_enter func33,ntmps33
   go_wp2;go_ret;exact ⟨rfl,L5⟩
def yS:Option (List ByteArray)->List ByteArray->Option (List ByteArray)
 | r,[]=>r
 | r,s::t=>yS (r.bind (skO s)) t
theorem qcS : ∀ ws:List ByteArray,yS none ws=none
 | []=>rfl
 | _::t=>qcS t
theorem qlx {r:Option (List ByteArray)} {s:ByteArray} (h:qX r s=false):r.bind (skO s)=none:=by
 cases r with
 | none=>rfl
 | some l =>
  cases l with
  | nil=>rfl
  | cons a t =>
   have:a≠s:=fun e=>by rw [e] at h;simp [qX,vT] at h
   show (if a=s then some t else none)=none
   rw [if_neg this]
theorem qj9 {bad:Bool} {l:List ByteArray} {s:ByteArray} (h:qX (y7 bad l) s=true):bad=false/\∃ t,l=s::t/\(y7 bad l).bind (skO s)=some t:=by
 cases bad with
 | true=>cases h
 | false =>
  cases l with
  | nil=>cases h
  | cons a t =>
   have e:a=s:=by simpa [qX,y7,vT] using h
   subst e;exact ⟨rfl,t,rfl,yL _ _⟩
theorem zG:(prog.info? 72).map (fun x=>x.size)=some 2:=by kernel_rfl
theorem vd {w:World} {g:Nat} {t:TypeId} {a b a' b':Value} (h:Blk w g t #[a,b]):Blk ((w.setCell ⟨g,0,none⟩ a').setCell ⟨g,1,none⟩ b') g t #[a',b']:=by
 have:=(h.set_ 0 a').set_ 1 b'
 simpa using this
def RX (w:World) (B:Nat) (bad:Bool) (l:List ByteArray) (wx:World):Prop :=
 ∃ A n c,WdR w B l A n c/\Blk wx w.heap.size 72 #[.slice A n c,.bool bad]/\Blk wx (w.heap.size+1) 72 #[.slice none 0 0,.bool false]/\Below w.heap.size w wx
theorem RX.below {w wx wy:World} {B:Nat} {bad:Bool} {l:List ByteArray} (h:RX w B bad l wx) (hb:Below wx.heap.size wx wy):RX w B bad l wy:=by
 obtain ⟨A,n,c,h1,h2,h3,h4⟩:=h;have:=h2.lt;exact ⟨A,n,c,h1,h2.below hb h2.lt,h3.below hb h3.lt,h4.trans (hb.mono L0)⟩
theorem RX.turn {w w1:World} {B:Nat} {bad:Bool} {l:List ByteArray} {A0 A:Option Addr} {n0 c0 n c:Nat} (C1:Blk w1 w.heap.size 72 #[.slice A0 n0 c0,.bool bad]) (C2:Blk w1 (w.heap.size+1) 72 #[.slice none 0 0,.bool false]) (tx:Below w.heap.size w w1) (h:WdR w B l A n c) :
  RX w B bad l (w1.setCell ⟨w.heap.size,0,none⟩ (.slice A n c)):=by
 refine ⟨A,n,c,h,?_,C2.far (p:=⟨w.heap.size,0,none⟩) L7 _,tx.setCell (Ld _) _⟩;have:=C1.set_ 0 (.slice A n c)
 simpa using this
def RRet (w:World) (B:Nat) (r:Option (List ByteArray)) (F:Value->Value) (e:Ending) (w':World):Prop:=∃ v,e = .returned (F v)/\RV w B r v/\Below w.heap.size w w'
theorem uskip_ (r:Option (List ByteArray)) (v:Value) (ws:List ByteArray) (Aw:Option Addr) (nw cw:Nat) (B:Nat) (w:World) (h:RV w B r v) (hB:B<=w.heap.size) (hw:ws.length=nw) (hws:nw<=1000) (rdw:Rd w w.heap.size 1 Aw nw (sv ws)) :
  Calls prog 60 #[v,.slice Aw nw cw] w (RRet w B (yS r ws) id):=by
 obtain ⟨A,n,c,l,bad,rfl,hW,rfl⟩:=h;obtain ⟨R,hR⟩ : ∃ x,x=yS (y7 bad l) ws:=⟨_,rfl⟩
 rw [<- hR];have hX:RX w B bad l ((w.alloc (.cells #[.slice A n c,.bool bad] 72)).alloc (.cells #[.slice none 0 0,.bool false] 72)) :=
  ⟨A,n,c,hW,Blk.alloc (Blk.new w _ _) _,Blk.new_ L1,(L5).alloc L1 _⟩
 have H0:Hid (R=yS (y7 bad l) (ws.drop 0)):=Lh hR;have HRw:=Lh rdw;have HNw:=Lh hw;clear hR hW rdw hw
 go_enter func60,ntmps60
 go_upto_region 1 with fail
 refine qa (RX w B bad l) hX ?_;clear hX;intro X hX;go_wp2
 go_loopw [9] (fun x wr=>∃ (k:Nat) (l':List ByteArray),k<=nw/\x = .int .i64 k/\RX w B bad l' wr/\Hid (R=yS (y7 bad l') (ws.drop k))) (fun x _=>nw-(intOf x).toNat)
 case atStart=>exact ⟨0,l,Nat.zero_le _,rfl,hX,H0⟩
 case round =>
  clear hX H0;obtain ⟨k,l',hk,rfl,hX,HK⟩:=hrel;obtain ⟨A',n',c',hW,B1,B2,tx⟩:=id hX;have z1:=B2.lt;have z0:=B1.lt;have c0:=B1.cell 0;have c1:=B1.cell 1;have d0:=B2.cell 0;have d1:=B2.cell 1;have f0:=B1.frozen 0;have f1:=B1.frozen 1;have g0:=B2.frozen 0;have g1:=B2.frozen 1;simp only [La,Lb,Lc] at c0 c1 d0 d1
  by_cases hlt:k<nw
  ·have hkl:k<ws.length:=by have:=HNw.out;omega
   obtain ⟨bw,ow,rfl,hbw,hcw⟩:=HRw.out.at_ hlt;rw [yM _ _ hkl] at hcw;replace hcw:=(tx.cell (p:=⟨bw,ow+k,none⟩) hbw).trans hcw;have HD:Hid (yS (y7 bad l') (ws.drop k)=yS ((y7 bad l').bind (skO ws[k])) (ws.drop (k+1))):=Lh (by rw [Ls hkl];rfl);have HNx:=Lh (qdo (y7 bad l') (.agg #[.slice A' n' c',.bool bad]) ws[k] B wr ⟨A',n',c',l',bad,rfl,hW.below (tx.mono hB),rfl⟩ (Lj hB tx.size));generalize ws[k]=s at *
   cases hnx:qX (y7 bad l') s with
   | false =>
    have HR2:Hid (R=none):=Lh (by rw [HK.out,HD.out,qlx hnx,qcS]);rw [hnx] at HNx;clear HK HD hnx hW
    go_wp2_with (go_at_call 33;refine HNx.out.mono ?_;rintro e w1 ⟨rfl,hb1⟩;clear c0 c1 d0 d1 f0 f1 g0 g1;have C2:=B2.below hb1 B2.lt;have d0:=C2.cell 0;have d1:=C2.cell 1;have g0:=C2.frozen 0;have g1:=C2.frozen 1;simp only [La,Lb,Lc] at d0 d1)
    have Rr:=vd (a':=.slice none 0 0) (b':=.bool true) C2;exact bodyPost_ret (results_cell_row rfl _ _ (w.heap.size+1) 72 _ (0,0) _ rfl Rr underlying72 rfl zG) rfl ⟨_,rfl,by rw [HR2.out];exact RV.bad w B,((tx.trans (hb1.mono L0)).setCell L7 _).setCell L7 _⟩
   | true =>
    obtain ⟨rfl,t,rfl,ht⟩:=qj9 hnx;have HR2:Hid (R=yS (y7 false t) (ws.drop (k+1))):=Lh (by rw [HK.out,HD.out,ht];rfl);rw [hnx] at HNx;have hn1:1<=n':=by have:=hW.len;simp at this;omega
    have hcut:=hW.cut hn1;have hcap:=hW.cap;have hmax:=hW.max;have i1:(1:Int)<=n':=by omega
    have i2:(1:Int)<=c':=by omega
    have i3:c'<=9223372036854775807:=by unfold maxLen at hmax;omega
    clear HK HD hnx hW ht
    by_cases hc1:c'=1
    ·rw [if_pos hc1] at hcut;subst hc1
     go_wp2_with (go_at_call 33;refine HNx.out.mono ?_;rintro e w1 ⟨rfl,hb1⟩;clear c0 c1 d0 d1 f0 f1 g0 g1;have C1:=B1.below hb1 B1.lt;have C2:=B2.below hb1 B2.lt;have c0:=C1.cell 0;have f0:=C1.frozen 0;simp only [La,Lb,Lc] at c0)
     have hz:n'-1=0:=by omega
     rw [hz] at hcut;exact ⟨⟨k+1,t,by omega,by go_num,RX.turn C1 C2 (tx.trans (hb1.mono L0)) hcut,HR2⟩,by simp [intOf];omega⟩
    ·rw [if_neg hc1] at hcut
     go_wp2_with (go_at_call 33;refine HNx.out.mono ?_;rintro e w1 ⟨rfl,hb1⟩;clear c0 c1 d0 d1 f0 f1 g0 g1;have C1:=B1.below hb1 B1.lt;have C2:=B2.below hb1 B2.lt;have c0:=C1.cell 0;have f0:=C1.frozen 0;simp only [La,Lb,Lc] at c0)
     exact ⟨⟨k+1,t,by omega,by go_num,RX.turn C1 C2 (tx.trans (hb1.mono L0)) hcut,HR2⟩,by simp [intOf];omega⟩
  ·have HR2:Hid (R=y7 bad l'):=Lh (by rw [HK.out,Lv (by have:=HNw.out;omega)];rfl);clear HK HRw;go_wp2;have Rr:=vd (a':=.slice A' n' c') (b':=.bool bad) B2;exact bodyPost_ret (results_cell_row rfl _ _ (w.heap.size+1) 72 _ (0,0) _ rfl Rr underlying72 rfl zG) rfl ⟨_,rfl,⟨A',n',c',l',bad,rfl,hW,HR2.out⟩,(tx.setCell L7 _).setCell L7 _⟩
theorem zn {P:Program} {fn:Func} {p u:Tmp} {ty:TypeId} (h:fn.results = #[.tmp u,.cell p ty]) (tmps:Array Value) (w:World) (g:Nat) (t:TypeId) (cs:Array Value) (fr:Nat × Nat) (d:TypeDesc)
  (hp:tmps.getD p undef = .pointer (some ⟨g,0,none⟩)) (hg:w.heap[g]? = some (.cells cs t fr))
  (hu:P.underlying ty=some d) (hd:(match d with | .struct _ | .array _ _=>true | _=>false)=true) (hi:(P.info? ty).map (·.size)=some cs.size) :
  (results fn tmps).run P w = .ok (.tuple #[tmps.getD u undef,.agg cs]) w:=by
 simp only [results,h];have hp':tmps[p]?.getD undef = .pointer (some ⟨g,0,none⟩):=by simpa using hp
 simp [Sem.run_bind,Result.andThen,hp',asAddr,run_loadVar_row w g t ty cs fr d hg hu hd hi]
def qN (r:Option (List ByteArray)):Int × Option (List ByteArray):=match r.bind kU with
 | some (n,t)=>(n,some t)
 | none=>(0,none)
def NRet (w:World) (B:Nat) (x:Int × Option (List ByteArray)) (e:Ending) (w':World):Prop:=∃ v,e = .returned (.tuple #[.int .i64 x.1,v])/\RV w B x.2 v/\Below w.heap.size w w'
def NRetE (w:World) (B:Nat) (x:Int × Option (List ByteArray)) (e:Ending) (w':World):Prop:=∃ v,e = .returned (.tuple #[.int .i64 x.1,v])/\RV w' B x.2 v/\Below w.heap.size w w'
theorem NRet.e {w w':World} {B:Nat} {x:Int × Option (List ByteArray)} {e:Ending} (hB:B<=w.heap.size) (h:NRet w B x e w'):NRetE w B x e w':=by
 obtain ⟨v,h1,h2,h3⟩:=h;exact ⟨v,h1,h2.below (h3.mono hB),h3⟩
def RRetE (w:World) (B:Nat) (r:Option (List ByteArray)) (F:Value->Value) (e:Ending) (w':World):Prop:=∃ v,e = .returned (F v)/\RV w' B r v/\Below w.heap.size w w'
theorem RRet.e {w w':World} {B:Nat} {r:Option (List ByteArray)} {F:Value->Value} {e:Ending} (hB:B<=w.heap.size) (h:RRet w B r F e w'):RRetE w B r F e w':=by
 obtain ⟨v,h1,h2,h3⟩:=h;exact ⟨v,h1,h2.below (h3.mono hB),h3⟩
theorem qfL (r:Option (List ByteArray)) (v:Value) (B:Nat) (w:World) (h:RV w B r v) (hB:B<=w.heap.size):Calls prog 66 #[v] w (NRet w B (qN r)):=by
 obtain ⟨A,n,c,l,bad,rfl,hW,rfl⟩:=h;obtain ⟨R,hR⟩ : ∃ x,x=qN (y7 bad l):=⟨_,rfl⟩
 rw [<- hR];have hX:RX w B bad l ((w.alloc (.cells #[.slice A n c,.bool bad] 72)).alloc (.cells #[.slice none 0 0,.bool false] 72)) :=
  ⟨A,n,c,hW,Blk.alloc (Blk.new w _ _) _,Blk.new_ L1,(L5).alloc L1 _⟩
 clear hW
 cases hp:prefixL l with
 | none =>
  have HR2:Hid (R=(0,none)):=Lh (by rw [hR];cases bad <;> simp [qN,y7,kU,hp]);clear hR
  cases bad with
  | true =>
   go_enter func66,ntmps66
   go_upto_region 1 with fail
   refine qa (RX w B true l) hX ?_;clear hX;rintro X ⟨A',n',c',hW,B1,B2,tx⟩;have z1:=B2.lt;have z0:=B1.lt;have c0:=B1.cell 0;have c1:=B1.cell 1;have d0:=B2.cell 0;have d1:=B2.cell 1;have f0:=B1.frozen 0;have f1:=B1.frozen 1;have g0:=B2.frozen 0;have g1:=B2.frozen 1;simp only [La,Lb,Lc] at c0 c1 d0 d1;have HPr:=Lh (kx l A' n' c' X hW.len hW.cap hW.max ((hW.rd.below (tx.mono hB)).more (Lj hB tx.size)) (fun s hs=>Lj (hW.sz s hs) L2));rw [hp] at HPr;simp only [ve] at HPr;clear hp hW
   go_wp2_with (go_at_call 97;refine HPr.out.mono ?_;rintro e w1 ⟨rfl,hb1⟩;clear c0 c1 d0 d1 f0 f1 g0 g1;have C1:=B1.below hb1 B1.lt;have C2:=B2.below hb1 B2.lt;have c0:=C1.cell 0;have c1:=C1.cell 1;have d0:=C2.cell 0;have d1:=C2.cell 1;have g0:=C2.frozen 0;have g1:=C2.frozen 1;simp only [La,Lb,Lc] at c0 c1 d0 d1)
   have Rr:=vd (a':=.slice none 0 0) (b':=.bool true) C2;have tz:=((tx.trans (hb1.mono L0)).setCell (p:=⟨w.heap.size+1,0,none⟩) L7 (.slice none 0 0)).setCell (p:=⟨w.heap.size+1,1,none⟩) L7 (.bool true);exact bodyPost_ret (zn rfl _ _ (w.heap.size+1) 72 _ (0,0) _ rfl Rr underlying72 rfl zG) rfl ⟨_,by rw [HR2.out];rfl,by rw [HR2.out];exact RV.bad w B,tz⟩
  | false =>
   go_enter func66,ntmps66
   go_upto_region 1 with fail
   refine qa (RX w B false l) hX ?_;clear hX;rintro X ⟨A',n',c',hW,B1,B2,tx⟩;have z1:=B2.lt;have z0:=B1.lt;have c0:=B1.cell 0;have c1:=B1.cell 1;have d0:=B2.cell 0;have d1:=B2.cell 1;have f0:=B1.frozen 0;have f1:=B1.frozen 1;have g0:=B2.frozen 0;have g1:=B2.frozen 1;simp only [La,Lb,Lc] at c0 c1 d0 d1;have HPr:=Lh (kx l A' n' c' X hW.len hW.cap hW.max ((hW.rd.below (tx.mono hB)).more (Lj hB tx.size)) (fun s hs=>Lj (hW.sz s hs) L2));rw [hp] at HPr;simp only [ve] at HPr;clear hp hW
   go_wp2_with (go_at_call 97;refine HPr.out.mono ?_;rintro e w1 ⟨rfl,hb1⟩;clear c0 c1 d0 d1 f0 f1 g0 g1;have C1:=B1.below hb1 B1.lt;have C2:=B2.below hb1 B2.lt;have c0:=C1.cell 0;have c1:=C1.cell 1;have d0:=C2.cell 0;have d1:=C2.cell 1;have g0:=C2.frozen 0;have g1:=C2.frozen 1;simp only [La,Lb,Lc] at c0 c1 d0 d1)
   have Rr:=vd (a':=.slice none 0 0) (b':=.bool true) C2;have tz:=((tx.trans (hb1.mono L0)).setCell (p:=⟨w.heap.size+1,0,none⟩) L7 (.slice none 0 0)).setCell (p:=⟨w.heap.size+1,1,none⟩) L7 (.bool true);exact bodyPost_ret (zn rfl _ _ (w.heap.size+1) 72 _ (0,0) _ rfl Rr underlying72 rfl zG) rfl ⟨_,by rw [HR2.out];rfl,by rw [HR2.out];exact RV.bad w B,tz⟩
 | some x =>
  obtain ⟨nn,k⟩:=x
  cases bad with
  | true =>
   have HR2:Hid (R=(0,none)):=Lh (by rw [hR];rfl);clear hR
   go_enter func66,ntmps66
   go_upto_region 1 with fail
   refine qa (RX w B true l) hX ?_;clear hX;rintro X ⟨A',n',c',hW,B1,B2,tx⟩;have z1:=B2.lt;have z0:=B1.lt;have c0:=B1.cell 0;have c1:=B1.cell 1;have d0:=B2.cell 0;have d1:=B2.cell 1;have f0:=B1.frozen 0;have f1:=B1.frozen 1;have g0:=B2.frozen 0;have g1:=B2.frozen 1;simp only [La,Lb,Lc] at c0 c1 d0 d1;have HPr:=Lh (kx l A' n' c' X hW.len hW.cap hW.max ((hW.rd.below (tx.mono hB)).more (Lj hB tx.size)) (fun s hs=>Lj (hW.sz s hs) L2));rw [hp] at HPr;simp only [ve] at HPr;clear hp hW
   go_wp2_with (go_at_call 97;refine HPr.out.mono ?_;rintro e w1 ⟨rfl,hb1⟩;clear c0 c1 d0 d1 f0 f1 g0 g1;have C1:=B1.below hb1 B1.lt;have C2:=B2.below hb1 B2.lt;have c0:=C1.cell 0;have c1:=C1.cell 1;have d0:=C2.cell 0;have d1:=C2.cell 1;have g0:=C2.frozen 0;have g1:=C2.frozen 1;simp only [La,Lb,Lc] at c0 c1 d0 d1)
   have Rr:=vd (a':=.slice none 0 0) (b':=.bool true) C2;have tz:=((tx.trans (hb1.mono L0)).setCell (p:=⟨w.heap.size+1,0,none⟩) L7 (.slice none 0 0)).setCell (p:=⟨w.heap.size+1,1,none⟩) L7 (.bool true);exact bodyPost_ret (zn rfl _ _ (w.heap.size+1) 72 _ (0,0) _ rfl Rr underlying72 rfl zG) rfl ⟨_,by rw [HR2.out];rfl,by rw [HR2.out];exact RV.bad w B,tz⟩
  | false =>
   have HR2:Hid (R=(nn,some (l.drop k))):=Lh (by rw [hR];simp [qN,y7,kU,hp]);obtain ⟨hk0,hkl,hk15,_⟩:=zF hp;clear hR
   go_enter func66,ntmps66
   go_upto_region 1 with fail
   refine qa (RX w B false l) hX ?_;clear hX;rintro X ⟨A',n',c',hW,B1,B2,tx⟩;have z1:=B2.lt;have z0:=B1.lt;have c0:=B1.cell 0;have c1:=B1.cell 1;have d0:=B2.cell 0;have d1:=B2.cell 1;have f0:=B1.frozen 0;have f1:=B1.frozen 1;have g0:=B2.frozen 0;have g1:=B2.frozen 1;simp only [La,Lb,Lc] at c0 c1 d0 d1;have HPr:=Lh (kx l A' n' c' X hW.len hW.cap hW.max ((hW.rd.below (tx.mono hB)).more (Lj hB tx.size)) (fun s hs=>Lj (hW.sz s hs) L2));rw [hp] at HPr;simp only [ve] at HPr;have hln:=hW.len;have hcap:=hW.cap;have hmax:=hW.max;have hcut:=hW.cut (k:=k) L0;have i1:(k:Int)<=n':=by omega
   have i2:(k:Int)<=c':=by omega
   have i3:c'<=9223372036854775807:=by unfold maxLen at hmax;omega
   have i0:(0:Int)<=k:=by omega
   clear hp hW
   go_upto_region 4 with (go_at_call 97;refine HPr.out.mono ?_;rintro e w1 ⟨rfl,hb1⟩;clear c0 c1 d0 d1 f0 f1 g0 g1;have C1:=B1.below hb1 B1.lt;have C2:=B2.below hb1 B2.lt;have c0:=C1.cell 0;have c1:=C1.cell 1;have d0:=C2.cell 0;have d1:=C2.cell 1;have g0:=C2.frozen 0;have g1:=C2.frozen 1;simp only [La,Lb,Lc] at c0 c1 d0 d1)
   simp only [Nat.mul_one] at hcut
   by_cases hck:c'=k
   ·rw [if_pos hck] at hcut;subst hck;have hz:n'-c'=0:=by omega
    have hz2:n'=c':=by omega
    subst hz2;rw [Nat.sub_self] at hcut;have Rr:=vd (a':=.slice A' 0 0) (b':=.bool false) C2;have tz:=((tx.trans (hb1.mono L0)).setCell (p:=⟨w.heap.size+1,0,none⟩) L7 (.slice A' 0 0)).setCell (p:=⟨w.heap.size+1,1,none⟩) L7 (.bool false);have Rd:=Rr.drew;have td:=tz.drew;clear hz
    go_region_law (fail)
    all_goals go_wp2
    all_goals exact bodyPost_ret (zn rfl _ _ (w.heap.size+1) 72 _ (0,0) _ rfl Rd underlying72 rfl zG) rfl ⟨_,by rw [HR2.out];rfl,by rw [HR2.out];exact ⟨_,_,_,_,false,rfl,hcut,rfl⟩,td⟩
   ·rw [if_neg hck] at hcut;have Rr:=vd (a':=.slice (A'.map (·.add k)) (n'-k) (c'-k)) (b':=.bool false) C2;have tz:=((tx.trans (hb1.mono L0)).setCell (p:=⟨w.heap.size+1,0,none⟩) L7 (.slice (A'.map (·.add k)) (n'-k) (c'-k))).setCell (p:=⟨w.heap.size+1,1,none⟩) L7 (.bool false);have Rd:=Rr.drew;have td:=tz.drew
    go_region_law (fail)
    all_goals go_wp2
    all_goals exact bodyPost_ret (zn rfl _ _ (w.heap.size+1) 72 _ (0,0) _ rfl Rd underlying72 rfl zG) rfl ⟨_,by rw [HR2.out];rfl,by rw [HR2.out];exact ⟨_,_,_,_,false,rfl,hcut,rfl⟩,td⟩
theorem qh6 (r:Option (List ByteArray)) (v:Value) (ws:List ByteArray) (Aw:Option Addr) (nw cw:Nat) (B:Nat) (w:World) (h:RV w B r v) (hB:B<=w.heap.size) (hw:ws.length=nw) (hws:nw<=1000) (rdw:Rd w w.heap.size 1 Aw nw (sv ws)) :
  Calls prog 59 #[v,.slice Aw nw cw] w (NRetE w B (qN (yS r ws))):=by
 have HS:Hid (∀ w',Below w.heap.size w w'->Calls prog 60 #[v,.slice Aw nw cw] w' (RRet w' B (yS r ws) id)):=Lh fun w' hb=>uskip_ r v ws Aw nw cw B w' (h.below (hb.mono hB)) (Lj hB hb.size) hw hws ((rdw.below hb).more hb.size)
 have HNu:Hid (∀ (v':Value) (w':World),RV w' B (yS r ws) v'->Below w.heap.size w w'->Calls prog 66 #[v'] w' (NRet w' B (qN (yS r ws)))):=Lh fun v' w' hv hb=>qfL _ v' B w' hv (Lj hB hb.size)
 obtain ⟨A,n,c,l,bad,rfl,hW,rfl⟩:=h;generalize yS (y7 bad l) ws=S at *
 generalize qN S=R at *
 clear hW rdw hw;have hX:Blk ((w.alloc (.cells #[.slice A n c,.bool bad] 72)).alloc (.cells #[.slice none 0 0,.bool false] 72)) w.heap.size 72 #[.slice A n c,.bool bad]/\Blk ((w.alloc (.cells #[.slice A n c,.bool bad] 72)).alloc (.cells #[.slice none 0 0,.bool false] 72)) (w.heap.size+1) 72 #[.slice none 0 0,.bool false]/\Below w.heap.size w ((w.alloc (.cells #[.slice A n c,.bool bad] 72)).alloc (.cells #[.slice none 0 0,.bool false] 72)) :=
  ⟨Blk.alloc (Blk.new w _ _) _,Blk.new_ L1,(L5).alloc L1 _⟩
 go_enter func59,ntmps59
 go_upto_region 1 with fail
 refine qa (fun X=>Blk X w.heap.size 72 #[.slice A n c,.bool bad]/\Blk X (w.heap.size+1) 72 #[.slice none 0 0,.bool false]/\Below w.heap.size w X) hX ?_;clear hX;rintro X ⟨B1,B2,tx⟩;have c0:=B1.cell 0;have c1:=B1.cell 1;have d0:=B2.cell 0;have d1:=B2.cell 1;have f0:=B1.frozen 0;have f1:=B1.frozen 1;have g0:=B2.frozen 0;have g1:=B2.frozen 1;simp only [La,Lb,Lc] at c0 c1 d0 d1;have z1:=B2.lt
 go_wp2_with (first
  | (go_at_call 60;refine (HS.out _ tx).mono ?_;rintro e w1 ⟨v1,rfl,hv0,hb1⟩;have hv1:=hv0.below (hb1.mono (Lj hB tx.size));have t1:=tx.trans (hb1.mono L0);have C2:=B2.below hb1 B2.lt)
  | (go_at_call 66;refine (HNu.out _ _ hv1 t1).mono ?_;rintro e w2 ⟨v2,rfl,hv2,hb2⟩;have t2:=t1.trans (hb2.mono t1.size);have D2:=C2.below hb2 C2.lt;clear c0 c1 d0 d1 f0 f1 g0 g1;have d0:=D2.cell 0;have d1:=D2.cell 1;have g0:=D2.frozen 0;have g1:=D2.frozen 1;simp only [La,Lb,Lc] at d0 d1;obtain ⟨A2,n2,c2,l2,bad2,rfl,hW2,hR2⟩:=hv2))
 have Rr:=vd (a':=.slice A2 n2 c2) (b':=.bool bad2) D2;have tz:=(t2.setCell (p:=⟨w.heap.size+1,0,none⟩) L7 (.slice A2 n2 c2)).setCell (p:=⟨w.heap.size+1,1,none⟩) L7 (.bool bad2);exact bodyPost_ret (zn rfl _ _ (w.heap.size+1) 72 _ (0,0) _ rfl Rr underlying72 rfl zG) rfl ⟨_,rfl,⟨_,_,_,_,bad2,rfl,hW2.below (((hb2.mono (Lj hB t1.size)).setCell (p:=⟨w.heap.size+1,0,none⟩) L7 (.slice A2 n2 c2)).setCell (p:=⟨w.heap.size+1,1,none⟩) L7 (.bool bad2)),hR2⟩,tz⟩
theorem qel (c:UInt8):Lib.upperB c=upB c:=by
 unfold Lib.upperB Lib.isLowerB upB;simp only [Bool.and_eq_true,decide_eq_true_eq,UInt8.le_iff_toNat_le]
 rfl
theorem qcA {s:ByteArray} (h:azB s=true):0<s.size/\∀ c∈s.data.toList,97<=c.toNat/\c.toNat<=122:=by
 unfold azB at h;rw [Bool.and_eq_true,List.all_eq_true] at h;refine ⟨?_,fun c hc=>by simpa using h.2 c hc⟩
 rcases Nat.eq_zero_or_pos s.size with h0 | h0
 ·have:s.data.toList=[]:=List.length_eq_zero_iff.1 (by simpa using h0);rw [this] at h
  simp at h
 ·exact h0
theorem qfx {l:List ByteArray} {s:ByteArray} {n:Nat} (h:yl l=some (s,n)) (hsz : ∀ s∈l,s.size<=1000) (hl:l.length<=950000):azB s=true/\s.size<=1000000/\0<n/\n<=l.length:=by
 cases l with
 | nil=>cases h
 | cons a t =>
  rw [yl] at h
  split at h
  ·rename_i hc
   simp only [Option.some.injEq,Prod.mk.injEq] at h;obtain ⟨rfl,rfl⟩:=h
   cases t with
   | nil=>exact absurd hc.2 L4
   | cons d t'=>exact ⟨hc.2,Lj (hsz d L1) L2,by omega,by simp⟩
  ·split at h
   ·rename_i hc
    simp only [Option.some.injEq,Prod.mk.injEq] at h;obtain ⟨rfl,rfl⟩:=h;exact ⟨hc.1,Lj (hsz a L1) L2,by omega,by simp⟩
   ·split at h
    ·unfold ya at h
     split at h
     ·cases h
     ·rename_i h0
      split at h
      ·rename_i he
       simp only [Option.some.injEq,Prod.mk.injEq] at h;obtain ⟨rfl,rfl⟩:=h;have hk:(t.takeWhile jQ).length<t.length:=by
        rcases Nat.lt_or_ge (t.takeWhile jQ).length t.length with h | h
        ·exact h
        ·rw [List.getElem?_eq_none h] at he;cases he
       have hall : ∀ x∈t.takeWhile jQ,jQ x=true:=fun x hx=>List.all_eq_true.1 (List.all_takeWhile (l:=t) (p:=jQ)) x hx
       generalize t.takeWhile jQ=T at *
       have hlen:(T.flatMap fun s=>s.data.toList).length=T.length:=by
        clear he hk h0
        induction T with
        | nil=>rfl
        | cons x T ih =>
         have hx:=hall x L1;unfold jQ at hx;rw [Bool.and_eq_true,decide_eq_true_eq] at hx;rw [List.flatMap_cons,Lf,Lp,ih fun y hy=>hall y (by simp [hy])];have:x.data.toList.length=x.size:=by simp
         omega
       rw [Lp] at hl ⊢;refine ⟨?_,?_,by omega,by omega⟩
       ·unfold azB;rw [Bool.and_eq_true,List.all_eq_true];refine ⟨?_,fun c hc=>?_⟩
        ·rw [Bool.not_eq_true',List.isEmpty_eq_false_iff];intro e;have e':(T.flatMap fun s=>s.data.toList)=[]:=e;rw [e'] at hlen;exact h0 hlen.symm
        ·have hc':c∈T.flatMap fun s=>s.data.toList:=hc
         rw [List.mem_flatMap] at hc';obtain ⟨x,hx,hcx⟩:=hc';have hx1:=hall x hx;unfold jQ at hx1;rw [Bool.and_eq_true] at hx1
         simpa using (qcA hx1.1).2 c hcx
       ·show (List.toArray _).size<=_
        rw [List.size_toArray,hlen]
        omega
      ·cases h
    ·cases h
theorem qiJ (s:ByteArray):(⟨(Lib.toUpperA s.data.toList).toArray⟩:ByteArray)=jn s s.size:=by
 unfold jn;have hz:s.data.toList.length=s.size:=by simp
 rw [Lib.toUpperA.eq_1,<- hz,List.take_length,List.drop_length,List.append_nil]
 congr 2
 exact List.map_congr_left fun c _=>qel c
theorem qi8 (s:ByteArray) (h:0<s.size):(⟨(Lib.toUpperA (s.extract 0 1).data.toList).toArray⟩:ByteArray)++s.extract 1 s.size=jn s 1:=by
 unfold jn
 apply ByteArray.ext
 rw [ByteArray.data_append]
 apply Array.toList_inj.1
 have hz:s.data.toList.length=s.size:=by simp
 rw [Array.toList_append,ByteArray.data_extract,ByteArray.data_extract,Lib.toUpperA.eq_1];simp only [Array.toList_extract,List.extract_eq_take_drop,List.drop_zero,Nat.sub_zero]
 congr 1
 ·exact List.map_congr_left fun c _=>qel c
 ·rw [List.take_of_length_le];rw [List.length_drop,hz]
  omega
theorem qdX (s:ByteArray) (k:Nat):(jn s k).size=s.size:=by
 unfold jn
 show (List.toArray _).size=_
 rw [List.size_toArray,Lf,Lq,Lu,List.length_drop];have hz:s.data.toList.length=s.size:=by simp
 omega
theorem qjw {p:Prs} (h1:p.words.headD ⟨#[]⟩≠bCap) (h2:p.words.headD ⟨#[]⟩≠yi):jP p=(yl p.words).map fun (s,n)=>kN p s n:=by
 unfold jP
 split
 ·rename_i hw
  rw [hw]
  rfl
 ·rename_i a t hw
  rw [hw] at h1 h2 ⊢;rw [List.headD_cons] at h1 h2;rw [if_neg h1,if_neg h2]
theorem word_ (p:Prs) (g nb:Nat) (w:World) (h:PaS w g nb p) (hset:SetM w nb 200 jF) (hk:PaK p):Calls prog 162 #[.pointer (some ⟨g,0,none⟩)] w (PaR g nb p (jP p) w):=by
 have hgl:=h.lt;have HPS:=Lh h;have hb0:Below w.heap.size w w:=Le _ _;have HN:Hid (∀ w',Below w.heap.size w w'->Calls prog 176 #[.pointer (some ⟨g,0,none⟩)] w' fun e w''=>e = .returned (.string (p.words.headD ⟨#[]⟩))/\Below w.heap.size w w''):=Lh fun w' hw=>(next_ p g nb w' (h.below hw)).mono fun e w'' ⟨h1,h2⟩=>⟨h1,hw.trans (h2.mono hw.size)⟩
 have HTxt:Hid (∀ s:ByteArray,s.size<=1000000->∀ w',Below w.heap.size w w'->Calls prog 180 #[.pointer (some ⟨g,0,none⟩),.string s] w' fun e w''=>e = .returned (.tuple #[])/\PaS w'' g nb ⟨p.words,p.out++vm p.joins p.style s,p.style,true⟩/\Below g w w''):=Lh fun s hs w' hw=>(text_ p s hs (by have:=hk.2.1;omega) g nb w' (h.below hw)).mono fun e w'' ⟨h1,h2,h3⟩=>⟨h1,h2,(hw.mono (Lr hgl)).trans h3⟩
 have HTake:Hid (∀ (q:Prs) (k:Nat),k<=q.words.length->∀ w',PaS w' g nb q->Below g w w'->Calls prog 177 #[.pointer (some ⟨g,0,none⟩),.int .i64 k] w' fun e w''=>e = .returned (.tuple #[])/\PaS w'' g nb ⟨q.words.drop k,q.out,q.style,q.joins⟩/\Below g w w''):=Lh fun q k hk w' hw hb=>(take_ q k hk g nb w' hw).mono fun e w'' ⟨h1,h2,h3⟩=>⟨h1,h2,hb.trans h3⟩
 obtain ⟨A,n,c,A2,c2,h1,h2,h3,h4,h5⟩:=h;have C1:=h3.cell 1;have C0:=h3.cell 0;simp only [jh,La,Lb,Lc] at C0 C1;have hn:p.words.length=n:=by have:=h4.1;simp [sv] at this;omega
 have hlen:=hk.len;have hc63:c<=9223372036854775807:=by unfold maxLen at h2;omega
 have HC1:Hid (∀ w',Below w.heap.size w w'->w'.cell? ⟨g,1,none⟩=some (.slice A n c)):=Lh fun w' hw=>(hw.cell (show g<_ from hgl)).trans C1
 have HLi:Hid (∀ (k:Nat) (l:List ByteArray) A' N c',l=p.words.drop k->k<=n->N=n-k->Rd w g 1 A' N (sv l)->∀ w',Below w.heap.size w w'->Calls prog 178 #[.pointer (some ⟨g,0,none⟩),.slice A' N c'] w' fun e w''=>e = .returned (ql9 (yl l))/\Below w.heap.size w w''):=Lh fun k l A' N c' hl hkn hN rd w' hw =>
  (literal_ l A' N c' g g nb w' (fun s hs=>hk.1 s (by rw [hl] at hs;exact List.mem_of_mem_drop hs)) (by rw [hl,List.length_drop];omega) (rd.below (hw.mono (Lr hgl))) (by have:=hw.size;omega) (by have:=hw.size;omega) ((hw.cell (show g<_ from hgl)).trans C0) (hset.below hw)).mono fun e w'' ⟨h1,h2⟩=>⟨h1,hw.trans (h2.mono hw.size)⟩
 have HUpr:Hid (∀ s:ByteArray,s.size<=1000000->(∀ c∈s.data.toList,c.toNat<128)->∀ w',Below w.heap.size w w'->Calls prog 179 #[.string s] w' fun e w''=>e = .returned (.string ⟨(Lib.toUpperA s.data.toList).toArray⟩)/\Below w.heap.size w w''):=Lh fun s hs hb w' hw =>
  (Tryz.strings_ToUpper_ascii s w' L0 (fun j b hj=>hb b (List.mem_of_getElem? hj))).mono fun e w'' ⟨h1,h2⟩=>⟨h1,hw.trans (h2.mono hw.size)⟩
 have q1:=qct (a:=p.words.headD ⟨#[]⟩) (b:=bCap) (l:=[99,97,112]) rfl;have q2:=qct (a:=p.words.headD ⟨#[]⟩) (b:=yi) (l:=[99,97,112,115]) rfl
 by_cases hcp:p.words.headD ⟨#[]⟩=bCap
 ·have q2':(bCap.toList==[99,97,112,115])=false:=by decide +kernel
  clear q2;rw [Ll hcp] at q1;obtain ⟨W,O,st,J⟩:=p;dsimp only at *
  cases W with
  | nil=>exact absurd hcp L4
  | cons a t =>
   rw [List.headD_cons] at *
   subst hcp;have hn1:0<n:=by rw [<- hn];simp
   have hok:=fun s k (h:yl t=some (s,k))=>qfx h (fun s hs=>hk.1 s (by simp [hs])) (by simp at hlen;omega)
   obtain ⟨b,o,hA,hbg,-⟩:=h4.2 hn1;subst hA
   have HRd:Hid (Rd w g 1 (if c=1 then some ⟨b,o,none⟩ else some ⟨b,o+1,none⟩) (n-1) (sv t)):=Lh (by
    have:=h4.cut (k:=1) hn1 h1;simp only [Nat.mul_one,Option.map_some,vl] at this
    exact this)
   have e0:jP ⟨bCap::t,O,st,J⟩=(yl t).map fun (s,n)=>kN ⟨bCap::t,O,st,J⟩ (jn s 1) (1+n):=by
    unfold jP;simp only;rw [if_pos trivial]
   have hwl:=hk.2.1
   by_cases hc1:c=1
   ·rw [if_pos hc1] at HRd;have hn0:n-1=0:=by omega
    have ht0:t=[]:=by
     have:=hn
     simp at this
     exact List.length_eq_zero_iff.1 L0
    subst ht0;subst hc1;obtain rfl:n=1:=by omega
    have HLit:=Lh (HLi.out 1 [] (some ⟨b,o,none⟩) 0 0 rfl L0 rfl HRd.out);rw [e0];simp only [yl,ql9,Option.map_none] at HLit ⊢;clear h2 h3 h4 h5 hset hk hlen hn hok HLi HRd e0 HTake HTxt HUpr
    go_enter func162,ntmps162
    go_wp2_with (first | (go_at_call 176;refine (HN.out _ L3).mono ?_;rintro e w1 ⟨rfl,hb1⟩;have C1':=HC1.out _ hb1) | (go_at_call 178;refine (HLit.out _ L3).mono ?_;rintro e w2 ⟨rfl,hb2⟩))
    go_ret;exact ⟨hb2.mono (Lr hgl),rfl,HPS.out.below hb2,hb2⟩
   ·rw [if_neg hc1] at HRd;have HLit:=Lh (HLi.out 1 t (some ⟨b,o+1,none⟩) (n-1) (c-1) rfl hn1 rfl HRd.out);rw [e0]
    cases hlit:yl t with
    | none =>
     rw [hlit] at HLit;simp only [ql9,Option.map_none] at HLit ⊢;clear h2 h3 h4 h5 hset hk hlen hn hok HLi HRd e0 HTake HTxt HUpr hlit
     go_enter func162,ntmps162
     go_wp2_with (first | (go_at_call 176;refine (HN.out _ L3).mono ?_;rintro e w1 ⟨rfl,hb1⟩;have C1':=HC1.out _ hb1) | (go_at_call 178;refine (HLit.out _ L3).mono ?_;rintro e w2 ⟨rfl,hb2⟩))
     go_ret;exact ⟨hb2.mono (Lr hgl),rfl,HPS.out.below hb2,hb2⟩
    | some x =>
     obtain ⟨s,k⟩:=x;rw [hlit] at HLit;simp only [ql9,Option.map_some] at HLit ⊢;obtain ⟨ha,hs,hk0,hkl⟩:=hok s k hlit;obtain ⟨hs0,haz⟩:=qcA ha;have ek:((k:Int)==0)=false:=Lm.2 L0;have ek2:k<=950000:=by simp at hlen;omega
     have ew:wrap64 (1+(k:Int))=1+(k:Int):=by unfold wrap64;omega
     have hkl2:1+k<=(bCap::t).length:=by rw [Lp,Nat.add_comm];exact Nat.succ_le_succ hkl
     have HTk0:=Lh (HTake.out ⟨bCap::t,O++vm J st (jn s 1),st,true⟩ (1+k) hkl2);clear hkl2;rw [show ((1+k:Nat):Int)=1+(k:Int) by omega] at HTk0;have hX:=qi8 s hs0;have hXs:((⟨(Lib.toUpperA (s.extract 0 1).data.toList).toArray⟩:ByteArray)++s.extract 1 s.size).size<=1000000:=by rw [hX,qdX];exact hs
     have HTx:=Lh (HTxt.out _ hXs);rw [<- hX] at HTk0 ⊢
     have HUp:Hid (∀ w',Calls prog 179 #[.string (s.extract 0 1)] w' (qh (.string ⟨(Lib.toUpperA (s.extract 0 1).data.toList).toArray⟩) w')):=Lh fun w'=>Tryz.strings_ToUpper_ascii (s.extract 0 1) w' (by rw [ByteArray.size_extract];omega) (fun j b hj=>by
      have hm:=List.mem_of_getElem? hj;rw [ByteArray.data_extract,Array.toList_extract,List.extract_eq_take_drop,List.drop_zero] at hm;have:=haz b (List.mem_of_mem_take hm)
      omega)
     clear h2 h3 h4 h5 hset hk hlen hn hok HLi HRd e0 HTake HTxt HUpr hlit hX hXs;have hU1:(⟨(Lib.toUpperA (s.extract 0 1).data.toList).toArray⟩:ByteArray).size<=1:=by
      show (List.toArray _).size<=1
      rw [List.size_toArray,Lib.toUpperA.eq_1,Lq];have:(s.extract 0 1).data.toList.length=(s.extract 0 1).size:=by simp
      rw [this,ByteArray.size_extract]
      omega
     have hU2:(s.extract 1 s.size).size<=1000000:=by rw [ByteArray.size_extract];omega
     generalize (⟨(Lib.toUpperA (s.extract 0 1).data.toList).toArray⟩:ByteArray)=U at *
     have HTk:=HTk0;clear HTk0;generalize (k:Int)=K at *
     have i1:(1:Int)<=s.size:=by omega
     show Calls _ _ _ w (PaR g nb _ (some ⟨(bCap::t).drop (1+k),O++vm J st (U++s.extract 1 s.size),st,true⟩) w)
     go_enter func162,ntmps162
     go_upto_region 10 with (first | (go_at_call 176;refine (HN.out _ L3).mono ?_;rintro e w1 ⟨rfl,hb1⟩;have C1':=HC1.out _ hb1) | (go_at_call 178;refine (HLit.out _ L3).mono ?_;rintro e w2 ⟨rfl,hb2⟩))
     have hzz:=hb1.size;have h1N : ∀ x:Near w.heap.size w1,Below w.heap.size w x.w:=fun x=>hb1.trans x.h
     refine qc w.heap.size ?_;(repeat (go_big_quiet_step ((go_at_call 179;exact Calls.near _ hzz (HUp.out _)))));refine wpQuiet_nil ?_;intro x1;have hb9:=h1N x1;clear h1N;generalize x1.w=w9 at *
     go_wp2_with (first
      | (first | (go_at_call 176;refine (HN.out _ L3).mono ?_;rintro e w1 ⟨rfl,hb1⟩;have C1':=HC1.out _ hb1) | (go_at_call 178;refine (HLit.out _ L3).mono ?_;rintro e w2 ⟨rfl,hb2⟩))
      | (go_at_call 179;refine (HUp.out _ L3).mono ?_;rintro e w4 ⟨rfl,hb4⟩)
      | (go_at_call 180;refine (HTx.out _ L3).mono ?_;rintro e w5 ⟨rfl,hp5,hb5⟩)
      | (go_at_call 177;refine (HTk.out _ hp5 hb5).mono ?_;rintro e w6 ⟨rfl,hp6,hb6⟩))
     go_ret;exact ⟨hb6,rfl,hp6⟩
 ·by_cases hcs:p.words.headD ⟨#[]⟩=yi
  ·rw [Lk hcp] at q1;rw [Ll hcs] at q2;obtain ⟨W,O,st,J⟩:=p;dsimp only at *
   cases W with
   | nil=>exact absurd hcs L4
   | cons a t =>
    rw [List.headD_cons] at *
    subst hcs;have hn1:0<n:=by rw [<- hn];simp
    have hok:=fun s k (h:yl t=some (s,k))=>qfx h (fun s hs=>hk.1 s (by simp [hs])) (by simp at hlen;omega)
    obtain ⟨b,o,hA,hbg,-⟩:=h4.2 hn1;subst hA
    have HRd:Hid (Rd w g 1 (if c=1 then some ⟨b,o,none⟩ else some ⟨b,o+1,none⟩) (n-1) (sv t)):=Lh (by
     have:=h4.cut (k:=1) hn1 h1;simp only [Nat.mul_one,Option.map_some,vl] at this
     exact this)
    have e0:jP ⟨yi::t,O,st,J⟩=(yl t).map fun (s,n)=>kN ⟨yi::t,O,st,J⟩ (jn s s.size) (1+n):=by
     unfold jP;simp only;rw [if_neg L4,if_pos trivial]
    have hwl:=hk.2.1
    by_cases hc1:c=1
    ·rw [if_pos hc1] at HRd;have hn0:n-1=0:=by omega
     have ht0:t=[]:=by
      have:=hn
      simp at this
      exact List.length_eq_zero_iff.1 L0
     subst ht0;subst hc1;obtain rfl:n=1:=by omega
     have HLit:=Lh (HLi.out 1 [] (some ⟨b,o,none⟩) 0 0 rfl L0 rfl HRd.out);rw [e0];simp only [yl,ql9,Option.map_none] at HLit ⊢;clear h2 h3 h4 h5 hset hk hlen hn hok HLi HRd e0 HTake HTxt HUpr
     go_enter func162,ntmps162
     go_wp2_with (first | (go_at_call 176;refine (HN.out _ L3).mono ?_;rintro e w1 ⟨rfl,hb1⟩;have C1':=HC1.out _ hb1) | (go_at_call 178;refine (HLit.out _ L3).mono ?_;rintro e w2 ⟨rfl,hb2⟩))
     go_ret;exact ⟨hb2.mono (Lr hgl),rfl,HPS.out.below hb2,hb2⟩
    ·rw [if_neg hc1] at HRd;have HLit:=Lh (HLi.out 1 t (some ⟨b,o+1,none⟩) (n-1) (c-1) rfl hn1 rfl HRd.out);rw [e0]
     cases hlit:yl t with
     | none =>
      rw [hlit] at HLit;simp only [ql9,Option.map_none] at HLit ⊢;clear h2 h3 h4 h5 hset hk hlen hn hok HLi HRd e0 HTake HTxt HUpr hlit
      go_enter func162,ntmps162
      go_wp2_with (first | (go_at_call 176;refine (HN.out _ L3).mono ?_;rintro e w1 ⟨rfl,hb1⟩;have C1':=HC1.out _ hb1) | (go_at_call 178;refine (HLit.out _ L3).mono ?_;rintro e w2 ⟨rfl,hb2⟩))
      go_ret;exact ⟨hb2.mono (Lr hgl),rfl,HPS.out.below hb2,hb2⟩
     | some x =>
      obtain ⟨s,k⟩:=x;rw [hlit] at HLit;simp only [ql9,Option.map_some] at HLit ⊢;obtain ⟨ha,hs,hk0,hkl⟩:=hok s k hlit;obtain ⟨hs0,haz⟩:=qcA ha;have ek:((k:Int)==0)=false:=Lm.2 L0;have ek2:k<=950000:=by simp at hlen;omega
      have ew:wrap64 (1+(k:Int))=1+(k:Int):=by unfold wrap64;omega
      have hkl2:1+k<=(yi::t).length:=by rw [Lp,Nat.add_comm];exact Nat.succ_le_succ hkl
      have HTk0:=Lh (HTake.out ⟨yi::t,O++vm J st (jn s s.size),st,true⟩ (1+k) hkl2);clear hkl2;rw [show ((1+k:Nat):Int)=1+(k:Int) by omega] at HTk0;have HTx:=Lh (HTxt.out (jn s s.size) (by rw [qdX];exact hs));have HUp:=Lh (HUpr.out s hs (fun c hc=>by have:=haz c hc;omega));rw [qiJ] at HUp;clear h2 h3 h4 h5 hset hk hlen hn hok HLi HRd e0 HTake HTxt HUpr hlit;generalize jn s s.size=U at *
      have HTk:=HTk0;clear HTk0;generalize (k:Int)=K at *
      show Calls _ _ _ w (PaR g nb _ (some ⟨(yi::t).drop (1+k),O++vm J st U,st,true⟩) w)
      go_enter func162,ntmps162
      go_wp2_with (first
       | (first | (go_at_call 176;refine (HN.out _ L3).mono ?_;rintro e w1 ⟨rfl,hb1⟩;have C1':=HC1.out _ hb1) | (go_at_call 178;refine (HLit.out _ L3).mono ?_;rintro e w2 ⟨rfl,hb2⟩))
       | (go_at_call 179;refine (HUp.out _ L3).mono ?_;rintro e w4 ⟨rfl,hb4⟩)
       | (go_at_call 180;refine (HTx.out _ L3).mono ?_;rintro e w5 ⟨rfl,hp5,hb5⟩)
       | (go_at_call 177;refine (HTk.out _ hp5 hb5).mono ?_;rintro e w6 ⟨rfl,hp6,hb6⟩))
      go_ret;exact ⟨hb6,rfl,hp6⟩
  ·rw [Lk hcp] at q1;rw [Lk hcs] at q2;rw [qjw hcp hcs];have HLit:=Lh (HLi.out 0 p.words A n c rfl (Nat.zero_le _) rfl h4);have hok:=fun s k (h:yl p.words=some (s,k))=>qfx h hk.1 hlen
   clear HLi hcp hcs
   cases hlit:yl p.words with
   | none =>
    rw [hlit] at HLit;simp only [ql9] at HLit;clear h2 h3 h4 h5 hset hk hlen hn hok hlit;generalize p.words.headD ⟨#[]⟩=nx at *
    go_enter func162,ntmps162
    go_wp2_with (first | (go_at_call 176;refine (HN.out _ L3).mono ?_;rintro e w1 ⟨rfl,hb1⟩;have C1':=HC1.out _ hb1) | (go_at_call 178;refine (HLit.out _ L3).mono ?_;rintro e w2 ⟨rfl,hb2⟩))
    go_ret;exact ⟨hb2.mono (Lr hgl),rfl,HPS.out.below hb2,hb2⟩
   | some x =>
    obtain ⟨s,k⟩:=x;rw [hlit] at HLit;simp only [ql9] at HLit;obtain ⟨ha,hs,hk0,hkl⟩:=hok s k hlit;have HTx:=Lh (HTxt.out s hs);have HTk:=Lh (HTake.out ⟨p.words,p.out++vm p.joins p.style s,p.style,true⟩ k hkl);have ek:((k:Int)==0)=false:=Lm.2 L0;have ew:wrap64 (k:Int)=k:=by unfold wrap64;omega
    clear h2 h3 h4 h5 hset hk hlen hn hok hlit HTake HTxt HUpr
    show Calls _ _ _ w (PaR g nb p (some ⟨p.words.drop k,p.out++vm p.joins p.style s,p.style,true⟩) w)
    generalize p.words.headD ⟨#[]⟩=nx at *
    go_enter func162,ntmps162
    go_wp2_with (first
     | (first | (go_at_call 176;refine (HN.out _ L3).mono ?_;rintro e w1 ⟨rfl,hb1⟩;have C1':=HC1.out _ hb1) | (go_at_call 178;refine (HLit.out _ L3).mono ?_;rintro e w2 ⟨rfl,hb2⟩))
     | (go_at_call 179;refine (HUp.out _ L3).mono ?_;rintro e w4 ⟨rfl,hb4⟩)
     | (go_at_call 180;refine (HTx.out _ L3).mono ?_;rintro e w5 ⟨rfl,hp5,hb5⟩)
     | (go_at_call 177;refine (HTk.out _ hp5 hb5).mono ?_;rintro e w6 ⟨rfl,hp6,hb6⟩))
    go_ret;exact ⟨hb6,rfl,hp6⟩
end Go.Proofs.YtbogmeeijdaijaaGreatDoor
