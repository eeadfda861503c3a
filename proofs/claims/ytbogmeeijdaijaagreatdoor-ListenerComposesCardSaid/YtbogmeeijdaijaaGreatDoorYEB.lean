/- Joined: Ls3, Vc2, Rsg3, Rw1, Rw2, Rw3. -/
import Derived.Sort.CutIn
import Derived.Shelf.RegionOpen
import Derived.Test.YtbogmeeijdaijaaGreatDoorZAX
import Derived.Test.YtbogmeeijdaijaaGreatDoorYEA
set_option linter.unusedVariables false
set_option linter.unusedSimpArgs false
set_option linter.unnecessarySimpa false
set_option maxHeartbeats 4000000
namespace Go.Proofs.YtbogmeeijdaijaaGreatDoor
open Go.Proofs.Tryz Go.RowKit Go.Shelf
set_option maxRecDepth 20000
attribute [local go_sem] Oper.semAt_some
theorem qa9 {W:World} {g:Nat} {t:TypeId} {cs:Array Value} {row:Option Nat} (h:Blk W g t cs) (hr : ∀ r,row=some r->∃ o:Obj,W.heap[r]? = some o/\o.isCells=false):some g≠row:=fun e=>by
 obtain ⟨o,ho,hc⟩:=hr g e.symm;unfold Blk at h;rw [h] at ho;cases ho;cases hc
theorem qgM {W W':World} {row:Option Nat} {base:Nat} {e:TypeId} {size:Nat} {v:Value} {k:Nat} {xs:List Value} (h:W.ownsRow base e size v k xs) (hg:W.grownBy W' row) (hr : ∀ r,row=some r->∃ o:Obj,W.heap[r]? = some o/\o.isCells=false):W'.ownsRow base e size v k xs:=by
 refine h.kept hg ?_
 rcases h.2 with ⟨rfl,_⟩ | ⟨g,cap,cur,rfl,_,hgb,_⟩
 ·exact .inl rfl
 ·refine .inr fun e'=>?_
  obtain ⟨o,ho,hc⟩:=hr g (by simpa [Value.ownBlock] using e'.symm);rw [hgb] at ho;cases ho;cases hc
theorem OwV.kept {N n c:Nat} {W W':World} {v:Vw} {A:Option Addr} {rs:List RowM} {row:Option Nat} (h:OwV N W v A n c rs) (hg:W.grownBy W' row) (hr : ∀ r,row=some r->∃ o:Obj,W.heap[r]? = some o/\o.isCells=false):OwV N W' v A n c rs :=
 ⟨qgM h.rows hg hr,fun x hx=>qgM (h.gl x hx) hg hr,h.eq⟩
theorem qdt {X:World} {h g:Nat} {t:TypeId} {cs:Array Value} (hb:Blk X h t cs) (hn:h≠g) (m:Md) (A:Option Addr) (n c:Nat):Blk (setM X g m A n c) h t cs :=
 ((((((hb.far (p:=⟨g,0,none⟩) hn _).far (p:=⟨g,1,none⟩) hn _).far (p:=⟨g,2,none⟩) hn _).far (p:=⟨g,3,none⟩) hn _).far (p:=⟨g,4,none⟩) hn _).far (p:=⟨g,5,none⟩) hn _).far (p:=⟨g,6,none⟩) hn _
abbrev errB (X:World) (g:Nat) (e:Int):Prop:=Blk X g 31 #[.int .i64 e]
theorem errB.set {X:World} {g:Nat} {e:Int} (h:errB X g e) (u:Int):errB (X.setCell ⟨g,0,none⟩ (.int .i64 u)) g u:=Blk.set_ h 0 _
structure AllG (w:World) (gR gX gE gO:Nat):Prop where
 r:w.heap.size<=gR
 x:gR<gX
 e:gX<gE
 o:gE<gO
structure AllI (w:World) (gR gX gE gO:Nat) (M:Md × Int) (W:World):Prop where
 res:Blk W gR 26 (mdC md0 none 0 0)
 rex:errB W gX 0
 err:errB W gE M.2
 out : ∃ A n c N rs,gX<N/\Blk W gO 26 (mdC M.1 A n c)/\OwV N W M.1.view A n c rs
 bel:Below w.heap.size w W
theorem AllI.kept {w W W':World} {gR gX gE gO:Nat} {M:Md × Int} {row:Option Nat} (h:AllI w gR gX gE gO M W) (hg:W.grownBy W' row) (hr : ∀ r,row=some r->w.heap.size<=r/\∃ o:Obj,W.heap[r]? = some o/\o.isCells=false):AllI w gR gX gE gO M W':=by
 have hr' : ∀ r,row=some r->∃ o:Obj,W.heap[r]? = some o/\o.isCells=false:=fun r e=>(hr r e).2
 obtain ⟨A,n,c,N,rs,h1,h2,h3⟩:=h.out;exact ⟨h.res.grown hg (qa9 h.res hr'),Blk.grown h.rex hg (qa9 h.rex hr'),Blk.grown h.err hg (qa9 h.err hr'),⟨A,n,c,N,rs,h1,h2.grown hg (qa9 h2 hr'),h3.kept hg hr'⟩,h.bel.grown hg h.bel.size (fun k e=>(hr k e).1)⟩
theorem AllI.on {w X X':World} {gR gX gE gO:Nat} {M:Md × Int} (h:AllI w gR gX gE gO M X) (hb:Below X.heap.size X X'):AllI w gR gX gE gO M X':=by
 obtain ⟨A,n,c,N,rs,h1,h2,h3⟩:=h.out;exact ⟨Blk.below h.res hb h.res.lt,Blk.below h.rex hb h.rex.lt,Blk.below h.err hb h.err.lt,⟨A,n,c,N,rs,h1,h2.below hb h2.lt,h3.below hb⟩,h.bel.trans (hb.mono h.bel.size)⟩
theorem AllI.put {w X X3:World} {gR gX gE gO n c:Nat} {M1 M2:Md × Int} {A:Option Addr} {rs:List RowM} (h:AllI w gR gX gE gO M1 X) (hw:w.heap.size<=gR) (h1:gR<gX) (h2:gX<gE) (h3:gE<gO) (hb:Below X.heap.size X X3) (ho:OwV X.heap.size X3 M2.1.view A n c rs):AllI w gR gX gE gO M2 ((setM X3 gO M2.1 A n c).setCell ⟨gE,0,none⟩ (.int .i64 M2.2)):=by
 obtain ⟨A1,n1,c1,N,rs1,-,hO,-⟩:=h.out;have hl:=hO.lt
 exact ⟨(qdt (Blk.below h.res hb h.res.lt) L0 _ _ _ _).far (by show gR≠gE;omega) _,(qdt (Blk.below h.rex hb h.rex.lt) L0 _ _ _ _).far (by show gX≠gE;omega) _,errB.set (qdt (Blk.below h.err hb h.err.lt) L0 _ _ _ _) _,
  ⟨A,n,c,X.heap.size,rs,by omega,(md_set (hO.below hb hl) _ _ _ _).far (by show gO≠gE;omega) _,(qiB ho hl).far L7 _⟩,(yX (h.bel.trans (hb.mono h.bel.size)) L0 _ _ _ _).setCell L7 _⟩
structure AllX (w:World) (gR gX:Nat) (E:Int) (W:World):Prop where
 res:Blk W gR 26 (mdC md0 none 0 0)
 rex:errB W gX E
 bel:Below w.heap.size w W
theorem AllX.kept {w W W':World} {gR gX:Nat} {E:Int} {row:Option Nat} (h:AllX w gR gX E W) (hg:W.grownBy W' row) (hr : ∀ r,row=some r->w.heap.size<=r/\∃ o:Obj,W.heap[r]? = some o/\o.isCells=false):AllX w gR gX E W':=by
 have hr' : ∀ r,row=some r->∃ o:Obj,W.heap[r]? = some o/\o.isCells=false:=fun r e=>(hr r e).2
 exact ⟨h.res.grown hg (qa9 h.res hr'),Blk.grown h.rex hg (qa9 h.rex hr'),h.bel.grown hg h.bel.size (fun k e=>(hr k e).1)⟩
theorem AllX.drew {w X:World} {gR gX:Nat} {E:Int} (h:AllX w gR gX E X):AllX w gR gX E X.drew:=⟨h.res,h.rex,h.bel.drew⟩
structure AllF (w:World) (gR gX:Nat) (M:Md × Int) (A:Option Addr) (n c:Nat) (X:World):Prop where
 res:Blk X gR 26 (mdC M.1 A n c)
 rex:errB X gX M.2
 row : ∃ N rs,OwV N X M.1.view A n c rs
 bel:Below w.heap.size w X
theorem AllF.turn {w X:World} {gR gX n c D:Nat} {M:Md × Int} {A:Option Addr} {o o':Obj} (h:AllF w gR gX M A n c X) (hK:X.heap[D]? = some o) (ho:o.isCells=false) (hD:w.heap.size<=D):AllF w gR gX M A n c (X.putObj D o'):=by
 have hr : ∀ r,some D=some r->∃ o:Obj,X.heap[r]? = some o/\o.isCells=false:=fun r e=>by cases e;exact ⟨o,hK,ho⟩
 have hg:=grownBy_putObj' X D o';obtain ⟨N,rs,h3⟩:=h.row;exact ⟨h.res.grown hg (qa9 h.res hr),Blk.grown h.rex hg (qa9 h.rex hr),⟨N,rs,h3.kept hg hr⟩,h.bel.grown hg h.bel.size (fun k e=>by cases e;exact hD)⟩
structure AllS (w:World) (m:Md) (A:Option Addr) (n c:Nat) (X:World):Prop where
 box:Blk X w.heap.size 26 (mdC m A n c)
 res:ZM X (w.heap.size+1)
 rex:errB X (w.heap.size+1+1) 0
 bel:Below w.heap.size w X
theorem AllS.new (w:World) (m:Md) (A:Option Addr) (n c:Nat):AllS w m A n c (((w.alloc (.cells (mdC m A n c) 26)).alloc (.cells (mdC md0 none 0 0) 26)).alloc (.cells #[.int .i64 0] 31)) :=
 ⟨((Blk.new_ rfl).alloc _).alloc _,(Blk.new_ L1).alloc _,Blk.new_ L1,((L5).alloc L1 _).alloc (by simp;omega) _⟩
theorem AllS.on {w X X':World} {m:Md} {A:Option Addr} {n c:Nat} (h:AllS w m A n c X) (hb:Below X.heap.size X X'):AllS w m A n c X' :=
 ⟨h.box.below hb h.box.lt,Blk.below h.res hb h.res.lt,Blk.below h.rex hb h.rex.lt,h.bel.trans (hb.mono h.bel.size)⟩
theorem errB.facts {X:World} {g:Nat} {e:Int} (h:errB X g e):X.cell? ⟨g,0,none⟩=some (.int .i64 e)/\X.frozen? ⟨g,0,none⟩=false:=⟨Blk.cell h 0,Blk.frozen h 0⟩
end Go.Proofs.YtbogmeeijdaijaaGreatDoor
namespace Go.Proofs.YtbogmeeijdaijaaGreatDoor
open Go.Proofs.Tryz Go.RowKit
set_option maxRecDepth 20000
theorem rsay (n:Int) (h1 : -999999999<=n) (h2:n<=999999999) (a:ByteArray) (xs:List ByteArray) (A:Option Addr) (m c base:Nat) (w:World) (ht : ∀ Y,Below base w Y->Tb Y) (ho:w.ownsRow base 9 1 (.slice A m c) m (sv xs)) (hm:m=xs.length) (hx:m<=60000000000) (hb:base<=w.heap.size) :
  Calls prog 27 #[.slice A m c,.string a,.int .i64 n] w fun e w'=>(∃ A' c',e = .returned (.slice A' (xs++a::qY n).length c')/\w'.ownsRow base 9 1 (.slice A' (xs++a::qY n).length c') (xs++a::qY n).length (sv (xs++a::qY n)))/\Below base w w':=by
 subst hm;have HT:=Lh ht;have HW:Hid (∀ w,Tb w->Calls prog 51 #[.int .i64 n] w (ql 9 1 yP w (qY n).length (sv (qY n)))):=Lh fun w ht=>by
  have:=qbl n h1 h2 w ht;rw [wv_sv] at this;unfold qY;rw [Lq];exact this
 have hl:=vO n;generalize qY n=ys at *
 have hlen:(xs++a::ys).length=xs.length+1+ys.length:=by simp;omega
 have hsv:sv (xs++a::ys)=sv xs++sv [a]++sv ys:=by simp [sv]
 rw [hlen,hsv];have ha:=(Le base w).alloc hb (.cells (sv [a]).toArray 9);clear ht h1 h2 hlen hsv
 go_enter func27,ntmps27
 go_wp2_with (first
  | (go_at_call 51;refine (HW.out _ (HT.out _ (ha.trans hbel1))).mono ?_;rintro e w3 ⟨A3,c3,rfl,o3,b3⟩;have z3:=b3.size)
  | ((fail_if_success have:=hown1);(at_builtin;refine qg rfl _ _ _ rfl qp (base) _ rfl (qb ho L5) _ _ rfl ((qe (xs:=sv [a]) rfl rfl)) ?_;intro A1 c1 w1 hown1 hbel1 hgr1 hat1;have z1:=hbel1.size;(try simp only [Li] at z1);(try simp only [Lo,Lg] at hown1)))
  | (at_builtin;refine qg rfl _ _ _ rfl qp (base) _ rfl (qb hown1 b3) _ _ rfl ((Rd.of_own o3)) ?_;intro A2 c2 w2 hown2 hbel2 hgr2 hat2;have z2:=hbel2.size;(try simp only [Li] at z2);(try simp only [Lo,Lg] at hown2)))
 go_ret;exact ⟨⟨A2,c2,rfl,hown2⟩,(ha.trans hbel1).trans ((b3.mono L0).trans hbel2)⟩
def PhR (w:World) (c:Chg) (Ag:Option Addr) (cap:Nat) (r:Int) (d sp:Bool) (p:Int) (con:Bool) (k:Int) (j:Nat) (xs:List ByteArray) (v:Value) (X:World):Prop :=
 Blk X w.heap.size 57 (yG c Ag cap)/\Blk X (w.heap.size+1) 38 #[.int .i64 r,.bool d,.bool sp,.int .i64 p,.bool con,.int .i64 k]/\(∃ n,n=xs.length/\X.ownsRow (w.heap.size+2) 9 1 v n (sv xs))/\Below w.heap.size w X/\xs.length<=j
section
variable {w X : World} {c : Chg} {Ag : Option Addr} {cap : Nat} {r : Int} {d sp : Bool} {p : Int} {con : Bool} {k : Int} {xs : List ByteArray} {j : Nat} {v : Value}
theorem PhR.say (ht:Tb w) (h:PhR w c Ag cap r d sp p con k j xs v X) (a:ByteArray) (n:Int) (h1 : -999999999<=n) (h2:n<=999999999) (hj:j<=60000000000) :
  Calls prog 27 #[v,.string a,.int .i64 n] X fun e w'=>∃ v',e = .returned v'/\PhR w c Ag cap r d sp p con k (j+16) (xs++a::qY n) v' w':=by
 obtain ⟨b1,b2,⟨m,hm,b3⟩,b4,b5⟩:=h;obtain ⟨A,co,rfl⟩:=vt b3;have z2:=b2.lt;refine (rsay n h1 h2 a xs A m co (w.heap.size+2) X (fun Y hY=>ht.below (b4.trans (hY.mono L0))) b3 hm L0 L0).mono ?_;rintro e w' ⟨⟨A',c',rfl,o'⟩,bl⟩;have:=vO n;exact ⟨_,rfl,b1.below bl L0,b2.below bl L0,⟨_,rfl,o'⟩,b4.trans (bl.mono L0),by rw [Lf,Lp];omega⟩
theorem PhR.put (h:PhR w c Ag cap r d sp p con k j xs v X) {Y:World} {ys:List ByteArray} {v':Value} {n m:Nat} (hb:Below (w.heap.size+2) X Y) (hn:n=xs.length) (hm:ys.length=m) (ho:Y.ownsRow (w.heap.size+2) 9 1 v' (n+m) (sv xs++sv ys)):PhR w c Ag cap r d sp p con k (j+m) (xs++ys) v' Y:=by
 obtain ⟨b1,b2,_,b4,b5⟩:=h;refine ⟨b1.below hb L0,b2.below hb L0,⟨n+m,by rw [Lf];omega,by rw [sv_app];exact ho⟩,b4.trans (hb.mono L0),by rw [Lf];omega⟩
theorem PhR.start (w:World) (c:Chg) (Ag:Option Addr) (cap:Nat) (r:Int) (d sp:Bool) (p:Int) (con:Bool) (k:Int):PhR w c Ag cap r d sp p con k 0 [] (.slice (some ⟨w.heap.size+2,0,none⟩) 0 0) (((w.alloc (.cells (yG c Ag cap) 57)).alloc (.cells #[.int .i64 r,.bool d,.bool sp,.int .i64 p,.bool con,.int .i64 k] 38)).alloc (.cells #[] 9)) :=
 ⟨((Blk.new w _ _).alloc _).alloc _,(Blk.new_ L1).alloc _,⟨0,rfl,qx (xs:=[]) (n:=0) L1 rfl (Ld _) L0⟩,((L5).alloc L1 _).alloc (by simp;omega) _,Ld _⟩
theorem PhR.done {R:List ByteArray} (h:PhR w c Ag cap r d sp p con k j xs v X) (hR:R=xs++[]):ql 9 1 id w R.length (sv R) (.returned v) X:=by
 rw [List.append_nil] at hR;subst hR;obtain ⟨b1,b2,⟨m,rfl,b3⟩,b4,b5⟩:=h;obtain ⟨A,co,rfl⟩:=vt b3;exact ⟨A,co,rfl,qt b3 L0,b4⟩
end
theorem kX {R xs ys T:List ByteArray} {zs:List ByteArray} (h:Hid (R=xs++(zs++T))) (hy:ys=xs++zs):Hid (R=ys++T):=Lh (by rw [h.out,hy,List.append_assoc])
theorem rspell (r:Int) (w:World) (ht:Tb w):Calls prog 128 #[.int .i32 r] w (ql 9 1 id w (qD r).length (sv (qD r))):=by
 have HCH:=Lh (qhd r);have HSG:=Lh (rsign r);have HT:=Lh ht;clear ht;unfold qD;unfold isS at HSG
 cases hi:jM r with
 | some i =>
  rw [hi] at HSG;rw [qaY hi] at HCH;have HNm:Hid (∀ w,Calls prog 154 #[.int .i32 r] w (qh (.string (nb i)) w)):=Lh fun w=>by
   have:=rname r w;unfold qhZ at this
   rwa [hi] at this
  simp only [Option.isSome] at HSG ⊢;clear hi
  go_enter func128,ntmps128
  go_wp2_with (first
   | (go_at_call 152;refine (HCH.out _).mono ?_;rintro e w1 ⟨rfl,hbel1⟩)
   | (go_at_call 153;refine (HSG.out _).mono ?_;rintro e w2 ⟨rfl,hbel2⟩;have t2:=hbel1.trans (hbel2.mono hbel1.size))
   | (go_at_call 154;refine (HNm.out _).mono ?_;rintro e w3 ⟨rfl,hbel3⟩;have t3:=t2.trans (hbel3.mono t2.size)))
  go_ret;exact ⟨_,_,rfl,qx (xs:=[_]) rfl rfl t3.size (by first | omega | (simp only [Lp,List.length_nil];omega)),t3.alloc t3.size _⟩
 | none =>
  rw [hi] at HSG;simp only [Option.isSome] at HSG ⊢;clear hi
  cases hc:zC r with
  | true =>
   rw [hc] at HCH;obtain ⟨h1,h2⟩:=kj hc;have HW:Hid (∀ w,Tb w->Calls prog 51 #[.int .i64 r] w (ql 9 1 yP w (qm r).length (wv (qm r)))):=Lh fun w ht=>qbl r L0 L0 w ht
   have hle:=ke r;clear hc;rw [if_pos rfl];generalize qm r=L at *
   go_enter func128,ntmps128
   go_wp2_with (first
    | (go_at_call 152;refine (HCH.out _).mono ?_;rintro e w1 ⟨rfl,hbel1⟩)
    | (go_at_call 153;refine (HSG.out _).mono ?_;rintro e w2 ⟨rfl,hbel2⟩;have t2:=hbel1.trans (hbel2.mono hbel1.size))
    | (go_at_call 51;refine (HW.out _ (HT.out.below t2)).mono ?_;rintro e w3 ⟨A3,c3,rfl,hown3,hbel3⟩;have z3:=hbel3.size;have t3:=t2.trans (hbel3.mono t2.size))
    | (at_builtin;refine qg rfl _ _ _ rfl qp (w3.heap.size) _ rfl (qx (xs:=[.string cB]) rfl rfl (Ld _) L0) _ _ rfl ((Rd.of_own (hown3.alloc _))) ?_;intro A4 c4 w4 hown4 hbel4 hgr4 hat4;have z4:=hbel4.size;(try simp only [Li] at z4);(try simp only [Lo,Lg] at hown4)))
   go_ret;have e:(L.map wb).length+1=1+L.length:=by simp;omega
   have zz:=t3.size;rw [e];refine ⟨A4,c4,by rfl,?_,?_⟩
   ·refine qt (base:=w3.heap.size) ?_ zz
    simpa [sv,wv,cB,Function.comp_def] using hown4
   ·exact (t3.alloc zz _).trans (hbel4.mono zz)
  | false =>
   rw [hc] at HCH;clear hc;simp only [Bool.false_eq_true,if_false]
   go_enter func128,ntmps128
   go_wp2_with (go_at_call 152;refine (HCH.out _).mono ?_;rintro e w1 ⟨rfl,hbel1⟩)
   go_ret;exact ⟨none,0,rfl,zY _ _ _ _,hbel1⟩
theorem rsingle (g:Gl) (hz:g.text.size<=1000000) (w:World) (hs:Tb w) :
  Calls prog 108 #[glV g] w (ql 9 1 id w (qP g).length (sv (qP g))):=by
 have hq:=qgd g.text 32;have HS:=Lh hs
 by_cases h1:g.text.data.toList=[32]
 ·rw [yC h1];rw [Ll h1] at hq;obtain ⟨t,wd,st⟩:=g;dsimp only at *
  clear h1 hs
  go_enter func108,ntmps108
  go_upto_region 1 with fail
  refine qa (GlBox w t wd st) (GlBox.new w t wd st _) ?_;rintro wb ⟨c0,_,_,hb0,hz0⟩;go_wp2;go_ret;exact ⟨_,_,rfl,qx (xs:=sv [yB]) rfl rfl L0 (by simp [sv]),hb0.alloc L0 _⟩
 ·rw [jr h1];rw [Lk h1] at hq;have HCh:=Lh (fun w=>qad g.text L0 w);have hl:=jB g.text;have HI:Hid (∀ (j:Nat) (h:j<(qs (qB g.text)).length),(qs (qB g.text))[j]<=1114111):=Lh fun j h=>by
   have:=yD (qB g.text) _ (Lt h);unfold qR at this
   omega
  generalize qs (qB g.text)=L at *
  have HT:Hid (∀ (j:Nat) (h:j<L.length),za (L.take (j+1))=za (L.take j)++qD (L[j]:Int)):=Lh fun j h=>qfH h
  have HLn:Hid (∀ j,(za (L.take j)).length<=16 * j):=Lh fun j=>by
   have:=qdS (L.take j);rw [Lu] at this
   omega
  have HTA:Hid (L.take L.length=L):=Lh List.take_length;have HSp:Hid (∀ (r:Nat),r<=1114111->∀ w,Tb w->_):=Lh fun r hr w hs=>rspell (r:Int) w hs
  have HSl:Hid (∀ r:Nat,(qD (r:Int)).length<=16):=Lh fun r=>qeR _
  obtain ⟨t,wd,st⟩:=g;dsimp only at *
  clear h1 hs
  go_enter func108,ntmps108
  go_upto_region 1 with fail
  refine qa (GlBox w t wd st) (GlBox.new w t wd st _) ?_;rintro wb ⟨c0,_,_,hb0,hz0⟩;have c0':(wb.alloc (.cells #[] 9)).cell? ⟨w.heap.size,0,none⟩=some (.string t):=((Below.alloc (Le wb.heap.size wb) (Ld _) _).cell L7).trans c0
  go_wp2_with (go_at_call 104;refine (HCh.out _).mono ?_;rintro e w1 ⟨A1,c1,rfl,hown1,hbel1⟩)
  have z1:=hbel1.size;have HLb:Hid (∀ m,(Value.slice A1 L.length c1).ownBlock=some m->wb.heap.size+1<=m/\m<w1.heap.size):=Lh fun m hm=>by have:=hown1.lt m hm;rw [Li] at this;exact this
  rw [Li] at hown1 z1;have hb1:Below w.heap.size w w1:=(hb0.alloc L0 _).trans (hbel1.mono (by rw [Li];omega));have hbb:Below wb.heap.size wb w1:=(Below.alloc (Le _ _) (Ld _) _).trans (hbel1.mono (by rw [Li];omega))
  go_loopw [3,5] (fun v x wr=>∃ (A:Option Addr) (c j:Nat),j<=L.length/\x = .int .i64 j/\v = .slice A (za (L.take j)).length c/\wr.ownsRow wb.heap.size 9 1 (.slice A (za (L.take j)).length c) (za (L.take j)).length (sv (za (L.take j)))/\Below wb.heap.size wb wr/\wr.ownsRow (wb.heap.size+1) 21 1 (.slice A1 L.length c1) L.length (chV L)/\w1.heap.size<=wr.heap.size/\Hid (∀ m,(Value.slice A (za (L.take j)).length c).ownBlock=some m->m=wb.heap.size∨w1.heap.size<=m)) (fun _ x _=>L.length-(intOf x).toNat)
  case atStart=>exact ⟨_,_,0,Nat.zero_le _,rfl,rfl,qb (qx (xs:=[]) rfl rfl (Ld _) (by simp [za])) hbel1,hbb,hown1,Ld _,Lh fun m hm=>.inl (by simpa [Value.ownBlock] using hm.symm)⟩
  case round =>
   clear hown1;obtain ⟨A,c,j,hj,rfl,rfl,hown,hbel,hownL,zL,HB⟩:=hrel;have hln:=HLn.out j;have zb:=hbel.size
   by_cases hlt:j<L.length
   ·obtain ⟨b,o,rfl,hbB,hc⟩:=(Rd.of_own hownL).at_ hlt;rw [qft _ _ hlt] at hc;have HTj:=Lh (HT.out j hlt);have hri:=HI.out j hlt;have hsx:Tb wr:=HS.out.below (hb0.trans (hbel.mono L0));have HSr:=Lh (HSp.out L[j] hri wr hsx);have hsl:=HSl.out L[j]
    have HR:Hid (∀ (w3 w4:World) (A4:Option Addr) (n4 c4:Nat),Below wr.heap.size wr w3->w3.grownBy w4 (Value.slice A (za (L.take j)).length c).ownBlock->((Value.slice A4 n4 c4).ownBlock=(Value.slice A (za (L.take j)).length c).ownBlock∨(Value.slice A4 n4 c4).ownBlock=some w3.heap.size) ->
      w4.ownsRow (wb.heap.size+1) 21 1 (.slice (some ⟨b,o,none⟩) L.length c1) L.length (chV L)/\(∀ m,(Value.slice A4 n4 c4).ownBlock=some m->m=wb.heap.size∨w1.heap.size<=m)):=Lh fun w3 w4 A4 n4 c4 h3 hg hat=>by
     refine ⟨(qb hownL h3).kept hg (.inr fun e=>?_),fun m hm=>?_⟩
     ·rcases hm:(Value.slice A (za (L.take j)).length c).ownBlock with _ | m
      ·rw [hm] at e
       simp [Value.ownBlock] at e
      ·rw [hm] at e;have h1:=HLb.out m e;have h2:=HB.out m hm
       omega
     ·rcases hat with e | e
      ·rw [e] at hm;exact HB.out m hm
      ·rw [e] at hm
       injection hm with hm
       right
       have:=h3.size
       omega
    generalize L[j]=r at *
    generalize qD (r:Int)=SL at *
    generalize za (L.take j)=F at *
    go_wp2_with (first
     | (go_at_call 128;refine HSr.out.mono ?_;rintro e w3 ⟨A3,c3,rfl,hown3,hbel3⟩;have z3:=hbel3.size)
     | (at_builtin;go_must (refine qg rfl _ _ _ rfl qp (wb.heap.size) _ rfl ((qb hown hbel3)) _ _ rfl ((Rd.of_own hown3)) ?_);intro A4 c4 w4 hown4 hbel4 hgr4 hat4;have z4:=hbel4.size;(try simp only [Li] at z4);(try simp only [Lo,Lg] at hown4)))
    obtain ⟨r1,r2⟩:=HR.out w3 w4 A4 _ c4 hbel3 hgr4 hat4;exact ⟨⟨A4,c4,j+1,by omega,by go_num,by rw [HTj.out,Lf],by rw [HTj.out,Lf];simpa [sv] using hown4,(hbel.trans (hbel3.mono zb)).trans hbel4,r1,by omega,by rw [HTj.out,Lf];exact Lh r2⟩,by simp [intOf];omega⟩
   ·obtain rfl:j=L.length:=by omega
    rw [HTA.out] at hown ⊢;go_wp2;go_ret;exact ⟨A,c,rfl,qt hown L0,hb0.trans (hbel.mono L0)⟩
def qaU (l:List Gl):Nat:=(l.filter fun g=>qd g==2).length
theorem qgp {g:Gl} (h:qd g=1∨qd g=2) : ∃ c:UInt8,g.text=⟨#[c]⟩/\((qd g=1/\97<=c.toNat/\c.toNat<=122)∨(qd g=2/\65<=c.toNat/\c.toNat<=90))/\headB g=c:=by
 unfold qd at *
 unfold headB
 match hg:g.text.data.toList with
 | []=>rw [hg] at h;simp at h
 | [c] =>
  rw [hg] at h;refine ⟨c,ByteArray.ext (Array.toList_inj.1 (by rw [hg])),?_,rfl⟩;simp only at h ⊢;unfold vg at *
  split at h
  ·rename_i h1;exact .inl ⟨by rw [if_pos h1],h1⟩
  ·split at h
   ·rename_i h1 h2;exact .inr ⟨by rw [if_neg h1,if_pos h2],h2⟩
   ·split at h <;> simp at h
 | _::_::_=>rw [hg] at h;simp at h
def qeH (n:Nat):List ByteArray:=if n=1 then [bCap] else []
theorem capW_len (n:Nat):(qaB n).length<=1:=by
 unfold qaB
 (repeat' split) <;> simp
theorem qj0 {l:List Gl} {j:Nat} (h:j<l.length):(lowL l).take (j+1)=(lowL l).take j++[lowB (headB l[j])]:=by
 unfold lowL;rw [<- List.map_take,<- List.map_take,(List.take_append_getElem h).symm,List.map_append]
 rfl
theorem qhH {l:List Gl} {j:Nat} (h:j<l.length):qaU (l.take (j+1))=qaU (l.take j)+if qd l[j]=2 then 1 else 0:=by
 unfold qaU;rw [(List.take_append_getElem h).symm,List.filter_append,Lf]
 congr 1
 by_cases hk:qd l[j]=2 <;> simp [hk]
theorem qgw (w0:World) (v:Int) (b:UInt8) (hv:v=(b.toNat:Int)):(convert 172 9 (.slice (some ⟨w0.heap.size,0,none⟩) 1 1)).run prog (w0.alloc (.cells #[.int .u8 v] 5)) = .ok (.string ⟨#[b]⟩) (w0.alloc (.cells #[.int .u8 v] 5)):=by
 subst hv;exact run_convert_bytes_back _ _ _ 5 ⟨w0.heap.size,0,none⟩ 1 [b] underlying172 underlying5 underlying9 fun j hj=>by
  obtain rfl:j=0:=by simp at hj;exact hj
  exact qu w0 _ _ 0
theorem qgB (L:List UInt8) (b:UInt8):(⟨L.toArray⟩++⟨#[b]⟩:ByteArray)=⟨(L++[b]).toArray⟩:=by
 apply ByteArray.ext
 rw [ByteArray.data_append]
 simp
theorem low_one {c:UInt8} (h1:97<=c.toNat):lowB c=c:=by
 unfold lowB;rw [if_neg L0]
theorem low_two {c:UInt8} (h1:65<=c.toNat) (h2:c.toNat<=90):lowB c=c+32/\((c.toNat:Int)+32=((c+32:UInt8).toNat:Int)):=by
 unfold lowB;rw [if_pos ⟨h1,h2⟩];refine ⟨rfl,?_⟩;rw [UInt8.toNat_add];have:(32:UInt8).toNat=32:=rfl
 omega
theorem jA {w w':World} {base m c:Nat} {A:Option Addr} {xs:List Value} {L:List ByteArray} (h:w'.ownsRow base 9 1 (.slice A m c) m xs) (hm:m=L.length) (hx:xs=sv L) (hbase:w.heap.size<=base) (hb:Below w.heap.size w w') :
  ql 9 1 id w L.length (sv L) (.returned (.slice A m c)) w':=by
 subst hm hx;exact ⟨A,c,rfl,qt h hbase,hb⟩
theorem rletters (l:List Gl) (hk : ∀ x∈l,qd x=1∨qd x=2) (hl:l.length<=1000000) (A:Option Addr) (n c B:Nat) (r:Int) (d sp:Bool) (q:Int) (co:Bool) (k:Int) (w:World) (ht:Tb w) (rd:Rd w B 3 A n (qi l)) (hB:B<=w.heap.size) :
  Calls prog 106 #[.slice A n c,stV r d sp q co k] w (ql 9 1 id w (lettersL l sp).length (sv (lettersL l sp))):=by
 obtain rfl:=jK rd;have HK:Hid (∀ (g:Gl),qd g=1∨qd g=2->∀ w,Calls prog 85 #[glV g] w (qh (.int .u8 (rkV (qd g))) w)):=Lh fun g hg w=>by
  obtain ⟨c,hc,_⟩:=qgp hg;exact qfZ g (by rw [hc];exact (by decide:1<=1000000000)) w
 have HG:Hid (∀ (j:Nat) (h:j<l.length),qd l[j]=1∨qd l[j]=2):=Lh fun j h=>hk _ (Lt h)
 have HLo:Hid (∀ (j:Nat) (h:j<l.length),(lowL l).take (j+1)=(lowL l).take j++[lowB (headB l[j])]):=Lh fun j h=>qj0 h
 have HCa:Hid (∀ (j:Nat) (h:j<l.length),qaU (l.take (j+1))=qaU (l.take j)+if qd l[j]=2 then 1 else 0):=Lh fun j h=>qhH h
 have HRd:=Lh rd;have HT:=Lh ht;clear hk ht rd
 go_enter func106,ntmps106
 go_upto_region 2 with fail
 refine qa (fun X=>StBox X r d sp q co k w.heap.size/\Below w.heap.size w X/\X.ownsRow (w.heap.size+1) 9 1 (.slice (some ⟨w.heap.size+1,0,none⟩) 0 0) 0 []/\X.heap.size=w.heap.size+2) ⟨(StBox.new w r d sp q co k 38).below (B:=w.heap.size+1) (Below.alloc (Le _ _) L1 _) L0,(Below.alloc (Le _ _) (Ld _) _).alloc L1 _,by have h:=qx (w:=w.alloc (.cells #[.int .i64 r,.bool d,.bool sp,.int .i64 q,.bool co,.int .i64 k] 38)) (xs:=[]) (e:=9) (b:=w.heap.size+1) (n:=0) (size:=1) (base:=w.heap.size+1) L1 rfl (Ld _) L0;exact h,by simp⟩ ?_;rintro X ⟨hst,hbX,hoX,hzX⟩;go_wp2
 go_loopw [6,7,8] (fun x y z wr=>∃ j:Nat,j<=l.length/\z = .int .i64 j/\x = .string ⟨((lowL l).take j).toArray⟩/\y = .int .i64 (qaU (l.take j))/\Below X.heap.size X wr) (fun _ _ z _=>l.length-(intOf z).toNat)
 case atStart=>exact ⟨0,Nat.zero_le _,rfl,rfl,rfl,Le _ _⟩
 case round =>
  obtain ⟨j,hj,rfl,rfl,rfl,hb⟩:=hrel
  by_cases hlt:j<l.length
  ·have hrw:=HRd.out.below (hbX.mono hB);obtain ⟨b,o,rfl,hbB,c0,c1,c2⟩:=jE (hrw.below (hb.mono L0)) hlt rfl;have HKj:=Lh (HK.out l[j] (HG.out j hlt));obtain ⟨ch,htx,hkd,hhd⟩:=qgp (HG.out j hlt);have HLj:=Lh (HLo.out j hlt);have HCj:=Lh (HCa.out j hlt);have hcl:qaU (l.take j)<=1000000:=by
    unfold qaU;have:=List.length_filter_le (fun g=>qd g==2) (l.take j);rw [Lu] at this
    omega
   rw [hhd] at HLj;have hLo:((lowL l).take j).length<=1000000:=by rw [Lu];omega
   generalize qaU (l.take j)=CN at *
   generalize (lowL l).take j=LO at *
   generalize qd l[j]=KD at *
   generalize l[j]=g at *
   obtain ⟨tx,wd,sx⟩:=g;dsimp only at *
   subst htx;have hix:((⟨#[ch]⟩:ByteArray)[0]'(show 0<1 by decide)).toNat=ch.toNat:=rfl;have hsz:(⟨LO.toArray⟩:ByteArray).size<=1000000:=by
    show LO.toArray.size<=_
    rw [List.size_toArray];exact hLo
   rcases hkd with ⟨rfl,h1,h2⟩ | ⟨rfl,h1,h2⟩
   ·rw [low_one h1] at HLj;rw [if_neg L2] at HCj;have hs2:(⟨#[ch]⟩:ByteArray).size<=4:=by show 1<=4;omega
    go_wp2_with (go_at_call 85;refine (HKj.out _).mono ?_;rintro e w2 ⟨rfl,hb2⟩;have hby:=qgw w2 _ ch rfl)
    exact ⟨⟨j+1,by omega,by go_num,by rw [qgB,HLj.out],by rw [HCj.out];rfl,(hb.trans (hb2.mono hb.size)).alloc (Lj hb.size hb2.size) _⟩,by simp [intOf];omega⟩
   ·obtain ⟨hlo,hlv0⟩:=low_two h1 h2;rw [hlo] at HLj;rw [if_pos rfl] at HCj;generalize ch+32=cu at *
    have hlv:=Lh hlv0;clear hlv0 hlo;have hs2:(⟨#[cu]⟩:ByteArray).size<=4:=by show 1<=4;omega
    go_wp2_with (go_at_call 85;refine (HKj.out _).mono ?_;rintro e w2 ⟨rfl,hb2⟩;have hby:=qgw w2 _ cu hlv.out)
    exact ⟨⟨j+1,by omega,by go_num,by rw [qgB,HLj.out],by rw [HCj.out];rfl,(hb.trans (hb2.mono hb.size)).alloc (Lj hb.size hb2.size) _⟩,by simp [intOf];omega⟩
  ·obtain rfl:j=l.length:=by omega
   have hLl:(lowL l).length=l.length:=by unfold lowL;rw [Lq]
   rw [List.take_of_length_le (by omega:(lowL l).length<=l.length),List.take_length];have hLET:Hid (lettersL l sp=qaB (qaU l)++(if sp=true then qS::((lowL l).map fun c=>(⟨#[c]⟩:ByteArray))++[qaO] else (if jF ⟨(lowL l).toArray⟩=true then [vD] else [])++[⟨(lowL l).toArray⟩])):=Lh rfl;have hoW:=qb hoX hb;have hbw:=hbX.trans (hb.mono hbX.size);have hsw:=hst.below hb L0;have htw:=HT.out.below hbw;have htb:Hid (∀ wx,Below (w.heap.size+1) wr wx->Tb wx):=Lh fun wx h=>HT.out.below (hbw.trans (h.mono L0))
   have hwz:w.heap.size+2<=wr.heap.size:=by have:=hb.size;omega
   have hLS:(⟨(lowL l).toArray⟩:ByteArray).size<=1000000:=by
    show (lowL l).toArray.size<=_
    rw [List.size_toArray]
    omega
   clear HK HG HLo HCa HRd HT hst hoX hb hbX hzX hlt hj;have hLL:(lowL l).length<=1000000:=by omega
   generalize qaU l=CN at *
   generalize lowL l=LL at *
   obtain ⟨C0,C1,C2,C3,C4,C5⟩:=hsw;have hbe:Below (w.heap.size+1) wr wr:=Le _ _;have HSt:Hid (∀ wx,Below (w.heap.size+1) wr wx->StBox wx r d sp q co k w.heap.size/\Below w.heap.size w wx/\Tb wx):=Lh fun wx h=>⟨StBox.below ⟨C0,C1,C2,C3,C4,C5⟩ h L0,hbw.trans (h.mono L0),htb.out wx h⟩
   clear hbw htw C0 C1 C2 C3 C4 C5
   go_upto_if 40 with fail
   go_cut [5] (fun v wx=>Ow wx (w.heap.size+1) 9 1 v (qeH CN).length (sv (qeH CN))/\Below (w.heap.size+1) wr wx)
   case first =>
    by_cases h1:CN=1
    ·subst h1
     go_wp2_with (at_builtin;go_must (refine qg rfl _ _ _ rfl qp ((w.heap.size+1)) _ rfl ((qb hoW (Below.alloc (Le _ _) (Ld _) _))) _ _ rfl ((qe (xs:=sv [bCap]) rfl rfl)) ?_);intro A4 c4 w4 hown4 hbel4 hgr4 hat4;have z4:=hbel4.size;(try simp only [Li] at z4);(try simp only [Lo,Lg] at hown4))
     go_meet
     case rel=>exact ⟨⟨_,_,rfl,hown4⟩,(hbe.alloc L0 _).trans hbel4⟩
    ·have e1:((CN:Int)==1)=false:=Lm.2 L0;have ec:qeH CN=[]:=if_neg h1;go_wp2;go_meet
     case rel=>exact ⟨by rw [ec];exact ⟨_,_,rfl,hoW⟩,hbe⟩
   case rest =>
    obtain ⟨⟨A5,c5,rfl,o5⟩,hb5⟩:=hcut;have z5:=hb5.size;clear hoW hbe
    go_upto_if 45 with fail
    go_cut [5] (fun v wx=>Ow wx (w.heap.size+1) 9 1 v (qaB CN).length (sv (qaB CN))/\Below (w.heap.size+1) wr wx)
    case first =>
     by_cases h1:1<CN
     ·have e1:(1:Int)<CN:=by omega
      have ec:qaB CN=[yi]:=by unfold qaB;rw [if_neg L0,if_pos h1]
      have ec1:qeH CN=[]:=if_neg L0;rw [ec1] at o5 ⊢;rw [List.length_nil] at o5 ⊢;have HEc:=Lh ec;clear ec ec1 h1
      go_wp2_with (at_builtin;go_must (refine qg rfl _ _ _ rfl qp ((w.heap.size+1)) _ rfl ((qb o5 (Below.alloc (Le _ _) (Ld _) _))) _ _ rfl ((qe (xs:=sv [yi]) rfl rfl)) ?_);intro A4 c4 w4 hown4 hbel4 hgr4 hat4;have z4:=hbel4.size;(try simp only [Li] at z4);(try simp only [Lo,Lg] at hown4))
      go_meet
      case rel=>exact ⟨by rw [HEc.out];exact ⟨_,_,rfl,hown4⟩,(hb5.alloc L0 _).trans hbel4⟩
     ·have e1 : ¬ (1:Int)<CN:=by omega
      have ec:qaB CN=qeH CN:=by
       unfold qaB qeH
       by_cases h:CN=1
       ·rw [if_pos h,if_pos h]
       ·rw [if_neg h,if_neg h,if_neg h1]
      have HEc:=Lh ec;clear ec h1;go_wp2;go_meet
      case rel=>exact ⟨by rw [HEc.out];exact ⟨_,_,rfl,o5⟩,hb5⟩
    case rest =>
     clear o5 hb5 z5;obtain ⟨⟨A6,c6,rfl,o6⟩,hb6⟩:=hcut;obtain ⟨⟨C0,C1,C2,C3,C4,C5⟩,hbq,htq⟩:=HSt.out _ hb6;have hcw:=capW_len CN;have z6:=hb6.size;have HRs:=Lh (qiS ⟨LL.toArray⟩ wc htq);clear htq HSt hb6;generalize qaB CN=CW at *
     obtain ⟨LS,hLSe⟩ : ∃ LS:ByteArray,LS=⟨LL.toArray⟩:=⟨_,rfl⟩
     rw [<- hLSe] at HRs hLS hLET ⊢;have zq:=hbq.size;have hwz0:w.heap.size+1<=wc.heap.size:=by omega
     cases sp with
     | false =>
      cases hr:jF LS with
      | true =>
       have HQ:Hid (lettersL l false=CW++([vD]++[LS])):=Lh (by rw [hLET.out,if_neg L1,hr,if_pos rfl]);rw [hr] at HRs;clear hr hLSe hLET
       go_wp2_with (first
        | (go_at_call 127;refine HRs.out.mono ?_;rintro e w7 ⟨rfl,hb7⟩;have z7:=hb7.size)
        | (at_builtin;refine qg rfl _ _ _ rfl qp ((w.heap.size+1)) _ rfl ((qb (qb o6 hb7) (Below.alloc (Le _ _) (Ld _) _))) _ _ rfl ((qe (xs:=sv [vD]) rfl rfl)) ?_;intro A8 c8 w8 hown8 hbel8 hgr8 hat8;have z8:=hbel8.size;(try simp only [Li] at z8);(try simp only [Lo,Lg] at hown8))
        | (at_builtin;refine qg rfl _ _ _ rfl qp ((w.heap.size+1)) _ rfl ((qb hown8 (Below.alloc (Le _ _) (Ld _) _))) _ _ rfl ((qe (xs:=sv [LS]) rfl rfl)) ?_;intro A9 c9 w9 hown9 hbel9 hgr9 hat9;have z9:=hbel9.size;(try simp only [Li] at z9);(try simp only [Lo,Lg] at hown9)))
       go_ret;rw [HQ.out];exact jA hown9 L1 (by simp [sv]) L0 (((((hbq.trans (hb7.mono zq)).alloc L0 _).trans (hbel8.mono L0)).alloc L0 _).trans (hbel9.mono L0))
      | false =>
       have HQ:Hid (lettersL l false=CW++([]++[LS])):=Lh (by rw [hLET.out,if_neg L1,hr,if_neg L1]);rw [hr] at HRs;clear hr hLSe hLET
       go_wp2_with (first
        | (go_at_call 127;refine HRs.out.mono ?_;rintro e w7 ⟨rfl,hb7⟩;have z7:=hb7.size)
        | (at_builtin;refine qg rfl _ _ _ rfl qp ((w.heap.size+1)) _ rfl ((qb (qb o6 hb7) (Below.alloc (Le _ _) (Ld _) _))) _ _ rfl ((qe (xs:=sv [LS]) rfl rfl)) ?_;intro A8 c8 w8 hown8 hbel8 hgr8 hat8;have z8:=hbel8.size;(try simp only [Li] at z8);(try simp only [Lo,Lg] at hown8)))
       go_ret;rw [HQ.out];exact jA hown8 L1 (by simp [sv]) L0 (((hbq.trans (hb7.mono zq)).alloc L0 _).trans (hbel8.mono L0))
     | true =>
      have HQ:Hid (lettersL l true=CW++(qS::(LL.map fun c=>(⟨#[c]⟩:ByteArray))++[qaO])):=Lh (by rw [hLET.out,if_pos rfl]);clear HRs hLET;have hLsz:LS.size=LL.length:=by rw [hLSe];show LL.toArray.size=_;simp
      have HX:Hid (∀ (j:Nat) (h:j<LS.size),LS.extract j (j+1)=⟨#[LS[j]]⟩):=Lh (qeF LS);have HT2:Hid (∀ (j:Nat) (h:j<LS.size),sv (CW++qS::(LL.take (j+1)).map fun c=>(⟨#[c]⟩:ByteArray))=sv (CW++qS::(LL.take j).map fun c=>(⟨#[c]⟩:ByteArray))++[.string ⟨#[LS[j]]⟩]):=Lh fun j h=>by
       have hj:j<LL.length:=by omega
       have e:LS[j]=LL[j]:=by subst hLSe;rfl
       rw [e,(List.take_append_getElem hj).symm,List.map_append]
       simp [sv]
      have HE:Hid (LL.map (fun c=>(⟨#[c]⟩:ByteArray))=(LL.take LS.size).map fun c=>(⟨#[c]⟩:ByteArray)):=Lh (by rw [List.take_of_length_le L0]);have HEl:Hid (LL.length=LS.size):=Lh hLsz.symm;clear hLSe hLsz hLL hLl
      go_wp2_with (at_builtin;go_must (refine qg rfl _ _ _ rfl qp ((w.heap.size+1)) _ rfl ((qb o6 (Below.alloc (Le _ _) (Ld _) _))) _ _ rfl ((qe (xs:=sv [qS]) rfl rfl)) ?_);intro A7 c7 w7 hown7 hbel7 hgr7 hat7;have z7:=hbel7.size;(try simp only [Li] at z7);(try simp only [Lo,Lg] at hown7))
      have h7:Below w.heap.size w w7:=(hbq.alloc L0 _).trans (hbel7.mono L0);have e70:sv CW++[.string qS]=sv (CW++qS::(LL.take 0).map fun c=>(⟨#[c]⟩:ByteArray)):=by simp [sv]
      have o70:Ow w7 (w.heap.size+1) 9 1 (.slice A7 (CW.length+1) c7) (CW.length+1+0) (sv (CW++qS::(LL.take 0).map fun c=>(⟨#[c]⟩:ByteArray))):=⟨A7,c7,rfl,by rw [<- e70];exact hown7⟩
      clear e70;have hbd:LS.size<=1000000:=hLS
      go_loopw [5,10] (fun x y wx=>∃ j:Nat,j<=LS.size/\y = .int .i64 j/\Ow wx (w.heap.size+1) 9 1 x (CW.length+1+j) (sv (CW++qS::(LL.take j).map fun c=>(⟨#[c]⟩:ByteArray)))/\Below w.heap.size w wx/\w.heap.size+1<=wx.heap.size) (fun _ y _=>LS.size-(intOf y).toNat)
      case atStart=>exact ⟨0,Nat.zero_le _,rfl,o70,h7,by omega⟩
      case round =>
       clear o70 h7 hown7 hbel7 hgr7 hat7 z7 o6;obtain ⟨j,hj,rfl,⟨A8,c8,rfl,o8⟩,hb8,hz8⟩:=hrel;have z8:=hb8.size
       by_cases hlt:j<LS.size
       ·have hx:=HX.out j hlt;have HTj:=Lh (HT2.out j hlt);have hwj:IntKind.i64.wrap ((j:Int)+1)=(j:Int)+1:=by rw [Lx];omega
        have hj0:(0:Int)<=(j:Int)+1:=by omega
        have hj1:(j:Int)+1<=LS.size:=by omega
        have hj2:(j:Int)<=(j:Int)+1:=by omega
        have hj3:((j:Int)+1).toNat=j+1:=by omega
        clear HX HT2 HE;generalize LS[j]=cj at *
        generalize sv (CW++qS::(LL.take j).map fun c=>(⟨#[c]⟩:ByteArray))=XS at *
        go_wp2_with (at_builtin;go_must (refine qg rfl _ _ _ rfl qp ((w.heap.size+1)) _ rfl ((qb o8 (Below.alloc (Le _ _) (Ld _) _))) _ _ rfl ((qe (xs:=sv [⟨#[cj]⟩]) rfl rfl)) ?_);intro A9 c9 w9 hown9 hbel9 hgr9 hat9;have z9:=hbel9.size;(try simp only [Li] at z9);(try simp only [Lo,Lg] at hown9))
        exact ⟨⟨j+1,by omega,by go_num,⟨_,_,rfl,by rw [HTj.out];exact hown9⟩,(hb8.alloc z8 _).trans (hbel9.mono L0),by omega⟩,by simp [intOf];omega⟩
       ·obtain rfl:j=LS.size:=by omega
        rw [<- HE.out] at o8;clear HX HT2 HE
        go_wp2_with (at_builtin;go_must (refine qg rfl _ _ _ rfl qp ((w.heap.size+1)) _ rfl ((qb o8 (Below.alloc (Le _ _) (Ld _) _))) _ _ rfl ((qe (xs:=sv [qaO]) rfl rfl)) ?_);intro A9 c9 w9 hown9 hbel9 hgr9 hat9;have z9:=hbel9.size;(try simp only [Li] at z9);(try simp only [Lo,Lg] at hown9))
        go_ret;rw [HQ.out];exact jA hown9 (by simp [HEl.out];omega) (by simp [sv]) L0 ((hb8.alloc z8 _).trans (hbel9.mono L0))
theorem qdp {g:Gl} (h:qd g=3) : ∃ c:UInt8,g.text=⟨#[c]⟩/\48<=c.toNat/\c.toNat<=57/\headB g=c:=by
 unfold qd at *
 unfold headB
 match hg:g.text.data.toList with
 | []=>rw [hg] at h;simp at h
 | [c] =>
  rw [hg] at h;refine ⟨c,ByteArray.ext (Array.toList_inj.1 (by rw [hg])),?_⟩;simp only at h ⊢;unfold vg at h
  split at h
  ·simp at h
  ·split at h
   ·simp at h
   ·split at h
    ·rename_i h1;exact ⟨h1.1,h1.2,rfl⟩
    ·simp at h
 | _::_::_=>rw [hg] at h;simp at h
theorem qiN {l:List Gl} {j:Nat} (h:j<l.length):(digL l).take (j+1)=(digL l).take j++[(headB l[j]).toNat-48]:=by
 unfold digL;rw [<- List.map_take,<- List.map_take,(List.take_append_getElem h).symm,List.map_append]
 rfl
theorem ow_of {w:World} {base size m n c:Nat} {e:TypeId} {A:Option Addr} {xs ys:List Value} (h:w.ownsRow base e size (.slice A m c) m xs) (hm:m=n) (hx:xs=ys):Ow w base e size (.slice A m c) n ys:=by
 subst hm hx;exact ⟨A,c,rfl,h⟩
theorem digL_ten {l:List Gl} (h : ∀ x∈l,qd x=3) : ∀ d∈digL l,d<10:=by
 intro d hd;unfold digL at hd;obtain ⟨g,hg,rfl⟩:=List.mem_map.1 hd;obtain ⟨c,_,h1,h2,h3⟩:=qdp (h g hg);rw [h3]
 omega
theorem num_nine {D:List Nat} (h : ∀ d∈D,d<10) (j:Nat) (hj:j<=9):numL (D.take j)<=999999999:=by
 have h1:=num9 (D:=D.take j) fun d hd=>h d (List.mem_of_mem_take hd)
 have h2:10 ^ (D.take j).length<=10 ^ 9:=Nat.pow_le_pow_right L2 (by rw [Lu];omega)
 omega
theorem catW_bd (D:List Nat):(qbu D).length<=16 * D.length:=by
 have:=qdJ D
 omega
theorem rdigits (l:List Gl) (hk : ∀ x∈l,qd x=3) (h0:0<l.length) (hl:l.length<=1000000) (A:Option Addr) (n c B:Nat) (r:Int) (d sp:Bool) (q:Int) (co:Bool) (k:Int) (w:World) (ht:Tb w) (rd:Rd w B 3 A n (qi l)) (hB:B<=w.heap.size) :
  Calls prog 107 #[.slice A n c,stV r d sp q co k] w (ql 9 1 id w (digitsL l d).length (sv (digitsL l d))):=by
 obtain rfl:=jK rd;have HG:Hid (∀ (j:Nat) (h:j<l.length),qd l[j]=3):=Lh fun j h=>hk _ (Lt h)
 have HDi:Hid (∀ (j:Nat) (h:j<l.length),(digL l).take (j+1)=(digL l).take j++[(headB l[j]).toNat-48]):=Lh fun j h=>qiN h
 have HN9:Hid (∀ j,j<=9->numL ((digL l).take j)<=999999999):=Lh fun j hj=>num_nine (digL_ten hk) j hj
 have HCb:Hid (∀ j,j<=l.length->(qbu ((digL l).take j)).length<=16 * j):=Lh fun j hj=>by
  have:=catW_bd ((digL l).take j);rw [Lu] at this
  omega
 have hDl:(digL l).length=l.length:=by unfold digL;rw [Lq]
 have HWo:Hid (∀ (x:Int) (m:Nat),x=(m:Int)->m<=999999999->∀ w,Tb w->Calls prog 51 #[.int .i64 x] w (ql 9 1 yP w (numW m).length (sv (numW m)))):=Lh fun x m hx hm w ht=>by
  subst hx;have h:=qbl (m:Int) L0 L0 w ht;rw [wv_sv] at h;unfold numW;rw [Lq];exact h
 have HDL:Hid (digitsL l d=if d=true∨9<l.length∨(1<l.length/\(digL l).headD 1=0) then vI::qbu (digL l) else numW (numL (digL l))):=Lh rfl;have HRd:=Lh rd;have HT:=Lh ht;clear hk ht rd
 go_enter func107,ntmps107
 go_upto_region 3 with fail
 refine qa (fun X=>StBox X r d sp q co k w.heap.size/\Below w.heap.size w X/\X.ownsRow (w.heap.size+1) 9 1 (.slice (some ⟨w.heap.size+1,0,none⟩) 1 1) 1 (sv [vI])/\X.heap.size=w.heap.size+2) ⟨(StBox.new w r d sp q co k 38).below (B:=w.heap.size+1) (Below.alloc (Le _ _) L1 _) L0,(Below.alloc (Le _ _) (Ld _) _).alloc L1 _,by have h:=qx (w:=w.alloc (.cells #[.int .i64 r,.bool d,.bool sp,.int .i64 q,.bool co,.int .i64 k] 38)) (xs:=sv [vI]) (e:=9) (b:=w.heap.size+1) (n:=1) (size:=1) (base:=w.heap.size+1) L1 rfl (Ld _) L0;exact h,by simp⟩ ?_;rintro X ⟨hst,hbX,hoX,hzX⟩;have HSt:Hid (∀ wx,Below (w.heap.size+1) X wx->StBox wx r d sp q co k w.heap.size/\Below w.heap.size w wx/\Tb wx):=Lh fun wx h=>⟨hst.below h L0,hbX.trans (h.mono L0),HT.out.below (hbX.trans (h.mono L0))⟩
 go_wp2
 go_loopw [5,6,7] (fun x y z wr=>∃ j:Nat,j<=l.length/\z = .int .i64 j/\x = .int .i64 (numL ((digL l).take (min j 9)):Nat)/\Ow wr (w.heap.size+1) 9 1 y (1+(qbu ((digL l).take j)).length) (sv (vI::qbu ((digL l).take j)))/\Below (w.heap.size+1) X wr/\w.heap.size+2<=wr.heap.size) (fun _ _ z _=>l.length-(intOf z).toNat)
 case atStart=>exact ⟨0,Nat.zero_le _,rfl,rfl,⟨_,_,rfl,hoX⟩,Le _ _,by omega⟩
 case round =>
  clear hoX hst hzX;obtain ⟨j,hj,rfl,rfl,⟨A6,c6,rfl,o6⟩,hb,hz⟩:=hrel;obtain ⟨⟨C0,C1,C2,C3,C4,C5⟩,hbq,htq⟩:=HSt.out _ hb;have hcb:=HCb.out j hj
  by_cases hlt:j<l.length
  ·obtain ⟨b,o,rfl,hbB,c0,c1,c2⟩:=jE (HRd.out.below (hbq.mono hB)) hlt rfl;obtain ⟨ch,htx,hd1,hd2,hhd⟩:=qdp (HG.out j hlt);have HDj:=Lh (HDi.out j hlt);have hn9:=HN9.out (min j 9) L0;rw [hhd] at HDj;obtain ⟨dg,hdg⟩ : ∃ dg,dg=ch.toNat-48:=⟨_,rfl⟩
   rw [<- hdg] at HDj;have HWj:=Lh (HWo.out ((ch.toNat:Int)-48) dg L0 L0);have hNL:=kR dg
   have HStep:Hid ((j<9->numL ((digL l).take (min (j+1) 9))=10 * numL ((digL l).take (min j 9))+dg)/\(9<=j->numL ((digL l).take (min (j+1) 9))=numL ((digL l).take (min j 9)))):=Lh ⟨fun h=>by
    rw [show min (j+1) 9=j+1 by omega,show min j 9=j by omega,HDj.out,qeq],fun h=>by rw [show min (j+1) 9=9 by omega,show min j 9=9 by omega]⟩
   have HCat:Hid (qbu ((digL l).take (j+1))=qbu ((digL l).take j)++numW dg):=Lh (by rw [HDj.out,qi3]);clear HDj;generalize numL ((digL l).take (min j 9))=NN at *
   generalize qbu ((digL l).take j)=CT at *
   generalize l[j]=g at *
   obtain ⟨tx,wd,sx⟩:=g;dsimp only at *
   subst htx;have hix:((⟨#[ch]⟩:ByteArray)[0]'(show 0<1 by decide)).toNat=ch.toNat:=rfl;have hdgI:Hid ((ch.toNat:Int)-48=dg):=Lh L0;clear hdg hhd
   by_cases h9:j<9
   ·have i9:(j:Int)<9:=by omega
    have e9:=Lh (HStep.out.1 h9);clear HStep h9
    go_wp2_with (first
     | (go_at_call 51;refine (HWj.out _ htq).mono ?_;rintro e w7 ⟨A7,c7,rfl,o7,hb7⟩;have z7:=hb7.size)
     | (at_builtin;refine qg rfl _ _ _ rfl qp ((w.heap.size+1)) _ rfl ((qb o6 hb7)) _ _ rfl ((Rd.of_own o7)) ?_;intro A8 c8 w8 hown8 hbel8 hgr8 hat8;have z8:=hbel8.size;(try simp only [Li] at z8);(try simp only [Lo,Lg] at hown8)))
    exact ⟨⟨j+1,by omega,by go_num,by rw [e9.out];have:=hdgI.out;congr 1;omega,ow_of hown8 (by rw [HCat.out,Lf,Nat.add_assoc]) (by rw [HCat.out];simp [sv]),(hb.trans (hb7.mono L0)).trans hbel8,by omega⟩,by simp [intOf];omega⟩
   ·have i9 : ¬ (j:Int)<9:=by omega
    have e9:=Lh (HStep.out.2 L0);clear HStep h9
    go_wp2_with (first
     | (go_at_call 51;refine (HWj.out _ htq).mono ?_;rintro e w7 ⟨A7,c7,rfl,o7,hb7⟩;have z7:=hb7.size)
     | (at_builtin;refine qg rfl _ _ _ rfl qp ((w.heap.size+1)) _ rfl ((qb o6 hb7)) _ _ rfl ((Rd.of_own o7)) ?_;intro A8 c8 w8 hown8 hbel8 hgr8 hat8;have z8:=hbel8.size;(try simp only [Li] at z8);(try simp only [Lo,Lg] at hown8)))
    exact ⟨⟨j+1,by omega,by go_num,by rw [e9.out],ow_of hown8 (by rw [HCat.out,Lf,Nat.add_assoc]) (by rw [HCat.out];simp [sv]),(hb.trans (hb7.mono L0)).trans hbel8,by omega⟩,by simp [intOf];omega⟩
  ·obtain rfl:j=l.length:=by omega
   obtain ⟨b,o,rfl,hbB,c0,c1,c2⟩:=jE (HRd.out.below (hbq.mono hB)) h0 rfl;rw [Nat.zero_mul,Nat.add_zero] at c0;obtain ⟨ch,htx,hd1,hd2,hhd⟩:=qdp (HG.out 0 h0);rw [htx] at c0;have hq0:((⟨#[ch]⟩:ByteArray).toList==[48])=decide (ch=48):=by
    rw [ByteArray.toList_eq,Bool.eq_iff_iff,beq_iff_eq,decide_eq_true_iff]
    simp
   have hh:(digL l).headD 1=ch.toNat-48:=by
    cases l with
    | nil=>simp at h0
    | cons g t =>
     unfold digL;rw [List.map_cons,List.headD_cons];simp only [List.getElem_cons_zero] at hhd;rw [hhd]
   have etk:(digL l).take l.length=digL l:=List.take_of_length_le L0;rw [etk] at o6 hcb ⊢;clear etk;have hz0:(ch=48)↔(digL l).headD 1=0:=by
    rw [hh]
    constructor
    ·rintro rfl;rfl
    ·intro h;have:ch.toNat=48:=by omega
     exact UInt8.toNat_inj.1 this
   have hwx:w.heap.size+1<=wr.heap.size:=by omega
   have HN:Hid (l.length<=9->numL ((digL l).take (min l.length 9))=numL (digL l)):=Lh fun h=>by rw [List.take_of_length_le L0]
   have hn9:=HN9.out (min l.length 9) L0;have HWn:=Lh (HWo.out (numL ((digL l).take (min l.length 9)):Nat) _ rfl hn9);clear HG HDi HN9 HCb HWo HRd HT HSt hb htx hhd hh hDl;generalize qbu (digL l)=CT at *
   generalize hNN:numL ((digL l).take (min l.length 9))=NN at *
   have HQd:Hid (d=true∨9<l.length∨(1<l.length/\ch=48)->digitsL l d=vI::CT):=Lh fun h=>by
    rw [HDL.out,if_pos];rw [<- hz0];exact h
   have HQn:Hid (¬ (d=true∨9<l.length∨(1<l.length/\ch=48))->digitsL l d=numW NN):=Lh fun h=>by
    rw [HDL.out,if_neg (by rw [<- hz0];exact h),HN.out L0]
   clear HDL hz0 hNN HN c1 c2 hd1 hd2;generalize (⟨#[ch]⟩:ByteArray)=S0 at *
   cases d with
   | true =>
    have HQ:=Lh (HQd.out (.inl rfl));clear HQd HQn HWn;go_wp2;go_ret;rw [HQ.out];exact jA o6 (by simp;omega) rfl L0 hbq
   | false =>
    by_cases h1:1<l.length
    ·have i1:(1:Int)<l.length:=by omega
     by_cases hc:ch=48
     ·have HQ:=Lh (HQd.out (.inr (.inr ⟨h1,hc⟩)));rw [Ll hc] at hq0;clear HQd HQn HWn hc h1;go_wp2;go_ret;rw [HQ.out];exact jA o6 (by simp;omega) rfl L0 hbq
     ·rw [Lk hc] at hq0
      by_cases h9:9<l.length
      ·have i9:(9:Int)<l.length:=by omega
       have HQ:=Lh (HQd.out (.inr (.inl h9)));clear HQd HQn HWn hc h1 h9;go_wp2;go_ret;rw [HQ.out];exact jA o6 (by simp;omega) rfl L0 hbq
      ·have i9 : ¬ (9:Int)<l.length:=by omega
       have HQ:=Lh (HQn.out (by rintro (h | h | h);(cases h);(exact h9 h);exact hc h.2));clear HQd HQn hc h1 h9
       go_wp2_with (go_at_call 51;refine (HWn.out _ htq).mono ?_;rintro e w7 ⟨A7,c7,rfl,o7,hb7⟩)
       go_ret;rw [HQ.out];exact jA o7 rfl rfl hbq.size (hbq.trans (hb7.mono hbq.size))
    ·have i1 : ¬ (1:Int)<l.length:=by omega
     have i9 : ¬ (9:Int)<l.length:=by omega
     have HQ:=Lh (HQn.out (by rintro (h | h | h);(cases h);omega;exact h1 h.1));clear HQd HQn h1
     go_wp2_with (go_at_call 51;refine (HWn.out _ htq).mono ?_;rintro e w7 ⟨A7,c7,rfl,o7,hb7⟩)
     go_ret;rw [HQ.out];exact jA o7 rfl rfl hbq.size (hbq.trans (hb7.mono hbq.size))
end Go.Proofs.YtbogmeeijdaijaaGreatDoor
