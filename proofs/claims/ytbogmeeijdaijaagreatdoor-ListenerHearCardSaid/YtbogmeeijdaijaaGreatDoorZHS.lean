/- Joined: LvP, Um1, Up3, Ul1, Ls1, Ls2, LxP, Ls3, LxH. -/
import Derived.RangeFuncNested
import Derived.RangeFuncBound
import Derived.RangeFuncCalls
import Derived.RangeFuncLeaves
import Derived.RangeFuncBox
import Derived.Shelf.Abstract
import Derived.OwnWalkIn
import Derived.TacticsInMore
import Derived.LoopNIn
import Derived.LoopIn
import Derived.Sort.CutIn
import Derived.Shelf.RegionOpen
import Derived.Test.YtbogmeeijdaijaaGreatDoorZAV
import Derived.Test.YtbogmeeijdaijaaGreatDoorZAZ
import Derived.Test.YtbogmeeijdaijaaGreatDoorZEJ
set_option linter.unusedVariables false
set_option linter.unusedSimpArgs false
set_option linter.unnecessarySimpa false
set_option maxHeartbeats 8000000
namespace Go.Proofs.YtbogmeeijdaijaaGreatDoor
open Go.Proofs.Tryz Go.RowKit
set_option maxRecDepth 20000
theorem qer : ∀ (l:List Chg) (v:Vw),OnV v->(goV v l).2=0->js (goV v l).1=0
 | [],v,h,e=>by
  unfold goV at e ⊢
  split
  ·next hw=>exact h.zero hw
  ·next hw=>rw [if_neg hw] at e;cases e
 | c::t,v,h,e=>by
  unfold goV at e ⊢
  by_cases hc:qan v c=0
  ·rw [if_neg (by simpa using hc)] at e ⊢;exact qer t _ (h.step hc) e
  ·rw [if_pos hc] at e;exact absurd e hc
theorem qe3 {v:Vw} {l:List Chg} (e:(yx v l).2=0):js (yx v l).1=0:=by
 unfold yx at e ⊢
 split
 ·next h=>rw [if_pos h] at e;cases e
 ·next h=>rw [if_neg h] at e;exact qer l v (.of (by simpa using h)) e
theorem qcL {m:Md} {l:List ByteArray} (e:(yT m l).2=0):vu (yT m l).1=true:=by
 unfold yT at e ⊢
 by_cases hp:vu m=false
 ·rw [if_pos hp] at e;cases e
 ·rw [if_neg hp] at e ⊢
  cases hc:jm l with
  | none=>rw [hc] at e;cases e
  | some x =>
   obtain ⟨cs,n⟩:=x;rw [hc] at e;simp only at e ⊢
   by_cases h1:(yx m.view cs).2=0
   ·rw [if_neg (by simpa using h1)] at e ⊢
    by_cases h2:MaxT<m.upd+n
    ·rw [if_pos h2] at e;cases e
    ·rw [if_neg h2];have hp:vu m=true:=by simpa using hp
     unfold vu at hp ⊢;rw [decide_eq_true_iff] at hp ⊢;have:=(qbv hc).2;exact ⟨qe3 h1,by simp only;omega,by simp only;omega⟩
   ·rw [if_pos h1] at e;exact absurd e h1
theorem qhm {m z:Nat} {l:List ByteArray} (h:qcx m z l=true):l.length<=m/\∀ s∈l,s.size<=z:=by
 unfold qcx at h;simp only [Bool.and_eq_true,List.all_eq_true,decide_eq_true_eq] at h;exact h
theorem UwR.err {l:List ChgM} {m r q k x:Int} {S:Setts} {w w':World} {e:Ending} (h:wErr l m r q k=x) (hx:x≠0) (he:e = .returned (.tuple #[.slice none 0 0,.int .i64 x])/\Below w.heap.size w w'):UwR l m r q k S w e w':=by
 unfold UwR;rw [if_neg (by rw [h];exact hx),h];exact he
theorem bothG {P:Program} {f:FuncId} {args:Array Value} {w X:World} {v:Value} (h:Calls P f args X (qh v X)) (hb:Below w.heap.size w X):Calls P f args X fun e X'=>e = .returned v/\Below w.heap.size w X'/\Below X.heap.size X X' :=
 h.mono fun _ _ ⟨h1,h2⟩=>⟨h1,hb.trans (h2.mono hb.size),h2⟩
theorem bothS {P:Program} {f:FuncId} {args:Array Value} {w X:World} {v:Value} (h:Calls P f args X fun e X'=>e = .returned v/\X'=X) (hb:Below w.heap.size w X):Calls P f args X fun e X'=>e = .returned v/\Below w.heap.size w X'/\Below X.heap.size X X' :=
 h.mono fun _ _ ⟨h1,h2⟩=>by subst h2;exact ⟨h1,hb,Le _ _⟩
structure SpkM where
 com:Bool
 ws:List ByteArray
 A:Option Addr
 cap:Nat
 cA:Option Addr
 cn:Nat
 cc:Nat
 cl:Int
 af:Int
 up:Int
 be:Int
 en:Int
instance:Inhabited SpkM:=⟨⟨false,[],none,0,none,0,0,0,0,0,0,0⟩⟩
def encK (x:SpkM):List Value:=[.slice x.A x.ws.length x.cap,.slice x.cA x.cn x.cc,.int .i64 x.cl,.int .i64 x.af,.int .i64 x.up,.int .i64 x.be,.int .i64 x.en,.bool x.com]
def qdD (l:List SpkM):List Value:=l.flatMap encK
theorem qbU (x:SpkM):(encK x).length=8:=rfl
theorem qbE (x:SpkM) (l:List SpkM):qdD (x::l)=encK x++qdD l:=by simp [qdD]
theorem qep : ∀ l:List SpkM,(qdD l).length=l.length * 8
 | []=>rfl
 | r::l=>by
  rw [qbE,Lf,qep l,qbU,Lp]
  omega
theorem qex : ∀ (l:List SpkM) (i j:Nat),j<8->(qdD l)[i * 8+j]? = l[i]?.bind fun r=>(encK r)[j]?
 | [],i,j,_=>by simp [qdD]
 | r::l,0,j,h=>by
  rw [qbE,Nat.zero_mul,Lo,List.getElem?_append_left (by rw [qbU];exact h)]
  rfl
 | r::l,i+1,j,h=>by
  rw [qbE,List.getElem?_append_right (by rw [qbU];omega),qbU,show (i+1) * 8+j-8=i * 8+j by omega,qex l i j h]
  rfl
def RdW (w:World) (B:Nat) (x:SpkM):Prop:=Rd w B 1 x.A x.ws.length (sv x.ws)/\x.ws.length<=x.cap/\x.cap<=maxLen/\∀ s∈x.ws,s.size<=maxLen
theorem RdW.below {w w':World} {B:Nat} {x:SpkM} (h:RdW w B x) (hb:Below B w w'):RdW w' B x:=⟨h.1.below hb,h.2⟩
theorem RdW.more {w:World} {B B':Nat} {x:SpkM} (h:RdW w B x) (hb:B<=B'):RdW w B' x:=⟨h.1.more hb,h.2⟩
structure RdS (w:World) (B:Nat) (A:Option Addr) (n:Nat) (l:List SpkM):Prop where
 rd:Rd w B 8 A n (qdD l)
 gl : ∀ x∈l,RdW w B x
theorem RdS.len {w:World} {B n:Nat} {A:Option Addr} {l:List SpkM} (h:RdS w B A n l):l.length=n:=by
 have:=h.rd.1;rw [qep] at this
 omega
theorem RdS.below {w w':World} {B n:Nat} {A:Option Addr} {l:List SpkM} (h:RdS w B A n l) (hb:Below B w w'):RdS w' B A n l:=⟨h.rd.below hb,fun x hx=>(h.gl x hx).below hb⟩
theorem RdS.more {w:World} {B B' n:Nat} {A:Option Addr} {l:List SpkM} (h:RdS w B A n l) (hb:B<=B'):RdS w B' A n l:=⟨h.rd.more hb,fun x hx=>(h.gl x hx).more hb⟩
theorem RdS.at_ {w:World} {B n:Nat} {A:Option Addr} {l:List SpkM} (h:RdS w B A n l) {k:Nat} (hk:k<l.length) : ∃ b o,A=some ⟨b,o,none⟩/\b<B /\
  w.cell? ⟨b,o+k * 8,none⟩=some (.slice l[k].A l[k].ws.length l[k].cap)/\w.cell? ⟨b,o+k * 8+1,none⟩=some (.slice l[k].cA l[k].cn l[k].cc)/\w.cell? ⟨b,o+k * 8+2,none⟩=some (.int .i64 l[k].cl)/\w.cell? ⟨b,o+k * 8+3,none⟩=some (.int .i64 l[k].af) /\
  w.cell? ⟨b,o+k * 8+4,none⟩=some (.int .i64 l[k].up)/\w.cell? ⟨b,o+k * 8+5,none⟩=some (.int .i64 l[k].be)/\w.cell? ⟨b,o+k * 8+6,none⟩=some (.int .i64 l[k].en)/\w.cell? ⟨b,o+k * 8+7,none⟩=some (.bool l[k].com):=by
 have hn:=h.len;obtain ⟨b,o,e,hb,hc⟩:=h.rd.2 L0;have h : ∀ j,j<8->∀ u,(encK l[k])[j]? = some u->w.cell? ⟨b,o+k * 8+j,none⟩=some u:=fun j hj u hu=>by
  have:=hc (k * 8+j) u (by rw [qex _ _ _ hj,List.getElem?_eq_getElem hk];exact hu)
  rwa [<- Nat.add_assoc] at this
 exact ⟨b,o,e,hb,h 0 L0 _ rfl,h 1 L0 _ rfl,h 2 L0 _ rfl,h 3 L0 _ rfl,h 4 L0 _ rfl,h 5 L0 _ rfl,h 6 L0 _ rfl,h 7 L0 _ rfl⟩
theorem hear_err (m:Md) (W:List ByteArray) (h:(yT m W).2≠0):yT m W=(md0,(yT m W).2):=by
 unfold yT at h ⊢
 split
 ·rfl
 ·next hp =>
  rw [if_neg hp] at h
  split
  ·rfl
  ·next cs n hc =>
   rw [hc] at h;dsimp only at h ⊢
   split
   ·rfl
   ·next h1 =>
    rw [if_neg h1] at h
    split
    ·rfl
    ·next h2=>rw [if_neg h2] at h;exact absurd rfl h
end Go.Proofs.YtbogmeeijdaijaaGreatDoor
namespace Go.Proofs.YtbogmeeijdaijaaGreatDoor
open Go.Proofs.Tryz Go.RowKit Go.Shelf
set_option maxRecDepth 20000
attribute [local go_sem] Oper.semAt_some
end Go.Proofs.YtbogmeeijdaijaaGreatDoor
namespace Go.Proofs.YtbogmeeijdaijaaGreatDoor
open Go.Proofs.Tryz Go.RowKit
set_option maxRecDepth 20000
theorem qd0 {v:Vw} (h:js v=0) : ∀ l∈v.rows,l.length<=132/\∀ g∈l,g.text.size<=16:=fun l hl=>by
 obtain ⟨h1,-,-,h4⟩:=qbh.1 h;obtain ⟨a,b,-⟩:=h4 l hl;have hs:=jW.1 h1;refine ⟨?_,fun g hg=>(gw_of (qb9.1 a g hg)).2⟩;unfold vM at b
 omega
theorem qcF {v:Vw} (h:qaC v=false) : ∀ l∈v.rows,l.length<=140/\∀ g∈l,g.text.size<=40:=fun l hl=>by
 unfold qaC at h;rw [Bool.or_eq_false_iff] at h;have:=List.any_eq_false.1 h.2 l hl;simp only [zA,Bool.or_eq_true,decide_eq_true_eq,List.any_eq_true,not_or,not_exists,not_and] at this;exact ⟨by omega,fun g hg=>by have:=this.2 g hg;omega⟩
theorem kB {rs:List RowM} {x:RowM} (h:x∈rs):x.l∈rls rs:=List.mem_map_of_mem h
end Go.Proofs.YtbogmeeijdaijaaGreatDoor
namespace Go.Proofs.YtbogmeeijdaijaaGreatDoor
open Go.Proofs.Tryz Go.RowKit Go.Shelf
set_option maxRecDepth 20000
attribute [local go_sem] Oper.semAt_some
theorem qa9 {W:World} {g:Nat} {t:TypeId} {cs:Array Value} {row:Option Nat} (h:Blk W g t cs) (hr : ∀ r,row=some r->∃ o:Obj,W.heap[r]? = some o/\o.isCells=false):some g≠row:=fun e=>by
 obtain ⟨o,ho,hc⟩:=hr g e.symm;unfold Blk at h;rw [h] at ho;cases ho;cases hc
theorem qgM {W W':World} {row:Option Nat} {base:Nat} {e:TypeId} {size:Nat} {v:Value} {k:Nat} {xs:List Value} (h:W.ownsRow base e size v k xs) (hg:W.grownBy W' row) (hr : ∀ r,row=some r->∃ o:Obj,W.heap[r]? = some o/\o.isCells=false):W'.ownsRow base e size v k xs:=by
 refine h.kept hg ?_
 rcases h.2 with ⟨rfl,_⟩ | ⟨g,cap,cur,rfl,_,hgb,_⟩
 ·exact .inl rfl
 ·refine .inr fun e'=>?_
  obtain ⟨o,ho,hc⟩:=hr g (by simpa [Value.ownBlock] using e'.symm);rw [hgb] at ho;cases ho;cases hc
theorem OwV.kept {N n c:Nat} {W W':World} {v:Vw} {A:Option Addr} {rs:List RowM} {row:Option Nat} (h:OwV N W v A n c rs) (hg:W.grownBy W' row) (hr : ∀ r,row=some r->∃ o:Obj,W.heap[r]? = some o/\o.isCells=false):OwV N W' v A n c rs :=
 ⟨qgM h.rows hg hr,fun x hx=>qgM (h.gl x hx) hg hr,h.eq⟩
theorem qdt {X:World} {h g:Nat} {t:TypeId} {cs:Array Value} (hb:Blk X h t cs) (hn:h≠g) (m:Md) (A:Option Addr) (n c:Nat):Blk (setM X g m A n c) h t cs :=
 ((((((hb.far (p:=⟨g,0,none⟩) hn _).far (p:=⟨g,1,none⟩) hn _).far (p:=⟨g,2,none⟩) hn _).far (p:=⟨g,3,none⟩) hn _).far (p:=⟨g,4,none⟩) hn _).far (p:=⟨g,5,none⟩) hn _).far (p:=⟨g,6,none⟩) hn _
abbrev errB (X:World) (g:Nat) (e:Int):Prop:=Blk X g 31 #[.int .i64 e]
theorem errB.set {X:World} {g:Nat} {e:Int} (h:errB X g e) (u:Int):errB (X.setCell ⟨g,0,none⟩ (.int .i64 u)) g u:=Blk.set_ h 0 _
structure AllG (w:World) (gR gX gE gO:Nat):Prop where
 r:w.heap.size<=gR
 x:gR<gX
 e:gX<gE
 o:gE<gO
structure AllI (w:World) (gR gX gE gO:Nat) (M:Md × Int) (W:World):Prop where
 res:Blk W gR 26 (mdC md0 none 0 0)
 rex:errB W gX 0
 err:errB W gE M.2
 out : ∃ A n c N rs,gX<N/\Blk W gO 26 (mdC M.1 A n c)/\OwV N W M.1.view A n c rs
 bel:Below w.heap.size w W
theorem AllI.kept {w W W':World} {gR gX gE gO:Nat} {M:Md × Int} {row:Option Nat} (h:AllI w gR gX gE gO M W) (hg:W.grownBy W' row) (hr : ∀ r,row=some r->w.heap.size<=r/\∃ o:Obj,W.heap[r]? = some o/\o.isCells=false):AllI w gR gX gE gO M W':=by
 have hr' : ∀ r,row=some r->∃ o:Obj,W.heap[r]? = some o/\o.isCells=false:=fun r e=>(hr r e).2
 obtain ⟨A,n,c,N,rs,h1,h2,h3⟩:=h.out;exact ⟨h.res.grown hg (qa9 h.res hr'),Blk.grown h.rex hg (qa9 h.rex hr'),Blk.grown h.err hg (qa9 h.err hr'),⟨A,n,c,N,rs,h1,h2.grown hg (qa9 h2 hr'),h3.kept hg hr'⟩,h.bel.grown hg h.bel.size (fun k e=>(hr k e).1)⟩
theorem AllI.on {w X X':World} {gR gX gE gO:Nat} {M:Md × Int} (h:AllI w gR gX gE gO M X) (hb:Below X.heap.size X X'):AllI w gR gX gE gO M X':=by
 obtain ⟨A,n,c,N,rs,h1,h2,h3⟩:=h.out;exact ⟨Blk.below h.res hb h.res.lt,Blk.below h.rex hb h.rex.lt,Blk.below h.err hb h.err.lt,⟨A,n,c,N,rs,h1,h2.below hb h2.lt,h3.below hb⟩,h.bel.trans (hb.mono h.bel.size)⟩
theorem AllI.put {w X X3:World} {gR gX gE gO n c:Nat} {M1 M2:Md × Int} {A:Option Addr} {rs:List RowM} (h:AllI w gR gX gE gO M1 X) (hw:w.heap.size<=gR) (h1:gR<gX) (h2:gX<gE) (h3:gE<gO) (hb:Below X.heap.size X X3) (ho:OwV X.heap.size X3 M2.1.view A n c rs):AllI w gR gX gE gO M2 ((setM X3 gO M2.1 A n c).setCell ⟨gE,0,none⟩ (.int .i64 M2.2)):=by
 obtain ⟨A1,n1,c1,N,rs1,-,hO,-⟩:=h.out;have hl:=hO.lt
 exact ⟨(qdt (Blk.below h.res hb h.res.lt) L0 _ _ _ _).far (by show gR≠gE;omega) _,(qdt (Blk.below h.rex hb h.rex.lt) L0 _ _ _ _).far (by show gX≠gE;omega) _,errB.set (qdt (Blk.below h.err hb h.err.lt) L0 _ _ _ _) _,
  ⟨A,n,c,X.heap.size,rs,by omega,(md_set (hO.below hb hl) _ _ _ _).far (by show gO≠gE;omega) _,(qiB ho hl).far L7 _⟩,(yX (h.bel.trans (hb.mono h.bel.size)) L0 _ _ _ _).setCell L7 _⟩
structure AllX (w:World) (gR gX:Nat) (E:Int) (W:World):Prop where
 res:Blk W gR 26 (mdC md0 none 0 0)
 rex:errB W gX E
 bel:Below w.heap.size w W
theorem AllX.kept {w W W':World} {gR gX:Nat} {E:Int} {row:Option Nat} (h:AllX w gR gX E W) (hg:W.grownBy W' row) (hr : ∀ r,row=some r->w.heap.size<=r/\∃ o:Obj,W.heap[r]? = some o/\o.isCells=false):AllX w gR gX E W':=by
 have hr' : ∀ r,row=some r->∃ o:Obj,W.heap[r]? = some o/\o.isCells=false:=fun r e=>(hr r e).2
 exact ⟨h.res.grown hg (qa9 h.res hr'),Blk.grown h.rex hg (qa9 h.rex hr'),h.bel.grown hg h.bel.size (fun k e=>(hr k e).1)⟩
theorem AllX.drew {w X:World} {gR gX:Nat} {E:Int} (h:AllX w gR gX E X):AllX w gR gX E X.drew:=⟨h.res,h.rex,h.bel.drew⟩
structure AllF (w:World) (gR gX:Nat) (M:Md × Int) (A:Option Addr) (n c:Nat) (X:World):Prop where
 res:Blk X gR 26 (mdC M.1 A n c)
 rex:errB X gX M.2
 row : ∃ N rs,OwV N X M.1.view A n c rs
 bel:Below w.heap.size w X
theorem AllF.turn {w X:World} {gR gX n c D:Nat} {M:Md × Int} {A:Option Addr} {o o':Obj} (h:AllF w gR gX M A n c X) (hK:X.heap[D]? = some o) (ho:o.isCells=false) (hD:w.heap.size<=D):AllF w gR gX M A n c (X.putObj D o'):=by
 have hr : ∀ r,some D=some r->∃ o:Obj,X.heap[r]? = some o/\o.isCells=false:=fun r e=>by cases e;exact ⟨o,hK,ho⟩
 have hg:=grownBy_putObj' X D o';obtain ⟨N,rs,h3⟩:=h.row;exact ⟨h.res.grown hg (qa9 h.res hr),Blk.grown h.rex hg (qa9 h.rex hr),⟨N,rs,h3.kept hg hr⟩,h.bel.grown hg h.bel.size (fun k e=>by cases e;exact hD)⟩
theorem qfj {m:Md} (hp:vu m=true) {W:World} {B n c:Nat} {A:Option Addr} {rs:List RowM} (h:RdV W B m.view A n c rs) : ∀ x∈rs,x.l.length<=132/\∀ g∈x.l,g.text.size<=16:=fun x hx=>by
 unfold vu at hp;exact qd0 (of_decide_eq_true hp).1 x.l (by rw [h.2.1];exact kB hx)
structure AllS (w:World) (m:Md) (A:Option Addr) (n c:Nat) (X:World):Prop where
 box:Blk X w.heap.size 26 (mdC m A n c)
 res:ZM X (w.heap.size+1)
 rex:errB X (w.heap.size+1+1) 0
 bel:Below w.heap.size w X
theorem AllS.new (w:World) (m:Md) (A:Option Addr) (n c:Nat):AllS w m A n c (((w.alloc (.cells (mdC m A n c) 26)).alloc (.cells (mdC md0 none 0 0) 26)).alloc (.cells #[.int .i64 0] 31)) :=
 ⟨((Blk.new_ rfl).alloc _).alloc _,(Blk.new_ L1).alloc _,Blk.new_ L1,((L5).alloc L1 _).alloc (by simp;omega) _⟩
theorem AllS.on {w X X':World} {m:Md} {A:Option Addr} {n c:Nat} (h:AllS w m A n c X) (hb:Below X.heap.size X X'):AllS w m A n c X' :=
 ⟨h.box.below hb h.box.lt,Blk.below h.res hb h.res.lt,Blk.below h.rex hb h.rex.lt,h.bel.trans (hb.mono h.bel.size)⟩
theorem errB.facts {X:World} {g:Nat} {e:Int} (h:errB X g e):X.cell? ⟨g,0,none⟩=some (.int .i64 e)/\X.frozen? ⟨g,0,none⟩=false:=⟨Blk.cell h 0,Blk.frozen h 0⟩
end Go.Proofs.YtbogmeeijdaijaaGreatDoor
namespace Go.Proofs.YtbogmeeijdaijaaGreatDoor
open Go.Proofs.Tryz Go.RowKit
set_option maxRecDepth 20000
theorem law_ListenerHear (w:World) (hg:Gd w/\Tb w) (m:Md) (A:Option Addr) (n c:Nat) (rs:List RowM) (rd:RdV w w.heap.size m.view A n c rs) (Aw:Option Addr) (nw cw:Nat) (l:List ByteArray) (hn:l.length=nw) (hc:nw<=cw) (hm:cw<=maxLen) (rw:Rd w w.heap.size 1 Aw nw (sv l)) (_ : ∀ s∈l,s.size<=maxLen) :
  Calls prog 3 #[.agg (mdC m A n c),.slice Aw nw cw] w (qh (.bool true) w):=by
 obtain ⟨hg,ht⟩:=hg;have HA:Hid (∀ X,Below w.heap.size w X->Calls prog 7 #[] X fun e X'=>e = .returned (.bool true)/\Below w.heap.size w X'/\Below X.heap.size X X'):=Lh fun X hX=>bothG (awake42_ X (hg.below hX)) hX
 have HG:Hid (∀ X,Below w.heap.size w X->Calls prog 5 #[.agg (vwC m.view A n c)] X fun e X'=>e = .returned (.bool (qaC m.view))/\Below w.heap.size w X'/\Below X.heap.size X X'):=Lh fun X hX=>bothG (qek m.view A n c w.heap.size rs X (rd.below hX) hX.size) hX
 have HL:Hid (∀ X,Below w.heap.size w X->Calls prog 6 #[.slice Aw nw cw] X fun e X'=>e = .returned (.bool (!qcx 300 200 l))/\Below w.heap.size w X'/\Below X.heap.size X X'):=Lh fun X hX=>bothS (rlong42_ l Aw nw cw w.heap.size X L0 (Rd.below rw hX)) hX
 cases hgr:qaC m.view with
 | true =>
  rw [hgr] at HG;clear HL hg rd hgr rw ht;obtain ⟨⟨W,H,rows,r,cl,vs⟩,U⟩:=m;dsimp only at HG
  go_enter func3,ntmps3
  go_upto_region 1 with fail
  refine qa (fun X=>Blk X w.heap.size 26 (mdC ⟨⟨W,H,rows,r,cl,vs⟩,U⟩ A n c)/\Below w.heap.size w X) ⟨Blk.new_ rfl,L5⟩ ?_;rintro X ⟨hM,hb⟩;obtain ⟨c0,c1,c2,c3,c4,c5,c6,-,-,-,-,-,-,-⟩:=zd hM;have hlM:=hM.lt;dsimp only at c0 c1 c3 c4 c5 c6
  go_wp2_with (first | (go_at_call 5;refine (HG.out _ hb).mono ?_;rintro e w1 ⟨rfl,hb1,hx1⟩;have hM1:=hM.below hx1 hlM;have hl1:=hM1.lt;obtain ⟨d_0,d_1,d_2,d_3,d_4,d_5,d_6,-,-,-,-,-,-,-⟩:=zd hM1;dsimp only at d_0 d_1 d_3 d_4 d_5 d_6) | (go_at_call 7;refine (HA.out _ L3).mono ?_;rintro e wa ⟨rfl,hba,hxa⟩))
  go_ret;exact ⟨rfl,hba⟩
 | false =>
  rw [hgr] at HG
  cases hsh:qcx 300 200 l with
  | false =>
   rw [hsh] at HL;clear hg rd hgr rw hsh ht;obtain ⟨⟨W,H,rows,r,cl,vs⟩,U⟩:=m;dsimp only at HG
   go_enter func3,ntmps3
   go_upto_region 1 with fail
   refine qa (fun X=>Blk X w.heap.size 26 (mdC ⟨⟨W,H,rows,r,cl,vs⟩,U⟩ A n c)/\Below w.heap.size w X) ⟨Blk.new_ rfl,L5⟩ ?_;rintro X ⟨hM,hb⟩;obtain ⟨c0,c1,c2,c3,c4,c5,c6,-,-,-,-,-,-,-⟩:=zd hM;have hlM:=hM.lt;dsimp only at c0 c1 c3 c4 c5 c6
   go_wp2_with (first | (go_at_call 5;refine (HG.out _ hb).mono ?_;rintro e w1 ⟨rfl,hb1,hx1⟩;have hM1:=hM.below hx1 hlM;have hl1:=hM1.lt;obtain ⟨d_0,d_1,d_2,d_3,d_4,d_5,d_6,-,-,-,-,-,-,-⟩:=zd hM1;dsimp only at d_0 d_1 d_3 d_4 d_5 d_6) | (go_at_call 6;refine (HL.out _ hb1).mono ?_;rintro e w2 ⟨rfl,hb2,hx2⟩;have hM2:=hM1.below hx2 hl1;have hl2:=hM2.lt;obtain ⟨f_0,f_1,f_2,f_3,f_4,f_5,f_6,-,-,-,-,-,-,-⟩:=zd hM2;dsimp only at f_0 f_1 f_3 f_4 f_5 f_6) | (go_at_call 7;refine (HA.out _ L3).mono ?_;rintro e wa ⟨rfl,hba,hxa⟩))
   go_ret;exact ⟨rfl,hba⟩
  | true =>
   rw [hsh] at HL;obtain ⟨hl1,hl2⟩:=qhm hsh;have hsm : ∀ x∈rs,x.l.length<=140/\∀ g∈x.l,g.text.size<=40:=fun x hx=>qcF hgr x.l (by rw [rd.2.1];exact kB hx)
   obtain ⟨R,hR⟩ : ∃ R,R=yT m l:=⟨_,rfl⟩
   have HW : ∀ X,Below w.heap.size w X->WdR X X.heap.size l Aw nw cw:=fun X hX=>⟨hn,hc,hm,(Rd.below rw hX).more hX.size,fun s hs=>Lj (hl2 s hs) L2⟩
   have HU1:Hid (∀ X,Below w.heap.size w X->Calls prog 8 #[.agg (mdC m A n c),.slice Aw nw cw] X fun e X'=>(∃ A4 n4 d4,e = .returned (.tuple #[.agg (mdC R.1 A4 n4 d4),.int .i64 R.2])/\∃ rs4,RdV X' X'.heap.size R.1.view A4 n4 d4 rs4)/\Below w.heap.size w X'/\Below X.heap.size X X'):=Lh fun X hX=>by
    have hg':=hg.below hX;have:=hear_ m A n c X.heap.size rs l Aw nw cw X ((rd.below hX).more hX.size) (Ld _) (fun y hy=>by have:=(hsm y hy).1;omega) (fun y hy g hg=>by have:=(hsm y hy).2 g hg;omega) (HW X hX) L0 (qhS L0) hg'.1 hg'.2.1 hg'.2.2;rw [<- hR] at this;exact this.mono fun e X' ⟨h1,A4,n4,d4,rs4,h2,h3⟩=>⟨⟨A4,n4,d4,h2,rs4,h3.rdV⟩,hX.trans (h1.mono hX.size),h1⟩
   have HU2:Hid (∀ X,Below w.heap.size w X->Calls prog 9 #[.agg (mdC m A n c),.slice Aw nw cw] X fun e X'=>(∃ A4 n4 d4,e = .returned (.tuple #[.agg (mdC R.1 A4 n4 d4),.int .i64 R.2])/\∃ rs4,RdV X' X'.heap.size R.1.view A4 n4 d4 rs4)/\Below w.heap.size w X'/\Below X.heap.size X X'):=Lh fun X hX=>by
    have:=rhear42_ m A n c X.heap.size rs l Aw nw cw X ((rd.below hX).more hX.size) (Ld _) (fun y hy=>by have:=(hsm y hy).1;omega) (fun y hy g hg=>by have:=(hsm y hy).2 g hg;omega) (HW X hX) L0 (qhS L0) (ht.below hX);rw [<- hR] at this;exact this.mono fun e X' ⟨h1,A4,n4,d4,rs4,h2,h3,_⟩=>⟨⟨A4,n4,d4,h2,rs4,h3.rdV h1.size⟩,hX.trans (h1.mono hX.size),h1⟩
   have hRp:vu R.1=true∨R.1=md0:=by
    rw [hR]
    by_cases h:(yT m l).2=0
    ·exact .inl (qcL h)
    ·exact .inr (by rw [hear_err _ _ h])
   have HSm:Hid (∀ X A1 n1 c1 A2 n2 c2,Below w.heap.size w X->(∃ rs1,RdV X X.heap.size R.1.view A1 n1 c1 rs1)->(∃ rs2,RdV X X.heap.size R.1.view A2 n2 c2 rs2)->Calls prog 10 #[.agg (mdC R.1 A1 n1 c1),.agg (mdC R.1 A2 n2 c2)] X fun e X'=>e = .returned (.bool true)/\Below w.heap.size w X'/\Below X.heap.size X X'):=Lh fun X A1 n1 c1 A2 n2 c2 hX ⟨rs1,h1⟩ ⟨rs2,h2⟩=>by
    obtain rfl:n1=n2:=h1.len.symm.trans h2.len;refine bothG (rsame42_ R.1 A1 A2 n1 c1 c2 X.heap.size rs1 rs2 X h1 h2 (Ld _) fun x hx=>?_) hX
    rcases hRp with hp | hp
    ·have:=(qfj hp h1 x hx).1;omega
    ·have h3:=kB hx;rw [<- h1.2.1,hp] at h3
     cases h3
   clear HW hRp hR hg rd hgr ht rw hsh hsm hl2;obtain ⟨⟨W,H,rows,r,cl,vs⟩,U⟩:=m;obtain ⟨⟨⟨zW,zH,zrows,zr,zy,zv⟩,zU⟩,zE⟩:=R;dsimp only at HG;have HR1:Hid (∀ X,Below w.heap.size w X->Calls prog 8 #[.agg #[.int .i64 W,.int .i64 H,.slice A n c,.int .i64 r,.int .i64 cl,.bool vs,.int .i64 U],.slice Aw nw cw] X fun e X'=>(∃ A4 n4 d4,e = .returned (.tuple #[.agg #[.int .i64 zW,.int .i64 zH,.slice A4 n4 d4,.int .i64 zr,.int .i64 zy,.bool zv,.int .i64 zU],.int .i64 zE])/\(∃ rs4,RdV X' X'.heap.size ⟨zW,zH,zrows,zr,zy,zv⟩ A4 n4 d4 rs4))/\Below w.heap.size w X'/\Below X.heap.size X X'):=HU1;have HR2:Hid (∀ X,Below w.heap.size w X->Calls prog 9 #[.agg #[.int .i64 W,.int .i64 H,.slice A n c,.int .i64 r,.int .i64 cl,.bool vs,.int .i64 U],.slice Aw nw cw] X fun e X'=>(∃ A4 n4 d4,e = .returned (.tuple #[.agg #[.int .i64 zW,.int .i64 zH,.slice A4 n4 d4,.int .i64 zr,.int .i64 zy,.bool zv,.int .i64 zU],.int .i64 zE])/\(∃ rs4,RdV X' X'.heap.size ⟨zW,zH,zrows,zr,zy,zv⟩ A4 n4 d4 rs4))/\Below w.heap.size w X'/\Below X.heap.size X X'):=HU2;have HRS:Hid (∀ X A1 n1 c1 A2 n2 c2,Below w.heap.size w X->(∃ rs4,RdV X X.heap.size ⟨zW,zH,zrows,zr,zy,zv⟩ A1 n1 c1 rs4)->(∃ rs4,RdV X X.heap.size ⟨zW,zH,zrows,zr,zy,zv⟩ A2 n2 c2 rs4)->Calls prog 10 #[.agg #[.int .i64 zW,.int .i64 zH,.slice A1 n1 c1,.int .i64 zr,.int .i64 zy,.bool zv,.int .i64 zU],.agg #[.int .i64 zW,.int .i64 zH,.slice A2 n2 c2,.int .i64 zr,.int .i64 zy,.bool zv,.int .i64 zU]] X fun e X'=>e = .returned (.bool true)/\Below w.heap.size w X'/\Below X.heap.size X X'):=HSm
   clear HU1 HU2 HSm;have hee:(zE==zE)=true:=Lw zE
   go_enter func3,ntmps3
   go_upto_region 1 with fail
   refine qa (fun X=>Blk X w.heap.size 26 (mdC ⟨⟨W,H,rows,r,cl,vs⟩,U⟩ A n c)/\Below w.heap.size w X) ⟨Blk.new_ rfl,L5⟩ ?_;rintro X ⟨hM,hb⟩;obtain ⟨c0,c1,c2,c3,c4,c5,c6,-,-,-,-,-,-,-⟩:=zd hM;have hlM:=hM.lt;dsimp only at c0 c1 c3 c4 c5 c6
   go_upto_region 3 with (first | (go_at_call 5;refine (HG.out _ hb).mono ?_;rintro e w1 ⟨rfl,hb1,hx1⟩;have hM1:=hM.below hx1 hlM;have hl1:=hM1.lt;obtain ⟨d_0,d_1,d_2,d_3,d_4,d_5,d_6,-,-,-,-,-,-,-⟩:=zd hM1;dsimp only at d_0 d_1 d_3 d_4 d_5 d_6) | (go_at_call 6;refine (HL.out _ hb1).mono ?_;rintro e w2 ⟨rfl,hb2,hx2⟩;have hM2:=hM1.below hx2 hl1;have hl2:=hM2.lt;obtain ⟨f_0,f_1,f_2,f_3,f_4,f_5,f_6,-,-,-,-,-,-,-⟩:=zd hM2;dsimp only at f_0 f_1 f_3 f_4 f_5 f_6))
   clear c0 c1 c2 c3 c4 c5 c6 d_0 d_1 d_2 d_3 d_4 d_5 d_6 hM hM1 hb hb1 hx1 hx2 HG HL hl1 hlM
   go_upto_region 4 with (go_at_call 8;refine (HR1.out _ hb2).mono ?_;rintro e w5 ⟨⟨A5,n5,d5,rfl,hr5⟩,hb5,hx5⟩)
   have hz5:=hb5.size;refine qa (fun Y=>Blk Y w.heap.size 26 (mdC ⟨⟨W,H,rows,r,cl,vs⟩,U⟩ A n c)/\(Blk Y w5.heap.size 26 (mdC ⟨⟨zW,zH,zrows,zr,zy,zv⟩,zU⟩ A5 n5 d5)/\(∃ rs4,RdV Y Y.heap.size ⟨zW,zH,zrows,zr,zy,zv⟩ A5 n5 d5 rs4))/\Below w.heap.size w Y) ⟨(hM2.below hx5 hM2.lt).alloc _,⟨Blk.new_ rfl,hr5.imp fun _ h=>(h.below L5).more (by rw [Li];omega)⟩,hb5.alloc hz5 _⟩ ?_;clear f_0 f_1 f_2 f_3 f_4 f_5 f_6 hM2 hr5 hb5 hx5 hz5 hb2 HR1 hl2;rintro Y ⟨hM5,⟨hX5,hr5⟩,hbY⟩;obtain ⟨s_0,s_1,s_2,s_3,s_4,s_5,s_6,-,-,-,-,-,-,-⟩:=zd hM5;dsimp only at s_0 s_1 s_3 s_4 s_5 s_6
   go_upto_region 5 with (go_at_call 9;refine (HR2.out _ hbY).mono ?_;rintro e w6 ⟨⟨A6,n6,d6,rfl,hr6⟩,hb6,hx6⟩)
   have hz6:=hb6.size;have hzy:=hx6.size;refine qa (fun Z=>(Blk Z w5.heap.size 26 (mdC ⟨⟨zW,zH,zrows,zr,zy,zv⟩,zU⟩ A5 n5 d5)/\(∃ rs4,RdV Z Z.heap.size ⟨zW,zH,zrows,zr,zy,zv⟩ A5 n5 d5 rs4))/\(Blk Z w6.heap.size 26 (mdC ⟨⟨zW,zH,zrows,zr,zy,zv⟩,zU⟩ A6 n6 d6)/\(∃ rs4,RdV Z Z.heap.size ⟨zW,zH,zrows,zr,zy,zv⟩ A6 n6 d6 rs4))/\Below w.heap.size w Z) ⟨⟨(hX5.below hx6 hX5.lt).alloc _,hr5.imp fun _ h=>((h.below hx6).below (((Le w6.heap.size w6).alloc (Ld _) _).mono hzy)).more (by rw [Li];omega)⟩,⟨Blk.new_ rfl,hr6.imp fun _ h=>(h.below L5).more (by rw [Li];omega)⟩,hb6.alloc hz6 _⟩ ?_;clear s_0 s_1 s_2 s_3 s_4 s_5 s_6 hM5 hX5 hr5 hr6 hb6 hx6 hz6 hzy hbY HR2;rintro Z ⟨⟨hX6,hr5⟩,⟨hY6,hr6⟩,hbZ⟩;obtain ⟨x_0,x_1,x_2,x_3,x_4,x_5,x_6,-,-,-,-,-,-,-⟩:=zd hX6;dsimp only at x_0 x_1 x_3 x_4 x_5 x_6;obtain ⟨y_0,y_1,y_2,y_3,y_4,y_5,y_6,-,-,-,-,-,-,-⟩:=zd hY6;dsimp only at y_0 y_1 y_3 y_4 y_5 y_6
   go_wp2_with (first
    | (go_at_call 10;refine (HRS.out _ _ _ _ _ _ _ hbZ hr5 hr6).mono ?_;rintro e w8 ⟨rfl,hb8,hx8⟩)
    | (go_at_call 7;refine (HA.out _ L3).mono ?_;rintro e wa ⟨rfl,hba,hxa⟩))
   go_ret;exact ⟨rfl,hba⟩
end Go.Proofs.YtbogmeeijdaijaaGreatDoor
