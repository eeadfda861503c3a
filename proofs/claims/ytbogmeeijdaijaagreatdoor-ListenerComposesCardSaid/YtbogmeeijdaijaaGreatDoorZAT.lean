/- Joined: Up1, Up2, Each, EachG, Up4, SpC, Up3, Um2, Ul0, Ul1, Ul3. -/
import Derived.Test.YtbogmeeijdaijaaGreatDoorZAR
set_option linter.unusedVariables false
set_option linter.unusedSimpArgs false
set_option linter.unnecessarySimpa false
namespace Go.Proofs.YtbogmeeijdaijaaGreatDoor
open Go.Proofs.Tryz Go.RowKit
set_option maxRecDepth 20000
theorem sv_app (a b:List ByteArray):sv (a++b)=sv a++sv b:=by simp [sv]
def SayI (X:World) (base g:Nat) (xs:List ByteArray):Prop:=∃ A c,Blk X g 27 #[.slice A xs.length c]/\X.ownsRow base 9 1 (.slice A xs.length c) xs.length (sv xs)
theorem SayI.lt {X:World} {base g:Nat} {xs:List ByteArray} (h:SayI X base g xs):g<X.heap.size:=by
 obtain ⟨A,c,h1,h2⟩:=h;exact h1.lt
theorem SayI.on {X Y:World} {base g:Nat} {xs:List ByteArray} (h:SayI X base g xs) (hb:Below X.heap.size X Y):SayI Y base g xs:=by
 obtain ⟨A,c,h1,h2⟩:=h;exact ⟨A,c,h1.below hb h1.lt,qb h2 hb⟩
theorem SayI.put {X:World} {base g n c:Nat} {xs ys:List ByteArray} {A:Option Addr} {v:Value} (h:Blk X g 27 #[v]) (ho:X.ownsRow base 9 1 (.slice A n c) n (sv xs++sv ys)) (hn:n=xs.length+ys.length) (hg:g<base):SayI (X.setCell ⟨g,0,none⟩ (.slice A n c)) base g (xs++ys):=by
 subst hn;refine ⟨A,c,?_,?_⟩
 ·have:=h.set_ 0 (.slice A (xs.length+ys.length) c);rw [Lf]
  simpa using this
 ·rw [Lf,sv_app];exact zZ ho hg _
def PhS (w:World) (c:Chg) (Ag:Option Addr) (cap:Nat) (r:Int) (d sp:Bool) (p:Int) (con:Bool) (k:Int) (xs:List ByteArray) (X:World):Prop :=
 ∃ A co,Blk X w.heap.size 57 (yG c Ag cap)/\Blk X (w.heap.size+1) 38 #[.int .i64 r,.bool d,.bool sp,.int .i64 p,.bool con,.int .i64 k]/\Blk X (w.heap.size+2) 27 #[.slice A xs.length co]/\X.ownsRow (w.heap.size+3) 9 1 (.slice A xs.length co) xs.length (sv xs)/\Below w.heap.size w X
section
variable {w X : World} {c : Chg} {Ag : Option Addr} {cap : Nat} {r : Int} {d sp : Bool} {p : Int} {con : Bool} {k : Int} {xs : List ByteArray}
theorem PhS.size (h:PhS w c Ag cap r d sp p con k xs X):w.heap.size+3<=X.heap.size:=by
 obtain ⟨A,co,h1,h2,h3,h4,h5⟩:=h;have:=h3.lt
 omega
theorem PhS.start (w:World) (c:Chg) (Ag:Option Addr) (cap:Nat) (r:Int) (d sp:Bool) (p:Int) (con:Bool) (k:Int) :
  PhS w c Ag cap r d sp p con k [] (((w.alloc (.cells (yG c Ag cap) 57)).alloc (.cells #[.int .i64 r,.bool d,.bool sp,.int .i64 p,.bool con,.int .i64 k] 38)).alloc (.cells #[.slice none 0 0] 27)) :=
 ⟨none,0,((Blk.new w _ _).alloc _).alloc _,(Blk.new_ L1).alloc _,Blk.new_ L1,zY _ _ _ _,((L5).alloc L1 _).alloc (by simp;omega) _⟩
end
section
variable {P : Program}
def EachOp (P:Program) (V:Nat->Value->World->Prop) (W:World->Prop) (T:World->World->Prop) (Q:Exit->Act->World->Prop) (l:List Oper) (a:Act):List Oper->Nat->Prop
 | [],_=>True
 | o::rest,i=>(∀ (a':Act) (w':World),W w'->a'.tmps.size=a.tmps.size->(∀ s,(l.filterMap (·.dst)).contains s=false->a'.tmps.getD s undef=a.tmps.getD s undef) ->
   (∀ e∈o.after,Region.binds .any e=true->∀ oe d,l[e.on]? = some oe->oe.dst=some d->V e.on (a'.tmps.getD d undef) w') ->
   if Region.wanted o (yielded l.toArray a'.tmps)=true then o.wp P a' w' (fun a'' w''=>∃ v,a''=a'.put o.dst v/\V i v w''/\W w''/\T w' w'') Q else V i undef w')/\EachOp P V W T Q l a rest (i+1)
theorem EachOp.at_ {V:Nat->Value->World->Prop} {W:World->Prop} {T:World->World->Prop} {Q:Exit->Act->World->Prop} {l:List Oper} {a:Act} : ∀ (r:List Oper) (k i:Nat) (o:Oper),EachOp P V W T Q l a r k->r[i]? = some o ->
  (∀ (a':Act) (w':World),W w'->a'.tmps.size=a.tmps.size->(∀ s,(l.filterMap (·.dst)).contains s=false->a'.tmps.getD s undef=a.tmps.getD s undef) ->
   (∀ e∈o.after,Region.binds .any e=true->∀ oe d,l[e.on]? = some oe->oe.dst=some d->V e.on (a'.tmps.getD d undef) w') ->
   if Region.wanted o (yielded l.toArray a'.tmps)=true then o.wp P a' w' (fun a'' w''=>∃ v,a''=a'.put o.dst v/\V (k+i) v w''/\W w''/\T w' w'') Q else V (k+i) undef w')
 | [],_,_,_,_,h=>by cases h
 | o::r,k,0,o',h,hi=>by
  obtain rfl:o=o':=by simpa using hi
  exact h.1
 | o::r,k,i+1,o',h,hi=>by
  have:=EachOp.at_ r (k+1) i o' h.2 (by simpa using hi)
  rwa [show k+1+i=k+(i+1) by omega] at this
end
section
variable {P : Program} {G : Type}
def EachG (P:Program) (V:G->Nat->Value->World->Prop) (C:G->Array Bool->Prop) (W:G->World->Prop) (Q:Exit->Act->World->Prop) (l:List Oper) (a:Act):List Oper->Nat->Prop
 | [],_=>True
 | o::rest,i=>(∀ (s:G) (L:Array Bool) (a':Act) (w':World),C s L->W s w'->L.size=l.length->L.getD i false=false->(∀ e∈o.after,Region.binds .any e=true->L.getD e.on false=true)->a'.tmps.size=a.tmps.size->(∀ t,(l.filterMap (·.dst)).contains t=false->a'.tmps.getD t undef=a.tmps.getD t undef) ->
   (∀ e∈o.after,Region.binds .any e=true->∀ oe d,l[e.on]? = some oe->oe.dst=some d->V s e.on (a'.tmps.getD d undef) w') ->
   o.guard=none/\o.wp P a' w' (fun a'' w''=>∃ v s',a''=a'.put o.dst v/\C s' (L.setIfInBounds i true)/\W s' w''/\V s' i v w''/\∀ j u,j≠i->L.getD j false=true->V s j u w'->V s' j u w'') Q)/\EachG P V C W Q l a rest (i+1)
theorem EachG.at_ {V:G->Nat->Value->World->Prop} {C:G->Array Bool->Prop} {W:G->World->Prop} {Q:Exit->Act->World->Prop} {l:List Oper} {a:Act} : ∀ (r:List Oper) (k i:Nat) (o:Oper),EachG P V C W Q l a r k->r[i]? = some o ->
  (∀ (s:G) (L:Array Bool) (a':Act) (w':World),C s L->W s w'->L.size=l.length->L.getD (k+i) false=false->(∀ e∈o.after,Region.binds .any e=true->L.getD e.on false=true)->a'.tmps.size=a.tmps.size->(∀ t,(l.filterMap (·.dst)).contains t=false->a'.tmps.getD t undef=a.tmps.getD t undef) ->
   (∀ e∈o.after,Region.binds .any e=true->∀ oe d,l[e.on]? = some oe->oe.dst=some d->V s e.on (a'.tmps.getD d undef) w') ->
   o.guard=none/\o.wp P a' w' (fun a'' w''=>∃ v s',a''=a'.put o.dst v/\C s' (L.setIfInBounds (k+i) true)/\W s' w''/\V s' (k+i) v w''/\∀ j u,j≠k+i->L.getD j false=true->V s j u w'->V s' j u w'') Q)
 | [],_,_,_,_,h=>by cases h
 | o::r,k,0,o',h,hi=>by
  obtain rfl:o=o':=by simpa using hi
  exact h.1
 | o::r,k,i+1,o',h,hi=>by
  have:=EachG.at_ r (k+1) i o' h.2 (by simpa using hi)
  rwa [show k+1+i=k+(i+1) by omega] at this
end
def OneS (lo:Nat) (rho:Value) (x:ByteArray) (v:Value) (wx:World):Prop:=∃ b,v = .slice (some ⟨b,0,none⟩) 1 1/\Blk wx b 9 #[.string x]/\lo<=b/\some b≠rho.ownBlock
theorem OneS.on {lo:Nat} {rho v:Value} {x:ByteArray} {w w':World} (h:OneS lo rho x v w) (hb:Below w.heap.size w w'):OneS lo rho x v w':=by
 obtain ⟨b,e,hk,hl,hn⟩:=h;exact ⟨b,e,hk.below hb hk.lt,hl,hn⟩
theorem OneS.app {lo:Nat} {rho rho' v:Value} {x:ByteArray} {w w':World} (h:OneS lo rho x v w) (hg:w.grownBy w' rho.ownBlock) (hat:rho'.ownBlock=rho.ownBlock∨rho'.ownBlock=some w.heap.size):OneS lo rho' x v w':=by
 obtain ⟨b,e,hk,hl,hn⟩:=h;refine ⟨b,e,hk.grown hg hn,hl,fun h'=>?_⟩
 rcases hat with h | h
 ·exact hn (h'.trans h)
 ·rw [h] at h'
  cases h'
  exact Nat.lt_irrefl _ hk.lt
def RowS (lo:Nat) (rho:Value) (l:List ByteArray) (v:Value) (wx:World):Prop:=∃ A c,v = .slice A l.length c/\wx.ownsRow lo 9 1 v l.length (sv l)/\(v.ownBlock=none∨v.ownBlock≠rho.ownBlock)
theorem RowS.on {lo:Nat} {rho v:Value} {x:List ByteArray} {w w':World} (h:RowS lo rho x v w) (hb:Below w.heap.size w w'):RowS lo rho x v w':=by
 obtain ⟨A,c,e,ho,hn⟩:=h;exact ⟨A,c,e,qb ho hb,hn⟩
theorem RowS.app {lo:Nat} {rho rho' v:Value} {x:List ByteArray} {w w':World} (h:RowS lo rho x v w) (hg:w.grownBy w' rho.ownBlock) (hat:rho'.ownBlock=rho.ownBlock∨rho'.ownBlock=some w.heap.size):RowS lo rho' x v w':=by
 obtain ⟨A,c,e,ho,hn⟩:=h;refine ⟨A,c,e,ho.kept hg hn,?_⟩
 rcases hk:v.ownBlock with _ | k
 ·exact .inl rfl
 ·right
  intro h'
  rcases hat with h | h
  ·rcases hn with h0 | h0
   ·rw [hk] at h0;cases h0
   ·exact h0 (hk.trans (h'.trans h))
  ·rw [h] at h'
   cases h'
   exact Nat.lt_irrefl _ (ho.lt _ hk).2
def rwL (xs SW:List ByteArray):Nat->List ByteArray
 | 0=>xs
 | 1=>xs++[qK]
 | 2=>xs++[qK]++SW
 | _=>xs++[qK]++SW++[vF]
def rgV (h lo:Nat) (v0:Value) (Ag:Option Addr) (gl cap:Nat) (st:Value) (SW:List ByteArray) (s:Nat × Value) (i:Nat) (v:Value) (wx:World):Prop:=match i with
 | 0=>v=v0
 | 1=>s.1=0->OneS lo s.2 qK v wx
 | 2=>s.1=1->v=s.2
 | 3=>v = .pointer (some ⟨h,5,none⟩)
 | 4=>v = .slice Ag gl cap
 | 5=>v=st
 | 6=>s.1<=1->RowS lo s.2 SW v wx
 | 7=>s.1=2->v=s.2
 | 8=>s.1<=2->OneS lo s.2 vF v wx
 | 9=>s.1=3->v=s.2
 | _=>True
theorem rgV.on {h lo:Nat} {v0:Value} {Ag:Option Addr} {gl cap:Nat} {st:Value} {SW:List ByteArray} {s:Nat × Value} {i:Nat} {v:Value} {w w':World} (H:rgV h lo v0 Ag gl cap st SW s i v w) (hb:Below w.heap.size w w'):rgV h lo v0 Ag gl cap st SW s i v w':=by
 unfold rgV at *
 split at H <;> first | exact H | exact fun e=>(H e).on hb
def rgC (s:Nat × Value) (L:Array Bool):Prop:=(L.size=11/\L.getD 2 false=decide (1<=s.1)/\L.getD 7 false=decide (2<=s.1)/\L.getD 9 false=decide (3<=s.1)/\L.getD 10 false=decide (4<=s.1)) /\
 (1<=s.1->L.getD 0 false=true/\L.getD 1 false=true)/\(2<=s.1->L.getD 6 false=true)/\(3<=s.1->L.getD 8 false=true)/\(L.getD 6 false=true->L.getD 4 false=true/\L.getD 5 false=true)
theorem qcI {L:Array Bool} {i j:Nat} (h:j≠i):(L.setIfInBounds i true).getD j false=L.getD j false:=by
 rw [Array.getD_eq_getD_getElem?,Array.getD_eq_getD_getElem?,Array.getElem?_setIfInBounds_ne (Ne.symm h)]
theorem qfY {L:Array Bool} {i:Nat} (h:i<L.size):(L.setIfInBounds i true).getD i false=true:=by
 rw [Array.getD_eq_getD_getElem?,Array.getElem?_setIfInBounds_self_of_lt h]
 rfl
theorem vK {L:Array Bool} {i j:Nat} (h:L.getD j false=true):(L.setIfInBounds i true).getD j false=true:=by
 by_cases e:j=i
 ·subst e;have hl:j<L.size:=by
   rcases Nat.lt_or_ge j L.size with h' | h'
   ·exact h'
   ·rw [Array.getD_eq_getD_getElem?,Array.getElem?_eq_none h'] at h;cases h
  exact qfY hl
 ·rw [qcI e];exact h
theorem rgC.step {s s':Nat × Value} {L:Array Bool} (h:rgC s L) {i:Nat} (h2:(L.setIfInBounds i true).getD 2 false=decide (1<=s'.1)) (h7:(L.setIfInBounds i true).getD 7 false=decide (2<=s'.1)) (h9:(L.setIfInBounds i true).getD 9 false=decide (3<=s'.1)) (h10:(L.setIfInBounds i true).getD 10 false=decide (4<=s'.1))
  (g0:1<=s'.1->1<=s.1∨L.getD 0 false=true/\L.getD 1 false=true) (g6:2<=s'.1->2<=s.1∨L.getD 6 false=true) (g8:3<=s'.1->3<=s.1∨L.getD 8 false=true) (g4:i=6->L.getD 4 false=true/\L.getD 5 false=true):rgC s' (L.setIfInBounds i true):=by
 obtain ⟨⟨a0,a1,a2,a3,a4⟩,b1,b2,b3,b4⟩:=h;refine ⟨⟨by rw [Array.size_setIfInBounds];exact a0,h2,h7,h9,h10⟩,fun e=>?_,fun e=>?_,fun e=>?_,fun e=>?_⟩
 ·have:=(g0 e).elim b1 id;exact ⟨vK this.1,vK this.2⟩
 ·exact vK ((g6 e).elim b2 id)
 ·exact vK ((g8 e).elim b3 id)
 ·by_cases h6:i=6
  ·exact ⟨vK (g4 h6).1,vK (g4 h6).2⟩
  ·rw [qcI (Ne.symm h6)] at e;exact ⟨vK (b4 e).1,vK (b4 e).2⟩
def rgW (X:World) (h:Nat) (v0:Value) (xs SW:List ByteArray) (s:Nat × Value) (wx:World):Prop :=
 (∃ A c,s.2 = .slice A (rwL xs SW s.1).length c)/\wx.ownsRow (h+3) 9 1 s.2 (rwL xs SW s.1).length (sv (rwL xs SW s.1))/\(s.1=0->s.2=v0)/\s.1<=4/\X.heap.size<=wx.heap.size /\
  (s.1<=3->Below (h+3) X wx)/\(s.1=4->Below (h+2) X wx/\Blk wx (h+2) 27 #[s.2])
theorem rgW.on {X:World} {h:Nat} {v0:Value} {xs SW:List ByteArray} {s:Nat × Value} {w w':World} (H:rgW X h v0 xs SW s w) (hX:h+3<=X.heap.size) (hb:Below w.heap.size w w'):rgW X h v0 xs SW s w':=by
 obtain ⟨h1,h2,h3,h4,h5,h6,h7⟩:=H;exact ⟨h1,qb h2 hb,h3,h4,Lj h5 hb.size,fun e=>(h6 e).trans (hb.mono L0),fun e=>⟨(h7 e).1.trans (hb.mono L0),(h7 e).2.below hb (h7 e).2.lt⟩⟩
section
variable {a : Act} {w : World} {K : Act -> World -> Prop} {Q : Exit -> Act -> World -> Prop}
end
def BadS (r q k:Int):Prop:=(r<25∨400<r)∨(q≠0/\(q<2∨132<q))∨(k<1∨80<k)
instance (r q k:Int):Decidable (BadS r q k):=by unfold BadS;infer_instance
def setE (r q k:Int):Int:=if BadS r q k then 2 else 0
theorem qjy (l:List Nat):(yI l).size<=4 * l.length:=by
 unfold yI
 show (List.toArray _).size<=_
 rw [List.size_toArray,Lq];exact qf8 l
theorem gw_of {g:Gl} (h:qJ g=0):GW g/\g.text.size<=16:=by
 obtain ⟨h1,h2,h3⟩:=qcr h;obtain ⟨r,t,_,_,_,_,_,ht,he,_⟩:=h1.form;have:=qjy (r::t);rw [<- he] at this;simp only [Lp] at this;exact ⟨⟨⟨h1.1,by omega⟩,h2,h3⟩,by omega⟩
theorem chk_gl {c:Chg} (h:vj c=0):c.glyphs.length<=132/\(∀ g∈c.glyphs,qJ g=0)/\(1<=c.kind/\c.kind<=4)/\je c=true:=by
 obtain ⟨h1,h2,h3,h4⟩:=qdG h;refine ⟨?_,?_,h1,h2⟩
 ·by_cases hk:c.kind=3
  ·by_cases hl:132<c.glyphs.length
   ·exact absurd ⟨hk,hl⟩ h3
   ·omega
  ·unfold jk at h4;have:c.glyphs=[]:=by
    split at h4
    ·exact (of_decide_eq_true h4).2.2
    ·split at h4
     ·exact (of_decide_eq_true h4).2
     ·exact (of_decide_eq_true h4).2
   rw [this]
   simp
 ·by_cases hk:c.kind=3
  ·unfold jk at h4;rw [if_neg L0,if_neg L0,if_pos hk] at h4;simp only [Bool.and_eq_true,List.all_eq_true,decide_eq_true_eq] at h4;exact h4.2
  ·have:c.glyphs=[]:=by
    unfold jk at h4
    split at h4
    ·exact (of_decide_eq_true h4).2.2
    ·split at h4
     ·exact (of_decide_eq_true h4).2
     ·exact (of_decide_eq_true h4).2
   rw [this];exact fun g hg=>by cases hg
def wErr (l:List ChgM) (m r q k:Int):Int:=if setE r q k≠0∨m<0 then 1 else if 999999999<m then 5 else chkAll l
def UwR (l:List ChgM) (m r q k:Int) (S:Setts) (w:World) (e:Ending) (w':World):Prop :=
 if wErr l m r q k=0 then ql 9 1 yP w (qZ (zo l) m S).length (sv (qZ (zo l) m S)) e w' else e = .returned (.tuple #[.slice none 0 0,.int .i64 (wErr l m r q k)])/\Below w.heap.size w w'
theorem UwR.ok {l:List ChgM} {m r q k:Int} {S:Setts} {w w':World} {e:Ending} (h:wErr l m r q k=0) (he:ql 9 1 yP w (qZ (zo l) m S).length (sv (qZ (zo l) m S)) e w'):UwR l m r q k S w e w':=by
 unfold UwR;rw [if_pos h];exact he
theorem chg_ext {a b:Chg} (h1:a.kind=b.kind) (h2:a.row=b.row) (h3:a.col=b.col) (h4:a.count=b.count) (h5:a.til=b.til) (h6:a.glyphs=b.glyphs):a=b:=by
 cases a;cases b
 simp only at h1 h2 h3 h4 h5 h6;subst h1 h2 h3 h4 h5 h6
 rfl
instance:DecidableEq Chg:=fun a b=>if h:a.kind=b.kind/\a.row=b.row/\a.col=b.col/\a.count=b.count/\a.til=b.til/\a.glyphs=b.glyphs then isTrue (chg_ext h.1 h.2.1 h.2.2.1 h.2.2.2.1 h.2.2.2.2.1 h.2.2.2.2.2) else isFalse fun e=>h (by subst e;exact ⟨rfl,rfl,rfl,rfl,rfl,rfl⟩)
def eCh:Chg:=⟨3,4,0,0,0,[⟨⟨#[111]⟩,false,0⟩,⟨⟨#[107]⟩,false,0⟩]⟩
theorem WdR.own {w:World} {base n c:Nat} {A:Option Addr} {l:List ByteArray} (h:w.ownsRow base 9 1 (.slice A n c) n (sv l)) (hs : ∀ s∈l,s.size<=1000):WdR w w.heap.size l A n c:=by
 have hl:l.length=n:=by have:=(Rd.of_own h).1;rw [sv_len] at this;omega
 exact ⟨hl,(qas h).1,(qas h).2,Rd.of_own h,hs⟩
theorem WdR.more {w:World} {B B':Nat} {l:List ByteArray} {A:Option Addr} {n c:Nat} (h:WdR w B l A n c) (hb:B<=B'):WdR w B' l A n c:=⟨h.len,h.cap,h.max,h.rd.more hb,h.sz⟩
def ExI (w X:World):Prop:=RdC X X.heap.size (some ⟨w.heap.size+1,0,none⟩) 1 [⟨eCh,some ⟨w.heap.size,0,none⟩,2⟩]/\Below w.heap.size w X
theorem ExI.on {w X Y:World} (h:ExI w X) (hb:Below X.heap.size X Y):ExI w Y:=⟨(h.1.below hb).more hb.size,h.2.trans (hb.mono h.2.size)⟩
theorem ExI.new (w:World):ExI w ((w.alloc (.cells (qi eCh.glyphs).toArray 64)).alloc (.cells (qb5 ⟨eCh,some ⟨w.heap.size,0,none⟩,2⟩).toArray 57)):=by
 have hr:Rd (w.alloc (.cells (qi eCh.glyphs).toArray 64)) (w.heap.size+1) 3 (some ⟨w.heap.size,0,none⟩) 2 (qi eCh.glyphs):=qe rfl rfl;have hb2:Below (w.heap.size+1) (w.alloc (.cells (qi eCh.glyphs).toArray 64)) ((w.alloc (.cells (qi eCh.glyphs).toArray 64)).alloc (.cells (qb5 ⟨eCh,some ⟨w.heap.size,0,none⟩,2⟩).toArray 57)):=(Le _ _).alloc L1 _;refine ⟨⟨?_,fun x hx=>?_⟩,(L5).alloc L1 _⟩
 ·exact Rd.more (B:=w.heap.size+1+1) (qe (xs:=qb5 ⟨eCh,some ⟨w.heap.size,0,none⟩,2⟩) L1 rfl) L1
 ·rw [List.mem_singleton] at hx;subst hx;exact ⟨(hr.below hb2).more L1,(by show 2<=2;decide),(by show 2<=maxLen;decide)⟩
def SzW (l:List ByteArray):Prop:=∀ s∈l,s.size<=1000
theorem SzW.nil:SzW []:=fun s hs=>by cases hs
theorem SzW.cons {a:ByteArray} {l:List ByteArray} (h:a.size<=1000) (hl:SzW l):SzW (a::l):=fun s hs=>by
 rcases List.mem_cons.1 hs with rfl | hs
 ·exact h
 ·exact hl s hs
theorem SzW.app {a b:List ByteArray} (h:SzW a) (hl:SzW b):SzW (a++b):=fun s hs=>by
 rcases List.mem_append.1 hs with hs | hs
 ·exact h s hs
 ·exact hl s hs
theorem num_len2 {l t:List ByteArray} {n:Int} (h:kU l=some (n,t)):t.length+1<=l.length:=by
 unfold kU at h;rw [Option.map_eq_some_iff] at h;obtain ⟨x,hp,e⟩:=h
 cases e
 obtain ⟨hk0,hkl,_⟩:=zF (n:=x.1) (k:=x.2) hp;rw [List.length_drop]
 omega
theorem qaf {s:ByteArray} {l t:List ByteArray} {n:Int} (h:afO s l=some (n,t)):t.length+2<=l.length:=by
 unfold afO at h;rw [Option.bind_eq_some_iff] at h;obtain ⟨x,h1,h2⟩:=h;have:=yV h1;have:=num_len2 h2
 omega
theorem ins_len2 {l t:List ByteArray} {G:List Gl} (h:insL l=some (G,t)):t.length<=l.length:=by
 unfold insL at h
 split at h
 ·rw [Option.bind_eq_some_iff] at h;obtain ⟨x,h1,h2⟩:=h;have:=yV h1;have:=(qgs h2).1
  omega
 ·cases h
  exact Ld _
theorem chg_len4 {l t:List ByteArray} {c:Chg} (h:qaL l=some (c,t)):t.length+4<=l.length:=by
 unfold qaL at h
 split at h
 ·rw [Option.bind_eq_some_iff] at h;obtain ⟨x,h1,h⟩:=h;rw [Option.bind_eq_some_iff] at h;obtain ⟨y,h2,h⟩:=h;rw [Option.map_eq_some_iff] at h;obtain ⟨u,h3,h⟩:=h
  cases h
  have:=qaf h1;have:=qaf h2;have:=yV h3
  omega
 ·split at h
  ·rw [Option.bind_eq_some_iff] at h;obtain ⟨x,h1,h⟩:=h;rw [Option.bind_eq_some_iff] at h1;obtain ⟨x0,h0,h1⟩:=h1;rw [Option.bind_eq_some_iff] at h;obtain ⟨y,h2,h⟩:=h;have:=yV h0;have:=qaf h1;have:=qaf h2
   split at h
   ·rw [Option.bind_eq_some_iff] at h;obtain ⟨z,h3,h⟩:=h;have:=kg h3
    split at h
    ·cases h
    ·cases h
     omega
   ·rw [Option.bind_eq_some_iff] at h;obtain ⟨z,h3,h⟩:=h;have:=kg h3
    split at h
    ·cases h
    ·cases h
     omega
  ·split at h
   ·unfold qbo at h;rw [Option.bind_eq_some_iff] at h;obtain ⟨x,h1,h⟩:=h;rw [Option.bind_eq_some_iff] at h;obtain ⟨y,h2,h⟩:=h;rw [Option.bind_eq_some_iff] at h;obtain ⟨z,h3,h⟩:=h;rw [Option.map_eq_some_iff] at h;obtain ⟨g,h4,h⟩:=h
    cases h
    have:=qaf h1;have:=qaf h2;have:=qim h3;have:=ins_len2 h4
    omega
   ·split at h
    ·rw [Option.bind_eq_some_iff] at h;obtain ⟨x,h1,h⟩:=h;rw [Option.bind_eq_some_iff] at h1;obtain ⟨x0,h0,h1⟩:=h1;rw [Option.bind_eq_some_iff] at h;obtain ⟨y,h2,h⟩:=h;have:=yV h0;have:=qaf h1;have:=qaf h2
     split at h
     ·rw [Option.map_eq_some_iff] at h;obtain ⟨u,h3,h⟩:=h
      cases h
      have:=yV h3
      omega
     ·rw [Option.map_eq_some_iff] at h;obtain ⟨u,h3,h⟩:=h
      cases h
      have:=yV h3
      omega
    ·cases h
theorem qdl : ∀ (f:Nat) (l:List ByteArray) (acc m:List Chg) (n:Int),yR f l acc=some (m,n)->4 * m.length<=4 * acc.length+l.length
 | 0,l,acc,m,n,h=>by cases h
 | f+1,l,acc,m,n,h=>by
  rw [yR] at h
  split at h
  ·rw [Option.map_eq_some_iff] at h;obtain ⟨x,_,h⟩:=h
   cases h
   omega
  ·rw [Option.bind_eq_some_iff] at h;obtain ⟨x,h1,h⟩:=h
   split at h
   ·have:=qdl f x.2 (acc++[x.1]) m n h;have:=chg_len4 (c:=x.1) (t:=x.2) h1;rw [Lf,Lp,List.length_nil] at *
    omega
   ·cases h
theorem qeb {l:List ByteArray} {m:List Chg} {n:Int} (h:jm l=some (m,n)):4 * m.length<=l.length:=by
 have:=qdl _ _ _ _ _ h;simp only [List.length_nil] at this
 omega
end Go.Proofs.YtbogmeeijdaijaaGreatDoor
