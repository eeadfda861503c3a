/- Joined: Up2, EachG, Up4. -/
import Derived.Test.YticbpkghcglgkaaGreatDoorVBE
set_option linter.unusedVariables false
set_option linter.unusedSimpArgs false
set_option linter.unnecessarySimpa false
namespace Go.Proofs.YticbpkghcglgkaaGreatDoor
open Go.Proofs.Tryz Go.RowKit
set_option maxRecDepth 20000
def PhS (w:World) (c:Chg) (Ag:Option Addr) (cap:Nat) (r:Int) (d sp:Bool) (p:Int) (con:Bool) (k:Int) (xs:List ByteArray) (X:World):Prop :=
 ∃ A co,Blk X w.heap.size 64 (yG c Ag cap)/\Blk X (w.heap.size+1) 39 #[.int .i64 r,.bool d,.bool sp,.int .i64 p,.bool con,.int .i64 k]/\Blk X (w.heap.size+2) 27 #[.slice A xs.length co]/\X.ownsRow (w.heap.size+3) 9 1 (.slice A xs.length co) xs.length (sv xs)/\Below w.heap.size w X
section
variable {w X : World} {c : Chg} {Ag : Option Addr} {cap : Nat} {r : Int} {d sp : Bool} {p : Int} {con : Bool} {k : Int} {xs : List ByteArray}
theorem PhS.size (h:PhS w c Ag cap r d sp p con k xs X):w.heap.size+3<=X.heap.size:=by
 obtain ⟨A,co,h1,h2,h3,h4,h5⟩:=h
 have:=h3.lt
 omega
end
end Go.Proofs.YticbpkghcglgkaaGreatDoor
namespace Go.Proofs.YticbpkghcglgkaaGreatDoor
open Go.Proofs.Tryz Go.RowKit
section
variable {P : Program} {G : Type}
def EachG (P:Program) (V:G->Nat->Value->World->Prop) (C:G->Array Bool->Prop) (W:G->World->Prop) (Q:Exit->Act->World->Prop) (l:List Oper) (a:Act):List Oper->Nat->Prop
 | [],_=>True
 | o::rest,i=>(∀ (s:G) (L:Array Bool) (a':Act) (w':World),C s L->W s w'->L.size=l.length->L.getD i false=false->(∀ e∈o.after,Region.binds .any e=true->L.getD e.on false=true)->a'.tmps.size=a.tmps.size->(∀ t,(l.filterMap (·.dst)).contains t=false->a'.tmps.getD t undef=a.tmps.getD t undef) ->
   (∀ e∈o.after,Region.binds .any e=true->∀ oe d,l[e.on]? = some oe->oe.dst=some d->V s e.on (a'.tmps.getD d undef) w') ->
   o.guard=none/\o.wp P a' w' (fun a'' w''=>∃ v s',a''=a'.put o.dst v/\C s' (L.setIfInBounds i true)/\W s' w''/\V s' i v w''/\∀ j u,j≠i->L.getD j false=true->V s j u w'->V s' j u w'') Q)/\EachG P V C W Q l a rest (i+1)
theorem EachG.at_ {V:G->Nat->Value->World->Prop} {C:G->Array Bool->Prop} {W:G->World->Prop} {Q:Exit->Act->World->Prop} {l:List Oper} {a:Act} : ∀ (r:List Oper) (k i:Nat) (o:Oper),EachG P V C W Q l a r k->r[i]? = some o ->
  (∀ (s:G) (L:Array Bool) (a':Act) (w':World),C s L->W s w'->L.size=l.length->L.getD (k+i) false=false->(∀ e∈o.after,Region.binds .any e=true->L.getD e.on false=true)->a'.tmps.size=a.tmps.size->(∀ t,(l.filterMap (·.dst)).contains t=false->a'.tmps.getD t undef=a.tmps.getD t undef) ->
   (∀ e∈o.after,Region.binds .any e=true->∀ oe d,l[e.on]? = some oe->oe.dst=some d->V s e.on (a'.tmps.getD d undef) w') ->
   o.guard=none/\o.wp P a' w' (fun a'' w''=>∃ v s',a''=a'.put o.dst v/\C s' (L.setIfInBounds (k+i) true)/\W s' w''/\V s' (k+i) v w''/\∀ j u,j≠k+i->L.getD j false=true->V s j u w'->V s' j u w'') Q)
 | [],_,_,_,_,h=>by cases h
 | o::r,k,0,o',h,hi=>by
  obtain rfl:o=o':=by simpa using hi
  exact h.1
 | o::r,k,i+1,o',h,hi=>by
  have:=EachG.at_ r (k+1) i o' h.2 (by simpa using hi)
  rwa [show k+1+i=k+(i+1) by omega] at this
end
end Go.Proofs.YticbpkghcglgkaaGreatDoor
namespace Go.Proofs.YticbpkghcglgkaaGreatDoor
open Go.Proofs.Tryz Go.RowKit
set_option maxRecDepth 20000
def OneS (lo:Nat) (rho:Value) (x:ByteArray) (v:Value) (wx:World):Prop:=∃ b,v = .slice (some ⟨b,0,none⟩) 1 1/\Blk wx b 9 #[.string x]/\lo<=b/\some b≠rho.ownBlock
theorem OneS.on {lo:Nat} {rho v:Value} {x:ByteArray} {w w':World} (h:OneS lo rho x v w) (hb:Below w.heap.size w w'):OneS lo rho x v w':=by
 obtain ⟨b,e,hk,hl,hn⟩:=h
 exact ⟨b,e,hk.below hb hk.lt,hl,hn⟩
theorem OneS.app {lo:Nat} {rho rho' v:Value} {x:ByteArray} {w w':World} (h:OneS lo rho x v w) (hg:w.grownBy w' rho.ownBlock) (hat:rho'.ownBlock=rho.ownBlock∨rho'.ownBlock=some w.heap.size):OneS lo rho' x v w':=by
 obtain ⟨b,e,hk,hl,hn⟩:=h
 refine ⟨b,e,hk.grown hg hn,hl,fun h'=>?_⟩
 rcases hat with h | h
 ·exact hn (h'.trans h)
 ·rw [h] at h'
  cases h'
  exact Nat.lt_irrefl _ hk.lt
def RowS (lo:Nat) (rho:Value) (l:List ByteArray) (v:Value) (wx:World):Prop:=∃ A c,v = .slice A l.length c/\wx.ownsRow lo 9 1 v l.length (sv l)/\(v.ownBlock=none∨v.ownBlock≠rho.ownBlock)
theorem RowS.on {lo:Nat} {rho v:Value} {x:List ByteArray} {w w':World} (h:RowS lo rho x v w) (hb:Below w.heap.size w w'):RowS lo rho x v w':=by
 obtain ⟨A,c,e,ho,hn⟩:=h
 exact ⟨A,c,e,qb ho hb,hn⟩
theorem RowS.app {lo:Nat} {rho rho' v:Value} {x:List ByteArray} {w w':World} (h:RowS lo rho x v w) (hg:w.grownBy w' rho.ownBlock) (hat:rho'.ownBlock=rho.ownBlock∨rho'.ownBlock=some w.heap.size):RowS lo rho' x v w':=by
 obtain ⟨A,c,e,ho,hn⟩:=h
 refine ⟨A,c,e,ho.kept hg hn,?_⟩
 rcases hk:v.ownBlock with _ | k
 ·exact .inl rfl
 ·right
  intro h'
  rcases hat with h | h
  ·rcases hn with h0 | h0
   ·rw [hk] at h0;cases h0
   ·exact h0 (hk.trans (h'.trans h))
  ·rw [h] at h'
   cases h'
   exact Nat.lt_irrefl _ (ho.lt _ hk).2
def rwL (xs SW:List ByteArray):Nat->List ByteArray
 | 0=>xs
 | 1=>xs++[qK]
 | 2=>xs++[qK]++SW
 | _=>xs++[qK]++SW++[vF]
def rgV (h lo:Nat) (v0:Value) (Ag:Option Addr) (gl cap:Nat) (st:Value) (SW:List ByteArray) (s:Nat × Value) (i:Nat) (v:Value) (wx:World):Prop:=match i with
 | 0=>v=v0
 | 1=>s.1=0->OneS lo s.2 qK v wx
 | 2=>s.1=1->v=s.2
 | 3=>v = .pointer (some ⟨h,5,none⟩)
 | 4=>v = .slice Ag gl cap
 | 5=>v=st
 | 6=>s.1<=1->RowS lo s.2 SW v wx
 | 7=>s.1=2->v=s.2
 | 8=>s.1<=2->OneS lo s.2 vF v wx
 | 9=>s.1=3->v=s.2
 | _=>True
theorem rgV.on {h lo:Nat} {v0:Value} {Ag:Option Addr} {gl cap:Nat} {st:Value} {SW:List ByteArray} {s:Nat × Value} {i:Nat} {v:Value} {w w':World} (H:rgV h lo v0 Ag gl cap st SW s i v w) (hb:Below w.heap.size w w'):rgV h lo v0 Ag gl cap st SW s i v w':=by
 unfold rgV at *
 split at H <;> first | exact H | exact fun e=>(H e).on hb
def rgW (X:World) (h:Nat) (v0:Value) (xs SW:List ByteArray) (s:Nat × Value) (wx:World):Prop :=
 (∃ A c,s.2 = .slice A (rwL xs SW s.1).length c)/\wx.ownsRow (h+3) 9 1 s.2 (rwL xs SW s.1).length (sv (rwL xs SW s.1))/\(s.1=0->s.2=v0)/\s.1<=4/\X.heap.size<=wx.heap.size /\
  (s.1<=3->Below (h+3) X wx)/\(s.1=4->Below (h+2) X wx/\Blk wx (h+2) 27 #[s.2])
theorem rgW.on {X:World} {h:Nat} {v0:Value} {xs SW:List ByteArray} {s:Nat × Value} {w w':World} (H:rgW X h v0 xs SW s w) (hX:h+3<=X.heap.size) (hb:Below w.heap.size w w'):rgW X h v0 xs SW s w':=by
 obtain ⟨h1,h2,h3,h4,h5,h6,h7⟩:=H
 exact ⟨h1,qb h2 hb,h3,h4,Nat.le_trans h5 hb.size,fun e=>(h6 e).trans (hb.mono (by omega)),fun e=>⟨(h7 e).1.trans (hb.mono (by omega)),(h7 e).2.below hb (h7 e).2.lt⟩⟩
section
variable {a : Act} {w : World} {K : Act -> World -> Prop} {Q : Exit -> Act -> World -> Prop}
end
end Go.Proofs.YticbpkghcglgkaaGreatDoor
