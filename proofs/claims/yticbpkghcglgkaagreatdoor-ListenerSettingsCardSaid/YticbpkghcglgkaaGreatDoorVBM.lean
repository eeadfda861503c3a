/- Joined: Lv7. -/
import Derived.OneCell
import Derived.Test.YticbpkghcglgkaaGreatDoorVBL
set_option linter.unusedVariables false
set_option linter.unusedSimpArgs false
set_option linter.unnecessarySimpa false
namespace Go.Proofs.YticbpkghcglgkaaGreatDoor
open Go.Proofs.Tryz Go.RowKit
set_option maxRecDepth 20000
def obS (A:Option Addr):Option Nat:=A.map Addr.block
theorem qC (A:Option Addr) (n c:Nat):(Value.slice A n c).ownBlock=obS A:=by cases A <;> rfl
def obR (g:Nat) (A:Option Addr) (rs:List RowM):List (Option Nat):=some g::obS A::rs.map fun x=>obS x.A
structure ED (base g:Nat) (v:Vw) (rs:List RowM) (A:Option Addr) (c:Nat) (X:World):Prop where
 blk:Blk X g 103 (vwC v A rs.length c)
 rows:X.ownsRow base 56 1 (.slice A rs.length c) rs.length (zQ rs)
 gl : ∀ x∈rs,X.ownsRow base 86 3 (.slice x.A x.l.length x.cap) x.l.length (qi x.l)
 eq:v.rows=rls rs
 lo:base<=g
 dj:(obR g A rs).Pairwise Dj
section
variable {base g : Nat} {v : Vw} {rs : List RowM} {A : Option Addr} {c : Nat} {X X' : World}
theorem ED.below (h:ED base g v rs A c X) (hb:Below X.heap.size X X'):ED base g v rs A c X' :=
 ⟨h.blk.below hb h.blk.lt,qb h.rows hb,fun x hx=>qb (h.gl x hx) hb,h.eq,h.lo,h.dj⟩
theorem ED.drew (h:ED base g v rs A c X):ED base g v rs A c X.drew:=h.below (Below.refl _ _).drew
end
theorem vB {w:World} {base size n c:Nat} {e:TypeId} {A:Option Addr} {xs:List Value} (h:w.ownsRow base e size (.slice A n c) n xs) : ∀ k,obS A=some k->base<=k/\k<w.heap.size:=fun k hk=>h.lt k (by rw [qC];exact hk)
theorem Dj.fresh {a b:Option Nat} {N:Nat} (ha : ∀ k,a=some k->k<N) (hb : ∀ k,b=some k->N<=k):Dj a b:=fun k h1 h2=>by
 have:=ha k h1
 have:=hb k h2
 omega
theorem qeJ (rs:List RowM) (k:Nat) (x:RowM):zQ (rs.set k x)=(zQ rs).set k (.slice x.A x.l.length x.cap):=by
 unfold zQ
 rw [List.map_set]
theorem qfd (rs:List RowM) (k:Nat) (x:RowM):rls (rs.set k x)=(rls rs).set k x.l:=by
 unfold rls
 rw [List.map_set]
def OpI (w:World) (v:Vw) (rs:List RowM) (G n c1 k:Nat) (X:World):Prop :=
 ∃ cl:List RowM,cl.length=k/\Blk X w.heap.size 24 (vwC v (some ⟨G,0,none⟩) n c1)/\X.ownsRow w.heap.size 56 1 (.slice (some ⟨G,0,none⟩) n c1) n (zQ (cl++rs.drop k)) /\
  (∀ x∈cl,X.ownsRow w.heap.size 86 3 (.slice x.A x.l.length x.cap) x.l.length (qi x.l))/\rls cl=(rls rs).take k/\(some w.heap.size::some G::cl.map fun x=>obS x.A).Pairwise Dj/\Below w.heap.size w X
theorem OpI.drew {w X:World} {v:Vw} {rs:List RowM} {G n c1 k:Nat} (h:OpI w v rs G n c1 k X):OpI w v rs G n c1 k X.drew:=by
 obtain ⟨cl,h1,h2,h3,h4,h5,h6,h7⟩:=h
 exact ⟨cl,h1,h2,h3,h4,h5,h6,h7.drew⟩
end Go.Proofs.YticbpkghcglgkaaGreatDoor
