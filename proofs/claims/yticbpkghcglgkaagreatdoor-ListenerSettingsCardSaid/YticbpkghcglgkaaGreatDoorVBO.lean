/- Joined: Lvf. -/
import Derived.Test.YticbpkghcglgkaaGreatDoorVBN
set_option linter.unusedVariables false
set_option linter.unusedSimpArgs false
set_option linter.unnecessarySimpa false
namespace Go.Proofs.YticbpkghcglgkaaGreatDoor
open Go.Proofs.Tryz Go.RowKit
set_option maxRecDepth 20000
structure EDx (base G:Nat) (v:Vw) (rs:List RowM) (A:Option Addr) (c k:Nat) (l':List Gl) (A4:Option Addr) (c4:Nat) (X:World):Prop where
 blk:Blk X G 103 (vwC v A rs.length c)
 rows:X.ownsRow base 56 1 (.slice A rs.length c) rs.length (zQ rs)
 gl : ∀ j (h:j<rs.length),j≠k->X.ownsRow base 86 3 (.slice rs[j].A rs[j].l.length rs[j].cap) rs[j].l.length (qi rs[j].l)
 row:X.ownsRow base 86 3 (.slice A4 l'.length c4) l'.length (qi l')
 eq:v.rows=rls rs
 lo:base<=G
 dj:(obR G A (rs.set k ⟨l',A4,c4⟩)).Pairwise Dj
theorem qaD {l:List (Option Nat)} (h:l.Pairwise Dj) {i j:Nat} (hi:i<l.length) (hj:j<l.length) (hne:i≠j):Dj l[i] l[j]:=by
 rcases Nat.lt_or_ge i j with hlt | hge
 ·exact List.pairwise_iff_getElem.1 h i j hi hj hlt
 ·exact (List.pairwise_iff_getElem.1 h j i hj hi (by omega)).symm
theorem obR_set (G:Nat) (A:Option Addr) (rs:List RowM) (k:Nat) (x:RowM):obR G A (rs.set k x)=(obR G A rs).set (k+2) (obS x.A):=by
 unfold obR
 rw [List.map_set,List.set_cons_succ,List.set_cons_succ]
section
variable {base G c k c4 : Nat} {v : Vw} {rs : List RowM} {A A4 : Option Addr} {l' : List Gl} {X X' w1 w2 : World}
theorem EDx.below (h:EDx base G v rs A c k l' A4 c4 X) (hb:Below X.heap.size X X'):EDx base G v rs A c k l' A4 c4 X' :=
 ⟨h.blk.below hb h.blk.lt,qb h.rows hb,fun j hj hne=>qb (h.gl j hj hne) hb,qb h.row hb,h.eq,h.lo,h.dj⟩
theorem EDx.apart (h:EDx base G v rs A c k l' A4 c4 X) (hk:k<rs.length):Dj (some G) (obS A)/\Dj (some G) (obS A4)/\Dj (obS A) (obS A4)/\(∀ j (hj:j<rs.length),j≠k->Dj (some G) (obS rs[j].A)/\Dj (obS A) (obS rs[j].A)/\Dj (obS rs[j].A) (obS A4)):=by
 have hd:=h.dj
 have hl:(obR G A (rs.set k ⟨l',A4,c4⟩)).length=rs.length+2:=by simp [obR]
 have g0:(obR G A (rs.set k ⟨l',A4,c4⟩))[0]'(by omega)=some G:=rfl
 have g1:(obR G A (rs.set k ⟨l',A4,c4⟩))[1]'(by omega)=obS A:=rfl
 have gk:(obR G A (rs.set k ⟨l',A4,c4⟩))[k+2]'(by omega)=obS A4:=by simp [obR]
 have gj : ∀ j (hj:j<rs.length),j≠k->(obR G A (rs.set k ⟨l',A4,c4⟩))[j+2]'(by omega)=obS rs[j].A:=fun j hj hne=>by
  simp [obR,List.getElem_set_ne (Ne.symm hne)]
 refine ⟨?_,?_,?_,fun j hj hne=>⟨?_,?_,?_⟩⟩
 ·have:=qaD hd (i:=0) (j:=1) (by omega) (by omega) (by omega);rwa [g0,g1] at this
 ·have:=qaD hd (i:=0) (j:=k+2) (by omega) (by omega) (by omega);rwa [g0,gk] at this
 ·have:=qaD hd (i:=1) (j:=k+2) (by omega) (by omega) (by omega);rwa [g1,gk] at this
 ·have:=qaD hd (i:=0) (j:=j+2) (by omega) (by omega) (by omega);rwa [g0,gj j hj hne] at this
 ·have:=qaD hd (i:=1) (j:=j+2) (by omega) (by omega) (by omega);rwa [g1,gj j hj hne] at this
 ·have:=qaD hd (i:=j+2) (j:=k+2) (by omega) (by omega) (by omega);rwa [gj j hj hne,gk] at this
theorem EDx.dj_new (h:EDx base G v rs A c k l' A4 c4 X) {l2:List Gl} {A5:Option Addr} {c5:Nat} (hn : ∀ y∈obR G A (rs.set k ⟨l',A4,c4⟩),y=obS A4∨Dj y (obS A5)) (hk:k<rs.length):(obR G A (rs.set k ⟨l2,A5,c5⟩)).Pairwise Dj:=by
 obtain ⟨d1,d2,d3,d4⟩:=h.apart hk
 rw [List.pairwise_iff_getElem]
 have hl:(obR G A (rs.set k ⟨l2,A5,c5⟩)).length=rs.length+2:=by simp [obR]
 have hl':(obR G A (rs.set k ⟨l',A4,c4⟩)).length=rs.length+2:=by simp [obR]
 have same : ∀ i (hi:i<rs.length+2),i≠k+2->(obR G A (rs.set k ⟨l2,A5,c5⟩))[i]'(by omega)=(obR G A (rs.set k ⟨l',A4,c4⟩))[i]'(by omega):=fun i hi hne=>by
  have e1 : ∀ (x:RowM),(obR G A (rs.set k x))[i]? = (obR G A rs)[i]?:=fun x=>by rw [obR_set,List.getElem?_set_ne (Ne.symm hne)]
  have:=(e1 ⟨l2,A5,c5⟩).trans (e1 ⟨l',A4,c4⟩).symm
  rw [List.getElem?_eq_getElem (by omega),List.getElem?_eq_getElem (by omega)] at this
  injection this
 have gk:(obR G A (rs.set k ⟨l2,A5,c5⟩))[k+2]'(by omega)=obS A5:=by simp [obR]
 have key : ∀ i (hi:i<rs.length+2),i≠k+2->Dj ((obR G A (rs.set k ⟨l',A4,c4⟩))[i]'(by omega)) (obS A5):=fun i hi hne=>by
  rcases hn _ (List.getElem_mem (by omega:i<(obR G A (rs.set k ⟨l',A4,c4⟩)).length)) with e | e
  ·have hd:=qaD h.dj (i:=i) (j:=k+2) (by omega) (by omega) hne
   have gk':(obR G A (rs.set k ⟨l',A4,c4⟩))[k+2]'(by omega)=obS A4:=by simp [obR]
   rw [e,gk'] at hd
   rw [e]
   intro j h1 _
   exact hd j h1 h1
  ·exact e
 intro i j hi hj hij
 by_cases hik:i=k+2
 ·subst hik
  rw [gk,same j (by omega) (by omega)]
  exact (key j (by omega) (by omega)).symm
 ·by_cases hjk:j=k+2
  ·subst hjk
   rw [gk,same i (by omega) hik]
   exact key i (by omega) hik
  ·rw [same i (by omega) hik,same j (by omega) hjk]
   exact qaD h.dj (by omega) (by omega) (by omega)
theorem EDx.put (h:EDx base G v rs A c k l' A4 c4 X) (hk:k<rs.length) (hbase:base<=X.heap.size) {G1:Nat} (hA:A=some ⟨G1,0,none⟩) {l6:List Gl} {A6:Option Addr} {c6:Nat} (hb1:Below X.heap.size X w1) (hown:w1.ownsRow X.heap.size 86 3 (.slice A6 l6.length c6) l6.length (qi l6)) :
  ED base G ⟨v.width,v.height,(rls rs).set k l6,v.row,v.col,v.vis⟩ (rs.set k ⟨l6,A6,c6⟩) A c (w1.setCell ⟨G1,k,none⟩ (.slice A6 l6.length c6)):=by
 subst hA
 obtain ⟨d1,d2,d3,d4⟩:=h.apart hk
 have h1:=h.below hb1
 have hfr : ∀ b,obS A6=some b->X.heap.size<=b:=fun b hb=>(vB hown b hb).1
 have hG1:G1<X.heap.size:=(vB h.rows G1 rfl).2
 refine ⟨?_,?_,fun x hx=>?_,(qfd rs k ⟨l6,A6,c6⟩).symm,h.lo,h.dj_new (fun y hy=>?_) hk⟩
 ·rw [List.length_set]
  exact h1.blk.far (p:=⟨G1,k,none⟩) (fun e=>d1 G rfl (by rw [e];rfl)) _
 ·rw [List.length_set,qeJ]
  exact (h1.rows.stored k _).1
 ·obtain ⟨i,hi,rfl⟩:=List.getElem_of_mem hx
  rw [List.length_set] at hi
  by_cases hik:i=k
  ·subst hik
   rw [List.getElem_set_self]
   exact ownsRow_setCell_other (a:=⟨G1,i,none⟩) (qt hown hbase) (fun e=>by
    rw [qC] at e
    have:=hfr _ e
    simp only at this
    omega) _
  ·rw [List.getElem_set_ne (Ne.symm hik)]
   exact ownsRow_setCell_other (a:=⟨G1,k,none⟩) (h1.gl i hi hik) (fun e=>by
    rw [qC] at e
    exact (d4 i hi hik).2.1 G1 rfl e) _
 ·by_cases e:y=obS A4
  ·exact .inl e
  ·right
   refine Dj.fresh (N:=X.heap.size) (fun b hb=>?_) hfr
   subst hb
   unfold obR at hy
   rcases List.mem_cons.1 hy with hy | hy
   ·injection hy with hy;have:=h.blk.lt;omega
   ·rcases List.mem_cons.1 hy with hy | hy
    ·exact (vB h.rows b hy.symm).2
    ·obtain ⟨x,hx,e2⟩:=List.mem_map.1 hy
     obtain ⟨i,hi,rfl⟩:=List.getElem_of_mem hx
     rw [List.length_set] at hi
     by_cases hik:i=k
     ·subst hik
      rw [List.getElem_set_self] at e2
      exact absurd e2.symm e
     ·rw [List.getElem_set_ne (Ne.symm hik)] at e2
      exact (vB (h.gl i hi hik) b e2).2
end
end Go.Proofs.YticbpkghcglgkaaGreatDoor
