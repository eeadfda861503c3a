/- Joined: Un2, Lib3, Row, Un3, Un4. -/
import Derived.Shelf.Unicode.ValidAny
import Derived.SliceStrings
import Derived.ChangeSlices
import Derived.ProofKit
import Derived.OpenShut
import Derived.ShutString
import Derived.Laws.IdiomStrings
import Derived.Test.YticbpkghcglgkaaGreatDoorVAF
set_option linter.unusedVariables false
set_option linter.unusedSimpArgs false
set_option linter.unnecessarySimpa false
namespace Go.Proofs.YticbpkghcglgkaaGreatDoor
open Go.Proofs.Tryz Go.RowKit
theorem own_keep {w w':World} {base size n:Nat} {e:TypeId} {v:Value} {xs:List Value} (h:w.ownsRow base e size v n xs) (hk : ∀ k,base<=k->w'.heap[k]? = w.heap[k]?):w'.ownsRow base e size v n xs:=by
 refine ⟨h.1,?_⟩
 rcases h.2 with h0 | ⟨g,cap,cur,rfl,h1,h2,h3⟩
 ·exact .inl h0
 ·exact .inr ⟨g,cap,cur,rfl,h1,(hk g h1).trans h2,h3⟩
theorem zZ {w:World} {base size n:Nat} {e:TypeId} {v:Value} {xs:List Value} (h:w.ownsRow base e size v n xs) {p:Addr} (hp:p.block<base) (u:Value):(w.setCell p u).ownsRow base e size v n xs :=
 own_keep h fun k hk=>Below.heap_setCell w p u k (by omega)
end Go.Proofs.YticbpkghcglgkaaGreatDoor
namespace Go.Proofs
open Go.Shelf
def Tryz.laysValid_ren:Go.Shelf.Ren:=⟨fun | 196=>143 | 259=>165 | n=>n,fun | 9=>9 | 4=>4 | 3=>3 | 5=>5 | 12=>12 | 119=>87 | 0=>0 | 46=>175 | 139=>220 | 138=>219 | 53=>228 | n=>n,fun | 3=>4 | 4=>5 | n=>n⟩
theorem Tryz.laysValid:Go.Proofs.Lays.n196 Tryz.prog Tryz.laysValid_ren:={
 mixed:=by kernel_rfl
 f196:=Tryz.func143.trans (congrArg some (by kernel_rfl))
 f259:=Tryz.func165.trans (congrArg some (by kernel_rfl))
 t0:=Tryz.underlying0
 a0:=Tryz.isAgg0
 z0:=Tryz.sizeOf0
 v0:=Tryz.zeroValue0
 t3:=Tryz.underlying3
 a3:=Tryz.isAgg3
 z3:=Tryz.sizeOf3
 v3:=Tryz.zeroValue3
 t4:=Tryz.underlying4
 a4:=Tryz.isAgg4
 z4:=Tryz.sizeOf4
 v4:=Tryz.zeroValue4
 t5:=Tryz.underlying5
 a5:=Tryz.isAgg5
 z5:=Tryz.sizeOf5
 v5:=Tryz.zeroValue5
 t9:=Tryz.underlying9
 a9:=Tryz.isAgg9
 z9:=Tryz.sizeOf9
 v9:=Tryz.zeroValue9
 t12:=Tryz.underlying12
 a12:=Tryz.isAgg12
 z12:=Tryz.sizeOf12
 v12:=Tryz.zeroValue12
 t46:=Tryz.underlying175
 a46:=Tryz.isAgg175
 z46:=Tryz.sizeOf175
 v46:=Tryz.zeroValue175
 t53:=Tryz.underlying228
 a53:=Tryz.isAgg228
 z53:=Tryz.sizeOf228
 v53:=Tryz.zeroValue228
 t119:=Tryz.underlying87
 a119:=Tryz.isAgg87
 z119:=Tryz.sizeOf87
 t138:=Tryz.underlying219
 a138:=Tryz.isAgg219
 z138:=Tryz.sizeOf219
 v138:=Tryz.zeroValue219
 t139:=Tryz.underlying220
 a139:=Tryz.isAgg220
 z139:=Tryz.sizeOf220
 v139:=Tryz.zeroValue220
 g3:=by kernel_rfl
 g4:=by kernel_rfl }
end Go.Proofs
namespace Go.Proofs.YticbpkghcglgkaaGreatDoor
open Go.ChangeShapes Go.WideShapes Go.ChangeAt Go.RowKit
theorem own:ownKnob Tryz.prog.godebug=none:=by kernel_rfl
theorem laidOut:laidOutB Tryz.prog=true:=by kernel_rfl
theorem yY {w:World} {a:Addr} {v:Value} (h:w.cell? a=some v):a.block<w.heap.size:=by
 rcases Nat.lt_or_ge a.block w.heap.size with hl | hl
 ·exact hl
 ·unfold World.cell? at h
  rw [Array.getElem?_eq_none hl] at h
  cases h
theorem open_strs {H:Type} {enc:TypeId × Value->H} {P:Program} {w:World} {t e:TypeId} {A:Option Addr} {len cap:Nat} {d:DataW H} {p:List MemPlace} (ht:P.underlying t=some (.slice e)) (he:P.underlying e=some .string) (hC:P.cellsOf e=1)
  (h:DataW.Trod enc P w 0 (fun _=>true) true t (.slice A len cap) d p) :
  ∃ l:List ByteArray,l.length=len/\len<=cap/\cap<=maxLen/\Rd w w.heap.size 1 A len (sv l)/\∀ s∈l,s.size<=maxLen:=by
 obtain ⟨fuel,hf⟩:=h
 rcases open_strings ht he hC hf with ⟨hcs,_⟩ | ⟨a,len',cap',ss,hcs,_,hl,hm,hz,_,hcell,hws⟩
 ·simp [Value.cells] at hcs
  obtain ⟨rfl,rfl,rfl⟩:=hcs
  exact ⟨[],rfl,Nat.le_refl _,by unfold maxLen;omega,Rd.none_,fun s hs=>by cases hs⟩
 ·simp [Value.cells] at hcs
  obtain ⟨rfl,rfl,rfl⟩:=hcs
  have hz':ss.length=cap:=by simpa using hz
  refine ⟨ss.take len,by rw [List.length_take,hz'];omega,hl,hm,⟨by simp [sv,hz'];omega,fun hn=>?_⟩,fun s hs=>hws s (List.mem_of_mem_take hs)⟩
  obtain ⟨b,o,spot⟩:=a
  have h0:=hcell 0 (by omega)
  have hspot:spot=none:=by simpa [Addr.add] using World.cell?_spot h0
  subst hspot
  refine ⟨b,o,rfl,by simpa [Addr.add] using yY h0,fun j u hu=>?_⟩
  have hj:j<len:=by
   have:=(List.getElem?_eq_some_iff.1 hu).1
   simp [sv] at this
   omega
  have h1:=hcell j (by omega)
  rw [vl] at h1
  rw [h1,<- hu]
  simp [sv,hj,List.getD_eq_getElem?_getD,List.getElem?_eq_getElem (show j<ss.length by omega)]
def ivs (k:IntKind) (l:List Int):List Value:=l.map fun n=>.int k n
theorem sv_ivs_take (k:IntKind) (l:List Int) (n:Nat):ivs k (l.take n)=(ivs k l).take n:=by simp [ivs,List.map_take]
theorem open_intl {H:Type} {enc:TypeId × Value->H} {P:Program} {w:World} {t e:TypeId} {k:IntKind} {A:Option Addr} {len cap:Nat} {d:DataW H} {p:List MemPlace} (ht:P.underlying t=some (.slice e)) (he:P.underlying e=some (.int k)) (hC:P.cellsOf e=1)
  (h:DataW.Trod enc P w 0 (fun _=>true) true t (.slice A len cap) d p) :
  ∃ l:List Int,l.length=len/\len<=cap/\cap<=maxLen/\Rd w w.heap.size 1 A len (ivs k l)/\∀ n∈l,(Lit.int k n).wf=true:=by
 obtain ⟨fuel,hf⟩:=h
 rcases Go.ChangeShapes.open_ints ht he hC hf with ⟨hcs,_⟩ | ⟨a,len',cap',zs,hcs,_,hl,hm,hz,_,hcell,hws⟩
 ·simp [Value.cells] at hcs
  obtain ⟨rfl,rfl,rfl⟩:=hcs
  exact ⟨[],rfl,Nat.le_refl _,by unfold maxLen;omega,Rd.none_,fun s hs=>by cases hs⟩
 ·simp [Value.cells] at hcs
  obtain ⟨rfl,rfl,rfl⟩:=hcs
  have hz':zs.length=cap:=by simpa using hz
  refine ⟨zs.take len,by rw [List.length_take,hz'];omega,hl,hm,⟨by simp [ivs,hz'];omega,fun hn=>?_⟩,fun s hs=>hws s (List.mem_of_mem_take hs)⟩
  obtain ⟨b,o,spot⟩:=a
  have h0:=hcell 0 (by omega)
  have hspot:spot=none:=by simpa [Addr.add] using World.cell?_spot h0
  subst hspot
  refine ⟨b,o,rfl,by simpa [Addr.add] using yY h0,fun j u hu=>?_⟩
  have hj:j<len:=by
   have:=(List.getElem?_eq_some_iff.1 hu).1
   simp [ivs] at this
   omega
  have h1:=hcell j (by omega)
  rw [vl] at h1
  rw [h1,<- hu]
  simp [ivs,hj,List.getD_eq_getElem?_getD,List.getElem?_eq_getElem (show j<zs.length by omega)]
end Go.Proofs.YticbpkghcglgkaaGreatDoor
namespace Go.Proofs.YticbpkghcglgkaaGreatDoor
open Go.Proofs.Tryz Go.RowKit
def U8 (w:World):Prop:=Lib.Utf8Tabs (Tryz.laysValid_ren.g 3) (Tryz.laysValid_ren.g 4) w
theorem U8.below {w w':World} (h:U8 w) (hb:Below w.heap.size w w'):U8 w':=by
 refine ⟨fun c hc=>?_,fun i hi=>?_⟩
 ·have:=h.1 c hc
  exact (hb.cell (yY this)).trans this
 ·have h1:=(h.2 i hi).1
  have h2:=(h.2 i hi).2
  exact ⟨(hb.cell (yY h1)).trans h1,(hb.cell (yY h2)).trans h2⟩
theorem qh8 {r:Nat} (h:qR r) : ∀ b∈vQ r,b<256:=by
 unfold qR at h
 unfold vQ
 intro b hb
 split at hb
 ·simp only [List.mem_cons,List.not_mem_nil,or_false] at hb
  omega
 ·split at hb
  ·simp only [List.mem_cons,List.not_mem_nil,or_false] at hb
   omega
  ·split at hb
   ·simp only [List.mem_cons,List.not_mem_nil,or_false] at hb
    omega
   ·simp only [List.mem_cons,List.not_mem_nil,or_false] at hb
    omega
end Go.Proofs.YticbpkghcglgkaaGreatDoor
