/- Joined: UtRow. -/
import Derived.Test.YtbogmeeijdaijaaGreatDoorZAF
import Derived.Test.YtbogmeeijdaijaaGreatDoorZBA
set_option linter.unusedVariables false
set_option linter.unusedSimpArgs false
set_option linter.unnecessarySimpa false
namespace Go.Proofs.YtbogmeeijdaijaaGreatDoor
open Go.ChangeShapes Go.WideShapes Go.ChangeAt Go.RowKit Go.Deep
def ChgW (x:ChgM):Prop:=(Lit.int .i64 x.c.kind).wf=true/\(Lit.int .i64 x.c.row).wf=true/\(Lit.int .i64 x.c.col).wf=true/\(Lit.int .i64 x.c.count).wf=true/\(Lit.int .i64 x.c.til).wf=true/\∀ g∈x.c.glyphs,g.text.size<=maxLen/\(Lit.int .i64 g.style).wf=true
theorem open_chgs {H:Type} {enc:TypeId × Value->H} {P:Program} {w:World} {t e eg:TypeId} {f0 f1 f2 f3 f4 f5 h0 h1 h2:Field} {A:Option Addr} {len cap:Nat} {d:DataW H} {p:List MemPlace}
  (ht:P.underlying t=some (.slice e)) (he:P.underlying e=some (.struct #[f0,f1,f2,f3,f4,f5])) (ce:P.cellsOf e=6)
  (ho:[f0.offset,f1.offset,f2.offset,f3.offset,f4.offset,f5.offset]=[0,1,2,3,4,5])
  {ti tg:TypeId} (hti:P.underlying ti=some (.int .i64)) (hci:P.cellsOf ti=1) (htg:P.underlying tg=some (.slice eg)) (hcg:P.cellsOf tg=1)
  (hty:f0.type=ti/\f1.type=ti/\f2.type=ti/\f3.type=ti/\f4.type=ti/\f5.type=tg)
  (heg:P.underlying eg=some (.struct #[h0,h1,h2])) (ceg:P.cellsOf eg=3) (hog:[h0.offset,h1.offset,h2.offset]=[0,1,2])
  (hg0:P.underlying h0.type=some .string/\P.cellsOf h0.type=1) (hg1:P.underlying h1.type=some .bool/\P.cellsOf h1.type=1) (hg2:P.underlying h2.type=some (.int .i64)/\P.cellsOf h2.type=1)
  (h:DataW.Trod enc P w 0 (fun _=>true) true t (.slice A len cap) d p) :
  ∃ l:List ChgM,l.length=len/\len<=cap/\cap<=maxLen/\RdC w w.heap.size A len l/\∀ x∈l,ChgW x:=by
 obtain ⟨fuel,hf⟩:=h;simp only [List.cons.injEq,and_true] at ho;obtain ⟨o0,o1,o2,o3,o4,o5⟩:=ho;obtain ⟨t0,t1,t2,t3,t4,t5⟩:=hty
 rcases open_slice ht hf with ⟨hcs,_⟩ | ⟨a,len',cap',m,n,D,Pl,hcs',_,hl,hm,hmm,_,hx⟩
 ·simp [Value.cells] at hcs
  obtain ⟨rfl,rfl,rfl⟩:=hcs;exact ⟨[],rfl,Ld _,by unfold maxLen;omega,⟨Rd.none_,fun x hx=>by cases hx⟩,fun s hs=>by cases hs⟩
 ·simp [Value.cells] at hcs'
  obtain ⟨rfl,rfl,rfl⟩:=hcs';simp only [if_true] at hmm;have each : ∀ i,i<m->∃ r:ChgM,(∀ j u,(qb5 r)[j]? = some u->w.cell? (a.add (i * 6+j))=some u)/\(Rd w w.heap.size 3 r.A r.c.glyphs.length (qi r.c.glyphs)/\r.c.glyphs.length<=r.cap/\r.cap<=maxLen)/\ChgW r:=by
   intro i hi;obtain ⟨cs',h1',h2'⟩:=hx i hi;rw [ce] at h1';obtain ⟨_,hlen,hcell⟩:=World.cells?_some h1';obtain ⟨xs,k,hk,hxy,_,hxl,hfl⟩:=DataW.trod_struct he h2'
   match cs',hlen with
   | [v0,v1,v2,v3,v4,v5],_ =>
    match xs,hxl with
    | [y0,y1,y2,y3,y4,y5],_ =>
     have g0:=hfl 0 f0 rfl;have g1:=hfl 1 f1 rfl;have g2:=hfl 2 f2 rfl;have g3:=hfl 3 f3 rfl;have g4:=hfl 4 f4 rfl;have g5:=hfl 5 f5 rfl;rw [o0,t0,hci] at g0;rw [o1,t1,hci] at g1;rw [o2,t2,hci] at g2;rw [o3,t3,hci] at g3;rw [o4,t4,hci] at g4;rw [o5,t5,hcg] at g5;obtain ⟨n0,e0,_,w0⟩:=DataW.trod_int hti g0;obtain ⟨n1,e1,_,w1⟩:=DataW.trod_int hti g1;obtain ⟨n2,e2,_,w2⟩:=DataW.trod_int hti g2;obtain ⟨n3,e3,_,w3⟩:=DataW.trod_int hti g3;obtain ⟨n4,e4,_,w4⟩:=DataW.trod_int hti g4
     simp at e0 e1 e2 e3 e4
     subst e0 e1 e2 e3 e4;have g5':DataW.trod enc P w 0 (fun _=>true) true k tg [v5]=some y5:=g5;obtain ⟨A5,len5,cap5,rfl⟩ : ∃ A5 len5 cap5,v5 = .slice A5 len5 cap5:=by
      rcases open_slice htg g5' with ⟨hcs,_⟩ | ⟨a5,len5,cap5,m5,n5,D5,Pl5,hcs5,_⟩
      ·exact ⟨none,0,0,by simpa using hcs⟩
      ·exact ⟨some a5,len5,cap5,by simpa using hcs5⟩
     obtain ⟨lg,q1,q2,q3,q4,q5⟩:=qgG (d:=y5.1) (p:=y5.2) htg heg ceg hog hg0 hg1 hg2 ⟨k,g5'⟩;subst q1;refine ⟨⟨⟨n0,n1,n2,n3,n4,lg⟩,A5,cap5⟩,fun j u hu=>?_,⟨q4,q2,q3⟩,w0,w1,w2,w3,w4,q5⟩;have hj:j<6:=by
      have:=(List.getElem?_eq_some_iff.1 hu).1
      rwa [qa3] at this
     have hcj:=hcell j hj;rw [qbC] at hcj;rw [hcj];exact hu
  obtain ⟨q,hq⟩:=choose_lt each;refine ⟨(List.range len).map q,by simp,hl,hm,⟨⟨by rw [qbp];simp,fun hn=>?_⟩,fun r hr=>?_⟩,fun r hr=>?_⟩
  ·obtain ⟨b,o,spot⟩:=a;have h0:=(hq 0 L0).1 0 _ rfl;have hspot:spot=none:=by simpa [Addr.add] using World.cell?_spot h0
   subst hspot;refine ⟨b,o,rfl,by simpa [Addr.add] using yY h0,fun j u hu=>?_⟩;have hj:j<len * 6:=by
    have:=(List.getElem?_eq_some_iff.1 hu).1;rw [qbp] at this
    simpa using this
   have e:j=j / 6 * 6+j % 6:=by omega
   rw [e,qcE _ _ _ L0] at hu;rw [List.getElem?_map,List.getElem?_range (show j / 6<len by omega)] at hu;have h1:=(hq (j / 6) L0).1 (j % 6) u (by simpa using hu);rw [vl] at h1;rw [e];exact h1
  ·obtain ⟨i,hi,rfl⟩:=List.mem_map.1 hr;exact (hq i (by have:=List.mem_range.1 hi;omega)).2.1
  ·obtain ⟨i,hi,rfl⟩:=List.mem_map.1 hr;exact (hq i (by have:=List.mem_range.1 hi;omega)).2.2
end Go.Proofs.YtbogmeeijdaijaaGreatDoor
