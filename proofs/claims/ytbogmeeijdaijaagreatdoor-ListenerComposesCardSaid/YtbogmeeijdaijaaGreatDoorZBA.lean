/- Joined: GlRow. -/
import Derived.Deep.Slices
import Derived.Deep.FieldsWide
import Derived.Test.YtbogmeeijdaijaaGreatDoorZAD
set_option linter.unusedVariables false
set_option linter.unusedSimpArgs false
set_option linter.unnecessarySimpa false
namespace Go.Proofs.YtbogmeeijdaijaaGreatDoor
open Go.ChangeShapes Go.WideShapes Go.ChangeAt Go.RowKit Go.Deep
theorem qgG {H:Type} {enc:TypeId × Value->H} {P:Program} {w:World} {t e:TypeId} {f0 f1 f2:Field} {A:Option Addr} {len cap:Nat} {d:DataW H} {p:List MemPlace}
  (ht:P.underlying t=some (.slice e)) (he:P.underlying e=some (.struct #[f0,f1,f2])) (ce:P.cellsOf e=3)
  (ho:[f0.offset,f1.offset,f2.offset]=[0,1,2])
  (ht0:P.underlying f0.type=some .string/\P.cellsOf f0.type=1) (ht1:P.underlying f1.type=some .bool/\P.cellsOf f1.type=1) (ht2:P.underlying f2.type=some (.int .i64)/\P.cellsOf f2.type=1)
  (h:DataW.Trod enc P w 0 (fun _=>true) true t (.slice A len cap) d p) :
  ∃ l:List Gl,l.length=len/\len<=cap/\cap<=maxLen/\Rd w w.heap.size 3 A len (qi l)/\∀ g∈l,g.text.size<=maxLen/\(Lit.int .i64 g.style).wf=true:=by
 obtain ⟨fuel,hf⟩:=h;simp only [List.cons.injEq,and_true] at ho;obtain ⟨o0,o1,o2⟩:=ho
 rcases open_slice ht hf with ⟨hcs,_⟩ | ⟨a,len',cap',m,n,D,Pl,hcs',_,hl,hm,hmm,_,hx⟩
 ·simp [Value.cells] at hcs
  obtain ⟨rfl,rfl,rfl⟩:=hcs;exact ⟨[],rfl,Ld _,by unfold maxLen;omega,Rd.none_,fun s hs=>by cases hs⟩
 ·simp [Value.cells] at hcs'
  obtain ⟨rfl,rfl,rfl⟩:=hcs';simp only [if_true] at hmm;have each : ∀ i,i<m->∃ r:Gl,(∀ j u,(ym r)[j]? = some u->w.cell? (a.add (i * 3+j))=some u)/\r.text.size<=maxLen/\(Lit.int .i64 r.style).wf=true:=by
   intro i hi;obtain ⟨cs',h1,h2⟩:=hx i hi;rw [ce] at h1;obtain ⟨_,hlen,hcell⟩:=World.cells?_some h1;obtain ⟨xs,k,hk,hxy,_,hxl,hfl⟩:=DataW.trod_struct he h2
   match cs',hlen with
   | [v0,v1,v2],_ =>
    match xs,hxl with
    | [y0,y1,y2],_ =>
     have g0:=hfl 0 f0 rfl;have g1:=hfl 1 f1 rfl;have g2:=hfl 2 f2 rfl;rw [o0,ht0.2] at g0;rw [o1,ht1.2] at g1;rw [o2,ht2.2] at g2;obtain ⟨s,e0,_,hz⟩:=DataW.trod_string ht0.1 g0;obtain ⟨b,e1,_⟩:=DataW.trod_bool ht1.1 g1;obtain ⟨n2,e2,_,hw⟩:=DataW.trod_int ht2.1 g2
     simp at e0 e1 e2
     subst e0 e1 e2;refine ⟨⟨s,b,n2⟩,fun j u hu=>?_,hz,hw⟩;have hj:j<3:=by
      have:=(List.getElem?_eq_some_iff.1 hu).1
      rwa [yU] at this
     have hcj:=hcell j hj;rw [qbC] at hcj;rw [hcj];exact hu
  obtain ⟨q,hq⟩:=choose_lt each;refine ⟨(List.range len).map q,by simp,hl,hm,⟨by rw [qbi];simp,fun hn=>?_⟩,fun r hr=>?_⟩
  ·obtain ⟨b,o,spot⟩:=a;have h0:=(hq 0 L0).1 0 _ rfl;have hspot:spot=none:=by simpa [Addr.add] using World.cell?_spot h0
   subst hspot;refine ⟨b,o,rfl,by simpa [Addr.add] using yY h0,fun j u hu=>?_⟩;have hj:j<len * 3:=by
    have:=(List.getElem?_eq_some_iff.1 hu).1;rw [qbi] at this
    simpa using this
   have e:j=j / 3 * 3+j % 3:=by omega
   rw [e,qcy _ _ _ L0] at hu;rw [List.getElem?_map,List.getElem?_range (show j / 3<len by omega)] at hu;have h1:=(hq (j / 3) L0).1 (j % 3) u (by simpa using hu);rw [vl] at h1;rw [e];exact h1
  ·obtain ⟨i,hi,rfl⟩:=List.mem_map.1 hr;exact (hq i (by have:=List.mem_range.1 hi;omega)).2
theorem open_setts {H:Type} {enc:TypeId × Value->H} {P:Program} {w:World} {base:Nat} {spare:Nat->Bool} {held:Bool} {r:Reach} {b0:Nat} {t:TypeId} {f0 f1 f2 f3 f4 f5:Field} {v:Value} {d:DataW H} {ps:List MemPlace}
  (ht:P.underlying t=some (.struct #[f0,f1,f2,f3,f4,f5])) (ct:P.cellsOf t=6)
  (ho:[f0.offset,f1.offset,f2.offset,f3.offset,f4.offset,f5.offset]=[0,1,2,3,4,5])
  {ti tb:TypeId} (hti:P.underlying ti=some (.int .i64)) (hci:P.cellsOf ti=1) (htb:P.underlying tb=some .bool) (hcb:P.cellsOf tb=1)
  (hty:f0.type=ti/\f1.type=tb/\f2.type=tb/\f3.type=ti/\f4.type=tb/\f5.type=ti)
  (hval:Value.okWide P w r b0 t v) (h:DataW.Trod enc P w base spare held t v d ps) :
  ∃ (R:Int) (D S:Bool) (Q:Int) (C:Bool) (K:Int),v=stV R D S Q C K/\(Lit.int .i64 R).wf=true/\(Lit.int .i64 Q).wf=true/\(Lit.int .i64 K).wf=true:=by
 obtain ⟨cs,rfl,hsz⟩:=okWide_struct ht hval;rw [ct] at hsz;obtain ⟨fuel,hf⟩:=h;simp only [List.cons.injEq,and_true] at ho;obtain ⟨o0,o1,o2,o3,o4,o5⟩:=ho;obtain ⟨t0,t1,t2,t3,t4,t5⟩:=hty;obtain ⟨xs,k,hk,hxy,_,hxl,hfl⟩:=DataW.trod_struct ht hf;obtain ⟨cl⟩:=cs
 match cl,hsz with
 | [v0,v1,v2,v3,v4,v5],_ =>
  match xs,hxl with
  | [y0,y1,y2,y3,y4,y5],_ =>
   have g0:=hfl 0 f0 rfl;have g1:=hfl 1 f1 rfl;have g2:=hfl 2 f2 rfl;have g3:=hfl 3 f3 rfl;have g4:=hfl 4 f4 rfl;have g5:=hfl 5 f5 rfl;rw [o0,t0,hci] at g0;rw [o1,t1,hcb] at g1;rw [o2,t2,hcb] at g2;rw [o3,t3,hci] at g3;rw [o4,t4,hcb] at g4;rw [o5,t5,hci] at g5;obtain ⟨n0,e0,_,w0⟩:=DataW.trod_int hti g0;obtain ⟨n1,e1,_⟩:=DataW.trod_bool htb g1;obtain ⟨n2,e2,_⟩:=DataW.trod_bool htb g2;obtain ⟨n3,e3,_,w3⟩:=DataW.trod_int hti g3;obtain ⟨n4,e4,_⟩:=DataW.trod_bool htb g4;obtain ⟨n5,e5,_,w5⟩:=DataW.trod_int hti g5
   simp [Value.cells] at e0 e1 e2 e3 e4 e5
   subst e0 e1 e2 e3 e4 e5;exact ⟨n0,n1,n2,n3,n4,n5,rfl,w0,w3,w5⟩
end Go.Proofs.YtbogmeeijdaijaaGreatDoor
