/- Joined: Laid, LaidNum, LaidSig, LaidSpk, GlRow, LvRow, LsRow. -/
import Derived.Test.YtggegijlfaipfaaGreatDoorCards
import Derived.Test.YtggegijlfaipfaaGreatDoorTie
import Derived.Deep.DeepHandedRow
import Derived.SevenTiedAt
import Derived.Lay
import Derived.Deep.DeepWitnessRowRef
import Derived.Lib.LaidU8T
import Derived.LaidSub
import Derived.Deep.Slices
import Derived.Deep.FieldsWide
import Derived.Test.YtggegijlfaipfaaGreatDoorZAS
set_option linter.unusedVariables false
set_option linter.unusedSimpArgs false
set_option linter.unnecessarySimpa false
namespace Go.Proofs.YtggegijlfaipfaaGreatDoor
open Go.ChangeShapes Go.WideShapes Go.ChangeAt Go.RowKit
theorem qe9 {P:Program} {w:World} : ∀ {l:List (String × DataW Unit)} {ps:List MemPlace},DataW.LaidVars P w l ps->∀ name d,(name,d)∈l ->
  ∃ g t cs fuel p,P.globalNamed name=some g/\(P.globals[g]?).map (·.type)=some t/\w.var? P name=some cs/\DataW.trod (fun _=>()) P w 0 (fun _=>true) false fuel t cs.toList=some (d,p):=by
 intro l
 induction l with
 | nil=>intro ps _ name d h;cases h
 | cons x r ih =>
  intro ps h name d hm;obtain ⟨n0,d0⟩:=x;obtain ⟨g,t,cs,fuel,p,q,hg,ht,hvar,hd,hr,_⟩:=h
  rcases List.mem_cons.1 hm with e | hm
  ·injection e with e1 e2
   subst e1 e2;exact ⟨g,t,cs,fuel,p,hg,ht,hvar,hd⟩
  ·exact ih hr name d hm
theorem qaq {P:Program} {w:World} {l:List (String × DataW Unit)} (h:laidMetH P l w) (hf:(l.filter fun x=>x.2.handleName?.isSome)=[]) (name:String) (d:DataW Unit) (hm:(name,d)∈l) :
  ∃ g t cs fuel p,P.globalNamed name=some g/\(P.globals[g]?).map (·.type)=some t/\w.var? P name=some cs/\DataW.trod (fun _=>()) P w 0 (fun _=>true) false fuel t cs.toList=some (d,p):=by
 unfold laidMetH at h;rw [hf] at h;obtain ⟨ps,hv,_⟩:=h;exact qe9 hv name d hm
theorem qbG {P:Program} {w:World} {t e:TypeId} {n fuel:Nat} {cs:Array Value} {l:List (List UInt8)} {p:List MemPlace} (ht:P.underlying t=some (.array n e)) (he:P.underlying e=some .string) (hC:P.cellsOf e=1)
  (h:DataW.trod (fun _=>()) P w 0 (fun _=>true) false fuel t cs.toList=some (.agg (l.map fun s=>.lit (.string s)),p)) : ∀ i (hi:i<l.length),cs[i]? = some (.string ⟨l[i].toArray⟩):=by
 intro i hi;obtain ⟨xs,m,_,hx,qnQ,hn,hat⟩:=DataW.trod_array ht h;simp only [Prod.mk.injEq,DataW.agg.injEq] at hx;obtain ⟨hx,_⟩:=hx;have hxl:l.length=xs.length:=by
  have:=congrArg List.length hx
  simpa using this
 have hi':i<xs.length:=by omega
 have h1:=hat i L0;rw [hC,Nat.mul_one,List.getElem?_eq_getElem hi'] at h1;obtain ⟨s,hs,hy,_⟩:=DataW.trod_string he h1;have h2:(xs.map fun x=>x.1)[i]? = some xs[i].1:=by simp [hi']
 rw [<- hx] at h2;have h3:xs[i].1 = .lit (.string l[i]):=by
  have:(l.map fun s=>(DataW.lit (.string s):DataW Unit))[i]? = some (.lit (.string l[i])):=by simp [hi]
  rw [this] at h2
  injection h2 with h2
  exact h2.symm
 rw [hy] at h3;simp only [DataW.lit.injEq,Lit.string.injEq] at h3;have h4:cs.toList[i]? = some (.string s):=by
  have:=congrArg (·[0]?) hs;simp only [List.getElem?_take,List.getElem?_drop] at this
  simpa using this
 rw [Array.getElem?_toList] at h4;rw [h4,<- h3]
def kc (a n:Nat):List (List UInt8):=(List.range n).map fun i=>(wb (a+i)).data.toList
theorem qh0 {H:Type}:(Rows.laid_narrator_narratorref38_units:DataW H) = .agg ((kc 0 20).map fun s=>.lit (.string s)):=rfl
theorem qiV {H:Type}:(Rows.laid_narrator_narratorref38_tens:DataW H) = .agg ((kc 20 8).map fun s=>.lit (.string s)):=rfl
theorem qcg (a n i:Nat) (h:i<(kc a n).length):Value.string ⟨(kc a n)[i].toArray⟩ = .string (wb (a+i)):=by
 simp [kc]
theorem gUnits : Tryz.prog.globalNamed "narrator/narratorref38.units" = some 4 := by kernel_rfl
theorem gUnitsT:(Tryz.prog.globals[4]?).map (·.type)=some 198:=by kernel_rfl
theorem gTens : Tryz.prog.globalNamed "narrator/narratorref38.tens" = some 5 := by kernel_rfl
theorem gTensT:(Tryz.prog.globals[5]?).map (·.type)=some 199:=by kernel_rfl
theorem tb_of {w:World} {l:List (String × DataW Unit)} (h:laidMetH Tryz.prog l w) (hf:(l.filter fun x=>x.2.handleName?.isSome)=[])
  (h1 : ("narrator/narratorref38.units", Rows.laid_narrator_narratorref38_units) ∈ l) (h2 : ("narrator/narratorref38.tens", Rows.laid_narrator_narratorref38_tens) ∈ l) : Tb w := by
 constructor
 ·intro i hi;obtain ⟨g,t,cs,fuel,p,hg,ht,hvar,hd⟩:=qaq h hf _ _ h1;obtain rfl:=Option.some.inj (gUnits.symm.trans hg);obtain rfl:=Option.some.inj (gUnitsT.symm.trans ht);rw [World.var?_cell hg hvar,qbG Tryz.underlying198 Tryz.underlying9 (by kernel_rfl) (by rw [qh0] at hd;exact hd) i (by simp [kc];omega),qcg,Lo]
 ·intro i hi;obtain ⟨g,t,cs,fuel,p,hg,ht,hvar,hd⟩:=qaq h hf _ _ h2;obtain rfl:=Option.some.inj (gTens.symm.trans hg);obtain rfl:=Option.some.inj (gTensT.symm.trans ht);rw [World.var?_cell hg hvar,qbG Tryz.underlying199 Tryz.underlying9 (by kernel_rfl) (by rw [qiV] at hd;exact hd) i (by simp [kc];omega),qcg]
theorem gSpaceT:(Tryz.prog.globals[0]?).map (·.type)=some 64:=by kernel_rfl
theorem qhW {H:Type}:(Rows.laid_strings_asciiSpace:DataW H)=Lib.tabData .u8 Lib.asciiSpaceTab:=by kernel_rfl
theorem sp_of {w:World} {l:List (String × DataW Unit)} (h:laidMetH Tryz.prog l w) (hf:(l.filter fun x=>x.2.handleName?.isSome)=[])
  (h1 : ("strings.asciiSpace", Rows.laid_strings_asciiSpace) ∈ l) : Sp w := by
 obtain ⟨g,t,cs,fuel,p,hg,ht,hvar,hd⟩:=qaq h hf _ _ h1;obtain rfl:=Option.some.inj (gSpace.symm.trans hg);obtain rfl:=Option.some.inj (gSpaceT.symm.trans ht);rw [qhW] at hd;unfold Sp Lib.TabIs;rw [hvar,<- Lib.cells_of_tab Tryz.underlying64 Tryz.underlying5 (by kernel_rfl) (by kernel_rfl) hd]
theorem sty_data {H:Type}:(Rows.laid_narrator_spokentext_styles:DataW H) = .agg (((List.range 4).map fun i=>(vP i).data.toList).map fun s=>.lit (.string s)):=rfl
theorem gStyles : Tryz.prog.globalNamed "narrator/spokentext.styles" = some 6 := by kernel_rfl
theorem gStylesT:(Tryz.prog.globals[6]?).map (·.type)=some 214:=by kernel_rfl
theorem sty_of {w:World} {l:List (String × DataW Unit)} (h:laidMetH Tryz.prog l w) (hf:(l.filter fun x=>x.2.handleName?.isSome)=[])
  (h1 : ("narrator/spokentext.styles", Rows.laid_narrator_spokentext_styles) ∈ l) : Sty w := by
 intro i hi;obtain ⟨g,t,cs,fuel,p,hg,ht,hvar,hd⟩:=qaq h hf _ _ h1;obtain rfl:=Option.some.inj (gStyles.symm.trans hg);obtain rfl:=Option.some.inj (gStylesT.symm.trans ht);rw [World.var?_cell hg hvar,qbG Tryz.underlying214 Tryz.underlying9 (by kernel_rfl) (by rw [sty_data] at hd;exact hd) i (by simp;omega)]
 simp
set_option maxRecDepth 100000 in
theorem u8_of {w:World} {l:List (String × DataW Unit)} (h:laidMetH Tryz.prog l w) (hf:(l.filter fun x=>x.2.handleName?.isSome)=[])
  (h1 : ("unicode/utf8.first", Rows.laid_unicode_utf8_first) ∈ l) (h2 : ("unicode/utf8.acceptRanges", Rows.laid_unicode_utf8_acceptRanges) ∈ l) : U8 w :=
 utf8Tabs_of_readsT (U8Types.of196 Tryz.laysValid) ⟨by kernel_rfl,by kernel_rfl,by kernel_rfl,by kernel_rfl,by kernel_rfl,by kernel_rfl,by kernel_rfl⟩ (qaq h hf _ _ h1) (qaq h hf _ _ h2)
theorem gd_of {w:World} {l:List (String × DataW Unit)} (h:laidMetH Tryz.prog l w) (hf:(l.filter fun x=>x.2.handleName?.isSome)=[])
  (h1 : ("strings.asciiSpace", Rows.laid_strings_asciiSpace) ∈ l) (h2 : ("narrator/spokentext.styles", Rows.laid_narrator_spokentext_styles) ∈ l) (h3 : ("unicode/utf8.first", Rows.laid_unicode_utf8_first) ∈ l) (h4 : ("unicode/utf8.acceptRanges", Rows.laid_unicode_utf8_acceptRanges) ∈ l) : Gd w :=
 ⟨sp_of h hf h1,u8_of h hf h3 h4,sty_of h hf h2⟩
end Go.Proofs.YtggegijlfaipfaaGreatDoor
namespace Go.Proofs.YtggegijlfaipfaaGreatDoor
open Go.ChangeShapes Go.WideShapes Go.ChangeAt Go.RowKit Go.Deep
theorem open_gls {H:Type} {enc:TypeId × Value->H} {P:Program} {w:World} {t e:TypeId} {f0 f1 f2:Field} {A:Option Addr} {len cap:Nat} {d:DataW H} {p:List MemPlace}
  (ht:P.underlying t=some (.slice e)) (he:P.underlying e=some (.struct #[f0,f1,f2])) (ce:P.cellsOf e=3)
  (ho:[f0.offset,f1.offset,f2.offset]=[0,1,2])
  (ht0:P.underlying f0.type=some .string/\P.cellsOf f0.type=1) (ht1:P.underlying f1.type=some .bool/\P.cellsOf f1.type=1) (ht2:P.underlying f2.type=some (.int .i64)/\P.cellsOf f2.type=1)
  (h:DataW.Trod enc P w 0 (fun _=>true) true t (.slice A len cap) d p) :
  ∃ l:List Gl,l.length=len/\len<=cap/\cap<=maxLen/\Rd w w.heap.size 3 A len (qi l)/\∀ g∈l,g.text.size<=maxLen/\(Lit.int .i64 g.style).wf=true:=by
 obtain ⟨fuel,hf⟩:=h;simp only [List.cons.injEq,and_true] at ho;obtain ⟨o0,o1,o2⟩:=ho
 rcases open_slice ht hf with ⟨hcs,_⟩ | ⟨a,len',cap',m,n,D,Pl,hcs',_,hl,hm,hmm,_,hx⟩
 ·simp [Value.cells] at hcs
  obtain ⟨rfl,rfl,rfl⟩:=hcs;exact ⟨[],rfl,Ld _,by unfold maxLen;omega,Rd.none_,fun s hs=>by cases hs⟩
 ·simp [Value.cells] at hcs'
  obtain ⟨rfl,rfl,rfl⟩:=hcs';simp only [if_true] at hmm;have each : ∀ i,i<m->∃ r:Gl,(∀ j u,(ym r)[j]? = some u->w.cell? (a.add (i * 3+j))=some u)/\r.text.size<=maxLen/\(Lit.int .i64 r.style).wf=true:=by
   intro i hi;obtain ⟨cs',h1,h2⟩:=hx i hi;rw [ce] at h1;obtain ⟨_,qnQ,qnM⟩:=World.cells?_some h1;obtain ⟨xs,k,hk,hxy,_,hxl,hfl⟩:=DataW.trod_struct he h2
   match cs',qnQ with
   | [v0,v1,v2],_ =>
    match xs,hxl with
    | [y0,y1,y2],_ =>
     have g0:=hfl 0 f0 rfl;have g1:=hfl 1 f1 rfl;have g2:=hfl 2 f2 rfl;rw [o0,ht0.2] at g0;rw [o1,ht1.2] at g1;rw [o2,ht2.2] at g2;obtain ⟨s,e0,_,hz⟩:=DataW.trod_string ht0.1 g0;obtain ⟨b,e1,_⟩:=DataW.trod_bool ht1.1 g1;obtain ⟨n2,e2,_,hw⟩:=DataW.trod_int ht2.1 g2
     simp at e0 e1 e2
     subst e0 e1 e2;refine ⟨⟨s,b,n2⟩,fun j u hu=>?_,hz,hw⟩;have hj:j<3:=by
      have:=(List.getElem?_eq_some_iff.1 hu).1
      rwa [yU] at this
     have hcj:=qnM j hj;rw [qbC] at hcj;rw [hcj];exact hu
  obtain ⟨q,hq⟩:=choose_lt each;refine ⟨(List.range len).map q,by simp,hl,hm,⟨by rw [qbi];simp,fun hn=>?_⟩,fun r hr=>?_⟩
  ·obtain ⟨b,o,spot⟩:=a;have h0:=(hq 0 L0).1 0 _ rfl;have hspot:spot=none:=by simpa [Addr.add] using World.cell?_spot h0
   subst hspot;refine ⟨b,o,rfl,by simpa [Addr.add] using yY h0,fun j u hu=>?_⟩;have hj:j<len * 3:=by
    have:=(List.getElem?_eq_some_iff.1 hu).1;rw [qbi] at this
    simpa using this
   have e:j=j / 3 * 3+j % 3:=by omega
   rw [e,qcy _ _ _ L0] at hu;rw [List.getElem?_map,List.getElem?_range (show j / 3<len by omega)] at hu;have h1:=(hq (j / 3) L0).1 (j % 3) u (by simpa using hu);rw [vl] at h1;rw [e];exact h1
  ·obtain ⟨i,hi,rfl⟩:=List.mem_map.1 hr;exact (hq i (by have:=List.mem_range.1 hi;omega)).2
theorem qgx {H:Type} {enc:TypeId × Value->H} {P:Program} {w:World} {base:Nat} {spare:Nat->Bool} {held:Bool} {k:Nat} {t e:TypeId} {v:Value} {y:DataW H × List MemPlace} (ht:P.underlying t=some (.slice e)) (h:DataW.trod enc P w base spare held k t [v]=some y) :
  ∃ A len cap,v = .slice A len cap:=by
 rcases open_slice ht h with ⟨hcs,_⟩ | ⟨a5,len5,cap5,m5,n5,D5,Pl5,hcs5,_⟩
 ·exact ⟨none,0,0,by simpa using hcs⟩
 ·exact ⟨some a5,len5,cap5,by simpa using hcs5⟩
theorem open_rows {H:Type} {enc:TypeId × Value->H} {P:Program} {w:World} {t e eg:TypeId} {h0 h1 h2:Field} {A:Option Addr} {len cap:Nat} {d:DataW H} {p:List MemPlace}
  (ht:P.underlying t=some (.slice e)) (he:P.underlying e=some (.slice eg)) (ce:P.cellsOf e=1)
  (heg:P.underlying eg=some (.struct #[h0,h1,h2])) (ceg:P.cellsOf eg=3) (hog:[h0.offset,h1.offset,h2.offset]=[0,1,2])
  (hg0:P.underlying h0.type=some .string/\P.cellsOf h0.type=1) (hg1:P.underlying h1.type=some .bool/\P.cellsOf h1.type=1) (hg2:P.underlying h2.type=some (.int .i64)/\P.cellsOf h2.type=1)
  (h:DataW.Trod enc P w 0 (fun _=>true) true t (.slice A len cap) d p) :
  ∃ l:List RowM,l.length=len/\len<=cap/\cap<=maxLen/\RdRs w w.heap.size A len l/\∀ x∈l,∀ g∈x.l,g.text.size<=maxLen/\(Lit.int .i64 g.style).wf=true:=by
 obtain ⟨fuel,hf⟩:=h
 rcases open_slice ht hf with ⟨hcs,_⟩ | ⟨a,len',cap',m,n,D,Pl,hcs',_,hl,hm,hmm,_,hx⟩
 ·simp [Value.cells] at hcs
  obtain ⟨rfl,rfl,rfl⟩:=hcs;exact ⟨[],rfl,Ld _,by unfold maxLen;omega,⟨Rd.none_,fun x hx=>by cases hx⟩,fun s hs=>by cases hs⟩
 ·simp [Value.cells] at hcs'
  obtain ⟨rfl,rfl,rfl⟩:=hcs';simp only [if_true] at hmm;have each : ∀ i,i<m->∃ r:RowM,w.cell? (a.add i)=some (.slice r.A r.l.length r.cap)/\RdG w w.heap.size r/\∀ g∈r.l,g.text.size<=maxLen/\(Lit.int .i64 g.style).wf=true:=by
   intro i hi;obtain ⟨cs',h1',h2'⟩:=hx i hi;rw [ce] at h1';obtain ⟨_,qnQ,qnM⟩:=World.cells?_some h1'
   match cs',qnQ with
   | [v],_ =>
    obtain ⟨A5,len5,cap5,rfl⟩:=qgx he h2';obtain ⟨lg,q1,q2,q3,q4,q5⟩:=open_gls he heg ceg hog hg0 hg1 hg2 ⟨_,h2'⟩;subst q1;refine ⟨⟨lg,A5,cap5⟩,?_,⟨q4,q2,q3⟩,q5⟩;have hcj:=qnM 0 L1;rw [qbC,Nat.mul_one,Nat.add_zero] at hcj;rw [hcj]
    rfl
  obtain ⟨q,hq⟩:=choose_lt each;refine ⟨(List.range len).map q,by simp,hl,hm,⟨⟨by rw [qbg];simp,fun hn=>?_⟩,fun r hr=>?_⟩,fun r hr=>?_⟩
  ·obtain ⟨b,o,spot⟩:=a;have h0:=(hq 0 L0).1;have hspot:spot=none:=by simpa [Addr.add] using World.cell?_spot h0
   subst hspot;refine ⟨b,o,rfl,by simpa [Addr.add] using yY h0,fun j u hu=>?_⟩;have hj:j<len:=by
    have:=(List.getElem?_eq_some_iff.1 hu).1;rw [qbg] at this
    simpa using this
   have h1:=(hq j L0).1;rw [vl] at h1;rw [h1];rw [<- hu]
   simp [zQ,hj]
  ·obtain ⟨i,hi,rfl⟩:=List.mem_map.1 hr;exact (hq i (by have:=List.mem_range.1 hi;omega)).2.1
  ·obtain ⟨i,hi,rfl⟩:=List.mem_map.1 hr;exact (hq i (by have:=List.mem_range.1 hi;omega)).2.2
theorem open_model {H:Type} {enc:TypeId × Value->H} {P:Program} {w:World} {base:Nat} {spare:Nat->Bool} {held:Bool} {r:Reach} {b0:Nat} {t tv tr ti tb te:TypeId} {g0 g1 f0 f1 f2 f3 f4 f5:Field} {v:Value} {d:DataW H} {ps:List MemPlace}
  (hp:P.underlying t=some (.struct #[g0,g1])) (cp:P.cellsOf t=7) (op:[g0.offset,g1.offset]=[0,6]) (typ:g0.type=tv/\g1.type=ti) (cv:P.cellsOf tv=6)
  (ht:P.underlying tv=some (.struct #[f0,f1,f2,f3,f4,f5])) (ho:[f0.offset,f1.offset,f2.offset,f3.offset,f4.offset,f5.offset]=[0,1,2,3,4,5])
  (hti:P.underlying ti=some (.int .i64)) (hci:P.cellsOf ti=1) (htb:P.underlying tb=some .bool) (hcb:P.cellsOf tb=1) (htr:P.underlying tr=some (.slice te)) (hcr:P.cellsOf tr=1)
  (hty:f0.type=ti/\f1.type=ti/\f2.type=tr/\f3.type=ti/\f4.type=ti/\f5.type=tb)
  (hval:Value.okWide P w r b0 t v) (h:DataW.Trod enc P w base spare held t v d ps) :
  ∃ (W Hh:Int) (A:Option Addr) (n c:Nat) (R C:Int) (V:Bool) (U:Int),v = .agg #[.int .i64 W,.int .i64 Hh,.slice A n c,.int .i64 R,.int .i64 C,.bool V,.int .i64 U]/\(∃ d p,DataW.Trod enc P w base spare held tr (.slice A n c) d p) /\
   ((Lit.int .i64 W).wf=true/\(Lit.int .i64 Hh).wf=true/\(Lit.int .i64 R).wf=true/\(Lit.int .i64 C).wf=true/\(Lit.int .i64 U).wf=true):=by
 obtain ⟨cs,rfl,hsz⟩:=okWide_struct hp hval;rw [cp] at hsz;obtain ⟨fuel,hf⟩:=h;simp only [List.cons.injEq,and_true] at op ho;obtain ⟨o0,o1⟩:=op;obtain ⟨q0,q1,q2,q3,q4,q5⟩:=ho;obtain ⟨t0,t1,t2,t3,t4,t5⟩:=hty;obtain ⟨xs,k,hk,hxy,_,hxl,hfl⟩:=DataW.trod_struct hp hf;obtain ⟨cl'⟩:=cs
 match cl',hsz with
 | [v0,v1,v2,v3,v4,v5,v6],_ =>
  match xs,hxl with
  | [y0,y1],_ =>
   have e0:=hfl 0 g0 rfl;have e1:=hfl 1 g1 rfl;rw [o0,typ.1,cv] at e0;rw [o1,typ.2,hci] at e1;have e0':DataW.trod enc P w base spare held k tv [v0,v1,v2,v3,v4,v5]=some y0:=e0;have e1':DataW.trod enc P w base spare held k ti [v6]=some y1:=e1;obtain ⟨U,eU,_,wU⟩:=DataW.trod_int hti e1';obtain ⟨xs',k',hk',hxy',_,hxl',hfl'⟩:=DataW.trod_struct ht e0'
   match xs',hxl' with
   | [z0,z1,z2,z3,z4,z5],_ =>
    have g0':=hfl' 0 f0 rfl;have g1':=hfl' 1 f1 rfl;have g2':=hfl' 2 f2 rfl;have g3':=hfl' 3 f3 rfl;have g4':=hfl' 4 f4 rfl;have g5':=hfl' 5 f5 rfl;rw [q0,t0,hci] at g0';rw [q1,t1,hci] at g1';rw [q2,t2,hcr] at g2';rw [q3,t3,hci] at g3';rw [q4,t4,hci] at g4';rw [q5,t5,hcb] at g5';obtain ⟨n0,a0,_,w0⟩:=DataW.trod_int hti g0';obtain ⟨n1,a1,_,w1⟩:=DataW.trod_int hti g1';obtain ⟨n3,a3,_,w3⟩:=DataW.trod_int hti g3';obtain ⟨n4,a4,_,w4⟩:=DataW.trod_int hti g4';obtain ⟨n5,a5,_⟩:=DataW.trod_bool htb g5';have g2'':DataW.trod enc P w base spare held k' tr [v2]=some z2:=g2';obtain ⟨A,n,c,rfl⟩:=qgx htr g2''
    simp at eU a0 a1 a3 a4 a5
    subst eU a0 a1 a3 a4 a5;exact ⟨n0,n1,A,n,c,n3,n4,n5,U,rfl,⟨z2.1,z2.2,k',g2''⟩,w0,w1,w3,w4,wU⟩
theorem open_spks {H:Type} {enc:TypeId × Value->H} {P:Program} {w:World} {t e tu ti tb tw ts tc ec:TypeId} {f0 f1 f2 f3 g0 g1 g2 g3 g4:Field} {A:Option Addr} {len cap:Nat} {d:DataW H} {p:List MemPlace}
  (ht:P.underlying t=some (.slice e)) (he:P.underlying e=some (.struct #[f0,f1,f2,f3])) (ce:P.cellsOf e=8) (ho:[f0.offset,f1.offset,f2.offset,f3.offset]=[0,5,6,7]) (hty:f0.type=tu/\f1.type=ti/\f2.type=ti/\f3.type=tb)
  (hu:P.underlying tu=some (.struct #[g0,g1,g2,g3,g4])) (cu:P.cellsOf tu=5) (hou:[g0.offset,g1.offset,g2.offset,g3.offset,g4.offset]=[0,1,2,3,4]) (htu:g0.type=tw/\g1.type=tc/\g2.type=ti/\g3.type=ti/\g4.type=ti)
  (hti:P.underlying ti=some (.int .i64)) (hci:P.cellsOf ti=1) (htb:P.underlying tb=some .bool) (hcb:P.cellsOf tb=1)
  (htw:P.underlying tw=some (.slice ts)) (hcw:P.cellsOf tw=1) (hts:P.underlying ts=some .string) (hcs:P.cellsOf ts=1) (htc:P.underlying tc=some (.slice ec)) (hcc:P.cellsOf tc=1)
  (h:DataW.Trod enc P w 0 (fun _=>true) true t (.slice A len cap) d p) :
  ∃ l:List SpkM,l.length=len/\len<=cap/\cap<=maxLen/\RdS w w.heap.size A len l:=by
 obtain ⟨fuel,hf⟩:=h;simp only [List.cons.injEq,and_true] at ho hou;obtain ⟨o0,o1,o2,o3⟩:=ho;obtain ⟨q0,q1,q2,q3,q4⟩:=hou;obtain ⟨t0,t1,t2,t3⟩:=hty;obtain ⟨u0,u1,u2,u3,u4⟩:=htu
 rcases open_slice ht hf with ⟨hcs',_⟩ | ⟨a,len',cap',m,n,D,Pl,hcs',_,hl,hm,hmm,_,hx⟩
 ·simp [Value.cells] at hcs'
  obtain ⟨rfl,rfl,rfl⟩:=hcs';exact ⟨[],rfl,Ld _,by unfold maxLen;omega,⟨Rd.none_,fun x hx=>by cases hx⟩⟩
 ·simp [Value.cells] at hcs'
  obtain ⟨rfl,rfl,rfl⟩:=hcs';simp only [if_true] at hmm;have each : ∀ i,i<m->∃ r:SpkM,(∀ j u,(encK r)[j]? = some u->w.cell? (a.add (i * 8+j))=some u)/\RdW w w.heap.size r:=by
   intro i hi;obtain ⟨cs',h1',h2'⟩:=hx i hi;rw [ce] at h1';obtain ⟨_,qnQ,qnM⟩:=World.cells?_some h1';obtain ⟨xs,k,hk,hxy,_,hxl,hfl⟩:=DataW.trod_struct he h2'
   match cs',qnQ with
   | [v0,v1,v2,v3,v4,v5,v6,v7],_ =>
    match xs,hxl with
    | [y0,y1,y2,y3],_ =>
     have s0:=hfl 0 f0 rfl;have s1:=hfl 1 f1 rfl;have s2:=hfl 2 f2 rfl;have s3:=hfl 3 f3 rfl;rw [o0,t0,cu] at s0;rw [o1,t1,hci] at s1;rw [o2,t2,hci] at s2;rw [o3,t3,hcb] at s3;obtain ⟨n5,e5,_,_⟩:=DataW.trod_int hti s1;obtain ⟨n6,e6,_,_⟩:=DataW.trod_int hti s2;obtain ⟨b7,e7,_⟩:=DataW.trod_bool htb s3;have s0':DataW.trod enc P w 0 (fun _=>true) true k tu [v0,v1,v2,v3,v4]=some y0:=s0;obtain ⟨xs',k',hk',hxy',_,hxl',hfl'⟩:=DataW.trod_struct hu s0'
     match xs',hxl' with
     | [z0,z1,z2,z3,z4],_ =>
      have r0:=hfl' 0 g0 rfl;have r1:=hfl' 1 g1 rfl;have r2:=hfl' 2 g2 rfl;have r3:=hfl' 3 g3 rfl;have r4:=hfl' 4 g4 rfl;rw [q0,u0,hcw] at r0;rw [q1,u1,hcc] at r1;rw [q2,u2,hci] at r2;rw [q3,u3,hci] at r3;rw [q4,u4,hci] at r4;obtain ⟨n2,e2,_,_⟩:=DataW.trod_int hti r2;obtain ⟨n3,e3,_,_⟩:=DataW.trod_int hti r3;obtain ⟨n4,e4,_,_⟩:=DataW.trod_int hti r4;have r0':DataW.trod enc P w 0 (fun _=>true) true k' tw [v0]=some z0:=r0;have r1':DataW.trod enc P w 0 (fun _=>true) true k' tc [v1]=some z1:=r1;obtain ⟨Aw,nw,cw,rfl⟩:=qgx htw r0';obtain ⟨Ac,nc,cc,rfl⟩:=qgx htc r1';obtain ⟨ws,p1,p2,p3,p4,p5⟩:=qnt (d:=z0.1) (p:=z0.2) htw hts hcs ⟨k',r0'⟩
      simp at e2 e3 e4 e5 e6 e7
      subst e2 e3 e4 e5 e6 e7;subst p1;refine ⟨⟨b7,ws,Aw,cw,Ac,nc,cc,n2,n3,n4,n5,n6⟩,fun j u hu=>?_,p4,p2,p3,p5⟩;have hj:j<8:=by
       have:=(List.getElem?_eq_some_iff.1 hu).1
       rwa [qbU] at this
      have hcj:=qnM j hj;rw [qbC] at hcj;rw [hcj];exact hu
  obtain ⟨q,hq⟩:=choose_lt each;refine ⟨(List.range len).map q,by simp,hl,hm,⟨⟨by rw [qep];simp,fun hn=>?_⟩,fun r hr=>?_⟩⟩
  ·obtain ⟨b,o,spot⟩:=a;have h0:=(hq 0 L0).1 0 _ rfl;have hspot:spot=none:=by simpa [Addr.add] using World.cell?_spot h0
   subst hspot;refine ⟨b,o,rfl,by simpa [Addr.add] using yY h0,fun j u hu=>?_⟩;have hj:j<len * 8:=by
    have:=(List.getElem?_eq_some_iff.1 hu).1;rw [qep] at this
    simpa using this
   have e:j=j / 8 * 8+j % 8:=by omega
   rw [e,qex _ _ _ L0] at hu;rw [List.getElem?_map,List.getElem?_range (show j / 8<len by omega)] at hu;have h1:=(hq (j / 8) L0).1 (j % 8) u (by simpa using hu);rw [vl] at h1;rw [e];exact h1
  ·obtain ⟨i,hi,rfl⟩:=List.mem_map.1 hr;exact (hq i (by have:=List.mem_range.1 hi;omega)).2
end Go.Proofs.YtggegijlfaipfaaGreatDoor
