/- Joined: Laid, LaidNum, LaidSig, LaidSpk, LvRow. -/
import Derived.Test.YtbogmeeijdaijaaGreatDoorCards
import Derived.Test.YtbogmeeijdaijaaGreatDoorTie
import Derived.Deep.DeepHandedRow
import Derived.SevenTiedAt
import Derived.Lay
import Derived.Deep.DeepWitnessRowRef
import Derived.Lib.LaidU8T
import Derived.LaidSub
import Derived.Test.YtbogmeeijdaijaaGreatDoorZAR
import Derived.Test.YtbogmeeijdaijaaGreatDoorZBA
set_option linter.unusedVariables false
set_option linter.unusedSimpArgs false
set_option linter.unnecessarySimpa false
namespace Go.Proofs.YtbogmeeijdaijaaGreatDoor
open Go.ChangeShapes Go.WideShapes Go.ChangeAt Go.RowKit
theorem qe9 {P:Program} {w:World} : ∀ {l:List (String × DataW Unit)} {ps:List MemPlace},DataW.LaidVars P w l ps->∀ name d,(name,d)∈l ->
  ∃ g t cs fuel p,P.globalNamed name=some g/\(P.globals[g]?).map (·.type)=some t/\w.var? P name=some cs/\DataW.trod (fun _=>()) P w 0 (fun _=>true) false fuel t cs.toList=some (d,p):=by
 intro l
 induction l with
 | nil=>intro ps _ name d h;cases h
 | cons x r ih =>
  intro ps h name d hm;obtain ⟨n0,d0⟩:=x;obtain ⟨g,t,cs,fuel,p,q,hg,ht,hvar,hd,hr,_⟩:=h
  rcases List.mem_cons.1 hm with e | hm
  ·injection e with e1 e2
   subst e1 e2;exact ⟨g,t,cs,fuel,p,hg,ht,hvar,hd⟩
  ·exact ih hr name d hm
theorem qaq {P:Program} {w:World} {l:List (String × DataW Unit)} (h:laidMetH P l w) (hf:(l.filter fun x=>x.2.handleName?.isSome)=[]) (name:String) (d:DataW Unit) (hm:(name,d)∈l) :
  ∃ g t cs fuel p,P.globalNamed name=some g/\(P.globals[g]?).map (·.type)=some t/\w.var? P name=some cs/\DataW.trod (fun _=>()) P w 0 (fun _=>true) false fuel t cs.toList=some (d,p):=by
 unfold laidMetH at h;rw [hf] at h;obtain ⟨ps,hv,_⟩:=h;exact qe9 hv name d hm
theorem qbG {P:Program} {w:World} {t e:TypeId} {n fuel:Nat} {cs:Array Value} {l:List (List UInt8)} {p:List MemPlace} (ht:P.underlying t=some (.array n e)) (he:P.underlying e=some .string) (hC:P.cellsOf e=1)
  (h:DataW.trod (fun _=>()) P w 0 (fun _=>true) false fuel t cs.toList=some (.agg (l.map fun s=>.lit (.string s)),p)) : ∀ i (hi:i<l.length),cs[i]? = some (.string ⟨l[i].toArray⟩):=by
 intro i hi;obtain ⟨xs,m,_,hx,hlen,hn,hat⟩:=DataW.trod_array ht h;simp only [Prod.mk.injEq,DataW.agg.injEq] at hx;obtain ⟨hx,_⟩:=hx;have hxl:l.length=xs.length:=by
  have:=congrArg List.length hx
  simpa using this
 have hi':i<xs.length:=by omega
 have h1:=hat i L0;rw [hC,Nat.mul_one,List.getElem?_eq_getElem hi'] at h1;obtain ⟨s,hs,hy,_⟩:=DataW.trod_string he h1;have h2:(xs.map fun x=>x.1)[i]? = some xs[i].1:=by simp [hi']
 rw [<- hx] at h2;have h3:xs[i].1 = .lit (.string l[i]):=by
  have:(l.map fun s=>(DataW.lit (.string s):DataW Unit))[i]? = some (.lit (.string l[i])):=by simp [hi]
  rw [this] at h2
  injection h2 with h2
  exact h2.symm
 rw [hy] at h3;simp only [DataW.lit.injEq,Lit.string.injEq] at h3;have h4:cs.toList[i]? = some (.string s):=by
  have:=congrArg (·[0]?) hs;simp only [List.getElem?_take,List.getElem?_drop] at this
  simpa using this
 rw [Array.getElem?_toList] at h4;rw [h4,<- h3]
def kc (a n:Nat):List (List UInt8):=(List.range n).map fun i=>(wb (a+i)).data.toList
theorem qh0 {H:Type}:(Rows.laid_narrator_narratorref38_units:DataW H) = .agg ((kc 0 20).map fun s=>.lit (.string s)):=rfl
theorem qiV {H:Type}:(Rows.laid_narrator_narratorref38_tens:DataW H) = .agg ((kc 20 8).map fun s=>.lit (.string s)):=rfl
theorem qcg (a n i:Nat) (h:i<(kc a n).length):Value.string ⟨(kc a n)[i].toArray⟩ = .string (wb (a+i)):=by
 simp [kc]
theorem gUnits : Tryz.prog.globalNamed "narrator/narratorref38.units" = some 2 := by kernel_rfl
theorem gUnitsT:(Tryz.prog.globals[2]?).map (·.type)=some 174:=by kernel_rfl
theorem gTens : Tryz.prog.globalNamed "narrator/narratorref38.tens" = some 3 := by kernel_rfl
theorem gTensT:(Tryz.prog.globals[3]?).map (·.type)=some 175:=by kernel_rfl
theorem tb_of {w:World} {l:List (String × DataW Unit)} (h:laidMetH Tryz.prog l w) (hf:(l.filter fun x=>x.2.handleName?.isSome)=[])
  (h1 : ("narrator/narratorref38.units", Rows.laid_narrator_narratorref38_units) ∈ l) (h2 : ("narrator/narratorref38.tens", Rows.laid_narrator_narratorref38_tens) ∈ l) : Tb w := by
 constructor
 ·intro i hi;obtain ⟨g,t,cs,fuel,p,hg,ht,hvar,hd⟩:=qaq h hf _ _ h1;obtain rfl:=Option.some.inj (gUnits.symm.trans hg);obtain rfl:=Option.some.inj (gUnitsT.symm.trans ht);rw [World.var?_cell hg hvar,qbG Tryz.underlying174 Tryz.underlying9 (by kernel_rfl) (by rw [qh0] at hd;exact hd) i (by simp [kc];omega),qcg,Lo]
 ·intro i hi;obtain ⟨g,t,cs,fuel,p,hg,ht,hvar,hd⟩:=qaq h hf _ _ h2;obtain rfl:=Option.some.inj (gTens.symm.trans hg);obtain rfl:=Option.some.inj (gTensT.symm.trans ht);rw [World.var?_cell hg hvar,qbG Tryz.underlying175 Tryz.underlying9 (by kernel_rfl) (by rw [qiV] at hd;exact hd) i (by simp [kc];omega),qcg]
theorem gSpaceT:(Tryz.prog.globals[0]?).map (·.type)=some 67:=by kernel_rfl
theorem qhW {H:Type}:(Rows.laid_strings_asciiSpace:DataW H)=Lib.tabData .u8 Lib.asciiSpaceTab:=by kernel_rfl
theorem sp_of {w:World} {l:List (String × DataW Unit)} (h:laidMetH Tryz.prog l w) (hf:(l.filter fun x=>x.2.handleName?.isSome)=[])
  (h1 : ("strings.asciiSpace", Rows.laid_strings_asciiSpace) ∈ l) : Sp w := by
 obtain ⟨g,t,cs,fuel,p,hg,ht,hvar,hd⟩:=qaq h hf _ _ h1;obtain rfl:=Option.some.inj (gSpace.symm.trans hg);obtain rfl:=Option.some.inj (gSpaceT.symm.trans ht);rw [qhW] at hd;unfold Sp Lib.TabIs;rw [hvar,<- Lib.cells_of_tab Tryz.underlying67 Tryz.underlying5 (by kernel_rfl) (by kernel_rfl) hd]
theorem sty_data {H:Type}:(Rows.laid_narrator_spokentext_styles:DataW H) = .agg (((List.range 4).map fun i=>(vP i).data.toList).map fun s=>.lit (.string s)):=rfl
theorem gStyles : Tryz.prog.globalNamed "narrator/spokentext.styles" = some 6 := by kernel_rfl
theorem gStylesT:(Tryz.prog.globals[6]?).map (·.type)=some 218:=by kernel_rfl
theorem sty_of {w:World} {l:List (String × DataW Unit)} (h:laidMetH Tryz.prog l w) (hf:(l.filter fun x=>x.2.handleName?.isSome)=[])
  (h1 : ("narrator/spokentext.styles", Rows.laid_narrator_spokentext_styles) ∈ l) : Sty w := by
 intro i hi;obtain ⟨g,t,cs,fuel,p,hg,ht,hvar,hd⟩:=qaq h hf _ _ h1;obtain rfl:=Option.some.inj (gStyles.symm.trans hg);obtain rfl:=Option.some.inj (gStylesT.symm.trans ht);rw [World.var?_cell hg hvar,qbG Tryz.underlying218 Tryz.underlying9 (by kernel_rfl) (by rw [sty_data] at hd;exact hd) i (by simp;omega)]
 simp
set_option maxRecDepth 100000 in
theorem u8_of {w:World} {l:List (String × DataW Unit)} (h:laidMetH Tryz.prog l w) (hf:(l.filter fun x=>x.2.handleName?.isSome)=[])
  (h1 : ("unicode/utf8.first", Rows.laid_unicode_utf8_first) ∈ l) (h2 : ("unicode/utf8.acceptRanges", Rows.laid_unicode_utf8_acceptRanges) ∈ l) : U8 w :=
 utf8Tabs_of_readsT (U8Types.of196 Tryz.laysValid) ⟨by kernel_rfl,by kernel_rfl,by kernel_rfl,by kernel_rfl,by kernel_rfl,by kernel_rfl,by kernel_rfl⟩ (qaq h hf _ _ h1) (qaq h hf _ _ h2)
theorem gd_of {w:World} {l:List (String × DataW Unit)} (h:laidMetH Tryz.prog l w) (hf:(l.filter fun x=>x.2.handleName?.isSome)=[])
  (h1 : ("strings.asciiSpace", Rows.laid_strings_asciiSpace) ∈ l) (h2 : ("narrator/spokentext.styles", Rows.laid_narrator_spokentext_styles) ∈ l) (h3 : ("unicode/utf8.first", Rows.laid_unicode_utf8_first) ∈ l) (h4 : ("unicode/utf8.acceptRanges", Rows.laid_unicode_utf8_acceptRanges) ∈ l) : Gd w :=
 ⟨sp_of h hf h1,u8_of h hf h3 h4,sty_of h hf h2⟩
end Go.Proofs.YtbogmeeijdaijaaGreatDoor
namespace Go.Proofs.YtbogmeeijdaijaaGreatDoor
open Go.ChangeShapes Go.WideShapes Go.ChangeAt Go.RowKit Go.Deep
theorem qgx {H:Type} {enc:TypeId × Value->H} {P:Program} {w:World} {base:Nat} {spare:Nat->Bool} {held:Bool} {k:Nat} {t e:TypeId} {v:Value} {y:DataW H × List MemPlace} (ht:P.underlying t=some (.slice e)) (h:DataW.trod enc P w base spare held k t [v]=some y) :
  ∃ A len cap,v = .slice A len cap:=by
 rcases open_slice ht h with ⟨hcs,_⟩ | ⟨a5,len5,cap5,m5,n5,D5,Pl5,hcs5,_⟩
 ·exact ⟨none,0,0,by simpa using hcs⟩
 ·exact ⟨some a5,len5,cap5,by simpa using hcs5⟩
theorem open_rows {H:Type} {enc:TypeId × Value->H} {P:Program} {w:World} {t e eg:TypeId} {h0 h1 h2:Field} {A:Option Addr} {len cap:Nat} {d:DataW H} {p:List MemPlace}
  (ht:P.underlying t=some (.slice e)) (he:P.underlying e=some (.slice eg)) (ce:P.cellsOf e=1)
  (heg:P.underlying eg=some (.struct #[h0,h1,h2])) (ceg:P.cellsOf eg=3) (hog:[h0.offset,h1.offset,h2.offset]=[0,1,2])
  (hg0:P.underlying h0.type=some .string/\P.cellsOf h0.type=1) (hg1:P.underlying h1.type=some .bool/\P.cellsOf h1.type=1) (hg2:P.underlying h2.type=some (.int .i64)/\P.cellsOf h2.type=1)
  (h:DataW.Trod enc P w 0 (fun _=>true) true t (.slice A len cap) d p) :
  ∃ l:List RowM,l.length=len/\len<=cap/\cap<=maxLen/\RdRs w w.heap.size A len l/\∀ x∈l,∀ g∈x.l,g.text.size<=maxLen/\(Lit.int .i64 g.style).wf=true:=by
 obtain ⟨fuel,hf⟩:=h
 rcases open_slice ht hf with ⟨hcs,_⟩ | ⟨a,len',cap',m,n,D,Pl,hcs',_,hl,hm,hmm,_,hx⟩
 ·simp [Value.cells] at hcs
  obtain ⟨rfl,rfl,rfl⟩:=hcs;exact ⟨[],rfl,Ld _,by unfold maxLen;omega,⟨Rd.none_,fun x hx=>by cases hx⟩,fun s hs=>by cases hs⟩
 ·simp [Value.cells] at hcs'
  obtain ⟨rfl,rfl,rfl⟩:=hcs';simp only [if_true] at hmm;have each : ∀ i,i<m->∃ r:RowM,w.cell? (a.add i)=some (.slice r.A r.l.length r.cap)/\RdG w w.heap.size r/\∀ g∈r.l,g.text.size<=maxLen/\(Lit.int .i64 g.style).wf=true:=by
   intro i hi;obtain ⟨cs',h1',h2'⟩:=hx i hi;rw [ce] at h1';obtain ⟨_,hlen,hcell⟩:=World.cells?_some h1'
   match cs',hlen with
   | [v],_ =>
    obtain ⟨A5,len5,cap5,rfl⟩:=qgx he h2';obtain ⟨lg,q1,q2,q3,q4,q5⟩:=qgG he heg ceg hog hg0 hg1 hg2 ⟨_,h2'⟩;subst q1;refine ⟨⟨lg,A5,cap5⟩,?_,⟨q4,q2,q3⟩,q5⟩;have hcj:=hcell 0 L1;rw [qbC,Nat.mul_one,Nat.add_zero] at hcj;rw [hcj]
    rfl
  obtain ⟨q,hq⟩:=choose_lt each;refine ⟨(List.range len).map q,by simp,hl,hm,⟨⟨by rw [qbg];simp,fun hn=>?_⟩,fun r hr=>?_⟩,fun r hr=>?_⟩
  ·obtain ⟨b,o,spot⟩:=a;have h0:=(hq 0 L0).1;have hspot:spot=none:=by simpa [Addr.add] using World.cell?_spot h0
   subst hspot;refine ⟨b,o,rfl,by simpa [Addr.add] using yY h0,fun j u hu=>?_⟩;have hj:j<len:=by
    have:=(List.getElem?_eq_some_iff.1 hu).1;rw [qbg] at this
    simpa using this
   have h1:=(hq j L0).1;rw [vl] at h1;rw [h1];rw [<- hu]
   simp [zQ,hj]
  ·obtain ⟨i,hi,rfl⟩:=List.mem_map.1 hr;exact (hq i (by have:=List.mem_range.1 hi;omega)).2.1
  ·obtain ⟨i,hi,rfl⟩:=List.mem_map.1 hr;exact (hq i (by have:=List.mem_range.1 hi;omega)).2.2
theorem open_model {H:Type} {enc:TypeId × Value->H} {P:Program} {w:World} {base:Nat} {spare:Nat->Bool} {held:Bool} {r:Reach} {b0:Nat} {t tv tr ti tb te:TypeId} {g0 g1 f0 f1 f2 f3 f4 f5:Field} {v:Value} {d:DataW H} {ps:List MemPlace}
  (hp:P.underlying t=some (.struct #[g0,g1])) (cp:P.cellsOf t=7) (op:[g0.offset,g1.offset]=[0,6]) (typ:g0.type=tv/\g1.type=ti) (cv:P.cellsOf tv=6)
  (ht:P.underlying tv=some (.struct #[f0,f1,f2,f3,f4,f5])) (ho:[f0.offset,f1.offset,f2.offset,f3.offset,f4.offset,f5.offset]=[0,1,2,3,4,5])
  (hti:P.underlying ti=some (.int .i64)) (hci:P.cellsOf ti=1) (htb:P.underlying tb=some .bool) (hcb:P.cellsOf tb=1) (htr:P.underlying tr=some (.slice te)) (hcr:P.cellsOf tr=1)
  (hty:f0.type=ti/\f1.type=ti/\f2.type=tr/\f3.type=ti/\f4.type=ti/\f5.type=tb)
  (hval:Value.okWide P w r b0 t v) (h:DataW.Trod enc P w base spare held t v d ps) :
  ∃ (W Hh:Int) (A:Option Addr) (n c:Nat) (R C:Int) (V:Bool) (U:Int),v = .agg #[.int .i64 W,.int .i64 Hh,.slice A n c,.int .i64 R,.int .i64 C,.bool V,.int .i64 U]/\(∃ d p,DataW.Trod enc P w base spare held tr (.slice A n c) d p) /\
   ((Lit.int .i64 W).wf=true/\(Lit.int .i64 Hh).wf=true/\(Lit.int .i64 R).wf=true/\(Lit.int .i64 C).wf=true/\(Lit.int .i64 U).wf=true):=by
 obtain ⟨cs,rfl,hsz⟩:=okWide_struct hp hval;rw [cp] at hsz;obtain ⟨fuel,hf⟩:=h;simp only [List.cons.injEq,and_true] at op ho;obtain ⟨o0,o1⟩:=op;obtain ⟨q0,q1,q2,q3,q4,q5⟩:=ho;obtain ⟨t0,t1,t2,t3,t4,t5⟩:=hty;obtain ⟨xs,k,hk,hxy,_,hxl,hfl⟩:=DataW.trod_struct hp hf;obtain ⟨cl'⟩:=cs
 match cl',hsz with
 | [v0,v1,v2,v3,v4,v5,v6],_ =>
  match xs,hxl with
  | [y0,y1],_ =>
   have e0:=hfl 0 g0 rfl;have e1:=hfl 1 g1 rfl;rw [o0,typ.1,cv] at e0;rw [o1,typ.2,hci] at e1;have e0':DataW.trod enc P w base spare held k tv [v0,v1,v2,v3,v4,v5]=some y0:=e0;have e1':DataW.trod enc P w base spare held k ti [v6]=some y1:=e1;obtain ⟨U,eU,_,wU⟩:=DataW.trod_int hti e1';obtain ⟨xs',k',hk',hxy',_,hxl',hfl'⟩:=DataW.trod_struct ht e0'
   match xs',hxl' with
   | [z0,z1,z2,z3,z4,z5],_ =>
    have g0':=hfl' 0 f0 rfl;have g1':=hfl' 1 f1 rfl;have g2':=hfl' 2 f2 rfl;have g3':=hfl' 3 f3 rfl;have g4':=hfl' 4 f4 rfl;have g5':=hfl' 5 f5 rfl;rw [q0,t0,hci] at g0';rw [q1,t1,hci] at g1';rw [q2,t2,hcr] at g2';rw [q3,t3,hci] at g3';rw [q4,t4,hci] at g4';rw [q5,t5,hcb] at g5';obtain ⟨n0,a0,_,w0⟩:=DataW.trod_int hti g0';obtain ⟨n1,a1,_,w1⟩:=DataW.trod_int hti g1';obtain ⟨n3,a3,_,w3⟩:=DataW.trod_int hti g3';obtain ⟨n4,a4,_,w4⟩:=DataW.trod_int hti g4';obtain ⟨n5,a5,_⟩:=DataW.trod_bool htb g5';have g2'':DataW.trod enc P w base spare held k' tr [v2]=some z2:=g2';obtain ⟨A,n,c,rfl⟩:=qgx htr g2''
    simp at eU a0 a1 a3 a4 a5
    subst eU a0 a1 a3 a4 a5;exact ⟨n0,n1,A,n,c,n3,n4,n5,U,rfl,⟨z2.1,z2.2,k',g2''⟩,w0,w1,w3,w4,wU⟩
end Go.Proofs.YtbogmeeijdaijaaGreatDoor
