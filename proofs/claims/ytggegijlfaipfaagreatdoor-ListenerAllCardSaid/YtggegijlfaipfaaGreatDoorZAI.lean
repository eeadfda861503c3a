/- Joined: PaC, PaD, PaF, Ur3, Ur4. -/
import Derived.LoopN
import Derived.Test.YtggegijlfaipfaaGreatDoorZAH
set_option linter.unusedVariables false
set_option linter.unusedSimpArgs false
set_option linter.unnecessarySimpa false
set_option maxHeartbeats 4000000
namespace Go.Proofs.YtggegijlfaipfaaGreatDoor
open Go.Proofs.Tryz Go.RowKit
set_option maxRecDepth 20000
def PaK2 (p:Prs):Prop:=PaK p/\p.words.length<=850000
theorem qfu {l:List ByteArray} {x:Int × Nat} (h:charW l=some x):prefixL l=none:=by
 cases hp:prefixL l with
 | none=>rfl
 | some y =>
  obtain ⟨n,k⟩:=y;obtain ⟨hk0,hkl,_,qmJ,_⟩:=zF hp;obtain ⟨h1,h2,hw,_⟩:=vp qmJ
  cases l with
  | nil=>cases h
  | cons a t =>
   obtain ⟨m,rfl⟩ : ∃ m,k=m+1:=⟨k-1,by omega⟩
   rw [List.take_succ_cons] at hw
   cases hws:qm n with
   | nil=>rw [hws] at hw;cases hw
   | cons j u =>
    rw [hws,List.map_cons] at hw
    injection hw with hw _
    have hj:=jT n h1 h2 j (by rw [hws];simp);rw [<- hw,qbZ hj] at h
    cases h
theorem encN_len (r:Nat):(vQ r).length<=4:=by
 unfold vQ
 repeat' split
 all_goals simp
theorem qet (r:Nat):(kt r).size<=4:=by
 unfold kt
 show (List.toArray _).size<=_
 rw [List.size_toArray,Lq];exact encN_len r
theorem qkd (j:Bool) (st:Int) (s:ByteArray):(vm j st s).length<=s.size+1:=by
 have h:s.data.toList.length=s.size:=by simp
 unfold vm;rw [Lf,Lq,h]
 split <;> simp <;> omega
theorem qiT {j:Bool} {st:Int} {s:ByteArray} : ∀ x∈vm j st s,x.text.size=1:=by
 intro x hx;unfold vm at hx
 rcases List.mem_append.1 hx with hx | hx
 ·split at hx
  ·rw [List.mem_singleton] at hx;subst hx;rfl
  ·cases hx
 ·obtain ⟨c,_,rfl⟩:=List.mem_map.1 hx
  rfl
theorem PaK2.text {p:Prs} (h:PaK2 p) {s:ByteArray} {k:Nat} (hk:0<k) (hkl:k<=p.words.length) (hs:s.size+1<=1100 * k):PaK2 (kN p s k):=by
 obtain ⟨⟨h1,h2,h3⟩,h4⟩:=h;have hl:(p.words.drop k).length=p.words.length-k:=List.length_drop;have ht:=qkd p.joins p.style s;refine ⟨⟨fun x hx=>h1 x (List.mem_of_mem_drop hx),?_,fun x hx=>?_⟩,?_⟩
 ·show (p.out++vm p.joins p.style s).length+1100 * (p.words.drop k).length<=_
  rw [Lf,hl]
  omega
 ·show _+8 * (p.words.drop k).length<=_
  rw [hl]
  rcases List.mem_append.1 hx with hx | hx
  ·have:=h3 x hx;omega
  ·have:=qiT x hx;omega
 ·show (p.words.drop k).length<=_
  omega
theorem qgU {s:ByteArray} {r:Int} (h:((ye s r).2==0)=true):(ye s r).1.size<=s.size+4:=by
 unfold ye at *
 split at h
 ·rename_i hc
  exact absurd (beq_iff_eq.1 h) hc
 ·split at h
  ·exact absurd (beq_iff_eq.1 h) L2
  ·split at h
   ·exact absurd (beq_iff_eq.1 h) L2
   ·rename_i h1 h2 h3
    rw [if_neg h1,if_neg h2,if_neg h3,ByteArray.size_append];have:=qet r.toNat
    show s.size+_<=_
    omega
theorem PaK2.add {p:Prs} (h:PaK2 p) {r:Int} {times n:Nat} (ht:times<=132) (hn:0<n) (hnl:n<=p.words.length) (ha:(vV p.out p.style r times).1=true):PaK2 ⟨p.words.drop n,(vV p.out p.style r times).2,p.style,false⟩:=by
 obtain ⟨⟨h1,h2,h3⟩,h4⟩:=h;have hl:(p.words.drop n).length=p.words.length-n:=List.length_drop;have key:(vV p.out p.style r times).2.length<=p.out.length+132/\∀ x∈(vV p.out p.style r times).2,x.text.size+8 * p.words.length<=8000008:=by
  unfold vV at *
  split at ha
  ·cases ha
  ·split at ha
   ·split at ha
    ·cases ha
    ·rename_i hw1 hw2 hw3
     rw [if_neg hw1,if_pos hw2,if_neg hw3]
     cases hg:p.out.getLast? with
     | none=>rw [hg] at ha;cases ha
     | some g =>
      rw [hg] at ha;simp only at ha ⊢;have hz:=qgU ha;have hne:p.out≠[]:=by rintro e;rw [e] at hg;cases hg
      have hgm:g∈p.out:=by
       rw [List.getLast?_eq_some_getLast hne] at hg
       injection hg with hg
       rw [<- hg];exact List.getLast_mem hne
      have:=h3 g hgm;refine ⟨by rw [Lf,List.length_dropLast,Lz];omega,fun x hx=>?_⟩
      rcases List.mem_append.1 hx with hx | hx
      ·have:=h3 x (List.dropLast_subset _ hx);omega
      ·rw [List.mem_singleton] at hx;subst hx
       show (ye g.text r).1.size+_<=_
       omega
   ·rename_i hw1 hw2
    rw [if_neg hw1,if_neg hw2];refine ⟨by simp only [Lf,List.length_replicate];omega,fun x hx=>?_⟩
    rcases List.mem_append.1 hx with hx | hx
    ·have:=h3 x hx;omega
    ·have:=List.eq_of_mem_replicate hx;subst this;have:=qet r.toNat
     show (kt r.toNat).size+_<=_
     omega
 refine ⟨⟨fun x hx=>h1 x (List.mem_of_mem_drop hx),?_,fun x hx=>?_⟩,?_⟩
 ·show (vV p.out p.style r times).2.length+1100 * (p.words.drop n).length<=_
  rw [hl];have:=key.1
  omega
 ·show _+8 * (p.words.drop n).length<=_
  rw [hl];have:=key.2 x hx
  omega
 ·show (p.words.drop n).length<=_
  omega
theorem qfz {l:List ByteArray} {s:ByteArray} {n:Nat} (h:yl l=some (s,n)) (hsz : ∀ s∈l,s.size<=1000):s.size+1<=1100 * n/\0<n/\n<=l.length:=by
 cases l with
 | nil=>cases h
 | cons a t =>
  rw [yl] at h
  split at h
  ·rename_i hc
   simp only [Option.some.injEq,Prod.mk.injEq] at h;obtain ⟨rfl,rfl⟩:=h
   cases t with
   | nil=>exact absurd hc.2 L4
   | cons d t'=>have:=hsz d L1;exact ⟨by rw [List.headD_cons];omega,by omega,by simp⟩
  ·split at h
   ·simp only [Option.some.injEq,Prod.mk.injEq] at h;obtain ⟨rfl,rfl⟩:=h;have:=hsz a L1;exact ⟨by omega,by omega,by simp⟩
   ·split at h
    ·unfold ya at h
     split at h
     ·cases h
     ·split at h
      ·rename_i he
       simp only [Option.some.injEq,Prod.mk.injEq] at h;obtain ⟨rfl,rfl⟩:=h;have hk:(t.takeWhile jQ).length<t.length:=by
        rcases Nat.lt_or_ge (t.takeWhile jQ).length t.length with h | h
        ·exact h
        ·rw [List.getElem?_eq_none h] at he;cases he
       have hall : ∀ x∈t.takeWhile jQ,jQ x=true:=fun x hx=>List.all_eq_true.1 (List.all_takeWhile (l:=t) (p:=jQ)) x hx
       have qnQ : ∀ T:List ByteArray,(∀ x∈T,jQ x=true)->(T.flatMap fun s=>s.data.toList).length=T.length:=by
        intro T
        induction T with
        | nil=>intro _;rfl
        | cons x T ih =>
         intro hall;have hx:=hall x L1;unfold jQ at hx;rw [Bool.and_eq_true,decide_eq_true_eq] at hx;rw [List.flatMap_cons,Lf,Lp,ih fun y hy=>hall y (by simp [hy])];have:x.data.toList.length=x.size:=by simp
         omega
       have hT:=qnQ _ hall;refine ⟨?_,by omega,by rw [Lp];omega⟩
       show (List.toArray _).size+1<=_
       rw [List.size_toArray,hT]
       omega
      ·cases h
    ·cases h
theorem qcM (s:ByteArray) (n:Nat):(jn s n).size=s.size:=by
 unfold jn
 show (List.toArray _).size=_
 rw [List.size_toArray,Lf,Lq,<- Lf,List.take_append_drop]
 simp
theorem dgs_len (t:List ByteArray):(k7 t).length<=t.length:=by
 unfold k7;rw [Lq];exact (List.takeWhile_sublist _).length_le
theorem qis : ∀ (k n:Nat),n<10 ^ (k+1)->(kA n).length<=k+1
 | 0,n,h=>by
  rw [kA,dif_pos (by simpa using h)]
  simp
 | k+1,n,h=>by
  rw [kA]
  split
  ·simp
  ·rw [Lf,Lz];have:=qis k (n / 10) (by rw [Nat.pow_succ] at h;omega)
   omega
theorem PaK2.part {p q:Prs} (hK:PaK2 p) (h:va p=some q):PaK2 q:=by
 have hK0:=hK;obtain ⟨⟨hw1,hw2,hw3⟩,hw4⟩:=hK0;have hdrop : ∀ {W:List ByteArray} {a st j},p.words=a::W->PaK2 ⟨W,p.out,st,j⟩:=by
  intro W a st j e;rw [e,Lp] at hw2 hw4;refine ⟨⟨fun x hx=>hw1 x (by rw [e];simp [hx]),?_,fun x hx=>?_⟩,?_⟩
  ·show p.out.length+1100 * W.length<=_
   omega
  ·show _+8 * W.length<=_
   have:=hw3 x hx;rw [e,Lp] at this
   omega
  ·show W.length<=_
   omega
 unfold va at h
 cases h1:zP p with
 | some q' =>
  rw [h1,some_or] at h;obtain rfl:q'=q:=by injection h
  unfold zP at h1
  split at h1
  ·cases h1
  ·rename_i a t hw
   split at h1
   ·injection h1 with h1;subst h1;exact hdrop hw
   ·split at h1
    ·injection h1 with h1;subst h1;exact hdrop hw
    ·cases h1
 | none =>
  rw [h1,y9] at h
  cases h2:jP p with
  | some q' =>
   rw [h2,some_or] at h;obtain rfl:q'=q:=by injection h
   unfold jP at h2
   split at h2
   ·cases h2
   ·rename_i a t hw
    have ht : ∀ s∈t,s.size<=1000:=fun s hs=>hw1 s (by rw [hw];simp [hs])
    have hat : ∀ s∈a::t,s.size<=1000:=fun s hs=>hw1 s (by rw [hw];exact hs)
    split at h2
    ·rw [Option.map_eq_some_iff] at h2;obtain ⟨⟨s,n⟩,hl,rfl⟩:=h2;obtain ⟨a1,a2,a3⟩:=qfz hl ht;exact hK.text L0 (by rw [hw,Lp];omega) (by rw [qcM];omega)
    ·split at h2
     ·rw [Option.map_eq_some_iff] at h2;obtain ⟨⟨s,n⟩,hl,rfl⟩:=h2;obtain ⟨a1,a2,a3⟩:=qfz hl ht;exact hK.text L0 (by rw [hw,Lp];omega) (by rw [qcM];omega)
     ·rw [Option.map_eq_some_iff] at h2;obtain ⟨⟨s,n⟩,hl,rfl⟩:=h2;obtain ⟨a1,a2,a3⟩:=qfz hl hat;exact hK.text a2 (by rw [hw];exact a3) a1
  | none =>
   rw [h2,y9] at h
   cases h3:qaP p with
   | some q' =>
    rw [h3,some_or] at h;obtain rfl:q'=q:=by injection h
    unfold qaP at h3
    split at h3
    ·cases h3
    ·rename_i a t hw
     split at h3
     ·injection h3 with h3
      subst h3;have:=dgs_len t;refine hK.text L0 (by rw [hw,Lp];omega) ?_;unfold zN
      show (List.toArray _).size+1<=_
      rw [List.size_toArray,Lq]
      omega
     ·cases h3
   | none =>
    rw [h3,y9] at h
    cases h4:ko p with
    | some q' =>
     rw [h4,some_or] at h;obtain rfl:q'=q:=by injection h
     unfold ko at h4
     split at h4
     ·cases h4
     ·rename_i r n hc
      obtain ⟨a,b,_⟩:=qcB hc
      split at h4
      ·rename_i hadd
       injection h4 with h4
       subst h4;exact hK.add L0 a b hadd
      ·cases h4
    | none =>
     rw [h4,y9] at h;unfold kD at h
     split at h
     ·cases h
     ·rename_i n k hk
      obtain ⟨a,b,_,qmJ,_⟩:=zF hk;obtain ⟨hn1,hn2,_⟩:=vp qmJ
      split at h
      ·cases h
      ·split at h
       ·rename_i hT
        split at h
        ·cases h
        ·rename_i r m hc
         obtain ⟨a2,b2,_⟩:=qcB hc;rw [List.length_drop] at b2
         split at h
         ·rename_i hadd
          injection h with h
          subst h;exact hK.add L0 L0 L0 hadd.2.2
         ·cases h
       ·injection h with h
        subst h;refine hK.text a b ?_;have:=qis 8 n.toNat L0
        show (List.toArray _).size+1<=_
        rw [List.size_toArray]
        omega
theorem PaS.words1 {w:World} {g nb:Nat} {q:Prs} (h:PaS w g nb q) : ∃ A c,w.cell? ⟨g,1,none⟩=some (.slice A q.words.length c):=by
 obtain ⟨A,n,c,A2,c2,h1,h2,h3,h4,h5⟩:=h;have hn:q.words.length=n:=by have:=h4.1;simp [sv] at this;omega
 have C1:=h3.cell 1;simp only [jh,La,Lb,Lc] at C1;exact ⟨A,c,by rw [hn];exact C1⟩
theorem PaS.out_lt {w:World} {g nb:Nat} {q:Prs} (h:PaS w g nb q) : ∀ b o s n c,w.cell? ⟨g,2,none⟩=some (.slice (some ⟨b,o,s⟩) n c)->b<w.heap.size:=by
 obtain ⟨A,n,c,A2,c2,h1,h2,h3,h4,h5⟩:=h;have C2:=h3.cell 2;simp only [jh,La,Lb,Lc] at C2;intro b o s n' c' hc;rw [C2] at hc;simp only [Option.some.injEq,Value.slice.injEq] at hc;obtain ⟨rfl,rfl,rfl⟩:=hc
 rcases h5.2 with ⟨h0,_⟩ | ⟨G,cap,cur,hv,h1,h2,_⟩
 ·cases h0
 ·simp only [Value.slice.injEq,Option.some.injEq,Addr.mk.injEq] at hv;obtain ⟨⟨rfl,_,_⟩,_,_⟩:=hv;have hb:Blk w b 61 cur:=h2;exact hb.lt
def PaV (w:World) (g:Nat) (X:World):Prop:=Below w.heap.size w X/\X.heap.size=w.heap.size+1 /\
 X.cell? ⟨w.heap.size,0,none⟩=some (.func (.func 143) #[.pointer (some ⟨g,0,none⟩)] #[])/\X.cell? ⟨w.heap.size,1,none⟩=some (.func (.func 144) #[.pointer (some ⟨g,0,none⟩)] #[])/\X.cell? ⟨w.heap.size,2,none⟩=some (.func (.func 145) #[.pointer (some ⟨g,0,none⟩)] #[]) /\
 X.cell? ⟨w.heap.size,3,none⟩=some (.func (.func 146) #[.pointer (some ⟨g,0,none⟩)] #[])/\X.cell? ⟨w.heap.size,4,none⟩=some (.func (.func 147) #[.pointer (some ⟨g,0,none⟩)] #[])
theorem PaV.new (w:World) (g:Nat) (t:TypeId):PaV w g (w.alloc (.cells #[(.func (.func 143) #[.pointer (some ⟨g,0,none⟩)] #[]),(.func (.func 144) #[.pointer (some ⟨g,0,none⟩)] #[]),(.func (.func 145) #[.pointer (some ⟨g,0,none⟩)] #[]),(.func (.func 146) #[.pointer (some ⟨g,0,none⟩)] #[]),(.func (.func 147) #[.pointer (some ⟨g,0,none⟩)] #[])] t)) :=
 ⟨L5,by simp,qu w _ t 0,qu w _ t 1,qu w _ t 2,qu w _ t 3,qu w _ t 4⟩
def PaP (g nb:Nat) (o:Option Prs) (w:World) (e:Ending) (w':World):Prop :=
 Below g w w'/\match o with
 | some q=>e = .returned (.bool true)/\PaS w' g nb q
 | none=>e = .returned (.bool false)
theorem part_ (E:World) (p:Prs) (g nb:Nat) (w:World) (hE:PaE E g nb) (hSt:Sty E) (hEw:Below g E w) (h:PaS w g nb p) (hk:PaK p):Calls prog 122 #[.pointer (some ⟨g,0,none⟩)] w (PaP g nb (va p) w):=by
 have hgl:=h.lt;have hmf : ∀ (fn:Fn) (first cap:Array Value) (w:World),(Instr.makeFunc fn first cap).run prog w = .ok (.func fn first cap) w:=fun _ _ _ _=>rfl
 have hE0:E.heap.size=g:=hE.2.2.2;obtain ⟨A1,c1,C1⟩:=h.words1;have KW : ∀ {w':World},Below w.heap.size w w'->Below g E w':=fun hw=>hEw.trans (hw.mono (Lr hgl))
 have HCz:Hid (∀ w',Below w.heap.size w w'->w'.cell? ⟨g,1,none⟩=some (.slice A1 p.words.length c1)):=Lh fun w' hw=>(hw.cell (show g<_ from hgl)).trans C1
 have HO:=Lh h.out_lt;have Q0:Hid (∀ w',Below w.heap.size w w'->Calls prog 143 #[.pointer (some ⟨g,0,none⟩)] w' (PaR g nb p (zP p) w')):=Lh fun w' hw=>styled_ p g nb w' (hSt.below (KW hw) (Nat.le_of_eq hE0)) (h.below hw)
 have Q1:Hid (∀ w',Below w.heap.size w w'->Calls prog 144 #[.pointer (some ⟨g,0,none⟩)] w' (PaR g nb p (jP p) w')):=Lh fun w' hw=>word_ p g nb w' (h.below hw) (hE.set (KW hw)) hk
 have Q2:Hid (∀ w',Below w.heap.size w w'->Calls prog 145 #[.pointer (some ⟨g,0,none⟩)] w' (PaR g nb p (qaP p) w')):=Lh fun w' hw=>figures_ p g nb w' (h.below hw) hk
 have Q3:Hid (∀ w',Below w.heap.size w w'->Calls prog 146 #[.pointer (some ⟨g,0,none⟩)] w' (PaR2 g nb p (ko p) w')):=Lh fun w' hw=>sign_ E p g nb w' hE (KW hw) (h.below hw) hk
 have Q4:Hid (∀ (q:Prs) (w':World),q.words=p.words->PaS w' g nb q->(charW p.words=none->q=p)->Below g w w'->Calls prog 147 #[.pointer (some ⟨g,0,none⟩)] w' (PaR3 g nb p (kD p) w')):=Lh fun q w' hq hs hc hw=>by
  by_cases hcw:charW p.words=none
  ·obtain rfl:=hc hcw;exact amount_ E q g nb w' hE (hEw.trans hw) hs hk
  ·obtain ⟨x,hx⟩:=Option.ne_none_iff_exists'.1 hcw;have hp:=qfu hx;have ha:kD p=none:=by unfold kD;rw [hp]
   rw [ha];refine (qeQ q g nb w' hs (fun s hs=>hk.sz s (by rw [<- hq];exact hs)) (by rw [hq];exact hk.len) (by rw [hq];exact hp)).mono fun e w'' ⟨h1,h2,h3⟩=>⟨h1,h2,q,hq,h3⟩
 have hpl:p.words.length<=950000:=hk.len;clear hE hSt hEw hk hE0 C1 h KW
 cases e0:zP p with
 | some q =>
  have er:va p=some q:=by unfold va;rw [e0];rfl
  rw [er];rw [e0] at Q0;clear er e0 Q1 Q2 Q3 Q4
  go_enter func122,ntmps122
  go_upto_region 2 with fail
  refine qa (PaV w g) (PaV.new w g _) ?_;rintro X ⟨hbX,hzX,F0,G1,G2,G3,G4⟩;have hFl:w.heap.size<X.heap.size:=by omega
  have HW:Hid (∀ w',Below X.heap.size X w'->Below w.heap.size w w'):=Lh fun w' hb=>hbX.trans (hb.mono hbX.size)
  have HC1:Hid (∀ w',Below X.heap.size X w'->w'.cell? ⟨g,1,none⟩=some (.slice A1 p.words.length c1)):=Lh fun w' hb=>HCz.out w' (HW.out w' hb)
  have HFz:Hid (∀ w',Below X.heap.size X w'->w.heap.size<w'.heap.size):=Lh fun w' hb=>by have:=hb.size;omega
  have HF1:Hid (∀ w',Below X.heap.size X w'->w'.cell? ⟨w.heap.size,1,none⟩=some (.func (.func 144) #[.pointer (some ⟨g,0,none⟩)] #[])):=Lh fun w' hb=>(hb.cell hFl).trans G1
  have HF2:Hid (∀ w',Below X.heap.size X w'->w'.cell? ⟨w.heap.size,2,none⟩=some (.func (.func 145) #[.pointer (some ⟨g,0,none⟩)] #[])):=Lh fun w' hb=>(hb.cell hFl).trans G2
  have HF3:Hid (∀ w',Below X.heap.size X w'->w'.cell? ⟨w.heap.size,3,none⟩=some (.func (.func 146) #[.pointer (some ⟨g,0,none⟩)] #[])):=Lh fun w' hb=>(hb.cell hFl).trans G3
  have HF4:Hid (∀ w',Below X.heap.size X w'->w'.cell? ⟨w.heap.size,4,none⟩=some (.func (.func 147) #[.pointer (some ⟨g,0,none⟩)] #[])):=Lh fun w' hb=>(hb.cell hFl).trans G4
  have hb1:Below X.heap.size X X:=Le _ _;have cc1:=HC1.out _ hb1;clear G1 G2 G3 G4 hzX;have K0:Hid (∀ w',Below X.heap.size X w'->Calls prog 143 #[.pointer (some ⟨g,0,none⟩)] w' fun e w''=>e = .returned (.bool true)/\Below g w w''/\PaS w'' g nb q):=Lh fun w' hb=>(Q0.out w' (HW.out w' hb)).mono fun e w'' ⟨a,b,c⟩=>⟨b,((HW.out w' hb).mono (Lr hgl)).trans a,c⟩
  clear HF1 HF2 HF3 HF4 HFz;go_wp2;refine wp_loop_rounds 6 ?_;rw [rounds_succ]
  go_wp2_with (go_at_call 143;refine (K0.out _ hb1).mono ?_;rintro e wz ⟨rfl,hbz,hpz⟩)
  go_ret;exact ⟨hbz,rfl,hpz⟩
 | none =>
  rw [e0] at Q0
  cases e1:jP p with
  | some q =>
   have er:va p=some q:=by unfold va;rw [e0,e1];rfl
   rw [er];rw [e1] at Q1;clear er e0 e1 Q2 Q3 Q4
   go_enter func122,ntmps122
   go_upto_region 2 with fail
   refine qa (PaV w g) (PaV.new w g _) ?_;rintro X ⟨hbX,hzX,F0,G1,G2,G3,G4⟩;have hFl:w.heap.size<X.heap.size:=by omega
   have HW:Hid (∀ w',Below X.heap.size X w'->Below w.heap.size w w'):=Lh fun w' hb=>hbX.trans (hb.mono hbX.size)
   have HC1:Hid (∀ w',Below X.heap.size X w'->w'.cell? ⟨g,1,none⟩=some (.slice A1 p.words.length c1)):=Lh fun w' hb=>HCz.out w' (HW.out w' hb)
   have HFz:Hid (∀ w',Below X.heap.size X w'->w.heap.size<w'.heap.size):=Lh fun w' hb=>by have:=hb.size;omega
   have HF1:Hid (∀ w',Below X.heap.size X w'->w'.cell? ⟨w.heap.size,1,none⟩=some (.func (.func 144) #[.pointer (some ⟨g,0,none⟩)] #[])):=Lh fun w' hb=>(hb.cell hFl).trans G1
   have HF2:Hid (∀ w',Below X.heap.size X w'->w'.cell? ⟨w.heap.size,2,none⟩=some (.func (.func 145) #[.pointer (some ⟨g,0,none⟩)] #[])):=Lh fun w' hb=>(hb.cell hFl).trans G2
   have HF3:Hid (∀ w',Below X.heap.size X w'->w'.cell? ⟨w.heap.size,3,none⟩=some (.func (.func 146) #[.pointer (some ⟨g,0,none⟩)] #[])):=Lh fun w' hb=>(hb.cell hFl).trans G3
   have HF4:Hid (∀ w',Below X.heap.size X w'->w'.cell? ⟨w.heap.size,4,none⟩=some (.func (.func 147) #[.pointer (some ⟨g,0,none⟩)] #[])):=Lh fun w' hb=>(hb.cell hFl).trans G4
   have hb1:Below X.heap.size X X:=Le _ _;have cc1:=HC1.out _ hb1;clear G1 G2 G3 G4 hzX;have K0:Hid (∀ w',Below X.heap.size X w'->Calls prog 143 #[.pointer (some ⟨g,0,none⟩)] w' fun e w''=>e = .returned (.bool false)/\Below X.heap.size X w''):=Lh fun w' hb=>(Q0.out w' (HW.out w' hb)).mono fun e w'' ⟨_,a,_,c⟩=>⟨a,hb.trans (c.mono hb.size)⟩
   have K1:Hid (∀ w',Below X.heap.size X w'->Calls prog 144 #[.pointer (some ⟨g,0,none⟩)] w' fun e w''=>e = .returned (.bool true)/\Below g w w''/\PaS w'' g nb q):=Lh fun w' hb=>(Q1.out w' (HW.out w' hb)).mono fun e w'' ⟨a,b,c⟩=>⟨b,((HW.out w' hb).mono (Lr hgl)).trans a,c⟩
   clear HF2 HF3 HF4 HFz;go_wp2;refine wp_loop_rounds 6 ?_;rw [rounds_succ]
   go_wp2_with (go_at_call 143;refine (K0.out _ hb1).mono ?_;rintro e w2 ⟨rfl,hb2⟩;have cc2:=HC1.out _ hb2;have F1:=HF1.out _ hb2)
   rw [rounds_succ]
   go_wp2_with (go_at_call 144;refine (K1.out _ hb2).mono ?_;rintro e wz ⟨rfl,hbz,hpz⟩)
   go_ret;exact ⟨hbz,rfl,hpz⟩
  | none =>
   rw [e1] at Q1
   cases e2:qaP p with
   | some q =>
    have er:va p=some q:=by unfold va;rw [e0,e1,e2];rfl
    rw [er];rw [e2] at Q2;clear er e0 e1 e2 Q3 Q4
    go_enter func122,ntmps122
    go_upto_region 2 with fail
    refine qa (PaV w g) (PaV.new w g _) ?_;rintro X ⟨hbX,hzX,F0,G1,G2,G3,G4⟩;have hFl:w.heap.size<X.heap.size:=by omega
    have HW:Hid (∀ w',Below X.heap.size X w'->Below w.heap.size w w'):=Lh fun w' hb=>hbX.trans (hb.mono hbX.size)
    have HC1:Hid (∀ w',Below X.heap.size X w'->w'.cell? ⟨g,1,none⟩=some (.slice A1 p.words.length c1)):=Lh fun w' hb=>HCz.out w' (HW.out w' hb)
    have HFz:Hid (∀ w',Below X.heap.size X w'->w.heap.size<w'.heap.size):=Lh fun w' hb=>by have:=hb.size;omega
    have HF1:Hid (∀ w',Below X.heap.size X w'->w'.cell? ⟨w.heap.size,1,none⟩=some (.func (.func 144) #[.pointer (some ⟨g,0,none⟩)] #[])):=Lh fun w' hb=>(hb.cell hFl).trans G1
    have HF2:Hid (∀ w',Below X.heap.size X w'->w'.cell? ⟨w.heap.size,2,none⟩=some (.func (.func 145) #[.pointer (some ⟨g,0,none⟩)] #[])):=Lh fun w' hb=>(hb.cell hFl).trans G2
    have HF3:Hid (∀ w',Below X.heap.size X w'->w'.cell? ⟨w.heap.size,3,none⟩=some (.func (.func 146) #[.pointer (some ⟨g,0,none⟩)] #[])):=Lh fun w' hb=>(hb.cell hFl).trans G3
    have HF4:Hid (∀ w',Below X.heap.size X w'->w'.cell? ⟨w.heap.size,4,none⟩=some (.func (.func 147) #[.pointer (some ⟨g,0,none⟩)] #[])):=Lh fun w' hb=>(hb.cell hFl).trans G4
    have hb1:Below X.heap.size X X:=Le _ _;have cc1:=HC1.out _ hb1;clear G1 G2 G3 G4 hzX;have K0:Hid (∀ w',Below X.heap.size X w'->Calls prog 143 #[.pointer (some ⟨g,0,none⟩)] w' fun e w''=>e = .returned (.bool false)/\Below X.heap.size X w''):=Lh fun w' hb=>(Q0.out w' (HW.out w' hb)).mono fun e w'' ⟨_,a,_,c⟩=>⟨a,hb.trans (c.mono hb.size)⟩
    have K1:Hid (∀ w',Below X.heap.size X w'->Calls prog 144 #[.pointer (some ⟨g,0,none⟩)] w' fun e w''=>e = .returned (.bool false)/\Below X.heap.size X w''):=Lh fun w' hb=>(Q1.out w' (HW.out w' hb)).mono fun e w'' ⟨_,a,_,c⟩=>⟨a,hb.trans (c.mono hb.size)⟩
    have K2:Hid (∀ w',Below X.heap.size X w'->Calls prog 145 #[.pointer (some ⟨g,0,none⟩)] w' fun e w''=>e = .returned (.bool true)/\Below g w w''/\PaS w'' g nb q):=Lh fun w' hb=>(Q2.out w' (HW.out w' hb)).mono fun e w'' ⟨a,b,c⟩=>⟨b,((HW.out w' hb).mono (Lr hgl)).trans a,c⟩
    clear HF3 HF4 HFz;go_wp2;refine wp_loop_rounds 6 ?_;rw [rounds_succ]
    go_wp2_with (go_at_call 143;refine (K0.out _ hb1).mono ?_;rintro e w2 ⟨rfl,hb2⟩;have cc2:=HC1.out _ hb2;have F1:=HF1.out _ hb2)
    rw [rounds_succ]
    go_wp2_with (go_at_call 144;refine (K1.out _ hb2).mono ?_;rintro e w3 ⟨rfl,hb3⟩;have cc3:=HC1.out _ hb3;have F2:=HF2.out _ hb3)
    rw [rounds_succ]
    go_wp2_with (go_at_call 145;refine (K2.out _ hb3).mono ?_;rintro e wz ⟨rfl,hbz,hpz⟩)
    go_ret;exact ⟨hbz,rfl,hpz⟩
   | none =>
    rw [e2] at Q2
    cases e3:ko p with
    | some q =>
     have er:va p=some q:=by unfold va;rw [e0,e1,e2,e3];rfl
     rw [er];rw [e3] at Q3;clear er e0 e1 e2 e3 Q4
     go_enter func122,ntmps122
     go_upto_region 2 with fail
     refine qa (PaV w g) (PaV.new w g _) ?_;rintro X ⟨hbX,hzX,F0,G1,G2,G3,G4⟩;have hFl:w.heap.size<X.heap.size:=by omega
     have HW:Hid (∀ w',Below X.heap.size X w'->Below w.heap.size w w'):=Lh fun w' hb=>hbX.trans (hb.mono hbX.size)
     have HC1:Hid (∀ w',Below X.heap.size X w'->w'.cell? ⟨g,1,none⟩=some (.slice A1 p.words.length c1)):=Lh fun w' hb=>HCz.out w' (HW.out w' hb)
     have HFz:Hid (∀ w',Below X.heap.size X w'->w.heap.size<w'.heap.size):=Lh fun w' hb=>by have:=hb.size;omega
     have HF1:Hid (∀ w',Below X.heap.size X w'->w'.cell? ⟨w.heap.size,1,none⟩=some (.func (.func 144) #[.pointer (some ⟨g,0,none⟩)] #[])):=Lh fun w' hb=>(hb.cell hFl).trans G1
     have HF2:Hid (∀ w',Below X.heap.size X w'->w'.cell? ⟨w.heap.size,2,none⟩=some (.func (.func 145) #[.pointer (some ⟨g,0,none⟩)] #[])):=Lh fun w' hb=>(hb.cell hFl).trans G2
     have HF3:Hid (∀ w',Below X.heap.size X w'->w'.cell? ⟨w.heap.size,3,none⟩=some (.func (.func 146) #[.pointer (some ⟨g,0,none⟩)] #[])):=Lh fun w' hb=>(hb.cell hFl).trans G3
     have HF4:Hid (∀ w',Below X.heap.size X w'->w'.cell? ⟨w.heap.size,4,none⟩=some (.func (.func 147) #[.pointer (some ⟨g,0,none⟩)] #[])):=Lh fun w' hb=>(hb.cell hFl).trans G4
     have hb1:Below X.heap.size X X:=Le _ _;have cc1:=HC1.out _ hb1;clear G1 G2 G3 G4 hzX;have K0:Hid (∀ w',Below X.heap.size X w'->Calls prog 143 #[.pointer (some ⟨g,0,none⟩)] w' fun e w''=>e = .returned (.bool false)/\Below X.heap.size X w''):=Lh fun w' hb=>(Q0.out w' (HW.out w' hb)).mono fun e w'' ⟨_,a,_,c⟩=>⟨a,hb.trans (c.mono hb.size)⟩
     have K1:Hid (∀ w',Below X.heap.size X w'->Calls prog 144 #[.pointer (some ⟨g,0,none⟩)] w' fun e w''=>e = .returned (.bool false)/\Below X.heap.size X w''):=Lh fun w' hb=>(Q1.out w' (HW.out w' hb)).mono fun e w'' ⟨_,a,_,c⟩=>⟨a,hb.trans (c.mono hb.size)⟩
     have K2:Hid (∀ w',Below X.heap.size X w'->Calls prog 145 #[.pointer (some ⟨g,0,none⟩)] w' fun e w''=>e = .returned (.bool false)/\Below X.heap.size X w''):=Lh fun w' hb=>(Q2.out w' (HW.out w' hb)).mono fun e w'' ⟨_,a,_,c⟩=>⟨a,hb.trans (c.mono hb.size)⟩
     have K3:Hid (∀ w',Below X.heap.size X w'->Calls prog 146 #[.pointer (some ⟨g,0,none⟩)] w' fun e w''=>e = .returned (.bool true)/\Below g w w''/\PaS w'' g nb q):=Lh fun w' hb=>(Q3.out w' (HW.out w' hb)).mono fun e w'' ⟨a,b,c⟩=>⟨b,((HW.out w' hb).mono (Lr hgl)).trans a,c⟩
     clear HF4 HFz;go_wp2;refine wp_loop_rounds 6 ?_;rw [rounds_succ]
     go_wp2_with (go_at_call 143;refine (K0.out _ hb1).mono ?_;rintro e w2 ⟨rfl,hb2⟩;have cc2:=HC1.out _ hb2;have F1:=HF1.out _ hb2)
     rw [rounds_succ]
     go_wp2_with (go_at_call 144;refine (K1.out _ hb2).mono ?_;rintro e w3 ⟨rfl,hb3⟩;have cc3:=HC1.out _ hb3;have F2:=HF2.out _ hb3)
     rw [rounds_succ]
     go_wp2_with (go_at_call 145;refine (K2.out _ hb3).mono ?_;rintro e w4 ⟨rfl,hb4⟩;have cc4:=HC1.out _ hb4;have F3:=HF3.out _ hb4)
     rw [rounds_succ]
     go_wp2_with (go_at_call 146;refine (K3.out _ hb4).mono ?_;rintro e wz ⟨rfl,hbz,hpz⟩)
     go_ret;exact ⟨hbz,rfl,hpz⟩
    | none =>
     have er:va p=kD p:=by unfold va;rw [e0,e1,e2,e3];rfl
     rw [er];rw [e3] at Q3;clear er e0 e1 e2 e3
     cases e4:kD p with
     | some q =>
      rw [e4] at Q4;clear e4
      go_enter func122,ntmps122
      go_upto_region 2 with fail
      refine qa (PaV w g) (PaV.new w g _) ?_;rintro X ⟨hbX,hzX,F0,G1,G2,G3,G4⟩;have hFl:w.heap.size<X.heap.size:=by omega
      have HW:Hid (∀ w',Below X.heap.size X w'->Below w.heap.size w w'):=Lh fun w' hb=>hbX.trans (hb.mono hbX.size)
      have HC1:Hid (∀ w',Below X.heap.size X w'->w'.cell? ⟨g,1,none⟩=some (.slice A1 p.words.length c1)):=Lh fun w' hb=>HCz.out w' (HW.out w' hb)
      have HFz:Hid (∀ w',Below X.heap.size X w'->w.heap.size<w'.heap.size):=Lh fun w' hb=>by have:=hb.size;omega
      have HF1:Hid (∀ w',Below X.heap.size X w'->w'.cell? ⟨w.heap.size,1,none⟩=some (.func (.func 144) #[.pointer (some ⟨g,0,none⟩)] #[])):=Lh fun w' hb=>(hb.cell hFl).trans G1
      have HF2:Hid (∀ w',Below X.heap.size X w'->w'.cell? ⟨w.heap.size,2,none⟩=some (.func (.func 145) #[.pointer (some ⟨g,0,none⟩)] #[])):=Lh fun w' hb=>(hb.cell hFl).trans G2
      have HF3:Hid (∀ w',Below X.heap.size X w'->w'.cell? ⟨w.heap.size,3,none⟩=some (.func (.func 146) #[.pointer (some ⟨g,0,none⟩)] #[])):=Lh fun w' hb=>(hb.cell hFl).trans G3
      have HF4:Hid (∀ w',Below X.heap.size X w'->w'.cell? ⟨w.heap.size,4,none⟩=some (.func (.func 147) #[.pointer (some ⟨g,0,none⟩)] #[])):=Lh fun w' hb=>(hb.cell hFl).trans G4
      have hb1:Below X.heap.size X X:=Le _ _;have cc1:=HC1.out _ hb1;clear G1 G2 G3 G4 hzX;have K0:Hid (∀ w',Below X.heap.size X w'->Calls prog 143 #[.pointer (some ⟨g,0,none⟩)] w' fun e w''=>e = .returned (.bool false)/\Below X.heap.size X w''):=Lh fun w' hb=>(Q0.out w' (HW.out w' hb)).mono fun e w'' ⟨_,a,_,c⟩=>⟨a,hb.trans (c.mono hb.size)⟩
      have K1:Hid (∀ w',Below X.heap.size X w'->Calls prog 144 #[.pointer (some ⟨g,0,none⟩)] w' fun e w''=>e = .returned (.bool false)/\Below X.heap.size X w''):=Lh fun w' hb=>(Q1.out w' (HW.out w' hb)).mono fun e w'' ⟨_,a,_,c⟩=>⟨a,hb.trans (c.mono hb.size)⟩
      have K2:Hid (∀ w',Below X.heap.size X w'->Calls prog 145 #[.pointer (some ⟨g,0,none⟩)] w' fun e w''=>e = .returned (.bool false)/\Below X.heap.size X w''):=Lh fun w' hb=>(Q2.out w' (HW.out w' hb)).mono fun e w'' ⟨_,a,_,c⟩=>⟨a,hb.trans (c.mono hb.size)⟩
      have K3:Hid (∀ w',Below X.heap.size X w'->w.heap.size<w'.heap.size->Calls prog 146 #[.pointer (some ⟨g,0,none⟩)] w' fun e w''=>e = .returned (.bool false)/\Below g w w''/\∃ q:Prs,q.words=p.words/\PaS w'' g nb q/\(charW p.words=none->q=p) /\
        (∀ i:Nat,w''.cell? ⟨w.heap.size,i,none⟩=w'.cell? ⟨w.heap.size,i,none⟩)/\∃ A c,w''.cell? ⟨g,1,none⟩=some (.slice A p.words.length c)):=Lh fun w' hb hF =>
       (Q3.out w' (HW.out w' hb)).mono fun e w'' ⟨a,b,q,hq,hs,hc,hap⟩=>⟨b,((HW.out w' hb).mono (Lr hgl)).trans a,q,hq,hs,hc,
        fun i=>hap w.heap.size i L0 hF (fun b o s n c qnM=>Nat.ne_of_lt (HO.out b o s n c (((HW.out w' hb).cell (show g<_ from hgl)).symm.trans qnM))),by rw [<- hq];exact hs.words1⟩
      have K4:Hid (∀ (q':Prs) (w':World),q'.words=p.words->PaS w' g nb q'->(charW p.words=none->q'=p)->Below g w w'->Calls prog 147 #[.pointer (some ⟨g,0,none⟩)] w' fun e w''=>e = .returned (.bool true)/\Below g w w''/\PaS w'' g nb q):=Lh fun q' w' hq hs hc hw =>
       (Q4.out q' w' hq hs hc hw).mono fun e w'' ⟨a,b,c⟩=>⟨b,hw.trans a,c⟩
      go_wp2;refine wp_loop_rounds 6 ?_;rw [rounds_succ]
      go_wp2_with (go_at_call 143;refine (K0.out _ hb1).mono ?_;rintro e w2 ⟨rfl,hb2⟩;have cc2:=HC1.out _ hb2;have F1:=HF1.out _ hb2)
      rw [rounds_succ]
      go_wp2_with (go_at_call 144;refine (K1.out _ hb2).mono ?_;rintro e w3 ⟨rfl,hb3⟩;have cc3:=HC1.out _ hb3;have F2:=HF2.out _ hb3)
      rw [rounds_succ]
      go_wp2_with (go_at_call 145;refine (K2.out _ hb3).mono ?_;rintro e w4 ⟨rfl,hb4⟩;have cc4:=HC1.out _ hb4;have F3:=HF3.out _ hb4)
      rw [rounds_succ]
      go_wp2_with (go_at_call 146;refine (K3.out _ hb4 (HFz.out _ hb4)).mono ?_;rintro e w5 ⟨rfl,hb5,q5,hq5,hp5,hc5,hk5,A5,c5,cc5⟩;have F4:=(hk5 4).trans (HF4.out _ hb4);replace hk5:=Lh hk5;replace hc5:=Lh hc5;replace hq5:=Lh hq5)
      rw [rounds_succ]
      go_wp2_with (go_at_call 147;refine (K4.out q5 _ hq5.out hp5 hc5.out hb5).mono ?_;rintro e wz ⟨rfl,hbz,hpz⟩)
      go_ret;exact ⟨hbz,rfl,hpz⟩
     | none =>
      rw [e4] at Q4;clear e4
      go_enter func122,ntmps122
      go_upto_region 2 with fail
      refine qa (PaV w g) (PaV.new w g _) ?_;rintro X ⟨hbX,hzX,F0,G1,G2,G3,G4⟩;have hFl:w.heap.size<X.heap.size:=by omega
      have HW:Hid (∀ w',Below X.heap.size X w'->Below w.heap.size w w'):=Lh fun w' hb=>hbX.trans (hb.mono hbX.size)
      have HC1:Hid (∀ w',Below X.heap.size X w'->w'.cell? ⟨g,1,none⟩=some (.slice A1 p.words.length c1)):=Lh fun w' hb=>HCz.out w' (HW.out w' hb)
      have HFz:Hid (∀ w',Below X.heap.size X w'->w.heap.size<w'.heap.size):=Lh fun w' hb=>by have:=hb.size;omega
      have HF1:Hid (∀ w',Below X.heap.size X w'->w'.cell? ⟨w.heap.size,1,none⟩=some (.func (.func 144) #[.pointer (some ⟨g,0,none⟩)] #[])):=Lh fun w' hb=>(hb.cell hFl).trans G1
      have HF2:Hid (∀ w',Below X.heap.size X w'->w'.cell? ⟨w.heap.size,2,none⟩=some (.func (.func 145) #[.pointer (some ⟨g,0,none⟩)] #[])):=Lh fun w' hb=>(hb.cell hFl).trans G2
      have HF3:Hid (∀ w',Below X.heap.size X w'->w'.cell? ⟨w.heap.size,3,none⟩=some (.func (.func 146) #[.pointer (some ⟨g,0,none⟩)] #[])):=Lh fun w' hb=>(hb.cell hFl).trans G3
      have HF4:Hid (∀ w',Below X.heap.size X w'->w'.cell? ⟨w.heap.size,4,none⟩=some (.func (.func 147) #[.pointer (some ⟨g,0,none⟩)] #[])):=Lh fun w' hb=>(hb.cell hFl).trans G4
      have hb1:Below X.heap.size X X:=Le _ _;have cc1:=HC1.out _ hb1;clear G1 G2 G3 G4 hzX;have K0:Hid (∀ w',Below X.heap.size X w'->Calls prog 143 #[.pointer (some ⟨g,0,none⟩)] w' fun e w''=>e = .returned (.bool false)/\Below X.heap.size X w''):=Lh fun w' hb=>(Q0.out w' (HW.out w' hb)).mono fun e w'' ⟨_,a,_,c⟩=>⟨a,hb.trans (c.mono hb.size)⟩
      have K1:Hid (∀ w',Below X.heap.size X w'->Calls prog 144 #[.pointer (some ⟨g,0,none⟩)] w' fun e w''=>e = .returned (.bool false)/\Below X.heap.size X w''):=Lh fun w' hb=>(Q1.out w' (HW.out w' hb)).mono fun e w'' ⟨_,a,_,c⟩=>⟨a,hb.trans (c.mono hb.size)⟩
      have K2:Hid (∀ w',Below X.heap.size X w'->Calls prog 145 #[.pointer (some ⟨g,0,none⟩)] w' fun e w''=>e = .returned (.bool false)/\Below X.heap.size X w''):=Lh fun w' hb=>(Q2.out w' (HW.out w' hb)).mono fun e w'' ⟨_,a,_,c⟩=>⟨a,hb.trans (c.mono hb.size)⟩
      have K3:Hid (∀ w',Below X.heap.size X w'->w.heap.size<w'.heap.size->Calls prog 146 #[.pointer (some ⟨g,0,none⟩)] w' fun e w''=>e = .returned (.bool false)/\Below g w w''/\∃ q:Prs,q.words=p.words/\PaS w'' g nb q/\(charW p.words=none->q=p) /\
        (∀ i:Nat,w''.cell? ⟨w.heap.size,i,none⟩=w'.cell? ⟨w.heap.size,i,none⟩)/\∃ A c,w''.cell? ⟨g,1,none⟩=some (.slice A p.words.length c)):=Lh fun w' hb hF =>
       (Q3.out w' (HW.out w' hb)).mono fun e w'' ⟨a,b,q,hq,hs,hc,hap⟩=>⟨b,((HW.out w' hb).mono (Lr hgl)).trans a,q,hq,hs,hc,
        fun i=>hap w.heap.size i L0 hF (fun b o s n c qnM=>Nat.ne_of_lt (HO.out b o s n c (((HW.out w' hb).cell (show g<_ from hgl)).symm.trans qnM))),by rw [<- hq];exact hs.words1⟩
      have K4:Hid (∀ (q':Prs) (w':World),q'.words=p.words->PaS w' g nb q'->(charW p.words=none->q'=p)->Below g w w'->Calls prog 147 #[.pointer (some ⟨g,0,none⟩)] w' fun e w''=>e = .returned (.bool false)/\Below g w w''/\∃ A c,w''.cell? ⟨g,1,none⟩=some (.slice A p.words.length c)):=Lh fun q' w' hq hs hc hw =>
       (Q4.out q' w' hq hs hc hw).mono fun e w'' ⟨a,b,q2,hq2,hs2⟩=>⟨b,hw.trans a,by rw [<- hq2];exact hs2.words1⟩
      go_wp2;refine wp_loop_rounds 6 ?_;rw [rounds_succ]
      go_wp2_with (go_at_call 143;refine (K0.out _ hb1).mono ?_;rintro e w2 ⟨rfl,hb2⟩;have cc2:=HC1.out _ hb2;have F1:=HF1.out _ hb2)
      rw [rounds_succ]
      go_wp2_with (go_at_call 144;refine (K1.out _ hb2).mono ?_;rintro e w3 ⟨rfl,hb3⟩;have cc3:=HC1.out _ hb3;have F2:=HF2.out _ hb3)
      rw [rounds_succ]
      go_wp2_with (go_at_call 145;refine (K2.out _ hb3).mono ?_;rintro e w4 ⟨rfl,hb4⟩;have cc4:=HC1.out _ hb4;have F3:=HF3.out _ hb4)
      rw [rounds_succ]
      go_wp2_with (go_at_call 146;refine (K3.out _ hb4 (HFz.out _ hb4)).mono ?_;rintro e w5 ⟨rfl,hb5,q5,hq5,hp5,hc5,hk5,A5,c5,cc5⟩;have F4:=(hk5 4).trans (HF4.out _ hb4);replace hk5:=Lh hk5;replace hc5:=Lh hc5;replace hq5:=Lh hq5)
      rw [rounds_succ]
      go_wp2_with (go_at_call 147;refine (K4.out q5 _ hq5.out hp5 hc5.out hb5).mono ?_;rintro e w6 ⟨rfl,hb6,A6,c6,cc6⟩)
      rw [rounds_succ];go_wp2;go_ret;exact ⟨hb6,rfl⟩
def GlR (o:Option (List Gl)) (w:World) (e:Ending) (w':World):Prop :=
 Below w.heap.size w w'/\match o with
 | none=>e = .returned (.tuple #[.slice none 0 0,.int .i64 17])
 | some G=>∃ A c,e = .returned (.tuple #[.slice A G.length c,.int .i64 0])/\w'.ownsRow w.heap.size 61 3 (.slice A G.length c) G.length (qi G)
def leftN (w:World) (g:Nat):Nat:=match w.cell? ⟨g,1,none⟩ with
 | some (.slice _ n _)=>n
 | _=>0
theorem PaS.left {w:World} {g nb:Nat} {q:Prs} (h:PaS w g nb q):leftN w g=q.words.length:=by
 obtain ⟨A,c,hc⟩:=h.words1;unfold leftN;rw [hc]
theorem PaS.out2 {w:World} {g nb:Nat} {q:Prs} (h:PaS w g nb q) : ∃ A c,w.cell? ⟨g,2,none⟩=some (.slice A q.out.length c)/\w.ownsRow (g+1) 61 3 (.slice A q.out.length c) q.out.length (qi q.out):=by
 obtain ⟨A,n,c,A2,c2,h1,h2,h3,h4,h5⟩:=h;have C2:=h3.cell 2;simp only [jh,La,Lb,Lc] at C2;exact ⟨A2,c2,C2,h5⟩
def GlI (w w1:World) (nb:Nat) (R:Option (List Gl)) (wr:World):Prop :=
 ∃ q f,q.words.length<=f/\ka f q=R/\PaS wr w1.heap.size nb q/\PaK2 q/\Below w1.heap.size w1 wr/\Below w.heap.size w wr
theorem glyphs_ (l:List ByteArray) (A:Option Addr) (n c:Nat) (w:World) (hn:l.length=n) (hc:n<=c) (hm:c<=maxLen) (rd:Rd w w.heap.size 1 A n (sv l)) (hsz : ∀ s∈l,s.size<=1000) (hl:l.length<=850000) (hs:Sp w) (hu:U8 w) (hy:Sty w) :
  Calls prog 106 #[.slice A n c] w (GlR (kC l) w):=by
 obtain ⟨R,hR⟩ : ∃ R,R=kC l:=⟨_,rfl⟩
 rw [<- hR];have HR:=Lh (qkq w hs);have HI:Hid (∀ (w1:World) (b1:Nat),SetM w1 b1 200 jF->Below w.heap.size w w1->GlI w w1 b1 R (w1.alloc (.cells (jh b1 (.slice A n c) (.slice none 0 0) 0 false) 176))/\PaE w1 w1.heap.size b1/\Sty w1):=Lh fun w1 b1 hset hb =>
  ⟨⟨⟨l,[],0,false⟩,l.length,Ld _,hR.symm,
   ⟨A,n,c,none,0,hc,hm,Blk.new w1 _ _,((rd.below hb).more hb.size).below (Below.alloc (Le w1.heap.size w1) (Ld _) _),zY _ _ _ _⟩,
   ⟨⟨hsz,by show 0+1100 * l.length<=_;omega,fun x hx=>by cases hx⟩,hl⟩,(Le w1.heap.size w1).alloc (Ld _) _,hb.alloc hb.size _⟩,
   ⟨hs.below hb (Ld _),hu.below hb,hset,rfl⟩,hy.below hb (Ld _)⟩
 clear rd hsz hl hs hu hy hR hn hc hm
 go_enter func106,ntmps106
 go_wp2_with (go_at_call 121;refine HR.out.mono ?_;rintro e w1 ⟨b1,rfl,hset1,hb1,qmv⟩)
 obtain ⟨hI,hE,hSt⟩:=HI.out w1 b1 hset1 qmv;have hE':=Lh hE;have hSt':=Lh hSt;have hsz1:w.heap.size<=w1.heap.size:=qmv.size;clear hset1 hE hSt HI HR hb1 qmv
 go_loopw [17] (fun x wr=>GlI w w1 b1 R wr) (fun x wr=>leftN wr w1.heap.size)
 case atStart=>exact hI
 case round =>
  clear hI;obtain ⟨q,f,hf,hq,hp,hk,hb1,hb⟩:=hrel;have hleft:=Lh hp.left;obtain ⟨A1,c1,C1⟩:=hp.words1
  by_cases h0:q.words=[]
  ·have e0:R=some q.out:=by rw [<- hq];cases f <;> simp [ka,h0]
   have hl0:q.words.length=0:=by rw [h0];rfl
   rw [hl0] at C1;obtain ⟨A2,c2,C2,ho⟩:=hp.out2;replace e0:=Lh e0;clear hq hk hl0 h0;go_wp2;go_ret2;rw [e0.out];exact ⟨hb,A2,c2,rfl,qt ho L0⟩
  ·have hpos:0<q.words.length:=List.length_pos_iff.2 h0;obtain ⟨f',rfl⟩ : ∃ f',f=f'+1:=⟨f-1,by omega⟩
   have hgt:decide ((0:Int)<q.words.length)=true:=Ll L0;have HP:=Lh (part_ w1 q w1.heap.size b1 _ hE'.out hSt'.out hb1 hp hk.1);rw [ka,if_neg h0] at hq
   cases hpt:va q with
   | none =>
    rw [hpt] at hq HP;have e0:=Lh hq.symm;clear hq hk hp hpos hgt hpt;have hb1':=Lh hb1;have hb':=Lh hb;clear hb hb1;have hpos:(0:Int)<q.words.length:=by have:=List.length_pos_iff.2 h0;omega
    go_wp2_with (go_at_call 122;refine HP.out.mono ?_;rintro e w5 ⟨hb5,rfl⟩)
    go_ret2;rw [e0.out];exact ⟨hb'.out.trans (hb5.mono hsz1),rfl⟩
   | some q' =>
    rw [hpt] at hq HP;have hless:=qcs hpt;have hk':=hk.part hpt;have hqq:=Lh hq;have hb1':=Lh hb1;have hb':=Lh hb;have hk2:=Lh hk';clear hq hk hp hpos hgt hpt hk' hb hb1;have hpos:(0:Int)<q.words.length:=by have:=List.length_pos_iff.2 h0;omega
    go_wp2_with (go_at_call 122;refine HP.out.mono ?_;rintro e w5 ⟨hb5,rfl,hp5⟩)
    exact ⟨⟨q',f',by omega,hqq.out,hp5,hk2.out,hb1'.out.trans hb5,hb'.out.trans (hb5.mono hsz1)⟩,by rw [hp5.left,hleft.out];exact hless⟩
theorem qms {l:List ByteArray} {k:Nat} (hk:k<l.length) (h:l[k]=vD):zx false (l.drop k)=(zx false (l.drop (k+2))).map (· + 2):=by
 rw [Ls hk]
 show (if l[k]=vD then (zx true (l.drop (k+1))).map (· + 1) else _)=_
 rw [if_pos h]
 by_cases h2:k+1<l.length
 ·rw [Ls h2]
  show Option.map (· + 1) (Option.map (· + 1) (zx false (l.drop (k+1+1))))=_
  rw [Option.map_map]
  rfl
 ·rw [Lv L0,Lv L0]
  rfl
theorem qmo {l:List ByteArray} {k:Nat} (hk:k<l.length) (h:l[k]=vF):zx false (l.drop k)=some 0:=by
 rw [Ls hk]
 show (if l[k]=vD then _ else if l[k]=vF then some 0 else _)=_
 rw [if_neg (by rw [h];decide),if_pos h]
theorem qml {l:List ByteArray} {k:Nat} (hk:k<l.length) (h:l[k]≠vD) (h2:l[k]≠vF):zx false (l.drop k)=(zx false (l.drop (k+1))).map (· + 1):=by
 rw [Ls hk]
 show (if l[k]=vD then _ else if l[k]=vF then some 0 else (zx false (l.drop (k+1))).map (· + 1))=_
 rw [if_neg h,if_neg h2]
theorem qmm {a:ByteArray} (h:a=vD):(a.toList==[119,111,114,100])=true:=(qct (b:=vD) rfl).trans (Ll h)
theorem qit {a:ByteArray} (h:a≠vD):(a.toList==[119,111,114,100])=false:=(qct (b:=vD) rfl).trans (Lk h)
theorem qmr {a:ByteArray} (h:a=vF):(a.toList==[115,116,111,112])=true:=(qct (b:=vF) rfl).trans (Ll h)
theorem qmj {a:ByteArray} (h:a≠vF):(a.toList==[115,116,111,112])=false:=(qct (b:=vF) rfl).trans (Lk h)
def qaF (l:List ByteArray) (o:Option Nat):Option (List Gl × List ByteArray):=o.bind fun i=>match kC (l.take i) with
 | some (g::gs)=>some (g::gs,l.drop (i+1))
 | _=>none
theorem qka (l:List ByteArray):qae l=qaF l (zx false l):=rfl
def TRet (w:World) (B:Nat) (r:Option (List Gl × List ByteArray)) (e:Ending) (w':World):Prop:=∃ A G c v,e = .returned (.tuple #[.slice A (List.length G) c,v])/\w'.ownsRow w.heap.size 61 3 (.slice A G.length c) G.length (qi G)/\RV w' B (r.map (·.2)) v/\Below w.heap.size w w'/\(r.map (·.1)).getD []=G
theorem utext_ (r:Option (List ByteArray)) (v:Value) (B:Nat) (w:World) (h:RV w B r v) (hB:B<=w.heap.size) (hl : ∀ l,r=some l->l.length<=850000) (hs:Sp w) (hu:U8 w) (hy:Sty w) :
  Calls prog 91 #[v] w (TRet w B (r.bind qae)):=by
 obtain ⟨A,n,c,l,bad,rfl,hW,rfl⟩:=h;obtain ⟨R,hR⟩ : ∃ x,x=(y7 bad l).bind qae:=⟨_,rfl⟩
 rw [<- hR];have hX:RX w B bad l ((w.alloc (.cells #[.slice A n c,.bool bad] 84)).alloc (.cells #[.slice none 0 0,.bool false] 84)) :=
  ⟨A,n,c,hW,Blk.alloc (Blk.new w _ _) _,Blk.new_ L1,(L5).alloc L1 _⟩
 clear hW
 cases bad with
 | true =>
  have HE:Hid (R=none):=Lh hR;clear hR hl hs hu hy
  go_enter func91,ntmps91
  go_upto_region 1 with fail
  refine qa (RX w B true l) hX ?_;clear hX;intro X hX;go_wp2
  go_loopw [4] (fun x wr=>x = .int .i64 0/\wr=X) (fun x _=>0)
  case atStart=>exact ⟨rfl,rfl⟩
  case round =>
   obtain ⟨rfl,rfl⟩:=hrel;obtain ⟨A',n',c',hW,B1,B2,tx⟩:=id hX;have z1:=B2.lt;have z0:=B1.lt;have c0:=B1.cell 0;have c1:=B1.cell 1;have d0:=B2.cell 0;have d1:=B2.cell 1;have f0:=B1.frozen 0;have f1:=B1.frozen 1;have g0:=B2.frozen 0;have g1:=B2.frozen 1;simp only [La,Lb,Lc] at c0 c1 d0 d1;have C2:=B2
   by_cases hn:n'=0
   ·subst hn;go_wp2;have Rr:=vd (a':=.slice none 0 0) (b':=.bool true) C2;have tz:=(tx.setCell (p:=⟨w.heap.size+1,0,none⟩) L7 (.slice none 0 0)).setCell (p:=⟨w.heap.size+1,1,none⟩) L7 (.bool true);exact bodyPost_ret (zn rfl _ _ (w.heap.size+1) 84 _ (0,0) _ rfl Rr underlying84 rfl zG) rfl ⟨none,[],0,_,rfl,zY _ _ _ _,by rw [HE.out];exact RV.bad _ B,tz,by rw [HE.out];rfl⟩
   ·have hn0:(0:Int)<n':=by omega
    clear hn;go_wp2;have Rr:=vd (a':=.slice none 0 0) (b':=.bool true) C2;have tz:=(tx.setCell (p:=⟨w.heap.size+1,0,none⟩) L7 (.slice none 0 0)).setCell (p:=⟨w.heap.size+1,1,none⟩) L7 (.bool true);exact bodyPost_ret (zn rfl _ _ (w.heap.size+1) 84 _ (0,0) _ rfl Rr underlying84 rfl zG) rfl ⟨none,[],0,_,rfl,zY _ _ _ _,by rw [HE.out];exact RV.bad _ B,tz,by rw [HE.out];rfl⟩
 | false =>
  have hl':=hl l rfl;have HS:Hid (Sp w/\U8 w/\Sty w):=Lh ⟨hs,hu,hy⟩;have H0:Hid (R=qaF l ((zx false (l.drop 0)).map (· + 0))):=Lh (by rw [hR];show qae l=_;rw [qka];simp);clear hR hl hs hu hy
  go_enter func91,ntmps91
  go_upto_region 1 with fail
  refine qa (RX w B false l) hX ?_;clear hX;intro X hX;go_wp2
  go_loopw [4] (fun x wr=>∃ (k:Nat),k<=l.length+1/\x = .int .i64 k/\RX w B false l wr/\Hid (R=qaF l ((zx false (l.drop k)).map (· + k)))) (fun x _=>l.length+1-(intOf x).toNat)
  case atStart=>exact ⟨0,by omega,rfl,hX,H0⟩
  case round =>
   clear hX H0;obtain ⟨k,hk,rfl,hX,HK⟩:=hrel;obtain ⟨A',n',c',hW,B1,B2,tx⟩:=id hX;have z1:=B2.lt;have z0:=B1.lt;have c0:=B1.cell 0;have c1:=B1.cell 1;have d0:=B2.cell 0;have d1:=B2.cell 1;have f0:=B1.frozen 0;have f1:=B1.frozen 1;have g0:=B2.frozen 0;have g1:=B2.frozen 1;simp only [La,Lb,Lc] at c0 c1 d0 d1;have hln:=hW.len
   by_cases hlt:k<n'
   ·have hkl:k<l.length:=by omega
    have hki:(k:Int)<n':=by omega
    obtain ⟨bw,ow,rfl,hbw,hcw⟩:=hW.rd.at_ hlt;rw [yM _ _ hkl] at hcw;replace hcw:=(tx.cell (p:=⟨bw,ow+k,none⟩) L7).trans hcw
    by_cases hwd:l[k]=vD
    ·have HK2:Hid (R=qaF l ((zx false (l.drop (k+2))).map (· + (k+2)))):=Lh (by rw [HK.out,qms hkl hwd,Option.map_map];congr 2;funext i;show i+2+k=i+(k+2);omega);have q1:(l[k].toList==[119,111,114,100])=true:=qmm hwd;generalize l[k]=s at *
     clear HK hwd hW;go_wp2;exact ⟨⟨k+2,by omega,by go_num,hX,HK2⟩,by simp [intOf];omega⟩
    ·by_cases hst:l[k]=vF
     ·have HK2:Hid (R=qaF l (some k)):=Lh (by rw [HK.out,qmo hkl hst];simp);have q1:(l[k].toList==[119,111,114,100])=false:=qit hwd;have q2:(l[k].toList==[115,116,111,112])=true:=qmr hst;generalize l[k]=s at *
      have hcap:=hW.cap;have hmax:=hW.max;have hcut:=hW.cut (k:=k+1) L0;have htk:Rd wr wr.heap.size 1 (some ⟨bw,ow,none⟩) k (sv (l.take k)):=by
       have:=((hW.rd.below (tx.mono hB)).more (Lj hB tx.size)).take (k:=k) L0
       rwa [show (sv l).take (k * 1)=sv (l.take k) by simp [sv]] at this
      have HG:=Lh (glyphs_ (l.take k) (some ⟨bw,ow,none⟩) k c' wr (by rw [Lu];omega) L0 hmax htk (fun s hs=>hW.sz s (List.mem_of_mem_take hs)) (by rw [Lu];omega) (HS.out.1.below tx (Ld _)) (HS.out.2.1.below tx) (HS.out.2.2.below tx (Ld _)));have i1:(k:Int)<=c':=by omega
      have i2:(k:Int)+1<=n':=by omega
      have i3:(k:Int)+1<=c':=by omega
      have i4:(c':Int)<=9223372036854775807:=by unfold maxLen at hmax;omega
      have i0:(0:Int)<=k:=by omega
      have HW:=Lh hW;clear HK hst hwd htk hmax hW;have HC:=hcut
      cases hg:kC (l.take k) with
      | none =>
       have HE:Hid (R=none):=Lh (by rw [HK2.out];simp [qaF,hg]);rw [hg] at HG;clear HK2 hg hcut HC
       go_wp2_with (go_at_call 106;refine HG.out.mono ?_;rintro e w1 ⟨hb1,rfl⟩;clear c0 c1 d0 d1 f0 f1 g0 g1;have C2:=B2.below hb1 B2.lt;have d0:=C2.cell 0;have d1:=C2.cell 1;have g0:=C2.frozen 0;have g1:=C2.frozen 1;simp only [La,Lb,Lc] at d0 d1)
       have Rr:=vd (a':=.slice none 0 0) (b':=.bool true) C2;have tz:=((tx.trans (hb1.mono L0)).setCell (p:=⟨w.heap.size+1,0,none⟩) L7 (.slice none 0 0)).setCell (p:=⟨w.heap.size+1,1,none⟩) L7 (.bool true);exact bodyPost_ret (zn rfl _ _ (w.heap.size+1) 84 _ (0,0) _ rfl Rr underlying84 rfl zG) rfl ⟨none,[],0,_,rfl,zY _ _ _ _,by rw [HE.out];exact RV.bad _ B,tz,by rw [HE.out];rfl⟩
      | some G =>
       rw [hg] at HG
       cases G with
       | nil =>
        have HE:Hid (R=none):=Lh (by rw [HK2.out];simp [qaF,hg]);clear HK2 hg hcut HC
        go_wp2_with (go_at_call 106;refine HG.out.mono ?_;rintro e w1 ⟨hb1,A1,c1',rfl,-⟩;clear c0 c1 d0 d1 f0 f1 g0 g1;have C2:=B2.below hb1 B2.lt;have d0:=C2.cell 0;have d1:=C2.cell 1;have g0:=C2.frozen 0;have g1:=C2.frozen 1;simp only [La,Lb,Lc] at d0 d1)
        have Rr:=vd (a':=.slice none 0 0) (b':=.bool true) C2;have tz:=((tx.trans (hb1.mono L0)).setCell (p:=⟨w.heap.size+1,0,none⟩) L7 (.slice none 0 0)).setCell (p:=⟨w.heap.size+1,1,none⟩) L7 (.bool true);exact bodyPost_ret (zn rfl _ _ (w.heap.size+1) 84 _ (0,0) _ rfl Rr underlying84 rfl zG) rfl ⟨none,[],0,_,rfl,zY _ _ _ _,by rw [HE.out];exact RV.bad _ B,tz,by rw [HE.out];rfl⟩
       | cons g0' gs =>
        have HE:Hid (R=some (g0'::gs,l.drop (k+1))):=Lh (by rw [HK2.out];simp [qaF,hg]);have hgl : ¬ ((g0'::gs).length:Int)=0:=by simp;omega
        have hgl2:(((g0'::gs).length:Int)==0)=false:=Lm.2 hgl;clear HK2 hg hcut;generalize hGG:g0'::gs=GG at *
        clear hGG hgl
        go_upto_region 11 with (go_at_call 106;refine HG.out.mono ?_;rintro e w1 ⟨hb1,A1,c1',rfl,qnx⟩;clear c0 c1 d0 d1 f0 f1 g0 g1;have C1:=B1.below hb1 B1.lt;have C2:=B2.below hb1 B2.lt;have c0:=C1.cell 0;have d0:=C2.cell 0;have d1:=C2.cell 1;have g0:=C2.frozen 0;have g1:=C2.frozen 1;simp only [La,Lb,Lc] at c0 d0 d1)
        have tx1:=tx.trans (hb1.mono L0);have hwr:IntKind.i64.wrap ((k:Int)+1)=(k:Int)+1:=by rw [Lx];omega
        have i5:(0:Int)<=(k:Int)+1:=by omega
        simp only [Nat.mul_one] at HC
        by_cases hck:c'=k+1
        ·rw [if_pos hck] at HC;subst hck;have hz2:n'=k+1:=by omega
         subst hz2;rw [Nat.sub_self] at HC;have Rr:=vd (a':=.slice (some ⟨bw,ow,none⟩) 0 0) (b':=.bool false) C2;have tz:=(tx1.setCell (p:=⟨w.heap.size+1,0,none⟩) L7 (.slice (some ⟨bw,ow,none⟩) 0 0)).setCell (p:=⟨w.heap.size+1,1,none⟩) L7 (.bool false);have Rd:=Rr.drew;have td:=tz.drew
         go_region_law (fail)
         all_goals go_wp2
         all_goals exact bodyPost_ret (zn rfl _ _ (w.heap.size+1) 84 _ (0,0) _ rfl Rd underlying84 rfl zG) rfl ⟨A1,GG,c1',_,rfl,qt (base:=wr.heap.size) (qb (zZ (zZ qnx L7 _) L7 _) (Le _ _).drew) L0,by rw [HE.out];exact ⟨_,_,_,_,false,rfl,HC.below (td.mono hB),rfl⟩,td,by rw [HE.out];rfl⟩
        ·rw [if_neg hck] at HC;have Rr:=vd (a':=.slice (some ⟨bw,ow+(k+1),none⟩) (n'-(k+1)) (c'-(k+1))) (b':=.bool false) C2;have tz:=(tx1.setCell (p:=⟨w.heap.size+1,0,none⟩) L7 (.slice (some ⟨bw,ow+(k+1),none⟩) (n'-(k+1)) (c'-(k+1)))).setCell (p:=⟨w.heap.size+1,1,none⟩) L7 (.bool false);have Rd:=Rr.drew;have td:=tz.drew
         go_region_law (fail)
         all_goals go_wp2
         all_goals exact bodyPost_ret (zn rfl _ _ (w.heap.size+1) 84 _ (0,0) _ rfl Rd underlying84 rfl zG) rfl ⟨A1,GG,c1',_,rfl,qt (base:=wr.heap.size) (qb (zZ (zZ qnx L7 _) L7 _) (Le _ _).drew) L0,by rw [HE.out];exact ⟨_,_,_,_,false,rfl,HC.below (td.mono hB),rfl⟩,td,by rw [HE.out];rfl⟩
     ·have HK2:Hid (R=qaF l ((zx false (l.drop (k+1))).map (· + (k+1)))):=Lh (by rw [HK.out,qml hkl hwd hst,Option.map_map];congr 2;funext i;show i+1+k=i+(k+1);omega);have q1:(l[k].toList==[119,111,114,100])=false:=qit hwd;have q2:(l[k].toList==[115,116,111,112])=false:=qmj hst;generalize l[k]=s at *
      clear HK hwd hst hW;go_wp2;exact ⟨⟨k+1,by omega,by go_num,hX,HK2⟩,by simp [intOf];omega⟩
   ·have HE:Hid (R=none):=Lh (by rw [HK.out,Lv L0];rfl);have hki : ¬ (k:Int)<n':=by omega
    have C2:=B2;clear HK;go_wp2;have Rr:=vd (a':=.slice none 0 0) (b':=.bool true) C2;have tz:=(tx.setCell (p:=⟨w.heap.size+1,0,none⟩) L7 (.slice none 0 0)).setCell (p:=⟨w.heap.size+1,1,none⟩) L7 (.bool true);exact bodyPost_ret (zn rfl _ _ (w.heap.size+1) 84 _ (0,0) _ rfl Rr underlying84 rfl zG) rfl ⟨none,[],0,_,rfl,zY _ _ _ _,by rw [HE.out];exact RV.bad _ B,tz,by rw [HE.out];rfl⟩
def Chg.put (c:Chg) (i:Nat) (N:Int):Chg:=match i with
 | 0=>{c with kind:=N}
 | 1=>{c with row:=N}
 | 2=>{c with col:=N}
 | 3=>{c with count:=N}
 | _=>{c with til:=N}
def yG (c:Chg) (A:Option Addr) (cap:Nat):Array Value:=#[.int .i64 c.kind,.int .i64 c.row,.int .i64 c.col,.int .i64 c.count,.int .i64 c.til,.slice A c.glyphs.length cap]
theorem qls (c:Chg) (A:Option Addr) (cap i:Nat) (N:Int) (h:i<5):(yG c A cap).setIfInBounds i (.int .i64 N)=yG (c.put i N) A cap:=by
 match i,h with
 | 0,_=>rfl
 | 1,_=>rfl
 | 2,_=>rfl
 | 3,_=>rfl
 | 4,_=>rfl
theorem qhL (c:Chg) (i:Nat) (N:Int):(c.put i N).glyphs=c.glyphs:=by
 match i with
 | 0=>rfl
 | 1=>rfl
 | 2=>rfl
 | 3=>rfl
 | _+4=>rfl
def CS (w:World) (B:Nat) (r:Option (List ByteArray)) (c:Chg) (Ag:Option Addr) (cap:Nat) (X:World):Prop :=
 ∃ A n cc l bad,r=y7 bad l/\WdR X B l A n cc/\Blk X w.heap.size 84 #[.slice A n cc,.bool bad]/\Blk X (w.heap.size+1) 71 (yG ⟨0,0,0,0,0,[]⟩ none 0)/\Blk X (w.heap.size+2) 84 #[.slice none 0 0,.bool false]/\Blk X (w.heap.size+3) 71 (yG c Ag cap)/\Below w.heap.size w X/\X.ownsRow (w.heap.size+4) 61 3 (.slice Ag c.glyphs.length cap) c.glyphs.length (qi c.glyphs)
theorem vN {X:World} {g:Nat} {t:TypeId} {a b:Value} (h:Blk X g t #[a,b]):X.cell? ⟨g,0,none⟩=some a/\X.cell? ⟨g,1,none⟩=some b/\X.frozen? ⟨g,0,none⟩=false/\X.frozen? ⟨g,1,none⟩=false:=⟨h.cell 0,h.cell 1,h.frozen 0,h.frozen 1⟩
theorem qV {X:World} {g:Nat} {t:TypeId} {c:Chg} {A:Option Addr} {cap:Nat} (h:Blk X g t (yG c A cap)):X.cell? ⟨g,0,none⟩=some (.int .i64 c.kind)/\X.cell? ⟨g,1,none⟩=some (.int .i64 c.row)/\X.cell? ⟨g,2,none⟩=some (.int .i64 c.col)/\X.cell? ⟨g,3,none⟩=some (.int .i64 c.count)/\X.cell? ⟨g,4,none⟩=some (.int .i64 c.til)/\X.cell? ⟨g,5,none⟩=some (.slice A c.glyphs.length cap)/\X.frozen? ⟨g,0,none⟩=false/\X.frozen? ⟨g,1,none⟩=false/\X.frozen? ⟨g,2,none⟩=false/\X.frozen? ⟨g,3,none⟩=false/\X.frozen? ⟨g,4,none⟩=false/\X.frozen? ⟨g,5,none⟩=false :=
 ⟨h.cell 0,h.cell 1,h.cell 2,h.cell 3,h.cell 4,h.cell 5,h.frozen 0,h.frozen 1,h.frozen 2,h.frozen 3,h.frozen 4,h.frozen 5⟩
theorem CS.size {w X:World} {B:Nat} {r:Option (List ByteArray)} {c:Chg} {Ag:Option Addr} {cap:Nat} (h:CS w B r c Ag cap X):w.heap.size+4<=X.heap.size:=by
 obtain ⟨A,n,cc,l,bad,h1,h2,h3,h4,h5,h6,h7,h8⟩:=h;have:=h6.lt
 omega
theorem CS.below {w X Y:World} {B:Nat} {r:Option (List ByteArray)} {c:Chg} {Ag:Option Addr} {cap:Nat} (h:CS w B r c Ag cap X) (hB:B<=w.heap.size) (hb:Below X.heap.size X Y):CS w B r c Ag cap Y:=by
 have hz:=h.size;obtain ⟨A,n,cc,l,bad,h1,h2,h3,h4,h5,h6,h7,h8⟩:=h;exact ⟨A,n,cc,l,bad,h1,h2.below (hb.mono L0),h3.below hb h3.lt,h4.below hb h4.lt,h5.below hb h5.lt,h6.below hb h6.lt,h7.trans (hb.mono L0),qb h8 hb⟩
theorem CS.drew {w X:World} {B:Nat} {r:Option (List ByteArray)} {c:Chg} {Ag:Option Addr} {cap:Nat} (h:CS w B r c Ag cap X) (hB:B<=w.heap.size):CS w B r c Ag cap X.drew:=h.below hB (Le _ _).drew
theorem CS.set_ {w X:World} {B:Nat} {r:Option (List ByteArray)} {c:Chg} {Ag:Option Addr} {cap:Nat} (h:CS w B r c Ag cap X) (hB:B<=w.heap.size) (i:Nat) (N:Int) (hi:i<5):CS w B r (c.put i N) Ag cap (X.setCell ⟨w.heap.size+3,i,none⟩ (.int .i64 N)):=by
 obtain ⟨A,n,cc,l,bad,h1,h2,h3,h4,h5,h6,h7,h8⟩:=h;refine ⟨A,n,cc,l,bad,h1,h2.below ((Le B X).setCell L7 _),h3.far L7 _,h4.far L7 _,h5.far L7 _,?_,h7.setCell L7 _,?_⟩
 ·have:=h6.set_ i (.int .i64 N)
  rwa [qls _ _ _ _ _ hi] at this
 ·rw [qhL];exact zZ h8 L7 _
theorem CS.turn {w X:World} {B:Nat} {r r':Option (List ByteArray)} {c:Chg} {Ag:Option Addr} {cap:Nat} {A:Option Addr} {n cc:Nat} {l:List ByteArray} {bad:Bool} (h:CS w B r c Ag cap X) (hB:B<=w.heap.size) (hW:WdR X B l A n cc) (hr:r'=y7 bad l) :
  CS w B r' c Ag cap ((X.setCell ⟨w.heap.size,0,none⟩ (.slice A n cc)).setCell ⟨w.heap.size,1,none⟩ (.bool bad)):=by
 obtain ⟨A0,n0,cc0,l0,bad0,h1,h2,h3,h4,h5,h6,h7,h8⟩:=h;exact ⟨A,n,cc,l,bad,hr,hW.below (((Le B X).setCell (p:=⟨w.heap.size,0,none⟩) hB _).setCell (p:=⟨w.heap.size,1,none⟩) hB _),vd h3,(h4.far (p:=⟨w.heap.size,0,none⟩) L7 _).far (p:=⟨w.heap.size,1,none⟩) L7 _,(h5.far (p:=⟨w.heap.size,0,none⟩) L7 _).far (p:=⟨w.heap.size,1,none⟩) L7 _,(h6.far (p:=⟨w.heap.size,0,none⟩) L7 _).far (p:=⟨w.heap.size,1,none⟩) L7 _,(h7.setCell (p:=⟨w.heap.size,0,none⟩) (Ld _) _).setCell (p:=⟨w.heap.size,1,none⟩) (Ld _) _,zZ (zZ h8 (p:=⟨w.heap.size,0,none⟩) L7 _) (p:=⟨w.heap.size,1,none⟩) L7 _⟩
theorem CS.spoil {w X:World} {B:Nat} {r:Option (List ByteArray)} {c:Chg} {Ag:Option Addr} {cap:Nat} (h:CS w B r c Ag cap X) (hB:B<=w.heap.size):CS w B none c Ag cap (X.setCell ⟨w.heap.size,1,none⟩ (.bool true)):=by
 obtain ⟨A0,n0,cc0,l0,bad0,h1,h2,h3,h4,h5,h6,h7,h8⟩:=h;refine ⟨A0,n0,cc0,l0,true,rfl,h2.below ((Le B X).setCell (p:=⟨w.heap.size,1,none⟩) hB _),?_,h4.far (p:=⟨w.heap.size,1,none⟩) L7 _,h5.far (p:=⟨w.heap.size,1,none⟩) L7 _,h6.far (p:=⟨w.heap.size,1,none⟩) L7 _,h7.setCell (p:=⟨w.heap.size,1,none⟩) (Ld _) _,zZ h8 (p:=⟨w.heap.size,1,none⟩) L7 _⟩;have:=h3.set_ 1 (.bool true)
 simpa using this
theorem CS.glyphs {w X:World} {B:Nat} {r:Option (List ByteArray)} {c:Chg} {Ag:Option Addr} {cap:Nat} (h:CS w B r c Ag cap X) (hB:B<=w.heap.size) {G:List Gl} {A:Option Addr} {cp:Nat} (ho:X.ownsRow (w.heap.size+4) 61 3 (.slice A G.length cp) G.length (qi G)):CS w B r {c with glyphs:=G} A cp (X.setCell ⟨w.heap.size+3,5,none⟩ (.slice A G.length cp)):=by
 obtain ⟨A0,n,cc,l,bad,h1,h2,h3,h4,h5,h6,h7,h8⟩:=h;refine ⟨A0,n,cc,l,bad,h1,h2.below ((Le B X).setCell L7 _),h3.far L7 _,h4.far L7 _,h5.far L7 _,?_,h7.setCell L7 _,zZ ho L7 _⟩;have:=h6.set_ 5 (.slice A G.length cp);exact this
def CRet (w:World) (B:Nat) (c:Chg) (r:Option (List ByteArray)) (e:Ending) (w':World):Prop:=∃ Ag cap v,e = .returned (.tuple #[.agg (yG c Ag cap),v])/\RV w' B r v/\Below w.heap.size w w'/\w'.ownsRow w.heap.size 61 3 (.slice Ag c.glyphs.length cap) c.glyphs.length (qi c.glyphs)
theorem jg {P:Program} {fn:Func} {p q:Tmp} {ty ty2:TypeId} (h:fn.results = #[.cell p ty,.cell q ty2]) (tmps:Array Value) (w:World) (g g2:Nat) (t t2:TypeId) (cs cs2:Array Value) (fr fr2:Nat × Nat) (d d2:TypeDesc)
  (hp:tmps.getD p undef = .pointer (some ⟨g,0,none⟩)) (hg:w.heap[g]? = some (.cells cs t fr))
  (hu:P.underlying ty=some d) (hd:(match d with | .struct _ | .array _ _=>true | _=>false)=true) (hi:(P.info? ty).map (·.size)=some cs.size)
  (hp2:tmps.getD q undef = .pointer (some ⟨g2,0,none⟩)) (hg2:w.heap[g2]? = some (.cells cs2 t2 fr2))
  (hu2:P.underlying ty2=some d2) (hd2:(match d2 with | .struct _ | .array _ _=>true | _=>false)=true) (hi2:(P.info? ty2).map (·.size)=some cs2.size) :
  (results fn tmps).run P w = .ok (.tuple #[.agg cs,.agg cs2]) w:=by
 simp only [results,h];have hp':tmps[p]?.getD undef = .pointer (some ⟨g,0,none⟩):=by simpa using hp
 have hq':tmps[q]?.getD undef = .pointer (some ⟨g2,0,none⟩):=by simpa using hp2
 simp [Sem.run_bind,Result.andThen,hp',hq',asAddr,run_loadVar_row w g t ty cs fr d hg hu hd hi,run_loadVar_row w g2 t2 ty2 cs2 fr2 d2 hg2 hu2 hd2 hi2]
theorem yo:(prog.info? 71).map (fun x=>x.size)=some 6:=by kernel_rfl
theorem qmh {X:World} {g:Nat} {A:Option Addr} {cap:Nat} {c0 c:Chg} {A0:Option Addr} {cap0:Nat} (h:Blk X g 71 (yG c0 A0 cap0)):Blk ((((((X.setCell ⟨g,0,none⟩ (.int .i64 c.kind)).setCell ⟨g,1,none⟩ (.int .i64 c.row)).setCell ⟨g,2,none⟩ (.int .i64 c.col)).setCell ⟨g,3,none⟩ (.int .i64 c.count)).setCell ⟨g,4,none⟩ (.int .i64 c.til)).setCell ⟨g,5,none⟩ (.slice A c.glyphs.length cap)) g 71 (yG c A cap):=by
 exact (((((h.set_ 0 _).set_ 1 _).set_ 2 _).set_ 3 _).set_ 4 _).set_ 5 _
theorem qhB {X:World} {g k:Nat} (hk:k<=g) (a b c d e f:Value):Below k X ((((((X.setCell ⟨g,0,none⟩ a).setCell ⟨g,1,none⟩ b).setCell ⟨g,2,none⟩ c).setCell ⟨g,3,none⟩ d).setCell ⟨g,4,none⟩ e).setCell ⟨g,5,none⟩ f) :=
 ((((((Le k X).setCell (p:=⟨g,0,none⟩) hk a).setCell (p:=⟨g,1,none⟩) hk b).setCell (p:=⟨g,2,none⟩) hk c).setCell (p:=⟨g,3,none⟩) hk d).setCell (p:=⟨g,4,none⟩) hk e).setCell (p:=⟨g,5,none⟩) hk f
def qc3 (w X:World) (c:Chg) (Ag:Option Addr) (cap:Nat) (A:Option Addr) (n cc:Nat) (bad:Bool):World :=
 (((((((X.setCell ⟨w.heap.size+1,0,none⟩ (.int .i64 c.kind)).setCell ⟨w.heap.size+1,1,none⟩ (.int .i64 c.row)).setCell ⟨w.heap.size+1,2,none⟩ (.int .i64 c.col)).setCell ⟨w.heap.size+1,3,none⟩ (.int .i64 c.count)).setCell ⟨w.heap.size+1,4,none⟩ (.int .i64 c.til)).setCell ⟨w.heap.size+1,5,none⟩ (.slice Ag c.glyphs.length cap)).setCell ⟨w.heap.size+2,0,none⟩ (.slice A n cc)).setCell ⟨w.heap.size+2,1,none⟩ (.bool bad)
theorem fin_ {w X:World} {B:Nat} {c0:Chg} {A0:Option Addr} {cap0:Nat} {x y:Value} {r:Option (List ByteArray)} {c:Chg} {Ag:Option Addr} {cap:Nat} {A:Option Addr} {n cc:Nat} {l:List ByteArray} {bad:Bool} (hB:B<=w.heap.size) (hr:r=y7 bad l) (hW:WdR X B l A n cc) (R2:Blk X (w.heap.size+1) 71 (yG c0 A0 cap0)) (R3:Blk X (w.heap.size+2) 84 #[x,y]) (tx:Below w.heap.size w X) (hO:X.ownsRow (w.heap.size+4) 61 3 (.slice Ag c.glyphs.length cap) c.glyphs.length (qi c.glyphs)) :
  Blk (qc3 w X c Ag cap A n cc bad) (w.heap.size+1) 71 (yG c Ag cap)/\Blk (qc3 w X c Ag cap A n cc bad) (w.heap.size+2) 84 #[.slice A n cc,.bool bad]/\RV (qc3 w X c Ag cap A n cc bad) B r (.agg #[.slice A n cc,.bool bad])/\Below w.heap.size w (qc3 w X c Ag cap A n cc bad)/\(qc3 w X c Ag cap A n cc bad).ownsRow w.heap.size 61 3 (.slice Ag c.glyphs.length cap) c.glyphs.length (qi c.glyphs):=by
 have b6:=fun k (hk:k<=w.heap.size+1)=>qhB (X:=X) hk (.int .i64 c.kind) (.int .i64 c.row) (.int .i64 c.col) (.int .i64 c.count) (.int .i64 c.til) (.slice Ag c.glyphs.length cap)
 have b8 : ∀ k,k<=w.heap.size+1->Below k X (qc3 w X c Ag cap A n cc bad):=fun k hk=>((b6 k hk).setCell (p:=⟨w.heap.size+2,0,none⟩) L7 _).setCell (p:=⟨w.heap.size+2,1,none⟩) L7 _
 refine ⟨?_,?_,⟨A,n,cc,l,bad,rfl,hW.below (b8 B L0),hr⟩,tx.trans (b8 _ L0),qt (base:=w.heap.size+4) ?_ L0⟩
 ·exact ((qmh R2).far (p:=⟨w.heap.size+2,0,none⟩) L7 _).far (p:=⟨w.heap.size+2,1,none⟩) L7 _
 ·have R3':=((((((R3.far (p:=⟨w.heap.size+1,0,none⟩) L7 (.int .i64 c.kind)).far (p:=⟨w.heap.size+1,1,none⟩) L7 (.int .i64 c.row)).far (p:=⟨w.heap.size+1,2,none⟩) L7 (.int .i64 c.col)).far (p:=⟨w.heap.size+1,3,none⟩) L7 (.int .i64 c.count)).far (p:=⟨w.heap.size+1,4,none⟩) L7 (.int .i64 c.til)).far (p:=⟨w.heap.size+1,5,none⟩) L7 (.slice Ag c.glyphs.length cap))
  exact vd R3'
 ·unfold qc3
  iterate 8 refine zZ ?_ (by first | (show w.heap.size+1<_;omega) | (show w.heap.size+2<_;omega)) _
  exact hO
theorem qaV {w X:World} {B:Nat} {c0:Chg} {A0:Option Addr} {cap0:Nat} {x y:Value} {r:Option (List ByteArray)} {c:Chg} {Ag:Option Addr} {cap:Nat} {A:Option Addr} {n cc:Nat} {l:List ByteArray} {bad:Bool} (hB:B<=w.heap.size) (hr:r=y7 bad l) (hW:WdR X B l A n cc) (R2:Blk X (w.heap.size+1) 71 (yG c0 A0 cap0)) (R3:Blk X (w.heap.size+2) 84 #[x,y]) (tx:Below w.heap.size w X) (hO:X.ownsRow (w.heap.size+4) 61 3 (.slice Ag c.glyphs.length cap) c.glyphs.length (qi c.glyphs)) :
  Blk (qc3 w X c Ag cap A n cc bad).drew (w.heap.size+1) 71 (yG c Ag cap)/\Blk (qc3 w X c Ag cap A n cc bad).drew (w.heap.size+2) 84 #[.slice A n cc,.bool bad]/\RV (qc3 w X c Ag cap A n cc bad).drew B r (.agg #[.slice A n cc,.bool bad])/\Below w.heap.size w (qc3 w X c Ag cap A n cc bad).drew/\(qc3 w X c Ag cap A n cc bad).drew.ownsRow w.heap.size 61 3 (.slice Ag c.glyphs.length cap) c.glyphs.length (qi c.glyphs):=by
 obtain ⟨h1,h2,h3,h4,h5⟩:=fin_ hB hr hW R2 R3 tx hO;exact ⟨h1.drew,h2.drew,h3.below (Le _ _).drew,h4.drew,qb h5 (Le _ _).drew⟩
def AftE (X:World) (B:Nat) (x:Int × Option (List ByteArray)) (e:Ending) (w':World):Prop:=∃ A n c l bad,e = .returned (.tuple #[.int .i64 x.1,.agg #[.slice A n c,.bool bad]])/\WdR w' B l A n c/\x.2=y7 bad l/\Below X.heap.size X w'
theorem uaft1 (r:Option (List ByteArray)) (v:Value) (s:ByteArray) (B:Nat) (X:World) (h:RV X B r v) (hB:B<=X.heap.size):Calls prog 67 #[v,.slice (some ⟨X.heap.size,0,none⟩) 1 1] (X.alloc (.cells #[.string s] 9)) (AftE X B (qN (r.bind (skO s)))):=by
 have ha:Below X.heap.size X (X.alloc (.cells #[.string s] 9)):=L5;have hz:(X.alloc (.cells #[.string s] 9)).heap.size=X.heap.size+1:=by simp
 refine (qh6 r v [s] (some ⟨X.heap.size,0,none⟩) 1 1 B _ (h.below (ha.mono hB)) L0 rfl L2 ?_).mono ?_
 ·rw [hz];exact qe (xs:=[.string s]) rfl rfl
 ·rintro e w' ⟨v',rfl,⟨A,n,c,l,bad,rfl,hW,hr⟩,hb⟩;exact ⟨A,n,c,l,bad,rfl,hW,hr,ha.trans (hb.mono L0)⟩
theorem uaft2 (r:Option (List ByteArray)) (v:Value) (s t:ByteArray) (B:Nat) (X:World) (h:RV X B r v) (hB:B<=X.heap.size):Calls prog 67 #[v,.slice (some ⟨X.heap.size,0,none⟩) 2 2] (X.alloc (.cells #[.string s,.string t] 9)) (AftE X B (qN ((r.bind (skO s)).bind (skO t)))):=by
 have ha:Below X.heap.size X (X.alloc (.cells #[.string s,.string t] 9)):=L5;have hz:(X.alloc (.cells #[.string s,.string t] 9)).heap.size=X.heap.size+1:=by simp
 refine (qh6 r v [s,t] (some ⟨X.heap.size,0,none⟩) 2 2 B _ (h.below (ha.mono hB)) L0 rfl L2 ?_).mono ?_
 ·rw [hz];exact qe (xs:=[.string s,.string t]) rfl rfl
 ·rintro e w' ⟨v',rfl,⟨A,n,c,l,bad,rfl,hW,hr⟩,hb⟩;exact ⟨A,n,c,l,bad,rfl,hW,hr,ha.trans (hb.mono L0)⟩
def SkpE (X:World) (B:Nat) (r:Option (List ByteArray)) (e:Ending) (w':World):Prop:=∃ A n c l bad,e = .returned (.agg #[.slice A n c,.bool bad])/\WdR w' B l A n c/\r=y7 bad l/\Below X.heap.size X w'
theorem qev (r:Option (List ByteArray)) (v:Value) (s:ByteArray) (B:Nat) (X:World) (h:RV X B r v) (hB:B<=X.heap.size):Calls prog 68 #[v,.slice (some ⟨X.heap.size,0,none⟩) 1 1] (X.alloc (.cells #[.string s] 9)) (SkpE X B (r.bind (skO s))):=by
 have ha:Below X.heap.size X (X.alloc (.cells #[.string s] 9)):=L5;have hz:(X.alloc (.cells #[.string s] 9)).heap.size=X.heap.size+1:=by simp
 refine (uskip_ r v [s] (some ⟨X.heap.size,0,none⟩) 1 1 B _ (h.below (ha.mono hB)) L0 rfl L2 ?_).mono ?_
 ·rw [hz];exact qe (xs:=[.string s]) rfl rfl
 ·rintro e w' ⟨v',rfl,hv,hb⟩;obtain ⟨A,n,c,l,bad,rfl,hW,hr⟩:=hv.below (hb.mono L0);exact ⟨A,n,c,l,bad,rfl,hW,hr,ha.trans (hb.mono L0)⟩
def AftC (w:World) (B:Nat) (c:Chg) (i:Nat) (x:Int × Option (List ByteArray)) (A':Option Addr) (n' c':Nat) (bad':Bool) (e:Ending) (w1:World):Prop:=∃ A1 n1 cc bad v,e = .returned (.tuple #[.int .i64 x.1,.agg #[.slice A1 n1 cc,.bool bad]]) /\
 w1.cell? ⟨w.heap.size,0,none⟩=some (.slice A' n' c')/\w1.cell? ⟨w.heap.size,1,none⟩=some (.bool bad')/\w1.frozen? ⟨w.heap.size,0,none⟩=false/\w1.frozen? ⟨w.heap.size,1,none⟩=false/\w1.cell? ⟨w.heap.size+3,i,none⟩=some (.int .i64 v)/\w1.frozen? ⟨w.heap.size+3,i,none⟩=false /\
 CS w B x.2 (c.put i x.1) none 0 (((w1.setCell ⟨w.heap.size+3,i,none⟩ (.int .i64 x.1)).setCell ⟨w.heap.size,0,none⟩ (.slice A1 n1 cc)).setCell ⟨w.heap.size,1,none⟩ (.bool bad))
theorem AftC.of {w X w1:World} {B:Nat} {r:Option (List ByteArray)} {c:Chg} {i:Nat} {x:Int × Option (List ByteArray)} {A':Option Addr} {n' c':Nat} {bad':Bool} {e:Ending} (hX:CS w B r c none 0 X) (hB:B<=w.heap.size) (R1:Blk X w.heap.size 84 #[.slice A' n' c',.bool bad']) (R4:Blk X (w.heap.size+3) 71 (yG c none 0)) (hi:i<5) (h:AftE X B x e w1):AftC w B c i x A' n' c' bad' e w1:=by
 obtain ⟨A1,n1,cc1,l1,qmK,rfl,hW1,hr1,hb1⟩:=h;have hY:=hX.below hB hb1;have h2:=vN (R1.below hb1 R1.lt);have K:=R4.below hb1 R4.lt;have h3:=qV K;obtain ⟨v,hv⟩ : ∃ v,w1.cell? ⟨w.heap.size+3,i,none⟩=some (.int .i64 v):=by
  match i,hi with
  | 0,_=>exact ⟨_,h3.1⟩
  | 1,_=>exact ⟨_,h3.2.1⟩
  | 2,_=>exact ⟨_,h3.2.2.1⟩
  | 3,_=>exact ⟨_,h3.2.2.2.1⟩
  | 4,_=>exact ⟨_,h3.2.2.2.2.1⟩
 exact ⟨A1,n1,cc1,qmK,v,rfl,h2.1,h2.2.1,h2.2.2.1,h2.2.2.2,hv,K.frozen i,(hY.set_ hB i x.1 hi).turn hB (hW1.below ((Le B w1).setCell (p:=⟨w.heap.size+3,i,none⟩) L7 (.int .i64 x.1))) hr1⟩
theorem CS.af_ {w X:World} {B:Nat} {r:Option (List ByteArray)} {c:Chg} (hX:CS w B r c none 0 X) (hB:B<=w.heap.size) (s:ByteArray) (i:Nat) (hi:i<5) {x:Int × Option (List ByteArray)} (hx:Hid (x=qN (r.bind (skO s)))) :
  ∃ A' n' c' bad',X.cell? ⟨w.heap.size,0,none⟩=some (.slice A' n' c')/\X.cell? ⟨w.heap.size,1,none⟩=some (.bool bad')/\Calls prog 67 #[.agg #[.slice A' n' c',.bool bad'],.slice (some ⟨X.heap.size,0,none⟩) 1 1] (X.alloc (.cells #[.string s] 9)) (AftC w B c i x A' n' c' bad'):=by
 obtain ⟨A',n',c',l',bad',hr',hW,R1,R2,R3,R4,tx,hO⟩:=id hX;have h1:=vN R1;refine ⟨A',n',c',bad',h1.1,h1.2.1,(uaft1 r _ s B X ⟨A',n',c',l',bad',rfl,hW,hr'⟩ (Lj hB tx.size)).mono ?_⟩;rw [<- hx.out];exact fun e w1 h=>AftC.of hX hB R1 R4 hi h
theorem CS.af2_ {w X:World} {B:Nat} {r:Option (List ByteArray)} {c:Chg} (hX:CS w B r c none 0 X) (hB:B<=w.heap.size) (s t:ByteArray) (i:Nat) (hi:i<5) {x:Int × Option (List ByteArray)} (hx:Hid (x=qN ((r.bind (skO s)).bind (skO t)))) :
  ∃ A' n' c' bad',X.cell? ⟨w.heap.size,0,none⟩=some (.slice A' n' c')/\X.cell? ⟨w.heap.size,1,none⟩=some (.bool bad')/\Calls prog 67 #[.agg #[.slice A' n' c',.bool bad'],.slice (some ⟨X.heap.size,0,none⟩) 2 2] (X.alloc (.cells #[.string s,.string t] 9)) (AftC w B c i x A' n' c' bad'):=by
 obtain ⟨A',n',c',l',bad',hr',hW,R1,R2,R3,R4,tx,hO⟩:=id hX;have h1:=vN R1;refine ⟨A',n',c',bad',h1.1,h1.2.1,(uaft2 r _ s t B X ⟨A',n',c',l',bad',rfl,hW,hr'⟩ (Lj hB tx.size)).mono ?_⟩;rw [<- hx.out];exact fun e w1 h=>AftC.of hX hB R1 R4 hi h
theorem CS.nx_ {w X:World} {B:Nat} {r:Option (List ByteArray)} {c:Chg} (hX:CS w B r c none 0 X) (hB:B<=w.heap.size) (s:ByteArray) :
  ∃ A' n' c' bad',X.cell? ⟨w.heap.size,0,none⟩=some (.slice A' n' c')/\X.cell? ⟨w.heap.size,1,none⟩=some (.bool bad')/\Calls prog 40 #[.agg #[.slice A' n' c',.bool bad'],.string s] X fun e w1=>e = .returned (.bool (qX r s))/\CS w B r c none 0 w1:=by
 obtain ⟨A',n',c',l',bad',hr',hW,R1,R2,R3,R4,tx,hO⟩:=id hX;have h1:=vN R1;refine ⟨A',n',c',bad',h1.1,h1.2.1,(qdo r _ s B X ⟨A',n',c',l',bad',rfl,hW,hr'⟩ (Lj hB tx.size)).mono ?_⟩;rintro e w1 ⟨rfl,hb1⟩;exact ⟨rfl,hX.below hB hb1⟩
end Go.Proofs.YtggegijlfaipfaaGreatDoor
