/- Joined: Cl2, Rn5, Cl3, Gl1, Gl2, Sp0, Sk0, Sy1, Wo0, Bk0, Bk1, Bk2, FmP, UtP, UtP2, UtP3, LvP, LvM. -/
import Derived.Test.YtbogmeeijdaijaaGreatDoorZAD
set_option linter.unusedVariables false
set_option linter.unusedSimpArgs false
set_option linter.unnecessarySimpa false
set_option maxHeartbeats 2000000
namespace Go.Proofs.YtbogmeeijdaijaaGreatDoor
open Go.Proofs.Tryz Go.RowKit
set_option maxRecDepth 20000
theorem rd_tailC {w:World} {B n c:Nat} {b o:Nat} {r:Nat} {t:List Nat} (hn:t.length+1=n) (hc:n<=c) (rd:Rd w B 1 (some ⟨b,o,none⟩) n (chV (r::t))) :
  Rd w B 1 (if c=1 then some ⟨b,o,none⟩ else some ⟨b,o+1,none⟩) (n-1) (chV t):=by
 have h:=rd.cut (k:=1) (cap:=c) L0 hc;simp only [Nat.mul_one,Option.map_some,vl] at h;exact h
theorem qh2 {w:World} {B n b o:Nat} {v:Value} {xs:List Value} (rd:Rd w B 1 (some ⟨b,o,none⟩) n (v::xs)) (hn:0<n):w.cell? ⟨b,o,none⟩=some v:=(rd.form hn).2.2 0 v rfl
theorem kT {s:ByteArray} (h:s.size≠0):s.toList.isEmpty=false:=by
 rw [ByteArray.toList_eq,List.isEmpty_eq_false_iff];intro e;have:=congrArg List.length e;exact h (by simpa using this)
theorem qgV (w:World):Calls prog 93 #[.string ⟨#[]⟩] w (qh (.int .i64 3) w):=by
 go_enter func93,ntmps93
 go_wp2;go_ret;exact ⟨rfl,Le _ _⟩
theorem qi6 (s:ByteArray) (hs:s.size<=1000000000) (h0:s.size≠0) (hv:vb s=false) (w:World) (hu:U8 w):Calls prog 93 #[.string s] w (qh (.int .i64 3) w):=by
 have HV:=Lh (valid_ s hs w hu);rw [hv] at HV;have he:=kT h0;clear hu hv
 go_enter func93,ntmps93
 go_wp2_with (go_at_call 115;refine HV.out.mono ?_;rintro e w1 ⟨rfl,hbel1⟩)
 go_ret;exact ⟨rfl,hbel1⟩
theorem qho (s:ByteArray) (hs:s.size<=1000000000) (h0:s.size≠0) (hv:vb s=true) (w:World) (hu:U8 w) (r:Nat) (t:List Nat) (hc:qs (qB s)=r::t) :
  Calls prog 93 #[.string s] w (qh (.int .i64 (if zR (r:Int)<1∨(t.all fun (x:Nat)=>inT qM (x:Int))=false then 9 else if 3<t.length then 5 else 0)) w):=by
 have HV:=Lh (valid_ s hs w hu);rw [hv] at HV;have he:=kT h0;have HC:Hid (∀ w,_):=Lh (qbK s hv hs);have hl:=jB s;rw [hc] at HC hl;rw [Lp] at HC hl;have HW:=Lh (qgZ (r:Int));have HM:=Lh (fun (n c B:Nat) A w=>marked_ t A n c B w);generalize (t.all fun (x:Nat)=>inT qM (x:Int))=M at *
 generalize zR (r:Int)=W at *
 obtain ⟨RES,hRES⟩ : ∃ x:Int,x=if W<1∨M=false then 9 else if 3<t.length then 5 else 0:=⟨_,rfl⟩
 rw [<- hRES];have HRES:=Lh hRES;clear hu hv hc hRES
 go_enter func93,ntmps93
 go_upto_region 3 with (go_at_call 115;refine HV.out.mono ?_;rintro e w1 ⟨rfl,hbel1⟩)
 obtain ⟨c2,w2,hrun,rd2,hbel2,hcap⟩:=HC.out w1;have z1:=hbel1.size;have z2:=hbel2.size
 go_upto_region 4 with fail
 have cell0:w2.cell? ⟨w1.heap.size,0,none⟩=some (.int .i32 (r:Int)):=qh2 rd2 L0;have HT:=Lh (rd_tailC rfl hcap rd2);rw [Nat.add_sub_cancel,Lo] at HT
 by_cases hw:W<1
 ·go_wp2_with (go_at_call 116;refine (HW.out _).mono ?_;rintro e w3 ⟨rfl,hbel3⟩)
  go_ret;exact ⟨by rw [HRES.out,if_pos (.inl hw)];rfl,(hbel1.trans (hbel2.mono z1)).trans (hbel3.mono L0)⟩
 ·cases M with
  | false =>
   go_wp2_with (first
    | (go_at_call 116;refine (HW.out _).mono ?_;rintro e w3 ⟨rfl,hbel3⟩;have z3:=hbel3.size)
    | (go_at_call 117;refine (HM.out _ _ w2.heap.size _ _ rfl L0 (HT.out.below hbel3) z3).mono ?_;rintro e w4 ⟨rfl,hbel4⟩))
   all_goals go_ret
   all_goals exact ⟨by rw [HRES.out,if_pos L1];rfl,((hbel1.trans (hbel2.mono z1)).trans (hbel3.mono L0)).trans (hbel4.mono L0)⟩
  | true =>
   by_cases h3:3<t.length
   ·go_wp2_with (first
     | (go_at_call 116;refine (HW.out _).mono ?_;rintro e w3 ⟨rfl,hbel3⟩;have z3:=hbel3.size)
     | (go_at_call 117;refine (HM.out _ _ w2.heap.size _ _ rfl L0 (HT.out.below hbel3) z3).mono ?_;rintro e w4 ⟨rfl,hbel4⟩))
    all_goals go_ret
    all_goals exact ⟨by rw [HRES.out,if_neg (by simp;omega),if_pos h3];rfl,((hbel1.trans (hbel2.mono z1)).trans (hbel3.mono L0)).trans (hbel4.mono L0)⟩
   ·go_wp2_with (first
     | (go_at_call 116;refine (HW.out _).mono ?_;rintro e w3 ⟨rfl,hbel3⟩;have z3:=hbel3.size)
     | (go_at_call 117;refine (HM.out _ _ w2.heap.size _ _ rfl L0 (HT.out.below hbel3) z3).mono ?_;rintro e w4 ⟨rfl,hbel4⟩))
    all_goals go_ret
    all_goals exact ⟨by rw [HRES.out,if_neg (by simp;omega),if_neg h3];rfl,((hbel1.trans (hbel2.mono z1)).trans (hbel3.mono L0)).trans (hbel4.mono L0)⟩
theorem qdB (s:ByteArray) (hs:s.size<=1000000000) (w:World) (hu:U8 w):Calls prog 93 #[.string s] w (qh (.int .i64 (zB s)) w):=by
 by_cases h0:s.size=0
 ·rw [qaK h0];obtain rfl:s=⟨#[]⟩:=ByteArray.ext (Array.eq_empty_of_size_eq_zero h0);exact qgV w
 ·unfold zB
  cases hv:vb s with
  | false=>exact qi6 s hs h0 hv w hu
  | true =>
   rw [if_neg L1]
   cases hc:qs (qB s) with
   | nil =>
    exfalso
    rw [vb,decide_eq_true_eq,hc] at hv;have:=congrArg List.length hv;rw [zT] at this;exact h0 this.symm
   | cons r t=>exact qho s hs h0 hv w hu r t hc
theorem qkb (s:ByteArray):(⟨((qB s).map fun b=>UInt8.ofNat b).toArray⟩:ByteArray)=s:=by
 apply ByteArray.ext
 apply Array.toList_inj.1
 simp [qB,Function.comp_def]
theorem qbR (s:ByteArray):yI (qs (qB s))=s↔vb s=true:=by
 rw [vb,decide_eq_true_eq]
 constructor
 ·intro h;have h2:qB (yI (qs (qB s)))=zm (qs (qB s)):=by
   unfold yI
   show List.map UInt8.toNat (List.toArray _).toList=_
   rw [List.map_map];refine (List.map_congr_left (g:=id) fun b hb=>?_).trans (List.map_id _);have:=qfl (yD (qB s)) b hb
   simp
   omega
  rw [<- h2,h]
 ·intro h;unfold yI;rw [h];exact qkb s
theorem runes_ (s:ByteArray) (hs:s.size<=1000000000) (w:World) (hu:U8 w) (hc:zB s=0) :
  Calls prog 118 #[.string s] w fun e w'=>∃ A c,e = .returned (.slice A (qs (qB s)).length c)/\Below w.heap.size w w'/\(qs (qB s)).length<=c:=by
 have HK:=Lh (qdB s hs w hu);rw [hc] at HK;have HC:Hid (∀ w,_):=Lh (qbK s (vL.1 hc).1 hs);generalize qs (qB s)=L at *
 clear hu hc
 go_enter func118,ntmps118
 go_upto_region 3 with (go_at_call 93;refine HK.out.mono ?_;rintro e w1 ⟨rfl,hbel1⟩)
 obtain ⟨c2,w2,hrun,rd2,hbel2,hcap⟩:=HC.out w1;go_wp2;go_ret;exact ⟨_,_,rfl,hbel1.trans (hbel2.mono hbel1.size),hcap⟩
theorem qj6 (s:ByteArray) (hs:s.size<=1000000000) (w:World) (hu:U8 w) (hc:zB s=0) :
  Calls prog 205 #[.string s] w fun e w'=>∃ A c,e = .returned (.slice A ((qs (qB s)).length-1) c)/\Below w.heap.size w w':=by
 have HK:=Lh (runes_ s hs w hu hc);obtain ⟨_,r,t,hL,_⟩:=vL.1 hc;have hl:=jB s;rw [hL] at HK hl;rw [hL];rw [Lp] at HK hl;rw [Lp];generalize t.length=n at *
 clear hu hc hL
 go_enter func205,ntmps205
 go_wp2_with (go_at_call 118;refine HK.out.mono ?_;rintro e w1 ⟨A1,c1,rfl,hbel1,hcap⟩)
 all_goals go_ret
 all_goals exact ⟨⟨_,_,rfl⟩,hbel1⟩
def attV (x:ByteArray × Int):Value:=.tuple #[.string x.1,.int .i64 x.2]
theorem qeI (w:World) (r:Nat) (e:TypeId):Rd (w.alloc (.cells #[.int .i32 (r:Int)] e)) (w.heap.size+1) 1 (some ⟨w.heap.size,0,none⟩) 1 (chV [r]):=qe (xs:=chV [r]) rfl rfl
theorem attach_ (s:ByteArray) (hs:s.size<=1000000000) (r:Nat) (hr:qR r) (w:World) (hu:U8 w) :
  Calls prog 193 #[.string s,.int .i32 (r:Int)] w (qh (attV (ye s (r:Int))) w):=by
 have HK:=Lh (qdB s hs w hu);have HM:=Lh (mark_ (r:Int));have HU:=Lh hu;unfold ye
 by_cases hc:zB s=0
 ·rw [if_neg (by simp [hc])];rw [hc] at HK;generalize hmk:inT qM (r:Int)=M at *
  cases M with
  | false =>
   rw [if_pos rfl];clear hu
   go_enter func193,ntmps193
   go_wp2_with (first
    | (go_at_call 93;refine HK.out.mono ?_;rintro e w1 ⟨rfl,hbel1⟩)
    | (go_at_call 134;refine (HM.out _).mono ?_;rintro e w2 ⟨rfl,hbel2⟩))
   go_ret2;exact ⟨rfl,hbel1.trans (hbel2.mono hbel1.size)⟩
  | true =>
   rw [if_neg L1];have HL:Hid (∀ w,U8 w->_):=Lh fun w hu=>qj6 s hs w hu hc
   have HE:=Lh (fun A c B w=>qiC r hr A c B w);have hpos:0<(qs (qB s)).length:=by
    obtain ⟨_,r,t,hL,_⟩:=vL.1 hc;rw [hL];simp
   have hl:=jB s
   have HS:Hid ((kt r).size<=4):=Lh (by
    have:=(qaR r).2
    show (List.toArray _).size<=4
    simpa using this)
   have hto:(r:Int).toNat=r:=rfl;rw [hto];generalize (qs (qB s)).length=n at *
   generalize kt r=E at *
   clear hu hc hmk
   by_cases h4:4<=n
   ·rw [if_pos h4]
    go_enter func193,ntmps193
    go_wp2_with (first
     | (go_at_call 93;refine HK.out.mono ?_;rintro e w1 ⟨rfl,hbel1⟩)
     | (go_at_call 134;refine (HM.out _).mono ?_;rintro e w2 ⟨rfl,hbel2⟩;have t2:=hbel1.trans (hbel2.mono hbel1.size))
     | (go_at_call 205;refine (HL.out _ (HU.out.below t2)).mono ?_;rintro e w3 ⟨A3,c3,rfl,hbel3⟩;have t3:=t2.trans (hbel3.mono t2.size)))
    go_ret2;exact ⟨rfl,t3⟩
   ·rw [if_neg h4];have hS:=HS.out
    go_enter func193,ntmps193
    go_wp2_with (first
     | (go_at_call 93;refine HK.out.mono ?_;rintro e w1 ⟨rfl,hbel1⟩)
     | (go_at_call 134;refine (HM.out _).mono ?_;rintro e w2 ⟨rfl,hbel2⟩;have t2:=hbel1.trans (hbel2.mono hbel1.size))
     | (go_at_call 205;refine (HL.out _ (HU.out.below t2)).mono ?_;rintro e w3 ⟨A3,c3,rfl,hbel3⟩;have t3:=t2.trans (hbel3.mono t2.size))
     | (go_at_call 194;refine (HE.out _ _ _ _ (qeI _ r _) L1).mono ?_;rintro e w4 ⟨rfl,hbel4⟩))
    go_ret2;exact ⟨rfl,(t3.alloc t3.size _).trans (hbel4.mono (by have:=t3.size;simp;omega))⟩
 ·rw [if_pos hc];generalize zB s=K at *
  have hcb:(K != 0)=true:=Ln.2 hc;clear hu hc
  go_enter func193,ntmps193
  go_wp2_with (go_at_call 93;refine HK.out.mono ?_;rintro e w1 ⟨rfl,hbel1⟩)
  go_ret2;exact ⟨rfl,hbel1⟩
def qJ (g:Gl):Int:=if zB g.text≠0 then 3 else if g.wide≠decide (kb g.text=2)∨g.style<0∨3<g.style∨(g.style=3/\g.text≠⟨#[42]⟩) then 9 else 0
theorem qdC (s:ByteArray):(s.toList==[42])=decide (s=⟨#[42]⟩):=by
 have:=jO s ⟨#[42]⟩;rw [<- this]
 simp [ByteArray.toList_eq]
theorem jK {w:World} {B n:Nat} {A:Option Addr} {l:List Gl} (rd:Rd w B 3 A n (qi l)):l.length=n:=by
 have:=rd.1;rw [qbi] at this
 omega
theorem rsamerow (l m:List Gl) (A A':Option Addr) (n n' c c' B:Nat) (w:World) (hn:n<=1000000000) (rd:Rd w B 3 A n (qi l)) (rd':Rd w B 3 A' n' (qi m)) :
  Calls prog 49 #[.slice A n c,.slice A' n' c'] w (Quiet (.bool (decide (l=m))) w):=by
 have HN:=Lh (jK rd);have HN':=Lh (jK rd')
 by_cases hnn:n=n'
 ·subst hnn
  go_enter func49,ntmps49
  go_wp2
  go_loopw [5] (fun x wr=>∃ k j:Nat,k<=n/\x = .int .i64 k/\wr=w.drewN j/\Hid (∀ i (h1:i<l.length) (h2:i<m.length),i<k->l[i]=m[i])) (fun x _=>n-(intOf x).toNat)
  case atStart=>exact ⟨0,0,Nat.zero_le _,rfl,rfl,Lh fun i _ _ h=>absurd h (Nat.not_lt_zero i)⟩
  case round =>
   obtain ⟨k,j,hk,rfl,rfl,HE⟩:=hrel
   by_cases hlt:k<n
   ·have hk1:k<l.length:=by have:=HN.out;omega
    have hk2:k<m.length:=by have:=HN'.out;omega
    obtain ⟨b,o,rfl,_,g0,g1,g2⟩:=jE rd hk1 HN.out;obtain ⟨b',o',rfl,_,g0',g1',g2'⟩:=jE rd' hk2 HN'.out;have hq:=neq_gl l[k] m[k];have hg:=qa2 l[k] m[k] .neq
    by_cases he:l[k]=m[k]
    ·have HE2:Hid (∀ i (h1:i<l.length) (h2:i<m.length),i<k+1->l[i]=m[i]):=Lh fun i h1 h2 hi=>by
      rcases Nat.lt_or_ge i k with h | h
      ·exact HE.out i h1 h2 h
      ·obtain rfl:i=k:=by omega
       exact he
     rw [Ll he] at hq;clear he;generalize l[k]=r at *
     generalize m[k]=r' at *
     go_wp2
     go_quiet (fail)
     go_wp2;exact ⟨⟨k+1,_,by omega,by go_num,rfl,HE2⟩,by simp [intOf];omega⟩
    ·rw [Lk he] at hq;have HD:Hid (decide (l=m)=false):=Lh (Lk fun e=>he (by subst e;rfl));clear he;generalize decide (l=m)=R at *
     generalize l[k]=r at *
     generalize m[k]=r' at *
     go_wp2
     go_quiet (fail)
     go_wp2;go_ret;exact ⟨by rw [HD.out];rfl,_,World.drewN_drewN _ _ _⟩
   ·obtain rfl:k=n:=by omega
    have HD:Hid (decide (l=m)=true):=Lh (Ll (List.ext_getElem (by rw [HN.out,HN'.out]) fun i h1 h2=>HE.out i h1 h2 (by have:=HN.out;omega)));generalize decide (l=m)=R at *
    go_wp2;go_ret;exact ⟨by rw [HD.out];rfl,_,rfl⟩
 ·have HD:Hid (decide (l=m)=false):=Lh (Lk fun e=>hnn (by rw [<- HN.out,<- HN'.out,e]));have hni:((n:Int) != (n':Int))=true:=by simp;omega
  generalize decide (l=m)=R at *
  go_enter func49,ntmps49
  go_wp2;go_ret;exact ⟨by rw [HD.out];rfl,0,rfl⟩
structure PieceOK (l:List Gl):Prop where
 n:l.length<=1000
 sz : ∀ g∈l,g.text.size<=1000
 ltr : ∀ g t,l=g::t->qd g=1∨qd g=2->∀ x∈l,qd x=1∨qd x=2
 dig : ∀ g t,l=g::t->qd g=3->∀ x∈l,qd x=3
 oth : ∀ g t,l=g::t->qd g=0->vb g.text=true
def GOK (g:Gl):Prop:=zB g.text=0/\g.text.size<=1000
theorem ji {r:Nat} (h:qR r):zC (r:Int)=true:=by
 unfold qR at h;rw [jV];unfold ks
 omega
def Sty (w:World):Prop:=∀ i:Nat,i<4->w.cell? ⟨6,i,none⟩=some (.string (vP i))
theorem Sty.below {w w':World} {B:Nat} (h:Sty w) (hb:Below B w w') (hB:w.heap.size<=B):Sty w':=fun i hi=>(hb.cell (Ly (yY (h i hi)) hB)).trans (h i hi)
def GW (g:Gl):Prop:=GOK g/\0<=g.style/\g.style<=3
def WoI (S:Setts) (R:List ByteArray) (q:Spk) (rest:List Gl):Prop :=
 R=(qQ S rest.length q rest).out/\(∀ x∈rest,GW x)/\q.out.length+50000 * rest.length<=50000000/\(∀ s∈q.out,s.size<=maxLen)
theorem WoI.len {S:Setts} {R:List ByteArray} {q:Spk} {l:List Gl} (h:WoI S R q l):l.length<=1000:=by
 have:=h.2.2.1
 omega
theorem WoI.start (S:Setts) (l:List Gl) (hl:l.length<=1000) (h : ∀ x∈l,GW x):WoI S (qz l S) ⟨[],0,0,false⟩ l:=by
 refine ⟨rfl,h,?_,by simp⟩
 simp
 omega
def inC (c:ByteArray):Bool:=ctrlL.any fun x=>decide (x=c)
theorem y9 {α:Type} (f:Unit->Option α):(none:Option α).orElse f=f ():=rfl
theorem some_or {α:Type} (a:α) (f:Unit->Option α):(some a).orElse f=some a:=rfl
theorem noRes {s c:ByteArray} (h:jF s=false) (hc:inC c=true):s≠c:=by
 rintro rfl;have:jF s=true:=by
  unfold jF;rw [Bool.or_eq_true,Bool.or_eq_true];exact .inl (.inl hc)
 rw [this] at h
 cases h
theorem qjD (i:Nat) (hi:i<4):inC (vP i)=true:=by
 have : ∀ i:Fin 4,inC (vP i.val)=true:=by decide +kernel
 exact this ⟨i,hi⟩
theorem qjf {s:ByteArray} (h : ∀ i,i<4->vP i≠s):vY s=none:=by
 unfold vY;rw [List.find?_eq_none];intro i hi
 simp at hi
 simpa using h i hi
theorem qi1 (j:Nat) (hj:j<32):vY (wb j)=none:=by
 have : ∀ j:Fin 32,vY (wb j.val)=none:=by decide +kernel
 exact this ⟨j,hj⟩
theorem qkh (j:Nat) (hj:j<32):vY (nb j)=none:=by
 have : ∀ j:Fin 32,vY (nb j.val)=none:=by decide +kernel
 exact this ⟨j,hj⟩
def NoSty (s:ByteArray):Prop:=vY s=none/\s≠zO
theorem NoSty.lit {s:ByteArray} (h:jF s=false):NoSty s:=⟨qjf fun i hi e=>noRes h (qjD i hi) e.symm,noRes h L4⟩
theorem NoSty.wb {j:Nat} (hj:j<32):NoSty (wb j):=⟨qi1 j hj,by
 have : ∀ j:Fin 32,Go.Proofs.YtbogmeeijdaijaaGreatDoor.wb j.val≠zO:=by decide +kernel
 exact this ⟨j,hj⟩⟩
theorem NoSty.nb {j:Nat} (hj:j<32):NoSty (nb j):=⟨qkh j hj,by
 have : ∀ j:Fin 32,Go.Proofs.YtbogmeeijdaijaaGreatDoor.nb j.val≠zO:=by decide +kernel
 exact this ⟨j,hj⟩⟩
theorem NoSty.cap:NoSty bCap:=⟨by decide +kernel,by decide +kernel⟩
theorem NoSty.word:NoSty vD:=⟨by decide +kernel,by decide +kernel⟩
theorem NoSty.digits:NoSty vI:=⟨by decide +kernel,by decide +kernel⟩
theorem NoSty.cB:NoSty cB:=⟨by decide +kernel,by decide +kernel⟩
def NoLit (s:ByteArray):Prop:=s≠bCap/\s≠yi/\s≠vD/\s≠qS/\s≠vI/\(azB s=true->jF s=true)
theorem NoLit.word {a:ByteArray} {t:List ByteArray} {p:Prs} (hw:p.words=a::t) (h:NoLit a):jP p=none:=by
 obtain ⟨h1,h2,h3,h4,h5,h6⟩:=h;unfold jP;rw [hw];simp only;rw [if_neg h1,if_neg h2];rw [yl,if_neg (fun h=>h3 h.1),if_neg (fun h=>by rw [h6 h.1] at h;cases h.2),if_neg h4]
 rfl
theorem resB_wb (j:Nat) (hj:j<32):jF (wb j)=true:=by
 have : ∀ j:Fin 32,jF (wb j.val)=true:=by decide +kernel
 exact this ⟨j,hj⟩
theorem resB_nb (j:Nat) (hj:j<32):jF (nb j)=true:=by
 have : ∀ j:Fin 32,jF (nb j.val)=true:=by decide +kernel
 exact this ⟨j,hj⟩
theorem NoLit.wb {j:Nat} (hj:j<32):NoLit (wb j):=by
 have : ∀ j:Fin 32,Go.Proofs.YtbogmeeijdaijaaGreatDoor.wb j.val≠bCap/\Go.Proofs.YtbogmeeijdaijaaGreatDoor.wb j.val≠yi/\Go.Proofs.YtbogmeeijdaijaaGreatDoor.wb j.val≠vD/\Go.Proofs.YtbogmeeijdaijaaGreatDoor.wb j.val≠qS/\Go.Proofs.YtbogmeeijdaijaaGreatDoor.wb j.val≠vI:=by decide +kernel
 obtain ⟨a,b,c,d,e⟩:=this ⟨j,hj⟩;exact ⟨a,b,c,d,e,fun _=>resB_wb j hj⟩
theorem NoLit.nb {j:Nat} (hj:j<32):NoLit (nb j):=by
 have : ∀ j:Fin 32,Go.Proofs.YtbogmeeijdaijaaGreatDoor.nb j.val≠bCap/\Go.Proofs.YtbogmeeijdaijaaGreatDoor.nb j.val≠yi/\Go.Proofs.YtbogmeeijdaijaaGreatDoor.nb j.val≠vD/\Go.Proofs.YtbogmeeijdaijaaGreatDoor.nb j.val≠qS/\Go.Proofs.YtbogmeeijdaijaaGreatDoor.nb j.val≠vI:=by decide +kernel
 obtain ⟨a,b,c,d,e⟩:=this ⟨j,hj⟩;exact ⟨a,b,c,d,e,fun _=>resB_nb j hj⟩
theorem NoLit.cB:NoLit cB:=⟨by decide +kernel,by decide +kernel,by decide +kernel,by decide +kernel,by decide +kernel,fun _=>by decide +kernel⟩
theorem qbZ {j:Nat} (hj:j<32) (t:List ByteArray):charW (wb j::t)=none:=by
 have : ∀ j:Fin 32,wb j.val≠yB/\qdK (wb j.val)=none/\wb j.val≠cB:=by decide +kernel
 obtain ⟨a,b,c⟩:=this ⟨j,hj⟩;simp only at a b c;rw [charW,if_neg a,zM,b];simp only;rw [if_neg c]
theorem litL_pos {l:List ByteArray} {s:ByteArray} {n:Nat} (h:yl l=some (s,n)):0<n:=by
 cases l with
 | nil=>cases h
 | cons a t =>
  rw [yl] at h
  split at h
  ·injection h with h;injection h with _ h;omega
  ·split at h
   ·injection h with h;injection h with _ h;omega
   ·split at h
    ·unfold ya at h
     split at h
     ·cases h
     ·split at h
      ·injection h with h;injection h with _ h;omega
      ·cases h
    ·cases h
theorem qcB {l:List ByteArray} {r:Int} {n:Nat} (h:charW l=some (r,n)):0<n/\n<=l.length/\zC r=true:=by
 cases l with
 | nil=>cases h
 | cons a t =>
  rw [charW] at h
  split at h
  ·injection h with h;injection h with h1 h;subst h1 h;exact ⟨by omega,by simp,by decide⟩
  ·obtain ⟨a,b,c,_⟩:=qaj h;exact ⟨b,c,a⟩
theorem qar {p:Prs} {s:ByteArray} {k:Nat} (hp:p.words≠[]) (hk:0<k):(kN p s k).words.length<p.words.length:=by
 have:=List.length_pos_iff.2 hp
 show (p.words.drop k).length<_
 rw [List.length_drop]
 omega
theorem qcs {p q:Prs} (h:va p=some q):q.words.length<p.words.length:=by
 unfold va at h
 cases h1:zP p with
 | some q' =>
  rw [h1,some_or] at h;obtain rfl:q'=q:=by injection h
  unfold zP at h1
  split at h1
  ·cases h1
  ·rename_i a t hw
   rw [hw]
   split at h1
   ·injection h1 with h1;subst h1;simp
   ·split at h1
    ·injection h1 with h1;subst h1;simp
    ·cases h1
 | none =>
  rw [h1,y9] at h
  cases h2:jP p with
  | some q' =>
   rw [h2,some_or] at h;obtain rfl:q'=q:=by injection h
   unfold jP at h2
   split at h2
   ·cases h2
   ·rename_i a t hw
    have hne:p.words≠[]:=by rw [hw];simp
    split at h2
    ·rw [Option.map_eq_some_iff] at h2;obtain ⟨⟨s,n⟩,_,rfl⟩:=h2;exact qar hne L0
    ·split at h2
     ·rw [Option.map_eq_some_iff] at h2;obtain ⟨⟨s,n⟩,_,rfl⟩:=h2;exact qar hne L0
     ·rw [Option.map_eq_some_iff] at h2;obtain ⟨⟨s,n⟩,hl,rfl⟩:=h2;exact qar hne (litL_pos hl)
  | none =>
   rw [h2,y9] at h
   cases h3:qaP p with
   | some q' =>
    rw [h3,some_or] at h;obtain rfl:q'=q:=by injection h
    unfold qaP at h3
    split at h3
    ·cases h3
    ·rename_i a t hw
     split at h3
     ·injection h3 with h3
      subst h3;exact qar (by rw [hw];simp) L0
     ·cases h3
   | none =>
    rw [h3,y9] at h
    cases h4:ko p with
    | some q' =>
     rw [h4,some_or] at h;obtain rfl:q'=q:=by injection h
     unfold ko at h4
     split at h4
     ·cases h4
     ·rename_i r n hc
      obtain ⟨a,b,_⟩:=qcB hc
      split at h4
      ·injection h4 with h4
       subst h4
       show (p.words.drop n).length<_
       rw [List.length_drop]
       omega
      ·cases h4
    | none =>
     rw [h4,y9] at h;unfold kD at h
     split at h
     ·cases h
     ·rename_i n k hk
      obtain ⟨a,b,_⟩:=zF hk
      split at h
      ·cases h
      ·split at h
       ·split at h
        ·cases h
        ·rename_i r m hc
         split at h
         ·injection h with h
          subst h
          show (p.words.drop _).length<_
          rw [List.length_drop]
          omega
         ·cases h
       ·injection h with h
        subst h;exact qar (by rintro e;rw [e] at b;simp at b;omega) a
def LtrPat (T:List UInt8):Prop:=T≠[]/\((∀ c∈T,vg c.toNat=1)∨(∃ c t,T=c::t/\vg c.toNat=2/\∀ x∈t,vg x.toNat=1)∨(2<=T.length/\∀ c∈T,vg c.toNat=2))
theorem LtrPat.kind {T:List UInt8} (h:LtrPat T) : ∀ c∈T,vg c.toNat=1∨vg c.toNat=2:=by
 intro c hc
 rcases h.2 with h | ⟨a,t,rfl,h1,h2⟩ | ⟨_,h⟩
 ·exact .inl (h c hc)
 ·rcases List.mem_cons.1 hc with rfl | hc
  ·exact .inr h1
  ·exact .inl (h2 c hc)
 ·exact .inr (h c hc)
theorem qds {s:ByteArray}:qL s=true↔∃ j,j<32/\wb j=s:=by
 unfold qL;rw [List.any_eq_true]
 simp
theorem NoNum.of {a:ByteArray} (h:qL a=false) (t:List ByteArray):NoNum (a::t):=by
 intro x t' e j hj he
 injection e with e _
 subst e;have:=qds.2 ⟨j,hj,he⟩;rw [h] at this
 cases this
theorem NoNum.spell {m:Nat} (h:qR m) (t:List ByteArray):NoNum (qD (m:Int)++t):=by
 unfold qD
 cases hi:jM (m:Int) with
 | some i=>exact NoNum.nb (jz hi).1 _
 | none =>
  rw [ji h];exact NoNum.cB _
def GF (g:Gl):Prop:=zB g.text=0/\g.wide=decide (kb g.text=2)
theorem GF.form {g:Gl} (h:GF g) : ∃ r t,qs (qB g.text)=r::t/\qR r/\(∀ x∈t,qR x)/\1<=zR (r:Int)/\(∀ x∈t,inT qM (x:Int)=true)/\t.length<=3/\g.text=yI (r::t)/\g.wide=decide (zR (r:Int)=2):=by
 obtain ⟨hv,r,t,hc,hw,hm,hl⟩:=vL.1 h.1;have hch:=yD (qB g.text);rw [hc] at hch;refine ⟨r,t,hc,hch r L1,fun x hx=>hch x (by simp [hx]),hw,List.all_eq_true.1 hm,hl,?_,?_⟩
 ·rw [<- hc];exact ((qbR _).2 hv).symm
 ·have:=h.2;unfold kb at this;rw [if_pos h.1,hc] at this;exact this
def vF:ByteArray:=⟨#[115,116,111,112]⟩
def frmF:Bool->List ByteArray->Option Bool
 | b,[]=>some b
 | b,a::t=>if azB a=false∨(a=vF/\b=false) then none else frmF (decide (a=vD)&&!b) t
theorem qfC : ∀ (A B:List ByteArray) (b:Bool),frmF b (A++B)=(frmF b A).bind fun c=>frmF c B
 | [],B,b=>rfl
 | a::t,B,b=>by
  rw [List.cons_append,frmF,frmF]
  split
  ·rfl
  ·exact qfC t B _
def Clo (W:List ByteArray):Prop:=frmF false W=some false
theorem Clo.nil:Clo []:=rfl
theorem Clo.app {A B:List ByteArray} (hA:Clo A) (hB:Clo B):Clo (A++B):=by
 unfold Clo at *
 rw [qfC,hA];exact hB
def okW (a:ByteArray):Bool:=azB a&&!(decide (a=vF))&&!(decide (a=vD))
theorem Clo.one {a:ByteArray} (h:okW a=true):Clo [a]:=by
 unfold okW at h;simp only [Bool.and_eq_true,Bool.not_eq_true',decide_eq_false_iff_not] at h;obtain ⟨⟨h1,h2⟩,h3⟩:=h;unfold Clo;rw [frmF,if_neg (by rintro (h | ⟨h,_⟩);(rw [h1] at h;cases h);exact h2 h),Lk h3]
 rfl
theorem Clo.all : ∀ {W:List ByteArray},(∀ a∈W,okW a=true)->Clo W
 | [],_=>Clo.nil
 | a::t,h=>Clo.app (A:=[a]) (Clo.one (h a L1)) (Clo.all fun x hx=>h x (by simp [hx]))
def jS:ByteArray:=⟨#[115,105,122,101]⟩
def kv:ByteArray:=⟨#[114,111,119,115]⟩
def jl:ByteArray:=⟨#[99,111,108,117,109,110,115]⟩
def q8:ByteArray:=⟨#[115,99,114,111,108,108]⟩
def qI:ByteArray:=⟨#[108,105,110,101]⟩
def bTo:ByteArray:=⟨#[116,111]⟩
def bUp:ByteArray:=⟨#[117,112]⟩
def jj:ByteArray:=⟨#[100,111,119,110]⟩
def qO:ByteArray:=⟨#[99,111,108,117,109,110]⟩
def qK:ByteArray:=⟨#[105,110,115,101,114,116]⟩
def q9:ByteArray:=⟨#[100,101,108,101,116,101]⟩
def q7:ByteArray:=⟨#[99,117,114,115,111,114]⟩
def ze:ByteArray:=⟨#[118,105,115,105,98,108,101]⟩
def zK:ByteArray:=⟨#[105,110,118,105,115,105,98,108,101]⟩
def kZ:ByteArray:=⟨#[109,111,114,101]⟩
def jN:ByteArray:=⟨#[100,111,110,101]⟩
def jG:ByteArray:=⟨#[117,112,100,97,116,101,115]⟩
structure Chg where
 kind:Int
 row:Int
 col:Int
 count:Int
 til:Int
 glyphs:List Gl
def qY (n:Int):List ByteArray:=(qm n).map wb
def je (c:Chg):Bool :=
 if c.kind=1 then decide (1<=c.row/\c.row<=60/\1<=c.col/\c.col<=132)
 else if c.kind=2 then decide (0<=c.row/\c.row<=59/\c.row+1<=c.til/\c.til<=60 /\ -60<=c.count/\c.count<=60/\c.count≠0)
 else if c.kind=3 then decide (0<=c.row/\c.row<=59/\0<=c.col/\c.col<=132/\0<=c.count/\c.count<=132)
 else decide (0<=c.row/\c.row<=59/\0<=c.col/\c.col<=131/\0<=c.count/\c.count<=1)
def jk (c:Chg):Bool :=
 if c.kind=1 then decide (c.count=0/\c.til=0/\c.glyphs=[])
 else if c.kind=2 then decide (c.col=0/\c.glyphs=[])
 else if c.kind=3 then decide (c.til=0)&&c.glyphs.all fun g=>decide (qJ g=0)
 else decide (c.til=0/\c.glyphs=[])
def vj (c:Chg):Int :=
 if c.kind<1∨4<c.kind then 9
 else if je c=false then 2
 else if c.kind=3/\132<c.glyphs.length then 5
 else if jk c=false then 1
 else 0
def phraseL (c:Chg) (S:Setts):List ByteArray :=
 if c.kind=1 then jS::(qY c.row++kv::(qY c.col++[jl]))
 else if c.kind=2 then q8::qI::(qY (c.row+1)++bTo::(qY c.til++(if 0<c.count then bUp::qY c.count else jj::qY (-c.count))))
 else if c.kind=3 then qI::(qY (c.row+1)++qO::(qY (c.col+1)++((if 0<c.count then q9::qY c.count else [])++(if c.glyphs=[] then [] else qK::(qz c.glyphs S++[vF])))))
 else if c.kind=4 then q7::qI::(qY (c.row+1)++qO::(qY (c.col+1)++[if c.count=1 then ze else zK]))
 else []
def endW (n:Int):List ByteArray:=if n=0 then [kZ] else if n=1 then [jN] else jN::(qY n++[jG])
def qZ (l:List Chg) (n:Int) (S:Setts):List ByteArray:=(l.flatMap fun c=>phraseL c S)++endW n
def vT (s:ByteArray):List ByteArray->Bool
 | a::_=>decide (a=s)
 | []=>false
def skO (s:ByteArray):List ByteArray->Option (List ByteArray)
 | a::t=>if a=s then some t else none
 | []=>none
def kU (l:List ByteArray):Option (Int × List ByteArray):=(prefixL l).map fun x=>(x.1,l.drop x.2)
def afO (s:ByteArray) (l:List ByteArray):Option (Int × List ByteArray):=(skO s l).bind kU
def zx:Bool->List ByteArray->Option Nat
 | _,[]=>none
 | true,_::t=>(zx false t).map (· + 1)
 | false,a::t=>if a=vD then (zx true t).map (· + 1) else if a=vF then some 0 else (zx false t).map (· + 1)
def qae (l:List ByteArray):Option (List Gl × List ByteArray):=(zx false l).bind fun i=>match kC (l.take i) with
 | some (g::gs)=>some (g::gs,l.drop (i+1))
 | _=>none
def delL (l:List ByteArray):Option (Int × List ByteArray):=if vT q9 l=true then (afO q9 l).bind fun x=>if x.1<1 then none else some x else some (0,l)
def insL (l:List ByteArray):Option (List Gl × List ByteArray):=if vT qK l=true then (skO qK l).bind qae else some ([],l)
def qbo (l:List ByteArray):Option (Chg × List ByteArray) :=
 (afO qI l).bind fun x=>(afO qO x.2).bind fun y=>(delL y.2).bind fun z=>(insL z.2).map fun g=>(⟨3,x.1-1,y.1-1,z.1,0,g.1⟩,g.2)
def qaL (l:List ByteArray):Option (Chg × List ByteArray) :=
 if vT jS l=true then (afO jS l).bind fun x=>(afO kv x.2).bind fun y=>(skO jl y.2).map fun t=>(⟨1,x.1,y.1,0,0,[]⟩,t)
 else if vT q8 l=true then ((skO q8 l).bind (afO qI)).bind fun x=>(afO bTo x.2).bind fun y =>
  if vT jj y.2=true then (afO jj y.2).bind fun z=>if z.1<0 then none else some (⟨2,x.1-1,0,-z.1,y.1,[]⟩,z.2)
  else (afO bUp y.2).bind fun z=>if z.1<0 then none else some (⟨2,x.1-1,0,z.1,y.1,[]⟩,z.2)
 else if vT qI l=true then qbo l
 else if vT q7 l=true then ((skO q7 l).bind (afO qI)).bind fun x=>(afO qO x.2).bind fun y =>
  if vT ze y.2=true then (skO ze y.2).map fun t=>(⟨4,x.1-1,y.1-1,1,0,[]⟩,t)
  else (skO zK y.2).map fun t=>(⟨4,x.1-1,y.1-1,0,0,[]⟩,t)
 else none
def ki (l:List ByteArray):Option Int :=
 if vT kZ l=true then (if l.length=1 then some 0 else none)
 else (skO jN l).bind fun t=>if t=[] then some 1 else (kU t).bind fun x=>(skO jG x.2).bind fun u=>if u=[]/\1<x.1 then some x.1 else none
def yR:Nat->List ByteArray->List Chg->Option (List Chg × Int)
 | 0,_,_=>none
 | f+1,l,acc=>if vT kZ l=true∨vT jN l=true then (ki l).map fun n=>(acc,n) else (qaL l).bind fun x=>if vj x.1=0 then yR f x.2 (acc++[x.1]) else none
def jm (l:List ByteArray):Option (List Chg × Int):=yR (l.length+1) l []
theorem yL (s:ByteArray) (t:List ByteArray):skO s (s::t)=some t:=by simp [skO]
def NoW (a:ByteArray):Prop:=∀ j,j<32->wb j≠a
theorem NoW.num {a:ByteArray} (h:NoW a) (t:List ByteArray):NoNum (a::t):=fun x t' e j hj=>by
 injection e with e1 _
 subst e1;exact h j hj
def nxtB:List ByteArray:=[jS,q8,qI,q7,kZ,jN]
theorem noW_nxt : ∀ a∈nxtB,NoW a:=by unfold NoW nxtB;decide +kernel
def Nxt (t:List ByteArray):Prop:=∃ a u,t=a::u/\a∈nxtB
theorem Nxt.num {t:List ByteArray} (h:Nxt t):NoNum t:=by
 obtain ⟨a,u,rfl,ha⟩:=h;exact (noW_nxt a ha).num u
theorem qcr {g:Gl} (h:qJ g=0):GF g/\0<=g.style/\g.style<=3:=by
 unfold qJ at h
 split at h
 ·cases h
 ·rename_i h3
  split at h
  ·cases h
  ·rename_i h4
   refine ⟨⟨Decidable.not_not.1 h3,Decidable.not_not.1 fun e=>h4 (.inl e)⟩,?_,?_⟩
   ·rcases Int.lt_or_le g.style 0 with h | h
    ·exact absurd (.inr (.inl h)) h4
    ·exact h
   ·rcases Int.lt_or_le 3 g.style with h | h
    ·exact absurd (.inr (.inr (.inl h))) h4
    ·exact h
theorem qdG {c:Chg} (h:vj c=0):(1<=c.kind/\c.kind<=4)/\je c=true/\¬ (c.kind=3/\132<c.glyphs.length)/\jk c=true:=by
 unfold vj at h
 split at h
 ·cases h
 ·rename_i h1
  split at h
  ·cases h
  ·rename_i h2
   split at h
   ·cases h
   ·rename_i h3
    split at h
    ·cases h
    ·rename_i h4
     exact ⟨by omega,by simpa using h2,h3,by simpa using h4⟩
theorem qi5 {l r:List ByteArray} {n:Int} (h:kU l=some (n,r)) : -999999999<=n/\n<=999999999:=by
 unfold kU at h
 cases hp:prefixL l with
 | none=>rw [hp] at h;cases h
 | some x =>
  obtain ⟨m,k⟩:=x;rw [hp] at h;simp only [Option.map_some,Option.some.injEq,Prod.mk.injEq] at h;obtain ⟨rfl,_⟩:=h;obtain ⟨_,_,_,hnum,_⟩:=zF hp;obtain ⟨h1,h2,_⟩:=vp hnum;exact ⟨h1,h2⟩
theorem qiQ {l:List ByteArray} {n:Int} (h:ki l=some n):0<=n/\n<=999999999:=by
 unfold ki at h
 split at h
 ·split at h
  ·injection h with h;omega
  ·cases h
 ·cases hs:skO jN l with
  | none=>rw [hs] at h;cases h
  | some t =>
   rw [hs,Option.bind_some] at h
   split at h
   ·injection h with h;omega
   ·cases hn:kU t with
    | none=>rw [hn] at h;cases h
    | some x =>
     obtain ⟨m,r⟩:=x;rw [hn,Option.bind_some] at h;simp only at h
     cases hu:skO jG r with
     | none=>rw [hu] at h;cases h
     | some u =>
      rw [hu,Option.bind_some] at h
      split at h
      ·rename_i hc
       injection h with h
       have:=qi5 hn
       omega
      ·cases h
theorem qdi : ∀ (f:Nat) (l:List ByteArray) (acc m:List Chg) (n:Int),(∀ c∈acc,vj c=0)->yR f l acc=some (m,n)->(∀ c∈m,vj c=0)/\0<=n/\n<=999999999
 | 0,l,acc,m,n,_,h=>by cases h
 | f+1,l,acc,m,n,ha,h=>by
  rw [yR] at h
  split at h
  ·cases he:ki l with
   | none=>rw [he] at h;cases h
   | some k =>
    rw [he] at h;simp only [Option.map_some,Option.some.injEq,Prod.mk.injEq] at h;obtain ⟨rfl,rfl⟩:=h;exact ⟨ha,qiQ he⟩
  ·cases hc:qaL l with
   | none=>rw [hc] at h;cases h
   | some x =>
    obtain ⟨c,r⟩:=x;rw [hc,Option.bind_some] at h;simp only at h
    split at h
    ·rename_i h0
     exact qdi f r (acc++[c]) m n (fun x hx=>by
      rcases List.mem_append.1 hx with h' | h'
      ·exact ha x h'
      ·rw [List.mem_singleton] at h'
       exact h' ▸ h0) h
    ·cases h
theorem qbv {l:List ByteArray} {m:List Chg} {n:Int} (h:jm l=some (m,n)):(∀ c∈m,vj c=0)/\0<=n/\n<=999999999:=qdi _ _ _ _ _ (fun c hc=>by cases hc) h
structure Vw where
 width:Int
 height:Int
 rows:List (List Gl)
 row:Int
 col:Int
 vis:Bool
def vw0:Vw:=⟨0,0,[],0,0,false⟩
def spG:Gl:=⟨⟨#[32]⟩,false,0⟩
def glW (g:Gl):Nat:=if g.wide=true then 2 else 1
def kw (l:List Gl):Nat:=(l.filter fun g=>g.wide).length
def vM (l:List Gl):Nat:=l.length+kw l
def zI (l:List Gl):List Gl:=(l.reverse.dropWhile fun g=>decide (g=spG)).reverse
def vR (w h:Int):Bool:=decide (1<=w/\w<=132/\1<=h/\h<=60)
def yK:List Gl->Int
 | []=>0
 | g::t=>if qJ g≠0 then qJ g else yK t
def rowC (w:Int) (l:List Gl):Int:=if yK l≠0 then yK l else if w<vM l then 12 else if l.getLast? = some spG then 1 else 0
def yh (w:Int):List (List Gl)->Int
 | []=>0
 | l::t=>if rowC w l≠0 then rowC w l else yh w t
def js (v:Vw):Int:=if vR v.width v.height=false then 2 else if (v.rows.length:Int)≠v.height then 11 else if v.row<0∨v.height<=v.row∨v.col<0∨v.width<=v.col then 2 else yh v.width v.rows
def zS (c:Chg):Bool :=
 if c.kind=1 then decide (c.count=0/\c.til=0/\c.glyphs=[])
 else if c.kind=2 then decide (c.col=0/\c.glyphs=[])
 else if c.kind=3 then decide (c.til=0)
 else decide (c.til=0/\c.glyphs=[])
def zh (v:Vw) (c:Chg):Bool :=
 if c.kind=1 then decide (1<=c.row/\c.row<=60/\1<=c.col/\c.col<=132)
 else if c.kind=2 then decide (0<=c.row/\c.row<c.til/\c.til<=v.height/\c.count≠0/\c.count<c.til-c.row/\c.row-c.til<c.count)
 else if c.kind=3 then decide (0<=c.row/\c.row<=v.height-1/\0<=c.col/\c.col<=264/\0<=c.count/\(c.count=0∨c.col+c.count<=((v.rows.getD c.row.toNat []).length:Int)))
 else decide (0<=c.row/\c.row<=v.height-1/\0<=c.col/\c.col<=v.width-1/\0<=c.count/\c.count<=1)
def qan (v:Vw) (c:Chg):Int:=if c.kind<1∨4<c.kind then 9 else if zS c=false then 1 else if zh v c=false then 2 else yK c.glyphs
def qaT:Int->List Gl->Nat
 | _,[]=>0
 | w,g::t=>if w<(glW g:Int) then 0 else qaT (w-glW g) t+1
def kr (w:Int) (l:List Gl):List Gl:=zI (l.take (qaT w l))
def zV (l:List Gl) (col count:Nat) (gs:List Gl):List Gl:=l.take col++List.replicate (col-l.length) spG++gs++l.drop (col+count)
def kP (rows:List (List Gl)) (top til by_:Int) (i:Nat):List Gl :=
 if top<=(i:Int)/\(i:Int)<til then (if top<=(i:Int)+by_/\(i:Int)+by_<til then rows.getD ((i:Int)+by_).toNat [] else []) else rows.getD i []
def jY (v:Vw) (c:Chg):Vw :=
 if c.kind=1 then ⟨c.col,c.row,(List.range c.row.toNat).map fun i=>kr c.col (v.rows.getD i []),min v.row (c.row-1),min v.col (c.col-1),v.vis⟩
 else if c.kind=2 then ⟨v.width,v.height,(List.range v.rows.length).map (kP v.rows c.row c.til c.count),v.row,v.col,v.vis⟩
 else if c.kind=3 then ⟨v.width,v.height,v.rows.set c.row.toNat (zI (zV (v.rows.getD c.row.toNat []) c.col.toNat c.count.toNat c.glyphs)),v.row,v.col,v.vis⟩
 else ⟨v.width,v.height,v.rows,c.row,c.col,decide (c.count=1)⟩
def qcz (v:Vw):Bool:=v.rows.all fun l=>decide ((vM l:Int)<=v.width)
def goV:Vw->List Chg->Vw × Int
 | v,[]=>if qcz v=true then (v,0) else (vw0,12)
 | v,c::t=>if qan v c≠0 then (vw0,qan v c) else goV (jY v c) t
def yx (v:Vw) (l:List Chg):Vw × Int:=if js v≠0 then (vw0,1) else goV v l
structure Md where
 view:Vw
 upd:Int
def md0:Md:=⟨vw0,0⟩
def MaxT:Int:=1099511627776
def vu (m:Md):Bool:=decide (js m.view=0/\0<=m.upd/\m.upd<=MaxT)
def yT (m:Md) (l:List ByteArray):Md × Int :=
 if vu m=false then (md0,1) else match jm l with
 | none=>(md0,17)
 | some (cs,n)=>if (yx m.view cs).2≠0 then (md0,(yx m.view cs).2) else if MaxT<m.upd+n then (md0,5) else (⟨(yx m.view cs).1,m.upd+n⟩,0)
def TrimR (rows:List (List Gl)):Prop:=∀ l∈rows,zI l=l
theorem qcw {l:List Gl} {k:Nat} (h:k<l.length):kw (l.take (k+1))=kw (l.take k)+l[k].wide.toNat:=by
 unfold kw;rw [List.take_succ_eq_append_getElem h,List.filter_append,Lf]
 cases h:l[k].wide <;> simp [h]
theorem qh4 (l:List Gl):kw l<=l.length:=List.length_filter_le _ _
theorem qcf (l:List Gl) (k:Nat):kw (l.take k)<=l.length:=Lj (qh4 _) (by rw [Lu];omega)
theorem qbc (l:List Gl) (g:Gl):zI (l++[g])=if g=spG then zI l else l++[g]:=by
 unfold zI;rw [List.reverse_append,List.reverse_singleton,List.singleton_append,List.dropWhile_cons]
 by_cases h:g=spG
 ·rw [if_pos (by simpa using h),if_pos h]
 ·rw [if_neg (by simpa using h),if_neg h,List.reverse_cons,List.reverse_reverse]
theorem qjX {l:List Gl} {k:Nat} (hk:k<l.length):zI (l.take (k+1))=if l[k]=spG then zI (l.take k) else l.take (k+1):=by
 rw [List.take_succ_eq_append_getElem hk,qbc]
theorem qdE (l:List Gl):l=[]∨∃ m g,l=m++[g]:=by
 rcases l.eq_nil_or_concat with h | ⟨m,g,h⟩
 ·exact .inl h
 ·exact .inr ⟨m,g,by rw [h,List.concat_eq_append]⟩
theorem trim_id : ∀ (n:Nat) (l:List Gl),l.length=n->zI (zI l)=zI l:=by
 intro n
 induction n with
 | zero=>intro l h;obtain rfl:=List.length_eq_zero_iff.1 h;rfl
 | succ n ih =>
  intro l h
  rcases qdE l with rfl | ⟨m,g,rfl⟩
  ·cases h
  ·rw [qbc];rw [Lf,Lz] at h
   split
   ·exact ih m L0
   ·next hg=>rw [qbc,if_neg hg]
theorem qeK (l:List Gl):zI (zI l)=zI l:=trim_id _ l rfl
theorem qfV {l:List Gl} {g:Gl} (h:g∈zI l):g∈l:=by
 unfold zI at h;rw [List.mem_reverse] at h;exact List.mem_reverse.1 ((List.dropWhile_sublist _).mem h)
theorem qdP (l:List Gl):(zI l).length<=l.length:=by
 unfold zI;rw [List.length_reverse];have:=(List.dropWhile_sublist (fun g=>decide (g=spG)) (l:=l.reverse)).length_le
 rwa [List.length_reverse] at this
theorem trim_iff {l:List Gl}:zI l=l↔l.getLast?≠some spG:=by
 rcases qdE l with rfl | ⟨m,g,rfl⟩
 ·simp [zI]
 ·rw [qbc,List.getLast?_append,List.getLast?_singleton]
  by_cases h:g=spG
  ·rw [if_pos h];have:=qdP m
   constructor
   ·intro e;have:=congrArg List.length e;rw [Lf,Lz] at this
    omega
   ·intro e;exact absurd (by rw [h];rfl) e
  ·rw [if_neg h]
   simp [h]
theorem qb9 {l:List Gl}:yK l=0↔∀ g∈l,qJ g=0:=by
 induction l with
 | nil=>simp [yK]
 | cons g t ih =>
  unfold yK
  by_cases h:qJ g=0
  ·rw [if_neg (by simpa using h),ih];simp [h]
  ·rw [if_pos h];simp [h]
theorem row_zero {w:Int} {l:List Gl}:rowC w l=0↔yK l=0/\(vM l:Int)<=w/\zI l=l:=by
 unfold rowC;rw [trim_iff]
 by_cases h1:yK l=0
 ·rw [if_neg (by simpa using h1)]
  by_cases h2:w<vM l
  ·rw [if_pos h2];simp;omega
  ·rw [if_neg h2]
   by_cases h3:l.getLast? = some spG
   ·rw [if_pos h3];simp [h3]
   ·rw [if_neg h3];simp [h1,h3];omega
 ·rw [if_pos h1];simp [h1]
theorem qiK {w:Int} {r:List (List Gl)}:yh w r=0↔∀ l∈r,rowC w l=0:=by
 induction r with
 | nil=>simp [yh]
 | cons g t ih =>
  unfold yh
  by_cases h:rowC w g=0
  ·rw [if_neg (by simpa using h),ih];simp [h]
  ·rw [if_pos h];simp [h]
theorem qbh {v:Vw}:js v=0↔vR v.width v.height=true/\(v.rows.length:Int)=v.height/\(0<=v.row/\v.row<v.height/\0<=v.col/\v.col<v.width)/\∀ l∈v.rows,yK l=0/\(vM l:Int)<=v.width/\zI l=l:=by
 unfold js
 by_cases h1:vR v.width v.height=false
 ·rw [if_pos h1];simp [h1]
 ·rw [if_neg h1];have h1:vR v.width v.height=true:=by simpa using h1
  by_cases h2:(v.rows.length:Int)=v.height
  ·rw [if_neg (by simpa using h2)]
   by_cases h3:v.row<0∨v.height<=v.row∨v.col<0∨v.width<=v.col
   ·rw [if_pos h3]
    constructor
    ·intro h;cases h
    ·rintro ⟨_,_,h,_⟩;omega
   ·rw [if_neg h3,qiK];simp only [row_zero,h1,h2,true_and];exact ⟨fun h=>⟨by omega,h⟩,fun h=>h.2⟩
  ·rw [if_pos h2];simp [h2]
theorem jW {w h:Int}:vR w h=true↔1<=w/\w<=132/\1<=h/\h<=60:=by unfold vR;rw [decide_eq_true_iff]
theorem spG_ok:qJ spG=0:=by decide +kernel
theorem qhy : ∀ (w:Int) (l:List Gl),qaT w l<=l.length
 | _,[]=>Ld _
 | w,g::t=>by
  unfold qaT
  split
  ·omega
  ·have:=qhy (w-glW g) t;rw [Lp];omega
theorem qbY {r:List (List Gl)} {i:Nat} {g:Gl} (h:g∈r.getD i []) : ∃ l∈r,g∈l:=by
 rw [List.getD_eq_getElem?_getD] at h
 cases hx:r[i]? with
 | none=>rw [hx] at h;cases h
 | some l=>rw [hx] at h;exact ⟨l,List.mem_of_getElem? hx,h⟩
theorem qjs {r:List (List Gl)} (h:TrimR r) (i:Nat):zI (r.getD i [])=r.getD i []:=by
 rw [List.getD_eq_getElem?_getD]
 cases hx:r[i]? with
 | none=>rfl
 | some l=>exact h l (List.mem_of_getElem? hx)
structure OnV (v:Vw):Prop where
 size:vR v.width v.height=true
 rows:(v.rows.length:Int)=v.height
 cur:0<=v.row/\v.row<v.height/\0<=v.col/\v.col<v.width
 gls : ∀ l∈v.rows,∀ g∈l,qJ g=0
 trim:TrimR v.rows
theorem OnV.of {v:Vw} (h:js v=0):OnV v:=by
 obtain ⟨a,b,c,d⟩:=qbh.1 h;exact ⟨a,b,c,fun l hl=>qb9.1 (d l hl).1,fun l hl=>(d l hl).2.2⟩
theorem OnV.zero {v:Vw} (h:OnV v) (hw:qcz v=true):js v=0:=by
 refine qbh.2 ⟨h.size,h.rows,h.cur,fun l hl=>⟨qb9.2 (h.gls l hl),?_,h.trim l hl⟩⟩;unfold qcz at hw;rw [List.all_eq_true] at hw
 simpa using hw l hl
theorem qey {v:Vw} {c:Chg} (h:qan v c=0):(1<=c.kind/\c.kind<=4)/\zS c=true/\zh v c=true/\yK c.glyphs=0:=by
 unfold qan at h
 split at h
 ·cases h
 ·next h1 =>
  split at h
  ·cases h
  ·next h2 =>
   split at h
   ·cases h
   ·next h3=>exact ⟨by omega,by simpa using h2,by simpa using h3,h⟩
theorem OnV.step {v:Vw} {c:Chg} (h:OnV v) (hc:qan v c=0):OnV (jY v c):=by
 obtain ⟨hk,hb,hr,hg⟩:=qey hc;unfold jY;unfold zh at hr;have hs:=jW.1 h.size;have hcur:=h.cur
 by_cases h1:c.kind=1
 ·rw [if_pos h1,decide_eq_true_iff] at hr;rw [if_pos h1];refine ⟨jW.2 (by simp only;omega),by simp only [Lq,List.length_range];omega,by simp only;omega,?_,?_⟩
  ·intro l hl g hg;simp only [List.mem_map] at hl;obtain ⟨i,_,rfl⟩:=hl;obtain ⟨m,hm,hgm⟩:=qbY (List.mem_of_mem_take (qfV hg));exact h.gls m hm g hgm
  ·intro l hl;simp only [List.mem_map] at hl;obtain ⟨i,_,rfl⟩:=hl;exact qeK _
 ·rw [if_neg h1] at hr ⊢
  by_cases h2:c.kind=2
  ·rw [if_pos h2];have hroll : ∀ i,(∀ g∈kP v.rows c.row c.til c.count i,qJ g=0)/\zI (kP v.rows c.row c.til c.count i)=kP v.rows c.row c.til c.count i:=fun i=>by
    have key : ∀ j,(∀ g∈v.rows.getD j [],qJ g=0)/\zI (v.rows.getD j [])=v.rows.getD j []:=fun j =>
     ⟨fun g hg=>by obtain ⟨m,hm,hgm⟩:=qbY hg;exact h.gls m hm g hgm,qjs h.trim j⟩
    unfold kP
    split
    ·split
     ·exact key _
     ·exact ⟨fun g hg=>(by cases hg),rfl⟩
    ·exact key _
   refine ⟨h.size,by simp only [Lq,List.length_range];exact h.rows,h.cur,?_,?_⟩
   ·intro l hl;simp only [List.mem_map] at hl;obtain ⟨i,_,rfl⟩:=hl;exact (hroll i).1
   ·intro l hl;simp only [List.mem_map] at hl;obtain ⟨i,_,rfl⟩:=hl;exact (hroll i).2
  ·rw [if_neg h2] at hr ⊢
   by_cases h3:c.kind=3
   ·rw [if_pos h3];refine ⟨h.size,by simp only [List.length_set];exact h.rows,h.cur,?_,?_⟩
    ·intro l hl g hgl
     rcases List.mem_or_eq_of_mem_set hl with hl | rfl
     ·exact h.gls l hl g hgl
     ·have:=qfV hgl;unfold zV at this;simp only [List.mem_append,List.mem_replicate] at this
      rcases this with ((hm | ⟨_,rfl⟩) | hm) | hm
      ·obtain ⟨m,hm,hgm⟩:=qbY (List.mem_of_mem_take hm);exact h.gls m hm g hgm
      ·exact spG_ok
      ·exact qb9.1 hg g hm
      ·obtain ⟨m,hm,hgm⟩:=qbY (List.mem_of_mem_drop hm);exact h.gls m hm g hgm
    ·intro l hl
     rcases List.mem_or_eq_of_mem_set hl with hl | rfl
     ·exact h.trim l hl
     ·exact qeK _
   ·rw [if_neg h3] at hr ⊢;rw [decide_eq_true_iff] at hr;exact ⟨h.size,h.rows,by simp only;omega,h.gls,h.trim⟩
structure RowM where
 l:List Gl
 A:Option Addr
 cap:Nat
instance:Inhabited RowM:=⟨⟨[],none,0⟩⟩
def zQ (rs:List RowM):List Value:=rs.map fun x=>.slice x.A x.l.length x.cap
def rls (rs:List RowM):List (List Gl):=rs.map RowM.l
theorem qbg (rs:List RowM):(zQ rs).length=rs.length:=by simp [zQ]
theorem vJ (rs:List RowM):(rls rs).length=rs.length:=by simp [rls]
theorem yF {rs:List RowM} {k:Nat} (h:k<rs.length):(zQ rs)[k]? = some (.slice rs[k].A rs[k].l.length rs[k].cap):=by simp [zQ,h]
theorem qiE {rs:List RowM} {k:Nat} (h:k<rs.length):(rls rs)[k]'(by rw [vJ];exact h)=rs[k].l:=by simp [rls]
theorem qa4 {rs:List RowM} {k:Nat} (h:k<rs.length):(rls rs).getD k []=rs[k].l:=by simp [rls,h]
theorem qf6 (rs:List RowM):(zQ rs).all Value.oneCell'=true:=by
 rw [List.all_eq_true];intro u hu;obtain ⟨x,_,rfl⟩:=List.mem_map.1 hu
 rfl
def RdG (w:World) (B:Nat) (x:RowM):Prop:=Rd w B 3 x.A x.l.length (qi x.l)/\x.l.length<=x.cap/\x.cap<=maxLen
theorem RdG.below {w w':World} {B:Nat} {x:RowM} (h:RdG w B x) (hb:Below B w w'):RdG w' B x:=⟨h.1.below hb,h.2⟩
theorem RdG.more {w:World} {B B':Nat} {x:RowM} (h:RdG w B x) (hb:B<=B'):RdG w B' x:=⟨h.1.more hb,h.2⟩
structure RdRs (w:World) (B:Nat) (A:Option Addr) (n:Nat) (rs:List RowM):Prop where
 rd:Rd w B 1 A n (zQ rs)
 gl : ∀ x∈rs,RdG w B x
theorem RdRs.len {w:World} {B n:Nat} {A:Option Addr} {l:List RowM} (h:RdRs w B A n l):l.length=n:=by
 have:=h.rd.1;rw [qbg] at this
 omega
theorem RdRs.below {w w':World} {B n:Nat} {A:Option Addr} {l:List RowM} (h:RdRs w B A n l) (hb:Below B w w'):RdRs w' B A n l:=⟨h.rd.below hb,fun x hx=>(h.gl x hx).below hb⟩
theorem RdRs.more {w:World} {B B' n:Nat} {A:Option Addr} {l:List RowM} (h:RdRs w B A n l) (hb:B<=B'):RdRs w B' A n l:=⟨h.rd.more hb,fun x hx=>(h.gl x hx).more hb⟩
theorem RdRs.at_ {w:World} {B n:Nat} {A:Option Addr} {l:List RowM} (h:RdRs w B A n l) {k:Nat} (hk:k<l.length) : ∃ b o,A=some ⟨b,o,none⟩/\b<B/\w.cell? ⟨b,o+k,none⟩=some (.slice l[k].A l[k].l.length l[k].cap):=by
 have hn:=h.len;obtain ⟨b,o,e,hb,hc⟩:=h.rd.2 L0;exact ⟨b,o,e,hb,hc k _ (yF hk)⟩
def vwC (v:Vw) (A:Option Addr) (n c:Nat):Array Value:=#[.int .i64 v.width,.int .i64 v.height,.slice A n c,.int .i64 v.row,.int .i64 v.col,.bool v.vis]
def RdV (w:World) (B:Nat) (v:Vw) (A:Option Addr) (n c:Nat) (rs:List RowM):Prop:=RdRs w B A n rs/\v.rows=rls rs/\n<=c/\c<=maxLen
theorem RdV.below {w w':World} {B n c:Nat} {A:Option Addr} {v:Vw} {rs:List RowM} (h:RdV w B v A n c rs) (hb:Below B w w'):RdV w' B v A n c rs:=⟨h.1.below hb,h.2⟩
theorem RdV.more {w:World} {B B' n c:Nat} {A:Option Addr} {v:Vw} {rs:List RowM} (h:RdV w B v A n c rs) (hb:B<=B'):RdV w B' v A n c rs:=⟨h.1.more hb,h.2⟩
theorem RdV.len {w:World} {B n c:Nat} {A:Option Addr} {v:Vw} {rs:List RowM} (h:RdV w B v A n c rs):v.rows.length=n:=by
 rw [h.2.1,vJ];exact h.1.len
end Go.Proofs.YtbogmeeijdaijaaGreatDoor
