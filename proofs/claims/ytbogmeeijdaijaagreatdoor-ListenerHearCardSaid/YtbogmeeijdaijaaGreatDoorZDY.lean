/- Joined: Ref2, RefP, Ref3, Ref4, Rsg1, Rsg2. -/
import Derived.Test.YtbogmeeijdaijaaGreatDoorZDX
set_option linter.unusedVariables false
set_option linter.unusedSimpArgs false
set_option linter.unnecessarySimpa false
set_option maxHeartbeats 2000000
namespace Go.Proofs.YtbogmeeijdaijaaGreatDoor
open Go.Proofs.Tryz Go.RowKit
set_option maxRecDepth 20000
set_option maxRecDepth 100000 in
theorem rpos_a (n:Nat) (hn:n<1000) (x:Int) (hx:x=n) (w:World) (ht:Tb w) :
  Calls prog 88 #[.int .i64 x] w (ql 9 1 id w (zp n).length (wv (zp n))):=by
 have HS:=Lh (qha n hn w ht);rw [<- qd3 n hn,<- hx] at HS;have x1:x<1000:=by omega
 clear ht hx hn
 go_enter func88,ntmps88
 go_wp2_with (go_at_call 111;refine HS.out.mono ?_;rintro e w1 ⟨A1,c1,rfl,hown1,hbel1⟩)
 go_ret;exact ⟨A1,c1,rfl,hown1,hbel1⟩
set_option maxRecDepth 100000 in
theorem rpos_b (n:Nat) (h1:1000<=n) (h2:n<1000000) (x:Int) (hx:x=n) (w:World) (ht:Tb w) :
  Calls prog 88 #[.int .i64 x] w (ql 9 1 id w (zp n).length (wv (zp n))):=by
 have HT:=Lh ht;have x1:1000<=x:=by omega
 have x2:x<1000000:=by omega
 have hq:n / 1000<1000:=by omega
 have HS:Hid (∀ w,Tb w->Calls prog 111 #[.int .i64 (x / 1000)] w (ql 9 1 id w (qG (n / 1000)).length (wv (qG (n / 1000))))):=Lh fun w ht=>by
  have:=qha (n / 1000) hq w ht
  rwa [show ((n / 1000:Nat):Int)=x / 1000 from by omega] at this
 have HR:Hid (∀ w,Tb w->Calls prog 88 #[.int .i64 (x % 1000)] w (ql 9 1 id w (zp (n % 1000)).length (wv (zp (n % 1000))))):=Lh fun w ht=>by
  exact rpos_a (n % 1000) L0 (x % 1000) L0 w ht
 have HL:=Lh (qd6 n L0 L0);have l1:=qd5 (n / 1000);have l2:=qdh (n % 1000)
 by_cases c3:n % 1000=0
 ·have c3':(x % 1000 != 0)=false:=by rw [bne_eq_false_iff_eq];omega
  have HL2:Hid (zp n=qG (n / 1000)++[29]):=Lh (by rw [HL.out,if_pos c3,List.append_nil]);clear ht c3 hx h1 h2 hq;generalize qG (n / 1000)=L at *
  go_enter func88,ntmps88
  go_wp2_with (first
   | (go_at_call 111;refine (HS.out _ HT.out).mono ?_;rintro e w1 ⟨A1,c1,rfl,hown1,hbel1⟩;have z1:=hbel1.size)
   | (at_builtin;refine qg rfl _ _ _ rfl qp (w.heap.size) _ rfl (hown1.alloc _) _ _ rfl (qe (by rfl) rfl) ?_;intro A2 c2 w2 hown2 hbel2 hgr2 hat2;have z2:=hbel2.size;(try simp only [Li] at z2);(try simp only [Lo,Lg] at hown2)))
  go_ret;rw [HL2.out];have e:(L++[29]).length=L.length+1:=by simp
  exact ⟨A2,c2,by rw [e];rfl,by rw [e];simpa [wv,wb] using hown2,(hbel1.alloc L0 _).trans (hbel2.mono L0)⟩
 ·have c3':(x % 1000 != 0)=true:=by rw [Ln];omega
  have HL2:Hid (zp n=qG (n / 1000)++[29]++zp (n % 1000)):=Lh (by rw [HL.out,if_neg c3]);clear ht c3 hx h1 h2 hq;generalize qG (n / 1000)=L at *
  generalize zp (n % 1000)=L' at *
  go_enter func88,ntmps88
  go_wp2_with (first
   | (go_at_call 111;refine (HS.out _ HT.out).mono ?_;rintro e w1 ⟨A1,c1,rfl,hown1,hbel1⟩;have z1:=hbel1.size)
   | (at_builtin;refine qg rfl _ _ _ rfl qp (w.heap.size) _ rfl (hown1.alloc _) _ _ rfl (qe (by rfl) rfl) ?_;intro A2 c2 w2 hown2 hbel2 hgr2 hat2;have z2:=hbel2.size;(try simp only [Li] at z2);(try simp only [Lo,Lg] at hown2))
   | (go_at_call 88;refine (HR.out _ (HT.out.below ((hbel1.alloc L0 _).trans hbel2))).mono ?_;rintro e w3 ⟨A3,c3,rfl,hown3,hbel3⟩;have z3:=hbel3.size;have hown2':=qb hown2 hbel3)
   | (at_builtin;refine qg rfl _ _ _ rfl qp (w.heap.size) _ rfl (hown2') _ _ rfl (Rd.of_own hown3) ?_;intro A4 c4 w4 hown4 hbel4 hgr4 hat4;have z4:=hbel4.size;(try simp only [Li] at z4);(try simp only [Lo,Lg] at hown4)))
  go_ret;rw [HL2.out];have e:(L++[29]++L').length=L.length+1+L'.length:=by simp;omega
  exact ⟨A4,c4,by rw [e];rfl,by rw [e];simpa [wv,wb] using hown4,(((hbel1.alloc L0 _).trans (hbel2.mono L0)).trans (hbel3.mono L0)).trans (hbel4.mono L0)⟩
theorem qiw (n:Nat) (h2:n<1000000) (x:Int) (hx:x=n) (w:World) (ht:Tb w) :
  Calls prog 88 #[.int .i64 x] w (ql 9 1 id w (zp n).length (wv (zp n))):=by
 rcases Nat.lt_or_ge n 1000 with h | h
 ·exact rpos_a n h x hx w ht
 ·exact rpos_b n h h2 x hx w ht
set_option maxRecDepth 100000 in
theorem rpos_c (n:Nat) (h1:1000000<=n) (h2:n<1000000000) (x:Int) (hx:x=n) (w:World) (ht:Tb w) :
  Calls prog 88 #[.int .i64 x] w (ql 9 1 id w (zp n).length (wv (zp n))):=by
 have HT:=Lh ht;have x1:1000000<=x:=by omega
 have x2:x<1000000000:=by omega
 have hq:n / 1000000<1000:=by omega
 have HS:Hid (∀ w,Tb w->Calls prog 111 #[.int .i64 (x / 1000000)] w (ql 9 1 id w (qG (n / 1000000)).length (wv (qG (n / 1000000))))):=Lh fun w ht=>by
  have:=qha (n / 1000000) hq w ht
  rwa [show ((n / 1000000:Nat):Int)=x / 1000000 from by omega] at this
 have HR:Hid (∀ w,Tb w->Calls prog 88 #[.int .i64 (x % 1000000)] w (ql 9 1 id w (zp (n % 1000000)).length (wv (zp (n % 1000000))))):=Lh fun w ht=>by
  exact qiw (n % 1000000) L0 (x % 1000000) L0 w ht
 have HL:=Lh (qeZ n L0 L0);have l1:=qd5 (n / 1000000);have l2:=qdh (n % 1000000)
 by_cases c3:n % 1000000=0
 ·have c3':(x % 1000000 != 0)=false:=by rw [bne_eq_false_iff_eq];omega
  have HL2:Hid (zp n=qG (n / 1000000)++[30]):=Lh (by rw [HL.out,if_pos c3,List.append_nil]);clear ht c3 hx h1 h2 hq;generalize qG (n / 1000000)=L at *
  go_enter func88,ntmps88
  go_wp2_with (first
   | (go_at_call 111;refine (HS.out _ HT.out).mono ?_;rintro e w1 ⟨A1,c1,rfl,hown1,hbel1⟩;have z1:=hbel1.size)
   | (at_builtin;refine qg rfl _ _ _ rfl qp (w.heap.size) _ rfl (hown1.alloc _) _ _ rfl (qe (by rfl) rfl) ?_;intro A2 c2 w2 hown2 hbel2 hgr2 hat2;have z2:=hbel2.size;(try simp only [Li] at z2);(try simp only [Lo,Lg] at hown2)))
  go_ret;rw [HL2.out];have e:(L++[30]).length=L.length+1:=by simp
  exact ⟨A2,c2,by rw [e];rfl,by rw [e];simpa [wv,wb] using hown2,(hbel1.alloc L0 _).trans (hbel2.mono L0)⟩
 ·have c3':(x % 1000000 != 0)=true:=by rw [Ln];omega
  have HL2:Hid (zp n=qG (n / 1000000)++[30]++zp (n % 1000000)):=Lh (by rw [HL.out,if_neg c3]);clear ht c3 hx h1 h2 hq;generalize qG (n / 1000000)=L at *
  generalize zp (n % 1000000)=L' at *
  go_enter func88,ntmps88
  go_wp2_with (first
   | (go_at_call 111;refine (HS.out _ HT.out).mono ?_;rintro e w1 ⟨A1,c1,rfl,hown1,hbel1⟩;have z1:=hbel1.size)
   | (at_builtin;refine qg rfl _ _ _ rfl qp (w.heap.size) _ rfl (hown1.alloc _) _ _ rfl (qe (by rfl) rfl) ?_;intro A2 c2 w2 hown2 hbel2 hgr2 hat2;have z2:=hbel2.size;(try simp only [Li] at z2);(try simp only [Lo,Lg] at hown2))
   | (go_at_call 88;refine (HR.out _ (HT.out.below ((hbel1.alloc L0 _).trans hbel2))).mono ?_;rintro e w3 ⟨A3,c3,rfl,hown3,hbel3⟩;have z3:=hbel3.size;have hown2':=qb hown2 hbel3)
   | (at_builtin;refine qg rfl _ _ _ rfl qp (w.heap.size) _ rfl (hown2') _ _ rfl (Rd.of_own hown3) ?_;intro A4 c4 w4 hown4 hbel4 hgr4 hat4;have z4:=hbel4.size;(try simp only [Li] at z4);(try simp only [Lo,Lg] at hown4)))
  go_ret;rw [HL2.out];have e:(L++[30]++L').length=L.length+1+L'.length:=by simp;omega
  exact ⟨A4,c4,by rw [e];rfl,by rw [e];simpa [wv,wb] using hown4,(((hbel1.alloc L0 _).trans (hbel2.mono L0)).trans (hbel3.mono L0)).trans (hbel4.mono L0)⟩
theorem rpos (n:Nat) (h2:n<1000000000) (x:Int) (hx:x=n) (w:World) (ht:Tb w) :
  Calls prog 88 #[.int .i64 x] w (ql 9 1 id w (zp n).length (wv (zp n))):=by
 rcases Nat.lt_or_ge n 1000000 with h | h
 ·exact qiw n h x hx w ht
 ·exact rpos_c n h h2 x hx w ht
theorem qd8 (n:Nat):qm n=zp n:=by
 unfold qm zp
 by_cases h0:n=0
 ·subst h0;rfl
 ·have h1 : ¬ ((n:Int)=0):=by omega
  have h2 : ¬ ((n:Int)<0):=by omega
  rw [if_neg h1,if_neg h2,if_neg h0,Int.natAbs_natCast]
  rfl
theorem qd9 (n:Nat) (h0:0<n):qm (-(n:Int))=31::zp n:=by
 have e:(-(n:Int)).natAbs=n:=by omega
 have h1 : ¬ (-(n:Int)=0):=by omega
 have h2 : -(n:Int)<0:=by omega
 unfold qm zp;rw [if_neg h1,if_pos h2,if_neg L0,e]
 rfl
theorem qlg (n:Int) (h:n < -999999999∨999999999<n) (w:World) :
  Calls prog 51 #[.int .i64 n] w (qh (.tuple #[.slice none 0 0,.int .i64 2]) w):=by
 rcases h with h | h
 ·go_enter func51,ntmps51
  go_wp2;go_ret2;exact ⟨rfl,Le _ _⟩
 ·have h' : ¬ n < -999999999:=by omega
  go_enter func51,ntmps51
  go_wp2;go_ret2;exact ⟨rfl,Le _ _⟩
set_option maxRecDepth 100000 in
theorem qbl (n:Int) (h1 : -999999999<=n) (h2:n<=999999999) (w:World) (ht:Tb w) :
  Calls prog 51 #[.int .i64 n] w (ql 9 1 yP w (qm n).length (wv (qm n))):=by
 have HT:=Lh ht;clear ht
 by_cases hn:n<0
 ·obtain ⟨m,hm⟩ : ∃ m:Nat,n = -(m:Int):=⟨n.natAbs,by omega⟩
  have hm1:0<m:=by omega
  have HL:=Lh (qd9 m hm1);have hle:=qdh m;have HS:Hid (∀ w,Tb w->Calls prog 88 #[.int .i64 (-n)] w (ql 9 1 id w (zp m).length (wv (zp m)))):=Lh fun w ht=>by
   exact rpos m L0 (-n) L0 w ht
  rw [<- hm] at HL;clear hm;generalize zp m=L at *
  go_enter func51,ntmps51
  go_wp2_with (first
   | (go_at_call 88;refine (HS.out _ (HT.out.below (by exact L5))).mono ?_;rintro e w1 ⟨A1,c1,rfl,hown1,hbel1⟩;have z1:=hbel1.size;simp only [Li] at z1;have hown0:w1.ownsRow w.heap.size 9 1 (.slice (some ⟨w.heap.size,0,none⟩) 1 1) 1 [.string (wb 31)]:=qb (qx (by rfl) rfl (Ld _) L0) hbel1)
   | (at_builtin;refine qg rfl _ _ _ rfl qp (w.heap.size) _ rfl (hown0) _ _ rfl (Rd.of_own hown1) ?_;intro A2 c2 w2 hown2 hbel2 hgr2 hat2;have z2:=hbel2.size;(try simp only [Li] at z2);(try simp only [Lo,Lg] at hown2)))
  go_ret2;rw [HL.out];have e:(31::L).length=1+L.length:=by simp;omega
  exact ⟨A2,c2,by rw [e];rfl,by rw [e];simpa [wv] using hown2,((L5).trans (hbel1.mono L1)).trans (hbel2.mono L0)⟩
 ·obtain ⟨m,rfl⟩ : ∃ m:Nat,n=(m:Int):=⟨n.toNat,by omega⟩
  have HL:=Lh (qd8 m);have HS:Hid (∀ w,Tb w->Calls prog 88 #[.int .i64 (m:Int)] w (ql 9 1 id w (zp m).length (wv (zp m)))):=Lh fun w ht=>rpos m L0 m rfl w ht
  generalize zp m=L at *
  go_enter func51,ntmps51
  go_wp2_with (go_at_call 88;refine (HS.out _ HT.out).mono ?_;rintro e w1 ⟨A1,c1,rfl,hown1,hbel1⟩)
  go_ret2;rw [HL.out];exact ⟨A1,c1,rfl,hown1,hbel1⟩
def swR (a g:Int) (s:ByteArray):Int × Int :=
 if s=wb 28 then (a,wrap64 (100 * g)) else if s=wb 29 then (wrap64 (a+wrap64 (1000 * g)),0) else if s=wb 30 then (wrap64 (a+wrap64 (1000000 * g)),0) else (a,g)
def zv (s:ByteArray) (g:Int):Nat->Int
 | 0=>g
 | k+1=>if wb k=s then wrap64 (zv s g k+k) else zv s g k
def jw (s:ByteArray) (g:Int):Nat->Int
 | 0=>g
 | k+1=>if wb (20+k)=s then wrap64 (wrap64 (jw s g k+10 * k)+20) else jw s g k
def zX (x:Int × Int) (s:ByteArray):Int × Int:=((swR x.1 x.2 s).1,jw s (zv s (swR x.1 x.2 s).2 20) 8)
def valR (l:List ByteArray):Int :=
 let x:=l.foldl zX (0,0)
 if l.head? = some (wb 31) then wrap64 (wrap64 (-x.1)-x.2) else wrap64 (x.1+x.2)
def qE (l:List ByteArray):Option Int:=if l.length=0∨15<l.length then none else qaA l (valR l)
def vE (l:List ByteArray):Nat->Option (Int × Nat)
 | 0=>none
 | k+1=>match qE (l.take (k+1)) with
  | some n=>some (n,k+1)
  | none=>vE l k
theorem w64 (n:Int) (h1 : -9223372036854775808<=n) (h2:n<=9223372036854775807):wrap64 n=n:=IntWalk.wrap64_in n ⟨h1,h2⟩
theorem j7 (s:ByteArray) (g:Int) : ∀ k,(∀ i,i<k->wb i≠s)->zv s g k=g:=by
 intro k
 induction k with
 | zero=>intro _;rfl
 | succ k ih =>
  intro h;rw [zv,if_neg (h k L0),ih (fun i hi=>h i L0)]
theorem qlL (i:Nat) (g:Int) : ∀ k,k<=20->i<k->zv (wb i) g k=wrap64 (g+i):=by
 intro k
 induction k with
 | zero=>intro _ h;omega
 | succ k ih =>
  intro h1 h2;rw [zv]
  by_cases e:i=k
  ·subst e;rw [if_pos rfl,j7 _ _ _ (fun j hj=>qa1 j i L0 L0 L0)]
  ·rw [if_neg (qa1 k i L0 L0 L0),ih L0 L0]
theorem j9 (s:ByteArray) (g:Int) : ∀ k,(∀ i,i<k->wb (20+i)≠s)->jw s g k=g:=by
 intro k
 induction k with
 | zero=>intro _;rfl
 | succ k ih =>
  intro h;rw [jw,if_neg (h k L0),ih (fun i hi=>h i L0)]
theorem ql6 (i:Nat) (g:Int) : ∀ k,k<=8->i<k->jw (wb (20+i)) g k=wrap64 (wrap64 (g+10 * i)+20):=by
 intro k
 induction k with
 | zero=>intro _ h;omega
 | succ k ih =>
  intro h1 h2;rw [jw]
  by_cases e:i=k
  ·subst e;rw [if_pos rfl,j9 _ _ _ (fun j hj=>qa1 _ _ L0 L0 L0)]
  ·rw [if_neg (qa1 _ _ L0 L0 L0),ih L0 L0]
theorem valK_inv (k:Nat) (s:ByteArray) (v:Int) (h:qbS k s=some v) : ∃ i,i<k/\s=wb i/\v=qbt i:=by
 induction k with
 | zero=>cases h
 | succ k ih =>
  rw [qbS] at h
  split at h
  ·rename_i hs
   injection h with h
   exact ⟨k,by omega,hs,h.symm⟩
  ·obtain ⟨i,a,b,c⟩:=ih h;exact ⟨i,by omega,b,c⟩
theorem qkX (j:Nat) (hj:28<=j) (hj2:j<32) (g:Int):jw (wb j) (zv (wb j) g 20) 8=g:=by
 rw [j9 _ _ _ (fun i hi=>qa1 _ _ L0 L0 L0),j7 _ _ _ (fun i hi=>qa1 _ _ L0 L0 L0)]
theorem ql0 (a p a' p':Int) (s:ByteArray) (h:kp a p s=some (a',p')) (ha0:0<=a) (ha:a<=999999999) (hp0:0<=p) (hp:p<=999999999):zX (a,p) s=(a',p')/\0<=a'/\a'<=999999999/\0<=p'/\p'<=999999999:=by
 unfold kp at h
 cases hsw:swN a p s with
 | none=>rw [hsw] at h;cases h
 | some x =>
  obtain ⟨a1,p1⟩:=x;rw [hsw] at h;simp only at h;have hb:=swN_bd a p s a1 p1 hsw ha0 ha hp0 hp
  split at h
  ·cases h
  rename_i hbig
  simp only [Option.some.injEq,Prod.mk.injEq] at h;obtain ⟨rfl,rfl⟩:=h;refine ⟨?_,hb.1,by omega,hb.2.2.1,by omega⟩;unfold swN at hsw;unfold zX swR;simp only
  split at hsw
  ·rename_i e
   subst e;simp only [Option.some.injEq,Prod.mk.injEq] at hsw;obtain ⟨rfl,rfl⟩:=hsw;rw [if_neg (qa1 _ _ L0 L0 L0),if_neg (qa1 _ _ L0 L0 L0),if_neg (qa1 _ _ L0 L0 L0),qkX 31 L0 L0]
  split at hsw
  ·rename_i e
   subst e;simp only [Option.some.injEq,Prod.mk.injEq] at hsw;obtain ⟨rfl,rfl⟩:=hsw;rw [if_pos rfl,qkX 28 L0 L0];simp only;rw [w64 _ L0 L0,Int.mul_comm]
  split at hsw
  ·rename_i e
   subst e;simp only [Option.some.injEq,Prod.mk.injEq] at hsw;obtain ⟨rfl,rfl⟩:=hsw;rw [if_neg (qa1 _ _ L0 L0 L0),if_pos rfl,qkX 29 L0 L0];simp only;rw [w64 (1000 * p) L0 L0,w64 _ L0 L0]
  split at hsw
  ·rename_i e
   subst e;simp only [Option.some.injEq,Prod.mk.injEq] at hsw;obtain ⟨rfl,rfl⟩:=hsw;rw [if_neg (qa1 _ _ L0 L0 L0),if_neg (qa1 _ _ L0 L0 L0),if_pos rfl,qkX 30 L0 L0];simp only;rw [w64 (1000000 * p) L0 L0,w64 _ L0 L0]
  rename_i n31 n28 n29 n30
  cases hv:qbS 28 s with
  | none=>rw [hv] at hsw;cases hsw
  | some v =>
   rw [hv] at hsw;simp only [Option.some.injEq,Prod.mk.injEq] at hsw;obtain ⟨rfl,rfl⟩:=hsw;obtain ⟨i,hi,rfl,rfl⟩:=valK_inv _ _ _ hv;rw [if_neg n28,if_neg n29,if_neg n30];simp only;have hvb:=qlQ i hi
   by_cases h20:i<20
   ·rw [qlL i p 20 L0 h20,j9 _ _ _ (fun j hj=>qa1 _ _ L0 L0 L0)];unfold qbt;rw [if_neg L0,w64 _ L0 L0]
   ·obtain ⟨j,rfl⟩ : ∃ j,i=20+j:=⟨i-20,by omega⟩
    rw [j7 _ _ _ (fun j hj=>qa1 _ _ L0 L0 L0),ql6 j p 8 L0 L0,w64 (p+10 * j) L0 L0,w64 _ L0 L0];unfold qbt
    split <;> (congr 1;omega)
theorem qlY : ∀ (l:List ByteArray) (a p a' p':Int),vS l a p=some (a',p')->0<=a->a<=999999999->0<=p->p<=999999999->l.foldl zX (a,p)=(a',p')/\0<=a'/\a'<=999999999/\0<=p'/\p'<=999999999:=by
 intro l
 induction l with
 | nil =>
  intro a p a' p' h h1 h2 h3 h4;rw [vS] at h;simp only [Option.some.injEq,Prod.mk.injEq] at h;obtain ⟨rfl,rfl⟩:=h;exact ⟨rfl,h1,h2,h3,h4⟩
 | cons s t ih =>
  intro a p a' p' h h1 h2 h3 h4;rw [vS] at h
  cases hs:kp a p s with
  | none=>rw [hs] at h;cases h
  | some x =>
   obtain ⟨a1,p1⟩:=x;rw [hs] at h;obtain ⟨e,b1,b2,b3,b4⟩:=ql0 a p a1 p1 s hs h1 h2 h3 h4;rw [List.foldl_cons,e];exact ih a1 p1 a' p' h b1 b2 b3 b4
theorem qk9 {l:List ByteArray} {n:Int} (h:zc l=some n):valR l=n:=by
 unfold zc at h
 split at h
 ·cases h
 cases hl:vS l 0 0 with
 | none=>rw [hl] at h;cases h
 | some x =>
  obtain ⟨a,p⟩:=x;rw [hl] at h;simp only at h;obtain ⟨e,b1,b2,b3,b4⟩:=qlY l 0 0 a p hl L0 L0 L0 L0;unfold qaA at h
  split at h
  ·injection h with h
   subst h;unfold valR qbx;rw [e];simp only
   split
   ·rw [w64 (-a) L0 L0,w64 _ L0 L0]
    omega
   ·rw [w64 _ L0 L0]
  ·cases h
theorem v8 (l:List ByteArray):qE l=zc l:=by
 cases hn:zc l with
 | some n =>
  have hv:=qk9 hn;obtain ⟨h1,h2,h3,h4,h5⟩:=vp hn;unfold qE;rw [if_neg L0,hv];unfold qaA;rw [if_pos ⟨h1,h2,h3⟩]
 | none =>
  cases hr:qE l with
  | none=>rfl
  | some n =>
   exfalso
   unfold qE at hr
   split at hr
   ·cases hr
   unfold qaA at hr
   split at hr
   ·rename_i hc
    obtain ⟨h1,h2,h3⟩:=hc;have:=qfg (valR l) h1 h2;rw [h3,hn] at this
    cases this
   ·cases hr
theorem qlM (l:List ByteArray):vE l l.length=prefixL l:=by
 have h1 : ∀ k,vE l k=qaS l k:=by
  intro k
  induction k with
  | zero=>rfl
  | succ k ih =>
   rw [vE,qaS,v8,ih]
   cases zc (l.take (k+1)) <;> rfl
 unfold prefixL;rw [h1]
 rcases Nat.lt_or_ge l.length 16 with h | h
 ·rw [Nat.min_eq_left L0]
 ·rw [Nat.min_eq_right L0];obtain ⟨d,hd⟩ : ∃ d,l.length=15+d:=⟨l.length-15,by omega⟩
  have : ∀ d,15+d<=l.length->qaS l (15+d)=qaS l 15:=by
   intro d
   induction d with
   | zero=>intro _;rfl
   | succ d ih =>
    intro hle;rw [show 15+(d+1)=(15+d)+1 from rfl,qaS,qcq l _ L0 L0];exact ih L0
  rw [hd];exact this d L0
theorem qk3 (l:List ByteArray) (k:Nat) (h:k<l.length) (x:Int × Int):(l.take (k+1)).foldl zX x=zX ((l.take k).foldl zX x) l[k]:=by
 rw [List.take_succ_eq_append_getElem h,List.foldl_append]
 rfl
theorem rvalue (l:List ByteArray) (A:Option Addr) (n c B:Nat) (w:World) (hn:l.length=n) (hl:Rd w B 1 A n (sv l)) (hbig:n<=maxLen) (ht:Tb w) :
  Calls prog 124 #[.slice A n c] w (Quiet (.int .i64 (valR l)) w):=by
 have hb2:n<=9223372036854775807:=by unfold maxLen at hbig;omega
 have Hn:=Lh hn;have HT:=Lh ht;have HV:Hid (∀ a g,l.foldl zX (0,0)=(a,g)->valR l=if l.head? = some (wb 31) then wrap64 (wrap64 (-a)-g) else wrap64 (a+g)):=Lh fun a g h=>by
  unfold valR;rw [h]
 clear hn ht hbig;generalize valR l=R at *
 go_enter func124,ntmps124
 go_wp2
 go_loopw [3,4,5] (fun x y z wr=>∃ (k j:Nat) (a g:Int),k<=n/\z = .int .i64 k/\x = .int .i64 a/\y = .int .i64 g/\wr=w.drewN j/\Hid ((l.take k).foldl zX (0,0)=(a,g))) (fun _ _ z _=>n-(intOf z).toNat)
 case atStart=>exact ⟨0,0,0,0,Nat.zero_le _,rfl,rfl,rfl,rfl,Lh rfl⟩
 case round =>
  obtain ⟨k,j,a,g,hk,rfl,rfl,rfl,rfl,HF⟩:=hrel
  by_cases hlt:k<n
  ·obtain ⟨b,o,rfl,hbB,hc⟩:=hl.at_ hlt;have hkl:k<l.length:=by rw [Hn.out];exact hlt
   rw [yM _ _ hkl] at hc;have HS:Hid ((l.take (k+1)).foldl zX (0,0)=zX (a,g) l[k]):=Lh (by rw [qk3 l k hkl,HF.out]);generalize l[k]=s at *
   have HS2:Hid ((l.take (k+1)).foldl zX (0,0)=((swR a g s).1,jw s (zv s (swR a g s).2 20) 8)):=Lh HS.out;have t28:=qbr s (wb 28) [104,117,110,100,114,101,100] rfl;have t29:=qbr s (wb 29) [116,104,111,117,115,97,110,100] rfl;have t30:=qbr s (wb 30) [109,105,108,108,105,111,110] rfl
   go_upto_block 2 with (fail)
   go_cut [3,4] (fun x y wx=>wx=w.drewN j/\x = .int .i64 (swR a g s).1/\y = .int .i64 (swR a g s).2)
   case first =>
    by_cases c28:s=wb 28
    ·have d28:(s.toList==[104,117,110,100,114,101,100])=true:=by rw [t28];simp [c28]
     have HH:Hid (swR a g s=(a,wrap64 (100 * g))):=Lh (by unfold swR;rw [if_pos c28]);clear t28 t29 t30 c28
     go_wp2_with fail
     go_meet;rw [HH.out];exact ⟨rfl,rfl,rfl⟩
    have d28:(s.toList==[104,117,110,100,114,101,100])=false:=by rw [t28];simp [c28]
    by_cases c29:s=wb 29
    ·have d29:(s.toList==[116,104,111,117,115,97,110,100])=true:=by rw [t29];simp [c29]
     have HH:Hid (swR a g s=(wrap64 (a+wrap64 (1000 * g)),0)):=Lh (by unfold swR;rw [if_neg c28,if_pos c29]);clear t28 t29 t30 c28 c29
     go_wp2_with fail
     go_meet;rw [HH.out];exact ⟨rfl,rfl,rfl⟩
    have d29:(s.toList==[116,104,111,117,115,97,110,100])=false:=by rw [t29];simp [c29]
    by_cases c30:s=wb 30
    ·have d30:(s.toList==[109,105,108,108,105,111,110])=true:=by rw [t30];simp [c30]
     have HH:Hid (swR a g s=(wrap64 (a+wrap64 (1000000 * g)),0)):=Lh (by unfold swR;rw [if_neg c28,if_neg c29,if_pos c30]);clear t28 t29 t30 c28 c29 c30
     go_wp2_with fail
     go_meet;rw [HH.out];exact ⟨rfl,rfl,rfl⟩
    have d30:(s.toList==[109,105,108,108,105,111,110])=false:=by rw [t30];simp [c30]
    have HH:Hid (swR a g s=(a,g)):=Lh (by unfold swR;rw [if_neg c28,if_neg c29,if_neg c30]);clear t28 t29 t30 c28 c29 c30
    go_wp2_with fail
    go_meet;rw [HH.out];exact ⟨rfl,rfl,rfl⟩
   case rest =>
    obtain ⟨rfl,rfl,rfl⟩:=hcut;clear t28 t29 t30 HS;generalize (swR a g s).1=a1 at *
    generalize (swR a g s).2=g1 at *
    go_wp2_with fail
    go_loopw [4,6] (fun y z wr=>∃ (i j:Nat) (g:Int),i<=20/\z = .int .i64 i/\y = .int .i64 g/\wr=w.drewN j/\Hid (g=zv s g1 i)) (fun _ z _=>20-(intOf z).toNat)
    case atStart=>exact ⟨0,j,g1,by omega,rfl,rfl,rfl,Lh rfl⟩
    case round =>
     obtain ⟨i,j1,g2,hi,rfl,rfl,rfl,HG⟩:=hrel
     by_cases hi20:i<20
     ·have hcu:=HT.out.1 i hi20;have HU:Hid (zv s g1 (i+1)=if wb i=s then wrap64 (g2+i) else g2):=Lh (by rw [zv,HG.out]);have HB:=Lh (jO (wb i) s);generalize wb i=u at *
      go_wp2
      go_quiet (fail)
      go_wp2
      ·rename_i he
       rw [HB.out,decide_eq_true_eq] at he;exact ⟨⟨i+1,_,_,by omega,by go_num,rfl,rfl,Lh (by rw [HU.out,if_pos he])⟩,by simp [intOf];omega⟩
      ·rename_i he
       rw [HB.out,decide_eq_false_iff_not] at he;exact ⟨⟨i+1,_,_,by omega,by go_num,rfl,rfl,Lh (by rw [HU.out,if_neg he])⟩,by simp [intOf];omega⟩
     ·obtain rfl:i=20:=by omega
      go_wp2_with fail
      go_loopw [4,7] (fun y z wr=>∃ (i j:Nat) (g:Int),i<=8/\z = .int .i64 i/\y = .int .i64 g/\wr=w.drewN j/\Hid (g=jw s g2 i)) (fun _ z _=>8-(intOf z).toNat)
      case atStart=>exact ⟨0,j1,g2,by omega,rfl,rfl,rfl,Lh rfl⟩
      case round =>
       obtain ⟨i,j2,g3,hi,rfl,rfl,rfl,HG3⟩:=hrel
       by_cases hi8:i<8
       ·have hcu:=HT.out.2 i hi8;have HU:Hid (jw s g2 (i+1)=if wb (20+i)=s then wrap64 (wrap64 (g3+10 * i)+20) else g3):=Lh (by rw [jw,HG3.out]);have HB:=Lh (jO (wb (20+i)) s);generalize wb (20+i)=u at *
        go_wp2
        go_quiet (fail)
        go_wp2
        ·rename_i he
         rw [HB.out,decide_eq_true_eq] at he;exact ⟨⟨i+1,_,_,by omega,by go_num,rfl,rfl,Lh (by rw [HU.out,if_pos he])⟩,by simp [intOf];omega⟩
        ·rename_i he
         rw [HB.out,decide_eq_false_iff_not] at he;exact ⟨⟨i+1,_,_,by omega,by go_num,rfl,rfl,Lh (by rw [HU.out,if_neg he])⟩,by simp [intOf];omega⟩
       ·obtain rfl:i=8:=by omega
        have HX:Hid ((l.take (k+1)).foldl zX (0,0)=(a1,g3)):=Lh (by rw [HS2.out,HG3.out,HG.out])
        go_wp2_with fail
        exact ⟨⟨k+1,_,_,_,by omega,by go_num,rfl,rfl,rfl,HX⟩,by simp [intOf];omega⟩
  ·obtain rfl:k=n:=by omega
   have HF2:Hid (l.foldl zX (0,0)=(a,g)):=Lh (by have:=HF.out;rwa [List.take_of_length_le (by rw [Hn.out];exact Ld _)] at this);have HR:=Lh (HV.out a g HF2.out)
   by_cases h0:0<k
   ·obtain ⟨b,o,rfl,hbB,hc⟩:=hl.at_ h0;have hkl:0<l.length:=by rw [Hn.out];exact h0
    rw [yM _ _ hkl,Nat.add_zero] at hc;have hh:l.head? = some l[0]:=by
     cases l with
     | nil=>simp at hkl
     | cons x t=>rfl
    have t31:=qbr l[0] (wb 31) [109,105,110,117,115] rfl
    by_cases c31:l[0]=wb 31
    ·have d31:(l[0].toList==[109,105,110,117,115])=true:=by rw [t31];simp [c31]
     have HR2:Hid (R=wrap64 (wrap64 (-a)-g)):=Lh (by rw [HR.out,if_pos (by rw [hh,c31])]);clear t31 hh c31;generalize l[0]=s at *
     go_wp2_with fail
     go_ret;exact ⟨by rw [HR2.out];rfl,j,rfl⟩
    ·have d31:(l[0].toList==[109,105,110,117,115])=false:=by rw [t31];simp [c31]
     have HR2:Hid (R=wrap64 (a+g)):=Lh (by rw [HR.out,if_neg (by rw [hh];simpa using c31)]);clear t31 hh c31;generalize l[0]=s at *
     go_wp2_with fail
     go_ret;exact ⟨by rw [HR2.out];rfl,j,rfl⟩
   ·have hnil:l=[]:=List.eq_nil_of_length_eq_zero (by rw [Hn.out];omega);have HR2:Hid (R=wrap64 (a+g)):=Lh (by rw [HR.out,if_neg (by rw [hnil];simp)]);clear hnil
    go_wp2_with fail
    go_ret;exact ⟨by rw [HR2.out];rfl,j,rfl⟩
theorem qk8 (l:List ByteArray) (A:Option Addr) (c:Nat) (w:World) (h:l.length=0∨15<l.length) :
  Calls prog 102 #[.slice A l.length c] w (qh (kE (qE l)) w):=by
 have hN:qE l=none:=by unfold qE;rw [if_pos h]
 rw [hN]
 by_cases h0:l.length=0
 ·have e0:((l.length:Int)==0)=true:=by simp [h0]
  clear h h0
  go_enter func102,ntmps102
  go_wp2;go_ret2;exact ⟨rfl,Le _ _⟩
 ·have e0:((l.length:Int)==0)=false:=Lm.2 L0;have e1:15<l.length:=by omega
  clear h h0
  go_enter func102,ntmps102
  go_wp2;go_ret2;exact ⟨rfl,Le _ _⟩
theorem qlh (l:List ByteArray) (A:Option Addr) (n c:Nat) (w:World) (hn:l.length=n) (hl:Rd w w.heap.size 1 A n (sv l)) (h0:0<n) (h1:n<=15) (ht:Tb w) :
  Calls prog 102 #[.slice A n c] w (qh (kE (qE l)) w):=by
 have e0:((n:Int)==0)=false:=Lm.2 L0;have Hn:=Lh hn;have HT:=Lh ht;have HN:Hid (qE l=qaA l (valR l)):=Lh (by unfold qE;rw [if_neg L0]);have HV:=Lh (rvalue l A n c w.heap.size w hn hl (by unfold maxLen;omega) ht);clear hn ht;generalize qE l=R at *
 generalize valR l=v at *
 by_cases hin : -999999999<=v/\v<=999999999
 ·obtain ⟨i1,i2⟩:=hin;have hle:=ke v
  by_cases heq:(qm v).map wb=l
  ·have HR2:Hid (R=some v):=Lh (by rw [HN.out];unfold qaA;rw [if_pos ⟨i1,i2,heq⟩]);have HE:=Lh heq;clear heq
   go_enter func102,ntmps102
   go_wp2_with (first
    | (go_at_call 124;refine HV.out.mono ?_;rintro e w1 ⟨rfl,n1,rfl⟩)
    | (go_at_call 51;refine (qbl v i1 i2 _ (HT.out.drewN _)).mono ?_;rintro e w2 ⟨A2,c2,rfl,hown2,hbel2⟩)
    | (go_at_call 125;refine (same_t ((qm v).map wb) (l) (HE.out) _ _ _ _ _ _ _ _ _ (by first | rfl | assumption | exact Hn.out | (simp;done) | (simp;omega)) (by first | rfl | assumption | exact Hn.out | (simp;done) | (simp;omega)) (by rw [<- wv_sv];exact Rd.of_own hown2) ((Rd.below (w:=w.drewN _) hl hbel2)) (by first | omega | (simp only [Lp,List.length_nil];omega)) (by first | omega | (simp only [Lp,List.length_nil];omega))).mono ?_;rintro e w3 ⟨rfl,n3,rfl⟩))
   go_ret2;rw [HR2.out];exact ⟨rfl,qf (zE hbel2)⟩
  ·have HR2:Hid (R=none):=Lh (by rw [HN.out];unfold qaA;rw [if_neg (fun h=>heq h.2.2)]);have HE:=Lh heq;clear heq
   go_enter func102,ntmps102
   go_wp2_with (first
    | (go_at_call 124;refine HV.out.mono ?_;rintro e w1 ⟨rfl,n1,rfl⟩)
    | (go_at_call 51;refine (qbl v i1 i2 _ (HT.out.drewN _)).mono ?_;rintro e w2 ⟨A2,c2,rfl,hown2,hbel2⟩)
    | (go_at_call 125;refine (same_f ((qm v).map wb) (l) (HE.out) _ _ _ _ _ _ _ _ _ (by first | rfl | assumption | exact Hn.out | (simp;done) | (simp;omega)) (by first | rfl | assumption | exact Hn.out | (simp;done) | (simp;omega)) (by rw [<- wv_sv];exact Rd.of_own hown2) ((Rd.below (w:=w.drewN _) hl hbel2)) (by first | omega | (simp only [Lp,List.length_nil];omega)) (by first | omega | (simp only [Lp,List.length_nil];omega))).mono ?_;rintro e w3 ⟨rfl,n3,rfl⟩))
   go_ret2;rw [HR2.out];exact ⟨rfl,qf (zE hbel2)⟩
 ·have HR2:Hid (R=none):=Lh (by rw [HN.out];unfold qaA;rw [if_neg (fun h=>hin ⟨h.1,h.2.1⟩)])
  go_enter func102,ntmps102
  go_wp2_with (first
   | (go_at_call 124;refine HV.out.mono ?_;rintro e w1 ⟨rfl,n1,rfl⟩)
   | (go_at_call 51;refine (qlg v L0 _).mono ?_;rintro e w2 ⟨rfl,hbel2⟩))
  go_ret2;rw [HR2.out];exact ⟨rfl,zE hbel2⟩
theorem qlN (l:List ByteArray) (A:Option Addr) (n c:Nat) (w:World) (hn:l.length=n) (hl:Rd w w.heap.size 1 A n (sv l)) (ht:Tb w) :
  Calls prog 102 #[.slice A n c] w (qh (kE (zc l)) w):=by
 rw [<- v8]
 by_cases h:n=0∨15<n
 ·subst hn;exact qk8 l A c w h
 ·exact qlh l A n c w hn hl L0 L0 ht
theorem j8 (l:List ByteArray) (A:Option Addr) (n c:Nat) (w:World) (hn:l.length=n) (hc:n<=c) (hbig:c<=maxLen) (hl:Rd w w.heap.size 1 A n (sv l)) (ht:Tb w) :
  Calls prog 79 #[.slice A n c] w (qh (ve (prefixL l)) w):=by
 have hcm:c<=9223372036854775807:=by unfold maxLen at hbig;omega
 have HN:=Lh hn;have HT:=Lh ht
 have HP:Hid (prefixL l=qaS l n):=Lh (by
  rw [<- qlM,hn];have h1 : ∀ k,vE l k=qaS l k:=by
   intro k
   induction k with
   | zero=>rfl
   | succ k ih =>
    rw [vE,qaS,v8,ih]
    cases zc (l.take (k+1)) <;> rfl
  exact h1 n)
 clear hn ht hbig;generalize prefixL l=R at *
 go_enter func79,ntmps79
 go_wp2
 go_loopw [5] (fun i wr=>∃ k:Nat,k<=n/\i = .int .i64 k/\Below w.heap.size w wr/\Hid (R=qaS l k)) (fun i _=>(intOf i).toNat)
 case atStart=>exact ⟨n,Ld _,rfl,Le _ _,HP⟩
 case round =>
  obtain ⟨k,hk,rfl,hbel,HL⟩:=hrel
  by_cases hlt:0<k
  ·obtain ⟨b,o,rfl,hbB,_⟩:=hl.at_ (show k-1<n by omega);have hT:Rd wr wr.heap.size 1 (some ⟨b,o,none⟩) k (sv (l.take k)):=by
    have:=((hl.below hbel).more hbel.size).take hk
    rwa [Nat.mul_one,<- qmq] at this
   have hlen:(l.take k).length=k:=by rw [Lu,HN.out];omega
   have HC:=Lh (qlN (l.take k) (some ⟨b,o,none⟩) k c wr hlen hT (HT.out.below hbel));clear hlen hT hl
   cases hr:zc (l.take k) with
   | none =>
    rw [hr] at HC
    have HR2:Hid (R=qaS l (k-1)):=Lh (by
     rw [HL.out];obtain ⟨j,rfl⟩ : ∃ j,k=j+1:=⟨k-1,by omega⟩
     rw [qaS,hr]
     rfl)
    clear hr;simp only [kE] at HC
    go_wp2_with (go_at_call 102;refine HC.out.mono ?_;rintro e w1 ⟨rfl,hbel1⟩)
    exact ⟨⟨k-1,by omega,by go_num,hbel.trans (hbel1.mono hbel.size),HR2⟩,by simp [intOf];omega⟩
   | some v =>
    rw [hr] at HC
    have HR2:Hid (R=some (v,k)):=Lh (by
     rw [HL.out];obtain ⟨j,rfl⟩ : ∃ j,k=j+1:=⟨k-1,by omega⟩
     rw [qaS,hr])
    clear hr;simp only [kE] at HC
    go_wp2_with (go_at_call 102;refine HC.out.mono ?_;rintro e w1 ⟨rfl,hbel1⟩)
    go_ret3;rw [HR2.out];exact ⟨rfl,hbel.trans (hbel1.mono hbel.size)⟩
  ·obtain rfl:k=0:=by omega
   go_wp2;go_ret3;rw [HL.out];exact ⟨rfl,hbel⟩
def isS (r:Int):Bool:=(jM r).isSome
theorem isS_tab : ∀ x:Fin 127,isS (x.val:Int)=(decide (33<=x.val)&&!(decide (48<=x.val)&&decide (x.val<=57))&&!(decide (65<=x.val)&&decide (x.val<=90))&&!(decide (97<=x.val)&&decide (x.val<=122))):=by decide +kernel
theorem isS_eq (r:Int):isS r=(decide (33<=r)&&decide (r<=126)&&!(decide (48<=r)&&decide (r<=57))&&!(decide (65<=r)&&decide (r<=90))&&!(decide (97<=r)&&decide (r<=122))):=by
 by_cases h:0<=r/\r<=126
 ·obtain ⟨h1,h2⟩:=h;obtain ⟨n,rfl⟩:=Int.eq_ofNat_of_zero_le h1;have:=isS_tab ⟨n,by omega⟩;simp only at this;rw [this,Bool.eq_iff_iff]
  simp
  omega
 ·have h1:isS r=false:=by
   unfold isS
   cases hs:jM r with
   | none=>rfl
   | some i =>
    obtain ⟨_,_,a,b⟩:=jz hs;exact absurd ⟨by omega,b⟩ h
  rw [h1,Bool.eq_iff_iff]
  simp
  omega
theorem rsign (r:Int) (w:World):Calls prog 153 #[.int .i32 r] w (qh (.bool (isS r)) w):=by
 have HI:=Lh (isS_eq r);generalize isS r=R at *
 rcases Int.lt_or_le r 33 with h1 | h1
 ·obtain rfl:R=false:=by rw [HI.out,Bool.eq_false_iff];simp;omega
  go_enter func153,ntmps153
  go_wp2;go_ret;exact ⟨rfl,Le _ _⟩
 rcases Int.lt_or_le 126 r with h2 | h2
 ·obtain rfl:R=false:=by rw [HI.out,Bool.eq_false_iff];simp;omega
  go_enter func153,ntmps153
  go_wp2;go_ret;exact ⟨rfl,Le _ _⟩
 rcases Int.lt_or_le r 48 with h3 | h3
 ·obtain rfl:R=true:=by rw [HI.out];simp;omega
  go_enter func153,ntmps153
  go_wp2;go_ret;exact ⟨rfl,Le _ _⟩
 rcases Int.lt_or_le r 58 with h3 | h3
 ·obtain rfl:R=false:=by rw [HI.out,Bool.eq_false_iff];simp;omega
  go_enter func153,ntmps153
  go_wp2;go_ret;exact ⟨rfl,Le _ _⟩
 rcases Int.lt_or_le r 65 with h3 | h3
 ·obtain rfl:R=true:=by rw [HI.out];simp;omega
  have e57 : ¬ r<=57:=by omega
  go_enter func153,ntmps153
  go_wp2;go_ret;exact ⟨rfl,Le _ _⟩
 rcases Int.lt_or_le r 91 with h3 | h3
 ·obtain rfl:R=false:=by rw [HI.out,Bool.eq_false_iff];simp;omega
  have e57 : ¬ r<=57:=by omega
  go_enter func153,ntmps153
  go_wp2;go_ret;exact ⟨rfl,Le _ _⟩
 rcases Int.lt_or_le r 97 with h3 | h3
 ·obtain rfl:R=true:=by rw [HI.out];simp;omega
  have e57 : ¬ r<=57:=by omega
  have e90 : ¬ r<=90:=by omega
  go_enter func153,ntmps153
  go_wp2;go_ret;exact ⟨rfl,Le _ _⟩
 rcases Int.lt_or_le r 123 with h3 | h3
 ·obtain rfl:R=false:=by rw [HI.out,Bool.eq_false_iff];simp;omega
  have e57 : ¬ r<=57:=by omega
  have e90 : ¬ r<=90:=by omega
  have g122:r<=122:=by omega
  go_enter func153,ntmps153
  go_wp2;go_ret;exact ⟨rfl,Le _ _⟩
 obtain rfl:R=true:=by rw [HI.out];simp;omega
 have e57 : ¬ r<=57:=by omega
 have e90 : ¬ r<=90:=by omega
 have e122 : ¬ r<=122:=by omega
 go_enter func153,ntmps153
 go_wp2;go_ret;exact ⟨rfl,Le _ _⟩
theorem qhd (r:Int) (w:World):Calls prog 152 #[.int .i32 r] w (qh (.bool (zC r)) w):=by
 have HI:Hid (zC r=((decide (0<=r)&&decide (r<=55295)) || (decide (57344<=r)&&decide (r<=1114111)))):=Lh rfl;generalize zC r=R at *
 rcases Int.lt_or_le r 0 with h1 | h1
 ·obtain rfl:R=false:=by rw [HI.out,Bool.eq_false_iff];simp;omega
  go_enter func152,ntmps152
  go_wp2;go_ret;exact ⟨rfl,Le _ _⟩
 rcases Int.lt_or_le 1114111 r with h2 | h2
 ·obtain rfl:R=false:=by rw [HI.out,Bool.eq_false_iff];simp;omega
  go_enter func152,ntmps152
  go_wp2;go_ret;exact ⟨rfl,Le _ _⟩
 rcases Int.lt_or_le r 55296 with h3 | h3
 ·obtain rfl:R=true:=by rw [HI.out];simp;omega
  go_enter func152,ntmps152
  go_wp2;go_ret;exact ⟨rfl,Le _ _⟩
 rcases Int.lt_or_le 57343 r with h4 | h4
 ·obtain rfl:R=true:=by rw [HI.out];simp;omega
  go_enter func152,ntmps152
  go_wp2;go_ret;exact ⟨rfl,Le _ _⟩
 ·obtain rfl:R=false:=by rw [HI.out,Bool.eq_false_iff];simp;omega
  have e1 : ¬ r<55296:=by omega
  have e2 : ¬ 57343<r:=by omega
  go_enter func152,ntmps152
  go_wp2;go_ret;exact ⟨rfl,Le _ _⟩
theorem rnames (w:World):Calls prog 151 #[] w (ql 9 1 id w 32 nmL):=by
 go_enter func151,ntmps151
 go_wp2;go_ret;exact ⟨_,_,rfl,qx (xs:=nmL) rfl rfl (Ld _) L0,L5⟩
def cntS (x:Nat):Nat:=((List.range 32).filter fun i=>decide (yq i<x)).length
theorem cntS_33:cntS 33=0:=by decide +kernel
theorem qkk : ∀ x:Fin 127,cntS (x.val+1)=cntS x.val+(if isS (x.val:Int) then 1 else 0):=by decide +kernel
theorem qi7 : ∀ i:Fin 32,cntS (yq i.val)=i.val:=by decide +kernel
theorem cntS_le : ∀ x:Fin 127,cntS x.val<=32:=by decide +kernel
def qhZ (r:Int):ByteArray:=match jM r with
 | some i=>nb i
 | none=>⟨#[]⟩
theorem rname (r:Int) (w:World):Calls prog 154 #[.int .i32 r] w (qh (.string (qhZ r)) w):=by
 have HSI:Hid (∀ x w,Calls prog 153 #[.int .i32 x] w (qh (.bool (isS x)) w)):=Lh rsign;unfold qhZ
 cases hi:jM r with
 | none =>
  have H0:Hid (∀ w,Calls prog 153 #[.int .i32 r] w (qh (.bool false) w)):=Lh fun w=>by
   have:=rsign r w;unfold isS at this
   rwa [hi] at this
  clear hi
  go_enter func154,ntmps154
  go_wp2_with (go_at_call 153;refine (H0.out _).mono ?_;rintro e w1 ⟨rfl,hbel1⟩)
  go_ret;exact ⟨rfl,hbel1⟩
 | some i =>
  obtain ⟨hi32,rfl,hr1,hr2⟩:=jz hi;have H0:Hid (∀ w,Calls prog 153 #[.int .i32 (yq i:Nat)] w (qh (.bool true) w)):=Lh fun w=>by
   have:=rsign (yq i:Int) w;unfold isS at this
   rwa [hi] at this
  have HC:=Lh (qi7 ⟨i,hi32⟩);simp only at HC;clear hi;simp only;generalize yq i=r at *
  go_enter func154,ntmps154
  go_wp2_with (go_at_call 153;refine (H0.out _).mono ?_;rintro e w1 ⟨rfl,hbel1⟩)
  have hr127:r<127:=by omega
  have HST:Hid (∀ n,n<127->cntS (n+1)=cntS n+(if isS (n:Int) then 1 else 0)):=Lh fun n h=>qkk ⟨n,h⟩
  have HLE:Hid (∀ n,n<127->cntS n<=32):=Lh fun n h=>cntS_le ⟨n,h⟩
  have H33:=Lh cntS_33;have hnb:Hid (nmL[i]? = some (.string (nb i))):=Lh (by simp [nmL,hi32]);generalize cntS=cnt at *
  obtain ⟨wa,rfl⟩ : ∃ x:World,x=w1:=⟨_,rfl⟩
  go_loopw [3,4] (fun k x wr=>∃ n:Nat,33<=n/\n<=r/\k = .int .i64 (cnt n:Nat)/\x = .int .i32 (n:Int)/\Below wa.heap.size wa wr) (fun _ x _=>r-(intOf x).toNat)
  case atStart=>exact ⟨33,by omega,by omega,by rw [H33.out];rfl,rfl,Le _ _⟩
  case round =>
   obtain ⟨n,hn1,hn2,rfl,rfl,hbel⟩:=hrel
   by_cases hlt:n<r
   ·have hst:=Lh (HST.out n L0);have hle:=HLE.out n L0;have HX:=Lh (HSI.out (n:Int));generalize isS (n:Int)=X at *
    cases X with
    | true =>
     have hst2:Hid (cnt (n+1)=cnt n+1):=Lh (by rw [hst.out];rfl)
     go_wp2_with (go_at_call 153;refine (HX.out _).mono ?_;rintro e w2 ⟨rfl,hbel2⟩)
     exact ⟨⟨n+1,by omega,by omega,by rw [hst2.out];go_num,by go_num,hbel.trans (hbel2.mono hbel.size)⟩,by simp [intOf];omega⟩
    | false =>
     have hst2:Hid (cnt (n+1)=cnt n):=Lh (by rw [hst.out];rfl)
     go_wp2_with (go_at_call 153;refine (HX.out _).mono ?_;rintro e w2 ⟨rfl,hbel2⟩)
     exact ⟨⟨n+1,by omega,by omega,by rw [hst2.out],by go_num,hbel.trans (hbel2.mono hbel.size)⟩,by simp [intOf];omega⟩
   ·obtain rfl:n=r:=by omega
    rw [HC.out]
    go_wp2_with (go_at_call 151;refine (rnames _).mono ?_;rintro e w2 ⟨A2,c2,rfl,hown2,hbel2⟩;obtain ⟨b2,o2,rfl,_,hc2⟩:=(Rd.of_own hown2).at_ hi32;rw [hnb.out] at hc2)
    go_ret;exact ⟨rfl,hbel1.trans ((hbel.trans (hbel2.mono hbel.size)).mono hbel1.size)⟩
def qli (s:ByteArray):Int:=match qdK s with
 | some i=>yq i
 | none=>0
theorem rname_ne {n:Int} {i:Nat} (hi:i<32) (hn:n≠(yq i:Int)):qhZ n≠nb i:=by
 unfold qhZ;intro h
 cases hs:jM n with
 | none =>
  rw [hs] at h;have : ∀ i:Fin 32,nb i.val≠⟨#[]⟩:=by decide +kernel
  exact this ⟨i,hi⟩ h.symm
 | some j =>
  rw [hs] at h;obtain ⟨h1,h2,_⟩:=jz hs
  by_cases hj:j=i
  ·subst hj;exact hn h2
  ·exact nb_ne j i h1 hi hj h
theorem qlI {i:Nat} (hi:i<32):qhZ (yq i:Int)=nb i:=by
 have : ∀ i:Fin 32,qhZ (yq i.val:Int)=nb i.val:=by decide +kernel
 exact this ⟨i,hi⟩
theorem rname_no {n:Int} {s:ByteArray} (h0:s≠⟨#[]⟩) (h:qdK s=none):qhZ n≠s:=by
 unfold qhZ;intro e
 cases hs:jM n with
 | none=>rw [hs] at e;exact h0 e.symm
 | some j=>rw [hs] at e;exact qiZ h j (jz hs).1 e
theorem qlu {i:Nat} (h:i<32):33<=yq i/\yq i<=126:=by
 have : ∀ i:Fin 32,33<=yq i.val/\yq i.val<=126:=by decide +kernel
 exact this ⟨i,h⟩
theorem rSign (s:ByteArray) (w:World):Calls prog 183 #[.string s] w (qh (.int .i32 (qli s)) w):=by
 have HN:Hid (∀ x w,Calls prog 154 #[.int .i32 x] w (qh (.string (qhZ x)) w)):=Lh rname;unfold qli;have tc:=qbr s ⟨#[]⟩ [] rfl
 cases hi:qdK s with
 | some i =>
  obtain ⟨hi32,rfl⟩:=qez hi;simp only;have hne:nb i≠⟨#[]⟩:=by
   have : ∀ i:Fin 32,nb i.val≠⟨#[]⟩:=by decide +kernel
   exact this ⟨i,hi32⟩
  have dc:((nb i).toList==([]:List UInt8))=false:=by rw [tc];simp [hne]
  have HQ:Hid (∀ n:Int,((qhZ n).toList==(nb i).toList)=decide (n=(yq i:Int))):=Lh fun n=>by
   rw [jO]
   by_cases h:n=(yq i:Int)
   ·rw [h,qlI hi32];simp
   ·rw [Lk (rname_ne hi32 h),Lk h]
  obtain ⟨hb1,hb2⟩:=qlu hi32;clear tc hne hi;generalize yq i=m at *
  generalize nb i=s at *
  go_enter func183,ntmps183
  go_wp2;obtain ⟨wa,rfl⟩ : ∃ x:World,x=w:=⟨_,rfl⟩
  go_loopw [3] (fun x wr=>∃ n:Nat,33<=n/\n<=m/\x = .int .i32 (n:Int)/\Below wa.heap.size wa wr) (fun x _=>127-(intOf x).toNat)
  case atStart=>exact ⟨33,by omega,by omega,rfl,Le _ _⟩
  case round =>
   obtain ⟨n,hn1,hn2,rfl,hbel⟩:=hrel;have hq:=HQ.out (n:Int);have HX:=Lh (HN.out (n:Int));generalize qhZ (n:Int)=X at *
   by_cases hlt:n<m
   ·have hq':(X.toList==s.toList)=false:=by rw [hq];exact Lk L0
    clear hq;have h127:(n:Int)<127:=by omega
    go_wp2_with (go_at_call 154;refine (HX.out _).mono ?_;rintro e w2 ⟨rfl,hbel2⟩)
    exact ⟨⟨n+1,by omega,by omega,by go_num,hbel.trans (hbel2.mono hbel.size)⟩,by simp [intOf];omega⟩
   ·obtain rfl:n=m:=by omega
    have hq':(X.toList==s.toList)=true:=by rw [hq];exact Ll rfl
    clear hq;have h127:(n:Int)<127:=by omega
    go_wp2_with (go_at_call 154;refine (HX.out _).mono ?_;rintro e w2 ⟨rfl,hbel2⟩)
    go_ret;exact ⟨rfl,hbel.trans (hbel2.mono hbel.size)⟩
 | none =>
  simp only
  by_cases h0:s=⟨#[]⟩
  ·have dc:(s.toList==([]:List UInt8))=true:=by rw [tc];simp [h0]
   clear tc h0 hi
   go_enter func183,ntmps183
   go_wp2;obtain ⟨wa,rfl⟩ : ∃ x:World,x=w:=⟨_,rfl⟩
   go_loopw [3] (fun x wr=>∃ n:Nat,33<=n/\n<=127/\x = .int .i32 (n:Int)/\Below wa.heap.size wa wr) (fun x _=>127-(intOf x).toNat)
   case atStart=>exact ⟨33,by omega,by omega,rfl,Le _ _⟩
   case round =>
    obtain ⟨n,hn1,hn2,rfl,hbel⟩:=hrel
    by_cases hlt:n<127
    ·have h127:(n:Int)<127:=by omega
     go_wp2;exact ⟨⟨n+1,by omega,by omega,by go_num,hbel⟩,by simp [intOf];omega⟩
    ·obtain rfl:n=127:=by omega
     go_wp2;go_ret;exact ⟨rfl,hbel⟩
  ·have dc:(s.toList==([]:List UInt8))=false:=by rw [tc];simp [h0]
   have HQ:Hid (∀ n:Int,((qhZ n).toList==s.toList)=false):=Lh fun n=>by
    rw [jO];exact Lk (rname_no h0 hi)
   clear tc h0 hi
   go_enter func183,ntmps183
   go_wp2;obtain ⟨wa,rfl⟩ : ∃ x:World,x=w:=⟨_,rfl⟩
   go_loopw [3] (fun x wr=>∃ n:Nat,33<=n/\n<=127/\x = .int .i32 (n:Int)/\Below wa.heap.size wa wr) (fun x _=>127-(intOf x).toNat)
   case atStart=>exact ⟨33,by omega,by omega,rfl,Le _ _⟩
   case round =>
    obtain ⟨n,hn1,hn2,rfl,hbel⟩:=hrel
    by_cases hlt:n<127
    ·have h127:(n:Int)<127:=by omega
     have hq:=HQ.out (n:Int);have HX:=Lh (HN.out (n:Int));generalize qhZ (n:Int)=X at *
     go_wp2_with (go_at_call 154;refine (HX.out _).mono ?_;rintro e w2 ⟨rfl,hbel2⟩)
     exact ⟨⟨n+1,by omega,by omega,by go_num,hbel.trans (hbel2.mono hbel.size)⟩,by simp [intOf];omega⟩
    ·obtain rfl:n=127:=by omega
     go_wp2;go_ret;exact ⟨rfl,hbel⟩
end Go.Proofs.YtbogmeeijdaijaaGreatDoor
