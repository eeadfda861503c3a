/- Joined: Ref2, Rsg1, Rsg2, Rv1, Rv2, Uc4, BdP, GgP, Up2, SpC, Up3, Ul1, BdQ, Ul3, Ls1, Ls2. -/
import Derived.RangeFuncNested
import Derived.RangeFuncBound
import Derived.RangeFuncCalls
import Derived.RangeFuncLeaves
import Derived.RangeFuncBox
import Derived.Shelf.Abstract
import Derived.OwnWalkIn
import Derived.TacticsInMore
import Derived.LoopNIn
import Derived.LoopIn
import Derived.Test.YtbogmeeijdaijaaGreatDoorZAT
import Derived.Test.YtbogmeeijdaijaaGreatDoorYDZ
set_option linter.unusedVariables false
set_option linter.unusedSimpArgs false
set_option linter.unnecessarySimpa false
set_option maxHeartbeats 2000000
namespace Go.Proofs.YtbogmeeijdaijaaGreatDoor
open Go.Proofs.Tryz Go.RowKit
set_option maxRecDepth 20000
set_option maxRecDepth 100000 in
theorem rpos_a (n:Nat) (hn:n<1000) (x:Int) (hx:x=n) (w:World) (ht:Tb w) :
  Calls prog 88 #[.int .i64 x] w (ql 9 1 id w (zp n).length (wv (zp n))):=by
 have HS:=Lh (qha n hn w ht);rw [<- qd3 n hn,<- hx] at HS;have x1:x<1000:=by omega
 clear ht hx hn
 go_enter func88,ntmps88
 go_wp2_with (go_at_call 111;refine HS.out.mono ?_;rintro e w1 ⟨A1,c1,rfl,hown1,hbel1⟩)
 go_ret;exact ⟨A1,c1,rfl,hown1,hbel1⟩
set_option maxRecDepth 100000 in
theorem rpos_b (n:Nat) (h1:1000<=n) (h2:n<1000000) (x:Int) (hx:x=n) (w:World) (ht:Tb w) :
  Calls prog 88 #[.int .i64 x] w (ql 9 1 id w (zp n).length (wv (zp n))):=by
 have HT:=Lh ht;have x1:1000<=x:=by omega
 have x2:x<1000000:=by omega
 have hq:n / 1000<1000:=by omega
 have HS:Hid (∀ w,Tb w->Calls prog 111 #[.int .i64 (x / 1000)] w (ql 9 1 id w (qG (n / 1000)).length (wv (qG (n / 1000))))):=Lh fun w ht=>by
  have:=qha (n / 1000) hq w ht
  rwa [show ((n / 1000:Nat):Int)=x / 1000 from by omega] at this
 have HR:Hid (∀ w,Tb w->Calls prog 88 #[.int .i64 (x % 1000)] w (ql 9 1 id w (zp (n % 1000)).length (wv (zp (n % 1000))))):=Lh fun w ht=>by
  exact rpos_a (n % 1000) L0 (x % 1000) L0 w ht
 have HL:=Lh (qd6 n L0 L0);have l1:=qd5 (n / 1000);have l2:=qdh (n % 1000)
 by_cases c3:n % 1000=0
 ·have c3':(x % 1000 != 0)=false:=by rw [bne_eq_false_iff_eq];omega
  have HL2:Hid (zp n=qG (n / 1000)++[29]):=Lh (by rw [HL.out,if_pos c3,List.append_nil]);clear ht c3 hx h1 h2 hq;generalize qG (n / 1000)=L at *
  go_enter func88,ntmps88
  go_wp2_with (first
   | (go_at_call 111;refine (HS.out _ HT.out).mono ?_;rintro e w1 ⟨A1,c1,rfl,hown1,hbel1⟩;have z1:=hbel1.size)
   | (at_builtin;refine qg rfl _ _ _ rfl qp (w.heap.size) _ rfl (hown1.alloc _) _ _ rfl (qe (by rfl) rfl) ?_;intro A2 c2 w2 hown2 hbel2 hgr2 hat2;have z2:=hbel2.size;(try simp only [Li] at z2);(try simp only [Lo,Lg] at hown2)))
  go_ret;rw [HL2.out];have e:(L++[29]).length=L.length+1:=by simp
  exact ⟨A2,c2,by rw [e];rfl,by rw [e];simpa [wv,wb] using hown2,(hbel1.alloc L0 _).trans (hbel2.mono L0)⟩
 ·have c3':(x % 1000 != 0)=true:=by rw [Ln];omega
  have HL2:Hid (zp n=qG (n / 1000)++[29]++zp (n % 1000)):=Lh (by rw [HL.out,if_neg c3]);clear ht c3 hx h1 h2 hq;generalize qG (n / 1000)=L at *
  generalize zp (n % 1000)=L' at *
  go_enter func88,ntmps88
  go_wp2_with (first
   | (go_at_call 111;refine (HS.out _ HT.out).mono ?_;rintro e w1 ⟨A1,c1,rfl,hown1,hbel1⟩;have z1:=hbel1.size)
   | (at_builtin;refine qg rfl _ _ _ rfl qp (w.heap.size) _ rfl (hown1.alloc _) _ _ rfl (qe (by rfl) rfl) ?_;intro A2 c2 w2 hown2 hbel2 hgr2 hat2;have z2:=hbel2.size;(try simp only [Li] at z2);(try simp only [Lo,Lg] at hown2))
   | (go_at_call 88;refine (HR.out _ (HT.out.below ((hbel1.alloc L0 _).trans hbel2))).mono ?_;rintro e w3 ⟨A3,c3,rfl,hown3,hbel3⟩;have z3:=hbel3.size;have hown2':=qb hown2 hbel3)
   | (at_builtin;refine qg rfl _ _ _ rfl qp (w.heap.size) _ rfl (hown2') _ _ rfl (Rd.of_own hown3) ?_;intro A4 c4 w4 hown4 hbel4 hgr4 hat4;have z4:=hbel4.size;(try simp only [Li] at z4);(try simp only [Lo,Lg] at hown4)))
  go_ret;rw [HL2.out];have e:(L++[29]++L').length=L.length+1+L'.length:=by simp;omega
  exact ⟨A4,c4,by rw [e];rfl,by rw [e];simpa [wv,wb] using hown4,(((hbel1.alloc L0 _).trans (hbel2.mono L0)).trans (hbel3.mono L0)).trans (hbel4.mono L0)⟩
theorem qiw (n:Nat) (h2:n<1000000) (x:Int) (hx:x=n) (w:World) (ht:Tb w) :
  Calls prog 88 #[.int .i64 x] w (ql 9 1 id w (zp n).length (wv (zp n))):=by
 rcases Nat.lt_or_ge n 1000 with h | h
 ·exact rpos_a n h x hx w ht
 ·exact rpos_b n h h2 x hx w ht
set_option maxRecDepth 100000 in
theorem rpos_c (n:Nat) (h1:1000000<=n) (h2:n<1000000000) (x:Int) (hx:x=n) (w:World) (ht:Tb w) :
  Calls prog 88 #[.int .i64 x] w (ql 9 1 id w (zp n).length (wv (zp n))):=by
 have HT:=Lh ht;have x1:1000000<=x:=by omega
 have x2:x<1000000000:=by omega
 have hq:n / 1000000<1000:=by omega
 have HS:Hid (∀ w,Tb w->Calls prog 111 #[.int .i64 (x / 1000000)] w (ql 9 1 id w (qG (n / 1000000)).length (wv (qG (n / 1000000))))):=Lh fun w ht=>by
  have:=qha (n / 1000000) hq w ht
  rwa [show ((n / 1000000:Nat):Int)=x / 1000000 from by omega] at this
 have HR:Hid (∀ w,Tb w->Calls prog 88 #[.int .i64 (x % 1000000)] w (ql 9 1 id w (zp (n % 1000000)).length (wv (zp (n % 1000000))))):=Lh fun w ht=>by
  exact qiw (n % 1000000) L0 (x % 1000000) L0 w ht
 have HL:=Lh (qeZ n L0 L0);have l1:=qd5 (n / 1000000);have l2:=qdh (n % 1000000)
 by_cases c3:n % 1000000=0
 ·have c3':(x % 1000000 != 0)=false:=by rw [bne_eq_false_iff_eq];omega
  have HL2:Hid (zp n=qG (n / 1000000)++[30]):=Lh (by rw [HL.out,if_pos c3,List.append_nil]);clear ht c3 hx h1 h2 hq;generalize qG (n / 1000000)=L at *
  go_enter func88,ntmps88
  go_wp2_with (first
   | (go_at_call 111;refine (HS.out _ HT.out).mono ?_;rintro e w1 ⟨A1,c1,rfl,hown1,hbel1⟩;have z1:=hbel1.size)
   | (at_builtin;refine qg rfl _ _ _ rfl qp (w.heap.size) _ rfl (hown1.alloc _) _ _ rfl (qe (by rfl) rfl) ?_;intro A2 c2 w2 hown2 hbel2 hgr2 hat2;have z2:=hbel2.size;(try simp only [Li] at z2);(try simp only [Lo,Lg] at hown2)))
  go_ret;rw [HL2.out];have e:(L++[30]).length=L.length+1:=by simp
  exact ⟨A2,c2,by rw [e];rfl,by rw [e];simpa [wv,wb] using hown2,(hbel1.alloc L0 _).trans (hbel2.mono L0)⟩
 ·have c3':(x % 1000000 != 0)=true:=by rw [Ln];omega
  have HL2:Hid (zp n=qG (n / 1000000)++[30]++zp (n % 1000000)):=Lh (by rw [HL.out,if_neg c3]);clear ht c3 hx h1 h2 hq;generalize qG (n / 1000000)=L at *
  generalize zp (n % 1000000)=L' at *
  go_enter func88,ntmps88
  go_wp2_with (first
   | (go_at_call 111;refine (HS.out _ HT.out).mono ?_;rintro e w1 ⟨A1,c1,rfl,hown1,hbel1⟩;have z1:=hbel1.size)
   | (at_builtin;refine qg rfl _ _ _ rfl qp (w.heap.size) _ rfl (hown1.alloc _) _ _ rfl (qe (by rfl) rfl) ?_;intro A2 c2 w2 hown2 hbel2 hgr2 hat2;have z2:=hbel2.size;(try simp only [Li] at z2);(try simp only [Lo,Lg] at hown2))
   | (go_at_call 88;refine (HR.out _ (HT.out.below ((hbel1.alloc L0 _).trans hbel2))).mono ?_;rintro e w3 ⟨A3,c3,rfl,hown3,hbel3⟩;have z3:=hbel3.size;have hown2':=qb hown2 hbel3)
   | (at_builtin;refine qg rfl _ _ _ rfl qp (w.heap.size) _ rfl (hown2') _ _ rfl (Rd.of_own hown3) ?_;intro A4 c4 w4 hown4 hbel4 hgr4 hat4;have z4:=hbel4.size;(try simp only [Li] at z4);(try simp only [Lo,Lg] at hown4)))
  go_ret;rw [HL2.out];have e:(L++[30]++L').length=L.length+1+L'.length:=by simp;omega
  exact ⟨A4,c4,by rw [e];rfl,by rw [e];simpa [wv,wb] using hown4,(((hbel1.alloc L0 _).trans (hbel2.mono L0)).trans (hbel3.mono L0)).trans (hbel4.mono L0)⟩
theorem rpos (n:Nat) (h2:n<1000000000) (x:Int) (hx:x=n) (w:World) (ht:Tb w) :
  Calls prog 88 #[.int .i64 x] w (ql 9 1 id w (zp n).length (wv (zp n))):=by
 rcases Nat.lt_or_ge n 1000000 with h | h
 ·exact qiw n h x hx w ht
 ·exact rpos_c n h h2 x hx w ht
theorem qd8 (n:Nat):qm n=zp n:=by
 unfold qm zp
 by_cases h0:n=0
 ·subst h0;rfl
 ·have h1 : ¬ ((n:Int)=0):=by omega
  have h2 : ¬ ((n:Int)<0):=by omega
  rw [if_neg h1,if_neg h2,if_neg h0,Int.natAbs_natCast]
  rfl
theorem qd9 (n:Nat) (h0:0<n):qm (-(n:Int))=31::zp n:=by
 have e:(-(n:Int)).natAbs=n:=by omega
 have h1 : ¬ (-(n:Int)=0):=by omega
 have h2 : -(n:Int)<0:=by omega
 unfold qm zp;rw [if_neg h1,if_pos h2,if_neg L0,e]
 rfl
set_option maxRecDepth 100000 in
theorem qbl (n:Int) (h1 : -999999999<=n) (h2:n<=999999999) (w:World) (ht:Tb w) :
  Calls prog 51 #[.int .i64 n] w (ql 9 1 yP w (qm n).length (wv (qm n))):=by
 have HT:=Lh ht;clear ht
 by_cases hn:n<0
 ·obtain ⟨m,hm⟩ : ∃ m:Nat,n = -(m:Int):=⟨n.natAbs,by omega⟩
  have hm1:0<m:=by omega
  have HL:=Lh (qd9 m hm1);have hle:=qdh m;have HS:Hid (∀ w,Tb w->Calls prog 88 #[.int .i64 (-n)] w (ql 9 1 id w (zp m).length (wv (zp m)))):=Lh fun w ht=>by
   exact rpos m L0 (-n) L0 w ht
  rw [<- hm] at HL;clear hm;generalize zp m=L at *
  go_enter func51,ntmps51
  go_wp2_with (first
   | (go_at_call 88;refine (HS.out _ (HT.out.below (by exact L5))).mono ?_;rintro e w1 ⟨A1,c1,rfl,hown1,hbel1⟩;have z1:=hbel1.size;simp only [Li] at z1;have hown0:w1.ownsRow w.heap.size 9 1 (.slice (some ⟨w.heap.size,0,none⟩) 1 1) 1 [.string (wb 31)]:=qb (qx (by rfl) rfl (Ld _) L0) hbel1)
   | (at_builtin;refine qg rfl _ _ _ rfl qp (w.heap.size) _ rfl (hown0) _ _ rfl (Rd.of_own hown1) ?_;intro A2 c2 w2 hown2 hbel2 hgr2 hat2;have z2:=hbel2.size;(try simp only [Li] at z2);(try simp only [Lo,Lg] at hown2)))
  go_ret2;rw [HL.out];have e:(31::L).length=1+L.length:=by simp;omega
  exact ⟨A2,c2,by rw [e];rfl,by rw [e];simpa [wv] using hown2,((L5).trans (hbel1.mono L1)).trans (hbel2.mono L0)⟩
 ·obtain ⟨m,rfl⟩ : ∃ m:Nat,n=(m:Int):=⟨n.toNat,by omega⟩
  have HL:=Lh (qd8 m);have HS:Hid (∀ w,Tb w->Calls prog 88 #[.int .i64 (m:Int)] w (ql 9 1 id w (zp m).length (wv (zp m)))):=Lh fun w ht=>rpos m L0 m rfl w ht
  generalize zp m=L at *
  go_enter func51,ntmps51
  go_wp2_with (go_at_call 88;refine (HS.out _ HT.out).mono ?_;rintro e w1 ⟨A1,c1,rfl,hown1,hbel1⟩)
  go_ret2;rw [HL.out];exact ⟨A1,c1,rfl,hown1,hbel1⟩
def isS (r:Int):Bool:=(jM r).isSome
theorem isS_tab : ∀ x:Fin 127,isS (x.val:Int)=(decide (33<=x.val)&&!(decide (48<=x.val)&&decide (x.val<=57))&&!(decide (65<=x.val)&&decide (x.val<=90))&&!(decide (97<=x.val)&&decide (x.val<=122))):=by decide +kernel
theorem isS_eq (r:Int):isS r=(decide (33<=r)&&decide (r<=126)&&!(decide (48<=r)&&decide (r<=57))&&!(decide (65<=r)&&decide (r<=90))&&!(decide (97<=r)&&decide (r<=122))):=by
 by_cases h:0<=r/\r<=126
 ·obtain ⟨h1,h2⟩:=h;obtain ⟨n,rfl⟩:=Int.eq_ofNat_of_zero_le h1;have:=isS_tab ⟨n,by omega⟩;simp only at this;rw [this,Bool.eq_iff_iff]
  simp
  omega
 ·have h1:isS r=false:=by
   unfold isS
   cases hs:jM r with
   | none=>rfl
   | some i =>
    obtain ⟨_,_,a,b⟩:=jz hs;exact absurd ⟨by omega,b⟩ h
  rw [h1,Bool.eq_iff_iff]
  simp
  omega
theorem rsign (r:Int) (w:World):Calls prog 153 #[.int .i32 r] w (qh (.bool (isS r)) w):=by
 have HI:=Lh (isS_eq r);generalize isS r=R at *
 rcases Int.lt_or_le r 33 with h1 | h1
 ·obtain rfl:R=false:=by rw [HI.out,Bool.eq_false_iff];simp;omega
  go_enter func153,ntmps153
  go_wp2;go_ret;exact ⟨rfl,Le _ _⟩
 rcases Int.lt_or_le 126 r with h2 | h2
 ·obtain rfl:R=false:=by rw [HI.out,Bool.eq_false_iff];simp;omega
  go_enter func153,ntmps153
  go_wp2;go_ret;exact ⟨rfl,Le _ _⟩
 rcases Int.lt_or_le r 48 with h3 | h3
 ·obtain rfl:R=true:=by rw [HI.out];simp;omega
  go_enter func153,ntmps153
  go_wp2;go_ret;exact ⟨rfl,Le _ _⟩
 rcases Int.lt_or_le r 58 with h3 | h3
 ·obtain rfl:R=false:=by rw [HI.out,Bool.eq_false_iff];simp;omega
  go_enter func153,ntmps153
  go_wp2;go_ret;exact ⟨rfl,Le _ _⟩
 rcases Int.lt_or_le r 65 with h3 | h3
 ·obtain rfl:R=true:=by rw [HI.out];simp;omega
  have e57 : ¬ r<=57:=by omega
  go_enter func153,ntmps153
  go_wp2;go_ret;exact ⟨rfl,Le _ _⟩
 rcases Int.lt_or_le r 91 with h3 | h3
 ·obtain rfl:R=false:=by rw [HI.out,Bool.eq_false_iff];simp;omega
  have e57 : ¬ r<=57:=by omega
  go_enter func153,ntmps153
  go_wp2;go_ret;exact ⟨rfl,Le _ _⟩
 rcases Int.lt_or_le r 97 with h3 | h3
 ·obtain rfl:R=true:=by rw [HI.out];simp;omega
  have e57 : ¬ r<=57:=by omega
  have e90 : ¬ r<=90:=by omega
  go_enter func153,ntmps153
  go_wp2;go_ret;exact ⟨rfl,Le _ _⟩
 rcases Int.lt_or_le r 123 with h3 | h3
 ·obtain rfl:R=false:=by rw [HI.out,Bool.eq_false_iff];simp;omega
  have e57 : ¬ r<=57:=by omega
  have e90 : ¬ r<=90:=by omega
  have g122:r<=122:=by omega
  go_enter func153,ntmps153
  go_wp2;go_ret;exact ⟨rfl,Le _ _⟩
 obtain rfl:R=true:=by rw [HI.out];simp;omega
 have e57 : ¬ r<=57:=by omega
 have e90 : ¬ r<=90:=by omega
 have e122 : ¬ r<=122:=by omega
 go_enter func153,ntmps153
 go_wp2;go_ret;exact ⟨rfl,Le _ _⟩
theorem qhd (r:Int) (w:World):Calls prog 152 #[.int .i32 r] w (qh (.bool (zC r)) w):=by
 have HI:Hid (zC r=((decide (0<=r)&&decide (r<=55295)) || (decide (57344<=r)&&decide (r<=1114111)))):=Lh rfl;generalize zC r=R at *
 rcases Int.lt_or_le r 0 with h1 | h1
 ·obtain rfl:R=false:=by rw [HI.out,Bool.eq_false_iff];simp;omega
  go_enter func152,ntmps152
  go_wp2;go_ret;exact ⟨rfl,Le _ _⟩
 rcases Int.lt_or_le 1114111 r with h2 | h2
 ·obtain rfl:R=false:=by rw [HI.out,Bool.eq_false_iff];simp;omega
  go_enter func152,ntmps152
  go_wp2;go_ret;exact ⟨rfl,Le _ _⟩
 rcases Int.lt_or_le r 55296 with h3 | h3
 ·obtain rfl:R=true:=by rw [HI.out];simp;omega
  go_enter func152,ntmps152
  go_wp2;go_ret;exact ⟨rfl,Le _ _⟩
 rcases Int.lt_or_le 57343 r with h4 | h4
 ·obtain rfl:R=true:=by rw [HI.out];simp;omega
  go_enter func152,ntmps152
  go_wp2;go_ret;exact ⟨rfl,Le _ _⟩
 ·obtain rfl:R=false:=by rw [HI.out,Bool.eq_false_iff];simp;omega
  have e1 : ¬ r<55296:=by omega
  have e2 : ¬ 57343<r:=by omega
  go_enter func152,ntmps152
  go_wp2;go_ret;exact ⟨rfl,Le _ _⟩
theorem rnames (w:World):Calls prog 151 #[] w (ql 9 1 id w 32 nmL):=by
 go_enter func151,ntmps151
 go_wp2;go_ret;exact ⟨_,_,rfl,qx (xs:=nmL) rfl rfl (Ld _) L0,L5⟩
def cntS (x:Nat):Nat:=((List.range 32).filter fun i=>decide (yq i<x)).length
theorem cntS_33:cntS 33=0:=by decide +kernel
theorem qkk : ∀ x:Fin 127,cntS (x.val+1)=cntS x.val+(if isS (x.val:Int) then 1 else 0):=by decide +kernel
theorem qi7 : ∀ i:Fin 32,cntS (yq i.val)=i.val:=by decide +kernel
theorem cntS_le : ∀ x:Fin 127,cntS x.val<=32:=by decide +kernel
def qhZ (r:Int):ByteArray:=match jM r with
 | some i=>nb i
 | none=>⟨#[]⟩
theorem rname (r:Int) (w:World):Calls prog 154 #[.int .i32 r] w (qh (.string (qhZ r)) w):=by
 have HSI:Hid (∀ x w,Calls prog 153 #[.int .i32 x] w (qh (.bool (isS x)) w)):=Lh rsign;unfold qhZ
 cases hi:jM r with
 | none =>
  have H0:Hid (∀ w,Calls prog 153 #[.int .i32 r] w (qh (.bool false) w)):=Lh fun w=>by
   have:=rsign r w;unfold isS at this
   rwa [hi] at this
  clear hi
  go_enter func154,ntmps154
  go_wp2_with (go_at_call 153;refine (H0.out _).mono ?_;rintro e w1 ⟨rfl,hbel1⟩)
  go_ret;exact ⟨rfl,hbel1⟩
 | some i =>
  obtain ⟨hi32,rfl,hr1,hr2⟩:=jz hi;have H0:Hid (∀ w,Calls prog 153 #[.int .i32 (yq i:Nat)] w (qh (.bool true) w)):=Lh fun w=>by
   have:=rsign (yq i:Int) w;unfold isS at this
   rwa [hi] at this
  have HC:=Lh (qi7 ⟨i,hi32⟩);simp only at HC;clear hi;simp only;generalize yq i=r at *
  go_enter func154,ntmps154
  go_wp2_with (go_at_call 153;refine (H0.out _).mono ?_;rintro e w1 ⟨rfl,hbel1⟩)
  have hr127:r<127:=by omega
  have HST:Hid (∀ n,n<127->cntS (n+1)=cntS n+(if isS (n:Int) then 1 else 0)):=Lh fun n h=>qkk ⟨n,h⟩
  have HLE:Hid (∀ n,n<127->cntS n<=32):=Lh fun n h=>cntS_le ⟨n,h⟩
  have H33:=Lh cntS_33;have hnb:Hid (nmL[i]? = some (.string (nb i))):=Lh (by simp [nmL,hi32]);generalize cntS=cnt at *
  obtain ⟨wa,rfl⟩ : ∃ x:World,x=w1:=⟨_,rfl⟩
  go_loopw [3,4] (fun k x wr=>∃ n:Nat,33<=n/\n<=r/\k = .int .i64 (cnt n:Nat)/\x = .int .i32 (n:Int)/\Below wa.heap.size wa wr) (fun _ x _=>r-(intOf x).toNat)
  case atStart=>exact ⟨33,by omega,by omega,by rw [H33.out];rfl,rfl,Le _ _⟩
  case round =>
   obtain ⟨n,hn1,hn2,rfl,rfl,hbel⟩:=hrel
   by_cases hlt:n<r
   ·have hst:=Lh (HST.out n L0);have hle:=HLE.out n L0;have HX:=Lh (HSI.out (n:Int));generalize isS (n:Int)=X at *
    cases X with
    | true =>
     have hst2:Hid (cnt (n+1)=cnt n+1):=Lh (by rw [hst.out];rfl)
     go_wp2_with (go_at_call 153;refine (HX.out _).mono ?_;rintro e w2 ⟨rfl,hbel2⟩)
     exact ⟨⟨n+1,by omega,by omega,by rw [hst2.out];go_num,by go_num,hbel.trans (hbel2.mono hbel.size)⟩,by simp [intOf];omega⟩
    | false =>
     have hst2:Hid (cnt (n+1)=cnt n):=Lh (by rw [hst.out];rfl)
     go_wp2_with (go_at_call 153;refine (HX.out _).mono ?_;rintro e w2 ⟨rfl,hbel2⟩)
     exact ⟨⟨n+1,by omega,by omega,by rw [hst2.out],by go_num,hbel.trans (hbel2.mono hbel.size)⟩,by simp [intOf];omega⟩
   ·obtain rfl:n=r:=by omega
    rw [HC.out]
    go_wp2_with (go_at_call 151;refine (rnames _).mono ?_;rintro e w2 ⟨A2,c2,rfl,hown2,hbel2⟩;obtain ⟨b2,o2,rfl,_,hc2⟩:=(Rd.of_own hown2).at_ hi32;rw [hnb.out] at hc2)
    go_ret;exact ⟨rfl,hbel1.trans ((hbel.trans (hbel2.mono hbel.size)).mono hbel1.size)⟩
def vocB:List ByteArray:=(List.range 32).map wb
theorem qkj {k:Nat} (h:k<32):vocB.take (k+1)=vocB.take k++[wb k]:=by
 unfold vocB;rw [<- List.map_take,<- List.map_take,List.take_range,List.take_range,Nat.min_eq_left L0,Nat.min_eq_left L0,List.range_succ,List.map_append]
 rfl
theorem vocB_len (k:Nat) (h:k<=32):(vocB.take k).length=k:=by
 unfold vocB
 simp
 omega
theorem qcH (w:World) (ht:Tb w):Calls prog 110 #[] w (ql 9 1 id w 32 (sv vocB)):=by
 have HT:=Lh ht;have HK:Hid (∀ k,k<32->vocB.take (k+1)=vocB.take k++[wb k]):=Lh fun k h=>qkj h
 have HL:Hid (∀ k,k<=32->(vocB.take k).length=k):=Lh vocB_len;have HE:Hid (sv vocB=sv (vocB.take 28)++sv [wb 28,wb 29,wb 30,wb 31]):=Lh rfl;clear ht
 go_enter func110,ntmps110
 go_wp2
 go_loopw [1,2] (fun v x wr=>∃ (A:Option Addr) (c k:Nat),k<=20/\x = .int .i64 k/\v = .slice A k c/\wr.ownsRow w.heap.size 9 1 (.slice A k c) k (sv (vocB.take k))/\Below w.heap.size w wr) (fun _ x _=>20-(intOf x).toNat)
 case atStart=>exact ⟨_,_,0,by omega,rfl,rfl,qx (xs:=[]) rfl rfl (Ld _) (Nat.zero_le _),L5⟩
 case round =>
  obtain ⟨A,c,k,hk,rfl,rfl,hown,hbel⟩:=hrel;have zb:=hbel.size
  by_cases hlt:k<20
  ·have hc:=(HT.out.below hbel).1 k hlt;have hkk:=Lh (HK.out k L0);have hll:=Lh (HL.out (k+1) L0);generalize wb k=x at *
   generalize vocB.take k=V at *
   go_wp2_with (at_builtin;go_must (refine qg rfl _ _ _ rfl qp (w.heap.size) _ rfl ((hown.alloc _)) _ _ rfl ((qe (by first | rfl | (simp;done)) rfl)) ?_);intro A4 c4 w4 hown4 hbel4 hgr4 hat4;have z4:=hbel4.size;(try simp only [Li] at z4);(try simp only [Lo,Lg] at hown4))
   exact ⟨⟨A4,c4,k+1,by omega,by go_num,rfl,by rw [hkk.out];simpa [sv] using hown4,(hbel.alloc zb _).trans hbel4⟩,by simp [intOf];omega⟩
  ·obtain rfl:k=20:=by omega
   have e20:((20:Nat):Int)=20:=rfl;rw [e20];go_wp2
   go_loopw [1,3] (fun v x wr=>∃ (A:Option Addr) (c k:Nat),k<=8/\x = .int .i64 k/\v = .slice A (20+k) c/\wr.ownsRow w.heap.size 9 1 (.slice A (20+k) c) (20+k) (sv (vocB.take (20+k)))/\Below w.heap.size w wr) (fun _ x _=>8-(intOf x).toNat)
   case atStart=>exact ⟨A,c,0,by omega,rfl,rfl,hown,hbel⟩
   case round =>
    obtain ⟨A,c,k,hk,rfl,rfl,hown,hbel⟩:=hrel;have zb:=hbel.size
    by_cases hlt:k<8
    ·have hc:=(HT.out.below hbel).2 k hlt;have hkk:=Lh (HK.out (20+k) L0);generalize wb (20+k)=x at *
     generalize vocB.take (20+k)=V at *
     go_wp2_with (at_builtin;go_must (refine qg rfl _ _ _ rfl qp (w.heap.size) _ rfl ((hown.alloc _)) _ _ rfl ((qe (by first | rfl | (simp;done)) rfl)) ?_);intro A4 c4 w4 hown4 hbel4 hgr4 hat4;have z4:=hbel4.size;(try simp only [Li] at z4);(try simp only [Lo,Lg] at hown4))
     exact ⟨⟨A4,c4,k+1,by omega,by go_num,by rw [Nat.add_assoc],by rw [show 20+(k+1)=20+k+1 by omega,hkk.out];simpa [sv] using hown4,(hbel.alloc zb _).trans hbel4⟩,by simp [intOf];omega⟩
    ·obtain rfl:k=8:=by omega
     go_wp2_with (at_builtin;go_must (refine qg rfl _ _ _ rfl qp (w.heap.size) _ rfl ((hown.alloc _)) _ _ rfl ((qe (xs:=sv [wb 28,wb 29,wb 30,wb 31]) (by first | rfl | (simp;done)) rfl)) ?_);intro A4 c4 w4 hown4 hbel4 hgr4 hat4;have z4:=hbel4.size;(try simp only [Li] at z4);(try simp only [Lo,Lg] at hown4))
     go_ret;exact ⟨A4,c4,rfl,by rw [HE.out];exact hown4,(hbel.alloc zb _).trans hbel4⟩
end Go.Proofs.YtbogmeeijdaijaaGreatDoor
namespace Go.Proofs.YtbogmeeijdaijaaGreatDoor
open Go.Proofs.Tryz Go.RowKit
set_option maxRecDepth 100000
def qab (l:List ByteArray) (s:ByteArray):Bool:=l.any fun x=>decide (x=s)
theorem has_ (l:List ByteArray) (s:ByteArray) (A:Option Addr) (n c B:Nat) (w:World) (hn:l.length=n) (hb:n<=1000000000) (rd:Rd w B 1 A n (sv l)) :
  Calls prog 109 #[.slice A n c,.string s] w (Same (.bool (qab l s)) w):=by
 have HF:Hid (qab l s=qab (l.drop 0) s):=Lh rfl;have HN:=Lh hn;generalize qab l s=R at HF ⊢;clear hn
 go_enter func109,ntmps109
 go_wp2
 go_loop [5] (fun x=>∃ k:Nat,k<=n/\x = .int .i64 k/\Hid (R=qab (l.drop k) s)) (fun x=>n-(intOf x).toNat)
 case atStart=>exact ⟨0,Nat.zero_le _,rfl,HF⟩
 case round =>
  obtain ⟨k,hk,rfl,HR⟩:=hrel
  by_cases hlt:k<n
  ·have hkl:k<l.length:=by have:=HN.out;omega
   obtain ⟨b,o,rfl,_,hc⟩:=rd.at_ hlt;rw [yM _ _ hkl] at hc;have HD:Hid (l.drop k=l[k]::l.drop (k+1)):=Lh (Ls hkl);generalize l[k]=x at *
   by_cases he:x=s
   ·have HR2:Hid (R=true):=Lh (by rw [HR.out,HD.out];simp [qab,he]);have hq:(x.toList==s.toList)=true:=by rw [jO];simp [he]
    clear he HR HD;go_wp2;go_ret;exact ⟨by rw [HR2.out];rfl,rfl⟩
   ·have HR2:Hid (R=qab (l.drop (k+1)) s):=Lh (by rw [HR.out,HD.out];simp [qab,he]);have hq:(x.toList==s.toList)=false:=by rw [jO];simp [he]
    clear he HR HD;go_wp2;exact ⟨⟨k+1,by omega,by go_num,HR2⟩,by simp [intOf];omega⟩
  ·have HR2:Hid (R=false):=Lh (by rw [HR.out,Lv (by have:=HN.out;omega)];rfl);go_wp2;go_ret;exact ⟨by rw [HR2.out];rfl,rfl⟩
theorem qi0 (w:World):Calls prog 150 #[] w fun e w'=>e = .returned (.slice (some ⟨w.heap.size,0,none⟩) 39 39)/\w.alloc (.cells (sv ctrlL).toArray 9)=w':=by
 have e:(sv ctrlL).toArray = #[.string cB,.string zO,.string bCap,.string yi,.string vD,.string yB,.string bTimes,.string qS,.string qaO,.string vI,.string (vP 0),.string (vP 1),.string (vP 2),.string (vP 3),
 .string ⟨#[115,105,122,101]⟩,.string ⟨#[114,111,119,115]⟩,.string ⟨#[99,111,108,117,109,110,115]⟩,.string ⟨#[115,99,114,111,108,108]⟩,.string ⟨#[108,105,110,101]⟩,.string ⟨#[108,105,110,101,115]⟩,.string ⟨#[102,114,111,109]⟩,.string ⟨#[116,111]⟩,.string ⟨#[117,112]⟩,.string ⟨#[100,111,119,110]⟩,
 .string ⟨#[99,111,108,117,109,110]⟩,.string ⟨#[114,101,112,108,97,99,101]⟩,.string ⟨#[119,105,116,104]⟩,.string ⟨#[105,110,115,101,114,116]⟩,.string ⟨#[100,101,108,101,116,101]⟩,.string ⟨#[99,117,114,115,111,114]⟩,.string ⟨#[118,105,115,105,98,108,101]⟩,.string ⟨#[105,110,118,105,115,105,98,108,101]⟩,
 .string ⟨#[109,111,114,101]⟩,.string ⟨#[100,111,110,101]⟩,.string ⟨#[117,112,100,97,116,101,115]⟩,.string ⟨#[114,101,97,100,115]⟩,.string ⟨#[115,116,111,112]⟩,.string ⟨#[98,108,97,110,107]⟩,.string ⟨#[98,121]⟩]:=rfl
 rw [e]
 go_enter func150,ntmps150
 go_wp2;go_ret;exact ⟨rfl,rfl⟩
theorem qjW (s:ByteArray):jF s=(qab ctrlL s || (qab vocB s || qab ((List.range 32).map nb) s)):=by
 unfold jF qab qL vocB;rw [List.any_map,List.any_map,Bool.or_assoc]
 rfl
theorem qiS (s:ByteArray) (w:World) (ht:Tb w):Calls prog 127 #[.string s] w (qh (.bool (jF s)) w):=by
 have HC:Hid (∀ w:World,Calls prog 109 #[.slice (some ⟨w.heap.size,0,none⟩) 39 39,.string s] (w.alloc (.cells (sv ctrlL).toArray 9)) (Same (.bool (qab ctrlL s)) (w.alloc (.cells (sv ctrlL).toArray 9)))):=Lh fun w=>has_ ctrlL s _ 39 39 _ _ rfl L0 (qe (xs:=sv ctrlL) rfl rfl)
 have HV:Hid (∀ A c B w,Rd w B 1 A 32 (sv vocB)->Calls prog 109 #[.slice A 32 c,.string s] w (Same (.bool (qab vocB s)) w)):=Lh fun A c B w rd=>has_ vocB s A 32 c B w rfl L0 rd
 have HN:Hid (∀ A c B w,Rd w B 1 A 32 nmL->Calls prog 109 #[.slice A 32 c,.string s] w (Same (.bool (qab ((List.range 32).map nb) s)) w)):=Lh fun A c B w rd=>has_ ((List.range 32).map nb) s A 32 c B w rfl L0 rd
 have HT:=Lh ht;have HCo:=Lh qi0;have HVo:=Lh qcH;have HNo:=Lh rnames;rw [qjW];generalize qab ctrlL s=x1 at *
 generalize qab vocB s=x2 at *
 generalize qab ((List.range 32).map nb) s=x3 at *
 generalize (sv ctrlL).toArray=CA at *
 clear ht
 cases x1 with
 | true =>
  rw [Bool.true_or]
  go_enter func127,ntmps127
  go_wp2_with (first
   | (go_at_call 150;refine (HCo.out _).mono ?_;rintro e w1 ⟨rfl,rfl⟩)
   | (go_at_call 109;refine (HC.out _).mono ?_;rintro e w2 ⟨rfl,rfl⟩))
  go_ret;exact ⟨rfl,L5⟩
 | false =>
  rw [Bool.false_or]
  cases x2 with
  | true =>
   rw [Bool.true_or]
   go_enter func127,ntmps127
   go_wp2_with (first
    | (go_at_call 150;refine (HCo.out _).mono ?_;rintro e w1 ⟨rfl,rfl⟩)
    | (go_at_call 110;refine (HVo.out _ (HT.out.below L5)).mono ?_;rintro e w3 ⟨A3,c3,rfl,hown3,hbel3⟩)
    | ((fail_if_success have:=hown3);go_at_call 109;refine (HC.out _).mono ?_;rintro e w2 ⟨rfl,rfl⟩)
    | (go_at_call 109;refine (HV.out _ _ _ _ (Rd.of_own hown3)).mono ?_;rintro e w4 ⟨rfl,rfl⟩))
   go_ret;exact ⟨rfl,(L5).trans (hbel3.mono L1)⟩
  | false =>
   rw [Bool.false_or]
   go_enter func127,ntmps127
   go_wp2_with (first
    | (go_at_call 150;refine (HCo.out _).mono ?_;rintro e w1 ⟨rfl,rfl⟩)
    | (go_at_call 110;refine (HVo.out _ (HT.out.below L5)).mono ?_;rintro e w3 ⟨A3,c3,rfl,hown3,hbel3⟩;have t3:=((Le w.heap.size w).alloc (Ld _) _).trans (hbel3.mono L1))
    | (go_at_call 151;refine (HNo.out _).mono ?_;rintro e w5 ⟨A5,c5,rfl,hown5,hbel5⟩;have t5:=t3.trans (hbel5.mono t3.size))
    | ((fail_if_success have:=hown3);go_at_call 109;refine (HC.out _).mono ?_;rintro e w2 ⟨rfl,rfl⟩)
    | ((fail_if_success have:=hown5);go_at_call 109;refine (HV.out _ _ _ _ (Rd.of_own hown3)).mono ?_;rintro e w4 ⟨rfl,rfl⟩)
    | (go_at_call 109;refine (HN.out _ _ _ _ (Rd.of_own hown5)).mono ?_;rintro e w6 ⟨rfl,rfl⟩))
   go_ret;exact ⟨rfl,t5⟩
theorem rnumber_ (s:ByteArray) (w:World) (ht:Tb w):Calls prog 87 #[.string s] w (qh (.bool (qL s)) w):=by
 have e:qL s=qab vocB s:=by
  unfold qL qab vocB;rw [List.any_map]
  rfl
 rw [e];have HV:Hid (∀ A c B w,Rd w B 1 A 32 (sv vocB)->Calls prog 109 #[.slice A 32 c,.string s] w (Same (.bool (qab vocB s)) w)):=Lh fun A c B w rd=>has_ vocB s A 32 c B w rfl L0 rd
 have HT:=Lh ht;clear ht e;generalize qab vocB s=x2 at *
 go_enter func87,ntmps87
 go_wp2_with (first
  | (go_at_call 110;refine (qcH _ HT.out).mono ?_;rintro e w3 ⟨A3,c3,rfl,hown3,hbel3⟩)
  | (go_at_call 109;refine (HV.out _ _ _ _ (Rd.of_own hown3)).mono ?_;rintro e w4 ⟨rfl,rfl⟩))
 go_ret;exact ⟨rfl,hbel3⟩
end Go.Proofs.YtbogmeeijdaijaaGreatDoor
namespace Go.Proofs.YtbogmeeijdaijaaGreatDoor
open Go.Proofs.Tryz Go.RowKit
set_option maxRecDepth 20000
theorem qac : ∀ {l:List ChgM},chkAll l=0↔∀ c∈zo l,vj c=0
 | []=>by simp [chkAll,zo]
 | x::t=>by
  have ih:=qac (l:=t);unfold chkAll
  constructor
  ·intro h c hc
   split at h
   ·rename_i h0
    rcases List.mem_cons.1 hc with rfl | hc
    ·exact h0
    ·exact ih.1 h c hc
   ·rename_i h0;exact absurd h h0
  ·intro h;rw [if_pos (h x.c (by simp [zo]))];exact ih.2 fun c hc=>h c (by simp [zo] at hc ⊢;exact .inr hc)
def SmC (l:List ChgM):Prop:=∀ x∈l,x.c.glyphs.length<=1000000000/\∀ g∈x.c.glyphs,g.text.size<=1000000000
theorem sz_wb (j:Nat) (hj:j<32):(wb j).size<=1000:=by
 have : ∀ k:Fin 32,(wb k.val).size<=1000:=by decide +kernel
 exact this ⟨j,hj⟩
theorem sz_nb (j:Nat) (hj:j<32):(nb j).size<=1000:=by
 have : ∀ k:Fin 32,(nb k.val).size<=1000:=by decide +kernel
 exact this ⟨j,hj⟩
theorem sz_sty (i:Nat):(vP i).size<=1000:=by
 unfold vP
 split <;> decide +kernel
theorem qfU {n:Int} (h1 : -999999999<=n) (h2:n<=999999999) : ∀ a∈(qm n).map wb,a.size<=1000:=by
 intro a ha;obtain ⟨i,hi,rfl⟩:=List.mem_map.1 ha;exact sz_wb i (jT n h1 h2 i hi)
theorem qfk {n:Nat} (h:n<=999999999) : ∀ a∈numW n,a.size<=1000:=qfU L0 L0
theorem sz_spell (r:Int) : ∀ a∈qD r,a.size<=1000:=by
 intro a ha;unfold qD at ha
 split at ha
 ·rename_i i hi
  rw [List.mem_singleton] at ha;subst ha;exact sz_nb i (jz hi).1
 ·split at ha
  ·rename_i hc
   have hr:=kj hc
   rcases List.mem_cons.1 ha with rfl | ha
   ·decide +kernel
   ·exact qfU L0 L0 a ha
  ·cases ha
theorem qei (g:Gl) : ∀ a∈qP g,a.size<=1000:=by
 intro a ha;unfold qP at ha
 split at ha
 ·rw [List.mem_singleton] at ha;subst ha
  decide +kernel
 ·rw [List.mem_flatMap] at ha;obtain ⟨r,_,ha⟩:=ha;exact sz_spell _ a ha
theorem qjP {l:List Gl} (h : ∀ x∈l,qd x=3) (dg:Bool) : ∀ a∈digitsL l dg,a.size<=1000:=by
 have hd : ∀ d∈digL l,d<10:=by
  have:=qc8 h;unfold jC at this;intro d hd;refine this d ?_;unfold digL at hd;rw [List.map_map];exact hd
 have hl:(digL l).length=l.length:=by unfold digL;rw [Lq]
 unfold digitsL
 split
 ·intro a ha
  rcases List.mem_cons.1 ha with rfl | ha
  ·decide +kernel
  ·obtain ⟨d,hd1,ha⟩:=List.mem_flatMap.1 ha;have:=hd d hd1;exact qfk L0 a ha
 ·rename_i hc
  have h9:l.length<=9:=by
   rcases Nat.lt_or_ge 9 l.length with h | h
   ·exact absurd (.inr (.inl h)) hc
   ·exact h
  have:=num9 hd;have hp:10 ^ (digL l).length<=10 ^ 9:=Nat.pow_le_pow_right L2 L0;exact qfk L0
theorem sz_pre (q:Spk) (g:Gl) (w0:ByteArray) : ∀ a∈ky q g w0,a.size<=1000:=by
 unfold ky;intro a ha
 (repeat' split at ha) <;> first | (cases ha;done) | (rw [List.mem_singleton] at ha;subst ha;first | exact sz_sty _ | decide +kernel)
def S0:Setts:=⟨false,false,3⟩
section
variable {w X : World} {c : Chg} {Ag : Option Addr} {cap : Nat} {r : Int} {d sp : Bool} {p : Int} {con : Bool} {k : Int} {xs : List ByteArray}
end
theorem vO (n:Int):(qY n).length<=15:=by unfold qY;rw [Lq];exact ke n
theorem yN {R xs ys T:List ByteArray} {a:ByteArray} {n:Int} (h:Hid (R=xs++a::(qY n++T))) (hy:ys=xs++a::qY n):Hid (R=ys++T):=Lh (by rw [h.out,hy,List.append_assoc];rfl)
theorem qfQ {r q k:Int} (h:BadS r q k):setE r q k=2:=if_pos h
theorem setE_ok {r q k:Int} (h : ¬ BadS r q k):setE r q k=0:=if_neg h
theorem rcheck_s (r:Int) (d sp:Bool) (q:Int) (con:Bool) (k:Int) (w:World):Calls prog 24 #[stV r d sp q con k] w (qh (.int .i64 (setE r q k)) w):=by
 obtain ⟨X,hX⟩ : ∃ X,X=setE r q k:=⟨_,rfl⟩
 rw [<- hX];have HB:Hid (BadS r q k->X=2):=Lh fun h=>by rw [hX,qfQ h]
 have HO:Hid (¬ BadS r q k->X=0):=Lh fun h=>by rw [hX,setE_ok h]
 obtain ⟨C0,C1,C2,C3,C4,C5⟩:=StBox.new w r d sp q con k 38;clear hX
 go_enter func24,ntmps24
 go_wp2
 all_goals go_ret
 all_goals first
  | exact ⟨by rw [HO.out (by unfold BadS;simp at *;omega)];rfl,L5⟩
  | exact ⟨by rw [HB.out (by unfold BadS;simp at *;omega)];rfl,L5⟩
theorem qji {c:Chg} (hc:vj c=0) (S:Setts):(phraseL c S).length<=50000200:=by
 obtain ⟨hg,hgl,hk,_⟩:=chk_gl hc;have hw:=(yv (S:=S) _ (Ld _) (WoI.start S c.glyphs L0 fun x hx=>(gw_of (hgl x hx)).1)).1;have n1:=vO c.row;have n2:=vO c.col;have n3:=vO (c.row+1);have n4:=vO (c.col+1);have n5:=vO c.til;have n6:=vO c.count;have n7:=vO (-c.count);unfold phraseL
 (repeat' split) <;> simp only [Lf,Lp,List.length_nil] <;> omega
theorem qiH {l:List ChgM} {j:Nat} (h:j<l.length) (S:Setts):((zo (l.drop j)).flatMap fun c=>phraseL c S)=phraseL l[j].c S++(zo (l.drop (j+1))).flatMap fun c=>phraseL c S:=by
 rw [Ls h]
 rfl
theorem UwR.err {l:List ChgM} {m r q k x:Int} {S:Setts} {w w':World} {e:Ending} (h:wErr l m r q k=x) (hx:x≠0) (he:e = .returned (.tuple #[.slice none 0 0,.int .i64 x])/\Below w.heap.size w w'):UwR l m r q k S w e w':=by
 unfold UwR;rw [if_neg (by rw [h];exact hx),h];exact he
theorem vZ (n:Int) (h1 : -999999999<=n) (h2:n<=999999999) : ∀ s∈qY n,s.size<=1000:=fun s hs=>by
 unfold qY at hs;obtain ⟨j,hj,rfl⟩:=List.mem_map.1 hs;have h:=jT n h1 h2 j hj;have : ∀ i,i<32->(wb i).size<=1000:=by decide +kernel
 exact this j h
theorem qkc {n:Int} (h0:0<=n) (h1:n<=999999999):(endW n).length<=20/\SzW (endW n):=by
 have:=vO n;unfold endW
 split
 ·exact ⟨by simp,SzW.cons L2 SzW.nil⟩
 ·split
  ·exact ⟨by simp,SzW.cons L2 SzW.nil⟩
  ·exact ⟨by simp only [Lf,Lp,List.length_nil];omega,SzW.cons L2 (SzW.app (vZ _ L0 L0) (SzW.cons L2 SzW.nil))⟩
def Fw (g:Gl):Prop:=(qs (qB g.text)).length<=4
theorem qhU {g:Gl} (h:Fw g):(qP g).length<=65:=by
 have h1:=@qaX g;unfold Fw at h
 omega
theorem qgK {l:List Gl} (hl:l.length<=1000) (sp:Bool) : ∀ a∈lettersL l sp,a.size<=1000:=by
 have hlow:(lowL l).length=l.length:=by unfold lowL;rw [Lq]
 intro a ha;unfold lettersL at ha
 rcases List.mem_append.1 ha with ha | ha
 ·split at ha
  ·rw [List.mem_singleton] at ha;subst ha;decide +kernel
  ·split at ha
   ·rw [List.mem_singleton] at ha;subst ha;decide +kernel
   ·cases ha
 ·split at ha
  ·rcases List.mem_append.1 ha with ha | ha
   ·rcases List.mem_cons.1 ha with rfl | ha
    ·decide +kernel
    ·obtain ⟨c,hc,rfl⟩:=List.mem_map.1 ha;exact (by decide:1<=1000)
   ·rw [List.mem_singleton] at ha;subst ha;decide +kernel
  ·rcases List.mem_append.1 ha with ha | ha
   ·split at ha
    ·rw [List.mem_singleton] at ha;subst ha;decide +kernel
    ·cases ha
   ·rw [List.mem_singleton] at ha;subst ha
    show (List.toArray _).size<=_
    rw [List.size_toArray]
    omega
theorem qcU (l:List Gl) (sp:Bool):(lettersL l sp).length<=l.length+5:=by
 have hlow:(lowL l).length=l.length:=by unfold lowL;rw [Lq]
 unfold lettersL;simp only [Lf]
 (repeat' split) <;> simp only [Lf,Lp,List.length_nil,Lq] <;> omega
theorem qhM (l:List Gl) (dg:Bool):(digitsL l dg).length<=16 * l.length+17:=by
 rw [kG];unfold yt
 split
 ·have:=qdJ (jC (List.map headB l));have h5:(jC (List.map headB l)).length=l.length:=by unfold jC;rw [Lq,Lq]
  rw [Lp]
  omega
 ·have:=kR (numL (jC (List.map headB l)))
  omega
theorem qg4 {g:Gl} {t:List Gl} {rep:Int} {sp dg:Bool} (hn:(g::t).length<=1000) (hz : ∀ x∈g::t,Fw x) :
  (qq (pcL (g::t) rep) sp dg).length<=16 * (pcL (g::t) rep).length+82/\∀ a∈qq (pcL (g::t) rep) sp dg,a.size<=1000:=by
 have hpc:=kn g t rep;have hpl:(pcL (g::t) rep).length<=1000:=by
  unfold pcL;rw [Lu]
  omega
 have hg:=hz g L1
 by_cases hk:qd g=1∨qd g=2
 ·rw [hpc] at hpl ⊢;rw [jv hk];have:=qcU (g::t.take (qo (g::t) rep-1)) sp;exact ⟨Lj (qcU _ sp) L0,qgK hpl sp⟩
 ·by_cases h3:qd g=3
  ·have h2:=qe1 (t:=t) (rep:=rep) h3;rw [hpc] at h2 hpl ⊢;rw [ju h3];exact ⟨Lj (qhM _ dg) L0,qjP (fun x hx=>(h2 x hx).1) dg⟩
  ·have h0:qd g=0:=by
    have:=jX g
    omega
   have hs:=qhU hg
   rcases qfe (t:=t) (rep:=rep) h0 with e | ⟨n,hn,hn2,e,_⟩
   ·rw [e,jt h0];exact ⟨by omega,qei g⟩
   ·rw [e] at hpl ⊢;obtain ⟨m,rfl⟩ : ∃ m,n=m+1:=⟨n-1,by omega⟩
    rw [List.length_replicate] at hpl;rw [List.replicate_succ,jb h0 (by intro e;have:=congrArg List.length e;simp at this;omega)];have hw:=kR ((List.replicate m g).length+1);refine ⟨by simp only [Lf,Lp,List.length_nil];omega,fun a ha=>?_⟩
    rcases List.mem_append.1 ha with ha | ha
    ·rcases List.mem_append.1 ha with ha | ha
     ·exact qfk (by simp;omega) a ha
     ·rw [List.mem_singleton] at ha;subst ha;decide +kernel
    ·exact qei g a ha
theorem qdy (S:Setts) : ∀ (n:Nat) (q:Spk) (rest:List Gl),rest.length<=n->rest.length<=1000->(∀ x∈rest,Fw x)->(∀ s∈q.out,s.size<=1000) ->
  (qQ S rest.length q rest).out.length<=q.out.length+100 * rest.length/\∀ s∈(qQ S rest.length q rest).out,s.size<=1000
 | n,q,[],_,_,_,h=>by
  rw [show (qQ S ([]:List Gl).length q [])=q from rfl];exact ⟨by simp,h⟩
 | 0,q,g::t,hn,_,_,_=>by simp at hn
 | n+1,q,g::t,hn,h6,hz,h=>by
  have hp:=vz (g:=g) (t:=t) S.rep;have hdl:((g::t).drop (qo (g::t) S.rep)).length=(g::t).length-qo (g::t) S.rep:=List.length_drop;have hc:(g::t).length=t.length+1:=Lp;have hzd : ∀ x∈(g::t).drop (qo (g::t) S.rep),Fw x:=fun x hx=>hz x (List.mem_of_mem_drop hx)
  rw [jR]
  split
  ·have:=qdy S n { q with silent:=true } _ L0 L0 hzd h;exact ⟨by have h1:=this.1;simp only at h1;omega,this.2⟩
  ·have hb:=qg4 (rep:=S.rep) (sp:=S.spell) (dg:=S.digits) h6 hz;have hpl:(pcL (g::t) S.rep).length<=qo (g::t) S.rep/\(pcL (g::t) S.rep).length<=(g::t).length:=by
    unfold pcL;rw [Lu]
    omega
   have hq:(sayL q S (pcL (g::t) S.rep)).out=q.out++ky q g ((qq (pcL (g::t) S.rep) S.spell S.digits).headD ⟨#[]⟩)++qq (pcL (g::t) S.rep) S.spell S.digits:=by rw [qdg]
   have hpre:=qfF q g ((qq (pcL (g::t) S.rep) S.spell S.digits).headD ⟨#[]⟩);have hql:(sayL q S (pcL (g::t) S.rep)).out.length<=q.out.length+16 * (pcL (g::t) S.rep).length+84:=by
    rw [hq,Lf,Lf];have:=hb.1
    omega
   have:=qdy S n (sayL q S (pcL (g::t) S.rep)) _ L0 L0 hzd (by
    rw [hq];intro s hs
    rcases List.mem_append.1 hs with hs | hs
    ·rcases List.mem_append.1 hs with hs | hs
     ·exact h s hs
     ·exact sz_pre _ _ _ s hs
    ·exact hb.2 s hs)
   exact ⟨Lj this.1 L0,this.2⟩
theorem qiR (l:List Gl) (S:Setts) (hn:l.length<=1000) (hz : ∀ x∈l,Fw x):(qz l S).length<=100 * l.length/\∀ s∈qz l S,s.size<=1000:=by
 have:=qdy S l.length ⟨[],0,0,false⟩ l (Ld _) hn hz (fun s hs=>by cases hs);refine ⟨?_,this.2⟩;have h1:=this.1;simp only [List.length_nil] at h1
 show (qQ S l.length ⟨[],0,0,false⟩ l).out.length<=_
 omega
theorem fw_of {g:Gl} (h:qJ g=0):Fw g:=by
 obtain ⟨r,t,hc,_,_,_,_,ht,_,_⟩:=(qcr h).1.form;unfold Fw;rw [hc,Lp]
 omega
theorem qhG (c:Chg) (S:Setts) (hc:vj c=0):(phraseL c S).length<=13260/\SzW (phraseL c S):=by
 have hgl:=chk_gl hc;have hb:=qiR c.glyphs S L0 fun x hx=>fw_of (hgl.2.1 x hx)
 have hw:(qz c.glyphs S).length<=13200:=by have:=hb.1;omega
 have hs:SzW (qz c.glyphs S):=hb.2;have hr:=(chk_gl hc).2.2.2;obtain ⟨kind,row,col,count,til,g⟩:=c;simp only at hw hs;unfold je at hr;simp only at hr;have n1:=vO row;have n2:=vO col;have n3:=vO (row+1);have n4:=vO (col+1);have n5:=vO til;have n6:=vO count;have n7:=vO (-count);refine ⟨?_,?_⟩
 ·unfold phraseL;simp only
  (repeat' split) <;> simp only [Lf,Lp,List.length_nil] <;> omega
 ·unfold phraseL;simp only
  split
  ·rename_i h1
   rw [if_pos h1,decide_eq_true_eq] at hr;exact SzW.cons L2 ((SzW.app (vZ _ L0 L0) (SzW.cons L2 (SzW.app (vZ _ L0 L0) (SzW.cons L2 SzW.nil)))))
  ·rename_i h1
   rw [if_neg h1] at hr
   split
   ·rename_i h2
    rw [if_pos h2,decide_eq_true_eq] at hr;refine SzW.cons L2 (SzW.cons L2 (SzW.app (vZ _ L0 L0) (SzW.cons L2 (SzW.app (vZ _ L0 L0) ?_))))
    split
    ·exact SzW.cons L2 (vZ _ L0 L0)
    ·exact SzW.cons L2 (vZ _ L0 L0)
   ·rename_i h2
    rw [if_neg h2] at hr
    split
    ·rename_i h3
     rw [if_pos h3,decide_eq_true_eq] at hr;refine SzW.cons L2 (SzW.app (vZ _ L0 L0) (SzW.cons L2 (SzW.app (vZ _ L0 L0) (SzW.app ?_ ?_))))
     ·split
      ·exact SzW.cons L2 (vZ _ L0 L0)
      ·exact SzW.nil
     ·split
      ·exact SzW.nil
      ·exact SzW.cons L2 (SzW.app hs (SzW.cons L2 SzW.nil))
    ·rename_i h3
     rw [if_neg h3,decide_eq_true_eq] at hr
     split
     ·refine SzW.cons L2 (SzW.cons L2 (SzW.app (vZ _ L0 L0) (SzW.cons L2 (SzW.app (vZ _ L0 L0) ?_))))
      split <;> exact SzW.cons L2 SzW.nil
     ·exact SzW.nil
theorem qfM (S:Setts) : ∀ l:List Chg,(∀ c∈l,vj c=0)->(l.flatMap fun c=>phraseL c S).length<=13260 * l.length/\SzW (l.flatMap fun c=>phraseL c S)
 | [],_=>⟨by simp,SzW.nil⟩
 | c::t,h=>by
  have hp:=qhG c S (h c L1);have ih:=qfM S t fun x hx=>h x (List.mem_cons_of_mem _ hx)
  rw [List.flatMap_cons,Lf,Lp];exact ⟨by omega,SzW.app hp.2 ih.2⟩
theorem words_thirty {l:List Chg} {n:Int} (S:Setts) (h0:0<=n) (h1:n<=999999999) (hl:l.length<=30) (h : ∀ c∈l,vj c=0):(qZ l n S).length<=850000/\SzW (qZ l n S):=by
 have hf:=qfM S l h;have he:=qkc h0 h1;unfold qZ;rw [Lf];have:13260 * l.length<=13260 * 30:=Nat.mul_le_mul_left _ hl;exact ⟨by omega,SzW.app hf.2 he.2⟩
structure SpkM where
 com:Bool
 ws:List ByteArray
 A:Option Addr
 cap:Nat
 cA:Option Addr
 cn:Nat
 cc:Nat
 cl:Int
 af:Int
 up:Int
 be:Int
 en:Int
instance:Inhabited SpkM:=⟨⟨false,[],none,0,none,0,0,0,0,0,0,0⟩⟩
def encK (x:SpkM):List Value:=[.slice x.A x.ws.length x.cap,.slice x.cA x.cn x.cc,.int .i64 x.cl,.int .i64 x.af,.int .i64 x.up,.int .i64 x.be,.int .i64 x.en,.bool x.com]
def qdD (l:List SpkM):List Value:=l.flatMap encK
theorem qbU (x:SpkM):(encK x).length=8:=rfl
theorem qbE (x:SpkM) (l:List SpkM):qdD (x::l)=encK x++qdD l:=by simp [qdD]
theorem qep : ∀ l:List SpkM,(qdD l).length=l.length * 8
 | []=>rfl
 | r::l=>by
  rw [qbE,Lf,qep l,qbU,Lp]
  omega
theorem qex : ∀ (l:List SpkM) (i j:Nat),j<8->(qdD l)[i * 8+j]? = l[i]?.bind fun r=>(encK r)[j]?
 | [],i,j,_=>by simp [qdD]
 | r::l,0,j,h=>by
  rw [qbE,Nat.zero_mul,Lo,List.getElem?_append_left (by rw [qbU];exact h)]
  rfl
 | r::l,i+1,j,h=>by
  rw [qbE,List.getElem?_append_right (by rw [qbU];omega),qbU,show (i+1) * 8+j-8=i * 8+j by omega,qex l i j h]
  rfl
def RdW (w:World) (B:Nat) (x:SpkM):Prop:=Rd w B 1 x.A x.ws.length (sv x.ws)/\x.ws.length<=x.cap/\x.cap<=maxLen/\∀ s∈x.ws,s.size<=maxLen
theorem RdW.below {w w':World} {B:Nat} {x:SpkM} (h:RdW w B x) (hb:Below B w w'):RdW w' B x:=⟨h.1.below hb,h.2⟩
theorem RdW.more {w:World} {B B':Nat} {x:SpkM} (h:RdW w B x) (hb:B<=B'):RdW w B' x:=⟨h.1.more hb,h.2⟩
structure RdS (w:World) (B:Nat) (A:Option Addr) (n:Nat) (l:List SpkM):Prop where
 rd:Rd w B 8 A n (qdD l)
 gl : ∀ x∈l,RdW w B x
theorem RdS.len {w:World} {B n:Nat} {A:Option Addr} {l:List SpkM} (h:RdS w B A n l):l.length=n:=by
 have:=h.rd.1;rw [qep] at this
 omega
theorem RdS.below {w w':World} {B n:Nat} {A:Option Addr} {l:List SpkM} (h:RdS w B A n l) (hb:Below B w w'):RdS w' B A n l:=⟨h.rd.below hb,fun x hx=>(h.gl x hx).below hb⟩
theorem RdS.more {w:World} {B B' n:Nat} {A:Option Addr} {l:List SpkM} (h:RdS w B A n l) (hb:B<=B'):RdS w B' A n l:=⟨h.rd.more hb,fun x hx=>(h.gl x hx).more hb⟩
theorem RdS.at_ {w:World} {B n:Nat} {A:Option Addr} {l:List SpkM} (h:RdS w B A n l) {k:Nat} (hk:k<l.length) : ∃ b o,A=some ⟨b,o,none⟩/\b<B /\
  w.cell? ⟨b,o+k * 8,none⟩=some (.slice l[k].A l[k].ws.length l[k].cap)/\w.cell? ⟨b,o+k * 8+1,none⟩=some (.slice l[k].cA l[k].cn l[k].cc)/\w.cell? ⟨b,o+k * 8+2,none⟩=some (.int .i64 l[k].cl)/\w.cell? ⟨b,o+k * 8+3,none⟩=some (.int .i64 l[k].af) /\
  w.cell? ⟨b,o+k * 8+4,none⟩=some (.int .i64 l[k].up)/\w.cell? ⟨b,o+k * 8+5,none⟩=some (.int .i64 l[k].be)/\w.cell? ⟨b,o+k * 8+6,none⟩=some (.int .i64 l[k].en)/\w.cell? ⟨b,o+k * 8+7,none⟩=some (.bool l[k].com):=by
 have hn:=h.len;obtain ⟨b,o,e,hb,hc⟩:=h.rd.2 L0;have h : ∀ j,j<8->∀ u,(encK l[k])[j]? = some u->w.cell? ⟨b,o+k * 8+j,none⟩=some u:=fun j hj u hu=>by
  have:=hc (k * 8+j) u (by rw [qex _ _ _ hj,List.getElem?_eq_getElem hk];exact hu)
  rwa [<- Nat.add_assoc] at this
 exact ⟨b,o,e,hb,h 0 L0 _ rfl,h 1 L0 _ rfl,h 2 L0 _ rfl,h 3 L0 _ rfl,h 4 L0 _ rfl,h 5 L0 _ rfl,h 6 L0 _ rfl,h 7 L0 _ rfl⟩
end Go.Proofs.YtbogmeeijdaijaaGreatDoor
namespace Go.Proofs.YtbogmeeijdaijaaGreatDoor
open Go.Proofs.Tryz Go.RowKit Go.Shelf
set_option maxRecDepth 20000
attribute [local go_sem] Oper.semAt_some
end Go.Proofs.YtbogmeeijdaijaaGreatDoor
