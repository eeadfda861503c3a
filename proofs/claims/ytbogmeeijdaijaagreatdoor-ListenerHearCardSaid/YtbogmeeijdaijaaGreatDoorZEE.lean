/- Joined: Rp5, Rp6. -/
import Derived.Test.YtbogmeeijdaijaaGreatDoorZDZ
import Derived.Test.YtbogmeeijdaijaaGreatDoorZED
set_option linter.unusedVariables false
set_option linter.unusedSimpArgs false
set_option linter.unnecessarySimpa false
set_option maxHeartbeats 8000000
namespace Go.Proofs.YtbogmeeijdaijaaGreatDoor
open Go.Proofs.Tryz Go.RowKit
set_option maxRecDepth 20000
def k9 (n j:Nat):List UInt8:=if j<9/\n / 10 ^ (9-j)=0 then [] else kA (n / 10 ^ (9-j))
theorem qlZ {n:Nat} (h:n<=999999999):k9 n 0=[]:=if_pos ⟨by omega,Nat.div_eq_of_lt L0⟩
theorem ql1 (n:Nat):k9 n 9=kA n:=by
 unfold k9;rw [if_neg L0]
 simp
theorem ql2 {n j D:Nat} (hj:j<9) (hD:D=10 ^ (8-j)):((D<=n∨D=1)->k9 n (j+1)=k9 n j++[UInt8.ofNat (48+n / D % 10)])/\(¬ (D<=n∨D=1)->k9 n (j+1)=k9 n j):=by
 have hp:0<D:=by rw [hD];exact Nat.pow_pos L2
 have h1:10 ^ (9-(j+1))=D:=by rw [hD];congr 1;omega
 have h2:n / 10 ^ (9-j)=n / D / 10:=by rw [Nat.div_div_eq_div_mul,hD,<- Nat.pow_succ];congr 2;omega
 unfold k9;rw [h1,h2]
 constructor
 ·intro hc;have h3 : ¬ (j+1<9/\n / D=0):=by
   rintro ⟨h4,h5⟩
   rcases hc with h | h
   ·have:=Nat.div_pos h hp;omega
   ·have:(1:Nat)<D:=by rw [hD];exact Nat.one_lt_pow L0 L2
    omega
  rw [if_neg h3]
  by_cases h10:n / D<10
  ·rw [if_pos ⟨hj,Nat.div_eq_of_lt h10⟩,kA,dif_pos h10,Nat.mod_eq_of_lt h10]
   rfl
  ·have h6 : ¬ (j<9/\n / D / 10=0):=by
    rintro ⟨_,h⟩;rw [Nat.div_eq_zero_iff] at h
    omega
   rw [if_neg h6]
   conv=>lhs;rw [kA]
   rw [dif_neg h10]
 ·intro hc;have h4:n / D=0:=Nat.div_eq_of_lt L0;have h5:j+1<9:=by
   rcases Nat.lt_or_ge (j+1) 9 with h | h
   ·exact h
   ·have h8:j=8:=by omega
    subst h8;exact absurd (Or.inr (by rw [hD])) hc
  rw [h4,if_pos ⟨h5,rfl⟩,if_pos ⟨hj,rfl⟩]
theorem decS_len {n:Nat} (h:n<=999999999) (j:Nat) (hj:j<=9):(k9 n j).length<=10:=by
 unfold k9
 split
 ·simp
 ·exact qge 9 _ (Nat.lt_of_le_of_lt (Nat.div_le_self _ _) L0)
def zW (j:Nat):Nat:=if j<9 then 10 ^ (8-j) else 0
theorem ql4 {j:Nat} (hj:j<9):zW j / 10=zW (j+1)/\0<zW j/\zW j<=100000000/\zW j=10 ^ (8-j)/\zW (j+1)<zW j:=by
 have : ∀ j:Fin 9,zW j.val / 10=zW (j.val+1)/\0<zW j.val/\zW j.val<=100000000/\zW j.val=10 ^ (8-j.val)/\zW (j.val+1)<zW j.val:=by decide +kernel
 exact this ⟨j,hj⟩
theorem dec_one {N D:Nat} (hN:N<=999999999) (hD:0<D) (hD8:D<=100000000) : ∃ Dn Q d:Nat,Dn=D / 10/\Q=N / D/\d=Q % 10/\(D:Int).tdiv 10=(Dn:Int)/\wrap64 (Dn:Int)=Dn/\Dn<D/\(N:Int).tdiv (D:Int)=(Q:Int)/\(Q:Int).tmod 10=(d:Int) /\
  wrap64 (Q:Int)=Q/\wrap64 (d:Int)=d/\wrap64 (48+(d:Int))=48+(d:Int)/\IntKind.u8.wrap (48+(d:Int))=48+(d:Int)/\d<10:=by
 have hQN:N / D<=N:=Nat.div_le_self _ _;have hd10:N / D % 10<10:=Nat.mod_lt _ L2;have hdn:D / 10<D:=Nat.div_lt_self hD L2;refine ⟨D / 10,N / D,N / D % 10,rfl,rfl,rfl,qib D,qcc _ L0,hdn,?_,qii _,qcc _ (Lj hQN hN),qcc _ (Lj (Lr hd10) L2),(qd1 _ hd10).1,?_,hd10⟩
 ·rw [Int.tdiv_eq_ediv_of_nonneg (Int.natCast_nonneg _)];exact (Int.natCast_ediv N D).symm
 ·generalize N / D % 10=d at *
  rw [IntKind.wrap_u8]
  omega
theorem powS_zero:((zW 0:Nat):Int)=100000000:=by rw [show zW 0=100000000 by decide +kernel];simp
structure WdA (base:Nat) (w:World) (l:List ByteArray) (A:Option Addr) (n c:Nat):Prop where
 len:l.length=n
 cap:n<=c
 max:c<=maxLen
 rd:Rd w base 1 A n (sv l)
 sz : ∀ s∈l,s.size<=1000
 few:l.length<=1000
 tb : ∀ w',Below base w w'->Tb w'
theorem WdA.below {base:Nat} {w w':World} {l:List ByteArray} {A:Option Addr} {n c:Nat} (h:WdA base w l A n c) (hb:Below base w w'):WdA base w' l A n c :=
 ⟨h.len,h.cap,h.max,h.rd.below hb,h.sz,h.few,fun w'' h'=>h.tb w'' (hb.trans h')⟩
theorem TX.bel {w wx:World} {base:Nat} {v0:Value} {st:Int} {j:Bool} {O:List Gl} (h:TX w base v0 st j O wx):Below base w wx:=by
 obtain ⟨_,_,_,_,_,_,h⟩:=h;exact h.1
def PRes (base:Nat) (v0:Value) (w:World) (ws:List ByteArray) (o:Option Prs) (e:Ending) (w':World):Prop:=match o with
 | some q=>∃ A c n,0<n/\n<=ws.length/\q.words=ws.drop n/\e = .returned (.tuple #[.agg (tC (.slice A q.out.length c) q.style q.joins),.int .i64 (n:Nat)])/\w'.ownsRow base 64 3 (.slice A q.out.length c) q.out.length (qi q.out)/\BG base v0 w w'/\Sep w.heap.size v0 (.slice A q.out.length c)
 | none=>∃ A m c st j,e = .returned (.tuple #[.agg (tC (.slice A m c) st j),.int .i64 0])/\BG base v0 w w'
theorem Sep.trans {N M:Nat} {v0 v1 v2:Value} (h1:Sep N v0 v1) (h2:Sep M v1 v2) (h:N<=M):Sep N v0 v2:=fun k hk=>by
 rcases h2 k hk with ⟨h,_⟩ | h
 ·exact h1 k h
 ·exact .inr L0
theorem TX.call {w wr w5:World} {base:Nat} {v0 v1:Value} {A:Option Addr} {n c:Nat} {t1 t2:TypeId} {x y:Array Value} (B1:Blk wr w.heap.size t1 x) (B2:Blk wr (w.heap.size+1) t2 y) (hs:Sep w.heap.size v0 (.slice A n c)) (tx:BG base v0 w wr)
  (hg:BG base (.slice A n c) wr w5) (hs':Sep wr.heap.size (.slice A n c) v1):Blk w5 w.heap.size t1 x/\Blk w5 (w.heap.size+1) t2 y/\BG base v0 w w5/\Sep w.heap.size v0 v1 :=
 ⟨B1.grown hg.2 (qh7 fun k hk=>(hs.ne k hk).1),B2.grown hg.2 (qh7 fun k hk=>(hs.ne k hk).2),tx.grown hg.1 hg.2 hs,hs.trans hs' tx.size⟩
theorem rnum_no (O:List Gl) (st:Int) (J:Bool) (l:List ByteArray) (ho:O.length<=1000000000) (A:Option Addr) (c base:Nat) (w:World) (hb:base<=w.heap.size) (h:w.ownsRow base 64 3 (.slice A O.length c) O.length (qi O)) (Aw:Option Addr) (nw cw:Nat) (hW:WdA base w l Aw nw cw) (hp:prefixL l=none):Calls prog 147 #[.agg (tC (.slice A O.length c) st J),.slice Aw nw cw] w (PRes base (.slice A O.length c) w l (kD ⟨l,O,st,J⟩)):=by
 have e0:Hid (kD ⟨l,O,st,J⟩=none):=Lh (by unfold kD;simp only [hp]);generalize kD ⟨l,O,st,J⟩=RES at *
 have hpn:=TX.new (st:=st) (j:=J) h hb;clear h;obtain ⟨v0,hv0⟩ : ∃ x,x=Value.slice A O.length c:=⟨_,rfl⟩
 have HV:=Lh hv0;rw [<- hv0] at hpn ⊢;clear hv0;have HPr:Hid (∀ w',Below base w w'->Calls prog 79 #[.slice Aw nw cw] w' (qh (ve (prefixL l)) w')):=Lh fun w' hw =>
  j8 l Aw nw cw w' hW.len hW.cap hW.max ((hW.rd.below hw).more (Lj hb hw.size)) (hW.tb w' hw)
 rw [hp] at HPr;simp only [ve] at HPr;clear hW hp
 go_enter func147,ntmps147
 go_upto_region 1 with fail
 refine qa (TX w base v0 st J O) hpn ?_;clear hpn;intro X hX
 go_upto_region 2 with (go_at_call 79;refine (HPr.out _ hX.bel).mono ?_;rintro e w1 ⟨rfl,hb1⟩;have hT:=hX.below hb1 hb)
 obtain ⟨A6,c6,B1,B2,ox,hs6,tx⟩:=hT;have c0:=B1.cell 0;have c1:=B1.cell 1;have c2:=B1.cell 2;have d0:=B2.cell 0;have d1:=B2.cell 1;have d2:=B2.cell 2;have f0:=B1.frozen 0;have f2:=B1.frozen 2;have g0:=B2.frozen 0;have g1:=B2.frozen 1;have g2:=B2.frozen 2;simp only [tC,La,Lb,Lc] at c0 c1 c2 d0 d1 d2;have R:=TX.copy (v:=.slice A6 O.length c6) (st':=st) (j':=J) B2 ox hs6 tx hb;go_wp2;exact bodyPost_ret (vG rfl _ _ (w.heap.size+1) 165 _ (0,0) _ rfl R.1 underlying165 rfl qy) rfl (by rw [e0.out];exact ⟨_,_,_,_,_,rfl,R.2.2⟩)
theorem rnum_neg (O:List Gl) (st:Int) (J:Bool) (l:List ByteArray) (ho:O.length<=1000000000) (A:Option Addr) (c base:Nat) (w:World) (hb:base<=w.heap.size) (h:w.ownsRow base 64 3 (.slice A O.length c) O.length (qi O)) (Aw:Option Addr) (nw cw:Nat) (hW:WdA base w l Aw nw cw) (nn:Int) (k:Nat) (hp:prefixL l=some (nn,k)) (hneg:nn<0):Calls prog 147 #[.agg (tC (.slice A O.length c) st J),.slice Aw nw cw] w (PRes base (.slice A O.length c) w l (kD ⟨l,O,st,J⟩)):=by
 have e0:Hid (kD ⟨l,O,st,J⟩=none):=Lh (by unfold kD;simp only [hp,if_pos hneg]);generalize kD ⟨l,O,st,J⟩=RES at *
 have hpn:=TX.new (st:=st) (j:=J) h hb;clear h;obtain ⟨v0,hv0⟩ : ∃ x,x=Value.slice A O.length c:=⟨_,rfl⟩
 have HV:=Lh hv0;rw [<- hv0] at hpn ⊢;clear hv0;have HPr:Hid (∀ w',Below base w w'->Calls prog 79 #[.slice Aw nw cw] w' (qh (ve (prefixL l)) w')):=Lh fun w' hw =>
  j8 l Aw nw cw w' hW.len hW.cap hW.max ((hW.rd.below hw).more (Lj hb hw.size)) (hW.tb w' hw)
 rw [hp] at HPr;simp only [ve] at HPr;clear hW hp
 go_enter func147,ntmps147
 go_upto_region 1 with fail
 refine qa (TX w base v0 st J O) hpn ?_;clear hpn;intro X hX
 go_upto_region 2 with (go_at_call 79;refine (HPr.out _ hX.bel).mono ?_;rintro e w1 ⟨rfl,hb1⟩;have hT:=hX.below hb1 hb)
 obtain ⟨A6,c6,B1,B2,ox,hs6,tx⟩:=hT;have c0:=B1.cell 0;have c1:=B1.cell 1;have c2:=B1.cell 2;have d0:=B2.cell 0;have d1:=B2.cell 1;have d2:=B2.cell 2;have f0:=B1.frozen 0;have f2:=B1.frozen 2;have g0:=B2.frozen 0;have g1:=B2.frozen 1;have g2:=B2.frozen 2;simp only [tC,La,Lb,Lc] at c0 c1 c2 d0 d1 d2;have R:=TX.copy (v:=.slice A6 O.length c6) (st':=st) (j':=J) B2 ox hs6 tx hb;go_wp2;exact bodyPost_ret (vG rfl _ _ (w.heap.size+1) 165 _ (0,0) _ rfl R.1 underlying165 rfl qy) rfl (by rw [e0.out];exact ⟨_,_,_,_,_,rfl,R.2.2⟩)
theorem rnum_dec (O:List Gl) (st:Int) (J:Bool) (l:List ByteArray) (ho:O.length<=1000000000) (A:Option Addr) (c base:Nat) (w:World) (hb:base<=w.heap.size) (h:w.ownsRow base 64 3 (.slice A O.length c) O.length (qi O)) (Aw:Option Addr) (nw cw:Nat) (hW:WdA base w l Aw nw cw) (nn:Int) (k:Nat) (hp:prefixL l=some (nn,k)) (hneg : ¬ nn<0) (hT : ¬ l[k]? = some bTimes):Calls prog 147 #[.agg (tC (.slice A O.length c) st J),.slice Aw nw cw] w (PRes base (.slice A O.length c) w l (kD ⟨l,O,st,J⟩)):=by
 obtain ⟨N,rfl⟩ : ∃ N:Nat,nn=(N:Int):=⟨nn.toNat,by omega⟩
 obtain ⟨hk0,hkl,hk15,hnum,_⟩:=zF hp;obtain ⟨_,hN9,_⟩:=vp hnum;have hN:N<=999999999:=by omega
 have e0:Hid (kD ⟨l,O,st,J⟩=some (kN ⟨l,O,st,J⟩ ⟨(kA N).toArray⟩ k)):=Lh (by unfold kD;simp only [hp];rw [if_neg hneg,if_neg hT,Int.toNat_natCast]);have HS:=Lh (fun j D hj hD=>@ql2 N j D hj hD);have HL:=Lh (decS_len hN);have HP:=Lh (fun j hj=>@ql4 j hj);have H0:Hid ((⟨#[]⟩:ByteArray)=⟨(k9 N 0).toArray⟩):=Lh (by rw [qlZ hN]);have H9:Hid (kA N=k9 N 9):=Lh (ql1 N).symm;generalize kD ⟨l,O,st,J⟩=RES at *
 generalize hdT:kA N=DT at *
 have hpn:=TX.new (st:=st) (j:=J) h hb;clear h;obtain ⟨v0,hv0⟩ : ∃ x,x=Value.slice A O.length c:=⟨_,rfl⟩
 have HV:=Lh hv0;rw [<- hv0] at hpn ⊢;clear hv0;have HPr:Hid (∀ w',Below base w w'->Calls prog 79 #[.slice Aw nw cw] w' (qh (ve (prefixL l)) w')):=Lh fun w' hw =>
  j8 l Aw nw cw w' hW.len hW.cap hW.max ((hW.rd.below hw).more (Lj hb hw.size)) (hW.tb w' hw)
 rw [hp] at HPr;simp only [ve] at HPr;have hln:=hW.len;have HCk:Hid (∀ hk:k<nw,∀ w',Below base w w'->∃ b o,Aw=some ⟨b,o,none⟩/\w'.cell? ⟨b,o+k,none⟩=some (.string (l[k]'(by rw [hln];exact hk)))):=Lh fun hk w' hw=>by
  obtain ⟨b,o,rfl,_,hc⟩:=(hW.rd.below hw).at_ hk;rw [yM _ _ (by rw [hln];exact hk)] at hc;exact ⟨b,o,rfl,hc⟩
 have hkn:k<=nw:=by omega
 have hxt:Hid (∀ hk:k<nw,(l[k]'(by rw [hln];exact hk))≠bTimes):=Lh fun hk e=>hT (by rw [List.getElem?_eq_getElem (by rw [hln];exact hk),e])
 have hi0 : ¬ (N:Int)<0:=by omega
 clear hW hp hT hnum hneg hdT
 go_enter func147,ntmps147
 go_upto_region 1 with fail
 refine qa (TX w base v0 st J O) hpn ?_;clear hpn;intro X hX
 go_upto_region 4 with (go_at_call 79;refine (HPr.out _ hX.bel).mono ?_;rintro e w1 ⟨rfl,hb1⟩;have hT:=hX.below hb1 hb)
 go_cut [38] (fun v wx=>v = .bool true/\wx=w1)
 case first =>
  clear e0 HS HL HP H0 H9 hX
  by_cases hkk:k=nw
  ·have hb1:((k:Int)==nw)=true:=beq_iff_eq.2 L0;go_wp2;go_meet;exact ⟨rfl,rfl⟩
  ·have hb1:((k:Int)==nw)=false:=Lm.2 L0;obtain ⟨b,o,rfl,hc⟩:=HCk.out L0 w1 hT.bel;have q:=qct (a:=l[k]'(by omega)) (b:=bTimes) (l:=[116,105,109,101,115]) rfl;rw [Lk (hxt.out L0)] at q;generalize (l[k]'(by omega))=x at *
   have hki:(k:Int)<nw:=by omega
   clear hT;go_wp2;go_meet;exact ⟨rfl,rfl⟩
 case rest =>
  obtain ⟨rfl,hwc⟩:=hcut;rw [hwc];clear hwc HCk hxt hX hb1;go_wp2
  go_loopw [9,10] (fun x y wr=>∃ j:Nat,j<=9/\y = .int .i64 (zW j:Nat)/\x = .string ⟨(k9 N j).toArray⟩/\TX w base v0 st J O wr) (fun _ y _=>(intOf y).toNat)
  case atStart=>exact ⟨0,Nat.zero_le _,congrArg (fun z=>Value.int .i64 z) powS_zero.symm,by rw [<- H0.out],hT⟩
  case round =>
   clear hT;obtain ⟨j,hj,rfl,rfl,hT⟩:=hrel
   by_cases hlt:j<9
   ·obtain ⟨hp1,hp2,hp3,hp4,hp5⟩:=HP.out j hlt;obtain ⟨HSy,HSn⟩:=HS.out j (zW j) hlt hp4;have hl1:=HL.out j hj;clear HS HL HP H0 H9 hp4;have HNx:Hid (zW (j+1)=zW j / 10):=Lh hp1.symm;have HSy':=Lh HSy;have HSn':=Lh HSn;clear HSy HSn hp1;generalize hD:zW j=D at *
    generalize k9 N j=DS at *
    obtain ⟨Dn,Q,d,hDn,hQ,hd,hq10,hwq,hM5,hdv,hrm,hwQ,hwd,hw2,hw8,hd10⟩:=dec_one hN hp2 hp3;rw [<- hDn] at HNx;rw [<- hQ,<- hd] at HSy';have hcv:=qgw wr (48+(d:Int)) (UInt8.ofNat (48+d)) (by rw [UInt8.toNat_ofNat',Nat.mod_eq_of_lt (show 48+d<2 ^ 8 from Ly (Nat.add_lt_add_left hd10 48) L2)];rfl);have hTn:=hT.below (Below.alloc (Le wr.heap.size wr) (Ld _) (.cells #[.int .u8 (48+(d:Int))] 5)) hb;have hD0 : ¬ (D:Int)=0:=fun h=>Nat.lt_irrefl 0 (Int.ofNat.inj h ▸ hp2)
    have hDp:(0:Int)<(D:Int):=Int.ofNat_lt.2 hp2;have hgy:D<=N->(D:Int)<=N:=fun h=>Int.ofNat_le.2 h
    have hgn : ¬ D<=N->¬ (D:Int)<=N:=fun h h'=>h (Int.ofNat_le.1 h')
    have hoy:D=1->((D:Int)==1)=true:=fun h=>by rw [h];rfl
    have hon : ¬ D=1->((D:Int)==1)=false:=fun h=>Lm.2 fun h'=>h (Int.ofNat.inj h')
    have HM5:=Lh hM5;have happ:Hid ((⟨DS.toArray⟩:ByteArray)++⟨#[UInt8.ofNat (48+d)]⟩=⟨(DS++[UInt8.ofNat (48+d)]).toArray⟩):=Lh (app_byte _ _);have hme:Hid ((intOf (Value.int .i64 (Dn:Int))).toNat<(intOf (Value.int .i64 (D:Int))).toNat):=Lh (by simpa [intOf] using hM5);have HLt:=Lh hlt;clear hQ hd hDn hp5 hp2 hp3 hM5 hd10 hlt;generalize UInt8.ofNat (48+d)=ub at *
    generalize (N:Int)=NI at *
    obtain ⟨DI,hDI⟩ : ∃ x,x=(D:Int):=⟨_,rfl⟩
    obtain ⟨DnI,hDnI⟩ : ∃ x,x=(Dn:Int):=⟨_,rfl⟩
    obtain ⟨dI,hdI⟩ : ∃ x,x=(d:Int):=⟨_,rfl⟩
    rw [<- hDI] at hq10 hdv hD0 hDp hgy hgn hoy hon hme;rw [<- hDnI] at hq10 hwq hme;rw [<- hdI] at hrm hwd hw2 hw8 hcv hTn;generalize (Q:Int)=QI at *
    rw [<- hDI];have HDnI:=Lh hDnI;have HDI:=Lh hDI;clear hDI hdI hDnI
    by_cases hc:D<=N∨D=1
    ·have HD2:=Lh (HSy'.out hc);clear HSy' HSn' hT
     by_cases hge:D<=N
     ·have hgi:=hgy hge;clear hc hgy hgn hoy hon hge;go_wp2;exact ⟨⟨j+1,HLt.out,by rw [HNx.out,hwq,HDnI.out],by rw [HD2.out,happ.out],hTn⟩,by rw [hwq];exact hme.out⟩
     ·have hgi:=hgn hge;have h1':=hoy (hc.resolve_left hge);clear hc hgy hgn hoy hon hge;go_wp2;exact ⟨⟨j+1,HLt.out,by rw [HNx.out,hwq,HDnI.out],by rw [HD2.out,happ.out],hTn⟩,by rw [hwq];exact hme.out⟩
    ·have HD2:=Lh (HSn'.out hc);have hgi:=hgn (fun h=>hc (.inl h));have h1':=hon (fun h=>hc (.inr h));clear HSy' HSn' hc hgy hgn hoy hon hcv hTn;go_wp2;exact ⟨⟨j+1,HLt.out,by rw [HNx.out,hwq,HDnI.out],by rw [HD2.out],hT⟩,by rw [hwq];exact hme.out⟩
   ·obtain rfl:j=9:=by omega
    have hpz:zW 9=0:=rfl;rw [<- H9.out,hpz];have hl1:=HL.out 9 (Ld _);rw [<- H9.out] at hl1;clear HS HL HP H0 H9;obtain ⟨A6,c6,B1,B2,ox,hs6,tx⟩:=hT;have HTx:=Lh (qlf O st J ⟨DT.toArray⟩ (by show DT.toArray.size<=_;rw [List.size_toArray];omega) ho A6 c6 base wr (Lj hb tx.size) ox);have HE:Hid (kN ⟨l,O,st,J⟩ ⟨DT.toArray⟩ k=⟨l.drop k,O++vm J st ⟨DT.toArray⟩,st,true⟩):=Lh rfl;rw [HE.out] at e0;generalize O++vm J st ⟨DT.toArray⟩=Q at *
    generalize (⟨DT.toArray⟩:ByteArray)=DD at *
    have c0:=B1.cell 0;have c1:=B1.cell 1;have c2:=B1.cell 2;have d0:=B2.cell 0;have d1:=B2.cell 1;have d2:=B2.cell 2;have f0:=B1.frozen 0;have f2:=B1.frozen 2;have g0:=B2.frozen 0;have g1:=B2.frozen 1;have g2:=B2.frozen 2;simp only [tC,La,Lb,Lc] at c0 c1 c2 d0 d1 d2;clear HE
    go_wp2_with (go_at_call 143;refine HTx.out.mono ?_;rintro e w5 ⟨A7,c7,rfl,o7,bg7,hs7⟩;clear c0 c1 c2 d0 d1 d2 f0 f2 g0 g1 g2;obtain ⟨D1,D2,tx7,hs8⟩:=TX.call B1 B2 hs6 tx bg7 hs7;have d0:=D2.cell 0;have d1:=D2.cell 1;have d2:=D2.cell 2;have g0:=D2.frozen 0;have g1:=D2.frozen 1;have g2:=D2.frozen 2;simp only [tC,La,Lb,Lc] at d0 d1 d2;simp only [id,tC])
    have R:=TX.copy (v:=.slice A7 Q.length c7) (st':=st) (j':=true) D2 o7 hs8 tx7 hb;exact bodyPost_ret (vG rfl _ _ (w.heap.size+1) 165 _ (0,0) _ rfl R.1 underlying165 rfl qy) rfl (by rw [e0.out];exact ⟨A7,c7,k,hk0,hkl,rfl,rfl,R.2.1,R.2.2,hs8⟩)
theorem qlG (O:List Gl) (st:Int) (J:Bool) (l:List ByteArray) (ho:O.length<=1000000000) (A:Option Addr) (c base:Nat) (w:World) (hb:base<=w.heap.size) (h:w.ownsRow base 64 3 (.slice A O.length c) O.length (qi O)) (Aw:Option Addr) (nw cw:Nat) (hW:WdA base w l Aw nw cw) (hot : ∀ x∈O,x.text.size<=8000000) (nn:Int) (k:Nat) (hp:prefixL l=some (nn,k)) (hneg : ¬ nn<0) (hTm:l[k]? = some bTimes):Calls prog 147 #[.agg (tC (.slice A O.length c) st J),.slice Aw nw cw] w (PRes base (.slice A O.length c) w l (kD ⟨l,O,st,J⟩)):=by
 obtain ⟨N,rfl⟩ : ∃ N:Nat,nn=(N:Int):=⟨nn.toNat,by omega⟩
 obtain ⟨hk0,hkl,hk15,hnum,_⟩:=zF hp;obtain ⟨_,hN9,_⟩:=vp hnum;have hN:N<=999999999:=by omega
 have eT:kD ⟨l,O,st,J⟩=match charW (l.drop (k+1)) with
   | none=>none
   | some (r,m)=>if 2<=(N:Int)/\(N:Int)<=132/\(vV O st r N).1=true then some ⟨l.drop (k+1+m),(vV O st r N).2,st,false⟩ else none:=by
  unfold kD;simp only;rw [hp];simp only;rw [if_neg hneg,if_pos hTm,Int.toNat_natCast];cases charW (l.drop (k+1)) <;> rfl
 generalize kD ⟨l,O,st,J⟩=RES at *
 have hpn:=TX.new (st:=st) (j:=J) h hb;clear h;obtain ⟨v0,hv0⟩ : ∃ x,x=Value.slice A O.length c:=⟨_,rfl⟩
 have HV:=Lh hv0;rw [<- hv0] at hpn ⊢;clear hv0;have HPr:Hid (∀ w',Below base w w'->Calls prog 79 #[.slice Aw nw cw] w' (qh (ve (prefixL l)) w')):=Lh fun w' hw =>
  j8 l Aw nw cw w' hW.len hW.cap hW.max ((hW.rd.below hw).more (Lj hb hw.size)) (hW.tb w' hw)
 rw [hp] at HPr;simp only [ve] at HPr;have hln:=hW.len;have hkn:k<nw:=by
  rcases Nat.lt_or_ge k l.length with h | h
  ·omega
  ·rw [List.getElem?_eq_none h] at hTm;cases hTm
 have hwk:l[k]'(by omega)=bTimes:=by
  rw [List.getElem?_eq_getElem L0] at hTm
  injection hTm
 obtain ⟨b,o,hA,hbg,-⟩:=hW.rd.2 (show 0<nw by omega);subst hA;have HCk:Hid (∀ w',Below base w w'->w'.cell? ⟨b,o+k,none⟩=some (.string bTimes)):=Lh fun w' hw=>by
  obtain ⟨b',o',e',_,hc⟩:=(hW.rd.below hw).at_ hkn;simp only [Option.some.injEq,Addr.mk.injEq,and_true] at e';obtain ⟨rfl,rfl⟩:=e';rw [yM _ _ L0,hwk] at hc;exact hc
 have HCh:Hid (∀ A' N c',N=nw-(k+1)->N<=c'->c'<=maxLen->Rd w base 1 A' N (sv (l.drop (k+1)))->∀ w',Below base w w'->Calls prog 145 #[.slice A' N c'] w' (qh (qmb (charW (l.drop (k+1)))) w')):=Lh fun A' N c' hN hc hm rd w' hw =>
  qlP (l.drop (k+1)) A' N c' w' (by rw [List.length_drop];omega) hc hm ((rd.below hw).more (Lj hb hw.size)) (hW.tb w' hw)
 have hRd:=hW.rd.cut (k:=k+1) L0 hW.cap;rw [show (sv l).drop ((k+1) * 1)=sv (l.drop (k+1)) by simp [sv]] at hRd;simp only [Nat.mul_one,Option.map_some,vl] at hRd;have qk:(bTimes.toList==[116,105,109,101,115])=true:=by decide +kernel
 have heq:((k:Int)==(nw:Int))=false:=Lm.2 L0;have hki:(k:Int)<nw:=by omega
 have hk0i:(0:Int)<=k:=by omega
 have hcap:=hW.cap;have hmax:=hW.max;have i2:(k:Int)+1<=nw:=by omega
 have i3:(k:Int)+1<=cw:=by omega
 have i1:(0:Int)<=(k:Int)+1:=by omega
 have i4:(k:Int)+1<=16:=by omega
 have hi0 : ¬ (N:Int)<0:=by omega
 have hfew:=hW.few;have hc63:cw<=9223372036854775807:=by unfold maxLen at hmax;omega
 clear hnum hneg hTm hwk hW hp
 by_cases hck1:cw=k+1
 ·rw [if_pos hck1] at hRd;have HCx:=Lh (HCh.out (some ⟨b,o,none⟩) (nw-(k+1)) 0 rfl L0 L0 hRd);have hnk:nw-(k+1)=0:=by omega
  rw [hnk] at HCx;have l0:l.drop (k+1)=[]:=List.length_eq_zero_iff.1 (by rw [List.length_drop];omega);rw [l0,show charW []=none from rfl] at HCx eT;simp only [qmb] at HCx;have e0:=Lh eT;obtain rfl:nw=k+1:=by omega
  subst hck1;clear HCh hRd l0 eT
  go_enter func147,ntmps147
  go_upto_region 1 with fail
  refine qa (TX w base v0 st J O) hpn ?_;clear hpn;intro X hX
  go_upto_region 4 with (go_at_call 79;refine (HPr.out _ hX.bel).mono ?_;rintro e w1 ⟨rfl,hb1⟩;have hT:=hX.below hb1 hb)
  have hck:=HCk.out _ hT.bel
  go_upto_region 13 with (go_at_call 145;refine (HCx.out _ hT.bel).mono ?_;rintro e w2 ⟨rfl,hb2⟩)
  replace hT:=hT.below hb2 hb;clear hX hb1 hb2 hck;obtain ⟨A6,c6,B1,B2,ox,hs6,tx⟩:=hT;have c0:=B1.cell 0;have c1:=B1.cell 1;have c2:=B1.cell 2;have d0:=B2.cell 0;have d1:=B2.cell 1;have d2:=B2.cell 2;have f0:=B1.frozen 0;have f2:=B1.frozen 2;have g0:=B2.frozen 0;have g1:=B2.frozen 1;have g2:=B2.frozen 2;simp only [tC,La,Lb,Lc] at c0 c1 c2 d0 d1 d2;have R:=TX.copy (v:=.slice A6 O.length c6) (st':=st) (j':=J) B2 ox hs6 tx hb;go_wp2;exact bodyPost_ret (vG rfl _ _ (w.heap.size+1) 165 _ (0,0) _ rfl R.1 underlying165 rfl qy) rfl (by rw [e0.out];exact ⟨_,_,_,_,_,rfl,R.2.2⟩)
 ·rw [if_neg hck1] at hRd;have HCx:=Lh (HCh.out (some ⟨b,o+(k+1),none⟩) (nw-(k+1)) (cw-(k+1)) rfl L0 L0 hRd)
  cases hcw:charW (l.drop (k+1)) with
  | none =>
   rw [hcw] at HCx eT;simp only [qmb] at HCx;have e0:=Lh eT;clear HCh hRd eT hcw
   go_enter func147,ntmps147
   go_upto_region 1 with fail
   refine qa (TX w base v0 st J O) hpn ?_;clear hpn;intro X hX
   go_upto_region 4 with (go_at_call 79;refine (HPr.out _ hX.bel).mono ?_;rintro e w1 ⟨rfl,hb1⟩;have hT:=hX.below hb1 hb)
   have hck:=HCk.out _ hT.bel
   go_upto_region 13 with (go_at_call 145;refine (HCx.out _ hT.bel).mono ?_;rintro e w2 ⟨rfl,hb2⟩)
   replace hT:=hT.below hb2 hb;clear hX hb1 hb2 hck;obtain ⟨A6,c6,B1,B2,ox,hs6,tx⟩:=hT;have c0:=B1.cell 0;have c1:=B1.cell 1;have c2:=B1.cell 2;have d0:=B2.cell 0;have d1:=B2.cell 1;have d2:=B2.cell 2;have f0:=B1.frozen 0;have f2:=B1.frozen 2;have g0:=B2.frozen 0;have g1:=B2.frozen 1;have g2:=B2.frozen 2;simp only [tC,La,Lb,Lc] at c0 c1 c2 d0 d1 d2;have R:=TX.copy (v:=.slice A6 O.length c6) (st':=st) (j':=J) B2 ox hs6 tx hb;go_wp2;exact bodyPost_ret (vG rfl _ _ (w.heap.size+1) 165 _ (0,0) _ rfl R.1 underlying165 rfl qy) rfl (by rw [e0.out];exact ⟨_,_,_,_,_,rfl,R.2.2⟩)
  | some x =>
   obtain ⟨r,m⟩:=x;obtain ⟨rr,rfl,hrr⟩:=qfT hcw;obtain ⟨hm0,hml⟩:=qeG hcw;rw [hcw] at HCx eT;simp only [qmb] at HCx;simp only at eT;have hml2:m<=nw-(k+1):=by rw [List.length_drop] at hml;omega
   have hmi:(0:Int)<m:=by omega
   have hmz:((m:Int)==0)=false:=Lm.2 L0;clear HCh hRd hcw hml
   by_cases hN2:2<=(N:Int)/\(N:Int)<=132
   ·have HAd:=Lh (fun A6 c6 w2 hb2 ox=>radd O st J rr hrr N L0 ho hot A6 c6 base w2 hb2 ox);have hj1 : ¬ (N:Int)<2:=by omega
    have hj2 : ¬ (132:Int)<N:=by omega
    have eT2:RES=if (vV O st (rr:Int) N).1=true then some ⟨l.drop (k+1+m),(vV O st (rr:Int) N).2,st,false⟩ else none:=by
     rw [eT]
     by_cases ho:(vV O st (rr:Int) N).1=true
     ·rw [if_pos ho,if_pos ⟨hN2.1,hN2.2,ho⟩]
     ·rw [if_neg ho,if_neg (fun h=>ho h.2.2)]
    have e0:=Lh eT2;clear eT eT2 hN2 hot;generalize vV O st (rr:Int) N=AD at *
    obtain ⟨ok,Q⟩:=AD;dsimp only at *
    generalize (rr:Int)=R at *
    go_enter func147,ntmps147
    go_upto_region 1 with fail
    refine qa (TX w base v0 st J O) hpn ?_;clear hpn;intro X hX
    go_upto_region 4 with (go_at_call 79;refine (HPr.out _ hX.bel).mono ?_;rintro e w1 ⟨rfl,hb1⟩;have hT:=hX.below hb1 hb)
    have hck:=HCk.out _ hT.bel
    go_upto_region 13 with (go_at_call 145;refine (HCx.out _ hT.bel).mono ?_;rintro e w2 ⟨rfl,hb2⟩)
    replace hT:=hT.below hb2 hb;clear hX hb1 hb2 hck;obtain ⟨A6,c6,B1,B2,ox,hs6,tx⟩:=hT;have HAx:=Lh (HAd.out A6 c6 w2 (Lj hb tx.size) ox);have c0:=B1.cell 0;have c1:=B1.cell 1;have c2:=B1.cell 2;have d0:=B2.cell 0;have d1:=B2.cell 1;have d2:=B2.cell 2;have f0:=B1.frozen 0;have f2:=B1.frozen 2;have g0:=B2.frozen 0;have g1:=B2.frozen 1;have g2:=B2.frozen 2;simp only [tC,La,Lb,Lc] at c0 c1 c2 d0 d1 d2;clear HAd HCx
    go_upto_region 17 with (go_at_call 146;refine HAx.out.mono ?_;rintro e w5 ⟨A7,c7,rfl,o7,bg7,hs7⟩;clear c0 c1 c2 d0 d1 d2 f0 f2 g0 g1 g2;obtain ⟨D1,D2,tx7,hs8⟩:=TX.call B1 B2 hs6 tx bg7 hs7;simp only [tC])
    have N1:Blk (w5.alloc (.cells (tC (.slice A7 Q.length c7) st false) 165)) w5.heap.size 165 (tC (.slice A7 Q.length c7) st false):=Blk.new _ _ _;have c0:=N1.cell 0;have c1:=N1.cell 1;have c2:=N1.cell 2;have E1:=D1.alloc (.cells (tC (.slice A7 Q.length c7) st false) 165);have E2:=D2.alloc (.cells (tC (.slice A7 Q.length c7) st false) 165);have d0:=E2.cell 0;have d1:=E2.cell 1;have d2:=E2.cell 2;have g0:=E2.frozen 0;have g1:=E2.frozen 1;have g2:=E2.frozen 2;have b0:=E1.cell 0;have b1:=E1.cell 1;have b2:=E1.cell 2;have o8:=o7.alloc (.cells (tC (.slice A7 Q.length c7) st false) 165);have tx8:=tx7.alloc hb (.cells (tC (.slice A7 Q.length c7) st false) 165);simp only [tC,La,Lb,Lc] at c0 c1 c2 d0 d1 d2 b0 b1 b2;clear HAx B1 B2 ox tx bg7 hs7 o7 tx7 D1 D2 N1 E1 HPr HCk
    cases ok with
    | false =>
     rw [if_neg L1] at e0;have R:=TX.copy (v:=.slice A6 O.length c6) (st':=st) (j':=J) E2 o8 hs8 tx8 hb;go_wp2;exact bodyPost_ret (vG rfl _ _ (w.heap.size+1) 165 _ (0,0) _ rfl R.1 underlying165 rfl qy) rfl (by rw [e0.out];exact ⟨_,_,_,_,_,rfl,R.2.2⟩)
    | true =>
     rw [if_pos rfl] at e0;have HV2:Hid (wrap64 (wrap64 ((k:Int)+1)+(m:Int))=((k+1+m:Nat):Int)):=Lh (by rw [wrap_k1 k hk15,wrap_km k m hk15 L0];omega);have hkm:k+1+m<=l.length:=by omega
     clear hml2 hm0 hmi hmz hki hk0i hcap hmax i2 i3 i1 i4 hi0 hc63 hfew hj1 hj2 heq qk hN hN9 hk15 hck1;have R:=TX.copy (v:=.slice A7 Q.length c7) (st':=st) (j':=false) E2 o8 hs8 tx8 hb;go_wp2;exact bodyPost_ret (vG rfl _ _ (w.heap.size+1) 165 _ (0,0) _ rfl R.1 underlying165 rfl qy) rfl (by rw [e0.out];exact ⟨A7,c7,k+1+m,by omega,hkm,rfl,(by show Ending.returned (Value.tuple #[.agg (tC (.slice A7 Q.length c7) st false),.int .i64 (wrap64 (wrap64 ((k:Int)+1)+(m:Int)))])=_;rw [HV2.out]),R.2.1,R.2.2,hs8⟩)
   ·have e0:=Lh (eT.trans (if_neg fun h=>hN2 ⟨h.1,h.2.1⟩));have hN3:(N:Int)<2∨(¬ (N:Int)<2/\(132:Int)<N):=by omega
    clear hN2 eT
    rcases hN3 with hj | ⟨hj1,hj2⟩
    ·go_enter func147,ntmps147
     go_upto_region 1 with fail
     refine qa (TX w base v0 st J O) hpn ?_;clear hpn;intro X hX
     go_upto_region 4 with (go_at_call 79;refine (HPr.out _ hX.bel).mono ?_;rintro e w1 ⟨rfl,hb1⟩;have hT:=hX.below hb1 hb)
     have hck:=HCk.out _ hT.bel
     go_upto_region 13 with (go_at_call 145;refine (HCx.out _ hT.bel).mono ?_;rintro e w2 ⟨rfl,hb2⟩)
     replace hT:=hT.below hb2 hb;clear hX hb1 hb2 hck;obtain ⟨A6,c6,B1,B2,ox,hs6,tx⟩:=hT;have c0:=B1.cell 0;have c1:=B1.cell 1;have c2:=B1.cell 2;have d0:=B2.cell 0;have d1:=B2.cell 1;have d2:=B2.cell 2;have f0:=B1.frozen 0;have f2:=B1.frozen 2;have g0:=B2.frozen 0;have g1:=B2.frozen 1;have g2:=B2.frozen 2;simp only [tC,La,Lb,Lc] at c0 c1 c2 d0 d1 d2;have R:=TX.copy (v:=.slice A6 O.length c6) (st':=st) (j':=J) B2 ox hs6 tx hb;go_wp2;exact bodyPost_ret (vG rfl _ _ (w.heap.size+1) 165 _ (0,0) _ rfl R.1 underlying165 rfl qy) rfl (by rw [e0.out];exact ⟨_,_,_,_,_,rfl,R.2.2⟩)
    ·go_enter func147,ntmps147
     go_upto_region 1 with fail
     refine qa (TX w base v0 st J O) hpn ?_;clear hpn;intro X hX
     go_upto_region 4 with (go_at_call 79;refine (HPr.out _ hX.bel).mono ?_;rintro e w1 ⟨rfl,hb1⟩;have hT:=hX.below hb1 hb)
     have hck:=HCk.out _ hT.bel
     go_upto_region 13 with (go_at_call 145;refine (HCx.out _ hT.bel).mono ?_;rintro e w2 ⟨rfl,hb2⟩)
     replace hT:=hT.below hb2 hb;clear hX hb1 hb2 hck;obtain ⟨A6,c6,B1,B2,ox,hs6,tx⟩:=hT;have c0:=B1.cell 0;have c1:=B1.cell 1;have c2:=B1.cell 2;have d0:=B2.cell 0;have d1:=B2.cell 1;have d2:=B2.cell 2;have f0:=B1.frozen 0;have f2:=B1.frozen 2;have g0:=B2.frozen 0;have g1:=B2.frozen 1;have g2:=B2.frozen 2;simp only [tC,La,Lb,Lc] at c0 c1 c2 d0 d1 d2;have R:=TX.copy (v:=.slice A6 O.length c6) (st':=st) (j':=J) B2 ox hs6 tx hb;go_wp2;exact bodyPost_ret (vG rfl _ _ (w.heap.size+1) 165 _ (0,0) _ rfl R.1 underlying165 rfl qy) rfl (by rw [e0.out];exact ⟨_,_,_,_,_,rfl,R.2.2⟩)
theorem rnum (O:List Gl) (st:Int) (J:Bool) (l:List ByteArray) (ho:O.length<=1000000000) (A:Option Addr) (c base:Nat) (w:World) (hb:base<=w.heap.size) (h:w.ownsRow base 64 3 (.slice A O.length c) O.length (qi O)) (Aw:Option Addr) (nw cw:Nat) (hW:WdA base w l Aw nw cw) (hot : ∀ x∈O,x.text.size<=8000000):Calls prog 147 #[.agg (tC (.slice A O.length c) st J),.slice Aw nw cw] w (PRes base (.slice A O.length c) w l (kD ⟨l,O,st,J⟩)):=by
 cases hp:prefixL l with
 | none=>exact rnum_no O st J l ho A c base w hb h Aw nw cw hW hp
 | some x =>
  obtain ⟨nn,k⟩:=x
  by_cases hneg:nn<0
  ·exact rnum_neg O st J l ho A c base w hb h Aw nw cw hW nn k hp hneg
  ·by_cases hT:l[k]? = some bTimes
   ·exact qlG O st J l ho A c base w hb h Aw nw cw hW hot nn k hp hneg hT
   ·exact rnum_dec O st J l ho A c base w hb h Aw nw cw hW nn k hp hneg hT
end Go.Proofs.YtbogmeeijdaijaaGreatDoor
