/- Joined: Pa6, PaA, Pa7, Pa8, Pa9. -/
import Derived.Test.YtbogmeeijdaijaaGreatDoorZAI
set_option linter.unusedVariables false
set_option linter.unusedSimpArgs false
set_option linter.unnecessarySimpa false
set_option maxHeartbeats 2000000
namespace Go.Proofs.YtbogmeeijdaijaaGreatDoor
open Go.Proofs.Tryz Go.RowKit
set_option maxRecDepth 20000
theorem next_r {p:Prs} {g nb:Nat} {w w':World} (h:PaS w g nb p) (hw:Below w.heap.size w w'):Calls prog 176 #[.pointer (some ⟨g,0,none⟩)] w' fun e w''=>e = .returned (.string (p.words.headD ⟨#[]⟩))/\Below w.heap.size w w'' :=
 (next_ p g nb w' (h.below hw)).mono fun e w'' ⟨h1,h2⟩=>⟨h1,hw.trans (h2.mono hw.size)⟩
theorem qdw {p:Prs} {g nb:Nat} {w w':World} (h:PaS w g nb p) (ho:p.out.length<=1000000000) (s:ByteArray) (hs:s.size<=1000000) (hw:Below w.heap.size w w') :
  Calls prog 180 #[.pointer (some ⟨g,0,none⟩),.string s] w' fun e w''=>e = .returned (.tuple #[])/\PaS w'' g nb ⟨p.words,p.out++vm p.joins p.style s,p.style,true⟩/\Below g w w'' :=
 (text_ p s hs ho g nb w' (h.below hw)).mono fun e w'' ⟨h1,h2,h3⟩=>⟨h1,h2,(hw.mono (Lr h.lt)).trans h3⟩
theorem qaZ {q:Prs} {g nb:Nat} {w w':World} (hq:PaS w' g nb q) (k:Nat) (hk:k<=q.words.length) (hb:Below g w w') :
  Calls prog 177 #[.pointer (some ⟨g,0,none⟩),.int .i64 k] w' fun e w''=>e = .returned (.tuple #[])/\PaS w'' g nb ⟨q.words.drop k,q.out,q.style,q.joins⟩/\Below g w w'' :=
 (take_ q k hk g nb w' hq).mono fun e w'' ⟨h1,h2,h3⟩=>⟨h1,h2,hb.trans h3⟩
theorem dgW_some {x:ByteArray} {d:Nat} (h:dgW x=some d):d<10/\x=wb d:=by
 unfold dgW at h;have h1:=List.find?_some h;have h2:=List.mem_of_find?_eq_some h
 simp at h1 h2
 exact ⟨h2,h1.symm⟩
theorem num_dg {x:ByteArray} {d:Nat} (h:dgW x=some d):d<10/\zc [x]=some (d:Int):=by
 obtain ⟨h1,rfl⟩:=dgW_some h;have : ∀ d:Fin 10,zc [wb d.val]=some (d.val:Int):=by decide +kernel
 exact ⟨h1,this ⟨d,h1⟩⟩
theorem num_no {x:ByteArray} (h:dgW x=none):zc [x]=none∨∃ n,zc [x]=some n/\(n<0∨9<n):=by
 cases hn:zc [x] with
 | none=>exact .inl rfl
 | some n =>
  refine .inr ⟨n,rfl,?_⟩;obtain ⟨_,_,a3,_⟩:=vp hn
  rcases Int.lt_or_le n 0 with h0 | h0
  ·exact .inl h0
  ·rcases Int.lt_or_le 9 n with h9 | h9
   ·exact .inr h9
   ·exfalso
    have : ∀ d:Fin 10,(qm ((d.val:Nat):Int)).map wb=[wb d.val]/\dgW (wb d.val)=some d.val:=by decide +kernel
    obtain ⟨b1,b2⟩:=this ⟨n.toNat,by omega⟩;simp only at b1 b2;rw [Int.toNat_of_nonneg h0,a3] at b1
    injection b1 with b1
    rw [b1,b2] at h
    cases h
def jo (t:List ByteArray) (j:Nat):List Nat:=(t.take j).map fun s=>(dgW s).getD 0
theorem yg {t:List ByteArray} {j:Nat} (hj:j<=t.length):(zN (jo t j)).size=j:=by
 unfold zN jo
 show (List.toArray _).size=_
 rw [List.size_toArray,Lq,Lq,Lu]
 omega
theorem qjN {t:List ByteArray} {j d:Nat} (h:j<t.length) (hd:dgW t[j]=some d):zN (jo t (j+1))=zN (jo t j)++⟨#[UInt8.ofNat (48+d)]⟩:=by
 unfold zN jo
 apply ByteArray.ext
 rw [ByteArray.data_append]
 apply Array.toList_inj.1
 rw [(List.take_append_getElem h).symm,List.map_append,List.map_append]
 simp [hd]
theorem qmg {t:List ByteArray} {j:Nat} (hj:j<=t.length) (h : ∀ k (hk:k<t.length),k<j->(dgW t[k]).isSome=true) (hs : ∀ hk:j<t.length,dgW t[j]=none):k7 t=jo t j:=by
 unfold k7 jo;rw [qdr hj h fun hk=>by rw [hs hk];rfl]
theorem qif (d:Nat) (hd:d<10):Utf8.encode (48+(d:Int))=⟨#[UInt8.ofNat (48+d)]⟩:=by
 have : ∀ d:Fin 10,Utf8.encode (48+((d.val:Nat):Int))=⟨#[UInt8.ofNat (48+d.val)]⟩:=by decide +kernel
 exact this ⟨d,hd⟩
theorem qd1 (d:Nat) (hd:d<10):wrap64 (48+(d:Int))=48+(d:Int)/\IntKind.i32.wrap (48+(d:Int))=48+(d:Int):=by
 refine ⟨by unfold wrap64;omega,by rw [IntKind.wrap_i32];omega⟩
theorem wrap_two (j:Nat) (hj:j<=950000):wrap64 ((j:Int)+1+1)=(j:Int)+1+1:=by unfold wrap64;omega
theorem figures_ (p:Prs) (g nb:Nat) (w:World) (h:PaS w g nb p) (hk:PaK p):Calls prog 163 #[.pointer (some ⟨g,0,none⟩)] w (PaR g nb p (qaP p) w):=by
 have hgl:=h.lt;have HPS:=Lh h;have hb0:Below w.heap.size w w:=Le _ _;have HN:=Lh (fun w' (hw:Below w.heap.size w w')=>next_r h hw);obtain ⟨A,n,c,A2,c2,h1,h2,h3,h4,h5⟩:=h;have C1:=h3.cell 1;simp only [jh,La,Lb,Lc] at C1;have hn:p.words.length=n:=by have:=h4.1;simp [sv] at this;omega
 have hlen:=hk.len;have hc63:c<=9223372036854775807:=by unfold maxLen at h2;omega
 have HC1:Hid (∀ w',Below w.heap.size w w'->w'.cell? ⟨g,1,none⟩=some (.slice A n c)):=Lh fun w' hw=>(hw.cell (show g<_ from hgl)).trans C1
 have q1:=qct (a:=p.words.headD ⟨#[]⟩) (b:=vI) (l:=[100,105,103,105,116,115]) rfl;obtain ⟨W,O,st,J⟩:=p;dsimp only at *
 by_cases hd:W.headD ⟨#[]⟩=vI
 ·rw [Ll hd] at q1
  cases W with
  | nil=>exact absurd hd L4
  | cons a t =>
   rw [List.headD_cons] at hd q1 HN;have hn1:0<n:=by rw [<- hn];simp
   obtain ⟨b,o,hA,hbg,-⟩:=h4.2 hn1;subst hA;obtain ⟨RES,hRES⟩ : ∃ x,x=qaP ⟨a::t,O,st,J⟩:=⟨_,rfl⟩
   rw [<- hRES];have HF:Hid (∀ j,j<=t.length->(∀ k (hk:k<t.length),k<j->(dgW t[k]).isSome=true)->(∀ hk:j<t.length,dgW t[j]=none)->RES=if j=0 then none else some ⟨(a::t).drop (j+1),O++vm J st (zN (jo t j)),st,true⟩):=Lh fun j h1 h2 h3=>by
    rw [hRES];unfold qaP;simp only;rw [qmg h1 h2 h3];have hz:(jo t j).length=j:=by unfold jo;rw [Lq,Lu];omega
    by_cases h0:j=0
    ·rw [if_pos h0,if_neg];rintro ⟨_,hne⟩;exact hne (List.length_eq_zero_iff.1 L0)
    ·rw [if_neg h0,if_pos ⟨hd,fun e=>h0 (by rw [e] at hz;exact hz.symm)⟩,hz,Nat.add_comm]
     rfl
   have HS:Hid (∀ j (h:j<t.length) w',Below w.heap.size w w'->Calls prog 120 #[.slice (some ⟨b,o+(j+1),none⟩) 1 (c-(j+1))] w' fun e w''=>e = .returned (kE (zc [t[j]]))/\Below w.heap.size w w''):=Lh fun j hj w' hw=>by
    have hjn:j+1<n:=by rw [<- hn];simpa using hj
    have rdx:Rd w' w'.heap.size 1 (some ⟨b,o+(j+1),none⟩) 1 (sv [t[j]]):=Rd.some_ (by simp [sv]) (by have:=hw.size;omega) fun i u hi=>by
     have:i=0:=by
      have:i<1:=by
       rcases Nat.lt_or_ge i 1 with h | h
       ·exact h
       ·rw [List.getElem?_eq_none (by simpa [sv] using h)] at hi;cases hi
      omega
     subst this;obtain ⟨b',o',e',_,hcd⟩:=h4.at_ hjn;simp only [Option.some.injEq,Addr.mk.injEq,and_true] at e';obtain ⟨rfl,rfl⟩:=e';refine (hw.cell (by show b<_;omega)).trans (hcd.trans ?_)
     simp [sv,hj] at hi ⊢
     exact hi
    exact (qcR [t[j]] _ _ w' rdx L1 L1 (fun s hs=>by
     rw [List.mem_singleton] at hs;subst hs
     exact Lj (hk.1 _ (List.mem_cons_of_mem _ (Lt hj))) L2)).mono fun e w'' ⟨h1,h2⟩=>⟨h1,hw.trans (h2.mono hw.size)⟩
   have hol:O.length<=1000000000:=by have h:=hk.2.1;dsimp only at h;omega
   have ht:Hid (t.length+1=n):=Lh (by simpa using hn);have hK:=hlen;have htl:Hid (t.length<=950000):=Lh (by rw [Lp] at hlen;omega);clear h2 h3 h4 h5 hk hn hlen hd hRES hK;have hK:=trivial
   go_enter func163,ntmps163
   go_wp2_with (go_at_call 176;refine (HN.out _ L3).mono ?_;rintro e w1 ⟨rfl,hb1⟩;have C1':=HC1.out _ hb1)
   clear q1 C1 C1' hb0
   go_loopw [3,4] (fun x y wr=>∃ j:Nat,j<=t.length/\y = .int .i64 (j+1:Nat)/\x = .string (zN (jo t j))/\Below w.heap.size w wr/\Hid (∀ k (hk:k<t.length),k<j->(dgW t[k]).isSome=true)) (fun _ y _=>n-(intOf y).toNat)
   case atStart=>exact ⟨0,Nat.zero_le _,rfl,rfl,hb1,Lh fun k hk h=>absurd h (Nat.not_lt_zero k)⟩
   case round =>
    clear hb1;obtain ⟨j,hj,rfl,rfl,hbel,HA⟩:=hrel;have C1':=HC1.out _ hbel
    by_cases hlt:j<t.length
    ·have hjn:j+1<n:=by have:=ht.out;omega
     have HSj:=Lh (HS.out j hlt);have hw1:=wrap_two j (Lj hj htl.out);have i1:(0:Int)<=(j:Int)+1+1:=by omega
     have i2:(j:Int)+1+1<=n:=by omega
     have i3:(j:Int)+1+1<=c:=by omega
     cases hdg:dgW t[j] with
     | some d =>
      obtain ⟨hd10,hnum⟩:=num_dg hdg;rw [hnum] at HSj;simp only [kE] at HSj;have HA2:Hid (∀ k (hk:k<t.length),k<j+1->(dgW t[k]).isSome=true):=Lh fun k hk hkj=>by
       rcases Nat.lt_or_ge k j with h' | h'
       ·exact HA.out k hk h'
       ·obtain rfl:k=j:=by omega
        rw [hdg]
        rfl
      have HDn:=Lh (qjN hlt hdg);have henc:=Lh (qif d hd10);have i4:decide ((d:Int)<0)=false:=Lk L0;have i5:decide (9<(d:Int))=false:=Lk L0;obtain ⟨hw2,hw3⟩:=qd1 d hd10;clear HA HF HS hdg hnum;have hsz1:(zN (jo t j)).size<=950000:=by rw [yg hj];exact Lj hj htl.out
      have hsz2:(Utf8.encode (48+(d:Int))).size<=4:=by rw [henc.out];show 1<=4;omega
      rw [<- henc.out] at HDn;clear henc hd10;generalize zN (jo t j)=DS at *
      generalize (d:Int)=m at *
      go_wp2_with (go_at_call 120;refine (HSj.out _ L3).mono ?_;rintro e w3 ⟨rfl,hb3⟩)
      exact ⟨⟨j+1,by omega,by go_num,by rw [HDn.out],hb3,HA2⟩,by simp only [intOf];omega⟩
     | none =>
      have hstop : ∀ hk:j<t.length,dgW t[j]=none:=fun _=>hdg
      rcases num_no hdg with hnum | ⟨m,hnum,hm⟩
      ·rw [hnum] at HSj;simp only [kE] at HSj
       by_cases h0:j=0
       ·have he:(zN (jo t j)).toList.isEmpty=true:=by rw [h0,ByteArray.toList_eq];rfl
        have hF2:Hid (RES=none):=Lh (by rw [HF.out j hj HA.out hstop,if_pos h0]);clear HF HA HS h0;generalize zN (jo t j)=DS at *
        go_wp2_with (go_at_call 120;refine (HSj.out _ L3).mono ?_;rintro e w3 ⟨rfl,hb3⟩)
        go_ret;rw [hF2.out];exact ⟨hb3.mono (Lr hgl),rfl,HPS.out.below hb3,hb3⟩
       ·have he:(zN (jo t j)).toList.isEmpty=false:=jp (by rw [yg hj];exact h0);have hF2:Hid (RES=some ⟨(a::t).drop (j+1),O++vm J st (zN (jo t j)),st,true⟩):=Lh (by rw [HF.out j hj HA.out hstop,if_neg h0]);clear h0;have hds:(zN (jo t j)).size<=1000000:=by rw [yg hj];exact Lj hj (Lj htl.out L2)
        have HTx:=Lh (fun w' (hw:Below w.heap.size w w')=>qdw HPS.out hol _ hds hw);have HTk:=Lh (fun w' (hp:PaS w' g nb ⟨a::t,O++vm J st (zN (jo t j)),st,true⟩) (hb:Below g w w')=>qaZ hp (j+1) (Nat.succ_le_succ hj) hb);clear HF HA HS;generalize zN (jo t j)=DS at *
        go_wp2_with (first
         | (go_at_call 120;refine (HSj.out _ L3).mono ?_;rintro e w3 ⟨rfl,hb3⟩)
         | (go_at_call 180;refine (HTx.out _ L3).mono ?_;rintro e w5 ⟨rfl,hp5,hb5⟩)
         | (go_at_call 177;refine (HTk.out _ hp5 hb5).mono ?_;rintro e w6 ⟨rfl,hp6,hb6⟩))
        go_ret;rw [hF2.out];exact ⟨hb6,rfl,hp6⟩
      ·rw [hnum] at HSj;simp only [kE] at HSj
       rcases hm with hm | hm
       ·have i4:decide (m<0)=true:=Ll hm
        by_cases h0:j=0
        ·have he:(zN (jo t j)).toList.isEmpty=true:=by rw [h0,ByteArray.toList_eq];rfl
         have hF2:Hid (RES=none):=Lh (by rw [HF.out j hj HA.out hstop,if_pos h0]);clear HF HA HS h0;generalize zN (jo t j)=DS at *
         go_wp2_with (go_at_call 120;refine (HSj.out _ L3).mono ?_;rintro e w3 ⟨rfl,hb3⟩)
         go_ret;rw [hF2.out];exact ⟨hb3.mono (Lr hgl),rfl,HPS.out.below hb3,hb3⟩
        ·have he:(zN (jo t j)).toList.isEmpty=false:=jp (by rw [yg hj];exact h0);have hF2:Hid (RES=some ⟨(a::t).drop (j+1),O++vm J st (zN (jo t j)),st,true⟩):=Lh (by rw [HF.out j hj HA.out hstop,if_neg h0]);clear h0;have hds:(zN (jo t j)).size<=1000000:=by rw [yg hj];exact Lj hj (Lj htl.out L2)
         have HTx:=Lh (fun w' (hw:Below w.heap.size w w')=>qdw HPS.out hol _ hds hw);have HTk:=Lh (fun w' (hp:PaS w' g nb ⟨a::t,O++vm J st (zN (jo t j)),st,true⟩) (hb:Below g w w')=>qaZ hp (j+1) (Nat.succ_le_succ hj) hb);clear HF HA HS;generalize zN (jo t j)=DS at *
         go_wp2_with (first
          | (go_at_call 120;refine (HSj.out _ L3).mono ?_;rintro e w3 ⟨rfl,hb3⟩)
          | (go_at_call 180;refine (HTx.out _ L3).mono ?_;rintro e w5 ⟨rfl,hp5,hb5⟩)
          | (go_at_call 177;refine (HTk.out _ hp5 hb5).mono ?_;rintro e w6 ⟨rfl,hp6,hb6⟩))
         go_ret;rw [hF2.out];exact ⟨hb6,rfl,hp6⟩
       ·have i4:decide (m<0)=false:=Lk L0;have i5:decide (9<m)=true:=Ll hm
        by_cases h0:j=0
        ·have he:(zN (jo t j)).toList.isEmpty=true:=by rw [h0,ByteArray.toList_eq];rfl
         have hF2:Hid (RES=none):=Lh (by rw [HF.out j hj HA.out hstop,if_pos h0]);clear HF HA HS h0;generalize zN (jo t j)=DS at *
         go_wp2_with (go_at_call 120;refine (HSj.out _ L3).mono ?_;rintro e w3 ⟨rfl,hb3⟩)
         go_ret;rw [hF2.out];exact ⟨hb3.mono (Lr hgl),rfl,HPS.out.below hb3,hb3⟩
        ·have he:(zN (jo t j)).toList.isEmpty=false:=jp (by rw [yg hj];exact h0);have hF2:Hid (RES=some ⟨(a::t).drop (j+1),O++vm J st (zN (jo t j)),st,true⟩):=Lh (by rw [HF.out j hj HA.out hstop,if_neg h0]);clear h0;have hds:(zN (jo t j)).size<=1000000:=by rw [yg hj];exact Lj hj (Lj htl.out L2)
         have HTx:=Lh (fun w' (hw:Below w.heap.size w w')=>qdw HPS.out hol _ hds hw);have HTk:=Lh (fun w' (hp:PaS w' g nb ⟨a::t,O++vm J st (zN (jo t j)),st,true⟩) (hb:Below g w w')=>qaZ hp (j+1) (Nat.succ_le_succ hj) hb);clear HF HA HS;generalize zN (jo t j)=DS at *
         go_wp2_with (first
          | (go_at_call 120;refine (HSj.out _ L3).mono ?_;rintro e w3 ⟨rfl,hb3⟩)
          | (go_at_call 180;refine (HTx.out _ L3).mono ?_;rintro e w5 ⟨rfl,hp5,hb5⟩)
          | (go_at_call 177;refine (HTk.out _ hp5 hb5).mono ?_;rintro e w6 ⟨rfl,hp6,hb6⟩))
         go_ret;rw [hF2.out];exact ⟨hb6,rfl,hp6⟩
    ·have hjn : ¬ j+1<n:=by have:=ht.out;omega
     have hstop : ∀ hk:j<t.length,dgW t[j]=none:=fun hk=>absurd hk hlt
     by_cases h0:j=0
     ·have he:(zN (jo t j)).toList.isEmpty=true:=by rw [h0,ByteArray.toList_eq];rfl
      have hF2:Hid (RES=none):=Lh (by rw [HF.out j hj HA.out hstop,if_pos h0]);clear HF HA HS h0;generalize zN (jo t j)=DS at *
      go_wp2_with fail
      go_ret;rw [hF2.out];exact ⟨hbel.mono (Lr hgl),rfl,HPS.out.below hbel,hbel⟩
     ·have he:(zN (jo t j)).toList.isEmpty=false:=jp (by rw [yg hj];exact h0);have hF2:Hid (RES=some ⟨(a::t).drop (j+1),O++vm J st (zN (jo t j)),st,true⟩):=Lh (by rw [HF.out j hj HA.out hstop,if_neg h0]);clear h0;have hds:(zN (jo t j)).size<=1000000:=by rw [yg hj];exact Lj hj (Lj htl.out L2)
      have HTx:=Lh (fun w' (hw:Below w.heap.size w w')=>qdw HPS.out hol _ hds hw);have HTk:=Lh (fun w' (hp:PaS w' g nb ⟨a::t,O++vm J st (zN (jo t j)),st,true⟩) (hb:Below g w w')=>qaZ hp (j+1) (Nat.succ_le_succ hj) hb);clear HF HA HS;generalize zN (jo t j)=DS at *
      go_wp2_with (first
       | fail
       | (go_at_call 180;refine (HTx.out _ L3).mono ?_;rintro e w5 ⟨rfl,hp5,hb5⟩)
       | (go_at_call 177;refine (HTk.out _ hp5 hb5).mono ?_;rintro e w6 ⟨rfl,hp6,hb6⟩))
      go_ret;rw [hF2.out];exact ⟨hb6,rfl,hp6⟩
 ·rw [Lk hd] at q1;have e0:qaP ⟨W,O,st,J⟩=none:=by
   unfold qaP
   split
   ·rfl
   ·rename_i a t hw
    dsimp only at hw;rw [hw,List.headD_cons] at hd;rw [if_neg fun h=>hd h.1]
  rw [e0];clear h2 h3 h4 h5 hk hn hlen hd e0;generalize W.headD ⟨#[]⟩=nx at *
  go_enter func163,ntmps163
  go_wp2_with (go_at_call 176;refine (HN.out _ L3).mono ?_;rintro e w1 ⟨rfl,hb1⟩)
  go_ret;exact ⟨hb1.mono (Lr hgl),rfl,HPS.out.below hb1,hb1⟩
def styI (o:Option Nat):Int:=match o with
 | some i=>(i:Int)
 | none => -1
theorem sty_at {s:ByteArray} {j:Nat} (hj:j<4) (h : ∀ i,i<j->vP i≠s) (he:vP j=s):vY s=some j:=by
 subst he;have : ∀ j:Fin 4,vY (vP j.val)=some j.val:=by decide +kernel
 exact this ⟨j,hj⟩
theorem qmn {s:ByteArray} (h : ∀ i,i<4->vP i≠s):vY s=none:=by
 unfold vY;rw [List.find?_eq_none];intro i hi
 simp at hi
 simpa using h i hi
theorem qjV (s:ByteArray) (w:World) (hSt:Sty w):Calls prog 175 #[.slice (some ⟨6,0,none⟩) 4 4,.string s] w (qh (.int .i64 (styI (vY s))) w):=by
 have HA:Hid (∀ j,j<4->(∀ i,i<j->vP i≠s)->vP j=s->vY s=some j):=Lh fun j h1 h2 h3=>sty_at h1 h2 h3
 have HO:Hid ((∀ i,i<4->vP i≠s)->vY s=none):=Lh qmn;have HC:Hid (∀ (j:Nat) (w':World),j<4->Below w.heap.size w w'->w'.cell? ⟨6,j,none⟩=some (.string (vP j))):=Lh fun j w' hj hw=>hSt.below hw (Ld _) j hj
 generalize vY s=R at *
 clear hSt
 go_enter func175,ntmps175
 go_wp2
 go_loopw [8] (fun x wr=>∃ j:Nat,j<=4/\x = .int .i64 j/\Below w.heap.size w wr/\Hid (∀ i,i<j->vP i≠s)) (fun x _=>4-(intOf x).toNat)
 case atStart=>exact ⟨0,Nat.zero_le _,rfl,Le _ _,Lh fun i hi=>absurd hi (Nat.not_lt_zero i)⟩
 case round =>
  obtain ⟨j,hj,rfl,hbel,HI⟩:=hrel
  by_cases hlt:j<4
  ·have hc:=HC.out j wr hlt hbel;have hq:=jO s (vP j);have hj0:(j:Int)<4:=by omega
   by_cases he:vP j=s
   ·have hR:=Lh (HA.out j hlt HI.out he);rw [Ll he.symm] at hq;clear HA HO HI HC he;generalize vP j=sj at *
    go_wp2;go_ret;exact ⟨by rw [hR.out];rfl,hbel⟩
   ·rw [Lk fun e=>he e.symm] at hq;have HI2:Hid (∀ i,i<j+1->vP i≠s):=Lh fun i hi=>by
     rcases Nat.lt_or_ge i j with h | h
     ·exact HI.out i h
     ·obtain rfl:i=j:=by omega
      exact he
    clear HA HO HI HC he;generalize vP j=sj at *
    go_wp2;exact ⟨⟨j+1,by omega,by go_num,hbel,HI2⟩,by simp [intOf];omega⟩
  ·obtain rfl:j=4:=by omega
   have hR:=Lh (HO.out HI.out);clear HA HO HI HC;go_wp2;go_ret;exact ⟨by rw [hR.out];rfl,hbel⟩
theorem styled_ (p:Prs) (g nb:Nat) (w:World) (hSt:Sty w) (h:PaS w g nb p):Calls prog 161 #[.pointer (some ⟨g,0,none⟩)] w (PaR g nb p (zP p) w):=by
 have hgl:=h.lt;have hzz:w.heap.size<=w.heap.size:=Ld _;have HPS:Hid (∀ x:Near w.heap.size w,PaS x.w g nb p):=Lh fun x=>h.below x.h
 have HN:Hid (∀ x:Near w.heap.size w,Calls prog 176 #[.pointer (some ⟨g,0,none⟩)] x.w (qh (.string (p.words.headD ⟨#[]⟩)) x.w)):=Lh fun x=>next_ p g nb x.w (h.below x.h)
 have HIx:Hid (∀ x:Near w.heap.size w,Calls prog 175 #[.slice (some ⟨6,0,none⟩) 4 4,.string (p.words.headD ⟨#[]⟩)] x.w (qh (.int .i64 (styI (vY (p.words.headD ⟨#[]⟩)))) x.w)):=Lh fun x=>qjV _ x.w (hSt.below x.h (Ld _))
 have qj:=qct (a:=p.words.headD ⟨#[]⟩) (b:=zO) (l:=[106,111,105,110,101,100]) rfl;clear hSt
 cases hw:p.words with
 | nil =>
  have e0:zP p=none:=by unfold zP;rw [hw]
  rw [e0];rw [hw] at HN HIx qj;rw [show styI (vY (([]:List ByteArray).headD ⟨#[]⟩)) = -1 by decide +kernel] at HIx;rw [show decide (([]:List ByteArray).headD ⟨#[]⟩=zO)=false by decide +kernel] at qj;clear e0 hw h;generalize ([]:List ByteArray).headD ⟨#[]⟩=nx at *
  go_enter func161,ntmps161
  go_upto_region 1 with fail
  refine qc w.heap.size ?_;(repeat (go_big_quiet_step ((first | (go_at_call 176;exact Calls.near _ hzz (HN.out _)) | (go_at_call 175;exact Calls.near _ hzz (HIx.out _))))));refine wpQuiet_nil ?_;intro x1
  go_wp2_with (go_at_call 176;refine (HN.out x1).mono ?_;rintro e w2 ⟨rfl,hb2⟩)
  go_ret;have hb:=x1.h.trans (hb2.mono x1.h.size);exact ⟨hb.mono (Lr hgl),rfl,(HPS.out x1).below hb2,hb⟩
 | cons a t =>
  have hwl:1<=p.words.length:=by rw [hw];simp
  have hd1:p.words.drop 1=t:=by rw [hw];rfl
  rw [hw,List.headD_cons] at HN HIx qj;have HTk:Hid (∀ (st:Int) w' (hp:PaS w' g nb ⟨p.words,p.out,st,false⟩) (hb:Below g w w'),Calls prog 177 #[.pointer (some ⟨g,0,none⟩),.int .i64 1] w' fun e w''=>e = .returned (.tuple #[])/\PaS w'' g nb ⟨t,p.out,st,false⟩/\Below g w w''):=Lh fun st w' hp hb=>by
   have:=qaZ hp 1 hwl hb;rw [show (⟨p.words,p.out,st,false⟩:Prs).words=p.words from rfl,hd1] at this;exact this
  cases hsi:vY a with
  | some i =>
   have e0:zP p=some ⟨t,p.out,(i:Nat),false⟩:=by unfold zP;rw [hw];simp only;rw [hsi]
   rw [e0];rw [hsi] at HIx;simp only [styI] at HIx;have i1 : ¬ ((i:Int)<0):=by omega
   have i2:(0:Int)<=i:=by omega
   clear e0 hw hwl hd1 hsi qj;generalize (i:Int)=I at *
   go_enter func161,ntmps161
   go_upto_region 1 with fail
   refine qc w.heap.size ?_;(repeat (go_big_quiet_step ((first | (go_at_call 176;exact Calls.near _ hzz (HN.out _)) | (go_at_call 175;exact Calls.near _ hzz (HIx.out _))))));refine wpQuiet_nil ?_;intro x1;have hp1:=HPS.out x1;have hb1:=x1.h;have hgx:=hp1.lt;obtain ⟨A,n,c,A2,c2,h1,h2,h3,h4,h5⟩:=hp1;have C3:=h3.cell 3;have F3:=h3.frozen 3;have C4:=h3.cell 4;have F4:=h3.frozen 4;simp only [jh,La,Lb,Lc] at C3 C4;have hS:PaS ((x1.w.setCell ⟨g,3,none⟩ (.int .i64 I)).setCell ⟨g,4,none⟩ (.bool false)) g nb ⟨p.words,p.out,I,false⟩ :=
    ⟨A,n,c,A2,c2,h1,h2,by have:=(h3.set_ 3 (.int .i64 I)).set_ 4 (.bool false);simpa [jh] using this,(h4.below ((Le g x1.w).setCell (Ld g) _)).below ((Le g _).setCell (Ld g) _),zZ (zZ h5 (Nat.lt_succ_self g) _) (Nat.lt_succ_self g) _⟩
   have hB:Below g w ((x1.w.setCell ⟨g,3,none⟩ (.int .i64 I)).setCell ⟨g,4,none⟩ (.bool false)):=((hb1.mono (Lr hgl)).setCell (Ld g) _).setCell (Ld g) _;clear h1 h2 h3 h4 h5
   go_upto_region 7 with fail
   refine qa (fun X=>PaS X g nb ⟨p.words,p.out,I,false⟩/\Below g w X) ⟨hS,hB⟩ ?_;clear hS hB C3 C4 F3 F4;rintro X ⟨hS,hB⟩
   go_wp2_with (go_at_call 177;refine (HTk.out _ X hS hB).mono ?_;rintro e w3 ⟨rfl,hp3,hb3⟩)
   go_ret;exact ⟨hb3,rfl,hp3⟩
  | none =>
   rw [hsi] at HIx;simp only [styI] at HIx
   by_cases hj:a=zO
   ·have e0:zP p=some ⟨t,p.out,p.style,false⟩:=by unfold zP;rw [hw];simp only;rw [hsi];exact if_pos hj
    rw [e0];rw [Ll hj] at qj;clear e0 hw hwl hd1 hsi hj
    go_enter func161,ntmps161
    go_upto_region 1 with fail
    refine qc w.heap.size ?_;(repeat (go_big_quiet_step ((first | (go_at_call 176;exact Calls.near _ hzz (HN.out _)) | (go_at_call 175;exact Calls.near _ hzz (HIx.out _))))));refine wpQuiet_nil ?_;intro x1
    go_upto_region 6 with (go_at_call 176;refine (HN.out x1).mono ?_;rintro e w2 ⟨rfl,hb2⟩)
    have hb1:=x1.h.trans (hb2.mono x1.h.size);have hp1:=(HPS.out x1).below hb2;have hgx:=hp1.lt;obtain ⟨A,n,c,A2,c2,h1,h2,h3,h4,h5⟩:=hp1;have C4:=h3.cell 4;have F4:=h3.frozen 4;simp only [jh,La,Lb,Lc] at C4;have hS:PaS (w2.setCell ⟨g,4,none⟩ (.bool false)) g nb ⟨p.words,p.out,p.style,false⟩ :=
     ⟨A,n,c,A2,c2,h1,h2,by have:=h3.set_ 4 (.bool false);simpa [jh] using this,h4.below ((Le g w2).setCell (Ld g) _),zZ h5 (Nat.lt_succ_self g) _⟩
    have hB:Below g w (w2.setCell ⟨g,4,none⟩ (.bool false)):=(hb1.mono (Lr hgl)).setCell (Ld g) _;clear h1 h2 h3 h4 h5
    go_upto_region 7 with fail
    refine qa (fun X=>PaS X g nb ⟨p.words,p.out,p.style,false⟩/\Below g w X) ⟨hS,hB⟩ ?_;clear hS hB C4 F4;rintro X ⟨hS,hB⟩
    go_wp2_with (go_at_call 177;refine (HTk.out _ X hS hB).mono ?_;rintro e w3 ⟨rfl,hp3,hb3⟩)
    go_ret;exact ⟨hb3,rfl,hp3⟩
   ·have e0:zP p=none:=by unfold zP;rw [hw];simp only;rw [hsi];exact if_neg hj
    rw [e0];rw [Lk hj] at qj;clear e0 hw hwl hd1 hsi hj HTk
    go_enter func161,ntmps161
    go_upto_region 1 with fail
    refine qc w.heap.size ?_;(repeat (go_big_quiet_step ((first | (go_at_call 176;exact Calls.near _ hzz (HN.out _)) | (go_at_call 175;exact Calls.near _ hzz (HIx.out _))))));refine wpQuiet_nil ?_;intro x1
    go_wp2_with (go_at_call 176;refine (HN.out x1).mono ?_;rintro e w2 ⟨rfl,hb2⟩)
    go_ret;have hb:=x1.h.trans (hb2.mono x1.h.size);exact ⟨hb.mono (Lr hgl),rfl,(HPS.out x1).below hb2,hb⟩
def qmb:Option (Int × Nat)->Value
 | some (r,n)=>.tuple #[.int .i32 r,.int .i64 n]
 | none=>.tuple #[.int .i32 0,.int .i64 0]
theorem qaH (l:List ByteArray) (A:Option Addr) (n c:Nat) (w:World) (hn:l.length=n) (hc:n<=c) (hm:c<=maxLen) (rd:Rd w w.heap.size 1 A n (sv l)) (hsz : ∀ x∈l,x.size<=maxLen) (hs:Sp w) :
  Calls prog 181 #[.slice A n c] w (qh (qmb (charW l)) w):=by
 cases l with
 | nil =>
  obtain rfl:n=0:=by simpa using hn.symm
  have HU:=Lh (qgt A c w);simp only [qmc] at HU;clear rd hs hsz
  go_enter func181,ntmps181
  go_wp2_with (go_at_call 192;refine HU.out.mono ?_;rintro e w1 ⟨rfl,hb1⟩)
  go_ret2;exact ⟨rfl,hb1⟩
 | cons a t =>
  have hn1:0<n:=by rw [<- hn];simp
  obtain ⟨b,o,rfl,hb,hca⟩:=rd.at_ hn1;have ha:w.cell? ⟨b,o,none⟩=some (.string a):=hca;have q1:=qct (a:=a) (b:=yB) (l:=[115,112,97,99,101]) rfl;have HU:=Lh (qfi a t b o n c w (by simpa using hn) hc hm rd hsz hs);have hi:(0:Int)<n:=by omega
  by_cases hsp:a=yB
  ·rw [Ll hsp] at q1;rw [charW,if_pos hsp];clear rd hs hsz hca hsp hn hm HU
   go_enter func181,ntmps181
   go_wp2;go_ret2;exact ⟨rfl,Le _ _⟩
  ·rw [Lk hsp] at q1;rw [charW,if_neg hsp];clear rd hs hsz hca hsp hn hm
   cases hu:zM (a::t) with
   | none =>
    rw [hu] at HU;simp only [qmc] at HU;clear hu
    go_enter func181,ntmps181
    go_wp2_with (go_at_call 192;refine HU.out.mono ?_;rintro e w1 ⟨rfl,hb1⟩)
    go_ret2;exact ⟨rfl,hb1⟩
   | some x =>
    obtain ⟨r,k⟩:=x;rw [hu] at HU;simp only [qmc] at HU;clear hu
    go_enter func181,ntmps181
    go_wp2_with (go_at_call 192;refine HU.out.mono ?_;rintro e w1 ⟨rfl,hb1⟩)
    go_ret2;exact ⟨rfl,hb1⟩
theorem qme {w:World} {base size n c G i:Nat} {e:TypeId} {xs:List Value} (h:w.ownsRow base e size (.slice (some ⟨G,0,none⟩) n c) n xs) (hi:i<n * size) (u:Value) :
  (w.setCell ⟨G,i,none⟩ u).ownsRow base e size (.slice (some ⟨G,0,none⟩) n c) n (xs.set i u):=by
 refine ⟨by rw [List.length_set];exact h.1,?_⟩
 rcases h.2 with ⟨h0,_⟩ | ⟨g,cap,cur,hv,h1,h2,h3,h4,h5,h6⟩
 ·cases h0
 ·simp only [Value.slice.injEq,Option.some.injEq,Addr.mk.injEq,and_true,true_and] at hv;obtain ⟨rfl,rfl⟩:=hv;refine .inr ⟨G,c,cur.setIfInBounds i u,rfl,h1,?_,h3,h4,by simpa using h5,?_⟩
  ·have hb:Blk w G e cur:=h2;exact hb.set_ i u
  ·rw [Array.toList_setIfInBounds,List.take_set,h6]
theorem qdT : ∀ (O:List Gl) (k:Nat) (h:k<O.length) (s:ByteArray),(qi O).set (k * 3) (.string s)=qi (O.set k ⟨s,O[k].wide,O[k].style⟩)
 | [],k,h,_=>by cases h
 | x::O,0,_,s=>by
  rw [jf,List.set_cons_zero,jf]
  rfl
 | x::O,k+1,h,s=>by
  have hk:k<O.length:=by simpa using h
  rw [jf,List.set_append_right _ _ (by rw [yU];omega),yU,show (k+1) * 3-3=k * 3 by omega,qdT O k hk s,List.set_cons_succ,jf]
  rfl
theorem set_last {O:List Gl} (k:Nat) (h:k+1=O.length) (x:Gl):O.set k x=O.dropLast++[x]:=by
 have hne:O≠[]:=by rintro rfl;cases h
 obtain ⟨D,y,rfl⟩ : ∃ D y,O=D++[y]:=⟨_,_,(List.dropLast_concat_getLast hne).symm⟩
 rw [Lf,Lz] at h;rw [List.dropLast_concat,List.set_append_right _ _ L0,show k-D.length=0 by omega]
 rfl
theorem qlT {w:World} {base size n c G:Nat} {e:TypeId} {xs:List Value} (h:w.ownsRow base e size (.slice (some ⟨G,0,none⟩) n c) n xs):base<=G/\n<=c/\c<=maxLen/\∃ cur,Blk w G e cur:=by
 rcases h.2 with ⟨h0,_⟩ | ⟨g,cap,cur,hv,h1,h2,h3,h4,h5,h6⟩
 ·cases h0
 ·simp only [Value.slice.injEq,Option.some.injEq,Addr.mk.injEq,and_true,true_and] at hv;obtain ⟨rfl,rfl⟩:=hv;exact ⟨h1,h3,h4,cur,h2⟩
theorem PaT.below {w X X':World} {g nb:Nat} {v:Value} {st:Int} {j:Bool} {O:List Gl} (h:PaT w g nb v st j O X) (hb:Below X.heap.size X X'):PaT w g nb v st j O X':=by
 obtain ⟨A,c,h1,h2,h3⟩:=h;have hl:=h1.lt;exact ⟨A,c,h1.below hb hl,qb h2 hb,h3.trans (hb.mono (Lr hl))⟩
theorem qmd {O:List Gl} {st r:Int} {n:Nat} (h:zR r<0):vV O st r n=(false,O):=if_pos h
theorem qjE {O:List Gl} {st r:Int} {n:Nat} (h:zR r=0) (hn:1<n):vV O st r n=(false,O):=by
 unfold vV;rw [if_neg L0,if_pos h,if_pos hn]
theorem qiO {st r:Int} {n:Nat} (h:zR r=0):vV [] st r n=(false,[]):=by
 unfold vV;rw [if_neg L0,if_pos h]
 split <;> rfl
theorem qjh {O:List Gl} {st r:Int} {n:Nat} (h:zR r=0) (hn : ¬ 1<n) (k:Nat) (hk:k+1=O.length):vV O st r n=((ye (O[k]'(by omega)).text r).2==0,O.set k ⟨(ye (O[k]'(by omega)).text r).1,(O[k]'(by omega)).wide,(O[k]'(by omega)).style⟩):=by
 unfold vV;rw [if_neg L0,if_pos h,if_neg hn];have hl:O.getLast? = some (O[k]'(by omega)):=by
  rw [List.getLast?_eq_getElem?,show O.length-1=k by omega,List.getElem?_eq_getElem]
 rw [hl];simp only;rw [set_last k hk]
theorem qjZ {O:List Gl} {st:Int} {r n:Nat} (h:1<=zR (r:Int)):vV O st (r:Int) n=(true,O++List.replicate n ⟨kt r,decide (zR (r:Int)=2),st⟩):=by
 unfold vV;rw [if_neg L0,if_neg L0,Int.toNat_natCast]
def Apt (w:World) (g:Nat) (w':World):Prop:=∀ F i:Nat,F≠g->F<w.heap.size->(∀ b o s n c,w.cell? ⟨g,2,none⟩=some (.slice (some ⟨b,o,s⟩) n c)->b≠F)->w'.cell? ⟨F,i,none⟩=w.cell? ⟨F,i,none⟩
theorem Apt.of_below {w w':World} {g:Nat} (h:Below w.heap.size w w'):Apt w g w':=fun _ _ _ hF _=>h.cell hF
def Kp (w:World) (g:Nat) (X:World):Prop:=X.cell? ⟨g,2,none⟩=w.cell? ⟨g,2,none⟩/\w.heap.size<=X.heap.size/\∀ F i:Nat,F≠g->F<w.heap.size->X.cell? ⟨F,i,none⟩=w.cell? ⟨F,i,none⟩
theorem Kp.below {w X w':World} {g:Nat} (h:Kp w g X) (hb:Below X.heap.size X w') (hg:g<w.heap.size):Kp w g w':=by
 obtain ⟨h1,h2,h3⟩:=h;exact ⟨(hb.cell (show g<_ by omega)).trans h1,Lj h2 hb.size,fun F i hF hl=>(hb.cell (show F<_ by omega)).trans (h3 F i hF hl)⟩
theorem Kp.apt {w X:World} {g:Nat} (h:Kp w g X):Apt w g X:=fun F i hF hl _=>h.2.2 F i hF hl
theorem add_ (p:Prs) (r:Nat) (hr:qR r) (times:Nat) (ht:times<=132) (ho:p.out.length<=1000000000) (hot : ∀ x∈p.out,x.text.size<=8000000) (g nb:Nat) (w:World) (h:PaS w g nb p) (hu : ∀ w',Below g w w'->U8 w') :
  Calls prog 182 #[.pointer (some ⟨g,0,none⟩),.int .i32 (r:Int),.int .i64 times] w fun e w'=>e = .returned (.bool (vV p.out p.style (r:Int) times).1)/\PaS w' g nb ⟨p.words,(vV p.out p.style (r:Int) times).2,p.style,false⟩/\Below g w w'/\((vV p.out p.style (r:Int) times).1=false->Apt w g w'):=by
 have hgl:=h.lt;obtain ⟨A,n,c,A2,c2,h1,h2,h3,h4,h5⟩:=h;obtain ⟨W,O,st,J⟩:=p;dsimp only at *
 have HF:Hid (∀ O' w',PaT w g nb (.slice A n c) st false O' w'->PaS w' g nb ⟨W,O',st,false⟩/\Below g w w'):=Lh fun O' w' ⟨A',c',a1,a2,a3⟩ =>
  ⟨⟨A,n,c,A',c',h1,h2,a1,h4.below a3,a2⟩,a3⟩
 generalize hv:Value.slice A n c=v at *
 have C4:=h3.cell 4;have F4:=h3.frozen 4;simp only [jh,La,Lb,Lc] at C4;have hPX:PaT w g nb v st false O (w.setCell ⟨g,4,none⟩ (.bool false)):=⟨A2,c2,by have:=h3.set_ 4 (.bool false);simpa [jh] using this,zZ h5 (Nat.lt_succ_self g) _,(Le g w).setCell (Ld g) _⟩
 have hKX:Kp w g (w.setCell ⟨g,4,none⟩ (.bool false)):=⟨World.cell?_setCell_other _ _ _ _ (by intro e;injection e with _ e1;cases e1),((Le g w).setCell (Ld g) _).size,fun F i hF _=>World.cell?_setCell_other _ _ _ _ (by intro e;injection e with e1;exact hF e1.symm)⟩
 have HW:=Lh (qgZ (r:Int));have HU:=Lh hu;clear h1 h2 h3 h4 h5 hv hu
 by_cases hw0:zR (r:Int)<0
 ·rw [qmd hw0];generalize zR (r:Int)=WL at *
  generalize (r:Int)=R at *
  go_enter func182,ntmps182
  go_upto_region 2 with fail
  refine qa (fun X=>PaT w g nb v st false O X/\Kp w g X) ⟨hPX,hKX⟩ ?_;clear hPX hKX C4 F4;rintro X ⟨hX,hK0⟩
  go_wp2_with (go_at_call 116;refine (HW.out X).mono ?_;rintro e w1 ⟨rfl,hb1⟩)
  go_ret;have hH:=HF.out O w1 (hX.below hb1);exact ⟨rfl,hH.1,hH.2,fun _=>(hK0.below hb1 hgl).apt⟩
 ·by_cases hw1:zR (r:Int)=0
  ·by_cases hmany:1<times
   ·rw [qjE hw1 hmany];generalize zR (r:Int)=WL at *
    generalize (r:Int)=R at *
    have i1:(1:Int)<times:=by omega
    go_enter func182,ntmps182
    go_upto_region 2 with fail
    refine qa (fun X=>PaT w g nb v st false O X/\Kp w g X) ⟨hPX,hKX⟩ ?_;clear hPX hKX C4 F4;rintro X ⟨hX,hK0⟩;subst hw1
    go_wp2_with (go_at_call 116;refine (HW.out X).mono ?_;rintro e w1 ⟨rfl,hb1⟩;have hX1:=hX.below hb1;obtain ⟨A3,c3,B3,_,_⟩:=id hX1;have C2:=B3.cell 2;simp only [jh,La,Lb,Lc] at C2)
    go_ret;have hH:=HF.out O w1 hX1;exact ⟨rfl,hH.1,hH.2,fun _=>(hK0.below hb1 hgl).apt⟩
   ·cases hO:O with
    | nil =>
     subst hO;rw [qiO hw1];generalize zR (r:Int)=WL at *
     generalize (r:Int)=R at *
     have i1 : ¬ (1:Int)<times:=by omega
     go_enter func182,ntmps182
     go_upto_region 2 with fail
     refine qa (fun X=>PaT w g nb v st false [] X/\Kp w g X) ⟨hPX,hKX⟩ ?_;clear hPX hKX C4 F4;rintro X ⟨hX,hK0⟩;subst hw1
     go_wp2_with (go_at_call 116;refine (HW.out X).mono ?_;rintro e w1 ⟨rfl,hb1⟩;have hX1:=hX.below hb1;obtain ⟨A3,c3,B3,_,_⟩:=id hX1;have C2:=B3.cell 2;simp only [jh,La,Lb,Lc,List.length_nil] at C2)
     go_ret;have hH:=HF.out [] w1 hX1;exact ⟨rfl,hH.1,hH.2,fun _=>(hK0.below hb1 hgl).apt⟩
    | cons x O' =>
     have hk : ∃ k,k+1=O.length:=⟨O'.length,by rw [hO];simp⟩
     rw [<- hO];clear hO;obtain ⟨k,hk⟩:=hk;rw [qjh hw1 hmany k hk];have htx:=hot (O[k]'(by omega)) (Lt _);have hkl:k<O.length:=by omega
     have HCell:Hid (∀ (w':World) (A:Option Addr) (c:Nat),w'.ownsRow (g+1) 64 3 (.slice A O.length c) O.length (qi O)->∃ G,A=some ⟨G,0,none⟩/\w'.cell? ⟨G,k * 3,none⟩=some (.string (O[k]'hkl).text)):=Lh fun w' A c ho=>by
      obtain ⟨b,o,rfl,_,a0,_⟩:=jE (Rd.of_own ho) hkl rfl;have hz:o=0:=by
       rcases ho.2 with ⟨h0,_⟩ | ⟨g',cap,cur,hv,_⟩
       ·cases h0
       ·simp only [Value.slice.injEq,Option.some.injEq,Addr.mk.injEq,and_true] at hv;exact hv.1.2
      subst hz;rw [Lo] at a0;exact ⟨b,rfl,a0⟩
     have HS:Hid (∀ s:ByteArray,qi (O.set k ⟨s,(O[k]'hkl).wide,(O[k]'hkl).style⟩)=(qi O).set (k * 3) (.string s)):=Lh fun s=>(qdT O k hkl s).symm
     have HAt:=Lh (fun w' hu=>attach_ (O[k]'hkl).text (Lj htx L2) r hr w' hu);have hk3:k * 3<O.length * 3:=by omega
     have hk9:k<=1000000000:=by omega
     have ew:wrap64 (k:Int)=(k:Int):=by unfold wrap64;omega
     generalize (O[k]'hkl)=x at *
     obtain ⟨tx,wd,sx⟩:=x;dsimp only at *
     generalize ye tx (r:Int)=AT at *
     obtain ⟨S,E⟩:=AT;simp only [attV] at HAt;dsimp only;have HK:=Lh hk;have HK3:=Lh hk3;have hnl:O.length=k+1:=hk.symm;have HLs:Hid ((O.set k ⟨S,wd,sx⟩).length=O.length):=Lh List.length_set;clear hot hkl htx ho hr hk hk3;generalize zR (r:Int)=WL at *
     generalize (r:Int)=R at *
     have i1 : ¬ (1:Int)<times:=by omega
     go_enter func182,ntmps182
     go_upto_region 2 with fail
     refine qa (fun X=>PaT w g nb v st false O X/\Kp w g X) ⟨hPX,hKX⟩ ?_;clear hPX hKX C4 F4;rintro X ⟨hX,hK0⟩;subst hw1
     go_upto_region 9 with (go_at_call 116;refine (HW.out X).mono ?_;rintro e w1 ⟨rfl,hb1⟩;obtain ⟨A3,c3,B3,o3,t3⟩:=hX.below hb1;obtain ⟨G,rfl,hcG⟩:=HCell.out _ _ _ o3;have C2:=B3.cell 2;simp only [jh,La,Lb,Lc] at C2;rw [hnl] at C2)
     have hk0:(0:Int)<=k:=by omega
     have hkn:(k:Int)<(k:Int)+1:=by omega
     go_wp2_with (go_at_call 193;refine (HAt.out w1 (HU.out w1 t3)).mono ?_;rintro e w2 ⟨rfl,hb2⟩;have hgl3:=B3.lt;have B4:=B3.below hb2 hgl3;have o4:=qb o3 hb2;have t4:=t3.trans (hb2.mono (Lr hgl3));obtain ⟨hgG,_,_,cur,BG⟩:=qlT o4;have FG:=BG.frozen (k * 3);obtain ⟨G',eG,hcG'⟩:=HCell.out _ _ _ o4;obtain rfl:G=G':=(by simpa using eG);have C2':=B4.cell 2;simp only [jh,La,Lb,Lc] at C2';rw [hnl] at C2')
     go_ret;have hB5:Blk (w2.setCell ⟨G,k * 3,none⟩ (.string S)) g _ _:=Blk.far (p:=⟨G,k * 3,none⟩) B4 (by show g≠G;omega) _;have o5:=qme o4 HK3.out (.string S);have t5:Below g w (w2.setCell ⟨G,k * 3,none⟩ (.string S)):=Below.setCell (p:=⟨G,k * 3,none⟩) t4 (by show g<=G;omega) _;rw [<- HS.out] at o5;have hH:=HF.out (O.set k ⟨S,wd,sx⟩) _ ⟨some ⟨G,0,none⟩,c3,by rw [HLs.out];exact hB5,by rw [HLs.out];exact o5,t5⟩;have hK2:=(hK0.below hb1 hgl).below hb2 hgl;refine ⟨rfl,hH.1,hH.2,fun _ F i hF hl hne=>?_⟩;have hGF:G≠F:=hne G 0 none _ _ (hK2.1.symm.trans C2');exact (World.cell?_setCell_other _ _ _ _ (by intro e;injection e with e1;exact hGF e1)).trans (hK2.2.2 F i hF hl)
  ·have hw2:1<=zR (r:Int):=by omega
   rw [qjZ hw2];have HGl:Hid ((⟨kt r,decide (zR (r:Int)=2),st⟩:Gl)=⟨kt r,zR (r:Int)==2,st⟩):=Lh rfl;rw [HGl.out];have HRn:Hid (∀ j,O++List.replicate (j+1) (⟨kt r,zR (r:Int)==2,st⟩:Gl)=(O++List.replicate j ⟨kt r,zR (r:Int)==2,st⟩)++[⟨kt r,zR (r:Int)==2,st⟩]):=Lh fun j=>by rw [List.replicate_succ',List.append_assoc]
   have HLn:Hid (∀ j,j<=times->(O++List.replicate j (⟨kt r,zR (r:Int)==2,st⟩:Gl)).length<=1000000132):=Lh fun j hj=>by rw [Lf,List.length_replicate];omega
   have HEnc:Hid (∀ wr:World,Calls prog 194 #[.slice (some ⟨wr.heap.size,0,none⟩) 1 1] (wr.alloc (.cells #[.int .i32 (r:Int)] 21)).drew (qh (.string (kt r)) (wr.alloc (.cells #[.int .i32 (r:Int)] 21)).drew)):=Lh fun wr =>
    qiC r hr _ 1 (wr.heap.size+1) _ (qeI wr r 21) (by show wr.heap.size+1<=(wr.alloc _).heap.size;simp)
   have hz0:(zR (r:Int)==0)=false:=Lm.2 hw1;have hn0:decide (zR (r:Int)<0)=false:=Lk hw0;clear hr hot hw2 HGl HU hw0 hw1;generalize hWL:zR (r:Int)=WL at *
   generalize kt r=EB at *
   generalize hGL:(⟨EB,WL==2,st⟩:Gl)=GL at *
   replace hGL:=Lh hGL;generalize (r:Int)=R at *
   clear hWL
   go_enter func182,ntmps182
   go_upto_region 2 with fail
   refine qa (PaT w g nb v st false O) hPX ?_;clear hPX C4 F4;intro X hX
   go_upto_region 12 with (go_at_call 116;refine (HW.out X).mono ?_;rintro e w1 ⟨rfl,hb1⟩;have hX1:=hX.below hb1)
   go_wp2
   go_loopw [56] (fun x wr=>∃ j:Nat,j<=times/\x = .int .i64 j/\PaT w g nb v st false (O++List.replicate j GL) wr) (fun x _=>times-(intOf x).toNat)
   case atStart=>exact ⟨0,Nat.zero_le _,rfl,by rw [List.replicate_zero,List.append_nil];exact hX1⟩
   case round =>
    clear hX hX1 hb1;obtain ⟨j,hj,rfl,A6,c6,Bx,ox,tx⟩:=hrel
    by_cases hlt:j<times
    ·have hlen:=HLn.out j hj;have HQl:Hid ((O++List.replicate (j+1) GL).length=(O++List.replicate j GL).length+1):=Lh (by rw [HRn.out j,Lf];rfl);have HQs:Hid (qi (O++List.replicate (j+1) GL)=qi (O++List.replicate j GL)++ym GL):=Lh (by rw [HRn.out j,kF,qbe]);clear HRn HLn HF HW;generalize O++List.replicate j GL=OJ at *
     have C2:=Bx.cell 2;have C3:=Bx.cell 3;simp only [jh,La,Lb,Lc] at C2 C3;have HE:=Lh (HEnc.out wr);have o0:=qb (World.ownsRow.alloc ox (.cells #[.int .i32 R] 21)) (Le _ _).drew;have B0:=(Blk.alloc Bx (.cells #[.int .i32 R] 21)).drew;have hgr:g<wr.heap.size:=Bx.lt;have t0:Below g w (wr.alloc (.cells #[.int .i32 R] 21)).drew:=(tx.alloc (Lr hgr) _).drew;have hG:=hGL.out;subst hG;clear hGL
     go_upto_region 14 with fail
     go_region_law (first
      | (go_simp;go_at_call 194;refine HE.out.mono ?_;rintro e w5 ⟨rfl,hb5⟩;have B5:=B0.below hb5 B0.lt;have z5:g<w5.heap.size:=B5.lt;have o5:=qb o0 hb5;have t5:=t0.trans (hb5.mono (Lr B0.lt));have c52:=B5.cell 2;have c53:=B5.cell 3;simp only [jh,La,Lb,Lc] at c52 c53)
      | (refine jZ rfl _ _ _ rfl qbz ((g+1)) _ rfl ((o5.alloc _)) _ _ rfl ((qe (xs:=ym ⟨EB,WL==2,st⟩) rfl rfl)) (rfl) ?_;intro A4 c4 w4 hown4 hbel4 hgr4 hat4;have z4:=hbel4.size;(try simp only [Lo,Lg] at hown4);have B4:=(Blk.alloc B5 (.cells (ym ⟨EB,WL==2,st⟩).toArray 64)).below hbel4 (Nat.lt_succ_self g);have c42:=B4.cell 2;have f42:=B4.frozen 2;simp only [jh,La,Lb,Lc] at c42))
     all_goals go_wp2
     all_goals exact ⟨⟨j+1,by omega,by go_num,PaT.put (Blk.alloc B5 _) (t5.alloc (Lr B5.lt) _) hown4 hbel4 HQl.out HQs.out⟩,by simp [intOf];omega⟩
    ·obtain rfl:j=times:=by omega
     have HQ:=Lh (HF.out _ wr ⟨A6,c6,Bx,ox,tx⟩);clear HF;go_wp2;go_ret;exact ⟨rfl,HQ.out.1,HQ.out.2,fun h=>by cases h⟩
def PaE (E:World) (g nb:Nat):Prop:=Sp E/\U8 E/\SetM E nb 200 jF/\E.heap.size=g
theorem PaE.sp {E w:World} {g nb:Nat} (h:PaE E g nb) (hb:Below g E w):Sp w:=h.1.below hb (Nat.le_of_eq h.2.2.2)
theorem PaE.u8 {E w:World} {g nb:Nat} (h:PaE E g nb) (hb:Below g E w):U8 w:=h.2.1.below (h.2.2.2 ▸ hb)
theorem PaE.set {E w:World} {g nb:Nat} (h:PaE E g nb) (hb:Below g E w):SetM w nb 200 jF:=h.2.2.1.below (h.2.2.2 ▸ hb)
theorem qfT {l:List ByteArray} {r:Int} {n:Nat} (h:charW l=some (r,n)) : ∃ m:Nat,r=(m:Int)/\qR m:=by
 have hc:zC r=true:=by
  cases l with
  | nil=>cases h
  | cons a t =>
   rw [charW] at h
   split at h
   ·injection h with h;injection h with h1 h;subst h1;decide
   ·exact (qaj h).1
 obtain ⟨a,b⟩:=kj hc;refine ⟨r.toNat,by omega,?_⟩;have:=(jV r).1 hc;unfold ks at this;unfold qR
 omega
theorem qeG {l:List ByteArray} {r:Int} {n:Nat} (h:charW l=some (r,n)):0<n/\n<=l.length:=by
 cases l with
 | nil=>cases h
 | cons a t =>
  rw [charW] at h
  split at h
  ·injection h with h;injection h with h1 h;subst h;exact ⟨by omega,by simp⟩
  ·obtain ⟨_,b,c,_⟩:=qaj h;exact ⟨b,c⟩
def PaR2 (g nb:Nat) (p:Prs) (o:Option Prs) (w:World) (e:Ending) (w':World):Prop :=
 Below g w w'/\match o with
 | some q=>e = .returned (.bool true)/\PaS w' g nb q
 | none=>e = .returned (.bool false)/\∃ q:Prs,q.words=p.words/\PaS w' g nb q/\(charW p.words=none->q=p)/\Apt w g w'
theorem sign_ (E:World) (p:Prs) (g nb:Nat) (w:World) (hE:PaE E g nb) (hEw:Below g E w) (h:PaS w g nb p) (hk:PaK p):Calls prog 164 #[.pointer (some ⟨g,0,none⟩)] w (PaR2 g nb p (ko p) w):=by
 have hgl:=h.lt;have HPS:=Lh h;have hb0:Below w.heap.size w w:=Le _ _;have hlen:=hk.len;have hout:p.out.length<=1000000000:=by have h:=hk.2.1;omega
 have hot : ∀ x∈p.out,x.text.size<=8000000:=fun x hx=>by have:=hk.2.2 x hx;omega
 have HAdd:Hid (∀ (r:Nat) (times:Nat),qR r->times<=132->∀ w',Below w.heap.size w w'->Calls prog 182 #[.pointer (some ⟨g,0,none⟩),.int .i32 (r:Int),.int .i64 times] w' fun e w''=>e = .returned (.bool (vV p.out p.style (r:Int) times).1)/\PaS w'' g nb ⟨p.words,(vV p.out p.style (r:Int) times).2,p.style,false⟩/\Below g w w''/\((vV p.out p.style (r:Int) times).1=false->Apt w g w'')):=Lh fun r times hr ht w' hw =>
  (add_ p r hr times ht hout hot g nb w' (h.below hw) fun w'' hb=>hE.u8 ((hEw.trans (hw.mono (Lr hgl))).trans hb)).mono fun e w'' ⟨h1,h2,h3,h4⟩=>⟨h1,h2,(hw.mono (Lr hgl)).trans h3,fun hf F i hF hl hne=>(h4 hf F i hF (Ly hl hw.size) fun b o s n c hc=>hne b o s n c ((hw.cell (show g<_ from hgl)).symm.trans hc)).trans (hw.cell hl)⟩
 have hs:=hE.sp hEw;obtain ⟨A,n,c,A2,c2,h1,h2,h3,h4,h5⟩:=h;have C1:=h3.cell 1;simp only [jh,La,Lb,Lc] at C1;have hn:p.words.length=n:=by have:=h4.1;simp [sv] at this;omega
 have HCh:Hid (∀ w',Below w.heap.size w w'->Calls prog 181 #[.slice A n c] w' fun e w''=>e = .returned (qmb (charW p.words))/\Below w.heap.size w w''):=Lh fun w' hw =>
  (qaH p.words A n c w' hn h1 h2 ((h4.below (hw.mono (Lr hgl))).more (by have:=hw.size;omega)) hk.sz (hs.below hw (Ld _))).mono fun e w'' ⟨h1,h2⟩=>⟨h1,hw.trans (h2.mono hw.size)⟩
 cases hcw:charW p.words with
 | none =>
  have e0:ko p=none:=by unfold ko;rw [hcw]
  rw [e0];rw [hcw] at HCh;simp only [qmb] at HCh;clear h2 h3 h4 h5 hn hk hlen e0 hs hot hout HAdd;replace hcw:=Lh hcw
  go_enter func164,ntmps164
  go_wp2_with (go_at_call 181;refine (HCh.out _ L3).mono ?_;rintro e w1 ⟨rfl,hb1⟩)
  go_ret;exact ⟨hb1.mono (Lr hgl),rfl,p,rfl,HPS.out.below hb1,fun _=>rfl,Apt.of_below hb1⟩
 | some x =>
  obtain ⟨r,k⟩:=x;obtain ⟨m,rfl,hm⟩:=qfT hcw;obtain ⟨hk0,hkl⟩:=qeG hcw;have HAd:=Lh (HAdd.out m 1 hm L0);have e0:ko p=if (vV p.out p.style (m:Int) 1).1=true then some ⟨p.words.drop k,(vV p.out p.style (m:Int) 1).2,p.style,false⟩ else none:=by unfold ko;rw [hcw]
  rw [e0];rw [hcw] at HCh;simp only [qmb] at HCh;have hcw':charW p.words≠none:=by rw [hcw];simp
  have HTk:=Lh (fun w' (hp:PaS w' g nb ⟨p.words,(vV p.out p.style (m:Int) 1).2,p.style,false⟩) (hb:Below g w w')=>qaZ hp k hkl hb);have ek:((k:Int)==0)=false:=Lm.2 L0;generalize vV p.out p.style (m:Int) 1=AL at *
  obtain ⟨ok,O'⟩:=AL;dsimp only at *
  clear h2 h3 h4 h5 hn hk hlen e0 hs hot hout HAdd hcw hk0 hkl hm;generalize (k:Int)=K at *
  generalize (m:Int)=M at *
  replace hcw':=Lh hcw'
  cases ok with
  | false =>
   rw [if_neg L1]
   go_enter func164,ntmps164
   go_wp2_with (first | (go_at_call 181;refine (HCh.out _ L3).mono ?_;rintro e w1 ⟨rfl,hb1⟩) | (go_at_call 182;refine (HAd.out _ L3).mono ?_;rintro e w2 ⟨rfl,hp2,hb2,hap2⟩) | (go_at_call 177;refine (HTk.out _ hp2 hb2).mono ?_;rintro e w3 ⟨rfl,hp3,hb3⟩))
   go_ret;exact ⟨hb2,rfl,⟨p.words,O',p.style,false⟩,rfl,hp2,fun h=>absurd h hcw'.out,hap2 (by first | trivial | rfl)⟩
  | true =>
   rw [if_pos rfl]
   go_enter func164,ntmps164
   go_wp2_with (first | (go_at_call 181;refine (HCh.out _ L3).mono ?_;rintro e w1 ⟨rfl,hb1⟩) | (go_at_call 182;refine (HAd.out _ L3).mono ?_;rintro e w2 ⟨rfl,hp2,hb2,hap2⟩) | (go_at_call 177;refine (HTk.out _ hp2 hb2).mono ?_;rintro e w3 ⟨rfl,hp3,hb3⟩))
   go_ret;exact ⟨hb3,rfl,hp3⟩
end Go.Proofs.YtbogmeeijdaijaaGreatDoor
