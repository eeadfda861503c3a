/- Joined: Rsg4, Rp1, Rv1, Rv2, Rp2. -/
import Derived.Test.YtbogmeeijdaijaaGreatDoorZDY
set_option linter.unusedVariables false
set_option linter.unusedSimpArgs false
set_option linter.unnecessarySimpa false
set_option maxHeartbeats 8000000
namespace Go.Proofs.YtbogmeeijdaijaaGreatDoor
open Go.Proofs.Tryz Go.RowKit
set_option maxRecDepth 20000
theorem qlm (A:Option Addr) (c:Nat) (w:World):Calls prog 170 #[.slice A 0 c] w (qh (qmc none) w):=by
 go_enter func170,ntmps170
 go_wp2;go_ret3;exact ⟨rfl,Le _ _⟩
theorem qk7 (s:ByteArray) (t:List ByteArray) (b o n c:Nat) (w:World) (hn:t.length+1=n) (hc:n<=c) (hm:c<=maxLen) (rd:Rd w w.heap.size 1 (some ⟨b,o,none⟩) n (sv (s::t))) (ht:Tb w) :
  Calls prog 170 #[.slice (some ⟨b,o,none⟩) n c] w (qh (qmc (zM (s::t))) w):=by
 have e0:((n:Int)==0)=false:=Lm.2 L0;have hn1:1<=n:=by omega
 have hcell:w.cell? ⟨b,o,none⟩=some (.string s):=by
  obtain ⟨b',o',e,_,h⟩:=rd.at_ (show 0<n by omega)
  cases e
  simpa [sv] using h
 have HT:=Lh ht;have HC:Hid (∀ w,Calls prog 183 #[.string s] w (qh (.int .i32 (qli s)) w)):=Lh fun w=>rSign s w
 unfold qli at HC
 cases hi:qdK s with
 | some i =>
  obtain ⟨hi32,rfl⟩:=qez hi;have HR:Hid (zM (nb i::t)=some ((yq i:Int),1)):=Lh (by rw [zM,hi]);rw [hi] at HC;simp only at HC;have hpos:(yq i:Int) > 0:=by have:=qlu hi32;omega
  rw [HR.out];clear hi ht rd hn hm;generalize (yq i:Int)=v at *
  generalize nb i=s at *
  go_enter func170,ntmps170
  go_wp2_with (go_at_call 183;refine (HC.out _).mono ?_;rintro e w1 ⟨rfl,hbel1⟩)
  go_ret3;exact ⟨rfl,hbel1⟩
 | none =>
  rw [hi] at HC;simp only at HC;have tc:=qbr s cB [99,104,97,114,97,99,116,101,114] rfl;have hcm:c<=9223372036854775807:=by unfold maxLen at hm;omega
  have HTl:=Lh (qmu hn hc rd);have HP:Hid (∀ w1 A',Below w.heap.size w w1->Rd w w.heap.size 1 A' (n-1) (sv t)->Calls prog 79 #[.slice A' (n-1) (c-1)] w1 (qh (ve (prefixL t)) w1)):=Lh fun w1 A' hb h =>
   j8 t A' (n-1) (c-1) w1 L0 L0 (Lj (Nat.sub_le _ _) hm) ((h.below hb).more hb.size) (HT.out.below hb)
  have Htn:=Lh hn;have HRR:Hid (zM (s::t)=if s=cB then qda (prefixL t) else none):=Lh (by rw [zM,hi]);clear hi ht rd hn hm
  by_cases c1:c=1
  ·obtain rfl:n=1:=by omega
   obtain rfl:t=[]:=List.length_eq_zero_iff.1 (by have:=Htn.out;omega);have HT1:Hid (Rd w w.heap.size 1 (some ⟨b,o,none⟩) 0 (sv [])):=Lh (by have:=HTl.out;rwa [if_pos c1] at this);subst c1;have hp0:prefixL []=none:=rfl;have HR:Hid (zM [s]=none):=Lh (by rw [HRR.out,hp0];split <;> rfl);rw [hp0] at HP;rw [HR.out];clear HTl HRR HR hp0;simp only [Nat.sub_self,ve] at HP
   by_cases hcb:s=cB
   ·have dc:(s.toList==[99,104,97,114,97,99,116,101,114])=true:=by rw [tc];simp [hcb]
    clear tc hcb
    go_enter func170,ntmps170
    go_wp2_with (first
     | (go_at_call 183;refine (HC.out _).mono ?_;rintro e w1 ⟨rfl,hbel1⟩;have hcell1:=qbk hcell hbel1)
     | (go_at_call 79;refine (HP.out _ _ hbel1 HT1.out).mono ?_;rintro e w2 ⟨rfl,hbel2⟩;have t2:=hbel1.trans (hbel2.mono hbel1.size);have hcell2:=qbk hcell t2))
    go_ret3;exact ⟨rfl,t2⟩
   ·have dc:(s.toList==[99,104,97,114,97,99,116,101,114])=false:=by rw [tc];simp [hcb]
    clear tc hcb
    go_enter func170,ntmps170
    go_wp2_with (first
     | (go_at_call 183;refine (HC.out _).mono ?_;rintro e w1 ⟨rfl,hbel1⟩;have hcell1:=qbk hcell hbel1)
     | (go_at_call 79;refine (HP.out _ _ hbel1 HT1.out).mono ?_;rintro e w2 ⟨rfl,hbel2⟩;have t2:=hbel1.trans (hbel2.mono hbel1.size);have hcell2:=qbk hcell t2))
    go_ret3;exact ⟨rfl,t2⟩
  ·have HT1:Hid (Rd w w.heap.size 1 (some ⟨b,o+1,none⟩) (n-1) (sv t)):=Lh (by have:=HTl.out;rwa [if_neg c1] at this);clear HTl
   by_cases hcb:s=cB
   ·have dc:(s.toList==[99,104,97,114,97,99,116,101,114])=true:=by rw [tc];simp [hcb]
    have HR:Hid (zM (s::t)=qda (prefixL t)):=Lh (by rw [HRR.out];exact if_pos hcb);clear tc hcb HRR
    cases hp:prefixL t with
    | none =>
     rw [hp] at HP;have HR2:Hid (zM (s::t)=none):=Lh (by rw [HR.out,hp];rfl);rw [HR2.out];clear hp;simp only [ve] at HP
     go_enter func170,ntmps170
     go_wp2_with (first
      | (go_at_call 183;refine (HC.out _).mono ?_;rintro e w1 ⟨rfl,hbel1⟩;have hcell1:=qbk hcell hbel1)
      | (go_at_call 79;refine (HP.out _ _ hbel1 HT1.out).mono ?_;rintro e w2 ⟨rfl,hbel2⟩;have t2:=hbel1.trans (hbel2.mono hbel1.size);have hcell2:=qbk hcell t2))
     go_ret3;exact ⟨rfl,t2⟩
    | some x =>
     obtain ⟨v,k⟩:=x;rw [hp] at HP;obtain ⟨k1,k2,k3,k4,k5⟩:=zF hp;obtain ⟨v1,v2,_⟩:=vp k4;have hk16:k<=15:=k3;simp only [ve] at HP;have Hpv:Hid (prefixL t=some (v,k)):=Lh hp;clear hp k4 k5 k2 k3
     by_cases hv0:v<0
     ·have HR2:Hid (zM (s::t)=none):=Lh (by rw [HR.out,Hpv.out];exact qco (by have:zC v=false:=(qed v).2 (by unfold ks;omega);simp [this]));rw [HR2.out]
      go_enter func170,ntmps170
      go_wp2_with (first
       | (go_at_call 183;refine (HC.out _).mono ?_;rintro e w1 ⟨rfl,hbel1⟩;have hcell1:=qbk hcell hbel1)
       | (go_at_call 79;refine (HP.out _ _ hbel1 HT1.out).mono ?_;rintro e w2 ⟨rfl,hbel2⟩;have t2:=hbel1.trans (hbel2.mono hbel1.size);have hcell2:=qbk hcell t2))
      go_ret3;exact ⟨rfl,t2⟩
     by_cases hv1:v > 1114111
     ·have HR2:Hid (zM (s::t)=none):=Lh (by rw [HR.out,Hpv.out];exact qco (by have:zC v=false:=(qed v).2 (by unfold ks;omega);simp [this]));rw [HR2.out]
      go_enter func170,ntmps170
      go_wp2_with (first
       | (go_at_call 183;refine (HC.out _).mono ?_;rintro e w1 ⟨rfl,hbel1⟩;have hcell1:=qbk hcell hbel1)
       | (go_at_call 79;refine (HP.out _ _ hbel1 HT1.out).mono ?_;rintro e w2 ⟨rfl,hbel2⟩;have t2:=hbel1.trans (hbel2.mono hbel1.size);have hcell2:=qbk hcell t2))
      go_ret3;exact ⟨rfl,t2⟩
     have Hw:IntKind.i32.wrap v=v:=IntWalk.i32_in _ L0;have HCH:Hid (∀ w,Calls prog 152 #[.int .i32 v] w (qh (.bool (zC v)) w)):=Lh fun w=>qhd v w
     have HSG:Hid (∀ w,Calls prog 153 #[.int .i32 v] w (qh (.bool (isS v)) w)):=Lh fun w=>rsign v w
     cases hch:zC v with
     | false =>
      have HR2:Hid (zM (s::t)=none):=Lh (by rw [HR.out,Hpv.out];exact qco (by simp [hch]));rw [hch] at HCH;rw [HR2.out];clear hch
      go_enter func170,ntmps170
      go_wp2_with (first
       | (go_at_call 183;refine (HC.out _).mono ?_;rintro e w1 ⟨rfl,hbel1⟩;have hcell1:=qbk hcell hbel1)
       | (go_at_call 79;refine (HP.out _ _ hbel1 HT1.out).mono ?_;rintro e w2 ⟨rfl,hbel2⟩;have t2:=hbel1.trans (hbel2.mono hbel1.size);have hcell2:=qbk hcell t2)
       | (go_at_call 152;refine (HCH.out _).mono ?_;rintro e w3 ⟨rfl,hbel3⟩;have t3:=t2.trans (hbel3.mono t2.size)))
      go_ret3;exact ⟨rfl,t3⟩
     | true =>
      rw [hch] at HCH;unfold isS at HSG
      cases hi:jM v with
      | some i =>
       have HR2:Hid (zM (s::t)=none):=Lh (by rw [HR.out,Hpv.out];exact qco (by simp [hi]));rw [hi] at HSG;simp only [Option.isSome] at HSG;rw [HR2.out];clear hch hi
       go_enter func170,ntmps170
       go_wp2_with (first
        | (go_at_call 183;refine (HC.out _).mono ?_;rintro e w1 ⟨rfl,hbel1⟩;have hcell1:=qbk hcell hbel1)
        | (go_at_call 79;refine (HP.out _ _ hbel1 HT1.out).mono ?_;rintro e w2 ⟨rfl,hbel2⟩;have t2:=hbel1.trans (hbel2.mono hbel1.size);have hcell2:=qbk hcell t2)
        | (go_at_call 152;refine (HCH.out _).mono ?_;rintro e w3 ⟨rfl,hbel3⟩;have t3:=t2.trans (hbel3.mono t2.size))
        | (go_at_call 153;refine (HSG.out _).mono ?_;rintro e w4 ⟨rfl,hbel4⟩;have t4:=t3.trans (hbel4.mono t3.size)))
       go_ret3;exact ⟨rfl,t4⟩
      | none =>
       have HR2:Hid (zM (s::t)=some (v,1+k)):=Lh (by rw [HR.out,Hpv.out];exact qcu ⟨hch,hi⟩);rw [hi] at HSG;simp only [Option.isSome] at HSG;rw [HR2.out];clear hch hi
       go_enter func170,ntmps170
       go_wp2_with (first
        | (go_at_call 183;refine (HC.out _).mono ?_;rintro e w1 ⟨rfl,hbel1⟩;have hcell1:=qbk hcell hbel1)
        | (go_at_call 79;refine (HP.out _ _ hbel1 HT1.out).mono ?_;rintro e w2 ⟨rfl,hbel2⟩;have t2:=hbel1.trans (hbel2.mono hbel1.size);have hcell2:=qbk hcell t2)
        | (go_at_call 152;refine (HCH.out _).mono ?_;rintro e w3 ⟨rfl,hbel3⟩;have t3:=t2.trans (hbel3.mono t2.size))
        | (go_at_call 153;refine (HSG.out _).mono ?_;rintro e w4 ⟨rfl,hbel4⟩;have t4:=t3.trans (hbel4.mono t3.size)))
       go_ret3;exact ⟨by simp [qmc],t4⟩
   ·have dc:(s.toList==[99,104,97,114,97,99,116,101,114])=false:=by rw [tc];simp [hcb]
    have HR:Hid (zM (s::t)=none):=Lh (by rw [HRR.out];exact if_neg hcb);rw [HR.out];clear tc hcb HRR HR
    cases hp:prefixL t with
    | none =>
     rw [hp] at HP;clear hp;simp only [ve] at HP
     go_enter func170,ntmps170
     go_wp2_with (first
      | (go_at_call 183;refine (HC.out _).mono ?_;rintro e w1 ⟨rfl,hbel1⟩;have hcell1:=qbk hcell hbel1)
      | (go_at_call 79;refine (HP.out _ _ hbel1 HT1.out).mono ?_;rintro e w2 ⟨rfl,hbel2⟩;have t2:=hbel1.trans (hbel2.mono hbel1.size);have hcell2:=qbk hcell t2))
     go_ret3;exact ⟨rfl,t2⟩
    | some x =>
     obtain ⟨v,k⟩:=x;rw [hp] at HP;clear hp;simp only [ve] at HP
     go_enter func170,ntmps170
     go_wp2_with (first
      | (go_at_call 183;refine (HC.out _).mono ?_;rintro e w1 ⟨rfl,hbel1⟩;have hcell1:=qbk hcell hbel1)
      | (go_at_call 79;refine (HP.out _ _ hbel1 HT1.out).mono ?_;rintro e w2 ⟨rfl,hbel2⟩;have t2:=hbel1.trans (hbel2.mono hbel1.size);have hcell2:=qbk hcell t2))
     go_ret3;exact ⟨rfl,t2⟩
theorem rlower (s:ByteArray) (hs:s.size<=1000000000) (w:World):Calls prog 169 #[.string s] w (qh (.bool (azB s)) w):=by
 have HF:Hid (azB s=(!(s.data.toList.isEmpty)&&(s.data.toList.drop 0).all azC)):=Lh rfl;have HS:Hid (∀ j (h:j<s.size),(s.data.toList.drop j).all azC=(azC s[j]&&(s.data.toList.drop (j+1)).all azC)):=Lh fun j h=>by
  rw [Ls (by simpa using h),List.all_cons]
  rfl
 have HE:Hid ((s.data.toList.drop s.size).all azC=true):=Lh (by rw [Lv L1];rfl);have HZ:Hid (s.size=0->s.toList.isEmpty=true/\s.data.toList.isEmpty=true):=Lh fun h=>by
  have:s.data.toList=[]:=List.length_eq_zero_iff.1 (by simpa using h);rw [ByteArray.toList_eq,this];exact ⟨rfl,rfl⟩
 have HY:Hid (s.size≠0->s.toList.isEmpty=false/\s.data.toList.isEmpty=false):=Lh fun h=>by
  refine ⟨jp h,?_⟩;rw [List.isEmpty_eq_false_iff];intro e;have:=congrArg List.length e;exact h (by simpa using this)
 generalize azB s=R at *
 go_enter func169,ntmps169
 go_wp2
 go_loopw [3] (fun x wr=>∃ j:Nat,j<=s.size/\x = .int .i64 j/\Below w.heap.size w wr/\Hid (R=(!(s.data.toList.isEmpty)&&(s.data.toList.drop j).all azC))) (fun x _=>s.size-(intOf x).toNat)
 case atStart=>exact ⟨0,Nat.zero_le _,rfl,Le _ _,HF⟩
 case round =>
  obtain ⟨j,hj,rfl,hbel,HR⟩:=hrel
  by_cases hlt:j<s.size
  ·have HSj:=Lh (HS.out j hlt);have hb:=UInt8.toNat_lt s[j];have hne:=(HY.out L0).2;have HN:Hid (azC s[j]=true->R=(!(s.data.toList.isEmpty)&&(s.data.toList.drop (j+1)).all azC)):=Lh fun h=>by rw [HR.out,HSj.out,h,Bool.true_and]
   have HM:Hid (azC s[j]=false->R=false):=Lh fun h=>by rw [HR.out,HSj.out,h,Bool.false_and,Bool.and_false]
   clear HR HSj HS HE HF HZ HY hne;unfold azC at HN HM;generalize hc:s[j]=c at *
   by_cases h1:c.toNat<97
   ·have i1:decide ((c.toNat:Int)<97)=true:=Ll L0;have HR2:=Lh (HM.out (by rw [Lk L0];rfl));go_wp2;go_ret;exact ⟨by rw [HR2.out];rfl,hbel⟩
   ·have i1:decide ((c.toNat:Int)<97)=false:=Lk L0
    by_cases h2:122<c.toNat
    ·have HR2:=Lh (HM.out (by rw [Ll (show 97<=c.toNat by omega),Lk L0];rfl));go_wp2;go_ret;exact ⟨by rw [HR2.out];rfl,hbel⟩
    ·have HR2:=Lh (HN.out (by rw [Ll (show 97<=c.toNat by omega),Ll (show c.toNat<=122 by omega)];rfl));go_wp2;exact ⟨⟨j+1,by omega,by go_num,hbel,HR2⟩,by simp [intOf];omega⟩
  ·obtain rfl:j=s.size:=by omega
   have HR2:=Lh (HR.out.trans (by rw [HE.out,Bool.and_true]))
   by_cases h0:s.size=0
   ·obtain ⟨e1,e2⟩:=HZ.out h0;go_wp2;go_ret;exact ⟨by rw [HR2.out,e2];rfl,hbel⟩
   ·obtain ⟨e1,e2⟩:=HY.out h0;go_wp2;go_ret;exact ⟨by rw [HR2.out,e2];rfl,hbel⟩
theorem qlP (l:List ByteArray) (A:Option Addr) (n c:Nat) (w:World) (hn:l.length=n) (hc:n<=c) (hm:c<=maxLen) (rd:Rd w w.heap.size 1 A n (sv l)) (ht:Tb w) :
  Calls prog 145 #[.slice A n c] w (qh (qmb (charW l)) w):=by
 cases l with
 | nil =>
  obtain rfl:n=0:=by simpa using hn.symm
  have HU:=Lh (qlm A c w);simp only [qmc] at HU;clear rd ht
  go_enter func145,ntmps145
  go_wp2_with (go_at_call 170;refine HU.out.mono ?_;rintro e w1 ⟨rfl,hb1⟩)
  go_ret2;exact ⟨rfl,hb1⟩
 | cons a t =>
  have hn1:0<n:=by rw [<- hn];simp
  obtain ⟨b,o,rfl,hb,hca⟩:=rd.at_ hn1;have ha:w.cell? ⟨b,o,none⟩=some (.string a):=hca;have q1:=qct (a:=a) (b:=yB) (l:=[115,112,97,99,101]) rfl;have HU:=Lh (qk7 a t b o n c w (by simpa using hn) hc hm rd ht);have hi:(0:Int)<n:=by omega
  by_cases hsp:a=yB
  ·rw [Ll hsp] at q1;rw [charW,if_pos hsp];clear rd ht hca hsp hn hm HU
   go_enter func145,ntmps145
   go_wp2;go_ret2;exact ⟨rfl,Le _ _⟩
  ·rw [Lk hsp] at q1;rw [charW,if_neg hsp];clear rd ht hca hsp hn hm
   cases hu:zM (a::t) with
   | none =>
    rw [hu] at HU;simp only [qmc] at HU;clear hu
    go_enter func145,ntmps145
    go_wp2_with (go_at_call 170;refine HU.out.mono ?_;rintro e w1 ⟨rfl,hb1⟩)
    go_ret2;exact ⟨rfl,hb1⟩
   | some x =>
    obtain ⟨r,k⟩:=x;rw [hu] at HU;simp only [qmc] at HU;clear hu
    go_enter func145,ntmps145
    go_wp2_with (go_at_call 170;refine HU.out.mono ?_;rintro e w1 ⟨rfl,hb1⟩)
    go_ret2;exact ⟨rfl,hb1⟩
theorem ql3 (s:ByteArray) (j:Nat) (hb : ∀ c∈s.data.toList,97<=c.toNat/\c.toNat<=122):(⟨((raN s j).map fun b=>UInt8.ofNat b).toArray⟩:ByteArray)=jn s j:=by
 unfold raN jn qB
 apply ByteArray.ext
 apply Array.toList_inj.1
 simp only [List.map_append,List.map_map,<- List.map_take,<- List.map_drop]
 congr 1
 ·refine List.map_congr_left fun c hc=>?_
  obtain ⟨h1,h2⟩:=hb c (List.mem_of_mem_take hc)
  show UInt8.ofNat (c.toNat-32)=upB c
  unfold upB;rw [if_pos ⟨h1,h2⟩]
  apply UInt8.toNat_inj.1
  have h3:=UInt8.toNat_sub_of_le c 32 (UInt8.le_iff_toNat_le.2 (Lj L2 h1));rw [h3,UInt8.toNat_ofNat']
  show (c.toNat-32) % 256=c.toNat-32
  omega
 ·refine (List.map_congr_left fun c hc=>?_).trans (List.map_id _)
  show UInt8.ofNat c.toNat=c
  simp
theorem qk4 (s:ByteArray) (k:Nat) (h:s.size<=k):jn s k=jn s s.size:=by
 unfold jn;have hl:s.data.toList.length=s.size:=by simp
 rw [List.take_of_length_le L0,Lv L0,List.take_of_length_le L0,Lv L0]
theorem RaS.str {w wr:World} {s:ByteArray} {j c:Nat} (h:RaS w s j wr) (hb : ∀ c∈s.data.toList,97<=c.toNat/\c.toNat<=122) :
  (convert 172 9 (.slice (some ⟨w.heap.size,0,none⟩) s.size c)).run prog wr = .ok (.string (jn s j)) wr:=by
 rw [<- ql3 s j hb];refine qgA (B:=w.heap.size+1) (l:=raN s j) ?_ (qie s j) ?_
 ·refine Rd.some_ (by rw [qlO,qie];omega) L0 fun t u hu=>?_
  have ht:t<s.size:=by
   rcases Nat.lt_or_ge t s.size with h | h
   ·exact h
   ·rw [List.getElem?_eq_none (by rw [qlO,qie];exact h)] at hu;cases hu
  rw [byV_get _ _ (by rw [qie];exact ht)] at hu;rw [Lo,(h.1 t ht).1];exact hu
 ·intro b hb';obtain ⟨i,hi,rfl⟩:=List.mem_iff_getElem.1 hb';rw [qie] at hi;have hlt:(qB s)[i]'(by rw [zT];exact hi)<256:=by
   simp only [qB,List.getElem_map];exact UInt8.toNat_lt _
  rw [qc9 s j i hi]
  split <;> omega
theorem qll (s:ByteArray) (hz:azB s=true) (hs:s.size<=1000000) (k:Nat) (hk:k<=1000000) (w:World):Calls prog 144 #[.string s,.int .i64 k] w (qh (.string (jn s k)) w):=by
 have hby:=(qcA hz).2;have HR:Hid (∀ j,(j=k∨j=s.size)->j<=k->jn s j=jn s k):=Lh fun j h hj=>by
  rcases h with rfl | rfl
  ·rfl
  ·exact (qk4 s k hj).symm
 have HStr:Hid (∀ j wr c,RaS w s j wr->(convert 172 9 (.slice (some ⟨w.heap.size,0,none⟩) s.size c)).run prog wr = .ok (.string (jn s j)) wr):=Lh fun j wr c h=>h.str hby
 have HB:Hid (∀ j (h:j<s.size),97<=(qB s)[j]'(by rw [zT];exact h)/\(qB s)[j]'(by rw [zT];exact h)<=122):=Lh fun j h=>by
  simp only [qB,List.getElem_map];exact hby _ (Lt _)
 have hcv:=run_bytes_of_string (P:=prog) w 9 172 5 s underlying9 underlying172 underlying5;have h0:=RaS.first w s;generalize w.drew.alloc (.cells (bytesRow s (grownCap w s.size 0 5)) 5 ((bytesRow s (grownCap w s.size 0 5)).size,(bytesRow s (grownCap w s.size 0 5)).size+1))=X at *
 generalize grownCap w s.size 0 5=cp at *
 generalize jn s k=RS at *
 clear hz hby
 go_enter func144,ntmps144
 go_wp2
 go_loopw [6] (fun x wr=>∃ j:Nat,j<=s.size/\j<=k/\x = .int .i64 j/\RaS w s j wr) (fun x _=>s.size-(intOf x).toNat)
 case atStart=>exact ⟨0,Nat.zero_le _,Nat.zero_le _,rfl,h0⟩
 case round =>
  clear h0 hcv;obtain ⟨j,hj,hjk,rfl,hR⟩:=hrel
  by_cases hlk:j<k
  ·by_cases hlt:j<s.size
   ·have hn:=hR.next hlt;obtain ⟨hc,hf⟩:=hR.1 j hlt;obtain ⟨b1,b2⟩:=HB.out j hlt;rw [qc9 s j j hlt,if_neg (Nat.lt_irrefl j)] at hc;generalize (qB s)[j]'(by rw [zT];exact hlt)=bj at *
    have hwb:IntKind.u8.wrap ((bj:Int)-32)=((bj-32:Nat):Int):=by rw [IntKind.wrap_u8];omega
    clear HB HStr HR;go_wp2;exact ⟨⟨j+1,by omega,by omega,by go_num,hn⟩,by simp [intOf];omega⟩
   ·obtain rfl:j=s.size:=by omega
    have hst:=HStr.out _ _ cp hR;have hR2:=Lh (HR.out _ (.inr rfl) hjk);clear HStr HB HR;go_wp2;go_ret;exact ⟨by rw [hR2.out];rfl,hR.2⟩
  ·obtain rfl:j=k:=by omega
   have hst:=HStr.out _ _ cp hR;have hR2:=Lh (HR.out _ (.inl rfl) hjk);clear HStr HB HR;go_wp2;go_ret;exact ⟨by rw [hR2.out];rfl,hR.2⟩
def vocB:List ByteArray:=(List.range 32).map wb
theorem qkj {k:Nat} (h:k<32):vocB.take (k+1)=vocB.take k++[wb k]:=by
 unfold vocB;rw [<- List.map_take,<- List.map_take,List.take_range,List.take_range,Nat.min_eq_left L0,Nat.min_eq_left L0,List.range_succ,List.map_append]
 rfl
theorem vocB_len (k:Nat) (h:k<=32):(vocB.take k).length=k:=by
 unfold vocB
 simp
 omega
theorem qcH (w:World) (ht:Tb w):Calls prog 110 #[] w (ql 9 1 id w 32 (sv vocB)):=by
 have HT:=Lh ht;have HK:Hid (∀ k,k<32->vocB.take (k+1)=vocB.take k++[wb k]):=Lh fun k h=>qkj h
 have HL:Hid (∀ k,k<=32->(vocB.take k).length=k):=Lh vocB_len;have HE:Hid (sv vocB=sv (vocB.take 28)++sv [wb 28,wb 29,wb 30,wb 31]):=Lh rfl;clear ht
 go_enter func110,ntmps110
 go_wp2
 go_loopw [1,2] (fun v x wr=>∃ (A:Option Addr) (c k:Nat),k<=20/\x = .int .i64 k/\v = .slice A k c/\wr.ownsRow w.heap.size 9 1 (.slice A k c) k (sv (vocB.take k))/\Below w.heap.size w wr) (fun _ x _=>20-(intOf x).toNat)
 case atStart=>exact ⟨_,_,0,by omega,rfl,rfl,qx (xs:=[]) rfl rfl (Ld _) (Nat.zero_le _),L5⟩
 case round =>
  obtain ⟨A,c,k,hk,rfl,rfl,hown,hbel⟩:=hrel;have zb:=hbel.size
  by_cases hlt:k<20
  ·have hc:=(HT.out.below hbel).1 k hlt;have hkk:=Lh (HK.out k L0);have hll:=Lh (HL.out (k+1) L0);generalize wb k=x at *
   generalize vocB.take k=V at *
   go_wp2_with (at_builtin;go_must (refine qg rfl _ _ _ rfl qp (w.heap.size) _ rfl ((hown.alloc _)) _ _ rfl ((qe (by first | rfl | (simp;done)) rfl)) ?_);intro A4 c4 w4 hown4 hbel4 hgr4 hat4;have z4:=hbel4.size;(try simp only [Li] at z4);(try simp only [Lo,Lg] at hown4))
   exact ⟨⟨A4,c4,k+1,by omega,by go_num,rfl,by rw [hkk.out];simpa [sv] using hown4,(hbel.alloc zb _).trans hbel4⟩,by simp [intOf];omega⟩
  ·obtain rfl:k=20:=by omega
   have e20:((20:Nat):Int)=20:=rfl;rw [e20];go_wp2
   go_loopw [1,3] (fun v x wr=>∃ (A:Option Addr) (c k:Nat),k<=8/\x = .int .i64 k/\v = .slice A (20+k) c/\wr.ownsRow w.heap.size 9 1 (.slice A (20+k) c) (20+k) (sv (vocB.take (20+k)))/\Below w.heap.size w wr) (fun _ x _=>8-(intOf x).toNat)
   case atStart=>exact ⟨A,c,0,by omega,rfl,rfl,hown,hbel⟩
   case round =>
    obtain ⟨A,c,k,hk,rfl,rfl,hown,hbel⟩:=hrel;have zb:=hbel.size
    by_cases hlt:k<8
    ·have hc:=(HT.out.below hbel).2 k hlt;have hkk:=Lh (HK.out (20+k) L0);generalize wb (20+k)=x at *
     generalize vocB.take (20+k)=V at *
     go_wp2_with (at_builtin;go_must (refine qg rfl _ _ _ rfl qp (w.heap.size) _ rfl ((hown.alloc _)) _ _ rfl ((qe (by first | rfl | (simp;done)) rfl)) ?_);intro A4 c4 w4 hown4 hbel4 hgr4 hat4;have z4:=hbel4.size;(try simp only [Li] at z4);(try simp only [Lo,Lg] at hown4))
     exact ⟨⟨A4,c4,k+1,by omega,by go_num,by rw [Nat.add_assoc],by rw [show 20+(k+1)=20+k+1 by omega,hkk.out];simpa [sv] using hown4,(hbel.alloc zb _).trans hbel4⟩,by simp [intOf];omega⟩
    ·obtain rfl:k=8:=by omega
     go_wp2_with (at_builtin;go_must (refine qg rfl _ _ _ rfl qp (w.heap.size) _ rfl ((hown.alloc _)) _ _ rfl ((qe (xs:=sv [wb 28,wb 29,wb 30,wb 31]) (by first | rfl | (simp;done)) rfl)) ?_);intro A4 c4 w4 hown4 hbel4 hgr4 hat4;have z4:=hbel4.size;(try simp only [Li] at z4);(try simp only [Lo,Lg] at hown4))
     go_ret;exact ⟨A4,c4,rfl,by rw [HE.out];exact hown4,(hbel.alloc zb _).trans hbel4⟩
end Go.Proofs.YtbogmeeijdaijaaGreatDoor
namespace Go.Proofs.YtbogmeeijdaijaaGreatDoor
open Go.Proofs.Tryz Go.RowKit
set_option maxRecDepth 100000
def qab (l:List ByteArray) (s:ByteArray):Bool:=l.any fun x=>decide (x=s)
theorem has_ (l:List ByteArray) (s:ByteArray) (A:Option Addr) (n c B:Nat) (w:World) (hn:l.length=n) (hb:n<=1000000000) (rd:Rd w B 1 A n (sv l)) :
  Calls prog 109 #[.slice A n c,.string s] w (Same (.bool (qab l s)) w):=by
 have HF:Hid (qab l s=qab (l.drop 0) s):=Lh rfl;have HN:=Lh hn;generalize qab l s=R at HF ⊢;clear hn
 go_enter func109,ntmps109
 go_wp2
 go_loop [5] (fun x=>∃ k:Nat,k<=n/\x = .int .i64 k/\Hid (R=qab (l.drop k) s)) (fun x=>n-(intOf x).toNat)
 case atStart=>exact ⟨0,Nat.zero_le _,rfl,HF⟩
 case round =>
  obtain ⟨k,hk,rfl,HR⟩:=hrel
  by_cases hlt:k<n
  ·have hkl:k<l.length:=by have:=HN.out;omega
   obtain ⟨b,o,rfl,_,hc⟩:=rd.at_ hlt;rw [yM _ _ hkl] at hc;have HD:Hid (l.drop k=l[k]::l.drop (k+1)):=Lh (Ls hkl);generalize l[k]=x at *
   by_cases he:x=s
   ·have HR2:Hid (R=true):=Lh (by rw [HR.out,HD.out];simp [qab,he]);have hq:(x.toList==s.toList)=true:=by rw [jO];simp [he]
    clear he HR HD;go_wp2;go_ret;exact ⟨by rw [HR2.out];rfl,rfl⟩
   ·have HR2:Hid (R=qab (l.drop (k+1)) s):=Lh (by rw [HR.out,HD.out];simp [qab,he]);have hq:(x.toList==s.toList)=false:=by rw [jO];simp [he]
    clear he HR HD;go_wp2;exact ⟨⟨k+1,by omega,by go_num,HR2⟩,by simp [intOf];omega⟩
  ·have HR2:Hid (R=false):=Lh (by rw [HR.out,Lv (by have:=HN.out;omega)];rfl);go_wp2;go_ret;exact ⟨by rw [HR2.out];rfl,rfl⟩
theorem qi0 (w:World):Calls prog 150 #[] w fun e w'=>e = .returned (.slice (some ⟨w.heap.size,0,none⟩) 39 39)/\w.alloc (.cells (sv ctrlL).toArray 9)=w':=by
 have e:(sv ctrlL).toArray = #[.string cB,.string zO,.string bCap,.string yi,.string vD,.string yB,.string bTimes,.string qS,.string qaO,.string vI,.string (vP 0),.string (vP 1),.string (vP 2),.string (vP 3),
 .string ⟨#[115,105,122,101]⟩,.string ⟨#[114,111,119,115]⟩,.string ⟨#[99,111,108,117,109,110,115]⟩,.string ⟨#[115,99,114,111,108,108]⟩,.string ⟨#[108,105,110,101]⟩,.string ⟨#[108,105,110,101,115]⟩,.string ⟨#[102,114,111,109]⟩,.string ⟨#[116,111]⟩,.string ⟨#[117,112]⟩,.string ⟨#[100,111,119,110]⟩,
 .string ⟨#[99,111,108,117,109,110]⟩,.string ⟨#[114,101,112,108,97,99,101]⟩,.string ⟨#[119,105,116,104]⟩,.string ⟨#[105,110,115,101,114,116]⟩,.string ⟨#[100,101,108,101,116,101]⟩,.string ⟨#[99,117,114,115,111,114]⟩,.string ⟨#[118,105,115,105,98,108,101]⟩,.string ⟨#[105,110,118,105,115,105,98,108,101]⟩,
 .string ⟨#[109,111,114,101]⟩,.string ⟨#[100,111,110,101]⟩,.string ⟨#[117,112,100,97,116,101,115]⟩,.string ⟨#[114,101,97,100,115]⟩,.string ⟨#[115,116,111,112]⟩,.string ⟨#[98,108,97,110,107]⟩,.string ⟨#[98,121]⟩]:=rfl
 rw [e]
 go_enter func150,ntmps150
 go_wp2;go_ret;exact ⟨rfl,rfl⟩
theorem qjW (s:ByteArray):jF s=(qab ctrlL s || (qab vocB s || qab ((List.range 32).map nb) s)):=by
 unfold jF qab qL vocB;rw [List.any_map,List.any_map,Bool.or_assoc]
 rfl
theorem qiS (s:ByteArray) (w:World) (ht:Tb w):Calls prog 127 #[.string s] w (qh (.bool (jF s)) w):=by
 have HC:Hid (∀ w:World,Calls prog 109 #[.slice (some ⟨w.heap.size,0,none⟩) 39 39,.string s] (w.alloc (.cells (sv ctrlL).toArray 9)) (Same (.bool (qab ctrlL s)) (w.alloc (.cells (sv ctrlL).toArray 9)))):=Lh fun w=>has_ ctrlL s _ 39 39 _ _ rfl L0 (qe (xs:=sv ctrlL) rfl rfl)
 have HV:Hid (∀ A c B w,Rd w B 1 A 32 (sv vocB)->Calls prog 109 #[.slice A 32 c,.string s] w (Same (.bool (qab vocB s)) w)):=Lh fun A c B w rd=>has_ vocB s A 32 c B w rfl L0 rd
 have HN:Hid (∀ A c B w,Rd w B 1 A 32 nmL->Calls prog 109 #[.slice A 32 c,.string s] w (Same (.bool (qab ((List.range 32).map nb) s)) w)):=Lh fun A c B w rd=>has_ ((List.range 32).map nb) s A 32 c B w rfl L0 rd
 have HT:=Lh ht;have HCo:=Lh qi0;have HVo:=Lh qcH;have HNo:=Lh rnames;rw [qjW];generalize qab ctrlL s=x1 at *
 generalize qab vocB s=x2 at *
 generalize qab ((List.range 32).map nb) s=x3 at *
 generalize (sv ctrlL).toArray=CA at *
 clear ht
 cases x1 with
 | true =>
  rw [Bool.true_or]
  go_enter func127,ntmps127
  go_wp2_with (first
   | (go_at_call 150;refine (HCo.out _).mono ?_;rintro e w1 ⟨rfl,rfl⟩)
   | (go_at_call 109;refine (HC.out _).mono ?_;rintro e w2 ⟨rfl,rfl⟩))
  go_ret;exact ⟨rfl,L5⟩
 | false =>
  rw [Bool.false_or]
  cases x2 with
  | true =>
   rw [Bool.true_or]
   go_enter func127,ntmps127
   go_wp2_with (first
    | (go_at_call 150;refine (HCo.out _).mono ?_;rintro e w1 ⟨rfl,rfl⟩)
    | (go_at_call 110;refine (HVo.out _ (HT.out.below L5)).mono ?_;rintro e w3 ⟨A3,c3,rfl,hown3,hbel3⟩)
    | ((fail_if_success have:=hown3);go_at_call 109;refine (HC.out _).mono ?_;rintro e w2 ⟨rfl,rfl⟩)
    | (go_at_call 109;refine (HV.out _ _ _ _ (Rd.of_own hown3)).mono ?_;rintro e w4 ⟨rfl,rfl⟩))
   go_ret;exact ⟨rfl,(L5).trans (hbel3.mono L1)⟩
  | false =>
   rw [Bool.false_or]
   go_enter func127,ntmps127
   go_wp2_with (first
    | (go_at_call 150;refine (HCo.out _).mono ?_;rintro e w1 ⟨rfl,rfl⟩)
    | (go_at_call 110;refine (HVo.out _ (HT.out.below L5)).mono ?_;rintro e w3 ⟨A3,c3,rfl,hown3,hbel3⟩;have t3:=((Le w.heap.size w).alloc (Ld _) _).trans (hbel3.mono L1))
    | (go_at_call 151;refine (HNo.out _).mono ?_;rintro e w5 ⟨A5,c5,rfl,hown5,hbel5⟩;have t5:=t3.trans (hbel5.mono t3.size))
    | ((fail_if_success have:=hown3);go_at_call 109;refine (HC.out _).mono ?_;rintro e w2 ⟨rfl,rfl⟩)
    | ((fail_if_success have:=hown5);go_at_call 109;refine (HV.out _ _ _ _ (Rd.of_own hown3)).mono ?_;rintro e w4 ⟨rfl,rfl⟩)
    | (go_at_call 109;refine (HN.out _ _ _ _ (Rd.of_own hown5)).mono ?_;rintro e w6 ⟨rfl,rfl⟩))
   go_ret;exact ⟨rfl,t5⟩
end Go.Proofs.YtbogmeeijdaijaaGreatDoor
namespace Go.Proofs.YtbogmeeijdaijaaGreatDoor
open Go.Proofs.Tryz Go.RowKit
set_option maxRecDepth 20000
theorem rliteral (l:List ByteArray) (A:Option Addr) (n c B:Nat) (w:World) (hsz : ∀ s∈l,s.size<=1000) (hl:l.length<=1000000) (rd:Rd w B 1 A n (sv l)) (hB:B<=w.heap.size) (ht:Tb w) :
  Calls prog 142 #[.slice A n c] w (qh (ql9 (yl l)) w):=by
 have hn:l.length=n:=by have:=rd.1;simp [sv] at this;omega
 cases l with
 | nil =>
  obtain rfl:n=0:=by simpa using hn.symm
  clear rd ht
  go_enter func142,ntmps142
  go_wp2;go_ret2;exact ⟨rfl,Le _ _⟩
 | cons a t =>
  have hn1:0<n:=by rw [<- hn];simp
  have htl:t.length+1=n:=by simpa using hn
  obtain ⟨b,o,rfl,hb,hca⟩:=rd.at_ hn1;have ha:w.cell? ⟨b,o,none⟩=some (.string a):=hca;have HCa:Hid (∀ w',Below w.heap.size w w'->w'.cell? ⟨b,o,none⟩=some (.string a)):=Lh fun w' hw=>(hw.cell (by show b<_;omega)).trans ha
  have HLow : ∀ s:ByteArray,s.size<=1000->Hid (∀ w',Below w.heap.size w w'->Calls prog 169 #[.string s] w' fun e w''=>e = .returned (.bool (azB s))/\Below w.heap.size w w''):=fun s hs=>Lh fun w' hw=>(rlower s (Lj hs L2) w').mono fun e w'' ⟨h1,h2⟩=>⟨h1,hw.trans (h2.mono hw.size)⟩
  have HPa:=HLow a (hsz a L1);have HRs:Hid (∀ w',Below w.heap.size w w'->Calls prog 127 #[.string a] w' fun e w''=>e = .returned (.bool (jF a))/\Below w.heap.size w w''):=Lh fun w' hw=>(qiS a w' (ht.below hw)).mono fun e w'' ⟨h1,h2⟩=>⟨h1,hw.trans (h2.mono hw.size)⟩
  have q1:=qct (a:=a) (b:=vD) (l:=[119,111,114,100]) rfl;have q2:=qct (a:=a) (b:=qS) (l:=[115,112,101,108,108,101,100]) rfl;have hb0:Below w.heap.size w w:=Le _ _;have hi0:(0:Int)<n:=by omega
  have hn0:((n:Int)==0)=false:=Lm.2 L0
  by_cases hw:a=vD
  ·rw [Ll hw] at q1;have hne:a≠qS:=by rw [hw];decide +kernel
   rw [Lk hne] at q2;have haz1:azB a=true:=by rw [hw];decide +kernel
   have hrs1:jF a=true:=by rw [hw];decide +kernel
   have e1:azB (t.headD ⟨#[]⟩)=false->yl (a::t)=none:=fun h=>by
    rw [yl,if_neg (by rw [h];simp),if_neg (by rw [hrs1];simp),if_neg hne]
   rw [hrs1] at HRs;rw [haz1] at HPa
   cases t with
   | nil =>
    obtain rfl:n=1:=by simpa using htl.symm
    rw [e1 L4];clear e1 hne haz1 hrs1 hsz hw hca rd HLow
    go_enter func142,ntmps142
    go_wp2_with (first
      | (go_at_call 169;with_reducible refine (HPa.out _ L3).mono ?_;rintro e w1 ⟨rfl,hb1⟩;have ha1:=HCa.out _ hb1)
      | (go_at_call 127;with_reducible refine (HRs.out _ L3).mono ?_;rintro e w2 ⟨rfl,hb2⟩;have ha2:=HCa.out _ hb2))
    go_ret2;exact ⟨rfl,by assumption⟩
   | cons d t' =>
    have hn2:1<n:=by rw [<- htl];simp
    have hi1:(1:Int)<n:=by omega
    have hcd:=rd.at_ hn2;obtain ⟨b',o',e',_,hcd⟩:=hcd;simp only [Option.some.injEq,Addr.mk.injEq,and_true] at e';obtain ⟨rfl,rfl⟩:=e';have hd:w.cell? ⟨b,o+1,none⟩=some (.string d):=hcd;have HCd:Hid (∀ w',Below w.heap.size w w'->w'.cell? ⟨b,o+1,none⟩=some (.string d)):=Lh fun w' hw=>(hw.cell (by show b<_;omega)).trans hd
    have HPd:=HLow d (hsz d L1);rw [List.headD_cons] at e1
    cases hz:azB d with
    | true =>
     have e2:yl (a::d::t')=some (d,2):=by rw [yl,List.headD_cons,if_pos ⟨hw,hz⟩]
     rw [e2];rw [hz] at HPd;clear e1 e2 hne haz1 hrs1 hsz hw hca hcd rd hz HLow
     go_enter func142,ntmps142
     go_wp2_with (first
       | (go_at_call 169;with_reducible refine (HPd.out _ L3).mono ?_;rintro e w3 ⟨rfl,hb3⟩;have ha3:=HCa.out _ hb3;have hd3:=HCd.out _ hb3)
       | (go_at_call 169;with_reducible refine (HPa.out _ L3).mono ?_;rintro e w1 ⟨rfl,hb1⟩;have ha1:=HCa.out _ hb1)
       | (go_at_call 127;with_reducible refine (HRs.out _ L3).mono ?_;rintro e w2 ⟨rfl,hb2⟩;have ha2:=HCa.out _ hb2))
     go_ret2;exact ⟨rfl,by assumption⟩
    | false =>
     rw [e1 hz];rw [hz] at HPd;clear e1 hne haz1 hrs1 hsz hw hca hcd rd hz HLow
     go_enter func142,ntmps142
     go_wp2_with (first
       | (go_at_call 169;with_reducible refine (HPd.out _ L3).mono ?_;rintro e w3 ⟨rfl,hb3⟩;have ha3:=HCa.out _ hb3;have hd3:=HCd.out _ hb3)
       | (go_at_call 169;with_reducible refine (HPa.out _ L3).mono ?_;rintro e w1 ⟨rfl,hb1⟩;have ha1:=HCa.out _ hb1)
       | (go_at_call 127;with_reducible refine (HRs.out _ L3).mono ?_;rintro e w2 ⟨rfl,hb2⟩;have ha2:=HCa.out _ hb2))
     go_ret2;exact ⟨rfl,by assumption⟩
  ·rw [Lk hw] at q1;have e1:yl (a::t)=if azB a=true/\jF a=false then some (a,1) else if a=qS then ya t else none:=if_neg fun h=>hw h.1
   by_cases hlit:azB a=true/\jF a=false
   ·rw [e1,if_pos hlit];rw [hlit.1] at HPa;rw [hlit.2] at HRs;clear e1 hlit q2 hsz hw hca rd HLow
    go_enter func142,ntmps142
    go_upto_region 1 with fail
    go_cut [20] (fun v wx=>v = .bool false/\wx=w)
    case first =>
     clear HRs HPa
     by_cases h1n:(1:Int)<n
     ·go_wp2;go_meet;exact ⟨rfl,rfl⟩
     ·go_wp2;go_meet;exact ⟨rfl,rfl⟩
    case rest =>
    obtain ⟨rfl,hwc⟩:=hcut;rw [hwc];clear hwc
    go_upto_region 3 with fail
    go_wp2_with (first
      | (go_at_call 169;with_reducible refine (HPa.out _ L3).mono ?_;rintro e w1 ⟨rfl,hb1⟩;have ha1:=HCa.out _ hb1)
      | (go_at_call 127;with_reducible refine (HRs.out _ L3).mono ?_;rintro e w2 ⟨rfl,hb2⟩;have ha2:=HCa.out _ hb2))
    go_ret2;exact ⟨rfl,by assumption⟩
   ·rw [e1,if_neg hlit];obtain ⟨RES,hRES⟩ : ∃ x,x=if a=qS then ya t else none:=⟨_,rfl⟩
    rw [<- hRES];replace hRES:=Lh hRES;have hcs:azB a=false∨(azB a=true/\jF a=true):=by
     cases h1:azB a with
     | false=>exact .inl rfl
     | true =>
      cases h2:jF a with
      | true=>exact .inr ⟨rfl,rfl⟩
      | false=>exact absurd ⟨h1,h2⟩ hlit
    have hsz':=Lh hsz;clear e1 hlit hsz hw hca
    go_enter func142,ntmps142
    go_upto_region 1 with fail
    go_cut [20] (fun v wx=>v = .bool false/\wx=w)
    case first =>
     clear HRs HPa
     by_cases h1n:(1:Int)<n
     ·go_wp2;go_meet;exact ⟨rfl,rfl⟩
     ·go_wp2;go_meet;exact ⟨rfl,rfl⟩
    case rest =>
    obtain ⟨rfl,hwc⟩:=hcut;rw [hwc];clear hwc
    go_upto_region 3 with fail
    go_cut [39] (fun v wx=>v = .bool false/\Below w.heap.size w wx)
    case first =>
     clear hsz' rd q2 HLow
     rcases hcs with hz | ⟨hz,hr⟩
     ·rw [hz] at HPa;clear hz
      go_wp2_with (first
        | (go_at_call 169;with_reducible refine (HPa.out _ L3).mono ?_;rintro e w1 ⟨rfl,hb1⟩;have ha1:=HCa.out _ hb1)
        | (go_at_call 127;with_reducible refine (HRs.out _ L3).mono ?_;rintro e w2 ⟨rfl,hb2⟩;have ha2:=HCa.out _ hb2))
      go_meet;exact ⟨rfl,by assumption⟩
     ·rw [hz] at HPa;rw [hr] at HRs;clear hz hr
      go_wp2_with (first
        | (go_at_call 169;with_reducible refine (HPa.out _ L3).mono ?_;rintro e w1 ⟨rfl,hb1⟩;have ha1:=HCa.out _ hb1)
        | (go_at_call 127;with_reducible refine (HRs.out _ L3).mono ?_;rintro e w2 ⟨rfl,hb2⟩;have ha2:=HCa.out _ hb2))
      go_meet;exact ⟨rfl,by assumption⟩
    case rest =>
     obtain ⟨wq,rfl⟩ : ∃ x:World,x=wc:=⟨_,rfl⟩
     obtain ⟨rfl,hbc⟩:=hcut;clear HPa HRs hcs;have ha1:=HCa.out _ hbc
     by_cases hsp:a=qS
     ·rw [Ll hsp] at q2;replace hRES:=Lh (hRES.out.trans (if_pos hsp));have HLt:Hid (∀ k (hk:k<t.length),t[k].size<=1000):=Lh fun k hk=>hsz'.out _ (List.mem_cons_of_mem _ (Lt hk))
      have HC:Hid (∀ k (hk:k<t.length) w',Below w.heap.size w w'->w'.cell? ⟨b,o+(k+1),none⟩=some (.string t[k])):=Lh fun k hk w' hw=>by
       obtain ⟨b',o',e',_,hcd⟩:=rd.at_ (k:=k+1) L0;simp only [Option.some.injEq,Addr.mk.injEq,and_true] at e';obtain ⟨rfl,rfl⟩:=e';refine (hw.cell (by show b<_;omega)).trans (hcd.trans ?_)
       show (sv (a::t))[k+1]? = _
       simp [sv,hk]
      have HS:Hid (∀ k (hk:k<t.length),qaM t (k+1)=qaM t k++t[k]):=Lh fun k hk=>qeD hk
      have HSt:Hid (∀ j,j<=t.length->(∀ k (hk:k<t.length),k<j->jQ t[k]=true)->(∀ hk:j<t.length,jQ t[j]=false)->ya t=if j=0 then none else if t[j]? = some qaO then some (qaM t j,j+2) else none):=Lh fun j h1 h2 h3=>qmk h1 h2 h3
      have HSz:Hid (∀ j,j<=t.length->(∀ k (hk:k<t.length),k<j->jQ t[k]=true)->(qaM t j).size=j):=Lh fun j h1 h2=>qjc h1 h2
      have HLo:=Lh HLow;rw [<- hRES.out] at HSt;clear rd hsz' hsp q1 ha HLow;have hl':t.length<=1000000:=by simp at hl;omega
      have ht':=Lh htl;clear hn hl htl HCa;go_wp2
      go_loopw [4,5] (fun y x wr=>∃ j:Nat,j<=t.length/\x = .int .i64 (j+1:Nat)/\y = .string (qaM t j)/\Below w.heap.size w wr/\Hid (∀ k (hk:k<t.length),k<j->jQ t[k]=true)) (fun _ x _=>n-(intOf x).toNat)
      case atStart=>exact ⟨0,Nat.zero_le _,rfl,rfl,hbc,Lh fun k hk h=>absurd h (Nat.not_lt_zero k)⟩
      case round =>
       clear hbc;obtain ⟨j,hj,rfl,rfl,hbel,HA⟩:=hrel;have hz:=HSz.out j hj HA.out
       by_cases hlt:j<t.length
       ·have HCx:=Lh (HC.out j hlt);have hc:=HCx.out wr hbel;have HCn:=Lh (HS.out j hlt);have hxs:=HLt.out j hlt;have HSj:=Lh (HSt.out j hj HA.out);have HAn:Hid (jQ t[j]=true->∀ k (hk:k<t.length),k<j+1->jQ t[k]=true):=Lh fun h k hk hkj=>by
         rcases Nat.lt_or_ge k j with h' | h'
         ·exact HA.out k hk h'
         ·obtain rfl:k=j:=by omega
          exact h
        have HPx:=HLo.out t[j] hxs;have hqe:=qct (a:=t[j]) (b:=qaO) (l:=[101,110,100]) rfl;have htj:t[j]? = some t[j]:=List.getElem?_eq_getElem hlt;have hjn:j+1<n:=by have:=ht'.out;omega
        have hji:(j:Int)+1<n:=by omega
        have hje:((j:Int)+1==n)=false:=Lm.2 L0
        by_cases hone:jQ t[j]=true
        ·have HA2:=Lh (HAn.out hone);have ho:=hone;unfold jQ at ho;rw [Bool.and_eq_true,decide_eq_true_eq] at ho;obtain ⟨ho1,ho2⟩:=ho;rw [ho1] at HPx;clear HSj HAn HSt hone ho1 HS HSz HC htj HLo hqe;generalize t[j]=x at *
         generalize qaM t j=CJ at *
         go_wp2_with (go_at_call 169;with_reducible refine (HPx.out _ hbel).mono ?_;rintro e w4 ⟨rfl,hbel1⟩;have hc1:=HCx.out _ hbel1)
         exact ⟨⟨j+1,by omega,by go_num,by rw [HCn.out],hbel1,HA2⟩,by simp [intOf];omega⟩
        ·have HSj2:=Lh (HSj.out (fun _=>by simpa using hone));rw [htj] at HSj2;have hone':azB t[j]=false∨(azB t[j]=true/\t[j].size≠1):=by
          cases h1:azB t[j] with
          | false=>exact .inl rfl
          | true =>
           refine .inr ⟨rfl,fun h2=>hone ?_⟩;unfold jQ;rw [h1,Ll h2]
           rfl
         have hnend:azB t[j]=false->t[j]≠qaO:=fun h e=>by rw [e] at h;exact absurd h L4
         clear HSj HAn HSt hone HS HSz HC htj HLo HCn HA;generalize t[j]=x at *
         by_cases h0:j=0
         ·have he:(qaM t j).toList.isEmpty=true:=by rw [h0,ByteArray.toList_eq];rfl
          have HR2:Hid (RES=none):=Lh (by rw [HSj2.out,if_pos h0]);clear HSj2 hqe hnend h0;generalize qaM t j=CJ at *
          rcases hone' with hz1 | ⟨hz1,hx1⟩
          ·rw [hz1] at HPx;clear hz1
           go_wp2_with (go_at_call 169;with_reducible refine (HPx.out _ hbel).mono ?_;rintro e w4 ⟨rfl,hbel1⟩;have hc1:=HCx.out _ hbel1)
           go_ret2;exact ⟨by rw [HR2.out];rfl,hbel1⟩
          ·rw [hz1] at HPx;have hx1':((x.size:Int)==1)=false:=Lm.2 L0;clear hz1
           go_wp2_with (go_at_call 169;with_reducible refine (HPx.out _ hbel).mono ?_;rintro e w4 ⟨rfl,hbel1⟩;have hc1:=HCx.out _ hbel1)
           go_ret2;exact ⟨by rw [HR2.out];rfl,hbel1⟩
         ·have he:(qaM t j).toList.isEmpty=false:=jp L0;rw [if_neg h0] at HSj2
          rcases hone' with hz1 | ⟨hz1,hx1⟩
          ·have hne:=hnend hz1;have HR2:Hid (RES=none):=Lh (by rw [HSj2.out,if_neg (fun e=>hne (by injection e))]);rw [Lk hne] at hqe;rw [hz1] at HPx;clear HSj2 hne hnend h0 hz1;generalize qaM t j=CJ at *
           go_wp2_with (go_at_call 169;with_reducible refine (HPx.out _ hbel).mono ?_;rintro e w4 ⟨rfl,hbel1⟩;have hc1:=HCx.out _ hbel1)
           go_ret2;exact ⟨by rw [HR2.out];rfl,hbel1⟩
          ·have hx1':((x.size:Int)==1)=false:=Lm.2 L0;rw [hz1] at HPx
           by_cases hend:x=qaO
           ·have HR2:Hid (RES=some (qaM t j,j+2)):=Lh (by rw [HSj2.out,if_pos (by rw [hend])]);rw [Ll hend] at hqe;clear HSj2 hnend h0 hz1 hend;generalize qaM t j=CJ at *
            go_wp2_with (go_at_call 169;with_reducible refine (HPx.out _ hbel).mono ?_;rintro e w4 ⟨rfl,hbel1⟩;have hc1:=HCx.out _ hbel1)
            go_ret2;exact ⟨by rw [HR2.out];show Ending.returned (.tuple #[.string CJ,.int .i64 ((j:Int)+1+1)]) = .returned (.tuple #[.string CJ,.int .i64 ((j+2:Nat):Int)]);rw [show ((j+2:Nat):Int)=(j:Int)+1+1 by omega],hbel1⟩
           ·have HR2:Hid (RES=none):=Lh (by rw [HSj2.out,if_neg (fun e=>hend (by injection e))]);rw [Lk hend] at hqe;clear HSj2 hnend h0 hz1 hend;generalize qaM t j=CJ at *
            go_wp2_with (go_at_call 169;with_reducible refine (HPx.out _ hbel).mono ?_;rintro e w4 ⟨rfl,hbel1⟩;have hc1:=HCx.out _ hbel1)
            go_ret2;exact ⟨by rw [HR2.out];rfl,hbel1⟩
       ·obtain rfl:j=t.length:=by omega
        have hjn : ¬ t.length+1<n:=by have:=ht'.out;omega
        have hji : ¬ (t.length:Int)+1<n:=by omega
        have hje:((t.length:Int)+1==n)=true:=beq_iff_eq.2 (by have:=ht'.out;omega)
        have HR2:Hid (RES=none):=Lh (by
         rw [HSt.out t.length (Ld _) HA.out (fun hk=>absurd hk (Nat.lt_irrefl _))]
         split
         ·rfl
         ·rw [List.getElem?_eq_none (Ld _),if_neg L1])
        by_cases h0:t.length=0
        ·have he:(qaM t t.length).toList.isEmpty=true:=by
          have:qaM t t.length=⟨#[]⟩:=by rw [h0];rfl
          rw [this,ByteArray.toList_eq];rfl
         clear HSt HS HSz HC HA HLt HLo;generalize qaM t t.length=CJ at *
         go_wp2;go_ret2;exact ⟨by rw [HR2.out];rfl,hbel⟩
        ·have he:(qaM t t.length).toList.isEmpty=false:=jp L0;clear HSt HS HSz HC HA HLt HLo;generalize qaM t t.length=CJ at *
         go_wp2;go_ret2;exact ⟨by rw [HR2.out];rfl,hbel⟩
     ·rw [Lk hsp] at q2;replace hRES:=Lh (hRES.out.trans (if_neg hsp));clear rd hsz' hsp q1 ha HLow;go_wp2;go_ret2;exact ⟨by rw [hRES.out];rfl,hbc⟩
end Go.Proofs.YtbogmeeijdaijaaGreatDoor
