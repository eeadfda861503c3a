/- Joined: Rn3, Rn4, Ch3, Rn5, Rn6, Rn7, Gl1, Kd2. -/
import Derived.Test.YtbogmeeijdaijaaGreatDoorZAE
import Derived.Test.YtbogmeeijdaijaaGreatDoorYDW
set_option linter.unusedVariables false
set_option linter.unusedSimpArgs false
set_option linter.unnecessarySimpa false
set_option maxHeartbeats 4000000
namespace Go.Proofs.YtbogmeeijdaijaaGreatDoor
open Go.Proofs.Tryz Go.RowKit
set_option maxRecDepth 20000
def lenV:Value->Nat
 | .slice _ n _=>n
 | _=>0
theorem qdv (A:Option Addr) (n m c:Nat):(Value.slice A n c).ownBlock=(Value.slice A m c).ownBlock:=by cases A <;> rfl
theorem qa8 {w:World} {base size n:Nat} {e:TypeId} {v:Value} {xs:List Value} (h:w.ownsRow base e size v n xs) : ∀ k,v.ownBlock=some k->k<w.heap.size:=fun k hk=>(h.lt k hk).2
theorem qba:Elt prog 172 5 (.int .u8 0) 1 1 where
 und:=underlying172
 row:=by
  have h:(prog.info? 5).map (fun i=>(i.zero,i.size,i.bytes))=some (some (.int .u8 0),1,1):=by kernel_rfl
  obtain ⟨i,hi,a,b,c⟩:=info_parts h;exact ⟨i,hi,a,b,c⟩
 zs:=rfl
 pos:=by decide
theorem qeS {w:World} {base c x:Nat} {A:Option Addr} {e:TypeId} {outs:List Nat} {v:Int} (h:w.ownsRow base e 1 (.slice A (outs.length+1) c) (outs.length+1) (byV outs++[.int .u8 v])) (hv:(x:Int)=v) :
  w.ownsRow base e 1 (.slice A (outs++[x]).length c) (outs++[x]).length (byV (outs++[x])):=by
 rw [qh9,Lf,Lz];subst hv;exact h
theorem KeptU.lt_ {K:List Nat} {s:US} (h:KeptU K s) : ∀ b∈K,b<256:=by
 rcases h with ⟨_,rfl⟩ | ⟨_,b0,rest,rfl,hb,_,_,_,_,hx⟩
 ·intro b hb;cases hb
 ·intro b hb2
  rcases List.mem_cons.1 hb2 with rfl | h
  ·exact hb
  ·have:=hx b h;omega
theorem KeptU.nil_iff {K:List Nat} {s:US} (h:KeptU K s):K=[]↔s.m=0:=by
 rcases h with ⟨h0,rfl⟩ | ⟨h0,b0,rest,rfl,_⟩
 ·simp [h0]
 ·simp;omega
theorem qgA {w:World} {B n c:Nat} {A:Option Addr} {l:List Nat} (rd:Rd w B 1 A n (byV l)) (hn:l.length=n) (hl : ∀ b∈l,b<256) :
  (convert 172 9 (.slice A n c)).run prog w = .ok (.string ⟨(l.map fun b=>UInt8.ofNat b).toArray⟩) w:=by
 rcases Nat.eq_zero_or_pos n with h0 | h0
 ·subst h0;obtain rfl:=List.eq_nil_of_length_eq_zero hn
  cases A with
  | none=>exact run_convert_bytes_nil (P:=prog) w _ _ underlying172 underlying5 0 c _ underlying9
  | some a=>exact run_convert_bytes_back (P:=prog) w _ _ _ a c [] underlying172 underlying5 underlying9 (fun j hj=>absurd hj (Nat.not_lt_zero j))
 ·exact qgb rd hn h0 hl
def DecP (L:List Nat) (pend:Prop) (w:World) (en:Ending) (w':World):Prop :=
 ∃ A c rest,en = .returned (.tuple #[.slice A L.length c,.string rest])/\w'.ownsRow w.heap.size 21 1 (.slice A L.length c) L.length (chV L)/\Below w.heap.size w w'/\(rest=⟨#[]⟩↔pend)
def DecR (w:World) (t:ByteArray) (F:US × List Nat) (v u x:Value) (wr:World):Prop :=
 ∃ (A A':Option Addr) (c c' k:Nat) (s:US) (outs K:List Nat),k<=t.size/\x = .int .i64 k/\v = .slice A outs.length c/\u = .slice A' K.length c' /\
  wr.ownsRow w.heap.size 21 1 (.slice A outs.length c) outs.length (chV outs)/\wr.ownsRow w.heap.size 5 1 (.slice A' K.length c') K.length (byV K)/\Dj (Value.slice A outs.length c).ownBlock (Value.slice A' K.length c').ownBlock /\
  Below w.heap.size w wr/\KeptU K s/\zJ ((qB t).drop k) (s,outs)=F/\outs.length+K.length<=k
theorem qiF (t:ByteArray) (ht:t.size<=1000000000) (w:World) :
  Calls prog 126 #[.string ⟨#[]⟩,.string t] w (DecP (qs (qB t)) ((zJ (qB t) (u0,[])).1.m=0) w):=by
 have HF:Hid (zJ ((qB t).drop 0) (u0,[])=zJ (qB t) (u0,[])):=Lh rfl;unfold qs;generalize zJ (qB t) (u0,[])=F at *
 have HN:Hid ((qB t).length=t.size):=Lh (zT t)
 go_enter func126,ntmps126
 go_wp2;have e0:(⟨#[]⟩++t:ByteArray)=t:=ByteArray.ext (by rw [ByteArray.data_append];simp);simp only [e0]
 go_loopw [7,8,9] (fun v u x wr=>DecR w t F v u x wr) (fun _ u x _=>2 * (t.size-(intOf x).toNat)+lenV u)
 case atStart=>exact ⟨_,_,_,_,0,u0,[],[],Nat.zero_le _,rfl,rfl,rfl,(qx (xs:=[]) rfl rfl (Ld _) (Nat.zero_le _)).alloc _,qx (xs:=[]) L1 rfl L0 (Nat.zero_le _),(fun k h1 h2=>by
  simp only [Value.ownBlock,Option.some.injEq] at h1 h2
  omega),(L5).alloc L1 _,qgz,HF.out,by simp⟩
 case round =>
  obtain ⟨A,A',c,c',k,⟨sv,sm,slo,shi⟩,outs,K,hk,rfl,rfl,rfl,hown,hownK,hdj,hbel,HK,HR,hle⟩:=hrel;replace HK:=Lh HK;replace HR:=Lh HR
  by_cases hlt:k<t.size
  ·have HD:Hid ((qB t).drop k=(t[k]'hlt).toNat::(qB t).drop (k+1)):=Lh (by rw [Ls (by rw [HN.out];exact hlt),qdL t k hlt];congr 2;exact getElem!_pos t.data k hlt);have hbl:(t[k]'hlt).toNat<256:=UInt8.toNat_lt _
   go_upto_region 7 with fail
   generalize (t[k]'hlt).toNat=b at *
   have zb:=hbel.size;have hne1:=qa8 hown;have hne2:=qa8 hownK
   rcases Nat.eq_zero_or_pos sm with hm | hm
   ·have hKn:K=[]:=by
     rcases HK.out with ⟨_,h⟩ | ⟨h,_⟩
     ·exact h
     ·have:sm=0:=hm;exact absurd h (by show ¬ 0<sm;omega)
    subst hKn;subst hm;rw [List.length_nil] at hownK hdj hle;have HL1:Hid (∀ w:World,Calls prog 148 #[.slice (some ⟨w.heap.size,0,none⟩) 1 1] (w.alloc (.cells #[.int .u8 (b:Int)] 5)) (Same (limV (limU [b])) (w.alloc (.cells #[.int .u8 (b:Int)] 5)))):=Lh fun w=>qcZ b [] hbl _ 1 1 (w.heap.size+1) _ rfl L0 (qe (xs:=byV [b]) rfl rfl)
    obtain ⟨z,hz0,hz1,HL2⟩ : ∃ z:Nat,((zt b).m=0->z=0)/\((zt b).m≠0->0<z)/\limU [b]=((zt b).lo,(zt b).hi,z):=by
     refine ⟨if (zt b).m=0 then 0 else (zt b).m+1,fun h=>by rw [if_pos h],fun h=>by rw [if_neg h];omega,rfl⟩
    rw [HL2] at HL1;simp only [limV] at HL1
    by_cases h128:b<128
    ·have hm0:(zt b).m=0:=qgy L0;have HS:=Lh (run_asc HR.out HD.out rfl h128);have HKu:Hid (KeptU [] (zt b)):=Lh (.inl ⟨hm0,rfl⟩);clear hz0 hz1 hm0 HK HR HD HL2;generalize zt b=Z at *
     go_wp2_with (first
      | (go_at_call 148;refine (HL1.out _).mono ?_;rintro e w3 ⟨rfl,rfl⟩)
      | (at_builtin;go_must (refine qg rfl _ _ _ rfl qdd (w.heap.size) _ rfl (((hown.alloc _).alloc _)) _ _ rfl ((qe (by first | rfl | (simp;done)) rfl)) ?_);intro A4 c4 w4 hown4 hbel4 hgr4 hat4;have z4:=hbel4.size;(try simp only [Li] at z4);(try simp only [Lo,Lg] at hown4)))
     exact ⟨⟨A4,A',c4,c',k+1,Z,outs++[b],[],by omega,by go_num,by rw [Lf];rfl,rfl,qca hown4 rfl,((hownK.alloc _).alloc _).kept hgr4 hdj.symm.ne,(by rw [qdv A4 _ (outs.length+1) c4];exact (Dj.new hdj.symm hat4 (qa8 ((hownK.alloc _).alloc _))).symm),((hbel.alloc zb _).alloc (by simp;omega) _).trans hbel4,HKu.out,HS.out,by rw [Lf,Lz];simp;omega⟩,by simp [intOf,lenV];omega⟩
    ·by_cases hz:(zt b).m=0
     ·have HS:=Lh (run_bad HR.out HD.out rfl h128 hz);have HKu:Hid (KeptU [] (zt b)):=Lh (.inl ⟨hz,rfl⟩);obtain rfl:=hz0 hz;clear hz0 hz1 hz HK HR HD HL2;generalize zt b=Z at *
      go_wp2_with (first
       | (go_at_call 148;refine (HL1.out _).mono ?_;rintro e w3 ⟨rfl,rfl⟩)
       | (at_builtin;go_must (refine qg rfl _ _ _ rfl qdd (w.heap.size) _ rfl (((hown.alloc _).alloc _)) _ _ rfl ((qe (by first | rfl | (simp;done)) rfl)) ?_);intro A4 c4 w4 hown4 hbel4 hgr4 hat4;have z4:=hbel4.size;(try simp only [Li] at z4);(try simp only [Lo,Lg] at hown4)))
      exact ⟨⟨A4,A',c4,c',k+1,Z,outs++[65533],[],by omega,by go_num,by rw [Lf];rfl,rfl,qca hown4 rfl,((hownK.alloc _).alloc _).kept hgr4 hdj.symm.ne,(by rw [qdv A4 _ (outs.length+1) c4];exact (Dj.new hdj.symm hat4 (qa8 ((hownK.alloc _).alloc _))).symm),((hbel.alloc zb _).alloc (by simp;omega) _).trans hbel4,HKu.out,HS.out,by rw [Lf,Lz];simp;omega⟩,by simp [intOf,lenV];omega⟩
     ·have HS:=Lh (run_lead HR.out HD.out rfl h128 hz);have HKu:Hid (KeptU [b] (zt b)):=Lh (KeptU.beg hbl hz);have hzp:=hz1 hz;clear hz0 hz1 hz HK HR HD HL2;generalize zt b=Z at *
      go_wp2_with (first
       | (go_at_call 148;refine (HL1.out _).mono ?_;rintro e w3 ⟨rfl,rfl⟩)
       | (at_builtin;go_must (refine qg rfl _ _ _ rfl qba (w.heap.size) _ rfl (((hownK.alloc _).alloc _)) _ _ rfl ((qe (by first | rfl | (simp;done)) rfl)) ?_);intro A4 c4 w4 hown4 hbel4 hgr4 hat4;have z4:=hbel4.size;(try simp only [Li] at z4);(try simp only [Lo,Lg] at hown4)))
      exact ⟨⟨A,A4,c,c4,k+1,Z,outs,[b],by omega,by go_num,rfl,rfl,((hown.alloc _).alloc _).kept hgr4 hdj.ne,hown4,Dj.new hdj hat4 (qa8 ((hown.alloc _).alloc _)),((hbel.alloc zb _).alloc (by simp;omega) _).trans hbel4,HKu.out,HS.out,by simp;omega⟩,by simp [intOf,lenV];omega⟩
   ·have hm':0<sm:=hm;have HLim:=Lh (HK.out.lim hm);obtain ⟨b0,rest,hK,hb0⟩ : ∃ b0 rest,K=b0::rest/\b0<256:=by
     rcases HK.out with ⟨h,_⟩ | ⟨_,b0,rest,h1,h2,_⟩
     ·have:sm=0:=h
      omega
     ·exact ⟨b0,rest,h1,h2⟩
    have hKl:0<K.length:=by rw [hK];simp
    have HL1:Hid (∀ (w:World) (B:Nat) (A:Option Addr) (c:Nat),Rd w B 1 A K.length (byV K)->Calls prog 148 #[.slice A K.length c] w (Same (limV (slo,shi,K.length+sm)) w)):=Lh fun w B A c rd=>by
     have h:=HLim.out;have h2:=qcZ b0 rest hb0 A K.length c B w (by rw [hK];rfl) L0 (by rw [<- hK];exact rd);rw [<- hK,h] at h2;exact h2
    simp only [limV] at HL1;clear HLim hK
    by_cases hin:slo<=b/\b<=shi
    ·have HKs:Hid (1<sm->KeptU (K++[b]) ⟨sv * 64+b % 64,sm-1,0x80,0xBF⟩):=Lh fun h=>HK.out.snoc h hin.1 hin.2
     have HKw:Hid (sm=1->_):=Lh fun (h:sm=1)=>HK.out.whole h hin.1 hin.2
     have HRn:Hid (sm≠1->zJ ((qB t).drop (k+1)) (⟨sv * 64+b % 64,sm-1,128,191⟩,outs)=F):=Lh fun h=>run_on HR.out HD.out hm' hin.1 hin.2 h
     have HRl:Hid (sm=1->zJ ((qB t).drop (k+1)) (⟨sv * 64+b % 64,0,128,191⟩,outs++[sv * 64+b % 64])=F):=Lh fun h=>by
      subst h;exact run_last HR.out HD.out hin.1 hin.2
     obtain ⟨hi1,hi2⟩:=hin
     by_cases h1:sm=1
     ·have HS:=Lh (HRl.out h1);have HVal:Hid (∀ (A:Option Addr) (c B:Nat) (w:World),Rd w B 1 A (K++[b]).length (byV (K++[b]))->Calls prog 149 #[.slice A (K.length+1) c] w (Same (.int .i32 ((sv * 64+b % 64:Nat):Int)) w)):=Lh fun A c B w rd=>by
       obtain ⟨hv,b1,rest1,e1,hb1,hm1,hp1,hx1⟩:=HKw.out h1;have hl1:rest1.length+1=(K++[b]).length:=by rw [e1];rfl
       rw [e1] at rd hv;have h:=value_ b1 rest1 hb1 hm1 hp1 hx1 A (rest1.length+1) c B w rfl (by rw [show (b1::rest1).length=rest1.length+1 from rfl] at rd;exact rd);rw [hl1,Lf,Lz] at h;rw [hv] at h;exact h
      subst h1;clear HRn HRl HKw HKs HK HR HD;have zz:(((K.length:Int)+1)==((K.length+1:Nat):Int))=true:=beq_iff_eq.2 L0
      go_upto_region 22 with (first
       | (go_at_call 148;refine (HL1.out _ _ _ _ (Rd.of_own hownK)).mono ?_;rintro e w3 ⟨rfl,rfl⟩)
       | (at_builtin;go_must (refine qg rfl _ _ _ rfl qba (w.heap.size) _ rfl ((hownK.alloc _)) _ _ rfl ((qe (by first | rfl | (simp;done)) rfl)) ?_);intro A4 c4 w4 hown4 hbel4 hgr4 hat4;have z4:=hbel4.size;(try simp only [Li] at z4);(try simp only [Lo,Lg] at hown4)))
      have HO:=(hown.alloc (Obj.cells #[Value.int IntKind.u8 (b:Int)] 5)).kept hgr4 hdj.ne;have HB4:=(hbel.alloc zb (Obj.cells #[Value.int IntKind.u8 (b:Int)] 5)).trans hbel4;have HV4:=Lh (HVal.out A4 c4 _ w4 (Rd.of_own (qeS hown4 rfl)));have zw:=HB4.size;clear hgr4 hat4 hbel4 hown4 hown hownK hdj HVal HL1;generalize sv * 64+b % 64=X at *
      go_wp2_with (first
       | (go_at_call 149;refine HV4.out.mono ?_;rintro e w6 ⟨rfl,rfl⟩)
       | (at_builtin;go_must (refine qg rfl _ _ _ rfl qdd (w.heap.size) _ rfl ((HO.alloc _)) _ _ rfl ((qe (by first | rfl | (simp;done)) rfl)) ?_);intro A5 c5 w5 hown5 hbel5 hgr5 hat5;have z5:=hbel5.size;(try simp only [Li] at z5);(try simp only [Lo,Lg] at hown5)))
      exact ⟨⟨A5,_,c5,_,k+1,⟨X,0,128,191⟩,outs++[X],[],by omega,by go_num,by rw [Lf];rfl,rfl,(qca hown5 rfl).alloc _,qx (xs:=[]) rfl rfl L0 (Nat.zero_le _),by
       rw [qdv A5 _ (outs.length+1) c5];intro q q1 q2;have:=qa8 hown5 q q1;simp only [Value.ownBlock,Option.some.injEq] at q2
       omega,((HB4.alloc zw _).trans hbel5).alloc L0 _,.inl ⟨rfl,rfl⟩,HS.out,by rw [Lf,Lz];simp;omega⟩,by simp [intOf,lenV];omega⟩
     ·have HS:=Lh (HRn.out h1);have HKu:=Lh (HKs.out L0);clear HRn HRl HKw HKs HK HR HD;have zz:(((K.length:Int)+1)==((K.length+sm:Nat):Int))=false:=Lm.2 L0
      go_wp2_with (first
       | (go_at_call 148;refine (HL1.out _ _ _ _ (Rd.of_own hownK)).mono ?_;rintro e w3 ⟨rfl,rfl⟩)
       | (at_builtin;go_must (refine qg rfl _ _ _ rfl qba (w.heap.size) _ rfl ((hownK.alloc _)) _ _ rfl ((qe (by first | rfl | (simp;done)) rfl)) ?_);intro A4 c4 w4 hown4 hbel4 hgr4 hat4;have z4:=hbel4.size;(try simp only [Li] at z4);(try simp only [Lo,Lg] at hown4)))
      exact ⟨⟨A,A4,c,c4,k+1,⟨sv * 64+b % 64,sm-1,128,191⟩,outs,K++[b],by omega,by go_num,rfl,by rw [Lf];rfl,(hown.alloc _).kept hgr4 hdj.ne,qeS hown4 rfl,by rw [qdv A4 _ (K.length+1) c4];exact Dj.new hdj hat4 (qa8 (hown.alloc _)),(hbel.alloc zb _).trans hbel4,HKu.out,HS.out,by rw [Lf,Lz];omega⟩,by simp [intOf,lenV];omega⟩
    ·have HS:=Lh (run_back HR.out HD.out hm' hin);clear HK HR HD;have hin2 : ¬ slo<=b∨(slo<=b/\¬ b<=shi):=by omega
     clear hin
     rcases hin2 with hin | ⟨hin,hin2⟩ <;>
     ·go_wp2_with (first
       | (go_at_call 148;refine (HL1.out _ _ _ _ (Rd.of_own hownK)).mono ?_;rintro e w3 ⟨rfl,rfl⟩)
       | (at_builtin;go_must (refine qg rfl _ _ _ rfl qdd (w.heap.size) _ rfl ((hown.alloc _)) _ _ rfl ((qe (by first | rfl | (simp;done)) rfl)) ?_);intro A4 c4 w4 hown4 hbel4 hgr4 hat4;have z4:=hbel4.size;(try simp only [Li] at z4);(try simp only [Lo,Lg] at hown4)))
      exact ⟨⟨A4,_,c4,_,k,u0,outs++[65533],[],by omega,rfl,by rw [Lf];rfl,rfl,(qca hown4 rfl).alloc _,qx (xs:=[]) rfl rfl (by have:=hbel4.size;simp at this;omega) (Nat.zero_le _),by
       rw [qdv A4 _ (outs.length+1) c4];intro q q1 q2;have:=qa8 hown4 q q1;simp only [Value.ownBlock,Option.some.injEq] at q2
       omega,((hbel.alloc zb _).trans hbel4).alloc (by have:=hbel4.size;simp at this;omega) _,qgz,HS.out,by rw [Lf,Lz];simp;omega⟩,by simp [intOf,lenV];omega⟩
  ·obtain rfl:k=t.size:=by omega
   have HF2:Hid (F=(⟨sv,sm,slo,shi⟩,outs)):=Lh (by rw [<- HR.out,Lv (by rw [HN.out];exact Ld _)];rfl);have HCv : ∀ m,(convert 172 9 (.slice A' K.length c')).run prog (wr.drewN m) = .ok (.string ⟨(K.map fun b=>UInt8.ofNat b).toArray⟩) (wr.drewN m):=fun m=>qgA (Rd.keep (Rd.of_own hownK) fun _ _=>rfl) rfl HK.out.lt_
   have HCd:(convert 172 9 (.slice A' K.length c')).run prog wr.drew = .ok (.string ⟨(K.map fun b=>UInt8.ofNat b).toArray⟩) wr.drew:=HCv 1
   have HNil:Hid ((⟨(K.map fun b=>UInt8.ofNat b).toArray⟩:ByteArray)=⟨#[]⟩↔F.1.m=0):=Lh (by
    rw [HF2.out,<- HK.out.nil_iff]
    constructor
    ·intro h;have:=congrArg (fun x:ByteArray=>x.data.size) h
     simpa using this
    ·rintro rfl;rfl)
   have HO:=Lh hown;have e1:F.2=outs:=by rw [HF2.out]
   clear HF2 HR HK;generalize (⟨(K.map fun b=>UInt8.ofNat b).toArray⟩:ByteArray)=REST at *
   go_wp2
   go_quiet (fail)
   go_wp2;go_ret2;rw [e1];exact ⟨A,c,REST,rfl,qb HO.out (qf (Le _ _)),qf hbel,HNil.out⟩
end Go.Proofs.YtbogmeeijdaijaaGreatDoor
namespace Go.Proofs.YtbogmeeijdaijaaGreatDoor
open Go.Proofs.Tryz Go.RowKit
set_option maxRecDepth 100000
theorem qjC {rs:List Nat} {k:Nat} (h:k<rs.length):zm (rs.take (k+1))=zm (rs.take k)++vQ rs[k]:=by
 have e:rs.take (k+1)=rs.take k++[rs[k]]:=(List.take_append_getElem h).symm;rw [zm,zm,e,List.flatMap_append];simp only [List.flatMap_cons,List.flatMap_nil,List.append_nil]
theorem qa5 {w:World} {base c n:Nat} {A:Option Addr} {e:TypeId} {outs l:List Nat} {vs:List Value} (h:w.ownsRow base e 1 (.slice A n c) n (byV outs++vs)) (hv:byV l=vs) (hn:n=(outs++l).length) :
  w.ownsRow base e 1 (.slice A (outs++l).length c) (outs++l).length (byV (outs++l)):=by
 subst hv hn;rw [qh9];exact h
theorem rencode (rs:List Nat) (hr : ∀ r∈rs,qR r) (A:Option Addr) (n c B:Nat) (w:World) (hn:rs.length=n) (hb:n<=4000000000) (rd:Rd w B 1 A n (chV rs)) (hB:B<=w.heap.size) :
  Calls prog 129 #[.slice A n c] w (qh (.string (yI rs)) w):=by
 have HN:=Lh hn;have HC:Hid (∀ k (h:k<rs.length),qR rs[k]):=Lh fun k h=>hr _ (Lt h)
 have HT:Hid (∀ k (h:k<rs.length),zm (rs.take (k+1))=zm (rs.take k)++vQ rs[k]):=Lh fun k h=>qjC h
 have HL:Hid (∀ k,(zm (rs.take k)).length<=4 * k):=Lh fun k=>by
  have:=qf8 (rs.take k);rw [Lu] at this
  omega
 have HE:Hid (∀ A c w,Rd w w.heap.size 1 A (zm rs).length (byV (zm rs))->(convert 172 9 (.slice A (zm rs).length c)).run prog w = .ok (.string (yI rs)) w):=Lh fun A c w rd=>qgA rd rfl (qfl hr)
 generalize yI rs=R at *
 clear hn
 go_enter func129,ntmps129
 go_wp2
 go_loopw [3,4] (fun v x wr=>∃ (A':Option Addr) (c' k:Nat),k<=n/\x = .int .i64 k/\v = .slice A' (zm (rs.take k)).length c'/\wr.ownsRow w.heap.size 5 1 (.slice A' (zm (rs.take k)).length c') (zm (rs.take k)).length (byV (zm (rs.take k)))/\Below w.heap.size w wr) (fun _ x _=>n-(intOf x).toNat)
 case atStart=>exact ⟨_,_,0,Nat.zero_le _,rfl,rfl,qx (xs:=[]) rfl rfl (Ld _) (Nat.zero_le _),L5⟩
 case round =>
  obtain ⟨A',c',k,hk,rfl,rfl,hown,hbel⟩:=hrel
  by_cases hlt:k<n
  ·have hkl:k<rs.length:=by have:=HN.out;omega
   obtain ⟨b,o,rfl,hbB,hc⟩:=(rd.keep (w':=wr) fun p hp=>hbel.cell L0).at_ hlt;rw [qft _ _ hkl] at hc;have hch:=HC.out k hkl;have HTk:=Lh (HT.out k hkl);have hlk:=HL.out k;have zb:=hbel.size;generalize rs[k]=r at *
   generalize zm (rs.take k)=E at *
   unfold qR at hch
   by_cases h1:r<128
   ·have HEn:Hid (vQ r=[r]):=Lh (by rw [vQ,if_pos h1])
    go_wp2_with (at_builtin;go_must (refine qg rfl _ _ _ rfl qba (w.heap.size) _ rfl ((hown.alloc _)) _ _ rfl ((qe (by first | rfl | (simp;done)) rfl)) ?_);intro A4 c4 w4 hown4 hbel4 hgr4 hat4;have z4:=hbel4.size;(try simp only [Li] at z4);(try simp only [Lo,Lg] at hown4))
    exact ⟨⟨A4,c4,k+1,by omega,by go_num,by rw [HTk.out,HEn.out,Lf];rfl,by rw [HTk.out];exact qa5 hown4 (by rw [HEn.out];simp [byV]) (by rw [HEn.out];simp),(hbel.alloc zb _).trans hbel4⟩,by simp [intOf];omega⟩
   ·by_cases h2:r<2048
    ·have HEn:Hid (vQ r=[0xC0+r / 64,0x80+r % 64]):=Lh (by rw [vQ,if_neg h1,if_pos h2])
     go_wp2_with (at_builtin;go_must (refine qg rfl _ _ _ rfl qba (w.heap.size) _ rfl ((hown.alloc _)) _ _ rfl ((qe (by first | rfl | (simp;done)) rfl)) ?_);intro A4 c4 w4 hown4 hbel4 hgr4 hat4;have z4:=hbel4.size;(try simp only [Li] at z4);(try simp only [Lo,Lg] at hown4))
     exact ⟨⟨A4,c4,k+1,by omega,by go_num,by rw [HTk.out,HEn.out,Lf];rfl,by rw [HTk.out];exact qa5 hown4 (by rw [HEn.out];simp [byV]) (by rw [HEn.out];simp),(hbel.alloc zb _).trans hbel4⟩,by simp [intOf];omega⟩
    ·by_cases h3:r<65536
     ·have HEn:Hid (vQ r=[0xE0+r / 4096,0x80+r / 64 % 64,0x80+r % 64]):=Lh (by rw [vQ,if_neg h1,if_neg h2,if_pos h3]);obtain ⟨z,hz⟩ : ∃ z:Int,z=(r:Int):=⟨_,rfl⟩
      rw [<- hz] at hc;have z1:2048<=z:=by omega
      have z2:z<65536:=by omega
      have z3:z<55296∨(55296<=z/\¬ z<=57343):=by omega
      have HZ:=Lh hz;clear hz h1 h2 h3;clear hch
      rcases z3 with z3 | ⟨z3,z4⟩
      ·skip
       go_wp2_with (at_builtin;go_must (refine qg rfl _ _ _ rfl qba (w.heap.size) _ rfl ((hown.alloc _)) _ _ rfl ((qe (by first | rfl | (simp;done)) rfl)) ?_);intro A4 c4 w4 hown4 hbel4 hgr4 hat4;have z4:=hbel4.size;(try simp only [Li] at z4);(try simp only [Lo,Lg] at hown4))
       exact ⟨⟨A4,c4,k+1,by omega,by go_num,by rw [HTk.out,HEn.out,Lf];rfl,by rw [HTk.out];exact qa5 hown4 (by rw [HEn.out,HZ.out];simp [byV]) (by rw [HEn.out];simp),(hbel.alloc zb _).trans hbel4⟩,by simp [intOf];omega⟩
      ·skip
       go_wp2_with (at_builtin;go_must (refine qg rfl _ _ _ rfl qba (w.heap.size) _ rfl ((hown.alloc _)) _ _ rfl ((qe (by first | rfl | (simp;done)) rfl)) ?_);intro A4 c4 w4 hown4 hbel4 hgr4 hat4;have z4:=hbel4.size;(try simp only [Li] at z4);(try simp only [Lo,Lg] at hown4))
       exact ⟨⟨A4,c4,k+1,by omega,by go_num,by rw [HTk.out,HEn.out,Lf];rfl,by rw [HTk.out];exact qa5 hown4 (by rw [HEn.out,HZ.out];simp [byV]) (by rw [HEn.out];simp),(hbel.alloc zb _).trans hbel4⟩,by simp [intOf];omega⟩
     ·have HEn:Hid (vQ r=[0xF0+r / 262144,0x80+r / 4096 % 64,0x80+r / 64 % 64,0x80+r % 64]):=Lh (by rw [vQ,if_neg h1,if_neg h2,if_neg h3]);obtain ⟨z,hz⟩ : ∃ z:Int,z=(r:Int):=⟨_,rfl⟩
      rw [<- hz] at hc;have z1:2048<=z:=by omega
      have z2:65536<=z:=by omega
      have z3:z<=1114111:=by omega
      have HZ:=Lh hz;clear hz h1 h2 h3;clear hch
      go_wp2_with (at_builtin;go_must (refine qg rfl _ _ _ rfl qba (w.heap.size) _ rfl ((hown.alloc _)) _ _ rfl ((qe (by first | rfl | (simp;done)) rfl)) ?_);intro A4 c4 w4 hown4 hbel4 hgr4 hat4;have z4:=hbel4.size;(try simp only [Li] at z4);(try simp only [Lo,Lg] at hown4))
      exact ⟨⟨A4,c4,k+1,by omega,by go_num,by rw [HTk.out,HEn.out,Lf];rfl,by rw [HTk.out];exact qa5 hown4 (by rw [HEn.out,HZ.out];simp [byV]) (by rw [HEn.out];simp),(hbel.alloc zb _).trans hbel4⟩,by simp [intOf];omega⟩
  ·obtain rfl:k=n:=by omega
   have ht:rs.take k=rs:=List.take_of_length_le (by have:=HN.out;omega);rw [ht] at hown;have hl:(zm (rs.take k)).length=(zm rs).length:=by rw [ht]
   have hcv:=HE.out _ c' wr (Rd.of_own hown);rw [ht];clear hl HL HT HC HE;generalize (zm rs).length=m at *
   clear ht;go_wp2;go_ret;exact ⟨rfl,hbel⟩
end Go.Proofs.YtbogmeeijdaijaaGreatDoor
namespace Go.Proofs.YtbogmeeijdaijaaGreatDoor
open Go.Proofs.Tryz Go.RowKit
set_option maxRecDepth 20000
theorem rin2 (t:List (Int × Int)) (r:Int) (n c B:Nat) (A:Option Addr) (w:World) (hn:t.length=n) (hb:n<=1000) (rd:Rd w B 2 A n (qaN t)) :
  Calls prog 130 #[.slice A n c,.int .i32 r] w (Quiet (.bool (inT t r)) w):=by
 have HF:Hid (inT t r=true↔∃ i,∃ h:i<t.length,t[i].1<=r/\r<=t[i].2):=Lh (qix t r);have HN:=Lh hn;generalize inT t r=R at *
 clear hn
 go_enter func130,ntmps130
 go_wp2
 go_loopw [5] (fun x wr=>∃ a j:Nat,a<=n/\x = .int .i64 a/\wr=w.drewN j/\Hid (∀ i (h:i<t.length),i<a->¬ (t[i].1<=r/\r<=t[i].2))) (fun x _=>n-(intOf x).toNat)
 case atStart=>exact ⟨0,0,Nat.zero_le _,rfl,rfl,Lh fun i h h2=>absurd h2 (Nat.not_lt_zero i)⟩
 case round =>
  obtain ⟨a,j,han,rfl,rfl,HA⟩:=hrel
  by_cases hlt:a<n
  ·have hml:a<t.length:=by have:=HN.out;omega
   obtain ⟨bb,oo,rfl,c1,c2⟩:=qhj rd hml HN.out;have HY:Hid (t[a].1<=r/\r<=t[a].2->R=true):=Lh fun h=>HF.out.2 ⟨a,hml,h⟩
   have HZ:Hid (¬ (t[a].1<=r/\r<=t[a].2)->∀ i (h:i<t.length),i<a+1->¬ (t[i].1<=r/\r<=t[i].2)):=Lh fun h0 i h h2=>by
    rcases Nat.lt_or_ge i a with h1 | h1
    ·exact HA.out i h h1
    ·obtain rfl:i=a:=by omega
     exact h0
   generalize t[a].1=y at *
   generalize t[a].2=z at *
   by_cases h1:y<=r
   ·by_cases h2:r<=z
    ·have HR:=Lh (HY.out ⟨h1,h2⟩);go_wp2;go_ret;exact ⟨by rw [HR.out];rfl,_,rfl⟩
    ·have HR:=Lh (HZ.out fun h=>h2 h.2);clear HY HZ;go_wp2;exact ⟨⟨a+1,_,by omega,by go_num,rfl,HR⟩,by simp [intOf];omega⟩
   ·have HR:=Lh (HZ.out fun h=>h1 h.1);clear HY HZ;go_wp2;exact ⟨⟨a+1,_,by omega,by go_num,rfl,HR⟩,by simp [intOf];omega⟩
  ·have HR:Hid (R=false):=Lh (by
    cases hR:R with
    | false=>rfl
    | true =>
     obtain ⟨i,h,h1⟩:=HF.out.1 hR
     exact absurd h1 (HA.out i h (by have:=HN.out;omega)))
   clear HF;go_wp2;go_ret;exact ⟨by rw [HR.out];rfl,_,rfl⟩
theorem rmarks (w:World):Calls prog 131 #[] w (ql 200 2 id w 7 (qaN qM)):=by
 go_enter func131,ntmps131
 go_wp2;go_ret;exact ⟨_,_,rfl,qx (xs:=qaN qM) rfl rfl (Ld _) L0,L5⟩
theorem rwide (w:World):Calls prog 132 #[] w (ql 200 2 id w 14 (qaN y8)):=by
 go_enter func132,ntmps132
 go_wp2;go_ret;exact ⟨_,_,rfl,qx (xs:=qaN y8) rfl rfl (Ld _) L0,L5⟩
theorem rmark (r:Int) (w:World):Calls prog 113 #[.int .i32 r] w (qh (.bool (inT qM r)) w):=by
 have HF:=Lh (rin2 qM r);generalize inT qM r=R at *
 go_enter func113,ntmps113
 go_wp2_with (first
  | (go_at_call 131;refine (rmarks _).mono ?_;rintro e w1 ⟨A1,c1,rfl,hown1,hbel1⟩)
  | (go_at_call 130;refine (HF.out 7 c1 _ A1 _ rfl L0 (Rd.of_own hown1)).mono ?_;rintro e w3 ⟨rfl,q3,rfl⟩))
 go_ret;exact ⟨rfl,qf hbel1⟩
theorem rwidth (r:Int) (w:World):Calls prog 114 #[.int .i32 r] w (qh (.int .i64 (zR r)) w):=by
 have HF:=Lh (rin2 y8 r);have HM:=Lh (rmark r);have H0:=Lh (@qgk r);have H1:=Lh (@qew r);have H2:=Lh (@qen r);generalize zR r=W at *
 by_cases hc:r<32∨(127<=r/\r<=159)
 ·have HW:Hid (W = -1):=Lh (H0.out hc);clear H0 H1 H2 HM HF
  rcases hc with hc | ⟨hc1,hc2⟩
  ·go_enter func114,ntmps114
   go_wp2;go_ret;exact ⟨by rw [HW.out];rfl,by first | exact Le _ _ | exact qf (Le _ _)⟩
  ·have hc3 : ¬ r<32:=by omega
   go_enter func114,ntmps114
   go_wp2;go_ret;exact ⟨by rw [HW.out];rfl,by first | exact Le _ _ | exact qf (Le _ _)⟩
 ·have hd : ¬ r<32/\(127<=r/\¬ r<=159∨¬ 127<=r):=by omega
  generalize inT qM r=M at *
  cases M with
  | true =>
   have HW:Hid (W=0):=Lh (H1.out hc rfl);clear H0 H1 H2 HF hc;obtain ⟨hc0,hd⟩:=hd
   rcases hd with ⟨hc1,hc2⟩ | hc1 <;>
   ·go_enter func114,ntmps114
    go_wp2_with (go_at_call 113;refine (HM.out _).mono ?_;rintro e w1 ⟨rfl,hbel1⟩)
    go_ret;exact ⟨by rw [HW.out];rfl,hbel1⟩
  | false =>
   have HW:Hid (W=if inT y8 r=true then 2 else 1):=Lh (H2.out hc rfl);generalize inT y8 r=V at *
   clear H0 H1 H2 hc;obtain ⟨hc0,hd⟩:=hd
   rcases hd with ⟨hc1,hc2⟩ | hc1 <;> cases V <;>
   ·go_enter func114,ntmps114
    go_wp2_with (first
     | (go_at_call 113;refine (HM.out _).mono ?_;rintro e w1 ⟨rfl,hbel1⟩)
     | (go_at_call 132;refine (rwide _).mono ?_;rintro e w2 ⟨A2,c2,rfl,hown2,hbel2⟩;have t2:=hbel1.trans (hbel2.mono hbel1.size))
     | (go_at_call 130;refine (HF.out 14 c2 _ A2 _ rfl L0 (Rd.of_own hown2)).mono ?_;rintro e w4 ⟨rfl,q4,rfl⟩))
    go_ret;exact ⟨by rw [HW.out];rfl,qf t2⟩
theorem rvalid (s:ByteArray) (hs:s.size<=1000000000) (w:World):Calls prog 112 #[.string s] w (qh (.bool (vb s)) w):=by
 have HD:=Lh (qiF s hs w);have hl:=jB s;have HE:Hid (∀ (A:Option Addr) (c:Nat) (w:World),Rd w w.heap.size 1 A (qs (qB s)).length (chV (qs (qB s)))->Calls prog 129 #[.slice A (qs (qB s)).length c] w (qh (.string (yI (qs (qB s)))) w)):=Lh fun A c w rd=>rencode _ (yD _) A _ c w.heap.size w rfl L0 rd (Ld _)
 have HV:=Lh (qbR s);have HP:Hid (vb s=true->(zJ (qB s) (u0,[])).1.m=0):=Lh qf2;unfold DecP at HD;generalize (zJ (qB s) (u0,[])).1.m=m at *
 generalize vb s=R at *
 generalize yI (qs (qB s))=E at *
 generalize qs (qB s)=L at *
 by_cases hm':m=0
 ·have hm:=Lh hm';clear hm'
  cases R with
  | true =>
   have hq:=Lh (HV.out.2 rfl)
   go_enter func112,ntmps112
   go_upto_region 2 with (go_at_call 126;refine HD.out.mono ?_;rintro e w1 ⟨A1,c1,rest,rfl,hown1,hbel1,hrest⟩;have hre:rest.toList.isEmpty=true:=(by rw [hrest.2 hm.out,ByteArray.toList_eq];rfl))
   clear HV HP HD hm
   go_wp2_with (go_at_call 129;refine (HE.out _ _ _ (Rd.of_own hown1)).mono ?_;rintro e w2 ⟨rfl,hbel2⟩;obtain rfl:=hq.out)
   all_goals go_ret
   all_goals exact ⟨rfl,hbel1.trans (hbel2.mono hbel1.size)⟩
  | false =>
   have hq:E≠s:=fun h=>(by have:=HV.out.1 h;cases this)
   have hq2:(E.toList==s.toList)=false:=by rw [jO];simp [hq]
   go_enter func112,ntmps112
   go_wp2_with (first
    | (go_at_call 126;refine HD.out.mono ?_;rintro e w1 ⟨A1,c1,rest,rfl,hown1,hbel1,hrest⟩;have hre:rest.toList.isEmpty=true:=(by rw [hrest.2 hm.out,ByteArray.toList_eq];rfl))
    | (go_at_call 129;refine (HE.out _ _ _ (Rd.of_own hown1)).mono ?_;rintro e w2 ⟨rfl,hbel2⟩))
   all_goals go_ret
   all_goals exact ⟨rfl,hbel1.trans (hbel2.mono hbel1.size)⟩
 ·have hR:R=false:=by
   cases R with
   | false=>rfl
   | true=>exact absurd (HP.out rfl) hm'
  subst hR
  go_enter func112,ntmps112
  go_wp2_with (go_at_call 126;refine HD.out.mono ?_;rintro e w1 ⟨A1,c1,rest,rfl,hown1,hbel1,hrest⟩;have hne:rest.size≠0:=(fun h=>hm' (hrest.1 (ByteArray.ext (Array.eq_empty_of_size_eq_zero h))));have hne2:=kT hne)
  all_goals go_ret
  all_goals exact ⟨rfl,hbel1⟩
theorem qad (s:ByteArray) (hs:s.size<=1000000000) (w:World):Calls prog 104 #[.string s] w (ql 21 1 id w (qs (qB s)).length (chV (qs (qB s)))):=by
 have HD:=Lh (qiF s hs w);unfold DecP at HD;generalize (zJ (qB s) (u0,[])).1.m=m at *
 generalize qs (qB s)=L at *
 go_enter func104,ntmps104
 go_wp2_with (go_at_call 126;refine HD.out.mono ?_;rintro e w1 ⟨A1,c1,rest,rfl,hown1,hbel1,hrest⟩)
 go_ret;exact ⟨A1,c1,rfl,hown1,hbel1⟩
theorem qe6 (w:World):Calls prog 89 #[.string ⟨#[]⟩] w (qh (.int .i64 3) w):=by
 go_enter func89,ntmps89
 go_wp2;go_ret;exact ⟨rfl,Le _ _⟩
theorem qhh (s:ByteArray) (hs:s.size<=1000000000) (h0:s.size≠0) (hv:vb s=false) (w:World):Calls prog 89 #[.string s] w (qh (.int .i64 3) w):=by
 have HV:=Lh (rvalid s hs w);rw [hv] at HV;have he:=kT h0;clear hv
 go_enter func89,ntmps89
 go_wp2_with (go_at_call 112;refine HV.out.mono ?_;rintro e w1 ⟨rfl,hbel1⟩)
 go_ret;exact ⟨rfl,hbel1⟩
theorem widL_lt {r:Int} (h:inT qM r=true):zR r<1:=by
 unfold zR
 split
 ·omega
 ·simp [h]
theorem qgI (s:ByteArray) (hs:s.size<=1000000000) (h0:s.size≠0) (hv:vb s=true) (w:World) (r:Nat) (t:List Nat) (hc:qs (qB s)=r::t) :
  Calls prog 89 #[.string s] w (qh (.int .i64 (if zR (r:Int)<1∨(t.all fun (x:Nat)=>inT qM (x:Int))=false then 9 else if 3<t.length then 5 else 0)) w):=by
 have HV:=Lh (rvalid s hs w);rw [hv] at HV;have he:=kT h0;have HC:=Lh (qad s hs);have hl:=jB s;rw [hc] at HC hl;rw [Lp] at HC hl;have HW:=Lh (rwidth (r:Int));have HM:=Lh (rmark (r:Int));have HML:Hid (inT qM (r:Int)=true->zR (r:Int)<1):=Lh widL_lt;generalize zR (r:Int)=W at *
 obtain ⟨RES,hRES⟩ : ∃ x:Int,x=if W<1∨(t.all fun (x:Nat)=>inT qM (x:Int))=false then 9 else if 3<t.length then 5 else 0:=⟨_,rfl⟩
 rw [<- hRES];have HRES:=Lh hRES;clear hv hc hRES;generalize inT qM (r:Int)=M0 at *
 cases M0 with
 | true =>
  have hw:=HML.out rfl;have HR2:Hid (RES=9):=Lh (by rw [HRES.out,if_pos (.inl hw)]);clear hw HRES HML
  go_enter func89,ntmps89
  go_wp2_with (first
   | (go_at_call 112;refine HV.out.mono ?_;rintro e w1 ⟨rfl,hbel1⟩)
   | (go_at_call 104;refine (HC.out _).mono ?_;rintro e w2 ⟨A2,c2,rfl,hown2,hbel2⟩;have t2:=hbel1.trans (hbel2.mono hbel1.size);obtain ⟨b,o,rfl,_,hcc⟩:=(Rd.of_own hown2).2 L0;have cell0:=hcc 0 _ rfl;simp only [Nat.add_zero] at cell0)
   | (go_at_call 113;refine (HM.out _).mono ?_;rintro e w3 ⟨rfl,hbel3⟩;have t3:=t2.trans (hbel3.mono t2.size)))
  go_ret;exact ⟨by rw [HR2.out];rfl,t3⟩
 | false =>
  by_cases hw:W<1
  ·have HR2:Hid (RES=9):=Lh (by rw [HRES.out,if_pos (.inl hw)]);clear HRES HML
   go_enter func89,ntmps89
   go_wp2_with (first
    | (go_at_call 112;refine HV.out.mono ?_;rintro e w1 ⟨rfl,hbel1⟩)
    | (go_at_call 104;refine (HC.out _).mono ?_;rintro e w2 ⟨A2,c2,rfl,hown2,hbel2⟩;have t2:=hbel1.trans (hbel2.mono hbel1.size);obtain ⟨b,o,rfl,_,hcc⟩:=(Rd.of_own hown2).2 L0;have cell0:=hcc 0 _ rfl;simp only [Nat.add_zero] at cell0)
    | (go_at_call 113;refine (HM.out _).mono ?_;rintro e w3 ⟨rfl,hbel3⟩;have t3:=t2.trans (hbel3.mono t2.size);have cell1:=(hbel3.cell (yY cell0)).trans cell0)
    | (go_at_call 114;refine (HW.out _).mono ?_;rintro e w4 ⟨rfl,hbel4⟩;have t4:=t3.trans (hbel4.mono t3.size)))
   go_ret;exact ⟨by rw [HR2.out];rfl,t4⟩
  ·have HRA:Hid ((t.all fun (x:Nat)=>inT qM (x:Int))=false->RES=9):=Lh fun h=>by rw [HRES.out,if_pos (.inr h)]
   have HRB:Hid ((t.all fun (x:Nat)=>inT qM (x:Int))=true->RES=if 3<t.length then 5 else 0):=Lh fun h=>by rw [HRES.out,if_neg (by rw [not_or];exact ⟨hw,by simp [h]⟩)]
   have HF:Hid ((t.all fun (x:Nat)=>inT qM (x:Int))=((t.drop 0).all fun (x:Nat)=>inT qM (x:Int))):=Lh rfl;generalize (t.all fun (x:Nat)=>inT qM (x:Int))=R at *
   clear HRES HML
   go_enter func89,ntmps89
   go_wp2_with (first
    | (go_at_call 112;refine HV.out.mono ?_;rintro e w1 ⟨rfl,hbel1⟩)
    | (go_at_call 104;refine (HC.out _).mono ?_;rintro e w2 ⟨A2,c2,rfl,hown2,hbel2⟩;have t2:=hbel1.trans (hbel2.mono hbel1.size);have rd2:=Rd.of_own hown2;obtain ⟨b,o,rfl,_,hcc⟩:=rd2.2 L0;have cell0:=hcc 0 _ rfl;simp only [Nat.add_zero] at cell0)
    | (go_at_call 113;refine (HM.out _).mono ?_;rintro e w3 ⟨rfl,hbel3⟩;have t3:=t2.trans (hbel3.mono t2.size);have cell1:=(hbel3.cell (yY cell0)).trans cell0)
    | (go_at_call 114;refine (HW.out _).mono ?_;rintro e w4 ⟨rfl,hbel4⟩;have t4:=t3.trans (hbel4.mono t3.size);have b4:=hbel3.trans (hbel4.mono hbel3.size)))
   go_loopw [4] (fun x wr=>∃ j:Nat,j<=t.length/\x = .int .i64 ((j:Int)+1)/\Below w.heap.size w wr/\Below w2.heap.size w2 wr/\Hid (R=((t.drop j).all fun (x:Nat)=>inT qM (x:Int)))) (fun x _=>t.length+1-(intOf x).toNat)
   case atStart=>exact ⟨0,Nat.zero_le _,rfl,t4,b4,HF⟩
   case round =>
    obtain ⟨j,hj,rfl,hbel,hbel2',HR⟩:=hrel
    by_cases hlt:j<t.length
    ·have hc:wr.cell? ⟨b,o+(j+1),none⟩=some (.int .i32 (t[j]:Int)):=(hbel2'.cell (Ly L3 (Ld _))).trans (hcc (j+1) _ (by simp [chV,hlt]));have HD:Hid (t.drop j=t[j]::t.drop (j+1)):=Lh (Ls hlt);generalize t[j]=x at *
     have HMx:=Lh (rmark (x:Int) wr);have HT:Hid (inT qM (x:Int)=true->R=((t.drop (j+1)).all fun (x:Nat)=>inT qM (x:Int))):=Lh fun h=>by rw [HR.out,HD.out,List.all_cons,h,Bool.true_and]
     have HZ:Hid (inT qM (x:Int)=false->R=false):=Lh fun h=>by rw [HR.out,HD.out,List.all_cons,h,Bool.false_and]
     generalize inT qM (x:Int)=M at *
     clear HR HD
     cases M with
     | true =>
      have HR2:=Lh (HT.out rfl)
      go_wp2_with (go_at_call 113;refine HMx.out.mono ?_;rintro e w5 ⟨rfl,hbel5⟩)
      exact ⟨⟨j+1,by omega,by go_num,hbel.trans (hbel5.mono hbel.size),hbel2'.trans (hbel5.mono hbel2'.size),HR2⟩,by simp [intOf];omega⟩
     | false =>
      have HR2:=Lh (HRA.out (HZ.out rfl))
      go_wp2_with (go_at_call 113;refine HMx.out.mono ?_;rintro e w5 ⟨rfl,hbel5⟩)
      go_ret;exact ⟨by rw [HR2.out];rfl,hbel.trans (hbel5.mono hbel.size)⟩
    ·have HR2:=Lh (HRB.out (by rw [HR.out,Lv L0];rfl));clear HRA HRB HR HF
     by_cases h3:3<t.length
     ·rw [if_pos h3] at HR2;go_wp2;go_ret;exact ⟨by rw [HR2.out];rfl,hbel⟩
     ·rw [if_neg h3] at HR2;go_wp2;go_ret;exact ⟨by rw [HR2.out];rfl,hbel⟩
theorem rcheck (s:ByteArray) (hs:s.size<=1000000000) (w:World):Calls prog 89 #[.string s] w (qh (.int .i64 (zB s)) w):=by
 by_cases h0:s.size=0
 ·rw [qaK h0];obtain rfl:s=⟨#[]⟩:=ByteArray.ext (Array.eq_empty_of_size_eq_zero h0);exact qe6 w
 ·unfold zB
  cases hv:vb s with
  | false=>exact qhh s hs h0 hv w
  | true =>
   rw [if_neg L1]
   cases hc:qs (qB s) with
   | nil =>
    exfalso
    rw [vb,decide_eq_true_eq,hc] at hv;have:=congrArg List.length hv;rw [zT] at this;exact h0 this.symm
   | cons r t=>exact qgI s hs h0 hv w r t hc
theorem rwidthC (s:ByteArray) (hs:s.size<=1000000000) (w:World):Calls prog 90 #[.string s] w (qh (.int .i64 (kb s)) w):=by
 have HK:=Lh (rcheck s hs w);have HC:=Lh (qad s hs);unfold kb
 by_cases h0:zB s=0
 ·rw [if_pos h0];rw [h0] at HK;obtain ⟨hv,r,t,hL,_⟩:=vL.1 h0;rw [hL] at HC;rw [hL];have HW:=Lh (rwidth (r:Int));simp only [List.headD_cons];generalize zR (r:Int)=W at *
  have hlen:0<(r::t).length:=by simp
  have HG:Hid ((chV (r::t))[0]? = some (.int .i32 (r:Int))):=Lh rfl;generalize (r::t)=L at *
  clear h0 hv hL
  go_enter func90,ntmps90
  go_wp2_with (first
   | (go_at_call 89;refine HK.out.mono ?_;rintro e w1 ⟨rfl,hbel1⟩)
   | (go_at_call 104;refine (HC.out _).mono ?_;rintro e w2 ⟨A2,c2,rfl,hown2,hbel2⟩;have t2:=hbel1.trans (hbel2.mono hbel1.size);obtain ⟨b,o,rfl,_,hcc⟩:=(Rd.of_own hown2).2 L0;have cell0:=hcc 0 _ HG.out;simp only [Nat.add_zero] at cell0)
   | (go_at_call 114;refine (HW.out _).mono ?_;rintro e w3 ⟨rfl,hbel3⟩;have t3:=t2.trans (hbel3.mono t2.size)))
  go_ret;exact ⟨rfl,t3⟩
 ·rw [if_neg h0];generalize zB s=K at *
  have hcb:(K != 0)=true:=Ln.2 h0;clear h0
  go_enter func90,ntmps90
  go_wp2_with (go_at_call 89;refine HK.out.mono ?_;rintro e w1 ⟨rfl,hbel1⟩)
  go_ret;exact ⟨rfl,hbel1⟩
theorem rglyph (g:Gl) (hs:g.text.size<=1000000000) (w:World):Calls prog 53 #[glV g] w (qh (.int .i64 (qJ g)) w):=by
 have HK:=Lh (rcheck g.text hs);have HW:=Lh (rwidthC g.text hs);have hq:=qdC g.text;unfold qJ;obtain ⟨t,wd,st⟩:=g;dsimp only at *
 by_cases hc:zB t=0
 ·rw [if_neg (by simp [hc])];rw [hc] at HK;clear hc;generalize kb t=W at *
  by_cases h1:wd=decide (W=2)
  ·have e1:(wd==(W==2))=true:=by
    cases wd <;> by_cases h:W=2 <;> simp_all
   by_cases h2:st<0
   ·rw [if_pos (.inr (.inl h2))];have d2:decide (st<0)=true:=Ll h2;clear hq h1
    go_enter func53,ntmps53
    go_upto_region 1 with fail
    refine qa (GlBox w t wd st) (GlBox.new w t wd st _) ?_;rintro wb hgb;obtain ⟨c0,_,_,hb0,hz0⟩:=id hgb
    go_upto_region 3 with (go_at_call 89;refine (HK.out _).mono ?_;rintro e w1 ⟨rfl,hbel1⟩;have hg1:=hgb.on hbel1)
    obtain ⟨d0,d1,d2,hb1,hz1⟩:=id hg1;have N0 : ∀ x:Near w1.heap.size w1,x.w.cell? ⟨w.heap.size,0,none⟩=some (.string t):=fun x=>(x.h.cell L7).trans d0
    have N1 : ∀ x:Near w1.heap.size w1,x.w.cell? ⟨w.heap.size,1,none⟩=some (.bool wd):=fun x=>(x.h.cell L7).trans d1
    have N2 : ∀ x:Near w1.heap.size w1,x.w.cell? ⟨w.heap.size,2,none⟩=some (.int .i64 st):=fun x=>(x.h.cell L7).trans d2
    have hzz:=Ld w1.heap.size;clear d0 d1 d2 hg1 hgb c0;refine qc w1.heap.size ?_;(repeat (go_big_quiet_step ((go_at_call 90;exact Calls.near _ hzz (HW.out _)))));refine wpQuiet_nil ?_;intro x1;go_wp2;go_ret;exact ⟨rfl,hb1.trans (x1.h.mono L0)⟩
   ·have d2:decide (st<0)=false:=Lk h2
    by_cases h3:3<st
    ·rw [if_pos (.inr (.inr (.inl h3)))];have d3:decide (3<st)=true:=Ll h3;clear hq h1
     go_enter func53,ntmps53
     go_upto_region 1 with fail
     refine qa (GlBox w t wd st) (GlBox.new w t wd st _) ?_;rintro wb hgb;obtain ⟨c0,_,_,hb0,hz0⟩:=id hgb
     go_upto_region 3 with (go_at_call 89;refine (HK.out _).mono ?_;rintro e w1 ⟨rfl,hbel1⟩;have hg1:=hgb.on hbel1)
     obtain ⟨d0,d1,d2,hb1,hz1⟩:=id hg1;have N0 : ∀ x:Near w1.heap.size w1,x.w.cell? ⟨w.heap.size,0,none⟩=some (.string t):=fun x=>(x.h.cell L7).trans d0
     have N1 : ∀ x:Near w1.heap.size w1,x.w.cell? ⟨w.heap.size,1,none⟩=some (.bool wd):=fun x=>(x.h.cell L7).trans d1
     have N2 : ∀ x:Near w1.heap.size w1,x.w.cell? ⟨w.heap.size,2,none⟩=some (.int .i64 st):=fun x=>(x.h.cell L7).trans d2
     have hzz:=Ld w1.heap.size;clear d0 d1 d2 hg1 hgb c0;refine qc w1.heap.size ?_;(repeat (go_big_quiet_step ((go_at_call 90;exact Calls.near _ hzz (HW.out _)))));refine wpQuiet_nil ?_;intro x1;go_wp2;go_ret;exact ⟨rfl,hb1.trans (x1.h.mono L0)⟩
    ·have d3:decide (3<st)=false:=Lk h3
     by_cases h4:st=3
     ·by_cases h5:t=⟨#[42]⟩
      ·rw [if_neg (by rw [not_or,not_or,not_or];exact ⟨fun h=>h h1,h2,h3,fun h=>h.2 h5⟩)];have e5:(t.toList==[42])=true:=by rw [hq];simp [h5]
       have e4:(st==3)=true:=beq_iff_eq.2 h4;clear hq h1 h5 h4
       go_enter func53,ntmps53
       go_upto_region 1 with fail
       refine qa (GlBox w t wd st) (GlBox.new w t wd st _) ?_;rintro wb hgb;obtain ⟨c0,_,_,hb0,hz0⟩:=id hgb
       go_upto_region 3 with (go_at_call 89;refine (HK.out _).mono ?_;rintro e w1 ⟨rfl,hbel1⟩;have hg1:=hgb.on hbel1)
       obtain ⟨d0,d1,d2,hb1,hz1⟩:=id hg1;have N0 : ∀ x:Near w1.heap.size w1,x.w.cell? ⟨w.heap.size,0,none⟩=some (.string t):=fun x=>(x.h.cell L7).trans d0
       have N1 : ∀ x:Near w1.heap.size w1,x.w.cell? ⟨w.heap.size,1,none⟩=some (.bool wd):=fun x=>(x.h.cell L7).trans d1
       have N2 : ∀ x:Near w1.heap.size w1,x.w.cell? ⟨w.heap.size,2,none⟩=some (.int .i64 st):=fun x=>(x.h.cell L7).trans d2
       have hzz:=Ld w1.heap.size;clear d0 d1 d2 hg1 hgb c0;refine qc w1.heap.size ?_;(repeat (go_big_quiet_step ((go_at_call 90;exact Calls.near _ hzz (HW.out _)))));refine wpQuiet_nil ?_;intro x1;go_wp2;go_ret;exact ⟨rfl,hb1.trans (x1.h.mono L0)⟩
      ·rw [if_pos (.inr (.inr (.inr ⟨h4,h5⟩)))];have e5:(t.toList==[42])=false:=by rw [hq];simp [h5]
       have e4:(st==3)=true:=beq_iff_eq.2 h4;clear hq h1 h5 h4
       go_enter func53,ntmps53
       go_upto_region 1 with fail
       refine qa (GlBox w t wd st) (GlBox.new w t wd st _) ?_;rintro wb hgb;obtain ⟨c0,_,_,hb0,hz0⟩:=id hgb
       go_upto_region 3 with (go_at_call 89;refine (HK.out _).mono ?_;rintro e w1 ⟨rfl,hbel1⟩;have hg1:=hgb.on hbel1)
       obtain ⟨d0,d1,d2,hb1,hz1⟩:=id hg1;have N0 : ∀ x:Near w1.heap.size w1,x.w.cell? ⟨w.heap.size,0,none⟩=some (.string t):=fun x=>(x.h.cell L7).trans d0
       have N1 : ∀ x:Near w1.heap.size w1,x.w.cell? ⟨w.heap.size,1,none⟩=some (.bool wd):=fun x=>(x.h.cell L7).trans d1
       have N2 : ∀ x:Near w1.heap.size w1,x.w.cell? ⟨w.heap.size,2,none⟩=some (.int .i64 st):=fun x=>(x.h.cell L7).trans d2
       have hzz:=Ld w1.heap.size;clear d0 d1 d2 hg1 hgb c0;refine qc w1.heap.size ?_;(repeat (go_big_quiet_step ((go_at_call 90;exact Calls.near _ hzz (HW.out _)))));refine wpQuiet_nil ?_;intro x1;go_wp2;go_ret;exact ⟨rfl,hb1.trans (x1.h.mono L0)⟩
     ·rw [if_neg (by rw [not_or,not_or,not_or];exact ⟨fun h=>h h1,h2,h3,fun h=>h4 h.1⟩)];have e4:(st==3)=false:=Lm.2 h4;clear hq h1
      go_enter func53,ntmps53
      go_upto_region 1 with fail
      refine qa (GlBox w t wd st) (GlBox.new w t wd st _) ?_;rintro wb hgb;obtain ⟨c0,_,_,hb0,hz0⟩:=id hgb
      go_upto_region 3 with (go_at_call 89;refine (HK.out _).mono ?_;rintro e w1 ⟨rfl,hbel1⟩;have hg1:=hgb.on hbel1)
      obtain ⟨d0,d1,d2,hb1,hz1⟩:=id hg1;have N0 : ∀ x:Near w1.heap.size w1,x.w.cell? ⟨w.heap.size,0,none⟩=some (.string t):=fun x=>(x.h.cell L7).trans d0
      have N1 : ∀ x:Near w1.heap.size w1,x.w.cell? ⟨w.heap.size,1,none⟩=some (.bool wd):=fun x=>(x.h.cell L7).trans d1
      have N2 : ∀ x:Near w1.heap.size w1,x.w.cell? ⟨w.heap.size,2,none⟩=some (.int .i64 st):=fun x=>(x.h.cell L7).trans d2
      have hzz:=Ld w1.heap.size;clear d0 d1 d2 hg1 hgb c0;refine qc w1.heap.size ?_;(repeat (go_big_quiet_step ((go_at_call 90;exact Calls.near _ hzz (HW.out _)))));refine wpQuiet_nil ?_;intro x1;go_wp2;go_ret;exact ⟨rfl,hb1.trans (x1.h.mono L0)⟩
  ·rw [if_pos (.inl h1)];have e2:(wd==(W==2))=false:=by
    cases wd <;> by_cases h:W=2 <;> simp_all
   clear hq h1
   go_enter func53,ntmps53
   go_upto_region 1 with fail
   refine qa (GlBox w t wd st) (GlBox.new w t wd st _) ?_;rintro wb hgb;obtain ⟨c0,_,_,hb0,hz0⟩:=id hgb
   go_upto_region 3 with (go_at_call 89;refine (HK.out _).mono ?_;rintro e w1 ⟨rfl,hbel1⟩;have hg1:=hgb.on hbel1)
   obtain ⟨d0,d1,d2,hb1,hz1⟩:=id hg1;have N0 : ∀ x:Near w1.heap.size w1,x.w.cell? ⟨w.heap.size,0,none⟩=some (.string t):=fun x=>(x.h.cell L7).trans d0
   have N1 : ∀ x:Near w1.heap.size w1,x.w.cell? ⟨w.heap.size,1,none⟩=some (.bool wd):=fun x=>(x.h.cell L7).trans d1
   have N2 : ∀ x:Near w1.heap.size w1,x.w.cell? ⟨w.heap.size,2,none⟩=some (.int .i64 st):=fun x=>(x.h.cell L7).trans d2
   have hzz:=Ld w1.heap.size;clear d0 d1 d2 hg1 hgb c0;refine qc w1.heap.size ?_;(repeat (go_big_quiet_step ((go_at_call 90;exact Calls.near _ hzz (HW.out _)))));refine wpQuiet_nil ?_;intro x1;go_wp2;go_ret;exact ⟨rfl,hb1.trans (x1.h.mono L0)⟩
 ·rw [if_pos hc];generalize zB t=K at *
  have hcb:(K != 0)=true:=Ln.2 hc;clear hc hq
  go_enter func53,ntmps53
  go_upto_region 1 with fail
  refine qa (GlBox w t wd st) (GlBox.new w t wd st _) ?_;rintro wb hgb;obtain ⟨c0,_,_,hb0,hz0⟩:=id hgb
  go_wp2_with (go_at_call 89;refine (HK.out _).mono ?_;rintro e w1 ⟨rfl,hbel1⟩)
  go_ret;exact ⟨rfl,hb0.trans (hbel1.mono L0)⟩
theorem qcv (g:Gl) (t:List Gl) (k:Nat) (st:Int):runK (g::t) k st=if qd g=k/\g.style=st then runK t k st+1 else 0:=rfl
theorem rkV_inj {a b:Nat} (ha:a<=3) (hb:b<=3) (h:rkV a=rkV b):a=b:=by
 unfold rkV at h;have h1:a=0∨a=1∨a=2∨a=3:=by omega
 have h2:b=0∨b=1∨b=2∨b=3:=by omega
 rcases h1 with rfl | rfl | rfl | rfl <;> rcases h2 with rfl | rfl | rfl | rfl <;> first | rfl | (simp at h)
theorem jX (g:Gl):qd g<=3:=by
 unfold qd
 split
 ·unfold vg
  (repeat' split) <;> omega
 ·omega
theorem rrun (l:List Gl) (i k:Nat) (hk3:k<=3) (st:Int) (A:Option Addr) (n c B:Nat) (w:World) (hn:n<=1000000000) (hi:i<=n) (hsz : ∀ g∈l,g.text.size<=1000000000) (rd:Rd w B 3 A n (qi l)) (hB:B<=w.heap.size) :
  Calls prog 103 #[.slice A n c,.int .i64 i,.int .u8 (rkV k),.int .i64 st] w (qh (.int .i64 (runK (l.drop i) k st:Nat)) w):=by
 have HN:=Lh (jK rd);generalize hR:runK (l.drop i) k st=R at *
 have HF:Hid (R=0+runK (l.drop (i+0)) k st):=Lh (by rw [<- hR,Lo];rfl);clear hR;have HQ:Hid (∀ g:Gl,rkV (qd g)=rkV k->qd g=k):=Lh fun g h=>rkV_inj (jX g) hk3 h
 go_enter func103,ntmps103
 go_wp2
 go_loopw [9] (fun x wr=>∃ j:Nat,i+j<=n/\x = .int .i64 j/\Below w.heap.size w wr/\Hid (R=j+runK (l.drop (i+j)) k st)) (fun x _=>n-(intOf x).toNat)
 case atStart=>exact ⟨0,hi,rfl,Le _ _,HF⟩
 case round =>
  obtain ⟨j,hj,rfl,hbel,HR⟩:=hrel
  by_cases hlt:i+j<n
  ·have hkl:i+j<l.length:=by have:=HN.out;omega
   obtain ⟨b,o,rfl,hbB,g0,g1,g2⟩:=jE (rd.keep (w':=wr) fun p hp=>hbel.cell L0) hkl HN.out;have HD:Hid (l.drop (i+j)=l[i+j]::l.drop (i+(j+1))):=Lh (Ls hkl);have hz:=hsz _ (Lt hkl);generalize l[i+j]=g at *
   have HT:Hid (qd g=k/\g.style=st->R=(j+1)+runK (l.drop (i+(j+1))) k st):=Lh fun h=>by rw [HR.out,HD.out,qcv,if_pos h];omega
   have HZ:Hid (¬ (qd g=k/\g.style=st)->R=j):=Lh fun h=>by rw [HR.out,HD.out,qcv,if_neg h];rfl
   have HK:=Lh (qfZ g hz);have HQg:=Lh (HQ.out g);generalize qd g=q at *
   obtain ⟨t,wd,s⟩:=g;dsimp only at *
   have N0:=qeW (wb:=wr) (b:=b) (o:=o+(i+j) * 3) (r:=⟨t,wd,s⟩) (B:=wr.heap.size) ⟨g0,g1,g2⟩ (by have:=hbel.size;omega);dsimp only at N0;clear HR HD
   by_cases h1:q=k
   ·subst h1
    by_cases h2:s=st
    ·have HR2:=Lh (HT.out ⟨rfl,h2⟩);subst h2;clear HT HZ
     go_wp2_with (go_at_call 85;refine (HK.out _).mono ?_;rintro e w1 ⟨rfl,hbel1⟩;have g3:=(N0 ⟨w1,hbel1⟩).2.2;dsimp only at g3)
     exact ⟨⟨j+1,by omega,by go_num,hbel.trans (hbel1.mono hbel.size),HR2⟩,by simp [intOf];omega⟩
    ·have HR2:=Lh (HZ.out fun h=>h2 h.2);have e2:(s==st)=false:=Lm.2 h2;clear HT HZ h2
     go_wp2_with (go_at_call 85;refine (HK.out _).mono ?_;rintro e w1 ⟨rfl,hbel1⟩;have g3:=(N0 ⟨w1,hbel1⟩).2.2;dsimp only at g3)
     go_ret;exact ⟨by rw [HR2.out];rfl,hbel.trans (hbel1.mono hbel.size)⟩
   ·have HR2:=Lh (HZ.out fun h=>h1 h.1);have e1:(rkV q==rkV k)=false:=Lm.2 (fun h=>h1 (HQg.out h));clear HT HZ h1
    go_wp2_with (go_at_call 85;refine (HK.out _).mono ?_;rintro e w1 ⟨rfl,hbel1⟩)
    go_ret;exact ⟨by rw [HR2.out];rfl,hbel.trans (hbel1.mono hbel.size)⟩
  ·have HR2:Hid (R=j):=Lh (by rw [HR.out,Lv (by have:=HN.out;omega)];rfl);go_wp2;go_ret;exact ⟨by rw [HR2.out];rfl,hbel⟩
end Go.Proofs.YtbogmeeijdaijaaGreatDoor
