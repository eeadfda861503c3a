/- Joined: Lib4, Cc1, Vo2, Lib2, Lt1, Un2, Ut4, Lib3, Row, Un3, Un4, Rn3, Rn4, Ch1, Ch2, Ch3, Cl1. -/
import Derived.Shelf.Spec.SlicesGrow
import Derived.Ground.Names8Prog
import Derived.Lib.Explode
import Derived.Shelf.Unicode.ValidAny
import Derived.SliceStrings
import Derived.ChangeSlices
import Derived.ProofKit
import Derived.OpenShut
import Derived.ShutString
import Derived.Laws.IdiomStrings
import Derived.Test.YtbogmeeijdaijaaGreatDoorZAC
set_option linter.unusedVariables false
set_option linter.unusedSimpArgs false
set_option linter.unnecessarySimpa false
set_option maxHeartbeats 4000000
namespace Go.Proofs
open Go.Shelf
def Tryz.laysGrow_ren:Go.Shelf.Ren:=⟨fun | 4=>173 | n=>n,fun | 22=>27 | 25=>9 | 3=>3 | 4=>4 | 9=>9 | 20=>20 | 0=>0 | n=>n,fun | n=>n⟩
theorem Tryz.laysGrow:Go.Proofs.Lays8.n4 Tryz.prog Tryz.laysGrow_ren:={
 mixed:=by kernel_rfl
 f4:=⟨Tryz.f173.name,by decide,Tryz.func173.trans (congrArg some (by kernel_rfl))⟩
 t0:=Tryz.underlying0
 a0:=Tryz.isAgg0
 z0:=Tryz.sizeOf0
 v0:=Tryz.zeroValue0
 t3:=Tryz.underlying3
 a3:=Tryz.isAgg3
 z3:=Tryz.sizeOf3
 v3:=Tryz.zeroValue3
 t4:=Tryz.underlying4
 a4:=Tryz.isAgg4
 z4:=Tryz.sizeOf4
 v4:=Tryz.zeroValue4
 t9:=Tryz.underlying9
 a9:=Tryz.isAgg9
 z9:=Tryz.sizeOf9
 v9:=Tryz.zeroValue9
 t20:=Tryz.underlying20
 a20:=Tryz.isAgg20
 z20:=Tryz.sizeOf20
 v20:=Tryz.zeroValue20
 t22:=Tryz.underlying27
 a22:=Tryz.isAgg27
 z22:=Tryz.sizeOf27
 v22:=Tryz.zeroValue27 }
def Tryz.laysGrowG_ren:Go.Shelf.Ren:=⟨fun | 4=>122 | n=>n,fun | 22=>45 | 25=>64 | 3=>3 | 4=>4 | 9=>9 | 20=>20 | 0=>0 | n=>n,fun | n=>n⟩
theorem Tryz.laysGrowG:Go.Proofs.Lays8.n4 Tryz.prog Tryz.laysGrowG_ren:={
 mixed:=by kernel_rfl
 f4:=⟨Tryz.f122.name,by decide,Tryz.func122.trans (congrArg some (by kernel_rfl))⟩
 t0:=Tryz.underlying0
 a0:=Tryz.isAgg0
 z0:=Tryz.sizeOf0
 v0:=Tryz.zeroValue0
 t3:=Tryz.underlying3
 a3:=Tryz.isAgg3
 z3:=Tryz.sizeOf3
 v3:=Tryz.zeroValue3
 t4:=Tryz.underlying4
 a4:=Tryz.isAgg4
 z4:=Tryz.sizeOf4
 v4:=Tryz.zeroValue4
 t9:=Tryz.underlying9
 a9:=Tryz.isAgg9
 z9:=Tryz.sizeOf9
 v9:=Tryz.zeroValue9
 t20:=Tryz.underlying20
 a20:=Tryz.isAgg20
 z20:=Tryz.sizeOf20
 v20:=Tryz.zeroValue20
 t22:=Tryz.underlying45
 a22:=Tryz.isAgg45
 z22:=Tryz.sizeOf45
 v22:=Tryz.zeroValue45 }
end Go.Proofs
namespace Go.Proofs.YtbogmeeijdaijaaGreatDoor
open Go.Proofs.Tryz Go.RowKit
set_option maxRecDepth 20000
theorem grow_nil (n:Nat) (hn:n<=1000000000) (w:World):Calls prog 173 #[.slice none 0 0,.int .i64 n] w fun e w'=>∃ A c,e = .returned (.slice A 0 c)/\w'.ownsRow w.heap.size 9 1 (.slice A 0 c) 0 []/\Below w.heap.size w w':=by
 rcases Nat.eq_zero_or_pos n with h0 | h0
 ·subst h0;refine (Any8.slices_Grow_room Tryz.laysGrow none 0 0 0 w L0 L0 L0 L0).mono ?_;rintro e w' ⟨rfl,rfl⟩;exact ⟨none,0,rfl,zY _ _ _ _,Le _ _⟩
 ·have h:(prog.info? 9).map (fun i=>(i.zero,i.size,i.bytes))=some (some (.string ⟨#[]⟩),1,16):=by kernel_rfl
  obtain ⟨i,hi,hz,hs,hb⟩:=info_parts h;refine (Any8.slices_Grow_grow Tryz.laysGrow i (.string ⟨#[]⟩) hi hz L0 none 0 0 n [] w L0 L0 (by rw [hb];omega) L0 L1 (fun _=>rfl) (fun a h=>by cases h)).mono ?_;rintro e w' ⟨rfl,rfl⟩;have hge:=grownCap_ge w (0+n) 0 9;refine ⟨_,_,rfl,⟨rfl,.inr ⟨w.heap.size,grownCap w (0+n) 0 9,_,rfl,Ld _,heap_alloc_new w.drew _,Nat.zero_le _,grownCap_le_maxLen _ _ _ _ (by unfold maxLen;omega),?_,by simp⟩⟩,jI ((Le w.heap.size w.drew).alloc (Ld _) _)⟩;rw [Array.size_append,Array.size_append,size_zeroCells,size_zeroCells];have e1:(Value.string ⟨#[]⟩).cells.size=1:=rfl;have e2:Tryz.laysGrow_ren.t 25=9:=rfl;rw [e1];simp only [List.size_toArray,List.length_nil,e2]
  omega
def catV (L:List (Option Addr × Nat × List ByteArray)):List Value:=L.map fun x=>.slice x.1 x.2.2.length x.2.1
def yJ (L:List (Option Addr × Nat × List ByteArray)):List ByteArray:=L.flatMap fun x=>x.2.2
theorem qi4 {L:List (Option Addr × Nat × List ByteArray)} {k:Nat} (h:k<L.length):yJ (L.take (k+1))=yJ (L.take k)++L[k].2.2:=by
 have e:L.take (k+1)=L.take k++[L[k]]:=(List.take_append_getElem h).symm;unfold yJ;rw [e,List.flatMap_append];simp only [List.flatMap_cons,List.flatMap_nil,List.append_nil]
theorem catL_le (L:List (Option Addr × Nat × List ByteArray)) (k:Nat):(yJ (L.take k)).length<=(yJ L).length:=by
 have e:yJ L=yJ (L.take k)++yJ (L.drop k):=by
  unfold yJ;rw [<- List.flatMap_append,List.take_append_drop]
 rw [e,Lf]
 omega
theorem concat_ (L:List (Option Addr × Nat × List ByteArray)) (A:Option Addr) (n c B:Nat) (w:World) (hn:L.length=n) (hn2:n<=1000) (hB:B<=w.heap.size) (htot:(yJ L).length<=1000000000)
  (rd:Rd w B 1 A n (catV L)) (hr : ∀ x∈L,Rd w B 1 x.1 x.2.2.length (sv x.2.2)) :
  Calls prog 159 #[.slice A n c] w (ql 9 1 id w (yJ L).length (sv (yJ L))):=by
 have HN:=Lh hn;have HT:Hid (∀ k (h:k<L.length),yJ (L.take (k+1))=yJ (L.take k)++L[k].2.2):=Lh fun k h=>qi4 h
 have HLe:=Lh (catL_le L);have HC:Hid (∀ k (h:k<L.length),(catV L)[k]? = some (.slice L[k].1 L[k].2.2.length L[k].2.1)):=Lh fun k h=>by simp [catV,h]
 have HR:Hid (∀ k (h:k<L.length),Rd w B 1 L[k].1 L[k].2.2.length (sv L[k].2.2)):=Lh fun k h=>hr _ (Lt h)
 have HG:=Lh grow_nil;have HA:Hid (L.take n=L):=Lh (List.take_of_length_le L0);clear hn hr
 go_enter func159,ntmps159
 go_wp2
 go_loopw [3,11] (fun v x wr=>∃ k:Nat,k<=n/\x = .int .i64 k/\v = .int .i64 ((yJ (L.take k)).length:Nat)/\w=wr) (fun _ x _=>n-(intOf x).toNat)
 case atStart=>exact ⟨0,Nat.zero_le _,rfl,rfl,rfl⟩
 case round =>
  obtain ⟨k,hk,rfl,rfl,rfl⟩:=hrel
  by_cases hlt:k<n
  ·have hkl:k<L.length:=by have:=HN.out;omega
   obtain ⟨b,o,rfl,hbB,hc⟩:=rd.at_ hlt;rw [HC.out k hkl] at hc;have hl1:=HLe.out k;have hl2:=HLe.out (k+1);have hT:=HT.out k hkl;have hTl:(yJ (L.take (k+1))).length=(yJ (L.take k)).length+L[k].2.2.length:=by rw [hT,Lf]
   generalize hm2:(yJ (L.take (k+1))).length=m2 at *
   replace hm2:=Lh hm2;generalize (yJ (L.take k)).length=m1 at *
   generalize L[k].2.2.length=q at *
   generalize L[k].1=aa at *
   generalize L[k].2.1=cc at *
   clear hT;go_wp2;exact ⟨⟨k+1,by omega,by go_num,by rw [hm2.out,hTl];go_num,by trivial⟩,by simp [intOf];omega⟩
  ·obtain rfl:k=n:=by omega
   have hA:=HA.out;rw [hA];clear hA;generalize hm:(yJ L).length=m at *
   replace hm:=Lh hm
   go_wp2_with (go_at_call 173;refine (HG.out m htot _).mono ?_;rintro e w1 ⟨A1,c1,rfl,hown1,hbel1⟩)
   go_loopw [6,27] (fun v x wr=>∃ (A':Option Addr) (c' j:Nat),j<=k/\x = .int .i64 j/\v = .slice A' (yJ (L.take j)).length c'/\wr.ownsRow w.heap.size 9 1 (.slice A' (yJ (L.take j)).length c') (yJ (L.take j)).length (sv (yJ (L.take j)))/\Below w.heap.size w wr) (fun _ x _=>k-(intOf x).toNat)
   case atStart=>exact ⟨A1,c1,0,Nat.zero_le _,rfl,rfl,hown1,hbel1⟩
   case round =>
    obtain ⟨A',c',j,hj,rfl,rfl,hown,hbel⟩:=hrel
    by_cases hlt:j<k
    ·have hkl:j<L.length:=by have:=HN.out;omega
     obtain ⟨b,o,rfl,hbB,hc⟩:=(rd.keep (w':=wr) fun p hp=>hbel.cell L0).at_ hlt;rw [HC.out j hkl] at hc;have hr:=Lh ((HR.out j hkl).keep (w':=wr) fun p hp=>hbel.cell L0);have hl1:=HLe.out j;have hl2:=HLe.out (j+1);have hT:=HT.out j hkl;have hTl:(yJ (L.take (j+1))).length=(yJ (L.take j)).length+L[j].2.2.length:=by rw [hT,Lf]
     replace hT:=Lh hT;replace hTl:=Lh hTl;have hl3:(yJ (L.take j)).length+L[j].2.2.length<=m:=by rw [<- hTl.out];exact hl2
     generalize hM1:yJ (L.take j)=M1 at *
     generalize hl:L[j].2.2=l at *
     generalize L[j].1=aa at *
     generalize L[j].2.1=cc at *
     clear hl hM1 hl2;have zb:=hbel.size
     go_wp2_with (at_builtin;go_must (refine qg rfl _ _ _ rfl qp (w.heap.size) _ rfl (hown) _ _ rfl (hr.out) ?_);intro A4 c4 w4 hown4 hbel4 hgr4 hat4;have z4:=hbel4.size;(try simp only [Li] at z4);(try simp only [Lo,Lg] at hown4))
     exact ⟨⟨A4,c4,j+1,by omega,by go_num,by rw [hTl.out],by rw [hTl.out,hT.out];simpa [sv] using hown4,hbel.trans hbel4⟩,by simp [intOf];omega⟩
    ·obtain rfl:j=k:=by omega
     have hA:=HA.out;rw [hA] at hown;go_wp2;go_ret;have e1:(yJ (L.take j)).length=m:=by rw [hA,hm.out]
     rw [hm.out] at hown;exact ⟨A',c',by rw [e1];rfl,hown,hbel⟩
end Go.Proofs.YtbogmeeijdaijaaGreatDoor
namespace Go.Proofs.YtbogmeeijdaijaaGreatDoor
open Go.Proofs.Tryz Go.RowKit Go.Maps
set_option maxRecDepth 100000
def ctrlB:ByteArray:={ data:=(([99,104,97,114,97,99,116,101,114,32,106,111,105,110,101,100,32,99,97,112,32,99,97,112,115,32,119,111,114,100,32,115,112,97,99,101,32,116,105,109,101,115,32,115,112,101,108,108,101,100,32,101,110,100,32,100,105,103,105].append [116,115,32,112,108,97,105,110,32,115,116,114,111,110,103,32,105,110,118,101,114,115,101,32,104,105,100,100,101,110,32,115,105,122,101,32,114,111,119,115,32,99,111,108,117,109,110,115,32,115,99,114,111,108,108,32,108,105,110,101]).append ([32,108,105,110,101,115,32,102,114,111,109,32,116,111,32,117,112,32,100,111,119,110,32,99,111,108,117,109,110,32,114,101,112,108,97,99,101,32,119,105,116,104,32,105,110,115,101,114,116,32,100,101,108,101,116,101,32,99,117].append [114,115,111,114,32,118,105,115,105,98,108,101,32,105,110,118,105,115,105,98,108,101,32,109,111,114,101,32,100,111,110,101,32,117,112,100,97,116,101,115,32,114,101,97,100,115,32,115,116,111,112,32,98,108,97,110,107,32,98,121])).toArray }
theorem qcN:Lib.fields ctrlB.data.toList=ctrlL.map fun s=>s.data.toList:=by decide +kernel
theorem ctrl_len:ctrlL.length=39:=rfl
theorem ctrl_all:(ctrlB.data.toList.all fun b=>decide (b.toNat<128))=true:=by decide +kernel
theorem qhp : ∀ (j:Nat) b,ctrlB.data.toList[j]? = some b->b.toNat<128:=qdF _ ctrl_all
theorem qhY:ctrlB.size<=1000:=by decide +kernel
theorem qjL:ctrlB.size<4294967281:=Nat.lt_of_le_of_lt qhY L0
theorem ctrl_sv:((Lib.fields ctrlB.data.toList).map fun l=>Value.string ⟨l.toArray⟩)=sv ctrlL:=by
 rw [qcN,List.map_map]
 rfl
def resN:List ByteArray:=ctrlL++(List.range 32).map nb
theorem res_any (s:ByteArray):(qL s || (resN.any fun x=>decide (x=s)))=jF s:=by
 unfold jF resN;rw [List.any_append,List.any_map];have e:((List.range 32).any ((fun x=>decide (x=s)) ∘ nb))=(List.range 32).any fun j=>decide (nb j=s):=rfl
 rw [e]
 cases qL s <;> cases (ctrlL.any fun x=>decide (x=s)) <;> cases ((List.range 32).any fun j=>decide (nb j=s)) <;> rfl
theorem qgm:resN.length=71:=rfl
theorem qjm : ∀ x∈resN,x.size<=20:=by decide +kernel
theorem any_take {f:List ByteArray} {k:Nat} (h:k<f.length) (s:ByteArray) (z:Bool):(decide (f[k]=s) || (z || (f.take k).any fun x=>decide (x=s)))=(z || (f.take (k+1)).any fun x=>decide (x=s)):=by
 have e:f.take (k+1)=f.take k++[f[k]]:=(List.take_append_getElem h).symm;rw [e,List.any_append];simp only [List.any_cons,List.any_nil,Bool.or_false]
 cases z <;> cases decide (f[k]=s) <;> cases ((f.take k).any fun x=>decide (x=s)) <;> rfl
theorem qkq (w:World) (hs:Sp w):Calls prog 137 #[] w fun e w'=>∃ b,e = .returned (.map (some b))/\SetM w' b 200 jF/\w.heap.size<=b/\Below w.heap.size w w':=by
 have HF:Hid (∀ w,Sp w->Calls prog 16 #[.string ctrlB] w fun e w'=>e = .returned (.slice (some ⟨w.heap.size,0,none⟩) 39 39)/\w'=w.alloc (.cells (sv ctrlL).toArray 9)):=Lh fun w hs=>by
  have h:=Tryz.strings_Fields ctrlB w qjL qhp hs;rw [ctrl_sv,qcN,Lq,ctrl_len] at h;exact h
 have HS:=Lh hs;have HV:=Lh qgT;have HN:=Lh names;clear hs
 go_enter func137,ntmps137
 go_upto_region 2 with (go_at_call 158;refine (HV.out _).mono ?_;rintro e w1 ⟨b1,rfl,hset1,hb1,hbel1⟩)
 have hs1:=HS.out.below hbel1 (Ld _)
 go_wp2_with (first
  | (go_at_call 16;refine (HF.out _ hs1).mono ?_;rintro e w2 ⟨rfl,rfl⟩)
  | (go_at_call 160;refine (HN.out _ (hs1.below (B:=w1.heap.size) L5 (Ld _))).mono ?_;rintro e w3 ⟨A3,c3,rfl,rd3,hbel3⟩))
 have z1:=hbel1.size;have z3:=hbel3.size;rw [Li] at z3;have t3:Below w1.heap.size w1 w3:=(L5).trans (hbel3.mono L1);have rdC:Rd w3 w3.heap.size 1 (some ⟨w1.heap.size,0,none⟩) 39 (sv ctrlL):=Rd.more (Rd.keep (qe (w:=w1) (xs:=sv ctrlL) (e:=9) rfl rfl) fun p hp=>hbel3.cell (by simp;omega)) L0;have HCat:Hid (∀ W,Rd W W.heap.size 1 (some ⟨w3.heap.size,0,none⟩) 2 [.slice (some ⟨w1.heap.size,0,none⟩) 39 39,.slice A3 32 c3]->Below w3.heap.size w3 W->Calls prog 159 #[.slice (some ⟨w3.heap.size,0,none⟩) 2 2] W (ql 9 1 id W 71 (sv resN))):=Lh fun W rd hW=>by
  have h:=concat_ [(some ⟨w1.heap.size,0,none⟩,39,ctrlL),(A3,c3,(List.range 32).map nb)] (some ⟨w3.heap.size,0,none⟩) 2 2 W.heap.size W rfl L0 (Ld _) (by show (71:Nat)<=1000000000;omega) rd (fun x hx=>by
   simp only [List.mem_cons,List.not_mem_nil,or_false] at hx
   rcases hx with rfl | rfl
   ·exact (rdC.below hW).more hW.size
   ·exact (Rd.below rd3 hW).more hW.size)
  exact h
 go_wp2_with (go_at_call 159;refine (HCat.out _ (Rd.more (qe (xs:=[.slice (some ⟨w1.heap.size,0,none⟩) 39 39,.slice A3 32 c3]) rfl rfl) L1) L5).mono ?_;rintro e w4 ⟨A4,c4,rfl,hown4,hbel4⟩)
 rw [Li] at hown4 hbel4;have hlt1:=hset1.lt;have hset4:=(hset1.up t3 hlt1).up (((Le w3.heap.size w3).alloc (Ld _) _).trans (hbel4.mono L0)) (by omega:b1<w3.heap.size);have hbl4:Below w.heap.size w w4:=(hbel1.trans (t3.mono z1)).trans ((((Le w3.heap.size w3).alloc (Ld _) _).trans (hbel4.mono L0)).mono L0);have z4:=hbel4.size;rw [Li] at z4;clear hset1 rdC rd3 HCat hs1 t3 hbel3 hbel1 hbel4 HF HN;have HX:Hid (∀ k (h:k<resN.length) s,_):=Lh fun k (h:k<resN.length) s=>any_take h s (qL s)
 have HSz:Hid (∀ k (h:k<resN.length),resN[k].size<=20):=Lh fun k h=>qjm _ (Lt h)
 have HL:=Lh qgm;have HE:Hid (∀ s,(qL s || ((resN.take 71).any fun x=>decide (x=s)))=jF s):=Lh fun s=>by rw [<- qgm,List.take_length];exact res_any s
 generalize resN=RN at *
 go_loopw [10] (fun x wr=>∃ k:Nat,k<=71/\x = .int .i64 k/\SetM wr b1 (32+k) (fun s=>qL s || (RN.take k).any fun x=>decide (x=s))/\Below w.heap.size w wr/\w3.heap.size+1<=wr.heap.size/\wr.ownsRow (w3.heap.size+1) 9 1 (.slice A4 71 c4) 71 (sv RN)) (fun x _=>71-(intOf x).toNat)
 case atStart=>exact ⟨0,by omega,rfl,hset4.ext fun s=>by simp,hbl4,z4,hown4⟩
 case round =>
  obtain ⟨k,hk,rfl,hst,hb,hsz,hown⟩:=hrel
  by_cases hlt:k<71
  ·have hkl:k<RN.length:=by have:=HL.out;omega
   obtain ⟨b,o,rfl,_,hc⟩:=(Rd.of_own hown).at_ hlt;rw [yM _ _ hkl] at hc;have hxs:=HSz.out k hkl;have hws:RN[k].size<=maxLen:=by unfold maxLen;omega
   have HXk:=Lh (HX.out k hkl);generalize RN[k]=x at *
   obtain ⟨D,hownm,hD,hS⟩:=hst
   go_wp2_with (at_mapUpdate;refine wpList_mapUpdate_own _ rfl _ _ _ 182 rfl 9 4 (string_keyed underlying9) underlying182 _ b1 (32+k) _ rfl hownm (by unfold maxLen;omega) _ _ _ rfl rfl (WideMaps.keyOf_string_mk underlying9 hws) _ [] (plainElem_bool (H:=Unit) underlying4 true) ?_;intro w5 hown5 hgr5)
   exact ⟨⟨k+1,by omega,by go_num,(SetM.put hown5 hD hS).ext HXk.out,hb.grown hgr5 L0 (fun q hq=>by cases hq;omega),Lj hsz hgr5.size,hown.kept hgr5 (.inr fun e=>by
    have:=(hown.lt b1 e).1
    omega)⟩,by simp [intOf];omega⟩
  ·obtain rfl:k=71:=by omega
   go_wp2;go_ret
   exact ⟨b1,rfl,(by
    obtain ⟨D,h1,h2⟩:=hst.ext HE.out
    exact ⟨D,h1.mono L0,h2⟩),by omega,hb⟩
end Go.Proofs.YtbogmeeijdaijaaGreatDoor
namespace Go.Proofs
open Go.Shelf
def Tryz.lays158_ren:Go.Shelf.Ren:=⟨fun | 158=>179 | 165=>186 | 166=>187 | 167=>188 | 169=>189 | 230=>190 | 203=>191 | 240=>195 | 241=>196 | 197=>197 | 118=>198 | 168=>199 | 270=>200 | 262=>201 | 276=>207 | 277=>208 | 260=>209 | 242=>206 | 313=>210 | 278=>212 | 274=>213 | 275=>214 | n=>n,fun | 9=>9 | 4=>4 | 3=>3 | 5=>5 | 72=>227 | 0=>0 | 76=>230 | 75=>229 | 107=>234 | 70=>225 | 20=>20 | 37=>172 | 127=>239 | 21=>21 | 105=>192 | 164=>248 | 162=>252 | 203=>244 | 119=>67 | 46=>159 | 139=>204 | 138=>203 | 51=>103 | 160=>254 | 208=>260 | 206=>258 | 80=>219 | n=>n,fun | 13=>7 | 3=>4 | 4=>5 | n=>n⟩
theorem Tryz.lays158:Go.Proofs.Lays.n158 Tryz.prog Tryz.lays158_ren:={
 mixed:=by kernel_rfl
 f118:=Tryz.func198.trans (congrArg some (by kernel_rfl))
 f158:=Tryz.func179.trans (congrArg some (by kernel_rfl))
 f165:=Tryz.func186.trans (congrArg some (by kernel_rfl))
 f166:=Tryz.func187.trans (congrArg some (by kernel_rfl))
 f167:=Tryz.func188.trans (congrArg some (by kernel_rfl))
 f168:=Tryz.func199.trans (congrArg some (by kernel_rfl))
 f169:=Tryz.func189.trans (congrArg some (by kernel_rfl))
 f197:=Tryz.func197.trans (congrArg some (by kernel_rfl))
 f203:=Tryz.func191.trans (congrArg some (by kernel_rfl))
 f230:=Tryz.func190.trans (congrArg some (by kernel_rfl))
 f240:=Tryz.func195.trans (congrArg some (by kernel_rfl))
 f241:=Tryz.func196.trans (congrArg some (by kernel_rfl))
 f242:=Tryz.func206.trans (congrArg some (by kernel_rfl))
 f260:=Tryz.func209.trans (congrArg some (by kernel_rfl))
 f262:=Tryz.func201.trans (congrArg some (by kernel_rfl))
 f270:=Tryz.func200.trans (congrArg some (by kernel_rfl))
 f274:=Tryz.func213.trans (congrArg some (by kernel_rfl))
 f275:=Tryz.func214.trans (congrArg some (by kernel_rfl))
 f276:=Tryz.func207.trans (congrArg some (by kernel_rfl))
 f277:=Tryz.func208.trans (congrArg some (by kernel_rfl))
 f278:=Tryz.func212.trans (congrArg some (by kernel_rfl))
 f313:=Tryz.func210.trans (congrArg some (by kernel_rfl))
 t0:=Tryz.underlying0
 a0:=Tryz.isAgg0
 z0:=Tryz.sizeOf0
 v0:=Tryz.zeroValue0
 t3:=Tryz.underlying3
 a3:=Tryz.isAgg3
 z3:=Tryz.sizeOf3
 v3:=Tryz.zeroValue3
 t4:=Tryz.underlying4
 a4:=Tryz.isAgg4
 z4:=Tryz.sizeOf4
 v4:=Tryz.zeroValue4
 t5:=Tryz.underlying5
 a5:=Tryz.isAgg5
 z5:=Tryz.sizeOf5
 v5:=Tryz.zeroValue5
 t9:=Tryz.underlying9
 a9:=Tryz.isAgg9
 z9:=Tryz.sizeOf9
 v9:=Tryz.zeroValue9
 t20:=Tryz.underlying20
 a20:=Tryz.isAgg20
 z20:=Tryz.sizeOf20
 v20:=Tryz.zeroValue20
 t21:=Tryz.underlying21
 a21:=Tryz.isAgg21
 z21:=Tryz.sizeOf21
 v21:=Tryz.zeroValue21
 t37:=Tryz.underlying172
 a37:=Tryz.isAgg172
 z37:=Tryz.sizeOf172
 v37:=Tryz.zeroValue172
 t46:=Tryz.underlying159
 a46:=Tryz.isAgg159
 z46:=Tryz.sizeOf159
 v46:=Tryz.zeroValue159
 t51:=Tryz.underlying103
 a51:=Tryz.isAgg103
 z51:=Tryz.sizeOf103
 v51:=Tryz.zeroValue103
 t70:=Tryz.underlying225
 a70:=Tryz.isAgg225
 z70:=Tryz.sizeOf225
 v70:=Tryz.zeroValue225
 t72:=Tryz.underlying227
 a72:=Tryz.isAgg227
 z72:=Tryz.sizeOf227
 v72:=Tryz.zeroValue227
 t75:=Tryz.underlying229
 a75:=Tryz.isAgg229
 z75:=Tryz.sizeOf229
 v75:=Tryz.zeroValue229
 t76:=Tryz.underlying230
 a76:=Tryz.isAgg230
 z76:=Tryz.sizeOf230
 v76:=Tryz.zeroValue230
 t105:=Tryz.underlying192
 a105:=Tryz.isAgg192
 z105:=Tryz.sizeOf192
 v105:=Tryz.zeroValue192
 t107:=Tryz.underlying234
 a107:=Tryz.isAgg234
 z107:=Tryz.sizeOf234
 v107:=Tryz.zeroValue234
 t119:=Tryz.underlying67
 a119:=Tryz.isAgg67
 z119:=Tryz.sizeOf67
 t127:=Tryz.underlying239
 a127:=Tryz.isAgg239
 z127:=Tryz.sizeOf239
 v127:=Tryz.zeroValue239
 t138:=Tryz.underlying203
 a138:=Tryz.isAgg203
 z138:=Tryz.sizeOf203
 v138:=Tryz.zeroValue203
 t139:=Tryz.underlying204
 a139:=Tryz.isAgg204
 z139:=Tryz.sizeOf204
 v139:=Tryz.zeroValue204
 t160:=Tryz.underlying254
 a160:=Tryz.isAgg254
 z160:=Tryz.sizeOf254
 v160:=Tryz.zeroValue254
 t162:=Tryz.underlying252
 a162:=Tryz.isAgg252
 z162:=Tryz.sizeOf252
 v162:=Tryz.zeroValue252
 t164:=Tryz.underlying248
 a164:=Tryz.isAgg248
 z164:=Tryz.sizeOf248
 v164:=Tryz.zeroValue248
 t203:=Tryz.underlying244
 a203:=Tryz.isAgg244
 z203:=Tryz.sizeOf244
 v203:=Tryz.zeroValue244
 t206:=Tryz.underlying258
 a206:=Tryz.isAgg258
 z206:=Tryz.sizeOf258
 v206:=Tryz.zeroValue258
 t208:=Tryz.underlying260
 a208:=Tryz.isAgg260
 z208:=Tryz.sizeOf260
 v208:=Tryz.zeroValue260
 g3:=by kernel_rfl
 g4:=by kernel_rfl
 g13:=by kernel_rfl }
def Tryz.lays242_ren:Go.Shelf.Ren:=⟨fun | 242=>206 | 278=>212 | n=>n,fun | 37=>172 | 21=>21 | 51=>103 | 4=>4 | 5=>5 | 46=>159 | n=>n,fun | n=>n⟩
theorem Tryz.lays242:Go.Proofs.Lays.n242 Tryz.prog Tryz.lays242_ren:={
 mixed:=by kernel_rfl
 f242:=Tryz.func206.trans (congrArg some (by kernel_rfl))
 f278:=Tryz.func212.trans (congrArg some (by kernel_rfl))
 t4:=Tryz.underlying4
 a4:=Tryz.isAgg4
 z4:=Tryz.sizeOf4
 v4:=Tryz.zeroValue4
 t5:=Tryz.underlying5
 a5:=Tryz.isAgg5
 z5:=Tryz.sizeOf5
 v5:=Tryz.zeroValue5
 t21:=Tryz.underlying21
 a21:=Tryz.isAgg21
 z21:=Tryz.sizeOf21
 v21:=Tryz.zeroValue21
 t37:=Tryz.underlying172
 a37:=Tryz.isAgg172
 z37:=Tryz.sizeOf172
 v37:=Tryz.zeroValue172
 t46:=Tryz.underlying159
 a46:=Tryz.isAgg159
 z46:=Tryz.sizeOf159
 v46:=Tryz.zeroValue159
 t51:=Tryz.underlying103
 a51:=Tryz.isAgg103
 z51:=Tryz.sizeOf103
 v51:=Tryz.zeroValue103 }
theorem Tryz.Builder_Extra_158:Builder.Extra Tryz.prog Tryz.lays158_ren:={
 sizeBuilder:=by kernel_rfl
 liesBuilder:=by kernel_rfl
 t5:=Tryz.underlying5
 a5:=Tryz.isAgg5
 z5:=Tryz.sizeOf5
 v5:=Tryz.zeroValue5
 infoByte:=by kernel_rfl
 cellsByte:=by kernel_rfl
 sizeByte:=by kernel_rfl
 neB5:=by decide }
open Go.RowKit in
theorem Tryz.strings_ToUpper_ascii (s:ByteArray) (w:World) (hs:s.size<=140737488355328) (hascii : ∀ (j:Nat) (b:UInt8),s.data.toList[j]? = some b->b.toNat<128) :
  Calls Tryz.prog 179 #[.string s] w fun e w'=>e = .returned (.string ⟨(Lib.toUpperA s.data.toList).toArray⟩)/\Below w.heap.size w w':=Any.strings_ToUpper_ascii Tryz.lays158 Tryz.Builder_Extra_158 s w hs hascii
open Go.RowKit in
theorem Tryz.utf8_AppendRune_plain (B:Nat) (v:Value) (n:Nat) (xs:List Value) (r:Int) (hr0 : -2147483648<=r) (hr1:r<=2147483647) (w:World) (hown:w.ownsRow B 5 1 v n xs) (hlen:n+4<=140737488355328) (hBw:B<=w.heap.size) :
  Calls Tryz.prog 206 #[v,.int .i32 r] w fun e w'=>∃ v',e = .returned v'/\w'.ownsRow B 5 1 v' (n+(Lib.runeCells r).length) (xs++Lib.runeCells r)/\∃ o,(w.alloc o).grownBy w' v.ownBlock:=Any.utf8_AppendRune_plain Tryz.lays242 (by kernel_rfl) B v n xs r hr0 hr1 w hown hlen hBw
end Go.Proofs
namespace Go.Proofs.YtbogmeeijdaijaaGreatDoor
open Go.Proofs.Tryz Go.RowKit
set_option maxRecDepth 20000
abbrev stV (rate:Int) (digits spell:Bool) (rep:Int) (con:Bool) (cells:Int):Value:=.agg #[.int .i64 rate,.bool digits,.bool spell,.int .i64 rep,.bool con,.int .i64 cells]
def StBox (w:World) (r:Int) (d s:Bool) (p:Int) (c:Bool) (k:Int) (g:Nat):Prop :=
 w.cell? ⟨g,0,none⟩=some (.int .i64 r)/\w.cell? ⟨g,1,none⟩=some (.bool d)/\w.cell? ⟨g,2,none⟩=some (.bool s)/\w.cell? ⟨g,3,none⟩=some (.int .i64 p)/\w.cell? ⟨g,4,none⟩=some (.bool c)/\w.cell? ⟨g,5,none⟩=some (.int .i64 k)
theorem StBox.new (w:World) (r:Int) (d s:Bool) (p:Int) (c:Bool) (k:Int) (t:TypeId):StBox (w.alloc (.cells #[.int .i64 r,.bool d,.bool s,.int .i64 p,.bool c,.int .i64 k] t)) r d s p c k w.heap.size :=
 ⟨qu w _ _ 0,qu w _ _ 1,qu w _ _ 2,qu w _ _ 3,qu w _ _ 4,qu w _ _ 5⟩
theorem StBox.below {w w':World} {B g:Nat} {r:Int} {d s:Bool} {p:Int} {c:Bool} {k:Int} (h:StBox w r d s p c k g) (hb:Below B w w') (hg:g<B):StBox w' r d s p c k g:=by
 obtain ⟨h0,h1,h2,h3,h4,h5⟩:=h;exact ⟨(hb.cell hg).trans h0,(hb.cell hg).trans h1,(hb.cell hg).trans h2,(hb.cell hg).trans h3,(hb.cell hg).trans h4,(hb.cell hg).trans h5⟩
def chV (l:List Nat):List Value:=l.map fun (r:Nat)=>Value.int .i32 (r:Int)
theorem chV_len (l:List Nat):(chV l).length=l.length:=by simp [chV]
theorem chV_one (l:List Nat):(chV l).all Value.oneCell'=true:=by
 rw [List.all_eq_true];intro u hu
 simp [chV] at hu
 obtain ⟨i,_,rfl⟩:=hu
 rfl
theorem qft (l:List Nat) (k:Nat) (h:k<l.length):(chV l)[k]? = some (.int .i32 (l[k]:Int)):=by simp [chV,h]
theorem own_keep {w w':World} {base size n:Nat} {e:TypeId} {v:Value} {xs:List Value} (h:w.ownsRow base e size v n xs) (hk : ∀ k,base<=k->w'.heap[k]? = w.heap[k]?):w'.ownsRow base e size v n xs:=by
 refine ⟨h.1,?_⟩
 rcases h.2 with h0 | ⟨g,cap,cur,rfl,h1,h2,h3⟩
 ·exact .inl h0
 ·exact .inr ⟨g,cap,cur,rfl,h1,(hk g h1).trans h2,h3⟩
theorem zZ {w:World} {base size n:Nat} {e:TypeId} {v:Value} {xs:List Value} (h:w.ownsRow base e size v n xs) {p:Addr} (hp:p.block<base) (u:Value):(w.setCell p u).ownsRow base e size v n xs :=
 own_keep h fun k hk=>Below.heap_setCell w p u k L0
end Go.Proofs.YtbogmeeijdaijaaGreatDoor
namespace Go.Proofs.YtbogmeeijdaijaaGreatDoor
theorem qht (s:ByteArray) (i:Nat):Lib.decodeL (s.data.toList.drop i)=Utf8.decode s i:=Lib.decodeL_drop s i
theorem qb1 (s:ByteArray) : ∀ f i,Lib.validGoD f (s.data.toList.drop i)=true↔kK s f i
 | 0,i=>by simp [Lib.validGoD,kK]
 | f+1,i=>by
  rw [Lib.validGoD.eq_2,kK,qht]
  by_cases h:i<s.size
  ·have hne:s.data.toList.drop i≠[]:=fun e=>by
    have:=congrArg List.length e
    simp at this
    have h2:s.size=s.data.size:=rfl
    omega
   rw [if_neg hne,if_pos h,List.drop_drop]
   by_cases hb:(Utf8.decode s i).1=65533/\(Utf8.decode s i).2=1
   ·rw [if_pos hb]
    simp [hb]
   ·rw [if_neg hb,qb1 s f]
    simp [hb]
  ·have hnil:s.data.toList.drop i=[]:=List.drop_of_length_le (by simp;exact Nat.le_of_not_lt h);rw [if_pos hnil,if_neg h]
   simp
theorem qjF (s:ByteArray):Lib.validD s.data.toList=vb s:=by
 rw [Bool.eq_iff_iff,qdx,<- qb1 s s.size 0]
 rfl
theorem encodeZ {r:Nat} (h:qR r):Lib.encodeRuneZ (r:Int)=(vQ r).map fun (b:Nat)=>(b:Int):=by
 unfold qR at h;unfold Lib.encodeRuneZ vQ
 split
 ·rw [if_pos (by omega)];rfl
 ·split
  ·rw [if_neg (by omega),if_pos (by omega)]
   simp
  ·split
   ·rw [if_neg (by omega),if_neg (by omega),if_pos (by omega)]
    simp
   ·split
    ·rw [if_neg (by omega),if_neg (by omega),if_neg (by omega)]
     simp
    ·omega
end Go.Proofs.YtbogmeeijdaijaaGreatDoor
namespace Go.Proofs
open Go.Shelf
def Tryz.laysValid_ren:Go.Shelf.Ren:=⟨fun | 196=>133 | 259=>155 | n=>n,fun | 9=>9 | 4=>4 | 3=>3 | 5=>5 | 12=>12 | 119=>67 | 0=>0 | 46=>159 | 139=>204 | 138=>203 | 53=>212 | n=>n,fun | 3=>4 | 4=>5 | n=>n⟩
theorem Tryz.laysValid:Go.Proofs.Lays.n196 Tryz.prog Tryz.laysValid_ren:={
 mixed:=by kernel_rfl
 f196:=Tryz.func133.trans (congrArg some (by kernel_rfl))
 f259:=Tryz.func155.trans (congrArg some (by kernel_rfl))
 t0:=Tryz.underlying0
 a0:=Tryz.isAgg0
 z0:=Tryz.sizeOf0
 v0:=Tryz.zeroValue0
 t3:=Tryz.underlying3
 a3:=Tryz.isAgg3
 z3:=Tryz.sizeOf3
 v3:=Tryz.zeroValue3
 t4:=Tryz.underlying4
 a4:=Tryz.isAgg4
 z4:=Tryz.sizeOf4
 v4:=Tryz.zeroValue4
 t5:=Tryz.underlying5
 a5:=Tryz.isAgg5
 z5:=Tryz.sizeOf5
 v5:=Tryz.zeroValue5
 t9:=Tryz.underlying9
 a9:=Tryz.isAgg9
 z9:=Tryz.sizeOf9
 v9:=Tryz.zeroValue9
 t12:=Tryz.underlying12
 a12:=Tryz.isAgg12
 z12:=Tryz.sizeOf12
 v12:=Tryz.zeroValue12
 t46:=Tryz.underlying159
 a46:=Tryz.isAgg159
 z46:=Tryz.sizeOf159
 v46:=Tryz.zeroValue159
 t53:=Tryz.underlying212
 a53:=Tryz.isAgg212
 z53:=Tryz.sizeOf212
 v53:=Tryz.zeroValue212
 t119:=Tryz.underlying67
 a119:=Tryz.isAgg67
 z119:=Tryz.sizeOf67
 t138:=Tryz.underlying203
 a138:=Tryz.isAgg203
 z138:=Tryz.sizeOf203
 v138:=Tryz.zeroValue203
 t139:=Tryz.underlying204
 a139:=Tryz.isAgg204
 z139:=Tryz.sizeOf204
 v139:=Tryz.zeroValue204
 g3:=by kernel_rfl
 g4:=by kernel_rfl }
end Go.Proofs
namespace Go.Proofs.YtbogmeeijdaijaaGreatDoor
open Go.ChangeShapes Go.WideShapes Go.ChangeAt Go.RowKit
theorem own:ownKnob Tryz.prog.godebug=none:=by kernel_rfl
theorem laidOut:laidOutB Tryz.prog=true:=by kernel_rfl
theorem yY {w:World} {a:Addr} {v:Value} (h:w.cell? a=some v):a.block<w.heap.size:=by
 rcases Nat.lt_or_ge a.block w.heap.size with hl | hl
 ·exact hl
 ·unfold World.cell? at h;rw [Array.getElem?_eq_none hl] at h
  cases h
theorem open_strs {H:Type} {enc:TypeId × Value->H} {P:Program} {w:World} {t e:TypeId} {A:Option Addr} {len cap:Nat} {d:DataW H} {p:List MemPlace} (ht:P.underlying t=some (.slice e)) (he:P.underlying e=some .string) (hC:P.cellsOf e=1)
  (h:DataW.Trod enc P w 0 (fun _=>true) true t (.slice A len cap) d p) :
  ∃ l:List ByteArray,l.length=len/\len<=cap/\cap<=maxLen/\Rd w w.heap.size 1 A len (sv l)/\∀ s∈l,s.size<=maxLen:=by
 obtain ⟨fuel,hf⟩:=h
 rcases open_strings ht he hC hf with ⟨hcs,_⟩ | ⟨a,len',cap',ss,hcs,_,hl,hm,hz,_,hcell,hws⟩
 ·simp [Value.cells] at hcs
  obtain ⟨rfl,rfl,rfl⟩:=hcs;exact ⟨[],rfl,Ld _,by unfold maxLen;omega,Rd.none_,fun s hs=>by cases hs⟩
 ·simp [Value.cells] at hcs
  obtain ⟨rfl,rfl,rfl⟩:=hcs;have hz':ss.length=cap:=by simpa using hz
  refine ⟨ss.take len,by rw [Lu,hz'];omega,hl,hm,⟨by simp [sv,hz'];omega,fun hn=>?_⟩,fun s hs=>hws s (List.mem_of_mem_take hs)⟩;obtain ⟨b,o,spot⟩:=a;have h0:=hcell 0 L0;have hspot:spot=none:=by simpa [Addr.add] using World.cell?_spot h0
  subst hspot;refine ⟨b,o,rfl,by simpa [Addr.add] using yY h0,fun j u hu=>?_⟩;have hj:j<len:=by
   have:=(List.getElem?_eq_some_iff.1 hu).1
   simp [sv] at this
   omega
  have h1:=hcell j L0;rw [vl] at h1;rw [h1,<- hu]
  simp [sv,hj,List.getD_eq_getElem?_getD,List.getElem?_eq_getElem (show j<ss.length by omega)]
def ivs (k:IntKind) (l:List Int):List Value:=l.map fun n=>.int k n
theorem sv_ivs_take (k:IntKind) (l:List Int) (n:Nat):ivs k (l.take n)=(ivs k l).take n:=by simp [ivs,List.map_take]
theorem open_intl {H:Type} {enc:TypeId × Value->H} {P:Program} {w:World} {t e:TypeId} {k:IntKind} {A:Option Addr} {len cap:Nat} {d:DataW H} {p:List MemPlace} (ht:P.underlying t=some (.slice e)) (he:P.underlying e=some (.int k)) (hC:P.cellsOf e=1)
  (h:DataW.Trod enc P w 0 (fun _=>true) true t (.slice A len cap) d p) :
  ∃ l:List Int,l.length=len/\len<=cap/\cap<=maxLen/\Rd w w.heap.size 1 A len (ivs k l)/\∀ n∈l,(Lit.int k n).wf=true:=by
 obtain ⟨fuel,hf⟩:=h
 rcases Go.ChangeShapes.open_ints ht he hC hf with ⟨hcs,_⟩ | ⟨a,len',cap',zs,hcs,_,hl,hm,hz,_,hcell,hws⟩
 ·simp [Value.cells] at hcs
  obtain ⟨rfl,rfl,rfl⟩:=hcs;exact ⟨[],rfl,Ld _,by unfold maxLen;omega,Rd.none_,fun s hs=>by cases hs⟩
 ·simp [Value.cells] at hcs
  obtain ⟨rfl,rfl,rfl⟩:=hcs;have hz':zs.length=cap:=by simpa using hz
  refine ⟨zs.take len,by rw [Lu,hz'];omega,hl,hm,⟨by simp [ivs,hz'];omega,fun hn=>?_⟩,fun s hs=>hws s (List.mem_of_mem_take hs)⟩;obtain ⟨b,o,spot⟩:=a;have h0:=hcell 0 L0;have hspot:spot=none:=by simpa [Addr.add] using World.cell?_spot h0
  subst hspot;refine ⟨b,o,rfl,by simpa [Addr.add] using yY h0,fun j u hu=>?_⟩;have hj:j<len:=by
   have:=(List.getElem?_eq_some_iff.1 hu).1
   simp [ivs] at this
   omega
  have h1:=hcell j L0;rw [vl] at h1;rw [h1,<- hu]
  simp [ivs,hj,List.getD_eq_getElem?_getD,List.getElem?_eq_getElem (show j<zs.length by omega)]
end Go.Proofs.YtbogmeeijdaijaaGreatDoor
namespace Go.Proofs.YtbogmeeijdaijaaGreatDoor
open Go.Proofs.Tryz Go.RowKit
set_option maxRecDepth 20000
theorem qb8 (s:ByteArray) : ∀ (f i:Nat) (acc:Array Value),Conv.runesFrom s f i acc=acc++(chV (qaW s f i)).toArray
 | 0,i,acc=>by
  simp [qaW,chV]
  unfold Conv.runesFrom
  rfl
 | f+1,i,acc=>by
  rw [Conv.runesFrom.eq_2,qaW]
  by_cases h:i<s.size
  ·rw [if_pos h,if_pos h]
   show Conv.runesFrom s f (i+(Utf8.decode s i).2) (acc.push (Value.int IntKind.i32 (Int.ofNat (Utf8.decode s i).1)))=_
   rw [qb8 s f]
   apply Array.ext'
   simp [chV]
  ·rw [if_neg h,if_neg h]
   simp [chV]
theorem jB (s:ByteArray):(qs (qB s)).length<=2 * s.size:=by
 have h : ∀ (l:List Nat) (x:US × List Nat),(zJ l x).2.length<=x.2.length+2 * l.length:=by
  intro l
  induction l with
  | nil=>intro x;simp [zJ]
  | cons b t ih =>
   intro x;have:=ih (jU x.1 b,x.2++ku x.1 b);have h2:(ku x.1 b).length<=2:=by
    unfold ku
    split
    ·split <;> simp
    ·rw [Lf]
     split <;> split <;> (try split) <;> simp
   show (zJ t (jU x.1 b,x.2++ku x.1 b)).2.length<=_
   rw [Lf] at this;rw [Lp]
   omega
 have:=h (qB s) (u0,[]);rw [zT] at this
 simpa [qs] using this
theorem qbK (s:ByteArray) (hv:vb s=true) (hs:s.size<=1000000000) (w:World) :
  ∃ c w',(convert 9 151 (.string s)).run prog w = .ok (.slice (some ⟨w.heap.size,0,none⟩) (qs (qB s)).length c) w'/\Rd w' w'.heap.size 1 (some ⟨w.heap.size,0,none⟩) (qs (qB s)).length (chV (qs (qB s)))/\Below w.heap.size w w'/\(qs (qB s)).length<=c:=by
 have hz:=qgn s ((qdx s).1 hv);have he:Conv.runesFrom s s.size 0 #[]=(chV (qs (qB s))).toArray:=by rw [qb8,hz];simp
 have hl:=jB s;have hn:(Conv.runesFrom s s.size 0 #[]).size=(qs (qB s)).length:=by rw [he];simp [chV]
 have h:=run_runes_of_string (P:=prog) w _ _ _ s underlying9 underlying151 underlying21 (by rw [hn];omega);rw [hn,he] at h;generalize (qs (qB s))=L at *
 refine ⟨_,_,h,?_,jI ((Le w.heap.size w.drew).alloc (Ld _) _),?_⟩
 ·refine Rd.some_ (by rw [chV_len,Nat.mul_one]) L1 fun j u hu=>?_
  have h1:=qu w.drew ((chV L).toArray++Array.replicate (grownCap w L.length 0 21-L.length) (Value.int IntKind.i32 0)) 21 (0+j);refine Eq.trans ?_ (h1.trans ?_)
  ·rfl
  ·have hj:j<(chV L).length:=(List.getElem?_eq_some_iff.1 hu).1;rw [Lo,Array.getElem?_append_left (by simpa using hj)]
   simpa using hu
 ·exact grownCap_ge w L.length 0 _
def U8 (w:World):Prop:=Lib.Utf8Tabs (Tryz.laysValid_ren.g 3) (Tryz.laysValid_ren.g 4) w
theorem U8.below {w w':World} (h:U8 w) (hb:Below w.heap.size w w'):U8 w':=by
 refine ⟨fun c hc=>?_,fun i hi=>?_⟩
 ·have:=h.1 c hc;exact (hb.cell (yY this)).trans this
 ·have h1:=(h.2 i hi).1;have h2:=(h.2 i hi).2;exact ⟨(hb.cell (yY h1)).trans h1,(hb.cell (yY h2)).trans h2⟩
theorem valid_ (s:ByteArray) (hs:s.size<=1000000000) (w:World) (hu:U8 w):Calls prog 115 #[.string s] w (qh (.bool (vb s)) w):=by
 have HC:Hid (Calls prog 133 #[.string s] w (qh (.bool (vb s)) w)):=Lh (by
  have h:=Any.utf8_ValidString Tryz.laysValid s w L0 hu;rw [qjF] at h
  exact h)
 generalize vb s=R at *
 clear hu
 go_enter func115,ntmps115
 go_wp2_with (go_at_call 133;refine HC.out.mono ?_;rintro e w1 ⟨rfl,hbel1⟩)
 go_ret;exact ⟨rfl,hbel1⟩
def byV (l:List Nat):List Value:=l.map fun (b:Nat)=>Value.int .u8 (b:Int)
theorem qh8 {r:Nat} (h:qR r) : ∀ b∈vQ r,b<256:=by
 unfold qR at h;unfold vQ;intro b hb
 split at hb
 ·simp only [List.mem_cons,List.not_mem_nil,or_false] at hb
  omega
 ·split at hb
  ·simp only [List.mem_cons,List.not_mem_nil,or_false] at hb
   omega
  ·split at hb
   ·simp only [List.mem_cons,List.not_mem_nil,or_false] at hb
    omega
   ·simp only [List.mem_cons,List.not_mem_nil,or_false] at hb
    omega
theorem qfs {r:Nat} (h:qR r):Lib.runeCells (r:Int)=byV (vQ r):=by
 unfold Lib.runeCells byV;rw [encodeZ h,List.map_map]
 rfl
theorem vt {w:World} {base size n:Nat} {e:TypeId} {v:Value} {xs:List Value} (h:w.ownsRow base e size v n xs) : ∃ A c,v = .slice A n c:=by
 rcases h.2 with ⟨rfl,rfl⟩ | ⟨g,cap,cur,rfl,_⟩
 ·exact ⟨none,0,rfl⟩
 ·exact ⟨_,_,rfl⟩
theorem qgb {w:World} {B n c:Nat} {A:Option Addr} {l:List Nat} (rd:Rd w B 1 A n (byV l)) (hn:l.length=n) (h0:0<n) (hl : ∀ b∈l,b<256) :
  (convert 172 9 (.slice A n c)).run prog w = .ok (.string ⟨(l.map fun b=>UInt8.ofNat b).toArray⟩) w:=by
 obtain ⟨b,o,rfl,_,hc⟩:=rd.2 h0
 have h:=run_convert_bytes_back (P:=prog) w _ _ _ ⟨b,o,none⟩ c (l.map fun b=>UInt8.ofNat b) underlying172 underlying5 underlying9 (fun j hj=>by
  have hjl:j<l.length:=by simpa using hj
  rw [vl,hc j (.int .u8 (l[j]:Int)) (by simp [byV,hjl])];have:=hl _ (Lt hjl);simp only [List.getElem_map,UInt8.toNat_ofNat']
  congr 2
  omega)
 rw [Lq,hn] at h;exact h
theorem qiC (r:Nat) (hr:qR r) (A:Option Addr) (c B:Nat) (w:World) (rd:Rd w B 1 A 1 (chV [r])) (hB:B<=w.heap.size):Calls prog 194 #[.slice A 1 c] w (qh (.string (kt r)) w):=by
 obtain ⟨b,o,rfl,hbB,hc⟩:=rd.2 L0;have hcell:w.cell? ⟨b,o,none⟩=some (.int .i32 (r:Int)):=hc 0 _ rfl;have hr2:(r:Int)<=2147483647:=by unfold qR at hr;omega
 have HC:=Lh (qfs hr);have HL:Hid (∀ b∈vQ r,b<256):=Lh (qh8 hr);have HP:=Lh (qaR r);have hl4:=(qaR r).2;unfold kt;generalize vQ r=E at *
 clear hc rd
 go_enter func194,ntmps194
 go_wp2
 go_loopw [3,8] (fun v x wr=>∃ k:Nat,k<=1/\x = .int .i64 k/\Below w.heap.size w wr/\((k=0/\v = .slice none 0 0)∨(k=1/\∃ A' c',v = .slice A' E.length c'/\wr.ownsRow w.heap.size 5 1 (.slice A' E.length c') E.length (byV E)))) (fun _ x _=>1-(intOf x).toNat)
 case atStart=>exact ⟨0,by omega,rfl,Le _ _,.inl ⟨rfl,rfl⟩⟩
 case round =>
  obtain ⟨k,hk,rfl,hbel,hcase⟩:=hrel
  rcases hcase with ⟨rfl,rfl⟩ | ⟨rfl,A',c',rfl,hown⟩
  ·have hcell2:=(hbel.cell (by omega:b<w.heap.size)).trans hcell
   go_wp2_with (go_at_call 206;refine (Tryz.utf8_AppendRune_plain w.heap.size _ 0 [] (r:Int) L0 hr2 _ (zY _ _ _ _) L0 hbel.size).mono ?_;rintro e w1 ⟨v1,rfl,hown1,o1,hg1⟩)
   rw [HC.out] at hown1;have hlen:(byV E).length=E.length:=by simp [byV]
   rw [hlen,Lo,Lg] at hown1;obtain ⟨A',c',rfl⟩:=vt hown1;refine ⟨⟨1,by omega,by go_num,?_,.inr ⟨rfl,A',c',rfl,hown1⟩⟩,by simp [intOf]⟩;exact (hbel.alloc hbel.size o1).grown hg1 (by have:=hbel.size;simp;omega) (fun k hk=>by cases hk)
  ·have HV:=Lh (qgb (c:=c') (Rd.of_own hown) rfl HP.out.1 HL.out);have HV2:=HV.out;go_wp2;go_ret;exact ⟨rfl,hbel⟩
def Dj (a b:Option Nat):Prop:=∀ k,a=some k->b=some k->False
theorem Dj.symm {a b:Option Nat} (h:Dj a b):Dj b a:=fun k h1 h2=>h k h2 h1
theorem Dj.new {a b b':Option Nat} {N:Nat} (h:Dj a b) (hb:b'=b∨b'=some N) (ha : ∀ k,a=some k->k<N):Dj a b':=by
 rcases hb with rfl | rfl
 ·exact h
 ·intro k h1 h2;have:=ha k h1
  injection h2 with h2
  omega
theorem Dj.ne {a b:Option Nat} (h:Dj a b):a=none∨a≠b:=by
 cases a with
 | none=>exact .inl rfl
 | some k=>exact .inr fun e=>h k rfl e.symm
end Go.Proofs.YtbogmeeijdaijaaGreatDoor
namespace Go.Proofs.YtbogmeeijdaijaaGreatDoor
open Go.Proofs.Tryz Go.RowKit
set_option maxRecDepth 100000
def yI (rs:List Nat):ByteArray:=⟨((zm rs).map fun b=>UInt8.ofNat b).toArray⟩
theorem qf8 (rs:List Nat):(zm rs).length<=4 * rs.length:=by
 induction rs with
 | nil=>simp [zm]
 | cons r t ih =>
  have e:zm (r::t)=vQ r++zm t:=by simp [zm]
  have:=qaR r;rw [e,Lf,Lp]
  omega
theorem qfl {rs:List Nat} (h : ∀ r∈rs,qR r) : ∀ b∈zm rs,b<256:=by
 intro b hb;rw [zm,List.mem_flatMap] at hb;obtain ⟨r,hr,hb⟩:=hb;exact qh8 (h r hr) b hb
end Go.Proofs.YtbogmeeijdaijaaGreatDoor
namespace Go.Proofs.YtbogmeeijdaijaaGreatDoor
open Go.Proofs.Tryz Go.RowKit
set_option maxRecDepth 20000
def qaN (t:List (Int × Int)):List Value:=t.flatMap fun p=>[.int .i32 p.1,.int .i32 p.2]
theorem qgv : ∀ (t:List (Int × Int)) (i:Nat) (h:i<t.length),(qaN t)[i * 2]? = some (.int .i32 t[i].1)/\(qaN t)[i * 2+1]? = some (.int .i32 t[i].2)
 | [],i,h=>by cases h
 | p::t,0,_=>⟨rfl,rfl⟩
 | p::t,i+1,h=>by
  have e:qaN (p::t) = .int .i32 p.1::.int .i32 p.2::qaN t:=by simp [qaN]
  obtain ⟨h1,h2⟩:=qgv t i (by simpa using h);rw [e];refine ⟨?_,?_⟩
  ·rw [show (i+1) * 2=i * 2+1+1 by omega,Lc,Lc];exact h1
  ·rw [show (i+1) * 2+1=i * 2+1+1+1 by omega,Lc,Lc];exact h2
theorem qhj {w:World} {B n:Nat} {A:Option Addr} {t:List (Int × Int)} (rd:Rd w B 2 A n (qaN t)) {i:Nat} (hi:i<t.length) (hn:t.length=n) :
  ∃ b o,A=some ⟨b,o,none⟩/\w.cell? ⟨b,o+i * 2,none⟩=some (.int .i32 t[i].1)/\w.cell? ⟨b,o+i * 2+1,none⟩=some (.int .i32 t[i].2):=by
 obtain ⟨b,o,e,_,hc⟩:=rd.2 L0;obtain ⟨h1,h2⟩:=qgv t i hi;exact ⟨b,o,e,hc _ _ h1,hc _ _ h2⟩
theorem found (t:List (Int × Int)) (ha:qbT t) (hu : ∀ p∈t,p.1<=p.2) (r:Int) (g n c B:Nat) (A:Option Addr) (w:World) (hn:t.length=n) (hb:n<=1000) (hbox:w.cell? ⟨g,0,none⟩=some (.slice A n c)) (rd:Rd w B 2 A n (qaN t)) :
  Calls prog 157 #[.int .i32 r,.pointer (some ⟨g,0,none⟩)] w (Quiet (.bool (inT t r)) w):=by
 have HF:Hid (∀ k,(∀ j (h:j<t.length),j<k->t[j].2<r)->(∀ j (h:j<t.length),k<=j->r<=t[j].2)->k<=t.length->inT t r=if h:k<t.length then decide (t[k].1<=r) else false):=Lh fun k h1 h2 h3=>qiP ha h1 h2 h3
 have HN:=Lh hn;have HM:Hid (∀ i j (hi:i<t.length) (hj:j<t.length),i<=j->t[i].2<=t[j].2):=Lh fun i j hi hj h=>tab_mono ha hu h hj
 generalize inT t r=R at *
 clear ha hu hn
 go_enter func157,ntmps157
 go_wp2
 go_quiet (fail)
 go_wp2
 go_loopw [4,5] (fun x y wr=>∃ a b j:Nat,a<=b/\b<=n/\x = .int .i64 a/\y = .int .i64 b/\wr=w.drewN j/\Hid (∀ j (h:j<t.length),j<a->t[j].2<r)/\Hid (∀ j (h:j<t.length),b<=j->r<=t[j].2)) (fun x y _=>(intOf y).toNat-(intOf x).toNat)
 case atStart=>exact ⟨0,n,_,Nat.zero_le _,Ld _,rfl,rfl,rfl,Lh fun j h h2=>absurd h2 (Nat.not_lt_zero j),Lh fun j h h2=>absurd h2 (by have:=HN.out;omega)⟩
 case round =>
  obtain ⟨a,b,j,hab,hbn,rfl,rfl,rfl,HA,HB⟩:=hrel
  by_cases hlt:a<b
  ·have e1:IntKind.i64.wrap ((a:Int)+(b:Int))=(a:Int)+(b:Int):=IntWalk.i64_in _ L0;have e2:((a:Int)+(b:Int)).tdiv 2=(((a+b) / 2:Nat):Int):=by
    rw [show (a:Int)+(b:Int)=((a+b:Nat):Int) by omega,Int.tdiv_eq_ediv_of_nonneg L0]
    rfl
   have hm1:a<=(a+b) / 2:=by omega
   have hm2:(a+b) / 2<b:=by omega
   generalize (a+b) / 2=m at *
   have hml:m<t.length:=by have:=HN.out;omega
   obtain ⟨bb,oo,rfl,c1,c2⟩:=qhj rd hml HN.out;have e3:IntKind.i64.wrap (m:Int)=(m:Int):=IntWalk.i64_in _ L0
   by_cases hr:t[m].2<r
   ·have HA2:Hid (∀ j (h:j<t.length),j<m+1->t[j].2<r):=Lh fun j h h2=>by
     have:=HM.out j m h hml L0
     omega
    generalize t[m].2=z at *
    clear c1;go_wp2;exact ⟨⟨m+1,b,_,by omega,hbn,by go_num,rfl,rfl,HA2,HB⟩,by simp [intOf];omega⟩
   ·have HB2:Hid (∀ j (h:j<t.length),m<=j->r<=t[j].2):=Lh fun j h h2=>by
     have:=HM.out m j hml h h2
     omega
    generalize t[m].2=z at *
    clear c1;go_wp2;exact ⟨⟨a,m,_,hm1,by omega,rfl,by go_num,rfl,HA,HB2⟩,by simp [intOf];omega⟩
  ·obtain rfl:a=b:=by omega
   have HR:=Lh (HF.out a HA.out HB.out (by have:=HN.out;omega))
   by_cases hal:a<n
   ·have hal':a<t.length:=by have:=HN.out;omega
    obtain ⟨bb,oo,rfl,c1,c2⟩:=qhj rd hal' HN.out;have HR2:Hid (R=decide (t[a].1<=r)):=Lh (by rw [HR.out,dif_pos hal']);generalize t[a].1=z at *
    clear c2 HR;go_wp2;go_ret;exact ⟨by rw [HR2.out];rfl,_,rfl⟩
   ·have HR2:Hid (R=false):=Lh (by rw [HR.out,dif_neg (by have:=HN.out;omega)]);clear HR;go_wp2;go_ret;exact ⟨by rw [HR2.out];rfl,_,rfl⟩
theorem marks_ (w:World):Calls prog 156 #[] w (ql 200 2 id w 7 (qaN qM)):=by
 go_enter func156,ntmps156
 go_wp2;go_ret;exact ⟨_,_,rfl,qx (xs:=qaN qM) rfl rfl (Ld _) L0,L5⟩
theorem wide_ (w:World):Calls prog 136 #[] w (ql 200 2 id w 14 (qaN y8)):=by
 go_enter func136,ntmps136
 go_wp2;go_ret;exact ⟨_,_,rfl,qx (xs:=qaN y8) rfl rfl (Ld _) L0,L5⟩
theorem qiz (A:Option Addr) (n c:Nat) (w:World):Calls prog 135 #[.slice A n c] w fun e w'=>e = .returned (.func (.func 157) #[] #[.pointer (some ⟨w.heap.size,0,none⟩)])/\w.alloc (.cells #[.slice A n c] 178)=w':=by
 go_enter func135,ntmps135
 go_wp2;go_ret;exact ⟨rfl,rfl⟩
theorem mark_ (r:Int) (w:World):Calls prog 134 #[.int .i32 r] w (qh (.bool (inT qM r)) w):=by
 have HF:Hid (∀ g c B A w,w.cell? ⟨g,0,none⟩=some (.slice A 7 c)->Rd w B 2 A 7 (qaN qM)->Calls prog 157 #[.int .i32 r,.pointer (some ⟨g,0,none⟩)] w (Quiet (.bool (inT qM r)) w)):=Lh fun g c B A w h1 h2=>found qM qhz mark_up r g 7 c B A w rfl L0 h1 h2
 generalize inT qM r=R at *
 go_enter func134,ntmps134
 go_wp2_with (first
  | (go_at_call 156;refine (marks_ _).mono ?_;rintro e w1 ⟨A1,c1,rfl,hown1,hbel1⟩)
  | (go_at_call 135;refine (qiz _ _ _ _).mono ?_;rintro e w2 ⟨rfl,rfl⟩)
  | (go_at_call 157;go_loud (refine (HF.out w1.heap.size c1 _ A1 _ (qu w1 #[.slice A1 7 c1] _ 0) (Rd.of_own (qb hown1 L5))).mono ?_);rintro e w3 ⟨rfl,q3,rfl⟩))
 go_ret;exact ⟨rfl,qf (hbel1.alloc hbel1.size _)⟩
theorem qgk {r:Int} (h:r<32∨(127<=r/\r<=159)):zR r = -1:=if_pos h
theorem qew {r:Int} (h : ¬ (r<32∨(127<=r/\r<=159))) (hm:inT qM r=true):zR r=0:=by unfold zR;rw [if_neg h,if_pos hm]
theorem qen {r:Int} (h : ¬ (r<32∨(127<=r/\r<=159))) (hm:inT qM r=false):zR r=if inT y8 r=true then 2 else 1:=by unfold zR;rw [if_neg h,if_neg (by simp [hm])]
theorem qgZ (r:Int) (w:World):Calls prog 116 #[.int .i32 r] w (qh (.int .i64 (zR r)) w):=by
 have HF:Hid (∀ g c B A w,w.cell? ⟨g,0,none⟩=some (.slice A 14 c)->Rd w B 2 A 14 (qaN y8)->Calls prog 157 #[.int .i32 r,.pointer (some ⟨g,0,none⟩)] w (Quiet (.bool (inT y8 r)) w)):=Lh fun g c B A w h1 h2=>found y8 qhf wide_up r g 14 c B A w rfl L0 h1 h2
 have HM:=Lh (mark_ r);have H0:=Lh (@qgk r);have H1:=Lh (@qew r);have H2:=Lh (@qen r);generalize zR r=W at *
 by_cases hc:r<32∨(127<=r/\r<=159)
 ·have HW:Hid (W = -1):=Lh (H0.out hc);clear H0 H1 H2 HM HF
  rcases hc with hc | ⟨hc1,hc2⟩
  ·go_enter func116,ntmps116
   go_wp2;go_ret;exact ⟨by rw [HW.out];rfl,by first | exact Le _ _ | exact qf (Le _ _)⟩
  ·have hc3 : ¬ r<32:=by omega
   go_enter func116,ntmps116
   go_wp2;go_ret;exact ⟨by rw [HW.out];rfl,by first | exact Le _ _ | exact qf (Le _ _)⟩
 ·generalize inT qM r=M at *
  cases M with
  | true =>
   have HW:Hid (W=0):=Lh (H1.out hc rfl);clear H0 H1 H2 HF;rw [not_or] at hc;obtain ⟨hc0,hc⟩:=hc
   by_cases hc1:127<=r
   ·have hc2 : ¬ r<=159:=by omega
    clear hc
    go_enter func116,ntmps116
    go_wp2_with (go_at_call 134;refine (HM.out _).mono ?_;rintro e w1 ⟨rfl,hbel1⟩)
    go_ret;exact ⟨by rw [HW.out];rfl,hbel1⟩
   ·clear hc
    go_enter func116,ntmps116
    go_wp2_with (go_at_call 134;refine (HM.out _).mono ?_;rintro e w1 ⟨rfl,hbel1⟩)
    go_ret;exact ⟨by rw [HW.out];rfl,hbel1⟩
  | false =>
   have HW:Hid (W=if inT y8 r=true then 2 else 1):=Lh (H2.out hc rfl);generalize inT y8 r=V at *
   clear H0 H1 H2;rw [not_or] at hc;obtain ⟨hc0,hc⟩:=hc;have hd:127<=r/\¬ r<=159∨¬ 127<=r:=by omega
   clear hc
   rcases hd with ⟨hc1,hc2⟩ | hc1 <;> cases V <;>
   ·go_enter func116,ntmps116
    go_wp2_with (first
     | (go_at_call 134;refine (HM.out _).mono ?_;rintro e w1 ⟨rfl,hbel1⟩)
     | (go_at_call 136;refine (wide_ _).mono ?_;rintro e w2 ⟨A2,c2,rfl,hown2,hbel2⟩;have t2:=hbel1.trans (hbel2.mono hbel1.size))
     | (go_at_call 135;refine (qiz _ _ _ _).mono ?_;rintro e w3 ⟨rfl,rfl⟩)
     | (go_at_call 157;go_loud (refine (HF.out w2.heap.size c2 _ A2 _ (qu w2 #[.slice A2 14 c2] _ 0) (Rd.of_own (qb hown2 L5))).mono ?_);rintro e w4 ⟨rfl,q4,rfl⟩))
    go_ret;exact ⟨by rw [HW.out];rfl,qf (t2.alloc t2.size _)⟩
theorem marked_ (rs:List Nat) (A:Option Addr) (n c B:Nat) (w:World) (hn:rs.length=n) (hb:n<=100000000000) (rd:Rd w B 1 A n (chV rs)) (hB:B<=w.heap.size) :
  Calls prog 117 #[.slice A n c] w (qh (.bool (rs.all fun (x:Nat)=>inT qM (x:Int))) w):=by
 have HF:Hid ((rs.all fun (x:Nat)=>inT qM (x:Int))=((rs.drop 0).all fun (x:Nat)=>inT qM (x:Int))):=Lh rfl;have HN:=Lh hn;generalize (rs.all fun (x:Nat)=>inT qM (x:Int))=R at *
 clear hn
 go_enter func117,ntmps117
 go_wp2
 go_loopw [7] (fun x wr=>∃ k:Nat,k<=n/\x = .int .i64 k/\Below w.heap.size w wr/\Hid (R=((rs.drop k).all fun (x:Nat)=>inT qM (x:Int)))) (fun x _=>n-(intOf x).toNat)
 case atStart=>exact ⟨0,Nat.zero_le _,rfl,Le _ _,HF⟩
 case round =>
  obtain ⟨k,hk,rfl,hbel,HR⟩:=hrel
  by_cases hlt:k<n
  ·have hkl:k<rs.length:=by have:=HN.out;omega
   obtain ⟨b,o,rfl,hbB,hc⟩:=(rd.keep (w':=wr) fun p hp=>hbel.cell L0).at_ hlt;rw [qft _ _ hkl] at hc;have HD:Hid (rs.drop k=rs[k]::rs.drop (k+1)):=Lh (Ls hkl);generalize rs[k]=x at *
   have HM:=Lh (mark_ (x:Int) wr);have HT:Hid (inT qM (x:Int)=true->R=((rs.drop (k+1)).all fun (x:Nat)=>inT qM (x:Int))):=Lh fun h=>by rw [HR.out,HD.out,List.all_cons,h,Bool.true_and]
   have HZ:Hid (inT qM (x:Int)=false->R=false):=Lh fun h=>by rw [HR.out,HD.out,List.all_cons,h,Bool.false_and]
   generalize inT qM (x:Int)=M at *
   clear HR HD
   cases M with
   | true =>
    have HR2:=Lh (HT.out rfl)
    go_wp2_with (go_at_call 134;refine HM.out.mono ?_;rintro e w1 ⟨rfl,hbel1⟩)
    exact ⟨⟨k+1,by omega,by go_num,hbel.trans (hbel1.mono hbel.size),HR2⟩,by simp [intOf];omega⟩
   | false =>
    have HR2:=Lh (HZ.out rfl)
    go_wp2_with (go_at_call 134;refine HM.out.mono ?_;rintro e w1 ⟨rfl,hbel1⟩)
    go_ret;exact ⟨by rw [HR2.out];rfl,hbel.trans (hbel1.mono hbel.size)⟩
  ·have HR2:Hid (R=true):=Lh (by rw [HR.out,Lv (by have:=HN.out;omega)];rfl);go_wp2;go_ret;exact ⟨by rw [HR2.out];rfl,hbel⟩
end Go.Proofs.YtbogmeeijdaijaaGreatDoor
