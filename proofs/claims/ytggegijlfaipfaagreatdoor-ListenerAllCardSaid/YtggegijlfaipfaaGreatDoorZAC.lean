/- Joined: Lib2, Lt1, Un0, Un2, Ut4, Lib3, Row, Un3, Un4, Rn1, Rn2, Rn3, Rn4, Ch1, Ch2, Ch3, Cl1, Cl2, Rn5. -/
import Derived.Lib.Explode
import Derived.Shelf.Unicode.ValidAny
import Derived.SliceStrings
import Derived.ChangeSlices
import Derived.ProofKit
import Derived.OpenShut
import Derived.ShutString
import Derived.Laws.IdiomStrings
import Derived.Test.YtggegijlfaipfaaGreatDoorZAB
set_option linter.unusedVariables false
set_option linter.unusedSimpArgs false
set_option linter.unnecessarySimpa false
set_option maxHeartbeats 4000000
namespace Go.Proofs
open Go.Shelf
def Tryz.lays158_ren:Go.Shelf.Ren:=⟨fun | 158=>163 | 165=>174 | 166=>175 | 167=>176 | 169=>177 | 230=>178 | 203=>179 | 240=>184 | 241=>185 | 197=>186 | 118=>187 | 168=>188 | 270=>189 | 262=>190 | 276=>196 | 277=>197 | 260=>198 | 242=>195 | 313=>199 | 278=>201 | 274=>202 | 275=>203 | n=>n,fun | 9=>9 | 4=>4 | 3=>3 | 5=>5 | 72=>224 | 0=>0 | 76=>227 | 75=>226 | 107=>231 | 70=>222 | 20=>20 | 37=>184 | 127=>236 | 21=>21 | 105=>194 | 164=>245 | 162=>249 | 203=>241 | 119=>64 | 46=>145 | 139=>182 | 138=>181 | 51=>93 | 160=>251 | 208=>257 | 206=>255 | 80=>215 | n=>n,fun | 13=>7 | 3=>2 | 4=>3 | n=>n⟩
theorem Tryz.lays158:Go.Proofs.Lays.n158 Tryz.prog Tryz.lays158_ren:={
 mixed:=by kernel_rfl
 f118:=Tryz.func187.trans (congrArg some (by kernel_rfl))
 f158:=Tryz.func163.trans (congrArg some (by kernel_rfl))
 f165:=Tryz.func174.trans (congrArg some (by kernel_rfl))
 f166:=Tryz.func175.trans (congrArg some (by kernel_rfl))
 f167:=Tryz.func176.trans (congrArg some (by kernel_rfl))
 f168:=Tryz.func188.trans (congrArg some (by kernel_rfl))
 f169:=Tryz.func177.trans (congrArg some (by kernel_rfl))
 f197:=Tryz.func186.trans (congrArg some (by kernel_rfl))
 f203:=Tryz.func179.trans (congrArg some (by kernel_rfl))
 f230:=Tryz.func178.trans (congrArg some (by kernel_rfl))
 f240:=Tryz.func184.trans (congrArg some (by kernel_rfl))
 f241:=Tryz.func185.trans (congrArg some (by kernel_rfl))
 f242:=Tryz.func195.trans (congrArg some (by kernel_rfl))
 f260:=Tryz.func198.trans (congrArg some (by kernel_rfl))
 f262:=Tryz.func190.trans (congrArg some (by kernel_rfl))
 f270:=Tryz.func189.trans (congrArg some (by kernel_rfl))
 f274:=Tryz.func202.trans (congrArg some (by kernel_rfl))
 f275:=Tryz.func203.trans (congrArg some (by kernel_rfl))
 f276:=Tryz.func196.trans (congrArg some (by kernel_rfl))
 f277:=Tryz.func197.trans (congrArg some (by kernel_rfl))
 f278:=Tryz.func201.trans (congrArg some (by kernel_rfl))
 f313:=Tryz.func199.trans (congrArg some (by kernel_rfl))
 t0:=Tryz.underlying0
 a0:=Tryz.isAgg0
 z0:=Tryz.sizeOf0
 v0:=Tryz.zeroValue0
 t3:=Tryz.underlying3
 a3:=Tryz.isAgg3
 z3:=Tryz.sizeOf3
 v3:=Tryz.zeroValue3
 t4:=Tryz.underlying4
 a4:=Tryz.isAgg4
 z4:=Tryz.sizeOf4
 v4:=Tryz.zeroValue4
 t5:=Tryz.underlying5
 a5:=Tryz.isAgg5
 z5:=Tryz.sizeOf5
 v5:=Tryz.zeroValue5
 t9:=Tryz.underlying9
 a9:=Tryz.isAgg9
 z9:=Tryz.sizeOf9
 v9:=Tryz.zeroValue9
 t20:=Tryz.underlying20
 a20:=Tryz.isAgg20
 z20:=Tryz.sizeOf20
 v20:=Tryz.zeroValue20
 t21:=Tryz.underlying21
 a21:=Tryz.isAgg21
 z21:=Tryz.sizeOf21
 v21:=Tryz.zeroValue21
 t37:=Tryz.underlying184
 a37:=Tryz.isAgg184
 z37:=Tryz.sizeOf184
 v37:=Tryz.zeroValue184
 t46:=Tryz.underlying145
 a46:=Tryz.isAgg145
 z46:=Tryz.sizeOf145
 v46:=Tryz.zeroValue145
 t51:=Tryz.underlying93
 a51:=Tryz.isAgg93
 z51:=Tryz.sizeOf93
 v51:=Tryz.zeroValue93
 t70:=Tryz.underlying222
 a70:=Tryz.isAgg222
 z70:=Tryz.sizeOf222
 v70:=Tryz.zeroValue222
 t72:=Tryz.underlying224
 a72:=Tryz.isAgg224
 z72:=Tryz.sizeOf224
 v72:=Tryz.zeroValue224
 t75:=Tryz.underlying226
 a75:=Tryz.isAgg226
 z75:=Tryz.sizeOf226
 v75:=Tryz.zeroValue226
 t76:=Tryz.underlying227
 a76:=Tryz.isAgg227
 z76:=Tryz.sizeOf227
 v76:=Tryz.zeroValue227
 t105:=Tryz.underlying194
 a105:=Tryz.isAgg194
 z105:=Tryz.sizeOf194
 v105:=Tryz.zeroValue194
 t107:=Tryz.underlying231
 a107:=Tryz.isAgg231
 z107:=Tryz.sizeOf231
 v107:=Tryz.zeroValue231
 t119:=Tryz.underlying64
 a119:=Tryz.isAgg64
 z119:=Tryz.sizeOf64
 t127:=Tryz.underlying236
 a127:=Tryz.isAgg236
 z127:=Tryz.sizeOf236
 v127:=Tryz.zeroValue236
 t138:=Tryz.underlying181
 a138:=Tryz.isAgg181
 z138:=Tryz.sizeOf181
 v138:=Tryz.zeroValue181
 t139:=Tryz.underlying182
 a139:=Tryz.isAgg182
 z139:=Tryz.sizeOf182
 v139:=Tryz.zeroValue182
 t160:=Tryz.underlying251
 a160:=Tryz.isAgg251
 z160:=Tryz.sizeOf251
 v160:=Tryz.zeroValue251
 t162:=Tryz.underlying249
 a162:=Tryz.isAgg249
 z162:=Tryz.sizeOf249
 v162:=Tryz.zeroValue249
 t164:=Tryz.underlying245
 a164:=Tryz.isAgg245
 z164:=Tryz.sizeOf245
 v164:=Tryz.zeroValue245
 t203:=Tryz.underlying241
 a203:=Tryz.isAgg241
 z203:=Tryz.sizeOf241
 v203:=Tryz.zeroValue241
 t206:=Tryz.underlying255
 a206:=Tryz.isAgg255
 z206:=Tryz.sizeOf255
 v206:=Tryz.zeroValue255
 t208:=Tryz.underlying257
 a208:=Tryz.isAgg257
 z208:=Tryz.sizeOf257
 v208:=Tryz.zeroValue257
 g3:=by kernel_rfl
 g4:=by kernel_rfl
 g13:=by kernel_rfl }
def Tryz.lays242_ren:Go.Shelf.Ren:=⟨fun | 242=>195 | 278=>201 | n=>n,fun | 37=>184 | 21=>21 | 51=>93 | 4=>4 | 5=>5 | 46=>145 | n=>n,fun | n=>n⟩
theorem Tryz.lays242:Go.Proofs.Lays.n242 Tryz.prog Tryz.lays242_ren:={
 mixed:=by kernel_rfl
 f242:=Tryz.func195.trans (congrArg some (by kernel_rfl))
 f278:=Tryz.func201.trans (congrArg some (by kernel_rfl))
 t4:=Tryz.underlying4
 a4:=Tryz.isAgg4
 z4:=Tryz.sizeOf4
 v4:=Tryz.zeroValue4
 t5:=Tryz.underlying5
 a5:=Tryz.isAgg5
 z5:=Tryz.sizeOf5
 v5:=Tryz.zeroValue5
 t21:=Tryz.underlying21
 a21:=Tryz.isAgg21
 z21:=Tryz.sizeOf21
 v21:=Tryz.zeroValue21
 t37:=Tryz.underlying184
 a37:=Tryz.isAgg184
 z37:=Tryz.sizeOf184
 v37:=Tryz.zeroValue184
 t46:=Tryz.underlying145
 a46:=Tryz.isAgg145
 z46:=Tryz.sizeOf145
 v46:=Tryz.zeroValue145
 t51:=Tryz.underlying93
 a51:=Tryz.isAgg93
 z51:=Tryz.sizeOf93
 v51:=Tryz.zeroValue93 }
theorem Tryz.Builder_Extra_158:Builder.Extra Tryz.prog Tryz.lays158_ren:={
 sizeBuilder:=by kernel_rfl
 liesBuilder:=by kernel_rfl
 t5:=Tryz.underlying5
 a5:=Tryz.isAgg5
 z5:=Tryz.sizeOf5
 v5:=Tryz.zeroValue5
 infoByte:=by kernel_rfl
 cellsByte:=by kernel_rfl
 sizeByte:=by kernel_rfl
 neB5:=by decide }
open Go.RowKit in
theorem Tryz.strings_ToUpper_ascii (s:ByteArray) (w:World) (hs:s.size<=140737488355328) (hascii : ∀ (j:Nat) (b:UInt8),s.data.toList[j]? = some b->b.toNat<128) :
  Calls Tryz.prog 163 #[.string s] w fun e w'=>e = .returned (.string ⟨(Lib.toUpperA s.data.toList).toArray⟩)/\Below w.heap.size w w':=Any.strings_ToUpper_ascii Tryz.lays158 Tryz.Builder_Extra_158 s w hs hascii
open Go.RowKit in
theorem Tryz.utf8_AppendRune_plain (B:Nat) (v:Value) (n:Nat) (xs:List Value) (r:Int) (hr0 : -2147483648<=r) (hr1:r<=2147483647) (w:World) (qnB:w.ownsRow B 5 1 v n xs) (qnQ:n+4<=140737488355328) (hBw:B<=w.heap.size) :
  Calls Tryz.prog 195 #[v,.int .i32 r] w fun e w'=>∃ v',e = .returned v'/\w'.ownsRow B 5 1 v' (n+(Lib.runeCells r).length) (xs++Lib.runeCells r)/\∃ o,(w.alloc o).grownBy w' v.ownBlock:=Any.utf8_AppendRune_plain Tryz.lays242 (by kernel_rfl) B v n xs r hr0 hr1 w qnB qnQ hBw
end Go.Proofs
namespace Go.Proofs.YtggegijlfaipfaaGreatDoor
open Go.Proofs.Tryz Go.RowKit
set_option maxRecDepth 20000
def StBox (w:World) (r:Int) (d s:Bool) (p:Int) (c:Bool) (k:Int) (g:Nat):Prop :=
 w.cell? ⟨g,0,none⟩=some (.int .i64 r)/\w.cell? ⟨g,1,none⟩=some (.bool d)/\w.cell? ⟨g,2,none⟩=some (.bool s)/\w.cell? ⟨g,3,none⟩=some (.int .i64 p)/\w.cell? ⟨g,4,none⟩=some (.bool c)/\w.cell? ⟨g,5,none⟩=some (.int .i64 k)
theorem StBox.new (w:World) (r:Int) (d s:Bool) (p:Int) (c:Bool) (k:Int) (t:TypeId):StBox (w.alloc (.cells #[.int .i64 r,.bool d,.bool s,.int .i64 p,.bool c,.int .i64 k] t)) r d s p c k w.heap.size :=
 ⟨qu w _ _ 0,qu w _ _ 1,qu w _ _ 2,qu w _ _ 3,qu w _ _ 4,qu w _ _ 5⟩
theorem StBox.below {w w':World} {B g:Nat} {r:Int} {d s:Bool} {p:Int} {c:Bool} {k:Int} (h:StBox w r d s p c k g) (hb:Below B w w') (hg:g<B):StBox w' r d s p c k g:=by
 obtain ⟨h0,h1,h2,h3,h4,h5⟩:=h;exact ⟨(hb.cell hg).trans h0,(hb.cell hg).trans h1,(hb.cell hg).trans h2,(hb.cell hg).trans h3,(hb.cell hg).trans h4,(hb.cell hg).trans h5⟩
end Go.Proofs.YtggegijlfaipfaaGreatDoor
namespace Go.Proofs.YtggegijlfaipfaaGreatDoor
theorem step_on {s:US} {b:Nat} {t out:List Nat} (h0:0<s.m) (h1:s.lo<=b) (h2:b<=s.hi) (h3:s.m≠1):zJ (b::t) (s,out)=zJ t (⟨s.v * 64+b % 64,s.m-1,0x80,0xBF⟩,out):=qdc (by omega) h1 h2 t out
theorem qj5 {s:US} {b:Nat} {t out:List Nat} (h0:s.m=1) (h1:s.lo<=b) (h2:b<=s.hi):zJ (b::t) (s,out)=zJ t (⟨s.v * 64+b % 64,s.m-1,0x80,0xBF⟩,out++[s.v * 64+b % 64]):=by rw [qbj h0 h1 h2,h0]
theorem qjq {s:US} {b:Nat} {t out:List Nat} (h0:0<s.m) (h1 : ¬ (s.lo<=b/\b<=s.hi)):zJ (b::t) (s,out)=zJ (b::t) (u0,out++[65533]):=by
 have e:qat s b=false:=by
  cases h:qat s b with
  | false=>rfl
  | true=>exact absurd (qcm.1 h).2 h1
 show zJ t (jU s b,out++ku s b)=zJ t (jU u0 b,out++[65533]++ku u0 b)
 have e0:qat u0 b=false:=qav rfl b;rw [jU,jU,e,e0,ku,ku,e,e0];simp only [Bool.false_eq_true,if_false,if_pos h0];rw [if_neg (show ¬ 0<u0.m from Nat.lt_irrefl 0)]
 simp
theorem step_asc {s:US} {b:Nat} {t out:List Nat} (h0:s.m=0) (h1:b<128):zJ (b::t) (s,out)=zJ t (zt b,out++[b]):=qgi h0 h1 t out
theorem step_bad {s:US} {b:Nat} {t out:List Nat} (h0:s.m=0) (h1 : ¬ b<128) (h2:(zt b).m=0):zJ (b::t) (s,out)=zJ t (zt b,out++[65533]):=by
 show zJ t (jU s b,out++ku s b)=_
 rw [jU,ku,qav h0];simp only [Bool.false_eq_true,if_false];rw [if_neg (by omega),if_neg h1,if_pos h2]
 rfl
theorem qje {s:US} {b:Nat} {t out:List Nat} (h0:s.m=0) (h1 : ¬ b<128) (h2:(zt b).m≠0):zJ (b::t) (s,out)=zJ t (zt b,out):=qbf h0 (by omega) rfl h2 t out
section
variable {l t outs : List Nat} {sv sm slo shi b : Nat} {F : US × List Nat}
theorem run_on (h:zJ l (⟨sv,sm,slo,shi⟩,outs)=F) (hl:l=b::t) (h0:0<sm) (h1:slo<=b) (h2:b<=shi) (h3:sm≠1):zJ t (⟨sv * 64+b % 64,sm-1,128,191⟩,outs)=F:=by
 rw [<- h,hl,step_on (s:=⟨sv,sm,slo,shi⟩) h0 h1 h2 h3]
theorem run_last (h:zJ l (⟨sv,1,slo,shi⟩,outs)=F) (hl:l=b::t) (h1:slo<=b) (h2:b<=shi):zJ t (⟨sv * 64+b % 64,0,128,191⟩,outs++[sv * 64+b % 64])=F:=by
 rw [<- h,hl,qj5 (s:=⟨sv,1,slo,shi⟩) rfl h1 h2]
 rfl
theorem run_back (h:zJ l (⟨sv,sm,slo,shi⟩,outs)=F) (hl:l=b::t) (h0:0<sm) (h1 : ¬ (slo<=b/\b<=shi)):zJ l (u0,outs++[65533])=F:=by
 rw [<- h,hl,qjq (s:=⟨sv,sm,slo,shi⟩) h0 h1]
theorem run_asc {s:US} (h:zJ l (s,outs)=F) (hl:l=b::t) (h0:s.m=0) (h1:b<128):zJ t (zt b,outs++[b])=F:=by
 rw [<- h,hl,step_asc h0 h1]
theorem run_bad {s:US} (h:zJ l (s,outs)=F) (hl:l=b::t) (h0:s.m=0) (h1 : ¬ b<128) (h2:(zt b).m=0):zJ t (zt b,outs++[65533])=F:=by
 rw [<- h,hl,step_bad h0 h1 h2]
theorem run_lead {s:US} (h:zJ l (s,outs)=F) (hl:l=b::t) (h0:s.m=0) (h1 : ¬ b<128) (h2:(zt b).m≠0):zJ t (zt b,outs)=F:=by
 rw [<- h,hl,qje h0 h1 h2]
end
def KeptU (K:List Nat) (s:US):Prop :=
 (s.m=0/\K=[])∨(0<s.m/\∃ b0 rest,K=b0::rest/\b0<256/\(zt b0).m=s.m+rest.length/\(rest=[]->zt b0=s)/\(rest≠[]->s.lo=128/\s.hi=191) /\
  rest.foldl (fun n b=>n * 64+b-128) (zt b0).v=s.v/\∀ x∈rest,128<=x/\x<=191)
theorem qgz:KeptU [] u0:=.inl ⟨rfl,rfl⟩
theorem KeptU.beg {b:Nat} (hb:b<256) (h:(zt b).m≠0):KeptU [b] (zt b):=.inr ⟨by omega,b,[],rfl,hb,rfl,fun _=>rfl,fun h=>absurd rfl h,rfl,fun x hx=>by cases hx⟩
theorem qf4 (b:Nat):128<=(zt b).lo/\(zt b).hi<=191:=by
 unfold zt;dsimp only
 constructor
 ·split
  ·omega
  ·split <;> omega
 ·split
  ·omega
  ·split <;> omega
theorem KeptU.snoc {K:List Nat} {s:US} {b:Nat} (h:KeptU K s) (h0:1<s.m) (h1:s.lo<=b) (h2:b<=s.hi):KeptU (K++[b]) ⟨s.v * 64+b % 64,s.m-1,0x80,0xBF⟩:=by
 rcases h with ⟨h,_⟩ | ⟨_,b0,rest,rfl,hb,hm,hr,hr2,hv,hx⟩
 ·omega
 ·have hb2:128<=b/\b<=191:=by
   by_cases e:rest=[]
   ·have:=hr e;subst this;have:=qf4 b0
    omega
   ·have:=hr2 e
    omega
  refine .inr ⟨by dsimp only;omega,b0,rest++[b],rfl,hb,?_,fun e=>absurd e (by simp),fun _=>⟨rfl,rfl⟩,?_,fun x h=>?_⟩
  ·rw [List.length_append,List.length_singleton];dsimp only
   omega
  ·rw [List.foldl_append,hv];dsimp only [List.foldl]
   omega
  ·rcases List.mem_append.1 h with h | h
   ·exact hx x h
   ·rw [List.mem_singleton] at h;subst h;exact hb2
def valU (K:List Nat):Nat:=match K with
 | []=>0
 | b0::rest=>rest.foldl (fun n b=>n * 64+b-128) (zt b0).v
theorem KeptU.whole {K:List Nat} {s:US} {b:Nat} (h:KeptU K s) (h0:s.m=1) (h1:s.lo<=b) (h2:b<=s.hi):valU (K++[b])=s.v * 64+b % 64/\∃ b0 rest,K++[b]=b0::rest/\b0<256/\(zt b0).m=rest.length/\0<rest.length/\∀ x∈rest,128<=x/\x<=191:=by
 rcases h with ⟨h,_⟩ | ⟨_,b0,rest,rfl,hb,hm,hr,hr2,hv,hx⟩
 ·omega
 ·have hb2:128<=b/\b<=191:=by
   by_cases e:rest=[]
   ·have:=hr e;subst this;have:=qf4 b0
    omega
   ·have:=hr2 e
    omega
  refine ⟨?_,b0,rest++[b],rfl,hb,by rw [List.length_append,List.length_singleton];omega,by simp,fun x h=>?_⟩
  ·show (rest++[b]).foldl _ (zt b0).v=_
   rw [List.foldl_append,hv];dsimp only [List.foldl]
   omega
  ·rcases List.mem_append.1 h with h | h
   ·exact hx x h
   ·rw [List.mem_singleton] at h;subst h;exact hb2
def limU (K:List Nat):Nat × Nat × Nat:=match K with
 | []=>(0,255,0)
 | b::rest=>(if rest=[] then (zt b).lo else 128,if rest=[] then (zt b).hi else 191,if (zt b).m=0 then 0 else (zt b).m+1)
theorem KeptU.lim {K:List Nat} {s:US} (h:KeptU K s) (hK:0<s.m):limU K=(s.lo,s.hi,K.length+s.m):=by
 rcases h with ⟨h,_⟩ | ⟨_,b0,rest,rfl,hb,hm,hr,hr2,hv,hx⟩
 ·omega
 ·unfold limU;dsimp only;rw [if_neg (show ¬ (zt b0).m=0 by omega),hm]
  by_cases e:rest=[]
  ·rw [if_pos e,if_pos e,hr e,e]
   simp
   omega
  ·obtain ⟨a,c⟩:=hr2 e;rw [if_neg e,if_neg e,a,c]
   simp
   omega
end Go.Proofs.YtggegijlfaipfaaGreatDoor
namespace Go.Proofs.YtggegijlfaipfaaGreatDoor
open Go.Proofs.Tryz Go.RowKit
set_option maxRecDepth 20000
def chV (l:List Nat):List Value:=l.map fun (r:Nat)=>Value.int .i32 (r:Int)
theorem chV_len (l:List Nat):(chV l).length=l.length:=by simp [chV]
theorem chV_one (l:List Nat):(chV l).all Value.oneCell'=true:=by
 rw [List.all_eq_true];intro u hu
 simp [chV] at hu
 obtain ⟨i,_,rfl⟩:=hu
 rfl
theorem chV_app (a b:List Nat):chV (a++b)=chV a++chV b:=by simp [chV]
theorem qft (l:List Nat) (k:Nat) (h:k<l.length):(chV l)[k]? = some (.int .i32 (l[k]:Int)):=by simp [chV,h]
theorem qdd:Elt prog 147 21 (.int .i32 0) 1 4 where
 und:=underlying147
 row:=by
  have h:(prog.info? 21).map (fun i=>(i.zero,i.size,i.bytes))=some (some (.int .i32 0),1,4):=by kernel_rfl
  obtain ⟨i,hi,a,b,c⟩:=info_parts h;exact ⟨i,hi,a,b,c⟩
 zs:=rfl
 pos:=by decide
theorem own_keep {w w':World} {base size n:Nat} {e:TypeId} {v:Value} {xs:List Value} (h:w.ownsRow base e size v n xs) (hk : ∀ k,base<=k->w'.heap[k]? = w.heap[k]?):w'.ownsRow base e size v n xs:=by
 refine ⟨h.1,?_⟩
 rcases h.2 with h0 | ⟨g,cap,cur,rfl,h1,h2,h3⟩
 ·exact .inl h0
 ·exact .inr ⟨g,cap,cur,rfl,h1,(hk g h1).trans h2,h3⟩
theorem zZ {w:World} {base size n:Nat} {e:TypeId} {v:Value} {xs:List Value} (h:w.ownsRow base e size v n xs) {p:Addr} (hp:p.block<base) (u:Value):(w.setCell p u).ownsRow base e size v n xs :=
 own_keep h fun k hk=>Below.heap_setCell w p u k L0
theorem qca {w:World} {base c x:Nat} {A:Option Addr} {e:TypeId} {outs:List Nat} {v:Int} (h:w.ownsRow base e 1 (.slice A (outs.length+1) c) (outs.length+1) (chV outs++[.int .i32 v])) (hv:(x:Int)=v) :
  w.ownsRow base e 1 (.slice A (outs++[x]).length c) (outs++[x]).length (chV (outs++[x])):=by
 rw [chV_app,Lf,Lz];subst hv;exact h
end Go.Proofs.YtggegijlfaipfaaGreatDoor
namespace Go.Proofs.YtggegijlfaipfaaGreatDoor
theorem qht (s:ByteArray) (i:Nat):Lib.decodeL (s.data.toList.drop i)=Utf8.decode s i:=Lib.decodeL_drop s i
theorem qb1 (s:ByteArray) : ∀ f i,Lib.validGoD f (s.data.toList.drop i)=true↔kK s f i
 | 0,i=>by simp [Lib.validGoD,kK]
 | f+1,i=>by
  rw [Lib.validGoD.eq_2,kK,qht]
  by_cases h:i<s.size
  ·have hne:s.data.toList.drop i≠[]:=fun e=>by
    have:=congrArg List.length e
    simp at this
    have h2:s.size=s.data.size:=rfl
    omega
   rw [if_neg hne,if_pos h,List.drop_drop]
   by_cases hb:(Utf8.decode s i).1=65533/\(Utf8.decode s i).2=1
   ·rw [if_pos hb]
    simp [hb]
   ·rw [if_neg hb,qb1 s f]
    simp [hb]
  ·have hnil:s.data.toList.drop i=[]:=List.drop_of_length_le (by simp;exact Nat.le_of_not_lt h);rw [if_pos hnil,if_neg h]
   simp
theorem qjF (s:ByteArray):Lib.validD s.data.toList=vb s:=by
 rw [Bool.eq_iff_iff,qdx,<- qb1 s s.size 0]
 rfl
theorem encodeZ {r:Nat} (h:qR r):Lib.encodeRuneZ (r:Int)=(vQ r).map fun (b:Nat)=>(b:Int):=by
 unfold qR at h;unfold Lib.encodeRuneZ vQ
 split
 ·rw [if_pos (by omega)];rfl
 ·split
  ·rw [if_neg (by omega),if_pos (by omega)]
   simp
  ·split
   ·rw [if_neg (by omega),if_neg (by omega),if_pos (by omega)]
    simp
   ·split
    ·rw [if_neg (by omega),if_neg (by omega),if_neg (by omega)]
     simp
    ·omega
end Go.Proofs.YtggegijlfaipfaaGreatDoor
namespace Go.Proofs
open Go.Shelf
def Tryz.laysValid_ren:Go.Shelf.Ren:=⟨fun | 196=>108 | 259=>126 | n=>n,fun | 9=>9 | 4=>4 | 3=>3 | 5=>5 | 12=>12 | 119=>64 | 0=>0 | 46=>145 | 139=>182 | 138=>181 | 53=>204 | n=>n,fun | 3=>2 | 4=>3 | n=>n⟩
theorem Tryz.laysValid:Go.Proofs.Lays.n196 Tryz.prog Tryz.laysValid_ren:={
 mixed:=by kernel_rfl
 f196:=Tryz.func108.trans (congrArg some (by kernel_rfl))
 f259:=Tryz.func126.trans (congrArg some (by kernel_rfl))
 t0:=Tryz.underlying0
 a0:=Tryz.isAgg0
 z0:=Tryz.sizeOf0
 v0:=Tryz.zeroValue0
 t3:=Tryz.underlying3
 a3:=Tryz.isAgg3
 z3:=Tryz.sizeOf3
 v3:=Tryz.zeroValue3
 t4:=Tryz.underlying4
 a4:=Tryz.isAgg4
 z4:=Tryz.sizeOf4
 v4:=Tryz.zeroValue4
 t5:=Tryz.underlying5
 a5:=Tryz.isAgg5
 z5:=Tryz.sizeOf5
 v5:=Tryz.zeroValue5
 t9:=Tryz.underlying9
 a9:=Tryz.isAgg9
 z9:=Tryz.sizeOf9
 v9:=Tryz.zeroValue9
 t12:=Tryz.underlying12
 a12:=Tryz.isAgg12
 z12:=Tryz.sizeOf12
 v12:=Tryz.zeroValue12
 t46:=Tryz.underlying145
 a46:=Tryz.isAgg145
 z46:=Tryz.sizeOf145
 v46:=Tryz.zeroValue145
 t53:=Tryz.underlying204
 a53:=Tryz.isAgg204
 z53:=Tryz.sizeOf204
 v53:=Tryz.zeroValue204
 t119:=Tryz.underlying64
 a119:=Tryz.isAgg64
 z119:=Tryz.sizeOf64
 t138:=Tryz.underlying181
 a138:=Tryz.isAgg181
 z138:=Tryz.sizeOf181
 v138:=Tryz.zeroValue181
 t139:=Tryz.underlying182
 a139:=Tryz.isAgg182
 z139:=Tryz.sizeOf182
 v139:=Tryz.zeroValue182
 g3:=by kernel_rfl
 g4:=by kernel_rfl }
end Go.Proofs
namespace Go.Proofs.YtggegijlfaipfaaGreatDoor
open Go.ChangeShapes Go.WideShapes Go.ChangeAt Go.RowKit
theorem own:ownKnob Tryz.prog.godebug=none:=by kernel_rfl
theorem laidOut:laidOutB Tryz.prog=true:=by kernel_rfl
theorem yY {w:World} {a:Addr} {v:Value} (h:w.cell? a=some v):a.block<w.heap.size:=by
 rcases Nat.lt_or_ge a.block w.heap.size with hl | hl
 ·exact hl
 ·unfold World.cell? at h;rw [Array.getElem?_eq_none hl] at h
  cases h
theorem qnt {H:Type} {enc:TypeId × Value->H} {P:Program} {w:World} {t e:TypeId} {A:Option Addr} {len cap:Nat} {d:DataW H} {p:List MemPlace} (ht:P.underlying t=some (.slice e)) (he:P.underlying e=some .string) (hC:P.cellsOf e=1)
  (h:DataW.Trod enc P w 0 (fun _=>true) true t (.slice A len cap) d p) :
  ∃ l:List ByteArray,l.length=len/\len<=cap/\cap<=maxLen/\Rd w w.heap.size 1 A len (sv l)/\∀ s∈l,s.size<=maxLen:=by
 obtain ⟨fuel,hf⟩:=h
 rcases open_strings ht he hC hf with ⟨hcs,_⟩ | ⟨a,len',cap',ss,hcs,_,hl,hm,hz,_,qnM,hws⟩
 ·simp [Value.cells] at hcs
  obtain ⟨rfl,rfl,rfl⟩:=hcs;exact ⟨[],rfl,Ld _,by unfold maxLen;omega,Rd.none_,fun s hs=>by cases hs⟩
 ·simp [Value.cells] at hcs
  obtain ⟨rfl,rfl,rfl⟩:=hcs;have hz':ss.length=cap:=by simpa using hz
  refine ⟨ss.take len,by rw [Lu,hz'];omega,hl,hm,⟨by simp [sv,hz'];omega,fun hn=>?_⟩,fun s hs=>hws s (List.mem_of_mem_take hs)⟩;obtain ⟨b,o,spot⟩:=a;have h0:=qnM 0 L0;have hspot:spot=none:=by simpa [Addr.add] using World.cell?_spot h0
  subst hspot;refine ⟨b,o,rfl,by simpa [Addr.add] using yY h0,fun j u hu=>?_⟩;have hj:j<len:=by
   have:=(List.getElem?_eq_some_iff.1 hu).1
   simp [sv] at this
   omega
  have h1:=qnM j L0;rw [vl] at h1;rw [h1,<- hu]
  simp [sv,hj,List.getD_eq_getElem?_getD,List.getElem?_eq_getElem (show j<ss.length by omega)]
end Go.Proofs.YtggegijlfaipfaaGreatDoor
namespace Go.Proofs.YtggegijlfaipfaaGreatDoor
open Go.Proofs.Tryz Go.RowKit
set_option maxRecDepth 20000
theorem qb8 (s:ByteArray) : ∀ (f i:Nat) (acc:Array Value),Conv.runesFrom s f i acc=acc++(chV (qaW s f i)).toArray
 | 0,i,acc=>by
  simp [qaW,chV]
  unfold Conv.runesFrom
  rfl
 | f+1,i,acc=>by
  rw [Conv.runesFrom.eq_2,qaW]
  by_cases h:i<s.size
  ·rw [if_pos h,if_pos h]
   show Conv.runesFrom s f (i+(Utf8.decode s i).2) (acc.push (Value.int IntKind.i32 (Int.ofNat (Utf8.decode s i).1)))=_
   rw [qb8 s f]
   apply Array.ext'
   simp [chV]
  ·rw [if_neg h,if_neg h]
   simp [chV]
theorem jB (s:ByteArray):(qs (qB s)).length<=2 * s.size:=by
 have h : ∀ (l:List Nat) (x:US × List Nat),(zJ l x).2.length<=x.2.length+2 * l.length:=by
  intro l
  induction l with
  | nil=>intro x;simp [zJ]
  | cons b t ih =>
   intro x;have:=ih (jU x.1 b,x.2++ku x.1 b);have h2:(ku x.1 b).length<=2:=by
    unfold ku
    split
    ·split <;> simp
    ·rw [Lf]
     split <;> split <;> (try split) <;> simp
   show (zJ t (jU x.1 b,x.2++ku x.1 b)).2.length<=_
   rw [Lf] at this;rw [Lp]
   omega
 have:=h (qB s) (u0,[]);rw [zT] at this
 simpa [qs] using this
theorem qbK (s:ByteArray) (hv:vb s=true) (hs:s.size<=1000000000) (w:World) :
  ∃ c w',(convert 9 147 (.string s)).run prog w = .ok (.slice (some ⟨w.heap.size,0,none⟩) (qs (qB s)).length c) w'/\Rd w' w'.heap.size 1 (some ⟨w.heap.size,0,none⟩) (qs (qB s)).length (chV (qs (qB s)))/\Below w.heap.size w w'/\(qs (qB s)).length<=c:=by
 have hz:=qgn s ((qdx s).1 hv);have he:Conv.runesFrom s s.size 0 #[]=(chV (qs (qB s))).toArray:=by rw [qb8,hz];simp
 have hl:=jB s;have hn:(Conv.runesFrom s s.size 0 #[]).size=(qs (qB s)).length:=by rw [he];simp [chV]
 have h:=run_runes_of_string (P:=prog) w _ _ _ s underlying9 underlying147 underlying21 (by rw [hn];omega);rw [hn,he] at h;generalize (qs (qB s))=L at *
 refine ⟨_,_,h,?_,jI ((Le w.heap.size w.drew).alloc (Ld _) _),?_⟩
 ·refine Rd.some_ (by rw [chV_len,Nat.mul_one]) L1 fun j u hu=>?_
  have h1:=qu w.drew ((chV L).toArray++Array.replicate (grownCap w L.length 0 21-L.length) (Value.int IntKind.i32 0)) 21 (0+j);refine Eq.trans ?_ (h1.trans ?_)
  ·rfl
  ·have hj:j<(chV L).length:=(List.getElem?_eq_some_iff.1 hu).1;rw [Lo,Array.getElem?_append_left (by simpa using hj)]
   simpa using hu
 ·exact grownCap_ge w L.length 0 _
def U8 (w:World):Prop:=Lib.Utf8Tabs (Tryz.laysValid_ren.g 3) (Tryz.laysValid_ren.g 4) w
theorem U8.below {w w':World} (h:U8 w) (hb:Below w.heap.size w w'):U8 w':=by
 refine ⟨fun c hc=>?_,fun i hi=>?_⟩
 ·have:=h.1 c hc;exact (hb.cell (yY this)).trans this
 ·have h1:=(h.2 i hi).1;have h2:=(h.2 i hi).2;exact ⟨(hb.cell (yY h1)).trans h1,(hb.cell (yY h2)).trans h2⟩
theorem valid_ (s:ByteArray) (hs:s.size<=1000000000) (w:World) (hu:U8 w):Calls prog 94 #[.string s] w (qh (.bool (vb s)) w):=by
 have HC:Hid (Calls prog 108 #[.string s] w (qh (.bool (vb s)) w)):=Lh (by
  have h:=Any.utf8_ValidString Tryz.laysValid s w L0 hu;rw [qjF] at h
  exact h)
 generalize vb s=R at *
 clear hu
 go_enter func94,ntmps94
 go_wp2_with (go_at_call 108;refine HC.out.mono ?_;rintro e w1 ⟨rfl,qmv⟩)
 go_ret;exact ⟨rfl,qmv⟩
def byV (l:List Nat):List Value:=l.map fun (b:Nat)=>Value.int .u8 (b:Int)
theorem qh8 {r:Nat} (h:qR r) : ∀ b∈vQ r,b<256:=by
 unfold qR at h;unfold vQ;intro b hb
 split at hb
 ·simp only [List.mem_cons,List.not_mem_nil,or_false] at hb
  omega
 ·split at hb
  ·simp only [List.mem_cons,List.not_mem_nil,or_false] at hb
   omega
  ·split at hb
   ·simp only [List.mem_cons,List.not_mem_nil,or_false] at hb
    omega
   ·simp only [List.mem_cons,List.not_mem_nil,or_false] at hb
    omega
theorem qfs {r:Nat} (h:qR r):Lib.runeCells (r:Int)=byV (vQ r):=by
 unfold Lib.runeCells byV;rw [encodeZ h,List.map_map]
 rfl
theorem vt {w:World} {base size n:Nat} {e:TypeId} {v:Value} {xs:List Value} (h:w.ownsRow base e size v n xs) : ∃ A c,v = .slice A n c:=by
 rcases h.2 with ⟨rfl,rfl⟩ | ⟨g,cap,cur,rfl,_⟩
 ·exact ⟨none,0,rfl⟩
 ·exact ⟨_,_,rfl⟩
theorem qgb {w:World} {B n c:Nat} {A:Option Addr} {l:List Nat} (rd:Rd w B 1 A n (byV l)) (hn:l.length=n) (h0:0<n) (hl : ∀ b∈l,b<256) :
  (convert 184 9 (.slice A n c)).run prog w = .ok (.string ⟨(l.map fun b=>UInt8.ofNat b).toArray⟩) w:=by
 obtain ⟨b,o,rfl,_,hc⟩:=rd.2 h0
 have h:=run_convert_bytes_back (P:=prog) w _ _ _ ⟨b,o,none⟩ c (l.map fun b=>UInt8.ofNat b) underlying184 underlying5 underlying9 (fun j hj=>by
  have hjl:j<l.length:=by simpa using hj
  rw [vl,hc j (.int .u8 (l[j]:Int)) (by simp [byV,hjl])];have:=hl _ (Lt hjl);simp only [List.getElem_map,UInt8.toNat_ofNat']
  congr 2
  omega)
 rw [Lq,hn] at h;exact h
theorem qiC (r:Nat) (hr:qR r) (A:Option Addr) (c B:Nat) (w:World) (rd:Rd w B 1 A 1 (chV [r])) (hB:B<=w.heap.size):Calls prog 182 #[.slice A 1 c] w (qh (.string (kt r)) w):=by
 obtain ⟨b,o,rfl,hbB,hc⟩:=rd.2 L0;have qnM:w.cell? ⟨b,o,none⟩=some (.int .i32 (r:Int)):=hc 0 _ rfl;have hr2:(r:Int)<=2147483647:=by unfold qR at hr;omega
 have HC:=Lh (qfs hr);have HL:Hid (∀ b∈vQ r,b<256):=Lh (qh8 hr);have HP:=Lh (qaR r);have hl4:=(qaR r).2;unfold kt;generalize vQ r=E at *
 clear hc rd
 go_enter func182,ntmps182
 go_wp2
 go_loopw [3,8] (fun v x wr=>∃ k:Nat,k<=1/\x = .int .i64 k/\Below w.heap.size w wr/\((k=0/\v = .slice none 0 0)∨(k=1/\∃ A' c',v = .slice A' E.length c'/\wr.ownsRow w.heap.size 5 1 (.slice A' E.length c') E.length (byV E)))) (fun _ x _=>1-(intOf x).toNat)
 case atStart=>exact ⟨0,by omega,rfl,Le _ _,.inl ⟨rfl,rfl⟩⟩
 case round =>
  obtain ⟨k,hk,rfl,qnw,hcase⟩:=hrel
  rcases hcase with ⟨rfl,rfl⟩ | ⟨rfl,A',c',rfl,qnB⟩
  ·have qnO:=(qnw.cell (by omega:b<w.heap.size)).trans qnM
   go_wp2_with (go_at_call 195;refine (Tryz.utf8_AppendRune_plain w.heap.size _ 0 [] (r:Int) L0 hr2 _ (zY _ _ _ _) L0 qnw.size).mono ?_;rintro e w1 ⟨v1,rfl,qnx,o1,hg1⟩)
   rw [HC.out] at qnx;have qnQ:(byV E).length=E.length:=by simp [byV]
   rw [qnQ,Lo,Lg] at qnx;obtain ⟨A',c',rfl⟩:=vt qnx;refine ⟨⟨1,by omega,by go_num,?_,.inr ⟨rfl,A',c',rfl,qnx⟩⟩,by simp [intOf]⟩;exact (qnw.alloc qnw.size o1).grown hg1 (by have:=qnw.size;simp;omega) (fun k hk=>by cases hk)
  ·have HV:=Lh (qgb (c:=c') (Rd.of_own qnB) rfl HP.out.1 HL.out);have HV2:=HV.out;go_wp2;go_ret;exact ⟨rfl,qnw⟩
def Same (v:Value) (w:World) (en:Ending) (w':World):Prop:=en = .returned v/\w=w'
def limV (x:Nat × Nat × Nat):Value:=.tuple #[.int .u8 x.1,.int .u8 x.2.1,.int .i64 x.2.2]
theorem qlO (l:List Nat):(byV l).length=l.length:=by simp [byV]
theorem byV_get (l:List Nat) (k:Nat) (h:k<l.length):(byV l)[k]? = some (.int .u8 (l[k]:Int)):=by simp [byV,h]
theorem qh9 (a b:List Nat):byV (a++b)=byV a++byV b:=by simp [byV]
theorem byV_one (l:List Nat):(byV l).all Value.oneCell'=true:=by
 rw [List.all_eq_true];intro u hu
 simp [byV] at hu
 obtain ⟨i,_,rfl⟩:=hu
 rfl
theorem lim_eq (x:Nat × Nat × Nat) (a b c:Int) (h1:a=x.1) (h2:b=x.2.1) (h3:c=x.2.2):Value.tuple #[.int .u8 a,.int .u8 b,.int .i64 c]=limV x:=by subst h1 h2 h3;rfl
theorem qcZ (b:Nat) (rest:List Nat) (hb:b<256) (A:Option Addr) (n c B:Nat) (w:World) (hn:rest.length+1=n) (hn2:n<=1000000000) (rd:Rd w B 1 A n (byV (b::rest))) :
  Calls prog 129 #[.slice A n c] w (Same (limV (limU (b::rest))) w):=by
 obtain ⟨g,o,rfl,_,hcc⟩:=rd.2 L0;have qnM:w.cell? ⟨g,o,none⟩=some (.int .u8 (b:Int)):=hcc 0 _ rfl;have HE:=Lh (lim_eq (limU (b::rest)))
 have HM:Hid ((limU (b::rest)).2.2=if 0xC2<=b/\b<=0xDF then 2 else if 0xE0<=b/\b<=0xEF then 3 else if 0xF0<=b/\b<=0xF4 then 4 else 0):=Lh (by
  show (if (if 0xC2<=b/\b<=0xDF then 1 else if 0xE0<=b/\b<=0xEF then 2 else if 0xF0<=b/\b<=0xF4 then 3 else 0)=0 then 0 else (if 0xC2<=b/\b<=0xDF then 1 else if 0xE0<=b/\b<=0xEF then 2 else if 0xF0<=b/\b<=0xF4 then 3 else 0)+1)=_
  by_cases h1:0xC2<=b/\b<=0xDF
  ·simp [h1]
  ·by_cases h2:0xE0<=b/\b<=0xEF
   ·simp [h1,h2]
   ·by_cases h3:0xF0<=b/\b<=0xF4
    ·simp [h1,h2,h3]
    ·simp [h1,h2,h3])
 have hr:rest=[]↔n=1:=by
  constructor
  ·rintro rfl;simpa using hn.symm
  ·intro h;exact List.eq_nil_of_length_eq_zero L0
 have HL:Hid ((limU (b::rest)).1=if n=1 then (if b=0xE0 then 0xA0 else if b=0xF0 then 0x90 else 0x80) else 128):=Lh (by
  show (if rest=[] then (zt b).lo else 128)=_
  simp only [hr]
  rfl)
 have HH:Hid ((limU (b::rest)).2.1=if n=1 then (if b=0xED then 0x9F else if b=0xF4 then 0x8F else 0xBF) else 191):=Lh (by
  show (if rest=[] then (zt b).hi else 191)=_
  simp only [hr]
  rfl)
 have h0:0<n:=by omega
 clear hcc hn hr rd;generalize limU (b::rest)=S at *
 by_cases h1:n=1
 ·subst h1;rw [if_pos rfl] at HL HH
  go_enter func129,ntmps129
  go_wp2
  all_goals
   simp only [beq_iff_eq,Lm,ne_eq] at *
   go_ret3;refine ⟨congrArg Ending.returned (HE.out _ _ _ ?_ ?_ ?_),rfl⟩
   ·rw [HL.out];(repeat' split) <;> omega
   ·rw [HH.out];(repeat' split) <;> omega
   ·rw [HM.out];(repeat' split) <;> omega
 ·rw [if_neg h1] at HL HH;have h2:((n:Int)==1)=false:=Lm.2 L0
  go_enter func129,ntmps129
  go_wp2
  all_goals
   go_ret3;refine ⟨congrArg Ending.returned (HE.out _ _ _ ?_ ?_ ?_),rfl⟩
   ·rw [HL.out];(repeat' split) <;> omega
   ·rw [HH.out];(repeat' split) <;> omega
   ·rw [HM.out];(repeat' split) <;> omega
theorem begU_m (b:Nat):((zt b).m=1->(zt b).v+192=b)/\((zt b).m=2->(zt b).v+224=b)/\((zt b).m=3->(zt b).v+240=b)/\(zt b).v<32/\(zt b).m<=3:=by
 unfold zt;dsimp only;refine ⟨?_,?_,?_,?_,?_⟩
 ·intro h
  split at h
  ·rw [if_pos L3];omega
  ·split at h
   ·omega
   ·split at h <;> omega
 ·intro h
  split at h
  ·omega
  ·split at h
   ·rw [if_neg L3,if_pos L3];omega
   ·split at h <;> omega
 ·intro h
  split at h
  ·omega
  ·split at h
   ·omega
   ·split at h
    ·rw [if_neg L3,if_neg L3,if_pos L3];omega
    ·omega
 ·split
  ·omega
  ·split
   ·omega
   ·split <;> omega
 ·split
  ·omega
  ·split
   ·omega
   ·split <;> omega
def jd (b0:Nat) (rest:List Nat) (j:Nat):Nat:=(rest.take j).foldl (fun n b=>n * 64+b-128) (zt b0).v
theorem qjG (b0:Nat) (rest:List Nat):jd b0 rest 0=(zt b0).v:=rfl
theorem qiM {b0:Nat} {rest:List Nat} {j:Nat} (h:j<rest.length):jd b0 rest (j+1)=jd b0 rest j * 64+rest[j]-128:=by
 unfold jd;rw [List.take_add_one,List.getElem?_eq_getElem h,List.foldl_append]
 rfl
theorem valK_all (b0:Nat) (rest:List Nat):jd b0 rest rest.length=valU (b0::rest):=by
 unfold jd valU;rw [List.take_length]
theorem value_ (b0:Nat) (rest:List Nat) (hb:b0<256) (hm:(zt b0).m=rest.length) (h0:0<rest.length) (hx : ∀ x∈rest,128<=x/\x<=191) (A:Option Addr) (n c B:Nat) (w:World) (hn:rest.length+1=n) (rd:Rd w B 1 A n (byV (b0::rest))) :
  Calls prog 130 #[.slice A n c] w (Same (.int .i32 (valU (b0::rest):Int)) w):=by
 obtain ⟨m1,m2,m3,mv,m4⟩:=begU_m b0;obtain ⟨g,o,rfl,_,hcc⟩:=rd.2 L0;have qnM:w.cell? ⟨g,o,none⟩=some (.int .u8 (b0:Int)):=hcc 0 _ rfl;have HC:Hid (∀ j (h:j<rest.length),w.cell? ⟨g,o+(j+1),none⟩=some (.int .u8 (rest[j]:Int))):=Lh fun j h=>hcc (j+1) _ (by simp [byV,h])
 have HS:Hid (∀ j (h:j<rest.length),jd b0 rest (j+1)=jd b0 rest j * 64+rest[j]-128):=Lh fun j h=>qiM h
 have HX:Hid (∀ j (h:j<rest.length),128<=rest[j]/\rest[j]<=191):=Lh fun j h=>hx _ (Lt h)
 have HZ:=Lh (qjG b0 rest);rw [<- valK_all];rw [hm] at m1 m2 m3 m4;generalize (zt b0).v=bv at *
 obtain rfl:n=rest.length+1:=hn.symm;clear hcc rd hx hm
 by_cases hl:rest.length=1
 ·have hv:=(m1 L0)
  have hb2:(b0:Int)=bv+192:=by omega
  have hl2:(rest.length:Int)=1:=by omega
  clear m1 m2 m3
  go_enter func130,ntmps130
  go_wp2
  go_loopw [3,4] (fun v x wr=>∃ j:Nat,j<=rest.length/\x = .int .i64 ((j:Int)+1)/\v = .int .i32 (jd b0 rest j:Int)/\wr=w/\((j=0/\jd b0 rest j<32)∨(j=1/\jd b0 rest j<2048)∨(j=2/\jd b0 rest j<131072)∨(j=3/\jd b0 rest j<8388608))) (fun _ x _=>rest.length+1-(intOf x).toNat)
  case atStart=>exact ⟨0,Nat.zero_le _,rfl,by rw [HZ.out],rfl,.inl ⟨rfl,by rw [HZ.out];exact mv⟩⟩
  case round =>
   obtain ⟨j,hj,rfl,rfl,rfl,hbd⟩:=hrel
   by_cases hlt:j<rest.length
   ·have hc:=HC.out j hlt;have hs:=HS.out j hlt;have hxx:=HX.out j hlt;generalize rest[j]=y at *
    generalize hv1:jd b0 rest (j+1)=v1 at *
    generalize jd b0 rest j=v0 at *
    have hv2:(v1:Int)=(v0:Int) * 64+y-128:=by omega
    go_wp2;refine ⟨⟨j+1,by omega,by go_num,?_,(by first | trivial | rfl),by omega⟩,by simp [intOf];omega⟩;rw [hv1,hv2]
   ·obtain rfl:j=rest.length:=by omega
    go_wp2;go_ret;exact ⟨rfl,rfl⟩
 skip
 by_cases hl:rest.length=2
 ·have hv:=(m2 L0)
  have hb2:(b0:Int)=bv+224:=by omega
  have hl2:(rest.length:Int)=2:=by omega
  clear m1 m2 m3
  go_enter func130,ntmps130
  go_wp2
  go_loopw [3,4] (fun v x wr=>∃ j:Nat,j<=rest.length/\x = .int .i64 ((j:Int)+1)/\v = .int .i32 (jd b0 rest j:Int)/\wr=w/\((j=0/\jd b0 rest j<32)∨(j=1/\jd b0 rest j<2048)∨(j=2/\jd b0 rest j<131072)∨(j=3/\jd b0 rest j<8388608))) (fun _ x _=>rest.length+1-(intOf x).toNat)
  case atStart=>exact ⟨0,Nat.zero_le _,rfl,by rw [HZ.out],rfl,.inl ⟨rfl,by rw [HZ.out];exact mv⟩⟩
  case round =>
   obtain ⟨j,hj,rfl,rfl,rfl,hbd⟩:=hrel
   by_cases hlt:j<rest.length
   ·have hc:=HC.out j hlt;have hs:=HS.out j hlt;have hxx:=HX.out j hlt;generalize rest[j]=y at *
    generalize hv1:jd b0 rest (j+1)=v1 at *
    generalize jd b0 rest j=v0 at *
    have hv2:(v1:Int)=(v0:Int) * 64+y-128:=by omega
    go_wp2;refine ⟨⟨j+1,by omega,by go_num,?_,(by first | trivial | rfl),by omega⟩,by simp [intOf];omega⟩;rw [hv1,hv2]
   ·obtain rfl:j=rest.length:=by omega
    go_wp2;go_ret;exact ⟨rfl,rfl⟩
 skip
 by_cases hl:rest.length=3
 ·have hv:=(m3 L0)
  have hb2:(b0:Int)=bv+240:=by omega
  have hl2:(rest.length:Int)=3:=by omega
  clear m1 m2 m3
  go_enter func130,ntmps130
  go_wp2
  go_loopw [3,4] (fun v x wr=>∃ j:Nat,j<=rest.length/\x = .int .i64 ((j:Int)+1)/\v = .int .i32 (jd b0 rest j:Int)/\wr=w/\((j=0/\jd b0 rest j<32)∨(j=1/\jd b0 rest j<2048)∨(j=2/\jd b0 rest j<131072)∨(j=3/\jd b0 rest j<8388608))) (fun _ x _=>rest.length+1-(intOf x).toNat)
  case atStart=>exact ⟨0,Nat.zero_le _,rfl,by rw [HZ.out],rfl,.inl ⟨rfl,by rw [HZ.out];exact mv⟩⟩
  case round =>
   obtain ⟨j,hj,rfl,rfl,rfl,hbd⟩:=hrel
   by_cases hlt:j<rest.length
   ·have hc:=HC.out j hlt;have hs:=HS.out j hlt;have hxx:=HX.out j hlt;generalize rest[j]=y at *
    generalize hv1:jd b0 rest (j+1)=v1 at *
    generalize jd b0 rest j=v0 at *
    have hv2:(v1:Int)=(v0:Int) * 64+y-128:=by omega
    go_wp2;refine ⟨⟨j+1,by omega,by go_num,?_,(by first | trivial | rfl),by omega⟩,by simp [intOf];omega⟩;rw [hv1,hv2]
   ·obtain rfl:j=rest.length:=by omega
    go_wp2;go_ret;exact ⟨rfl,rfl⟩
 skip
 omega
def lenV:Value->Nat
 | .slice _ n _=>n
 | _=>0
theorem qdv (A:Option Addr) (n m c:Nat):(Value.slice A n c).ownBlock=(Value.slice A m c).ownBlock:=by cases A <;> rfl
def Dj (a b:Option Nat):Prop:=∀ k,a=some k->b=some k->False
theorem Dj.symm {a b:Option Nat} (h:Dj a b):Dj b a:=fun k h1 h2=>h k h2 h1
theorem Dj.new {a b b':Option Nat} {N:Nat} (h:Dj a b) (hb:b'=b∨b'=some N) (ha : ∀ k,a=some k->k<N):Dj a b':=by
 rcases hb with rfl | rfl
 ·exact h
 ·intro k h1 h2;have:=ha k h1
  injection h2 with h2
  omega
theorem Dj.ne {a b:Option Nat} (h:Dj a b):a=none∨a≠b:=by
 cases a with
 | none=>exact .inl rfl
 | some k=>exact .inr fun e=>h k rfl e.symm
theorem qa8 {w:World} {base size n:Nat} {e:TypeId} {v:Value} {xs:List Value} (h:w.ownsRow base e size v n xs) : ∀ k,v.ownBlock=some k->k<w.heap.size:=fun k hk=>(h.lt k hk).2
theorem qba:Elt prog 184 5 (.int .u8 0) 1 1 where
 und:=underlying184
 row:=by
  have h:(prog.info? 5).map (fun i=>(i.zero,i.size,i.bytes))=some (some (.int .u8 0),1,1):=by kernel_rfl
  obtain ⟨i,hi,a,b,c⟩:=info_parts h;exact ⟨i,hi,a,b,c⟩
 zs:=rfl
 pos:=by decide
theorem qeS {w:World} {base c x:Nat} {A:Option Addr} {e:TypeId} {outs:List Nat} {v:Int} (h:w.ownsRow base e 1 (.slice A (outs.length+1) c) (outs.length+1) (byV outs++[.int .u8 v])) (hv:(x:Int)=v) :
  w.ownsRow base e 1 (.slice A (outs++[x]).length c) (outs++[x]).length (byV (outs++[x])):=by
 rw [qh9,Lf,Lz];subst hv;exact h
theorem KeptU.lt_ {K:List Nat} {s:US} (h:KeptU K s) : ∀ b∈K,b<256:=by
 rcases h with ⟨_,rfl⟩ | ⟨_,b0,rest,rfl,hb,_,_,_,_,hx⟩
 ·intro b hb;cases hb
 ·intro b hb2
  rcases List.mem_cons.1 hb2 with rfl | h
  ·exact hb
  ·have:=hx b h;omega
theorem KeptU.nil_iff {K:List Nat} {s:US} (h:KeptU K s):K=[]↔s.m=0:=by
 rcases h with ⟨h0,rfl⟩ | ⟨h0,b0,rest,rfl,_⟩
 ·simp [h0]
 ·simp;omega
theorem qgA {w:World} {B n c:Nat} {A:Option Addr} {l:List Nat} (rd:Rd w B 1 A n (byV l)) (hn:l.length=n) (hl : ∀ b∈l,b<256) :
  (convert 184 9 (.slice A n c)).run prog w = .ok (.string ⟨(l.map fun b=>UInt8.ofNat b).toArray⟩) w:=by
 rcases Nat.eq_zero_or_pos n with h0 | h0
 ·subst h0;obtain rfl:=List.eq_nil_of_length_eq_zero hn
  cases A with
  | none=>exact run_convert_bytes_nil (P:=prog) w _ _ underlying184 underlying5 0 c _ underlying9
  | some a=>exact run_convert_bytes_back (P:=prog) w _ _ _ a c [] underlying184 underlying5 underlying9 (fun j hj=>absurd hj (Nat.not_lt_zero j))
 ·exact qgb rd hn h0 hl
def DecP (L:List Nat) (pend:Prop) (w:World) (en:Ending) (w':World):Prop :=
 ∃ A c rest,en = .returned (.tuple #[.slice A L.length c,.string rest])/\w'.ownsRow w.heap.size 21 1 (.slice A L.length c) L.length (chV L)/\Below w.heap.size w w'/\(rest=⟨#[]⟩↔pend)
def DecR (w:World) (t:ByteArray) (F:US × List Nat) (v u x:Value) (wr:World):Prop :=
 ∃ (A A':Option Addr) (c c' k:Nat) (s:US) (outs K:List Nat),k<=t.size/\x = .int .i64 k/\v = .slice A outs.length c/\u = .slice A' K.length c' /\
  wr.ownsRow w.heap.size 21 1 (.slice A outs.length c) outs.length (chV outs)/\wr.ownsRow w.heap.size 5 1 (.slice A' K.length c') K.length (byV K)/\Dj (Value.slice A outs.length c).ownBlock (Value.slice A' K.length c').ownBlock /\
  Below w.heap.size w wr/\KeptU K s/\zJ ((qB t).drop k) (s,outs)=F/\outs.length+K.length<=k
theorem qiF (t:ByteArray) (ht:t.size<=1000000000) (w:World) :
  Calls prog 112 #[.string ⟨#[]⟩,.string t] w (DecP (qs (qB t)) ((zJ (qB t) (u0,[])).1.m=0) w):=by
 have HF:Hid (zJ ((qB t).drop 0) (u0,[])=zJ (qB t) (u0,[])):=Lh rfl;unfold qs;generalize zJ (qB t) (u0,[])=F at *
 have HN:Hid ((qB t).length=t.size):=Lh (zT t)
 go_enter func112,ntmps112
 go_wp2;have e0:(⟨#[]⟩++t:ByteArray)=t:=ByteArray.ext (by rw [ByteArray.data_append];simp);simp only [e0]
 go_loopw [7,8,9] (fun v u x wr=>DecR w t F v u x wr) (fun _ u x _=>2 * (t.size-(intOf x).toNat)+lenV u)
 case atStart=>exact ⟨_,_,_,_,0,u0,[],[],Nat.zero_le _,rfl,rfl,rfl,(qx (xs:=[]) rfl rfl (Ld _) (Nat.zero_le _)).alloc _,qx (xs:=[]) L1 rfl L0 (Nat.zero_le _),(fun k h1 h2=>by
  simp only [Value.ownBlock,Option.some.injEq] at h1 h2
  omega),(L5).alloc L1 _,qgz,HF.out,by simp⟩
 case round =>
  obtain ⟨A,A',c,c',k,⟨sv,sm,slo,shi⟩,outs,K,hk,rfl,rfl,rfl,qnB,qmW,hdj,qnw,HK,HR,hle⟩:=hrel;replace HK:=Lh HK;replace HR:=Lh HR
  by_cases hlt:k<t.size
  ·have HD:Hid ((qB t).drop k=(t[k]'hlt).toNat::(qB t).drop (k+1)):=Lh (by rw [Ls (by rw [HN.out];exact hlt),qdL t k hlt];congr 2;exact getElem!_pos t.data k hlt);have hbl:(t[k]'hlt).toNat<256:=UInt8.toNat_lt _
   go_upto_region 7 with fail
   generalize (t[k]'hlt).toNat=b at *
   have zb:=qnw.size;have hne1:=qa8 qnB;have hne2:=qa8 qmW
   rcases Nat.eq_zero_or_pos sm with hm | hm
   ·have hKn:K=[]:=by
     rcases HK.out with ⟨_,h⟩ | ⟨h,_⟩
     ·exact h
     ·have:sm=0:=hm;exact absurd h (by show ¬ 0<sm;omega)
    subst hKn;subst hm;rw [List.length_nil] at qmW hdj hle;have HL1:Hid (∀ w:World,Calls prog 129 #[.slice (some ⟨w.heap.size,0,none⟩) 1 1] (w.alloc (.cells #[.int .u8 (b:Int)] 5)) (Same (limV (limU [b])) (w.alloc (.cells #[.int .u8 (b:Int)] 5)))):=Lh fun w=>qcZ b [] hbl _ 1 1 (w.heap.size+1) _ rfl L0 (qe (xs:=byV [b]) rfl rfl)
    obtain ⟨z,hz0,hz1,HL2⟩ : ∃ z:Nat,((zt b).m=0->z=0)/\((zt b).m≠0->0<z)/\limU [b]=((zt b).lo,(zt b).hi,z):=by
     refine ⟨if (zt b).m=0 then 0 else (zt b).m+1,fun h=>by rw [if_pos h],fun h=>by rw [if_neg h];omega,rfl⟩
    rw [HL2] at HL1;simp only [limV] at HL1
    by_cases h128:b<128
    ·have hm0:(zt b).m=0:=qgy L0;have HS:=Lh (run_asc HR.out HD.out rfl h128);have HKu:Hid (KeptU [] (zt b)):=Lh (.inl ⟨hm0,rfl⟩);clear hz0 hz1 hm0 HK HR HD HL2;generalize zt b=Z at *
     go_wp2_with (first
      | (go_at_call 129;refine (HL1.out _).mono ?_;rintro e w3 ⟨rfl,rfl⟩)
      | (at_builtin;go_must (refine qg rfl _ _ _ rfl qdd (w.heap.size) _ rfl (((qnB.alloc _).alloc _)) _ _ rfl ((qe (by first | rfl | (simp;done)) rfl)) ?_);intro A4 c4 w4 qmC qmy qmG qmI;have z4:=qmy.size;(try simp only [Li] at z4);(try simp only [Lo,Lg] at qmC)))
     exact ⟨⟨A4,A',c4,c',k+1,Z,outs++[b],[],by omega,by go_num,by rw [Lf];rfl,rfl,qca qmC rfl,((qmW.alloc _).alloc _).kept qmG hdj.symm.ne,(by rw [qdv A4 _ (outs.length+1) c4];exact (Dj.new hdj.symm qmI (qa8 ((qmW.alloc _).alloc _))).symm),((qnw.alloc zb _).alloc (by simp;omega) _).trans qmy,HKu.out,HS.out,by rw [Lf,Lz];simp;omega⟩,by simp [intOf,lenV];omega⟩
    ·by_cases hz:(zt b).m=0
     ·have HS:=Lh (run_bad HR.out HD.out rfl h128 hz);have HKu:Hid (KeptU [] (zt b)):=Lh (.inl ⟨hz,rfl⟩);obtain rfl:=hz0 hz;clear hz0 hz1 hz HK HR HD HL2;generalize zt b=Z at *
      go_wp2_with (first
       | (go_at_call 129;refine (HL1.out _).mono ?_;rintro e w3 ⟨rfl,rfl⟩)
       | (at_builtin;go_must (refine qg rfl _ _ _ rfl qdd (w.heap.size) _ rfl (((qnB.alloc _).alloc _)) _ _ rfl ((qe (by first | rfl | (simp;done)) rfl)) ?_);intro A4 c4 w4 qmC qmy qmG qmI;have z4:=qmy.size;(try simp only [Li] at z4);(try simp only [Lo,Lg] at qmC)))
      exact ⟨⟨A4,A',c4,c',k+1,Z,outs++[65533],[],by omega,by go_num,by rw [Lf];rfl,rfl,qca qmC rfl,((qmW.alloc _).alloc _).kept qmG hdj.symm.ne,(by rw [qdv A4 _ (outs.length+1) c4];exact (Dj.new hdj.symm qmI (qa8 ((qmW.alloc _).alloc _))).symm),((qnw.alloc zb _).alloc (by simp;omega) _).trans qmy,HKu.out,HS.out,by rw [Lf,Lz];simp;omega⟩,by simp [intOf,lenV];omega⟩
     ·have HS:=Lh (run_lead HR.out HD.out rfl h128 hz);have HKu:Hid (KeptU [b] (zt b)):=Lh (KeptU.beg hbl hz);have hzp:=hz1 hz;clear hz0 hz1 hz HK HR HD HL2;generalize zt b=Z at *
      go_wp2_with (first
       | (go_at_call 129;refine (HL1.out _).mono ?_;rintro e w3 ⟨rfl,rfl⟩)
       | (at_builtin;go_must (refine qg rfl _ _ _ rfl qba (w.heap.size) _ rfl (((qmW.alloc _).alloc _)) _ _ rfl ((qe (by first | rfl | (simp;done)) rfl)) ?_);intro A4 c4 w4 qmC qmy qmG qmI;have z4:=qmy.size;(try simp only [Li] at z4);(try simp only [Lo,Lg] at qmC)))
      exact ⟨⟨A,A4,c,c4,k+1,Z,outs,[b],by omega,by go_num,rfl,rfl,((qnB.alloc _).alloc _).kept qmG hdj.ne,qmC,Dj.new hdj qmI (qa8 ((qnB.alloc _).alloc _)),((qnw.alloc zb _).alloc (by simp;omega) _).trans qmy,HKu.out,HS.out,by simp;omega⟩,by simp [intOf,lenV];omega⟩
   ·have hm':0<sm:=hm;have HLim:=Lh (HK.out.lim hm);obtain ⟨b0,rest,hK,hb0⟩ : ∃ b0 rest,K=b0::rest/\b0<256:=by
     rcases HK.out with ⟨h,_⟩ | ⟨_,b0,rest,h1,h2,_⟩
     ·have:sm=0:=h
      omega
     ·exact ⟨b0,rest,h1,h2⟩
    have hKl:0<K.length:=by rw [hK];simp
    have HL1:Hid (∀ (w:World) (B:Nat) (A:Option Addr) (c:Nat),Rd w B 1 A K.length (byV K)->Calls prog 129 #[.slice A K.length c] w (Same (limV (slo,shi,K.length+sm)) w)):=Lh fun w B A c rd=>by
     have h:=HLim.out;have h2:=qcZ b0 rest hb0 A K.length c B w (by rw [hK];rfl) L0 (by rw [<- hK];exact rd);rw [<- hK,h] at h2;exact h2
    simp only [limV] at HL1;clear HLim hK
    by_cases hin:slo<=b/\b<=shi
    ·have HKs:Hid (1<sm->KeptU (K++[b]) ⟨sv * 64+b % 64,sm-1,0x80,0xBF⟩):=Lh fun h=>HK.out.snoc h hin.1 hin.2
     have HKw:Hid (sm=1->_):=Lh fun (h:sm=1)=>HK.out.whole h hin.1 hin.2
     have HRn:Hid (sm≠1->zJ ((qB t).drop (k+1)) (⟨sv * 64+b % 64,sm-1,128,191⟩,outs)=F):=Lh fun h=>run_on HR.out HD.out hm' hin.1 hin.2 h
     have HRl:Hid (sm=1->zJ ((qB t).drop (k+1)) (⟨sv * 64+b % 64,0,128,191⟩,outs++[sv * 64+b % 64])=F):=Lh fun h=>by
      subst h;exact run_last HR.out HD.out hin.1 hin.2
     obtain ⟨hi1,hi2⟩:=hin
     by_cases h1:sm=1
     ·have HS:=Lh (HRl.out h1);have HVal:Hid (∀ (A:Option Addr) (c B:Nat) (w:World),Rd w B 1 A (K++[b]).length (byV (K++[b]))->Calls prog 130 #[.slice A (K.length+1) c] w (Same (.int .i32 ((sv * 64+b % 64:Nat):Int)) w)):=Lh fun A c B w rd=>by
       obtain ⟨hv,b1,rest1,e1,hb1,hm1,hp1,hx1⟩:=HKw.out h1;have hl1:rest1.length+1=(K++[b]).length:=by rw [e1];rfl
       rw [e1] at rd hv;have h:=value_ b1 rest1 hb1 hm1 hp1 hx1 A (rest1.length+1) c B w rfl (by rw [show (b1::rest1).length=rest1.length+1 from rfl] at rd;exact rd);rw [hl1,Lf,Lz] at h;rw [hv] at h;exact h
      subst h1;clear HRn HRl HKw HKs HK HR HD;have zz:(((K.length:Int)+1)==((K.length+1:Nat):Int))=true:=beq_iff_eq.2 L0
      go_upto_region 22 with (first
       | (go_at_call 129;refine (HL1.out _ _ _ _ (Rd.of_own qmW)).mono ?_;rintro e w3 ⟨rfl,rfl⟩)
       | (at_builtin;go_must (refine qg rfl _ _ _ rfl qba (w.heap.size) _ rfl ((qmW.alloc _)) _ _ rfl ((qe (by first | rfl | (simp;done)) rfl)) ?_);intro A4 c4 w4 qmC qmy qmG qmI;have z4:=qmy.size;(try simp only [Li] at z4);(try simp only [Lo,Lg] at qmC)))
      have HO:=(qnB.alloc (Obj.cells #[Value.int IntKind.u8 (b:Int)] 5)).kept qmG hdj.ne;have HB4:=(qnw.alloc zb (Obj.cells #[Value.int IntKind.u8 (b:Int)] 5)).trans qmy;have HV4:=Lh (HVal.out A4 c4 _ w4 (Rd.of_own (qeS qmC rfl)));have zw:=HB4.size;clear qmG qmI qmy qmC qnB qmW hdj HVal HL1;generalize sv * 64+b % 64=X at *
      go_wp2_with (first
       | (go_at_call 130;refine HV4.out.mono ?_;rintro e w6 ⟨rfl,rfl⟩)
       | (at_builtin;go_must (refine qg rfl _ _ _ rfl qdd (w.heap.size) _ rfl ((HO.alloc _)) _ _ rfl ((qe (by first | rfl | (simp;done)) rfl)) ?_);intro A5 c5 w5 qnA qmz hgr5 hat5;have z5:=qmz.size;(try simp only [Li] at z5);(try simp only [Lo,Lg] at qnA)))
      exact ⟨⟨A5,_,c5,_,k+1,⟨X,0,128,191⟩,outs++[X],[],by omega,by go_num,by rw [Lf];rfl,rfl,(qca qnA rfl).alloc _,qx (xs:=[]) rfl rfl L0 (Nat.zero_le _),by
       rw [qdv A5 _ (outs.length+1) c5];intro q q1 q2;have:=qa8 qnA q q1;simp only [Value.ownBlock,Option.some.injEq] at q2
       omega,((HB4.alloc zw _).trans qmz).alloc L0 _,.inl ⟨rfl,rfl⟩,HS.out,by rw [Lf,Lz];simp;omega⟩,by simp [intOf,lenV];omega⟩
     ·have HS:=Lh (HRn.out h1);have HKu:=Lh (HKs.out L0);clear HRn HRl HKw HKs HK HR HD;have zz:(((K.length:Int)+1)==((K.length+sm:Nat):Int))=false:=Lm.2 L0
      go_wp2_with (first
       | (go_at_call 129;refine (HL1.out _ _ _ _ (Rd.of_own qmW)).mono ?_;rintro e w3 ⟨rfl,rfl⟩)
       | (at_builtin;go_must (refine qg rfl _ _ _ rfl qba (w.heap.size) _ rfl ((qmW.alloc _)) _ _ rfl ((qe (by first | rfl | (simp;done)) rfl)) ?_);intro A4 c4 w4 qmC qmy qmG qmI;have z4:=qmy.size;(try simp only [Li] at z4);(try simp only [Lo,Lg] at qmC)))
      exact ⟨⟨A,A4,c,c4,k+1,⟨sv * 64+b % 64,sm-1,128,191⟩,outs,K++[b],by omega,by go_num,rfl,by rw [Lf];rfl,(qnB.alloc _).kept qmG hdj.ne,qeS qmC rfl,by rw [qdv A4 _ (K.length+1) c4];exact Dj.new hdj qmI (qa8 (qnB.alloc _)),(qnw.alloc zb _).trans qmy,HKu.out,HS.out,by rw [Lf,Lz];omega⟩,by simp [intOf,lenV];omega⟩
    ·have HS:=Lh (run_back HR.out HD.out hm' hin);clear HK HR HD;have hin2 : ¬ slo<=b∨(slo<=b/\¬ b<=shi):=by omega
     clear hin
     rcases hin2 with hin | ⟨hin,hin2⟩ <;>
     ·go_wp2_with (first
       | (go_at_call 129;refine (HL1.out _ _ _ _ (Rd.of_own qmW)).mono ?_;rintro e w3 ⟨rfl,rfl⟩)
       | (at_builtin;go_must (refine qg rfl _ _ _ rfl qdd (w.heap.size) _ rfl ((qnB.alloc _)) _ _ rfl ((qe (by first | rfl | (simp;done)) rfl)) ?_);intro A4 c4 w4 qmC qmy qmG qmI;have z4:=qmy.size;(try simp only [Li] at z4);(try simp only [Lo,Lg] at qmC)))
      exact ⟨⟨A4,_,c4,_,k,u0,outs++[65533],[],by omega,rfl,by rw [Lf];rfl,rfl,(qca qmC rfl).alloc _,qx (xs:=[]) rfl rfl (by have:=qmy.size;simp at this;omega) (Nat.zero_le _),by
       rw [qdv A4 _ (outs.length+1) c4];intro q q1 q2;have:=qa8 qmC q q1;simp only [Value.ownBlock,Option.some.injEq] at q2
       omega,((qnw.alloc zb _).trans qmy).alloc (by have:=qmy.size;simp at this;omega) _,qgz,HS.out,by rw [Lf,Lz];simp;omega⟩,by simp [intOf,lenV];omega⟩
  ·obtain rfl:k=t.size:=by omega
   have HF2:Hid (F=(⟨sv,sm,slo,shi⟩,outs)):=Lh (by rw [<- HR.out,Lv (by rw [HN.out];exact Ld _)];rfl);have HCv : ∀ m,(convert 184 9 (.slice A' K.length c')).run prog (wr.drewN m) = .ok (.string ⟨(K.map fun b=>UInt8.ofNat b).toArray⟩) (wr.drewN m):=fun m=>qgA (Rd.keep (Rd.of_own qmW) fun _ _=>rfl) rfl HK.out.lt_
   have HCd:(convert 184 9 (.slice A' K.length c')).run prog wr.drew = .ok (.string ⟨(K.map fun b=>UInt8.ofNat b).toArray⟩) wr.drew:=HCv 1
   have HNil:Hid ((⟨(K.map fun b=>UInt8.ofNat b).toArray⟩:ByteArray)=⟨#[]⟩↔F.1.m=0):=Lh (by
    rw [HF2.out,<- HK.out.nil_iff]
    constructor
    ·intro h;have:=congrArg (fun x:ByteArray=>x.data.size) h
     simpa using this
    ·rintro rfl;rfl)
   have HO:=Lh qnB;have e1:F.2=outs:=by rw [HF2.out]
   clear HF2 HR HK;generalize (⟨(K.map fun b=>UInt8.ofNat b).toArray⟩:ByteArray)=REST at *
   go_wp2
   go_quiet (fail)
   go_wp2;go_ret2;rw [e1];exact ⟨A,c,REST,rfl,qb HO.out (qf (Le _ _)),qf qnw,HNil.out⟩
end Go.Proofs.YtggegijlfaipfaaGreatDoor
namespace Go.Proofs.YtggegijlfaipfaaGreatDoor
open Go.Proofs.Tryz Go.RowKit
set_option maxRecDepth 100000
def yI (rs:List Nat):ByteArray:=⟨((zm rs).map fun b=>UInt8.ofNat b).toArray⟩
theorem qjC {rs:List Nat} {k:Nat} (h:k<rs.length):zm (rs.take (k+1))=zm (rs.take k)++vQ rs[k]:=by
 have e:rs.take (k+1)=rs.take k++[rs[k]]:=(List.take_append_getElem h).symm;rw [zm,zm,e,List.flatMap_append];simp only [List.flatMap_cons,List.flatMap_nil,List.append_nil]
theorem qf8 (rs:List Nat):(zm rs).length<=4 * rs.length:=by
 induction rs with
 | nil=>simp [zm]
 | cons r t ih =>
  have e:zm (r::t)=vQ r++zm t:=by simp [zm]
  have:=qaR r;rw [e,Lf,Lp]
  omega
theorem qfl {rs:List Nat} (h : ∀ r∈rs,qR r) : ∀ b∈zm rs,b<256:=by
 intro b hb;rw [zm,List.mem_flatMap] at hb;obtain ⟨r,hr,hb⟩:=hb;exact qh8 (h r hr) b hb
theorem qa5 {w:World} {base c n:Nat} {A:Option Addr} {e:TypeId} {outs l:List Nat} {vs:List Value} (h:w.ownsRow base e 1 (.slice A n c) n (byV outs++vs)) (hv:byV l=vs) (hn:n=(outs++l).length) :
  w.ownsRow base e 1 (.slice A (outs++l).length c) (outs++l).length (byV (outs++l)):=by
 subst hv hn;rw [qh9];exact h
theorem qlX (rs:List Nat) (hr : ∀ r∈rs,qR r) (A:Option Addr) (n c B:Nat) (w:World) (hn:rs.length=n) (hb:n<=4000000000) (rd:Rd w B 1 A n (chV rs)) (hB:B<=w.heap.size) :
  Calls prog 113 #[.slice A n c] w (qh (.string (yI rs)) w):=by
 have HN:=Lh hn;have HC:Hid (∀ k (h:k<rs.length),qR rs[k]):=Lh fun k h=>hr _ (Lt h)
 have HT:Hid (∀ k (h:k<rs.length),zm (rs.take (k+1))=zm (rs.take k)++vQ rs[k]):=Lh fun k h=>qjC h
 have HL:Hid (∀ k,(zm (rs.take k)).length<=4 * k):=Lh fun k=>by
  have:=qf8 (rs.take k);rw [Lu] at this
  omega
 have HE:Hid (∀ A c w,Rd w w.heap.size 1 A (zm rs).length (byV (zm rs))->(convert 184 9 (.slice A (zm rs).length c)).run prog w = .ok (.string (yI rs)) w):=Lh fun A c w rd=>qgA rd rfl (qfl hr)
 generalize yI rs=R at *
 clear hn
 go_enter func113,ntmps113
 go_wp2
 go_loopw [3,4] (fun v x wr=>∃ (A':Option Addr) (c' k:Nat),k<=n/\x = .int .i64 k/\v = .slice A' (zm (rs.take k)).length c'/\wr.ownsRow w.heap.size 5 1 (.slice A' (zm (rs.take k)).length c') (zm (rs.take k)).length (byV (zm (rs.take k)))/\Below w.heap.size w wr) (fun _ x _=>n-(intOf x).toNat)
 case atStart=>exact ⟨_,_,0,Nat.zero_le _,rfl,rfl,qx (xs:=[]) rfl rfl (Ld _) (Nat.zero_le _),L5⟩
 case round =>
  obtain ⟨A',c',k,hk,rfl,rfl,qnB,qnw⟩:=hrel
  by_cases hlt:k<n
  ·have hkl:k<rs.length:=by have:=HN.out;omega
   obtain ⟨b,o,rfl,hbB,hc⟩:=(rd.keep (w':=wr) fun p hp=>qnw.cell L0).at_ hlt;rw [qft _ _ hkl] at hc;have hch:=HC.out k hkl;have HTk:=Lh (HT.out k hkl);have hlk:=HL.out k;have zb:=qnw.size;generalize rs[k]=r at *
   generalize zm (rs.take k)=E at *
   unfold qR at hch
   by_cases h1:r<128
   ·have HEn:Hid (vQ r=[r]):=Lh (by rw [vQ,if_pos h1])
    go_wp2_with (at_builtin;go_must (refine qg rfl _ _ _ rfl qba (w.heap.size) _ rfl ((qnB.alloc _)) _ _ rfl ((qe (by first | rfl | (simp;done)) rfl)) ?_);intro A4 c4 w4 qmC qmy qmG qmI;have z4:=qmy.size;(try simp only [Li] at z4);(try simp only [Lo,Lg] at qmC))
    exact ⟨⟨A4,c4,k+1,by omega,by go_num,by rw [HTk.out,HEn.out,Lf];rfl,by rw [HTk.out];exact qa5 qmC (by rw [HEn.out];simp [byV]) (by rw [HEn.out];simp),(qnw.alloc zb _).trans qmy⟩,by simp [intOf];omega⟩
   ·by_cases h2:r<2048
    ·have HEn:Hid (vQ r=[0xC0+r / 64,0x80+r % 64]):=Lh (by rw [vQ,if_neg h1,if_pos h2])
     go_wp2_with (at_builtin;go_must (refine qg rfl _ _ _ rfl qba (w.heap.size) _ rfl ((qnB.alloc _)) _ _ rfl ((qe (by first | rfl | (simp;done)) rfl)) ?_);intro A4 c4 w4 qmC qmy qmG qmI;have z4:=qmy.size;(try simp only [Li] at z4);(try simp only [Lo,Lg] at qmC))
     exact ⟨⟨A4,c4,k+1,by omega,by go_num,by rw [HTk.out,HEn.out,Lf];rfl,by rw [HTk.out];exact qa5 qmC (by rw [HEn.out];simp [byV]) (by rw [HEn.out];simp),(qnw.alloc zb _).trans qmy⟩,by simp [intOf];omega⟩
    ·by_cases h3:r<65536
     ·have HEn:Hid (vQ r=[0xE0+r / 4096,0x80+r / 64 % 64,0x80+r % 64]):=Lh (by rw [vQ,if_neg h1,if_neg h2,if_pos h3]);obtain ⟨z,hz⟩ : ∃ z:Int,z=(r:Int):=⟨_,rfl⟩
      rw [<- hz] at hc;have z1:2048<=z:=by omega
      have z2:z<65536:=by omega
      have z3:z<55296∨(55296<=z/\¬ z<=57343):=by omega
      have HZ:=Lh hz;clear hz h1 h2 h3;clear hch
      rcases z3 with z3 | ⟨z3,z4⟩
      ·skip
       go_wp2_with (at_builtin;go_must (refine qg rfl _ _ _ rfl qba (w.heap.size) _ rfl ((qnB.alloc _)) _ _ rfl ((qe (by first | rfl | (simp;done)) rfl)) ?_);intro A4 c4 w4 qmC qmy qmG qmI;have z4:=qmy.size;(try simp only [Li] at z4);(try simp only [Lo,Lg] at qmC))
       exact ⟨⟨A4,c4,k+1,by omega,by go_num,by rw [HTk.out,HEn.out,Lf];rfl,by rw [HTk.out];exact qa5 qmC (by rw [HEn.out,HZ.out];simp [byV]) (by rw [HEn.out];simp),(qnw.alloc zb _).trans qmy⟩,by simp [intOf];omega⟩
      ·skip
       go_wp2_with (at_builtin;go_must (refine qg rfl _ _ _ rfl qba (w.heap.size) _ rfl ((qnB.alloc _)) _ _ rfl ((qe (by first | rfl | (simp;done)) rfl)) ?_);intro A4 c4 w4 qmC qmy qmG qmI;have z4:=qmy.size;(try simp only [Li] at z4);(try simp only [Lo,Lg] at qmC))
       exact ⟨⟨A4,c4,k+1,by omega,by go_num,by rw [HTk.out,HEn.out,Lf];rfl,by rw [HTk.out];exact qa5 qmC (by rw [HEn.out,HZ.out];simp [byV]) (by rw [HEn.out];simp),(qnw.alloc zb _).trans qmy⟩,by simp [intOf];omega⟩
     ·have HEn:Hid (vQ r=[0xF0+r / 262144,0x80+r / 4096 % 64,0x80+r / 64 % 64,0x80+r % 64]):=Lh (by rw [vQ,if_neg h1,if_neg h2,if_neg h3]);obtain ⟨z,hz⟩ : ∃ z:Int,z=(r:Int):=⟨_,rfl⟩
      rw [<- hz] at hc;have z1:2048<=z:=by omega
      have z2:65536<=z:=by omega
      have z3:z<=1114111:=by omega
      have HZ:=Lh hz;clear hz h1 h2 h3;clear hch
      go_wp2_with (at_builtin;go_must (refine qg rfl _ _ _ rfl qba (w.heap.size) _ rfl ((qnB.alloc _)) _ _ rfl ((qe (by first | rfl | (simp;done)) rfl)) ?_);intro A4 c4 w4 qmC qmy qmG qmI;have z4:=qmy.size;(try simp only [Li] at z4);(try simp only [Lo,Lg] at qmC))
      exact ⟨⟨A4,c4,k+1,by omega,by go_num,by rw [HTk.out,HEn.out,Lf];rfl,by rw [HTk.out];exact qa5 qmC (by rw [HEn.out,HZ.out];simp [byV]) (by rw [HEn.out];simp),(qnw.alloc zb _).trans qmy⟩,by simp [intOf];omega⟩
  ·obtain rfl:k=n:=by omega
   have ht:rs.take k=rs:=List.take_of_length_le (by have:=HN.out;omega);rw [ht] at qnB;have hl:(zm (rs.take k)).length=(zm rs).length:=by rw [ht]
   have hcv:=HE.out _ c' wr (Rd.of_own qnB);rw [ht];clear hl HL HT HC HE;generalize (zm rs).length=m at *
   clear ht;go_wp2;go_ret;exact ⟨rfl,qnw⟩
end Go.Proofs.YtggegijlfaipfaaGreatDoor
namespace Go.Proofs.YtggegijlfaipfaaGreatDoor
open Go.Proofs.Tryz Go.RowKit
set_option maxRecDepth 20000
def qaN (t:List (Int × Int)):List Value:=t.flatMap fun p=>[.int .i32 p.1,.int .i32 p.2]
theorem qgv : ∀ (t:List (Int × Int)) (i:Nat) (h:i<t.length),(qaN t)[i * 2]? = some (.int .i32 t[i].1)/\(qaN t)[i * 2+1]? = some (.int .i32 t[i].2)
 | [],i,h=>by cases h
 | p::t,0,_=>⟨rfl,rfl⟩
 | p::t,i+1,h=>by
  have e:qaN (p::t) = .int .i32 p.1::.int .i32 p.2::qaN t:=by simp [qaN]
  obtain ⟨h1,h2⟩:=qgv t i (by simpa using h);rw [e];refine ⟨?_,?_⟩
  ·rw [show (i+1) * 2=i * 2+1+1 by omega,Lc,Lc];exact h1
  ·rw [show (i+1) * 2+1=i * 2+1+1+1 by omega,Lc,Lc];exact h2
theorem qhj {w:World} {B n:Nat} {A:Option Addr} {t:List (Int × Int)} (rd:Rd w B 2 A n (qaN t)) {i:Nat} (hi:i<t.length) (hn:t.length=n) :
  ∃ b o,A=some ⟨b,o,none⟩/\w.cell? ⟨b,o+i * 2,none⟩=some (.int .i32 t[i].1)/\w.cell? ⟨b,o+i * 2+1,none⟩=some (.int .i32 t[i].2):=by
 obtain ⟨b,o,e,_,hc⟩:=rd.2 L0;obtain ⟨h1,h2⟩:=qgv t i hi;exact ⟨b,o,e,hc _ _ h1,hc _ _ h2⟩
theorem found (t:List (Int × Int)) (ha:qbT t) (hu : ∀ p∈t,p.1<=p.2) (r:Int) (g n c B:Nat) (A:Option Addr) (w:World) (hn:t.length=n) (hb:n<=1000) (hbox:w.cell? ⟨g,0,none⟩=some (.slice A n c)) (rd:Rd w B 2 A n (qaN t)) :
  Calls prog 128 #[.int .i32 r,.pointer (some ⟨g,0,none⟩)] w (Quiet (.bool (inT t r)) w):=by
 have HF:Hid (∀ k,(∀ j (h:j<t.length),j<k->t[j].2<r)->(∀ j (h:j<t.length),k<=j->r<=t[j].2)->k<=t.length->inT t r=if h:k<t.length then decide (t[k].1<=r) else false):=Lh fun k h1 h2 h3=>qiP ha h1 h2 h3
 have HN:=Lh hn;have HM:Hid (∀ i j (hi:i<t.length) (hj:j<t.length),i<=j->t[i].2<=t[j].2):=Lh fun i j hi hj h=>tab_mono ha hu h hj
 generalize inT t r=R at *
 clear ha hu hn
 go_enter func128,ntmps128
 go_wp2
 go_quiet (fail)
 go_wp2
 go_loopw [4,5] (fun x y wr=>∃ a b j:Nat,a<=b/\b<=n/\x = .int .i64 a/\y = .int .i64 b/\wr=w.drewN j/\Hid (∀ j (h:j<t.length),j<a->t[j].2<r)/\Hid (∀ j (h:j<t.length),b<=j->r<=t[j].2)) (fun x y _=>(intOf y).toNat-(intOf x).toNat)
 case atStart=>exact ⟨0,n,_,Nat.zero_le _,Ld _,rfl,rfl,rfl,Lh fun j h h2=>absurd h2 (Nat.not_lt_zero j),Lh fun j h h2=>absurd h2 (by have:=HN.out;omega)⟩
 case round =>
  obtain ⟨a,b,j,hab,hbn,rfl,rfl,rfl,HA,HB⟩:=hrel
  by_cases hlt:a<b
  ·have e1:IntKind.i64.wrap ((a:Int)+(b:Int))=(a:Int)+(b:Int):=IntWalk.i64_in _ L0;have e2:((a:Int)+(b:Int)).tdiv 2=(((a+b) / 2:Nat):Int):=by
    rw [show (a:Int)+(b:Int)=((a+b:Nat):Int) by omega,Int.tdiv_eq_ediv_of_nonneg L0]
    rfl
   have hm1:a<=(a+b) / 2:=by omega
   have hm2:(a+b) / 2<b:=by omega
   generalize (a+b) / 2=m at *
   have hml:m<t.length:=by have:=HN.out;omega
   obtain ⟨bb,oo,rfl,c1,c2⟩:=qhj rd hml HN.out;have e3:IntKind.i64.wrap (m:Int)=(m:Int):=IntWalk.i64_in _ L0
   by_cases hr:t[m].2<r
   ·have HA2:Hid (∀ j (h:j<t.length),j<m+1->t[j].2<r):=Lh fun j h h2=>by
     have:=HM.out j m h hml L0
     omega
    generalize t[m].2=z at *
    clear c1;go_wp2;exact ⟨⟨m+1,b,_,by omega,hbn,by go_num,rfl,rfl,HA2,HB⟩,by simp [intOf];omega⟩
   ·have HB2:Hid (∀ j (h:j<t.length),m<=j->r<=t[j].2):=Lh fun j h h2=>by
     have:=HM.out m j hml h h2
     omega
    generalize t[m].2=z at *
    clear c1;go_wp2;exact ⟨⟨a,m,_,hm1,by omega,rfl,by go_num,rfl,HA,HB2⟩,by simp [intOf];omega⟩
  ·obtain rfl:a=b:=by omega
   have HR:=Lh (HF.out a HA.out HB.out (by have:=HN.out;omega))
   by_cases hal:a<n
   ·have hal':a<t.length:=by have:=HN.out;omega
    obtain ⟨bb,oo,rfl,c1,c2⟩:=qhj rd hal' HN.out;have HR2:Hid (R=decide (t[a].1<=r)):=Lh (by rw [HR.out,dif_pos hal']);generalize t[a].1=z at *
    clear c2 HR;go_wp2;go_ret;exact ⟨by rw [HR2.out];rfl,_,rfl⟩
   ·have HR2:Hid (R=false):=Lh (by rw [HR.out,dif_neg (by have:=HN.out;omega)]);clear HR;go_wp2;go_ret;exact ⟨by rw [HR2.out];rfl,_,rfl⟩
theorem marks_ (w:World):Calls prog 127 #[] w (ql 183 2 id w 7 (qaN qM)):=by
 go_enter func127,ntmps127
 go_wp2;go_ret;exact ⟨_,_,rfl,qx (xs:=qaN qM) rfl rfl (Ld _) L0,L5⟩
theorem wide_ (w:World):Calls prog 111 #[] w (ql 183 2 id w 14 (qaN y8)):=by
 go_enter func111,ntmps111
 go_wp2;go_ret;exact ⟨_,_,rfl,qx (xs:=qaN y8) rfl rfl (Ld _) L0,L5⟩
theorem qiz (A:Option Addr) (n c:Nat) (w:World):Calls prog 110 #[.slice A n c] w fun e w'=>e = .returned (.func (.func 128) #[] #[.pointer (some ⟨w.heap.size,0,none⟩)])/\w.alloc (.cells #[.slice A n c] 158)=w':=by
 go_enter func110,ntmps110
 go_wp2;go_ret;exact ⟨rfl,rfl⟩
theorem mark_ (r:Int) (w:World):Calls prog 109 #[.int .i32 r] w (qh (.bool (inT qM r)) w):=by
 have HF:Hid (∀ g c B A w,w.cell? ⟨g,0,none⟩=some (.slice A 7 c)->Rd w B 2 A 7 (qaN qM)->Calls prog 128 #[.int .i32 r,.pointer (some ⟨g,0,none⟩)] w (Quiet (.bool (inT qM r)) w)):=Lh fun g c B A w h1 h2=>found qM qhz mark_up r g 7 c B A w rfl L0 h1 h2
 generalize inT qM r=R at *
 go_enter func109,ntmps109
 go_wp2_with (first
  | (go_at_call 127;refine (marks_ _).mono ?_;rintro e w1 ⟨A1,c1,rfl,qnx,qmv⟩)
  | (go_at_call 110;refine (qiz _ _ _ _).mono ?_;rintro e w2 ⟨rfl,rfl⟩)
  | (go_at_call 128;go_loud (refine (HF.out w1.heap.size c1 _ A1 _ (qu w1 #[.slice A1 7 c1] _ 0) (Rd.of_own (qb qnx L5))).mono ?_);rintro e w3 ⟨rfl,q3,rfl⟩))
 go_ret;exact ⟨rfl,qf (qmv.alloc qmv.size _)⟩
theorem qgk {r:Int} (h:r<32∨(127<=r/\r<=159)):zR r = -1:=if_pos h
theorem qew {r:Int} (h : ¬ (r<32∨(127<=r/\r<=159))) (hm:inT qM r=true):zR r=0:=by unfold zR;rw [if_neg h,if_pos hm]
theorem qen {r:Int} (h : ¬ (r<32∨(127<=r/\r<=159))) (hm:inT qM r=false):zR r=if inT y8 r=true then 2 else 1:=by unfold zR;rw [if_neg h,if_neg (by simp [hm])]
theorem qgZ (r:Int) (w:World):Calls prog 95 #[.int .i32 r] w (qh (.int .i64 (zR r)) w):=by
 have HF:Hid (∀ g c B A w,w.cell? ⟨g,0,none⟩=some (.slice A 14 c)->Rd w B 2 A 14 (qaN y8)->Calls prog 128 #[.int .i32 r,.pointer (some ⟨g,0,none⟩)] w (Quiet (.bool (inT y8 r)) w)):=Lh fun g c B A w h1 h2=>found y8 qhf wide_up r g 14 c B A w rfl L0 h1 h2
 have HM:=Lh (mark_ r);have H0:=Lh (@qgk r);have H1:=Lh (@qew r);have H2:=Lh (@qen r);generalize zR r=W at *
 by_cases hc:r<32∨(127<=r/\r<=159)
 ·have HW:Hid (W = -1):=Lh (H0.out hc);clear H0 H1 H2 HM HF
  rcases hc with hc | ⟨hc1,hc2⟩
  ·go_enter func95,ntmps95
   go_wp2;go_ret;exact ⟨by rw [HW.out];rfl,by first | exact Le _ _ | exact qf (Le _ _)⟩
  ·have hc3 : ¬ r<32:=by omega
   go_enter func95,ntmps95
   go_wp2;go_ret;exact ⟨by rw [HW.out];rfl,by first | exact Le _ _ | exact qf (Le _ _)⟩
 ·generalize inT qM r=M at *
  cases M with
  | true =>
   have HW:Hid (W=0):=Lh (H1.out hc rfl);clear H0 H1 H2 HF;rw [not_or] at hc;obtain ⟨hc0,hc⟩:=hc
   by_cases hc1:127<=r
   ·have hc2 : ¬ r<=159:=by omega
    clear hc
    go_enter func95,ntmps95
    go_wp2_with (go_at_call 109;refine (HM.out _).mono ?_;rintro e w1 ⟨rfl,qmv⟩)
    go_ret;exact ⟨by rw [HW.out];rfl,qmv⟩
   ·clear hc
    go_enter func95,ntmps95
    go_wp2_with (go_at_call 109;refine (HM.out _).mono ?_;rintro e w1 ⟨rfl,qmv⟩)
    go_ret;exact ⟨by rw [HW.out];rfl,qmv⟩
  | false =>
   have HW:Hid (W=if inT y8 r=true then 2 else 1):=Lh (H2.out hc rfl);generalize inT y8 r=V at *
   clear H0 H1 H2;rw [not_or] at hc;obtain ⟨hc0,hc⟩:=hc;have hd:127<=r/\¬ r<=159∨¬ 127<=r:=by omega
   clear hc
   rcases hd with ⟨hc1,hc2⟩ | hc1 <;> cases V <;>
   ·go_enter func95,ntmps95
    go_wp2_with (first
     | (go_at_call 109;refine (HM.out _).mono ?_;rintro e w1 ⟨rfl,qmv⟩)
     | (go_at_call 111;refine (wide_ _).mono ?_;rintro e w2 ⟨A2,c2,rfl,qny,qmw⟩;have t2:=qmv.trans (qmw.mono qmv.size))
     | (go_at_call 110;refine (qiz _ _ _ _).mono ?_;rintro e w3 ⟨rfl,rfl⟩)
     | (go_at_call 128;go_loud (refine (HF.out w2.heap.size c2 _ A2 _ (qu w2 #[.slice A2 14 c2] _ 0) (Rd.of_own (qb qny L5))).mono ?_);rintro e w4 ⟨rfl,q4,rfl⟩))
    go_ret;exact ⟨by rw [HW.out];rfl,qf (t2.alloc t2.size _)⟩
theorem rin2 (t:List (Int × Int)) (r:Int) (n c B:Nat) (A:Option Addr) (w:World) (hn:t.length=n) (hb:n<=1000) (rd:Rd w B 2 A n (qaN t)) :
  Calls prog 114 #[.slice A n c,.int .i32 r] w (Quiet (.bool (inT t r)) w):=by
 have HF:Hid (inT t r=true↔∃ i,∃ h:i<t.length,t[i].1<=r/\r<=t[i].2):=Lh (qix t r);have HN:=Lh hn;generalize inT t r=R at *
 clear hn
 go_enter func114,ntmps114
 go_wp2
 go_loopw [5] (fun x wr=>∃ a j:Nat,a<=n/\x = .int .i64 a/\wr=w.drewN j/\Hid (∀ i (h:i<t.length),i<a->¬ (t[i].1<=r/\r<=t[i].2))) (fun x _=>n-(intOf x).toNat)
 case atStart=>exact ⟨0,0,Nat.zero_le _,rfl,rfl,Lh fun i h h2=>absurd h2 (Nat.not_lt_zero i)⟩
 case round =>
  obtain ⟨a,j,han,rfl,rfl,HA⟩:=hrel
  by_cases hlt:a<n
  ·have hml:a<t.length:=by have:=HN.out;omega
   obtain ⟨bb,oo,rfl,c1,c2⟩:=qhj rd hml HN.out;have HY:Hid (t[a].1<=r/\r<=t[a].2->R=true):=Lh fun h=>HF.out.2 ⟨a,hml,h⟩
   have HZ:Hid (¬ (t[a].1<=r/\r<=t[a].2)->∀ i (h:i<t.length),i<a+1->¬ (t[i].1<=r/\r<=t[i].2)):=Lh fun h0 i h h2=>by
    rcases Nat.lt_or_ge i a with h1 | h1
    ·exact HA.out i h h1
    ·obtain rfl:i=a:=by omega
     exact h0
   generalize t[a].1=y at *
   generalize t[a].2=z at *
   by_cases h1:y<=r
   ·by_cases h2:r<=z
    ·have HR:=Lh (HY.out ⟨h1,h2⟩);go_wp2;go_ret;exact ⟨by rw [HR.out];rfl,_,rfl⟩
    ·have HR:=Lh (HZ.out fun h=>h2 h.2);clear HY HZ;go_wp2;exact ⟨⟨a+1,_,by omega,by go_num,rfl,HR⟩,by simp [intOf];omega⟩
   ·have HR:=Lh (HZ.out fun h=>h1 h.1);clear HY HZ;go_wp2;exact ⟨⟨a+1,_,by omega,by go_num,rfl,HR⟩,by simp [intOf];omega⟩
  ·have HR:Hid (R=false):=Lh (by
    cases hR:R with
    | false=>rfl
    | true =>
     obtain ⟨i,h,h1⟩:=HF.out.1 hR
     exact absurd h1 (HA.out i h (by have:=HN.out;omega)))
   clear HF;go_wp2;go_ret;exact ⟨by rw [HR.out];rfl,_,rfl⟩
theorem rmarks (w:World):Calls prog 115 #[] w (ql 183 2 id w 7 (qaN qM)):=by
 go_enter func115,ntmps115
 go_wp2;go_ret;exact ⟨_,_,rfl,qx (xs:=qaN qM) rfl rfl (Ld _) L0,L5⟩
theorem rwide (w:World):Calls prog 116 #[] w (ql 183 2 id w 14 (qaN y8)):=by
 go_enter func116,ntmps116
 go_wp2;go_ret;exact ⟨_,_,rfl,qx (xs:=qaN y8) rfl rfl (Ld _) L0,L5⟩
theorem qlD (r:Int) (w:World):Calls prog 102 #[.int .i32 r] w (qh (.bool (inT qM r)) w):=by
 have HF:=Lh (rin2 qM r);generalize inT qM r=R at *
 go_enter func102,ntmps102
 go_wp2_with (first
  | (go_at_call 115;refine (rmarks _).mono ?_;rintro e w1 ⟨A1,c1,rfl,qnx,qmv⟩)
  | (go_at_call 114;refine (HF.out 7 c1 _ A1 _ rfl L0 (Rd.of_own qnx)).mono ?_;rintro e w3 ⟨rfl,q3,rfl⟩))
 go_ret;exact ⟨rfl,qf qmv⟩
theorem qlk (r:Int) (w:World):Calls prog 103 #[.int .i32 r] w (qh (.int .i64 (zR r)) w):=by
 have HF:=Lh (rin2 y8 r);have HM:=Lh (qlD r);have H0:=Lh (@qgk r);have H1:=Lh (@qew r);have H2:=Lh (@qen r);generalize zR r=W at *
 by_cases hc:r<32∨(127<=r/\r<=159)
 ·have HW:Hid (W = -1):=Lh (H0.out hc);clear H0 H1 H2 HM HF
  rcases hc with hc | ⟨hc1,hc2⟩
  ·go_enter func103,ntmps103
   go_wp2;go_ret;exact ⟨by rw [HW.out];rfl,by first | exact Le _ _ | exact qf (Le _ _)⟩
  ·have hc3 : ¬ r<32:=by omega
   go_enter func103,ntmps103
   go_wp2;go_ret;exact ⟨by rw [HW.out];rfl,by first | exact Le _ _ | exact qf (Le _ _)⟩
 ·have hd : ¬ r<32/\(127<=r/\¬ r<=159∨¬ 127<=r):=by omega
  generalize inT qM r=M at *
  cases M with
  | true =>
   have HW:Hid (W=0):=Lh (H1.out hc rfl);clear H0 H1 H2 HF hc;obtain ⟨hc0,hd⟩:=hd
   rcases hd with ⟨hc1,hc2⟩ | hc1 <;>
   ·go_enter func103,ntmps103
    go_wp2_with (go_at_call 102;refine (HM.out _).mono ?_;rintro e w1 ⟨rfl,qmv⟩)
    go_ret;exact ⟨by rw [HW.out];rfl,qmv⟩
  | false =>
   have HW:Hid (W=if inT y8 r=true then 2 else 1):=Lh (H2.out hc rfl);generalize inT y8 r=V at *
   clear H0 H1 H2 hc;obtain ⟨hc0,hd⟩:=hd
   rcases hd with ⟨hc1,hc2⟩ | hc1 <;> cases V <;>
   ·go_enter func103,ntmps103
    go_wp2_with (first
     | (go_at_call 102;refine (HM.out _).mono ?_;rintro e w1 ⟨rfl,qmv⟩)
     | (go_at_call 116;refine (rwide _).mono ?_;rintro e w2 ⟨A2,c2,rfl,qny,qmw⟩;have t2:=qmv.trans (qmw.mono qmv.size))
     | (go_at_call 114;refine (HF.out 14 c2 _ A2 _ rfl L0 (Rd.of_own qny)).mono ?_;rintro e w4 ⟨rfl,q4,rfl⟩))
    go_ret;exact ⟨by rw [HW.out];rfl,qf t2⟩
theorem marked_ (rs:List Nat) (A:Option Addr) (n c B:Nat) (w:World) (hn:rs.length=n) (hb:n<=100000000000) (rd:Rd w B 1 A n (chV rs)) (hB:B<=w.heap.size) :
  Calls prog 96 #[.slice A n c] w (qh (.bool (rs.all fun (x:Nat)=>inT qM (x:Int))) w):=by
 have HF:Hid ((rs.all fun (x:Nat)=>inT qM (x:Int))=((rs.drop 0).all fun (x:Nat)=>inT qM (x:Int))):=Lh rfl;have HN:=Lh hn;generalize (rs.all fun (x:Nat)=>inT qM (x:Int))=R at *
 clear hn
 go_enter func96,ntmps96
 go_wp2
 go_loopw [7] (fun x wr=>∃ k:Nat,k<=n/\x = .int .i64 k/\Below w.heap.size w wr/\Hid (R=((rs.drop k).all fun (x:Nat)=>inT qM (x:Int)))) (fun x _=>n-(intOf x).toNat)
 case atStart=>exact ⟨0,Nat.zero_le _,rfl,Le _ _,HF⟩
 case round =>
  obtain ⟨k,hk,rfl,qnw,HR⟩:=hrel
  by_cases hlt:k<n
  ·have hkl:k<rs.length:=by have:=HN.out;omega
   obtain ⟨b,o,rfl,hbB,hc⟩:=(rd.keep (w':=wr) fun p hp=>qnw.cell L0).at_ hlt;rw [qft _ _ hkl] at hc;have HD:Hid (rs.drop k=rs[k]::rs.drop (k+1)):=Lh (Ls hkl);generalize rs[k]=x at *
   have HM:=Lh (mark_ (x:Int) wr);have HT:Hid (inT qM (x:Int)=true->R=((rs.drop (k+1)).all fun (x:Nat)=>inT qM (x:Int))):=Lh fun h=>by rw [HR.out,HD.out,List.all_cons,h,Bool.true_and]
   have HZ:Hid (inT qM (x:Int)=false->R=false):=Lh fun h=>by rw [HR.out,HD.out,List.all_cons,h,Bool.false_and]
   generalize inT qM (x:Int)=M at *
   clear HR HD
   cases M with
   | true =>
    have HR2:=Lh (HT.out rfl)
    go_wp2_with (go_at_call 109;refine HM.out.mono ?_;rintro e w1 ⟨rfl,qmv⟩)
    exact ⟨⟨k+1,by omega,by go_num,qnw.trans (qmv.mono qnw.size),HR2⟩,by simp [intOf];omega⟩
   | false =>
    have HR2:=Lh (HZ.out rfl)
    go_wp2_with (go_at_call 109;refine HM.out.mono ?_;rintro e w1 ⟨rfl,qmv⟩)
    go_ret;exact ⟨by rw [HR2.out];rfl,qnw.trans (qmv.mono qnw.size)⟩
  ·have HR2:Hid (R=true):=Lh (by rw [HR.out,Lv (by have:=HN.out;omega)];rfl);go_wp2;go_ret;exact ⟨by rw [HR2.out];rfl,qnw⟩
theorem rd_tailC {w:World} {B n c:Nat} {b o:Nat} {r:Nat} {t:List Nat} (hn:t.length+1=n) (hc:n<=c) (rd:Rd w B 1 (some ⟨b,o,none⟩) n (chV (r::t))) :
  Rd w B 1 (if c=1 then some ⟨b,o,none⟩ else some ⟨b,o+1,none⟩) (n-1) (chV t):=by
 have h:=rd.cut (k:=1) (cap:=c) L0 hc;simp only [Nat.mul_one,Option.map_some,vl] at h;exact h
theorem qh2 {w:World} {B n b o:Nat} {v:Value} {xs:List Value} (rd:Rd w B 1 (some ⟨b,o,none⟩) n (v::xs)) (hn:0<n):w.cell? ⟨b,o,none⟩=some v:=(rd.form hn).2.2 0 v rfl
theorem kT {s:ByteArray} (h:s.size≠0):s.toList.isEmpty=false:=by
 rw [ByteArray.toList_eq,List.isEmpty_eq_false_iff];intro e;have:=congrArg List.length e;exact h (by simpa using this)
theorem qgV (w:World):Calls prog 77 #[.string ⟨#[]⟩] w (qh (.int .i64 3) w):=by
 go_enter func77,ntmps77
 go_wp2;go_ret;exact ⟨rfl,Le _ _⟩
theorem qi6 (s:ByteArray) (hs:s.size<=1000000000) (h0:s.size≠0) (hv:vb s=false) (w:World) (hu:U8 w):Calls prog 77 #[.string s] w (qh (.int .i64 3) w):=by
 have HV:=Lh (valid_ s hs w hu);rw [hv] at HV;have he:=kT h0;clear hu hv
 go_enter func77,ntmps77
 go_wp2_with (go_at_call 94;refine HV.out.mono ?_;rintro e w1 ⟨rfl,qmv⟩)
 go_ret;exact ⟨rfl,qmv⟩
theorem qho (s:ByteArray) (hs:s.size<=1000000000) (h0:s.size≠0) (hv:vb s=true) (w:World) (hu:U8 w) (r:Nat) (t:List Nat) (hc:qs (qB s)=r::t) :
  Calls prog 77 #[.string s] w (qh (.int .i64 (if zR (r:Int)<1∨(t.all fun (x:Nat)=>inT qM (x:Int))=false then 9 else if 3<t.length then 5 else 0)) w):=by
 have HV:=Lh (valid_ s hs w hu);rw [hv] at HV;have he:=kT h0;have HC:Hid (∀ w,_):=Lh (qbK s hv hs);have hl:=jB s;rw [hc] at HC hl;rw [Lp] at HC hl;have HW:=Lh (qgZ (r:Int));have HM:=Lh (fun (n c B:Nat) A w=>marked_ t A n c B w);generalize (t.all fun (x:Nat)=>inT qM (x:Int))=M at *
 generalize zR (r:Int)=W at *
 obtain ⟨RES,qmF⟩ : ∃ x:Int,x=if W<1∨M=false then 9 else if 3<t.length then 5 else 0:=⟨_,rfl⟩
 rw [<- qmF];have qmT:=Lh qmF;clear hu hv hc qmF
 go_enter func77,ntmps77
 go_upto_region 3 with (go_at_call 94;refine HV.out.mono ?_;rintro e w1 ⟨rfl,qmv⟩)
 obtain ⟨c2,w2,hrun,rd2,qmw,hcap⟩:=HC.out w1;have z1:=qmv.size;have z2:=qmw.size
 go_upto_region 4 with fail
 have cell0:w2.cell? ⟨w1.heap.size,0,none⟩=some (.int .i32 (r:Int)):=qh2 rd2 L0;have HT:=Lh (rd_tailC rfl hcap rd2);rw [Nat.add_sub_cancel,Lo] at HT
 by_cases hw:W<1
 ·go_wp2_with (go_at_call 95;refine (HW.out _).mono ?_;rintro e w3 ⟨rfl,qmx⟩)
  go_ret;exact ⟨by rw [qmT.out,if_pos (.inl hw)];rfl,(qmv.trans (qmw.mono z1)).trans (qmx.mono L0)⟩
 ·cases M with
  | false =>
   go_wp2_with (first
    | (go_at_call 95;refine (HW.out _).mono ?_;rintro e w3 ⟨rfl,qmx⟩;have z3:=qmx.size)
    | (go_at_call 96;refine (HM.out _ _ w2.heap.size _ _ rfl L0 (HT.out.below qmx) z3).mono ?_;rintro e w4 ⟨rfl,qmy⟩))
   all_goals go_ret
   all_goals exact ⟨by rw [qmT.out,if_pos L1];rfl,((qmv.trans (qmw.mono z1)).trans (qmx.mono L0)).trans (qmy.mono L0)⟩
  | true =>
   by_cases h3:3<t.length
   ·go_wp2_with (first
     | (go_at_call 95;refine (HW.out _).mono ?_;rintro e w3 ⟨rfl,qmx⟩;have z3:=qmx.size)
     | (go_at_call 96;refine (HM.out _ _ w2.heap.size _ _ rfl L0 (HT.out.below qmx) z3).mono ?_;rintro e w4 ⟨rfl,qmy⟩))
    all_goals go_ret
    all_goals exact ⟨by rw [qmT.out,if_neg (by simp;omega),if_pos h3];rfl,((qmv.trans (qmw.mono z1)).trans (qmx.mono L0)).trans (qmy.mono L0)⟩
   ·go_wp2_with (first
     | (go_at_call 95;refine (HW.out _).mono ?_;rintro e w3 ⟨rfl,qmx⟩;have z3:=qmx.size)
     | (go_at_call 96;refine (HM.out _ _ w2.heap.size _ _ rfl L0 (HT.out.below qmx) z3).mono ?_;rintro e w4 ⟨rfl,qmy⟩))
    all_goals go_ret
    all_goals exact ⟨by rw [qmT.out,if_neg (by simp;omega),if_neg h3];rfl,((qmv.trans (qmw.mono z1)).trans (qmx.mono L0)).trans (qmy.mono L0)⟩
theorem qdB (s:ByteArray) (hs:s.size<=1000000000) (w:World) (hu:U8 w):Calls prog 77 #[.string s] w (qh (.int .i64 (zB s)) w):=by
 by_cases h0:s.size=0
 ·rw [qaK h0];obtain rfl:s=⟨#[]⟩:=ByteArray.ext (Array.eq_empty_of_size_eq_zero h0);exact qgV w
 ·unfold zB
  cases hv:vb s with
  | false=>exact qi6 s hs h0 hv w hu
  | true =>
   rw [if_neg L1]
   cases hc:qs (qB s) with
   | nil =>
    exfalso
    rw [vb,decide_eq_true_eq,hc] at hv;have:=congrArg List.length hv;rw [zT] at this;exact h0 this.symm
   | cons r t=>exact qho s hs h0 hv w hu r t hc
theorem qkb (s:ByteArray):(⟨((qB s).map fun b=>UInt8.ofNat b).toArray⟩:ByteArray)=s:=by
 apply ByteArray.ext
 apply Array.toList_inj.1
 simp [qB,Function.comp_def]
theorem qbR (s:ByteArray):yI (qs (qB s))=s↔vb s=true:=by
 rw [vb,decide_eq_true_eq]
 constructor
 ·intro h;have h2:qB (yI (qs (qB s)))=zm (qs (qB s)):=by
   unfold yI
   show List.map UInt8.toNat (List.toArray _).toList=_
   rw [List.map_map];refine (List.map_congr_left (g:=id) fun b hb=>?_).trans (List.map_id _);have:=qfl (yD (qB s)) b hb
   simp
   omega
  rw [<- h2,h]
 ·intro h;unfold yI;rw [h];exact qkb s
theorem rvalid (s:ByteArray) (hs:s.size<=1000000000) (w:World):Calls prog 100 #[.string s] w (qh (.bool (vb s)) w):=by
 have HD:=Lh (qiF s hs w);have hl:=jB s;have HE:Hid (∀ (A:Option Addr) (c:Nat) (w:World),Rd w w.heap.size 1 A (qs (qB s)).length (chV (qs (qB s)))->Calls prog 113 #[.slice A (qs (qB s)).length c] w (qh (.string (yI (qs (qB s)))) w)):=Lh fun A c w rd=>qlX _ (yD _) A _ c w.heap.size w rfl L0 rd (Ld _)
 have HV:=Lh (qbR s);have HP:Hid (vb s=true->(zJ (qB s) (u0,[])).1.m=0):=Lh qf2;unfold DecP at HD;generalize (zJ (qB s) (u0,[])).1.m=m at *
 generalize vb s=R at *
 generalize yI (qs (qB s))=E at *
 generalize qs (qB s)=L at *
 by_cases hm':m=0
 ·have hm:=Lh hm';clear hm'
  cases R with
  | true =>
   have hq:=Lh (HV.out.2 rfl)
   go_enter func100,ntmps100
   go_upto_region 2 with (go_at_call 112;refine HD.out.mono ?_;rintro e w1 ⟨A1,c1,rest,rfl,qnx,qmv,hrest⟩;have hre:rest.toList.isEmpty=true:=(by rw [hrest.2 hm.out,ByteArray.toList_eq];rfl))
   clear HV HP HD hm
   go_wp2_with (go_at_call 113;refine (HE.out _ _ _ (Rd.of_own qnx)).mono ?_;rintro e w2 ⟨rfl,qmw⟩;obtain rfl:=hq.out)
   all_goals go_ret
   all_goals exact ⟨rfl,qmv.trans (qmw.mono qmv.size)⟩
  | false =>
   have hq:E≠s:=fun h=>(by have:=HV.out.1 h;cases this)
   have hq2:(E.toList==s.toList)=false:=by rw [jO];simp [hq]
   go_enter func100,ntmps100
   go_wp2_with (first
    | (go_at_call 112;refine HD.out.mono ?_;rintro e w1 ⟨A1,c1,rest,rfl,qnx,qmv,hrest⟩;have hre:rest.toList.isEmpty=true:=(by rw [hrest.2 hm.out,ByteArray.toList_eq];rfl))
    | (go_at_call 113;refine (HE.out _ _ _ (Rd.of_own qnx)).mono ?_;rintro e w2 ⟨rfl,qmw⟩))
   all_goals go_ret
   all_goals exact ⟨rfl,qmv.trans (qmw.mono qmv.size)⟩
 ·have hR:R=false:=by
   cases R with
   | false=>rfl
   | true=>exact absurd (HP.out rfl) hm'
  subst hR
  go_enter func100,ntmps100
  go_wp2_with (go_at_call 112;refine HD.out.mono ?_;rintro e w1 ⟨A1,c1,rest,rfl,qnx,qmv,hrest⟩;have hne:rest.size≠0:=(fun h=>hm' (hrest.1 (ByteArray.ext (Array.eq_empty_of_size_eq_zero h))));have hne2:=kT hne)
  all_goals go_ret
  all_goals exact ⟨rfl,qmv⟩
end Go.Proofs.YtggegijlfaipfaaGreatDoor
