/- Joined: Kit, Near, Ut1, Ut2, Wd1, Gk, Lib, Sig1, Sig2, Num1, Num2, Num3, Num4, Mp, Num5, Eq, Num6. -/
import Derived.Test.YticbpkghcglgkaaGreatDoorVAF
set_option linter.unusedVariables false
set_option linter.unusedSimpArgs false
set_option linter.unnecessarySimpa false
set_option maxHeartbeats 4000000
namespace Go.Proofs.YticbpkghcglgkaaGreatDoor
open Go.Proofs.Tryz Go.RowKit
section
variable {w w' : World} {B B' size n : Nat} {A : Option Addr} {xs : List Value}
theorem Rd.some_ {b o:Nat} (hl:xs.length=n * size) (hb:b<B) (hc : ∀ j u,xs[j]? = some u->w.cell? ⟨b,o+j,none⟩=some u):Rd w B size (some ⟨b,o,none⟩) n xs:=⟨hl,fun _=>⟨b,o,rfl,hb,hc⟩⟩
theorem Rd.cut (h:Rd w B size A n xs) {k cap:Nat} (hk:k<=n) (hc:n<=cap) :
  Rd w B size (if cap=k then A else A.map (·.add (k * size))) (n-k) (xs.drop (k * size)):=by
 refine ⟨by rw [List.length_drop,h.1,Nat.sub_mul],fun hn=>?_⟩
 obtain ⟨b,o,rfl,hb,hcell⟩:=h.2 (by omega)
 rw [if_neg (by omega)]
 refine ⟨b,o+k * size,by simp [vl],hb,fun j u hu=>?_⟩
 rw [Nat.add_assoc]
 exact hcell _ u (by rw [<- hu,List.getElem?_drop])
end
theorem jI {B:Nat} {w w':World} (h:Below B w.drew w'):Below B w w':=⟨h.os,h.tape,h.output,h.size,h.block⟩
theorem qf {B n:Nat} {w w':World} (h:Below B w w'):Below B w (w'.drewN n):=⟨h.os,h.tape,h.output,h.size,h.block⟩
section
variable {w w' : World} {g : Nat} {t : TypeId} {cs : Array Value}
theorem Blk.frozen (h:Blk w g t cs) (i:Nat):w.frozen? ⟨g,i,none⟩=false:=by
 unfold Blk at h
 simp [World.frozen?,h]
theorem Blk.new (w:World) (t:TypeId) (cs:Array Value):Blk (w.alloc (.cells cs t)) w.heap.size t cs:=heap_alloc_new w _
end
section
variable {P : Program} {w : World}
theorem qb0 (w:World) (base:Nat) (t ty e:TypeId) (i:TypeInfo) (size:Nat) (ht:P.underlying t=some (.slice e)) (hi:P.info? e=some i)
  (v:Value) (n:Nat) (xs:List Value) (hown:w.ownsRow base e size v n xs) (c:Nat):(Builtin.append_ #[t,t] ty #[v,.slice none 0 c]).run P w = .ok v w:=by
 rcases hown.2 with ⟨rfl,rfl⟩ | ⟨g,cap,cur,rfl,_,_,hnc,_⟩
 ·simp [Builtin.append_,run_underlying ht,sizeOf,typeInfo,hi,Builtin.lenOf,Builtin.firstCells]
 ·simp [Builtin.append_,run_underlying ht,sizeOf,typeInfo,hi,Builtin.lenOf,Builtin.firstCells,hnc,storeCells]
theorem qdZ (w:World) (base:Nat) (t ty e:TypeId) (z:Value) (size bytes:Nat) (hT:Elt P t e z size bytes)
  (A0:Option Addr) (n c0:Nat) (xs:List Value) (hown:w.ownsRow base e size (.slice A0 n c0) n xs)
  (B:Nat) (A:Option Addr) (m c:Nat) (news:List Value) (hr:Rd w B size A m news) (h1:news.all Value.oneCell'=true)
  (hbytes:(n+m) * bytes<=140737488355328) (h63:n+m<=140737488355328) (hbase:base<=w.heap.size) :
  ∃ A' c' w',(Builtin.append_ #[t,t] ty #[.slice A0 n c0,.slice A m c]).run P w = .ok (.slice A' (n+m) c') w'/\w'.ownsRow base e size (.slice A' (n+m) c') (n+m) (xs++news) /\
   w.grownBy w' (Value.slice A0 n c0).ownBlock/\((Value.slice A' (n+m) c').ownBlock=(Value.slice A0 n c0).ownBlock∨(Value.slice A' (n+m) c').ownBlock=some w.heap.size):=by
 obtain ⟨i,hi,hz,hsize,hby⟩:=hT.row
 rcases A with _ | ad
 ·have hm:m=0:=by
   rcases Nat.eq_zero_or_pos m with h0 | h0
   ·exact h0
   ·obtain ⟨_,_,h,_⟩:=hr.2 h0
    cases h
  subst hm
  have hn:news=[]:=List.eq_nil_of_length_eq_zero (by simpa using hr.1)
  subst hn
  exact ⟨A0,c0,w,qb0 w base t ty e i size hT.und hi _ n xs hown c,by simpa using hown,World.grownBy.refl w _,.inl rfl⟩
 ·have hcells : ∀ j u,news[j]? = some u->w.cell? (ad.add j)=some u:=by
   intro j u hu
   rcases Nat.eq_zero_or_pos m with h0 | h0
   ·subst h0
    have hn:news=[]:=List.eq_nil_of_length_eq_zero (by simpa using hr.1)
    subst hn
    simp at hu
   ·obtain ⟨b,o,h,_,hc⟩:=hr.2 h0
    injection h with h
    subst h
    rw [vl]
    exact hc j u hu
  obtain ⟨v',w',hrun,h2,h3,_,h5⟩:=run_append_own_at (P:=P) w base t ty e i z size bytes hT.und hi hz hsize hby hT.zs hT.pos _ n xs hown ad m c news hr.1 hcells (fun u hu=>List.all_eq_true.1 h1 u hu) (by unfold maxLen;omega) hbytes hbase
  have hv : ∃ A' c',v' = .slice A' (n+m) c':=by
   rcases h2.2 with ⟨h,h'⟩ | ⟨g,cap,cur,h,_⟩
   ·exact ⟨none,0,by rw [h,h']⟩
   ·exact ⟨_,_,h⟩
  obtain ⟨A',c',rfl⟩:=hv
  exact ⟨A',c',w',hrun,h2,h3,h5⟩
theorem qdM {w w':World} {base size n c0:Nat} {e:TypeId} {A0:Option Addr} {xs:List Value} (hown:w.ownsRow base e size (.slice A0 n c0) n xs)
  (hg:w.grownBy w' (Value.slice A0 n c0).ownBlock) (hbase:base<=w.heap.size):Below base w w' :=
 (Below.refl base w).grown hg hbase (fun k hk=>(hown.lt k hk).1)
theorem app_wp {o:Oper} {a:Act} {K:Act->World->Prop} {Q:Exit->Act->World->Prop} (s x:Operand) (t:TypeId)
  (ho:o.op = .call { callee:=.builtin .append,args:=#[s,x],argTypes:=#[t,t] })
  {e:TypeId} {z:Value} {size bytes:Nat} (hT:Elt P t e z size bytes) (base:Nat)
  {A0:Option Addr} {n c0:Nat} (xs:List Value) (hs:a.eval s = .slice A0 n c0) (hown:w.ownsRow base e size (.slice A0 n c0) n xs)
  (B:Nat) {A:Option Addr} {m c:Nat} (news:List Value) (hx:a.eval x = .slice A m c) (hr:Rd w B size A m news) (h1:news.all Value.oneCell'=true)
  (hbytes:(n+m) * bytes<=140737488355328) (h63:n+m<=140737488355328) (hbase:base<=w.heap.size)
  (h : ∀ A' c' w',w'.ownsRow base e size (.slice A' (n+m) c') (n+m) (xs++news)->Below base w w'->w.grownBy w' (Value.slice A0 n c0).ownBlock ->
   ((Value.slice A' (n+m) c').ownBlock=(Value.slice A0 n c0).ownBlock∨(Value.slice A' (n+m) c').ownBlock=some w.heap.size)->K (a.put o.dst (.slice A' (n+m) c')) w'):o.wp P a w K Q:=by
 obtain ⟨A',c',w',hrun,h2,h3,h4⟩:=qdZ (P:=P) w base t o.type e z size bytes hT A0 n c0 xs hown B A m c news hr h1 hbytes h63 hbase
 unfold Oper.wp execOp
 simp only [ho,resolve,invoke,builtin,Sem.run_bind,Sem.run_pure,Result.andThen_ok,List.map_toArray,List.map_cons,List.map_nil,hs,hx,hrun]
 exact h A' c' w' h2 (qdM hown h3 hbase) h3 h4
theorem qg {ops:Array Oper} {rest:List Oper} {o:Oper} {a:Act} {Q:Exit->Act->World->Prop} (hw:Region.wanted o (yielded ops a.tmps)=true) (s x:Operand) (t:TypeId)
  (ho:o.op = .call { callee:=.builtin .append,args:=#[s,x],argTypes:=#[t,t] })
  {e:TypeId} {z:Value} {size bytes:Nat} (hT:Elt P t e z size bytes) (base:Nat)
  {A0:Option Addr} {n c0:Nat} (xs:List Value) (hs:a.eval s = .slice A0 n c0) (hown:w.ownsRow base e size (.slice A0 n c0) n xs)
  (B:Nat) {A:Option Addr} {m c:Nat} (news:List Value) (hx:a.eval x = .slice A m c) (hr:Rd w B size A m news) (h1:news.all Value.oneCell'=true)
  (hbytes:(n+m) * bytes<=140737488355328) (h63:n+m<=140737488355328) (hbase:base<=w.heap.size)
  (h : ∀ A' c' w',w'.ownsRow base e size (.slice A' (n+m) c') (n+m) (xs++news)->Below base w w'->w.grownBy w' (Value.slice A0 n c0).ownBlock ->
   ((Value.slice A' (n+m) c').ownBlock=(Value.slice A0 n c0).ownBlock∨(Value.slice A' (n+m) c').ownBlock=some w.heap.size)->wpList P ops Q rest (a.put o.dst (.slice A' (n+m) c')) w'):wpList P ops Q (o::rest) a w :=
 wpList_step fun _ hK=>by
  rw [if_pos hw]
  exact app_wp s x t ho hT base xs hs hown B news hx hr h1 hbytes h63 hbase fun A' c' w' h2 h3 h4 h5=>hK _ _ (h A' c' w' h2 h3 h4 h5)
theorem jZ {ops:Array Oper} {o:Oper} {a:Act} {K:Act->World->Prop} {Q:Exit->Act->World->Prop} {E:Prop} (hw:Region.wanted o (yielded ops a.tmps)=true) (s x:Operand) (t:TypeId)
  (ho:o.op = .call { callee:=.builtin .append,args:=#[s,x],argTypes:=#[t,t] })
  {e:TypeId} {z:Value} {size bytes:Nat} (hT:Elt P t e z size bytes) (base:Nat)
  {A0:Option Addr} {n c0:Nat} (xs:List Value) (hs:a.eval s = .slice A0 n c0) (hown:w.ownsRow base e size (.slice A0 n c0) n xs)
  (B:Nat) {A:Option Addr} {m c:Nat} (news:List Value) (hx:a.eval x = .slice A m c) (hr:Rd w B size A m news) (h1:news.all Value.oneCell'=true)
  (hbytes:(n+m) * bytes<=140737488355328) (h63:n+m<=140737488355328) (hbase:base<=w.heap.size)
  (h : ∀ A' c' w',w'.ownsRow base e size (.slice A' (n+m) c') (n+m) (xs++news)->Below base w w'->w.grownBy w' (Value.slice A0 n c0).ownBlock ->
   ((Value.slice A' (n+m) c').ownBlock=(Value.slice A0 n c0).ownBlock∨(Value.slice A' (n+m) c').ownBlock=some w.heap.size)->K (a.put o.dst (.slice A' (n+m) c')) w') :
  if Region.wanted o (yielded ops a.tmps)=true then Oper.wp P o a w K Q else E:=by
 rw [if_pos hw]
 exact app_wp s x t ho hT base xs hs hown B news hx hr h1 hbytes h63 hbase h
end
theorem qe {w:World} {xs:List Value} {e:TypeId} {b m size:Nat} (hb:w.heap.size=b) (hl:xs.length=m * size):Rd (w.alloc (.cells xs.toArray e)) (b+1) size (some ⟨b,0,none⟩) m xs:=by
 subst hb
 refine Rd.some_ hl (by omega) fun j u hu=>?_
 have h1:(w.alloc (.cells xs.toArray e)).heap[w.heap.size]? = some (.cells xs.toArray e):=heap_alloc_new w _
 rw [Nat.zero_add,cell_of_row _ _ _ _ e (0,0) h1]
 simpa using hu
theorem qx {w:World} {xs:List Value} {e:TypeId} {b n size base:Nat} (hb:w.heap.size=b) (hl:xs.length=n * size) (hbase:base<=b) (hn:n<=140737488355328) :
  (w.alloc (.cells xs.toArray e)).ownsRow base e size (.slice (some ⟨b,0,none⟩) n n) n xs:=by
 subst hb
 exact ⟨hl,.inr ⟨w.heap.size,n,xs.toArray,rfl,hbase,heap_alloc_new w _,Nat.le_refl _,by unfold maxLen;omega,by simpa using hl,by rw [List.take_of_length_le (by simpa using Nat.le_of_eq hl)]⟩⟩
def ql (e:TypeId) (size:Nat) (F:Value->Value) (w:World) (n:Nat) (xs:List Value) (en:Ending) (w':World):Prop :=
 ∃ A c,en = .returned (F (.slice A n c))/\w'.ownsRow w.heap.size e size (.slice A n c) n xs/\Below w.heap.size w w'
def Ow (w:World) (base:Nat) (e:TypeId) (size:Nat) (v:Value) (n:Nat) (xs:List Value):Prop:=∃ A c,v = .slice A n c/\w.ownsRow base e size (.slice A n c) n xs
theorem Quiet.gives {v:Value} {w w':World} {en:Ending} (h:Quiet v w en w'):qh v w en w':=⟨h.1,by obtain ⟨n,rfl⟩:=h.2;exact qf (Below.refl _ _)⟩
theorem qA (l:List ByteArray):(sv l).all Value.oneCell'=true:=by
 rw [List.all_eq_true]
 intro u hu
 simp [sv] at hu
 obtain ⟨i,_,rfl⟩:=hu
 rfl
theorem qp:Elt prog 27 9 (.string ⟨#[]⟩) 1 16 where
 und:=underlying27
 row:=by
  have h:(prog.info? 9).map (fun i=>(i.zero,i.size,i.bytes))=some (some (.string ⟨#[]⟩),1,16):=by kernel_rfl
  obtain ⟨i,hi,a,b,c⟩:=info_parts h
  exact ⟨i,hi,a,b,c⟩
 zs:=rfl
 pos:=by decide
theorem qc {P:Program} {id:Nat} {Q:Exit->Act->World->Prop} {a:Act} {w:World} {l:List Oper} (B:Nat) (hm:P.follows .mixedOrders=true) (hB:Region.lexB .any l.toArray=true)
  (h:wpQuiet P l.toArray (fun w'=>∃ x:Near B w,w'=x.w) (fun a'=>∀ w',(∃ x:Near B w,w'=x.w)->Q .normal a' w') l a):(Code.region id l.toArray true).wp P Q a w :=
 wp_region_quiet (C:=fun w'=>∃ x:Near B w,w'=x.w) hm hB ⟨⟨w.drew,(Below.refl B w).drew⟩,rfl⟩ (by simpa using h)
theorem Calls.near {P:Program} {f:FuncId} {args:Array Value} {B:Nat} {wb:World} {v:Value} (x:Near B wb) (hB:B<=wb.heap.size) (h:Calls P f args x.w (qh v x.w)) :
  Calls P f args x.w fun e w''=>e = .returned v/\∃ y:Near B wb,w''=y.w :=
 h.mono fun _ w'' ⟨he,hb⟩=>⟨he,⟨w'',x.h.trans (hb.mono (Nat.le_trans hB x.h.size))⟩,rfl⟩
end Go.Proofs.YticbpkghcglgkaaGreatDoor
namespace Go.Proofs.YticbpkghcglgkaaGreatDoor
def qbT (t:List (Int × Int)):Prop:=t.Pairwise fun p q=>p.2<q.1
theorem qhf:qbT y8:=by unfold qbT y8;decide
theorem qhz:qbT qM:=by unfold qbT qM;decide
theorem wide_up : ∀ p∈y8,p.1<=p.2:=by unfold y8;decide
theorem mark_up : ∀ p∈qM,p.1<=p.2:=by unfold qM;decide
theorem tab_mono {t:List (Int × Int)} (ha:qbT t) (hu : ∀ p∈t,p.1<=p.2) {i j:Nat} (hij:i<=j) (hj:j<t.length):(t[i]'(by omega)).2<=t[j].2:=by
 rcases Nat.lt_or_ge i j with h | h
 ·have h1:=List.pairwise_iff_getElem.1 ha i j (by omega) hj h
  have h2:=hu t[j] (List.getElem_mem hj)
  omega
 ·obtain rfl:i=j:=by omega
  exact Int.le_refl _
theorem qix (t:List (Int × Int)) (r:Int):inT t r=true↔∃ i,∃ h:i<t.length,t[i].1<=r/\r<=t[i].2:=by
 unfold inT
 rw [List.any_eq_true]
 constructor
 ·rintro ⟨p,hp,h⟩
  obtain ⟨i,hi,rfl⟩:=List.getElem_of_mem hp
  simp only [Bool.and_eq_true,decide_eq_true_eq] at h
  exact ⟨i,hi,h⟩
 ·rintro ⟨i,hi,h⟩
  refine ⟨t[i],List.getElem_mem hi,?_⟩
  simp only [Bool.and_eq_true,decide_eq_true_eq]
  exact h
theorem qiP {t:List (Int × Int)} (ha:qbT t) {r:Int} {k:Nat} (h1 : ∀ j (h:j<t.length),j<k->t[j].2<r) (h2 : ∀ j (h:j<t.length),k<=j->r<=t[j].2) (hk:k<=t.length) :
  inT t r=if h:k<t.length then decide (t[k].1<=r) else false:=by
 rw [Bool.eq_iff_iff,qix]
 constructor
 ·rintro ⟨i,hi,a,b⟩
  rcases Nat.lt_or_ge i k with c | c
  ·have:=h1 i hi c;omega
  ·have hkl:k<t.length:=by omega
   rw [dif_pos hkl,decide_eq_true_eq]
   rcases Nat.lt_or_ge k i with d | d
   ·have e1:=List.pairwise_iff_getElem.1 ha k i hkl hi d
    have e2:=h2 k hkl (Nat.le_refl _)
    omega
   ·obtain rfl:i=k:=by omega
    exact a
 ·intro h
  by_cases hkl:k<t.length
  ·rw [dif_pos hkl,decide_eq_true_eq] at h
   exact ⟨k,hkl,h,h2 k hkl (Nat.le_refl _)⟩
  ·rw [dif_neg hkl] at h
   cases h
theorem qf0 : ∀ (l m:List Nat) (x:US × List Nat),zJ (l++m) x=zJ m (zJ l x)
 | [],_,_=>rfl
 | _::l,m,_=>qf0 l m _
theorem qgy {b:Nat} (h:b<0xC2):(zt b).m=0:=by
 show (if 0xC2<=b/\b<=0xDF then 1 else if 0xE0<=b/\b<=0xEF then 2 else if 0xF0<=b/\b<=0xF4 then 3 else 0)=0
 rw [if_neg (by omega),if_neg (by omega),if_neg (by omega)]
theorem qav {s:US} (hs:s.m=0) (b:Nat):qat s b=false:=by simp [qat,hs]
theorem qeU {s:US} {b:Nat} (h0:0<s.m) (h1:s.lo<=b) (h2:b<=s.hi):qat s b=true:=by simp [qat,h0,h1,h2]
theorem qgi {s:US} (hs:s.m=0) {b:Nat} (h:b<128) (t out:List Nat):zJ (b::t) (s,out)=zJ t (zt b,out++[b]):=by
 have e1:jU s b=zt b:=by rw [jU,qav hs];rfl
 have e2:ku s b=[b]:=by rw [ku,qav hs,if_neg (by simp),if_neg (by omega),if_pos h];rfl
 show zJ t (jU s b,out++ku s b)=_
 rw [e1,e2]
theorem qbf {s x:US} (hs:s.m=0) {b:Nat} (h:128<=b) (e:zt b=x) (hm:x.m≠0) (t out:List Nat):zJ (b::t) (s,out)=zJ t (x,out):=by
 have e1:jU s b=x:=by rw [jU,qav hs];exact e
 have e2:ku s b=[]:=by rw [ku,qav hs,if_neg (by simp),if_neg (by omega),if_neg (by omega),e,if_neg hm];rfl
 show zJ t (jU s b,out++ku s b)=_
 rw [e1,e2,List.append_nil]
theorem qdc {s:US} {b:Nat} (h0:1<s.m) (h1:s.lo<=b) (h2:b<=s.hi) (t out:List Nat):zJ (b::t) (s,out)=zJ t (⟨s.v * 64+b % 64,s.m-1,0x80,0xBF⟩,out):=by
 have e0:qat s b=true:=qeU (by omega) h1 h2
 have e1:jU s b=⟨s.v * 64+b % 64,s.m-1,0x80,0xBF⟩:=by rw [jU,e0];rfl
 have e2:ku s b=[]:=by rw [ku,e0,if_pos rfl,if_neg (by omega)]
 show zJ t (jU s b,out++ku s b)=_
 rw [e1,e2,List.append_nil]
theorem qbj {s:US} {b:Nat} (h0:s.m=1) (h1:s.lo<=b) (h2:b<=s.hi) (t out:List Nat):zJ (b::t) (s,out)=zJ t (⟨s.v * 64+b % 64,0,0x80,0xBF⟩,out++[s.v * 64+b % 64]):=by
 have e0:qat s b=true:=qeU (by omega) h1 h2
 have e1:jU s b=⟨s.v * 64+b % 64,0,0x80,0xBF⟩:=by rw [jU,e0,h0];rfl
 have e2:ku s b=[s.v * 64+b % 64]:=by rw [ku,e0,if_pos rfl,if_pos h0]
 show zJ t (jU s b,out++ku s b)=_
 rw [e1,e2]
theorem uRun_enc {r:Nat} (h:qR r) (s:US) (hs:s.m=0) (out:List Nat) : ∃ s',zJ (vQ r) (s,out)=(s',out++[r])/\s'.m=0:=by
 unfold qR at h
 unfold vQ
 split
 ·rename_i h1
  rw [qgi hs h1]
  exact ⟨_,rfl,qgy (by omega)⟩
 ·split
  ·rw [qbf hs (by omega) (qgC (b:=0xC0+r / 64) (by omega) (by omega)) (Nat.one_ne_zero),qbj rfl (by show 0x80<=_;omega) (by show _<=0xBF;omega)]
   refine ⟨⟨r,0,0x80,0xBF⟩,?_,rfl⟩
   show ((⟨(0xC0+r / 64) % 32 * 64+(0x80+r % 64) % 64,0,0x80,0xBF⟩,out++[(0xC0+r / 64) % 32 * 64+(0x80+r % 64) % 64]):US × List Nat)=_
   rw [show (0xC0+r / 64) % 32 * 64+(0x80+r % 64) % 64=r by omega]
  ·split
   ·have e:=qdQ (b:=0xE0+r / 4096) (by omega) (by omega)
    have hlo:(if 0xE0+r / 4096=0xE0 then 0xA0 else 0x80)<=0x80+r / 64 % 64:=by split <;> omega
    have hhi:0x80+r / 64 % 64<=(if 0xE0+r / 4096=0xED then 0x9F else 0xBF):=by split <;> omega
    generalize (if 0xE0+r / 4096=0xE0 then 0xA0 else 0x80)=lo at *
    generalize (if 0xE0+r / 4096=0xED then 0x9F else 0xBF)=hi at *
    rw [qbf hs (by omega) e (by show 2≠0;omega),qdc (by show 1<2;omega) hlo hhi,qbj rfl (by show 0x80<=_;omega) (by show _<=0xBF;omega)]
    refine ⟨⟨r,0,0x80,0xBF⟩,?_,rfl⟩
    show ((⟨((0xE0+r / 4096) % 16 * 64+(0x80+r / 64 % 64) % 64) * 64+(0x80+r % 64) % 64,0,0x80,0xBF⟩,out++[((0xE0+r / 4096) % 16 * 64+(0x80+r / 64 % 64) % 64) * 64+(0x80+r % 64) % 64]):US × List Nat)=_
    rw [show ((0xE0+r / 4096) % 16 * 64+(0x80+r / 64 % 64) % 64) * 64+(0x80+r % 64) % 64=r by omega]
   ·have e:=qeM (b:=0xF0+r / 262144) (by omega) (by omega)
    have hlo:(if 0xF0+r / 262144=0xF0 then 0x90 else 0x80)<=0x80+r / 4096 % 64:=by split <;> omega
    have hhi:0x80+r / 4096 % 64<=(if 0xF0+r / 262144=0xF4 then 0x8F else 0xBF):=by split <;> omega
    generalize (if 0xF0+r / 262144=0xF0 then 0x90 else 0x80)=lo at *
    generalize (if 0xF0+r / 262144=0xF4 then 0x8F else 0xBF)=hi at *
    rw [qbf hs (by omega) e (by show 3≠0;omega),qdc (by show 1<3;omega) hlo hhi,qdc (by show 1<2;omega) (by show 0x80<=_;omega) (by show _<=0xBF;omega),qbj rfl (by show 0x80<=_;omega) (by show _<=0xBF;omega)]
    refine ⟨⟨r,0,0x80,0xBF⟩,?_,rfl⟩
    show ((⟨(((0xF0+r / 262144) % 8 * 64+(0x80+r / 4096 % 64) % 64) * 64+(0x80+r / 64 % 64) % 64) * 64+(0x80+r % 64) % 64,0,0x80,0xBF⟩,out++[(((0xF0+r / 262144) % 8 * 64+(0x80+r / 4096 % 64) % 64) * 64+(0x80+r / 64 % 64) % 64) * 64+(0x80+r % 64) % 64]):US × List Nat)=_
    rw [show (((0xF0+r / 262144) % 8 * 64+(0x80+r / 4096 % 64) % 64) * 64+(0x80+r / 64 % 64) % 64) * 64+(0x80+r % 64) % 64=r by omega]
theorem qcj : ∀ (rs:List Nat),(∀ r∈rs,qR r)->∀ (s:US),s.m=0->∀ out,∃ s',zJ (zm rs) (s,out)=(s',out++rs)/\s'.m=0
 | [],_,s,hs,out=>⟨s,by simp [zm,zJ],hs⟩
 | r::rs,h,s,hs,out=>by
  obtain ⟨s1,e1,h1⟩:=uRun_enc (h r (by simp)) s hs out
  obtain ⟨s2,e2,h2⟩:=qcj rs (fun x hx=>h x (by simp [hx])) s1 h1 (out++[r])
  refine ⟨s2,?_,h2⟩
  have e:zm (r::rs)=vQ r++zm rs:=by simp [zm]
  rw [e,qf0,e1,e2]
  simp
theorem qbP {rs:List Nat} (h : ∀ r∈rs,qR r):qs (zm rs)=rs:=by
 obtain ⟨s,e,_⟩:=qcj rs h u0 rfl []
 unfold qs
 rw [e]
 rfl
theorem decN_enc {n b0 b1 b2 b3 r k:Nat} (h0:b0<256) (h1:b1<256) (h2:b2<256) (h3:b3<256) (hn:1<=n) (hd:Lib.decodeN n b0 b1 b2 b3=(r,k)) (hv : ¬ (r=65533/\k=1)) :
  qR r/\0<k/\k<=n/\k<=4/\vQ r=[b0,b1,b2,b3].take k:=by
 unfold Lib.decodeN at hd
 unfold qR
 split at hd
 ·simp only [Prod.mk.injEq] at hd
  obtain ⟨rfl,rfl⟩:=hd
  refine ⟨by omega,by omega,by omega,by omega,?_⟩
  rw [vQ,if_pos (by omega)]
  rfl
 ·split at hd
  ·split at hd
   ·simp only [Prod.mk.injEq] at hd
    obtain ⟨rfl,rfl⟩:=hd
    refine ⟨by omega,by omega,by omega,by omega,?_⟩
    rw [vQ,if_neg (by omega),if_pos (by omega)]
    simp only [List.take_succ_cons,List.take_zero,List.cons.injEq,and_true]
    omega
   ·simp only [Prod.mk.injEq] at hd
    exact absurd ⟨hd.1.symm,hd.2.symm⟩ hv
  ·split at hd
   ·split at hd
    ·simp only [Prod.mk.injEq] at hd
     obtain ⟨rfl,rfl⟩:=hd
     refine ⟨by omega,by omega,by omega,by omega,?_⟩
     rw [vQ,if_neg (by omega),if_neg (by omega),if_pos (by omega)]
     simp only [List.take_succ_cons,List.take_zero,List.cons.injEq,and_true]
     omega
    ·simp only [Prod.mk.injEq] at hd
     exact absurd ⟨hd.1.symm,hd.2.symm⟩ hv
   ·split at hd
    ·split at hd
     ·simp only [Prod.mk.injEq] at hd
      obtain ⟨rfl,rfl⟩:=hd
      refine ⟨by omega,by omega,by omega,by omega,?_⟩
      rw [vQ,if_neg (by omega),if_neg (by omega),if_neg (by omega)]
      simp only [List.take_succ_cons,List.take_zero,List.cons.injEq,and_true]
      omega
     ·simp only [Prod.mk.injEq] at hd
      exact absurd ⟨hd.1.symm,hd.2.symm⟩ hv
    ·simp only [Prod.mk.injEq] at hd
     exact absurd ⟨hd.1.symm,hd.2.symm⟩ hv
theorem qdL (s:ByteArray) (i:Nat) (h:i<s.size):(qB s)[i]'(by rw [zT];exact h)=(s.get! i).toNat:=by
 simp only [qB,List.getElem_map]
 congr 1
 exact (getElem!_pos s.data i h).symm
theorem dec_enc (s:ByteArray) (i:Nat) (hi:i<s.size) (hv : ¬ ((Utf8.decode s i).1=65533/\(Utf8.decode s i).2=1)) :
  qR (Utf8.decode s i).1/\0<(Utf8.decode s i).2/\i+(Utf8.decode s i).2<=s.size/\vQ (Utf8.decode s i).1=((qB s).drop i).take (Utf8.decode s i).2:=by
 rw [Lib.decode_at] at hv ⊢
 generalize hD:Lib.decodeN (s.size-i) (s.get! i).toNat (s.get! (i+1)).toNat (s.get! (i+2)).toNat (s.get! (i+3)).toNat=p at *
 obtain ⟨r,k⟩:=p
 obtain ⟨a,b,c,d,e⟩:=decN_enc (UInt8.toNat_lt _) (UInt8.toNat_lt _) (UInt8.toNat_lt _) (UInt8.toNat_lt _) (show 1<=s.size-i by omega) hD hv
 simp only
 refine ⟨a,b,by omega,?_⟩
 rw [e]
 apply List.ext_getElem
 ·simp [zT];omega
 ·intro j h1 h2
  have hj:j<k:=by simp at h1;omega
  rw [List.getElem_take,List.getElem_take,List.getElem_drop,qdL s (i+j) (by omega)]
  have hc:j=0∨j=1∨j=2∨j=3:=by omega
  rcases hc with rfl | rfl | rfl | rfl <;> rfl
def qaW (s:ByteArray):Nat->Nat->List Nat
 | 0,_=>[]
 | f+1,i=>if i<s.size then (Utf8.decode s i).1::qaW s f (i+(Utf8.decode s i).2) else []
def kK (s:ByteArray):Nat->Nat->Prop
 | 0,_=>True
 | f+1,i=>if i<s.size then ¬ ((Utf8.decode s i).1=65533/\(Utf8.decode s i).2=1)/\kK s f (i+(Utf8.decode s i).2) else True
theorem qbL (s:ByteArray) : ∀ (f i:Nat),s.size<=i+f->kK s f i->zm (qaW s f i)=(qB s).drop i/\∀ r∈qaW s f i,qR r
 | 0,i,hf,_=>⟨by rw [List.drop_of_length_le (by rw [zT];omega)];rfl,fun r h=>by cases h⟩
 | f+1,i,hf,hv=>by
  rw [qaW]
  by_cases hi:i<s.size
  ·rw [kK,if_pos hi] at hv
   obtain ⟨a,b,c,d⟩:=dec_enc s i hi hv.1
   obtain ⟨e1,e2⟩:=qbL s f (i+(Utf8.decode s i).2) (by omega) hv.2
   rw [if_pos hi]
   refine ⟨?_,fun r h=>?_⟩
   ·have e : ∀ x t,zm (x::t)=vQ x++zm t:=fun x t=>by simp [zm]
    rw [e,e1,d,<- List.drop_drop,List.take_append_drop]
   ·rcases List.mem_cons.1 h with rfl | h
    ·exact a
    ·exact e2 r h
  ·rw [if_neg hi]
   exact ⟨by rw [List.drop_of_length_le (by rw [zT];omega)];rfl,fun r h=>by cases h⟩
theorem qgn (s:ByteArray) (hv:kK s s.size 0):qs (qB s)=qaW s s.size 0:=by
 obtain ⟨h1,h2⟩:=qbL s s.size 0 (by omega) hv
 rw [List.drop_zero] at h1
 rw [<- h1]
 exact qbP h2
theorem qaz : ∀ (l:List Gl) (k:Nat) (st:Int),yZ l k st<=l.length
 | [],_,_=>Nat.le_refl _
 | g::t,k,st=>by
  have:=qaz t k st
  rw [yZ]
  split
  ·simp;omega
  ·simp
theorem qfA : ∀ (l:List Gl) (g:Gl) (m:Nat),yW l g m<=l.length/\yW l g m<=m
 | l,_,0=>by cases l <;> simp [yW]
 | [],_,_+1=>by simp [yW]
 | x::t,g,m+1=>by
  have:=qfA t g m
  rw [yW]
  split
  ·simp;omega
  ·simp
theorem vz {g:Gl} {t:List Gl} (rep:Int):0<qo (g::t) rep/\qo (g::t) rep<=t.length+1:=by
 have h1:=qaz (g::t) (qd g) g.style
 have h2:=qaz (g::t) 2 g.style
 have h3:=qaz t 1 g.style
 have h4:=qfA t g 131
 have h5:yZ (g::t) (qd g) g.style=yZ t (qd g) g.style+1:=by rw [yZ,if_pos ⟨rfl,rfl⟩]
 simp only [List.length_cons] at h1 h2
 unfold qo
 simp only
 split
 ·omega
 ·split
  ·split <;> omega
  ·split <;> omega
end Go.Proofs.YticbpkghcglgkaaGreatDoor
namespace Go.Proofs.YticbpkghcglgkaaGreatDoor
open Go.Proofs.Tryz Go.RowKit
abbrev glV (g:Gl):Value:=.agg #[.string g.text,.bool g.wide,.int .i64 g.style]
theorem kF (a b:List Gl):qi (a++b)=qi a++qi b:=by simp [qi]
theorem kM (l:List Gl) (k:Nat):qi (l.take k)=(qi l).take (k * 3):=by
 induction l generalizing k with
 | nil=>simp [qi]
 | cons g t ih =>
  cases k with
  | zero=>simp [qi]
  | succ k=>rw [List.take_succ_cons,jf,jf,ih,show (k+1) * 3=(ym g).length+k * 3 by rw [yU];omega,List.take_length_add_append]
theorem qbO (l:List Gl) (k:Nat):qi (l.drop k)=(qi l).drop (k * 3):=by
 induction l generalizing k with
 | nil=>simp [qi]
 | cons g t ih =>
  cases k with
  | zero=>simp
  | succ k=>rw [List.drop_succ_cons,jf,ih,show (k+1) * 3=(ym g).length+k * 3 by rw [yU];omega,List.drop_length_add_append]
theorem qcY (l:List Gl):(qi l).all Value.oneCell'=true:=by
 rw [List.all_eq_true]
 intro u hu
 rw [qi,List.mem_flatMap] at hu
 obtain ⟨g,_,hu⟩:=hu
 simp only [ym,List.mem_cons,List.not_mem_nil,or_false] at hu
 rcases hu with rfl | rfl | rfl <;> rfl
theorem jE {w:World} {B n:Nat} {A:Option Addr} {l:List Gl} (rd:Rd w B 3 A n (qi l)) {k:Nat} (hk:k<l.length) (hn:l.length=n) : ∃ b o,A=some ⟨b,o,none⟩/\b<B/\(w.cell? ⟨b,(o+k * 3),none⟩=some (.string l[k].text)/\w.cell? ⟨b,(o+k * 3)+1,none⟩=some (.bool l[k].wide)/\w.cell? ⟨b,(o+k * 3)+2,none⟩=some (.int .i64 l[k].style)):=by
 obtain ⟨b,o,e,hb,hc⟩:=rd.2 (by omega)
 have h : ∀ j,j<3->∀ u,(ym l[k])[j]? = some u->w.cell? ⟨b,o+k * 3+j,none⟩=some u:=fun j hj u hu=>by
  have:=hc (k * 3+j) u (by rw [qcy _ _ _ hj,List.getElem?_eq_getElem hk];exact hu)
  rwa [<- Nat.add_assoc] at this
 exact ⟨b,o,e,hb,h 0 (by omega) _ rfl,h 1 (by omega) _ rfl,h 2 (by omega) _ rfl⟩
theorem c3_below {w w':World} {B b o:Nat} {r:Gl} (h:(w.cell? ⟨b,o,none⟩=some (.string r.text)/\w.cell? ⟨b,o+1,none⟩=some (.bool r.wide)/\w.cell? ⟨b,o+2,none⟩=some (.int .i64 r.style))) (hb:Below B w w') (hB:b<B):(w'.cell? ⟨b,o,none⟩=some (.string r.text)/\w'.cell? ⟨b,o+1,none⟩=some (.bool r.wide)/\w'.cell? ⟨b,o+2,none⟩=some (.int .i64 r.style)):=by
 obtain ⟨h0,h1,h2⟩:=h
 exact ⟨(hb.cell hB).trans h0,(hb.cell hB).trans h1,(hb.cell hB).trans h2⟩
theorem qeW {wb:World} {B b o:Nat} {r:Gl} (h:(wb.cell? ⟨b,o,none⟩=some (.string r.text)/\wb.cell? ⟨b,o+1,none⟩=some (.bool r.wide)/\wb.cell? ⟨b,o+2,none⟩=some (.int .i64 r.style))) (hB:b<B) : ∀ x:Near B wb,(x.w.cell? ⟨b,o,none⟩=some (.string r.text)/\x.w.cell? ⟨b,o+1,none⟩=some (.bool r.wide)/\x.w.cell? ⟨b,o+2,none⟩=some (.int .i64 r.style)):=fun x=>c3_below h x.h hB
theorem qa {P:Program} {c:Code} {Q:Exit->Act->World->Prop} {a:Act} {w:World} (F:World->Prop) (h:F w) (k : ∀ w',F w'->c.wp P Q a w'):c.wp P Q a w:=k w h
theorem GlBox.new (w:World) (t:ByteArray) (wd:Bool) (st:Int) (ty:TypeId):GlBox w t wd st (w.alloc (.cells #[.string t,.bool wd,.int .i64 st] ty)):=⟨qu w _ _ 0,qu w _ _ 1,qu w _ _ 2,(Below.refl _ _).alloc (Nat.le_refl _) _,by simp⟩
theorem qkp : (prog.fieldsOf 86).toList.map (fun f => (f.name == "_", f.type, f.offset)) = [(false, 9, 0), (false, 4, 1), (false, 3, 2)] := by kernel_rfl
theorem qiD (a b:Gl) (w:World):(Op.equalIn 10000 86 (glV a) (glV b)).run prog w = .ok (decide (a=b)) w:=by
 rw [run_equalIn_agg w 9999 _ _ _ (by kernel_rfl) (by kernel_rfl)]
 have h:=qkp
 generalize (prog.fieldsOf 86).toList=fs at *
 have hl:fs.length=3:=by
  have:=congrArg List.length h
  rw [List.length_map] at this
  exact this
 match fs,hl,h with
 | [f0,f1,f2],_,h =>
  simp only [List.map_cons,List.map_nil,List.cons.injEq,Prod.mk.injEq,and_true] at h
  obtain ⟨⟨n0,t0,o0⟩,⟨n1,t1,o1⟩,⟨n2,t2,o2⟩⟩:=h
  have q : ∀ f : Field, (f.name == "_") = false -> f.name ≠ "_" := fun f h e => by rw [e] at h; simp at h
  have hi:=underlying3
  have hs:=underlying9
  have hb:=underlying4
  simp only [Op.eqFields,if_pos (q f0 n0),if_pos (q f1 n1),if_pos (q f2 n2),t0,t1,t2,o0,o1,o2]
  simp [go_sem,part]
  have e:=@Gl.ext_iff' a b
  rw [ByteArray.toList_eq,ByteArray.toList_eq]
  repeat' split
  all_goals simp_all
theorem eq_gl (a b:Gl) (w:World):(binOp .eql 86 (glV a) (glV b)).run prog w = .ok (.bool (decide (a=b))) w:=by
 rw [run_eql_struct,qiD]
 rfl
theorem neq_gl (a b:Gl) (w:World):(binOp .neq 86 (glV a) (glV b)).run prog w = .ok (.bool (!decide (a=b))) w:=by
 rw [run_neq_struct,qiD]
 rfl
theorem qa2 (a b:Gl) (op:BinOp) (x y:Operand) (w:World):(eqGuard op 86 x y (glV a) (glV b)).run prog w = .ok () w:=run_eqGuard_agg w op _ x y _ _ (by kernel_rfl)
theorem qbz:Elt prog 56 86 (.agg #[.string ⟨#[]⟩,.bool false,.int .i64 0]) 3 32 where
 und:=underlying56
 row:=by
  have h:(prog.info? 86).map (fun i=>(i.zero,i.size,i.bytes))=some (some (.agg #[.string ⟨#[]⟩,.bool false,.int .i64 0]),3,32):=by kernel_rfl
  obtain ⟨i,hi,a,b,c⟩:=info_parts h
  exact ⟨i,hi,a,b,c⟩
 zs:=rfl
 pos:=by decide
end Go.Proofs.YticbpkghcglgkaaGreatDoor
namespace Go.Proofs
open Go.Shelf
def Tryz.lays137_ren:Go.Shelf.Ren:=⟨fun | 137=>221 | 217=>225 | 266=>226 | n=>n,fun | 9=>9 | 5=>5 | 3=>3 | n=>n,fun | n=>n⟩
theorem Tryz.lays137:Go.Proofs.Lays.n137 Tryz.prog Tryz.lays137_ren:={
 mixed:=by kernel_rfl
 f137:=Tryz.func221.trans (congrArg some (by kernel_rfl))
 f217:=Tryz.func225.trans (congrArg some (by kernel_rfl))
 f266:=Tryz.func226.trans (congrArg some (by kernel_rfl))
 t3:=Tryz.underlying3
 a3:=Tryz.isAgg3
 z3:=Tryz.sizeOf3
 v3:=Tryz.zeroValue3
 t5:=Tryz.underlying5
 a5:=Tryz.isAgg5
 z5:=Tryz.sizeOf5
 v5:=Tryz.zeroValue5
 t9:=Tryz.underlying9
 a9:=Tryz.isAgg9
 z9:=Tryz.sizeOf9
 v9:=Tryz.zeroValue9 }
open Go.RowKit in
theorem Tryz.strings_IndexByte (s:ByteArray) (c:Int) (w:World) :
  Calls Tryz.prog 221 #[.string s,.int .u8 c] w fun e w'=>e = .returned (.int .i64 (Lib.indexByte s.data.toList c.toNat.toUInt8))/\w'=w:=Any.strings_IndexByte Tryz.lays137 s c w
end Go.Proofs
namespace Go.Proofs.YticbpkghcglgkaaGreatDoor
open Go.Proofs.Tryz Go.RowKit
def signsB:ByteArray:=⟨#[33,34,35,36,37,38,39,40,41,42,43,44,45,46,47,58,59,60,61,62,63,64,91,92,93,94,95,96,123,124,125,126]⟩
theorem nmL_len:nmL.length=32:=rfl
end Go.Proofs.YticbpkghcglgkaaGreatDoor
namespace Go.Proofs.YticbpkghcglgkaaGreatDoor
open Go.Proofs.Tryz Go.RowKit
set_option maxRecDepth 10000
theorem qjv (i:Nat) (h:i<32):sIdx (yq i)=some i:=by
 have : ∀ i:Fin 32,sIdx (yq i.val)=some i.val:=by decide +kernel
 exact this ⟨i,h⟩
def idxV (r:Int):Int:=match jM r with
 | some i=>i
 | none => -1
theorem qj8 : ∀ r:Fin 94,Lib.indexByte signsB.data.toList (33+r.val).toUInt8=idxV (((33+r.val:Nat)):Int):=by decide +kernel
theorem nb_ne (i j:Nat) (h:i<32) (k:j<32) (hne:i≠j):nb i≠nb j:=by
 have : ∀ i j:Fin 32,i≠j->nb i.val≠nb j.val:=by decide +kernel
 exact this ⟨i,h⟩ ⟨j,k⟩ (by intro e;injection e with e;exact hne e)
theorem index (r:Int) (w:World):Calls prog 214 #[.int .i32 r] w (qh (.int .i64 (idxV r)) w):=by
 by_cases h1:r<33
 ·have hv:idxV r = -1:=by
   unfold idxV jM sIdx
   split
   ·rename_i i h
    split at h
    ·repeat' split at h
     all_goals first | omega | cases h
    ·cases h
   ·rfl
  rw [hv]
  go_enter func214,ntmps214
  go_wp2
  go_ret
  exact ⟨rfl,Below.refl _ _⟩
 by_cases h2:126<r
 ·have hv:idxV r = -1:=by
   unfold idxV jM sIdx
   split
   ·rename_i i h
    split at h
    ·repeat' split at h
     all_goals first | omega | cases h
    ·cases h
   ·rfl
  rw [hv]
  go_enter func214,ntmps214
  go_wp2
  go_ret
  exact ⟨rfl,Below.refl _ _⟩
 ·obtain ⟨k,hk⟩ : ∃ k:Nat,r=((33+k:Nat):Int):=⟨(r-33).toNat,by omega⟩
  have hk94:k<94:=by omega
  have HI:Hid (∀ w,Calls prog 221 #[.string signsB,.int .u8 r] w fun e w'=>e = .returned (.int .i64 (idxV r))/\w'=w):=Lh fun w=>by
   have:=Tryz.strings_IndexByte signsB r w
   have ht:=qj8 ⟨k,hk94⟩
   simp only at ht
   rw [show r.toNat=33+k from by omega,ht,<- hk] at this
   exact this
  clear hk
  generalize idxV r=v at *
  go_enter func214,ntmps214
  go_wp2_with (go_at_call 221;refine (HI.out _).mono ?_;rintro e w1 ⟨rfl,rfl⟩)
  go_ret
  exact ⟨rfl,Below.refl _ _⟩
theorem qee {P:Program} {w:World} {t e:TypeId} {n:Nat} {cs:Array Value} {k:IntKind} {i:Int} {v:Value} (hu:P.underlying t=some (.array n e))
  (hs : ∀ w,(sizeOf e).run P w = .ok 1 w) (ha : ∀ w,(isAgg e).run P w = .ok false w) (h0:0<=i) (h1:i<n) (hv:cs[i.toNat]? = some v) :
  (Instr.index t (.agg cs) (.int k i)).run P w = .ok v w:=by
 simp [Instr.index,run_underlying hu,asIntOf,h0,h1,go_sem,hs,ha,part,hv]
theorem qgP (i:Nat) (h:i<32) (w:World):(Instr.index 231 (.agg nmA) (.int .i64 i)).run prog w = .ok (.string (nb i)) w :=
 qee underlying231 Tryz.sizeOf9 Tryz.isAgg9 (by omega) (by omega) (by simp [nmA,nmL,h])
theorem qgF (i:Nat) (h:i<32) (w:World):(Instr.index 9 (.string signsB) (.int .i64 i)).run prog w = .ok (.int .u8 (yq i)) w:=by
 have : ∀ i:Fin 32,∀ h:i.val<signsB.size,(signsB[i.val]'h).toNat=yq i.val:=by decide +kernel
 have h2:signsB.size=32:=by decide +kernel
 have h3:=this ⟨i,h⟩ (by simp [h2,h])
 simp only at h3
 rw [<- h3]
 simp [Instr.index,run_underlying underlying9,asIntOf,h2,h,go_sem]
theorem qg7:signsB.size=32:=by decide +kernel
theorem qhX : ∀ i:Fin 32,∀ h:i.val<signsB.size,(signsB[i.val]'h).toNat=yq i.val:=by decide +kernel
theorem sChar_le : ∀ i:Fin 32,yq i.val<=126:=by decide +kernel
theorem qiU (i:Nat) (hi:i<32) (w:World) (hs:Sp w):Calls prog 212 #[.string (nb i)] w (qh (.tuple #[.int .i32 (yq i),.bool true]) w):=by
 have hc0:=sChar_le ⟨i,hi⟩
 simp only at hc0
 have hc:(yq i:Int)<=126:=by omega
 clear hc0
 have HX:=Lh (qgF i hi)
 have HN:Hid (∀ j,j<32->((nb j).toList==(nb i).toList)=decide (j=i)):=Lh fun j hj=>by
  rw [jO]
  by_cases e:j=i
  ·rw [e];simp
  ·simp [e,nb_ne j i hj hi e]
 have HI:=Lh qgP
 have HS:=Lh hs
 clear hs
 generalize nb i=s at *
 go_enter func212,ntmps212
 go_wp2_with (go_at_call 184;refine (split _ HS.out).mono ?_;rintro e w1 ⟨rfl,hbel1⟩)
 go_loop [7] (fun x=>∃ k:Nat,k<=i/\x = .int .i64 k) (fun x=>32-(intOf x).toNat)
 case atStart=>exact ⟨0,by omega,rfl⟩
 case round =>
  obtain ⟨k,hk,rfl⟩:=hrel
  have hk32:k<32:=by omega
  have hx:=HI.out k hk32 w1
  have hb:=HN.out k hk32
  by_cases e:k=i
  ·have hd:((nb k).toList==s.toList)=true:=by rw [hb];simp [e]
   subst e
   have hx2:=HX.out w1
   clear hb
   generalize nb k=u at *
   go_wp2
   go_ret2
   have hg:wrap32 ((signsB[k]'(by rw [qg7];exact hk32)).toNat:Int)=(yq k:Int):=by
    rw [qhX ⟨k,hk32⟩]
    show wrap32 ((yq k:Nat):Int)=_
    exact IntWalk.wrap32_in _ ⟨by omega,by omega⟩
   exact ⟨congrArg (fun z=>Ending.returned (.tuple #[.int .i32 z,.bool true])) hg,hbel1⟩
  ·have hd:((nb k).toList==s.toList)=false:=by rw [hb];simp [e]
   clear hb
   generalize nb k=u at *
   go_wp2
   exact ⟨⟨k+1,by omega,by go_num⟩,by simp [intOf];omega⟩
theorem qjY (s:ByteArray) (hn : ∀ i,i<32->nb i≠s) (w:World) (hs:Sp w):Calls prog 212 #[.string s] w (qh (.tuple #[.int .i32 0,.bool false]) w):=by
 have HN:Hid (∀ j,j<32->((nb j).toList==s.toList)=false):=Lh fun j hj=>by
  rw [jO]
  simp [hn j hj]
 have HI:=Lh qgP
 have HS:=Lh hs
 clear hs hn
 go_enter func212,ntmps212
 go_wp2_with (go_at_call 184;refine (split _ HS.out).mono ?_;rintro e w1 ⟨rfl,hbel1⟩)
 go_loop [7] (fun x=>∃ k:Nat,k<=32/\x = .int .i64 k) (fun x=>32-(intOf x).toNat)
 case atStart=>exact ⟨0,by omega,rfl⟩
 case round =>
  obtain ⟨k,hk,rfl⟩:=hrel
  by_cases hk32:k<32
  ·have hx:=HI.out k hk32 w1
   have hd:=HN.out k hk32
   generalize nb k=u at *
   go_wp2
   exact ⟨⟨k+1,by omega,by go_num⟩,by simp [intOf];omega⟩
  ·go_wp2
   go_ret2
   exact ⟨rfl,hbel1⟩
set_option maxRecDepth 100000 in
theorem names (w:World) (hs:Sp w):Calls prog 170 #[] w fun e w'=>∃ A c,e = .returned (.slice A 32 c)/\Rd w' w'.heap.size 1 A 32 nmL/\Below w.heap.size w w':=by
 have HS:=Lh hs
 clear hs
 go_enter func170,ntmps170
 go_wp2_with (first
  | (go_at_call 184;refine (split _ HS.out).mono ?_;rintro e w1 ⟨rfl,hbel1⟩)
  | (refine wpList_store_row rfl 231 _ _ rfl w1.heap.size nmA rfl rfl 231 _ (by exact heap_alloc_new w1 _) qc6 (by rfl) qij ?_))
 go_ret
 refine ⟨_,_,rfl,?_,?_⟩
 ·rw [World.setRow_alloc_new]
  refine (qe rfl nmL_len).more ?_
  rw [World.size_alloc]
  exact Nat.le_refl _
 ·rw [World.setRow_alloc_new]
  exact hbel1.alloc hbel1.size _
theorem char_t (n:Int) (h:ks n) (w:World):Calls prog 213 #[.int .i64 n] w (qh (.bool true) w):=by
 unfold ks at h
 by_cases h1:0<=n/\n<=55295
 ·obtain ⟨a,b⟩:=h1
  clear h
  go_enter func213,ntmps213
  go_wp2
  go_ret
  exact ⟨rfl,Below.refl _ _⟩
 ·have a:57344<=n:=by omega
  have b:n<=1114111:=by omega
  have c : ¬ n<=55295:=by omega
  clear h h1
  go_enter func213,ntmps213
  go_wp2
  go_ret
  exact ⟨rfl,Below.refl _ _⟩
theorem char_f (n:Int) (h : ¬ ks n) (w:World):Calls prog 213 #[.int .i64 n] w (qh (.bool false) w):=by
 unfold ks at h
 by_cases h1:n<0
 ·clear h
  go_enter func213,ntmps213
  go_wp2
  all_goals
   go_ret
   exact ⟨by simp <;> omega,Below.refl _ _⟩
 ·by_cases h2:n<57344
  ·have a:55295<n:=by omega
   clear h
   go_enter func213,ntmps213
   go_wp2
   all_goals
    go_ret
    exact ⟨by simp <;> omega,Below.refl _ _⟩
  ·have a:1114111<n:=by omega
   clear h
   go_enter func213,ntmps213
   go_wp2
   all_goals
    go_ret
    exact ⟨by simp <;> omega,Below.refl _ _⟩
end Go.Proofs.YticbpkghcglgkaaGreatDoor
namespace Go.Proofs.YticbpkghcglgkaaGreatDoor
open Go.Proofs.Tryz Go.RowKit
def wv (l:List Nat):List Value:=l.map fun i=>.string (wb i)
def qb6:Array Value:=((List.range 32).map fun i=>Value.string (wb i)).toArray
theorem qjo:qb6 = #[Value.string (wb 0),.string (wb 1),.string (wb 2),.string (wb 3),.string (wb 4),.string (wb 5),.string (wb 6),.string (wb 7),.string (wb 8),.string (wb 9),.string (wb 10),.string (wb 11),.string (wb 12),.string (wb 13),.string (wb 14),.string (wb 15),.string (wb 16),.string (wb 17),.string (wb 18),.string (wb 19),.string (wb 20),.string (wb 21),.string (wb 22),.string (wb 23),.string (wb 24),.string (wb 25),.string (wb 26),.string (wb 27),.string (wb 28),.string (wb 29),.string (wb 30),.string (wb 31)]:=rfl
theorem qF (l:List Nat):(wv l).all Value.oneCell'=true:=by
 rw [List.all_eq_true]
 intro u hu
 simp [wv] at hu
 obtain ⟨i,_,rfl⟩:=hu
 rfl
theorem qj2 (l k:List Nat):wv (l++k)=wv l++wv k:=by simp [wv]
theorem voc (w:World):Calls prog 176 #[] w fun e w'=>e = .returned (.slice (some ⟨w.heap.size,0,none⟩) 32 32)/\w.alloc (.cells qb6 9)=w':=by
 rw [qjo]
 go_enter func176,ntmps176
 go_wp2
 go_ret
 exact ⟨rfl,rfl⟩
theorem qb2 (w:World) (i:Nat) (h:i<32):(w.alloc (.cells qb6 9)).cell? ⟨w.heap.size,i,none⟩=some (.string (wb i)):=by
 rw [qu]
 simp [qb6,h]
theorem kJ (m:Nat):(zj m).length<=4:=by
 unfold zj yQ yz kO
 simp only [List.length_append]
 repeat' split
 all_goals simp
theorem small (m:Nat) (hm:m<1000) (w:World) :
  Calls prog 178 #[.int .i64 m] w (ql 9 1 id w (zj m).length (wv (zj m))):=by
 go_enter func178,ntmps178
 go_upto_if 7 with (go_at_call 176;refine (voc _).mono ?_;rintro e w' ⟨rfl,rfl⟩)
 go_cut [0,4] (fun s0 s4 wx=>s0 = .int .i64 ((if 100<=m then m % 100 else m:Nat):Int)/\Ow wx (w.heap.size+1) 9 1 s4 (yQ m).length (wv (yQ m))/\Below (w.heap.size+1) (w.alloc (.cells qb6 9)) wx)
 case first =>
  have h1:=qb2 w (m/100) (by omega)
  by_cases c:100<=m
  ·go_wp2_with (at_builtin;refine qg rfl _ _ _ rfl qp (w.heap.size+1) _ rfl (zY _ _ _ _) _ _ rfl ((qe (by simp) rfl)) (by first | rfl | exact qA _ | exact qF _) (by omega) (by omega) (by first | (simp;done) | (simp;omega) | omega) ?_;intro A1 c1 w1 hown1 hbel1 hgr1 hat1;have z1:=hbel1.size;(try simp only [World.size_alloc] at z1);(try simp only [Nat.zero_add,List.nil_append] at hown1))
   go_meet
   exact ⟨by simp [c],⟨A1,c1,by simp [yQ,c],by simpa [yQ,c,wv,wb] using hown1⟩,(Below.alloc (Below.refl _ _) (by simp) _).trans hbel1⟩
  ·go_wp2_with fail
   go_meet
   exact ⟨by simp [c],⟨none,0,by simp [yQ,c],by simpa [yQ,c,wv,wb] using zY _ _ _ _⟩,Below.refl _ _⟩
 case rest =>
  obtain ⟨wa,rfl⟩ : ∃ x:World,x=wc:=⟨_,rfl⟩
  obtain ⟨rfl,⟨A,c,rfl,hown⟩,hbel⟩:=hcut
  have hk:(if 100<=m then m % 100 else m)<100:=by split <;> omega
  have HL:Hid (zj m=yQ m++yz (if 100<=m then m % 100 else m)++kO (if 20<=(if 100<=m then m % 100 else m) then (if 100<=m then m % 100 else m) % 10 else (if 100<=m then m % 100 else m))):=Lh rfl
  have hR2:(yQ m).length<=2:=by unfold yQ;split <;> simp
  generalize (if 100<=m then m % 100 else m)=k at hk HL ⊢
  generalize yQ m=R at hR2 hown HL ⊢
  have hz:=hbel.size
  rw [World.size_alloc] at hz
  have h2:20<=k->wa.cell? ⟨w.heap.size,18+k / 10,none⟩=some (.string (wb (18+k / 10))):=fun _=>(hbel.cell (p:=⟨w.heap.size,18+k/10,none⟩) (by simp)).trans (qb2 w (18+k/10) (by omega))
  go_upto_if 19 with fail
  go_cut [0,4] (fun s0 s4 wx=>s0 = .int .i64 ((if 20<=k then k % 10 else k:Nat):Int)/\Ow wx (w.heap.size+1) 9 1 s4 (R++yz k).length (wv (R++yz k))/\Below (w.heap.size+1) wa wx)
  case first =>
   by_cases c20:20<=k
   ·have h2':=h2 c20
    go_wp2_with (at_builtin;refine qg rfl _ _ _ rfl qp (w.heap.size+1) _ rfl (hown.alloc _) _ _ rfl ((qe (by simp) rfl)) (by first | rfl | exact qA _ | exact qF _) (by omega) (by omega) (by first | (simp;done) | (simp;omega) | omega) ?_;intro A1 c1 w1 hown1 hbel1 hgr1 hat1;have z1:=hbel1.size;(try simp only [World.size_alloc] at z1);(try simp only [Nat.zero_add,List.nil_append] at hown1))
    go_meet
    exact ⟨by simp [c20],⟨A1,c1,by simp [yz,c20],by simpa [yz,c20,wv] using hown1⟩,((Below.refl _ _).alloc (by omega) _).trans hbel1⟩
   ·go_wp2_with fail
    go_meet
    exact ⟨by simp [c20],⟨A,c,by simp [yz,c20],by simpa [yz,c20,wv] using hown⟩,Below.refl _ _⟩
  case rest =>
   obtain ⟨rfl,⟨A',c',rfl,hown'⟩,hbel'⟩:=hcut
   have hk':(if 20<=k then k % 10 else k)<20:=by split <;> omega
   have hR3:(R++yz k).length<=3:=by unfold yz;split <;> simp <;> omega
   have hz':=hbel'.size
   have hbx:=hbel.trans hbel'
   clear hown h2
   generalize (if 20<=k then k % 10 else k)=j at hk' HL ⊢
   generalize R++yz k=R' at hR3 hown' HL ⊢
   have h3:wc.cell? ⟨w.heap.size,j,none⟩=some (.string (wb j)):=(hbx.cell (p:=⟨w.heap.size,j,none⟩) (by simp)).trans (qb2 w j (by omega))
   have hb0:Below w.heap.size w wc:=((Below.refl _ _).alloc (Nat.le_refl _) _).trans (hbx.mono (by omega))
   by_cases c0:0<j
   ·go_wp2_with (at_builtin;refine qg rfl _ _ _ rfl qp (w.heap.size+1) _ rfl (hown'.alloc _) _ _ rfl ((qe (by simp) rfl)) (by first | rfl | exact qA _ | exact qF _) (by omega) (by omega) (by first | (simp;done) | (simp;omega) | omega) ?_;intro A1 c1 w1 hown1 hbel1 hgr1 hat1;have z1:=hbel1.size;(try simp only [World.size_alloc] at z1);(try simp only [Nat.zero_add,List.nil_append] at hown1))
    go_ret
    rw [HL.out]
    refine ⟨A1,c1,by simp [kO,c0],qt (base:=w.heap.size+1) (by simpa [kO,c0,wv] using hown1) (by omega),(hb0.alloc (by omega) _).trans (hbel1.mono (by omega))⟩
   ·go_wp2_with fail
    go_ret
    rw [HL.out]
    refine ⟨A',c',by simp [kO,c0],qt (base:=w.heap.size+1) (by simpa [kO,c0,wv] using hown') (by omega),hb0⟩
def qbn (k s wn:Nat) (word:List Value) (B bn bl base n:Nat) (xs:List Value) (w:World) (e:Ending) (w':World):Prop :=
 e = .returned (.tuple #[]) /\
   ∃ A' c',Blk w' bn 3 #[.int .i64 ((k % s:Nat):Int)]/\Blk w' bl 27 #[.slice A' (n+(if 0<k / s then (zj (k / s)).length+wn else 0)) c'] /\
    w'.ownsRow base 9 1 (.slice A' (n+(if 0<k / s then (zj (k / s)).length+wn else 0)) c') (n+(if 0<k / s then (zj (k / s)).length+wn else 0)) (xs++(if 0<k / s then wv (zj (k / s))++word else []))/\Below B w w'
theorem group (k s:Nat) (hs:0<s) (hn:k<s * 1000) (hk:k<1000000000) (W:Option Addr) (wn wc:Nat) (word:List Value) (B bn bl base:Nat) (A:Option Addr) (n c:Nat) (xs:List Value) (w:World)
  (hw1:word.all Value.oneCell'=true) (hdis : ∀ b o,W=some ⟨b,o,none⟩->(Value.slice A n c).ownBlock≠some b) (hwn:wn<=1) (h5:base<=w.heap.size) (hnn:n<=20)
  (hW:Rd w w.heap.size 1 W wn word) (hbn:Blk w bn 3 #[.int .i64 k]) (hbl:Blk w bl 27 #[.slice A n c]) (hne:bn≠bl) (h1:B<=bn) (h2:B<=bl) (h3:bn<base) (h4:bl<base)
  (hown:w.ownsRow base 9 1 (.slice A n c) n xs) :
  Calls prog 177 #[.int .i64 s,.slice W wn wc,.pointer (some ⟨bn,0,none⟩),.pointer (some ⟨bl,0,none⟩)] w (qbn k s wn word B bn bl base n xs w):=by
 have hq:k / s<1000:=Nat.div_lt_of_lt_mul hn
 have cn:=hbn.cell 0
 have cl:=hbl.cell 0
 have fn:=hbn.frozen 0
 have fl:=hbl.frozen 0
 simp at cn cl
 by_cases h0:0<k / s
 ·have HC : ∀ w:World,Calls prog 178 #[.int .i64 ((k:Int) / (s:Int))] w (ql 9 1 id w (zj (k / s)).length (wv (zj (k / s)))):=fun w=>by
   have:=small (k / s) hq w
   rwa [Int.natCast_ediv] at this
  have hL:=kJ (k / s)
  have HP:Hid (∀ e w',qbn k s wn word B bn bl base n xs w e w'=(e = .returned (.tuple #[])/\∃ A' c',Blk w' bn 3 #[.int .i64 ((k % s:Nat):Int)]/\Blk w' bl 27 #[.slice A' (n+((zj (k / s)).length+wn)) c'] /\
    w'.ownsRow base 9 1 (.slice A' (n+((zj (k / s)).length+wn)) c') (n+((zj (k / s)).length+wn)) (xs++(wv (zj (k / s))++word))/\Below B w w')):=Lh fun e w'=>by
   unfold qbn
   rw [if_pos h0,if_pos h0]
  generalize zj (k / s)=L at *
  have HC':=Lh HC
  clear HC
  go_enter func177,ntmps177
  go_wp2_with fail
  go_region_law (first
    | (go_simp;go_at_call 178;refine (HC'.out _).mono ?_;rintro e w1 ⟨A1,c1,rfl,hown1,hbel1⟩;have z1:w.heap.size<=w1.heap.size:=hbel1.size;have hW1:Rd w1 w.heap.size 1 W wn word:=Rd.below (w:=w.drew) hW hbel1;have B1:=Blk.below (w:=w.drew) hbl hbel1 hbl.lt;have b1c:=B1.cell 0;simp at b1c)
    | (refine jZ rfl _ _ _ rfl qp (base) _ rfl (hown2) _ _ rfl ((hW1.grown hgr2 z1 hdis)) (hw1) (by omega) (by omega) (by first | (simp;done) | (simp;omega) | omega) ?_;intro A3 c3 w3 hown3 hbel3 hgr3 hat3;have z3:=hbel3.size;(try simp only [Nat.zero_add,List.nil_append] at hown3);have B3:=B2.below hbel3 h4;have b3c:=B3.cell 0;have b3f:=B3.frozen 0;simp at b3c)
    | (refine jZ rfl _ _ _ rfl qp (base) _ rfl (qb (w:=w.drew) hown hbel1) _ _ rfl ((Rd.of_own hown1)) ((qF _)) (by omega) (by omega) (by first | (simp;done) | (simp;omega) | omega) ?_;intro A2 c2 w2 hown2 hbel2 hgr2 hat2;have z2:=hbel2.size;(try simp only [Nat.zero_add,List.nil_append] at hown2);have B2:=B1.below hbel2 h4;have b2c:=B2.cell 0;simp at b2c))
  all_goals
   have hbn3:Blk w3 bn 3 #[.int .i64 k]:=((Blk.below (w:=w.drew) hbn hbel1 hbn.lt).below (hbel2.trans hbel3) h3)
   have hbn4:=hbn3.far (p:=⟨bl,0,none⟩) hne (.slice A3 (n+L.length+wn) c3)
   have d1:=hbn4.cell 0
   have d2:=hbn4.frozen 0
   simp at d1
   have hb0:Below B w w3:=(jI (Below.mono hbel1 (by have:=hbl.lt;show B<=w.heap.size;omega))).trans ((hbel2.trans hbel3).mono (by omega))
   go_wp2
   go_end0
   rw [HP.out]
   refine ⟨rfl,A3,c3,by simpa using hbn4.set_ 0 (.int .i64 (k % s)),by simpa [Nat.add_assoc] using (B3.set_ 0 (.slice A3 (n+L.length+wn) c3)).far (p:=⟨bn,0,none⟩) (Ne.symm hne) _,?_,(hb0.setCell h2 _).setCell h1 _⟩
   have hx:=ownsRow_setCell_below (ownsRow_setCell_below hown3 (a:=⟨bl,0,none⟩) h4 (.slice A3 (n+L.length+wn) c3)) (a:=⟨bn,0,none⟩) h3 (.int .i64 (k % s))
   simpa [Nat.add_assoc] using hx
 ·have e0:k / s=0:=Nat.eq_zero_of_not_pos h0
  have e1:k % s=k:=by have:=Nat.div_add_mod k s;rw [e0] at this;simpa using this
  have e0':(k:Int) / (s:Int)=0:=by rw [<- Int.natCast_ediv,e0];rfl
  have e1':(k:Int) % (s:Int)=k:=by rw [<- Int.natCast_emod,e1]
  have E1:=Lh e1'
  clear e1'
  go_enter func177,ntmps177
  go_wp2
  go_end0
  unfold qbn
  rw [if_neg h0,if_neg h0,e1]
  exact ⟨rfl,A,c,by simpa using hbn,by simpa using hbl,by simpa using hown,Below.refl _ _⟩
theorem qf1 (q x:Nat):((if 0<q then (zj q).length+1 else 0)=(yO q x).length)/\((if 0<q then wv (zj q)++[.string (wb x)] else [])=wv (yO q x)):=by
 unfold yO
 split <;> simp [wv]
theorem segE_two (q:Nat):((if 0<q / 1 then (zj (q / 1)).length+0 else 0)=(qak q).length)/\((if 0<q / 1 then wv (zj (q / 1))++[] else [])=wv (qak q)):=by
 unfold qak
 rw [Nat.div_one]
 split <;> simp [wv]
theorem qbm (q x:Nat):(yO q x).length<=5:=by
 have:=kJ q
 unfold yO
 split <;> simp <;> omega
theorem km (m:Nat):posL m=yO (m / 1000000) 30++yO (m % 1000000 / 1000) 29++qak (m % 1000000 % 1000):=rfl
theorem qeC {B:Nat} {w w1:World} {o:Obj} (h:Below B (w.alloc o) w1):w.heap.size+1<=w1.heap.size:=by
 have:=h.size
 rwa [World.size_alloc] at this
abbrev yP (v:Value):Value:=.tuple #[v,.int .i64 0]
theorem qf7 (n:Int) (h:n < -999999999∨999999999<n) (w:World) :
  Calls prog 150 #[.int .i64 n] w (qh (.tuple #[.slice none 0 0,.int .i64 2]) w):=by
 rcases h with h | h
 ·go_enter func150,ntmps150
  go_wp2
  go_ret2
  exact ⟨rfl,(Below.refl _ _).alloc (Nat.le_refl _) _⟩
 ·have h' : ¬ n < -999999999:=by omega
  go_enter func150,ntmps150
  go_wp2
  go_ret2
  exact ⟨rfl,(Below.refl _ _).alloc (Nat.le_refl _) _⟩
theorem qg3 (w:World) :
  Calls prog 150 #[.int .i64 0] w (ql 9 1 yP w 1 (wv [0])):=by
 go_enter func150,ntmps150
 go_wp2
 go_ret2
 refine ⟨_,_,rfl,?_,((Below.refl _ _).alloc (Nat.le_refl _) _).alloc (by simp) _⟩
 exact qx (xs:=[_]) (by simp) rfl (by omega) (by omega)
theorem qfN (n:Int) (h0:n≠0) (h1 : -999999999<=n) (h2:n<=999999999) (w:World) :
  Calls prog 150 #[.int .i64 n] w (ql 9 1 yP w (qm n).length (wv (qm n))):=by
 have h3:(n==0)=false:=by simp [h0]
 have hN:=Lh h0
 clear h0
 go_enter func150,ntmps150
 go_upto_if 16 with fail
 go_cut [] (fun wx=>∃ (A:Option Addr) (c:Nat),Blk wx w.heap.size 3 #[.int .i64 (n.natAbs:Int)]/\Blk wx (w.heap.size+1) 27 #[.slice A (if n<0 then [31] else []).length c] /\
  wx.ownsRow (w.heap.size+2) 9 1 (.slice A (if n<0 then [31] else []).length c) (if n<0 then [31] else []).length (wv (if n<0 then [31] else []))/\Below w.heap.size w wx)
 case first =>
  by_cases hn:n<0
  ·go_wp2_with fail
   go_region_law (refine jZ rfl _ _ _ rfl qp (w.heap.size+2) _ rfl (zY _ _ _ _) _ _ rfl ((qe (by simp) rfl)) (rfl) (by omega) (by omega) (by first | (simp;done) | (simp;omega) | omega) ?_;intro A1 c1 w1 hown1 hbel1 hgr1 hat1;have z1:=hbel1.size;(try simp only [Nat.zero_add,List.nil_append] at hown1);have B0:Blk w1 w.heap.size 3 #[.int .i64 n]:=Blk.below (by exact ((Blk.new_ rfl).alloc _).alloc _) hbel1 (by omega);have B1:Blk w1 (w.heap.size+1) 27 #[.slice none 0 0]:=Blk.below (by exact (Blk.new_ (by simp)).alloc _) hbel1 (by omega);have d0:=B0.cell 0;have d1:=B1.cell 0;have f0:=B0.frozen 0;have f1:=B1.frozen 0;simp at d0 d1)
   all_goals
    go_wp2_with fail
    go_meet
    rw [if_pos hn]
    have e0:((n.natAbs:Nat):Int) = -n:=by omega
    rw [e0]
    have hw:IntKind.i64.wrap (-n) = -n:=IntWalk.i64_in _ (by omega)
    simp only [hw]
    have hb0:Below w.heap.size w w1:=by
     refine Below.trans (b:=_) ?_ (hbel1.mono (by omega))
     (repeat (first | exact Below.refl _ _ | assumption | refine Below.drew ?_ | refine Below.alloc ?_ (by first | (simp;done) | (simp;omega) | omega) _ | refine Below.setCell ?_ (by first | (simp;done) | (simp;omega) | omega) _))
    refine ⟨A1,c1,?_,?_,?_,?_⟩
    ·first
      | (simpa using (B0.far (p:=⟨w.heap.size+1,0,none⟩) (by simp) _).set_ 0 (.int .i64 (-n)))
      | (simpa using (B0.set_ 0 (.int .i64 (-n))).far (p:=⟨w.heap.size+1,0,none⟩) (by simp) _)
    ·first
      | (simpa using (B1.far (p:=⟨w.heap.size,0,none⟩) (by simp) _).set_ 0 (.slice A1 1 c1))
      | (simpa using (B1.set_ 0 (.slice A1 1 c1)).far (p:=⟨w.heap.size,0,none⟩) (by simp) _)
    ·exact ownsRow_setCell_below (ownsRow_setCell_below hown1 (by simp) _) (by simp) _
    ·exact (hb0.setCell (by simp) _).setCell (by simp) _
  ·go_wp2_with fail
   go_meet
   rw [if_neg (by omega)]
   have e0:((n.natAbs:Nat):Int)=n:=by omega
   rw [e0]
   exact ⟨none,0,(Blk.new_ rfl).alloc _,Blk.new_ (by simp),zY _ _ _ _,((Below.refl _ _).alloc (Nat.le_refl _) _).alloc (by simp) _⟩
 case rest =>
  obtain ⟨A,c,hB0,hB1,hown,hbel⟩:=hcut
  obtain ⟨wa,rfl⟩ : ∃ x:World,x=wc:=⟨_,rfl⟩
  have hW:Hid (qm n=(if n<0 then [31] else [])++posL n.natAbs):=Lh (by unfold qm;rw [if_neg hN.out])
  have hm:n.natAbs<=999999999:=by omega
  have hl:(if n<0 then [31] else []:List Nat).length<=1:=by split <;> simp
  generalize (if n<0 then [31] else []:List Nat)=l0 at *
  generalize n.natAbs=m at *
  have z0:=hB1.lt
  go_wp2_with fail
  refine (group m 1000000 (by omega) (by omega) (by omega) _ 1 1 [.string (wb 30)] w.heap.size _ _ (w.heap.size+2) A l0.length c (wv l0) _ rfl ?_ (by omega) (by first | (simp;done) | (simp;omega) | omega) (by omega) (qe rfl rfl |>.more (by first | (simp;done) | (simp;omega) | omega)) (hB0.alloc _) (hB1.alloc _) (by omega) (by omega) (by omega) (by omega) (by omega) (hown.alloc _)).mono ?_
  ·intro b o e
   injection e with e
   injection e with e1
   subst e1
   intro e2
   exact absurd (hown.lt _ e2).2 (by omega)
  rintro e w1 ⟨rfl,A1,c1,hB01,hB11,hown1,hbel1⟩
  have hG1:((if 0<m / 1000000 then (zj (m / 1000000)).length+1 else 0)=(yO (m / 1000000) 30).length)/\((if 0<m / 1000000 then wv (zj (m / 1000000))++[.string (wb 30)] else [])=wv (yO (m / 1000000) 30)):=qf1 _ _
  rw [hG1.1] at hB11 hown1
  rw [hG1.2] at hown1
  have hq1:=qbm (m / 1000000) 30
  have hP:=Lh (km m)
  generalize yO (m / 1000000) 30=l1 at *
  clear hG1
  have hm1:m % 1000000<1000000:=by omega
  generalize m % 1000000=m1 at *
  have z1:wa.heap.size+1<=w1.heap.size:=qeC hbel1
  clear hown hB0 hB1
  go_wp2_with fail
  refine (group m1 1000 (by omega) (by omega) (by omega) _ 1 1 [.string (wb 29)] w.heap.size _ _ (w.heap.size+2) A1 (l0.length+l1.length) c1 (wv l0++wv l1) _ rfl ?_ (by omega) (by first | (simp;done) | (simp;omega) | omega) (by omega) (qe rfl rfl |>.more (by first | (simp;done) | (simp;omega) | omega)) (hB01.alloc _) (hB11.alloc _) (by omega) (by omega) (by omega) (by omega) (by omega) (hown1.alloc _)).mono ?_
  ·intro b o e
   injection e with e
   injection e with e1
   subst e1
   intro e2
   exact absurd (hown1.lt _ e2).2 (by omega)
  rintro e w2 ⟨rfl,A2,c2,hB02,hB12,hown2,hbel2⟩
  have hG2:((if 0<m1 / 1000 then (zj (m1 / 1000)).length+1 else 0)=(yO (m1 / 1000) 29).length)/\((if 0<m1 / 1000 then wv (zj (m1 / 1000))++[.string (wb 29)] else [])=wv (yO (m1 / 1000) 29)):=qf1 _ _
  rw [hG2.1] at hB12 hown2
  rw [hG2.2] at hown2
  have hq2:=qbm (m1 / 1000) 29
  generalize yO (m1 / 1000) 29=l2 at *
  clear hG2
  have hm2:m1 % 1000<1000:=by omega
  generalize m1 % 1000=m2 at *
  have z2:w1.heap.size+1<=w2.heap.size:=qeC hbel2
  clear hown1 hB01 hB11
  go_wp2_with fail
  refine (group m2 1 (by omega) (by omega) (by omega) _ 0 0 [] w.heap.size _ _ (w.heap.size+2) A2 (l0.length+l1.length+l2.length) c2 (wv l0++wv l1++wv l2) _ rfl ?_ (by omega) (by first | (simp;done) | (simp;omega) | omega) (by omega) Rd.none_ hB02 hB12 (by omega) (by omega) (by omega) (by omega) (by omega) hown2).mono ?_
  ·intro b o e
   cases e
  rintro e w3 ⟨rfl,A3,c3,hB03,hB13,hown3,hbel3⟩
  have hG3:((if 0<m2 / 1 then (zj (m2 / 1)).length+0 else 0)=(qak m2).length)/\((if 0<m2 / 1 then wv (zj (m2 / 1))++[] else [])=wv (qak m2)):=segE_two _
  rw [hG3.1] at hB13 hown3
  rw [hG3.2] at hown3
  have d3:=hB13.cell 0
  simp at d3
  go_wp2_with fail
  go_ret2
  rw [hW.out,hP.out]
  refine ⟨A3,c3,by simp [yP,Nat.add_assoc],?_,((hbel.alloc (by first | (simp;done) | (simp;omega) | omega) _).trans hbel1).trans ((((Below.refl _ _).alloc (by first | (simp;done) | (simp;omega) | omega) _).trans hbel2).trans hbel3)⟩
  have:=qt (base':=w.heap.size) hown3 (by omega)
  simpa [qj2,Nat.add_assoc] using this
theorem qgW (n:Int) (h1 : -999999999<=n) (h2:n<=999999999) (w:World) :
  Calls prog 150 #[.int .i64 n] w (ql 9 1 yP w (qm n).length (wv (qm n))):=by
 by_cases h0:n=0
 ·subst h0
  exact qg3 w
 ·exact qfN n h0 h1 h2 w
theorem ke (n:Int):(qm n).length<=15:=by
 unfold qm
 split
 ·simp
 ·have a:=qbm (n.natAbs / 1000000) 30
  have b:=qbm (n.natAbs % 1000000 / 1000) 29
  have c:(qak (n.natAbs % 1000000 % 1000)).length<=4:=by
   unfold qak
   split
   ·exact kJ _
   ·simp
  rw [List.length_append,km,List.length_append,List.length_append]
  have d:(if n<0 then [31] else []:List Nat).length<=1:=by split <;> simp
  omega
theorem qgr (l:List Nat):wv l=sv (l.map wb):=by simp [wv,sv]
end Go.Proofs.YticbpkghcglgkaaGreatDoor
namespace Go.Proofs.YticbpkghcglgkaaGreatDoor
open Go.Proofs.Tryz Go.RowKit Go.WideMaps
section
variable {P : Program} {K E : TypeId}
theorem MapI.made {w:World} {b:Nat} (hb:w.heap.size=b):MapI P K E (w.alloc (.map #[] 0)) b 0 fun _=>none:=by
 subst hb
 exact ⟨.map [],World.ownsMap_made _ _ _ _,Maps.isMap_empty,fun s=>⟨by simp [Maps.has],fun v h=>by cases h⟩⟩
theorem qgL {s t:ByteArray} (h:s.data.toList=t.data.toList):s=t:=by
 cases s;cases t
 simp only at h
 rw [Array.toList_inj.1 h]
theorem qeg {w:World} {ops:Array Oper} {rest:List Oper} {o:Oper} {a:Act} {Q:Exit->Act->World->Prop} (hg:o.guard=none) (m x:Operand) (t:TypeId) (hop:o.op = .lookup t m x true)
  (hK:P.underlying K=some .string) (ht:P.underlying t=some (.map K E)) (he:P.underlying E=some (.int .i64)) (hz : ∀ w:World,(zeroValue E).run P w = .ok (.int .i64 0) w)
  {b n:Nat} {f:ByteArray->Option Int} (hm:a.eval m = .map (some b)) (hown:MapI P K E w b n f) {s:ByteArray} (hx:a.eval x = .string s) (hs:s.size<=maxLen)
  (h:wpList P ops Q rest (a.put o.dst (.tuple #[.int .i64 ((f s).getD 0),.bool (f s).isSome])) w):wpList P ops Q (o::rest) a w:=by
 obtain ⟨D,h1,h2,h3⟩:=hown
 refine wpList_lookup_own_ok_int w hg m x t hop K E .i64 (Maps.string_keyed hK) ht he (hz w) b n D hm h1 _ _ hx (keyOf_string_mk hK hs) fun c hc _=>?_
 rw [(h3 s).1]
 have e:c=(f s).getD 0:=by
  cases hf:f s with
  | some v =>
   have:=(h3 s).2 v hf (.lit (.int .i64 0))
   rw [this] at hc
   injection hc with hc
   injection hc with _ hc
   exact hc.symm
  | none =>
   have:=(h3 s).1
   rw [hf] at this
   have h4:=Maps.atKey_of_not_has this (.lit (.int .i64 0))
   rw [h4] at hc
   injection hc with hc
   injection hc with _ hc
   exact hc.symm
 rw [e]
 exact h
theorem qbH {w:World} {ops:Array Oper} {rest:List Oper} {o:Oper} {a:Act} {Q:Exit->Act->World->Prop} (hg:o.guard=none) (m x v:Operand) (t:TypeId) (hop:o.op = .mapUpdate t m x v)
  (hK:P.underlying K=some .string) (ht:P.underlying t=some (.map K E)) (he:P.underlying E=some (.int .i64))
  {b n:Nat} {f:ByteArray->Option Int} (hm:a.eval m = .map (some b)) (hown:MapI P K E w b n f) {s:ByteArray} (hx:a.eval x = .string s) (hs:s.size<=maxLen) {z:Int} (hv:a.eval v = .int .i64 z) (hw:(Lit.int .i64 z).wf=true) (hn:n<maxLen)
  (h : ∀ w',MapI P K E w' b (n+1) (fun k=>if k=s then some z else f k)->w.grownBy w' (some b)->wpList P ops Q rest (a.put o.dst undef) w'):wpList P ops Q (o::rest) a w:=by
 obtain ⟨D,h1,h2,h3⟩:=hown
 refine wpList_mapUpdate_own w hg m x v t hop K E (Maps.string_keyed hK) ht _ b n D hm h1 hn _ _ _ hx hv (keyOf_string_mk hK hs) _ [] (plainElem_int he hw) fun w' h4 h5=>h w' ⟨_,h4,h2.put _ _,fun k=>?_⟩ h5
 by_cases hk:k=s
 ·subst hk
  simp only [if_true]
  exact ⟨Maps.has_put_same h2 (by simp [WideAt.IsKeyLit]) _,fun v hv z=>by injection hv with hv;subst hv;exact Maps.atKey_put_same h2 (by simp [WideAt.IsKeyLit]) _ _⟩
 ·simp only [if_neg hk]
  have hne:Lit.string k.data.toList≠Lit.string s.data.toList:=by
   intro e
   injection e with e
   exact hk (qgL e)
  refine ⟨(Maps.has_put_other hne _).trans (h3 k).1,fun v hv z=>?_⟩
  rw [Maps.atKey_put_other hne]
  exact (h3 k).2 v hv z
end
theorem qce (i:Nat):(wb i).size<=maxLen:=by
 unfold wb maxLen
 split <;> decide
theorem qid (w:World):(zeroValue 3).run prog w = .ok (.int .i64 0) w:=by kernel_rfl
theorem values (w:World):Calls prog 149 #[] w fun e w'=>∃ b,e = .returned (.map (some b))/\MapI prog 9 3 w' b 56 (qbS 28)/\Below w.heap.size w w'/\w.heap.size<=b:=by
 have hmm:=@run_makeMap prog
 go_enter func149,ntmps149
 go_wp2_with (first | (go_at_call 176;refine (voc _).mono ?_;rintro e w' ⟨rfl,rfl⟩))
 go_loopw [8] (fun i wr=>∃ k:Nat,k<=28/\i = .int .i64 k/\MapI prog 9 3 wr w.heap.size (2 * k) (qbS k)/\Below w.heap.size w wr/\∀ i,i<28->wr.cell? ⟨w.heap.size+1,i,none⟩=some (.string (wb i))) (fun i _=>28-(intOf i).toNat)
 case atStart =>
  refine ⟨0,by omega,rfl,(MapI.made rfl).keep ?_,((Below.refl _ _).alloc (Nat.le_refl _) _).alloc (by simp) _,fun i hi=>?_⟩
  ·exact Below.heap_alloc _ _ _ (by simp)
  ·have:=qb2 (w.alloc (.map #[] 0)) i (by omega)
   rwa [World.size_alloc] at this
 case round =>
  obtain ⟨k,hk,rfl,hmap,hbel,hcell⟩:=hrel
  have HC:=Lh hcell
  clear hcell
  have hz:=hmap.lt
  by_cases hlt:k<28
  ·have hc:=HC.out k hlt
   by_cases h20:20<k
   ·go_wp2_with (first | (at_mapUpdate;have tok1:=hmap;refine qbH rfl _ _ _ _ rfl underlying9 underlying202 underlying3 rfl hmap rfl (qce _) rfl (WalkArith.wf_i64 (by omega)) (by unfold maxLen;omega) ?_;intro w1 hm1 hg1;have hz1:=hg1.size;clear hmap) | (at_mapUpdate;refine qbH rfl _ _ _ _ rfl underlying9 underlying202 underlying3 rfl hm1 rfl (qce _) rfl (WalkArith.wf_i64 (by omega)) (by unfold maxLen;omega) ?_;intro w2 hm2 hg2;clear hm1))
    refine ⟨⟨k+1,by omega,by go_num,?_,(hbel.grown hg1 hbel.size (fun _ e=>by injection e with e;omega)).grown hg2 (Nat.le_trans hbel.size hz1) (fun _ e=>by injection e with e;omega),fun i hi=>?_⟩,by simp [intOf];omega⟩
    ·refine MapI.ext (g:=qbS (k+1)) hm2 fun s=>?_
     rw [qbS]
     unfold qbt
     rw [if_pos h20]
     by_cases hs:s=wb k
     ·simp [hs]
     ·simp [hs]
    ·exact hg2.cell (hg1.cell (HC.out i hi) (by simp)) (by simp)
   ·go_wp2_with (first | (at_mapUpdate;refine qbH rfl _ _ _ _ rfl underlying9 underlying202 underlying3 rfl hmap rfl (qce _) rfl (WalkArith.wf_i64 (by omega)) (by unfold maxLen;omega) ?_;intro w1 hm1 hg1;clear hmap))
    refine ⟨⟨k+1,by omega,by go_num,?_,hbel.grown hg1 hbel.size (fun _ e=>by injection e with e;omega),fun i hi=>?_⟩,by simp [intOf];omega⟩
    ·obtain ⟨D,a,b⟩:=hm1
     refine MapI.ext (g:=qbS (k+1)) ⟨D,a.mono (by omega),b⟩ fun s=>?_
     rw [qbS]
     unfold qbt
     rw [if_neg h20]
    ·exact hg1.cell (HC.out i hi) (by simp)
  ·obtain rfl:k=28:=by omega
   go_wp2
   go_ret
   exact ⟨_,rfl,hmap,hbel,Nat.le_refl _⟩
end Go.Proofs.YticbpkghcglgkaaGreatDoor
namespace Go.Proofs.YticbpkghcglgkaaGreatDoor
open Go.Proofs.Tryz Go.RowKit
theorem equal (l m:List ByteArray) (A A':Option Addr) (c c' B:Nat) (w:World) (hl:Rd w B 1 A l.length (sv l)) (hm:Rd w B 1 A' m.length (sv m)) (hb:l.length<=140737488355328) (hb':m.length<=140737488355328) :
  Calls prog 151 #[.slice A l.length c,.slice A' m.length c'] w (Quiet (.bool (decide (l=m))) w):=by
 by_cases hlen:l.length=m.length
 ·have e1:((l.length:Int)==(m.length:Int))=true:=by simp [hlen]
  have e2:((l.length:Int) != (m.length:Int))=false:=by simp [hlen]
  have HL:=Lh hlen
  clear hlen
  go_enter func151,ntmps151
  go_wp2
  go_loopw [13] (fun i wr=>∃ k j:Nat,k<=l.length/\i = .int .i64 k/\wr=w.drewN j/\∀ i (h1:i<l.length) (h2:i<m.length),i<k->l[i]=m[i]) (fun i _=>l.length-(intOf i).toNat)
  case atStart=>exact ⟨0,0,Nat.zero_le _,rfl,rfl,fun _ _ _ h=>absurd h (by omega)⟩
  case round =>
   obtain ⟨k,j,hk,rfl,rfl,hall⟩:=hrel
   have HA:=Lh hall
   clear hall
   by_cases hlt:k<l.length
   ·have hkm:k<m.length:=by have:=HL.out;omega
    obtain ⟨b,o,rfl,hbB,hc⟩:=hl.at_ hlt
    obtain ⟨b',o',rfl,hbB',hc'⟩:=hm.at_ hkm
    rw [yM _ _ hlt] at hc
    rw [yM _ _ hkm] at hc'
    go_wp2
    go_quiet (fail)
    go_wp2
    ·rename_i hne
     rw [jO] at hne
     go_ret
     refine ⟨?_,j+nq,by simp [World.drewN_drewN]⟩
     have:l≠m:=by rintro rfl;simp at hne
     simp [this]
    ·rename_i hne
     rw [jO] at hne
     have hek:l[k]=m[k]:=by simpa using hne
     have hA2:=HA.out
     refine ⟨⟨k+1,_,by omega,by go_num,rfl,fun i h1 h2 h3=>?_⟩,by simp [intOf];omega⟩
     rcases Nat.lt_or_ge i k with h | h
     ·exact hA2 i h1 h2 h
     ·obtain rfl:i=k:=by omega
      exact hek
   ·go_wp2
    go_ret
    have:l=m:=qaQ l m HL.out (fun i h1 h2=>HA.out i h1 h2 (by omega))
    exact ⟨by simp [this],_,rfl⟩
 ·have e2:((l.length:Int) != (m.length:Int))=true:=by simp;omega
  go_enter func151,ntmps151
  go_wp2
  go_ret
  have:l≠m:=by rintro rfl;exact hlen rfl
  exact ⟨by simp [this],0,rfl⟩
theorem equal_t (l m:List ByteArray) (h:l=m) (A A':Option Addr) (n n' c c' B B':Nat) (w:World) (hn:l.length=n) (hn':m.length=n') (hl:Rd w B 1 A n (sv l)) (hm:Rd w B' 1 A' n' (sv m)) (hb:n<=140737488355328) (hb':n'<=140737488355328) :
  Calls prog 151 #[.slice A n c,.slice A' n' c'] w (Quiet (.bool true) w):=by
 subst hn hn'
 exact (equal l m A A' c c' (max B B') w (hl.more (Nat.le_max_left _ _)) (hm.more (Nat.le_max_right _ _)) hb hb').mono fun _ _ x=>x.t (by simp [h])
theorem equal_f (l m:List ByteArray) (h:l≠m) (A A':Option Addr) (n n' c c' B B':Nat) (w:World) (hn:l.length=n) (hn':m.length=n') (hl:Rd w B 1 A n (sv l)) (hm:Rd w B' 1 A' n' (sv m)) (hb:n<=140737488355328) (hb':n'<=140737488355328) :
  Calls prog 151 #[.slice A n c,.slice A' n' c'] w (Quiet (.bool false) w):=by
 subst hn hn'
 exact (equal l m A A' c c' (max B B') w (hl.more (Nat.le_max_left _ _)) (hm.more (Nat.le_max_right _ _)) hb hb').mono fun _ _ x=>x.t (by simp [h])
end Go.Proofs.YticbpkghcglgkaaGreatDoor
namespace Go.Proofs.YticbpkghcglgkaaGreatDoor
open Go.Proofs.Tryz Go.RowKit Go.WideMaps
def kE:Option Int->Value
 | some n=>.tuple #[.int .i64 n,.int .i64 0]
 | none=>.tuple #[.int .i64 0,.int .i64 17]
theorem valI_bd (i:Nat) (h:i<28):0<=qbt i/\qbt i<=90:=by unfold qbt;split <;> omega
theorem qih (k:Nat) (hk:k<=28) (s:ByteArray) (v:Int) (h:qbS k s=some v):0<=v/\v<=90:=by
 induction k with
 | zero=>cases h
 | succ k ih =>
  rw [qbS] at h
  split at h
  ·injection h with h
   have:=valI_bd k (by omega)
   omega
  ·exact ih (by omega) h
theorem swN_bd (a p:Int) (s:ByteArray) (a' p':Int) (h:swN a p s=some (a',p')) (h0:0<=a) (h1:a<=999999999) (h2:0<=p) (h3:p<=999999999):0<=a'/\a'<=1000000999999999/\0<=p'/\p'<=99999999900:=by
 unfold swN at h
 split at h
 ·simp only [Option.some.injEq,Prod.mk.injEq] at h;omega
 split at h
 ·simp only [Option.some.injEq,Prod.mk.injEq] at h;omega
 split at h
 ·simp only [Option.some.injEq,Prod.mk.injEq] at h;omega
 split at h
 ·simp only [Option.some.injEq,Prod.mk.injEq] at h;omega
 cases hv:qbS 28 s with
 | none=>rw [hv] at h;cases h
 | some v =>
  rw [hv] at h
  have hb:=qih 28 (by omega) s v hv
  simp only [Option.some.injEq,Prod.mk.injEq] at h;omega
theorem qbr (s b:ByteArray) (l:List UInt8) (hb:b=⟨l.toArray⟩):(s.toList==l)=decide (s=b):=by
 have e:b.toList=l:=by rw [hb];exact ByteArray.toList_mk l
 rw [<- e]
 exact jO s b
theorem qfn (l:List ByteArray) (A:Option Addr) (c:Nat) (w:World) (h:l.length=0∨15<l.length) :
  Calls prog 130 #[.slice A l.length c] w (qh (kE (zc l)) w):=by
 have hN:zc l=none:=by unfold zc;rw [if_pos h]
 rw [hN]
 by_cases h0:l.length=0
 ·have e0:((l.length:Int)==0)=true:=by simp [h0]
  clear h h0
  go_enter func130,ntmps130
  go_wp2
  go_ret2
  exact ⟨rfl,Below.refl _ _⟩
 ·have e0:((l.length:Int)==0)=false:=beq_eq_false_iff_ne.2 (by omega)
  have e1:15<l.length:=by omega
  clear h h0
  go_enter func130,ntmps130
  go_wp2
  go_ret2
  exact ⟨rfl,Below.refl _ _⟩
theorem qcR (l:List ByteArray) (A:Option Addr) (c:Nat) (w:World) (hl:Rd w w.heap.size 1 A l.length (sv l)) (h0:0<l.length) (h1:l.length<=15) (hsz : ∀ s∈l,s.size<=maxLen) :
  Calls prog 130 #[.slice A l.length c] w (qh (kE (zc l)) w):=by
 have e0:((l.length:Int)==0)=false:=beq_eq_false_iff_ne.2 (by omega)
 have HN:Hid (zc l=match vS l 0 0 with
  | none=>none
  | some (a,p)=>qaA l (qbx l (a+p))):=Lh (by unfold zc;rw [if_neg (by omega)];try rfl)
 generalize zc l=R at HN ⊢
 go_enter func130,ntmps130
 go_wp2_with (first | (go_at_call 149;refine (values _).mono ?_;rintro e w1 ⟨b,rfl,hmap,hbel,hbb⟩))
 have hl1:=hl.below hbel
 go_loop [5,6,25] (fun x y i=>∃ (k:Nat) (a p:Int),k<=l.length/\i = .int .i64 k/\x = .int .i64 a/\y = .int .i64 p/\0<=a/\a<=999999999/\0<=p/\p<=999999999/\Hid (vS l 0 0=vS (l.drop k) a p)) (fun _ _ i=>l.length-(intOf i).toNat)
 case atStart=>exact ⟨0,0,0,by omega,rfl,rfl,rfl,by omega,by omega,by omega,by omega,Lh rfl⟩
 case round =>
  obtain ⟨k,a,p,hk,rfl,rfl,rfl,ha0,ha1,hp0,hp1,HL⟩:=hrel
  by_cases hlt:k<l.length
  ·obtain ⟨bb,oo,rfl,hbB,hc⟩:=hl1.at_ hlt
   rw [yM _ _ hlt] at hc
   have hs:l[k].size<=maxLen:=hsz _ (List.getElem_mem hlt)
   have HD:Hid (l.drop k=l[k]::l.drop (k+1)):=Lh (List.drop_eq_getElem_cons hlt)
   generalize l[k]=s at *
   have t31:=qbr s (wb 31) [109,105,110,117,115] rfl
   have t28:=qbr s (wb 28) [104,117,110,100,114,101,100] rfl
   have t29:=qbr s (wb 29) [116,104,111,117,115,97,110,100] rfl
   have t30:=qbr s (wb 30) [109,105,108,108,105,111,110] rfl
   have HS:Hid (∀ x,swN a p s=x->swN a p s=x):=Lh fun _ h=>h
   have HL2:Hid (∀ x,kp a p s=x->vS l 0 0=match x with
    | none=>none
    | some (a',p')=>vS (l.drop (k+1)) a' p'):=Lh (by rintro x rfl;rw [HL.out,HD.out,vS];try rfl)
   go_upto_block 2 with (fail)
   go_cut [5,6] (fun x y wx=>wx=w1/\∃ a' p':Int,x = .int .i64 a'/\y = .int .i64 p'/\Hid (swN a p s=some (a',p')))
   case first =>
    by_cases c31:s=wb 31
    ·have d31:(s.toList==[109,105,110,117,115])=true:=by rw [t31];simp [c31]
     have HH:Hid (swN a p s=some (a,p)):=Lh (by unfold swN;rw [if_pos c31])
     clear t31 t28 t29 t30 c31
     go_wp2_with fail
     go_meet
     exact ⟨rfl,_,_,rfl,rfl,HH⟩
    have d31:(s.toList==[109,105,110,117,115])=false:=by rw [t31];simp [c31]
    by_cases c28:s=wb 28
    ·have d28:(s.toList==[104,117,110,100,114,101,100])=true:=by rw [t28];simp [c28]
     have HH:Hid (swN a p s=some (a,p * 100)):=Lh (by unfold swN;rw [if_neg c31,if_pos c28])
     clear t31 t28 t29 t30 c31 c28
     go_wp2_with fail
     go_meet
     exact ⟨rfl,_,_,rfl,rfl,HH⟩
    have d28:(s.toList==[104,117,110,100,114,101,100])=false:=by rw [t28];simp [c28]
    by_cases c29:s=wb 29
    ·have d29:(s.toList==[116,104,111,117,115,97,110,100])=true:=by rw [t29];simp [c29]
     have HH:Hid (swN a p s=some (a+1000 * p,0)):=Lh (by unfold swN;rw [if_neg c31,if_neg c28,if_pos c29])
     clear t31 t28 t29 t30 c31 c28 c29
     go_wp2_with fail
     go_meet
     exact ⟨rfl,_,_,rfl,rfl,HH⟩
    have d29:(s.toList==[116,104,111,117,115,97,110,100])=false:=by rw [t29];simp [c29]
    by_cases c30:s=wb 30
    ·have d30:(s.toList==[109,105,108,108,105,111,110])=true:=by rw [t30];simp [c30]
     have HH:Hid (swN a p s=some (a+1000000 * p,0)):=Lh (by unfold swN;rw [if_neg c31,if_neg c28,if_neg c29,if_pos c30])
     clear t31 t28 t29 t30 c31 c28 c29 c30
     go_wp2_with fail
     go_meet
     exact ⟨rfl,_,_,rfl,rfl,HH⟩
    have d30:(s.toList==[109,105,108,108,105,111,110])=false:=by rw [t30];simp [c30]
    have HH:Hid (swN a p s=match qbS 28 s with
     | none=>none
     | some v=>some (a,p+v)):=Lh (by unfold swN;rw [if_neg c31,if_neg c28,if_neg c29,if_neg c30];try rfl)
    have HB:=Lh (qih 28 (by omega) s)
    have HM:=Lh hmap
    clear t31 t28 t29 t30 c31 c28 c29 c30 hmap
    generalize qbS 28=vf at *
    cases hv:vf s with
    | none =>
     have HV:=Lh hv
     clear hv
     have k1:(vf s).isSome=false:=by rw [HV.out];rfl
     have k2:(vf s).getD 0=0:=by rw [HV.out];rfl
     go_wp2_with (at_lookup;refine qeg rfl _ _ _ rfl underlying9 underlying202 underlying3 qid rfl HM.out rfl hs ?_)
     go_ret2
     have:R=none:=by
      rw [HN.out,HL2.out none (by unfold kp;rw [HH.out,HV.out];try rfl)]
     rw [this]
     exact ⟨rfl,hbel⟩
    | some v =>
     have HV:=Lh hv
     clear hv
     have k1:(vf s).isSome=true:=by rw [HV.out];rfl
     have k2:(vf s).getD 0=v:=by rw [HV.out];rfl
     have hb1:=(HB.out v HV.out).1
     have hb2:=(HB.out v HV.out).2
     go_wp2_with (at_lookup;refine qeg rfl _ _ _ rfl underlying9 underlying202 underlying3 qid rfl HM.out rfl hs ?_)
     go_meet
     exact ⟨rfl,_,_,rfl,rfl,Lh (by rw [HH.out,HV.out])⟩
   case rest =>
    obtain ⟨rfl,a',p',rfl,rfl,HH⟩:=hcut
    have hbd:=swN_bd a p s a' p' HH.out ha0 ha1 hp0 hp1
    obtain ⟨b1,b2,b3,b4⟩:=hbd
    by_cases q1:999999999<p'
    ·have HR:Hid (R=none):=Lh (by rw [HN.out,HL2.out none (by unfold kp;rw [HH.out];simp [q1])])
     clear t31 t28 t29 t30 hmap
     go_wp2_with fail
     go_ret2
     rw [HR.out]
     exact ⟨rfl,hbel⟩
    by_cases q2:999999999<a'
    ·have HR:Hid (R=none):=Lh (by rw [HN.out,HL2.out none (by unfold kp;rw [HH.out];simp [q2])])
     clear t31 t28 t29 t30 hmap
     go_wp2_with fail
     go_ret2
     rw [HR.out]
     exact ⟨rfl,hbel⟩
    clear t31 t28 t29 t30
    have HX:Hid (vS l 0 0=vS (l.drop (k+1)) a' p'):=Lh (by rw [HL2.out (some (a',p')) (by unfold kp;rw [HH.out];simp [q1,q2])])
    clear hmap
    go_wp2_with fail
    exact ⟨⟨k+1,a',p',by omega,by go_num,rfl,rfl,b1,by omega,b3,by omega,HX⟩,by simp [intOf];omega⟩
  ·obtain rfl:k=l.length:=by omega
   have HR:Hid (R=qaA l (qbx l (a+p))):=Lh (by rw [HN.out,HL.out,List.drop_length,vS])
   obtain ⟨bb,oo,rfl,hbB,hc⟩:=hl1.at_ h0
   rw [yM _ _ h0,Nat.add_zero] at hc
   have t31:=qbr l[0] (wb 31) [109,105,110,117,115] rfl
   have HG:Hid (qbx l (a+p)=if l[0]=wb 31 then -(a+p) else a+p):=Lh (by
    unfold qbx
    cases l with
    | nil=>simp at h0
    | cons x t=>simp)
   clear hmap
   go_upto_if 72 with fail
   go_cut [11] (fun x wx=>wx=w1/\x = .int .i64 (qbx l (a+p)))
   case first =>
    by_cases c31:l[0]=wb 31
    ·have d31:(l[0].toList==[109,105,110,117,115])=true:=by rw [t31];simp [c31]
     clear t31
     go_wp2_with fail
     go_meet
     rw [HG.out,if_pos c31]
     exact ⟨rfl,by go_num⟩
    ·have d31:(l[0].toList==[109,105,110,117,115])=false:=by rw [t31];simp [c31]
     clear t31
     go_wp2_with fail
     go_meet
     rw [HG.out,if_neg c31]
     exact ⟨rfl,rfl⟩
   case rest =>
    obtain ⟨rfl,rfl⟩:=hcut
    clear t31 HG
    generalize qbx l (a+p)=n at *
    by_cases hin : -999999999<=n/\n<=999999999
    ·obtain ⟨i1,i2⟩:=hin
     have hle:=ke n
     by_cases heq:(qm n).map wb=l
     ·have HR2:Hid (R=some n):=Lh (by rw [HR.out];unfold qaA;rw [if_pos ⟨i1,i2,heq⟩])
      have HE:=Lh heq
      clear heq
      go_wp2_with (first
       | (go_at_call 150;refine (qgW n i1 i2 _).mono ?_;rintro e w2 ⟨A2,c2,rfl,hown2,hbel2⟩)
       | (go_at_call 151;refine (equal_t ((qm n).map wb) l HE.out A2 _ _ _ c2 c _ _ _ (by simp) rfl (by rw [<- qgr];exact Rd.of_own hown2) ((hl1.more hbel.size).below hbel2) (by omega) (by omega)).mono ?_;rintro e w3 ⟨rfl,n3,rfl⟩))
      go_ret2
      rw [HR2.out]
      exact ⟨rfl,qf (hbel.trans (hbel2.mono hbel.size))⟩
     ·have HR2:Hid (R=none):=Lh (by rw [HR.out];unfold qaA;rw [if_neg (fun h=>heq h.2.2)])
      have HE:=Lh heq
      clear heq
      go_wp2_with (first
       | (go_at_call 150;refine (qgW n i1 i2 _).mono ?_;rintro e w2 ⟨A2,c2,rfl,hown2,hbel2⟩)
       | (go_at_call 151;refine (equal_f ((qm n).map wb) l HE.out A2 _ _ _ c2 c _ _ _ (by simp) rfl (by rw [<- qgr];exact Rd.of_own hown2) ((hl1.more hbel.size).below hbel2) (by omega) (by omega)).mono ?_;rintro e w3 ⟨rfl,n3,rfl⟩))
      go_ret2
      rw [HR2.out]
      exact ⟨rfl,qf (hbel.trans (hbel2.mono hbel.size))⟩
    ·have HR2:Hid (R=none):=Lh (by rw [HR.out];unfold qaA;rw [if_neg (fun h=>hin ⟨h.1,h.2.1⟩)])
     go_wp2_with (go_at_call 150;refine (qf7 n (by omega) _).mono ?_;rintro e w2 ⟨rfl,hbel2⟩)
     go_ret2
     rw [HR2.out]
     exact ⟨rfl,hbel.trans (hbel2.mono hbel.size)⟩
theorem number (l:List ByteArray) (A:Option Addr) (n c:Nat) (w:World) (hn:l.length=n) (hl:Rd w w.heap.size 1 A n (sv l)) (hsz : ∀ s∈l,s.size<=maxLen) :
  Calls prog 130 #[.slice A n c] w (qh (kE (zc l)) w):=by
 subst hn
 by_cases h:l.length=0∨15<l.length
 ·exact qfn l A c w h
 ·exact qcR l A c w hl (by omega) (by omega) hsz
end Go.Proofs.YticbpkghcglgkaaGreatDoor
