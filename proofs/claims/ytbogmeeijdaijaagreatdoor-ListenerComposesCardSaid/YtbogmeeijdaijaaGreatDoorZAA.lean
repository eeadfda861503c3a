/- Joined: Kit, Near, Ut1, Ut2, Wd1, Gk, Lib, Sig1. -/
import Derived.Test.YtbogmeeijdaijaaGreatDoorRows
import Derived.Below
import Derived.Laws.OwnMore
import Derived.Deep.AppendLies
import Derived.Deep.Draws
import Derived.Deep.OwnRows
import Derived.Maps.AppendAt
import Derived.RegionTactic
import Derived.OwnWalk
import Derived.WalkKit
import Derived.WalkSpells
import Derived.WalkLawsBesides
import Derived.Lib.Hide
import Derived.Deep.DeepCutAuto
import Derived.Deep.CutBlock
import Derived.Deep.RegionLaw
import Derived.Deep.RegionHeld3
import Derived.Deep.QuietTactic
import Derived.BigQuiet
import Derived.Deep.LoopGhost
import Derived.Deep.DeepFit
import Derived.Deep.DeepMust
import Derived.Lib.Small
import Derived.Lib.ValidLaws
import Derived.Laws.StructEq
import Derived.Shelf.Strings.Builder1
import Derived.Shelf.Strings.Builder2
import Derived.Shelf.Strings.OnBuilder
import Derived.Shelf.Small.Utf8
import Derived.Shelf.Small.Strs
import Derived.Shelf.Strings.BuilderF
import Derived.Shelf.Strings.BuilderK
import Derived.Shelf.Strings.BuilderRune
import Derived.Shelf.Utf8.AppendRunePlain
import Derived.Shelf.Strings.Search1
import Derived.Shelf.Strings.Fields
import Derived.Shelf.LaysM
import Derived.Shelf.Strings.SplitShaped
import Derived.Shelf.Unicode.Latin
import Derived.Shelf.Unicode.Decode
import Derived.Shelf.Unicode.DecodeSlow
import Derived.Shelf.Unicode.DecodeAny
import Derived.Shelf.Unicode.Is16White
import Derived.Shelf.Unicode.IsSpaceAny
import Derived.Shelf.Unicode.CaseLookup
import Derived.Shelf.Unicode.CaseConvert
import Derived.Shelf.Unicode.CaseTo
import Derived.Shelf.Unicode.CaseLaid
import Derived.Shelf.Strings.MapAny
import Derived.Shelf.Strings.CaseAny
import Derived.Shelf.Unicode.Is16Any
import Derived.Shelf.Unicode.Is32Any
import Derived.Shelf.Unicode.ExclAny
import Derived.Test.YtbogmeeijdaijaaGreatDoorProg
import Derived.Laws.CopyOwn
import Derived.Laws.ResultCell
import Derived.Lib.LaidTab
set_option linter.unusedVariables false
set_option linter.unusedSimpArgs false
set_option linter.unnecessarySimpa false
set_option maxHeartbeats 1000000
namespace Go.Proofs.YtbogmeeijdaijaaGreatDoor
open Go.Proofs.Tryz Go.RowKit
set_option maxRecDepth 20000
theorem L5 {w:World} {o:Obj}:Below w.heap.size w (w.alloc o):=(Below.refl _ _).alloc (Nat.le_refl _) _
theorem L0 {p:Prop} (h:p:=by omega):p:=h
theorem L1 {p:Prop} (h:p:=by simp):p:=h
theorem L2 {p:Prop} (h:p:=by decide):p:=h
theorem L3 {p:Prop} (h:p:=by assumption):p:=h
theorem L4 {p:Prop} (h:p:=by decide +kernel):p:=h
theorem L6 {p:Prop} (h:p:=by first | (simp;done) | (simp;omega) | omega):p:=h
theorem L7 {p:Prop} (h:p:=by (try dsimp only);omega):p:=h
theorem Lh {p:Prop} (h:p):Hid p:=Lib.hid h
theorem La {α:Type _} {xs:List α} {i:Nat}:xs.toArray[i]? = xs[i]?:=List.getElem?_toArray
theorem Lb {α:Type _} {a:α} {l:List α}:(a::l)[0]? = some a:=List.getElem?_cons_zero
theorem Lc {α:Type _} {a:α} {l:List α} {i:Nat}:(a::l)[i+1]? = l[i]?:=List.getElem?_cons_succ
theorem Ld (n:Nat):n<=n:=Nat.le_refl n
theorem Le (B:Nat) (w:World):Below B w w:=Below.refl B w
theorem Lf {α:Type _} {s t:List α}:(s++t).length=s.length+t.length:=List.length_append
theorem Lg {α:Type _} (s:List α):[]++s=s:=List.nil_append s
theorem Li (w:World) (o:Obj):(w.alloc o).heap.size=w.heap.size+1:=World.size_alloc w o
theorem Lj {n m k:Nat}:n<=m->m<=k->n<=k:=Nat.le_trans
theorem Lk {p:Prop} [Decidable p] : ¬ p->decide p=false:=decide_eq_false
theorem Ll {p:Prop} [Decidable p]:p->decide p=true:=decide_eq_true
theorem Lm {α:Type _} [BEq α] [LawfulBEq α] {a b:α}:(a==b)=false↔a≠b:=beq_eq_false_iff_ne
theorem Ln {α:Type _} [BEq α] [LawfulBEq α] {a b:α}:(a != b)=true↔a≠b:=bne_iff_ne
theorem Lo (n:Nat):0+n=n:=Nat.zero_add n
theorem Lp {α:Type _} {a:α} {s:List α}:(a::s).length=s.length+1:=List.length_cons
theorem Lq {α:Type _} {β:Type _} {s:List α} (f:α->β):(List.map f s).length=s.length:=List.length_map f
theorem Lr {n m:Nat}:n<m->n<=m:=Nat.le_of_lt
theorem Ls {α:Type _} {i:Nat} {l:List α} (h:i<l.length):List.drop i l=l[i]::List.drop (i+1) l:=List.drop_eq_getElem_cons h
theorem Lt {α:Type _} {l:List α} {n:Nat} (h:n<l.length):l[n]∈l:=List.getElem_mem h
theorem Lu {α:Type _} {i:Nat} {l:List α}:(List.take i l).length=min i l.length:=List.length_take
theorem Lv {α:Type _} {i:Nat} {l:List α}:l.length<=i->List.drop i l=[]:=List.drop_of_length_le
theorem Lw {α:Type _} [BEq α] [ReflBEq α] (a:α):(a==a)=true:=beq_self_eq_true a
theorem Lx (n:Int):IntKind.i64.wrap n=(n+9223372036854775808) % 18446744073709551616-9223372036854775808:=IntKind.wrap_i64 n
theorem Ly {n m k:Nat}:n<m->m<=k->n<k:=Nat.lt_of_lt_of_le
theorem Lz {α:Type _} {a:α}:[a].length=1:=List.length_singleton
theorem qbC (a:Addr) (i j:Nat):(a.add i).add j=a.add (i+j):=by
 unfold Addr.add
 by_cases hi:i=0 <;> by_cases hj:j=0 <;> simp [hi,hj,Nat.add_assoc]
theorem vl (b o i:Nat):(Addr.mk b o none).add i=⟨b,o+i,none⟩:=by
 unfold Addr.add
 by_cases hi:i=0 <;> simp [hi]
def Rd (w:World) (B size:Nat) (A:Option Addr) (n:Nat) (xs:List Value):Prop :=
 xs.length=n * size/\(0<n->∃ b o,A=some ⟨b,o,none⟩/\b<B/\∀ j u,xs[j]? = some u->w.cell? ⟨b,o+j,none⟩=some u)
section
variable {w w' : World} {B B' size n : Nat} {A : Option Addr} {xs : List Value}
theorem Rd.none_:Rd w B size A 0 []:=⟨by simp,fun h=>absurd h L0⟩
theorem Rd.some_ {b o:Nat} (hl:xs.length=n * size) (hb:b<B) (hc : ∀ j u,xs[j]? = some u->w.cell? ⟨b,o+j,none⟩=some u):Rd w B size (some ⟨b,o,none⟩) n xs:=⟨hl,fun _=>⟨b,o,rfl,hb,hc⟩⟩
theorem Rd.at_ {k:Nat} (h:Rd w B 1 A n xs) (hk:k<n) : ∃ b o,A=some ⟨b,o,none⟩/\b<B/\w.cell? ⟨b,o+k,none⟩=xs[k]?:=by
 obtain ⟨b,o,e,hb,hc⟩:=h.2 L0;have hl:k<xs.length:=by have:=h.1;omega
 exact ⟨b,o,e,hb,by rw [hc k _ (List.getElem?_eq_getElem hl),List.getElem?_eq_getElem hl]⟩
theorem Rd.form {a:Addr} (h:Rd w B size (some a) n xs) (hn:0<n):a.spot=none/\a.block<B/\∀ j u,xs[j]? = some u->w.cell? ⟨a.block,a.off+j,none⟩=some u:=by
 obtain ⟨b,o,e,hb,hc⟩:=h.2 hn
 injection e with e
 subst e;exact ⟨rfl,hb,hc⟩
theorem Rd.keep (h:Rd w B size A n xs) (hk : ∀ p:Addr,p.block<B->w'.cell? p=w.cell? p):Rd w' B size A n xs :=
 ⟨h.1,fun hn=>by
  obtain ⟨b,o,e,hb,hc⟩:=h.2 hn
  exact ⟨b,o,e,hb,fun j u hu=>(hk _ hb).trans (hc j u hu)⟩⟩
theorem Rd.more (h:Rd w B size A n xs) (hB:B<=B'):Rd w B' size A n xs :=
 ⟨h.1,fun hn=>by
  obtain ⟨b,o,e,hb,hc⟩:=h.2 hn
  exact ⟨b,o,e,by omega,hc⟩⟩
theorem Rd.below (h:Rd w B size A n xs) (hb:Below B w w'):Rd w' B size A n xs:=h.keep fun _ hp=>hb.cell hp
theorem Rd.grown (h:Rd w B size A n xs) {row:Option Nat} (hg:w.grownBy w' row) (hB:B<=w.heap.size) (hr : ∀ b o,A=some ⟨b,o,none⟩->row≠some b):Rd w' B size A n xs :=
 ⟨h.1,fun hn=>by
  obtain ⟨b,o,e,hb,hc⟩:=h.2 hn
  exact ⟨b,o,e,hb,fun j u hu=>(World.cell?_of_block (a:=⟨b,o+j,none⟩) (hg.block b L0 (fun e'=>hr b o e e'.symm))).trans (hc j u hu)⟩⟩
theorem Rd.take (h:Rd w B size A n xs) {k:Nat} (hk:k<=n):Rd w B size A k (xs.take (k * size)):=by
 refine ⟨by rw [Lu,h.1];exact Nat.min_eq_left (Nat.mul_le_mul_right _ hk),fun h0=>?_⟩;obtain ⟨b,o,e,hb,hc⟩:=h.2 L0;refine ⟨b,o,e,hb,fun j u hu=>hc j u ?_⟩;rw [List.getElem?_take] at hu
 split at hu
 ·exact hu
 ·cases hu
theorem Rd.cut (h:Rd w B size A n xs) {k cap:Nat} (hk:k<=n) (hc:n<=cap) :
  Rd w B size (if cap=k then A else A.map (·.add (k * size))) (n-k) (xs.drop (k * size)):=by
 refine ⟨by rw [List.length_drop,h.1,Nat.sub_mul],fun hn=>?_⟩;obtain ⟨b,o,rfl,hb,hcell⟩:=h.2 L0;rw [if_neg L0];refine ⟨b,o+k * size,by simp [vl],hb,fun j u hu=>?_⟩;rw [Nat.add_assoc];exact hcell _ u (by rw [<- hu,List.getElem?_drop])
theorem Rd.of_own {base:Nat} {e:TypeId} {c:Nat} (h:w.ownsRow base e size (.slice A n c) n xs):Rd w w.heap.size size A n xs:=by
 refine ⟨h.1,fun hn=>?_⟩;obtain ⟨g,cap,hv,_,hlt⟩:=h.form hn;have hA:A=some ⟨g,0,none⟩:=by injection hv
 subst hA;refine ⟨_,_,rfl,hlt,fun j u hu=>?_⟩;have:=h.cells (g:=g) rfl j u hu
 rwa [vl] at this
end
theorem jI {B:Nat} {w w':World} (h:Below B w.drew w'):Below B w w':=⟨h.os,h.tape,h.output,h.size,h.block⟩
theorem qf {B n:Nat} {w w':World} (h:Below B w w'):Below B w (w'.drewN n):=⟨h.os,h.tape,h.output,h.size,h.block⟩
theorem qb {w w':World} {base size n:Nat} {e:TypeId} {v:Value} {xs:List Value} (h:w.ownsRow base e size v n xs) (hb:Below w.heap.size w w'):w'.ownsRow base e size v n xs :=
 h.kept (row:=none) ⟨hb.os,hb.tape,hb.output,hb.size,fun k hk _=>hb.block k hk⟩ (by cases v.ownBlock <;> simp)
theorem zY (w:World) (base:Nat) (e:TypeId) (size:Nat):w.ownsRow base e size (.slice none 0 0) 0 []:=World.ownsRow_nil w base e size
theorem qt {w:World} {base base' size n:Nat} {e:TypeId} {v:Value} {xs:List Value} (h:w.ownsRow base e size v n xs) (hb:base'<=base):w.ownsRow base' e size v n xs:=by
 refine ⟨h.1,?_⟩
 rcases h.2 with h0 | ⟨g,cap,cur,rfl,h1,h2,h3⟩
 ·exact .inl h0
 ·exact .inr ⟨g,cap,cur,rfl,by omega,h2,h3⟩
def Blk (w:World) (g:Nat) (t:TypeId) (cs:Array Value):Prop:=w.heap[g]? = some (.cells cs t (0,0))
section
variable {w w' : World} {g : Nat} {t : TypeId} {cs : Array Value}
theorem Blk.lt (h:Blk w g t cs):g<w.heap.size:=by
 rcases Nat.lt_or_ge g w.heap.size with hlt | hge
 ·exact hlt
 ·unfold Blk at h;rw [Array.getElem?_eq_none hge] at h;cases h
theorem Blk.cell (h:Blk w g t cs) (i:Nat):w.cell? ⟨g,i,none⟩=cs[i]?:=cell_of_row w g i cs t (0,0) h
theorem Blk.frozen (h:Blk w g t cs) (i:Nat):w.frozen? ⟨g,i,none⟩=false:=by
 unfold Blk at h
 simp [World.frozen?,h]
theorem Blk.new (w:World) (t:TypeId) (cs:Array Value):Blk (w.alloc (.cells cs t)) w.heap.size t cs:=heap_alloc_new w _
theorem Blk.new_ {w:World} {t:TypeId} {cs:Array Value} {g:Nat} (h:w.heap.size=g):Blk (w.alloc (.cells cs t)) g t cs:=by subst h;exact heap_alloc_new w _
theorem Blk.drew (h:Blk w g t cs):Blk w.drew g t cs:=h
theorem Blk.drewN (h:Blk w g t cs) (n:Nat):Blk (w.drewN n) g t cs:=h
theorem Blk.alloc (h:Blk w g t cs) (o:Obj):Blk (w.alloc o) g t cs:=(Below.heap_alloc w o g h.lt).trans h
theorem Blk.set_ (h:Blk w g t cs) (i:Nat) (u:Value):Blk (w.setCell ⟨g,i,none⟩ u) g t (cs.setIfInBounds i u):=by
 unfold Blk at h ⊢
 simp [World.setCell,Array.getElem?_modify,h]
theorem Blk.far (h:Blk w g t cs) {p:Addr} (hp:g≠p.block) (u:Value):Blk (w.setCell p u) g t cs:=(Below.heap_setCell w p u g hp).trans h
theorem Blk.below {B:Nat} (h:Blk w g t cs) (hb:Below B w w') (hg:g<B):Blk w' g t cs:=(hb.block g hg).trans h
theorem Blk.grown {row:Option Nat} (h:Blk w g t cs) (hb:w.grownBy w' row) (hg:some g≠row):Blk w' g t cs:=(hb.block g h.lt hg).trans h
end
structure Elt (P:Program) (t e:TypeId) (z:Value) (size bytes:Nat):Prop where
 und:P.underlying t=some (.slice e)
 row : ∃ i,P.info? e=some i/\i.zero=some z/\i.size=size/\i.bytes=bytes
 zs:z.cells.size=size
 pos:0<size
section
variable {P : Program} {w : World}
theorem qb0 (w:World) (base:Nat) (t ty e:TypeId) (i:TypeInfo) (size:Nat) (ht:P.underlying t=some (.slice e)) (hi:P.info? e=some i)
  (v:Value) (n:Nat) (xs:List Value) (hown:w.ownsRow base e size v n xs) (c:Nat):(Builtin.append_ #[t,t] ty #[v,.slice none 0 c]).run P w = .ok v w:=by
 rcases hown.2 with ⟨rfl,rfl⟩ | ⟨g,cap,cur,rfl,_,_,hnc,_⟩
 ·simp [Builtin.append_,run_underlying ht,sizeOf,typeInfo,hi,Builtin.lenOf,Builtin.firstCells]
 ·simp [Builtin.append_,run_underlying ht,sizeOf,typeInfo,hi,Builtin.lenOf,Builtin.firstCells,hnc,storeCells]
theorem qdZ (w:World) (base:Nat) (t ty e:TypeId) (z:Value) (size bytes:Nat) (hT:Elt P t e z size bytes)
  (A0:Option Addr) (n c0:Nat) (xs:List Value) (hown:w.ownsRow base e size (.slice A0 n c0) n xs)
  (B:Nat) (A:Option Addr) (m c:Nat) (news:List Value) (hr:Rd w B size A m news) (h1:news.all Value.oneCell'=true)
  (hbytes:(n+m) * bytes<=140737488355328) (h63:n+m<=140737488355328) (hbase:base<=w.heap.size) :
  ∃ A' c' w',(Builtin.append_ #[t,t] ty #[.slice A0 n c0,.slice A m c]).run P w = .ok (.slice A' (n+m) c') w'/\w'.ownsRow base e size (.slice A' (n+m) c') (n+m) (xs++news) /\
   w.grownBy w' (Value.slice A0 n c0).ownBlock/\((Value.slice A' (n+m) c').ownBlock=(Value.slice A0 n c0).ownBlock∨(Value.slice A' (n+m) c').ownBlock=some w.heap.size):=by
 obtain ⟨i,hi,hz,hsize,hby⟩:=hT.row
 rcases A with _ | ad
 ·have hm:m=0:=by
   rcases Nat.eq_zero_or_pos m with h0 | h0
   ·exact h0
   ·obtain ⟨_,_,h,_⟩:=hr.2 h0
    cases h
  subst hm;have hn:news=[]:=List.eq_nil_of_length_eq_zero (by simpa using hr.1);subst hn;exact ⟨A0,c0,w,qb0 w base t ty e i size hT.und hi _ n xs hown c,by simpa using hown,World.grownBy.refl w _,.inl rfl⟩
 ·have hcells : ∀ j u,news[j]? = some u->w.cell? (ad.add j)=some u:=by
   intro j u hu
   rcases Nat.eq_zero_or_pos m with h0 | h0
   ·subst h0;have hn:news=[]:=List.eq_nil_of_length_eq_zero (by simpa using hr.1);subst hn
    simp at hu
   ·obtain ⟨b,o,h,_,hc⟩:=hr.2 h0
    injection h with h
    subst h;rw [vl];exact hc j u hu
  obtain ⟨v',w',hrun,h2,h3,_,h5⟩:=run_append_own_at (P:=P) w base t ty e i z size bytes hT.und hi hz hsize hby hT.zs hT.pos _ n xs hown ad m c news hr.1 hcells (fun u hu=>List.all_eq_true.1 h1 u hu) (by unfold maxLen;omega) hbytes hbase;have hv : ∃ A' c',v' = .slice A' (n+m) c':=by
   rcases h2.2 with ⟨h,h'⟩ | ⟨g,cap,cur,h,_⟩
   ·exact ⟨none,0,by rw [h,h']⟩
   ·exact ⟨_,_,h⟩
  obtain ⟨A',c',rfl⟩:=hv;exact ⟨A',c',w',hrun,h2,h3,h5⟩
theorem qdM {w w':World} {base size n c0:Nat} {e:TypeId} {A0:Option Addr} {xs:List Value} (hown:w.ownsRow base e size (.slice A0 n c0) n xs)
  (hg:w.grownBy w' (Value.slice A0 n c0).ownBlock) (hbase:base<=w.heap.size):Below base w w' :=
 (Le base w).grown hg hbase (fun k hk=>(hown.lt k hk).1)
theorem app_wp {o:Oper} {a:Act} {K:Act->World->Prop} {Q:Exit->Act->World->Prop} (s x:Operand) (t:TypeId)
  (ho:o.op = .call { callee:=.builtin .append,args:=#[s,x],argTypes:=#[t,t] })
  {e:TypeId} {z:Value} {size bytes:Nat} (hT:Elt P t e z size bytes) (base:Nat)
  {A0:Option Addr} {n c0:Nat} (xs:List Value) (hs:a.eval s = .slice A0 n c0) (hown:w.ownsRow base e size (.slice A0 n c0) n xs)
  (B:Nat) {A:Option Addr} {m c:Nat} (news:List Value) (hx:a.eval x = .slice A m c) (hr:Rd w B size A m news) (h1:news.all Value.oneCell'=true)
  (hbytes:(n+m) * bytes<=140737488355328) (h63:n+m<=140737488355328) (hbase:base<=w.heap.size)
  (h : ∀ A' c' w',w'.ownsRow base e size (.slice A' (n+m) c') (n+m) (xs++news)->Below base w w'->w.grownBy w' (Value.slice A0 n c0).ownBlock ->
   ((Value.slice A' (n+m) c').ownBlock=(Value.slice A0 n c0).ownBlock∨(Value.slice A' (n+m) c').ownBlock=some w.heap.size)->K (a.put o.dst (.slice A' (n+m) c')) w'):o.wp P a w K Q:=by
 obtain ⟨A',c',w',hrun,h2,h3,h4⟩:=qdZ (P:=P) w base t o.type e z size bytes hT A0 n c0 xs hown B A m c news hr h1 hbytes h63 hbase;unfold Oper.wp execOp;simp only [ho,resolve,invoke,builtin,Sem.run_bind,Sem.run_pure,Result.andThen_ok,List.map_toArray,List.map_cons,List.map_nil,hs,hx,hrun];exact h A' c' w' h2 (qdM hown h3 hbase) h3 h4
theorem qg {ops:Array Oper} {rest:List Oper} {o:Oper} {a:Act} {Q:Exit->Act->World->Prop} (hw:Region.wanted o (yielded ops a.tmps)=true) (s x:Operand) (t:TypeId)
  (ho:o.op = .call { callee:=.builtin .append,args:=#[s,x],argTypes:=#[t,t] })
  {e:TypeId} {z:Value} {size bytes:Nat} (hT:Elt P t e z size bytes) (base:Nat)
  {A0:Option Addr} {n c0:Nat} (xs:List Value) (hs:a.eval s = .slice A0 n c0) (hown:w.ownsRow base e size (.slice A0 n c0) n xs)
  (B:Nat) {A:Option Addr} {m c:Nat} (news:List Value) (hx:a.eval x = .slice A m c) (hr:Rd w B size A m news)
  (h : ∀ A' c' w',w'.ownsRow base e size (.slice A' (n+m) c') (n+m) (xs++news)->Below base w w'->w.grownBy w' (Value.slice A0 n c0).ownBlock ->
   ((Value.slice A' (n+m) c').ownBlock=(Value.slice A0 n c0).ownBlock∨(Value.slice A' (n+m) c').ownBlock=some w.heap.size)->wpList P ops Q rest (a.put o.dst (.slice A' (n+m) c')) w')
  (h1:news.all Value.oneCell'=true:=by first | rfl | exact sv_one _ | exact wv_one _ | exact ivs_one _ _ | exact encL_cells _ | exact qcY _ | exact chV_one _ | exact byV_one _) (hbytes:(n+m) * bytes<=140737488355328:=by omega) (h63:n+m<=140737488355328:=by omega) (hbase:base<=w.heap.size:=by first | (simp;done) | (simp;omega) | omega):wpList P ops Q (o::rest) a w :=
 wpList_step fun _ hK=>by
  rw [if_pos hw];exact app_wp s x t ho hT base xs hs hown B news hx hr h1 hbytes h63 hbase fun A' c' w' h2 h3 h4 h5=>hK _ _ (h A' c' w' h2 h3 h4 h5)
theorem jZ {ops:Array Oper} {o:Oper} {a:Act} {K:Act->World->Prop} {Q:Exit->Act->World->Prop} {E:Prop} (hw:Region.wanted o (yielded ops a.tmps)=true) (s x:Operand) (t:TypeId)
  (ho:o.op = .call { callee:=.builtin .append,args:=#[s,x],argTypes:=#[t,t] })
  {e:TypeId} {z:Value} {size bytes:Nat} (hT:Elt P t e z size bytes) (base:Nat)
  {A0:Option Addr} {n c0:Nat} (xs:List Value) (hs:a.eval s = .slice A0 n c0) (hown:w.ownsRow base e size (.slice A0 n c0) n xs)
  (B:Nat) {A:Option Addr} {m c:Nat} (news:List Value) (hx:a.eval x = .slice A m c) (hr:Rd w B size A m news) (h1:news.all Value.oneCell'=true)
  (h : ∀ A' c' w',w'.ownsRow base e size (.slice A' (n+m) c') (n+m) (xs++news)->Below base w w'->w.grownBy w' (Value.slice A0 n c0).ownBlock ->
   ((Value.slice A' (n+m) c').ownBlock=(Value.slice A0 n c0).ownBlock∨(Value.slice A' (n+m) c').ownBlock=some w.heap.size)->K (a.put o.dst (.slice A' (n+m) c')) w')
  (hbytes:(n+m) * bytes<=140737488355328:=by omega) (h63:n+m<=140737488355328:=by omega) (hbase:base<=w.heap.size:=by first | (simp;done) | (simp;omega) | omega) :
  if Region.wanted o (yielded ops a.tmps)=true then Oper.wp P o a w K Q else E:=by
 rw [if_pos hw];exact app_wp s x t ho hT base xs hs hown B news hx hr h1 hbytes h63 hbase h
end
theorem ql8 {B:Nat} {w w':World} (h:Below B w w':=by repeat (first | exact Le _ _ | assumption | refine Below.drew ?_ | refine Below.alloc ?_ L6 _ | refine Below.setCell ?_ L6 _)):Below B w w':=h
theorem qe {w:World} {xs:List Value} {e:TypeId} {b m size:Nat} (hb:w.heap.size=b) (hl:xs.length=m * size):Rd (w.alloc (.cells xs.toArray e)) (b+1) size (some ⟨b,0,none⟩) m xs:=by
 subst hb;refine Rd.some_ hl L0 fun j u hu=>?_
 have h1:(w.alloc (.cells xs.toArray e)).heap[w.heap.size]? = some (.cells xs.toArray e):=heap_alloc_new w _;rw [Lo,cell_of_row _ _ _ _ e (0,0) h1]
 simpa using hu
theorem qx {w:World} {xs:List Value} {e:TypeId} {b n size base:Nat} (hb:w.heap.size=b) (hl:xs.length=n * size) (hbase:base<=b) (hn:n<=140737488355328) :
  (w.alloc (.cells xs.toArray e)).ownsRow base e size (.slice (some ⟨b,0,none⟩) n n) n xs:=by
 subst hb;exact ⟨hl,.inr ⟨w.heap.size,n,xs.toArray,rfl,hbase,heap_alloc_new w _,Ld _,by unfold maxLen;omega,by simpa using hl,by rw [List.take_of_length_le (by simpa using Nat.le_of_eq hl)]⟩⟩
theorem qu (w:World) (cs:Array Value) (e:TypeId) (i:Nat):(w.alloc (.cells cs e)).cell? ⟨w.heap.size,i,none⟩=cs[i]? :=
 cell_of_row _ _ _ cs e (0,0) (heap_alloc_new w _)
def ql (e:TypeId) (size:Nat) (F:Value->Value) (w:World) (n:Nat) (xs:List Value) (en:Ending) (w':World):Prop :=
 ∃ A c,en = .returned (F (.slice A n c))/\w'.ownsRow w.heap.size e size (.slice A n c) n xs/\Below w.heap.size w w'
def Ow (w:World) (base:Nat) (e:TypeId) (size:Nat) (v:Value) (n:Nat) (xs:List Value):Prop:=∃ A c,v = .slice A n c/\w.ownsRow base e size (.slice A n c) n xs
def qh (v:Value) (w:World) (en:Ending) (w':World):Prop:=en = .returned v/\Below w.heap.size w w'
def Quiet (v:Value) (w:World) (en:Ending) (w':World):Prop:=en = .returned v/\∃ n,w'=w.drewN n
theorem Quiet.gives {v:Value} {w w':World} {en:Ending} (h:Quiet v w en w'):qh v w en w':=⟨h.1,by obtain ⟨n,rfl⟩:=h.2;exact qf (Le _ _)⟩
theorem jO (a b:ByteArray):(a.toList==b.toList)=decide (a=b):=by
 rw [ByteArray.toList_eq,ByteArray.toList_eq,Bool.eq_iff_iff,beq_iff_eq,decide_eq_true_iff]
 constructor
 ·intro h
  cases a;cases b
  simp only at h;rw [Array.toList_inj.1 h]
 ·rintro rfl;rfl
def sv (l:List ByteArray):List Value:=l.map Value.string
theorem sv_len (l:List ByteArray):(sv l).length=l.length:=by simp [sv]
theorem sv_one (l:List ByteArray):(sv l).all Value.oneCell'=true:=by
 rw [List.all_eq_true];intro u hu
 simp [sv] at hu
 obtain ⟨i,_,rfl⟩:=hu
 rfl
theorem yM (l:List ByteArray) (k:Nat) (h:k<l.length):(sv l)[k]? = some (.string l[k]):=by simp [sv,h]
theorem qp:Elt prog 27 9 (.string ⟨#[]⟩) 1 16 where
 und:=underlying27
 row:=by
  have h:(prog.info? 9).map (fun i=>(i.zero,i.size,i.bytes))=some (some (.string ⟨#[]⟩),1,16):=by kernel_rfl
  obtain ⟨i,hi,a,b,c⟩:=info_parts h;exact ⟨i,hi,a,b,c⟩
 zs:=rfl
 pos:=by decide
structure Near (B:Nat) (wb:World) where
 w:World
 h:Below B wb w
instance {B:Nat} {wb:World}:Nonempty (Near B wb):=⟨⟨wb,Le B wb⟩⟩
theorem qc {P:Program} {id:Nat} {Q:Exit->Act->World->Prop} {a:Act} {w:World} {l:List Oper} (B:Nat)
  (h:wpQuiet P l.toArray (fun w'=>∃ x:Near B w,w'=x.w) (fun a'=>∀ x:Near B w,Q .normal a' x.w) l a) (hm:P.follows .mixedOrders=true:=by kernel_rfl) (hB:Region.lexB .any l.toArray=true:=by kernel_rfl):(Code.region id l.toArray true).wp P Q a w :=
 wp_region_quiet (C:=fun w'=>∃ x:Near B w,w'=x.w) hm hB ⟨⟨w.drew,(Le B w).drew⟩,rfl⟩ (by
  have e:(fun a'=>∀ w',(∃ x:Near B w,w'=x.w)->Q .normal a' w')=fun a'=>∀ x:Near B w,Q .normal a' x.w:=funext fun a'=>propext ⟨fun h x=>h _ ⟨x,rfl⟩,fun h w' ⟨x,hx⟩=>by rw [hx];exact h x⟩
  rw [e]
  simpa using h)
theorem Calls.near {P:Program} {f:FuncId} {args:Array Value} {B:Nat} {wb:World} {v:Value} (x:Near B wb) (hB:B<=wb.heap.size) (h:Calls P f args x.w (qh v x.w)) :
  Calls P f args x.w fun e w''=>e = .returned v/\∃ y:Near B wb,w''=y.w :=
 h.mono fun _ w'' ⟨he,hb⟩=>⟨he,⟨w'',x.h.trans (hb.mono (Lj hB x.h.size))⟩,rfl⟩
end Go.Proofs.YtbogmeeijdaijaaGreatDoor
namespace Go.Proofs.YtbogmeeijdaijaaGreatDoor
def y8:List (Int × Int):=[(0x1100,0x115F),(0x2E80,0x303E),(0x3041,0x33FF),(0x3400,0x4DBF),(0x4E00,0x9FFF),(0xA000,0xA4CF),(0xAC00,0xD7A3),(0xF900,0xFAFF),(0xFE30,0xFE6F),(0xFF00,0xFF60),(0xFFE0,0xFFE6),(0x1F300,0x1F64F),(0x1F900,0x1F9FF),(0x20000,0x3FFFD)]
def qM:List (Int × Int):=[(0x0300,0x036F),(0x1AB0,0x1AFF),(0x1DC0,0x1DFF),(0x200B,0x200F),(0x20D0,0x20FF),(0xFE00,0xFE0F),(0xFE20,0xFE2F)]
def inT (t:List (Int × Int)) (r:Int):Bool:=t.any fun p=>decide (p.1<=r)&&decide (r<=p.2)
def zR (r:Int):Int:=if r<32∨(127<=r/\r<=159) then -1 else if inT qM r=true then 0 else if inT y8 r=true then 2 else 1
def qbT (t:List (Int × Int)):Prop:=t.Pairwise fun p q=>p.2<q.1
theorem qhf:qbT y8:=by unfold qbT y8;decide
theorem qhz:qbT qM:=by unfold qbT qM;decide
theorem wide_up : ∀ p∈y8,p.1<=p.2:=by unfold y8;decide
theorem mark_up : ∀ p∈qM,p.1<=p.2:=by unfold qM;decide
theorem tab_mono {t:List (Int × Int)} (ha:qbT t) (hu : ∀ p∈t,p.1<=p.2) {i j:Nat} (hij:i<=j) (hj:j<t.length):(t[i]'(by omega)).2<=t[j].2:=by
 rcases Nat.lt_or_ge i j with h | h
 ·have h1:=List.pairwise_iff_getElem.1 ha i j (by omega) hj h;have h2:=hu t[j] (List.getElem_mem hj)
  omega
 ·obtain rfl:i=j:=by omega
  exact Int.le_refl _
theorem qix (t:List (Int × Int)) (r:Int):inT t r=true↔∃ i,∃ h:i<t.length,t[i].1<=r/\r<=t[i].2:=by
 unfold inT;rw [List.any_eq_true]
 constructor
 ·rintro ⟨p,hp,h⟩;obtain ⟨i,hi,rfl⟩:=List.getElem_of_mem hp;simp only [Bool.and_eq_true,decide_eq_true_eq] at h;exact ⟨i,hi,h⟩
 ·rintro ⟨i,hi,h⟩;refine ⟨t[i],List.getElem_mem hi,?_⟩;simp only [Bool.and_eq_true,decide_eq_true_eq];exact h
theorem qiP {t:List (Int × Int)} (ha:qbT t) {r:Int} {k:Nat} (h1 : ∀ j (h:j<t.length),j<k->t[j].2<r) (h2 : ∀ j (h:j<t.length),k<=j->r<=t[j].2) (hk:k<=t.length) :
  inT t r=if h:k<t.length then decide (t[k].1<=r) else false:=by
 rw [Bool.eq_iff_iff,qix]
 constructor
 ·rintro ⟨i,hi,a,b⟩
  rcases Nat.lt_or_ge i k with c | c
  ·have:=h1 i hi c;omega
  ·have hkl:k<t.length:=by omega
   rw [dif_pos hkl,decide_eq_true_eq]
   rcases Nat.lt_or_ge k i with d | d
   ·have e1:=List.pairwise_iff_getElem.1 ha k i hkl hi d;have e2:=h2 k hkl (Nat.le_refl _)
    omega
   ·obtain rfl:i=k:=by omega
    exact a
 ·intro h
  by_cases hkl:k<t.length
  ·rw [dif_pos hkl,decide_eq_true_eq] at h;exact ⟨k,hkl,h,h2 k hkl (Nat.le_refl _)⟩
  ·rw [dif_neg hkl] at h
   cases h
structure US where
 v:Nat
 m:Nat
 lo:Nat
 hi:Nat
def zt (b:Nat):US :=
 ⟨if 0xC2<=b/\b<=0xDF then b % 32 else if 0xE0<=b/\b<=0xEF then b % 16 else if 0xF0<=b/\b<=0xF4 then b % 8 else 0,
  if 0xC2<=b/\b<=0xDF then 1 else if 0xE0<=b/\b<=0xEF then 2 else if 0xF0<=b/\b<=0xF4 then 3 else 0,
  if b=0xE0 then 0xA0 else if b=0xF0 then 0x90 else 0x80,
  if b=0xED then 0x9F else if b=0xF4 then 0x8F else 0xBF⟩
def qat (s:US) (b:Nat):Bool:=decide (0<s.m)&&decide (s.lo<=b)&&decide (b<=s.hi)
def jU (s:US) (b:Nat):US:=if qat s b=true then ⟨s.v * 64+b % 64,s.m-1,0x80,0xBF⟩ else zt b
def ku (s:US) (b:Nat):List Nat :=
 if qat s b=true then (if s.m=1 then [s.v * 64+b % 64] else [])
 else (if 0<s.m then [65533] else [])++(if b<128 then [b] else if (zt b).m=0 then [65533] else [])
def zJ:List Nat->US × List Nat->US × List Nat
 | [],x=>x
 | b::t,x=>zJ t (jU x.1 b,x.2++ku x.1 b)
def u0:US:=⟨0,0,0,0⟩
theorem qf0 : ∀ (l m:List Nat) (x:US × List Nat),zJ (l++m) x=zJ m (zJ l x)
 | [],_,_=>rfl
 | _::l,m,_=>qf0 l m _
def qs (l:List Nat):List Nat:=(zJ l (u0,[])).2
def vQ (r:Nat):List Nat :=
 if r<0x80 then [r] else if r<0x800 then [0xC0+r / 64,0x80+r % 64] else if r<0x10000 then [0xE0+r / 4096,0x80+r / 64 % 64,0x80+r % 64]
 else [0xF0+r / 262144,0x80+r / 4096 % 64,0x80+r / 64 % 64,0x80+r % 64]
def qR (r:Nat):Prop:=r<0xD800∨(0xE000<=r/\r<0x110000)
theorem qgy {b:Nat} (h:b<0xC2):(zt b).m=0:=by
 show (if 0xC2<=b/\b<=0xDF then 1 else if 0xE0<=b/\b<=0xEF then 2 else if 0xF0<=b/\b<=0xF4 then 3 else 0)=0
 rw [if_neg (by omega),if_neg (by omega),if_neg (by omega)]
theorem qgC {b:Nat} (h1:0xC2<=b) (h2:b<=0xDF):zt b=⟨b % 32,1,0x80,0xBF⟩:=by
 unfold zt;rw [if_pos ⟨h1,h2⟩,if_pos ⟨h1,h2⟩,if_neg (by omega),if_neg (by omega),if_neg (by omega),if_neg (by omega)]
theorem qdQ {b:Nat} (h1:0xE0<=b) (h2:b<=0xEF):zt b=⟨b % 16,2,if b=0xE0 then 0xA0 else 0x80,if b=0xED then 0x9F else 0xBF⟩:=by
 unfold zt;rw [if_neg (by omega),if_pos ⟨h1,h2⟩,if_neg (by omega),if_pos ⟨h1,h2⟩,if_neg (show ¬ b=0xF0 by omega),if_neg (show ¬ b=0xF4 by omega)]
theorem qeM {b:Nat} (h1:0xF0<=b) (h2:b<=0xF4):zt b=⟨b % 8,3,if b=0xF0 then 0x90 else 0x80,if b=0xF4 then 0x8F else 0xBF⟩:=by
 unfold zt;rw [if_neg (by omega),if_neg (by omega),if_pos ⟨h1,h2⟩,if_neg (by omega),if_neg (by omega),if_pos ⟨h1,h2⟩,if_neg (show ¬ b=0xE0 by omega),if_neg (show ¬ b=0xED by omega)]
theorem qav {s:US} (hs:s.m=0) (b:Nat):qat s b=false:=by simp [qat,hs]
theorem qeU {s:US} {b:Nat} (h0:0<s.m) (h1:s.lo<=b) (h2:b<=s.hi):qat s b=true:=by simp [qat,h0,h1,h2]
theorem qgi {s:US} (hs:s.m=0) {b:Nat} (h:b<128) (t out:List Nat):zJ (b::t) (s,out)=zJ t (zt b,out++[b]):=by
 have e1:jU s b=zt b:=by rw [jU,qav hs];rfl
 have e2:ku s b=[b]:=by rw [ku,qav hs,if_neg (by simp),if_neg (by omega),if_pos h];rfl
 show zJ t (jU s b,out++ku s b)=_
 rw [e1,e2]
theorem qbf {s x:US} (hs:s.m=0) {b:Nat} (h:128<=b) (e:zt b=x) (hm:x.m≠0) (t out:List Nat):zJ (b::t) (s,out)=zJ t (x,out):=by
 have e1:jU s b=x:=by rw [jU,qav hs];exact e
 have e2:ku s b=[]:=by rw [ku,qav hs,if_neg (by simp),if_neg (by omega),if_neg (by omega),e,if_neg hm];rfl
 show zJ t (jU s b,out++ku s b)=_
 rw [e1,e2,List.append_nil]
theorem qdc {s:US} {b:Nat} (h0:1<s.m) (h1:s.lo<=b) (h2:b<=s.hi) (t out:List Nat):zJ (b::t) (s,out)=zJ t (⟨s.v * 64+b % 64,s.m-1,0x80,0xBF⟩,out):=by
 have e0:qat s b=true:=qeU (by omega) h1 h2;have e1:jU s b=⟨s.v * 64+b % 64,s.m-1,0x80,0xBF⟩:=by rw [jU,e0];rfl
 have e2:ku s b=[]:=by rw [ku,e0,if_pos rfl,if_neg (by omega)]
 show zJ t (jU s b,out++ku s b)=_
 rw [e1,e2,List.append_nil]
theorem qbj {s:US} {b:Nat} (h0:s.m=1) (h1:s.lo<=b) (h2:b<=s.hi) (t out:List Nat):zJ (b::t) (s,out)=zJ t (⟨s.v * 64+b % 64,0,0x80,0xBF⟩,out++[s.v * 64+b % 64]):=by
 have e0:qat s b=true:=qeU (by omega) h1 h2;have e1:jU s b=⟨s.v * 64+b % 64,0,0x80,0xBF⟩:=by rw [jU,e0,h0];rfl
 have e2:ku s b=[s.v * 64+b % 64]:=by rw [ku,e0,if_pos rfl,if_pos h0]
 show zJ t (jU s b,out++ku s b)=_
 rw [e1,e2]
theorem uRun_enc {r:Nat} (h:qR r) (s:US) (hs:s.m=0) (out:List Nat) : ∃ s',zJ (vQ r) (s,out)=(s',out++[r])/\s'.m=0:=by
 unfold qR at h;unfold vQ
 split
 ·rename_i h1
  rw [qgi hs h1];exact ⟨_,rfl,qgy (by omega)⟩
 ·split
  ·rw [qbf hs (by omega) (qgC (b:=0xC0+r / 64) (by omega) (by omega)) (Nat.one_ne_zero),qbj rfl (by show 0x80<=_;omega) (by show _<=0xBF;omega)];refine ⟨⟨r,0,0x80,0xBF⟩,?_,rfl⟩
   show ((⟨(0xC0+r / 64) % 32 * 64+(0x80+r % 64) % 64,0,0x80,0xBF⟩,out++[(0xC0+r / 64) % 32 * 64+(0x80+r % 64) % 64]):US × List Nat)=_
   rw [show (0xC0+r / 64) % 32 * 64+(0x80+r % 64) % 64=r by omega]
  ·split
   ·have e:=qdQ (b:=0xE0+r / 4096) (by omega) (by omega);have hlo:(if 0xE0+r / 4096=0xE0 then 0xA0 else 0x80)<=0x80+r / 64 % 64:=by split <;> omega
    have hhi:0x80+r / 64 % 64<=(if 0xE0+r / 4096=0xED then 0x9F else 0xBF):=by split <;> omega
    generalize (if 0xE0+r / 4096=0xE0 then 0xA0 else 0x80)=lo at *
    generalize (if 0xE0+r / 4096=0xED then 0x9F else 0xBF)=hi at *
    rw [qbf hs (by omega) e (by show 2≠0;omega),qdc (by show 1<2;omega) hlo hhi,qbj rfl (by show 0x80<=_;omega) (by show _<=0xBF;omega)];refine ⟨⟨r,0,0x80,0xBF⟩,?_,rfl⟩
    show ((⟨((0xE0+r / 4096) % 16 * 64+(0x80+r / 64 % 64) % 64) * 64+(0x80+r % 64) % 64,0,0x80,0xBF⟩,out++[((0xE0+r / 4096) % 16 * 64+(0x80+r / 64 % 64) % 64) * 64+(0x80+r % 64) % 64]):US × List Nat)=_
    rw [show ((0xE0+r / 4096) % 16 * 64+(0x80+r / 64 % 64) % 64) * 64+(0x80+r % 64) % 64=r by omega]
   ·have e:=qeM (b:=0xF0+r / 262144) (by omega) (by omega);have hlo:(if 0xF0+r / 262144=0xF0 then 0x90 else 0x80)<=0x80+r / 4096 % 64:=by split <;> omega
    have hhi:0x80+r / 4096 % 64<=(if 0xF0+r / 262144=0xF4 then 0x8F else 0xBF):=by split <;> omega
    generalize (if 0xF0+r / 262144=0xF0 then 0x90 else 0x80)=lo at *
    generalize (if 0xF0+r / 262144=0xF4 then 0x8F else 0xBF)=hi at *
    rw [qbf hs (by omega) e (by show 3≠0;omega),qdc (by show 1<3;omega) hlo hhi,qdc (by show 1<2;omega) (by show 0x80<=_;omega) (by show _<=0xBF;omega),qbj rfl (by show 0x80<=_;omega) (by show _<=0xBF;omega)];refine ⟨⟨r,0,0x80,0xBF⟩,?_,rfl⟩
    show ((⟨(((0xF0+r / 262144) % 8 * 64+(0x80+r / 4096 % 64) % 64) * 64+(0x80+r / 64 % 64) % 64) * 64+(0x80+r % 64) % 64,0,0x80,0xBF⟩,out++[(((0xF0+r / 262144) % 8 * 64+(0x80+r / 4096 % 64) % 64) * 64+(0x80+r / 64 % 64) % 64) * 64+(0x80+r % 64) % 64]):US × List Nat)=_
    rw [show (((0xF0+r / 262144) % 8 * 64+(0x80+r / 4096 % 64) % 64) * 64+(0x80+r / 64 % 64) % 64) * 64+(0x80+r % 64) % 64=r by omega]
def zm (rs:List Nat):List Nat:=rs.flatMap vQ
theorem qcj : ∀ (rs:List Nat),(∀ r∈rs,qR r)->∀ (s:US),s.m=0->∀ out,∃ s',zJ (zm rs) (s,out)=(s',out++rs)/\s'.m=0
 | [],_,s,hs,out=>⟨s,by simp [zm,zJ],hs⟩
 | r::rs,h,s,hs,out=>by
  obtain ⟨s1,e1,h1⟩:=uRun_enc (h r (by simp)) s hs out;obtain ⟨s2,e2,h2⟩:=qcj rs (fun x hx=>h x (by simp [hx])) s1 h1 (out++[r]);refine ⟨s2,?_,h2⟩;have e:zm (r::rs)=vQ r++zm rs:=by simp [zm]
  rw [e,qf0,e1,e2]
  simp
theorem qbP {rs:List Nat} (h : ∀ r∈rs,qR r):qs (zm rs)=rs:=by
 obtain ⟨s,e,_⟩:=qcj rs h u0 rfl [];unfold qs;rw [e]
 rfl
theorem decN_enc {n b0 b1 b2 b3 r k:Nat} (h0:b0<256) (h1:b1<256) (h2:b2<256) (h3:b3<256) (hn:1<=n) (hd:Lib.decodeN n b0 b1 b2 b3=(r,k)) (hv : ¬ (r=65533/\k=1)) :
  qR r/\0<k/\k<=n/\k<=4/\vQ r=[b0,b1,b2,b3].take k:=by
 unfold Lib.decodeN at hd;unfold qR
 split at hd
 ·simp only [Prod.mk.injEq] at hd;obtain ⟨rfl,rfl⟩:=hd;refine ⟨by omega,by omega,by omega,by omega,?_⟩;rw [vQ,if_pos (by omega)]
  rfl
 ·split at hd
  ·split at hd
   ·simp only [Prod.mk.injEq] at hd;obtain ⟨rfl,rfl⟩:=hd;refine ⟨by omega,by omega,by omega,by omega,?_⟩;rw [vQ,if_neg (by omega),if_pos (by omega)];simp only [List.take_succ_cons,List.take_zero,List.cons.injEq,and_true]
    omega
   ·simp only [Prod.mk.injEq] at hd;exact absurd ⟨hd.1.symm,hd.2.symm⟩ hv
  ·split at hd
   ·split at hd
    ·simp only [Prod.mk.injEq] at hd;obtain ⟨rfl,rfl⟩:=hd;refine ⟨by omega,by omega,by omega,by omega,?_⟩;rw [vQ,if_neg (by omega),if_neg (by omega),if_pos (by omega)];simp only [List.take_succ_cons,List.take_zero,List.cons.injEq,and_true]
     omega
    ·simp only [Prod.mk.injEq] at hd;exact absurd ⟨hd.1.symm,hd.2.symm⟩ hv
   ·split at hd
    ·split at hd
     ·simp only [Prod.mk.injEq] at hd;obtain ⟨rfl,rfl⟩:=hd;refine ⟨by omega,by omega,by omega,by omega,?_⟩;rw [vQ,if_neg (by omega),if_neg (by omega),if_neg (by omega)];simp only [List.take_succ_cons,List.take_zero,List.cons.injEq,and_true]
      omega
     ·simp only [Prod.mk.injEq] at hd;exact absurd ⟨hd.1.symm,hd.2.symm⟩ hv
    ·simp only [Prod.mk.injEq] at hd;exact absurd ⟨hd.1.symm,hd.2.symm⟩ hv
def qB (s:ByteArray):List Nat:=s.data.toList.map UInt8.toNat
theorem zT (s:ByteArray):(qB s).length=s.size:=by simp [qB]
theorem qdL (s:ByteArray) (i:Nat) (h:i<s.size):(qB s)[i]'(by rw [zT];exact h)=(s.get! i).toNat:=by
 simp only [qB,List.getElem_map]
 congr 1
 exact (getElem!_pos s.data i h).symm
theorem dec_enc (s:ByteArray) (i:Nat) (hi:i<s.size) (hv : ¬ ((Utf8.decode s i).1=65533/\(Utf8.decode s i).2=1)) :
  qR (Utf8.decode s i).1/\0<(Utf8.decode s i).2/\i+(Utf8.decode s i).2<=s.size/\vQ (Utf8.decode s i).1=((qB s).drop i).take (Utf8.decode s i).2:=by
 rw [Lib.decode_at] at hv ⊢;generalize hD:Lib.decodeN (s.size-i) (s.get! i).toNat (s.get! (i+1)).toNat (s.get! (i+2)).toNat (s.get! (i+3)).toNat=p at *
 obtain ⟨r,k⟩:=p;obtain ⟨a,b,c,d,e⟩:=decN_enc (UInt8.toNat_lt _) (UInt8.toNat_lt _) (UInt8.toNat_lt _) (UInt8.toNat_lt _) (show 1<=s.size-i by omega) hD hv;simp only;refine ⟨a,b,by omega,?_⟩;rw [e]
 apply List.ext_getElem
 ·simp [zT];omega
 ·intro j h1 h2;have hj:j<k:=by simp at h1;omega
  rw [List.getElem_take,List.getElem_take,List.getElem_drop,qdL s (i+j) (by omega)];have hc:j=0∨j=1∨j=2∨j=3:=by omega
  rcases hc with rfl | rfl | rfl | rfl <;> rfl
def qaW (s:ByteArray):Nat->Nat->List Nat
 | 0,_=>[]
 | f+1,i=>if i<s.size then (Utf8.decode s i).1::qaW s f (i+(Utf8.decode s i).2) else []
def kK (s:ByteArray):Nat->Nat->Prop
 | 0,_=>True
 | f+1,i=>if i<s.size then ¬ ((Utf8.decode s i).1=65533/\(Utf8.decode s i).2=1)/\kK s f (i+(Utf8.decode s i).2) else True
theorem qbL (s:ByteArray) : ∀ (f i:Nat),s.size<=i+f->kK s f i->zm (qaW s f i)=(qB s).drop i/\∀ r∈qaW s f i,qR r
 | 0,i,hf,_=>⟨by rw [List.drop_of_length_le (by rw [zT];omega)];rfl,fun r h=>by cases h⟩
 | f+1,i,hf,hv=>by
  rw [qaW]
  by_cases hi:i<s.size
  ·rw [kK,if_pos hi] at hv;obtain ⟨a,b,c,d⟩:=dec_enc s i hi hv.1;obtain ⟨e1,e2⟩:=qbL s f (i+(Utf8.decode s i).2) (by omega) hv.2;rw [if_pos hi];refine ⟨?_,fun r h=>?_⟩
   ·have e : ∀ x t,zm (x::t)=vQ x++zm t:=fun x t=>by simp [zm]
    rw [e,e1,d,<- List.drop_drop,List.take_append_drop]
   ·rcases List.mem_cons.1 h with rfl | h
    ·exact a
    ·exact e2 r h
  ·rw [if_neg hi];exact ⟨by rw [List.drop_of_length_le (by rw [zT];omega)];rfl,fun r h=>by cases h⟩
theorem qgn (s:ByteArray) (hv:kK s s.size 0):qs (qB s)=qaW s s.size 0:=by
 obtain ⟨h1,h2⟩:=qbL s s.size 0 (by omega) hv;rw [List.drop_zero] at h1;rw [<- h1];exact qbP h2
structure Gl where
 text:ByteArray
 wide:Bool
 style:Int
instance:Inhabited Gl:=⟨⟨⟨#[]⟩,false,0⟩⟩
theorem Gl.ext_iff' {a b:Gl}:a=b↔(a.text.data.toList=b.text.data.toList/\a.wide=b.wide/\a.style=b.style):=by
 constructor
 ·rintro rfl;simp
 ·rintro ⟨h1,h2,h3⟩;obtain ⟨⟨⟨x⟩⟩,_,_⟩:=a;obtain ⟨⟨⟨y⟩⟩,_,_⟩:=b;simp only at h1 h2 h3;subst h1 h2 h3
  rfl
instance:DecidableEq Gl:=fun _ _=>decidable_of_iff _ Gl.ext_iff'.symm
def vg (c:Nat):Nat:=if 97<=c/\c<=122 then 1 else if 65<=c/\c<=90 then 2 else if 48<=c/\c<=57 then 3 else 0
def qd (g:Gl):Nat:=match g.text.data.toList with
 | [c]=>vg c.toNat
 | _=>0
def runK:List Gl->Nat->Int->Nat
 | [],_,_=>0
 | g::t,k,st=>if qd g=k/\g.style=st then runK t k st+1 else 0
def runE:List Gl->Gl->Nat->Nat
 | _,_,0=>0
 | [],_,_+1=>0
 | x::t,g,m+1=>if x=g then runE t g m+1 else 0
def qo (l:List Gl) (rep:Int):Nat:=match l with
 | []=>0
 | g::t =>
  if qd g=1∨qd g=3 then runK (g::t) (qd g) g.style
  else if qd g=2 then (if 1<runK (g::t) 2 g.style then runK (g::t) 2 g.style else 1+runK t 1 g.style)
  else if 0<rep/\rep<=(1+runE t g 131:Nat)/\(qs (qB g.text)).length=1 then 1+runE t g 131 else 1
end Go.Proofs.YtbogmeeijdaijaaGreatDoor
namespace Go.Proofs.YtbogmeeijdaijaaGreatDoor
open Go.Proofs.Tryz Go.RowKit
set_option maxRecDepth 20000
def ym (g:Gl):List Value:=[.string g.text,.bool g.wide,.int .i64 g.style]
def qi (l:List Gl):List Value:=l.flatMap ym
abbrev glV (g:Gl):Value:=.agg #[.string g.text,.bool g.wide,.int .i64 g.style]
theorem yU (g:Gl):(ym g).length=3:=rfl
theorem jf (g:Gl) (l:List Gl):qi (g::l)=ym g++qi l:=by simp [qi]
theorem kF (a b:List Gl):qi (a++b)=qi a++qi b:=by simp [qi]
theorem qbi : ∀ l:List Gl,(qi l).length=l.length * 3
 | []=>rfl
 | r::l=>by
  rw [jf,Lf,qbi l,yU,Lp]
  omega
theorem qcy : ∀ (l:List Gl) (i j:Nat),j<3->(qi l)[i * 3+j]? = l[i]?.bind fun r=>(ym r)[j]?
 | [],i,j,_=>by simp [qi]
 | r::l,0,j,h=>by
  rw [jf,Nat.zero_mul,Lo,List.getElem?_append_left (by rw [yU];exact h)]
  rfl
 | r::l,i+1,j,h=>by
  rw [jf,List.getElem?_append_right (by rw [yU];omega),yU,show (i+1) * 3+j-3=i * 3+j by omega,qcy l i j h]
  rfl
theorem kM (l:List Gl) (k:Nat):qi (l.take k)=(qi l).take (k * 3):=by
 induction l generalizing k with
 | nil=>simp [qi]
 | cons g t ih =>
  cases k with
  | zero=>simp [qi]
  | succ k=>rw [List.take_succ_cons,jf,jf,ih,show (k+1) * 3=(ym g).length+k * 3 by rw [yU];omega,List.take_length_add_append]
theorem qbO (l:List Gl) (k:Nat):qi (l.drop k)=(qi l).drop (k * 3):=by
 induction l generalizing k with
 | nil=>simp [qi]
 | cons g t ih =>
  cases k with
  | zero=>simp
  | succ k=>rw [List.drop_succ_cons,jf,ih,show (k+1) * 3=(ym g).length+k * 3 by rw [yU];omega,List.drop_length_add_append]
theorem qcY (l:List Gl):(qi l).all Value.oneCell'=true:=by
 rw [List.all_eq_true];intro u hu;rw [qi,List.mem_flatMap] at hu;obtain ⟨g,_,hu⟩:=hu;simp only [ym,List.mem_cons,List.not_mem_nil,or_false] at hu
 rcases hu with rfl | rfl | rfl <;> rfl
theorem jE {w:World} {B n:Nat} {A:Option Addr} {l:List Gl} (rd:Rd w B 3 A n (qi l)) {k:Nat} (hk:k<l.length) (hn:l.length=n) : ∃ b o,A=some ⟨b,o,none⟩/\b<B/\(w.cell? ⟨b,(o+k * 3),none⟩=some (.string l[k].text)/\w.cell? ⟨b,(o+k * 3)+1,none⟩=some (.bool l[k].wide)/\w.cell? ⟨b,(o+k * 3)+2,none⟩=some (.int .i64 l[k].style)):=by
 obtain ⟨b,o,e,hb,hc⟩:=rd.2 L0;have h : ∀ j,j<3->∀ u,(ym l[k])[j]? = some u->w.cell? ⟨b,o+k * 3+j,none⟩=some u:=fun j hj u hu=>by
  have:=hc (k * 3+j) u (by rw [qcy _ _ _ hj,List.getElem?_eq_getElem hk];exact hu)
  rwa [<- Nat.add_assoc] at this
 exact ⟨b,o,e,hb,h 0 L0 _ rfl,h 1 L0 _ rfl,h 2 L0 _ rfl⟩
theorem c3_below {w w':World} {B b o:Nat} {r:Gl} (h:(w.cell? ⟨b,o,none⟩=some (.string r.text)/\w.cell? ⟨b,o+1,none⟩=some (.bool r.wide)/\w.cell? ⟨b,o+2,none⟩=some (.int .i64 r.style))) (hb:Below B w w') (hB:b<B):(w'.cell? ⟨b,o,none⟩=some (.string r.text)/\w'.cell? ⟨b,o+1,none⟩=some (.bool r.wide)/\w'.cell? ⟨b,o+2,none⟩=some (.int .i64 r.style)):=by
 obtain ⟨h0,h1,h2⟩:=h;exact ⟨(hb.cell hB).trans h0,(hb.cell hB).trans h1,(hb.cell hB).trans h2⟩
theorem qeW {wb:World} {B b o:Nat} {r:Gl} (h:(wb.cell? ⟨b,o,none⟩=some (.string r.text)/\wb.cell? ⟨b,o+1,none⟩=some (.bool r.wide)/\wb.cell? ⟨b,o+2,none⟩=some (.int .i64 r.style))) (hB:b<B) : ∀ x:Near B wb,(x.w.cell? ⟨b,o,none⟩=some (.string r.text)/\x.w.cell? ⟨b,o+1,none⟩=some (.bool r.wide)/\x.w.cell? ⟨b,o+2,none⟩=some (.int .i64 r.style)):=fun x=>c3_below h x.h hB
theorem qa {P:Program} {c:Code} {Q:Exit->Act->World->Prop} {a:Act} {w:World} (F:World->Prop) (h:F w) (k : ∀ w',F w'->c.wp P Q a w'):c.wp P Q a w:=k w h
def GlBox (w:World) (t:ByteArray) (wd:Bool) (st:Int) (wx:World):Prop:=wx.cell? ⟨w.heap.size,0,none⟩=some (.string t)/\wx.cell? ⟨w.heap.size,1,none⟩=some (.bool wd)/\wx.cell? ⟨w.heap.size,2,none⟩=some (.int .i64 st)/\Below w.heap.size w wx/\w.heap.size+1<=wx.heap.size
theorem GlBox.new (w:World) (t:ByteArray) (wd:Bool) (st:Int) (ty:TypeId):GlBox w t wd st (w.alloc (.cells #[.string t,.bool wd,.int .i64 st] ty)):=⟨qu w _ _ 0,qu w _ _ 1,qu w _ _ 2,L5,by simp⟩
theorem GlBox.on {w wx wy:World} {t:ByteArray} {wd:Bool} {st:Int} (h:GlBox w t wd st wx) (hb:Below wx.heap.size wx wy):GlBox w t wd st wy:=by
 obtain ⟨h0,h1,h2,h3,h4⟩:=h;exact ⟨(hb.cell L7).trans h0,(hb.cell L7).trans h1,(hb.cell L7).trans h2,h3.trans (hb.mono L0),Lj h4 hb.size⟩
theorem qkp : (prog.fieldsOf 64).toList.map (fun f => (f.name == "_", f.type, f.offset)) = [(false, 9, 0), (false, 4, 1), (false, 3, 2)] := by kernel_rfl
theorem qiD (a b:Gl) (w:World):(Op.equalIn 10000 64 (glV a) (glV b)).run prog w = .ok (decide (a=b)) w:=by
 rw [run_equalIn_agg w 9999 _ _ _ (by kernel_rfl) (by kernel_rfl)];have h:=qkp;generalize (prog.fieldsOf 64).toList=fs at *
 have hl:fs.length=3:=by
  have:=congrArg List.length h;rw [Lq] at this;exact this
 match fs,hl,h with
 | [f0,f1,f2],_,h =>
  simp only [List.map_cons, List.map_nil, List.cons.injEq, Prod.mk.injEq, and_true] at h;obtain ⟨⟨n0, t0, o0⟩, ⟨n1, t1, o1⟩, ⟨n2, t2, o2⟩⟩ := h;have q : ∀ f : Field, (f.name == "_") = false -> f.name ≠ "_" := fun f h e => by rw [e] at h; simp at h
  have hi:=underlying3;have hs:=underlying9;have hb:=underlying4;simp only [Op.eqFields,if_pos (q f0 n0),if_pos (q f1 n1),if_pos (q f2 n2),t0,t1,t2,o0,o1,o2]
  simp [go_sem,part]
  have e:=@Gl.ext_iff' a b;rw [ByteArray.toList_eq,ByteArray.toList_eq]
  repeat' split
  all_goals simp_all
theorem eq_gl (a b:Gl) (w:World):(binOp .eql 64 (glV a) (glV b)).run prog w = .ok (.bool (decide (a=b))) w:=by
 rw [run_eql_struct,qiD]
 rfl
theorem neq_gl (a b:Gl) (w:World):(binOp .neq 64 (glV a) (glV b)).run prog w = .ok (.bool (!decide (a=b))) w:=by
 rw [run_neq_struct,qiD]
 rfl
theorem qa2 (a b:Gl) (op:BinOp) (x y:Operand) (w:World):(eqGuard op 64 x y (glV a) (glV b)).run prog w = .ok () w:=run_eqGuard_agg w op _ x y _ _ (by kernel_rfl)
theorem qbz:Elt prog 45 64 (.agg #[.string ⟨#[]⟩,.bool false,.int .i64 0]) 3 32 where
 und:=underlying45
 row:=by
  have h:(prog.info? 64).map (fun i=>(i.zero,i.size,i.bytes))=some (some (.agg #[.string ⟨#[]⟩,.bool false,.int .i64 0]),3,32):=by kernel_rfl
  obtain ⟨i,hi,a,b,c⟩:=info_parts h;exact ⟨i,hi,a,b,c⟩
 zs:=rfl
 pos:=by decide
end Go.Proofs.YtbogmeeijdaijaaGreatDoor
namespace Go.Proofs
open Go.Shelf
def Tryz.lays137_ren:Go.Shelf.Ren:=⟨fun | 137=>211 | 217=>215 | 266=>216 | n=>n,fun | 9=>9 | 5=>5 | 3=>3 | n=>n,fun | n=>n⟩
theorem Tryz.lays137:Go.Proofs.Lays.n137 Tryz.prog Tryz.lays137_ren:={
 mixed:=by kernel_rfl
 f137:=Tryz.func211.trans (congrArg some (by kernel_rfl))
 f217:=Tryz.func215.trans (congrArg some (by kernel_rfl))
 f266:=Tryz.func216.trans (congrArg some (by kernel_rfl))
 t3:=Tryz.underlying3
 a3:=Tryz.isAgg3
 z3:=Tryz.sizeOf3
 v3:=Tryz.zeroValue3
 t5:=Tryz.underlying5
 a5:=Tryz.isAgg5
 z5:=Tryz.sizeOf5
 v5:=Tryz.zeroValue5
 t9:=Tryz.underlying9
 a9:=Tryz.isAgg9
 z9:=Tryz.sizeOf9
 v9:=Tryz.zeroValue9 }
def Tryz.lays157_ren:Go.Shelf.Ren:=⟨fun | 157=>16 | 229=>30 | 199=>31 | 261=>56 | 311=>91 | 312=>92 | n=>n,fun | 9=>9 | 31=>27 | 3=>3 | 5=>5 | 4=>4 | 119=>67 | 0=>0 | 40=>69 | 152=>100 | 21=>21 | 154=>102 | 51=>103 | 141=>105 | 196=>131 | 193=>128 | 198=>134 | 49=>132 | 194=>129 | 201=>137 | 226=>158 | 46=>159 | 227=>160 | n=>n,fun | 0=>0 | 6=>1 | n=>n⟩
theorem Tryz.lays157:Go.Proofs.Lays.n157 Tryz.prog Tryz.lays157_ren:={
 mixed:=by kernel_rfl
 f157:=Tryz.func16.trans (congrArg some (by kernel_rfl))
 f199:=Tryz.func31.trans (congrArg some (by kernel_rfl))
 f229:=Tryz.func30.trans (congrArg some (by kernel_rfl))
 f261:=Tryz.func56.trans (congrArg some (by kernel_rfl))
 f311:=Tryz.func91.trans (congrArg some (by kernel_rfl))
 f312:=Tryz.func92.trans (congrArg some (by kernel_rfl))
 t0:=Tryz.underlying0
 a0:=Tryz.isAgg0
 z0:=Tryz.sizeOf0
 v0:=Tryz.zeroValue0
 t3:=Tryz.underlying3
 a3:=Tryz.isAgg3
 z3:=Tryz.sizeOf3
 v3:=Tryz.zeroValue3
 t4:=Tryz.underlying4
 a4:=Tryz.isAgg4
 z4:=Tryz.sizeOf4
 v4:=Tryz.zeroValue4
 t5:=Tryz.underlying5
 a5:=Tryz.isAgg5
 z5:=Tryz.sizeOf5
 v5:=Tryz.zeroValue5
 t9:=Tryz.underlying9
 a9:=Tryz.isAgg9
 z9:=Tryz.sizeOf9
 v9:=Tryz.zeroValue9
 t21:=Tryz.underlying21
 a21:=Tryz.isAgg21
 z21:=Tryz.sizeOf21
 v21:=Tryz.zeroValue21
 t31:=Tryz.underlying27
 a31:=Tryz.isAgg27
 z31:=Tryz.sizeOf27
 v31:=Tryz.zeroValue27
 t40:=Tryz.underlying69
 a40:=Tryz.isAgg69
 z40:=Tryz.sizeOf69
 v40:=Tryz.zeroValue69
 t46:=Tryz.underlying159
 a46:=Tryz.isAgg159
 z46:=Tryz.sizeOf159
 v46:=Tryz.zeroValue159
 t49:=Tryz.underlying132
 a49:=Tryz.isAgg132
 z49:=Tryz.sizeOf132
 v49:=Tryz.zeroValue132
 t51:=Tryz.underlying103
 a51:=Tryz.isAgg103
 z51:=Tryz.sizeOf103
 v51:=Tryz.zeroValue103
 t119:=Tryz.underlying67
 a119:=Tryz.isAgg67
 z119:=Tryz.sizeOf67
 t141:=Tryz.underlying105
 a141:=Tryz.isAgg105
 z141:=Tryz.sizeOf105
 v141:=Tryz.zeroValue105
 t152:=Tryz.underlying100
 a152:=Tryz.isAgg100
 z152:=Tryz.sizeOf100
 v152:=Tryz.zeroValue100
 t154:=Tryz.underlying102
 a154:=Tryz.isAgg102
 z154:=Tryz.sizeOf102
 v154:=Tryz.zeroValue102
 t193:=Tryz.underlying128
 a193:=Tryz.isAgg128
 z193:=Tryz.sizeOf128
 v193:=Tryz.zeroValue128
 t194:=Tryz.underlying129
 a194:=Tryz.isAgg129
 z194:=Tryz.sizeOf129
 v194:=Tryz.zeroValue129
 t196:=Tryz.underlying131
 a196:=Tryz.isAgg131
 z196:=Tryz.sizeOf131
 v196:=Tryz.zeroValue131
 t198:=Tryz.underlying134
 a198:=Tryz.isAgg134
 z198:=Tryz.sizeOf134
 v198:=Tryz.zeroValue134
 t201:=Tryz.underlying137
 a201:=Tryz.isAgg137
 z201:=Tryz.sizeOf137
 v201:=Tryz.zeroValue137
 t226:=Tryz.underlying158
 a226:=Tryz.isAgg158
 z226:=Tryz.sizeOf158
 v226:=Tryz.zeroValue158
 t227:=Tryz.underlying160
 a227:=Tryz.isAgg160
 z227:=Tryz.sizeOf160
 v227:=Tryz.zeroValue160
 g0:=by kernel_rfl
 g6:=by kernel_rfl }
open Go.RowKit in
theorem Tryz.strings_IndexByte (s:ByteArray) (c:Int) (w:World) :
  Calls Tryz.prog 211 #[.string s,.int .u8 c] w fun e w'=>e = .returned (.int .i64 (Lib.indexByte s.data.toList c.toNat.toUInt8))/\w'=w:=Any.strings_IndexByte Tryz.lays137 s c w
open Go.RowKit Go.Lib in
theorem Tryz.strings_Fields (s : ByteArray) (w : World) (hs : s.size < 4294967281) (hascii : ∀ (j : Nat) b, s.data.toList[j]? = some b -> b.toNat < 128) (htab : Lib.TabIs Tryz.prog w "strings.asciiSpace" .u8 Lib.asciiSpaceTab) :
  Calls Tryz.prog 16 #[.string s] w fun e w' =>
   e = .returned (.slice (some ⟨w.heap.size,0,none⟩) (Lib.fields s.data.toList).length (Lib.fields s.data.toList).length)/\w'=w.alloc (.cells ((Lib.fields s.data.toList).map fun l=>Value.string ⟨l.toArray⟩).toArray 9):=Any.strings_Fields Tryz.lays157 (by kernel_rfl) (by kernel_rfl) s w hs hascii htab
end Go.Proofs
namespace Go.Proofs.YtbogmeeijdaijaaGreatDoor
open Go.Proofs.Tryz Go.RowKit
set_option maxRecDepth 20000
def nb:Nat->ByteArray
 | 0=>⟨#[98,97,110,103]⟩
 | 1=>⟨#[113,117,111,116,101]⟩
 | 2=>⟨#[104,97,115,104]⟩
 | 3=>⟨#[100,111,108,108,97,114]⟩
 | 4=>⟨#[112,101,114,99,101,110,116]⟩
 | 5=>⟨#[97,109,112,101,114,115,97,110,100]⟩
 | 6=>⟨#[97,112,111,115,116,114,111,112,104,101]⟩
 | 7=>⟨#[111,112,101,110]⟩
 | 8=>⟨#[99,108,111,115,101]⟩
 | 9=>⟨#[115,116,97,114]⟩
 | 10=>⟨#[112,108,117,115]⟩
 | 11=>⟨#[99,111,109,109,97]⟩
 | 12=>⟨#[100,97,115,104]⟩
 | 13=>⟨#[100,111,116]⟩
 | 14=>⟨#[115,108,97,115,104]⟩
 | 15=>⟨#[99,111,108,111,110]⟩
 | 16=>⟨#[115,101,109,105,99,111,108,111,110]⟩
 | 17=>⟨#[108,101,115,115]⟩
 | 18=>⟨#[101,113,117,97,108,115]⟩
 | 19=>⟨#[103,114,101,97,116,101,114]⟩
 | 20=>⟨#[113,117,101,115,116,105,111,110]⟩
 | 21=>⟨#[97,116]⟩
 | 22=>⟨#[98,114,97,99,107,101,116]⟩
 | 23=>⟨#[98,97,99,107,115,108,97,115,104]⟩
 | 24=>⟨#[117,110,98,114,97,99,107,101,116]⟩
 | 25=>⟨#[99,97,114,101,116]⟩
 | 26=>⟨#[117,110,100,101,114,115,99,111,114,101]⟩
 | 27=>⟨#[98,97,99,107,113,117,111,116,101]⟩
 | 28=>⟨#[98,114,97,99,101]⟩
 | 29=>⟨#[98,97,114]⟩
 | 30=>⟨#[117,110,98,114,97,99,101]⟩
 | _=>⟨#[116,105,108,100,101]⟩
def namesB:ByteArray:=⟨#[98,97,110,103,32,113,117,111,116,101,32,104,97,115,104,32,100,111,108,108,97,114,32,112,101,114,99,101,110,116,32,97,109,112,101,114,115,97,110,100,32,97,112,111,115,116,114,111,112,104,101,32,111,112,101,110,32,99,108,111,115,101,32,115,116,97,114,32,112,108,117,115,32,99,111,109,109,97,32,100,97,115,104,32,100,111,116,32,115,108,97,115,104,32,99,111,108,111,110,32,115,101,109,105,99,111,108,111,110,32,108,101,115,115,32,101,113,117,97,108,115,32,103,114,101,97,116,101,114,32,113,117,101,115,116,105,111,110,32,97,116,32,98,114,97,99,107,101,116,32,98,97,99,107,115,108,97,115,104,32,117,110,98,114,97,99,107,101,116,32,99,97,114,101,116,32,117,110,100,101,114,115,99,111,114,101,32,98,97,99,107,113,117,111,116,101,32,98,114,97,99,101,32,98,97,114,32,117,110,98,114,97,99,101,32,116,105,108,100,101,32]⟩
def signsB:ByteArray:=⟨#[33,34,35,36,37,38,39,40,41,42,43,44,45,46,47,58,59,60,61,62,63,64,91,92,93,94,95,96,123,124,125,126]⟩
def nmL:List Value:=(List.range 32).map fun i=>.string (nb i)
def nmA:Array Value:=nmL.toArray
set_option maxRecDepth 100000 in
theorem qja:Lib.fields namesB.data.toList=(List.range 32).map fun i=>(nb i).data.toList:=by decide +kernel
theorem qdF (l:List UInt8) (h:l.all (fun b=>decide (b.toNat<128))=true) : ∀ (j:Nat) b,l[j]? = some b->b.toNat<128:=by
 intro j b hb;have:=List.all_eq_true.1 h b (List.mem_of_getElem? hb)
 simpa using this
theorem nm_all:(namesB.data.toList.all fun b=>decide (b.toNat<128))=true:=by decide +kernel
theorem nm_ascii : ∀ (j:Nat) b,namesB.data.toList[j]? = some b->b.toNat<128:=qdF _ nm_all
theorem nm_size0:namesB.size<=1000:=by decide +kernel
theorem nm_size:namesB.size<4294967281:=Nat.lt_of_le_of_lt nm_size0 L0
def Sp (w : World) : Prop := Lib.TabIs prog w "strings.asciiSpace" .u8 Lib.asciiSpaceTab
theorem gSpace : prog.globalNamed "strings.asciiSpace" = some 0 := by kernel_rfl
theorem Sp.below {w w':World} {B:Nat} (h:Sp w) (hb:Below B w w') (hB:w.heap.size<=B):Sp w':=by
 have hl:0<w.heap.size:=by
  have hc:=h.cell gSpace 0 L4
  rcases Nat.lt_or_ge 0 w.heap.size with hl | hl
  ·exact hl
  ·unfold World.cell? at hc;rw [Array.getElem?_eq_none hl] at hc
   cases hc
 exact var?_below hb gSpace L0 h
theorem Sp.drew {w:World} (h:Sp w):Sp w.drew:=h
theorem qc6:(prog.info? 215).map (·.size)=some 32:=by kernel_rfl
theorem nmL_len:nmL.length=32:=rfl
theorem qij:nmA.all (·.oneCell')=true:=by
 rw [Array.all_eq_true_iff_forall_mem];intro v hv
 simp [nmA,nmL] at hv
 obtain ⟨i,_,rfl⟩:=hv
 rfl
theorem nmL_one : ∀ v∈nmL,v.oneCell'=true:=by
 intro v hv
 simp [nmL] at hv
 obtain ⟨i,_,rfl⟩:=hv
 rfl
theorem infoStr:(prog.info? 9).map (·.size)=some 1:=by kernel_rfl
theorem qg8 (z:List Value) (h:z.length=32):splice z 0 nmL=nmL:=by
 unfold splice
 simp [nmL,h]
theorem nm_cells {w:World} {b j:Nat} {v:Value} (hb:w.heap.size=b) (hv:nmL[j]? = some v):(w.alloc (.cells nmA 9)).cell? ((⟨b,0,none⟩:Addr).add j)=some v:=by
 subst hb;rw [vl,Lo,qu]
 simpa [nmA] using hv
set_option maxRecDepth 100000 in
theorem split (w:World) (hs:Sp w):Calls prog 174 #[] w (qh (.agg nmA) w):=by
 have HF:Hid (∀ w,Sp w->Calls prog 16 #[.string namesB] w fun e w'=>e = .returned (.slice (some ⟨w.heap.size,0,none⟩) 32 32)/\w'=w.alloc (.cells nmA 9)):=Lh fun w hs=>by
  have:=Tryz.strings_Fields namesB w nm_size nm_ascii hs;rw [qja] at this;exact this
 have HS:=Lh hs;clear hs
 go_enter func174,ntmps174
 go_wp2_with fail
 go_region_law (first
  | (go_simp;go_at_call 16;refine (HF.out _ (HS.out.below (B:=w.heap.size) ql8 (Ld _))).mono ?_;rintro e w1 ⟨rfl,rfl⟩)
  | (refine step_copy_splice rfl _ _ 27 27 rfl 9 underlying27 infoStr (some ⟨w.heap.size+1,0,none⟩) (some ⟨w.heap.size+1+1,0,none⟩) 32 32 32 32 rfl rfl (w.heap.size+1) 0 _ 215 (by exact (Blk.new_ L1).alloc _) nmL rfl (fun _=>⟨rfl,_,rfl,fun j v hv=>by exact nm_cells L1 hv⟩) (by simp [nmL]) nmL_one (w.heap.size+1) _ (Le _ _) (Ld _) ?_;intro w2 hcell hbel2))
 have hc1:w2.heap[w.heap.size+1]? = some (.cells nmA 215):=by
  have:=hcell.out;rw [qg8 _ (by rfl)] at this;exact this
 have hb2:Below w.heap.size w w2:=by
  refine Below.trans (b:=_) ?_ (hbel2.mono L0);exact ql8
 have hc0:w2.heap[w.heap.size]? = some (.cells (List.replicate 32 (Value.string ⟨#[]⟩)).toArray 215):=by
  refine (hbel2.block _ L0).trans ?_;exact ((Blk.new_ rfl).alloc _).alloc _
 clear hcell;have HC1:=Lh hc1;have HC0:=Lh hc0;clear hc1 hc0
 go_wp2_with (first
  | (refine wpList_load_row rfl 215 _ rfl (w.heap.size+1) rfl 215 nmA (0,0) _ HC1.out underlying215 rfl qc6 ?_)
  | (refine wpList_store_row rfl 215 _ _ rfl w.heap.size nmA rfl rfl 215 _ HC0.out qc6 rfl qij ?_))
 have hfin:(w2.setRow w.heap.size nmA).heap[w.heap.size]? = some (.cells nmA 215):=by
  simp [World.setRow,Array.getElem?_modify,HC0.out]
 refine bodyPost_ret (results_cell_row rfl _ _ w.heap.size 215 nmA (0,0) _ rfl hfin underlying215 rfl qc6) rfl ⟨rfl,below_setRow hb2 (Ld _) _⟩
end Go.Proofs.YtbogmeeijdaijaaGreatDoor
