/- Joined: Kit, Each, Ut1. -/
import Derived.Test.YticbpkghcglgkaaGreatDoorRows
import Derived.Below
import Derived.Laws.OwnMore
import Derived.Deep.AppendLies
import Derived.Deep.Draws
import Derived.Deep.OwnRows
import Derived.Maps.AppendAt
import Derived.RegionTactic
import Derived.OwnWalk
import Derived.WalkKit
import Derived.WalkSpells
import Derived.WalkLawsBesides
import Derived.Lib.Hide
import Derived.Deep.DeepCutAuto
import Derived.Deep.CutBlock
import Derived.Deep.RegionLaw
import Derived.Deep.RegionHeld3
import Derived.Deep.QuietTactic
import Derived.BigQuiet
import Derived.Deep.LoopGhost
import Derived.Deep.DeepFit
import Derived.Deep.DeepMust
import Derived.Lib.Small
set_option linter.unusedVariables false
set_option linter.unusedSimpArgs false
set_option linter.unnecessarySimpa false
namespace Go.Proofs.YticbpkghcglgkaaGreatDoor
open Go.Proofs.Tryz Go.RowKit
theorem Lh {p:Prop} (h:p):Hid p:=Lib.hid h
theorem La {α:Type _} {xs:List α} {i:Nat}:xs.toArray[i]? = xs[i]?:=List.getElem?_toArray
theorem Lb {α:Type _} {a:α} {l:List α}:(a::l)[0]? = some a:=List.getElem?_cons_zero
theorem Lc {α:Type _} {a:α} {l:List α} {i:Nat}:(a::l)[i+1]? = l[i]?:=List.getElem?_cons_succ
theorem qbC (a:Addr) (i j:Nat):(a.add i).add j=a.add (i+j):=by
 unfold Addr.add
 by_cases hi:i=0 <;> by_cases hj:j=0 <;> simp [hi,hj,Nat.add_assoc]
theorem vl (b o i:Nat):(Addr.mk b o none).add i=⟨b,o+i,none⟩:=by
 unfold Addr.add
 by_cases hi:i=0 <;> simp [hi]
def Rd (w:World) (B size:Nat) (A:Option Addr) (n:Nat) (xs:List Value):Prop :=
 xs.length=n * size/\(0<n->∃ b o,A=some ⟨b,o,none⟩/\b<B/\∀ j u,xs[j]? = some u->w.cell? ⟨b,o+j,none⟩=some u)
section
variable {w w' : World} {B B' size n : Nat} {A : Option Addr} {xs : List Value}
theorem Rd.none_:Rd w B size A 0 []:=⟨by simp,fun h=>absurd h (by omega)⟩
theorem Rd.at_ {k:Nat} (h:Rd w B 1 A n xs) (hk:k<n) : ∃ b o,A=some ⟨b,o,none⟩/\b<B/\w.cell? ⟨b,o+k,none⟩=xs[k]?:=by
 obtain ⟨b,o,e,hb,hc⟩:=h.2 (by omega)
 have hl:k<xs.length:=by have:=h.1;omega
 exact ⟨b,o,e,hb,by rw [hc k _ (List.getElem?_eq_getElem hl),List.getElem?_eq_getElem hl]⟩
theorem Rd.form {a:Addr} (h:Rd w B size (some a) n xs) (hn:0<n):a.spot=none/\a.block<B/\∀ j u,xs[j]? = some u->w.cell? ⟨a.block,a.off+j,none⟩=some u:=by
 obtain ⟨b,o,e,hb,hc⟩:=h.2 hn
 injection e with e
 subst e
 exact ⟨rfl,hb,hc⟩
theorem Rd.keep (h:Rd w B size A n xs) (hk : ∀ p:Addr,p.block<B->w'.cell? p=w.cell? p):Rd w' B size A n xs :=
 ⟨h.1,fun hn=>by
  obtain ⟨b,o,e,hb,hc⟩:=h.2 hn
  exact ⟨b,o,e,hb,fun j u hu=>(hk _ hb).trans (hc j u hu)⟩⟩
theorem Rd.more (h:Rd w B size A n xs) (hB:B<=B'):Rd w B' size A n xs :=
 ⟨h.1,fun hn=>by
  obtain ⟨b,o,e,hb,hc⟩:=h.2 hn
  exact ⟨b,o,e,by omega,hc⟩⟩
theorem Rd.below (h:Rd w B size A n xs) (hb:Below B w w'):Rd w' B size A n xs:=h.keep fun _ hp=>hb.cell hp
theorem Rd.grown (h:Rd w B size A n xs) {row:Option Nat} (hg:w.grownBy w' row) (hB:B<=w.heap.size) (hr : ∀ b o,A=some ⟨b,o,none⟩->row≠some b):Rd w' B size A n xs :=
 ⟨h.1,fun hn=>by
  obtain ⟨b,o,e,hb,hc⟩:=h.2 hn
  exact ⟨b,o,e,hb,fun j u hu=>(World.cell?_of_block (a:=⟨b,o+j,none⟩) (hg.block b (by omega) (fun e'=>hr b o e e'.symm))).trans (hc j u hu)⟩⟩
theorem Rd.take (h:Rd w B size A n xs) {k:Nat} (hk:k<=n):Rd w B size A k (xs.take (k * size)):=by
 refine ⟨by rw [List.length_take,h.1];exact Nat.min_eq_left (Nat.mul_le_mul_right _ hk),fun h0=>?_⟩
 obtain ⟨b,o,e,hb,hc⟩:=h.2 (by omega)
 refine ⟨b,o,e,hb,fun j u hu=>hc j u ?_⟩
 rw [List.getElem?_take] at hu
 split at hu
 ·exact hu
 ·cases hu
theorem Rd.of_own {base:Nat} {e:TypeId} {c:Nat} (h:w.ownsRow base e size (.slice A n c) n xs):Rd w w.heap.size size A n xs:=by
 refine ⟨h.1,fun hn=>?_⟩
 obtain ⟨g,cap,hv,_,hlt⟩:=h.form hn
 have hA:A=some ⟨g,0,none⟩:=by injection hv
 subst hA
 refine ⟨_,_,rfl,hlt,fun j u hu=>?_⟩
 have:=h.cells (g:=g) rfl j u hu
 rwa [vl] at this
end
theorem qb {w w':World} {base size n:Nat} {e:TypeId} {v:Value} {xs:List Value} (h:w.ownsRow base e size v n xs) (hb:Below w.heap.size w w'):w'.ownsRow base e size v n xs :=
 h.kept (row:=none) ⟨hb.os,hb.tape,hb.output,hb.size,fun k hk _=>hb.block k hk⟩ (by cases v.ownBlock <;> simp)
theorem zY (w:World) (base:Nat) (e:TypeId) (size:Nat):w.ownsRow base e size (.slice none 0 0) 0 []:=World.ownsRow_nil w base e size
theorem qt {w:World} {base base' size n:Nat} {e:TypeId} {v:Value} {xs:List Value} (h:w.ownsRow base e size v n xs) (hb:base'<=base):w.ownsRow base' e size v n xs:=by
 refine ⟨h.1,?_⟩
 rcases h.2 with h0 | ⟨g,cap,cur,rfl,h1,h2,h3⟩
 ·exact .inl h0
 ·exact .inr ⟨g,cap,cur,rfl,by omega,h2,h3⟩
def Blk (w:World) (g:Nat) (t:TypeId) (cs:Array Value):Prop:=w.heap[g]? = some (.cells cs t (0,0))
section
variable {w w' : World} {g : Nat} {t : TypeId} {cs : Array Value}
theorem Blk.lt (h:Blk w g t cs):g<w.heap.size:=by
 rcases Nat.lt_or_ge g w.heap.size with hlt | hge
 ·exact hlt
 ·unfold Blk at h;rw [Array.getElem?_eq_none hge] at h;cases h
theorem Blk.cell (h:Blk w g t cs) (i:Nat):w.cell? ⟨g,i,none⟩=cs[i]?:=cell_of_row w g i cs t (0,0) h
theorem Blk.new_ {w:World} {t:TypeId} {cs:Array Value} {g:Nat} (h:w.heap.size=g):Blk (w.alloc (.cells cs t)) g t cs:=by subst h;exact heap_alloc_new w _
theorem Blk.drew (h:Blk w g t cs):Blk w.drew g t cs:=h
theorem Blk.drewN (h:Blk w g t cs) (n:Nat):Blk (w.drewN n) g t cs:=h
theorem Blk.alloc (h:Blk w g t cs) (o:Obj):Blk (w.alloc o) g t cs:=(Below.heap_alloc w o g h.lt).trans h
theorem Blk.set_ (h:Blk w g t cs) (i:Nat) (u:Value):Blk (w.setCell ⟨g,i,none⟩ u) g t (cs.setIfInBounds i u):=by
 unfold Blk at h ⊢
 simp [World.setCell,Array.getElem?_modify,h]
theorem Blk.far (h:Blk w g t cs) {p:Addr} (hp:g≠p.block) (u:Value):Blk (w.setCell p u) g t cs:=(Below.heap_setCell w p u g hp).trans h
theorem Blk.below {B:Nat} (h:Blk w g t cs) (hb:Below B w w') (hg:g<B):Blk w' g t cs:=(hb.block g hg).trans h
theorem Blk.grown {row:Option Nat} (h:Blk w g t cs) (hb:w.grownBy w' row) (hg:some g≠row):Blk w' g t cs:=(hb.block g h.lt hg).trans h
end
structure Elt (P:Program) (t e:TypeId) (z:Value) (size bytes:Nat):Prop where
 und:P.underlying t=some (.slice e)
 row : ∃ i,P.info? e=some i/\i.zero=some z/\i.size=size/\i.bytes=bytes
 zs:z.cells.size=size
 pos:0<size
section
variable {P : Program} {w : World}
end
theorem qu (w:World) (cs:Array Value) (e:TypeId) (i:Nat):(w.alloc (.cells cs e)).cell? ⟨w.heap.size,i,none⟩=cs[i]? :=
 cell_of_row _ _ _ cs e (0,0) (heap_alloc_new w _)
def qh (v:Value) (w:World) (en:Ending) (w':World):Prop:=en = .returned v/\Below w.heap.size w w'
def Quiet (v:Value) (w:World) (en:Ending) (w':World):Prop:=en = .returned v/\∃ n,w'=w.drewN n
theorem jO (a b:ByteArray):(a.toList==b.toList)=decide (a=b):=by
 rw [ByteArray.toList_eq,ByteArray.toList_eq,Bool.eq_iff_iff,beq_iff_eq,decide_eq_true_iff]
 constructor
 ·intro h
  cases a;cases b
  simp only at h
  rw [Array.toList_inj.1 h]
 ·rintro rfl;rfl
def sv (l:List ByteArray):List Value:=l.map Value.string
theorem sv_len (l:List ByteArray):(sv l).length=l.length:=by simp [sv]
theorem yM (l:List ByteArray) (k:Nat) (h:k<l.length):(sv l)[k]? = some (.string l[k]):=by simp [sv,h]
section
variable {P : Program}
def EachOp (P:Program) (V:Nat->Value->World->Prop) (W:World->Prop) (T:World->World->Prop) (Q:Exit->Act->World->Prop) (l:List Oper) (a:Act):List Oper->Nat->Prop
 | [],_=>True
 | o::rest,i=>(∀ (a':Act) (w':World),W w'->a'.tmps.size=a.tmps.size->(∀ s,(l.filterMap (·.dst)).contains s=false->a'.tmps.getD s undef=a.tmps.getD s undef) ->
   (∀ e∈o.after,Region.binds .any e=true->∀ oe d,l[e.on]? = some oe->oe.dst=some d->V e.on (a'.tmps.getD d undef) w') ->
   if Region.wanted o (yielded l.toArray a'.tmps)=true then o.wp P a' w' (fun a'' w''=>∃ v,a''=a'.put o.dst v/\V i v w''/\W w''/\T w' w'') Q else V i undef w')/\EachOp P V W T Q l a rest (i+1)
theorem EachOp.at_ {V:Nat->Value->World->Prop} {W:World->Prop} {T:World->World->Prop} {Q:Exit->Act->World->Prop} {l:List Oper} {a:Act} : ∀ (r:List Oper) (k i:Nat) (o:Oper),EachOp P V W T Q l a r k->r[i]? = some o ->
  (∀ (a':Act) (w':World),W w'->a'.tmps.size=a.tmps.size->(∀ s,(l.filterMap (·.dst)).contains s=false->a'.tmps.getD s undef=a.tmps.getD s undef) ->
   (∀ e∈o.after,Region.binds .any e=true->∀ oe d,l[e.on]? = some oe->oe.dst=some d->V e.on (a'.tmps.getD d undef) w') ->
   if Region.wanted o (yielded l.toArray a'.tmps)=true then o.wp P a' w' (fun a'' w''=>∃ v,a''=a'.put o.dst v/\V (k+i) v w''/\W w''/\T w' w'') Q else V (k+i) undef w')
 | [],_,_,_,_,h=>by cases h
 | o::r,k,0,o',h,hi=>by
  obtain rfl:o=o':=by simpa using hi
  exact h.1
 | o::r,k,i+1,o',h,hi=>by
  have:=EachOp.at_ r (k+1) i o' h.2 (by simpa using hi)
  rwa [show k+1+i=k+(i+1) by omega] at this
end
end Go.Proofs.YticbpkghcglgkaaGreatDoor
namespace Go.Proofs.YticbpkghcglgkaaGreatDoor
def y8:List (Int × Int):=[(0x1100,0x115F),(0x2E80,0x303E),(0x3041,0x33FF),(0x3400,0x4DBF),(0x4E00,0x9FFF),(0xA000,0xA4CF),(0xAC00,0xD7A3),(0xF900,0xFAFF),(0xFE30,0xFE6F),(0xFF00,0xFF60),(0xFFE0,0xFFE6),(0x1F300,0x1F64F),(0x1F900,0x1F9FF),(0x20000,0x3FFFD)]
def qM:List (Int × Int):=[(0x0300,0x036F),(0x1AB0,0x1AFF),(0x1DC0,0x1DFF),(0x200B,0x200F),(0x20D0,0x20FF),(0xFE00,0xFE0F),(0xFE20,0xFE2F)]
def inT (t:List (Int × Int)) (r:Int):Bool:=t.any fun p=>decide (p.1<=r)&&decide (r<=p.2)
def zR (r:Int):Int:=if r<32∨(127<=r/\r<=159) then -1 else if inT qM r=true then 0 else if inT y8 r=true then 2 else 1
structure US where
 v:Nat
 m:Nat
 lo:Nat
 hi:Nat
def zt (b:Nat):US :=
 ⟨if 0xC2<=b/\b<=0xDF then b % 32 else if 0xE0<=b/\b<=0xEF then b % 16 else if 0xF0<=b/\b<=0xF4 then b % 8 else 0,
  if 0xC2<=b/\b<=0xDF then 1 else if 0xE0<=b/\b<=0xEF then 2 else if 0xF0<=b/\b<=0xF4 then 3 else 0,
  if b=0xE0 then 0xA0 else if b=0xF0 then 0x90 else 0x80,
  if b=0xED then 0x9F else if b=0xF4 then 0x8F else 0xBF⟩
def qat (s:US) (b:Nat):Bool:=decide (0<s.m)&&decide (s.lo<=b)&&decide (b<=s.hi)
def jU (s:US) (b:Nat):US:=if qat s b=true then ⟨s.v * 64+b % 64,s.m-1,0x80,0xBF⟩ else zt b
def ku (s:US) (b:Nat):List Nat :=
 if qat s b=true then (if s.m=1 then [s.v * 64+b % 64] else [])
 else (if 0<s.m then [65533] else [])++(if b<128 then [b] else if (zt b).m=0 then [65533] else [])
def zJ:List Nat->US × List Nat->US × List Nat
 | [],x=>x
 | b::t,x=>zJ t (jU x.1 b,x.2++ku x.1 b)
def u0:US:=⟨0,0,0,0⟩
def qs (l:List Nat):List Nat:=(zJ l (u0,[])).2
def vQ (r:Nat):List Nat :=
 if r<0x80 then [r] else if r<0x800 then [0xC0+r / 64,0x80+r % 64] else if r<0x10000 then [0xE0+r / 4096,0x80+r / 64 % 64,0x80+r % 64]
 else [0xF0+r / 262144,0x80+r / 4096 % 64,0x80+r / 64 % 64,0x80+r % 64]
def qR (r:Nat):Prop:=r<0xD800∨(0xE000<=r/\r<0x110000)
theorem qgC {b:Nat} (h1:0xC2<=b) (h2:b<=0xDF):zt b=⟨b % 32,1,0x80,0xBF⟩:=by
 unfold zt
 rw [if_pos ⟨h1,h2⟩,if_pos ⟨h1,h2⟩,if_neg (by omega),if_neg (by omega),if_neg (by omega),if_neg (by omega)]
theorem qdQ {b:Nat} (h1:0xE0<=b) (h2:b<=0xEF):zt b=⟨b % 16,2,if b=0xE0 then 0xA0 else 0x80,if b=0xED then 0x9F else 0xBF⟩:=by
 unfold zt
 rw [if_neg (by omega),if_pos ⟨h1,h2⟩,if_neg (by omega),if_pos ⟨h1,h2⟩,if_neg (show ¬ b=0xF0 by omega),if_neg (show ¬ b=0xF4 by omega)]
theorem qeM {b:Nat} (h1:0xF0<=b) (h2:b<=0xF4):zt b=⟨b % 8,3,if b=0xF0 then 0x90 else 0x80,if b=0xF4 then 0x8F else 0xBF⟩:=by
 unfold zt
 rw [if_neg (by omega),if_neg (by omega),if_pos ⟨h1,h2⟩,if_neg (by omega),if_neg (by omega),if_pos ⟨h1,h2⟩,if_neg (show ¬ b=0xE0 by omega),if_neg (show ¬ b=0xED by omega)]
def zm (rs:List Nat):List Nat:=rs.flatMap vQ
end Go.Proofs.YticbpkghcglgkaaGreatDoor
