/- Joined: Rp1, Rp3, Rp4, Lvl, Lvm. -/
import Derived.BigRegion
import Derived.Laws.EntriesVeiled
import Derived.Test.YticbpkghcglgkaaGreatDoorVAV
import Derived.Test.YticbpkghcglgkaaGreatDoorVAZ
import Derived.Test.YticbpkghcglgkaaGreatDoorVBO
set_option linter.unusedVariables false
set_option linter.unusedSimpArgs false
set_option linter.unnecessarySimpa false
namespace Go.Proofs.YticbpkghcglgkaaGreatDoor
open Go.Proofs.Tryz Go.RowKit
set_option maxRecDepth 20000
def raN (s:ByteArray) (j:Nat):List Nat:=((qB s).take j).map (fun b=>b-32)++(qB s).drop j
theorem qie (s:ByteArray) (j:Nat):(raN s j).length=s.size:=by
 unfold raN
 rw [List.length_append,List.length_map,List.length_take,List.length_drop,zT]
 omega
theorem qc9 (s:ByteArray) (j i:Nat) (h:i<s.size):(raN s j)[i]'(by rw [qie];exact h)=if i<j then (qB s)[i]'(by rw [zT];exact h)-32 else (qB s)[i]'(by rw [zT];exact h):=by
 unfold raN
 rw [List.getElem_append]
 by_cases hi:i<j
 ·rw [if_pos hi,dif_pos (by rw [List.length_map,List.length_take,zT];omega)]
  simp
 ·rw [if_neg hi,dif_neg (by rw [List.length_map,List.length_take,zT];omega)]
  simp only [List.length_map,List.length_take,zT,List.getElem_drop]
  congr 1
  omega
def RaS (w:World) (s:ByteArray) (j:Nat) (wr:World):Prop :=
 (∀ i (h:i<s.size),wr.cell? ⟨w.heap.size,i,none⟩=some (.int .u8 ((raN s j)[i]'(by rw [qie];exact h):Nat))/\wr.frozen? ⟨w.heap.size,i,none⟩=false)/\Below w.heap.size w wr
theorem RaS.first (w:World) (s:ByteArray):RaS w s 0 (w.drew.alloc (.cells (bytesRow s (grownCap w s.size 0 5)) 5 ((bytesRow s (grownCap w s.size 0 5)).size,(bytesRow s (grownCap w s.size 0 5)).size+1))):=by
 have hrow:(w.drew.alloc (.cells (bytesRow s (grownCap w s.size 0 5)) 5 ((bytesRow s (grownCap w s.size 0 5)).size,(bytesRow s (grownCap w s.size 0 5)).size+1))).heap[w.heap.size]? = some (.cells (bytesRow s (grownCap w s.size 0 5)) 5 ((bytesRow s (grownCap w s.size 0 5)).size,(bytesRow s (grownCap w s.size 0 5)).size+1)):=heap_alloc_new w.drew _
 refine ⟨fun i hi=>⟨?_,?_⟩,(Below.refl _ _).drew.alloc (Nat.le_refl _) _⟩
 ·rw [cell_of_row _ _ _ _ _ _ hrow]
  unfold bytesRow
  rw [Array.getElem?_append_left (by simpa using hi),Array.getElem?_map,Array.getElem?_eq_getElem (by simpa using hi),qc9 s 0 i hi,if_neg (by omega)]
  simp [qB]
 ·unfold World.frozen?
  rw [hrow]
  have:i<(bytesRow s (grownCap w s.size 0 5)).size:=by
   unfold bytesRow
   rw [Array.size_append,Array.size_map]
   have:s.data.size=s.size:=rfl
   omega
  simp only [decide_eq_false_iff_not,Bool.and_eq_false_iff,decide_eq_true_eq]
  omega
abbrev tC (v:Value) (st:Int) (j:Bool):Array Value:=#[v,.int .i64 st,.bool j]
theorem qio (w:World) (a:Addr) (u:Value):w.grownBy (w.setCell a u) (some a.block) :=
 ⟨rfl,rfl,rfl,by simp,fun k _ hk=>Below.heap_setCell w a u k (fun e=>hk (by rw [e]))⟩
theorem ne_own {v:Value} {p:Nat} (hp : ∀ k,v.ownBlock=some k->k≠p):v.ownBlock=none∨v.ownBlock≠some p:=by
 cases h:v.ownBlock with
 | none=>exact .inl rfl
 | some k=>exact .inr fun e=>hp k h (by injection e)
theorem qh7 {v:Value} {p:Nat} (hp : ∀ k,v.ownBlock=some k->k≠p):some p≠v.ownBlock:=fun e=>hp p e.symm rfl
theorem own_off {w:World} {base size n:Nat} {e:TypeId} {v:Value} {xs:List Value} (h:w.ownsRow base e size v n xs) {p:Addr} (hp : ∀ k,v.ownBlock=some k->k≠p.block) (u:Value):(w.setCell p u).ownsRow base e size v n xs :=
 h.kept (qio w p u) (ne_own hp)
def Sep (N:Nat) (v0 v:Value):Prop:=∀ k,v.ownBlock=some k->(v0.ownBlock=some k/\k<N)∨N+2<=k
theorem Sep.ne {N:Nat} {v0 v:Value} (h:Sep N v0 v) : ∀ k,v.ownBlock=some k->k≠N/\k≠N+1:=fun k hk=>by
 rcases h k hk with h | h <;> omega
def BG (base:Nat) (v0:Value) (w wx:World):Prop:=Below base w wx/\w.grownBy wx v0.ownBlock
theorem qdA {w w':World} (hb:Below w.heap.size w w') (row:Option Nat):w.grownBy w' row:=⟨hb.os,hb.tape,hb.output,hb.size,fun k hk _=>hb.block k hk⟩
section
variable {base : Nat} {v0 : Value} {w wx wy : World}
theorem BG.refl (base:Nat) (v0:Value) (w:World):BG base v0 w w:=⟨Below.refl _ _,World.grownBy.refl w _⟩
theorem BG.below (h:BG base v0 w wx) (hb:Below wx.heap.size wx wy) (hbase:base<=w.heap.size):BG base v0 w wy :=
 ⟨h.1.trans (hb.mono (Nat.le_trans hbase h.2.size)),h.2.trans (qdA hb _)⟩
theorem BG.grown (h:BG base v0 w wx) (hb:Below base wx wy) {v:Value} (hg:wx.grownBy wy v.ownBlock) (hs:Sep w.heap.size v0 v):BG base v0 w wy :=
 ⟨h.1.trans hb,h.2.andThen hg fun j hj=>by
  rcases hs j hj with ⟨h,_⟩ | h
  ·exact .inr h
  ·exact .inl (by omega)⟩
theorem BG.alloc (h:BG base v0 w wx) (hbase:base<=w.heap.size) (o:Obj):BG base v0 w (wx.alloc o):=h.below (Below.alloc (Below.refl _ _) (Nat.le_refl _) _) hbase
theorem BG.drew (h:BG base v0 w wx) (hbase:base<=w.heap.size):BG base v0 w wx.drew:=h.below (Below.refl _ _).drew hbase
theorem BG.set_ (h:BG base v0 w wx) (hbase:base<=w.heap.size) {p:Addr} (hp:w.heap.size<=p.block) (u:Value):BG base v0 w (wx.setCell p u) :=
 ⟨h.1.setCell (Nat.le_trans hbase hp) _,h.2.andThen (qio wx p u) fun j hj=>.inl (by injection hj with hj;omega)⟩
theorem BG.size (h:BG base v0 w wx):w.heap.size<=wx.heap.size:=h.2.size
end
def TX (w:World) (base:Nat) (v0:Value) (st:Int) (j:Bool) (O:List Gl) (wx:World):Prop :=
 ∃ A c,Blk wx w.heap.size 181 (tC (.slice A O.length c) st j)/\Blk wx (w.heap.size+1) 181 (tC (.slice none 0 0) 0 false)/\wx.ownsRow base 86 3 (.slice A O.length c) O.length (qi O) /\
  Sep w.heap.size v0 (.slice A O.length c)/\BG base v0 w wx
theorem TX.put {w X w4:World} {base n N c0 c4:Nat} {v0:Value} {A0 A4:Option Addr} {st:Int} {j:Bool} {ys:List Value} {O:List Gl}
  (B1:Blk X w.heap.size 181 (tC (.slice A0 n c0) st j)) (B2:Blk X (w.heap.size+1) 181 (tC (.slice none 0 0) 0 false)) (hs:Sep w.heap.size v0 (.slice A0 n c0)) (tX:BG base v0 w X) (hb:base<=w.heap.size)
  (hown4:w4.ownsRow base 86 3 (.slice A4 N c4) N ys) (hbel4:Below base X w4) (hgr:X.grownBy w4 (Value.slice A0 n c0).ownBlock) (hat:(Value.slice A4 N c4).ownBlock=(Value.slice A0 n c0).ownBlock∨(Value.slice A4 N c4).ownBlock=some X.heap.size) (hN:O.length=N) (hy:qi O=ys) :
  TX w base v0 st j O (w4.setCell ⟨w.heap.size,0,none⟩ (.slice A4 N c4)):=by
 subst hN hy
 have z1:=B2.lt
 have hs4:Sep w.heap.size v0 (.slice A4 O.length c4):=fun k hk=>by
  rcases hat with h | h
  ·exact hs k (h ▸ hk)
  ·rw [h] at hk
   injection hk with hk
   omega
 have C1:=B1.grown hgr (qh7 fun k hk=>(hs.ne k hk).1)
 have C2:=B2.grown hgr (qh7 fun k hk=>(hs.ne k hk).2)
 refine ⟨A4,c4,?_,C2.far (p:=⟨w.heap.size,0,none⟩) (by show w.heap.size+1≠w.heap.size;omega) _,own_off hown4 (p:=⟨w.heap.size,0,none⟩) (fun k hk=>(hs4.ne k hk).1) _,hs4,(tX.grown hbel4 hgr hs).set_ hb (Nat.le_refl _) _⟩
 have:=C1.set_ 0 (.slice A4 O.length c4)
 simpa [tC] using this
theorem TX.below {w X X':World} {base:Nat} {v0:Value} {st:Int} {j:Bool} {O:List Gl} (h:TX w base v0 st j O X) (hb:Below X.heap.size X X') (hbase:base<=w.heap.size):TX w base v0 st j O X':=by
 obtain ⟨A,c,B1,B2,ox,hs,tx⟩:=h
 exact ⟨A,c,B1.below hb B1.lt,B2.below hb B2.lt,qb ox hb,hs,tx.below hb hbase⟩
end Go.Proofs.YticbpkghcglgkaaGreatDoor
namespace Go.Proofs.YticbpkghcglgkaaGreatDoor
open Go.Proofs.Tryz Go.RowKit
def glN (l:List Chg):Nat:=(l.map fun c=>c.glyphs.length+264).sum
def LenV (v:Vw) (M:Nat):Prop:=∀ l∈v.rows,l.length<=M
theorem LenV.getD {v:Vw} {M:Nat} (h:LenV v M) (i:Nat):(v.rows.getD i []).length<=M:=by
 rw [List.getD_eq_getElem?_getD]
 cases hx:v.rows[i]? with
 | none=>exact Nat.zero_le _
 | some l=>exact h l (List.mem_of_getElem? hx)
end Go.Proofs.YticbpkghcglgkaaGreatDoor
namespace Go.Proofs.YticbpkghcglgkaaGreatDoor
open Go.Proofs.Tryz Go.RowKit
set_option maxRecDepth 20000
structure OwV (N:Nat) (X:World) (v:Vw) (A:Option Addr) (n c:Nat) (rs:List RowM):Prop where
 rows:X.ownsRow N 56 1 (.slice A n c) n (zQ rs)
 gl : ∀ x∈rs,X.ownsRow N 86 3 (.slice x.A x.l.length x.cap) x.l.length (qi x.l)
 eq:v.rows=rls rs
section
variable {N N' n c : Nat} {X X' : World} {v : Vw} {A : Option Addr} {rs : List RowM}
theorem OwV.below (h:OwV N X v A n c rs) (hb:Below X.heap.size X X'):OwV N X' v A n c rs:=⟨qb h.rows hb,fun x hx=>qb (h.gl x hx) hb,h.eq⟩
theorem OwV.far (h:OwV N X v A n c rs) {p:Addr} (hp:p.block<N) (u:Value):OwV N (X.setCell p u) v A n c rs:=by
 have hne : ∀ {B:Option Addr} {n c size:Nat} {e:TypeId} {xs:List Value},X.ownsRow N e size (.slice B n c) n xs->(Value.slice B n c).ownBlock≠some p.block:=fun ho e=>by
  rw [qC] at e
  have:=(vB ho _ e).1
  omega
 exact ⟨ownsRow_setCell_other h.rows (hne h.rows) _,fun x hx=>ownsRow_setCell_other (h.gl x hx) (hne (h.gl x hx)) _,h.eq⟩
end
theorem OwV.none_ (N:Nat) (w:World):OwV N w vw0 none 0 0 []:=⟨zY _ _ _ _,fun x hx=>(by cases hx),rfl⟩
theorem ED.far {base g c:Nat} {v:Vw} {rs:List RowM} {A:Option Addr} {X:World} (h:ED base g v rs A c X) {p:Addr} (hp:p.block<base) (u:Value):ED base g v rs A c (X.setCell p u):=by
 have hne : ∀ {B:Option Addr} {n c size:Nat} {e:TypeId} {xs:List Value},X.ownsRow base e size (.slice B n c) n xs->(Value.slice B n c).ownBlock≠some p.block:=fun ho e=>by
  rw [qC] at e
  have:=(vB ho _ e).1
  omega
 exact ⟨h.blk.far (by have:=h.lo;omega) _,ownsRow_setCell_other h.rows (hne h.rows) _,fun x hx=>ownsRow_setCell_other (h.gl x hx) (hne (h.gl x hx)) _,h.eq,h.lo,h.dj⟩
end Go.Proofs.YticbpkghcglgkaaGreatDoor
