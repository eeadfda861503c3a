/- Joined: LvP, LvM. -/
import Derived.Test.YticbpkghcglgkaaGreatDoorVAT
set_option linter.unusedVariables false
set_option linter.unusedSimpArgs false
set_option linter.unnecessarySimpa false
namespace Go.Proofs.YticbpkghcglgkaaGreatDoor
open Go.Proofs.Tryz Go.RowKit
structure Vw where
 width:Int
 height:Int
 rows:List (List Gl)
 row:Int
 col:Int
 vis:Bool
def vw0:Vw:=⟨0,0,[],0,0,false⟩
def spG:Gl:=⟨⟨#[32]⟩,false,0⟩
def kw (l:List Gl):Nat:=(l.filter fun g=>g.wide).length
def vM (l:List Gl):Nat:=l.length+kw l
def zI (l:List Gl):List Gl:=(l.reverse.dropWhile fun g=>decide (g=spG)).reverse
def vR (w h:Int):Bool:=decide (1<=w/\w<=132/\1<=h/\h<=60)
def yK:List Gl->Int
 | []=>0
 | g::t=>if qJ g≠0 then qJ g else yK t
def rowC (w:Int) (l:List Gl):Int:=if yK l≠0 then yK l else if w<vM l then 12 else if l.getLast? = some spG then 1 else 0
def yh (w:Int):List (List Gl)->Int
 | []=>0
 | l::t=>if rowC w l≠0 then rowC w l else yh w t
def js (v:Vw):Int:=if vR v.width v.height=false then 2 else if (v.rows.length:Int)≠v.height then 11 else if v.row<0∨v.height<=v.row∨v.col<0∨v.width<=v.col then 2 else yh v.width v.rows
def qcz (v:Vw):Bool:=v.rows.all fun l=>decide ((vM l:Int)<=v.width)
structure Md where
 view:Vw
 upd:Int
def md0:Md:=⟨vw0,0⟩
def MaxT:Int:=1099511627776
def vu (m:Md):Bool:=decide (js m.view=0/\0<=m.upd/\m.upd<=MaxT)
def TrimR (rows:List (List Gl)):Prop:=∀ l∈rows,zI l=l
theorem qbc (l:List Gl) (g:Gl):zI (l++[g])=if g=spG then zI l else l++[g]:=by
 unfold zI
 rw [List.reverse_append,List.reverse_singleton,List.singleton_append,List.dropWhile_cons]
 by_cases h:g=spG
 ·rw [if_pos (by simpa using h),if_pos h]
 ·rw [if_neg (by simpa using h),if_neg h,List.reverse_cons,List.reverse_reverse]
theorem qdE (l:List Gl):l=[]∨∃ m g,l=m++[g]:=by
 rcases l.eq_nil_or_concat with h | ⟨m,g,h⟩
 ·exact .inl h
 ·exact .inr ⟨m,g,by rw [h,List.concat_eq_append]⟩
theorem qdP (l:List Gl):(zI l).length<=l.length:=by
 unfold zI
 rw [List.length_reverse]
 have:=(List.dropWhile_sublist (fun g=>decide (g=spG)) (l:=l.reverse)).length_le
 rwa [List.length_reverse] at this
theorem trim_iff {l:List Gl}:zI l=l↔l.getLast?≠some spG:=by
 rcases qdE l with rfl | ⟨m,g,rfl⟩
 ·simp [zI]
 ·rw [qbc,List.getLast?_append,List.getLast?_singleton]
  by_cases h:g=spG
  ·rw [if_pos h]
   have:=qdP m
   constructor
   ·intro e
    have:=congrArg List.length e
    rw [List.length_append,List.length_singleton] at this
    omega
   ·intro e;exact absurd (by rw [h];rfl) e
  ·rw [if_neg h]
   simp [h]
theorem qb9 {l:List Gl}:yK l=0↔∀ g∈l,qJ g=0:=by
 induction l with
 | nil=>simp [yK]
 | cons g t ih =>
  unfold yK
  by_cases h:qJ g=0
  ·rw [if_neg (by simpa using h),ih];simp [h]
  ·rw [if_pos h];simp [h]
theorem row_zero {w:Int} {l:List Gl}:rowC w l=0↔yK l=0/\(vM l:Int)<=w/\zI l=l:=by
 unfold rowC
 rw [trim_iff]
 by_cases h1:yK l=0
 ·rw [if_neg (by simpa using h1)]
  by_cases h2:w<vM l
  ·rw [if_pos h2];simp;omega
  ·rw [if_neg h2]
   by_cases h3:l.getLast? = some spG
   ·rw [if_pos h3];simp [h3]
   ·rw [if_neg h3];simp [h1,h3];omega
 ·rw [if_pos h1];simp [h1]
theorem qiK {w:Int} {r:List (List Gl)}:yh w r=0↔∀ l∈r,rowC w l=0:=by
 induction r with
 | nil=>simp [yh]
 | cons g t ih =>
  unfold yh
  by_cases h:rowC w g=0
  ·rw [if_neg (by simpa using h),ih];simp [h]
  ·rw [if_pos h];simp [h]
theorem qbh {v:Vw}:js v=0↔vR v.width v.height=true/\(v.rows.length:Int)=v.height/\(0<=v.row/\v.row<v.height/\0<=v.col/\v.col<v.width)/\∀ l∈v.rows,yK l=0/\(vM l:Int)<=v.width/\zI l=l:=by
 unfold js
 by_cases h1:vR v.width v.height=false
 ·rw [if_pos h1];simp [h1]
 ·rw [if_neg h1]
  have h1:vR v.width v.height=true:=by simpa using h1
  by_cases h2:(v.rows.length:Int)=v.height
  ·rw [if_neg (by simpa using h2)]
   by_cases h3:v.row<0∨v.height<=v.row∨v.col<0∨v.width<=v.col
   ·rw [if_pos h3]
    constructor
    ·intro h;cases h
    ·rintro ⟨_,_,h,_⟩;omega
   ·rw [if_neg h3,qiK]
    simp only [row_zero,h1,h2,true_and]
    exact ⟨fun h=>⟨by omega,h⟩,fun h=>h.2⟩
  ·rw [if_pos h2];simp [h2]
theorem jW {w h:Int}:vR w h=true↔1<=w/\w<=132/\1<=h/\h<=60:=by unfold vR;rw [decide_eq_true_iff]
structure OnV (v:Vw):Prop where
 size:vR v.width v.height=true
 rows:(v.rows.length:Int)=v.height
 cur:0<=v.row/\v.row<v.height/\0<=v.col/\v.col<v.width
 gls : ∀ l∈v.rows,∀ g∈l,qJ g=0
 trim:TrimR v.rows
theorem OnV.zero {v:Vw} (h:OnV v) (hw:qcz v=true):js v=0:=by
 refine qbh.2 ⟨h.size,h.rows,h.cur,fun l hl=>⟨qb9.2 (h.gls l hl),?_,h.trim l hl⟩⟩
 unfold qcz at hw
 rw [List.all_eq_true] at hw
 simpa using hw l hl
structure RowM where
 l:List Gl
 A:Option Addr
 cap:Nat
instance:Inhabited RowM:=⟨⟨[],none,0⟩⟩
def zQ (rs:List RowM):List Value:=rs.map fun x=>.slice x.A x.l.length x.cap
def rls (rs:List RowM):List (List Gl):=rs.map RowM.l
theorem qbg (rs:List RowM):(zQ rs).length=rs.length:=by simp [zQ]
theorem vJ (rs:List RowM):(rls rs).length=rs.length:=by simp [rls]
theorem yF {rs:List RowM} {k:Nat} (h:k<rs.length):(zQ rs)[k]? = some (.slice rs[k].A rs[k].l.length rs[k].cap):=by simp [zQ,h]
def RdG (w:World) (B:Nat) (x:RowM):Prop:=Rd w B 3 x.A x.l.length (qi x.l)/\x.l.length<=x.cap/\x.cap<=maxLen
theorem RdG.below {w w':World} {B:Nat} {x:RowM} (h:RdG w B x) (hb:Below B w w'):RdG w' B x:=⟨h.1.below hb,h.2⟩
theorem RdG.more {w:World} {B B':Nat} {x:RowM} (h:RdG w B x) (hb:B<=B'):RdG w B' x:=⟨h.1.more hb,h.2⟩
structure RdRs (w:World) (B:Nat) (A:Option Addr) (n:Nat) (rs:List RowM):Prop where
 rd:Rd w B 1 A n (zQ rs)
 gl : ∀ x∈rs,RdG w B x
theorem RdRs.len {w:World} {B n:Nat} {A:Option Addr} {l:List RowM} (h:RdRs w B A n l):l.length=n:=by
 have:=h.rd.1
 rw [qbg] at this
 omega
theorem RdRs.below {w w':World} {B n:Nat} {A:Option Addr} {l:List RowM} (h:RdRs w B A n l) (hb:Below B w w'):RdRs w' B A n l:=⟨h.rd.below hb,fun x hx=>(h.gl x hx).below hb⟩
theorem RdRs.more {w:World} {B B' n:Nat} {A:Option Addr} {l:List RowM} (h:RdRs w B A n l) (hb:B<=B'):RdRs w B' A n l:=⟨h.rd.more hb,fun x hx=>(h.gl x hx).more hb⟩
theorem RdRs.at_ {w:World} {B n:Nat} {A:Option Addr} {l:List RowM} (h:RdRs w B A n l) {k:Nat} (hk:k<l.length) : ∃ b o,A=some ⟨b,o,none⟩/\b<B/\w.cell? ⟨b,o+k,none⟩=some (.slice l[k].A l[k].l.length l[k].cap):=by
 have hn:=h.len
 obtain ⟨b,o,e,hb,hc⟩:=h.rd.2 (by omega)
 exact ⟨b,o,e,hb,hc k _ (yF hk)⟩
def vwC (v:Vw) (A:Option Addr) (n c:Nat):Array Value:=#[.int .i64 v.width,.int .i64 v.height,.slice A n c,.int .i64 v.row,.int .i64 v.col,.bool v.vis]
def RdV (w:World) (B:Nat) (v:Vw) (A:Option Addr) (n c:Nat) (rs:List RowM):Prop:=RdRs w B A n rs/\v.rows=rls rs/\n<=c/\c<=maxLen
theorem RdV.below {w w':World} {B n c:Nat} {A:Option Addr} {v:Vw} {rs:List RowM} (h:RdV w B v A n c rs) (hb:Below B w w'):RdV w' B v A n c rs:=⟨h.1.below hb,h.2⟩
theorem RdV.more {w:World} {B B' n c:Nat} {A:Option Addr} {v:Vw} {rs:List RowM} (h:RdV w B v A n c rs) (hb:B<=B'):RdV w B' v A n c rs:=⟨h.1.more hb,h.2⟩
theorem RdV.len {w:World} {B n c:Nat} {A:Option Addr} {v:Vw} {rs:List RowM} (h:RdV w B v A n c rs):v.rows.length=n:=by
 rw [h.2.1,vJ];exact h.1.len
end Go.Proofs.YticbpkghcglgkaaGreatDoor
