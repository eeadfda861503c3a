/- Joined: Ur2, UtM. -/
import Derived.Test.YticbpkghcglgkaaGreatDoorVAT
set_option linter.unusedVariables false
set_option linter.unusedSimpArgs false
set_option linter.unnecessarySimpa false
namespace Go.Proofs.YticbpkghcglgkaaGreatDoor
open Go.Proofs.Tryz Go.RowKit
set_option maxRecDepth 20000
def qN (r:Option (List ByteArray)):Int × Option (List ByteArray):=match r.bind kU with
 | some (n,t)=>(n,some t)
 | none=>(0,none)
def NRet (w:World) (B:Nat) (x:Int × Option (List ByteArray)) (e:Ending) (w':World):Prop:=∃ v,e = .returned (.tuple #[.int .i64 x.1,v])/\RV w B x.2 v/\Below w.heap.size w w'
def NRetE (w:World) (B:Nat) (x:Int × Option (List ByteArray)) (e:Ending) (w':World):Prop:=∃ v,e = .returned (.tuple #[.int .i64 x.1,v])/\RV w' B x.2 v/\Below w.heap.size w w'
theorem NRet.e {w w':World} {B:Nat} {x:Int × Option (List ByteArray)} {e:Ending} (hB:B<=w.heap.size) (h:NRet w B x e w'):NRetE w B x e w':=by
 obtain ⟨v,h1,h2,h3⟩:=h
 exact ⟨v,h1,h2.below (h3.mono hB),h3⟩
def RRetE (w:World) (B:Nat) (r:Option (List ByteArray)) (F:Value->Value) (e:Ending) (w':World):Prop:=∃ v,e = .returned (F v)/\RV w' B r v/\Below w.heap.size w w'
theorem RRet.e {w w':World} {B:Nat} {r:Option (List ByteArray)} {F:Value->Value} {e:Ending} (hB:B<=w.heap.size) (h:RRet w B r F e w'):RRetE w B r F e w':=by
 obtain ⟨v,h1,h2,h3⟩:=h
 exact ⟨v,h1,h2.below (h3.mono hB),h3⟩
end Go.Proofs.YticbpkghcglgkaaGreatDoor
namespace Go.Proofs.YticbpkghcglgkaaGreatDoor
open Go.Proofs.Tryz Go.RowKit
structure ChgM where
 c:Chg
 A:Option Addr
 cap:Nat
instance:Inhabited ChgM:=⟨⟨⟨0,0,0,0,0,[]⟩,none,0⟩⟩
def qb5 (x:ChgM):List Value:=[.int .i64 x.c.kind,.int .i64 x.c.row,.int .i64 x.c.col,.int .i64 x.c.count,.int .i64 x.c.til,.slice x.A x.c.glyphs.length x.cap]
def kq (l:List ChgM):List Value:=l.flatMap qb5
theorem qa3 (x:ChgM):(qb5 x).length=6:=rfl
theorem qbB (x:ChgM) (l:List ChgM):kq (x::l)=qb5 x++kq l:=by simp [kq]
theorem qbp : ∀ l:List ChgM,(kq l).length=l.length * 6
 | []=>rfl
 | r::l=>by
  rw [qbB,List.length_append,qbp l,qa3,List.length_cons]
  omega
theorem qcE : ∀ (l:List ChgM) (i j:Nat),j<6->(kq l)[i * 6+j]? = l[i]?.bind fun r=>(qb5 r)[j]?
 | [],i,j,_=>by simp [kq]
 | r::l,0,j,h=>by
  rw [qbB,Nat.zero_mul,Nat.zero_add,List.getElem?_append_left (by rw [qa3];exact h)]
  rfl
 | r::l,i+1,j,h=>by
  rw [qbB,List.getElem?_append_right (by rw [qa3];omega),qa3,show (i+1) * 6+j-6=i * 6+j by omega,qcE l i j h]
  rfl
structure RdC (w:World) (B:Nat) (A:Option Addr) (n:Nat) (l:List ChgM):Prop where
 rd:Rd w B 6 A n (kq l)
 gl : ∀ x∈l,Rd w B 3 x.A x.c.glyphs.length (qi x.c.glyphs)/\x.c.glyphs.length<=x.cap/\x.cap<=maxLen
theorem RdC.len {w:World} {B n:Nat} {A:Option Addr} {l:List ChgM} (h:RdC w B A n l):l.length=n:=by
 have:=h.rd.1
 rw [qbp] at this
 omega
theorem RdC.below {w w':World} {B n:Nat} {A:Option Addr} {l:List ChgM} (h:RdC w B A n l) (hb:Below B w w'):RdC w' B A n l :=
 ⟨h.rd.below hb,fun x hx=>⟨(h.gl x hx).1.below hb,(h.gl x hx).2⟩⟩
theorem RdC.more {w:World} {B B' n:Nat} {A:Option Addr} {l:List ChgM} (h:RdC w B A n l) (hb:B<=B'):RdC w B' A n l :=
 ⟨h.rd.more hb,fun x hx=>⟨(h.gl x hx).1.more hb,(h.gl x hx).2⟩⟩
theorem RdC.at_ {w:World} {B n:Nat} {A:Option Addr} {l:List ChgM} (h:RdC w B A n l) {k:Nat} (hk:k<l.length) : ∃ b o,A=some ⟨b,o,none⟩/\b<B/\(w.cell? ⟨b,(o+k * 6),none⟩=some (.int .i64 l[k].c.kind)/\w.cell? ⟨b,(o+k * 6)+1,none⟩=some (.int .i64 l[k].c.row)/\w.cell? ⟨b,(o+k * 6)+2,none⟩=some (.int .i64 l[k].c.col)/\w.cell? ⟨b,(o+k * 6)+3,none⟩=some (.int .i64 l[k].c.count)/\w.cell? ⟨b,(o+k * 6)+4,none⟩=some (.int .i64 l[k].c.til)/\w.cell? ⟨b,(o+k * 6)+5,none⟩=some (.slice l[k].A l[k].c.glyphs.length l[k].cap)):=by
 have hn:=h.len
 obtain ⟨b,o,e,hb,hc⟩:=h.rd.2 (by omega)
 have h : ∀ j,j<6->∀ u,(qb5 l[k])[j]? = some u->w.cell? ⟨b,o+k * 6+j,none⟩=some u:=fun j hj u hu=>by
  have:=hc (k * 6+j) u (by rw [qcE _ _ _ hj,List.getElem?_eq_getElem hk];exact hu)
  rwa [<- Nat.add_assoc] at this
 exact ⟨b,o,e,hb,h 0 (by omega) _ rfl,h 1 (by omega) _ rfl,h 2 (by omega) _ rfl,h 3 (by omega) _ rfl,h 4 (by omega) _ rfl,h 5 (by omega) _ rfl⟩
end Go.Proofs.YticbpkghcglgkaaGreatDoor
