/- Joined: Ur4, Ur5. -/
import Derived.LoopN
import Derived.Test.YticbpkghcglgkaaGreatDoorVAQ
import Derived.Test.YticbpkghcglgkaaGreatDoorVAU
set_option linter.unusedVariables false
set_option linter.unusedSimpArgs false
set_option linter.unnecessarySimpa false
namespace Go.Proofs.YticbpkghcglgkaaGreatDoor
open Go.Proofs.Tryz Go.RowKit
set_option maxRecDepth 20000
def Chg.put (c:Chg) (i:Nat) (N:Int):Chg:=match i with
 | 0=>{c with kind:=N}
 | 1=>{c with row:=N}
 | 2=>{c with col:=N}
 | 3=>{c with count:=N}
 | _=>{c with til:=N}
def yG (c:Chg) (A:Option Addr) (cap:Nat):Array Value:=#[.int .i64 c.kind,.int .i64 c.row,.int .i64 c.col,.int .i64 c.count,.int .i64 c.til,.slice A c.glyphs.length cap]
theorem chgA_put (c:Chg) (A:Option Addr) (cap i:Nat) (N:Int) (h:i<5):(yG c A cap).setIfInBounds i (.int .i64 N)=yG (c.put i N) A cap:=by
 match i,h with
 | 0,_=>rfl
 | 1,_=>rfl
 | 2,_=>rfl
 | 3,_=>rfl
 | 4,_=>rfl
theorem qhL (c:Chg) (i:Nat) (N:Int):(c.put i N).glyphs=c.glyphs:=by
 match i with
 | 0=>rfl
 | 1=>rfl
 | 2=>rfl
 | 3=>rfl
 | _+4=>rfl
def CS (w:World) (B:Nat) (r:Option (List ByteArray)) (c:Chg) (Ag:Option Addr) (cap:Nat) (X:World):Prop :=
 ∃ A n cc l bad,r=y7 bad l/\WdR X B l A n cc/\Blk X w.heap.size 92 #[.slice A n cc,.bool bad]/\Blk X (w.heap.size+1) 64 (yG ⟨0,0,0,0,0,[]⟩ none 0)/\Blk X (w.heap.size+2) 92 #[.slice none 0 0,.bool false]/\Blk X (w.heap.size+3) 64 (yG c Ag cap)/\Below w.heap.size w X/\X.ownsRow (w.heap.size+4) 86 3 (.slice Ag c.glyphs.length cap) c.glyphs.length (qi c.glyphs)
theorem CS.size {w X:World} {B:Nat} {r:Option (List ByteArray)} {c:Chg} {Ag:Option Addr} {cap:Nat} (h:CS w B r c Ag cap X):w.heap.size+4<=X.heap.size:=by
 obtain ⟨A,n,cc,l,bad,h1,h2,h3,h4,h5,h6,h7,h8⟩:=h
 have:=h6.lt
 omega
theorem CS.below {w X Y:World} {B:Nat} {r:Option (List ByteArray)} {c:Chg} {Ag:Option Addr} {cap:Nat} (h:CS w B r c Ag cap X) (hB:B<=w.heap.size) (hb:Below X.heap.size X Y):CS w B r c Ag cap Y:=by
 have hz:=h.size
 obtain ⟨A,n,cc,l,bad,h1,h2,h3,h4,h5,h6,h7,h8⟩:=h
 exact ⟨A,n,cc,l,bad,h1,h2.below (hb.mono (by omega)),h3.below hb h3.lt,h4.below hb h4.lt,h5.below hb h5.lt,h6.below hb h6.lt,h7.trans (hb.mono (by omega)),qb h8 hb⟩
theorem CS.drew {w X:World} {B:Nat} {r:Option (List ByteArray)} {c:Chg} {Ag:Option Addr} {cap:Nat} (h:CS w B r c Ag cap X) (hB:B<=w.heap.size):CS w B r c Ag cap X.drew:=h.below hB (Below.refl _ _).drew
theorem CS.set_ {w X:World} {B:Nat} {r:Option (List ByteArray)} {c:Chg} {Ag:Option Addr} {cap:Nat} (h:CS w B r c Ag cap X) (hB:B<=w.heap.size) (i:Nat) (N:Int) (hi:i<5):CS w B r (c.put i N) Ag cap (X.setCell ⟨w.heap.size+3,i,none⟩ (.int .i64 N)):=by
 obtain ⟨A,n,cc,l,bad,h1,h2,h3,h4,h5,h6,h7,h8⟩:=h
 refine ⟨A,n,cc,l,bad,h1,h2.below ((Below.refl B X).setCell (by show B<=w.heap.size+3;omega) _),h3.far (by show w.heap.size≠w.heap.size+3;omega) _,h4.far (by show w.heap.size+1≠w.heap.size+3;omega) _,h5.far (by show w.heap.size+2≠w.heap.size+3;omega) _,?_,h7.setCell (by show w.heap.size<=w.heap.size+3;omega) _,?_⟩
 ·have:=h6.set_ i (.int .i64 N)
  rwa [chgA_put _ _ _ _ _ hi] at this
 ·rw [qhL]
  exact zZ h8 (by show w.heap.size+3<_;omega) _
theorem CS.glyphs {w X:World} {B:Nat} {r:Option (List ByteArray)} {c:Chg} {Ag:Option Addr} {cap:Nat} (h:CS w B r c Ag cap X) (hB:B<=w.heap.size) {G:List Gl} {A:Option Addr} {cp:Nat} (ho:X.ownsRow (w.heap.size+4) 86 3 (.slice A G.length cp) G.length (qi G)):CS w B r {c with glyphs:=G} A cp (X.setCell ⟨w.heap.size+3,5,none⟩ (.slice A G.length cp)):=by
 obtain ⟨A0,n,cc,l,bad,h1,h2,h3,h4,h5,h6,h7,h8⟩:=h
 refine ⟨A0,n,cc,l,bad,h1,h2.below ((Below.refl B X).setCell (by show B<=w.heap.size+3;omega) _),h3.far (by show w.heap.size≠w.heap.size+3;omega) _,h4.far (by show w.heap.size+1≠w.heap.size+3;omega) _,h5.far (by show w.heap.size+2≠w.heap.size+3;omega) _,?_,h7.setCell (by show w.heap.size<=w.heap.size+3;omega) _,zZ ho (by show w.heap.size+3<_;omega) _⟩
 have:=h6.set_ 5 (.slice A G.length cp)
 exact this
def LenR (r:Option (List ByteArray)):Prop:=∀ l,r=some l->l.length<=400000
theorem LenR.num {r:Option (List ByteArray)} (h:LenR r):LenR (qN r).2:=by
 intro l hl
 cases r with
 | none=>cases hl
 | some x =>
  have:=h _ rfl
  unfold qN at hl
  simp only [Option.bind_some,kU] at hl
  cases hp:zi x with
  | none=>rw [hp] at hl;cases hl
  | some y =>
   rw [hp] at hl
   cases hl
   rw [List.length_drop]
   omega
end Go.Proofs.YticbpkghcglgkaaGreatDoor
