/- Joined: Up3, Um1, Um2, Ul0, Ul1. -/
import Derived.Test.YticbpkghcglgkaaGreatDoorVBF
set_option linter.unusedVariables false
set_option linter.unusedSimpArgs false
set_option linter.unnecessarySimpa false
namespace Go.Proofs.YticbpkghcglgkaaGreatDoor
open Go.Proofs.Tryz Go.RowKit
set_option maxRecDepth 20000
theorem qjy (l:List Nat):(yI l).size<=4 * l.length:=by
 unfold yI
 show (List.toArray _).size<=_
 rw [List.size_toArray,List.length_map]
 exact qf8 l
theorem gw_of {g:Gl} (h:qJ g=0):GW g/\g.text.size<=16:=by
 obtain ⟨h1,h2,h3⟩:=qcr h
 obtain ⟨r,t,_,_,_,_,_,ht,he,_⟩:=h1.form
 have:=qjy (r::t)
 rw [<- he] at this
 simp only [List.length_cons] at this
 exact ⟨⟨⟨h1.1,by omega⟩,h2,h3⟩,by omega⟩
def zA (l:List Gl):Bool:=decide (140<l.length) || l.any fun g=>decide (40<g.text.size)
theorem chg_ext {a b:Chg} (h1:a.kind=b.kind) (h2:a.row=b.row) (h3:a.col=b.col) (h4:a.count=b.count) (h5:a.til=b.til) (h6:a.glyphs=b.glyphs):a=b:=by
 cases a;cases b
 simp only at h1 h2 h3 h4 h5 h6
 subst h1 h2 h3 h4 h5 h6
 rfl
instance:DecidableEq Chg:=fun a b=>if h:a.kind=b.kind/\a.row=b.row/\a.col=b.col/\a.count=b.count/\a.til=b.til/\a.glyphs=b.glyphs then isTrue (chg_ext h.1 h.2.1 h.2.2.1 h.2.2.2.1 h.2.2.2.2.1 h.2.2.2.2.2) else isFalse fun e=>h (by subst e;exact ⟨rfl,rfl,rfl,rfl,rfl,rfl⟩)
def eCh:Chg:=⟨3,4,0,0,0,[⟨⟨#[111]⟩,false,0⟩,⟨⟨#[107]⟩,false,0⟩]⟩
theorem WdR.own {w:World} {base n c:Nat} {A:Option Addr} {l:List ByteArray} (h:w.ownsRow base 9 1 (.slice A n c) n (sv l)) (hs : ∀ s∈l,s.size<=1000):WdR w w.heap.size l A n c:=by
 have hl:l.length=n:=by have:=(Rd.of_own h).1;rw [sv_len] at this;omega
 exact ⟨hl,(qas h).1,(qas h).2,Rd.of_own h,hs⟩
theorem WdR.more {w:World} {B B':Nat} {l:List ByteArray} {A:Option Addr} {n c:Nat} (h:WdR w B l A n c) (hb:B<=B'):WdR w B' l A n c:=⟨h.len,h.cap,h.max,h.rd.more hb,h.sz⟩
def ExI (w X:World):Prop:=RdC X X.heap.size (some ⟨w.heap.size+1,0,none⟩) 1 [⟨eCh,some ⟨w.heap.size,0,none⟩,2⟩]/\Below w.heap.size w X
theorem ExI.on {w X Y:World} (h:ExI w X) (hb:Below X.heap.size X Y):ExI w Y:=⟨(h.1.below hb).more hb.size,h.2.trans (hb.mono h.2.size)⟩
def SzW (l:List ByteArray):Prop:=∀ s∈l,s.size<=1000
theorem SzW.nil:SzW []:=fun s hs=>by cases hs
theorem SzW.cons {a:ByteArray} {l:List ByteArray} (h:a.size<=1000) (hl:SzW l):SzW (a::l):=fun s hs=>by
 rcases List.mem_cons.1 hs with rfl | hs
 ·exact h
 ·exact hl s hs
theorem SzW.app {a b:List ByteArray} (h:SzW a) (hl:SzW b):SzW (a++b):=fun s hs=>by
 rcases List.mem_append.1 hs with hs | hs
 ·exact h s hs
 ·exact hl s hs
end Go.Proofs.YticbpkghcglgkaaGreatDoor
