/- Joined: Ur8, Up1. -/
import Derived.Test.YticbpkghcglgkaaGreatDoorVAX
import Derived.Test.YticbpkghcglgkaaGreatDoorVAY
set_option linter.unusedVariables false
set_option linter.unusedSimpArgs false
set_option linter.unnecessarySimpa false
namespace Go.Proofs.YticbpkghcglgkaaGreatDoor
open Go.Proofs.Tryz Go.RowKit
set_option maxRecDepth 20000
theorem own_ne {w:World} {g base size n:Nat} {t e:TypeId} {cs:Array Value} {v:Value} {xs:List Value} (h:Blk w g t cs) (ho:w.ownsRow base e size v n xs) (hte:t≠e):some g≠v.ownBlock:=by
 rcases ho.2 with ⟨rfl,_⟩ | ⟨g',cap,cur,rfl,_,h2,_⟩
 ·simp [Value.ownBlock]
 ·intro hg
  simp only [Value.ownBlock,Option.some.injEq] at hg
  subst hg
  unfold Blk at h
  rw [h] at h2
  injection h2 with h2
  injection h2 with _ h2
  exact hte h2
theorem qir {w:World} {base size n base' size' n':Nat} {e e':TypeId} {v v':Value} {xs xs':List Value} (h:w.ownsRow base e size v n xs) (ho:w.ownsRow base' e' size' v' n' xs') (hte:e≠e'):v.ownBlock=none∨v.ownBlock≠v'.ownBlock:=by
 rcases h.2 with ⟨rfl,_⟩ | ⟨g,cap,cur,rfl,_,h1,_⟩
 ·exact .inl rfl
 ·exact .inr (own_ne (t:=e) (cs:=cur) h1 ho hte)
def GlO (base:Nat) (wr:World) (out:List ChgM):Prop:=∀ x∈out,wr.ownsRow base 86 3 (.slice x.A x.c.glyphs.length x.cap) x.c.glyphs.length (qi x.c.glyphs)
theorem GlO.below {base:Nat} {wr w':World} {out:List ChgM} (h:GlO base wr out) (hb:Below wr.heap.size wr w'):GlO base w' out:=fun x hx=>qb (h x hx) hb
theorem GlO.set_ {base:Nat} {wr:World} {out:List ChgM} (h:GlO base wr out) {p:Addr} (hp:p.block<base) (u:Value):GlO base (wr.setCell p u) out:=fun x hx=>zZ (h x hx) hp u
def ChJ (w:World) (l':List ByteArray) (out:List ChgM) (A:Option Addr) (c:Nat) (X:World):Prop :=
 ∃ A' n' c',X.ownsRow (w.heap.size+1) 64 6 (.slice A out.length c) out.length (kq out)/\GlO (w.heap.size+1) X out/\WdR X w.heap.size l' A' n' c'/\Blk X w.heap.size 92 #[.slice A' n' c',.bool false]/\Below w.heap.size w X
theorem ChJ.bel {w X:World} {l':List ByteArray} {out:List ChgM} {A:Option Addr} {c:Nat} (h:ChJ w l' out A c X):Below w.heap.size w X:=by
 obtain ⟨A',n',c',ho,hg,hW,R1,tx⟩:=h
 exact tx
theorem ChJ.on {w X Y:World} {l':List ByteArray} {out:List ChgM} {A:Option Addr} {c:Nat} (h:ChJ w l' out A c X) (hb:Below X.heap.size X Y):ChJ w l' out A c Y:=by
 obtain ⟨A',n',c',ho,hg,hW,R1,tx⟩:=h
 exact ⟨A',n',c',qb ho hb,hg.below hb,hW.below (hb.mono tx.size),R1.below hb R1.lt,tx.trans (hb.mono tx.size)⟩
theorem GlO.app {base base' n:Nat} {w w':World} {out:List ChgM} {v:Value} {xs:List Value} (h:GlO base w out) (ho:w.ownsRow base' 64 6 v n xs) (hg:w.grownBy w' v.ownBlock):GlO base w' out:=fun x hx=>(h x hx).kept hg (qir (h x hx) ho (by decide))
def ChK (w:World) (gc:Nat) (l':List ByteArray) (out:List ChgM) (A:Option Addr) (c:Nat) (cg:Chg) (Ag:Option Addr) (cap:Nat) (A1:Option Addr) (n1 cc:Nat) (bad:Bool) (lr:List ByteArray) (Y:World):Prop :=
 Blk Y gc 64 (yG cg Ag cap)/\Blk Y (gc+1) 92 #[.slice A1 n1 cc,.bool bad]/\ChJ w l' out A c Y/\WdR Y w.heap.size lr A1 n1 cc/\Y.ownsRow (w.heap.size+1) 86 3 (.slice Ag cg.glyphs.length cap) cg.glyphs.length (qi cg.glyphs)/\w.heap.size+1<=gc
theorem ChK.on {w:World} {gc:Nat} {l':List ByteArray} {out:List ChgM} {A:Option Addr} {c:Nat} {cg:Chg} {Ag:Option Addr} {cap:Nat} {A1:Option Addr} {n1 cc:Nat} {bad:Bool} {lr:List ByteArray} {Y Z:World} (h:ChK w gc l' out A c cg Ag cap A1 n1 cc bad lr Y) (hb:Below Y.heap.size Y Z):ChK w gc l' out A c cg Ag cap A1 n1 cc bad lr Z:=by
 obtain ⟨h1,h2,h3,h4,h5,h6⟩:=h
 have:=h1.lt
 exact ⟨h1.below hb h1.lt,h2.below hb h2.lt,h3.on hb,h4.below (hb.mono (by omega)),qb h5 hb,h6⟩
def EndV (o:Option Int) (w:World) (e:Ending) (w':World):Prop:=Below w.heap.size w w'/\match o with
 | none=>∃ N,e = .returned (.tuple #[.int .i64 N,.bool false])
 | some N=>e = .returned (.tuple #[.int .i64 N,.bool true])
theorem EndE.v {l:List ByteArray} {w w':World} {e:Ending} (h:EndE w l e w'):EndV (ki l) w e w':=by
 obtain ⟨N,b,rfl,hb,hE⟩:=h
 rw [hE]
 cases b with
 | true=>exact ⟨hb,rfl⟩
 | false=>exact ⟨hb,N,rfl⟩
theorem qcD (a b:List ByteArray):sv (a++b)=sv a++sv b:=by simp [sv]
def SayI (X:World) (base g:Nat) (xs:List ByteArray):Prop:=∃ A c,Blk X g 27 #[.slice A xs.length c]/\X.ownsRow base 9 1 (.slice A xs.length c) xs.length (sv xs)
theorem SayI.lt {X:World} {base g:Nat} {xs:List ByteArray} (h:SayI X base g xs):g<X.heap.size:=by
 obtain ⟨A,c,h1,h2⟩:=h
 exact h1.lt
theorem SayI.on {X Y:World} {base g:Nat} {xs:List ByteArray} (h:SayI X base g xs) (hb:Below X.heap.size X Y):SayI Y base g xs:=by
 obtain ⟨A,c,h1,h2⟩:=h
 exact ⟨A,c,h1.below hb h1.lt,qb h2 hb⟩
theorem SayI.put {X:World} {base g n c:Nat} {xs ys:List ByteArray} {A:Option Addr} {v:Value} (h:Blk X g 27 #[v]) (ho:X.ownsRow base 9 1 (.slice A n c) n (sv xs++sv ys)) (hn:n=xs.length+ys.length) (hg:g<base):SayI (X.setCell ⟨g,0,none⟩ (.slice A n c)) base g (xs++ys):=by
 subst hn
 refine ⟨A,c,?_,?_⟩
 ·have:=h.set_ 0 (.slice A (xs.length+ys.length) c)
  rw [List.length_append]
  simpa using this
 ·rw [List.length_append,qcD]
  exact zZ ho hg _
end Go.Proofs.YticbpkghcglgkaaGreatDoor
