/- Joined texts: Um2, Ul0, Ul1. -/
import Derived.Test.YtholajadbbdcmaaGreatDoorQAA
import Derived.Test.YtholajadbbdcmaaGreatDoorQAB
import Derived.Test.YtholajadbbdcmaaGreatDoorQAC
import Derived.Test.YtholajadbbdcmaaGreatDoorQAF
import Derived.Test.YtholajadbbdcmaaGreatDoorQAG
import Derived.Test.YtholajadbbdcmaaGreatDoorQAH
import Derived.Test.YtholajadbbdcmaaGreatDoorQAI
import Derived.Test.YtholajadbbdcmaaGreatDoorQAM
import Derived.Test.YtholajadbbdcmaaGreatDoorQAN
import Derived.Test.YtholajadbbdcmaaGreatDoorQAQ
import Derived.Test.YtholajadbbdcmaaGreatDoorQAS
import Derived.Test.YtholajadbbdcmaaGreatDoorQAT
import Derived.Test.YtholajadbbdcmaaGreatDoorQAU
import Derived.Test.YtholajadbbdcmaaGreatDoorQAY
import Derived.Test.YtholajadbbdcmaaGreatDoorQBA
import Derived.Test.YtholajadbbdcmaaGreatDoorQBB
import Derived.Test.YtholajadbbdcmaaGreatDoorQBC
import Derived.Test.YtholajadbbdcmaaGreatDoorQBD
import Derived.Test.YtholajadbbdcmaaGreatDoorQBF
import Derived.Test.YtholajadbbdcmaaGreatDoorQBG
import Derived.Test.YtholajadbbdcmaaGreatDoorQBM
import Derived.Test.YtholajadbbdcmaaGreatDoorQBN
import Derived.Test.YtholajadbbdcmaaGreatDoorQBO
set_option linter.unusedVariables false
set_option linter.unusedSimpArgs false
set_option linter.unnecessarySimpa false
namespace Go.Proofs.YtholajadbbdcmaaGreatDoor
open Go.RowKit
set_option maxRecDepth 20000
theorem chg_ext {a b : Chg} (h1 : a.kind = b.kind) (h2 : a.row = b.row) (h3 : a.col = b.col) (h4 : a.count = b.count) (h5 : a.til = b.til) (h6 : a.glyphs = b.glyphs) : a = b := by
 cases a; cases b
 simp only at h1 h2 h3 h4 h5 h6
 subst h1 h2 h3 h4 h5 h6
 rfl
instance : DecidableEq Chg := fun a b => if h : a.kind = b.kind ∧ a.row = b.row ∧ a.col = b.col ∧ a.count = b.count ∧ a.til = b.til ∧ a.glyphs = b.glyphs then isTrue (chg_ext h.1 h.2.1 h.2.2.1 h.2.2.2.1 h.2.2.2.2.1 h.2.2.2.2.2) else isFalse fun e => h (by subst e; exact ⟨rfl, rfl, rfl, rfl, rfl, rfl⟩)
def eCh : Chg := ⟨3, 4, 0, 0, 0, [⟨⟨#[111]⟩, false, 0⟩, ⟨⟨#[107]⟩, false, 0⟩]⟩
theorem WdR.own {w : World} {base n c : Nat} {A : Option Addr} {l : List ByteArray} (h : w.ownsRow base 9 1 (.slice A n c) n (sv l)) (hs : ∀ s ∈ l, s.size ≤ 1000) : WdR w w.heap.size l A n c := by
 have hl : l.length = n := by have := (Rd.of_own h).1; rw [sv_len] at this; omega
 exact ⟨hl, (own_caps h).1, (own_caps h).2, Rd.of_own h, hs⟩
theorem WdR.more {w : World} {B B' : Nat} {l : List ByteArray} {A : Option Addr} {n c : Nat} (h : WdR w B l A n c) (hb : B ≤ B') : WdR w B' l A n c := ⟨h.len, h.cap, h.max, h.rd.more hb, h.sz⟩
def ExI (w X : World) : Prop := RdC X X.heap.size (some ⟨w.heap.size + 1, 0, none⟩) 1 [⟨eCh, some ⟨w.heap.size, 0, none⟩, 2⟩] ∧ Below w.heap.size w X
theorem ExI.on {w X Y : World} (h : ExI w X) (hb : Below X.heap.size X Y) : ExI w Y := ⟨(h.1.below hb).more hb.size, h.2.trans (hb.mono h.2.size)⟩
theorem ExI.new (w : World) : ExI w ((w.alloc (.cells (encGs eCh.glyphs).toArray 89)).alloc (.cells (encC ⟨eCh, some ⟨w.heap.size, 0, none⟩, 2⟩).toArray 72)) := by
 have hr : Rd (w.alloc (.cells (encGs eCh.glyphs).toArray 89)) (w.heap.size + 1) 3 (some ⟨w.heap.size, 0, none⟩) 2 (encGs eCh.glyphs) := rd_built rfl rfl
 have hb2 : Below (w.heap.size + 1) (w.alloc (.cells (encGs eCh.glyphs).toArray 89)) ((w.alloc (.cells (encGs eCh.glyphs).toArray 89)).alloc (.cells (encC ⟨eCh, some ⟨w.heap.size, 0, none⟩, 2⟩).toArray 72)) := (Below.refl _ _).alloc (by simp) _
 refine ⟨⟨?_, fun x hx => ?_⟩, ((Below.refl _ _).alloc (Nat.le_refl _) _).alloc (by simp) _⟩
 ·exact Rd.more (B := w.heap.size + 1 + 1) (rd_built (xs := encC ⟨eCh, some ⟨w.heap.size, 0, none⟩, 2⟩) (by simp) rfl) (by simp)
 ·rw [List.mem_singleton] at hx
  subst hx
  exact ⟨(hr.below hb2).more (by simp), (by show 2 ≤ 2; decide), (by show 2 ≤ maxLen; decide)⟩
def SzW (l : List ByteArray) : Prop := ∀ s ∈ l, s.size ≤ 1000
theorem SzW.nil : SzW [] := fun s hs => by cases hs
theorem SzW.cons {a : ByteArray} {l : List ByteArray} (h : a.size ≤ 1000) (hl : SzW l) : SzW (a :: l) := fun s hs => by
 rcases List.mem_cons.1 hs with rfl | hs
 ·exact h
 ·exact hl s hs
theorem SzW.app {a b : List ByteArray} (h : SzW a) (hl : SzW b) : SzW (a ++ b) := fun s hs => by
 rcases List.mem_append.1 hs with hs | hs
 ·exact h s hs
 ·exact hl s hs
theorem bothG {P : Program} {f : FuncId} {args : Array Value} {w X : World} {v : Value} (h : Calls P f args X (Gives v X)) (hb : Below w.heap.size w X) : Calls P f args X fun e X' => e = .returned v ∧ Below w.heap.size w X' ∧ Below X.heap.size X X' :=
 h.mono fun _ _ ⟨h1, h2⟩ => ⟨h1, hb.trans (h2.mono hb.size), h2⟩
theorem bothS {P : Program} {f : FuncId} {args : Array Value} {w X : World} {v : Value} (h : Calls P f args X fun e X' => e = .returned v ∧ X' = X) (hb : Below w.heap.size w X) : Calls P f args X fun e X' => e = .returned v ∧ Below w.heap.size w X' ∧ Below X.heap.size X X' :=
 h.mono fun _ _ ⟨h1, h2⟩ => by subst h2; exact ⟨h1, hb, Below.refl _ _⟩
end Go.Proofs.YtholajadbbdcmaaGreatDoor
