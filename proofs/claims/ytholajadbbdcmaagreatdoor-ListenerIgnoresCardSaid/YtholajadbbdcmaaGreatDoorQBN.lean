/- Joined texts: Up2, EachG. -/
import Derived.Test.YtholajadbbdcmaaGreatDoorQAA
import Derived.Test.YtholajadbbdcmaaGreatDoorQAB
import Derived.Test.YtholajadbbdcmaaGreatDoorQAD
import Derived.Test.YtholajadbbdcmaaGreatDoorQAG
import Derived.Test.YtholajadbbdcmaaGreatDoorQAH
import Derived.Test.YtholajadbbdcmaaGreatDoorQAI
import Derived.Test.YtholajadbbdcmaaGreatDoorQAN
import Derived.Test.YtholajadbbdcmaaGreatDoorQAS
import Derived.Test.YtholajadbbdcmaaGreatDoorQAT
import Derived.Test.YtholajadbbdcmaaGreatDoorQAU
import Derived.Test.YtholajadbbdcmaaGreatDoorQAY
import Derived.Test.YtholajadbbdcmaaGreatDoorQBA
import Derived.Test.YtholajadbbdcmaaGreatDoorQBB
import Derived.Test.YtholajadbbdcmaaGreatDoorQBC
import Derived.Test.YtholajadbbdcmaaGreatDoorQBD
import Derived.Test.YtholajadbbdcmaaGreatDoorQBM
set_option linter.unusedVariables false
set_option linter.unusedSimpArgs false
set_option linter.unnecessarySimpa false
namespace Go.Proofs.YtholajadbbdcmaaGreatDoor
open Go.RowKit
set_option maxRecDepth 20000
def PhS (w : World) (c : Chg) (Ag : Option Addr) (cap : Nat) (r : Int) (d sp : Bool) (p : Int) (con : Bool) (k : Int) (xs : List ByteArray) (X : World) : Prop :=
 ∃ A co, Blk X w.heap.size 72 (chgA c Ag cap) ∧ Blk X (w.heap.size + 1) 39 #[.int .i64 r, .bool d, .bool sp, .int .i64 p, .bool con, .int .i64 k] ∧ Blk X (w.heap.size + 2) 27 #[.slice A xs.length co] ∧ X.ownsRow (w.heap.size + 3) 9 1 (.slice A xs.length co) xs.length (sv xs) ∧ Below w.heap.size w X
section
variable {w X : World} {c : Chg} {Ag : Option Addr} {cap : Nat} {r : Int} {d sp : Bool} {p : Int} {con : Bool} {k : Int} {xs : List ByteArray}
theorem PhS.size (h : PhS w c Ag cap r d sp p con k xs X) : w.heap.size + 3 ≤ X.heap.size := by
 obtain ⟨A, co, h1, h2, h3, h4, h5⟩ := h
 have := h3.lt
 omega
theorem PhS.start (w : World) (c : Chg) (Ag : Option Addr) (cap : Nat) (r : Int) (d sp : Bool) (p : Int) (con : Bool) (k : Int) :
  PhS w c Ag cap r d sp p con k [] (((w.alloc (.cells (chgA c Ag cap) 72)).alloc (.cells #[.int .i64 r, .bool d, .bool sp, .int .i64 p, .bool con, .int .i64 k] 39)).alloc (.cells #[.slice none 0 0] 27)) :=
 ⟨none, 0, ((Blk.new w _ _).alloc _).alloc _, (Blk.new_ (by simp)).alloc _, Blk.new_ (by simp), own_nil _ _ _ _, (((Below.refl _ _).alloc (Nat.le_refl _) _).alloc (by simp) _).alloc (by simp; omega) _⟩
end
end Go.Proofs.YtholajadbbdcmaaGreatDoor
namespace Go.Proofs.YtholajadbbdcmaaGreatDoor
open Go.RowKit
section
variable {P : Program} {G : Type}
def EachG (P : Program) (V : G → Nat → Value → World → Prop) (C : G → Array Bool → Prop) (W : G → World → Prop) (Q : Exit → Act → World → Prop) (l : List Oper) (a : Act) : List Oper → Nat → Prop
 | [], _ => True
 | o :: rest, i => (∀ (s : G) (L : Array Bool) (a' : Act) (w' : World), C s L → W s w' → L.size = l.length → L.getD i false = false → (∀ e ∈ o.after, Region.binds .any e = true → L.getD e.on false = true) → a'.tmps.size = a.tmps.size → (∀ t, (l.filterMap (·.dst)).contains t = false → a'.tmps.getD t undef = a.tmps.getD t undef) →
   (∀ e ∈ o.after, Region.binds .any e = true → ∀ oe d, l[e.on]? = some oe → oe.dst = some d → V s e.on (a'.tmps.getD d undef) w') →
   o.guard = none ∧ o.wp P a' w' (fun a'' w'' => ∃ v s', a'' = a'.put o.dst v ∧ C s' (L.setIfInBounds i true) ∧ W s' w'' ∧ V s' i v w'' ∧ ∀ j u, j ≠ i → L.getD j false = true → V s j u w' → V s' j u w'') Q) ∧ EachG P V C W Q l a rest (i + 1)
theorem EachG.at_ {V : G → Nat → Value → World → Prop} {C : G → Array Bool → Prop} {W : G → World → Prop} {Q : Exit → Act → World → Prop} {l : List Oper} {a : Act} : ∀ (r : List Oper) (k i : Nat) (o : Oper), EachG P V C W Q l a r k → r[i]? = some o →
  (∀ (s : G) (L : Array Bool) (a' : Act) (w' : World), C s L → W s w' → L.size = l.length → L.getD (k + i) false = false → (∀ e ∈ o.after, Region.binds .any e = true → L.getD e.on false = true) → a'.tmps.size = a.tmps.size → (∀ t, (l.filterMap (·.dst)).contains t = false → a'.tmps.getD t undef = a.tmps.getD t undef) →
   (∀ e ∈ o.after, Region.binds .any e = true → ∀ oe d, l[e.on]? = some oe → oe.dst = some d → V s e.on (a'.tmps.getD d undef) w') →
   o.guard = none ∧ o.wp P a' w' (fun a'' w'' => ∃ v s', a'' = a'.put o.dst v ∧ C s' (L.setIfInBounds (k + i) true) ∧ W s' w'' ∧ V s' (k + i) v w'' ∧ ∀ j u, j ≠ k + i → L.getD j false = true → V s j u w' → V s' j u w'') Q)
 | [], _, _, _, _, h => by cases h
 | o :: r, k, 0, o', h, hi => by
  obtain rfl : o = o' := by simpa using hi
  exact h.1
 | o :: r, k, i + 1, o', h, hi => by
  have := EachG.at_ r (k + 1) i o' h.2 (by simpa using hi)
  rwa [show k + 1 + i = k + (i + 1) by omega] at this
end
end Go.Proofs.YtholajadbbdcmaaGreatDoor
