/- A region that draws its order and whose calls make new memory alone: one walk in the order of the text (the kit's quiet walk, at the class of worlds that keep what lies below a block). -/
import Derived.Test.YtgmodadgmnfhgaaKit
import Derived.Deep.QuietTactic
import Derived.BigQuiet
namespace Go.Proofs.Ytgmodadgmnfhgaa
open Go.RowKit
structure Near (B : Nat) (wb : World) where
  w : World
  h : Below B wb w
instance {B : Nat} {wb : World} : Nonempty (Near B wb) := ⟨⟨wb, Below.refl B wb⟩⟩
theorem wp_region_near {P : Program} {id : Nat} {Q : Exit → Act → World → Prop} {a : Act} {w : World} {l : List Oper} (B : Nat) (hm : P.follows .mixedOrders = true) (hB : Region.lexB .any l.toArray = true)
    (h : wpQuiet P l.toArray (fun w' => ∃ x : Near B w, w' = x.w) (fun a' => ∀ w', (∃ x : Near B w, w' = x.w) → Q .normal a' w') l a) : (Code.region id l.toArray true).wp P Q a w :=
  wp_region_quiet (C := fun w' => ∃ x : Near B w, w' = x.w) hm hB ⟨⟨w.drew, (Below.refl B w).drew⟩, rfl⟩ (by simpa using h)
theorem Calls.near {P : Program} {f : FuncId} {args : Array Value} {B : Nat} {wb : World} {v : Value} (x : Near B wb) (hB : B ≤ wb.heap.size) (h : Calls P f args x.w (Gives v x.w)) :
    Calls P f args x.w fun e w'' => e = .returned v ∧ ∃ y : Near B wb, w'' = y.w :=
  h.mono fun _ w'' ⟨he, hb⟩ => ⟨he, ⟨w'', x.h.trans (hb.mono (Nat.le_trans hB x.h.size))⟩, rfl⟩
end Go.Proofs.Ytgmodadgmnfhgaa
