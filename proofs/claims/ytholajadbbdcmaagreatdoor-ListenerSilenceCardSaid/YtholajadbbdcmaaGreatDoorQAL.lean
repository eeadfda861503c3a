/- Joined texts: Un2, Ut4, Lib3. -/
import Derived.Shelf.Strings.OnBuilder
import Derived.Shelf.Strings.BuilderF
import Derived.Shelf.Strings.BuilderK
import Derived.Shelf.Strings.BuilderRune
import Derived.Shelf.Utf8.AppendRunePlain
import Derived.Shelf.LaysM
import Derived.Shelf.Strings.SplitShaped
import Derived.Shelf.Unicode.Decode
import Derived.Shelf.Unicode.DecodeAny
import Derived.Shelf.Strings.MapAny
import Derived.Shelf.Strings.CaseAny
import Derived.Shelf.Unicode.ExclAny
import Derived.Shelf.Unicode.ValidAny
import Derived.Test.YtholajadbbdcmaaGreatDoorQAA
import Derived.Test.YtholajadbbdcmaaGreatDoorQAB
import Derived.Test.YtholajadbbdcmaaGreatDoorQAC
import Derived.Test.YtholajadbbdcmaaGreatDoorQAG
set_option linter.unusedVariables false
set_option linter.unusedSimpArgs false
set_option linter.unnecessarySimpa false
namespace Go.Proofs.YtholajadbbdcmaaGreatDoor
open Go.RowKit
def chV (l : List Nat) : List Value := l.map fun (r : Nat) => Value.int .i32 (r : Int)
theorem chV_len (l : List Nat) : (chV l).length = l.length := by simp [chV]
theorem chV_one (l : List Nat) : (chV l).all Value.oneCell' = true := by
 rw [List.all_eq_true]
 intro u hu
 simp [chV] at hu
 obtain ⟨i, _, rfl⟩ := hu
 rfl
theorem chV_app (a b : List Nat) : chV (a ++ b) = chV a ++ chV b := by simp [chV]
theorem chV_get (l : List Nat) (k : Nat) (h : k < l.length) : (chV l)[k]? = some (.int .i32 (l[k] : Int)) := by simp [chV, h]
theorem elt_i32 : Elt Tryz.prog 169 21 (.int .i32 0) 1 4 where
 und := Tryz.underlying169
 row := by
  have h : (Tryz.prog.info? 21).map (fun i => (i.zero, i.size, i.bytes)) = some (some (.int .i32 0), 1, 4) := by kernel_rfl
  obtain ⟨i, hi, a, b, c⟩ := info_parts h
  exact ⟨i, hi, a, b, c⟩
 zs := rfl
 pos := by decide
theorem own_keep {w w' : World} {base size n : Nat} {e : TypeId} {v : Value} {xs : List Value} (h : w.ownsRow base e size v n xs) (hk : ∀ k, base ≤ k → w'.heap[k]? = w.heap[k]?) : w'.ownsRow base e size v n xs := by
 refine ⟨h.1, ?_⟩
 rcases h.2 with h0 | ⟨g, cap, cur, rfl, h1, h2, h3⟩
 ·exact .inl h0
 ·exact .inr ⟨g, cap, cur, rfl, h1, (hk g h1).trans h2, h3⟩
theorem own_set {w : World} {base size n : Nat} {e : TypeId} {v : Value} {xs : List Value} (h : w.ownsRow base e size v n xs) {p : Addr} (hp : p.block < base) (u : Value) : (w.setCell p u).ownsRow base e size v n xs :=
 own_keep h fun k hk => Below.heap_setCell w p u k (by omega)
theorem own_snoc {w : World} {base c x : Nat} {A : Option Addr} {e : TypeId} {outs : List Nat} {v : Int} (h : w.ownsRow base e 1 (.slice A (outs.length + 1) c) (outs.length + 1) (chV outs ++ [.int .i32 v])) (hv : (x : Int) = v) :
  w.ownsRow base e 1 (.slice A (outs ++ [x]).length c) (outs ++ [x]).length (chV (outs ++ [x])) := by
 rw [chV_app, List.length_append, List.length_singleton]
 subst hv
 exact h
end Go.Proofs.YtholajadbbdcmaaGreatDoor
namespace Go.Proofs.YtholajadbbdcmaaGreatDoor
theorem decodeL_at (s : ByteArray) (i : Nat) : Lib.decodeL (s.data.toList.drop i) = Utf8.decode s i := Lib.decodeL_drop s i
theorem validGoD_iff (s : ByteArray) : ∀ f i, Lib.validGoD f (s.data.toList.drop i) = true ↔ validN s f i
 | 0, i => by simp [Lib.validGoD, validN]
 | f + 1, i => by
  rw [Lib.validGoD.eq_2, validN, decodeL_at]
  by_cases h : i < s.size
  ·have hne : s.data.toList.drop i ≠ [] := fun e => by
    have := congrArg List.length e
    simp at this
    have h2 : s.size = s.data.size := rfl
    omega
   rw [if_neg hne, if_pos h, List.drop_drop]
   by_cases hb : (Utf8.decode s i).1 = 65533 ∧ (Utf8.decode s i).2 = 1
   ·rw [if_pos hb]
    simp [hb]
   ·rw [if_neg hb, validGoD_iff s f]
    simp [hb]
  ·have hnil : s.data.toList.drop i = [] := List.drop_of_length_le (by simp; exact Nat.le_of_not_lt h)
   rw [if_pos hnil, if_neg h]
   simp
theorem validD_eq (s : ByteArray) : Lib.validD s.data.toList = validB s := by
 rw [Bool.eq_iff_iff, validB_iff, ← validGoD_iff s s.size 0]
 rfl
theorem encodeZ {r : Nat} (h : isChN r) : Lib.encodeRuneZ (r : Int) = (encN r).map fun (b : Nat) => (b : Int) := by
 unfold isChN at h
 unfold Lib.encodeRuneZ encN
 split
 ·rw [if_pos (by omega)]; rfl
 ·split
  ·rw [if_neg (by omega), if_pos (by omega)]
   simp
  ·split
   ·rw [if_neg (by omega), if_neg (by omega), if_pos (by omega)]
    simp
   ·split
    ·rw [if_neg (by omega), if_neg (by omega), if_neg (by omega)]
     simp
    ·omega
end Go.Proofs.YtholajadbbdcmaaGreatDoor
namespace Go.Proofs
open Go.Shelf
def Tryz.laysValid_ren : Go.Shelf.Ren := ⟨fun | 196 => 146 | 259 => 168 | n => n, fun | 9 => 9 | 4 => 4 | 3 => 3 | 5 => 5 | 12 => 12 | 119 => 90 | 0 => 0 | 46 => 178 | 139 => 223 | 138 => 222 | 53 => 231 | n => n, fun | 3 => 4 | 4 => 5 | n => n⟩
theorem Tryz.laysValid : Go.Proofs.Lays.n196 Tryz.prog Tryz.laysValid_ren := {
 mixed := by kernel_rfl
 f196 := Tryz.func146.trans (congrArg some (by kernel_rfl))
 f259 := Tryz.func168.trans (congrArg some (by kernel_rfl))
 t0 := Tryz.underlying0
 a0 := Tryz.isAgg0
 z0 := Tryz.sizeOf0
 v0 := Tryz.zeroValue0
 t3 := Tryz.underlying3
 a3 := Tryz.isAgg3
 z3 := Tryz.sizeOf3
 v3 := Tryz.zeroValue3
 t4 := Tryz.underlying4
 a4 := Tryz.isAgg4
 z4 := Tryz.sizeOf4
 v4 := Tryz.zeroValue4
 t5 := Tryz.underlying5
 a5 := Tryz.isAgg5
 z5 := Tryz.sizeOf5
 v5 := Tryz.zeroValue5
 t9 := Tryz.underlying9
 a9 := Tryz.isAgg9
 z9 := Tryz.sizeOf9
 v9 := Tryz.zeroValue9
 t12 := Tryz.underlying12
 a12 := Tryz.isAgg12
 z12 := Tryz.sizeOf12
 v12 := Tryz.zeroValue12
 t46 := Tryz.underlying178
 a46 := Tryz.isAgg178
 z46 := Tryz.sizeOf178
 v46 := Tryz.zeroValue178
 t53 := Tryz.underlying231
 a53 := Tryz.isAgg231
 z53 := Tryz.sizeOf231
 v53 := Tryz.zeroValue231
 t119 := Tryz.underlying90
 a119 := Tryz.isAgg90
 z119 := Tryz.sizeOf90
 t138 := Tryz.underlying222
 a138 := Tryz.isAgg222
 z138 := Tryz.sizeOf222
 v138 := Tryz.zeroValue222
 t139 := Tryz.underlying223
 a139 := Tryz.isAgg223
 z139 := Tryz.sizeOf223
 v139 := Tryz.zeroValue223
 g3 := by kernel_rfl
 g4 := by kernel_rfl }
end Go.Proofs
