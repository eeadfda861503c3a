/- Joined texts: Sy1, Wo0. -/
import Derived.Test.YtholajadbbdcmaaGreatDoorQAA
import Derived.Test.YtholajadbbdcmaaGreatDoorQAB
import Derived.Test.YtholajadbbdcmaaGreatDoorQAC
import Derived.Test.YtholajadbbdcmaaGreatDoorQAE
import Derived.Test.YtholajadbbdcmaaGreatDoorQAF
import Derived.Test.YtholajadbbdcmaaGreatDoorQAG
import Derived.Test.YtholajadbbdcmaaGreatDoorQAH
import Derived.Test.YtholajadbbdcmaaGreatDoorQAI
import Derived.Test.YtholajadbbdcmaaGreatDoorQAM
import Derived.Test.YtholajadbbdcmaaGreatDoorQAR
set_option linter.unusedVariables false
set_option linter.unusedSimpArgs false
set_option linter.unnecessarySimpa false
namespace Go.Proofs.YtholajadbbdcmaaGreatDoor
open Go.RowKit
set_option maxRecDepth 20000
def Sty (w : World) : Prop := ∀ i : Nat, i < 4 → w.cell? ⟨6, i, none⟩ = some (.string (styB i))
theorem Sty.below {w w' : World} {B : Nat} (h : Sty w) (hb : Below B w w') (hB : w.heap.size ≤ B) : Sty w' := fun i hi => (hb.cell (Nat.lt_of_lt_of_le (cell_lt (h i hi)) hB)).trans (h i hi)
end Go.Proofs.YtholajadbbdcmaaGreatDoor
namespace Go.Proofs.YtholajadbbdcmaaGreatDoor
open Go.RowKit
def GW (g : Gl) : Prop := GOK g ∧ 0 ≤ g.style ∧ g.style ≤ 3
theorem wordsFrom_succ (s : Setts) (f : Nat) (q : Spk) (g : Gl) (t : List Gl) : wordsFrom s (f + 1) q (g :: t) =
  if skipsB q s (g :: t) (pieceL (g :: t) s.rep) = true then wordsFrom s f { q with silent := true } ((g :: t).drop (pieceL (g :: t) s.rep))
  else wordsFrom s f (sayL q s ((g :: t).take (pieceL (g :: t) s.rep))) ((g :: t).drop (pieceL (g :: t) s.rep)) := by
 show (if g :: t = [] then q else _) = _
 rw [if_neg (by simp)]
theorem wordsFrom_fuel (s : Setts) : ∀ (f f' : Nat) (q : Spk) (l : List Gl), l.length ≤ f → l.length ≤ f' → wordsFrom s f q l = wordsFrom s f' q l
 | 0, f', q, l, h1, h2 => by
  obtain rfl : l = [] := List.length_eq_zero_iff.1 (by omega)
  cases f' with
  | zero => rfl
  | succ f' => simp [wordsFrom]
 | f + 1, 0, q, l, h1, h2 => by
  obtain rfl : l = [] := List.length_eq_zero_iff.1 (by omega)
  simp [wordsFrom]
 | f + 1, f' + 1, q, l, h1, h2 => by
  cases l with
  | nil => simp [wordsFrom]
  | cons g t =>
   have hp := pieceL_pos (g := g) (t := t) s.rep
   have hd : ((g :: t).drop (pieceL (g :: t) s.rep)).length ≤ t.length := by
    rw [List.length_drop, List.length_cons]; omega
   rw [List.length_cons] at h1 h2
   rw [wordsFrom_succ, wordsFrom_succ]
   have e := fun q' => wordsFrom_fuel s f f' q' ((g :: t).drop (pieceL (g :: t) s.rep)) (by omega) (by omega)
   rw [e, e]
theorem wordsFrom_cons (s : Setts) (q : Spk) (g : Gl) (t : List Gl) : wordsFrom s (g :: t).length q (g :: t) =
  if skipsB q s (g :: t) (pieceL (g :: t) s.rep) = true then wordsFrom s ((g :: t).drop (pieceL (g :: t) s.rep)).length { q with silent := true } ((g :: t).drop (pieceL (g :: t) s.rep))
  else wordsFrom s ((g :: t).drop (pieceL (g :: t) s.rep)).length (sayL q s ((g :: t).take (pieceL (g :: t) s.rep))) ((g :: t).drop (pieceL (g :: t) s.rep)) := by
 have hp := pieceL_pos (g := g) (t := t) s.rep
 have hd : ((g :: t).drop (pieceL (g :: t) s.rep)).length ≤ t.length := by
  rw [List.length_drop, List.length_cons]; omega
 rw [List.length_cons, wordsFrom_succ]
 have e := fun q' => wordsFrom_fuel s t.length _ q' ((g :: t).drop (pieceL (g :: t) s.rep)) hd (Nat.le_refl _)
 rw [e, e]
def WoI (S : Setts) (R : List ByteArray) (q : Spk) (rest : List Gl) : Prop :=
 R = (wordsFrom S rest.length q rest).out ∧ (∀ x ∈ rest, GW x) ∧ q.out.length + 50000 * rest.length ≤ 50000000 ∧ (∀ s ∈ q.out, s.size ≤ maxLen)
theorem WoI.len {S : Setts} {R : List ByteArray} {q : Spk} {l : List Gl} (h : WoI S R q l) : l.length ≤ 1000 := by
 have := h.2.2.1
 omega
theorem WoI.skip {S : Setts} {R : List ByteArray} {q : Spk} {g : Gl} {t : List Gl} (h : WoI S R q (g :: t)) (hb : skipsB q S (g :: t) (pieceL (g :: t) S.rep) = true) :
  WoI S R { q with silent := true } ((g :: t).drop (pieceL (g :: t) S.rep)) := by
 obtain ⟨h1, h2, h3, h4⟩ := h
 rw [wordsFrom_cons, if_pos hb] at h1
 refine ⟨h1, fun x hx => h2 x (List.mem_of_mem_drop hx), ?_, h4⟩
 show q.out.length + 50000 * ((g :: t).drop _).length ≤ _
 rw [List.length_drop]
 omega
theorem WoI.start (S : Setts) (l : List Gl) (hl : l.length ≤ 1000) (h : ∀ x ∈ l, GW x) : WoI S (spokenWords l S) ⟨[], 0, 0, false⟩ l := by
 refine ⟨rfl, h, ?_, by simp⟩
 simp
 omega
end Go.Proofs.YtholajadbbdcmaaGreatDoor
