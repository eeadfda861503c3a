/- Joined texts: Un0. -/
import Derived.Test.YtholajadbbdcmaaGreatDoorQAB
import Derived.Test.YtholajadbbdcmaaGreatDoorQAG
set_option linter.unusedVariables false
set_option linter.unusedSimpArgs false
set_option linter.unnecessarySimpa false
namespace Go.Proofs.YtholajadbbdcmaaGreatDoor
theorem step_on {s : US} {b : Nat} {t out : List Nat} (h0 : 0 < s.m) (h1 : s.lo ≤ b) (h2 : b ≤ s.hi) (h3 : s.m ≠ 1) : uRun (b :: t) (s, out) = uRun t (⟨s.v * 64 + b % 64, s.m - 1, 0x80, 0xBF⟩, out) := uRun_on (by omega) h1 h2 t out
theorem step_last {s : US} {b : Nat} {t out : List Nat} (h0 : s.m = 1) (h1 : s.lo ≤ b) (h2 : b ≤ s.hi) : uRun (b :: t) (s, out) = uRun t (⟨s.v * 64 + b % 64, s.m - 1, 0x80, 0xBF⟩, out ++ [s.v * 64 + b % 64]) := by rw [uRun_last h0 h1 h2, h0]
theorem step_back {s : US} {b : Nat} {t out : List Nat} (h0 : 0 < s.m) (h1 : ¬ (s.lo ≤ b ∧ b ≤ s.hi)) : uRun (b :: t) (s, out) = uRun (b :: t) (u0, out ++ [65533]) := by
 have e : uTake s b = false := by
  cases h : uTake s b with
  | false => rfl
  | true => exact absurd (uTake_iff.1 h).2 h1
 show uRun t (uNext s b, out ++ uOut s b) = uRun t (uNext u0 b, out ++ [65533] ++ uOut u0 b)
 have e0 : uTake u0 b = false := uTake_no rfl b
 rw [uNext, uNext, e, e0, uOut, uOut, e, e0]
 simp only [Bool.false_eq_true, if_false, if_pos h0]
 rw [if_neg (show ¬ 0 < u0.m from Nat.lt_irrefl 0)]
 simp
theorem step_asc {s : US} {b : Nat} {t out : List Nat} (h0 : s.m = 0) (h1 : b < 128) : uRun (b :: t) (s, out) = uRun t (begU b, out ++ [b]) := uRun_asc h0 h1 t out
theorem step_bad {s : US} {b : Nat} {t out : List Nat} (h0 : s.m = 0) (h1 : ¬ b < 128) (h2 : (begU b).m = 0) : uRun (b :: t) (s, out) = uRun t (begU b, out ++ [65533]) := by
 show uRun t (uNext s b, out ++ uOut s b) = _
 rw [uNext, uOut, uTake_no h0]
 simp only [Bool.false_eq_true, if_false]
 rw [if_neg (by omega), if_neg h1, if_pos h2]
 rfl
theorem step_lead {s : US} {b : Nat} {t out : List Nat} (h0 : s.m = 0) (h1 : ¬ b < 128) (h2 : (begU b).m ≠ 0) : uRun (b :: t) (s, out) = uRun t (begU b, out) := uRun_lead h0 (by omega) rfl h2 t out
section
variable {l t outs : List Nat} {sv sm slo shi b : Nat} {F : US × List Nat}
theorem run_on (h : uRun l (⟨sv, sm, slo, shi⟩, outs) = F) (hl : l = b :: t) (h0 : 0 < sm) (h1 : slo ≤ b) (h2 : b ≤ shi) (h3 : sm ≠ 1) : uRun t (⟨sv * 64 + b % 64, sm - 1, 128, 191⟩, outs) = F := by
 rw [← h, hl, step_on (s := ⟨sv, sm, slo, shi⟩) h0 h1 h2 h3]
theorem run_last (h : uRun l (⟨sv, 1, slo, shi⟩, outs) = F) (hl : l = b :: t) (h1 : slo ≤ b) (h2 : b ≤ shi) : uRun t (⟨sv * 64 + b % 64, 0, 128, 191⟩, outs ++ [sv * 64 + b % 64]) = F := by
 rw [← h, hl, step_last (s := ⟨sv, 1, slo, shi⟩) rfl h1 h2]
 rfl
theorem run_back (h : uRun l (⟨sv, sm, slo, shi⟩, outs) = F) (hl : l = b :: t) (h0 : 0 < sm) (h1 : ¬ (slo ≤ b ∧ b ≤ shi)) : uRun l (u0, outs ++ [65533]) = F := by
 rw [← h, hl, step_back (s := ⟨sv, sm, slo, shi⟩) h0 h1]
theorem run_asc {s : US} (h : uRun l (s, outs) = F) (hl : l = b :: t) (h0 : s.m = 0) (h1 : b < 128) : uRun t (begU b, outs ++ [b]) = F := by
 rw [← h, hl, step_asc h0 h1]
theorem run_bad {s : US} (h : uRun l (s, outs) = F) (hl : l = b :: t) (h0 : s.m = 0) (h1 : ¬ b < 128) (h2 : (begU b).m = 0) : uRun t (begU b, outs ++ [65533]) = F := by
 rw [← h, hl, step_bad h0 h1 h2]
theorem run_lead {s : US} (h : uRun l (s, outs) = F) (hl : l = b :: t) (h0 : s.m = 0) (h1 : ¬ b < 128) (h2 : (begU b).m ≠ 0) : uRun t (begU b, outs) = F := by
 rw [← h, hl, step_lead h0 h1 h2]
end
def KeptU (K : List Nat) (s : US) : Prop :=
 (s.m = 0 ∧ K = []) ∨ (0 < s.m ∧ ∃ b0 rest, K = b0 :: rest ∧ b0 < 256 ∧ (begU b0).m = s.m + rest.length ∧ (rest = [] → begU b0 = s) ∧ (rest ≠ [] → s.lo = 128 ∧ s.hi = 191) ∧
  rest.foldl (fun n b => n * 64 + b - 128) (begU b0).v = s.v ∧ ∀ x ∈ rest, 128 ≤ x ∧ x ≤ 191)
theorem keptU_u0 : KeptU [] u0 := .inl ⟨rfl, rfl⟩
theorem KeptU.beg {b : Nat} (hb : b < 256) (h : (begU b).m ≠ 0) : KeptU [b] (begU b) := .inr ⟨by omega, b, [], rfl, hb, rfl, fun _ => rfl, fun h => absurd rfl h, rfl, fun x hx => by cases hx⟩
theorem begU_lim (b : Nat) : 128 ≤ (begU b).lo ∧ (begU b).hi ≤ 191 := by
 unfold begU
 dsimp only
 constructor
 ·split
  ·omega
  ·split <;> omega
 ·split
  ·omega
  ·split <;> omega
theorem KeptU.snoc {K : List Nat} {s : US} {b : Nat} (h : KeptU K s) (h0 : 1 < s.m) (h1 : s.lo ≤ b) (h2 : b ≤ s.hi) : KeptU (K ++ [b]) ⟨s.v * 64 + b % 64, s.m - 1, 0x80, 0xBF⟩ := by
 rcases h with ⟨h, _⟩ | ⟨_, b0, rest, rfl, hb, hm, hr, hr2, hv, hx⟩
 ·omega
 ·have hb2 : 128 ≤ b ∧ b ≤ 191 := by
   by_cases e : rest = []
   ·have := hr e
    subst this
    have := begU_lim b0
    omega
   ·have := hr2 e
    omega
  refine .inr ⟨by dsimp only; omega, b0, rest ++ [b], rfl, hb, ?_, fun e => absurd e (by simp), fun _ => ⟨rfl, rfl⟩, ?_, fun x h => ?_⟩
  ·rw [List.length_append, List.length_singleton]
   dsimp only
   omega
  ·rw [List.foldl_append, hv]
   dsimp only [List.foldl]
   omega
  ·rcases List.mem_append.1 h with h | h
   ·exact hx x h
   ·rw [List.mem_singleton] at h
    subst h
    exact hb2
def valU (K : List Nat) : Nat := match K with
 | [] => 0
 | b0 :: rest => rest.foldl (fun n b => n * 64 + b - 128) (begU b0).v
theorem KeptU.whole {K : List Nat} {s : US} {b : Nat} (h : KeptU K s) (h0 : s.m = 1) (h1 : s.lo ≤ b) (h2 : b ≤ s.hi) : valU (K ++ [b]) = s.v * 64 + b % 64 ∧ ∃ b0 rest, K ++ [b] = b0 :: rest ∧ b0 < 256 ∧ (begU b0).m = rest.length ∧ 0 < rest.length ∧ ∀ x ∈ rest, 128 ≤ x ∧ x ≤ 191 := by
 rcases h with ⟨h, _⟩ | ⟨_, b0, rest, rfl, hb, hm, hr, hr2, hv, hx⟩
 ·omega
 ·have hb2 : 128 ≤ b ∧ b ≤ 191 := by
   by_cases e : rest = []
   ·have := hr e
    subst this
    have := begU_lim b0
    omega
   ·have := hr2 e
    omega
  refine ⟨?_, b0, rest ++ [b], rfl, hb, by rw [List.length_append, List.length_singleton]; omega, by simp, fun x h => ?_⟩
  ·show (rest ++ [b]).foldl _ (begU b0).v = _
   rw [List.foldl_append, hv]
   dsimp only [List.foldl]
   omega
  ·rcases List.mem_append.1 h with h | h
   ·exact hx x h
   ·rw [List.mem_singleton] at h
    subst h
    exact hb2
def limU (K : List Nat) : Nat × Nat × Nat := match K with
 | [] => (0, 255, 0)
 | b :: rest => (if rest = [] then (begU b).lo else 128, if rest = [] then (begU b).hi else 191, if (begU b).m = 0 then 0 else (begU b).m + 1)
theorem KeptU.lim {K : List Nat} {s : US} (h : KeptU K s) (hK : 0 < s.m) : limU K = (s.lo, s.hi, K.length + s.m) := by
 rcases h with ⟨h, _⟩ | ⟨_, b0, rest, rfl, hb, hm, hr, hr2, hv, hx⟩
 ·omega
 ·unfold limU
  dsimp only
  rw [if_neg (show ¬ (begU b0).m = 0 by omega), hm]
  by_cases e : rest = []
  ·rw [if_pos e, if_pos e, hr e, e]
   simp
   omega
  ·obtain ⟨a, c⟩ := hr2 e
   rw [if_neg e, if_neg e, a, c]
   simp
   omega
end Go.Proofs.YtholajadbbdcmaaGreatDoor
