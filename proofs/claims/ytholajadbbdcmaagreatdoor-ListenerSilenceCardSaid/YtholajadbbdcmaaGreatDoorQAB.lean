/- Joined texts: Each, Ut1. -/
import Derived.Lib.Small
import Derived.Test.YtholajadbbdcmaaGreatDoorQAA
set_option linter.unusedVariables false
set_option linter.unusedSimpArgs false
set_option linter.unnecessarySimpa false
namespace Go.Proofs.YtholajadbbdcmaaGreatDoor
open Go.RowKit
section
variable {P : Program}
def EachOp (P : Program) (V : Nat → Value → World → Prop) (W : World → Prop) (T : World → World → Prop) (Q : Exit → Act → World → Prop) (l : List Oper) (a : Act) : List Oper → Nat → Prop
 | [], _ => True
 | o :: rest, i => (∀ (a' : Act) (w' : World), W w' → a'.tmps.size = a.tmps.size → (∀ s, (l.filterMap (·.dst)).contains s = false → a'.tmps.getD s undef = a.tmps.getD s undef) →
   (∀ e ∈ o.after, Region.binds .any e = true → ∀ oe d, l[e.on]? = some oe → oe.dst = some d → V e.on (a'.tmps.getD d undef) w') →
   if Region.wanted o (yielded l.toArray a'.tmps) = true then o.wp P a' w' (fun a'' w'' => ∃ v, a'' = a'.put o.dst v ∧ V i v w'' ∧ W w'' ∧ T w' w'') Q else V i undef w') ∧ EachOp P V W T Q l a rest (i + 1)
theorem EachOp.at_ {V : Nat → Value → World → Prop} {W : World → Prop} {T : World → World → Prop} {Q : Exit → Act → World → Prop} {l : List Oper} {a : Act} : ∀ (r : List Oper) (k i : Nat) (o : Oper), EachOp P V W T Q l a r k → r[i]? = some o →
  (∀ (a' : Act) (w' : World), W w' → a'.tmps.size = a.tmps.size → (∀ s, (l.filterMap (·.dst)).contains s = false → a'.tmps.getD s undef = a.tmps.getD s undef) →
   (∀ e ∈ o.after, Region.binds .any e = true → ∀ oe d, l[e.on]? = some oe → oe.dst = some d → V e.on (a'.tmps.getD d undef) w') →
   if Region.wanted o (yielded l.toArray a'.tmps) = true then o.wp P a' w' (fun a'' w'' => ∃ v, a'' = a'.put o.dst v ∧ V (k + i) v w'' ∧ W w'' ∧ T w' w'') Q else V (k + i) undef w')
 | [], _, _, _, _, h => by cases h
 | o :: r, k, 0, o', h, hi => by
  obtain rfl : o = o' := by simpa using hi
  exact h.1
 | o :: r, k, i + 1, o', h, hi => by
  have := EachOp.at_ r (k + 1) i o' h.2 (by simpa using hi)
  rwa [show k + 1 + i = k + (i + 1) by omega] at this
end
end Go.Proofs.YtholajadbbdcmaaGreatDoor
namespace Go.Proofs.YtholajadbbdcmaaGreatDoor
def wideT : List (Int × Int) := [(0x1100, 0x115F), (0x2E80, 0x303E), (0x3041, 0x33FF), (0x3400, 0x4DBF), (0x4E00, 0x9FFF), (0xA000, 0xA4CF), (0xAC00, 0xD7A3), (0xF900, 0xFAFF), (0xFE30, 0xFE6F), (0xFF00, 0xFF60), (0xFFE0, 0xFFE6), (0x1F300, 0x1F64F), (0x1F900, 0x1F9FF), (0x20000, 0x3FFFD)]
def markT : List (Int × Int) := [(0x0300, 0x036F), (0x1AB0, 0x1AFF), (0x1DC0, 0x1DFF), (0x200B, 0x200F), (0x20D0, 0x20FF), (0xFE00, 0xFE0F), (0xFE20, 0xFE2F)]
def inT (t : List (Int × Int)) (r : Int) : Bool := t.any fun p => decide (p.1 ≤ r) && decide (r ≤ p.2)
def widL (r : Int) : Int := if r < 32 ∨ (127 ≤ r ∧ r ≤ 159) then -1 else if inT markT r = true then 0 else if inT wideT r = true then 2 else 1
def ApartT (t : List (Int × Int)) : Prop := t.Pairwise fun p q => p.2 < q.1
theorem wide_apart : ApartT wideT := by unfold ApartT wideT; decide
theorem mark_apart : ApartT markT := by unfold ApartT markT; decide
theorem wide_up : ∀ p ∈ wideT, p.1 ≤ p.2 := by unfold wideT; decide
theorem mark_up : ∀ p ∈ markT, p.1 ≤ p.2 := by unfold markT; decide
theorem tab_mono {t : List (Int × Int)} (ha : ApartT t) (hu : ∀ p ∈ t, p.1 ≤ p.2) {i j : Nat} (hij : i ≤ j) (hj : j < t.length) : (t[i]'(by omega)).2 ≤ t[j].2 := by
 rcases Nat.lt_or_ge i j with h | h
 ·have h1 := List.pairwise_iff_getElem.1 ha i j (by omega) hj h
  have h2 := hu t[j] (List.getElem_mem hj)
  omega
 ·obtain rfl : i = j := by omega
  exact Int.le_refl _
theorem inT_iff (t : List (Int × Int)) (r : Int) : inT t r = true ↔ ∃ i, ∃ h : i < t.length, t[i].1 ≤ r ∧ r ≤ t[i].2 := by
 unfold inT
 rw [List.any_eq_true]
 constructor
 ·rintro ⟨p, hp, h⟩
  obtain ⟨i, hi, rfl⟩ := List.getElem_of_mem hp
  simp only [Bool.and_eq_true, decide_eq_true_eq] at h
  exact ⟨i, hi, h⟩
 ·rintro ⟨i, hi, h⟩
  refine ⟨t[i], List.getElem_mem hi, ?_⟩
  simp only [Bool.and_eq_true, decide_eq_true_eq]
  exact h
theorem inT_found {t : List (Int × Int)} (ha : ApartT t) {r : Int} {k : Nat} (h1 : ∀ j (h : j < t.length), j < k → t[j].2 < r) (h2 : ∀ j (h : j < t.length), k ≤ j → r ≤ t[j].2) (hk : k ≤ t.length) :
  inT t r = if h : k < t.length then decide (t[k].1 ≤ r) else false := by
 rw [Bool.eq_iff_iff, inT_iff]
 constructor
 ·rintro ⟨i, hi, a, b⟩
  rcases Nat.lt_or_ge i k with c | c
  ·have := h1 i hi c; omega
  ·have hkl : k < t.length := by omega
   rw [dif_pos hkl, decide_eq_true_eq]
   rcases Nat.lt_or_ge k i with d | d
   ·have e1 := List.pairwise_iff_getElem.1 ha k i hkl hi d
    have e2 := h2 k hkl (Nat.le_refl _)
    omega
   ·obtain rfl : i = k := by omega
    exact a
 ·intro h
  by_cases hkl : k < t.length
  ·rw [dif_pos hkl, decide_eq_true_eq] at h
   exact ⟨k, hkl, h, h2 k hkl (Nat.le_refl _)⟩
  ·rw [dif_neg hkl] at h
   cases h
structure US where
 v : Nat
 m : Nat
 lo : Nat
 hi : Nat
def begU (b : Nat) : US :=
 ⟨if 0xC2 ≤ b ∧ b ≤ 0xDF then b % 32 else if 0xE0 ≤ b ∧ b ≤ 0xEF then b % 16 else if 0xF0 ≤ b ∧ b ≤ 0xF4 then b % 8 else 0,
  if 0xC2 ≤ b ∧ b ≤ 0xDF then 1 else if 0xE0 ≤ b ∧ b ≤ 0xEF then 2 else if 0xF0 ≤ b ∧ b ≤ 0xF4 then 3 else 0,
  if b = 0xE0 then 0xA0 else if b = 0xF0 then 0x90 else 0x80,
  if b = 0xED then 0x9F else if b = 0xF4 then 0x8F else 0xBF⟩
def uTake (s : US) (b : Nat) : Bool := decide (0 < s.m) && decide (s.lo ≤ b) && decide (b ≤ s.hi)
def uNext (s : US) (b : Nat) : US := if uTake s b = true then ⟨s.v * 64 + b % 64, s.m - 1, 0x80, 0xBF⟩ else begU b
def uOut (s : US) (b : Nat) : List Nat :=
 if uTake s b = true then (if s.m = 1 then [s.v * 64 + b % 64] else [])
 else (if 0 < s.m then [65533] else []) ++ (if b < 128 then [b] else if (begU b).m = 0 then [65533] else [])
def uRun : List Nat → US × List Nat → US × List Nat
 | [], x => x
 | b :: t, x => uRun t (uNext x.1 b, x.2 ++ uOut x.1 b)
def u0 : US := ⟨0, 0, 0, 0⟩
theorem uRun_app : ∀ (l m : List Nat) (x : US × List Nat), uRun (l ++ m) x = uRun m (uRun l x)
 | [], _, _ => rfl
 | _ :: l, m, _ => uRun_app l m _
def charsL (l : List Nat) : List Nat := (uRun l (u0, [])).2
def encN (r : Nat) : List Nat :=
 if r < 0x80 then [r] else if r < 0x800 then [0xC0 + r / 64, 0x80 + r % 64] else if r < 0x10000 then [0xE0 + r / 4096, 0x80 + r / 64 % 64, 0x80 + r % 64]
 else [0xF0 + r / 262144, 0x80 + r / 4096 % 64, 0x80 + r / 64 % 64, 0x80 + r % 64]
def isChN (r : Nat) : Prop := r < 0xD800 ∨ (0xE000 ≤ r ∧ r < 0x110000)
theorem begU_one {b : Nat} (h : b < 0xC2) : (begU b).m = 0 := by
 show (if 0xC2 ≤ b ∧ b ≤ 0xDF then 1 else if 0xE0 ≤ b ∧ b ≤ 0xEF then 2 else if 0xF0 ≤ b ∧ b ≤ 0xF4 then 3 else 0) = 0
 rw [if_neg (by omega), if_neg (by omega), if_neg (by omega)]
theorem begU_two {b : Nat} (h1 : 0xC2 ≤ b) (h2 : b ≤ 0xDF) : begU b = ⟨b % 32, 1, 0x80, 0xBF⟩ := by
 unfold begU
 rw [if_pos ⟨h1, h2⟩, if_pos ⟨h1, h2⟩, if_neg (by omega), if_neg (by omega), if_neg (by omega), if_neg (by omega)]
theorem begU_three {b : Nat} (h1 : 0xE0 ≤ b) (h2 : b ≤ 0xEF) : begU b = ⟨b % 16, 2, if b = 0xE0 then 0xA0 else 0x80, if b = 0xED then 0x9F else 0xBF⟩ := by
 unfold begU
 rw [if_neg (by omega), if_pos ⟨h1, h2⟩, if_neg (by omega), if_pos ⟨h1, h2⟩, if_neg (show ¬ b = 0xF0 by omega), if_neg (show ¬ b = 0xF4 by omega)]
theorem begU_four {b : Nat} (h1 : 0xF0 ≤ b) (h2 : b ≤ 0xF4) : begU b = ⟨b % 8, 3, if b = 0xF0 then 0x90 else 0x80, if b = 0xF4 then 0x8F else 0xBF⟩ := by
 unfold begU
 rw [if_neg (by omega), if_neg (by omega), if_pos ⟨h1, h2⟩, if_neg (by omega), if_neg (by omega), if_pos ⟨h1, h2⟩, if_neg (show ¬ b = 0xE0 by omega), if_neg (show ¬ b = 0xED by omega)]
theorem uTake_no {s : US} (hs : s.m = 0) (b : Nat) : uTake s b = false := by simp [uTake, hs]
theorem uTake_yes {s : US} {b : Nat} (h0 : 0 < s.m) (h1 : s.lo ≤ b) (h2 : b ≤ s.hi) : uTake s b = true := by simp [uTake, h0, h1, h2]
theorem uRun_asc {s : US} (hs : s.m = 0) {b : Nat} (h : b < 128) (t out : List Nat) : uRun (b :: t) (s, out) = uRun t (begU b, out ++ [b]) := by
 have e1 : uNext s b = begU b := by rw [uNext, uTake_no hs]; rfl
 have e2 : uOut s b = [b] := by rw [uOut, uTake_no hs, if_neg (by simp), if_neg (by omega), if_pos h]; rfl
 show uRun t (uNext s b, out ++ uOut s b) = _
 rw [e1, e2]
theorem uRun_lead {s x : US} (hs : s.m = 0) {b : Nat} (h : 128 ≤ b) (e : begU b = x) (hm : x.m ≠ 0) (t out : List Nat) : uRun (b :: t) (s, out) = uRun t (x, out) := by
 have e1 : uNext s b = x := by rw [uNext, uTake_no hs]; exact e
 have e2 : uOut s b = [] := by rw [uOut, uTake_no hs, if_neg (by simp), if_neg (by omega), if_neg (by omega), e, if_neg hm]; rfl
 show uRun t (uNext s b, out ++ uOut s b) = _
 rw [e1, e2, List.append_nil]
theorem uRun_on {s : US} {b : Nat} (h0 : 1 < s.m) (h1 : s.lo ≤ b) (h2 : b ≤ s.hi) (t out : List Nat) : uRun (b :: t) (s, out) = uRun t (⟨s.v * 64 + b % 64, s.m - 1, 0x80, 0xBF⟩, out) := by
 have e0 : uTake s b = true := uTake_yes (by omega) h1 h2
 have e1 : uNext s b = ⟨s.v * 64 + b % 64, s.m - 1, 0x80, 0xBF⟩ := by rw [uNext, e0]; rfl
 have e2 : uOut s b = [] := by rw [uOut, e0, if_pos rfl, if_neg (by omega)]
 show uRun t (uNext s b, out ++ uOut s b) = _
 rw [e1, e2, List.append_nil]
theorem uRun_last {s : US} {b : Nat} (h0 : s.m = 1) (h1 : s.lo ≤ b) (h2 : b ≤ s.hi) (t out : List Nat) : uRun (b :: t) (s, out) = uRun t (⟨s.v * 64 + b % 64, 0, 0x80, 0xBF⟩, out ++ [s.v * 64 + b % 64]) := by
 have e0 : uTake s b = true := uTake_yes (by omega) h1 h2
 have e1 : uNext s b = ⟨s.v * 64 + b % 64, 0, 0x80, 0xBF⟩ := by rw [uNext, e0, h0]; rfl
 have e2 : uOut s b = [s.v * 64 + b % 64] := by rw [uOut, e0, if_pos rfl, if_pos h0]
 show uRun t (uNext s b, out ++ uOut s b) = _
 rw [e1, e2]
theorem uRun_enc {r : Nat} (h : isChN r) (s : US) (hs : s.m = 0) (out : List Nat) : ∃ s', uRun (encN r) (s, out) = (s', out ++ [r]) ∧ s'.m = 0 := by
 unfold isChN at h
 unfold encN
 split
 ·rename_i h1
  rw [uRun_asc hs h1]
  exact ⟨_, rfl, begU_one (by omega)⟩
 ·split
  ·rw [uRun_lead hs (by omega) (begU_two (b := 0xC0 + r / 64) (by omega) (by omega)) (Nat.one_ne_zero), uRun_last rfl (by show 0x80 ≤ _; omega) (by show _ ≤ 0xBF; omega)]
   refine ⟨⟨r, 0, 0x80, 0xBF⟩, ?_, rfl⟩
   show ((⟨(0xC0 + r / 64) % 32 * 64 + (0x80 + r % 64) % 64, 0, 0x80, 0xBF⟩, out ++ [(0xC0 + r / 64) % 32 * 64 + (0x80 + r % 64) % 64]) : US × List Nat) = _
   rw [show (0xC0 + r / 64) % 32 * 64 + (0x80 + r % 64) % 64 = r by omega]
  ·split
   ·have e := begU_three (b := 0xE0 + r / 4096) (by omega) (by omega)
    have hlo : (if 0xE0 + r / 4096 = 0xE0 then 0xA0 else 0x80) ≤ 0x80 + r / 64 % 64 := by split <;> omega
    have hhi : 0x80 + r / 64 % 64 ≤ (if 0xE0 + r / 4096 = 0xED then 0x9F else 0xBF) := by split <;> omega
    generalize (if 0xE0 + r / 4096 = 0xE0 then 0xA0 else 0x80) = lo at *
    generalize (if 0xE0 + r / 4096 = 0xED then 0x9F else 0xBF) = hi at *
    rw [uRun_lead hs (by omega) e (by show 2 ≠ 0; omega), uRun_on (by show 1 < 2; omega) hlo hhi, uRun_last rfl (by show 0x80 ≤ _; omega) (by show _ ≤ 0xBF; omega)]
    refine ⟨⟨r, 0, 0x80, 0xBF⟩, ?_, rfl⟩
    show ((⟨((0xE0 + r / 4096) % 16 * 64 + (0x80 + r / 64 % 64) % 64) * 64 + (0x80 + r % 64) % 64, 0, 0x80, 0xBF⟩, out ++ [((0xE0 + r / 4096) % 16 * 64 + (0x80 + r / 64 % 64) % 64) * 64 + (0x80 + r % 64) % 64]) : US × List Nat) = _
    rw [show ((0xE0 + r / 4096) % 16 * 64 + (0x80 + r / 64 % 64) % 64) * 64 + (0x80 + r % 64) % 64 = r by omega]
   ·have e := begU_four (b := 0xF0 + r / 262144) (by omega) (by omega)
    have hlo : (if 0xF0 + r / 262144 = 0xF0 then 0x90 else 0x80) ≤ 0x80 + r / 4096 % 64 := by split <;> omega
    have hhi : 0x80 + r / 4096 % 64 ≤ (if 0xF0 + r / 262144 = 0xF4 then 0x8F else 0xBF) := by split <;> omega
    generalize (if 0xF0 + r / 262144 = 0xF0 then 0x90 else 0x80) = lo at *
    generalize (if 0xF0 + r / 262144 = 0xF4 then 0x8F else 0xBF) = hi at *
    rw [uRun_lead hs (by omega) e (by show 3 ≠ 0; omega), uRun_on (by show 1 < 3; omega) hlo hhi, uRun_on (by show 1 < 2; omega) (by show 0x80 ≤ _; omega) (by show _ ≤ 0xBF; omega), uRun_last rfl (by show 0x80 ≤ _; omega) (by show _ ≤ 0xBF; omega)]
    refine ⟨⟨r, 0, 0x80, 0xBF⟩, ?_, rfl⟩
    show ((⟨(((0xF0 + r / 262144) % 8 * 64 + (0x80 + r / 4096 % 64) % 64) * 64 + (0x80 + r / 64 % 64) % 64) * 64 + (0x80 + r % 64) % 64, 0, 0x80, 0xBF⟩, out ++ [(((0xF0 + r / 262144) % 8 * 64 + (0x80 + r / 4096 % 64) % 64) * 64 + (0x80 + r / 64 % 64) % 64) * 64 + (0x80 + r % 64) % 64]) : US × List Nat) = _
    rw [show (((0xF0 + r / 262144) % 8 * 64 + (0x80 + r / 4096 % 64) % 64) * 64 + (0x80 + r / 64 % 64) % 64) * 64 + (0x80 + r % 64) % 64 = r by omega]
def encL_ (rs : List Nat) : List Nat := rs.flatMap encN
theorem uRun_encs : ∀ (rs : List Nat), (∀ r ∈ rs, isChN r) → ∀ (s : US), s.m = 0 → ∀ out, ∃ s', uRun (encL_ rs) (s, out) = (s', out ++ rs) ∧ s'.m = 0
 | [], _, s, hs, out => ⟨s, by simp [encL_, uRun], hs⟩
 | r :: rs, h, s, hs, out => by
  obtain ⟨s1, e1, h1⟩ := uRun_enc (h r (by simp)) s hs out
  obtain ⟨s2, e2, h2⟩ := uRun_encs rs (fun x hx => h x (by simp [hx])) s1 h1 (out ++ [r])
  refine ⟨s2, ?_, h2⟩
  have e : encL_ (r :: rs) = encN r ++ encL_ rs := by simp [encL_]
  rw [e, uRun_app, e1, e2]
  simp
theorem charsL_enc {rs : List Nat} (h : ∀ r ∈ rs, isChN r) : charsL (encL_ rs) = rs := by
 obtain ⟨s, e, _⟩ := uRun_encs rs h u0 rfl []
 unfold charsL
 rw [e]
 rfl
end Go.Proofs.YtholajadbbdcmaaGreatDoor
