/- Joined texts: Bk0, Bk1, Bk2, FmP. -/
import Derived.Test.YtholajadbbdcmaaGreatDoorQAA
import Derived.Test.YtholajadbbdcmaaGreatDoorQAB
import Derived.Test.YtholajadbbdcmaaGreatDoorQAC
import Derived.Test.YtholajadbbdcmaaGreatDoorQAD
import Derived.Test.YtholajadbbdcmaaGreatDoorQAE
import Derived.Test.YtholajadbbdcmaaGreatDoorQAF
import Derived.Test.YtholajadbbdcmaaGreatDoorQAG
import Derived.Test.YtholajadbbdcmaaGreatDoorQAN
import Derived.Test.YtholajadbbdcmaaGreatDoorQAO
import Derived.Test.YtholajadbbdcmaaGreatDoorQAQ
import Derived.Test.YtholajadbbdcmaaGreatDoorQAR
set_option linter.unusedVariables false
set_option linter.unusedSimpArgs false
set_option linter.unnecessarySimpa false
namespace Go.Proofs.YtholajadbbdcmaaGreatDoor
open Go.RowKit
set_option maxRecDepth 20000
def inC (c : ByteArray) : Bool := ctrlL.any fun x => decide (x = c)
theorem no_or {α : Type} (f : Unit → Option α) : (none : Option α).orElse f = f () := rfl
theorem some_or {α : Type} (a : α) (f : Unit → Option α) : (some a).orElse f = some a := rfl
theorem noRes {s c : ByteArray} (h : resB s = false) (hc : inC c = true) : s ≠ c := by
 rintro rfl
 have : resB s = true := by
  unfold resB
  rw [Bool.or_eq_true, Bool.or_eq_true]
  exact .inl (.inl hc)
 rw [this] at h
 cases h
theorem styB_ctrl (i : Nat) (hi : i < 4) : inC (styB i) = true := by
 have : ∀ i : Fin 4, inC (styB i.val) = true := by decide +kernel
 exact this ⟨i, hi⟩
theorem styIdx_no {s : ByteArray} (h : ∀ i, i < 4 → styB i ≠ s) : styIdx s = none := by
 unfold styIdx
 rw [List.find?_eq_none]
 intro i hi
 simp at hi
 simpa using h i hi
theorem styIdx_wb (j : Nat) (hj : j < 32) : styIdx (wb j) = none := by
 have : ∀ j : Fin 32, styIdx (wb j.val) = none := by decide +kernel
 exact this ⟨j, hj⟩
theorem styIdx_nb (j : Nat) (hj : j < 32) : styIdx (nb j) = none := by
 have : ∀ j : Fin 32, styIdx (nb j.val) = none := by decide +kernel
 exact this ⟨j, hj⟩
def NoSty (s : ByteArray) : Prop := styIdx s = none ∧ s ≠ bJoined
theorem NoSty.lit {s : ByteArray} (h : resB s = false) : NoSty s := ⟨styIdx_no fun i hi e => noRes h (styB_ctrl i hi) e.symm, noRes h (by decide +kernel)⟩
theorem NoSty.wb {j : Nat} (hj : j < 32) : NoSty (wb j) := ⟨styIdx_wb j hj, by
 have : ∀ j : Fin 32, Go.Proofs.YtholajadbbdcmaaGreatDoor.wb j.val ≠ bJoined := by decide +kernel
 exact this ⟨j, hj⟩⟩
theorem NoSty.nb {j : Nat} (hj : j < 32) : NoSty (nb j) := ⟨styIdx_nb j hj, by
 have : ∀ j : Fin 32, Go.Proofs.YtholajadbbdcmaaGreatDoor.nb j.val ≠ bJoined := by decide +kernel
 exact this ⟨j, hj⟩⟩
theorem NoSty.cap : NoSty bCap := ⟨by decide +kernel, by decide +kernel⟩
theorem NoSty.word : NoSty bWord := ⟨by decide +kernel, by decide +kernel⟩
theorem NoSty.digits : NoSty bDigits := ⟨by decide +kernel, by decide +kernel⟩
theorem NoSty.cB : NoSty cB := ⟨by decide +kernel, by decide +kernel⟩
def NoLit (s : ByteArray) : Prop := s ≠ bCap ∧ s ≠ bCaps ∧ s ≠ bWord ∧ s ≠ bSpelled ∧ s ≠ bDigits ∧ (azB s = true → resB s = true)
theorem NoLit.word {a : ByteArray} {t : List ByteArray} {p : Prs} (hw : p.words = a :: t) (h : NoLit a) : wordL p = none := by
 obtain ⟨h1, h2, h3, h4, h5, h6⟩ := h
 unfold wordL
 rw [hw]
 simp only
 rw [if_neg h1, if_neg h2]
 rw [litL, if_neg (fun h => h3 h.1), if_neg (fun h => by rw [h6 h.1] at h; cases h.2), if_neg h4]
 rfl
theorem resB_wb (j : Nat) (hj : j < 32) : resB (wb j) = true := by
 have : ∀ j : Fin 32, resB (wb j.val) = true := by decide +kernel
 exact this ⟨j, hj⟩
theorem resB_nb (j : Nat) (hj : j < 32) : resB (nb j) = true := by
 have : ∀ j : Fin 32, resB (nb j.val) = true := by decide +kernel
 exact this ⟨j, hj⟩
theorem NoLit.wb {j : Nat} (hj : j < 32) : NoLit (wb j) := by
 have : ∀ j : Fin 32, Go.Proofs.YtholajadbbdcmaaGreatDoor.wb j.val ≠ bCap ∧ Go.Proofs.YtholajadbbdcmaaGreatDoor.wb j.val ≠ bCaps ∧ Go.Proofs.YtholajadbbdcmaaGreatDoor.wb j.val ≠ bWord ∧ Go.Proofs.YtholajadbbdcmaaGreatDoor.wb j.val ≠ bSpelled ∧ Go.Proofs.YtholajadbbdcmaaGreatDoor.wb j.val ≠ bDigits := by decide +kernel
 obtain ⟨a, b, c, d, e⟩ := this ⟨j, hj⟩
 exact ⟨a, b, c, d, e, fun _ => resB_wb j hj⟩
theorem NoLit.nb {j : Nat} (hj : j < 32) : NoLit (nb j) := by
 have : ∀ j : Fin 32, Go.Proofs.YtholajadbbdcmaaGreatDoor.nb j.val ≠ bCap ∧ Go.Proofs.YtholajadbbdcmaaGreatDoor.nb j.val ≠ bCaps ∧ Go.Proofs.YtholajadbbdcmaaGreatDoor.nb j.val ≠ bWord ∧ Go.Proofs.YtholajadbbdcmaaGreatDoor.nb j.val ≠ bSpelled ∧ Go.Proofs.YtholajadbbdcmaaGreatDoor.nb j.val ≠ bDigits := by decide +kernel
 obtain ⟨a, b, c, d, e⟩ := this ⟨j, hj⟩
 exact ⟨a, b, c, d, e, fun _ => resB_nb j hj⟩
theorem NoLit.cB : NoLit cB := ⟨by decide +kernel, by decide +kernel, by decide +kernel, by decide +kernel, by decide +kernel, fun _ => by decide +kernel⟩
theorem char_none_wb {j : Nat} (hj : j < 32) (t : List ByteArray) : charW (wb j :: t) = none := by
 have : ∀ j : Fin 32, wb j.val ≠ bSpace ∧ nIdx (wb j.val) = none ∧ wb j.val ≠ cB := by decide +kernel
 obtain ⟨a, b, c⟩ := this ⟨j, hj⟩
 simp only at a b c
 rw [charW, if_neg a, unspellL, b]
 simp only
 rw [if_neg c]
theorem litL_pos {l : List ByteArray} {s : ByteArray} {n : Nat} (h : litL l = some (s, n)) : 0 < n := by
 cases l with
 | nil => cases h
 | cons a t =>
  rw [litL] at h
  split at h
  ·injection h with h; injection h with _ h; omega
  ·split at h
   ·injection h with h; injection h with _ h; omega
   ·split at h
    ·unfold spelledL at h
     split at h
     ·cases h
     ·split at h
      ·injection h with h; injection h with _ h; omega
      ·cases h
    ·cases h
theorem charW_pos {l : List ByteArray} {r : Int} {n : Nat} (h : charW l = some (r, n)) : 0 < n ∧ n ≤ l.length ∧ isCharB r = true := by
 cases l with
 | nil => cases h
 | cons a t =>
  rw [charW] at h
  split at h
  ·injection h with h; injection h with h1 h; subst h1 h; exact ⟨by omega, by simp, by decide⟩
  ·obtain ⟨a, b, c, _⟩ := unspell_canon h
   exact ⟨b, c, a⟩
theorem text_less {p : Prs} {s : ByteArray} {k : Nat} (hp : p.words ≠ []) (hk : 0 < k) : (textL p s k).words.length < p.words.length := by
 have := List.length_pos_iff.2 hp
 show (p.words.drop k).length < _
 rw [List.length_drop]
 omega
theorem part_less {p q : Prs} (h : partL p = some q) : q.words.length < p.words.length := by
 unfold partL at h
 cases h1 : styledL p with
 | some q' =>
  rw [h1, some_or] at h
  obtain rfl : q' = q := by injection h
  unfold styledL at h1
  split at h1
  ·cases h1
  ·rename_i a t hw
   rw [hw]
   split at h1
   ·injection h1 with h1; subst h1; simp
   ·split at h1
    ·injection h1 with h1; subst h1; simp
    ·cases h1
 | none =>
  rw [h1, no_or] at h
  cases h2 : wordL p with
  | some q' =>
   rw [h2, some_or] at h
   obtain rfl : q' = q := by injection h
   unfold wordL at h2
   split at h2
   ·cases h2
   ·rename_i a t hw
    have hne : p.words ≠ [] := by rw [hw]; simp
    split at h2
    ·rw [Option.map_eq_some_iff] at h2
     obtain ⟨⟨s, n⟩, _, rfl⟩ := h2
     exact text_less hne (by omega)
    ·split at h2
     ·rw [Option.map_eq_some_iff] at h2
      obtain ⟨⟨s, n⟩, _, rfl⟩ := h2
      exact text_less hne (by omega)
     ·rw [Option.map_eq_some_iff] at h2
      obtain ⟨⟨s, n⟩, hl, rfl⟩ := h2
      exact text_less hne (litL_pos hl)
  | none =>
   rw [h2, no_or] at h
   cases h3 : figL p with
   | some q' =>
    rw [h3, some_or] at h
    obtain rfl : q' = q := by injection h
    unfold figL at h3
    split at h3
    ·cases h3
    ·rename_i a t hw
     split at h3
     ·injection h3 with h3
      subst h3
      exact text_less (by rw [hw]; simp) (by omega)
     ·cases h3
   | none =>
    rw [h3, no_or] at h
    cases h4 : signL p with
    | some q' =>
     rw [h4, some_or] at h
     obtain rfl : q' = q := by injection h
     unfold signL at h4
     split at h4
     ·cases h4
     ·rename_i r n hc
      obtain ⟨a, b, _⟩ := charW_pos hc
      split at h4
      ·injection h4 with h4
       subst h4
       show (p.words.drop n).length < _
       rw [List.length_drop]
       omega
      ·cases h4
    | none =>
     rw [h4, no_or] at h
     unfold amtL at h
     split at h
     ·cases h
     ·rename_i n k hk
      obtain ⟨a, b, _⟩ := prefixL_some hk
      split at h
      ·cases h
      ·split at h
       ·split at h
        ·cases h
        ·rename_i r m hc
         split at h
         ·injection h with h
          subst h
          show (p.words.drop _).length < _
          rw [List.length_drop]
          omega
         ·cases h
       ·injection h with h
        subst h
        exact text_less (by rintro e; rw [e] at b; simp at b; omega) a
def LtrPat (T : List UInt8) : Prop := T ≠ [] ∧ ((∀ c ∈ T, kindB c.toNat = 1) ∨ (∃ c t, T = c :: t ∧ kindB c.toNat = 2 ∧ ∀ x ∈ t, kindB x.toNat = 1) ∨ (2 ≤ T.length ∧ ∀ c ∈ T, kindB c.toNat = 2))
theorem LtrPat.kind {T : List UInt8} (h : LtrPat T) : ∀ c ∈ T, kindB c.toNat = 1 ∨ kindB c.toNat = 2 := by
 intro c hc
 rcases h.2 with h | ⟨a, t, rfl, h1, h2⟩ | ⟨_, h⟩
 ·exact .inl (h c hc)
 ·rcases List.mem_cons.1 hc with rfl | hc
  ·exact .inr h1
  ·exact .inl (h2 c hc)
 ·exact .inr (h c hc)
theorem isNumW_iff {s : ByteArray} : isNumW s = true ↔ ∃ j, j < 32 ∧ wb j = s := by
 unfold isNumW
 rw [List.any_eq_true]
 simp
theorem NoNum.of {a : ByteArray} (h : isNumW a = false) (t : List ByteArray) : NoNum (a :: t) := by
 intro x t' e j hj he
 injection e with e _
 subst e
 have := isNumW_iff.2 ⟨j, hj, he⟩
 rw [h] at this
 cases this
theorem NoNum.spell {m : Nat} (h : isChN m) (t : List ByteArray) : NoNum (spellL (m : Int) ++ t) := by
 unfold spellL
 cases hi : sIdxI (m : Int) with
 | some i => exact NoNum.nb (sIdxI_some hi).1 _
 | none =>
  rw [chN_isChar h]
  exact NoNum.cB _
def GF (g : Gl) : Prop := checkC g.text = 0 ∧ g.wide = decide (widthC g.text = 2)
theorem GF.form {g : Gl} (h : GF g) : ∃ r t, charsL (bytN g.text) = r :: t ∧ isChN r ∧ (∀ x ∈ t, isChN x) ∧ 1 ≤ widL (r : Int) ∧ (∀ x ∈ t, inT markT (x : Int) = true) ∧ t.length ≤ 3 ∧ g.text = encS (r :: t) ∧ g.wide = decide (widL (r : Int) = 2) := by
 obtain ⟨hv, r, t, hc, hw, hm, hl⟩ := checkC_zero.1 h.1
 have hch := charsL_ch (bytN g.text)
 rw [hc] at hch
 refine ⟨r, t, hc, hch r (by simp), fun x hx => hch x (by simp [hx]), hw, List.all_eq_true.1 hm, hl, ?_, ?_⟩
 ·rw [← hc]
  exact ((encS_valid _).2 hv).symm
 ·have := h.2
  unfold widthC at this
  rw [if_pos h.1, hc] at this
  exact this
def bStop : ByteArray := ⟨#[115, 116, 111, 112]⟩
def frmF : Bool → List ByteArray → Option Bool
 | b, [] => some b
 | b, a :: t => if azB a = false ∨ (a = bStop ∧ b = false) then none else frmF (decide (a = bWord) && !b) t
theorem frmF_app : ∀ (A B : List ByteArray) (b : Bool), frmF b (A ++ B) = (frmF b A).bind fun c => frmF c B
 | [], B, b => rfl
 | a :: t, B, b => by
  rw [List.cons_append, frmF, frmF]
  split
  ·rfl
  ·exact frmF_app t B _
def Clo (W : List ByteArray) : Prop := frmF false W = some false
theorem Clo.nil : Clo [] := rfl
theorem Clo.app {A B : List ByteArray} (hA : Clo A) (hB : Clo B) : Clo (A ++ B) := by
 unfold Clo at *
 rw [frmF_app, hA]
 exact hB
def okW (a : ByteArray) : Bool := azB a && !(decide (a = bStop)) && !(decide (a = bWord))
theorem Clo.one {a : ByteArray} (h : okW a = true) : Clo [a] := by
 unfold okW at h
 simp only [Bool.and_eq_true, Bool.not_eq_true', decide_eq_false_iff_not] at h
 obtain ⟨⟨h1, h2⟩, h3⟩ := h
 unfold Clo
 rw [frmF, if_neg (by rintro (h | ⟨h, _⟩); · rw [h1] at h; cases h
                      · exact h2 h), decide_eq_false h3]
 rfl
theorem Clo.all : ∀ {W : List ByteArray}, (∀ a ∈ W, okW a = true) → Clo W
 | [], _ => Clo.nil
 | a :: t, h => Clo.app (A := [a]) (Clo.one (h a (by simp))) (Clo.all fun x hx => h x (by simp [hx]))
end Go.Proofs.YtholajadbbdcmaaGreatDoor
