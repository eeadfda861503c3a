/- Joined texts: Bk0, Bk1. -/
import Derived.Test.YtejjfiipghcifaaGreatDoorQAG
import Derived.Test.YtejjfiipghcifaaGreatDoorQAU
set_option linter.unusedVariables false
set_option linter.unusedSimpArgs false
set_option linter.unnecessarySimpa false
namespace Go.Proofs.YtejjfiipghcifaaGreatDoor
open Go.RowKit
set_option maxRecDepth 20000
def inC (c : ByteArray) : Bool := ctrlL.any fun x => decide (x = c)
theorem no_or {α : Type} (f : Unit → Option α) : (none : Option α).orElse f = f () := rfl
theorem some_or {α : Type} (a : α) (f : Unit → Option α) : (some a).orElse f = some a := rfl
theorem noRes {s c : ByteArray} (h : resB s = false) (hc : inC c = true) : s ≠ c := by
 rintro rfl
 have : resB s = true := by
  unfold resB
  rw [Bool.or_eq_true, Bool.or_eq_true]
  exact .inl (.inl hc)
 rw [this] at h
 cases h
theorem styIdx_sty (i : Nat) (hi : i < 4) : styIdx (styB i) = some i := by
 have : ∀ i : Fin 4, styIdx (styB i.val) = some i.val := by decide +kernel
 exact this ⟨i, hi⟩
theorem styB_ctrl (i : Nat) (hi : i < 4) : inC (styB i) = true := by
 have : ∀ i : Fin 4, inC (styB i.val) = true := by decide +kernel
 exact this ⟨i, hi⟩
theorem styIdx_no {s : ByteArray} (h : ∀ i, i < 4 → styB i ≠ s) : styIdx s = none := by
 unfold styIdx
 rw [List.find?_eq_none]
 intro i hi
 simp at hi
 simpa using h i hi
theorem styIdx_wb (j : Nat) (hj : j < 32) : styIdx (wb j) = none := by
 have : ∀ j : Fin 32, styIdx (wb j.val) = none := by decide +kernel
 exact this ⟨j, hj⟩
theorem styIdx_nb (j : Nat) (hj : j < 32) : styIdx (nb j) = none := by
 have : ∀ j : Fin 32, styIdx (nb j.val) = none := by decide +kernel
 exact this ⟨j, hj⟩
def NoSty (s : ByteArray) : Prop := styIdx s = none ∧ s ≠ bJoined
theorem NoSty.lit {s : ByteArray} (h : resB s = false) : NoSty s := ⟨styIdx_no fun i hi e => noRes h (styB_ctrl i hi) e.symm, noRes h (by decide +kernel)⟩
theorem NoSty.wb {j : Nat} (hj : j < 32) : NoSty (wb j) := ⟨styIdx_wb j hj, by
 have : ∀ j : Fin 32, Go.Proofs.YtejjfiipghcifaaGreatDoor.wb j.val ≠ bJoined := by decide +kernel
 exact this ⟨j, hj⟩⟩
theorem NoSty.nb {j : Nat} (hj : j < 32) : NoSty (nb j) := ⟨styIdx_nb j hj, by
 have : ∀ j : Fin 32, Go.Proofs.YtejjfiipghcifaaGreatDoor.nb j.val ≠ bJoined := by decide +kernel
 exact this ⟨j, hj⟩⟩
theorem NoSty.cap : NoSty bCap := ⟨by decide +kernel, by decide +kernel⟩
theorem NoSty.caps : NoSty bCaps := ⟨by decide +kernel, by decide +kernel⟩
theorem NoSty.word : NoSty bWord := ⟨by decide +kernel, by decide +kernel⟩
theorem NoSty.space : NoSty bSpace := ⟨by decide +kernel, by decide +kernel⟩
theorem NoSty.spelled : NoSty bSpelled := ⟨by decide +kernel, by decide +kernel⟩
theorem NoSty.digits : NoSty bDigits := ⟨by decide +kernel, by decide +kernel⟩
theorem NoSty.cB : NoSty cB := ⟨by decide +kernel, by decide +kernel⟩
theorem styled_none {a : ByteArray} {t : List ByteArray} {p : Prs} (hw : p.words = a :: t) (h : NoSty a) : styledL p = none := by
 unfold styledL
 rw [hw]
 simp only
 rw [h.1]
 simp only
 rw [if_neg h.2]
theorem part_word {p q : Prs} (h1 : styledL p = none) (h2 : wordL p = some q) : partL p = some q := by
 unfold partL
 rw [h1, no_or, h2, some_or]
theorem part_fig {p q : Prs} (h1 : styledL p = none) (h2 : wordL p = none) (h3 : figL p = some q) : partL p = some q := by
 unfold partL
 rw [h1, no_or, h2, no_or, h3, some_or]
theorem part_sign {p q : Prs} (h1 : styledL p = none) (h2 : wordL p = none) (h3 : figL p = none) (h4 : signL p = some q) : partL p = some q := by
 unfold partL
 rw [h1, no_or, h2, no_or, h3, no_or, h4, some_or]
theorem part_amt {p : Prs} (h1 : styledL p = none) (h2 : wordL p = none) (h3 : figL p = none) (h4 : signL p = none) : partL p = amtL p := by
 unfold partL
 rw [h1, no_or, h2, no_or, h3, no_or, h4, no_or]
def NoLit (s : ByteArray) : Prop := s ≠ bCap ∧ s ≠ bCaps ∧ s ≠ bWord ∧ s ≠ bSpelled ∧ s ≠ bDigits ∧ (azB s = true → resB s = true)
theorem NoLit.word {a : ByteArray} {t : List ByteArray} {p : Prs} (hw : p.words = a :: t) (h : NoLit a) : wordL p = none := by
 obtain ⟨h1, h2, h3, h4, h5, h6⟩ := h
 unfold wordL
 rw [hw]
 simp only
 rw [if_neg h1, if_neg h2]
 rw [litL, if_neg (fun h => h3 h.1), if_neg (fun h => by rw [h6 h.1] at h; cases h.2), if_neg h4]
 rfl
theorem NoLit.fig {a : ByteArray} {t : List ByteArray} {p : Prs} (hw : p.words = a :: t) (h : NoLit a) : figL p = none := by
 unfold figL
 rw [hw]
 simp only
 rw [if_neg fun h' => h.2.2.2.2.1 h'.1]
theorem resB_wb (j : Nat) (hj : j < 32) : resB (wb j) = true := by
 have : ∀ j : Fin 32, resB (wb j.val) = true := by decide +kernel
 exact this ⟨j, hj⟩
theorem resB_nb (j : Nat) (hj : j < 32) : resB (nb j) = true := by
 have : ∀ j : Fin 32, resB (nb j.val) = true := by decide +kernel
 exact this ⟨j, hj⟩
theorem NoLit.wb {j : Nat} (hj : j < 32) : NoLit (wb j) := by
 have : ∀ j : Fin 32, Go.Proofs.YtejjfiipghcifaaGreatDoor.wb j.val ≠ bCap ∧ Go.Proofs.YtejjfiipghcifaaGreatDoor.wb j.val ≠ bCaps ∧ Go.Proofs.YtejjfiipghcifaaGreatDoor.wb j.val ≠ bWord ∧ Go.Proofs.YtejjfiipghcifaaGreatDoor.wb j.val ≠ bSpelled ∧ Go.Proofs.YtejjfiipghcifaaGreatDoor.wb j.val ≠ bDigits := by decide +kernel
 obtain ⟨a, b, c, d, e⟩ := this ⟨j, hj⟩
 exact ⟨a, b, c, d, e, fun _ => resB_wb j hj⟩
theorem NoLit.nb {j : Nat} (hj : j < 32) : NoLit (nb j) := by
 have : ∀ j : Fin 32, Go.Proofs.YtejjfiipghcifaaGreatDoor.nb j.val ≠ bCap ∧ Go.Proofs.YtejjfiipghcifaaGreatDoor.nb j.val ≠ bCaps ∧ Go.Proofs.YtejjfiipghcifaaGreatDoor.nb j.val ≠ bWord ∧ Go.Proofs.YtejjfiipghcifaaGreatDoor.nb j.val ≠ bSpelled ∧ Go.Proofs.YtejjfiipghcifaaGreatDoor.nb j.val ≠ bDigits := by decide +kernel
 obtain ⟨a, b, c, d, e⟩ := this ⟨j, hj⟩
 exact ⟨a, b, c, d, e, fun _ => resB_nb j hj⟩
theorem NoLit.cB : NoLit cB := ⟨by decide +kernel, by decide +kernel, by decide +kernel, by decide +kernel, by decide +kernel, fun _ => by decide +kernel⟩
theorem NoLit.space : NoLit bSpace := ⟨by decide +kernel, by decide +kernel, by decide +kernel, by decide +kernel, by decide +kernel, fun _ => by decide +kernel⟩
theorem char_none_wb {j : Nat} (hj : j < 32) (t : List ByteArray) : charW (wb j :: t) = none := by
 have : ∀ j : Fin 32, wb j.val ≠ bSpace ∧ nIdx (wb j.val) = none ∧ wb j.val ≠ cB := by decide +kernel
 obtain ⟨a, b, c⟩ := this ⟨j, hj⟩
 simp only at a b c
 rw [charW, if_neg a, unspellL, b]
 simp only
 rw [if_neg c]
theorem sign_none_wb {j : Nat} (hj : j < 32) {t : List ByteArray} {p : Prs} (hw : p.words = wb j :: t) : signL p = none := by
 unfold signL
 rw [hw, char_none_wb hj]
theorem part_num {j : Nat} (hj : j < 32) {t : List ByteArray} {p : Prs} (hw : p.words = wb j :: t) : partL p = amtL p :=
 part_amt (styled_none hw (NoSty.wb hj)) (NoLit.word hw (NoLit.wb hj)) (NoLit.fig hw (NoLit.wb hj)) (sign_none_wb hj hw)
def readA (p : Prs) : Option (List Gl) := readL p.words.length p
theorem litL_pos {l : List ByteArray} {s : ByteArray} {n : Nat} (h : litL l = some (s, n)) : 0 < n := by
 cases l with
 | nil => cases h
 | cons a t =>
  rw [litL] at h
  split at h
  ·injection h with h; injection h with _ h; omega
  ·split at h
   ·injection h with h; injection h with _ h; omega
   ·split at h
    ·unfold spelledL at h
     split at h
     ·cases h
     ·split at h
      ·injection h with h; injection h with _ h; omega
      ·cases h
    ·cases h
theorem charW_pos {l : List ByteArray} {r : Int} {n : Nat} (h : charW l = some (r, n)) : 0 < n ∧ n ≤ l.length ∧ isCharB r = true := by
 cases l with
 | nil => cases h
 | cons a t =>
  rw [charW] at h
  split at h
  ·injection h with h; injection h with h1 h; subst h1 h; exact ⟨by omega, by simp, by decide⟩
  ·obtain ⟨a, b, c, _⟩ := unspell_canon h
   exact ⟨b, c, a⟩
theorem text_less {p : Prs} {s : ByteArray} {k : Nat} (hp : p.words ≠ []) (hk : 0 < k) : (textL p s k).words.length < p.words.length := by
 have := List.length_pos_iff.2 hp
 show (p.words.drop k).length < _
 rw [List.length_drop]
 omega
theorem part_less {p q : Prs} (h : partL p = some q) : q.words.length < p.words.length := by
 unfold partL at h
 cases h1 : styledL p with
 | some q' =>
  rw [h1, some_or] at h
  obtain rfl : q' = q := by injection h
  unfold styledL at h1
  split at h1
  ·cases h1
  ·rename_i a t hw
   rw [hw]
   split at h1
   ·injection h1 with h1; subst h1; simp
   ·split at h1
    ·injection h1 with h1; subst h1; simp
    ·cases h1
 | none =>
  rw [h1, no_or] at h
  cases h2 : wordL p with
  | some q' =>
   rw [h2, some_or] at h
   obtain rfl : q' = q := by injection h
   unfold wordL at h2
   split at h2
   ·cases h2
   ·rename_i a t hw
    have hne : p.words ≠ [] := by rw [hw]; simp
    split at h2
    ·rw [Option.map_eq_some_iff] at h2
     obtain ⟨⟨s, n⟩, _, rfl⟩ := h2
     exact text_less hne (by omega)
    ·split at h2
     ·rw [Option.map_eq_some_iff] at h2
      obtain ⟨⟨s, n⟩, _, rfl⟩ := h2
      exact text_less hne (by omega)
     ·rw [Option.map_eq_some_iff] at h2
      obtain ⟨⟨s, n⟩, hl, rfl⟩ := h2
      exact text_less hne (litL_pos hl)
  | none =>
   rw [h2, no_or] at h
   cases h3 : figL p with
   | some q' =>
    rw [h3, some_or] at h
    obtain rfl : q' = q := by injection h
    unfold figL at h3
    split at h3
    ·cases h3
    ·rename_i a t hw
     split at h3
     ·injection h3 with h3
      subst h3
      exact text_less (by rw [hw]; simp) (by omega)
     ·cases h3
   | none =>
    rw [h3, no_or] at h
    cases h4 : signL p with
    | some q' =>
     rw [h4, some_or] at h
     obtain rfl : q' = q := by injection h
     unfold signL at h4
     split at h4
     ·cases h4
     ·rename_i r n hc
      obtain ⟨a, b, _⟩ := charW_pos hc
      split at h4
      ·injection h4 with h4
       subst h4
       show (p.words.drop n).length < _
       rw [List.length_drop]
       omega
      ·cases h4
    | none =>
     rw [h4, no_or] at h
     unfold amtL at h
     split at h
     ·cases h
     ·rename_i n k hk
      obtain ⟨a, b, _⟩ := prefixL_some hk
      split at h
      ·cases h
      ·split at h
       ·split at h
        ·cases h
        ·rename_i r m hc
         split at h
         ·injection h with h
          subst h
          show (p.words.drop _).length < _
          rw [List.length_drop]
          omega
         ·cases h
       ·injection h with h
        subst h
        exact text_less (by rintro e; rw [e] at b; simp at b; omega) a
theorem readL_fuel : ∀ (f f' : Nat) (p : Prs), p.words.length ≤ f → p.words.length ≤ f' → readL f p = readL f' p
 | 0, f', p, h1, h2 => by
  have e : p.words = [] := List.length_eq_zero_iff.1 (by omega)
  cases f' with
  | zero => rfl
  | succ f' => rw [readL, readL, if_pos e]
 | f + 1, 0, p, h1, h2 => by
  have e : p.words = [] := List.length_eq_zero_iff.1 (by omega)
  rw [readL, readL, if_pos e]
 | f + 1, f' + 1, p, h1, h2 => by
  rw [readL, readL]
  split
  ·rfl
  ·cases hq : partL p with
   | none => rfl
   | some q =>
    have := part_less hq
    exact readL_fuel f f' q (by omega) (by omega)
theorem readA_step {p q : Prs} (h : partL p = some q) : readA p = readA q := by
 have hl := part_less h
 unfold readA
 obtain ⟨n, hn⟩ : ∃ n, p.words.length = n + 1 := ⟨p.words.length - 1, by omega⟩
 rw [hn, readL, if_neg (by rintro e; rw [e] at hn; cases hn), h]
 exact readL_fuel _ _ q (by omega) (Nat.le_refl _)
theorem readA_none {p : Prs} (hp : p.words ≠ []) (h : partL p = none) : readA p = none := by
 unfold readA
 obtain ⟨n, hn⟩ : ∃ n, p.words.length = n + 1 := ⟨p.words.length - 1, by have := List.length_pos_iff.2 hp; omega⟩
 rw [hn, readL, if_neg hp, h]
theorem readA_nil {p : Prs} (hp : p.words = []) : readA p = some p.out := by
 unfold readA
 rw [hp]
 rfl
end Go.Proofs.YtejjfiipghcifaaGreatDoor
namespace Go.Proofs.YtejjfiipghcifaaGreatDoor
open Go.RowKit
set_option maxRecDepth 20000
theorem u8_all {P : UInt8 → Bool} (h : ∀ n : Fin 256, P (UInt8.ofNat n.val) = true) (c : UInt8) : P c = true := by
 have := h ⟨c.toNat, UInt8.toNat_lt c⟩
 simpa using this
theorem up_low_cap (c : UInt8) (h : kindB c.toNat = 2) : upB (lowB c) = c := by
 have := u8_all (P := fun c => kindB c.toNat != 2 || upB (lowB c) == c) (by decide +kernel) c
 simp only [Bool.or_eq_true, bne_iff_ne, beq_iff_eq] at this
 exact this.resolve_left fun e => e h
theorem low_small (c : UInt8) (h : kindB c.toNat = 1) : lowB c = c := by
 have := u8_all (P := fun c => kindB c.toNat != 1 || lowB c == c) (by decide +kernel) c
 simp only [Bool.or_eq_true, bne_iff_ne, beq_iff_eq] at this
 exact this.resolve_left fun e => e h
theorem low_az (c : UInt8) (h : kindB c.toNat = 1 ∨ kindB c.toNat = 2) : 97 ≤ (lowB c).toNat ∧ (lowB c).toNat ≤ 122 := by
 have := u8_all (P := fun c => !(kindB c.toNat == 1 || kindB c.toNat == 2) || (decide (97 ≤ (lowB c).toNat) && decide ((lowB c).toNat ≤ 122))) (by decide +kernel) c
 rcases h with h | h <;> simpa [h] using this
def LtrPat (T : List UInt8) : Prop := T ≠ [] ∧ ((∀ c ∈ T, kindB c.toNat = 1) ∨ (∃ c t, T = c :: t ∧ kindB c.toNat = 2 ∧ ∀ x ∈ t, kindB x.toNat = 1) ∨ (2 ≤ T.length ∧ ∀ c ∈ T, kindB c.toNat = 2))
theorem LtrPat.kind {T : List UInt8} (h : LtrPat T) : ∀ c ∈ T, kindB c.toNat = 1 ∨ kindB c.toNat = 2 := by
 intro c hc
 rcases h.2 with h | ⟨a, t, rfl, h1, h2⟩ | ⟨_, h⟩
 ·exact .inl (h c hc)
 ·rcases List.mem_cons.1 hc with rfl | hc
  ·exact .inr h1
  ·exact .inl (h2 c hc)
 ·exact .inr (h c hc)
theorem caps_none {T : List UInt8} (h : ∀ c ∈ T, kindB c.toNat = 1) : capsT T = 0 := by
 unfold capsT
 rw [List.length_eq_zero_iff, List.filter_eq_nil_iff]
 intro c hc
 rw [h c hc]
 decide
theorem caps_all {T : List UInt8} (h : ∀ c ∈ T, kindB c.toNat = 2) : capsT T = T.length := by
 unfold capsT
 rw [List.filter_eq_self.2]
 intro c hc
 rw [h c hc]
 decide
theorem caps_one {c : UInt8} {t : List UInt8} (h1 : kindB c.toNat = 2) (h2 : ∀ x ∈ t, kindB x.toNat = 1) : capsT (c :: t) = 1 := by
 have := caps_none h2
 unfold capsT at *
 rw [List.filter_cons_of_pos (by rw [h1]; decide), List.length_cons, this]
theorem low_all {t : List UInt8} (h : ∀ x ∈ t, kindB x.toNat = 1) : t.map lowB = t := by
 refine (List.map_congr_left (g := id) fun c hc => low_small c (h c hc)).trans (List.map_id _)
theorem azB_low {T : List UInt8} (h0 : T ≠ []) (h : ∀ c ∈ T, kindB c.toNat = 1 ∨ kindB c.toNat = 2) : azB ⟨(T.map lowB).toArray⟩ = true := by
 unfold azB
 simp only [Bool.and_eq_true, Bool.not_eq_true', List.isEmpty_eq_false_iff, List.all_eq_true, decide_eq_true_eq]
 refine ⟨by simpa using h0, fun c hc => ?_⟩
 obtain ⟨x, hx, rfl⟩ := List.mem_map.1 hc
 exact low_az x (h x hx)
def bodyT (L : List UInt8) (sp : Bool) : List ByteArray := if sp = true then bSpelled :: (L.map fun c => (⟨#[c]⟩ : ByteArray)) ++ [bEnd] else (if resB ⟨L.toArray⟩ = true then [bWord] else []) ++ [⟨L.toArray⟩]
theorem letters_body (T : List UInt8) (sp : Bool) : lettersT T sp = capW (capsT T) ++ bodyT (T.map lowB) sp := rfl
theorem oneB_single (c : UInt8) (h : 97 ≤ c.toNat ∧ c.toNat ≤ 122) : oneB ⟨#[c]⟩ = true := by
 unfold oneB azB
 simp only [List.all_cons, List.all_nil, List.isEmpty_cons, Bool.not_false, Bool.true_and, Bool.and_true, Bool.and_eq_true, decide_eq_true_eq]
 exact ⟨h, rfl⟩
theorem spelled_back {L : List UInt8} (h0 : L ≠ []) (h : ∀ c ∈ L, 97 ≤ c.toNat ∧ c.toNat ≤ 122) (R : List ByteArray) : spelledL ((L.map fun c => (⟨#[c]⟩ : ByteArray)) ++ bEnd :: R) = some (⟨L.toArray⟩, L.length + 2) := by
 have e : ((L.map fun c => (⟨#[c]⟩ : ByteArray)) ++ bEnd :: R).takeWhile oneB = L.map fun c => (⟨#[c]⟩ : ByteArray) := by
  rw [List.takeWhile_append_of_pos fun s hs => by
   obtain ⟨c, hc, rfl⟩ := List.mem_map.1 hs
   exact oneB_single c (h c hc)]
  rw [List.takeWhile_cons_of_neg (by decide +kernel), List.append_nil]
 have hl := List.length_pos_iff.2 h0
 unfold spelledL
 rw [e, List.length_map, if_neg (by omega), List.getElem?_append_right (by simp), List.length_map, Nat.sub_self]
 simp only [List.getElem?_cons_zero, if_true]
 have e2 : (L.map fun c => (⟨#[c]⟩ : ByteArray)).flatMap (fun s => s.data.toList) = L := by
  rw [List.flatMap_map]
  show L.flatMap (fun c => [c]) = L
  exact List.flatMap_singleton' L
 rw [e2]
theorem lit_body {L : List UInt8} (h0 : L ≠ []) (h : ∀ c ∈ L, 97 ≤ c.toNat ∧ c.toNat ≤ 122) (haz : azB ⟨L.toArray⟩ = true) (sp : Bool) (R : List ByteArray) : litL (bodyT L sp ++ R) = some (⟨L.toArray⟩, (bodyT L sp).length) := by
 unfold bodyT
 cases sp with
 | true =>
  rw [if_pos rfl, List.append_assoc, List.cons_append, List.singleton_append, litL, if_neg (fun e => absurd e.1 (by decide +kernel)), if_neg (fun e => absurd e.2 (by decide +kernel)), if_pos rfl, spelled_back h0 h]
  simp
 | false =>
  rw [if_neg (by simp)]
  cases hr : resB ⟨L.toArray⟩ with
  | true =>
   rw [if_pos rfl, List.append_assoc, List.singleton_append, List.singleton_append, litL, List.headD_cons, if_pos ⟨rfl, haz⟩]
   rfl
  | false =>
   rw [if_neg (by simp), List.nil_append, List.singleton_append, litL, if_neg (fun e => absurd e.1 (noRes hr (by decide +kernel))), if_pos ⟨haz, hr⟩]
   rfl
theorem body_head (L : List UInt8) (sp : Bool) : ∃ a t, bodyT L sp = a :: t ∧ NoSty a ∧ a ≠ bCap ∧ a ≠ bCaps := by
 unfold bodyT
 cases sp with
 | true => exact ⟨bSpelled, _, rfl, NoSty.spelled, by decide +kernel, by decide +kernel⟩
 | false =>
  rw [if_neg (by simp)]
  cases hr : resB ⟨L.toArray⟩ with
  | true => exact ⟨bWord, _, rfl, NoSty.word, by decide +kernel, by decide +kernel⟩
  | false => exact ⟨_, _, rfl, NoSty.lit hr, noRes hr (by decide +kernel), noRes hr (by decide +kernel)⟩
theorem drop_app {α : Type} (W R : List α) (k : Nat) (h : W.length = k) : (W ++ R).drop k = R := by
 subst h
 exact List.drop_left
theorem raise_zero_ {L : List UInt8} : (⟨L.toArray⟩ : ByteArray).data.toList = L := rfl
theorem read_letters {T : List UInt8} (h : LtrPat T) (sp : Bool) (R : List ByteArray) (O : List Gl) (st : Int) (J : Bool) :
  partL ⟨lettersT T sp ++ R, O, st, J⟩ = some ⟨R, O ++ textG J st ⟨T.toArray⟩, st, true⟩ := by
 have hk := h.kind
 have hl0 : T.map lowB ≠ [] := by simpa using h.1
 have hlz : ∀ c ∈ T.map lowB, 97 ≤ c.toNat ∧ c.toNat ≤ 122 := fun c hc => by
  obtain ⟨x, hx, rfl⟩ := List.mem_map.1 hc
  exact low_az x (hk x hx)
 have haz := azB_low h.1 hk
 obtain ⟨a, t, hb, hs, hc1, hc2⟩ := body_head (T.map lowB) sp
 have hlit := fun R => lit_body hl0 hlz haz sp R
 rw [letters_body]
 rcases h.2 with h1 | ⟨c, tt, rfl, h1, h2⟩ | ⟨h1, h2⟩
 ·rw [caps_none h1, show capW 0 = [] from rfl, List.nil_append]
  have e := hlit R
  rw [low_all h1] at *
  rw [hb] at e ⊢
  refine part_word (styled_none rfl hs) ?_
  unfold wordL
  simp only [List.cons_append]
  rw [if_neg hc1, if_neg hc2, ← List.cons_append, e]
  simp only [Option.map_some, textL]
  rw [drop_app _ _ _ rfl]
 ·rw [caps_one h1 h2, show capW 1 = [bCap] from rfl]
  refine part_word (styled_none rfl NoSty.cap) ?_
  unfold wordL
  simp only [List.cons_append, List.nil_append]
  rw [if_pos trivial, hlit R]
  simp only [Option.map_some, textL]
  rw [Nat.add_comm, List.drop_succ_cons, drop_app _ _ _ rfl]
  have e : raiseL ⟨((c :: tt).map lowB).toArray⟩ 1 = ⟨(c :: tt).toArray⟩ := by
   unfold raiseL
   simp only [List.map_cons, List.take_succ_cons, List.take_zero, List.drop_succ_cons, List.drop_zero, List.map_nil, List.cons_append, List.nil_append]
   rw [up_low_cap c h1, low_all h2]
  rw [e]
 ·have hc : capW (capsT T) = [bCaps] := by
   unfold capW
   rw [caps_all h2, if_neg (by omega), if_pos (by omega)]
  rw [hc]
  refine part_word (styled_none rfl NoSty.caps) ?_
  unfold wordL
  simp only [List.cons_append, List.nil_append]
  rw [if_neg (by decide +kernel), if_pos trivial, hlit R]
  simp only [Option.map_some, textL]
  rw [Nat.add_comm, List.drop_succ_cons, drop_app _ _ _ rfl]
  have e : raiseL ⟨(T.map lowB).toArray⟩ (⟨(T.map lowB).toArray⟩ : ByteArray).size = ⟨T.toArray⟩ := by
   unfold raiseL
   have hz : (⟨(T.map lowB).toArray⟩ : ByteArray).size = (T.map lowB).length := rfl
   rw [hz, raise_zero_, List.take_length, List.drop_length, List.append_nil, List.map_map]
   congr 2
   exact (List.map_congr_left (g := id) fun c hc => up_low_cap c (h2 c hc)).trans (List.map_id _)
  rw [e]
theorem numW_digit (d : Nat) (hd : d < 10) : numW d = [wb d] := by
 have : ∀ d : Fin 10, numW d.val = [wb d.val] := by decide +kernel
 exact this ⟨d, hd⟩
theorem dgW_wb (d : Nat) (hd : d < 10) : dgW (wb d) = some d := by
 have : ∀ d : Fin 10, dgW (wb d.val) = some d.val := by decide +kernel
 exact this ⟨d, hd⟩
theorem dgW_no {a : ByteArray} (h : ∀ j, j < 32 → wb j ≠ a) : dgW a = none := by
 unfold dgW
 rw [List.find?_eq_none]
 intro i hi
 simp at hi
 simpa using h i (by omega)
theorem catW_digits {D : List Nat} (h : ∀ d ∈ D, d < 10) : D.flatMap numW = D.map wb := by
 induction D with
 | nil => rfl
 | cons d t ih =>
  rw [List.flatMap_cons, List.map_cons, numW_digit d (h d (by simp)), ih fun x hx => h x (by simp [hx])]
  rfl
theorem dgs_back {D : List Nat} (h : ∀ d ∈ D, d < 10) {R : List ByteArray} (hR : NoNum R) : dgsL (D.map wb ++ R) = D := by
 have e : (D.map wb ++ R).takeWhile (fun s => (dgW s).isSome) = D.map wb := by
  rw [List.takeWhile_append_of_pos fun s hs => by
   obtain ⟨d, hd, rfl⟩ := List.mem_map.1 hs
   rw [dgW_wb d (h d hd)]
   rfl]
  have : R.takeWhile (fun s => (dgW s).isSome) = [] := by
   cases R with
   | nil => rfl
   | cons a t => rw [List.takeWhile_cons_of_neg (by rw [dgW_no (hR a t rfl)]; simp)]
  rw [this, List.append_nil]
 unfold dgsL
 rw [e, List.map_map]
 exact (List.map_congr_left (g := id) fun d hd => by simp [dgW_wb d (h d hd)]).trans (List.map_id _)
theorem read_digits {D : List Nat} (h0 : D ≠ []) (h : ∀ d ∈ D, d < 10) {R : List ByteArray} (hR : NoNum R) (O : List Gl) (st : Int) (J : Bool) :
  partL ⟨(bDigits :: D.flatMap numW) ++ R, O, st, J⟩ = some ⟨R, O ++ textG J st (dgStr D), st, true⟩ := by
 rw [catW_digits h]
 refine part_fig (styled_none rfl NoSty.digits) ?_ ?_
 ·unfold wordL
  simp only [List.cons_append]
  rw [if_neg (by decide +kernel), if_neg (by decide +kernel), litL, if_neg (fun e => absurd e.1 (by decide +kernel)), if_neg (fun e => absurd e.2 (by decide +kernel)), if_neg (by decide +kernel)]
  rfl
 ·unfold figL
  simp only [List.cons_append]
  rw [dgs_back h hR, if_pos ⟨trivial, h0⟩]
  simp only [textL]
  rw [Nat.add_comm, List.drop_succ_cons, drop_app _ _ _ (by simp)]
theorem numW_cons (n : Nat) (hn : n ≤ 999999999) : ∃ j t, j < 32 ∧ numW n = wb j :: t := by
 have h1 : 0 < (wordsL (n : Int)).length := by
  rcases wordsL_pos (n : Int) with h | h
  ·exact h
  ·omega
 have h2 := sg_words_lt (n : Int) (by omega) (by omega)
 unfold numW
 cases hw : wordsL (n : Int) with
 | nil => rw [hw] at h1; simp at h1
 | cons j t =>
  rw [hw] at h2
  exact ⟨j, t.map wb, h2 j (by simp), rfl⟩
theorem read_number {n : Nat} (hn : n ≤ 999999999) {R : List ByteArray} (hR : NoNum R) (hT : R[0]? ≠ some bTimes) (O : List Gl) (st : Int) (J : Bool) :
  partL ⟨numW n ++ R, O, st, J⟩ = some ⟨R, O ++ textG J st ⟨(decT n).toArray⟩, st, true⟩ := by
 obtain ⟨j, t, hj, e⟩ := numW_cons n hn
 rw [part_num hj (t := t ++ R) (by rw [e]; rfl)]
 unfold amtL
 simp only
 have hp := prefix_app (n : Int) (by omega) (by omega) R hR
 have hl : (numW n).length = (wordsL (n : Int)).length := by unfold numW; rw [List.length_map]
 rw [show numW n ++ R = (wordsL (n : Int)).map wb ++ R from rfl, hp]
 simp only
 rw [if_neg (by omega), List.getElem?_append_right (by simp), List.length_map, Nat.sub_self, if_neg hT]
 simp only [textL]
 rw [drop_app _ _ _ (by simp), Int.toNat_natCast]
end Go.Proofs.YtejjfiipghcifaaGreatDoor
