/- Joined texts: Bk0, Bk1, Bk2, Bk3, Bk4, FmP, BdP. -/
import Derived.Test.YtejjfiipghcifaaGreatDoorQAA
import Derived.Test.YtejjfiipghcifaaGreatDoorQAB
import Derived.Test.YtejjfiipghcifaaGreatDoorQAC
import Derived.Test.YtejjfiipghcifaaGreatDoorQAD
import Derived.Test.YtejjfiipghcifaaGreatDoorQAE
import Derived.Test.YtejjfiipghcifaaGreatDoorQAF
import Derived.Test.YtejjfiipghcifaaGreatDoorQAG
import Derived.Test.YtejjfiipghcifaaGreatDoorQAK
import Derived.Test.YtejjfiipghcifaaGreatDoorQAN
import Derived.Test.YtejjfiipghcifaaGreatDoorQAO
import Derived.Test.YtejjfiipghcifaaGreatDoorQAP
import Derived.Test.YtejjfiipghcifaaGreatDoorQAR
import Derived.Test.YtejjfiipghcifaaGreatDoorQAS
import Derived.Test.YtejjfiipghcifaaGreatDoorQAT
import Derived.Test.YtejjfiipghcifaaGreatDoorQAU
set_option linter.unusedVariables false
set_option linter.unusedSimpArgs false
set_option linter.unnecessarySimpa false
namespace Go.Proofs.YtejjfiipghcifaaGreatDoor
open Go.RowKit
set_option maxRecDepth 20000
def inC (c : ByteArray) : Bool := ctrlL.any fun x => decide (x = c)
theorem no_or {α : Type} (f : Unit → Option α) : (none : Option α).orElse f = f () := rfl
theorem some_or {α : Type} (a : α) (f : Unit → Option α) : (some a).orElse f = some a := rfl
theorem noRes {s c : ByteArray} (h : resB s = false) (hc : inC c = true) : s ≠ c := by
 rintro rfl
 have : resB s = true := by
  unfold resB
  rw [Bool.or_eq_true, Bool.or_eq_true]
  exact .inl (.inl hc)
 rw [this] at h
 cases h
theorem styB_ctrl (i : Nat) (hi : i < 4) : inC (styB i) = true := by
 have : ∀ i : Fin 4, inC (styB i.val) = true := by decide +kernel
 exact this ⟨i, hi⟩
theorem styIdx_no {s : ByteArray} (h : ∀ i, i < 4 → styB i ≠ s) : styIdx s = none := by
 unfold styIdx
 rw [List.find?_eq_none]
 intro i hi
 simp at hi
 simpa using h i hi
theorem styIdx_wb (j : Nat) (hj : j < 32) : styIdx (wb j) = none := by
 have : ∀ j : Fin 32, styIdx (wb j.val) = none := by decide +kernel
 exact this ⟨j, hj⟩
theorem styIdx_nb (j : Nat) (hj : j < 32) : styIdx (nb j) = none := by
 have : ∀ j : Fin 32, styIdx (nb j.val) = none := by decide +kernel
 exact this ⟨j, hj⟩
def NoSty (s : ByteArray) : Prop := styIdx s = none ∧ s ≠ bJoined
theorem NoSty.lit {s : ByteArray} (h : resB s = false) : NoSty s := ⟨styIdx_no fun i hi e => noRes h (styB_ctrl i hi) e.symm, noRes h (by decide +kernel)⟩
theorem NoSty.wb {j : Nat} (hj : j < 32) : NoSty (wb j) := ⟨styIdx_wb j hj, by
 have : ∀ j : Fin 32, Go.Proofs.YtejjfiipghcifaaGreatDoor.wb j.val ≠ bJoined := by decide +kernel
 exact this ⟨j, hj⟩⟩
theorem NoSty.nb {j : Nat} (hj : j < 32) : NoSty (nb j) := ⟨styIdx_nb j hj, by
 have : ∀ j : Fin 32, Go.Proofs.YtejjfiipghcifaaGreatDoor.nb j.val ≠ bJoined := by decide +kernel
 exact this ⟨j, hj⟩⟩
theorem NoSty.cap : NoSty bCap := ⟨by decide +kernel, by decide +kernel⟩
theorem NoSty.word : NoSty bWord := ⟨by decide +kernel, by decide +kernel⟩
theorem NoSty.digits : NoSty bDigits := ⟨by decide +kernel, by decide +kernel⟩
theorem NoSty.cB : NoSty cB := ⟨by decide +kernel, by decide +kernel⟩
def NoLit (s : ByteArray) : Prop := s ≠ bCap ∧ s ≠ bCaps ∧ s ≠ bWord ∧ s ≠ bSpelled ∧ s ≠ bDigits ∧ (azB s = true → resB s = true)
theorem NoLit.word {a : ByteArray} {t : List ByteArray} {p : Prs} (hw : p.words = a :: t) (h : NoLit a) : wordL p = none := by
 obtain ⟨h1, h2, h3, h4, h5, h6⟩ := h
 unfold wordL
 rw [hw]
 simp only
 rw [if_neg h1, if_neg h2]
 rw [litL, if_neg (fun h => h3 h.1), if_neg (fun h => by rw [h6 h.1] at h; cases h.2), if_neg h4]
 rfl
theorem resB_wb (j : Nat) (hj : j < 32) : resB (wb j) = true := by
 have : ∀ j : Fin 32, resB (wb j.val) = true := by decide +kernel
 exact this ⟨j, hj⟩
theorem resB_nb (j : Nat) (hj : j < 32) : resB (nb j) = true := by
 have : ∀ j : Fin 32, resB (nb j.val) = true := by decide +kernel
 exact this ⟨j, hj⟩
theorem NoLit.wb {j : Nat} (hj : j < 32) : NoLit (wb j) := by
 have : ∀ j : Fin 32, Go.Proofs.YtejjfiipghcifaaGreatDoor.wb j.val ≠ bCap ∧ Go.Proofs.YtejjfiipghcifaaGreatDoor.wb j.val ≠ bCaps ∧ Go.Proofs.YtejjfiipghcifaaGreatDoor.wb j.val ≠ bWord ∧ Go.Proofs.YtejjfiipghcifaaGreatDoor.wb j.val ≠ bSpelled ∧ Go.Proofs.YtejjfiipghcifaaGreatDoor.wb j.val ≠ bDigits := by decide +kernel
 obtain ⟨a, b, c, d, e⟩ := this ⟨j, hj⟩
 exact ⟨a, b, c, d, e, fun _ => resB_wb j hj⟩
theorem NoLit.nb {j : Nat} (hj : j < 32) : NoLit (nb j) := by
 have : ∀ j : Fin 32, Go.Proofs.YtejjfiipghcifaaGreatDoor.nb j.val ≠ bCap ∧ Go.Proofs.YtejjfiipghcifaaGreatDoor.nb j.val ≠ bCaps ∧ Go.Proofs.YtejjfiipghcifaaGreatDoor.nb j.val ≠ bWord ∧ Go.Proofs.YtejjfiipghcifaaGreatDoor.nb j.val ≠ bSpelled ∧ Go.Proofs.YtejjfiipghcifaaGreatDoor.nb j.val ≠ bDigits := by decide +kernel
 obtain ⟨a, b, c, d, e⟩ := this ⟨j, hj⟩
 exact ⟨a, b, c, d, e, fun _ => resB_nb j hj⟩
theorem NoLit.cB : NoLit cB := ⟨by decide +kernel, by decide +kernel, by decide +kernel, by decide +kernel, by decide +kernel, fun _ => by decide +kernel⟩
theorem char_none_wb {j : Nat} (hj : j < 32) (t : List ByteArray) : charW (wb j :: t) = none := by
 have : ∀ j : Fin 32, wb j.val ≠ bSpace ∧ nIdx (wb j.val) = none ∧ wb j.val ≠ cB := by decide +kernel
 obtain ⟨a, b, c⟩ := this ⟨j, hj⟩
 simp only at a b c
 rw [charW, if_neg a, unspellL, b]
 simp only
 rw [if_neg c]
theorem litL_pos {l : List ByteArray} {s : ByteArray} {n : Nat} (h : litL l = some (s, n)) : 0 < n := by
 cases l with
 | nil => cases h
 | cons a t =>
  rw [litL] at h
  split at h
  ·injection h with h; injection h with _ h; omega
  ·split at h
   ·injection h with h; injection h with _ h; omega
   ·split at h
    ·unfold spelledL at h
     split at h
     ·cases h
     ·split at h
      ·injection h with h; injection h with _ h; omega
      ·cases h
    ·cases h
theorem charW_pos {l : List ByteArray} {r : Int} {n : Nat} (h : charW l = some (r, n)) : 0 < n ∧ n ≤ l.length ∧ isCharB r = true := by
 cases l with
 | nil => cases h
 | cons a t =>
  rw [charW] at h
  split at h
  ·injection h with h; injection h with h1 h; subst h1 h; exact ⟨by omega, by simp, by decide⟩
  ·obtain ⟨a, b, c, _⟩ := unspell_canon h
   exact ⟨b, c, a⟩
theorem text_less {p : Prs} {s : ByteArray} {k : Nat} (hp : p.words ≠ []) (hk : 0 < k) : (textL p s k).words.length < p.words.length := by
 have := List.length_pos_iff.2 hp
 show (p.words.drop k).length < _
 rw [List.length_drop]
 omega
theorem part_less {p q : Prs} (h : partL p = some q) : q.words.length < p.words.length := by
 unfold partL at h
 cases h1 : styledL p with
 | some q' =>
  rw [h1, some_or] at h
  obtain rfl : q' = q := by injection h
  unfold styledL at h1
  split at h1
  ·cases h1
  ·rename_i a t hw
   rw [hw]
   split at h1
   ·injection h1 with h1; subst h1; simp
   ·split at h1
    ·injection h1 with h1; subst h1; simp
    ·cases h1
 | none =>
  rw [h1, no_or] at h
  cases h2 : wordL p with
  | some q' =>
   rw [h2, some_or] at h
   obtain rfl : q' = q := by injection h
   unfold wordL at h2
   split at h2
   ·cases h2
   ·rename_i a t hw
    have hne : p.words ≠ [] := by rw [hw]; simp
    split at h2
    ·rw [Option.map_eq_some_iff] at h2
     obtain ⟨⟨s, n⟩, _, rfl⟩ := h2
     exact text_less hne (by omega)
    ·split at h2
     ·rw [Option.map_eq_some_iff] at h2
      obtain ⟨⟨s, n⟩, _, rfl⟩ := h2
      exact text_less hne (by omega)
     ·rw [Option.map_eq_some_iff] at h2
      obtain ⟨⟨s, n⟩, hl, rfl⟩ := h2
      exact text_less hne (litL_pos hl)
  | none =>
   rw [h2, no_or] at h
   cases h3 : figL p with
   | some q' =>
    rw [h3, some_or] at h
    obtain rfl : q' = q := by injection h
    unfold figL at h3
    split at h3
    ·cases h3
    ·rename_i a t hw
     split at h3
     ·injection h3 with h3
      subst h3
      exact text_less (by rw [hw]; simp) (by omega)
     ·cases h3
   | none =>
    rw [h3, no_or] at h
    cases h4 : signL p with
    | some q' =>
     rw [h4, some_or] at h
     obtain rfl : q' = q := by injection h
     unfold signL at h4
     split at h4
     ·cases h4
     ·rename_i r n hc
      obtain ⟨a, b, _⟩ := charW_pos hc
      split at h4
      ·injection h4 with h4
       subst h4
       show (p.words.drop n).length < _
       rw [List.length_drop]
       omega
      ·cases h4
    | none =>
     rw [h4, no_or] at h
     unfold amtL at h
     split at h
     ·cases h
     ·rename_i n k hk
      obtain ⟨a, b, _⟩ := prefixL_some hk
      split at h
      ·cases h
      ·split at h
       ·split at h
        ·cases h
        ·rename_i r m hc
         split at h
         ·injection h with h
          subst h
          show (p.words.drop _).length < _
          rw [List.length_drop]
          omega
         ·cases h
       ·injection h with h
        subst h
        exact text_less (by rintro e; rw [e] at b; simp at b; omega) a
def LtrPat (T : List UInt8) : Prop := T ≠ [] ∧ ((∀ c ∈ T, kindB c.toNat = 1) ∨ (∃ c t, T = c :: t ∧ kindB c.toNat = 2 ∧ ∀ x ∈ t, kindB x.toNat = 1) ∨ (2 ≤ T.length ∧ ∀ c ∈ T, kindB c.toNat = 2))
theorem LtrPat.kind {T : List UInt8} (h : LtrPat T) : ∀ c ∈ T, kindB c.toNat = 1 ∨ kindB c.toNat = 2 := by
 intro c hc
 rcases h.2 with h | ⟨a, t, rfl, h1, h2⟩ | ⟨_, h⟩
 ·exact .inl (h c hc)
 ·rcases List.mem_cons.1 hc with rfl | hc
  ·exact .inr h1
  ·exact .inl (h2 c hc)
 ·exact .inr (h c hc)
theorem NoNum.spell {m : Nat} (h : isChN m) (t : List ByteArray) : NoNum (spellL (m : Int) ++ t) := by
 unfold spellL
 cases hi : sIdxI (m : Int) with
 | some i => exact NoNum.nb (sIdxI_some hi).1 _
 | none =>
  rw [chN_isChar h]
  exact NoNum.cB _
def GF (g : Gl) : Prop := checkC g.text = 0 ∧ g.wide = decide (widthC g.text = 2)
theorem GF.form {g : Gl} (h : GF g) : ∃ r t, charsL (bytN g.text) = r :: t ∧ isChN r ∧ (∀ x ∈ t, isChN x) ∧ 1 ≤ widL (r : Int) ∧ (∀ x ∈ t, inT markT (x : Int) = true) ∧ t.length ≤ 3 ∧ g.text = encS (r :: t) ∧ g.wide = decide (widL (r : Int) = 2) := by
 obtain ⟨hv, r, t, hc, hw, hm, hl⟩ := checkC_zero.1 h.1
 have hch := charsL_ch (bytN g.text)
 rw [hc] at hch
 refine ⟨r, t, hc, hch r (by simp), fun x hx => hch x (by simp [hx]), hw, List.all_eq_true.1 hm, hl, ?_, ?_⟩
 ·rw [← hc]
  exact ((encS_valid _).2 hv).symm
 ·have := h.2
  unfold widthC at this
  rw [if_pos h.1, hc] at this
  exact this
theorem runE_take : ∀ (t : List Gl) (g : Gl) (m : Nat), t.take (runE t g m) = List.replicate (runE t g m) g
 | t, g, 0 => by cases t <;> simp [runE]
 | [], g, m + 1 => by simp [runE]
 | x :: t, g, m + 1 => by
  rw [runE]
  split
  ·rename_i h
   subst h
   rw [List.take_succ_cons, List.replicate_succ, runE_take t x m]
  ·rfl
def pcL (l : List Gl) (rep : Int) : List Gl := l.take (pieceL l rep)
theorem pc_cons (g : Gl) (t : List Gl) (rep : Int) : pcL (g :: t) rep = g :: t.take (pieceL (g :: t) rep - 1) := by
 have := pieceL_pos (g := g) (t := t) rep
 obtain ⟨m, hm⟩ : ∃ m, pieceL (g :: t) rep = m + 1 := ⟨pieceL (g :: t) rep - 1, by omega⟩
 unfold pcL
 rw [hm, List.take_succ_cons, Nat.add_sub_cancel]
theorem pc_dig {g : Gl} {t : List Gl} {rep : Int} (h : kindL g = 3) : ∀ x ∈ pcL (g :: t) rep, kindL x = 3 ∧ x.style = g.style := by
 unfold pcL
 rw [pieceL_ltr (.inr h), h]
 exact runK_take _ _ _
theorem pc_oth {g : Gl} {t : List Gl} {rep : Int} (h : kindL g = 0) : pcL (g :: t) rep = [g] ∨ ∃ n, 2 ≤ n ∧ n ≤ 132 ∧ pcL (g :: t) rep = List.replicate n g ∧ (charsL (bytN g.text)).length = 1 := by
 have hle := (runE_le t g 131).2
 unfold pcL
 rw [pieceL_oth h]
 split
 ·rename_i hc
  rw [Nat.add_comm, List.take_succ_cons, runE_take]
  rcases Nat.eq_zero_or_pos (runE t g 131) with h0 | h0
  ·rw [h0]
   exact .inl rfl
  ·exact .inr ⟨runE t g 131 + 1, by omega, by omega, by rw [List.replicate_succ], hc.2.2⟩
 ·exact .inl rfl
theorem digs_lt {P : List Gl} (h : ∀ x ∈ P, kindL x = 3) : ∀ d ∈ digT (P.map headB), d < 10 := by
 intro d hd
 unfold digT at hd
 obtain ⟨c, hc, rfl⟩ := List.mem_map.1 hd
 obtain ⟨x, hx, rfl⟩ := List.mem_map.1 hc
 have h1 := (kind_byte (by rw [h x hx]; omega)).2
 rw [h x hx] at h1
 unfold kindB at h1
 split at h1
 ·omega
 ·split at h1
  ·omega
  ·split at h1
   ·omega
   ·omega
theorem sayL_pc {q : Spk} {S : Setts} {g : Gl} {t : List Gl} : sayL q S (pcL (g :: t) S.rep) = ⟨q.out ++ preL q g ((spokenL (pcL (g :: t) S.rep) S.spell S.digits).headD ⟨#[]⟩) ++ spokenL (pcL (g :: t) S.rep) S.spell S.digits, g.style, kindL g, false⟩ := sayL_eq (pc_cons g t S.rep)
def bStop : ByteArray := ⟨#[115, 116, 111, 112]⟩
def frmF : Bool → List ByteArray → Option Bool
 | b, [] => some b
 | b, a :: t => if azB a = false ∨ (a = bStop ∧ b = false) then none else frmF (decide (a = bWord) && !b) t
theorem frmF_app : ∀ (A B : List ByteArray) (b : Bool), frmF b (A ++ B) = (frmF b A).bind fun c => frmF c B
 | [], B, b => rfl
 | a :: t, B, b => by
  rw [List.cons_append, frmF, frmF]
  split
  ·rfl
  ·exact frmF_app t B _
def Clo (W : List ByteArray) : Prop := frmF false W = some false
theorem Clo.nil : Clo [] := rfl
theorem Clo.app {A B : List ByteArray} (hA : Clo A) (hB : Clo B) : Clo (A ++ B) := by
 unfold Clo at *
 rw [frmF_app, hA]
 exact hB
def okW (a : ByteArray) : Bool := azB a && !(decide (a = bStop)) && !(decide (a = bWord))
theorem Clo.one {a : ByteArray} (h : okW a = true) : Clo [a] := by
 unfold okW at h
 simp only [Bool.and_eq_true, Bool.not_eq_true', decide_eq_false_iff_not] at h
 obtain ⟨⟨h1, h2⟩, h3⟩ := h
 unfold Clo
 rw [frmF, if_neg (by rintro (h | ⟨h, _⟩); · rw [h1] at h; cases h
                      · exact h2 h), decide_eq_false h3]
 rfl
theorem Clo.all : ∀ {W : List ByteArray}, (∀ a ∈ W, okW a = true) → Clo W
 | [], _ => Clo.nil
 | a :: t, h => Clo.app (A := [a]) (Clo.one (h a (by simp))) (Clo.all fun x hx => h x (by simp [hx]))
theorem num9 {D : List Nat} (h : ∀ d ∈ D, d < 10) : numL D < 10 ^ D.length := by
 have key : ∀ (D : List Nat) (n m : Nat), (∀ d ∈ D, d < 10) → n < 10 ^ m → D.foldl (fun n d => 10 * n + d) n < 10 ^ (m + D.length) := by
  intro D
  induction D with
  | nil => intro n m _ h; simpa using h
  | cons d t ih =>
   intro n m hd hn
   have h1 := hd d (by simp)
   have := ih (10 * n + d) (m + 1) (fun x hx => hd x (by simp [hx])) (by rw [Nat.pow_succ]; omega)
   rw [List.foldl_cons, List.length_cons, show m + (t.length + 1) = m + 1 + t.length by omega]
   exact this
 have := key D 0 0 h (by decide)
 rwa [Nat.zero_add] at this
theorem sz_wb (j : Nat) (hj : j < 32) : (wb j).size ≤ 1000 := by
 have : ∀ k : Fin 32, (wb k.val).size ≤ 1000 := by decide +kernel
 exact this ⟨j, hj⟩
theorem sz_nb (j : Nat) (hj : j < 32) : (nb j).size ≤ 1000 := by
 have : ∀ k : Fin 32, (nb k.val).size ≤ 1000 := by decide +kernel
 exact this ⟨j, hj⟩
theorem sz_sty (i : Nat) : (styB i).size ≤ 1000 := by
 unfold styB
 split <;> decide +kernel
theorem sz_words {n : Int} (h1 : -999999999 ≤ n) (h2 : n ≤ 999999999) : ∀ a ∈ (wordsL n).map wb, a.size ≤ 1000 := by
 intro a ha
 obtain ⟨i, hi, rfl⟩ := List.mem_map.1 ha
 exact sz_wb i (sg_words_lt n h1 h2 i hi)
theorem sz_numW {n : Nat} (h : n ≤ 999999999) : ∀ a ∈ numW n, a.size ≤ 1000 := sz_words (by omega) (by omega)
theorem sz_spell (r : Int) : ∀ a ∈ spellL r, a.size ≤ 1000 := by
 intro a ha
 unfold spellL at ha
 split at ha
 ·rename_i i hi
  rw [List.mem_singleton] at ha
  subst ha
  exact sz_nb i (sIdxI_some hi).1
 ·split at ha
  ·rename_i hc
   have hr := char_range hc
   rcases List.mem_cons.1 ha with rfl | ha
   ·decide +kernel
   ·exact sz_words (by omega) (by omega) a ha
  ·cases ha
theorem sz_single (g : Gl) : ∀ a ∈ singleL g, a.size ≤ 1000 := by
 intro a ha
 unfold singleL at ha
 split at ha
 ·rw [List.mem_singleton] at ha
  subst ha
  decide +kernel
 ·rw [List.mem_flatMap] at ha
  obtain ⟨r, _, ha⟩ := ha
  exact sz_spell _ a ha
theorem bd_single {g : Gl} (h : g.text.size ≤ 40) : (singleL g).length ≤ 1281 := by
 have h1 := @singleL_len g
 have h2 := charsL_len g.text
 omega
theorem sz_letters {l : List Gl} (hl : l.length ≤ 60) (sp : Bool) : ∀ a ∈ lettersL l sp, a.size ≤ 1000 := by
 have hlow : (lowL l).length = l.length := by unfold lowL; rw [List.length_map]
 intro a ha
 unfold lettersL at ha
 rcases List.mem_append.1 ha with ha | ha
 ·split at ha
  ·rw [List.mem_singleton] at ha; subst ha; decide +kernel
  ·split at ha
   ·rw [List.mem_singleton] at ha; subst ha; decide +kernel
   ·cases ha
 ·split at ha
  ·rcases List.mem_append.1 ha with ha | ha
   ·rcases List.mem_cons.1 ha with rfl | ha
    ·decide +kernel
    ·obtain ⟨c, hc, rfl⟩ := List.mem_map.1 ha
     exact (by decide : 1 ≤ 1000)
   ·rw [List.mem_singleton] at ha; subst ha; decide +kernel
  ·rcases List.mem_append.1 ha with ha | ha
   ·split at ha
    ·rw [List.mem_singleton] at ha; subst ha; decide +kernel
    ·cases ha
   ·rw [List.mem_singleton] at ha
    subst ha
    show (List.toArray _).size ≤ _
    rw [List.size_toArray]
    omega
theorem bd_letters {l : List Gl} (hl : l.length ≤ 60) (sp : Bool) : (lettersL l sp).length ≤ 1300 := by
 have hlow : (lowL l).length = l.length := by unfold lowL; rw [List.length_map]
 unfold lettersL
 simp only [List.length_append]
 (repeat' split) <;> simp only [List.length_append, List.length_cons, List.length_nil, List.length_map] <;> omega
theorem bd_digits {l : List Gl} (hl : l.length ≤ 60) (dg : Bool) : (digitsL l dg).length ≤ 1300 := by
 rw [digitsL_T]
 unfold digitsT
 split
 ·have := catW_len (digT (List.map headB l))
  have h5 : (digT (List.map headB l)).length ≤ 60 := by unfold digT; rw [List.length_map, List.length_map]; exact hl
  rw [List.length_cons]
  omega
 ·have := numW_len (numL (digT (List.map headB l)))
  omega
theorem sz_digits {l : List Gl} (h : ∀ x ∈ l, kindL x = 3) (dg : Bool) : ∀ a ∈ digitsL l dg, a.size ≤ 1000 := by
 have hd : ∀ d ∈ digL l, d < 10 := by
  have := digs_lt h
  unfold digT at this
  intro d hd
  refine this d ?_
  unfold digL at hd
  rw [List.map_map]
  exact hd
 have hl : (digL l).length = l.length := by unfold digL; rw [List.length_map]
 unfold digitsL
 split
 ·intro a ha
  rcases List.mem_cons.1 ha with rfl | ha
  ·decide +kernel
  ·obtain ⟨d, hd1, ha⟩ := List.mem_flatMap.1 ha
   have := hd d hd1
   exact sz_numW (by omega) a ha
 ·rename_i hc
  have h9 : l.length ≤ 9 := by
   rcases Nat.lt_or_ge 9 l.length with h | h
   ·exact absurd (.inr (.inl h)) hc
   ·exact h
  have := num9 hd
  have hp : 10 ^ (digL l).length ≤ 10 ^ 9 := Nat.pow_le_pow_right (by decide) (by omega)
  exact sz_numW (by omega)
theorem bd_spoken {g : Gl} {t : List Gl} {rep : Int} {sp dg : Bool} (hn : (g :: t).length ≤ 60) (hz : ∀ x ∈ g :: t, x.text.size ≤ 40) :
  (spokenL (pcL (g :: t) rep) sp dg).length ≤ 1300 ∧ ∀ a ∈ spokenL (pcL (g :: t) rep) sp dg, a.size ≤ 1000 := by
 have hpc := pc_cons g t rep
 have hpl : (pcL (g :: t) rep).length ≤ 60 := by
  unfold pcL
  rw [List.length_take]
  omega
 have hg := hz g (by simp)
 by_cases hk : kindL g = 1 ∨ kindL g = 2
 ·rw [hpc] at hpl ⊢
  rw [spokenL_ltr hk]
  exact ⟨bd_letters hpl sp, sz_letters hpl sp⟩
 ·by_cases h3 : kindL g = 3
  ·have h2 := pc_dig (t := t) (rep := rep) h3
   rw [hpc] at h2 hpl ⊢
   rw [spokenL_dig h3]
   exact ⟨bd_digits hpl dg, sz_digits (fun x hx => (h2 x hx).1) dg⟩
  ·have h0 : kindL g = 0 := by
    have := kindL_le g
    omega
   have hs := bd_single hg
   rcases pc_oth (t := t) (rep := rep) h0 with e | ⟨n, hn, hn2, e, _⟩
   ·rw [e, spokenL_one h0]
    exact ⟨by omega, sz_single g⟩
   ·rw [e]
    obtain ⟨m, rfl⟩ : ∃ m, n = m + 1 := ⟨n - 1, by omega⟩
    rw [List.replicate_succ, spokenL_many h0 (by intro e; have := congrArg List.length e; simp at this; omega)]
    have hw := numW_len ((List.replicate m g).length + 1)
    refine ⟨by simp only [List.length_append, List.length_cons, List.length_nil]; omega, fun a ha => ?_⟩
    rcases List.mem_append.1 ha with ha | ha
    ·rcases List.mem_append.1 ha with ha | ha
     ·exact sz_numW (by simp; omega) a ha
     ·rw [List.mem_singleton] at ha; subst ha; decide +kernel
    ·exact sz_single g a ha
theorem sz_pre (q : Spk) (g : Gl) (w0 : ByteArray) : ∀ a ∈ preL q g w0, a.size ≤ 1000 := by
 unfold preL
 intro a ha
 (repeat' split at ha) <;> first | (cases ha; done) | (rw [List.mem_singleton] at ha; subst ha; first | exact sz_sty _ | decide +kernel)
theorem bd_from (S : Setts) : ∀ (n : Nat) (q : Spk) (rest : List Gl), rest.length ≤ n → rest.length ≤ 60 → (∀ x ∈ rest, x.text.size ≤ 40) → (∀ s ∈ q.out, s.size ≤ 1000) →
  (wordsFrom S rest.length q rest).out.length ≤ q.out.length + 1301 * rest.length ∧ ∀ s ∈ (wordsFrom S rest.length q rest).out, s.size ≤ 1000
 | n, q, [], _, _, _, h => by
  rw [show (wordsFrom S ([] : List Gl).length q []) = q from rfl]
  exact ⟨by simp, h⟩
 | 0, q, g :: t, hn, _, _, _ => by simp at hn
 | n + 1, q, g :: t, hn, h6, hz, h => by
  have hp := pieceL_pos (g := g) (t := t) S.rep
  have hdl : ((g :: t).drop (pieceL (g :: t) S.rep)).length = (g :: t).length - pieceL (g :: t) S.rep := List.length_drop
  have hc : (g :: t).length = t.length + 1 := List.length_cons
  have hzd : ∀ x ∈ (g :: t).drop (pieceL (g :: t) S.rep), x.text.size ≤ 40 := fun x hx => hz x (List.mem_of_mem_drop hx)
  rw [wordsFrom_cons]
  split
  ·have := bd_from S n { q with silent := true } _ (by omega) (by omega) hzd h
   exact ⟨by have h1 := this.1; simp only at h1; omega, this.2⟩
  ·have hb := bd_spoken (rep := S.rep) (sp := S.spell) (dg := S.digits) h6 hz
   have hq : (sayL q S (pcL (g :: t) S.rep)).out = q.out ++ preL q g ((spokenL (pcL (g :: t) S.rep) S.spell S.digits).headD ⟨#[]⟩) ++ spokenL (pcL (g :: t) S.rep) S.spell S.digits := by rw [sayL_pc]
   have hpre := preL_len q g ((spokenL (pcL (g :: t) S.rep) S.spell S.digits).headD ⟨#[]⟩)
   have hql : (sayL q S (pcL (g :: t) S.rep)).out.length ≤ q.out.length + 1301 := by
    rw [hq, List.length_append, List.length_append]
    have := hb.1
    omega
   have := bd_from S n (sayL q S (pcL (g :: t) S.rep)) _ (by omega) (by omega) hzd (by
    rw [hq]
    intro s hs
    rcases List.mem_append.1 hs with hs | hs
    ·rcases List.mem_append.1 hs with hs | hs
     ·exact h s hs
     ·exact sz_pre _ _ _ s hs
    ·exact hb.2 s hs)
   exact ⟨Nat.le_trans this.1 (by omega), this.2⟩
end Go.Proofs.YtejjfiipghcifaaGreatDoor
