/- Joined texts: Sig3, SigP, Bk0, Bk1, Bk2, Bk3. -/
import Derived.Test.YtejjfiipghcifaaGreatDoorQAA
import Derived.Test.YtejjfiipghcifaaGreatDoorQAB
import Derived.Test.YtejjfiipghcifaaGreatDoorQAC
import Derived.Test.YtejjfiipghcifaaGreatDoorQAD
import Derived.Test.YtejjfiipghcifaaGreatDoorQAE
import Derived.Test.YtejjfiipghcifaaGreatDoorQAF
import Derived.Test.YtejjfiipghcifaaGreatDoorQAG
import Derived.Test.YtejjfiipghcifaaGreatDoorQAH
import Derived.Test.YtejjfiipghcifaaGreatDoorQAJ
import Derived.Test.YtejjfiipghcifaaGreatDoorQAK
import Derived.Test.YtejjfiipghcifaaGreatDoorQAN
import Derived.Test.YtejjfiipghcifaaGreatDoorQAO
import Derived.Test.YtejjfiipghcifaaGreatDoorQAP
import Derived.Test.YtejjfiipghcifaaGreatDoorQAR
import Derived.Test.YtejjfiipghcifaaGreatDoorQAS
import Derived.Test.YtejjfiipghcifaaGreatDoorQAV
import Derived.Test.YtejjfiipghcifaaGreatDoorQDW
set_option linter.unusedVariables false
set_option linter.unusedSimpArgs false
set_option linter.unnecessarySimpa false
namespace Go.Proofs.YtejjfiipghcifaaGreatDoor
open Go.RowKit
theorem nIdx_nb (i : Nat) (hi : i < 32) : nIdx (nb i) = some i := by
 have : ∀ i : Fin 32, nIdx (nb i.val) = some i.val := by decide +kernel
 exact this ⟨i, hi⟩
theorem nIdx_cB : nIdx cB = none := by decide +kernel
theorem prefN_of {l : List ByteArray} {k : Nat} {v : Int} (h0 : 0 < k) (hv : numberL (l.take k) = some v) : ∀ {m : Nat}, k ≤ m → (∀ i, k < i → i ≤ m → numberL (l.take i) = none) → prefN l m = some (v, k) := by
 intro m
 induction m with
 | zero => intro h _; omega
 | succ m ih =>
  intro h hn
  rw [prefN]
  rcases Nat.lt_or_ge m k with h1 | h1
  ·obtain rfl : k = m + 1 := by omega
   rw [hv]
  ·rw [hn (m + 1) (by omega) (by omega)]
   exact ih h1 fun i a b => hn i a (by omega)
theorem prefix_app (n : Int) (h1 : -999999999 ≤ n) (h2 : n ≤ 999999999) (t : List ByteArray) (ht : NoNum t) : prefixL ((wordsL n).map wb ++ t) = some (n, (wordsL n).length) := by
 have hpos : 0 < (wordsL n).length := by
  rcases wordsL_pos n with h | h
  ·exact h
  ·omega
 have hle := wordsL_le n
 have hnum := number_words n h1 h2
 have hlen : ((wordsL n).map wb ++ t).length = (wordsL n).length + t.length := by simp
 refine prefN_of hpos ?_ (by omega) ?_
 ·rw [List.take_append_of_le_length (by simp), List.take_of_length_le (by simp)]
  exact hnum
 ·intro i hi1 hi2
  cases h : numberL (((wordsL n).map wb ++ t).take i) with
  | none => rfl
  | some v =>
   exfalso
   obtain ⟨a1, a2, a3, _⟩ := number_some h
   have hk : (wordsL n).length < (((wordsL n).map wb ++ t).take i).length := by rw [List.length_take, hlen]; omega
   have e : (((wordsL n).map wb ++ t).take i)[(wordsL n).length] = t[0]'(by omega) := by
    rw [List.getElem_take, List.getElem_append_right (by simp)]
    simp
   have hk2 : (wordsL n).length < ((wordsL v).map wb).length := by rw [a3]; exact hk
   have e2 : ((wordsL v).map wb)[(wordsL n).length] = (((wordsL n).map wb ++ t).take i)[(wordsL n).length] := by
    simp only [a3]
   rw [e, List.getElem_map] at e2
   cases t with
   | nil => simp only [List.length_nil, Nat.add_zero] at hlen; omega
   | cons x t' => exact ht x t' rfl _ (sg_words_lt v a1 a2 _ (List.getElem_mem _)) e2
theorem unspell_spell {r : Int} (hr : isCharB r = true) {t : List ByteArray} (ht : NoNum t) : unspellL (spellL r ++ t) = some (r, (spellL r).length) := by
 unfold spellL
 cases h : sIdxI r with
 | some i =>
  obtain ⟨a, b, _⟩ := sIdxI_some h
  simp only [List.cons_append, List.nil_append, unspellL, nIdx_nb i a, List.length_cons, List.length_nil, Nat.zero_add]
  rw [b]
 | none =>
  obtain ⟨a, b⟩ := char_range hr
  simp only [hr, if_true, List.cons_append, unspellL, nIdx_cB, prefix_app r (by omega) (by omega) t ht, List.length_cons, List.length_map]
  rw [unsTail_t ⟨hr, h⟩, Nat.add_comm]
end Go.Proofs.YtejjfiipghcifaaGreatDoor
namespace Go.Proofs.YtejjfiipghcifaaGreatDoor
open Go.RowKit
set_option maxRecDepth 20000
theorem styIdx_sty (i : Nat) (hi : i < 4) : styIdx (styB i) = some i := by
 have : ∀ i : Fin 4, styIdx (styB i.val) = some i.val := by decide +kernel
 exact this ⟨i, hi⟩
theorem NoSty.caps : NoSty bCaps := ⟨by decide +kernel, by decide +kernel⟩
theorem NoSty.space : NoSty bSpace := ⟨by decide +kernel, by decide +kernel⟩
theorem NoSty.spelled : NoSty bSpelled := ⟨by decide +kernel, by decide +kernel⟩
theorem styled_none {a : ByteArray} {t : List ByteArray} {p : Prs} (hw : p.words = a :: t) (h : NoSty a) : styledL p = none := by
 unfold styledL
 rw [hw]
 simp only
 rw [h.1]
 simp only
 rw [if_neg h.2]
theorem part_word {p q : Prs} (h1 : styledL p = none) (h2 : wordL p = some q) : partL p = some q := by
 unfold partL
 rw [h1, no_or, h2, some_or]
theorem part_fig {p q : Prs} (h1 : styledL p = none) (h2 : wordL p = none) (h3 : figL p = some q) : partL p = some q := by
 unfold partL
 rw [h1, no_or, h2, no_or, h3, some_or]
theorem part_sign {p q : Prs} (h1 : styledL p = none) (h2 : wordL p = none) (h3 : figL p = none) (h4 : signL p = some q) : partL p = some q := by
 unfold partL
 rw [h1, no_or, h2, no_or, h3, no_or, h4, some_or]
theorem part_amt {p : Prs} (h1 : styledL p = none) (h2 : wordL p = none) (h3 : figL p = none) (h4 : signL p = none) : partL p = amtL p := by
 unfold partL
 rw [h1, no_or, h2, no_or, h3, no_or, h4, no_or]
theorem NoLit.fig {a : ByteArray} {t : List ByteArray} {p : Prs} (hw : p.words = a :: t) (h : NoLit a) : figL p = none := by
 unfold figL
 rw [hw]
 simp only
 rw [if_neg fun h' => h.2.2.2.2.1 h'.1]
theorem NoLit.space : NoLit bSpace := ⟨by decide +kernel, by decide +kernel, by decide +kernel, by decide +kernel, by decide +kernel, fun _ => by decide +kernel⟩
theorem sign_none_wb {j : Nat} (hj : j < 32) {t : List ByteArray} {p : Prs} (hw : p.words = wb j :: t) : signL p = none := by
 unfold signL
 rw [hw, char_none_wb hj]
theorem part_num {j : Nat} (hj : j < 32) {t : List ByteArray} {p : Prs} (hw : p.words = wb j :: t) : partL p = amtL p :=
 part_amt (styled_none hw (NoSty.wb hj)) (NoLit.word hw (NoLit.wb hj)) (NoLit.fig hw (NoLit.wb hj)) (sign_none_wb hj hw)
def readA (p : Prs) : Option (List Gl) := readL p.words.length p
theorem readL_fuel : ∀ (f f' : Nat) (p : Prs), p.words.length ≤ f → p.words.length ≤ f' → readL f p = readL f' p
 | 0, f', p, h1, h2 => by
  have e : p.words = [] := List.length_eq_zero_iff.1 (by omega)
  cases f' with
  | zero => rfl
  | succ f' => rw [readL, readL, if_pos e]
 | f + 1, 0, p, h1, h2 => by
  have e : p.words = [] := List.length_eq_zero_iff.1 (by omega)
  rw [readL, readL, if_pos e]
 | f + 1, f' + 1, p, h1, h2 => by
  rw [readL, readL]
  split
  ·rfl
  ·cases hq : partL p with
   | none => rfl
   | some q =>
    have := part_less hq
    exact readL_fuel f f' q (by omega) (by omega)
theorem readA_step {p q : Prs} (h : partL p = some q) : readA p = readA q := by
 have hl := part_less h
 unfold readA
 obtain ⟨n, hn⟩ : ∃ n, p.words.length = n + 1 := ⟨p.words.length - 1, by omega⟩
 rw [hn, readL, if_neg (by rintro e; rw [e] at hn; cases hn), h]
 exact readL_fuel _ _ q (by omega) (Nat.le_refl _)
theorem readA_nil {p : Prs} (hp : p.words = []) : readA p = some p.out := by
 unfold readA
 rw [hp]
 rfl
theorem u8_all {P : UInt8 → Bool} (h : ∀ n : Fin 256, P (UInt8.ofNat n.val) = true) (c : UInt8) : P c = true := by
 have := h ⟨c.toNat, UInt8.toNat_lt c⟩
 simpa using this
theorem up_low_cap (c : UInt8) (h : kindB c.toNat = 2) : upB (lowB c) = c := by
 have := u8_all (P := fun c => kindB c.toNat != 2 || upB (lowB c) == c) (by decide +kernel) c
 simp only [Bool.or_eq_true, bne_iff_ne, beq_iff_eq] at this
 exact this.resolve_left fun e => e h
theorem low_small (c : UInt8) (h : kindB c.toNat = 1) : lowB c = c := by
 have := u8_all (P := fun c => kindB c.toNat != 1 || lowB c == c) (by decide +kernel) c
 simp only [Bool.or_eq_true, bne_iff_ne, beq_iff_eq] at this
 exact this.resolve_left fun e => e h
theorem low_az (c : UInt8) (h : kindB c.toNat = 1 ∨ kindB c.toNat = 2) : 97 ≤ (lowB c).toNat ∧ (lowB c).toNat ≤ 122 := by
 have := u8_all (P := fun c => !(kindB c.toNat == 1 || kindB c.toNat == 2) || (decide (97 ≤ (lowB c).toNat) && decide ((lowB c).toNat ≤ 122))) (by decide +kernel) c
 rcases h with h | h <;> simpa [h] using this
theorem caps_none {T : List UInt8} (h : ∀ c ∈ T, kindB c.toNat = 1) : capsT T = 0 := by
 unfold capsT
 rw [List.length_eq_zero_iff, List.filter_eq_nil_iff]
 intro c hc
 rw [h c hc]
 decide
theorem caps_all {T : List UInt8} (h : ∀ c ∈ T, kindB c.toNat = 2) : capsT T = T.length := by
 unfold capsT
 rw [List.filter_eq_self.2]
 intro c hc
 rw [h c hc]
 decide
theorem caps_one {c : UInt8} {t : List UInt8} (h1 : kindB c.toNat = 2) (h2 : ∀ x ∈ t, kindB x.toNat = 1) : capsT (c :: t) = 1 := by
 have := caps_none h2
 unfold capsT at *
 rw [List.filter_cons_of_pos (by rw [h1]; decide), List.length_cons, this]
theorem low_all {t : List UInt8} (h : ∀ x ∈ t, kindB x.toNat = 1) : t.map lowB = t := by
 refine (List.map_congr_left (g := id) fun c hc => low_small c (h c hc)).trans (List.map_id _)
theorem azB_low {T : List UInt8} (h0 : T ≠ []) (h : ∀ c ∈ T, kindB c.toNat = 1 ∨ kindB c.toNat = 2) : azB ⟨(T.map lowB).toArray⟩ = true := by
 unfold azB
 simp only [Bool.and_eq_true, Bool.not_eq_true', List.isEmpty_eq_false_iff, List.all_eq_true, decide_eq_true_eq]
 refine ⟨by simpa using h0, fun c hc => ?_⟩
 obtain ⟨x, hx, rfl⟩ := List.mem_map.1 hc
 exact low_az x (h x hx)
def bodyT (L : List UInt8) (sp : Bool) : List ByteArray := if sp = true then bSpelled :: (L.map fun c => (⟨#[c]⟩ : ByteArray)) ++ [bEnd] else (if resB ⟨L.toArray⟩ = true then [bWord] else []) ++ [⟨L.toArray⟩]
theorem letters_body (T : List UInt8) (sp : Bool) : lettersT T sp = capW (capsT T) ++ bodyT (T.map lowB) sp := rfl
theorem oneB_single (c : UInt8) (h : 97 ≤ c.toNat ∧ c.toNat ≤ 122) : oneB ⟨#[c]⟩ = true := by
 unfold oneB azB
 simp only [List.all_cons, List.all_nil, List.isEmpty_cons, Bool.not_false, Bool.true_and, Bool.and_true, Bool.and_eq_true, decide_eq_true_eq]
 exact ⟨h, rfl⟩
theorem spelled_back {L : List UInt8} (h0 : L ≠ []) (h : ∀ c ∈ L, 97 ≤ c.toNat ∧ c.toNat ≤ 122) (R : List ByteArray) : spelledL ((L.map fun c => (⟨#[c]⟩ : ByteArray)) ++ bEnd :: R) = some (⟨L.toArray⟩, L.length + 2) := by
 have e : ((L.map fun c => (⟨#[c]⟩ : ByteArray)) ++ bEnd :: R).takeWhile oneB = L.map fun c => (⟨#[c]⟩ : ByteArray) := by
  rw [List.takeWhile_append_of_pos fun s hs => by
   obtain ⟨c, hc, rfl⟩ := List.mem_map.1 hs
   exact oneB_single c (h c hc)]
  rw [List.takeWhile_cons_of_neg (by decide +kernel), List.append_nil]
 have hl := List.length_pos_iff.2 h0
 unfold spelledL
 rw [e, List.length_map, if_neg (by omega), List.getElem?_append_right (by simp), List.length_map, Nat.sub_self]
 simp only [List.getElem?_cons_zero, if_true]
 have e2 : (L.map fun c => (⟨#[c]⟩ : ByteArray)).flatMap (fun s => s.data.toList) = L := by
  rw [List.flatMap_map]
  show L.flatMap (fun c => [c]) = L
  exact List.flatMap_singleton' L
 rw [e2]
theorem lit_body {L : List UInt8} (h0 : L ≠ []) (h : ∀ c ∈ L, 97 ≤ c.toNat ∧ c.toNat ≤ 122) (haz : azB ⟨L.toArray⟩ = true) (sp : Bool) (R : List ByteArray) : litL (bodyT L sp ++ R) = some (⟨L.toArray⟩, (bodyT L sp).length) := by
 unfold bodyT
 cases sp with
 | true =>
  rw [if_pos rfl, List.append_assoc, List.cons_append, List.singleton_append, litL, if_neg (fun e => absurd e.1 (by decide +kernel)), if_neg (fun e => absurd e.2 (by decide +kernel)), if_pos rfl, spelled_back h0 h]
  simp
 | false =>
  rw [if_neg (by simp)]
  cases hr : resB ⟨L.toArray⟩ with
  | true =>
   rw [if_pos rfl, List.append_assoc, List.singleton_append, List.singleton_append, litL, List.headD_cons, if_pos ⟨rfl, haz⟩]
   rfl
  | false =>
   rw [if_neg (by simp), List.nil_append, List.singleton_append, litL, if_neg (fun e => absurd e.1 (noRes hr (by decide +kernel))), if_pos ⟨haz, hr⟩]
   rfl
theorem body_head (L : List UInt8) (sp : Bool) : ∃ a t, bodyT L sp = a :: t ∧ NoSty a ∧ a ≠ bCap ∧ a ≠ bCaps := by
 unfold bodyT
 cases sp with
 | true => exact ⟨bSpelled, _, rfl, NoSty.spelled, by decide +kernel, by decide +kernel⟩
 | false =>
  rw [if_neg (by simp)]
  cases hr : resB ⟨L.toArray⟩ with
  | true => exact ⟨bWord, _, rfl, NoSty.word, by decide +kernel, by decide +kernel⟩
  | false => exact ⟨_, _, rfl, NoSty.lit hr, noRes hr (by decide +kernel), noRes hr (by decide +kernel)⟩
theorem drop_app {α : Type} (W R : List α) (k : Nat) (h : W.length = k) : (W ++ R).drop k = R := by
 subst h
 exact List.drop_left
theorem raise_zero_ {L : List UInt8} : (⟨L.toArray⟩ : ByteArray).data.toList = L := rfl
theorem read_letters {T : List UInt8} (h : LtrPat T) (sp : Bool) (R : List ByteArray) (O : List Gl) (st : Int) (J : Bool) :
  partL ⟨lettersT T sp ++ R, O, st, J⟩ = some ⟨R, O ++ textG J st ⟨T.toArray⟩, st, true⟩ := by
 have hk := h.kind
 have hl0 : T.map lowB ≠ [] := by simpa using h.1
 have hlz : ∀ c ∈ T.map lowB, 97 ≤ c.toNat ∧ c.toNat ≤ 122 := fun c hc => by
  obtain ⟨x, hx, rfl⟩ := List.mem_map.1 hc
  exact low_az x (hk x hx)
 have haz := azB_low h.1 hk
 obtain ⟨a, t, hb, hs, hc1, hc2⟩ := body_head (T.map lowB) sp
 have hlit := fun R => lit_body hl0 hlz haz sp R
 rw [letters_body]
 rcases h.2 with h1 | ⟨c, tt, rfl, h1, h2⟩ | ⟨h1, h2⟩
 ·rw [caps_none h1, show capW 0 = [] from rfl, List.nil_append]
  have e := hlit R
  rw [low_all h1] at *
  rw [hb] at e ⊢
  refine part_word (styled_none rfl hs) ?_
  unfold wordL
  simp only [List.cons_append]
  rw [if_neg hc1, if_neg hc2, ← List.cons_append, e]
  simp only [Option.map_some, textL]
  rw [drop_app _ _ _ rfl]
 ·rw [caps_one h1 h2, show capW 1 = [bCap] from rfl]
  refine part_word (styled_none rfl NoSty.cap) ?_
  unfold wordL
  simp only [List.cons_append, List.nil_append]
  rw [if_pos trivial, hlit R]
  simp only [Option.map_some, textL]
  rw [Nat.add_comm, List.drop_succ_cons, drop_app _ _ _ rfl]
  have e : raiseL ⟨((c :: tt).map lowB).toArray⟩ 1 = ⟨(c :: tt).toArray⟩ := by
   unfold raiseL
   simp only [List.map_cons, List.take_succ_cons, List.take_zero, List.drop_succ_cons, List.drop_zero, List.map_nil, List.cons_append, List.nil_append]
   rw [up_low_cap c h1, low_all h2]
  rw [e]
 ·have hc : capW (capsT T) = [bCaps] := by
   unfold capW
   rw [caps_all h2, if_neg (by omega), if_pos (by omega)]
  rw [hc]
  refine part_word (styled_none rfl NoSty.caps) ?_
  unfold wordL
  simp only [List.cons_append, List.nil_append]
  rw [if_neg (by decide +kernel), if_pos trivial, hlit R]
  simp only [Option.map_some, textL]
  rw [Nat.add_comm, List.drop_succ_cons, drop_app _ _ _ rfl]
  have e : raiseL ⟨(T.map lowB).toArray⟩ (⟨(T.map lowB).toArray⟩ : ByteArray).size = ⟨T.toArray⟩ := by
   unfold raiseL
   have hz : (⟨(T.map lowB).toArray⟩ : ByteArray).size = (T.map lowB).length := rfl
   rw [hz, raise_zero_, List.take_length, List.drop_length, List.append_nil, List.map_map]
   congr 2
   exact (List.map_congr_left (g := id) fun c hc => up_low_cap c (h2 c hc)).trans (List.map_id _)
  rw [e]
theorem numW_digit (d : Nat) (hd : d < 10) : numW d = [wb d] := by
 have : ∀ d : Fin 10, numW d.val = [wb d.val] := by decide +kernel
 exact this ⟨d, hd⟩
theorem dgW_wb (d : Nat) (hd : d < 10) : dgW (wb d) = some d := by
 have : ∀ d : Fin 10, dgW (wb d.val) = some d.val := by decide +kernel
 exact this ⟨d, hd⟩
theorem dgW_no {a : ByteArray} (h : ∀ j, j < 32 → wb j ≠ a) : dgW a = none := by
 unfold dgW
 rw [List.find?_eq_none]
 intro i hi
 simp at hi
 simpa using h i (by omega)
theorem catW_digits {D : List Nat} (h : ∀ d ∈ D, d < 10) : D.flatMap numW = D.map wb := by
 induction D with
 | nil => rfl
 | cons d t ih =>
  rw [List.flatMap_cons, List.map_cons, numW_digit d (h d (by simp)), ih fun x hx => h x (by simp [hx])]
  rfl
theorem dgs_back {D : List Nat} (h : ∀ d ∈ D, d < 10) {R : List ByteArray} (hR : NoNum R) : dgsL (D.map wb ++ R) = D := by
 have e : (D.map wb ++ R).takeWhile (fun s => (dgW s).isSome) = D.map wb := by
  rw [List.takeWhile_append_of_pos fun s hs => by
   obtain ⟨d, hd, rfl⟩ := List.mem_map.1 hs
   rw [dgW_wb d (h d hd)]
   rfl]
  have : R.takeWhile (fun s => (dgW s).isSome) = [] := by
   cases R with
   | nil => rfl
   | cons a t => rw [List.takeWhile_cons_of_neg (by rw [dgW_no (hR a t rfl)]; simp)]
  rw [this, List.append_nil]
 unfold dgsL
 rw [e, List.map_map]
 exact (List.map_congr_left (g := id) fun d hd => by simp [dgW_wb d (h d hd)]).trans (List.map_id _)
theorem read_digits {D : List Nat} (h0 : D ≠ []) (h : ∀ d ∈ D, d < 10) {R : List ByteArray} (hR : NoNum R) (O : List Gl) (st : Int) (J : Bool) :
  partL ⟨(bDigits :: D.flatMap numW) ++ R, O, st, J⟩ = some ⟨R, O ++ textG J st (dgStr D), st, true⟩ := by
 rw [catW_digits h]
 refine part_fig (styled_none rfl NoSty.digits) ?_ ?_
 ·unfold wordL
  simp only [List.cons_append]
  rw [if_neg (by decide +kernel), if_neg (by decide +kernel), litL, if_neg (fun e => absurd e.1 (by decide +kernel)), if_neg (fun e => absurd e.2 (by decide +kernel)), if_neg (by decide +kernel)]
  rfl
 ·unfold figL
  simp only [List.cons_append]
  rw [dgs_back h hR, if_pos ⟨trivial, h0⟩]
  simp only [textL]
  rw [Nat.add_comm, List.drop_succ_cons, drop_app _ _ _ (by simp)]
theorem numW_cons (n : Nat) (hn : n ≤ 999999999) : ∃ j t, j < 32 ∧ numW n = wb j :: t := by
 have h1 : 0 < (wordsL (n : Int)).length := by
  rcases wordsL_pos (n : Int) with h | h
  ·exact h
  ·omega
 have h2 := sg_words_lt (n : Int) (by omega) (by omega)
 unfold numW
 cases hw : wordsL (n : Int) with
 | nil => rw [hw] at h1; simp at h1
 | cons j t =>
  rw [hw] at h2
  exact ⟨j, t.map wb, h2 j (by simp), rfl⟩
theorem read_number {n : Nat} (hn : n ≤ 999999999) {R : List ByteArray} (hR : NoNum R) (hT : R[0]? ≠ some bTimes) (O : List Gl) (st : Int) (J : Bool) :
  partL ⟨numW n ++ R, O, st, J⟩ = some ⟨R, O ++ textG J st ⟨(decT n).toArray⟩, st, true⟩ := by
 obtain ⟨j, t, hj, e⟩ := numW_cons n hn
 rw [part_num hj (t := t ++ R) (by rw [e]; rfl)]
 unfold amtL
 simp only
 have hp := prefix_app (n : Int) (by omega) (by omega) R hR
 have hl : (numW n).length = (wordsL (n : Int)).length := by unfold numW; rw [List.length_map]
 rw [show numW n ++ R = (wordsL (n : Int)).map wb ++ R from rfl, hp]
 simp only
 rw [if_neg (by omega), List.getElem?_append_right (by simp), List.length_map, Nat.sub_self, if_neg hT]
 simp only [textL]
 rw [drop_app _ _ _ (by simp), Int.toNat_natCast]
theorem enc_bytN {rs : List Nat} (h : ∀ r ∈ rs, isChN r) : bytN (encS rs) = encL_ rs := by
 unfold encS
 show List.map UInt8.toNat (List.toArray _).toList = _
 rw [List.map_map]
 refine (List.map_congr_left (g := id) fun b hb => ?_).trans (List.map_id _)
 have := encL_lt h b hb
 simp
 omega
theorem enc_chars {rs : List Nat} (h : ∀ r ∈ rs, isChN r) : charsL (bytN (encS rs)) = rs := by rw [enc_bytN h, charsL_enc h]
theorem enc_valid {rs : List Nat} (h : ∀ r ∈ rs, isChN r) : validB (encS rs) = true := (encS_valid _).1 (by rw [enc_chars h])
theorem enc_one (r : Nat) : encS [r] = encB r := by
 unfold encS encB encL_
 simp only [List.flatMap_cons, List.flatMap_nil, List.append_nil]
theorem enc_snoc (a : List Nat) (m : Nat) : encS (a ++ [m]) = encS a ++ encB m := by
 apply ByteArray.ext
 rw [ByteArray.data_append]
 apply Array.toList_inj.1
 unfold encS encB encL_
 simp
theorem check_enc {r : Nat} {pre : List Nat} (h : ∀ x ∈ r :: pre, isChN x) (hw : 1 ≤ widL (r : Int)) (hm : ∀ x ∈ pre, inT markT (x : Int) = true) (hl : pre.length ≤ 3) : checkC (encS (r :: pre)) = 0 :=
 checkC_zero.2 ⟨enc_valid h, r, pre, enc_chars h, hw, List.all_eq_true.2 hm, hl⟩
theorem attach_enc {r m : Nat} {pre : List Nat} (h : ∀ x ∈ r :: pre, isChN x) (hw : 1 ≤ widL (r : Int)) (hm : ∀ x ∈ pre, inT markT (x : Int) = true) (hl : pre.length < 3) (hmm : inT markT (m : Int) = true) :
  attachC (encS (r :: pre)) (m : Int) = (encS (r :: pre ++ [m]), 0) := by
 unfold attachC
 rw [if_neg (by rw [check_enc h hw hm (by omega)]; simp), if_neg (by rw [hmm]; simp), enc_chars h, if_neg (by rw [List.length_cons]; omega), Int.toNat_natCast, enc_snoc]
theorem mark_wid {m : Nat} (h : inT markT (m : Int) = true) : widL (m : Int) = 0 := by
 have hlow : ∀ p ∈ markT, 160 ≤ p.1 := by decide +kernel
 have : 160 ≤ (m : Int) := by
  unfold inT at h
  obtain ⟨p, hp, h⟩ := List.any_eq_true.1 h
  simp only [Bool.and_eq_true, decide_eq_true_eq] at h
  have := hlow p hp
  omega
 unfold widL
 rw [if_neg (by omega), if_pos h]
theorem isNumW_iff {s : ByteArray} : isNumW s = true ↔ ∃ j, j < 32 ∧ wb j = s := by
 unfold isNumW
 rw [List.any_eq_true]
 simp
theorem NoNum.of {a : ByteArray} (h : isNumW a = false) (t : List ByteArray) : NoNum (a :: t) := by
 intro x t' e j hj he
 injection e with e _
 subst e
 have := isNumW_iff.2 ⟨j, hj, he⟩
 rw [h] at this
 cases this
def ChW (r : Int) (W R : List ByteArray) : Prop := (r = 32 ∧ W = [bSpace]) ∨ (isCharB r = true ∧ W = spellL r ∧ (isNumW (W.getLastD ⟨#[]⟩) = true → NoNum R))
theorem words_last {n : Int} (h1 : -999999999 ≤ n) (h2 : n ≤ 999999999) (c : ByteArray) : isNumW ((c :: (wordsL n).map wb).getLastD ⟨#[]⟩) = true := by
 have hpos : 0 < (wordsL n).length := by
  rcases wordsL_pos n with h | h
  ·exact h
  ·omega
 rw [List.getLastD_cons]
 obtain ⟨a, l, hl⟩ : ∃ a l, (wordsL n).map wb = l ++ [a] := by
  have hne : (wordsL n).map wb ≠ [] := by rw [← List.length_pos_iff, List.length_map]; exact hpos
  exact ⟨_, _, (List.dropLast_concat_getLast hne).symm⟩
 rw [hl, List.getLastD_concat]
 have : a ∈ (wordsL n).map wb := by rw [hl]; simp
 obtain ⟨j, hj, rfl⟩ := List.mem_map.1 this
 exact isNumW_iff.2 ⟨j, sg_words_lt n h1 h2 j hj, rfl⟩
theorem ChW.back {r : Int} {W R : List ByteArray} (h : ChW r W R) : charW (W ++ R) = some (r, W.length) := by
 rcases h with ⟨rfl, rfl⟩ | ⟨hr, rfl, hn⟩
 ·show charW (bSpace :: R) = _
  rw [charW, if_pos rfl]
  rfl
 ·have hnb : ∀ i : Fin 32, nb i.val ≠ bSpace := by decide +kernel
  cases hi : sIdxI r with
  | some i =>
   have e : spellL r = [nb i] := by unfold spellL; rw [hi]
   obtain ⟨a, b, _⟩ := sIdxI_some hi
   rw [e]
   show charW (nb i :: R) = _
   rw [charW, if_neg (hnb ⟨i, a⟩), unspellL, nIdx_nb i a]
   simp only [List.length_cons, List.length_nil]
   rw [b]
  | none =>
   have e : spellL r = cB :: (wordsL r).map wb := by unfold spellL; rw [hi]; simp only [hr, if_true]
   obtain ⟨a, b⟩ := char_range hr
   have hR : NoNum R := hn (by rw [e]; exact words_last (by omega) (by omega) _)
   have := unspell_spell hr hR
   rw [e] at this ⊢
   rw [List.cons_append, charW, if_neg (by decide +kernel), ← List.cons_append]
   exact this
theorem ChW.head {r : Int} {W R : List ByteArray} (h : ChW r W R) : ∃ a t, W = a :: t ∧ NoSty a ∧ NoLit a ∧ isNumW a = false ∧ a ≠ bTimes := by
 have hnb : ∀ i : Fin 32, isNumW (nb i.val) = false ∧ nb i.val ≠ bTimes := by decide +kernel
 rcases h with ⟨rfl, rfl⟩ | ⟨hr, rfl, hn⟩
 ·exact ⟨_, _, rfl, NoSty.space, NoLit.space, by decide +kernel, by decide +kernel⟩
 ·cases hi : sIdxI r with
  | some i =>
   have e : spellL r = [nb i] := by unfold spellL; rw [hi]
   obtain ⟨a, _⟩ := sIdxI_some hi
   exact ⟨_, _, e, NoSty.nb a, NoLit.nb a, (hnb ⟨i, a⟩).1, (hnb ⟨i, a⟩).2⟩
  | none =>
   have e : spellL r = cB :: (wordsL r).map wb := by unfold spellL; rw [hi]; simp only [hr, if_true]
   exact ⟨_, _, e, NoSty.cB, NoLit.cB, by decide +kernel, by decide +kernel⟩
theorem read_char {r : Int} {W R : List ByteArray} (h : ChW r W R) {O O' : List Gl} {st : Int} (ha : addL O st r 1 = (true, O')) (J : Bool) :
  partL ⟨W ++ R, O, st, J⟩ = some ⟨R, O', st, false⟩ := by
 obtain ⟨a, t, e, h1, h2, _, _⟩ := h.head
 have hw : (⟨W ++ R, O, st, J⟩ : Prs).words = a :: (t ++ R) := by rw [e]; rfl
 refine part_sign (styled_none hw h1) (NoLit.word hw h2) (NoLit.fig hw h2) ?_
 unfold signL
 simp only
 rw [h.back]
 simp only
 rw [ha, if_pos rfl, drop_app _ _ _ rfl]
theorem add_wide {O : List Gl} {st : Int} {r n : Nat} (h : 1 ≤ widL (r : Int)) : addL O st (r : Int) n = (true, O ++ List.replicate n ⟨encB r, decide (widL (r : Int) = 2), st⟩) := by
 unfold addL
 rw [if_neg (by omega), if_neg (by omega), Int.toNat_natCast]
theorem read_times {n : Nat} (h2 : 2 ≤ n) (hn : n ≤ 132) {r : Nat} {W R : List ByteArray} (h : ChW (r : Int) W R) (hw : 1 ≤ widL (r : Int)) (O : List Gl) (st : Int) (J : Bool) :
  partL ⟨numW n ++ [bTimes] ++ W ++ R, O, st, J⟩ = some ⟨R, O ++ List.replicate n ⟨encB r, decide (widL (r : Int) = 2), st⟩, st, false⟩ := by
 obtain ⟨j, t, hj, e⟩ := numW_cons n (by omega)
 have hl : (numW n).length = (wordsL (n : Int)).length := by unfold numW; rw [List.length_map]
 have hT : NoNum (bTimes :: (W ++ R)) := NoNum.of (by decide +kernel) _
 have ew : numW n ++ [bTimes] ++ W ++ R = numW n ++ (bTimes :: (W ++ R)) := by simp
 rw [ew, part_num hj (t := t ++ (bTimes :: (W ++ R))) (by rw [e]; rfl)]
 have hp := prefix_app (n : Int) (by omega) (by omega) _ hT
 unfold amtL
 simp only
 rw [show numW n ++ (bTimes :: (W ++ R)) = (wordsL (n : Int)).map wb ++ (bTimes :: (W ++ R)) from rfl, hp]
 simp only
 rw [if_neg (by omega), List.getElem?_append_right (by simp), List.length_map, Nat.sub_self, List.getElem?_cons_zero, if_pos rfl]
 have hd : ∀ k, ((wordsL (n : Int)).map wb ++ (bTimes :: (W ++ R))).drop ((wordsL (n : Int)).length + 1 + k) = (W ++ R).drop k := by
  intro k
  rw [Nat.add_assoc, List.drop_append]
  simp [Nat.add_comm 1 k]
 have hd0 := hd 0
 rw [Nat.add_zero, List.drop_zero] at hd0
 rw [hd0, h.back]
 simp only
 rw [Int.toNat_natCast, add_wide hw, if_pos ⟨by omega, by omega, rfl⟩, hd, drop_app _ _ _ rfl]
theorem spellN_cons (m : Nat) (t : List Nat) : spellN (m :: t) = spellL (m : Int) ++ spellN t := by simp [spellN]
theorem last_app {A B : List ByteArray} (h : B ≠ []) (d : ByteArray) : (A ++ B).getLastD d = B.getLastD d := by
 obtain ⟨B', b, rfl⟩ : ∃ B' b, B = B' ++ [b] := ⟨_, _, (List.dropLast_concat_getLast h).symm⟩
 rw [← List.append_assoc, List.getLastD_concat, List.getLastD_concat]
theorem read_marks {r : Nat} (hr : isChN r) (hw : 1 ≤ widL (r : Int)) (O : List Gl) (st : Int) (wd : Bool) (st0 : Int) {R : List ByteArray} : ∀ (t pre : List Nat), (∀ x ∈ pre, isChN x) → (∀ x ∈ t, isChN x) → (∀ x ∈ pre, inT markT (x : Int) = true) → (∀ x ∈ t, inT markT (x : Int) = true) → pre.length + t.length ≤ 3 →
  (t ≠ [] → isNumW ((spellN t).getLastD ⟨#[]⟩) = true → NoNum R) → readA ⟨spellN t ++ R, O ++ [⟨encS (r :: pre), wd, st0⟩], st, false⟩ = readA ⟨R, O ++ [⟨encS (r :: (pre ++ t)), wd, st0⟩], st, false⟩
 | [], pre, _, _, _, _, _, _ => by rw [List.append_nil]; rfl
 | m :: t, pre, h1, h2, h3, h4, h5, h6 => by
  rw [List.length_cons] at h5
  have hm := h2 m (by simp)
  have hmm := h4 m (by simp)
  have hne : spellL (m : Int) ≠ [] := by
   intro e
   have := spell_nil.1 e
   rw [chN_isChar hm] at this
   cases this
  have hc : ChW (m : Int) (spellL (m : Int)) (spellN t ++ R) := .inr ⟨chN_isChar hm, rfl, fun hl => by
   cases t with
   | nil => exact h6 (by simp) (by rw [spellN_cons, show spellN [] = [] from rfl, List.append_nil]; exact hl)
   | cons x t' =>
    rw [spellN_cons, List.append_assoc]
    exact NoNum.spell (h2 x (by simp)) _⟩
  have ha : addL (O ++ [⟨encS (r :: pre), wd, st0⟩]) st (m : Int) 1 = (true, O ++ [⟨encS (r :: (pre ++ [m])), wd, st0⟩]) := by
   unfold addL
   rw [mark_wid hmm, if_neg (by omega), if_pos rfl, if_neg (by omega), List.getLast?_append, List.getLast?_singleton, Option.some_or]
   simp only
   rw [attach_enc (List.forall_mem_cons.2 ⟨hr, h1⟩) hw h3 (by omega) hmm, List.dropLast_concat]
   rfl
  rw [spellN_cons, List.append_assoc, readA_step (read_char hc ha false)]
  have := read_marks hr hw O st wd st0 t (pre ++ [m]) (fun x hx => by
    rcases List.mem_append.1 hx with hx | hx
    ·exact h1 x hx
    ·rw [List.mem_singleton] at hx; subst hx; exact hm) (fun x hx => h2 x (by simp [hx])) (fun x hx => by
    rcases List.mem_append.1 hx with hx | hx
    ·exact h3 x hx
    ·rw [List.mem_singleton] at hx; subst hx; exact hmm) (fun x hx => h4 x (by simp [hx])) (by rw [List.length_append, List.length_singleton]; omega) (fun ht hl => h6 (by simp) (by
     rw [spellN_cons, last_app _]
     ·exact hl
     ·cases t with
      | nil => exact absurd rfl ht
      | cons x t' =>
       rw [spellN_cons]
       intro e
       have := spell_nil.1 (List.append_eq_nil_iff.1 e).1
       rw [chN_isChar (h2 x (by simp))] at this
       cases this))
  rw [List.append_assoc, List.singleton_append] at this
  exact this
theorem space_chars {g : Gl} (h : g.text.data.toList = [32]) : charsL (bytN g.text) = [32] := by
 unfold bytN
 rw [h]
 decide +kernel
theorem single_ch {g : Gl} (h : GF g) {r : Nat} {R : List ByteArray} (hc : charsL (bytN g.text) = [r]) (hR : isNumW ((singleL g).getLastD ⟨#[]⟩) = true → NoNum R) : ChW (r : Int) (singleL g) R := by
 by_cases hs : g.text.data.toList = [32]
 ·have := space_chars hs
  rw [hc] at this
  injection this with this
  exact .inl ⟨by rw [this]; rfl, singleL_sp hs⟩
 ·have hch := charsL_ch (bytN g.text)
  rw [hc] at hch
  have e : singleL g = spellL (r : Int) := by
   rw [singleL_oth hs, hc, spellN_cons]
   exact List.append_nil _
  exact .inr ⟨chN_isChar (hch r (by simp)), e, hR⟩
theorem read_single {g : Gl} (h : GF g) {R : List ByteArray} (hR : isNumW ((singleL g).getLastD ⟨#[]⟩) = true → NoNum R) (O : List Gl) (J : Bool) :
  readA ⟨singleL g ++ R, O, g.style, J⟩ = readA ⟨R, O ++ [g], g.style, false⟩ := by
 obtain ⟨r, t, hc, h1, h2, h3, h4, h5, h6, h7⟩ := h.form
 have hg : g = ⟨encS (r :: t), decide (widL (r : Int) = 2), g.style⟩ := by
  obtain ⟨tx, wd, st⟩ := g
  simp only at h6 h7
  rw [h6, h7]
 have ha : addL O g.style (r : Int) 1 = (true, O ++ [⟨encS [r], decide (widL (r : Int) = 2), g.style⟩]) := by rw [add_wide h3, enc_one]; rfl
 cases t with
 | nil =>
  rw [readA_step (read_char (single_ch h hc hR) ha J), ← hg]
 | cons m t' =>
  have hs : g.text.data.toList ≠ [32] := by
   intro hs
   have := space_chars hs
   rw [hc] at this
   cases this
  have e : singleL g = spellL (r : Int) ++ spellN (m :: t') := by rw [singleL_oth hs, hc, spellN_cons]
  have hlast : (singleL g).getLastD ⟨#[]⟩ = (spellN (m :: t')).getLastD ⟨#[]⟩ := by
   rw [e, last_app]
   rw [spellN_cons]
   intro e
   have := spell_nil.1 (List.append_eq_nil_iff.1 e).1
   rw [chN_isChar (h2 m (by simp))] at this
   cases this
  rw [hlast] at hR
  have hcw : ChW (r : Int) (spellL (r : Int)) (spellN (m :: t') ++ R) := .inr ⟨chN_isChar h1, rfl, fun _ => by
   rw [spellN_cons, List.append_assoc]
   exact NoNum.spell (h2 m (by simp)) _⟩
  rw [e, List.append_assoc, readA_step (read_char hcw ha J), read_marks h1 h3 O g.style _ g.style (m :: t') [] (by simp) h2 (by simp) h4 (by simpa using h5) (fun _ => hR), List.nil_append, ← hg]
theorem numL_pos {a : Nat} (ha : a ≠ 0) (t : List Nat) : 0 < numL (a :: t) := by
 have : ∀ (t : List Nat) (n : Nat), 0 < n → 0 < t.foldl (fun n d => 10 * n + d) n := by
  intro t
  induction t with
  | nil => intro n h; exact h
  | cons d t ih => intro n h; exact ih _ (by show 0 < 10 * n + d; omega)
 unfold numL
 exact this t _ (by show 0 < 10 * 0 + a; omega)
theorem decT_small {n : Nat} (h : n < 10) : decT n = [UInt8.ofNat (48 + n)] := by rw [decT, dif_pos h]
theorem decT_big {n : Nat} (h : ¬ n < 10) : decT n = decT (n / 10) ++ [UInt8.ofNat (48 + n % 10)] := by rw [decT, dif_neg h]
theorem dec_back : ∀ (k : Nat) (D : List Nat), D.length = k + 1 → (∀ d ∈ D, d < 10) → (k = 0 ∨ D.headD 1 ≠ 0) → decT (numL D) = D.map fun d => UInt8.ofNat (48 + d)
 | 0, D, hl, h, _ => by
  match D, hl with
  | [d], _ =>
   have : numL [d] = d := by unfold numL; simp
   rw [this, decT_small (h d (by simp))]
   rfl
 | k + 1, D, hl, h, h0 => by
  have hne : D ≠ [] := by rintro rfl; simp at hl
  obtain ⟨D', d, rfl⟩ : ∃ D' d, D = D' ++ [d] := ⟨_, _, (List.dropLast_concat_getLast hne).symm⟩
  rw [List.length_append, List.length_singleton] at hl
  have hd := h d (by simp)
  cases D' with
  | nil => simp at hl
  | cons a t =>
   have ha : a ≠ 0 := by
    rcases h0 with h0 | h0
    ·omega
    ·exact h0
   have hp := numL_pos ha t
   have ih := dec_back k (a :: t) (by omega) (fun x hx => h x (by simp at hx ⊢; rcases hx with hx | hx <;> simp [hx])) (.inr ha)
   rw [numL_snoc, decT_big (by omega), show (10 * numL (a :: t) + d) / 10 = numL (a :: t) by omega, show (10 * numL (a :: t) + d) % 10 = d by omega, ih, List.map_append]
   rfl
theorem wide_byte (c : UInt8) (h : kindB c.toNat ≠ 0 ∨ c = 32) : widthC ⟨#[c]⟩ = 1 := by
 have := u8_all (P := fun c => (kindB c.toNat == 0 && c != 32) || decide (widthC ⟨#[c]⟩ = 1)) (by decide +kernel) c
 simp only [Bool.or_eq_true, Bool.and_eq_true, beq_iff_eq, bne_iff_ne, decide_eq_true_eq] at this
 rcases this with ⟨h1, h2⟩ | h1
 ·rcases h with h | h
  ·exact absurd h1 h
  ·exact absurd h h2
 ·exact h1
theorem gl_byte {x : Gl} (h : GF x) {c : UInt8} (hc : x.text.data.toList = [c]) (hk : kindB c.toNat ≠ 0 ∨ c = 32) : x = chG x.style c := by
 obtain ⟨tx, wd, st⟩ := x
 have ht : tx = ⟨#[c]⟩ := ByteArray.ext (Array.toList_inj.1 hc)
 subst ht
 have := h.2
 simp only at this
 rw [wide_byte c hk] at this
 have : wd = false := by simpa using this
 rw [this]
 rfl
theorem gl_kind {x : Gl} (h : GF x) (hk : kindL x ≠ 0) : x = chG x.style (headB x) := by
 obtain ⟨h1, h2⟩ := kind_byte hk
 exact gl_byte h h1 (.inl (by rw [← h2]; exact hk))
theorem gl_kinds {P : List Gl} {st : Int} (h : ∀ x ∈ P, GF x) (hk : ∀ x ∈ P, kindL x ≠ 0 ∧ x.style = st) : (P.map headB).map (chG st) = P := by
 rw [List.map_map]
 refine (List.map_congr_left (g := id) fun x hx => ?_).trans (List.map_id _)
 have := gl_kind (h x hx) (hk x hx).1
 rw [(hk x hx).2] at this
 exact this.symm
theorem pc_ltr {g : Gl} {t : List Gl} {rep : Int} (h : kindL g = 1 ∨ kindL g = 2) : LtrPat ((pcL (g :: t) rep).map headB) ∧ ∀ x ∈ pcL (g :: t) rep, (kindL x = 1 ∨ kindL x = 2) ∧ x.style = g.style := by
 have hne : (pcL (g :: t) rep).map headB ≠ [] := by rw [pc_cons]; simp
 have hkb : ∀ x : Gl, kindL x ≠ 0 → kindB (headB x).toNat = kindL x := fun x hx => (kind_byte hx).2.symm
 rcases h with h | h
 ·have hall : ∀ x ∈ pcL (g :: t) rep, kindL x = 1 ∧ x.style = g.style := by
   unfold pcL
   rw [pieceL_ltr (.inl h), h]
   exact runK_take _ _ _
  refine ⟨⟨hne, .inl fun c hc => ?_⟩, fun x hx => ⟨.inl (hall x hx).1, (hall x hx).2⟩⟩
  obtain ⟨x, hx, rfl⟩ := List.mem_map.1 hc
  rw [hkb x (by have := (hall x hx).1; omega), (hall x hx).1]
 ·by_cases h1 : 1 < runK (g :: t) 2 g.style
  ·have hall : ∀ x ∈ pcL (g :: t) rep, kindL x = 2 ∧ x.style = g.style := by
    unfold pcL
    rw [pieceL_cap h, if_pos h1]
    exact runK_take _ _ _
   refine ⟨⟨hne, .inr (.inr ⟨?_, fun c hc => ?_⟩)⟩, fun x hx => ⟨.inr (hall x hx).1, (hall x hx).2⟩⟩
   ·have := runK_le (g :: t) 2 g.style
    unfold pcL
    rw [List.length_map, List.length_take, pieceL_cap h, if_pos h1]
    omega
   ·obtain ⟨x, hx, rfl⟩ := List.mem_map.1 hc
    rw [hkb x (by have := (hall x hx).1; omega), (hall x hx).1]
  ·have e : pcL (g :: t) rep = g :: t.take (runK t 1 g.style) := by
    unfold pcL
    rw [pieceL_cap h, if_neg h1, Nat.add_comm, List.take_succ_cons]
   have hall := runK_take t 1 g.style
   rw [e]
   refine ⟨⟨by simp, .inr (.inl ⟨headB g, (t.take (runK t 1 g.style)).map headB, rfl, by rw [hkb g (by omega), h], fun c hc => ?_⟩)⟩, fun x hx => ?_⟩
   ·obtain ⟨x, hx, rfl⟩ := List.mem_map.1 hc
    rw [hkb x (by have := (hall x hx).1; omega), (hall x hx).1]
   ·rcases List.mem_cons.1 hx with rfl | hx
    ·exact ⟨.inr h, rfl⟩
    ·exact ⟨.inl (hall x hx).1, (hall x hx).2⟩
theorem singleL_ne' {g : Gl} (h : GF g) : singleL g ≠ [] := by
 by_cases hs : g.text.data.toList = [32]
 ·rw [singleL_sp hs]; simp
 ·obtain ⟨r, t, hc, h1, _⟩ := h.form
  rw [singleL_oth hs, hc, spellN_cons]
  intro e
  have := spell_nil.1 (List.append_eq_nil_iff.1 e).1
  rw [chN_isChar h1] at this
  cases this
theorem last_cons (a : ByteArray) {t : List ByteArray} (h : t ≠ []) (d : ByteArray) : (a :: t).getLastD d = t.getLastD d := by
 cases t with
 | nil => exact absurd rfl h
 | cons b t => rw [List.getLastD_cons, List.getLastD_cons, List.getLastD_cons]
theorem numW_last (n : Nat) (hn : n ≤ 999999999) (A : List ByteArray) : isNumW ((A ++ numW n).getLastD ⟨#[]⟩) = true := by
 obtain ⟨j, t, hj, e⟩ := numW_cons n hn
 have := words_last (n := (n : Int)) (by omega) (by omega) ⟨#[]⟩
 rw [last_app (by rw [e]; simp)]
 rw [last_cons] at this
 ·exact this
 ·show numW n ≠ []
  rw [e]
  simp
theorem catD_last {D : List Nat} (h0 : D ≠ []) (h : ∀ d ∈ D, d < 10) (a : ByteArray) : isNumW ((a :: D.flatMap numW).getLastD ⟨#[]⟩) = true := by
 obtain ⟨D', d, rfl⟩ : ∃ D' d, D = D' ++ [d] := ⟨_, _, (List.dropLast_concat_getLast h0).symm⟩
 rw [List.flatMap_append, ← List.cons_append]
 simp only [List.flatMap_cons, List.flatMap_nil, List.append_nil]
 exact numW_last d (by have := h d (by simp); omega) _
theorem digs_back {P : List Gl} (h : ∀ x ∈ P, kindL x = 3) : (digT (P.map headB)).map (fun d => UInt8.ofNat (48 + d)) = P.map headB := by
 unfold digT
 rw [List.map_map]
 refine (List.map_congr_left (g := id) fun c hc => ?_).trans (List.map_id _)
 obtain ⟨x, hx, rfl⟩ := List.mem_map.1 hc
 have h1 := (kind_byte (by rw [h x hx]; omega)).2
 rw [h x hx] at h1
 generalize headB x = c at *
 have := u8_all (P := fun c => !(kindB c.toNat == 3) || (UInt8.ofNat (48 + (c.toNat - 48)) == c)) (by decide +kernel) c
 rw [← h1] at this
 simpa using this
theorem text_gl (J : Bool) (st : Int) (T : List UInt8) : textG J st ⟨T.toArray⟩ = (if J = true then [chG st 32] else []) ++ T.map (chG st) := rfl
theorem read_piece {g : Gl} {t : List Gl} {rep : Int} {sp dg : Bool} (hG : ∀ x ∈ g :: t, GF x) {R : List ByteArray} (hT : R[0]? ≠ some bTimes)
  (hR : kindL g = 0 ∨ kindL g = 3 → isNumW ((spokenL (pcL (g :: t) rep) sp dg).getLastD ⟨#[]⟩) = true → NoNum R) (O : List Gl) (J : Bool) :
  readA ⟨spokenL (pcL (g :: t) rep) sp dg ++ R, O, g.style, J⟩ = readA ⟨R, O ++ (if kindL g ≠ 0 ∧ J = true then [chG g.style 32] else []) ++ pcL (g :: t) rep, g.style, decide (kindL g ≠ 0)⟩ := by
 have hGP : ∀ x ∈ pcL (g :: t) rep, GF x := fun x hx => hG x (List.mem_of_mem_take hx)
 have hcons := pc_cons g t rep
 have hk3 := kindL_le g
 by_cases h12 : kindL g = 1 ∨ kindL g = 2
 ·obtain ⟨hp, hall⟩ := pc_ltr (rep := rep) (t := t) h12
  have e : spokenL (pcL (g :: t) rep) sp dg = lettersT ((pcL (g :: t) rep).map headB) sp := by
   rw [← lettersL_T (fun x hx => by have := (hall x hx).1; omega), hcons, spokenL_ltr h12]
  rw [e, readA_step (read_letters hp sp R O g.style J), text_gl, gl_kinds hGP (fun x hx => ⟨by have := (hall x hx).1; omega, (hall x hx).2⟩), decide_eq_true (show kindL g ≠ 0 by omega)]
  have : (kindL g ≠ 0 ∧ J = true) ↔ J = true := ⟨fun h => h.2, fun h => ⟨by omega, h⟩⟩
  simp only [this, List.append_assoc]
 ·by_cases h3 : kindL g = 3
  ·have hall := pc_dig (rep := rep) (t := t) h3
   have hk : ∀ x ∈ pcL (g :: t) rep, kindL x = 3 := fun x hx => (hall x hx).1
   have e : spokenL (pcL (g :: t) rep) sp dg = digitsT ((pcL (g :: t) rep).map headB) dg := by
    rw [← digitsL_T, hcons, spokenL_dig h3]
   have hlt := digs_lt hk
   have hbk := digs_back hk
   have hne : digT ((pcL (g :: t) rep).map headB) ≠ [] := by unfold digT; rw [hcons]; simp
   have hN : NoNum R := hR (.inr h3) (by
    rw [e]
    unfold digitsT
    split
    ·exact catD_last hne hlt _
    ·rename_i hc
     rw [not_or, not_or, List.length_map] at hc
     have h1 := numL_lt _ hlt
     have h2 : (digT ((pcL (g :: t) rep).map headB)).length ≤ 9 := by unfold digT; rw [List.length_map, List.length_map]; omega
     have h3 : 10 ^ (digT ((pcL (g :: t) rep).map headB)).length ≤ 10 ^ 9 := Nat.pow_le_pow_right (by omega) h2
     exact numW_last _ (by omega) [])
   have hfin : partL ⟨digitsT ((pcL (g :: t) rep).map headB) dg ++ R, O, g.style, J⟩ = some ⟨R, O ++ textG J g.style ⟨((pcL (g :: t) rep).map headB).toArray⟩, g.style, true⟩ := by
    unfold digitsT
    split
    ·have := read_digits hne hlt hN O g.style J
     unfold dgStr at this
     rw [hbk] at this
     exact this
    ·rename_i hc
     rw [not_or, not_or, List.length_map] at hc
     have h1 := numL_lt _ hlt
     have h2 : (digT ((pcL (g :: t) rep).map headB)).length ≤ 9 := by unfold digT; rw [List.length_map, List.length_map]; omega
     have h3 : 10 ^ (digT ((pcL (g :: t) rep).map headB)).length ≤ 10 ^ 9 := Nat.pow_le_pow_right (by omega) h2
     have := read_number (n := numL (digT ((pcL (g :: t) rep).map headB))) (by omega) hN hT O g.style J
     obtain ⟨k, hk'⟩ : ∃ k, (digT ((pcL (g :: t) rep).map headB)).length = k + 1 := ⟨_, (Nat.succ_pred_eq_of_pos (List.length_pos_iff.2 hne)).symm⟩
     rw [dec_back k _ hk' hlt, hbk] at this
     ·exact this
     ·rcases Nat.eq_zero_or_pos k with h0 | h0
      ·exact .inl h0
      ·refine .inr fun hz => hc.2.2 ⟨?_, hz⟩
       unfold digT at hk'
       rw [List.length_map, List.length_map] at hk'
       omega
   rw [e, readA_step hfin, text_gl, gl_kinds hGP (fun x hx => ⟨by rw [hk x hx]; omega, (hall x hx).2⟩), decide_eq_true (show kindL g ≠ 0 by omega)]
   have : (kindL g ≠ 0 ∧ J = true) ↔ J = true := ⟨fun h => h.2, fun h => ⟨by omega, h⟩⟩
   simp only [this, List.append_assoc]
  ·have h0 : kindL g = 0 := by omega
   have hg := hG g (by simp)
   rw [decide_eq_false (show ¬ kindL g ≠ 0 by omega), if_neg (fun h => h.1 h0), List.append_nil]
   rcases pc_oth (rep := rep) (t := t) h0 with e | ⟨n, h2, hn, e, hc⟩
   ·rw [e] at hR ⊢
    rw [spokenL_one h0] at hR ⊢
    exact read_single hg (hR (.inl h0)) O J
   ·obtain ⟨m, rfl⟩ : ∃ m, n = m + 2 := ⟨n - 2, by omega⟩
    have e2 : spokenL (List.replicate (m + 2) g) sp dg = numW (m + 2) ++ [bTimes] ++ singleL g := by
     rw [List.replicate_succ, spokenL_many h0 (by simp), List.length_replicate]
    rw [e, e2] at hR
    rw [e, e2]
    obtain ⟨r, t', hc', h1, _, h3', _, _, h6, h7⟩ := hg.form
    rw [hc'] at hc
    obtain rfl : t' = [] := by simpa using hc
    have hch : ChW (r : Int) (singleL g) R := by
     refine single_ch hg hc' fun hl => hR (.inl h0) ?_
     rw [last_app]
     ·exact hl
     ·exact singleL_ne' hg
    have hgg : g = ⟨encB r, decide (widL (r : Int) = 2), g.style⟩ := by
     obtain ⟨tx, wd, st⟩ := g
     simp only at h6 h7
     rw [h6, h7, enc_one]
    rw [readA_step (read_times (by omega) hn hch h3' O g.style J), ← hgg]
end Go.Proofs.YtejjfiipghcifaaGreatDoor
