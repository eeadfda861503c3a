/- Joined texts: Bk4, FmP, UtP2, UtM, Um1, Ul1, Ul2. -/
import Derived.Test.YtejjfiipghcifaaGreatDoorQAA
import Derived.Test.YtejjfiipghcifaaGreatDoorQAB
import Derived.Test.YtejjfiipghcifaaGreatDoorQAC
import Derived.Test.YtejjfiipghcifaaGreatDoorQAD
import Derived.Test.YtejjfiipghcifaaGreatDoorQAE
import Derived.Test.YtejjfiipghcifaaGreatDoorQAF
import Derived.Test.YtejjfiipghcifaaGreatDoorQAG
import Derived.Test.YtejjfiipghcifaaGreatDoorQAH
import Derived.Test.YtejjfiipghcifaaGreatDoorQAJ
import Derived.Test.YtejjfiipghcifaaGreatDoorQAK
import Derived.Test.YtejjfiipghcifaaGreatDoorQAN
import Derived.Test.YtejjfiipghcifaaGreatDoorQAO
import Derived.Test.YtejjfiipghcifaaGreatDoorQAQ
import Derived.Test.YtejjfiipghcifaaGreatDoorQAR
import Derived.Test.YtejjfiipghcifaaGreatDoorQAS
import Derived.Test.YtejjfiipghcifaaGreatDoorQAU
import Derived.Test.YtejjfiipghcifaaGreatDoorQAV
import Derived.Test.YtejjfiipghcifaaGreatDoorQAW
import Derived.Test.YtejjfiipghcifaaGreatDoorQBA
import Derived.Test.YtejjfiipghcifaaGreatDoorQBD
import Derived.Test.YtejjfiipghcifaaGreatDoorQBE
import Derived.Test.YtejjfiipghcifaaGreatDoorQBF
import Derived.Test.YtejjfiipghcifaaGreatDoorQBH
import Derived.Test.YtejjfiipghcifaaGreatDoorQBI
import Derived.Test.YtejjfiipghcifaaGreatDoorQBP
import Derived.Test.YtejjfiipghcifaaGreatDoorQBQ
import Derived.Test.YtejjfiipghcifaaGreatDoorQBT
import Derived.Test.YtejjfiipghcifaaGreatDoorQBU
import Derived.Test.YtejjfiipghcifaaGreatDoorQHS
set_option linter.unusedVariables false
set_option linter.unusedSimpArgs false
set_option linter.unnecessarySimpa false
namespace Go.Proofs.YtejjfiipghcifaaGreatDoor
open Go.RowKit
set_option maxRecDepth 20000
theorem spoken_head {g : Gl} {t : List Gl} {rep : Int} {sp dg : Bool} (hG : ∀ x ∈ g :: t, GF x) : ∃ a W, spokenL (pcL (g :: t) rep) sp dg = a :: W ∧ a ≠ bTimes := by
 have hcons := pc_cons g t rep
 have hk3 := kindL_le g
 have hwb : ∀ j : Fin 32, wb j.val ≠ bTimes := by decide +kernel
 by_cases h12 : kindL g = 1 ∨ kindL g = 2
 ·obtain ⟨hp, hall⟩ := pc_ltr (rep := rep) (t := t) h12
  have e : spokenL (pcL (g :: t) rep) sp dg = lettersT ((pcL (g :: t) rep).map headB) sp := by
   rw [← lettersL_T (fun x hx => by have := (hall x hx).1; omega), hcons, spokenL_ltr h12]
  rw [e, letters_body]
  unfold capW
  split
  ·exact ⟨bCap, _, rfl, by decide +kernel⟩
  ·split
   ·exact ⟨bCaps, _, rfl, by decide +kernel⟩
   ·rw [List.nil_append]
    unfold bodyT
    cases sp with
    | true => exact ⟨bSpelled, _, rfl, by decide +kernel⟩
    | false =>
     rw [if_neg (by simp)]
     cases hr : resB ⟨(((pcL (g :: t) rep).map headB).map lowB).toArray⟩ with
     | true => exact ⟨bWord, _, rfl, by decide +kernel⟩
     | false => exact ⟨_, _, rfl, noRes hr (by decide +kernel)⟩
 ·by_cases h3 : kindL g = 3
  ·have hall := pc_dig (rep := rep) (t := t) h3
   have hk : ∀ x ∈ pcL (g :: t) rep, kindL x = 3 := fun x hx => (hall x hx).1
   have e : spokenL (pcL (g :: t) rep) sp dg = digitsT ((pcL (g :: t) rep).map headB) dg := by
    rw [← digitsL_T, hcons, spokenL_dig h3]
   rw [e]
   unfold digitsT
   split
   ·exact ⟨bDigits, _, rfl, by decide +kernel⟩
   ·rename_i hc
    rw [not_or, not_or, List.length_map] at hc
    have h1 := numL_lt _ (digs_lt hk)
    have h2 : (digT ((pcL (g :: t) rep).map headB)).length ≤ 9 := by unfold digT; rw [List.length_map, List.length_map]; omega
    have h3 : 10 ^ (digT ((pcL (g :: t) rep).map headB)).length ≤ 10 ^ 9 := Nat.pow_le_pow_right (by omega) h2
    obtain ⟨j, W, hj, e⟩ := numW_cons (numL (digT ((pcL (g :: t) rep).map headB))) (by omega)
    exact ⟨_, _, e, hwb ⟨j, hj⟩⟩
  ·have h0 : kindL g = 0 := by omega
   have hg := hG g (by simp)
   rcases pc_oth (rep := rep) (t := t) h0 with e | ⟨n, h2, hn, e, hc⟩
   ·rw [e, spokenL_one h0]
    by_cases hs : g.text.data.toList = [32]
    ·rw [singleL_sp hs]
     exact ⟨_, _, rfl, by decide +kernel⟩
    ·obtain ⟨r, t', hc, h1, _⟩ := hg.form
     have hch : ChW (r : Int) (spellL (r : Int)) [] := .inr ⟨chN_isChar h1, rfl, fun _ => NoNum.nil⟩
     obtain ⟨a, W, e2, _, _, _, h⟩ := hch.head
     rw [singleL_oth hs, hc, spellN_cons, e2]
     exact ⟨a, _, rfl, h⟩
   ·obtain ⟨m, rfl⟩ : ∃ m, n = m + 2 := ⟨n - 2, by omega⟩
    rw [e, List.replicate_succ, spokenL_many h0 (by simp), List.length_replicate]
    obtain ⟨j, W, hj, e⟩ := numW_cons (m + 1 + 1) (by omega)
    rw [e]
    exact ⟨_, _, rfl, hwb ⟨j, hj⟩⟩
def SilOK (S : Setts) (q : Spk) (rest : List Gl) : Prop := q.silent = true → q.before ≠ 0 ∧ ∃ b t, rest = b :: t ∧ kindL b ≠ 0 ∧ b.style = q.style ∧ (q.before = 3 → isNumW ((spokenL (pcL (b :: t) S.rep) S.spell S.digits).headD ⟨#[]⟩) = false)
def NumEnd (q : Spk) : Prop := (q.before = 0 ∨ q.before = 3) ∧ q.out ≠ [] ∧ isNumW (q.out.getLastD ⟨#[]⟩) = true
theorem NoNum.sty (i : Nat) (t : List ByteArray) : NoNum (styB i :: t) := by
 refine NoNum.of ?_ t
 unfold styB
 split <;> decide +kernel
theorem NoNum.joined (t : List ByteArray) : NoNum (bJoined :: t) := NoNum.of (by decide +kernel) t
theorem sty_times (i : Nat) : styB i ≠ bTimes := by
 unfold styB
 split <;> decide +kernel
theorem read_sty {i : Int} (h0 : 0 ≤ i) (h3 : i ≤ 3) (R : List ByteArray) (O : List Gl) (st : Int) (J : Bool) : partL ⟨styB i.toNat :: R, O, st, J⟩ = some ⟨R, O, i, false⟩ := by
 unfold partL styledL
 simp only
 rw [styIdx_sty i.toNat (by omega)]
 simp only
 rw [some_or, Int.toNat_of_nonneg h0]
theorem read_joined (R : List ByteArray) (O : List Gl) (st : Int) (J : Bool) : partL ⟨bJoined :: R, O, st, J⟩ = some ⟨R, O, st, false⟩ := by
 unfold partL styledL
 simp only
 rw [show styIdx bJoined = none by decide +kernel]
 simp only
 rw [if_pos trivial, some_or]
theorem kind_space {a : Gl} (h : a.text.data.toList = [32]) : kindL a = 0 := by
 unfold kindL
 rw [h]
 rfl
theorem skip_form {q : Spk} {S : Setts} {a : Gl} {l : List Gl} {n : Nat} (h : skipsB q S (a :: l) n = true) : ∃ b t, l = b :: t ∧ n = 1 ∧ a.text.data.toList = [32] ∧ q.before ≠ 0 ∧ a.style = q.style ∧ kindL b ≠ 0 ∧ b.style = q.style ∧
  (q.before = 3 → isNumW ((spokenL (pcL (b :: t) S.rep) S.spell S.digits).headD ⟨#[]⟩) = false) := by
 cases l with
 | nil => cases h
 | cons b t =>
  unfold skipsB at h
  simp only [Bool.and_eq_true, Bool.or_eq_true, decide_eq_true_eq, Bool.not_eq_true'] at h
  obtain ⟨⟨⟨⟨⟨⟨h1, h2⟩, h3⟩, h4⟩, h5⟩, h6⟩, h7⟩ := h
  exact ⟨b, t, rfl, h1, h2, h3, h4, h5, h6, fun h => h7.resolve_left fun h' => h' h⟩
theorem back (S : Setts) : ∀ (n : Nat) (q : Spk) (rest : List Gl), rest.length ≤ n → (∀ x ∈ rest, GF x ∧ 0 ≤ x.style ∧ x.style ≤ 3) → SilOK S q rest →
  ∃ T, (wordsFrom S rest.length q rest).out = q.out ++ T ∧ T[0]? ≠ some bTimes ∧ (NumEnd q → NoNum T) ∧ ∀ O, readA ⟨T, O, q.style, decide (q.before ≠ 0)⟩ = some (O ++ (if q.silent = true then [chG q.style 32] else []) ++ rest)
 | n, q, [], _, _, hs => by
  have hsil : q.silent = false := by
   cases h : q.silent with
   | false => rfl
   | true =>
    obtain ⟨_, b, t, e, _⟩ := hs h
    cases e
  refine ⟨[], by simp [wordsFrom], by simp, fun _ => NoNum.nil, fun O => ?_⟩
  rw [hsil, readA_nil rfl]
  simp
 | 0, q, g :: t, hn, _, _ => by simp at hn
 | n + 1, q, g :: t, hn, hG, hs => by
  have hp := pieceL_pos (g := g) (t := t) S.rep
  have hd : ((g :: t).drop (pieceL (g :: t) S.rep)).length ≤ n := by
   rw [List.length_drop]
   rw [List.length_cons] at hn ⊢
   omega
  have hG2 : ∀ x ∈ (g :: t).drop (pieceL (g :: t) S.rep), GF x ∧ 0 ≤ x.style ∧ x.style ≤ 3 := fun x hx => hG x (List.mem_of_mem_drop hx)
  have hgs := hG g (by simp)
  rw [wordsFrom_cons]
  cases hb : skipsB q S (g :: t) (pieceL (g :: t) S.rep) with
  | true =>
   rw [if_pos rfl]
   obtain ⟨b, t', rfl, h1, h2, h3, h4, h5, h6, h7⟩ := skip_form hb
   rw [h1] at hd hG2 ⊢
   rw [List.drop_succ_cons, List.drop_zero] at hd hG2 ⊢
   have hsil : q.silent = false := by
    cases h : q.silent with
    | false => rfl
    | true =>
     obtain ⟨_, b', t'', e, hk, _⟩ := hs h
     injection e with e _
     subst e
     exact absurd (kind_space h2) hk
   obtain ⟨T, e1, e2, e3, e4⟩ := back S n { q with silent := true } (b :: t') hd hG2 fun _ => ⟨h3, b, t', rfl, h5, h6, h7⟩
   refine ⟨T, e1, e2, e3, fun O => ?_⟩
   have := e4 O
   simp only [if_true] at this
   rw [this, hsil]
   have hgg : g = chG q.style 32 := by
    have := gl_byte hgs.1 h2 (.inr rfl)
    rwa [h4] at this
   rw [← hgg]
   simp
  | false =>
   rw [if_neg (by simp)]
   have hGF : ∀ x ∈ g :: t, GF x := fun x hx => (hG x hx).1
   obtain ⟨w0, W, hw, hwt⟩ := spoken_head (rep := S.rep) (sp := S.spell) (dg := S.digits) hGF
   have hsay := sayL_pc (q := q) (S := S) (g := g) (t := t)
   obtain ⟨T, e1, e2, e3, e4⟩ := back S n (sayL q S (pcL (g :: t) S.rep)) ((g :: t).drop (pieceL (g :: t) S.rep)) hd hG2 (by rw [hsay]; intro h; cases h)
   rw [hsay] at e1 e3 e4
   simp only [Bool.false_eq_true, if_false, List.append_nil] at e4
   have hpr : g :: t = pcL (g :: t) S.rep ++ (g :: t).drop (pieceL (g :: t) S.rep) := (List.take_append_drop _ _).symm
   have hNE : kindL g = 0 ∨ kindL g = 3 → isNumW ((spokenL (pcL (g :: t) S.rep) S.spell S.digits).getLastD ⟨#[]⟩) = true → NoNum T := fun hk hl => e3 ⟨hk, by rw [hw]; simp, by
    rw [last_app (by rw [hw]; simp)]
    exact hl⟩
   have hrd := fun O J => read_piece (rep := S.rep) (sp := S.spell) (dg := S.digits) hGF (R := T) e2 hNE O J
   rw [hw] at hsay e1 hrd
   rw [List.headD_cons] at hsay e1
   have hfin : ∀ O J, (kindL g ≠ 0 → J = q.silent) → (kindL g = 0 → q.silent = false) → readA ⟨w0 :: W ++ T, O, g.style, J⟩ = some (O ++ (if q.silent = true then [chG g.style 32] else []) ++ g :: t) := by
    intro O J h1 h2
    rw [hrd O J, e4]
    have : (if kindL g ≠ 0 ∧ J = true then [chG g.style 32] else []) = (if q.silent = true then [chG g.style 32] else []) := by
     by_cases hk : kindL g = 0
     ·rw [if_neg (fun h => h.1 hk), h2 hk, if_neg (by simp)]
     ·rw [h1 hk]
      by_cases hq : q.silent = true
      ·rw [if_pos ⟨hk, hq⟩, if_pos hq]
      ·rw [if_neg (fun h => hq h.2), if_neg hq]
    rw [this, List.append_assoc _ (pcL _ _), ← hpr]
   have hsil : ∀ h : q.silent = true, q.before ≠ 0 ∧ kindL g ≠ 0 ∧ g.style = q.style ∧ (q.before = 3 → isNumW w0 = false) := fun h => by
    obtain ⟨a1, b', t'', e, hk, a2, a3⟩ := hs h
    injection e with e e'
    subst e e'
    rw [hw] at a3
    exact ⟨a1, hk, a2, a3⟩
   have hsf : q.silent = false ∨ q.silent = true := by cases q.silent <;> simp
   refine ⟨preL q g w0 ++ (w0 :: W) ++ T, by rw [show (g :: t).take (pieceL (g :: t) S.rep) = pcL (g :: t) S.rep from rfl, hsay, e1]; simp, ?_, ?_, ?_⟩
   ·unfold preL
    split
    ·simp only [List.cons_append, List.nil_append, List.getElem?_cons_zero]
     exact fun e => sty_times _ (by injection e)
    ·split
     ·split
      ·simp only [List.nil_append, List.cons_append, List.getElem?_cons_zero]
       exact fun e => hwt (by injection e)
      ·simp only [List.cons_append, List.nil_append, List.getElem?_cons_zero]
       exact fun e => absurd (show bJoined = bTimes by injection e) (by decide +kernel)
     ·split
      ·simp only [List.cons_append, List.nil_append, List.getElem?_cons_zero]
       exact fun e => absurd (show bJoined = bTimes by injection e) (by decide +kernel)
      ·simp only [List.nil_append, List.cons_append, List.getElem?_cons_zero]
       exact fun e => hwt (by injection e)
   ·rintro ⟨n1, n2, n3⟩
    unfold preL
    split
    ·exact NoNum.sty _ _
    ·split
     ·rename_i hst hk
      split
      ·rename_i hsl
       obtain ⟨a1, a2, a3, a4⟩ := hsil hsl
       exact NoNum.of (a4 (n1.resolve_left a1)) _
      ·exact NoNum.joined _
     ·rename_i hst hk
      split
      ·exact NoNum.joined _
      ·rename_i hj
       refine NoNum.of ?_ _
       cases hw0 : isNumW w0 with
       | false => rfl
       | true => exact absurd ⟨n2, hw0, n3⟩ hj
   ·intro O
    unfold preL
    split
    ·rename_i hst
     have hsl : q.silent = false := hsf.resolve_right fun h => hst (hsil h).2.2.1
     rw [List.append_assoc, List.singleton_append, readA_step (read_sty hgs.2.1 hgs.2.2 _ O q.style _), hfin O false (fun _ => hsl.symm) (fun _ => hsl), hsl]
     simp
    ·rename_i hst
     have hst' : g.style = q.style := Classical.not_not.1 hst
     rw [← hst']
     split
     ·rename_i hk
      split
      ·rename_i hsl
       rw [List.nil_append, hfin O _ (fun _ => by rw [hsl, decide_eq_true hk.2]) (fun h => absurd h hk.1), if_pos hsl]
      ·rename_i hsl
       have hsl' : q.silent = false := by simpa using hsl
       rw [List.append_assoc, List.singleton_append, readA_step (read_joined _ O g.style _), hfin O false (fun _ => hsl'.symm) (fun _ => hsl'), if_neg hsl]
     ·rename_i hk
      have hsl : q.silent = false := hsf.resolve_right fun h => hk ⟨(hsil h).2.1, (hsil h).1⟩
      split
      ·rw [List.append_assoc, List.singleton_append, readA_step (read_joined _ O g.style _), hfin O false (fun _ => hsl.symm) (fun _ => hsl)]
      ·rw [List.nil_append, hfin O _ (fun hkg => by
        have : q.before = 0 := by
         rcases Nat.eq_zero_or_pos q.before with h | h
         ·exact h
         ·exact absurd ⟨hkg, by omega⟩ hk
        rw [this, hsl]
        rfl) (fun _ => hsl)]
theorem round_trip (l : List Gl) (S : Setts) (h : ∀ x ∈ l, GF x ∧ 0 ≤ x.style ∧ x.style ≤ 3) : glyphsL (spokenWords l S) = some l := by
 obtain ⟨T, e1, _, _, e4⟩ := back S l.length ⟨[], 0, 0, false⟩ l (Nat.le_refl _) h (fun h => by cases h)
 have := e4 []
 unfold glyphsL spokenWords
 rw [e1]
 simpa [readA] using this
theorem ok_wb (j : Nat) (hj : j < 32) : okW (wb j) = true := by
 have : ∀ k : Fin 32, okW (wb k.val) = true := by decide +kernel
 exact this ⟨j, hj⟩
theorem ok_nb (j : Nat) (hj : j < 32) : okW (nb j) = true := by
 have : ∀ k : Fin 32, okW (nb k.val) = true := by decide +kernel
 exact this ⟨j, hj⟩
theorem ok_sty (i : Nat) : okW (styB i) = true := by
 unfold styB
 split <;> decide +kernel
theorem ok_one {c : UInt8} (h : 97 ≤ c.toNat ∧ c.toNat ≤ 122) : okW ⟨#[c]⟩ = true := by
 have h1 := oneB_single c h
 unfold oneB at h1
 simp only [Bool.and_eq_true] at h1
 unfold okW
 rw [h1.1, decide_eq_false (fun e => absurd (show 1 = 4 from congrArg ByteArray.size e) (by decide) : (⟨#[c]⟩ : ByteArray) ≠ bStop), decide_eq_false (fun e => absurd (show 1 = 4 from congrArg ByteArray.size e) (by decide) : (⟨#[c]⟩ : ByteArray) ≠ bWord)]
 rfl
theorem ok_words {n : Int} (h1 : -999999999 ≤ n) (h2 : n ≤ 999999999) : ∀ a ∈ (wordsL n).map wb, okW a = true := by
 intro a ha
 obtain ⟨i, hi, rfl⟩ := List.mem_map.1 ha
 exact ok_wb i (sg_words_lt n h1 h2 i hi)
theorem ok_numW {n : Nat} (h : n ≤ 999999999) : ∀ a ∈ numW n, okW a = true := ok_words (by omega) (by omega)
theorem ok_spell (r : Int) : ∀ a ∈ spellL r, okW a = true := by
 intro a ha
 unfold spellL at ha
 split at ha
 ·rename_i i hi
  rw [List.mem_singleton] at ha
  subst ha
  exact ok_nb i (sIdxI_some hi).1
 ·split at ha
  ·rename_i hc
   have hr := char_range hc
   rcases List.mem_cons.1 ha with rfl | ha
   ·decide +kernel
   ·exact ok_words (by omega) (by omega) a ha
  ·cases ha
theorem ok_single (g : Gl) : ∀ a ∈ singleL g, okW a = true := by
 intro a ha
 unfold singleL at ha
 split at ha
 ·rw [List.mem_singleton] at ha
  subst ha
  decide +kernel
 ·rw [List.mem_flatMap] at ha
  obtain ⟨r, _, ha⟩ := ha
  exact ok_spell _ a ha
theorem clo_letters {T : List UInt8} (h : LtrPat T) (sp : Bool) : Clo (lettersT T sp) := by
 have haz := azB_low h.1 h.kind
 rw [letters_body]
 refine Clo.app (Clo.all fun a ha => ?_) ?_
 ·unfold capW at ha
  split at ha
  ·rw [List.mem_singleton] at ha; subst ha; decide +kernel
  ·split at ha
   ·rw [List.mem_singleton] at ha; subst ha; decide +kernel
   ·cases ha
 ·unfold bodyT
  split
  ·refine Clo.all fun a ha => ?_
   rcases List.mem_cons.1 ha with rfl | ha
   ·decide +kernel
   ·rcases List.mem_append.1 ha with ha | ha
    ·obtain ⟨c, hc, rfl⟩ := List.mem_map.1 ha
     obtain ⟨x, hx, rfl⟩ := List.mem_map.1 hc
     exact ok_one (low_az x (h.kind x hx))
    ·rw [List.mem_singleton] at ha; subst ha; decide +kernel
  ·split
   ·unfold Clo
    rw [List.singleton_append, frmF, if_neg (by rintro (h | ⟨h, _⟩) <;> revert h <;> decide +kernel), frmF, if_neg (by
     rintro (h | ⟨_, h⟩)
     ·rw [haz] at h; cases h
     ·revert h; decide +kernel), frmF]
    simp
   ·rename_i hr
    have hr' : resB ⟨(T.map lowB).toArray⟩ = false := by simpa using hr
    rw [List.nil_append]
    refine Clo.one ?_
    unfold okW
    rw [haz, decide_eq_false (noRes hr' (by decide +kernel)), decide_eq_false (noRes hr' (by decide +kernel))]
    rfl
theorem clo_digits {l : List Gl} (h : ∀ x ∈ l, kindL x = 3) (dg : Bool) : Clo (digitsL l dg) := by
 have hd : ∀ d ∈ digL l, d < 10 := by
  have := digs_lt h
  unfold digT at this
  intro d hd
  refine this d ?_
  unfold digL at hd
  rw [List.map_map]
  exact hd
 have hl : (digL l).length = l.length := by unfold digL; rw [List.length_map]
 unfold digitsL
 split
 ·refine Clo.all fun a ha => ?_
  rcases List.mem_cons.1 ha with rfl | ha
  ·decide +kernel
  ·obtain ⟨d, hd1, ha⟩ := List.mem_flatMap.1 ha
   have := hd d hd1
   exact ok_numW (by omega) a ha
 ·rename_i hc
  have h9 : l.length ≤ 9 := by
   rcases Nat.lt_or_ge 9 l.length with h | h
   ·exact absurd (.inr (.inl h)) hc
   ·exact h
  have := num9 hd
  have hp : 10 ^ (digL l).length ≤ 10 ^ 9 := Nat.pow_le_pow_right (by decide) (by omega)
  exact Clo.all (ok_numW (by omega))
theorem clo_spoken {g : Gl} {t : List Gl} {rep : Int} {sp dg : Bool} : Clo (spokenL (pcL (g :: t) rep) sp dg) := by
 have hpc := pc_cons g t rep
 by_cases hk : kindL g = 1 ∨ kindL g = 2
 ·obtain ⟨h1, h2⟩ := pc_ltr (t := t) (rep := rep) hk
  rw [hpc] at h1 h2 ⊢
  rw [spokenL_ltr hk, lettersL_T (fun x hx => by rcases (h2 x hx).1 with h | h <;> omega)]
  exact clo_letters h1 sp
 ·by_cases h3 : kindL g = 3
  ·have h2 := pc_dig (t := t) (rep := rep) h3
   rw [hpc] at h2 ⊢
   rw [spokenL_dig h3]
   exact clo_digits (fun x hx => (h2 x hx).1) dg
  ·have h0 : kindL g = 0 := by
    have : kindL g ≤ 3 := by
     unfold kindL
     split
     ·unfold kindB; repeat' split
      all_goals omega
     ·omega
    omega
   rcases pc_oth (t := t) (rep := rep) h0 with e | ⟨n, hn, hn2, e, _⟩
   ·rw [e, spokenL_one h0]
    exact Clo.all (ok_single g)
   ·rw [e]
    obtain ⟨m, rfl⟩ : ∃ m, n = m + 1 := ⟨n - 1, by omega⟩
    rw [List.replicate_succ, spokenL_many h0 (by intro e; have := congrArg List.length e; simp at this; omega)]
    refine Clo.app (Clo.app (Clo.all (ok_numW (by simp; omega))) (Clo.one (by decide +kernel))) (Clo.all (ok_single g))
theorem clo_pre (q : Spk) (g : Gl) (w0 : ByteArray) : Clo (preL q g w0) := by
 unfold preL
 repeat' split
 all_goals first | exact Clo.nil | exact Clo.one (ok_sty _) | exact Clo.one (by decide +kernel)
theorem clo_from (S : Setts) : ∀ (n : Nat) (q : Spk) (rest : List Gl), rest.length ≤ n → Clo q.out → Clo (wordsFrom S rest.length q rest).out
 | n, q, [], _, h => by simpa [wordsFrom] using h
 | 0, q, g :: t, hn, _ => by simp at hn
 | n + 1, q, g :: t, hn, h => by
  have hp := pieceL_pos (g := g) (t := t) S.rep
  have hd : ((g :: t).drop (pieceL (g :: t) S.rep)).length ≤ n := by
   rw [List.length_drop]
   rw [List.length_cons] at hn ⊢
   omega
  rw [wordsFrom_cons]
  split
  ·exact clo_from S n _ _ hd h
  ·refine clo_from S n _ _ hd ?_
   show Clo (sayL q S (pcL (g :: t) S.rep)).out
   rw [sayL_pc]
   exact Clo.app (Clo.app h (clo_pre q g _)) clo_spoken
theorem clo_words (l : List Gl) (S : Setts) : frmF false (spokenWords l S) = some false := clo_from S l.length _ l (Nat.le_refl _) Clo.nil
theorem hdIs_yes (s : ByteArray) (t : List ByteArray) : hdIs s (s :: t) = true := by simp [hdIs]
theorem hdIs_no {s a : ByteArray} (h : a ≠ s) (t : List ByteArray) : hdIs s (a :: t) = false := by simp [hdIs, h]
theorem numO_say {n : Int} (h1 : -999999999 ≤ n) (h2 : n ≤ 999999999) {t : List ByteArray} (ht : NoNum t) : numO (numI n ++ t) = some (n, t) := by
 unfold numO numI
 rw [prefix_app n h1 h2 t ht, Option.map_some]
 congr 2
 rw [List.drop_append_of_le_length (by simp)]
 simp
theorem afO_say {s : ByteArray} {n : Int} (h1 : -999999999 ≤ n) (h2 : n ≤ 999999999) {t : List ByteArray} (ht : NoNum t) : afO s (s :: (numI n ++ t)) = some (n, t) := by
 unfold afO
 rw [skO_yes]
 exact numO_say h1 h2 ht
theorem noW_rows : NoW bRows := by unfold NoW; decide +kernel
theorem noW_columns : NoW bColumns := by unfold NoW; decide +kernel
theorem noW_to : NoW bTo := by unfold NoW; decide +kernel
theorem noW_up : NoW bUp := by unfold NoW; decide +kernel
theorem noW_down : NoW bDown := by unfold NoW; decide +kernel
theorem noW_column : NoW bColumn := by unfold NoW; decide +kernel
theorem noW_insert : NoW bInsert := by unfold NoW; decide +kernel
theorem noW_delete : NoW bDelete := by unfold NoW; decide +kernel
theorem noW_visible : NoW bVisible := by unfold NoW; decide +kernel
theorem noW_invisible : NoW bInvisible := by unfold NoW; decide +kernel
theorem noW_updates : NoW bUpdates := by unfold NoW; decide +kernel
theorem nxt_ne : ∀ a ∈ nxtB, a ≠ bDelete ∧ a ≠ bInsert := by unfold nxtB; decide +kernel
theorem find_stop : ∀ (W : List ByteArray) (b : Bool) (t : List ByteArray), frmF b W = some false → findStop b (W ++ bStop :: t) = some W.length
 | [], b, t, h => by
  rw [frmF] at h
  injection h with h
  subst h
  rw [List.nil_append, findStop, if_neg (by decide +kernel), if_pos rfl]
  rfl
 | a :: W, b, t, h => by
  rw [frmF] at h
  split at h
  ·cases h
  ·rename_i hc
   rw [List.cons_append]
   cases b with
   | true =>
    rw [Bool.not_true, Bool.and_false] at h
    rw [findStop, find_stop W false t h]
    rfl
   | false =>
    rw [Bool.not_false, Bool.and_true] at h
    have hs : a ≠ bStop := fun e => hc (.inr ⟨e, rfl⟩)
    by_cases hw : a = bWord
    ·rw [decide_eq_true hw] at h
     rw [findStop, if_pos hw, find_stop W true t h]
     rfl
    ·rw [decide_eq_false hw] at h
     rw [findStop, if_neg hw, if_neg hs, find_stop W false t h]
     rfl
theorem text_say {g : List Gl} (hg : g ≠ []) (h : ∀ x ∈ g, glyphC x = 0) (S : Setts) (t : List ByteArray) : textO (spokenWords g S ++ bStop :: t) = some (g, t) := by
 unfold textO
 rw [find_stop _ false t (clo_words g S), Option.bind_some, List.take_left', round_trip g S fun x hx => glyphC_ok (h x hx)]
 ·cases g with
  | nil => exact absurd rfl hg
  | cons a u =>
   simp only
   congr 2
   rw [← List.drop_drop, List.drop_left']
   ·rfl
   ·rfl
 ·rfl
theorem del_say {n : Int} (h0 : 0 ≤ n) (h1 : n ≤ 132) {t : List ByteArray} (ht : NoNum t) (hd : hdIs bDelete t = false) : delL ((if 0 < n then bDelete :: numI n else []) ++ t) = some (n, t) := by
 unfold delL
 by_cases hn : 0 < n
 ·rw [if_pos hn, List.cons_append, if_pos (hdIs_yes _ _), afO_say (by omega) (by omega) ht, Option.bind_some, if_neg (by show ¬ n < 1; omega)]
 ·obtain rfl : n = 0 := by omega
  rw [if_neg hn, List.nil_append, hd, if_neg (by simp)]
theorem ins_say {g : List Gl} (h : ∀ x ∈ g, glyphC x = 0) (S : Setts) {t : List ByteArray} (ht : hdIs bInsert t = false) : insL ((if g = [] then [] else bInsert :: (spokenWords g S ++ [bStop])) ++ t) = some (g, t) := by
 unfold insL
 by_cases hg : g = []
 ·rw [if_pos hg, List.nil_append, ht, if_neg (by simp), hg]
 ·rw [if_neg hg, List.cons_append, if_pos (hdIs_yes _ _), skO_yes, Option.bind_some, List.append_assoc]
  exact text_say hg h S t
theorem chg_phrase' (c : Chg) (S : Setts) (hc : chkU c = 0) (t : List ByteArray) (htn : NoNum t) (htd : hdIs bDelete t = false) (hti : hdIs bInsert t = false) : chgL (phraseL c S ++ t) = some (c, t) := by
 obtain ⟨hk, hr, hl, ho⟩ := chk_zero hc
 obtain ⟨kind, row, col, count, til, g⟩ := c
 simp only at hk hl
 have hk4 : kind = 1 ∨ kind = 2 ∨ kind = 3 ∨ kind = 4 := by omega
 rcases hk4 with rfl | rfl | rfl | rfl
 ·simp [rangesU] at hr
  simp [othersU] at ho
  obtain ⟨rfl, rfl, rfl⟩ := ho
  have e : phraseL ⟨1, row, col, 0, 0, []⟩ S ++ t = bSize :: (numI row ++ (bRows :: (numI col ++ (bColumns :: t)))) := by simp [phraseL]
  rw [e]
  unfold chgL
  rw [if_pos (hdIs_yes _ _), afO_say (by omega) (by omega) (noW_rows.num _), Option.bind_some]
  simp only
  rw [afO_say (by omega) (by omega) (noW_columns.num _), Option.bind_some]
  simp only
  rw [skO_yes]
  rfl
 ·simp [rangesU] at hr
  simp [othersU] at ho
  obtain ⟨rfl, rfl⟩ := ho
  have e : phraseL ⟨2, row, 0, count, til, []⟩ S ++ t = bScroll :: bLine :: (numI (row + 1) ++ (bTo :: (numI til ++ ((if 0 < count then bUp :: numI count else bDown :: numI (-count)) ++ t)))) := by simp [phraseL]
  rw [e]
  unfold chgL
  rw [hdIs_no (by decide +kernel), if_neg (by simp), if_pos (hdIs_yes _ _), skO_yes, Option.bind_some, afO_say (by omega) (by omega) (noW_to.num _), Option.bind_some]
  simp only
  by_cases hp : 0 < count
  ·rw [if_pos hp, List.cons_append, afO_say (by omega) (by omega) (noW_up.num _), Option.bind_some]
   simp only
   rw [hdIs_no (by decide +kernel), if_neg (by simp), afO_say (by omega) (by omega) htn, Option.bind_some]
   simp only
   rw [if_neg (by omega), Int.add_sub_cancel]
  ·rw [if_neg hp, List.cons_append, afO_say (by omega) (by omega) (noW_down.num _), Option.bind_some]
   simp only
   rw [if_pos (hdIs_yes _ _), afO_say (by omega) (by omega) htn, Option.bind_some]
   simp only
   rw [if_neg (by omega), Int.add_sub_cancel, Int.neg_neg]
 ·simp [rangesU] at hr
  simp only [othersU] at ho
  simp at ho
  obtain ⟨rfl, ho⟩ := ho
  have e : phraseL ⟨3, row, col, count, 0, g⟩ S ++ t = bLine :: (numI (row + 1) ++ (bColumn :: (numI (col + 1) ++ ((if 0 < count then bDelete :: numI count else []) ++ ((if g = [] then [] else bInsert :: (spokenWords g S ++ [bStop])) ++ t))))) := by simp [phraseL]
  have hI : NoNum ((if g = [] then [] else bInsert :: (spokenWords g S ++ [bStop])) ++ t) ∧ hdIs bDelete ((if g = [] then [] else bInsert :: (spokenWords g S ++ [bStop])) ++ t) = false := by
   by_cases hg : g = []
   ·rw [if_pos hg, List.nil_append]
    exact ⟨htn, htd⟩
   ·rw [if_neg hg, List.cons_append]
    exact ⟨noW_insert.num _, hdIs_no (by decide +kernel) _⟩
  have hD : NoNum ((if 0 < count then bDelete :: numI count else []) ++ ((if g = [] then [] else bInsert :: (spokenWords g S ++ [bStop])) ++ t)) := by
   by_cases hp : 0 < count
   ·rw [if_pos hp, List.cons_append]
    exact noW_delete.num _
   ·rw [if_neg hp, List.nil_append]
    exact hI.1
  rw [e]
  unfold chgL
  rw [hdIs_no (by decide +kernel), if_neg (by simp), hdIs_no (by decide +kernel), if_neg (by simp), if_pos (hdIs_yes _ _)]
  unfold spliceL
  rw [afO_say (by omega) (by omega) (noW_column.num _), Option.bind_some]
  simp only
  rw [afO_say (by omega) (by omega) hD, Option.bind_some]
  simp only
  rw [del_say (by omega) (by omega) hI.1 hI.2, Option.bind_some]
  simp only
  rw [ins_say ho S hti, Option.map_some, Int.add_sub_cancel, Int.add_sub_cancel]
 ·simp [rangesU] at hr
  simp [othersU] at ho
  obtain ⟨rfl, rfl⟩ := ho
  have e : phraseL ⟨4, row, col, count, 0, []⟩ S ++ t = bCursor :: bLine :: (numI (row + 1) ++ (bColumn :: (numI (col + 1) ++ ((if count = 1 then bVisible else bInvisible) :: t)))) := by simp [phraseL]
  rw [e]
  unfold chgL
  rw [hdIs_no (by decide +kernel), if_neg (by simp), hdIs_no (by decide +kernel), if_neg (by simp), hdIs_no (by decide +kernel), if_neg (by simp), if_pos (hdIs_yes _ _), skO_yes, Option.bind_some, afO_say (by omega) (by omega) (noW_column.num _), Option.bind_some]
  simp only
  by_cases hp : count = 1
  ·rw [if_pos hp, afO_say (by omega) (by omega) (noW_visible.num _), Option.bind_some]
   simp only
   rw [if_pos (hdIs_yes _ _), skO_yes, Option.map_some, Int.add_sub_cancel, Int.add_sub_cancel, hp]
  ·obtain rfl : count = 0 := by omega
   rw [if_neg hp, afO_say (by omega) (by omega) (noW_invisible.num _), Option.bind_some]
   simp only
   rw [hdIs_no (by decide +kernel), if_neg (by simp), skO_yes, Option.map_some, Int.add_sub_cancel, Int.add_sub_cancel]
theorem chg_phrase (c : Chg) (S : Setts) (hc : chkU c = 0) (t : List ByteArray) (ht : Nxt t) : chgL (phraseL c S ++ t) = some (c, t) := by
 have hn := ht.num
 obtain ⟨a, u, rfl, ha⟩ := ht
 exact chg_phrase' c S hc _ hn (hdIs_no (nxt_ne a ha).1 u) (hdIs_no (nxt_ne a ha).2 u)
theorem end_say {n : Int} (h0 : 0 ≤ n) (h1 : n ≤ 999999999) : endL (endW n) = some n ∧ (hdIs bMore (endW n) = true ∨ hdIs bDone (endW n) = true) ∧ Nxt (endW n) := by
 unfold endW
 by_cases hz : n = 0
 ·rw [if_pos hz]
  refine ⟨?_, .inl (hdIs_yes _ _), bMore, [], rfl, by simp [nxtB]⟩
  unfold endL
  rw [if_pos (hdIs_yes _ _), hz]
  rfl
 ·rw [if_neg hz]
  by_cases ho : n = 1
  ·rw [if_pos ho]
   refine ⟨?_, .inr (hdIs_yes _ _), bDone, [], rfl, by simp [nxtB]⟩
   unfold endL
   rw [hdIs_no (by decide +kernel), if_neg (by simp), skO_yes, Option.bind_some, if_pos rfl, ho]
  ·rw [if_neg ho]
   refine ⟨?_, .inr (hdIs_yes _ _), bDone, _, rfl, by simp [nxtB]⟩
   unfold endL
   rw [hdIs_no (by decide +kernel), if_neg (by simp), skO_yes, Option.bind_some, if_neg (by simp), numO_say (by omega) h1 (noW_updates.num _), Option.bind_some]
   simp only
   rw [skO_yes, Option.bind_some, if_pos ⟨rfl, by omega⟩]
theorem phrase_nxt (c : Chg) (S : Setts) (hc : chkU c = 0) (t : List ByteArray) : Nxt (phraseL c S ++ t) ∧ hdIs bMore (phraseL c S ++ t) = false ∧ hdIs bDone (phraseL c S ++ t) = false := by
 obtain ⟨hk, -⟩ := chk_zero hc
 unfold phraseL
 have hk4 : c.kind = 1 ∨ c.kind = 2 ∨ c.kind = 3 ∨ c.kind = 4 := by omega
 rcases hk4 with h | h | h | h
 ·rw [if_pos h, List.cons_append]
  exact ⟨⟨bSize, _, rfl, by simp [nxtB]⟩, hdIs_no (by decide +kernel) _, hdIs_no (by decide +kernel) _⟩
 ·rw [if_neg (by omega), if_pos h, List.cons_append]
  exact ⟨⟨bScroll, _, rfl, by simp [nxtB]⟩, hdIs_no (by decide +kernel) _, hdIs_no (by decide +kernel) _⟩
 ·rw [if_neg (by omega), if_neg (by omega), if_pos h, List.cons_append]
  exact ⟨⟨bLine, _, rfl, by simp [nxtB]⟩, hdIs_no (by decide +kernel) _, hdIs_no (by decide +kernel) _⟩
 ·rw [if_neg (by omega), if_neg (by omega), if_neg (by omega), if_pos h, List.cons_append]
  exact ⟨⟨bCursor, _, rfl, by simp [nxtB]⟩, hdIs_no (by decide +kernel) _, hdIs_no (by decide +kernel) _⟩
theorem chgs_say (S : Setts) {n : Int} (h0 : 0 ≤ n) (h1 : n ≤ 999999999) : ∀ (l : List Chg) (f : Nat) (acc : List Chg), (∀ c ∈ l, chkU c = 0) → l.length < f → chgsL f (wordsU l n S) acc = some (acc ++ l, n)
 | [], f + 1, acc, _, _ => by
  unfold wordsU
  rw [List.flatMap_nil, List.nil_append, chgsL, if_pos (end_say h0 h1).2.1, (end_say h0 h1).1, List.append_nil]
  rfl
 | c :: l, f + 1, acc, h, hf => by
  have hc := h c (by simp)
  have e : wordsU (c :: l) n S = phraseL c S ++ wordsU l n S := by unfold wordsU; rw [List.flatMap_cons, List.append_assoc]
  have hN : Nxt (wordsU l n S) := by
   cases l with
   | nil => unfold wordsU; rw [List.flatMap_nil, List.nil_append]; exact (end_say h0 h1).2.2
   | cons d u =>
    have e2 : wordsU (d :: u) n S = phraseL d S ++ wordsU u n S := by unfold wordsU; rw [List.flatMap_cons, List.append_assoc]
    rw [e2]
    exact (phrase_nxt d S (h d (by simp)) _).1
  obtain ⟨_, h2, h3⟩ := phrase_nxt c S hc (wordsU l n S)
  rw [e, chgsL, if_neg (by rw [h2, h3]; simp), chg_phrase c S hc _ hN, Option.bind_some]
  simp only
  rw [if_pos hc, chgs_say S h0 h1 l f (acc ++ [c]) (fun x hx => h x (by simp [hx])) (by simpa using hf), List.append_assoc]
  rfl
theorem phrase_pos (c : Chg) (S : Setts) (hc : chkU c = 0) : 0 < (phraseL c S).length := by
 obtain ⟨a, u, e, _⟩ := (phrase_nxt c S hc []).1
 rw [List.append_nil] at e
 rw [e]
 simp
theorem words_len (S : Setts) (n : Int) : ∀ (l : List Chg), (∀ c ∈ l, chkU c = 0) → l.length ≤ (wordsU l n S).length
 | [], _ => by simp
 | c :: l, h => by
  have e : wordsU (c :: l) n S = phraseL c S ++ wordsU l n S := by unfold wordsU; rw [List.flatMap_cons, List.append_assoc]
  have h1 := words_len S n l fun x hx => h x (by simp [hx])
  have h2 := phrase_pos c S (h c (by simp))
  rw [e, List.length_append, List.length_cons]
  omega
theorem changes_words (l : List Chg) (n : Int) (S : Setts) (h0 : 0 ≤ n) (h1 : n ≤ 999999999) (h : ∀ c ∈ l, chkU c = 0) : changesU (wordsU l n S) = some (l, n) := by
 unfold changesU
 rw [chgs_say S h0 h1 l _ [] h (by have := words_len S n l h; omega), List.nil_append]
def ctlU : List ByteArray := [bSize, bRows, bColumns, bScroll, bLine, bTo, bUp, bDown, bColumn, bInsert, bDelete, bCursor, bVisible, bInvisible, bMore, bDone, bUpdates, bStop]
end Go.Proofs.YtejjfiipghcifaaGreatDoor
namespace Go.Proofs.YtejjfiipghcifaaGreatDoor
open Go.RowKit
theorem encCs_cells (l : List ChgM) : (encCs l).all Value.oneCell' = true := by
 rw [List.all_eq_true]
 intro u hu
 rw [encCs, List.mem_flatMap] at hu
 obtain ⟨x, _, hu⟩ := hu
 exact List.all_eq_true.1 (encC_cells x) u hu
end Go.Proofs.YtejjfiipghcifaaGreatDoor
namespace Go.Proofs.YtejjfiipghcifaaGreatDoor
open Go.RowKit
set_option maxRecDepth 20000
def shortW (m z : Nat) (l : List ByteArray) : Bool := decide (l.length ≤ m) && l.all fun s => decide (s.size ≤ z)
set_option maxHeartbeats 1000000 in
theorem short41_ (l : List ByteArray) (A : Option Addr) (n c B : Nat) (w : World) (hm : n ≤ maxLen) (rd : Rd w B 1 A n (sv l)) :
  Calls Tryz.prog 18 #[.slice A n c] w fun e w' => e = .returned (.bool (shortW 100 40 l)) ∧ w' = w := by
 have HN : Hid (l.length = n) := Lib.hid (by have := rd.1; rw [sv_len] at this; omega)
 have hmm : n ≤ 9223372036854775807 := by unfold maxLen at hm; omega
 unfold shortW
 rw [HN.out]
 clear hm
 by_cases h0 : n ≤ 100
 ·rw [decide_eq_true h0, Bool.true_and]
  have hi : (n : Int) ≤ 100 := by omega
  have H0 : Hid ((l.all fun s => decide (s.size ≤ 40)) = ((l.drop 0).all fun s => decide (s.size ≤ 40))) := Lib.hid rfl
  generalize (l.all fun s => decide (s.size ≤ 40)) = R at *
  clear h0
  go_enter Tryz.func18, Tryz.ntmps18
  go_wp2
  go_loop [10] (fun x => ∃ k : Nat, k ≤ n ∧ x = .int .i64 k ∧ Hid (R = ((l.drop k).all fun s => decide (s.size ≤ 40)))) (fun x => n - (intOf x).toNat)
  case atStart => exact ⟨0, Nat.zero_le _, rfl, H0⟩
  case round =>
   obtain ⟨k, hk, rfl, HK⟩ := hrel
   by_cases hlt : k < n
   ·have hkl : k < l.length := by have := HN.out; omega
    obtain ⟨b, o, rfl, _, g0⟩ := rd.at_ hlt
    rw [sv_get _ _ hkl] at g0
    have HD := Lib.hid (all_drop (fun s : ByteArray => decide (s.size ≤ 40)) hkl)
    generalize l[k] = t at *
    by_cases hz : t.size ≤ 40
    ·have HR2 : Hid (R = ((l.drop (k + 1)).all fun s => decide (s.size ≤ 40))) := Lib.hid (by rw [HK.out, HD.out, decide_eq_true hz]; rfl)
     have hzi : (t.size : Int) ≤ 40 := by omega
     clear HK HD hz
     go_wp2
     exact ⟨⟨k + 1, by omega, by go_num, HR2⟩, by simp [intOf]; omega⟩
    ·have HR2 : Hid (R = false) := Lib.hid (by rw [HK.out, HD.out, decide_eq_false hz]; rfl)
     have hzi : (40 : Int) < (t.size : Int) := by omega
     clear HK HD hz
     go_wp2
     go_ret
     exact ⟨by rw [HR2.out]; rfl, rfl⟩
   ·have HR2 : Hid (R = true) := Lib.hid (by rw [HK.out, List.drop_of_length_le (by have := HN.out; omega)]; rfl)
    go_wp2
    go_ret
    exact ⟨by rw [HR2.out]; rfl, rfl⟩
 ·rw [decide_eq_false h0, Bool.false_and]
  have hi : (100 : Int) < (n : Int) := by omega
  go_enter Tryz.func18, Tryz.ntmps18
  go_wp2
  go_ret
  exact ⟨rfl, rfl⟩
theorem short_some {m z : Nat} {l : List ByteArray} (h : shortW m z l = true) : l.length ≤ m ∧ ∀ s ∈ l, s.size ≤ z := by
 unfold shortW at h
 simp only [Bool.and_eq_true, List.all_eq_true, decide_eq_true_eq] at h
 exact h
theorem bothS {P : Program} {f : FuncId} {args : Array Value} {w X : World} {v : Value} (h : Calls P f args X fun e X' => e = .returned v ∧ X' = X) (hb : Below w.heap.size w X) : Calls P f args X fun e X' => e = .returned v ∧ Below w.heap.size w X' ∧ Below X.heap.size X X' :=
 h.mono fun _ _ ⟨h1, h2⟩ => by subst h2; exact ⟨h1, hb, Below.refl _ _⟩
theorem k_changes {W : List ByteArray} {w : World} (hg : Gd w) (hl : W.length ≤ 400000) (hs : SzW W) (X : World) (hb : Below w.heap.size w X) (A : Option Addr) (c : Nat) (base : Nat) (ho : X.ownsRow base 9 1 (.slice A W.length c) W.length (sv W)) :
  Calls Tryz.prog 19 #[.slice A W.length c] X fun e X' => ChR (changesU W) X e X' ∧ Below w.heap.size w X' ∧ Below X.heap.size X X' := by
 have hg' := hg.below hb
 exact (uchanges_ W A W.length c X (WdR.own ho hs) hl hg'.1 hg'.2.1 hg'.2.2).mono fun e X' h => ⟨h, hb.trans (h.1.mono hb.size), h.1⟩
theorem az_bytes {t : ByteArray} (h : azB t = true) : 0 < t.size ∧ ∀ i (h : i < t.size), 97 ≤ t[i].toNat ∧ t[i].toNat ≤ 122 := by
 unfold azB at h
 simp only [Bool.and_eq_true, Bool.not_eq_true', List.all_eq_true, decide_eq_true_eq] at h
 refine ⟨?_, fun i hi => h.2 _ ?_⟩
 ·rcases Nat.eq_zero_or_pos t.size with h0 | h0
  ·have : t.data.toList = [] := List.length_eq_zero_iff.1 (by simpa using h0)
   rw [this] at h
   cases h.1
  ·exact h0
 ·have : t[i] = t.data.toList[i]'(by simpa using hi) := by simp [ByteArray.getElem_eq_getElem_data]
  rw [this]
  exact List.getElem_mem _
end Go.Proofs.YtejjfiipghcifaaGreatDoor
