/- Joined texts: Bk4, FmP, BdP. -/
import Derived.Test.YtejjfiipghcifaaGreatDoorQAW
set_option linter.unusedVariables false
set_option linter.unusedSimpArgs false
set_option linter.unnecessarySimpa false
namespace Go.Proofs.YtejjfiipghcifaaGreatDoor
open Go.RowKit
set_option maxRecDepth 20000
theorem spoken_head {g : Gl} {t : List Gl} {rep : Int} {sp dg : Bool} (hG : ∀ x ∈ g :: t, GF x) : ∃ a W, spokenL (pcL (g :: t) rep) sp dg = a :: W ∧ a ≠ bTimes := by
 have hcons := pc_cons g t rep
 have hk3 := kindL_le g
 have hwb : ∀ j : Fin 32, wb j.val ≠ bTimes := by decide +kernel
 by_cases h12 : kindL g = 1 ∨ kindL g = 2
 ·obtain ⟨hp, hall⟩ := pc_ltr (rep := rep) (t := t) h12
  have e : spokenL (pcL (g :: t) rep) sp dg = lettersT ((pcL (g :: t) rep).map headB) sp := by
   rw [← lettersL_T (fun x hx => by have := (hall x hx).1; omega), hcons, spokenL_ltr h12]
  rw [e, letters_body]
  unfold capW
  split
  ·exact ⟨bCap, _, rfl, by decide +kernel⟩
  ·split
   ·exact ⟨bCaps, _, rfl, by decide +kernel⟩
   ·rw [List.nil_append]
    unfold bodyT
    cases sp with
    | true => exact ⟨bSpelled, _, rfl, by decide +kernel⟩
    | false =>
     rw [if_neg (by simp)]
     cases hr : resB ⟨(((pcL (g :: t) rep).map headB).map lowB).toArray⟩ with
     | true => exact ⟨bWord, _, rfl, by decide +kernel⟩
     | false => exact ⟨_, _, rfl, noRes hr (by decide +kernel)⟩
 ·by_cases h3 : kindL g = 3
  ·have hall := pc_dig (rep := rep) (t := t) h3
   have hk : ∀ x ∈ pcL (g :: t) rep, kindL x = 3 := fun x hx => (hall x hx).1
   have e : spokenL (pcL (g :: t) rep) sp dg = digitsT ((pcL (g :: t) rep).map headB) dg := by
    rw [← digitsL_T, hcons, spokenL_dig h3]
   rw [e]
   unfold digitsT
   split
   ·exact ⟨bDigits, _, rfl, by decide +kernel⟩
   ·rename_i hc
    rw [not_or, not_or, List.length_map] at hc
    have h1 := numL_lt _ (digs_lt hk)
    have h2 : (digT ((pcL (g :: t) rep).map headB)).length ≤ 9 := by unfold digT; rw [List.length_map, List.length_map]; omega
    have h3 : 10 ^ (digT ((pcL (g :: t) rep).map headB)).length ≤ 10 ^ 9 := Nat.pow_le_pow_right (by omega) h2
    obtain ⟨j, W, hj, e⟩ := numW_cons (numL (digT ((pcL (g :: t) rep).map headB))) (by omega)
    exact ⟨_, _, e, hwb ⟨j, hj⟩⟩
  ·have h0 : kindL g = 0 := by omega
   have hg := hG g (by simp)
   rcases pc_oth (rep := rep) (t := t) h0 with e | ⟨n, h2, hn, e, hc⟩
   ·rw [e, spokenL_one h0]
    by_cases hs : g.text.data.toList = [32]
    ·rw [singleL_sp hs]
     exact ⟨_, _, rfl, by decide +kernel⟩
    ·obtain ⟨r, t', hc, h1, _⟩ := hg.form
     have hch : ChW (r : Int) (spellL (r : Int)) [] := .inr ⟨chN_isChar h1, rfl, fun _ => NoNum.nil⟩
     obtain ⟨a, W, e2, _, _, _, h⟩ := hch.head
     rw [singleL_oth hs, hc, spellN_cons, e2]
     exact ⟨a, _, rfl, h⟩
   ·obtain ⟨m, rfl⟩ : ∃ m, n = m + 2 := ⟨n - 2, by omega⟩
    rw [e, List.replicate_succ, spokenL_many h0 (by simp), List.length_replicate]
    obtain ⟨j, W, hj, e⟩ := numW_cons (m + 1 + 1) (by omega)
    rw [e]
    exact ⟨_, _, rfl, hwb ⟨j, hj⟩⟩
def SilOK (S : Setts) (q : Spk) (rest : List Gl) : Prop := q.silent = true → q.before ≠ 0 ∧ ∃ b t, rest = b :: t ∧ kindL b ≠ 0 ∧ b.style = q.style ∧ (q.before = 3 → isNumW ((spokenL (pcL (b :: t) S.rep) S.spell S.digits).headD ⟨#[]⟩) = false)
def NumEnd (q : Spk) : Prop := (q.before = 0 ∨ q.before = 3) ∧ q.out ≠ [] ∧ isNumW (q.out.getLastD ⟨#[]⟩) = true
theorem NoNum.sty (i : Nat) (t : List ByteArray) : NoNum (styB i :: t) := by
 refine NoNum.of ?_ t
 unfold styB
 split <;> decide +kernel
theorem NoNum.joined (t : List ByteArray) : NoNum (bJoined :: t) := NoNum.of (by decide +kernel) t
theorem sty_times (i : Nat) : styB i ≠ bTimes := by
 unfold styB
 split <;> decide +kernel
theorem read_sty {i : Int} (h0 : 0 ≤ i) (h3 : i ≤ 3) (R : List ByteArray) (O : List Gl) (st : Int) (J : Bool) : partL ⟨styB i.toNat :: R, O, st, J⟩ = some ⟨R, O, i, false⟩ := by
 unfold partL styledL
 simp only
 rw [styIdx_sty i.toNat (by omega)]
 simp only
 rw [some_or, Int.toNat_of_nonneg h0]
theorem read_joined (R : List ByteArray) (O : List Gl) (st : Int) (J : Bool) : partL ⟨bJoined :: R, O, st, J⟩ = some ⟨R, O, st, false⟩ := by
 unfold partL styledL
 simp only
 rw [show styIdx bJoined = none by decide +kernel]
 simp only
 rw [if_pos trivial, some_or]
theorem kind_space {a : Gl} (h : a.text.data.toList = [32]) : kindL a = 0 := by
 unfold kindL
 rw [h]
 rfl
theorem skip_form {q : Spk} {S : Setts} {a : Gl} {l : List Gl} {n : Nat} (h : skipsB q S (a :: l) n = true) : ∃ b t, l = b :: t ∧ n = 1 ∧ a.text.data.toList = [32] ∧ q.before ≠ 0 ∧ a.style = q.style ∧ kindL b ≠ 0 ∧ b.style = q.style ∧
  (q.before = 3 → isNumW ((spokenL (pcL (b :: t) S.rep) S.spell S.digits).headD ⟨#[]⟩) = false) := by
 cases l with
 | nil => cases h
 | cons b t =>
  unfold skipsB at h
  simp only [Bool.and_eq_true, Bool.or_eq_true, decide_eq_true_eq, Bool.not_eq_true'] at h
  obtain ⟨⟨⟨⟨⟨⟨h1, h2⟩, h3⟩, h4⟩, h5⟩, h6⟩, h7⟩ := h
  exact ⟨b, t, rfl, h1, h2, h3, h4, h5, h6, fun h => h7.resolve_left fun h' => h' h⟩
theorem sayL_pc {q : Spk} {S : Setts} {g : Gl} {t : List Gl} : sayL q S (pcL (g :: t) S.rep) = ⟨q.out ++ preL q g ((spokenL (pcL (g :: t) S.rep) S.spell S.digits).headD ⟨#[]⟩) ++ spokenL (pcL (g :: t) S.rep) S.spell S.digits, g.style, kindL g, false⟩ := sayL_eq (pc_cons g t S.rep)
theorem back (S : Setts) : ∀ (n : Nat) (q : Spk) (rest : List Gl), rest.length ≤ n → (∀ x ∈ rest, GF x ∧ 0 ≤ x.style ∧ x.style ≤ 3) → SilOK S q rest →
  ∃ T, (wordsFrom S rest.length q rest).out = q.out ++ T ∧ T[0]? ≠ some bTimes ∧ (NumEnd q → NoNum T) ∧ ∀ O, readA ⟨T, O, q.style, decide (q.before ≠ 0)⟩ = some (O ++ (if q.silent = true then [chG q.style 32] else []) ++ rest)
 | n, q, [], _, _, hs => by
  have hsil : q.silent = false := by
   cases h : q.silent with
   | false => rfl
   | true =>
    obtain ⟨_, b, t, e, _⟩ := hs h
    cases e
  refine ⟨[], by simp [wordsFrom], by simp, fun _ => NoNum.nil, fun O => ?_⟩
  rw [hsil, readA_nil rfl]
  simp
 | 0, q, g :: t, hn, _, _ => by simp at hn
 | n + 1, q, g :: t, hn, hG, hs => by
  have hp := pieceL_pos (g := g) (t := t) S.rep
  have hd : ((g :: t).drop (pieceL (g :: t) S.rep)).length ≤ n := by
   rw [List.length_drop]
   rw [List.length_cons] at hn ⊢
   omega
  have hG2 : ∀ x ∈ (g :: t).drop (pieceL (g :: t) S.rep), GF x ∧ 0 ≤ x.style ∧ x.style ≤ 3 := fun x hx => hG x (List.mem_of_mem_drop hx)
  have hgs := hG g (by simp)
  rw [wordsFrom_cons]
  cases hb : skipsB q S (g :: t) (pieceL (g :: t) S.rep) with
  | true =>
   rw [if_pos rfl]
   obtain ⟨b, t', rfl, h1, h2, h3, h4, h5, h6, h7⟩ := skip_form hb
   rw [h1] at hd hG2 ⊢
   rw [List.drop_succ_cons, List.drop_zero] at hd hG2 ⊢
   have hsil : q.silent = false := by
    cases h : q.silent with
    | false => rfl
    | true =>
     obtain ⟨_, b', t'', e, hk, _⟩ := hs h
     injection e with e _
     subst e
     exact absurd (kind_space h2) hk
   obtain ⟨T, e1, e2, e3, e4⟩ := back S n { q with silent := true } (b :: t') hd hG2 fun _ => ⟨h3, b, t', rfl, h5, h6, h7⟩
   refine ⟨T, e1, e2, e3, fun O => ?_⟩
   have := e4 O
   simp only [if_true] at this
   rw [this, hsil]
   have hgg : g = chG q.style 32 := by
    have := gl_byte hgs.1 h2 (.inr rfl)
    rwa [h4] at this
   rw [← hgg]
   simp
  | false =>
   rw [if_neg (by simp)]
   have hGF : ∀ x ∈ g :: t, GF x := fun x hx => (hG x hx).1
   obtain ⟨w0, W, hw, hwt⟩ := spoken_head (rep := S.rep) (sp := S.spell) (dg := S.digits) hGF
   have hsay := sayL_pc (q := q) (S := S) (g := g) (t := t)
   obtain ⟨T, e1, e2, e3, e4⟩ := back S n (sayL q S (pcL (g :: t) S.rep)) ((g :: t).drop (pieceL (g :: t) S.rep)) hd hG2 (by rw [hsay]; intro h; cases h)
   rw [hsay] at e1 e3 e4
   simp only [Bool.false_eq_true, if_false, List.append_nil] at e4
   have hpr : g :: t = pcL (g :: t) S.rep ++ (g :: t).drop (pieceL (g :: t) S.rep) := (List.take_append_drop _ _).symm
   have hNE : kindL g = 0 ∨ kindL g = 3 → isNumW ((spokenL (pcL (g :: t) S.rep) S.spell S.digits).getLastD ⟨#[]⟩) = true → NoNum T := fun hk hl => e3 ⟨hk, by rw [hw]; simp, by
    rw [last_app (by rw [hw]; simp)]
    exact hl⟩
   have hrd := fun O J => read_piece (rep := S.rep) (sp := S.spell) (dg := S.digits) hGF (R := T) e2 hNE O J
   rw [hw] at hsay e1 hrd
   rw [List.headD_cons] at hsay e1
   have hfin : ∀ O J, (kindL g ≠ 0 → J = q.silent) → (kindL g = 0 → q.silent = false) → readA ⟨w0 :: W ++ T, O, g.style, J⟩ = some (O ++ (if q.silent = true then [chG g.style 32] else []) ++ g :: t) := by
    intro O J h1 h2
    rw [hrd O J, e4]
    have : (if kindL g ≠ 0 ∧ J = true then [chG g.style 32] else []) = (if q.silent = true then [chG g.style 32] else []) := by
     by_cases hk : kindL g = 0
     ·rw [if_neg (fun h => h.1 hk), h2 hk, if_neg (by simp)]
     ·rw [h1 hk]
      by_cases hq : q.silent = true
      ·rw [if_pos ⟨hk, hq⟩, if_pos hq]
      ·rw [if_neg (fun h => hq h.2), if_neg hq]
    rw [this, List.append_assoc _ (pcL _ _), ← hpr]
   have hsil : ∀ h : q.silent = true, q.before ≠ 0 ∧ kindL g ≠ 0 ∧ g.style = q.style ∧ (q.before = 3 → isNumW w0 = false) := fun h => by
    obtain ⟨a1, b', t'', e, hk, a2, a3⟩ := hs h
    injection e with e e'
    subst e e'
    rw [hw] at a3
    exact ⟨a1, hk, a2, a3⟩
   have hsf : q.silent = false ∨ q.silent = true := by cases q.silent <;> simp
   refine ⟨preL q g w0 ++ (w0 :: W) ++ T, by rw [show (g :: t).take (pieceL (g :: t) S.rep) = pcL (g :: t) S.rep from rfl, hsay, e1]; simp, ?_, ?_, ?_⟩
   ·unfold preL
    split
    ·simp only [List.cons_append, List.nil_append, List.getElem?_cons_zero]
     exact fun e => sty_times _ (by injection e)
    ·split
     ·split
      ·simp only [List.nil_append, List.cons_append, List.getElem?_cons_zero]
       exact fun e => hwt (by injection e)
      ·simp only [List.cons_append, List.nil_append, List.getElem?_cons_zero]
       exact fun e => absurd (show bJoined = bTimes by injection e) (by decide +kernel)
     ·split
      ·simp only [List.cons_append, List.nil_append, List.getElem?_cons_zero]
       exact fun e => absurd (show bJoined = bTimes by injection e) (by decide +kernel)
      ·simp only [List.nil_append, List.cons_append, List.getElem?_cons_zero]
       exact fun e => hwt (by injection e)
   ·rintro ⟨n1, n2, n3⟩
    unfold preL
    split
    ·exact NoNum.sty _ _
    ·split
     ·rename_i hst hk
      split
      ·rename_i hsl
       obtain ⟨a1, a2, a3, a4⟩ := hsil hsl
       exact NoNum.of (a4 (n1.resolve_left a1)) _
      ·exact NoNum.joined _
     ·rename_i hst hk
      split
      ·exact NoNum.joined _
      ·rename_i hj
       refine NoNum.of ?_ _
       cases hw0 : isNumW w0 with
       | false => rfl
       | true => exact absurd ⟨n2, hw0, n3⟩ hj
   ·intro O
    unfold preL
    split
    ·rename_i hst
     have hsl : q.silent = false := hsf.resolve_right fun h => hst (hsil h).2.2.1
     rw [List.append_assoc, List.singleton_append, readA_step (read_sty hgs.2.1 hgs.2.2 _ O q.style _), hfin O false (fun _ => hsl.symm) (fun _ => hsl), hsl]
     simp
    ·rename_i hst
     have hst' : g.style = q.style := Classical.not_not.1 hst
     rw [← hst']
     split
     ·rename_i hk
      split
      ·rename_i hsl
       rw [List.nil_append, hfin O _ (fun _ => by rw [hsl, decide_eq_true hk.2]) (fun h => absurd h hk.1), if_pos hsl]
      ·rename_i hsl
       have hsl' : q.silent = false := by simpa using hsl
       rw [List.append_assoc, List.singleton_append, readA_step (read_joined _ O g.style _), hfin O false (fun _ => hsl'.symm) (fun _ => hsl'), if_neg hsl]
     ·rename_i hk
      have hsl : q.silent = false := hsf.resolve_right fun h => hk ⟨(hsil h).2.1, (hsil h).1⟩
      split
      ·rw [List.append_assoc, List.singleton_append, readA_step (read_joined _ O g.style _), hfin O false (fun _ => hsl.symm) (fun _ => hsl)]
      ·rw [List.nil_append, hfin O _ (fun hkg => by
        have : q.before = 0 := by
         rcases Nat.eq_zero_or_pos q.before with h | h
         ·exact h
         ·exact absurd ⟨hkg, by omega⟩ hk
        rw [this, hsl]
        rfl) (fun _ => hsl)]
theorem round_trip (l : List Gl) (S : Setts) (h : ∀ x ∈ l, GF x ∧ 0 ≤ x.style ∧ x.style ≤ 3) : glyphsL (spokenWords l S) = some l := by
 obtain ⟨T, e1, _, _, e4⟩ := back S l.length ⟨[], 0, 0, false⟩ l (Nat.le_refl _) h (fun h => by cases h)
 have := e4 []
 unfold glyphsL spokenWords
 rw [e1]
 simpa [readA] using this
end Go.Proofs.YtejjfiipghcifaaGreatDoor
namespace Go.Proofs.YtejjfiipghcifaaGreatDoor
open Go.RowKit
set_option maxRecDepth 20000
def bStop : ByteArray := ⟨#[115, 116, 111, 112]⟩
def frmF : Bool → List ByteArray → Option Bool
 | b, [] => some b
 | b, a :: t => if azB a = false ∨ (a = bStop ∧ b = false) then none else frmF (decide (a = bWord) && !b) t
theorem frmF_app : ∀ (A B : List ByteArray) (b : Bool), frmF b (A ++ B) = (frmF b A).bind fun c => frmF c B
 | [], B, b => rfl
 | a :: t, B, b => by
  rw [List.cons_append, frmF, frmF]
  split
  ·rfl
  ·exact frmF_app t B _
def Clo (W : List ByteArray) : Prop := frmF false W = some false
theorem Clo.nil : Clo [] := rfl
theorem Clo.app {A B : List ByteArray} (hA : Clo A) (hB : Clo B) : Clo (A ++ B) := by
 unfold Clo at *
 rw [frmF_app, hA]
 exact hB
def okW (a : ByteArray) : Bool := azB a && !(decide (a = bStop)) && !(decide (a = bWord))
theorem Clo.one {a : ByteArray} (h : okW a = true) : Clo [a] := by
 unfold okW at h
 simp only [Bool.and_eq_true, Bool.not_eq_true', decide_eq_false_iff_not] at h
 obtain ⟨⟨h1, h2⟩, h3⟩ := h
 unfold Clo
 rw [frmF, if_neg (by rintro (h | ⟨h, _⟩); · rw [h1] at h; cases h
                      · exact h2 h), decide_eq_false h3]
 rfl
theorem Clo.all : ∀ {W : List ByteArray}, (∀ a ∈ W, okW a = true) → Clo W
 | [], _ => Clo.nil
 | a :: t, h => Clo.app (A := [a]) (Clo.one (h a (by simp))) (Clo.all fun x hx => h x (by simp [hx]))
theorem ok_wb (j : Nat) (hj : j < 32) : okW (wb j) = true := by
 have : ∀ k : Fin 32, okW (wb k.val) = true := by decide +kernel
 exact this ⟨j, hj⟩
theorem ok_nb (j : Nat) (hj : j < 32) : okW (nb j) = true := by
 have : ∀ k : Fin 32, okW (nb k.val) = true := by decide +kernel
 exact this ⟨j, hj⟩
theorem ok_sty (i : Nat) : okW (styB i) = true := by
 unfold styB
 split <;> decide +kernel
theorem ok_one {c : UInt8} (h : 97 ≤ c.toNat ∧ c.toNat ≤ 122) : okW ⟨#[c]⟩ = true := by
 have h1 := oneB_single c h
 unfold oneB at h1
 simp only [Bool.and_eq_true] at h1
 unfold okW
 rw [h1.1, decide_eq_false (fun e => absurd (show 1 = 4 from congrArg ByteArray.size e) (by decide) : (⟨#[c]⟩ : ByteArray) ≠ bStop), decide_eq_false (fun e => absurd (show 1 = 4 from congrArg ByteArray.size e) (by decide) : (⟨#[c]⟩ : ByteArray) ≠ bWord)]
 rfl
theorem ok_words {n : Int} (h1 : -999999999 ≤ n) (h2 : n ≤ 999999999) : ∀ a ∈ (wordsL n).map wb, okW a = true := by
 intro a ha
 obtain ⟨i, hi, rfl⟩ := List.mem_map.1 ha
 exact ok_wb i (sg_words_lt n h1 h2 i hi)
theorem ok_numW {n : Nat} (h : n ≤ 999999999) : ∀ a ∈ numW n, okW a = true := ok_words (by omega) (by omega)
theorem ok_spell (r : Int) : ∀ a ∈ spellL r, okW a = true := by
 intro a ha
 unfold spellL at ha
 split at ha
 ·rename_i i hi
  rw [List.mem_singleton] at ha
  subst ha
  exact ok_nb i (sIdxI_some hi).1
 ·split at ha
  ·rename_i hc
   have hr := char_range hc
   rcases List.mem_cons.1 ha with rfl | ha
   ·decide +kernel
   ·exact ok_words (by omega) (by omega) a ha
  ·cases ha
theorem ok_single (g : Gl) : ∀ a ∈ singleL g, okW a = true := by
 intro a ha
 unfold singleL at ha
 split at ha
 ·rw [List.mem_singleton] at ha
  subst ha
  decide +kernel
 ·rw [List.mem_flatMap] at ha
  obtain ⟨r, _, ha⟩ := ha
  exact ok_spell _ a ha
theorem clo_letters {T : List UInt8} (h : LtrPat T) (sp : Bool) : Clo (lettersT T sp) := by
 have haz := azB_low h.1 h.kind
 rw [letters_body]
 refine Clo.app (Clo.all fun a ha => ?_) ?_
 ·unfold capW at ha
  split at ha
  ·rw [List.mem_singleton] at ha; subst ha; decide +kernel
  ·split at ha
   ·rw [List.mem_singleton] at ha; subst ha; decide +kernel
   ·cases ha
 ·unfold bodyT
  split
  ·refine Clo.all fun a ha => ?_
   rcases List.mem_cons.1 ha with rfl | ha
   ·decide +kernel
   ·rcases List.mem_append.1 ha with ha | ha
    ·obtain ⟨c, hc, rfl⟩ := List.mem_map.1 ha
     obtain ⟨x, hx, rfl⟩ := List.mem_map.1 hc
     exact ok_one (low_az x (h.kind x hx))
    ·rw [List.mem_singleton] at ha; subst ha; decide +kernel
  ·split
   ·unfold Clo
    rw [List.singleton_append, frmF, if_neg (by rintro (h | ⟨h, _⟩) <;> revert h <;> decide +kernel), frmF, if_neg (by
     rintro (h | ⟨_, h⟩)
     ·rw [haz] at h; cases h
     ·revert h; decide +kernel), frmF]
    simp
   ·rename_i hr
    have hr' : resB ⟨(T.map lowB).toArray⟩ = false := by simpa using hr
    rw [List.nil_append]
    refine Clo.one ?_
    unfold okW
    rw [haz, decide_eq_false (noRes hr' (by decide +kernel)), decide_eq_false (noRes hr' (by decide +kernel))]
    rfl
theorem num9 {D : List Nat} (h : ∀ d ∈ D, d < 10) : numL D < 10 ^ D.length := by
 have key : ∀ (D : List Nat) (n m : Nat), (∀ d ∈ D, d < 10) → n < 10 ^ m → D.foldl (fun n d => 10 * n + d) n < 10 ^ (m + D.length) := by
  intro D
  induction D with
  | nil => intro n m _ h; simpa using h
  | cons d t ih =>
   intro n m hd hn
   have h1 := hd d (by simp)
   have := ih (10 * n + d) (m + 1) (fun x hx => hd x (by simp [hx])) (by rw [Nat.pow_succ]; omega)
   rw [List.foldl_cons, List.length_cons, show m + (t.length + 1) = m + 1 + t.length by omega]
   exact this
 have := key D 0 0 h (by decide)
 rwa [Nat.zero_add] at this
theorem clo_digits {l : List Gl} (h : ∀ x ∈ l, kindL x = 3) (dg : Bool) : Clo (digitsL l dg) := by
 have hd : ∀ d ∈ digL l, d < 10 := by
  have := digs_lt h
  unfold digT at this
  intro d hd
  refine this d ?_
  unfold digL at hd
  rw [List.map_map]
  exact hd
 have hl : (digL l).length = l.length := by unfold digL; rw [List.length_map]
 unfold digitsL
 split
 ·refine Clo.all fun a ha => ?_
  rcases List.mem_cons.1 ha with rfl | ha
  ·decide +kernel
  ·obtain ⟨d, hd1, ha⟩ := List.mem_flatMap.1 ha
   have := hd d hd1
   exact ok_numW (by omega) a ha
 ·rename_i hc
  have h9 : l.length ≤ 9 := by
   rcases Nat.lt_or_ge 9 l.length with h | h
   ·exact absurd (.inr (.inl h)) hc
   ·exact h
  have := num9 hd
  have hp : 10 ^ (digL l).length ≤ 10 ^ 9 := Nat.pow_le_pow_right (by decide) (by omega)
  exact Clo.all (ok_numW (by omega))
theorem clo_spoken {g : Gl} {t : List Gl} {rep : Int} {sp dg : Bool} : Clo (spokenL (pcL (g :: t) rep) sp dg) := by
 have hpc := pc_cons g t rep
 by_cases hk : kindL g = 1 ∨ kindL g = 2
 ·obtain ⟨h1, h2⟩ := pc_ltr (t := t) (rep := rep) hk
  rw [hpc] at h1 h2 ⊢
  rw [spokenL_ltr hk, lettersL_T (fun x hx => by rcases (h2 x hx).1 with h | h <;> omega)]
  exact clo_letters h1 sp
 ·by_cases h3 : kindL g = 3
  ·have h2 := pc_dig (t := t) (rep := rep) h3
   rw [hpc] at h2 ⊢
   rw [spokenL_dig h3]
   exact clo_digits (fun x hx => (h2 x hx).1) dg
  ·have h0 : kindL g = 0 := by
    have : kindL g ≤ 3 := by
     unfold kindL
     split
     ·unfold kindB; repeat' split
      all_goals omega
     ·omega
    omega
   rcases pc_oth (t := t) (rep := rep) h0 with e | ⟨n, hn, hn2, e, _⟩
   ·rw [e, spokenL_one h0]
    exact Clo.all (ok_single g)
   ·rw [e]
    obtain ⟨m, rfl⟩ : ∃ m, n = m + 1 := ⟨n - 1, by omega⟩
    rw [List.replicate_succ, spokenL_many h0 (by intro e; have := congrArg List.length e; simp at this; omega)]
    refine Clo.app (Clo.app (Clo.all (ok_numW (by simp; omega))) (Clo.one (by decide +kernel))) (Clo.all (ok_single g))
theorem clo_pre (q : Spk) (g : Gl) (w0 : ByteArray) : Clo (preL q g w0) := by
 unfold preL
 repeat' split
 all_goals first | exact Clo.nil | exact Clo.one (ok_sty _) | exact Clo.one (by decide +kernel)
theorem clo_from (S : Setts) : ∀ (n : Nat) (q : Spk) (rest : List Gl), rest.length ≤ n → Clo q.out → Clo (wordsFrom S rest.length q rest).out
 | n, q, [], _, h => by simpa [wordsFrom] using h
 | 0, q, g :: t, hn, _ => by simp at hn
 | n + 1, q, g :: t, hn, h => by
  have hp := pieceL_pos (g := g) (t := t) S.rep
  have hd : ((g :: t).drop (pieceL (g :: t) S.rep)).length ≤ n := by
   rw [List.length_drop]
   rw [List.length_cons] at hn ⊢
   omega
  rw [wordsFrom_cons]
  split
  ·exact clo_from S n _ _ hd h
  ·refine clo_from S n _ _ hd ?_
   show Clo (sayL q S (pcL (g :: t) S.rep)).out
   rw [sayL_pc]
   exact Clo.app (Clo.app h (clo_pre q g _)) clo_spoken
theorem clo_words (l : List Gl) (S : Setts) : frmF false (spokenWords l S) = some false := clo_from S l.length _ l (Nat.le_refl _) Clo.nil
end Go.Proofs.YtejjfiipghcifaaGreatDoor
namespace Go.Proofs.YtejjfiipghcifaaGreatDoor
open Go.RowKit
set_option maxRecDepth 20000
theorem sz_wb (j : Nat) (hj : j < 32) : (wb j).size ≤ 1000 := by
 have : ∀ k : Fin 32, (wb k.val).size ≤ 1000 := by decide +kernel
 exact this ⟨j, hj⟩
theorem sz_nb (j : Nat) (hj : j < 32) : (nb j).size ≤ 1000 := by
 have : ∀ k : Fin 32, (nb k.val).size ≤ 1000 := by decide +kernel
 exact this ⟨j, hj⟩
theorem sz_sty (i : Nat) : (styB i).size ≤ 1000 := by
 unfold styB
 split <;> decide +kernel
theorem sz_words {n : Int} (h1 : -999999999 ≤ n) (h2 : n ≤ 999999999) : ∀ a ∈ (wordsL n).map wb, a.size ≤ 1000 := by
 intro a ha
 obtain ⟨i, hi, rfl⟩ := List.mem_map.1 ha
 exact sz_wb i (sg_words_lt n h1 h2 i hi)
theorem sz_numW {n : Nat} (h : n ≤ 999999999) : ∀ a ∈ numW n, a.size ≤ 1000 := sz_words (by omega) (by omega)
theorem sz_spell (r : Int) : ∀ a ∈ spellL r, a.size ≤ 1000 := by
 intro a ha
 unfold spellL at ha
 split at ha
 ·rename_i i hi
  rw [List.mem_singleton] at ha
  subst ha
  exact sz_nb i (sIdxI_some hi).1
 ·split at ha
  ·rename_i hc
   have hr := char_range hc
   rcases List.mem_cons.1 ha with rfl | ha
   ·decide +kernel
   ·exact sz_words (by omega) (by omega) a ha
  ·cases ha
theorem sz_single (g : Gl) : ∀ a ∈ singleL g, a.size ≤ 1000 := by
 intro a ha
 unfold singleL at ha
 split at ha
 ·rw [List.mem_singleton] at ha
  subst ha
  decide +kernel
 ·rw [List.mem_flatMap] at ha
  obtain ⟨r, _, ha⟩ := ha
  exact sz_spell _ a ha
theorem bd_single {g : Gl} (h : g.text.size ≤ 40) : (singleL g).length ≤ 1281 := by
 have h1 := @singleL_len g
 have h2 := charsL_len g.text
 omega
theorem sz_letters {l : List Gl} (hl : l.length ≤ 60) (sp : Bool) : ∀ a ∈ lettersL l sp, a.size ≤ 1000 := by
 have hlow : (lowL l).length = l.length := by unfold lowL; rw [List.length_map]
 intro a ha
 unfold lettersL at ha
 rcases List.mem_append.1 ha with ha | ha
 ·split at ha
  ·rw [List.mem_singleton] at ha; subst ha; decide +kernel
  ·split at ha
   ·rw [List.mem_singleton] at ha; subst ha; decide +kernel
   ·cases ha
 ·split at ha
  ·rcases List.mem_append.1 ha with ha | ha
   ·rcases List.mem_cons.1 ha with rfl | ha
    ·decide +kernel
    ·obtain ⟨c, hc, rfl⟩ := List.mem_map.1 ha
     exact (by decide : 1 ≤ 1000)
   ·rw [List.mem_singleton] at ha; subst ha; decide +kernel
  ·rcases List.mem_append.1 ha with ha | ha
   ·split at ha
    ·rw [List.mem_singleton] at ha; subst ha; decide +kernel
    ·cases ha
   ·rw [List.mem_singleton] at ha
    subst ha
    show (List.toArray _).size ≤ _
    rw [List.size_toArray]
    omega
theorem bd_letters {l : List Gl} (hl : l.length ≤ 60) (sp : Bool) : (lettersL l sp).length ≤ 1300 := by
 have hlow : (lowL l).length = l.length := by unfold lowL; rw [List.length_map]
 unfold lettersL
 simp only [List.length_append]
 (repeat' split) <;> simp only [List.length_append, List.length_cons, List.length_nil, List.length_map] <;> omega
theorem bd_digits {l : List Gl} (hl : l.length ≤ 60) (dg : Bool) : (digitsL l dg).length ≤ 1300 := by
 rw [digitsL_T]
 unfold digitsT
 split
 ·have := catW_len (digT (List.map headB l))
  have h5 : (digT (List.map headB l)).length ≤ 60 := by unfold digT; rw [List.length_map, List.length_map]; exact hl
  rw [List.length_cons]
  omega
 ·have := numW_len (numL (digT (List.map headB l)))
  omega
theorem sz_digits {l : List Gl} (h : ∀ x ∈ l, kindL x = 3) (dg : Bool) : ∀ a ∈ digitsL l dg, a.size ≤ 1000 := by
 have hd : ∀ d ∈ digL l, d < 10 := by
  have := digs_lt h
  unfold digT at this
  intro d hd
  refine this d ?_
  unfold digL at hd
  rw [List.map_map]
  exact hd
 have hl : (digL l).length = l.length := by unfold digL; rw [List.length_map]
 unfold digitsL
 split
 ·intro a ha
  rcases List.mem_cons.1 ha with rfl | ha
  ·decide +kernel
  ·obtain ⟨d, hd1, ha⟩ := List.mem_flatMap.1 ha
   have := hd d hd1
   exact sz_numW (by omega) a ha
 ·rename_i hc
  have h9 : l.length ≤ 9 := by
   rcases Nat.lt_or_ge 9 l.length with h | h
   ·exact absurd (.inr (.inl h)) hc
   ·exact h
  have := num9 hd
  have hp : 10 ^ (digL l).length ≤ 10 ^ 9 := Nat.pow_le_pow_right (by decide) (by omega)
  exact sz_numW (by omega)
theorem bd_spoken {g : Gl} {t : List Gl} {rep : Int} {sp dg : Bool} (hn : (g :: t).length ≤ 60) (hz : ∀ x ∈ g :: t, x.text.size ≤ 40) :
  (spokenL (pcL (g :: t) rep) sp dg).length ≤ 1300 ∧ ∀ a ∈ spokenL (pcL (g :: t) rep) sp dg, a.size ≤ 1000 := by
 have hpc := pc_cons g t rep
 have hpl : (pcL (g :: t) rep).length ≤ 60 := by
  unfold pcL
  rw [List.length_take]
  omega
 have hg := hz g (by simp)
 by_cases hk : kindL g = 1 ∨ kindL g = 2
 ·rw [hpc] at hpl ⊢
  rw [spokenL_ltr hk]
  exact ⟨bd_letters hpl sp, sz_letters hpl sp⟩
 ·by_cases h3 : kindL g = 3
  ·have h2 := pc_dig (t := t) (rep := rep) h3
   rw [hpc] at h2 hpl ⊢
   rw [spokenL_dig h3]
   exact ⟨bd_digits hpl dg, sz_digits (fun x hx => (h2 x hx).1) dg⟩
  ·have h0 : kindL g = 0 := by
    have := kindL_le g
    omega
   have hs := bd_single hg
   rcases pc_oth (t := t) (rep := rep) h0 with e | ⟨n, hn, hn2, e, _⟩
   ·rw [e, spokenL_one h0]
    exact ⟨by omega, sz_single g⟩
   ·rw [e]
    obtain ⟨m, rfl⟩ : ∃ m, n = m + 1 := ⟨n - 1, by omega⟩
    rw [List.replicate_succ, spokenL_many h0 (by intro e; have := congrArg List.length e; simp at this; omega)]
    have hw := numW_len ((List.replicate m g).length + 1)
    refine ⟨by simp only [List.length_append, List.length_cons, List.length_nil]; omega, fun a ha => ?_⟩
    rcases List.mem_append.1 ha with ha | ha
    ·rcases List.mem_append.1 ha with ha | ha
     ·exact sz_numW (by simp; omega) a ha
     ·rw [List.mem_singleton] at ha; subst ha; decide +kernel
    ·exact sz_single g a ha
theorem sz_pre (q : Spk) (g : Gl) (w0 : ByteArray) : ∀ a ∈ preL q g w0, a.size ≤ 1000 := by
 unfold preL
 intro a ha
 (repeat' split at ha) <;> first | (cases ha; done) | (rw [List.mem_singleton] at ha; subst ha; first | exact sz_sty _ | decide +kernel)
theorem bd_from (S : Setts) : ∀ (n : Nat) (q : Spk) (rest : List Gl), rest.length ≤ n → rest.length ≤ 60 → (∀ x ∈ rest, x.text.size ≤ 40) → (∀ s ∈ q.out, s.size ≤ 1000) →
  (wordsFrom S rest.length q rest).out.length ≤ q.out.length + 1301 * rest.length ∧ ∀ s ∈ (wordsFrom S rest.length q rest).out, s.size ≤ 1000
 | n, q, [], _, _, _, h => by
  rw [show (wordsFrom S ([] : List Gl).length q []) = q from rfl]
  exact ⟨by simp, h⟩
 | 0, q, g :: t, hn, _, _, _ => by simp at hn
 | n + 1, q, g :: t, hn, h6, hz, h => by
  have hp := pieceL_pos (g := g) (t := t) S.rep
  have hdl : ((g :: t).drop (pieceL (g :: t) S.rep)).length = (g :: t).length - pieceL (g :: t) S.rep := List.length_drop
  have hc : (g :: t).length = t.length + 1 := List.length_cons
  have hzd : ∀ x ∈ (g :: t).drop (pieceL (g :: t) S.rep), x.text.size ≤ 40 := fun x hx => hz x (List.mem_of_mem_drop hx)
  rw [wordsFrom_cons]
  split
  ·have := bd_from S n { q with silent := true } _ (by omega) (by omega) hzd h
   exact ⟨by have h1 := this.1; simp only at h1; omega, this.2⟩
  ·have hb := bd_spoken (rep := S.rep) (sp := S.spell) (dg := S.digits) h6 hz
   have hq : (sayL q S (pcL (g :: t) S.rep)).out = q.out ++ preL q g ((spokenL (pcL (g :: t) S.rep) S.spell S.digits).headD ⟨#[]⟩) ++ spokenL (pcL (g :: t) S.rep) S.spell S.digits := by rw [sayL_pc]
   have hpre := preL_len q g ((spokenL (pcL (g :: t) S.rep) S.spell S.digits).headD ⟨#[]⟩)
   have hql : (sayL q S (pcL (g :: t) S.rep)).out.length ≤ q.out.length + 1301 := by
    rw [hq, List.length_append, List.length_append]
    have := hb.1
    omega
   have := bd_from S n (sayL q S (pcL (g :: t) S.rep)) _ (by omega) (by omega) hzd (by
    rw [hq]
    intro s hs
    rcases List.mem_append.1 hs with hs | hs
    ·rcases List.mem_append.1 hs with hs | hs
     ·exact h s hs
     ·exact sz_pre _ _ _ s hs
    ·exact hb.2 s hs)
   exact ⟨Nat.le_trans this.1 (by omega), this.2⟩
theorem words_bounds (l : List Gl) (S : Setts) (hn : l.length ≤ 60) (hz : ∀ x ∈ l, x.text.size ≤ 40) : (spokenWords l S).length ≤ 100000 ∧ ∀ s ∈ spokenWords l S, s.size ≤ 1000 := by
 have := bd_from S l.length ⟨[], 0, 0, false⟩ l (Nat.le_refl _) hn hz (fun s hs => by cases hs)
 refine ⟨?_, this.2⟩
 have h1 := this.1
 simp only [List.length_nil] at h1
 show (wordsFrom S l.length ⟨[], 0, 0, false⟩ l).out.length ≤ _
 omega
end Go.Proofs.YtejjfiipghcifaaGreatDoor
