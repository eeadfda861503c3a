/- Joined texts: StP. -/
import Derived.Test.YtndgcjdiemfngaaGreatDoorQAX
set_option linter.unusedVariables false
set_option linter.unusedSimpArgs false
set_option linter.unnecessarySimpa false
/- The words that are spoken, in plain Lean: the same glyphs in another style. -/
namespace Go.Proofs.YtndgcjdiemfngaaGreatDoor
open Go.RowKit
set_option maxRecDepth 20000
/-- A glyph in a style. -/
def inSt (k : Int) (g : Gl) : Gl := ⟨g.text, g.wide, k⟩
theorem kind_st (k : Int) (g : Gl) : kindL (inSt k g) = kindL g := rfl
theorem runK_st (k : Int) : ∀ (l : List Gl) (m : Nat), runK (l.map (inSt k)) m k = runK (l.map (inSt 0)) m 0
  | [], _ => rfl
  | g :: t, m => by
    rw [List.map_cons, List.map_cons, runK, runK, runK_st k t m, kind_st, kind_st]
    simp [inSt]
theorem inSt_eq (k : Int) (a b : Gl) : (inSt k a = inSt k b) ↔ (inSt 0 a = inSt 0 b) := by simp [inSt]
theorem runE_st (k : Int) (g : Gl) : ∀ (l : List Gl) (m : Nat), runE (l.map (inSt k)) (inSt k g) m = runE (l.map (inSt 0)) (inSt 0 g) m
  | l, 0 => by cases l <;> rfl
  | [], m + 1 => rfl
  | a :: t, m + 1 => by
    rw [List.map_cons, List.map_cons, runE, runE, runE_st k g t m]
    by_cases h : inSt 0 a = inSt 0 g
    · rw [if_pos h, if_pos ((inSt_eq k a g).2 h)]
    · rw [if_neg h, if_neg fun e => h ((inSt_eq k a g).1 e)]
theorem piece_st (k : Int) (l : List Gl) (rep : Int) : pieceL (l.map (inSt k)) rep = pieceL (l.map (inSt 0)) rep := by
  cases l with
  | nil => rfl
  | cons g t =>
    have h1 := fun m => runK_st k (g :: t) m
    have h2 := fun m => runK_st k t m
    have h3 := fun m => runE_st k g t m
    simp only [List.map_cons] at h1 ⊢
    unfold pieceL
    simp only
    rw [kind_st, kind_st, show (inSt k g).style = k from rfl, show (inSt 0 g).style = 0 from rfl, h1, h1, h2, h3]
    rfl
theorem spoken_st (k : Int) (l : List Gl) (sp dg : Bool) : spokenL (l.map (inSt k)) sp dg = spokenL (l.map (inSt 0)) sp dg := by
  have eh : ∀ l : List Gl, (l.map (inSt k)).map headB = (l.map (inSt 0)).map headB := by
    intro l
    rw [List.map_map, List.map_map]
    rfl
  cases l with
  | nil => rfl
  | cons g t =>
    have ef : ((((g :: t).map (inSt k)).filter fun g => kindL g == 2)).length = ((((g :: t).map (inSt 0)).filter fun g => kindL g == 2)).length := by
      rw [List.filter_map, List.filter_map, List.length_map, List.length_map]
      rfl
    have e1 : lettersL ((g :: t).map (inSt k)) sp = lettersL ((g :: t).map (inSt 0)) sp := by
      unfold lettersL
      rw [ef]
      have el : lowL ((g :: t).map (inSt k)) = lowL ((g :: t).map (inSt 0)) := by
        unfold lowL
        rw [List.map_map, List.map_map]
        rfl
      rw [el]
    have e2 : digitsL ((g :: t).map (inSt k)) dg = digitsL ((g :: t).map (inSt 0)) dg := by
      unfold digitsL digL
      rw [List.map_map, List.map_map, List.length_map, List.length_map]
      rfl
    rw [List.map_cons, List.map_cons] at e1 e2
    rw [List.map_cons, List.map_cons]
    unfold spokenL
    simp only
    rw [e1, e2, kind_st, kind_st, List.length_map, List.length_map]
    have e3 : (t.map (inSt k) = []) ↔ (t.map (inSt 0) = []) := by rw [List.map_eq_nil_iff, List.map_eq_nil_iff]
    have e4 : singleL (inSt k g) = singleL (inSt 0 g) := rfl
    rw [e4]
    simp only [e3]
theorem pc_st (k : Int) (l : List Gl) (rep : Int) (sp dg : Bool) : spokenL (pcL (l.map (inSt k)) rep) sp dg = spokenL (pcL (l.map (inSt 0)) rep) sp dg := by
  unfold pcL
  rw [piece_st, ← List.map_take, ← List.map_take, spoken_st]
/-- Two speakers of the same glyphs in two styles. -/
structure Twin (k : Int) (w : ByteArray) (p q : Spk) : Prop where
  out : q.out = w :: p.out
  ne : p.out ≠ []
  p0 : p.style = 0
  qk : q.style = k
  bf : q.before = p.before
  si : q.silent = p.silent
theorem skips_st {k : Int} {w : ByteArray} {p q : Spk} (h : Twin k w p q) (S : Setts) (l : List Gl) (n : Nat) : skipsB q S (l.map (inSt k)) n = skipsB p S (l.map (inSt 0)) n := by
  match l with
  | [] => rfl
  | [a] => rfl
  | a :: b :: t =>
    have e := pc_st k (b :: t) S.rep S.spell S.digits
    unfold pcL at e
    rw [List.map_cons, List.map_cons] at e
    rw [List.map_cons, List.map_cons, List.map_cons, List.map_cons]
    unfold skipsB
    simp only
    rw [e, h.bf, h.qk, h.p0]
    simp only [inSt]
    rfl
theorem say_st {k : Int} {w : ByteArray} {p q : Spk} (h : Twin k w p q) (S : Setts) (g : Gl) (t : List Gl) :
    Twin k w (sayL p S (pcL ((g :: t).map (inSt 0)) S.rep)) (sayL q S (pcL ((g :: t).map (inSt k)) S.rep)) := by
  have e := pc_st k (g :: t) S.rep S.spell S.digits
  rw [List.map_cons, List.map_cons] at e ⊢
  rw [sayL_pc, sayL_pc, e]
  have hpre : preL q (inSt k g) ((spokenL (pcL (inSt 0 g :: t.map (inSt 0)) S.rep) S.spell S.digits).headD ⟨#[]⟩) = preL p (inSt 0 g) ((spokenL (pcL (inSt 0 g :: t.map (inSt 0)) S.rep) S.spell S.digits).headD ⟨#[]⟩) := by
    have hl : q.out.getLastD ⟨#[]⟩ = p.out.getLastD ⟨#[]⟩ := by rw [h.out]; exact last_cons w h.ne _
    have hq : q.out ≠ [] := by rw [h.out]; simp
    unfold preL
    rw [h.qk, h.p0, h.bf, h.si, hl, kind_st, kind_st]
    have hn := h.ne
    simp only [inSt, ne_eq, hq, hn, not_true_eq_false, not_false_eq_true, if_false]
  rw [hpre]
  refine ⟨?_, ?_, rfl, rfl, rfl, rfl⟩
  · simp only
    rw [h.out]
    rfl
  · simp only
    intro e
    have hn := h.ne
    rw [List.append_assoc, List.append_eq_nil_iff] at e
    exact hn e.1
theorem from_st (k : Int) (w : ByteArray) (S : Setts) : ∀ (n : Nat) (p q : Spk) (l : List Gl), l.length ≤ n → Twin k w p q →
    (wordsFrom S (l.map (inSt k)).length q (l.map (inSt k))).out = w :: (wordsFrom S (l.map (inSt 0)).length p (l.map (inSt 0))).out
  | n, p, q, [], _, h => by simpa [wordsFrom] using h.out
  | 0, p, q, g :: t, hn, _ => by simp at hn
  | n + 1, p, q, g :: t, hn, h => by
    have hp := pieceL_pos (g := inSt 0 g) (t := t.map (inSt 0)) S.rep
    have hd : ((g :: t).drop (pieceL ((g :: t).map (inSt 0)) S.rep)).length ≤ n := by
      rw [List.length_drop]
      rw [List.map_cons, List.length_cons] at *
      omega
    have hs := skips_st h S (g :: t) (pieceL ((g :: t).map (inSt 0)) S.rep)
    have hy := say_st h S g t
    unfold pcL at hy
    rw [piece_st k (g :: t)] at hy
    have hpe := piece_st k (g :: t) S.rep
    rw [List.map_cons, List.map_cons] at *
    rw [wordsFrom_cons, wordsFrom_cons, hpe, hs]
    rw [← List.map_cons, ← List.map_cons, ← List.map_drop, ← List.map_drop] at *
    split
    · exact from_st k w S n _ _ _ hd ⟨h.out, h.ne, h.p0, h.qk, h.bf, rfl⟩
    · exact from_st k w S n _ _ _ hd hy
/-- In a style of their own glyphs have the words that they have in the plain style, after the word for this style. -/
theorem styles_words (k : Int) (hk : k ≠ 0) (l : List Gl) (S : Setts) (hl : l ≠ []) (hG : ∀ x ∈ l, GF x) : spokenWords (l.map (inSt k)) S = styB k.toNat :: spokenWords (l.map (inSt 0)) S := by
  cases l with
  | nil => exact absurd rfl hl
  | cons g t =>
    have hp := pieceL_pos (g := inSt 0 g) (t := t.map (inSt 0)) S.rep
    unfold spokenWords
    have hs1 : ∀ (l : List Gl) (n : Nat), skipsB ⟨[], 0, 0, false⟩ S l n = false := by
      intro l n
      match l with
      | [] => rfl
      | [a] => rfl
      | a :: b :: t => unfold skipsB; simp
    have hpe := piece_st k (g :: t) S.rep
    have hT : Twin k (styB k.toNat) (sayL ⟨[], 0, 0, false⟩ S (pcL ((g :: t).map (inSt 0)) S.rep)) (sayL ⟨[], 0, 0, false⟩ S (pcL ((g :: t).map (inSt k)) S.rep)) := by
      have e := pc_st k (g :: t) S.rep S.spell S.digits
      obtain ⟨a, W, ha, _⟩ := spoken_head (g := inSt 0 g) (t := t.map (inSt 0)) (rep := S.rep) (sp := S.spell) (dg := S.digits) (by
        intro x hx
        rw [← List.map_cons] at hx
        obtain ⟨y, hy, rfl⟩ := List.mem_map.1 hx
        exact hG y hy)
      rw [List.map_cons, List.map_cons] at e ⊢
      rw [sayL_pc, sayL_pc, e, ha]
      unfold preL
      refine ⟨?_, ?_, rfl, rfl, rfl, rfl⟩
      · simp [inSt, hk]
      · simp
    unfold pcL at hT
    rw [hpe] at hT
    rw [List.map_cons, List.map_cons] at *
    rw [wordsFrom_cons, wordsFrom_cons, hs1, hs1, if_neg (by simp), if_neg (by simp), hpe]
    rw [← List.map_cons, ← List.map_cons, ← List.map_drop, ← List.map_drop] at *
    exact from_st k _ S _ _ _ _ (Nat.le_refl _) hT
end Go.Proofs.YtndgcjdiemfngaaGreatDoor
