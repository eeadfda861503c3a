/- Joined texts: Pa1, PaC, PlP, Pa2, Pa3. -/
import Derived.Test.YtholajadbbdcmaaGreatDoorQAA
import Derived.Test.YtholajadbbdcmaaGreatDoorQAB
import Derived.Test.YtholajadbbdcmaaGreatDoorQAC
import Derived.Test.YtholajadbbdcmaaGreatDoorQAD
import Derived.Test.YtholajadbbdcmaaGreatDoorQAE
import Derived.Test.YtholajadbbdcmaaGreatDoorQAF
import Derived.Test.YtholajadbbdcmaaGreatDoorQAG
import Derived.Test.YtholajadbbdcmaaGreatDoorQAH
import Derived.Test.YtholajadbbdcmaaGreatDoorQAL
import Derived.Test.YtholajadbbdcmaaGreatDoorQAQ
import Derived.Test.YtholajadbbdcmaaGreatDoorQAT
set_option linter.unusedVariables false
set_option linter.unusedSimpArgs false
set_option linter.unnecessarySimpa false
namespace Go.Proofs.YtholajadbbdcmaaGreatDoor
open Go.RowKit
set_option maxRecDepth 20000
def parC (nb : Nat) (v u : Value) (st : Int) (j : Bool) : Array Value := #[.map (some nb), v, u, .int .i64 st, .bool j]
def PaS (w : World) (g nb : Nat) (p : Prs) : Prop :=
 ∃ A n c A2 c2, n ≤ c ∧ c ≤ maxLen ∧ Blk w g 204 (parC nb (.slice A n c) (.slice A2 p.out.length c2) p.style p.joins) ∧ Rd w g 1 A n (sv p.words) ∧ w.ownsRow (g + 1) 89 3 (.slice A2 p.out.length c2) p.out.length (encGs p.out)
theorem PaS.lt {w : World} {g nb : Nat} {p : Prs} (h : PaS w g nb p) : g < w.heap.size := by
 obtain ⟨A, n, c, A2, c2, _, _, h, _⟩ := h
 exact h.lt
theorem PaS.below {w w' : World} {g nb : Nat} {p : Prs} (h : PaS w g nb p) (hb : Below w.heap.size w w') : PaS w' g nb p := by
 have hl := h.lt
 obtain ⟨A, n, c, A2, c2, h1, h2, h3, h4, h5⟩ := h
 exact ⟨A, n, c, A2, c2, h1, h2, h3.below hb hl, h4.below (hb.mono (Nat.le_of_lt hl)), own_below h5 hb⟩
def PaK (p : Prs) : Prop := (∀ s ∈ p.words, s.size ≤ 1000) ∧ p.out.length + 2000 * p.words.length ≤ 1000000000 ∧ (∀ x ∈ p.out, x.text.size + 8 * p.words.length ≤ 4000000)
theorem PaK.len {p : Prs} (h : PaK p) : p.words.length ≤ 500000 := by have := h.2.1; omega
theorem PaK.sz {p : Prs} (h : PaK p) : ∀ s ∈ p.words, s.size ≤ maxLen := fun s hs => Nat.le_trans (h.1 s hs) (by decide)
def PaR (g nb : Nat) (p : Prs) (o : Option Prs) (w : World) (e : Ending) (w' : World) : Prop :=
 Below g w w' ∧ match o with
 | some q => e = .returned (.bool true) ∧ PaS w' g nb q
 | none => e = .returned (.bool false) ∧ PaS w' g nb p ∧ Below w.heap.size w w'
set_option maxHeartbeats 2000000 in
theorem next_ (p : Prs) (g nb : Nat) (w : World) (h : PaS w g nb p) : Calls Tryz.prog 189 #[.pointer (some ⟨g, 0, none⟩)] w (Gives (.string (p.words.headD ⟨#[]⟩)) w) := by
 obtain ⟨A, n, c, A2, c2, h1, h2, h3, h4, h5⟩ := h
 have C1 := h3.cell 1
 simp only [parC, List.getElem?_toArray, List.getElem?_cons_zero, List.getElem?_cons_succ] at C1
 obtain ⟨W, O, S, J⟩ := p
 dsimp only at *
 cases W with
 | nil =>
  obtain rfl : n = 0 := by have := h4.1; simp [sv] at this; omega
  rw [show ([] : List ByteArray).headD ⟨#[]⟩ = ⟨#[]⟩ from rfl]
  clear h1 h2 h3 h4 h5
  go_enter Tryz.func189, Tryz.ntmps189
  go_wp2
  go_ret
  exact ⟨rfl, Below.refl _ _⟩
 | cons s t =>
  have hn : 0 < n := by have := h4.1; simp [sv] at this; omega
  obtain ⟨b, o, rfl, hb, hc⟩ := h4.at_ hn
  have hc' : w.cell? ⟨b, o, none⟩ = some (.string s) := hc
  rw [List.headD_cons]
  clear h1 h2 h3 h4 h5 hc
  go_enter Tryz.func189, Tryz.ntmps189
  go_wp2
  go_ret
  exact ⟨rfl, Below.refl _ _⟩
set_option maxHeartbeats 2000000 in
theorem take_ (p : Prs) (k : Nat) (hk : k ≤ p.words.length) (g nb : Nat) (w : World) (h : PaS w g nb p) :
  Calls Tryz.prog 190 #[.pointer (some ⟨g, 0, none⟩), .int .i64 k] w fun e w' => e = .returned (.tuple #[]) ∧ PaS w' g nb ⟨p.words.drop k, p.out, p.style, p.joins⟩ ∧ Below g w w' := by
 obtain ⟨A, n, c, A2, c2, h1, h2, h3, h4, h5⟩ := h
 have C1 := h3.cell 1
 have F1 := h3.frozen 1
 simp only [parC, List.getElem?_toArray, List.getElem?_cons_zero, List.getElem?_cons_succ] at C1
 have hn : p.words.length = n := by have := h4.1; simp [sv] at this; omega
 have hkn : k ≤ n := by omega
 have hc63 : c ≤ 9223372036854775807 := by unfold maxLen at h2; omega
 have HF : Hid (∀ A' N C, Rd w g 1 A' N (sv (p.words.drop k)) → N ≤ C → C ≤ maxLen → PaS (w.setCell ⟨g, 1, none⟩ (.slice A' N C)) g nb ⟨p.words.drop k, p.out, p.style, p.joins⟩) := Lib.hid fun A' N C hr hN hC =>
  ⟨A', N, C, A2, c2, hN, hC, by have := h3.set_ 1 (.slice A' N C); simpa [parC] using this, hr.below (show Below g w (w.setCell ⟨g, 1, none⟩ (.slice A' N C)) from (Below.refl g w).setCell (Nat.le_refl g) _), own_set h5 (Nat.lt_succ_self _) _⟩
 have HRd : Hid (Rd w g 1 (if c = k then A else A.map (·.add (k * 1))) (n - k) (sv (p.words.drop k))) := Lib.hid (by
  have := h4.cut hkn h1
  rwa [show (sv p.words).drop (k * 1) = sv (p.words.drop k) by simp [sv]] at this)
 have hcm := h2
 clear h2 h3 h4 h5 hn hk
 by_cases hck : c = k
 ·subst hck
  rw [if_pos rfl] at HRd
  obtain rfl : n = c := by omega
  rw [Nat.sub_self] at HRd
  have HG := Lib.hid (HF.out _ _ 0 HRd.out (by omega) (by omega))
  clear HF HRd
  go_enter Tryz.func190, Tryz.ntmps190
  go_wp2
  go_end0
  exact ⟨rfl, HG.out, (Below.refl g w).setCell (Nat.le_refl g) _⟩
 ·rw [if_neg hck] at HRd
  have HG := Lib.hid (HF.out _ _ (c - k) HRd.out (by omega) (by omega))
  clear HF HRd
  rw [Nat.mul_one] at HG
  go_enter Tryz.func190, Tryz.ntmps190
  go_wp2
  go_end0
  exact ⟨rfl, HG.out, (Below.refl g w).setCell (Nat.le_refl g) _⟩
def PaK2 (p : Prs) : Prop := PaK p ∧ p.words.length ≤ 400000
theorem charW_prefix {l : List ByteArray} {x : Int × Nat} (h : charW l = some x) : prefixL l = none := by
 cases hp : prefixL l with
 | none => rfl
 | some y =>
  obtain ⟨n, k⟩ := y
  obtain ⟨hk0, hkl, _, hnum, _⟩ := prefixL_some hp
  obtain ⟨h1, h2, hw, _⟩ := number_some hnum
  cases l with
  | nil => cases h
  | cons a t =>
   obtain ⟨m, rfl⟩ : ∃ m, k = m + 1 := ⟨k - 1, by omega⟩
   rw [List.take_succ_cons] at hw
   cases hws : wordsL n with
   | nil => rw [hws] at hw; cases hw
   | cons j u =>
    rw [hws, List.map_cons] at hw
    injection hw with hw _
    have hj := sg_words_lt n h1 h2 j (by rw [hws]; simp)
    rw [← hw, char_none_wb hj] at h
    cases h
theorem encN_len (r : Nat) : (encN r).length ≤ 4 := by
 unfold encN
 repeat' split
 all_goals simp
theorem encB_size (r : Nat) : (encB r).size ≤ 4 := by
 unfold encB
 show (List.toArray _).size ≤ _
 rw [List.size_toArray, List.length_map]
 exact encN_len r
theorem textG_len (j : Bool) (st : Int) (s : ByteArray) : (textG j st s).length ≤ s.size + 1 := by
 have h : s.data.toList.length = s.size := by simp
 unfold textG
 rw [List.length_append, List.length_map, h]
 split <;> simp <;> omega
theorem textG_one {j : Bool} {st : Int} {s : ByteArray} : ∀ x ∈ textG j st s, x.text.size = 1 := by
 intro x hx
 unfold textG at hx
 rcases List.mem_append.1 hx with hx | hx
 ·split at hx
  ·rw [List.mem_singleton] at hx; subst hx; rfl
  ·cases hx
 ·obtain ⟨c, _, rfl⟩ := List.mem_map.1 hx
  rfl
theorem PaK2.text {p : Prs} (h : PaK2 p) {s : ByteArray} {k : Nat} (hk : 0 < k) (hkl : k ≤ p.words.length) (hs : s.size + 1 ≤ 2000 * k) : PaK2 (textL p s k) := by
 obtain ⟨⟨h1, h2, h3⟩, h4⟩ := h
 have hl : (p.words.drop k).length = p.words.length - k := List.length_drop
 have ht := textG_len p.joins p.style s
 refine ⟨⟨fun x hx => h1 x (List.mem_of_mem_drop hx), ?_, fun x hx => ?_⟩, ?_⟩
 ·show (p.out ++ textG p.joins p.style s).length + 2000 * (p.words.drop k).length ≤ _
  rw [List.length_append, hl]
  omega
 ·show _ + 8 * (p.words.drop k).length ≤ _
  rw [hl]
  rcases List.mem_append.1 hx with hx | hx
  ·have := h3 x hx; omega
  ·have := textG_one x hx; omega
 ·show (p.words.drop k).length ≤ _
  omega
theorem attach_size {s : ByteArray} {r : Int} (h : ((attachC s r).2 == 0) = true) : (attachC s r).1.size ≤ s.size + 4 := by
 unfold attachC at *
 split at h
 ·rename_i hc
  exact absurd (beq_iff_eq.1 h) hc
 ·split at h
  ·exact absurd (beq_iff_eq.1 h) (by decide)
  ·split at h
   ·exact absurd (beq_iff_eq.1 h) (by decide)
   ·rename_i h1 h2 h3
    rw [if_neg h1, if_neg h2, if_neg h3, ByteArray.size_append]
    have := encB_size r.toNat
    show s.size + _ ≤ _
    omega
theorem PaK2.add {p : Prs} (h : PaK2 p) {r : Int} {times n : Nat} (ht : times ≤ 132) (hn : 0 < n) (hnl : n ≤ p.words.length) (ha : (addL p.out p.style r times).1 = true) : PaK2 ⟨p.words.drop n, (addL p.out p.style r times).2, p.style, false⟩ := by
 obtain ⟨⟨h1, h2, h3⟩, h4⟩ := h
 have hl : (p.words.drop n).length = p.words.length - n := List.length_drop
 have key : (addL p.out p.style r times).2.length ≤ p.out.length + 132 ∧ ∀ x ∈ (addL p.out p.style r times).2, x.text.size + 8 * p.words.length ≤ 4000008 := by
  unfold addL at *
  split at ha
  ·cases ha
  ·split at ha
   ·split at ha
    ·cases ha
    ·rename_i hw1 hw2 hw3
     rw [if_neg hw1, if_pos hw2, if_neg hw3]
     cases hg : p.out.getLast? with
     | none => rw [hg] at ha; cases ha
     | some g =>
      rw [hg] at ha
      simp only at ha ⊢
      have hz := attach_size ha
      have hne : p.out ≠ [] := by rintro e; rw [e] at hg; cases hg
      have hgm : g ∈ p.out := by
       rw [List.getLast?_eq_some_getLast hne] at hg
       injection hg with hg
       rw [← hg]
       exact List.getLast_mem hne
      have := h3 g hgm
      refine ⟨by rw [List.length_append, List.length_dropLast, List.length_singleton]; omega, fun x hx => ?_⟩
      rcases List.mem_append.1 hx with hx | hx
      ·have := h3 x (List.dropLast_subset _ hx); omega
      ·rw [List.mem_singleton] at hx
       subst hx
       show (attachC g.text r).1.size + _ ≤ _
       omega
   ·rename_i hw1 hw2
    rw [if_neg hw1, if_neg hw2]
    refine ⟨by simp only [List.length_append, List.length_replicate]; omega, fun x hx => ?_⟩
    rcases List.mem_append.1 hx with hx | hx
    ·have := h3 x hx; omega
    ·have := List.eq_of_mem_replicate hx
     subst this
     have := encB_size r.toNat
     show (encB r.toNat).size + _ ≤ _
     omega
 refine ⟨⟨fun x hx => h1 x (List.mem_of_mem_drop hx), ?_, fun x hx => ?_⟩, ?_⟩
 ·show (addL p.out p.style r times).2.length + 2000 * (p.words.drop n).length ≤ _
  rw [hl]
  have := key.1
  omega
 ·show _ + 8 * (p.words.drop n).length ≤ _
  rw [hl]
  have := key.2 x hx
  omega
 ·show (p.words.drop n).length ≤ _
  omega
theorem litL_sz {l : List ByteArray} {s : ByteArray} {n : Nat} (h : litL l = some (s, n)) (hsz : ∀ s ∈ l, s.size ≤ 1000) : s.size + 1 ≤ 2000 * n ∧ 0 < n ∧ n ≤ l.length := by
 cases l with
 | nil => cases h
 | cons a t =>
  rw [litL] at h
  split at h
  ·rename_i hc
   simp only [Option.some.injEq, Prod.mk.injEq] at h
   obtain ⟨rfl, rfl⟩ := h
   cases t with
   | nil => exact absurd hc.2 (by decide +kernel)
   | cons d t' => have := hsz d (by simp); exact ⟨by rw [List.headD_cons]; omega, by omega, by simp⟩
  ·split at h
   ·simp only [Option.some.injEq, Prod.mk.injEq] at h
    obtain ⟨rfl, rfl⟩ := h
    have := hsz a (by simp)
    exact ⟨by omega, by omega, by simp⟩
   ·split at h
    ·unfold spelledL at h
     split at h
     ·cases h
     ·split at h
      ·rename_i he
       simp only [Option.some.injEq, Prod.mk.injEq] at h
       obtain ⟨rfl, rfl⟩ := h
       have hk : (t.takeWhile oneB).length < t.length := by
        rcases Nat.lt_or_ge (t.takeWhile oneB).length t.length with h | h
        ·exact h
        ·rw [List.getElem?_eq_none h] at he; cases he
       have hall : ∀ x ∈ t.takeWhile oneB, oneB x = true := fun x hx => List.all_eq_true.1 (List.all_takeWhile (l := t) (p := oneB)) x hx
       have hlen : ∀ T : List ByteArray, (∀ x ∈ T, oneB x = true) → (T.flatMap fun s => s.data.toList).length = T.length := by
        intro T
        induction T with
        | nil => intro _; rfl
        | cons x T ih =>
         intro hall
         have hx := hall x (by simp)
         unfold oneB at hx
         rw [Bool.and_eq_true, decide_eq_true_eq] at hx
         rw [List.flatMap_cons, List.length_append, List.length_cons, ih fun y hy => hall y (by simp [hy])]
         have : x.data.toList.length = x.size := by simp
         omega
       have hT := hlen _ hall
       refine ⟨?_, by omega, by rw [List.length_cons]; omega⟩
       show (List.toArray _).size + 1 ≤ _
       rw [List.size_toArray, hT]
       omega
      ·cases h
    ·cases h
theorem raiseL_size (s : ByteArray) (n : Nat) : (raiseL s n).size = s.size := by
 unfold raiseL
 show (List.toArray _).size = _
 rw [List.size_toArray, List.length_append, List.length_map, ← List.length_append, List.take_append_drop]
 simp
theorem dgs_len (t : List ByteArray) : (dgsL t).length ≤ t.length := by
 unfold dgsL
 rw [List.length_map]
 exact (List.takeWhile_sublist _).length_le
theorem decT_le : ∀ (k n : Nat), n < 10 ^ (k + 1) → (decT n).length ≤ k + 1
 | 0, n, h => by
  rw [decT, dif_pos (by simpa using h)]
  simp
 | k + 1, n, h => by
  rw [decT]
  split
  ·simp
  ·rw [List.length_append, List.length_singleton]
   have := decT_le k (n / 10) (by rw [Nat.pow_succ] at h; omega)
   omega
theorem PaK2.part {p q : Prs} (hK : PaK2 p) (h : partL p = some q) : PaK2 q := by
 have hK0 := hK
 obtain ⟨⟨hw1, hw2, hw3⟩, hw4⟩ := hK0
 have hdrop : ∀ {W : List ByteArray} {a st j}, p.words = a :: W → PaK2 ⟨W, p.out, st, j⟩ := by
  intro W a st j e
  rw [e, List.length_cons] at hw2 hw4
  refine ⟨⟨fun x hx => hw1 x (by rw [e]; simp [hx]), ?_, fun x hx => ?_⟩, ?_⟩
  ·show p.out.length + 2000 * W.length ≤ _
   omega
  ·show _ + 8 * W.length ≤ _
   have := hw3 x hx
   rw [e, List.length_cons] at this
   omega
  ·show W.length ≤ _
   omega
 unfold partL at h
 cases h1 : styledL p with
 | some q' =>
  rw [h1, some_or] at h
  obtain rfl : q' = q := by injection h
  unfold styledL at h1
  split at h1
  ·cases h1
  ·rename_i a t hw
   split at h1
   ·injection h1 with h1; subst h1; exact hdrop hw
   ·split at h1
    ·injection h1 with h1; subst h1; exact hdrop hw
    ·cases h1
 | none =>
  rw [h1, no_or] at h
  cases h2 : wordL p with
  | some q' =>
   rw [h2, some_or] at h
   obtain rfl : q' = q := by injection h
   unfold wordL at h2
   split at h2
   ·cases h2
   ·rename_i a t hw
    have ht : ∀ s ∈ t, s.size ≤ 1000 := fun s hs => hw1 s (by rw [hw]; simp [hs])
    have hat : ∀ s ∈ a :: t, s.size ≤ 1000 := fun s hs => hw1 s (by rw [hw]; exact hs)
    split at h2
    ·rw [Option.map_eq_some_iff] at h2
     obtain ⟨⟨s, n⟩, hl, rfl⟩ := h2
     obtain ⟨a1, a2, a3⟩ := litL_sz hl ht
     exact hK.text (by omega) (by rw [hw, List.length_cons]; omega) (by rw [raiseL_size]; omega)
    ·split at h2
     ·rw [Option.map_eq_some_iff] at h2
      obtain ⟨⟨s, n⟩, hl, rfl⟩ := h2
      obtain ⟨a1, a2, a3⟩ := litL_sz hl ht
      exact hK.text (by omega) (by rw [hw, List.length_cons]; omega) (by rw [raiseL_size]; omega)
     ·rw [Option.map_eq_some_iff] at h2
      obtain ⟨⟨s, n⟩, hl, rfl⟩ := h2
      obtain ⟨a1, a2, a3⟩ := litL_sz hl hat
      exact hK.text a2 (by rw [hw]; exact a3) a1
  | none =>
   rw [h2, no_or] at h
   cases h3 : figL p with
   | some q' =>
    rw [h3, some_or] at h
    obtain rfl : q' = q := by injection h
    unfold figL at h3
    split at h3
    ·cases h3
    ·rename_i a t hw
     split at h3
     ·injection h3 with h3
      subst h3
      have := dgs_len t
      refine hK.text (by omega) (by rw [hw, List.length_cons]; omega) ?_
      unfold dgStr
      show (List.toArray _).size + 1 ≤ _
      rw [List.size_toArray, List.length_map]
      omega
     ·cases h3
   | none =>
    rw [h3, no_or] at h
    cases h4 : signL p with
    | some q' =>
     rw [h4, some_or] at h
     obtain rfl : q' = q := by injection h
     unfold signL at h4
     split at h4
     ·cases h4
     ·rename_i r n hc
      obtain ⟨a, b, _⟩ := charW_pos hc
      split at h4
      ·rename_i hadd
       injection h4 with h4
       subst h4
       exact hK.add (by omega) a b hadd
      ·cases h4
    | none =>
     rw [h4, no_or] at h
     unfold amtL at h
     split at h
     ·cases h
     ·rename_i n k hk
      obtain ⟨a, b, _, hnum, _⟩ := prefixL_some hk
      obtain ⟨hn1, hn2, _⟩ := number_some hnum
      split at h
      ·cases h
      ·split at h
       ·rename_i hT
        split at h
        ·cases h
        ·rename_i r m hc
         obtain ⟨a2, b2, _⟩ := charW_pos hc
         rw [List.length_drop] at b2
         split at h
         ·rename_i hadd
          injection h with h
          subst h
          exact hK.add (by omega) (by omega) (by omega) hadd.2.2
         ·cases h
       ·injection h with h
        subst h
        refine hK.text a b ?_
        have := decT_le 8 n.toNat (by omega)
        show (List.toArray _).size + 1 ≤ _
        rw [List.size_toArray]
        omega
def LowW (w : ByteArray) : Prop := azB w = true ∧ resB w = false
theorem LowW.bytes {w : ByteArray} (h : LowW w) : ∃ c T, w.data.toList = c :: T ∧ ∀ x ∈ c :: T, 97 ≤ x.toNat ∧ x.toNat ≤ 122 := by
 have h1 := h.1
 unfold azB at h1
 simp only [Bool.and_eq_true, Bool.not_eq_true', List.isEmpty_eq_false_iff, List.all_eq_true, decide_eq_true_eq] at h1
 obtain ⟨h2, h3⟩ := h1
 match hd : w.data.toList with
 | [] => exact absurd hd h2
 | c :: T => exact ⟨c, T, rfl, by rw [← hd]; exact h3⟩
theorem par_put {X w4 : World} {g nb n N c0 c4 : Nat} {A0 A4 : Option Addr} {v : Value} {st : Int} {j : Bool} {ys : List Value}
  (hX : Blk X g 204 (parC nb v (.slice A0 n c0) st j)) (hown4 : w4.ownsRow (g + 1) 89 3 (.slice A4 N c4) N ys) (hbel4 : Below (g + 1) X w4) :
  Blk (w4.setCell ⟨g, 2, none⟩ (.slice A4 N c4)) g 204 (parC nb v (.slice A4 N c4) st j) ∧ (w4.setCell ⟨g, 2, none⟩ (.slice A4 N c4)).ownsRow (g + 1) 89 3 (.slice A4 N c4) N ys ∧ Below g X (w4.setCell ⟨g, 2, none⟩ (.slice A4 N c4)) := by
 have hb4 := hX.below hbel4 (Nat.lt_succ_self g)
 refine ⟨?_, own_set hown4 (Nat.lt_succ_self g) _, (hbel4.mono (Nat.le_succ g)).setCell (Nat.le_refl _) _⟩
 have := hb4.set_ 2 (.slice A4 N c4)
 simpa [parC] using this
def PaT (w : World) (g nb : Nat) (v : Value) (st : Int) (j : Bool) (O : List Gl) (wx : World) : Prop :=
 ∃ A c, Blk wx g 204 (parC nb v (.slice A O.length c) st j) ∧ wx.ownsRow (g + 1) 89 3 (.slice A O.length c) O.length (encGs O) ∧ Below g w wx
theorem PaT.put {w X w4 : World} {g nb n N c0 c4 : Nat} {A0 A4 : Option Addr} {v : Value} {st : Int} {j : Bool} {ys : List Value} {O : List Gl}
  (hX : Blk X g 204 (parC nb v (.slice A0 n c0) st j)) (tX : Below g w X) (hown4 : w4.ownsRow (g + 1) 89 3 (.slice A4 N c4) N ys) (hbel4 : Below (g + 1) X w4) (hN : O.length = N) (hy : encGs O = ys) :
  PaT w g nb v st j O (w4.setCell ⟨g, 2, none⟩ (.slice A4 N c4)) := by
 subst hN hy
 obtain ⟨h1, h2, h3⟩ := par_put hX hown4 hbel4
 exact ⟨A4, c4, h1, h2, tX.trans h3⟩
theorem one_byteP (s : ByteArray) (j : Nat) (h : j < s.size) : s.extract j (j + 1) = ⟨#[s[j]]⟩ := by
 apply ByteArray.ext
 apply Array.toList_inj.1
 rw [ByteArray.data_extract]
 simp only [Array.toList_extract, List.extract_eq_take_drop]
 rw [Nat.add_sub_cancel_left, List.drop_eq_getElem_cons (by simpa using h)]
 rfl
theorem text_snoc (O : List Gl) (st : Int) (T : List UInt8) (j : Nat) (h : j < T.length) : O ++ (T.take (j + 1)).map (chG st) = (O ++ (T.take j).map (chG st)) ++ [chG st T[j]] := by
 rw [(List.take_append_getElem h).symm, List.map_append, ← List.append_assoc]
 rfl
theorem encGs_one (g : Gl) : encGs [g] = encG g := by simp [encGs]
set_option maxHeartbeats 8000000 in
theorem text_ (p : Prs) (s : ByteArray) (hs : s.size ≤ 1000000) (ho : p.out.length ≤ 1000000000) (g nb : Nat) (w : World) (h : PaS w g nb p) :
  Calls Tryz.prog 193 #[.pointer (some ⟨g, 0, none⟩), .string s] w fun e w' => e = .returned (.tuple #[]) ∧ PaS w' g nb ⟨p.words, p.out ++ textG p.joins p.style s, p.style, true⟩ ∧ Below g w w' := by
 have hgl := h.lt
 obtain ⟨A, n, c, A2, c2, h1, h2, h3, h4, h5⟩ := h
 obtain ⟨W, O, st, J⟩ := p
 dsimp only at *
 have HF : Hid (∀ w', PaT w g nb (.slice A n c) st true (O ++ textG J st s) w' → PaS w' g nb ⟨W, O ++ textG J st s, st, true⟩ ∧ Below g w w') := Lib.hid fun w' ⟨A', c', a1, a2, a3⟩ =>
  ⟨⟨A, n, c, A', c', h1, h2, a1, h4.below a3, a2⟩, a3⟩
 obtain ⟨O1, hO1⟩ : ∃ x, x = O ++ (if J = true then [chG st 32] else []) := ⟨_, rfl⟩
 have hO1l : O1.length ≤ O.length + 1 := by
  rw [hO1, List.length_append]
  split <;> simp
 have HE : Hid (O ++ textG J st s = O1 ++ (s.data.toList.take s.data.toList.length).map (chG st)) := Lib.hid (by rw [hO1, textG, List.take_length, List.append_assoc])
 have HT : Hid (∀ j (h : j < s.size), O1 ++ (s.data.toList.take (j + 1)).map (chG st) = (O1 ++ (s.data.toList.take j).map (chG st)) ++ [chG st s[j]]) := Lib.hid fun j h => text_snoc O1 st _ j (by simpa using h)
 have HX : Hid (∀ j (h : j < s.size), s.extract j (j + 1) = ⟨#[s[j]]⟩) := Lib.hid (one_byteP s)
 have HL : Hid (∀ j, (O1 ++ (s.data.toList.take j).map (chG st)).length ≤ 1000000001 + j) := Lib.hid fun j => by
  rw [List.length_append, List.length_map, List.length_take]
  omega
 have HZ : Hid (s.data.toList.length = s.size) := Lib.hid (by simp)
 have H0 : Hid (O1 = O1 ++ (s.data.toList.take 0).map (chG st)) := Lib.hid (by simp)
 generalize O ++ textG J st s = Q at *
 generalize hv : Value.slice A n c = v at *
 have C2 := h3.cell 2
 have C3 := h3.cell 3
 have C4 := h3.cell 4
 have F2 := h3.frozen 2
 simp only [parC, List.getElem?_toArray, List.getElem?_cons_zero, List.getElem?_cons_succ] at C2 C3 C4
 have tw : Below g w w := Below.refl _ _
 clear h1 h2 h4 hv
 cases J with
 | false =>
  rw [if_neg (by simp), List.append_nil] at hO1
  have hpa : PaT w g nb v st false O1 w := by subst hO1; exact ⟨A2, c2, h3, h5, tw⟩
  clear hO1 hO1l
  go_enter Tryz.func193, Tryz.ntmps193
  go_upto_block 0 with fail
  go_upto_region 2 with fail
  refine wp_fg (PaT w g nb v st false O1) hpa ?_
  clear hpa C2 C3 C4 F2 tw
  clear h3 h5
  intro wx hpx
  go_wp2
  go_loopw [25] (fun x wr => ∃ j : Nat, j ≤ s.size ∧ x = .int .i64 j ∧ PaT w g nb v st false (O1 ++ (s.data.toList.take j).map (chG st)) wr) (fun x _ => s.size - (intOf x).toNat)
  case atStart => exact ⟨0, Nat.zero_le _, rfl, by rw [← H0.out]; exact hpx⟩
  case round =>
   clear hpx
   obtain ⟨j, hj, rfl, A6, c6, Bx, ox, tx⟩ := hrel
   by_cases hlt : j < s.size
   ·have hx := HX.out j hlt
    have HTj := Lib.hid (HT.out j hlt)
    have hlen := HL.out j
    have HQl : Hid ((O1 ++ (s.data.toList.take (j + 1)).map (chG st)).length = (O1 ++ (s.data.toList.take j).map (chG st)).length + 1) := Lib.hid (by rw [HTj.out, List.length_append]; rfl)
    have HQs : Hid (encGs (O1 ++ (s.data.toList.take (j + 1)).map (chG st)) = encGs (O1 ++ (s.data.toList.take j).map (chG st)) ++ encG (chG st s[j])) := Lib.hid (by rw [HTj.out, encGs_app, encGs_one])
    clear HTj HT HX HE H0 HF HL
    generalize O1 ++ (s.data.toList.take j).map (chG st) = OJ at *
    generalize s[j] = cj at *
    have C2 := Bx.cell 2
    have C3 := Bx.cell 3
    have F2 := Bx.frozen 2
    simp only [parC, List.getElem?_toArray, List.getElem?_cons_zero, List.getElem?_cons_succ] at C2 C3
    have hown := (World.ownsRow.alloc (own_below ox (Below.refl wr.heap.size wr).drew) (.cells (encG (chG st cj)).toArray 89))
    have BS := (Blk.alloc Bx (.cells (encG (chG st cj)).toArray 89)).drew
    have hgr : g < wr.heap.size := Bx.lt
    have hwj : IntKind.i64.wrap ((j : Int) + 1) = (j : Int) + 1 := by rw [IntKind.wrap_i64]; omega
    have hj0 : (0 : Int) ≤ (j : Int) + 1 := by omega
    have hj1 : (j : Int) + 1 ≤ s.size := by omega
    have hj2 : (j : Int) ≤ (j : Int) + 1 := by omega
    have hj3 : ((j : Int) + 1).toNat = j + 1 := by omega
    have tX : Below g w (wr.alloc (.cells (encG (chG st cj)).toArray 89)).drew := (tx.alloc (Nat.le_of_lt hgr) _).drew
    go_upto_region 5 with fail
    go_region_law (refine app_step rfl _ _ _ rfl elt_gl ((g + 1)) _ rfl (hown) _ _ rfl ((rd_built (xs := encG (chG st cj)) rfl rfl)) (rfl) (by omega) (by omega) (by first | (simp; done) | (simp; omega) | omega) ?_; intro A4 c4 w4 hown4 hbel4 hgr4 hat4; have z4 := hbel4.size; (try simp only [Nat.zero_add, List.nil_append] at hown4); have B4 := (Blk.alloc (Blk.drew Bx) (.cells (encG (chG st cj)).toArray 89)).below hbel4 (Nat.lt_succ_self g); have c42 := B4.cell 2; have f42 := B4.frozen 2; simp only [parC, List.getElem?_toArray, List.getElem?_cons_zero, List.getElem?_cons_succ] at c42)
    all_goals go_wp2
    all_goals exact ⟨⟨j + 1, by omega, by go_num, PaT.put BS tX hown4 hbel4 HQl.out HQs.out⟩, by simp [intOf]; omega⟩
   ·obtain rfl : j = s.size := by omega
    have HQ : Hid (Q = O1 ++ (s.data.toList.take s.size).map (chG st)) := Lib.hid (by rw [HE.out, HZ.out])
    rw [← HQ.out] at Bx ox
    clear HT HX HE H0 HL HQ
    have F4 := Bx.frozen 4
    have C4 := Bx.cell 4
    simp only [parC, List.getElem?_toArray, List.getElem?_cons_zero, List.getElem?_cons_succ] at C4
    go_wp2
    go_end0
    have h4' := HF.out (wr.setCell ⟨g, 4, none⟩ (.bool true)) ⟨A6, c6, by have := Bx.set_ 4 (.bool true); simpa [parC] using this, own_set ox (Nat.lt_succ_self g) _, tx.setCell (Nat.le_refl g) _⟩
    exact ⟨rfl, h4'.1, h4'.2⟩
 | true =>
  rw [if_pos rfl] at hO1
  have hO1l' : O1.length = O.length + 1 := by rw [hO1]; simp
  have hO1s : encGs O1 = encGs O ++ encG (chG st 32) := by rw [hO1, encGs_app, encGs_one]
  replace hO1 := Lib.hid hO1
  go_enter Tryz.func193, Tryz.ntmps193
  go_upto_block 0 with fail
  go_cut [] (fun wx => PaT w g nb v st true O1 wx)
  case first =>
   clear HE HT HX HL HZ H0 HF
   go_upto_region 1 with fail
   have hown := (World.ownsRow.alloc (own_below h5 (Below.refl w.heap.size w).drew) (.cells (encG (chG st 32)).toArray 89))
   have BS := (Blk.alloc h3 (.cells (encG (chG st 32)).toArray 89)).drew
   go_region_law (refine app_step rfl _ _ _ rfl elt_gl ((g + 1)) _ rfl (hown) _ _ rfl ((rd_built (xs := encG (chG st 32)) rfl rfl)) (rfl) (by omega) (by omega) (by first | (simp; done) | (simp; omega) | omega) ?_; intro A4 c4 w4 hown4 hbel4 hgr4 hat4; have z4 := hbel4.size; (try simp only [Nat.zero_add, List.nil_append] at hown4); have B4 := (Blk.alloc (Blk.drew h3) (.cells (encG (chG st 32)).toArray 89)).below hbel4 (Nat.lt_succ_self g); have c42 := B4.cell 2; have f42 := B4.frozen 2; simp only [parC, List.getElem?_toArray, List.getElem?_cons_zero, List.getElem?_cons_succ] at c42)
   all_goals go_wp2
   all_goals go_meet
   all_goals exact PaT.put BS ((tw.alloc (Nat.le_of_lt hgl) _).drew) hown4 hbel4 hO1l' hO1s
  case rest =>
   clear C2 C3 C4 F2 tw
   clear h3 h5
   have hpx := hcut
   clear hcut
   go_wp2
   go_loopw [25] (fun x wr => ∃ j : Nat, j ≤ s.size ∧ x = .int .i64 j ∧ PaT w g nb v st true (O1 ++ (s.data.toList.take j).map (chG st)) wr) (fun x _ => s.size - (intOf x).toNat)
   case atStart => exact ⟨0, Nat.zero_le _, rfl, by rw [← H0.out]; exact hpx⟩
   case round =>
    clear hpx
    obtain ⟨j, hj, rfl, A6, c6, Bx, ox, tx⟩ := hrel
    by_cases hlt : j < s.size
    ·have hx := HX.out j hlt
     have HTj := Lib.hid (HT.out j hlt)
     have hlen := HL.out j
     have HQl : Hid ((O1 ++ (s.data.toList.take (j + 1)).map (chG st)).length = (O1 ++ (s.data.toList.take j).map (chG st)).length + 1) := Lib.hid (by rw [HTj.out, List.length_append]; rfl)
     have HQs : Hid (encGs (O1 ++ (s.data.toList.take (j + 1)).map (chG st)) = encGs (O1 ++ (s.data.toList.take j).map (chG st)) ++ encG (chG st s[j])) := Lib.hid (by rw [HTj.out, encGs_app, encGs_one])
     clear HTj HT HX HE H0 HF HL
     generalize O1 ++ (s.data.toList.take j).map (chG st) = OJ at *
     generalize s[j] = cj at *
     have C2 := Bx.cell 2
     have C3 := Bx.cell 3
     have F2 := Bx.frozen 2
     simp only [parC, List.getElem?_toArray, List.getElem?_cons_zero, List.getElem?_cons_succ] at C2 C3
     have hown := (World.ownsRow.alloc (own_below ox (Below.refl wr.heap.size wr).drew) (.cells (encG (chG st cj)).toArray 89))
     have BS := (Blk.alloc Bx (.cells (encG (chG st cj)).toArray 89)).drew
     have hgr : g < wr.heap.size := Bx.lt
     have hwj : IntKind.i64.wrap ((j : Int) + 1) = (j : Int) + 1 := by rw [IntKind.wrap_i64]; omega
     have hj0 : (0 : Int) ≤ (j : Int) + 1 := by omega
     have hj1 : (j : Int) + 1 ≤ s.size := by omega
     have hj2 : (j : Int) ≤ (j : Int) + 1 := by omega
     have hj3 : ((j : Int) + 1).toNat = j + 1 := by omega
     have tX : Below g w (wr.alloc (.cells (encG (chG st cj)).toArray 89)).drew := (tx.alloc (Nat.le_of_lt hgr) _).drew
     go_upto_region 5 with fail
     go_region_law (refine app_step rfl _ _ _ rfl elt_gl ((g + 1)) _ rfl (hown) _ _ rfl ((rd_built (xs := encG (chG st cj)) rfl rfl)) (rfl) (by omega) (by omega) (by first | (simp; done) | (simp; omega) | omega) ?_; intro A4 c4 w4 hown4 hbel4 hgr4 hat4; have z4 := hbel4.size; (try simp only [Nat.zero_add, List.nil_append] at hown4); have B4 := (Blk.alloc (Blk.drew Bx) (.cells (encG (chG st cj)).toArray 89)).below hbel4 (Nat.lt_succ_self g); have c42 := B4.cell 2; have f42 := B4.frozen 2; simp only [parC, List.getElem?_toArray, List.getElem?_cons_zero, List.getElem?_cons_succ] at c42)
     all_goals go_wp2
     all_goals exact ⟨⟨j + 1, by omega, by go_num, PaT.put BS tX hown4 hbel4 HQl.out HQs.out⟩, by simp [intOf]; omega⟩
    ·obtain rfl : j = s.size := by omega
     have HQ : Hid (Q = O1 ++ (s.data.toList.take s.size).map (chG st)) := Lib.hid (by rw [HE.out, HZ.out])
     rw [← HQ.out] at Bx ox
     clear HT HX HE H0 HL HQ
     have F4 := Bx.frozen 4
     have C4 := Bx.cell 4
     simp only [parC, List.getElem?_toArray, List.getElem?_cons_zero, List.getElem?_cons_succ] at C4
     go_wp2
     go_end0
     have h4' := HF.out (wr.setCell ⟨g, 4, none⟩ (.bool true)) ⟨A6, c6, by have := Bx.set_ 4 (.bool true); simpa [parC] using this, own_set ox (Nat.lt_succ_self g) _, tx.setCell (Nat.le_refl g) _⟩
     exact ⟨rfl, h4'.1, h4'.2⟩
theorem isEmpty_no' {s : ByteArray} (h : s.size ≠ 0) : s.toList.isEmpty = false := by
 rw [ByteArray.toList_eq, List.isEmpty_eq_false_iff]
 intro e
 have := congrArg List.length e
 exact h (by simpa using this)
def azC (c : UInt8) : Bool := decide (97 ≤ c.toNat) && decide (c.toNat ≤ 122)
set_option maxHeartbeats 2000000 in
theorem plain_ (s : ByteArray) (hs : s.size ≤ 1000000000) (w : World) : Calls Tryz.prog 198 #[.string s] w (Gives (.bool (azB s)) w) := by
 have HF : Hid (azB s = (!(s.data.toList.isEmpty) && (s.data.toList.drop 0).all azC)) := Lib.hid rfl
 have HS : Hid (∀ j (h : j < s.size), (s.data.toList.drop j).all azC = (azC s[j] && (s.data.toList.drop (j + 1)).all azC)) := Lib.hid fun j h => by
  rw [List.drop_eq_getElem_cons (by simpa using h), List.all_cons]
  rfl
 have HE : Hid ((s.data.toList.drop s.size).all azC = true) := Lib.hid (by rw [List.drop_of_length_le (by simp)]; rfl)
 have HZ : Hid (s.size = 0 → s.toList.isEmpty = true ∧ s.data.toList.isEmpty = true) := Lib.hid fun h => by
  have : s.data.toList = [] := List.length_eq_zero_iff.1 (by simpa using h)
  rw [ByteArray.toList_eq, this]
  exact ⟨rfl, rfl⟩
 have HY : Hid (s.size ≠ 0 → s.toList.isEmpty = false ∧ s.data.toList.isEmpty = false) := Lib.hid fun h => by
  refine ⟨isEmpty_no' h, ?_⟩
  rw [List.isEmpty_eq_false_iff]
  intro e
  have := congrArg List.length e
  exact h (by simpa using this)
 generalize azB s = R at *
 go_enter Tryz.func198, Tryz.ntmps198
 go_wp2
 go_loopw [6] (fun x wr => ∃ j : Nat, j ≤ s.size ∧ x = .int .i64 j ∧ Below w.heap.size w wr ∧ Hid (R = (!(s.data.toList.isEmpty) && (s.data.toList.drop j).all azC))) (fun x _ => s.size - (intOf x).toNat)
 case atStart => exact ⟨0, Nat.zero_le _, rfl, Below.refl _ _, HF⟩
 case round =>
  obtain ⟨j, hj, rfl, hbel, HR⟩ := hrel
  by_cases hlt : j < s.size
  ·have HSj := Lib.hid (HS.out j hlt)
   have hb := UInt8.toNat_lt s[j]
   have hne := (HY.out (by omega)).2
   have HN : Hid (azC s[j] = true → R = (!(s.data.toList.isEmpty) && (s.data.toList.drop (j + 1)).all azC)) := Lib.hid fun h => by rw [HR.out, HSj.out, h, Bool.true_and]
   have HM : Hid (azC s[j] = false → R = false) := Lib.hid fun h => by rw [HR.out, HSj.out, h, Bool.false_and, Bool.and_false]
   clear HR HSj HS HE HF HZ HY hne
   unfold azC at HN HM
   generalize hc : s[j] = c at *
   by_cases h1 : c.toNat < 97
   ·have i1 : decide ((c.toNat : Int) < 97) = true := decide_eq_true (by omega)
    have HR2 := Lib.hid (HM.out (by rw [decide_eq_false (by omega)]; rfl))
    go_wp2
    go_ret
    exact ⟨by rw [HR2.out]; rfl, hbel⟩
   ·have i1 : decide ((c.toNat : Int) < 97) = false := decide_eq_false (by omega)
    by_cases h2 : 122 < c.toNat
    ·have HR2 := Lib.hid (HM.out (by rw [decide_eq_true (show 97 ≤ c.toNat by omega), decide_eq_false (by omega)]; rfl))
     go_wp2
     go_ret
     exact ⟨by rw [HR2.out]; rfl, hbel⟩
    ·have HR2 := Lib.hid (HN.out (by rw [decide_eq_true (show 97 ≤ c.toNat by omega), decide_eq_true (show c.toNat ≤ 122 by omega)]; rfl))
     go_wp2
     exact ⟨⟨j + 1, by omega, by go_num, hbel, HR2⟩, by simp [intOf]; omega⟩
  ·obtain rfl : j = s.size := by omega
   have HR2 := Lib.hid (HR.out.trans (by rw [HE.out, Bool.and_true]))
   by_cases h0 : s.size = 0
   ·obtain ⟨e1, e2⟩ := HZ.out h0
    go_wp2
    go_ret
    exact ⟨by rw [HR2.out, e2]; rfl, hbel⟩
   ·obtain ⟨e1, e2⟩ := HY.out h0
    go_wp2
    go_ret
    exact ⟨by rw [HR2.out, e2]; rfl, hbel⟩
end Go.Proofs.YtholajadbbdcmaaGreatDoor
