/- Joined texts: Pa1, PaC, PlP, GgP. -/
import Derived.Test.YtejjfiipghcifaaGreatDoorQAG
import Derived.Test.YtejjfiipghcifaaGreatDoorQAH
import Derived.Test.YtejjfiipghcifaaGreatDoorQAM
import Derived.Test.YtejjfiipghcifaaGreatDoorQAQ
import Derived.Test.YtejjfiipghcifaaGreatDoorQAX
set_option linter.unusedVariables false
set_option linter.unusedSimpArgs false
set_option linter.unnecessarySimpa false
namespace Go.Proofs.YtejjfiipghcifaaGreatDoor
open Go.RowKit
set_option maxRecDepth 20000
def parC (nb : Nat) (v u : Value) (st : Int) (j : Bool) : Array Value := #[.map (some nb), v, u, .int .i64 st, .bool j]
def PaS (w : World) (g nb : Nat) (p : Prs) : Prop :=
 ∃ A n c A2 c2, n ≤ c ∧ c ≤ maxLen ∧ Blk w g 134 (parC nb (.slice A n c) (.slice A2 p.out.length c2) p.style p.joins) ∧ Rd w g 1 A n (sv p.words) ∧ w.ownsRow (g + 1) 48 3 (.slice A2 p.out.length c2) p.out.length (encGs p.out)
theorem PaS.lt {w : World} {g nb : Nat} {p : Prs} (h : PaS w g nb p) : g < w.heap.size := by
 obtain ⟨A, n, c, A2, c2, _, _, h, _⟩ := h
 exact h.lt
theorem PaS.below {w w' : World} {g nb : Nat} {p : Prs} (h : PaS w g nb p) (hb : Below w.heap.size w w') : PaS w' g nb p := by
 have hl := h.lt
 obtain ⟨A, n, c, A2, c2, h1, h2, h3, h4, h5⟩ := h
 exact ⟨A, n, c, A2, c2, h1, h2, h3.below hb hl, h4.below (hb.mono (Nat.le_of_lt hl)), own_below h5 hb⟩
def PaK (p : Prs) : Prop := (∀ s ∈ p.words, s.size ≤ 1000) ∧ p.out.length + 2000 * p.words.length ≤ 1000000000 ∧ (∀ x ∈ p.out, x.text.size + 8 * p.words.length ≤ 4000000)
theorem PaK.len {p : Prs} (h : PaK p) : p.words.length ≤ 500000 := by have := h.2.1; omega
theorem PaK.sz {p : Prs} (h : PaK p) : ∀ s ∈ p.words, s.size ≤ maxLen := fun s hs => Nat.le_trans (h.1 s hs) (by decide)
def PaR (g nb : Nat) (p : Prs) (o : Option Prs) (w : World) (e : Ending) (w' : World) : Prop :=
 Below g w w' ∧ match o with
 | some q => e = .returned (.bool true) ∧ PaS w' g nb q
 | none => e = .returned (.bool false) ∧ PaS w' g nb p ∧ Below w.heap.size w w'
set_option maxHeartbeats 2000000 in
theorem next_ (p : Prs) (g nb : Nat) (w : World) (h : PaS w g nb p) : Calls Tryz.prog 169 #[.pointer (some ⟨g, 0, none⟩)] w (Gives (.string (p.words.headD ⟨#[]⟩)) w) := by
 obtain ⟨A, n, c, A2, c2, h1, h2, h3, h4, h5⟩ := h
 have C1 := h3.cell 1
 simp only [parC, List.getElem?_toArray, List.getElem?_cons_zero, List.getElem?_cons_succ] at C1
 obtain ⟨W, O, S, J⟩ := p
 dsimp only at *
 cases W with
 | nil =>
  obtain rfl : n = 0 := by have := h4.1; simp [sv] at this; omega
  rw [show ([] : List ByteArray).headD ⟨#[]⟩ = ⟨#[]⟩ from rfl]
  clear h1 h2 h3 h4 h5
  go_enter Tryz.func169, Tryz.ntmps169
  go_wp2
  go_ret
  exact ⟨rfl, Below.refl _ _⟩
 | cons s t =>
  have hn : 0 < n := by have := h4.1; simp [sv] at this; omega
  obtain ⟨b, o, rfl, hb, hc⟩ := h4.at_ hn
  have hc' : w.cell? ⟨b, o, none⟩ = some (.string s) := hc
  rw [List.headD_cons]
  clear h1 h2 h3 h4 h5 hc
  go_enter Tryz.func169, Tryz.ntmps169
  go_wp2
  go_ret
  exact ⟨rfl, Below.refl _ _⟩
set_option maxHeartbeats 2000000 in
theorem take_ (p : Prs) (k : Nat) (hk : k ≤ p.words.length) (g nb : Nat) (w : World) (h : PaS w g nb p) :
  Calls Tryz.prog 170 #[.pointer (some ⟨g, 0, none⟩), .int .i64 k] w fun e w' => e = .returned (.tuple #[]) ∧ PaS w' g nb ⟨p.words.drop k, p.out, p.style, p.joins⟩ ∧ Below g w w' := by
 obtain ⟨A, n, c, A2, c2, h1, h2, h3, h4, h5⟩ := h
 have C1 := h3.cell 1
 have F1 := h3.frozen 1
 simp only [parC, List.getElem?_toArray, List.getElem?_cons_zero, List.getElem?_cons_succ] at C1
 have hn : p.words.length = n := by have := h4.1; simp [sv] at this; omega
 have hkn : k ≤ n := by omega
 have hc63 : c ≤ 9223372036854775807 := by unfold maxLen at h2; omega
 have HF : Hid (∀ A' N C, Rd w g 1 A' N (sv (p.words.drop k)) → N ≤ C → C ≤ maxLen → PaS (w.setCell ⟨g, 1, none⟩ (.slice A' N C)) g nb ⟨p.words.drop k, p.out, p.style, p.joins⟩) := Lib.hid fun A' N C hr hN hC =>
  ⟨A', N, C, A2, c2, hN, hC, by have := h3.set_ 1 (.slice A' N C); simpa [parC] using this, hr.below (show Below g w (w.setCell ⟨g, 1, none⟩ (.slice A' N C)) from (Below.refl g w).setCell (Nat.le_refl g) _), own_set h5 (Nat.lt_succ_self _) _⟩
 have HRd : Hid (Rd w g 1 (if c = k then A else A.map (·.add (k * 1))) (n - k) (sv (p.words.drop k))) := Lib.hid (by
  have := h4.cut hkn h1
  rwa [show (sv p.words).drop (k * 1) = sv (p.words.drop k) by simp [sv]] at this)
 have hcm := h2
 clear h2 h3 h4 h5 hn hk
 by_cases hck : c = k
 ·subst hck
  rw [if_pos rfl] at HRd
  obtain rfl : n = c := by omega
  rw [Nat.sub_self] at HRd
  have HG := Lib.hid (HF.out _ _ 0 HRd.out (by omega) (by omega))
  clear HF HRd
  go_enter Tryz.func170, Tryz.ntmps170
  go_wp2
  go_end0
  exact ⟨rfl, HG.out, (Below.refl g w).setCell (Nat.le_refl g) _⟩
 ·rw [if_neg hck] at HRd
  have HG := Lib.hid (HF.out _ _ (c - k) HRd.out (by omega) (by omega))
  clear HF HRd
  rw [Nat.mul_one] at HG
  go_enter Tryz.func170, Tryz.ntmps170
  go_wp2
  go_end0
  exact ⟨rfl, HG.out, (Below.refl g w).setCell (Nat.le_refl g) _⟩
end Go.Proofs.YtejjfiipghcifaaGreatDoor
namespace Go.Proofs.YtejjfiipghcifaaGreatDoor
open Go.RowKit
set_option maxRecDepth 20000
def PaK2 (p : Prs) : Prop := PaK p ∧ p.words.length ≤ 400000
theorem charW_prefix {l : List ByteArray} {x : Int × Nat} (h : charW l = some x) : prefixL l = none := by
 cases hp : prefixL l with
 | none => rfl
 | some y =>
  obtain ⟨n, k⟩ := y
  obtain ⟨hk0, hkl, _, hnum, _⟩ := prefixL_some hp
  obtain ⟨h1, h2, hw, _⟩ := number_some hnum
  cases l with
  | nil => cases h
  | cons a t =>
   obtain ⟨m, rfl⟩ : ∃ m, k = m + 1 := ⟨k - 1, by omega⟩
   rw [List.take_succ_cons] at hw
   cases hws : wordsL n with
   | nil => rw [hws] at hw; cases hw
   | cons j u =>
    rw [hws, List.map_cons] at hw
    injection hw with hw _
    have hj := sg_words_lt n h1 h2 j (by rw [hws]; simp)
    rw [← hw, char_none_wb hj] at h
    cases h
theorem encN_len (r : Nat) : (encN r).length ≤ 4 := by
 unfold encN
 repeat' split
 all_goals simp
theorem encB_size (r : Nat) : (encB r).size ≤ 4 := by
 unfold encB
 show (List.toArray _).size ≤ _
 rw [List.size_toArray, List.length_map]
 exact encN_len r
theorem textG_len (j : Bool) (st : Int) (s : ByteArray) : (textG j st s).length ≤ s.size + 1 := by
 have h : s.data.toList.length = s.size := by simp
 unfold textG
 rw [List.length_append, List.length_map, h]
 split <;> simp <;> omega
theorem textG_one {j : Bool} {st : Int} {s : ByteArray} : ∀ x ∈ textG j st s, x.text.size = 1 := by
 intro x hx
 unfold textG at hx
 rcases List.mem_append.1 hx with hx | hx
 ·split at hx
  ·rw [List.mem_singleton] at hx; subst hx; rfl
  ·cases hx
 ·obtain ⟨c, _, rfl⟩ := List.mem_map.1 hx
  rfl
theorem PaK2.text {p : Prs} (h : PaK2 p) {s : ByteArray} {k : Nat} (hk : 0 < k) (hkl : k ≤ p.words.length) (hs : s.size + 1 ≤ 2000 * k) : PaK2 (textL p s k) := by
 obtain ⟨⟨h1, h2, h3⟩, h4⟩ := h
 have hl : (p.words.drop k).length = p.words.length - k := List.length_drop
 have ht := textG_len p.joins p.style s
 refine ⟨⟨fun x hx => h1 x (List.mem_of_mem_drop hx), ?_, fun x hx => ?_⟩, ?_⟩
 ·show (p.out ++ textG p.joins p.style s).length + 2000 * (p.words.drop k).length ≤ _
  rw [List.length_append, hl]
  omega
 ·show _ + 8 * (p.words.drop k).length ≤ _
  rw [hl]
  rcases List.mem_append.1 hx with hx | hx
  ·have := h3 x hx; omega
  ·have := textG_one x hx; omega
 ·show (p.words.drop k).length ≤ _
  omega
theorem attach_size {s : ByteArray} {r : Int} (h : ((attachC s r).2 == 0) = true) : (attachC s r).1.size ≤ s.size + 4 := by
 unfold attachC at *
 split at h
 ·rename_i hc
  exact absurd (beq_iff_eq.1 h) hc
 ·split at h
  ·exact absurd (beq_iff_eq.1 h) (by decide)
  ·split at h
   ·exact absurd (beq_iff_eq.1 h) (by decide)
   ·rename_i h1 h2 h3
    rw [if_neg h1, if_neg h2, if_neg h3, ByteArray.size_append]
    have := encB_size r.toNat
    show s.size + _ ≤ _
    omega
theorem PaK2.add {p : Prs} (h : PaK2 p) {r : Int} {times n : Nat} (ht : times ≤ 132) (hn : 0 < n) (hnl : n ≤ p.words.length) (ha : (addL p.out p.style r times).1 = true) : PaK2 ⟨p.words.drop n, (addL p.out p.style r times).2, p.style, false⟩ := by
 obtain ⟨⟨h1, h2, h3⟩, h4⟩ := h
 have hl : (p.words.drop n).length = p.words.length - n := List.length_drop
 have key : (addL p.out p.style r times).2.length ≤ p.out.length + 132 ∧ ∀ x ∈ (addL p.out p.style r times).2, x.text.size + 8 * p.words.length ≤ 4000008 := by
  unfold addL at *
  split at ha
  ·cases ha
  ·split at ha
   ·split at ha
    ·cases ha
    ·rename_i hw1 hw2 hw3
     rw [if_neg hw1, if_pos hw2, if_neg hw3]
     cases hg : p.out.getLast? with
     | none => rw [hg] at ha; cases ha
     | some g =>
      rw [hg] at ha
      simp only at ha ⊢
      have hz := attach_size ha
      have hne : p.out ≠ [] := by rintro e; rw [e] at hg; cases hg
      have hgm : g ∈ p.out := by
       rw [List.getLast?_eq_some_getLast hne] at hg
       injection hg with hg
       rw [← hg]
       exact List.getLast_mem hne
      have := h3 g hgm
      refine ⟨by rw [List.length_append, List.length_dropLast, List.length_singleton]; omega, fun x hx => ?_⟩
      rcases List.mem_append.1 hx with hx | hx
      ·have := h3 x (List.dropLast_subset _ hx); omega
      ·rw [List.mem_singleton] at hx
       subst hx
       show (attachC g.text r).1.size + _ ≤ _
       omega
   ·rename_i hw1 hw2
    rw [if_neg hw1, if_neg hw2]
    refine ⟨by simp only [List.length_append, List.length_replicate]; omega, fun x hx => ?_⟩
    rcases List.mem_append.1 hx with hx | hx
    ·have := h3 x hx; omega
    ·have := List.eq_of_mem_replicate hx
     subst this
     have := encB_size r.toNat
     show (encB r.toNat).size + _ ≤ _
     omega
 refine ⟨⟨fun x hx => h1 x (List.mem_of_mem_drop hx), ?_, fun x hx => ?_⟩, ?_⟩
 ·show (addL p.out p.style r times).2.length + 2000 * (p.words.drop n).length ≤ _
  rw [hl]
  have := key.1
  omega
 ·show _ + 8 * (p.words.drop n).length ≤ _
  rw [hl]
  have := key.2 x hx
  omega
 ·show (p.words.drop n).length ≤ _
  omega
theorem litL_sz {l : List ByteArray} {s : ByteArray} {n : Nat} (h : litL l = some (s, n)) (hsz : ∀ s ∈ l, s.size ≤ 1000) : s.size + 1 ≤ 2000 * n ∧ 0 < n ∧ n ≤ l.length := by
 cases l with
 | nil => cases h
 | cons a t =>
  rw [litL] at h
  split at h
  ·rename_i hc
   simp only [Option.some.injEq, Prod.mk.injEq] at h
   obtain ⟨rfl, rfl⟩ := h
   cases t with
   | nil => exact absurd hc.2 (by decide +kernel)
   | cons d t' => have := hsz d (by simp); exact ⟨by rw [List.headD_cons]; omega, by omega, by simp⟩
  ·split at h
   ·simp only [Option.some.injEq, Prod.mk.injEq] at h
    obtain ⟨rfl, rfl⟩ := h
    have := hsz a (by simp)
    exact ⟨by omega, by omega, by simp⟩
   ·split at h
    ·unfold spelledL at h
     split at h
     ·cases h
     ·split at h
      ·rename_i he
       simp only [Option.some.injEq, Prod.mk.injEq] at h
       obtain ⟨rfl, rfl⟩ := h
       have hk : (t.takeWhile oneB).length < t.length := by
        rcases Nat.lt_or_ge (t.takeWhile oneB).length t.length with h | h
        ·exact h
        ·rw [List.getElem?_eq_none h] at he; cases he
       have hall : ∀ x ∈ t.takeWhile oneB, oneB x = true := fun x hx => List.all_eq_true.1 (List.all_takeWhile (l := t) (p := oneB)) x hx
       have hlen : ∀ T : List ByteArray, (∀ x ∈ T, oneB x = true) → (T.flatMap fun s => s.data.toList).length = T.length := by
        intro T
        induction T with
        | nil => intro _; rfl
        | cons x T ih =>
         intro hall
         have hx := hall x (by simp)
         unfold oneB at hx
         rw [Bool.and_eq_true, decide_eq_true_eq] at hx
         rw [List.flatMap_cons, List.length_append, List.length_cons, ih fun y hy => hall y (by simp [hy])]
         have : x.data.toList.length = x.size := by simp
         omega
       have hT := hlen _ hall
       refine ⟨?_, by omega, by rw [List.length_cons]; omega⟩
       show (List.toArray _).size + 1 ≤ _
       rw [List.size_toArray, hT]
       omega
      ·cases h
    ·cases h
theorem raiseL_size (s : ByteArray) (n : Nat) : (raiseL s n).size = s.size := by
 unfold raiseL
 show (List.toArray _).size = _
 rw [List.size_toArray, List.length_append, List.length_map, ← List.length_append, List.take_append_drop]
 simp
theorem dgs_len (t : List ByteArray) : (dgsL t).length ≤ t.length := by
 unfold dgsL
 rw [List.length_map]
 exact (List.takeWhile_sublist _).length_le
theorem decT_le : ∀ (k n : Nat), n < 10 ^ (k + 1) → (decT n).length ≤ k + 1
 | 0, n, h => by
  rw [decT, dif_pos (by simpa using h)]
  simp
 | k + 1, n, h => by
  rw [decT]
  split
  ·simp
  ·rw [List.length_append, List.length_singleton]
   have := decT_le k (n / 10) (by rw [Nat.pow_succ] at h; omega)
   omega
theorem PaK2.part {p q : Prs} (hK : PaK2 p) (h : partL p = some q) : PaK2 q := by
 have hK0 := hK
 obtain ⟨⟨hw1, hw2, hw3⟩, hw4⟩ := hK0
 have hdrop : ∀ {W : List ByteArray} {a st j}, p.words = a :: W → PaK2 ⟨W, p.out, st, j⟩ := by
  intro W a st j e
  rw [e, List.length_cons] at hw2 hw4
  refine ⟨⟨fun x hx => hw1 x (by rw [e]; simp [hx]), ?_, fun x hx => ?_⟩, ?_⟩
  ·show p.out.length + 2000 * W.length ≤ _
   omega
  ·show _ + 8 * W.length ≤ _
   have := hw3 x hx
   rw [e, List.length_cons] at this
   omega
  ·show W.length ≤ _
   omega
 unfold partL at h
 cases h1 : styledL p with
 | some q' =>
  rw [h1, some_or] at h
  obtain rfl : q' = q := by injection h
  unfold styledL at h1
  split at h1
  ·cases h1
  ·rename_i a t hw
   split at h1
   ·injection h1 with h1; subst h1; exact hdrop hw
   ·split at h1
    ·injection h1 with h1; subst h1; exact hdrop hw
    ·cases h1
 | none =>
  rw [h1, no_or] at h
  cases h2 : wordL p with
  | some q' =>
   rw [h2, some_or] at h
   obtain rfl : q' = q := by injection h
   unfold wordL at h2
   split at h2
   ·cases h2
   ·rename_i a t hw
    have ht : ∀ s ∈ t, s.size ≤ 1000 := fun s hs => hw1 s (by rw [hw]; simp [hs])
    have hat : ∀ s ∈ a :: t, s.size ≤ 1000 := fun s hs => hw1 s (by rw [hw]; exact hs)
    split at h2
    ·rw [Option.map_eq_some_iff] at h2
     obtain ⟨⟨s, n⟩, hl, rfl⟩ := h2
     obtain ⟨a1, a2, a3⟩ := litL_sz hl ht
     exact hK.text (by omega) (by rw [hw, List.length_cons]; omega) (by rw [raiseL_size]; omega)
    ·split at h2
     ·rw [Option.map_eq_some_iff] at h2
      obtain ⟨⟨s, n⟩, hl, rfl⟩ := h2
      obtain ⟨a1, a2, a3⟩ := litL_sz hl ht
      exact hK.text (by omega) (by rw [hw, List.length_cons]; omega) (by rw [raiseL_size]; omega)
     ·rw [Option.map_eq_some_iff] at h2
      obtain ⟨⟨s, n⟩, hl, rfl⟩ := h2
      obtain ⟨a1, a2, a3⟩ := litL_sz hl hat
      exact hK.text a2 (by rw [hw]; exact a3) a1
  | none =>
   rw [h2, no_or] at h
   cases h3 : figL p with
   | some q' =>
    rw [h3, some_or] at h
    obtain rfl : q' = q := by injection h
    unfold figL at h3
    split at h3
    ·cases h3
    ·rename_i a t hw
     split at h3
     ·injection h3 with h3
      subst h3
      have := dgs_len t
      refine hK.text (by omega) (by rw [hw, List.length_cons]; omega) ?_
      unfold dgStr
      show (List.toArray _).size + 1 ≤ _
      rw [List.size_toArray, List.length_map]
      omega
     ·cases h3
   | none =>
    rw [h3, no_or] at h
    cases h4 : signL p with
    | some q' =>
     rw [h4, some_or] at h
     obtain rfl : q' = q := by injection h
     unfold signL at h4
     split at h4
     ·cases h4
     ·rename_i r n hc
      obtain ⟨a, b, _⟩ := charW_pos hc
      split at h4
      ·rename_i hadd
       injection h4 with h4
       subst h4
       exact hK.add (by omega) a b hadd
      ·cases h4
    | none =>
     rw [h4, no_or] at h
     unfold amtL at h
     split at h
     ·cases h
     ·rename_i n k hk
      obtain ⟨a, b, _, hnum, _⟩ := prefixL_some hk
      obtain ⟨hn1, hn2, _⟩ := number_some hnum
      split at h
      ·cases h
      ·split at h
       ·rename_i hT
        split at h
        ·cases h
        ·rename_i r m hc
         obtain ⟨a2, b2, _⟩ := charW_pos hc
         rw [List.length_drop] at b2
         split at h
         ·rename_i hadd
          injection h with h
          subst h
          exact hK.add (by omega) (by omega) (by omega) hadd.2.2
         ·cases h
       ·injection h with h
        subst h
        refine hK.text a b ?_
        have := decT_le 8 n.toNat (by omega)
        show (List.toArray _).size + 1 ≤ _
        rw [List.size_toArray]
        omega
end Go.Proofs.YtejjfiipghcifaaGreatDoor
namespace Go.Proofs.YtejjfiipghcifaaGreatDoor
open Go.RowKit
set_option maxRecDepth 20000
def joinB : List ByteArray → List UInt8
 | [] => []
 | [w] => w.data.toList
 | w :: v :: t => w.data.toList ++ 32 :: joinB (v :: t)
def plainG (s : List UInt8) : List Gl := s.map (chG 0)
def LowW (w : ByteArray) : Prop := azB w = true ∧ resB w = false
theorem LowW.bytes {w : ByteArray} (h : LowW w) : ∃ c T, w.data.toList = c :: T ∧ ∀ x ∈ c :: T, 97 ≤ x.toNat ∧ x.toNat ≤ 122 := by
 have h1 := h.1
 unfold azB at h1
 simp only [Bool.and_eq_true, Bool.not_eq_true', List.isEmpty_eq_false_iff, List.all_eq_true, decide_eq_true_eq] at h1
 obtain ⟨h2, h3⟩ := h1
 match hd : w.data.toList with
 | [] => exact absurd hd h2
 | c :: T => exact ⟨c, T, rfl, by rw [← hd]; exact h3⟩
theorem kind_az {x : UInt8} (h : 97 ≤ x.toNat ∧ x.toNat ≤ 122) : kindB x.toNat = 1 := if_pos h
theorem kind_ch {x : UInt8} (h : 97 ≤ x.toNat ∧ x.toNat ≤ 122) : kindL (chG 0 x) = 1 := by
 show kindB x.toNat = 1
 exact kind_az h
theorem runK_az (R : List Gl) : ∀ (T : List UInt8), (∀ x ∈ T, 97 ≤ x.toNat ∧ x.toNat ≤ 122) → runK (T.map (chG 0) ++ R) 1 0 = T.length + runK R 1 0
 | [], _ => by simp
 | a :: t, h => by
  rw [List.map_cons, List.cons_append, runK, if_pos ⟨kind_ch (h a (by simp)), rfl⟩, runK_az R t fun x hx => h x (by simp [hx])]
  simp only [List.length_cons]
  omega
theorem plain_from (S : Setts) (hsp : S.spell = false) : ∀ (l : List ByteArray) (q : Spk), (∀ w ∈ l, LowW w) → q.style = 0 → ((q.out = [] ∧ q.before = 0) ∨ (q.before = 1 ∧ q.silent = true)) →
  (wordsFrom S (plainG (joinB l)).length q (plainG (joinB l))).out = q.out ++ l
 | [], q, _, _, _ => by simp [joinB, plainG, wordsFrom]
 | w :: t, q, h, hst, hq => by
  obtain ⟨c, T, hw, haz⟩ := (h w (by simp)).bytes
  have hwT : w = ⟨(c :: T).toArray⟩ := ByteArray.ext (Array.toList_inj.1 (by rw [hw]))
  obtain ⟨R, hR, hR0, hRt⟩ : ∃ R : List UInt8, joinB (w :: t) = c :: (T ++ R) ∧ runK (R.map (chG 0)) 1 0 = 0 ∧ ((t = [] ∧ R = []) ∨ ∃ v t', t = v :: t' ∧ R = 32 :: joinB (v :: t')) := by
   cases t with
   | nil => exact ⟨[], by rw [joinB, hw]; simp, rfl, .inl ⟨rfl, rfl⟩⟩
   | cons v t' => exact ⟨32 :: joinB (v :: t'), by rw [joinB, hw]; rfl, by rw [List.map_cons, runK, if_neg]; rintro ⟨h, _⟩; revert h; decide, .inr ⟨v, t', rfl, rfl⟩⟩
  have hG : plainG (joinB (w :: t)) = chG 0 c :: (T.map (chG 0) ++ R.map (chG 0)) := by rw [hR]; simp [plainG]
  have hkc : kindL (chG 0 c) = 1 := kind_ch (haz c (by simp))
  have hpl : pieceL (chG 0 c :: (T.map (chG 0) ++ R.map (chG 0))) S.rep = T.length + 1 := by
   have := runK_az (R.map (chG 0)) (c :: T) haz
   rw [hR0, List.map_cons, List.cons_append, List.length_cons] at this
   rw [pieceL_ltr (.inl hkc), hkc]
   exact this
  have hpc : pcL (chG 0 c :: (T.map (chG 0) ++ R.map (chG 0))) S.rep = (c :: T).map (chG 0) := by
   unfold pcL
   rw [hpl, List.take_succ_cons, List.take_left' (by simp)]
   rfl
  have hdr : (chG 0 c :: (T.map (chG 0) ++ R.map (chG 0))).drop (T.length + 1) = R.map (chG 0) := by
   rw [List.drop_succ_cons, List.drop_left' (by simp)]
  have hskip : skipsB q S (chG 0 c :: (T.map (chG 0) ++ R.map (chG 0))) (T.length + 1) = false := by
   cases hs : skipsB q S (chG 0 c :: (T.map (chG 0) ++ R.map (chG 0))) (T.length + 1) with
   | false => rfl
   | true =>
    obtain ⟨_, _, _, _, h32, _⟩ := skip_form hs
    have h32' : c = 32 := by simpa [chG] using h32
    have := (haz c (by simp)).1
    rw [h32'] at this
    revert this
    decide
  have hspk : spokenL ((c :: T).map (chG 0)) S.spell S.digits = [w] := by
   rw [List.map_cons, spokenL_ltr (.inl hkc), ← List.map_cons, lettersL_T (by
    intro x hx
    obtain ⟨y, hy, rfl⟩ := List.mem_map.1 hx
    rw [kind_ch (haz y hy)]
    decide)]
   have e : ((c :: T).map (chG 0)).map headB = c :: T := by
    rw [List.map_map]
    exact List.map_id _
   have hk1 : ∀ x ∈ c :: T, kindB x.toNat = 1 := fun x hx => kind_az (haz x hx)
   rw [e, letters_body, caps_none hk1, low_all hk1, hsp]
   have := (h w (by simp)).2
   rw [hwT] at this ⊢
   unfold bodyT capW
   rw [this]
   rfl
  have hpre : ∀ w0, preL q (chG 0 c) w0 = [] := by
   intro w0
   unfold preL
   rw [hkc, hst]
   rcases hq with ⟨h1, h2⟩ | ⟨h1, h2⟩
   ·simp [h1, h2, chG]
   ·simp [h1, h2, chG]
  rw [hG, wordsFrom_cons, hpl, hskip, if_neg (by simp), hdr]
  have hsay : sayL q S ((chG 0 c :: (T.map (chG 0) ++ R.map (chG 0))).take (T.length + 1)) = ⟨q.out ++ [w], 0, 1, false⟩ := by
   have := sayL_pc (q := q) (S := S) (g := chG 0 c) (t := T.map (chG 0) ++ R.map (chG 0))
   rw [hpre, hpc, hspk, List.append_nil, hkc] at this
   rw [← hpl]
   unfold pcL at hpc
   rw [hpc]
   exact this
  rw [hsay]
  rcases hRt with ⟨rfl, rfl⟩ | ⟨v, t', rfl, rfl⟩
  ·simp [wordsFrom]
  ·obtain ⟨d, U, hv, hdz⟩ := (h v (by simp)).bytes
   obtain ⟨R2, hR2⟩ : ∃ R2, joinB (v :: t') = d :: R2 := by
    cases t' with
    | nil => exact ⟨U, by rw [joinB, hv]⟩
    | cons x y => exact ⟨U ++ 32 :: joinB (x :: y), by rw [joinB, hv]; rfl⟩
   have hkd : kindL (chG 0 d) = 1 := kind_ch (hdz d (by simp))
   have hk0 : kindL (chG 0 32) = 0 := by decide
   have hrun : runE (chG 0 d :: R2.map (chG 0)) (chG 0 32) 131 = 0 := by
    rw [runE, if_neg]
    intro e
    rw [e, hk0] at hkd
    cases hkd
   have hp1 : pieceL (chG 0 32 :: chG 0 d :: R2.map (chG 0)) S.rep = 1 := by
    rw [pieceL_oth hk0, hrun]
    split <;> rfl
   have hs1 : skipsB ⟨q.out ++ [w], 0, 1, false⟩ S (chG 0 32 :: chG 0 d :: R2.map (chG 0)) 1 = true := by
    unfold skipsB
    simp only [hkd]
    simp [chG]
   have ih := plain_from S hsp (v :: t') ⟨q.out ++ [w], 0, 1, true⟩ (fun x hx => h x (by simp at hx ⊢; rcases hx with hx | hx <;> simp [hx])) rfl (.inr ⟨rfl, rfl⟩)
   unfold plainG at ih
   rw [List.map_cons, hR2, List.map_cons, wordsFrom_cons, hp1, if_pos hs1, List.drop_succ_cons, List.drop_zero]
   rw [hR2, List.map_cons] at ih
   rw [ih]
   simp
theorem plain_words (S : Setts) (hsp : S.spell = false) (l : List ByteArray) (h : ∀ w ∈ l, LowW w) : spokenWords (plainG (joinB l)) S = l := by
 have := plain_from S hsp l ⟨[], 0, 0, false⟩ h rfl (.inl ⟨rfl, rfl⟩)
 unfold spokenWords
 rw [this]
 rfl
end Go.Proofs.YtejjfiipghcifaaGreatDoor
namespace Go.Proofs.YtejjfiipghcifaaGreatDoor
open Go.RowKit
set_option maxRecDepth 20000
theorem okG_all {g : Gl} (h : okG g = true) : GF g ∧ GW g ∧ g.text.size ≤ 40 := by
 unfold okG at h
 simp only [Bool.and_eq_true, decide_eq_true_eq] at h
 obtain ⟨h1, h2⟩ := h
 unfold glyphC at h2
 split at h2
 ·cases h2
 ·rename_i h3
  split at h2
  ·cases h2
  ·rename_i h4
   have h3' : checkC g.text = 0 := Decidable.not_not.1 h3
   have hw : g.wide = decide (widthC g.text = 2) := Decidable.not_not.1 fun e => h4 (.inl e)
   have hs0 : 0 ≤ g.style := by
    rcases Int.lt_or_le g.style 0 with h | h
    ·exact absurd (.inr (.inl h)) h4
    ·exact h
   have hs3 : g.style ≤ 3 := by
    rcases Int.lt_or_le 3 g.style with h | h
    ·exact absurd (.inr (.inr (.inl h))) h4
    ·exact h
   exact ⟨⟨h3', hw⟩, ⟨⟨h3', by omega⟩, hs0, hs3⟩, h1⟩
theorem properB_all {l : List Gl} (h : properB l = true) : l.length ≤ 60 ∧ ∀ x ∈ l, GF x ∧ GW x ∧ x.text.size ≤ 40 := by
 unfold properB at h
 simp only [Bool.and_eq_true, decide_eq_true_eq, List.all_eq_true] at h
 exact ⟨h.1, fun x hx => okG_all (h.2 x hx)⟩
theorem round_proper {l : List Gl} (h : properB l = true) (S : Setts) : glyphsL (spokenWords l S) = some l :=
 round_trip l S fun x hx => ⟨((properB_all h).2 x hx).1, ((properB_all h).2 x hx).2.1.2.1, ((properB_all h).2 x hx).2.1.2.2⟩
def S0 : Setts := ⟨false, false, 3⟩
def exA : List UInt8 := [108, 115, 32, 45, 108, 32, 77, 121, 52, 50]
def exB : List UInt8 := [45, 45, 45, 45]
def exC : List UInt8 := [50, 48, 32, 49]
theorem ex_proper : properB (plainG exA) = true ∧ properB (plainG exB) = true ∧ properB (plainG exC) = true := by decide +kernel
def waL : List ByteArray := [⟨#[108, 115]⟩, bSpace, ⟨#[100, 97, 115, 104]⟩, ⟨#[108]⟩, bCap, ⟨#[109, 121]⟩, bJoined, ⟨#[102, 111, 114, 116, 121]⟩, ⟨#[116, 119, 111]⟩]
def wbL : List ByteArray := [⟨#[102, 111, 117, 114]⟩, bTimes, ⟨#[100, 97, 115, 104]⟩]
def wcL : List ByteArray := [⟨#[116, 119, 101, 110, 116, 121]⟩, bSpace, ⟨#[111, 110, 101]⟩]
theorem exA_words : spokenWords (plainG exA) S0 = waL := by decide +kernel
theorem exB_words : spokenWords (plainG exB) S0 = wbL := by decide +kernel
theorem exC_words : spokenWords (plainG exC) S0 = wcL := by decide +kernel
end Go.Proofs.YtejjfiipghcifaaGreatDoor
