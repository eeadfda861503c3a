/- Joined texts: NumP, Sig3, SigP. -/
import Derived.Test.YtholajadbbdcmaaGreatDoorQAA
import Derived.Test.YtholajadbbdcmaaGreatDoorQAC
import Derived.Test.YtholajadbbdcmaaGreatDoorQAD
import Derived.Test.YtholajadbbdcmaaGreatDoorQAE
set_option linter.unusedVariables false
set_option linter.unusedSimpArgs false
set_option linter.unnecessarySimpa false
namespace Go.Proofs.YtholajadbbdcmaaGreatDoor
theorem number_some {l : List ByteArray} {n : Int} (h : numberL l = some n) : -999999999 ≤ n ∧ n ≤ 999999999 ∧ (wordsL n).map wb = l ∧ 0 < l.length ∧ l.length ≤ 15 := by
 unfold numberL at h
 split at h
 ·cases h
 ·split at h
  ·cases h
  ·unfold checkN at h
   split at h
   ·rename_i hc
    injection h with h
    subst h
    exact ⟨hc.1, hc.2.1, hc.2.2, by omega, by omega⟩
   ·cases h
theorem prefN_some {l : List ByteArray} : ∀ {m : Nat} {n : Int} {k : Nat}, prefN l m = some (n, k) → 0 < k ∧ k ≤ m ∧ numberL (l.take k) = some n ∧ ∀ i, k < i → i ≤ m → numberL (l.take i) = none := by
 intro m
 induction m with
 | zero => intro n k h; cases h
 | succ m ih =>
  intro n k h
  rw [prefN] at h
  split at h
  ·rename_i v hv
   simp only [Option.some.injEq, Prod.mk.injEq] at h
   obtain ⟨rfl, rfl⟩ := h
   exact ⟨by omega, by omega, hv, fun i h1 h2 => by omega⟩
  ·rename_i hv
   obtain ⟨a, b, c, d⟩ := ih h
   refine ⟨a, by omega, c, fun i h1 h2 => ?_⟩
   rcases Nat.lt_or_ge i (m + 1) with h3 | h3
   ·exact d i h1 (by omega)
   ·obtain rfl : i = m + 1 := by omega
    exact hv
theorem number_take_long (l : List ByteArray) (i : Nat) (h1 : 15 < i) (h2 : i ≤ l.length) : numberL (l.take i) = none := by
 unfold numberL
 rw [if_pos (by rw [List.length_take]; omega)]
theorem prefixL_some {l : List ByteArray} {n : Int} {k : Nat} (h : prefixL l = some (n, k)) : 0 < k ∧ k ≤ l.length ∧ k ≤ 15 ∧ numberL (l.take k) = some n ∧ ∀ i, k < i → i ≤ l.length → numberL (l.take i) = none := by
 obtain ⟨a, b, c, d⟩ := prefN_some h
 refine ⟨a, by omega, by omega, c, fun i h1 h2 => ?_⟩
 rcases Nat.lt_or_ge 15 i with h3 | h3
 ·exact number_take_long l i h3 h2
 ·exact d i h1 (by omega)
end Go.Proofs.YtholajadbbdcmaaGreatDoor
namespace Go.Proofs.YtholajadbbdcmaaGreatDoor
open Go.RowKit
theorem cell_up {w w' : World} {a : Addr} {v : Value} (h : w.cell? a = some v) (hb : Below w.heap.size w w') : w'.cell? a = some v := by
 have hl : a.block < w.heap.size := by
  rcases Nat.lt_or_ge a.block w.heap.size with hl | hl
  ·exact hl
  ·unfold World.cell? at h
   rw [Array.getElem?_eq_none hl] at h
   cases h
 exact (hb.cell hl).trans h
def cB : ByteArray := ⟨#[99, 104, 97, 114, 97, 99, 116, 101, 114]⟩
def isCharB (n : Int) : Bool := (decide (0 ≤ n) && decide (n ≤ 55295)) || (decide (57344 ≤ n) && decide (n ≤ 1114111))
theorem isCharB_iff (n : Int) : isCharB n = true ↔ isChar n := by unfold isCharB isChar; simp
theorem isCharB_false (n : Int) : isCharB n = false ↔ ¬ isChar n := by rw [← isCharB_iff]; cases isCharB n <;> simp
def spellL (r : Int) : List ByteArray := match sIdxI r with
 | some i => [nb i]
 | none => if isCharB r then cB :: (wordsL r).map wb else []
def nIdx (s : ByteArray) : Option Nat := (List.range 32).find? fun i => decide (nb i = s)
theorem nIdx_some {s : ByteArray} {i : Nat} (h : nIdx s = some i) : i < 32 ∧ s = nb i := by
 unfold nIdx at h
 have h1 := List.find?_some h
 have h2 := List.mem_of_find?_eq_some h
 simp at h1 h2
 exact ⟨h2, h1.symm⟩
theorem nIdx_none {s : ByteArray} (h : nIdx s = none) : ∀ i, i < 32 → nb i ≠ s := by
 intro i hi
 unfold nIdx at h
 rw [List.find?_eq_none] at h
 have := h i (by simp [hi])
 simpa using this
def unsTail : Option (Int × Nat) → Option (Int × Nat)
 | none => none
 | some (n, k) => if isCharB n = true ∧ sIdxI n = none then some (n, 1 + k) else none
def unspellL : List ByteArray → Option (Int × Nat)
 | [] => none
 | s :: t => match nIdx s with
  | some i => some (sChar i, 1)
  | none => if s = cB then unsTail (prefixL t) else none
def unsV : Option (Int × Nat) → Value
 | some (r, k) => .tuple #[.int .i32 r, .int .i64 k, .int .i64 0]
 | none => .tuple #[.int .i32 0, .int .i64 0, .int .i64 17]
theorem unsTail_f {v : Int} {k : Nat} (h : ¬ (isCharB v = true ∧ sIdxI v = none)) : unsTail (some (v, k)) = none := if_neg h
theorem unsTail_t {v : Int} {k : Nat} (h : isCharB v = true ∧ sIdxI v = none) : unsTail (some (v, k)) = some (v, 1 + k) := if_pos h
theorem wrap_i32 {v : Int} (h : isCharB v = true) : IntKind.i32.wrap v = v := by
 have := (isCharB_iff v).1 h
 unfold isChar at this
 exact IntWalk.i32_in _ (by omega)
set_option maxHeartbeats 400000 in
theorem unspell_nil (A : Option Addr) (c : Nat) (w : World) : Calls Tryz.prog 205 #[.slice A 0 c] w (Gives (unsV none) w) := by
 go_enter Tryz.func205, Tryz.ntmps205
 go_wp2
 go_ret3
 exact ⟨rfl, Below.refl _ _⟩
theorem rd_tail {w : World} {B n c : Nat} {b o : Nat} {s : ByteArray} {t : List ByteArray} (hn : t.length + 1 = n) (hc : n ≤ c) (rd : Rd w B 1 (some ⟨b, o, none⟩) n (sv (s :: t))) :
  Rd w B 1 (if c = 1 then some ⟨b, o, none⟩ else some ⟨b, o + 1, none⟩) (n - 1) (sv t) := by
 have h := rd.cut (k := 1) (cap := c) (by omega) hc
 simp only [Nat.mul_one, Option.map_some, add_none] at h
 exact h
set_option maxHeartbeats 1000000 in
theorem unspell_cons (s : ByteArray) (t : List ByteArray) (b o n c : Nat) (w : World) (hn : t.length + 1 = n) (hc : n ≤ c) (hm : c ≤ maxLen) (rd : Rd w w.heap.size 1 (some ⟨b, o, none⟩) n (sv (s :: t))) (hsz : ∀ x ∈ s :: t, x.size ≤ maxLen) (hs : Sp w) :
  Calls Tryz.prog 205 #[.slice (some ⟨b, o, none⟩) n c] w (Gives (unsV (unspellL (s :: t))) w) := by
 have e0 : ((n : Int) == 0) = false := beq_eq_false_iff_ne.2 (by omega)
 have hn1 : 1 ≤ n := by omega
 have hcell : w.cell? ⟨b, o, none⟩ = some (.string s) := by
  obtain ⟨b', o', e, _, h⟩ := rd.at_ (show 0 < n by omega)
  cases e
  simpa [sv] using h
 have HS := Lib.hid hs
 cases hi : nIdx s with
 | some i =>
  obtain ⟨hi32, rfl⟩ := nIdx_some hi
  have HR : Hid (unspellL (nb i :: t) = some ((sChar i : Int), 1)) := Lib.hid (by rw [unspellL, hi])
  have HC := Lib.hid (sign_some i hi32 w hs)
  rw [HR.out]
  clear hi hs rd hsz hn hm
  generalize nb i = s at *
  go_enter Tryz.func205, Tryz.ntmps205
  go_wp2_with (go_at_call 215; refine HC.out.mono ?_; rintro e w1 ⟨rfl, hbel1⟩)
  go_ret3
  exact ⟨rfl, hbel1⟩
 | none =>
  have HC := Lib.hid (sign_none s (nIdx_none hi) w hs)
  have tc := lit_beq s cB [99, 104, 97, 114, 97, 99, 116, 101, 114] rfl
  by_cases hcb : s = cB
  ·have dc : (s.toList == [99, 104, 97, 114, 97, 99, 116, 101, 114]) = true := by rw [tc]; simp [hcb]
   have HR : Hid (unspellL (s :: t) = unsTail (prefixL t)) := Lib.hid (by rw [unspellL, hi]; exact if_pos hcb)
   have hcm : c ≤ 9223372036854775807 := by unfold maxLen at hm; omega
   have HT := Lib.hid (rd_tail hn hc rd)
   have HP : Hid (∀ w1 A', Below w.heap.size w w1 → Rd w w.heap.size 1 A' (n - 1) (sv t) → Calls Tryz.prog 110 #[.slice A' (n - 1) (c - 1)] w1 (Gives (preTriple (prefixL t)) w1)) := Lib.hid fun w1 A' hb h =>
    prefix_ t A' (n - 1) (c - 1) w1 (by omega) (by omega) (Nat.le_trans (Nat.sub_le _ _) hm) ((h.below hb).more hb.size) (fun x hx => hsz x (List.mem_cons_of_mem _ hx))
   have Htn := Lib.hid hn
   clear tc hcb hi hs rd hsz hn hm
   cases hp : prefixL t with
   | none =>
    rw [hp] at HP
    have HR2 : Hid (unspellL (s :: t) = none) := Lib.hid (by rw [HR.out, hp]; rfl)
    rw [HR2.out]
    clear hp
    simp only [preTriple] at HP
    by_cases c1 : c = 1
    ·obtain rfl : n = 1 := by omega
     have HT1 : Hid (Rd w w.heap.size 1 (some ⟨b, o, none⟩) 0 (sv t)) := Lib.hid (by have := HT.out; rwa [if_pos c1] at this)
     subst c1
     simp only [Nat.sub_self] at HP
     clear HT HR HR2
     go_enter Tryz.func205, Tryz.ntmps205
     go_wp2_with (first
      | (go_at_call 215; refine HC.out.mono ?_; rintro e w1 ⟨rfl, hbel1⟩; have hcell1 := cell_up hcell hbel1)
      | (go_at_call 110; refine (HP.out _ _ hbel1 HT1.out).mono ?_; rintro e w2 ⟨rfl, hbel2⟩))
     go_ret3
     exact ⟨rfl, hbel1.trans (hbel2.mono hbel1.size)⟩
    ·have HT1 : Hid (Rd w w.heap.size 1 (some ⟨b, o + 1, none⟩) (n - 1) (sv t)) := Lib.hid (by have := HT.out; rwa [if_neg c1] at this)
     go_enter Tryz.func205, Tryz.ntmps205
     go_wp2_with (first
      | (go_at_call 215; refine HC.out.mono ?_; rintro e w1 ⟨rfl, hbel1⟩; have hcell1 := cell_up hcell hbel1)
      | (go_at_call 110; refine (HP.out _ _ hbel1 HT1.out).mono ?_; rintro e w2 ⟨rfl, hbel2⟩))
     go_ret3
     exact ⟨rfl, hbel1.trans (hbel2.mono hbel1.size)⟩
   | some x =>
    obtain ⟨v, k⟩ := x
    rw [hp] at HP
    obtain ⟨k1, k2, k3, k4, k5⟩ := prefixL_some hp
    obtain ⟨v1, v2, _⟩ := number_some k4
    have c1 : ¬ c = 1 := by have := Htn.out; omega
    have hk16 : k ≤ 15 := k3
    have HT1 : Hid (Rd w w.heap.size 1 (some ⟨b, o + 1, none⟩) (n - 1) (sv t)) := Lib.hid (by have := HT.out; rwa [if_neg c1] at this)
    simp only [preTriple] at HP
    have Hpv : Hid (prefixL t = some (v, k)) := Lib.hid hp
    clear hp k4 k5 k2 k3
    cases hch : isCharB v with
    | false =>
     have HR2 : Hid (unspellL (s :: t) = none) := Lib.hid (by rw [HR.out, Hpv.out]; exact unsTail_f (by simp [hch]))
     have HCC := Lib.hid (char_f v ((isCharB_false v).1 hch))
     rw [HR2.out]
     clear hch
     go_enter Tryz.func205, Tryz.ntmps205
     go_wp2_with (first
      | (go_at_call 215; refine HC.out.mono ?_; rintro e w1 ⟨rfl, hbel1⟩; have hcell1 := cell_up hcell hbel1)
      | (go_at_call 110; refine (HP.out _ _ hbel1 HT1.out).mono ?_; rintro e w2 ⟨rfl, hbel2⟩)
      | (go_at_call 216; refine (HCC.out _).mono ?_; rintro e w3 ⟨rfl, hbel3⟩))
     go_ret3
     exact ⟨rfl, (hbel1.trans (hbel2.mono hbel1.size)).trans (hbel3.mono (Nat.le_trans hbel1.size hbel2.size))⟩
    | true =>
     have HCC := Lib.hid (char_t v ((isCharB_iff v).1 hch))
     have Hw := wrap_i32 hch
     cases hi : sIdxI v with
     | some i =>
      have HR2 : Hid (unspellL (s :: t) = none) := Lib.hid (by rw [HR.out, Hpv.out]; exact unsTail_f (by simp [hi]))
      have HI : Hid (∀ w, Calls Tryz.prog 217 #[.int .i32 v] w (Gives (.int .i64 (i : Int)) w)) := Lib.hid fun w => by
       have := index v w
       unfold idxV at this
       rwa [hi] at this
      rw [HR2.out]
      have hge : (i : Int) ≥ 0 := Int.natCast_nonneg i
      clear hch hi
      go_enter Tryz.func205, Tryz.ntmps205
      go_wp2_with (first
       | (go_at_call 215; refine HC.out.mono ?_; rintro e w1 ⟨rfl, hbel1⟩; have hcell1 := cell_up hcell hbel1)
       | (go_at_call 110; refine (HP.out _ _ hbel1 HT1.out).mono ?_; rintro e w2 ⟨rfl, hbel2⟩)
       | (go_at_call 216; refine (HCC.out _).mono ?_; rintro e w3 ⟨rfl, hbel3⟩)
       | (go_at_call 217; refine (HI.out _).mono ?_; rintro e w4 ⟨rfl, hbel4⟩))
      go_ret3
      exact ⟨rfl, ((hbel1.trans (hbel2.mono hbel1.size)).trans (hbel3.mono (Nat.le_trans hbel1.size hbel2.size))).trans (hbel4.mono (Nat.le_trans hbel1.size (Nat.le_trans hbel2.size hbel3.size)))⟩
     | none =>
      have HR2 : Hid (unspellL (s :: t) = some (v, 1 + k)) := Lib.hid (by rw [HR.out, Hpv.out]; exact unsTail_t ⟨hch, hi⟩)
      have HI : Hid (∀ w, Calls Tryz.prog 217 #[.int .i32 v] w (Gives (.int .i64 (-1)) w)) := Lib.hid fun w => by
       have := index v w
       unfold idxV at this
       rwa [hi] at this
      rw [HR2.out]
      clear hch hi
      go_enter Tryz.func205, Tryz.ntmps205
      go_wp2_with (first
       | (go_at_call 215; refine HC.out.mono ?_; rintro e w1 ⟨rfl, hbel1⟩; have hcell1 := cell_up hcell hbel1)
       | (go_at_call 110; refine (HP.out _ _ hbel1 HT1.out).mono ?_; rintro e w2 ⟨rfl, hbel2⟩)
       | (go_at_call 216; refine (HCC.out _).mono ?_; rintro e w3 ⟨rfl, hbel3⟩)
       | (go_at_call 217; refine (HI.out _).mono ?_; rintro e w4 ⟨rfl, hbel4⟩))
      go_ret3
      exact ⟨by simp [unsV], ((hbel1.trans (hbel2.mono hbel1.size)).trans (hbel3.mono (Nat.le_trans hbel1.size hbel2.size))).trans (hbel4.mono (Nat.le_trans hbel1.size (Nat.le_trans hbel2.size hbel3.size)))⟩
  ·have dc : (s.toList == [99, 104, 97, 114, 97, 99, 116, 101, 114]) = false := by rw [tc]; simp [hcb]
   have HR : Hid (unspellL (s :: t) = none) := Lib.hid (by rw [unspellL, hi]; exact if_neg hcb)
   rw [HR.out]
   clear tc hcb hi hs rd hsz hn hm
   go_enter Tryz.func205, Tryz.ntmps205
   go_wp2_with (go_at_call 215; refine HC.out.mono ?_; rintro e w1 ⟨rfl, hbel1⟩; have hcell1 := cell_up hcell hbel1)
   go_ret3
   exact ⟨rfl, hbel1⟩
theorem sg_small_lt (q : Nat) (hq : q < 1000) : ∀ i ∈ smallL q, i < 32 := by
 have : ∀ q : Fin 1000, (smallL q.val).all (· < 32) = true := by decide +kernel
 have h := this ⟨q, hq⟩
 intro i hi
 have := List.all_eq_true.1 h i hi
 simpa using this
theorem nb_wb (i j : Nat) (h : i < 32) (k : j < 32) : wb j ≠ nb i := by
 have : ∀ i j : Fin 32, wb j.val ≠ nb i.val := by decide +kernel
 exact this ⟨i, h⟩ ⟨j, k⟩
theorem cB_wb (j : Nat) (k : j < 32) : wb j ≠ cB := by
 have : ∀ j : Fin 32, wb j.val ≠ cB := by decide +kernel
 exact this ⟨j, k⟩
def NoNum (t : List ByteArray) : Prop := ∀ h t', t = h :: t' → ∀ j, j < 32 → wb j ≠ h
theorem NoNum.nil : NoNum [] := fun _ _ h => by cases h
theorem NoNum.nb {i : Nat} (hi : i < 32) (t : List ByteArray) : NoNum (nb i :: t) := fun _ _ h j hj => by cases h; exact nb_wb i j hi hj
theorem NoNum.cB (t : List ByteArray) : NoNum (cB :: t) := fun _ _ h j hj => by cases h; exact cB_wb j hj
theorem sg_words_lt (n : Int) (h1 : -999999999 ≤ n) (h2 : n ≤ 999999999) : ∀ i ∈ wordsL n, i < 32 := by
 have hsg : ∀ q x, q < 1000 → x < 32 → ∀ i ∈ segL q x, i < 32 := by
  intro q x hq hx i hi
  unfold segL at hi
  split at hi
  ·rw [List.mem_append] at hi
   rcases hi with hi | hi
   ·exact sg_small_lt q hq i hi
   ·simp at hi; omega
  ·cases hi
 have hse : ∀ q, q < 1000 → ∀ i ∈ segE q, i < 32 := by
  intro q hq i hi
  unfold segE at hi
  split at hi
  ·exact sg_small_lt q hq i hi
  ·cases hi
 intro i hi
 unfold wordsL at hi
 split at hi
 ·simp at hi; omega
 ·rw [posL_eq, List.mem_append, List.mem_append, List.mem_append] at hi
  rcases hi with hi | (hi | hi) | hi
  ·split at hi
   ·simp at hi; omega
   ·cases hi
  ·exact hsg _ _ (by omega) (by omega) i hi
  ·exact hsg _ _ (by omega) (by omega) i hi
  ·exact hse _ (by omega) i hi
theorem char_range {r : Int} (h : isCharB r = true) : 0 ≤ r ∧ r ≤ 1114111 := by
 have := (isCharB_iff r).1 h
 unfold isChar at this
 omega
theorem sign_isChar {r : Int} {i : Nat} (h : sIdxI r = some i) : isCharB r = true := by
 obtain ⟨_, _, a, b⟩ := sIdxI_some h
 exact (isCharB_iff r).2 (by unfold isChar; omega)
theorem unspell_canon {l : List ByteArray} {r : Int} {k : Nat} (h : unspellL l = some (r, k)) : isCharB r = true ∧ 0 < k ∧ k ≤ l.length ∧ k ≤ 16 ∧ spellL r = l.take k := by
 cases l with
 | nil => cases h
 | cons s t =>
  rw [unspellL] at h
  cases hi : nIdx s with
  | some i =>
   rw [hi] at h
   simp only [Option.some.injEq, Prod.mk.injEq] at h
   obtain ⟨rfl, rfl⟩ := h
   obtain ⟨a, rfl⟩ := nIdx_some hi
   have hs : sIdxI (sChar i : Int) = some i := by
    unfold sIdxI
    rw [if_pos (by omega)]
    exact sIdx_char i a
   refine ⟨sign_isChar hs, by omega, by simp, by omega, ?_⟩
   unfold spellL
   rw [hs]
   simp
  | none =>
   rw [hi] at h
   simp only at h
   split at h
   ·rename_i hc
    cases hp : prefixL t with
    | none => rw [hp] at h; cases h
    | some x =>
     obtain ⟨v, m⟩ := x
     rw [hp] at h
     by_cases hq : isCharB v = true ∧ sIdxI v = none
     ·rw [unsTail_t hq] at h
      simp only [Option.some.injEq, Prod.mk.injEq] at h
      obtain ⟨rfl, rfl⟩ := h
      obtain ⟨p1, p2, p3, p4, _⟩ := prefixL_some hp
      obtain ⟨_, _, n3, _⟩ := number_some p4
      refine ⟨hq.1, by omega, by simp; omega, by omega, ?_⟩
      unfold spellL
      rw [hq.2]
      simp only [hq.1, if_true, n3, hc]
      rw [Nat.add_comm 1 m, List.take_succ_cons]
     ·rw [unsTail_f hq] at h
      cases h
   ·cases h
end Go.Proofs.YtholajadbbdcmaaGreatDoor
