/- Joined texts: NumP, SigP, Lt1, UtP2, Ref1, Ref2, Up2, SpC, Ul1, Vc2, Vcn. -/
import Derived.Test.YtholajadbbdcmaaGreatDoorQAA
import Derived.Test.YtholajadbbdcmaaGreatDoorQAB
import Derived.Test.YtholajadbbdcmaaGreatDoorQAC
import Derived.Test.YtholajadbbdcmaaGreatDoorQAD
import Derived.Test.YtholajadbbdcmaaGreatDoorQAE
import Derived.Test.YtholajadbbdcmaaGreatDoorQAF
import Derived.Test.YtholajadbbdcmaaGreatDoorQAG
import Derived.Test.YtholajadbbdcmaaGreatDoorQAH
import Derived.Test.YtholajadbbdcmaaGreatDoorQAI
import Derived.Test.YtholajadbbdcmaaGreatDoorQAM
import Derived.Test.YtholajadbbdcmaaGreatDoorQAN
import Derived.Test.YtholajadbbdcmaaGreatDoorQAQ
import Derived.Test.YtholajadbbdcmaaGreatDoorQAS
import Derived.Test.YtholajadbbdcmaaGreatDoorQAT
import Derived.Test.YtholajadbbdcmaaGreatDoorQAU
import Derived.Test.YtholajadbbdcmaaGreatDoorQAY
import Derived.Test.YtholajadbbdcmaaGreatDoorQBA
import Derived.Test.YtholajadbbdcmaaGreatDoorQBB
import Derived.Test.YtholajadbbdcmaaGreatDoorQBC
import Derived.Test.YtholajadbbdcmaaGreatDoorQBD
import Derived.Test.YtholajadbbdcmaaGreatDoorQBF
import Derived.Test.YtholajadbbdcmaaGreatDoorQBH
import Derived.Test.YtholajadbbdcmaaGreatDoorQBM
import Derived.Test.YtholajadbbdcmaaGreatDoorQBN
import Derived.Test.YtholajadbbdcmaaGreatDoorQBQ
set_option linter.unusedVariables false
set_option linter.unusedSimpArgs false
set_option linter.unnecessarySimpa false
namespace Go.Proofs.YtholajadbbdcmaaGreatDoor
theorem valK_wb (i : Nat) (h : i < 28) : valK 28 (wb i) = some (valI i) := by
 have : ∀ i : Fin 28, valK 28 (wb i.val) = some (valI i.val) := by decide +kernel
 exact this ⟨i, h⟩
theorem wb_ne (i j : Nat) (h : i < 32) (k : j < 32) (hne : i ≠ j) : wb i ≠ wb j := by
 have : ∀ i j : Fin 32, i ≠ j → wb i.val ≠ wb j.val := by decide +kernel
 exact this ⟨i, h⟩ ⟨j, k⟩ (by intro e; injection e with e; exact hne e)
theorem step_val (a p : Int) (i : Nat) (h : i < 28) (ha : a ≤ 999999999) (hp : p + valI i ≤ 999999999) : stepN a p (wb i) = some (a, p + valI i) := by
 unfold stepN swN
 rw [if_neg (wb_ne _ _ (by omega) (by omega) (by omega)), if_neg (wb_ne _ _ (by omega) (by omega) (by omega)), if_neg (wb_ne _ _ (by omega) (by omega) (by omega)), if_neg (wb_ne _ _ (by omega) (by omega) (by omega)), valK_wb i h]
 simp only
 rw [if_neg (by omega)]
theorem step_hundred (a p : Int) (ha : a ≤ 999999999) (hp : p * 100 ≤ 999999999) : stepN a p (wb 28) = some (a, p * 100) := by
 unfold stepN swN
 rw [if_neg (wb_ne _ _ (by omega) (by omega) (by omega)), if_pos rfl]
 simp only
 rw [if_neg (by omega)]
theorem step_thousand (a p : Int) (ha : a + 1000 * p ≤ 999999999) : stepN a p (wb 29) = some (a + 1000 * p, 0) := by
 unfold stepN swN
 rw [if_neg (wb_ne _ _ (by omega) (by omega) (by omega)), if_neg (wb_ne _ _ (by omega) (by omega) (by omega)), if_pos rfl]
 simp only
 rw [if_neg (by omega)]
theorem step_million (a p : Int) (ha : a + 1000000 * p ≤ 999999999) : stepN a p (wb 30) = some (a + 1000000 * p, 0) := by
 unfold stepN swN
 rw [if_neg (wb_ne _ _ (by omega) (by omega) (by omega)), if_neg (wb_ne _ _ (by omega) (by omega) (by omega)), if_neg (wb_ne _ _ (by omega) (by omega) (by omega)), if_pos rfl]
 simp only
 rw [if_neg (by omega)]
theorem step_minus (a p : Int) (ha : a ≤ 999999999) (hp : p ≤ 999999999) : stepN a p (wb 31) = some (a, p) := by
 unfold stepN swN
 rw [if_pos rfl]
 simp only
 rw [if_neg (by omega)]
theorem loop_cons {s : ByteArray} {t : List ByteArray} {a p a' p' : Int} (h : stepN a p s = some (a', p')) : loopN (s :: t) a p = loopN t a' p' := by
 rw [loopN, h]
theorem loop_small (q : Nat) (hq : q < 1000) (a : Int) (ha : a ≤ 999999999) (t : List ByteArray) : loopN ((smallL q).map wb ++ t) a 0 = loopN t a q := by
 have hT : ∀ (j : Nat) (p : Int), j < 20 → p + j ≤ 999999999 → loopN ((smallT j).map wb ++ t) a p = loopN t a (p + j) := by
  intro j p hj hp
  unfold smallT
  by_cases h : 0 < j
  ·rw [if_pos h]
   have hv : valI j = j := by unfold valI; rw [if_neg (by omega)]
   simp only [List.map_cons, List.map_nil, List.cons_append, List.nil_append]
   rw [loop_cons (step_val a p j (by omega) ha (by omega)), hv]
  ·obtain rfl : j = 0 := by omega
   simp
 have hS : ∀ (k : Nat) (p : Int), k < 100 → p + k ≤ 999999999 → loopN ((smallS k).map wb ++ ((smallT (if 20 ≤ k then k % 10 else k)).map wb ++ t)) a p = loopN t a (p + k) := by
  intro k p hk hp
  unfold smallS
  by_cases h : 20 ≤ k
  ·rw [if_pos h, if_pos h]
   have hv : valI (18 + k / 10) = 10 * (k / 10 : Nat) := by unfold valI; split <;> omega
   simp only [List.map_cons, List.map_nil, List.cons_append, List.nil_append]
   rw [loop_cons (step_val a p (18 + k / 10) (by omega) ha (by rw [hv]; omega)), hv, hT _ _ (by omega) (by omega)]
   congr 1
   omega
  ·rw [if_neg h, if_neg h]
   simp only [List.map_nil, List.nil_append]
   rw [hT _ _ (by omega) (by omega)]
 unfold smallL smallR
 by_cases h : 100 ≤ q
 ·simp only [if_pos h, List.map_append, List.map_cons, List.cons_append, List.nil_append, List.append_assoc]
  have hv : valI (q / 100) = (q / 100 : Nat) := by unfold valI; rw [if_neg (by omega)]
  rw [loop_cons (step_val a 0 (q / 100) (by omega) ha (by rw [hv]; omega)), hv, loop_cons (step_hundred a _ ha (by omega)), hS _ _ (by omega) (by omega)]
  congr 1
  omega
 ·simp only [if_neg h, List.map_append, List.nil_append, List.append_assoc]
  rw [hS _ _ (by omega) (by omega)]
  congr 1
  omega
theorem loop_pos (m : Nat) (hm : m ≤ 999999999) : ∃ a p : Int, loopN ((posL m).map wb) 0 0 = some (a, p) ∧ a + p = m := by
 rw [posL_eq]
 have h1 : ∀ t, loopN ((segL (m / 1000000) 30).map wb ++ t) 0 0 = loopN t (1000000 * (m / 1000000 : Nat)) 0 := by
  intro t
  unfold segL
  by_cases h : 0 < m / 1000000
  ·rw [if_pos h]
   simp only [List.map_append, List.map_cons, List.map_nil, List.append_assoc, List.cons_append, List.nil_append]
   rw [loop_small _ (by omega) 0 (by omega), loop_cons (step_million _ _ (by omega))]
   congr 1
   omega
  ·rw [if_neg h]
   have : m / 1000000 = 0 := by omega
   simp [this]
 have h2 : ∀ t, loopN ((segL (m % 1000000 / 1000) 29).map wb ++ t) (1000000 * (m / 1000000 : Nat)) 0 = loopN t (1000000 * (m / 1000000 : Nat) + 1000 * (m % 1000000 / 1000 : Nat)) 0 := by
  intro t
  unfold segL
  by_cases h : 0 < m % 1000000 / 1000
  ·rw [if_pos h]
   simp only [List.map_append, List.map_cons, List.map_nil, List.append_assoc, List.cons_append, List.nil_append]
   rw [loop_small _ (by omega) _ (by omega), loop_cons (step_thousand _ _ (by omega))]
  ·rw [if_neg h]
   have : m % 1000000 / 1000 = 0 := by omega
   rw [this]
   simp
 have h3 : loopN ((segE (m % 1000000 % 1000)).map wb) (1000000 * (m / 1000000 : Nat) + 1000 * (m % 1000000 / 1000 : Nat)) 0 = some ((1000000 * (m / 1000000 : Nat) + 1000 * (m % 1000000 / 1000 : Nat) : Int), ((m % 1000000 % 1000 : Nat) : Int)) := by
  unfold segE
  by_cases h : 0 < m % 1000000 % 1000
  ·rw [if_pos h]
   have := loop_small (m % 1000000 % 1000) (by omega) (1000000 * (m / 1000000 : Nat) + 1000 * (m % 1000000 / 1000 : Nat)) (by omega) []
   rw [List.append_nil] at this
   rw [this, loopN]
  ·rw [if_neg h]
   have : m % 1000000 % 1000 = 0 := by omega
   rw [this]
   rfl
 have h4 : loopN ((segL (m / 1000000) 30 ++ segL (m % 1000000 / 1000) 29 ++ segE (m % 1000000 % 1000)).map wb) 0 0 = some ((1000000 * (m / 1000000 : Nat) + 1000 * (m % 1000000 / 1000 : Nat) : Int), ((m % 1000000 % 1000 : Nat) : Int)) := by
  rw [List.map_append, List.map_append, List.append_assoc, h1, h2, h3]
 exact ⟨_, _, h4, by omega⟩
theorem small_head (q : Nat) (hq : q < 1000) (h0 : 0 < q) : ∃ i t, smallL q = i :: t ∧ i < 28 := by
 unfold smallL smallR smallS smallT
 by_cases h : 100 ≤ q
 ·exact ⟨q / 100, _, by simp only [if_pos h]; rfl, by omega⟩
 ·simp only [if_neg h, List.nil_append]
  by_cases h2 : 20 ≤ q
  ·exact ⟨18 + q / 10, _, by simp only [if_pos h2]; rfl, by omega⟩
  ·exact ⟨q, [], by simp [h2, h0], by omega⟩
theorem pos_head (m : Nat) (hm : m ≤ 999999999) (h0 : 0 < m) : ∃ i t, posL m = i :: t ∧ i < 28 := by
 rw [posL_eq]
 unfold segL segE
 by_cases h1 : 0 < m / 1000000
 ·obtain ⟨i, t, e, hi⟩ := small_head (m / 1000000) (by omega) h1
  rw [if_pos h1, e]
  exact ⟨i, _, rfl, hi⟩
 rw [if_neg h1, List.nil_append]
 by_cases h2 : 0 < m % 1000000 / 1000
 ·obtain ⟨i, t, e, hi⟩ := small_head (m % 1000000 / 1000) (by omega) h2
  rw [if_pos h2, e]
  exact ⟨i, _, rfl, hi⟩
 rw [if_neg h2, List.nil_append]
 obtain ⟨i, t, e, hi⟩ := small_head (m % 1000000 % 1000) (by omega) (by omega)
 rw [if_pos (by omega), e]
 exact ⟨i, t, rfl, hi⟩
theorem wordsL_pos (n : Int) : 0 < (wordsL n).length ∨ n < -999999999 ∨ 999999999 < n := by
 by_cases hn : n < -999999999 ∨ 999999999 < n
 ·exact .inr hn
 left
 unfold wordsL
 by_cases h0 : n = 0
 ·rw [if_pos h0]; decide
 ·rw [if_neg h0]
  obtain ⟨i, t, e, _⟩ := pos_head n.natAbs (by omega) (by omega)
  rw [e]
  simp
  omega
theorem number_words (n : Int) (h1 : -999999999 ≤ n) (h2 : n ≤ 999999999) : numberL ((wordsL n).map wb) = some n := by
 have hlen := wordsL_le n
 have hpos : 0 < (wordsL n).length := by
  rcases wordsL_pos n with h | h
  ·exact h
  ·omega
 have hck : checkN ((wordsL n).map wb) n = some n := by unfold checkN; rw [if_pos ⟨h1, h2, rfl⟩]
 unfold numberL
 rw [if_neg (by rw [List.length_map]; omega)]
 by_cases h0 : n = 0
 ·subst h0
  decide +kernel
 ·obtain ⟨i, t, e, hi⟩ := pos_head n.natAbs (by omega) (by omega)
  obtain ⟨a, p, hl, hap⟩ := loop_pos n.natAbs (by omega)
  by_cases hneg : n < 0
  ·have hw : wordsL n = 31 :: posL n.natAbs := by unfold wordsL; rw [if_neg h0, if_pos hneg]; rfl
   have hlo : loopN ((wordsL n).map wb) 0 0 = some (a, p) := by rw [hw, List.map_cons, loop_cons (step_minus 0 0 (by omega) (by omega)), hl]
   have hs : signN ((wordsL n).map wb) (a + p) = n := by
    rw [hw]
    show (if some (wb 31) = some (wb 31) then -(a + p) else a + p) = n
    rw [if_pos rfl]
    omega
   rw [hlo]
   simp only
   rw [hs, hck]
  ·have hw : wordsL n = posL n.natAbs := by unfold wordsL; rw [if_neg h0, if_neg hneg]; rfl
   have hlo : loopN ((wordsL n).map wb) 0 0 = some (a, p) := by rw [hw, hl]
   have hs : signN ((wordsL n).map wb) (a + p) = n := by
    rw [hw, e]
    unfold signN
    rw [if_neg (by
     simp only [List.map_cons, List.head?_cons, Option.some.injEq]
     exact wb_ne _ _ (by omega) (by omega) (by omega))]
    omega
   rw [hlo]
   simp only
   rw [hs, hck]
end Go.Proofs.YtholajadbbdcmaaGreatDoor
namespace Go.Proofs.YtholajadbbdcmaaGreatDoor
open Go.RowKit
theorem prefN_of {l : List ByteArray} {k : Nat} {v : Int} (h0 : 0 < k) (hv : numberL (l.take k) = some v) : ∀ {m : Nat}, k ≤ m → (∀ i, k < i → i ≤ m → numberL (l.take i) = none) → prefN l m = some (v, k) := by
 intro m
 induction m with
 | zero => intro h _; omega
 | succ m ih =>
  intro h hn
  rw [prefN]
  rcases Nat.lt_or_ge m k with h1 | h1
  ·obtain rfl : k = m + 1 := by omega
   rw [hv]
  ·rw [hn (m + 1) (by omega) (by omega)]
   exact ih h1 fun i a b => hn i a (by omega)
theorem prefix_app (n : Int) (h1 : -999999999 ≤ n) (h2 : n ≤ 999999999) (t : List ByteArray) (ht : NoNum t) : prefixL ((wordsL n).map wb ++ t) = some (n, (wordsL n).length) := by
 have hpos : 0 < (wordsL n).length := by
  rcases wordsL_pos n with h | h
  ·exact h
  ·omega
 have hle := wordsL_le n
 have hnum := number_words n h1 h2
 have hlen : ((wordsL n).map wb ++ t).length = (wordsL n).length + t.length := by simp
 refine prefN_of hpos ?_ (by omega) ?_
 ·rw [List.take_append_of_le_length (by simp), List.take_of_length_le (by simp)]
  exact hnum
 ·intro i hi1 hi2
  cases h : numberL (((wordsL n).map wb ++ t).take i) with
  | none => rfl
  | some v =>
   exfalso
   obtain ⟨a1, a2, a3, _⟩ := number_some h
   have hk : (wordsL n).length < (((wordsL n).map wb ++ t).take i).length := by rw [List.length_take, hlen]; omega
   have e : (((wordsL n).map wb ++ t).take i)[(wordsL n).length] = t[0]'(by omega) := by
    rw [List.getElem_take, List.getElem_append_right (by simp)]
    simp
   have hk2 : (wordsL n).length < ((wordsL v).map wb).length := by rw [a3]; exact hk
   have e2 : ((wordsL v).map wb)[(wordsL n).length] = (((wordsL n).map wb ++ t).take i)[(wordsL n).length] := by
    simp only [a3]
   rw [e, List.getElem_map] at e2
   cases t with
   | nil => simp only [List.length_nil, Nat.add_zero] at hlen; omega
   | cons x t' => exact ht x t' rfl _ (sg_words_lt v a1 a2 _ (List.getElem_mem _)) e2
end Go.Proofs.YtholajadbbdcmaaGreatDoor
namespace Go.Proofs.YtholajadbbdcmaaGreatDoor
open Go.RowKit
set_option maxRecDepth 20000
abbrev stV (rate : Int) (digits spell : Bool) (rep : Int) (con : Bool) (cells : Int) : Value := .agg #[.int .i64 rate, .bool digits, .bool spell, .int .i64 rep, .bool con, .int .i64 cells]
theorem hdIs_yes (s : ByteArray) (t : List ByteArray) : hdIs s (s :: t) = true := by simp [hdIs]
theorem hdIs_no {s a : ByteArray} (h : a ≠ s) (t : List ByteArray) : hdIs s (a :: t) = false := by simp [hdIs, h]
theorem numO_say {n : Int} (h1 : -999999999 ≤ n) (h2 : n ≤ 999999999) {t : List ByteArray} (ht : NoNum t) : numO (numI n ++ t) = some (n, t) := by
 unfold numO numI
 rw [prefix_app n h1 h2 t ht, Option.map_some]
 congr 2
 rw [List.drop_append_of_le_length (by simp)]
 simp
theorem noW_updates : NoW bUpdates := by unfold NoW; decide +kernel
theorem end_say {n : Int} (h0 : 0 ≤ n) (h1 : n ≤ 999999999) : endL (endW n) = some n ∧ (hdIs bMore (endW n) = true ∨ hdIs bDone (endW n) = true) ∧ Nxt (endW n) := by
 unfold endW
 by_cases hz : n = 0
 ·rw [if_pos hz]
  refine ⟨?_, .inl (hdIs_yes _ _), bMore, [], rfl, by simp [nxtB]⟩
  unfold endL
  rw [if_pos (hdIs_yes _ _), hz]
  rfl
 ·rw [if_neg hz]
  by_cases ho : n = 1
  ·rw [if_pos ho]
   refine ⟨?_, .inr (hdIs_yes _ _), bDone, [], rfl, by simp [nxtB]⟩
   unfold endL
   rw [hdIs_no (by decide +kernel), if_neg (by simp), skO_yes, Option.bind_some, if_pos rfl, ho]
  ·rw [if_neg ho]
   refine ⟨?_, .inr (hdIs_yes _ _), bDone, _, rfl, by simp [nxtB]⟩
   unfold endL
   rw [hdIs_no (by decide +kernel), if_neg (by simp), skO_yes, Option.bind_some, if_neg (by simp), numO_say (by omega) h1 (noW_updates.num _), Option.bind_some]
   simp only
   rw [skO_yes, Option.bind_some, if_pos ⟨rfl, by omega⟩]
end Go.Proofs.YtholajadbbdcmaaGreatDoor
namespace Go.Proofs.YtholajadbbdcmaaGreatDoor
open Go.RowKit
set_option maxHeartbeats 1000000 in
theorem rsmall_lo (m : Nat) (hm : m < 100) (w : World) (ht : Tb w) :
  Calls Tryz.prog 127 #[.int .i64 m] w (GivesOwn 9 1 id w (rsmallL m).length (wv (rsmallL m))) := by
 by_cases c1 : m < 20
 ·have hc := ht.1 m c1
  have HL := Lib.hid (rs1 ⟨m, c1⟩)
  simp only at HL
  clear ht
  go_enter Tryz.func127, Tryz.ntmps127
  go_wp2
  go_ret
  rw [HL.out]
  exact ⟨_, _, rfl, own_built (xs := [_]) rfl rfl (Nat.le_refl _) (by first | omega | (simp only [List.length_cons, List.length_nil]; omega)), (Below.refl _ _).alloc (Nat.le_refl _) _⟩
 have hc2 := ht.2 (m / 10 - 2) (by omega)
 rw [show 20 + (m / 10 - 2) = 18 + m / 10 from by omega] at hc2
 by_cases c2 : m % 10 = 0
 ·have HL := Lib.hid (rs2 ⟨m, hm⟩ (by simp; omega) c2)
  simp only at HL
  have c2' : ((m : Int) % 10 == 0) = true := by rw [beq_iff_eq]; omega
  clear ht c2
  have c1' : (20 : Int) ≤ (m : Int) := by omega
  go_enter Tryz.func127, Tryz.ntmps127
  go_wp2
  go_ret
  rw [HL.out]
  exact ⟨_, _, rfl, own_built (xs := [_]) rfl rfl (Nat.le_refl _) (by first | omega | (simp only [List.length_cons, List.length_nil]; omega)), (Below.refl _ _).alloc (Nat.le_refl _) _⟩
 ·have HL := Lib.hid (rs3 ⟨m, hm⟩ (by simp; omega) c2)
  simp only at HL
  have hc1 := ht.1 (m % 10) (by omega)
  have c2' : ((m : Int) % 10 == 0) = false := by rw [beq_eq_false_iff_ne]; omega
  clear ht c2
  have b1 : (0 : Int) ≤ (m : Int) % 10 := by omega
  have b2 : (m : Int) % 10 < 20 := by omega
  have b3 : (0 : Int) ≤ (m : Int) / 10 - 2 := by omega
  have b4 : (m : Int) / 10 - 2 < 8 := by omega
  have n1 := World.new_ne w _ hc1
  have n2 := World.new_ne w _ hc2
  go_enter Tryz.func127, Tryz.ntmps127
  go_wp2
  have r1 : (m : Int).tdiv 10 = m / 10 := Int.tdiv_eq_ediv_of_nonneg (by omega)
  have r2 : (m : Int).tmod 10 = m % 10 := Int.tmod_eq_emod_of_nonneg (by omega)
  have r3 : IntKind.i64.wrap ((m : Int) / 10) = m / 10 := IntWalk.i64_in _ (by omega)
  have r4 : IntKind.i64.wrap ((m : Int) / 10 - 2) = m / 10 - 2 := IntWalk.i64_in _ (by omega)
  have r5 : IntKind.i64.wrap ((m : Int) % 10) = m % 10 := IntWalk.i64_in _ (by omega)
  have r6 : ((m : Int) / 10 - 2).toNat = m / 10 - 2 := by omega
  have b5 : (2 : Int) ≤ (m : Int) / 10 := by omega
  have b6 : (m : Int) / 10 < 10 := by omega
  have b7 : (m : Int) / 10 < 8 + 2 := by omega
  have r7 : ((m : Int) % 10).toNat = m % 10 := by omega
  go_region_held3 (fun w' => w'.cell? ⟨3, m / 10 - 2, none⟩ = some (.string (wb (18 + m / 10))) ∧ w'.cell? ⟨2, m % 10, none⟩ = some (.string (wb (m % 10)))) (go_keep) (first | fail)
  clear r1 r2 r3 r4 r5 r6 r7 b7
  go_wp2
  go_ret
  rw [HL.out]
  exact ⟨_, _, rfl, own_built (xs := [_, _]) rfl rfl (Nat.le_refl _) (by first | omega | (simp only [List.length_cons, List.length_nil]; omega)), by (repeat (first | exact Below.refl _ _ | assumption | refine Below.drew ?_ | refine Below.alloc ?_ (by first | (simp; done) | (simp; omega) | omega) _ | refine Below.setCell ?_ (by first | (simp; done) | (simp; omega) | omega) _))⟩
set_option maxHeartbeats 1000000 in
theorem rsmall (m : Nat) (hm : m < 1000) (w : World) (ht : Tb w) :
  Calls Tryz.prog 127 #[.int .i64 m] w (GivesOwn 9 1 id w (rsmallL m).length (wv (rsmallL m))) := by
 by_cases c0 : m < 100
 ·exact rsmall_lo m c0 w ht
 have c1 : 100 ≤ m := by omega
 have hc := ht.1 (m / 100) (by omega)
 have HL := Lib.hid (rs4 ⟨m, hm⟩ c1)
 simp only at HL
 have HR : Hid (∀ w, Tb w → Calls Tryz.prog 127 #[.int .i64 ((m : Int) % 100)] w (GivesOwn 9 1 id w (rsmallL (m % 100)).length (wv (rsmallL (m % 100))))) := Lib.hid fun w ht => by
  have := rsmall_lo (m % 100) (by omega) w ht
  rwa [Int.natCast_emod] at this
 have HT := Lib.hid ht
 have c2 : (20 : Int) ≤ (m : Int) := by omega
 by_cases c3 : m % 100 = 0
 ·have c3' : ((m : Int) % 100 != 0) = false := by rw [bne_eq_false_iff_eq]; omega
  have HL2 : Hid (rsmallL m = [m / 100, 28]) := Lib.hid (by rw [HL.out, if_pos c3]; rfl)
  clear ht c3 c0
  go_enter Tryz.func127, Tryz.ntmps127
  go_wp2_with fail
  go_ret
  rw [HL2.out]
  exact ⟨_, _, rfl, own_built (xs := [_, _]) rfl rfl (Nat.le_refl _) (by first | omega | (simp only [List.length_cons, List.length_nil]; omega)), by (repeat (first | exact Below.refl _ _ | assumption | refine Below.drew ?_ | refine Below.alloc ?_ (by first | (simp; done) | (simp; omega) | omega) _ | refine Below.setCell ?_ (by first | (simp; done) | (simp; omega) | omega) _))⟩
 ·have c3' : ((m : Int) % 100 != 0) = true := by rw [bne_iff_ne]; omega
  have HL2 : Hid (rsmallL m = [m / 100, 28] ++ rsmallL (m % 100)) := Lib.hid (by rw [HL.out, if_neg c3])
  have hle : (rsmallL (m % 100)).length ≤ 4 := by
   unfold rsmallL
   split
   ·simp
   ·exact smallL_le _
  generalize rsmallL (m % 100) = L at *
  clear ht c3 c0
  go_enter Tryz.func127, Tryz.ntmps127
  go_wp2_with (first
   | (go_at_call 127; refine (HR.out _ (HT.out.below (by exact (Below.refl _ _).alloc (Nat.le_refl _) _))).mono ?_; rintro e w1 ⟨A1, c1, rfl, hown1, hbel1⟩; have z1 := hbel1.size; simp only [World.size_alloc] at z1; have hown0 : w1.ownsRow w.heap.size 9 1 (.slice (some ⟨w.heap.size, 0, none⟩) 2 2) 2 [.string (wb (m / 100)), .string (wb 28)] := own_below (own_built (by rfl) rfl (Nat.le_refl _) (by omega)) hbel1)
   | (at_builtin; refine app_list rfl _ _ _ rfl elt_str (w.heap.size) _ rfl (hown0) _ _ rfl (Rd.of_own hown1) (by first | rfl | exact sv_one _ | exact wv_one _) (by omega) (by omega) (by first | (simp; done) | (simp; omega) | omega) ?_; intro A2 c2 w2 hown2 hbel2 hgr2 hat2; have z2 := hbel2.size; (try simp only [World.size_alloc] at z2); (try simp only [Nat.zero_add, List.nil_append] at hown2)))
  go_ret
  rw [HL2.out]
  have e : ([m / 100, 28] ++ L).length = 2 + L.length := by simp; omega
  refine ⟨A2, c2, by rw [e]; rfl, ?_, (((Below.refl _ _).alloc (Nat.le_refl _) _).trans (hbel1.mono (by simp))).trans (hbel2.mono (by omega))⟩
  rw [e]
  simpa [wv] using hown2
def rposL (n : Nat) : List Nat := if n = 0 then [0] else posL n
theorem rpos_small (n : Nat) (h : n < 1000) : rposL n = rsmallL n := by
 unfold rposL rsmallL
 by_cases h0 : n = 0
 ·rw [if_pos h0, if_pos h0]
 ·rw [if_neg h0, if_neg h0, posL_eq]
  have a : n / 1000000 = 0 := by omega
  have b : n % 1000000 / 1000 = 0 := by omega
  have c : n % 1000000 % 1000 = n := by omega
  rw [a, b, c]
  simp [segL, segE, show 0 < n by omega]
theorem rpos_thousand (n : Nat) (h1 : 1000 ≤ n) (h2 : n < 1000000) : rposL n = rsmallL (n / 1000) ++ [29] ++ (if n % 1000 = 0 then [] else rposL (n % 1000)) := by
 have e : (if n % 1000 = 0 then [] else rposL (n % 1000)) = segE (n % 1000) := by
  by_cases h0 : n % 1000 = 0
  ·rw [if_pos h0, h0]; rfl
  ·rw [if_neg h0, rpos_small _ (by omega), rsmallL, if_neg h0, segE, if_pos (by omega)]
 rw [e, rposL, if_neg (by omega), posL_eq, rsmallL, if_neg (by omega)]
 have a : n / 1000000 = 0 := by omega
 have b : n % 1000000 / 1000 = n / 1000 := by omega
 have c : n % 1000000 % 1000 = n % 1000 := by omega
 rw [a, b, c]
 simp [segL, show 0 < n / 1000 by omega]
theorem rpos_million (n : Nat) (h1 : 1000000 ≤ n) (h2 : n < 1000000000) : rposL n = rsmallL (n / 1000000) ++ [30] ++ (if n % 1000000 = 0 then [] else rposL (n % 1000000)) := by
 have e : (if n % 1000000 = 0 then [] else rposL (n % 1000000)) = segL (n % 1000000 / 1000) 29 ++ segE (n % 1000000 % 1000) := by
  by_cases h0 : n % 1000000 = 0
  ·rw [if_pos h0, h0]; rfl
  ·have a : n % 1000000 / 1000000 = 0 := by omega
   have b : n % 1000000 % 1000000 = n % 1000000 := by omega
   rw [if_neg h0, rposL, if_neg h0, posL_eq, a, b]
   simp [segL]
 rw [e, rposL, if_neg (by omega), posL_eq, rsmallL, if_neg (by omega), segL, if_pos (by omega)]
 simp
theorem rposL_le (n : Nat) : (rposL n).length ≤ 14 := by
 unfold rposL
 split
 ·simp
 ·rw [posL_eq]
  have a := segL_le (n / 1000000) 30
  have b := segL_le (n % 1000000 / 1000) 29
  have c : (segE (n % 1000000 % 1000)).length ≤ 4 := by
   unfold segE
   split
   ·exact smallL_le _
   ·simp
  simp only [List.length_append]
  omega
theorem rsmallL_le (n : Nat) : (rsmallL n).length ≤ 4 := by
 unfold rsmallL
 split
 ·simp
 ·exact smallL_le _
end Go.Proofs.YtholajadbbdcmaaGreatDoor
namespace Go.Proofs.YtholajadbbdcmaaGreatDoor
open Go.RowKit
set_option maxRecDepth 100000 in
set_option maxHeartbeats 1000000 in
theorem rpos_a (n : Nat) (hn : n < 1000) (x : Int) (hx : x = n) (w : World) (ht : Tb w) :
  Calls Tryz.prog 103 #[.int .i64 x] w (GivesOwn 9 1 id w (rposL n).length (wv (rposL n))) := by
 have HS := Lib.hid (rsmall n hn w ht)
 rw [← rpos_small n hn, ← hx] at HS
 have x1 : x < 1000 := by omega
 clear ht hx hn
 go_enter Tryz.func103, Tryz.ntmps103
 go_wp2_with (go_at_call 127; refine HS.out.mono ?_; rintro e w1 ⟨A1, c1, rfl, hown1, hbel1⟩)
 go_ret
 exact ⟨A1, c1, rfl, hown1, hbel1⟩
set_option maxRecDepth 100000 in
set_option maxHeartbeats 2000000 in
theorem rpos_b (n : Nat) (h1 : 1000 ≤ n) (h2 : n < 1000000) (x : Int) (hx : x = n) (w : World) (ht : Tb w) :
  Calls Tryz.prog 103 #[.int .i64 x] w (GivesOwn 9 1 id w (rposL n).length (wv (rposL n))) := by
 have HT := Lib.hid ht
 have x1 : 1000 ≤ x := by omega
 have x2 : x < 1000000 := by omega
 have hq : n / 1000 < 1000 := by omega
 have HS : Hid (∀ w, Tb w → Calls Tryz.prog 127 #[.int .i64 (x / 1000)] w (GivesOwn 9 1 id w (rsmallL (n / 1000)).length (wv (rsmallL (n / 1000))))) := Lib.hid fun w ht => by
  have := rsmall (n / 1000) hq w ht
  rwa [show ((n / 1000 : Nat) : Int) = x / 1000 from by omega] at this
 have HR : Hid (∀ w, Tb w → Calls Tryz.prog 103 #[.int .i64 (x % 1000)] w (GivesOwn 9 1 id w (rposL (n % 1000)).length (wv (rposL (n % 1000))))) := Lib.hid fun w ht => by
  exact rpos_a (n % 1000) (by omega) (x % 1000) (by omega) w ht
 have HL := Lib.hid (rpos_thousand n (by omega) (by omega))
 have l1 := rsmallL_le (n / 1000)
 have l2 := rposL_le (n % 1000)
 by_cases c3 : n % 1000 = 0
 ·have c3' : (x % 1000 != 0) = false := by rw [bne_eq_false_iff_eq]; omega
  have HL2 : Hid (rposL n = rsmallL (n / 1000) ++ [29]) := Lib.hid (by rw [HL.out, if_pos c3, List.append_nil])
  clear ht c3 hx h1 h2 hq
  generalize rsmallL (n / 1000) = L at *
  go_enter Tryz.func103, Tryz.ntmps103
  go_wp2_with (first
   | (go_at_call 127; refine (HS.out _ HT.out).mono ?_; rintro e w1 ⟨A1, c1, rfl, hown1, hbel1⟩; have z1 := hbel1.size)
   | (at_builtin; refine app_list rfl _ _ _ rfl elt_str (w.heap.size) _ rfl (hown1.alloc _) _ _ rfl (rd_built (by rfl) rfl) (by first | rfl | exact sv_one _ | exact wv_one _) (by omega) (by omega) (by first | (simp; done) | (simp; omega) | omega) ?_; intro A2 c2 w2 hown2 hbel2 hgr2 hat2; have z2 := hbel2.size; (try simp only [World.size_alloc] at z2); (try simp only [Nat.zero_add, List.nil_append] at hown2)))
  go_ret
  rw [HL2.out]
  have e : (L ++ [29]).length = L.length + 1 := by simp
  exact ⟨A2, c2, by rw [e]; rfl, by rw [e]; simpa [wv, wb] using hown2, (hbel1.alloc (by omega) _).trans (hbel2.mono (by omega))⟩
 ·have c3' : (x % 1000 != 0) = true := by rw [bne_iff_ne]; omega
  have HL2 : Hid (rposL n = rsmallL (n / 1000) ++ [29] ++ rposL (n % 1000)) := Lib.hid (by rw [HL.out, if_neg c3])
  clear ht c3 hx h1 h2 hq
  generalize rsmallL (n / 1000) = L at *
  generalize rposL (n % 1000) = L' at *
  go_enter Tryz.func103, Tryz.ntmps103
  go_wp2_with (first
   | (go_at_call 127; refine (HS.out _ HT.out).mono ?_; rintro e w1 ⟨A1, c1, rfl, hown1, hbel1⟩; have z1 := hbel1.size)
   | (at_builtin; refine app_list rfl _ _ _ rfl elt_str (w.heap.size) _ rfl (hown1.alloc _) _ _ rfl (rd_built (by rfl) rfl) (by first | rfl | exact sv_one _ | exact wv_one _) (by omega) (by omega) (by first | (simp; done) | (simp; omega) | omega) ?_; intro A2 c2 w2 hown2 hbel2 hgr2 hat2; have z2 := hbel2.size; (try simp only [World.size_alloc] at z2); (try simp only [Nat.zero_add, List.nil_append] at hown2))
   | (go_at_call 103; refine (HR.out _ (HT.out.below ((hbel1.alloc (by omega) _).trans hbel2))).mono ?_; rintro e w3 ⟨A3, c3, rfl, hown3, hbel3⟩; have z3 := hbel3.size; have hown2' := own_below hown2 hbel3)
   | (at_builtin; refine app_list rfl _ _ _ rfl elt_str (w.heap.size) _ rfl (hown2') _ _ rfl (Rd.of_own hown3) (by first | rfl | exact sv_one _ | exact wv_one _) (by omega) (by omega) (by first | (simp; done) | (simp; omega) | omega) ?_; intro A4 c4 w4 hown4 hbel4 hgr4 hat4; have z4 := hbel4.size; (try simp only [World.size_alloc] at z4); (try simp only [Nat.zero_add, List.nil_append] at hown4)))
  go_ret
  rw [HL2.out]
  have e : (L ++ [29] ++ L').length = L.length + 1 + L'.length := by simp; omega
  exact ⟨A4, c4, by rw [e]; rfl, by rw [e]; simpa [wv, wb] using hown4, (((hbel1.alloc (by omega) _).trans (hbel2.mono (by omega))).trans (hbel3.mono (by omega))).trans (hbel4.mono (by omega))⟩
theorem rpos_ab (n : Nat) (h2 : n < 1000000) (x : Int) (hx : x = n) (w : World) (ht : Tb w) :
  Calls Tryz.prog 103 #[.int .i64 x] w (GivesOwn 9 1 id w (rposL n).length (wv (rposL n))) := by
 rcases Nat.lt_or_ge n 1000 with h | h
 ·exact rpos_a n h x hx w ht
 ·exact rpos_b n h h2 x hx w ht
set_option maxRecDepth 100000 in
set_option maxHeartbeats 2000000 in
theorem rpos_c (n : Nat) (h1 : 1000000 ≤ n) (h2 : n < 1000000000) (x : Int) (hx : x = n) (w : World) (ht : Tb w) :
  Calls Tryz.prog 103 #[.int .i64 x] w (GivesOwn 9 1 id w (rposL n).length (wv (rposL n))) := by
 have HT := Lib.hid ht
 have x1 : 1000000 ≤ x := by omega
 have x2 : x < 1000000000 := by omega
 have hq : n / 1000000 < 1000 := by omega
 have HS : Hid (∀ w, Tb w → Calls Tryz.prog 127 #[.int .i64 (x / 1000000)] w (GivesOwn 9 1 id w (rsmallL (n / 1000000)).length (wv (rsmallL (n / 1000000))))) := Lib.hid fun w ht => by
  have := rsmall (n / 1000000) hq w ht
  rwa [show ((n / 1000000 : Nat) : Int) = x / 1000000 from by omega] at this
 have HR : Hid (∀ w, Tb w → Calls Tryz.prog 103 #[.int .i64 (x % 1000000)] w (GivesOwn 9 1 id w (rposL (n % 1000000)).length (wv (rposL (n % 1000000))))) := Lib.hid fun w ht => by
  exact rpos_ab (n % 1000000) (by omega) (x % 1000000) (by omega) w ht
 have HL := Lib.hid (rpos_million n (by omega) (by omega))
 have l1 := rsmallL_le (n / 1000000)
 have l2 := rposL_le (n % 1000000)
 by_cases c3 : n % 1000000 = 0
 ·have c3' : (x % 1000000 != 0) = false := by rw [bne_eq_false_iff_eq]; omega
  have HL2 : Hid (rposL n = rsmallL (n / 1000000) ++ [30]) := Lib.hid (by rw [HL.out, if_pos c3, List.append_nil])
  clear ht c3 hx h1 h2 hq
  generalize rsmallL (n / 1000000) = L at *
  go_enter Tryz.func103, Tryz.ntmps103
  go_wp2_with (first
   | (go_at_call 127; refine (HS.out _ HT.out).mono ?_; rintro e w1 ⟨A1, c1, rfl, hown1, hbel1⟩; have z1 := hbel1.size)
   | (at_builtin; refine app_list rfl _ _ _ rfl elt_str (w.heap.size) _ rfl (hown1.alloc _) _ _ rfl (rd_built (by rfl) rfl) (by first | rfl | exact sv_one _ | exact wv_one _) (by omega) (by omega) (by first | (simp; done) | (simp; omega) | omega) ?_; intro A2 c2 w2 hown2 hbel2 hgr2 hat2; have z2 := hbel2.size; (try simp only [World.size_alloc] at z2); (try simp only [Nat.zero_add, List.nil_append] at hown2)))
  go_ret
  rw [HL2.out]
  have e : (L ++ [30]).length = L.length + 1 := by simp
  exact ⟨A2, c2, by rw [e]; rfl, by rw [e]; simpa [wv, wb] using hown2, (hbel1.alloc (by omega) _).trans (hbel2.mono (by omega))⟩
 ·have c3' : (x % 1000000 != 0) = true := by rw [bne_iff_ne]; omega
  have HL2 : Hid (rposL n = rsmallL (n / 1000000) ++ [30] ++ rposL (n % 1000000)) := Lib.hid (by rw [HL.out, if_neg c3])
  clear ht c3 hx h1 h2 hq
  generalize rsmallL (n / 1000000) = L at *
  generalize rposL (n % 1000000) = L' at *
  go_enter Tryz.func103, Tryz.ntmps103
  go_wp2_with (first
   | (go_at_call 127; refine (HS.out _ HT.out).mono ?_; rintro e w1 ⟨A1, c1, rfl, hown1, hbel1⟩; have z1 := hbel1.size)
   | (at_builtin; refine app_list rfl _ _ _ rfl elt_str (w.heap.size) _ rfl (hown1.alloc _) _ _ rfl (rd_built (by rfl) rfl) (by first | rfl | exact sv_one _ | exact wv_one _) (by omega) (by omega) (by first | (simp; done) | (simp; omega) | omega) ?_; intro A2 c2 w2 hown2 hbel2 hgr2 hat2; have z2 := hbel2.size; (try simp only [World.size_alloc] at z2); (try simp only [Nat.zero_add, List.nil_append] at hown2))
   | (go_at_call 103; refine (HR.out _ (HT.out.below ((hbel1.alloc (by omega) _).trans hbel2))).mono ?_; rintro e w3 ⟨A3, c3, rfl, hown3, hbel3⟩; have z3 := hbel3.size; have hown2' := own_below hown2 hbel3)
   | (at_builtin; refine app_list rfl _ _ _ rfl elt_str (w.heap.size) _ rfl (hown2') _ _ rfl (Rd.of_own hown3) (by first | rfl | exact sv_one _ | exact wv_one _) (by omega) (by omega) (by first | (simp; done) | (simp; omega) | omega) ?_; intro A4 c4 w4 hown4 hbel4 hgr4 hat4; have z4 := hbel4.size; (try simp only [World.size_alloc] at z4); (try simp only [Nat.zero_add, List.nil_append] at hown4)))
  go_ret
  rw [HL2.out]
  have e : (L ++ [30] ++ L').length = L.length + 1 + L'.length := by simp; omega
  exact ⟨A4, c4, by rw [e]; rfl, by rw [e]; simpa [wv, wb] using hown4, (((hbel1.alloc (by omega) _).trans (hbel2.mono (by omega))).trans (hbel3.mono (by omega))).trans (hbel4.mono (by omega))⟩
theorem rpos (n : Nat) (h2 : n < 1000000000) (x : Int) (hx : x = n) (w : World) (ht : Tb w) :
  Calls Tryz.prog 103 #[.int .i64 x] w (GivesOwn 9 1 id w (rposL n).length (wv (rposL n))) := by
 rcases Nat.lt_or_ge n 1000000 with h | h
 ·exact rpos_ab n h x hx w ht
 ·exact rpos_c n h h2 x hx w ht
theorem wordsL_eq_pos (n : Nat) : wordsL n = rposL n := by
 unfold wordsL rposL
 by_cases h0 : n = 0
 ·subst h0; rfl
 ·have h1 : ¬ ((n : Int) = 0) := by omega
  have h2 : ¬ ((n : Int) < 0) := by omega
  rw [if_neg h1, if_neg h2, if_neg h0, Int.natAbs_natCast]
  rfl
theorem wordsL_eq_neg (n : Nat) (h0 : 0 < n) : wordsL (-(n : Int)) = 31 :: rposL n := by
 have e : (-(n : Int)).natAbs = n := by omega
 have h1 : ¬ (-(n : Int) = 0) := by omega
 have h2 : -(n : Int) < 0 := by omega
 unfold wordsL rposL
 rw [if_neg h1, if_pos h2, if_neg (by omega), e]
 rfl
set_option maxRecDepth 100000 in
set_option maxHeartbeats 1000000 in
theorem rwords_in (n : Int) (h1 : -999999999 ≤ n) (h2 : n ≤ 999999999) (w : World) (ht : Tb w) :
  Calls Tryz.prog 66 #[.int .i64 n] w (GivesOwn 9 1 okPair w (wordsL n).length (wv (wordsL n))) := by
 have HT := Lib.hid ht
 clear ht
 by_cases hn : n < 0
 ·obtain ⟨m, hm⟩ : ∃ m : Nat, n = -(m : Int) := ⟨n.natAbs, by omega⟩
  have hm1 : 0 < m := by omega
  have HL := Lib.hid (wordsL_eq_neg m hm1)
  have hle := rposL_le m
  have HS : Hid (∀ w, Tb w → Calls Tryz.prog 103 #[.int .i64 (-n)] w (GivesOwn 9 1 id w (rposL m).length (wv (rposL m)))) := Lib.hid fun w ht => by
   exact rpos m (by omega) (-n) (by omega) w ht
  rw [← hm] at HL
  clear hm
  generalize rposL m = L at *
  go_enter Tryz.func66, Tryz.ntmps66
  go_wp2_with (first
   | (go_at_call 103; refine (HS.out _ (HT.out.below (by exact (Below.refl _ _).alloc (Nat.le_refl _) _))).mono ?_; rintro e w1 ⟨A1, c1, rfl, hown1, hbel1⟩; have z1 := hbel1.size; simp only [World.size_alloc] at z1; have hown0 : w1.ownsRow w.heap.size 9 1 (.slice (some ⟨w.heap.size, 0, none⟩) 1 1) 1 [.string (wb 31)] := own_below (own_built (by rfl) rfl (Nat.le_refl _) (by omega)) hbel1)
   | (at_builtin; refine app_list rfl _ _ _ rfl elt_str (w.heap.size) _ rfl (hown0) _ _ rfl (Rd.of_own hown1) (by first | rfl | exact sv_one _ | exact wv_one _) (by omega) (by omega) (by first | (simp; done) | (simp; omega) | omega) ?_; intro A2 c2 w2 hown2 hbel2 hgr2 hat2; have z2 := hbel2.size; (try simp only [World.size_alloc] at z2); (try simp only [Nat.zero_add, List.nil_append] at hown2)))
  go_ret2
  rw [HL.out]
  have e : (31 :: L).length = 1 + L.length := by simp; omega
  exact ⟨A2, c2, by rw [e]; rfl, by rw [e]; simpa [wv] using hown2, (((Below.refl _ _).alloc (Nat.le_refl _) _).trans (hbel1.mono (by simp))).trans (hbel2.mono (by omega))⟩
 ·obtain ⟨m, rfl⟩ : ∃ m : Nat, n = (m : Int) := ⟨n.toNat, by omega⟩
  have HL := Lib.hid (wordsL_eq_pos m)
  have HS : Hid (∀ w, Tb w → Calls Tryz.prog 103 #[.int .i64 (m : Int)] w (GivesOwn 9 1 id w (rposL m).length (wv (rposL m)))) := Lib.hid fun w ht => rpos m (by omega) m rfl w ht
  generalize rposL m = L at *
  go_enter Tryz.func66, Tryz.ntmps66
  go_wp2_with (go_at_call 103; refine (HS.out _ HT.out).mono ?_; rintro e w1 ⟨A1, c1, rfl, hown1, hbel1⟩)
  go_ret2
  rw [HL.out]
  exact ⟨A1, c1, rfl, hown1, hbel1⟩
end Go.Proofs.YtholajadbbdcmaaGreatDoor
namespace Go.Proofs.YtholajadbbdcmaaGreatDoor
open Go.RowKit
set_option maxRecDepth 20000
section
variable {w X : World} {c : Chg} {Ag : Option Addr} {cap : Nat} {r : Int} {d sp : Bool} {p : Int} {con : Bool} {k : Int} {xs : List ByteArray}
end
theorem numI_le (n : Int) : (numI n).length ≤ 15 := by unfold numI; rw [List.length_map]; exact wordsL_le n
theorem setE_bad {r q k : Int} (h : BadS r q k) : setE r q k = 2 := if_pos h
theorem setE_ok {r q k : Int} (h : ¬ BadS r q k) : setE r q k = 0 := if_neg h
set_option maxHeartbeats 2000000 in
theorem rcheck_s (r : Int) (d sp : Bool) (q : Int) (con : Bool) (k : Int) (w : World) : Calls Tryz.prog 23 #[stV r d sp q con k] w (Gives (.int .i64 (setE r q k)) w) := by
 obtain ⟨X, hX⟩ : ∃ X, X = setE r q k := ⟨_, rfl⟩
 rw [← hX]
 have HB : Hid (BadS r q k → X = 2) := Lib.hid fun h => by rw [hX, setE_bad h]
 have HO : Hid (¬ BadS r q k → X = 0) := Lib.hid fun h => by rw [hX, setE_ok h]
 obtain ⟨C0, C1, C2, C3, C4, C5⟩ := StBox.new w r d sp q con k 39
 clear hX
 go_enter Tryz.func23, Tryz.ntmps23
 go_wp2
 all_goals go_ret
 all_goals first
  | exact ⟨by rw [HO.out (by unfold BadS; simp at *; omega)]; rfl, (Below.refl _ _).alloc (Nat.le_refl _) _⟩
  | exact ⟨by rw [HB.out (by unfold BadS; simp at *; omega)]; rfl, (Below.refl _ _).alloc (Nat.le_refl _) _⟩
theorem numI_size (n : Int) (h1 : -999999999 ≤ n) (h2 : n ≤ 999999999) : ∀ s ∈ numI n, s.size ≤ 1000 := fun s hs => by
 unfold numI at hs
 obtain ⟨j, hj, rfl⟩ := List.mem_map.1 hs
 have h := sg_words_lt n h1 h2 j hj
 have : ∀ i, i < 32 → (wb i).size ≤ 1000 := by decide +kernel
 exact this j h
theorem end_bound {n : Int} (h0 : 0 ≤ n) (h1 : n ≤ 999999999) : (endW n).length ≤ 20 ∧ SzW (endW n) := by
 have := numI_le n
 unfold endW
 split
 ·exact ⟨by simp, SzW.cons (by decide) SzW.nil⟩
 ·split
  ·exact ⟨by simp, SzW.cons (by decide) SzW.nil⟩
  ·exact ⟨by simp only [List.length_append, List.length_cons, List.length_nil]; omega, SzW.cons (by decide) (SzW.app (numI_size _ (by omega) (by omega)) (SzW.cons (by decide) SzW.nil))⟩
end Go.Proofs.YtholajadbbdcmaaGreatDoor
namespace Go.Proofs.YtholajadbbdcmaaGreatDoor
open Go.RowKit
set_option maxRecDepth 20000
set_option maxHeartbeats 2000000 in
theorem rsay (n : Int) (h1 : -999999999 ≤ n) (h2 : n ≤ 999999999) (a : ByteArray) (xs : List ByteArray) (A : Option Addr) (m c base : Nat) (w : World) (ht : ∀ Y, Below base w Y → Tb Y) (ho : w.ownsRow base 9 1 (.slice A m c) m (sv xs)) (hm : m = xs.length) (hx : m ≤ 60000000000) (hb : base ≤ w.heap.size) :
  Calls Tryz.prog 38 #[.slice A m c, .string a, .int .i64 n] w fun e w' => (∃ A' c', e = .returned (.slice A' (xs ++ a :: numI n).length c') ∧ w'.ownsRow base 9 1 (.slice A' (xs ++ a :: numI n).length c') (xs ++ a :: numI n).length (sv (xs ++ a :: numI n))) ∧ Below base w w' := by
 subst hm
 have HT := Lib.hid ht
 have HW : Hid (∀ w, Tb w → Calls Tryz.prog 66 #[.int .i64 n] w (GivesOwn 9 1 okPair w (numI n).length (sv (numI n)))) := Lib.hid fun w ht => by
  have := rwords_in n h1 h2 w ht
  rw [wv_sv] at this
  unfold numI
  rw [List.length_map]
  exact this
 have hl := numI_le n
 generalize numI n = ys at *
 have hlen : (xs ++ a :: ys).length = xs.length + 1 + ys.length := by simp; omega
 have hsv : sv (xs ++ a :: ys) = sv xs ++ sv [a] ++ sv ys := by simp [sv]
 rw [hlen, hsv]
 have ha := (Below.refl base w).alloc hb (.cells (sv [a]).toArray 9)
 clear ht h1 h2 hlen hsv
 go_enter Tryz.func38, Tryz.ntmps38
 go_wp2_with (first
  | (go_at_call 66; refine (HW.out _ (HT.out _ (ha.trans hbel1))).mono ?_; rintro e w3 ⟨A3, c3, rfl, o3, b3⟩; have z3 := b3.size)
  | ((fail_if_success have := hown1); (at_builtin; refine app_list rfl _ _ _ rfl elt_str (base) _ rfl (own_below ho ((Below.refl _ _).alloc (Nat.le_refl _) _)) _ _ rfl ((rd_built (xs := sv [a]) rfl rfl)) (by first | rfl | exact sv_one _ | exact wv_one _) (by omega) (by omega) (by first | (simp; done) | (simp; omega) | omega) ?_; intro A1 c1 w1 hown1 hbel1 hgr1 hat1; have z1 := hbel1.size; (try simp only [World.size_alloc] at z1); (try simp only [Nat.zero_add, List.nil_append] at hown1)))
  | (at_builtin; refine app_list rfl _ _ _ rfl elt_str (base) _ rfl (own_below hown1 b3) _ _ rfl ((Rd.of_own o3)) (by first | rfl | exact sv_one _ | exact wv_one _) (by omega) (by omega) (by first | (simp; done) | (simp; omega) | omega) ?_; intro A2 c2 w2 hown2 hbel2 hgr2 hat2; have z2 := hbel2.size; (try simp only [World.size_alloc] at z2); (try simp only [Nat.zero_add, List.nil_append] at hown2)))
 go_ret
 exact ⟨⟨A2, c2, rfl, hown2⟩, (ha.trans hbel1).trans ((b3.mono (by omega)).trans hbel2)⟩
def PhR (w : World) (c : Chg) (Ag : Option Addr) (cap : Nat) (r : Int) (d sp : Bool) (p : Int) (con : Bool) (k : Int) (j : Nat) (xs : List ByteArray) (v : Value) (X : World) : Prop :=
 Blk X w.heap.size 72 (chgA c Ag cap) ∧ Blk X (w.heap.size + 1) 39 #[.int .i64 r, .bool d, .bool sp, .int .i64 p, .bool con, .int .i64 k] ∧ (∃ n, n = xs.length ∧ X.ownsRow (w.heap.size + 2) 9 1 v n (sv xs)) ∧ Below w.heap.size w X ∧ xs.length ≤ j
section
variable {w X : World} {c : Chg} {Ag : Option Addr} {cap : Nat} {r : Int} {d sp : Bool} {p : Int} {con : Bool} {k : Int} {xs : List ByteArray} {j : Nat} {v : Value}
theorem PhR.put (h : PhR w c Ag cap r d sp p con k j xs v X) {Y : World} {ys : List ByteArray} {v' : Value} {n m : Nat} (hb : Below (w.heap.size + 2) X Y) (hn : n = xs.length) (hm : ys.length = m) (ho : Y.ownsRow (w.heap.size + 2) 9 1 v' (n + m) (sv xs ++ sv ys)) : PhR w c Ag cap r d sp p con k (j + m) (xs ++ ys) v' Y := by
 obtain ⟨b1, b2, _, b4, b5⟩ := h
 refine ⟨b1.below hb (by omega), b2.below hb (by omega), ⟨n + m, by rw [List.length_append]; omega, by rw [sv_app]; exact ho⟩, b4.trans (hb.mono (by omega)), by rw [List.length_append]; omega⟩
theorem PhR.start (w : World) (c : Chg) (Ag : Option Addr) (cap : Nat) (r : Int) (d sp : Bool) (p : Int) (con : Bool) (k : Int) : PhR w c Ag cap r d sp p con k 0 [] (.slice (some ⟨w.heap.size + 2, 0, none⟩) 0 0) (((w.alloc (.cells (chgA c Ag cap) 72)).alloc (.cells #[.int .i64 r, .bool d, .bool sp, .int .i64 p, .bool con, .int .i64 k] 39)).alloc (.cells #[] 9)) :=
 ⟨((Blk.new w _ _).alloc _).alloc _, (Blk.new_ (by simp)).alloc _, ⟨0, rfl, own_built (xs := []) (n := 0) (by simp) rfl (Nat.le_refl _) (by omega)⟩, (((Below.refl _ _).alloc (Nat.le_refl _) _).alloc (by simp) _).alloc (by simp; omega) _, Nat.le_refl _⟩
theorem PhR.done {R : List ByteArray} (h : PhR w c Ag cap r d sp p con k j xs v X) (hR : R = xs ++ []) : GivesOwn 9 1 id w R.length (sv R) (.returned v) X := by
 rw [List.append_nil] at hR
 subst hR
 obtain ⟨b1, b2, ⟨m, rfl, b3⟩, b4, b5⟩ := h
 obtain ⟨A, co, rfl⟩ := own_slice b3
 exact ⟨A, co, rfl, own_less b3 (by omega), b4⟩
end
theorem vCheck_nil (w : World) : Calls Tryz.prog 36 #[.slice none 0 0] w (Gives (.int .i64 0) w) := by
 go_enter Tryz.func36, Tryz.ntmps36
 go_wp2
 go_loopw [3] (fun x wr => x = .int .i64 0 ∧ Below w.heap.size w wr) (fun _ _ => 0)
 case atStart => exact ⟨rfl, Below.refl _ _⟩
 case round =>
  obtain ⟨rfl, hbel⟩ := hrel
  go_wp2
  go_ret
  exact ⟨rfl, hbel⟩
set_option maxHeartbeats 4000000 in
theorem vwords_nil (m : Int) (h1 : 0 ≤ m) (h2 : m ≤ 65535) (w : World) (ht : Tb w) :
  Calls Tryz.prog 19 #[.slice none 0 0, .int .i64 m, stV 100 false false 0 false 40] w (GivesOwn 9 1 okPair w (endW m).length (sv (endW m))) := by
 have HSt := Lib.hid (rcheck_s 100 false false 0 false 40)
 have HCk := Lib.hid fun X => vCheck_nil X
 rw [show setE 100 0 40 = 0 by decide] at HSt
 have HTb := Lib.hid ht
 clear ht
 go_enter Tryz.func19, Tryz.ntmps19
 go_upto_region 1 with fail
 refine wp_fg (fun X => StBox X 100 false false 0 false 40 w.heap.size ∧ Below w.heap.size w X ∧ w.heap.size + 1 ≤ X.heap.size) ⟨StBox.new w 100 false false 0 false 40 _, (Below.refl _ _).alloc (Nat.le_refl _) _, by simp⟩ ?_
 rintro X ⟨hst, hb0, hz0⟩
 have hst' := hst
 obtain ⟨s0, s1, s2, s3, s4, s5⟩ := hst
 go_wp2_with (first
  | (go_at_call 23; refine (HSt.out _).mono ?_; rintro e w1 ⟨rfl, hb1⟩; have hs1 := hb1.size)
  | (go_at_call 36; refine (HCk.out _).mono ?_; rintro e w2 ⟨rfl, hb2⟩; have hs2 := hb2.size))
 have hb3 : Below w.heap.size w w2 := hb0.trans ((hb1.mono hb0.size).trans (hb2.mono (Nat.le_trans hb0.size hb1.size)))
 have hz2 : w.heap.size + 1 ≤ w2.heap.size := by have := hb1.size; have := hb2.size; omega
 have hba : Below w2.heap.size w2 (w2.alloc (.cells #[] 9)) := (Below.refl _ _).alloc (Nat.le_refl _) _
 have hb4 := hb3.trans (hba.mono (by omega))
 have hz4 := Nat.le_trans hz2 hba.size
 clear hb0 hb1 hb2 hb3 hst' s0 s1 s2 s3 s4 s5 hz0 hba
 go_loopw [9, 10] (fun x y wr => ∃ A2 c2, y = .int .i64 0 ∧ x = .slice A2 0 c2 ∧ wr.ownsRow (w.heap.size + 1) 9 1 (.slice A2 0 c2) 0 (sv []) ∧ Below w.heap.size w wr ∧ w.heap.size + 1 ≤ wr.heap.size) (fun _ _ _ => 0)
 case atStart => exact ⟨_, 0, rfl, rfl, own_built (xs := []) (n := 0) rfl rfl hz2 (by omega), hb4, hz4⟩
 case round =>
  clear hb4 hz4 hz2
  obtain ⟨A2, c2, rfl, rfl, ho, hbl, hzr⟩ := hrel
  by_cases h0 : m = 0
  ·as_aux_lemma =>
   subst h0
   clear HTb
   go_wp2_with (at_builtin; refine app_list rfl _ _ _ rfl elt_str ((w.heap.size + 1)) _ rfl (own_below ho ((Below.refl _ _).alloc (Nat.le_refl _) _)) _ _ rfl ((rd_built (xs := sv [bMore]) rfl rfl)) (by first | rfl | exact sv_one _ | exact wv_one _) (by omega) (by omega) (by first | (simp; done) | (simp; omega) | omega) ?_; intro A9 c9 w9 hown9 hbel9 hgr9 hat9; have z9 := hbel9.size; (try simp only [World.size_alloc] at z9); (try simp only [Nat.zero_add, List.nil_append] at hown9))
   go_ret2
   exact ⟨A9, c9, rfl, own_less hown9 (by omega), (hbl.alloc hbl.size _).trans (hbel9.mono (by omega))⟩
  ·by_cases h1' : m = 1
   ·as_aux_lemma =>
    subst h1'
    clear HTb
    go_wp2_with (at_builtin; refine app_list rfl _ _ _ rfl elt_str ((w.heap.size + 1)) _ rfl (own_below ho ((Below.refl _ _).alloc (Nat.le_refl _) _)) _ _ rfl ((rd_built (xs := sv [bDone]) rfl rfl)) (by first | rfl | exact sv_one _ | exact wv_one _) (by omega) (by omega) (by first | (simp; done) | (simp; omega) | omega) ?_; intro A9 c9 w9 hown9 hbel9 hgr9 hat9; have z9 := hbel9.size; (try simp only [World.size_alloc] at z9); (try simp only [Nat.zero_add, List.nil_append] at hown9))
    go_ret2
    exact ⟨A9, c9, rfl, own_less hown9 (by omega), (hbl.alloc hbl.size _).trans (hbel9.mono (by omega))⟩
   ·as_aux_lemma =>
    have HK3 : Hid (endW m = (bDone :: numI m) ++ [bUpdates]) := Lib.hid (by rw [endW, if_neg h0, if_neg h1']; rfl)
    have hb0 : (m == 0) = false := beq_eq_false_iff_ne.2 h0
    have hb1 : (m == 1) = false := beq_eq_false_iff_ne.2 h1'
    have HSy := Lib.hid (rsay m (by omega) (by omega) bDone [] A2 0 c2 (w.heap.size + 1) wr (fun Y hY => HTb.out.below (hbl.trans (hY.mono (by omega)))) ho rfl (by omega) hzr)
    have hml := numI_le m
    have hln : (bDone :: numI m).length ≤ 60000000000 := by rw [List.length_cons]; omega
    rw [List.nil_append] at HSy
    generalize endW m = R at *
    generalize bDone :: numI m = OD at *
    clear h0 h1' hml HTb h1 h2
    go_wp2_with (first
     | (go_at_call 38; refine HSy.out.mono ?_; rintro e w5 ⟨⟨A5, c5, rfl, ho5⟩, hb5⟩; have hz5 := hb5.size)
     | (at_builtin; refine app_list rfl _ _ _ rfl elt_str ((w.heap.size + 1)) _ rfl (own_below ho5 ((Below.refl _ _).alloc (Nat.le_refl _) _)) _ _ rfl ((rd_built (xs := sv [bUpdates]) rfl rfl)) (by first | rfl | exact sv_one _ | exact wv_one _) (by omega) (by omega) (by first | (simp; done) | (simp; omega) | omega) ?_; intro A9 c9 w9 hown9 hbel9 hgr9 hat9; have z9 := hbel9.size; (try simp only [World.size_alloc] at z9); (try simp only [Nat.zero_add, List.nil_append] at hown9)))
    go_ret2
    rw [HK3.out, List.length_append, sv_app]
    exact ⟨A9, c9, rfl, own_less hown9 (by omega), ((hbl.trans (hb5.mono (by omega))).alloc (by omega) _).trans (hbel9.mono (by omega))⟩
end Go.Proofs.YtholajadbbdcmaaGreatDoor
