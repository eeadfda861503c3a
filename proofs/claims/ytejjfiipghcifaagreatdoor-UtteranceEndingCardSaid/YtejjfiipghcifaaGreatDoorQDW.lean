/- Joined texts: Kit, Eq, NumP, Rn1, Rn6, Rn7, PaB0, Ref2, RefP, Ref3, Ref4. -/
import Derived.Test.YtejjfiipghcifaaGreatDoorQAA
import Derived.Test.YtejjfiipghcifaaGreatDoorQAB
import Derived.Test.YtejjfiipghcifaaGreatDoorQAC
import Derived.Test.YtejjfiipghcifaaGreatDoorQAD
import Derived.Test.YtejjfiipghcifaaGreatDoorQAE
import Derived.Test.YtejjfiipghcifaaGreatDoorQAF
import Derived.Test.YtejjfiipghcifaaGreatDoorQAG
import Derived.Test.YtejjfiipghcifaaGreatDoorQAM
import Derived.Test.YtejjfiipghcifaaGreatDoorQAN
import Derived.Test.YtejjfiipghcifaaGreatDoorQAO
import Derived.Test.YtejjfiipghcifaaGreatDoorQAP
import Derived.Test.YtejjfiipghcifaaGreatDoorQAQ
import Derived.Test.YtejjfiipghcifaaGreatDoorQBJ
import Derived.Test.YtejjfiipghcifaaGreatDoorQBK
set_option linter.unusedVariables false
set_option linter.unusedSimpArgs false
set_option linter.unnecessarySimpa false
namespace Go.Proofs.YtejjfiipghcifaaGreatDoor
open Go.RowKit
section
variable {w w' : World} {B B' size n : Nat} {A : Option Addr} {xs : List Value}
end
theorem below_of_drewN {B n : Nat} {w w' : World} (h : Below B (w.drewN n) w') : Below B w w' := ⟨h.os, h.tape, h.output, h.size, h.block⟩
section
variable {w w' : World} {g : Nat} {t : TypeId} {cs : Array Value}
end
section
variable {P : Program} {w : World}
end
theorem same_f (l m : List ByteArray) (h : l ≠ m) (A A' : Option Addr) (n n' c c' B B' : Nat) (w : World) (hn : l.length = n) (hn' : m.length = n') (hl : Rd w B 1 A n (sv l)) (hm : Rd w B' 1 A' n' (sv m)) (hb : n ≤ 140737488355328) (hb' : n' ≤ 140737488355328) :
  Calls Tryz.prog 15 #[.slice A n c, .slice A' n' c'] w (Quiet (.bool false) w) := by
 subst hn hn'
 exact (same l m A A' c c' (max B B') w (hl.more (Nat.le_max_left _ _)) (hm.more (Nat.le_max_right _ _)) hb hb').mono fun _ _ x => x.t (by simp [h])
end Go.Proofs.YtejjfiipghcifaaGreatDoor
namespace Go.Proofs.YtejjfiipghcifaaGreatDoor
theorem valK_wb (i : Nat) (h : i < 28) : valK 28 (wb i) = some (valI i) := by
 have : ∀ i : Fin 28, valK 28 (wb i.val) = some (valI i.val) := by decide +kernel
 exact this ⟨i, h⟩
theorem wb_ne (i j : Nat) (h : i < 32) (k : j < 32) (hne : i ≠ j) : wb i ≠ wb j := by
 have : ∀ i j : Fin 32, i ≠ j → wb i.val ≠ wb j.val := by decide +kernel
 exact this ⟨i, h⟩ ⟨j, k⟩ (by intro e; injection e with e; exact hne e)
theorem step_val (a p : Int) (i : Nat) (h : i < 28) (ha : a ≤ 999999999) (hp : p + valI i ≤ 999999999) : stepN a p (wb i) = some (a, p + valI i) := by
 unfold stepN swN
 rw [if_neg (wb_ne _ _ (by omega) (by omega) (by omega)), if_neg (wb_ne _ _ (by omega) (by omega) (by omega)), if_neg (wb_ne _ _ (by omega) (by omega) (by omega)), if_neg (wb_ne _ _ (by omega) (by omega) (by omega)), valK_wb i h]
 simp only
 rw [if_neg (by omega)]
theorem step_hundred (a p : Int) (ha : a ≤ 999999999) (hp : p * 100 ≤ 999999999) : stepN a p (wb 28) = some (a, p * 100) := by
 unfold stepN swN
 rw [if_neg (wb_ne _ _ (by omega) (by omega) (by omega)), if_pos rfl]
 simp only
 rw [if_neg (by omega)]
theorem step_thousand (a p : Int) (ha : a + 1000 * p ≤ 999999999) : stepN a p (wb 29) = some (a + 1000 * p, 0) := by
 unfold stepN swN
 rw [if_neg (wb_ne _ _ (by omega) (by omega) (by omega)), if_neg (wb_ne _ _ (by omega) (by omega) (by omega)), if_pos rfl]
 simp only
 rw [if_neg (by omega)]
theorem step_million (a p : Int) (ha : a + 1000000 * p ≤ 999999999) : stepN a p (wb 30) = some (a + 1000000 * p, 0) := by
 unfold stepN swN
 rw [if_neg (wb_ne _ _ (by omega) (by omega) (by omega)), if_neg (wb_ne _ _ (by omega) (by omega) (by omega)), if_neg (wb_ne _ _ (by omega) (by omega) (by omega)), if_pos rfl]
 simp only
 rw [if_neg (by omega)]
theorem step_minus (a p : Int) (ha : a ≤ 999999999) (hp : p ≤ 999999999) : stepN a p (wb 31) = some (a, p) := by
 unfold stepN swN
 rw [if_pos rfl]
 simp only
 rw [if_neg (by omega)]
theorem loop_cons {s : ByteArray} {t : List ByteArray} {a p a' p' : Int} (h : stepN a p s = some (a', p')) : loopN (s :: t) a p = loopN t a' p' := by
 rw [loopN, h]
theorem loop_small (q : Nat) (hq : q < 1000) (a : Int) (ha : a ≤ 999999999) (t : List ByteArray) : loopN ((smallL q).map wb ++ t) a 0 = loopN t a q := by
 have hT : ∀ (j : Nat) (p : Int), j < 20 → p + j ≤ 999999999 → loopN ((smallT j).map wb ++ t) a p = loopN t a (p + j) := by
  intro j p hj hp
  unfold smallT
  by_cases h : 0 < j
  ·rw [if_pos h]
   have hv : valI j = j := by unfold valI; rw [if_neg (by omega)]
   simp only [List.map_cons, List.map_nil, List.cons_append, List.nil_append]
   rw [loop_cons (step_val a p j (by omega) ha (by omega)), hv]
  ·obtain rfl : j = 0 := by omega
   simp
 have hS : ∀ (k : Nat) (p : Int), k < 100 → p + k ≤ 999999999 → loopN ((smallS k).map wb ++ ((smallT (if 20 ≤ k then k % 10 else k)).map wb ++ t)) a p = loopN t a (p + k) := by
  intro k p hk hp
  unfold smallS
  by_cases h : 20 ≤ k
  ·rw [if_pos h, if_pos h]
   have hv : valI (18 + k / 10) = 10 * (k / 10 : Nat) := by unfold valI; split <;> omega
   simp only [List.map_cons, List.map_nil, List.cons_append, List.nil_append]
   rw [loop_cons (step_val a p (18 + k / 10) (by omega) ha (by rw [hv]; omega)), hv, hT _ _ (by omega) (by omega)]
   congr 1
   omega
  ·rw [if_neg h, if_neg h]
   simp only [List.map_nil, List.nil_append]
   rw [hT _ _ (by omega) (by omega)]
 unfold smallL smallR
 by_cases h : 100 ≤ q
 ·simp only [if_pos h, List.map_append, List.map_cons, List.cons_append, List.nil_append, List.append_assoc]
  have hv : valI (q / 100) = (q / 100 : Nat) := by unfold valI; rw [if_neg (by omega)]
  rw [loop_cons (step_val a 0 (q / 100) (by omega) ha (by rw [hv]; omega)), hv, loop_cons (step_hundred a _ ha (by omega)), hS _ _ (by omega) (by omega)]
  congr 1
  omega
 ·simp only [if_neg h, List.map_append, List.nil_append, List.append_assoc]
  rw [hS _ _ (by omega) (by omega)]
  congr 1
  omega
theorem loop_pos (m : Nat) (hm : m ≤ 999999999) : ∃ a p : Int, loopN ((posL m).map wb) 0 0 = some (a, p) ∧ a + p = m := by
 rw [posL_eq]
 have h1 : ∀ t, loopN ((segL (m / 1000000) 30).map wb ++ t) 0 0 = loopN t (1000000 * (m / 1000000 : Nat)) 0 := by
  intro t
  unfold segL
  by_cases h : 0 < m / 1000000
  ·rw [if_pos h]
   simp only [List.map_append, List.map_cons, List.map_nil, List.append_assoc, List.cons_append, List.nil_append]
   rw [loop_small _ (by omega) 0 (by omega), loop_cons (step_million _ _ (by omega))]
   congr 1
   omega
  ·rw [if_neg h]
   have : m / 1000000 = 0 := by omega
   simp [this]
 have h2 : ∀ t, loopN ((segL (m % 1000000 / 1000) 29).map wb ++ t) (1000000 * (m / 1000000 : Nat)) 0 = loopN t (1000000 * (m / 1000000 : Nat) + 1000 * (m % 1000000 / 1000 : Nat)) 0 := by
  intro t
  unfold segL
  by_cases h : 0 < m % 1000000 / 1000
  ·rw [if_pos h]
   simp only [List.map_append, List.map_cons, List.map_nil, List.append_assoc, List.cons_append, List.nil_append]
   rw [loop_small _ (by omega) _ (by omega), loop_cons (step_thousand _ _ (by omega))]
  ·rw [if_neg h]
   have : m % 1000000 / 1000 = 0 := by omega
   rw [this]
   simp
 have h3 : loopN ((segE (m % 1000000 % 1000)).map wb) (1000000 * (m / 1000000 : Nat) + 1000 * (m % 1000000 / 1000 : Nat)) 0 = some ((1000000 * (m / 1000000 : Nat) + 1000 * (m % 1000000 / 1000 : Nat) : Int), ((m % 1000000 % 1000 : Nat) : Int)) := by
  unfold segE
  by_cases h : 0 < m % 1000000 % 1000
  ·rw [if_pos h]
   have := loop_small (m % 1000000 % 1000) (by omega) (1000000 * (m / 1000000 : Nat) + 1000 * (m % 1000000 / 1000 : Nat)) (by omega) []
   rw [List.append_nil] at this
   rw [this, loopN]
  ·rw [if_neg h]
   have : m % 1000000 % 1000 = 0 := by omega
   rw [this]
   rfl
 have h4 : loopN ((segL (m / 1000000) 30 ++ segL (m % 1000000 / 1000) 29 ++ segE (m % 1000000 % 1000)).map wb) 0 0 = some ((1000000 * (m / 1000000 : Nat) + 1000 * (m % 1000000 / 1000 : Nat) : Int), ((m % 1000000 % 1000 : Nat) : Int)) := by
  rw [List.map_append, List.map_append, List.append_assoc, h1, h2, h3]
 exact ⟨_, _, h4, by omega⟩
theorem number_words (n : Int) (h1 : -999999999 ≤ n) (h2 : n ≤ 999999999) : numberL ((wordsL n).map wb) = some n := by
 have hlen := wordsL_le n
 have hpos : 0 < (wordsL n).length := by
  rcases wordsL_pos n with h | h
  ·exact h
  ·omega
 have hck : checkN ((wordsL n).map wb) n = some n := by unfold checkN; rw [if_pos ⟨h1, h2, rfl⟩]
 unfold numberL
 rw [if_neg (by rw [List.length_map]; omega)]
 by_cases h0 : n = 0
 ·subst h0
  decide +kernel
 ·obtain ⟨i, t, e, hi⟩ := pos_head n.natAbs (by omega) (by omega)
  obtain ⟨a, p, hl, hap⟩ := loop_pos n.natAbs (by omega)
  by_cases hneg : n < 0
  ·have hw : wordsL n = 31 :: posL n.natAbs := by unfold wordsL; rw [if_neg h0, if_pos hneg]; rfl
   have hlo : loopN ((wordsL n).map wb) 0 0 = some (a, p) := by rw [hw, List.map_cons, loop_cons (step_minus 0 0 (by omega) (by omega)), hl]
   have hs : signN ((wordsL n).map wb) (a + p) = n := by
    rw [hw]
    show (if some (wb 31) = some (wb 31) then -(a + p) else a + p) = n
    rw [if_pos rfl]
    omega
   rw [hlo]
   simp only
   rw [hs, hck]
  ·have hw : wordsL n = posL n.natAbs := by unfold wordsL; rw [if_neg h0, if_neg hneg]; rfl
   have hlo : loopN ((wordsL n).map wb) 0 0 = some (a, p) := by rw [hw, hl]
   have hs : signN ((wordsL n).map wb) (a + p) = n := by
    rw [hw, e]
    unfold signN
    rw [if_neg (by
     simp only [List.map_cons, List.head?_cons, Option.some.injEq]
     exact wb_ne _ _ (by omega) (by omega) (by omega))]
    omega
   rw [hlo]
   simp only
   rw [hs, hck]
end Go.Proofs.YtejjfiipghcifaaGreatDoor
namespace Go.Proofs.YtejjfiipghcifaaGreatDoor
open Go.RowKit
set_option maxRecDepth 20000
theorem byV_len (l : List Nat) : (byV l).length = l.length := by simp [byV]
theorem byV_get (l : List Nat) (k : Nat) (h : k < l.length) : (byV l)[k]? = some (.int .u8 (l[k] : Int)) := by simp [byV, h]
theorem encS_one (r : Nat) : encS [r] = encB r := by
 unfold encS encB
 simp [encL_]
theorem chV_new (w : World) (r : Nat) (e : TypeId) : Rd (w.alloc (.cells #[.int .i32 (r : Int)] e)) (w.alloc (.cells #[.int .i32 (r : Int)] e)).heap.size 1 (some ⟨w.heap.size, 0, none⟩) 1 (chV [r]) := Rd.more (rd_built (xs := chV [r]) rfl rfl) (by simp)
set_option maxHeartbeats 1000000 in
theorem rencode1 (r : Nat) (hr : isChN r) (w : World) : Calls Tryz.prog 177 #[.int .i32 (r : Int)] w (Gives (.string (encB r)) w) := by
 have HE : Hid (∀ (A : Option Addr) (c : Nat) (w : World), Rd w w.heap.size 1 A 1 (chV [r]) → Calls Tryz.prog 115 #[.slice A 1 c] w (Gives (.string (encB r)) w)) := Lib.hid fun A c w rd => by
  rw [← encS_one]
  exact rencode [r] (fun x hx => by rw [List.mem_singleton] at hx; subst hx; exact hr) A 1 c w.heap.size w rfl (by omega) rd (Nat.le_refl _)
 generalize encB r = E at *
 go_enter Tryz.func177, Tryz.ntmps177
 go_wp2_with (go_at_call 115; refine (HE.out _ _ _ (chV_new _ r _)).mono ?_; rintro e w1 ⟨rfl, hbel1⟩)
 go_ret
 exact ⟨rfl, ((Below.refl _ _).alloc (Nat.le_refl _) _).trans (hbel1.mono (by simp))⟩
end Go.Proofs.YtejjfiipghcifaaGreatDoor
namespace Go.Proofs.YtejjfiipghcifaaGreatDoor
open Go.RowKit
set_option maxRecDepth 20000
set_option maxHeartbeats 2000000 in
theorem rattach (s : ByteArray) (hs : s.size ≤ 1000000000) (r : Nat) (hr : isChN r) (w : World) :
  Calls Tryz.prog 154 #[.string s, .int .i32 (r : Int)] w (Gives (attV (attachC s (r : Int))) w) := by
 have HK := Lib.hid (rcheck s hs w)
 have HM := Lib.hid (rmark (r : Int))
 unfold attachC
 by_cases hc : checkC s = 0
 ·rw [if_neg (by simp [hc])]
  rw [hc] at HK
  generalize hmk : inT markT (r : Int) = M at *
  cases M with
  | false =>
   rw [if_pos rfl]
   go_enter Tryz.func154, Tryz.ntmps154
   go_wp2_with (first
    | (go_at_call 71; refine HK.out.mono ?_; rintro e w1 ⟨rfl, hbel1⟩)
    | (go_at_call 95; refine (HM.out _).mono ?_; rintro e w2 ⟨rfl, hbel2⟩))
   go_ret2
   exact ⟨rfl, hbel1.trans (hbel2.mono hbel1.size)⟩
  | true =>
   rw [if_neg (by simp)]
   have HL := Lib.hid (rcharacters s hs)
   have HE := Lib.hid (rencode1 r hr)
   have hpos : (charsL (bytN s)).length ≤ 4 := by
    obtain ⟨_, r, t, hL, _, _, h3⟩ := checkC_zero.1 hc
    rw [hL]; simp; omega
   have HS : Hid ((encB r).size ≤ 4) := Lib.hid (by
    have := (encN_pos r).2
    show (List.toArray _).size ≤ 4
    simpa using this)
   have hto : (r : Int).toNat = r := rfl
   rw [hto]
   generalize charsL (bytN s) = L at *
   generalize encB r = E at *
   clear hc hmk
   by_cases h4 : 4 ≤ L.length
   ·rw [if_pos h4]
    go_enter Tryz.func154, Tryz.ntmps154
    go_wp2_with (first
     | (go_at_call 71; refine HK.out.mono ?_; rintro e w1 ⟨rfl, hbel1⟩)
     | (go_at_call 95; refine (HM.out _).mono ?_; rintro e w2 ⟨rfl, hbel2⟩; have t2 := hbel1.trans (hbel2.mono hbel1.size))
     | (go_at_call 85; refine (HL.out _).mono ?_; rintro e w3 ⟨A3, c3, rfl, _, hbel3⟩; have t3 := t2.trans (hbel3.mono t2.size); have zl : ((L.length : Int) == 4) = true := beq_iff_eq.2 (by omega)))
    go_ret2
    exact ⟨rfl, t3⟩
   ·rw [if_neg h4]
    have hS := HS.out
    go_enter Tryz.func154, Tryz.ntmps154
    go_wp2_with (first
     | (go_at_call 71; refine HK.out.mono ?_; rintro e w1 ⟨rfl, hbel1⟩)
     | (go_at_call 95; refine (HM.out _).mono ?_; rintro e w2 ⟨rfl, hbel2⟩; have t2 := hbel1.trans (hbel2.mono hbel1.size))
     | (go_at_call 85; refine (HL.out _).mono ?_; rintro e w3 ⟨A3, c3, rfl, _, hbel3⟩; have t3 := t2.trans (hbel3.mono t2.size); have zl : ((L.length : Int) == 4) = false := beq_eq_false_iff_ne.2 (by omega))
     | (go_at_call 177; refine (HE.out _).mono ?_; rintro e w4 ⟨rfl, hbel4⟩))
    go_ret2
    exact ⟨rfl, t3.trans (hbel4.mono t3.size)⟩
 ·rw [if_pos hc]
  generalize checkC s = K at *
  have hcb : (K != 0) = true := bne_iff_ne.2 hc
  clear hc
  go_enter Tryz.func154, Tryz.ntmps154
  go_wp2_with (go_at_call 71; refine HK.out.mono ?_; rintro e w1 ⟨rfl, hbel1⟩)
  go_ret2
  exact ⟨rfl, hbel1⟩
end Go.Proofs.YtejjfiipghcifaaGreatDoor
namespace Go.Proofs.YtejjfiipghcifaaGreatDoor
open Go.RowKit
set_option maxRecDepth 20000
theorem wrap_k1 (k : Nat) (hk : k ≤ 15) : wrap64 ((k : Int) + 1) = (k : Int) + 1 := by unfold wrap64; omega
theorem wrap_km (k m : Nat) (hk : k ≤ 15) (hm : m ≤ 500000) : wrap64 ((k : Int) + 1 + (m : Int)) = (k : Int) + 1 + (m : Int) := by unfold wrap64; omega
end Go.Proofs.YtejjfiipghcifaaGreatDoor
namespace Go.Proofs.YtejjfiipghcifaaGreatDoor
open Go.RowKit
set_option maxHeartbeats 400000 in
theorem rwords_range (n : Int) (h : n < -999999999 ∨ 999999999 < n) (w : World) :
  Calls Tryz.prog 45 #[.int .i64 n] w (Gives (.tuple #[.slice none 0 0, .int .i64 2]) w) := by
 rcases h with h | h
 ·go_enter Tryz.func45, Tryz.ntmps45
  go_wp2
  go_ret2
  exact ⟨rfl, Below.refl _ _⟩
 ·have h' : ¬ n < -999999999 := by omega
  go_enter Tryz.func45, Tryz.ntmps45
  go_wp2
  go_ret2
  exact ⟨rfl, Below.refl _ _⟩
end Go.Proofs.YtejjfiipghcifaaGreatDoor
namespace Go.Proofs.YtejjfiipghcifaaGreatDoor
open Go.RowKit
def swR (a g : Int) (s : ByteArray) : Int × Int :=
 if s = wb 28 then (a, wrap64 (100 * g)) else if s = wb 29 then (wrap64 (a + wrap64 (1000 * g)), 0) else if s = wb 30 then (wrap64 (a + wrap64 (1000000 * g)), 0) else (a, g)
def unitsR (s : ByteArray) (g : Int) : Nat → Int
 | 0 => g
 | k + 1 => if wb k = s then wrap64 (unitsR s g k + k) else unitsR s g k
def tensR (s : ByteArray) (g : Int) : Nat → Int
 | 0 => g
 | k + 1 => if wb (20 + k) = s then wrap64 (wrap64 (tensR s g k + 10 * k) + 20) else tensR s g k
def stepR (x : Int × Int) (s : ByteArray) : Int × Int := ((swR x.1 x.2 s).1, tensR s (unitsR s (swR x.1 x.2 s).2 20) 8)
def valR (l : List ByteArray) : Int :=
 let x := l.foldl stepR (0, 0)
 if l.head? = some (wb 31) then wrap64 (wrap64 (-x.1) - x.2) else wrap64 (x.1 + x.2)
def refNumberL (l : List ByteArray) : Option Int := if l.length = 0 ∨ 15 < l.length then none else checkN l (valR l)
def refPrefN (l : List ByteArray) : Nat → Option (Int × Nat)
 | 0 => none
 | k + 1 => match refNumberL (l.take (k + 1)) with
  | some n => some (n, k + 1)
  | none => refPrefN l k
theorem w64 (n : Int) (h1 : -9223372036854775808 ≤ n) (h2 : n ≤ 9223372036854775807) : wrap64 n = n := IntWalk.wrap64_in n ⟨h1, h2⟩
theorem unitsR_miss (s : ByteArray) (g : Int) : ∀ k, (∀ i, i < k → wb i ≠ s) → unitsR s g k = g := by
 intro k
 induction k with
 | zero => intro _; rfl
 | succ k ih =>
  intro h
  rw [unitsR, if_neg (h k (by omega)), ih (fun i hi => h i (by omega))]
theorem unitsR_hit (i : Nat) (g : Int) : ∀ k, k ≤ 20 → i < k → unitsR (wb i) g k = wrap64 (g + i) := by
 intro k
 induction k with
 | zero => intro _ h; omega
 | succ k ih =>
  intro h1 h2
  rw [unitsR]
  by_cases e : i = k
  ·subst e
   rw [if_pos rfl, unitsR_miss _ _ _ (fun j hj => wb_ne j i (by omega) (by omega) (by omega))]
  ·rw [if_neg (wb_ne k i (by omega) (by omega) (by omega)), ih (by omega) (by omega)]
theorem tensR_miss (s : ByteArray) (g : Int) : ∀ k, (∀ i, i < k → wb (20 + i) ≠ s) → tensR s g k = g := by
 intro k
 induction k with
 | zero => intro _; rfl
 | succ k ih =>
  intro h
  rw [tensR, if_neg (h k (by omega)), ih (fun i hi => h i (by omega))]
theorem tensR_hit (i : Nat) (g : Int) : ∀ k, k ≤ 8 → i < k → tensR (wb (20 + i)) g k = wrap64 (wrap64 (g + 10 * i) + 20) := by
 intro k
 induction k with
 | zero => intro _ h; omega
 | succ k ih =>
  intro h1 h2
  rw [tensR]
  by_cases e : i = k
  ·subst e
   rw [if_pos rfl, tensR_miss _ _ _ (fun j hj => wb_ne _ _ (by omega) (by omega) (by omega))]
  ·rw [if_neg (wb_ne _ _ (by omega) (by omega) (by omega)), ih (by omega) (by omega)]
theorem valK_inv (k : Nat) (s : ByteArray) (v : Int) (h : valK k s = some v) : ∃ i, i < k ∧ s = wb i ∧ v = valI i := by
 induction k with
 | zero => cases h
 | succ k ih =>
  rw [valK] at h
  split at h
  ·rename_i hs
   injection h with h
   exact ⟨k, by omega, hs, h.symm⟩
  ·obtain ⟨i, a, b, c⟩ := ih h
   exact ⟨i, by omega, b, c⟩
theorem miss_big (j : Nat) (hj : 28 ≤ j) (hj2 : j < 32) (g : Int) : tensR (wb j) (unitsR (wb j) g 20) 8 = g := by
 rw [tensR_miss _ _ _ (fun i hi => wb_ne _ _ (by omega) (by omega) (by omega)), unitsR_miss _ _ _ (fun i hi => wb_ne _ _ (by omega) (by omega) (by omega))]
theorem step_same (a p a' p' : Int) (s : ByteArray) (h : stepN a p s = some (a', p')) (ha0 : 0 ≤ a) (ha : a ≤ 999999999) (hp0 : 0 ≤ p) (hp : p ≤ 999999999) : stepR (a, p) s = (a', p') ∧ 0 ≤ a' ∧ a' ≤ 999999999 ∧ 0 ≤ p' ∧ p' ≤ 999999999 := by
 unfold stepN at h
 cases hsw : swN a p s with
 | none => rw [hsw] at h; cases h
 | some x =>
  obtain ⟨a1, p1⟩ := x
  rw [hsw] at h
  simp only at h
  have hb := swN_bd a p s a1 p1 hsw ha0 ha hp0 hp
  split at h
  ·cases h
  rename_i hbig
  simp only [Option.some.injEq, Prod.mk.injEq] at h
  obtain ⟨rfl, rfl⟩ := h
  refine ⟨?_, hb.1, by omega, hb.2.2.1, by omega⟩
  unfold swN at hsw
  unfold stepR swR
  simp only
  split at hsw
  ·rename_i e
   subst e
   simp only [Option.some.injEq, Prod.mk.injEq] at hsw
   obtain ⟨rfl, rfl⟩ := hsw
   rw [if_neg (wb_ne _ _ (by omega) (by omega) (by omega)), if_neg (wb_ne _ _ (by omega) (by omega) (by omega)), if_neg (wb_ne _ _ (by omega) (by omega) (by omega)), miss_big 31 (by omega) (by omega)]
  split at hsw
  ·rename_i e
   subst e
   simp only [Option.some.injEq, Prod.mk.injEq] at hsw
   obtain ⟨rfl, rfl⟩ := hsw
   rw [if_pos rfl, miss_big 28 (by omega) (by omega)]
   simp only
   rw [w64 _ (by omega) (by omega), Int.mul_comm]
  split at hsw
  ·rename_i e
   subst e
   simp only [Option.some.injEq, Prod.mk.injEq] at hsw
   obtain ⟨rfl, rfl⟩ := hsw
   rw [if_neg (wb_ne _ _ (by omega) (by omega) (by omega)), if_pos rfl, miss_big 29 (by omega) (by omega)]
   simp only
   rw [w64 (1000 * p) (by omega) (by omega), w64 _ (by omega) (by omega)]
  split at hsw
  ·rename_i e
   subst e
   simp only [Option.some.injEq, Prod.mk.injEq] at hsw
   obtain ⟨rfl, rfl⟩ := hsw
   rw [if_neg (wb_ne _ _ (by omega) (by omega) (by omega)), if_neg (wb_ne _ _ (by omega) (by omega) (by omega)), if_pos rfl, miss_big 30 (by omega) (by omega)]
   simp only
   rw [w64 (1000000 * p) (by omega) (by omega), w64 _ (by omega) (by omega)]
  rename_i n31 n28 n29 n30
  cases hv : valK 28 s with
  | none => rw [hv] at hsw; cases hsw
  | some v =>
   rw [hv] at hsw
   simp only [Option.some.injEq, Prod.mk.injEq] at hsw
   obtain ⟨rfl, rfl⟩ := hsw
   obtain ⟨i, hi, rfl, rfl⟩ := valK_inv _ _ _ hv
   rw [if_neg n28, if_neg n29, if_neg n30]
   simp only
   have hvb := valI_bd i hi
   by_cases h20 : i < 20
   ·rw [unitsR_hit i p 20 (by omega) h20, tensR_miss _ _ _ (fun j hj => wb_ne _ _ (by omega) (by omega) (by omega))]
    unfold valI
    rw [if_neg (by omega), w64 _ (by omega) (by omega)]
   ·obtain ⟨j, rfl⟩ : ∃ j, i = 20 + j := ⟨i - 20, by omega⟩
    rw [unitsR_miss _ _ _ (fun j hj => wb_ne _ _ (by omega) (by omega) (by omega)), tensR_hit j p 8 (by omega) (by omega), w64 (p + 10 * j) (by omega) (by omega), w64 _ (by omega) (by omega)]
    unfold valI
    split <;> (congr 1; omega)
theorem loop_same : ∀ (l : List ByteArray) (a p a' p' : Int), loopN l a p = some (a', p') → 0 ≤ a → a ≤ 999999999 → 0 ≤ p → p ≤ 999999999 → l.foldl stepR (a, p) = (a', p') ∧ 0 ≤ a' ∧ a' ≤ 999999999 ∧ 0 ≤ p' ∧ p' ≤ 999999999 := by
 intro l
 induction l with
 | nil =>
  intro a p a' p' h h1 h2 h3 h4
  rw [loopN] at h
  simp only [Option.some.injEq, Prod.mk.injEq] at h
  obtain ⟨rfl, rfl⟩ := h
  exact ⟨rfl, h1, h2, h3, h4⟩
 | cons s t ih =>
  intro a p a' p' h h1 h2 h3 h4
  rw [loopN] at h
  cases hs : stepN a p s with
  | none => rw [hs] at h; cases h
  | some x =>
   obtain ⟨a1, p1⟩ := x
   rw [hs] at h
   obtain ⟨e, b1, b2, b3, b4⟩ := step_same a p a1 p1 s hs h1 h2 h3 h4
   rw [List.foldl_cons, e]
   exact ih a1 p1 a' p' h b1 b2 b3 b4
theorem val_of_number {l : List ByteArray} {n : Int} (h : numberL l = some n) : valR l = n := by
 unfold numberL at h
 split at h
 ·cases h
 cases hl : loopN l 0 0 with
 | none => rw [hl] at h; cases h
 | some x =>
  obtain ⟨a, p⟩ := x
  rw [hl] at h
  simp only at h
  obtain ⟨e, b1, b2, b3, b4⟩ := loop_same l 0 0 a p hl (by omega) (by omega) (by omega) (by omega)
  unfold checkN at h
  split at h
  ·injection h with h
   subst h
   unfold valR signN
   rw [e]
   simp only
   split
   ·rw [w64 (-a) (by omega) (by omega), w64 _ (by omega) (by omega)]
    omega
   ·rw [w64 _ (by omega) (by omega)]
  ·cases h
theorem refNumber_eq (l : List ByteArray) : refNumberL l = numberL l := by
 cases hn : numberL l with
 | some n =>
  have hv := val_of_number hn
  obtain ⟨h1, h2, h3, h4, h5⟩ := number_some hn
  unfold refNumberL
  rw [if_neg (by omega), hv]
  unfold checkN
  rw [if_pos ⟨h1, h2, h3⟩]
 | none =>
  cases hr : refNumberL l with
  | none => rfl
  | some n =>
   exfalso
   unfold refNumberL at hr
   split at hr
   ·cases hr
   unfold checkN at hr
   split at hr
   ·rename_i hc
    obtain ⟨h1, h2, h3⟩ := hc
    have := number_words (valR l) h1 h2
    rw [h3, hn] at this
    cases this
   ·cases hr
theorem refPref_eq (l : List ByteArray) : refPrefN l l.length = prefixL l := by
 have h1 : ∀ k, refPrefN l k = prefN l k := by
  intro k
  induction k with
  | zero => rfl
  | succ k ih =>
   rw [refPrefN, prefN, refNumber_eq, ih]
   cases numberL (l.take (k + 1)) <;> rfl
 unfold prefixL
 rw [h1]
 rcases Nat.lt_or_ge l.length 16 with h | h
 ·rw [Nat.min_eq_left (by omega)]
 ·rw [Nat.min_eq_right (by omega)]
  obtain ⟨d, hd⟩ : ∃ d, l.length = 15 + d := ⟨l.length - 15, by omega⟩
  have : ∀ d, 15 + d ≤ l.length → prefN l (15 + d) = prefN l 15 := by
   intro d
   induction d with
   | zero => intro _; rfl
   | succ d ih =>
    intro hle
    rw [show 15 + (d + 1) = (15 + d) + 1 from rfl, prefN, number_take_long l _ (by omega) (by omega)]
    exact ih (by omega)
  rw [hd]
  exact this d (by omega)
theorem foldl_take_succ (l : List ByteArray) (k : Nat) (h : k < l.length) (x : Int × Int) : (l.take (k + 1)).foldl stepR x = stepR ((l.take k).foldl stepR x) l[k] := by
 rw [List.take_succ_eq_append_getElem h, List.foldl_append]
 rfl
set_option maxHeartbeats 2000000 in
theorem rvalue (l : List ByteArray) (A : Option Addr) (n c B : Nat) (w : World) (hn : l.length = n) (hl : Rd w B 1 A n (sv l)) (hbig : n ≤ maxLen) (ht : Tb w) :
  Calls Tryz.prog 100 #[.slice A n c] w (Quiet (.int .i64 (valR l)) w) := by
 have hb2 : n ≤ 9223372036854775807 := by unfold maxLen at hbig; omega
 have Hn := Lib.hid hn
 have HT := Lib.hid ht
 have HV : Hid (∀ a g, l.foldl stepR (0, 0) = (a, g) → valR l = if l.head? = some (wb 31) then wrap64 (wrap64 (-a) - g) else wrap64 (a + g)) := Lib.hid fun a g h => by
  unfold valR
  rw [h]
 clear hn ht hbig
 generalize valR l = R at *
 go_enter Tryz.func100, Tryz.ntmps100
 go_wp2
 go_loopw [3, 4, 5] (fun x y z wr => ∃ (k j : Nat) (a g : Int), k ≤ n ∧ z = .int .i64 k ∧ x = .int .i64 a ∧ y = .int .i64 g ∧ wr = w.drewN j ∧ Hid ((l.take k).foldl stepR (0, 0) = (a, g))) (fun _ _ z _ => n - (intOf z).toNat)
 case atStart => exact ⟨0, 0, 0, 0, Nat.zero_le _, rfl, rfl, rfl, rfl, Lib.hid rfl⟩
 case round =>
  obtain ⟨k, j, a, g, hk, rfl, rfl, rfl, rfl, HF⟩ := hrel
  by_cases hlt : k < n
  ·obtain ⟨b, o, rfl, hbB, hc⟩ := hl.at_ hlt
   have hkl : k < l.length := by rw [Hn.out]; exact hlt
   rw [sv_get _ _ hkl] at hc
   have HS : Hid ((l.take (k + 1)).foldl stepR (0, 0) = stepR (a, g) l[k]) := Lib.hid (by rw [foldl_take_succ l k hkl, HF.out])
   generalize l[k] = s at *
   have HS2 : Hid ((l.take (k + 1)).foldl stepR (0, 0) = ((swR a g s).1, tensR s (unitsR s (swR a g s).2 20) 8)) := Lib.hid HS.out
   have t28 := lit_beq s (wb 28) [104, 117, 110, 100, 114, 101, 100] rfl
   have t29 := lit_beq s (wb 29) [116, 104, 111, 117, 115, 97, 110, 100] rfl
   have t30 := lit_beq s (wb 30) [109, 105, 108, 108, 105, 111, 110] rfl
   go_upto_block 2 with (fail)
   go_cut [3, 4] (fun x y wx => wx = w.drewN j ∧ x = .int .i64 (swR a g s).1 ∧ y = .int .i64 (swR a g s).2)
   case first =>
    by_cases c28 : s = wb 28
    ·have d28 : (s.toList == [104, 117, 110, 100, 114, 101, 100]) = true := by rw [t28]; simp [c28]
     have HH : Hid (swR a g s = (a, wrap64 (100 * g))) := Lib.hid (by unfold swR; rw [if_pos c28])
     clear t28 t29 t30 c28
     go_wp2_with fail
     go_meet
     rw [HH.out]
     exact ⟨rfl, rfl, rfl⟩
    have d28 : (s.toList == [104, 117, 110, 100, 114, 101, 100]) = false := by rw [t28]; simp [c28]
    by_cases c29 : s = wb 29
    ·have d29 : (s.toList == [116, 104, 111, 117, 115, 97, 110, 100]) = true := by rw [t29]; simp [c29]
     have HH : Hid (swR a g s = (wrap64 (a + wrap64 (1000 * g)), 0)) := Lib.hid (by unfold swR; rw [if_neg c28, if_pos c29])
     clear t28 t29 t30 c28 c29
     go_wp2_with fail
     go_meet
     rw [HH.out]
     exact ⟨rfl, rfl, rfl⟩
    have d29 : (s.toList == [116, 104, 111, 117, 115, 97, 110, 100]) = false := by rw [t29]; simp [c29]
    by_cases c30 : s = wb 30
    ·have d30 : (s.toList == [109, 105, 108, 108, 105, 111, 110]) = true := by rw [t30]; simp [c30]
     have HH : Hid (swR a g s = (wrap64 (a + wrap64 (1000000 * g)), 0)) := Lib.hid (by unfold swR; rw [if_neg c28, if_neg c29, if_pos c30])
     clear t28 t29 t30 c28 c29 c30
     go_wp2_with fail
     go_meet
     rw [HH.out]
     exact ⟨rfl, rfl, rfl⟩
    have d30 : (s.toList == [109, 105, 108, 108, 105, 111, 110]) = false := by rw [t30]; simp [c30]
    have HH : Hid (swR a g s = (a, g)) := Lib.hid (by unfold swR; rw [if_neg c28, if_neg c29, if_neg c30])
    clear t28 t29 t30 c28 c29 c30
    go_wp2_with fail
    go_meet
    rw [HH.out]
    exact ⟨rfl, rfl, rfl⟩
   case rest =>
    obtain ⟨rfl, rfl, rfl⟩ := hcut
    clear t28 t29 t30 HS
    generalize (swR a g s).1 = a1 at *
    generalize (swR a g s).2 = g1 at *
    go_wp2_with fail
    go_loopw [4, 6] (fun y z wr => ∃ (i j : Nat) (g : Int), i ≤ 20 ∧ z = .int .i64 i ∧ y = .int .i64 g ∧ wr = w.drewN j ∧ Hid (g = unitsR s g1 i)) (fun _ z _ => 20 - (intOf z).toNat)
    case atStart => exact ⟨0, j, g1, by omega, rfl, rfl, rfl, Lib.hid rfl⟩
    case round =>
     obtain ⟨i, j1, g2, hi, rfl, rfl, rfl, HG⟩ := hrel
     by_cases hi20 : i < 20
     ·have hcu := HT.out.1 i hi20
      have HU : Hid (unitsR s g1 (i + 1) = if wb i = s then wrap64 (g2 + i) else g2) := Lib.hid (by rw [unitsR, HG.out])
      have HB := Lib.hid (str_beq (wb i) s)
      generalize wb i = u at *
      go_wp2
      go_quiet (fail)
      go_wp2
      ·rename_i he
       rw [HB.out, decide_eq_true_eq] at he
       exact ⟨⟨i + 1, _, _, by omega, by go_num, rfl, rfl, Lib.hid (by rw [HU.out, if_pos he])⟩, by simp [intOf]; omega⟩
      ·rename_i he
       rw [HB.out, decide_eq_false_iff_not] at he
       exact ⟨⟨i + 1, _, _, by omega, by go_num, rfl, rfl, Lib.hid (by rw [HU.out, if_neg he])⟩, by simp [intOf]; omega⟩
     ·obtain rfl : i = 20 := by omega
      go_wp2_with fail
      go_loopw [4, 7] (fun y z wr => ∃ (i j : Nat) (g : Int), i ≤ 8 ∧ z = .int .i64 i ∧ y = .int .i64 g ∧ wr = w.drewN j ∧ Hid (g = tensR s g2 i)) (fun _ z _ => 8 - (intOf z).toNat)
      case atStart => exact ⟨0, j1, g2, by omega, rfl, rfl, rfl, Lib.hid rfl⟩
      case round =>
       obtain ⟨i, j2, g3, hi, rfl, rfl, rfl, HG3⟩ := hrel
       by_cases hi8 : i < 8
       ·have hcu := HT.out.2 i hi8
        have HU : Hid (tensR s g2 (i + 1) = if wb (20 + i) = s then wrap64 (wrap64 (g3 + 10 * i) + 20) else g3) := Lib.hid (by rw [tensR, HG3.out])
        have HB := Lib.hid (str_beq (wb (20 + i)) s)
        generalize wb (20 + i) = u at *
        go_wp2
        go_quiet (fail)
        go_wp2
        ·rename_i he
         rw [HB.out, decide_eq_true_eq] at he
         exact ⟨⟨i + 1, _, _, by omega, by go_num, rfl, rfl, Lib.hid (by rw [HU.out, if_pos he])⟩, by simp [intOf]; omega⟩
        ·rename_i he
         rw [HB.out, decide_eq_false_iff_not] at he
         exact ⟨⟨i + 1, _, _, by omega, by go_num, rfl, rfl, Lib.hid (by rw [HU.out, if_neg he])⟩, by simp [intOf]; omega⟩
       ·obtain rfl : i = 8 := by omega
        have HX : Hid ((l.take (k + 1)).foldl stepR (0, 0) = (a1, g3)) := Lib.hid (by rw [HS2.out, HG3.out, HG.out])
        go_wp2_with fail
        exact ⟨⟨k + 1, _, _, _, by omega, by go_num, rfl, rfl, rfl, HX⟩, by simp [intOf]; omega⟩
  ·obtain rfl : k = n := by omega
   have HF2 : Hid (l.foldl stepR (0, 0) = (a, g)) := Lib.hid (by have := HF.out; rwa [List.take_of_length_le (by rw [Hn.out]; exact Nat.le_refl _)] at this)
   have HR := Lib.hid (HV.out a g HF2.out)
   by_cases h0 : 0 < k
   ·obtain ⟨b, o, rfl, hbB, hc⟩ := hl.at_ h0
    have hkl : 0 < l.length := by rw [Hn.out]; exact h0
    rw [sv_get _ _ hkl, Nat.add_zero] at hc
    have hh : l.head? = some l[0] := by
     cases l with
     | nil => simp at hkl
     | cons x t => rfl
    have t31 := lit_beq l[0] (wb 31) [109, 105, 110, 117, 115] rfl
    by_cases c31 : l[0] = wb 31
    ·have d31 : (l[0].toList == [109, 105, 110, 117, 115]) = true := by rw [t31]; simp [c31]
     have HR2 : Hid (R = wrap64 (wrap64 (-a) - g)) := Lib.hid (by rw [HR.out, if_pos (by rw [hh, c31])])
     clear t31 hh c31
     generalize l[0] = s at *
     go_wp2_with fail
     go_ret
     exact ⟨by rw [HR2.out]; rfl, j, rfl⟩
    ·have d31 : (l[0].toList == [109, 105, 110, 117, 115]) = false := by rw [t31]; simp [c31]
     have HR2 : Hid (R = wrap64 (a + g)) := Lib.hid (by rw [HR.out, if_neg (by rw [hh]; simpa using c31)])
     clear t31 hh c31
     generalize l[0] = s at *
     go_wp2_with fail
     go_ret
     exact ⟨by rw [HR2.out]; rfl, j, rfl⟩
   ·have hnil : l = [] := List.eq_nil_of_length_eq_zero (by rw [Hn.out]; omega)
    have HR2 : Hid (R = wrap64 (a + g)) := Lib.hid (by rw [HR.out, if_neg (by rw [hnil]; simp)])
    clear hnil
    go_wp2_with fail
    go_ret
    exact ⟨by rw [HR2.out]; rfl, j, rfl⟩
set_option maxHeartbeats 800000 in
theorem rnumber_short (l : List ByteArray) (A : Option Addr) (c : Nat) (w : World) (h : l.length = 0 ∨ 15 < l.length) :
  Calls Tryz.prog 76 #[.slice A l.length c] w (Gives (numPair (refNumberL l)) w) := by
 have hN : refNumberL l = none := by unfold refNumberL; rw [if_pos h]
 rw [hN]
 by_cases h0 : l.length = 0
 ·have e0 : ((l.length : Int) == 0) = true := by simp [h0]
  clear h h0
  go_enter Tryz.func76, Tryz.ntmps76
  go_wp2
  go_ret2
  exact ⟨rfl, Below.refl _ _⟩
 ·have e0 : ((l.length : Int) == 0) = false := beq_eq_false_iff_ne.2 (by omega)
  have e1 : 15 < l.length := by omega
  clear h h0
  go_enter Tryz.func76, Tryz.ntmps76
  go_wp2
  go_ret2
  exact ⟨rfl, Below.refl _ _⟩
set_option maxHeartbeats 800000 in
theorem rnumber_long (l : List ByteArray) (A : Option Addr) (n c : Nat) (w : World) (hn : l.length = n) (hl : Rd w w.heap.size 1 A n (sv l)) (h0 : 0 < n) (h1 : n ≤ 15) (ht : Tb w) :
  Calls Tryz.prog 76 #[.slice A n c] w (Gives (numPair (refNumberL l)) w) := by
 have e0 : ((n : Int) == 0) = false := beq_eq_false_iff_ne.2 (by omega)
 have Hn := Lib.hid hn
 have HT := Lib.hid ht
 have HN : Hid (refNumberL l = checkN l (valR l)) := Lib.hid (by unfold refNumberL; rw [if_neg (by omega)])
 have HV := Lib.hid (rvalue l A n c w.heap.size w hn hl (by unfold maxLen; omega) ht)
 clear hn ht
 generalize refNumberL l = R at *
 generalize valR l = v at *
 by_cases hin : -999999999 ≤ v ∧ v ≤ 999999999
 ·obtain ⟨i1, i2⟩ := hin
  have hle := wordsL_le v
  by_cases heq : (wordsL v).map wb = l
  ·have HR2 : Hid (R = some v) := Lib.hid (by rw [HN.out]; unfold checkN; rw [if_pos ⟨i1, i2, heq⟩])
   have HE := Lib.hid heq
   clear heq
   go_enter Tryz.func76, Tryz.ntmps76
   go_wp2_with (first
    | (go_at_call 100; refine HV.out.mono ?_; rintro e w1 ⟨rfl, n1, rfl⟩)
    | (go_at_call 45; refine (rwords_in v i1 i2 _ (HT.out.drewN _)).mono ?_; rintro e w2 ⟨A2, c2, rfl, hown2, hbel2⟩)
    | (go_at_call 15; refine (same_t ((wordsL v).map wb) (l) (HE.out) _ _ _ _ _ _ _ _ _ (by first | rfl | assumption | exact Hn.out | (simp; done) | (simp; omega)) (by first | rfl | assumption | exact Hn.out | (simp; done) | (simp; omega)) (by rw [← wv_sv]; exact Rd.of_own hown2) ((Rd.below (w := w.drewN _) hl hbel2)) (by first | omega | (simp only [List.length_cons, List.length_nil]; omega)) (by first | omega | (simp only [List.length_cons, List.length_nil]; omega))).mono ?_; rintro e w3 ⟨rfl, n3, rfl⟩))
   go_ret2
   rw [HR2.out]
   exact ⟨rfl, below_drewN (below_of_drewN hbel2)⟩
  ·have HR2 : Hid (R = none) := Lib.hid (by rw [HN.out]; unfold checkN; rw [if_neg (fun h => heq h.2.2)])
   have HE := Lib.hid heq
   clear heq
   go_enter Tryz.func76, Tryz.ntmps76
   go_wp2_with (first
    | (go_at_call 100; refine HV.out.mono ?_; rintro e w1 ⟨rfl, n1, rfl⟩)
    | (go_at_call 45; refine (rwords_in v i1 i2 _ (HT.out.drewN _)).mono ?_; rintro e w2 ⟨A2, c2, rfl, hown2, hbel2⟩)
    | (go_at_call 15; refine (same_f ((wordsL v).map wb) (l) (HE.out) _ _ _ _ _ _ _ _ _ (by first | rfl | assumption | exact Hn.out | (simp; done) | (simp; omega)) (by first | rfl | assumption | exact Hn.out | (simp; done) | (simp; omega)) (by rw [← wv_sv]; exact Rd.of_own hown2) ((Rd.below (w := w.drewN _) hl hbel2)) (by first | omega | (simp only [List.length_cons, List.length_nil]; omega)) (by first | omega | (simp only [List.length_cons, List.length_nil]; omega))).mono ?_; rintro e w3 ⟨rfl, n3, rfl⟩))
   go_ret2
   rw [HR2.out]
   exact ⟨rfl, below_drewN (below_of_drewN hbel2)⟩
 ·have HR2 : Hid (R = none) := Lib.hid (by rw [HN.out]; unfold checkN; rw [if_neg (fun h => hin ⟨h.1, h.2.1⟩)])
  go_enter Tryz.func76, Tryz.ntmps76
  go_wp2_with (first
   | (go_at_call 100; refine HV.out.mono ?_; rintro e w1 ⟨rfl, n1, rfl⟩)
   | (go_at_call 45; refine (rwords_range v (by omega) _).mono ?_; rintro e w2 ⟨rfl, hbel2⟩))
  go_ret2
  rw [HR2.out]
  exact ⟨rfl, below_of_drewN hbel2⟩
theorem rnumber (l : List ByteArray) (A : Option Addr) (n c : Nat) (w : World) (hn : l.length = n) (hl : Rd w w.heap.size 1 A n (sv l)) (ht : Tb w) :
  Calls Tryz.prog 76 #[.slice A n c] w (Gives (numPair (numberL l)) w) := by
 rw [← refNumber_eq]
 by_cases h : n = 0 ∨ 15 < n
 ·subst hn
  exact rnumber_short l A c w h
 ·exact rnumber_long l A n c w hn hl (by omega) (by omega) ht
end Go.Proofs.YtejjfiipghcifaaGreatDoor
namespace Go.Proofs.YtejjfiipghcifaaGreatDoor
open Go.RowKit
set_option maxHeartbeats 800000 in
theorem rprefix (l : List ByteArray) (A : Option Addr) (n c : Nat) (w : World) (hn : l.length = n) (hc : n ≤ c) (hbig : c ≤ maxLen) (hl : Rd w w.heap.size 1 A n (sv l)) (ht : Tb w) :
  Calls Tryz.prog 57 #[.slice A n c] w (Gives (preTriple (prefixL l)) w) := by
 have hcm : c ≤ 9223372036854775807 := by unfold maxLen at hbig; omega
 have HN := Lib.hid hn
 have HT := Lib.hid ht
 have HP : Hid (prefixL l = prefN l n) := Lib.hid (by
  rw [← refPref_eq, hn]
  have h1 : ∀ k, refPrefN l k = prefN l k := by
   intro k
   induction k with
   | zero => rfl
   | succ k ih =>
    rw [refPrefN, prefN, refNumber_eq, ih]
    cases numberL (l.take (k + 1)) <;> rfl
  exact h1 n)
 clear hn ht hbig
 generalize prefixL l = R at *
 go_enter Tryz.func57, Tryz.ntmps57
 go_wp2
 go_loopw [5] (fun i wr => ∃ k : Nat, k ≤ n ∧ i = .int .i64 k ∧ Below w.heap.size w wr ∧ Hid (R = prefN l k)) (fun i _ => (intOf i).toNat)
 case atStart => exact ⟨n, Nat.le_refl _, rfl, Below.refl _ _, HP⟩
 case round =>
  obtain ⟨k, hk, rfl, hbel, HL⟩ := hrel
  by_cases hlt : 0 < k
  ·obtain ⟨b, o, rfl, hbB, _⟩ := hl.at_ (show k - 1 < n by omega)
   have hT : Rd wr wr.heap.size 1 (some ⟨b, o, none⟩) k (sv (l.take k)) := by
    have := ((hl.below hbel).more hbel.size).take hk
    rwa [Nat.mul_one, ← sv_take] at this
   have hlen : (l.take k).length = k := by rw [List.length_take, HN.out]; omega
   have HC := Lib.hid (rnumber (l.take k) (some ⟨b, o, none⟩) k c wr hlen hT (HT.out.below hbel))
   clear hlen hT hl
   cases hr : numberL (l.take k) with
   | none =>
    rw [hr] at HC
    have HR2 : Hid (R = prefN l (k - 1)) := Lib.hid (by
     rw [HL.out]
     obtain ⟨j, rfl⟩ : ∃ j, k = j + 1 := ⟨k - 1, by omega⟩
     rw [prefN, hr]
     rfl)
    clear hr
    simp only [numPair] at HC
    go_wp2_with (go_at_call 76; refine HC.out.mono ?_; rintro e w1 ⟨rfl, hbel1⟩)
    exact ⟨⟨k - 1, by omega, by go_num, hbel.trans (hbel1.mono hbel.size), HR2⟩, by simp [intOf]; omega⟩
   | some v =>
    rw [hr] at HC
    have HR2 : Hid (R = some (v, k)) := Lib.hid (by
     rw [HL.out]
     obtain ⟨j, rfl⟩ : ∃ j, k = j + 1 := ⟨k - 1, by omega⟩
     rw [prefN, hr])
    clear hr
    simp only [numPair] at HC
    go_wp2_with (go_at_call 76; refine HC.out.mono ?_; rintro e w1 ⟨rfl, hbel1⟩)
    go_ret3
    rw [HR2.out]
    exact ⟨rfl, hbel.trans (hbel1.mono hbel.size)⟩
  ·obtain rfl : k = 0 := by omega
   go_wp2
   go_ret3
   rw [HL.out]
   exact ⟨rfl, hbel⟩
end Go.Proofs.YtejjfiipghcifaaGreatDoor
