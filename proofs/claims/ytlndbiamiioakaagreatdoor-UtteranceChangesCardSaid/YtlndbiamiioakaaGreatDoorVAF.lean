/- Joined: NumP, Sig3, SigP. -/
import Derived.Test.YtlndbiamiioakaaGreatDoorVAC
import Derived.Test.YtlndbiamiioakaaGreatDoorVAE
set_option linter.unusedVariables false
set_option linter.unusedSimpArgs false
set_option linter.unnecessarySimpa false
set_option maxHeartbeats 1000000
namespace Go.Proofs.YtlndbiamiioakaaGreatDoor
theorem valK_wb (i : Nat) (h : i < 28) : kG 28 (wb i) = some (kx i) := by
 have : ∀ i : Fin 28, kG 28 (wb i.val) = some (kx i.val) := by decide +kernel
 exact this ⟨i, h⟩
theorem vR (i j : Nat) (h : i < 32) (k : j < 32) (hne : i ≠ j) : wb i ≠ wb j := by
 have : ∀ i j : Fin 32, i ≠ j -> wb i.val ≠ wb j.val := by decide +kernel
 exact this ⟨i, h⟩ ⟨j, k⟩ (by intro e; injection e with e; exact hne e)
theorem qb2 (a p : Int) (i : Nat) (h : i < 28) (ha : a <= 999999999) (hp : p + kx i <= 999999999) : jG a p (wb i) = some (a, p + kx i) := by
 unfold jG swN
 rw [if_neg (vR _ _ (by omega) (by omega) (by omega)), if_neg (vR _ _ (by omega) (by omega) (by omega)), if_neg (vR _ _ (by omega) (by omega) (by omega)), if_neg (vR _ _ (by omega) (by omega) (by omega)), valK_wb i h]
 simp only
 rw [if_neg (by omega)]
theorem qdR (a p : Int) (ha : a <= 999999999) (hp : p * 100 <= 999999999) : jG a p (wb 28) = some (a, p * 100) := by
 unfold jG swN
 rw [if_neg (vR _ _ (by omega) (by omega) (by omega)), if_pos rfl]
 simp only
 rw [if_neg (by omega)]
theorem qcB (a p : Int) (ha : a + 1000 * p <= 999999999) : jG a p (wb 29) = some (a + 1000 * p, 0) := by
 unfold jG swN
 rw [if_neg (vR _ _ (by omega) (by omega) (by omega)), if_neg (vR _ _ (by omega) (by omega) (by omega)), if_pos rfl]
 simp only
 rw [if_neg (by omega)]
theorem qdD (a p : Int) (ha : a + 1000000 * p <= 999999999) : jG a p (wb 30) = some (a + 1000000 * p, 0) := by
 unfold jG swN
 rw [if_neg (vR _ _ (by omega) (by omega) (by omega)), if_neg (vR _ _ (by omega) (by omega) (by omega)), if_neg (vR _ _ (by omega) (by omega) (by omega)), if_pos rfl]
 simp only
 rw [if_neg (by omega)]
theorem qfh (a p : Int) (ha : a <= 999999999) (hp : p <= 999999999) : jG a p (wb 31) = some (a, p) := by
 unfold jG swN
 rw [if_pos rfl]
 simp only
 rw [if_neg (by omega)]
theorem jW {s : ByteArray} {t : List ByteArray} {a p a' p' : Int} (h : jG a p s = some (a', p')) : vi (s :: t) a p = vi t a' p' := by
 rw [vi, h]
theorem qay (q : Nat) (hq : q < 1000) (a : Int) (ha : a <= 999999999) (t : List ByteArray) : vi ((zp q).map wb ++ t) a 0 = vi t a q := by
 have hT : ∀ (j : Nat) (p : Int), j < 20 -> p + j <= 999999999 -> vi ((yF j).map wb ++ t) a p = vi t a (p + j) := by
  intro j p hj hp
  unfold yF
  by_cases h : 0 < j
  ·rw [if_pos h]
   have hv : kx j = j := by unfold kx; rw [if_neg (by omega)]
   simp only [List.map_cons, List.map_nil, List.cons_append, List.nil_append]
   rw [jW (qb2 a p j (by omega) ha (by omega)), hv]
  ·obtain rfl : j = 0 := by omega
   simp
 have hS : ∀ (k : Nat) (p : Int), k < 100 -> p + k <= 999999999 -> vi ((jx k).map wb ++ ((yF (if 20 <= k then k % 10 else k)).map wb ++ t)) a p = vi t a (p + k) := by
  intro k p hk hp
  unfold jx
  by_cases h : 20 <= k
  ·rw [if_pos h, if_pos h]
   have hv : kx (18 + k / 10) = 10 * (k / 10 : Nat) := by unfold kx; split <;> omega
   simp only [List.map_cons, List.map_nil, List.cons_append, List.nil_append]
   rw [jW (qb2 a p (18 + k / 10) (by omega) ha (by rw [hv]; omega)), hv, hT _ _ (by omega) (by omega)]
   congr 1
   omega
  ·rw [if_neg h, if_neg h]
   simp only [List.map_nil, List.nil_append]
   rw [hT _ _ (by omega) (by omega)]
 unfold zp jO
 by_cases h : 100 <= q
 ·simp only [if_pos h, List.map_append, List.map_cons, List.cons_append, List.nil_append, List.append_assoc]
  have hv : kx (q / 100) = (q / 100 : Nat) := by unfold kx; rw [if_neg (by omega)]
  rw [jW (qb2 a 0 (q / 100) (by omega) ha (by rw [hv]; omega)), hv, jW (qdR a _ ha (by omega)), hS _ _ (by omega) (by omega)]
  congr 1
  omega
 ·simp only [if_neg h, List.map_append, List.nil_append, List.append_assoc]
  rw [hS _ _ (by omega) (by omega)]
  congr 1
  omega
theorem loop_pos (m : Nat) (hm : m <= 999999999) : ∃ a p : Int, vi ((posL m).map wb) 0 0 = some (a, p) /\ a + p = m := by
 rw [j9]
 have h1 : ∀ t, vi ((jM (m / 1000000) 30).map wb ++ t) 0 0 = vi t (1000000 * (m / 1000000 : Nat)) 0 := by
  intro t
  unfold jM
  by_cases h : 0 < m / 1000000
  ·rw [if_pos h]
   simp only [List.map_append, List.map_cons, List.map_nil, List.append_assoc, List.cons_append, List.nil_append]
   rw [qay _ (by omega) 0 (by omega), jW (qdD _ _ (by omega))]
   congr 1
   omega
  ·rw [if_neg h]
   have : m / 1000000 = 0 := by omega
   simp [this]
 have h2 : ∀ t, vi ((jM (m % 1000000 / 1000) 29).map wb ++ t) (1000000 * (m / 1000000 : Nat)) 0 = vi t (1000000 * (m / 1000000 : Nat) + 1000 * (m % 1000000 / 1000 : Nat)) 0 := by
  intro t
  unfold jM
  by_cases h : 0 < m % 1000000 / 1000
  ·rw [if_pos h]
   simp only [List.map_append, List.map_cons, List.map_nil, List.append_assoc, List.cons_append, List.nil_append]
   rw [qay _ (by omega) _ (by omega), jW (qcB _ _ (by omega))]
  ·rw [if_neg h]
   have : m % 1000000 / 1000 = 0 := by omega
   rw [this]
   simp
 have h3 : vi ((y6 (m % 1000000 % 1000)).map wb) (1000000 * (m / 1000000 : Nat) + 1000 * (m % 1000000 / 1000 : Nat)) 0 = some ((1000000 * (m / 1000000 : Nat) + 1000 * (m % 1000000 / 1000 : Nat) : Int), ((m % 1000000 % 1000 : Nat) : Int)) := by
  unfold y6
  by_cases h : 0 < m % 1000000 % 1000
  ·rw [if_pos h]
   have := qay (m % 1000000 % 1000) (by omega) (1000000 * (m / 1000000 : Nat) + 1000 * (m % 1000000 / 1000 : Nat)) (by omega) []
   rw [List.append_nil] at this
   rw [this, vi]
  ·rw [if_neg h]
   have : m % 1000000 % 1000 = 0 := by omega
   rw [this]
   rfl
 have h4 : vi ((jM (m / 1000000) 30 ++ jM (m % 1000000 / 1000) 29 ++ y6 (m % 1000000 % 1000)).map wb) 0 0 = some ((1000000 * (m / 1000000 : Nat) + 1000 * (m % 1000000 / 1000 : Nat) : Int), ((m % 1000000 % 1000 : Nat) : Int)) := by
  rw [List.map_append, List.map_append, List.append_assoc, h1, h2, h3]
 exact ⟨_, _, h4, by omega⟩
theorem qaH (q : Nat) (hq : q < 1000) (h0 : 0 < q) : ∃ i t, zp q = i :: t /\ i < 28 := by
 unfold zp jO jx yF
 by_cases h : 100 <= q
 ·exact ⟨q / 100, _, by simp only [if_pos h]; rfl, by omega⟩
 ·simp only [if_neg h, List.nil_append]
  by_cases h2 : 20 <= q
  ·exact ⟨18 + q / 10, _, by simp only [if_pos h2]; rfl, by omega⟩
  ·exact ⟨q, [], by simp [h2, h0], by omega⟩
theorem qeJ (m : Nat) (hm : m <= 999999999) (h0 : 0 < m) : ∃ i t, posL m = i :: t /\ i < 28 := by
 rw [j9]
 unfold jM y6
 by_cases h1 : 0 < m / 1000000
 ·obtain ⟨i, t, e, hi⟩ := qaH (m / 1000000) (by omega) h1
  rw [if_pos h1, e]
  exact ⟨i, _, rfl, hi⟩
 rw [if_neg h1, List.nil_append]
 by_cases h2 : 0 < m % 1000000 / 1000
 ·obtain ⟨i, t, e, hi⟩ := qaH (m % 1000000 / 1000) (by omega) h2
  rw [if_pos h2, e]
  exact ⟨i, _, rfl, hi⟩
 rw [if_neg h2, List.nil_append]
 obtain ⟨i, t, e, hi⟩ := qaH (m % 1000000 % 1000) (by omega) (by omega)
 rw [if_pos (by omega), e]
 exact ⟨i, t, rfl, hi⟩
theorem qcz (n : Int) : 0 < (qG n).length ∨ n < -999999999 ∨ 999999999 < n := by
 by_cases hn : n < -999999999 ∨ 999999999 < n
 ·exact .inr hn
 left
 unfold qG
 by_cases h0 : n = 0
 ·rw [if_pos h0]; decide
 ·rw [if_neg h0]
  obtain ⟨i, t, e, _⟩ := qeJ n.natAbs (by omega) (by omega)
  rw [e]
  simp
  omega
theorem qdS (n : Int) (h1 : -999999999 <= n) (h2 : n <= 999999999) : qS ((qG n).map wb) = some n := by
 have hlen := jD n
 have hpos : 0 < (qG n).length := by
  rcases qcz n with h | h
  ·exact h
  ·omega
 have hck : je ((qG n).map wb) n = some n := by unfold je; rw [if_pos ⟨h1, h2, rfl⟩]
 unfold qS
 rw [if_neg (by rw [List.length_map]; omega)]
 by_cases h0 : n = 0
 ·subst h0
  decide +kernel
 ·obtain ⟨i, t, e, hi⟩ := qeJ n.natAbs (by omega) (by omega)
  obtain ⟨a, p, hl, hap⟩ := loop_pos n.natAbs (by omega)
  by_cases hneg : n < 0
  ·have hw : qG n = 31 :: posL n.natAbs := by unfold qG; rw [if_neg h0, if_pos hneg]; rfl
   have hlo : vi ((qG n).map wb) 0 0 = some (a, p) := by rw [hw, List.map_cons, jW (qfh 0 0 (by omega) (by omega)), hl]
   have hs : kX ((qG n).map wb) (a + p) = n := by
    rw [hw]
    show (if some (wb 31) = some (wb 31) then -(a + p) else a + p) = n
    rw [if_pos rfl]
    omega
   rw [hlo]
   simp only
   rw [hs, hck]
  ·have hw : qG n = posL n.natAbs := by unfold qG; rw [if_neg h0, if_neg hneg]; rfl
   have hlo : vi ((qG n).map wb) 0 0 = some (a, p) := by rw [hw, hl]
   have hs : kX ((qG n).map wb) (a + p) = n := by
    rw [hw, e]
    unfold kX
    rw [if_neg (by
     simp only [List.map_cons, List.head?_cons, Option.some.injEq]
     exact vR _ _ (by omega) (by omega) (by omega))]
    omega
   rw [hlo]
   simp only
   rw [hs, hck]
theorem zu {l : List ByteArray} {n : Int} (h : qS l = some n) : -999999999 <= n /\ n <= 999999999 /\ (qG n).map wb = l /\ 0 < l.length /\ l.length <= 15 := by
 unfold qS at h
 split at h
 ·cases h
 ·split at h
  ·cases h
  ·unfold je at h
   split at h
   ·rename_i hc
    injection h with h
    subst h
    exact ⟨hc.1, hc.2.1, hc.2.2, by omega, by omega⟩
   ·cases h
theorem qfm {l : List ByteArray} : ∀ {m : Nat} {n : Int} {k : Nat}, jp l m = some (n, k) -> 0 < k /\ k <= m /\ qS (l.take k) = some n /\ ∀ i, k < i -> i <= m -> qS (l.take i) = none := by
 intro m
 induction m with
 | zero => intro n k h; cases h
 | succ m ih =>
  intro n k h
  rw [jp] at h
  split at h
  ·rename_i v hv
   simp only [Option.some.injEq, Prod.mk.injEq] at h
   obtain ⟨rfl, rfl⟩ := h
   exact ⟨by omega, by omega, hv, fun i h1 h2 => by omega⟩
  ·rename_i hv
   obtain ⟨a, b, c, d⟩ := ih h
   refine ⟨a, by omega, c, fun i h1 h2 => ?_⟩
   rcases Nat.lt_or_ge i (m + 1) with h3 | h3
   ·exact d i h1 (by omega)
   ·obtain rfl : i = m + 1 := by omega
    exact hv
theorem kh (l : List ByteArray) (i : Nat) (h1 : 15 < i) (h2 : i <= l.length) : qS (l.take i) = none := by
 unfold qS
 rw [if_pos (by rw [List.length_take]; omega)]
theorem qT {l : List ByteArray} {n : Int} {k : Nat} (h : prefixL l = some (n, k)) : 0 < k /\ k <= l.length /\ k <= 15 /\ qS (l.take k) = some n /\ ∀ i, k < i -> i <= l.length -> qS (l.take i) = none := by
 obtain ⟨a, b, c, d⟩ := qfm h
 refine ⟨a, by omega, by omega, c, fun i h1 h2 => ?_⟩
 rcases Nat.lt_or_ge 15 i with h3 | h3
 ·exact kh l i h3 h2
 ·exact d i h1 (by omega)
end Go.Proofs.YtlndbiamiioakaaGreatDoor
namespace Go.Proofs.YtlndbiamiioakaaGreatDoor
open Go.Proofs.Tryz Go.RowKit
theorem zG {w w' : World} {a : Addr} {v : Value} (h : w.cell? a = some v) (hb : Below w.heap.size w w') : w'.cell? a = some v := by
 have hl : a.block < w.heap.size := by
  rcases Nat.lt_or_ge a.block w.heap.size with hl | hl
  ·exact hl
  ·unfold World.cell? at h
   rw [Array.getElem?_eq_none hl] at h
   cases h
 exact (hb.cell hl).trans h
def cB : ByteArray := ⟨#[99, 104, 97, 114, 97, 99, 116, 101, 114]⟩
def zn (n : Int) : Bool := (decide (0 <= n) && decide (n <= 55295)) || (decide (57344 <= n) && decide (n <= 1114111))
theorem vO (n : Int) : zn n = true ↔ jy n := by unfold zn jy; simp
theorem ya (n : Int) : zn n = false ↔ ¬ jy n := by rw [<- vO]; cases zn n <;> simp
def vk (r : Int) : List ByteArray := match vQ r with
 | some i => [nb i]
 | none => if zn r then cB :: (qG r).map wb else []
def qbh (s : ByteArray) : Option Nat := (List.range 32).find? fun i => decide (nb i = s)
theorem qab {s : ByteArray} {i : Nat} (h : qbh s = some i) : i < 32 /\ s = nb i := by
 unfold qbh at h
 have h1 := List.find?_some h
 have h2 := List.mem_of_find?_eq_some h
 simp at h1 h2
 exact ⟨h2, h1.symm⟩
theorem qc0 {s : ByteArray} (h : qbh s = none) : ∀ i, i < 32 -> nb i ≠ s := by
 intro i hi
 unfold qbh at h
 rw [List.find?_eq_none] at h
 have := h i (by simp [hi])
 simpa using this
def qal : Option (Int × Nat) -> Option (Int × Nat)
 | none => none
 | some (n, k) => if zn n = true /\ vQ n = none then some (n, 1 + k) else none
def qL : List ByteArray -> Option (Int × Nat)
 | [] => none
 | s :: t => match qbh s with
  | some i => some (vd i, 1)
  | none => if s = cB then qal (prefixL t) else none
def qbF : Option (Int × Nat) -> Value
 | some (r, k) => .tuple #[.int .i32 r, .int .i64 k, .int .i64 0]
 | none => .tuple #[.int .i32 0, .int .i64 0, .int .i64 17]
theorem qcO (r : Int) : (vk r).length <= 16 := by
 unfold vk
 split
 ·simp
 ·split
  ·have := jD r
   simp
   omega
  ·simp
theorem spell (r : Int) (hr1 : -2147483648 <= r) (hr2 : r <= 2147483647) (w : World) (hs : Sp w) : Calls prog 123 #[.int .i32 r] w (ql 9 1 id w (vk r).length (sv (vk r))) := by
 have HN := Lh (name r w hs)
 have HS := Lh hs
 clear hs
 unfold vk
 unfold nameV at HN
 cases hi : vQ r with
 | some i =>
  rw [hi] at HN
  simp only at HN ⊢
  clear hi
  go_enter func123, ntmps123
  go_wp2_with (go_at_call 149; refine HN.out.mono ?_; rintro e w1 ⟨rfl, qh7⟩)
  go_ret
  exact ⟨_, _, rfl, qR (xs := [_]) rfl rfl qh7.size (by first | omega | (simp only [List.length_cons, List.length_nil]; omega)), qh7.alloc qh7.size _⟩
 | none =>
  rw [hi] at HN
  simp only at HN ⊢
  clear hi
  cases hc : zn r with
  | true =>
   have hch := (vO r).1 hc
   have HC := Lh (char_t r hch)
   have hcb : 0 <= r /\ r <= 1114111 := by unfold jy at hch; omega
   have HW : Hid (∀ w, Calls prog 24 #[.int .i64 r] w (ql 9 1 jI w (qG r).length (wv (qG r)))) := Lh fun w => ka r (by omega) (by omega) w
   have hle := jD r
   clear hc hch
   rw [if_pos rfl]
   generalize qG r = L at *
   go_enter func123, ntmps123
   go_wp2_with (first
    | (go_at_call 149; refine HN.out.mono ?_; rintro e w1 ⟨rfl, qh7⟩; have z1 := qh7.size)
    | (go_at_call 150; refine (HC.out _).mono ?_; rintro e w2 ⟨rfl, qh8⟩; have z2 := qh8.size)
    | (go_at_call 24; refine (HW.out _).mono ?_; rintro e w3 ⟨A3, c3, rfl, hown3, qh9⟩; have z3 := qh9.size)
    | (at_builtin; refine qh rfl _ _ _ rfl qx (w3.heap.size) _ rfl (qR (xs := [.string cB]) rfl rfl (Nat.le_refl _) (by omega)) _ _ rfl ((Rd.of_own (hown3.alloc _))) (by first | rfl | exact qN _ | exact qO _) (by omega) (by omega) (by first | (simp; done) | (simp; omega) | omega) ?_; intro A4 c4 w4 qie qia qii qik; have z4 := qia.size; (try simp only [World.size_alloc] at z4); (try simp only [Nat.zero_add, List.nil_append] at qie)))
   go_ret
   have e : (L.map wb).length + 1 = 1 + L.length := by simp; omega
   rw [e]
   refine ⟨A4, c4, by rfl, ?_, ?_⟩
   ·refine qq (base := w3.heap.size) ?_ (by omega)
    simpa [sv, wv, cB, Function.comp_def] using qie
   ·exact (((qh7.trans (qh8.mono z1)).trans (qh9.mono (by omega))).alloc (by omega) _).trans (qia.mono (by omega))
  | false =>
   have HC := Lh (char_f r ((ya r).1 hc))
   clear hc
   simp only [Bool.false_eq_true, if_false]
   go_enter func123, ntmps123
   go_wp2_with (first
    | (go_at_call 149; refine HN.out.mono ?_; rintro e w1 ⟨rfl, qh7⟩; have z1 := qh7.size)
    | (go_at_call 150; refine (HC.out _).mono ?_; rintro e w2 ⟨rfl, qh8⟩; have z2 := qh8.size))
   go_ret
   exact ⟨none, 0, rfl, zh _ _ _ _, qh7.trans (qh8.mono z1)⟩
theorem jR {v : Int} {k : Nat} (h : ¬ (zn v = true /\ vQ v = none)) : qal (some (v, k)) = none := if_neg h
theorem qbg {v : Int} {k : Nat} (h : zn v = true /\ vQ v = none) : qal (some (v, k)) = some (v, 1 + k) := if_pos h
theorem wrap_i32 {v : Int} (h : zn v = true) : IntKind.i32.wrap v = v := by
 have := (vO v).1 h
 unfold jy at this
 exact IntWalk.i32_in _ (by omega)
theorem qd8 (A : Option Addr) (c : Nat) (w : World) : Calls prog 154 #[.slice A 0 c] w (qg (qbF none) w) := by
 go_enter func154, ntmps154
 go_wp2
 go_ret3
 exact ⟨rfl, Below.refl _ _⟩
theorem qf8 {w : World} {B n c : Nat} {b o : Nat} {s : ByteArray} {t : List ByteArray} (hn : t.length + 1 = n) (hc : n <= c) (rd : Rd w B 1 (some ⟨b, o, none⟩) n (sv (s :: t))) :
  Rd w B 1 (if c = 1 then some ⟨b, o, none⟩ else some ⟨b, o + 1, none⟩) (n - 1) (sv t) := by
 have h := rd.cut (k := 1) (cap := c) (by omega) hc
 simp only [Nat.mul_one, Option.map_some, vm] at h
 exact h
theorem qd4 (s : ByteArray) (t : List ByteArray) (b o n c : Nat) (w : World) (hn : t.length + 1 = n) (hc : n <= c) (hm : c <= maxLen) (rd : Rd w w.heap.size 1 (some ⟨b, o, none⟩) n (sv (s :: t))) (hsz : ∀ x ∈ s :: t, x.size <= maxLen) (hs : Sp w) :
  Calls prog 154 #[.slice (some ⟨b, o, none⟩) n c] w (qg (qbF (qL (s :: t))) w) := by
 have e0 : ((n : Int) == 0) = false := beq_eq_false_iff_ne.2 (by omega)
 have hn1 : 1 <= n := by omega
 have hcell : w.cell? ⟨b, o, none⟩ = some (.string s) := by
  obtain ⟨b', o', e, _, h⟩ := rd.at_ (show 0 < n by omega)
  cases e
  simpa [sv] using h
 have HS := Lh hs
 cases hi : qbh s with
 | some i =>
  obtain ⟨hi32, rfl⟩ := qab hi
  have HR : Hid (qL (nb i :: t) = some ((vd i : Int), 1)) := Lh (by rw [qL, hi])
  have HC := Lh (qgW i hi32 w hs)
  rw [HR.out]
  clear hi hs rd hsz hn hm
  generalize nb i = s at *
  go_enter func154, ntmps154
  go_wp2_with (go_at_call 171; refine HC.out.mono ?_; rintro e w1 ⟨rfl, qh7⟩)
  go_ret3
  exact ⟨rfl, qh7⟩
 | none =>
  have HC := Lh (qg0 s (qc0 hi) w hs)
  have tc := jq s cB [99, 104, 97, 114, 97, 99, 116, 101, 114] rfl
  by_cases hcb : s = cB
  ·have dc : (s.toList == [99, 104, 97, 114, 97, 99, 116, 101, 114]) = true := by rw [tc]; simp [hcb]
   have HR : Hid (qL (s :: t) = qal (prefixL t)) := Lh (by rw [qL, hi]; exact if_pos hcb)
   have hcm : c <= 9223372036854775807 := by unfold maxLen at hm; omega
   have HT := Lh (qf8 hn hc rd)
   have HP : Hid (∀ w1 A', Below w.heap.size w w1 -> Rd w w.heap.size 1 A' (n - 1) (sv t) -> Calls prog 45 #[.slice A' (n - 1) (c - 1)] w1 (qg (qC (prefixL t)) w1)) := Lh fun w1 A' hb h =>
    yu t A' (n - 1) (c - 1) w1 (by omega) (by omega) (Nat.le_trans (Nat.sub_le _ _) hm) ((h.below hb).more hb.size) (fun x hx => hsz x (List.mem_cons_of_mem _ hx))
   have Htn := Lh hn
   clear tc hcb hi hs rd hsz hn hm
   cases hp : prefixL t with
   | none =>
    rw [hp] at HP
    have HR2 : Hid (qL (s :: t) = none) := Lh (by rw [HR.out, hp]; rfl)
    rw [HR2.out]
    clear hp
    simp only [qC] at HP
    by_cases c1 : c = 1
    ·obtain rfl : n = 1 := by omega
     have HT1 : Hid (Rd w w.heap.size 1 (some ⟨b, o, none⟩) 0 (sv t)) := Lh (by have := HT.out; rwa [if_pos c1] at this)
     subst c1
     simp only [Nat.sub_self] at HP
     clear HT HR HR2
     go_enter func154, ntmps154
     go_wp2_with (first
      | (go_at_call 171; refine HC.out.mono ?_; rintro e w1 ⟨rfl, qh7⟩; have hcell1 := zG hcell qh7)
      | (go_at_call 45; refine (HP.out _ _ qh7 HT1.out).mono ?_; rintro e w2 ⟨rfl, qh8⟩))
     go_ret3
     exact ⟨rfl, qh7.trans (qh8.mono qh7.size)⟩
    ·have HT1 : Hid (Rd w w.heap.size 1 (some ⟨b, o + 1, none⟩) (n - 1) (sv t)) := Lh (by have := HT.out; rwa [if_neg c1] at this)
     go_enter func154, ntmps154
     go_wp2_with (first
      | (go_at_call 171; refine HC.out.mono ?_; rintro e w1 ⟨rfl, qh7⟩; have hcell1 := zG hcell qh7)
      | (go_at_call 45; refine (HP.out _ _ qh7 HT1.out).mono ?_; rintro e w2 ⟨rfl, qh8⟩))
     go_ret3
     exact ⟨rfl, qh7.trans (qh8.mono qh7.size)⟩
   | some x =>
    obtain ⟨v, k⟩ := x
    rw [hp] at HP
    obtain ⟨k1, k2, k3, k4, k5⟩ := qT hp
    obtain ⟨v1, v2, _⟩ := zu k4
    have c1 : ¬ c = 1 := by have := Htn.out; omega
    have hk16 : k <= 15 := k3
    have HT1 : Hid (Rd w w.heap.size 1 (some ⟨b, o + 1, none⟩) (n - 1) (sv t)) := Lh (by have := HT.out; rwa [if_neg c1] at this)
    simp only [qC] at HP
    have Hpv : Hid (prefixL t = some (v, k)) := Lh hp
    clear hp k4 k5 k2 k3
    cases hch : zn v with
    | false =>
     have HR2 : Hid (qL (s :: t) = none) := Lh (by rw [HR.out, Hpv.out]; exact jR (by simp [hch]))
     have HCC := Lh (char_f v ((ya v).1 hch))
     rw [HR2.out]
     clear hch
     go_enter func154, ntmps154
     go_wp2_with (first
      | (go_at_call 171; refine HC.out.mono ?_; rintro e w1 ⟨rfl, qh7⟩; have hcell1 := zG hcell qh7)
      | (go_at_call 45; refine (HP.out _ _ qh7 HT1.out).mono ?_; rintro e w2 ⟨rfl, qh8⟩)
      | (go_at_call 150; refine (HCC.out _).mono ?_; rintro e w3 ⟨rfl, qh9⟩))
     go_ret3
     exact ⟨rfl, (qh7.trans (qh8.mono qh7.size)).trans (qh9.mono (Nat.le_trans qh7.size qh8.size))⟩
    | true =>
     have HCC := Lh (char_t v ((vO v).1 hch))
     have Hw := wrap_i32 hch
     cases hi : vQ v with
     | some i =>
      have HR2 : Hid (qL (s :: t) = none) := Lh (by rw [HR.out, Hpv.out]; exact jR (by simp [hi]))
      have HI : Hid (∀ w, Calls prog 168 #[.int .i32 v] w (qg (.int .i64 (i : Int)) w)) := Lh fun w => by
       have := index v w
       unfold qcu at this
       rwa [hi] at this
      rw [HR2.out]
      have hge : (i : Int) ≥ 0 := Int.natCast_nonneg i
      clear hch hi
      go_enter func154, ntmps154
      go_wp2_with (first
       | (go_at_call 171; refine HC.out.mono ?_; rintro e w1 ⟨rfl, qh7⟩; have hcell1 := zG hcell qh7)
       | (go_at_call 45; refine (HP.out _ _ qh7 HT1.out).mono ?_; rintro e w2 ⟨rfl, qh8⟩)
       | (go_at_call 150; refine (HCC.out _).mono ?_; rintro e w3 ⟨rfl, qh9⟩)
       | (go_at_call 168; refine (HI.out _).mono ?_; rintro e w4 ⟨rfl, qia⟩))
      go_ret3
      exact ⟨rfl, ((qh7.trans (qh8.mono qh7.size)).trans (qh9.mono (Nat.le_trans qh7.size qh8.size))).trans (qia.mono (Nat.le_trans qh7.size (Nat.le_trans qh8.size qh9.size)))⟩
     | none =>
      have HR2 : Hid (qL (s :: t) = some (v, 1 + k)) := Lh (by rw [HR.out, Hpv.out]; exact qbg ⟨hch, hi⟩)
      have HI : Hid (∀ w, Calls prog 168 #[.int .i32 v] w (qg (.int .i64 (-1)) w)) := Lh fun w => by
       have := index v w
       unfold qcu at this
       rwa [hi] at this
      rw [HR2.out]
      clear hch hi
      go_enter func154, ntmps154
      go_wp2_with (first
       | (go_at_call 171; refine HC.out.mono ?_; rintro e w1 ⟨rfl, qh7⟩; have hcell1 := zG hcell qh7)
       | (go_at_call 45; refine (HP.out _ _ qh7 HT1.out).mono ?_; rintro e w2 ⟨rfl, qh8⟩)
       | (go_at_call 150; refine (HCC.out _).mono ?_; rintro e w3 ⟨rfl, qh9⟩)
       | (go_at_call 168; refine (HI.out _).mono ?_; rintro e w4 ⟨rfl, qia⟩))
      go_ret3
      exact ⟨by simp [qbF], ((qh7.trans (qh8.mono qh7.size)).trans (qh9.mono (Nat.le_trans qh7.size qh8.size))).trans (qia.mono (Nat.le_trans qh7.size (Nat.le_trans qh8.size qh9.size)))⟩
  ·have dc : (s.toList == [99, 104, 97, 114, 97, 99, 116, 101, 114]) = false := by rw [tc]; simp [hcb]
   have HR : Hid (qL (s :: t) = none) := Lh (by rw [qL, hi]; exact if_neg hcb)
   rw [HR.out]
   clear tc hcb hi hs rd hsz hn hm
   go_enter func154, ntmps154
   go_wp2_with (go_at_call 171; refine HC.out.mono ?_; rintro e w1 ⟨rfl, qh7⟩; have hcell1 := zG hcell qh7)
   go_ret3
   exact ⟨rfl, qh7⟩
theorem qbo (q : Nat) (hq : q < 1000) : ∀ i ∈ zp q, i < 32 := by
 have : ∀ q : Fin 1000, (zp q.val).all (· < 32) = true := by decide +kernel
 have h := this ⟨q, hq⟩
 intro i hi
 have := List.all_eq_true.1 h i hi
 simpa using this
theorem nb_wb (i j : Nat) (h : i < 32) (k : j < 32) : wb j ≠ nb i := by
 have : ∀ i j : Fin 32, wb j.val ≠ nb i.val := by decide +kernel
 exact this ⟨i, h⟩ ⟨j, k⟩
theorem cB_wb (j : Nat) (k : j < 32) : wb j ≠ cB := by
 have : ∀ j : Fin 32, wb j.val ≠ cB := by decide +kernel
 exact this ⟨j, k⟩
def NoNum (t : List ByteArray) : Prop := ∀ h t', t = h :: t' -> ∀ j, j < 32 -> wb j ≠ h
theorem NoNum.nil : NoNum [] := fun _ _ h => by cases h
theorem NoNum.nb {i : Nat} (hi : i < 32) (t : List ByteArray) : NoNum (nb i :: t) := fun _ _ h j hj => by cases h; exact nb_wb i j hi hj
theorem NoNum.cB (t : List ByteArray) : NoNum (cB :: t) := fun _ _ h j hj => by cases h; exact cB_wb j hj
theorem qby (n : Int) (h1 : -999999999 <= n) (h2 : n <= 999999999) : ∀ i ∈ qG n, i < 32 := by
 have hsg : ∀ q x, q < 1000 -> x < 32 -> ∀ i ∈ jM q x, i < 32 := by
  intro q x hq hx i hi
  unfold jM at hi
  split at hi
  ·rw [List.mem_append] at hi
   rcases hi with hi | hi
   ·exact qbo q hq i hi
   ·simp at hi; omega
  ·cases hi
 have hse : ∀ q, q < 1000 -> ∀ i ∈ y6 q, i < 32 := by
  intro q hq i hi
  unfold y6 at hi
  split at hi
  ·exact qbo q hq i hi
  ·cases hi
 intro i hi
 unfold qG at hi
 split at hi
 ·simp at hi; omega
 ·rw [j9, List.mem_append, List.mem_append, List.mem_append] at hi
  rcases hi with hi | (hi | hi) | hi
  ·split at hi
   ·simp at hi; omega
   ·cases hi
  ·exact hsg _ _ (by omega) (by omega) i hi
  ·exact hsg _ _ (by omega) (by omega) i hi
  ·exact hse _ (by omega) i hi
theorem qe7 {r : Int} (h : zn r = true) : 0 <= r /\ r <= 1114111 := by
 have := (vO r).1 h
 unfold jy at this
 omega
theorem qbl {r : Int} {i : Nat} (h : vQ r = some i) : zn r = true := by
 obtain ⟨_, _, a, b⟩ := jw h
 exact (vO r).2 (by unfold jy; omega)
theorem qhM {r : Int} : vk r = [] ↔ zn r = false := by
 unfold vk
 cases h : vQ r with
 | some i => simp [qbl h]
 | none => cases zn r <;> simp
theorem qhA {r : Int} (h : zn r = true) : 0 < (vk r).length := by
 rcases Nat.eq_zero_or_pos (vk r).length with h0 | h0
 ·have := qhM.1 (List.length_eq_zero_iff.1 h0)
  rw [h] at this
  cases this
 ·exact h0
theorem yY {l : List ByteArray} {r : Int} {k : Nat} (h : qL l = some (r, k)) : zn r = true /\ 0 < k /\ k <= l.length /\ k <= 16 /\ vk r = l.take k := by
 cases l with
 | nil => cases h
 | cons s t =>
  rw [qL] at h
  cases hi : qbh s with
  | some i =>
   rw [hi] at h
   simp only [Option.some.injEq, Prod.mk.injEq] at h
   obtain ⟨rfl, rfl⟩ := h
   obtain ⟨a, rfl⟩ := qab hi
   have hs : vQ (vd i : Int) = some i := by
    unfold vQ
    rw [if_pos (by omega)]
    exact qhH i a
   refine ⟨qbl hs, by omega, by simp, by omega, ?_⟩
   unfold vk
   rw [hs]
   simp
  | none =>
   rw [hi] at h
   simp only at h
   split at h
   ·rename_i hc
    cases hp : prefixL t with
    | none => rw [hp] at h; cases h
    | some x =>
     obtain ⟨v, m⟩ := x
     rw [hp] at h
     by_cases hq : zn v = true /\ vQ v = none
     ·rw [qbg hq] at h
      simp only [Option.some.injEq, Prod.mk.injEq] at h
      obtain ⟨rfl, rfl⟩ := h
      obtain ⟨p1, p2, p3, p4, _⟩ := qT hp
      obtain ⟨_, _, n3, _⟩ := zu p4
      refine ⟨hq.1, by omega, by simp; omega, by omega, ?_⟩
      unfold vk
      rw [hq.2]
      simp only [hq.1, if_true, n3, hc]
      rw [Nat.add_comm 1 m, List.take_succ_cons]
     ·rw [jR hq] at h
      cases h
   ·cases h
end Go.Proofs.YtlndbiamiioakaaGreatDoor
