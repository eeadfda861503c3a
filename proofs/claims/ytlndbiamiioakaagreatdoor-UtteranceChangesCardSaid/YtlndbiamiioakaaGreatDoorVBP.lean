/- Joined: RefP, Ref3, Ref4, Rsg4, Rw2. -/
import Derived.Test.YtlndbiamiioakaaGreatDoorVBI
set_option linter.unusedVariables false
set_option linter.unusedSimpArgs false
set_option linter.unnecessarySimpa false
set_option maxHeartbeats 2000000
namespace Go.Proofs.YtlndbiamiioakaaGreatDoor
open Go.Proofs.Tryz Go.RowKit
def swR (a g : Int) (s : ByteArray) : Int × Int :=
 if s = wb 28 then (a, wrap64 (100 * g)) else if s = wb 29 then (wrap64 (a + wrap64 (1000 * g)), 0) else if s = wb 30 then (wrap64 (a + wrap64 (1000000 * g)), 0) else (a, g)
def ym (s : ByteArray) (g : Int) : Nat -> Int
 | 0 => g
 | k + 1 => if wb k = s then wrap64 (ym s g k + k) else ym s g k
def kB (s : ByteArray) (g : Int) : Nat -> Int
 | 0 => g
 | k + 1 => if wb (20 + k) = s then wrap64 (wrap64 (kB s g k + 10 * k) + 20) else kB s g k
def yT (x : Int × Int) (s : ByteArray) : Int × Int := ((swR x.1 x.2 s).1, kB s (ym s (swR x.1 x.2 s).2 20) 8)
def valR (l : List ByteArray) : Int :=
 let x := l.foldl yT (0, 0)
 if l.head? = some (wb 31) then wrap64 (wrap64 (-x.1) - x.2) else wrap64 (x.1 + x.2)
def vj (l : List ByteArray) : Option Int := if l.length = 0 ∨ 15 < l.length then none else je l (valR l)
def kk (l : List ByteArray) : Nat -> Option (Int × Nat)
 | 0 => none
 | k + 1 => match vj (l.take (k + 1)) with
  | some n => some (n, k + 1)
  | none => kk l k
theorem w64 (n : Int) (h1 : -9223372036854775808 <= n) (h2 : n <= 9223372036854775807) : wrap64 n = n := IntWalk.wrap64_in n ⟨h1, h2⟩
theorem kY (s : ByteArray) (g : Int) : ∀ k, (∀ i, i < k -> wb i ≠ s) -> ym s g k = g := by
 intro k
 induction k with
 | zero => intro _; rfl
 | succ k ih =>
  intro h
  rw [ym, if_neg (h k (by omega)), ih (fun i hi => h i (by omega))]
theorem qfV (i : Nat) (g : Int) : ∀ k, k <= 20 -> i < k -> ym (wb i) g k = wrap64 (g + i) := by
 intro k
 induction k with
 | zero => intro _ h; omega
 | succ k ih =>
  intro h1 h2
  rw [ym]
  by_cases e : i = k
  ·subst e
   rw [if_pos rfl, kY _ _ _ (fun j hj => vR j i (by omega) (by omega) (by omega))]
  ·rw [if_neg (vR k i (by omega) (by omega) (by omega)), ih (by omega) (by omega)]
theorem qau (s : ByteArray) (g : Int) : ∀ k, (∀ i, i < k -> wb (20 + i) ≠ s) -> kB s g k = g := by
 intro k
 induction k with
 | zero => intro _; rfl
 | succ k ih =>
  intro h
  rw [kB, if_neg (h k (by omega)), ih (fun i hi => h i (by omega))]
theorem qgO (i : Nat) (g : Int) : ∀ k, k <= 8 -> i < k -> kB (wb (20 + i)) g k = wrap64 (wrap64 (g + 10 * i) + 20) := by
 intro k
 induction k with
 | zero => intro _ h; omega
 | succ k ih =>
  intro h1 h2
  rw [kB]
  by_cases e : i = k
  ·subst e
   rw [if_pos rfl, qau _ _ _ (fun j hj => vR _ _ (by omega) (by omega) (by omega))]
  ·rw [if_neg (vR _ _ (by omega) (by omega) (by omega)), ih (by omega) (by omega)]
theorem valK_inv (k : Nat) (s : ByteArray) (v : Int) (h : kG k s = some v) : ∃ i, i < k /\ s = wb i /\ v = kx i := by
 induction k with
 | zero => cases h
 | succ k ih =>
  rw [kG] at h
  split at h
  ·rename_i hs
   injection h with h
   exact ⟨k, by omega, hs, h.symm⟩
  ·obtain ⟨i, a, b, c⟩ := ih h
   exact ⟨i, by omega, b, c⟩
theorem qaU (j : Nat) (hj : 28 <= j) (hj2 : j < 32) (g : Int) : kB (wb j) (ym (wb j) g 20) 8 = g := by
 rw [qau _ _ _ (fun i hi => vR _ _ (by omega) (by omega) (by omega)), kY _ _ _ (fun i hi => vR _ _ (by omega) (by omega) (by omega))]
theorem qg1 (a p a' p' : Int) (s : ByteArray) (h : jG a p s = some (a', p')) (ha0 : 0 <= a) (ha : a <= 999999999) (hp0 : 0 <= p) (hp : p <= 999999999) : yT (a, p) s = (a', p') /\ 0 <= a' /\ a' <= 999999999 /\ 0 <= p' /\ p' <= 999999999 := by
 unfold jG at h
 cases hsw : swN a p s with
 | none => rw [hsw] at h; cases h
 | some x =>
  obtain ⟨a1, p1⟩ := x
  rw [hsw] at h
  simp only at h
  have hb := swN_bd a p s a1 p1 hsw ha0 ha hp0 hp
  split at h
  ·cases h
  rename_i hbig
  simp only [Option.some.injEq, Prod.mk.injEq] at h
  obtain ⟨rfl, rfl⟩ := h
  refine ⟨?_, hb.1, by omega, hb.2.2.1, by omega⟩
  unfold swN at hsw
  unfold yT swR
  simp only
  split at hsw
  ·rename_i e
   subst e
   simp only [Option.some.injEq, Prod.mk.injEq] at hsw
   obtain ⟨rfl, rfl⟩ := hsw
   rw [if_neg (vR _ _ (by omega) (by omega) (by omega)), if_neg (vR _ _ (by omega) (by omega) (by omega)), if_neg (vR _ _ (by omega) (by omega) (by omega)), qaU 31 (by omega) (by omega)]
  split at hsw
  ·rename_i e
   subst e
   simp only [Option.some.injEq, Prod.mk.injEq] at hsw
   obtain ⟨rfl, rfl⟩ := hsw
   rw [if_pos rfl, qaU 28 (by omega) (by omega)]
   simp only
   rw [w64 _ (by omega) (by omega), Int.mul_comm]
  split at hsw
  ·rename_i e
   subst e
   simp only [Option.some.injEq, Prod.mk.injEq] at hsw
   obtain ⟨rfl, rfl⟩ := hsw
   rw [if_neg (vR _ _ (by omega) (by omega) (by omega)), if_pos rfl, qaU 29 (by omega) (by omega)]
   simp only
   rw [w64 (1000 * p) (by omega) (by omega), w64 _ (by omega) (by omega)]
  split at hsw
  ·rename_i e
   subst e
   simp only [Option.some.injEq, Prod.mk.injEq] at hsw
   obtain ⟨rfl, rfl⟩ := hsw
   rw [if_neg (vR _ _ (by omega) (by omega) (by omega)), if_neg (vR _ _ (by omega) (by omega) (by omega)), if_pos rfl, qaU 30 (by omega) (by omega)]
   simp only
   rw [w64 (1000000 * p) (by omega) (by omega), w64 _ (by omega) (by omega)]
  rename_i n31 n28 n29 n30
  cases hv : kG 28 s with
  | none => rw [hv] at hsw; cases hsw
  | some v =>
   rw [hv] at hsw
   simp only [Option.some.injEq, Prod.mk.injEq] at hsw
   obtain ⟨rfl, rfl⟩ := hsw
   obtain ⟨i, hi, rfl, rfl⟩ := valK_inv _ _ _ hv
   rw [if_neg n28, if_neg n29, if_neg n30]
   simp only
   have hvb := qgI i hi
   by_cases h20 : i < 20
   ·rw [qfV i p 20 (by omega) h20, qau _ _ _ (fun j hj => vR _ _ (by omega) (by omega) (by omega))]
    unfold kx
    rw [if_neg (by omega), w64 _ (by omega) (by omega)]
   ·obtain ⟨j, rfl⟩ : ∃ j, i = 20 + j := ⟨i - 20, by omega⟩
    rw [kY _ _ _ (fun j hj => vR _ _ (by omega) (by omega) (by omega)), qgO j p 8 (by omega) (by omega), w64 (p + 10 * j) (by omega) (by omega), w64 _ (by omega) (by omega)]
    unfold kx
    split <;> (congr 1; omega)
theorem qhk : ∀ (l : List ByteArray) (a p a' p' : Int), vi l a p = some (a', p') -> 0 <= a -> a <= 999999999 -> 0 <= p -> p <= 999999999 -> l.foldl yT (a, p) = (a', p') /\ 0 <= a' /\ a' <= 999999999 /\ 0 <= p' /\ p' <= 999999999 := by
 intro l
 induction l with
 | nil =>
  intro a p a' p' h h1 h2 h3 h4
  rw [vi] at h
  simp only [Option.some.injEq, Prod.mk.injEq] at h
  obtain ⟨rfl, rfl⟩ := h
  exact ⟨rfl, h1, h2, h3, h4⟩
 | cons s t ih =>
  intro a p a' p' h h1 h2 h3 h4
  rw [vi] at h
  cases hs : jG a p s with
  | none => rw [hs] at h; cases h
  | some x =>
   obtain ⟨a1, p1⟩ := x
   rw [hs] at h
   obtain ⟨e, b1, b2, b3, b4⟩ := qg1 a p a1 p1 s hs h1 h2 h3 h4
   rw [List.foldl_cons, e]
   exact ih a1 p1 a' p' h b1 b2 b3 b4
theorem qcG {l : List ByteArray} {n : Int} (h : qS l = some n) : valR l = n := by
 unfold qS at h
 split at h
 ·cases h
 cases hl : vi l 0 0 with
 | none => rw [hl] at h; cases h
 | some x =>
  obtain ⟨a, p⟩ := x
  rw [hl] at h
  simp only at h
  obtain ⟨e, b1, b2, b3, b4⟩ := qhk l 0 0 a p hl (by omega) (by omega) (by omega) (by omega)
  unfold je at h
  split at h
  ·injection h with h
   subst h
   unfold valR kX
   rw [e]
   simp only
   split
   ·rw [w64 (-a) (by omega) (by omega), w64 _ (by omega) (by omega)]
    omega
   ·rw [w64 _ (by omega) (by omega)]
  ·cases h
theorem kq (l : List ByteArray) : vj l = qS l := by
 cases hn : qS l with
 | some n =>
  have hv := qcG hn
  obtain ⟨h1, h2, h3, h4, h5⟩ := zu hn
  unfold vj
  rw [if_neg (by omega), hv]
  unfold je
  rw [if_pos ⟨h1, h2, h3⟩]
 | none =>
  cases hr : vj l with
  | none => rfl
  | some n =>
   exfalso
   unfold vj at hr
   split at hr
   ·cases hr
   unfold je at hr
   split at hr
   ·rename_i hc
    obtain ⟨h1, h2, h3⟩ := hc
    have := qdS (valR l) h1 h2
    rw [h3, hn] at this
    cases this
   ·cases hr
theorem qe9 (l : List ByteArray) : kk l l.length = prefixL l := by
 have h1 : ∀ k, kk l k = jp l k := by
  intro k
  induction k with
  | zero => rfl
  | succ k ih =>
   rw [kk, jp, kq, ih]
   cases qS (l.take (k + 1)) <;> rfl
 unfold prefixL
 rw [h1]
 rcases Nat.lt_or_ge l.length 16 with h | h
 ·rw [Nat.min_eq_left (by omega)]
 ·rw [Nat.min_eq_right (by omega)]
  obtain ⟨d, hd⟩ : ∃ d, l.length = 15 + d := ⟨l.length - 15, by omega⟩
  have : ∀ d, 15 + d <= l.length -> jp l (15 + d) = jp l 15 := by
   intro d
   induction d with
   | zero => intro _; rfl
   | succ d ih =>
    intro hle
    rw [show 15 + (d + 1) = (15 + d) + 1 from rfl, jp, kh l _ (by omega) (by omega)]
    exact ih (by omega)
  rw [hd]
  exact this d (by omega)
theorem qbD (l : List ByteArray) (k : Nat) (h : k < l.length) (x : Int × Int) : (l.take (k + 1)).foldl yT x = yT ((l.take k).foldl yT x) l[k] := by
 rw [List.take_succ_eq_append_getElem h, List.foldl_append]
 rfl
theorem rvalue (l : List ByteArray) (A : Option Addr) (n c B : Nat) (w : World) (hn : l.length = n) (hl : Rd w B 1 A n (sv l)) (hbig : n <= maxLen) (ht : Tb w) :
  Calls prog 66 #[.slice A n c] w (Quiet (.int .i64 (valR l)) w) := by
 have hb2 : n <= 9223372036854775807 := by unfold maxLen at hbig; omega
 have Hn := Lh hn
 have HT := Lh ht
 have HV : Hid (∀ a g, l.foldl yT (0, 0) = (a, g) -> valR l = if l.head? = some (wb 31) then wrap64 (wrap64 (-a) - g) else wrap64 (a + g)) := Lh fun a g h => by
  unfold valR
  rw [h]
 clear hn ht hbig
 generalize valR l = R at *
 go_enter func66, ntmps66
 go_wp2
 go_loopw [3, 4, 5] (fun x y z wr => ∃ (k j : Nat) (a g : Int), k <= n /\ z = .int .i64 k /\ x = .int .i64 a /\ y = .int .i64 g /\ wr = w.drewN j /\ Hid ((l.take k).foldl yT (0, 0) = (a, g))) (fun _ _ z _ => n - (intOf z).toNat)
 case atStart => exact ⟨0, 0, 0, 0, Nat.zero_le _, rfl, rfl, rfl, rfl, Lh rfl⟩
 case round =>
  obtain ⟨k, j, a, g, hk, rfl, rfl, rfl, rfl, HF⟩ := hrel
  by_cases hlt : k < n
  ·obtain ⟨b, o, rfl, hbB, hc⟩ := hl.at_ hlt
   have hkl : k < l.length := by rw [Hn.out]; exact hlt
   rw [vM _ _ hkl] at hc
   have HS : Hid ((l.take (k + 1)).foldl yT (0, 0) = yT (a, g) l[k]) := Lh (by rw [qbD l k hkl, HF.out])
   generalize l[k] = s at *
   have HS2 : Hid ((l.take (k + 1)).foldl yT (0, 0) = ((swR a g s).1, kB s (ym s (swR a g s).2 20) 8)) := Lh HS.out
   have t28 := jq s (wb 28) [104, 117, 110, 100, 114, 101, 100] rfl
   have t29 := jq s (wb 29) [116, 104, 111, 117, 115, 97, 110, 100] rfl
   have t30 := jq s (wb 30) [109, 105, 108, 108, 105, 111, 110] rfl
   go_upto_block 2 with (fail)
   go_cut [3, 4] (fun x y wx => wx = w.drewN j /\ x = .int .i64 (swR a g s).1 /\ y = .int .i64 (swR a g s).2)
   case first =>
    by_cases c28 : s = wb 28
    ·have d28 : (s.toList == [104, 117, 110, 100, 114, 101, 100]) = true := by rw [t28]; simp [c28]
     have HH : Hid (swR a g s = (a, wrap64 (100 * g))) := Lh (by unfold swR; rw [if_pos c28])
     clear t28 t29 t30 c28
     go_wp2_with fail
     go_meet
     rw [HH.out]
     exact ⟨rfl, rfl, rfl⟩
    have d28 : (s.toList == [104, 117, 110, 100, 114, 101, 100]) = false := by rw [t28]; simp [c28]
    by_cases c29 : s = wb 29
    ·have d29 : (s.toList == [116, 104, 111, 117, 115, 97, 110, 100]) = true := by rw [t29]; simp [c29]
     have HH : Hid (swR a g s = (wrap64 (a + wrap64 (1000 * g)), 0)) := Lh (by unfold swR; rw [if_neg c28, if_pos c29])
     clear t28 t29 t30 c28 c29
     go_wp2_with fail
     go_meet
     rw [HH.out]
     exact ⟨rfl, rfl, rfl⟩
    have d29 : (s.toList == [116, 104, 111, 117, 115, 97, 110, 100]) = false := by rw [t29]; simp [c29]
    by_cases c30 : s = wb 30
    ·have d30 : (s.toList == [109, 105, 108, 108, 105, 111, 110]) = true := by rw [t30]; simp [c30]
     have HH : Hid (swR a g s = (wrap64 (a + wrap64 (1000000 * g)), 0)) := Lh (by unfold swR; rw [if_neg c28, if_neg c29, if_pos c30])
     clear t28 t29 t30 c28 c29 c30
     go_wp2_with fail
     go_meet
     rw [HH.out]
     exact ⟨rfl, rfl, rfl⟩
    have d30 : (s.toList == [109, 105, 108, 108, 105, 111, 110]) = false := by rw [t30]; simp [c30]
    have HH : Hid (swR a g s = (a, g)) := Lh (by unfold swR; rw [if_neg c28, if_neg c29, if_neg c30])
    clear t28 t29 t30 c28 c29 c30
    go_wp2_with fail
    go_meet
    rw [HH.out]
    exact ⟨rfl, rfl, rfl⟩
   case rest =>
    obtain ⟨rfl, rfl, rfl⟩ := hcut
    clear t28 t29 t30 HS
    generalize (swR a g s).1 = a1 at *
    generalize (swR a g s).2 = g1 at *
    go_wp2_with fail
    go_loopw [4, 6] (fun y z wr => ∃ (i j : Nat) (g : Int), i <= 20 /\ z = .int .i64 i /\ y = .int .i64 g /\ wr = w.drewN j /\ Hid (g = ym s g1 i)) (fun _ z _ => 20 - (intOf z).toNat)
    case atStart => exact ⟨0, j, g1, by omega, rfl, rfl, rfl, Lh rfl⟩
    case round =>
     obtain ⟨i, j1, g2, hi, rfl, rfl, rfl, HG⟩ := hrel
     by_cases hi20 : i < 20
     ·have hcu := HT.out.1 i hi20
      have HU : Hid (ym s g1 (i + 1) = if wb i = s then wrap64 (g2 + i) else g2) := Lh (by rw [ym, HG.out])
      have HB := Lh (ve (wb i) s)
      generalize wb i = u at *
      go_wp2
      go_quiet (fail)
      go_wp2
      ·rename_i he
       rw [HB.out, decide_eq_true_eq] at he
       exact ⟨⟨i + 1, _, _, by omega, by go_num, rfl, rfl, Lh (by rw [HU.out, if_pos he])⟩, by simp [intOf]; omega⟩
      ·rename_i he
       rw [HB.out, decide_eq_false_iff_not] at he
       exact ⟨⟨i + 1, _, _, by omega, by go_num, rfl, rfl, Lh (by rw [HU.out, if_neg he])⟩, by simp [intOf]; omega⟩
     ·obtain rfl : i = 20 := by omega
      go_wp2_with fail
      go_loopw [4, 7] (fun y z wr => ∃ (i j : Nat) (g : Int), i <= 8 /\ z = .int .i64 i /\ y = .int .i64 g /\ wr = w.drewN j /\ Hid (g = kB s g2 i)) (fun _ z _ => 8 - (intOf z).toNat)
      case atStart => exact ⟨0, j1, g2, by omega, rfl, rfl, rfl, Lh rfl⟩
      case round =>
       obtain ⟨i, j2, g3, hi, rfl, rfl, rfl, HG3⟩ := hrel
       by_cases hi8 : i < 8
       ·have hcu := HT.out.2 i hi8
        have HU : Hid (kB s g2 (i + 1) = if wb (20 + i) = s then wrap64 (wrap64 (g3 + 10 * i) + 20) else g3) := Lh (by rw [kB, HG3.out])
        have HB := Lh (ve (wb (20 + i)) s)
        generalize wb (20 + i) = u at *
        go_wp2
        go_quiet (fail)
        go_wp2
        ·rename_i he
         rw [HB.out, decide_eq_true_eq] at he
         exact ⟨⟨i + 1, _, _, by omega, by go_num, rfl, rfl, Lh (by rw [HU.out, if_pos he])⟩, by simp [intOf]; omega⟩
        ·rename_i he
         rw [HB.out, decide_eq_false_iff_not] at he
         exact ⟨⟨i + 1, _, _, by omega, by go_num, rfl, rfl, Lh (by rw [HU.out, if_neg he])⟩, by simp [intOf]; omega⟩
       ·obtain rfl : i = 8 := by omega
        have HX : Hid ((l.take (k + 1)).foldl yT (0, 0) = (a1, g3)) := Lh (by rw [HS2.out, HG3.out, HG.out])
        go_wp2_with fail
        exact ⟨⟨k + 1, _, _, _, by omega, by go_num, rfl, rfl, rfl, HX⟩, by simp [intOf]; omega⟩
  ·obtain rfl : k = n := by omega
   have HF2 : Hid (l.foldl yT (0, 0) = (a, g)) := Lh (by have := HF.out; rwa [List.take_of_length_le (by rw [Hn.out]; exact Nat.le_refl _)] at this)
   have HR := Lh (HV.out a g HF2.out)
   by_cases h0 : 0 < k
   ·obtain ⟨b, o, rfl, hbB, hc⟩ := hl.at_ h0
    have hkl : 0 < l.length := by rw [Hn.out]; exact h0
    rw [vM _ _ hkl, Nat.add_zero] at hc
    have hh : l.head? = some l[0] := by
     cases l with
     | nil => simp at hkl
     | cons x t => rfl
    have t31 := jq l[0] (wb 31) [109, 105, 110, 117, 115] rfl
    by_cases c31 : l[0] = wb 31
    ·have d31 : (l[0].toList == [109, 105, 110, 117, 115]) = true := by rw [t31]; simp [c31]
     have HR2 : Hid (R = wrap64 (wrap64 (-a) - g)) := Lh (by rw [HR.out, if_pos (by rw [hh, c31])])
     clear t31 hh c31
     generalize l[0] = s at *
     go_wp2_with fail
     go_ret
     exact ⟨by rw [HR2.out]; rfl, j, rfl⟩
    ·have d31 : (l[0].toList == [109, 105, 110, 117, 115]) = false := by rw [t31]; simp [c31]
     have HR2 : Hid (R = wrap64 (a + g)) := Lh (by rw [HR.out, if_neg (by rw [hh]; simpa using c31)])
     clear t31 hh c31
     generalize l[0] = s at *
     go_wp2_with fail
     go_ret
     exact ⟨by rw [HR2.out]; rfl, j, rfl⟩
   ·have hnil : l = [] := List.eq_nil_of_length_eq_zero (by rw [Hn.out]; omega)
    have HR2 : Hid (R = wrap64 (a + g)) := Lh (by rw [HR.out, if_neg (by rw [hnil]; simp)])
    clear hnil
    go_wp2_with fail
    go_ret
    exact ⟨by rw [HR2.out]; rfl, j, rfl⟩
theorem qcH (l : List ByteArray) (A : Option Addr) (c : Nat) (w : World) (h : l.length = 0 ∨ 15 < l.length) :
  Calls prog 49 #[.slice A l.length c] w (qg (vG (vj l)) w) := by
 have hN : vj l = none := by unfold vj; rw [if_pos h]
 rw [hN]
 by_cases h0 : l.length = 0
 ·have e0 : ((l.length : Int) == 0) = true := by simp [h0]
  clear h h0
  go_enter func49, ntmps49
  go_wp2
  go_ret2
  exact ⟨rfl, Below.refl _ _⟩
 ·have e0 : ((l.length : Int) == 0) = false := beq_eq_false_iff_ne.2 (by omega)
  have e1 : 15 < l.length := by omega
  clear h h0
  go_enter func49, ntmps49
  go_wp2
  go_ret2
  exact ⟨rfl, Below.refl _ _⟩
theorem qdH (l : List ByteArray) (A : Option Addr) (n c : Nat) (w : World) (hn : l.length = n) (hl : Rd w w.heap.size 1 A n (sv l)) (h0 : 0 < n) (h1 : n <= 15) (ht : Tb w) :
  Calls prog 49 #[.slice A n c] w (qg (vG (vj l)) w) := by
 have e0 : ((n : Int) == 0) = false := beq_eq_false_iff_ne.2 (by omega)
 have Hn := Lh hn
 have HT := Lh ht
 have HN : Hid (vj l = je l (valR l)) := Lh (by unfold vj; rw [if_neg (by omega)])
 have HV := Lh (rvalue l A n c w.heap.size w hn hl (by unfold maxLen; omega) ht)
 clear hn ht
 generalize vj l = R at *
 generalize valR l = v at *
 by_cases hin : -999999999 <= v /\ v <= 999999999
 ·obtain ⟨i1, i2⟩ := hin
  have hle := jD v
  by_cases heq : (qG v).map wb = l
  ·have HR2 : Hid (R = some v) := Lh (by rw [HN.out]; unfold je; rw [if_pos ⟨i1, i2, heq⟩])
   have HE := Lh heq
   clear heq
   go_enter func49, ntmps49
   go_wp2_with (first
    | (go_at_call 66; refine HV.out.mono ?_; rintro e w1 ⟨rfl, n1, rfl⟩)
    | (go_at_call 67; refine (qcX v i1 i2 _ (HT.out.drewN _)).mono ?_; rintro e w2 ⟨A2, c2, rfl, hown2, qh8⟩)
    | (go_at_call 10; refine (same_t ((qG v).map wb) (l) (HE.out) _ _ _ _ _ _ _ _ _ (by first | rfl | assumption | exact Hn.out | (simp; done) | (simp; omega)) (by first | rfl | assumption | exact Hn.out | (simp; done) | (simp; omega)) (by rw [<- qcf]; exact Rd.of_own hown2) ((Rd.below (w := w.drewN _) hl qh8)) (by first | omega | (simp only [List.length_cons, List.length_nil]; omega)) (by first | omega | (simp only [List.length_cons, List.length_nil]; omega))).mono ?_; rintro e w3 ⟨rfl, n3, rfl⟩))
   go_ret2
   rw [HR2.out]
   exact ⟨rfl, qb (yB qh8)⟩
  ·have HR2 : Hid (R = none) := Lh (by rw [HN.out]; unfold je; rw [if_neg (fun h => heq h.2.2)])
   have HE := Lh heq
   clear heq
   go_enter func49, ntmps49
   go_wp2_with (first
    | (go_at_call 66; refine HV.out.mono ?_; rintro e w1 ⟨rfl, n1, rfl⟩)
    | (go_at_call 67; refine (qcX v i1 i2 _ (HT.out.drewN _)).mono ?_; rintro e w2 ⟨A2, c2, rfl, hown2, qh8⟩)
    | (go_at_call 10; refine (same_f ((qG v).map wb) (l) (HE.out) _ _ _ _ _ _ _ _ _ (by first | rfl | assumption | exact Hn.out | (simp; done) | (simp; omega)) (by first | rfl | assumption | exact Hn.out | (simp; done) | (simp; omega)) (by rw [<- qcf]; exact Rd.of_own hown2) ((Rd.below (w := w.drewN _) hl qh8)) (by first | omega | (simp only [List.length_cons, List.length_nil]; omega)) (by first | omega | (simp only [List.length_cons, List.length_nil]; omega))).mono ?_; rintro e w3 ⟨rfl, n3, rfl⟩))
   go_ret2
   rw [HR2.out]
   exact ⟨rfl, qb (yB qh8)⟩
 ·have HR2 : Hid (R = none) := Lh (by rw [HN.out]; unfold je; rw [if_neg (fun h => hin ⟨h.1, h.2.1⟩)])
  go_enter func49, ntmps49
  go_wp2_with (first
   | (go_at_call 66; refine HV.out.mono ?_; rintro e w1 ⟨rfl, n1, rfl⟩)
   | (go_at_call 67; refine (qdW v (by omega) _).mono ?_; rintro e w2 ⟨rfl, qh8⟩))
  go_ret2
  rw [HR2.out]
  exact ⟨rfl, yB qh8⟩
theorem qgi (l : List ByteArray) (A : Option Addr) (n c : Nat) (w : World) (hn : l.length = n) (hl : Rd w w.heap.size 1 A n (sv l)) (ht : Tb w) :
  Calls prog 49 #[.slice A n c] w (qg (vG (qS l)) w) := by
 rw [<- kq]
 by_cases h : n = 0 ∨ 15 < n
 ·subst hn
  exact qcH l A c w h
 ·exact qdH l A n c w hn hl (by omega) (by omega) ht
end Go.Proofs.YtlndbiamiioakaaGreatDoor
namespace Go.Proofs.YtlndbiamiioakaaGreatDoor
open Go.Proofs.Tryz Go.RowKit
theorem qae (l : List ByteArray) (A : Option Addr) (n c : Nat) (w : World) (hn : l.length = n) (hc : n <= c) (hbig : c <= maxLen) (hl : Rd w w.heap.size 1 A n (sv l)) (ht : Tb w) :
  Calls prog 36 #[.slice A n c] w (qg (qC (prefixL l)) w) := by
 have hcm : c <= 9223372036854775807 := by unfold maxLen at hbig; omega
 have HN := Lh hn
 have HT := Lh ht
 have HP : Hid (prefixL l = jp l n) := Lh (by
  rw [<- qe9, hn]
  have h1 : ∀ k, kk l k = jp l k := by
   intro k
   induction k with
   | zero => rfl
   | succ k ih =>
    rw [kk, jp, kq, ih]
    cases qS (l.take (k + 1)) <;> rfl
  exact h1 n)
 clear hn ht hbig
 generalize prefixL l = R at *
 go_enter func36, ntmps36
 go_wp2
 go_loopw [5] (fun i wr => ∃ k : Nat, k <= n /\ i = .int .i64 k /\ Below w.heap.size w wr /\ Hid (R = jp l k)) (fun i _ => (intOf i).toNat)
 case atStart => exact ⟨n, Nat.le_refl _, rfl, Below.refl _ _, HP⟩
 case round =>
  obtain ⟨k, hk, rfl, hbel, HL⟩ := hrel
  by_cases hlt : 0 < k
  ·obtain ⟨b, o, rfl, hbB, _⟩ := hl.at_ (show k - 1 < n by omega)
   have hT : Rd wr wr.heap.size 1 (some ⟨b, o, none⟩) k (sv (l.take k)) := by
    have := ((hl.below hbel).more hbel.size).take hk
    rwa [Nat.mul_one, <- qf2] at this
   have hlen : (l.take k).length = k := by rw [List.length_take, HN.out]; omega
   have HC := Lh (qgi (l.take k) (some ⟨b, o, none⟩) k c wr hlen hT (HT.out.below hbel))
   clear hlen hT hl
   cases hr : qS (l.take k) with
   | none =>
    rw [hr] at HC
    have HR2 : Hid (R = jp l (k - 1)) := Lh (by
     rw [HL.out]
     obtain ⟨j, rfl⟩ : ∃ j, k = j + 1 := ⟨k - 1, by omega⟩
     rw [jp, hr]
     rfl)
    clear hr
    simp only [vG] at HC
    go_wp2_with (go_at_call 49; refine HC.out.mono ?_; rintro e w1 ⟨rfl, qh7⟩)
    exact ⟨⟨k - 1, by omega, by go_num, hbel.trans (qh7.mono hbel.size), HR2⟩, by simp [intOf]; omega⟩
   | some v =>
    rw [hr] at HC
    have HR2 : Hid (R = some (v, k)) := Lh (by
     rw [HL.out]
     obtain ⟨j, rfl⟩ : ∃ j, k = j + 1 := ⟨k - 1, by omega⟩
     rw [jp, hr])
    clear hr
    simp only [vG] at HC
    go_wp2_with (go_at_call 49; refine HC.out.mono ?_; rintro e w1 ⟨rfl, qh7⟩)
    go_ret3
    rw [HR2.out]
    exact ⟨rfl, hbel.trans (qh7.mono hbel.size)⟩
  ·obtain rfl : k = 0 := by omega
   go_wp2
   go_ret3
   rw [HL.out]
   exact ⟨rfl, hbel⟩
end Go.Proofs.YtlndbiamiioakaaGreatDoor
namespace Go.Proofs.YtlndbiamiioakaaGreatDoor
open Go.Proofs.Tryz Go.RowKit
theorem qdL (A : Option Addr) (c : Nat) (w : World) : Calls prog 113 #[.slice A 0 c] w (qg (qbF none) w) := by
 go_enter func113, ntmps113
 go_wp2
 go_ret3
 exact ⟨rfl, Below.refl _ _⟩
theorem qcE (s : ByteArray) (t : List ByteArray) (b o n c : Nat) (w : World) (hn : t.length + 1 = n) (hc : n <= c) (hm : c <= maxLen) (rd : Rd w w.heap.size 1 (some ⟨b, o, none⟩) n (sv (s :: t))) (ht : Tb w) :
  Calls prog 113 #[.slice (some ⟨b, o, none⟩) n c] w (qg (qbF (qL (s :: t))) w) := by
 have e0 : ((n : Int) == 0) = false := beq_eq_false_iff_ne.2 (by omega)
 have hn1 : 1 <= n := by omega
 have hcell : w.cell? ⟨b, o, none⟩ = some (.string s) := by
  obtain ⟨b', o', e, _, h⟩ := rd.at_ (show 0 < n by omega)
  cases e
  simpa [sv] using h
 have HT := Lh ht
 have HC : Hid (∀ w, Calls prog 138 #[.string s] w (qg (.int .i32 (qdT s)) w)) := Lh fun w => rSign s w
 unfold qdT at HC
 cases hi : qbh s with
 | some i =>
  obtain ⟨hi32, rfl⟩ := qab hi
  have HR : Hid (qL (nb i :: t) = some ((vd i : Int), 1)) := Lh (by rw [qL, hi])
  rw [hi] at HC
  simp only at HC
  have hpos : (vd i : Int) > 0 := by have := qeP hi32; omega
  rw [HR.out]
  clear hi ht rd hn hm
  generalize (vd i : Int) = v at *
  generalize nb i = s at *
  go_enter func113, ntmps113
  go_wp2_with (go_at_call 138; refine (HC.out _).mono ?_; rintro e w1 ⟨rfl, qh7⟩)
  go_ret3
  exact ⟨rfl, qh7⟩
 | none =>
  rw [hi] at HC
  simp only at HC
  have tc := jq s cB [99, 104, 97, 114, 97, 99, 116, 101, 114] rfl
  have hcm : c <= 9223372036854775807 := by unfold maxLen at hm; omega
  have HTl := Lh (qf8 hn hc rd)
  have HP : Hid (∀ w1 A', Below w.heap.size w w1 -> Rd w w.heap.size 1 A' (n - 1) (sv t) -> Calls prog 36 #[.slice A' (n - 1) (c - 1)] w1 (qg (qC (prefixL t)) w1)) := Lh fun w1 A' hb h =>
   qae t A' (n - 1) (c - 1) w1 (by omega) (by omega) (Nat.le_trans (Nat.sub_le _ _) hm) ((h.below hb).more hb.size) (HT.out.below hb)
  have Htn := Lh hn
  have HRR : Hid (qL (s :: t) = if s = cB then qal (prefixL t) else none) := Lh (by rw [qL, hi])
  clear hi ht rd hn hm
  by_cases c1 : c = 1
  ·obtain rfl : n = 1 := by omega
   obtain rfl : t = [] := List.length_eq_zero_iff.1 (by have := Htn.out; omega)
   have HT1 : Hid (Rd w w.heap.size 1 (some ⟨b, o, none⟩) 0 (sv [])) := Lh (by have := HTl.out; rwa [if_pos c1] at this)
   subst c1
   have hp0 : prefixL [] = none := rfl
   have HR : Hid (qL [s] = none) := Lh (by rw [HRR.out, hp0]; split <;> rfl)
   rw [hp0] at HP
   rw [HR.out]
   clear HTl HRR HR hp0
   simp only [Nat.sub_self, qC] at HP
   by_cases hcb : s = cB
   ·have dc : (s.toList == [99, 104, 97, 114, 97, 99, 116, 101, 114]) = true := by rw [tc]; simp [hcb]
    clear tc hcb
    go_enter func113, ntmps113
    go_wp2_with (first
     | (go_at_call 138; refine (HC.out _).mono ?_; rintro e w1 ⟨rfl, qh7⟩; have hcell1 := zG hcell qh7)
     | (go_at_call 36; refine (HP.out _ _ qh7 HT1.out).mono ?_; rintro e w2 ⟨rfl, qh8⟩; have t2 := qh7.trans (qh8.mono qh7.size); have hcell2 := zG hcell t2))
    go_ret3
    exact ⟨rfl, t2⟩
   ·have dc : (s.toList == [99, 104, 97, 114, 97, 99, 116, 101, 114]) = false := by rw [tc]; simp [hcb]
    clear tc hcb
    go_enter func113, ntmps113
    go_wp2_with (first
     | (go_at_call 138; refine (HC.out _).mono ?_; rintro e w1 ⟨rfl, qh7⟩; have hcell1 := zG hcell qh7)
     | (go_at_call 36; refine (HP.out _ _ qh7 HT1.out).mono ?_; rintro e w2 ⟨rfl, qh8⟩; have t2 := qh7.trans (qh8.mono qh7.size); have hcell2 := zG hcell t2))
    go_ret3
    exact ⟨rfl, t2⟩
  ·have HT1 : Hid (Rd w w.heap.size 1 (some ⟨b, o + 1, none⟩) (n - 1) (sv t)) := Lh (by have := HTl.out; rwa [if_neg c1] at this)
   clear HTl
   by_cases hcb : s = cB
   ·have dc : (s.toList == [99, 104, 97, 114, 97, 99, 116, 101, 114]) = true := by rw [tc]; simp [hcb]
    have HR : Hid (qL (s :: t) = qal (prefixL t)) := Lh (by rw [HRR.out]; exact if_pos hcb)
    clear tc hcb HRR
    cases hp : prefixL t with
    | none =>
     rw [hp] at HP
     have HR2 : Hid (qL (s :: t) = none) := Lh (by rw [HR.out, hp]; rfl)
     rw [HR2.out]
     clear hp
     simp only [qC] at HP
     go_enter func113, ntmps113
     go_wp2_with (first
      | (go_at_call 138; refine (HC.out _).mono ?_; rintro e w1 ⟨rfl, qh7⟩; have hcell1 := zG hcell qh7)
      | (go_at_call 36; refine (HP.out _ _ qh7 HT1.out).mono ?_; rintro e w2 ⟨rfl, qh8⟩; have t2 := qh7.trans (qh8.mono qh7.size); have hcell2 := zG hcell t2))
     go_ret3
     exact ⟨rfl, t2⟩
    | some x =>
     obtain ⟨v, k⟩ := x
     rw [hp] at HP
     obtain ⟨k1, k2, k3, k4, k5⟩ := qT hp
     obtain ⟨v1, v2, _⟩ := zu k4
     have hk16 : k <= 15 := k3
     simp only [qC] at HP
     have Hpv : Hid (prefixL t = some (v, k)) := Lh hp
     clear hp k4 k5 k2 k3
     by_cases hv0 : v < 0
     ·have HR2 : Hid (qL (s :: t) = none) := Lh (by rw [HR.out, Hpv.out]; exact jR (by have : zn v = false := (ya v).2 (by unfold jy; omega); simp [this]))
      rw [HR2.out]
      go_enter func113, ntmps113
      go_wp2_with (first
       | (go_at_call 138; refine (HC.out _).mono ?_; rintro e w1 ⟨rfl, qh7⟩; have hcell1 := zG hcell qh7)
       | (go_at_call 36; refine (HP.out _ _ qh7 HT1.out).mono ?_; rintro e w2 ⟨rfl, qh8⟩; have t2 := qh7.trans (qh8.mono qh7.size); have hcell2 := zG hcell t2))
      go_ret3
      exact ⟨rfl, t2⟩
     by_cases hv1 : v > 1114111
     ·have HR2 : Hid (qL (s :: t) = none) := Lh (by rw [HR.out, Hpv.out]; exact jR (by have : zn v = false := (ya v).2 (by unfold jy; omega); simp [this]))
      rw [HR2.out]
      go_enter func113, ntmps113
      go_wp2_with (first
       | (go_at_call 138; refine (HC.out _).mono ?_; rintro e w1 ⟨rfl, qh7⟩; have hcell1 := zG hcell qh7)
       | (go_at_call 36; refine (HP.out _ _ qh7 HT1.out).mono ?_; rintro e w2 ⟨rfl, qh8⟩; have t2 := qh7.trans (qh8.mono qh7.size); have hcell2 := zG hcell t2))
      go_ret3
      exact ⟨rfl, t2⟩
     have Hw : IntKind.i32.wrap v = v := IntWalk.i32_in _ (by omega)
     have HCH : Hid (∀ w, Calls prog 139 #[.int .i32 v] w (qg (.bool (zn v)) w)) := Lh fun w => qfW v w
     have HSG : Hid (∀ w, Calls prog 140 #[.int .i32 v] w (qg (.bool (isS v)) w)) := Lh fun w => rsign v w
     cases hch : zn v with
     | false =>
      have HR2 : Hid (qL (s :: t) = none) := Lh (by rw [HR.out, Hpv.out]; exact jR (by simp [hch]))
      rw [hch] at HCH
      rw [HR2.out]
      clear hch
      go_enter func113, ntmps113
      go_wp2_with (first
       | (go_at_call 138; refine (HC.out _).mono ?_; rintro e w1 ⟨rfl, qh7⟩; have hcell1 := zG hcell qh7)
       | (go_at_call 36; refine (HP.out _ _ qh7 HT1.out).mono ?_; rintro e w2 ⟨rfl, qh8⟩; have t2 := qh7.trans (qh8.mono qh7.size); have hcell2 := zG hcell t2)
       | (go_at_call 139; refine (HCH.out _).mono ?_; rintro e w3 ⟨rfl, qh9⟩; have t3 := t2.trans (qh9.mono t2.size)))
      go_ret3
      exact ⟨rfl, t3⟩
     | true =>
      rw [hch] at HCH
      unfold isS at HSG
      cases hi : vQ v with
      | some i =>
       have HR2 : Hid (qL (s :: t) = none) := Lh (by rw [HR.out, Hpv.out]; exact jR (by simp [hi]))
       rw [hi] at HSG
       simp only [Option.isSome] at HSG
       rw [HR2.out]
       clear hch hi
       go_enter func113, ntmps113
       go_wp2_with (first
        | (go_at_call 138; refine (HC.out _).mono ?_; rintro e w1 ⟨rfl, qh7⟩; have hcell1 := zG hcell qh7)
        | (go_at_call 36; refine (HP.out _ _ qh7 HT1.out).mono ?_; rintro e w2 ⟨rfl, qh8⟩; have t2 := qh7.trans (qh8.mono qh7.size); have hcell2 := zG hcell t2)
        | (go_at_call 139; refine (HCH.out _).mono ?_; rintro e w3 ⟨rfl, qh9⟩; have t3 := t2.trans (qh9.mono t2.size))
        | (go_at_call 140; refine (HSG.out _).mono ?_; rintro e w4 ⟨rfl, qia⟩; have t4 := t3.trans (qia.mono t3.size)))
       go_ret3
       exact ⟨rfl, t4⟩
      | none =>
       have HR2 : Hid (qL (s :: t) = some (v, 1 + k)) := Lh (by rw [HR.out, Hpv.out]; exact qbg ⟨hch, hi⟩)
       rw [hi] at HSG
       simp only [Option.isSome] at HSG
       rw [HR2.out]
       clear hch hi
       go_enter func113, ntmps113
       go_wp2_with (first
        | (go_at_call 138; refine (HC.out _).mono ?_; rintro e w1 ⟨rfl, qh7⟩; have hcell1 := zG hcell qh7)
        | (go_at_call 36; refine (HP.out _ _ qh7 HT1.out).mono ?_; rintro e w2 ⟨rfl, qh8⟩; have t2 := qh7.trans (qh8.mono qh7.size); have hcell2 := zG hcell t2)
        | (go_at_call 139; refine (HCH.out _).mono ?_; rintro e w3 ⟨rfl, qh9⟩; have t3 := t2.trans (qh9.mono t2.size))
        | (go_at_call 140; refine (HSG.out _).mono ?_; rintro e w4 ⟨rfl, qia⟩; have t4 := t3.trans (qia.mono t3.size)))
       go_ret3
       exact ⟨by simp [qbF], t4⟩
   ·have dc : (s.toList == [99, 104, 97, 114, 97, 99, 116, 101, 114]) = false := by rw [tc]; simp [hcb]
    have HR : Hid (qL (s :: t) = none) := Lh (by rw [HRR.out]; exact if_neg hcb)
    rw [HR.out]
    clear tc hcb HRR HR
    cases hp : prefixL t with
    | none =>
     rw [hp] at HP
     clear hp
     simp only [qC] at HP
     go_enter func113, ntmps113
     go_wp2_with (first
      | (go_at_call 138; refine (HC.out _).mono ?_; rintro e w1 ⟨rfl, qh7⟩; have hcell1 := zG hcell qh7)
      | (go_at_call 36; refine (HP.out _ _ qh7 HT1.out).mono ?_; rintro e w2 ⟨rfl, qh8⟩; have t2 := qh7.trans (qh8.mono qh7.size); have hcell2 := zG hcell t2))
     go_ret3
     exact ⟨rfl, t2⟩
    | some x =>
     obtain ⟨v, k⟩ := x
     rw [hp] at HP
     clear hp
     simp only [qC] at HP
     go_enter func113, ntmps113
     go_wp2_with (first
      | (go_at_call 138; refine (HC.out _).mono ?_; rintro e w1 ⟨rfl, qh7⟩; have hcell1 := zG hcell qh7)
      | (go_at_call 36; refine (HP.out _ _ qh7 HT1.out).mono ?_; rintro e w2 ⟨rfl, qh8⟩; have t2 := qh7.trans (qh8.mono qh7.size); have hcell2 := zG hcell t2))
     go_ret3
     exact ⟨rfl, t2⟩
end Go.Proofs.YtlndbiamiioakaaGreatDoor
namespace Go.Proofs.YtlndbiamiioakaaGreatDoor
open Go.Proofs.Tryz Go.RowKit
set_option maxRecDepth 20000
theorem qet (w0 : World) (v : Int) (b : UInt8) (hv : v = (b.toNat : Int)) : (convert 118 9 (.slice (some ⟨w0.heap.size, 0, none⟩) 1 1)).run prog (w0.alloc (.cells #[.int .u8 v] 5)) = .ok (.string ⟨#[b]⟩) (w0.alloc (.cells #[.int .u8 v] 5)) := by
 subst hv
 exact run_convert_bytes_back _ _ _ 5 ⟨w0.heap.size, 0, none⟩ 1 [b] underlying118 underlying5 underlying9 fun j hj => by
  obtain rfl : j = 0 := by simp at hj; exact hj
  exact qF w0 _ _ 0
theorem app_byte (L : List UInt8) (b : UInt8) : (⟨L.toArray⟩ ++ ⟨#[b]⟩ : ByteArray) = ⟨(L ++ [b]).toArray⟩ := by
 apply ByteArray.ext
 rw [ByteArray.data_append]
 simp
end Go.Proofs.YtlndbiamiioakaaGreatDoor
