/- Joined: Pa1, PaC, PlP, GgP, Pa2, Pa3. -/
import Derived.Test.YtlndbiamiioakaaGreatDoorVAT
set_option linter.unusedVariables false
set_option linter.unusedSimpArgs false
set_option linter.unnecessarySimpa false
set_option maxHeartbeats 8000000
namespace Go.Proofs.YtlndbiamiioakaaGreatDoor
open Go.Proofs.Tryz Go.RowKit
set_option maxRecDepth 20000
def vE (nb : Nat) (v u : Value) (st : Int) (j : Bool) : Array Value := #[.map (some nb), v, u, .int .i64 st, .bool j]
def PaS (w : World) (g nb : Nat) (p : Prs) : Prop :=
 ∃ A n c A2 c2, n <= c /\ c <= maxLen /\ Blk w g 107 (vE nb (.slice A n c) (.slice A2 p.out.length c2) p.style p.joins) /\ Rd w g 1 A n (sv p.words) /\ w.ownsRow (g + 1) 31 3 (.slice A2 p.out.length c2) p.out.length (qn p.out)
theorem PaS.lt {w : World} {g nb : Nat} {p : Prs} (h : PaS w g nb p) : g < w.heap.size := by
 obtain ⟨A, n, c, A2, c2, _, _, h, _⟩ := h
 exact h.lt
theorem PaS.below {w w' : World} {g nb : Nat} {p : Prs} (h : PaS w g nb p) (hb : Below w.heap.size w w') : PaS w' g nb p := by
 have hl := h.lt
 obtain ⟨A, n, c, A2, c2, h1, h2, h3, h4, h5⟩ := h
 exact ⟨A, n, c, A2, c2, h1, h2, h3.below hb hl, h4.below (hb.mono (Nat.le_of_lt hl)), qa h5 hb⟩
def PaK (p : Prs) : Prop := (∀ s ∈ p.words, s.size <= 1000) /\ p.out.length + 2000 * p.words.length <= 1000000000 /\ (∀ x ∈ p.out, x.text.size + 8 * p.words.length <= 4000000)
theorem PaK.len {p : Prs} (h : PaK p) : p.words.length <= 500000 := by have := h.2.1; omega
theorem PaK.sz {p : Prs} (h : PaK p) : ∀ s ∈ p.words, s.size <= maxLen := fun s hs => Nat.le_trans (h.1 s hs) (by decide)
def PaR (g nb : Nat) (p : Prs) (o : Option Prs) (w : World) (e : Ending) (w' : World) : Prop :=
 Below g w w' /\ match o with
 | some q => e = .returned (.bool true) /\ PaS w' g nb q
 | none => e = .returned (.bool false) /\ PaS w' g nb p /\ Below w.heap.size w w'
theorem next_ (p : Prs) (g nb : Nat) (w : World) (h : PaS w g nb p) : Calls prog 129 #[.pointer (some ⟨g, 0, none⟩)] w (qg (.string (p.words.headD ⟨#[]⟩)) w) := by
 obtain ⟨A, n, c, A2, c2, h1, h2, h3, h4, h5⟩ := h
 have C1 := h3.cell 1
 simp only [vE, La, Lb, Lc] at C1
 obtain ⟨W, O, S, J⟩ := p
 dsimp only at *
 cases W with
 | nil =>
  obtain rfl : n = 0 := by have := h4.1; simp [sv] at this; omega
  rw [show ([] : List ByteArray).headD ⟨#[]⟩ = ⟨#[]⟩ from rfl]
  clear h1 h2 h3 h4 h5
  go_enter func129, ntmps129
  go_wp2
  go_ret
  exact ⟨rfl, Below.refl _ _⟩
 | cons s t =>
  have hn : 0 < n := by have := h4.1; simp [sv] at this; omega
  obtain ⟨b, o, rfl, hb, hc⟩ := h4.at_ hn
  have hc' : w.cell? ⟨b, o, none⟩ = some (.string s) := hc
  rw [List.headD_cons]
  clear h1 h2 h3 h4 h5 hc
  go_enter func129, ntmps129
  go_wp2
  go_ret
  exact ⟨rfl, Below.refl _ _⟩
theorem take_ (p : Prs) (k : Nat) (hk : k <= p.words.length) (g nb : Nat) (w : World) (h : PaS w g nb p) :
  Calls prog 130 #[.pointer (some ⟨g, 0, none⟩), .int .i64 k] w fun e w' => e = .returned (.tuple #[]) /\ PaS w' g nb ⟨p.words.drop k, p.out, p.style, p.joins⟩ /\ Below g w w' := by
 obtain ⟨A, n, c, A2, c2, h1, h2, h3, h4, h5⟩ := h
 have C1 := h3.cell 1
 have F1 := h3.frozen 1
 simp only [vE, La, Lb, Lc] at C1
 have hn : p.words.length = n := by have := h4.1; simp [sv] at this; omega
 have hkn : k <= n := by omega
 have hc63 : c <= 9223372036854775807 := by unfold maxLen at h2; omega
 have HF : Hid (∀ A' N C, Rd w g 1 A' N (sv (p.words.drop k)) -> N <= C -> C <= maxLen -> PaS (w.setCell ⟨g, 1, none⟩ (.slice A' N C)) g nb ⟨p.words.drop k, p.out, p.style, p.joins⟩) := Lh fun A' N C hr hN hC =>
  ⟨A', N, C, A2, c2, hN, hC, by have := h3.set_ 1 (.slice A' N C); simpa [vE] using this, hr.below (show Below g w (w.setCell ⟨g, 1, none⟩ (.slice A' N C)) from (Below.refl g w).setCell (Nat.le_refl g) _), qs h5 (Nat.lt_succ_self _) _⟩
 have HRd : Hid (Rd w g 1 (if c = k then A else A.map (·.add (k * 1))) (n - k) (sv (p.words.drop k))) := Lh (by
  have := h4.cut hkn h1
  rwa [show (sv p.words).drop (k * 1) = sv (p.words.drop k) by simp [sv]] at this)
 have hcm := h2
 clear h2 h3 h4 h5 hn hk
 by_cases hck : c = k
 ·subst hck
  rw [if_pos rfl] at HRd
  obtain rfl : n = c := by omega
  rw [Nat.sub_self] at HRd
  have HG := Lh (HF.out _ _ 0 HRd.out (by omega) (by omega))
  clear HF HRd
  go_enter func130, ntmps130
  go_wp2
  go_end0
  exact ⟨rfl, HG.out, (Below.refl g w).setCell (Nat.le_refl g) _⟩
 ·rw [if_neg hck] at HRd
  have HG := Lh (HF.out _ _ (c - k) HRd.out (by omega) (by omega))
  clear HF HRd
  rw [Nat.mul_one] at HG
  go_enter func130, ntmps130
  go_wp2
  go_end0
  exact ⟨rfl, HG.out, (Below.refl g w).setCell (Nat.le_refl g) _⟩
def PaK2 (p : Prs) : Prop := PaK p /\ p.words.length <= 400000
theorem qaX {l : List ByteArray} {x : Int × Nat} (h : charW l = some x) : prefixL l = none := by
 cases hp : prefixL l with
 | none => rfl
 | some y =>
  obtain ⟨n, k⟩ := y
  obtain ⟨hk0, hkl, _, qil, _⟩ := qT hp
  obtain ⟨h1, h2, hw, _⟩ := zu qil
  cases l with
  | nil => cases h
  | cons a t =>
   obtain ⟨m, rfl⟩ : ∃ m, k = m + 1 := ⟨k - 1, by omega⟩
   rw [List.take_succ_cons] at hw
   cases hws : qG n with
   | nil => rw [hws] at hw; cases hw
   | cons j u =>
    rw [hws, List.map_cons] at hw
    injection hw with hw _
    have hj := qby n h1 h2 j (by rw [hws]; simp)
    rw [<- hw, qdP hj] at h
    cases h
theorem encN_len (r : Nat) : (vx r).length <= 4 := by
 unfold vx
 repeat' split
 all_goals simp
theorem qdg (r : Nat) : (jf r).size <= 4 := by
 unfold jf
 show (List.toArray _).size <= _
 rw [List.size_toArray, List.length_map]
 exact encN_len r
theorem qgV (j : Bool) (st : Int) (s : ByteArray) : (zt j st s).length <= s.size + 1 := by
 have h : s.data.toList.length = s.size := by simp
 unfold zt
 rw [List.length_append, List.length_map, h]
 split <;> simp <;> omega
theorem qhL {j : Bool} {st : Int} {s : ByteArray} : ∀ x ∈ zt j st s, x.text.size = 1 := by
 intro x hx
 unfold zt at hx
 rcases List.mem_append.1 hx with hx | hx
 ·split at hx
  ·rw [List.mem_singleton] at hx; subst hx; rfl
  ·cases hx
 ·obtain ⟨c, _, rfl⟩ := List.mem_map.1 hx
  rfl
theorem PaK2.text {p : Prs} (h : PaK2 p) {s : ByteArray} {k : Nat} (hk : 0 < k) (hkl : k <= p.words.length) (hs : s.size + 1 <= 2000 * k) : PaK2 (v8 p s k) := by
 obtain ⟨⟨h1, h2, h3⟩, h4⟩ := h
 have hl : (p.words.drop k).length = p.words.length - k := List.length_drop
 have ht := qgV p.joins p.style s
 refine ⟨⟨fun x hx => h1 x (List.mem_of_mem_drop hx), ?_, fun x hx => ?_⟩, ?_⟩
 ·show (p.out ++ zt p.joins p.style s).length + 2000 * (p.words.drop k).length <= _
  rw [List.length_append, hl]
  omega
 ·show _ + 8 * (p.words.drop k).length <= _
  rw [hl]
  rcases List.mem_append.1 hx with hx | hx
  ·have := h3 x hx; omega
  ·have := qhL x hx; omega
 ·show (p.words.drop k).length <= _
  omega
theorem qek {s : ByteArray} {r : Int} (h : ((vY s r).2 == 0) = true) : (vY s r).1.size <= s.size + 4 := by
 unfold vY at *
 split at h
 ·rename_i hc
  exact absurd (beq_iff_eq.1 h) hc
 ·split at h
  ·exact absurd (beq_iff_eq.1 h) (by decide)
  ·split at h
   ·exact absurd (beq_iff_eq.1 h) (by decide)
   ·rename_i h1 h2 h3
    rw [if_neg h1, if_neg h2, if_neg h3, ByteArray.size_append]
    have := qdg r.toNat
    show s.size + _ <= _
    omega
theorem PaK2.add {p : Prs} (h : PaK2 p) {r : Int} {times n : Nat} (ht : times <= 132) (hn : 0 < n) (hnl : n <= p.words.length) (ha : (zW p.out p.style r times).1 = true) : PaK2 ⟨p.words.drop n, (zW p.out p.style r times).2, p.style, false⟩ := by
 obtain ⟨⟨h1, h2, h3⟩, h4⟩ := h
 have hl : (p.words.drop n).length = p.words.length - n := List.length_drop
 have key : (zW p.out p.style r times).2.length <= p.out.length + 132 /\ ∀ x ∈ (zW p.out p.style r times).2, x.text.size + 8 * p.words.length <= 4000008 := by
  unfold zW at *
  split at ha
  ·cases ha
  ·split at ha
   ·split at ha
    ·cases ha
    ·rename_i hw1 hw2 hw3
     rw [if_neg hw1, if_pos hw2, if_neg hw3]
     cases hg : p.out.getLast? with
     | none => rw [hg] at ha; cases ha
     | some g =>
      rw [hg] at ha
      simp only at ha ⊢
      have hz := qek ha
      have hne : p.out ≠ [] := by rintro e; rw [e] at hg; cases hg
      have hgm : g ∈ p.out := by
       rw [List.getLast?_eq_some_getLast hne] at hg
       injection hg with hg
       rw [<- hg]
       exact List.getLast_mem hne
      have := h3 g hgm
      refine ⟨by rw [List.length_append, List.length_dropLast, List.length_singleton]; omega, fun x hx => ?_⟩
      rcases List.mem_append.1 hx with hx | hx
      ·have := h3 x (List.dropLast_subset _ hx); omega
      ·rw [List.mem_singleton] at hx
       subst hx
       show (vY g.text r).1.size + _ <= _
       omega
   ·rename_i hw1 hw2
    rw [if_neg hw1, if_neg hw2]
    refine ⟨by simp only [List.length_append, List.length_replicate]; omega, fun x hx => ?_⟩
    rcases List.mem_append.1 hx with hx | hx
    ·have := h3 x hx; omega
    ·have := List.eq_of_mem_replicate hx
     subst this
     have := qdg r.toNat
     show (jf r.toNat).size + _ <= _
     omega
 refine ⟨⟨fun x hx => h1 x (List.mem_of_mem_drop hx), ?_, fun x hx => ?_⟩, ?_⟩
 ·show (zW p.out p.style r times).2.length + 2000 * (p.words.drop n).length <= _
  rw [hl]
  have := key.1
  omega
 ·show _ + 8 * (p.words.drop n).length <= _
  rw [hl]
  have := key.2 x hx
  omega
 ·show (p.words.drop n).length <= _
  omega
theorem qdO {l : List ByteArray} {s : ByteArray} {n : Nat} (h : zV l = some (s, n)) (hsz : ∀ s ∈ l, s.size <= 1000) : s.size + 1 <= 2000 * n /\ 0 < n /\ n <= l.length := by
 cases l with
 | nil => cases h
 | cons a t =>
  rw [zV] at h
  split at h
  ·rename_i hc
   simp only [Option.some.injEq, Prod.mk.injEq] at h
   obtain ⟨rfl, rfl⟩ := h
   cases t with
   | nil => exact absurd hc.2 (by decide +kernel)
   | cons d t' => have := hsz d (by simp); exact ⟨by rw [List.headD_cons]; omega, by omega, by simp⟩
  ·split at h
   ·simp only [Option.some.injEq, Prod.mk.injEq] at h
    obtain ⟨rfl, rfl⟩ := h
    have := hsz a (by simp)
    exact ⟨by omega, by omega, by simp⟩
   ·split at h
    ·unfold vJ at h
     split at h
     ·cases h
     ·split at h
      ·rename_i he
       simp only [Option.some.injEq, Prod.mk.injEq] at h
       obtain ⟨rfl, rfl⟩ := h
       have hk : (t.takeWhile vu).length < t.length := by
        rcases Nat.lt_or_ge (t.takeWhile vu).length t.length with h | h
        ·exact h
        ·rw [List.getElem?_eq_none h] at he; cases he
       have hall : ∀ x ∈ t.takeWhile vu, vu x = true := fun x hx => List.all_eq_true.1 (List.all_takeWhile (l := t) (p := vu)) x hx
       have hlen : ∀ T : List ByteArray, (∀ x ∈ T, vu x = true) -> (T.flatMap fun s => s.data.toList).length = T.length := by
        intro T
        induction T with
        | nil => intro _; rfl
        | cons x T ih =>
         intro hall
         have hx := hall x (by simp)
         unfold vu at hx
         rw [Bool.and_eq_true, decide_eq_true_eq] at hx
         rw [List.flatMap_cons, List.length_append, List.length_cons, ih fun y hy => hall y (by simp [hy])]
         have : x.data.toList.length = x.size := by simp
         omega
       have hT := hlen _ hall
       refine ⟨?_, by omega, by rw [List.length_cons]; omega⟩
       show (List.toArray _).size + 1 <= _
       rw [List.size_toArray, hT]
       omega
      ·cases h
    ·cases h
theorem qbm (s : ByteArray) (n : Nat) : (qZ s n).size = s.size := by
 unfold qZ
 show (List.toArray _).size = _
 rw [List.size_toArray, List.length_append, List.length_map, <- List.length_append, List.take_append_drop]
 simp
theorem dgs_len (t : List ByteArray) : (qaK t).length <= t.length := by
 unfold qaK
 rw [List.length_map]
 exact (List.takeWhile_sublist _).length_le
theorem qgC : ∀ (k n : Nat), n < 10 ^ (k + 1) -> (yt n).length <= k + 1
 | 0, n, h => by
  rw [yt, dif_pos (by simpa using h)]
  simp
 | k + 1, n, h => by
  rw [yt]
  split
  ·simp
  ·rw [List.length_append, List.length_singleton]
   have := qgC k (n / 10) (by rw [Nat.pow_succ] at h; omega)
   omega
theorem PaK2.part {p q : Prs} (hK : PaK2 p) (h : zR p = some q) : PaK2 q := by
 have hK0 := hK
 obtain ⟨⟨hw1, hw2, hw3⟩, hw4⟩ := hK0
 have hdrop : ∀ {W : List ByteArray} {a st j}, p.words = a :: W -> PaK2 ⟨W, p.out, st, j⟩ := by
  intro W a st j e
  rw [e, List.length_cons] at hw2 hw4
  refine ⟨⟨fun x hx => hw1 x (by rw [e]; simp [hx]), ?_, fun x hx => ?_⟩, ?_⟩
  ·show p.out.length + 2000 * W.length <= _
   omega
  ·show _ + 8 * W.length <= _
   have := hw3 x hx
   rw [e, List.length_cons] at this
   omega
  ·show W.length <= _
   omega
 unfold zR at h
 cases h1 : va p with
 | some q' =>
  rw [h1, some_or] at h
  obtain rfl : q' = q := by injection h
  unfold va at h1
  split at h1
  ·cases h1
  ·rename_i a t hw
   split at h1
   ·injection h1 with h1; subst h1; exact hdrop hw
   ·split at h1
    ·injection h1 with h1; subst h1; exact hdrop hw
    ·cases h1
 | none =>
  rw [h1, qbt] at h
  cases h2 : ji p with
  | some q' =>
   rw [h2, some_or] at h
   obtain rfl : q' = q := by injection h
   unfold ji at h2
   split at h2
   ·cases h2
   ·rename_i a t hw
    have ht : ∀ s ∈ t, s.size <= 1000 := fun s hs => hw1 s (by rw [hw]; simp [hs])
    have hat : ∀ s ∈ a :: t, s.size <= 1000 := fun s hs => hw1 s (by rw [hw]; exact hs)
    split at h2
    ·rw [Option.map_eq_some_iff] at h2
     obtain ⟨⟨s, n⟩, hl, rfl⟩ := h2
     obtain ⟨a1, a2, a3⟩ := qdO hl ht
     exact hK.text (by omega) (by rw [hw, List.length_cons]; omega) (by rw [qbm]; omega)
    ·split at h2
     ·rw [Option.map_eq_some_iff] at h2
      obtain ⟨⟨s, n⟩, hl, rfl⟩ := h2
      obtain ⟨a1, a2, a3⟩ := qdO hl ht
      exact hK.text (by omega) (by rw [hw, List.length_cons]; omega) (by rw [qbm]; omega)
     ·rw [Option.map_eq_some_iff] at h2
      obtain ⟨⟨s, n⟩, hl, rfl⟩ := h2
      obtain ⟨a1, a2, a3⟩ := qdO hl hat
      exact hK.text a2 (by rw [hw]; exact a3) a1
  | none =>
   rw [h2, qbt] at h
   cases h3 : kD p with
   | some q' =>
    rw [h3, some_or] at h
    obtain rfl : q' = q := by injection h
    unfold kD at h3
    split at h3
    ·cases h3
    ·rename_i a t hw
     split at h3
     ·injection h3 with h3
      subst h3
      have := dgs_len t
      refine hK.text (by omega) (by rw [hw, List.length_cons]; omega) ?_
      unfold qQ
      show (List.toArray _).size + 1 <= _
      rw [List.size_toArray, List.length_map]
      omega
     ·cases h3
   | none =>
    rw [h3, qbt] at h
    cases h4 : jC p with
    | some q' =>
     rw [h4, some_or] at h
     obtain rfl : q' = q := by injection h
     unfold jC at h4
     split at h4
     ·cases h4
     ·rename_i r n hc
      obtain ⟨a, b, _⟩ := qba hc
      split at h4
      ·rename_i hadd
       injection h4 with h4
       subst h4
       exact hK.add (by omega) a b hadd
      ·cases h4
    | none =>
     rw [h4, qbt] at h
     unfold vA at h
     split at h
     ·cases h
     ·rename_i n k hk
      obtain ⟨a, b, _, qil, _⟩ := qT hk
      obtain ⟨hn1, hn2, _⟩ := zu qil
      split at h
      ·cases h
      ·split at h
       ·rename_i hT
        split at h
        ·cases h
        ·rename_i r m hc
         obtain ⟨a2, b2, _⟩ := qba hc
         rw [List.length_drop] at b2
         split at h
         ·rename_i hadd
          injection h with h
          subst h
          exact hK.add (by omega) (by omega) (by omega) hadd.2.2
         ·cases h
       ·injection h with h
        subst h
        refine hK.text a b ?_
        have := qgC 8 n.toNat (by omega)
        show (List.toArray _).size + 1 <= _
        rw [List.size_toArray]
        omega
def LowW (w : ByteArray) : Prop := azB w = true /\ vD w = false
theorem LowW.bytes {w : ByteArray} (h : LowW w) : ∃ c T, w.data.toList = c :: T /\ ∀ x ∈ c :: T, 97 <= x.toNat /\ x.toNat <= 122 := by
 have h1 := h.1
 unfold azB at h1
 simp only [Bool.and_eq_true, Bool.not_eq_true', List.isEmpty_eq_false_iff, List.all_eq_true, decide_eq_true_eq] at h1
 obtain ⟨h2, h3⟩ := h1
 match hd : w.data.toList with
 | [] => exact absurd hd h2
 | c :: T => exact ⟨c, T, rfl, by rw [<- hd]; exact h3⟩
def S0 : Setts := ⟨false, false, 3⟩
theorem par_put {X w4 : World} {g nb n N c0 c4 : Nat} {A0 A4 : Option Addr} {v : Value} {st : Int} {j : Bool} {ys : List Value}
  (hX : Blk X g 107 (vE nb v (.slice A0 n c0) st j)) (qie : w4.ownsRow (g + 1) 31 3 (.slice A4 N c4) N ys) (qia : Below (g + 1) X w4) :
  Blk (w4.setCell ⟨g, 2, none⟩ (.slice A4 N c4)) g 107 (vE nb v (.slice A4 N c4) st j) /\ (w4.setCell ⟨g, 2, none⟩ (.slice A4 N c4)).ownsRow (g + 1) 31 3 (.slice A4 N c4) N ys /\ Below g X (w4.setCell ⟨g, 2, none⟩ (.slice A4 N c4)) := by
 have hb4 := hX.below qia (Nat.lt_succ_self g)
 refine ⟨?_, qs qie (Nat.lt_succ_self g) _, (qia.mono (Nat.le_succ g)).setCell (Nat.le_refl _) _⟩
 have := hb4.set_ 2 (.slice A4 N c4)
 simpa [vE] using this
def PaT (w : World) (g nb : Nat) (v : Value) (st : Int) (j : Bool) (O : List Gl) (wx : World) : Prop :=
 ∃ A c, Blk wx g 107 (vE nb v (.slice A O.length c) st j) /\ wx.ownsRow (g + 1) 31 3 (.slice A O.length c) O.length (qn O) /\ Below g w wx
theorem PaT.put {w X w4 : World} {g nb n N c0 c4 : Nat} {A0 A4 : Option Addr} {v : Value} {st : Int} {j : Bool} {ys : List Value} {O : List Gl}
  (hX : Blk X g 107 (vE nb v (.slice A0 n c0) st j)) (tX : Below g w X) (qie : w4.ownsRow (g + 1) 31 3 (.slice A4 N c4) N ys) (qia : Below (g + 1) X w4) (hN : O.length = N) (hy : qn O = ys) :
  PaT w g nb v st j O (w4.setCell ⟨g, 2, none⟩ (.slice A4 N c4)) := by
 subst hN hy
 obtain ⟨h1, h2, h3⟩ := par_put hX qie qia
 exact ⟨A4, c4, h1, h2, tX.trans h3⟩
theorem qcR (s : ByteArray) (j : Nat) (h : j < s.size) : s.extract j (j + 1) = ⟨#[s[j]]⟩ := by
 apply ByteArray.ext
 apply Array.toList_inj.1
 rw [ByteArray.data_extract]
 simp only [Array.toList_extract, List.extract_eq_take_drop]
 rw [Nat.add_sub_cancel_left, List.drop_eq_getElem_cons (by simpa using h)]
 rfl
theorem qc4 (O : List Gl) (st : Int) (T : List UInt8) (j : Nat) (h : j < T.length) : O ++ (T.take (j + 1)).map (chG st) = (O ++ (T.take j).map (chG st)) ++ [chG st T[j]] := by
 rw [(List.take_append_getElem h).symm, List.map_append, <- List.append_assoc]
 rfl
theorem jF (g : Gl) : qn [g] = vp g := by simp [qn]
theorem text_ (p : Prs) (s : ByteArray) (hs : s.size <= 1000000) (ho : p.out.length <= 1000000000) (g nb : Nat) (w : World) (h : PaS w g nb p) :
  Calls prog 133 #[.pointer (some ⟨g, 0, none⟩), .string s] w fun e w' => e = .returned (.tuple #[]) /\ PaS w' g nb ⟨p.words, p.out ++ zt p.joins p.style s, p.style, true⟩ /\ Below g w w' := by
 have hgl := h.lt
 obtain ⟨A, n, c, A2, c2, h1, h2, h3, h4, h5⟩ := h
 obtain ⟨W, O, st, J⟩ := p
 dsimp only at *
 have HF : Hid (∀ w', PaT w g nb (.slice A n c) st true (O ++ zt J st s) w' -> PaS w' g nb ⟨W, O ++ zt J st s, st, true⟩ /\ Below g w w') := Lh fun w' ⟨A', c', a1, a2, a3⟩ =>
  ⟨⟨A, n, c, A', c', h1, h2, a1, h4.below a3, a2⟩, a3⟩
 obtain ⟨O1, hO1⟩ : ∃ x, x = O ++ (if J = true then [chG st 32] else []) := ⟨_, rfl⟩
 have hO1l : O1.length <= O.length + 1 := by
  rw [hO1, List.length_append]
  split <;> simp
 have HE : Hid (O ++ zt J st s = O1 ++ (s.data.toList.take s.data.toList.length).map (chG st)) := Lh (by rw [hO1, zt, List.take_length, List.append_assoc])
 have HT : Hid (∀ j (h : j < s.size), O1 ++ (s.data.toList.take (j + 1)).map (chG st) = (O1 ++ (s.data.toList.take j).map (chG st)) ++ [chG st s[j]]) := Lh fun j h => qc4 O1 st _ j (by simpa using h)
 have HX : Hid (∀ j (h : j < s.size), s.extract j (j + 1) = ⟨#[s[j]]⟩) := Lh (qcR s)
 have HL : Hid (∀ j, (O1 ++ (s.data.toList.take j).map (chG st)).length <= 1000000001 + j) := Lh fun j => by
  rw [List.length_append, List.length_map, List.length_take]
  omega
 have HZ : Hid (s.data.toList.length = s.size) := Lh (by simp)
 have H0 : Hid (O1 = O1 ++ (s.data.toList.take 0).map (chG st)) := Lh (by simp)
 generalize O ++ zt J st s = Q at *
 generalize hv : Value.slice A n c = v at *
 have C2 := h3.cell 2
 have C3 := h3.cell 3
 have C4 := h3.cell 4
 have F2 := h3.frozen 2
 simp only [vE, La, Lb, Lc] at C2 C3 C4
 have tw : Below g w w := Below.refl _ _
 clear h1 h2 h4 hv
 cases J with
 | false =>
  rw [if_neg (by simp), List.append_nil] at hO1
  have hpa : PaT w g nb v st false O1 w := by subst hO1; exact ⟨A2, c2, h3, h5, tw⟩
  clear hO1 hO1l
  go_enter func133, ntmps133
  go_upto_block 0 with fail
  go_upto_region 2 with fail
  refine qc (PaT w g nb v st false O1) hpa ?_
  clear hpa C2 C3 C4 F2 tw
  clear h3 h5
  intro wx hpx
  go_wp2
  go_loopw [25] (fun x wr => ∃ j : Nat, j <= s.size /\ x = .int .i64 j /\ PaT w g nb v st false (O1 ++ (s.data.toList.take j).map (chG st)) wr) (fun x _ => s.size - (intOf x).toNat)
  case atStart => exact ⟨0, Nat.zero_le _, rfl, by rw [<- H0.out]; exact hpx⟩
  case round =>
   clear hpx
   obtain ⟨j, hj, rfl, A6, c6, Bx, ox, tx⟩ := hrel
   by_cases hlt : j < s.size
   ·have hx := HX.out j hlt
    have HTj := Lh (HT.out j hlt)
    have hlen := HL.out j
    have HQl : Hid ((O1 ++ (s.data.toList.take (j + 1)).map (chG st)).length = (O1 ++ (s.data.toList.take j).map (chG st)).length + 1) := Lh (by rw [HTj.out, List.length_append]; rfl)
    have HQs : Hid (qn (O1 ++ (s.data.toList.take (j + 1)).map (chG st)) = qn (O1 ++ (s.data.toList.take j).map (chG st)) ++ vp (chG st s[j])) := Lh (by rw [HTj.out, jE, jF])
    clear HTj HT HX HE H0 HF HL
    generalize O1 ++ (s.data.toList.take j).map (chG st) = OJ at *
    generalize s[j] = cj at *
    have C2 := Bx.cell 2
    have C3 := Bx.cell 3
    have F2 := Bx.frozen 2
    simp only [vE, La, Lb, Lc] at C2 C3
    have hown := (World.ownsRow.alloc (qa ox (Below.refl wr.heap.size wr).drew) (.cells (vp (chG st cj)).toArray 31))
    have BS := (Blk.alloc Bx (.cells (vp (chG st cj)).toArray 31)).drew
    have hgr : g < wr.heap.size := Bx.lt
    have hwj : IntKind.i64.wrap ((j : Int) + 1) = (j : Int) + 1 := by rw [IntKind.wrap_i64]; omega
    have hj0 : (0 : Int) <= (j : Int) + 1 := by omega
    have hj1 : (j : Int) + 1 <= s.size := by omega
    have hj2 : (j : Int) <= (j : Int) + 1 := by omega
    have hj3 : ((j : Int) + 1).toNat = j + 1 := by omega
    have tX : Below g w (wr.alloc (.cells (vp (chG st cj)).toArray 31)).drew := (tx.alloc (Nat.le_of_lt hgr) _).drew
    go_upto_region 5 with fail
    go_region_law (refine vS rfl _ _ _ rfl kQ ((g + 1)) _ rfl (hown) _ _ rfl ((qe (xs := vp (chG st cj)) rfl rfl)) (rfl) (by omega) (by omega) (by first | (simp; done) | (simp; omega) | omega) ?_; intro A4 c4 w4 qie qia qii qik; have z4 := qia.size; (try simp only [Nat.zero_add, List.nil_append] at qie); have B4 := (Blk.alloc (Blk.drew Bx) (.cells (vp (chG st cj)).toArray 31)).below qia (Nat.lt_succ_self g); have c42 := B4.cell 2; have f42 := B4.frozen 2; simp only [vE, La, Lb, Lc] at c42)
    all_goals go_wp2
    all_goals exact ⟨⟨j + 1, by omega, by go_num, PaT.put BS tX qie qia HQl.out HQs.out⟩, by simp [intOf]; omega⟩
   ·obtain rfl : j = s.size := by omega
    have HQ : Hid (Q = O1 ++ (s.data.toList.take s.size).map (chG st)) := Lh (by rw [HE.out, HZ.out])
    rw [<- HQ.out] at Bx ox
    clear HT HX HE H0 HL HQ
    have F4 := Bx.frozen 4
    have C4 := Bx.cell 4
    simp only [vE, La, Lb, Lc] at C4
    go_wp2
    go_end0
    have h4' := HF.out (wr.setCell ⟨g, 4, none⟩ (.bool true)) ⟨A6, c6, by have := Bx.set_ 4 (.bool true); simpa [vE] using this, qs ox (Nat.lt_succ_self g) _, tx.setCell (Nat.le_refl g) _⟩
    exact ⟨rfl, h4'.1, h4'.2⟩
 | true =>
  rw [if_pos rfl] at hO1
  have hO1l' : O1.length = O.length + 1 := by rw [hO1]; simp
  have hO1s : qn O1 = qn O ++ vp (chG st 32) := by rw [hO1, jE, jF]
  replace hO1 := Lh hO1
  go_enter func133, ntmps133
  go_upto_block 0 with fail
  go_cut [] (fun wx => PaT w g nb v st true O1 wx)
  case first =>
   clear HE HT HX HL HZ H0 HF
   go_upto_region 1 with fail
   have hown := (World.ownsRow.alloc (qa h5 (Below.refl w.heap.size w).drew) (.cells (vp (chG st 32)).toArray 31))
   have BS := (Blk.alloc h3 (.cells (vp (chG st 32)).toArray 31)).drew
   go_region_law (refine vS rfl _ _ _ rfl kQ ((g + 1)) _ rfl (hown) _ _ rfl ((qe (xs := vp (chG st 32)) rfl rfl)) (rfl) (by omega) (by omega) (by first | (simp; done) | (simp; omega) | omega) ?_; intro A4 c4 w4 qie qia qii qik; have z4 := qia.size; (try simp only [Nat.zero_add, List.nil_append] at qie); have B4 := (Blk.alloc (Blk.drew h3) (.cells (vp (chG st 32)).toArray 31)).below qia (Nat.lt_succ_self g); have c42 := B4.cell 2; have f42 := B4.frozen 2; simp only [vE, La, Lb, Lc] at c42)
   all_goals go_wp2
   all_goals go_meet
   all_goals exact PaT.put BS ((tw.alloc (Nat.le_of_lt hgl) _).drew) qie qia hO1l' hO1s
  case rest =>
   clear C2 C3 C4 F2 tw
   clear h3 h5
   have hpx := hcut
   clear hcut
   go_wp2
   go_loopw [25] (fun x wr => ∃ j : Nat, j <= s.size /\ x = .int .i64 j /\ PaT w g nb v st true (O1 ++ (s.data.toList.take j).map (chG st)) wr) (fun x _ => s.size - (intOf x).toNat)
   case atStart => exact ⟨0, Nat.zero_le _, rfl, by rw [<- H0.out]; exact hpx⟩
   case round =>
    clear hpx
    obtain ⟨j, hj, rfl, A6, c6, Bx, ox, tx⟩ := hrel
    by_cases hlt : j < s.size
    ·have hx := HX.out j hlt
     have HTj := Lh (HT.out j hlt)
     have hlen := HL.out j
     have HQl : Hid ((O1 ++ (s.data.toList.take (j + 1)).map (chG st)).length = (O1 ++ (s.data.toList.take j).map (chG st)).length + 1) := Lh (by rw [HTj.out, List.length_append]; rfl)
     have HQs : Hid (qn (O1 ++ (s.data.toList.take (j + 1)).map (chG st)) = qn (O1 ++ (s.data.toList.take j).map (chG st)) ++ vp (chG st s[j])) := Lh (by rw [HTj.out, jE, jF])
     clear HTj HT HX HE H0 HF HL
     generalize O1 ++ (s.data.toList.take j).map (chG st) = OJ at *
     generalize s[j] = cj at *
     have C2 := Bx.cell 2
     have C3 := Bx.cell 3
     have F2 := Bx.frozen 2
     simp only [vE, La, Lb, Lc] at C2 C3
     have hown := (World.ownsRow.alloc (qa ox (Below.refl wr.heap.size wr).drew) (.cells (vp (chG st cj)).toArray 31))
     have BS := (Blk.alloc Bx (.cells (vp (chG st cj)).toArray 31)).drew
     have hgr : g < wr.heap.size := Bx.lt
     have hwj : IntKind.i64.wrap ((j : Int) + 1) = (j : Int) + 1 := by rw [IntKind.wrap_i64]; omega
     have hj0 : (0 : Int) <= (j : Int) + 1 := by omega
     have hj1 : (j : Int) + 1 <= s.size := by omega
     have hj2 : (j : Int) <= (j : Int) + 1 := by omega
     have hj3 : ((j : Int) + 1).toNat = j + 1 := by omega
     have tX : Below g w (wr.alloc (.cells (vp (chG st cj)).toArray 31)).drew := (tx.alloc (Nat.le_of_lt hgr) _).drew
     go_upto_region 5 with fail
     go_region_law (refine vS rfl _ _ _ rfl kQ ((g + 1)) _ rfl (hown) _ _ rfl ((qe (xs := vp (chG st cj)) rfl rfl)) (rfl) (by omega) (by omega) (by first | (simp; done) | (simp; omega) | omega) ?_; intro A4 c4 w4 qie qia qii qik; have z4 := qia.size; (try simp only [Nat.zero_add, List.nil_append] at qie); have B4 := (Blk.alloc (Blk.drew Bx) (.cells (vp (chG st cj)).toArray 31)).below qia (Nat.lt_succ_self g); have c42 := B4.cell 2; have f42 := B4.frozen 2; simp only [vE, La, Lb, Lc] at c42)
     all_goals go_wp2
     all_goals exact ⟨⟨j + 1, by omega, by go_num, PaT.put BS tX qie qia HQl.out HQs.out⟩, by simp [intOf]; omega⟩
    ·obtain rfl : j = s.size := by omega
     have HQ : Hid (Q = O1 ++ (s.data.toList.take s.size).map (chG st)) := Lh (by rw [HE.out, HZ.out])
     rw [<- HQ.out] at Bx ox
     clear HT HX HE H0 HL HQ
     have F4 := Bx.frozen 4
     have C4 := Bx.cell 4
     simp only [vE, La, Lb, Lc] at C4
     go_wp2
     go_end0
     have h4' := HF.out (wr.setCell ⟨g, 4, none⟩ (.bool true)) ⟨A6, c6, by have := Bx.set_ 4 (.bool true); simpa [vE] using this, qs ox (Nat.lt_succ_self g) _, tx.setCell (Nat.le_refl g) _⟩
     exact ⟨rfl, h4'.1, h4'.2⟩
theorem zQ {s : ByteArray} (h : s.size ≠ 0) : s.toList.isEmpty = false := by
 rw [ByteArray.toList_eq, List.isEmpty_eq_false_iff]
 intro e
 have := congrArg List.length e
 exact h (by simpa using this)
def azC (c : UInt8) : Bool := decide (97 <= c.toNat) && decide (c.toNat <= 122)
theorem qfU (s : ByteArray) (hs : s.size <= 1000000000) (w : World) : Calls prog 152 #[.string s] w (qg (.bool (azB s)) w) := by
 have HF : Hid (azB s = (!(s.data.toList.isEmpty) && (s.data.toList.drop 0).all azC)) := Lh rfl
 have HS : Hid (∀ j (h : j < s.size), (s.data.toList.drop j).all azC = (azC s[j] && (s.data.toList.drop (j + 1)).all azC)) := Lh fun j h => by
  rw [List.drop_eq_getElem_cons (by simpa using h), List.all_cons]
  rfl
 have HE : Hid ((s.data.toList.drop s.size).all azC = true) := Lh (by rw [List.drop_of_length_le (by simp)]; rfl)
 have HZ : Hid (s.size = 0 -> s.toList.isEmpty = true /\ s.data.toList.isEmpty = true) := Lh fun h => by
  have : s.data.toList = [] := List.length_eq_zero_iff.1 (by simpa using h)
  rw [ByteArray.toList_eq, this]
  exact ⟨rfl, rfl⟩
 have HY : Hid (s.size ≠ 0 -> s.toList.isEmpty = false /\ s.data.toList.isEmpty = false) := Lh fun h => by
  refine ⟨zQ h, ?_⟩
  rw [List.isEmpty_eq_false_iff]
  intro e
  have := congrArg List.length e
  exact h (by simpa using this)
 generalize azB s = R at *
 go_enter func152, ntmps152
 go_wp2
 go_loopw [6] (fun x wr => ∃ j : Nat, j <= s.size /\ x = .int .i64 j /\ Below w.heap.size w wr /\ Hid (R = (!(s.data.toList.isEmpty) && (s.data.toList.drop j).all azC))) (fun x _ => s.size - (intOf x).toNat)
 case atStart => exact ⟨0, Nat.zero_le _, rfl, Below.refl _ _, HF⟩
 case round =>
  obtain ⟨j, hj, rfl, hbel, HR⟩ := hrel
  by_cases hlt : j < s.size
  ·have HSj := Lh (HS.out j hlt)
   have hb := UInt8.toNat_lt s[j]
   have hne := (HY.out (by omega)).2
   have HN : Hid (azC s[j] = true -> R = (!(s.data.toList.isEmpty) && (s.data.toList.drop (j + 1)).all azC)) := Lh fun h => by rw [HR.out, HSj.out, h, Bool.true_and]
   have HM : Hid (azC s[j] = false -> R = false) := Lh fun h => by rw [HR.out, HSj.out, h, Bool.false_and, Bool.and_false]
   clear HR HSj HS HE HF HZ HY hne
   unfold azC at HN HM
   generalize hc : s[j] = c at *
   by_cases h1 : c.toNat < 97
   ·have i1 : decide ((c.toNat : Int) < 97) = true := decide_eq_true (by omega)
    have HR2 := Lh (HM.out (by rw [decide_eq_false (by omega)]; rfl))
    go_wp2
    go_ret
    exact ⟨by rw [HR2.out]; rfl, hbel⟩
   ·have i1 : decide ((c.toNat : Int) < 97) = false := decide_eq_false (by omega)
    by_cases h2 : 122 < c.toNat
    ·have HR2 := Lh (HM.out (by rw [decide_eq_true (show 97 <= c.toNat by omega), decide_eq_false (by omega)]; rfl))
     go_wp2
     go_ret
     exact ⟨by rw [HR2.out]; rfl, hbel⟩
    ·have HR2 := Lh (HN.out (by rw [decide_eq_true (show 97 <= c.toNat by omega), decide_eq_true (show c.toNat <= 122 by omega)]; rfl))
     go_wp2
     exact ⟨⟨j + 1, by omega, by go_num, hbel, HR2⟩, by simp [intOf]; omega⟩
  ·obtain rfl : j = s.size := by omega
   have HR2 := Lh (HR.out.trans (by rw [HE.out, Bool.and_true]))
   by_cases h0 : s.size = 0
   ·obtain ⟨e1, e2⟩ := HZ.out h0
    go_wp2
    go_ret
    exact ⟨by rw [HR2.out, e2]; rfl, hbel⟩
   ·obtain ⟨e1, e2⟩ := HY.out h0
    go_wp2
    go_ret
    exact ⟨by rw [HR2.out, e2]; rfl, hbel⟩
end Go.Proofs.YtlndbiamiioakaaGreatDoor
