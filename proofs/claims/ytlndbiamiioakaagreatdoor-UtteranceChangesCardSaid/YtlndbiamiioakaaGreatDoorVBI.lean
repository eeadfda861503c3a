/- Joined: Ref2, Rsg1, Rsg2, Rv1, Rv2. -/
import Derived.Test.YtlndbiamiioakaaGreatDoorVBH
set_option linter.unusedVariables false
set_option linter.unusedSimpArgs false
set_option linter.unnecessarySimpa false
set_option maxHeartbeats 2000000
namespace Go.Proofs.YtlndbiamiioakaaGreatDoor
open Go.Proofs.Tryz Go.RowKit
set_option maxRecDepth 100000 in
theorem rpos_a (n : Nat) (hn : n < 1000) (x : Int) (hx : x = n) (w : World) (ht : Tb w) :
  Calls prog 93 #[.int .i64 x] w (ql 9 1 id w (zA n).length (wv (zA n))) := by
 have HS := Lh (qfi n hn w ht)
 rw [<- qcn n hn, <- hx] at HS
 have x1 : x < 1000 := by omega
 clear ht hx hn
 go_enter func93, ntmps93
 go_wp2_with (go_at_call 118; refine HS.out.mono ?_; rintro e w1 ⟨A1, c1, rfl, hown1, qh7⟩)
 go_ret
 exact ⟨A1, c1, rfl, hown1, qh7⟩
set_option maxRecDepth 100000 in
theorem rpos_b (n : Nat) (h1 : 1000 <= n) (h2 : n < 1000000) (x : Int) (hx : x = n) (w : World) (ht : Tb w) :
  Calls prog 93 #[.int .i64 x] w (ql 9 1 id w (zA n).length (wv (zA n))) := by
 have HT := Lh ht
 have x1 : 1000 <= x := by omega
 have x2 : x < 1000000 := by omega
 have hq : n / 1000 < 1000 := by omega
 have HS : Hid (∀ w, Tb w -> Calls prog 118 #[.int .i64 (x / 1000)] w (ql 9 1 id w (qP (n / 1000)).length (wv (qP (n / 1000))))) := Lh fun w ht => by
  have := qfi (n / 1000) hq w ht
  rwa [show ((n / 1000 : Nat) : Int) = x / 1000 from by omega] at this
 have HR : Hid (∀ w, Tb w -> Calls prog 93 #[.int .i64 (x % 1000)] w (ql 9 1 id w (zA (n % 1000)).length (wv (zA (n % 1000))))) := Lh fun w ht => by
  exact rpos_a (n % 1000) (by omega) (x % 1000) (by omega) w ht
 have HL := Lh (qcI n (by omega) (by omega))
 have l1 := qci (n / 1000)
 have l2 := qbT (n % 1000)
 by_cases c3 : n % 1000 = 0
 ·have c3' : (x % 1000 != 0) = false := by rw [bne_eq_false_iff_eq]; omega
  have HL2 : Hid (zA n = qP (n / 1000) ++ [29]) := Lh (by rw [HL.out, if_pos c3, List.append_nil])
  clear ht c3 hx h1 h2 hq
  generalize qP (n / 1000) = L at *
  go_enter func93, ntmps93
  go_wp2_with (first
   | (go_at_call 118; refine (HS.out _ HT.out).mono ?_; rintro e w1 ⟨A1, c1, rfl, hown1, qh7⟩; have z1 := qh7.size)
   | (at_builtin; refine qh rfl _ _ _ rfl qx (w.heap.size) _ rfl (hown1.alloc _) _ _ rfl (qe (by rfl) rfl) (by first | rfl | exact qN _ | exact qO _) (by omega) (by omega) (by first | (simp; done) | (simp; omega) | omega) ?_; intro A2 c2 w2 hown2 qh8 hgr2 hat2; have z2 := qh8.size; (try simp only [World.size_alloc] at z2); (try simp only [Nat.zero_add, List.nil_append] at hown2)))
  go_ret
  rw [HL2.out]
  have e : (L ++ [29]).length = L.length + 1 := by simp
  exact ⟨A2, c2, by rw [e]; rfl, by rw [e]; simpa [wv, wb] using hown2, (qh7.alloc (by omega) _).trans (qh8.mono (by omega))⟩
 ·have c3' : (x % 1000 != 0) = true := by rw [bne_iff_ne]; omega
  have HL2 : Hid (zA n = qP (n / 1000) ++ [29] ++ zA (n % 1000)) := Lh (by rw [HL.out, if_neg c3])
  clear ht c3 hx h1 h2 hq
  generalize qP (n / 1000) = L at *
  generalize zA (n % 1000) = L' at *
  go_enter func93, ntmps93
  go_wp2_with (first
   | (go_at_call 118; refine (HS.out _ HT.out).mono ?_; rintro e w1 ⟨A1, c1, rfl, hown1, qh7⟩; have z1 := qh7.size)
   | (at_builtin; refine qh rfl _ _ _ rfl qx (w.heap.size) _ rfl (hown1.alloc _) _ _ rfl (qe (by rfl) rfl) (by first | rfl | exact qN _ | exact qO _) (by omega) (by omega) (by first | (simp; done) | (simp; omega) | omega) ?_; intro A2 c2 w2 hown2 qh8 hgr2 hat2; have z2 := qh8.size; (try simp only [World.size_alloc] at z2); (try simp only [Nat.zero_add, List.nil_append] at hown2))
   | (go_at_call 93; refine (HR.out _ (HT.out.below ((qh7.alloc (by omega) _).trans qh8))).mono ?_; rintro e w3 ⟨A3, c3, rfl, hown3, qh9⟩; have z3 := qh9.size; have hown2' := qa hown2 qh9)
   | (at_builtin; refine qh rfl _ _ _ rfl qx (w.heap.size) _ rfl (hown2') _ _ rfl (Rd.of_own hown3) (by first | rfl | exact qN _ | exact qO _) (by omega) (by omega) (by first | (simp; done) | (simp; omega) | omega) ?_; intro A4 c4 w4 qie qia qii qik; have z4 := qia.size; (try simp only [World.size_alloc] at z4); (try simp only [Nat.zero_add, List.nil_append] at qie)))
  go_ret
  rw [HL2.out]
  have e : (L ++ [29] ++ L').length = L.length + 1 + L'.length := by simp; omega
  exact ⟨A4, c4, by rw [e]; rfl, by rw [e]; simpa [wv, wb] using qie, (((qh7.alloc (by omega) _).trans (qh8.mono (by omega))).trans (qh9.mono (by omega))).trans (qia.mono (by omega))⟩
theorem qgs (n : Nat) (h2 : n < 1000000) (x : Int) (hx : x = n) (w : World) (ht : Tb w) :
  Calls prog 93 #[.int .i64 x] w (ql 9 1 id w (zA n).length (wv (zA n))) := by
 rcases Nat.lt_or_ge n 1000 with h | h
 ·exact rpos_a n h x hx w ht
 ·exact rpos_b n h h2 x hx w ht
set_option maxRecDepth 100000 in
theorem rpos_c (n : Nat) (h1 : 1000000 <= n) (h2 : n < 1000000000) (x : Int) (hx : x = n) (w : World) (ht : Tb w) :
  Calls prog 93 #[.int .i64 x] w (ql 9 1 id w (zA n).length (wv (zA n))) := by
 have HT := Lh ht
 have x1 : 1000000 <= x := by omega
 have x2 : x < 1000000000 := by omega
 have hq : n / 1000000 < 1000 := by omega
 have HS : Hid (∀ w, Tb w -> Calls prog 118 #[.int .i64 (x / 1000000)] w (ql 9 1 id w (qP (n / 1000000)).length (wv (qP (n / 1000000))))) := Lh fun w ht => by
  have := qfi (n / 1000000) hq w ht
  rwa [show ((n / 1000000 : Nat) : Int) = x / 1000000 from by omega] at this
 have HR : Hid (∀ w, Tb w -> Calls prog 93 #[.int .i64 (x % 1000000)] w (ql 9 1 id w (zA (n % 1000000)).length (wv (zA (n % 1000000))))) := Lh fun w ht => by
  exact qgs (n % 1000000) (by omega) (x % 1000000) (by omega) w ht
 have HL := Lh (qdJ n (by omega) (by omega))
 have l1 := qci (n / 1000000)
 have l2 := qbT (n % 1000000)
 by_cases c3 : n % 1000000 = 0
 ·have c3' : (x % 1000000 != 0) = false := by rw [bne_eq_false_iff_eq]; omega
  have HL2 : Hid (zA n = qP (n / 1000000) ++ [30]) := Lh (by rw [HL.out, if_pos c3, List.append_nil])
  clear ht c3 hx h1 h2 hq
  generalize qP (n / 1000000) = L at *
  go_enter func93, ntmps93
  go_wp2_with (first
   | (go_at_call 118; refine (HS.out _ HT.out).mono ?_; rintro e w1 ⟨A1, c1, rfl, hown1, qh7⟩; have z1 := qh7.size)
   | (at_builtin; refine qh rfl _ _ _ rfl qx (w.heap.size) _ rfl (hown1.alloc _) _ _ rfl (qe (by rfl) rfl) (by first | rfl | exact qN _ | exact qO _) (by omega) (by omega) (by first | (simp; done) | (simp; omega) | omega) ?_; intro A2 c2 w2 hown2 qh8 hgr2 hat2; have z2 := qh8.size; (try simp only [World.size_alloc] at z2); (try simp only [Nat.zero_add, List.nil_append] at hown2)))
  go_ret
  rw [HL2.out]
  have e : (L ++ [30]).length = L.length + 1 := by simp
  exact ⟨A2, c2, by rw [e]; rfl, by rw [e]; simpa [wv, wb] using hown2, (qh7.alloc (by omega) _).trans (qh8.mono (by omega))⟩
 ·have c3' : (x % 1000000 != 0) = true := by rw [bne_iff_ne]; omega
  have HL2 : Hid (zA n = qP (n / 1000000) ++ [30] ++ zA (n % 1000000)) := Lh (by rw [HL.out, if_neg c3])
  clear ht c3 hx h1 h2 hq
  generalize qP (n / 1000000) = L at *
  generalize zA (n % 1000000) = L' at *
  go_enter func93, ntmps93
  go_wp2_with (first
   | (go_at_call 118; refine (HS.out _ HT.out).mono ?_; rintro e w1 ⟨A1, c1, rfl, hown1, qh7⟩; have z1 := qh7.size)
   | (at_builtin; refine qh rfl _ _ _ rfl qx (w.heap.size) _ rfl (hown1.alloc _) _ _ rfl (qe (by rfl) rfl) (by first | rfl | exact qN _ | exact qO _) (by omega) (by omega) (by first | (simp; done) | (simp; omega) | omega) ?_; intro A2 c2 w2 hown2 qh8 hgr2 hat2; have z2 := qh8.size; (try simp only [World.size_alloc] at z2); (try simp only [Nat.zero_add, List.nil_append] at hown2))
   | (go_at_call 93; refine (HR.out _ (HT.out.below ((qh7.alloc (by omega) _).trans qh8))).mono ?_; rintro e w3 ⟨A3, c3, rfl, hown3, qh9⟩; have z3 := qh9.size; have hown2' := qa hown2 qh9)
   | (at_builtin; refine qh rfl _ _ _ rfl qx (w.heap.size) _ rfl (hown2') _ _ rfl (Rd.of_own hown3) (by first | rfl | exact qN _ | exact qO _) (by omega) (by omega) (by first | (simp; done) | (simp; omega) | omega) ?_; intro A4 c4 w4 qie qia qii qik; have z4 := qia.size; (try simp only [World.size_alloc] at z4); (try simp only [Nat.zero_add, List.nil_append] at qie)))
  go_ret
  rw [HL2.out]
  have e : (L ++ [30] ++ L').length = L.length + 1 + L'.length := by simp; omega
  exact ⟨A4, c4, by rw [e]; rfl, by rw [e]; simpa [wv, wb] using qie, (((qh7.alloc (by omega) _).trans (qh8.mono (by omega))).trans (qh9.mono (by omega))).trans (qia.mono (by omega))⟩
theorem rpos (n : Nat) (h2 : n < 1000000000) (x : Int) (hx : x = n) (w : World) (ht : Tb w) :
  Calls prog 93 #[.int .i64 x] w (ql 9 1 id w (zA n).length (wv (zA n))) := by
 rcases Nat.lt_or_ge n 1000000 with h | h
 ·exact qgs n h x hx w ht
 ·exact rpos_c n h h2 x hx w ht
theorem qcD (n : Nat) : qG n = zA n := by
 unfold qG zA
 by_cases h0 : n = 0
 ·subst h0; rfl
 ·have h1 : ¬ ((n : Int) = 0) := by omega
  have h2 : ¬ ((n : Int) < 0) := by omega
  rw [if_neg h1, if_neg h2, if_neg h0, Int.natAbs_natCast]
  rfl
theorem qcC (n : Nat) (h0 : 0 < n) : qG (-(n : Int)) = 31 :: zA n := by
 have e : (-(n : Int)).natAbs = n := by omega
 have h1 : ¬ (-(n : Int) = 0) := by omega
 have h2 : -(n : Int) < 0 := by omega
 unfold qG zA
 rw [if_neg h1, if_pos h2, if_neg (by omega), e]
 rfl
theorem qdW (n : Int) (h : n < -999999999 ∨ 999999999 < n) (w : World) :
  Calls prog 67 #[.int .i64 n] w (qg (.tuple #[.slice none 0 0, .int .i64 2]) w) := by
 rcases h with h | h
 ·go_enter func67, ntmps67
  go_wp2
  go_ret2
  exact ⟨rfl, Below.refl _ _⟩
 ·have h' : ¬ n < -999999999 := by omega
  go_enter func67, ntmps67
  go_wp2
  go_ret2
  exact ⟨rfl, Below.refl _ _⟩
set_option maxRecDepth 100000 in
theorem qcX (n : Int) (h1 : -999999999 <= n) (h2 : n <= 999999999) (w : World) (ht : Tb w) :
  Calls prog 67 #[.int .i64 n] w (ql 9 1 jI w (qG n).length (wv (qG n))) := by
 have HT := Lh ht
 clear ht
 by_cases hn : n < 0
 ·obtain ⟨m, hm⟩ : ∃ m : Nat, n = -(m : Int) := ⟨n.natAbs, by omega⟩
  have hm1 : 0 < m := by omega
  have HL := Lh (qcC m hm1)
  have hle := qbT m
  have HS : Hid (∀ w, Tb w -> Calls prog 93 #[.int .i64 (-n)] w (ql 9 1 id w (zA m).length (wv (zA m)))) := Lh fun w ht => by
   exact rpos m (by omega) (-n) (by omega) w ht
  rw [<- hm] at HL
  clear hm
  generalize zA m = L at *
  go_enter func67, ntmps67
  go_wp2_with (first
   | (go_at_call 93; refine (HS.out _ (HT.out.below (by exact (Below.refl _ _).alloc (Nat.le_refl _) _))).mono ?_; rintro e w1 ⟨A1, c1, rfl, hown1, qh7⟩; have z1 := qh7.size; simp only [World.size_alloc] at z1; have hown0 : w1.ownsRow w.heap.size 9 1 (.slice (some ⟨w.heap.size, 0, none⟩) 1 1) 1 [.string (wb 31)] := qa (qR (by rfl) rfl (Nat.le_refl _) (by omega)) qh7)
   | (at_builtin; refine qh rfl _ _ _ rfl qx (w.heap.size) _ rfl (hown0) _ _ rfl (Rd.of_own hown1) (by first | rfl | exact qN _ | exact qO _) (by omega) (by omega) (by first | (simp; done) | (simp; omega) | omega) ?_; intro A2 c2 w2 hown2 qh8 hgr2 hat2; have z2 := qh8.size; (try simp only [World.size_alloc] at z2); (try simp only [Nat.zero_add, List.nil_append] at hown2)))
  go_ret2
  rw [HL.out]
  have e : (31 :: L).length = 1 + L.length := by simp; omega
  exact ⟨A2, c2, by rw [e]; rfl, by rw [e]; simpa [wv] using hown2, (((Below.refl _ _).alloc (Nat.le_refl _) _).trans (qh7.mono (by simp))).trans (qh8.mono (by omega))⟩
 ·obtain ⟨m, rfl⟩ : ∃ m : Nat, n = (m : Int) := ⟨n.toNat, by omega⟩
  have HL := Lh (qcD m)
  have HS : Hid (∀ w, Tb w -> Calls prog 93 #[.int .i64 (m : Int)] w (ql 9 1 id w (zA m).length (wv (zA m)))) := Lh fun w ht => rpos m (by omega) m rfl w ht
  generalize zA m = L at *
  go_enter func67, ntmps67
  go_wp2_with (go_at_call 93; refine (HS.out _ HT.out).mono ?_; rintro e w1 ⟨A1, c1, rfl, hown1, qh7⟩)
  go_ret2
  rw [HL.out]
  exact ⟨A1, c1, rfl, hown1, qh7⟩
end Go.Proofs.YtlndbiamiioakaaGreatDoor
namespace Go.Proofs.YtlndbiamiioakaaGreatDoor
open Go.Proofs.Tryz Go.RowKit
def isS (r : Int) : Bool := (vQ r).isSome
theorem isS_tab : ∀ x : Fin 127, isS (x.val : Int) = (decide (33 <= x.val) && !(decide (48 <= x.val) && decide (x.val <= 57)) && !(decide (65 <= x.val) && decide (x.val <= 90)) && !(decide (97 <= x.val) && decide (x.val <= 122))) := by decide +kernel
theorem isS_eq (r : Int) : isS r = (decide (33 <= r) && decide (r <= 126) && !(decide (48 <= r) && decide (r <= 57)) && !(decide (65 <= r) && decide (r <= 90)) && !(decide (97 <= r) && decide (r <= 122))) := by
 by_cases h : 0 <= r /\ r <= 126
 ·obtain ⟨h1, h2⟩ := h
  obtain ⟨n, rfl⟩ := Int.eq_ofNat_of_zero_le h1
  have := isS_tab ⟨n, by omega⟩
  simp only at this
  rw [this, Bool.eq_iff_iff]
  simp
  omega
 ·have h1 : isS r = false := by
   unfold isS
   cases hs : vQ r with
   | none => rfl
   | some i =>
    obtain ⟨_, _, a, b⟩ := jw hs
    exact absurd ⟨by omega, b⟩ h
  rw [h1, Bool.eq_iff_iff]
  simp
  omega
theorem rsign (r : Int) (w : World) : Calls prog 140 #[.int .i32 r] w (qg (.bool (isS r)) w) := by
 have HI := Lh (isS_eq r)
 generalize isS r = R at *
 rcases Int.lt_or_le r 33 with h1 | h1
 ·obtain rfl : R = false := by rw [HI.out, Bool.eq_false_iff]; simp; omega
  go_enter func140, ntmps140
  go_wp2
  go_ret
  exact ⟨rfl, Below.refl _ _⟩
 rcases Int.lt_or_le 126 r with h2 | h2
 ·obtain rfl : R = false := by rw [HI.out, Bool.eq_false_iff]; simp; omega
  go_enter func140, ntmps140
  go_wp2
  go_ret
  exact ⟨rfl, Below.refl _ _⟩
 rcases Int.lt_or_le r 48 with h3 | h3
 ·obtain rfl : R = true := by rw [HI.out]; simp; omega
  go_enter func140, ntmps140
  go_wp2
  go_ret
  exact ⟨rfl, Below.refl _ _⟩
 rcases Int.lt_or_le r 58 with h3 | h3
 ·obtain rfl : R = false := by rw [HI.out, Bool.eq_false_iff]; simp; omega
  go_enter func140, ntmps140
  go_wp2
  go_ret
  exact ⟨rfl, Below.refl _ _⟩
 rcases Int.lt_or_le r 65 with h3 | h3
 ·obtain rfl : R = true := by rw [HI.out]; simp; omega
  have e57 : ¬ r <= 57 := by omega
  go_enter func140, ntmps140
  go_wp2
  go_ret
  exact ⟨rfl, Below.refl _ _⟩
 rcases Int.lt_or_le r 91 with h3 | h3
 ·obtain rfl : R = false := by rw [HI.out, Bool.eq_false_iff]; simp; omega
  have e57 : ¬ r <= 57 := by omega
  go_enter func140, ntmps140
  go_wp2
  go_ret
  exact ⟨rfl, Below.refl _ _⟩
 rcases Int.lt_or_le r 97 with h3 | h3
 ·obtain rfl : R = true := by rw [HI.out]; simp; omega
  have e57 : ¬ r <= 57 := by omega
  have e90 : ¬ r <= 90 := by omega
  go_enter func140, ntmps140
  go_wp2
  go_ret
  exact ⟨rfl, Below.refl _ _⟩
 rcases Int.lt_or_le r 123 with h3 | h3
 ·obtain rfl : R = false := by rw [HI.out, Bool.eq_false_iff]; simp; omega
  have e57 : ¬ r <= 57 := by omega
  have e90 : ¬ r <= 90 := by omega
  have g122 : r <= 122 := by omega
  go_enter func140, ntmps140
  go_wp2
  go_ret
  exact ⟨rfl, Below.refl _ _⟩
 obtain rfl : R = true := by rw [HI.out]; simp; omega
 have e57 : ¬ r <= 57 := by omega
 have e90 : ¬ r <= 90 := by omega
 have e122 : ¬ r <= 122 := by omega
 go_enter func140, ntmps140
 go_wp2
 go_ret
 exact ⟨rfl, Below.refl _ _⟩
theorem qfW (r : Int) (w : World) : Calls prog 139 #[.int .i32 r] w (qg (.bool (zn r)) w) := by
 have HI : Hid (zn r = ((decide (0 <= r) && decide (r <= 55295)) || (decide (57344 <= r) && decide (r <= 1114111)))) := Lh rfl
 generalize zn r = R at *
 rcases Int.lt_or_le r 0 with h1 | h1
 ·obtain rfl : R = false := by rw [HI.out, Bool.eq_false_iff]; simp; omega
  go_enter func139, ntmps139
  go_wp2
  go_ret
  exact ⟨rfl, Below.refl _ _⟩
 rcases Int.lt_or_le 1114111 r with h2 | h2
 ·obtain rfl : R = false := by rw [HI.out, Bool.eq_false_iff]; simp; omega
  go_enter func139, ntmps139
  go_wp2
  go_ret
  exact ⟨rfl, Below.refl _ _⟩
 rcases Int.lt_or_le r 55296 with h3 | h3
 ·obtain rfl : R = true := by rw [HI.out]; simp; omega
  go_enter func139, ntmps139
  go_wp2
  go_ret
  exact ⟨rfl, Below.refl _ _⟩
 rcases Int.lt_or_le 57343 r with h4 | h4
 ·obtain rfl : R = true := by rw [HI.out]; simp; omega
  go_enter func139, ntmps139
  go_wp2
  go_ret
  exact ⟨rfl, Below.refl _ _⟩
 ·obtain rfl : R = false := by rw [HI.out, Bool.eq_false_iff]; simp; omega
  have e1 : ¬ r < 55296 := by omega
  have e2 : ¬ 57343 < r := by omega
  go_enter func139, ntmps139
  go_wp2
  go_ret
  exact ⟨rfl, Below.refl _ _⟩
theorem rnames (w : World) : Calls prog 137 #[] w (ql 9 1 id w 32 nmL) := by
 go_enter func137, ntmps137
 go_wp2
 go_ret
 exact ⟨_, _, rfl, qR (xs := nmL) rfl rfl (Nat.le_refl _) (by omega), (Below.refl _ _).alloc (Nat.le_refl _) _⟩
def cntS (x : Nat) : Nat := ((List.range 32).filter fun i => decide (vd i < x)).length
theorem cntS_33 : cntS 33 = 0 := by decide +kernel
theorem qhU : ∀ x : Fin 127, cntS (x.val + 1) = cntS x.val + (if isS (x.val : Int) then 1 else 0) := by decide +kernel
theorem qh5 : ∀ i : Fin 32, cntS (vd i.val) = i.val := by decide +kernel
theorem cntS_le : ∀ x : Fin 127, cntS x.val <= 32 := by decide +kernel
def jY (r : Int) : ByteArray := match vQ r with
 | some i => nb i
 | none => ⟨#[]⟩
theorem rname (r : Int) (w : World) : Calls prog 157 #[.int .i32 r] w (qg (.string (jY r)) w) := by
 have HSI : Hid (∀ x w, Calls prog 140 #[.int .i32 x] w (qg (.bool (isS x)) w)) := Lh rsign
 unfold jY
 cases hi : vQ r with
 | none =>
  have H0 : Hid (∀ w, Calls prog 140 #[.int .i32 r] w (qg (.bool false) w)) := Lh fun w => by
   have := rsign r w
   unfold isS at this
   rwa [hi] at this
  clear hi
  go_enter func157, ntmps157
  go_wp2_with (go_at_call 140; refine (H0.out _).mono ?_; rintro e w1 ⟨rfl, qh7⟩)
  go_ret
  exact ⟨rfl, qh7⟩
 | some i =>
  obtain ⟨hi32, rfl, hr1, hr2⟩ := jw hi
  have H0 : Hid (∀ w, Calls prog 140 #[.int .i32 (vd i : Nat)] w (qg (.bool true) w)) := Lh fun w => by
   have := rsign (vd i : Int) w
   unfold isS at this
   rwa [hi] at this
  have HC := Lh (qh5 ⟨i, hi32⟩)
  simp only at HC
  clear hi
  simp only
  generalize vd i = r at *
  go_enter func157, ntmps157
  go_wp2_with (go_at_call 140; refine (H0.out _).mono ?_; rintro e w1 ⟨rfl, qh7⟩)
  have hr127 : r < 127 := by omega
  have HST : Hid (∀ n, n < 127 -> cntS (n + 1) = cntS n + (if isS (n : Int) then 1 else 0)) := Lh fun n h => qhU ⟨n, h⟩
  have HLE : Hid (∀ n, n < 127 -> cntS n <= 32) := Lh fun n h => cntS_le ⟨n, h⟩
  have H33 := Lh cntS_33
  have hnb : Hid (nmL[i]? = some (.string (nb i))) := Lh (by simp [nmL, hi32])
  generalize cntS = cnt at *
  obtain ⟨wa, rfl⟩ : ∃ x : World, x = w1 := ⟨_, rfl⟩
  go_loopw [3, 4] (fun k x wr => ∃ n : Nat, 33 <= n /\ n <= r /\ k = .int .i64 (cnt n : Nat) /\ x = .int .i32 (n : Int) /\ Below wa.heap.size wa wr) (fun _ x _ => r - (intOf x).toNat)
  case atStart => exact ⟨33, by omega, by omega, by rw [H33.out]; rfl, rfl, Below.refl _ _⟩
  case round =>
   obtain ⟨n, hn1, hn2, rfl, rfl, hbel⟩ := hrel
   by_cases hlt : n < r
   ·have hst := Lh (HST.out n (by omega))
    have hle := HLE.out n (by omega)
    have HX := Lh (HSI.out (n : Int))
    generalize isS (n : Int) = X at *
    cases X with
    | true =>
     have hst2 : Hid (cnt (n + 1) = cnt n + 1) := Lh (by rw [hst.out]; rfl)
     go_wp2_with (go_at_call 140; refine (HX.out _).mono ?_; rintro e w2 ⟨rfl, qh8⟩)
     exact ⟨⟨n + 1, by omega, by omega, by rw [hst2.out]; go_num, by go_num, hbel.trans (qh8.mono hbel.size)⟩, by simp [intOf]; omega⟩
    | false =>
     have hst2 : Hid (cnt (n + 1) = cnt n) := Lh (by rw [hst.out]; rfl)
     go_wp2_with (go_at_call 140; refine (HX.out _).mono ?_; rintro e w2 ⟨rfl, qh8⟩)
     exact ⟨⟨n + 1, by omega, by omega, by rw [hst2.out], by go_num, hbel.trans (qh8.mono hbel.size)⟩, by simp [intOf]; omega⟩
   ·obtain rfl : n = r := by omega
    rw [HC.out]
    go_wp2_with (go_at_call 137; refine (rnames _).mono ?_; rintro e w2 ⟨A2, c2, rfl, hown2, qh8⟩; obtain ⟨b2, o2, rfl, _, hc2⟩ := (Rd.of_own hown2).at_ hi32; rw [hnb.out] at hc2)
    go_ret
    exact ⟨rfl, qh7.trans ((hbel.trans (qh8.mono hbel.size)).mono qh7.size)⟩
def qdT (s : ByteArray) : Int := match qbh s with
 | some i => vd i
 | none => 0
theorem rname_ne {n : Int} {i : Nat} (hi : i < 32) (hn : n ≠ (vd i : Int)) : jY n ≠ nb i := by
 unfold jY
 intro h
 cases hs : vQ n with
 | none =>
  rw [hs] at h
  have : ∀ i : Fin 32, nb i.val ≠ ⟨#[]⟩ := by decide +kernel
  exact this ⟨i, hi⟩ h.symm
 | some j =>
  rw [hs] at h
  obtain ⟨h1, h2, _⟩ := jw hs
  by_cases hj : j = i
  ·subst hj; exact hn h2
  ·exact nb_ne j i h1 hi hj h
theorem qfQ {i : Nat} (hi : i < 32) : jY (vd i : Int) = nb i := by
 have : ∀ i : Fin 32, jY (vd i.val : Int) = nb i.val := by decide +kernel
 exact this ⟨i, hi⟩
theorem rname_no {n : Int} {s : ByteArray} (h0 : s ≠ ⟨#[]⟩) (h : qbh s = none) : jY n ≠ s := by
 unfold jY
 intro e
 cases hs : vQ n with
 | none => rw [hs] at e; exact h0 e.symm
 | some j => rw [hs] at e; exact qc0 h j (jw hs).1 e
theorem qeP {i : Nat} (h : i < 32) : 33 <= vd i /\ vd i <= 126 := by
 have : ∀ i : Fin 32, 33 <= vd i.val /\ vd i.val <= 126 := by decide +kernel
 exact this ⟨i, h⟩
theorem rSign (s : ByteArray) (w : World) : Calls prog 138 #[.string s] w (qg (.int .i32 (qdT s)) w) := by
 have HN : Hid (∀ x w, Calls prog 157 #[.int .i32 x] w (qg (.string (jY x)) w)) := Lh rname
 unfold qdT
 have tc := jq s ⟨#[]⟩ [] rfl
 cases hi : qbh s with
 | some i =>
  obtain ⟨hi32, rfl⟩ := qab hi
  simp only
  have hne : nb i ≠ ⟨#[]⟩ := by
   have : ∀ i : Fin 32, nb i.val ≠ ⟨#[]⟩ := by decide +kernel
   exact this ⟨i, hi32⟩
  have dc : ((nb i).toList == ([] : List UInt8)) = false := by rw [tc]; simp [hne]
  have HQ : Hid (∀ n : Int, ((jY n).toList == (nb i).toList) = decide (n = (vd i : Int))) := Lh fun n => by
   rw [ve]
   by_cases h : n = (vd i : Int)
   ·rw [h, qfQ hi32]; simp
   ·rw [decide_eq_false (rname_ne hi32 h), decide_eq_false h]
  obtain ⟨hb1, hb2⟩ := qeP hi32
  clear tc hne hi
  generalize vd i = m at *
  generalize nb i = s at *
  go_enter func138, ntmps138
  go_wp2
  obtain ⟨wa, rfl⟩ : ∃ x : World, x = w := ⟨_, rfl⟩
  go_loopw [3] (fun x wr => ∃ n : Nat, 33 <= n /\ n <= m /\ x = .int .i32 (n : Int) /\ Below wa.heap.size wa wr) (fun x _ => 127 - (intOf x).toNat)
  case atStart => exact ⟨33, by omega, by omega, rfl, Below.refl _ _⟩
  case round =>
   obtain ⟨n, hn1, hn2, rfl, hbel⟩ := hrel
   have hq := HQ.out (n : Int)
   have HX := Lh (HN.out (n : Int))
   generalize jY (n : Int) = X at *
   by_cases hlt : n < m
   ·have hq' : (X.toList == s.toList) = false := by rw [hq]; exact decide_eq_false (by omega)
    clear hq
    have h127 : (n : Int) < 127 := by omega
    go_wp2_with (go_at_call 157; refine (HX.out _).mono ?_; rintro e w2 ⟨rfl, qh8⟩)
    exact ⟨⟨n + 1, by omega, by omega, by go_num, hbel.trans (qh8.mono hbel.size)⟩, by simp [intOf]; omega⟩
   ·obtain rfl : n = m := by omega
    have hq' : (X.toList == s.toList) = true := by rw [hq]; exact decide_eq_true rfl
    clear hq
    have h127 : (n : Int) < 127 := by omega
    go_wp2_with (go_at_call 157; refine (HX.out _).mono ?_; rintro e w2 ⟨rfl, qh8⟩)
    go_ret
    exact ⟨rfl, hbel.trans (qh8.mono hbel.size)⟩
 | none =>
  simp only
  by_cases h0 : s = ⟨#[]⟩
  ·have dc : (s.toList == ([] : List UInt8)) = true := by rw [tc]; simp [h0]
   clear tc h0 hi
   go_enter func138, ntmps138
   go_wp2
   obtain ⟨wa, rfl⟩ : ∃ x : World, x = w := ⟨_, rfl⟩
   go_loopw [3] (fun x wr => ∃ n : Nat, 33 <= n /\ n <= 127 /\ x = .int .i32 (n : Int) /\ Below wa.heap.size wa wr) (fun x _ => 127 - (intOf x).toNat)
   case atStart => exact ⟨33, by omega, by omega, rfl, Below.refl _ _⟩
   case round =>
    obtain ⟨n, hn1, hn2, rfl, hbel⟩ := hrel
    by_cases hlt : n < 127
    ·have h127 : (n : Int) < 127 := by omega
     go_wp2
     exact ⟨⟨n + 1, by omega, by omega, by go_num, hbel⟩, by simp [intOf]; omega⟩
    ·obtain rfl : n = 127 := by omega
     go_wp2
     go_ret
     exact ⟨rfl, hbel⟩
  ·have dc : (s.toList == ([] : List UInt8)) = false := by rw [tc]; simp [h0]
   have HQ : Hid (∀ n : Int, ((jY n).toList == s.toList) = false) := Lh fun n => by
    rw [ve]
    exact decide_eq_false (rname_no h0 hi)
   clear tc h0 hi
   go_enter func138, ntmps138
   go_wp2
   obtain ⟨wa, rfl⟩ : ∃ x : World, x = w := ⟨_, rfl⟩
   go_loopw [3] (fun x wr => ∃ n : Nat, 33 <= n /\ n <= 127 /\ x = .int .i32 (n : Int) /\ Below wa.heap.size wa wr) (fun x _ => 127 - (intOf x).toNat)
   case atStart => exact ⟨33, by omega, by omega, rfl, Below.refl _ _⟩
   case round =>
    obtain ⟨n, hn1, hn2, rfl, hbel⟩ := hrel
    by_cases hlt : n < 127
    ·have h127 : (n : Int) < 127 := by omega
     have hq := HQ.out (n : Int)
     have HX := Lh (HN.out (n : Int))
     generalize jY (n : Int) = X at *
     go_wp2_with (go_at_call 157; refine (HX.out _).mono ?_; rintro e w2 ⟨rfl, qh8⟩)
     exact ⟨⟨n + 1, by omega, by omega, by go_num, hbel.trans (qh8.mono hbel.size)⟩, by simp [intOf]; omega⟩
    ·obtain rfl : n = 127 := by omega
     go_wp2
     go_ret
     exact ⟨rfl, hbel⟩
end Go.Proofs.YtlndbiamiioakaaGreatDoor
namespace Go.Proofs.YtlndbiamiioakaaGreatDoor
open Go.Proofs.Tryz Go.RowKit
set_option maxRecDepth 20000
def vocB : List ByteArray := (List.range 32).map wb
theorem qhB {k : Nat} (h : k < 32) : vocB.take (k + 1) = vocB.take k ++ [wb k] := by
 unfold vocB
 rw [<- List.map_take, <- List.map_take, List.take_range, List.take_range, Nat.min_eq_left (by omega), Nat.min_eq_left (by omega), List.range_succ, List.map_append]
 rfl
theorem vocB_len (k : Nat) (h : k <= 32) : (vocB.take k).length = k := by
 unfold vocB
 simp
 omega
theorem qbn (w : World) (ht : Tb w) : Calls prog 84 #[] w (ql 9 1 id w 32 (sv vocB)) := by
 have HT := Lh ht
 have HK : Hid (∀ k, k < 32 -> vocB.take (k + 1) = vocB.take k ++ [wb k]) := Lh fun k h => qhB h
 have HL : Hid (∀ k, k <= 32 -> (vocB.take k).length = k) := Lh vocB_len
 have HE : Hid (sv vocB = sv (vocB.take 28) ++ sv [wb 28, wb 29, wb 30, wb 31]) := Lh rfl
 clear ht
 go_enter func84, ntmps84
 go_wp2
 go_loopw [1, 2] (fun v x wr => ∃ (A : Option Addr) (c k : Nat), k <= 20 /\ x = .int .i64 k /\ v = .slice A k c /\ wr.ownsRow w.heap.size 9 1 (.slice A k c) k (sv (vocB.take k)) /\ Below w.heap.size w wr) (fun _ x _ => 20 - (intOf x).toNat)
 case atStart => exact ⟨_, _, 0, by omega, rfl, rfl, qR (xs := []) rfl rfl (Nat.le_refl _) (Nat.zero_le _), (Below.refl _ _).alloc (Nat.le_refl _) _⟩
 case round =>
  obtain ⟨A, c, k, hk, rfl, rfl, hown, hbel⟩ := hrel
  have zb := hbel.size
  by_cases hlt : k < 20
  ·have hc := (HT.out.below hbel).1 k hlt
   have hkk := Lh (HK.out k (by omega))
   have hll := Lh (HL.out (k + 1) (by omega))
   generalize wb k = x at *
   generalize vocB.take k = V at *
   go_wp2_with (at_builtin; go_must (refine qh rfl _ _ _ rfl qx (w.heap.size) _ rfl ((hown.alloc _)) _ _ rfl ((qe (by first | rfl | (simp; done)) rfl)) (by first | rfl | exact qN _ | exact qO _) (by omega) (by omega) (by first | (simp; done) | (simp; omega) | omega) ?_); intro A4 c4 w4 qie qia qii qik; have z4 := qia.size; (try simp only [World.size_alloc] at z4); (try simp only [Nat.zero_add, List.nil_append] at qie))
   exact ⟨⟨A4, c4, k + 1, by omega, by go_num, rfl, by rw [hkk.out]; simpa [sv] using qie, (hbel.alloc zb _).trans qia⟩, by simp [intOf]; omega⟩
  ·obtain rfl : k = 20 := by omega
   have e20 : ((20 : Nat) : Int) = 20 := rfl
   rw [e20]
   go_wp2
   go_loopw [1, 3] (fun v x wr => ∃ (A : Option Addr) (c k : Nat), k <= 8 /\ x = .int .i64 k /\ v = .slice A (20 + k) c /\ wr.ownsRow w.heap.size 9 1 (.slice A (20 + k) c) (20 + k) (sv (vocB.take (20 + k))) /\ Below w.heap.size w wr) (fun _ x _ => 8 - (intOf x).toNat)
   case atStart => exact ⟨A, c, 0, by omega, rfl, rfl, hown, hbel⟩
   case round =>
    obtain ⟨A, c, k, hk, rfl, rfl, hown, hbel⟩ := hrel
    have zb := hbel.size
    by_cases hlt : k < 8
    ·have hc := (HT.out.below hbel).2 k hlt
     have hkk := Lh (HK.out (20 + k) (by omega))
     generalize wb (20 + k) = x at *
     generalize vocB.take (20 + k) = V at *
     go_wp2_with (at_builtin; go_must (refine qh rfl _ _ _ rfl qx (w.heap.size) _ rfl ((hown.alloc _)) _ _ rfl ((qe (by first | rfl | (simp; done)) rfl)) (by first | rfl | exact qN _ | exact qO _) (by omega) (by omega) (by first | (simp; done) | (simp; omega) | omega) ?_); intro A4 c4 w4 qie qia qii qik; have z4 := qia.size; (try simp only [World.size_alloc] at z4); (try simp only [Nat.zero_add, List.nil_append] at qie))
     exact ⟨⟨A4, c4, k + 1, by omega, by go_num, by rw [Nat.add_assoc], by rw [show 20 + (k + 1) = 20 + k + 1 by omega, hkk.out]; simpa [sv] using qie, (hbel.alloc zb _).trans qia⟩, by simp [intOf]; omega⟩
    ·obtain rfl : k = 8 := by omega
     go_wp2_with (at_builtin; go_must (refine qh rfl _ _ _ rfl qx (w.heap.size) _ rfl ((hown.alloc _)) _ _ rfl ((qe (xs := sv [wb 28, wb 29, wb 30, wb 31]) (by first | rfl | (simp; done)) rfl)) (by first | rfl | exact qN _ | exact qO _) (by omega) (by omega) (by first | (simp; done) | (simp; omega) | omega) ?_); intro A4 c4 w4 qie qia qii qik; have z4 := qia.size; (try simp only [World.size_alloc] at z4); (try simp only [Nat.zero_add, List.nil_append] at qie))
     go_ret
     exact ⟨A4, c4, rfl, by rw [HE.out]; exact qie, (hbel.alloc zb _).trans qia⟩
end Go.Proofs.YtlndbiamiioakaaGreatDoor
namespace Go.Proofs.YtlndbiamiioakaaGreatDoor
open Go.Proofs.Tryz Go.RowKit
set_option maxRecDepth 100000
def kl (l : List ByteArray) (s : ByteArray) : Bool := l.any fun x => decide (x = s)
theorem has_ (l : List ByteArray) (s : ByteArray) (A : Option Addr) (n c B : Nat) (w : World) (hn : l.length = n) (hb : n <= 1000000000) (rd : Rd w B 1 A n (sv l)) :
  Calls prog 83 #[.slice A n c, .string s] w (Same (.bool (kl l s)) w) := by
 have HF : Hid (kl l s = kl (l.drop 0) s) := Lh rfl
 have HN := Lh hn
 generalize kl l s = R at HF ⊢
 clear hn
 go_enter func83, ntmps83
 go_wp2
 go_loop [5] (fun x => ∃ k : Nat, k <= n /\ x = .int .i64 k /\ Hid (R = kl (l.drop k) s)) (fun x => n - (intOf x).toNat)
 case atStart => exact ⟨0, Nat.zero_le _, rfl, HF⟩
 case round =>
  obtain ⟨k, hk, rfl, HR⟩ := hrel
  by_cases hlt : k < n
  ·have hkl : k < l.length := by have := HN.out; omega
   obtain ⟨b, o, rfl, _, hc⟩ := rd.at_ hlt
   rw [vM _ _ hkl] at hc
   have HD : Hid (l.drop k = l[k] :: l.drop (k + 1)) := Lh (List.drop_eq_getElem_cons hkl)
   generalize l[k] = x at *
   by_cases he : x = s
   ·have HR2 : Hid (R = true) := Lh (by rw [HR.out, HD.out]; simp [kl, he])
    have hq : (x.toList == s.toList) = true := by rw [ve]; simp [he]
    clear he HR HD
    go_wp2
    go_ret
    exact ⟨by rw [HR2.out]; rfl, rfl⟩
   ·have HR2 : Hid (R = kl (l.drop (k + 1)) s) := Lh (by rw [HR.out, HD.out]; simp [kl, he])
    have hq : (x.toList == s.toList) = false := by rw [ve]; simp [he]
    clear he HR HD
    go_wp2
    exact ⟨⟨k + 1, by omega, by go_num, HR2⟩, by simp [intOf]; omega⟩
  ·have HR2 : Hid (R = false) := Lh (by rw [HR.out, List.drop_of_length_le (by have := HN.out; omega)]; rfl)
   go_wp2
   go_ret
   exact ⟨by rw [HR2.out]; rfl, rfl⟩
theorem qhs (w : World) : Calls prog 136 #[] w fun e w' => e = .returned (.slice (some ⟨w.heap.size, 0, none⟩) 39 39) /\ w.alloc (.cells (sv ctrlL).toArray 9) = w' := by
 have e : (sv ctrlL).toArray = #[.string cB, .string qY, .string bCap, .string vL, .string vw, .string jS, .string bTimes, .string zB, .string ko, .string qI, .string (vF 0), .string (vF 1), .string (vF 2), .string (vF 3),
 .string ⟨#[115, 105, 122, 101]⟩, .string ⟨#[114, 111, 119, 115]⟩, .string ⟨#[99, 111, 108, 117, 109, 110, 115]⟩, .string ⟨#[115, 99, 114, 111, 108, 108]⟩, .string ⟨#[108, 105, 110, 101]⟩, .string ⟨#[108, 105, 110, 101, 115]⟩, .string ⟨#[102, 114, 111, 109]⟩, .string ⟨#[116, 111]⟩, .string ⟨#[117, 112]⟩, .string ⟨#[100, 111, 119, 110]⟩,
 .string ⟨#[99, 111, 108, 117, 109, 110]⟩, .string ⟨#[114, 101, 112, 108, 97, 99, 101]⟩, .string ⟨#[119, 105, 116, 104]⟩, .string ⟨#[105, 110, 115, 101, 114, 116]⟩, .string ⟨#[100, 101, 108, 101, 116, 101]⟩, .string ⟨#[99, 117, 114, 115, 111, 114]⟩, .string ⟨#[118, 105, 115, 105, 98, 108, 101]⟩, .string ⟨#[105, 110, 118, 105, 115, 105, 98, 108, 101]⟩,
 .string ⟨#[109, 111, 114, 101]⟩, .string ⟨#[100, 111, 110, 101]⟩, .string ⟨#[117, 112, 100, 97, 116, 101, 115]⟩, .string ⟨#[114, 101, 97, 100, 115]⟩, .string ⟨#[115, 116, 111, 112]⟩, .string ⟨#[98, 108, 97, 110, 107]⟩, .string ⟨#[98, 121]⟩] := rfl
 rw [e]
 go_enter func136, ntmps136
 go_wp2
 go_ret
 exact ⟨rfl, rfl⟩
theorem qhi (s : ByteArray) : vD s = (kl ctrlL s || (kl vocB s || kl ((List.range 32).map nb) s)) := by
 unfold vD kl ze vocB
 rw [List.any_map, List.any_map, Bool.or_assoc]
 rfl
theorem qgY (s : ByteArray) (w : World) (ht : Tb w) : Calls prog 112 #[.string s] w (qg (.bool (vD s)) w) := by
 have HC : Hid (∀ w : World, Calls prog 83 #[.slice (some ⟨w.heap.size, 0, none⟩) 39 39, .string s] (w.alloc (.cells (sv ctrlL).toArray 9)) (Same (.bool (kl ctrlL s)) (w.alloc (.cells (sv ctrlL).toArray 9)))) := Lh fun w => has_ ctrlL s _ 39 39 _ _ rfl (by omega) (qe (xs := sv ctrlL) rfl rfl)
 have HV : Hid (∀ A c B w, Rd w B 1 A 32 (sv vocB) -> Calls prog 83 #[.slice A 32 c, .string s] w (Same (.bool (kl vocB s)) w)) := Lh fun A c B w rd => has_ vocB s A 32 c B w rfl (by omega) rd
 have HN : Hid (∀ A c B w, Rd w B 1 A 32 nmL -> Calls prog 83 #[.slice A 32 c, .string s] w (Same (.bool (kl ((List.range 32).map nb) s)) w)) := Lh fun A c B w rd => has_ ((List.range 32).map nb) s A 32 c B w rfl (by omega) rd
 have HT := Lh ht
 have HCo := Lh qhs
 have HVo := Lh qbn
 have HNo := Lh rnames
 rw [qhi]
 generalize kl ctrlL s = x1 at *
 generalize kl vocB s = x2 at *
 generalize kl ((List.range 32).map nb) s = x3 at *
 generalize (sv ctrlL).toArray = CA at *
 clear ht
 cases x1 with
 | true =>
  rw [Bool.true_or]
  go_enter func112, ntmps112
  go_wp2_with (first
   | (go_at_call 136; refine (HCo.out _).mono ?_; rintro e w1 ⟨rfl, rfl⟩)
   | (go_at_call 83; refine (HC.out _).mono ?_; rintro e w2 ⟨rfl, rfl⟩))
  go_ret
  exact ⟨rfl, (Below.refl _ _).alloc (Nat.le_refl _) _⟩
 | false =>
  rw [Bool.false_or]
  cases x2 with
  | true =>
   rw [Bool.true_or]
   go_enter func112, ntmps112
   go_wp2_with (first
    | (go_at_call 136; refine (HCo.out _).mono ?_; rintro e w1 ⟨rfl, rfl⟩)
    | (go_at_call 84; refine (HVo.out _ (HT.out.below ((Below.refl _ _).alloc (Nat.le_refl _) _))).mono ?_; rintro e w3 ⟨A3, c3, rfl, hown3, qh9⟩)
    | ((fail_if_success have := hown3); go_at_call 83; refine (HC.out _).mono ?_; rintro e w2 ⟨rfl, rfl⟩)
    | (go_at_call 83; refine (HV.out _ _ _ _ (Rd.of_own hown3)).mono ?_; rintro e w4 ⟨rfl, rfl⟩))
   go_ret
   exact ⟨rfl, ((Below.refl _ _).alloc (Nat.le_refl _) _).trans (qh9.mono (by simp))⟩
  | false =>
   rw [Bool.false_or]
   go_enter func112, ntmps112
   go_wp2_with (first
    | (go_at_call 136; refine (HCo.out _).mono ?_; rintro e w1 ⟨rfl, rfl⟩)
    | (go_at_call 84; refine (HVo.out _ (HT.out.below ((Below.refl _ _).alloc (Nat.le_refl _) _))).mono ?_; rintro e w3 ⟨A3, c3, rfl, hown3, qh9⟩; have t3 := ((Below.refl w.heap.size w).alloc (Nat.le_refl _) _).trans (qh9.mono (by simp)))
    | (go_at_call 137; refine (HNo.out _).mono ?_; rintro e w5 ⟨A5, c5, rfl, hown5, qib⟩; have t5 := t3.trans (qib.mono t3.size))
    | ((fail_if_success have := hown3); go_at_call 83; refine (HC.out _).mono ?_; rintro e w2 ⟨rfl, rfl⟩)
    | ((fail_if_success have := hown5); go_at_call 83; refine (HV.out _ _ _ _ (Rd.of_own hown3)).mono ?_; rintro e w4 ⟨rfl, rfl⟩)
    | (go_at_call 83; refine (HN.out _ _ _ _ (Rd.of_own hown5)).mono ?_; rintro e w6 ⟨rfl, rfl⟩))
   go_ret
   exact ⟨rfl, t5⟩
end Go.Proofs.YtlndbiamiioakaaGreatDoor
