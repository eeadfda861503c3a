/- Joined: PaB1, PaB2, PaB. -/
import Derived.Test.YtlndbiamiioakaaGreatDoorVAY
set_option linter.unusedVariables false
set_option linter.unusedSimpArgs false
set_option linter.unnecessarySimpa false
set_option maxHeartbeats 4000000
namespace Go.Proofs.YtlndbiamiioakaaGreatDoor
open Go.Proofs.Tryz Go.RowKit
set_option maxRecDepth 20000
attribute [local irreducible] Utf8.encode
theorem qc7 (p : Prs) (g nb : Nat) (w : World) (h : PaS w g nb p) (hsz : ∀ s ∈ p.words, s.size <= maxLen) (hlen : p.words.length <= 500000) (hp : prefixL p.words = none) : Calls prog 107 #[.pointer (some ⟨g, 0, none⟩)] w fun e w' => Below g w w' /\ e = .returned (.bool false) /\ PaS w' g nb p := by
 have hgl := h.lt
 have HPS := Lh h
 have hb0 : Below w.heap.size w w := Below.refl _ _
 obtain ⟨A, n, c, A2, c2, h1, h2, h3, h4, h5⟩ := h
 have C1 := h3.cell 1
 simp only [vE, La, Lb, Lc] at C1
 have hn : p.words.length = n := by have := h4.1; simp [sv] at this; omega
 have HC1 : Hid (∀ w', Below w.heap.size w w' -> w'.cell? ⟨g, 1, none⟩ = some (.slice A n c)) := Lh fun w' hw => (hw.cell (show g < _ from hgl)).trans C1
 have zq : Hid (∀ w', Below w.heap.size w w' -> Calls prog 45 #[.slice A n c] w' fun e w'' => e = .returned (qC (prefixL p.words)) /\ Below w.heap.size w w'') := Lh fun w' hw =>
  (yu p.words A n c w' hn h1 h2 ((h4.below (hw.mono (Nat.le_of_lt hgl))).more (by have := hw.size; omega)) hsz).mono fun e w'' ⟨h1, h2⟩ => ⟨h1, hw.trans (h2.mono hw.size)⟩
 rw [hp] at zq
 simp only [qC] at zq
 clear hp h2 h3 h4 h5 hn hlen hsz
 go_enter func107, ntmps107
 go_wp2_with (go_at_call 45; refine (zq.out _ (by assumption)).mono ?_; rintro e w1 ⟨rfl, hb1⟩; have C1' := HC1.out _ hb1)
 go_ret
 exact ⟨hb1.mono (Nat.le_of_lt hgl), rfl, HPS.out.below hb1⟩
theorem qfl (E : World) (p : Prs) (g nb : Nat) (w : World) (hE : PaE E g nb) (hEw : Below g E w) (h : PaS w g nb p) (hk : PaK p) (nn : Int) (k : Nat) (hp : prefixL p.words = some (nn, k)) (hneg : nn < 0) : Calls prog 107 #[.pointer (some ⟨g, 0, none⟩)] w (PaR3 g nb p (vA p) w) := by
 have hgl := h.lt
 have HPS := Lh h
 have hb0 : Below w.heap.size w w := Below.refl _ _
 have hlen := hk.len
 have hout : p.out.length <= 1000000000 := by have h := hk.2.1; omega
 have hot : ∀ x ∈ p.out, x.text.size <= 4000000 := fun x hx => by have := hk.2.2 x hx; omega
 have HAdd : Hid (∀ (r : Nat) (times : Nat), q9 r -> times <= 132 -> ∀ w', Below w.heap.size w w' -> Calls prog 135 #[.pointer (some ⟨g, 0, none⟩), .int .i32 (r : Int), .int .i64 times] w' fun e w'' => e = .returned (.bool (zW p.out p.style (r : Int) times).1) /\ PaS w'' g nb ⟨p.words, (zW p.out p.style (r : Int) times).2, p.style, false⟩ /\ Below g w w'') := Lh fun r times hr ht w' hw =>
  (add_ p r hr times ht hout hot g nb w' (h.below hw) fun w'' hb => hE.u8 ((hEw.trans (hw.mono (Nat.le_of_lt hgl))).trans hb)).mono fun e w'' ⟨h1, h2, h3, _⟩ => ⟨h1, h2, (hw.mono (Nat.le_of_lt hgl)).trans h3⟩
 have hs := hE.sp hEw
 obtain ⟨A, n, c, A2, c2, h1, h2, h3, h4, h5⟩ := h
 have C1 := h3.cell 1
 simp only [vE, La, Lb, Lc] at C1
 have hn : p.words.length = n := by have := h4.1; simp [sv] at this; omega
 have HC1 : Hid (∀ w', Below w.heap.size w w' -> w'.cell? ⟨g, 1, none⟩ = some (.slice A n c)) := Lh fun w' hw => (hw.cell (show g < _ from hgl)).trans C1
 have zq : Hid (∀ w', Below w.heap.size w w' -> Calls prog 45 #[.slice A n c] w' fun e w'' => e = .returned (qC (prefixL p.words)) /\ Below w.heap.size w w'') := Lh fun w' hw =>
  (yu p.words A n c w' hn h1 h2 ((h4.below (hw.mono (Nat.le_of_lt hgl))).more (by have := hw.size; omega)) hk.sz).mono fun e w'' ⟨h1, h2⟩ => ⟨h1, hw.trans (h2.mono hw.size)⟩
 have HCh : Hid (∀ (k : Nat) A' N c', k <= n -> N = n - k -> N <= c' -> c' <= maxLen -> Rd w g 1 A' N (sv (p.words.drop k)) -> ∀ w', Below w.heap.size w w' -> Calls prog 134 #[.slice A' N c'] w' fun e w'' => e = .returned (kE (charW (p.words.drop k))) /\ Below w.heap.size w w'') := Lh fun k A' N c' hkn hN hc hm rd w' hw =>
  (kA (p.words.drop k) A' N c' w' (by rw [List.length_drop]; omega) hc hm ((rd.below (hw.mono (Nat.le_of_lt hgl))).more (by have := hw.size; omega)) (fun s hs => hk.sz s (List.mem_of_mem_drop hs)) (hs.below hw (Nat.le_refl _))).mono fun e w'' ⟨h1, h2⟩ => ⟨h1, hw.trans (h2.mono hw.size)⟩
 obtain ⟨RES, qih⟩ : ∃ x, x = vA p := ⟨_, rfl⟩
 rw [<- qih]
 obtain ⟨hk0, hkl, qiD, qil, _⟩ := qT hp
 obtain ⟨hn1, hn2, _⟩ := zu qil
 rw [hp] at zq
 simp only [qC] at zq
 have e0 : RES = none := by rw [qih]; unfold vA; rw [hp]; simp only; rw [if_pos hneg]
 have i1 : decide (nn < 0) = true := decide_eq_true hneg
 subst e0
 clear qih hp h2 h3 h4 h5 hn hk hlen hs hot hout HAdd HCh qil hn1 hn2 hneg hk0 hkl qiD
 generalize (k : Int) = K at *
 go_enter func107, ntmps107
 go_wp2_with (go_at_call 45; refine (zq.out _ (by assumption)).mono ?_; rintro e w1 ⟨rfl, hb1⟩; have C1' := HC1.out _ hb1)
 go_ret
 exact ⟨hb1.mono (Nat.le_of_lt hgl), rfl, p, rfl, HPS.out.below hb1⟩
theorem qfB (E : World) (p : Prs) (g nb : Nat) (w : World) (hE : PaE E g nb) (hEw : Below g E w) (h : PaS w g nb p) (hk : PaK p) (nn : Int) (k : Nat) (hp : prefixL p.words = some (nn, k)) (hneg : ¬ nn < 0) (hT : ¬ p.words[k]? = some bTimes) : Calls prog 107 #[.pointer (some ⟨g, 0, none⟩)] w (PaR3 g nb p (vA p) w) := by
 have hgl := h.lt
 have HPS := Lh h
 have hb0 : Below w.heap.size w w := Below.refl _ _
 have hlen := hk.len
 have hout : p.out.length <= 1000000000 := by have h := hk.2.1; omega
 have hot : ∀ x ∈ p.out, x.text.size <= 4000000 := fun x hx => by have := hk.2.2 x hx; omega
 have HAdd : Hid (∀ (r : Nat) (times : Nat), q9 r -> times <= 132 -> ∀ w', Below w.heap.size w w' -> Calls prog 135 #[.pointer (some ⟨g, 0, none⟩), .int .i32 (r : Int), .int .i64 times] w' fun e w'' => e = .returned (.bool (zW p.out p.style (r : Int) times).1) /\ PaS w'' g nb ⟨p.words, (zW p.out p.style (r : Int) times).2, p.style, false⟩ /\ Below g w w'') := Lh fun r times hr ht w' hw =>
  (add_ p r hr times ht hout hot g nb w' (h.below hw) fun w'' hb => hE.u8 ((hEw.trans (hw.mono (Nat.le_of_lt hgl))).trans hb)).mono fun e w'' ⟨h1, h2, h3, _⟩ => ⟨h1, h2, (hw.mono (Nat.le_of_lt hgl)).trans h3⟩
 have hs := hE.sp hEw
 obtain ⟨A, n, c, A2, c2, h1, h2, h3, h4, h5⟩ := h
 have C1 := h3.cell 1
 simp only [vE, La, Lb, Lc] at C1
 have hn : p.words.length = n := by have := h4.1; simp [sv] at this; omega
 have HC1 : Hid (∀ w', Below w.heap.size w w' -> w'.cell? ⟨g, 1, none⟩ = some (.slice A n c)) := Lh fun w' hw => (hw.cell (show g < _ from hgl)).trans C1
 have zq : Hid (∀ w', Below w.heap.size w w' -> Calls prog 45 #[.slice A n c] w' fun e w'' => e = .returned (qC (prefixL p.words)) /\ Below w.heap.size w w'') := Lh fun w' hw =>
  (yu p.words A n c w' hn h1 h2 ((h4.below (hw.mono (Nat.le_of_lt hgl))).more (by have := hw.size; omega)) hk.sz).mono fun e w'' ⟨h1, h2⟩ => ⟨h1, hw.trans (h2.mono hw.size)⟩
 have HCh : Hid (∀ (k : Nat) A' N c', k <= n -> N = n - k -> N <= c' -> c' <= maxLen -> Rd w g 1 A' N (sv (p.words.drop k)) -> ∀ w', Below w.heap.size w w' -> Calls prog 134 #[.slice A' N c'] w' fun e w'' => e = .returned (kE (charW (p.words.drop k))) /\ Below w.heap.size w w'') := Lh fun k A' N c' hkn hN hc hm rd w' hw =>
  (kA (p.words.drop k) A' N c' w' (by rw [List.length_drop]; omega) hc hm ((rd.below (hw.mono (Nat.le_of_lt hgl))).more (by have := hw.size; omega)) (fun s hs => hk.sz s (List.mem_of_mem_drop hs)) (hs.below hw (Nat.le_refl _))).mono fun e w'' ⟨h1, h2⟩ => ⟨h1, hw.trans (h2.mono hw.size)⟩
 obtain ⟨RES, qih⟩ : ∃ x, x = vA p := ⟨_, rfl⟩
 rw [<- qih]
 obtain ⟨hk0, hkl, qiD, qil, _⟩ := qT hp
 obtain ⟨hn1, hn2, _⟩ := zu qil
 rw [hp] at zq
 simp only [qC] at zq
 have i1 : decide (nn < 0) = false := decide_eq_false hneg
 obtain ⟨N, hN⟩ : ∃ N : Nat, nn = (N : Int) := ⟨nn.toNat, by omega⟩
 subst hN
 have hN9 : N <= 999999999 := by omega
 have hn0 : 0 < n := by omega
 obtain ⟨b, o, hA, hbg, -⟩ := h4.2 hn0
 subst hA
 have HCk : Hid (∀ (hkn : k < n) w', Below w.heap.size w w' -> w'.cell? ⟨b, o + k, none⟩ = some (.string (p.words[k]'(by omega)))) := Lh fun hkn w' hw => by
  obtain ⟨b', o', e', _, hcd⟩ := h4.at_ hkn
  simp only [Option.some.injEq, Addr.mk.injEq, and_true] at e'
  obtain ⟨rfl, rfl⟩ := e'
  refine (hw.cell (by show b < _; omega)).trans (hcd.trans ?_)
  simp [sv, hn, hkn]
 have e0 : RES = some ⟨p.words.drop k, p.out ++ zt p.joins p.style ⟨(yt N).toArray⟩, p.style, true⟩ := by
  rw [qih]; unfold vA; rw [hp]; simp only; rw [if_neg hneg, if_neg hT]; rfl
 have HDn : Hid (∀ S : ByteArray, S.size ≠ 0 -> DecI N 0 S -> (⟨(yt N).toArray⟩ : ByteArray) = S) := Lh fun S h0 h => (h.done h0).symm
 have qiA : Hid (∀ S : ByteArray, S.size <= 10 -> ∀ w' (hw : Below w.heap.size w w'), _) := Lh fun S hS w' hw => qbZ HPS.out hout S (by omega) hw
 have HTk : Hid (∀ (S : ByteArray) w' (hp : PaS w' g nb ⟨p.words, p.out ++ zt p.joins p.style S, p.style, true⟩) (hb : Below g w w'), _) := Lh fun S w' hp hb => kM hp k hkl hb
 clear qih hp h4 h5 hk hlen hs hot hout HAdd HCh qil hn1 hn2 hneg
 rcases Nat.lt_or_ge k n with hkn | hkn
 ·have heq : ((k : Int) == (n : Int)) = false := beq_eq_false_iff_ne.2 (by omega)
  have hck := Lh (HCk.out hkn)
  have hne : p.words[k]'(by omega) ≠ bTimes := fun e => hT (by rw [List.getElem?_eq_getElem (by omega), e])
  have qk := yN (a := p.words[k]'(by omega)) (b := bTimes) (l := [116, 105, 109, 101, 115]) rfl
  rw [decide_eq_false hne] at qk
  clear hT hne HCk
  generalize p.words[k]'(by omega) = wk at *
  have hki : (k : Int) < n := by omega
  have hk0i : (0 : Int) <= k := by omega
  go_enter func107, ntmps107
  go_upto_region 5 with (go_at_call 45; refine (zq.out _ (by assumption)).mono ?_; rintro e w1 ⟨rfl, hb1⟩; have C1' := HC1.out _ hb1; have ck1 := hck.out _ hb1)
  go_wp2
  go_loopw [6, 7] (fun x y wr => ∃ (m : Nat) (S : ByteArray), m <= N /\ x = .string S /\ y = .int .i64 m /\ wr = w1 /\ Hid (DecI N m S)) (fun x y _ => 2 * (intOf y).toNat + (if szV x = 0 then 1 else 0))
  case atStart => exact ⟨N, ⟨#[]⟩, Nat.le_refl _, rfl, rfl, rfl, Lh (.inl ⟨rfl, rfl⟩)⟩
  case round =>
   obtain ⟨m, S, hm, rfl, rfl, rfl, HD⟩ := hrel
   by_cases hc : 0 < m ∨ S.size = 0
   ·have hsz := HD.out.size hN9
    have hmeas := Lh (qeH m S hc)
    have hpos : 0 < m ∨ m = 0 := by omega
    have hm10 : m / 10 <= N := by omega
    have hS0 : m = 0 -> S.toList.isEmpty = true := fun h => qbz (hc.resolve_left (by omega))
    obtain ⟨M, hM⟩ : ∃ M, M = (m : Int) := ⟨_, rfl⟩
    obtain ⟨D, hD⟩ : ∃ D, D = ((m % 10 : Nat) : Int) := ⟨_, rfl⟩
    obtain ⟨Q, hQ⟩ : ∃ Q, Q = ((m / 10 : Nat) : Int) := ⟨_, rfl⟩
    have i5 : 0 < m -> decide (0 < M) = true := fun h => decide_eq_true (by omega)
    have i6 : m = 0 -> decide (0 < M) = false := fun h => decide_eq_false (by omega)
    have hr := qdB m
    have hq := qdA m
    obtain ⟨hw2, hw3⟩ := kT (m % 10) (Nat.mod_lt _ (by decide))
    have HD2 := Lh (HD.out.step hc)
    rw [<- qbL] at HD2
    have hsz2 : (Utf8.encode (48 + ((m % 10 : Nat) : Int))).size <= 4 := enc_sz m
    have hwD : wrap64 D = D := by rw [hD]; exact yA _ (Nat.le_trans (Nat.mod_le m 10) (Nat.le_trans hm hN9))
    have hwQ : wrap64 Q = Q := by rw [hQ]; exact yA _ (Nat.le_trans hm10 hN9)
    rw [<- hM, <- hD] at hr
    rw [<- hM, <- hQ] at hq
    rw [<- hD] at hw2 hw3 hsz2 HD2 hmeas
    rw [<- hM]
    replace hM := Lh hM
    replace hQ := Lh hQ
    clear hD hc hm HDn qiA HTk
    rcases hpos with h0 | h0
    ·have i7 := i5 h0
     clear i5 i6 hS0 h0
     go_wp2
     exact ⟨⟨m / 10, _, hm10, rfl, by rw [hwQ, hQ.out], trivial, HD2⟩, by have hh := hmeas.out; rw [hwQ, hQ.out, hM.out]; simp only [intOf, szV, Int.toNat_natCast] at hh ⊢; exact hh⟩
    ·have i7 := i6 h0
     have i8 := hS0 h0
     clear i5 i6 hS0 h0
     go_wp2
     exact ⟨⟨m / 10, _, hm10, rfl, by rw [hwQ, hQ.out], trivial, HD2⟩, by have hh := hmeas.out; rw [hwQ, hQ.out, hM.out]; simp only [intOf, szV, Int.toNat_natCast] at hh ⊢; exact hh⟩
   ·have hS0 : S.size ≠ 0 := by omega
    obtain rfl : m = 0 := by omega
    have i8 := zQ hS0
    have hsz := HD.out.size hN9
    have e1 := Lh (HDn.out S hS0 HD.out)
    have HTx := Lh (qiA.out S hsz)
    have HTkS := Lh (HTk.out S)
    clear HDn qiA HTk
    go_wp2_with (first
     | (go_at_call 133; refine (HTx.out _ (by assumption)).mono ?_; rintro e w5 ⟨rfl, hp5, hb5⟩)
     | (go_at_call 130; refine (HTkS.out _ hp5 hb5).mono ?_; rintro e w6 ⟨rfl, hp6, hb6⟩))
    go_ret
    rw [e0, e1.out]
    exact ⟨hb6, rfl, hp6⟩
 ·have heq : ((k : Int) == (n : Int)) = true := beq_iff_eq.2 (by omega)
  clear hT HCk
  go_enter func107, ntmps107
  go_upto_region 5 with (go_at_call 45; refine (zq.out _ (by assumption)).mono ?_; rintro e w1 ⟨rfl, hb1⟩; have C1' := HC1.out _ hb1)
  go_wp2
  go_loopw [6, 7] (fun x y wr => ∃ (m : Nat) (S : ByteArray), m <= N /\ x = .string S /\ y = .int .i64 m /\ wr = w1 /\ Hid (DecI N m S)) (fun x y _ => 2 * (intOf y).toNat + (if szV x = 0 then 1 else 0))
  case atStart => exact ⟨N, ⟨#[]⟩, Nat.le_refl _, rfl, rfl, rfl, Lh (.inl ⟨rfl, rfl⟩)⟩
  case round =>
   obtain ⟨m, S, hm, rfl, rfl, rfl, HD⟩ := hrel
   by_cases hc : 0 < m ∨ S.size = 0
   ·have hsz := HD.out.size hN9
    have hmeas := Lh (qeH m S hc)
    have hpos : 0 < m ∨ m = 0 := by omega
    have hm10 : m / 10 <= N := by omega
    have hS0 : m = 0 -> S.toList.isEmpty = true := fun h => qbz (hc.resolve_left (by omega))
    obtain ⟨M, hM⟩ : ∃ M, M = (m : Int) := ⟨_, rfl⟩
    obtain ⟨D, hD⟩ : ∃ D, D = ((m % 10 : Nat) : Int) := ⟨_, rfl⟩
    obtain ⟨Q, hQ⟩ : ∃ Q, Q = ((m / 10 : Nat) : Int) := ⟨_, rfl⟩
    have i5 : 0 < m -> decide (0 < M) = true := fun h => decide_eq_true (by omega)
    have i6 : m = 0 -> decide (0 < M) = false := fun h => decide_eq_false (by omega)
    have hr := qdB m
    have hq := qdA m
    obtain ⟨hw2, hw3⟩ := kT (m % 10) (Nat.mod_lt _ (by decide))
    have HD2 := Lh (HD.out.step hc)
    rw [<- qbL] at HD2
    have hsz2 : (Utf8.encode (48 + ((m % 10 : Nat) : Int))).size <= 4 := enc_sz m
    have hwD : wrap64 D = D := by rw [hD]; exact yA _ (Nat.le_trans (Nat.mod_le m 10) (Nat.le_trans hm hN9))
    have hwQ : wrap64 Q = Q := by rw [hQ]; exact yA _ (Nat.le_trans hm10 hN9)
    rw [<- hM, <- hD] at hr
    rw [<- hM, <- hQ] at hq
    rw [<- hD] at hw2 hw3 hsz2 HD2 hmeas
    rw [<- hM]
    replace hM := Lh hM
    replace hQ := Lh hQ
    clear hD hc hm HDn qiA HTk
    rcases hpos with h0 | h0
    ·have i7 := i5 h0
     clear i5 i6 hS0 h0
     go_wp2
     exact ⟨⟨m / 10, _, hm10, rfl, by rw [hwQ, hQ.out], trivial, HD2⟩, by have hh := hmeas.out; rw [hwQ, hQ.out, hM.out]; simp only [intOf, szV, Int.toNat_natCast] at hh ⊢; exact hh⟩
    ·have i7 := i6 h0
     have i8 := hS0 h0
     clear i5 i6 hS0 h0
     go_wp2
     exact ⟨⟨m / 10, _, hm10, rfl, by rw [hwQ, hQ.out], trivial, HD2⟩, by have hh := hmeas.out; rw [hwQ, hQ.out, hM.out]; simp only [intOf, szV, Int.toNat_natCast] at hh ⊢; exact hh⟩
   ·have hS0 : S.size ≠ 0 := by omega
    obtain rfl : m = 0 := by omega
    have i8 := zQ hS0
    have hsz := HD.out.size hN9
    have e1 := Lh (HDn.out S hS0 HD.out)
    have HTx := Lh (qiA.out S hsz)
    have HTkS := Lh (HTk.out S)
    clear HDn qiA HTk
    go_wp2_with (first
     | (go_at_call 133; refine (HTx.out _ (by assumption)).mono ?_; rintro e w5 ⟨rfl, hp5, hb5⟩)
     | (go_at_call 130; refine (HTkS.out _ hp5 hb5).mono ?_; rintro e w6 ⟨rfl, hp6, hb6⟩))
    go_ret
    rw [e0, e1.out]
    exact ⟨hb6, rfl, hp6⟩
end Go.Proofs.YtlndbiamiioakaaGreatDoor
namespace Go.Proofs.YtlndbiamiioakaaGreatDoor
open Go.Proofs.Tryz Go.RowKit
set_option maxRecDepth 20000
attribute [local irreducible] Utf8.encode
theorem qdY (E : World) (p : Prs) (g nb : Nat) (w : World) (hE : PaE E g nb) (hEw : Below g E w) (h : PaS w g nb p) (hk : PaK p) (nn : Int) (k : Nat) (hp : prefixL p.words = some (nn, k)) (hneg : ¬ nn < 0) (hT : p.words[k]? = some bTimes) : Calls prog 107 #[.pointer (some ⟨g, 0, none⟩)] w (PaR3 g nb p (vA p) w) := by
 have hgl := h.lt
 have HPS := Lh h
 have hb0 : Below w.heap.size w w := Below.refl _ _
 have hlen := hk.len
 have hout : p.out.length <= 1000000000 := by have h := hk.2.1; omega
 have hot : ∀ x ∈ p.out, x.text.size <= 4000000 := fun x hx => by have := hk.2.2 x hx; omega
 have HAdd : Hid (∀ (r : Nat) (times : Nat), q9 r -> times <= 132 -> ∀ w', Below w.heap.size w w' -> Calls prog 135 #[.pointer (some ⟨g, 0, none⟩), .int .i32 (r : Int), .int .i64 times] w' fun e w'' => e = .returned (.bool (zW p.out p.style (r : Int) times).1) /\ PaS w'' g nb ⟨p.words, (zW p.out p.style (r : Int) times).2, p.style, false⟩ /\ Below g w w'') := Lh fun r times hr ht w' hw =>
  (add_ p r hr times ht hout hot g nb w' (h.below hw) fun w'' hb => hE.u8 ((hEw.trans (hw.mono (Nat.le_of_lt hgl))).trans hb)).mono fun e w'' ⟨h1, h2, h3, _⟩ => ⟨h1, h2, (hw.mono (Nat.le_of_lt hgl)).trans h3⟩
 have hs := hE.sp hEw
 obtain ⟨A, n, c, A2, c2, h1, h2, h3, h4, h5⟩ := h
 have C1 := h3.cell 1
 simp only [vE, La, Lb, Lc] at C1
 have hn : p.words.length = n := by have := h4.1; simp [sv] at this; omega
 have HC1 : Hid (∀ w', Below w.heap.size w w' -> w'.cell? ⟨g, 1, none⟩ = some (.slice A n c)) := Lh fun w' hw => (hw.cell (show g < _ from hgl)).trans C1
 have zq : Hid (∀ w', Below w.heap.size w w' -> Calls prog 45 #[.slice A n c] w' fun e w'' => e = .returned (qC (prefixL p.words)) /\ Below w.heap.size w w'') := Lh fun w' hw =>
  (yu p.words A n c w' hn h1 h2 ((h4.below (hw.mono (Nat.le_of_lt hgl))).more (by have := hw.size; omega)) hk.sz).mono fun e w'' ⟨h1, h2⟩ => ⟨h1, hw.trans (h2.mono hw.size)⟩
 have HCh : Hid (∀ (k : Nat) A' N c', k <= n -> N = n - k -> N <= c' -> c' <= maxLen -> Rd w g 1 A' N (sv (p.words.drop k)) -> ∀ w', Below w.heap.size w w' -> Calls prog 134 #[.slice A' N c'] w' fun e w'' => e = .returned (kE (charW (p.words.drop k))) /\ Below w.heap.size w w'') := Lh fun k A' N c' hkn hN hc hm rd w' hw =>
  (kA (p.words.drop k) A' N c' w' (by rw [List.length_drop]; omega) hc hm ((rd.below (hw.mono (Nat.le_of_lt hgl))).more (by have := hw.size; omega)) (fun s hs => hk.sz s (List.mem_of_mem_drop hs)) (hs.below hw (Nat.le_refl _))).mono fun e w'' ⟨h1, h2⟩ => ⟨h1, hw.trans (h2.mono hw.size)⟩
 obtain ⟨RES, qih⟩ : ∃ x, x = vA p := ⟨_, rfl⟩
 rw [<- qih]
 obtain ⟨hk0, hkl, qiD, qil, _⟩ := qT hp
 obtain ⟨hn1, hn2, _⟩ := zu qil
 rw [hp] at zq
 simp only [qC] at zq
 have i1 : decide (nn < 0) = false := decide_eq_false hneg
 obtain ⟨N, hN⟩ : ∃ N : Nat, nn = (N : Int) := ⟨nn.toNat, by omega⟩
 subst hN
 have hN9 : N <= 999999999 := by omega
 have hn0 : 0 < n := by omega
 obtain ⟨b, o, hA, hbg, -⟩ := h4.2 hn0
 subst hA
 have HCk : Hid (∀ (hkn : k < n) w', Below w.heap.size w w' -> w'.cell? ⟨b, o + k, none⟩ = some (.string (p.words[k]'(by omega)))) := Lh fun hkn w' hw => by
  obtain ⟨b', o', e', _, hcd⟩ := h4.at_ hkn
  simp only [Option.some.injEq, Addr.mk.injEq, and_true] at e'
  obtain ⟨rfl, rfl⟩ := e'
  refine (hw.cell (by show b < _; omega)).trans (hcd.trans ?_)
  simp [sv, hn, hkn]
 have hkn : k < n := by
  rcases Nat.lt_or_ge k p.words.length with h | h
  ·omega
  ·rw [List.getElem?_eq_none h] at hT; cases hT
 have hck := Lh (HCk.out hkn)
 have hwk : p.words[k]'(by omega) = bTimes := by
  rw [List.getElem?_eq_getElem (by omega)] at hT
  injection hT
 rw [hwk] at hck
 have qk : (bTimes.toList == [116, 105, 109, 101, 115]) = true := by decide +kernel
 have heq : ((k : Int) == (n : Int)) = false := beq_eq_false_iff_ne.2 (by omega)
 have hki : (k : Int) < n := by omega
 have hk0i : (0 : Int) <= k := by omega
 have hkn1 : k + 1 <= n := by omega
 have i2 : (k : Int) + 1 <= n := by omega
 have i3 : (k : Int) + 1 <= c := by omega
 have i1 : (0 : Int) <= (k : Int) + 1 := by omega
 have i4 : (k : Int) + 1 <= 16 := by omega
 have hRd := h4.cut (k := k + 1) hkn1 h1
 rw [show (sv p.words).drop ((k + 1) * 1) = sv (p.words.drop (k + 1)) by simp [sv]] at hRd
 simp only [Nat.mul_one, Option.map_some, vm] at hRd
 have eT : RES = match charW (p.words.drop (k + 1)) with
   | none => none
   | some (r, m) => if 2 <= (N : Int) /\ (N : Int) <= 132 /\ (zW p.out p.style r N).1 = true then some ⟨p.words.drop (k + 1 + m), (zW p.out p.style r N).2, p.style, false⟩ else none := by
  rw [qih]; unfold vA; rw [hp]; simp only; rw [if_neg hneg, if_pos hT, Int.toNat_natCast]; cases charW (p.words.drop (k + 1)) <;> rfl
 have hc63 : c <= 9223372036854775807 := by unfold maxLen at h2; omega
 have hln1 : (p.words.drop (k + 1)).length = p.words.length - (k + 1) := List.length_drop
 clear hp h4 h5 hk hs hot hout qil hn1 hn2 hneg hT HCk hwk qih
 by_cases hck1 : c = k + 1
 ·rw [if_pos hck1] at hRd
  have HCx := Lh (HCh.out (k + 1) (some ⟨b, o, none⟩) (n - (k + 1)) 0 hkn1 rfl (by omega) (by omega) hRd)
  have hnk : n - (k + 1) = 0 := by omega
  rw [hnk] at HCx
  have l0 : p.words.drop (k + 1) = [] := List.length_eq_zero_iff.1 (by omega)
  rw [l0, show charW [] = none from rfl] at HCx eT
  simp only [kE] at HCx
  simp only at eT
  subst eT
  obtain rfl : n = k + 1 := by omega
  subst hck1
  clear HCh hRd hln1 HAdd hlen hn l0 h2 qiD hkl hk0
  go_enter func107, ntmps107
  go_wp2_with (first | (go_at_call 45; refine (zq.out _ (by assumption)).mono ?_; rintro e w1 ⟨rfl, hb1⟩; have C1' := HC1.out _ hb1; have ck1 := hck.out _ hb1) | (go_at_call 134; refine (HCx.out _ (by assumption)).mono ?_; rintro e w2 ⟨rfl, hb2⟩))
  go_ret
  exact ⟨hb2.mono (Nat.le_of_lt hgl), rfl, p, rfl, HPS.out.below hb2⟩
 ·rw [if_neg hck1] at hRd
  have HCx := Lh (HCh.out (k + 1) (some ⟨b, o + (k + 1), none⟩) (n - (k + 1)) (c - (k + 1)) hkn1 rfl (by omega) (by omega) hRd)
  cases hcw : charW (p.words.drop (k + 1)) with
  | none =>
   rw [hcw] at HCx eT
   simp only [kE] at HCx
   simp only at eT
   subst eT
   clear HCh hRd hln1 HAdd hlen hn hcw h2 qiD hkl hk0
   go_enter func107, ntmps107
   go_wp2_with (first | (go_at_call 45; refine (zq.out _ (by assumption)).mono ?_; rintro e w1 ⟨rfl, hb1⟩; have C1' := HC1.out _ hb1; have ck1 := hck.out _ hb1) | (go_at_call 134; refine (HCx.out _ (by assumption)).mono ?_; rintro e w2 ⟨rfl, hb2⟩))
   go_ret
   exact ⟨hb2.mono (Nat.le_of_lt hgl), rfl, p, rfl, HPS.out.below hb2⟩
  | some x =>
   obtain ⟨r, m⟩ := x
   obtain ⟨rr, rfl, hrr⟩ := qaP hcw
   obtain ⟨hm0, hml⟩ := qac hcw
   rw [hcw] at HCx eT
   simp only [kE] at HCx
   simp only at eT
   have em : ((m : Int) == 0) = false := beq_eq_false_iff_ne.2 (by omega)
   have hm5 : m <= 500000 := by omega
   by_cases h2N : N < 2
   ·rw [if_neg (by omega)] at eT
    subst eT
    have i7 : decide ((N : Int) < 2) = true := decide_eq_true (by omega)
    clear HCh hRd hln1 HAdd hlen hn hcw h2 hm0 hml h2N hN9 hrr qiD hkl hk0
    generalize (N : Int) = NI at *
    generalize (rr : Int) = RR at *
    go_enter func107, ntmps107
    go_wp2_with (first | (go_at_call 45; refine (zq.out _ (by assumption)).mono ?_; rintro e w1 ⟨rfl, hb1⟩; have C1' := HC1.out _ hb1; have ck1 := hck.out _ hb1) | (go_at_call 134; refine (HCx.out _ (by assumption)).mono ?_; rintro e w2 ⟨rfl, hb2⟩))
    go_ret
    exact ⟨hb2.mono (Nat.le_of_lt hgl), rfl, p, rfl, HPS.out.below hb2⟩
   ·have i7 : decide ((N : Int) < 2) = false := decide_eq_false (by omega)
    by_cases h3N : 132 < N
    ·rw [if_neg (by omega)] at eT
     subst eT
     have i8 : decide (132 < (N : Int)) = true := decide_eq_true (by omega)
     clear HCh hRd hln1 HAdd hlen hn hcw h2 hm0 hml h2N h3N hN9 hrr qiD hkl hk0
     generalize (N : Int) = NI at *
     generalize (rr : Int) = RR at *
     go_enter func107, ntmps107
     go_wp2_with (first | (go_at_call 45; refine (zq.out _ (by assumption)).mono ?_; rintro e w1 ⟨rfl, hb1⟩; have C1' := HC1.out _ hb1; have ck1 := hck.out _ hb1) | (go_at_call 134; refine (HCx.out _ (by assumption)).mono ?_; rintro e w2 ⟨rfl, hb2⟩))
     go_ret
     exact ⟨hb2.mono (Nat.le_of_lt hgl), rfl, p, rfl, HPS.out.below hb2⟩
    ·have i8 : decide (132 < (N : Int)) = false := decide_eq_false (by omega)
     have HAd := Lh (HAdd.out rr N hrr (by omega))
     have hkm : k + 1 + m <= p.words.length := by omega
     have HTk := Lh (fun w' (hp : PaS w' g nb ⟨p.words, (zW p.out p.style (rr : Int) N).2, p.style, false⟩) (hb : Below g w w') => kM hp (k + 1 + m) hkm hb)
     rw [show (((k + 1 + m : Nat)) : Int) = (k : Int) + 1 + (m : Int) by omega] at HTk
     generalize zW p.out p.style (rr : Int) N = AL at *
     obtain ⟨ok, O'⟩ := AL
     dsimp only at *
     cases ok with
     | false =>
      rw [if_neg (by simp)] at eT
      subst eT
      clear HCh hRd hln1 HAdd hlen hn hcw h2 hm0 hml h2N h3N hN9 hrr HTk hkm qiD hkl hk0
      generalize (N : Int) = NI at *
      generalize (rr : Int) = RR at *
      go_enter func107, ntmps107
      go_wp2_with (first | (go_at_call 45; refine (zq.out _ (by assumption)).mono ?_; rintro e w1 ⟨rfl, hb1⟩; have C1' := HC1.out _ hb1; have ck1 := hck.out _ hb1) | (go_at_call 134; refine (HCx.out _ (by assumption)).mono ?_; rintro e w2 ⟨rfl, hb2⟩) | (go_at_call 135; refine (HAd.out _ (by assumption)).mono ?_; rintro e w3 ⟨rfl, hp3, hb3⟩))
      go_ret
      exact ⟨hb3, rfl, ⟨p.words, O', p.style, false⟩, rfl, hp3⟩
     | true =>
      rw [if_pos ⟨by omega, by omega, rfl⟩] at eT
      subst eT
      clear HCh hRd hln1 HAdd hlen hn hcw h2 hm0 hml h2N h3N hN9 hrr hkm qiD hkl hk0
      generalize (N : Int) = NI at *
      generalize (rr : Int) = RR at *
      go_enter func107, ntmps107
      go_wp2_with (first | (go_at_call 45; refine (zq.out _ (by assumption)).mono ?_; rintro e w1 ⟨rfl, hb1⟩; have C1' := HC1.out _ hb1; have ck1 := hck.out _ hb1) | (go_at_call 134; refine (HCx.out _ (by assumption)).mono ?_; rintro e w2 ⟨rfl, hb2⟩) | (go_at_call 135; refine (HAd.out _ (by assumption)).mono ?_; rintro e w3 ⟨rfl, hp3, hb3⟩) | (go_at_call 130; refine (HTk.out _ hp3 hb3).mono ?_; rintro e w6 ⟨rfl, hp6, hb6⟩))
      go_ret
      exact ⟨hb6, rfl, hp6⟩
end Go.Proofs.YtlndbiamiioakaaGreatDoor
namespace Go.Proofs.YtlndbiamiioakaaGreatDoor
open Go.Proofs.Tryz Go.RowKit
theorem amount_ (E : World) (p : Prs) (g nb : Nat) (w : World) (hE : PaE E g nb) (hEw : Below g E w) (h : PaS w g nb p) (hk : PaK p) : Calls prog 107 #[.pointer (some ⟨g, 0, none⟩)] w (PaR3 g nb p (vA p) w) := by
 cases hp : prefixL p.words with
 | none =>
  have e0 : vA p = none := by unfold vA; rw [hp]
  rw [e0]
  exact (qc7 p g nb w h hk.sz hk.len hp).mono fun e w' ⟨h1, h2, h3⟩ => ⟨h1, h2, p, rfl, h3⟩
 | some x =>
  obtain ⟨nn, k⟩ := x
  by_cases hneg : nn < 0
  ·exact qfl E p g nb w hE hEw h hk nn k hp hneg
  ·by_cases hT : p.words[k]? = some bTimes
   ·exact qdY E p g nb w hE hEw h hk nn k hp hneg hT
   ·exact qfB E p g nb w hE hEw h hk nn k hp hneg hT
end Go.Proofs.YtlndbiamiioakaaGreatDoor
