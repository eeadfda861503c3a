/- Joined texts: PaB1, PaB2, PaB. -/
import Derived.Test.YtholajadbbdcmaaGreatDoorQAA
import Derived.Test.YtholajadbbdcmaaGreatDoorQAB
import Derived.Test.YtholajadbbdcmaaGreatDoorQAC
import Derived.Test.YtholajadbbdcmaaGreatDoorQAD
import Derived.Test.YtholajadbbdcmaaGreatDoorQAE
import Derived.Test.YtholajadbbdcmaaGreatDoorQAF
import Derived.Test.YtholajadbbdcmaaGreatDoorQAG
import Derived.Test.YtholajadbbdcmaaGreatDoorQAH
import Derived.Test.YtholajadbbdcmaaGreatDoorQAI
import Derived.Test.YtholajadbbdcmaaGreatDoorQAM
import Derived.Test.YtholajadbbdcmaaGreatDoorQAN
import Derived.Test.YtholajadbbdcmaaGreatDoorQAQ
import Derived.Test.YtholajadbbdcmaaGreatDoorQAU
import Derived.Test.YtholajadbbdcmaaGreatDoorQAV
import Derived.Test.YtholajadbbdcmaaGreatDoorQAX
import Derived.Test.YtholajadbbdcmaaGreatDoorQAY
set_option linter.unusedVariables false
set_option linter.unusedSimpArgs false
set_option linter.unnecessarySimpa false
namespace Go.Proofs.YtholajadbbdcmaaGreatDoor
open Go.RowKit
set_option maxRecDepth 20000
attribute [local irreducible] Utf8.encode
set_option maxHeartbeats 4000000 in
theorem amount_no (p : Prs) (g nb : Nat) (w : World) (h : PaS w g nb p) (hsz : ∀ s ∈ p.words, s.size ≤ maxLen) (hlen : p.words.length ≤ 500000) (hp : prefixL p.words = none) : Calls Tryz.prog 178 #[.pointer (some ⟨g, 0, none⟩)] w fun e w' => Below g w w' ∧ e = .returned (.bool false) ∧ PaS w' g nb p := by
 have hgl := h.lt
 have HPS := Lib.hid h
 have hb0 : Below w.heap.size w w := Below.refl _ _
 obtain ⟨A, n, c, A2, c2, h1, h2, h3, h4, h5⟩ := h
 have C1 := h3.cell 1
 simp only [parC, List.getElem?_toArray, List.getElem?_cons_zero, List.getElem?_cons_succ] at C1
 have hn : p.words.length = n := by have := h4.1; simp [sv] at this; omega
 have HC1 : Hid (∀ w', Below w.heap.size w w' → w'.cell? ⟨g, 1, none⟩ = some (.slice A n c)) := Lib.hid fun w' hw => (hw.cell (show g < _ from hgl)).trans C1
 have HPr : Hid (∀ w', Below w.heap.size w w' → Calls Tryz.prog 110 #[.slice A n c] w' fun e w'' => e = .returned (preTriple (prefixL p.words)) ∧ Below w.heap.size w w'') := Lib.hid fun w' hw =>
  (prefix_ p.words A n c w' hn h1 h2 ((h4.below (hw.mono (Nat.le_of_lt hgl))).more (by have := hw.size; omega)) hsz).mono fun e w'' ⟨h1, h2⟩ => ⟨h1, hw.trans (h2.mono hw.size)⟩
 rw [hp] at HPr
 simp only [preTriple] at HPr
 clear hp h2 h3 h4 h5 hn hlen hsz
 go_enter Tryz.func178, Tryz.ntmps178
 go_wp2_with (go_at_call 110; refine (HPr.out _ (by assumption)).mono ?_; rintro e w1 ⟨rfl, hb1⟩; have C1' := HC1.out _ hb1)
 go_ret
 exact ⟨hb1.mono (Nat.le_of_lt hgl), rfl, HPS.out.below hb1⟩
set_option maxHeartbeats 4000000 in
theorem amount_neg (E : World) (p : Prs) (g nb : Nat) (w : World) (hE : PaE E g nb) (hEw : Below g E w) (h : PaS w g nb p) (hk : PaK p) (nn : Int) (k : Nat) (hp : prefixL p.words = some (nn, k)) (hneg : nn < 0) : Calls Tryz.prog 178 #[.pointer (some ⟨g, 0, none⟩)] w (PaR3 g nb p (amtL p) w) := by
 have hgl := h.lt
 have HPS := Lib.hid h
 have hb0 : Below w.heap.size w w := Below.refl _ _
 have hlen := hk.len
 have hout : p.out.length ≤ 1000000000 := by have h := hk.2.1; omega
 have hot : ∀ x ∈ p.out, x.text.size ≤ 4000000 := fun x hx => by have := hk.2.2 x hx; omega
 have HAdd : Hid (∀ (r : Nat) (times : Nat), isChN r → times ≤ 132 → ∀ w', Below w.heap.size w w' → Calls Tryz.prog 195 #[.pointer (some ⟨g, 0, none⟩), .int .i32 (r : Int), .int .i64 times] w' fun e w'' => e = .returned (.bool (addL p.out p.style (r : Int) times).1) ∧ PaS w'' g nb ⟨p.words, (addL p.out p.style (r : Int) times).2, p.style, false⟩ ∧ Below g w w'') := Lib.hid fun r times hr ht w' hw =>
  (add_ p r hr times ht hout hot g nb w' (h.below hw) fun w'' hb => hE.u8 ((hEw.trans (hw.mono (Nat.le_of_lt hgl))).trans hb)).mono fun e w'' ⟨h1, h2, h3, _⟩ => ⟨h1, h2, (hw.mono (Nat.le_of_lt hgl)).trans h3⟩
 have hs := hE.sp hEw
 obtain ⟨A, n, c, A2, c2, h1, h2, h3, h4, h5⟩ := h
 have C1 := h3.cell 1
 simp only [parC, List.getElem?_toArray, List.getElem?_cons_zero, List.getElem?_cons_succ] at C1
 have hn : p.words.length = n := by have := h4.1; simp [sv] at this; omega
 have HC1 : Hid (∀ w', Below w.heap.size w w' → w'.cell? ⟨g, 1, none⟩ = some (.slice A n c)) := Lib.hid fun w' hw => (hw.cell (show g < _ from hgl)).trans C1
 have HPr : Hid (∀ w', Below w.heap.size w w' → Calls Tryz.prog 110 #[.slice A n c] w' fun e w'' => e = .returned (preTriple (prefixL p.words)) ∧ Below w.heap.size w w'') := Lib.hid fun w' hw =>
  (prefix_ p.words A n c w' hn h1 h2 ((h4.below (hw.mono (Nat.le_of_lt hgl))).more (by have := hw.size; omega)) hk.sz).mono fun e w'' ⟨h1, h2⟩ => ⟨h1, hw.trans (h2.mono hw.size)⟩
 have HCh : Hid (∀ (k : Nat) A' N c', k ≤ n → N = n - k → N ≤ c' → c' ≤ maxLen → Rd w g 1 A' N (sv (p.words.drop k)) → ∀ w', Below w.heap.size w w' → Calls Tryz.prog 194 #[.slice A' N c'] w' fun e w'' => e = .returned (chwV (charW (p.words.drop k))) ∧ Below w.heap.size w w'') := Lib.hid fun k A' N c' hkn hN hc hm rd w' hw =>
  (character_ (p.words.drop k) A' N c' w' (by rw [List.length_drop]; omega) hc hm ((rd.below (hw.mono (Nat.le_of_lt hgl))).more (by have := hw.size; omega)) (fun s hs => hk.sz s (List.mem_of_mem_drop hs)) (hs.below hw (Nat.le_refl _))).mono fun e w'' ⟨h1, h2⟩ => ⟨h1, hw.trans (h2.mono hw.size)⟩
 obtain ⟨RES, hRES⟩ : ∃ x, x = amtL p := ⟨_, rfl⟩
 rw [← hRES]
 obtain ⟨hk0, hkl, hk15, hnum, _⟩ := prefixL_some hp
 obtain ⟨hn1, hn2, _⟩ := number_some hnum
 rw [hp] at HPr
 simp only [preTriple] at HPr
 have e0 : RES = none := by rw [hRES]; unfold amtL; rw [hp]; simp only; rw [if_pos hneg]
 have i1 : decide (nn < 0) = true := decide_eq_true hneg
 subst e0
 clear hRES hp h2 h3 h4 h5 hn hk hlen hs hot hout HAdd HCh hnum hn1 hn2 hneg hk0 hkl hk15
 generalize (k : Int) = K at *
 go_enter Tryz.func178, Tryz.ntmps178
 go_wp2_with (go_at_call 110; refine (HPr.out _ (by assumption)).mono ?_; rintro e w1 ⟨rfl, hb1⟩; have C1' := HC1.out _ hb1)
 go_ret
 exact ⟨hb1.mono (Nat.le_of_lt hgl), rfl, p, rfl, HPS.out.below hb1⟩
set_option maxHeartbeats 4000000 in
theorem amount_dec (E : World) (p : Prs) (g nb : Nat) (w : World) (hE : PaE E g nb) (hEw : Below g E w) (h : PaS w g nb p) (hk : PaK p) (nn : Int) (k : Nat) (hp : prefixL p.words = some (nn, k)) (hneg : ¬ nn < 0) (hT : ¬ p.words[k]? = some bTimes) : Calls Tryz.prog 178 #[.pointer (some ⟨g, 0, none⟩)] w (PaR3 g nb p (amtL p) w) := by
 have hgl := h.lt
 have HPS := Lib.hid h
 have hb0 : Below w.heap.size w w := Below.refl _ _
 have hlen := hk.len
 have hout : p.out.length ≤ 1000000000 := by have h := hk.2.1; omega
 have hot : ∀ x ∈ p.out, x.text.size ≤ 4000000 := fun x hx => by have := hk.2.2 x hx; omega
 have HAdd : Hid (∀ (r : Nat) (times : Nat), isChN r → times ≤ 132 → ∀ w', Below w.heap.size w w' → Calls Tryz.prog 195 #[.pointer (some ⟨g, 0, none⟩), .int .i32 (r : Int), .int .i64 times] w' fun e w'' => e = .returned (.bool (addL p.out p.style (r : Int) times).1) ∧ PaS w'' g nb ⟨p.words, (addL p.out p.style (r : Int) times).2, p.style, false⟩ ∧ Below g w w'') := Lib.hid fun r times hr ht w' hw =>
  (add_ p r hr times ht hout hot g nb w' (h.below hw) fun w'' hb => hE.u8 ((hEw.trans (hw.mono (Nat.le_of_lt hgl))).trans hb)).mono fun e w'' ⟨h1, h2, h3, _⟩ => ⟨h1, h2, (hw.mono (Nat.le_of_lt hgl)).trans h3⟩
 have hs := hE.sp hEw
 obtain ⟨A, n, c, A2, c2, h1, h2, h3, h4, h5⟩ := h
 have C1 := h3.cell 1
 simp only [parC, List.getElem?_toArray, List.getElem?_cons_zero, List.getElem?_cons_succ] at C1
 have hn : p.words.length = n := by have := h4.1; simp [sv] at this; omega
 have HC1 : Hid (∀ w', Below w.heap.size w w' → w'.cell? ⟨g, 1, none⟩ = some (.slice A n c)) := Lib.hid fun w' hw => (hw.cell (show g < _ from hgl)).trans C1
 have HPr : Hid (∀ w', Below w.heap.size w w' → Calls Tryz.prog 110 #[.slice A n c] w' fun e w'' => e = .returned (preTriple (prefixL p.words)) ∧ Below w.heap.size w w'') := Lib.hid fun w' hw =>
  (prefix_ p.words A n c w' hn h1 h2 ((h4.below (hw.mono (Nat.le_of_lt hgl))).more (by have := hw.size; omega)) hk.sz).mono fun e w'' ⟨h1, h2⟩ => ⟨h1, hw.trans (h2.mono hw.size)⟩
 have HCh : Hid (∀ (k : Nat) A' N c', k ≤ n → N = n - k → N ≤ c' → c' ≤ maxLen → Rd w g 1 A' N (sv (p.words.drop k)) → ∀ w', Below w.heap.size w w' → Calls Tryz.prog 194 #[.slice A' N c'] w' fun e w'' => e = .returned (chwV (charW (p.words.drop k))) ∧ Below w.heap.size w w'') := Lib.hid fun k A' N c' hkn hN hc hm rd w' hw =>
  (character_ (p.words.drop k) A' N c' w' (by rw [List.length_drop]; omega) hc hm ((rd.below (hw.mono (Nat.le_of_lt hgl))).more (by have := hw.size; omega)) (fun s hs => hk.sz s (List.mem_of_mem_drop hs)) (hs.below hw (Nat.le_refl _))).mono fun e w'' ⟨h1, h2⟩ => ⟨h1, hw.trans (h2.mono hw.size)⟩
 obtain ⟨RES, hRES⟩ : ∃ x, x = amtL p := ⟨_, rfl⟩
 rw [← hRES]
 obtain ⟨hk0, hkl, hk15, hnum, _⟩ := prefixL_some hp
 obtain ⟨hn1, hn2, _⟩ := number_some hnum
 rw [hp] at HPr
 simp only [preTriple] at HPr
 have i1 : decide (nn < 0) = false := decide_eq_false hneg
 obtain ⟨N, hN⟩ : ∃ N : Nat, nn = (N : Int) := ⟨nn.toNat, by omega⟩
 subst hN
 have hN9 : N ≤ 999999999 := by omega
 have hn0 : 0 < n := by omega
 obtain ⟨b, o, hA, hbg, -⟩ := h4.2 hn0
 subst hA
 have HCk : Hid (∀ (hkn : k < n) w', Below w.heap.size w w' → w'.cell? ⟨b, o + k, none⟩ = some (.string (p.words[k]'(by omega)))) := Lib.hid fun hkn w' hw => by
  obtain ⟨b', o', e', _, hcd⟩ := h4.at_ hkn
  simp only [Option.some.injEq, Addr.mk.injEq, and_true] at e'
  obtain ⟨rfl, rfl⟩ := e'
  refine (hw.cell (by show b < _; omega)).trans (hcd.trans ?_)
  simp [sv, hn, hkn]
 have e0 : RES = some ⟨p.words.drop k, p.out ++ textG p.joins p.style ⟨(decT N).toArray⟩, p.style, true⟩ := by
  rw [hRES]; unfold amtL; rw [hp]; simp only; rw [if_neg hneg, if_neg hT]; rfl
 have HDn : Hid (∀ S : ByteArray, S.size ≠ 0 → DecI N 0 S → (⟨(decT N).toArray⟩ : ByteArray) = S) := Lib.hid fun S h0 h => (h.done h0).symm
 have HTxt : Hid (∀ S : ByteArray, S.size ≤ 10 → ∀ w' (hw : Below w.heap.size w w'), _) := Lib.hid fun S hS w' hw => text_r HPS.out hout S (by omega) hw
 have HTk : Hid (∀ (S : ByteArray) w' (hp : PaS w' g nb ⟨p.words, p.out ++ textG p.joins p.style S, p.style, true⟩) (hb : Below g w w'), _) := Lib.hid fun S w' hp hb => take_r hp k hkl hb
 clear hRES hp h4 h5 hk hlen hs hot hout HAdd HCh hnum hn1 hn2 hneg
 rcases Nat.lt_or_ge k n with hkn | hkn
 ·have heq : ((k : Int) == (n : Int)) = false := beq_eq_false_iff_ne.2 (by omega)
  have hck := Lib.hid (HCk.out hkn)
  have hne : p.words[k]'(by omega) ≠ bTimes := fun e => hT (by rw [List.getElem?_eq_getElem (by omega), e])
  have qk := strq (a := p.words[k]'(by omega)) (b := bTimes) (l := [116, 105, 109, 101, 115]) rfl
  rw [decide_eq_false hne] at qk
  clear hT hne HCk
  generalize p.words[k]'(by omega) = wk at *
  have hki : (k : Int) < n := by omega
  have hk0i : (0 : Int) ≤ k := by omega
  go_enter Tryz.func178, Tryz.ntmps178
  go_upto_region 5 with (go_at_call 110; refine (HPr.out _ (by assumption)).mono ?_; rintro e w1 ⟨rfl, hb1⟩; have C1' := HC1.out _ hb1; have ck1 := hck.out _ hb1)
  go_wp2
  go_loopw [6, 7] (fun x y wr => ∃ (m : Nat) (S : ByteArray), m ≤ N ∧ x = .string S ∧ y = .int .i64 m ∧ wr = w1 ∧ Hid (DecI N m S)) (fun x y _ => 2 * (intOf y).toNat + (if szV x = 0 then 1 else 0))
  case atStart => exact ⟨N, ⟨#[]⟩, Nat.le_refl _, rfl, rfl, rfl, Lib.hid (.inl ⟨rfl, rfl⟩)⟩
  case round =>
   obtain ⟨m, S, hm, rfl, rfl, rfl, HD⟩ := hrel
   by_cases hc : 0 < m ∨ S.size = 0
   ·have hsz := HD.out.size hN9
    have hmeas := Lib.hid (dec_meas m S hc)
    have hpos : 0 < m ∨ m = 0 := by omega
    have hm10 : m / 10 ≤ N := by omega
    have hS0 : m = 0 → S.toList.isEmpty = true := fun h => isEmpty_yes (hc.resolve_left (by omega))
    obtain ⟨M, hM⟩ : ∃ M, M = (m : Int) := ⟨_, rfl⟩
    obtain ⟨D, hD⟩ : ∃ D, D = ((m % 10 : Nat) : Int) := ⟨_, rfl⟩
    obtain ⟨Q, hQ⟩ : ∃ Q, Q = ((m / 10 : Nat) : Int) := ⟨_, rfl⟩
    have i5 : 0 < m → decide (0 < M) = true := fun h => decide_eq_true (by omega)
    have i6 : m = 0 → decide (0 < M) = false := fun h => decide_eq_false (by omega)
    have hr := dec_rem m
    have hq := dec_quo m
    obtain ⟨hw2, hw3⟩ := wrap_dig (m % 10) (Nat.mod_lt _ (by decide))
    have HD2 := Lib.hid (HD.out.step hc)
    rw [← enc_mod] at HD2
    have hsz2 : (Utf8.encode (48 + ((m % 10 : Nat) : Int))).size ≤ 4 := enc_sz m
    have hwD : wrap64 D = D := by rw [hD]; exact wrap_nat _ (Nat.le_trans (Nat.mod_le m 10) (Nat.le_trans hm hN9))
    have hwQ : wrap64 Q = Q := by rw [hQ]; exact wrap_nat _ (Nat.le_trans hm10 hN9)
    rw [← hM, ← hD] at hr
    rw [← hM, ← hQ] at hq
    rw [← hD] at hw2 hw3 hsz2 HD2 hmeas
    rw [← hM]
    replace hM := Lib.hid hM
    replace hQ := Lib.hid hQ
    clear hD hc hm HDn HTxt HTk
    rcases hpos with h0 | h0
    ·have i7 := i5 h0
     clear i5 i6 hS0 h0
     go_wp2
     exact ⟨⟨m / 10, _, hm10, rfl, by rw [hwQ, hQ.out], trivial, HD2⟩, by have hh := hmeas.out; rw [hwQ, hQ.out, hM.out]; simp only [intOf, szV, Int.toNat_natCast] at hh ⊢; exact hh⟩
    ·have i7 := i6 h0
     have i8 := hS0 h0
     clear i5 i6 hS0 h0
     go_wp2
     exact ⟨⟨m / 10, _, hm10, rfl, by rw [hwQ, hQ.out], trivial, HD2⟩, by have hh := hmeas.out; rw [hwQ, hQ.out, hM.out]; simp only [intOf, szV, Int.toNat_natCast] at hh ⊢; exact hh⟩
   ·have hS0 : S.size ≠ 0 := by omega
    obtain rfl : m = 0 := by omega
    have i8 := isEmpty_no' hS0
    have hsz := HD.out.size hN9
    have e1 := Lib.hid (HDn.out S hS0 HD.out)
    have HTx := Lib.hid (HTxt.out S hsz)
    have HTkS := Lib.hid (HTk.out S)
    clear HDn HTxt HTk
    go_wp2_with (first
     | (go_at_call 193; refine (HTx.out _ (by assumption)).mono ?_; rintro e w5 ⟨rfl, hp5, hb5⟩)
     | (go_at_call 190; refine (HTkS.out _ hp5 hb5).mono ?_; rintro e w6 ⟨rfl, hp6, hb6⟩))
    go_ret
    rw [e0, e1.out]
    exact ⟨hb6, rfl, hp6⟩
 ·have heq : ((k : Int) == (n : Int)) = true := beq_iff_eq.2 (by omega)
  clear hT HCk
  go_enter Tryz.func178, Tryz.ntmps178
  go_upto_region 5 with (go_at_call 110; refine (HPr.out _ (by assumption)).mono ?_; rintro e w1 ⟨rfl, hb1⟩; have C1' := HC1.out _ hb1)
  go_wp2
  go_loopw [6, 7] (fun x y wr => ∃ (m : Nat) (S : ByteArray), m ≤ N ∧ x = .string S ∧ y = .int .i64 m ∧ wr = w1 ∧ Hid (DecI N m S)) (fun x y _ => 2 * (intOf y).toNat + (if szV x = 0 then 1 else 0))
  case atStart => exact ⟨N, ⟨#[]⟩, Nat.le_refl _, rfl, rfl, rfl, Lib.hid (.inl ⟨rfl, rfl⟩)⟩
  case round =>
   obtain ⟨m, S, hm, rfl, rfl, rfl, HD⟩ := hrel
   by_cases hc : 0 < m ∨ S.size = 0
   ·have hsz := HD.out.size hN9
    have hmeas := Lib.hid (dec_meas m S hc)
    have hpos : 0 < m ∨ m = 0 := by omega
    have hm10 : m / 10 ≤ N := by omega
    have hS0 : m = 0 → S.toList.isEmpty = true := fun h => isEmpty_yes (hc.resolve_left (by omega))
    obtain ⟨M, hM⟩ : ∃ M, M = (m : Int) := ⟨_, rfl⟩
    obtain ⟨D, hD⟩ : ∃ D, D = ((m % 10 : Nat) : Int) := ⟨_, rfl⟩
    obtain ⟨Q, hQ⟩ : ∃ Q, Q = ((m / 10 : Nat) : Int) := ⟨_, rfl⟩
    have i5 : 0 < m → decide (0 < M) = true := fun h => decide_eq_true (by omega)
    have i6 : m = 0 → decide (0 < M) = false := fun h => decide_eq_false (by omega)
    have hr := dec_rem m
    have hq := dec_quo m
    obtain ⟨hw2, hw3⟩ := wrap_dig (m % 10) (Nat.mod_lt _ (by decide))
    have HD2 := Lib.hid (HD.out.step hc)
    rw [← enc_mod] at HD2
    have hsz2 : (Utf8.encode (48 + ((m % 10 : Nat) : Int))).size ≤ 4 := enc_sz m
    have hwD : wrap64 D = D := by rw [hD]; exact wrap_nat _ (Nat.le_trans (Nat.mod_le m 10) (Nat.le_trans hm hN9))
    have hwQ : wrap64 Q = Q := by rw [hQ]; exact wrap_nat _ (Nat.le_trans hm10 hN9)
    rw [← hM, ← hD] at hr
    rw [← hM, ← hQ] at hq
    rw [← hD] at hw2 hw3 hsz2 HD2 hmeas
    rw [← hM]
    replace hM := Lib.hid hM
    replace hQ := Lib.hid hQ
    clear hD hc hm HDn HTxt HTk
    rcases hpos with h0 | h0
    ·have i7 := i5 h0
     clear i5 i6 hS0 h0
     go_wp2
     exact ⟨⟨m / 10, _, hm10, rfl, by rw [hwQ, hQ.out], trivial, HD2⟩, by have hh := hmeas.out; rw [hwQ, hQ.out, hM.out]; simp only [intOf, szV, Int.toNat_natCast] at hh ⊢; exact hh⟩
    ·have i7 := i6 h0
     have i8 := hS0 h0
     clear i5 i6 hS0 h0
     go_wp2
     exact ⟨⟨m / 10, _, hm10, rfl, by rw [hwQ, hQ.out], trivial, HD2⟩, by have hh := hmeas.out; rw [hwQ, hQ.out, hM.out]; simp only [intOf, szV, Int.toNat_natCast] at hh ⊢; exact hh⟩
   ·have hS0 : S.size ≠ 0 := by omega
    obtain rfl : m = 0 := by omega
    have i8 := isEmpty_no' hS0
    have hsz := HD.out.size hN9
    have e1 := Lib.hid (HDn.out S hS0 HD.out)
    have HTx := Lib.hid (HTxt.out S hsz)
    have HTkS := Lib.hid (HTk.out S)
    clear HDn HTxt HTk
    go_wp2_with (first
     | (go_at_call 193; refine (HTx.out _ (by assumption)).mono ?_; rintro e w5 ⟨rfl, hp5, hb5⟩)
     | (go_at_call 190; refine (HTkS.out _ hp5 hb5).mono ?_; rintro e w6 ⟨rfl, hp6, hb6⟩))
    go_ret
    rw [e0, e1.out]
    exact ⟨hb6, rfl, hp6⟩
end Go.Proofs.YtholajadbbdcmaaGreatDoor
namespace Go.Proofs.YtholajadbbdcmaaGreatDoor
open Go.RowKit
set_option maxRecDepth 20000
attribute [local irreducible] Utf8.encode
set_option maxHeartbeats 4000000 in
theorem amount_times (E : World) (p : Prs) (g nb : Nat) (w : World) (hE : PaE E g nb) (hEw : Below g E w) (h : PaS w g nb p) (hk : PaK p) (nn : Int) (k : Nat) (hp : prefixL p.words = some (nn, k)) (hneg : ¬ nn < 0) (hT : p.words[k]? = some bTimes) : Calls Tryz.prog 178 #[.pointer (some ⟨g, 0, none⟩)] w (PaR3 g nb p (amtL p) w) := by
 have hgl := h.lt
 have HPS := Lib.hid h
 have hb0 : Below w.heap.size w w := Below.refl _ _
 have hlen := hk.len
 have hout : p.out.length ≤ 1000000000 := by have h := hk.2.1; omega
 have hot : ∀ x ∈ p.out, x.text.size ≤ 4000000 := fun x hx => by have := hk.2.2 x hx; omega
 have HAdd : Hid (∀ (r : Nat) (times : Nat), isChN r → times ≤ 132 → ∀ w', Below w.heap.size w w' → Calls Tryz.prog 195 #[.pointer (some ⟨g, 0, none⟩), .int .i32 (r : Int), .int .i64 times] w' fun e w'' => e = .returned (.bool (addL p.out p.style (r : Int) times).1) ∧ PaS w'' g nb ⟨p.words, (addL p.out p.style (r : Int) times).2, p.style, false⟩ ∧ Below g w w'') := Lib.hid fun r times hr ht w' hw =>
  (add_ p r hr times ht hout hot g nb w' (h.below hw) fun w'' hb => hE.u8 ((hEw.trans (hw.mono (Nat.le_of_lt hgl))).trans hb)).mono fun e w'' ⟨h1, h2, h3, _⟩ => ⟨h1, h2, (hw.mono (Nat.le_of_lt hgl)).trans h3⟩
 have hs := hE.sp hEw
 obtain ⟨A, n, c, A2, c2, h1, h2, h3, h4, h5⟩ := h
 have C1 := h3.cell 1
 simp only [parC, List.getElem?_toArray, List.getElem?_cons_zero, List.getElem?_cons_succ] at C1
 have hn : p.words.length = n := by have := h4.1; simp [sv] at this; omega
 have HC1 : Hid (∀ w', Below w.heap.size w w' → w'.cell? ⟨g, 1, none⟩ = some (.slice A n c)) := Lib.hid fun w' hw => (hw.cell (show g < _ from hgl)).trans C1
 have HPr : Hid (∀ w', Below w.heap.size w w' → Calls Tryz.prog 110 #[.slice A n c] w' fun e w'' => e = .returned (preTriple (prefixL p.words)) ∧ Below w.heap.size w w'') := Lib.hid fun w' hw =>
  (prefix_ p.words A n c w' hn h1 h2 ((h4.below (hw.mono (Nat.le_of_lt hgl))).more (by have := hw.size; omega)) hk.sz).mono fun e w'' ⟨h1, h2⟩ => ⟨h1, hw.trans (h2.mono hw.size)⟩
 have HCh : Hid (∀ (k : Nat) A' N c', k ≤ n → N = n - k → N ≤ c' → c' ≤ maxLen → Rd w g 1 A' N (sv (p.words.drop k)) → ∀ w', Below w.heap.size w w' → Calls Tryz.prog 194 #[.slice A' N c'] w' fun e w'' => e = .returned (chwV (charW (p.words.drop k))) ∧ Below w.heap.size w w'') := Lib.hid fun k A' N c' hkn hN hc hm rd w' hw =>
  (character_ (p.words.drop k) A' N c' w' (by rw [List.length_drop]; omega) hc hm ((rd.below (hw.mono (Nat.le_of_lt hgl))).more (by have := hw.size; omega)) (fun s hs => hk.sz s (List.mem_of_mem_drop hs)) (hs.below hw (Nat.le_refl _))).mono fun e w'' ⟨h1, h2⟩ => ⟨h1, hw.trans (h2.mono hw.size)⟩
 obtain ⟨RES, hRES⟩ : ∃ x, x = amtL p := ⟨_, rfl⟩
 rw [← hRES]
 obtain ⟨hk0, hkl, hk15, hnum, _⟩ := prefixL_some hp
 obtain ⟨hn1, hn2, _⟩ := number_some hnum
 rw [hp] at HPr
 simp only [preTriple] at HPr
 have i1 : decide (nn < 0) = false := decide_eq_false hneg
 obtain ⟨N, hN⟩ : ∃ N : Nat, nn = (N : Int) := ⟨nn.toNat, by omega⟩
 subst hN
 have hN9 : N ≤ 999999999 := by omega
 have hn0 : 0 < n := by omega
 obtain ⟨b, o, hA, hbg, -⟩ := h4.2 hn0
 subst hA
 have HCk : Hid (∀ (hkn : k < n) w', Below w.heap.size w w' → w'.cell? ⟨b, o + k, none⟩ = some (.string (p.words[k]'(by omega)))) := Lib.hid fun hkn w' hw => by
  obtain ⟨b', o', e', _, hcd⟩ := h4.at_ hkn
  simp only [Option.some.injEq, Addr.mk.injEq, and_true] at e'
  obtain ⟨rfl, rfl⟩ := e'
  refine (hw.cell (by show b < _; omega)).trans (hcd.trans ?_)
  simp [sv, hn, hkn]
 have hkn : k < n := by
  rcases Nat.lt_or_ge k p.words.length with h | h
  ·omega
  ·rw [List.getElem?_eq_none h] at hT; cases hT
 have hck := Lib.hid (HCk.out hkn)
 have hwk : p.words[k]'(by omega) = bTimes := by
  rw [List.getElem?_eq_getElem (by omega)] at hT
  injection hT
 rw [hwk] at hck
 have qk : (bTimes.toList == [116, 105, 109, 101, 115]) = true := by decide +kernel
 have heq : ((k : Int) == (n : Int)) = false := beq_eq_false_iff_ne.2 (by omega)
 have hki : (k : Int) < n := by omega
 have hk0i : (0 : Int) ≤ k := by omega
 have hkn1 : k + 1 ≤ n := by omega
 have i2 : (k : Int) + 1 ≤ n := by omega
 have i3 : (k : Int) + 1 ≤ c := by omega
 have i1 : (0 : Int) ≤ (k : Int) + 1 := by omega
 have i4 : (k : Int) + 1 ≤ 16 := by omega
 have hRd := h4.cut (k := k + 1) hkn1 h1
 rw [show (sv p.words).drop ((k + 1) * 1) = sv (p.words.drop (k + 1)) by simp [sv]] at hRd
 simp only [Nat.mul_one, Option.map_some, add_none] at hRd
 have eT : RES = match charW (p.words.drop (k + 1)) with
   | none => none
   | some (r, m) => if 2 ≤ (N : Int) ∧ (N : Int) ≤ 132 ∧ (addL p.out p.style r N).1 = true then some ⟨p.words.drop (k + 1 + m), (addL p.out p.style r N).2, p.style, false⟩ else none := by
  rw [hRES]; unfold amtL; rw [hp]; simp only; rw [if_neg hneg, if_pos hT, Int.toNat_natCast]; cases charW (p.words.drop (k + 1)) <;> rfl
 have hc63 : c ≤ 9223372036854775807 := by unfold maxLen at h2; omega
 have hln1 : (p.words.drop (k + 1)).length = p.words.length - (k + 1) := List.length_drop
 clear hp h4 h5 hk hs hot hout hnum hn1 hn2 hneg hT HCk hwk hRES
 by_cases hck1 : c = k + 1
 ·rw [if_pos hck1] at hRd
  have HCx := Lib.hid (HCh.out (k + 1) (some ⟨b, o, none⟩) (n - (k + 1)) 0 hkn1 rfl (by omega) (by omega) hRd)
  have hnk : n - (k + 1) = 0 := by omega
  rw [hnk] at HCx
  have l0 : p.words.drop (k + 1) = [] := List.length_eq_zero_iff.1 (by omega)
  rw [l0, show charW [] = none from rfl] at HCx eT
  simp only [chwV] at HCx
  simp only at eT
  subst eT
  obtain rfl : n = k + 1 := by omega
  subst hck1
  clear HCh hRd hln1 HAdd hlen hn l0 h2 hk15 hkl hk0
  go_enter Tryz.func178, Tryz.ntmps178
  go_wp2_with (first | (go_at_call 110; refine (HPr.out _ (by assumption)).mono ?_; rintro e w1 ⟨rfl, hb1⟩; have C1' := HC1.out _ hb1; have ck1 := hck.out _ hb1) | (go_at_call 194; refine (HCx.out _ (by assumption)).mono ?_; rintro e w2 ⟨rfl, hb2⟩))
  go_ret
  exact ⟨hb2.mono (Nat.le_of_lt hgl), rfl, p, rfl, HPS.out.below hb2⟩
 ·rw [if_neg hck1] at hRd
  have HCx := Lib.hid (HCh.out (k + 1) (some ⟨b, o + (k + 1), none⟩) (n - (k + 1)) (c - (k + 1)) hkn1 rfl (by omega) (by omega) hRd)
  cases hcw : charW (p.words.drop (k + 1)) with
  | none =>
   rw [hcw] at HCx eT
   simp only [chwV] at HCx
   simp only at eT
   subst eT
   clear HCh hRd hln1 HAdd hlen hn hcw h2 hk15 hkl hk0
   go_enter Tryz.func178, Tryz.ntmps178
   go_wp2_with (first | (go_at_call 110; refine (HPr.out _ (by assumption)).mono ?_; rintro e w1 ⟨rfl, hb1⟩; have C1' := HC1.out _ hb1; have ck1 := hck.out _ hb1) | (go_at_call 194; refine (HCx.out _ (by assumption)).mono ?_; rintro e w2 ⟨rfl, hb2⟩))
   go_ret
   exact ⟨hb2.mono (Nat.le_of_lt hgl), rfl, p, rfl, HPS.out.below hb2⟩
  | some x =>
   obtain ⟨r, m⟩ := x
   obtain ⟨rr, rfl, hrr⟩ := charW_ch hcw
   obtain ⟨hm0, hml⟩ := charW_len hcw
   rw [hcw] at HCx eT
   simp only [chwV] at HCx
   simp only at eT
   have em : ((m : Int) == 0) = false := beq_eq_false_iff_ne.2 (by omega)
   have hm5 : m ≤ 500000 := by omega
   by_cases h2N : N < 2
   ·rw [if_neg (by omega)] at eT
    subst eT
    have i7 : decide ((N : Int) < 2) = true := decide_eq_true (by omega)
    clear HCh hRd hln1 HAdd hlen hn hcw h2 hm0 hml h2N hN9 hrr hk15 hkl hk0
    generalize (N : Int) = NI at *
    generalize (rr : Int) = RR at *
    go_enter Tryz.func178, Tryz.ntmps178
    go_wp2_with (first | (go_at_call 110; refine (HPr.out _ (by assumption)).mono ?_; rintro e w1 ⟨rfl, hb1⟩; have C1' := HC1.out _ hb1; have ck1 := hck.out _ hb1) | (go_at_call 194; refine (HCx.out _ (by assumption)).mono ?_; rintro e w2 ⟨rfl, hb2⟩))
    go_ret
    exact ⟨hb2.mono (Nat.le_of_lt hgl), rfl, p, rfl, HPS.out.below hb2⟩
   ·have i7 : decide ((N : Int) < 2) = false := decide_eq_false (by omega)
    by_cases h3N : 132 < N
    ·rw [if_neg (by omega)] at eT
     subst eT
     have i8 : decide (132 < (N : Int)) = true := decide_eq_true (by omega)
     clear HCh hRd hln1 HAdd hlen hn hcw h2 hm0 hml h2N h3N hN9 hrr hk15 hkl hk0
     generalize (N : Int) = NI at *
     generalize (rr : Int) = RR at *
     go_enter Tryz.func178, Tryz.ntmps178
     go_wp2_with (first | (go_at_call 110; refine (HPr.out _ (by assumption)).mono ?_; rintro e w1 ⟨rfl, hb1⟩; have C1' := HC1.out _ hb1; have ck1 := hck.out _ hb1) | (go_at_call 194; refine (HCx.out _ (by assumption)).mono ?_; rintro e w2 ⟨rfl, hb2⟩))
     go_ret
     exact ⟨hb2.mono (Nat.le_of_lt hgl), rfl, p, rfl, HPS.out.below hb2⟩
    ·have i8 : decide (132 < (N : Int)) = false := decide_eq_false (by omega)
     have HAd := Lib.hid (HAdd.out rr N hrr (by omega))
     have hkm : k + 1 + m ≤ p.words.length := by omega
     have HTk := Lib.hid (fun w' (hp : PaS w' g nb ⟨p.words, (addL p.out p.style (rr : Int) N).2, p.style, false⟩) (hb : Below g w w') => take_r hp (k + 1 + m) hkm hb)
     rw [show (((k + 1 + m : Nat)) : Int) = (k : Int) + 1 + (m : Int) by omega] at HTk
     generalize addL p.out p.style (rr : Int) N = AL at *
     obtain ⟨ok, O'⟩ := AL
     dsimp only at *
     cases ok with
     | false =>
      rw [if_neg (by simp)] at eT
      subst eT
      clear HCh hRd hln1 HAdd hlen hn hcw h2 hm0 hml h2N h3N hN9 hrr HTk hkm hk15 hkl hk0
      generalize (N : Int) = NI at *
      generalize (rr : Int) = RR at *
      go_enter Tryz.func178, Tryz.ntmps178
      go_wp2_with (first | (go_at_call 110; refine (HPr.out _ (by assumption)).mono ?_; rintro e w1 ⟨rfl, hb1⟩; have C1' := HC1.out _ hb1; have ck1 := hck.out _ hb1) | (go_at_call 194; refine (HCx.out _ (by assumption)).mono ?_; rintro e w2 ⟨rfl, hb2⟩) | (go_at_call 195; refine (HAd.out _ (by assumption)).mono ?_; rintro e w3 ⟨rfl, hp3, hb3⟩))
      go_ret
      exact ⟨hb3, rfl, ⟨p.words, O', p.style, false⟩, rfl, hp3⟩
     | true =>
      rw [if_pos ⟨by omega, by omega, rfl⟩] at eT
      subst eT
      clear HCh hRd hln1 HAdd hlen hn hcw h2 hm0 hml h2N h3N hN9 hrr hkm hk15 hkl hk0
      generalize (N : Int) = NI at *
      generalize (rr : Int) = RR at *
      go_enter Tryz.func178, Tryz.ntmps178
      go_wp2_with (first | (go_at_call 110; refine (HPr.out _ (by assumption)).mono ?_; rintro e w1 ⟨rfl, hb1⟩; have C1' := HC1.out _ hb1; have ck1 := hck.out _ hb1) | (go_at_call 194; refine (HCx.out _ (by assumption)).mono ?_; rintro e w2 ⟨rfl, hb2⟩) | (go_at_call 195; refine (HAd.out _ (by assumption)).mono ?_; rintro e w3 ⟨rfl, hp3, hb3⟩) | (go_at_call 190; refine (HTk.out _ hp3 hb3).mono ?_; rintro e w6 ⟨rfl, hp6, hb6⟩))
      go_ret
      exact ⟨hb6, rfl, hp6⟩
end Go.Proofs.YtholajadbbdcmaaGreatDoor
namespace Go.Proofs.YtholajadbbdcmaaGreatDoor
open Go.RowKit
theorem amount_ (E : World) (p : Prs) (g nb : Nat) (w : World) (hE : PaE E g nb) (hEw : Below g E w) (h : PaS w g nb p) (hk : PaK p) : Calls Tryz.prog 178 #[.pointer (some ⟨g, 0, none⟩)] w (PaR3 g nb p (amtL p) w) := by
 cases hp : prefixL p.words with
 | none =>
  have e0 : amtL p = none := by unfold amtL; rw [hp]
  rw [e0]
  exact (amount_no p g nb w h hk.sz hk.len hp).mono fun e w' ⟨h1, h2, h3⟩ => ⟨h1, h2, p, rfl, h3⟩
 | some x =>
  obtain ⟨nn, k⟩ := x
  by_cases hneg : nn < 0
  ·exact amount_neg E p g nb w hE hEw h hk nn k hp hneg
  ·by_cases hT : p.words[k]? = some bTimes
   ·exact amount_times E p g nb w hE hEw h hk nn k hp hneg hT
   ·exact amount_dec E p g nb w hE hEw h hk nn k hp hneg hT
end Go.Proofs.YtholajadbbdcmaaGreatDoor
