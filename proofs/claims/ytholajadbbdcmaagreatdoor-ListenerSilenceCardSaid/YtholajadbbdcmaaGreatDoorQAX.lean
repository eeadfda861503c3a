/- Joined texts: Pa6, PaA, Pa7. -/
import Derived.Test.YtholajadbbdcmaaGreatDoorQAA
import Derived.Test.YtholajadbbdcmaaGreatDoorQAB
import Derived.Test.YtholajadbbdcmaaGreatDoorQAC
import Derived.Test.YtholajadbbdcmaaGreatDoorQAD
import Derived.Test.YtholajadbbdcmaaGreatDoorQAE
import Derived.Test.YtholajadbbdcmaaGreatDoorQAF
import Derived.Test.YtholajadbbdcmaaGreatDoorQAG
import Derived.Test.YtholajadbbdcmaaGreatDoorQAH
import Derived.Test.YtholajadbbdcmaaGreatDoorQAI
import Derived.Test.YtholajadbbdcmaaGreatDoorQAL
import Derived.Test.YtholajadbbdcmaaGreatDoorQAM
import Derived.Test.YtholajadbbdcmaaGreatDoorQAN
import Derived.Test.YtholajadbbdcmaaGreatDoorQAQ
import Derived.Test.YtholajadbbdcmaaGreatDoorQAS
import Derived.Test.YtholajadbbdcmaaGreatDoorQAU
import Derived.Test.YtholajadbbdcmaaGreatDoorQAV
set_option linter.unusedVariables false
set_option linter.unusedSimpArgs false
set_option linter.unnecessarySimpa false
namespace Go.Proofs.YtholajadbbdcmaaGreatDoor
open Go.RowKit
set_option maxRecDepth 20000
theorem next_r {p : Prs} {g nb : Nat} {w w' : World} (h : PaS w g nb p) (hw : Below w.heap.size w w') : Calls Tryz.prog 189 #[.pointer (some ⟨g, 0, none⟩)] w' fun e w'' => e = .returned (.string (p.words.headD ⟨#[]⟩)) ∧ Below w.heap.size w w'' :=
 (next_ p g nb w' (h.below hw)).mono fun e w'' ⟨h1, h2⟩ => ⟨h1, hw.trans (h2.mono hw.size)⟩
theorem text_r {p : Prs} {g nb : Nat} {w w' : World} (h : PaS w g nb p) (ho : p.out.length ≤ 1000000000) (s : ByteArray) (hs : s.size ≤ 1000000) (hw : Below w.heap.size w w') :
  Calls Tryz.prog 193 #[.pointer (some ⟨g, 0, none⟩), .string s] w' fun e w'' => e = .returned (.tuple #[]) ∧ PaS w'' g nb ⟨p.words, p.out ++ textG p.joins p.style s, p.style, true⟩ ∧ Below g w w'' :=
 (text_ p s hs ho g nb w' (h.below hw)).mono fun e w'' ⟨h1, h2, h3⟩ => ⟨h1, h2, (hw.mono (Nat.le_of_lt h.lt)).trans h3⟩
theorem take_r {q : Prs} {g nb : Nat} {w w' : World} (hq : PaS w' g nb q) (k : Nat) (hk : k ≤ q.words.length) (hb : Below g w w') :
  Calls Tryz.prog 190 #[.pointer (some ⟨g, 0, none⟩), .int .i64 k] w' fun e w'' => e = .returned (.tuple #[]) ∧ PaS w'' g nb ⟨q.words.drop k, q.out, q.style, q.joins⟩ ∧ Below g w w'' :=
 (take_ q k hk g nb w' hq).mono fun e w'' ⟨h1, h2, h3⟩ => ⟨h1, h2, hb.trans h3⟩
theorem dgW_some {x : ByteArray} {d : Nat} (h : dgW x = some d) : d < 10 ∧ x = wb d := by
 unfold dgW at h
 have h1 := List.find?_some h
 have h2 := List.mem_of_find?_eq_some h
 simp at h1 h2
 exact ⟨h2, h1.symm⟩
theorem num_dg {x : ByteArray} {d : Nat} (h : dgW x = some d) : d < 10 ∧ numberL [x] = some (d : Int) := by
 obtain ⟨h1, rfl⟩ := dgW_some h
 have : ∀ d : Fin 10, numberL [wb d.val] = some (d.val : Int) := by decide +kernel
 exact ⟨h1, this ⟨d, h1⟩⟩
theorem num_no {x : ByteArray} (h : dgW x = none) : numberL [x] = none ∨ ∃ n, numberL [x] = some n ∧ (n < 0 ∨ 9 < n) := by
 cases hn : numberL [x] with
 | none => exact .inl rfl
 | some n =>
  refine .inr ⟨n, rfl, ?_⟩
  obtain ⟨_, _, a3, _⟩ := number_some hn
  rcases Int.lt_or_le n 0 with h0 | h0
  ·exact .inl h0
  ·rcases Int.lt_or_le 9 n with h9 | h9
   ·exact .inr h9
   ·exfalso
    have : ∀ d : Fin 10, (wordsL ((d.val : Nat) : Int)).map wb = [wb d.val] ∧ dgW (wb d.val) = some d.val := by decide +kernel
    obtain ⟨b1, b2⟩ := this ⟨n.toNat, by omega⟩
    simp only at b1 b2
    rw [Int.toNat_of_nonneg h0, a3] at b1
    injection b1 with b1
    rw [b1, b2] at h
    cases h
def digA (t : List ByteArray) (j : Nat) : List Nat := (t.take j).map fun s => (dgW s).getD 0
theorem digA_size {t : List ByteArray} {j : Nat} (hj : j ≤ t.length) : (dgStr (digA t j)).size = j := by
 unfold dgStr digA
 show (List.toArray _).size = _
 rw [List.size_toArray, List.length_map, List.length_map, List.length_take]
 omega
theorem digA_snoc {t : List ByteArray} {j d : Nat} (h : j < t.length) (hd : dgW t[j] = some d) : dgStr (digA t (j + 1)) = dgStr (digA t j) ++ ⟨#[UInt8.ofNat (48 + d)]⟩ := by
 unfold dgStr digA
 apply ByteArray.ext
 rw [ByteArray.data_append]
 apply Array.toList_inj.1
 rw [(List.take_append_getElem h).symm, List.map_append, List.map_append]
 simp [hd]
theorem fig_stop {t : List ByteArray} {j : Nat} (hj : j ≤ t.length) (h : ∀ k (hk : k < t.length), k < j → (dgW t[k]).isSome = true) (hs : ∀ hk : j < t.length, dgW t[j] = none) : dgsL t = digA t j := by
 unfold dgsL digA
 rw [take_while hj h fun hk => by rw [hs hk]; rfl]
theorem enc_dig (d : Nat) (hd : d < 10) : Utf8.encode (48 + (d : Int)) = ⟨#[UInt8.ofNat (48 + d)]⟩ := by
 have : ∀ d : Fin 10, Utf8.encode (48 + ((d.val : Nat) : Int)) = ⟨#[UInt8.ofNat (48 + d.val)]⟩ := by decide +kernel
 exact this ⟨d, hd⟩
theorem wrap_dig (d : Nat) (hd : d < 10) : wrap64 (48 + (d : Int)) = 48 + (d : Int) ∧ IntKind.i32.wrap (48 + (d : Int)) = 48 + (d : Int) := by
 refine ⟨by unfold wrap64; omega, by rw [IntKind.wrap_i32]; omega⟩
theorem wrap_two (j : Nat) (hj : j ≤ 500000) : wrap64 ((j : Int) + 1 + 1) = (j : Int) + 1 + 1 := by unfold wrap64; omega
set_option maxHeartbeats 2000000 in
theorem figures_ (p : Prs) (g nb : Nat) (w : World) (h : PaS w g nb p) (hk : PaK p) : Calls Tryz.prog 176 #[.pointer (some ⟨g, 0, none⟩)] w (PaR g nb p (figL p) w) := by
 have hgl := h.lt
 have HPS := Lib.hid h
 have hb0 : Below w.heap.size w w := Below.refl _ _
 have HN := Lib.hid (fun w' (hw : Below w.heap.size w w') => next_r h hw)
 obtain ⟨A, n, c, A2, c2, h1, h2, h3, h4, h5⟩ := h
 have C1 := h3.cell 1
 simp only [parC, List.getElem?_toArray, List.getElem?_cons_zero, List.getElem?_cons_succ] at C1
 have hn : p.words.length = n := by have := h4.1; simp [sv] at this; omega
 have hlen := hk.len
 have hc63 : c ≤ 9223372036854775807 := by unfold maxLen at h2; omega
 have HC1 : Hid (∀ w', Below w.heap.size w w' → w'.cell? ⟨g, 1, none⟩ = some (.slice A n c)) := Lib.hid fun w' hw => (hw.cell (show g < _ from hgl)).trans C1
 have q1 := strq (a := p.words.headD ⟨#[]⟩) (b := bDigits) (l := [100, 105, 103, 105, 116, 115]) rfl
 obtain ⟨W, O, st, J⟩ := p
 dsimp only at *
 by_cases hd : W.headD ⟨#[]⟩ = bDigits
 ·rw [decide_eq_true hd] at q1
  cases W with
  | nil => exact absurd hd (by decide +kernel)
  | cons a t =>
   rw [List.headD_cons] at hd q1 HN
   have hn1 : 0 < n := by rw [← hn]; simp
   obtain ⟨b, o, hA, hbg, -⟩ := h4.2 hn1
   subst hA
   obtain ⟨RES, hRES⟩ : ∃ x, x = figL ⟨a :: t, O, st, J⟩ := ⟨_, rfl⟩
   rw [← hRES]
   have HF : Hid (∀ j, j ≤ t.length → (∀ k (hk : k < t.length), k < j → (dgW t[k]).isSome = true) → (∀ hk : j < t.length, dgW t[j] = none) → RES = if j = 0 then none else some ⟨(a :: t).drop (j + 1), O ++ textG J st (dgStr (digA t j)), st, true⟩) := Lib.hid fun j h1 h2 h3 => by
    rw [hRES]
    unfold figL
    simp only
    rw [fig_stop h1 h2 h3]
    have hz : (digA t j).length = j := by unfold digA; rw [List.length_map, List.length_take]; omega
    by_cases h0 : j = 0
    ·rw [if_pos h0, if_neg]
     rintro ⟨_, hne⟩
     exact hne (List.length_eq_zero_iff.1 (by omega))
    ·rw [if_neg h0, if_pos ⟨hd, fun e => h0 (by rw [e] at hz; exact hz.symm)⟩, hz, Nat.add_comm]
     rfl
   have HS : Hid (∀ j (h : j < t.length) w', Below w.heap.size w w' → Calls Tryz.prog 133 #[.slice (some ⟨b, o + (j + 1), none⟩) 1 (c - (j + 1))] w' fun e w'' => e = .returned (numPair (numberL [t[j]])) ∧ Below w.heap.size w w'') := Lib.hid fun j hj w' hw => by
    have hjn : j + 1 < n := by rw [← hn]; simpa using hj
    have rdx : Rd w' w'.heap.size 1 (some ⟨b, o + (j + 1), none⟩) 1 (sv [t[j]]) := Rd.some_ (by simp [sv]) (by have := hw.size; omega) fun i u hi => by
     have : i = 0 := by
      have : i < 1 := by
       rcases Nat.lt_or_ge i 1 with h | h
       ·exact h
       ·rw [List.getElem?_eq_none (by simpa [sv] using h)] at hi; cases hi
      omega
     subst this
     obtain ⟨b', o', e', _, hcd⟩ := h4.at_ hjn
     simp only [Option.some.injEq, Addr.mk.injEq, and_true] at e'
     obtain ⟨rfl, rfl⟩ := e'
     refine (hw.cell (by show b < _; omega)).trans (hcd.trans ?_)
     simp [sv, hj] at hi ⊢
     exact hi
    exact (number_long [t[j]] _ _ w' rdx (by simp) (by simp) (fun s hs => by
     rw [List.mem_singleton] at hs
     subst hs
     exact Nat.le_trans (hk.1 _ (List.mem_cons_of_mem _ (List.getElem_mem hj))) (by decide))).mono fun e w'' ⟨h1, h2⟩ => ⟨h1, hw.trans (h2.mono hw.size)⟩
   have hol : O.length ≤ 1000000000 := by have h := hk.2.1; dsimp only at h; omega
   have ht : Hid (t.length + 1 = n) := Lib.hid (by simpa using hn)
   have hK := hlen
   have htl : Hid (t.length ≤ 500000) := Lib.hid (by rw [List.length_cons] at hlen; omega)
   clear h2 h3 h4 h5 hk hn hlen hd hRES hK
   have hK := trivial
   go_enter Tryz.func176, Tryz.ntmps176
   go_wp2_with (go_at_call 189; refine (HN.out _ (by assumption)).mono ?_; rintro e w1 ⟨rfl, hb1⟩; have C1' := HC1.out _ hb1)
   clear q1 C1 C1' hb0
   go_loopw [3, 4] (fun x y wr => ∃ j : Nat, j ≤ t.length ∧ y = .int .i64 (j + 1 : Nat) ∧ x = .string (dgStr (digA t j)) ∧ Below w.heap.size w wr ∧ Hid (∀ k (hk : k < t.length), k < j → (dgW t[k]).isSome = true)) (fun _ y _ => n - (intOf y).toNat)
   case atStart => exact ⟨0, Nat.zero_le _, rfl, rfl, hb1, Lib.hid fun k hk h => absurd h (Nat.not_lt_zero k)⟩
   case round =>
    clear hb1
    obtain ⟨j, hj, rfl, rfl, hbel, HA⟩ := hrel
    have C1' := HC1.out _ hbel
    by_cases hlt : j < t.length
    ·have hjn : j + 1 < n := by have := ht.out; omega
     have HSj := Lib.hid (HS.out j hlt)
     have hw1 := wrap_two j (Nat.le_trans hj htl.out)
     have i1 : (0 : Int) ≤ (j : Int) + 1 + 1 := by omega
     have i2 : (j : Int) + 1 + 1 ≤ n := by omega
     have i3 : (j : Int) + 1 + 1 ≤ c := by omega
     cases hdg : dgW t[j] with
     | some d =>
      obtain ⟨hd10, hnum⟩ := num_dg hdg
      rw [hnum] at HSj
      simp only [numPair] at HSj
      have HA2 : Hid (∀ k (hk : k < t.length), k < j + 1 → (dgW t[k]).isSome = true) := Lib.hid fun k hk hkj => by
       rcases Nat.lt_or_ge k j with h' | h'
       ·exact HA.out k hk h'
       ·obtain rfl : k = j := by omega
        rw [hdg]
        rfl
      have HDn := Lib.hid (digA_snoc hlt hdg)
      have henc := Lib.hid (enc_dig d hd10)
      have i4 : decide ((d : Int) < 0) = false := decide_eq_false (by omega)
      have i5 : decide (9 < (d : Int)) = false := decide_eq_false (by omega)
      obtain ⟨hw2, hw3⟩ := wrap_dig d hd10
      clear HA HF HS hdg hnum
      have hsz1 : (dgStr (digA t j)).size ≤ 500000 := by rw [digA_size hj]; exact Nat.le_trans hj htl.out
      have hsz2 : (Utf8.encode (48 + (d : Int))).size ≤ 4 := by rw [henc.out]; show 1 ≤ 4; omega
      rw [← henc.out] at HDn
      clear henc hd10
      generalize dgStr (digA t j) = DS at *
      generalize (d : Int) = m at *
      go_wp2_with (go_at_call 133; refine (HSj.out _ (by assumption)).mono ?_; rintro e w3 ⟨rfl, hb3⟩)
      exact ⟨⟨j + 1, by omega, by go_num, by rw [HDn.out], hb3, HA2⟩, by simp only [intOf]; omega⟩
     | none =>
      have hstop : ∀ hk : j < t.length, dgW t[j] = none := fun _ => hdg
      rcases num_no hdg with hnum | ⟨m, hnum, hm⟩
      ·rw [hnum] at HSj
       simp only [numPair] at HSj
       by_cases h0 : j = 0
       ·have he : (dgStr (digA t j)).toList.isEmpty = true := by rw [h0, ByteArray.toList_eq]; rfl
        have hF2 : Hid (RES = none) := Lib.hid (by rw [HF.out j hj HA.out hstop, if_pos h0])
        clear HF HA HS h0
        generalize dgStr (digA t j) = DS at *
        go_wp2_with (go_at_call 133; refine (HSj.out _ (by assumption)).mono ?_; rintro e w3 ⟨rfl, hb3⟩)
        go_ret
        rw [hF2.out]
        exact ⟨hb3.mono (Nat.le_of_lt hgl), rfl, HPS.out.below hb3, hb3⟩
       ·have he : (dgStr (digA t j)).toList.isEmpty = false := isEmpty_no' (by rw [digA_size hj]; exact h0)
        have hF2 : Hid (RES = some ⟨(a :: t).drop (j + 1), O ++ textG J st (dgStr (digA t j)), st, true⟩) := Lib.hid (by rw [HF.out j hj HA.out hstop, if_neg h0])
        clear h0
        have hds : (dgStr (digA t j)).size ≤ 1000000 := by rw [digA_size hj]; exact Nat.le_trans hj (Nat.le_trans htl.out (by decide))
        have HTx := Lib.hid (fun w' (hw : Below w.heap.size w w') => text_r HPS.out hol _ hds hw)
        have HTk := Lib.hid (fun w' (hp : PaS w' g nb ⟨a :: t, O ++ textG J st (dgStr (digA t j)), st, true⟩) (hb : Below g w w') => take_r hp (j + 1) (Nat.succ_le_succ hj) hb)
        clear HF HA HS
        generalize dgStr (digA t j) = DS at *
        go_wp2_with (first
         | (go_at_call 133; refine (HSj.out _ (by assumption)).mono ?_; rintro e w3 ⟨rfl, hb3⟩)
         | (go_at_call 193; refine (HTx.out _ (by assumption)).mono ?_; rintro e w5 ⟨rfl, hp5, hb5⟩)
         | (go_at_call 190; refine (HTk.out _ hp5 hb5).mono ?_; rintro e w6 ⟨rfl, hp6, hb6⟩))
        go_ret
        rw [hF2.out]
        exact ⟨hb6, rfl, hp6⟩
      ·rw [hnum] at HSj
       simp only [numPair] at HSj
       rcases hm with hm | hm
       ·have i4 : decide (m < 0) = true := decide_eq_true hm
        by_cases h0 : j = 0
        ·have he : (dgStr (digA t j)).toList.isEmpty = true := by rw [h0, ByteArray.toList_eq]; rfl
         have hF2 : Hid (RES = none) := Lib.hid (by rw [HF.out j hj HA.out hstop, if_pos h0])
         clear HF HA HS h0
         generalize dgStr (digA t j) = DS at *
         go_wp2_with (go_at_call 133; refine (HSj.out _ (by assumption)).mono ?_; rintro e w3 ⟨rfl, hb3⟩)
         go_ret
         rw [hF2.out]
         exact ⟨hb3.mono (Nat.le_of_lt hgl), rfl, HPS.out.below hb3, hb3⟩
        ·have he : (dgStr (digA t j)).toList.isEmpty = false := isEmpty_no' (by rw [digA_size hj]; exact h0)
         have hF2 : Hid (RES = some ⟨(a :: t).drop (j + 1), O ++ textG J st (dgStr (digA t j)), st, true⟩) := Lib.hid (by rw [HF.out j hj HA.out hstop, if_neg h0])
         clear h0
         have hds : (dgStr (digA t j)).size ≤ 1000000 := by rw [digA_size hj]; exact Nat.le_trans hj (Nat.le_trans htl.out (by decide))
         have HTx := Lib.hid (fun w' (hw : Below w.heap.size w w') => text_r HPS.out hol _ hds hw)
         have HTk := Lib.hid (fun w' (hp : PaS w' g nb ⟨a :: t, O ++ textG J st (dgStr (digA t j)), st, true⟩) (hb : Below g w w') => take_r hp (j + 1) (Nat.succ_le_succ hj) hb)
         clear HF HA HS
         generalize dgStr (digA t j) = DS at *
         go_wp2_with (first
          | (go_at_call 133; refine (HSj.out _ (by assumption)).mono ?_; rintro e w3 ⟨rfl, hb3⟩)
          | (go_at_call 193; refine (HTx.out _ (by assumption)).mono ?_; rintro e w5 ⟨rfl, hp5, hb5⟩)
          | (go_at_call 190; refine (HTk.out _ hp5 hb5).mono ?_; rintro e w6 ⟨rfl, hp6, hb6⟩))
         go_ret
         rw [hF2.out]
         exact ⟨hb6, rfl, hp6⟩
       ·have i4 : decide (m < 0) = false := decide_eq_false (by omega)
        have i5 : decide (9 < m) = true := decide_eq_true hm
        by_cases h0 : j = 0
        ·have he : (dgStr (digA t j)).toList.isEmpty = true := by rw [h0, ByteArray.toList_eq]; rfl
         have hF2 : Hid (RES = none) := Lib.hid (by rw [HF.out j hj HA.out hstop, if_pos h0])
         clear HF HA HS h0
         generalize dgStr (digA t j) = DS at *
         go_wp2_with (go_at_call 133; refine (HSj.out _ (by assumption)).mono ?_; rintro e w3 ⟨rfl, hb3⟩)
         go_ret
         rw [hF2.out]
         exact ⟨hb3.mono (Nat.le_of_lt hgl), rfl, HPS.out.below hb3, hb3⟩
        ·have he : (dgStr (digA t j)).toList.isEmpty = false := isEmpty_no' (by rw [digA_size hj]; exact h0)
         have hF2 : Hid (RES = some ⟨(a :: t).drop (j + 1), O ++ textG J st (dgStr (digA t j)), st, true⟩) := Lib.hid (by rw [HF.out j hj HA.out hstop, if_neg h0])
         clear h0
         have hds : (dgStr (digA t j)).size ≤ 1000000 := by rw [digA_size hj]; exact Nat.le_trans hj (Nat.le_trans htl.out (by decide))
         have HTx := Lib.hid (fun w' (hw : Below w.heap.size w w') => text_r HPS.out hol _ hds hw)
         have HTk := Lib.hid (fun w' (hp : PaS w' g nb ⟨a :: t, O ++ textG J st (dgStr (digA t j)), st, true⟩) (hb : Below g w w') => take_r hp (j + 1) (Nat.succ_le_succ hj) hb)
         clear HF HA HS
         generalize dgStr (digA t j) = DS at *
         go_wp2_with (first
          | (go_at_call 133; refine (HSj.out _ (by assumption)).mono ?_; rintro e w3 ⟨rfl, hb3⟩)
          | (go_at_call 193; refine (HTx.out _ (by assumption)).mono ?_; rintro e w5 ⟨rfl, hp5, hb5⟩)
          | (go_at_call 190; refine (HTk.out _ hp5 hb5).mono ?_; rintro e w6 ⟨rfl, hp6, hb6⟩))
         go_ret
         rw [hF2.out]
         exact ⟨hb6, rfl, hp6⟩
    ·have hjn : ¬ j + 1 < n := by have := ht.out; omega
     have hstop : ∀ hk : j < t.length, dgW t[j] = none := fun hk => absurd hk hlt
     by_cases h0 : j = 0
     ·have he : (dgStr (digA t j)).toList.isEmpty = true := by rw [h0, ByteArray.toList_eq]; rfl
      have hF2 : Hid (RES = none) := Lib.hid (by rw [HF.out j hj HA.out hstop, if_pos h0])
      clear HF HA HS h0
      generalize dgStr (digA t j) = DS at *
      go_wp2_with fail
      go_ret
      rw [hF2.out]
      exact ⟨hbel.mono (Nat.le_of_lt hgl), rfl, HPS.out.below hbel, hbel⟩
     ·have he : (dgStr (digA t j)).toList.isEmpty = false := isEmpty_no' (by rw [digA_size hj]; exact h0)
      have hF2 : Hid (RES = some ⟨(a :: t).drop (j + 1), O ++ textG J st (dgStr (digA t j)), st, true⟩) := Lib.hid (by rw [HF.out j hj HA.out hstop, if_neg h0])
      clear h0
      have hds : (dgStr (digA t j)).size ≤ 1000000 := by rw [digA_size hj]; exact Nat.le_trans hj (Nat.le_trans htl.out (by decide))
      have HTx := Lib.hid (fun w' (hw : Below w.heap.size w w') => text_r HPS.out hol _ hds hw)
      have HTk := Lib.hid (fun w' (hp : PaS w' g nb ⟨a :: t, O ++ textG J st (dgStr (digA t j)), st, true⟩) (hb : Below g w w') => take_r hp (j + 1) (Nat.succ_le_succ hj) hb)
      clear HF HA HS
      generalize dgStr (digA t j) = DS at *
      go_wp2_with (first
       | fail
       | (go_at_call 193; refine (HTx.out _ (by assumption)).mono ?_; rintro e w5 ⟨rfl, hp5, hb5⟩)
       | (go_at_call 190; refine (HTk.out _ hp5 hb5).mono ?_; rintro e w6 ⟨rfl, hp6, hb6⟩))
      go_ret
      rw [hF2.out]
      exact ⟨hb6, rfl, hp6⟩
 ·rw [decide_eq_false hd] at q1
  have e0 : figL ⟨W, O, st, J⟩ = none := by
   unfold figL
   split
   ·rfl
   ·rename_i a t hw
    dsimp only at hw
    rw [hw, List.headD_cons] at hd
    rw [if_neg fun h => hd h.1]
  rw [e0]
  clear h2 h3 h4 h5 hk hn hlen hd e0
  generalize W.headD ⟨#[]⟩ = nx at *
  go_enter Tryz.func176, Tryz.ntmps176
  go_wp2_with (go_at_call 189; refine (HN.out _ (by assumption)).mono ?_; rintro e w1 ⟨rfl, hb1⟩)
  go_ret
  exact ⟨hb1.mono (Nat.le_of_lt hgl), rfl, HPS.out.below hb1, hb1⟩
def styI (o : Option Nat) : Int := match o with
 | some i => (i : Int)
 | none => -1
theorem sty_at {s : ByteArray} {j : Nat} (hj : j < 4) (h : ∀ i, i < j → styB i ≠ s) (he : styB j = s) : styIdx s = some j := by
 subst he
 have : ∀ j : Fin 4, styIdx (styB j.val) = some j.val := by decide +kernel
 exact this ⟨j, hj⟩
theorem sty_out {s : ByteArray} (h : ∀ i, i < 4 → styB i ≠ s) : styIdx s = none := by
 unfold styIdx
 rw [List.find?_eq_none]
 intro i hi
 simp at hi
 simpa using h i hi
set_option maxHeartbeats 1000000 in
theorem index_sty (s : ByteArray) (w : World) (hSt : Sty w) : Calls Tryz.prog 188 #[.slice (some ⟨6, 0, none⟩) 4 4, .string s] w (Gives (.int .i64 (styI (styIdx s))) w) := by
 have HA : Hid (∀ j, j < 4 → (∀ i, i < j → styB i ≠ s) → styB j = s → styIdx s = some j) := Lib.hid fun j h1 h2 h3 => sty_at h1 h2 h3
 have HO : Hid ((∀ i, i < 4 → styB i ≠ s) → styIdx s = none) := Lib.hid sty_out
 have HC : Hid (∀ (j : Nat) (w' : World), j < 4 → Below w.heap.size w w' → w'.cell? ⟨6, j, none⟩ = some (.string (styB j))) := Lib.hid fun j w' hj hw => hSt.below hw (Nat.le_refl _) j hj
 generalize styIdx s = R at *
 clear hSt
 go_enter Tryz.func188, Tryz.ntmps188
 go_wp2
 go_loopw [8] (fun x wr => ∃ j : Nat, j ≤ 4 ∧ x = .int .i64 j ∧ Below w.heap.size w wr ∧ Hid (∀ i, i < j → styB i ≠ s)) (fun x _ => 4 - (intOf x).toNat)
 case atStart => exact ⟨0, Nat.zero_le _, rfl, Below.refl _ _, Lib.hid fun i hi => absurd hi (Nat.not_lt_zero i)⟩
 case round =>
  obtain ⟨j, hj, rfl, hbel, HI⟩ := hrel
  by_cases hlt : j < 4
  ·have hc := HC.out j wr hlt hbel
   have hq := str_beq s (styB j)
   have hj0 : (j : Int) < 4 := by omega
   by_cases he : styB j = s
   ·have hR := Lib.hid (HA.out j hlt HI.out he)
    rw [decide_eq_true he.symm] at hq
    clear HA HO HI HC he
    generalize styB j = sj at *
    go_wp2
    go_ret
    exact ⟨by rw [hR.out]; rfl, hbel⟩
   ·rw [decide_eq_false fun e => he e.symm] at hq
    have HI2 : Hid (∀ i, i < j + 1 → styB i ≠ s) := Lib.hid fun i hi => by
     rcases Nat.lt_or_ge i j with h | h
     ·exact HI.out i h
     ·obtain rfl : i = j := by omega
      exact he
    clear HA HO HI HC he
    generalize styB j = sj at *
    go_wp2
    exact ⟨⟨j + 1, by omega, by go_num, hbel, HI2⟩, by simp [intOf]; omega⟩
  ·obtain rfl : j = 4 := by omega
   have hR := Lib.hid (HO.out HI.out)
   clear HA HO HI HC
   go_wp2
   go_ret
   exact ⟨by rw [hR.out]; rfl, hbel⟩
set_option maxHeartbeats 2000000 in
theorem styled_ (p : Prs) (g nb : Nat) (w : World) (hSt : Sty w) (h : PaS w g nb p) : Calls Tryz.prog 174 #[.pointer (some ⟨g, 0, none⟩)] w (PaR g nb p (styledL p) w) := by
 have hgl := h.lt
 have hzz : w.heap.size ≤ w.heap.size := Nat.le_refl _
 have HPS : Hid (∀ x : Near w.heap.size w, PaS x.w g nb p) := Lib.hid fun x => h.below x.h
 have HN : Hid (∀ x : Near w.heap.size w, Calls Tryz.prog 189 #[.pointer (some ⟨g, 0, none⟩)] x.w (Gives (.string (p.words.headD ⟨#[]⟩)) x.w)) := Lib.hid fun x => next_ p g nb x.w (h.below x.h)
 have HIx : Hid (∀ x : Near w.heap.size w, Calls Tryz.prog 188 #[.slice (some ⟨6, 0, none⟩) 4 4, .string (p.words.headD ⟨#[]⟩)] x.w (Gives (.int .i64 (styI (styIdx (p.words.headD ⟨#[]⟩)))) x.w)) := Lib.hid fun x => index_sty _ x.w (hSt.below x.h (Nat.le_refl _))
 have qj := strq (a := p.words.headD ⟨#[]⟩) (b := bJoined) (l := [106, 111, 105, 110, 101, 100]) rfl
 clear hSt
 cases hw : p.words with
 | nil =>
  have e0 : styledL p = none := by unfold styledL; rw [hw]
  rw [e0]
  rw [hw] at HN HIx qj
  rw [show styI (styIdx (([] : List ByteArray).headD ⟨#[]⟩)) = -1 by decide +kernel] at HIx
  rw [show decide (([] : List ByteArray).headD ⟨#[]⟩ = bJoined) = false by decide +kernel] at qj
  clear e0 hw h
  generalize ([] : List ByteArray).headD ⟨#[]⟩ = nx at *
  go_enter Tryz.func174, Tryz.ntmps174
  go_upto_region 1 with fail
  refine wp_region_near w.heap.size (by kernel_rfl) (by kernel_rfl) ?_; (repeat (go_big_quiet_step ((first | (go_at_call 189; exact Calls.near _ hzz (HN.out _)) | (go_at_call 188; exact Calls.near _ hzz (HIx.out _)))))); refine wpQuiet_nil ?_; intro _ hw'; obtain ⟨x1, hw''⟩ := hw'; subst hw''
  go_wp2_with (go_at_call 189; refine (HN.out x1).mono ?_; rintro e w2 ⟨rfl, hb2⟩)
  go_ret
  have hb := x1.h.trans (hb2.mono x1.h.size)
  exact ⟨hb.mono (Nat.le_of_lt hgl), rfl, (HPS.out x1).below hb2, hb⟩
 | cons a t =>
  have hwl : 1 ≤ p.words.length := by rw [hw]; simp
  have hd1 : p.words.drop 1 = t := by rw [hw]; rfl
  rw [hw, List.headD_cons] at HN HIx qj
  have HTk : Hid (∀ (st : Int) w' (hp : PaS w' g nb ⟨p.words, p.out, st, false⟩) (hb : Below g w w'), Calls Tryz.prog 190 #[.pointer (some ⟨g, 0, none⟩), .int .i64 1] w' fun e w'' => e = .returned (.tuple #[]) ∧ PaS w'' g nb ⟨t, p.out, st, false⟩ ∧ Below g w w'') := Lib.hid fun st w' hp hb => by
   have := take_r hp 1 hwl hb
   rw [show (⟨p.words, p.out, st, false⟩ : Prs).words = p.words from rfl, hd1] at this
   exact this
  cases hsi : styIdx a with
  | some i =>
   have e0 : styledL p = some ⟨t, p.out, (i : Nat), false⟩ := by unfold styledL; rw [hw]; simp only; rw [hsi]
   rw [e0]
   rw [hsi] at HIx
   simp only [styI] at HIx
   have i1 : ¬ ((i : Int) < 0) := by omega
   have i2 : (0 : Int) ≤ i := by omega
   clear e0 hw hwl hd1 hsi qj
   generalize (i : Int) = I at *
   go_enter Tryz.func174, Tryz.ntmps174
   go_upto_region 1 with fail
   refine wp_region_near w.heap.size (by kernel_rfl) (by kernel_rfl) ?_; (repeat (go_big_quiet_step ((first | (go_at_call 189; exact Calls.near _ hzz (HN.out _)) | (go_at_call 188; exact Calls.near _ hzz (HIx.out _)))))); refine wpQuiet_nil ?_; intro _ hw'; obtain ⟨x1, hw''⟩ := hw'; subst hw''
   have hp1 := HPS.out x1
   have hb1 := x1.h
   have hgx := hp1.lt
   obtain ⟨A, n, c, A2, c2, h1, h2, h3, h4, h5⟩ := hp1
   have C3 := h3.cell 3
   have F3 := h3.frozen 3
   have C4 := h3.cell 4
   have F4 := h3.frozen 4
   simp only [parC, List.getElem?_toArray, List.getElem?_cons_zero, List.getElem?_cons_succ] at C3 C4
   have hS : PaS ((x1.w.setCell ⟨g, 3, none⟩ (.int .i64 I)).setCell ⟨g, 4, none⟩ (.bool false)) g nb ⟨p.words, p.out, I, false⟩ :=
    ⟨A, n, c, A2, c2, h1, h2, by have := (h3.set_ 3 (.int .i64 I)).set_ 4 (.bool false); simpa [parC] using this, (h4.below ((Below.refl g x1.w).setCell (Nat.le_refl g) _)).below ((Below.refl g _).setCell (Nat.le_refl g) _), own_set (own_set h5 (Nat.lt_succ_self g) _) (Nat.lt_succ_self g) _⟩
   have hB : Below g w ((x1.w.setCell ⟨g, 3, none⟩ (.int .i64 I)).setCell ⟨g, 4, none⟩ (.bool false)) := ((hb1.mono (Nat.le_of_lt hgl)).setCell (Nat.le_refl g) _).setCell (Nat.le_refl g) _
   clear h1 h2 h3 h4 h5
   go_upto_region 7 with fail
   refine wp_fg (fun X => PaS X g nb ⟨p.words, p.out, I, false⟩ ∧ Below g w X) ⟨hS, hB⟩ ?_
   clear hS hB C3 C4 F3 F4
   rintro X ⟨hS, hB⟩
   go_wp2_with (go_at_call 190; refine (HTk.out _ X hS hB).mono ?_; rintro e w3 ⟨rfl, hp3, hb3⟩)
   go_ret
   exact ⟨hb3, rfl, hp3⟩
  | none =>
   rw [hsi] at HIx
   simp only [styI] at HIx
   by_cases hj : a = bJoined
   ·have e0 : styledL p = some ⟨t, p.out, p.style, false⟩ := by unfold styledL; rw [hw]; simp only; rw [hsi]; exact if_pos hj
    rw [e0]
    rw [decide_eq_true hj] at qj
    clear e0 hw hwl hd1 hsi hj
    go_enter Tryz.func174, Tryz.ntmps174
    go_upto_region 1 with fail
    refine wp_region_near w.heap.size (by kernel_rfl) (by kernel_rfl) ?_; (repeat (go_big_quiet_step ((first | (go_at_call 189; exact Calls.near _ hzz (HN.out _)) | (go_at_call 188; exact Calls.near _ hzz (HIx.out _)))))); refine wpQuiet_nil ?_; intro _ hw'; obtain ⟨x1, hw''⟩ := hw'; subst hw''
    go_upto_region 6 with (go_at_call 189; refine (HN.out x1).mono ?_; rintro e w2 ⟨rfl, hb2⟩)
    have hb1 := x1.h.trans (hb2.mono x1.h.size)
    have hp1 := (HPS.out x1).below hb2
    have hgx := hp1.lt
    obtain ⟨A, n, c, A2, c2, h1, h2, h3, h4, h5⟩ := hp1
    have C4 := h3.cell 4
    have F4 := h3.frozen 4
    simp only [parC, List.getElem?_toArray, List.getElem?_cons_zero, List.getElem?_cons_succ] at C4
    have hS : PaS (w2.setCell ⟨g, 4, none⟩ (.bool false)) g nb ⟨p.words, p.out, p.style, false⟩ :=
     ⟨A, n, c, A2, c2, h1, h2, by have := h3.set_ 4 (.bool false); simpa [parC] using this, h4.below ((Below.refl g w2).setCell (Nat.le_refl g) _), own_set h5 (Nat.lt_succ_self g) _⟩
    have hB : Below g w (w2.setCell ⟨g, 4, none⟩ (.bool false)) := (hb1.mono (Nat.le_of_lt hgl)).setCell (Nat.le_refl g) _
    clear h1 h2 h3 h4 h5
    go_upto_region 7 with fail
    refine wp_fg (fun X => PaS X g nb ⟨p.words, p.out, p.style, false⟩ ∧ Below g w X) ⟨hS, hB⟩ ?_
    clear hS hB C4 F4
    rintro X ⟨hS, hB⟩
    go_wp2_with (go_at_call 190; refine (HTk.out _ X hS hB).mono ?_; rintro e w3 ⟨rfl, hp3, hb3⟩)
    go_ret
    exact ⟨hb3, rfl, hp3⟩
   ·have e0 : styledL p = none := by unfold styledL; rw [hw]; simp only; rw [hsi]; exact if_neg hj
    rw [e0]
    rw [decide_eq_false hj] at qj
    clear e0 hw hwl hd1 hsi hj HTk
    go_enter Tryz.func174, Tryz.ntmps174
    go_upto_region 1 with fail
    refine wp_region_near w.heap.size (by kernel_rfl) (by kernel_rfl) ?_; (repeat (go_big_quiet_step ((first | (go_at_call 189; exact Calls.near _ hzz (HN.out _)) | (go_at_call 188; exact Calls.near _ hzz (HIx.out _)))))); refine wpQuiet_nil ?_; intro _ hw'; obtain ⟨x1, hw''⟩ := hw'; subst hw''
    go_wp2_with (go_at_call 189; refine (HN.out x1).mono ?_; rintro e w2 ⟨rfl, hb2⟩)
    go_ret
    have hb := x1.h.trans (hb2.mono x1.h.size)
    exact ⟨hb.mono (Nat.le_of_lt hgl), rfl, (HPS.out x1).below hb2, hb⟩
def chwV : Option (Int × Nat) → Value
 | some (r, n) => .tuple #[.int .i32 r, .int .i64 n]
 | none => .tuple #[.int .i32 0, .int .i64 0]
set_option maxHeartbeats 1000000 in
theorem character_ (l : List ByteArray) (A : Option Addr) (n c : Nat) (w : World) (hn : l.length = n) (hc : n ≤ c) (hm : c ≤ maxLen) (rd : Rd w w.heap.size 1 A n (sv l)) (hsz : ∀ x ∈ l, x.size ≤ maxLen) (hs : Sp w) :
  Calls Tryz.prog 194 #[.slice A n c] w (Gives (chwV (charW l)) w) := by
 cases l with
 | nil =>
  obtain rfl : n = 0 := by simpa using hn.symm
  have HU := Lib.hid (unspell_nil A c w)
  simp only [unsV] at HU
  clear rd hs hsz
  go_enter Tryz.func194, Tryz.ntmps194
  go_wp2_with (go_at_call 205; refine HU.out.mono ?_; rintro e w1 ⟨rfl, hb1⟩)
  go_ret2
  exact ⟨rfl, hb1⟩
 | cons a t =>
  have hn1 : 0 < n := by rw [← hn]; simp
  obtain ⟨b, o, rfl, hb, hca⟩ := rd.at_ hn1
  have ha : w.cell? ⟨b, o, none⟩ = some (.string a) := hca
  have q1 := strq (a := a) (b := bSpace) (l := [115, 112, 97, 99, 101]) rfl
  have HU := Lib.hid (unspell_cons a t b o n c w (by simpa using hn) hc hm rd hsz hs)
  have hi : (0 : Int) < n := by omega
  by_cases hsp : a = bSpace
  ·rw [decide_eq_true hsp] at q1
   rw [charW, if_pos hsp]
   clear rd hs hsz hca hsp hn hm HU
   go_enter Tryz.func194, Tryz.ntmps194
   go_wp2
   go_ret2
   exact ⟨rfl, Below.refl _ _⟩
  ·rw [decide_eq_false hsp] at q1
   rw [charW, if_neg hsp]
   clear rd hs hsz hca hsp hn hm
   cases hu : unspellL (a :: t) with
   | none =>
    rw [hu] at HU
    simp only [unsV] at HU
    clear hu
    go_enter Tryz.func194, Tryz.ntmps194
    go_wp2_with (go_at_call 205; refine HU.out.mono ?_; rintro e w1 ⟨rfl, hb1⟩)
    go_ret2
    exact ⟨rfl, hb1⟩
   | some x =>
    obtain ⟨r, k⟩ := x
    rw [hu] at HU
    simp only [unsV] at HU
    clear hu
    go_enter Tryz.func194, Tryz.ntmps194
    go_wp2_with (go_at_call 205; refine HU.out.mono ?_; rintro e w1 ⟨rfl, hb1⟩)
    go_ret2
    exact ⟨rfl, hb1⟩
theorem own_cell {w : World} {base size n c G i : Nat} {e : TypeId} {xs : List Value} (h : w.ownsRow base e size (.slice (some ⟨G, 0, none⟩) n c) n xs) (hi : i < n * size) (u : Value) :
  (w.setCell ⟨G, i, none⟩ u).ownsRow base e size (.slice (some ⟨G, 0, none⟩) n c) n (xs.set i u) := by
 refine ⟨by rw [List.length_set]; exact h.1, ?_⟩
 rcases h.2 with ⟨h0, _⟩ | ⟨g, cap, cur, hv, h1, h2, h3, h4, h5, h6⟩
 ·cases h0
 ·simp only [Value.slice.injEq, Option.some.injEq, Addr.mk.injEq, and_true, true_and] at hv
  obtain ⟨rfl, rfl⟩ := hv
  refine .inr ⟨G, c, cur.setIfInBounds i u, rfl, h1, ?_, h3, h4, by simpa using h5, ?_⟩
  ·have hb : Blk w G e cur := h2
   exact hb.set_ i u
  ·rw [Array.toList_setIfInBounds, List.take_set, h6]
theorem encGs_text : ∀ (O : List Gl) (k : Nat) (h : k < O.length) (s : ByteArray), (encGs O).set (k * 3) (.string s) = encGs (O.set k ⟨s, O[k].wide, O[k].style⟩)
 | [], k, h, _ => by cases h
 | x :: O, 0, _, s => by
  rw [encGs_cons, List.set_cons_zero, encGs_cons]
  rfl
 | x :: O, k + 1, h, s => by
  have hk : k < O.length := by simpa using h
  rw [encGs_cons, List.set_append_right _ _ (by rw [encG_len]; omega), encG_len, show (k + 1) * 3 - 3 = k * 3 by omega, encGs_text O k hk s, List.set_cons_succ, encGs_cons]
  rfl
theorem set_last {O : List Gl} (k : Nat) (h : k + 1 = O.length) (x : Gl) : O.set k x = O.dropLast ++ [x] := by
 have hne : O ≠ [] := by rintro rfl; cases h
 obtain ⟨D, y, rfl⟩ : ∃ D y, O = D ++ [y] := ⟨_, _, (List.dropLast_concat_getLast hne).symm⟩
 rw [List.length_append, List.length_singleton] at h
 rw [List.dropLast_concat, List.set_append_right _ _ (by omega), show k - D.length = 0 by omega]
 rfl
end Go.Proofs.YtholajadbbdcmaaGreatDoor
