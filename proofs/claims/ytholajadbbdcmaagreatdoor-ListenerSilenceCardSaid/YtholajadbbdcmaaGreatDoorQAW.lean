/- Joined texts: Pa5. -/
import Derived.Test.YtholajadbbdcmaaGreatDoorQAA
import Derived.Test.YtholajadbbdcmaaGreatDoorQAC
import Derived.Test.YtholajadbbdcmaaGreatDoorQAD
import Derived.Test.YtholajadbbdcmaaGreatDoorQAE
import Derived.Test.YtholajadbbdcmaaGreatDoorQAF
import Derived.Test.YtholajadbbdcmaaGreatDoorQAG
import Derived.Test.YtholajadbbdcmaaGreatDoorQAH
import Derived.Test.YtholajadbbdcmaaGreatDoorQAI
import Derived.Test.YtholajadbbdcmaaGreatDoorQAU
import Derived.Test.YtholajadbbdcmaaGreatDoorQAV
set_option linter.unusedVariables false
set_option linter.unusedSimpArgs false
set_option linter.unnecessarySimpa false
namespace Go.Proofs.YtholajadbbdcmaaGreatDoor
open Go.RowKit
set_option maxRecDepth 20000
theorem upperB_eq (c : UInt8) : Lib.upperB c = upB c := by
 unfold Lib.upperB Lib.isLowerB upB
 simp only [Bool.and_eq_true, decide_eq_true_eq, UInt8.le_iff_toNat_le]
 rfl
theorem azB_bytes {s : ByteArray} (h : azB s = true) : 0 < s.size ∧ ∀ c ∈ s.data.toList, 97 ≤ c.toNat ∧ c.toNat ≤ 122 := by
 unfold azB at h
 rw [Bool.and_eq_true, List.all_eq_true] at h
 refine ⟨?_, fun c hc => by simpa using h.2 c hc⟩
 rcases Nat.eq_zero_or_pos s.size with h0 | h0
 ·have : s.data.toList = [] := List.length_eq_zero_iff.1 (by simpa using h0)
  rw [this] at h
  simp at h
 ·exact h0
theorem litL_ok {l : List ByteArray} {s : ByteArray} {n : Nat} (h : litL l = some (s, n)) (hsz : ∀ s ∈ l, s.size ≤ 1000) (hl : l.length ≤ 500000) : azB s = true ∧ s.size ≤ 1000000 ∧ 0 < n ∧ n ≤ l.length := by
 cases l with
 | nil => cases h
 | cons a t =>
  rw [litL] at h
  split at h
  ·rename_i hc
   simp only [Option.some.injEq, Prod.mk.injEq] at h
   obtain ⟨rfl, rfl⟩ := h
   cases t with
   | nil => exact absurd hc.2 (by decide +kernel)
   | cons d t' => exact ⟨hc.2, Nat.le_trans (hsz d (by simp)) (by decide), by omega, by simp⟩
  ·split at h
   ·rename_i hc
    simp only [Option.some.injEq, Prod.mk.injEq] at h
    obtain ⟨rfl, rfl⟩ := h
    exact ⟨hc.1, Nat.le_trans (hsz a (by simp)) (by decide), by omega, by simp⟩
   ·split at h
    ·unfold spelledL at h
     split at h
     ·cases h
     ·rename_i h0
      split at h
      ·rename_i he
       simp only [Option.some.injEq, Prod.mk.injEq] at h
       obtain ⟨rfl, rfl⟩ := h
       have hk : (t.takeWhile oneB).length < t.length := by
        rcases Nat.lt_or_ge (t.takeWhile oneB).length t.length with h | h
        ·exact h
        ·rw [List.getElem?_eq_none h] at he; cases he
       have hall : ∀ x ∈ t.takeWhile oneB, oneB x = true := fun x hx => List.all_eq_true.1 (List.all_takeWhile (l := t) (p := oneB)) x hx
       generalize t.takeWhile oneB = T at *
       have hlen : (T.flatMap fun s => s.data.toList).length = T.length := by
        clear he hk h0
        induction T with
        | nil => rfl
        | cons x T ih =>
         have hx := hall x (by simp)
         unfold oneB at hx
         rw [Bool.and_eq_true, decide_eq_true_eq] at hx
         rw [List.flatMap_cons, List.length_append, List.length_cons, ih fun y hy => hall y (by simp [hy])]
         have : x.data.toList.length = x.size := by simp
         omega
       rw [List.length_cons] at hl ⊢
       refine ⟨?_, ?_, by omega, by omega⟩
       ·unfold azB
        rw [Bool.and_eq_true, List.all_eq_true]
        refine ⟨?_, fun c hc => ?_⟩
        ·rw [Bool.not_eq_true', List.isEmpty_eq_false_iff]
         intro e
         have e' : (T.flatMap fun s => s.data.toList) = [] := e
         rw [e'] at hlen
         exact h0 hlen.symm
        ·have hc' : c ∈ T.flatMap fun s => s.data.toList := hc
         rw [List.mem_flatMap] at hc'
         obtain ⟨x, hx, hcx⟩ := hc'
         have hx1 := hall x hx
         unfold oneB at hx1
         rw [Bool.and_eq_true] at hx1
         simpa using (azB_bytes hx1.1).2 c hcx
       ·show (List.toArray _).size ≤ _
        rw [List.size_toArray, hlen]
        omega
      ·cases h
    ·cases h
theorem raise_all (s : ByteArray) : (⟨(Lib.toUpperA s.data.toList).toArray⟩ : ByteArray) = raiseL s s.size := by
 unfold raiseL
 have hz : s.data.toList.length = s.size := by simp
 rw [Lib.toUpperA.eq_1, ← hz, List.take_length, List.drop_length, List.append_nil]
 congr 2
 exact List.map_congr_left fun c _ => upperB_eq c
theorem raise_one (s : ByteArray) (h : 0 < s.size) : (⟨(Lib.toUpperA (s.extract 0 1).data.toList).toArray⟩ : ByteArray) ++ s.extract 1 s.size = raiseL s 1 := by
 unfold raiseL
 apply ByteArray.ext
 rw [ByteArray.data_append]
 apply Array.toList_inj.1
 have hz : s.data.toList.length = s.size := by simp
 rw [Array.toList_append, ByteArray.data_extract, ByteArray.data_extract, Lib.toUpperA.eq_1]
 simp only [Array.toList_extract, List.extract_eq_take_drop, List.drop_zero, Nat.sub_zero]
 congr 1
 ·exact List.map_congr_left fun c _ => upperB_eq c
 ·rw [List.take_of_length_le]
  rw [List.length_drop, hz]
  omega
theorem raise_size (s : ByteArray) (k : Nat) : (raiseL s k).size = s.size := by
 unfold raiseL
 show (List.toArray _).size = _
 rw [List.size_toArray, List.length_append, List.length_map, List.length_take, List.length_drop]
 have hz : s.data.toList.length = s.size := by simp
 omega
theorem wordL_oth {p : Prs} (h1 : p.words.headD ⟨#[]⟩ ≠ bCap) (h2 : p.words.headD ⟨#[]⟩ ≠ bCaps) : wordL p = (litL p.words).map fun (s, n) => textL p s n := by
 unfold wordL
 split
 ·rename_i hw
  rw [hw]
  rfl
 ·rename_i a t hw
  rw [hw] at h1 h2 ⊢
  rw [List.headD_cons] at h1 h2
  rw [if_neg h1, if_neg h2]
set_option maxHeartbeats 1000000 in
theorem word_ (p : Prs) (g nb : Nat) (w : World) (h : PaS w g nb p) (hset : SetM w nb 200 resB) (hk : PaK p) : Calls Tryz.prog 175 #[.pointer (some ⟨g, 0, none⟩)] w (PaR g nb p (wordL p) w) := by
 have hgl := h.lt
 have HPS := Lib.hid h
 have hb0 : Below w.heap.size w w := Below.refl _ _
 have HN : Hid (∀ w', Below w.heap.size w w' → Calls Tryz.prog 189 #[.pointer (some ⟨g, 0, none⟩)] w' fun e w'' => e = .returned (.string (p.words.headD ⟨#[]⟩)) ∧ Below w.heap.size w w'') := Lib.hid fun w' hw => (next_ p g nb w' (h.below hw)).mono fun e w'' ⟨h1, h2⟩ => ⟨h1, hw.trans (h2.mono hw.size)⟩
 have HTxt : Hid (∀ s : ByteArray, s.size ≤ 1000000 → ∀ w', Below w.heap.size w w' → Calls Tryz.prog 193 #[.pointer (some ⟨g, 0, none⟩), .string s] w' fun e w'' => e = .returned (.tuple #[]) ∧ PaS w'' g nb ⟨p.words, p.out ++ textG p.joins p.style s, p.style, true⟩ ∧ Below g w w'') := Lib.hid fun s hs w' hw => (text_ p s hs (by have := hk.2.1; omega) g nb w' (h.below hw)).mono fun e w'' ⟨h1, h2, h3⟩ => ⟨h1, h2, (hw.mono (Nat.le_of_lt hgl)).trans h3⟩
 have HTake : Hid (∀ (q : Prs) (k : Nat), k ≤ q.words.length → ∀ w', PaS w' g nb q → Below g w w' → Calls Tryz.prog 190 #[.pointer (some ⟨g, 0, none⟩), .int .i64 k] w' fun e w'' => e = .returned (.tuple #[]) ∧ PaS w'' g nb ⟨q.words.drop k, q.out, q.style, q.joins⟩ ∧ Below g w w'') := Lib.hid fun q k hk w' hw hb => (take_ q k hk g nb w' hw).mono fun e w'' ⟨h1, h2, h3⟩ => ⟨h1, h2, hb.trans h3⟩
 obtain ⟨A, n, c, A2, c2, h1, h2, h3, h4, h5⟩ := h
 have C1 := h3.cell 1
 have C0 := h3.cell 0
 simp only [parC, List.getElem?_toArray, List.getElem?_cons_zero, List.getElem?_cons_succ] at C0 C1
 have hn : p.words.length = n := by have := h4.1; simp [sv] at this; omega
 have hlen := hk.len
 have hc63 : c ≤ 9223372036854775807 := by unfold maxLen at h2; omega
 have HC1 : Hid (∀ w', Below w.heap.size w w' → w'.cell? ⟨g, 1, none⟩ = some (.slice A n c)) := Lib.hid fun w' hw => (hw.cell (show g < _ from hgl)).trans C1
 have HLi : Hid (∀ (k : Nat) (l : List ByteArray) A' N c', l = p.words.drop k → k ≤ n → N = n - k → Rd w g 1 A' N (sv l) → ∀ w', Below w.heap.size w w' → Calls Tryz.prog 191 #[.pointer (some ⟨g, 0, none⟩), .slice A' N c'] w' fun e w'' => e = .returned (litV (litL l)) ∧ Below w.heap.size w w'') := Lib.hid fun k l A' N c' hl hkn hN rd w' hw =>
  (literal_ l A' N c' g g nb w' (fun s hs => hk.1 s (by rw [hl] at hs; exact List.mem_of_mem_drop hs)) (by rw [hl, List.length_drop]; omega) (rd.below (hw.mono (Nat.le_of_lt hgl))) (by have := hw.size; omega) (by have := hw.size; omega) ((hw.cell (show g < _ from hgl)).trans C0) (hset.below hw)).mono fun e w'' ⟨h1, h2⟩ => ⟨h1, hw.trans (h2.mono hw.size)⟩
 have HUpr : Hid (∀ s : ByteArray, s.size ≤ 1000000 → (∀ c ∈ s.data.toList, c.toNat < 128) → ∀ w', Below w.heap.size w w' → Calls Tryz.prog 192 #[.string s] w' fun e w'' => e = .returned (.string ⟨(Lib.toUpperA s.data.toList).toArray⟩) ∧ Below w.heap.size w w'') := Lib.hid fun s hs hb w' hw =>
  (Tryz.strings_ToUpper_ascii s w' (by omega) (fun j b hj => hb b (List.mem_of_getElem? hj))).mono fun e w'' ⟨h1, h2⟩ => ⟨h1, hw.trans (h2.mono hw.size)⟩
 have q1 := strq (a := p.words.headD ⟨#[]⟩) (b := bCap) (l := [99, 97, 112]) rfl
 have q2 := strq (a := p.words.headD ⟨#[]⟩) (b := bCaps) (l := [99, 97, 112, 115]) rfl
 by_cases hcp : p.words.headD ⟨#[]⟩ = bCap
 ·have q2' : (bCap.toList == [99, 97, 112, 115]) = false := by decide +kernel
  clear q2
  rw [decide_eq_true hcp] at q1
  obtain ⟨W, O, st, J⟩ := p
  dsimp only at *
  cases W with
  | nil => exact absurd hcp (by decide +kernel)
  | cons a t =>
   rw [List.headD_cons] at *
   subst hcp
   have hn1 : 0 < n := by rw [← hn]; simp
   have hok := fun s k (h : litL t = some (s, k)) => litL_ok h (fun s hs => hk.1 s (by simp [hs])) (by simp at hlen; omega)
   obtain ⟨b, o, hA, hbg, -⟩ := h4.2 hn1
   subst hA
   have HRd : Hid (Rd w g 1 (if c = 1 then some ⟨b, o, none⟩ else some ⟨b, o + 1, none⟩) (n - 1) (sv t)) := Lib.hid (by
    have := h4.cut (k := 1) hn1 h1
    simp only [Nat.mul_one, Option.map_some, add_none] at this
    exact this)
   have e0 : wordL ⟨bCap :: t, O, st, J⟩ = (litL t).map fun (s, n) => textL ⟨bCap :: t, O, st, J⟩ (raiseL s 1) (1 + n) := by
    unfold wordL
    simp only
    rw [if_pos trivial]
   have hwl := hk.2.1
   by_cases hc1 : c = 1
   ·rw [if_pos hc1] at HRd
    have hn0 : n - 1 = 0 := by omega
    have ht0 : t = [] := by
     have := hn
     simp at this
     exact List.length_eq_zero_iff.1 (by omega)
    subst ht0
    subst hc1
    obtain rfl : n = 1 := by omega
    have HLit := Lib.hid (HLi.out 1 [] (some ⟨b, o, none⟩) 0 0 rfl (by omega) rfl HRd.out)
    rw [e0]
    simp only [litL, litV, Option.map_none] at HLit ⊢
    clear h2 h3 h4 h5 hset hk hlen hn hok HLi HRd e0 HTake HTxt HUpr
    go_enter Tryz.func175, Tryz.ntmps175
    go_wp2_with (first | (go_at_call 189; refine (HN.out _ (by assumption)).mono ?_; rintro e w1 ⟨rfl, hb1⟩; have C1' := HC1.out _ hb1) | (go_at_call 191; refine (HLit.out _ (by assumption)).mono ?_; rintro e w2 ⟨rfl, hb2⟩))
    go_ret
    exact ⟨hb2.mono (Nat.le_of_lt hgl), rfl, HPS.out.below hb2, hb2⟩
   ·rw [if_neg hc1] at HRd
    have HLit := Lib.hid (HLi.out 1 t (some ⟨b, o + 1, none⟩) (n - 1) (c - 1) rfl hn1 rfl HRd.out)
    rw [e0]
    cases hlit : litL t with
    | none =>
     rw [hlit] at HLit
     simp only [litV, Option.map_none] at HLit ⊢
     clear h2 h3 h4 h5 hset hk hlen hn hok HLi HRd e0 HTake HTxt HUpr hlit
     go_enter Tryz.func175, Tryz.ntmps175
     go_wp2_with (first | (go_at_call 189; refine (HN.out _ (by assumption)).mono ?_; rintro e w1 ⟨rfl, hb1⟩; have C1' := HC1.out _ hb1) | (go_at_call 191; refine (HLit.out _ (by assumption)).mono ?_; rintro e w2 ⟨rfl, hb2⟩))
     go_ret
     exact ⟨hb2.mono (Nat.le_of_lt hgl), rfl, HPS.out.below hb2, hb2⟩
    | some x =>
     obtain ⟨s, k⟩ := x
     rw [hlit] at HLit
     simp only [litV, Option.map_some] at HLit ⊢
     obtain ⟨ha, hs, hk0, hkl⟩ := hok s k hlit
     obtain ⟨hs0, haz⟩ := azB_bytes ha
     have ek : ((k : Int) == 0) = false := beq_eq_false_iff_ne.2 (by omega)
     have ek2 : k ≤ 500000 := by simp at hlen; omega
     have ew : wrap64 (1 + (k : Int)) = 1 + (k : Int) := by unfold wrap64; omega
     have hkl2 : 1 + k ≤ (bCap :: t).length := by rw [List.length_cons, Nat.add_comm]; exact Nat.succ_le_succ hkl
     have HTk0 := Lib.hid (HTake.out ⟨bCap :: t, O ++ textG J st (raiseL s 1), st, true⟩ (1 + k) hkl2)
     clear hkl2
     rw [show ((1 + k : Nat) : Int) = 1 + (k : Int) by omega] at HTk0
     have hX := raise_one s hs0
     have hXs : ((⟨(Lib.toUpperA (s.extract 0 1).data.toList).toArray⟩ : ByteArray) ++ s.extract 1 s.size).size ≤ 1000000 := by rw [hX, raise_size]; exact hs
     have HTx := Lib.hid (HTxt.out _ hXs)
     rw [← hX] at HTk0 ⊢
     have HUp : Hid (∀ w', Calls Tryz.prog 192 #[.string (s.extract 0 1)] w' (Gives (.string ⟨(Lib.toUpperA (s.extract 0 1).data.toList).toArray⟩) w')) := Lib.hid fun w' => Tryz.strings_ToUpper_ascii (s.extract 0 1) w' (by rw [ByteArray.size_extract]; omega) (fun j b hj => by
      have hm := List.mem_of_getElem? hj
      rw [ByteArray.data_extract, Array.toList_extract, List.extract_eq_take_drop, List.drop_zero] at hm
      have := haz b (List.mem_of_mem_take hm)
      omega)
     clear h2 h3 h4 h5 hset hk hlen hn hok HLi HRd e0 HTake HTxt HUpr hlit hX hXs
     have hU1 : (⟨(Lib.toUpperA (s.extract 0 1).data.toList).toArray⟩ : ByteArray).size ≤ 1 := by
      show (List.toArray _).size ≤ 1
      rw [List.size_toArray, Lib.toUpperA.eq_1, List.length_map]
      have : (s.extract 0 1).data.toList.length = (s.extract 0 1).size := by simp
      rw [this, ByteArray.size_extract]
      omega
     have hU2 : (s.extract 1 s.size).size ≤ 1000000 := by rw [ByteArray.size_extract]; omega
     generalize (⟨(Lib.toUpperA (s.extract 0 1).data.toList).toArray⟩ : ByteArray) = U at *
     have HTk := HTk0
     clear HTk0
     generalize (k : Int) = K at *
     have i1 : (1 : Int) ≤ s.size := by omega
     show Calls _ _ _ w (PaR g nb _ (some ⟨(bCap :: t).drop (1 + k), O ++ textG J st (U ++ s.extract 1 s.size), st, true⟩) w)
     go_enter Tryz.func175, Tryz.ntmps175
     go_upto_region 10 with (first | (go_at_call 189; refine (HN.out _ (by assumption)).mono ?_; rintro e w1 ⟨rfl, hb1⟩; have C1' := HC1.out _ hb1) | (go_at_call 191; refine (HLit.out _ (by assumption)).mono ?_; rintro e w2 ⟨rfl, hb2⟩))
     have hzz := hb1.size
     have h1N : ∀ x : Near w.heap.size w1, Below w.heap.size w x.w := fun x => hb1.trans x.h
     refine wp_region_near w.heap.size (by kernel_rfl) (by kernel_rfl) ?_; (repeat (go_big_quiet_step ((go_at_call 192; exact Calls.near _ hzz (HUp.out _))))); refine wpQuiet_nil ?_; intro _ hw'; obtain ⟨x1, hw''⟩ := hw'; subst hw''
     have hb9 := h1N x1
     clear h1N
     generalize x1.w = w9 at *
     go_wp2_with (first
      | (first | (go_at_call 189; refine (HN.out _ (by assumption)).mono ?_; rintro e w1 ⟨rfl, hb1⟩; have C1' := HC1.out _ hb1) | (go_at_call 191; refine (HLit.out _ (by assumption)).mono ?_; rintro e w2 ⟨rfl, hb2⟩))
      | (go_at_call 192; refine (HUp.out _ (by assumption)).mono ?_; rintro e w4 ⟨rfl, hb4⟩)
      | (go_at_call 193; refine (HTx.out _ (by assumption)).mono ?_; rintro e w5 ⟨rfl, hp5, hb5⟩)
      | (go_at_call 190; refine (HTk.out _ hp5 hb5).mono ?_; rintro e w6 ⟨rfl, hp6, hb6⟩))
     go_ret
     exact ⟨hb6, rfl, hp6⟩
 ·by_cases hcs : p.words.headD ⟨#[]⟩ = bCaps
  ·rw [decide_eq_false hcp] at q1
   rw [decide_eq_true hcs] at q2
   obtain ⟨W, O, st, J⟩ := p
   dsimp only at *
   cases W with
   | nil => exact absurd hcs (by decide +kernel)
   | cons a t =>
    rw [List.headD_cons] at *
    subst hcs
    have hn1 : 0 < n := by rw [← hn]; simp
    have hok := fun s k (h : litL t = some (s, k)) => litL_ok h (fun s hs => hk.1 s (by simp [hs])) (by simp at hlen; omega)
    obtain ⟨b, o, hA, hbg, -⟩ := h4.2 hn1
    subst hA
    have HRd : Hid (Rd w g 1 (if c = 1 then some ⟨b, o, none⟩ else some ⟨b, o + 1, none⟩) (n - 1) (sv t)) := Lib.hid (by
     have := h4.cut (k := 1) hn1 h1
     simp only [Nat.mul_one, Option.map_some, add_none] at this
     exact this)
    have e0 : wordL ⟨bCaps :: t, O, st, J⟩ = (litL t).map fun (s, n) => textL ⟨bCaps :: t, O, st, J⟩ (raiseL s s.size) (1 + n) := by
     unfold wordL
     simp only
     rw [if_neg (by decide +kernel), if_pos trivial]
    have hwl := hk.2.1
    by_cases hc1 : c = 1
    ·rw [if_pos hc1] at HRd
     have hn0 : n - 1 = 0 := by omega
     have ht0 : t = [] := by
      have := hn
      simp at this
      exact List.length_eq_zero_iff.1 (by omega)
     subst ht0
     subst hc1
     obtain rfl : n = 1 := by omega
     have HLit := Lib.hid (HLi.out 1 [] (some ⟨b, o, none⟩) 0 0 rfl (by omega) rfl HRd.out)
     rw [e0]
     simp only [litL, litV, Option.map_none] at HLit ⊢
     clear h2 h3 h4 h5 hset hk hlen hn hok HLi HRd e0 HTake HTxt HUpr
     go_enter Tryz.func175, Tryz.ntmps175
     go_wp2_with (first | (go_at_call 189; refine (HN.out _ (by assumption)).mono ?_; rintro e w1 ⟨rfl, hb1⟩; have C1' := HC1.out _ hb1) | (go_at_call 191; refine (HLit.out _ (by assumption)).mono ?_; rintro e w2 ⟨rfl, hb2⟩))
     go_ret
     exact ⟨hb2.mono (Nat.le_of_lt hgl), rfl, HPS.out.below hb2, hb2⟩
    ·rw [if_neg hc1] at HRd
     have HLit := Lib.hid (HLi.out 1 t (some ⟨b, o + 1, none⟩) (n - 1) (c - 1) rfl hn1 rfl HRd.out)
     rw [e0]
     cases hlit : litL t with
     | none =>
      rw [hlit] at HLit
      simp only [litV, Option.map_none] at HLit ⊢
      clear h2 h3 h4 h5 hset hk hlen hn hok HLi HRd e0 HTake HTxt HUpr hlit
      go_enter Tryz.func175, Tryz.ntmps175
      go_wp2_with (first | (go_at_call 189; refine (HN.out _ (by assumption)).mono ?_; rintro e w1 ⟨rfl, hb1⟩; have C1' := HC1.out _ hb1) | (go_at_call 191; refine (HLit.out _ (by assumption)).mono ?_; rintro e w2 ⟨rfl, hb2⟩))
      go_ret
      exact ⟨hb2.mono (Nat.le_of_lt hgl), rfl, HPS.out.below hb2, hb2⟩
     | some x =>
      obtain ⟨s, k⟩ := x
      rw [hlit] at HLit
      simp only [litV, Option.map_some] at HLit ⊢
      obtain ⟨ha, hs, hk0, hkl⟩ := hok s k hlit
      obtain ⟨hs0, haz⟩ := azB_bytes ha
      have ek : ((k : Int) == 0) = false := beq_eq_false_iff_ne.2 (by omega)
      have ek2 : k ≤ 500000 := by simp at hlen; omega
      have ew : wrap64 (1 + (k : Int)) = 1 + (k : Int) := by unfold wrap64; omega
      have hkl2 : 1 + k ≤ (bCaps :: t).length := by rw [List.length_cons, Nat.add_comm]; exact Nat.succ_le_succ hkl
      have HTk0 := Lib.hid (HTake.out ⟨bCaps :: t, O ++ textG J st (raiseL s s.size), st, true⟩ (1 + k) hkl2)
      clear hkl2
      rw [show ((1 + k : Nat) : Int) = 1 + (k : Int) by omega] at HTk0
      have HTx := Lib.hid (HTxt.out (raiseL s s.size) (by rw [raise_size]; exact hs))
      have HUp := Lib.hid (HUpr.out s hs (fun c hc => by have := haz c hc; omega))
      rw [raise_all] at HUp
      clear h2 h3 h4 h5 hset hk hlen hn hok HLi HRd e0 HTake HTxt HUpr hlit
      generalize raiseL s s.size = U at *
      have HTk := HTk0
      clear HTk0
      generalize (k : Int) = K at *
      show Calls _ _ _ w (PaR g nb _ (some ⟨(bCaps :: t).drop (1 + k), O ++ textG J st U, st, true⟩) w)
      go_enter Tryz.func175, Tryz.ntmps175
      go_wp2_with (first
       | (first | (go_at_call 189; refine (HN.out _ (by assumption)).mono ?_; rintro e w1 ⟨rfl, hb1⟩; have C1' := HC1.out _ hb1) | (go_at_call 191; refine (HLit.out _ (by assumption)).mono ?_; rintro e w2 ⟨rfl, hb2⟩))
       | (go_at_call 192; refine (HUp.out _ (by assumption)).mono ?_; rintro e w4 ⟨rfl, hb4⟩)
       | (go_at_call 193; refine (HTx.out _ (by assumption)).mono ?_; rintro e w5 ⟨rfl, hp5, hb5⟩)
       | (go_at_call 190; refine (HTk.out _ hp5 hb5).mono ?_; rintro e w6 ⟨rfl, hp6, hb6⟩))
      go_ret
      exact ⟨hb6, rfl, hp6⟩
  ·rw [decide_eq_false hcp] at q1
   rw [decide_eq_false hcs] at q2
   rw [wordL_oth hcp hcs]
   have HLit := Lib.hid (HLi.out 0 p.words A n c rfl (Nat.zero_le _) rfl h4)
   have hok := fun s k (h : litL p.words = some (s, k)) => litL_ok h hk.1 hlen
   clear HLi hcp hcs
   cases hlit : litL p.words with
   | none =>
    rw [hlit] at HLit
    simp only [litV] at HLit
    clear h2 h3 h4 h5 hset hk hlen hn hok hlit
    generalize p.words.headD ⟨#[]⟩ = nx at *
    go_enter Tryz.func175, Tryz.ntmps175
    go_wp2_with (first | (go_at_call 189; refine (HN.out _ (by assumption)).mono ?_; rintro e w1 ⟨rfl, hb1⟩; have C1' := HC1.out _ hb1) | (go_at_call 191; refine (HLit.out _ (by assumption)).mono ?_; rintro e w2 ⟨rfl, hb2⟩))
    go_ret
    exact ⟨hb2.mono (Nat.le_of_lt hgl), rfl, HPS.out.below hb2, hb2⟩
   | some x =>
    obtain ⟨s, k⟩ := x
    rw [hlit] at HLit
    simp only [litV] at HLit
    obtain ⟨ha, hs, hk0, hkl⟩ := hok s k hlit
    have HTx := Lib.hid (HTxt.out s hs)
    have HTk := Lib.hid (HTake.out ⟨p.words, p.out ++ textG p.joins p.style s, p.style, true⟩ k hkl)
    have ek : ((k : Int) == 0) = false := beq_eq_false_iff_ne.2 (by omega)
    have ew : wrap64 (k : Int) = k := by unfold wrap64; omega
    clear h2 h3 h4 h5 hset hk hlen hn hok hlit HTake HTxt HUpr
    show Calls _ _ _ w (PaR g nb p (some ⟨p.words.drop k, p.out ++ textG p.joins p.style s, p.style, true⟩) w)
    generalize p.words.headD ⟨#[]⟩ = nx at *
    go_enter Tryz.func175, Tryz.ntmps175
    go_wp2_with (first
     | (first | (go_at_call 189; refine (HN.out _ (by assumption)).mono ?_; rintro e w1 ⟨rfl, hb1⟩; have C1' := HC1.out _ hb1) | (go_at_call 191; refine (HLit.out _ (by assumption)).mono ?_; rintro e w2 ⟨rfl, hb2⟩))
     | (go_at_call 192; refine (HUp.out _ (by assumption)).mono ?_; rintro e w4 ⟨rfl, hb4⟩)
     | (go_at_call 193; refine (HTx.out _ (by assumption)).mono ?_; rintro e w5 ⟨rfl, hp5, hb5⟩)
     | (go_at_call 190; refine (HTk.out _ hp5 hb5).mono ?_; rintro e w6 ⟨rfl, hp6, hb6⟩))
    go_ret
    exact ⟨hb6, rfl, hp6⟩
end Go.Proofs.YtholajadbbdcmaaGreatDoor
