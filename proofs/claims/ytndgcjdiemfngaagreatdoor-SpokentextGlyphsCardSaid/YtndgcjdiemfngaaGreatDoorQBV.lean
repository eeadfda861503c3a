/- Joined texts: Rp1, Rp2. -/
import Derived.Test.YtndgcjdiemfngaaGreatDoorQAO
import Derived.Test.YtndgcjdiemfngaaGreatDoorQAZ
import Derived.Test.YtndgcjdiemfngaaGreatDoorQBB
import Derived.Test.YtndgcjdiemfngaaGreatDoorQBC
import Derived.Test.YtndgcjdiemfngaaGreatDoorQBP
set_option linter.unusedVariables false
set_option linter.unusedSimpArgs false
set_option linter.unnecessarySimpa false
/- The reference of layer 40: lower, char, raised. -/
namespace Go.Proofs.YtndgcjdiemfngaaGreatDoor
open Go.RowKit
set_option maxRecDepth 20000
set_option maxHeartbeats 2000000 in
theorem rlower (s : ByteArray) (hs : s.size ≤ 1000000000) (w : World) : Calls Tryz.prog 122 #[.string s] w (Gives (.bool (azB s)) w) := by
  have HF : Hid (azB s = (!(s.data.toList.isEmpty) && (s.data.toList.drop 0).all azC)) := Lib.hid rfl
  have HS : Hid (∀ j (h : j < s.size), (s.data.toList.drop j).all azC = (azC s[j] && (s.data.toList.drop (j + 1)).all azC)) := Lib.hid fun j h => by
    rw [List.drop_eq_getElem_cons (by simpa using h), List.all_cons]
    rfl
  have HE : Hid ((s.data.toList.drop s.size).all azC = true) := Lib.hid (by rw [List.drop_of_length_le (by simp)]; rfl)
  have HZ : Hid (s.size = 0 → s.toList.isEmpty = true ∧ s.data.toList.isEmpty = true) := Lib.hid fun h => by
    have : s.data.toList = [] := List.length_eq_zero_iff.1 (by simpa using h)
    rw [ByteArray.toList_eq, this]
    exact ⟨rfl, rfl⟩
  have HY : Hid (s.size ≠ 0 → s.toList.isEmpty = false ∧ s.data.toList.isEmpty = false) := Lib.hid fun h => by
    refine ⟨isEmpty_no' h, ?_⟩
    rw [List.isEmpty_eq_false_iff]
    intro e
    have := congrArg List.length e
    exact h (by simpa using this)
  generalize azB s = R at *
  go_enter Tryz.func122, Tryz.ntmps122
  go_wp2
  go_loopw [3] (fun x wr => ∃ j : Nat, j ≤ s.size ∧ x = .int .i64 j ∧ Below w.heap.size w wr ∧ Hid (R = (!(s.data.toList.isEmpty) && (s.data.toList.drop j).all azC))) (fun x _ => s.size - (intOf x).toNat)
  case atStart => exact ⟨0, Nat.zero_le _, rfl, Below.refl _ _, HF⟩
  case round =>
    obtain ⟨j, hj, rfl, hbel, HR⟩ := hrel
    by_cases hlt : j < s.size
    · have HSj := Lib.hid (HS.out j hlt)
      have hb := UInt8.toNat_lt s[j]
      have hne := (HY.out (by omega)).2
      have HN : Hid (azC s[j] = true → R = (!(s.data.toList.isEmpty) && (s.data.toList.drop (j + 1)).all azC)) := Lib.hid fun h => by rw [HR.out, HSj.out, h, Bool.true_and]
      have HM : Hid (azC s[j] = false → R = false) := Lib.hid fun h => by rw [HR.out, HSj.out, h, Bool.false_and, Bool.and_false]
      clear HR HSj HS HE HF HZ HY hne
      unfold azC at HN HM
      generalize hc : s[j] = c at *
      by_cases h1 : c.toNat < 97
      · have i1 : decide ((c.toNat : Int) < 97) = true := decide_eq_true (by omega)
        have HR2 := Lib.hid (HM.out (by rw [decide_eq_false (by omega)]; rfl))
        go_wp2
        go_ret
        exact ⟨by rw [HR2.out]; rfl, hbel⟩
      · have i1 : decide ((c.toNat : Int) < 97) = false := decide_eq_false (by omega)
        by_cases h2 : 122 < c.toNat
        · have HR2 := Lib.hid (HM.out (by rw [decide_eq_true (show 97 ≤ c.toNat by omega), decide_eq_false (by omega)]; rfl))
          go_wp2
          go_ret
          exact ⟨by rw [HR2.out]; rfl, hbel⟩
        · have HR2 := Lib.hid (HN.out (by rw [decide_eq_true (show 97 ≤ c.toNat by omega), decide_eq_true (show c.toNat ≤ 122 by omega)]; rfl))
          go_wp2
          exact ⟨⟨j + 1, by omega, by go_num, hbel, HR2⟩, by simp [intOf]; omega⟩
    · obtain rfl : j = s.size := by omega
      have HR2 := Lib.hid (HR.out.trans (by rw [HE.out, Bool.and_true]))
      by_cases h0 : s.size = 0
      · obtain ⟨e1, e2⟩ := HZ.out h0
        go_wp2
        go_ret
        exact ⟨by rw [HR2.out, e2]; rfl, hbel⟩
      · obtain ⟨e1, e2⟩ := HY.out h0
        go_wp2
        go_ret
        exact ⟨by rw [HR2.out, e2]; rfl, hbel⟩
set_option maxHeartbeats 1000000 in
theorem rchar40 (l : List ByteArray) (A : Option Addr) (n c : Nat) (w : World) (hn : l.length = n) (hc : n ≤ c) (hm : c ≤ maxLen) (rd : Rd w w.heap.size 1 A n (sv l)) (ht : Tb w) :
    Calls Tryz.prog 83 #[.slice A n c] w (Gives (chwV (charW l)) w) := by
  cases l with
  | nil =>
    obtain rfl : n = 0 := by simpa using hn.symm
    have HU := Lib.hid (runspell_nil A c w)
    simp only [unsV] at HU
    clear rd ht
    go_enter Tryz.func83, Tryz.ntmps83
    go_wp2_with (go_at_call 125; refine HU.out.mono ?_; rintro e w1 ⟨rfl, hb1⟩)
    go_ret2
    exact ⟨rfl, hb1⟩
  | cons a t =>
    have hn1 : 0 < n := by rw [← hn]; simp
    obtain ⟨b, o, rfl, hb, hca⟩ := rd.at_ hn1
    have ha : w.cell? ⟨b, o, none⟩ = some (.string a) := hca
    have q1 := strq (a := a) (b := bSpace) (l := [115, 112, 97, 99, 101]) rfl
    have HU := Lib.hid (runspell_cons a t b o n c w (by simpa using hn) hc hm rd ht)
    have hi : (0 : Int) < n := by omega
    by_cases hsp : a = bSpace
    · rw [decide_eq_true hsp] at q1
      rw [charW, if_pos hsp]
      clear rd ht hca hsp hn hm HU
      go_enter Tryz.func83, Tryz.ntmps83
      go_wp2
      go_ret2
      exact ⟨rfl, Below.refl _ _⟩
    · rw [decide_eq_false hsp] at q1
      rw [charW, if_neg hsp]
      clear rd ht hca hsp hn hm
      cases hu : unspellL (a :: t) with
      | none =>
        rw [hu] at HU
        simp only [unsV] at HU
        clear hu
        go_enter Tryz.func83, Tryz.ntmps83
        go_wp2_with (go_at_call 125; refine HU.out.mono ?_; rintro e w1 ⟨rfl, hb1⟩)
        go_ret2
        exact ⟨rfl, hb1⟩
      | some x =>
        obtain ⟨r, k⟩ := x
        rw [hu] at HU
        simp only [unsV] at HU
        clear hu
        go_enter Tryz.func83, Tryz.ntmps83
        go_wp2_with (go_at_call 125; refine HU.out.mono ?_; rintro e w1 ⟨rfl, hb1⟩)
        go_ret2
        exact ⟨rfl, hb1⟩
/-- The bytes of a text whose first letters are raised. -/
def raN (s : ByteArray) (j : Nat) : List Nat := ((bytN s).take j).map (fun b => b - 32) ++ (bytN s).drop j
theorem raN_len (s : ByteArray) (j : Nat) : (raN s j).length = s.size := by
  unfold raN
  rw [List.length_append, List.length_map, List.length_take, List.length_drop, bytN_len]
  omega
theorem raN_get (s : ByteArray) (j i : Nat) (h : i < s.size) : (raN s j)[i]'(by rw [raN_len]; exact h) = if i < j then (bytN s)[i]'(by rw [bytN_len]; exact h) - 32 else (bytN s)[i]'(by rw [bytN_len]; exact h) := by
  unfold raN
  rw [List.getElem_append]
  by_cases hi : i < j
  · rw [if_pos hi, dif_pos (by rw [List.length_map, List.length_take, bytN_len]; omega)]
    simp
  · rw [if_neg hi, dif_neg (by rw [List.length_map, List.length_take, bytN_len]; omega)]
    simp only [List.length_map, List.length_take, bytN_len, List.getElem_drop]
    congr 1
    omega
theorem raN_raise (s : ByteArray) (j : Nat) (hb : ∀ c ∈ s.data.toList, 97 ≤ c.toNat ∧ c.toNat ≤ 122) : (⟨((raN s j).map fun b => UInt8.ofNat b).toArray⟩ : ByteArray) = raiseL s j := by
  unfold raN raiseL bytN
  apply ByteArray.ext
  apply Array.toList_inj.1
  simp only [List.map_append, List.map_map, ← List.map_take, ← List.map_drop]
  congr 1
  · refine List.map_congr_left fun c hc => ?_
    obtain ⟨h1, h2⟩ := hb c (List.mem_of_mem_take hc)
    show UInt8.ofNat (c.toNat - 32) = upB c
    unfold upB
    rw [if_pos ⟨h1, h2⟩]
    apply UInt8.toNat_inj.1
    have h3 := UInt8.toNat_sub_of_le c 32 (UInt8.le_iff_toNat_le.2 (Nat.le_trans (by decide) h1))
    rw [h3, UInt8.toNat_ofNat']
    show (c.toNat - 32) % 256 = c.toNat - 32
    omega
  · refine (List.map_congr_left fun c hc => ?_).trans (List.map_id _)
    show UInt8.ofNat c.toNat = c
    simp
theorem raise_more (s : ByteArray) (k : Nat) (h : s.size ≤ k) : raiseL s k = raiseL s s.size := by
  unfold raiseL
  have hl : s.data.toList.length = s.size := by simp
  rw [List.take_of_length_le (by omega), List.drop_of_length_le (by omega), List.take_of_length_le (by omega), List.drop_of_length_le (by omega)]
/-- The bytes in memory. -/
def RaS (w : World) (s : ByteArray) (j : Nat) (wr : World) : Prop :=
  (∀ i (h : i < s.size), wr.cell? ⟨w.heap.size, i, none⟩ = some (.int .u8 ((raN s j)[i]'(by rw [raN_len]; exact h) : Nat)) ∧ wr.frozen? ⟨w.heap.size, i, none⟩ = false) ∧ Below w.heap.size w wr
theorem RaS.str {w wr : World} {s : ByteArray} {j c : Nat} (h : RaS w s j wr) (hb : ∀ c ∈ s.data.toList, 97 ≤ c.toNat ∧ c.toNat ≤ 122) :
    (convert 77 9 (.slice (some ⟨w.heap.size, 0, none⟩) s.size c)).run Tryz.prog wr = .ok (.string (raiseL s j)) wr := by
  rw [← raN_raise s j hb]
  refine conv_any (B := w.heap.size + 1) (l := raN s j) ?_ (raN_len s j) ?_
  · refine Rd.some_ (by rw [byV_len, raN_len]; omega) (by omega) fun t u hu => ?_
    have ht : t < s.size := by
      rcases Nat.lt_or_ge t s.size with h | h
      · exact h
      · rw [List.getElem?_eq_none (by rw [byV_len, raN_len]; exact h)] at hu; cases hu
    rw [byV_get _ _ (by rw [raN_len]; exact ht)] at hu
    rw [Nat.zero_add, (h.1 t ht).1]
    exact hu
  · intro b hb'
    obtain ⟨i, hi, rfl⟩ := List.mem_iff_getElem.1 hb'
    rw [raN_len] at hi
    have hlt : (bytN s)[i]'(by rw [bytN_len]; exact hi) < 256 := by
      simp only [bytN, List.getElem_map]
      exact UInt8.toNat_lt _
    rw [raN_get s j i hi]
    split <;> omega
theorem RaS.next {w wr : World} {s : ByteArray} {j : Nat} (h : RaS w s j wr) (hj : j < s.size) : RaS w s (j + 1) (wr.setCell ⟨w.heap.size, j, none⟩ (.int .u8 (((bytN s)[j]'(by rw [bytN_len]; exact hj) - 32 : Nat) : Int))) := by
  refine ⟨fun i hi => ⟨?_, ?_⟩, h.2.setCell (Nat.le_refl _) _⟩
  · by_cases hij : i = j
    · subst hij
      rw [World.cell?_setCell_same' _ _ _ (by rw [(h.1 i hi).1]; rfl), raN_get s (i + 1) i hi, if_pos (by omega)]
    · rw [World.cell?_setCell_other _ _ _ _ (by intro e; injection e with _ e; exact hij e.symm), (h.1 i hi).1, raN_get s (j + 1) i hi, raN_get s j i hi]
      by_cases hl : i < j
      · rw [if_pos hl, if_pos (by omega)]
      · rw [if_neg hl, if_neg (by omega)]
  · rw [World.frozen?_setCell]
    exact (h.1 i hi).2
theorem RaS.first (w : World) (s : ByteArray) : RaS w s 0 (w.drew.alloc (.cells (bytesRow s (grownCap w s.size 0 5)) 5 ((bytesRow s (grownCap w s.size 0 5)).size, (bytesRow s (grownCap w s.size 0 5)).size + 1))) := by
  have hrow : (w.drew.alloc (.cells (bytesRow s (grownCap w s.size 0 5)) 5 ((bytesRow s (grownCap w s.size 0 5)).size, (bytesRow s (grownCap w s.size 0 5)).size + 1))).heap[w.heap.size]? = some (.cells (bytesRow s (grownCap w s.size 0 5)) 5 ((bytesRow s (grownCap w s.size 0 5)).size, (bytesRow s (grownCap w s.size 0 5)).size + 1)) := heap_alloc_new w.drew _
  refine ⟨fun i hi => ⟨?_, ?_⟩, (Below.refl _ _).drew.alloc (Nat.le_refl _) _⟩
  · rw [cell_of_row _ _ _ _ _ _ hrow]
    unfold bytesRow
    rw [Array.getElem?_append_left (by simpa using hi), Array.getElem?_map, Array.getElem?_eq_getElem (by simpa using hi), raN_get s 0 i hi, if_neg (by omega)]
    simp [bytN]
  · unfold World.frozen?
    rw [hrow]
    have : i < (bytesRow s (grownCap w s.size 0 5)).size := by
      unfold bytesRow
      rw [Array.size_append, Array.size_map]
      have : s.data.size = s.size := rfl
      omega
    simp only [decide_eq_false_iff_not, Bool.and_eq_false_iff, decide_eq_true_eq]
    omega
set_option maxHeartbeats 1000000 in
theorem rraised (s : ByteArray) (hz : azB s = true) (hs : s.size ≤ 1000000) (k : Nat) (hk : k ≤ 1000000) (w : World) : Calls Tryz.prog 81 #[.string s, .int .i64 k] w (Gives (.string (raiseL s k)) w) := by
  have hby := (azB_bytes hz).2
  have HR : Hid (∀ j, (j = k ∨ j = s.size) → j ≤ k → raiseL s j = raiseL s k) := Lib.hid fun j h hj => by
    rcases h with rfl | rfl
    · rfl
    · exact (raise_more s k hj).symm
  have HStr : Hid (∀ j wr c, RaS w s j wr → (convert 77 9 (.slice (some ⟨w.heap.size, 0, none⟩) s.size c)).run Tryz.prog wr = .ok (.string (raiseL s j)) wr) := Lib.hid fun j wr c h => h.str hby
  have HB : Hid (∀ j (h : j < s.size), 97 ≤ (bytN s)[j]'(by rw [bytN_len]; exact h) ∧ (bytN s)[j]'(by rw [bytN_len]; exact h) ≤ 122) := Lib.hid fun j h => by
    simp only [bytN, List.getElem_map]
    exact hby _ (List.getElem_mem _)
  have hcv := run_bytes_of_string (P := Tryz.prog) w 9 77 5 s Tryz.underlying9 Tryz.underlying77 Tryz.underlying5
  have h0 := RaS.first w s
  generalize w.drew.alloc (.cells (bytesRow s (grownCap w s.size 0 5)) 5 ((bytesRow s (grownCap w s.size 0 5)).size, (bytesRow s (grownCap w s.size 0 5)).size + 1)) = X at *
  generalize grownCap w s.size 0 5 = cp at *
  generalize raiseL s k = RS at *
  clear hz hby
  go_enter Tryz.func81, Tryz.ntmps81
  go_wp2
  go_loopw [6] (fun x wr => ∃ j : Nat, j ≤ s.size ∧ j ≤ k ∧ x = .int .i64 j ∧ RaS w s j wr) (fun x _ => s.size - (intOf x).toNat)
  case atStart => exact ⟨0, Nat.zero_le _, Nat.zero_le _, rfl, h0⟩
  case round =>
    clear h0 hcv
    obtain ⟨j, hj, hjk, rfl, hR⟩ := hrel
    by_cases hlk : j < k
    · by_cases hlt : j < s.size
      · have hn := hR.next hlt
        obtain ⟨hc, hf⟩ := hR.1 j hlt
        obtain ⟨b1, b2⟩ := HB.out j hlt
        rw [raN_get s j j hlt, if_neg (Nat.lt_irrefl j)] at hc
        generalize (bytN s)[j]'(by rw [bytN_len]; exact hlt) = bj at *
        have hwb : IntKind.u8.wrap ((bj : Int) - 32) = ((bj - 32 : Nat) : Int) := by rw [IntKind.wrap_u8]; omega
        clear HB HStr HR
        go_wp2
        exact ⟨⟨j + 1, by omega, by omega, by go_num, hn⟩, by simp [intOf]; omega⟩
      · obtain rfl : j = s.size := by omega
        have hst := HStr.out _ _ cp hR
        have hR2 := Lib.hid (HR.out _ (.inr rfl) hjk)
        clear HStr HB HR
        go_wp2
        go_ret
        exact ⟨by rw [hR2.out]; rfl, hR.2⟩
    · obtain rfl : j = k := by omega
      have hst := HStr.out _ _ cp hR
      have hR2 := Lib.hid (HR.out _ (.inl rfl) hjk)
      clear HStr HB HR
      go_wp2
      go_ret
      exact ⟨by rw [hR2.out]; rfl, hR.2⟩
end Go.Proofs.YtndgcjdiemfngaaGreatDoor
/- The reference of layer 40: literal. -/
namespace Go.Proofs.YtndgcjdiemfngaaGreatDoor
open Go.RowKit
set_option maxRecDepth 20000
set_option maxHeartbeats 8000000 in
theorem rliteral (l : List ByteArray) (A : Option Addr) (n c B : Nat) (w : World) (hsz : ∀ s ∈ l, s.size ≤ 1000) (hl : l.length ≤ 1000000) (rd : Rd w B 1 A n (sv l)) (hB : B ≤ w.heap.size) (ht : Tb w) :
    Calls Tryz.prog 79 #[.slice A n c] w (Gives (litV (litL l)) w) := by
  have hn : l.length = n := by have := rd.1; simp [sv] at this; omega
  cases l with
  | nil =>
    obtain rfl : n = 0 := by simpa using hn.symm
    clear rd ht
    go_enter Tryz.func79, Tryz.ntmps79
    go_wp2
    go_ret2
    exact ⟨rfl, Below.refl _ _⟩
  | cons a t =>
    have hn1 : 0 < n := by rw [← hn]; simp
    have htl : t.length + 1 = n := by simpa using hn
    obtain ⟨b, o, rfl, hb, hca⟩ := rd.at_ hn1
    have ha : w.cell? ⟨b, o, none⟩ = some (.string a) := hca
    have HCa : Hid (∀ w', Below w.heap.size w w' → w'.cell? ⟨b, o, none⟩ = some (.string a)) := Lib.hid fun w' hw => (hw.cell (by show b < _; omega)).trans ha
    have HLow : ∀ s : ByteArray, s.size ≤ 1000 → Hid (∀ w', Below w.heap.size w w' → Calls Tryz.prog 122 #[.string s] w' fun e w'' => e = .returned (.bool (azB s)) ∧ Below w.heap.size w w'') := fun s hs => Lib.hid fun w' hw => (rlower s (Nat.le_trans hs (by decide)) w').mono fun e w'' ⟨h1, h2⟩ => ⟨h1, hw.trans (h2.mono hw.size)⟩
    have HPa := HLow a (hsz a (by simp))
    have HRs : Hid (∀ w', Below w.heap.size w w' → Calls Tryz.prog 22 #[.string a] w' fun e w'' => e = .returned (.bool (resB a)) ∧ Below w.heap.size w w'') := Lib.hid fun w' hw => (rreserved a w' (ht.below hw)).mono fun e w'' ⟨h1, h2⟩ => ⟨h1, hw.trans (h2.mono hw.size)⟩
    have q1 := strq (a := a) (b := bWord) (l := [119, 111, 114, 100]) rfl
    have q2 := strq (a := a) (b := bSpelled) (l := [115, 112, 101, 108, 108, 101, 100]) rfl
    have hb0 : Below w.heap.size w w := Below.refl _ _
    have hi0 : (0 : Int) < n := by omega
    have hn0 : ((n : Int) == 0) = false := beq_eq_false_iff_ne.2 (by omega)
    by_cases hw : a = bWord
    · rw [decide_eq_true hw] at q1
      have hne : a ≠ bSpelled := by rw [hw]; decide +kernel
      rw [decide_eq_false hne] at q2
      have haz1 : azB a = true := by rw [hw]; decide +kernel
      have hrs1 : resB a = true := by rw [hw]; decide +kernel
      have e1 : azB (t.headD ⟨#[]⟩) = false → litL (a :: t) = none := fun h => by
        rw [litL, if_neg (by rw [h]; simp), if_neg (by rw [hrs1]; simp), if_neg hne]
      rw [hrs1] at HRs
      rw [haz1] at HPa
      cases t with
      | nil =>
        obtain rfl : n = 1 := by simpa using htl.symm
        rw [e1 (by decide +kernel)]
        clear e1 hne haz1 hrs1 hsz hw hca rd HLow
        go_enter Tryz.func79, Tryz.ntmps79
        go_wp2_with (first
            | (go_at_call 122; with_reducible refine (HPa.out _ (by assumption)).mono ?_; rintro e w1 ⟨rfl, hb1⟩; have ha1 := HCa.out _ hb1)
            | (go_at_call 22; with_reducible refine (HRs.out _ (by assumption)).mono ?_; rintro e w2 ⟨rfl, hb2⟩; have ha2 := HCa.out _ hb2))
        go_ret2
        exact ⟨rfl, by assumption⟩
      | cons d t' =>
        have hn2 : 1 < n := by rw [← htl]; simp
        have hi1 : (1 : Int) < n := by omega
        have hcd := rd.at_ hn2
        obtain ⟨b', o', e', _, hcd⟩ := hcd
        simp only [Option.some.injEq, Addr.mk.injEq, and_true] at e'
        obtain ⟨rfl, rfl⟩ := e'
        have hd : w.cell? ⟨b, o + 1, none⟩ = some (.string d) := hcd
        have HCd : Hid (∀ w', Below w.heap.size w w' → w'.cell? ⟨b, o + 1, none⟩ = some (.string d)) := Lib.hid fun w' hw => (hw.cell (by show b < _; omega)).trans hd
        have HPd := HLow d (hsz d (by simp))
        rw [List.headD_cons] at e1
        cases hz : azB d with
        | true =>
          have e2 : litL (a :: d :: t') = some (d, 2) := by rw [litL, List.headD_cons, if_pos ⟨hw, hz⟩]
          rw [e2]
          rw [hz] at HPd
          clear e1 e2 hne haz1 hrs1 hsz hw hca hcd rd hz HLow
          go_enter Tryz.func79, Tryz.ntmps79
          go_wp2_with (first
              | (go_at_call 122; with_reducible refine (HPd.out _ (by assumption)).mono ?_; rintro e w3 ⟨rfl, hb3⟩; have ha3 := HCa.out _ hb3; have hd3 := HCd.out _ hb3)
              | (go_at_call 122; with_reducible refine (HPa.out _ (by assumption)).mono ?_; rintro e w1 ⟨rfl, hb1⟩; have ha1 := HCa.out _ hb1)
              | (go_at_call 22; with_reducible refine (HRs.out _ (by assumption)).mono ?_; rintro e w2 ⟨rfl, hb2⟩; have ha2 := HCa.out _ hb2))
          go_ret2
          exact ⟨rfl, by assumption⟩
        | false =>
          rw [e1 hz]
          rw [hz] at HPd
          clear e1 hne haz1 hrs1 hsz hw hca hcd rd hz HLow
          go_enter Tryz.func79, Tryz.ntmps79
          go_wp2_with (first
              | (go_at_call 122; with_reducible refine (HPd.out _ (by assumption)).mono ?_; rintro e w3 ⟨rfl, hb3⟩; have ha3 := HCa.out _ hb3; have hd3 := HCd.out _ hb3)
              | (go_at_call 122; with_reducible refine (HPa.out _ (by assumption)).mono ?_; rintro e w1 ⟨rfl, hb1⟩; have ha1 := HCa.out _ hb1)
              | (go_at_call 22; with_reducible refine (HRs.out _ (by assumption)).mono ?_; rintro e w2 ⟨rfl, hb2⟩; have ha2 := HCa.out _ hb2))
          go_ret2
          exact ⟨rfl, by assumption⟩
    · rw [decide_eq_false hw] at q1
      have e1 : litL (a :: t) = if azB a = true ∧ resB a = false then some (a, 1) else if a = bSpelled then spelledL t else none := if_neg fun h => hw h.1
      by_cases hlit : azB a = true ∧ resB a = false
      · rw [e1, if_pos hlit]
        rw [hlit.1] at HPa
        rw [hlit.2] at HRs
        clear e1 hlit q2 hsz hw hca rd HLow
        go_enter Tryz.func79, Tryz.ntmps79
        go_upto_region 1 with fail
        go_cut [20] (fun v wx => v = .bool false ∧ wx = w)
        case first =>
          clear HRs HPa
          by_cases h1n : (1 : Int) < n
          · go_wp2
            go_meet
            exact ⟨rfl, rfl⟩
          · go_wp2
            go_meet
            exact ⟨rfl, rfl⟩
        case rest =>
        obtain ⟨rfl, hwc⟩ := hcut
        rw [hwc]
        clear hwc
        go_upto_region 3 with fail
        go_wp2_with (first
            | (go_at_call 122; with_reducible refine (HPa.out _ (by assumption)).mono ?_; rintro e w1 ⟨rfl, hb1⟩; have ha1 := HCa.out _ hb1)
            | (go_at_call 22; with_reducible refine (HRs.out _ (by assumption)).mono ?_; rintro e w2 ⟨rfl, hb2⟩; have ha2 := HCa.out _ hb2))
        go_ret2
        exact ⟨rfl, by assumption⟩
      · rw [e1, if_neg hlit]
        obtain ⟨RES, hRES⟩ : ∃ x, x = if a = bSpelled then spelledL t else none := ⟨_, rfl⟩
        rw [← hRES]
        replace hRES := Lib.hid hRES
        have hcs : azB a = false ∨ (azB a = true ∧ resB a = true) := by
          cases h1 : azB a with
          | false => exact .inl rfl
          | true =>
            cases h2 : resB a with
            | true => exact .inr ⟨rfl, rfl⟩
            | false => exact absurd ⟨h1, h2⟩ hlit
        have hsz' := Lib.hid hsz
        clear e1 hlit hsz hw hca
        go_enter Tryz.func79, Tryz.ntmps79
        go_upto_region 1 with fail
        go_cut [20] (fun v wx => v = .bool false ∧ wx = w)
        case first =>
          clear HRs HPa
          by_cases h1n : (1 : Int) < n
          · go_wp2
            go_meet
            exact ⟨rfl, rfl⟩
          · go_wp2
            go_meet
            exact ⟨rfl, rfl⟩
        case rest =>
        obtain ⟨rfl, hwc⟩ := hcut
        rw [hwc]
        clear hwc
        go_upto_region 3 with fail
        go_cut [39] (fun v wx => v = .bool false ∧ Below w.heap.size w wx)
        case first =>
          clear hsz' rd q2 HLow
          rcases hcs with hz | ⟨hz, hr⟩
          · rw [hz] at HPa
            clear hz
            go_wp2_with (first
                | (go_at_call 122; with_reducible refine (HPa.out _ (by assumption)).mono ?_; rintro e w1 ⟨rfl, hb1⟩; have ha1 := HCa.out _ hb1)
                | (go_at_call 22; with_reducible refine (HRs.out _ (by assumption)).mono ?_; rintro e w2 ⟨rfl, hb2⟩; have ha2 := HCa.out _ hb2))
            go_meet
            exact ⟨rfl, by assumption⟩
          · rw [hz] at HPa
            rw [hr] at HRs
            clear hz hr
            go_wp2_with (first
                | (go_at_call 122; with_reducible refine (HPa.out _ (by assumption)).mono ?_; rintro e w1 ⟨rfl, hb1⟩; have ha1 := HCa.out _ hb1)
                | (go_at_call 22; with_reducible refine (HRs.out _ (by assumption)).mono ?_; rintro e w2 ⟨rfl, hb2⟩; have ha2 := HCa.out _ hb2))
            go_meet
            exact ⟨rfl, by assumption⟩
        case rest =>
          obtain ⟨wq, rfl⟩ : ∃ x : World, x = wc := ⟨_, rfl⟩
          obtain ⟨rfl, hbc⟩ := hcut
          clear HPa HRs hcs
          have ha1 := HCa.out _ hbc
          by_cases hsp : a = bSpelled
          · rw [decide_eq_true hsp] at q2
            replace hRES := Lib.hid (hRES.out.trans (if_pos hsp))
            have HLt : Hid (∀ k (hk : k < t.length), t[k].size ≤ 1000) := Lib.hid fun k hk => hsz'.out _ (List.mem_cons_of_mem _ (List.getElem_mem hk))
            have HC : Hid (∀ k (hk : k < t.length) w', Below w.heap.size w w' → w'.cell? ⟨b, o + (k + 1), none⟩ = some (.string t[k])) := Lib.hid fun k hk w' hw => by
              obtain ⟨b', o', e', _, hcd⟩ := rd.at_ (k := k + 1) (by omega)
              simp only [Option.some.injEq, Addr.mk.injEq, and_true] at e'
              obtain ⟨rfl, rfl⟩ := e'
              refine (hw.cell (by show b < _; omega)).trans (hcd.trans ?_)
              show (sv (a :: t))[k + 1]? = _
              simp [sv, hk]
            have HS : Hid (∀ k (hk : k < t.length), catT t (k + 1) = catT t k ++ t[k]) := Lib.hid fun k hk => catT_snoc hk
            have HSt : Hid (∀ j, j ≤ t.length → (∀ k (hk : k < t.length), k < j → oneB t[k] = true) → (∀ hk : j < t.length, oneB t[j] = false) → spelledL t = if j = 0 then none else if t[j]? = some bEnd then some (catT t j, j + 2) else none) := Lib.hid fun j h1 h2 h3 => sp_stop h1 h2 h3
            have HSz : Hid (∀ j, j ≤ t.length → (∀ k (hk : k < t.length), k < j → oneB t[k] = true) → (catT t j).size = j) := Lib.hid fun j h1 h2 => catT_size h1 h2
            have HLo := Lib.hid HLow
            rw [← hRES.out] at HSt
            clear rd hsz' hsp q1 ha HLow
            have hl' : t.length ≤ 1000000 := by simp at hl; omega
            have ht' := Lib.hid htl
            clear hn hl htl HCa
            go_wp2
            go_loopw [4, 5] (fun y x wr => ∃ j : Nat, j ≤ t.length ∧ x = .int .i64 (j + 1 : Nat) ∧ y = .string (catT t j) ∧ Below w.heap.size w wr ∧ Hid (∀ k (hk : k < t.length), k < j → oneB t[k] = true)) (fun _ x _ => n - (intOf x).toNat)
            case atStart => exact ⟨0, Nat.zero_le _, rfl, rfl, hbc, Lib.hid fun k hk h => absurd h (Nat.not_lt_zero k)⟩
            case round =>
              clear hbc
              obtain ⟨j, hj, rfl, rfl, hbel, HA⟩ := hrel
              have hz := HSz.out j hj HA.out
              by_cases hlt : j < t.length
              · have HCx := Lib.hid (HC.out j hlt)
                have hc := HCx.out wr hbel
                have HCn := Lib.hid (HS.out j hlt)
                have hxs := HLt.out j hlt
                have HSj := Lib.hid (HSt.out j hj HA.out)
                have HAn : Hid (oneB t[j] = true → ∀ k (hk : k < t.length), k < j + 1 → oneB t[k] = true) := Lib.hid fun h k hk hkj => by
                  rcases Nat.lt_or_ge k j with h' | h'
                  · exact HA.out k hk h'
                  · obtain rfl : k = j := by omega
                    exact h
                have HPx := HLo.out t[j] hxs
                have hqe := strq (a := t[j]) (b := bEnd) (l := [101, 110, 100]) rfl
                have htj : t[j]? = some t[j] := List.getElem?_eq_getElem hlt
                have hjn : j + 1 < n := by have := ht'.out; omega
                have hji : (j : Int) + 1 < n := by omega
                have hje : ((j : Int) + 1 == n) = false := beq_eq_false_iff_ne.2 (by omega)
                by_cases hone : oneB t[j] = true
                · have HA2 := Lib.hid (HAn.out hone)
                  have ho := hone
                  unfold oneB at ho
                  rw [Bool.and_eq_true, decide_eq_true_eq] at ho
                  obtain ⟨ho1, ho2⟩ := ho
                  rw [ho1] at HPx
                  clear HSj HAn HSt hone ho1 HS HSz HC htj HLo hqe
                  generalize t[j] = x at *
                  generalize catT t j = CJ at *
                  go_wp2_with (go_at_call 122; with_reducible refine (HPx.out _ hbel).mono ?_; rintro e w4 ⟨rfl, hbel1⟩; have hc1 := HCx.out _ hbel1)
                  exact ⟨⟨j + 1, by omega, by go_num, by rw [HCn.out], hbel1, HA2⟩, by simp [intOf]; omega⟩
                · have HSj2 := Lib.hid (HSj.out (fun _ => by simpa using hone))
                  rw [htj] at HSj2
                  have hone' : azB t[j] = false ∨ (azB t[j] = true ∧ t[j].size ≠ 1) := by
                    cases h1 : azB t[j] with
                    | false => exact .inl rfl
                    | true =>
                      refine .inr ⟨rfl, fun h2 => hone ?_⟩
                      unfold oneB
                      rw [h1, decide_eq_true h2]
                      rfl
                  have hnend : azB t[j] = false → t[j] ≠ bEnd := fun h e => by rw [e] at h; exact absurd h (by decide +kernel)
                  clear HSj HAn HSt hone HS HSz HC htj HLo HCn HA
                  generalize t[j] = x at *
                  by_cases h0 : j = 0
                  · have he : (catT t j).toList.isEmpty = true := by rw [h0, ByteArray.toList_eq]; rfl
                    have HR2 : Hid (RES = none) := Lib.hid (by rw [HSj2.out, if_pos h0])
                    clear HSj2 hqe hnend h0
                    generalize catT t j = CJ at *
                    rcases hone' with hz1 | ⟨hz1, hx1⟩
                    · rw [hz1] at HPx
                      clear hz1
                      go_wp2_with (go_at_call 122; with_reducible refine (HPx.out _ hbel).mono ?_; rintro e w4 ⟨rfl, hbel1⟩; have hc1 := HCx.out _ hbel1)
                      go_ret2
                      exact ⟨by rw [HR2.out]; rfl, hbel1⟩
                    · rw [hz1] at HPx
                      have hx1' : ((x.size : Int) == 1) = false := beq_eq_false_iff_ne.2 (by omega)
                      clear hz1
                      go_wp2_with (go_at_call 122; with_reducible refine (HPx.out _ hbel).mono ?_; rintro e w4 ⟨rfl, hbel1⟩; have hc1 := HCx.out _ hbel1)
                      go_ret2
                      exact ⟨by rw [HR2.out]; rfl, hbel1⟩
                  · have he : (catT t j).toList.isEmpty = false := isEmpty_no' (by omega)
                    rw [if_neg h0] at HSj2
                    rcases hone' with hz1 | ⟨hz1, hx1⟩
                    · have hne := hnend hz1
                      have HR2 : Hid (RES = none) := Lib.hid (by rw [HSj2.out, if_neg (fun e => hne (by injection e))])
                      rw [decide_eq_false hne] at hqe
                      rw [hz1] at HPx
                      clear HSj2 hne hnend h0 hz1
                      generalize catT t j = CJ at *
                      go_wp2_with (go_at_call 122; with_reducible refine (HPx.out _ hbel).mono ?_; rintro e w4 ⟨rfl, hbel1⟩; have hc1 := HCx.out _ hbel1)
                      go_ret2
                      exact ⟨by rw [HR2.out]; rfl, hbel1⟩
                    · have hx1' : ((x.size : Int) == 1) = false := beq_eq_false_iff_ne.2 (by omega)
                      rw [hz1] at HPx
                      by_cases hend : x = bEnd
                      · have HR2 : Hid (RES = some (catT t j, j + 2)) := Lib.hid (by rw [HSj2.out, if_pos (by rw [hend])])
                        rw [decide_eq_true hend] at hqe
                        clear HSj2 hnend h0 hz1 hend
                        generalize catT t j = CJ at *
                        go_wp2_with (go_at_call 122; with_reducible refine (HPx.out _ hbel).mono ?_; rintro e w4 ⟨rfl, hbel1⟩; have hc1 := HCx.out _ hbel1)
                        go_ret2
                        exact ⟨by rw [HR2.out]; show Ending.returned (.tuple #[.string CJ, .int .i64 ((j : Int) + 1 + 1)]) = .returned (.tuple #[.string CJ, .int .i64 ((j + 2 : Nat) : Int)]); rw [show ((j + 2 : Nat) : Int) = (j : Int) + 1 + 1 by omega], hbel1⟩
                      · have HR2 : Hid (RES = none) := Lib.hid (by rw [HSj2.out, if_neg (fun e => hend (by injection e))])
                        rw [decide_eq_false hend] at hqe
                        clear HSj2 hnend h0 hz1 hend
                        generalize catT t j = CJ at *
                        go_wp2_with (go_at_call 122; with_reducible refine (HPx.out _ hbel).mono ?_; rintro e w4 ⟨rfl, hbel1⟩; have hc1 := HCx.out _ hbel1)
                        go_ret2
                        exact ⟨by rw [HR2.out]; rfl, hbel1⟩
              · obtain rfl : j = t.length := by omega
                have hjn : ¬ t.length + 1 < n := by have := ht'.out; omega
                have hji : ¬ (t.length : Int) + 1 < n := by omega
                have hje : ((t.length : Int) + 1 == n) = true := beq_iff_eq.2 (by have := ht'.out; omega)
                have HR2 : Hid (RES = none) := Lib.hid (by
                  rw [HSt.out t.length (Nat.le_refl _) HA.out (fun hk => absurd hk (Nat.lt_irrefl _))]
                  split
                  · rfl
                  · rw [List.getElem?_eq_none (Nat.le_refl _), if_neg (by simp)])
                by_cases h0 : t.length = 0
                · have he : (catT t t.length).toList.isEmpty = true := by
                    have : catT t t.length = ⟨#[]⟩ := by rw [h0]; rfl
                    rw [this, ByteArray.toList_eq]; rfl
                  clear HSt HS HSz HC HA HLt HLo
                  generalize catT t t.length = CJ at *
                  go_wp2
                  go_ret2
                  exact ⟨by rw [HR2.out]; rfl, hbel⟩
                · have he : (catT t t.length).toList.isEmpty = false := isEmpty_no' (by omega)
                  clear HSt HS HSz HC HA HLt HLo
                  generalize catT t t.length = CJ at *
                  go_wp2
                  go_ret2
                  exact ⟨by rw [HR2.out]; rfl, hbel⟩
          · rw [decide_eq_false hsp] at q2
            replace hRES := Lib.hid (hRES.out.trans (if_neg hsp))
            clear rd hsz' hsp q1 ha HLow
            go_wp2
            go_ret2
            exact ⟨by rw [hRES.out]; rfl, hbc⟩
end Go.Proofs.YtndgcjdiemfngaaGreatDoor
