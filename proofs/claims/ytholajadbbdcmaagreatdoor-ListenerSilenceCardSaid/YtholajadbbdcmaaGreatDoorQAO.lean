/- Joined texts: Ch2, Ch3, Cl1, Cl2, Rn5, Rn6. -/
import Derived.Test.YtholajadbbdcmaaGreatDoorQAA
import Derived.Test.YtholajadbbdcmaaGreatDoorQAB
import Derived.Test.YtholajadbbdcmaaGreatDoorQAC
import Derived.Test.YtholajadbbdcmaaGreatDoorQAG
import Derived.Test.YtholajadbbdcmaaGreatDoorQAL
import Derived.Test.YtholajadbbdcmaaGreatDoorQAM
import Derived.Test.YtholajadbbdcmaaGreatDoorQAN
set_option linter.unusedVariables false
set_option linter.unusedSimpArgs false
set_option linter.unnecessarySimpa false
namespace Go.Proofs.YtholajadbbdcmaaGreatDoor
open Go.RowKit
set_option maxHeartbeats 1000000 in
theorem marks_ (w : World) : Calls Tryz.prog 169 #[] w (GivesOwn 218 2 id w 7 (encT markT)) := by
 go_enter Tryz.func169, Tryz.ntmps169
 go_wp2
 go_ret
 exact ⟨_, _, rfl, own_built (xs := encT markT) rfl rfl (Nat.le_refl _) (by omega), (Below.refl _ _).alloc (Nat.le_refl _) _⟩
set_option maxHeartbeats 1000000 in
theorem wide_ (w : World) : Calls Tryz.prog 149 #[] w (GivesOwn 218 2 id w 14 (encT wideT)) := by
 go_enter Tryz.func149, Tryz.ntmps149
 go_wp2
 go_ret
 exact ⟨_, _, rfl, own_built (xs := encT wideT) rfl rfl (Nat.le_refl _) (by omega), (Below.refl _ _).alloc (Nat.le_refl _) _⟩
set_option maxHeartbeats 1000000 in
theorem finder_ (A : Option Addr) (n c : Nat) (w : World) : Calls Tryz.prog 148 #[.slice A n c] w fun e w' => e = .returned (.func (.func 170) #[] #[.pointer (some ⟨w.heap.size, 0, none⟩)]) ∧ w.alloc (.cells #[.slice A n c] 193) = w' := by
 go_enter Tryz.func148, Tryz.ntmps148
 go_wp2
 go_ret
 exact ⟨rfl, rfl⟩
set_option maxHeartbeats 1000000 in
theorem mark_ (r : Int) (w : World) : Calls Tryz.prog 147 #[.int .i32 r] w (Gives (.bool (inT markT r)) w) := by
 have HF : Hid (∀ g c B A w, w.cell? ⟨g, 0, none⟩ = some (.slice A 7 c) → Rd w B 2 A 7 (encT markT) → Calls Tryz.prog 170 #[.int .i32 r, .pointer (some ⟨g, 0, none⟩)] w (Quiet (.bool (inT markT r)) w)) := Lib.hid fun g c B A w h1 h2 => found markT mark_apart mark_up r g 7 c B A w rfl (by omega) h1 h2
 generalize inT markT r = R at *
 go_enter Tryz.func147, Tryz.ntmps147
 go_wp2_with (first
  | (go_at_call 169; refine (marks_ _).mono ?_; rintro e w1 ⟨A1, c1, rfl, hown1, hbel1⟩)
  | (go_at_call 148; refine (finder_ _ _ _ _).mono ?_; rintro e w2 ⟨rfl, rfl⟩)
  | (go_at_call 170; go_loud (refine (HF.out w1.heap.size c1 _ A1 _ (cell_built w1 #[.slice A1 7 c1] _ 0) (Rd.of_own (own_below hown1 ((Below.refl _ _).alloc (Nat.le_refl _) _)))).mono ?_); rintro e w3 ⟨rfl, q3, rfl⟩))
 go_ret
 exact ⟨rfl, below_drewN (hbel1.alloc hbel1.size _)⟩
end Go.Proofs.YtholajadbbdcmaaGreatDoor
namespace Go.Proofs.YtholajadbbdcmaaGreatDoor
open Go.RowKit
theorem widL_ctl {r : Int} (h : r < 32 ∨ (127 ≤ r ∧ r ≤ 159)) : widL r = -1 := if_pos h
theorem widL_mark {r : Int} (h : ¬ (r < 32 ∨ (127 ≤ r ∧ r ≤ 159))) (hm : inT markT r = true) : widL r = 0 := by unfold widL; rw [if_neg h, if_pos hm]
theorem widL_wide {r : Int} (h : ¬ (r < 32 ∨ (127 ≤ r ∧ r ≤ 159))) (hm : inT markT r = false) : widL r = if inT wideT r = true then 2 else 1 := by unfold widL; rw [if_neg h, if_neg (by simp [hm])]
set_option maxHeartbeats 1000000 in
theorem width_ (r : Int) (w : World) : Calls Tryz.prog 129 #[.int .i32 r] w (Gives (.int .i64 (widL r)) w) := by
 have HF : Hid (∀ g c B A w, w.cell? ⟨g, 0, none⟩ = some (.slice A 14 c) → Rd w B 2 A 14 (encT wideT) → Calls Tryz.prog 170 #[.int .i32 r, .pointer (some ⟨g, 0, none⟩)] w (Quiet (.bool (inT wideT r)) w)) := Lib.hid fun g c B A w h1 h2 => found wideT wide_apart wide_up r g 14 c B A w rfl (by omega) h1 h2
 have HM := Lib.hid (mark_ r)
 have H0 := Lib.hid (@widL_ctl r)
 have H1 := Lib.hid (@widL_mark r)
 have H2 := Lib.hid (@widL_wide r)
 generalize widL r = W at *
 by_cases hc : r < 32 ∨ (127 ≤ r ∧ r ≤ 159)
 ·have HW : Hid (W = -1) := Lib.hid (H0.out hc)
  clear H0 H1 H2 HM HF
  rcases hc with hc | ⟨hc1, hc2⟩
  ·go_enter Tryz.func129, Tryz.ntmps129
   go_wp2
   go_ret
   exact ⟨by rw [HW.out]; rfl, by first | exact Below.refl _ _ | exact below_drewN (Below.refl _ _)⟩
  ·have hc3 : ¬ r < 32 := by omega
   go_enter Tryz.func129, Tryz.ntmps129
   go_wp2
   go_ret
   exact ⟨by rw [HW.out]; rfl, by first | exact Below.refl _ _ | exact below_drewN (Below.refl _ _)⟩
 ·generalize inT markT r = M at *
  cases M with
  | true =>
   have HW : Hid (W = 0) := Lib.hid (H1.out hc rfl)
   clear H0 H1 H2 HF
   rw [not_or] at hc
   obtain ⟨hc0, hc⟩ := hc
   by_cases hc1 : 127 ≤ r
   ·have hc2 : ¬ r ≤ 159 := by omega
    clear hc
    go_enter Tryz.func129, Tryz.ntmps129
    go_wp2_with (go_at_call 147; refine (HM.out _).mono ?_; rintro e w1 ⟨rfl, hbel1⟩)
    go_ret
    exact ⟨by rw [HW.out]; rfl, hbel1⟩
   ·clear hc
    go_enter Tryz.func129, Tryz.ntmps129
    go_wp2_with (go_at_call 147; refine (HM.out _).mono ?_; rintro e w1 ⟨rfl, hbel1⟩)
    go_ret
    exact ⟨by rw [HW.out]; rfl, hbel1⟩
  | false =>
   have HW : Hid (W = if inT wideT r = true then 2 else 1) := Lib.hid (H2.out hc rfl)
   generalize inT wideT r = V at *
   clear H0 H1 H2
   rw [not_or] at hc
   obtain ⟨hc0, hc⟩ := hc
   have hd : 127 ≤ r ∧ ¬ r ≤ 159 ∨ ¬ 127 ≤ r := by omega
   clear hc
   rcases hd with ⟨hc1, hc2⟩ | hc1 <;> cases V <;>
   ·go_enter Tryz.func129, Tryz.ntmps129
    go_wp2_with (first
     | (go_at_call 147; refine (HM.out _).mono ?_; rintro e w1 ⟨rfl, hbel1⟩)
     | (go_at_call 149; refine (wide_ _).mono ?_; rintro e w2 ⟨A2, c2, rfl, hown2, hbel2⟩; have t2 := hbel1.trans (hbel2.mono hbel1.size))
     | (go_at_call 148; refine (finder_ _ _ _ _).mono ?_; rintro e w3 ⟨rfl, rfl⟩)
     | (go_at_call 170; go_loud (refine (HF.out w2.heap.size c2 _ A2 _ (cell_built w2 #[.slice A2 14 c2] _ 0) (Rd.of_own (own_below hown2 ((Below.refl _ _).alloc (Nat.le_refl _) _)))).mono ?_); rintro e w4 ⟨rfl, q4, rfl⟩))
    go_ret
    exact ⟨by rw [HW.out]; rfl, below_drewN (t2.alloc t2.size _)⟩
set_option maxHeartbeats 1000000 in
theorem rin2 (t : List (Int × Int)) (r : Int) (n c B : Nat) (A : Option Addr) (w : World) (hn : t.length = n) (hb : n ≤ 1000) (rd : Rd w B 2 A n (encT t)) :
  Calls Tryz.prog 141 #[.slice A n c, .int .i32 r] w (Quiet (.bool (inT t r)) w) := by
 have HF : Hid (inT t r = true ↔ ∃ i, ∃ h : i < t.length, t[i].1 ≤ r ∧ r ≤ t[i].2) := Lib.hid (inT_iff t r)
 have HN := Lib.hid hn
 generalize inT t r = R at *
 clear hn
 go_enter Tryz.func141, Tryz.ntmps141
 go_wp2
 go_loopw [5] (fun x wr => ∃ a j : Nat, a ≤ n ∧ x = .int .i64 a ∧ wr = w.drewN j ∧ Hid (∀ i (h : i < t.length), i < a → ¬ (t[i].1 ≤ r ∧ r ≤ t[i].2))) (fun x _ => n - (intOf x).toNat)
 case atStart => exact ⟨0, 0, Nat.zero_le _, rfl, rfl, Lib.hid fun i h h2 => absurd h2 (Nat.not_lt_zero i)⟩
 case round =>
  obtain ⟨a, j, han, rfl, rfl, HA⟩ := hrel
  by_cases hlt : a < n
  ·have hml : a < t.length := by have := HN.out; omega
   obtain ⟨bb, oo, rfl, c1, c2⟩ := rd_tab rd hml HN.out
   have HY : Hid (t[a].1 ≤ r ∧ r ≤ t[a].2 → R = true) := Lib.hid fun h => HF.out.2 ⟨a, hml, h⟩
   have HZ : Hid (¬ (t[a].1 ≤ r ∧ r ≤ t[a].2) → ∀ i (h : i < t.length), i < a + 1 → ¬ (t[i].1 ≤ r ∧ r ≤ t[i].2)) := Lib.hid fun h0 i h h2 => by
    rcases Nat.lt_or_ge i a with h1 | h1
    ·exact HA.out i h h1
    ·obtain rfl : i = a := by omega
     exact h0
   generalize t[a].1 = y at *
   generalize t[a].2 = z at *
   by_cases h1 : y ≤ r
   ·by_cases h2 : r ≤ z
    ·have HR := Lib.hid (HY.out ⟨h1, h2⟩)
     go_wp2
     go_ret
     exact ⟨by rw [HR.out]; rfl, _, rfl⟩
    ·have HR := Lib.hid (HZ.out fun h => h2 h.2)
     clear HY HZ
     go_wp2
     exact ⟨⟨a + 1, _, by omega, by go_num, rfl, HR⟩, by simp [intOf]; omega⟩
   ·have HR := Lib.hid (HZ.out fun h => h1 h.1)
    clear HY HZ
    go_wp2
    exact ⟨⟨a + 1, _, by omega, by go_num, rfl, HR⟩, by simp [intOf]; omega⟩
  ·have HR : Hid (R = false) := Lib.hid (by
    cases hR : R with
    | false => rfl
    | true =>
     obtain ⟨i, h, h1⟩ := HF.out.1 hR
     exact absurd h1 (HA.out i h (by have := HN.out; omega)))
   clear HF
   go_wp2
   go_ret
   exact ⟨by rw [HR.out]; rfl, _, rfl⟩
set_option maxHeartbeats 1000000 in
theorem rmarks (w : World) : Calls Tryz.prog 142 #[] w (GivesOwn 218 2 id w 7 (encT markT)) := by
 go_enter Tryz.func142, Tryz.ntmps142
 go_wp2
 go_ret
 exact ⟨_, _, rfl, own_built (xs := encT markT) rfl rfl (Nat.le_refl _) (by omega), (Below.refl _ _).alloc (Nat.le_refl _) _⟩
set_option maxHeartbeats 1000000 in
theorem rwide (w : World) : Calls Tryz.prog 143 #[] w (GivesOwn 218 2 id w 14 (encT wideT)) := by
 go_enter Tryz.func143, Tryz.ntmps143
 go_wp2
 go_ret
 exact ⟨_, _, rfl, own_built (xs := encT wideT) rfl rfl (Nat.le_refl _) (by omega), (Below.refl _ _).alloc (Nat.le_refl _) _⟩
set_option maxHeartbeats 1000000 in
theorem rmark (r : Int) (w : World) : Calls Tryz.prog 118 #[.int .i32 r] w (Gives (.bool (inT markT r)) w) := by
 have HF := Lib.hid (rin2 markT r)
 generalize inT markT r = R at *
 go_enter Tryz.func118, Tryz.ntmps118
 go_wp2_with (first
  | (go_at_call 142; refine (rmarks _).mono ?_; rintro e w1 ⟨A1, c1, rfl, hown1, hbel1⟩)
  | (go_at_call 141; refine (HF.out 7 c1 _ A1 _ rfl (by omega) (Rd.of_own hown1)).mono ?_; rintro e w3 ⟨rfl, q3, rfl⟩))
 go_ret
 exact ⟨rfl, below_drewN hbel1⟩
set_option maxHeartbeats 1000000 in
theorem rwidth (r : Int) (w : World) : Calls Tryz.prog 119 #[.int .i32 r] w (Gives (.int .i64 (widL r)) w) := by
 have HF := Lib.hid (rin2 wideT r)
 have HM := Lib.hid (rmark r)
 have H0 := Lib.hid (@widL_ctl r)
 have H1 := Lib.hid (@widL_mark r)
 have H2 := Lib.hid (@widL_wide r)
 generalize widL r = W at *
 by_cases hc : r < 32 ∨ (127 ≤ r ∧ r ≤ 159)
 ·have HW : Hid (W = -1) := Lib.hid (H0.out hc)
  clear H0 H1 H2 HM HF
  rcases hc with hc | ⟨hc1, hc2⟩
  ·go_enter Tryz.func119, Tryz.ntmps119
   go_wp2
   go_ret
   exact ⟨by rw [HW.out]; rfl, by first | exact Below.refl _ _ | exact below_drewN (Below.refl _ _)⟩
  ·have hc3 : ¬ r < 32 := by omega
   go_enter Tryz.func119, Tryz.ntmps119
   go_wp2
   go_ret
   exact ⟨by rw [HW.out]; rfl, by first | exact Below.refl _ _ | exact below_drewN (Below.refl _ _)⟩
 ·have hd : ¬ r < 32 ∧ (127 ≤ r ∧ ¬ r ≤ 159 ∨ ¬ 127 ≤ r) := by omega
  generalize inT markT r = M at *
  cases M with
  | true =>
   have HW : Hid (W = 0) := Lib.hid (H1.out hc rfl)
   clear H0 H1 H2 HF hc
   obtain ⟨hc0, hd⟩ := hd
   rcases hd with ⟨hc1, hc2⟩ | hc1 <;>
   ·go_enter Tryz.func119, Tryz.ntmps119
    go_wp2_with (go_at_call 118; refine (HM.out _).mono ?_; rintro e w1 ⟨rfl, hbel1⟩)
    go_ret
    exact ⟨by rw [HW.out]; rfl, hbel1⟩
  | false =>
   have HW : Hid (W = if inT wideT r = true then 2 else 1) := Lib.hid (H2.out hc rfl)
   generalize inT wideT r = V at *
   clear H0 H1 H2 hc
   obtain ⟨hc0, hd⟩ := hd
   rcases hd with ⟨hc1, hc2⟩ | hc1 <;> cases V <;>
   ·go_enter Tryz.func119, Tryz.ntmps119
    go_wp2_with (first
     | (go_at_call 118; refine (HM.out _).mono ?_; rintro e w1 ⟨rfl, hbel1⟩)
     | (go_at_call 143; refine (rwide _).mono ?_; rintro e w2 ⟨A2, c2, rfl, hown2, hbel2⟩; have t2 := hbel1.trans (hbel2.mono hbel1.size))
     | (go_at_call 141; refine (HF.out 14 c2 _ A2 _ rfl (by omega) (Rd.of_own hown2)).mono ?_; rintro e w4 ⟨rfl, q4, rfl⟩))
    go_ret
    exact ⟨by rw [HW.out]; rfl, below_drewN t2⟩
end Go.Proofs.YtholajadbbdcmaaGreatDoor
namespace Go.Proofs.YtholajadbbdcmaaGreatDoor
open Go.RowKit
set_option maxHeartbeats 1000000 in
theorem marked_ (rs : List Nat) (A : Option Addr) (n c B : Nat) (w : World) (hn : rs.length = n) (hb : n ≤ 100000000000) (rd : Rd w B 1 A n (chV rs)) (hB : B ≤ w.heap.size) :
  Calls Tryz.prog 130 #[.slice A n c] w (Gives (.bool (rs.all fun (x : Nat) => inT markT (x : Int))) w) := by
 have HF : Hid ((rs.all fun (x : Nat) => inT markT (x : Int)) = ((rs.drop 0).all fun (x : Nat) => inT markT (x : Int))) := Lib.hid rfl
 have HN := Lib.hid hn
 generalize (rs.all fun (x : Nat) => inT markT (x : Int)) = R at *
 clear hn
 go_enter Tryz.func130, Tryz.ntmps130
 go_wp2
 go_loopw [7] (fun x wr => ∃ k : Nat, k ≤ n ∧ x = .int .i64 k ∧ Below w.heap.size w wr ∧ Hid (R = ((rs.drop k).all fun (x : Nat) => inT markT (x : Int)))) (fun x _ => n - (intOf x).toNat)
 case atStart => exact ⟨0, Nat.zero_le _, rfl, Below.refl _ _, HF⟩
 case round =>
  obtain ⟨k, hk, rfl, hbel, HR⟩ := hrel
  by_cases hlt : k < n
  ·have hkl : k < rs.length := by have := HN.out; omega
   obtain ⟨b, o, rfl, hbB, hc⟩ := (rd.keep (w' := wr) fun p hp => hbel.cell (by omega)).at_ hlt
   rw [chV_get _ _ hkl] at hc
   have HD : Hid (rs.drop k = rs[k] :: rs.drop (k + 1)) := Lib.hid (List.drop_eq_getElem_cons hkl)
   generalize rs[k] = x at *
   have HM := Lib.hid (mark_ (x : Int) wr)
   have HT : Hid (inT markT (x : Int) = true → R = ((rs.drop (k + 1)).all fun (x : Nat) => inT markT (x : Int))) := Lib.hid fun h => by rw [HR.out, HD.out, List.all_cons, h, Bool.true_and]
   have HZ : Hid (inT markT (x : Int) = false → R = false) := Lib.hid fun h => by rw [HR.out, HD.out, List.all_cons, h, Bool.false_and]
   generalize inT markT (x : Int) = M at *
   clear HR HD
   cases M with
   | true =>
    have HR2 := Lib.hid (HT.out rfl)
    go_wp2_with (go_at_call 147; refine HM.out.mono ?_; rintro e w1 ⟨rfl, hbel1⟩)
    exact ⟨⟨k + 1, by omega, by go_num, hbel.trans (hbel1.mono hbel.size), HR2⟩, by simp [intOf]; omega⟩
   | false =>
    have HR2 := Lib.hid (HZ.out rfl)
    go_wp2_with (go_at_call 147; refine HM.out.mono ?_; rintro e w1 ⟨rfl, hbel1⟩)
    go_ret
    exact ⟨by rw [HR2.out]; rfl, hbel.trans (hbel1.mono hbel.size)⟩
  ·have HR2 : Hid (R = true) := Lib.hid (by rw [HR.out, List.drop_of_length_le (by have := HN.out; omega)]; rfl)
   go_wp2
   go_ret
   exact ⟨by rw [HR2.out]; rfl, hbel⟩
end Go.Proofs.YtholajadbbdcmaaGreatDoor
namespace Go.Proofs.YtholajadbbdcmaaGreatDoor
open Go.RowKit
set_option maxRecDepth 20000
theorem rd_tailC {w : World} {B n c : Nat} {b o : Nat} {r : Nat} {t : List Nat} (hn : t.length + 1 = n) (hc : n ≤ c) (rd : Rd w B 1 (some ⟨b, o, none⟩) n (chV (r :: t))) :
  Rd w B 1 (if c = 1 then some ⟨b, o, none⟩ else some ⟨b, o + 1, none⟩) (n - 1) (chV t) := by
 have h := rd.cut (k := 1) (cap := c) (by omega) hc
 simp only [Nat.mul_one, Option.map_some, add_none] at h
 exact h
theorem rd_head {w : World} {B n b o : Nat} {v : Value} {xs : List Value} (rd : Rd w B 1 (some ⟨b, o, none⟩) n (v :: xs)) (hn : 0 < n) : w.cell? ⟨b, o, none⟩ = some v := (rd.form hn).2.2 0 v rfl
theorem isEmpty_no {s : ByteArray} (h : s.size ≠ 0) : s.toList.isEmpty = false := by
 rw [ByteArray.toList_eq, List.isEmpty_eq_false_iff]
 intro e
 have := congrArg List.length e
 exact h (by simpa using this)
set_option maxHeartbeats 1000000 in
theorem check_empty (w : World) : Calls Tryz.prog 106 #[.string ⟨#[]⟩] w (Gives (.int .i64 3) w) := by
 go_enter Tryz.func106, Tryz.ntmps106
 go_wp2
 go_ret
 exact ⟨rfl, Below.refl _ _⟩
set_option maxHeartbeats 1000000 in
theorem check_bad (s : ByteArray) (hs : s.size ≤ 1000000000) (h0 : s.size ≠ 0) (hv : validB s = false) (w : World) (hu : U8 w) : Calls Tryz.prog 106 #[.string s] w (Gives (.int .i64 3) w) := by
 have HV := Lib.hid (valid_ s hs w hu)
 rw [hv] at HV
 have he := isEmpty_no h0
 clear hu hv
 go_enter Tryz.func106, Tryz.ntmps106
 go_wp2_with (go_at_call 128; refine HV.out.mono ?_; rintro e w1 ⟨rfl, hbel1⟩)
 go_ret
 exact ⟨rfl, hbel1⟩
set_option maxHeartbeats 2000000 in
theorem check_good (s : ByteArray) (hs : s.size ≤ 1000000000) (h0 : s.size ≠ 0) (hv : validB s = true) (w : World) (hu : U8 w) (r : Nat) (t : List Nat) (hc : charsL (bytN s) = r :: t) :
  Calls Tryz.prog 106 #[.string s] w (Gives (.int .i64 (if widL (r : Int) < 1 ∨ (t.all fun (x : Nat) => inT markT (x : Int)) = false then 9 else if 3 < t.length then 5 else 0)) w) := by
 have HV := Lib.hid (valid_ s hs w hu)
 rw [hv] at HV
 have he := isEmpty_no h0
 have HC : Hid (∀ w, _) := Lib.hid (conv_runes s hv hs)
 have hl := charsL_len s
 rw [hc] at HC hl
 rw [List.length_cons] at HC hl
 have HW := Lib.hid (width_ (r : Int))
 have HM := Lib.hid (fun (n c B : Nat) A w => marked_ t A n c B w)
 generalize (t.all fun (x : Nat) => inT markT (x : Int)) = M at *
 generalize widL (r : Int) = W at *
 obtain ⟨RES, hRES⟩ : ∃ x : Int, x = if W < 1 ∨ M = false then 9 else if 3 < t.length then 5 else 0 := ⟨_, rfl⟩
 rw [← hRES]
 have HRES := Lib.hid hRES
 clear hu hv hc hRES
 go_enter Tryz.func106, Tryz.ntmps106
 go_upto_region 3 with (go_at_call 128; refine HV.out.mono ?_; rintro e w1 ⟨rfl, hbel1⟩)
 obtain ⟨c2, w2, hrun, rd2, hbel2, hcap⟩ := HC.out w1
 have z1 := hbel1.size
 have z2 := hbel2.size
 go_upto_region 4 with fail
 have cell0 : w2.cell? ⟨w1.heap.size, 0, none⟩ = some (.int .i32 (r : Int)) := rd_head rd2 (by omega)
 have HT := Lib.hid (rd_tailC rfl hcap rd2)
 rw [Nat.add_sub_cancel, Nat.zero_add] at HT
 by_cases hw : W < 1
 ·go_wp2_with (go_at_call 129; refine (HW.out _).mono ?_; rintro e w3 ⟨rfl, hbel3⟩)
  go_ret
  exact ⟨by rw [HRES.out, if_pos (.inl hw)]; rfl, (hbel1.trans (hbel2.mono z1)).trans (hbel3.mono (by omega))⟩
 ·cases M with
  | false =>
   go_wp2_with (first
    | (go_at_call 129; refine (HW.out _).mono ?_; rintro e w3 ⟨rfl, hbel3⟩; have z3 := hbel3.size)
    | (go_at_call 130; refine (HM.out _ _ w2.heap.size _ _ rfl (by omega) (HT.out.below hbel3) z3).mono ?_; rintro e w4 ⟨rfl, hbel4⟩))
   all_goals go_ret
   all_goals exact ⟨by rw [HRES.out, if_pos (by simp)]; rfl, ((hbel1.trans (hbel2.mono z1)).trans (hbel3.mono (by omega))).trans (hbel4.mono (by omega))⟩
  | true =>
   by_cases h3 : 3 < t.length
   ·go_wp2_with (first
     | (go_at_call 129; refine (HW.out _).mono ?_; rintro e w3 ⟨rfl, hbel3⟩; have z3 := hbel3.size)
     | (go_at_call 130; refine (HM.out _ _ w2.heap.size _ _ rfl (by omega) (HT.out.below hbel3) z3).mono ?_; rintro e w4 ⟨rfl, hbel4⟩))
    all_goals go_ret
    all_goals exact ⟨by rw [HRES.out, if_neg (by simp; omega), if_pos h3]; rfl, ((hbel1.trans (hbel2.mono z1)).trans (hbel3.mono (by omega))).trans (hbel4.mono (by omega))⟩
   ·go_wp2_with (first
     | (go_at_call 129; refine (HW.out _).mono ?_; rintro e w3 ⟨rfl, hbel3⟩; have z3 := hbel3.size)
     | (go_at_call 130; refine (HM.out _ _ w2.heap.size _ _ rfl (by omega) (HT.out.below hbel3) z3).mono ?_; rintro e w4 ⟨rfl, hbel4⟩))
    all_goals go_ret
    all_goals exact ⟨by rw [HRES.out, if_neg (by simp; omega), if_neg h3]; rfl, ((hbel1.trans (hbel2.mono z1)).trans (hbel3.mono (by omega))).trans (hbel4.mono (by omega))⟩
theorem check_ (s : ByteArray) (hs : s.size ≤ 1000000000) (w : World) (hu : U8 w) : Calls Tryz.prog 106 #[.string s] w (Gives (.int .i64 (checkC s)) w) := by
 by_cases h0 : s.size = 0
 ·rw [checkC_nonempty h0]
  obtain rfl : s = ⟨#[]⟩ := ByteArray.ext (Array.eq_empty_of_size_eq_zero h0)
  exact check_empty w
 ·unfold checkC
  cases hv : validB s with
  | false => exact check_bad s hs h0 hv w hu
  | true =>
   rw [if_neg (by simp)]
   cases hc : charsL (bytN s) with
   | nil =>
    exfalso
    rw [validB, decide_eq_true_eq, hc] at hv
    have := congrArg List.length hv
    rw [bytN_len] at this
    exact h0 this.symm
   | cons r t => exact check_good s hs h0 hv w hu r t hc
theorem bytN_back (s : ByteArray) : (⟨((bytN s).map fun b => UInt8.ofNat b).toArray⟩ : ByteArray) = s := by
 apply ByteArray.ext
 apply Array.toList_inj.1
 simp [bytN, Function.comp_def]
theorem encS_valid (s : ByteArray) : encS (charsL (bytN s)) = s ↔ validB s = true := by
 rw [validB, decide_eq_true_eq]
 constructor
 ·intro h
  have h2 : bytN (encS (charsL (bytN s))) = encL_ (charsL (bytN s)) := by
   unfold encS
   show List.map UInt8.toNat (List.toArray _).toList = _
   rw [List.map_map]
   refine (List.map_congr_left (g := id) fun b hb => ?_).trans (List.map_id _)
   have := encL_lt (charsL_ch (bytN s)) b hb
   simp
   omega
  rw [← h2, h]
 ·intro h
  unfold encS
  rw [h]
  exact bytN_back s
set_option maxHeartbeats 2000000 in
theorem rvalid (s : ByteArray) (hs : s.size ≤ 1000000000) (w : World) : Calls Tryz.prog 116 #[.string s] w (Gives (.bool (validB s)) w) := by
 have HD := Lib.hid (rdecode s hs w)
 have hl := charsL_len s
 have HE : Hid (∀ (A : Option Addr) (c : Nat) (w : World), Rd w w.heap.size 1 A (charsL (bytN s)).length (chV (charsL (bytN s))) → Calls Tryz.prog 140 #[.slice A (charsL (bytN s)).length c] w (Gives (.string (encS (charsL (bytN s)))) w)) := Lib.hid fun A c w rd => rencode _ (charsL_ch _) A _ c w.heap.size w rfl (by omega) rd (Nat.le_refl _)
 have HV := Lib.hid (encS_valid s)
 have HP : Hid (validB s = true → (uRun (bytN s) (u0, [])).1.m = 0) := Lib.hid validB_pend
 unfold DecP at HD
 generalize (uRun (bytN s) (u0, [])).1.m = m at *
 generalize validB s = R at *
 generalize encS (charsL (bytN s)) = E at *
 generalize charsL (bytN s) = L at *
 by_cases hm' : m = 0
 ·have hm := Lib.hid hm'
  clear hm'
  cases R with
  | true =>
   have hq := Lib.hid (HV.out.2 rfl)
   go_enter Tryz.func116, Tryz.ntmps116
   go_upto_region 2 with (go_at_call 139; refine HD.out.mono ?_; rintro e w1 ⟨A1, c1, rest, rfl, hown1, hbel1, hrest⟩; have hre : rest.toList.isEmpty = true := (by rw [hrest.2 hm.out, ByteArray.toList_eq]; rfl))
   clear HV HP HD hm
   go_wp2_with (go_at_call 140; refine (HE.out _ _ _ (Rd.of_own hown1)).mono ?_; rintro e w2 ⟨rfl, hbel2⟩; obtain rfl := hq.out)
   all_goals go_ret
   all_goals exact ⟨rfl, hbel1.trans (hbel2.mono hbel1.size)⟩
  | false =>
   have hq : E ≠ s := fun h => (by have := HV.out.1 h; cases this)
   have hq2 : (E.toList == s.toList) = false := by rw [str_beq]; simp [hq]
   go_enter Tryz.func116, Tryz.ntmps116
   go_wp2_with (first
    | (go_at_call 139; refine HD.out.mono ?_; rintro e w1 ⟨A1, c1, rest, rfl, hown1, hbel1, hrest⟩; have hre : rest.toList.isEmpty = true := (by rw [hrest.2 hm.out, ByteArray.toList_eq]; rfl))
    | (go_at_call 140; refine (HE.out _ _ _ (Rd.of_own hown1)).mono ?_; rintro e w2 ⟨rfl, hbel2⟩))
   all_goals go_ret
   all_goals exact ⟨rfl, hbel1.trans (hbel2.mono hbel1.size)⟩
 ·have hR : R = false := by
   cases R with
   | false => rfl
   | true => exact absurd (HP.out rfl) hm'
  subst hR
  go_enter Tryz.func116, Tryz.ntmps116
  go_wp2_with (go_at_call 139; refine HD.out.mono ?_; rintro e w1 ⟨A1, c1, rest, rfl, hown1, hbel1, hrest⟩; have hne : rest.size ≠ 0 := (fun h => hm' (hrest.1 (ByteArray.ext (Array.eq_empty_of_size_eq_zero h)))); have hne2 := isEmpty_no hne)
  all_goals go_ret
  all_goals exact ⟨rfl, hbel1⟩
end Go.Proofs.YtholajadbbdcmaaGreatDoor
namespace Go.Proofs.YtholajadbbdcmaaGreatDoor
open Go.RowKit
set_option maxRecDepth 20000
set_option maxHeartbeats 1000000 in
theorem rcharacters (s : ByteArray) (hs : s.size ≤ 1000000000) (w : World) : Calls Tryz.prog 117 #[.string s] w (GivesOwn 21 1 id w (charsL (bytN s)).length (chV (charsL (bytN s)))) := by
 have HD := Lib.hid (rdecode s hs w)
 unfold DecP at HD
 generalize (uRun (bytN s) (u0, [])).1.m = m at *
 generalize charsL (bytN s) = L at *
 go_enter Tryz.func117, Tryz.ntmps117
 go_wp2_with (go_at_call 139; refine HD.out.mono ?_; rintro e w1 ⟨A1, c1, rest, rfl, hown1, hbel1, hrest⟩)
 go_ret
 exact ⟨A1, c1, rfl, hown1, hbel1⟩
set_option maxHeartbeats 1000000 in
theorem rcheck_empty (w : World) : Calls Tryz.prog 97 #[.string ⟨#[]⟩] w (Gives (.int .i64 3) w) := by
 go_enter Tryz.func97, Tryz.ntmps97
 go_wp2
 go_ret
 exact ⟨rfl, Below.refl _ _⟩
set_option maxHeartbeats 1000000 in
theorem rcheck_bad (s : ByteArray) (hs : s.size ≤ 1000000000) (h0 : s.size ≠ 0) (hv : validB s = false) (w : World) : Calls Tryz.prog 97 #[.string s] w (Gives (.int .i64 3) w) := by
 have HV := Lib.hid (rvalid s hs w)
 rw [hv] at HV
 have he := isEmpty_no h0
 clear hv
 go_enter Tryz.func97, Tryz.ntmps97
 go_wp2_with (go_at_call 116; refine HV.out.mono ?_; rintro e w1 ⟨rfl, hbel1⟩)
 go_ret
 exact ⟨rfl, hbel1⟩
theorem widL_lt {r : Int} (h : inT markT r = true) : widL r < 1 := by
 unfold widL
 split
 ·omega
 ·simp [h]
set_option maxHeartbeats 4000000 in
theorem rcheck_good (s : ByteArray) (hs : s.size ≤ 1000000000) (h0 : s.size ≠ 0) (hv : validB s = true) (w : World) (r : Nat) (t : List Nat) (hc : charsL (bytN s) = r :: t) :
  Calls Tryz.prog 97 #[.string s] w (Gives (.int .i64 (if widL (r : Int) < 1 ∨ (t.all fun (x : Nat) => inT markT (x : Int)) = false then 9 else if 3 < t.length then 5 else 0)) w) := by
 have HV := Lib.hid (rvalid s hs w)
 rw [hv] at HV
 have he := isEmpty_no h0
 have HC := Lib.hid (rcharacters s hs)
 have hl := charsL_len s
 rw [hc] at HC hl
 rw [List.length_cons] at HC hl
 have HW := Lib.hid (rwidth (r : Int))
 have HM := Lib.hid (rmark (r : Int))
 have HML : Hid (inT markT (r : Int) = true → widL (r : Int) < 1) := Lib.hid widL_lt
 generalize widL (r : Int) = W at *
 obtain ⟨RES, hRES⟩ : ∃ x : Int, x = if W < 1 ∨ (t.all fun (x : Nat) => inT markT (x : Int)) = false then 9 else if 3 < t.length then 5 else 0 := ⟨_, rfl⟩
 rw [← hRES]
 have HRES := Lib.hid hRES
 clear hv hc hRES
 generalize inT markT (r : Int) = M0 at *
 cases M0 with
 | true =>
  have hw := HML.out rfl
  have HR2 : Hid (RES = 9) := Lib.hid (by rw [HRES.out, if_pos (.inl hw)])
  clear hw HRES HML
  go_enter Tryz.func97, Tryz.ntmps97
  go_wp2_with (first
   | (go_at_call 116; refine HV.out.mono ?_; rintro e w1 ⟨rfl, hbel1⟩)
   | (go_at_call 117; refine (HC.out _).mono ?_; rintro e w2 ⟨A2, c2, rfl, hown2, hbel2⟩; have t2 := hbel1.trans (hbel2.mono hbel1.size); obtain ⟨b, o, rfl, _, hcc⟩ := (Rd.of_own hown2).2 (by omega); have cell0 := hcc 0 _ rfl; simp only [Nat.add_zero] at cell0)
   | (go_at_call 118; refine (HM.out _).mono ?_; rintro e w3 ⟨rfl, hbel3⟩; have t3 := t2.trans (hbel3.mono t2.size)))
  go_ret
  exact ⟨by rw [HR2.out]; rfl, t3⟩
 | false =>
  by_cases hw : W < 1
  ·have HR2 : Hid (RES = 9) := Lib.hid (by rw [HRES.out, if_pos (.inl hw)])
   clear HRES HML
   go_enter Tryz.func97, Tryz.ntmps97
   go_wp2_with (first
    | (go_at_call 116; refine HV.out.mono ?_; rintro e w1 ⟨rfl, hbel1⟩)
    | (go_at_call 117; refine (HC.out _).mono ?_; rintro e w2 ⟨A2, c2, rfl, hown2, hbel2⟩; have t2 := hbel1.trans (hbel2.mono hbel1.size); obtain ⟨b, o, rfl, _, hcc⟩ := (Rd.of_own hown2).2 (by omega); have cell0 := hcc 0 _ rfl; simp only [Nat.add_zero] at cell0)
    | (go_at_call 118; refine (HM.out _).mono ?_; rintro e w3 ⟨rfl, hbel3⟩; have t3 := t2.trans (hbel3.mono t2.size); have cell1 := (hbel3.cell (cell_lt cell0)).trans cell0)
    | (go_at_call 119; refine (HW.out _).mono ?_; rintro e w4 ⟨rfl, hbel4⟩; have t4 := t3.trans (hbel4.mono t3.size)))
   go_ret
   exact ⟨by rw [HR2.out]; rfl, t4⟩
  ·have HRA : Hid ((t.all fun (x : Nat) => inT markT (x : Int)) = false → RES = 9) := Lib.hid fun h => by rw [HRES.out, if_pos (.inr h)]
   have HRB : Hid ((t.all fun (x : Nat) => inT markT (x : Int)) = true → RES = if 3 < t.length then 5 else 0) := Lib.hid fun h => by rw [HRES.out, if_neg (by rw [not_or]; exact ⟨hw, by simp [h]⟩)]
   have HF : Hid ((t.all fun (x : Nat) => inT markT (x : Int)) = ((t.drop 0).all fun (x : Nat) => inT markT (x : Int))) := Lib.hid rfl
   generalize (t.all fun (x : Nat) => inT markT (x : Int)) = R at *
   clear HRES HML
   go_enter Tryz.func97, Tryz.ntmps97
   go_wp2_with (first
    | (go_at_call 116; refine HV.out.mono ?_; rintro e w1 ⟨rfl, hbel1⟩)
    | (go_at_call 117; refine (HC.out _).mono ?_; rintro e w2 ⟨A2, c2, rfl, hown2, hbel2⟩; have t2 := hbel1.trans (hbel2.mono hbel1.size); have rd2 := Rd.of_own hown2; obtain ⟨b, o, rfl, _, hcc⟩ := rd2.2 (by omega); have cell0 := hcc 0 _ rfl; simp only [Nat.add_zero] at cell0)
    | (go_at_call 118; refine (HM.out _).mono ?_; rintro e w3 ⟨rfl, hbel3⟩; have t3 := t2.trans (hbel3.mono t2.size); have cell1 := (hbel3.cell (cell_lt cell0)).trans cell0)
    | (go_at_call 119; refine (HW.out _).mono ?_; rintro e w4 ⟨rfl, hbel4⟩; have t4 := t3.trans (hbel4.mono t3.size); have b4 := hbel3.trans (hbel4.mono hbel3.size)))
   go_loopw [4] (fun x wr => ∃ j : Nat, j ≤ t.length ∧ x = .int .i64 ((j : Int) + 1) ∧ Below w.heap.size w wr ∧ Below w2.heap.size w2 wr ∧ Hid (R = ((t.drop j).all fun (x : Nat) => inT markT (x : Int)))) (fun x _ => t.length + 1 - (intOf x).toNat)
   case atStart => exact ⟨0, Nat.zero_le _, rfl, t4, b4, HF⟩
   case round =>
    obtain ⟨j, hj, rfl, hbel, hbel2', HR⟩ := hrel
    by_cases hlt : j < t.length
    ·have hc : wr.cell? ⟨b, o + (j + 1), none⟩ = some (.int .i32 (t[j] : Int)) := (hbel2'.cell (Nat.lt_of_lt_of_le (by assumption) (Nat.le_refl _))).trans (hcc (j + 1) _ (by simp [chV, hlt]))
     have HD : Hid (t.drop j = t[j] :: t.drop (j + 1)) := Lib.hid (List.drop_eq_getElem_cons hlt)
     generalize t[j] = x at *
     have HMx := Lib.hid (rmark (x : Int) wr)
     have HT : Hid (inT markT (x : Int) = true → R = ((t.drop (j + 1)).all fun (x : Nat) => inT markT (x : Int))) := Lib.hid fun h => by rw [HR.out, HD.out, List.all_cons, h, Bool.true_and]
     have HZ : Hid (inT markT (x : Int) = false → R = false) := Lib.hid fun h => by rw [HR.out, HD.out, List.all_cons, h, Bool.false_and]
     generalize inT markT (x : Int) = M at *
     clear HR HD
     cases M with
     | true =>
      have HR2 := Lib.hid (HT.out rfl)
      go_wp2_with (go_at_call 118; refine HMx.out.mono ?_; rintro e w5 ⟨rfl, hbel5⟩)
      exact ⟨⟨j + 1, by omega, by go_num, hbel.trans (hbel5.mono hbel.size), hbel2'.trans (hbel5.mono hbel2'.size), HR2⟩, by simp [intOf]; omega⟩
     | false =>
      have HR2 := Lib.hid (HRA.out (HZ.out rfl))
      go_wp2_with (go_at_call 118; refine HMx.out.mono ?_; rintro e w5 ⟨rfl, hbel5⟩)
      go_ret
      exact ⟨by rw [HR2.out]; rfl, hbel.trans (hbel5.mono hbel.size)⟩
    ·have HR2 := Lib.hid (HRB.out (by rw [HR.out, List.drop_of_length_le (by omega)]; rfl))
     clear HRA HRB HR HF
     by_cases h3 : 3 < t.length
     ·rw [if_pos h3] at HR2
      go_wp2
      go_ret
      exact ⟨by rw [HR2.out]; rfl, hbel⟩
     ·rw [if_neg h3] at HR2
      go_wp2
      go_ret
      exact ⟨by rw [HR2.out]; rfl, hbel⟩
theorem rcheck (s : ByteArray) (hs : s.size ≤ 1000000000) (w : World) : Calls Tryz.prog 97 #[.string s] w (Gives (.int .i64 (checkC s)) w) := by
 by_cases h0 : s.size = 0
 ·rw [checkC_nonempty h0]
  obtain rfl : s = ⟨#[]⟩ := ByteArray.ext (Array.eq_empty_of_size_eq_zero h0)
  exact rcheck_empty w
 ·unfold checkC
  cases hv : validB s with
  | false => exact rcheck_bad s hs h0 hv w
  | true =>
   rw [if_neg (by simp)]
   cases hc : charsL (bytN s) with
   | nil =>
    exfalso
    rw [validB, decide_eq_true_eq, hc] at hv
    have := congrArg List.length hv
    rw [bytN_len] at this
    exact h0 this.symm
   | cons r t => exact rcheck_good s hs h0 hv w r t hc
end Go.Proofs.YtholajadbbdcmaaGreatDoor
