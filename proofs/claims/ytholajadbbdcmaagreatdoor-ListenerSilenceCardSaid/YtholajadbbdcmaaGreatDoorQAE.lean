/- Joined texts: Eq, Num6, Num7. -/
import Derived.Test.YtholajadbbdcmaaGreatDoorQAA
import Derived.Test.YtholajadbbdcmaaGreatDoorQAD
set_option linter.unusedVariables false
set_option linter.unusedSimpArgs false
set_option linter.unnecessarySimpa false
namespace Go.Proofs.YtholajadbbdcmaaGreatDoor
open Go.RowKit
theorem take_eq_of_all (l m : List ByteArray) (h : l.length = m.length) (hk : ∀ i (h1 : i < l.length) (h2 : i < m.length), l[i] = m[i]) : l = m := List.ext_getElem h hk
set_option maxHeartbeats 400000 in
theorem same (l m : List ByteArray) (A A' : Option Addr) (c c' B : Nat) (w : World) (hl : Rd w B 1 A l.length (sv l)) (hm : Rd w B 1 A' m.length (sv m)) (hb : l.length ≤ 140737488355328) (hb' : m.length ≤ 140737488355328) :
  Calls Tryz.prog 138 #[.slice A l.length c, .slice A' m.length c'] w (Quiet (.bool (decide (l = m))) w) := by
 by_cases hlen : l.length = m.length
 ·have e1 : ((l.length : Int) == (m.length : Int)) = true := by simp [hlen]
  have e2 : ((l.length : Int) != (m.length : Int)) = false := by simp [hlen]
  have HL := Lib.hid hlen
  clear hlen
  go_enter Tryz.func138, Tryz.ntmps138
  go_wp2
  go_loopw [5] (fun i wr => ∃ k j : Nat, k ≤ l.length ∧ i = .int .i64 k ∧ wr = w.drewN j ∧ ∀ i (h1 : i < l.length) (h2 : i < m.length), i < k → l[i] = m[i]) (fun i _ => l.length - (intOf i).toNat)
  case atStart => exact ⟨0, 0, Nat.zero_le _, rfl, rfl, fun _ _ _ h => absurd h (by omega)⟩
  case round =>
   obtain ⟨k, j, hk, rfl, rfl, hall⟩ := hrel
   have HA := Lib.hid hall
   clear hall
   by_cases hlt : k < l.length
   ·have hkm : k < m.length := by have := HL.out; omega
    obtain ⟨b, o, rfl, hbB, hc⟩ := hl.at_ hlt
    obtain ⟨b', o', rfl, hbB', hc'⟩ := hm.at_ hkm
    rw [sv_get _ _ hlt] at hc
    rw [sv_get _ _ hkm] at hc'
    go_wp2
    go_quiet (fail)
    go_wp2
    ·rename_i hne
     rw [str_beq] at hne
     go_ret
     refine ⟨?_, j + nq, by simp [World.drewN_drewN]⟩
     have : l ≠ m := by rintro rfl; simp at hne
     simp [this]
    ·rename_i hne
     rw [str_beq] at hne
     have hek : l[k] = m[k] := by simpa using hne
     have hA2 := HA.out
     refine ⟨⟨k + 1, _, by omega, by go_num, rfl, fun i h1 h2 h3 => ?_⟩, by simp [intOf]; omega⟩
     rcases Nat.lt_or_ge i k with h | h
     ·exact hA2 i h1 h2 h
     ·obtain rfl : i = k := by omega
      exact hek
   ·go_wp2
    go_ret
    have : l = m := take_eq_of_all l m HL.out (fun i h1 h2 => HA.out i h1 h2 (by omega))
    exact ⟨by simp [this], _, rfl⟩
 ·have e2 : ((l.length : Int) != (m.length : Int)) = true := by simp; omega
  go_enter Tryz.func138, Tryz.ntmps138
  go_wp2
  go_ret
  have : l ≠ m := by rintro rfl; exact hlen rfl
  exact ⟨by simp [this], 0, rfl⟩
set_option maxHeartbeats 400000 in
theorem equal (l m : List ByteArray) (A A' : Option Addr) (c c' B : Nat) (w : World) (hl : Rd w B 1 A l.length (sv l)) (hm : Rd w B 1 A' m.length (sv m)) (hb : l.length ≤ 140737488355328) (hb' : m.length ≤ 140737488355328) :
  Calls Tryz.prog 154 #[.slice A l.length c, .slice A' m.length c'] w (Quiet (.bool (decide (l = m))) w) := by
 by_cases hlen : l.length = m.length
 ·have e1 : ((l.length : Int) == (m.length : Int)) = true := by simp [hlen]
  have e2 : ((l.length : Int) != (m.length : Int)) = false := by simp [hlen]
  have HL := Lib.hid hlen
  clear hlen
  go_enter Tryz.func154, Tryz.ntmps154
  go_wp2
  go_loopw [13] (fun i wr => ∃ k j : Nat, k ≤ l.length ∧ i = .int .i64 k ∧ wr = w.drewN j ∧ ∀ i (h1 : i < l.length) (h2 : i < m.length), i < k → l[i] = m[i]) (fun i _ => l.length - (intOf i).toNat)
  case atStart => exact ⟨0, 0, Nat.zero_le _, rfl, rfl, fun _ _ _ h => absurd h (by omega)⟩
  case round =>
   obtain ⟨k, j, hk, rfl, rfl, hall⟩ := hrel
   have HA := Lib.hid hall
   clear hall
   by_cases hlt : k < l.length
   ·have hkm : k < m.length := by have := HL.out; omega
    obtain ⟨b, o, rfl, hbB, hc⟩ := hl.at_ hlt
    obtain ⟨b', o', rfl, hbB', hc'⟩ := hm.at_ hkm
    rw [sv_get _ _ hlt] at hc
    rw [sv_get _ _ hkm] at hc'
    go_wp2
    go_quiet (fail)
    go_wp2
    ·rename_i hne
     rw [str_beq] at hne
     go_ret
     refine ⟨?_, j + nq, by simp [World.drewN_drewN]⟩
     have : l ≠ m := by rintro rfl; simp at hne
     simp [this]
    ·rename_i hne
     rw [str_beq] at hne
     have hek : l[k] = m[k] := by simpa using hne
     have hA2 := HA.out
     refine ⟨⟨k + 1, _, by omega, by go_num, rfl, fun i h1 h2 h3 => ?_⟩, by simp [intOf]; omega⟩
     rcases Nat.lt_or_ge i k with h | h
     ·exact hA2 i h1 h2 h
     ·obtain rfl : i = k := by omega
      exact hek
   ·go_wp2
    go_ret
    have : l = m := take_eq_of_all l m HL.out (fun i h1 h2 => HA.out i h1 h2 (by omega))
    exact ⟨by simp [this], _, rfl⟩
 ·have e2 : ((l.length : Int) != (m.length : Int)) = true := by simp; omega
  go_enter Tryz.func154, Tryz.ntmps154
  go_wp2
  go_ret
  have : l ≠ m := by rintro rfl; exact hlen rfl
  exact ⟨by simp [this], 0, rfl⟩
theorem Quiet.t {v v' : Value} {w w' : World} {en : Ending} (h : Quiet v w en w') (e : v = v') : Quiet v' w en w' := e ▸ h
theorem equal_t (l m : List ByteArray) (h : l = m) (A A' : Option Addr) (n n' c c' B B' : Nat) (w : World) (hn : l.length = n) (hn' : m.length = n') (hl : Rd w B 1 A n (sv l)) (hm : Rd w B' 1 A' n' (sv m)) (hb : n ≤ 140737488355328) (hb' : n' ≤ 140737488355328) :
  Calls Tryz.prog 154 #[.slice A n c, .slice A' n' c'] w (Quiet (.bool true) w) := by
 subst hn hn'
 exact (equal l m A A' c c' (max B B') w (hl.more (Nat.le_max_left _ _)) (hm.more (Nat.le_max_right _ _)) hb hb').mono fun _ _ x => x.t (by simp [h])
theorem equal_f (l m : List ByteArray) (h : l ≠ m) (A A' : Option Addr) (n n' c c' B B' : Nat) (w : World) (hn : l.length = n) (hn' : m.length = n') (hl : Rd w B 1 A n (sv l)) (hm : Rd w B' 1 A' n' (sv m)) (hb : n ≤ 140737488355328) (hb' : n' ≤ 140737488355328) :
  Calls Tryz.prog 154 #[.slice A n c, .slice A' n' c'] w (Quiet (.bool false) w) := by
 subst hn hn'
 exact (equal l m A A' c c' (max B B') w (hl.more (Nat.le_max_left _ _)) (hm.more (Nat.le_max_right _ _)) hb hb').mono fun _ _ x => x.t (by simp [h])
end Go.Proofs.YtholajadbbdcmaaGreatDoor
namespace Go.Proofs.YtholajadbbdcmaaGreatDoor
open Go.RowKit Go.WideMaps
def swN (a p : Int) (s : ByteArray) : Option (Int × Int) :=
 if s = wb 31 then some (a, p) else if s = wb 28 then some (a, p * 100) else if s = wb 29 then some (a + 1000 * p, 0) else if s = wb 30 then some (a + 1000000 * p, 0) else
 match valK 28 s with
 | none => none
 | some v => some (a, p + v)
def stepN (a p : Int) (s : ByteArray) : Option (Int × Int) :=
 match swN a p s with
 | none => none
 | some (a', p') => if 999999999 < p' ∨ 999999999 < a' then none else some (a', p')
def loopN : List ByteArray → Int → Int → Option (Int × Int)
 | [], a, p => some (a, p)
 | s :: t, a, p => match stepN a p s with
  | none => none
  | some (a', p') => loopN t a' p'
def signN (l : List ByteArray) (n : Int) : Int := if l.head? = some (wb 31) then -n else n
def checkN (l : List ByteArray) (n : Int) : Option Int := if -999999999 ≤ n ∧ n ≤ 999999999 ∧ (wordsL n).map wb = l then some n else none
def numberL (l : List ByteArray) : Option Int :=
 if l.length = 0 ∨ 15 < l.length then none else match loopN l 0 0 with
 | none => none
 | some (a, p) => checkN l (signN l (a + p))
def numPair : Option Int → Value
 | some n => .tuple #[.int .i64 n, .int .i64 0]
 | none => .tuple #[.int .i64 0, .int .i64 17]
theorem valI_bd (i : Nat) (h : i < 28) : 0 ≤ valI i ∧ valI i ≤ 90 := by unfold valI; split <;> omega
theorem valK_bd (k : Nat) (hk : k ≤ 28) (s : ByteArray) (v : Int) (h : valK k s = some v) : 0 ≤ v ∧ v ≤ 90 := by
 induction k with
 | zero => cases h
 | succ k ih =>
  rw [valK] at h
  split at h
  ·injection h with h
   have := valI_bd k (by omega)
   omega
  ·exact ih (by omega) h
theorem swN_bd (a p : Int) (s : ByteArray) (a' p' : Int) (h : swN a p s = some (a', p')) (h0 : 0 ≤ a) (h1 : a ≤ 999999999) (h2 : 0 ≤ p) (h3 : p ≤ 999999999) : 0 ≤ a' ∧ a' ≤ 1000000999999999 ∧ 0 ≤ p' ∧ p' ≤ 99999999900 := by
 unfold swN at h
 split at h
 ·simp only [Option.some.injEq, Prod.mk.injEq] at h; omega
 split at h
 ·simp only [Option.some.injEq, Prod.mk.injEq] at h; omega
 split at h
 ·simp only [Option.some.injEq, Prod.mk.injEq] at h; omega
 split at h
 ·simp only [Option.some.injEq, Prod.mk.injEq] at h; omega
 cases hv : valK 28 s with
 | none => rw [hv] at h; cases h
 | some v =>
  rw [hv] at h
  have hb := valK_bd 28 (by omega) s v hv
  simp only [Option.some.injEq, Prod.mk.injEq] at h; omega
theorem lit_beq (s b : ByteArray) (l : List UInt8) (hb : b = ⟨l.toArray⟩) : (s.toList == l) = decide (s = b) := by
 have e : b.toList = l := by rw [hb]; exact ByteArray.toList_mk l
 rw [← e]
 exact str_beq s b
set_option maxHeartbeats 400000 in
theorem number_short (l : List ByteArray) (A : Option Addr) (c : Nat) (w : World) (h : l.length = 0 ∨ 15 < l.length) :
  Calls Tryz.prog 133 #[.slice A l.length c] w (Gives (numPair (numberL l)) w) := by
 have hN : numberL l = none := by unfold numberL; rw [if_pos h]
 rw [hN]
 by_cases h0 : l.length = 0
 ·have e0 : ((l.length : Int) == 0) = true := by simp [h0]
  clear h h0
  go_enter Tryz.func133, Tryz.ntmps133
  go_wp2
  go_ret2
  exact ⟨rfl, Below.refl _ _⟩
 ·have e0 : ((l.length : Int) == 0) = false := beq_eq_false_iff_ne.2 (by omega)
  have e1 : 15 < l.length := by omega
  clear h h0
  go_enter Tryz.func133, Tryz.ntmps133
  go_wp2
  go_ret2
  exact ⟨rfl, Below.refl _ _⟩
set_option maxHeartbeats 400000 in
theorem number_long (l : List ByteArray) (A : Option Addr) (c : Nat) (w : World) (hl : Rd w w.heap.size 1 A l.length (sv l)) (h0 : 0 < l.length) (h1 : l.length ≤ 15) (hsz : ∀ s ∈ l, s.size ≤ maxLen) :
  Calls Tryz.prog 133 #[.slice A l.length c] w (Gives (numPair (numberL l)) w) := by
 have e0 : ((l.length : Int) == 0) = false := beq_eq_false_iff_ne.2 (by omega)
 have HN : Hid (numberL l = match loopN l 0 0 with
  | none => none
  | some (a, p) => checkN l (signN l (a + p))) := Lib.hid (by unfold numberL; rw [if_neg (by omega)])
 generalize numberL l = R at HN ⊢
 go_enter Tryz.func133, Tryz.ntmps133
 go_wp2_with (first | (go_at_call 152; refine (values _).mono ?_; rintro e w1 ⟨b, rfl, hmap, hbel, hbb⟩))
 have hl1 := hl.below hbel
 go_loop [5, 6, 25] (fun x y i => ∃ (k : Nat) (a p : Int), k ≤ l.length ∧ i = .int .i64 k ∧ x = .int .i64 a ∧ y = .int .i64 p ∧ 0 ≤ a ∧ a ≤ 999999999 ∧ 0 ≤ p ∧ p ≤ 999999999 ∧ Hid (loopN l 0 0 = loopN (l.drop k) a p)) (fun _ _ i => l.length - (intOf i).toNat)
 case atStart => exact ⟨0, 0, 0, by omega, rfl, rfl, rfl, by omega, by omega, by omega, by omega, Lib.hid rfl⟩
 case round =>
  obtain ⟨k, a, p, hk, rfl, rfl, rfl, ha0, ha1, hp0, hp1, HL⟩ := hrel
  by_cases hlt : k < l.length
  ·obtain ⟨bb, oo, rfl, hbB, hc⟩ := hl1.at_ hlt
   rw [sv_get _ _ hlt] at hc
   have hs : l[k].size ≤ maxLen := hsz _ (List.getElem_mem hlt)
   have HD : Hid (l.drop k = l[k] :: l.drop (k + 1)) := Lib.hid (List.drop_eq_getElem_cons hlt)
   generalize l[k] = s at *
   have t31 := lit_beq s (wb 31) [109, 105, 110, 117, 115] rfl
   have t28 := lit_beq s (wb 28) [104, 117, 110, 100, 114, 101, 100] rfl
   have t29 := lit_beq s (wb 29) [116, 104, 111, 117, 115, 97, 110, 100] rfl
   have t30 := lit_beq s (wb 30) [109, 105, 108, 108, 105, 111, 110] rfl
   have HS : Hid (∀ x, swN a p s = x → swN a p s = x) := Lib.hid fun _ h => h
   have HL2 : Hid (∀ x, stepN a p s = x → loopN l 0 0 = match x with
    | none => none
    | some (a', p') => loopN (l.drop (k + 1)) a' p') := Lib.hid (by rintro x rfl; rw [HL.out, HD.out, loopN])
   go_upto_block 2 with (fail)
   go_cut [5, 6] (fun x y wx => wx = w1 ∧ ∃ a' p' : Int, x = .int .i64 a' ∧ y = .int .i64 p' ∧ Hid (swN a p s = some (a', p')))
   case first =>
    by_cases c31 : s = wb 31
    ·have d31 : (s.toList == [109, 105, 110, 117, 115]) = true := by rw [t31]; simp [c31]
     have HH : Hid (swN a p s = some (a, p)) := Lib.hid (by unfold swN; rw [if_pos c31])
     clear t31 t28 t29 t30 c31
     go_wp2_with fail
     go_meet
     exact ⟨rfl, _, _, rfl, rfl, HH⟩
    have d31 : (s.toList == [109, 105, 110, 117, 115]) = false := by rw [t31]; simp [c31]
    by_cases c28 : s = wb 28
    ·have d28 : (s.toList == [104, 117, 110, 100, 114, 101, 100]) = true := by rw [t28]; simp [c28]
     have HH : Hid (swN a p s = some (a, p * 100)) := Lib.hid (by unfold swN; rw [if_neg c31, if_pos c28])
     clear t31 t28 t29 t30 c31 c28
     go_wp2_with fail
     go_meet
     exact ⟨rfl, _, _, rfl, rfl, HH⟩
    have d28 : (s.toList == [104, 117, 110, 100, 114, 101, 100]) = false := by rw [t28]; simp [c28]
    by_cases c29 : s = wb 29
    ·have d29 : (s.toList == [116, 104, 111, 117, 115, 97, 110, 100]) = true := by rw [t29]; simp [c29]
     have HH : Hid (swN a p s = some (a + 1000 * p, 0)) := Lib.hid (by unfold swN; rw [if_neg c31, if_neg c28, if_pos c29])
     clear t31 t28 t29 t30 c31 c28 c29
     go_wp2_with fail
     go_meet
     exact ⟨rfl, _, _, rfl, rfl, HH⟩
    have d29 : (s.toList == [116, 104, 111, 117, 115, 97, 110, 100]) = false := by rw [t29]; simp [c29]
    by_cases c30 : s = wb 30
    ·have d30 : (s.toList == [109, 105, 108, 108, 105, 111, 110]) = true := by rw [t30]; simp [c30]
     have HH : Hid (swN a p s = some (a + 1000000 * p, 0)) := Lib.hid (by unfold swN; rw [if_neg c31, if_neg c28, if_neg c29, if_pos c30])
     clear t31 t28 t29 t30 c31 c28 c29 c30
     go_wp2_with fail
     go_meet
     exact ⟨rfl, _, _, rfl, rfl, HH⟩
    have d30 : (s.toList == [109, 105, 108, 108, 105, 111, 110]) = false := by rw [t30]; simp [c30]
    have HH : Hid (swN a p s = match valK 28 s with
     | none => none
     | some v => some (a, p + v)) := Lib.hid (by unfold swN; rw [if_neg c31, if_neg c28, if_neg c29, if_neg c30])
    have HB := Lib.hid (valK_bd 28 (by omega) s)
    have HM := Lib.hid hmap
    clear t31 t28 t29 t30 c31 c28 c29 c30 hmap
    generalize valK 28 = vf at *
    cases hv : vf s with
    | none =>
     have HV := Lib.hid hv
     clear hv
     have k1 : (vf s).isSome = false := by rw [HV.out]; rfl
     have k2 : (vf s).getD 0 = 0 := by rw [HV.out]; rfl
     go_wp2_with (at_lookup; refine mapI_look rfl _ _ _ rfl Tryz.underlying9 Tryz.underlying205 Tryz.underlying3 zeroInt rfl HM.out rfl hs ?_)
     go_ret2
     have : R = none := by
      rw [HN.out, HL2.out none (by unfold stepN; rw [HH.out, HV.out])]
     rw [this]
     exact ⟨rfl, hbel⟩
    | some v =>
     have HV := Lib.hid hv
     clear hv
     have k1 : (vf s).isSome = true := by rw [HV.out]; rfl
     have k2 : (vf s).getD 0 = v := by rw [HV.out]; rfl
     have hb1 := (HB.out v HV.out).1
     have hb2 := (HB.out v HV.out).2
     go_wp2_with (at_lookup; refine mapI_look rfl _ _ _ rfl Tryz.underlying9 Tryz.underlying205 Tryz.underlying3 zeroInt rfl HM.out rfl hs ?_)
     go_meet
     exact ⟨rfl, _, _, rfl, rfl, Lib.hid (by rw [HH.out, HV.out])⟩
   case rest =>
    obtain ⟨rfl, a', p', rfl, rfl, HH⟩ := hcut
    have hbd := swN_bd a p s a' p' HH.out ha0 ha1 hp0 hp1
    obtain ⟨b1, b2, b3, b4⟩ := hbd
    by_cases q1 : 999999999 < p'
    ·have HR : Hid (R = none) := Lib.hid (by rw [HN.out, HL2.out none (by unfold stepN; rw [HH.out]; simp [q1])])
     clear t31 t28 t29 t30 hmap
     go_wp2_with fail
     go_ret2
     rw [HR.out]
     exact ⟨rfl, hbel⟩
    by_cases q2 : 999999999 < a'
    ·have HR : Hid (R = none) := Lib.hid (by rw [HN.out, HL2.out none (by unfold stepN; rw [HH.out]; simp [q2])])
     clear t31 t28 t29 t30 hmap
     go_wp2_with fail
     go_ret2
     rw [HR.out]
     exact ⟨rfl, hbel⟩
    clear t31 t28 t29 t30
    have HX : Hid (loopN l 0 0 = loopN (l.drop (k + 1)) a' p') := Lib.hid (by rw [HL2.out (some (a', p')) (by unfold stepN; rw [HH.out]; simp [q1, q2])])
    clear hmap
    go_wp2_with fail
    exact ⟨⟨k + 1, a', p', by omega, by go_num, rfl, rfl, b1, by omega, b3, by omega, HX⟩, by simp [intOf]; omega⟩
  ·obtain rfl : k = l.length := by omega
   have HR : Hid (R = checkN l (signN l (a + p))) := Lib.hid (by rw [HN.out, HL.out, List.drop_length, loopN])
   obtain ⟨bb, oo, rfl, hbB, hc⟩ := hl1.at_ h0
   rw [sv_get _ _ h0, Nat.add_zero] at hc
   have t31 := lit_beq l[0] (wb 31) [109, 105, 110, 117, 115] rfl
   have HG : Hid (signN l (a + p) = if l[0] = wb 31 then -(a + p) else a + p) := Lib.hid (by
    unfold signN
    cases l with
    | nil => simp at h0
    | cons x t => simp)
   clear hmap
   go_upto_if 72 with fail
   go_cut [11] (fun x wx => wx = w1 ∧ x = .int .i64 (signN l (a + p)))
   case first =>
    by_cases c31 : l[0] = wb 31
    ·have d31 : (l[0].toList == [109, 105, 110, 117, 115]) = true := by rw [t31]; simp [c31]
     clear t31
     go_wp2_with fail
     go_meet
     rw [HG.out, if_pos c31]
     exact ⟨rfl, by go_num⟩
    ·have d31 : (l[0].toList == [109, 105, 110, 117, 115]) = false := by rw [t31]; simp [c31]
     clear t31
     go_wp2_with fail
     go_meet
     rw [HG.out, if_neg c31]
     exact ⟨rfl, rfl⟩
   case rest =>
    obtain ⟨rfl, rfl⟩ := hcut
    clear t31 HG
    generalize signN l (a + p) = n at *
    by_cases hin : -999999999 ≤ n ∧ n ≤ 999999999
    ·obtain ⟨i1, i2⟩ := hin
     have hle := wordsL_le n
     by_cases heq : (wordsL n).map wb = l
     ·have HR2 : Hid (R = some n) := Lib.hid (by rw [HR.out]; unfold checkN; rw [if_pos ⟨i1, i2, heq⟩])
      have HE := Lib.hid heq
      clear heq
      go_wp2_with (first
       | (go_at_call 153; refine (words_in n i1 i2 _).mono ?_; rintro e w2 ⟨A2, c2, rfl, hown2, hbel2⟩)
       | (go_at_call 154; refine (equal_t ((wordsL n).map wb) l HE.out A2 _ _ _ c2 c _ _ _ (by simp) rfl (by rw [← wv_sv]; exact Rd.of_own hown2) ((hl1.more hbel.size).below hbel2) (by omega) (by omega)).mono ?_; rintro e w3 ⟨rfl, n3, rfl⟩))
      go_ret2
      rw [HR2.out]
      exact ⟨rfl, below_drewN (hbel.trans (hbel2.mono hbel.size))⟩
     ·have HR2 : Hid (R = none) := Lib.hid (by rw [HR.out]; unfold checkN; rw [if_neg (fun h => heq h.2.2)])
      have HE := Lib.hid heq
      clear heq
      go_wp2_with (first
       | (go_at_call 153; refine (words_in n i1 i2 _).mono ?_; rintro e w2 ⟨A2, c2, rfl, hown2, hbel2⟩)
       | (go_at_call 154; refine (equal_f ((wordsL n).map wb) l HE.out A2 _ _ _ c2 c _ _ _ (by simp) rfl (by rw [← wv_sv]; exact Rd.of_own hown2) ((hl1.more hbel.size).below hbel2) (by omega) (by omega)).mono ?_; rintro e w3 ⟨rfl, n3, rfl⟩))
      go_ret2
      rw [HR2.out]
      exact ⟨rfl, below_drewN (hbel.trans (hbel2.mono hbel.size))⟩
    ·have HR2 : Hid (R = none) := Lib.hid (by rw [HR.out]; unfold checkN; rw [if_neg (fun h => hin ⟨h.1, h.2.1⟩)])
     go_wp2_with (go_at_call 153; refine (words_range n (by omega) _).mono ?_; rintro e w2 ⟨rfl, hbel2⟩)
     go_ret2
     rw [HR2.out]
     exact ⟨rfl, hbel.trans (hbel2.mono hbel.size)⟩
theorem number (l : List ByteArray) (A : Option Addr) (n c : Nat) (w : World) (hn : l.length = n) (hl : Rd w w.heap.size 1 A n (sv l)) (hsz : ∀ s ∈ l, s.size ≤ maxLen) :
  Calls Tryz.prog 133 #[.slice A n c] w (Gives (numPair (numberL l)) w) := by
 subst hn
 by_cases h : l.length = 0 ∨ 15 < l.length
 ·exact number_short l A c w h
 ·exact number_long l A c w hl (by omega) (by omega) hsz
def prefN (l : List ByteArray) : Nat → Option (Int × Nat)
 | 0 => none
 | k + 1 => match numberL (l.take (k + 1)) with
  | some n => some (n, k + 1)
  | none => prefN l k
def prefixL (l : List ByteArray) : Option (Int × Nat) := prefN l (min l.length 15)
def preTriple : Option (Int × Nat) → Value
 | some (n, k) => .tuple #[.int .i64 n, .int .i64 k, .int .i64 0]
 | none => .tuple #[.int .i64 0, .int .i64 0, .int .i64 17]
theorem sv_take (l : List ByteArray) (k : Nat) : sv (l.take k) = (sv l).take k := by simp [sv, List.map_take]
set_option maxHeartbeats 400000 in
theorem prefix_ (l : List ByteArray) (A : Option Addr) (n c : Nat) (w : World) (hn : l.length = n) (hc : n ≤ c) (hbig : c ≤ maxLen) (hl : Rd w w.heap.size 1 A n (sv l)) (hsz : ∀ s ∈ l, s.size ≤ maxLen) :
  Calls Tryz.prog 110 #[.slice A n c] w (Gives (preTriple (prefixL l)) w) := by
 unfold maxLen at hbig
 have HN := Lib.hid hn
 clear hn
 have HP : Hid (prefixL l = prefN l (min l.length 15)) := Lib.hid rfl
 generalize prefixL l = R at *
 go_enter Tryz.func110, Tryz.ntmps110
 go_upto_region 1 with fail
 go_cut [5] (fun x wx => wx = w ∧ x = .int .i64 ((min n 15 : Nat) : Int))
 case first =>
  by_cases hq : n ≤ 15
  ·have hq' : (n : Int) ≤ 15 := by omega
   have hm : min n 15 = n := Nat.min_eq_left hq
   have HM := Lib.hid hm
   clear hm
   go_wp2_with fail
   go_meet
   exact ⟨rfl, by rw [HM.out]⟩
  ·have hq' : (15 : Int) < (n : Int) := by omega
   have hm : min n 15 = 15 := Nat.min_eq_right (by omega)
   have HM := Lib.hid hm
   clear hm
   go_wp2_with fail
   go_meet
   exact ⟨rfl, by rw [HM.out]; rfl⟩
 case rest =>
  obtain ⟨rfl, rfl⟩ := hcut
  have hkm : min n 15 ≤ n ∧ min n 15 ≤ 15 := by omega
  rw [HN.out] at HP
  generalize min n 15 = k0 at *
  go_wp2_with fail
  go_loopw [5] (fun i wr => ∃ k : Nat, k ≤ n ∧ k ≤ 15 ∧ i = .int .i64 k ∧ Below wc.heap.size wc wr ∧ Hid (R = prefN l k)) (fun i _ => (intOf i).toNat)
  case atStart => exact ⟨k0, hkm.1, hkm.2, rfl, Below.refl _ _, HP⟩
  case round =>
   obtain ⟨k, hk, hk15, rfl, hbel, HL⟩ := hrel
   by_cases hlt : 0 < k
   ·obtain ⟨b, o, rfl, hbB, _⟩ := hl.at_ (show k - 1 < n by omega)
    have hT : Rd wr wr.heap.size 1 (some ⟨b, o, none⟩) k (sv (l.take k)) := by
     have := ((hl.below hbel).more hbel.size).take hk
     rwa [Nat.mul_one, ← sv_take] at this
    have hlen : (l.take k).length = k := by rw [List.length_take, HN.out]; omega
    have hszT : ∀ s ∈ l.take k, s.size ≤ maxLen := fun s hs => hsz s (List.mem_of_mem_take hs)
    have HC := Lib.hid (number (l.take k) (some ⟨b, o, none⟩) k c wr hlen hT hszT)
    clear hlen hT hszT hl
    cases hr : numberL (l.take k) with
    | none =>
     rw [hr] at HC
     have HR2 : Hid (R = prefN l (k - 1)) := Lib.hid (by
      rw [HL.out]
      obtain ⟨j, rfl⟩ : ∃ j, k = j + 1 := ⟨k - 1, by omega⟩
      rw [prefN, hr]
      rfl)
     clear hr
     simp only [numPair] at HC
     go_wp2_with (go_at_call 133; refine HC.out.mono ?_; rintro e w1 ⟨rfl, hbel1⟩)
     exact ⟨⟨k - 1, by omega, by omega, by go_num, hbel.trans (hbel1.mono hbel.size), HR2⟩, by simp [intOf]; omega⟩
    | some v =>
     rw [hr] at HC
     have HR2 : Hid (R = some (v, k)) := Lib.hid (by
      rw [HL.out]
      obtain ⟨j, rfl⟩ : ∃ j, k = j + 1 := ⟨k - 1, by omega⟩
      rw [prefN, hr])
     clear hr
     simp only [numPair] at HC
     go_wp2_with (go_at_call 133; refine HC.out.mono ?_; rintro e w1 ⟨rfl, hbel1⟩)
     go_ret3
     rw [HR2.out]
     exact ⟨rfl, hbel.trans (hbel1.mono hbel.size)⟩
   ·obtain rfl : k = 0 := by omega
    go_wp2
    go_ret3
    rw [HL.out]
    exact ⟨rfl, hbel⟩
end Go.Proofs.YtholajadbbdcmaaGreatDoor
