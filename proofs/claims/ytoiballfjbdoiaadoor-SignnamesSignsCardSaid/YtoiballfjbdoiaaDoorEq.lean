/- Two lists of words are compared: slices.Equal, SameWords. -/
import Derived.Test.YtoiballfjbdoiaaDoorKit
import Derived.Deep.QuietTactic
import Derived.BigQuiet
namespace Go.Proofs.YtoiballfjbdoiaaDoor
open Go.RowKit
theorem take_eq_of_all (l m : List ByteArray) (h : l.length = m.length) (hk : ∀ i (h1 : i < l.length) (h2 : i < m.length), l[i] = m[i]) : l = m := List.ext_getElem h hk
set_option maxHeartbeats 400000 in
theorem same (l m : List ByteArray) (A A' : Option Addr) (c c' B : Nat) (w : World) (hl : Rd w B 1 A l.length (sv l)) (hm : Rd w B 1 A' m.length (sv m)) (hb : l.length ≤ 140737488355328) (hb' : m.length ≤ 140737488355328) :
    Calls Tryd.prog 11 #[.slice A l.length c, .slice A' m.length c'] w (Quiet (.bool (decide (l = m))) w) := by
  by_cases hlen : l.length = m.length
  · have e1 : ((l.length : Int) == (m.length : Int)) = true := by simp [hlen]
    have e2 : ((l.length : Int) != (m.length : Int)) = false := by simp [hlen]
    have HL := Lib.hid hlen
    clear hlen
    go_enter Tryd.func11, Tryd.ntmps11
    go_wp2
    go_loopw [5] (fun i wr => ∃ k j : Nat, k ≤ l.length ∧ i = .int .i64 k ∧ wr = w.drewN j ∧ ∀ i (h1 : i < l.length) (h2 : i < m.length), i < k → l[i] = m[i]) (fun i _ => l.length - (intOf i).toNat)
    case atStart => exact ⟨0, 0, Nat.zero_le _, rfl, rfl, fun _ _ _ h => absurd h (by omega)⟩
    case round =>
      obtain ⟨k, j, hk, rfl, rfl, hall⟩ := hrel
      have HA := Lib.hid hall
      clear hall
      by_cases hlt : k < l.length
      · have hkm : k < m.length := by have := HL.out; omega
        obtain ⟨b, o, rfl, hbB, hc⟩ := hl.at_ hlt
        obtain ⟨b', o', rfl, hbB', hc'⟩ := hm.at_ hkm
        rw [sv_get _ _ hlt] at hc
        rw [sv_get _ _ hkm] at hc'
        go_wp2
        go_quiet (fail)
        go_wp2
        · rename_i hne
          rw [str_beq] at hne
          go_ret
          refine ⟨?_, j + nq, by simp [World.drewN_drewN]⟩
          have : l ≠ m := by rintro rfl; simp at hne
          simp [this]
        · rename_i hne
          rw [str_beq] at hne
          have hek : l[k] = m[k] := by simpa using hne
          have hA2 := HA.out
          refine ⟨⟨k + 1, _, by omega, by go_num, rfl, fun i h1 h2 h3 => ?_⟩, by simp [intOf]; omega⟩
          rcases Nat.lt_or_ge i k with h | h
          · exact hA2 i h1 h2 h
          · obtain rfl : i = k := by omega
            exact hek
      · go_wp2
        go_ret
        have : l = m := take_eq_of_all l m HL.out (fun i h1 h2 => HA.out i h1 h2 (by omega))
        exact ⟨by simp [this], _, rfl⟩
  · have e2 : ((l.length : Int) != (m.length : Int)) = true := by simp; omega
    go_enter Tryd.func11, Tryd.ntmps11
    go_wp2
    go_ret
    have : l ≠ m := by rintro rfl; exact hlen rfl
    exact ⟨by simp [this], 0, rfl⟩
set_option maxHeartbeats 400000 in
theorem equal (l m : List ByteArray) (A A' : Option Addr) (c c' B : Nat) (w : World) (hl : Rd w B 1 A l.length (sv l)) (hm : Rd w B 1 A' m.length (sv m)) (hb : l.length ≤ 140737488355328) (hb' : m.length ≤ 140737488355328) :
    Calls Tryd.prog 43 #[.slice A l.length c, .slice A' m.length c'] w (Quiet (.bool (decide (l = m))) w) := by
  by_cases hlen : l.length = m.length
  · have e1 : ((l.length : Int) == (m.length : Int)) = true := by simp [hlen]
    have e2 : ((l.length : Int) != (m.length : Int)) = false := by simp [hlen]
    have HL := Lib.hid hlen
    clear hlen
    go_enter Tryd.func43, Tryd.ntmps43
    go_wp2
    go_loopw [13] (fun i wr => ∃ k j : Nat, k ≤ l.length ∧ i = .int .i64 k ∧ wr = w.drewN j ∧ ∀ i (h1 : i < l.length) (h2 : i < m.length), i < k → l[i] = m[i]) (fun i _ => l.length - (intOf i).toNat)
    case atStart => exact ⟨0, 0, Nat.zero_le _, rfl, rfl, fun _ _ _ h => absurd h (by omega)⟩
    case round =>
      obtain ⟨k, j, hk, rfl, rfl, hall⟩ := hrel
      have HA := Lib.hid hall
      clear hall
      by_cases hlt : k < l.length
      · have hkm : k < m.length := by have := HL.out; omega
        obtain ⟨b, o, rfl, hbB, hc⟩ := hl.at_ hlt
        obtain ⟨b', o', rfl, hbB', hc'⟩ := hm.at_ hkm
        rw [sv_get _ _ hlt] at hc
        rw [sv_get _ _ hkm] at hc'
        go_wp2
        go_quiet (fail)
        go_wp2
        · rename_i hne
          rw [str_beq] at hne
          go_ret
          refine ⟨?_, j + nq, by simp [World.drewN_drewN]⟩
          have : l ≠ m := by rintro rfl; simp at hne
          simp [this]
        · rename_i hne
          rw [str_beq] at hne
          have hek : l[k] = m[k] := by simpa using hne
          have hA2 := HA.out
          refine ⟨⟨k + 1, _, by omega, by go_num, rfl, fun i h1 h2 h3 => ?_⟩, by simp [intOf]; omega⟩
          rcases Nat.lt_or_ge i k with h | h
          · exact hA2 i h1 h2 h
          · obtain rfl : i = k := by omega
            exact hek
      · go_wp2
        go_ret
        have : l = m := take_eq_of_all l m HL.out (fun i h1 h2 => HA.out i h1 h2 (by omega))
        exact ⟨by simp [this], _, rfl⟩
  · have e2 : ((l.length : Int) != (m.length : Int)) = true := by simp; omega
    go_enter Tryd.func43, Tryd.ntmps43
    go_wp2
    go_ret
    have : l ≠ m := by rintro rfl; exact hlen rfl
    exact ⟨by simp [this], 0, rfl⟩
theorem Quiet.t {v v' : Value} {w w' : World} {en : Ending} (h : Quiet v w en w') (e : v = v') : Quiet v' w en w' := e ▸ h
theorem same_t (l m : List ByteArray) (h : l = m) (A A' : Option Addr) (n n' c c' B B' : Nat) (w : World) (hn : l.length = n) (hn' : m.length = n') (hl : Rd w B 1 A n (sv l)) (hm : Rd w B' 1 A' n' (sv m)) (hb : n ≤ 140737488355328) (hb' : n' ≤ 140737488355328) :
    Calls Tryd.prog 11 #[.slice A n c, .slice A' n' c'] w (Quiet (.bool true) w) := by
  subst hn hn'
  exact (same l m A A' c c' (max B B') w (hl.more (Nat.le_max_left _ _)) (hm.more (Nat.le_max_right _ _)) hb hb').mono fun _ _ x => x.t (by simp [h])
theorem same_f (l m : List ByteArray) (h : l ≠ m) (A A' : Option Addr) (n n' c c' B B' : Nat) (w : World) (hn : l.length = n) (hn' : m.length = n') (hl : Rd w B 1 A n (sv l)) (hm : Rd w B' 1 A' n' (sv m)) (hb : n ≤ 140737488355328) (hb' : n' ≤ 140737488355328) :
    Calls Tryd.prog 11 #[.slice A n c, .slice A' n' c'] w (Quiet (.bool false) w) := by
  subst hn hn'
  exact (same l m A A' c c' (max B B') w (hl.more (Nat.le_max_left _ _)) (hm.more (Nat.le_max_right _ _)) hb hb').mono fun _ _ x => x.t (by simp [h])
theorem equal_t (l m : List ByteArray) (h : l = m) (A A' : Option Addr) (n n' c c' B B' : Nat) (w : World) (hn : l.length = n) (hn' : m.length = n') (hl : Rd w B 1 A n (sv l)) (hm : Rd w B' 1 A' n' (sv m)) (hb : n ≤ 140737488355328) (hb' : n' ≤ 140737488355328) :
    Calls Tryd.prog 43 #[.slice A n c, .slice A' n' c'] w (Quiet (.bool true) w) := by
  subst hn hn'
  exact (equal l m A A' c c' (max B B') w (hl.more (Nat.le_max_left _ _)) (hm.more (Nat.le_max_right _ _)) hb hb').mono fun _ _ x => x.t (by simp [h])
theorem equal_f (l m : List ByteArray) (h : l ≠ m) (A A' : Option Addr) (n n' c c' B B' : Nat) (w : World) (hn : l.length = n) (hn' : m.length = n') (hl : Rd w B 1 A n (sv l)) (hm : Rd w B' 1 A' n' (sv m)) (hb : n ≤ 140737488355328) (hb' : n' ≤ 140737488355328) :
    Calls Tryd.prog 43 #[.slice A n c, .slice A' n' c'] w (Quiet (.bool false) w) := by
  subst hn hn'
  exact (equal l m A A' c c' (max B B') w (hl.more (Nat.le_max_left _ _)) (hm.more (Nat.le_max_right _ _)) hb hb').mono fun _ _ x => x.t (by simp [h])
end Go.Proofs.YtoiballfjbdoiaaDoor
