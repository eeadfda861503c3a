/- Joined texts: Sm1, SxD. -/
import Derived.Test.YtndgcjdiemfngaaGreatDoorQAE
import Derived.Test.YtndgcjdiemfngaaGreatDoorQAG
import Derived.Test.YtndgcjdiemfngaaGreatDoorQBG
set_option linter.unusedVariables false
set_option linter.unusedSimpArgs false
set_option linter.unnecessarySimpa false
/- Layer 40's statements: two lists of words are compared. -/
namespace Go.Proofs.YtndgcjdiemfngaaGreatDoor
open Go.RowKit
set_option maxHeartbeats 400000 in
theorem same40 (l m : List ByteArray) (A A' : Option Addr) (n n' c c' B B' : Nat) (w : World) (hn : l.length = n) (hn' : m.length = n') (hl : Rd w B 1 A n (sv l)) (hm : Rd w B' 1 A' n' (sv m)) (hb : n ≤ 140737488355328) (hb' : n' ≤ 140737488355328) :
    Calls Tryz.prog 14 #[.slice A n c, .slice A' n' c'] w (Quiet (.bool (decide (l = m))) w) := by
  subst hn hn'
  by_cases hlen : l.length = m.length
  · have e1 : ((l.length : Int) == (m.length : Int)) = true := by simp [hlen]
    have e2 : ((l.length : Int) != (m.length : Int)) = false := by simp [hlen]
    have HL := Lib.hid hlen
    clear hlen
    go_enter Tryz.func14, Tryz.ntmps14
    go_wp2
    go_loopw [13] (fun i wr => ∃ k j : Nat, k ≤ l.length ∧ i = .int .i64 k ∧ wr = w.drewN j ∧ ∀ i (h1 : i < l.length) (h2 : i < m.length), i < k → l[i] = m[i]) (fun i _ => l.length - (intOf i).toNat)
    case atStart => exact ⟨0, 0, Nat.zero_le _, rfl, rfl, fun _ _ _ h => absurd h (by omega)⟩
    case round =>
      obtain ⟨k, j, hk, rfl, rfl, hall⟩ := hrel
      have HA := Lib.hid hall
      clear hall
      by_cases hlt : k < l.length
      · have hkm : k < m.length := by have := HL.out; omega
        obtain ⟨b, o, rfl, hbB, hc⟩ := hl.at_ hlt
        obtain ⟨b', o', rfl, hbB', hc'⟩ := hm.at_ hkm
        rw [sv_get _ _ hlt] at hc
        rw [sv_get _ _ hkm] at hc'
        go_wp2
        go_quiet (fail)
        go_wp2
        · rename_i hne
          rw [str_beq] at hne
          go_ret
          refine ⟨?_, j + nq, by simp [World.drewN_drewN]⟩
          have : l ≠ m := by rintro rfl; simp at hne
          simp [this]
        · rename_i hne
          rw [str_beq] at hne
          have hek : l[k] = m[k] := by simpa using hne
          have hA2 := HA.out
          refine ⟨⟨k + 1, _, by omega, by go_num, rfl, fun i h1 h2 h3 => ?_⟩, by simp [intOf]; omega⟩
          rcases Nat.lt_or_ge i k with h | h
          · exact hA2 i h1 h2 h
          · obtain rfl : i = k := by omega
            exact hek
      · go_wp2
        go_ret
        have : l = m := take_eq_of_all l m HL.out (fun i h1 h2 => HA.out i h1 h2 (by omega))
        exact ⟨by simp [this], _, rfl⟩
  · have e2 : ((l.length : Int) != (m.length : Int)) = true := by simp; omega
    go_enter Tryz.func14, Tryz.ntmps14
    go_wp2
    go_ret
    have : l ≠ m := by rintro rfl; exact hlen rfl
    exact ⟨by simp [this], 0, rfl⟩
end Go.Proofs.YtndgcjdiemfngaaGreatDoor
/- Layer 40's statement Distinct. -/
namespace Go.Proofs.YtndgcjdiemfngaaGreatDoor
open Go.RowKit
set_option maxRecDepth 20000
set_option maxHeartbeats 4000000 in
theorem law_SpokentextDistinct (w : World) (hg : Gd w) (A : Option Addr) (n c : Nat) (k : List Gl) (hn : k.length = n) (hc : n ≤ c) (hm : c ≤ maxLen) (rd : Rd w w.heap.size 3 A n (encGs k)) (hs : ∀ g ∈ k, g.text.size ≤ maxLen ∧ (Lit.int .i64 g.style).wf = true)
    (A' : Option Addr) (n' c' : Nat) (l : List Gl) (hn' : l.length = n') (hc' : n' ≤ c') (hm' : c' ≤ maxLen) (rd' : Rd w w.heap.size 3 A' n' (encGs l)) (hs' : ∀ g ∈ l, g.text.size ≤ maxLen ∧ (Lit.int .i64 g.style).wf = true)
    (r : Int) (d sp : Bool) (q : Int) (co : Bool) (z : Int) (wr : (Lit.int .i64 r).wf = true) (wq : (Lit.int .i64 q).wf = true) (wz : (Lit.int .i64 z).wf = true)
    (r' : Int) (d' sp' : Bool) (q' : Int) (co' : Bool) (z' : Int) (wr' : (Lit.int .i64 r').wf = true) (wq' : (Lit.int .i64 q').wf = true) (wz' : (Lit.int .i64 z').wf = true) :
    Calls Tryz.prog 8 #[.slice A n c, .slice A' n' c', stV r d sp q co z, stV r' d' sp' q' co' z'] w (Gives (.bool true) w) := by
  subst hn hn'
  have HA : Hid (∀ w', Below w.heap.size w w' → Calls Tryz.prog 13 #[] w' fun e w'' => e = .returned (.bool true) ∧ Below w.heap.size w w'' ∧ Below w'.heap.size w' w'') := Lib.hid fun w' hw => (awake_ w' (hg.below hw)).mono fun e w'' ⟨h1, h2⟩ => ⟨h1, hw.trans (h2.mono hw.size), h2⟩
  have HP : ∀ (A : Option Addr) (c : Nat) (l : List Gl), l.length ≤ c → c ≤ maxLen → Rd w w.heap.size 3 A l.length (encGs l) → (∀ g ∈ l, g.text.size ≤ maxLen ∧ (Lit.int .i64 g.style).wf = true) → Hid (∀ w', Below w.heap.size w w' → Calls Tryz.prog 11 #[.slice A l.length c] w' fun e w'' => e = .returned (.bool (properB l)) ∧ Below w.heap.size w w'' ∧ Below w'.heap.size w' w'') := fun A c l hc hm rd hs => Lib.hid fun w' hw => (proper_ l A _ c w.heap.size w' (by unfold maxLen at *; omega) (fun g hg => (hs g hg).1) (rd.below hw) hw.size).mono fun e w'' ⟨h1, h2⟩ => ⟨h1, hw.trans (h2.mono hw.size), h2⟩
  have HPk := HP A c k hc hm rd hs
  have HPl := HP A' c' l hc' hm' rd' hs'
  have HC : ∀ (r : Int) (d sp : Bool) (q : Int) (co : Bool) (k : Int), Hid (∀ w', Below w.heap.size w w' → Calls Tryz.prog 23 #[stV r d sp q co k] w' fun e w'' => e = .returned (.int .i64 (setE r q k)) ∧ Below w.heap.size w w'' ∧ Below w'.heap.size w' w'') := fun r d sp q co k => Lib.hid fun w' hw => (check_s r d sp q co k w').mono fun e w'' ⟨h1, h2⟩ => ⟨h1, hw.trans (h2.mono hw.size), h2⟩
  have HCs := HC r d sp q co z
  have HCt := HC r' d' sp' q' co' z'
  have HW : ∀ (A : Option Addr) (c : Nat) (l : List Gl), l.length ≤ c → c ≤ maxLen → Rd w w.heap.size 3 A l.length (encGs l) → properB l = true → ∀ (r : Int) (d sp : Bool) (q : Int) (co : Bool) (k : Int), Hid (∀ w', Below w.heap.size w w' → Calls Tryz.prog 15 #[.slice A l.length c, stV r d sp q co k] w' fun e w'' => ∃ A2 c2, e = .returned (.slice A2 (spokenWords l ⟨d, sp, q⟩).length c2) ∧ w''.ownsRow w'.heap.size 9 1 (.slice A2 (spokenWords l ⟨d, sp, q⟩).length c2) (spokenWords l ⟨d, sp, q⟩).length (sv (spokenWords l ⟨d, sp, q⟩)) ∧ Below w.heap.size w w'' ∧ Below w'.heap.size w' w'') := fun A c l hc hm rd hp r d sp q co k => Lib.hid fun w' hw => by
    have hg' := hg.below hw
    exact (words_ l A _ c w.heap.size r d sp q co k w' hg'.1 hg'.2.1 hg'.2.2 (Nat.le_trans (properB_all hp).1 (by decide)) hc hm (GW_plain hp) (rd.below hw) hw.size).mono fun e w'' ⟨A, c, he, ho, hb⟩ => ⟨A, c, he, ho, hw.trans (hb.mono hw.size), hb⟩
  have HWk := HW A c k hc hm rd
  have HWl := HW A' c' l hc' hm' rd'
  have HR : properB k = true → Hid (∀ w', Below w.heap.size w w' → Calls Tryz.prog 20 #[.slice A k.length c, .slice A' l.length c'] w' fun e w'' => e = .returned (.bool (decide (k = l))) ∧ Below w.heap.size w w'' ∧ Below w'.heap.size w' w'') := fun hp => Lib.hid fun w' hw =>
    (rsamerow k l A A' _ _ c c' w.heap.size w' (Nat.le_trans (properB_all hp).1 (by decide)) (rd.below hw) (rd'.below hw)).mono fun e w'' h => ⟨h.gives.1, hw.trans (h.gives.2.mono hw.size), h.gives.2⟩
  clear HP HC HW rd hs rd' hs' hg
  cases hp : properB k with
  | false =>
    rw [hp] at HPk
    clear hp HWk HWl HR
    go_enter Tryz.func8, Tryz.ntmps8
    go_upto_region 1 with fail
    refine wp_fg (fun X => (StBox X r d sp q co z w.heap.size ∧ StBox X r' d' sp' q' co' z' (w.heap.size + 1)) ∧ Below w.heap.size w X ∧ X.heap.size = w.heap.size + 2) ⟨⟨(StBox.new w r d sp q co z 24).below (B := w.heap.size + 1) (Below.alloc (Below.refl _ _) (by simp) _) (by omega), by have h := StBox.new (w.alloc (.cells #[.int .i64 r, .bool d, .bool sp, .int .i64 q, .bool co, .int .i64 z] 24)) r' d' sp' q' co' z' 24; rwa [World.size_alloc] at h⟩, ((Below.refl _ _).alloc (Nat.le_refl _) _).alloc (by simp) _, by simp⟩ ?_
    rintro X ⟨⟨hst, hst'⟩, hbc, hzX⟩
    have HSt : Hid (∀ w', Below X.heap.size X w' → (w'.cell? ⟨w.heap.size, 0, none⟩ = some (.int .i64 r) ∧ w'.cell? ⟨w.heap.size, 1, none⟩ = some (.bool d) ∧ w'.cell? ⟨w.heap.size, 2, none⟩ = some (.bool sp) ∧ w'.cell? ⟨w.heap.size, 3, none⟩ = some (.int .i64 q) ∧ w'.cell? ⟨w.heap.size, 4, none⟩ = some (.bool co) ∧ w'.cell? ⟨w.heap.size, 5, none⟩ = some (.int .i64 z)) ∧ (w'.cell? ⟨(w.heap.size + 1), 0, none⟩ = some (.int .i64 r') ∧ w'.cell? ⟨(w.heap.size + 1), 1, none⟩ = some (.bool d') ∧ w'.cell? ⟨(w.heap.size + 1), 2, none⟩ = some (.bool sp') ∧ w'.cell? ⟨(w.heap.size + 1), 3, none⟩ = some (.int .i64 q') ∧ w'.cell? ⟨(w.heap.size + 1), 4, none⟩ = some (.bool co') ∧ w'.cell? ⟨(w.heap.size + 1), 5, none⟩ = some (.int .i64 z'))) := Lib.hid fun w' h => ⟨hst.below h (by omega), hst'.below h (by omega)⟩
    clear hst hst' hzX
    have hXc : Below X.heap.size X X := Below.refl _ _
    go_wp2_with (first
        | (go_at_call 11; (first | (with_reducible refine (HPk.out _ (by assumption)).mono ?_) | (with_reducible refine (HPl.out _ (by assumption)).mono ?_)); rintro e wc ⟨rfl, hbc, hx⟩; have hXc := hXc.trans (hx.mono hXc.size); obtain ⟨⟨_, _, _, _, _, _⟩, _, _, _, _, _, _⟩ := HSt.out _ hXc)
        | (go_at_call 23; (first | (with_reducible refine (HCs.out _ (by assumption)).mono ?_) | (with_reducible refine (HCt.out _ (by assumption)).mono ?_)); rintro e wc ⟨rfl, hbc, hx⟩; have hXc := hXc.trans (hx.mono hXc.size); obtain ⟨⟨_, _, _, _, _, _⟩, _, _, _, _, _, _⟩ := HSt.out _ hXc)
        | (go_at_call 20; refine (HSR.out _ (by assumption)).mono ?_; rintro e wc ⟨rfl, hbc, hx⟩; have hXc := hXc.trans (hx.mono hXc.size); obtain ⟨⟨_, _, _, _, _, _⟩, _, _, _, _, _, _⟩ := HSt.out _ hXc)
        | (go_at_call 13; refine (HA.out _ (by assumption)).mono ?_; rintro e wc ⟨rfl, hbc, hx⟩; have hXc := hXc.trans (hx.mono hXc.size); obtain ⟨⟨_, _, _, _, _, _⟩, _, _, _, _, _, _⟩ := HSt.out _ hXc))
    go_ret
    exact ⟨rfl, hbc⟩
  | true =>
    replace HWk := HWk hp
    have HSR := HR hp
    cases hp' : properB l with
    | false =>
      rw [hp] at HPk
      rw [hp'] at HPl
      clear hp hp' HWk HWl HR
      go_enter Tryz.func8, Tryz.ntmps8
      go_upto_region 1 with fail
      refine wp_fg (fun X => (StBox X r d sp q co z w.heap.size ∧ StBox X r' d' sp' q' co' z' (w.heap.size + 1)) ∧ Below w.heap.size w X ∧ X.heap.size = w.heap.size + 2) ⟨⟨(StBox.new w r d sp q co z 24).below (B := w.heap.size + 1) (Below.alloc (Below.refl _ _) (by simp) _) (by omega), by have h := StBox.new (w.alloc (.cells #[.int .i64 r, .bool d, .bool sp, .int .i64 q, .bool co, .int .i64 z] 24)) r' d' sp' q' co' z' 24; rwa [World.size_alloc] at h⟩, ((Below.refl _ _).alloc (Nat.le_refl _) _).alloc (by simp) _, by simp⟩ ?_
      rintro X ⟨⟨hst, hst'⟩, hbc, hzX⟩
      have HSt : Hid (∀ w', Below X.heap.size X w' → (w'.cell? ⟨w.heap.size, 0, none⟩ = some (.int .i64 r) ∧ w'.cell? ⟨w.heap.size, 1, none⟩ = some (.bool d) ∧ w'.cell? ⟨w.heap.size, 2, none⟩ = some (.bool sp) ∧ w'.cell? ⟨w.heap.size, 3, none⟩ = some (.int .i64 q) ∧ w'.cell? ⟨w.heap.size, 4, none⟩ = some (.bool co) ∧ w'.cell? ⟨w.heap.size, 5, none⟩ = some (.int .i64 z)) ∧ (w'.cell? ⟨(w.heap.size + 1), 0, none⟩ = some (.int .i64 r') ∧ w'.cell? ⟨(w.heap.size + 1), 1, none⟩ = some (.bool d') ∧ w'.cell? ⟨(w.heap.size + 1), 2, none⟩ = some (.bool sp') ∧ w'.cell? ⟨(w.heap.size + 1), 3, none⟩ = some (.int .i64 q') ∧ w'.cell? ⟨(w.heap.size + 1), 4, none⟩ = some (.bool co') ∧ w'.cell? ⟨(w.heap.size + 1), 5, none⟩ = some (.int .i64 z'))) := Lib.hid fun w' h => ⟨hst.below h (by omega), hst'.below h (by omega)⟩
      clear hst hst' hzX
      have hXc : Below X.heap.size X X := Below.refl _ _
      go_wp2_with (first
          | (go_at_call 11; (first | (with_reducible refine (HPk.out _ (by assumption)).mono ?_) | (with_reducible refine (HPl.out _ (by assumption)).mono ?_)); rintro e wc ⟨rfl, hbc, hx⟩; have hXc := hXc.trans (hx.mono hXc.size); obtain ⟨⟨_, _, _, _, _, _⟩, _, _, _, _, _, _⟩ := HSt.out _ hXc)
          | (go_at_call 23; (first | (with_reducible refine (HCs.out _ (by assumption)).mono ?_) | (with_reducible refine (HCt.out _ (by assumption)).mono ?_)); rintro e wc ⟨rfl, hbc, hx⟩; have hXc := hXc.trans (hx.mono hXc.size); obtain ⟨⟨_, _, _, _, _, _⟩, _, _, _, _, _, _⟩ := HSt.out _ hXc)
          | (go_at_call 20; refine (HSR.out _ (by assumption)).mono ?_; rintro e wc ⟨rfl, hbc, hx⟩; have hXc := hXc.trans (hx.mono hXc.size); obtain ⟨⟨_, _, _, _, _, _⟩, _, _, _, _, _, _⟩ := HSt.out _ hXc)
          | (go_at_call 13; refine (HA.out _ (by assumption)).mono ?_; rintro e wc ⟨rfl, hbc, hx⟩; have hXc := hXc.trans (hx.mono hXc.size); obtain ⟨⟨_, _, _, _, _, _⟩, _, _, _, _, _, _⟩ := HSt.out _ hXc))
      go_ret
      exact ⟨rfl, hbc⟩
    | true =>
      replace HWl := HWl hp'
      by_cases hbad : BadS r q z
      · rw [hp] at HPk
        rw [hp'] at HPl
        rw [setE_bad hbad] at HCs
        clear hp hp' HWk HWl HR hbad
        go_enter Tryz.func8, Tryz.ntmps8
        go_upto_region 1 with fail
        refine wp_fg (fun X => (StBox X r d sp q co z w.heap.size ∧ StBox X r' d' sp' q' co' z' (w.heap.size + 1)) ∧ Below w.heap.size w X ∧ X.heap.size = w.heap.size + 2) ⟨⟨(StBox.new w r d sp q co z 24).below (B := w.heap.size + 1) (Below.alloc (Below.refl _ _) (by simp) _) (by omega), by have h := StBox.new (w.alloc (.cells #[.int .i64 r, .bool d, .bool sp, .int .i64 q, .bool co, .int .i64 z] 24)) r' d' sp' q' co' z' 24; rwa [World.size_alloc] at h⟩, ((Below.refl _ _).alloc (Nat.le_refl _) _).alloc (by simp) _, by simp⟩ ?_
        rintro X ⟨⟨hst, hst'⟩, hbc, hzX⟩
        have HSt : Hid (∀ w', Below X.heap.size X w' → (w'.cell? ⟨w.heap.size, 0, none⟩ = some (.int .i64 r) ∧ w'.cell? ⟨w.heap.size, 1, none⟩ = some (.bool d) ∧ w'.cell? ⟨w.heap.size, 2, none⟩ = some (.bool sp) ∧ w'.cell? ⟨w.heap.size, 3, none⟩ = some (.int .i64 q) ∧ w'.cell? ⟨w.heap.size, 4, none⟩ = some (.bool co) ∧ w'.cell? ⟨w.heap.size, 5, none⟩ = some (.int .i64 z)) ∧ (w'.cell? ⟨(w.heap.size + 1), 0, none⟩ = some (.int .i64 r') ∧ w'.cell? ⟨(w.heap.size + 1), 1, none⟩ = some (.bool d') ∧ w'.cell? ⟨(w.heap.size + 1), 2, none⟩ = some (.bool sp') ∧ w'.cell? ⟨(w.heap.size + 1), 3, none⟩ = some (.int .i64 q') ∧ w'.cell? ⟨(w.heap.size + 1), 4, none⟩ = some (.bool co') ∧ w'.cell? ⟨(w.heap.size + 1), 5, none⟩ = some (.int .i64 z'))) := Lib.hid fun w' h => ⟨hst.below h (by omega), hst'.below h (by omega)⟩
        clear hst hst' hzX
        have hXc : Below X.heap.size X X := Below.refl _ _
        go_wp2_with (first
            | (go_at_call 11; (first | (with_reducible refine (HPk.out _ (by assumption)).mono ?_) | (with_reducible refine (HPl.out _ (by assumption)).mono ?_)); rintro e wc ⟨rfl, hbc, hx⟩; have hXc := hXc.trans (hx.mono hXc.size); obtain ⟨⟨_, _, _, _, _, _⟩, _, _, _, _, _, _⟩ := HSt.out _ hXc)
            | (go_at_call 23; (first | (with_reducible refine (HCs.out _ (by assumption)).mono ?_) | (with_reducible refine (HCt.out _ (by assumption)).mono ?_)); rintro e wc ⟨rfl, hbc, hx⟩; have hXc := hXc.trans (hx.mono hXc.size); obtain ⟨⟨_, _, _, _, _, _⟩, _, _, _, _, _, _⟩ := HSt.out _ hXc)
            | (go_at_call 20; refine (HSR.out _ (by assumption)).mono ?_; rintro e wc ⟨rfl, hbc, hx⟩; have hXc := hXc.trans (hx.mono hXc.size); obtain ⟨⟨_, _, _, _, _, _⟩, _, _, _, _, _, _⟩ := HSt.out _ hXc)
            | (go_at_call 13; refine (HA.out _ (by assumption)).mono ?_; rintro e wc ⟨rfl, hbc, hx⟩; have hXc := hXc.trans (hx.mono hXc.size); obtain ⟨⟨_, _, _, _, _, _⟩, _, _, _, _, _, _⟩ := HSt.out _ hXc))
        go_ret
        exact ⟨rfl, hbc⟩
      · by_cases hbad' : BadS r' q' z'
        · rw [hp] at HPk
          rw [hp'] at HPl
          rw [setE_ok hbad] at HCs
          rw [setE_bad hbad'] at HCt
          clear hp hp' HWk HWl HR hbad hbad'
          go_enter Tryz.func8, Tryz.ntmps8
          go_upto_region 1 with fail
          refine wp_fg (fun X => (StBox X r d sp q co z w.heap.size ∧ StBox X r' d' sp' q' co' z' (w.heap.size + 1)) ∧ Below w.heap.size w X ∧ X.heap.size = w.heap.size + 2) ⟨⟨(StBox.new w r d sp q co z 24).below (B := w.heap.size + 1) (Below.alloc (Below.refl _ _) (by simp) _) (by omega), by have h := StBox.new (w.alloc (.cells #[.int .i64 r, .bool d, .bool sp, .int .i64 q, .bool co, .int .i64 z] 24)) r' d' sp' q' co' z' 24; rwa [World.size_alloc] at h⟩, ((Below.refl _ _).alloc (Nat.le_refl _) _).alloc (by simp) _, by simp⟩ ?_
          rintro X ⟨⟨hst, hst'⟩, hbc, hzX⟩
          have HSt : Hid (∀ w', Below X.heap.size X w' → (w'.cell? ⟨w.heap.size, 0, none⟩ = some (.int .i64 r) ∧ w'.cell? ⟨w.heap.size, 1, none⟩ = some (.bool d) ∧ w'.cell? ⟨w.heap.size, 2, none⟩ = some (.bool sp) ∧ w'.cell? ⟨w.heap.size, 3, none⟩ = some (.int .i64 q) ∧ w'.cell? ⟨w.heap.size, 4, none⟩ = some (.bool co) ∧ w'.cell? ⟨w.heap.size, 5, none⟩ = some (.int .i64 z)) ∧ (w'.cell? ⟨(w.heap.size + 1), 0, none⟩ = some (.int .i64 r') ∧ w'.cell? ⟨(w.heap.size + 1), 1, none⟩ = some (.bool d') ∧ w'.cell? ⟨(w.heap.size + 1), 2, none⟩ = some (.bool sp') ∧ w'.cell? ⟨(w.heap.size + 1), 3, none⟩ = some (.int .i64 q') ∧ w'.cell? ⟨(w.heap.size + 1), 4, none⟩ = some (.bool co') ∧ w'.cell? ⟨(w.heap.size + 1), 5, none⟩ = some (.int .i64 z'))) := Lib.hid fun w' h => ⟨hst.below h (by omega), hst'.below h (by omega)⟩
          clear hst hst' hzX
          have hXc : Below X.heap.size X X := Below.refl _ _
          go_wp2_with (first
              | (go_at_call 11; (first | (with_reducible refine (HPk.out _ (by assumption)).mono ?_) | (with_reducible refine (HPl.out _ (by assumption)).mono ?_)); rintro e wc ⟨rfl, hbc, hx⟩; have hXc := hXc.trans (hx.mono hXc.size); obtain ⟨⟨_, _, _, _, _, _⟩, _, _, _, _, _, _⟩ := HSt.out _ hXc)
              | (go_at_call 23; (first | (with_reducible refine (HCs.out _ (by assumption)).mono ?_) | (with_reducible refine (HCt.out _ (by assumption)).mono ?_)); rintro e wc ⟨rfl, hbc, hx⟩; have hXc := hXc.trans (hx.mono hXc.size); obtain ⟨⟨_, _, _, _, _, _⟩, _, _, _, _, _, _⟩ := HSt.out _ hXc)
              | (go_at_call 20; refine (HSR.out _ (by assumption)).mono ?_; rintro e wc ⟨rfl, hbc, hx⟩; have hXc := hXc.trans (hx.mono hXc.size); obtain ⟨⟨_, _, _, _, _, _⟩, _, _, _, _, _, _⟩ := HSt.out _ hXc)
              | (go_at_call 13; refine (HA.out _ (by assumption)).mono ?_; rintro e wc ⟨rfl, hbc, hx⟩; have hXc := hXc.trans (hx.mono hXc.size); obtain ⟨⟨_, _, _, _, _, _⟩, _, _, _, _, _, _⟩ := HSt.out _ hXc))
          go_ret
          exact ⟨rfl, hbc⟩
        · rw [setE_ok hbad] at HCs
          rw [setE_ok hbad'] at HCt
          by_cases hkl : k = l
          · rw [decide_eq_true hkl] at HSR
            rw [hp] at HPk
            rw [hp'] at HPl
            clear hp hp' HWk HWl HR hbad hbad' hkl
            go_enter Tryz.func8, Tryz.ntmps8
            go_upto_region 1 with fail
            refine wp_fg (fun X => (StBox X r d sp q co z w.heap.size ∧ StBox X r' d' sp' q' co' z' (w.heap.size + 1)) ∧ Below w.heap.size w X ∧ X.heap.size = w.heap.size + 2) ⟨⟨(StBox.new w r d sp q co z 24).below (B := w.heap.size + 1) (Below.alloc (Below.refl _ _) (by simp) _) (by omega), by have h := StBox.new (w.alloc (.cells #[.int .i64 r, .bool d, .bool sp, .int .i64 q, .bool co, .int .i64 z] 24)) r' d' sp' q' co' z' 24; rwa [World.size_alloc] at h⟩, ((Below.refl _ _).alloc (Nat.le_refl _) _).alloc (by simp) _, by simp⟩ ?_
            rintro X ⟨⟨hst, hst'⟩, hbc, hzX⟩
            have HSt : Hid (∀ w', Below X.heap.size X w' → (w'.cell? ⟨w.heap.size, 0, none⟩ = some (.int .i64 r) ∧ w'.cell? ⟨w.heap.size, 1, none⟩ = some (.bool d) ∧ w'.cell? ⟨w.heap.size, 2, none⟩ = some (.bool sp) ∧ w'.cell? ⟨w.heap.size, 3, none⟩ = some (.int .i64 q) ∧ w'.cell? ⟨w.heap.size, 4, none⟩ = some (.bool co) ∧ w'.cell? ⟨w.heap.size, 5, none⟩ = some (.int .i64 z)) ∧ (w'.cell? ⟨(w.heap.size + 1), 0, none⟩ = some (.int .i64 r') ∧ w'.cell? ⟨(w.heap.size + 1), 1, none⟩ = some (.bool d') ∧ w'.cell? ⟨(w.heap.size + 1), 2, none⟩ = some (.bool sp') ∧ w'.cell? ⟨(w.heap.size + 1), 3, none⟩ = some (.int .i64 q') ∧ w'.cell? ⟨(w.heap.size + 1), 4, none⟩ = some (.bool co') ∧ w'.cell? ⟨(w.heap.size + 1), 5, none⟩ = some (.int .i64 z'))) := Lib.hid fun w' h => ⟨hst.below h (by omega), hst'.below h (by omega)⟩
            clear hst hst' hzX
            have hXc : Below X.heap.size X X := Below.refl _ _
            go_wp2_with (first
                | (go_at_call 11; (first | (with_reducible refine (HPk.out _ (by assumption)).mono ?_) | (with_reducible refine (HPl.out _ (by assumption)).mono ?_)); rintro e wc ⟨rfl, hbc, hx⟩; have hXc := hXc.trans (hx.mono hXc.size); obtain ⟨⟨_, _, _, _, _, _⟩, _, _, _, _, _, _⟩ := HSt.out _ hXc)
                | (go_at_call 23; (first | (with_reducible refine (HCs.out _ (by assumption)).mono ?_) | (with_reducible refine (HCt.out _ (by assumption)).mono ?_)); rintro e wc ⟨rfl, hbc, hx⟩; have hXc := hXc.trans (hx.mono hXc.size); obtain ⟨⟨_, _, _, _, _, _⟩, _, _, _, _, _, _⟩ := HSt.out _ hXc)
                | (go_at_call 20; refine (HSR.out _ (by assumption)).mono ?_; rintro e wc ⟨rfl, hbc, hx⟩; have hXc := hXc.trans (hx.mono hXc.size); obtain ⟨⟨_, _, _, _, _, _⟩, _, _, _, _, _, _⟩ := HSt.out _ hXc)
                | (go_at_call 13; refine (HA.out _ (by assumption)).mono ?_; rintro e wc ⟨rfl, hbc, hx⟩; have hXc := hXc.trans (hx.mono hXc.size); obtain ⟨⟨_, _, _, _, _, _⟩, _, _, _, _, _, _⟩ := HSt.out _ hXc))
            go_ret
            exact ⟨rfl, hbc⟩
          · rw [decide_eq_false hkl] at HSR
            have hne : spokenWords k ⟨d, sp, q⟩ ≠ spokenWords l ⟨d', sp', q'⟩ := fun e => hkl (by
              have h1 := round_proper hp ⟨d, sp, q⟩
              have h2 := round_proper hp' ⟨d', sp', q'⟩
              rw [e, h2] at h1
              injection h1 with h1
              exact h1.symm)
            have hl1 := (words_bounds k ⟨d, sp, q⟩ (properB_all hp).1 fun x hx => ((properB_all hp).2 x hx).2.2).1
            have hl2 := (words_bounds l ⟨d', sp', q'⟩ (properB_all hp').1 fun x hx => ((properB_all hp').2 x hx).2.2).1
            rw [hp] at HPk
            rw [hp'] at HPl
            replace HWk := HWk r d sp q co z
            replace HWl := HWl r' d' sp' q' co' z'
            generalize spokenWords k ⟨d, sp, q⟩ = WK at *
            generalize spokenWords l ⟨d', sp', q'⟩ = WL at *
            have HSm : Hid (∀ w' A2 c2 A3 c3, Below w.heap.size w w' → (∃ B, w'.ownsRow B 9 1 (.slice A2 WK.length c2) WK.length (sv WK)) → (∃ B, w'.ownsRow B 9 1 (.slice A3 WL.length c3) WL.length (sv WL)) →
                Calls Tryz.prog 14 #[.slice A2 WK.length c2, .slice A3 WL.length c3] w' fun e w'' => e = .returned (.bool false) ∧ Below w.heap.size w w'' ∧ Below w'.heap.size w' w'') := Lib.hid fun w' A2 c2 A3 c3 hw ⟨B, o2⟩ ⟨B', o3⟩ => by
              have h := same40 WK WL A2 A3 _ _ c2 c3 _ _ w' rfl rfl (Rd.of_own o2) (Rd.of_own o3) (by omega) (by omega)
              rw [decide_eq_false hne] at h
              exact h.mono fun e w'' h => ⟨h.gives.1, hw.trans (h.gives.2.mono hw.size), h.gives.2⟩
            clear hp hp' HR hbad hbad' hkl hne hl1 hl2
            go_enter Tryz.func8, Tryz.ntmps8
            go_upto_region 1 with fail
            refine wp_fg (fun X => (StBox X r d sp q co z w.heap.size ∧ StBox X r' d' sp' q' co' z' (w.heap.size + 1)) ∧ Below w.heap.size w X ∧ X.heap.size = w.heap.size + 2) ⟨⟨(StBox.new w r d sp q co z 24).below (B := w.heap.size + 1) (Below.alloc (Below.refl _ _) (by simp) _) (by omega), by have h := StBox.new (w.alloc (.cells #[.int .i64 r, .bool d, .bool sp, .int .i64 q, .bool co, .int .i64 z] 24)) r' d' sp' q' co' z' 24; rwa [World.size_alloc] at h⟩, ((Below.refl _ _).alloc (Nat.le_refl _) _).alloc (by simp) _, by simp⟩ ?_
            rintro X ⟨⟨hst, hst'⟩, hbc, hzX⟩
            have HSt : Hid (∀ w', Below X.heap.size X w' → (w'.cell? ⟨w.heap.size, 0, none⟩ = some (.int .i64 r) ∧ w'.cell? ⟨w.heap.size, 1, none⟩ = some (.bool d) ∧ w'.cell? ⟨w.heap.size, 2, none⟩ = some (.bool sp) ∧ w'.cell? ⟨w.heap.size, 3, none⟩ = some (.int .i64 q) ∧ w'.cell? ⟨w.heap.size, 4, none⟩ = some (.bool co) ∧ w'.cell? ⟨w.heap.size, 5, none⟩ = some (.int .i64 z)) ∧ (w'.cell? ⟨(w.heap.size + 1), 0, none⟩ = some (.int .i64 r') ∧ w'.cell? ⟨(w.heap.size + 1), 1, none⟩ = some (.bool d') ∧ w'.cell? ⟨(w.heap.size + 1), 2, none⟩ = some (.bool sp') ∧ w'.cell? ⟨(w.heap.size + 1), 3, none⟩ = some (.int .i64 q') ∧ w'.cell? ⟨(w.heap.size + 1), 4, none⟩ = some (.bool co') ∧ w'.cell? ⟨(w.heap.size + 1), 5, none⟩ = some (.int .i64 z'))) := Lib.hid fun w' h => ⟨hst.below h (by omega), hst'.below h (by omega)⟩
            clear hst hst' hzX
            have hXc : Below X.heap.size X X := Below.refl _ _
            go_upto_region 3 with (first
                | (go_at_call 11; (first | (with_reducible refine (HPk.out _ (by assumption)).mono ?_) | (with_reducible refine (HPl.out _ (by assumption)).mono ?_)); rintro e wc ⟨rfl, hbc, hx⟩; have hXc := hXc.trans (hx.mono hXc.size); obtain ⟨⟨_, _, _, _, _, _⟩, _, _, _, _, _, _⟩ := HSt.out _ hXc)
                | (go_at_call 23; (first | (with_reducible refine (HCs.out _ (by assumption)).mono ?_) | (with_reducible refine (HCt.out _ (by assumption)).mono ?_)); rintro e wc ⟨rfl, hbc, hx⟩; have hXc := hXc.trans (hx.mono hXc.size); obtain ⟨⟨_, _, _, _, _, _⟩, _, _, _, _, _, _⟩ := HSt.out _ hXc)
                | (go_at_call 20; refine (HSR.out _ (by assumption)).mono ?_; rintro e wc ⟨rfl, hbc, hx⟩; have hXc := hXc.trans (hx.mono hXc.size); obtain ⟨⟨_, _, _, _, _, _⟩, _, _, _, _, _, _⟩ := HSt.out _ hXc)
                | (go_at_call 13; refine (HA.out _ (by assumption)).mono ?_; rintro e wc ⟨rfl, hbc, hx⟩; have hXc := hXc.trans (hx.mono hXc.size); obtain ⟨⟨_, _, _, _, _, _⟩, _, _, _, _, _, _⟩ := HSt.out _ hXc))
            have hbc := hbc.drew
            have hXc := hXc.drew
            obtain ⟨⟨_, _, _, _, _, _⟩, _, _, _, _, _, _⟩ := HSt.out _ hXc
            go_region_held3 (fun w' => (w'.cell? ⟨w.heap.size, 0, none⟩ = some (.int .i64 r) ∧ w'.cell? ⟨w.heap.size, 1, none⟩ = some (.bool d) ∧ w'.cell? ⟨w.heap.size, 2, none⟩ = some (.bool sp) ∧ w'.cell? ⟨w.heap.size, 3, none⟩ = some (.int .i64 q) ∧ w'.cell? ⟨w.heap.size, 4, none⟩ = some (.bool co) ∧ w'.cell? ⟨w.heap.size, 5, none⟩ = some (.int .i64 z)) ∧ (w'.cell? ⟨(w.heap.size + 1), 0, none⟩ = some (.int .i64 r') ∧ w'.cell? ⟨(w.heap.size + 1), 1, none⟩ = some (.bool d') ∧ w'.cell? ⟨(w.heap.size + 1), 2, none⟩ = some (.bool sp') ∧ w'.cell? ⟨(w.heap.size + 1), 3, none⟩ = some (.int .i64 q') ∧ w'.cell? ⟨(w.heap.size + 1), 4, none⟩ = some (.bool co') ∧ w'.cell? ⟨(w.heap.size + 1), 5, none⟩ = some (.int .i64 z'))) (go_keep) (first
              | (go_at_call 15; (first
                  | ((with_reducible refine (HWk.out _ (by assumption)).mono ?_); rintro e wc ⟨A2, c2, rfl, ok, hbc, hx⟩; (try have ol := own_below ol hx))
                  | ((with_reducible refine (HWl.out _ (by assumption)).mono ?_); rintro e wc ⟨A3, c3, rfl, ol, hbc, hx⟩; (try have ok := own_below ok hx)));
                  have hXc := hXc.trans (hx.mono hXc.size); obtain ⟨⟨_, _, _, _, _, _⟩, _, _, _, _, _, _⟩ := HSt.out _ hXc)
              | (go_at_call 14; refine (HSm.out _ _ _ _ _ (by assumption) ⟨_, ok⟩ ⟨_, ol⟩).mono ?_; rintro e wc ⟨rfl, hbc, hx⟩; have hXc := hXc.trans (hx.mono hXc.size); obtain ⟨⟨_, _, _, _, _, _⟩, _, _, _, _, _, _⟩ := HSt.out _ hXc)
              | (go_at_call 13; refine (HA.out _ (by assumption)).mono ?_; rintro e wc ⟨rfl, hbc, hx⟩; have hXc := hXc.trans (hx.mono hXc.size); obtain ⟨⟨_, _, _, _, _, _⟩, _, _, _, _, _, _⟩ := HSt.out _ hXc))
            all_goals go_wp2
            all_goals go_ret
            all_goals exact ⟨rfl, hbc⟩
end Go.Proofs.YtndgcjdiemfngaaGreatDoor
