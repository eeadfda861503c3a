/- Joined texts: Trm, SxF. -/
import Derived.Test.YtndgcjdiemfngaaGreatDoorQAA
import Derived.Test.YtndgcjdiemfngaaGreatDoorQAM
import Derived.Test.YtndgcjdiemfngaaGreatDoorQBG
set_option linter.unusedVariables false
set_option linter.unusedSimpArgs false
set_option linter.unnecessarySimpa false
/- strings.Trim at the small letters. -/
namespace Go.Proofs.YtndgcjdiemfngaaGreatDoor
open Go.RowKit
set_option maxRecDepth 20000
def az26 : ByteArray := ⟨#[97, 98, 99, 100, 101, 102, 103, 104, 105, 106, 107, 108, 109, 110, 111, 112, 113, 114, 115, 116, 117, 118, 119, 120, 121, 122]⟩
theorem az26_has (c : UInt8) : az26.data.toList.contains c = (decide (97 ≤ c.toNat) && decide (c.toNat ≤ 122)) := by
  have : ∀ n : Fin 256, az26.data.toList.contains (UInt8.ofNat n.val) = (decide (97 ≤ (UInt8.ofNat n.val).toNat) && decide ((UInt8.ofNat n.val).toNat ≤ 122)) := by decide +kernel
  have h := this ⟨c.toNat, UInt8.toNat_lt c⟩
  simpa using h
theorem drop_none {p : UInt8 → Bool} : ∀ {l : List UInt8}, l.dropWhile p = [] ↔ ∀ x ∈ l, p x = true
  | [] => by simp
  | a :: t => by
    rw [List.dropWhile_cons]
    split
    · rename_i h
      rw [drop_none]
      simp [h]
    · rename_i h
      simp [h]
theorem drop_bad {p : UInt8 → Bool} : ∀ {l : List UInt8}, (∀ x ∈ l.dropWhile p, p x = true) → ∀ x ∈ l, p x = true
  | [], _ => by simp
  | a :: t, h => by
    rw [List.dropWhile_cons] at h
    split at h
    · rename_i ha
      intro x hx
      rcases List.mem_cons.1 hx with rfl | hx
      · exact ha
      · exact drop_bad h x hx
    · exact h
theorem trimS_nil (l cs : List UInt8) : Lib.trimS l cs = [] ↔ ∀ x ∈ l, cs.contains x = true := by
  unfold Lib.trimS Lib.trimRightS Lib.trimLeftS
  rw [drop_none]
  constructor
  · intro h x hx
    exact drop_bad (p := fun x => cs.contains x) (l := l.reverse) (fun y hy => h y (by simpa using hy)) x (by simpa using hx)
  · intro h x hx
    have hx' : x ∈ l.reverse.dropWhile fun x => cs.contains x := by simpa using hx
    exact h x (by simpa using (List.dropWhile_sublist _).subset hx')
/-- Whether nothing is left of a word behind its small letters. -/
def allAz (s : ByteArray) : Bool := s.data.toList.all fun c => decide (97 ≤ c.toNat) && decide (c.toNat ≤ 122)
theorem trim_az (s : ByteArray) (hs : s.size ≤ maxLen) (w : World) : Calls Tryz.prog 24 #[.string s, .string az26] w fun e w' => ∃ T : ByteArray, e = .returned (.string T) ∧ T.toList.isEmpty = allAz s ∧ Below w.heap.size w w' := by
  refine (Any.strings_Trim_laid Tryz.laysTrim (by kernel_rfl) s az26 w (by unfold maxLen at hs; omega) (by decide) (ascii_of_all (by decide))).mono fun e w' ⟨h1, h2⟩ => ⟨_, h1, ?_, h2⟩
  rw [ByteArray.toList_eq]
  show (Lib.trimS s.data.toList az26.data.toList).isEmpty = _
  rw [Bool.eq_iff_iff, List.isEmpty_iff, trimS_nil]
  unfold allAz
  rw [List.all_eq_true]
  exact ⟨fun h x hx => by rw [← az26_has]; exact h x hx, fun h x hx => by rw [az26_has]; exact h x hx⟩
end Go.Proofs.YtndgcjdiemfngaaGreatDoor
/- Layer 40's statement Form. -/
namespace Go.Proofs.YtndgcjdiemfngaaGreatDoor
open Go.RowKit
set_option maxRecDepth 20000
theorem azB_all {s : ByteArray} (h : azB s = true) : allAz s = true ∧ s.toList.isEmpty = false := by
  unfold azB at h
  simp only [Bool.and_eq_true, Bool.not_eq_true'] at h
  exact ⟨h.2, by rw [ByteArray.toList_eq]; exact h.1⟩
theorem frm_cons {b : Bool} {a : ByteArray} {t : List ByteArray} {c : Bool} (h : frmF b (a :: t) = some c) : azB a = true ∧ (a = bStop → b = true) ∧ frmF (decide (a = bWord) && !b) t = some c := by
  rw [frmF] at h
  split at h
  · cases h
  · rename_i hn
    refine ⟨by cases ha : azB a with | true => rfl | false => exact absurd (.inl ha) hn, fun e => ?_, h⟩
    cases b with
    | true => rfl
    | false => exact absurd (.inr ⟨e, rfl⟩) hn
set_option maxHeartbeats 4000000 in
theorem law_SpokentextForm (w : World) (hg : Gd w) (A : Option Addr) (n c : Nat) (l : List Gl) (hn : l.length = n) (hc : n ≤ c) (hm : c ≤ maxLen) (rd : Rd w w.heap.size 3 A n (encGs l)) (hs : ∀ g ∈ l, g.text.size ≤ maxLen ∧ (Lit.int .i64 g.style).wf = true) (r : Int) (d sp : Bool) (q : Int) (co : Bool) (k : Int) (wr : (Lit.int .i64 r).wf = true) (wq : (Lit.int .i64 q).wf = true) (wk : (Lit.int .i64 k).wf = true) :
    Calls Tryz.prog 10 #[.slice A n c, stV r d sp q co k] w (Gives (.bool true) w) := by
  subst hn
  have HA : Hid (∀ w', Below w.heap.size w w' → Calls Tryz.prog 13 #[] w' fun e w'' => e = .returned (.bool true) ∧ Below w.heap.size w w'') := Lib.hid fun w' hw => (awake_ w' (hg.below hw)).mono fun e w'' ⟨h1, h2⟩ => ⟨h1, hw.trans (h2.mono hw.size)⟩
  have HPr : Hid (∀ w', Below w.heap.size w w' → Calls Tryz.prog 11 #[.slice A l.length c] w' fun e w'' => e = .returned (.bool (properB l)) ∧ Below w.heap.size w w'' ∧ Below w'.heap.size w' w'') := Lib.hid fun w' hw => (proper_ l A _ c w.heap.size w' (by unfold maxLen at *; omega) (fun g hg => (hs g hg).1) (rd.below hw) hw.size).mono fun e w'' ⟨h1, h2⟩ => ⟨h1, hw.trans (h2.mono hw.size), h2⟩
  have HCk : Hid (∀ w', Below w.heap.size w w' → Calls Tryz.prog 23 #[stV r d sp q co k] w' fun e w'' => e = .returned (.int .i64 (setE r q k)) ∧ Below w.heap.size w w'' ∧ Below w'.heap.size w' w'') := Lib.hid fun w' hw => (check_s r d sp q co k w').mono fun e w'' ⟨h1, h2⟩ => ⟨h1, hw.trans (h2.mono hw.size), h2⟩
  have HW : Hid (properB l = true → ∀ w', Below w.heap.size w w' → Calls Tryz.prog 15 #[.slice A l.length c, stV r d sp q co k] w' fun e w'' => ∃ A2 c2, e = .returned (.slice A2 (spokenWords l ⟨d, sp, q⟩).length c2) ∧ w''.ownsRow w'.heap.size 9 1 (.slice A2 (spokenWords l ⟨d, sp, q⟩).length c2) (spokenWords l ⟨d, sp, q⟩).length (sv (spokenWords l ⟨d, sp, q⟩)) ∧ Below w.heap.size w w'' ∧ Below w'.heap.size w' w'') := Lib.hid fun hp w' hw => by
    have hg' := hg.below hw
    exact (words_ l A _ c w.heap.size r d sp q co k w' hg'.1 hg'.2.1 hg'.2.2 (Nat.le_trans (properB_all hp).1 (by decide)) hc hm (GW_plain hp) (rd.below hw) hw.size).mono fun e w'' ⟨A, c, he, ho, hb⟩ => ⟨A, c, he, ho, hw.trans (hb.mono hw.size), hb⟩
  have HGl : Hid (properB l = true → ∀ w' A2 c2, Below w.heap.size w w' → (∃ B, w'.ownsRow B 9 1 (.slice A2 (spokenWords l ⟨d, sp, q⟩).length c2) (spokenWords l ⟨d, sp, q⟩).length (sv (spokenWords l ⟨d, sp, q⟩))) → Calls Tryz.prog 18 #[.slice A2 (spokenWords l ⟨d, sp, q⟩).length c2] w' fun e w'' => ∃ A c, e = .returned (.tuple #[.slice A l.length c, .int .i64 0]) ∧ w''.ownsRow w'.heap.size 41 3 (.slice A l.length c) l.length (encGs l) ∧ Below w.heap.size w w'' ∧ Below w'.heap.size w' w'') := Lib.hid fun hp w' A2 c2 hw ⟨B, ho⟩ => by
    have hg' := hg.below hw
    have hnc := own_caps ho
    have hbd := words_bounds l ⟨d, sp, q⟩ (properB_all hp).1 fun x hx => ((properB_all hp).2 x hx).2.2
    have h := glyphs_ _ A2 _ c2 w' rfl hnc.1 hnc.2 (Rd.of_own ho) hbd.2 hbd.1 hg'.1 hg'.2.1 hg'.2.2
    rw [round_proper hp] at h
    exact h.mono fun e w'' ⟨h1, A, c, h2, h3⟩ => ⟨A, c, h2, h3, hw.trans (h1.mono hw.size), h1⟩
  have HSR : Hid (properB l = true → ∀ w' A3 c3, Below w.heap.size w w' → (∃ B, w'.ownsRow B 41 3 (.slice A3 l.length c3) l.length (encGs l)) → Calls Tryz.prog 20 #[.slice A3 l.length c3, .slice A l.length c] w' fun e w'' => e = .returned (.bool true) ∧ Below w.heap.size w w'') := Lib.hid fun hp w' A3 c3 hw ⟨B, ho⟩ => by
    have h := rsamerow l l A3 A l.length l.length c3 c w'.heap.size w' (Nat.le_trans (properB_all hp).1 (by decide)) (Rd.of_own ho) ((rd.below hw).more hw.size)
    rw [decide_eq_true rfl] at h
    exact h.mono fun e w'' h => ⟨h.gives.1, hw.trans (h.gives.2.mono hw.size)⟩
  clear rd hs hg
  have HT : Hid (∀ (s : ByteArray) w', s.size ≤ maxLen → Below w.heap.size w w' → Calls Tryz.prog 24 #[.string s, .string az26] w' fun e w'' => ∃ T : ByteArray, e = .returned (.string T) ∧ T.toList.isEmpty = allAz s ∧ Below w.heap.size w w'' ∧ Below w'.heap.size w' w'') := Lib.hid fun s w' hs hw =>
    (trim_az s hs w').mono fun e w'' ⟨T, h1, h2, h3⟩ => ⟨T, h1, h2, hw.trans (h3.mono hw.size), h3⟩
  by_cases hp : properB l = true
  · by_cases hbad : BadS r q k
    · rw [hp] at HPr
      rw [setE_bad hbad] at HCk
      clear hp hbad
      go_enter Tryz.func10, Tryz.ntmps10
      go_upto_region 1 with fail
      refine wp_fg (fun X => StBox X r d sp q co k w.heap.size ∧ Below w.heap.size w X ∧ X.heap.size = w.heap.size + 1) ⟨StBox.new w r d sp q co k 24, (Below.refl _ _).alloc (Nat.le_refl _) _, by simp⟩ ?_
      rintro X ⟨hst, hbX, hzX⟩
      have HSt : Hid (∀ w', Below X.heap.size X w' → StBox w' r d sp q co k w.heap.size) := Lib.hid fun w' h => hst.below h (by omega)
      clear hst hzX
      go_wp2_with (first | (go_at_call 11; refine (HPr.out _ hbX).mono ?_; rintro e w1 ⟨rfl, hb1, hX1⟩; obtain ⟨_, _, _, _, _, _⟩ := HSt.out _ hX1) | (go_at_call 23; refine (HCk.out _ hb1).mono ?_; rintro e w2 ⟨rfl, hb2, hx2⟩; have hX2 := hX1.trans (hx2.mono hX1.size); obtain ⟨_, _, _, _, _, _⟩ := HSt.out _ hX2) | (go_at_call 13; refine (HA.out _ (by assumption)).mono ?_; rintro e wa ⟨rfl, hba⟩))
      go_ret
      exact ⟨rfl, hba⟩
    · rw [hp] at HPr
      rw [setE_ok hbad] at HCk
      have HWd := Lib.hid (HW.out hp)
      have hF := clo_words l ⟨d, sp, q⟩
      have hbd := words_bounds l ⟨d, sp, q⟩ (properB_all hp).1 fun x hx => ((properB_all hp).2 x hx).2.2
      clear hp hbad HGl HW HSR
      generalize spokenWords l ⟨d, sp, q⟩ = WL at *
      have HF0 := Lib.hid hF
      have hn5 : WL.length ≤ 100000 := hbd.1
      have HZ : Hid (∀ s ∈ WL, s.size ≤ maxLen) := Lib.hid fun s hs => Nat.le_trans (hbd.2 s hs) (by decide)
      clear hF hbd
      go_enter Tryz.func10, Tryz.ntmps10
      go_upto_region 1 with fail
      refine wp_fg (fun X => StBox X r d sp q co k w.heap.size ∧ Below w.heap.size w X ∧ X.heap.size = w.heap.size + 1) ⟨StBox.new w r d sp q co k 24, (Below.refl _ _).alloc (Nat.le_refl _) _, by simp⟩ ?_
      rintro X ⟨hst, hbX, hzX⟩
      have HSt : Hid (∀ w', Below X.heap.size X w' → StBox w' r d sp q co k w.heap.size) := Lib.hid fun w' h => hst.below h (by omega)
      clear hst hzX
      go_wp2_with (first
        | (go_at_call 11; refine (HPr.out _ hbX).mono ?_; rintro e w1 ⟨rfl, hb1, hX1⟩; obtain ⟨_, _, _, _, _, _⟩ := HSt.out _ hX1)
        | (go_at_call 23; refine (HCk.out _ hb1).mono ?_; rintro e w2 ⟨rfl, hb2, hx2⟩; have hX2 := hX1.trans (hx2.mono hX1.size); obtain ⟨_, _, _, _, _, _⟩ := HSt.out _ hX2)
        | (go_at_call 15; refine (HWd.out _ hb2).mono ?_; rintro e w3 ⟨A2, c2, rfl, o2, hb3, hx3⟩))
      go_loopw [5, 21] (fun x y wr => ∃ (j : Nat) (b : Bool), j ≤ WL.length ∧ y = .int .i64 j ∧ x = .bool b ∧ Hid (frmF b (WL.drop j) = some false) ∧ Below w.heap.size w wr ∧ wr.ownsRow w2.heap.size 9 1 (.slice A2 WL.length c2) WL.length (sv WL)) (fun _ y _ => WL.length - (intOf y).toNat)
      case atStart => exact ⟨0, false, Nat.zero_le _, rfl, rfl, HF0, hb3, o2⟩
      case round =>
        clear o2 hx3 hb3
        obtain ⟨j, b, hj, rfl, rfl, hf, hb, o⟩ := hrel
        by_cases hlt : j < WL.length
        · obtain ⟨B, O, rfl, hBb, hcell⟩ := (Rd.of_own o).at_ hlt
          rw [sv_get _ _ hlt] at hcell
          have hdr : WL.drop j = WL[j] :: WL.drop (j + 1) := List.drop_eq_getElem_cons hlt
          have hf' := hf.out
          rw [hdr] at hf'
          obtain ⟨haz, hst, hnx⟩ := frm_cons hf'
          obtain ⟨hall, hne⟩ := azB_all haz
          have hsz := HZ.out WL[j] (List.getElem_mem hlt)
          have HTj := Lib.hid (HT.out WL[j])
          have HN := Lib.hid hnx
          have qs := strq (a := WL[j]) (b := bStop) (l := [115, 116, 111, 112]) rfl
          have qw := strq (a := WL[j]) (b := bWord) (l := [119, 111, 114, 100]) rfl
          have hST : ∀ S : Bool, S = decide (WL[j] = bStop) → b = false → S = false := fun S e hb => by
            cases hS : S with
            | false => rfl
            | true =>
              rw [hS] at e
              have := hst (of_decide_eq_true e.symm)
              rw [hb] at this
              cases this
          obtain ⟨SB, hSB⟩ : ∃ S, S = decide (WL[j] = bStop) := ⟨_, rfl⟩
          obtain ⟨WB, hWB⟩ : ∃ S, S = decide (WL[j] = bWord) := ⟨_, rfl⟩
          have hSb := hST SB hSB
          rw [← hSB] at qs
          rw [← hWB] at qw HN
          clear hf hf' hdr hnx hst haz hST hSB hWB HF0
          generalize WL[j] = a at *
          cases b with
          | true =>
            cases SB <;> cases WB <;> (
              go_wp2_with (go_at_call 24; refine (HTj.out _ hsz hb).mono ?_; rintro e w5 ⟨T, rfl, hT, hb5, hx5⟩; rw [hall] at hT)
              exact ⟨⟨j + 1, _, by omega, by go_num, rfl, HN, hb5, own_below o hx5⟩, by simp [intOf]; omega⟩)
          | false =>
            obtain rfl := hSb rfl
            cases WB <;> (
              go_wp2_with (go_at_call 24; refine (HTj.out _ hsz hb).mono ?_; rintro e w5 ⟨T, rfl, hT, hb5, hx5⟩; rw [hall] at hT)
              exact ⟨⟨j + 1, _, by omega, by go_num, rfl, HN, hb5, own_below o hx5⟩, by simp [intOf]; omega⟩)
        · obtain rfl : j = WL.length := by omega
          have hf' := hf.out
          rw [List.drop_length, frmF] at hf'
          obtain rfl : b = false := by injection hf'
          clear hf hf' HF0
          go_wp2_with (go_at_call 13; refine (HA.out _ (by assumption)).mono ?_; rintro e wa ⟨rfl, hba⟩)
          go_ret
          exact ⟨rfl, hba⟩
  · have hp' : properB l = false := by simpa using hp
    rw [hp'] at HPr
    clear hp hp'
    go_enter Tryz.func10, Tryz.ntmps10
    go_upto_region 1 with fail
    refine wp_fg (fun X => StBox X r d sp q co k w.heap.size ∧ Below w.heap.size w X ∧ X.heap.size = w.heap.size + 1) ⟨StBox.new w r d sp q co k 24, (Below.refl _ _).alloc (Nat.le_refl _) _, by simp⟩ ?_
    rintro X ⟨hst, hbX, hzX⟩
    have HSt : Hid (∀ w', Below X.heap.size X w' → StBox w' r d sp q co k w.heap.size) := Lib.hid fun w' h => hst.below h (by omega)
    clear hst hzX
    go_wp2_with (first | (go_at_call 11; refine (HPr.out _ hbX).mono ?_; rintro e w1 ⟨rfl, hb1, hX1⟩; obtain ⟨_, _, _, _, _, _⟩ := HSt.out _ hX1) | (go_at_call 23; refine (HCk.out _ hb1).mono ?_; rintro e w2 ⟨rfl, hb2, hx2⟩; have hX2 := hX1.trans (hx2.mono hX1.size); obtain ⟨_, _, _, _, _, _⟩ := HSt.out _ hX2) | (go_at_call 13; refine (HA.out _ (by assumption)).mono ?_; rintro e wa ⟨rfl, hba⟩))
    go_ret
    exact ⟨rfl, hba⟩
end Go.Proofs.YtndgcjdiemfngaaGreatDoor
