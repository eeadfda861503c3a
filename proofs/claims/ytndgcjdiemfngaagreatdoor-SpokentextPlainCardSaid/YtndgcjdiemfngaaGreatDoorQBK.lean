/- Joined texts: SxP. -/
import Derived.Test.YtndgcjdiemfngaaGreatDoorQBG
import Derived.Test.YtndgcjdiemfngaaGreatDoorQBI
import Derived.Test.YtndgcjdiemfngaaGreatDoorQBJ
set_option linter.unusedVariables false
set_option linter.unusedSimpArgs false
set_option linter.unnecessarySimpa false
/- Layer 40's statement Plain. -/
namespace Go.Proofs.YtndgcjdiemfngaaGreatDoor
open Go.RowKit
set_option maxRecDepth 20000
theorem joinB_join : ∀ l : List ByteArray, joinB l = Lib.join (l.map (·.data.toList)) [32]
  | [] => rfl
  | [w] => by simp [joinB, Lib.join, List.intercalate]
  | w :: v :: t => by
    rw [joinB, joinB_join (v :: t)]
    simp [Lib.join, List.intercalate, List.intersperse]
theorem join_len : ∀ l : List ByteArray, (∀ w ∈ l, w.size ≤ 12) → (joinB l).length ≤ 13 * l.length
  | [], _ => by simp [joinB]
  | [w], h => by have := h w (by simp); simp [joinB]; omega
  | w :: v :: t, h => by
    have h1 := h w (by simp)
    have h2 := join_len (v :: t) fun x hx => h x (by simp at hx ⊢; rcases hx with hx | hx <;> simp [hx])
    rw [joinB, List.length_append, List.length_cons]
    rw [List.length_cons] at h2 ⊢
    have : w.data.toList.length = w.size := by simp
    rw [List.length_cons] at *
    omega
theorem join_bytes : ∀ l : List ByteArray, (∀ w ∈ l, azB w = true) → ∀ x ∈ joinB l, x = 32 ∨ (97 ≤ x.toNat ∧ x.toNat ≤ 122)
  | [], _ => by simp [joinB]
  | [w], h => fun x hx => by
    have h1 := (h w (by simp))
    unfold azB at h1
    simp only [Bool.and_eq_true, List.all_eq_true, decide_eq_true_eq] at h1
    exact .inr (h1.2 x (by simpa [joinB] using hx))
  | w :: v :: t, h => fun x hx => by
    rw [joinB, List.mem_append, List.mem_cons] at hx
    rcases hx with hx | hx | hx
    · have h1 := (h w (by simp))
      unfold azB at h1
      simp only [Bool.and_eq_true, List.all_eq_true, decide_eq_true_eq] at h1
      exact .inr (h1.2 x hx)
    · exact .inl hx
    · exact join_bytes (v :: t) (fun y hy => h y (by simp at hy ⊢; rcases hy with hy | hy <;> simp [hy])) x hx
theorem GW_ch {x : UInt8} (h : x = 32 ∨ (97 ≤ x.toNat ∧ x.toNat ≤ 122)) : GW (chG 0 x) := by
  have key : ∀ n : Fin 256, (UInt8.ofNat n.val = 32 ∨ (97 ≤ (UInt8.ofNat n.val).toNat ∧ (UInt8.ofNat n.val).toNat ≤ 122)) → checkC ⟨#[UInt8.ofNat n.val]⟩ = 0 := by decide +kernel
  have h1 := key ⟨x.toNat, UInt8.toNat_lt x⟩
  simp only [UInt8.ofNat_toNat] at h1
  exact ⟨⟨h1 h, (by decide : 1 ≤ 1000)⟩, (by decide : (0 : Int) ≤ 0), (by decide : (0 : Int) ≤ 3)⟩
theorem azB_of {s : ByteArray} (h0 : s.size ≠ 0) (h : allAz s = true) : azB s = true := by
  unfold azB
  unfold allAz at h
  rw [h]
  simp
  intro e
  exact h0 (by show s.data.size = 0; rw [e]; rfl)
set_option maxHeartbeats 4000000 in
theorem law_SpokentextPlain (w : World) (hg : Gd w) (A : Option Addr) (n c : Nat) (l : List ByteArray) (hn : l.length = n) (hc : n ≤ c) (hm : c ≤ maxLen) (rd : Rd w w.heap.size 1 A n (sv l)) (hs : ∀ s ∈ l, s.size ≤ maxLen) (dg : Bool) (rp : Int) (wrp : (Lit.int .u8 rp).wf = true) :
    Calls Tryz.prog 9 #[.slice A n c, .bool dg, .int .u8 rp] w (Gives (.bool true) w) := by
  subst hn
  have hrp : 0 ≤ rp ∧ rp ≤ 255 := by simpa [Lit.wf, IntKind.min, IntKind.max, IntKind.signed, IntKind.bits] using wrp
  obtain ⟨hr0, hr1⟩ := hrp
  have HA : Hid (∀ w', Below w.heap.size w w' → Calls Tryz.prog 13 #[] w' fun e w'' => e = .returned (.bool true) ∧ Below w.heap.size w w'' ∧ Below w'.heap.size w' w'') := Lib.hid fun w' hw => (awake_ w' (hg.below hw)).mono fun e w'' ⟨h1, h2⟩ => ⟨h1, hw.trans (h2.mono hw.size), h2⟩
  have HT : Hid (∀ (s : ByteArray) w', s.size ≤ maxLen → Below w.heap.size w w' → Calls Tryz.prog 24 #[.string s, .string az26] w' fun e w'' => ∃ T : ByteArray, e = .returned (.string T) ∧ T.toList.isEmpty = allAz s ∧ Below w.heap.size w w'') := Lib.hid fun s w' hs hw =>
    (trim_az s hs w').mono fun e w'' ⟨T, h1, h2, h3⟩ => ⟨T, h1, h2, hw.trans (h3.mono hw.size)⟩
  have HRs : Hid (∀ (s : ByteArray) w', s.size ≤ maxLen → Below w.heap.size w w' → Calls Tryz.prog 21 #[.string s] w' fun e w'' => e = .returned (.bool (resB s)) ∧ Below w.heap.size w w'') := Lib.hid fun s w' hs hw =>
    (Reserved_ s hs w' (hg.below hw).1).mono fun e w'' ⟨h1, h2⟩ => ⟨h1, hw.trans (h2.mono hw.size)⟩
  have hbw : Below w.heap.size w w := Below.refl _ _
  by_cases h12 : 12 < l.length
  · have i1 : (12 : Int) < l.length := by omega
    clear h12 rd hs
    go_enter Tryz.func9, Tryz.ntmps9
    go_wp2_with (go_at_call 13; refine (HA.out _ (by assumption)).mono ?_; rintro e wa ⟨rfl, hba, hxa⟩)
    go_ret
    exact ⟨rfl, hba⟩
  · have i1 : ¬ (12 : Int) < l.length := by omega
    have hl12 : l.length ≤ 12 := by omega
    have HRd := Lib.hid rd
    have HSz : Hid (∀ (j : Nat) (h : j < l.length), l[j].size ≤ maxLen) := Lib.hid fun j h => hs _ (List.getElem_mem h)
    clear h12 hs
    have hgd := Lib.hid hg
    have hcc : c ≤ 9223372036854775807 := by unfold maxLen at hm; omega
    clear hg rd
    go_enter Tryz.func9, Tryz.ntmps9
    go_wp2
    go_loopw [16] (fun y wr => ∃ j : Nat, j ≤ l.length ∧ y = .int .i64 j ∧ Below w.heap.size w wr ∧ Hid (∀ (i : Nat) (h : i < l.length), i < j → LowW l[i] ∧ l[i].size ≤ 12)) (fun y _ => l.length - (intOf y).toNat)
    case atStart => exact ⟨0, Nat.zero_le _, rfl, hbw, Lib.hid fun i h h' => absurd h' (by omega)⟩
    case round =>
      obtain ⟨j, hj, rfl, hb, HL⟩ := hrel
      by_cases hlt : j < l.length
      · obtain ⟨B, O, rfl, hBb, hcell⟩ := (HRd.out.below hb).at_ hlt
        rw [sv_get _ _ hlt] at hcell
        have hsz := HSz.out j hlt
        have HLn : Hid (l[j].size ≠ 0 → l[j].size ≤ 12 → resB l[j] = false → allAz l[j] = true → ∀ (i : Nat) (h : i < l.length), i < j + 1 → LowW l[i] ∧ l[i].size ≤ 12) := Lib.hid fun h0 h1 h2 h3 i h hij => by
          rcases Nat.lt_or_ge i j with h' | h'
          · exact HL.out i h h'
          · obtain rfl : i = j := by omega
            exact ⟨⟨azB_of h0 h3, h2⟩, h1⟩
        have HTa := Lib.hid (HT.out l[j])
        have HRa := Lib.hid (fun w' => HRs.out l[j] w' hsz)
        clear HL HT HRs HSz HRd
        generalize l[j] = a at *
        by_cases h0 : a.size = 0
        · have e0 := isEmpty_yes h0
          clear HLn h0
          go_wp2_with (go_at_call 13; refine (HA.out _ (by assumption)).mono ?_; rintro e wa ⟨rfl, hba, hxa⟩)
          go_ret
          exact ⟨rfl, hba⟩
        · have e0 := isEmpty_no' h0
          by_cases h1 : 12 < a.size
          · have i3 : (12 : Int) < a.size := by omega
            clear HLn h0
            go_wp2_with (go_at_call 13; refine (HA.out _ (by assumption)).mono ?_; rintro e wa ⟨rfl, hba, hxa⟩)
            go_ret
            exact ⟨rfl, hba⟩
          · have i3 : ¬ (12 : Int) < a.size := by omega
            cases hr : resB a with
            | true =>
              rw [hr] at HRa
              clear HLn h0 hr
              go_wp2_with (first | (go_at_call 21; refine (HRa.out _ hb).mono ?_; rintro e w5 ⟨rfl, hb5⟩) | (go_at_call 13; refine (HA.out _ (by assumption)).mono ?_; rintro e wa ⟨rfl, hba, hxa⟩))
              go_ret
              exact ⟨rfl, hba⟩
            | false =>
              rw [hr] at HRa
              cases hz : allAz a with
              | false =>
                rw [hz] at HTa
                clear HLn h0 hr hz
                go_wp2_with (first | (go_at_call 21; refine (HRa.out _ hb).mono ?_; rintro e w5 ⟨rfl, hb5⟩) | (go_at_call 24; refine (HTa.out _ hsz hb5).mono ?_; rintro e w6 ⟨T, rfl, hT, hb6⟩) | (go_at_call 13; refine (HA.out _ (by assumption)).mono ?_; rintro e wa ⟨rfl, hba, hxa⟩))
                go_ret
                exact ⟨rfl, hba⟩
              | true =>
                have HN := Lib.hid (HLn.out h0 (by omega) hr hz)
                rw [hz] at HTa
                clear HLn h0 hr hz
                go_wp2_with (first | (go_at_call 21; refine (HRa.out _ hb).mono ?_; rintro e w5 ⟨rfl, hb5⟩) | (go_at_call 24; refine (HTa.out _ hsz hb5).mono ?_; rintro e w6 ⟨T, rfl, hT, hb6⟩))
                exact ⟨⟨j + 1, by omega, by go_num, hb6, HN⟩, by simp [intOf]; omega⟩
      · have hall : ∀ x ∈ l, LowW x ∧ x.size ≤ 12 := fun x hx => by
          obtain ⟨i, hi, rfl⟩ := List.getElem_of_mem hx
          exact HL.out i hi (by omega)
        have hpw := plain_words ⟨dg, false, 2 + rp % 131⟩ rfl l fun x hx => (hall x hx).1
        have hjl := join_len l fun x hx => (hall x hx).2
        have hjb := join_bytes l fun x hx => (hall x hx).1.1
        obtain ⟨js, hjs⟩ : ∃ js : ByteArray, js = ⟨(joinB l).toArray⟩ := ⟨_, rfl⟩
        have hjsl : js.data.toList = joinB l := by rw [hjs]
        have hjsz : js.size = (joinB l).length := by rw [← hjsl]; simp
        have HJ : Hid (∀ w', Below w.heap.size w w' → Calls Tryz.prog 26 #[.slice A l.length c, .string ⟨#[32]⟩] w' fun e w'' => e = .returned (.string js) ∧ Below w.heap.size w w'' ∧ Below w'.heap.size w' w'') := Lib.hid fun w' hw => by
          rcases Nat.eq_zero_or_pos l.length with h0 | h0
          · have hl0 : l = [] := List.length_eq_zero_iff.1 h0
            rw [h0]
            refine (Tryz.strings_Join_none A c ⟨#[32]⟩ w').mono fun e w'' ⟨h1, h2⟩ => ?_
            subst h2
            refine ⟨?_, hw, Below.refl _ _⟩
            rw [h1, hjs, hl0]
            rfl
          · obtain ⟨b, o, rfl, hbB, hcl⟩ := (HRd.out.below hw).2 h0
            have hlen : (Lib.join (l.map (·.data.toList)) (⟨#[32]⟩ : ByteArray).data.toList).length ≤ 140737488355328 := by
              show (Lib.join (l.map (·.data.toList)) [32]).length ≤ _
              rw [← joinB_join]
              omega
            refine (Tryz.strings_Join b o c l ⟨#[32]⟩ w' (fun j x hx => hcl j (.string x) (by rw [sv, List.getElem?_map, hx]; rfl)) (Nat.lt_of_lt_of_le hbB hw.size) (by omega) hc hlen).mono fun e w'' ⟨h1, h2⟩ => ⟨?_, hw.trans (h2.mono hw.size), h2⟩
            rw [h1, hjs, joinB_join]
        have HPl : Hid (∀ w', Below w.heap.size w w' → Calls Tryz.prog 25 #[.string js] w' fun e w'' => ∃ A2 c2, e = .returned (.slice A2 js.size c2) ∧ w''.ownsRow w'.heap.size 41 3 (.slice A2 js.size c2) js.size (encGs (plainG (joinB l))) ∧ Below w.heap.size w w'' ∧ Below w'.heap.size w' w'') := Lib.hid fun w' hw => by
          rw [← hjsl]
          exact (lplain_ js (by omega) w').mono fun e w'' ⟨A2, c2, h1, h2, h3⟩ => ⟨A2, c2, h1, h2, hw.trans (h3.mono hw.size), h3⟩
        have HWd : Hid (∀ w' B A2 c2, Below w.heap.size w w' → w'.ownsRow B 41 3 (.slice A2 js.size c2) js.size (encGs (plainG (joinB l))) → Calls Tryz.prog 15 #[.slice A2 js.size c2, stV 100 dg false (2 + rp % 131) false 40] w' fun e w'' => ∃ A3 c3, e = .returned (.slice A3 l.length c3) ∧ w''.ownsRow w'.heap.size 9 1 (.slice A3 l.length c3) l.length (sv l) ∧ Below w.heap.size w w'' ∧ Below w'.heap.size w' w'') := Lib.hid fun w' B A2 c2 hw ho => by
          have hg' := hgd.out.below hw
          have hnc := own_caps ho
          have h := words_ (plainG (joinB l)) A2 js.size c2 w'.heap.size 100 dg false (2 + rp % 131) false 40 w' hg'.1 hg'.2.1 hg'.2.2 (by unfold plainG; rw [List.length_map]; omega) hnc.1 hnc.2 (fun x hx => by
            unfold plainG at hx
            obtain ⟨y, hy, rfl⟩ := List.mem_map.1 hx
            exact GW_ch (hjb y hy)) (Rd.of_own ho) (Nat.le_refl _)
          rw [hpw] at h
          exact h.mono fun e w'' ⟨A3, c3, h1, h2, h3⟩ => ⟨A3, c3, h1, h2, hw.trans (h3.mono hw.size), h3⟩
        have HSm : Hid (∀ w' B A3 c3, Below w.heap.size w w' → w'.ownsRow B 9 1 (.slice A3 l.length c3) l.length (sv l) → Calls Tryz.prog 14 #[.slice A3 l.length c3, .slice A l.length c] w' fun e w'' => e = .returned (.bool true) ∧ Below w.heap.size w w'' ∧ Below w'.heap.size w' w'') := Lib.hid fun w' B A3 c3 hw ho => by
          have h := same40 l l A3 A _ _ c3 c _ _ w' rfl rfl (Rd.of_own ho) (HRd.out.below hw) (by omega) (by omega)
          rw [decide_eq_true rfl] at h
          exact h.mono fun e w'' h => ⟨h.gives.1, hw.trans (h.gives.2.mono hw.size), h.gives.2⟩
        have hj0 : j = l.length := by omega
        subst hj0
        clear HL HT HRs HSz HRd hall hpw hjl hjb hjs hjsl hjsz hgd
        have hrem : rp % 131 ≤ 130 ∧ 0 ≤ rp % 131 := by omega
        obtain ⟨hrem1, hrem0⟩ := hrem
        go_upto_region 10 with fail
        refine wp_fg (fun X => (X.cell? ⟨wr.heap.size, 0, none⟩ = some (.int .i64 100) ∧ X.cell? ⟨wr.heap.size, 1, none⟩ = some (.bool dg) ∧ X.cell? ⟨wr.heap.size, 2, none⟩ = some (.bool false) ∧ X.cell? ⟨wr.heap.size, 3, none⟩ = some (.int .i64 (2 + rp % 131)) ∧ X.cell? ⟨wr.heap.size, 4, none⟩ = some (.bool false) ∧ X.cell? ⟨wr.heap.size, 5, none⟩ = some (.int .i64 40)) ∧ Below w.heap.size w X ∧ X.heap.size = wr.heap.size + 1) ⟨StBox.new wr 100 dg false (2 + rp % 131) false 40 24, hb.alloc hb.size _, by simp⟩ ?_
        rintro X ⟨⟨C0, C1, C2, C3, C4, C5⟩, hbX, hzX⟩
        have HSt : Hid (∀ w', Below X.heap.size X w' → w'.cell? ⟨wr.heap.size, 0, none⟩ = some (.int .i64 100) ∧ w'.cell? ⟨wr.heap.size, 1, none⟩ = some (.bool dg) ∧ w'.cell? ⟨wr.heap.size, 2, none⟩ = some (.bool false) ∧ w'.cell? ⟨wr.heap.size, 3, none⟩ = some (.int .i64 (2 + rp % 131)) ∧ w'.cell? ⟨wr.heap.size, 4, none⟩ = some (.bool false) ∧ w'.cell? ⟨wr.heap.size, 5, none⟩ = some (.int .i64 40)) := Lib.hid fun w' h => StBox.below ⟨C0, C1, C2, C3, C4, C5⟩ h (by omega)
        have hXc : Below X.heap.size X X.drew := (Below.refl _ _).drew
        have hbc := hbX.drew
        clear hzX hbX hb
        go_region_held3 (fun w' => w'.cell? ⟨wr.heap.size, 0, none⟩ = some (.int .i64 100) ∧ w'.cell? ⟨wr.heap.size, 1, none⟩ = some (.bool dg) ∧ w'.cell? ⟨wr.heap.size, 2, none⟩ = some (.bool false) ∧ w'.cell? ⟨wr.heap.size, 3, none⟩ = some (.int .i64 (2 + rp % 131)) ∧ w'.cell? ⟨wr.heap.size, 4, none⟩ = some (.bool false) ∧ w'.cell? ⟨wr.heap.size, 5, none⟩ = some (.int .i64 40)) (go_keep) (first
          | (go_at_call 26; refine (HJ.out _ (by assumption)).mono ?_; rintro e wc ⟨rfl, hbc, hx⟩; have hXc := hXc.trans (hx.mono hXc.size); obtain ⟨_, _, _, _, _, _⟩ := HSt.out _ hXc)
          | (go_at_call 25; refine (HPl.out _ (by assumption)).mono ?_; rintro e wc ⟨A2, c2, rfl, o2, hbc, hx⟩; have hXc := hXc.trans (hx.mono hXc.size); obtain ⟨_, _, _, _, _, _⟩ := HSt.out _ hXc)
          | (go_at_call 15; refine (HWd.out _ _ _ _ (by assumption) o2).mono ?_; rintro e wc ⟨A3, c3, rfl, o3, hbc, hx⟩; have hXc := hXc.trans (hx.mono hXc.size); obtain ⟨_, _, _, _, _, _⟩ := HSt.out _ hXc)
          | (go_at_call 14; refine (HSm.out _ _ _ _ (by assumption) o3).mono ?_; rintro e wc ⟨rfl, hbc, hx⟩; have hXc := hXc.trans (hx.mono hXc.size); obtain ⟨_, _, _, _, _, _⟩ := HSt.out _ hXc)
          | (go_at_call 13; refine (HA.out _ (by assumption)).mono ?_; rintro e wc ⟨rfl, hbc, hx⟩; have hXc := hXc.trans (hx.mono hXc.size); obtain ⟨_, _, _, _, _, _⟩ := HSt.out _ hXc))
        all_goals go_wp2
        all_goals go_ret
        all_goals exact ⟨rfl, hbc⟩
end Go.Proofs.YtndgcjdiemfngaaGreatDoor
