/- signnames: index, Name, Sign, Names, character. -/
import Derived.Test.YtoiballfjbdoiaaDoorSig1
import Derived.Deep.WholeRow
namespace Go.Proofs.YtoiballfjbdoiaaDoor
open Go.RowKit
def sIdx (r : Nat) : Option Nat :=
  if 33 ≤ r ∧ r ≤ 47 then some (r - 33) else if 58 ≤ r ∧ r ≤ 64 then some (r - 43) else if 91 ≤ r ∧ r ≤ 96 then some (r - 69) else if 123 ≤ r ∧ r ≤ 126 then some (r - 95) else none
def sChar (i : Nat) : Nat := if i < 15 then 33 + i else if i < 22 then 43 + i else if i < 28 then 69 + i else 95 + i
theorem sIdx_char (i : Nat) (h : i < 32) : sIdx (sChar i) = some i := by
  have : ∀ i : Fin 32, sIdx (sChar i.val) = some i.val := by decide +kernel
  exact this ⟨i, h⟩
theorem sIdx_some {r i : Nat} (h : sIdx r = some i) : i < 32 ∧ r = sChar i ∧ 33 ≤ r ∧ r ≤ 126 := by
  unfold sIdx at h
  unfold sChar
  repeat' split at h
  all_goals first | (injection h with h; subst h; repeat' split) | cases h
  all_goals omega
/-- The place of a character among the signs. -/
def sIdxI (r : Int) : Option Nat := if 0 ≤ r then sIdx r.toNat else none
theorem sIdxI_some {r : Int} {i : Nat} (h : sIdxI r = some i) : i < 32 ∧ r = (sChar i : Int) ∧ 33 ≤ r ∧ r ≤ 126 := by
  unfold sIdxI at h
  split at h
  · obtain ⟨a, b, c, d⟩ := sIdx_some h
    omega
  · cases h
def idxV (r : Int) : Int := match sIdxI r with
  | some i => i
  | none => -1
theorem index_tab : ∀ r : Fin 94, Lib.indexByte signsB.data.toList (33 + r.val).toUInt8 = idxV (((33 + r.val : Nat)) : Int) := by decide +kernel
theorem signs_at : ∀ i : Fin 32, signsB.data.toList[i.val]? = some (sChar i.val).toUInt8 := by decide +kernel
theorem nb_ne (i j : Nat) (h : i < 32) (k : j < 32) (hne : i ≠ j) : nb i ≠ nb j := by
  have : ∀ i j : Fin 32, i ≠ j → nb i.val ≠ nb j.val := by decide +kernel
  exact this ⟨i, h⟩ ⟨j, k⟩ (by intro e; injection e with e; exact hne e)
set_option maxHeartbeats 400000 in
theorem index (r : Int) (w : World) : Calls Tryd.prog 31 #[.int .i32 r] w (Gives (.int .i64 (idxV r)) w) := by
  by_cases h1 : r < 33
  · have hv : idxV r = -1 := by
      unfold idxV sIdxI sIdx
      split
      · rename_i i h
        split at h
        · repeat' split at h
          all_goals first | omega | cases h
        · cases h
      · rfl
    rw [hv]
    go_enter Tryd.func31, Tryd.ntmps31
    go_wp2
    go_ret
    exact ⟨rfl, Below.refl _ _⟩
  by_cases h2 : 126 < r
  · have hv : idxV r = -1 := by
      unfold idxV sIdxI sIdx
      split
      · rename_i i h
        split at h
        · repeat' split at h
          all_goals first | omega | cases h
        · cases h
      · rfl
    rw [hv]
    go_enter Tryd.func31, Tryd.ntmps31
    go_wp2
    go_ret
    exact ⟨rfl, Below.refl _ _⟩
  · obtain ⟨k, hk⟩ : ∃ k : Nat, r = ((33 + k : Nat) : Int) := ⟨(r - 33).toNat, by omega⟩
    have hk94 : k < 94 := by omega
    have HI : Hid (∀ w, Calls Tryd.prog 38 #[.string signsB, .int .u8 r] w fun e w' => e = .returned (.int .i64 (idxV r)) ∧ w' = w) := Lib.hid fun w => by
      have := Tryd.strings_IndexByte signsB r w
      have ht := index_tab ⟨k, hk94⟩
      simp only at ht
      rw [show r.toNat = 33 + k from by omega, ht, ← hk] at this
      exact this
    clear hk
    generalize idxV r = v at *
    go_enter Tryd.func31, Tryd.ntmps31
    go_wp2_with (go_at_call 38; refine (HI.out _).mono ?_; rintro e w1 ⟨rfl, rfl⟩)
    go_ret
    exact ⟨rfl, Below.refl _ _⟩
theorem run_index_arr {P : Program} {w : World} {t e : TypeId} {n : Nat} {cs : Array Value} {k : IntKind} {i : Int} {v : Value} (hu : P.underlying t = some (.array n e))
    (hs : ∀ w, (sizeOf e).run P w = .ok 1 w) (ha : ∀ w, (isAgg e).run P w = .ok false w) (h0 : 0 ≤ i) (h1 : i < n) (hv : cs[i.toNat]? = some v) :
    (Instr.index t (.agg cs) (.int k i)).run P w = .ok v w := by
  simp [Instr.index, run_underlying hu, asIntOf, h0, h1, go_sem, hs, ha, part, hv]
theorem nm_index (i : Nat) (h : i < 32) (w : World) : (Instr.index 51 (.agg nmA) (.int .i64 i)).run Tryd.prog w = .ok (.string (nb i)) w :=
  run_index_arr Tryd.underlying51 Tryd.sizeOf9 Tryd.isAgg9 (by omega) (by omega) (by simp [nmA, nmL, h])
/-- What Name hands back. -/
def nameV (r : Int) : Value := match sIdxI r with
  | some i => .tuple #[.string (nb i), .bool true]
  | none => .tuple #[.string ⟨#[]⟩, .bool false]
set_option maxHeartbeats 400000 in
theorem name (r : Int) (w : World) (hs : Sp w) : Calls Tryd.prog 18 #[.int .i32 r] w (Gives (nameV r) w) := by
  have HI := Lib.hid (index r w)
  have HS := Lib.hid hs
  unfold nameV
  unfold idxV at HI
  cases hi : sIdxI r with
  | none =>
    rw [hi] at HI
    simp only at HI
    clear hi hs
    go_enter Tryd.func18, Tryd.ntmps18
    go_wp2_with (go_at_call 31; refine HI.out.mono ?_; rintro e w1 ⟨rfl, hbel1⟩)
    go_ret2
    exact ⟨rfl, hbel1⟩
  | some i =>
    rw [hi] at HI
    simp only at HI
    have h32 := (sIdxI_some hi).1
    have hx := nm_index i h32
    clear hi hs
    go_enter Tryd.func18, Tryd.ntmps18
    go_wp2_with (first
      | (go_at_call 31; refine HI.out.mono ?_; rintro e w1 ⟨rfl, hbel1⟩)
      | (go_at_call 33; refine (split _ (HS.out.below hbel1 (Nat.le_refl _))).mono ?_; rintro e w2 ⟨rfl, hbel2⟩))
    go_ret2
    exact ⟨rfl, hbel1.trans (hbel2.mono hbel1.size)⟩
theorem signs_index (i : Nat) (h : i < 32) (w : World) : (Instr.index 9 (.string signsB) (.int .i64 i)).run Tryd.prog w = .ok (.int .u8 (sChar i)) w := by
  have : ∀ i : Fin 32, ∀ h : i.val < signsB.size, (signsB[i.val]'h).toNat = sChar i.val := by decide +kernel
  have h2 : signsB.size = 32 := by decide +kernel
  have h3 := this ⟨i, h⟩ (by simp [h2, h])
  simp only at h3
  rw [← h3]
  simp [Instr.index, run_underlying Tryd.underlying9, asIntOf, h2, h, go_sem]
theorem signs_size : signsB.size = 32 := by decide +kernel
theorem signs_get0 : ∀ i : Fin 32, ∀ h : i.val < signsB.size, (signsB[i.val]'h).toNat = sChar i.val := by decide +kernel
theorem sChar_le : ∀ i : Fin 32, sChar i.val ≤ 126 := by decide +kernel
set_option maxHeartbeats 1000000 in
theorem sign_some (i : Nat) (hi : i < 32) (w : World) (hs : Sp w) : Calls Tryd.prog 19 #[.string (nb i)] w (Gives (.tuple #[.int .i32 (sChar i), .bool true]) w) := by
  have hc0 := sChar_le ⟨i, hi⟩
  simp only at hc0
  have hc : (sChar i : Int) ≤ 126 := by omega
  clear hc0
  have HX := Lib.hid (signs_index i hi)
  have HN : Hid (∀ j, j < 32 → ((nb j).toList == (nb i).toList) = decide (j = i)) := Lib.hid fun j hj => by
    rw [str_beq]
    by_cases e : j = i
    · rw [e]; simp
    · simp [e, nb_ne j i hj hi e]
  have HI := Lib.hid nm_index
  have HS := Lib.hid hs
  clear hs
  generalize nb i = s at *
  go_enter Tryd.func19, Tryd.ntmps19
  go_wp2_with (go_at_call 33; refine (split _ HS.out).mono ?_; rintro e w1 ⟨rfl, hbel1⟩)
  go_loop [7] (fun x => ∃ k : Nat, k ≤ i ∧ x = .int .i64 k) (fun x => 32 - (intOf x).toNat)
  case atStart => exact ⟨0, by omega, rfl⟩
  case round =>
    obtain ⟨k, hk, rfl⟩ := hrel
    have hk32 : k < 32 := by omega
    have hx := HI.out k hk32 w1
    have hb := HN.out k hk32
    by_cases e : k = i
    · have hd : ((nb k).toList == s.toList) = true := by rw [hb]; simp [e]
      subst e
      have hx2 := HX.out w1
      clear hb
      generalize nb k = u at *
      go_wp2
      go_ret2
      have hg : wrap32 ((signsB[k]'(by rw [signs_size]; exact hk32)).toNat : Int) = (sChar k : Int) := by
        rw [signs_get0 ⟨k, hk32⟩]
        show wrap32 ((sChar k : Nat) : Int) = _
        exact IntWalk.wrap32_in _ ⟨by omega, by omega⟩
      exact ⟨congrArg (fun z => Ending.returned (.tuple #[.int .i32 z, .bool true])) hg, hbel1⟩
    · have hd : ((nb k).toList == s.toList) = false := by rw [hb]; simp [e]
      clear hb
      generalize nb k = u at *
      go_wp2
      exact ⟨⟨k + 1, by omega, by go_num⟩, by simp [intOf]; omega⟩
set_option maxHeartbeats 1000000 in
theorem sign_none (s : ByteArray) (hn : ∀ i, i < 32 → nb i ≠ s) (w : World) (hs : Sp w) : Calls Tryd.prog 19 #[.string s] w (Gives (.tuple #[.int .i32 0, .bool false]) w) := by
  have HN : Hid (∀ j, j < 32 → ((nb j).toList == s.toList) = false) := Lib.hid fun j hj => by
    rw [str_beq]
    simp [hn j hj]
  have HI := Lib.hid nm_index
  have HS := Lib.hid hs
  clear hs hn
  go_enter Tryd.func19, Tryd.ntmps19
  go_wp2_with (go_at_call 33; refine (split _ HS.out).mono ?_; rintro e w1 ⟨rfl, hbel1⟩)
  go_loop [7] (fun x => ∃ k : Nat, k ≤ 32 ∧ x = .int .i64 k) (fun x => 32 - (intOf x).toNat)
  case atStart => exact ⟨0, by omega, rfl⟩
  case round =>
    obtain ⟨k, hk, rfl⟩ := hrel
    by_cases hk32 : k < 32
    · have hx := HI.out k hk32 w1
      have hd := HN.out k hk32
      generalize nb k = u at *
      go_wp2
      exact ⟨⟨k + 1, by omega, by go_num⟩, by simp [intOf]; omega⟩
    · go_wp2
      go_ret2
      exact ⟨rfl, hbel1⟩
set_option maxHeartbeats 400000 in
set_option maxRecDepth 100000 in
theorem names (w : World) (hs : Sp w) : Calls Tryd.prog 22 #[] w fun e w' => ∃ A c, e = .returned (.slice A 32 c) ∧ Rd w' w'.heap.size 1 A 32 nmL ∧ Below w.heap.size w w' := by
  have HS := Lib.hid hs
  clear hs
  go_enter Tryd.func22, Tryd.ntmps22
  go_wp2_with (first
    | (go_at_call 33; refine (split _ HS.out).mono ?_; rintro e w1 ⟨rfl, hbel1⟩)
    | (refine wpList_store_row rfl 51 _ _ rfl w1.heap.size nmA rfl rfl 51 _ (by exact heap_alloc_new w1 _) infoArr (by rfl) nmA_one ?_))
  go_ret
  refine ⟨_, _, rfl, ?_, ?_⟩
  · rw [World.setRow_alloc_new]
    refine (rd_built rfl nmL_len).more ?_
    rw [World.size_alloc]
    exact Nat.le_refl _
  · rw [World.setRow_alloc_new]
    exact hbel1.alloc hbel1.size _
def isChar (n : Int) : Prop := 0 ≤ n ∧ n ≤ 55295 ∨ 57344 ≤ n ∧ n ≤ 1114111
set_option maxHeartbeats 400000 in
theorem char_t (n : Int) (h : isChar n) (w : World) : Calls Tryd.prog 25 #[.int .i64 n] w (Gives (.bool true) w) := by
  unfold isChar at h
  by_cases h1 : 0 ≤ n ∧ n ≤ 55295
  · obtain ⟨a, b⟩ := h1
    clear h
    go_enter Tryd.func25, Tryd.ntmps25
    go_wp2
    go_ret
    exact ⟨rfl, Below.refl _ _⟩
  · have a : 57344 ≤ n := by omega
    have b : n ≤ 1114111 := by omega
    have c : ¬ n ≤ 55295 := by omega
    clear h h1
    go_enter Tryd.func25, Tryd.ntmps25
    go_wp2
    go_ret
    exact ⟨rfl, Below.refl _ _⟩
set_option maxHeartbeats 400000 in
theorem char_f (n : Int) (h : ¬ isChar n) (w : World) : Calls Tryd.prog 25 #[.int .i64 n] w (Gives (.bool false) w) := by
  unfold isChar at h
  by_cases h1 : n < 0
  · clear h
    go_enter Tryd.func25, Tryd.ntmps25
    go_wp2
    all_goals
      go_ret
      exact ⟨by simp <;> omega, Below.refl _ _⟩
  · by_cases h2 : n < 57344
    · have a : 55295 < n := by omega
      clear h
      go_enter Tryd.func25, Tryd.ntmps25
      go_wp2
      all_goals
        go_ret
        exact ⟨by simp <;> omega, Below.refl _ _⟩
    · have a : 1114111 < n := by omega
      clear h
      go_enter Tryd.func25, Tryd.ntmps25
      go_wp2
      all_goals
        go_ret
        exact ⟨by simp <;> omega, Below.refl _ _⟩
end Go.Proofs.YtoiballfjbdoiaaDoor
