/- Joined texts: UtP3. -/
import Derived.Test.YtejjfiipghcifaaGreatDoorQAA
import Derived.Test.YtejjfiipghcifaaGreatDoorQAB
import Derived.Test.YtejjfiipghcifaaGreatDoorQAC
import Derived.Test.YtejjfiipghcifaaGreatDoorQAE
import Derived.Test.YtejjfiipghcifaaGreatDoorQAF
import Derived.Test.YtejjfiipghcifaaGreatDoorQAG
import Derived.Test.YtejjfiipghcifaaGreatDoorQAO
import Derived.Test.YtejjfiipghcifaaGreatDoorQAR
import Derived.Test.YtejjfiipghcifaaGreatDoorQAV
import Derived.Test.YtejjfiipghcifaaGreatDoorQBD
import Derived.Test.YtejjfiipghcifaaGreatDoorQHT
set_option linter.unusedVariables false
set_option linter.unusedSimpArgs false
set_option linter.unnecessarySimpa false
namespace Go.Proofs.YtejjfiipghcifaaGreatDoor
open Go.RowKit
set_option maxRecDepth 20000
theorem frm_az : ∀ (W : List ByteArray) (b c : Bool), frmF b W = some c → ∀ a ∈ W, azB a = true
 | [], _, _, _, a, ha => by cases ha
 | x :: W, b, c, h, a, ha => by
  rw [frmF] at h
  split at h
  ·cases h
  ·rename_i hc
   rcases List.mem_cons.1 ha with rfl | h'
   ·cases hz : azB a with
    | true => rfl
    | false => exact absurd (.inl hz) hc
   ·exact frm_az W _ c h a h'
theorem num_az {n : Int} (h1 : -999999999 ≤ n) (h2 : n ≤ 999999999) : ∀ a ∈ numI n, azB a = true := fun a ha => by
 have := ok_words h1 h2 a ha
 unfold okW at this
 simp only [Bool.and_eq_true] at this
 exact this.1.1
theorem ctl_az : ∀ a ∈ ctlU, azB a = true := by unfold ctlU; decide +kernel
theorem ctl1 {a : ByteArray} (h : a ∈ ctlU) : ∀ x ∈ [a], azB x = true := fun x hx => by
 rw [List.mem_singleton] at hx
 exact hx ▸ ctl_az a h
theorem az_cons {a : ByteArray} {t : List ByteArray} (h : a ∈ ctlU) (ht : ∀ x ∈ t, azB x = true) : ∀ x ∈ a :: t, azB x = true := fun x hx => by
 rcases List.mem_cons.1 hx with rfl | h'
 ·exact ctl_az _ h
 ·exact ht x h'
theorem az_app {s t : List ByteArray} (hs : ∀ x ∈ s, azB x = true) (ht : ∀ x ∈ t, azB x = true) : ∀ x ∈ s ++ t, azB x = true := fun x hx => by
 rcases List.mem_append.1 hx with h | h
 ·exact hs x h
 ·exact ht x h
theorem az_nil : ∀ x ∈ ([] : List ByteArray), azB x = true := fun x hx => by cases hx
theorem phrase_az (c : Chg) (S : Setts) (hc : chkU c = 0) : ∀ a ∈ phraseL c S, azB a = true := by
 obtain ⟨hk, hr, -, -⟩ := chk_zero hc
 obtain ⟨kind, row, col, count, til, g⟩ := c
 simp only at hk
 have hk4 : kind = 1 ∨ kind = 2 ∨ kind = 3 ∨ kind = 4 := by omega
 rcases hk4 with rfl | rfl | rfl | rfl
 ·simp [rangesU] at hr
  simp only [phraseL, if_true]
  exact az_cons (by simp [ctlU]) (az_app (num_az (by omega) (by omega)) (az_cons (by simp [ctlU]) (az_app (num_az (by omega) (by omega)) (ctl1 (by simp [ctlU])))))
 ·simp [rangesU] at hr
  have e : phraseL ⟨2, row, col, count, til, g⟩ S = bScroll :: bLine :: (numI (row + 1) ++ bTo :: (numI til ++ (if 0 < count then bUp :: numI count else bDown :: numI (-count)))) := by simp [phraseL]
  rw [e]
  refine az_cons (by simp [ctlU]) (az_cons (by simp [ctlU]) (az_app (num_az (by omega) (by omega)) (az_cons (by simp [ctlU]) (az_app (num_az (by omega) (by omega)) ?_))))
  split
  ·exact az_cons (by simp [ctlU]) (num_az (by omega) (by omega))
  ·exact az_cons (by simp [ctlU]) (num_az (by omega) (by omega))
 ·simp [rangesU] at hr
  have e : phraseL ⟨3, row, col, count, til, g⟩ S = bLine :: (numI (row + 1) ++ bColumn :: (numI (col + 1) ++ ((if 0 < count then bDelete :: numI count else []) ++ (if g = [] then [] else bInsert :: (spokenWords g S ++ [bStop]))))) := by simp [phraseL]
  rw [e]
  refine az_cons (by simp [ctlU]) (az_app (num_az (by omega) (by omega)) (az_cons (by simp [ctlU]) (az_app (num_az (by omega) (by omega)) (az_app ?_ ?_))))
  ·split
   ·exact az_cons (by simp [ctlU]) (num_az (by omega) (by omega))
   ·exact az_nil
  ·split
   ·exact az_nil
   ·exact az_cons (by simp [ctlU]) (az_app (frm_az _ _ _ (clo_words g S)) (ctl1 (by simp [ctlU])))
 ·simp [rangesU] at hr
  have e : phraseL ⟨4, row, col, count, til, g⟩ S = bCursor :: bLine :: (numI (row + 1) ++ bColumn :: (numI (col + 1) ++ [if count = 1 then bVisible else bInvisible])) := by simp [phraseL]
  rw [e]
  refine az_cons (by simp [ctlU]) (az_cons (by simp [ctlU]) (az_app (num_az (by omega) (by omega)) (az_cons (by simp [ctlU]) (az_app (num_az (by omega) (by omega)) ?_))))
  split
  ·exact ctl1 (by simp [ctlU])
  ·exact ctl1 (by simp [ctlU])
theorem end_az {n : Int} (h0 : 0 ≤ n) (h1 : n ≤ 999999999) : ∀ a ∈ endW n, azB a = true := by
 unfold endW
 split
 ·exact ctl1 (by simp [ctlU])
 ·split
  ·exact ctl1 (by simp [ctlU])
  ·exact az_cons (by simp [ctlU]) (az_app (num_az (by omega) h1) (ctl1 (by simp [ctlU])))
theorem words_az (l : List Chg) (n : Int) (S : Setts) (h0 : 0 ≤ n) (h1 : n ≤ 999999999) (h : ∀ c ∈ l, chkU c = 0) : ∀ a ∈ wordsU l n S, azB a = true := by
 unfold wordsU
 refine az_app (fun a ha => ?_) (end_az h0 h1)
 obtain ⟨c, hc, hac⟩ := List.mem_flatMap.1 ha
 exact phrase_az c S (h c hc) a hac
theorem num_range {l r : List ByteArray} {n : Int} (h : numO l = some (n, r)) : -999999999 ≤ n ∧ n ≤ 999999999 := by
 unfold numO at h
 cases hp : prefixL l with
 | none => rw [hp] at h; cases h
 | some x =>
  obtain ⟨m, k⟩ := x
  rw [hp] at h
  simp only [Option.map_some, Option.some.injEq, Prod.mk.injEq] at h
  obtain ⟨rfl, _⟩ := h
  obtain ⟨_, _, _, hnum, _⟩ := prefixL_some hp
  obtain ⟨h1, h2, _⟩ := number_some hnum
  exact ⟨h1, h2⟩
theorem end_range {l : List ByteArray} {n : Int} (h : endL l = some n) : 0 ≤ n ∧ n ≤ 999999999 := by
 unfold endL at h
 split at h
 ·split at h
  ·injection h with h; omega
  ·cases h
 ·cases hs : skO bDone l with
  | none => rw [hs] at h; cases h
  | some t =>
   rw [hs, Option.bind_some] at h
   split at h
   ·injection h with h; omega
   ·cases hn : numO t with
    | none => rw [hn] at h; cases h
    | some x =>
     obtain ⟨m, r⟩ := x
     rw [hn, Option.bind_some] at h
     simp only at h
     cases hu : skO bUpdates r with
     | none => rw [hu] at h; cases h
     | some u =>
      rw [hu, Option.bind_some] at h
      split at h
      ·rename_i hc
       injection h with h
       have := num_range hn
       omega
      ·cases h
theorem chgs_range : ∀ (f : Nat) (l : List ByteArray) (acc m : List Chg) (n : Int), (∀ c ∈ acc, chkU c = 0) → chgsL f l acc = some (m, n) → (∀ c ∈ m, chkU c = 0) ∧ 0 ≤ n ∧ n ≤ 999999999
 | 0, l, acc, m, n, _, h => by cases h
 | f + 1, l, acc, m, n, ha, h => by
  rw [chgsL] at h
  split at h
  ·cases he : endL l with
   | none => rw [he] at h; cases h
   | some k =>
    rw [he] at h
    simp only [Option.map_some, Option.some.injEq, Prod.mk.injEq] at h
    obtain ⟨rfl, rfl⟩ := h
    exact ⟨ha, end_range he⟩
  ·cases hc : chgL l with
   | none => rw [hc] at h; cases h
   | some x =>
    obtain ⟨c, r⟩ := x
    rw [hc, Option.bind_some] at h
    simp only at h
    split at h
    ·rename_i h0
     exact chgs_range f r (acc ++ [c]) m n (fun x hx => by
      rcases List.mem_append.1 hx with h' | h'
      ·exact ha x h'
      ·rw [List.mem_singleton] at h'
       exact h' ▸ h0) h
    ·cases h
theorem changes_range {l : List ByteArray} {m : List Chg} {n : Int} (h : changesU l = some (m, n)) : (∀ c ∈ m, chkU c = 0) ∧ 0 ≤ n ∧ n ≤ 999999999 := chgs_range _ _ _ _ _ (fun c hc => by cases hc) h
theorem words_inj {a b : List Chg} {m n : Int} {S T : Setts} (ha : ∀ c ∈ a, chkU c = 0) (hb : ∀ c ∈ b, chkU c = 0) (hm : 0 ≤ m ∧ m ≤ 999999999) (hn : 0 ≤ n ∧ n ≤ 999999999) (h : wordsU a m S = wordsU b n T) : a = b ∧ m = n := by
 have h1 := changes_words a m S hm.1 hm.2 ha
 have h2 := changes_words b n T hn.1 hn.2 hb
 rw [h, h2] at h1
 simp only [Option.some.injEq, Prod.mk.injEq] at h1
 exact ⟨h1.1.symm, h1.2.symm⟩
theorem words_both (a b : List Chg) (n : Int) (S : Setts) : wordsU (a ++ b) n S = (wordsU a 0 S).dropLast ++ wordsU b n S := by
 unfold wordsU
 rw [show endW 0 = [bMore] from rfl, List.dropLast_concat, List.flatMap_append, List.append_assoc]
end Go.Proofs.YtejjfiipghcifaaGreatDoor
