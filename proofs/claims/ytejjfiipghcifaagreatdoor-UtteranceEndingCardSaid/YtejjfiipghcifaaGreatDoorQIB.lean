/- Joined texts: UtP4. -/
import Derived.Test.YtejjfiipghcifaaGreatDoorQAA
import Derived.Test.YtejjfiipghcifaaGreatDoorQAB
import Derived.Test.YtejjfiipghcifaaGreatDoorQAC
import Derived.Test.YtejjfiipghcifaaGreatDoorQAD
import Derived.Test.YtejjfiipghcifaaGreatDoorQAE
import Derived.Test.YtejjfiipghcifaaGreatDoorQAF
import Derived.Test.YtejjfiipghcifaaGreatDoorQAG
import Derived.Test.YtejjfiipghcifaaGreatDoorQAR
import Derived.Test.YtejjfiipghcifaaGreatDoorQAV
import Derived.Test.YtejjfiipghcifaaGreatDoorQBD
import Derived.Test.YtejjfiipghcifaaGreatDoorQHT
set_option linter.unusedVariables false
set_option linter.unusedSimpArgs false
set_option linter.unnecessarySimpa false
namespace Go.Proofs.YtejjfiipghcifaaGreatDoor
open Go.RowKit
set_option maxRecDepth 20000
def NWs (r : List ByteArray) : Prop := ∀ a ∈ r, ∃ j, j < 32 ∧ wb j = a
theorem NWs.num (n : Int) (h1 : -999999999 ≤ n) (h2 : n ≤ 999999999) : NWs (numI n) := fun a ha => by
 unfold numI at ha
 obtain ⟨i, hi, rfl⟩ := List.mem_map.1 ha
 exact ⟨i, sg_words_lt n h1 h2 i hi, rfl⟩
theorem NWs.take {r : List ByteArray} (h : NWs r) (k : Nat) : NWs (r.take k) := fun a ha => h a (List.mem_of_mem_take ha)
theorem NWs.drop {r : List ByteArray} (h : NWs r) (k : Nat) : NWs (r.drop k) := fun a ha => h a (List.mem_of_mem_drop ha)
theorem NWs.hd {r : List ByteArray} (h : NWs r) {s : ByteArray} (hs : NoW s) : hdIs s r = false := by
 cases r with
 | nil => rfl
 | cons a t =>
  obtain ⟨j, hj, e⟩ := h a (by simp)
  exact hdIs_no (fun e' => hs j hj (e.trans e')) t
theorem NWs.sk {r : List ByteArray} (h : NWs r) {s : ByteArray} (hs : NoW s) : skO s r = none := by
 cases r with
 | nil => rfl
 | cons a t =>
  obtain ⟨j, hj, e⟩ := h a (by simp)
  show (if a = s then some t else none) = none
  rw [if_neg (fun e' => hs j hj (e.trans e'))]
theorem NWs.af {r : List ByteArray} (h : NWs r) {s : ByteArray} (hs : NoW s) : afO s r = none := by
 unfold afO
 rw [h.sk hs]
 rfl
theorem NWs.numO {r : List ByteArray} (h : NWs r) : Proofs.YtejjfiipghcifaaGreatDoor.numO r = none ∨ ∃ x t, Proofs.YtejjfiipghcifaaGreatDoor.numO r = some (x, t) ∧ NWs t := by
 unfold Proofs.YtejjfiipghcifaaGreatDoor.numO
 cases prefixL r with
 | none => exact .inl rfl
 | some x => exact .inr ⟨x.1, r.drop x.2, rfl, h.drop x.2⟩
def BadU (r : List ByteArray) : Prop := ∀ f acc, chgsL f r acc = none
theorem noW_ctl : ∀ a ∈ ctlU, NoW a := by unfold NoW ctlU; decide +kernel
theorem chgL_bad {r : List ByteArray} (h : ∀ s ∈ ctlU, hdIs s r = false) : chgL r = none := by
 unfold chgL
 rw [h bSize (by simp [ctlU]), if_neg (by simp), h bScroll (by simp [ctlU]), if_neg (by simp), h bLine (by simp [ctlU]), if_neg (by simp), h bCursor (by simp [ctlU]), if_neg (by simp)]
theorem bad_of {r : List ByteArray} (h : ∀ s ∈ ctlU, hdIs s r = false) : BadU r := fun f acc => by
 cases f with
 | zero => rfl
 | succ f =>
  rw [chgsL, h bMore (by simp [ctlU]), h bDone (by simp [ctlU]), if_neg (by simp), chgL_bad h]
  rfl
theorem NWs.bad {r : List ByteArray} (h : NWs r) : BadU r := bad_of fun s hs => h.hd (noW_ctl s hs)
theorem bad_nil : BadU [] := bad_of fun s _ => rfl
theorem cutN {s a : ByteArray} {n : Int} (h1 : -999999999 ≤ n) (h2 : n ≤ 999999999) (ha : NoW a) (u : List ByteArray) (k : Nat) :
  afO s (s :: (numI n ++ a :: u).take k) = none ∨ (∃ x r, afO s (s :: (numI n ++ a :: u).take k) = some (x, r) ∧ NWs r) ∨ (∃ k', k = (numI n).length + k' + 1 ∧ afO s (s :: (numI n ++ a :: u).take k) = some (n, a :: u.take k')) := by
 rcases Nat.lt_or_ge (numI n).length k with h | h
 ·refine .inr (.inr ⟨k - (numI n).length - 1, by omega, ?_⟩)
  rw [show k = (numI n).length + (k - (numI n).length - 1 + 1) by omega, List.take_length_add_append, List.take_succ_cons, afO_say h1 h2 (ha.num _)]
  rw [show (numI n).length + (k - (numI n).length - 1 + 1) - (numI n).length - 1 = k - (numI n).length - 1 by omega]
 ·rw [List.take_append_of_le_length h]
  unfold afO
  rw [skO_yes, Option.bind_some]
  rcases ((NWs.num n h1 h2).take k).numO with e | ⟨x, t, e, ht⟩
  ·exact .inl e
  ·exact .inr (.inl ⟨x, t, e, ht⟩)
theorem lastN {s : ByteArray} {n : Int} (h1 : -999999999 ≤ n) (h2 : n ≤ 999999999) (k : Nat) : afO s (s :: (numI n).take k) = none ∨ ∃ x r, afO s (s :: (numI n).take k) = some (x, r) ∧ NWs r := by
 unfold afO
 rw [skO_yes, Option.bind_some]
 exact ((NWs.num n h1 h2).take k).numO
theorem find_none : ∀ (W : List ByteArray) (b c : Bool) (k : Nat), frmF b W = some c → findStop b (W.take k) = none
 | [], b, _, k, _ => by rw [List.take_nil]; cases b <;> rfl
 | a :: W, b, c, 0, _ => by rw [List.take_zero]; cases b <;> rfl
 | a :: W, b, c, k + 1, h => by
  rw [frmF] at h
  split at h
  ·cases h
  ·rename_i hc
   rw [List.take_succ_cons]
   cases b with
   | true =>
    rw [Bool.not_true, Bool.and_false] at h
    rw [findStop, find_none W false c k h]
    rfl
   | false =>
    rw [Bool.not_false, Bool.and_true] at h
    have hs : a ≠ bStop := fun e => hc (.inr ⟨e, rfl⟩)
    by_cases hw : a = bWord
    ·rw [decide_eq_true hw] at h
     rw [findStop, if_pos hw, find_none W true c k h]
     rfl
    ·rw [decide_eq_false hw] at h
     rw [findStop, if_neg hw, if_neg hs, find_none W false c k h]
     rfl
theorem text_cut (g : List Gl) (S : Setts) (k : Nat) (h : k ≤ (spokenWords g S).length) : textO ((spokenWords g S ++ [bStop]).take k) = none := by
 rw [List.take_append_of_le_length h]
 unfold textO
 rw [find_none _ _ _ _ (clo_words g S)]
 rfl
theorem del_nw {r : List ByteArray} (h : NWs r) : delL r = some (0, r) := by
 unfold delL
 rw [h.hd noW_delete, if_neg (by simp)]
theorem ins_nw {r : List ByteArray} (h : NWs r) : insL r = some ([], r) := by
 unfold insL
 rw [h.hd noW_insert, if_neg (by simp)]
theorem ins_cut (g : List Gl) (S : Setts) (k : Nat) (h : k ≤ (spokenWords g S).length) : insL (bInsert :: (spokenWords g S ++ [bStop]).take k) = none := by
 unfold insL
 rw [if_pos (hdIs_yes _ _), skO_yes, Option.bind_some, text_cut g S k h]
theorem phrase_cut (c : Chg) (S : Setts) (hc : chkU c = 0) (k : Nat) (hk' : k < (phraseL c S).length) (c' : Chg) (r : List ByteArray) (h : chgL ((phraseL c S).take k) = some (c', r)) : BadU r := by
 obtain ⟨hk, hr, -, -⟩ := chk_zero hc
 obtain ⟨kind, row, col, count, til, g⟩ := c
 simp only at hk
 have hk4 : kind = 1 ∨ kind = 2 ∨ kind = 3 ∨ kind = 4 := by omega
 have nb : ∀ {s t : ByteArray} {u : List ByteArray}, t ≠ s → ¬ hdIs s (t :: u) = true := fun h => by rw [hdIs_no h]; simp
 cases k with
 | zero => rw [List.take_zero, chgL_bad (fun s _ => rfl)] at h; cases h
 | succ k =>
 rcases hk4 with rfl | rfl | rfl | rfl
 ·simp [rangesU] at hr
  have e : phraseL ⟨1, row, col, count, til, g⟩ S = bSize :: (numI row ++ bRows :: (numI col ++ bColumns :: [])) := by simp [phraseL]
  rw [e] at h hk'
  rw [List.take_succ_cons] at h
  unfold chgL at h
  rw [if_pos (hdIs_yes _ _)] at h
  rcases cutN (s := bSize) (n := row) (by omega) (by omega) noW_rows (numI col ++ bColumns :: []) k with e1 | ⟨x, r1, e1, hn⟩ | ⟨k', hke, e1⟩
  ·rw [e1] at h; cases h
  ·rw [e1, Option.bind_some, hn.af noW_rows] at h; cases h
  ·rw [e1, Option.bind_some] at h
   simp only at h
   rcases cutN (s := bRows) (n := col) (by omega) (by omega) noW_columns [] k' with e2 | ⟨x, r1, e2, hn⟩ | ⟨k2, hke2, e2⟩
   ·rw [e2] at h; cases h
   ·rw [e2, Option.bind_some] at h
    simp only at h
    rw [hn.sk noW_columns] at h
    cases h
   ·simp only [List.length_cons, List.length_append, List.length_nil] at hk'
    omega
 ·simp [rangesU] at hr
  obtain ⟨d, m, hd, hm1, hm2, e⟩ : ∃ (d : ByteArray) (m : Int), (d = bUp ∨ d = bDown) ∧ -999999999 ≤ m ∧ m ≤ 999999999 ∧ phraseL ⟨2, row, col, count, til, g⟩ S = bScroll :: bLine :: (numI (row + 1) ++ bTo :: (numI til ++ d :: numI m)) := by
   by_cases hp : 0 < count
   ·exact ⟨bUp, count, .inl rfl, by omega, by omega, by simp [phraseL, hp]⟩
   ·exact ⟨bDown, -count, .inr rfl, by omega, by omega, by simp [phraseL, hp]⟩
  have hdn : NoW d := by rcases hd with rfl | rfl; exact noW_up; exact noW_down
  rw [e] at h
  rw [List.take_succ_cons] at h
  unfold chgL at h
  rw [if_neg (nb (by decide +kernel)), if_pos (hdIs_yes _ _), skO_yes, Option.bind_some] at h
  cases k with
  | zero => rw [List.take_zero] at h; cases h
  | succ k =>
   rw [List.take_succ_cons] at h
   rcases cutN (s := bLine) (n := row + 1) (by omega) (by omega) noW_to (numI til ++ d :: numI m) k with e1 | ⟨x, r1, e1, hn⟩ | ⟨k', hke, e1⟩
   ·rw [e1] at h; cases h
   ·rw [e1, Option.bind_some, hn.af noW_to] at h; cases h
   ·rw [e1, Option.bind_some] at h
    simp only at h
    rcases cutN (s := bTo) (n := til) (by omega) (by omega) hdn (numI m) k' with e2 | ⟨x, r1, e2, hn⟩ | ⟨k2, hke2, e2⟩
    ·rw [e2] at h; cases h
    ·rw [e2, Option.bind_some] at h
     simp only at h
     rw [hn.hd noW_down, if_neg (by simp), hn.af noW_up] at h
     cases h
    ·rw [e2, Option.bind_some] at h
     simp only at h
     rcases hd with rfl | rfl
     ·rw [if_neg (nb (by decide +kernel))] at h
      rcases lastN (s := bUp) hm1 hm2 k2 with e3 | ⟨x, r1, e3, hn⟩
      ·rw [e3] at h; cases h
      ·rw [e3, Option.bind_some] at h
       simp only at h
       split at h
       ·cases h
       ·simp only [Option.some.injEq, Prod.mk.injEq] at h
        rw [← h.2]
        exact hn.bad
     ·rw [if_pos (hdIs_yes _ _)] at h
      rcases lastN (s := bDown) hm1 hm2 k2 with e3 | ⟨x, r1, e3, hn⟩
      ·rw [e3] at h; cases h
      ·rw [e3, Option.bind_some] at h
       simp only at h
       split at h
       ·cases h
       ·simp only [Option.some.injEq, Prod.mk.injEq] at h
        rw [← h.2]
        exact hn.bad
 ·simp [rangesU] at hr
  have e : phraseL ⟨3, row, col, count, til, g⟩ S = bLine :: (numI (row + 1) ++ bColumn :: (numI (col + 1) ++ ((if 0 < count then bDelete :: numI count else []) ++ (if g = [] then [] else bInsert :: (spokenWords g S ++ [bStop]))))) := by simp [phraseL]
  rw [e] at h hk'
  rw [List.take_succ_cons] at h
  unfold chgL at h
  rw [if_neg (nb (by decide +kernel)), if_neg (nb (by decide +kernel)), if_pos (hdIs_yes _ _)] at h
  unfold spliceL at h
  rcases cutN (s := bLine) (n := row + 1) (by omega) (by omega) noW_column (numI (col + 1) ++ ((if 0 < count then bDelete :: numI count else []) ++ (if g = [] then [] else bInsert :: (spokenWords g S ++ [bStop])))) k with e1 | ⟨x, r1, e1, hn⟩ | ⟨k', hke, e1⟩
  ·rw [e1] at h; cases h
  ·rw [e1, Option.bind_some, hn.af noW_column] at h; cases h
  ·rw [e1, Option.bind_some] at h
   simp only at h
   have fin : ∀ (x : Int) (r1 : List ByteArray), NWs r1 → ((delL r1).bind fun z => (insL z.2).map fun g => ((⟨3, row + 1 - 1, x - 1, z.1, 0, g.1⟩ : Chg), g.2)) = some (c', r) → BadU r := fun x r1 hn h => by
    rw [del_nw hn, Option.bind_some] at h
    simp only at h
    rw [ins_nw hn] at h
    simp only [Option.map_some, Option.some.injEq, Prod.mk.injEq] at h
    rw [← h.2]
    exact hn.bad
   by_cases hp : 0 < count
   ·rw [if_pos hp, List.cons_append] at h
    rw [if_pos hp] at hk'
    rcases cutN (s := bColumn) (n := col + 1) (by omega) (by omega) noW_delete (numI count ++ (if g = [] then [] else bInsert :: (spokenWords g S ++ [bStop]))) k' with e2 | ⟨x, r1, e2, hn⟩ | ⟨k2, hke2, e2⟩
    ·rw [e2] at h; cases h
    ·rw [e2, Option.bind_some] at h
     exact fin x r1 hn h
    ·rw [e2, Option.bind_some] at h
     simp only at h
     unfold delL at h
     rw [if_pos (hdIs_yes _ _)] at h
     have fin2 : ∀ (x : Int) (r1 : List ByteArray), NWs r1 → ((if x < 1 then none else some (x, r1)).bind fun z => (insL z.2).map fun g => ((⟨3, row + 1 - 1, col + 1 - 1, z.1, 0, g.1⟩ : Chg), g.2)) = some (c', r) → BadU r := fun x r1 hn h => by
      split at h
      ·cases h
      ·rw [Option.bind_some] at h
       simp only at h
       rw [ins_nw hn] at h
       simp only [Option.map_some, Option.some.injEq, Prod.mk.injEq] at h
       rw [← h.2]
       exact hn.bad
     by_cases hg : g = []
     ·rw [if_pos hg, List.append_nil] at h
      rcases lastN (s := bDelete) (n := count) (by omega) (by omega) k2 with e3 | ⟨x, r1, e3, hn⟩
      ·rw [e3] at h; cases h
      ·rw [e3, Option.bind_some] at h
       exact fin2 x r1 hn h
     ·rw [if_neg hg] at h hk'
      rcases cutN (s := bDelete) (n := count) (by omega) (by omega) noW_insert (spokenWords g S ++ [bStop]) k2 with e3 | ⟨x, r1, e3, hn⟩ | ⟨k3, hke3, e3⟩
      ·rw [e3] at h; cases h
      ·rw [e3, Option.bind_some] at h
       exact fin2 x r1 hn h
      ·simp only [List.length_cons, List.length_append, List.length_nil] at hk'
       rw [e3, Option.bind_some, if_neg (by show ¬ count < 1; omega), Option.bind_some] at h
       simp only at h
       rw [ins_cut g S k3 (by omega)] at h
       cases h
   ·rw [if_neg hp, List.nil_append] at h hk'
    by_cases hg : g = []
    ·rw [if_pos hg, List.append_nil] at h
     rcases lastN (s := bColumn) (n := col + 1) (by omega) (by omega) k' with e2 | ⟨x, r1, e2, hn⟩
     ·rw [e2] at h; cases h
     ·rw [e2, Option.bind_some] at h
      exact fin x r1 hn h
    ·rw [if_neg hg] at h hk'
     rcases cutN (s := bColumn) (n := col + 1) (by omega) (by omega) noW_insert (spokenWords g S ++ [bStop]) k' with e2 | ⟨x, r1, e2, hn⟩ | ⟨k2, hke2, e2⟩
     ·rw [e2] at h; cases h
     ·rw [e2, Option.bind_some] at h
      exact fin x r1 hn h
     ·simp only [List.length_cons, List.length_append, List.length_nil] at hk'
      rw [e2, Option.bind_some] at h
      simp only at h
      unfold delL at h
      rw [if_neg (nb (by decide +kernel)), Option.bind_some] at h
      simp only at h
      rw [ins_cut g S k2 (by omega)] at h
      cases h
 ·simp [rangesU] at hr
  obtain ⟨v, hv, e⟩ : ∃ v : ByteArray, (v = bVisible ∨ v = bInvisible) ∧ phraseL ⟨4, row, col, count, til, g⟩ S = bCursor :: bLine :: (numI (row + 1) ++ bColumn :: (numI (col + 1) ++ v :: [])) := by
   by_cases hp : count = 1
   ·exact ⟨bVisible, .inl rfl, by simp [phraseL, hp]⟩
   ·exact ⟨bInvisible, .inr rfl, by simp [phraseL, hp]⟩
  have hvn : NoW v := by rcases hv with rfl | rfl; exact noW_visible; exact noW_invisible
  rw [e] at h hk'
  rw [List.take_succ_cons] at h
  unfold chgL at h
  rw [if_neg (nb (by decide +kernel)), if_neg (nb (by decide +kernel)), if_neg (nb (by decide +kernel)), if_pos (hdIs_yes _ _), skO_yes, Option.bind_some] at h
  cases k with
  | zero => rw [List.take_zero] at h; cases h
  | succ k =>
   rw [List.take_succ_cons] at h
   rcases cutN (s := bLine) (n := row + 1) (by omega) (by omega) noW_column (numI (col + 1) ++ v :: []) k with e1 | ⟨x, r1, e1, hn⟩ | ⟨k', hke, e1⟩
   ·rw [e1] at h; cases h
   ·rw [e1, Option.bind_some, hn.af noW_column] at h; cases h
   ·rw [e1, Option.bind_some] at h
    simp only at h
    rcases cutN (s := bColumn) (n := col + 1) (by omega) (by omega) hvn [] k' with e2 | ⟨x, r1, e2, hn⟩ | ⟨k2, hke2, e2⟩
    ·rw [e2] at h; cases h
    ·rw [e2, Option.bind_some] at h
     simp only at h
     rw [hn.hd noW_visible, if_neg (by simp), hn.sk noW_invisible] at h
     cases h
    ·simp only [List.length_cons, List.length_append, List.length_nil] at hk'
     omega
theorem end_cut {n : Int} (h0 : 0 ≤ n) (h1 : n ≤ 999999999) (k : Nat) (hk : k < (endW n).length) (f : Nat) (acc m : List Chg) (i : Int) (h : chgsL f ((endW n).take k) acc = some (m, i)) : 2 ≤ n ∧ k = 1 ∧ i = 1 ∧ m = acc := by
 cases k with
 | zero => rw [List.take_zero, bad_nil f acc] at h; cases h
 | succ k =>
  unfold endW at h hk
  by_cases hz : n = 0
  ·rw [if_pos hz] at hk
   simp at hk
  ·rw [if_neg hz] at h hk
   by_cases ho : n = 1
   ·rw [if_pos ho] at hk
    simp at hk
   ·rw [if_neg ho] at h hk
    rw [List.take_succ_cons] at h
    simp only [List.length_cons, List.length_append, List.length_nil] at hk
    cases f with
    | zero => cases h
    | succ f =>
     rw [chgsL, if_pos (.inr (hdIs_yes _ _))] at h
     unfold endL at h
     rw [hdIs_no (by decide +kernel), if_neg (by simp), skO_yes, Option.bind_some, List.take_append_of_le_length (by omega)] at h
     have hNW := (NWs.num n (by omega) h1).take k
     split at h
     ·rename_i ht
      simp only [Option.map_some, Option.some.injEq, Prod.mk.injEq] at h
      obtain ⟨rfl, rfl⟩ := h
      have hl := congrArg List.length ht
      rw [List.length_take, List.length_nil] at hl
      have hp : 0 < (numI n).length := by
       cases he : numI n with
       | cons _ _ => simp
       | nil =>
        have := numO_say (n := n) (by omega) h1 NoNum.nil
        rw [he] at this
        rw [show Proofs.YtejjfiipghcifaaGreatDoor.numO ([] ++ []) = none by decide +kernel] at this
        cases this
      exact ⟨by omega, by omega, rfl, rfl⟩
     ·rcases hNW.numO with e | ⟨x, r, e, hr⟩
      ·rw [e] at h; cases h
      ·rw [e, Option.bind_some] at h
       simp only at h
       rw [hr.sk noW_updates] at h
       cases h
theorem nxt_take {t : List ByteArray} (h : Nxt t) (k : Nat) (hk : 0 < k) : Nxt (t.take k) := by
 obtain ⟨a, u, rfl, ha⟩ := h
 obtain ⟨j, rfl⟩ : ∃ j, k = j + 1 := ⟨k - 1, by omega⟩
 exact ⟨a, u.take j, List.take_succ_cons, ha⟩
theorem words_nxt (l : List Chg) (S : Setts) {n : Int} (h0 : 0 ≤ n) (h1 : n ≤ 999999999) (h : ∀ c ∈ l, chkU c = 0) : Nxt (wordsU l n S) := by
 cases l with
 | nil => unfold wordsU; rw [List.flatMap_nil, List.nil_append]; exact (end_say h0 h1).2.2
 | cons d u =>
  have e2 : wordsU (d :: u) n S = phraseL d S ++ wordsU u n S := by unfold wordsU; rw [List.flatMap_cons, List.append_assoc]
  rw [e2]
  exact (phrase_nxt d S (h d (by simp)) _).1
theorem chg_alone (c : Chg) (S : Setts) (hc : chkU c = 0) (c' : Chg) (r : List ByteArray) (h : chgL (phraseL c S) = some (c', r)) : r = [] := by
 have h2 := chg_phrase' c S hc [] NoNum.nil rfl rfl
 rw [List.append_nil, h] at h2
 simp only [Option.some.injEq, Prod.mk.injEq] at h2
 exact h2.2
theorem chgs_cut (S : Setts) {n : Int} (h0 : 0 ≤ n) (h1 : n ≤ 999999999) : ∀ (l : List Chg) (k f : Nat) (acc m : List Chg) (i : Int), (∀ c ∈ l, chkU c = 0) → k < (wordsU l n S).length → chgsL f ((wordsU l n S).take k) acc = some (m, i) →
  2 ≤ n ∧ k = (l.flatMap fun c => phraseL c S).length + 1 ∧ i = 1 ∧ m = acc ++ l
 | [], k, f, acc, m, i, _, hk, h => by
  unfold wordsU at hk h
  rw [List.flatMap_nil, List.nil_append] at hk h
  obtain ⟨a, b, c, d⟩ := end_cut h0 h1 k hk f acc m i h
  exact ⟨a, by rw [List.flatMap_nil]; simpa using b, c, by rw [d, List.append_nil]⟩
 | c :: l, k, 0, acc, m, i, _, _, h => by cases h
 | c :: l, k, f + 1, acc, m, i, hl, hk, h => by
  have hc := hl c (by simp)
  have hl' : ∀ x ∈ l, chkU x = 0 := fun x hx => hl x (by simp [hx])
  have e : wordsU (c :: l) n S = phraseL c S ++ wordsU l n S := by unfold wordsU; rw [List.flatMap_cons, List.append_assoc]
  rw [e] at hk h
  have hpos := phrase_pos c S hc
  rcases Nat.lt_trichotomy k (phraseL c S).length with hlt | heq | hgt
  ·rw [List.take_append_of_le_length (by omega)] at h
   rw [chgsL] at h
   split at h
   ·rename_i hd
    exfalso
    have hp := phrase_nxt c S hc []
    rw [List.append_nil] at hp
    cases hph : phraseL c S with
    | nil => rw [hph] at hpos; simp at hpos
    | cons a u =>
     rw [hph] at hd hp
     cases k with
     | zero => rw [List.take_zero] at hd; rcases hd with hd | hd <;> cases hd
     | succ k =>
      rw [List.take_succ_cons] at hd
      have a1 := hp.2.1
      have a2 := hp.2.2
      unfold hdIs at hd a1 a2
      rcases hd with hd | hd
      ·rw [a1] at hd; cases hd
      ·rw [a2] at hd; cases hd
   ·cases hch : chgL ((phraseL c S).take k) with
    | none => rw [hch] at h; cases h
    | some x =>
     obtain ⟨c', r⟩ := x
     rw [hch, Option.bind_some] at h
     simp only at h
     split at h
     ·rw [phrase_cut c S hc k hlt c' r hch f (acc ++ [c'])] at h; cases h
     ·cases h
  ·rw [heq, List.take_left' rfl, chgsL] at h
   have hp := phrase_nxt c S hc []
   rw [List.append_nil] at hp
   rw [if_neg (by rw [hp.2.1, hp.2.2]; simp)] at h
   cases hch : chgL (phraseL c S) with
   | none => rw [hch] at h; cases h
   | some x =>
    obtain ⟨c', r⟩ := x
    rw [hch, Option.bind_some] at h
    simp only at h
    split at h
    ·rw [chg_alone c S hc c' r hch, bad_nil f (acc ++ [c'])] at h; cases h
    ·cases h
  ·obtain ⟨j, hj⟩ : ∃ j, k = (phraseL c S).length + j := ⟨k - (phraseL c S).length, by omega⟩
   subst hj
   rw [List.take_length_add_append] at h
   have hN := nxt_take (words_nxt l S h0 h1 hl') j (by omega)
   obtain ⟨_, h2, h3⟩ := phrase_nxt c S hc ((wordsU l n S).take j)
   rw [chgsL, if_neg (by rw [h2, h3]; simp), chg_phrase c S hc _ hN, Option.bind_some] at h
   simp only at h
   rw [if_pos hc] at h
   rw [List.length_append] at hk
   obtain ⟨a, b, d, g⟩ := chgs_cut S h0 h1 l j f (acc ++ [c]) m i hl' (by omega) h
   refine ⟨a, ?_, d, ?_⟩
   ·rw [List.flatMap_cons, List.length_append, b]
    omega
   ·rw [g, List.append_assoc]
    rfl
theorem changes_cut (l : List Chg) (n : Int) (S : Setts) (h0 : 0 ≤ n) (h1 : n ≤ 999999999) (h : ∀ c ∈ l, chkU c = 0) (k : Nat) (hk : k < (wordsU l n S).length) (m : List Chg) (i : Int) (hm : changesU ((wordsU l n S).take k) = some (m, i)) :
  2 ≤ n ∧ k = (l.flatMap fun c => phraseL c S).length + 1 ∧ i = 1 ∧ m = l := by
 unfold changesU at hm
 have := chgs_cut S h0 h1 l k _ [] m i h hk hm
 rwa [List.nil_append] at this
end Go.Proofs.YtejjfiipghcifaaGreatDoor
