/- Joined texts: Um2, UtP3, UtP4. -/
import Derived.Test.YtejjfiipghcifaaGreatDoorQBX
import Derived.Test.YtejjfiipghcifaaGreatDoorQBZ
import Derived.Test.YtejjfiipghcifaaGreatDoorQCC
import Derived.Test.YtejjfiipghcifaaGreatDoorQCH
set_option linter.unusedVariables false
set_option linter.unusedSimpArgs false
set_option linter.unnecessarySimpa false
namespace Go.Proofs.YtejjfiipghcifaaGreatDoor
open Go.RowKit
set_option maxRecDepth 20000
theorem chgs_get {l : List ChgM} {k : Nat} (h : k < l.length) : (chgs l)[k]'(by unfold chgs; rw [List.length_map]; exact h) = l[k].c := by simp [chgs]
theorem chgs_len (l : List ChgM) : (chgs l).length = l.length := by simp [chgs]
theorem chg_ext {a b : Chg} (h1 : a.kind = b.kind) (h2 : a.row = b.row) (h3 : a.col = b.col) (h4 : a.count = b.count) (h5 : a.til = b.til) (h6 : a.glyphs = b.glyphs) : a = b := by
 cases a; cases b
 simp only at h1 h2 h3 h4 h5 h6
 subst h1 h2 h3 h4 h5 h6
 rfl
instance : DecidableEq Chg := fun a b => if h : a.kind = b.kind ∧ a.row = b.row ∧ a.col = b.col ∧ a.count = b.count ∧ a.til = b.til ∧ a.glyphs = b.glyphs then isTrue (chg_ext h.1 h.2.1 h.2.2.1 h.2.2.2.1 h.2.2.2.2.1 h.2.2.2.2.2) else isFalse fun e => h (by subst e; exact ⟨rfl, rfl, rfl, rfl, rfl, rfl⟩)
set_option maxHeartbeats 4000000 in
theorem rsame19 (l m : List ChgM) (A A' : Option Addr) (n n' c c' B : Nat) (w : World) (hn : n ≤ 1000000000) (rd : RdC w B A n l) (rd' : RdC w B A' n' m) (hB : B ≤ w.heap.size) (hz : ∀ x ∈ l, x.c.glyphs.length ≤ 1000000000) :
  Calls Tryz.prog 21 #[.slice A n c, .slice A' n' c'] w (Gives (.bool (decide (chgs l = chgs m))) w) := by
 have HN := Lib.hid rd.len
 have HN' := Lib.hid rd'.len
 by_cases hnn : n = n'
 ·subst hnn
  have HF : Hid (∀ k (h1 : k < l.length) (h2 : k < m.length), l[k].c ≠ m[k].c → decide (chgs l = chgs m) = false) := Lib.hid fun k h1 h2 h => decide_eq_false fun e => h (by
   rw [← chgs_get h1, ← chgs_get h2]
   congr 1)
  have HT : Hid ((∀ i (h1 : i < l.length) (h2 : i < m.length), l[i].c = m[i].c) → decide (chgs l = chgs m) = true) := Lib.hid fun h => decide_eq_true (List.ext_getElem (by rw [chgs_len, chgs_len, HN.out, HN'.out]) fun i h1 h2 => by
   rw [chgs_len] at h1 h2
   rw [chgs_get h1, chgs_get h2]
   exact h i h1 h2)
  have HS : Hid (∀ k (h1 : k < l.length) (h2 : k < m.length) w', Below w.heap.size w w' → Calls Tryz.prog 38 #[.slice l[k].A l[k].c.glyphs.length l[k].cap, .slice m[k].A m[k].c.glyphs.length m[k].cap] w' (Quiet (.bool (decide (l[k].c.glyphs = m[k].c.glyphs))) w')) := Lib.hid fun k h1 h2 w' hw =>
   rsamerow _ _ _ _ _ _ _ _ B w' (hz _ (List.getElem_mem h1)) ((rd.gl _ (List.getElem_mem h1)).1.below (hw.mono hB)) ((rd'.gl _ (List.getElem_mem h2)).1.below (hw.mono hB))
  have HRd := Lib.hid rd
  have HRd' := Lib.hid rd'
  generalize decide (chgs l = chgs m) = R at *
  clear rd rd' hz
  go_enter Tryz.func21, Tryz.ntmps21
  go_wp2
  go_loopw [5] (fun x wr => ∃ k : Nat, k ≤ n ∧ x = .int .i64 k ∧ Below w.heap.size w wr ∧ Hid (∀ i (h1 : i < l.length) (h2 : i < m.length), i < k → l[i].c = m[i].c)) (fun x _ => n - (intOf x).toNat)
  case atStart => exact ⟨0, Nat.zero_le _, rfl, Below.refl _ _, Lib.hid fun i _ _ h => absurd h (Nat.not_lt_zero i)⟩
  case round =>
   obtain ⟨k, hk, rfl, hb, HE⟩ := hrel
   by_cases hlt : k < n
   ·have hk1 : k < l.length := by have := HN.out; omega
    have hk2 : k < m.length := by have := HN'.out; omega
    obtain ⟨b, o, rfl, hbB, g0, g1, g2, g3, g4, g5⟩ := (HRd.out.below (hb.mono hB)).at_ hk1
    obtain ⟨b', o', rfl, hbB', g0', g1', g2', g3', g4', g5'⟩ := (HRd'.out.below (hb.mono hB)).at_ hk2
    have HF2 := Lib.hid (HF.out k hk1 hk2)
    have HS2 := Lib.hid (HS.out k hk1 hk2)
    have HE2 : l[k].c = m[k].c → Hid (∀ i (h1 : i < l.length) (h2 : i < m.length), i < k + 1 → l[i].c = m[i].c) := fun he => Lib.hid fun i h1 h2 hi => by
     rcases Nat.lt_or_ge i k with h | h
     ·exact HE.out i h1 h2 h
     ·obtain rfl : i = k := by omega
      exact he
    clear HF HS HE
    generalize l[k] = r at *
    generalize m[k] = r' at *
    obtain ⟨⟨a1, a2, a3, a4, a5, a6⟩, Ag, cg⟩ := r
    obtain ⟨⟨b1, b2, b3, b4, b5, b6⟩, Ag', cg'⟩ := r'
    dsimp only at *
    have hbs := hb.size
    have q0 : b < wr.heap.size := by omega
    have q0' : b' < wr.heap.size := by omega
    go_upto_region 6 with fail
    go_cut [6, 7] (fun v6 v7 wx => ∃ g6 g7, v6 = .pointer (some ⟨g6, 0, none⟩) ∧ v7 = .pointer (some ⟨g7, 0, none⟩) ∧ Blk wx g6 46 (chgA ⟨a1, a2, a3, a4, a5, a6⟩ Ag cg) ∧ Blk wx g7 46 (chgA ⟨b1, b2, b3, b4, b5, b6⟩ Ag' cg') ∧ Below wr.heap.size wr wx)
    case first =>
     go_region_law (fail)
     all_goals go_wp2
     all_goals go_meet
     all_goals first
      | exact ⟨_, _, rfl, rfl, ((Blk.new wr _ _).alloc _).drew, (Blk.new_ (by simp)).drew, (((Below.refl _ _).alloc (Nat.le_refl _) _).alloc (by simp) _).drew⟩
      | exact ⟨_, _, rfl, rfl, (Blk.new_ (by simp)).drew, ((Blk.new wr _ _).alloc _).drew, (((Below.refl _ _).alloc (Nat.le_refl _) _).alloc (by simp) _).drew⟩
    case rest =>
     obtain ⟨g6, g7, rfl, rfl, B6, B7, hbx⟩ := hcut
     obtain ⟨X, rfl⟩ : ∃ x : World, x = wc := ⟨_, rfl⟩
     have hb2 : Below w.heap.size w X := hb.trans (hbx.mono hbs)
     have HSX := Lib.hid (HS2.out X hb2)
     clear HS2 g0 g1 g2 g3 g4 g5 g0' g1' g2' g3' g4' g5'
     have x0 := B6.cell 0
     have x1 := B6.cell 1
     have x2 := B6.cell 2
     have x3 := B6.cell 3
     have x4 := B6.cell 4
     have x5 := B6.cell 5
     have y0 := B7.cell 0
     have y1 := B7.cell 1
     have y2 := B7.cell 2
     have y3 := B7.cell 3
     have y4 := B7.cell 4
     have y5 := B7.cell 5
     simp only [chgA, List.getElem?_toArray, List.getElem?_cons_zero, List.getElem?_cons_succ] at x0 x1 x2 x3 x4 x5 y0 y1 y2 y3 y4 y5
     by_cases e1 : a1 = b1
     ·subst e1
      by_cases e2 : a2 = b2
      ·subst e2
       by_cases e3 : a3 = b3
       ·subst e3
        by_cases e4 : a4 = b4
        ·subst e4
         by_cases e5 : a5 = b5
         ·subst e5
          by_cases e6 : a6 = b6
          ·subst e6
           rw [decide_eq_true rfl] at HSX
           have HE3 := HE2 rfl
           clear HE2 HF2 HT
           go_wp2_with (go_at_call 38; refine HSX.out.mono ?_; rintro e w5 ⟨rfl, n5, rfl⟩)
           exact ⟨⟨k + 1, by omega, by go_num, below_drewN hb2, HE3⟩, by simp [intOf]; omega⟩
          ·rw [decide_eq_false e6] at HSX
           have HD : Hid (R = false) := Lib.hid (HF2.out fun e => e6 (by injection e))
           clear HE2 HF2 HT e6
           go_wp2_with (go_at_call 38; refine HSX.out.mono ?_; rintro e w5 ⟨rfl, n5, rfl⟩)
           go_ret
           exact ⟨by rw [HD.out]; rfl, below_drewN hb2⟩
         ·have HD : Hid (R = false) := Lib.hid (HF2.out fun e => e5 (by injection e))
          have hq : (a5 != b5) = true := bne_iff_ne.2 e5
          clear HE2 HF2 HT e5
          go_wp2
          go_ret
          exact ⟨by rw [HD.out]; rfl, hb2⟩
        ·have HD : Hid (R = false) := Lib.hid (HF2.out fun e => e4 (by injection e))
         have hq : (a4 != b4) = true := bne_iff_ne.2 e4
         clear HE2 HF2 HT e4
         go_wp2
         go_ret
         exact ⟨by rw [HD.out]; rfl, hb2⟩
       ·have HD : Hid (R = false) := Lib.hid (HF2.out fun e => e3 (by injection e))
        have hq : (a3 != b3) = true := bne_iff_ne.2 e3
        clear HE2 HF2 HT e3
        go_wp2
        go_ret
        exact ⟨by rw [HD.out]; rfl, hb2⟩
      ·have HD : Hid (R = false) := Lib.hid (HF2.out fun e => e2 (by injection e))
       have hq : (a2 != b2) = true := bne_iff_ne.2 e2
       clear HE2 HF2 HT e2
       go_wp2
       go_ret
       exact ⟨by rw [HD.out]; rfl, hb2⟩
     ·have HD : Hid (R = false) := Lib.hid (HF2.out fun e => e1 (by injection e))
      have hq : (a1 != b1) = true := bne_iff_ne.2 e1
      clear HE2 HF2 HT e1
      go_wp2
      go_ret
      exact ⟨by rw [HD.out]; rfl, hb2⟩
   ·obtain rfl : k = n := by omega
    have HD : Hid (R = true) := Lib.hid (HT.out fun i h1 h2 => HE.out i h1 h2 (by have := HN.out; omega))
    go_wp2
    go_ret
    exact ⟨by rw [HD.out]; rfl, hb⟩
 ·have HD : Hid (decide (chgs l = chgs m) = false) := Lib.hid (decide_eq_false fun e => hnn (by rw [← HN.out, ← HN'.out, ← chgs_len l, e, chgs_len]))
  have hni : ((n : Int) != (n' : Int)) = true := by simp; omega
  generalize decide (chgs l = chgs m) = R at *
  go_enter Tryz.func21, Tryz.ntmps21
  go_wp2
  go_ret
  exact ⟨by rw [HD.out]; rfl, Below.refl _ _⟩
end Go.Proofs.YtejjfiipghcifaaGreatDoor
namespace Go.Proofs.YtejjfiipghcifaaGreatDoor
open Go.RowKit
set_option maxRecDepth 20000
theorem frm_az : ∀ (W : List ByteArray) (b c : Bool), frmF b W = some c → ∀ a ∈ W, azB a = true
 | [], _, _, _, a, ha => by cases ha
 | x :: W, b, c, h, a, ha => by
  rw [frmF] at h
  split at h
  ·cases h
  ·rename_i hc
   rcases List.mem_cons.1 ha with rfl | h'
   ·cases hz : azB a with
    | true => rfl
    | false => exact absurd (.inl hz) hc
   ·exact frm_az W _ c h a h'
theorem num_az {n : Int} (h1 : -999999999 ≤ n) (h2 : n ≤ 999999999) : ∀ a ∈ numI n, azB a = true := fun a ha => by
 have := ok_words h1 h2 a ha
 unfold okW at this
 simp only [Bool.and_eq_true] at this
 exact this.1.1
def ctlU : List ByteArray := [bSize, bRows, bColumns, bScroll, bLine, bTo, bUp, bDown, bColumn, bInsert, bDelete, bCursor, bVisible, bInvisible, bMore, bDone, bUpdates, bStop]
theorem ctl_az : ∀ a ∈ ctlU, azB a = true := by unfold ctlU; decide +kernel
theorem ctl1 {a : ByteArray} (h : a ∈ ctlU) : ∀ x ∈ [a], azB x = true := fun x hx => by
 rw [List.mem_singleton] at hx
 exact hx ▸ ctl_az a h
theorem az_cons {a : ByteArray} {t : List ByteArray} (h : a ∈ ctlU) (ht : ∀ x ∈ t, azB x = true) : ∀ x ∈ a :: t, azB x = true := fun x hx => by
 rcases List.mem_cons.1 hx with rfl | h'
 ·exact ctl_az _ h
 ·exact ht x h'
theorem az_app {s t : List ByteArray} (hs : ∀ x ∈ s, azB x = true) (ht : ∀ x ∈ t, azB x = true) : ∀ x ∈ s ++ t, azB x = true := fun x hx => by
 rcases List.mem_append.1 hx with h | h
 ·exact hs x h
 ·exact ht x h
theorem az_nil : ∀ x ∈ ([] : List ByteArray), azB x = true := fun x hx => by cases hx
theorem phrase_az (c : Chg) (S : Setts) (hc : chkU c = 0) : ∀ a ∈ phraseL c S, azB a = true := by
 obtain ⟨hk, hr, -, -⟩ := chk_zero hc
 obtain ⟨kind, row, col, count, til, g⟩ := c
 simp only at hk
 have hk4 : kind = 1 ∨ kind = 2 ∨ kind = 3 ∨ kind = 4 := by omega
 rcases hk4 with rfl | rfl | rfl | rfl
 ·simp [rangesU] at hr
  simp only [phraseL, if_true]
  exact az_cons (by simp [ctlU]) (az_app (num_az (by omega) (by omega)) (az_cons (by simp [ctlU]) (az_app (num_az (by omega) (by omega)) (ctl1 (by simp [ctlU])))))
 ·simp [rangesU] at hr
  have e : phraseL ⟨2, row, col, count, til, g⟩ S = bScroll :: bLine :: (numI (row + 1) ++ bTo :: (numI til ++ (if 0 < count then bUp :: numI count else bDown :: numI (-count)))) := by simp [phraseL]
  rw [e]
  refine az_cons (by simp [ctlU]) (az_cons (by simp [ctlU]) (az_app (num_az (by omega) (by omega)) (az_cons (by simp [ctlU]) (az_app (num_az (by omega) (by omega)) ?_))))
  split
  ·exact az_cons (by simp [ctlU]) (num_az (by omega) (by omega))
  ·exact az_cons (by simp [ctlU]) (num_az (by omega) (by omega))
 ·simp [rangesU] at hr
  have e : phraseL ⟨3, row, col, count, til, g⟩ S = bLine :: (numI (row + 1) ++ bColumn :: (numI (col + 1) ++ ((if 0 < count then bDelete :: numI count else []) ++ (if g = [] then [] else bInsert :: (spokenWords g S ++ [bStop]))))) := by simp [phraseL]
  rw [e]
  refine az_cons (by simp [ctlU]) (az_app (num_az (by omega) (by omega)) (az_cons (by simp [ctlU]) (az_app (num_az (by omega) (by omega)) (az_app ?_ ?_))))
  ·split
   ·exact az_cons (by simp [ctlU]) (num_az (by omega) (by omega))
   ·exact az_nil
  ·split
   ·exact az_nil
   ·exact az_cons (by simp [ctlU]) (az_app (frm_az _ _ _ (clo_words g S)) (ctl1 (by simp [ctlU])))
 ·simp [rangesU] at hr
  have e : phraseL ⟨4, row, col, count, til, g⟩ S = bCursor :: bLine :: (numI (row + 1) ++ bColumn :: (numI (col + 1) ++ [if count = 1 then bVisible else bInvisible])) := by simp [phraseL]
  rw [e]
  refine az_cons (by simp [ctlU]) (az_cons (by simp [ctlU]) (az_app (num_az (by omega) (by omega)) (az_cons (by simp [ctlU]) (az_app (num_az (by omega) (by omega)) ?_))))
  split
  ·exact ctl1 (by simp [ctlU])
  ·exact ctl1 (by simp [ctlU])
theorem end_az {n : Int} (h0 : 0 ≤ n) (h1 : n ≤ 999999999) : ∀ a ∈ endW n, azB a = true := by
 unfold endW
 split
 ·exact ctl1 (by simp [ctlU])
 ·split
  ·exact ctl1 (by simp [ctlU])
  ·exact az_cons (by simp [ctlU]) (az_app (num_az (by omega) h1) (ctl1 (by simp [ctlU])))
theorem words_az (l : List Chg) (n : Int) (S : Setts) (h0 : 0 ≤ n) (h1 : n ≤ 999999999) (h : ∀ c ∈ l, chkU c = 0) : ∀ a ∈ wordsU l n S, azB a = true := by
 unfold wordsU
 refine az_app (fun a ha => ?_) (end_az h0 h1)
 obtain ⟨c, hc, hac⟩ := List.mem_flatMap.1 ha
 exact phrase_az c S (h c hc) a hac
theorem num_range {l r : List ByteArray} {n : Int} (h : numO l = some (n, r)) : -999999999 ≤ n ∧ n ≤ 999999999 := by
 unfold numO at h
 cases hp : prefixL l with
 | none => rw [hp] at h; cases h
 | some x =>
  obtain ⟨m, k⟩ := x
  rw [hp] at h
  simp only [Option.map_some, Option.some.injEq, Prod.mk.injEq] at h
  obtain ⟨rfl, _⟩ := h
  obtain ⟨_, _, _, hnum, _⟩ := prefixL_some hp
  obtain ⟨h1, h2, _⟩ := number_some hnum
  exact ⟨h1, h2⟩
theorem end_range {l : List ByteArray} {n : Int} (h : endL l = some n) : 0 ≤ n ∧ n ≤ 999999999 := by
 unfold endL at h
 split at h
 ·split at h
  ·injection h with h; omega
  ·cases h
 ·cases hs : skO bDone l with
  | none => rw [hs] at h; cases h
  | some t =>
   rw [hs, Option.bind_some] at h
   split at h
   ·injection h with h; omega
   ·cases hn : numO t with
    | none => rw [hn] at h; cases h
    | some x =>
     obtain ⟨m, r⟩ := x
     rw [hn, Option.bind_some] at h
     simp only at h
     cases hu : skO bUpdates r with
     | none => rw [hu] at h; cases h
     | some u =>
      rw [hu, Option.bind_some] at h
      split at h
      ·rename_i hc
       injection h with h
       have := num_range hn
       omega
      ·cases h
theorem chgs_range : ∀ (f : Nat) (l : List ByteArray) (acc m : List Chg) (n : Int), (∀ c ∈ acc, chkU c = 0) → chgsL f l acc = some (m, n) → (∀ c ∈ m, chkU c = 0) ∧ 0 ≤ n ∧ n ≤ 999999999
 | 0, l, acc, m, n, _, h => by cases h
 | f + 1, l, acc, m, n, ha, h => by
  rw [chgsL] at h
  split at h
  ·cases he : endL l with
   | none => rw [he] at h; cases h
   | some k =>
    rw [he] at h
    simp only [Option.map_some, Option.some.injEq, Prod.mk.injEq] at h
    obtain ⟨rfl, rfl⟩ := h
    exact ⟨ha, end_range he⟩
  ·cases hc : chgL l with
   | none => rw [hc] at h; cases h
   | some x =>
    obtain ⟨c, r⟩ := x
    rw [hc, Option.bind_some] at h
    simp only at h
    split at h
    ·rename_i h0
     exact chgs_range f r (acc ++ [c]) m n (fun x hx => by
      rcases List.mem_append.1 hx with h' | h'
      ·exact ha x h'
      ·rw [List.mem_singleton] at h'
       exact h' ▸ h0) h
    ·cases h
theorem changes_range {l : List ByteArray} {m : List Chg} {n : Int} (h : changesU l = some (m, n)) : (∀ c ∈ m, chkU c = 0) ∧ 0 ≤ n ∧ n ≤ 999999999 := chgs_range _ _ _ _ _ (fun c hc => by cases hc) h
theorem words_inj {a b : List Chg} {m n : Int} {S T : Setts} (ha : ∀ c ∈ a, chkU c = 0) (hb : ∀ c ∈ b, chkU c = 0) (hm : 0 ≤ m ∧ m ≤ 999999999) (hn : 0 ≤ n ∧ n ≤ 999999999) (h : wordsU a m S = wordsU b n T) : a = b ∧ m = n := by
 have h1 := changes_words a m S hm.1 hm.2 ha
 have h2 := changes_words b n T hn.1 hn.2 hb
 rw [h, h2] at h1
 simp only [Option.some.injEq, Prod.mk.injEq] at h1
 exact ⟨h1.1.symm, h1.2.symm⟩
theorem words_both (a b : List Chg) (n : Int) (S : Setts) : wordsU (a ++ b) n S = (wordsU a 0 S).dropLast ++ wordsU b n S := by
 unfold wordsU
 rw [show endW 0 = [bMore] from rfl, List.dropLast_concat, List.flatMap_append, List.append_assoc]
end Go.Proofs.YtejjfiipghcifaaGreatDoor
namespace Go.Proofs.YtejjfiipghcifaaGreatDoor
open Go.RowKit
set_option maxRecDepth 20000
def NWs (r : List ByteArray) : Prop := ∀ a ∈ r, ∃ j, j < 32 ∧ wb j = a
theorem NWs.num (n : Int) (h1 : -999999999 ≤ n) (h2 : n ≤ 999999999) : NWs (numI n) := fun a ha => by
 unfold numI at ha
 obtain ⟨i, hi, rfl⟩ := List.mem_map.1 ha
 exact ⟨i, sg_words_lt n h1 h2 i hi, rfl⟩
theorem NWs.take {r : List ByteArray} (h : NWs r) (k : Nat) : NWs (r.take k) := fun a ha => h a (List.mem_of_mem_take ha)
theorem NWs.drop {r : List ByteArray} (h : NWs r) (k : Nat) : NWs (r.drop k) := fun a ha => h a (List.mem_of_mem_drop ha)
theorem NWs.hd {r : List ByteArray} (h : NWs r) {s : ByteArray} (hs : NoW s) : hdIs s r = false := by
 cases r with
 | nil => rfl
 | cons a t =>
  obtain ⟨j, hj, e⟩ := h a (by simp)
  exact hdIs_no (fun e' => hs j hj (e.trans e')) t
theorem NWs.sk {r : List ByteArray} (h : NWs r) {s : ByteArray} (hs : NoW s) : skO s r = none := by
 cases r with
 | nil => rfl
 | cons a t =>
  obtain ⟨j, hj, e⟩ := h a (by simp)
  show (if a = s then some t else none) = none
  rw [if_neg (fun e' => hs j hj (e.trans e'))]
theorem NWs.af {r : List ByteArray} (h : NWs r) {s : ByteArray} (hs : NoW s) : afO s r = none := by
 unfold afO
 rw [h.sk hs]
 rfl
theorem NWs.numO {r : List ByteArray} (h : NWs r) : Proofs.YtejjfiipghcifaaGreatDoor.numO r = none ∨ ∃ x t, Proofs.YtejjfiipghcifaaGreatDoor.numO r = some (x, t) ∧ NWs t := by
 unfold Proofs.YtejjfiipghcifaaGreatDoor.numO
 cases prefixL r with
 | none => exact .inl rfl
 | some x => exact .inr ⟨x.1, r.drop x.2, rfl, h.drop x.2⟩
def BadU (r : List ByteArray) : Prop := ∀ f acc, chgsL f r acc = none
theorem noW_ctl : ∀ a ∈ ctlU, NoW a := by unfold NoW ctlU; decide +kernel
theorem chgL_bad {r : List ByteArray} (h : ∀ s ∈ ctlU, hdIs s r = false) : chgL r = none := by
 unfold chgL
 rw [h bSize (by simp [ctlU]), if_neg (by simp), h bScroll (by simp [ctlU]), if_neg (by simp), h bLine (by simp [ctlU]), if_neg (by simp), h bCursor (by simp [ctlU]), if_neg (by simp)]
theorem bad_of {r : List ByteArray} (h : ∀ s ∈ ctlU, hdIs s r = false) : BadU r := fun f acc => by
 cases f with
 | zero => rfl
 | succ f =>
  rw [chgsL, h bMore (by simp [ctlU]), h bDone (by simp [ctlU]), if_neg (by simp), chgL_bad h]
  rfl
theorem NWs.bad {r : List ByteArray} (h : NWs r) : BadU r := bad_of fun s hs => h.hd (noW_ctl s hs)
theorem bad_nil : BadU [] := bad_of fun s _ => rfl
theorem nws_nil : NWs [] := fun a ha => by cases ha
theorem cutN {s a : ByteArray} {n : Int} (h1 : -999999999 ≤ n) (h2 : n ≤ 999999999) (ha : NoW a) (u : List ByteArray) (k : Nat) :
  afO s (s :: (numI n ++ a :: u).take k) = none ∨ (∃ x r, afO s (s :: (numI n ++ a :: u).take k) = some (x, r) ∧ NWs r) ∨ (∃ k', k = (numI n).length + k' + 1 ∧ afO s (s :: (numI n ++ a :: u).take k) = some (n, a :: u.take k')) := by
 rcases Nat.lt_or_ge (numI n).length k with h | h
 ·refine .inr (.inr ⟨k - (numI n).length - 1, by omega, ?_⟩)
  rw [show k = (numI n).length + (k - (numI n).length - 1 + 1) by omega, List.take_length_add_append, List.take_succ_cons, afO_say h1 h2 (ha.num _)]
  rw [show (numI n).length + (k - (numI n).length - 1 + 1) - (numI n).length - 1 = k - (numI n).length - 1 by omega]
 ·rw [List.take_append_of_le_length h]
  unfold afO
  rw [skO_yes, Option.bind_some]
  rcases ((NWs.num n h1 h2).take k).numO with e | ⟨x, t, e, ht⟩
  ·exact .inl e
  ·exact .inr (.inl ⟨x, t, e, ht⟩)
theorem lastN {s : ByteArray} {n : Int} (h1 : -999999999 ≤ n) (h2 : n ≤ 999999999) (k : Nat) : afO s (s :: (numI n).take k) = none ∨ ∃ x r, afO s (s :: (numI n).take k) = some (x, r) ∧ NWs r := by
 unfold afO
 rw [skO_yes, Option.bind_some]
 exact ((NWs.num n h1 h2).take k).numO
theorem find_none : ∀ (W : List ByteArray) (b c : Bool) (k : Nat), frmF b W = some c → findStop b (W.take k) = none
 | [], b, _, k, _ => by rw [List.take_nil]; cases b <;> rfl
 | a :: W, b, c, 0, _ => by rw [List.take_zero]; cases b <;> rfl
 | a :: W, b, c, k + 1, h => by
  rw [frmF] at h
  split at h
  ·cases h
  ·rename_i hc
   rw [List.take_succ_cons]
   cases b with
   | true =>
    rw [Bool.not_true, Bool.and_false] at h
    rw [findStop, find_none W false c k h]
    rfl
   | false =>
    rw [Bool.not_false, Bool.and_true] at h
    have hs : a ≠ bStop := fun e => hc (.inr ⟨e, rfl⟩)
    by_cases hw : a = bWord
    ·rw [decide_eq_true hw] at h
     rw [findStop, if_pos hw, find_none W true c k h]
     rfl
    ·rw [decide_eq_false hw] at h
     rw [findStop, if_neg hw, if_neg hs, find_none W false c k h]
     rfl
theorem text_cut (g : List Gl) (S : Setts) (k : Nat) (h : k ≤ (spokenWords g S).length) : textO ((spokenWords g S ++ [bStop]).take k) = none := by
 rw [List.take_append_of_le_length h]
 unfold textO
 rw [find_none _ _ _ _ (clo_words g S)]
 rfl
theorem del_nw {r : List ByteArray} (h : NWs r) : delL r = some (0, r) := by
 unfold delL
 rw [h.hd noW_delete, if_neg (by simp)]
theorem ins_nw {r : List ByteArray} (h : NWs r) : insL r = some ([], r) := by
 unfold insL
 rw [h.hd noW_insert, if_neg (by simp)]
theorem ins_cut (g : List Gl) (S : Setts) (k : Nat) (h : k ≤ (spokenWords g S).length) : insL (bInsert :: (spokenWords g S ++ [bStop]).take k) = none := by
 unfold insL
 rw [if_pos (hdIs_yes _ _), skO_yes, Option.bind_some, text_cut g S k h]
theorem phrase_cut (c : Chg) (S : Setts) (hc : chkU c = 0) (k : Nat) (hk' : k < (phraseL c S).length) (c' : Chg) (r : List ByteArray) (h : chgL ((phraseL c S).take k) = some (c', r)) : BadU r := by
 obtain ⟨hk, hr, -, -⟩ := chk_zero hc
 obtain ⟨kind, row, col, count, til, g⟩ := c
 simp only at hk
 have hk4 : kind = 1 ∨ kind = 2 ∨ kind = 3 ∨ kind = 4 := by omega
 have nb : ∀ {s t : ByteArray} {u : List ByteArray}, t ≠ s → ¬ hdIs s (t :: u) = true := fun h => by rw [hdIs_no h]; simp
 cases k with
 | zero => rw [List.take_zero, chgL_bad (fun s _ => rfl)] at h; cases h
 | succ k =>
 rcases hk4 with rfl | rfl | rfl | rfl
 ·simp [rangesU] at hr
  have e : phraseL ⟨1, row, col, count, til, g⟩ S = bSize :: (numI row ++ bRows :: (numI col ++ bColumns :: [])) := by simp [phraseL]
  rw [e] at h hk'
  rw [List.take_succ_cons] at h
  unfold chgL at h
  rw [if_pos (hdIs_yes _ _)] at h
  rcases cutN (s := bSize) (n := row) (by omega) (by omega) noW_rows (numI col ++ bColumns :: []) k with e1 | ⟨x, r1, e1, hn⟩ | ⟨k', hke, e1⟩
  ·rw [e1] at h; cases h
  ·rw [e1, Option.bind_some, hn.af noW_rows] at h; cases h
  ·rw [e1, Option.bind_some] at h
   simp only at h
   rcases cutN (s := bRows) (n := col) (by omega) (by omega) noW_columns [] k' with e2 | ⟨x, r1, e2, hn⟩ | ⟨k2, hke2, e2⟩
   ·rw [e2] at h; cases h
   ·rw [e2, Option.bind_some] at h
    simp only at h
    rw [hn.sk noW_columns] at h
    cases h
   ·simp only [List.length_cons, List.length_append, List.length_nil] at hk'
    omega
 ·simp [rangesU] at hr
  obtain ⟨d, m, hd, hm1, hm2, e⟩ : ∃ (d : ByteArray) (m : Int), (d = bUp ∨ d = bDown) ∧ -999999999 ≤ m ∧ m ≤ 999999999 ∧ phraseL ⟨2, row, col, count, til, g⟩ S = bScroll :: bLine :: (numI (row + 1) ++ bTo :: (numI til ++ d :: numI m)) := by
   by_cases hp : 0 < count
   ·exact ⟨bUp, count, .inl rfl, by omega, by omega, by simp [phraseL, hp]⟩
   ·exact ⟨bDown, -count, .inr rfl, by omega, by omega, by simp [phraseL, hp]⟩
  have hdn : NoW d := by rcases hd with rfl | rfl; exact noW_up; exact noW_down
  rw [e] at h
  rw [List.take_succ_cons] at h
  unfold chgL at h
  rw [if_neg (nb (by decide +kernel)), if_pos (hdIs_yes _ _), skO_yes, Option.bind_some] at h
  cases k with
  | zero => rw [List.take_zero] at h; cases h
  | succ k =>
   rw [List.take_succ_cons] at h
   rcases cutN (s := bLine) (n := row + 1) (by omega) (by omega) noW_to (numI til ++ d :: numI m) k with e1 | ⟨x, r1, e1, hn⟩ | ⟨k', hke, e1⟩
   ·rw [e1] at h; cases h
   ·rw [e1, Option.bind_some, hn.af noW_to] at h; cases h
   ·rw [e1, Option.bind_some] at h
    simp only at h
    rcases cutN (s := bTo) (n := til) (by omega) (by omega) hdn (numI m) k' with e2 | ⟨x, r1, e2, hn⟩ | ⟨k2, hke2, e2⟩
    ·rw [e2] at h; cases h
    ·rw [e2, Option.bind_some] at h
     simp only at h
     rw [hn.hd noW_down, if_neg (by simp), hn.af noW_up] at h
     cases h
    ·rw [e2, Option.bind_some] at h
     simp only at h
     rcases hd with rfl | rfl
     ·rw [if_neg (nb (by decide +kernel))] at h
      rcases lastN (s := bUp) hm1 hm2 k2 with e3 | ⟨x, r1, e3, hn⟩
      ·rw [e3] at h; cases h
      ·rw [e3, Option.bind_some] at h
       simp only at h
       split at h
       ·cases h
       ·simp only [Option.some.injEq, Prod.mk.injEq] at h
        rw [← h.2]
        exact hn.bad
     ·rw [if_pos (hdIs_yes _ _)] at h
      rcases lastN (s := bDown) hm1 hm2 k2 with e3 | ⟨x, r1, e3, hn⟩
      ·rw [e3] at h; cases h
      ·rw [e3, Option.bind_some] at h
       simp only at h
       split at h
       ·cases h
       ·simp only [Option.some.injEq, Prod.mk.injEq] at h
        rw [← h.2]
        exact hn.bad
 ·simp [rangesU] at hr
  have e : phraseL ⟨3, row, col, count, til, g⟩ S = bLine :: (numI (row + 1) ++ bColumn :: (numI (col + 1) ++ ((if 0 < count then bDelete :: numI count else []) ++ (if g = [] then [] else bInsert :: (spokenWords g S ++ [bStop]))))) := by simp [phraseL]
  rw [e] at h hk'
  rw [List.take_succ_cons] at h
  unfold chgL at h
  rw [if_neg (nb (by decide +kernel)), if_neg (nb (by decide +kernel)), if_pos (hdIs_yes _ _)] at h
  unfold spliceL at h
  rcases cutN (s := bLine) (n := row + 1) (by omega) (by omega) noW_column (numI (col + 1) ++ ((if 0 < count then bDelete :: numI count else []) ++ (if g = [] then [] else bInsert :: (spokenWords g S ++ [bStop])))) k with e1 | ⟨x, r1, e1, hn⟩ | ⟨k', hke, e1⟩
  ·rw [e1] at h; cases h
  ·rw [e1, Option.bind_some, hn.af noW_column] at h; cases h
  ·rw [e1, Option.bind_some] at h
   simp only at h
   have fin : ∀ (x : Int) (r1 : List ByteArray), NWs r1 → ((delL r1).bind fun z => (insL z.2).map fun g => ((⟨3, row + 1 - 1, x - 1, z.1, 0, g.1⟩ : Chg), g.2)) = some (c', r) → BadU r := fun x r1 hn h => by
    rw [del_nw hn, Option.bind_some] at h
    simp only at h
    rw [ins_nw hn] at h
    simp only [Option.map_some, Option.some.injEq, Prod.mk.injEq] at h
    rw [← h.2]
    exact hn.bad
   by_cases hp : 0 < count
   ·rw [if_pos hp, List.cons_append] at h
    rw [if_pos hp] at hk'
    rcases cutN (s := bColumn) (n := col + 1) (by omega) (by omega) noW_delete (numI count ++ (if g = [] then [] else bInsert :: (spokenWords g S ++ [bStop]))) k' with e2 | ⟨x, r1, e2, hn⟩ | ⟨k2, hke2, e2⟩
    ·rw [e2] at h; cases h
    ·rw [e2, Option.bind_some] at h
     exact fin x r1 hn h
    ·rw [e2, Option.bind_some] at h
     simp only at h
     unfold delL at h
     rw [if_pos (hdIs_yes _ _)] at h
     have fin2 : ∀ (x : Int) (r1 : List ByteArray), NWs r1 → ((if x < 1 then none else some (x, r1)).bind fun z => (insL z.2).map fun g => ((⟨3, row + 1 - 1, col + 1 - 1, z.1, 0, g.1⟩ : Chg), g.2)) = some (c', r) → BadU r := fun x r1 hn h => by
      split at h
      ·cases h
      ·rw [Option.bind_some] at h
       simp only at h
       rw [ins_nw hn] at h
       simp only [Option.map_some, Option.some.injEq, Prod.mk.injEq] at h
       rw [← h.2]
       exact hn.bad
     by_cases hg : g = []
     ·rw [if_pos hg, List.append_nil] at h
      rcases lastN (s := bDelete) (n := count) (by omega) (by omega) k2 with e3 | ⟨x, r1, e3, hn⟩
      ·rw [e3] at h; cases h
      ·rw [e3, Option.bind_some] at h
       exact fin2 x r1 hn h
     ·rw [if_neg hg] at h hk'
      rcases cutN (s := bDelete) (n := count) (by omega) (by omega) noW_insert (spokenWords g S ++ [bStop]) k2 with e3 | ⟨x, r1, e3, hn⟩ | ⟨k3, hke3, e3⟩
      ·rw [e3] at h; cases h
      ·rw [e3, Option.bind_some] at h
       exact fin2 x r1 hn h
      ·simp only [List.length_cons, List.length_append, List.length_nil] at hk'
       rw [e3, Option.bind_some, if_neg (by show ¬ count < 1; omega), Option.bind_some] at h
       simp only at h
       rw [ins_cut g S k3 (by omega)] at h
       cases h
   ·rw [if_neg hp, List.nil_append] at h hk'
    by_cases hg : g = []
    ·rw [if_pos hg, List.append_nil] at h
     rcases lastN (s := bColumn) (n := col + 1) (by omega) (by omega) k' with e2 | ⟨x, r1, e2, hn⟩
     ·rw [e2] at h; cases h
     ·rw [e2, Option.bind_some] at h
      exact fin x r1 hn h
    ·rw [if_neg hg] at h hk'
     rcases cutN (s := bColumn) (n := col + 1) (by omega) (by omega) noW_insert (spokenWords g S ++ [bStop]) k' with e2 | ⟨x, r1, e2, hn⟩ | ⟨k2, hke2, e2⟩
     ·rw [e2] at h; cases h
     ·rw [e2, Option.bind_some] at h
      exact fin x r1 hn h
     ·simp only [List.length_cons, List.length_append, List.length_nil] at hk'
      rw [e2, Option.bind_some] at h
      simp only at h
      unfold delL at h
      rw [if_neg (nb (by decide +kernel)), Option.bind_some] at h
      simp only at h
      rw [ins_cut g S k2 (by omega)] at h
      cases h
 ·simp [rangesU] at hr
  obtain ⟨v, hv, e⟩ : ∃ v : ByteArray, (v = bVisible ∨ v = bInvisible) ∧ phraseL ⟨4, row, col, count, til, g⟩ S = bCursor :: bLine :: (numI (row + 1) ++ bColumn :: (numI (col + 1) ++ v :: [])) := by
   by_cases hp : count = 1
   ·exact ⟨bVisible, .inl rfl, by simp [phraseL, hp]⟩
   ·exact ⟨bInvisible, .inr rfl, by simp [phraseL, hp]⟩
  have hvn : NoW v := by rcases hv with rfl | rfl; exact noW_visible; exact noW_invisible
  rw [e] at h hk'
  rw [List.take_succ_cons] at h
  unfold chgL at h
  rw [if_neg (nb (by decide +kernel)), if_neg (nb (by decide +kernel)), if_neg (nb (by decide +kernel)), if_pos (hdIs_yes _ _), skO_yes, Option.bind_some] at h
  cases k with
  | zero => rw [List.take_zero] at h; cases h
  | succ k =>
   rw [List.take_succ_cons] at h
   rcases cutN (s := bLine) (n := row + 1) (by omega) (by omega) noW_column (numI (col + 1) ++ v :: []) k with e1 | ⟨x, r1, e1, hn⟩ | ⟨k', hke, e1⟩
   ·rw [e1] at h; cases h
   ·rw [e1, Option.bind_some, hn.af noW_column] at h; cases h
   ·rw [e1, Option.bind_some] at h
    simp only at h
    rcases cutN (s := bColumn) (n := col + 1) (by omega) (by omega) hvn [] k' with e2 | ⟨x, r1, e2, hn⟩ | ⟨k2, hke2, e2⟩
    ·rw [e2] at h; cases h
    ·rw [e2, Option.bind_some] at h
     simp only at h
     rw [hn.hd noW_visible, if_neg (by simp), hn.sk noW_invisible] at h
     cases h
    ·simp only [List.length_cons, List.length_append, List.length_nil] at hk'
     omega
theorem end_cut {n : Int} (h0 : 0 ≤ n) (h1 : n ≤ 999999999) (k : Nat) (hk : k < (endW n).length) (f : Nat) (acc m : List Chg) (i : Int) (h : chgsL f ((endW n).take k) acc = some (m, i)) : 2 ≤ n ∧ k = 1 ∧ i = 1 ∧ m = acc := by
 cases k with
 | zero => rw [List.take_zero, bad_nil f acc] at h; cases h
 | succ k =>
  unfold endW at h hk
  by_cases hz : n = 0
  ·rw [if_pos hz] at hk
   simp at hk
  ·rw [if_neg hz] at h hk
   by_cases ho : n = 1
   ·rw [if_pos ho] at hk
    simp at hk
   ·rw [if_neg ho] at h hk
    rw [List.take_succ_cons] at h
    simp only [List.length_cons, List.length_append, List.length_nil] at hk
    cases f with
    | zero => cases h
    | succ f =>
     rw [chgsL, if_pos (.inr (hdIs_yes _ _))] at h
     unfold endL at h
     rw [hdIs_no (by decide +kernel), if_neg (by simp), skO_yes, Option.bind_some, List.take_append_of_le_length (by omega)] at h
     have hNW := (NWs.num n (by omega) h1).take k
     split at h
     ·rename_i ht
      simp only [Option.map_some, Option.some.injEq, Prod.mk.injEq] at h
      obtain ⟨rfl, rfl⟩ := h
      have hl := congrArg List.length ht
      rw [List.length_take, List.length_nil] at hl
      have hp : 0 < (numI n).length := by
       cases he : numI n with
       | cons _ _ => simp
       | nil =>
        have := numO_say (n := n) (by omega) h1 NoNum.nil
        rw [he] at this
        rw [show Proofs.YtejjfiipghcifaaGreatDoor.numO ([] ++ []) = none by decide +kernel] at this
        cases this
      exact ⟨by omega, by omega, rfl, rfl⟩
     ·rcases hNW.numO with e | ⟨x, r, e, hr⟩
      ·rw [e] at h; cases h
      ·rw [e, Option.bind_some] at h
       simp only at h
       rw [hr.sk noW_updates] at h
       cases h
theorem nxt_take {t : List ByteArray} (h : Nxt t) (k : Nat) (hk : 0 < k) : Nxt (t.take k) := by
 obtain ⟨a, u, rfl, ha⟩ := h
 obtain ⟨j, rfl⟩ : ∃ j, k = j + 1 := ⟨k - 1, by omega⟩
 exact ⟨a, u.take j, List.take_succ_cons, ha⟩
theorem words_nxt (l : List Chg) (S : Setts) {n : Int} (h0 : 0 ≤ n) (h1 : n ≤ 999999999) (h : ∀ c ∈ l, chkU c = 0) : Nxt (wordsU l n S) := by
 cases l with
 | nil => unfold wordsU; rw [List.flatMap_nil, List.nil_append]; exact (end_say h0 h1).2.2
 | cons d u =>
  have e2 : wordsU (d :: u) n S = phraseL d S ++ wordsU u n S := by unfold wordsU; rw [List.flatMap_cons, List.append_assoc]
  rw [e2]
  exact (phrase_nxt d S (h d (by simp)) _).1
theorem chg_alone (c : Chg) (S : Setts) (hc : chkU c = 0) (c' : Chg) (r : List ByteArray) (h : chgL (phraseL c S) = some (c', r)) : r = [] := by
 have h2 := chg_phrase' c S hc [] NoNum.nil rfl rfl
 rw [List.append_nil, h] at h2
 simp only [Option.some.injEq, Prod.mk.injEq] at h2
 exact h2.2
theorem chgs_cut (S : Setts) {n : Int} (h0 : 0 ≤ n) (h1 : n ≤ 999999999) : ∀ (l : List Chg) (k f : Nat) (acc m : List Chg) (i : Int), (∀ c ∈ l, chkU c = 0) → k < (wordsU l n S).length → chgsL f ((wordsU l n S).take k) acc = some (m, i) →
  2 ≤ n ∧ k = (l.flatMap fun c => phraseL c S).length + 1 ∧ i = 1 ∧ m = acc ++ l
 | [], k, f, acc, m, i, _, hk, h => by
  unfold wordsU at hk h
  rw [List.flatMap_nil, List.nil_append] at hk h
  obtain ⟨a, b, c, d⟩ := end_cut h0 h1 k hk f acc m i h
  exact ⟨a, by rw [List.flatMap_nil]; simpa using b, c, by rw [d, List.append_nil]⟩
 | c :: l, k, 0, acc, m, i, _, _, h => by cases h
 | c :: l, k, f + 1, acc, m, i, hl, hk, h => by
  have hc := hl c (by simp)
  have hl' : ∀ x ∈ l, chkU x = 0 := fun x hx => hl x (by simp [hx])
  have e : wordsU (c :: l) n S = phraseL c S ++ wordsU l n S := by unfold wordsU; rw [List.flatMap_cons, List.append_assoc]
  rw [e] at hk h
  have hpos := phrase_pos c S hc
  rcases Nat.lt_trichotomy k (phraseL c S).length with hlt | heq | hgt
  ·rw [List.take_append_of_le_length (by omega)] at h
   rw [chgsL] at h
   split at h
   ·rename_i hd
    exfalso
    have hp := phrase_nxt c S hc []
    rw [List.append_nil] at hp
    cases hph : phraseL c S with
    | nil => rw [hph] at hpos; simp at hpos
    | cons a u =>
     rw [hph] at hd hp
     cases k with
     | zero => rw [List.take_zero] at hd; rcases hd with hd | hd <;> cases hd
     | succ k =>
      rw [List.take_succ_cons] at hd
      have a1 := hp.2.1
      have a2 := hp.2.2
      unfold hdIs at hd a1 a2
      rcases hd with hd | hd
      ·rw [a1] at hd; cases hd
      ·rw [a2] at hd; cases hd
   ·cases hch : chgL ((phraseL c S).take k) with
    | none => rw [hch] at h; cases h
    | some x =>
     obtain ⟨c', r⟩ := x
     rw [hch, Option.bind_some] at h
     simp only at h
     split at h
     ·rw [phrase_cut c S hc k hlt c' r hch f (acc ++ [c'])] at h; cases h
     ·cases h
  ·rw [heq, List.take_left' rfl, chgsL] at h
   have hp := phrase_nxt c S hc []
   rw [List.append_nil] at hp
   rw [if_neg (by rw [hp.2.1, hp.2.2]; simp)] at h
   cases hch : chgL (phraseL c S) with
   | none => rw [hch] at h; cases h
   | some x =>
    obtain ⟨c', r⟩ := x
    rw [hch, Option.bind_some] at h
    simp only at h
    split at h
    ·rw [chg_alone c S hc c' r hch, bad_nil f (acc ++ [c'])] at h; cases h
    ·cases h
  ·obtain ⟨j, hj⟩ : ∃ j, k = (phraseL c S).length + j := ⟨k - (phraseL c S).length, by omega⟩
   subst hj
   rw [List.take_length_add_append] at h
   have hN := nxt_take (words_nxt l S h0 h1 hl') j (by omega)
   obtain ⟨_, h2, h3⟩ := phrase_nxt c S hc ((wordsU l n S).take j)
   rw [chgsL, if_neg (by rw [h2, h3]; simp), chg_phrase c S hc _ hN, Option.bind_some] at h
   simp only at h
   rw [if_pos hc] at h
   rw [List.length_append] at hk
   obtain ⟨a, b, d, g⟩ := chgs_cut S h0 h1 l j f (acc ++ [c]) m i hl' (by omega) h
   refine ⟨a, ?_, d, ?_⟩
   ·rw [List.flatMap_cons, List.length_append, b]
    omega
   ·rw [g, List.append_assoc]
    rfl
theorem changes_cut (l : List Chg) (n : Int) (S : Setts) (h0 : 0 ≤ n) (h1 : n ≤ 999999999) (h : ∀ c ∈ l, chkU c = 0) (k : Nat) (hk : k < (wordsU l n S).length) (m : List Chg) (i : Int) (hm : changesU ((wordsU l n S).take k) = some (m, i)) :
  2 ≤ n ∧ k = (l.flatMap fun c => phraseL c S).length + 1 ∧ i = 1 ∧ m = l := by
 unfold changesU at hm
 have := chgs_cut S h0 h1 l k _ [] m i h hk hm
 rwa [List.nil_append] at this
end Go.Proofs.YtejjfiipghcifaaGreatDoor
