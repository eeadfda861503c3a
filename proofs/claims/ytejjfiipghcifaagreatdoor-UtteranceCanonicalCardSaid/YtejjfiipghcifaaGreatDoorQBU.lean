/- Joined texts: Um2, Ul0, Ul1, Ul2, UtRow. -/
import Derived.Test.YtejjfiipghcifaaGreatDoorQAA
import Derived.Test.YtejjfiipghcifaaGreatDoorQAB
import Derived.Test.YtejjfiipghcifaaGreatDoorQAC
import Derived.Test.YtejjfiipghcifaaGreatDoorQAD
import Derived.Test.YtejjfiipghcifaaGreatDoorQAE
import Derived.Test.YtejjfiipghcifaaGreatDoorQAF
import Derived.Test.YtejjfiipghcifaaGreatDoorQAG
import Derived.Test.YtejjfiipghcifaaGreatDoorQAH
import Derived.Test.YtejjfiipghcifaaGreatDoorQAJ
import Derived.Test.YtejjfiipghcifaaGreatDoorQAN
import Derived.Test.YtejjfiipghcifaaGreatDoorQAO
import Derived.Test.YtejjfiipghcifaaGreatDoorQAQ
import Derived.Test.YtejjfiipghcifaaGreatDoorQAR
import Derived.Test.YtejjfiipghcifaaGreatDoorQAU
import Derived.Test.YtejjfiipghcifaaGreatDoorQAV
import Derived.Test.YtejjfiipghcifaaGreatDoorQAW
import Derived.Test.YtejjfiipghcifaaGreatDoorQBA
import Derived.Test.YtejjfiipghcifaaGreatDoorQBC
import Derived.Test.YtejjfiipghcifaaGreatDoorQBD
import Derived.Test.YtejjfiipghcifaaGreatDoorQBE
import Derived.Test.YtejjfiipghcifaaGreatDoorQBF
import Derived.Test.YtejjfiipghcifaaGreatDoorQBH
import Derived.Test.YtejjfiipghcifaaGreatDoorQBI
import Derived.Test.YtejjfiipghcifaaGreatDoorQBJ
import Derived.Test.YtejjfiipghcifaaGreatDoorQBP
import Derived.Test.YtejjfiipghcifaaGreatDoorQBQ
import Derived.Test.YtejjfiipghcifaaGreatDoorQBR
import Derived.Test.YtejjfiipghcifaaGreatDoorQBT
set_option linter.unusedVariables false
set_option linter.unusedSimpArgs false
set_option linter.unnecessarySimpa false
namespace Go.Proofs.YtejjfiipghcifaaGreatDoor
open Go.RowKit
set_option maxRecDepth 20000
theorem chgs_get {l : List ChgM} {k : Nat} (h : k < l.length) : (chgs l)[k]'(by unfold chgs; rw [List.length_map]; exact h) = l[k].c := by simp [chgs]
theorem chgs_len (l : List ChgM) : (chgs l).length = l.length := by simp [chgs]
theorem chg_ext {a b : Chg} (h1 : a.kind = b.kind) (h2 : a.row = b.row) (h3 : a.col = b.col) (h4 : a.count = b.count) (h5 : a.til = b.til) (h6 : a.glyphs = b.glyphs) : a = b := by
 cases a; cases b
 simp only at h1 h2 h3 h4 h5 h6
 subst h1 h2 h3 h4 h5 h6
 rfl
instance : DecidableEq Chg := fun a b => if h : a.kind = b.kind ∧ a.row = b.row ∧ a.col = b.col ∧ a.count = b.count ∧ a.til = b.til ∧ a.glyphs = b.glyphs then isTrue (chg_ext h.1 h.2.1 h.2.2.1 h.2.2.2.1 h.2.2.2.2.1 h.2.2.2.2.2) else isFalse fun e => h (by subst e; exact ⟨rfl, rfl, rfl, rfl, rfl, rfl⟩)
set_option maxHeartbeats 4000000 in
theorem rsame19 (l m : List ChgM) (A A' : Option Addr) (n n' c c' B : Nat) (w : World) (hn : n ≤ 1000000000) (rd : RdC w B A n l) (rd' : RdC w B A' n' m) (hB : B ≤ w.heap.size) (hz : ∀ x ∈ l, x.c.glyphs.length ≤ 1000000000) :
  Calls Tryz.prog 21 #[.slice A n c, .slice A' n' c'] w (Gives (.bool (decide (chgs l = chgs m))) w) := by
 have HN := Lib.hid rd.len
 have HN' := Lib.hid rd'.len
 by_cases hnn : n = n'
 ·subst hnn
  have HF : Hid (∀ k (h1 : k < l.length) (h2 : k < m.length), l[k].c ≠ m[k].c → decide (chgs l = chgs m) = false) := Lib.hid fun k h1 h2 h => decide_eq_false fun e => h (by
   rw [← chgs_get h1, ← chgs_get h2]
   congr 1)
  have HT : Hid ((∀ i (h1 : i < l.length) (h2 : i < m.length), l[i].c = m[i].c) → decide (chgs l = chgs m) = true) := Lib.hid fun h => decide_eq_true (List.ext_getElem (by rw [chgs_len, chgs_len, HN.out, HN'.out]) fun i h1 h2 => by
   rw [chgs_len] at h1 h2
   rw [chgs_get h1, chgs_get h2]
   exact h i h1 h2)
  have HS : Hid (∀ k (h1 : k < l.length) (h2 : k < m.length) w', Below w.heap.size w w' → Calls Tryz.prog 38 #[.slice l[k].A l[k].c.glyphs.length l[k].cap, .slice m[k].A m[k].c.glyphs.length m[k].cap] w' (Quiet (.bool (decide (l[k].c.glyphs = m[k].c.glyphs))) w')) := Lib.hid fun k h1 h2 w' hw =>
   rsamerow _ _ _ _ _ _ _ _ B w' (hz _ (List.getElem_mem h1)) ((rd.gl _ (List.getElem_mem h1)).1.below (hw.mono hB)) ((rd'.gl _ (List.getElem_mem h2)).1.below (hw.mono hB))
  have HRd := Lib.hid rd
  have HRd' := Lib.hid rd'
  generalize decide (chgs l = chgs m) = R at *
  clear rd rd' hz
  go_enter Tryz.func21, Tryz.ntmps21
  go_wp2
  go_loopw [5] (fun x wr => ∃ k : Nat, k ≤ n ∧ x = .int .i64 k ∧ Below w.heap.size w wr ∧ Hid (∀ i (h1 : i < l.length) (h2 : i < m.length), i < k → l[i].c = m[i].c)) (fun x _ => n - (intOf x).toNat)
  case atStart => exact ⟨0, Nat.zero_le _, rfl, Below.refl _ _, Lib.hid fun i _ _ h => absurd h (Nat.not_lt_zero i)⟩
  case round =>
   obtain ⟨k, hk, rfl, hb, HE⟩ := hrel
   by_cases hlt : k < n
   ·have hk1 : k < l.length := by have := HN.out; omega
    have hk2 : k < m.length := by have := HN'.out; omega
    obtain ⟨b, o, rfl, hbB, g0, g1, g2, g3, g4, g5⟩ := (HRd.out.below (hb.mono hB)).at_ hk1
    obtain ⟨b', o', rfl, hbB', g0', g1', g2', g3', g4', g5'⟩ := (HRd'.out.below (hb.mono hB)).at_ hk2
    have HF2 := Lib.hid (HF.out k hk1 hk2)
    have HS2 := Lib.hid (HS.out k hk1 hk2)
    have HE2 : l[k].c = m[k].c → Hid (∀ i (h1 : i < l.length) (h2 : i < m.length), i < k + 1 → l[i].c = m[i].c) := fun he => Lib.hid fun i h1 h2 hi => by
     rcases Nat.lt_or_ge i k with h | h
     ·exact HE.out i h1 h2 h
     ·obtain rfl : i = k := by omega
      exact he
    clear HF HS HE
    generalize l[k] = r at *
    generalize m[k] = r' at *
    obtain ⟨⟨a1, a2, a3, a4, a5, a6⟩, Ag, cg⟩ := r
    obtain ⟨⟨b1, b2, b3, b4, b5, b6⟩, Ag', cg'⟩ := r'
    dsimp only at *
    have hbs := hb.size
    have q0 : b < wr.heap.size := by omega
    have q0' : b' < wr.heap.size := by omega
    go_upto_region 6 with fail
    go_cut [6, 7] (fun v6 v7 wx => ∃ g6 g7, v6 = .pointer (some ⟨g6, 0, none⟩) ∧ v7 = .pointer (some ⟨g7, 0, none⟩) ∧ Blk wx g6 46 (chgA ⟨a1, a2, a3, a4, a5, a6⟩ Ag cg) ∧ Blk wx g7 46 (chgA ⟨b1, b2, b3, b4, b5, b6⟩ Ag' cg') ∧ Below wr.heap.size wr wx)
    case first =>
     go_region_law (fail)
     all_goals go_wp2
     all_goals go_meet
     all_goals first
      | exact ⟨_, _, rfl, rfl, ((Blk.new wr _ _).alloc _).drew, (Blk.new_ (by simp)).drew, (((Below.refl _ _).alloc (Nat.le_refl _) _).alloc (by simp) _).drew⟩
      | exact ⟨_, _, rfl, rfl, (Blk.new_ (by simp)).drew, ((Blk.new wr _ _).alloc _).drew, (((Below.refl _ _).alloc (Nat.le_refl _) _).alloc (by simp) _).drew⟩
    case rest =>
     obtain ⟨g6, g7, rfl, rfl, B6, B7, hbx⟩ := hcut
     obtain ⟨X, rfl⟩ : ∃ x : World, x = wc := ⟨_, rfl⟩
     have hb2 : Below w.heap.size w X := hb.trans (hbx.mono hbs)
     have HSX := Lib.hid (HS2.out X hb2)
     clear HS2 g0 g1 g2 g3 g4 g5 g0' g1' g2' g3' g4' g5'
     have x0 := B6.cell 0
     have x1 := B6.cell 1
     have x2 := B6.cell 2
     have x3 := B6.cell 3
     have x4 := B6.cell 4
     have x5 := B6.cell 5
     have y0 := B7.cell 0
     have y1 := B7.cell 1
     have y2 := B7.cell 2
     have y3 := B7.cell 3
     have y4 := B7.cell 4
     have y5 := B7.cell 5
     simp only [chgA, List.getElem?_toArray, List.getElem?_cons_zero, List.getElem?_cons_succ] at x0 x1 x2 x3 x4 x5 y0 y1 y2 y3 y4 y5
     by_cases e1 : a1 = b1
     ·subst e1
      by_cases e2 : a2 = b2
      ·subst e2
       by_cases e3 : a3 = b3
       ·subst e3
        by_cases e4 : a4 = b4
        ·subst e4
         by_cases e5 : a5 = b5
         ·subst e5
          by_cases e6 : a6 = b6
          ·subst e6
           rw [decide_eq_true rfl] at HSX
           have HE3 := HE2 rfl
           clear HE2 HF2 HT
           go_wp2_with (go_at_call 38; refine HSX.out.mono ?_; rintro e w5 ⟨rfl, n5, rfl⟩)
           exact ⟨⟨k + 1, by omega, by go_num, below_drewN hb2, HE3⟩, by simp [intOf]; omega⟩
          ·rw [decide_eq_false e6] at HSX
           have HD : Hid (R = false) := Lib.hid (HF2.out fun e => e6 (by injection e))
           clear HE2 HF2 HT e6
           go_wp2_with (go_at_call 38; refine HSX.out.mono ?_; rintro e w5 ⟨rfl, n5, rfl⟩)
           go_ret
           exact ⟨by rw [HD.out]; rfl, below_drewN hb2⟩
         ·have HD : Hid (R = false) := Lib.hid (HF2.out fun e => e5 (by injection e))
          have hq : (a5 != b5) = true := bne_iff_ne.2 e5
          clear HE2 HF2 HT e5
          go_wp2
          go_ret
          exact ⟨by rw [HD.out]; rfl, hb2⟩
        ·have HD : Hid (R = false) := Lib.hid (HF2.out fun e => e4 (by injection e))
         have hq : (a4 != b4) = true := bne_iff_ne.2 e4
         clear HE2 HF2 HT e4
         go_wp2
         go_ret
         exact ⟨by rw [HD.out]; rfl, hb2⟩
       ·have HD : Hid (R = false) := Lib.hid (HF2.out fun e => e3 (by injection e))
        have hq : (a3 != b3) = true := bne_iff_ne.2 e3
        clear HE2 HF2 HT e3
        go_wp2
        go_ret
        exact ⟨by rw [HD.out]; rfl, hb2⟩
      ·have HD : Hid (R = false) := Lib.hid (HF2.out fun e => e2 (by injection e))
       have hq : (a2 != b2) = true := bne_iff_ne.2 e2
       clear HE2 HF2 HT e2
       go_wp2
       go_ret
       exact ⟨by rw [HD.out]; rfl, hb2⟩
     ·have HD : Hid (R = false) := Lib.hid (HF2.out fun e => e1 (by injection e))
      have hq : (a1 != b1) = true := bne_iff_ne.2 e1
      clear HE2 HF2 HT e1
      go_wp2
      go_ret
      exact ⟨by rw [HD.out]; rfl, hb2⟩
   ·obtain rfl : k = n := by omega
    have HD : Hid (R = true) := Lib.hid (HT.out fun i h1 h2 => HE.out i h1 h2 (by have := HN.out; omega))
    go_wp2
    go_ret
    exact ⟨by rw [HD.out]; rfl, hb⟩
 ·have HD : Hid (decide (chgs l = chgs m) = false) := Lib.hid (decide_eq_false fun e => hnn (by rw [← HN.out, ← HN'.out, ← chgs_len l, e, chgs_len]))
  have hni : ((n : Int) != (n' : Int)) = true := by simp; omega
  generalize decide (chgs l = chgs m) = R at *
  go_enter Tryz.func21, Tryz.ntmps21
  go_wp2
  go_ret
  exact ⟨by rw [HD.out]; rfl, Below.refl _ _⟩
def SU : Setts := ⟨false, false, 0⟩
def eCh : Chg := ⟨3, 4, 0, 0, 0, [⟨⟨#[111]⟩, false, 0⟩, ⟨⟨#[107]⟩, false, 0⟩]⟩
def exW41 : List ByteArray := [bLine, ⟨#[102, 105, 118, 101]⟩, bColumn, ⟨#[111, 110, 101]⟩, bInsert, ⟨#[111, 107]⟩, bStop, bDone]
theorem eCh_ok : chkU eCh = 0 := by decide +kernel
theorem eCh_words : wordsU [eCh] 1 SU = exW41 := by decide +kernel
theorem exW41_size : ∀ s ∈ exW41, s.size ≤ 1000 := by decide +kernel
theorem eCh_back : changesU exW41 = some ([eCh], 1) := by kernel_rfl
theorem WdR.own {w : World} {base n c : Nat} {A : Option Addr} {l : List ByteArray} (h : w.ownsRow base 9 1 (.slice A n c) n (sv l)) (hs : ∀ s ∈ l, s.size ≤ 1000) : WdR w w.heap.size l A n c := by
 have hl : l.length = n := by have := (Rd.of_own h).1; rw [sv_len] at this; omega
 exact ⟨hl, (own_caps h).1, (own_caps h).2, Rd.of_own h, hs⟩
theorem WdR.more {w : World} {B B' : Nat} {l : List ByteArray} {A : Option Addr} {n c : Nat} (h : WdR w B l A n c) (hb : B ≤ B') : WdR w B' l A n c := ⟨h.len, h.cap, h.max, h.rd.more hb, h.sz⟩
theorem exW41_rd (w : World) : Rd (w.alloc (.cells #[.string ⟨#[108, 105, 110, 101]⟩, .string ⟨#[102, 105, 118, 101]⟩, .string ⟨#[99, 111, 108, 117, 109, 110]⟩, .string ⟨#[111, 110, 101]⟩, .string ⟨#[105, 110, 115, 101, 114, 116]⟩, .string ⟨#[111, 107]⟩, .string ⟨#[115, 116, 111, 112]⟩, .string ⟨#[100, 111, 110, 101]⟩] 9)) (w.heap.size + 1) 1 (some ⟨w.heap.size, 0, none⟩) 8 (sv exW41) := rd_built (xs := sv exW41) rfl rfl
def ExI (w X : World) : Prop := RdC X X.heap.size (some ⟨w.heap.size + 1, 0, none⟩) 1 [⟨eCh, some ⟨w.heap.size, 0, none⟩, 2⟩] ∧ Below w.heap.size w X
theorem ExI.on {w X Y : World} (h : ExI w X) (hb : Below X.heap.size X Y) : ExI w Y := ⟨(h.1.below hb).more hb.size, h.2.trans (hb.mono h.2.size)⟩
theorem ExI.new (w : World) : ExI w ((w.alloc (.cells (encGs eCh.glyphs).toArray 48)).alloc (.cells (encC ⟨eCh, some ⟨w.heap.size, 0, none⟩, 2⟩).toArray 46)) := by
 have hr : Rd (w.alloc (.cells (encGs eCh.glyphs).toArray 48)) (w.heap.size + 1) 3 (some ⟨w.heap.size, 0, none⟩) 2 (encGs eCh.glyphs) := rd_built rfl rfl
 have hb2 : Below (w.heap.size + 1) (w.alloc (.cells (encGs eCh.glyphs).toArray 48)) ((w.alloc (.cells (encGs eCh.glyphs).toArray 48)).alloc (.cells (encC ⟨eCh, some ⟨w.heap.size, 0, none⟩, 2⟩).toArray 46)) := (Below.refl _ _).alloc (by simp) _
 refine ⟨⟨?_, fun x hx => ?_⟩, ((Below.refl _ _).alloc (Nat.le_refl _) _).alloc (by simp) _⟩
 ·exact Rd.more (B := w.heap.size + 1 + 1) (rd_built (xs := encC ⟨eCh, some ⟨w.heap.size, 0, none⟩, 2⟩) (by simp) rfl) (by simp)
 ·rw [List.mem_singleton] at hx
  subst hx
  exact ⟨(hr.below hb2).more (by simp), (by show 2 ≤ 2; decide), (by show 2 ≤ maxLen; decide)⟩
set_option maxHeartbeats 4000000 in
theorem awake41_ (w : World) (hg : Gd w) : Calls Tryz.prog 12 #[] w (Gives (.bool true) w) := by
 have HW : Hid (∀ X, ExI w X → Calls Tryz.prog 13 #[.slice (some ⟨w.heap.size + 1, 0, none⟩) 1 1, .int .i64 1, stV 100 false false 0 false 40] X (GivesOwn 9 1 okPair X 8 (sv exW41))) := Lib.hid fun X hX => by
  have hg' := hg.below hX.2
  have hsm : SmC [⟨eCh, some ⟨w.heap.size, 0, none⟩, 2⟩] := fun x hx => by
   rw [List.mem_singleton] at hx
   subst hx
   exact ⟨(by show 2 ≤ 1000000000; decide), fun g hg => by simp only [eCh, List.mem_cons, List.not_mem_nil, or_false] at hg; rcases hg with rfl | rfl <;> decide⟩
  have h := uwords_ _ _ 1 1 1 100 false false 0 false 40 X (by decide) hX.1 hsm hg'.1 hg'.2.1 hg'.2.2
  refine h.mono ?_
  intro e w' h
  have h0 : wErr [⟨eCh, some ⟨w.heap.size, 0, none⟩, 2⟩] 1 100 0 40 = 0 := by
   have hc : chkAll [⟨eCh, some ⟨w.heap.size, 0, none⟩, 2⟩] = 0 := chkAll_zero.2 fun c hc => by
    have hc' : c ∈ [eCh] := hc
    rw [List.mem_singleton] at hc'
    rw [hc']
    exact eCh_ok
   unfold wErr
   rw [show setE 100 0 40 = 0 by decide +kernel, hc]
   rfl
  unfold UwR at h
  rw [if_pos h0, show chgs [⟨eCh, some ⟨w.heap.size, 0, none⟩, 2⟩] = [eCh] from rfl, show (⟨false, false, 0⟩ : Setts) = SU from rfl, eCh_words] at h
  exact h
 have HC : Hid (∀ X A c, Gd X → WdR X X.heap.size exW41 A 8 c → Calls Tryz.prog 19 #[.slice A 8 c] X (ChR (some ([eCh], 1)) X)) := Lib.hid fun X A c hg hX => by
  have := uchanges_ exW41 A 8 c X hX (by decide) hg.1 hg.2.1 hg.2.2
  rwa [eCh_back] at this
 have HX := ExI.new w
 have HG := Lib.hid hg
 clear hg
 go_enter Tryz.func12, Tryz.ntmps12
 go_upto_region 2 with fail
 refine wp_fg (ExI w) HX ?_
 clear HX
 intro X hX
 go_upto_region 3 with (go_at_call 13; refine (HW.out _ hX).mono ?_; rintro e w1 ⟨A1, c1, rfl, ho1, hb1⟩)
 have HC1 := Lib.hid (HC.out w1 A1 c1 (HG.out.below (hX.2.trans (hb1.mono hX.2.size))) (WdR.own ho1 exW41_size))
 have hX1 := hX.on hb1
 go_upto_region 4 with (go_at_call 19; refine HC1.out.mono ?_; rintro e w2 ⟨hb2, out, A2, c2, hout, rfl, ho2, hgl2⟩)
 have hX2 := hX1.on hb2
 have hl1 : out.length = 1 := by rw [← chgs_len, hout]; rfl
 have hrc : RdC w2 w2.heap.size A2 out.length out := hgl2.rdc ho2
 have HSm : Hid (∀ w', Below w2.heap.size w2 w' → Calls Tryz.prog 21 #[.slice A2 out.length c2, .slice (some ⟨w.heap.size + 1, 0, none⟩) 1 1] w' (Gives (.bool true) w')) := Lib.hid fun w' hw => by
  have h := rsame19 out [⟨eCh, some ⟨w.heap.size, 0, none⟩, 2⟩] A2 (some ⟨w.heap.size + 1, 0, none⟩) out.length 1 c2 1 w2.heap.size w' (by omega) (hrc.below hw) (hX2.1.below hw) hw.size (fun x hx => by
   have : x.c ∈ chgs out := List.mem_map_of_mem hx
   rw [hout, List.mem_singleton] at this
   rw [this]
   decide)
  rwa [decide_eq_true (show chgs out = chgs [⟨eCh, some ⟨w.heap.size, 0, none⟩, 2⟩] from hout)] at h
 have how := own_below ho1 hb2
 have hbw := hX2.2
 have HSW : Hid (Calls Tryz.prog 15 #[.slice A1 8 c1, .slice (some ⟨w2.heap.size, 0, none⟩) 8 8] (w2.alloc (.cells #[.string ⟨#[108, 105, 110, 101]⟩, .string ⟨#[102, 105, 118, 101]⟩, .string ⟨#[99, 111, 108, 117, 109, 110]⟩, .string ⟨#[111, 110, 101]⟩, .string ⟨#[105, 110, 115, 101, 114, 116]⟩, .string ⟨#[111, 107]⟩, .string ⟨#[115, 116, 111, 112]⟩, .string ⟨#[100, 111, 110, 101]⟩] 9)) (Quiet (.bool true) (w2.alloc (.cells #[.string ⟨#[108, 105, 110, 101]⟩, .string ⟨#[102, 105, 118, 101]⟩, .string ⟨#[99, 111, 108, 117, 109, 110]⟩, .string ⟨#[111, 110, 101]⟩, .string ⟨#[105, 110, 115, 101, 114, 116]⟩, .string ⟨#[111, 107]⟩, .string ⟨#[115, 116, 111, 112]⟩, .string ⟨#[100, 111, 110, 101]⟩] 9)))) := Lib.hid (same_t exW41 exW41 rfl _ _ _ _ _ _ _ _ _ rfl rfl (Rd.of_own (own_below how ((Below.refl _ _).alloc (Nat.le_refl _) _))) (exW41_rd w2) (by decide) (by decide))
 clear HW HC HC1 HG hX hX1 hX2 hrc hgl2 ho2 hl1 hout ho1
 go_wp2_with (first
  | (go_at_call 15; refine HSW.out.mono ?_; rintro e w3 ⟨rfl, n3, rfl⟩)
  | (go_at_call 21; refine (HSm.out _ (below_drewN ((Below.refl _ _).alloc (Nat.le_refl _) _))).mono ?_; rintro e w4 ⟨rfl, hb4⟩))
 go_ret
 exact ⟨rfl, (below_drewN (hbw.alloc hbw.size _)).trans (hb4.mono (by simp; have := hbw.size; omega))⟩
theorem numI_size (n : Int) (h1 : -999999999 ≤ n) (h2 : n ≤ 999999999) : ∀ s ∈ numI n, s.size ≤ 1000 := fun s hs => by
 unfold numI at hs
 obtain ⟨j, hj, rfl⟩ := List.mem_map.1 hs
 have h := sg_words_lt n h1 h2 j hj
 have : ∀ i, i < 32 → (wb i).size ≤ 1000 := by decide +kernel
 exact this j h
def SzW (l : List ByteArray) : Prop := ∀ s ∈ l, s.size ≤ 1000
theorem SzW.nil : SzW [] := fun s hs => by cases hs
theorem SzW.cons {a : ByteArray} {l : List ByteArray} (h : a.size ≤ 1000) (hl : SzW l) : SzW (a :: l) := fun s hs => by
 rcases List.mem_cons.1 hs with rfl | hs
 ·exact h
 ·exact hl s hs
theorem SzW.app {a b : List ByteArray} (h : SzW a) (hl : SzW b) : SzW (a ++ b) := fun s hs => by
 rcases List.mem_append.1 hs with hs | hs
 ·exact h s hs
 ·exact hl s hs
theorem phrase_bound (c : Chg) (S : Setts) (hc : chkU c = 0) (hg : c.glyphs.length ≤ 60) (hz : ∀ x ∈ c.glyphs, x.text.size ≤ 40) : (phraseL c S).length ≤ 1301 * c.glyphs.length + 60 ∧ SzW (phraseL c S) := by
 have hb := bd_from S c.glyphs.length ⟨[], 0, 0, false⟩ c.glyphs (Nat.le_refl _) hg hz (fun s hs => by cases hs)
 have hw : (spokenWords c.glyphs S).length ≤ 1301 * c.glyphs.length := by
  have := hb.1
  simp only [List.length_nil, Nat.zero_add] at this
  exact this
 have hs : SzW (spokenWords c.glyphs S) := hb.2
 have hr := (chk_gl hc).2.2.2
 obtain ⟨kind, row, col, count, til, g⟩ := c
 simp only at hw hs
 unfold rangesU at hr
 simp only at hr
 have n1 := numI_le row
 have n2 := numI_le col
 have n3 := numI_le (row + 1)
 have n4 := numI_le (col + 1)
 have n5 := numI_le til
 have n6 := numI_le count
 have n7 := numI_le (-count)
 refine ⟨?_, ?_⟩
 ·unfold phraseL
  simp only
  (repeat' split) <;> simp only [List.length_append, List.length_cons, List.length_nil] <;> omega
 ·unfold phraseL
  simp only
  split
  ·rename_i h1
   rw [if_pos h1, decide_eq_true_eq] at hr
   exact SzW.cons (by decide) ((SzW.app (numI_size _ (by omega) (by omega)) (SzW.cons (by decide) (SzW.app (numI_size _ (by omega) (by omega)) (SzW.cons (by decide) SzW.nil)))))
  ·rename_i h1
   rw [if_neg h1] at hr
   split
   ·rename_i h2
    rw [if_pos h2, decide_eq_true_eq] at hr
    refine SzW.cons (by decide) (SzW.cons (by decide) (SzW.app (numI_size _ (by omega) (by omega)) (SzW.cons (by decide) (SzW.app (numI_size _ (by omega) (by omega)) ?_))))
    split
    ·exact SzW.cons (by decide) (numI_size _ (by omega) (by omega))
    ·exact SzW.cons (by decide) (numI_size _ (by omega) (by omega))
   ·rename_i h2
    rw [if_neg h2] at hr
    split
    ·rename_i h3
     rw [if_pos h3, decide_eq_true_eq] at hr
     refine SzW.cons (by decide) (SzW.app (numI_size _ (by omega) (by omega)) (SzW.cons (by decide) (SzW.app (numI_size _ (by omega) (by omega)) (SzW.app ?_ ?_))))
     ·split
      ·exact SzW.cons (by decide) (numI_size _ (by omega) (by omega))
      ·exact SzW.nil
     ·split
      ·exact SzW.nil
      ·exact SzW.cons (by decide) (SzW.app hs (SzW.cons (by decide) SzW.nil))
    ·rename_i h3
     rw [if_neg h3, decide_eq_true_eq] at hr
     split
     ·refine SzW.cons (by decide) (SzW.cons (by decide) (SzW.app (numI_size _ (by omega) (by omega)) (SzW.cons (by decide) (SzW.app (numI_size _ (by omega) (by omega)) ?_))))
      split <;> exact SzW.cons (by decide) SzW.nil
     ·exact SzW.nil
theorem end_bound {n : Int} (h0 : 0 ≤ n) (h1 : n ≤ 999999999) : (endW n).length ≤ 20 ∧ SzW (endW n) := by
 have := numI_le n
 unfold endW
 split
 ·exact ⟨by simp, SzW.cons (by decide) SzW.nil⟩
 ·split
  ·exact ⟨by simp, SzW.cons (by decide) SzW.nil⟩
  ·exact ⟨by simp only [List.length_append, List.length_cons, List.length_nil]; omega, SzW.cons (by decide) (SzW.app (numI_size _ (by omega) (by omega)) (SzW.cons (by decide) SzW.nil))⟩
theorem flat_bound (S : Setts) : ∀ l : List Chg, (∀ c ∈ l, chkU c = 0 ∧ c.glyphs.length ≤ 30 ∧ ∀ x ∈ c.glyphs, x.text.size ≤ 40) → (l.flatMap fun c => phraseL c S).length ≤ 39090 * l.length ∧ SzW (l.flatMap fun c => phraseL c S)
 | [], _ => ⟨by simp, SzW.nil⟩
 | c :: t, h => by
  obtain ⟨h1, h2, h3⟩ := h c (by simp)
  have hp := phrase_bound c S h1 (by omega) h3
  have ih := flat_bound S t fun x hx => h x (List.mem_cons_of_mem _ hx)
  rw [List.flatMap_cons, List.length_append, List.length_cons]
  exact ⟨by omega, SzW.app hp.2 ih.2⟩
theorem words_small {l : List Chg} {n : Int} (S : Setts) (h0 : 0 ≤ n) (h1 : n ≤ 999999999) (hl : l.length ≤ 6) (h : ∀ c ∈ l, chkU c = 0 ∧ c.glyphs.length ≤ 30 ∧ ∀ x ∈ c.glyphs, x.text.size ≤ 40) : (wordsU l n S).length ≤ 400000 ∧ SzW (wordsU l n S) := by
 have hf := flat_bound S l h
 have he := end_bound h0 h1
 unfold wordsU
 rw [List.length_append]
 have : 39090 * l.length ≤ 39090 * 6 := Nat.mul_le_mul_left _ hl
 exact ⟨by omega, SzW.app hf.2 he.2⟩
theorem bothG {P : Program} {f : FuncId} {args : Array Value} {w X : World} {v : Value} (h : Calls P f args X (Gives v X)) (hb : Below w.heap.size w X) : Calls P f args X fun e X' => e = .returned v ∧ Below w.heap.size w X' ∧ Below X.heap.size X X' :=
 h.mono fun _ _ ⟨h1, h2⟩ => ⟨h1, hb.trans (h2.mono hb.size), h2⟩
theorem bothQ {P : Program} {f : FuncId} {args : Array Value} {w X : World} {v : Value} (h : Calls P f args X (Quiet v X)) (hb : Below w.heap.size w X) : Calls P f args X fun e X' => e = .returned v ∧ Below w.heap.size w X' ∧ Below X.heap.size X X' :=
 bothG (h.mono fun _ _ h => h.gives) hb
theorem sm_of {l : List ChgM} (h : fineC l = true) : SmC l := fun x hx => by
 have := (fine_some h).2 x hx
 exact ⟨by omega, fun g hg => by have := this.2 g hg; omega⟩
theorem k_words {l : List ChgM} {A : Option Addr} {n c : Nat} {m : Int} {r : Int} {d sp : Bool} {q : Int} {co : Bool} {k : Int} {w : World} (hg : Gd w) (hf : fineC l = true) (rd : RdC w w.heap.size A n l) (X : World) (hb : Below w.heap.size w X) :
  Calls Tryz.prog 13 #[.slice A n c, .int .i64 m, stV r d sp q co k] X fun e X' => UwR l m r q k ⟨d, sp, q⟩ X e X' ∧ Below w.heap.size w X' ∧ Below X.heap.size X X' := by
 have hg' := hg.below hb
 refine (uwords_ l A n c m r d sp q co k X (by have := rd.len; have := (fine_some hf).1; omega) ((rd.below hb).more hb.size) (sm_of hf) hg'.1 hg'.2.1 hg'.2.2).mono fun e X' h => ⟨h, ?_⟩
 have hx : Below X.heap.size X X' := by
  unfold UwR at h
  split at h
  ·obtain ⟨_, _, _, _, h⟩ := h; exact h
  ·exact h.2
 exact ⟨hb.trans (hx.mono hb.size), hx⟩
theorem wErr_ok {l : List ChgM} {m r q k : Int} (h : wErr l m r q k = 0) : setE r q k = 0 ∧ 0 ≤ m ∧ m ≤ 999999999 ∧ chkAll l = 0 := by
 unfold wErr at h
 split at h
 ·cases h
 ·rename_i h1
  split at h
  ·cases h
  ·rw [not_or] at h1
   exact ⟨Decidable.not_not.1 h1.1, by omega, by omega, h⟩
theorem fine_chk {l : List ChgM} (hf : fineC l = true) (hc : chkAll l = 0) : (chgs l).length ≤ 6 ∧ ∀ c ∈ chgs l, chkU c = 0 ∧ c.glyphs.length ≤ 30 ∧ ∀ x ∈ c.glyphs, x.text.size ≤ 40 := by
 have h1 := fine_some hf
 refine ⟨by rw [chgs_len]; exact h1.1, fun c hcm => ⟨chkAll_zero.1 hc c hcm, ?_⟩⟩
 obtain ⟨x, hx, rfl⟩ := List.mem_map.1 hcm
 exact h1.2 x hx
theorem k_wordsT {l : List ChgM} {A : Option Addr} {n c : Nat} {m : Int} {r : Int} {d sp : Bool} {q : Int} {co : Bool} {k : Int} {w : World} (hg : Gd w) (hf : fineC l = true) (rd : RdC w w.heap.size A n l) (hE : wErr l m r q k = 0) (X : World) (hb : Below w.heap.size w X) :
  Calls Tryz.prog 13 #[.slice A n c, .int .i64 m, stV r d sp q co k] X fun e X' => (∃ A2 c2, e = .returned (.tuple #[.slice A2 (wordsU (chgs l) m ⟨d, sp, q⟩).length c2, .int .i64 0]) ∧ X'.ownsRow X.heap.size 9 1 (.slice A2 (wordsU (chgs l) m ⟨d, sp, q⟩).length c2) (wordsU (chgs l) m ⟨d, sp, q⟩).length (sv (wordsU (chgs l) m ⟨d, sp, q⟩))) ∧ Below w.heap.size w X' ∧ Below X.heap.size X X' :=
 (k_words hg hf rd X hb).mono fun e X' ⟨h, h'⟩ => by
  unfold UwR at h
  rw [if_pos hE] at h
  obtain ⟨A2, c2, he, ho, _⟩ := h
  exact ⟨⟨A2, c2, he, ho⟩, h'⟩
theorem k_wordsF {l : List ChgM} {A : Option Addr} {n c : Nat} {m : Int} {r : Int} {d sp : Bool} {q : Int} {co : Bool} {k : Int} {w : World} (hg : Gd w) (hf : fineC l = true) (rd : RdC w w.heap.size A n l) (hE : ¬ wErr l m r q k = 0) (X : World) (hb : Below w.heap.size w X) :
  Calls Tryz.prog 13 #[.slice A n c, .int .i64 m, stV r d sp q co k] X fun e X' => e = .returned (.tuple #[.slice none 0 0, .int .i64 (wErr l m r q k)]) ∧ Below w.heap.size w X' ∧ Below X.heap.size X X' :=
 (k_words hg hf rd X hb).mono fun e X' ⟨h, h'⟩ => by
  unfold UwR at h
  rw [if_neg hE] at h
  exact ⟨h.1, h'⟩
end Go.Proofs.YtejjfiipghcifaaGreatDoor
namespace Go.Proofs.YtejjfiipghcifaaGreatDoor
open Go.ChangeShapes Go.WideShapes Go.ChangeAt Go.RowKit Go.Deep
def ChgW (x : ChgM) : Prop := (Lit.int .i64 x.c.kind).wf = true ∧ (Lit.int .i64 x.c.row).wf = true ∧ (Lit.int .i64 x.c.col).wf = true ∧ (Lit.int .i64 x.c.count).wf = true ∧ (Lit.int .i64 x.c.til).wf = true ∧ ∀ g ∈ x.c.glyphs, g.text.size ≤ maxLen ∧ (Lit.int .i64 g.style).wf = true
theorem open_chgs {H : Type} {enc : TypeId × Value → H} {P : Program} {w : World} {t e eg : TypeId} {f0 f1 f2 f3 f4 f5 h0 h1 h2 : Field} {A : Option Addr} {len cap : Nat} {d : DataW H} {p : List MemPlace}
  (ht : P.underlying t = some (.slice e)) (he : P.underlying e = some (.struct #[f0, f1, f2, f3, f4, f5])) (ce : P.cellsOf e = 6)
  (ho : [f0.offset, f1.offset, f2.offset, f3.offset, f4.offset, f5.offset] = [0, 1, 2, 3, 4, 5])
  {ti tg : TypeId} (hti : P.underlying ti = some (.int .i64)) (hci : P.cellsOf ti = 1) (htg : P.underlying tg = some (.slice eg)) (hcg : P.cellsOf tg = 1)
  (hty : f0.type = ti ∧ f1.type = ti ∧ f2.type = ti ∧ f3.type = ti ∧ f4.type = ti ∧ f5.type = tg)
  (heg : P.underlying eg = some (.struct #[h0, h1, h2])) (ceg : P.cellsOf eg = 3) (hog : [h0.offset, h1.offset, h2.offset] = [0, 1, 2])
  (hg0 : P.underlying h0.type = some .string ∧ P.cellsOf h0.type = 1) (hg1 : P.underlying h1.type = some .bool ∧ P.cellsOf h1.type = 1) (hg2 : P.underlying h2.type = some (.int .i64) ∧ P.cellsOf h2.type = 1)
  (h : DataW.Trod enc P w 0 (fun _ => true) true t (.slice A len cap) d p) :
  ∃ l : List ChgM, l.length = len ∧ len ≤ cap ∧ cap ≤ maxLen ∧ RdC w w.heap.size A len l ∧ ∀ x ∈ l, ChgW x := by
 obtain ⟨fuel, hf⟩ := h
 simp only [List.cons.injEq, and_true] at ho
 obtain ⟨o0, o1, o2, o3, o4, o5⟩ := ho
 obtain ⟨t0, t1, t2, t3, t4, t5⟩ := hty
 rcases open_slice ht hf with ⟨hcs, _⟩ | ⟨a, len', cap', m, n, D, Pl, hcs', _, hl, hm, hmm, _, hx⟩
 ·simp [Value.cells] at hcs
  obtain ⟨rfl, rfl, rfl⟩ := hcs
  exact ⟨[], rfl, Nat.le_refl _, by unfold maxLen; omega, ⟨Rd.none_, fun x hx => by cases hx⟩, fun s hs => by cases hs⟩
 ·simp [Value.cells] at hcs'
  obtain ⟨rfl, rfl, rfl⟩ := hcs'
  simp only [if_true] at hmm
  have each : ∀ i, i < m → ∃ r : ChgM, (∀ j u, (encC r)[j]? = some u → w.cell? (a.add (i * 6 + j)) = some u) ∧ (Rd w w.heap.size 3 r.A r.c.glyphs.length (encGs r.c.glyphs) ∧ r.c.glyphs.length ≤ r.cap ∧ r.cap ≤ maxLen) ∧ ChgW r := by
   intro i hi
   obtain ⟨cs', h1', h2'⟩ := hx i hi
   rw [ce] at h1'
   obtain ⟨_, hlen, hcell⟩ := World.cells?_some h1'
   obtain ⟨xs, k, hk, hxy, _, hxl, hfl⟩ := DataW.trod_struct he h2'
   match cs', hlen with
   | [v0, v1, v2, v3, v4, v5], _ =>
    match xs, hxl with
    | [y0, y1, y2, y3, y4, y5], _ =>
     have g0 := hfl 0 f0 rfl
     have g1 := hfl 1 f1 rfl
     have g2 := hfl 2 f2 rfl
     have g3 := hfl 3 f3 rfl
     have g4 := hfl 4 f4 rfl
     have g5 := hfl 5 f5 rfl
     rw [o0, t0, hci] at g0
     rw [o1, t1, hci] at g1
     rw [o2, t2, hci] at g2
     rw [o3, t3, hci] at g3
     rw [o4, t4, hci] at g4
     rw [o5, t5, hcg] at g5
     obtain ⟨n0, e0, _, w0⟩ := DataW.trod_int hti g0
     obtain ⟨n1, e1, _, w1⟩ := DataW.trod_int hti g1
     obtain ⟨n2, e2, _, w2⟩ := DataW.trod_int hti g2
     obtain ⟨n3, e3, _, w3⟩ := DataW.trod_int hti g3
     obtain ⟨n4, e4, _, w4⟩ := DataW.trod_int hti g4
     simp at e0 e1 e2 e3 e4
     subst e0 e1 e2 e3 e4
     have g5' : DataW.trod enc P w 0 (fun _ => true) true k tg [v5] = some y5 := g5
     obtain ⟨A5, len5, cap5, rfl⟩ : ∃ A5 len5 cap5, v5 = .slice A5 len5 cap5 := by
      rcases open_slice htg g5' with ⟨hcs, _⟩ | ⟨a5, len5, cap5, m5, n5, D5, Pl5, hcs5, _⟩
      ·exact ⟨none, 0, 0, by simpa using hcs⟩
      ·exact ⟨some a5, len5, cap5, by simpa using hcs5⟩
     obtain ⟨lg, q1, q2, q3, q4, q5⟩ := open_gls (d := y5.1) (p := y5.2) htg heg ceg hog hg0 hg1 hg2 ⟨k, g5'⟩
     subst q1
     refine ⟨⟨⟨n0, n1, n2, n3, n4, lg⟩, A5, cap5⟩, fun j u hu => ?_, ⟨q4, q2, q3⟩, w0, w1, w2, w3, w4, q5⟩
     have hj : j < 6 := by
      have := (List.getElem?_eq_some_iff.1 hu).1
      rwa [encC_len] at this
     have hcj := hcell j hj
     rw [add_of_add] at hcj
     rw [hcj]
     exact hu
  obtain ⟨q, hq⟩ := choose_lt each
  refine ⟨(List.range len).map q, by simp, hl, hm, ⟨⟨by rw [encCs_len]; simp, fun hn => ?_⟩, fun r hr => ?_⟩, fun r hr => ?_⟩
  ·obtain ⟨b, o, spot⟩ := a
   have h0 := (hq 0 (by omega)).1 0 _ rfl
   have hspot : spot = none := by simpa [Addr.add] using World.cell?_spot h0
   subst hspot
   refine ⟨b, o, rfl, by simpa [Addr.add] using cell_lt h0, fun j u hu => ?_⟩
   have hj : j < len * 6 := by
    have := (List.getElem?_eq_some_iff.1 hu).1
    rw [encCs_len] at this
    simpa using this
   have e : j = j / 6 * 6 + j % 6 := by omega
   rw [e, encCs_get _ _ _ (by omega)] at hu
   rw [List.getElem?_map, List.getElem?_range (show j / 6 < len by omega)] at hu
   have h1 := (hq (j / 6) (by omega)).1 (j % 6) u (by simpa using hu)
   rw [add_none] at h1
   rw [e]
   exact h1
  ·obtain ⟨i, hi, rfl⟩ := List.mem_map.1 hr
   exact (hq i (by have := List.mem_range.1 hi; omega)).2.1
  ·obtain ⟨i, hi, rfl⟩ := List.mem_map.1 hr
   exact (hq i (by have := List.mem_range.1 hi; omega)).2.2
end Go.Proofs.YtejjfiipghcifaaGreatDoor
