/- Joined: Um2, Ul0, Ul1. -/
import Derived.Test.YtlndbiamiioakaaGreatDoorVBM
set_option linter.unusedVariables false
set_option linter.unusedSimpArgs false
set_option linter.unnecessarySimpa false
set_option maxHeartbeats 4000000
namespace Go.Proofs.YtlndbiamiioakaaGreatDoor
open Go.Proofs.Tryz Go.RowKit
set_option maxRecDepth 20000
theorem qa4 {l : List ChgM} {k : Nat} (h : k < l.length) : (zE l)[k]'(by unfold zE; rw [List.length_map]; exact h) = l[k].c := by simp [zE]
theorem yC (l : List ChgM) : (zE l).length = l.length := by simp [zE]
theorem chg_ext {a b : Chg} (h1 : a.kind = b.kind) (h2 : a.row = b.row) (h3 : a.col = b.col) (h4 : a.count = b.count) (h5 : a.til = b.til) (h6 : a.glyphs = b.glyphs) : a = b := by
 cases a; cases b
 simp only at h1 h2 h3 h4 h5 h6
 subst h1 h2 h3 h4 h5 h6
 rfl
instance : DecidableEq Chg := fun a b => if h : a.kind = b.kind /\ a.row = b.row /\ a.col = b.col /\ a.count = b.count /\ a.til = b.til /\ a.glyphs = b.glyphs then isTrue (chg_ext h.1 h.2.1 h.2.2.1 h.2.2.2.1 h.2.2.2.2.1 h.2.2.2.2.2) else isFalse fun e => h (by subst e; exact ⟨rfl, rfl, rfl, rfl, rfl, rfl⟩)
theorem qd2 (l m : List ChgM) (A A' : Option Addr) (n n' c c' B : Nat) (w : World) (hn : n <= 1000000000) (rd : RdC w B A n l) (rd' : RdC w B A' n' m) (hB : B <= w.heap.size) (hz : ∀ x ∈ l, x.c.glyphs.length <= 1000000000) :
  Calls prog 8 #[.slice A n c, .slice A' n' c'] w (qg (.bool (decide (zE l = zE m))) w) := by
 have HN := Lh rd.len
 have HN' := Lh rd'.len
 by_cases hnn : n = n'
 ·subst hnn
  have HF : Hid (∀ k (h1 : k < l.length) (h2 : k < m.length), l[k].c ≠ m[k].c -> decide (zE l = zE m) = false) := Lh fun k h1 h2 h => decide_eq_false fun e => h (by
   rw [<- qa4 h1, <- qa4 h2]
   congr 1)
  have HT : Hid ((∀ i (h1 : i < l.length) (h2 : i < m.length), l[i].c = m[i].c) -> decide (zE l = zE m) = true) := Lh fun h => decide_eq_true (List.ext_getElem (by rw [yC, yC, HN.out, HN'.out]) fun i h1 h2 => by
   rw [yC] at h1 h2
   rw [qa4 h1, qa4 h2]
   exact h i h1 h2)
  have HS : Hid (∀ k (h1 : k < l.length) (h2 : k < m.length) w', Below w.heap.size w w' -> Calls prog 20 #[.slice l[k].A l[k].c.glyphs.length l[k].cap, .slice m[k].A m[k].c.glyphs.length m[k].cap] w' (Quiet (.bool (decide (l[k].c.glyphs = m[k].c.glyphs))) w')) := Lh fun k h1 h2 w' hw =>
   rsamerow _ _ _ _ _ _ _ _ B w' (hz _ (List.getElem_mem h1)) ((rd.gl _ (List.getElem_mem h1)).1.below (hw.mono hB)) ((rd'.gl _ (List.getElem_mem h2)).1.below (hw.mono hB))
  have HRd := Lh rd
  have HRd' := Lh rd'
  generalize decide (zE l = zE m) = R at *
  clear rd rd' hz
  go_enter func8, ntmps8
  go_wp2
  go_loopw [5] (fun x wr => ∃ k : Nat, k <= n /\ x = .int .i64 k /\ Below w.heap.size w wr /\ Hid (∀ i (h1 : i < l.length) (h2 : i < m.length), i < k -> l[i].c = m[i].c)) (fun x _ => n - (intOf x).toNat)
  case atStart => exact ⟨0, Nat.zero_le _, rfl, Below.refl _ _, Lh fun i _ _ h => absurd h (Nat.not_lt_zero i)⟩
  case round =>
   obtain ⟨k, hk, rfl, hb, HE⟩ := hrel
   by_cases hlt : k < n
   ·have hk1 : k < l.length := by have := HN.out; omega
    have hk2 : k < m.length := by have := HN'.out; omega
    obtain ⟨b, o, rfl, hbB, g0, g1, g2, g3, g4, g5⟩ := (HRd.out.below (hb.mono hB)).at_ hk1
    obtain ⟨b', o', rfl, hbB', g0', g1', g2', g3', g4', g5'⟩ := (HRd'.out.below (hb.mono hB)).at_ hk2
    have HF2 := Lh (HF.out k hk1 hk2)
    have HS2 := Lh (HS.out k hk1 hk2)
    have HE2 : l[k].c = m[k].c -> Hid (∀ i (h1 : i < l.length) (h2 : i < m.length), i < k + 1 -> l[i].c = m[i].c) := fun he => Lh fun i h1 h2 hi => by
     rcases Nat.lt_or_ge i k with h | h
     ·exact HE.out i h1 h2 h
     ·obtain rfl : i = k := by omega
      exact he
    clear HF HS HE
    generalize l[k] = r at *
    generalize m[k] = r' at *
    obtain ⟨⟨a1, a2, a3, a4, a5, a6⟩, Ag, cg⟩ := r
    obtain ⟨⟨b1, b2, b3, b4, b5, b6⟩, Ag', cg'⟩ := r'
    dsimp only at *
    have hbs := hb.size
    have q0 : b < wr.heap.size := by omega
    have q0' : b' < wr.heap.size := by omega
    go_upto_region 6 with fail
    go_cut [6, 7] (fun v6 v7 wx => ∃ g6 g7, v6 = .pointer (some ⟨g6, 0, none⟩) /\ v7 = .pointer (some ⟨g7, 0, none⟩) /\ Blk wx g6 34 (vK ⟨a1, a2, a3, a4, a5, a6⟩ Ag cg) /\ Blk wx g7 34 (vK ⟨b1, b2, b3, b4, b5, b6⟩ Ag' cg') /\ Below wr.heap.size wr wx)
    case first =>
     go_region_law (fail)
     all_goals go_wp2
     all_goals go_meet
     all_goals first
      | exact ⟨_, _, rfl, rfl, ((Blk.new wr _ _).alloc _).drew, (Blk.new_ (by simp)).drew, (((Below.refl _ _).alloc (Nat.le_refl _) _).alloc (by simp) _).drew⟩
      | exact ⟨_, _, rfl, rfl, (Blk.new_ (by simp)).drew, ((Blk.new wr _ _).alloc _).drew, (((Below.refl _ _).alloc (Nat.le_refl _) _).alloc (by simp) _).drew⟩
    case rest =>
     obtain ⟨g6, g7, rfl, rfl, B6, B7, hbx⟩ := hcut
     obtain ⟨X, rfl⟩ : ∃ x : World, x = wc := ⟨_, rfl⟩
     have hb2 : Below w.heap.size w X := hb.trans (hbx.mono hbs)
     have HSX := Lh (HS2.out X hb2)
     clear HS2 g0 g1 g2 g3 g4 g5 g0' g1' g2' g3' g4' g5'
     have x0 := B6.cell 0
     have x1 := B6.cell 1
     have x2 := B6.cell 2
     have x3 := B6.cell 3
     have x4 := B6.cell 4
     have x5 := B6.cell 5
     have y0 := B7.cell 0
     have y1 := B7.cell 1
     have y2 := B7.cell 2
     have y3 := B7.cell 3
     have y4 := B7.cell 4
     have y5 := B7.cell 5
     simp only [vK, La, Lb, Lc] at x0 x1 x2 x3 x4 x5 y0 y1 y2 y3 y4 y5
     by_cases e1 : a1 = b1
     ·subst e1
      by_cases e2 : a2 = b2
      ·subst e2
       by_cases e3 : a3 = b3
       ·subst e3
        by_cases e4 : a4 = b4
        ·subst e4
         by_cases e5 : a5 = b5
         ·subst e5
          by_cases e6 : a6 = b6
          ·subst e6
           rw [decide_eq_true rfl] at HSX
           have HE3 := HE2 rfl
           clear HE2 HF2 HT
           go_wp2_with (go_at_call 20; refine HSX.out.mono ?_; rintro e w5 ⟨rfl, n5, rfl⟩)
           exact ⟨⟨k + 1, by omega, by go_num, qb hb2, HE3⟩, by simp [intOf]; omega⟩
          ·rw [decide_eq_false e6] at HSX
           have HD : Hid (R = false) := Lh (HF2.out fun e => e6 (by injection e))
           clear HE2 HF2 HT e6
           go_wp2_with (go_at_call 20; refine HSX.out.mono ?_; rintro e w5 ⟨rfl, n5, rfl⟩)
           go_ret
           exact ⟨by rw [HD.out]; rfl, qb hb2⟩
         ·have HD : Hid (R = false) := Lh (HF2.out fun e => e5 (by injection e))
          have hq : (a5 != b5) = true := bne_iff_ne.2 e5
          clear HE2 HF2 HT e5
          go_wp2
          go_ret
          exact ⟨by rw [HD.out]; rfl, hb2⟩
        ·have HD : Hid (R = false) := Lh (HF2.out fun e => e4 (by injection e))
         have hq : (a4 != b4) = true := bne_iff_ne.2 e4
         clear HE2 HF2 HT e4
         go_wp2
         go_ret
         exact ⟨by rw [HD.out]; rfl, hb2⟩
       ·have HD : Hid (R = false) := Lh (HF2.out fun e => e3 (by injection e))
        have hq : (a3 != b3) = true := bne_iff_ne.2 e3
        clear HE2 HF2 HT e3
        go_wp2
        go_ret
        exact ⟨by rw [HD.out]; rfl, hb2⟩
      ·have HD : Hid (R = false) := Lh (HF2.out fun e => e2 (by injection e))
       have hq : (a2 != b2) = true := bne_iff_ne.2 e2
       clear HE2 HF2 HT e2
       go_wp2
       go_ret
       exact ⟨by rw [HD.out]; rfl, hb2⟩
     ·have HD : Hid (R = false) := Lh (HF2.out fun e => e1 (by injection e))
      have hq : (a1 != b1) = true := bne_iff_ne.2 e1
      clear HE2 HF2 HT e1
      go_wp2
      go_ret
      exact ⟨by rw [HD.out]; rfl, hb2⟩
   ·obtain rfl : k = n := by omega
    have HD : Hid (R = true) := Lh (HT.out fun i h1 h2 => HE.out i h1 h2 (by have := HN.out; omega))
    go_wp2
    go_ret
    exact ⟨by rw [HD.out]; rfl, hb⟩
 ·have HD : Hid (decide (zE l = zE m) = false) := Lh (decide_eq_false fun e => hnn (by rw [<- HN.out, <- HN'.out, <- yC l, e, yC]))
  have hni : ((n : Int) != (n' : Int)) = true := by simp; omega
  generalize decide (zE l = zE m) = R at *
  go_enter func8, ntmps8
  go_wp2
  go_ret
  exact ⟨by rw [HD.out]; rfl, Below.refl _ _⟩
def SU : Setts := ⟨false, false, 0⟩
def eCh : Chg := ⟨3, 4, 0, 0, 0, [⟨⟨#[111]⟩, false, 0⟩, ⟨⟨#[107]⟩, false, 0⟩]⟩
def qap : List ByteArray := [qu, ⟨#[102, 105, 118, 101]⟩, qB, ⟨#[111, 110, 101]⟩, qK, ⟨#[111, 107]⟩, jb, q8]
theorem eCh_ok : vb eCh = 0 := by decide +kernel
theorem qgS : km [eCh] 1 SU = qap := by decide +kernel
theorem qfy : ∀ s ∈ qap, s.size <= 1000 := by decide +kernel
theorem eCh_back : jn qap = some ([eCh], 1) := by kernel_rfl
theorem WdR.own {w : World} {base n c : Nat} {A : Option Addr} {l : List ByteArray} (h : w.ownsRow base 9 1 (.slice A n c) n (sv l)) (hs : ∀ s ∈ l, s.size <= 1000) : WdR w w.heap.size l A n c := by
 have hl : l.length = n := by have := (Rd.of_own h).1; rw [qdI] at this; omega
 exact ⟨hl, (qb5 h).1, (qb5 h).2, Rd.of_own h, hs⟩
theorem WdR.more {w : World} {B B' : Nat} {l : List ByteArray} {A : Option Addr} {n c : Nat} (h : WdR w B l A n c) (hb : B <= B') : WdR w B' l A n c := ⟨h.len, h.cap, h.max, h.rd.more hb, h.sz⟩
theorem exW41_rd (w : World) : Rd (w.alloc (.cells #[.string ⟨#[108, 105, 110, 101]⟩, .string ⟨#[102, 105, 118, 101]⟩, .string ⟨#[99, 111, 108, 117, 109, 110]⟩, .string ⟨#[111, 110, 101]⟩, .string ⟨#[105, 110, 115, 101, 114, 116]⟩, .string ⟨#[111, 107]⟩, .string ⟨#[115, 116, 111, 112]⟩, .string ⟨#[100, 111, 110, 101]⟩] 9)) (w.heap.size + 1) 1 (some ⟨w.heap.size, 0, none⟩) 8 (sv qap) := qe (xs := sv qap) rfl rfl
def ExI (w X : World) : Prop := RdC X X.heap.size (some ⟨w.heap.size + 1, 0, none⟩) 1 [⟨eCh, some ⟨w.heap.size, 0, none⟩, 2⟩] /\ Below w.heap.size w X
theorem ExI.on {w X Y : World} (h : ExI w X) (hb : Below X.heap.size X Y) : ExI w Y := ⟨(h.1.below hb).more hb.size, h.2.trans (hb.mono h.2.size)⟩
theorem ExI.new (w : World) : ExI w ((w.alloc (.cells (qn eCh.glyphs).toArray 31)).alloc (.cells (kr ⟨eCh, some ⟨w.heap.size, 0, none⟩, 2⟩).toArray 34)) := by
 have hr : Rd (w.alloc (.cells (qn eCh.glyphs).toArray 31)) (w.heap.size + 1) 3 (some ⟨w.heap.size, 0, none⟩) 2 (qn eCh.glyphs) := qe rfl rfl
 have hb2 : Below (w.heap.size + 1) (w.alloc (.cells (qn eCh.glyphs).toArray 31)) ((w.alloc (.cells (qn eCh.glyphs).toArray 31)).alloc (.cells (kr ⟨eCh, some ⟨w.heap.size, 0, none⟩, 2⟩).toArray 34)) := (Below.refl _ _).alloc (by simp) _
 refine ⟨⟨?_, fun x hx => ?_⟩, ((Below.refl _ _).alloc (Nat.le_refl _) _).alloc (by simp) _⟩
 ·exact Rd.more (B := w.heap.size + 1 + 1) (qe (xs := kr ⟨eCh, some ⟨w.heap.size, 0, none⟩, 2⟩) (by simp) rfl) (by simp)
 ·rw [List.mem_singleton] at hx
  subst hx
  exact ⟨(hr.below hb2).more (by simp), (by show 2 <= 2; decide), (by show 2 <= maxLen; decide)⟩
theorem awake41_ (w : World) (hg : Gd w) : Calls prog 5 #[] w (qg (.bool true) w) := by
 have HW : Hid (∀ X, ExI w X -> Calls prog 9 #[.slice (some ⟨w.heap.size + 1, 0, none⟩) 1 1, .int .i64 1, stV 100 false false 0 false 40] X (ql 9 1 jI X 8 (sv qap))) := Lh fun X hX => by
  have hg' := hg.below hX.2
  have hsm : SmC [⟨eCh, some ⟨w.heap.size, 0, none⟩, 2⟩] := fun x hx => by
   rw [List.mem_singleton] at hx
   subst hx
   exact ⟨(by show 2 <= 1000000000; decide), fun g hg => by simp only [eCh, List.mem_cons, List.not_mem_nil, or_false] at hg; rcases hg with rfl | rfl <;> decide⟩
  have h := uwords_ _ _ 1 1 1 100 false false 0 false 40 X (by decide) hX.1 hsm hg'.1 hg'.2.1 hg'.2.2
  refine h.mono ?_
  intro e w' h
  have h0 : wErr [⟨eCh, some ⟨w.heap.size, 0, none⟩, 2⟩] 1 100 0 40 = 0 := by
   have hc : vy [⟨eCh, some ⟨w.heap.size, 0, none⟩, 2⟩] = 0 := yW.2 fun c hc => by
    have hc' : c ∈ [eCh] := hc
    rw [List.mem_singleton] at hc'
    rw [hc']
    exact eCh_ok
   unfold wErr
   rw [show setE 100 0 40 = 0 by decide +kernel, hc]
   rfl
  unfold UwR at h
  rw [if_pos h0, show zE [⟨eCh, some ⟨w.heap.size, 0, none⟩, 2⟩] = [eCh] from rfl, show (⟨false, false, 0⟩ : Setts) = SU from rfl, qgS] at h
  exact h
 have HC : Hid (∀ X A c, Gd X -> WdR X X.heap.size qap A 8 c -> Calls prog 6 #[.slice A 8 c] X (ChR (some ([eCh], 1)) X)) := Lh fun X A c hg hX => by
  have := qdk qap A 8 c X hX (by decide) hg.1 hg.2.1 hg.2.2
  rwa [eCh_back] at this
 have HX := ExI.new w
 have HG := Lh hg
 clear hg
 go_enter func5, ntmps5
 go_upto_region 2 with fail
 refine qc (ExI w) HX ?_
 clear HX
 intro X hX
 go_upto_region 3 with (go_at_call 9; refine (HW.out _ hX).mono ?_; rintro e w1 ⟨A1, c1, rfl, ho1, hb1⟩)
 have HC1 := Lh (HC.out w1 A1 c1 (HG.out.below (hX.2.trans (hb1.mono hX.2.size))) (WdR.own ho1 qfy))
 have hX1 := hX.on hb1
 go_upto_region 4 with (go_at_call 6; refine HC1.out.mono ?_; rintro e w2 ⟨hb2, out, A2, c2, hout, rfl, ho2, hgl2⟩)
 have hX2 := hX1.on hb2
 have hl1 : out.length = 1 := by rw [<- yC, hout]; rfl
 have hrc : RdC w2 w2.heap.size A2 out.length out := hgl2.rdc ho2
 have HSm : Hid (∀ w', Below w2.heap.size w2 w' -> Calls prog 8 #[.slice A2 out.length c2, .slice (some ⟨w.heap.size + 1, 0, none⟩) 1 1] w' (qg (.bool true) w')) := Lh fun w' hw => by
  have h := qd2 out [⟨eCh, some ⟨w.heap.size, 0, none⟩, 2⟩] A2 (some ⟨w.heap.size + 1, 0, none⟩) out.length 1 c2 1 w2.heap.size w' (by omega) (hrc.below hw) (hX2.1.below hw) hw.size (fun x hx => by
   have : x.c ∈ zE out := List.mem_map_of_mem hx
   rw [hout, List.mem_singleton] at this
   rw [this]
   decide)
  rwa [decide_eq_true (show zE out = zE [⟨eCh, some ⟨w.heap.size, 0, none⟩, 2⟩] from hout)] at h
 have how := qa ho1 hb2
 have hbw := hX2.2
 have HSW : Hid (Calls prog 10 #[.slice A1 8 c1, .slice (some ⟨w2.heap.size, 0, none⟩) 8 8] (w2.alloc (.cells #[.string ⟨#[108, 105, 110, 101]⟩, .string ⟨#[102, 105, 118, 101]⟩, .string ⟨#[99, 111, 108, 117, 109, 110]⟩, .string ⟨#[111, 110, 101]⟩, .string ⟨#[105, 110, 115, 101, 114, 116]⟩, .string ⟨#[111, 107]⟩, .string ⟨#[115, 116, 111, 112]⟩, .string ⟨#[100, 111, 110, 101]⟩] 9)) (Quiet (.bool true) (w2.alloc (.cells #[.string ⟨#[108, 105, 110, 101]⟩, .string ⟨#[102, 105, 118, 101]⟩, .string ⟨#[99, 111, 108, 117, 109, 110]⟩, .string ⟨#[111, 110, 101]⟩, .string ⟨#[105, 110, 115, 101, 114, 116]⟩, .string ⟨#[111, 107]⟩, .string ⟨#[115, 116, 111, 112]⟩, .string ⟨#[100, 111, 110, 101]⟩] 9)))) := Lh (same_t qap qap rfl _ _ _ _ _ _ _ _ _ rfl rfl (Rd.of_own (qa how ((Below.refl _ _).alloc (Nat.le_refl _) _))) (exW41_rd w2) (by decide) (by decide))
 clear HW HC HC1 HG hX hX1 hX2 hrc hgl2 ho2 hl1 hout ho1
 go_wp2_with (first
  | (go_at_call 10; refine HSW.out.mono ?_; rintro e w3 ⟨rfl, n3, rfl⟩)
  | (go_at_call 8; refine (HSm.out _ (qb ((Below.refl _ _).alloc (Nat.le_refl _) _))).mono ?_; rintro e w4 ⟨rfl, hb4⟩))
 go_ret
 exact ⟨rfl, (qb (hbw.alloc hbw.size _)).trans (hb4.mono (by simp; have := hbw.size; omega))⟩
def SzW (l : List ByteArray) : Prop := ∀ s ∈ l, s.size <= 1000
theorem SzW.nil : SzW [] := fun s hs => by cases hs
theorem SzW.cons {a : ByteArray} {l : List ByteArray} (h : a.size <= 1000) (hl : SzW l) : SzW (a :: l) := fun s hs => by
 rcases List.mem_cons.1 hs with rfl | hs
 ·exact h
 ·exact hl s hs
theorem SzW.app {a b : List ByteArray} (h : SzW a) (hl : SzW b) : SzW (a ++ b) := fun s hs => by
 rcases List.mem_append.1 hs with hs | hs
 ·exact h s hs
 ·exact hl s hs
theorem bothG {P : Program} {f : FuncId} {args : Array Value} {w X : World} {v : Value} (h : Calls P f args X (qg v X)) (hb : Below w.heap.size w X) : Calls P f args X fun e X' => e = .returned v /\ Below w.heap.size w X' /\ Below X.heap.size X X' :=
 h.mono fun _ _ ⟨h1, h2⟩ => ⟨h1, hb.trans (h2.mono hb.size), h2⟩
theorem bothS {P : Program} {f : FuncId} {args : Array Value} {w X : World} {v : Value} (h : Calls P f args X fun e X' => e = .returned v /\ X' = X) (hb : Below w.heap.size w X) : Calls P f args X fun e X' => e = .returned v /\ Below w.heap.size w X' /\ Below X.heap.size X X' :=
 h.mono fun _ _ ⟨h1, h2⟩ => by subst h2; exact ⟨h1, hb, Below.refl _ _⟩
end Go.Proofs.YtlndbiamiioakaaGreatDoor
