/- Joined texts: Rp8, SxG. -/
import Derived.Test.YtndgcjdiemfngaaGreatDoorQAQ
import Derived.Test.YtndgcjdiemfngaaGreatDoorQBF
import Derived.Test.YtndgcjdiemfngaaGreatDoorQBG
import Derived.Test.YtndgcjdiemfngaaGreatDoorQCA
set_option linter.unusedVariables false
set_option linter.unusedSimpArgs false
set_option linter.unnecessarySimpa false
/- The reference of layer 40: Glyphs. -/
namespace Go.Proofs.YtndgcjdiemfngaaGreatDoor
open Go.RowKit
set_option maxRecDepth 20000
/-- The loop's relation: the state in its box, its row, what is still to be read. -/
def RgI (w : World) (l : List ByteArray) (R : Option (List Gl)) (i : Nat) (wr : World) : Prop :=
  ∃ q f A c, q.words = l.drop i ∧ q.words.length ≤ f ∧ readL f q = R ∧ PaK2 q ∧ Blk wr w.heap.size 64 (tC (.slice A q.out.length c) q.style q.joins) ∧
    wr.ownsRow (w.heap.size + 1) 41 3 (.slice A q.out.length c) q.out.length (encGs q.out) ∧ Below w.heap.size w wr
/-- What is behind a part that was read. -/
def RgN (w : World) (q' : Prs) (v6 : Value) (wx : World) : Prop :=
  ∃ H A c m0 A0 c0 st0 j0, v6 = .pointer (some ⟨H, 0, none⟩) ∧ w.heap.size < H ∧ Blk wx H 64 (tC (.slice A q'.out.length c) q'.style q'.joins) ∧ Blk wx w.heap.size 64 (tC (.slice A0 m0 c0) st0 j0) ∧
    wx.ownsRow (w.heap.size + 1) 41 3 (.slice A q'.out.length c) q'.out.length (encGs q'.out) ∧ Below w.heap.size w wx
theorem cell_set3 {w : World} {g p i : Nat} {a b c : Value} (h : g ≠ p) : (((w.setCell ⟨p, 0, none⟩ a).setCell ⟨p, 1, none⟩ b).setCell ⟨p, 2, none⟩ c).cell? ⟨g, i, none⟩ = w.cell? ⟨g, i, none⟩ := by
  rw [World.cell?_setCell_other _ _ _ _ (by intro e; injection e with e; exact h e.symm), World.cell?_setCell_other _ _ _ _ (by intro e; injection e with e; exact h e.symm), World.cell?_setCell_other _ _ _ _ (by intro e; injection e with e; exact h e.symm)]
theorem RgN.mk {w wr wz : World} {q' : Prs} {H c7 : Nat} {A7 : Option Addr} {m0 c0 : Nat} {A0 : Option Addr} {st0 : Int} {j0 : Bool} (hw : w.heap.size + 1 ≤ wr.heap.size) (bz : Blk wz H 64 (tC (.slice none 0 0) 0 false)) (hH : wr.heap.size ≤ H)
    (hbox : Blk wz w.heap.size 64 (tC (.slice A0 m0 c0) st0 j0)) (o7 : wz.ownsRow (w.heap.size + 1) 41 3 (.slice A7 q'.out.length c7) q'.out.length (encGs q'.out)) (hz : Below w.heap.size w wz)
    (hne : ∀ k, (Value.slice A7 q'.out.length c7).ownBlock = some k → k ≠ H) :
    RgN w q' (.pointer (some ⟨H, 0, none⟩)) (((wz.setCell ⟨H, 0, none⟩ (.slice A7 q'.out.length c7)).setCell ⟨H, 1, none⟩ (.int .i64 q'.style)).setCell ⟨H, 2, none⟩ (.bool q'.joins)) := by
  have hne0 : w.heap.size ≠ H := by omega
  exact ⟨H, A7, c7, m0, A0, c0, st0, j0, rfl, by omega, blk_set3 bz, ((hbox.far (p := ⟨H, 0, none⟩) hne0 _).far (p := ⟨H, 1, none⟩) hne0 _).far (p := ⟨H, 2, none⟩) hne0 _, own_off3 o7 hne, below_set3 hz (by omega)⟩
set_option maxHeartbeats 4000000 in
theorem rglyphs (l : List ByteArray) (A : Option Addr) (n c : Nat) (w : World) (hn : l.length = n) (hc : n ≤ c) (hm : c ≤ maxLen) (rd : Rd w w.heap.size 1 A n (sv l)) (hsz : ∀ s ∈ l, s.size ≤ 1000) (hl : l.length ≤ 1000) (ht : Tb w) :
    Calls Tryz.prog 19 #[.slice A n c] w (GlR (glyphsL l) w) := by
  obtain ⟨R, hR⟩ : ∃ R, R = glyphsL l := ⟨_, rfl⟩
  rw [← hR]
  have hI : RgI w l R 0 (w.alloc (.cells (tC (.slice none 0 0) 0 false) 64)) :=
    ⟨⟨l, [], 0, false⟩, l.length, none, 0, rfl, Nat.le_refl _, hR.symm, ⟨⟨hsz, by show 0 + 2000 * l.length ≤ _; omega, fun x hx => by cases hx⟩, by show l.length ≤ _; omega⟩, Blk.new w _ _, own_nil _ _ _ _, (Below.refl _ _).alloc (Nat.le_refl _) _⟩
  have HWd : Hid (∀ i, i < n → ∃ b o, A = some ⟨b, o, none⟩ ∧ ∀ wr, Below w.heap.size w wr → WdA (w.heap.size + 1) wr (l.drop i) (some ⟨b, o + i, none⟩) (n - i) (c - i)) := Lib.hid fun i hi => by
    obtain ⟨b, o, hA, hb, -⟩ := rd.2 (show 0 < n by omega)
    subst hA
    refine ⟨b, o, rfl, fun wr hw => ⟨by rw [List.length_drop]; omega, by omega, by omega, ?_, fun s hs => hsz s (List.mem_of_mem_drop hs), by rw [List.length_drop]; omega, fun w' h' => ht.below (hw.trans (h'.mono (Nat.le_succ _)))⟩⟩
    have hcut := (rd.below hw).cut (k := i) (by omega) hc
    rw [if_neg (by omega), show (sv l).drop (i * 1) = sv (l.drop i) by simp [sv]] at hcut
    simp only [Nat.mul_one, Option.map_some, add_none] at hcut
    exact hcut.more (Nat.le_succ _)
  have hcm : c ≤ 9223372036854775807 := by unfold maxLen at hm; omega
  have hn5 : n ≤ 1000 := by omega
  have HN := Lib.hid hn
  clear rd hsz hl ht hR hn hm
  go_enter Tryz.func19, Tryz.ntmps19
  go_upto_region 2 with fail
  refine wp_fg (RgI w l R 0) hI ?_
  clear hI
  intro X hX
  go_wp2
  go_loopw [5] (fun x wr => ∃ i : Nat, i ≤ n ∧ x = .int .i64 i ∧ RgI w l R i wr) (fun x _ => n - (intOf x).toNat)
  case atStart => exact ⟨0, Nat.zero_le _, rfl, hX⟩
  case round =>
    clear hX
    obtain ⟨i, hi, rfl, q, f, Aq, cq, hqw, hf, hq, hk, bq, oq, hb⟩ := hrel
    have hzw := bq.lt
    by_cases hlt : i < n
    · as_aux_lemma =>
      obtain ⟨b, o, hA, hWi⟩ := HWd.out i hlt
      subst hA
      have hne : q.words ≠ [] := by
        rw [hqw]
        intro e
        have := congrArg List.length e
        rw [List.length_drop, HN.out, List.length_nil] at this
        omega
      obtain ⟨a, t, hat⟩ : ∃ a t, q.words = a :: t := by
        cases h : q.words with
        | nil => exact absurd h hne
        | cons a t => exact ⟨a, t, rfl⟩
      obtain ⟨f', rfl⟩ : ∃ f', f = f' + 1 := ⟨f - 1, by rw [hat, List.length_cons] at hf; omega⟩
      rw [readL, if_neg hne] at hq
      have hout : q.out.length ≤ 1000000000 := by have h := hk.1.2.1; omega
      have hot : ∀ x ∈ q.out, x.text.size ≤ 1000000 := fun x hx => by have := hk.1.2.2 x hx; omega
      have HOne : Hid (∀ w', Below wr.heap.size wr w' → Calls Tryz.prog 39 #[.agg #[.slice Aq q.out.length cq, .int .i64 q.style, .bool q.joins], .slice (some ⟨b, o + i, none⟩) (n - i) (c - i)] w' (PRes (w.heap.size + 1) (.slice Aq q.out.length cq) w' (l.drop i) (partL q))) := Lib.hid fun w' hw' => by
        have h := rone q.out q.style q.joins q.words hout Aq cq (w.heap.size + 1) w' (by have := hw'.size; omega) (own_below oq hw') (some ⟨b, o + i, none⟩) (n - i) (c - i) (by rw [hqw]; exact hWi w' (hb.trans (hw'.mono (by omega)))) hot a t hat
        rw [hqw] at h
        rwa [show (⟨l.drop i, q.out, q.style, q.joins⟩ : Prs) = q by rw [← hqw]] at h
      have hsep : ∀ k, (Value.slice Aq q.out.length cq).ownBlock = some k → k < wr.heap.size := fun k hk => (oq.lt k hk).2
      have hdn : (l.drop i).length = n - i := by rw [List.length_drop, HN.out]
      have hii : (0 : Int) ≤ i := by omega
      have hin : (i : Int) ≤ n := by omega
      have hin2 : (i : Int) < n := by omega
      have hic : (i : Int) ≤ c := by omega
      have hci : ¬ c = i := by omega
      have hPart : ∀ q', partL q = some q' → PaK2 q' := fun q' h => hk.part h
      have hless : ∀ q', partL q = some q' → q'.words.length < q.words.length := fun q' h => part_less h
      clear hot hout hk hat
      generalize partL q = PT at *
      have c0 := bq.cell 0
      have c1 := bq.cell 1
      have c2 := bq.cell 2
      simp only [tC, List.getElem?_toArray, List.getElem?_cons_zero, List.getElem?_cons_succ] at c0 c1 c2
      have hd1 : Below wr.heap.size wr wr.drew := (Below.refl _ _).drew
      have hd2 : Below wr.heap.size wr (wr.drew.alloc (.cells (tC (.slice none 0 0) 0 false) 64)) := hd1.alloc (Nat.le_refl _) _
      have HBx : Hid (∀ w' w5, Below wr.heap.size wr w' → Below (w.heap.size + 1) w' w5 → Blk w5 w.heap.size 64 (tC (.slice Aq q.out.length cq) q.style q.joins) ∧ Below w.heap.size w w5) := Lib.hid fun w' w5 h1 h2 => ⟨(bq.below h1 hzw).below h2 (Nat.lt_succ_self _), (hb.trans (h1.mono (by omega))).trans (h2.mono (Nat.le_succ _))⟩
      cases PT with
      | none =>
        as_aux_lemma =>
        have e0 : R = none := hq.symm
        replace e0 := Lib.hid e0
        clear hq hPart hless oq hne hqw hf hWi HWd bq
        go_upto_region 4 with fail
        go_cut [7] (fun v wx => v = .int .i64 0 ∧ Below w.heap.size w wx)
        case first =>
          as_aux_lemma =>
          go_region_held3 (fun w' => w'.cell? ⟨w.heap.size, 0, none⟩ = some (.slice Aq q.out.length cq) ∧ w'.cell? ⟨w.heap.size, 1, none⟩ = some (.int .i64 q.style) ∧ w'.cell? ⟨w.heap.size, 2, none⟩ = some (.bool q.joins)) (first | go_keep | (refine ⟨?_, ?_, ?_⟩ <;> (rw [cell_set3 (by omega)]; assumption))) (first
            | (go_at_call 39; refine (HOne.out wr.drew hd1).mono ?_; rintro e w5 ⟨A', m', c', st', j', rfl, bg5⟩; obtain ⟨E5, hb5⟩ := HBx.out _ _ hd1 bg5.1; have zz5 := Nat.le_trans hd1.size bg5.size; have k0 := E5.cell 0; have k1 := E5.cell 1; have k2 := E5.cell 2; simp only [tC, List.getElem?_toArray, List.getElem?_cons_zero, List.getElem?_cons_succ] at k0 k1 k2; (try simp only [tC]))
            | (go_at_call 39; refine (HOne.out _ hd2).mono ?_; rintro e w5 ⟨A', m', c', st', j', rfl, bg5⟩; obtain ⟨E5, hb5⟩ := HBx.out _ _ hd2 bg5.1; have zz5 := Nat.le_trans hd2.size bg5.size; have k0 := E5.cell 0; have k1 := E5.cell 1; have k2 := E5.cell 2; have BZ : Blk w5 wr.heap.size 64 (tC (.slice none 0 0) 0 false) := (Blk.new_ (w := wr.drew) rfl).grown bg5.2 (some_ne fun k hk => Nat.ne_of_lt (hsep k hk)); have y0 := BZ.cell 0; have y1 := BZ.cell 1; have y2 := BZ.cell 2; have z0 := BZ.frozen 0; have z1 := BZ.frozen 1; have z2 := BZ.frozen 2; simp only [tC, List.getElem?_toArray, List.getElem?_cons_zero, List.getElem?_cons_succ] at k0 k1 k2 y0 y1 y2; (try simp only [tC])))
          all_goals go_wp2
          all_goals go_meet
          all_goals exact ⟨rfl, by first | exact below_set3 (hb5.alloc (by omega) _) (by omega) | exact below_set3 hb5 (by omega) | exact hb5.alloc (by omega) _⟩
        case rest =>
          obtain ⟨w6, rfl⟩ : ∃ x : World, x = wc := ⟨_, rfl⟩
          obtain ⟨rfl, hb6⟩ := hcut
          go_wp2
          go_ret2
          rw [e0.out]
          exact ⟨hb6, rfl⟩
      | some q' =>
        as_aux_lemma =>
        have hk' := Lib.hid (hPart q' rfl)
        have hle := Lib.hid (hless q' rfl)
        have hqq := Lib.hid hq
        have HQw := Lib.hid hqw
        have HF := Lib.hid hf
        clear hq hPart hless hne hqw hf hWi HWd bq
        go_upto_region 4 with fail
        go_cut [6, 7] (fun v6 v7 wx => ∃ m : Nat, v7 = .int .i64 (m : Int) ∧ 0 < m ∧ m ≤ n - i ∧ q'.words = (l.drop i).drop m ∧ RgN w q' v6 wx)
        case first =>
          as_aux_lemma =>
          go_region_held3 (fun w' => w'.cell? ⟨w.heap.size, 0, none⟩ = some (.slice Aq q.out.length cq) ∧ w'.cell? ⟨w.heap.size, 1, none⟩ = some (.int .i64 q.style) ∧ w'.cell? ⟨w.heap.size, 2, none⟩ = some (.bool q.joins)) (first | go_keep | (refine ⟨?_, ?_, ?_⟩ <;> (rw [cell_set3 (by omega)]; assumption))) (first
            | (go_at_call 39; refine (HOne.out wr.drew hd1).mono ?_; rintro e w5 ⟨A7, c7, m, hm0, hm1, hm2, rfl, o7, bg5, hs7⟩; obtain ⟨E5, hb5⟩ := HBx.out _ _ hd1 bg5.1; have zz5 := Nat.le_trans hd1.size bg5.size; have k0 := E5.cell 0; have k1 := E5.cell 1; have k2 := E5.cell 2; simp only [tC, List.getElem?_toArray, List.getElem?_cons_zero, List.getElem?_cons_succ] at k0 k1 k2; (try simp only [tC]))
            | (go_at_call 39; refine (HOne.out _ hd2).mono ?_; rintro e w5 ⟨A7, c7, m, hm0, hm1, hm2, rfl, o7, bg5, hs7⟩; obtain ⟨E5, hb5⟩ := HBx.out _ _ hd2 bg5.1; have zz5 := Nat.le_trans hd2.size bg5.size; have k0 := E5.cell 0; have k1 := E5.cell 1; have k2 := E5.cell 2; have BZ : Blk w5 wr.heap.size 64 (tC (.slice none 0 0) 0 false) := (Blk.new_ (w := wr.drew) rfl).grown bg5.2 (some_ne fun k hk => Nat.ne_of_lt (hsep k hk)); have y0 := BZ.cell 0; have y1 := BZ.cell 1; have y2 := BZ.cell 2; have z0 := BZ.frozen 0; have z1 := BZ.frozen 1; have z2 := BZ.frozen 2; simp only [tC, List.getElem?_toArray, List.getElem?_cons_zero, List.getElem?_cons_succ] at k0 k1 k2 y0 y1 y2; (try simp only [tC])))
          all_goals go_wp2
          all_goals go_meet
          all_goals refine ⟨m, rfl, hm0, by omega, hm2, ?_⟩
          all_goals first
            | exact RgN.mk hzw (Blk.new_ rfl) zz5 (E5.alloc _) (o7.alloc _) (hb5.alloc (by omega) _) (fun k hk => by have := (o7.lt k hk).2; omega)
            | exact ⟨w5.heap.size, A7, c7, _, _, _, _, _, rfl, by omega, Blk.new_ rfl, E5.alloc _, o7.alloc _, hb5.alloc (by omega) _⟩
            | exact RgN.mk hzw BZ (Nat.le_refl _) E5 o7 hb5 (fun k hk => by rcases hs7 k hk with ⟨h, _⟩ | h; · have := hsep k h; omega
                                                                            · simp at h; omega)
        case rest =>
          obtain ⟨w6, rfl⟩ : ∃ x : World, x = wc := ⟨_, rfl⟩
          obtain ⟨m, rfl, hm0, hm1, hm2, H, A7, c7, m0, A0, c0', st0, j0, rfl, hwH, bH, b0, o6, hb6⟩ := hcut
          have h0 := bH.cell 0
          have h1 := bH.cell 1
          have h2 := bH.cell 2
          have k0 := b0.cell 0
          have k1 := b0.cell 1
          have k2 := b0.cell 2
          have f0 := b0.frozen 0
          have f1 := b0.frozen 1
          have f2 := b0.frozen 2
          simp only [tC, List.getElem?_toArray, List.getElem?_cons_zero, List.getElem?_cons_succ] at h0 h1 h2 k0 k1 k2
          have hmz : ((m : Int) == 0) = false := beq_eq_false_iff_ne.2 (by omega)
          have hwi : IntKind.i64.wrap ((i : Int) + m) = (i : Int) + m := by rw [IntKind.wrap_i64]; omega
          have bn := blk_set3 (a' := .slice A7 q'.out.length c7) (b' := .int .i64 q'.style) (c' := .bool q'.joins) b0
          have on := own_set (own_set (own_set o6 (p := ⟨w.heap.size, 0, none⟩) (Nat.lt_succ_self _) (.slice A7 q'.out.length c7)) (p := ⟨w.heap.size, 1, none⟩) (Nat.lt_succ_self _) (.int .i64 q'.style)) (p := ⟨w.heap.size, 2, none⟩) (Nat.lt_succ_self _) (.bool q'.joins)
          have hbn := below_set3 (a' := .slice A7 q'.out.length c7) (b' := .int .i64 q'.style) (c' := .bool q'.joins) (g := w.heap.size) hb6 (Nat.le_refl _)
          clear bH b0 o6 hb6
          go_wp2
          exact ⟨⟨i + m, by omega, by first | go_num | simp, q', f', A7, c7, by rw [hm2, List.drop_drop], by have := hle.out; have := HF.out; omega, hqq.out, hk'.out, bn, on, hbn⟩, by simp [intOf]; omega⟩
    · as_aux_lemma =>
      obtain rfl : i = n := by omega
      have h0 : q.words = [] := by rw [hqw, ← HN.out, List.drop_length]
      have e0 : R = some q.out := by rw [← hq]; cases f <;> simp [readL, h0]
      replace e0 := Lib.hid e0
      have c0 := bq.cell 0
      simp only [tC, List.getElem?_toArray, List.getElem?_cons_zero, List.getElem?_cons_succ] at c0
      clear hq hk h0 HWd hqw hf
      go_wp2
      go_ret2
      rw [e0.out]
      exact ⟨hb, Aq, cq, rfl, own_less oq (Nat.le_succ _)⟩
end Go.Proofs.YtndgcjdiemfngaaGreatDoor
/- Layer 40's statement Glyphs. -/
namespace Go.Proofs.YtndgcjdiemfngaaGreatDoor
open Go.RowKit
set_option maxRecDepth 20000
theorem readL_len : ∀ (f : Nat) (q : Prs) (G : List Gl), PaK2 q → readL f q = some G → G.length ≤ 1000000000
  | 0, q, G, hk, h => by
    rw [readL] at h
    injection h with h
    have := hk.1.2.1
    rw [← h]
    omega
  | f + 1, q, G, hk, h => by
    rw [readL] at h
    split at h
    · injection h with h
      have := hk.1.2.1
      rw [← h]
      omega
    · cases hp : partL q with
      | none => rw [hp] at h; cases h
      | some q' => rw [hp] at h; exact readL_len f q' G (hk.part hp) h
theorem glyphs_len {l : List ByteArray} {G : List Gl} (hl : l.length ≤ 100000) (hsz : ∀ s ∈ l, s.size ≤ 1000) (h : glyphsL l = some G) : G.length ≤ 1000000000 :=
  readL_len _ _ _ ⟨⟨hsz, by show 0 + 2000 * l.length ≤ _; omega, fun x hx => by cases hx⟩, hl⟩ h
/-- Whether words are few and short. -/
def fewB (l : List ByteArray) : Bool := decide (l.length ≤ 100) && l.all fun s => decide (s.size ≤ 60)
def grV : Bool → Int
  | true => 0
  | false => 1
set_option maxHeartbeats 1000000 in
theorem rgreat40 (l : List ByteArray) (A : Option Addr) (n c : Nat) (w : World) (hn : l.length = n) (rd : Rd w w.heap.size 1 A n (sv l)) :
    Calls Tryz.prog 17 #[.slice A n c] w (Same (.int .i64 (grV (fewB l))) w) := by
  by_cases h1 : 100 < n
  · have e : fewB l = false := by unfold fewB; rw [hn, decide_eq_false (by omega)]; rfl
    rw [e]
    have i1 : (100 : Int) < n := by omega
    clear e
    go_enter Tryz.func17, Tryz.ntmps17
    go_wp2
    go_ret
    exact ⟨rfl, rfl⟩
  · have i1 : ¬ (100 : Int) < n := by omega
    have HF : Hid (fewB l = (l.drop 0).all fun s => decide (s.size ≤ 60)) := Lib.hid (by unfold fewB; rw [hn, decide_eq_true (by omega), Bool.true_and, List.drop_zero])
    have HN := Lib.hid hn
    generalize fewB l = F at *
    clear h1 hn
    go_enter Tryz.func17, Tryz.ntmps17
    go_wp2
    go_loopw [3] (fun x wr => ∃ k : Nat, k ≤ n ∧ x = .int .i64 k ∧ wr = w ∧ Hid (F = (l.drop k).all fun s => decide (s.size ≤ 60))) (fun x _ => n - (intOf x).toNat)
    case atStart => exact ⟨0, Nat.zero_le _, rfl, rfl, HF⟩
    case round =>
      have hn100 : n ≤ 100 := by omega
      obtain ⟨k, hk, rfl, rfl, HR⟩ := hrel
      by_cases hlt : k < n
      · have hkl : k < l.length := by have := HN.out; omega
        obtain ⟨b, o, rfl, _, hc⟩ := rd.at_ hlt
        rw [sv_get _ _ hkl] at hc
        have HD : Hid (l.drop k = l[k] :: l.drop (k + 1)) := Lib.hid (List.drop_eq_getElem_cons hkl)
        generalize l[k] = x at *
        by_cases he : 60 < x.size
        · have HR2 : Hid (F = false) := Lib.hid (by rw [HR.out, HD.out, List.all_cons, decide_eq_false (by omega)]; rfl)
          have i2 : (60 : Int) < x.size := by omega
          clear he HR HD
          go_wp2
          go_ret
          exact ⟨by rw [HR2.out]; rfl, rfl⟩
        · have HR2 : Hid (F = (l.drop (k + 1)).all fun s => decide (s.size ≤ 60)) := Lib.hid (by rw [HR.out, HD.out, List.all_cons, decide_eq_true (by omega), Bool.true_and])
          have i2 : ¬ (60 : Int) < x.size := by omega
          clear he HR HD
          go_wp2
          exact ⟨⟨k + 1, by omega, by go_num, trivial, HR2⟩, by simp [intOf]; omega⟩
      · have HR2 : Hid (F = true) := Lib.hid (by rw [HR.out, List.drop_of_length_le (by have := HN.out; omega)]; rfl)
        go_wp2
        go_ret
        exact ⟨by rw [HR2.out]; rfl, rfl⟩
set_option maxHeartbeats 4000000 in
theorem law_SpokentextGlyphs (w : World) (hg : Gd w ∧ Tb w) (A : Option Addr) (n c : Nat) (l : List ByteArray) (hn : l.length = n) (hc : n ≤ c) (hm : c ≤ maxLen) (rd : Rd w w.heap.size 1 A n (sv l)) (hs : ∀ s ∈ l, s.size ≤ maxLen) :
    Calls Tryz.prog 4 #[.slice A n c] w (Gives (.bool true) w) := by
  obtain ⟨hg, ht⟩ := hg
  have HA : Hid (∀ w', Below w.heap.size w w' → Calls Tryz.prog 13 #[] w' fun e w'' => e = .returned (.bool true) ∧ Below w.heap.size w w'') := Lib.hid fun w' hw => (awake_ w' (hg.below hw)).mono fun e w'' ⟨h1, h2⟩ => ⟨h1, hw.trans (h2.mono hw.size)⟩
  have HGr := Lib.hid (rgreat40 l A n c w hn rd)
  cases hf : fewB l with
  | false =>
    rw [hf] at HGr
    simp only [grV] at HGr
    clear rd hs hf hg ht
    go_enter Tryz.func4, Tryz.ntmps4
    go_wp2_with (first
      | (go_at_call 17; refine HGr.out.mono ?_; rintro e w1 ⟨rfl, rfl⟩)
      | (go_at_call 13; refine (HA.out _ (Below.refl _ _)).mono ?_; rintro e wa ⟨rfl, hba⟩))
    go_ret
    exact ⟨rfl, hba⟩
  | true =>
    rw [hf] at HGr
    simp only [grV] at HGr
    unfold fewB at hf
    rw [Bool.and_eq_true, decide_eq_true_eq, List.all_eq_true] at hf
    obtain ⟨hl, hsz⟩ := hf
    have hsz' : ∀ s ∈ l, s.size ≤ 1000 := fun s h => by have := hsz s h; simp only [decide_eq_true_eq] at this; omega
    have HG1 : Hid (∀ w', Below w.heap.size w w' → Calls Tryz.prog 18 #[.slice A n c] w' (GlR (glyphsL l) w')) := Lib.hid fun w' hw =>
      glyphs_ l A n c w' hn hc hm ((rd.below hw).more hw.size) hsz' (by omega) (hg.below hw).1 (hg.below hw).2.1 (hg.below hw).2.2
    have HG2 : Hid (∀ w', Below w.heap.size w w' → Calls Tryz.prog 19 #[.slice A n c] w' (GlR (glyphsL l) w')) := Lib.hid fun w' hw =>
      rglyphs l A n c w' hn hc hm ((rd.below hw).more hw.size) hsz' (by omega) (ht.below hw)
    have hb0 : Below w.heap.size w w := Below.refl _ _
    have hlen : ∀ G, glyphsL l = some G → G.length ≤ 1000000000 := fun G h => glyphs_len (by omega) hsz' h
    clear rd hs hg ht hsz hsz'
    cases hG : glyphsL l with
    | none =>
      rw [hG] at HG1 HG2
      have HSR : Hid (∀ w', Calls Tryz.prog 20 #[.slice none 0 0, .slice none 0 0] w' (Gives (.bool true) w')) := Lib.hid fun w' => (rsamerow [] [] none none 0 0 0 0 0 w' (by omega) Rd.none_ Rd.none_).mono fun e w'' h => h.gives
      clear hG hlen
      go_enter Tryz.func4, Tryz.ntmps4
      go_wp2_with (first
        | (go_at_call 17; refine HGr.out.mono ?_; rintro e w1 ⟨rfl, rfl⟩)
        | (go_at_call 18; refine (HG1.out _ hb0).mono ?_; rintro e w2 ⟨hb2, rfl⟩)
        | (go_at_call 19; refine (HG2.out _ hb2).mono ?_; rintro e w3 ⟨hb3, rfl⟩; have t3 := hb2.trans (hb3.mono hb2.size))
        | (go_at_call 20; refine (HSR.out _).mono ?_; rintro e w4 ⟨rfl, hb4⟩; have t4 := t3.trans (hb4.mono t3.size))
        | (go_at_call 13; refine (HA.out _ t4).mono ?_; rintro e wa ⟨rfl, hba⟩))
      go_ret
      exact ⟨rfl, hba⟩
    | some G =>
      rw [hG] at HG1 HG2
      have hGl := hlen G hG
      have HSR : Hid (∀ A2 c2 A3 c3 w' B2 B3, w'.ownsRow B2 41 3 (.slice A2 G.length c2) G.length (encGs G) → w'.ownsRow B3 41 3 (.slice A3 G.length c3) G.length (encGs G) → Calls Tryz.prog 20 #[.slice A2 G.length c2, .slice A3 G.length c3] w' (Gives (.bool true) w')) := Lib.hid fun A2 c2 A3 c3 w' B2 B3 o2 o3 => by
        have h := rsamerow G G A2 A3 G.length G.length c2 c3 w'.heap.size w' hGl (Rd.of_own o2) (Rd.of_own o3)
        rw [decide_eq_true rfl] at h
        exact h.mono fun e w'' h => h.gives
      clear hG hlen
      go_enter Tryz.func4, Tryz.ntmps4
      go_wp2_with (first
        | (go_at_call 17; refine HGr.out.mono ?_; rintro e w1 ⟨rfl, rfl⟩)
        | (go_at_call 18; refine (HG1.out _ hb0).mono ?_; rintro e w2 ⟨hb2, A2, c2, rfl, o2⟩)
        | (go_at_call 19; refine (HG2.out _ hb2).mono ?_; rintro e w3 ⟨hb3, A3, c3, rfl, o3⟩; have t3 := hb2.trans (hb3.mono hb2.size); have o23 := own_below o2 hb3)
        | (go_at_call 20; refine (HSR.out _ _ _ _ _ _ _ o23 o3).mono ?_; rintro e w4 ⟨rfl, hb4⟩; have t4 := t3.trans (hb4.mono t3.size))
        | (go_at_call 13; refine (HA.out _ t4).mono ?_; rintro e wa ⟨rfl, hba⟩))
      go_ret
      exact ⟨rfl, hba⟩
end Go.Proofs.YtndgcjdiemfngaaGreatDoor
