/- Joined texts: Wo1, SpC. -/
import Derived.Test.YtejjfiipghcifaaGreatDoorQAJ
import Derived.Test.YtejjfiipghcifaaGreatDoorQAU
set_option linter.unusedVariables false
set_option linter.unusedSimpArgs false
set_option linter.unnecessarySimpa false
namespace Go.Proofs.YtejjfiipghcifaaGreatDoor
open Go.RowKit
set_option maxRecDepth 20000
def WoB (w : World) (r : Int) (d sp : Bool) (p : Int) (con : Bool) (k : Int) (v : Value) (wx : World) : Prop :=
 ∃ g nb, v = .pointer (some ⟨g, 0, none⟩) ∧ nb < g ∧ w.heap.size + 1 ≤ nb ∧ Blk wx g 89 (spkC r d sp p con k nb (.slice none 0 0) 0 (0 : Nat) false) ∧ SetM wx nb 32 isNumW ∧ Below w.heap.size w wx ∧ StBox wx r d sp p con k w.heap.size ∧ wx.heap.size = g + 1
set_option maxHeartbeats 8000000 in
theorem words_ (l : List Gl) (A : Option Addr) (n c B : Nat) (r : Int) (d sp : Bool) (p : Int) (con : Bool) (k : Int) (w : World) (hs : Sp w) (hu : U8 w) (hty : Sty w) (hn : l.length ≤ 1000) (hnc : n ≤ c) (hcx : c ≤ maxLen) (hok : ∀ x ∈ l, GW x)
  (rd : Rd w B 3 A n (encGs l)) (hB : B ≤ w.heap.size) :
  Calls Tryz.prog 41 #[.slice A n c, stV r d sp p con k] w (GivesOwn 9 1 id w (spokenWords l ⟨d, sp, p⟩).length (sv (spokenWords l ⟨d, sp, p⟩))) := by
 have hln := gl_len rd
 have HI0 := Lib.hid (WoI.start ⟨d, sp, p⟩ l hn hok)
 generalize spokenWords l ⟨d, sp, p⟩ = R at *
 have HOK := Lib.hid hok
 have HCk : Hid (∀ g ∈ l, ∀ w', Below w.heap.size w w' → Calls Tryz.prog 58 #[.string g.text] w' (Gives (.int .i64 0) w')) := Lib.hid fun g hg w' hw => by
  have h := hok g hg
  have := check_ g.text (by have := h.1.2; omega) w' (hu.below hw)
  rwa [h.1.1] at this
 have HVo := Lib.hid vocabulary_
 have HU := Lib.hid (And.intro hs hty)
 clear hs hu hty hok
 have hx63 : c ≤ 9223372036854775807 := by unfold maxLen at hcx; omega
 go_enter Tryz.func41, Tryz.ntmps41
 go_upto_region 1 with fail
 refine wp_fg (fun wx => StBox wx r d sp p con k w.heap.size ∧ Below w.heap.size w wx ∧ wx.heap.size = w.heap.size + 1) ⟨StBox.new w r d sp p con k _, (Below.refl _ _).alloc (Nat.le_refl _) _, by simp⟩ ?_
 rintro wb ⟨hst, hb0, hz0⟩
 go_wp2
 go_loopw [11] (fun x wr => ∃ j : Nat, j ≤ n ∧ x = .int .i64 j ∧ Below (w.heap.size + 1) wb wr) (fun x _ => n - (intOf x).toNat)
 case atStart => exact ⟨0, Nat.zero_le _, rfl, Below.refl _ _⟩
 case round =>
  obtain ⟨j, hj, rfl, hbel⟩ := hrel
  have hb1 : Below w.heap.size w wr := hb0.trans (hbel.mono (by omega))
  have zr := hbel.size
  by_cases hlt : j < n
  ·have hjl : j < l.length := by omega
   obtain ⟨b, o, rfl, hbB, a0, a1, a2⟩ := rd_gl (rd.keep (w' := wr) fun p hp => hb1.cell (by omega)) hjl hln
   have HC := Lib.hid (HCk.out l[j] (List.getElem_mem hjl))
   have hsty := (HOK.out l[j] (List.getElem_mem hjl)).2
   generalize l[j] = g at *
   obtain ⟨t, wd, s⟩ := g
   dsimp only at *
   have i1 : ¬ s < 0 := by omega
   have i2 : decide (s < 0) = false := decide_eq_false i1
   have i3 : ¬ 3 < s := by omega
   have i4 : decide (3 < s) = false := decide_eq_false i3
   go_upto_region 4 with fail
   refine wp_fg (GlBox wr t wd s) (GlBox.new wr t wd s _) ?_
   rintro wc ⟨d0, d1, d2, hbc, hzc⟩
   have hb2 : Below w.heap.size w wc := hb1.trans (hbc.mono (by omega))
   go_wp2_with (go_at_call 58; refine (HC.out _ hb2).mono ?_; rintro e w1 ⟨rfl, hbel1⟩)
   exact ⟨⟨j + 1, by omega, by go_num, (hbel.trans (hbc.mono (by omega))).trans (hbel1.mono (by omega))⟩, by simp [intOf]; omega⟩
  ·obtain rfl : j = n := by omega
   have hst2 := hst.below hbel (Nat.lt_succ_self _)
   clear HCk HOK
   go_wp2
   have hst3 : StBox wr.drew r d sp p con k w.heap.size := hst2
   have hb1d := hb1.drew
   go_cut [7] (fun v wx => WoB w r d sp p con k v wx)
   case first =>
    have hst4 := hst3
    obtain ⟨s0, s1, s2, s3, s4, s5⟩ := hst3
    have HVd := HVo.out wr.drew
    go_region_law (go_simp; go_at_call 59; refine HVd.mono ?_; rintro e w2 ⟨nb, rfl, hset, hnb, hbel2⟩; have B1 : Below (w.heap.size + 1) wr.drew w2 := hbel2.mono (by show _ ≤ wr.heap.size; omega); have B2 := hst4.below B1 (Nat.lt_succ_self _); have B3 := B2; obtain ⟨e0, e1, e2, e3, e4, e5⟩ := B2)
    all_goals go_wp2
    all_goals go_meet
    all_goals (
     have hb54 : Below w.heap.size w w2 := hb1d.trans (B1.mono (by omega))
     refine ⟨w2.heap.size, nb, rfl, hset.lt, by show w.heap.size + 1 ≤ nb; have hh : wr.heap.size ≤ nb := hnb; omega, Blk.new w2 _ _, hset.below ((Below.refl _ _).alloc (Nat.le_refl _) _), hb54.alloc hb54.size _, B3.below ((Below.refl _ _).alloc (Nat.le_refl _) _) (Nat.lt_of_lt_of_le (Nat.lt_of_lt_of_le (Nat.lt_succ_self _) (show w.heap.size + 1 ≤ wr.heap.size by omega)) B1.size), by simp⟩)
   case rest =>
    obtain ⟨g, nb, rfl, hng, hzn, hblk, hset, hbg, hstw, hzw⟩ := hcut
    go_wp2
    go_loopw [0] (fun v wr => ∃ A' m' c' q rest A2 c2, v = .slice A' m' c' ∧ m' ≤ c' ∧ c' ≤ maxLen ∧ Rd wr w.heap.size 3 A' m' (encGs rest) ∧ Hid (WoI ⟨d, sp, p⟩ R q rest) ∧ Blk wr g 89 (spkC r d sp p con k nb (.slice A2 q.out.length c2) q.style q.before q.silent) ∧ wr.ownsRow (g + 1) 9 1 (.slice A2 q.out.length c2) q.out.length (sv q.out) ∧ SetM wr nb 32 isNumW ∧ StBox wr r d sp p con k w.heap.size ∧ Below w.heap.size w wr ∧ g < wr.heap.size) (fun v _ => lenV v)
    case atStart => exact ⟨A, _, c, ⟨[], 0, 0, false⟩, l, none, 0, rfl, hnc, hcx, (rd.more hB).below hbg, HI0, hblk, own_nil _ _ _ _, hset, hstw, hbg, by omega⟩
    case round =>
     clear hset hstw hbg hblk
     obtain ⟨A', m', c', q, rest, A2, c2, rfl, hmc, hcm, rdR, HI, hbk, how, hse, hsb, hbl, hgl⟩ := hrel
     have hml := gl_len rdR
     obtain ⟨s0, s1, s2, s3, s4, s5⟩ := id hsb
     have hgw : w.heap.size + 2 ≤ g := by omega
     cases rest with
     | nil =>
      obtain rfl : m' = 0 := by simpa using hml.symm
      have C7 := hbk.cell 7
      simp only [spkC, List.getElem?_toArray, List.getElem?_cons_zero, List.getElem?_cons_succ] at C7
      go_wp2
      go_ret
      rw [HI.out.stop]
      exact ⟨A2, c2, rfl, own_less how (by show w.heap.size ≤ g + 1; omega), hbl⟩
     | cons a t =>
      have HIo := HI.out
      have hn10 := HIo.len
      have hGW := HIo.2.1
      have hql := HIo.2.2.1
      have hqs := HIo.2.2.2
      rw [hml] at hn10
      have HPi := Lib.hid (piece_ a t p A' m' c' w.heap.size wr (by omega) hmc hcm (fun x hx => Nat.le_trans (hGW x hx).1.2 (by decide)) (hGW a (by simp)).1.valid rdR hbl.size)
      have hP := pieceL_pos (g := a) (t := t) p
      have hP2 : pieceL (a :: t) p ≤ m' := by rw [List.length_cons] at hml; omega
      have HSk : Hid (∀ w', Below wr.heap.size wr w' → Calls Tryz.prog 61 #[.pointer (some ⟨g, 0, none⟩), .slice A' m' c', .int .i64 (pieceL (a :: t) p : Nat)] w' (Gives (.bool (skipsB q ⟨d, sp, p⟩ (a :: t) (pieceL (a :: t) p))) w')) := Lib.hid fun w' hw =>
       skips_ a t _ A' m' c' g w.heap.size r d sp p con k nb _ q.out q.style q.before q.silent w' (HU.out.1.below (hbl.trans (hw.mono hbl.size)) (Nat.le_refl _)) (hse.below hw) hn10 hmc hcm (fun x hx => (hGW x hx).1) (rdR.below (hw.mono hbl.size)) (Nat.le_trans hbl.size hw.size) (hbk.below hw hgl)
      have HSay : Hid (skipsB q ⟨d, sp, p⟩ (a :: t) (pieceL (a :: t) p) = false → ∀ w', Below wr.heap.size wr w' → Calls Tryz.prog 62 #[.pointer (some ⟨g, 0, none⟩), .slice A' (pieceL (a :: t) p) c'] w' (SayP g r d sp p con k nb (sayL q ⟨d, sp, p⟩ ((a :: t).take (pieceL (a :: t) p))) w')) := Lib.hid fun _ w' hw => by
       obtain ⟨pm, hpm⟩ : ∃ pm, pieceL (a :: t) p = pm + 1 := ⟨pieceL (a :: t) p - 1, by omega⟩
       have htk : (a :: t).take (pieceL (a :: t) p) = a :: t.take pm := by rw [hpm, List.take_succ_cons]
       exact say_ _ a _ htk A' _ c' g w.heap.size r d sp p con k nb A2 c2 q.out q.style q.before q.silent w' (HU.out.1.below (hbl.trans (hw.mono hbl.size)) (Nat.le_refl _)) (HU.out.2.below (hbl.trans (hw.mono hbl.size)) (Nat.le_refl _)) (hse.below hw) (piece_ok rfl (by omega) (fun x hx => (hGW x hx).1) p) (hGW a (by simp)).1 (hGW a (by simp)).2 (by omega) hqs
        (by have := (rdR.take hP2).below (hw.mono hbl.size); rwa [← encGs_take] at this) (by omega) hng (hbk.below hw hgl) (own_below how hw)
      have HTl : Hid (∀ w', Below w.heap.size wr w' → Rd w' w.heap.size 3 (if c' = pieceL (a :: t) p then A' else A'.map (·.add (pieceL (a :: t) p * 3))) (m' - pieceL (a :: t) p) (encGs ((a :: t).drop (pieceL (a :: t) p)))) := Lib.hid fun w' hw => by
       have := (rdR.cut hP2 hmc).below hw
       rwa [← encGs_drop] at this
      have HN1 := Lib.hid (fun h => HIo.skip h)
      have HN2 := Lib.hid (fun h => HIo.say h)
      clear HIo hGW hql hqs HI
      simp only at HN1 HN2
      generalize hPe : pieceL (a :: t) p = P at *
      clear hPe
      have hm0 : 0 < m' := by omega
      cases hsk : skipsB q ⟨d, sp, p⟩ (a :: t) P with
      | true =>
       rw [hsk] at HSk
       have HI2 := Lib.hid (HN1.out hsk)
       clear HN1 HN2 HSay hsk
       go_wp2_with (first
        | (go_at_call 60; refine HPi.out.mono ?_; rintro e w1 ⟨rfl, hbel1⟩; have z1 := hbel1.size)
        | (go_at_call 61; refine (HSk.out w1 hbel1).mono ?_; rintro e w2 ⟨rfl, hbel2⟩; have B4 := (hbk.below hbel1 hgl).below hbel2 (by omega); have c40 := B4.cell 10; have f40 := B4.frozen 10; simp only [spkC, List.getElem?_toArray, List.getElem?_cons_zero, List.getElem?_cons_succ] at c40))
       have t2 := hbel1.trans (hbel2.mono z1)
       have tg : Below g wr (w2.setCell ⟨g, 10, none⟩ (.bool true)) := (t2.mono (Nat.le_of_lt hgl)).setCell (Nat.le_refl g) _
       have bw : Below w.heap.size wr (w2.setCell ⟨g, 10, none⟩ (.bool true)) := tg.mono (by omega)
       have hgz : g < (w2.setCell ⟨g, 10, none⟩ (.bool true)).heap.size := Nat.lt_of_lt_of_le hgl tg.size
       exact ⟨⟨_, _, _, ⟨q.out, q.style, q.before, true⟩, _, A2, c2, rfl, by omega, by omega, HTl.out _ bw, HI2, by have := B4.set_ 10 (.bool true); simpa [spkC] using this, own_set (own_below how t2) (Nat.lt_succ_self g) _, hse.up tg hng, hsb.below tg (by omega), hbl.trans bw, hgz⟩, by simp only [lenV]; omega⟩
      | false =>
       rw [hsk] at HSk
       have HI2 := Lib.hid (HN2.out hsk)
       have HSy := Lib.hid (HSay.out hsk)
       clear HN1 HN2 HSay hsk
       go_wp2_with (first
        | (go_at_call 60; refine HPi.out.mono ?_; rintro e w1 ⟨rfl, hbel1⟩; have z1 := hbel1.size)
        | (go_at_call 61; refine (HSk.out w1 hbel1).mono ?_; rintro e w2 ⟨rfl, hbel2⟩; have t2 := hbel1.trans (hbel2.mono z1))
        | (go_at_call 62; refine (HSy.out w2 t2).mono ?_; rintro e w3 ⟨A3, c3, rfl, hbk3, hown3, hbel3⟩))
       have tg : Below g wr w3 := (t2.mono (Nat.le_of_lt hgl)).trans hbel3
       have bw : Below w.heap.size wr w3 := tg.mono (by omega)
       exact ⟨⟨_, _, _, sayL q ⟨d, sp, p⟩ ((a :: t).take P), _, A3, c3, rfl, by omega, by omega, HTl.out _ bw, HI2, hbk3, hown3, hse.up tg hng, hsb.below tg (by omega), hbl.trans bw, Nat.lt_of_lt_of_le hgl tg.size⟩, by simp only [lenV]; omega⟩
end Go.Proofs.YtejjfiipghcifaaGreatDoor
namespace Go.Proofs.YtejjfiipghcifaaGreatDoor
open Go.RowKit
set_option maxRecDepth 20000
def BadS (r q k : Int) : Prop := (r < 25 ∨ 400 < r) ∨ (q ≠ 0 ∧ (q < 2 ∨ 132 < q)) ∨ (k < 1 ∨ 80 < k)
instance (r q k : Int) : Decidable (BadS r q k) := by unfold BadS; infer_instance
def setE (r q k : Int) : Int := if BadS r q k then 2 else 0
theorem setE_bad {r q k : Int} (h : BadS r q k) : setE r q k = 2 := if_pos h
theorem setE_ok {r q k : Int} (h : ¬ BadS r q k) : setE r q k = 0 := if_neg h
set_option maxHeartbeats 2000000 in
theorem check_s (r : Int) (d sp : Bool) (q : Int) (con : Bool) (k : Int) (w : World) : Calls Tryz.prog 22 #[stV r d sp q con k] w (Gives (.int .i64 (setE r q k)) w) := by
 obtain ⟨X, hX⟩ : ∃ X, X = setE r q k := ⟨_, rfl⟩
 rw [← hX]
 have HB : Hid (BadS r q k → X = 2) := Lib.hid fun h => by rw [hX, setE_bad h]
 have HO : Hid (¬ BadS r q k → X = 0) := Lib.hid fun h => by rw [hX, setE_ok h]
 obtain ⟨C0, C1, C2, C3, C4, C5⟩ := StBox.new w r d sp q con k 24
 clear hX
 go_enter Tryz.func22, Tryz.ntmps22
 go_wp2
 all_goals go_ret
 all_goals first
  | exact ⟨by rw [HO.out (by unfold BadS; simp at *; omega)]; rfl, (Below.refl _ _).alloc (Nat.le_refl _) _⟩
  | exact ⟨by rw [HB.out (by unfold BadS; simp at *; omega)]; rfl, (Below.refl _ _).alloc (Nat.le_refl _) _⟩
set_option maxHeartbeats 2000000 in
theorem rcheck_s (r : Int) (d sp : Bool) (q : Int) (con : Bool) (k : Int) (w : World) : Calls Tryz.prog 26 #[stV r d sp q con k] w (Gives (.int .i64 (setE r q k)) w) := by
 obtain ⟨X, hX⟩ : ∃ X, X = setE r q k := ⟨_, rfl⟩
 rw [← hX]
 have HB : Hid (BadS r q k → X = 2) := Lib.hid fun h => by rw [hX, setE_bad h]
 have HO : Hid (¬ BadS r q k → X = 0) := Lib.hid fun h => by rw [hX, setE_ok h]
 obtain ⟨C0, C1, C2, C3, C4, C5⟩ := StBox.new w r d sp q con k 24
 clear hX
 go_enter Tryz.func26, Tryz.ntmps26
 go_wp2
 all_goals go_ret
 all_goals first
  | exact ⟨by rw [HO.out (by unfold BadS; simp at *; omega)]; rfl, (Below.refl _ _).alloc (Nat.le_refl _) _⟩
  | exact ⟨by rw [HB.out (by unfold BadS; simp at *; omega)]; rfl, (Below.refl _ _).alloc (Nat.le_refl _) _⟩
end Go.Proofs.YtejjfiipghcifaaGreatDoor
