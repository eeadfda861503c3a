/- Joined texts: Wo1, AwK, SpC. -/
import Derived.Test.YtndgcjdiemfngaaGreatDoorQAB
import Derived.Test.YtndgcjdiemfngaaGreatDoorQAI
import Derived.Test.YtndgcjdiemfngaaGreatDoorQAU
import Derived.Test.YtndgcjdiemfngaaGreatDoorQAY
import Derived.Test.YtndgcjdiemfngaaGreatDoorQAZ
import Derived.Test.YtndgcjdiemfngaaGreatDoorQBF
set_option linter.unusedVariables false
set_option linter.unusedSimpArgs false
set_option linter.unnecessarySimpa false
/- spokentext.Words. -/
namespace Go.Proofs.YtndgcjdiemfngaaGreatDoor
open Go.RowKit
set_option maxRecDepth 20000
/-- The speaker stands. -/
def WoB (w : World) (r : Int) (d sp : Bool) (p : Int) (con : Bool) (k : Int) (v : Value) (wx : World) : Prop :=
  ∃ g nb, v = .pointer (some ⟨g, 0, none⟩) ∧ nb < g ∧ w.heap.size + 1 ≤ nb ∧ Blk wx g 54 (spkC r d sp p con k nb (.slice none 0 0) 0 (0 : Nat) false) ∧ SetM wx nb 32 isNumW ∧ Below w.heap.size w wx ∧ StBox wx r d sp p con k w.heap.size ∧ wx.heap.size = g + 1
set_option maxHeartbeats 8000000 in
theorem words_ (l : List Gl) (A : Option Addr) (n c B : Nat) (r : Int) (d sp : Bool) (p : Int) (con : Bool) (k : Int) (w : World) (hs : Sp w) (hu : U8 w) (hty : Sty w) (hn : l.length ≤ 1000) (hnc : n ≤ c) (hcx : c ≤ maxLen) (hok : ∀ x ∈ l, GW x)
    (rd : Rd w B 3 A n (encGs l)) (hB : B ≤ w.heap.size) :
    Calls Tryz.prog 15 #[.slice A n c, stV r d sp p con k] w (GivesOwn 9 1 id w (spokenWords l ⟨d, sp, p⟩).length (sv (spokenWords l ⟨d, sp, p⟩))) := by
  have hln := gl_len rd
  have HI0 := Lib.hid (WoI.start ⟨d, sp, p⟩ l hn hok)
  generalize spokenWords l ⟨d, sp, p⟩ = R at *
  have HOK := Lib.hid hok
  have HCk : Hid (∀ g ∈ l, ∀ w', Below w.heap.size w w' → Calls Tryz.prog 28 #[.string g.text] w' (Gives (.int .i64 0) w')) := Lib.hid fun g hg w' hw => by
    have h := hok g hg
    have := check_ g.text (by have := h.1.2; omega) w' (hu.below hw)
    rwa [h.1.1] at this
  have HVo := Lib.hid vocabulary_
  have HU := Lib.hid (And.intro hs hty)
  clear hs hu hty hok
  have hx63 : c ≤ 9223372036854775807 := by unfold maxLen at hcx; omega
  go_enter Tryz.func15, Tryz.ntmps15
  go_upto_region 1 with fail
  refine wp_fg (fun wx => StBox wx r d sp p con k w.heap.size ∧ Below w.heap.size w wx ∧ wx.heap.size = w.heap.size + 1) ⟨StBox.new w r d sp p con k _, (Below.refl _ _).alloc (Nat.le_refl _) _, by simp⟩ ?_
  rintro wb ⟨hst, hb0, hz0⟩
  go_wp2
  go_loopw [11] (fun x wr => ∃ j : Nat, j ≤ n ∧ x = .int .i64 j ∧ Below (w.heap.size + 1) wb wr) (fun x _ => n - (intOf x).toNat)
  case atStart => exact ⟨0, Nat.zero_le _, rfl, Below.refl _ _⟩
  case round =>
    obtain ⟨j, hj, rfl, hbel⟩ := hrel
    have hb1 : Below w.heap.size w wr := hb0.trans (hbel.mono (by omega))
    have zr := hbel.size
    by_cases hlt : j < n
    · have hjl : j < l.length := by omega
      obtain ⟨b, o, rfl, hbB, a0, a1, a2⟩ := rd_gl (rd.keep (w' := wr) fun p hp => hb1.cell (by omega)) hjl hln
      have HC := Lib.hid (HCk.out l[j] (List.getElem_mem hjl))
      have hsty := (HOK.out l[j] (List.getElem_mem hjl)).2
      generalize l[j] = g at *
      obtain ⟨t, wd, s⟩ := g
      dsimp only at *
      have i1 : ¬ s < 0 := by omega
      have i2 : decide (s < 0) = false := decide_eq_false i1
      have i3 : ¬ 3 < s := by omega
      have i4 : decide (3 < s) = false := decide_eq_false i3
      go_upto_region 4 with fail
      refine wp_fg (GlBox wr t wd s) (GlBox.new wr t wd s _) ?_
      rintro wc ⟨d0, d1, d2, hbc, hzc⟩
      have hb2 : Below w.heap.size w wc := hb1.trans (hbc.mono (by omega))
      go_wp2_with (go_at_call 28; refine (HC.out _ hb2).mono ?_; rintro e w1 ⟨rfl, hbel1⟩)
      exact ⟨⟨j + 1, by omega, by go_num, (hbel.trans (hbc.mono (by omega))).trans (hbel1.mono (by omega))⟩, by simp [intOf]; omega⟩
    · obtain rfl : j = n := by omega
      have hst2 := hst.below hbel (Nat.lt_succ_self _)
      clear HCk HOK
      go_wp2
      have hst3 : StBox wr.drew r d sp p con k w.heap.size := hst2
      have hb1d := hb1.drew
      go_cut [7] (fun v wx => WoB w r d sp p con k v wx)
      case first =>
        have hst4 := hst3
        obtain ⟨s0, s1, s2, s3, s4, s5⟩ := hst3
        have HVd := HVo.out wr.drew
        go_region_law (go_simp; go_at_call 29; refine HVd.mono ?_; rintro e w2 ⟨nb, rfl, hset, hnb, hbel2⟩; have B1 : Below (w.heap.size + 1) wr.drew w2 := hbel2.mono (by show _ ≤ wr.heap.size; omega); have B2 := hst4.below B1 (Nat.lt_succ_self _); have B3 := B2; obtain ⟨e0, e1, e2, e3, e4, e5⟩ := B2)
        all_goals go_wp2
        all_goals go_meet
        all_goals (
          have hb54 : Below w.heap.size w w2 := hb1d.trans (B1.mono (by omega))
          refine ⟨w2.heap.size, nb, rfl, hset.lt, by show w.heap.size + 1 ≤ nb; have hh : wr.heap.size ≤ nb := hnb; omega, Blk.new w2 _ _, hset.below ((Below.refl _ _).alloc (Nat.le_refl _) _), hb54.alloc hb54.size _, B3.below ((Below.refl _ _).alloc (Nat.le_refl _) _) (Nat.lt_of_lt_of_le (Nat.lt_of_lt_of_le (Nat.lt_succ_self _) (show w.heap.size + 1 ≤ wr.heap.size by omega)) B1.size), by simp⟩)
      case rest =>
        obtain ⟨g, nb, rfl, hng, hzn, hblk, hset, hbg, hstw, hzw⟩ := hcut
        go_wp2
        go_loopw [0] (fun v wr => ∃ A' m' c' q rest A2 c2, v = .slice A' m' c' ∧ m' ≤ c' ∧ c' ≤ maxLen ∧ Rd wr w.heap.size 3 A' m' (encGs rest) ∧ Hid (WoI ⟨d, sp, p⟩ R q rest) ∧ Blk wr g 54 (spkC r d sp p con k nb (.slice A2 q.out.length c2) q.style q.before q.silent) ∧ wr.ownsRow (g + 1) 9 1 (.slice A2 q.out.length c2) q.out.length (sv q.out) ∧ SetM wr nb 32 isNumW ∧ StBox wr r d sp p con k w.heap.size ∧ Below w.heap.size w wr ∧ g < wr.heap.size) (fun v _ => lenV v)
        case atStart => exact ⟨A, _, c, ⟨[], 0, 0, false⟩, l, none, 0, rfl, hnc, hcx, (rd.more hB).below hbg, HI0, hblk, own_nil _ _ _ _, hset, hstw, hbg, by omega⟩
        case round =>
          clear hset hstw hbg hblk
          obtain ⟨A', m', c', q, rest, A2, c2, rfl, hmc, hcm, rdR, HI, hbk, how, hse, hsb, hbl, hgl⟩ := hrel
          have hml := gl_len rdR
          obtain ⟨s0, s1, s2, s3, s4, s5⟩ := id hsb
          have hgw : w.heap.size + 2 ≤ g := by omega
          cases rest with
          | nil =>
            obtain rfl : m' = 0 := by simpa using hml.symm
            have C7 := hbk.cell 7
            simp only [spkC, List.getElem?_toArray, List.getElem?_cons_zero, List.getElem?_cons_succ] at C7
            go_wp2
            go_ret
            rw [HI.out.stop]
            exact ⟨A2, c2, rfl, own_less how (by show w.heap.size ≤ g + 1; omega), hbl⟩
          | cons a t =>
            have HIo := HI.out
            have hn10 := HIo.len
            have hGW := HIo.2.1
            have hql := HIo.2.2.1
            have hqs := HIo.2.2.2
            rw [hml] at hn10
            have HPi := Lib.hid (piece_ a t p A' m' c' w.heap.size wr (by omega) hmc hcm (fun x hx => Nat.le_trans (hGW x hx).1.2 (by decide)) (hGW a (by simp)).1.valid rdR hbl.size)
            have hP := pieceL_pos (g := a) (t := t) p
            have hP2 : pieceL (a :: t) p ≤ m' := by rw [List.length_cons] at hml; omega
            have HSk : Hid (∀ w', Below wr.heap.size wr w' → Calls Tryz.prog 31 #[.pointer (some ⟨g, 0, none⟩), .slice A' m' c', .int .i64 (pieceL (a :: t) p : Nat)] w' (Gives (.bool (skipsB q ⟨d, sp, p⟩ (a :: t) (pieceL (a :: t) p))) w')) := Lib.hid fun w' hw =>
              skips_ a t _ A' m' c' g w.heap.size r d sp p con k nb _ q.out q.style q.before q.silent w' (HU.out.1.below (hbl.trans (hw.mono hbl.size)) (Nat.le_refl _)) (hse.below hw) hn10 hmc hcm (fun x hx => (hGW x hx).1) (rdR.below (hw.mono hbl.size)) (Nat.le_trans hbl.size hw.size) (hbk.below hw hgl)
            have HSay : Hid (skipsB q ⟨d, sp, p⟩ (a :: t) (pieceL (a :: t) p) = false → ∀ w', Below wr.heap.size wr w' → Calls Tryz.prog 32 #[.pointer (some ⟨g, 0, none⟩), .slice A' (pieceL (a :: t) p) c'] w' (SayP g r d sp p con k nb (sayL q ⟨d, sp, p⟩ ((a :: t).take (pieceL (a :: t) p))) w')) := Lib.hid fun _ w' hw => by
              obtain ⟨pm, hpm⟩ : ∃ pm, pieceL (a :: t) p = pm + 1 := ⟨pieceL (a :: t) p - 1, by omega⟩
              have htk : (a :: t).take (pieceL (a :: t) p) = a :: t.take pm := by rw [hpm, List.take_succ_cons]
              exact say_ _ a _ htk A' _ c' g w.heap.size r d sp p con k nb A2 c2 q.out q.style q.before q.silent w' (HU.out.1.below (hbl.trans (hw.mono hbl.size)) (Nat.le_refl _)) (HU.out.2.below (hbl.trans (hw.mono hbl.size)) (Nat.le_refl _)) (hse.below hw) (piece_ok rfl (by omega) (fun x hx => (hGW x hx).1) p) (hGW a (by simp)).1 (hGW a (by simp)).2 (by omega) hqs
                (by have := (rdR.take hP2).below (hw.mono hbl.size); rwa [← encGs_take] at this) (by omega) hng (hbk.below hw hgl) (own_below how hw)
            have HTl : Hid (∀ w', Below w.heap.size wr w' → Rd w' w.heap.size 3 (if c' = pieceL (a :: t) p then A' else A'.map (·.add (pieceL (a :: t) p * 3))) (m' - pieceL (a :: t) p) (encGs ((a :: t).drop (pieceL (a :: t) p)))) := Lib.hid fun w' hw => by
              have := (rdR.cut hP2 hmc).below hw
              rwa [← encGs_drop] at this
            have HN1 := Lib.hid (fun h => HIo.skip h)
            have HN2 := Lib.hid (fun h => HIo.say h)
            clear HIo hGW hql hqs HI
            simp only at HN1 HN2
            generalize hPe : pieceL (a :: t) p = P at *
            clear hPe
            have hm0 : 0 < m' := by omega
            cases hsk : skipsB q ⟨d, sp, p⟩ (a :: t) P with
            | true =>
              rw [hsk] at HSk
              have HI2 := Lib.hid (HN1.out hsk)
              clear HN1 HN2 HSay hsk
              go_wp2_with (first
                | (go_at_call 30; refine HPi.out.mono ?_; rintro e w1 ⟨rfl, hbel1⟩; have z1 := hbel1.size)
                | (go_at_call 31; refine (HSk.out w1 hbel1).mono ?_; rintro e w2 ⟨rfl, hbel2⟩; have B4 := (hbk.below hbel1 hgl).below hbel2 (by omega); have c40 := B4.cell 10; have f40 := B4.frozen 10; simp only [spkC, List.getElem?_toArray, List.getElem?_cons_zero, List.getElem?_cons_succ] at c40))
              have t2 := hbel1.trans (hbel2.mono z1)
              have tg : Below g wr (w2.setCell ⟨g, 10, none⟩ (.bool true)) := (t2.mono (Nat.le_of_lt hgl)).setCell (Nat.le_refl g) _
              have bw : Below w.heap.size wr (w2.setCell ⟨g, 10, none⟩ (.bool true)) := tg.mono (by omega)
              have hgz : g < (w2.setCell ⟨g, 10, none⟩ (.bool true)).heap.size := Nat.lt_of_lt_of_le hgl tg.size
              exact ⟨⟨_, _, _, ⟨q.out, q.style, q.before, true⟩, _, A2, c2, rfl, by omega, by omega, HTl.out _ bw, HI2, by have := B4.set_ 10 (.bool true); simpa [spkC] using this, own_set (own_below how t2) (Nat.lt_succ_self g) _, hse.up tg hng, hsb.below tg (by omega), hbl.trans bw, hgz⟩, by simp only [lenV]; omega⟩
            | false =>
              rw [hsk] at HSk
              have HI2 := Lib.hid (HN2.out hsk)
              have HSy := Lib.hid (HSay.out hsk)
              clear HN1 HN2 HSay hsk
              go_wp2_with (first
                | (go_at_call 30; refine HPi.out.mono ?_; rintro e w1 ⟨rfl, hbel1⟩; have z1 := hbel1.size)
                | (go_at_call 31; refine (HSk.out w1 hbel1).mono ?_; rintro e w2 ⟨rfl, hbel2⟩; have t2 := hbel1.trans (hbel2.mono z1))
                | (go_at_call 32; refine (HSy.out w2 t2).mono ?_; rintro e w3 ⟨A3, c3, rfl, hbk3, hown3, hbel3⟩))
              have tg : Below g wr w3 := (t2.mono (Nat.le_of_lt hgl)).trans hbel3
              have bw : Below w.heap.size wr w3 := tg.mono (by omega)
              exact ⟨⟨_, _, _, sayL q ⟨d, sp, p⟩ ((a :: t).take P), _, A3, c3, rfl, by omega, by omega, HTl.out _ bw, HI2, hbk3, hown3, hse.up tg hng, hsb.below tg (by omega), hbl.trans bw, Nat.lt_of_lt_of_le hgl tg.size⟩, by simp only [lenV]; omega⟩
end Go.Proofs.YtndgcjdiemfngaaGreatDoor
/- Layer 40's statements: the examples. -/
namespace Go.Proofs.YtndgcjdiemfngaaGreatDoor
open Go.RowKit
set_option maxRecDepth 20000
/-- What the statements lean on in memory. -/
def Gd (w : World) : Prop := Sp w ∧ U8 w ∧ Sty w
theorem Gd.below {w w' : World} (h : Gd w) (hb : Below w.heap.size w w') : Gd w' := ⟨h.1.below hb (Nat.le_refl _), h.2.1.below hb, h.2.2.below hb (Nat.le_refl _)⟩
theorem load_setts {w : World} {r : Int} {d s : Bool} {p : Int} {c : Bool} {k : Int} {g : Nat} (h : StBox w r d s p c k g) : (Instr.loadAt 24 (.pointer (some ⟨g, 0, none⟩))).run Tryz.prog w = .ok (stV r d s p c k) w := by
  obtain ⟨h0, h1, h2, h3, h4, h5⟩ := h
  go_simp
theorem GW_plain {l : List Gl} (h : properB l = true) : ∀ x ∈ l, GW x := fun x hx => ((properB_all h).2 x hx).2.1
/-- The three lists of glyphs. -/
def exS (i : Nat) : ByteArray := match i with
  | 0 => ⟨exA.toArray⟩
  | 1 => ⟨exB.toArray⟩
  | _ => ⟨exC.toArray⟩
def exG (i : Nat) : List Gl := plainG (exS i).data.toList
def exW (i : Nat) : List ByteArray := match i with
  | 0 => waL
  | 1 => wbL
  | _ => wcL
theorem exG_words (i : Nat) : spokenWords (exG i) S0 = exW i := match i with
  | 0 => exA_words
  | 1 => exB_words
  | _ + 2 => exC_words
theorem exG_proper (i : Nat) : properB (exG i) = true := match i with
  | 0 => ex_proper.1
  | 1 => ex_proper.2.1
  | _ + 2 => ex_proper.2.2
theorem exG_len (i : Nat) : (exG i).length = (exS i).size := by unfold exG plainG; simp
theorem exS_size (i : Nat) : (exS i).size ≤ 10 := match i with
  | 0 => by decide
  | 1 => by decide
  | _ + 2 => (by decide : (⟨exC.toArray⟩ : ByteArray).size ≤ 10)
/-- What each operation of the first statement leaves. -/
def awV (w : World) (i : Nat) (v : Value) (wx : World) : Prop := match i with
  | 0 => Ow wx w.heap.size 41 3 v (exS 0).size (encGs (exG 0))
  | 3 => Ow wx w.heap.size 41 3 v (exS 1).size (encGs (exG 1))
  | 6 => Ow wx w.heap.size 41 3 v (exS 2).size (encGs (exG 2))
  | 1 => v = stV 100 false false 3 false 40
  | 4 => v = stV 100 false false 3 false 40
  | 7 => v = stV 100 false false 3 false 40
  | 2 => Ow wx w.heap.size 9 1 v (exW 0).length (sv (exW 0))
  | 9 => Ow wx w.heap.size 9 1 v (exW 0).length (sv (exW 0))
  | 5 => Ow wx w.heap.size 9 1 v (exW 1).length (sv (exW 1))
  | 10 => Ow wx w.heap.size 9 1 v (exW 1).length (sv (exW 1))
  | _ => Ow wx w.heap.size 9 1 v (exW 2).length (sv (exW 2))
theorem Ow.below {w w' : World} {base size n : Nat} {e : TypeId} {v : Value} {xs : List Value} (h : Ow w base e size v n xs) (hb : Below w.heap.size w w') : Ow w' base e size v n xs := by
  obtain ⟨A, c, e, ho⟩ := h
  exact ⟨A, c, e, own_below ho hb⟩
theorem awV_keep {w : World} {i : Nat} {v : Value} {wx wy : World} (h : awV w i v wx) (hb : Below wx.heap.size wx wy) : awV w i v wy := by
  unfold awV at *
  split at h <;> first | exact Ow.below h hb | exact h
def awW (w : World) (wx : World) : Prop := StBox wx 100 false false 3 false 40 w.heap.size ∧ Below w.heap.size w wx ∧ w.heap.size + 1 ≤ wx.heap.size
theorem own_caps {w : World} {base size n c : Nat} {e : TypeId} {A : Option Addr} {xs : List Value} (h : w.ownsRow base e size (.slice A n c) n xs) : n ≤ c ∧ c ≤ maxLen := by
  rcases h.2 with ⟨h0, _⟩ | ⟨g, cap, cur, hv, h1, h2, h3, h4, _⟩
  · injection h0 with _ h0 h0'; exact ⟨by omega, by unfold maxLen; omega⟩
  · injection hv with _ _ hv; exact ⟨by omega, by omega⟩
theorem waL_size : ∀ s ∈ waL, s.size ≤ 1000 := by
  have : ∀ s ∈ waL, s.size ≤ 10 := by decide +kernel
  exact fun s hs => Nat.le_trans (this s hs) (by decide)
set_option maxHeartbeats 4000000 in
theorem awake_ (w : World) (hg : Gd w) : Calls Tryz.prog 13 #[] w (Gives (.bool true) w) := by
  have HP : Hid (∀ (i : Nat) (wx : World), awW w wx → Calls Tryz.prog 25 #[.string (exS i)] wx fun e w'' => ∃ v, e = .returned v ∧ Ow w'' w.heap.size 41 3 v (exS i).size (encGs (exG i)) ∧ awW w w'' ∧ Below wx.heap.size wx w'') := Lib.hid fun i wx hw =>
    (lplain_ (exS i) (Nat.le_trans (exS_size i) (by decide)) wx).mono fun e w'' ⟨A, c, he, ho, hb⟩ => ⟨_, he, ⟨A, c, rfl, own_less ho hw.2.1.size⟩, ⟨hw.1.below hb (by have := hw.2.2; omega), hw.2.1.trans (hb.mono hw.2.1.size), Nat.le_trans hw.2.2 hb.size⟩, hb⟩
  have HW : Hid (∀ (i : Nat) (v : Value) (wx : World), awW w wx → Ow wx w.heap.size 41 3 v (exS i).size (encGs (exG i)) → Calls Tryz.prog 15 #[v, stV 100 false false 3 false 40] wx fun e w'' => ∃ v, e = .returned v ∧ Ow w'' w.heap.size 9 1 v (exW i).length (sv (exW i)) ∧ awW w w'' ∧ Below wx.heap.size wx w'') := Lib.hid fun i v wx hw ⟨A, c, e, ho⟩ => by
    subst e
    have hg' := hg.below hw.2.1
    have hnc : (exS i).size ≤ c ∧ c ≤ maxLen := by
      rcases ho.2 with ⟨h0, _⟩ | ⟨g, cap, cur, hv, h1, h2, h3, h4, _⟩
      · injection h0 with _ h0 h0'; omega
      · injection hv with _ _ hv; omega
    refine (words_ (exG i) A _ c wx.heap.size 100 false false 3 false 40 wx hg'.1 hg'.2.1 hg'.2.2 (by rw [exG_len]; have := exS_size i; omega) hnc.1 hnc.2 (GW_plain (exG_proper i)) (Rd.of_own ho) (Nat.le_refl _)).mono fun e w'' ⟨A, c, he, ho, hb⟩ => ?_
    rw [show (⟨false, false, 3⟩ : Setts) = S0 from rfl, exG_words] at ho
    exact ⟨_, he, ⟨A, c, by rw [show (⟨false, false, 3⟩ : Setts) = S0 from rfl, exG_words]; rfl, own_less ho hw.2.1.size⟩, ⟨hw.1.below hb (by have := hw.2.2; omega), hw.2.1.trans (hb.mono hw.2.1.size), Nat.le_trans hw.2.2 hb.size⟩, hb⟩
  have hmf : Tryz.prog.follows .mixedOrders = true := by kernel_rfl
  go_enter Tryz.func13, Tryz.ntmps13
  go_upto_region 2 with fail
  go_cut [2, 3, 4] (fun v2 v3 v4 wx => Ow wx w.heap.size 9 1 v2 9 (sv waL) ∧ Ow wx w.heap.size 9 1 v3 3 (sv wbL) ∧ Ow wx w.heap.size 9 1 v4 3 (sv wcL) ∧ Below w.heap.size w wx)
  case first =>
    refine wp_region_each (V := awV w) (W := awW w) (T := fun w1 w2 => Below w1.heap.size w1 w2) hmf (by kernel_rfl) (fun w => Below.refl _ _) (fun i v w1 w2 _ _ h ht => awV_keep h ht) ?_ ?_ ?_
    · exact ⟨StBox.new w 100 false false 3 false 40 24, ((Below.refl _ _).alloc (Nat.le_refl _) _).drew, by simp⟩
    · refine ⟨?_, ?_, ?_, ?_, ?_, ?_, ?_, ?_, ?_, ?_, ?_, ?_, trivial⟩
      · intro a' w' hW hsz hfr hV; exact each_op rfl (each_call (args := #[.string (exS 0)]) rfl rfl (by simp only [List.map_toArray, List.map_cons, List.map_nil, Act.eval]; rfl) Tryz.func25 (by kernel_rfl) rfl ((HP.out 0 w' hW).mono fun e w'' ⟨v, he, ho, hw, hb⟩ => ⟨v, he, v, rfl, ho, hw, hb⟩))
      · intro a' w' hW hsz hfr hV; exact each_op rfl (each_val (run_load rfl (hfr 1 (by kernel_rfl)) (load_setts hW.1)) ⟨_, rfl, rfl, hW, Below.refl _ _⟩)
      · intro a' w' hW hsz hfr hV; exact each_op rfl (each_call (args := #[a'.tmps.getD 8 undef, stV 100 false false 3 false 40]) rfl rfl (by simp [Act.eval, (show a'.tmps.getD 9 undef = _ from (hV { on := 1, ground := Ground.data } (by simp) rfl _ _ rfl rfl))]) Tryz.func15 (by kernel_rfl) rfl ((HW.out 0 _ w' hW (hV { on := 0, ground := Ground.data } (by simp) rfl _ _ rfl rfl)).mono fun e w'' ⟨v, he, ho, hw, hb⟩ => ⟨v, he, v, rfl, ho, hw, hb⟩))
      · intro a' w' hW hsz hfr hV; exact each_op rfl (each_call (args := #[.string (exS 1)]) rfl rfl (by simp only [List.map_toArray, List.map_cons, List.map_nil, Act.eval]; rfl) Tryz.func25 (by kernel_rfl) rfl ((HP.out 1 w' hW).mono fun e w'' ⟨v, he, ho, hw, hb⟩ => ⟨v, he, v, rfl, ho, hw, hb⟩))
      · intro a' w' hW hsz hfr hV; exact each_op rfl (each_val (run_load rfl (hfr 1 (by kernel_rfl)) (load_setts hW.1)) ⟨_, rfl, rfl, hW, Below.refl _ _⟩)
      · intro a' w' hW hsz hfr hV; exact each_op rfl (each_call (args := #[a'.tmps.getD 11 undef, stV 100 false false 3 false 40]) rfl rfl (by simp [Act.eval, (show a'.tmps.getD 12 undef = _ from (hV { on := 4, ground := Ground.data } (by simp) rfl _ _ rfl rfl))]) Tryz.func15 (by kernel_rfl) rfl ((HW.out 1 _ w' hW (hV { on := 3, ground := Ground.data } (by simp) rfl _ _ rfl rfl)).mono fun e w'' ⟨v, he, ho, hw, hb⟩ => ⟨v, he, v, rfl, ho, hw, hb⟩))
      · intro a' w' hW hsz hfr hV; exact each_op rfl (each_call (args := #[.string (exS 2)]) rfl rfl (by simp only [List.map_toArray, List.map_cons, List.map_nil, Act.eval]; rfl) Tryz.func25 (by kernel_rfl) rfl ((HP.out 2 w' hW).mono fun e w'' ⟨v, he, ho, hw, hb⟩ => ⟨v, he, v, rfl, ho, hw, hb⟩))
      · intro a' w' hW hsz hfr hV; exact each_op rfl (each_val (run_load rfl (hfr 1 (by kernel_rfl)) (load_setts hW.1)) ⟨_, rfl, rfl, hW, Below.refl _ _⟩)
      · intro a' w' hW hsz hfr hV; exact each_op rfl (each_call (args := #[a'.tmps.getD 14 undef, stV 100 false false 3 false 40]) rfl rfl (by simp [Act.eval, (show a'.tmps.getD 15 undef = _ from (hV { on := 7, ground := Ground.data } (by simp) rfl _ _ rfl rfl))]) Tryz.func15 (by kernel_rfl) rfl ((HW.out 2 _ w' hW (hV { on := 6, ground := Ground.data } (by simp) rfl _ _ rfl rfl)).mono fun e w'' ⟨v, he, ho, hw, hb⟩ => ⟨v, he, v, rfl, ho, hw, hb⟩))
      · intro a' w' hW hsz hfr hV; exact each_op rfl (each_val (run_assign rfl rfl) ⟨_, rfl, (hV { on := 2, ground := Ground.data } (by simp) rfl _ _ rfl rfl), hW, Below.refl _ _⟩)
      · intro a' w' hW hsz hfr hV; exact each_op rfl (each_val (run_assign rfl rfl) ⟨_, rfl, (hV { on := 5, ground := Ground.data } (by simp) rfl _ _ rfl rfl), hW, Below.refl _ _⟩)
      · intro a' w' hW hsz hfr hV; exact each_op rfl (each_val (run_assign rfl rfl) ⟨_, rfl, (hV { on := 8, ground := Ground.data } (by simp) rfl _ _ rfl rfl), hW, Below.refl _ _⟩)
    · rintro ⟨⟨xs⟩, df⟩ wx hW hsz hdf hfr hV
      have hl : xs.length = 44 := hsz
      obtain ⟨u0, xs_1, e_1, hl_1⟩ := uncons hl; subst e_1; clear hl; obtain ⟨u1, xs_2, e_2, hl_2⟩ := uncons hl_1; subst e_2; clear hl_1; obtain ⟨u2, xs_3, e_3, hl_3⟩ := uncons hl_2; subst e_3; clear hl_2; obtain ⟨u3, xs_4, e_4, hl_4⟩ := uncons hl_3; subst e_4; clear hl_3; obtain ⟨u4, xs_5, e_5, hl_5⟩ := uncons hl_4; subst e_5; clear hl_4; obtain ⟨u5, xs_6, e_6, hl_6⟩ := uncons hl_5; subst e_6; clear hl_5; obtain ⟨u6, xs_7, e_7, hl_7⟩ := uncons hl_6; subst e_7; clear hl_6; obtain ⟨u7, xs_8, e_8, hl_8⟩ := uncons hl_7; subst e_8; clear hl_7; obtain ⟨u8, xs_9, e_9, hl_9⟩ := uncons hl_8; subst e_9; clear hl_8; obtain ⟨u9, xs_10, e_10, hl_10⟩ := uncons hl_9; subst e_10; clear hl_9; obtain ⟨u10, xs_11, e_11, hl_11⟩ := uncons hl_10; subst e_11; clear hl_10; obtain ⟨u11, xs_12, e_12, hl_12⟩ := uncons hl_11; subst e_12; clear hl_11; obtain ⟨u12, xs_13, e_13, hl_13⟩ := uncons hl_12; subst e_13; clear hl_12; obtain ⟨u13, xs_14, e_14, hl_14⟩ := uncons hl_13; subst e_14; clear hl_13; obtain ⟨u14, xs_15, e_15, hl_15⟩ := uncons hl_14; subst e_15; clear hl_14; obtain ⟨u15, xs_16, e_16, hl_16⟩ := uncons hl_15; subst e_16; clear hl_15; obtain ⟨u16, xs_17, e_17, hl_17⟩ := uncons hl_16; subst e_17; clear hl_16; obtain ⟨u17, xs_18, e_18, hl_18⟩ := uncons hl_17; subst e_18; clear hl_17; obtain ⟨u18, xs_19, e_19, hl_19⟩ := uncons hl_18; subst e_19; clear hl_18; obtain ⟨u19, xs_20, e_20, hl_20⟩ := uncons hl_19; subst e_20; clear hl_19; obtain ⟨u20, xs_21, e_21, hl_21⟩ := uncons hl_20; subst e_21; clear hl_20; obtain ⟨u21, xs_22, e_22, hl_22⟩ := uncons hl_21; subst e_22; clear hl_21; obtain ⟨u22, xs_23, e_23, hl_23⟩ := uncons hl_22; subst e_23; clear hl_22; obtain ⟨u23, xs_24, e_24, hl_24⟩ := uncons hl_23; subst e_24; clear hl_23; obtain ⟨u24, xs_25, e_25, hl_25⟩ := uncons hl_24; subst e_25; clear hl_24; obtain ⟨u25, xs_26, e_26, hl_26⟩ := uncons hl_25; subst e_26; clear hl_25; obtain ⟨u26, xs_27, e_27, hl_27⟩ := uncons hl_26; subst e_27; clear hl_26; obtain ⟨u27, xs_28, e_28, hl_28⟩ := uncons hl_27; subst e_28; clear hl_27; obtain ⟨u28, xs_29, e_29, hl_29⟩ := uncons hl_28; subst e_29; clear hl_28; obtain ⟨u29, xs_30, e_30, hl_30⟩ := uncons hl_29; subst e_30; clear hl_29; obtain ⟨u30, xs_31, e_31, hl_31⟩ := uncons hl_30; subst e_31; clear hl_30; obtain ⟨u31, xs_32, e_32, hl_32⟩ := uncons hl_31; subst e_32; clear hl_31; obtain ⟨u32, xs_33, e_33, hl_33⟩ := uncons hl_32; subst e_33; clear hl_32; obtain ⟨u33, xs_34, e_34, hl_34⟩ := uncons hl_33; subst e_34; clear hl_33; obtain ⟨u34, xs_35, e_35, hl_35⟩ := uncons hl_34; subst e_35; clear hl_34; obtain ⟨u35, xs_36, e_36, hl_36⟩ := uncons hl_35; subst e_36; clear hl_35; obtain ⟨u36, xs_37, e_37, hl_37⟩ := uncons hl_36; subst e_37; clear hl_36; obtain ⟨u37, xs_38, e_38, hl_38⟩ := uncons hl_37; subst e_38; clear hl_37; obtain ⟨u38, xs_39, e_39, hl_39⟩ := uncons hl_38; subst e_39; clear hl_38; obtain ⟨u39, xs_40, e_40, hl_40⟩ := uncons hl_39; subst e_40; clear hl_39; obtain ⟨u40, xs_41, e_41, hl_41⟩ := uncons hl_40; subst e_41; clear hl_40; obtain ⟨u41, xs_42, e_42, hl_42⟩ := uncons hl_41; subst e_42; clear hl_41; obtain ⟨u42, xs_43, e_43, hl_43⟩ := uncons hl_42; subst e_43; clear hl_42; obtain ⟨u43, xs_44, e_44, hl_44⟩ := uncons hl_43; subst e_44; clear hl_43; obtain rfl := List.length_eq_zero_iff.1 hl_44; clear hl_44
      show Exit.then _ _ Exit.normal ⟨#[u0, u1, u2, u3, u4, u5, u6, u7, u8, u9, u10, u11, u12, u13, u14, u15, u16, u17, u18, u19, u20, u21, u22, u23, u24, u25, u26, u27, u28, u29, u30, u31, u32, u33, u34, u35, u36, u37, u38, u39, u40, u41, u42, u43], df⟩ wx
      have q0 : u0 = .bool false := hfr 0 (by kernel_rfl)
      have q1 : u1 = .pointer (some ⟨w.heap.size, 0, none⟩) := hfr 1 (by kernel_rfl)
      have q5 : u5 = undef := hfr 5 (by kernel_rfl)
      have q6 : u6 = undef := hfr 6 (by kernel_rfl)
      have qd : df = [] := hdf
      have v2 : Ow wx w.heap.size 9 1 u2 9 (sv waL) := hV 9 _ _ rfl rfl
      have v3 : Ow wx w.heap.size 9 1 u3 3 (sv wbL) := hV 10 _ _ rfl rfl
      have v4 : Ow wx w.heap.size 9 1 u4 3 (sv wcL) := hV 11 _ _ rfl rfl
      subst q0 q1 q5 q6 qd
      clear hfr hV hdf
      go_wp2
      go_meet
      case rel => exact ⟨v2, v3, v4, hW.2.1⟩
  case rest =>
    obtain ⟨⟨A2, c2, rfl, o2⟩, ⟨A3, c3, rfl, o3⟩, ⟨A4, c4, rfl, o4⟩, hb⟩ := hcut
    have hgw := hg.below hb
    have hbx : Below wc.heap.size wc wc := Below.refl _ _
    have hglen : glyphsL waL = some (plainG exA) := by rw [← exA_words]; exact round_proper ex_proper.1 S0
    have HG : Hid (∀ w', Below wc.heap.size wc w' → Calls Tryz.prog 18 #[.slice A2 9 c2] w' fun e w'' => ∃ A c, e = .returned (.tuple #[.slice A 10 c, .int .i64 0]) ∧ w''.ownsRow w'.heap.size 41 3 (.slice A 10 c) 10 (encGs (plainG exA)) ∧ Below wc.heap.size wc w'' ∧ wc.heap.size ≤ w'.heap.size) := Lib.hid fun w' hw => by
      have hnc := own_caps o2
      have hg' := hgw.below hw
      have h := glyphs_ waL A2 9 c2 w' rfl hnc.1 hnc.2 (Rd.of_own (own_below o2 hw)) waL_size (by decide) hg'.1 hg'.2.1 hg'.2.2
      rw [hglen] at h
      exact h.mono fun e w'' ⟨h1, A, c, h2, h3⟩ => ⟨A, c, h2, h3, hw.trans (h1.mono hw.size), hw.size⟩
    have HJ : ∀ (W : List ByteArray) (A : Option Addr) (c n : Nat) (j : ByteArray), W.length = n → 0 < n → n ≤ 100 → wc.ownsRow w.heap.size 9 1 (.slice A n c) n (sv W) → (Lib.join (W.map (·.data.toList)) [32]).length ≤ 1000 → ⟨(Lib.join (W.map (·.data.toList)) [32]).toArray⟩ = j →
        ∀ w', Below wc.heap.size wc w' → Calls Tryz.prog 26 #[.slice A n c, .string ⟨#[32]⟩] w' fun e w'' => e = .returned (.string j) ∧ Below wc.heap.size wc w'' ∧ Below w'.heap.size w' w'' := by
      intro W A c n j hn h0 h1 ho hl hj w' hw
      subst hn hj
      have ho' := own_below ho hw
      obtain ⟨b, o, rfl, hbB, hc⟩ := (Rd.of_own ho').2 h0
      have hnc := own_caps ho
      exact (Tryz.strings_Join b o c W ⟨#[32]⟩ w' (fun j x hx => hc j (.string x) (by rw [sv, List.getElem?_map, hx]; rfl)) hbB (by omega) hnc.1 (Nat.le_trans hl (by decide))).mono fun e w'' ⟨h1, h2⟩ => ⟨h1, hw.trans (h2.mono hw.size), h2⟩
    obtain ⟨jA, hjA⟩ : ∃ j : ByteArray, j = ⟨(Lib.join (waL.map (·.data.toList)) [32]).toArray⟩ := ⟨_, rfl⟩
    obtain ⟨jB, hjB⟩ : ∃ j : ByteArray, j = ⟨(Lib.join (wbL.map (·.data.toList)) [32]).toArray⟩ := ⟨_, rfl⟩
    obtain ⟨jC, hjC⟩ : ∃ j : ByteArray, j = ⟨(Lib.join (wcL.map (·.data.toList)) [32]).toArray⟩ := ⟨_, rfl⟩
    have HJA := Lib.hid (HJ waL A2 c2 9 jA rfl (by decide) (by decide) o2 (by decide +kernel) hjA.symm)
    have HJB := Lib.hid (HJ wbL A3 c3 3 jB rfl (by decide) (by decide) o3 (by decide +kernel) hjB.symm)
    have HJC := Lib.hid (HJ wcL A4 c4 3 jC rfl (by decide) (by decide) o4 (by decide +kernel) hjC.symm)
    have qA : (jA.toList == [108, 115, 32, 115, 112, 97, 99, 101, 32, 100, 97, 115, 104, 32, 108, 32, 99, 97, 112, 32, 109, 121, 32, 106, 111, 105, 110, 101, 100, 32, 102, 111, 114, 116, 121, 32, 116, 119, 111]) = true := by rw [hjA]; decide +kernel
    have qB : (jB.toList == [102, 111, 117, 114, 32, 116, 105, 109, 101, 115, 32, 100, 97, 115, 104]) = true := by rw [hjB]; decide +kernel
    have qC : (jC.toList == [116, 119, 101, 110, 116, 121, 32, 115, 112, 97, 99, 101, 32, 111, 110, 101]) = true := by rw [hjC]; decide +kernel
    have HPl : Hid (∀ w', Below wc.heap.size wc w' → Calls Tryz.prog 25 #[.string ⟨#[108, 115, 32, 45, 108, 32, 77, 121, 52, 50]⟩] w' fun e w'' => ∃ A c, e = .returned (.slice A 10 c) ∧ w''.ownsRow w'.heap.size 41 3 (.slice A 10 c) 10 (encGs (plainG exA)) ∧ Below w'.heap.size w' w'' ∧ Below wc.heap.size wc w'') := Lib.hid fun w' hw =>
      (lplain_ ⟨#[108, 115, 32, 45, 108, 32, 77, 121, 52, 50]⟩ (by decide) w').mono fun e w'' ⟨A, c, h1, h2, h3⟩ => ⟨A, c, h1, h2, h3, hw.trans (h3.mono hw.size)⟩
    have HSR : Hid (∀ w' A A' c c', Rd w' w'.heap.size 3 A 10 (encGs (plainG exA)) → Rd w' w'.heap.size 3 A' 10 (encGs (plainG exA)) → Calls Tryz.prog 20 #[.slice A 10 c, .slice A' 10 c'] w' (Gives (.bool true) w')) := Lib.hid fun w' A A' c c' r r' => by
      have h := rsamerow (plainG exA) (plainG exA) A A' 10 10 c c' w'.heap.size w' (by decide) r r'
      rw [decide_eq_true rfl] at h
      exact h.mono fun _ _ h => h.gives
    have hb' := Lib.hid hb
    clear HP HW HJ hjA hjB hjC hglen hgw hg hmf o2 o3 o4 hb
    go_wp2_with (first
      | (go_at_call 18; refine (HG.out _ (by assumption)).mono ?_; rintro e w1 ⟨A5, c5, rfl, o5, hb1, hz1⟩)
      | (go_at_call 26; (first | ((with_reducible refine (HJA.out _ (by assumption)).mono ?_); rintro e w2 ⟨rfl, hb2, hx2⟩; have o52 := own_below o5 hx2) | ((with_reducible refine (HJB.out _ (by assumption)).mono ?_); rintro e w3 ⟨rfl, hb3, hx3⟩; have o53 := own_below o52 hx3) | ((with_reducible refine (HJC.out _ (by assumption)).mono ?_); rintro e w4 ⟨rfl, hb4, hx4⟩; have o54 := own_below o53 hx4)))
      | (go_at_call 25; refine (HPl.out _ (by assumption)).mono ?_; rintro e w5 ⟨A6, c6, rfl, o6, hx5, hb5⟩; have o55 := own_below o54 hx5)
      | (go_at_call 20; refine (HSR.out _ _ _ _ _ (Rd.of_own o55) (Rd.of_own o6)).mono ?_; rintro e w6 ⟨rfl, hb6⟩))
    go_ret
    exact ⟨rfl, hb'.out.trans ((hb5.trans (hb6.mono hb5.size)).mono hb'.out.size)⟩
end Go.Proofs.YtndgcjdiemfngaaGreatDoor
/- Settings: Check of spokentext, and of its reference. -/
namespace Go.Proofs.YtndgcjdiemfngaaGreatDoor
open Go.RowKit
set_option maxRecDepth 20000
def BadS (r q k : Int) : Prop := (r < 25 ∨ 400 < r) ∨ (q ≠ 0 ∧ (q < 2 ∨ 132 < q)) ∨ (k < 1 ∨ 80 < k)
instance (r q k : Int) : Decidable (BadS r q k) := by unfold BadS; infer_instance
/-- Why settings are invalid. -/
def setE (r q k : Int) : Int := if BadS r q k then 2 else 0
theorem setE_bad {r q k : Int} (h : BadS r q k) : setE r q k = 2 := if_pos h
theorem setE_ok {r q k : Int} (h : ¬ BadS r q k) : setE r q k = 0 := if_neg h
set_option maxHeartbeats 2000000 in
theorem check_s (r : Int) (d sp : Bool) (q : Int) (con : Bool) (k : Int) (w : World) : Calls Tryz.prog 23 #[stV r d sp q con k] w (Gives (.int .i64 (setE r q k)) w) := by
  obtain ⟨X, hX⟩ : ∃ X, X = setE r q k := ⟨_, rfl⟩
  rw [← hX]
  have HB : Hid (BadS r q k → X = 2) := Lib.hid fun h => by rw [hX, setE_bad h]
  have HO : Hid (¬ BadS r q k → X = 0) := Lib.hid fun h => by rw [hX, setE_ok h]
  obtain ⟨C0, C1, C2, C3, C4, C5⟩ := StBox.new w r d sp q con k 24
  clear hX
  go_enter Tryz.func23, Tryz.ntmps23
  go_wp2
  all_goals go_ret
  all_goals first
    | exact ⟨by rw [HO.out (by unfold BadS; simp at *; omega)]; rfl, (Below.refl _ _).alloc (Nat.le_refl _) _⟩
    | exact ⟨by rw [HB.out (by unfold BadS; simp at *; omega)]; rfl, (Below.refl _ _).alloc (Nat.le_refl _) _⟩
set_option maxHeartbeats 2000000 in
theorem rcheck_s (r : Int) (d sp : Bool) (q : Int) (con : Bool) (k : Int) (w : World) : Calls Tryz.prog 12 #[stV r d sp q con k] w (Gives (.int .i64 (setE r q k)) w) := by
  obtain ⟨X, hX⟩ : ∃ X, X = setE r q k := ⟨_, rfl⟩
  rw [← hX]
  have HB : Hid (BadS r q k → X = 2) := Lib.hid fun h => by rw [hX, setE_bad h]
  have HO : Hid (¬ BadS r q k → X = 0) := Lib.hid fun h => by rw [hX, setE_ok h]
  obtain ⟨C0, C1, C2, C3, C4, C5⟩ := StBox.new w r d sp q con k 24
  clear hX
  go_enter Tryz.func12, Tryz.ntmps12
  go_wp2
  all_goals go_ret
  all_goals first
    | exact ⟨by rw [HO.out (by unfold BadS; simp at *; omega)]; rfl, (Below.refl _ _).alloc (Nat.le_refl _) _⟩
    | exact ⟨by rw [HB.out (by unfold BadS; simp at *; omega)]; rfl, (Below.refl _ _).alloc (Nat.le_refl _) _⟩
end Go.Proofs.YtndgcjdiemfngaaGreatDoor
