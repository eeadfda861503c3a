/- Joined texts: Up3, Um1. -/
import Derived.Test.YtejjfiipghcifaaGreatDoorQAA
import Derived.Test.YtejjfiipghcifaaGreatDoorQAB
import Derived.Test.YtejjfiipghcifaaGreatDoorQAC
import Derived.Test.YtejjfiipghcifaaGreatDoorQAD
import Derived.Test.YtejjfiipghcifaaGreatDoorQAE
import Derived.Test.YtejjfiipghcifaaGreatDoorQAG
import Derived.Test.YtejjfiipghcifaaGreatDoorQAH
import Derived.Test.YtejjfiipghcifaaGreatDoorQAJ
import Derived.Test.YtejjfiipghcifaaGreatDoorQAN
import Derived.Test.YtejjfiipghcifaaGreatDoorQAO
import Derived.Test.YtejjfiipghcifaaGreatDoorQAQ
import Derived.Test.YtejjfiipghcifaaGreatDoorQAR
import Derived.Test.YtejjfiipghcifaaGreatDoorQAU
import Derived.Test.YtejjfiipghcifaaGreatDoorQAV
import Derived.Test.YtejjfiipghcifaaGreatDoorQAW
import Derived.Test.YtejjfiipghcifaaGreatDoorQBA
import Derived.Test.YtejjfiipghcifaaGreatDoorQBC
import Derived.Test.YtejjfiipghcifaaGreatDoorQBD
import Derived.Test.YtejjfiipghcifaaGreatDoorQBE
import Derived.Test.YtejjfiipghcifaaGreatDoorQBF
import Derived.Test.YtejjfiipghcifaaGreatDoorQBI
import Derived.Test.YtejjfiipghcifaaGreatDoorQBP
import Derived.Test.YtejjfiipghcifaaGreatDoorQBQ
import Derived.Test.YtejjfiipghcifaaGreatDoorQBS
set_option linter.unusedVariables false
set_option linter.unusedSimpArgs false
set_option linter.unnecessarySimpa false
namespace Go.Proofs.YtejjfiipghcifaaGreatDoor
open Go.RowKit
set_option maxRecDepth 20000
theorem own_apart3 {w1 w2 : World} {b1 b2 s1 s2 n1 n2 : Nat} {e1 e2 : TypeId} {v1 v2 : Value} {x1 x2 : List Value} (h1 : w1.ownsRow b1 e1 s1 v1 n1 x1) (h2 : w2.ownsRow b2 e2 s2 v2 n2 x2) (hb : w1.heap.size ≤ b2) : v2.ownBlock = none ∨ v2.ownBlock ≠ v1.ownBlock := by
 rcases hk : v2.ownBlock with _ | k
 ·exact .inl rfl
 ·right
  intro e
  have := h2.lt k hk
  have := h1.lt k e.symm
  omega
theorem encS_size (l : List Nat) : (encS l).size ≤ 4 * l.length := by
 unfold encS
 show (List.toArray _).size ≤ _
 rw [List.size_toArray, List.length_map]
 exact encL_len l
theorem gw_of {g : Gl} (h : glyphC g = 0) : GW g ∧ g.text.size ≤ 16 := by
 obtain ⟨h1, h2, h3⟩ := glyphC_ok h
 obtain ⟨r, t, _, _, _, _, _, ht, he, _⟩ := h1.form
 have := encS_size (r :: t)
 rw [← he] at this
 simp only [List.length_cons] at this
 exact ⟨⟨⟨h1.1, by omega⟩, h2, h3⟩, by omega⟩
theorem chk_gl {c : Chg} (h : chkU c = 0) : c.glyphs.length ≤ 132 ∧ (∀ g ∈ c.glyphs, glyphC g = 0) ∧ (1 ≤ c.kind ∧ c.kind ≤ 4) ∧ rangesU c = true := by
 obtain ⟨h1, h2, h3, h4⟩ := chk_zero h
 refine ⟨?_, ?_, h1, h2⟩
 ·by_cases hk : c.kind = 3
  ·by_cases hl : 132 < c.glyphs.length
   ·exact absurd ⟨hk, hl⟩ h3
   ·omega
  ·unfold othersU at h4
   have : c.glyphs = [] := by
    split at h4
    ·exact (of_decide_eq_true h4).2.2
    ·split at h4
     ·exact (of_decide_eq_true h4).2
     ·exact (of_decide_eq_true h4).2
   rw [this]
   simp
 ·by_cases hk : c.kind = 3
  ·unfold othersU at h4
   rw [if_neg (by omega), if_neg (by omega), if_pos hk] at h4
   simp only [Bool.and_eq_true, List.all_eq_true, decide_eq_true_eq] at h4
   exact h4.2
  ·have : c.glyphs = [] := by
    unfold othersU at h4
    split at h4
    ·exact (of_decide_eq_true h4).2.2
    ·split at h4
     ·exact (of_decide_eq_true h4).2
     ·exact (of_decide_eq_true h4).2
   rw [this]
   exact fun g hg => by cases hg
theorem phrase_ (x : ChgM) (hc : chkU x.c = 0) (r : Int) (d sp : Bool) (p : Int) (con : Bool) (k : Int) (w : World) (B : Nat) (hB : B ≤ w.heap.size) (rd : Rd w B 3 x.A x.c.glyphs.length (encGs x.c.glyphs)) (hcx : x.c.glyphs.length ≤ x.cap) (hmx : x.cap ≤ maxLen) (hs : Sp w) (hu : U8 w) (hy : Sty w) :
  Calls Tryz.prog 24 #[chgV x.c x.A x.cap, stV r d sp p con k] w (GivesOwn 9 1 id w (phraseL x.c ⟨d, sp, p⟩).length (sv (phraseL x.c ⟨d, sp, p⟩))) := by
 obtain ⟨hg, hgl, hk, hr⟩ := chk_gl hc
 obtain ⟨⟨kind, row, col, count, til, g⟩, A, cap⟩ := x
 simp only at hk hr hg hgl rd hcx hmx
 unfold rangesU at hr
 simp only at hr
 by_cases h1 : kind = 1
 ·subst h1
  rw [if_pos rfl, decide_eq_true_eq] at hr
  exact phrase_one row col count til g A cap r d sp p con k w hr
 ·by_cases h2 : kind = 2
  ·subst h2
   rw [if_neg (by decide), if_pos rfl, decide_eq_true_eq] at hr
   exact phrase_two row col count til g A cap r d sp p con k w ⟨hr.1, hr.2.1, by omega, by omega, by omega, by omega⟩
  ·by_cases h3 : kind = 3
   ·subst h3
    rw [if_neg (by decide), if_neg (by decide), if_pos rfl, decide_eq_true_eq] at hr
    exact phrase_three row col count til g A cap r d sp p con k w B hr hg (fun x hx => (gw_of (hgl x hx)).1) hcx hmx rd hB hs hu hy
   ·obtain rfl : kind = 4 := by omega
    rw [if_neg (by decide), if_neg (by decide), if_neg (by decide), decide_eq_true_eq] at hr
    exact phrase_four row col count til g A cap r d sp p con k w ⟨hr.1, hr.2.1, hr.2.2.1, hr.2.2.2.1⟩
theorem phrase_le {c : Chg} (hc : chkU c = 0) (S : Setts) : (phraseL c S).length ≤ 50000200 := by
 obtain ⟨hg, hgl, hk, _⟩ := chk_gl hc
 have hw := (spokenWords_len (S := S) _ (Nat.le_refl _) (WoI.start S c.glyphs (by omega) fun x hx => (gw_of (hgl x hx)).1)).1
 have n1 := numI_le c.row
 have n2 := numI_le c.col
 have n3 := numI_le (c.row + 1)
 have n4 := numI_le (c.col + 1)
 have n5 := numI_le c.til
 have n6 := numI_le c.count
 have n7 := numI_le (-c.count)
 unfold phraseL
 (repeat' split) <;> simp only [List.length_append, List.length_cons, List.length_nil] <;> omega
def wErr (l : List ChgM) (m r q k : Int) : Int := if setE r q k ≠ 0 ∨ m < 0 then 1 else if 999999999 < m then 5 else chkAll l
def UwR (l : List ChgM) (m r q k : Int) (S : Setts) (w : World) (e : Ending) (w' : World) : Prop :=
 if wErr l m r q k = 0 then GivesOwn 9 1 okPair w (wordsU (chgs l) m S).length (sv (wordsU (chgs l) m S)) e w' else e = .returned (.tuple #[.slice none 0 0, .int .i64 (wErr l m r q k)]) ∧ Below w.heap.size w w'
theorem flat_drop {l : List ChgM} {j : Nat} (h : j < l.length) (S : Setts) : ((chgs (l.drop j)).flatMap fun c => phraseL c S) = phraseL l[j].c S ++ (chgs (l.drop (j + 1))).flatMap fun c => phraseL c S := by
 rw [List.drop_eq_getElem_cons h]
 rfl
theorem UwR.err {l : List ChgM} {m r q k x : Int} {S : Setts} {w w' : World} {e : Ending} (h : wErr l m r q k = x) (hx : x ≠ 0) (he : e = .returned (.tuple #[.slice none 0 0, .int .i64 x]) ∧ Below w.heap.size w w') : UwR l m r q k S w e w' := by
 unfold UwR
 rw [if_neg (by rw [h]; exact hx), h]
 exact he
theorem UwR.ok {l : List ChgM} {m r q k : Int} {S : Setts} {w w' : World} {e : Ending} (h : wErr l m r q k = 0) (he : GivesOwn 9 1 okPair w (wordsU (chgs l) m S).length (sv (wordsU (chgs l) m S)) e w') : UwR l m r q k S w e w' := by
 unfold UwR
 rw [if_pos h]
 exact he
set_option maxHeartbeats 8000000 in
theorem uwords_ (l : List ChgM) (A : Option Addr) (n c : Nat) (m : Int) (r : Int) (d sp : Bool) (p : Int) (con : Bool) (k : Int) (w : World) (hn : n ≤ 1000) (rd : RdC w w.heap.size A n l) (hsm : SmC l) (hs : Sp w) (hu : U8 w) (hy : Sty w) :
  Calls Tryz.prog 13 #[.slice A n c, .int .i64 m, stV r d sp p con k] w (UwR l m r p k ⟨d, sp, p⟩ w) := by
 have HCk : Hid (∀ w', Below w.heap.size w w' → Calls Tryz.prog 16 #[.slice A n c] w' (Gives (.int .i64 (chkAll l)) w')) := Lib.hid fun w' h => uCheck_ l A n c w.heap.size w' (by omega) (rd.below h) h.size hsm (hu.below h)
 have HSt := Lib.hid (check_s r d sp p con k)
 by_cases h1 : setE r p k = 0
 ·by_cases h2 : m < 0
  ·refine (?_ : Calls _ _ _ w (fun e w' => e = .returned (.tuple #[.slice none 0 0, .int .i64 1]) ∧ Below w.heap.size w w')).mono fun e w' h => UwR.err (if_pos (.inr h2)) (by decide) h
   rw [h1] at HSt
   generalize chkAll l = E2 at *
   clear h1 rd hsm hs hu hy
   go_enter Tryz.func13, Tryz.ntmps13
   go_upto_region 1 with fail
   refine wp_fg (fun X => StBox X r d sp p con k w.heap.size ∧ Below w.heap.size w X ∧ w.heap.size + 1 ≤ X.heap.size) ⟨StBox.new w r d sp p con k _, (Below.refl _ _).alloc (Nat.le_refl _) _, by simp⟩ ?_
   rintro X ⟨hst, hb0, hz0⟩
   have hst' := hst
   obtain ⟨s0, s1, s2, s3, s4, s5⟩ := hst
   go_wp2_with (first | (go_at_call 16; refine (HCk.out _ hb0).mono ?_; rintro e w1 ⟨rfl, hb1⟩; have hst1 := hst'.below hb1 (by omega); clear s0 s1 s2 s3 s4 s5; obtain ⟨s0, s1, s2, s3, s4, s5⟩ := id hst1) | (go_at_call 22; refine (HSt.out _).mono ?_; rintro e w2 ⟨rfl, hb2⟩))
   go_ret2
   exact ⟨rfl, hb0.trans ((hb1.mono hb0.size).trans (hb2.mono (Nat.le_trans hb0.size hb1.size)))⟩
  ·have hw0 : wErr l m r p k = if 999999999 < m then 5 else chkAll l := if_neg (by rw [h1]; simp; omega)
   rw [h1] at HSt
   clear h1
   by_cases h3 : 999999999 < m
   ·rw [if_pos h3] at hw0
    refine (?_ : Calls _ _ _ w (fun e w' => e = .returned (.tuple #[.slice none 0 0, .int .i64 5]) ∧ Below w.heap.size w w')).mono fun e w' h => UwR.err hw0 (by decide) h
    clear hw0
    generalize chkAll l = E2 at *
    clear rd hsm hs hu hy
    go_enter Tryz.func13, Tryz.ntmps13
    go_upto_region 1 with fail
    refine wp_fg (fun X => StBox X r d sp p con k w.heap.size ∧ Below w.heap.size w X ∧ w.heap.size + 1 ≤ X.heap.size) ⟨StBox.new w r d sp p con k _, (Below.refl _ _).alloc (Nat.le_refl _) _, by simp⟩ ?_
    rintro X ⟨hst, hb0, hz0⟩
    have hst' := hst
    obtain ⟨s0, s1, s2, s3, s4, s5⟩ := hst
    go_wp2_with (first | (go_at_call 16; refine (HCk.out _ hb0).mono ?_; rintro e w1 ⟨rfl, hb1⟩; have hst1 := hst'.below hb1 (by omega); clear s0 s1 s2 s3 s4 s5; obtain ⟨s0, s1, s2, s3, s4, s5⟩ := id hst1) | (go_at_call 22; refine (HSt.out _).mono ?_; rintro e w2 ⟨rfl, hb2⟩))
    go_ret2
    exact ⟨rfl, hb0.trans ((hb1.mono hb0.size).trans (hb2.mono (Nat.le_trans hb0.size hb1.size)))⟩
   ·rw [if_neg h3] at hw0
    by_cases h4 : chkAll l = 0
    ·rw [h4] at hw0 HCk
     refine (?_ : Calls _ _ _ w (GivesOwn 9 1 okPair w (wordsU (chgs l) m ⟨d, sp, p⟩).length (sv (wordsU (chgs l) m ⟨d, sp, p⟩)))).mono fun e w' h => UwR.ok hw0 h
     have HPh : Hid (∀ x ∈ l, ∀ w', Below w.heap.size w w' → Calls Tryz.prog 24 #[chgV x.c x.A x.cap, stV r d sp p con k] w' (GivesOwn 9 1 id w' (phraseL x.c ⟨d, sp, p⟩).length (sv (phraseL x.c ⟨d, sp, p⟩)))) := Lib.hid fun x hx w' hw =>
      phrase_ x (chkAll_zero.1 h4 x.c (List.mem_map_of_mem hx)) r d sp p con k w' w.heap.size hw.size ((rd.gl x hx).1.below hw) (rd.gl x hx).2.1 (rd.gl x hx).2.2 (hs.below hw (Nat.le_refl _)) (hu.below hw) (hy.below hw (Nat.le_refl _))
     have HLe : Hid (∀ x ∈ l, (phraseL x.c ⟨d, sp, p⟩).length ≤ 50000200) := Lib.hid fun x hx => phrase_le (chkAll_zero.1 h4 x.c (List.mem_map_of_mem hx)) _
     have HN := Lib.hid rd.len
     have HRd := Lib.hid rd
     have HFl : Hid (∀ j (h : j < l.length), ((chgs (l.drop j)).flatMap fun c => phraseL c ⟨d, sp, p⟩) = phraseL l[j].c ⟨d, sp, p⟩ ++ (chgs (l.drop (j + 1))).flatMap fun c => phraseL c ⟨d, sp, p⟩) := Lib.hid fun j h => flat_drop h _
     have HEn : Hid (∀ j, l.length ≤ j → ((chgs (l.drop j)).flatMap fun c => phraseL c ⟨d, sp, p⟩) = []) := Lib.hid fun j h => by rw [List.drop_of_length_le h]; rfl
     have H0 : Hid (wordsU (chgs l) m ⟨d, sp, p⟩ = [] ++ (((chgs (l.drop 0)).flatMap fun c => phraseL c ⟨d, sp, p⟩) ++ endW m)) := Lib.hid rfl
     generalize wordsU (chgs l) m ⟨d, sp, p⟩ = R at *
     generalize hF : (fun j => (chgs (l.drop j)).flatMap fun c => phraseL c ⟨d, sp, p⟩) = F
     replace HFl : Hid (∀ j (h : j < l.length), F j = phraseL l[j].c ⟨d, sp, p⟩ ++ F (j + 1)) := Lib.hid (by rw [← hF]; exact HFl.out)
     replace HEn : Hid (∀ j, l.length ≤ j → F j = []) := Lib.hid (by rw [← hF]; exact HEn.out)
     replace H0 : Hid (R = [] ++ (F 0 ++ endW m)) := Lib.hid (by rw [← hF]; exact H0.out)
     have HWd : Hid (∀ w, Calls Tryz.prog 25 #[.int .i64 m] w (GivesOwn 9 1 okPair w (numI m).length (sv (numI m)))) := Lib.hid fun w => by
      have := words_in m (by omega) (by omega) w
      rw [wv_sv] at this
      unfold numI
      rw [List.length_map]
      exact this
     have HMl := Lib.hid (numI_le m)
     clear hF hw0 h4 rd hsm hs hu hy
     go_enter Tryz.func13, Tryz.ntmps13
     go_upto_region 1 with fail
     refine wp_fg (fun X => StBox X r d sp p con k w.heap.size ∧ Below w.heap.size w X ∧ w.heap.size + 1 ≤ X.heap.size) ⟨StBox.new w r d sp p con k _, (Below.refl _ _).alloc (Nat.le_refl _) _, by simp⟩ ?_
     rintro X ⟨hst, hb0, hz0⟩
     have hst' := hst
     obtain ⟨s0, s1, s2, s3, s4, s5⟩ := hst
     go_wp2_with (first | (go_at_call 16; refine (HCk.out _ hb0).mono ?_; rintro e w1 ⟨rfl, hb1⟩; have hst1 := hst'.below hb1 (by omega); clear s0 s1 s2 s3 s4 s5; obtain ⟨s0, s1, s2, s3, s4, s5⟩ := id hst1) | (go_at_call 22; refine (HSt.out _).mono ?_; rintro e w2 ⟨rfl, hb2⟩))
     have hb3 : Below w.heap.size w w2 := hb0.trans ((hb1.mono hb0.size).trans (hb2.mono (Nat.le_trans hb0.size hb1.size)))
     have hst2 := hst1.below hb2 (by have := hb1.size; omega)
     have hz2 : w.heap.size + 1 ≤ w2.heap.size := by have := hb1.size; have := hb2.size; omega
     clear hb0 hb1 hb2 hst1 hst' s0 s1 s2 s3 s4 s5 hz0
     go_loopw [9, 33] (fun x y wr => ∃ (j : Nat) (A2 : Option Addr) (c2 : Nat) (O : List ByteArray), j ≤ n ∧ y = .int .i64 j ∧ x = .slice A2 O.length c2 ∧ wr.ownsRow (w.heap.size + 1) 9 1 (.slice A2 O.length c2) O.length (sv O) ∧ O.length ≤ j * 50000200 ∧ StBox wr r d sp p con k w.heap.size ∧ Below w.heap.size w wr ∧ w.heap.size + 1 ≤ wr.heap.size ∧ Hid (R = O ++ (F j ++ endW m))) (fun _ y _ => n - (intOf y).toNat)
     case atStart => exact ⟨0, none, 0, [], Nat.zero_le _, rfl, rfl, own_nil _ _ _ _, by simp, hst2, hb3, hz2, H0⟩
     case round =>
      clear hb3 hst2 hz2 H0
      obtain ⟨j, A2, c2, O, hj, rfl, rfl, ho, hol, hst, hbl, hzr, HK⟩ := hrel
      have hol2 : O.length ≤ 50000200000 := by
       have : j * 50000200 ≤ 1000 * 50000200 := Nat.mul_le_mul_right _ (by omega)
       omega
      by_cases hlt : j < n
      ·have hjl : j < l.length := by have := HN.out; omega
       obtain ⟨b, o, rfl, hbB, g0, g1, g2, g3, g4, g5⟩ := (HRd.out.below hbl).at_ hjl
       have HD := Lib.hid (HFl.out j hjl)
       have HP := Lib.hid (HPh.out l[j] (List.getElem_mem hjl))
       have hpl := HLe.out l[j] (List.getElem_mem hjl)
       generalize l[j] = x at *
       obtain ⟨⟨kind, row, col, count, til, g⟩, Ag, cg⟩ := x
       dsimp only at *
       obtain ⟨W, hW⟩ : ∃ x, Hid (x = phraseL ⟨kind, row, col, count, til, g⟩ ⟨d, sp, p⟩) := ⟨_, Lib.hid rfl⟩
       rw [← hW.out] at HD HP hpl
       have HK2 : Hid (R = (O ++ W) ++ (F (j + 1) ++ endW m)) := Lib.hid (by rw [HK.out, HD.out]; simp only [List.append_assoc])
       have hol3 : (O ++ W).length ≤ (j + 1) * 50000200 := by rw [List.length_append, Nat.add_mul]; omega
       clear HK HD HPh HLe HFl HEn HCk HSt HRd hW HWd HMl
       have hbx := ChgBox.new wr ⟨kind, row, col, count, til, g⟩ Ag cg 46
       go_upto_region 12 with fail
       refine wp_fg (ChgBox wr ⟨kind, row, col, count, til, g⟩ Ag cg) hbx ?_
       clear hbx
       rintro wb ⟨k0, k1, k2, k3, k4, k5, hbb, hzb⟩
       dsimp only at k0 k1 k2 k3 k4 k5
       have hst3 := hst.below hbb (by omega)
       have how := own_below ho hbb
       have hblw := hbl.trans (hbb.mono hbl.size)
       obtain ⟨s0, s1, s2, s3, s4, s5⟩ := id hst3
       clear g0 g1 g2 g3 g4 g5
       go_wp2_with (first
        | (go_at_call 24; refine (HP.out _ hblw).mono ?_; rintro e w4 ⟨A4, c4, rfl, ho4, hb4⟩; have hz4 := hb4.size)
        | (at_builtin; refine app_list rfl _ _ _ rfl elt_str ((w.heap.size + 1)) _ rfl (own_below how hb4) _ _ rfl ((Rd.of_own ho4)) (by first | rfl | exact sv_one _ | exact wv_one _) (by omega) (by omega) (by first | (simp; done) | (simp; omega) | omega) ?_; intro A5 c5 w5 hown5 hbel5 hgr5 hat5; have z5 := hbel5.size; (try simp only [World.size_alloc] at z5); (try simp only [Nat.zero_add, List.nil_append] at hown5)))
       exact ⟨⟨j + 1, A5, c5, O ++ W, by omega, by go_num, by rw [List.length_append], by rw [List.length_append, sv_app]; exact hown5, hol3, (hst3.below hb4 (by omega)).below hbel5 (by omega), (hblw.trans (hb4.mono hblw.size)).trans (hbel5.mono (by omega)), by omega, HK2⟩, by simp [intOf]; omega⟩
      ·have HK2 : Hid (R = O ++ endW m) := Lib.hid (by rw [HK.out, HEn.out j (by have := HN.out; omega)]; rfl)
       clear HK HPh HLe HFl HEn HCk HSt HRd
       by_cases h0 : m = 0
       ·subst h0
        have HK3 : Hid (R = O ++ [bMore]) := Lib.hid HK2.out
        clear HK2 HWd HMl
        go_wp2_with (at_builtin; refine app_list rfl _ _ _ rfl elt_str ((w.heap.size + 1)) _ rfl (own_below ho ((Below.refl _ _).alloc (Nat.le_refl _) _)) _ _ rfl ((rd_built (xs := sv [bMore]) rfl rfl)) (by first | rfl | exact sv_one _ | exact wv_one _) (by omega) (by omega) (by first | (simp; done) | (simp; omega) | omega) ?_; intro A9 c9 w9 hown9 hbel9 hgr9 hat9; have z9 := hbel9.size; (try simp only [World.size_alloc] at z9); (try simp only [Nat.zero_add, List.nil_append] at hown9))
        go_ret2
        rw [HK3.out, List.length_append, sv_app]
        exact ⟨A9, c9, rfl, own_less hown9 (by omega), (hbl.alloc hbl.size _).trans (hbel9.mono (by omega))⟩
       ·by_cases h1' : m = 1
        ·subst h1'
         have HK3 : Hid (R = O ++ [bDone]) := Lib.hid HK2.out
         clear HK2 HWd HMl
         go_wp2_with (at_builtin; refine app_list rfl _ _ _ rfl elt_str ((w.heap.size + 1)) _ rfl (own_below ho ((Below.refl _ _).alloc (Nat.le_refl _) _)) _ _ rfl ((rd_built (xs := sv [bDone]) rfl rfl)) (by first | rfl | exact sv_one _ | exact wv_one _) (by omega) (by omega) (by first | (simp; done) | (simp; omega) | omega) ?_; intro A9 c9 w9 hown9 hbel9 hgr9 hat9; have z9 := hbel9.size; (try simp only [World.size_alloc] at z9); (try simp only [Nat.zero_add, List.nil_append] at hown9))
         go_ret2
         rw [HK3.out, List.length_append, sv_app]
         exact ⟨A9, c9, rfl, own_less hown9 (by omega), (hbl.alloc hbl.size _).trans (hbel9.mono (by omega))⟩
        ·have HK3 : Hid (R = O ++ [bDone] ++ numI m ++ [bUpdates]) := Lib.hid (by rw [HK2.out, endW, if_neg h0, if_neg h1']; simp only [List.append_assoc]; rfl)
         have hb0 : (m == 0) = false := beq_eq_false_iff_ne.2 h0
         have hb1 : (m == 1) = false := beq_eq_false_iff_ne.2 h1'
         have hml := HMl.out
         clear HK2 h0 h1' HMl
         generalize numI m = NM at *
         go_upto_region 20 with (go_at_call 25; refine (HWd.out _).mono ?_; rintro e w5 ⟨A5, c5, rfl, ho5, hb5⟩)
         have hz5 := hb5.size
         have how := own_below ho hb5
         have hb6 := hbl.trans (hb5.mono hbl.size)
         clear HWd hst
         go_wp2_with (first
          | ((fail_if_success have := hown7); (at_builtin; refine app_list rfl _ _ _ rfl elt_str ((w.heap.size + 1)) _ rfl (own_below how ((Below.refl _ _).alloc (Nat.le_refl _) _)) _ _ rfl ((rd_built (xs := sv [bDone]) rfl rfl)) (by first | rfl | exact sv_one _ | exact wv_one _) (by omega) (by omega) (by first | (simp; done) | (simp; omega) | omega) ?_; intro A7 c7 w7 hown7 hbel7 hgr7 hat7; have z7 := hbel7.size; (try simp only [World.size_alloc] at z7); (try simp only [Nat.zero_add, List.nil_append] at hown7)); have o57 := (own_below ho5 ((Below.refl _ _).alloc (Nat.le_refl _) _)).kept hgr7 (own_apart3 ho ho5 (Nat.le_refl _)))
          | ((fail_if_success have := hown8); (at_builtin; refine app_list rfl _ _ _ rfl elt_str ((w.heap.size + 1)) _ rfl (hown7) _ _ rfl ((Rd.of_own o57)) (by first | rfl | exact sv_one _ | exact wv_one _) (by omega) (by omega) (by first | (simp; done) | (simp; omega) | omega) ?_; intro A8 c8 w8 hown8 hbel8 hgr8 hat8; have z8 := hbel8.size; (try simp only [World.size_alloc] at z8); (try simp only [Nat.zero_add, List.nil_append] at hown8)))
          | (at_builtin; refine app_list rfl _ _ _ rfl elt_str ((w.heap.size + 1)) _ rfl (own_below hown8 ((Below.refl _ _).alloc (Nat.le_refl _) _)) _ _ rfl ((rd_built (xs := sv [bUpdates]) rfl rfl)) (by first | rfl | exact sv_one _ | exact wv_one _) (by omega) (by omega) (by first | (simp; done) | (simp; omega) | omega) ?_; intro A9 c9 w9 hown9 hbel9 hgr9 hat9; have z9 := hbel9.size; (try simp only [World.size_alloc] at z9); (try simp only [Nat.zero_add, List.nil_append] at hown9)))
         go_ret2
         rw [HK3.out, List.length_append, List.length_append, List.length_append, sv_app, sv_app, sv_app]
         exact ⟨A9, c9, rfl, own_less hown9 (by omega), (((hb6.alloc hb6.size _).trans (hbel7.mono (by omega))).trans (hbel8.mono (by omega))).trans ((Below.alloc (Below.refl w.heap.size w8) (by omega) _).trans (hbel9.mono (by omega)))⟩
    ·refine (?_ : Calls _ _ _ w (fun e w' => e = .returned (.tuple #[.slice none 0 0, .int .i64 (chkAll l)]) ∧ Below w.heap.size w w')).mono fun e w' h => UwR.err hw0 h4 h
     clear hw0
     generalize chkAll l = E2 at *
     have h4b : (E2 != 0) = true := bne_iff_ne.2 h4
     clear rd hsm hs hu hy h4
     go_enter Tryz.func13, Tryz.ntmps13
     go_upto_region 1 with fail
     refine wp_fg (fun X => StBox X r d sp p con k w.heap.size ∧ Below w.heap.size w X ∧ w.heap.size + 1 ≤ X.heap.size) ⟨StBox.new w r d sp p con k _, (Below.refl _ _).alloc (Nat.le_refl _) _, by simp⟩ ?_
     rintro X ⟨hst, hb0, hz0⟩
     have hst' := hst
     obtain ⟨s0, s1, s2, s3, s4, s5⟩ := hst
     go_wp2_with (first | (go_at_call 16; refine (HCk.out _ hb0).mono ?_; rintro e w1 ⟨rfl, hb1⟩; have hst1 := hst'.below hb1 (by omega); clear s0 s1 s2 s3 s4 s5; obtain ⟨s0, s1, s2, s3, s4, s5⟩ := id hst1) | (go_at_call 22; refine (HSt.out _).mono ?_; rintro e w2 ⟨rfl, hb2⟩))
     go_ret2
     exact ⟨rfl, hb0.trans ((hb1.mono hb0.size).trans (hb2.mono (Nat.le_trans hb0.size hb1.size)))⟩
 ·refine (?_ : Calls _ _ _ w (fun e w' => e = .returned (.tuple #[.slice none 0 0, .int .i64 1]) ∧ Below w.heap.size w w')).mono fun e w' h => UwR.err (if_pos (.inl h1)) (by decide) h
  generalize chkAll l = E2 at *
  generalize setE r p k = E1 at *
  have h1b : (E1 != 0) = true := bne_iff_ne.2 h1
  clear h1 rd hsm hs hu hy
  go_enter Tryz.func13, Tryz.ntmps13
  go_upto_region 1 with fail
  refine wp_fg (fun X => StBox X r d sp p con k w.heap.size ∧ Below w.heap.size w X ∧ w.heap.size + 1 ≤ X.heap.size) ⟨StBox.new w r d sp p con k _, (Below.refl _ _).alloc (Nat.le_refl _) _, by simp⟩ ?_
  rintro X ⟨hst, hb0, hz0⟩
  have hst' := hst
  obtain ⟨s0, s1, s2, s3, s4, s5⟩ := hst
  go_wp2_with (first | (go_at_call 16; refine (HCk.out _ hb0).mono ?_; rintro e w1 ⟨rfl, hb1⟩; have hst1 := hst'.below hb1 (by omega); clear s0 s1 s2 s3 s4 s5; obtain ⟨s0, s1, s2, s3, s4, s5⟩ := id hst1) | (go_at_call 22; refine (HSt.out _).mono ?_; rintro e w2 ⟨rfl, hb2⟩))
  go_ret2
  exact ⟨rfl, hb0.trans ((hb1.mono hb0.size).trans (hb2.mono (Nat.le_trans hb0.size hb1.size)))⟩
def greatR (l : List Gl) : Bool := decide (140 < l.length) || l.any fun g => decide (40 < g.text.size)
def greatC (l : List ChgM) : Bool := decide (30 < l.length) || l.any fun x => greatR x.c.glyphs
def fineC (l : List ChgM) : Bool := !(decide (6 < l.length) || greatC l) && l.all fun x => decide (x.c.glyphs.length ≤ 30)
theorem any_drop {α : Type} {l : List α} {k : Nat} (p : α → Bool) (h : k < l.length) : (l.drop k).any p = (p l[k] || (l.drop (k + 1)).any p) := by
 rw [List.drop_eq_getElem_cons h, List.any_cons]
theorem all_drop {α : Type} {l : List α} {k : Nat} (p : α → Bool) (h : k < l.length) : (l.drop k).all p = (p l[k] && (l.drop (k + 1)).all p) := by
 rw [List.drop_eq_getElem_cons h, List.all_cons]
set_option maxHeartbeats 1000000 in
theorem greatrow_ (l : List Gl) (A : Option Addr) (n c B : Nat) (w : World) (hm : n ≤ maxLen) (rd : Rd w B 3 A n (encGs l)) :
  Calls Tryz.prog 39 #[.slice A n c] w fun e w' => e = .returned (.bool (greatR l)) ∧ w' = w := by
 have HN := Lib.hid (gl_len rd)
 have hmm : n ≤ 9223372036854775807 := by unfold maxLen at hm; omega
 unfold greatR
 rw [HN.out]
 clear hm
 by_cases h0 : 140 < n
 ·rw [decide_eq_true h0, Bool.true_or]
  have hi : (140 : Int) < (n : Int) := by omega
  go_enter Tryz.func39, Tryz.ntmps39
  go_wp2
  go_ret
  exact ⟨rfl, rfl⟩
 ·rw [decide_eq_false h0, Bool.false_or]
  have hi : (n : Int) ≤ 140 := by omega
  have H0 : Hid ((l.any fun g => decide (40 < g.text.size)) = ((l.drop 0).any fun g => decide (40 < g.text.size))) := Lib.hid rfl
  generalize (l.any fun g => decide (40 < g.text.size)) = R at *
  clear h0
  go_enter Tryz.func39, Tryz.ntmps39
  go_wp2
  go_loop [3] (fun x => ∃ k : Nat, k ≤ n ∧ x = .int .i64 k ∧ Hid (R = ((l.drop k).any fun g => decide (40 < g.text.size)))) (fun x => n - (intOf x).toNat)
  case atStart => exact ⟨0, Nat.zero_le _, rfl, H0⟩
  case round =>
   obtain ⟨k, hk, rfl, HK⟩ := hrel
   by_cases hlt : k < n
   ·have hkl : k < l.length := by have := HN.out; omega
    obtain ⟨b, o, rfl, _, g0, -, -⟩ := rd_gl rd hkl HN.out
    have HD := Lib.hid (any_drop (fun g : Gl => decide (40 < g.text.size)) hkl)
    generalize l[k] = g at *
    obtain ⟨t, wd, st⟩ := g
    dsimp only at *
    by_cases hz : 40 < t.size
    ·have HR2 : Hid (R = true) := Lib.hid (by rw [HK.out, HD.out, decide_eq_true hz]; rfl)
     have hzi : (40 : Int) < (t.size : Int) := by omega
     clear HK HD hz
     go_wp2
     go_ret
     exact ⟨by rw [HR2.out]; rfl, rfl⟩
    ·have HR2 : Hid (R = ((l.drop (k + 1)).any fun g => decide (40 < g.text.size))) := Lib.hid (by rw [HK.out, HD.out, decide_eq_false hz]; rfl)
     have hzi : (t.size : Int) ≤ 40 := by omega
     clear HK HD hz
     go_wp2
     exact ⟨⟨k + 1, by omega, by go_num, HR2⟩, by simp [intOf]; omega⟩
   ·have HR2 : Hid (R = false) := Lib.hid (by rw [HK.out, List.drop_of_length_le (by have := HN.out; omega)]; rfl)
    go_wp2
    go_ret
    exact ⟨by rw [HR2.out]; rfl, rfl⟩
set_option maxHeartbeats 1000000 in
theorem great19_ (l : List ChgM) (A : Option Addr) (n c B : Nat) (w : World) (hm : n ≤ maxLen) (rd : RdC w B A n l) :
  Calls Tryz.prog 23 #[.slice A n c] w fun e w' => e = .returned (.bool (greatC l)) ∧ w' = w := by
 have HN := Lib.hid rd.len
 have hmm : n ≤ 9223372036854775807 := by unfold maxLen at hm; omega
 have HG : Hid (∀ x ∈ l, Calls Tryz.prog 39 #[.slice x.A x.c.glyphs.length x.cap] w fun e w' => e = .returned (.bool (greatR x.c.glyphs)) ∧ w' = w) := Lib.hid fun x hx =>
  greatrow_ _ _ _ _ B w (Nat.le_trans (rd.gl x hx).2.1 (rd.gl x hx).2.2) (rd.gl x hx).1
 unfold greatC
 rw [HN.out]
 clear hm
 by_cases h0 : 30 < n
 ·rw [decide_eq_true h0, Bool.true_or]
  have hi : (30 : Int) < (n : Int) := by omega
  go_enter Tryz.func23, Tryz.ntmps23
  go_wp2
  go_ret
  exact ⟨rfl, rfl⟩
 ·rw [decide_eq_false h0, Bool.false_or]
  have hi : (n : Int) ≤ 30 := by omega
  have H0 : Hid ((l.any fun x => greatR x.c.glyphs) = ((l.drop 0).any fun x => greatR x.c.glyphs)) := Lib.hid rfl
  generalize (l.any fun x => greatR x.c.glyphs) = R at *
  clear h0
  go_enter Tryz.func23, Tryz.ntmps23
  go_wp2
  go_loop [3] (fun x => ∃ k : Nat, k ≤ n ∧ x = .int .i64 k ∧ Hid (R = ((l.drop k).any fun x => greatR x.c.glyphs))) (fun x => n - (intOf x).toNat)
  case atStart => exact ⟨0, Nat.zero_le _, rfl, H0⟩
  case round =>
   obtain ⟨k, hk, rfl, HK⟩ := hrel
   by_cases hlt : k < n
   ·have hkl : k < l.length := by have := HN.out; omega
    obtain ⟨b, o, rfl, _, -, -, -, -, -, c5⟩ := rd.at_ hkl
    have HD := Lib.hid (any_drop (fun x : ChgM => greatR x.c.glyphs) hkl)
    have HGk := Lib.hid (HG.out _ (List.getElem_mem hkl))
    generalize l[k] = g at *
    obtain ⟨⟨k1, k2, k3, k4, k5, G⟩, Ag, cg⟩ := g
    dsimp only at *
    generalize greatR G = gg at *
    cases gg with
    | true =>
     have HR2 : Hid (R = true) := Lib.hid (by rw [HK.out, HD.out]; rfl)
     clear HK HD HG
     go_wp2_with (go_at_call 39; refine HGk.out.mono ?_; rintro e w1 ⟨rfl, rfl⟩)
     go_ret
     exact ⟨by rw [HR2.out]; rfl, rfl⟩
    | false =>
     have HR2 : Hid (R = ((l.drop (k + 1)).any fun x => greatR x.c.glyphs)) := Lib.hid (by rw [HK.out, HD.out]; rfl)
     clear HK HD HG
     go_wp2_with (go_at_call 39; refine HGk.out.mono ?_; rintro e w1 ⟨rfl, rfl⟩)
     exact ⟨⟨k + 1, by omega, by go_num, HR2⟩, by simp [intOf]; omega⟩
   ·have HR2 : Hid (R = false) := Lib.hid (by rw [HK.out, List.drop_of_length_le (by have := HN.out; omega)]; rfl)
    go_wp2
    go_ret
    exact ⟨by rw [HR2.out]; rfl, rfl⟩
set_option maxHeartbeats 1000000 in
theorem fine_ (l : List ChgM) (A : Option Addr) (n c B : Nat) (w : World) (hm : n ≤ maxLen) (rd : RdC w B A n l) (hB : B ≤ w.heap.size) :
  Calls Tryz.prog 11 #[.slice A n c] w (Gives (.bool (fineC l)) w) := by
 have HN := Lib.hid rd.len
 have hmm : n ≤ 9223372036854775807 := by unfold maxLen at hm; omega
 have HG := Lib.hid (great19_ l A n c B w hm rd)
 have HRd := Lib.hid rd
 unfold fineC
 rw [HN.out]
 clear hm rd
 by_cases h0 : 6 < n
 ·rw [decide_eq_true h0, Bool.true_or]
  have hi : (6 : Int) < (n : Int) := by omega
  show Calls _ _ _ _ (Gives (.bool false) w)
  go_enter Tryz.func11, Tryz.ntmps11
  go_wp2
  go_ret
  exact ⟨rfl, Below.refl _ _⟩
 ·rw [decide_eq_false h0, Bool.false_or]
  have hi : (n : Int) ≤ 6 := by omega
  clear h0
  generalize greatC l = gg at *
  cases gg with
  | true =>
   show Calls _ _ _ _ (Gives (.bool false) w)
   go_enter Tryz.func11, Tryz.ntmps11
   go_wp2_with (go_at_call 23; refine HG.out.mono ?_; rintro e w1 ⟨rfl, rfl⟩)
   go_ret
   exact ⟨rfl, Below.refl _ _⟩
  | false =>
   show Calls _ _ _ _ (Gives (.bool (l.all fun x => decide (x.c.glyphs.length ≤ 30))) w)
   have H0 : Hid ((l.all fun x => decide (x.c.glyphs.length ≤ 30)) = ((l.drop 0).all fun x => decide (x.c.glyphs.length ≤ 30))) := Lib.hid rfl
   generalize (l.all fun x => decide (x.c.glyphs.length ≤ 30)) = R at *
   go_enter Tryz.func11, Tryz.ntmps11
   go_wp2_with (go_at_call 23; refine HG.out.mono ?_; rintro e w1 ⟨rfl, rfl⟩)
   go_loopw [14] (fun x wr => ∃ k : Nat, k ≤ n ∧ x = .int .i64 k ∧ Below w1.heap.size w1 wr ∧ Hid (R = ((l.drop k).all fun x => decide (x.c.glyphs.length ≤ 30)))) (fun x _ => n - (intOf x).toNat)
   case atStart => exact ⟨0, Nat.zero_le _, rfl, Below.refl _ _, H0⟩
   case round =>
    obtain ⟨k, hk, rfl, hb, HK⟩ := hrel
    by_cases hlt : k < n
    ·have hkl : k < l.length := by have := HN.out; omega
     obtain ⟨b, o, rfl, _, c0, c1, c2, c3, c4, c5⟩ := (HRd.out.below (hb.mono hB)).at_ hkl
     have HD := Lib.hid (all_drop (fun x : ChgM => decide (x.c.glyphs.length ≤ 30)) hkl)
     generalize l[k] = g at *
     obtain ⟨⟨k1, k2, k3, k4, k5, G⟩, Ag, cg⟩ := g
     dsimp only at *
     have hb2 : Below w1.heap.size w1 (wr.alloc (.cells #[.int .i64 k1, .int .i64 k2, .int .i64 k3, .int .i64 k4, .int .i64 k5, .slice Ag G.length cg] 46)) := hb.alloc hb.size _
     by_cases hz : G.length ≤ 30
     ·have HR2 : Hid (R = ((l.drop (k + 1)).all fun x => decide (x.c.glyphs.length ≤ 30))) := Lib.hid (by rw [HK.out, HD.out, decide_eq_true hz]; rfl)
      have hzi : (G.length : Int) ≤ 30 := by omega
      clear HK HD hz HG HRd
      go_wp2
      exact ⟨⟨k + 1, by omega, by go_num, hb2, HR2⟩, by simp [intOf]; omega⟩
     ·have HR2 : Hid (R = false) := Lib.hid (by rw [HK.out, HD.out, decide_eq_false hz]; rfl)
      have hzi : (30 : Int) < (G.length : Int) := by omega
      clear HK HD hz HG HRd
      go_wp2
      go_ret
      exact ⟨by rw [HR2.out]; rfl, hb2⟩
    ·have HR2 : Hid (R = true) := Lib.hid (by rw [HK.out, List.drop_of_length_le (by have := HN.out; omega)]; rfl)
     go_wp2
     go_ret
     exact ⟨by rw [HR2.out]; rfl, hb⟩
theorem fine_some {l : List ChgM} (h : fineC l = true) : l.length ≤ 6 ∧ ∀ x ∈ l, x.c.glyphs.length ≤ 30 ∧ ∀ g ∈ x.c.glyphs, g.text.size ≤ 40 := by
 unfold fineC greatC at h
 simp only [Bool.and_eq_true, Bool.not_eq_true', Bool.or_eq_false_iff, decide_eq_false_iff_not, List.all_eq_true, decide_eq_true_eq, List.any_eq_false] at h
 obtain ⟨⟨h1, h2, h3⟩, h4⟩ := h
 refine ⟨by omega, fun x hx => ⟨h4 x hx, fun g hg => ?_⟩⟩
 have := h3 x hx
 unfold greatR at this
 simp only [Bool.not_eq_true, Bool.or_eq_false_iff, decide_eq_false_iff_not, List.any_eq_false, decide_eq_true_eq] at this
 have := this.2 g hg
 omega
end Go.Proofs.YtejjfiipghcifaaGreatDoor
