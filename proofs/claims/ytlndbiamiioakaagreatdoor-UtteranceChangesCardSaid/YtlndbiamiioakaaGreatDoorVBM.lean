/- Joined: Up3, Um1. -/
import Derived.Test.YtlndbiamiioakaaGreatDoorVBL
set_option linter.unusedVariables false
set_option linter.unusedSimpArgs false
set_option linter.unnecessarySimpa false
set_option maxHeartbeats 8000000
namespace Go.Proofs.YtlndbiamiioakaaGreatDoor
open Go.Proofs.Tryz Go.RowKit
set_option maxRecDepth 20000
theorem qfa {w1 w2 : World} {b1 b2 s1 s2 n1 n2 : Nat} {e1 e2 : TypeId} {v1 v2 : Value} {x1 x2 : List Value} (h1 : w1.ownsRow b1 e1 s1 v1 n1 x1) (h2 : w2.ownsRow b2 e2 s2 v2 n2 x2) (hb : w1.heap.size <= b2) : v2.ownBlock = none ∨ v2.ownBlock ≠ v1.ownBlock := by
 rcases hk : v2.ownBlock with _ | k
 ·exact .inl rfl
 ·right
  intro e
  have := h2.lt k hk
  have := h1.lt k e.symm
  omega
theorem qhb (l : List Nat) : (qaR l).size <= 4 * l.length := by
 unfold qaR
 show (List.toArray _).size <= _
 rw [List.size_toArray, List.length_map]
 exact qes l
theorem gw_of {g : Gl} (h : jV g = 0) : GW g /\ g.text.size <= 16 := by
 obtain ⟨h1, h2, h3⟩ := qhj h
 obtain ⟨r, t, _, _, _, _, _, ht, he, _⟩ := h1.form
 have := qhb (r :: t)
 rw [<- he] at this
 simp only [List.length_cons] at this
 exact ⟨⟨⟨h1.1, by omega⟩, h2, h3⟩, by omega⟩
theorem qfH {c : Chg} (h : vb c = 0) : c.glyphs.length <= 132 /\ (∀ g ∈ c.glyphs, jV g = 0) /\ (1 <= c.kind /\ c.kind <= 4) /\ jg c = true := by
 obtain ⟨h1, h2, h3, h4⟩ := qev h
 refine ⟨?_, ?_, h1, h2⟩
 ·by_cases hk : c.kind = 3
  ·by_cases hl : 132 < c.glyphs.length
   ·exact absurd ⟨hk, hl⟩ h3
   ·omega
  ·unfold jh at h4
   have : c.glyphs = [] := by
    split at h4
    ·exact (of_decide_eq_true h4).2.2
    ·split at h4
     ·exact (of_decide_eq_true h4).2
     ·exact (of_decide_eq_true h4).2
   rw [this]
   simp
 ·by_cases hk : c.kind = 3
  ·unfold jh at h4
   rw [if_neg (by omega), if_neg (by omega), if_pos hk] at h4
   simp only [Bool.and_eq_true, List.all_eq_true, decide_eq_true_eq] at h4
   exact h4.2
  ·have : c.glyphs = [] := by
    unfold jh at h4
    split at h4
    ·exact (of_decide_eq_true h4).2.2
    ·split at h4
     ·exact (of_decide_eq_true h4).2
     ·exact (of_decide_eq_true h4).2
   rw [this]
   exact fun g hg => by cases hg
theorem phrase_ (x : ChgM) (hc : vb x.c = 0) (r : Int) (d sp : Bool) (p : Int) (con : Bool) (k : Int) (w : World) (B : Nat) (hB : B <= w.heap.size) (rd : Rd w B 3 x.A x.c.glyphs.length (qn x.c.glyphs)) (hcx : x.c.glyphs.length <= x.cap) (hmx : x.cap <= maxLen) (hs : Sp w) (hu : U8 w) (hy : Sty w) :
  Calls prog 23 #[ku x.c x.A x.cap, stV r d sp p con k] w (ql 9 1 id w (zk x.c ⟨d, sp, p⟩).length (sv (zk x.c ⟨d, sp, p⟩))) := by
 obtain ⟨hg, hgl, hk, hr⟩ := qfH hc
 obtain ⟨⟨kind, row, col, count, til, g⟩, A, cap⟩ := x
 simp only at hk hr hg hgl rd hcx hmx
 unfold jg at hr
 simp only at hr
 by_cases h1 : kind = 1
 ·subst h1
  rw [if_pos rfl, decide_eq_true_eq] at hr
  exact qfg row col count til g A cap r d sp p con k w hr
 ·by_cases h2 : kind = 2
  ·subst h2
   rw [if_neg (by decide), if_pos rfl, decide_eq_true_eq] at hr
   exact qfL row col count til g A cap r d sp p con k w ⟨hr.1, hr.2.1, by omega, by omega, by omega, by omega⟩
  ·by_cases h3 : kind = 3
   ·subst h3
    rw [if_neg (by decide), if_neg (by decide), if_pos rfl, decide_eq_true_eq] at hr
    exact qd3 row col count til g A cap r d sp p con k w B hr hg (fun x hx => (gw_of (hgl x hx)).1) hcx hmx rd hB hs hu hy
   ·obtain rfl : kind = 4 := by omega
    rw [if_neg (by decide), if_neg (by decide), if_neg (by decide), decide_eq_true_eq] at hr
    exact qeR row col count til g A cap r d sp p con k w ⟨hr.1, hr.2.1, hr.2.2.1, hr.2.2.2.1⟩
theorem qhl {c : Chg} (hc : vb c = 0) (S : Setts) : (zk c S).length <= 50000200 := by
 obtain ⟨hg, hgl, hk, _⟩ := qfH hc
 have hw := (ju (S := S) _ (Nat.le_refl _) (WoI.start S c.glyphs (by omega) fun x hx => (gw_of (hgl x hx)).1)).1
 have n1 := vo c.row
 have n2 := vo c.col
 have n3 := vo (c.row + 1)
 have n4 := vo (c.col + 1)
 have n5 := vo c.til
 have n6 := vo c.count
 have n7 := vo (-c.count)
 unfold zk
 (repeat' split) <;> simp only [List.length_append, List.length_cons, List.length_nil] <;> omega
def wErr (l : List ChgM) (m r q k : Int) : Int := if setE r q k ≠ 0 ∨ m < 0 then 1 else if 999999999 < m then 5 else vy l
def UwR (l : List ChgM) (m r q k : Int) (S : Setts) (w : World) (e : Ending) (w' : World) : Prop :=
 if wErr l m r q k = 0 then ql 9 1 jI w (km (zE l) m S).length (sv (km (zE l) m S)) e w' else e = .returned (.tuple #[.slice none 0 0, .int .i64 (wErr l m r q k)]) /\ Below w.heap.size w w'
theorem qhV {l : List ChgM} {j : Nat} (h : j < l.length) (S : Setts) : ((zE (l.drop j)).flatMap fun c => zk c S) = zk l[j].c S ++ (zE (l.drop (j + 1))).flatMap fun c => zk c S := by
 rw [List.drop_eq_getElem_cons h]
 rfl
theorem UwR.err {l : List ChgM} {m r q k x : Int} {S : Setts} {w w' : World} {e : Ending} (h : wErr l m r q k = x) (hx : x ≠ 0) (he : e = .returned (.tuple #[.slice none 0 0, .int .i64 x]) /\ Below w.heap.size w w') : UwR l m r q k S w e w' := by
 unfold UwR
 rw [if_neg (by rw [h]; exact hx), h]
 exact he
theorem UwR.ok {l : List ChgM} {m r q k : Int} {S : Setts} {w w' : World} {e : Ending} (h : wErr l m r q k = 0) (he : ql 9 1 jI w (km (zE l) m S).length (sv (km (zE l) m S)) e w') : UwR l m r q k S w e w' := by
 unfold UwR
 rw [if_pos h]
 exact he
theorem uwords_ (l : List ChgM) (A : Option Addr) (n c : Nat) (m : Int) (r : Int) (d sp : Bool) (p : Int) (con : Bool) (k : Int) (w : World) (hn : n <= 1000) (rd : RdC w w.heap.size A n l) (hsm : SmC l) (hs : Sp w) (hu : U8 w) (hy : Sty w) :
  Calls prog 9 #[.slice A n c, .int .i64 m, stV r d sp p con k] w (UwR l m r p k ⟨d, sp, p⟩ w) := by
 have HCk : Hid (∀ w', Below w.heap.size w w' -> Calls prog 21 #[.slice A n c] w' (qg (.int .i64 (vy l)) w')) := Lh fun w' h => uCheck_ l A n c w.heap.size w' (by omega) (rd.below h) h.size hsm (hu.below h)
 have HSt := Lh (check_s r d sp p con k)
 by_cases h1 : setE r p k = 0
 ·by_cases h2 : m < 0
  ·refine (?_ : Calls _ _ _ w (fun e w' => e = .returned (.tuple #[.slice none 0 0, .int .i64 1]) /\ Below w.heap.size w w')).mono fun e w' h => UwR.err (if_pos (.inr h2)) (by decide) h
   rw [h1] at HSt
   generalize vy l = E2 at *
   clear h1 rd hsm hs hu hy
   go_enter func9, ntmps9
   go_upto_region 1 with fail
   refine qc (fun X => StBox X r d sp p con k w.heap.size /\ Below w.heap.size w X /\ w.heap.size + 1 <= X.heap.size) ⟨StBox.new w r d sp p con k _, (Below.refl _ _).alloc (Nat.le_refl _) _, by simp⟩ ?_
   rintro X ⟨hst, hb0, hz0⟩
   have hst' := hst
   obtain ⟨s0, s1, s2, s3, s4, s5⟩ := hst
   go_wp2_with (first | (go_at_call 21; refine (HCk.out _ hb0).mono ?_; rintro e w1 ⟨rfl, hb1⟩; have hst1 := hst'.below hb1 (by omega); clear s0 s1 s2 s3 s4 s5; obtain ⟨s0, s1, s2, s3, s4, s5⟩ := id hst1) | (go_at_call 22; refine (HSt.out _).mono ?_; rintro e w2 ⟨rfl, hb2⟩))
   go_ret2
   exact ⟨rfl, hb0.trans ((hb1.mono hb0.size).trans (hb2.mono (Nat.le_trans hb0.size hb1.size)))⟩
  ·have hw0 : wErr l m r p k = if 999999999 < m then 5 else vy l := if_neg (by rw [h1]; simp; omega)
   rw [h1] at HSt
   clear h1
   by_cases h3 : 999999999 < m
   ·rw [if_pos h3] at hw0
    refine (?_ : Calls _ _ _ w (fun e w' => e = .returned (.tuple #[.slice none 0 0, .int .i64 5]) /\ Below w.heap.size w w')).mono fun e w' h => UwR.err hw0 (by decide) h
    clear hw0
    generalize vy l = E2 at *
    clear rd hsm hs hu hy
    go_enter func9, ntmps9
    go_upto_region 1 with fail
    refine qc (fun X => StBox X r d sp p con k w.heap.size /\ Below w.heap.size w X /\ w.heap.size + 1 <= X.heap.size) ⟨StBox.new w r d sp p con k _, (Below.refl _ _).alloc (Nat.le_refl _) _, by simp⟩ ?_
    rintro X ⟨hst, hb0, hz0⟩
    have hst' := hst
    obtain ⟨s0, s1, s2, s3, s4, s5⟩ := hst
    go_wp2_with (first | (go_at_call 21; refine (HCk.out _ hb0).mono ?_; rintro e w1 ⟨rfl, hb1⟩; have hst1 := hst'.below hb1 (by omega); clear s0 s1 s2 s3 s4 s5; obtain ⟨s0, s1, s2, s3, s4, s5⟩ := id hst1) | (go_at_call 22; refine (HSt.out _).mono ?_; rintro e w2 ⟨rfl, hb2⟩))
    go_ret2
    exact ⟨rfl, hb0.trans ((hb1.mono hb0.size).trans (hb2.mono (Nat.le_trans hb0.size hb1.size)))⟩
   ·rw [if_neg h3] at hw0
    by_cases h4 : vy l = 0
    ·rw [h4] at hw0 HCk
     refine (?_ : Calls _ _ _ w (ql 9 1 jI w (km (zE l) m ⟨d, sp, p⟩).length (sv (km (zE l) m ⟨d, sp, p⟩)))).mono fun e w' h => UwR.ok hw0 h
     have HPh : Hid (∀ x ∈ l, ∀ w', Below w.heap.size w w' -> Calls prog 23 #[ku x.c x.A x.cap, stV r d sp p con k] w' (ql 9 1 id w' (zk x.c ⟨d, sp, p⟩).length (sv (zk x.c ⟨d, sp, p⟩)))) := Lh fun x hx w' hw =>
      phrase_ x (yW.1 h4 x.c (List.mem_map_of_mem hx)) r d sp p con k w' w.heap.size hw.size ((rd.gl x hx).1.below hw) (rd.gl x hx).2.1 (rd.gl x hx).2.2 (hs.below hw (Nat.le_refl _)) (hu.below hw) (hy.below hw (Nat.le_refl _))
     have HLe : Hid (∀ x ∈ l, (zk x.c ⟨d, sp, p⟩).length <= 50000200) := Lh fun x hx => qhl (yW.1 h4 x.c (List.mem_map_of_mem hx)) _
     have HN := Lh rd.len
     have HRd := Lh rd
     have HFl : Hid (∀ j (h : j < l.length), ((zE (l.drop j)).flatMap fun c => zk c ⟨d, sp, p⟩) = zk l[j].c ⟨d, sp, p⟩ ++ (zE (l.drop (j + 1))).flatMap fun c => zk c ⟨d, sp, p⟩) := Lh fun j h => qhV h _
     have HEn : Hid (∀ j, l.length <= j -> ((zE (l.drop j)).flatMap fun c => zk c ⟨d, sp, p⟩) = []) := Lh fun j h => by rw [List.drop_of_length_le h]; rfl
     have H0 : Hid (km (zE l) m ⟨d, sp, p⟩ = [] ++ (((zE (l.drop 0)).flatMap fun c => zk c ⟨d, sp, p⟩) ++ endW m)) := Lh rfl
     generalize km (zE l) m ⟨d, sp, p⟩ = R at *
     generalize hF : (fun j => (zE (l.drop j)).flatMap fun c => zk c ⟨d, sp, p⟩) = F
     replace HFl : Hid (∀ j (h : j < l.length), F j = zk l[j].c ⟨d, sp, p⟩ ++ F (j + 1)) := Lh (by rw [<- hF]; exact HFl.out)
     replace HEn : Hid (∀ j, l.length <= j -> F j = []) := Lh (by rw [<- hF]; exact HEn.out)
     replace H0 : Hid (R = [] ++ (F 0 ++ endW m)) := Lh (by rw [<- hF]; exact H0.out)
     have HWd : Hid (∀ w, Calls prog 24 #[.int .i64 m] w (ql 9 1 jI w (zI m).length (sv (zI m)))) := Lh fun w => by
      have := ka m (by omega) (by omega) w
      rw [qcf] at this
      unfold zI
      rw [List.length_map]
      exact this
     have HMl := Lh (vo m)
     clear hF hw0 h4 rd hsm hs hu hy
     go_enter func9, ntmps9
     go_upto_region 1 with fail
     refine qc (fun X => StBox X r d sp p con k w.heap.size /\ Below w.heap.size w X /\ w.heap.size + 1 <= X.heap.size) ⟨StBox.new w r d sp p con k _, (Below.refl _ _).alloc (Nat.le_refl _) _, by simp⟩ ?_
     rintro X ⟨hst, hb0, hz0⟩
     have hst' := hst
     obtain ⟨s0, s1, s2, s3, s4, s5⟩ := hst
     go_wp2_with (first | (go_at_call 21; refine (HCk.out _ hb0).mono ?_; rintro e w1 ⟨rfl, hb1⟩; have hst1 := hst'.below hb1 (by omega); clear s0 s1 s2 s3 s4 s5; obtain ⟨s0, s1, s2, s3, s4, s5⟩ := id hst1) | (go_at_call 22; refine (HSt.out _).mono ?_; rintro e w2 ⟨rfl, hb2⟩))
     have hb3 : Below w.heap.size w w2 := hb0.trans ((hb1.mono hb0.size).trans (hb2.mono (Nat.le_trans hb0.size hb1.size)))
     have hst2 := hst1.below hb2 (by have := hb1.size; omega)
     have hz2 : w.heap.size + 1 <= w2.heap.size := by have := hb1.size; have := hb2.size; omega
     clear hb0 hb1 hb2 hst1 hst' s0 s1 s2 s3 s4 s5 hz0
     go_loopw [9, 33] (fun x y wr => ∃ (j : Nat) (A2 : Option Addr) (c2 : Nat) (O : List ByteArray), j <= n /\ y = .int .i64 j /\ x = .slice A2 O.length c2 /\ wr.ownsRow (w.heap.size + 1) 9 1 (.slice A2 O.length c2) O.length (sv O) /\ O.length <= j * 50000200 /\ StBox wr r d sp p con k w.heap.size /\ Below w.heap.size w wr /\ w.heap.size + 1 <= wr.heap.size /\ Hid (R = O ++ (F j ++ endW m))) (fun _ y _ => n - (intOf y).toNat)
     case atStart => exact ⟨0, none, 0, [], Nat.zero_le _, rfl, rfl, zh _ _ _ _, by simp, hst2, hb3, hz2, H0⟩
     case round =>
      clear hb3 hst2 hz2 H0
      obtain ⟨j, A2, c2, O, hj, rfl, rfl, ho, hol, hst, hbl, hzr, HK⟩ := hrel
      have hol2 : O.length <= 50000200000 := by
       have : j * 50000200 <= 1000 * 50000200 := Nat.mul_le_mul_right _ (by omega)
       omega
      by_cases hlt : j < n
      ·have hjl : j < l.length := by have := HN.out; omega
       obtain ⟨b, o, rfl, hbB, g0, g1, g2, g3, g4, g5⟩ := (HRd.out.below hbl).at_ hjl
       have HD := Lh (HFl.out j hjl)
       have HP := Lh (HPh.out l[j] (List.getElem_mem hjl))
       have hpl := HLe.out l[j] (List.getElem_mem hjl)
       generalize l[j] = x at *
       obtain ⟨⟨kind, row, col, count, til, g⟩, Ag, cg⟩ := x
       dsimp only at *
       obtain ⟨W, hW⟩ : ∃ x, Hid (x = zk ⟨kind, row, col, count, til, g⟩ ⟨d, sp, p⟩) := ⟨_, Lh rfl⟩
       rw [<- hW.out] at HD HP hpl
       have HK2 : Hid (R = (O ++ W) ++ (F (j + 1) ++ endW m)) := Lh (by rw [HK.out, HD.out]; simp only [List.append_assoc])
       have hol3 : (O ++ W).length <= (j + 1) * 50000200 := by rw [List.length_append, Nat.add_mul]; omega
       clear HK HD HPh HLe HFl HEn HCk HSt HRd hW HWd HMl
       have hbx := ChgBox.new wr ⟨kind, row, col, count, til, g⟩ Ag cg 34
       go_upto_region 12 with fail
       refine qc (ChgBox wr ⟨kind, row, col, count, til, g⟩ Ag cg) hbx ?_
       clear hbx
       rintro wb ⟨k0, k1, k2, k3, k4, k5, hbb, hzb⟩
       dsimp only at k0 k1 k2 k3 k4 k5
       have hst3 := hst.below hbb (by omega)
       have how := qa ho hbb
       have hblw := hbl.trans (hbb.mono hbl.size)
       obtain ⟨s0, s1, s2, s3, s4, s5⟩ := id hst3
       clear g0 g1 g2 g3 g4 g5
       go_wp2_with (first
        | (go_at_call 23; refine (HP.out _ hblw).mono ?_; rintro e w4 ⟨A4, c4, rfl, ho4, hb4⟩; have hz4 := hb4.size)
        | (at_builtin; refine qh rfl _ _ _ rfl qx ((w.heap.size + 1)) _ rfl (qa how hb4) _ _ rfl ((Rd.of_own ho4)) (by first | rfl | exact qN _ | exact qO _) (by omega) (by omega) (by first | (simp; done) | (simp; omega) | omega) ?_; intro A5 c5 w5 hown5 qib hgr5 hat5; have z5 := qib.size; (try simp only [World.size_alloc] at z5); (try simp only [Nat.zero_add, List.nil_append] at hown5)))
       exact ⟨⟨j + 1, A5, c5, O ++ W, by omega, by go_num, by rw [List.length_append], by rw [List.length_append, kH]; exact hown5, hol3, (hst3.below hb4 (by omega)).below qib (by omega), (hblw.trans (hb4.mono hblw.size)).trans (qib.mono (by omega)), by omega, HK2⟩, by simp [intOf]; omega⟩
      ·have HK2 : Hid (R = O ++ endW m) := Lh (by rw [HK.out, HEn.out j (by have := HN.out; omega)]; rfl)
       clear HK HPh HLe HFl HEn HCk HSt HRd
       by_cases h0 : m = 0
       ·subst h0
        have HK3 : Hid (R = O ++ [vh]) := Lh HK2.out
        clear HK2 HWd HMl
        go_wp2_with (at_builtin; refine qh rfl _ _ _ rfl qx ((w.heap.size + 1)) _ rfl (qa ho ((Below.refl _ _).alloc (Nat.le_refl _) _)) _ _ rfl ((qe (xs := sv [vh]) rfl rfl)) (by first | rfl | exact qN _ | exact qO _) (by omega) (by omega) (by first | (simp; done) | (simp; omega) | omega) ?_; intro A9 c9 w9 qig qin qij hat9; have z9 := qin.size; (try simp only [World.size_alloc] at z9); (try simp only [Nat.zero_add, List.nil_append] at qig))
        go_ret2
        rw [HK3.out, List.length_append, kH]
        exact ⟨A9, c9, rfl, qq qig (by omega), (hbl.alloc hbl.size _).trans (qin.mono (by omega))⟩
       ·by_cases h1' : m = 1
        ·subst h1'
         have HK3 : Hid (R = O ++ [q8]) := Lh HK2.out
         clear HK2 HWd HMl
         go_wp2_with (at_builtin; refine qh rfl _ _ _ rfl qx ((w.heap.size + 1)) _ rfl (qa ho ((Below.refl _ _).alloc (Nat.le_refl _) _)) _ _ rfl ((qe (xs := sv [q8]) rfl rfl)) (by first | rfl | exact qN _ | exact qO _) (by omega) (by omega) (by first | (simp; done) | (simp; omega) | omega) ?_; intro A9 c9 w9 qig qin qij hat9; have z9 := qin.size; (try simp only [World.size_alloc] at z9); (try simp only [Nat.zero_add, List.nil_append] at qig))
         go_ret2
         rw [HK3.out, List.length_append, kH]
         exact ⟨A9, c9, rfl, qq qig (by omega), (hbl.alloc hbl.size _).trans (qin.mono (by omega))⟩
        ·have HK3 : Hid (R = O ++ [q8] ++ zI m ++ [zy]) := Lh (by rw [HK2.out, endW, if_neg h0, if_neg h1']; simp only [List.append_assoc]; rfl)
         have hb0 : (m == 0) = false := beq_eq_false_iff_ne.2 h0
         have hb1 : (m == 1) = false := beq_eq_false_iff_ne.2 h1'
         have hml := HMl.out
         clear HK2 h0 h1' HMl
         generalize zI m = NM at *
         go_upto_region 20 with (go_at_call 24; refine (HWd.out _).mono ?_; rintro e w5 ⟨A5, c5, rfl, ho5, hb5⟩)
         have hz5 := hb5.size
         have how := qa ho hb5
         have hb6 := hbl.trans (hb5.mono hbl.size)
         clear HWd hst
         go_wp2_with (first
          | ((fail_if_success have := qif); (at_builtin; refine qh rfl _ _ _ rfl qx ((w.heap.size + 1)) _ rfl (qa how ((Below.refl _ _).alloc (Nat.le_refl _) _)) _ _ rfl ((qe (xs := sv [q8]) rfl rfl)) (by first | rfl | exact qN _ | exact qO _) (by omega) (by omega) (by first | (simp; done) | (simp; omega) | omega) ?_; intro A7 c7 w7 qif qid hgr7 hat7; have z7 := qid.size; (try simp only [World.size_alloc] at z7); (try simp only [Nat.zero_add, List.nil_append] at qif)); have o57 := (qa ho5 ((Below.refl _ _).alloc (Nat.le_refl _) _)).kept hgr7 (qfa ho ho5 (Nat.le_refl _)))
          | ((fail_if_success have := hown8); (at_builtin; refine qh rfl _ _ _ rfl qx ((w.heap.size + 1)) _ rfl (qif) _ _ rfl ((Rd.of_own o57)) (by first | rfl | exact qN _ | exact qO _) (by omega) (by omega) (by first | (simp; done) | (simp; omega) | omega) ?_; intro A8 c8 w8 hown8 hbel8 hgr8 hat8; have z8 := hbel8.size; (try simp only [World.size_alloc] at z8); (try simp only [Nat.zero_add, List.nil_append] at hown8)))
          | (at_builtin; refine qh rfl _ _ _ rfl qx ((w.heap.size + 1)) _ rfl (qa hown8 ((Below.refl _ _).alloc (Nat.le_refl _) _)) _ _ rfl ((qe (xs := sv [zy]) rfl rfl)) (by first | rfl | exact qN _ | exact qO _) (by omega) (by omega) (by first | (simp; done) | (simp; omega) | omega) ?_; intro A9 c9 w9 qig qin qij hat9; have z9 := qin.size; (try simp only [World.size_alloc] at z9); (try simp only [Nat.zero_add, List.nil_append] at qig)))
         go_ret2
         rw [HK3.out, List.length_append, List.length_append, List.length_append, kH, kH, kH]
         exact ⟨A9, c9, rfl, qq qig (by omega), (((hb6.alloc hb6.size _).trans (qid.mono (by omega))).trans (hbel8.mono (by omega))).trans ((Below.alloc (Below.refl w.heap.size w8) (by omega) _).trans (qin.mono (by omega)))⟩
    ·refine (?_ : Calls _ _ _ w (fun e w' => e = .returned (.tuple #[.slice none 0 0, .int .i64 (vy l)]) /\ Below w.heap.size w w')).mono fun e w' h => UwR.err hw0 h4 h
     clear hw0
     generalize vy l = E2 at *
     have h4b : (E2 != 0) = true := bne_iff_ne.2 h4
     clear rd hsm hs hu hy h4
     go_enter func9, ntmps9
     go_upto_region 1 with fail
     refine qc (fun X => StBox X r d sp p con k w.heap.size /\ Below w.heap.size w X /\ w.heap.size + 1 <= X.heap.size) ⟨StBox.new w r d sp p con k _, (Below.refl _ _).alloc (Nat.le_refl _) _, by simp⟩ ?_
     rintro X ⟨hst, hb0, hz0⟩
     have hst' := hst
     obtain ⟨s0, s1, s2, s3, s4, s5⟩ := hst
     go_wp2_with (first | (go_at_call 21; refine (HCk.out _ hb0).mono ?_; rintro e w1 ⟨rfl, hb1⟩; have hst1 := hst'.below hb1 (by omega); clear s0 s1 s2 s3 s4 s5; obtain ⟨s0, s1, s2, s3, s4, s5⟩ := id hst1) | (go_at_call 22; refine (HSt.out _).mono ?_; rintro e w2 ⟨rfl, hb2⟩))
     go_ret2
     exact ⟨rfl, hb0.trans ((hb1.mono hb0.size).trans (hb2.mono (Nat.le_trans hb0.size hb1.size)))⟩
 ·refine (?_ : Calls _ _ _ w (fun e w' => e = .returned (.tuple #[.slice none 0 0, .int .i64 1]) /\ Below w.heap.size w w')).mono fun e w' h => UwR.err (if_pos (.inl h1)) (by decide) h
  generalize vy l = E2 at *
  generalize setE r p k = E1 at *
  have h1b : (E1 != 0) = true := bne_iff_ne.2 h1
  clear h1 rd hsm hs hu hy
  go_enter func9, ntmps9
  go_upto_region 1 with fail
  refine qc (fun X => StBox X r d sp p con k w.heap.size /\ Below w.heap.size w X /\ w.heap.size + 1 <= X.heap.size) ⟨StBox.new w r d sp p con k _, (Below.refl _ _).alloc (Nat.le_refl _) _, by simp⟩ ?_
  rintro X ⟨hst, hb0, hz0⟩
  have hst' := hst
  obtain ⟨s0, s1, s2, s3, s4, s5⟩ := hst
  go_wp2_with (first | (go_at_call 21; refine (HCk.out _ hb0).mono ?_; rintro e w1 ⟨rfl, hb1⟩; have hst1 := hst'.below hb1 (by omega); clear s0 s1 s2 s3 s4 s5; obtain ⟨s0, s1, s2, s3, s4, s5⟩ := id hst1) | (go_at_call 22; refine (HSt.out _).mono ?_; rintro e w2 ⟨rfl, hb2⟩))
  go_ret2
  exact ⟨rfl, hb0.trans ((hb1.mono hb0.size).trans (hb2.mono (Nat.le_trans hb0.size hb1.size)))⟩
def qaz (m z : Nat) (l : List ByteArray) : Bool := decide (l.length <= m) && l.all fun s => decide (s.size <= z)
theorem all_drop {α : Type} {l : List α} {k : Nat} (p : α -> Bool) (h : k < l.length) : (l.drop k).all p = (p l[k] && (l.drop (k + 1)).all p) := by
 rw [List.drop_eq_getElem_cons h, List.all_cons]
theorem short41_ (l : List ByteArray) (A : Option Addr) (n c B : Nat) (w : World) (hm : n <= maxLen) (rd : Rd w B 1 A n (sv l)) :
  Calls prog 4 #[.slice A n c] w fun e w' => e = .returned (.bool (qaz 100 40 l)) /\ w' = w := by
 have HN : Hid (l.length = n) := Lh (by have := rd.1; rw [qdI] at this; omega)
 have hmm : n <= 9223372036854775807 := by unfold maxLen at hm; omega
 unfold qaz
 rw [HN.out]
 clear hm
 by_cases h0 : n <= 100
 ·rw [decide_eq_true h0, Bool.true_and]
  have hi : (n : Int) <= 100 := by omega
  have H0 : Hid ((l.all fun s => decide (s.size <= 40)) = ((l.drop 0).all fun s => decide (s.size <= 40))) := Lh rfl
  generalize (l.all fun s => decide (s.size <= 40)) = R at *
  clear h0
  go_enter func4, ntmps4
  go_wp2
  go_loop [10] (fun x => ∃ k : Nat, k <= n /\ x = .int .i64 k /\ Hid (R = ((l.drop k).all fun s => decide (s.size <= 40)))) (fun x => n - (intOf x).toNat)
  case atStart => exact ⟨0, Nat.zero_le _, rfl, H0⟩
  case round =>
   obtain ⟨k, hk, rfl, HK⟩ := hrel
   by_cases hlt : k < n
   ·have hkl : k < l.length := by have := HN.out; omega
    obtain ⟨b, o, rfl, _, g0⟩ := rd.at_ hlt
    rw [vM _ _ hkl] at g0
    have HD := Lh (all_drop (fun s : ByteArray => decide (s.size <= 40)) hkl)
    generalize l[k] = t at *
    by_cases hz : t.size <= 40
    ·have HR2 : Hid (R = ((l.drop (k + 1)).all fun s => decide (s.size <= 40))) := Lh (by rw [HK.out, HD.out, decide_eq_true hz]; rfl)
     have hzi : (t.size : Int) <= 40 := by omega
     clear HK HD hz
     go_wp2
     exact ⟨⟨k + 1, by omega, by go_num, HR2⟩, by simp [intOf]; omega⟩
    ·have HR2 : Hid (R = false) := Lh (by rw [HK.out, HD.out, decide_eq_false hz]; rfl)
     have hzi : (40 : Int) < (t.size : Int) := by omega
     clear HK HD hz
     go_wp2
     go_ret
     exact ⟨by rw [HR2.out]; rfl, rfl⟩
   ·have HR2 : Hid (R = true) := Lh (by rw [HK.out, List.drop_of_length_le (by have := HN.out; omega)]; rfl)
    go_wp2
    go_ret
    exact ⟨by rw [HR2.out]; rfl, rfl⟩
 ·rw [decide_eq_false h0, Bool.false_and]
  have hi : (100 : Int) < (n : Int) := by omega
  go_enter func4, ntmps4
  go_wp2
  go_ret
  exact ⟨rfl, rfl⟩
theorem qfx {m z : Nat} {l : List ByteArray} (h : qaz m z l = true) : l.length <= m /\ ∀ s ∈ l, s.size <= z := by
 unfold qaz at h
 simp only [Bool.and_eq_true, List.all_eq_true, decide_eq_true_eq] at h
 exact h
end Go.Proofs.YtlndbiamiioakaaGreatDoor
