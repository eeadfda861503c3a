/- Joined: Sy1, Wo0. -/
import Derived.Test.YtlndbiamiioakaaGreatDoorVAR
set_option linter.unusedVariables false
set_option linter.unusedSimpArgs false
set_option linter.unnecessarySimpa false
set_option maxHeartbeats 8000000
namespace Go.Proofs.YtlndbiamiioakaaGreatDoor
open Go.Proofs.Tryz Go.RowKit
set_option maxRecDepth 20000
def Sty (w : World) : Prop := ∀ i : Nat, i < 4 -> w.cell? ⟨0, i, none⟩ = some (.string (vF i))
theorem Sty.below {w w' : World} {B : Nat} (h : Sty w) (hb : Below B w w') (hB : w.heap.size <= B) : Sty w' := fun i hi => (hb.cell (Nat.lt_of_lt_of_le (yQ (h i hi)) hB)).trans (h i hi)
def qaw (p : Spk) (g : Gl) (w0 : ByteArray) : List ByteArray :=
 if g.style ≠ p.style then [vF g.style.toNat] else if qv g ≠ 0 /\ p.before ≠ 0 then (if p.silent = true then [] else [qY])
  else if p.out ≠ [] /\ ze w0 = true /\ ze (p.out.getLastD ⟨#[]⟩) = true then [qY] else []
theorem qdG {p : Spk} {s : Setts} {l : List Gl} {g : Gl} {t : List Gl} (hl : l = g :: t) : sayL p s l = ⟨p.out ++ qaw p g ((qJ l s.spell s.digits).headD ⟨#[]⟩) ++ qJ l s.spell s.digits, g.style, qv g, false⟩ := by
 subst hl
 rfl
def SayP (g : Nat) (r : Int) (d sp : Bool) (p : Int) (con : Bool) (k : Int) (nb : Nat) (q : Spk) (w : World) (en : Ending) (w' : World) : Prop :=
 ∃ A c, en = .returned (.tuple #[]) /\ Blk w' g 88 (jd r d sp p con k nb (.slice A q.out.length c) q.style q.before q.silent) /\ w'.ownsRow (g + 1) 9 1 (.slice A q.out.length c) q.out.length (sv q.out) /\ Below g w w'
theorem say_ (l : List Gl) (a : Gl) (t : List Gl) (hl : l = a :: t) (A : Option Addr) (m c g B : Nat) (r : Int) (d sp : Bool) (p : Int) (con : Bool) (k : Int) (nb : Nat) (A0 : Option Addr) (c0 : Nat) (out : List ByteArray) (st : Int) (bef : Nat) (sil : Bool) (w : World)
  (hs : Sp w) (hty : Sty w) (hset : SetM w nb 32 ze) (hP : PieceOK l) (hok : GOK a) (hst : 0 <= a.style /\ a.style <= 3) (hout : out.length <= 100000000) (hosz : ∀ s ∈ out, s.size <= maxLen)
  (rd : Rd w B 3 A m (qn l)) (hB : B <= g) (hnb : nb < g) (hblk : Blk w g 88 (jd r d sp p con k nb (.slice A0 out.length c0) st bef sil)) (hown : w.ownsRow (g + 1) 9 1 (.slice A0 out.length c0) out.length (sv out)) :
  Calls prog 53 #[.pointer (some ⟨g, 0, none⟩), .slice A m c] w (SayP g r d sp p con k nb (sayL ⟨out, st, bef, sil⟩ ⟨d, sp, p⟩ l) w) := by
 have hgl := hblk.lt
 have hln := yl rd
 have hl0 : 0 < l.length := by rw [hl]; simp
 have hg0 : l[0] = a := by subst hl; rfl
 obtain ⟨b, o, rfl, hbB, a0, a1, a2⟩ := jJ rd hl0 hln
 rw [hg0, Nat.zero_mul, Nat.add_zero] at a0 a1 a2
 have HK := Lh (qbr a (by have := hok.2; omega))
 have hne := qde hl hP hok sp d
 have hszs := kt hl hP sp d
 have HSp : Hid (∀ w', Below w.heap.size w w' -> Calls prog 71 #[.slice (some ⟨b, o, none⟩) m c, stV r d sp p con k] w' (ql 9 1 id w' (qJ l sp d).length (sv (qJ l sp d)))) := Lh fun w' hw =>
  qf5 l a t hl hP _ m c B r d sp p con k w' (hs.below hw (Nat.le_refl _)) (rd.keep fun p hp => hw.cell (by omega)) (by have := hw.size; omega)
 rw [qdG hl]
 obtain ⟨s0, W, hW⟩ : ∃ s0 W, qJ l sp d = s0 :: W := by
  cases h : qJ l sp d with
  | nil => exact absurd h hne
  | cons x y => exact ⟨x, y, rfl⟩
 have hs0 : s0.size <= maxLen := hszs s0 (by rw [hW]; simp)
 have hWl : (s0 :: W).length <= 40000 := by rw [<- hW]; exact qcw hl hP sp d
 simp only
 rw [hW, List.headD_cons]
 rw [hW, List.length_cons] at HSp
 generalize qiw : qaw ⟨out, st, bef, sil⟩ a s0 = PRE at *
 replace qiw := Lh qiw
 have HT := Lh hty
 have qix : Hid (∀ w', Below g w w' -> ∀ s : ByteArray, s.size <= maxLen -> (Instr.lookup 85 (.map (some nb)) (.string s) false).run prog w' = .ok (.bool (ze s)) w') := Lh fun w' hw s hz => (hset.up hw hnb).look s hz
 have S0 := hblk.cell 0
 have S1 := hblk.cell 1
 have S2 := hblk.cell 2
 have S3 := hblk.cell 3
 have S4 := hblk.cell 4
 have S5 := hblk.cell 5
 simp only [jd, La, Lb, Lc] at S0 S1 S2 S3 S4 S5
 have hk3 := yD a
 obtain ⟨tt, wd, s⟩ := a
 dsimp only at *
 have hbx : Hid (∀ w', Below w.heap.size w w' -> w'.cell? ⟨b, o, none⟩ = some (.string tt) /\ w'.cell? ⟨b, o + 1, none⟩ = some (.bool wd) /\ w'.cell? ⟨b, o + 2, none⟩ = some (.int .i64 s)) := Lh fun w' hw => ⟨(hw.cell (by show b < _; omega)).trans a0, (hw.cell (by show b < _; omega)).trans a1, (hw.cell (by show b < _; omega)).trans a2⟩
 have hm0 : 0 < m := by omega
 generalize hKK : qv ⟨tt, wd, s⟩ = K at *
 have HOsz := Lh hosz
 clear hs hty hset hP hok rd hl hl0 hg0 hln hne hszs hW hosz
 go_enter func53, ntmps53
 go_upto_region 1 with (go_at_call 68; refine (HK.out _).mono ?_; rintro e w1 ⟨rfl, qh7⟩)
 have B1 := hblk.below qh7 hgl
 have s0' := B1.cell 0
 have s1' := B1.cell 1
 have s2' := B1.cell 2
 have s3' := B1.cell 3
 have s4' := B1.cell 4
 have s5' := B1.cell 5
 simp only [jd, La, Lb, Lc] at s0' s1' s2' s3' s4' s5'
 go_upto_block 0 with (go_at_call 71; refine (HSp.out w1 qh7).mono ?_; rintro e w2 ⟨A5, c5, rfl, hown5, qib⟩)
 have t2 := qh7.trans (qib.mono qh7.size)
 have B2 := hblk.below t2 hgl
 have qiF := qa hown t2
 have hdj : Dj (Value.slice A0 out.length c0).ownBlock (Value.slice A5 (W.length + 1) c5).ownBlock := fun q h1 h2 => by
  have h3 := y8 hown q h1
  have h4 := (hown5.lt q h2).1
  have h5 := qh7.size
  omega
 have z1 := qh7.size
 have z2 := t2.size
 have tg : Below g w w2 := t2.mono (Nat.le_of_lt hgl)
 obtain ⟨n0, n1, n2⟩ := hbx.out w2 t2
 clear s0' s1' s2' s3' s4' s5' B1 S0 S1 S2 S3 S4 S5 a0 a1 a2 HK HSp hown
 go_cut [] (fun wx => SayM w g r d sp p con k nb ⟨out ++ PRE, s, bef, sil⟩ w1.heap.size A5 c5 (s0 :: W) wx)
 case first =>
  have S3 := B2.cell 3
  have S7 := B2.cell 7
  have S8 := B2.cell 8
  have S9 := B2.cell 9
  have S10 := B2.cell 10
  have S6 := B2.cell 6
  have F7 := B2.frozen 7
  have F8 := B2.frozen 8
  simp only [jd, La, Lb, Lc] at S3 S6 S7 S8 S9 S10
  by_cases h1 : s = st
  ·obtain rfl := h1
   have e1 : (s != s) = false := by simp
   by_cases hkb : K ≠ 0 /\ bef ≠ 0
   ·have eK : ((K : Int) != 0) = true := bne_iff_ne.2 (by omega)
    have eb : ((bef : Int) != 0) = true := bne_iff_ne.2 (by omega)
    cases sil with
    | true =>
     have hp : PRE = [] := by rw [<- qiw.out]; simp [qaw, hKK, hkb.1, hkb.2]
     clear qiw hkb
     go_wp2
     go_quiet (fail)
     go_wp2
     go_meet
     rw [hp, List.append_nil]
     exact ⟨A0, c0, Blk.drewN B2 _, qa qiF (qb (Below.refl _ _)), qb tg, qa hown5 (qb (Below.refl _ _)), hdj, z2⟩
    | false =>
     have hp : PRE = [qY] := by rw [<- qiw.out]; simp [qaw, hKK, hkb.1, hkb.2]
     have hpl : (out ++ PRE).length = out.length + 1 := by rw [hp]; simp
     have hps : sv (out ++ PRE) = sv out ++ [.string qY] := by rw [hp]; simp [sv]
     clear qiw hkb hp
     go_wp2
     go_quiet (fail)
     have Bd := Blk.drewN B2 nq
     have oOd := qa qiF (qb (n := nq) (Below.refl _ _))
     have o5d := qa hown5 (qb (n := nq) (Below.refl _ _))
     have tgd := qb (n := nq) tg
     have zd2 : w.heap.size <= (w2.drewN nq).heap.size := z2
     generalize w2.drewN nq = wz at *
     have d7 := Bd.cell 7
     have d8 := Bd.frozen 7
     have d9 := Bd.cell 9
     have d10 := Bd.cell 10
     simp only [jd, La, Lb, Lc] at d7 d9 d10
     have d7a := ((Below.refl wz.heap.size wz).alloc (Nat.le_refl _) (.cells #[.string qY] 9)).cell (p := ⟨g, 7, none⟩) Bd.lt
     rw [d7] at d7a
     go_wp2_with ((at_builtin; go_must (refine qh rfl _ _ _ rfl qx ((g + 1)) _ rfl ((oOd.alloc _)) _ _ rfl ((qe (by rfl) rfl)) (by first | rfl | exact qN _ | exact qO _) (by omega) (by omega) (by first | (simp; done) | (simp; omega) | omega) ?_); intro A4 c4 w4 qie qia qii qik; have z4 := qia.size; (try simp only [World.size_alloc] at z4); (try simp only [Nat.zero_add, List.nil_append] at qie)); have B4 := (Blk.alloc Bd (.cells #[.string qY] 9)).below qia (Nat.lt_succ_self g); have c47 := B4.cell 7; have f47 := B4.frozen 7; simp only [jd, La, Lb, Lc] at c47)
     go_meet
     exact qbO (W := s0 :: W) (q := ⟨out ++ PRE, s, bef, false⟩) (Blk.alloc Bd _) (oOd.alloc _) (o5d.alloc _) hdj (by omega) (tgd.alloc (by omega) _) (by simp; omega) qie qia qii qik hpl hps rfl rfl rfl
   ·have hkb' : ¬ (qv ⟨tt, wd, s⟩ ≠ 0 /\ bef ≠ 0) := by rw [hKK]; exact hkb
    by_cases hK0 : K = 0
    ·have eK : ((K : Int) != 0) = false := by rw [hK0]; rfl
     clear hK0
     go_wp2
     go_quiet (fail)
     have Bd := Blk.drewN B2 nq
     have oOd := qa qiF (qb (n := nq) (Below.refl _ _))
     have o5d := qa hown5 (qb (n := nq) (Below.refl _ _))
     have tgd := qb (n := nq) tg
     have zd2 : w.heap.size <= (w2.drewN nq).heap.size := z2
     generalize w2.drewN nq = wz at *
     have d6 := Bd.cell 6
     have d7 := Bd.cell 7
     have d8 := Bd.frozen 7
     have d9 := Bd.cell 9
     have d10 := Bd.cell 10
     simp only [jd, La, Lb, Lc] at d6 d7 d9 d10
     go_upto_region 8 with fail
     by_cases hn0 : out = []
     ·have hp : PRE = [] := by rw [<- qiw.out]; simp [qaw, hkb', hn0]
      have hgt : ¬ (0 : Int) < (out.length : Int) := by subst hn0; simp
      have hgd : decide (0 < out.length) = false := decide_eq_false (by omega)
      clear qiw hkb' hkb hn0
      go_wp2
      go_quiet (fail)
      go_wp2
      go_meet
      rw [hp, List.append_nil]
      exact ⟨A0, c0, Blk.drewN Bd _, qa oOd (qb (Below.refl _ _)), qb tgd, qa o5d (qb (Below.refl _ _)), hdj, zd2⟩
     ·obtain ⟨LN, hLN⟩ : ∃ n, out.length = n + 1 := ⟨out.length - 1, by have := List.length_pos_iff.2 hn0; omega⟩
      obtain ⟨b3, o3, rfl, _, hcc⟩ := (Rd.of_own oOd).2 (by omega)
      obtain ⟨b5, o5, rfl, _, hc5⟩ := (Rd.of_own o5d).2 (by omega)
      have cs0 := hc5 0 _ rfl
      simp only [Nat.add_zero] at cs0
      have hlast : out.getLastD ⟨#[]⟩ = out[LN] := by rw [List.getLastD_eq_getLast?, List.getLast?_eq_getElem?, List.getElem?_eq_getElem (by omega)]; simp [hLN]
      have csL := hcc LN _ (vM out LN (by omega))
      have hlsz := HOsz.out out[LN] (List.getElem_mem _)
      have hgd : 0 < out.length := by omega
      have hgd2 : decide (0 < out.length) = true := decide_eq_true hgd
      have i7 : IntKind.i64.wrap ((out.length : Int) - 1) = (LN : Int) := by rw [IntWalk.i64_in _ (by omega)]; omega
      have i8 : (0 : Int) <= (LN : Int) := by omega
      have i9 : (LN : Int) < (out.length : Int) := by omega
      have qiG : ∀ q, _ := fun q => qix.out _ (qb (n := q) tgd) s0 hs0
      have hlk2 : ∀ q, _ := fun q => qix.out _ (qb (n := q) tgd) out[LN] hlsz
      have hlk3 := qiG 1
      have hlk4 := hlk2 1
      by_cases qil : ze s0 = true /\ ze out[LN] = true
      ·have hp : PRE = [qY] := by rw [<- qiw.out]; unfold qaw; rw [if_neg (by simp), if_neg (by rw [hKK]; exact hkb), if_pos ⟨hn0, qil.1, by rw [hlast]; exact qil.2⟩]
       have hpl : (out ++ PRE).length = out.length + 1 := by rw [hp]; simp
       have hps : sv (out ++ PRE) = sv out ++ [.string qY] := by rw [hp]; simp [sv]
       rw [qil.1] at qiG hlk3
       rw [qil.2] at hlk2 hlk4
       generalize out[LN] = LW at *
       clear qiw hkb' hkb hn0 hp qil hlast hcc hc5 qix hLN
       go_wp2
       go_quiet (fail)
       have Be := Blk.drewN Bd nq
       have oOe := qa oOd (qb (n := nq) (Below.refl _ _))
       have o5e := qa o5d (qb (n := nq) (Below.refl _ _))
       have tge := qb (n := nq) tgd
       have ze2 : w.heap.size <= (wz.drewN nq).heap.size := zd2
       generalize wz.drewN nq = wy at *
       clear d6 d7 d8 d9 d10 qiG hlk2 hlk3 hlk4
       have d7 := Be.cell 7
       have d8 := Be.frozen 7
       simp only [jd, La, Lb, Lc] at d7
       go_wp2_with ((at_builtin; go_must (refine qh rfl _ _ _ rfl qx ((g + 1)) _ rfl ((oOe.alloc _)) _ _ rfl ((qe (by rfl) rfl)) (by first | rfl | exact qN _ | exact qO _) (by omega) (by omega) (by first | (simp; done) | (simp; omega) | omega) ?_); intro A4 c4 w4 qie qia qii qik; have z4 := qia.size; (try simp only [World.size_alloc] at z4); (try simp only [Nat.zero_add, List.nil_append] at qie)); have B4 := (Blk.alloc Be (.cells #[.string qY] 9)).below qia (Nat.lt_succ_self g); have c47 := B4.cell 7; have f47 := B4.frozen 7; simp only [jd, La, Lb, Lc] at c47)
       go_meet
       exact qbO (W := s0 :: W) (q := ⟨out ++ PRE, s, bef, sil⟩) (Blk.alloc Be _) (oOe.alloc _) (o5e.alloc _) hdj (by omega) (tge.alloc (by omega) _) (by simp; omega) qie qia qii qik hpl hps rfl rfl rfl
      ·have hp : PRE = [] := by
        rw [<- qiw.out]
        have : (ze s0 && ze (out.getLastD ⟨#[]⟩)) = false := by
         rw [hlast]
         rw [Bool.eq_false_iff]; intro h; exact qil (Bool.and_eq_true_iff.1 h)
        unfold qaw
        rw [if_neg (by simp), if_neg (by rw [hKK]; exact hkb), if_neg (by rintro ⟨_, h1, h2⟩; rw [h1, h2] at this; cases this)]
       cases hns : ze s0 with
       | true =>
        have hnl : ze out[LN] = false := by cases h2 : ze out[LN] with
         | true => exact absurd ⟨hns, h2⟩ qil
         | false => rfl
        rw [hns] at qiG hlk3
        rw [hnl] at hlk2 hlk4
        generalize out[LN] = LW at *
        clear qiw hkb' hkb hn0 qil hlast hcc hc5 qix hLN hns hnl
        go_wp2
        go_quiet (fail)
        go_wp2
        go_meet
        rw [hp, List.append_nil]
        exact ⟨_, c0, Blk.drewN Bd _, qa oOd (qb (Below.refl _ _)), qb tgd, qa o5d (qb (Below.refl _ _)), hdj, zd2⟩
       | false =>
        rw [hns] at qiG hlk3
        generalize out[LN] = LW at *
        clear qiw hkb' hkb hn0 qil hlast hcc hc5 qix hLN hns hlk2 hlk4
        go_wp2
        go_quiet (fail)
        go_wp2
        go_meet
        rw [hp, List.append_nil]
        exact ⟨_, c0, Blk.drewN Bd _, qa oOd (qb (Below.refl _ _)), qb tgd, qa o5d (qb (Below.refl _ _)), hdj, zd2⟩
    ·have eK : ((K : Int) != 0) = true := bne_iff_ne.2 (by omega)
     have eb : ((bef : Int) != 0) = false := by
      have : bef = 0 := by omega
      rw [this]; rfl
     clear hK0
     go_wp2
     go_quiet (fail)
     have Bd := Blk.drewN B2 nq
     have oOd := qa qiF (qb (n := nq) (Below.refl _ _))
     have o5d := qa hown5 (qb (n := nq) (Below.refl _ _))
     have tgd := qb (n := nq) tg
     have zd2 : w.heap.size <= (w2.drewN nq).heap.size := z2
     generalize w2.drewN nq = wz at *
     have d6 := Bd.cell 6
     have d7 := Bd.cell 7
     have d8 := Bd.frozen 7
     have d9 := Bd.cell 9
     have d10 := Bd.cell 10
     simp only [jd, La, Lb, Lc] at d6 d7 d9 d10
     go_upto_region 8 with fail
     by_cases hn0 : out = []
     ·have hp : PRE = [] := by rw [<- qiw.out]; simp [qaw, hkb', hn0]
      have hgt : ¬ (0 : Int) < (out.length : Int) := by subst hn0; simp
      have hgd : decide (0 < out.length) = false := decide_eq_false (by omega)
      clear qiw hkb' hkb hn0
      go_wp2
      go_quiet (fail)
      go_wp2
      go_meet
      rw [hp, List.append_nil]
      exact ⟨A0, c0, Blk.drewN Bd _, qa oOd (qb (Below.refl _ _)), qb tgd, qa o5d (qb (Below.refl _ _)), hdj, zd2⟩
     ·obtain ⟨LN, hLN⟩ : ∃ n, out.length = n + 1 := ⟨out.length - 1, by have := List.length_pos_iff.2 hn0; omega⟩
      obtain ⟨b3, o3, rfl, _, hcc⟩ := (Rd.of_own oOd).2 (by omega)
      obtain ⟨b5, o5, rfl, _, hc5⟩ := (Rd.of_own o5d).2 (by omega)
      have cs0 := hc5 0 _ rfl
      simp only [Nat.add_zero] at cs0
      have hlast : out.getLastD ⟨#[]⟩ = out[LN] := by rw [List.getLastD_eq_getLast?, List.getLast?_eq_getElem?, List.getElem?_eq_getElem (by omega)]; simp [hLN]
      have csL := hcc LN _ (vM out LN (by omega))
      have hlsz := HOsz.out out[LN] (List.getElem_mem _)
      have hgd : 0 < out.length := by omega
      have hgd2 : decide (0 < out.length) = true := decide_eq_true hgd
      have i7 : IntKind.i64.wrap ((out.length : Int) - 1) = (LN : Int) := by rw [IntWalk.i64_in _ (by omega)]; omega
      have i8 : (0 : Int) <= (LN : Int) := by omega
      have i9 : (LN : Int) < (out.length : Int) := by omega
      have qiG : ∀ q, _ := fun q => qix.out _ (qb (n := q) tgd) s0 hs0
      have hlk2 : ∀ q, _ := fun q => qix.out _ (qb (n := q) tgd) out[LN] hlsz
      have hlk3 := qiG 1
      have hlk4 := hlk2 1
      by_cases qil : ze s0 = true /\ ze out[LN] = true
      ·have hp : PRE = [qY] := by rw [<- qiw.out]; unfold qaw; rw [if_neg (by simp), if_neg (by rw [hKK]; exact hkb), if_pos ⟨hn0, qil.1, by rw [hlast]; exact qil.2⟩]
       have hpl : (out ++ PRE).length = out.length + 1 := by rw [hp]; simp
       have hps : sv (out ++ PRE) = sv out ++ [.string qY] := by rw [hp]; simp [sv]
       rw [qil.1] at qiG hlk3
       rw [qil.2] at hlk2 hlk4
       generalize out[LN] = LW at *
       clear qiw hkb' hkb hn0 hp qil hlast hcc hc5 qix hLN
       go_wp2
       go_quiet (fail)
       have Be := Blk.drewN Bd nq
       have oOe := qa oOd (qb (n := nq) (Below.refl _ _))
       have o5e := qa o5d (qb (n := nq) (Below.refl _ _))
       have tge := qb (n := nq) tgd
       have ze2 : w.heap.size <= (wz.drewN nq).heap.size := zd2
       generalize wz.drewN nq = wy at *
       clear d6 d7 d8 d9 d10 qiG hlk2 hlk3 hlk4
       have d7 := Be.cell 7
       have d8 := Be.frozen 7
       simp only [jd, La, Lb, Lc] at d7
       go_wp2_with ((at_builtin; go_must (refine qh rfl _ _ _ rfl qx ((g + 1)) _ rfl ((oOe.alloc _)) _ _ rfl ((qe (by rfl) rfl)) (by first | rfl | exact qN _ | exact qO _) (by omega) (by omega) (by first | (simp; done) | (simp; omega) | omega) ?_); intro A4 c4 w4 qie qia qii qik; have z4 := qia.size; (try simp only [World.size_alloc] at z4); (try simp only [Nat.zero_add, List.nil_append] at qie)); have B4 := (Blk.alloc Be (.cells #[.string qY] 9)).below qia (Nat.lt_succ_self g); have c47 := B4.cell 7; have f47 := B4.frozen 7; simp only [jd, La, Lb, Lc] at c47)
       go_meet
       exact qbO (W := s0 :: W) (q := ⟨out ++ PRE, s, bef, sil⟩) (Blk.alloc Be _) (oOe.alloc _) (o5e.alloc _) hdj (by omega) (tge.alloc (by omega) _) (by simp; omega) qie qia qii qik hpl hps rfl rfl rfl
      ·have hp : PRE = [] := by
        rw [<- qiw.out]
        have : (ze s0 && ze (out.getLastD ⟨#[]⟩)) = false := by
         rw [hlast]
         rw [Bool.eq_false_iff]; intro h; exact qil (Bool.and_eq_true_iff.1 h)
        unfold qaw
        rw [if_neg (by simp), if_neg (by rw [hKK]; exact hkb), if_neg (by rintro ⟨_, h1, h2⟩; rw [h1, h2] at this; cases this)]
       cases hns : ze s0 with
       | true =>
        have hnl : ze out[LN] = false := by cases h2 : ze out[LN] with
         | true => exact absurd ⟨hns, h2⟩ qil
         | false => rfl
        rw [hns] at qiG hlk3
        rw [hnl] at hlk2 hlk4
        generalize out[LN] = LW at *
        clear qiw hkb' hkb hn0 qil hlast hcc hc5 qix hLN hns hnl
        go_wp2
        go_quiet (fail)
        go_wp2
        go_meet
        rw [hp, List.append_nil]
        exact ⟨_, c0, Blk.drewN Bd _, qa oOd (qb (Below.refl _ _)), qb tgd, qa o5d (qb (Below.refl _ _)), hdj, zd2⟩
       | false =>
        rw [hns] at qiG hlk3
        generalize out[LN] = LW at *
        clear qiw hkb' hkb hn0 qil hlast hcc hc5 qix hLN hns hlk2 hlk4
        go_wp2
        go_quiet (fail)
        go_wp2
        go_meet
        rw [hp, List.append_nil]
        exact ⟨_, c0, Blk.drewN Bd _, qa oOd (qb (Below.refl _ _)), qb tgd, qa o5d (qb (Below.refl _ _)), hdj, zd2⟩
  ·have e1 : (s != st) = true := bne_iff_ne.2 h1
   have hp : PRE = [vF s.toNat] := by rw [<- qiw.out]; exact if_pos h1
   go_wp2
   go_quiet (fail)
   go_upto_region 4 with fail
   refine qc (fun wx => Blk wx g 88 (jd r d sp p con k nb (.slice A0 out.length c0) s bef sil) /\ wx.ownsRow (g + 1) 9 1 (.slice A0 out.length c0) out.length (sv out) /\ Below g w wx /\ wx.ownsRow w1.heap.size 9 1 (.slice A5 (W.length + 1) c5) (W.length + 1) (sv (s0 :: W)) /\ w2.heap.size <= wx.heap.size) ⟨by
    have := (Blk.drewN B2 nq).set_ 8 (.int .i64 s)
    simpa [jd] using this, qs (qa qiF (qb (Below.refl _ _))) (Nat.lt_succ_self g) _, (qb tg).setCell (Nat.le_refl _) _, qs (qa hown5 (qb (Below.refl _ _))) (by show g < _; omega) _, by simp⟩ ?_
   rintro wx ⟨Bx, hox, tx, h5x, hzx⟩
   have F7x := (Bx.drew).frozen 7
   have X7 := (Bx.drew).cell 7
   have X8 := (Bx.drew).cell 8
   have X6 := (Bx.drew).cell 6
   simp only [jd, La, Lb, Lc] at X6 X7 X8
   clear S3 S6 S7 S8 S9 S10 F7 F8
   obtain ⟨sn, rfl⟩ : ∃ sn : Nat, s = (sn : Int) := ⟨s.toNat, by omega⟩
   have hst1 := (tx.drew.cell (p := ⟨0, sn, none⟩) (by show 0 < g; omega)).trans (HT.out sn (by omega))
   have hpl : (out ++ PRE).length = out.length + 1 := by rw [hp]; simp
   have hps : sv (out ++ PRE) = sv out ++ [.string (vF sn)] := by rw [hp]; simp [sv]
   replace hp := Lh hp
   have zd : wx.drew.heap.size = wx.heap.size := rfl
   have i1 : (0 : Int) <= (sn : Int) := by omega
   have i2 : (sn : Int) < 4 := by omega
   have i3 : sn < 4 := by omega
   have i4 : ¬ (sn : Int) < 0 := by omega
   clear qiw qix
   generalize vF sn = SB at *
   have BS := (Blk.alloc Bx (.cells #[.string SB] 9)).drew
   have Y7 := BS.cell 7
   simp only [jd, La, Lb, Lc] at Y7
   go_region_law (refine vS rfl _ _ _ rfl qx ((g + 1)) _ rfl ((World.ownsRow.alloc (qa hox (Below.refl wx.heap.size wx).drew) _)) _ _ rfl ((qe (by rfl) rfl)) (rfl) (by omega) (by omega) (by first | (simp; done) | (simp; omega) | omega) ?_; intro A4 c4 w4 qie qia qii qik; have z4 := qia.size; (try simp only [Nat.zero_add, List.nil_append] at qie); have B4 := (Blk.alloc (Blk.drew Bx) (.cells #[.string SB] 9)).below qia (Nat.lt_succ_self g); have c47 := B4.cell 7; have f47 := B4.frozen 7; simp only [jd, La, Lb, Lc] at c47)
   all_goals go_wp2
   all_goals go_meet
   all_goals exact qbO (W := s0 :: W) (q := ⟨out ++ PRE, sn, bef, sil⟩) BS (World.ownsRow.alloc (qa hox (Below.refl wx.heap.size wx).drew) _).drew (World.ownsRow.alloc (qa h5x (Below.refl wx.heap.size wx).drew) _).drew hdj (by omega) (tx.alloc (by omega) _).drew (by show w.heap.size <= (wx.alloc _).heap.size; simp; omega) qie qia qii qik hpl hps rfl rfl rfl
 case rest =>
  obtain ⟨A7, c7, Bw, ow, tw, o5w, djw, zw⟩ := hcut
  have hPL : PRE.length <= 1 := by
   rw [<- qiw.out]
   unfold qaw
   (repeat' split) <;> simp
  have hpl : (out ++ PRE).length <= 100000001 := by rw [List.length_append]; omega
  have d7 := Bw.cell 7
  have f7 := Bw.frozen 7
  have eN : (out ++ PRE ++ s0 :: W).length = (out ++ PRE).length + (W.length + 1) := by rw [List.length_append, List.length_cons]
  have eS : sv (out ++ PRE ++ s0 :: W) = sv (out ++ PRE) ++ sv (s0 :: W) := by simp [sv]
  clear qiw qix hbx HOsz
  replace eN := Lh eN
  replace eS := Lh eS
  simp only [] at Bw ow d7 djw
  generalize out ++ PRE ++ s0 :: W = Q at *
  generalize out ++ PRE = O at *
  simp only [jd, La, Lb, Lc] at d7
  have hWl' : W.length + 1 <= 40000 := hWl
  have o5w' : _ := Rd.of_own o5w
  go_wp2_with ((at_builtin; go_must (refine qh rfl _ _ _ rfl qx ((g + 1)) _ rfl (ow) _ _ rfl (o5w') (by first | rfl | exact qN _ | exact qO _) (by omega) (by omega) (by first | (simp; done) | (simp; omega) | omega) ?_); intro A4 c4 w4 qie qia qii qik; have z4 := qia.size; (try simp only [World.size_alloc] at z4); (try simp only [Nat.zero_add, List.nil_append] at qie)); have B4 := Bw.below qia (Nat.lt_succ_self g); have c47 := B4.cell 7; have f47 := B4.frozen 7; have c49 := B4.cell 9; have f49 := B4.frozen 9; have c40 := B4.cell 10; have f40 := B4.frozen 10; simp only [jd, La, Lb, Lc] at c47 c49 c40)
  go_end0
  refine ⟨A4, c4, rfl, ?_, ?_, ?_⟩
  ·have h3 := ((B4.set_ 7 (.slice A4 (O.length + (W.length + 1)) c4)).set_ 9 (.int .i64 K)).set_ 10 (.bool false)
   rw [eN.out]
   simpa [jd] using h3
  ·rw [eN.out, eS.out]
   exact qs (qs (qs qie (Nat.lt_succ_self g) _) (Nat.lt_succ_self g) _) (Nat.lt_succ_self g) _
  ·exact (((tw.trans (qia.mono (Nat.le_succ g))).setCell (Nat.le_refl _) _).setCell (Nat.le_refl _) _).setCell (Nat.le_refl _) _
end Go.Proofs.YtlndbiamiioakaaGreatDoor
namespace Go.Proofs.YtlndbiamiioakaaGreatDoor
open Go.Proofs.Tryz Go.RowKit
def GW (g : Gl) : Prop := GOK g /\ 0 <= g.style /\ g.style <= 3
theorem yK (s : Setts) (f : Nat) (q : Spk) (g : Gl) (t : List Gl) : zU s (f + 1) q (g :: t) =
  if yj q s (g :: t) (qt (g :: t) s.rep) = true then zU s f { q with silent := true } ((g :: t).drop (qt (g :: t) s.rep))
  else zU s f (sayL q s ((g :: t).take (qt (g :: t) s.rep))) ((g :: t).drop (qt (g :: t) s.rep)) := by
 show (if g :: t = [] then q else _) = _
 rw [if_neg (by simp)]
theorem kJ (s : Setts) : ∀ (f f' : Nat) (q : Spk) (l : List Gl), l.length <= f -> l.length <= f' -> zU s f q l = zU s f' q l
 | 0, f', q, l, h1, h2 => by
  obtain rfl : l = [] := List.length_eq_zero_iff.1 (by omega)
  cases f' with
  | zero => rfl
  | succ f' => simp [zU]
 | f + 1, 0, q, l, h1, h2 => by
  obtain rfl : l = [] := List.length_eq_zero_iff.1 (by omega)
  simp [zU]
 | f + 1, f' + 1, q, l, h1, h2 => by
  cases l with
  | nil => simp [zU]
  | cons g t =>
   have hp := jv (g := g) (t := t) s.rep
   have hd : ((g :: t).drop (qt (g :: t) s.rep)).length <= t.length := by
    rw [List.length_drop, List.length_cons]; omega
   rw [List.length_cons] at h1 h2
   rw [yK, yK]
   have e := fun q' => kJ s f f' q' ((g :: t).drop (qt (g :: t) s.rep)) (by omega) (by omega)
   rw [e, e]
theorem kO (s : Setts) (q : Spk) (g : Gl) (t : List Gl) : zU s (g :: t).length q (g :: t) =
  if yj q s (g :: t) (qt (g :: t) s.rep) = true then zU s ((g :: t).drop (qt (g :: t) s.rep)).length { q with silent := true } ((g :: t).drop (qt (g :: t) s.rep))
  else zU s ((g :: t).drop (qt (g :: t) s.rep)).length (sayL q s ((g :: t).take (qt (g :: t) s.rep))) ((g :: t).drop (qt (g :: t) s.rep)) := by
 have hp := jv (g := g) (t := t) s.rep
 have hd : ((g :: t).drop (qt (g :: t) s.rep)).length <= t.length := by
  rw [List.length_drop, List.length_cons]; omega
 rw [List.length_cons, yK]
 have e := fun q' => kJ s t.length _ q' ((g :: t).drop (qt (g :: t) s.rep)) hd (Nat.le_refl _)
 rw [e, e]
def WoI (S : Setts) (R : List ByteArray) (q : Spk) (rest : List Gl) : Prop :=
 R = (zU S rest.length q rest).out /\ (∀ x ∈ rest, GW x) /\ q.out.length + 50000 * rest.length <= 50000000 /\ (∀ s ∈ q.out, s.size <= maxLen)
theorem preL_len (p : Spk) (g : Gl) (w0 : ByteArray) : (qaw p g w0).length <= 1 := by
 unfold qaw
 (repeat' split) <;> simp
theorem qg3 (i : Nat) : (vF i).size <= maxLen := by
 unfold vF maxLen
 split <;> decide
theorem qft (p : Spk) (g : Gl) (w0 : ByteArray) : ∀ s ∈ qaw p g w0, s.size <= maxLen := by
 intro s hs
 unfold qaw at hs
 (repeat' split at hs) <;> first
  | (cases hs; done)
  | (rw [List.mem_singleton] at hs; subst hs; first | exact qg3 _ | (unfold maxLen; decide))
theorem WoI.len {S : Setts} {R : List ByteArray} {q : Spk} {l : List Gl} (h : WoI S R q l) : l.length <= 1000 := by
 have := h.2.2.1
 omega
theorem WoI.skip {S : Setts} {R : List ByteArray} {q : Spk} {g : Gl} {t : List Gl} (h : WoI S R q (g :: t)) (hb : yj q S (g :: t) (qt (g :: t) S.rep) = true) :
  WoI S R { q with silent := true } ((g :: t).drop (qt (g :: t) S.rep)) := by
 obtain ⟨h1, h2, h3, h4⟩ := h
 rw [kO, if_pos hb] at h1
 refine ⟨h1, fun x hx => h2 x (List.mem_of_mem_drop hx), ?_, h4⟩
 show q.out.length + 50000 * ((g :: t).drop _).length <= _
 rw [List.length_drop]
 omega
theorem WoI.say {S : Setts} {R : List ByteArray} {q : Spk} {g : Gl} {t : List Gl} (h : WoI S R q (g :: t)) (hb : yj q S (g :: t) (qt (g :: t) S.rep) = false) :
  WoI S R (sayL q S ((g :: t).take (qt (g :: t) S.rep))) ((g :: t).drop (qt (g :: t) S.rep)) := by
 have hl := h.len
 obtain ⟨h1, h2, h3, h4⟩ := h
 have hp := jv (g := g) (t := t) S.rep
 have hP := qca (l := g :: t) rfl hl (fun x hx => (h2 x hx).1) S.rep
 obtain ⟨m, hm⟩ : ∃ m, qt (g :: t) S.rep = m + 1 := ⟨qt (g :: t) S.rep - 1, by omega⟩
 have htk : (g :: t).take (qt (g :: t) S.rep) = g :: t.take m := by rw [hm, List.take_succ_cons]
 rw [kO, hb, if_neg (by simp)] at h1
 refine ⟨h1, fun x hx => h2 x (List.mem_of_mem_drop hx), ?_, ?_⟩
 ·rw [qdG htk]
  have e1 := preL_len q g ((qJ ((g :: t).take (qt (g :: t) S.rep)) S.spell S.digits).headD ⟨#[]⟩)
  have e2 := qcw htk hP S.spell S.digits
  simp only [List.length_append, List.length_drop]
  rw [List.length_cons] at h3 ⊢
  omega
 ·rw [qdG htk]
  intro s hs
  simp only [List.mem_append] at hs
  rcases hs with (hs | hs) | hs
  ·exact h4 s hs
  ·exact qft _ _ _ s hs
  ·exact kt htk hP _ _ s hs
theorem WoI.start (S : Setts) (l : List Gl) (hl : l.length <= 1000) (h : ∀ x ∈ l, GW x) : WoI S (vq l S) ⟨[], 0, 0, false⟩ l := by
 refine ⟨rfl, h, ?_, by simp⟩
 simp
 omega
theorem WoI.stop {S : Setts} {R : List ByteArray} {q : Spk} (h : WoI S R q []) : R = q.out := by
 have := h.1
 simpa [zU] using this
theorem ju {S : Setts} {R : List ByteArray} : ∀ (n : Nat) {q : Spk} {l : List Gl}, l.length <= n -> WoI S R q l -> R.length <= 50000000 /\ ∀ s ∈ R, s.size <= maxLen
 | n, q, [], _, h => by rw [h.stop]; exact ⟨by have := h.2.2.1; omega, h.2.2.2⟩
 | 0, q, g :: t, hn, h => by simp at hn
 | n + 1, q, g :: t, hn, h => by
  have hp := jv (g := g) (t := t) S.rep
  have hd : ((g :: t).drop (qt (g :: t) S.rep)).length <= n := by
   rw [List.length_drop]
   rw [List.length_cons] at hn ⊢
   omega
  cases hb : yj q S (g :: t) (qt (g :: t) S.rep) with
  | true => exact ju n hd (h.skip hb)
  | false => exact ju n hd (h.say hb)
end Go.Proofs.YtlndbiamiioakaaGreatDoor
