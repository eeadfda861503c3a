/- Joined: Wo1, SpC, UtP, UtP2, Ur1. -/
import Derived.Test.YtlndbiamiioakaaGreatDoorVAS
import Derived.Test.YtlndbiamiioakaaGreatDoorVAU
set_option linter.unusedVariables false
set_option linter.unusedSimpArgs false
set_option linter.unnecessarySimpa false
set_option maxHeartbeats 8000000
namespace Go.Proofs.YtlndbiamiioakaaGreatDoor
open Go.Proofs.Tryz Go.RowKit
set_option maxRecDepth 20000
def WoB (w : World) (r : Int) (d sp : Bool) (p : Int) (con : Bool) (k : Int) (v : Value) (wx : World) : Prop :=
 ∃ g nb, v = .pointer (some ⟨g, 0, none⟩) /\ nb < g /\ w.heap.size + 1 <= nb /\ Blk wx g 88 (jd r d sp p con k nb (.slice none 0 0) 0 (0 : Nat) false) /\ SetM wx nb 32 ze /\ Below w.heap.size w wx /\ StBox wx r d sp p con k w.heap.size /\ wx.heap.size = g + 1
theorem words_ (l : List Gl) (A : Option Addr) (n c B : Nat) (r : Int) (d sp : Bool) (p : Int) (con : Bool) (k : Int) (w : World) (hs : Sp w) (hu : U8 w) (hty : Sty w) (hn : l.length <= 1000) (hnc : n <= c) (hcx : c <= maxLen) (hok : ∀ x ∈ l, GW x)
  (rd : Rd w B 3 A n (qn l)) (hB : B <= w.heap.size) :
  Calls prog 38 #[.slice A n c, stV r d sp p con k] w (ql 9 1 id w (vq l ⟨d, sp, p⟩).length (sv (vq l ⟨d, sp, p⟩))) := by
 have hln := yl rd
 have HI0 := Lh (WoI.start ⟨d, sp, p⟩ l hn hok)
 generalize vq l ⟨d, sp, p⟩ = R at *
 have HOK := Lh hok
 have HCk : Hid (∀ g ∈ l, ∀ w', Below w.heap.size w w' -> Calls prog 43 #[.string g.text] w' (qg (.int .i64 0) w')) := Lh fun g hg w' hw => by
  have h := hok g hg
  have := qcv g.text (by have := h.1.2; omega) w' (hu.below hw)
  rwa [h.1.1] at this
 have HVo := Lh qbv
 have HU := Lh (And.intro hs hty)
 clear hs hu hty hok
 have hx63 : c <= 9223372036854775807 := by unfold maxLen at hcx; omega
 go_enter func38, ntmps38
 go_upto_region 1 with fail
 refine qc (fun wx => StBox wx r d sp p con k w.heap.size /\ Below w.heap.size w wx /\ wx.heap.size = w.heap.size + 1) ⟨StBox.new w r d sp p con k _, (Below.refl _ _).alloc (Nat.le_refl _) _, by simp⟩ ?_
 rintro wb ⟨hst, hb0, hz0⟩
 go_wp2
 go_loopw [11] (fun x wr => ∃ j : Nat, j <= n /\ x = .int .i64 j /\ Below (w.heap.size + 1) wb wr) (fun x _ => n - (intOf x).toNat)
 case atStart => exact ⟨0, Nat.zero_le _, rfl, Below.refl _ _⟩
 case round =>
  obtain ⟨j, hj, rfl, hbel⟩ := hrel
  have hb1 : Below w.heap.size w wr := hb0.trans (hbel.mono (by omega))
  have zr := hbel.size
  by_cases hlt : j < n
  ·have hjl : j < l.length := by omega
   obtain ⟨b, o, rfl, hbB, a0, a1, a2⟩ := jJ (rd.keep (w' := wr) fun p hp => hb1.cell (by omega)) hjl hln
   have HC := Lh (HCk.out l[j] (List.getElem_mem hjl))
   have hsty := (HOK.out l[j] (List.getElem_mem hjl)).2
   generalize l[j] = g at *
   obtain ⟨t, wd, s⟩ := g
   dsimp only at *
   have i1 : ¬ s < 0 := by omega
   have i2 : decide (s < 0) = false := decide_eq_false i1
   have i3 : ¬ 3 < s := by omega
   have i4 : decide (3 < s) = false := decide_eq_false i3
   go_upto_region 4 with fail
   refine qc (GlBox wr t wd s) (GlBox.new wr t wd s _) ?_
   rintro wc ⟨d0, d1, d2, hbc, hzc⟩
   have hb2 : Below w.heap.size w wc := hb1.trans (hbc.mono (by omega))
   go_wp2_with (go_at_call 43; refine (HC.out _ hb2).mono ?_; rintro e w1 ⟨rfl, qh7⟩)
   exact ⟨⟨j + 1, by omega, by go_num, (hbel.trans (hbc.mono (by omega))).trans (qh7.mono (by omega))⟩, by simp [intOf]; omega⟩
  ·obtain rfl : j = n := by omega
   have hst2 := hst.below hbel (Nat.lt_succ_self _)
   clear HCk HOK
   go_wp2
   have hst3 : StBox wr.drew r d sp p con k w.heap.size := hst2
   have hb1d := hb1.drew
   go_cut [7] (fun v wx => WoB w r d sp p con k v wx)
   case first =>
    have hst4 := hst3
    obtain ⟨s0, s1, s2, s3, s4, s5⟩ := hst3
    have HVd := HVo.out wr.drew
    go_region_law (go_simp; go_at_call 50; refine HVd.mono ?_; rintro e w2 ⟨nb, rfl, hset, hnb, qh8⟩; have B1 : Below (w.heap.size + 1) wr.drew w2 := qh8.mono (by show _ <= wr.heap.size; omega); have B2 := hst4.below B1 (Nat.lt_succ_self _); have B3 := B2; obtain ⟨e0, e1, e2, e3, e4, e5⟩ := B2)
    all_goals go_wp2
    all_goals go_meet
    all_goals (
     have hb54 : Below w.heap.size w w2 := hb1d.trans (B1.mono (by omega))
     refine ⟨w2.heap.size, nb, rfl, hset.lt, by show w.heap.size + 1 <= nb; have hh : wr.heap.size <= nb := hnb; omega, Blk.new w2 _ _, hset.below ((Below.refl _ _).alloc (Nat.le_refl _) _), hb54.alloc hb54.size _, B3.below ((Below.refl _ _).alloc (Nat.le_refl _) _) (Nat.lt_of_lt_of_le (Nat.lt_of_lt_of_le (Nat.lt_succ_self _) (show w.heap.size + 1 <= wr.heap.size by omega)) B1.size), by simp⟩)
   case rest =>
    obtain ⟨g, nb, rfl, hng, hzn, hblk, hset, hbg, hstw, hzw⟩ := hcut
    go_wp2
    go_loopw [0] (fun v wr => ∃ A' m' c' q rest A2 c2, v = .slice A' m' c' /\ m' <= c' /\ c' <= maxLen /\ Rd wr w.heap.size 3 A' m' (qn rest) /\ Hid (WoI ⟨d, sp, p⟩ R q rest) /\ Blk wr g 88 (jd r d sp p con k nb (.slice A2 q.out.length c2) q.style q.before q.silent) /\ wr.ownsRow (g + 1) 9 1 (.slice A2 q.out.length c2) q.out.length (sv q.out) /\ SetM wr nb 32 ze /\ StBox wr r d sp p con k w.heap.size /\ Below w.heap.size w wr /\ g < wr.heap.size) (fun v _ => lenV v)
    case atStart => exact ⟨A, _, c, ⟨[], 0, 0, false⟩, l, none, 0, rfl, hnc, hcx, (rd.more hB).below hbg, HI0, hblk, zh _ _ _ _, hset, hstw, hbg, by omega⟩
    case round =>
     clear hset hstw hbg hblk
     obtain ⟨A', m', c', q, rest, A2, c2, rfl, hmc, hcm, rdR, HI, hbk, how, hse, hsb, hbl, hgl⟩ := hrel
     have hml := yl rdR
     obtain ⟨s0, s1, s2, s3, s4, s5⟩ := id hsb
     have hgw : w.heap.size + 2 <= g := by omega
     cases rest with
     | nil =>
      obtain rfl : m' = 0 := by simpa using hml.symm
      have C7 := hbk.cell 7
      simp only [jd, La, Lb, Lc] at C7
      go_wp2
      go_ret
      rw [HI.out.stop]
      exact ⟨A2, c2, rfl, qq how (by show w.heap.size <= g + 1; omega), hbl⟩
     | cons a t =>
      have HIo := HI.out
      have hn10 := HIo.len
      have hGW := HIo.2.1
      have hql := HIo.2.2.1
      have hqs := HIo.2.2.2
      rw [hml] at hn10
      have HPi := Lh (piece_ a t p A' m' c' w.heap.size wr (by omega) hmc hcm (fun x hx => Nat.le_trans (hGW x hx).1.2 (by decide)) (hGW a (by simp)).1.valid rdR hbl.size)
      have hP := jv (g := a) (t := t) p
      have hP2 : qt (a :: t) p <= m' := by rw [List.length_cons] at hml; omega
      have HSk : Hid (∀ w', Below wr.heap.size wr w' -> Calls prog 52 #[.pointer (some ⟨g, 0, none⟩), .slice A' m' c', .int .i64 (qt (a :: t) p : Nat)] w' (qg (.bool (yj q ⟨d, sp, p⟩ (a :: t) (qt (a :: t) p))) w')) := Lh fun w' hw =>
       skips_ a t _ A' m' c' g w.heap.size r d sp p con k nb _ q.out q.style q.before q.silent w' (HU.out.1.below (hbl.trans (hw.mono hbl.size)) (Nat.le_refl _)) (hse.below hw) hn10 hmc hcm (fun x hx => (hGW x hx).1) (rdR.below (hw.mono hbl.size)) (Nat.le_trans hbl.size hw.size) (hbk.below hw hgl)
      have HSay : Hid (yj q ⟨d, sp, p⟩ (a :: t) (qt (a :: t) p) = false -> ∀ w', Below wr.heap.size wr w' -> Calls prog 53 #[.pointer (some ⟨g, 0, none⟩), .slice A' (qt (a :: t) p) c'] w' (SayP g r d sp p con k nb (sayL q ⟨d, sp, p⟩ ((a :: t).take (qt (a :: t) p))) w')) := Lh fun _ w' hw => by
       obtain ⟨pm, hpm⟩ : ∃ pm, qt (a :: t) p = pm + 1 := ⟨qt (a :: t) p - 1, by omega⟩
       have htk : (a :: t).take (qt (a :: t) p) = a :: t.take pm := by rw [hpm, List.take_succ_cons]
       exact say_ _ a _ htk A' _ c' g w.heap.size r d sp p con k nb A2 c2 q.out q.style q.before q.silent w' (HU.out.1.below (hbl.trans (hw.mono hbl.size)) (Nat.le_refl _)) (HU.out.2.below (hbl.trans (hw.mono hbl.size)) (Nat.le_refl _)) (hse.below hw) (qca rfl (by omega) (fun x hx => (hGW x hx).1) p) (hGW a (by simp)).1 (hGW a (by simp)).2 (by omega) hqs
        (by have := (rdR.take hP2).below (hw.mono hbl.size); rwa [<- qb6] at this) (by omega) hng (hbk.below hw hgl) (qa how hw)
      have HTl : Hid (∀ w', Below w.heap.size wr w' -> Rd w' w.heap.size 3 (if c' = qt (a :: t) p then A' else A'.map (·.add (qt (a :: t) p * 3))) (m' - qt (a :: t) p) (qn ((a :: t).drop (qt (a :: t) p)))) := Lh fun w' hw => by
       have := (rdR.cut hP2 hmc).below hw
       rwa [<- qck] at this
      have HN1 := Lh (fun h => HIo.skip h)
      have HN2 := Lh (fun h => HIo.say h)
      clear HIo hGW hql hqs HI
      simp only at HN1 HN2
      generalize hPe : qt (a :: t) p = P at *
      clear hPe
      have hm0 : 0 < m' := by omega
      cases hsk : yj q ⟨d, sp, p⟩ (a :: t) P with
      | true =>
       rw [hsk] at HSk
       have HI2 := Lh (HN1.out hsk)
       clear HN1 HN2 HSay hsk
       go_wp2_with (first
        | (go_at_call 51; refine HPi.out.mono ?_; rintro e w1 ⟨rfl, qh7⟩; have z1 := qh7.size)
        | (go_at_call 52; refine (HSk.out w1 qh7).mono ?_; rintro e w2 ⟨rfl, qh8⟩; have B4 := (hbk.below qh7 hgl).below qh8 (by omega); have c40 := B4.cell 10; have f40 := B4.frozen 10; simp only [jd, La, Lb, Lc] at c40))
       have t2 := qh7.trans (qh8.mono z1)
       have tg : Below g wr (w2.setCell ⟨g, 10, none⟩ (.bool true)) := (t2.mono (Nat.le_of_lt hgl)).setCell (Nat.le_refl g) _
       have bw : Below w.heap.size wr (w2.setCell ⟨g, 10, none⟩ (.bool true)) := tg.mono (by omega)
       have hgz : g < (w2.setCell ⟨g, 10, none⟩ (.bool true)).heap.size := Nat.lt_of_lt_of_le hgl tg.size
       exact ⟨⟨_, _, _, ⟨q.out, q.style, q.before, true⟩, _, A2, c2, rfl, by omega, by omega, HTl.out _ bw, HI2, by have := B4.set_ 10 (.bool true); simpa [jd] using this, qs (qa how t2) (Nat.lt_succ_self g) _, hse.up tg hng, hsb.below tg (by omega), hbl.trans bw, hgz⟩, by simp only [lenV]; omega⟩
      | false =>
       rw [hsk] at HSk
       have HI2 := Lh (HN2.out hsk)
       have HSy := Lh (HSay.out hsk)
       clear HN1 HN2 HSay hsk
       go_wp2_with (first
        | (go_at_call 51; refine HPi.out.mono ?_; rintro e w1 ⟨rfl, qh7⟩; have z1 := qh7.size)
        | (go_at_call 52; refine (HSk.out w1 qh7).mono ?_; rintro e w2 ⟨rfl, qh8⟩; have t2 := qh7.trans (qh8.mono z1))
        | (go_at_call 53; refine (HSy.out w2 t2).mono ?_; rintro e w3 ⟨A3, c3, rfl, hbk3, hown3, qh9⟩))
       have tg : Below g wr w3 := (t2.mono (Nat.le_of_lt hgl)).trans qh9
       have bw : Below w.heap.size wr w3 := tg.mono (by omega)
       exact ⟨⟨_, _, _, sayL q ⟨d, sp, p⟩ ((a :: t).take P), _, A3, c3, rfl, by omega, by omega, HTl.out _ bw, HI2, hbk3, hown3, hse.up tg hng, hsb.below tg (by omega), hbl.trans bw, Nat.lt_of_lt_of_le hgl tg.size⟩, by simp only [lenV]; omega⟩
def BadS (r q k : Int) : Prop := (r < 25 ∨ 400 < r) ∨ (q ≠ 0 /\ (q < 2 ∨ 132 < q)) ∨ (k < 1 ∨ 80 < k)
instance (r q k : Int) : Decidable (BadS r q k) := by unfold BadS; infer_instance
def setE (r q k : Int) : Int := if BadS r q k then 2 else 0
theorem setE_bad {r q k : Int} (h : BadS r q k) : setE r q k = 2 := if_pos h
theorem setE_ok {r q k : Int} (h : ¬ BadS r q k) : setE r q k = 0 := if_neg h
theorem check_s (r : Int) (d sp : Bool) (q : Int) (con : Bool) (k : Int) (w : World) : Calls prog 22 #[stV r d sp q con k] w (qg (.int .i64 (setE r q k)) w) := by
 obtain ⟨X, hX⟩ : ∃ X, X = setE r q k := ⟨_, rfl⟩
 rw [<- hX]
 have HB : Hid (BadS r q k -> X = 2) := Lh fun h => by rw [hX, setE_bad h]
 have HO : Hid (¬ BadS r q k -> X = 0) := Lh fun h => by rw [hX, setE_ok h]
 obtain ⟨C0, C1, C2, C3, C4, C5⟩ := StBox.new w r d sp q con k 38
 clear hX
 go_enter func22, ntmps22
 go_wp2
 all_goals go_ret
 all_goals first
  | exact ⟨by rw [HO.out (by unfold BadS; simp at *; omega)]; rfl, (Below.refl _ _).alloc (Nat.le_refl _) _⟩
  | exact ⟨by rw [HB.out (by unfold BadS; simp at *; omega)]; rfl, (Below.refl _ _).alloc (Nat.le_refl _) _⟩
def vc : ByteArray := ⟨#[115, 105, 122, 101]⟩
def jk : ByteArray := ⟨#[114, 111, 119, 115]⟩
def vn : ByteArray := ⟨#[99, 111, 108, 117, 109, 110, 115]⟩
def qE : ByteArray := ⟨#[115, 99, 114, 111, 108, 108]⟩
def qu : ByteArray := ⟨#[108, 105, 110, 101]⟩
def bTo : ByteArray := ⟨#[116, 111]⟩
def bUp : ByteArray := ⟨#[117, 112]⟩
def zT : ByteArray := ⟨#[100, 111, 119, 110]⟩
def qB : ByteArray := ⟨#[99, 111, 108, 117, 109, 110]⟩
def qK : ByteArray := ⟨#[105, 110, 115, 101, 114, 116]⟩
def qW : ByteArray := ⟨#[100, 101, 108, 101, 116, 101]⟩
def qD : ByteArray := ⟨#[99, 117, 114, 115, 111, 114]⟩
def qH : ByteArray := ⟨#[118, 105, 115, 105, 98, 108, 101]⟩
def zo : ByteArray := ⟨#[105, 110, 118, 105, 115, 105, 98, 108, 101]⟩
def vh : ByteArray := ⟨#[109, 111, 114, 101]⟩
def q8 : ByteArray := ⟨#[100, 111, 110, 101]⟩
def zy : ByteArray := ⟨#[117, 112, 100, 97, 116, 101, 115]⟩
structure Chg where
 kind : Int
 row : Int
 col : Int
 count : Int
 til : Int
 glyphs : List Gl
def zI (n : Int) : List ByteArray := (qG n).map wb
def jg (c : Chg) : Bool :=
 if c.kind = 1 then decide (1 <= c.row /\ c.row <= 60 /\ 1 <= c.col /\ c.col <= 132)
 else if c.kind = 2 then decide (0 <= c.row /\ c.row <= 59 /\ c.row + 1 <= c.til /\ c.til <= 60 /\ -60 <= c.count /\ c.count <= 60 /\ c.count ≠ 0)
 else if c.kind = 3 then decide (0 <= c.row /\ c.row <= 59 /\ 0 <= c.col /\ c.col <= 132 /\ 0 <= c.count /\ c.count <= 132)
 else decide (0 <= c.row /\ c.row <= 59 /\ 0 <= c.col /\ c.col <= 131 /\ 0 <= c.count /\ c.count <= 1)
def jh (c : Chg) : Bool :=
 if c.kind = 1 then decide (c.count = 0 /\ c.til = 0 /\ c.glyphs = [])
 else if c.kind = 2 then decide (c.col = 0 /\ c.glyphs = [])
 else if c.kind = 3 then decide (c.til = 0) && c.glyphs.all fun g => decide (jV g = 0)
 else decide (c.til = 0 /\ c.glyphs = [])
def vb (c : Chg) : Int :=
 if c.kind < 1 ∨ 4 < c.kind then 9
 else if jg c = false then 2
 else if c.kind = 3 /\ 132 < c.glyphs.length then 5
 else if jh c = false then 1
 else 0
def zk (c : Chg) (S : Setts) : List ByteArray :=
 if c.kind = 1 then vc :: (zI c.row ++ jk :: (zI c.col ++ [vn]))
 else if c.kind = 2 then qE :: qu :: (zI (c.row + 1) ++ bTo :: (zI c.til ++ (if 0 < c.count then bUp :: zI c.count else zT :: zI (-c.count))))
 else if c.kind = 3 then qu :: (zI (c.row + 1) ++ qB :: (zI (c.col + 1) ++ ((if 0 < c.count then qW :: zI c.count else []) ++ (if c.glyphs = [] then [] else qK :: (vq c.glyphs S ++ [jb])))))
 else if c.kind = 4 then qD :: qu :: (zI (c.row + 1) ++ qB :: (zI (c.col + 1) ++ [if c.count = 1 then qH else zo]))
 else []
def endW (n : Int) : List ByteArray := if n = 0 then [vh] else if n = 1 then [q8] else q8 :: (zI n ++ [zy])
def km (l : List Chg) (n : Int) (S : Setts) : List ByteArray := (l.flatMap fun c => zk c S) ++ endW n
def zj (s : ByteArray) : List ByteArray -> Bool
 | a :: _ => decide (a = s)
 | [] => false
def skO (s : ByteArray) : List ByteArray -> Option (List ByteArray)
 | a :: t => if a = s then some t else none
 | [] => none
def jH (l : List ByteArray) : Option (Int × List ByteArray) := (prefixL l).map fun x => (x.1, l.drop x.2)
def afO (s : ByteArray) (l : List ByteArray) : Option (Int × List ByteArray) := (skO s l).bind jH
def zK : Bool -> List ByteArray -> Option Nat
 | _, [] => none
 | true, _ :: t => (zK false t).map (· + 1)
 | false, a :: t => if a = vw then (zK true t).map (· + 1) else if a = jb then some 0 else (zK false t).map (· + 1)
def vX (l : List ByteArray) : Option (List Gl × List ByteArray) := (zK false l).bind fun i => match jr (l.take i) with
 | some (g :: gs) => some (g :: gs, l.drop (i + 1))
 | _ => none
def delL (l : List ByteArray) : Option (Int × List ByteArray) := if zj qW l = true then (afO qW l).bind fun x => if x.1 < 1 then none else some x else some (0, l)
def insL (l : List ByteArray) : Option (List Gl × List ByteArray) := if zj qK l = true then (skO qK l).bind vX else some ([], l)
def kv (l : List ByteArray) : Option (Chg × List ByteArray) :=
 (afO qu l).bind fun x => (afO qB x.2).bind fun y => (delL y.2).bind fun z => (insL z.2).map fun g => (⟨3, x.1 - 1, y.1 - 1, z.1, 0, g.1⟩, g.2)
def qan (l : List ByteArray) : Option (Chg × List ByteArray) :=
 if zj vc l = true then (afO vc l).bind fun x => (afO jk x.2).bind fun y => (skO vn y.2).map fun t => (⟨1, x.1, y.1, 0, 0, []⟩, t)
 else if zj qE l = true then ((skO qE l).bind (afO qu)).bind fun x => (afO bTo x.2).bind fun y =>
  if zj zT y.2 = true then (afO zT y.2).bind fun z => if z.1 < 0 then none else some (⟨2, x.1 - 1, 0, -z.1, y.1, []⟩, z.2)
  else (afO bUp y.2).bind fun z => if z.1 < 0 then none else some (⟨2, x.1 - 1, 0, z.1, y.1, []⟩, z.2)
 else if zj qu l = true then kv l
 else if zj qD l = true then ((skO qD l).bind (afO qu)).bind fun x => (afO qB x.2).bind fun y =>
  if zj qH y.2 = true then (skO qH y.2).map fun t => (⟨4, x.1 - 1, y.1 - 1, 1, 0, []⟩, t)
  else (skO zo y.2).map fun t => (⟨4, x.1 - 1, y.1 - 1, 0, 0, []⟩, t)
 else none
def yp (l : List ByteArray) : Option Int :=
 if zj vh l = true then (if l.length = 1 then some 0 else none)
 else (skO q8 l).bind fun t => if t = [] then some 1 else (jH t).bind fun x => (skO zy x.2).bind fun u => if u = [] /\ 1 < x.1 then some x.1 else none
def jj : Nat -> List ByteArray -> List Chg -> Option (List Chg × Int)
 | 0, _, _ => none
 | f + 1, l, acc => if zj vh l = true ∨ zj q8 l = true then (yp l).map fun n => (acc, n) else (qan l).bind fun x => if vb x.1 = 0 then jj f x.2 (acc ++ [x.1]) else none
def jn (l : List ByteArray) : Option (List Chg × Int) := jj (l.length + 1) l []
theorem qdC (s : ByteArray) (t : List ByteArray) : skO s (s :: t) = some t := by simp [skO]
def NoW (a : ByteArray) : Prop := ∀ j, j < 32 -> wb j ≠ a
theorem NoW.num {a : ByteArray} (h : NoW a) (t : List ByteArray) : NoNum (a :: t) := fun x t' e j hj => by
 injection e with e1 _
 subst e1
 exact h j hj
def nxtB : List ByteArray := [vc, qE, qu, qD, vh, q8]
theorem noW_nxt : ∀ a ∈ nxtB, NoW a := by unfold NoW nxtB; decide +kernel
def Nxt (t : List ByteArray) : Prop := ∃ a u, t = a :: u /\ a ∈ nxtB
theorem Nxt.num {t : List ByteArray} (h : Nxt t) : NoNum t := by
 obtain ⟨a, u, rfl, ha⟩ := h
 exact (noW_nxt a ha).num u
theorem qhj {g : Gl} (h : jV g = 0) : GF g /\ 0 <= g.style /\ g.style <= 3 := by
 unfold jV at h
 split at h
 ·cases h
 ·rename_i h3
  split at h
  ·cases h
  ·rename_i h4
   refine ⟨⟨Decidable.not_not.1 h3, Decidable.not_not.1 fun e => h4 (.inl e)⟩, ?_, ?_⟩
   ·rcases Int.lt_or_le g.style 0 with h | h
    ·exact absurd (.inr (.inl h)) h4
    ·exact h
   ·rcases Int.lt_or_le 3 g.style with h | h
    ·exact absurd (.inr (.inr (.inl h))) h4
    ·exact h
theorem qev {c : Chg} (h : vb c = 0) : (1 <= c.kind /\ c.kind <= 4) /\ jg c = true /\ ¬ (c.kind = 3 /\ 132 < c.glyphs.length) /\ jh c = true := by
 unfold vb at h
 split at h
 ·cases h
 ·rename_i h1
  split at h
  ·cases h
  ·rename_i h2
   split at h
   ·cases h
   ·rename_i h3
    split at h
    ·cases h
    ·rename_i h4
     exact ⟨by omega, by simpa using h2, h3, by simpa using h4⟩
structure WdR (w : World) (B : Nat) (l : List ByteArray) (A : Option Addr) (n c : Nat) : Prop where
 len : l.length = n
 cap : n <= c
 max : c <= maxLen
 rd : Rd w B 1 A n (sv l)
 sz : ∀ s ∈ l, s.size <= 1000
theorem WdR.below {w w' : World} {B : Nat} {l : List ByteArray} {A : Option Addr} {n c : Nat} (h : WdR w B l A n c) (hb : Below B w w') : WdR w' B l A n c := ⟨h.len, h.cap, h.max, h.rd.below hb, h.sz⟩
theorem WdR.nil (w : World) (B : Nat) : WdR w B [] none 0 0 := ⟨rfl, Nat.le_refl _, Nat.zero_le _, Rd.none_, fun s hs => by cases hs⟩
theorem WdR.cut {w : World} {B : Nat} {l : List ByteArray} {A : Option Addr} {n c k : Nat} (h : WdR w B l A n c) (hk : k <= n) : WdR w B (l.drop k) (if c = k then A else A.map (·.add (k * 1))) (n - k) (c - k) := by
 have hr := h.rd.cut (k := k) hk h.cap
 rw [show (sv l).drop (k * 1) = sv (l.drop k) by simp [sv]] at hr
 have := h.len
 have := h.cap
 have := h.max
 exact ⟨by rw [List.length_drop]; omega, by omega, by omega, hr, fun s hs => h.sz s (List.mem_of_mem_drop hs)⟩
def zY (bad : Bool) (l : List ByteArray) : Option (List ByteArray) := if bad = true then none else some l
def RV (w : World) (B : Nat) (r : Option (List ByteArray)) (v : Value) : Prop := ∃ A n c l bad, v = .agg #[.slice A n c, .bool bad] /\ WdR w B l A n c /\ r = zY bad l
theorem RV.below {w w' : World} {B : Nat} {r : Option (List ByteArray)} {v : Value} (h : RV w B r v) (hb : Below B w w') : RV w' B r v := by
 obtain ⟨A, n, c, l, bad, h1, h2, h3⟩ := h
 exact ⟨A, n, c, l, bad, h1, h2.below hb, h3⟩
theorem RV.bad (w : World) (B : Nat) : RV w B none (.agg #[.slice none 0 0, .bool true]) := ⟨none, 0, 0, [], true, rfl, WdR.nil w B, rfl⟩
def qo (r : Option (List ByteArray)) (s : ByteArray) : Bool := match r with
 | some l => zj s l
 | none => false
theorem yk (r : Option (List ByteArray)) (v : Value) (s : ByteArray) (B : Nat) (w : World) (h : RV w B r v) (hB : B <= w.heap.size) : Calls prog 11 #[v, .string s] w (qg (.bool (qo r s)) w) := by
 obtain ⟨A, n, c, l, bad, rfl, hW, rfl⟩ := h
 cases bad with
 | true =>
  clear hW
  show Calls _ _ _ _ (qg (.bool false) w)
  go_enter func11, ntmps11
  go_wp2
  go_ret
  exact ⟨rfl, (Below.refl _ _).alloc (Nat.le_refl _) _⟩
 | false =>
  show Calls _ _ _ _ (qg (.bool (zj s l)) w)
  cases l with
  | nil =>
   obtain rfl : n = 0 := hW.len.symm
   clear hW
   show Calls _ _ _ _ (qg (.bool false) w)
   go_enter func11, ntmps11
   go_wp2
   go_ret
   exact ⟨rfl, (Below.refl _ _).alloc (Nat.le_refl _) _⟩
  | cons a t =>
   have hn : 0 < n := by have := hW.len; simp at this; omega
   have hi : (0 : Int) < n := by omega
   obtain ⟨b, o, rfl, hb, hca⟩ := hW.rd.at_ hn
   have ha : w.cell? ⟨b, o, none⟩ = some (.string a) := hca
   have hbl : b < w.heap.size := by omega
   have q : (a.toList == s.toList) = zj s (a :: t) := ve a s
   generalize zj s (a :: t) = R at *
   clear hW hca
   go_enter func11, ntmps11
   go_wp2
   go_ret
   exact ⟨rfl, (Below.refl _ _).alloc (Nat.le_refl _) _⟩
def jK : Option (List ByteArray) -> List ByteArray -> Option (List ByteArray)
 | r, [] => r
 | r, s :: t => jK (r.bind (skO s)) t
theorem qbk : ∀ ws : List ByteArray, jK none ws = none
 | [] => rfl
 | _ :: t => qbk t
theorem qb4 {r : Option (List ByteArray)} {s : ByteArray} (h : qo r s = false) : r.bind (skO s) = none := by
 cases r with
 | none => rfl
 | some l =>
  cases l with
  | nil => rfl
  | cons a t =>
   have : a ≠ s := fun e => by rw [e] at h; simp [qo, zj] at h
   show (if a = s then some t else none) = none
   rw [if_neg this]
theorem qbf {bad : Bool} {l : List ByteArray} {s : ByteArray} (h : qo (zY bad l) s = true) : bad = false /\ ∃ t, l = s :: t /\ (zY bad l).bind (skO s) = some t := by
 cases bad with
 | true => cases h
 | false =>
  cases l with
  | nil => cases h
  | cons a t =>
   have e : a = s := by simpa [qo, zY, zj] using h
   subst e
   exact ⟨rfl, t, rfl, qdC _ _⟩
theorem zM : (prog.info? 41).map (fun x => x.size) = some 2 := by kernel_rfl
theorem qA {w : World} {g : Nat} {t : TypeId} {a b a' b' : Value} (h : Blk w g t #[a, b]) : Blk ((w.setCell ⟨g, 0, none⟩ a').setCell ⟨g, 1, none⟩ b') g t #[a', b'] := by
 have := (h.set_ 0 a').set_ 1 b'
 simpa using this
def RX (w : World) (B : Nat) (bad : Bool) (l : List ByteArray) (wx : World) : Prop :=
 ∃ A n c, WdR w B l A n c /\ Blk wx w.heap.size 41 #[.slice A n c, .bool bad] /\ Blk wx (w.heap.size + 1) 41 #[.slice none 0 0, .bool false] /\ Below w.heap.size w wx
theorem RX.below {w wx wy : World} {B : Nat} {bad : Bool} {l : List ByteArray} (h : RX w B bad l wx) (hb : Below wx.heap.size wx wy) : RX w B bad l wy := by
 obtain ⟨A, n, c, h1, h2, h3, h4⟩ := h
 have := h2.lt
 exact ⟨A, n, c, h1, h2.below hb h2.lt, h3.below hb h3.lt, h4.trans (hb.mono (by omega))⟩
theorem RX.turn {w w1 : World} {B : Nat} {bad : Bool} {l : List ByteArray} {A0 A : Option Addr} {n0 c0 n c : Nat} (C1 : Blk w1 w.heap.size 41 #[.slice A0 n0 c0, .bool bad]) (C2 : Blk w1 (w.heap.size + 1) 41 #[.slice none 0 0, .bool false]) (tx : Below w.heap.size w w1) (h : WdR w B l A n c) :
  RX w B bad l (w1.setCell ⟨w.heap.size, 0, none⟩ (.slice A n c)) := by
 refine ⟨A, n, c, h, ?_, C2.far (p := ⟨w.heap.size, 0, none⟩) (by show w.heap.size + 1 ≠ w.heap.size; omega) _, tx.setCell (Nat.le_refl _) _⟩
 have := C1.set_ 0 (.slice A n c)
 simpa using this
def RRet (w : World) (B : Nat) (r : Option (List ByteArray)) (F : Value -> Value) (e : Ending) (w' : World) : Prop := ∃ v, e = .returned (F v) /\ RV w B r v /\ Below w.heap.size w w'
theorem uskip_ (r : Option (List ByteArray)) (v : Value) (ws : List ByteArray) (Aw : Option Addr) (nw cw : Nat) (B : Nat) (w : World) (h : RV w B r v) (hB : B <= w.heap.size) (hw : ws.length = nw) (hws : nw <= 1000) (rdw : Rd w w.heap.size 1 Aw nw (sv ws)) :
  Calls prog 26 #[v, .slice Aw nw cw] w (RRet w B (jK r ws) id) := by
 obtain ⟨A, n, c, l, bad, rfl, hW, rfl⟩ := h
 obtain ⟨R, hR⟩ : ∃ x, x = jK (zY bad l) ws := ⟨_, rfl⟩
 rw [<- hR]
 have hX : RX w B bad l ((w.alloc (.cells #[.slice A n c, .bool bad] 41)).alloc (.cells #[.slice none 0 0, .bool false] 41)) :=
  ⟨A, n, c, hW, Blk.alloc (Blk.new w _ _) _, Blk.new_ (by simp), ((Below.refl _ _).alloc (Nat.le_refl _) _).alloc (by simp) _⟩
 have H0 : Hid (R = jK (zY bad l) (ws.drop 0)) := Lh hR
 have HRw := Lh rdw
 have HNw := Lh hw
 clear hR hW rdw hw
 go_enter func26, ntmps26
 go_upto_region 1 with fail
 refine qc (RX w B bad l) hX ?_
 clear hX
 intro X hX
 go_wp2
 go_loopw [9] (fun x wr => ∃ (k : Nat) (l' : List ByteArray), k <= nw /\ x = .int .i64 k /\ RX w B bad l' wr /\ Hid (R = jK (zY bad l') (ws.drop k))) (fun x _ => nw - (intOf x).toNat)
 case atStart => exact ⟨0, l, Nat.zero_le _, rfl, hX, H0⟩
 case round =>
  clear hX H0
  obtain ⟨k, l', hk, rfl, hX, HK⟩ := hrel
  obtain ⟨A', n', c', hW, B1, B2, tx⟩ := id hX
  have z1 := B2.lt
  have z0 := B1.lt
  have c0 := B1.cell 0
  have c1 := B1.cell 1
  have d0 := B2.cell 0
  have d1 := B2.cell 1
  have f0 := B1.frozen 0
  have f1 := B1.frozen 1
  have g0 := B2.frozen 0
  have g1 := B2.frozen 1
  simp only [La, Lb, Lc] at c0 c1 d0 d1
  by_cases hlt : k < nw
  ·have hkl : k < ws.length := by have := HNw.out; omega
   obtain ⟨bw, ow, rfl, hbw, hcw⟩ := HRw.out.at_ hlt
   rw [vM _ _ hkl] at hcw
   replace hcw := (tx.cell (p := ⟨bw, ow + k, none⟩) hbw).trans hcw
   have HD : Hid (jK (zY bad l') (ws.drop k) = jK ((zY bad l').bind (skO ws[k])) (ws.drop (k + 1))) := Lh (by rw [List.drop_eq_getElem_cons hkl]; rfl)
   have HNx := Lh (yk (zY bad l') (.agg #[.slice A' n' c', .bool bad]) ws[k] B wr ⟨A', n', c', l', bad, rfl, hW.below (tx.mono hB), rfl⟩ (Nat.le_trans hB tx.size))
   generalize ws[k] = s at *
   cases hnx : qo (zY bad l') s with
   | false =>
    have HR2 : Hid (R = none) := Lh (by rw [HK.out, HD.out, qb4 hnx, qbk])
    rw [hnx] at HNx
    clear HK HD hnx hW
    go_wp2_with (go_at_call 11; refine HNx.out.mono ?_; rintro e w1 ⟨rfl, hb1⟩; clear c0 c1 d0 d1 f0 f1 g0 g1; have C2 := B2.below hb1 B2.lt; have d0 := C2.cell 0; have d1 := C2.cell 1; have g0 := C2.frozen 0; have g1 := C2.frozen 1; simp only [La, Lb, Lc] at d0 d1)
    have Rr := qA (a' := .slice none 0 0) (b' := .bool true) C2
    exact bodyPost_ret (results_cell_row rfl _ _ (w.heap.size + 1) 41 _ (0, 0) _ rfl Rr underlying41 rfl zM) rfl ⟨_, rfl, by rw [HR2.out]; exact RV.bad w B, ((tx.trans (hb1.mono (by omega))).setCell (by show w.heap.size <= w.heap.size + 1; omega) _).setCell (by show w.heap.size <= w.heap.size + 1; omega) _⟩
   | true =>
    obtain ⟨rfl, t, rfl, ht⟩ := qbf hnx
    have HR2 : Hid (R = jK (zY false t) (ws.drop (k + 1))) := Lh (by rw [HK.out, HD.out, ht]; rfl)
    rw [hnx] at HNx
    have hn1 : 1 <= n' := by have := hW.len; simp at this; omega
    have hcut := hW.cut hn1
    have hcap := hW.cap
    have hmax := hW.max
    have i1 : (1 : Int) <= n' := by omega
    have i2 : (1 : Int) <= c' := by omega
    have i3 : c' <= 9223372036854775807 := by unfold maxLen at hmax; omega
    clear HK HD hnx hW ht
    by_cases hc1 : c' = 1
    ·rw [if_pos hc1] at hcut
     subst hc1
     go_wp2_with (go_at_call 11; refine HNx.out.mono ?_; rintro e w1 ⟨rfl, hb1⟩; clear c0 c1 d0 d1 f0 f1 g0 g1; have C1 := B1.below hb1 B1.lt; have C2 := B2.below hb1 B2.lt; have c0 := C1.cell 0; have f0 := C1.frozen 0; simp only [La, Lb, Lc] at c0)
     have hz : n' - 1 = 0 := by omega
     rw [hz] at hcut
     exact ⟨⟨k + 1, t, by omega, by go_num, RX.turn C1 C2 (tx.trans (hb1.mono (by omega))) hcut, HR2⟩, by simp [intOf]; omega⟩
    ·rw [if_neg hc1] at hcut
     go_wp2_with (go_at_call 11; refine HNx.out.mono ?_; rintro e w1 ⟨rfl, hb1⟩; clear c0 c1 d0 d1 f0 f1 g0 g1; have C1 := B1.below hb1 B1.lt; have C2 := B2.below hb1 B2.lt; have c0 := C1.cell 0; have f0 := C1.frozen 0; simp only [La, Lb, Lc] at c0)
     exact ⟨⟨k + 1, t, by omega, by go_num, RX.turn C1 C2 (tx.trans (hb1.mono (by omega))) hcut, HR2⟩, by simp [intOf]; omega⟩
  ·have HR2 : Hid (R = zY bad l') := Lh (by rw [HK.out, List.drop_of_length_le (by have := HNw.out; omega)]; rfl)
   clear HK HRw
   go_wp2
   have Rr := qA (a' := .slice A' n' c') (b' := .bool bad) B2
   exact bodyPost_ret (results_cell_row rfl _ _ (w.heap.size + 1) 41 _ (0, 0) _ rfl Rr underlying41 rfl zM) rfl ⟨_, rfl, ⟨A', n', c', l', bad, rfl, hW, HR2.out⟩, (tx.setCell (by show w.heap.size <= w.heap.size + 1; omega) _).setCell (by show w.heap.size <= w.heap.size + 1; omega) _⟩
end Go.Proofs.YtlndbiamiioakaaGreatDoor
