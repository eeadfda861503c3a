/- Joined: Vd1, Vd2, Vd3. -/
import Derived.BigRegion
import Derived.Test.YtlndbiamiioakaaGreatDoorVBW
set_option linter.unusedVariables false
set_option linter.unusedSimpArgs false
set_option linter.unnecessarySimpa false
set_option maxHeartbeats 4000000
namespace Go.Proofs.YtlndbiamiioakaaGreatDoor
open Go.Proofs.Tryz Go.RowKit
set_option maxRecDepth 20000
def TV (w : World) (B : Nat) (r : Option (List ByteArray)) (v : Value) : Prop := ∃ A n c l bad, v = .agg #[.slice A n c, .bool (!bad)] /\ WdR w B l A n c /\ r = zY bad l
theorem TV.below {w w' : World} {B : Nat} {r : Option (List ByteArray)} {v : Value} (h : TV w B r v) (hb : Below B w w') : TV w' B r v := by
 obtain ⟨A, n, c, l, bad, h1, h2, h3⟩ := h
 exact ⟨A, n, c, l, bad, h1, h2.below hb, h3⟩
theorem tis_ (r : Option (List ByteArray)) (v : Value) (s : ByteArray) (B : Nat) (w : World) (h : TV w B r v) (hB : B <= w.heap.size) : Calls prog 15 #[v, .string s] w (qg (.bool (qo r s)) w) := by
 obtain ⟨A, n, c, l, bad, rfl, hW, rfl⟩ := h
 cases bad with
 | true =>
  clear hW
  show Calls _ _ #[.agg #[.slice A n c, .bool false], .string s] _ (qg (.bool false) w)
  go_enter func15, ntmps15
  go_wp2
  go_ret
  exact ⟨rfl, (Below.refl _ _).alloc (Nat.le_refl _) _⟩
 | false =>
  show Calls _ _ #[.agg #[.slice A n c, .bool true], .string s] _ (qg (.bool (zj s l)) w)
  cases l with
  | nil =>
   obtain rfl : n = 0 := hW.len.symm
   clear hW
   show Calls _ _ _ _ (qg (.bool false) w)
   go_enter func15, ntmps15
   go_wp2
   go_ret
   exact ⟨rfl, (Below.refl _ _).alloc (Nat.le_refl _) _⟩
  | cons a t =>
   have hn : 0 < n := by have := hW.len; simp at this; omega
   have hi : (0 : Int) < n := by omega
   obtain ⟨b, o, rfl, hb, hca⟩ := hW.rd.at_ hn
   have ha : w.cell? ⟨b, o, none⟩ = some (.string a) := hca
   have hbl : b < w.heap.size := by omega
   have q : (a.toList == s.toList) = zj s (a :: t) := ve a s
   generalize zj s (a :: t) = R at *
   clear hW hca
   go_enter func15, ntmps15
   go_wp2
   go_ret
   exact ⟨rfl, (Below.refl _ _).alloc (Nat.le_refl _) _⟩
def TVX (w : World) (bad : Bool) (A : Option Addr) (n c : Nat) (X : World) : Prop := Blk X w.heap.size 49 #[.slice A n c, .bool (!bad)] /\ Blk X (w.heap.size + 1) 49 #[.slice none 0 0, .bool false] /\ Below w.heap.size w X
theorem TVX.new (w : World) (bad : Bool) (A : Option Addr) (n c : Nat) : TVX w bad A n c ((w.alloc (.cells #[.slice A n c, .bool (!bad)] 49)).alloc (.cells #[.slice none 0 0, .bool false] 49)) :=
 ⟨Blk.alloc (Blk.new w _ _) _, Blk.new_ (by simp), ((Below.refl _ _).alloc (Nat.le_refl _) _).alloc (by simp) _⟩
theorem TVX.turn {w X : World} {bad0 bad : Bool} {A0 A : Option Addr} {n0 c0 n c : Nat} (B1 : Blk X w.heap.size 49 #[.slice A0 n0 c0, .bool (!bad0)]) (B2 : Blk X (w.heap.size + 1) 49 #[.slice none 0 0, .bool false]) (tx : Below w.heap.size w X) :
  TVX w bad A n c ((X.setCell ⟨w.heap.size, 0, none⟩ (.slice A n c)).setCell ⟨w.heap.size, 1, none⟩ (.bool (!bad))) :=
 ⟨qA B1, (B2.far (p := ⟨w.heap.size, 0, none⟩) (by show w.heap.size + 1 ≠ w.heap.size; omega) _).far (p := ⟨w.heap.size, 1, none⟩) (by show w.heap.size + 1 ≠ w.heap.size; omega) _, (tx.setCell (p := ⟨w.heap.size, 0, none⟩) (Nat.le_refl _) _).setCell (p := ⟨w.heap.size, 1, none⟩) (Nat.le_refl _) _⟩
theorem q7 : (prog.info? 49).map (fun x => x.size) = some 2 := by kernel_rfl
def TEnd (w : World) (B : Nat) (r : Option (List ByteArray)) (e : Ending) (w' : World) : Prop := ∃ A n c l bad, e = .returned (.agg #[.slice A n c, .bool (!bad)]) /\ WdR w' B l A n c /\ r = zY bad l /\ Below w.heap.size w w'
theorem WdR.cut1 {w : World} {B : Nat} {l : List ByteArray} {A : Option Addr} {n c k : Nat} (h : WdR w B l A n c) (hk : k <= n) (hc : c = k) : WdR w B (l.drop k) A 0 0 := by
 have := h.cut hk
 have hcap := h.cap
 subst hc
 rw [if_pos rfl, Nat.sub_self, show n - c = 0 by omega] at this
 exact this
theorem WdR.cut2 {w : World} {B : Nat} {l : List ByteArray} {A : Option Addr} {n c k : Nat} (h : WdR w B l A n c) (hk : k <= n) (hc : ¬ c = k) : WdR w B (l.drop k) (A.map (·.add k)) (n - k) (c - k) := by
 have := h.cut hk
 rw [if_neg hc, Nat.mul_one] at this
 exact this
theorem kU (r : Option (List ByteArray)) (v : Value) (s : ByteArray) (B : Nat) (w : World) (h : TV w B r v) (hB : B <= w.heap.size) : Calls prog 18 #[v, .string s] w (TEnd w B (r.bind (skO s))) := by
 have HN : Hid (∀ X, Below w.heap.size w X -> Calls prog 15 #[v, .string s] X (qg (.bool (qo r s)) X)) := Lh fun X hb => tis_ r v s B X (h.below (hb.mono hB)) (Nat.le_trans hB hb.size)
 obtain ⟨A, n, c, l, bad, rfl, hW, rfl⟩ := h
 cases hb : qo (zY bad l) s with
 | false =>
  rw [hb] at HN
  have HE : Hid ((zY bad l).bind (skO s) = none) := Lh (qb4 hb)
  clear hb hW
  go_enter func18, ntmps18
  go_upto_region 1 with fail
  refine qc (TVX w bad A n c) (TVX.new w bad A n c) ?_
  rintro X ⟨B1, B2, tx⟩
  obtain ⟨c0, c1, f0, f1⟩ := qm B1
  obtain ⟨d0, d1, g0, g1⟩ := qm B2
  have z1 := B2.lt
  go_wp2_with (go_at_call 15; refine (HN.out _ tx).mono ?_; rintro e w1 ⟨rfl, hb1⟩; (clear c0 c1 d0 d1 f0 f1 g0 g1; have C1 := B1.below hb1 B1.lt; have C2 := B2.below hb1 B2.lt; obtain ⟨c0, c1, f0, f1⟩ := qm C1; obtain ⟨d0, d1, g0, g1⟩ := qm C2))
  have Rr := qA (a' := .slice none 0 0) (b' := .bool false) C2
  have tz := ((tx.trans (hb1.mono (by omega))).setCell (p := ⟨w.heap.size + 1, 0, none⟩) (by show w.heap.size <= w.heap.size + 1; omega) (.slice none 0 0)).setCell (p := ⟨w.heap.size + 1, 1, none⟩) (by show w.heap.size <= w.heap.size + 1; omega) (.bool false)
  exact bodyPost_ret (results_cell_row rfl _ _ (w.heap.size + 1) 49 _ (0, 0) _ rfl Rr underlying49 rfl q7) rfl ⟨none, 0, 0, [], true, rfl, WdR.nil _ B, by rw [HE.out]; rfl, tz⟩
 | true =>
  rw [hb] at HN
  obtain ⟨rfl, t, rfl, ht⟩ := qbf hb
  have HE : Hid ((zY false (s :: t)).bind (skO s) = some t) := Lh ht
  have hn1 : 1 <= n := by have := hW.len; simp at this; omega
  have hcap := hW.cap
  have hmax := hW.max
  have i1 : (1 : Int) <= n := by omega
  have i2 : (1 : Int) <= c := by omega
  have i3 : c <= 9223372036854775807 := by unfold maxLen at hmax; omega
  clear hb ht
  by_cases hc1 : c = 1
  ·have hcut := hW.cut1 hn1 hc1
   obtain rfl : n = 1 := by omega
   subst hc1
   clear hW
   go_enter func18, ntmps18
   go_upto_region 1 with fail
   refine qc (TVX w false A 1 1) (TVX.new w false A 1 1) ?_
   rintro X ⟨B1, B2, tx⟩
   obtain ⟨c0, c1, f0, f1⟩ := qm B1
   obtain ⟨d0, d1, g0, g1⟩ := qm B2
   have z1 := B2.lt
   go_wp2_with (go_at_call 15; refine (HN.out _ tx).mono ?_; rintro e w1 ⟨rfl, hb1⟩; (clear c0 c1 d0 d1 f0 f1 g0 g1; have C1 := B1.below hb1 B1.lt; have C2 := B2.below hb1 B2.lt; obtain ⟨c0, c1, f0, f1⟩ := qm C1; obtain ⟨d0, d1, g0, g1⟩ := qm C2))
   have Rr := qA (a' := .slice A 0 0) (b' := .bool true) C2
   have tz := ((tx.trans (hb1.mono (by omega))).setCell (p := ⟨w.heap.size + 1, 0, none⟩) (by show w.heap.size <= w.heap.size + 1; omega) (.slice A 0 0)).setCell (p := ⟨w.heap.size + 1, 1, none⟩) (by show w.heap.size <= w.heap.size + 1; omega) (.bool true)
   exact bodyPost_ret (results_cell_row rfl _ _ (w.heap.size + 1) 49 _ (0, 0) _ rfl Rr underlying49 rfl q7) rfl ⟨A, 0, 0, t, false, rfl, hcut.below (tz.mono hB), by rw [HE.out]; rfl, tz⟩
  ·have hcut := hW.cut2 hn1 hc1
   clear hW
   go_enter func18, ntmps18
   go_upto_region 1 with fail
   refine qc (TVX w false A n c) (TVX.new w false A n c) ?_
   rintro X ⟨B1, B2, tx⟩
   obtain ⟨c0, c1, f0, f1⟩ := qm B1
   obtain ⟨d0, d1, g0, g1⟩ := qm B2
   have z1 := B2.lt
   go_wp2_with (go_at_call 15; refine (HN.out _ tx).mono ?_; rintro e w1 ⟨rfl, hb1⟩; (clear c0 c1 d0 d1 f0 f1 g0 g1; have C1 := B1.below hb1 B1.lt; have C2 := B2.below hb1 B2.lt; obtain ⟨c0, c1, f0, f1⟩ := qm C1; obtain ⟨d0, d1, g0, g1⟩ := qm C2))
   have Rr := qA (a' := .slice (A.map (·.add 1)) (n - 1) (c - 1)) (b' := .bool true) C2
   have tz := ((tx.trans (hb1.mono (by omega))).setCell (p := ⟨w.heap.size + 1, 0, none⟩) (by show w.heap.size <= w.heap.size + 1; omega) (.slice (A.map (·.add 1)) (n - 1) (c - 1))).setCell (p := ⟨w.heap.size + 1, 1, none⟩) (by show w.heap.size <= w.heap.size + 1; omega) (.bool true)
   exact bodyPost_ret (results_cell_row rfl _ _ (w.heap.size + 1) 49 _ (0, 0) _ rfl Rr underlying49 rfl q7) rfl ⟨_, _, _, t, false, rfl, hcut.below (tz.mono hB), by rw [HE.out]; rfl, tz⟩
def zc (q : Option (List ByteArray)) : Int × Option (List ByteArray) := match q.bind jH with
 | some (n, t) => if n < 0 then (0, none) else (n, some t)
 | none => (0, none)
def NEnd (w : World) (B : Nat) (x : Int × Option (List ByteArray)) (e : Ending) (w' : World) : Prop := ∃ A n c l bad, e = .returned (.tuple #[.int .i64 x.1, .agg #[.slice A n c, .bool (!bad)]]) /\ WdR w' B l A n c /\ x.2 = zY bad l /\ Below w.heap.size w w'
theorem qbW (r : Option (List ByteArray)) (v : Value) (s : ByteArray) (B : Nat) (w : World) (h : TV w B r v) (hB : B <= w.heap.size) (ht : Tb w) : Calls prog 19 #[v, .string s] w (NEnd w B (zc (r.bind (skO s)))) := by
 have HS : Hid (∀ X, Below w.heap.size w X -> Calls prog 18 #[v, .string s] X (TEnd X B (r.bind (skO s)))) := Lh fun X hb => kU r v s B X (h.below (hb.mono hB)) (Nat.le_trans hB hb.size)
 obtain ⟨A, n, c, l, bad, rfl, hW, rfl⟩ := h
 obtain ⟨q, hq⟩ : ∃ q, q = (zY bad l).bind (skO s) := ⟨_, rfl⟩
 rw [<- hq] at HS ⊢
 have HT := Lh ht
 clear hW hq ht
 go_enter func19, ntmps19
 go_upto_region 1 with fail
 refine qc (TVX w bad A n c) (TVX.new w bad A n c) ?_
 rintro X ⟨B1, B2, tx⟩
 obtain ⟨c0, c1, f0, f1⟩ := qm B1
 obtain ⟨d0, d1, g0, g1⟩ := qm B2
 have z1 := B2.lt
 go_upto_region 2 with (go_at_call 18; refine (HS.out _ tx).mono ?_; rintro e w1 ⟨A1, n1, k1, l1, qim, rfl, hW1, hr1, hb1⟩; (clear c0 c1 d0 d1 f0 f1 g0 g1; have C1 := B1.below hb1 B1.lt; have C2 := B2.below hb1 B2.lt; obtain ⟨c0, c1, f0, f1⟩ := qm C1; obtain ⟨d0, d1, g0, g1⟩ := qm C2))
 refine qc (fun X => TVX w qim A1 n1 k1 X /\ WdR X B l1 A1 n1 k1) ⟨TVX.turn C1 C2 (tx.trans (hb1.mono (by omega))), hW1.below (((Below.refl B w1).setCell (p := ⟨w.heap.size, 0, none⟩) hB _).setCell (p := ⟨w.heap.size, 1, none⟩) hB _)⟩ ?_
 clear B1 B2 tx c0 c1 d0 d1 f0 f1 g0 g1 C1 C2 z1 hW1 hb1 HS
 rintro X ⟨⟨B1, B2, tx⟩, hW1⟩
 obtain ⟨c0, c1, f0, f1⟩ := qm B1
 obtain ⟨d0, d1, g0, g1⟩ := qm B2
 have z1 := B2.lt
 cases qim with
 | true =>
  as_aux_lemma =>
  have HE : Hid (zc q = (0, none)) := Lh (by rw [hr1]; rfl)
  clear hr1
  have Rr := (qA (a' := .slice A1 n1 k1) (b' := .bool false) B2).drew
  have tz := (((tx.setCell (p := ⟨w.heap.size + 1, 0, none⟩) (by show w.heap.size <= w.heap.size + 1; omega) (.slice A1 n1 k1)).setCell (p := ⟨w.heap.size + 1, 1, none⟩) (by show w.heap.size <= w.heap.size + 1; omega) (.bool false))).drew
  go_upto_region 3 with fail
  go_region_law (fail)
  all_goals go_wp2
  all_goals exact bodyPost_ret (qy rfl _ _ (w.heap.size + 1) 49 _ (0, 0) _ rfl Rr underlying49 rfl q7) rfl ⟨A1, n1, k1, l1, true, by rw [HE.out]; rfl, hW1.below (((Below.refl B X).setCell (p := ⟨w.heap.size + 1, 0, none⟩) (by show B <= w.heap.size + 1; omega) _).setCell (p := ⟨w.heap.size + 1, 1, none⟩) (by show B <= w.heap.size + 1; omega) _).drew, by rw [HE.out]; rfl, tz⟩
 | false =>
  have hln := hW1.len
  have hcap := hW1.cap
  have hmax := hW1.max
  have zq := Lh (qae l1 A1 n1 k1 X hW1.len hW1.cap hW1.max (hW1.rd.more (Nat.le_trans hB tx.size)) (HT.out.below tx))
  have hq1 : q = some l1 := hr1
  clear hr1 HT
  subst hq1
  cases hp : prefixL l1 with
  | none =>
   as_aux_lemma =>
   rw [hp] at zq
   simp only [qC] at zq
   have HE : Hid (zc (some l1) = (0, none)) := Lh (by simp [zc, jH, hp])
   clear hp hW1
   go_wp2_with (go_at_call 36; refine zq.out.mono ?_; rintro e w1 ⟨rfl, hb1⟩; (clear c0 c1 d0 d1 f0 f1 g0 g1; have C1 := B1.below hb1 B1.lt; have C2 := B2.below hb1 B2.lt; obtain ⟨c0, c1, f0, f1⟩ := qm C1; obtain ⟨d0, d1, g0, g1⟩ := qm C2))
   have Rr := qA (a' := .slice none 0 0) (b' := .bool false) C2
   have tz := ((tx.trans (hb1.mono (by omega))).setCell (p := ⟨w.heap.size + 1, 0, none⟩) (by show w.heap.size <= w.heap.size + 1; omega) (.slice none 0 0)).setCell (p := ⟨w.heap.size + 1, 1, none⟩) (by show w.heap.size <= w.heap.size + 1; omega) (.bool false)
   exact bodyPost_ret (qy rfl _ _ (w.heap.size + 1) 49 _ (0, 0) _ rfl Rr underlying49 rfl q7) rfl ⟨none, 0, 0, [], true, by rw [HE.out]; rfl, WdR.nil _ B, by rw [HE.out]; rfl, tz⟩
  | some x =>
   obtain ⟨nn, k⟩ := x
   rw [hp] at zq
   simp only [qC] at zq
   obtain ⟨hk0, hkl, qiD, _⟩ := qT hp
   by_cases hneg : nn < 0
   ·as_aux_lemma =>
    have HE : Hid (zc (some l1) = (0, none)) := Lh (by simp [zc, jH, hp, hneg])
    clear hp hW1
    go_wp2_with (go_at_call 36; refine zq.out.mono ?_; rintro e w1 ⟨rfl, hb1⟩; (clear c0 c1 d0 d1 f0 f1 g0 g1; have C1 := B1.below hb1 B1.lt; have C2 := B2.below hb1 B2.lt; obtain ⟨c0, c1, f0, f1⟩ := qm C1; obtain ⟨d0, d1, g0, g1⟩ := qm C2))
    have Rr := qA (a' := .slice none 0 0) (b' := .bool false) C2
    have tz := ((tx.trans (hb1.mono (by omega))).setCell (p := ⟨w.heap.size + 1, 0, none⟩) (by show w.heap.size <= w.heap.size + 1; omega) (.slice none 0 0)).setCell (p := ⟨w.heap.size + 1, 1, none⟩) (by show w.heap.size <= w.heap.size + 1; omega) (.bool false)
    exact bodyPost_ret (qy rfl _ _ (w.heap.size + 1) 49 _ (0, 0) _ rfl Rr underlying49 rfl q7) rfl ⟨none, 0, 0, [], true, by rw [HE.out]; rfl, WdR.nil _ B, by rw [HE.out]; rfl, tz⟩
   ·have HE : Hid (zc (some l1) = (nn, some (l1.drop k))) := Lh (by simp [zc, jH, hp, hneg])
    have i1 : (k : Int) <= n1 := by omega
    have i2 : (k : Int) <= k1 := by omega
    have i3 : k1 <= 9223372036854775807 := by unfold maxLen at hmax; omega
    have i0 : (0 : Int) <= k := by omega
    clear hp
    by_cases hck : k1 = k
    ·as_aux_lemma =>
     have hcut := hW1.cut1 (k := k) (by omega) hck
     obtain rfl : n1 = k := by omega
     subst hck
     clear hW1 hmax
     go_upto_region 7 with (go_at_call 36; refine zq.out.mono ?_; rintro e w1 ⟨rfl, hb1⟩; (clear c0 c1 d0 d1 f0 f1 g0 g1; have C1 := B1.below hb1 B1.lt; have C2 := B2.below hb1 B2.lt; obtain ⟨c0, c1, f0, f1⟩ := qm C1; obtain ⟨d0, d1, g0, g1⟩ := qm C2))
     have Rr := qA (a' := .slice A1 0 0) (b' := .bool true) C2
     have tz := ((tx.trans (hb1.mono (by omega))).setCell (p := ⟨w.heap.size + 1, 0, none⟩) (by show w.heap.size <= w.heap.size + 1; omega) (.slice A1 0 0)).setCell (p := ⟨w.heap.size + 1, 1, none⟩) (by show w.heap.size <= w.heap.size + 1; omega) (.bool true)
     have Rd := Rr.drew
     have td := tz.drew
     go_region_law (fail)
     all_goals go_wp2
     all_goals exact bodyPost_ret (qy rfl _ _ (w.heap.size + 1) 49 _ (0, 0) _ rfl Rd underlying49 rfl q7) rfl ⟨A1, 0, 0, _, false, by rw [HE.out]; rfl, hcut.below ((hb1.mono (Nat.le_trans hB tx.size)).trans (((Below.refl B w1).setCell (p := ⟨w.heap.size + 1, 0, none⟩) (by show B <= w.heap.size + 1; omega) _).setCell (p := ⟨w.heap.size + 1, 1, none⟩) (by show B <= w.heap.size + 1; omega) _).drew), by rw [HE.out]; rfl, td⟩
    ·as_aux_lemma =>
     have hcut := hW1.cut2 (k := k) (by omega) hck
     clear hW1 hmax
     go_upto_region 7 with (go_at_call 36; refine zq.out.mono ?_; rintro e w1 ⟨rfl, hb1⟩; (clear c0 c1 d0 d1 f0 f1 g0 g1; have C1 := B1.below hb1 B1.lt; have C2 := B2.below hb1 B2.lt; obtain ⟨c0, c1, f0, f1⟩ := qm C1; obtain ⟨d0, d1, g0, g1⟩ := qm C2))
     have Rr := qA (a' := .slice (A1.map (·.add k)) (n1 - k) (k1 - k)) (b' := .bool true) C2
     have tz := ((tx.trans (hb1.mono (by omega))).setCell (p := ⟨w.heap.size + 1, 0, none⟩) (by show w.heap.size <= w.heap.size + 1; omega) (.slice (A1.map (·.add k)) (n1 - k) (k1 - k))).setCell (p := ⟨w.heap.size + 1, 1, none⟩) (by show w.heap.size <= w.heap.size + 1; omega) (.bool true)
     have Rd := Rr.drew
     have td := tz.drew
     go_region_law (fail)
     all_goals go_wp2
     all_goals exact bodyPost_ret (qy rfl _ _ (w.heap.size + 1) 49 _ (0, 0) _ rfl Rd underlying49 rfl q7) rfl ⟨_, _, _, _, false, by rw [HE.out]; rfl, hcut.below ((hb1.mono (Nat.le_trans hB tx.size)).trans (((Below.refl B w1).setCell (p := ⟨w.heap.size + 1, 0, none⟩) (by show B <= w.heap.size + 1; omega) _).setCell (p := ⟨w.heap.size + 1, 1, none⟩) (by show B <= w.heap.size + 1; omega) _).drew), by rw [HE.out]; rfl, td⟩
def TxEnd (w : World) (B : Nat) (r : Option (List Gl × List ByteArray)) (e : Ending) (w' : World) : Prop := ∃ Ag G cap A n c l bad, e = .returned (.tuple #[.slice Ag (List.length G) cap, .agg #[.slice A n c, .bool (!bad)]]) /\ w'.ownsRow w.heap.size 31 3 (.slice Ag G.length cap) G.length (qn G) /\ WdR w' B l A n c /\ r.map (·.2) = zY bad l /\ Below w.heap.size w w' /\ (r.map (·.1)).getD [] = G
theorem ttext_ (r : Option (List ByteArray)) (v : Value) (B : Nat) (w : World) (h : TV w B r v) (hB : B <= w.heap.size) (hl : ∀ l, r = some l -> l.length <= 1000) (hr : r ≠ none) (ht : Tb w) :
  Calls prog 33 #[v] w (TxEnd w B (r.bind vX)) := by
 obtain ⟨A, n, c, l, bad, rfl, hW, rfl⟩ := h
 cases bad with
 | true => exact absurd rfl hr
 | false =>
  have hl' := hl l rfl
  obtain ⟨R, hR⟩ : ∃ x, x = (zY false l).bind vX := ⟨_, rfl⟩
  rw [<- hR]
  have HT := Lh ht
  have H0 : Hid (R = jB l ((zK false (l.drop 0)).map (· + 0))) := Lh (by rw [hR]; show vX l = _; rw [qda]; simp)
  clear hR hl hr ht
  go_enter func33, ntmps33
  go_upto_region 1 with fail
  refine qc (TVX w false A n c) (TVX.new w false A n c) ?_
  intro X hX
  go_wp2
  go_loopw [4] (fun x wr => ∃ (k : Nat), k <= l.length + 1 /\ x = .int .i64 k /\ TVX w false A n c wr /\ Hid (R = jB l ((zK false (l.drop k)).map (· + k)))) (fun x _ => l.length + 1 - (intOf x).toNat)
  case atStart => exact ⟨0, by omega, rfl, hX, H0⟩
  case round =>
   clear hX H0
   obtain ⟨k, hk, rfl, hX, HK⟩ := hrel
   obtain ⟨B1, B2, tx⟩ := id hX
   obtain ⟨c0, c1, f0, f1⟩ := qm B1
   obtain ⟨d0, d1, g0, g1⟩ := qm B2
   have z1 := B2.lt
   have z0 := B1.lt
   have hln := hW.len
   by_cases hlt : k < n
   ·have hkl : k < l.length := by omega
    have hki : (k : Int) < n := by omega
    obtain ⟨bw, ow, rfl, hbw, hcw⟩ := hW.rd.at_ hlt
    rw [vM _ _ hkl] at hcw
    replace hcw := (tx.cell (p := ⟨bw, ow + k, none⟩) (by show bw < w.heap.size; omega)).trans hcw
    by_cases hwd : l[k] = vw
    ·as_aux_lemma =>
     have HK2 : Hid (R = jB l ((zK false (l.drop (k + 2))).map (· + (k + 2)))) := Lh (by rw [HK.out, qf4 hkl hwd, Option.map_map]; congr 2; funext i; show i + 2 + k = i + (k + 2); omega)
     have q1 : (l[k].toList == [119, 111, 114, 100]) = true := qgm hwd
     generalize l[k] = s at *
     clear HK hwd hW
     go_wp2
     exact ⟨⟨k + 2, by omega, by go_num, hX, HK2⟩, by simp [intOf]; omega⟩
    ·by_cases hst : l[k] = jb
     ·have HK2 : Hid (R = jB l (some k)) := Lh (by rw [HK.out, qgA hkl hst]; simp)
      have q1 : (l[k].toList == [119, 111, 114, 100]) = false := qbM hwd
      have q2 : (l[k].toList == [115, 116, 111, 112]) = true := qgB hst
      generalize l[k] = s at *
      have hcap := hW.cap
      have hmax := hW.max
      have htk : Rd wr wr.heap.size 1 (some ⟨bw, ow, none⟩) k (sv (l.take k)) := by
       have := ((hW.rd.below (tx.mono hB)).more (Nat.le_trans hB tx.size)).take (k := k) (by omega)
       rwa [show (sv l).take (k * 1) = sv (l.take k) by simp [sv]] at this
      have HG := Lh (rglyphs (l.take k) (some ⟨bw, ow, none⟩) k c wr (by rw [List.length_take]; omega) (by omega) hmax htk (fun s hs => hW.sz s (List.mem_of_mem_take hs)) (by rw [List.length_take]; omega) (HT.out.below tx))
      have i1 : (k : Int) <= c := by omega
      have i2 : (k : Int) + 1 <= n := by omega
      have i3 : (k : Int) + 1 <= c := by omega
      have i4 : (c : Int) <= 9223372036854775807 := by unfold maxLen at hmax; omega
      have i0 : (0 : Int) <= k := by omega
      have i5 : (0 : Int) <= (k : Int) + 1 := by omega
      have hwr : IntKind.i64.wrap ((k : Int) + 1) = (k : Int) + 1 := by rw [IntKind.wrap_i64]; omega
      have HC1 := Lh (fun h : c = k + 1 => hW.cut1 (k := k + 1) (by omega) h)
      have HC2 := Lh (fun h : ¬ c = k + 1 => hW.cut2 (k := k + 1) (by omega) h)
      clear HK hst hwd htk hW hX
      have HO : Hid (R = (jr (l.take k)).bind fun G => match G with
        | g :: gs => some (g :: gs, l.drop (k + 1))
        | _ => none) := Lh (by rw [HK2.out]; simp only [jB, Option.bind_some]; cases jr (l.take k) with
        | none => rfl
        | some G => cases G <;> rfl)
      clear HK2
      obtain ⟨G, e5, HG2, HO2⟩ : ∃ (G : List Gl) (e5 : Int), Hid (∀ Q : Ending -> World -> Prop, (∀ A1 c1 w1, Below wr.heap.size wr w1 -> w1.ownsRow wr.heap.size 31 3 (.slice A1 G.length c1) G.length (qn G) -> Q (.returned (.tuple #[.slice A1 G.length c1, .int .i64 e5])) w1) -> Calls prog 46 #[.slice (some ⟨bw, ow, none⟩) k c] wr Q) /\ Hid (R.map (·.2) = zY (!(e5 == 0 && decide ((G.length : Int) > 0))) (l.drop (k + 1)) /\ (R.map (·.1)).getD [] = G) := by
       cases hg : jr (l.take k) with
       | none =>
        have h := HG.out
        rw [hg] at h
        refine ⟨[], 17, Lh fun Q hQ => h.mono ?_, Lh (by rw [HO.out, hg]; exact ⟨rfl, rfl⟩)⟩
        rintro e w1 ⟨hb1, rfl⟩
        exact hQ none 0 w1 hb1 (zh _ _ _ _)
       | some G =>
        have h := HG.out
        rw [hg] at h
        refine ⟨G, 0, Lh fun Q hQ => h.mono ?_, Lh (by rw [HO.out, hg]; cases G with
         | nil => exact ⟨rfl, rfl⟩
         | cons g gs => exact ⟨by simp [zY], rfl⟩)⟩
        rintro e w1 ⟨hb1, A1, c1, rfl, ho⟩
        exact hQ A1 c1 w1 hb1 ho
      clear HG HO
      go_upto_region 8 with (go_at_call 46; refine HG2.out _ ?_; rintro A1 c1' w1 hb1 hown1; (clear c0 c1 d0 d1 f0 f1 g0 g1; have C1 := B1.below hb1 B1.lt; have C2 := B2.below hb1 B2.lt; obtain ⟨c0, c1, f0, f1⟩ := qm C1; obtain ⟨d0, d1, g0, g1⟩ := qm C2))
      have tx1 := tx.trans (hb1.mono (by omega))
      have e1 : IntKind.i64.wrap ((k : Int) + 1) = (k : Int) + 1 := hwr
      by_cases h5 : e5 = 0
      ·by_cases hgl0 : G.length = 0
       ·have HO3 : Hid (R.map (·.2) = zY (!false) (l.drop (k + 1)) /\ (R.map (·.1)).getD [] = G) := Lh (by have := HO2.out; rw [h5, hgl0] at this; exact this)
        have hg1 : ¬ 0 < G.length := by omega
        have h5b : (e5 == 0) = true := by simp [h5]
        clear HO2 HG2 h5 hgl0
        by_cases hck : c = k + 1
        ·as_aux_lemma =>
         have hcut := HC1.out hck
         subst hck
         obtain rfl : n = k + 1 := by omega
         clear HC1 HC2 i4 i3
         have Rr := qA (a' := .slice (some ⟨bw, ow, none⟩) 0 0) (b' := .bool false) C2; have tz := (tx1.setCell (p := ⟨w.heap.size + 1, 0, none⟩) (by show w.heap.size <= w.heap.size + 1; omega) (.slice (some ⟨bw, ow, none⟩) 0 0)).setCell (p := ⟨w.heap.size + 1, 1, none⟩) (by show w.heap.size <= w.heap.size + 1; omega) (.bool false)
         have Rd := Rr.drew
         have td := tz.drew
         go_region
         all_goals go_wp2
         all_goals exact bodyPost_ret (qy rfl _ _ (w.heap.size + 1) 49 _ (0, 0) _ rfl Rd underlying49 rfl q7) rfl ⟨A1, G, c1', _, _, _, _, !false, rfl, qq (base := wr.heap.size) (qa (qs (qs hown1 (by show w.heap.size + 1 < wr.heap.size; omega) _) (by show w.heap.size + 1 < wr.heap.size; omega) _) (Below.refl _ _).drew) (by omega), hcut.below (td.mono hB), HO3.out.1, td, HO3.out.2⟩
        ·as_aux_lemma =>
         have hcut := HC2.out hck
         clear HC1 HC2
         have Rr := qA (a' := .slice (some ⟨bw, ow + (k + 1), none⟩) (n - (k + 1)) (c - (k + 1))) (b' := .bool false) C2; have tz := (tx1.setCell (p := ⟨w.heap.size + 1, 0, none⟩) (by show w.heap.size <= w.heap.size + 1; omega) (.slice (some ⟨bw, ow + (k + 1), none⟩) (n - (k + 1)) (c - (k + 1)))).setCell (p := ⟨w.heap.size + 1, 1, none⟩) (by show w.heap.size <= w.heap.size + 1; omega) (.bool false)
         have Rd := Rr.drew
         have td := tz.drew
         go_region
         all_goals go_wp2
         all_goals exact bodyPost_ret (qy rfl _ _ (w.heap.size + 1) 49 _ (0, 0) _ rfl Rd underlying49 rfl q7) rfl ⟨A1, G, c1', _, _, _, _, !false, rfl, qq (base := wr.heap.size) (qa (qs (qs hown1 (by show w.heap.size + 1 < wr.heap.size; omega) _) (by show w.heap.size + 1 < wr.heap.size; omega) _) (Below.refl _ _).drew) (by omega), hcut.below (td.mono hB), HO3.out.1, td, HO3.out.2⟩
       ·have HO3 : Hid (R.map (·.2) = zY (!true) (l.drop (k + 1)) /\ (R.map (·.1)).getD [] = G) := Lh (by have := HO2.out; rw [h5, show decide ((G.length : Int) > 0) = true from decide_eq_true (by omega)] at this; exact this)
        have hg1 : 0 < G.length := by omega
        have h5b : (e5 == 0) = true := by simp [h5]
        clear HO2 HG2 h5 hgl0
        by_cases hck : c = k + 1
        ·as_aux_lemma =>
         have hcut := HC1.out hck
         subst hck
         obtain rfl : n = k + 1 := by omega
         clear HC1 HC2 i4 i3
         have Rr := qA (a' := .slice (some ⟨bw, ow, none⟩) 0 0) (b' := .bool true) C2; have tz := (tx1.setCell (p := ⟨w.heap.size + 1, 0, none⟩) (by show w.heap.size <= w.heap.size + 1; omega) (.slice (some ⟨bw, ow, none⟩) 0 0)).setCell (p := ⟨w.heap.size + 1, 1, none⟩) (by show w.heap.size <= w.heap.size + 1; omega) (.bool true)
         have Rd := Rr.drew
         have td := tz.drew
         go_region
         all_goals go_wp2
         all_goals exact bodyPost_ret (qy rfl _ _ (w.heap.size + 1) 49 _ (0, 0) _ rfl Rd underlying49 rfl q7) rfl ⟨A1, G, c1', _, _, _, _, !true, rfl, qq (base := wr.heap.size) (qa (qs (qs hown1 (by show w.heap.size + 1 < wr.heap.size; omega) _) (by show w.heap.size + 1 < wr.heap.size; omega) _) (Below.refl _ _).drew) (by omega), hcut.below (td.mono hB), HO3.out.1, td, HO3.out.2⟩
        ·as_aux_lemma =>
         have hcut := HC2.out hck
         clear HC1 HC2
         have Rr := qA (a' := .slice (some ⟨bw, ow + (k + 1), none⟩) (n - (k + 1)) (c - (k + 1))) (b' := .bool true) C2; have tz := (tx1.setCell (p := ⟨w.heap.size + 1, 0, none⟩) (by show w.heap.size <= w.heap.size + 1; omega) (.slice (some ⟨bw, ow + (k + 1), none⟩) (n - (k + 1)) (c - (k + 1)))).setCell (p := ⟨w.heap.size + 1, 1, none⟩) (by show w.heap.size <= w.heap.size + 1; omega) (.bool true)
         have Rd := Rr.drew
         have td := tz.drew
         go_region
         all_goals go_wp2
         all_goals exact bodyPost_ret (qy rfl _ _ (w.heap.size + 1) 49 _ (0, 0) _ rfl Rd underlying49 rfl q7) rfl ⟨A1, G, c1', _, _, _, _, !true, rfl, qq (base := wr.heap.size) (qa (qs (qs hown1 (by show w.heap.size + 1 < wr.heap.size; omega) _) (by show w.heap.size + 1 < wr.heap.size; omega) _) (Below.refl _ _).drew) (by omega), hcut.below (td.mono hB), HO3.out.1, td, HO3.out.2⟩
      ·have h5b : (e5 == 0) = false := beq_eq_false_iff_ne.2 h5
       have HO3 : Hid (R.map (·.2) = zY (!false) (l.drop (k + 1)) /\ (R.map (·.1)).getD [] = G) := Lh (by have := HO2.out; rw [h5b] at this; exact this)
       clear HO2 HG2 h5
       by_cases hck : c = k + 1
       ·as_aux_lemma =>
        have hcut := HC1.out hck
        subst hck
        obtain rfl : n = k + 1 := by omega
        clear HC1 HC2 i4 i3
        have Rr := qA (a' := .slice (some ⟨bw, ow, none⟩) 0 0) (b' := .bool false) C2; have tz := (tx1.setCell (p := ⟨w.heap.size + 1, 0, none⟩) (by show w.heap.size <= w.heap.size + 1; omega) (.slice (some ⟨bw, ow, none⟩) 0 0)).setCell (p := ⟨w.heap.size + 1, 1, none⟩) (by show w.heap.size <= w.heap.size + 1; omega) (.bool false)
        have Rd := Rr.drew
        have td := tz.drew
        go_region
        all_goals go_wp2
        all_goals exact bodyPost_ret (qy rfl _ _ (w.heap.size + 1) 49 _ (0, 0) _ rfl Rd underlying49 rfl q7) rfl ⟨A1, G, c1', _, _, _, _, !false, rfl, qq (base := wr.heap.size) (qa (qs (qs hown1 (by show w.heap.size + 1 < wr.heap.size; omega) _) (by show w.heap.size + 1 < wr.heap.size; omega) _) (Below.refl _ _).drew) (by omega), hcut.below (td.mono hB), HO3.out.1, td, HO3.out.2⟩
       ·as_aux_lemma =>
        have hcut := HC2.out hck
        clear HC1 HC2
        have Rr := qA (a' := .slice (some ⟨bw, ow + (k + 1), none⟩) (n - (k + 1)) (c - (k + 1))) (b' := .bool false) C2; have tz := (tx1.setCell (p := ⟨w.heap.size + 1, 0, none⟩) (by show w.heap.size <= w.heap.size + 1; omega) (.slice (some ⟨bw, ow + (k + 1), none⟩) (n - (k + 1)) (c - (k + 1)))).setCell (p := ⟨w.heap.size + 1, 1, none⟩) (by show w.heap.size <= w.heap.size + 1; omega) (.bool false)
        have Rd := Rr.drew
        have td := tz.drew
        go_region
        all_goals go_wp2
        all_goals exact bodyPost_ret (qy rfl _ _ (w.heap.size + 1) 49 _ (0, 0) _ rfl Rd underlying49 rfl q7) rfl ⟨A1, G, c1', _, _, _, _, !false, rfl, qq (base := wr.heap.size) (qa (qs (qs hown1 (by show w.heap.size + 1 < wr.heap.size; omega) _) (by show w.heap.size + 1 < wr.heap.size; omega) _) (Below.refl _ _).drew) (by omega), hcut.below (td.mono hB), HO3.out.1, td, HO3.out.2⟩
     ·as_aux_lemma =>
      have HK2 : Hid (R = jB l ((zK false (l.drop (k + 1))).map (· + (k + 1)))) := Lh (by rw [HK.out, qgJ hkl hwd hst, Option.map_map]; congr 2; funext i; show i + 1 + k = i + (k + 1); omega)
      have q1 : (l[k].toList == [119, 111, 114, 100]) = false := qbM hwd
      have q2 : (l[k].toList == [115, 116, 111, 112]) = false := qgg hst
      generalize l[k] = s at *
      clear HK hwd hst hW
      go_wp2
      exact ⟨⟨k + 1, by omega, by go_num, hX, HK2⟩, by simp [intOf]; omega⟩
   ·as_aux_lemma =>
    have HE : Hid (R = none) := Lh (by rw [HK.out, List.drop_of_length_le (by omega)]; rfl)
    have hki : ¬ (k : Int) < n := by omega
    have C2 := B2
    clear HK hX
    go_wp2
    have Rr := qA (a' := .slice none 0 0) (b' := .bool false) C2; have tz := (tx.setCell (p := ⟨w.heap.size + 1, 0, none⟩) (by show w.heap.size <= w.heap.size + 1; omega) (.slice none 0 0)).setCell (p := ⟨w.heap.size + 1, 1, none⟩) (by show w.heap.size <= w.heap.size + 1; omega) (.bool false)
    exact bodyPost_ret (qy rfl _ _ (w.heap.size + 1) 49 _ (0, 0) _ rfl Rr underlying49 rfl q7) rfl ⟨none, [], 0, none, 0, 0, [], true, rfl, zh _ _ _ _, WdR.nil _ B, by rw [HE.out]; rfl, tz, by rw [HE.out]; rfl⟩
def TS (w : World) (B : Nat) (r : Option (List ByteArray)) (c : Chg) (Ag : Option Addr) (cap : Nat) (X : World) : Prop :=
 ∃ A n cc l bad, r = zY bad l /\ WdR X B l A n cc /\ Blk X w.heap.size 49 #[.slice A n cc, .bool (!bad)] /\ Blk X (w.heap.size + 1) 34 (vK ⟨0, 0, 0, 0, 0, []⟩ none 0) /\ Blk X (w.heap.size + 2) 49 #[.slice none 0 0, .bool false] /\ Blk X (w.heap.size + 3) 34 (vK c Ag cap) /\ Below w.heap.size w X /\ X.ownsRow (w.heap.size + 4) 31 3 (.slice Ag c.glyphs.length cap) c.glyphs.length (qn c.glyphs)
theorem TS.size {w X : World} {B : Nat} {r : Option (List ByteArray)} {c : Chg} {Ag : Option Addr} {cap : Nat} (h : TS w B r c Ag cap X) : w.heap.size + 4 <= X.heap.size := by
 obtain ⟨A, n, cc, l, bad, h1, h2, h3, h4, h5, h6, h7, h8⟩ := h
 have := h6.lt
 omega
theorem TS.below {w X Y : World} {B : Nat} {r : Option (List ByteArray)} {c : Chg} {Ag : Option Addr} {cap : Nat} (h : TS w B r c Ag cap X) (hB : B <= w.heap.size) (hb : Below X.heap.size X Y) : TS w B r c Ag cap Y := by
 have hz := h.size
 obtain ⟨A, n, cc, l, bad, h1, h2, h3, h4, h5, h6, h7, h8⟩ := h
 exact ⟨A, n, cc, l, bad, h1, h2.below (hb.mono (by omega)), h3.below hb h3.lt, h4.below hb h4.lt, h5.below hb h5.lt, h6.below hb h6.lt, h7.trans (hb.mono (by omega)), qa h8 hb⟩
theorem TS.drew {w X : World} {B : Nat} {r : Option (List ByteArray)} {c : Chg} {Ag : Option Addr} {cap : Nat} (h : TS w B r c Ag cap X) (hB : B <= w.heap.size) : TS w B r c Ag cap X.drew := h.below hB (Below.refl _ _).drew
theorem TS.set_ {w X : World} {B : Nat} {r : Option (List ByteArray)} {c : Chg} {Ag : Option Addr} {cap : Nat} (h : TS w B r c Ag cap X) (hB : B <= w.heap.size) (i : Nat) (N : Int) (hi : i < 5) : TS w B r (c.put i N) Ag cap (X.setCell ⟨w.heap.size + 3, i, none⟩ (.int .i64 N)) := by
 obtain ⟨A, n, cc, l, bad, h1, h2, h3, h4, h5, h6, h7, h8⟩ := h
 refine ⟨A, n, cc, l, bad, h1, h2.below ((Below.refl B X).setCell (by show B <= w.heap.size + 3; omega) _), h3.far (by show w.heap.size ≠ w.heap.size + 3; omega) _, h4.far (by show w.heap.size + 1 ≠ w.heap.size + 3; omega) _, h5.far (by show w.heap.size + 2 ≠ w.heap.size + 3; omega) _, ?_, h7.setCell (by show w.heap.size <= w.heap.size + 3; omega) _, ?_⟩
 ·have := h6.set_ i (.int .i64 N)
  rwa [qex _ _ _ _ _ hi] at this
 ·rw [qco]
  exact qs h8 (by show w.heap.size + 3 < _; omega) _
theorem TS.turn {w X : World} {B : Nat} {r r' : Option (List ByteArray)} {c : Chg} {Ag : Option Addr} {cap : Nat} {A : Option Addr} {n cc : Nat} {l : List ByteArray} {bad : Bool} (h : TS w B r c Ag cap X) (hB : B <= w.heap.size) (hW : WdR X B l A n cc) (hr : r' = zY bad l) :
  TS w B r' c Ag cap ((X.setCell ⟨w.heap.size, 0, none⟩ (.slice A n cc)).setCell ⟨w.heap.size, 1, none⟩ (.bool (!bad))) := by
 obtain ⟨A0, n0, cc0, l0, bad0, h1, h2, h3, h4, h5, h6, h7, h8⟩ := h
 exact ⟨A, n, cc, l, bad, hr, hW.below (((Below.refl B X).setCell (p := ⟨w.heap.size, 0, none⟩) hB _).setCell (p := ⟨w.heap.size, 1, none⟩) hB _), qA h3, (h4.far (p := ⟨w.heap.size, 0, none⟩) (by show w.heap.size + 1 ≠ w.heap.size; omega) _).far (p := ⟨w.heap.size, 1, none⟩) (by show w.heap.size + 1 ≠ w.heap.size; omega) _, (h5.far (p := ⟨w.heap.size, 0, none⟩) (by show w.heap.size + 2 ≠ w.heap.size; omega) _).far (p := ⟨w.heap.size, 1, none⟩) (by show w.heap.size + 2 ≠ w.heap.size; omega) _, (h6.far (p := ⟨w.heap.size, 0, none⟩) (by show w.heap.size + 3 ≠ w.heap.size; omega) _).far (p := ⟨w.heap.size, 1, none⟩) (by show w.heap.size + 3 ≠ w.heap.size; omega) _, (h7.setCell (p := ⟨w.heap.size, 0, none⟩) (Nat.le_refl _) _).setCell (p := ⟨w.heap.size, 1, none⟩) (Nat.le_refl _) _, qs (qs h8 (p := ⟨w.heap.size, 0, none⟩) (by show w.heap.size < _; omega) _) (p := ⟨w.heap.size, 1, none⟩) (by show w.heap.size < _; omega) _⟩
theorem TS.glyphs {w X : World} {B : Nat} {r : Option (List ByteArray)} {c : Chg} {Ag : Option Addr} {cap : Nat} (h : TS w B r c Ag cap X) (hB : B <= w.heap.size) {G : List Gl} {A : Option Addr} {cp : Nat} (ho : X.ownsRow (w.heap.size + 4) 31 3 (.slice A G.length cp) G.length (qn G)) : TS w B r {c with glyphs := G} A cp (X.setCell ⟨w.heap.size + 3, 5, none⟩ (.slice A G.length cp)) := by
 obtain ⟨A0, n, cc, l, bad, h1, h2, h3, h4, h5, h6, h7, h8⟩ := h
 refine ⟨A0, n, cc, l, bad, h1, h2.below ((Below.refl B X).setCell (by show B <= w.heap.size + 3; omega) _), h3.far (by show w.heap.size ≠ w.heap.size + 3; omega) _, h4.far (by show w.heap.size + 1 ≠ w.heap.size + 3; omega) _, h5.far (by show w.heap.size + 2 ≠ w.heap.size + 3; omega) _, ?_, h7.setCell (by show w.heap.size <= w.heap.size + 3; omega) _, qs ho (by show w.heap.size + 3 < _; omega) _⟩
 have := h6.set_ 5 (.slice A G.length cp)
 exact this
def qbE (w X : World) (c : Chg) (Ag : Option Addr) (cap : Nat) (A : Option Addr) (n cc : Nat) (bad : Bool) : World :=
 (((((((X.setCell ⟨w.heap.size + 1, 0, none⟩ (.int .i64 c.kind)).setCell ⟨w.heap.size + 1, 1, none⟩ (.int .i64 c.row)).setCell ⟨w.heap.size + 1, 2, none⟩ (.int .i64 c.col)).setCell ⟨w.heap.size + 1, 3, none⟩ (.int .i64 c.count)).setCell ⟨w.heap.size + 1, 4, none⟩ (.int .i64 c.til)).setCell ⟨w.heap.size + 1, 5, none⟩ (.slice Ag c.glyphs.length cap)).setCell ⟨w.heap.size + 2, 0, none⟩ (.slice A n cc)).setCell ⟨w.heap.size + 2, 1, none⟩ (.bool (!bad))
theorem fint_ {w X : World} {B : Nat} {c0 : Chg} {A0 : Option Addr} {cap0 : Nat} {x y : Value} {r : Option (List ByteArray)} {c : Chg} {Ag : Option Addr} {cap : Nat} {A : Option Addr} {n cc : Nat} {l : List ByteArray} {bad : Bool} (hB : B <= w.heap.size) (hr : r = zY bad l) (hW : WdR X B l A n cc) (R2 : Blk X (w.heap.size + 1) 34 (vK c0 A0 cap0)) (R3 : Blk X (w.heap.size + 2) 49 #[x, y]) (tx : Below w.heap.size w X) (hO : X.ownsRow (w.heap.size + 4) 31 3 (.slice Ag c.glyphs.length cap) c.glyphs.length (qn c.glyphs)) :
  Blk (qbE w X c Ag cap A n cc bad) (w.heap.size + 1) 34 (vK c Ag cap) /\ Blk (qbE w X c Ag cap A n cc bad) (w.heap.size + 2) 49 #[.slice A n cc, .bool (!bad)] /\ WdR (qbE w X c Ag cap A n cc bad) B l A n cc /\ Below w.heap.size w (qbE w X c Ag cap A n cc bad) /\ (qbE w X c Ag cap A n cc bad).ownsRow w.heap.size 31 3 (.slice Ag c.glyphs.length cap) c.glyphs.length (qn c.glyphs) := by
 have b6 := fun k (hk : k <= w.heap.size + 1) => qaI (X := X) hk (.int .i64 c.kind) (.int .i64 c.row) (.int .i64 c.col) (.int .i64 c.count) (.int .i64 c.til) (.slice Ag c.glyphs.length cap)
 have b8 : ∀ k, k <= w.heap.size + 1 -> Below k X (qbE w X c Ag cap A n cc bad) := fun k hk => ((b6 k hk).setCell (p := ⟨w.heap.size + 2, 0, none⟩) (by show k <= w.heap.size + 2; omega) _).setCell (p := ⟨w.heap.size + 2, 1, none⟩) (by show k <= w.heap.size + 2; omega) _
 refine ⟨?_, ?_, hW.below (b8 B (by omega)), tx.trans (b8 _ (by omega)), qq (base := w.heap.size + 4) ?_ (by omega)⟩
 ·exact ((qch R2).far (p := ⟨w.heap.size + 2, 0, none⟩) (by show w.heap.size + 1 ≠ w.heap.size + 2; omega) _).far (p := ⟨w.heap.size + 2, 1, none⟩) (by show w.heap.size + 1 ≠ w.heap.size + 2; omega) _
 ·have R3' := ((((((R3.far (p := ⟨w.heap.size + 1, 0, none⟩) (by show w.heap.size + 2 ≠ w.heap.size + 1; omega) (.int .i64 c.kind)).far (p := ⟨w.heap.size + 1, 1, none⟩) (by show w.heap.size + 2 ≠ w.heap.size + 1; omega) (.int .i64 c.row)).far (p := ⟨w.heap.size + 1, 2, none⟩) (by show w.heap.size + 2 ≠ w.heap.size + 1; omega) (.int .i64 c.col)).far (p := ⟨w.heap.size + 1, 3, none⟩) (by show w.heap.size + 2 ≠ w.heap.size + 1; omega) (.int .i64 c.count)).far (p := ⟨w.heap.size + 1, 4, none⟩) (by show w.heap.size + 2 ≠ w.heap.size + 1; omega) (.int .i64 c.til)).far (p := ⟨w.heap.size + 1, 5, none⟩) (by show w.heap.size + 2 ≠ w.heap.size + 1; omega) (.slice Ag c.glyphs.length cap))
  exact qA R3'
 ·unfold qbE
  iterate 8 refine qs ?_ (by first | (show w.heap.size + 1 < _; omega) | (show w.heap.size + 2 < _; omega)) _
  exact hO
theorem vT {w X : World} {B : Nat} {c0 : Chg} {A0 : Option Addr} {cap0 : Nat} {x y : Value} {r : Option (List ByteArray)} {c : Chg} {Ag : Option Addr} {cap : Nat} {A : Option Addr} {n cc : Nat} {l : List ByteArray} {bad : Bool} (hB : B <= w.heap.size) (hr : r = zY bad l) (hW : WdR X B l A n cc) (R2 : Blk X (w.heap.size + 1) 34 (vK c0 A0 cap0)) (R3 : Blk X (w.heap.size + 2) 49 #[x, y]) (tx : Below w.heap.size w X) (hO : X.ownsRow (w.heap.size + 4) 31 3 (.slice Ag c.glyphs.length cap) c.glyphs.length (qn c.glyphs)) :
  Blk (qbE w X c Ag cap A n cc bad).drew (w.heap.size + 1) 34 (vK c Ag cap) /\ Blk (qbE w X c Ag cap A n cc bad).drew (w.heap.size + 2) 49 #[.slice A n cc, .bool (!bad)] /\ WdR (qbE w X c Ag cap A n cc bad).drew B l A n cc /\ Below w.heap.size w (qbE w X c Ag cap A n cc bad).drew /\ (qbE w X c Ag cap A n cc bad).drew.ownsRow w.heap.size 31 3 (.slice Ag c.glyphs.length cap) c.glyphs.length (qn c.glyphs) := by
 obtain ⟨h1, h2, h3, h4, h5⟩ := fint_ hB hr hW R2 R3 tx hO
 exact ⟨h1.drew, h2.drew, h3.below (Below.refl _ _).drew, h4.drew, qa h5 (Below.refl _ _).drew⟩
theorem TS.start {w : World} {B : Nat} {A : Option Addr} {n c : Nat} {l : List ByteArray} (hW : WdR w B l A n c) (hB : B <= w.heap.size) :
  TS w B (some l) ⟨0, 0, 0, 0, 0, []⟩ none 0 ((((w.alloc (.cells #[.slice A n c, .bool true] 49)).alloc (.cells (vK ⟨0, 0, 0, 0, 0, []⟩ none 0) 34)).alloc (.cells #[.slice none 0 0, .bool false] 49)).alloc (.cells (vK ⟨0, 0, 0, 0, 0, []⟩ none 0) 34)) := by
 have tb : Below w.heap.size w ((((w.alloc (.cells #[.slice A n c, .bool true] 49)).alloc (.cells (vK ⟨0, 0, 0, 0, 0, []⟩ none 0) 34)).alloc (.cells #[.slice none 0 0, .bool false] 49)).alloc (.cells (vK ⟨0, 0, 0, 0, 0, []⟩ none 0) 34)) :=
  ((((Below.refl _ _).alloc (Nat.le_refl _) _).alloc (by simp) _).alloc (by simp; omega) _).alloc (by simp; omega) _
 exact ⟨A, n, c, l, false, rfl, hW.below (tb.mono hB), (((Blk.new w _ _).alloc _).alloc _).alloc _, ((Blk.new_ (by simp)).alloc _).alloc _, (Blk.new_ (by simp)).alloc _, Blk.new_ (by simp), tb, zh _ _ _ _⟩
def qiq (w : World) (B : Nat) (c : Chg) (r : Option (List ByteArray)) (e : Ending) (w' : World) : Prop := ∃ Ag cap A n cc l bad, e = .returned (.tuple #[.agg #[.int .i64 c.kind, .int .i64 c.row, .int .i64 c.col, .int .i64 c.count, .int .i64 c.til, .slice Ag c.glyphs.length cap], .agg #[.slice A n cc, .bool (!bad)]]) /\ r = zY bad l /\ WdR w' B l A n cc /\ Below w.heap.size w w' /\ w'.ownsRow w.heap.size 31 3 (.slice Ag c.glyphs.length cap) c.glyphs.length (qn c.glyphs)
end Go.Proofs.YtlndbiamiioakaaGreatDoor
