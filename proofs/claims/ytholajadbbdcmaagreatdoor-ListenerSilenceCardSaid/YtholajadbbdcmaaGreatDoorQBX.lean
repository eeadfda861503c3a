/- Joined texts: Lvb, Lvc, Lvd, Lve. -/
import Derived.Test.YtholajadbbdcmaaGreatDoorQAA
import Derived.Test.YtholajadbbdcmaaGreatDoorQAB
import Derived.Test.YtholajadbbdcmaaGreatDoorQAC
import Derived.Test.YtholajadbbdcmaaGreatDoorQAD
import Derived.Test.YtholajadbbdcmaaGreatDoorQAE
import Derived.Test.YtholajadbbdcmaaGreatDoorQAF
import Derived.Test.YtholajadbbdcmaaGreatDoorQAG
import Derived.Test.YtholajadbbdcmaaGreatDoorQAH
import Derived.Test.YtholajadbbdcmaaGreatDoorQAI
import Derived.Test.YtholajadbbdcmaaGreatDoorQAM
import Derived.Test.YtholajadbbdcmaaGreatDoorQAN
import Derived.Test.YtholajadbbdcmaaGreatDoorQAP
import Derived.Test.YtholajadbbdcmaaGreatDoorQAQ
import Derived.Test.YtholajadbbdcmaaGreatDoorQAS
import Derived.Test.YtholajadbbdcmaaGreatDoorQAT
import Derived.Test.YtholajadbbdcmaaGreatDoorQBB
import Derived.Test.YtholajadbbdcmaaGreatDoorQBC
import Derived.Test.YtholajadbbdcmaaGreatDoorQBF
import Derived.Test.YtholajadbbdcmaaGreatDoorQBG
import Derived.Test.YtholajadbbdcmaaGreatDoorQBU
import Derived.Test.YtholajadbbdcmaaGreatDoorQBV
import Derived.Test.YtholajadbbdcmaaGreatDoorQBW
set_option linter.unusedVariables false
set_option linter.unusedSimpArgs false
set_option linter.unnecessarySimpa false
namespace Go.Proofs.YtholajadbbdcmaaGreatDoor
open Go.RowKit
set_option maxRecDepth 20000
set_option maxHeartbeats 4000000 in
theorem ccheck_ {base G B : Nat} {v : Vw} {rs : List RowM} {A : Option Addr} {cA : Nat} {X0 : World} (h : ED base G v rs A cA X0) (hlen : (rs.length : Int) = v.height) (hh : v.height ≤ 1000) (hw0 : 0 ≤ v.width) (hw : v.width ≤ 1000) (hrl : ∀ x ∈ rs, x.l.length ≤ 1000000000)
  (c : Chg) (Ag : Option Addr) (cap : Nat) (hB : B ≤ X0.heap.size) (rd : Rd X0 B 3 Ag c.glyphs.length (encGs c.glyphs)) (hgl : c.glyphs.length ≤ 1000000000) (hgz : ∀ x ∈ c.glyphs, x.text.size ≤ 1000000000) (hu : U8 X0) :
  Calls Tryz.prog 54 #[.pointer (some ⟨G, 0, none⟩), chgV c Ag cap] X0 (Gives (.int .i64 (fitsC v c)) X0) := by
 have HBl : Hid (∀ w, _) := Lib.hid (cblank_ c Ag cap)
 have HI : Hid (∀ w, _) := Lib.hid (btw_ c.kind 1 4)
 have HR : Hid (1 ≤ c.kind ∧ c.kind ≤ 4 → ∀ w', Below X0.heap.size X0 w' → Calls Tryz.prog 88 #[.pointer (some ⟨G, 0, none⟩), chgV c Ag cap] w' (Gives (.bool (rangeC v c)) w')) := Lib.hid fun hk w' hb => cranges_ (h.below hb) hlen hh hw0 hw hrl c Ag cap hk
 have HP : Hid (∀ x ∈ c.glyphs, ∀ w', Below X0.heap.size X0 w' → Calls Tryz.prog 89 #[glV x] w' (Gives (.int .i64 (glyphC x)) w')) := Lib.hid fun x hx w' hb => (glyphs_both x (hgz x hx) w' (hu.below hb)).2
 have HRd : Hid (∀ w', Below X0.heap.size X0 w' → Rd w' X0.heap.size 3 Ag c.glyphs.length (encGs c.glyphs)) := Lib.hid fun w' hb => (rd.more hB).below hb
 unfold fitsC
 clear h hlen hh hw0 hw hrl rd hgz hu
 by_cases hk : c.kind < 1 ∨ 4 < c.kind
 ·rw [if_pos hk]
  have e : inB c.kind 1 4 = false := by
   unfold inB
   rcases hk with h | h
   ·rw [decide_eq_false (by omega)]; rfl
   ·rw [decide_eq_false (show ¬ c.kind ≤ 4 by omega), Bool.and_false]
  rw [e] at HI
  clear hk e HBl HR HP HRd
  obtain ⟨kind, row, col, count, til, g⟩ := c
  dsimp only at *
  go_enter Tryz.func54, Tryz.ntmps54
  go_upto_region 1 with fail
  refine wp_fg (ChgBox X0 ⟨kind, row, col, count, til, g⟩ Ag cap) (ChgBox.new X0 ⟨kind, row, col, count, til, g⟩ Ag cap _) ?_
  intro X hX
  obtain ⟨c0, c1, c2, c3, c4, c5, hb, hzX⟩ := id hX
  dsimp only at c0 c1 c2 c3 c4 c5
  go_wp2_with (go_at_call 86; refine (HI.out _).mono ?_; rintro e wy ⟨rfl, rfl⟩)
  go_ret
  exact ⟨rfl, hb⟩
 ·rw [if_neg hk]
  have HR2 := Lib.hid (HR.out (by omega))
  have e : inB c.kind 1 4 = true := by unfold inB; rw [decide_eq_true (by omega), decide_eq_true (by omega)]; rfl
  rw [e] at HI
  clear hk e HR
  by_cases hbl : blankC c = false
  ·rw [if_pos hbl]
   rw [hbl] at HBl
   clear hbl HR2 HP HRd
   obtain ⟨kind, row, col, count, til, g⟩ := c
   dsimp only at *
   go_enter Tryz.func54, Tryz.ntmps54
   go_upto_region 1 with fail
   refine wp_fg (ChgBox X0 ⟨kind, row, col, count, til, g⟩ Ag cap) (ChgBox.new X0 ⟨kind, row, col, count, til, g⟩ Ag cap _) ?_
   intro X hX
   obtain ⟨c0, c1, c2, c3, c4, c5, hb, hzX⟩ := id hX
   dsimp only at c0 c1 c2 c3 c4 c5
   go_wp2_with (first | (go_at_call 86; refine (HI.out _).mono ?_; rintro e wy ⟨rfl, rfl⟩) | (go_at_call 87; refine (HBl.out _).mono ?_; rintro e w1 ⟨rfl, hb1⟩))
   go_ret
   exact ⟨rfl, hb.trans (hb1.mono (by omega))⟩
  ·rw [if_neg hbl]
   have hbl : blankC c = true := by simpa using hbl
   rw [hbl] at HBl
   clear hbl
   generalize rangeC v c = RC at *
   obtain ⟨kind, row, col, count, til, g⟩ := c
   dsimp only at *
   go_enter Tryz.func54, Tryz.ntmps54
   go_upto_region 1 with fail
   refine wp_fg (ChgBox X0 ⟨kind, row, col, count, til, g⟩ Ag cap) (ChgBox.new X0 ⟨kind, row, col, count, til, g⟩ Ag cap _) ?_
   intro X hX
   obtain ⟨c0, c1, c2, c3, c4, c5, hb, hzX⟩ := id hX
   dsimp only at c0 c1 c2 c3 c4 c5
   go_upto_region 5 with (first | (go_at_call 86; refine (HI.out _).mono ?_; rintro e wy ⟨rfl, rfl⟩) | (go_at_call 87; refine (HBl.out _).mono ?_; rintro e w1 ⟨rfl, hb1⟩))
   have hX1 := hX.on hb1
   obtain ⟨d0, d1, d2, d3, d4, d5, hbd, hzd⟩ := id hX1
   dsimp only at d0 d1 d2 d3 d4 d5
   clear c0 c1 c2 c3 c4 c5
   cases RC with
   | false =>
    rw [if_pos rfl]
    go_wp2_with (go_at_call 88; refine (HR2.out _ hbd).mono ?_; rintro e w2 ⟨rfl, hb2⟩)
    go_ret
    exact ⟨rfl, hbd.trans (hb2.mono (by omega))⟩
   | true =>
    rw [if_neg (by simp)]
    have H0 : Hid (glsC g = glsC (g.drop 0)) := Lib.hid rfl
    generalize glsC g = R at *
    go_upto_region 7 with (go_at_call 88; refine (HR2.out _ hbd).mono ?_; rintro e w2 ⟨rfl, hb2⟩)
    have hX2 := hX1.on hb2
    obtain ⟨c0, c1, c2, c3, c4, c5, hbc, hzc⟩ := id hX2
    dsimp only at c0 c1 c2 c3 c4 c5
    clear d0 d1 d2 d3 d4 d5 hX1 hX hb1 hb2 hbd hb HR2 HBl HI
    go_wp2
    go_loopw [25] (fun y wr => ∃ j : Nat, j ≤ g.length ∧ y = .int .i64 j ∧ Below X0.heap.size X0 wr ∧ Hid (R = glsC (g.drop j))) (fun y _ => g.length - (intOf y).toNat)
    case atStart => exact ⟨0, Nat.zero_le _, rfl, hbc, H0⟩
    case round =>
     clear c0 c1 c2 c3 c4 c5 hX2 H0 hbc
     obtain ⟨j, hj, rfl, hb, HJ⟩ := hrel
     have hzb := hb.size
     by_cases hlt : j < g.length
     ·obtain ⟨b', o', rfl, hbB', g0, g1, g2⟩ := rd_gl (HRd.out _ hb) hlt rfl
      have HPj := Lib.hid (HP.out _ (List.getElem_mem hlt))
      have HJ2 := HJ.out
      rw [gls_drop hlt] at HJ2
      generalize g[j] = q at *
      by_cases h0 : glyphC q = 0
      ·rw [if_neg (show ¬ glyphC q ≠ 0 by simp [h0])] at HJ2
       replace HJ2 := Lib.hid HJ2
       rw [h0] at HPj
       clear h0 HJ
       obtain ⟨t, wd, st⟩ := q
       dsimp only at *
       go_wp2_with (go_at_call 89; refine (HPj.out _ (hb.alloc hzb _)).mono ?_; rintro e w1 ⟨rfl, hb1⟩)
       exact ⟨⟨j + 1, by omega, by go_num, (hb.alloc hzb _).trans (hb1.mono (by simp; omega)), HJ2⟩, by simp [intOf]; omega⟩
      ·rw [if_pos (show glyphC q ≠ 0 from h0)] at HJ2
       replace HJ2 := Lib.hid HJ2
       have hn0 : (glyphC q != 0) = true := bne_iff_ne.2 h0
       clear h0 HJ
       generalize hq : glyphC q = K at *
       clear hq
       obtain ⟨t, wd, st⟩ := q
       dsimp only at *
       go_wp2_with (go_at_call 89; refine (HPj.out _ (hb.alloc hzb _)).mono ?_; rintro e w1 ⟨rfl, hb1⟩)
       go_ret
       exact ⟨by rw [HJ2.out]; rfl, (hb.alloc hzb _).trans (hb1.mono (by simp; omega))⟩
     ·obtain rfl : j = g.length := by omega
      have HJ2 : Hid (R = 0) := Lib.hid (by rw [HJ.out, List.drop_of_length_le (Nat.le_refl _)]; rfl)
      clear HJ
      go_wp2
      go_ret
      exact ⟨by rw [HJ2.out]; rfl, hb⟩
end Go.Proofs.YtholajadbbdcmaaGreatDoor
namespace Go.Proofs.YtholajadbbdcmaaGreatDoor
open Go.RowKit
set_option maxRecDepth 20000
structure RB (X0 : World) (A : Option Addr) (c : Nat) (rs : List RowM) (X : World) : Prop where
 out : X.ownsRow X0.heap.size 51 1 (.slice A rs.length c) rs.length (encRs rs)
 gl : ∀ x ∈ rs, X.ownsRow X0.heap.size 89 3 (.slice x.A x.l.length x.cap) x.l.length (encGs x.l)
 dj : (obS A :: rs.map fun x => obS x.A).Pairwise Dj
 bel : Below X0.heap.size X0 X
theorem RB.nil (X0 : World) : RB X0 none 0 [] X0 := ⟨own_nil _ _ _ _, fun x hx => (by cases hx), List.pairwise_singleton _ _, Below.refl _ _⟩
section
variable {X0 X w1 w2 : World} {A : Option Addr} {c : Nat} {rs : List RowM}
theorem RB.below (h : RB X0 A c rs X) (hb : Below X.heap.size X w1) : RB X0 A c rs w1 :=
 ⟨own_below h.out hb, fun x hx => own_below (h.gl x hx) hb, h.dj, h.bel.trans (hb.mono h.bel.size)⟩
theorem RB.next {A1 A2 : Option Addr} {c1 c2 n m : Nat} {l : List Gl} {o : Obj} (h : RB X0 A c rs X) (hb1 : Below X.heap.size X w1) (o1 : w1.ownsRow X.heap.size 89 3 (.slice A1 l.length c1) l.length (encGs l))
  (hn : n = rs.length + 1) (hown2 : w2.ownsRow X0.heap.size 51 1 (.slice A2 n c2) n (encRs rs ++ [.slice A1 l.length c1])) (hbel2 : Below X0.heap.size (w1.alloc o) w2)
  (hgr2 : (w1.alloc o).grownBy w2 (Value.slice A m c).ownBlock) (hat2 : (Value.slice A2 n c2).ownBlock = (Value.slice A m c).ownBlock ∨ (Value.slice A2 n c2).ownBlock = some (w1.alloc o).heap.size) : RB X0 A2 c2 (rs ++ [⟨l, A1, c1⟩]) w2 := by
 subst hn
 have hz := h.bel.size
 have hz1 := hb1.size
 obtain ⟨hd1, hd2⟩ := List.pairwise_cons.1 h.dj
 have hsz : (w1.alloc o).heap.size = w1.heap.size + 1 := by simp
 rw [ob_slice, ob_slice, hsz] at hat2
 rw [ob_slice] at hgr2
 have hA : ∀ k, obS A = some k → k < X.heap.size := fun k hk => (own_ob h.out k hk).2
 have hA1 : ∀ k, obS A1 = some k → X.heap.size ≤ k ∧ k < w1.heap.size := own_ob o1
 have hold : ∀ x ∈ rs, ∀ k, obS x.A = some k → k < X.heap.size := fun x hx k hk => (own_ob (h.gl x hx) k hk).2
 have hk : ∀ (b : Option Nat), Dj (obS A) b → b = none ∨ b ≠ obS A := fun b hb => hb.symm.ne
 have hdA1 : Dj (obS A) (obS A1) := Dj.fresh hA fun k hk => (hA1 k hk).1
 refine ⟨by rw [List.length_append, encRs_app]; exact hown2, fun x hx => ?_, ?_, (h.bel.trans ((hb1.mono hz).alloc (by omega) _)).trans hbel2⟩
 ·rcases List.mem_append.1 hx with hx | hx
  ·refine ((own_below (h.gl x hx) hb1).alloc _).kept hgr2 ?_
   rw [ob_slice]
   exact hk _ (hd1 _ (List.mem_map_of_mem (f := fun x => obS x.A) hx))
  ·obtain rfl := List.mem_singleton.1 hx
   refine (own_less (o1.alloc _) hz).kept hgr2 ?_
   rw [ob_slice]
   exact hk _ hdA1
 ·rw [List.map_append, ← List.cons_append]
  have hnew : ∀ b, Dj (obS A) b → (∀ k, b = some k → k < w1.heap.size + 1) → Dj (obS A2) b := fun b hb hl => (Dj.new hb.symm hat2 hl).symm
  refine pw_snoc (List.pairwise_cons.2 ⟨fun y hy => ?_, hd2⟩) fun y hy => ?_
  ·obtain ⟨x, hx, rfl⟩ := List.mem_map.1 hy
   exact hnew _ (hd1 _ hy) fun k hk => by have := hold x hx k hk; omega
  ·rcases List.mem_cons.1 hy with rfl | hy
   ·exact hnew _ hdA1 fun k hk => by have := (hA1 k hk).2; omega
   ·obtain ⟨x, hx, rfl⟩ := List.mem_map.1 hy
    exact Dj.fresh (hold x hx) fun k hk => (hA1 k hk).1
end
theorem possible_ (n : Nat) (top til by_ : Int) (w : World) (hn : n ≤ 1000) (h1 : 0 ≤ top) (h2 : top < til) (h3 : til ≤ n) (h4 : by_ ≠ 0) (h5 : by_ < til - top) (h6 : top - til < by_) : Calls Tryz.prog 134 #[.int .i64 n, .int .i64 top, .int .i64 til, .int .i64 by_] w fun e w' => e = .returned (.bool true) ∧ w = w' := by
 have b4 : (by_ != 0) = true := bne_iff_ne.2 h4
 have w1 : IntKind.i64.wrap (til - top) = til - top := by rw [IntKind.wrap_i64]; omega
 have w2 : IntKind.i64.wrap (top - til) = top - til := by rw [IntKind.wrap_i64]; omega
 clear h4
 go_enter Tryz.func134, Tryz.ntmps134
 go_wp2
 go_ret
 exact ⟨rfl, rfl⟩
def nilR : RowM := ⟨[], none, 0⟩
def srcR (rs : List RowM) (top til by_ : Int) (i : Nat) : RowM :=
 if top ≤ (i : Int) ∧ (i : Int) < til then (if top ≤ (i : Int) + by_ ∧ (i : Int) + by_ < til then rs.getD ((i : Int) + by_).toNat nilR else nilR) else rs.getD i nilR
theorem getD_nil (rs : List RowM) (k : Nat) : (rs.getD k nilR).l = (rls rs).getD k [] := by
 rw [List.getD_eq_getElem?_getD, List.getD_eq_getElem?_getD, rls, List.getElem?_map]
 cases rs[k]? <;> rfl
theorem src_roll (rs : List RowM) (top til by_ : Int) (i : Nat) : (srcR rs top til by_ i).l = rollR (rls rs) top til by_ i := by
 unfold srcR rollR
 split
 ·split
  ·exact getD_nil _ _
  ·rfl
 ·exact getD_nil _ _
theorem getD_mem (rs : List RowM) (k : Nat) : rs.getD k nilR = nilR ∨ rs.getD k nilR ∈ rs := by
 rw [List.getD_eq_getElem?_getD]
 cases h : rs[k]? with
 | none => exact .inl rfl
 | some x => exact .inr (List.mem_of_getElem? h)
theorem src_mem (rs : List RowM) (top til by_ : Int) (i : Nat) : srcR rs top til by_ i = nilR ∨ srcR rs top til by_ i ∈ rs := by
 unfold srcR
 split
 ·split
  ·exact getD_mem _ _
  ·exact .inl rfl
 ·exact getD_mem _ _
set_option maxHeartbeats 4000000 in
theorem crows_ (rs : List RowM) (A : Option Addr) (n c B : Nat) (top til by_ : Int) (X0 : World) (rd : RdRs X0 B A n rs) (hB : B ≤ X0.heap.size) (hn : n ≤ 1000) (hrl : ∀ x ∈ rs, x.l.length ≤ 1000000000) (h1 : 0 ≤ top) (h2 : top < til) (h3 : til ≤ n) (h4 : by_ ≠ 0) (h5 : by_ < til - top) (h6 : top - til < by_) :
  Calls Tryz.prog 112 #[.slice A n c, .int .i64 top, .int .i64 til, .int .i64 by_] X0 fun e w' => ∃ A' c' rs', e = .returned (.tuple #[.slice A' n c', .int .i64 0]) ∧ rs'.length = n ∧ RB X0 A' c' rs' w' ∧ rls rs' = (List.range n).map (rollR (rls rs) top til by_) := by
 have HN := Lib.hid rd.len
 have HP : Hid (∀ w, _) := Lib.hid fun w => possible_ n top til by_ w hn h1 h2 h3 h4 h5 h6
 have HA : Hid (∀ k (hk : k < rs.length) w', Below X0.heap.size X0 w' → ∃ b o, A = some ⟨b, o, none⟩ ∧ b < X0.heap.size ∧ w'.cell? ⟨b, o + k, none⟩ = some (.slice rs[k].A rs[k].l.length rs[k].cap)) := Lib.hid fun k hk w' hb => ((rd.more hB).below hb).at_ hk
 have HC : Hid (∀ x, x = nilR ∨ x ∈ rs → ∀ w', Below X0.heap.size X0 w' → Calls Tryz.prog 85 #[.slice x.A x.l.length x.cap] w' fun e w'' => ∃ A1 c1, e = .returned (.slice A1 x.l.length c1) ∧ w''.ownsRow w'.heap.size 89 3 (.slice A1 x.l.length c1) x.l.length (encGs x.l) ∧ Below w'.heap.size w' w'') := Lib.hid fun x hx w' hb => by
  rcases hx with rfl | hx
  ·exact clone_gl [] none 0 0 0 w' (by omega) Rd.none_ (Nat.zero_le _)
  ·exact clone_gl x.l x.A _ x.cap X0.heap.size w' (hrl x hx) (((rd.gl x hx).1.more hB).below hb) hb.size
 clear rd hrl h4
 go_enter Tryz.func112, Tryz.ntmps112
 go_wp2_with (go_at_call 134; refine (HP.out _).mono ?_; rintro e w1 ⟨rfl, rfl⟩)
 go_loopw [10, 23] (fun v x wr => ∃ (k : Nat) (rs' : List RowM) (A' : Option Addr) (c' : Nat), k ≤ n ∧ rs'.length = k ∧ x = .int .i64 k ∧ v = .slice A' k c' ∧ RB X0 A' c' rs' wr ∧ rls rs' = (List.range k).map (rollR (rls rs) top til by_)) (fun _ x _ => n - (intOf x).toNat)
 case atStart => exact ⟨0, [], none, 0, Nat.zero_le _, rfl, rfl, rfl, RB.nil X0, rfl⟩
 case round =>
  obtain ⟨k, rs', A', c', hk, hk2, rfl, rfl, hr, hrr⟩ := hrel
  have hb := hr.bel
  by_cases hlt : k < n
  ·have hkl : k < rs.length := by have := HN.out; omega
   obtain ⟨b, o, hA, hbB, hc⟩ := HA.out k hkl _ hb
   have HN2 : Hid (∀ (A1 : Option Addr) (d1 : Nat), rls (rs' ++ [⟨(srcR rs top til by_ k).l, A1, d1⟩]) = (List.range (k + 1)).map (rollR (rls rs) top til by_)) := Lib.hid fun A1 d1 => by
    have hrr' := hrr
    unfold rls at hrr' ⊢
    rw [List.map_append, hrr', List.range_succ, List.map_append, List.map_cons, List.map_nil, List.map_cons, List.map_nil, src_roll]
    rfl
   have HCx := Lib.hid (HC.out _ (src_mem rs top til by_ k))
   obtain ⟨x, hx⟩ : ∃ x, srcR rs top til by_ k = x := ⟨_, rfl⟩
   rw [hx] at HCx HN2
   unfold srcR at hx
   have q1 : 0 ≤ (k : Int) := by omega
   have hA' := hA
   subst hA'
   by_cases a1 : top ≤ (k : Int)
   ·by_cases a2 : (k : Int) < til
    ·rw [if_pos ⟨a1, a2⟩] at hx
     by_cases a3 : top ≤ (k : Int) + by_
     ·by_cases a4 : (k : Int) + by_ < til
      ·rw [if_pos ⟨a3, a4⟩] at hx
       obtain ⟨j, hj⟩ : ∃ j : Nat, (k : Int) + by_ = j := ⟨((k : Int) + by_).toNat, by omega⟩
       have hjl : j < rs.length := by have := HN.out; omega
       obtain ⟨b', o', hA2, _, hc2⟩ := HA.out j hjl _ hb
       rw [hj, Int.toNat_natCast, List.getD_eq_getElem?_getD, List.getElem?_eq_getElem hjl, Option.getD_some] at hx
       rw [hx] at hc2
       obtain ⟨rfl, rfl⟩ : b = b' ∧ o = o' := by injection hA2 with e; injection e with e1 e2; exact ⟨e1, e2⟩
       have hw : IntKind.i64.wrap ((k : Int) + by_) = (j : Int) := by rw [← hj, IntKind.wrap_i64]; omega
       rw [hj] at a3 a4
       have hjn : (j : Int) < n := by omega
       clear hx HP HA HC hA hA2 hj
       go_wp2_with (first
        | (go_at_call 85; refine (HCx.out _ hb).mono ?_; rintro e w1 ⟨A1, d1, rfl, o1, b1⟩; have hr1 := hr.below b1; have z1 := hr1.bel.size; have ho1 := hr1.out; rw [hk2] at ho1)
        | (at_builtin; go_must (refine app_list rfl _ _ _ rfl elt_row (X0.heap.size) _ rfl (ho1.alloc _) _ _ rfl (rd_built (xs := [.slice A1 x.l.length d1]) (by rfl) rfl) (by rfl) (by omega) (by omega) (by first | (simp; done) | (simp; omega) | omega) ?_); intro A4 c4 w4 hown4 hbel4 hgr4 hat4))
       exact ⟨⟨k + 1, rs' ++ [⟨x.l, A1, d1⟩], A4, c4, by omega, by rw [List.length_append, hk2]; rfl, by go_num, rfl, hr.next b1 o1 (by rw [hk2]) hown4 hbel4 hgr4 hat4, HN2.out _ _⟩, by simp [intOf]; omega⟩
      ·rw [if_neg (fun h => a4 h.2)] at hx
       subst hx
       have hw : IntKind.i64.wrap ((k : Int) + by_) = (k : Int) + by_ := by rw [IntKind.wrap_i64]; omega
       have HCx : Hid (∀ w', Below X0.heap.size X0 w' → Calls Tryz.prog 85 #[.slice none 0 0] w' fun e w'' => ∃ A1 c1, e = .returned (.slice A1 ([] : List Gl).length c1) ∧ w''.ownsRow w'.heap.size 89 3 (.slice A1 ([] : List Gl).length c1) ([] : List Gl).length (encGs []) ∧ Below w'.heap.size w' w'') := HCx
       have HN2 : Hid (∀ (A1 : Option Addr) (d1 : Nat), rls (rs' ++ [⟨[], A1, d1⟩]) = (List.range (k + 1)).map (rollR (rls rs) top til by_)) := HN2
       obtain ⟨x, hx⟩ : ∃ x : RowM, x = nilR := ⟨_, rfl⟩
       have hxl : ([] : List Gl) = x.l := by rw [hx]; rfl
       rw [hxl] at HCx HN2
       clear hxl hx HP HA HC hA
       go_wp2_with (first
        | (go_at_call 85; refine (HCx.out _ hb).mono ?_; rintro e w1 ⟨A1, d1, rfl, o1, b1⟩; have hr1 := hr.below b1; have z1 := hr1.bel.size; have ho1 := hr1.out; rw [hk2] at ho1)
        | (at_builtin; go_must (refine app_list rfl _ _ _ rfl elt_row (X0.heap.size) _ rfl (ho1.alloc _) _ _ rfl (rd_built (xs := [.slice A1 x.l.length d1]) (by rfl) rfl) (by rfl) (by omega) (by omega) (by first | (simp; done) | (simp; omega) | omega) ?_); intro A4 c4 w4 hown4 hbel4 hgr4 hat4))
       exact ⟨⟨k + 1, rs' ++ [⟨x.l, A1, d1⟩], A4, c4, by omega, by rw [List.length_append, hk2]; rfl, by go_num, rfl, hr.next b1 o1 (by rw [hk2]) hown4 hbel4 hgr4 hat4, HN2.out _ _⟩, by simp [intOf]; omega⟩
     ·rw [if_neg (fun h => a3 h.1)] at hx
      subst hx
      have hw : IntKind.i64.wrap ((k : Int) + by_) = (k : Int) + by_ := by rw [IntKind.wrap_i64]; omega
      have HCx : Hid (∀ w', Below X0.heap.size X0 w' → Calls Tryz.prog 85 #[.slice none 0 0] w' fun e w'' => ∃ A1 c1, e = .returned (.slice A1 ([] : List Gl).length c1) ∧ w''.ownsRow w'.heap.size 89 3 (.slice A1 ([] : List Gl).length c1) ([] : List Gl).length (encGs []) ∧ Below w'.heap.size w' w'') := HCx
      have HN2 : Hid (∀ (A1 : Option Addr) (d1 : Nat), rls (rs' ++ [⟨[], A1, d1⟩]) = (List.range (k + 1)).map (rollR (rls rs) top til by_)) := HN2
      obtain ⟨x, hx⟩ : ∃ x : RowM, x = nilR := ⟨_, rfl⟩
      have hxl : ([] : List Gl) = x.l := by rw [hx]; rfl
      rw [hxl] at HCx HN2
      clear hxl hx HP HA HC hA
      go_wp2_with (first
       | (go_at_call 85; refine (HCx.out _ hb).mono ?_; rintro e w1 ⟨A1, d1, rfl, o1, b1⟩; have hr1 := hr.below b1; have z1 := hr1.bel.size; have ho1 := hr1.out; rw [hk2] at ho1)
       | (at_builtin; go_must (refine app_list rfl _ _ _ rfl elt_row (X0.heap.size) _ rfl (ho1.alloc _) _ _ rfl (rd_built (xs := [.slice A1 x.l.length d1]) (by rfl) rfl) (by rfl) (by omega) (by omega) (by first | (simp; done) | (simp; omega) | omega) ?_); intro A4 c4 w4 hown4 hbel4 hgr4 hat4))
      exact ⟨⟨k + 1, rs' ++ [⟨x.l, A1, d1⟩], A4, c4, by omega, by rw [List.length_append, hk2]; rfl, by go_num, rfl, hr.next b1 o1 (by rw [hk2]) hown4 hbel4 hgr4 hat4, HN2.out _ _⟩, by simp [intOf]; omega⟩
    ·rw [if_neg (fun h => a2 h.2)] at hx
     rw [List.getD_eq_getElem?_getD, List.getElem?_eq_getElem hkl, Option.getD_some] at hx
     rw [hx] at hc
     clear hx HP HA HC hA
     go_wp2_with (first
      | (go_at_call 85; refine (HCx.out _ hb).mono ?_; rintro e w1 ⟨A1, d1, rfl, o1, b1⟩; have hr1 := hr.below b1; have z1 := hr1.bel.size; have ho1 := hr1.out; rw [hk2] at ho1)
      | (at_builtin; go_must (refine app_list rfl _ _ _ rfl elt_row (X0.heap.size) _ rfl (ho1.alloc _) _ _ rfl (rd_built (xs := [.slice A1 x.l.length d1]) (by rfl) rfl) (by rfl) (by omega) (by omega) (by first | (simp; done) | (simp; omega) | omega) ?_); intro A4 c4 w4 hown4 hbel4 hgr4 hat4))
     exact ⟨⟨k + 1, rs' ++ [⟨x.l, A1, d1⟩], A4, c4, by omega, by rw [List.length_append, hk2]; rfl, by go_num, rfl, hr.next b1 o1 (by rw [hk2]) hown4 hbel4 hgr4 hat4, HN2.out _ _⟩, by simp [intOf]; omega⟩
   ·rw [if_neg (fun h => a1 h.1)] at hx
    rw [List.getD_eq_getElem?_getD, List.getElem?_eq_getElem hkl, Option.getD_some] at hx
    rw [hx] at hc
    clear hx HP HA HC hA
    go_wp2_with (first
     | (go_at_call 85; refine (HCx.out _ hb).mono ?_; rintro e w1 ⟨A1, d1, rfl, o1, b1⟩; have hr1 := hr.below b1; have z1 := hr1.bel.size; have ho1 := hr1.out; rw [hk2] at ho1)
     | (at_builtin; go_must (refine app_list rfl _ _ _ rfl elt_row (X0.heap.size) _ rfl (ho1.alloc _) _ _ rfl (rd_built (xs := [.slice A1 x.l.length d1]) (by rfl) rfl) (by rfl) (by omega) (by omega) (by first | (simp; done) | (simp; omega) | omega) ?_); intro A4 c4 w4 hown4 hbel4 hgr4 hat4))
    exact ⟨⟨k + 1, rs' ++ [⟨x.l, A1, d1⟩], A4, c4, by omega, by rw [List.length_append, hk2]; rfl, by go_num, rfl, hr.next b1 o1 (by rw [hk2]) hown4 hbel4 hgr4 hat4, HN2.out _ _⟩, by simp [intOf]; omega⟩
  ·obtain rfl : k = n := by omega
   go_wp2
   go_ret2
   exact ⟨A', c', rs', rfl, hk2, hr, hrr⟩
theorem ED.swap {base G c c' : Nat} {v : Vw} {rs rs' : List RowM} {A A' : Option Addr} {X X' : World} (h : ED base G v rs A c X) (hb : base ≤ X.heap.size) (hr : RB X A' c' rs' X') :
  ED base G ⟨v.width, v.height, rls rs', v.row, v.col, v.vis⟩ rs' A' c' (X'.setCell ⟨G, 2, none⟩ (.slice A' rs'.length c')) := by
 have hG := h.blk.lt
 have hne : ∀ {A : Option Addr} {n c : Nat}, (∀ k, obS A = some k → X.heap.size ≤ k) → (Value.slice A n c).ownBlock ≠ some G := fun hA e => by
  rw [ob_slice] at e
  have := hA _ e
  omega
 refine ⟨(h.blk.below hr.bel hG).set_ 2 _, ownsRow_setCell_other (a := ⟨G, 2, none⟩) (own_less hr.out hb) (hne fun k hk => (own_ob hr.out k hk).1) _, fun x hx => ownsRow_setCell_other (a := ⟨G, 2, none⟩) (own_less (hr.gl x hx) hb) (hne fun k hk => (own_ob (hr.gl x hx) k hk).1) _, rfl, h.lo, ?_⟩
 refine List.pairwise_cons.2 ⟨fun y hy => Dj.fresh (N := X.heap.size) (fun k hk => by injection hk with hk; omega) ?_, hr.dj⟩
 rcases List.mem_cons.1 hy with rfl | hy
 ·exact fun k hk => (own_ob hr.out k hk).1
 ·obtain ⟨x, hx, rfl⟩ := List.mem_map.1 hy
  exact fun k hk => (own_ob (hr.gl x hx) k hk).1
theorem ED.setg {base G c : Nat} {v v' : Vw} {rs : List RowM} {A : Option Addr} {X : World} (h : ED base G v rs A c X) {i : Nat} {u : Value} (hv : (vwC v A rs.length c).setIfInBounds i u = vwC v' A rs.length c) (hr : v'.rows = v.rows) : ED base G v' rs A c (X.setCell ⟨G, i, none⟩ u) := by
 obtain ⟨hd1, -⟩ := List.pairwise_cons.1 h.dj
 have hne : ∀ {B : Option Addr} {n c : Nat}, obS B ∈ (obS A :: rs.map fun x => obS x.A) → (Value.slice B n c).ownBlock ≠ some G := fun hm e => by
  rw [ob_slice] at e
  exact hd1 _ hm G rfl e
 exact ⟨by have := h.blk.set_ i u; rw [hv] at this; exact this, ownsRow_setCell_other (a := ⟨G, i, none⟩) h.rows (hne (by simp)) _, fun x hx => ownsRow_setCell_other (a := ⟨G, i, none⟩) (h.gl x hx) (hne (List.mem_cons_of_mem _ (List.mem_map_of_mem (f := fun x => obS x.A) hx))) _, hr.trans h.eq, h.lo, h.dj⟩
def EdR (base G : Nat) (v : Vw) (X : World) (e : Ending) (w' : World) : Prop := e = .returned (.tuple #[]) ∧ (∃ rs A c, ED base G v rs A c w') ∧ Below base X w'
set_option maxHeartbeats 4000000 in
theorem cscroll_ {base G : Nat} {v : Vw} {rs : List RowM} {A : Option Addr} {cA : Nat} {X0 : World} (h : ED base G v rs A cA X0) (hbase : base ≤ X0.heap.size) (hlen : (rs.length : Int) = v.height) (hh : v.height ≤ 1000) (hrl : ∀ x ∈ rs, x.l.length ≤ 1000000000)
  (c : Chg) (Ag : Option Addr) (cap : Nat) (hk : c.kind = 2) (hr : rangeC v c = true) : Calls Tryz.prog 91 #[.pointer (some ⟨G, 0, none⟩), chgV c Ag cap] X0 (EdR base G (stepV v c) X0) := by
 obtain ⟨W, Hh, rows, vr, vc, vis⟩ := v
 obtain ⟨kind, row, col, count, til, g⟩ := c
 dsimp only at hlen hh hk
 subst hk
 rw [range_two] at hr
 dsimp only at hr
 obtain ⟨r1, r2, r3, r4, r5, r6⟩ := of_decide_eq_true hr
 have hE : Hid (rows = rls rs) := Lib.hid h.eq
 have hS : Hid (∀ rs' : List RowM, rls rs' = (List.range rs.length).map (rollR (rls rs) row til count) → stepV ⟨W, Hh, rows, vr, vc, vis⟩ ⟨2, row, col, count, til, g⟩ = ⟨W, Hh, rls rs', vr, vc, vis⟩) := Lib.hid fun rs' h => by
  rw [h, hE.out]
  unfold stepV
  rw [if_neg (show ¬ (2 : Int) = 1 by decide), if_pos (show (2 : Int) = 2 from rfl), rls_len]
 have hED := Lib.hid h
 have HR : Hid (∀ w', Below X0.heap.size X0 w' → Calls Tryz.prog 112 #[.slice A rs.length cA, .int .i64 row, .int .i64 til, .int .i64 count] w' fun e w'' => ∃ A' c' rs', e = .returned (.tuple #[.slice A' rs.length c', .int .i64 0]) ∧ rs'.length = rs.length ∧ RB w' A' c' rs' w'' ∧ rls rs' = (List.range rs.length).map (rollR (rls rs) row til count)) := Lib.hid fun w' hb =>
  crows_ rs A rs.length cA w'.heap.size row til count w' ⟨Rd.of_own (own_below h.rows hb), fun x hx => own_rdG (own_below (h.gl x hx) hb)⟩ (Nat.le_refl _) (by omega) hrl r1 r2 (by omega) r4 r5 r6
 clear hr hE r4
 go_enter Tryz.func91, Tryz.ntmps91
 go_upto_region 1 with fail
 refine wp_fg (ChgBox X0 ⟨2, row, col, count, til, g⟩ Ag cap) (ChgBox.new X0 ⟨2, row, col, count, til, g⟩ Ag cap _) ?_
 rintro X ⟨c0, c1, c2, c3, c4, c5, hb, hzX⟩
 dsimp only at c0 c1 c2 c3 c4 c5
 have hGX : G < X.heap.size := Nat.lt_of_lt_of_le h.blk.lt hb.size
 obtain ⟨e0, e1, e2, e3, e4, e5⟩ := vw_cells (h.blk.below hb h.blk.lt)
 have HCE : Hid (∀ w', Below X.heap.size X w' → w'.cell? ⟨G, 2, none⟩ = some (.slice A rs.length cA) ∧ w'.cell? ⟨X0.heap.size, 1, none⟩ = some (.int .i64 row) ∧ w'.cell? ⟨X0.heap.size, 4, none⟩ = some (.int .i64 til) ∧ w'.cell? ⟨X0.heap.size, 3, none⟩ = some (.int .i64 count)) := Lib.hid fun w' hw =>
  ⟨(hw.cell (p := ⟨G, 2, none⟩) hGX).trans e2, (hw.cell (p := ⟨X0.heap.size, 1, none⟩) hzX).trans c1, (hw.cell (p := ⟨X0.heap.size, 4, none⟩) hzX).trans c4, (hw.cell (p := ⟨X0.heap.size, 3, none⟩) hzX).trans c3⟩
 clear c0 c2 c5 e0 e1 e3 e4 e5 h
 go_region_held3 (fun w' => w'.cell? ⟨G, 2, none⟩ = some (.slice A rs.length cA) ∧ w'.cell? ⟨X0.heap.size, 1, none⟩ = some (.int .i64 row) ∧ w'.cell? ⟨X0.heap.size, 4, none⟩ = some (.int .i64 til) ∧ w'.cell? ⟨X0.heap.size, 3, none⟩ = some (.int .i64 count)) (first | (refine HCE.out _ ?_; assumption) | go_keep) (first
  | (go_at_call 112; refine (HR.out _ hb.drew).mono ?_; rintro e w1 ⟨A1, d1, rs1, rfl, hl1, hr1, hm1⟩; have hb1 : Below X.heap.size X w1 := below_of_drew (B := X.heap.size) hr1.bel))
 have hf1 := (hb1.frozen (p := ⟨G, 2, none⟩) hGX).trans ((hED.out.below hb).blk.frozen 2)
 have he1 := (HCE.out _ hb1).1
 go_wp2
 go_end0
 rw [hS.out rs1 hm1]
 refine ⟨rfl, ⟨rs1, A1, d1, ?_⟩, (((hb.mono hbase).trans (hb1.mono (by have := hb.size; omega))).setCell (p := ⟨G, 2, none⟩) hED.out.lo _)⟩
 have := (hED.out.below hb).drew.swap (X' := w1) (Nat.le_trans hbase hb.size) hr1
 rw [hl1] at this
 exact this
set_option maxHeartbeats 4000000 in
theorem ccursor_ {base G : Nat} {v : Vw} {rs : List RowM} {A : Option Addr} {cA : Nat} {X0 : World} (h : ED base G v rs A cA X0) (hbase : base ≤ X0.heap.size) (c : Chg) (Ag : Option Addr) (cap : Nat) (hk : c.kind = 4) :
  Calls Tryz.prog 93 #[.pointer (some ⟨G, 0, none⟩), chgV c Ag cap] X0 (EdR base G (stepV v c) X0) := by
 obtain ⟨W, Hh, rows, vr, vc, vis⟩ := v
 obtain ⟨kind, row, col, count, til, g⟩ := c
 dsimp only at hk
 subst hk
 have hS : stepV ⟨W, Hh, rows, vr, vc, vis⟩ ⟨4, row, col, count, til, g⟩ = ⟨W, Hh, rows, row, col, decide (count = 1)⟩ := rfl
 rw [hS]
 have hED := Lib.hid h
 clear hS
 go_enter Tryz.func93, Tryz.ntmps93
 go_upto_region 1 with fail
 refine wp_fg (ChgBox X0 ⟨4, row, col, count, til, g⟩ Ag cap) (ChgBox.new X0 ⟨4, row, col, count, til, g⟩ Ag cap _) ?_
 rintro X ⟨c0, c1, c2, c3, c4, c5, hb, hzX⟩
 dsimp only at c0 c1 c2 c3 c4 c5
 have hGl := h.blk.lt
 have hB := h.blk.below hb hGl
 obtain ⟨e0, e1, e2, e3, e4, e5⟩ := vw_cells hB
 have f3 := hB.frozen 3
 have f4 := hB.frozen 4
 have f5 := hB.frozen 5
 have hne : X0.heap.size ≠ G := by omega
 have hne2 : G ≠ X0.heap.size := by omega
 clear c0 c4 c5 h hB e0 e1 e2
 go_region_held3 (fun w' => w'.cell? ⟨X0.heap.size, 1, none⟩ = some (.int .i64 row) ∧ w'.cell? ⟨X0.heap.size, 2, none⟩ = some (.int .i64 col) ∧ w'.cell? ⟨X0.heap.size, 3, none⟩ = some (.int .i64 count)) (go_keep) (first | fail)
 go_wp2
 go_end0
 have hc1 : (count == 1) = decide (count = 1) := by rw [Bool.eq_iff_iff]; simp
 have h1 := ((hED.out.below hb).setg (v' := ⟨W, Hh, rows, row, vc, vis⟩) (i := 3) (u := .int .i64 row) rfl rfl).setg (v' := ⟨W, Hh, rows, row, col, vis⟩) (i := 4) (u := .int .i64 col) rfl rfl
 have h2 := h1.setg (v' := ⟨W, Hh, rows, row, col, decide (count = 1)⟩) (i := 5) (u := .bool (decide (count = 1))) rfl rfl
 rw [← hc1] at h2
 refine ⟨rfl, ⟨rs, A, cA, by rw [← hc1]; exact h2.drew⟩, ?_⟩
 exact ((((hb.mono hbase).setCell (p := ⟨G, 3, none⟩) hED.out.lo _).setCell (p := ⟨G, 4, none⟩) hED.out.lo _).setCell (p := ⟨G, 5, none⟩) hED.out.lo _).drew
theorem grow_nilG (n : Nat) (hn : n ≤ 1000000000) (w : World) : Calls Tryz.prog 135 #[.slice none 0 0, .int .i64 n] w fun e w' => ∃ A c, e = .returned (.slice A 0 c) ∧ w'.ownsRow w.heap.size 89 3 (.slice A 0 c) 0 [] ∧ Below w.heap.size w w' := by
 rcases Nat.eq_zero_or_pos n with h0 | h0
 ·subst h0
  refine (Any8.slices_Grow_room Tryz.laysGrowG none 0 0 0 w (by omega) (by omega) (by omega) (by omega)).mono ?_
  rintro e w' ⟨rfl, rfl⟩
  exact ⟨none, 0, rfl, own_nil _ _ _ _, Below.refl _ _⟩
 ·have h : (Tryz.prog.info? 89).map (fun i => (i.zero, i.size, i.bytes)) = some (some (.agg #[.string ⟨#[]⟩, .bool false, .int .i64 0]), 3, 32) := by kernel_rfl
  obtain ⟨i, hi, hz, hs, hb⟩ := info_parts h
  refine (Any8.slices_Grow_grow Tryz.laysGrowG i (.agg #[.string ⟨#[]⟩, .bool false, .int .i64 0]) hi hz (by omega) none 0 0 n [] w (by omega) (by omega) (by rw [hb]; omega) (by omega) (by simp) (fun _ => rfl) (fun a h => by cases h)).mono ?_
  rintro e w' ⟨rfl, rfl⟩
  have hge := grownCap_ge w (0 + n) 0 89
  refine ⟨_, _, rfl, ⟨rfl, .inr ⟨w.heap.size, grownCap w (0 + n) 0 89, _, rfl, Nat.le_refl _, heap_alloc_new w.drew _, Nat.zero_le _, grownCap_le_maxLen _ _ _ _ (by unfold maxLen; omega), ?_, by simp⟩⟩, below_of_drew ((Below.refl w.heap.size w.drew).alloc (Nat.le_refl _) _)⟩
  rw [Array.size_append, Array.size_append, size_zeroCells, size_zeroCells]
  have e1 : (Value.agg #[.string ⟨#[]⟩, .bool false, .int .i64 0]).cells.size = 3 := rfl
  have e2 : Tryz.laysGrowG_ren.t 25 = 89 := rfl
  rw [e1]
  simp only [List.size_toArray, List.length_nil, e2]
  omega
def catG (L : List RowM) : List Gl := (rls L).flatten
theorem catG_take {L : List RowM} {k : Nat} (h : k < L.length) : catG (L.take (k + 1)) = catG (L.take k) ++ L[k].l := by
 unfold catG rls
 rw [(List.take_append_getElem h).symm, List.map_append, List.flatten_append]
 simp
theorem catG_le (L : List RowM) (k : Nat) : (catG (L.take k)).length ≤ (catG L).length := by
 have e : catG L = catG (L.take k) ++ catG (L.drop k) := by
  unfold catG rls
  rw [← List.flatten_append, ← List.map_append, List.take_append_drop]
 rw [e, List.length_append]
 omega
set_option maxHeartbeats 4000000 in
theorem concat_gl (L : List RowM) (A : Option Addr) (n c B : Nat) (w : World) (hn : L.length = n) (hn2 : n ≤ 1000) (hB : B ≤ w.heap.size) (htot : (catG L).length ≤ 1000000000)
  (rd : Rd w B 1 A n (encRs L)) (hr : ∀ x ∈ L, Rd w B 3 x.A x.l.length (encGs x.l)) :
  Calls Tryz.prog 113 #[.slice A n c] w (GivesOwn 89 3 id w (catG L).length (encGs (catG L))) := by
 have HN := Lib.hid hn
 have HT : Hid (∀ k (h : k < L.length), catG (L.take (k + 1)) = catG (L.take k) ++ L[k].l) := Lib.hid fun k h => catG_take h
 have HLe := Lib.hid (catG_le L)
 have HC : Hid (∀ k (h : k < L.length), (encRs L)[k]? = some (.slice L[k].A L[k].l.length L[k].cap)) := Lib.hid fun k h => encRs_get h
 have HR : Hid (∀ k (h : k < L.length), Rd w B 3 L[k].A L[k].l.length (encGs L[k].l)) := Lib.hid fun k h => hr _ (List.getElem_mem h)
 have HG := Lib.hid grow_nilG
 have HA : Hid (L.take n = L) := Lib.hid (List.take_of_length_le (by omega))
 clear hn hr
 go_enter Tryz.func113, Tryz.ntmps113
 go_wp2
 go_loopw [3, 11] (fun v x wr => ∃ k : Nat, k ≤ n ∧ x = .int .i64 k ∧ v = .int .i64 ((catG (L.take k)).length : Nat) ∧ w = wr) (fun _ x _ => n - (intOf x).toNat)
 case atStart => exact ⟨0, Nat.zero_le _, rfl, rfl, rfl⟩
 case round =>
  obtain ⟨k, hk, rfl, rfl, rfl⟩ := hrel
  by_cases hlt : k < n
  ·have hkl : k < L.length := by have := HN.out; omega
   obtain ⟨b, o, rfl, hbB, hc⟩ := rd.at_ hlt
   rw [HC.out k hkl] at hc
   have hl1 := HLe.out k
   have hl2 := HLe.out (k + 1)
   have hT := HT.out k hkl
   have hTl : (catG (L.take (k + 1))).length = (catG (L.take k)).length + L[k].l.length := by rw [hT, List.length_append]
   generalize hm2 : (catG (L.take (k + 1))).length = m2 at *
   replace hm2 := Lib.hid hm2
   generalize (catG (L.take k)).length = m1 at *
   generalize L[k].l.length = q at *
   generalize L[k].A = aa at *
   generalize L[k].cap = cc at *
   clear hT
   go_wp2
   exact ⟨⟨k + 1, by omega, by go_num, by rw [hm2.out, hTl]; go_num, by trivial⟩, by simp [intOf]; omega⟩
  ·obtain rfl : k = n := by omega
   have hA := HA.out
   rw [hA]
   clear hA
   generalize hm : (catG L).length = m at *
   replace hm := Lib.hid hm
   go_wp2_with (go_at_call 135; refine (HG.out m htot _).mono ?_; rintro e w1 ⟨A1, c1, rfl, hown1, hbel1⟩)
   go_loopw [6, 27] (fun v x wr => ∃ (A' : Option Addr) (c' j : Nat), j ≤ k ∧ x = .int .i64 j ∧ v = .slice A' (catG (L.take j)).length c' ∧ wr.ownsRow w.heap.size 89 3 (.slice A' (catG (L.take j)).length c') (catG (L.take j)).length (encGs (catG (L.take j))) ∧ Below w.heap.size w wr) (fun _ x _ => k - (intOf x).toNat)
   case atStart => exact ⟨A1, c1, 0, Nat.zero_le _, rfl, rfl, hown1, hbel1⟩
   case round =>
    obtain ⟨A', c', j, hj, rfl, rfl, hown, hbel⟩ := hrel
    by_cases hlt : j < k
    ·have hkl : j < L.length := by have := HN.out; omega
     obtain ⟨b, o, rfl, hbB, hc⟩ := (rd.keep (w' := wr) fun p hp => hbel.cell (by omega)).at_ hlt
     rw [HC.out j hkl] at hc
     have hr := Lib.hid ((HR.out j hkl).keep (w' := wr) fun p hp => hbel.cell (by omega))
     have hl1 := HLe.out j
     have hl2 := HLe.out (j + 1)
     have hT := HT.out j hkl
     have hTl : (catG (L.take (j + 1))).length = (catG (L.take j)).length + L[j].l.length := by rw [hT, List.length_append]
     replace hT := Lib.hid hT
     replace hTl := Lib.hid hTl
     have hl3 : (catG (L.take j)).length + L[j].l.length ≤ m := by rw [← hTl.out]; exact hl2
     generalize hM1 : catG (L.take j) = M1 at *
     generalize hl : L[j].l = l at *
     generalize L[j].A = aa at *
     generalize L[j].cap = cc at *
     clear hl hM1 hl2
     have zb := hbel.size
     go_wp2_with (at_builtin; go_must (refine app_list rfl _ _ _ rfl elt_gl (w.heap.size) _ rfl (hown) _ _ rfl (hr.out) (by first | rfl | exact encGs_cells _) (by omega) (by omega) (by first | (simp; done) | (simp; omega) | omega) ?_); intro A4 c4 w4 hown4 hbel4 hgr4 hat4; have z4 := hbel4.size; (try simp only [World.size_alloc] at z4); (try simp only [Nat.zero_add, List.nil_append] at hown4))
     exact ⟨⟨A4, c4, j + 1, by omega, by go_num, by rw [hTl.out], by rw [hTl.out, hT.out, encGs_app]; exact hown4, hbel.trans hbel4⟩, by simp [intOf]; omega⟩
    ·obtain rfl : j = k := by omega
     have hA := HA.out
     rw [hA] at hown
     go_wp2
     go_ret
     have e1 : (catG (L.take j)).length = m := by rw [hA, hm.out]
     rw [hm.out] at hown
     exact ⟨A', c', by rw [e1]; rfl, hown, hbel⟩
end Go.Proofs.YtholajadbbdcmaaGreatDoor
