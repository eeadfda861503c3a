/- Joined texts: Lv7, Lv8, Lv9, Lva. -/
import Derived.OneCell
import Derived.Test.YtholajadbbdcmaaGreatDoorQAA
import Derived.Test.YtholajadbbdcmaaGreatDoorQAB
import Derived.Test.YtholajadbbdcmaaGreatDoorQAC
import Derived.Test.YtholajadbbdcmaaGreatDoorQAD
import Derived.Test.YtholajadbbdcmaaGreatDoorQAE
import Derived.Test.YtholajadbbdcmaaGreatDoorQAG
import Derived.Test.YtholajadbbdcmaaGreatDoorQAH
import Derived.Test.YtholajadbbdcmaaGreatDoorQAI
import Derived.Test.YtholajadbbdcmaaGreatDoorQAL
import Derived.Test.YtholajadbbdcmaaGreatDoorQAM
import Derived.Test.YtholajadbbdcmaaGreatDoorQAN
import Derived.Test.YtholajadbbdcmaaGreatDoorQAQ
import Derived.Test.YtholajadbbdcmaaGreatDoorQAS
import Derived.Test.YtholajadbbdcmaaGreatDoorQAT
import Derived.Test.YtholajadbbdcmaaGreatDoorQBB
import Derived.Test.YtholajadbbdcmaaGreatDoorQBC
import Derived.Test.YtholajadbbdcmaaGreatDoorQBF
import Derived.Test.YtholajadbbdcmaaGreatDoorQBG
import Derived.Test.YtholajadbbdcmaaGreatDoorQBU
import Derived.Test.YtholajadbbdcmaaGreatDoorQBV
set_option linter.unusedVariables false
set_option linter.unusedSimpArgs false
set_option linter.unnecessarySimpa false
namespace Go.Proofs.YtholajadbbdcmaaGreatDoor
open Go.RowKit
set_option maxRecDepth 20000
def obS (A : Option Addr) : Option Nat := A.map Addr.block
theorem ob_slice (A : Option Addr) (n c : Nat) : (Value.slice A n c).ownBlock = obS A := by cases A <;> rfl
def obR (g : Nat) (A : Option Addr) (rs : List RowM) : List (Option Nat) := some g :: obS A :: rs.map fun x => obS x.A
structure ED (base g : Nat) (v : Vw) (rs : List RowM) (A : Option Addr) (c : Nat) (X : World) : Prop where
 blk : Blk X g 106 (vwC v A rs.length c)
 rows : X.ownsRow base 51 1 (.slice A rs.length c) rs.length (encRs rs)
 gl : ∀ x ∈ rs, X.ownsRow base 89 3 (.slice x.A x.l.length x.cap) x.l.length (encGs x.l)
 eq : v.rows = rls rs
 lo : base ≤ g
 dj : (obR g A rs).Pairwise Dj
theorem vw_cells {X : World} {g n c : Nat} {t : TypeId} {v : Vw} {A : Option Addr} (h : Blk X g t (vwC v A n c)) : X.cell? ⟨g, 0, none⟩ = some (.int .i64 v.width) ∧ X.cell? ⟨g, 1, none⟩ = some (.int .i64 v.height) ∧ X.cell? ⟨g, 2, none⟩ = some (.slice A n c) ∧ X.cell? ⟨g, 3, none⟩ = some (.int .i64 v.row) ∧ X.cell? ⟨g, 4, none⟩ = some (.int .i64 v.col) ∧ X.cell? ⟨g, 5, none⟩ = some (.bool v.vis) :=
 ⟨h.cell 0, h.cell 1, h.cell 2, h.cell 3, h.cell 4, h.cell 5⟩
section
variable {base g : Nat} {v : Vw} {rs : List RowM} {A : Option Addr} {c : Nat} {X X' : World}
theorem ED.below (h : ED base g v rs A c X) (hb : Below X.heap.size X X') : ED base g v rs A c X' :=
 ⟨h.blk.below hb h.blk.lt, own_below h.rows hb, fun x hx => own_below (h.gl x hx) hb, h.eq, h.lo, h.dj⟩
theorem ED.drew (h : ED base g v rs A c X) : ED base g v rs A c X.drew := h.below (Below.refl _ _).drew
end
theorem own_caps7 {w : World} {base size n c : Nat} {e : TypeId} {A : Option Addr} {xs : List Value} (h : w.ownsRow base e size (.slice A n c) n xs) : n ≤ c ∧ c ≤ maxLen := by
 rcases h.2 with ⟨h1, h2⟩ | ⟨g, cap, cur, h1, _, _, h3, h4, _⟩
 ·injection h1 with _ _ h1
  subst h1 h2
  exact ⟨Nat.le_refl _, by unfold maxLen; omega⟩
 ·injection h1 with _ _ h1
  subst h1
  exact ⟨h3, h4⟩
theorem own_rdG {w : World} {base c : Nat} {A : Option Addr} {l : List Gl} (h : w.ownsRow base 89 3 (.slice A l.length c) l.length (encGs l)) : RdG w w.heap.size ⟨l, A, c⟩ :=
 ⟨Rd.of_own h, (own_caps7 h).1, (own_caps7 h).2⟩
theorem own_ob {w : World} {base size n c : Nat} {e : TypeId} {A : Option Addr} {xs : List Value} (h : w.ownsRow base e size (.slice A n c) n xs) : ∀ k, obS A = some k → base ≤ k ∧ k < w.heap.size := fun k hk => h.lt k (by rw [ob_slice]; exact hk)
theorem Dj.fresh {a b : Option Nat} {N : Nat} (ha : ∀ k, a = some k → k < N) (hb : ∀ k, b = some k → N ≤ k) : Dj a b := fun k h1 h2 => by
 have := ha k h1
 have := hb k h2
 omega
theorem pw_snoc {l : List (Option Nat)} {x : Option Nat} (h : l.Pairwise Dj) (hx : ∀ y ∈ l, Dj y x) : (l ++ [x]).Pairwise Dj := by
 rw [List.pairwise_append]
 exact ⟨h, List.pairwise_singleton _ _, fun a ha b hb => by rw [List.mem_singleton.1 hb]; exact hx a ha⟩
theorem encRs_app (a b : List RowM) : encRs (a ++ b) = encRs a ++ encRs b := by simp [encRs]
theorem encRs_set (rs : List RowM) (k : Nat) (x : RowM) : encRs (rs.set k x) = (encRs rs).set k (.slice x.A x.l.length x.cap) := by
 unfold encRs
 rw [List.map_set]
theorem rls_set (rs : List RowM) (k : Nat) (x : RowM) : rls (rs.set k x) = (rls rs).set k x.l := by
 unfold rls
 rw [List.map_set]
def OpI (w : World) (v : Vw) (rs : List RowM) (G n c1 k : Nat) (X : World) : Prop :=
 ∃ cl : List RowM, cl.length = k ∧ Blk X w.heap.size 24 (vwC v (some ⟨G, 0, none⟩) n c1) ∧ X.ownsRow w.heap.size 51 1 (.slice (some ⟨G, 0, none⟩) n c1) n (encRs (cl ++ rs.drop k)) ∧
  (∀ x ∈ cl, X.ownsRow w.heap.size 89 3 (.slice x.A x.l.length x.cap) x.l.length (encGs x.l)) ∧ rls cl = (rls rs).take k ∧ (some w.heap.size :: some G :: cl.map fun x => obS x.A).Pairwise Dj ∧ Below w.heap.size w X
theorem OpI.drew {w X : World} {v : Vw} {rs : List RowM} {G n c1 k : Nat} (h : OpI w v rs G n c1 k X) : OpI w v rs G n c1 k X.drew := by
 obtain ⟨cl, h1, h2, h3, h4, h5, h6, h7⟩ := h
 exact ⟨cl, h1, h2, h3, h4, h5, h6, h7.drew⟩
theorem OpI.next {w X w2 : World} {v : Vw} {rs : List RowM} {G n c1 k : Nat} {A2 : Option Addr} {c2 : Nat} (h : OpI w v rs G n c1 k X) (hkl : k < rs.length) (hb : Below X.heap.size X w2) (o2 : w2.ownsRow X.heap.size 89 3 (.slice A2 rs[k].l.length c2) rs[k].l.length (encGs rs[k].l)) :
  OpI w v rs G n c1 (k + 1) (w2.setCell ⟨G, k, none⟩ (.slice A2 rs[k].l.length c2)) := by
 obtain ⟨cl, hcl, hB, ho, hg, hr, hd, hbw⟩ := h
 have hGlt := (ho.lt G rfl).2
 have hGlo := (ho.lt G rfl).1
 obtain ⟨hd1, hd2⟩ := List.pairwise_cons.1 hd
 obtain ⟨hd3, hd4⟩ := List.pairwise_cons.1 hd2
 have hne : w.heap.size ≠ G := fun e => hd1 (some G) (by simp) _ rfl (by rw [e])
 have hz := hbw.size
 have hfr : ∀ k, obS A2 = some k → X.heap.size ≤ k := fun k hk => (own_ob o2 k hk).1
 have hdl : ∀ y ∈ some w.heap.size :: some G :: cl.map fun x => obS x.A, Dj y (obS A2) := fun y hy => by
  refine Dj.fresh (N := X.heap.size) (fun j hj => ?_) hfr
  subst hj
  rcases List.mem_cons.1 hy with hy | hy
  ·injection hy with hy; have := hB.lt; omega
  ·rcases List.mem_cons.1 hy with hy | hy
   ·injection hy with hy; omega
   ·obtain ⟨x, hx, e⟩ := List.mem_map.1 hy
    exact (own_ob (hg x hx) j e).2
 refine ⟨cl ++ [⟨rs[k].l, A2, c2⟩], by rw [List.length_append, hcl]; rfl, (hB.below hb hB.lt).far (p := ⟨G, k, none⟩) hne _, ?_, fun x hx => ?_, ?_, ?_, ((hbw.trans (hb.mono hz)).setCell (p := ⟨G, k, none⟩) hGlo _)⟩
 ·have h2 := ((own_below ho hb).stored k (.slice A2 rs[k].l.length c2)).1
  rw [show encRs ((cl ++ [⟨rs[k].l, A2, c2⟩]) ++ rs.drop (k + 1)) = (encRs (cl ++ rs.drop k)).set k (.slice A2 rs[k].l.length c2) from ?_]
  ·exact h2
  ·rw [← encRs_set _ _ ⟨rs[k].l, A2, c2⟩, List.set_append_right _ _ (by omega), hcl, Nat.sub_self, List.drop_eq_getElem_cons hkl, List.set_cons_zero, List.append_assoc, List.singleton_append]
 ·rcases List.mem_append.1 hx with hx | hx
  ·refine ownsRow_setCell_other (own_below (hg x hx) hb) (fun e => ?_) _
   rw [ob_slice] at e
   exact hd3 _ (List.mem_map_of_mem (f := fun x => obS x.A) hx) G rfl e
  ·obtain rfl := List.mem_singleton.1 hx
   exact ownsRow_setCell_other (own_less o2 (by omega)) (fun e => by
    rw [ob_slice] at e
    have := hfr _ e
    simp only at this
    omega) _
 ·unfold rls at hr ⊢
  rw [List.map_append, hr, List.map_cons, List.map_nil, List.take_succ_eq_append_getElem (by rw [List.length_map]; exact hkl), List.getElem_map]
 ·have := pw_snoc hd hdl
  simpa using this
set_option maxHeartbeats 4000000 in
theorem open_ (v : Vw) (A : Option Addr) (n c B : Nat) (rs : List RowM) (w : World) (rd : RdV w B v A n c rs) (hB : B ≤ w.heap.size) (h0 : 0 < n) (hn : n ≤ 1000) (hz : ∀ x ∈ rs, x.l.length ≤ 1000000000) :
  Calls Tryz.prog 53 #[.agg (vwC v A n c)] w fun e w' => ∃ g rs' A' c', e = .returned (.pointer (some ⟨g, 0, none⟩)) ∧ ED w.heap.size g v rs' A' c' w' ∧ Below w.heap.size w w' := by
 have HN := Lib.hid rd.1.len
 have HRL : Hid (v.rows = rls rs) := Lib.hid rd.2.1
 have HC : Hid (∀ w', Below w.heap.size w w' → Calls Tryz.prog 84 #[.slice A n c] w' (GivesOwn 51 1 id w' n (encRs rs))) := Lib.hid fun w' hb => clone_rs rs A n c w.heap.size w' (by omega) ((rd.1.rd.more hB).below hb) hb.size
 have HG : Hid (∀ x ∈ rs, ∀ w', Below w.heap.size w w' → Calls Tryz.prog 85 #[.slice x.A x.l.length x.cap] w' (GivesOwn 89 3 id w' x.l.length (encGs x.l))) := Lib.hid fun x hx w' hb => clone_gl x.l x.A _ x.cap w.heap.size w' (hz x hx) (((rd.1.gl x hx).1.more hB).below hb) hb.size
 clear rd hz
 go_enter Tryz.func53, Tryz.ntmps53
 go_upto_region 1 with fail
 refine wp_fg (VwBox w v A n c) (VwBox.new w v A n c) ?_
 intro X hX
 obtain ⟨c0, c1, c2, c3, c4, c5⟩ := hX.cells
 have hb := hX.2
 have hzX := hX.lt
 have hfz := hX.1.frozen 2
 go_upto_region 2 with (go_at_call 84; refine (HC.out _ hb).mono ?_; rintro e w1 ⟨A1, d1, rfl, o1, b1⟩; have hfz1 := (b1.frozen (p := ⟨w.heap.size, 2, none⟩) hzX).trans hfz; have hc1 := (b1.cell (p := ⟨w.heap.size, 2, none⟩) hzX).trans c2)
 obtain ⟨G, cap, hA, hG1, hG2⟩ := o1.form h0
 obtain ⟨rfl, rfl⟩ : A1 = some ⟨G, 0, none⟩ ∧ d1 = cap := by injection hA with h1 _ h2; exact ⟨h1, h2⟩
 have hI : OpI w v rs G n d1 0 (w1.setCell ⟨w.heap.size, 2, none⟩ (.slice (some ⟨G, 0, none⟩) n d1)) :=
  ⟨[], rfl, (hX.1.below b1 hX.1.lt).set_ 2 _, own_less (own_set o1 (p := ⟨w.heap.size, 2, none⟩) hzX _) (by omega), fun x hx => (by cases hx), rfl, by
   refine List.pairwise_cons.2 ⟨fun y hy => ?_, List.pairwise_singleton _ _⟩
   rw [List.mem_singleton.1 hy]
   intro k h1 h2
   injection h1 with h1
   injection h2 with h2
   omega, (hb.trans (b1.mono (by omega))).setCell (Nat.le_refl _) _⟩
 clear o1 hX hb hfz c0 c1 c2 c3 c4 c5 hA hG2
 go_wp2
 clear hc1 hfz1
 go_loopw [12] (fun x wr => ∃ k : Nat, k ≤ n ∧ x = .int .i64 k ∧ OpI w v rs G n d1 k wr) (fun x _ => n - (intOf x).toNat)
 case atStart => exact ⟨0, Nat.zero_le _, rfl, hI⟩
 case round =>
  clear hI b1
  obtain ⟨k, hk, rfl, hI⟩ := hrel
  obtain ⟨cl, hcl, hB1, ho, hg, hr, hd, hb⟩ := id hI
  replace hI := Lib.hid hI
  have hzr := hb.size
  by_cases hlt : k < n
  ·have hkl : k < rs.length := by have := HN.out; omega
   have hx : rs[k] ∈ rs := List.getElem_mem hkl
   have HGk := Lib.hid (HG.out _ hx)
   have hcx := ho.cellAt k (by omega)
   have hfr := ho.frozenAt k
   have hex : (encRs (cl ++ rs.drop k))[k]? = some (.slice rs[k].A rs[k].l.length rs[k].cap) := by
    rw [encRs_get (by rw [List.length_append, List.length_drop]; omega)]
    simp [List.getElem_append_right (show cl.length ≤ k by omega), hcl]
   rw [hex] at hcx
   have HI : Hid (∀ X w2 A2 c2, OpI w v rs G n d1 k X → Below X.heap.size X w2 → w2.ownsRow X.heap.size 89 3 (.slice A2 rs[k].l.length c2) rs[k].l.length (encGs rs[k].l) → OpI w v rs G n d1 (k + 1) (w2.setCell ⟨G, k, none⟩ (.slice A2 rs[k].l.length c2))) := Lib.hid fun X w2 A2 c2 h1 h2 h3 => h1.next hkl h2 h3
   generalize rs[k] = x at *
   obtain ⟨l, Al, cx⟩ := x
   dsimp only at *
   clear hex hx
   have hc2 : wr.cell? ⟨w.heap.size, 2, none⟩ = some (.slice (some ⟨G, 0, none⟩) n d1) := hB1.cell 2
   have hGw := (ho.lt G rfl).2
   go_wp2
   go_region_law (go_simp; go_at_call 85; refine (HGk.out _ (by first | exact hb | exact hb.drew)).mono ?_; rintro e w2 ⟨A2, c2, rfl, o2, b2⟩; have hc3 := (b2.cell (p := ⟨w.heap.size, 2, none⟩) (Nat.lt_of_lt_of_le (Nat.lt_succ_self _) hB1.lt)).trans hc2; have hcx3 := (b2.cell (p := ⟨G, k, none⟩) hGw).trans hcx; have hfr3 := (b2.frozen (p := ⟨G, k, none⟩) hGw).trans hfr)
   all_goals go_wp2
   all_goals refine ⟨⟨k + 1, by omega, by go_num, ?_⟩, by simp [intOf]; omega⟩
   all_goals exact HI.out _ _ _ _ (by first | exact hI.out | exact hI.out.drew) b2 o2
  ·obtain rfl : k = n := by omega
   rw [List.drop_of_length_le (by have := HN.out; omega), List.append_nil] at ho
   have hrr : v.rows = rls cl := by rw [hr, HRL.out, List.take_of_length_le (by rw [rls_len]; have := HN.out; omega)]
   obtain ⟨c0, c1, c2, c3, c4, c5⟩ := vw_cells hB1
   go_wp2
   go_ret
   refine ⟨wr.heap.size, cl, some ⟨G, 0, none⟩, d1, rfl, ⟨?_, ?_, fun x hx => (hg x hx).alloc _, hrr, hzr, ?_⟩, hb.alloc hzr _⟩
   ·rw [hcl]
    exact Blk.new _ _ _
   ·rw [hcl]
    exact ho.alloc _
   ·obtain ⟨_, hd2⟩ := List.pairwise_cons.1 hd
    refine List.pairwise_cons.2 ⟨fun y hy => Dj.symm (Dj.fresh (N := wr.heap.size) (fun j hj => ?_) (fun j hj => by injection hj with hj; omega)), hd2⟩
    subst hj
    rcases List.mem_cons.1 hy with hy | hy
    ·injection hy with hy
     rw [hy]
     exact (ho.lt G rfl).2
    ·obtain ⟨x, hx, e⟩ := List.mem_map.1 hy
     exact (own_ob (hg x hx) j e).2
end Go.Proofs.YtholajadbbdcmaaGreatDoor
namespace Go.Proofs.YtholajadbbdcmaaGreatDoor
open Go.RowKit
set_option maxRecDepth 20000
set_option maxHeartbeats 4000000 in
theorem cblank_ (c : Chg) (A : Option Addr) (cap : Nat) (w : World) : Calls Tryz.prog 87 #[chgV c A cap] w (Gives (.bool (blankC c)) w) := by
 obtain ⟨kind, row, col, count, til, g⟩ := c
 by_cases k1 : kind = 1
 ·have d1 : (kind == 1) = true := beq_iff_eq.2 k1
  by_cases a1 : count = 0
  ·have e1 : (count == 0) = true := beq_iff_eq.2 a1
   by_cases a2 : til = 0
   ·have e2 : (til == 0) = true := beq_iff_eq.2 a2
    by_cases a3 : g = []
    ·have e3 : ((g.length : Int) == 0) = true := by simp [a3]
     have HE : Hid (blankC ⟨kind, row, col, count, til, g⟩ = true) := Lib.hid (by simp [blankC, *])
     clear k1 a1 a2 a3
     go_enter Tryz.func87, Tryz.ntmps87
     go_upto_region 1 with fail
     refine wp_fg (ChgBox w ⟨kind, row, col, count, til, g⟩ A cap) (ChgBox.new w ⟨kind, row, col, count, til, g⟩ A cap _) ?_
     rintro X ⟨c0, c1, c2, c3, c4, c5, hb, hzX⟩
     dsimp only at c0 c1 c2 c3 c4 c5
     go_wp2
     go_ret
     exact ⟨by rw [HE.out]; rfl, hb⟩
    ·have e3 : ((g.length : Int) == 0) = false := by simp [a3]
     have HE : Hid (blankC ⟨kind, row, col, count, til, g⟩ = false) := Lib.hid (by simp [blankC, *])
     clear k1 a1 a2 a3
     go_enter Tryz.func87, Tryz.ntmps87
     go_upto_region 1 with fail
     refine wp_fg (ChgBox w ⟨kind, row, col, count, til, g⟩ A cap) (ChgBox.new w ⟨kind, row, col, count, til, g⟩ A cap _) ?_
     rintro X ⟨c0, c1, c2, c3, c4, c5, hb, hzX⟩
     dsimp only at c0 c1 c2 c3 c4 c5
     go_wp2
     go_ret
     exact ⟨by rw [HE.out]; rfl, hb⟩
   ·have e2 : (til == 0) = false := beq_eq_false_iff_ne.2 a2
    have HE : Hid (blankC ⟨kind, row, col, count, til, g⟩ = false) := Lib.hid (by simp [blankC, *])
    clear k1 a1 a2
    go_enter Tryz.func87, Tryz.ntmps87
    go_upto_region 1 with fail
    refine wp_fg (ChgBox w ⟨kind, row, col, count, til, g⟩ A cap) (ChgBox.new w ⟨kind, row, col, count, til, g⟩ A cap _) ?_
    rintro X ⟨c0, c1, c2, c3, c4, c5, hb, hzX⟩
    dsimp only at c0 c1 c2 c3 c4 c5
    go_wp2
    go_ret
    exact ⟨by rw [HE.out]; rfl, hb⟩
  ·have e1 : (count == 0) = false := beq_eq_false_iff_ne.2 a1
   have HE : Hid (blankC ⟨kind, row, col, count, til, g⟩ = false) := Lib.hid (by simp [blankC, *])
   clear k1 a1
   go_enter Tryz.func87, Tryz.ntmps87
   go_upto_region 1 with fail
   refine wp_fg (ChgBox w ⟨kind, row, col, count, til, g⟩ A cap) (ChgBox.new w ⟨kind, row, col, count, til, g⟩ A cap _) ?_
   rintro X ⟨c0, c1, c2, c3, c4, c5, hb, hzX⟩
   dsimp only at c0 c1 c2 c3 c4 c5
   go_wp2
   go_ret
   exact ⟨by rw [HE.out]; rfl, hb⟩
 ·have d1 : (kind == 1) = false := beq_eq_false_iff_ne.2 k1
  by_cases k2 : kind = 2
  ·have d2 : (kind == 2) = true := beq_iff_eq.2 k2
   by_cases a1 : col = 0
   ·have e1 : (col == 0) = true := beq_iff_eq.2 a1
    by_cases a3 : g = []
    ·have e3 : ((g.length : Int) == 0) = true := by simp [a3]
     have HE : Hid (blankC ⟨kind, row, col, count, til, g⟩ = true) := Lib.hid (by simp [blankC, *])
     clear k1 k2 a1 a3
     go_enter Tryz.func87, Tryz.ntmps87
     go_upto_region 1 with fail
     refine wp_fg (ChgBox w ⟨kind, row, col, count, til, g⟩ A cap) (ChgBox.new w ⟨kind, row, col, count, til, g⟩ A cap _) ?_
     rintro X ⟨c0, c1, c2, c3, c4, c5, hb, hzX⟩
     dsimp only at c0 c1 c2 c3 c4 c5
     go_wp2
     go_ret
     exact ⟨by rw [HE.out]; rfl, hb⟩
    ·have e3 : ((g.length : Int) == 0) = false := by simp [a3]
     have HE : Hid (blankC ⟨kind, row, col, count, til, g⟩ = false) := Lib.hid (by simp [blankC, *])
     clear k1 k2 a1 a3
     go_enter Tryz.func87, Tryz.ntmps87
     go_upto_region 1 with fail
     refine wp_fg (ChgBox w ⟨kind, row, col, count, til, g⟩ A cap) (ChgBox.new w ⟨kind, row, col, count, til, g⟩ A cap _) ?_
     rintro X ⟨c0, c1, c2, c3, c4, c5, hb, hzX⟩
     dsimp only at c0 c1 c2 c3 c4 c5
     go_wp2
     go_ret
     exact ⟨by rw [HE.out]; rfl, hb⟩
   ·have e1 : (col == 0) = false := beq_eq_false_iff_ne.2 a1
    have HE : Hid (blankC ⟨kind, row, col, count, til, g⟩ = false) := Lib.hid (by simp [blankC, *])
    clear k1 k2 a1
    go_enter Tryz.func87, Tryz.ntmps87
    go_upto_region 1 with fail
    refine wp_fg (ChgBox w ⟨kind, row, col, count, til, g⟩ A cap) (ChgBox.new w ⟨kind, row, col, count, til, g⟩ A cap _) ?_
    rintro X ⟨c0, c1, c2, c3, c4, c5, hb, hzX⟩
    dsimp only at c0 c1 c2 c3 c4 c5
    go_wp2
    go_ret
    exact ⟨by rw [HE.out]; rfl, hb⟩
  ·have d2 : (kind == 2) = false := beq_eq_false_iff_ne.2 k2
   by_cases k3 : kind = 3
   ·have d3 : (kind == 3) = true := beq_iff_eq.2 k3
    by_cases a2 : til = 0
    ·have e2 : (til == 0) = true := beq_iff_eq.2 a2
     have HE : Hid (blankC ⟨kind, row, col, count, til, g⟩ = true) := Lib.hid (by simp [blankC, *])
     clear k1 k2 k3 a2
     go_enter Tryz.func87, Tryz.ntmps87
     go_upto_region 1 with fail
     refine wp_fg (ChgBox w ⟨kind, row, col, count, til, g⟩ A cap) (ChgBox.new w ⟨kind, row, col, count, til, g⟩ A cap _) ?_
     rintro X ⟨c0, c1, c2, c3, c4, c5, hb, hzX⟩
     dsimp only at c0 c1 c2 c3 c4 c5
     go_wp2
     go_ret
     exact ⟨by rw [HE.out]; rfl, hb⟩
    ·have e2 : (til == 0) = false := beq_eq_false_iff_ne.2 a2
     have HE : Hid (blankC ⟨kind, row, col, count, til, g⟩ = false) := Lib.hid (by simp [blankC, *])
     clear k1 k2 k3 a2
     go_enter Tryz.func87, Tryz.ntmps87
     go_upto_region 1 with fail
     refine wp_fg (ChgBox w ⟨kind, row, col, count, til, g⟩ A cap) (ChgBox.new w ⟨kind, row, col, count, til, g⟩ A cap _) ?_
     rintro X ⟨c0, c1, c2, c3, c4, c5, hb, hzX⟩
     dsimp only at c0 c1 c2 c3 c4 c5
     go_wp2
     go_ret
     exact ⟨by rw [HE.out]; rfl, hb⟩
   ·have d3 : (kind == 3) = false := beq_eq_false_iff_ne.2 k3
    by_cases a2 : til = 0
    ·have e2 : (til == 0) = true := beq_iff_eq.2 a2
     by_cases a3 : g = []
     ·have e3 : ((g.length : Int) == 0) = true := by simp [a3]
      have HE : Hid (blankC ⟨kind, row, col, count, til, g⟩ = true) := Lib.hid (by simp [blankC, *])
      clear k1 k2 k3 a2 a3
      go_enter Tryz.func87, Tryz.ntmps87
      go_upto_region 1 with fail
      refine wp_fg (ChgBox w ⟨kind, row, col, count, til, g⟩ A cap) (ChgBox.new w ⟨kind, row, col, count, til, g⟩ A cap _) ?_
      rintro X ⟨c0, c1, c2, c3, c4, c5, hb, hzX⟩
      dsimp only at c0 c1 c2 c3 c4 c5
      go_wp2
      go_ret
      exact ⟨by rw [HE.out]; rfl, hb⟩
     ·have e3 : ((g.length : Int) == 0) = false := by simp [a3]
      have HE : Hid (blankC ⟨kind, row, col, count, til, g⟩ = false) := Lib.hid (by simp [blankC, *])
      clear k1 k2 k3 a2 a3
      go_enter Tryz.func87, Tryz.ntmps87
      go_upto_region 1 with fail
      refine wp_fg (ChgBox w ⟨kind, row, col, count, til, g⟩ A cap) (ChgBox.new w ⟨kind, row, col, count, til, g⟩ A cap _) ?_
      rintro X ⟨c0, c1, c2, c3, c4, c5, hb, hzX⟩
      dsimp only at c0 c1 c2 c3 c4 c5
      go_wp2
      go_ret
      exact ⟨by rw [HE.out]; rfl, hb⟩
    ·have e2 : (til == 0) = false := beq_eq_false_iff_ne.2 a2
     have HE : Hid (blankC ⟨kind, row, col, count, til, g⟩ = false) := Lib.hid (by simp [blankC, *])
     clear k1 k2 k3 a2
     go_enter Tryz.func87, Tryz.ntmps87
     go_upto_region 1 with fail
     refine wp_fg (ChgBox w ⟨kind, row, col, count, til, g⟩ A cap) (ChgBox.new w ⟨kind, row, col, count, til, g⟩ A cap _) ?_
     rintro X ⟨c0, c1, c2, c3, c4, c5, hb, hzX⟩
     dsimp only at c0 c1 c2 c3 c4 c5
     go_wp2
     go_ret
     exact ⟨by rw [HE.out]; rfl, hb⟩
end Go.Proofs.YtholajadbbdcmaaGreatDoor
namespace Go.Proofs.YtholajadbbdcmaaGreatDoor
open Go.RowKit
set_option maxRecDepth 20000
theorem btw_q (n a b : Int) (w : World) : Calls Tryz.prog 86 #[.int .i64 n, .int .i64 a, .int .i64 b] w (Quiet (.bool (inB n a b)) w) := (btw_ n a b w).mono fun _ _ ⟨h1, h2⟩ => ⟨h1, 0, by subst h2; rfl⟩
theorem range_two {v : Vw} {row col count til : Int} {g : List Gl} : rangeC v ⟨2, row, col, count, til, g⟩ = decide (0 ≤ row ∧ row < til ∧ til ≤ v.height ∧ count ≠ 0 ∧ count < til - row ∧ row - til < count) := rfl
theorem range_three {v : Vw} {row col count til : Int} {g : List Gl} : rangeC v ⟨3, row, col, count, til, g⟩ = decide (0 ≤ row ∧ row ≤ v.height - 1 ∧ 0 ≤ col ∧ col ≤ 264 ∧ 0 ≤ count ∧ (count = 0 ∨ col + count ≤ ((v.rows.getD row.toNat []).length : Int))) := rfl
theorem range_four {v : Vw} {row col count til : Int} {g : List Gl} : rangeC v ⟨4, row, col, count, til, g⟩ = (inB row 0 (v.height - 1) && inB col 0 (v.width - 1) && inB count 0 1) := by
 rw [Bool.eq_iff_iff]
 simp [rangeC, inB]
 omega
section
variable {base G : Nat} {W Hh : Int} {rows : List (List Gl)} {vr vc : Int} {vis : Bool} {rs : List RowM} {A : Option Addr} {cA : Nat} {X0 : World} {row col count til : Int} {g : List Gl} {Ag : Option Addr} {cap : Nat}
set_option maxHeartbeats 4000000 in
theorem ranges_one (HB : Hid (Blk X0 G 106 (vwC ⟨W, Hh, rows, vr, vc, vis⟩ A rs.length cA))) : Calls Tryz.prog 88 #[.pointer (some ⟨G, 0, none⟩), chgV ⟨1, row, col, count, til, g⟩ Ag cap] X0 (Gives (.bool (rangeC ⟨W, Hh, rows, vr, vc, vis⟩ ⟨1, row, col, count, til, g⟩)) X0) := by
 have HE : Hid (rangeC ⟨W, Hh, rows, vr, vc, vis⟩ ⟨1, row, col, count, til, g⟩ = (inB row 1 60 && inB col 1 132)) := Lib.hid (by
  rw [Bool.eq_iff_iff]; simp [rangeC, inB]; omega)
 cases z1 : inB row 1 60 with
 | false =>
  rw [z1] at HE
  go_enter Tryz.func88, Tryz.ntmps88
  go_upto_region 1 with fail
  refine wp_fg (ChgBox X0 ⟨1, row, col, count, til, g⟩ Ag cap) (ChgBox.new X0 ⟨1, row, col, count, til, g⟩ Ag cap _) ?_
  rintro X ⟨c0, c1, c2, c3, c4, c5, hb, hzX⟩
  dsimp only at c0 c1 c2 c3 c4 c5
  obtain ⟨e0, e1, e2, e3, e4, e5⟩ := vw_cells (HB.out.below hb HB.out.lt)
  dsimp only at e0 e1 e2 e3 e4 e5
  go_wp2_with (go_at_call 86; refine (btw_ _ _ _ _).mono ?_; rintro e wy ⟨rfl, rfl⟩)
  go_ret
  exact ⟨by rw [HE.out]; rfl, hb⟩
 | true =>
  rw [z1] at HE
  go_enter Tryz.func88, Tryz.ntmps88
  go_upto_region 1 with fail
  refine wp_fg (ChgBox X0 ⟨1, row, col, count, til, g⟩ Ag cap) (ChgBox.new X0 ⟨1, row, col, count, til, g⟩ Ag cap _) ?_
  rintro X ⟨c0, c1, c2, c3, c4, c5, hb, hzX⟩
  dsimp only at c0 c1 c2 c3 c4 c5
  obtain ⟨e0, e1, e2, e3, e4, e5⟩ := vw_cells (HB.out.below hb HB.out.lt)
  dsimp only at e0 e1 e2 e3 e4 e5
  go_wp2_with (go_at_call 86; refine (btw_ _ _ _ _).mono ?_; rintro e wy ⟨rfl, rfl⟩)
  go_ret
  exact ⟨by rw [HE.out]; rfl, hb⟩
set_option maxHeartbeats 4000000 in
theorem ranges_two (HB : Hid (Blk X0 G 106 (vwC ⟨W, Hh, rows, vr, vc, vis⟩ A rs.length cA))) (hh : Hh ≤ 1000) : Calls Tryz.prog 88 #[.pointer (some ⟨G, 0, none⟩), chgV ⟨2, row, col, count, til, g⟩ Ag cap] X0 (Gives (.bool (rangeC ⟨W, Hh, rows, vr, vc, vis⟩ ⟨2, row, col, count, til, g⟩)) X0) := by
 by_cases a1 : 0 ≤ row
 ·have b1 : decide (0 ≤ row) = true := decide_eq_true a1
  by_cases a2 : row < til
  ·have b2 : decide (row < til) = true := decide_eq_true a2
   by_cases a3 : til ≤ Hh
   ·have b3 : decide (til ≤ Hh) = true := decide_eq_true a3
    by_cases a4 : count = 0
    ·have b4 : (count != 0) = false := by simp [a4]
     have HE : Hid (rangeC ⟨W, Hh, rows, vr, vc, vis⟩ ⟨2, row, col, count, til, g⟩ = false) := Lib.hid (by simp [rangeC, a4])
     clear a4
     go_enter Tryz.func88, Tryz.ntmps88
     go_upto_region 1 with fail
     refine wp_fg (ChgBox X0 ⟨2, row, col, count, til, g⟩ Ag cap) (ChgBox.new X0 ⟨2, row, col, count, til, g⟩ Ag cap _) ?_
     rintro X ⟨c0, c1, c2, c3, c4, c5, hb, hzX⟩
     dsimp only at c0 c1 c2 c3 c4 c5
     obtain ⟨e0, e1, e2, e3, e4, e5⟩ := vw_cells (HB.out.below hb HB.out.lt)
     dsimp only at e0 e1 e2 e3 e4 e5
     go_wp2
     go_quiet (fail)
     go_wp2
     go_ret
     exact ⟨by rw [HE.out]; rfl, below_drewN hb⟩
    ·have b4 : (count != 0) = true := bne_iff_ne.2 a4
     have w1 : IntKind.i64.wrap (til - row) = til - row := by rw [IntKind.wrap_i64]; omega
     have w2 : IntKind.i64.wrap (row - til) = row - til := by rw [IntKind.wrap_i64]; omega
     by_cases a5 : count < til - row
     ·have b5 : decide (count < til - row) = true := decide_eq_true a5
      by_cases a6 : row - til < count
      ·have b6 : decide (row - til < count) = true := decide_eq_true a6
       have HE : Hid (rangeC ⟨W, Hh, rows, vr, vc, vis⟩ ⟨2, row, col, count, til, g⟩ = true) := Lib.hid (by rw [range_two]; exact decide_eq_true (by dsimp only; omega))
       clear a4 a5 a6
       go_enter Tryz.func88, Tryz.ntmps88
       go_upto_region 1 with fail
       refine wp_fg (ChgBox X0 ⟨2, row, col, count, til, g⟩ Ag cap) (ChgBox.new X0 ⟨2, row, col, count, til, g⟩ Ag cap _) ?_
       rintro X ⟨c0, c1, c2, c3, c4, c5, hb, hzX⟩
       dsimp only at c0 c1 c2 c3 c4 c5
       obtain ⟨e0, e1, e2, e3, e4, e5⟩ := vw_cells (HB.out.below hb HB.out.lt)
       dsimp only at e0 e1 e2 e3 e4 e5
       go_wp2
       go_quiet (fail)
       go_wp2
       go_ret
       exact ⟨by rw [HE.out]; rfl, below_drewN hb⟩
      ·have b6 : decide (row - til < count) = false := decide_eq_false a6
       have HE : Hid (rangeC ⟨W, Hh, rows, vr, vc, vis⟩ ⟨2, row, col, count, til, g⟩ = false) := Lib.hid (by rw [range_two]; exact decide_eq_false (by dsimp only; omega))
       clear a4 a5 a6
       go_enter Tryz.func88, Tryz.ntmps88
       go_upto_region 1 with fail
       refine wp_fg (ChgBox X0 ⟨2, row, col, count, til, g⟩ Ag cap) (ChgBox.new X0 ⟨2, row, col, count, til, g⟩ Ag cap _) ?_
       rintro X ⟨c0, c1, c2, c3, c4, c5, hb, hzX⟩
       dsimp only at c0 c1 c2 c3 c4 c5
       obtain ⟨e0, e1, e2, e3, e4, e5⟩ := vw_cells (HB.out.below hb HB.out.lt)
       dsimp only at e0 e1 e2 e3 e4 e5
       go_wp2
       go_quiet (fail)
       go_wp2
       go_ret
       exact ⟨by rw [HE.out]; rfl, below_drewN hb⟩
     ·have b5 : decide (count < til - row) = false := decide_eq_false a5
      have HE : Hid (rangeC ⟨W, Hh, rows, vr, vc, vis⟩ ⟨2, row, col, count, til, g⟩ = false) := Lib.hid (by rw [range_two]; exact decide_eq_false (by dsimp only; omega))
      clear a4 a5
      go_enter Tryz.func88, Tryz.ntmps88
      go_upto_region 1 with fail
      refine wp_fg (ChgBox X0 ⟨2, row, col, count, til, g⟩ Ag cap) (ChgBox.new X0 ⟨2, row, col, count, til, g⟩ Ag cap _) ?_
      rintro X ⟨c0, c1, c2, c3, c4, c5, hb, hzX⟩
      dsimp only at c0 c1 c2 c3 c4 c5
      obtain ⟨e0, e1, e2, e3, e4, e5⟩ := vw_cells (HB.out.below hb HB.out.lt)
      dsimp only at e0 e1 e2 e3 e4 e5
      go_wp2
      go_quiet (fail)
      go_wp2
      go_ret
      exact ⟨by rw [HE.out]; rfl, below_drewN hb⟩
   ·have b3 : decide (til ≤ Hh) = false := decide_eq_false a3
    have HE : Hid (rangeC ⟨W, Hh, rows, vr, vc, vis⟩ ⟨2, row, col, count, til, g⟩ = false) := Lib.hid (by rw [range_two]; exact decide_eq_false (by dsimp only; omega))
    clear a3
    go_enter Tryz.func88, Tryz.ntmps88
    go_upto_region 1 with fail
    refine wp_fg (ChgBox X0 ⟨2, row, col, count, til, g⟩ Ag cap) (ChgBox.new X0 ⟨2, row, col, count, til, g⟩ Ag cap _) ?_
    rintro X ⟨c0, c1, c2, c3, c4, c5, hb, hzX⟩
    dsimp only at c0 c1 c2 c3 c4 c5
    obtain ⟨e0, e1, e2, e3, e4, e5⟩ := vw_cells (HB.out.below hb HB.out.lt)
    dsimp only at e0 e1 e2 e3 e4 e5
    go_wp2
    go_quiet (fail)
    go_wp2
    go_ret
    exact ⟨by rw [HE.out]; rfl, below_drewN hb⟩
  ·have b2 : decide (row < til) = false := decide_eq_false a2
   have HE : Hid (rangeC ⟨W, Hh, rows, vr, vc, vis⟩ ⟨2, row, col, count, til, g⟩ = false) := Lib.hid (by rw [range_two]; exact decide_eq_false (by dsimp only; omega))
   clear a2
   go_enter Tryz.func88, Tryz.ntmps88
   go_upto_region 1 with fail
   refine wp_fg (ChgBox X0 ⟨2, row, col, count, til, g⟩ Ag cap) (ChgBox.new X0 ⟨2, row, col, count, til, g⟩ Ag cap _) ?_
   rintro X ⟨c0, c1, c2, c3, c4, c5, hb, hzX⟩
   dsimp only at c0 c1 c2 c3 c4 c5
   obtain ⟨e0, e1, e2, e3, e4, e5⟩ := vw_cells (HB.out.below hb HB.out.lt)
   dsimp only at e0 e1 e2 e3 e4 e5
   go_wp2
   go_quiet (fail)
   go_wp2
   go_ret
   exact ⟨by rw [HE.out]; rfl, below_drewN hb⟩
 ·have b1 : decide (0 ≤ row) = false := decide_eq_false a1
  have HE : Hid (rangeC ⟨W, Hh, rows, vr, vc, vis⟩ ⟨2, row, col, count, til, g⟩ = false) := Lib.hid (by rw [range_two]; exact decide_eq_false (by dsimp only; omega))
  clear a1
  go_enter Tryz.func88, Tryz.ntmps88
  go_upto_region 1 with fail
  refine wp_fg (ChgBox X0 ⟨2, row, col, count, til, g⟩ Ag cap) (ChgBox.new X0 ⟨2, row, col, count, til, g⟩ Ag cap _) ?_
  rintro X ⟨c0, c1, c2, c3, c4, c5, hb, hzX⟩
  dsimp only at c0 c1 c2 c3 c4 c5
  obtain ⟨e0, e1, e2, e3, e4, e5⟩ := vw_cells (HB.out.below hb HB.out.lt)
  dsimp only at e0 e1 e2 e3 e4 e5
  go_wp2
  go_quiet (fail)
  go_wp2
  go_ret
  exact ⟨by rw [HE.out]; rfl, below_drewN hb⟩
set_option maxHeartbeats 4000000 in
theorem ranges_three (HB : Hid (Blk X0 G 106 (vwC ⟨W, Hh, rows, vr, vc, vis⟩ A rs.length cA))) (hlen : (rs.length : Int) = Hh) (hh : Hh ≤ 1000) (hrows : rows = rls rs) (ho : X0.ownsRow base 51 1 (.slice A rs.length cA) rs.length (encRs rs)) (hrl : ∀ x ∈ rs, x.l.length ≤ 1000000000) : Calls Tryz.prog 88 #[.pointer (some ⟨G, 0, none⟩), chgV ⟨3, row, col, count, til, g⟩ Ag cap] X0 (Gives (.bool (rangeC ⟨W, Hh, rows, vr, vc, vis⟩ ⟨3, row, col, count, til, g⟩)) X0) := by
 have w1 : IntKind.i64.wrap (Hh - 1) = Hh - 1 := by rw [IntKind.wrap_i64]; omega
 cases z1 : inB row 0 (Hh - 1) with
 | false =>
  have HE : Hid (rangeC ⟨W, Hh, rows, vr, vc, vis⟩ ⟨3, row, col, count, til, g⟩ = false) := Lib.hid (by
   rw [range_three]
   refine decide_eq_false fun h => ?_
   unfold inB at z1
   rw [decide_eq_true h.1, decide_eq_true h.2.1] at z1
   cases z1)
  clear hrows ho hrl hlen
  go_enter Tryz.func88, Tryz.ntmps88
  go_upto_region 1 with fail
  refine wp_fg (ChgBox X0 ⟨3, row, col, count, til, g⟩ Ag cap) (ChgBox.new X0 ⟨3, row, col, count, til, g⟩ Ag cap _) ?_
  rintro X ⟨c0, c1, c2, c3, c4, c5, hb, hzX⟩
  dsimp only at c0 c1 c2 c3 c4 c5
  obtain ⟨e0, e1, e2, e3, e4, e5⟩ := vw_cells (HB.out.below hb HB.out.lt)
  dsimp only at e0 e1 e2 e3 e4 e5
  go_wp2
  go_quiet ((go_at_call 86; exact Calls.quiet_of (btw_q _ _ _ _)))
  go_wp2
  go_ret
  exact ⟨by rw [HE.out]; rfl, below_drewN hb⟩
 | true =>
  obtain ⟨r0, r1⟩ := inB_iff z1
  cases z2 : inB col 0 264 with
  | false =>
   have HE : Hid (rangeC ⟨W, Hh, rows, vr, vc, vis⟩ ⟨3, row, col, count, til, g⟩ = false) := Lib.hid (by
    rw [range_three]
    refine decide_eq_false fun h => ?_
    unfold inB at z2
    rw [decide_eq_true h.2.2.1, decide_eq_true h.2.2.2.1] at z2
    cases z2)
   clear hrows ho hrl hlen
   go_enter Tryz.func88, Tryz.ntmps88
   go_upto_region 1 with fail
   refine wp_fg (ChgBox X0 ⟨3, row, col, count, til, g⟩ Ag cap) (ChgBox.new X0 ⟨3, row, col, count, til, g⟩ Ag cap _) ?_
   rintro X ⟨c0, c1, c2, c3, c4, c5, hb, hzX⟩
   dsimp only at c0 c1 c2 c3 c4 c5
   obtain ⟨e0, e1, e2, e3, e4, e5⟩ := vw_cells (HB.out.below hb HB.out.lt)
   dsimp only at e0 e1 e2 e3 e4 e5
   go_wp2
   go_quiet ((go_at_call 86; exact Calls.quiet_of (btw_q _ _ _ _)))
   go_wp2
   go_ret
   exact ⟨by rw [HE.out]; rfl, below_drewN hb⟩
  | true =>
   obtain ⟨q0, q1⟩ := inB_iff z2
   obtain ⟨k, rfl⟩ : ∃ k : Nat, row = k := ⟨row.toNat, by omega⟩
   have hk : k < rs.length := by omega
   obtain ⟨G1, cap1, hA, hG1, hG2⟩ := ho.form (by omega)
   obtain ⟨rfl, rfl⟩ : A = some ⟨G1, 0, none⟩ ∧ cA = cap1 := by injection hA with h1 _ h2; exact ⟨h1, h2⟩
   have hcx := ho.cellAt k (by omega)
   rw [encRs_get hk] at hcx
   have hL := hrl _ (List.getElem_mem hk)
   have hgd : rows.getD k [] = rs[k].l := by rw [hrows, rls_getD hk]
   generalize rs[k] = x at *
   obtain ⟨l, Al, cl⟩ := x
   dsimp only at *
   have w2 : IntKind.i64.wrap ((l.length : Int) - col) = l.length - col := by rw [IntKind.wrap_i64]; omega
   obtain ⟨M, hM⟩ : ∃ M, max (0 : Int) ((l.length : Int) - col) = M := ⟨_, rfl⟩
   have HE : Hid (rangeC ⟨W, Hh, rows, vr, vc, vis⟩ ⟨3, (k : Int), col, count, til, g⟩ = inB count 0 M) := Lib.hid (by
    rw [range_three, Bool.eq_iff_iff, decide_eq_true_iff]
    simp only [Int.toNat_natCast, hgd]
    unfold inB
    rw [Bool.and_eq_true, decide_eq_true_iff, decide_eq_true_iff]
    omega)
   have hki : (k : Int) < (rs.length : Int) := by omega
   clear hrows ho hrl hlen hgd hA
   go_enter Tryz.func88, Tryz.ntmps88
   go_upto_region 1 with fail
   refine wp_fg (ChgBox X0 ⟨3, (k : Int), col, count, til, g⟩ Ag cap) (ChgBox.new X0 ⟨3, (k : Int), col, count, til, g⟩ Ag cap _) ?_
   rintro X ⟨c0, c1, c2, c3, c4, c5, hb, hzX⟩
   dsimp only at c0 c1 c2 c3 c4 c5
   obtain ⟨e0, e1, e2, e3, e4, e5⟩ := vw_cells (HB.out.below hb HB.out.lt)
   dsimp only at e0 e1 e2 e3 e4 e5
   have hcx2 := (hb.cell (p := ⟨G1, k, none⟩) hG2).trans hcx
   go_wp2
   go_quiet ((go_at_call 86; exact Calls.quiet_of (btw_q _ _ _ _)))
   go_upto_region 9 with fail
   refine wp_fg (fun Y => Below X.heap.size X Y) (below_drewN (Below.refl _ _)) ?_
   intro Y hY
   have hGX : G < X.heap.size := Nat.lt_of_lt_of_le HB.out.lt hb.size
   have f1 := (hY.cell (p := ⟨X0.heap.size, 1, none⟩) hzX).trans c1
   have f2 := (hY.cell (p := ⟨X0.heap.size, 2, none⟩) hzX).trans c2
   have f3 := (hY.cell (p := ⟨X0.heap.size, 3, none⟩) hzX).trans c3
   have h2 := (hY.cell (p := ⟨G, 2, none⟩) hGX).trans e2
   have hcx3 := (hY.cell (p := ⟨G1, k, none⟩) (Nat.lt_of_lt_of_le hG2 hb.size)).trans hcx2
   have hbY := hb.trans (hY.mono hb.size)
   clear c0 c1 c2 c3 c4 c5 e0 e1 e2 e3 e4 e5 hcx hcx2 hY HB
   go_wp2
   go_quiet ((go_at_call 86; exact Calls.quiet_of (btw_q _ _ _ _)))
   go_wp2
   go_ret
   exact ⟨by rw [HE.out]; rfl, below_drewN hbY⟩
end
section
variable {base G : Nat} {W Hh : Int} {rows : List (List Gl)} {vr vc : Int} {vis : Bool} {rs : List RowM} {A : Option Addr} {cA : Nat} {X0 : World} {row col count til : Int} {g : List Gl} {Ag : Option Addr} {cap : Nat}
set_option maxHeartbeats 4000000 in
theorem ranges_four (HB : Hid (Blk X0 G 106 (vwC ⟨W, Hh, rows, vr, vc, vis⟩ A rs.length cA))) (hh0 : 0 ≤ Hh) (hh : Hh ≤ 1000) (hw0 : 0 ≤ W) (hw : W ≤ 1000) : Calls Tryz.prog 88 #[.pointer (some ⟨G, 0, none⟩), chgV ⟨4, row, col, count, til, g⟩ Ag cap] X0 (Gives (.bool (rangeC ⟨W, Hh, rows, vr, vc, vis⟩ ⟨4, row, col, count, til, g⟩)) X0) := by
 have w1 : IntKind.i64.wrap (Hh - 1) = Hh - 1 := by rw [IntKind.wrap_i64]; omega
 have w2 : IntKind.i64.wrap (W - 1) = W - 1 := by rw [IntKind.wrap_i64]; omega
 have HE := Lib.hid (range_four (v := ⟨W, Hh, rows, vr, vc, vis⟩) (row := row) (col := col) (count := count) (til := til) (g := g))
 dsimp only at HE
 have H1 := Lib.hid (btw_q row 0 (Hh - 1))
 have H2 := Lib.hid (btw_q col 0 (W - 1))
 cases z1 : inB row 0 (Hh - 1) with
 | false =>
  have HE2 : Hid (rangeC ⟨W, Hh, rows, vr, vc, vis⟩ ⟨4, row, col, count, til, g⟩ = false) := Lib.hid (by rw [HE.out, z1]; rfl)
  rw [z1] at H1
  clear HE z1
  go_enter Tryz.func88, Tryz.ntmps88
  go_upto_region 1 with fail
  refine wp_fg (ChgBox X0 ⟨4, row, col, count, til, g⟩ Ag cap) (ChgBox.new X0 ⟨4, row, col, count, til, g⟩ Ag cap _) ?_
  rintro X ⟨c0, c1, c2, c3, c4, c5, hb, hzX⟩
  dsimp only at c0 c1 c2 c3 c4 c5
  obtain ⟨e0, e1, e2, e3, e4, e5⟩ := vw_cells (HB.out.below hb HB.out.lt)
  dsimp only at e0 e1 e2 e3 e4 e5
  go_upto_region 10 with fail
  go_quiet ((first | (go_at_call_of 86 (Value.int .i64 row); exact Calls.quiet_of (H1.out _)) | (go_at_call_of 86 (Value.int .i64 col); exact Calls.quiet_of (H2.out _)) | (go_at_call 86; exact Calls.quiet_of (btw_q _ _ _ _))))
  go_wp2
  go_ret
  exact ⟨by rw [HE2.out]; rfl, below_drewN hb⟩
 | true =>
  cases z2 : inB col 0 (W - 1) with
  | false =>
   have HE2 : Hid (rangeC ⟨W, Hh, rows, vr, vc, vis⟩ ⟨4, row, col, count, til, g⟩ = false) := Lib.hid (by rw [HE.out, z1, z2]; rfl)
   rw [z1] at H1
   rw [z2] at H2
   clear HE z1 z2
   go_enter Tryz.func88, Tryz.ntmps88
   go_upto_region 1 with fail
   refine wp_fg (ChgBox X0 ⟨4, row, col, count, til, g⟩ Ag cap) (ChgBox.new X0 ⟨4, row, col, count, til, g⟩ Ag cap _) ?_
   rintro X ⟨c0, c1, c2, c3, c4, c5, hb, hzX⟩
   dsimp only at c0 c1 c2 c3 c4 c5
   obtain ⟨e0, e1, e2, e3, e4, e5⟩ := vw_cells (HB.out.below hb HB.out.lt)
   dsimp only at e0 e1 e2 e3 e4 e5
   go_upto_region 10 with fail
   go_quiet ((first | (go_at_call_of 86 (Value.int .i64 row); exact Calls.quiet_of (H1.out _)) | (go_at_call_of 86 (Value.int .i64 col); exact Calls.quiet_of (H2.out _)) | (go_at_call 86; exact Calls.quiet_of (btw_q _ _ _ _))))
   go_wp2
   go_ret
   exact ⟨by rw [HE2.out]; rfl, below_drewN hb⟩
  | true =>
   have HE2 : Hid (rangeC ⟨W, Hh, rows, vr, vc, vis⟩ ⟨4, row, col, count, til, g⟩ = inB count 0 1) := Lib.hid (by rw [HE.out, z1, z2]; rfl)
   rw [z1] at H1
   rw [z2] at H2
   clear HE z1 z2
   go_enter Tryz.func88, Tryz.ntmps88
   go_upto_region 1 with fail
   refine wp_fg (ChgBox X0 ⟨4, row, col, count, til, g⟩ Ag cap) (ChgBox.new X0 ⟨4, row, col, count, til, g⟩ Ag cap _) ?_
   rintro X ⟨c0, c1, c2, c3, c4, c5, hb, hzX⟩
   dsimp only at c0 c1 c2 c3 c4 c5
   obtain ⟨e0, e1, e2, e3, e4, e5⟩ := vw_cells (HB.out.below hb HB.out.lt)
   dsimp only at e0 e1 e2 e3 e4 e5
   go_upto_region 10 with fail
   go_quiet ((first | (go_at_call_of 86 (Value.int .i64 row); exact Calls.quiet_of (H1.out _)) | (go_at_call_of 86 (Value.int .i64 col); exact Calls.quiet_of (H2.out _)) | (go_at_call 86; exact Calls.quiet_of (btw_q _ _ _ _))))
   go_wp2
   go_ret
   exact ⟨by rw [HE2.out]; rfl, below_drewN hb⟩
end
theorem cranges_ {base G : Nat} {v : Vw} {rs : List RowM} {A : Option Addr} {cA : Nat} {X0 : World} (h : ED base G v rs A cA X0) (hlen : (rs.length : Int) = v.height) (hh : v.height ≤ 1000) (hw0 : 0 ≤ v.width) (hw : v.width ≤ 1000) (hrl : ∀ x ∈ rs, x.l.length ≤ 1000000000)
  (c : Chg) (Ag : Option Addr) (cap : Nat) (hk : 1 ≤ c.kind ∧ c.kind ≤ 4) : Calls Tryz.prog 88 #[.pointer (some ⟨G, 0, none⟩), chgV c Ag cap] X0 (Gives (.bool (rangeC v c)) X0) := by
 obtain ⟨W, Hh, rows, vr, vc, vis⟩ := v
 obtain ⟨kind, row, col, count, til, g⟩ := c
 dsimp only at hlen hh hw0 hw hk
 have hk4 : kind = 1 ∨ kind = 2 ∨ kind = 3 ∨ kind = 4 := by omega
 rcases hk4 with rfl | rfl | rfl | rfl
 ·exact ranges_one (Lib.hid h.blk)
 ·exact ranges_two (Lib.hid h.blk) hh
 ·exact ranges_three (Lib.hid h.blk) hlen hh h.eq h.rows hrl
 ·exact ranges_four (Lib.hid h.blk) (by omega) hh hw0 hw
end Go.Proofs.YtholajadbbdcmaaGreatDoor
