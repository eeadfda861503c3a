/- Joined texts: Lvf, Lvg, Lvh, Lvi. -/
import Derived.Test.YtholajadbbdcmaaGreatDoorQAA
import Derived.Test.YtholajadbbdcmaaGreatDoorQAB
import Derived.Test.YtholajadbbdcmaaGreatDoorQAC
import Derived.Test.YtholajadbbdcmaaGreatDoorQAD
import Derived.Test.YtholajadbbdcmaaGreatDoorQAE
import Derived.Test.YtholajadbbdcmaaGreatDoorQAG
import Derived.Test.YtholajadbbdcmaaGreatDoorQAH
import Derived.Test.YtholajadbbdcmaaGreatDoorQAI
import Derived.Test.YtholajadbbdcmaaGreatDoorQAM
import Derived.Test.YtholajadbbdcmaaGreatDoorQAN
import Derived.Test.YtholajadbbdcmaaGreatDoorQAQ
import Derived.Test.YtholajadbbdcmaaGreatDoorQAS
import Derived.Test.YtholajadbbdcmaaGreatDoorQAT
import Derived.Test.YtholajadbbdcmaaGreatDoorQAU
import Derived.Test.YtholajadbbdcmaaGreatDoorQAY
import Derived.Test.YtholajadbbdcmaaGreatDoorQBA
import Derived.Test.YtholajadbbdcmaaGreatDoorQBB
import Derived.Test.YtholajadbbdcmaaGreatDoorQBC
import Derived.Test.YtholajadbbdcmaaGreatDoorQBD
import Derived.Test.YtholajadbbdcmaaGreatDoorQBG
import Derived.Test.YtholajadbbdcmaaGreatDoorQBU
import Derived.Test.YtholajadbbdcmaaGreatDoorQBV
import Derived.Test.YtholajadbbdcmaaGreatDoorQBW
import Derived.Test.YtholajadbbdcmaaGreatDoorQBX
set_option linter.unusedVariables false
set_option linter.unusedSimpArgs false
set_option linter.unnecessarySimpa false
namespace Go.Proofs.YtholajadbbdcmaaGreatDoor
open Go.RowKit
set_option maxRecDepth 20000
structure EDx (base G : Nat) (v : Vw) (rs : List RowM) (A : Option Addr) (c k : Nat) (l' : List Gl) (A4 : Option Addr) (c4 : Nat) (X : World) : Prop where
 blk : Blk X G 106 (vwC v A rs.length c)
 rows : X.ownsRow base 51 1 (.slice A rs.length c) rs.length (encRs rs)
 gl : ∀ j (h : j < rs.length), j ≠ k → X.ownsRow base 89 3 (.slice rs[j].A rs[j].l.length rs[j].cap) rs[j].l.length (encGs rs[j].l)
 row : X.ownsRow base 89 3 (.slice A4 l'.length c4) l'.length (encGs l')
 eq : v.rows = rls rs
 lo : base ≤ G
 dj : (obR G A (rs.set k ⟨l', A4, c4⟩)).Pairwise Dj
theorem pw_get {l : List (Option Nat)} (h : l.Pairwise Dj) {i j : Nat} (hi : i < l.length) (hj : j < l.length) (hne : i ≠ j) : Dj l[i] l[j] := by
 rcases Nat.lt_or_ge i j with hlt | hge
 ·exact List.pairwise_iff_getElem.1 h i j hi hj hlt
 ·exact (List.pairwise_iff_getElem.1 h j i hj hi (by omega)).symm
theorem obR_set (G : Nat) (A : Option Addr) (rs : List RowM) (k : Nat) (x : RowM) : obR G A (rs.set k x) = (obR G A rs).set (k + 2) (obS x.A) := by
 unfold obR
 rw [List.map_set, List.set_cons_succ, List.set_cons_succ]
section
variable {base G c k c4 : Nat} {v : Vw} {rs : List RowM} {A A4 : Option Addr} {l' : List Gl} {X X' w1 w2 : World}
theorem EDx.start (h : ED base G v rs A c X) (hk : k < rs.length) : EDx base G v rs A c k rs[k].l rs[k].A rs[k].cap X :=
 ⟨h.blk, h.rows, fun j hj _ => h.gl _ (List.getElem_mem hj), h.gl _ (List.getElem_mem hk), h.eq, h.lo, by
  have e : rs.set k ⟨rs[k].l, rs[k].A, rs[k].cap⟩ = rs := List.set_getElem_self hk
  rw [e]
  exact h.dj⟩
theorem EDx.below (h : EDx base G v rs A c k l' A4 c4 X) (hb : Below X.heap.size X X') : EDx base G v rs A c k l' A4 c4 X' :=
 ⟨h.blk.below hb h.blk.lt, own_below h.rows hb, fun j hj hne => own_below (h.gl j hj hne) hb, own_below h.row hb, h.eq, h.lo, h.dj⟩
theorem EDx.apart (h : EDx base G v rs A c k l' A4 c4 X) (hk : k < rs.length) : Dj (some G) (obS A) ∧ Dj (some G) (obS A4) ∧ Dj (obS A) (obS A4) ∧ (∀ j (hj : j < rs.length), j ≠ k → Dj (some G) (obS rs[j].A) ∧ Dj (obS A) (obS rs[j].A) ∧ Dj (obS rs[j].A) (obS A4)) := by
 have hd := h.dj
 have hl : (obR G A (rs.set k ⟨l', A4, c4⟩)).length = rs.length + 2 := by simp [obR]
 have g0 : (obR G A (rs.set k ⟨l', A4, c4⟩))[0]'(by omega) = some G := rfl
 have g1 : (obR G A (rs.set k ⟨l', A4, c4⟩))[1]'(by omega) = obS A := rfl
 have gk : (obR G A (rs.set k ⟨l', A4, c4⟩))[k + 2]'(by omega) = obS A4 := by simp [obR]
 have gj : ∀ j (hj : j < rs.length), j ≠ k → (obR G A (rs.set k ⟨l', A4, c4⟩))[j + 2]'(by omega) = obS rs[j].A := fun j hj hne => by
  simp [obR, List.getElem_set_ne (Ne.symm hne)]
 refine ⟨?_, ?_, ?_, fun j hj hne => ⟨?_, ?_, ?_⟩⟩
 ·have := pw_get hd (i := 0) (j := 1) (by omega) (by omega) (by omega); rwa [g0, g1] at this
 ·have := pw_get hd (i := 0) (j := k + 2) (by omega) (by omega) (by omega); rwa [g0, gk] at this
 ·have := pw_get hd (i := 1) (j := k + 2) (by omega) (by omega) (by omega); rwa [g1, gk] at this
 ·have := pw_get hd (i := 0) (j := j + 2) (by omega) (by omega) (by omega); rwa [g0, gj j hj hne] at this
 ·have := pw_get hd (i := 1) (j := j + 2) (by omega) (by omega) (by omega); rwa [g1, gj j hj hne] at this
 ·have := pw_get hd (i := j + 2) (j := k + 2) (by omega) (by omega) (by omega); rwa [gj j hj hne, gk] at this
theorem EDx.dj_new (h : EDx base G v rs A c k l' A4 c4 X) {l2 : List Gl} {A5 : Option Addr} {c5 : Nat} (hn : ∀ y ∈ obR G A (rs.set k ⟨l', A4, c4⟩), y = obS A4 ∨ Dj y (obS A5)) (hk : k < rs.length) : (obR G A (rs.set k ⟨l2, A5, c5⟩)).Pairwise Dj := by
 obtain ⟨d1, d2, d3, d4⟩ := h.apart hk
 rw [List.pairwise_iff_getElem]
 have hl : (obR G A (rs.set k ⟨l2, A5, c5⟩)).length = rs.length + 2 := by simp [obR]
 have hl' : (obR G A (rs.set k ⟨l', A4, c4⟩)).length = rs.length + 2 := by simp [obR]
 have same : ∀ i (hi : i < rs.length + 2), i ≠ k + 2 → (obR G A (rs.set k ⟨l2, A5, c5⟩))[i]'(by omega) = (obR G A (rs.set k ⟨l', A4, c4⟩))[i]'(by omega) := fun i hi hne => by
  have e1 : ∀ (x : RowM), (obR G A (rs.set k x))[i]? = (obR G A rs)[i]? := fun x => by rw [obR_set, List.getElem?_set_ne (Ne.symm hne)]
  have := (e1 ⟨l2, A5, c5⟩).trans (e1 ⟨l', A4, c4⟩).symm
  rw [List.getElem?_eq_getElem (by omega), List.getElem?_eq_getElem (by omega)] at this
  injection this
 have gk : (obR G A (rs.set k ⟨l2, A5, c5⟩))[k + 2]'(by omega) = obS A5 := by simp [obR]
 have key : ∀ i (hi : i < rs.length + 2), i ≠ k + 2 → Dj ((obR G A (rs.set k ⟨l', A4, c4⟩))[i]'(by omega)) (obS A5) := fun i hi hne => by
  rcases hn _ (List.getElem_mem (by omega : i < (obR G A (rs.set k ⟨l', A4, c4⟩)).length)) with e | e
  ·have hd := pw_get h.dj (i := i) (j := k + 2) (by omega) (by omega) hne
   have gk' : (obR G A (rs.set k ⟨l', A4, c4⟩))[k + 2]'(by omega) = obS A4 := by simp [obR]
   rw [e, gk'] at hd
   rw [e]
   intro j h1 _
   exact hd j h1 h1
  ·exact e
 intro i j hi hj hij
 by_cases hik : i = k + 2
 ·subst hik
  rw [gk, same j (by omega) (by omega)]
  exact (key j (by omega) (by omega)).symm
 ·by_cases hjk : j = k + 2
  ·subst hjk
   rw [gk, same i (by omega) hik]
   exact key i (by omega) hik
  ·rw [same i (by omega) hik, same j (by omega) hjk]
   exact pw_get h.dj (by omega) (by omega) (by omega)
theorem EDx.grow (h : EDx base G v rs A c k l' A4 c4 X) (hk : k < rs.length) (hbase : base ≤ X.heap.size) (hb1 : Below X.heap.size X w1) {A5 : Option Addr} {c5 n m : Nat} {g : Gl} (hn : n = l'.length + 1) (hown : w2.ownsRow base 89 3 (.slice A5 n c5) n (encGs l' ++ encG g))
  (hgr : w1.grownBy w2 (Value.slice A4 m c4).ownBlock) (hat : (Value.slice A5 n c5).ownBlock = (Value.slice A4 m c4).ownBlock ∨ (Value.slice A5 n c5).ownBlock = some w1.heap.size) : EDx base G v rs A c k (l' ++ [g]) A5 c5 w2 := by
 subst hn
 rw [ob_slice] at hgr
 rw [ob_slice, ob_slice] at hat
 obtain ⟨d1, d2, d3, d4⟩ := h.apart hk
 have h1 := h.below hb1
 refine ⟨h1.blk.grown hgr fun e => d2 G rfl e.symm, h1.rows.kept hgr (by rw [ob_slice]; exact d3.ne), fun j hj hne => (h1.gl j hj hne).kept hgr (by rw [ob_slice]; exact (d4 j hj hne).2.2.ne), by rw [List.length_append, encGs_app]; simpa [encGs] using hown, h.eq, h.lo, h.dj_new (fun y hy => ?_) hk⟩
 by_cases e : y = obS A4
 ·exact .inl e
 ·right
  have hlt : ∀ b, y = some b → b < w1.heap.size := fun b hb => by
   subst hb
   have hz := hb1.size
   unfold obR at hy
   rcases List.mem_cons.1 hy with hy | hy
   ·injection hy with hy; have := h1.blk.lt; omega
   ·rcases List.mem_cons.1 hy with hy | hy
    ·exact (own_ob h1.rows b hy.symm).2
    ·obtain ⟨x, hx, e2⟩ := List.mem_map.1 hy
     obtain ⟨i, hi, rfl⟩ := List.getElem_of_mem hx
     rw [List.length_set] at hi
     by_cases hik : i = k
     ·subst hik
      rw [List.getElem_set_self] at e2
      exact absurd e2.symm e
     ·rw [List.getElem_set_ne (Ne.symm hik)] at e2
      exact (own_ob (h1.gl i hi hik) b e2).2
  obtain ⟨i, hi, rfl⟩ := List.getElem_of_mem hy
  have hlen : (obR G A (rs.set k ⟨l', A4, c4⟩)).length = rs.length + 2 := by simp [obR]
  have gk' : (obR G A (rs.set k ⟨l', A4, c4⟩))[k + 2]'(by omega) = obS A4 := by simp [obR]
  have hik : i ≠ k + 2 := fun e3 => e (by subst e3; exact gk')
  have hd := pw_get h.dj (i := i) (j := k + 2) hi (by omega) hik
  rw [gk'] at hd
  exact Dj.new hd hat hlt
theorem EDx.put (h : EDx base G v rs A c k l' A4 c4 X) (hk : k < rs.length) (hbase : base ≤ X.heap.size) {G1 : Nat} (hA : A = some ⟨G1, 0, none⟩) {l6 : List Gl} {A6 : Option Addr} {c6 : Nat} (hb1 : Below X.heap.size X w1) (hown : w1.ownsRow X.heap.size 89 3 (.slice A6 l6.length c6) l6.length (encGs l6)) :
  ED base G ⟨v.width, v.height, (rls rs).set k l6, v.row, v.col, v.vis⟩ (rs.set k ⟨l6, A6, c6⟩) A c (w1.setCell ⟨G1, k, none⟩ (.slice A6 l6.length c6)) := by
 subst hA
 obtain ⟨d1, d2, d3, d4⟩ := h.apart hk
 have h1 := h.below hb1
 have hfr : ∀ b, obS A6 = some b → X.heap.size ≤ b := fun b hb => (own_ob hown b hb).1
 have hG1 : G1 < X.heap.size := (own_ob h.rows G1 rfl).2
 refine ⟨?_, ?_, fun x hx => ?_, (rls_set rs k ⟨l6, A6, c6⟩).symm, h.lo, h.dj_new (fun y hy => ?_) hk⟩
 ·rw [List.length_set]
  exact h1.blk.far (p := ⟨G1, k, none⟩) (fun e => d1 G rfl (by rw [e]; rfl)) _
 ·rw [List.length_set, encRs_set]
  exact (h1.rows.stored k _).1
 ·obtain ⟨i, hi, rfl⟩ := List.getElem_of_mem hx
  rw [List.length_set] at hi
  by_cases hik : i = k
  ·subst hik
   rw [List.getElem_set_self]
   exact ownsRow_setCell_other (a := ⟨G1, i, none⟩) (own_less hown hbase) (fun e => by
    rw [ob_slice] at e
    have := hfr _ e
    simp only at this
    omega) _
  ·rw [List.getElem_set_ne (Ne.symm hik)]
   exact ownsRow_setCell_other (a := ⟨G1, k, none⟩) (h1.gl i hi hik) (fun e => by
    rw [ob_slice] at e
    exact (d4 i hi hik).2.1 G1 rfl e) _
 ·by_cases e : y = obS A4
  ·exact .inl e
  ·right
   refine Dj.fresh (N := X.heap.size) (fun b hb => ?_) hfr
   subst hb
   unfold obR at hy
   rcases List.mem_cons.1 hy with hy | hy
   ·injection hy with hy; have := h.blk.lt; omega
   ·rcases List.mem_cons.1 hy with hy | hy
    ·exact (own_ob h.rows b hy.symm).2
    ·obtain ⟨x, hx, e2⟩ := List.mem_map.1 hy
     obtain ⟨i, hi, rfl⟩ := List.getElem_of_mem hx
     rw [List.length_set] at hi
     by_cases hik : i = k
     ·subst hik
      rw [List.getElem_set_self] at e2
      exact absurd e2.symm e
     ·rw [List.getElem_set_ne (Ne.symm hik)] at e2
      exact (own_ob (h.gl i hi hik) b e2).2
end
def padG (l : List Gl) (m : Nat) : List Gl := l ++ List.replicate (m - l.length) spG
theorem pad_len (l : List Gl) {m : Nat} (h : l.length ≤ m) : (padG l m).length = m := by
 unfold padG
 rw [List.length_append, List.length_replicate]
 omega
theorem pad_self (l : List Gl) : padG l l.length = l := by unfold padG; simp
theorem pad_succ (l : List Gl) {m : Nat} (h : l.length ≤ m) : padG l (m + 1) = padG l m ++ [spG] := by
 unfold padG
 rw [show m + 1 - l.length = (m - l.length) + 1 by omega, List.replicate_succ', List.append_assoc]
theorem splice_pad (l gs : List Gl) (col count m : Nat) (hl : l.length ≤ m) (hc : col ≤ m) (hm : m ≤ max l.length col) (h : count = 0 ∨ col + count ≤ l.length) : (padG l m).take col ++ gs ++ (padG l m).drop (col + count) = spliceG l col count gs := by
 have e1 : (padG l m).take col = l.take col ++ List.replicate (col - l.length) spG := by
  unfold padG
  rw [List.take_append, List.take_replicate]
  congr 2
  omega
 have e2 : (padG l m).drop (col + count) = l.drop (col + count) := by
  unfold padG
  rw [List.drop_append, List.drop_replicate, show m - l.length - (col + count - l.length) = 0 by omega, List.replicate_zero, List.append_nil]
 unfold spliceG
 rw [e1, e2]
def sliceLen : Value → Nat
 | .slice _ n _ => n
 | _ => 0
def SpI (base G : Nat) (v : Vw) (rs : List RowM) (A : Option Addr) (cA k : Nat) (l : List Gl) (X0 : World) (ch : Array Value) (m : Nat) (A4 : Option Addr) (c4 : Nat) (X : World) : Prop :=
 EDx base G v rs A cA k (padG l m) A4 c4 X ∧ Blk X X0.heap.size 72 ch ∧ Dj (some X0.heap.size) (obS A4) ∧ Below base X0 X ∧ X0.heap.size + 1 ≤ X.heap.size
theorem SpI.next {base G : Nat} {v : Vw} {rs : List RowM} {A : Option Addr} {cA k : Nat} {l : List Gl} {X0 : World} {ch : Array Value} {m : Nat} {A4 : Option Addr} {c4 : Nat} {X w2 : World} {o : Obj} (h : SpI base G v rs A cA k l X0 ch m A4 c4 X) (hk : k < rs.length) (hbase : base ≤ X0.heap.size) (hm : l.length ≤ m) {A5 : Option Addr} {c5 : Nat}
  (hown : w2.ownsRow base 89 3 (.slice A5 (m + 1) c5) (m + 1) (encGs (padG l m) ++ encG spG)) (hbel : Below base (X.alloc o) w2) (hgr : (X.alloc o).grownBy w2 (Value.slice A4 m c4).ownBlock) (hat : (Value.slice A5 (m + 1) c5).ownBlock = (Value.slice A4 m c4).ownBlock ∨ (Value.slice A5 (m + 1) c5).ownBlock = some (X.alloc o).heap.size) :
  SpI base G v rs A cA k l X0 ch (m + 1) A5 c5 w2 := by
 obtain ⟨hE, hbx, hdx, hbw, hzw⟩ := h
 have hz : (X.alloc o).heap.size = X.heap.size + 1 := by simp
 have h5 := hgr.size
 refine ⟨?_, (hbx.alloc o).grown hgr (fun e => ?_), ?_, (hbw.alloc (by omega) _).trans hbel, by omega⟩
 ·rw [pad_succ l hm]
  exact hE.grow hk (by omega) ((Below.refl _ _).alloc (Nat.le_refl _) _) (by rw [pad_len l hm]) hown hgr hat
 ·rw [ob_slice] at e
  exact hdx _ rfl e.symm
 ·rw [ob_slice, ob_slice] at hat
  exact Dj.new hdx hat fun b hb => by injection hb with hb; omega
set_option maxHeartbeats 4000000 in
theorem csplice_ {base G B : Nat} {v : Vw} {rs : List RowM} {A : Option Addr} {cA : Nat} {X0 : World} (h : ED base G v rs A cA X0) (hbase : base ≤ X0.heap.size) (hlen : (rs.length : Int) = v.height) (hh : v.height ≤ 1000) (hrl : ∀ x ∈ rs, x.l.length ≤ 100000000)
  (c : Chg) (Ag : Option Addr) (cap : Nat) (hB : B ≤ base) (rd : Rd X0 B 3 Ag c.glyphs.length (encGs c.glyphs)) (hgl : c.glyphs.length ≤ 100000000) (hk : c.kind = 3) (hr : rangeC v c = true) :
  Calls Tryz.prog 92 #[.pointer (some ⟨G, 0, none⟩), chgV c Ag cap] X0 (EdR base G (stepV v c) X0) := by
 obtain ⟨W, Hh, rows, vr, vc, vis⟩ := v
 obtain ⟨kind, row, col, count, til, g⟩ := c
 dsimp only at hlen hh hk hgl rd
 subst hk
 rw [range_three] at hr
 dsimp only at hr
 obtain ⟨r1, r2, r3, r4, r5, r6⟩ := of_decide_eq_true hr
 have hE := h.eq
 dsimp only at hE
 obtain ⟨k, rfl⟩ : ∃ k : Nat, row = k := ⟨row.toNat, by omega⟩
 obtain ⟨j, rfl⟩ : ∃ j : Nat, col = j := ⟨col.toNat, by omega⟩
 obtain ⟨q, rfl⟩ : ∃ q : Nat, count = q := ⟨count.toNat, by omega⟩
 have hkl : k < rs.length := by omega
 rw [Int.toNat_natCast, hE, rls_getD hkl] at r6
 have hcq : q = 0 ∨ j + q ≤ rs[k].l.length := by omega
 have hS : stepV ⟨W, Hh, rows, vr, vc, vis⟩ ⟨3, (k : Int), (j : Int), (q : Int), til, g⟩ = ⟨W, Hh, (rls rs).set k (trimL (spliceG rs[k].l j q g)), vr, vc, vis⟩ := by
  unfold stepV
  rw [if_neg (show ¬ (3 : Int) = 1 by decide), if_neg (show ¬ (3 : Int) = 2 by decide), if_pos (show (3 : Int) = 3 from rfl)]
  simp only [Int.toNat_natCast]
  rw [hE, rls_getD hkl]
 rw [hS]
 obtain ⟨G1, cap1, hA, hG1, hG2⟩ := h.rows.form (by omega)
 obtain ⟨rfl, rfl⟩ : A = some ⟨G1, 0, none⟩ ∧ cA = cap1 := by injection hA with h1 _ h2; exact ⟨h1, h2⟩
 have hL := hrl _ (List.getElem_mem hkl)
 have HX := Lib.hid (EDx.start h hkl)
 have hcx := h.rows.cellAt k (by omega)
 rw [encRs_get hkl] at hcx
 have hGl := h.blk.lt
 have HRd : Hid (∀ w', Below base X0 w' → Rd w' base 3 Ag g.length (encGs g)) := Lib.hid fun w' hb => ((rd.more hB).below hb)
 clear hS hr r6 hE hrl hA rd
 generalize rs[k].l = l at *
 have hBk := h.blk
 clear h
 go_enter Tryz.func92, Tryz.ntmps92
 go_upto_region 1 with fail
 refine wp_fg (fun X => Blk X X0.heap.size 72 (chgA ⟨3, (k : Int), (j : Int), (q : Int), til, g⟩ Ag cap) ∧ Below X0.heap.size X0 X) ⟨Blk.new _ _ _, (Below.refl _ _).alloc (Nat.le_refl _) _⟩ ?_
 rintro X ⟨hbx, hb⟩
 have c1 : X.cell? ⟨X0.heap.size, 1, none⟩ = some (.int .i64 (k : Int)) := hbx.cell 1
 obtain ⟨e0, e1, e2, e3, e4, e5⟩ := vw_cells (hBk.below hb hGl)
 have hcx2 := (hb.cell (p := ⟨G1, k, none⟩) hG2).trans hcx
 have hki : (k : Int) < (rs.length : Int) := by omega
 go_quiet (fail)
 have hI : SpI base G ⟨W, Hh, rows, vr, vc, vis⟩ rs (some ⟨G1, 0, none⟩) cA k l X0 (chgA ⟨3, (k : Int), (j : Int), (q : Int), til, g⟩ Ag cap) l.length rs[k].A rs[k].cap (X.drewN nq) := by
  have h1 := HX.out.below hb
  rw [← pad_self l] at h1
  exact ⟨h1.below (below_drewN (Below.refl _ _)), hbx.drewN _, Dj.symm (Dj.fresh (N := X0.heap.size) (fun b hb2 => (own_ob HX.out.row b hb2).2) (fun b hb2 => by injection hb2 with e; omega)), below_drewN (hb.mono hbase), hbx.lt⟩
 clear hcx hcx2 hbx hb c1 e0 e1 e2 e3 e4 e5 HX hBk
 generalize rs[k].A = Al at *
 generalize rs[k].cap = cl at *
 go_wp2
 go_loopw [4] (fun x wr => ∃ (m : Nat) (A4 : Option Addr) (c4 : Nat), l.length ≤ m ∧ m ≤ max l.length j ∧ x = .slice A4 m c4 ∧ SpI base G ⟨W, Hh, rows, vr, vc, vis⟩ rs (some ⟨G1, 0, none⟩) cA k l X0 (chgA ⟨3, (k : Int), (j : Int), (q : Int), til, g⟩ Ag cap) m A4 c4 wr) (fun x _ => j - sliceLen x)
 case atStart => exact ⟨l.length, Al, cl, Nat.le_refl _, by omega, rfl, hI⟩
 case round =>
  clear hI
  obtain ⟨m, A4, c4, hm1, hm2, rfl, hx⟩ := hrel
  obtain ⟨hE, hbx, hdx, hbw, hzw⟩ := id hx
  have c2 : wr.cell? ⟨X0.heap.size, 2, none⟩ = some (.int .i64 (j : Int)) := hbx.cell 2
  have hrow := hE.row
  rw [pad_len l hm1] at hrow
  by_cases hlt : m < j
  ·go_wp2_with (at_builtin; go_must (refine app_list rfl _ _ _ rfl elt_gl base _ rfl (hrow.alloc _) _ _ rfl (rd_built (xs := encG spG) (by rfl) rfl) (by rfl) (by omega) (by omega) (by first | (simp; done) | (simp; omega) | omega) ?_); intro A5 c5 w5 hown5 hbel5 hgr5 hat5)
   exact ⟨⟨m + 1, A5, c5, by omega, by omega, rfl, hx.next hkl hbase hm1 hown5 hbel5 hgr5 hat5⟩, by simp only [sliceLen]; omega⟩
  ·have hcaps := own_caps7 hrow
   have hcap2 : (c4 : Int) ≤ 9223372036854775807 := by have := hcaps.2; unfold maxLen at this; omega
   obtain ⟨u, hu⟩ : ∃ u, (encRs rs)[k]? = some u := ⟨_, encRs_get hkl⟩
   have hcx := hE.rows.cellAt k (by omega)
   rw [hu] at hcx
   have hfx := hE.rows.frozenAt k
   have hG1w := (own_ob hE.rows G1 rfl).2
   have hGw := hE.blk.lt
   have HCE : Hid (∀ w', Below wr.heap.size wr w' → (w'.cell? ⟨G, 2, none⟩ = some (.slice (some ⟨G1, 0, none⟩) rs.length cA) ∧ w'.cell? ⟨X0.heap.size, 1, none⟩ = some (.int .i64 (k : Int)) ∧ w'.cell? ⟨X0.heap.size, 2, none⟩ = some (.int .i64 (j : Int)) ∧ w'.cell? ⟨X0.heap.size, 3, none⟩ = some (.int .i64 (q : Int)) ∧ w'.cell? ⟨X0.heap.size, 5, none⟩ = some (.slice Ag g.length cap)) ∧ w'.cell? ⟨G1, k, none⟩ = some u ∧ w'.frozen? ⟨G1, k, none⟩ = false) := Lib.hid fun w' hw =>
    ⟨⟨(hw.cell (p := ⟨G, 2, none⟩) hGw).trans (hE.blk.cell 2), (hw.cell (p := ⟨X0.heap.size, 1, none⟩) hbx.lt).trans (hbx.cell 1), (hw.cell (p := ⟨X0.heap.size, 2, none⟩) hbx.lt).trans (hbx.cell 2), (hw.cell (p := ⟨X0.heap.size, 3, none⟩) hbx.lt).trans (hbx.cell 3), (hw.cell (p := ⟨X0.heap.size, 5, none⟩) hbx.lt).trans (hbx.cell 5)⟩, (hw.cell (p := ⟨G1, k, none⟩) hG1w).trans hcx, (hw.frozen (p := ⟨G1, k, none⟩) hG1w).trans hfx⟩
   have hsl : (spliceG l j q g).length ≤ 400000000 := by
    unfold spliceG
    simp only [List.length_append, List.length_take, List.length_replicate, List.length_drop]
    omega
   have hjm : j + q ≤ m := by omega
   obtain ⟨t, ht⟩ : ∃ t, t = j + q := ⟨_, rfl⟩
   have HConc : Hid (∀ W1, Below wr.heap.size wr W1 → Calls Tryz.prog 113 #[.slice (some ⟨W1.heap.size, 0, none⟩) 3 3] (W1.alloc (.cells #[.slice A4 j c4, .slice Ag g.length cap, .slice (if c4 = t then A4 else A4.map (·.add (t * 3))) (m - t) (c4 - t)] 51)).drew fun e w' => ∃ A5 c5, e = .returned (.slice A5 (spliceG l j q g).length c5) ∧ w'.ownsRow wr.heap.size 89 3 (.slice A5 (spliceG l j q g).length c5) (spliceG l j q g).length (encGs (spliceG l j q g)) ∧ Below wr.heap.size wr w') := Lib.hid fun W1 hW => by
    have hz := hW.size
    have hp := splice_pad l g j q m hm1 (by omega) hm2 hcq
    rw [← ht] at hp
    have hR := (Rd.of_own (own_below hrow hW)).below ((Below.refl W1.heap.size W1).alloc (Nat.le_refl _) (.cells #[.slice A4 j c4, .slice Ag g.length cap, .slice (if c4 = t then A4 else A4.map (·.add (t * 3))) (m - t) (c4 - t)] 51))
    have hcat : catG [⟨(padG l m).take j, A4, c4⟩, ⟨g, Ag, cap⟩, ⟨(padG l m).drop t, if c4 = t then A4 else A4.map (·.add (t * 3)), c4 - t⟩] = spliceG l j q g := by
     rw [← hp]
     simp [catG, rls]
    have l1 : ((padG l m).take j).length = j := by rw [List.length_take, pad_len l hm1]; omega
    have l2 : ((padG l m).drop t).length = m - t := by rw [List.length_drop, pad_len l hm1]
    have hc := concat_gl [⟨(padG l m).take j, A4, c4⟩, ⟨g, Ag, cap⟩, ⟨(padG l m).drop t, if c4 = t then A4 else A4.map (·.add (t * 3)), c4 - t⟩] (some ⟨W1.heap.size, 0, none⟩) 3 3 (W1.heap.size + 1) (W1.alloc (.cells #[.slice A4 j c4, .slice Ag g.length cap, .slice (if c4 = t then A4 else A4.map (·.add (t * 3))) (m - t) (c4 - t)] 51)).drew rfl (by omega) (by simp) (by rw [hcat]; omega)
     (by
      have := rd_built (w := W1) (xs := [.slice A4 j c4, .slice Ag g.length cap, .slice (if c4 = t then A4 else A4.map (·.add (t * 3))) (m - t) (c4 - t)]) (e := 51) (m := 3) (size := 1) rfl rfl
      unfold encRs
      simp only [List.map_cons, List.map_nil, l1, l2]
      exact this)
     (fun x hx => by
      simp only [List.mem_cons, List.not_mem_nil, or_false] at hx
      rcases hx with rfl | rfl | rfl
      ·dsimp only
       rw [l1, encGs_take]
       exact (hR.more (Nat.le_succ _)).take (by omega)
      ·exact ((HRd.out _ (hbw.trans (hW.mono (by omega)))).below ((Below.refl _ _).alloc (by omega) _)).more (by omega)
      ·dsimp only
       rw [l2, encGs_drop]
       exact (hR.more (Nat.le_succ _)).cut (by omega) hcaps.1)
    rw [hcat] at hc
    exact hc.mono fun e w' ⟨A5, c5, h1, h2, h3⟩ => ⟨A5, c5, h1, own_less h2 (by simp; omega), ((hW.alloc hz _).drew).trans (h3.mono (by simp; omega))⟩
   have HTr : Hid (∀ W1 A5 c5, Below wr.heap.size wr W1 → W1.ownsRow wr.heap.size 89 3 (.slice A5 (spliceG l j q g).length c5) (spliceG l j q g).length (encGs (spliceG l j q g)) → Calls Tryz.prog 111 #[.slice A5 (spliceG l j q g).length c5] W1 fun e w' => ∃ A6 c6, e = .returned (.slice A6 (trimL (spliceG l j q g)).length c6) ∧ w'.ownsRow wr.heap.size 89 3 (.slice A6 (trimL (spliceG l j q g)).length c6) (trimL (spliceG l j q g)).length (encGs (trimL (spliceG l j q g))) ∧ Below wr.heap.size wr w') := Lib.hid fun W1 A5 c5 hW ho => by
    have hcp := own_caps7 ho
    exact (vtrim_ _ A5 _ c5 W1.heap.size W1 (by omega) hcp.1 hcp.2 (Rd.of_own ho) (Nat.le_refl _)).mono fun e w' ⟨A6, c6, h1, h2, h3⟩ => ⟨A6, c6, h1, own_less h2 hW.size, hW.trans (h3.mono hW.size)⟩
   generalize spliceG l j q g = S at *
   have hEh := Lib.hid hE
   have hjc : (j : Int) ≤ c4 := by omega
   have hjqm : (j : Int) + q ≤ m := by omega
   have hmc : (m : Int) ≤ c4 := by omega
   have hb0 : Below wr.heap.size wr wr := Below.refl _ _
   obtain ⟨⟨s1, s2, s3, s4, s5⟩, s6, s7⟩ := HCE.out wr hb0
   have hn1 : G ≠ G1 := fun e => (hE.apart hkl).1 G rfl (by rw [e]; rfl)
   have hn2 : G1 ≠ G := Ne.symm hn1
   have hn3 : X0.heap.size ≠ G1 := by omega
   have hn4 : G1 ≠ X0.heap.size := by omega
   have hrow2 := hrow.2
   clear hlen hh r2
   clear hE hbx hx hcx hfx hrow hu hdx HRd hGw hG1w c2 hL hcq hm1 hm2
   have q2 : IntKind.i64.wrap ((j : Int) + q) = (t : Int) := by rw [IntKind.wrap_i64]; omega
   rcases hrow2 with ⟨hv, hm0⟩ | ⟨b4, cap4, -, hv, -⟩
   ·obtain rfl : A4 = none := by injection hv
    simp only [Option.map_none, ite_self] at HConc
    have i3 : (t : Int) ≤ c4 := by omega
    have i4 : (t : Int) ≤ m := by omega
    have i5 : (j : Int) ≤ t := by omega
    clear hv hm0 ht hjm hjqm
    go_upto_region 4 with fail
    go_region_held3 (fun w' => (w'.cell? ⟨G, 2, none⟩ = some (.slice (some ⟨G1, 0, none⟩) rs.length cA) ∧ w'.cell? ⟨X0.heap.size, 1, none⟩ = some (.int .i64 (k : Int)) ∧ w'.cell? ⟨X0.heap.size, 2, none⟩ = some (.int .i64 (j : Int)) ∧ w'.cell? ⟨X0.heap.size, 3, none⟩ = some (.int .i64 (q : Int)) ∧ w'.cell? ⟨X0.heap.size, 5, none⟩ = some (.slice Ag g.length cap))) (first | (refine (HCE.out _ ?_).1; (repeat (first | exact Below.refl _ _ | assumption | refine Below.drew ?_ | refine Below.alloc ?_ (by first | (simp; done) | (simp; omega) | omega) _ | refine Below.setCell ?_ (by first | (simp; done) | (simp; omega) | omega) _)); done) | go_keep) (first
     | (go_at_call 113; refine (HConc.out _ (by (repeat (first | exact Below.refl _ _ | assumption | refine Below.drew ?_ | refine Below.alloc ?_ (by first | (simp; done) | (simp; omega) | omega) _ | refine Below.setCell ?_ (by first | (simp; done) | (simp; omega) | omega) _)))).mono ?_; rintro e w1 ⟨A5, c5, rfl, o1, b1⟩)
     | (go_at_call 111; refine (HTr.out _ _ _ b1 o1).mono ?_; rintro e w2 ⟨A6, c6, rfl, o2, b2⟩; obtain ⟨-, t6, t7⟩ := HCE.out w2 b2))
    go_wp2
    go_end0
    exact ⟨rfl, ⟨_, _, _, EDx.put hEh.out hkl (Nat.le_trans hbase (Nat.le_of_lt hzw)) rfl b2 o2⟩, (hbw.trans (b2.mono (Nat.le_trans hbase (Nat.le_of_lt hzw)))).setCell (p := ⟨G1, k, none⟩) hG1 _⟩
   ·obtain ⟨rfl, rfl⟩ : A4 = some ⟨b4, 0, none⟩ ∧ c4 = cap4 := by injection hv with h1 _ h2; exact ⟨h1, h2⟩
    clear hv
    have i3 : (t : Int) ≤ c4 := by omega
    have i4 : (t : Int) ≤ m := by omega
    have i5 : (j : Int) ≤ t := by omega
    by_cases hce : c4 = t
    ·obtain rfl : m = t := by omega
     simp only [if_pos hce, hce, Nat.sub_self] at HConc
     subst hce
     clear hjc hjqm hmc ht hjm i3 i4
     go_upto_region 4 with fail
     go_region_held3 (fun w' => (w'.cell? ⟨G, 2, none⟩ = some (.slice (some ⟨G1, 0, none⟩) rs.length cA) ∧ w'.cell? ⟨X0.heap.size, 1, none⟩ = some (.int .i64 (k : Int)) ∧ w'.cell? ⟨X0.heap.size, 2, none⟩ = some (.int .i64 (j : Int)) ∧ w'.cell? ⟨X0.heap.size, 3, none⟩ = some (.int .i64 (q : Int)) ∧ w'.cell? ⟨X0.heap.size, 5, none⟩ = some (.slice Ag g.length cap))) (first | (refine (HCE.out _ ?_).1; (repeat (first | exact Below.refl _ _ | assumption | refine Below.drew ?_ | refine Below.alloc ?_ (by first | (simp; done) | (simp; omega) | omega) _ | refine Below.setCell ?_ (by first | (simp; done) | (simp; omega) | omega) _)); done) | go_keep) (first
      | (go_at_call 113; refine (HConc.out _ (by (repeat (first | exact Below.refl _ _ | assumption | refine Below.drew ?_ | refine Below.alloc ?_ (by first | (simp; done) | (simp; omega) | omega) _ | refine Below.setCell ?_ (by first | (simp; done) | (simp; omega) | omega) _)))).mono ?_; rintro e w1 ⟨A5, c5, rfl, o1, b1⟩)
      | (go_at_call 111; refine (HTr.out _ _ _ b1 o1).mono ?_; rintro e w2 ⟨A6, c6, rfl, o2, b2⟩; obtain ⟨-, t6, t7⟩ := HCE.out w2 b2))
     go_wp2
     go_end0
     exact ⟨rfl, ⟨_, _, _, EDx.put hEh.out hkl (Nat.le_trans hbase (Nat.le_of_lt hzw)) rfl b2 o2⟩, (hbw.trans (b2.mono (Nat.le_trans hbase (Nat.le_of_lt hzw)))).setCell (p := ⟨G1, k, none⟩) hG1 _⟩
    ·simp only [if_neg hce, Option.map_some, add_none, Nat.zero_add] at HConc
     clear ht hjm hjqm
     go_upto_region 4 with fail
     go_region_held3 (fun w' => (w'.cell? ⟨G, 2, none⟩ = some (.slice (some ⟨G1, 0, none⟩) rs.length cA) ∧ w'.cell? ⟨X0.heap.size, 1, none⟩ = some (.int .i64 (k : Int)) ∧ w'.cell? ⟨X0.heap.size, 2, none⟩ = some (.int .i64 (j : Int)) ∧ w'.cell? ⟨X0.heap.size, 3, none⟩ = some (.int .i64 (q : Int)) ∧ w'.cell? ⟨X0.heap.size, 5, none⟩ = some (.slice Ag g.length cap))) (first | (refine (HCE.out _ ?_).1; (repeat (first | exact Below.refl _ _ | assumption | refine Below.drew ?_ | refine Below.alloc ?_ (by first | (simp; done) | (simp; omega) | omega) _ | refine Below.setCell ?_ (by first | (simp; done) | (simp; omega) | omega) _)); done) | go_keep) (first
      | (go_at_call 113; refine (HConc.out _ (by (repeat (first | exact Below.refl _ _ | assumption | refine Below.drew ?_ | refine Below.alloc ?_ (by first | (simp; done) | (simp; omega) | omega) _ | refine Below.setCell ?_ (by first | (simp; done) | (simp; omega) | omega) _)))).mono ?_; rintro e w1 ⟨A5, c5, rfl, o1, b1⟩)
      | (go_at_call 111; refine (HTr.out _ _ _ b1 o1).mono ?_; rintro e w2 ⟨A6, c6, rfl, o2, b2⟩; obtain ⟨-, t6, t7⟩ := HCE.out w2 b2))
     go_wp2
     go_end0
     exact ⟨rfl, ⟨_, _, _, EDx.put hEh.out hkl (Nat.le_trans hbase (Nat.le_of_lt hzw)) rfl b2 o2⟩, (hbw.trans (b2.mono (Nat.le_trans hbase (Nat.le_of_lt hzw)))).setCell (p := ⟨G1, k, none⟩) hG1 _⟩
section
variable {base G c : Nat} {v : Vw} {rs : List RowM} {A : Option Addr} {X w1 w2 : World}
theorem ED.ob_lt (h : ED base G v rs A c X) : ∀ y ∈ obR G A rs, ∀ b, y = some b → b < X.heap.size := fun y hy b hb => by
 subst hb
 unfold obR at hy
 rcases List.mem_cons.1 hy with hy | hy
 ·injection hy with hy; have := h.blk.lt; omega
 ·rcases List.mem_cons.1 hy with hy | hy
  ·exact (own_ob h.rows b hy.symm).2
  ·obtain ⟨x, hx, e⟩ := List.mem_map.1 hy
   exact (own_ob (h.gl x hx) b e).2
theorem ED.addnil (h : ED base G v rs A c X) (hb1 : Below X.heap.size X w1) {A2 : Option Addr} {c2 n m : Nat} (hn : n = rs.length + 1) (hown : w2.ownsRow base 51 1 (.slice A2 n c2) n (encRs rs ++ [.slice none 0 0]))
  (hgr : w1.grownBy w2 (Value.slice A m c).ownBlock) (hat : (Value.slice A2 n c2).ownBlock = (Value.slice A m c).ownBlock ∨ (Value.slice A2 n c2).ownBlock = some w1.heap.size) :
  ED base G ⟨v.width, v.height, rls rs ++ [[]], v.row, v.col, v.vis⟩ (rs ++ [nilR]) A2 c2 (w2.setCell ⟨G, 2, none⟩ (.slice A2 n c2)) := by
 subst hn
 rw [ob_slice] at hgr
 rw [ob_slice, ob_slice] at hat
 have h1 := h.below hb1
 obtain ⟨hd1, hd2⟩ := List.pairwise_cons.1 h.dj
 obtain ⟨hd3, hd4⟩ := List.pairwise_cons.1 hd2
 have hlt := h1.ob_lt
 have hnew : ∀ y ∈ obR G A rs, Dj (obS A) y → Dj (obS A2) y := fun y hy hd => (Dj.new hd.symm hat (hlt y hy)).symm
 have dG : Dj (some G) (obS A2) := (hnew _ (by simp [obR]) (hd1 _ (by simp)).symm).symm
 have len1 : (rs ++ [nilR]).length = rs.length + 1 := by simp
 have hblk := ((h1.blk.grown hgr fun e => hd1 (obS A) (by simp) G rfl e.symm).set_ 2 (.slice A2 (rs.length + 1) c2))
 refine ⟨by rw [len1]; exact hblk, ?_, fun x hx => ?_, by unfold rls; rw [List.map_append]; rfl, h.lo, ?_⟩
 ·rw [len1, encRs_app]
  exact ownsRow_setCell_other (a := ⟨G, 2, none⟩) hown (fun e => by rw [ob_slice] at e; exact dG G rfl e) _
 ·rcases List.mem_append.1 hx with hx | hx
  ·have hm := List.mem_map_of_mem (f := fun x => obS x.A) hx
   exact ownsRow_setCell_other (a := ⟨G, 2, none⟩) ((h1.gl x hx).kept hgr (by rw [ob_slice]; exact (hd3 _ hm).symm.ne)) (fun e => by
    rw [ob_slice] at e
    exact hd1 _ (List.mem_cons_of_mem _ hm) G rfl e) _
  ·rw [List.mem_singleton.1 hx]
   exact own_nil _ _ _ _
 ·unfold obR
  rw [List.map_append, ← List.cons_append, ← List.cons_append]
  refine pw_snoc (List.pairwise_cons.2 ⟨fun y hy => ?_, List.pairwise_cons.2 ⟨fun y hy => hnew y (by unfold obR; exact List.mem_cons_of_mem _ (List.mem_cons_of_mem _ hy)) (hd3 y hy), hd4⟩⟩) (fun y _ j h1 h2 => by cases h2)
  rcases List.mem_cons.1 hy with rfl | hy
  ·exact dG
  ·exact hd1 y (List.mem_cons_of_mem _ hy)
theorem own_take1 {w : World} {e : TypeId} {n m : Nat} {xs : List Value} (h : w.ownsRow base e 1 (.slice A n c) n xs) (hm : m ≤ n) (hm0 : 0 < m) : w.ownsRow base e 1 (.slice A m c) m (xs.take m) := by
 refine ⟨by rw [List.length_take, h.1]; omega, ?_⟩
 rcases h.2 with ⟨_, h0⟩ | ⟨g, cap, cur, h1, h2, h3, h4, h5, h6, h7⟩
 ·omega
 ·injection h1 with e1 _ e2
  subst e1 e2
  refine .inr ⟨g, c, cur, rfl, h2, h3, by omega, h5, h6, ?_⟩
  rw [← h7, List.take_take]
  congr 1
  omega
theorem ED.cut (h : ED base G v rs A c X) {m : Nat} (hm : m ≤ rs.length) (hm0 : 0 < m) : ED base G ⟨v.width, v.height, (rls rs).take m, v.row, v.col, v.vis⟩ (rs.take m) A c (X.setCell ⟨G, 2, none⟩ (.slice A m c)) := by
 obtain ⟨hd1, hd2⟩ := List.pairwise_cons.1 h.dj
 have len1 : (rs.take m).length = m := by rw [List.length_take]; omega
 have hblk := h.blk.set_ 2 (.slice A m c)
 refine ⟨by rw [len1]; exact hblk, ?_, fun x hx => ?_, by unfold rls; rw [List.map_take], h.lo, ?_⟩
 ·rw [len1]
  have := own_take1 h.rows hm hm0
  rw [show (encRs rs).take m = encRs (rs.take m) by unfold encRs; rw [List.map_take]] at this
  exact ownsRow_setCell_other (a := ⟨G, 2, none⟩) this (fun e => by rw [ob_slice] at e; exact hd1 (obS A) (by simp) G rfl e) _
 ·have hx' := List.mem_of_mem_take hx
  exact ownsRow_setCell_other (a := ⟨G, 2, none⟩) (h.gl x hx') (fun e => by
   rw [ob_slice] at e
   exact hd1 _ (List.mem_cons_of_mem _ (List.mem_map_of_mem (f := fun x => obS x.A) hx')) G rfl e) _
 ·have : obR G A (rs.take m) = (obR G A rs).take (m + 2) := by
   unfold obR
   rw [List.take_succ_cons, List.take_succ_cons, List.map_take]
  rw [this]
  exact h.dj.sublist (List.take_sublist _ _)
end
theorem fit_drop {l : List Gl} {q : Nat} (h : q < l.length) (w : Int) : fitN w (l.drop q) = if w < (glW l[q] : Int) then 0 else fitN (w - glW l[q]) (l.drop (q + 1)) + 1 := by
 rw [List.drop_eq_getElem_cons h, fitN]
theorem rowW_take {l : List Gl} {q : Nat} (h : q < l.length) : rowW (l.take (q + 1)) = rowW (l.take q) + glW l[q] := by
 unfold rowW glW
 rw [wide_take h, List.length_take, List.length_take]
 cases l[q].wide
 ·simp only [Bool.toNat_false, Bool.false_eq_true, if_false]; omega
 ·simp only [Bool.toNat_true, if_true]; omega
theorem rowW_one (g : Gl) : rowW [g] = glW g := by
 unfold rowW wideN glW
 cases h : g.wide <;> simp [h]
theorem rowW_le (l : List Gl) : rowW l ≤ 2 * l.length := by
 unfold rowW
 have := wide_le l
 omega
theorem pad_rows (rows : List (List Gl)) (m h : Nat) (hm : rows.length ≤ m) (hh : h ≤ m) : (rows ++ List.replicate (m - rows.length) []).take h = (List.range h).map fun i => rows.getD i [] := by
 refine List.ext_getElem (by rw [List.length_take, List.length_append, List.length_replicate, List.length_map, List.length_range]; omega) fun i h1 h2 => ?_
 rw [List.length_map, List.length_range] at h2
 rw [List.getElem_take, List.getElem_map, List.getElem_range, List.getElem_append, List.getD_eq_getElem?_getD]
 split
 ·rw [List.getElem?_eq_getElem (by assumption)]; rfl
 ·rw [List.getElem_replicate, List.getElem?_eq_none (by omega)]; rfl
def SzA (base G : Nat) (W H vr vc : Int) (vis : Bool) (rows : List (List Gl)) (X0 : World) (m : Nat) (X : World) : Prop :=
 rows.length ≤ m ∧ ∃ rs A c, rs.length = m ∧ rls rs = rows ++ List.replicate (m - rows.length) [] ∧ ED base G ⟨W, H, rls rs, vr, vc, vis⟩ rs A c X ∧ Below base X0 X ∧ X0.heap.size + 1 ≤ X.heap.size
def SzB (base G : Nat) (W H vr vc : Int) (vis : Bool) (R : List (List Gl)) (A : Option Addr) (c : Nat) (X0 : World) (k : Nat) (X : World) : Prop :=
 ∃ rs, rs.length = R.length ∧ rls rs = (R.take k).map (cutR W) ++ R.drop k ∧ ED base G ⟨W, H, rls rs, vr, vc, vis⟩ rs A c X ∧ Below base X0 X
theorem SzB.next {base G : Nat} {W H vr vc : Int} {vis : Bool} {R : List (List Gl)} {A : Option Addr} {c : Nat} {X0 X w1 : World} {k : Nat} {rs : List RowM} (hl : rs.length = R.length) (hr : rls rs = (R.take k).map (cutR W) ++ R.drop k) (hE : ED base G ⟨W, H, rls rs, vr, vc, vis⟩ rs A c X) (hb : Below base X0 X) (hk : k < R.length) (hbase : base ≤ X.heap.size) {G1 : Nat} (hA : A = some ⟨G1, 0, none⟩)
  {A6 : Option Addr} {c6 : Nat} (hb1 : Below X.heap.size X w1) (hown : w1.ownsRow X.heap.size 89 3 (.slice A6 (cutR W R[k]).length c6) (cutR W R[k]).length (encGs (cutR W R[k]))) :
  SzB base G W H vr vc vis R A c X0 (k + 1) (w1.setCell ⟨G1, k, none⟩ (.slice A6 (cutR W R[k]).length c6)) := by
 have hk' : k < rs.length := by omega
 have hp := EDx.put (EDx.start hE hk') hk' hbase hA hb1 hown
 have e : rls (rs.set k ⟨cutR W R[k], A6, c6⟩) = (R.take (k + 1)).map (cutR W) ++ R.drop (k + 1) := by
  have l0 : ((R.take k).map (cutR W)).length = k := by rw [List.length_map, List.length_take]; omega
  rw [rls_set, hr, List.set_append_right _ _ (by omega), l0, Nat.sub_self, List.drop_eq_getElem_cons hk, List.set_cons_zero, List.take_succ_eq_append_getElem hk, List.map_append, List.append_assoc]
  rfl
 have hG1 : base ≤ G1 := by
  subst hA
  exact (own_ob hE.rows G1 rfl).1
 refine ⟨rs.set k ⟨cutR W R[k], A6, c6⟩, by rw [List.length_set]; exact hl, e, ?_, (hb.trans (hb1.mono hbase)).setCell (p := ⟨G1, k, none⟩) hG1 _⟩
 rw [rls_set]
 exact hp
end Go.Proofs.YtholajadbbdcmaaGreatDoor
