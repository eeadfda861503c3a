/- Joined texts: LvRow. -/
import Derived.Test.YtholajadbbdcmaaGreatDoorQAA
import Derived.Test.YtholajadbbdcmaaGreatDoorQAB
import Derived.Test.YtholajadbbdcmaaGreatDoorQAC
import Derived.Test.YtholajadbbdcmaaGreatDoorQAE
import Derived.Test.YtholajadbbdcmaaGreatDoorQAG
import Derived.Test.YtholajadbbdcmaaGreatDoorQAM
import Derived.Test.YtholajadbbdcmaaGreatDoorQAQ
import Derived.Test.YtholajadbbdcmaaGreatDoorQAS
import Derived.Test.YtholajadbbdcmaaGreatDoorQAT
import Derived.Test.YtholajadbbdcmaaGreatDoorQBH
import Derived.Test.YtholajadbbdcmaaGreatDoorQBU
set_option linter.unusedVariables false
set_option linter.unusedSimpArgs false
set_option linter.unnecessarySimpa false
namespace Go.Proofs.YtholajadbbdcmaaGreatDoor
open Go.ChangeShapes Go.WideShapes Go.ChangeAt Go.RowKit Go.Deep
theorem slice_of {H : Type} {enc : TypeId × Value → H} {P : Program} {w : World} {base : Nat} {spare : Nat → Bool} {held : Bool} {k : Nat} {t e : TypeId} {v : Value} {y : DataW H × List MemPlace} (ht : P.underlying t = some (.slice e)) (h : DataW.trod enc P w base spare held k t [v] = some y) :
  ∃ A len cap, v = .slice A len cap := by
 rcases open_slice ht h with ⟨hcs, _⟩ | ⟨a5, len5, cap5, m5, n5, D5, Pl5, hcs5, _⟩
 ·exact ⟨none, 0, 0, by simpa using hcs⟩
 ·exact ⟨some a5, len5, cap5, by simpa using hcs5⟩
theorem open_rows {H : Type} {enc : TypeId × Value → H} {P : Program} {w : World} {t e eg : TypeId} {h0 h1 h2 : Field} {A : Option Addr} {len cap : Nat} {d : DataW H} {p : List MemPlace}
  (ht : P.underlying t = some (.slice e)) (he : P.underlying e = some (.slice eg)) (ce : P.cellsOf e = 1)
  (heg : P.underlying eg = some (.struct #[h0, h1, h2])) (ceg : P.cellsOf eg = 3) (hog : [h0.offset, h1.offset, h2.offset] = [0, 1, 2])
  (hg0 : P.underlying h0.type = some .string ∧ P.cellsOf h0.type = 1) (hg1 : P.underlying h1.type = some .bool ∧ P.cellsOf h1.type = 1) (hg2 : P.underlying h2.type = some (.int .i64) ∧ P.cellsOf h2.type = 1)
  (h : DataW.Trod enc P w 0 (fun _ => true) true t (.slice A len cap) d p) :
  ∃ l : List RowM, l.length = len ∧ len ≤ cap ∧ cap ≤ maxLen ∧ RdRs w w.heap.size A len l ∧ ∀ x ∈ l, ∀ g ∈ x.l, g.text.size ≤ maxLen ∧ (Lit.int .i64 g.style).wf = true := by
 obtain ⟨fuel, hf⟩ := h
 rcases open_slice ht hf with ⟨hcs, _⟩ | ⟨a, len', cap', m, n, D, Pl, hcs', _, hl, hm, hmm, _, hx⟩
 ·simp [Value.cells] at hcs
  obtain ⟨rfl, rfl, rfl⟩ := hcs
  exact ⟨[], rfl, Nat.le_refl _, by unfold maxLen; omega, ⟨Rd.none_, fun x hx => by cases hx⟩, fun s hs => by cases hs⟩
 ·simp [Value.cells] at hcs'
  obtain ⟨rfl, rfl, rfl⟩ := hcs'
  simp only [if_true] at hmm
  have each : ∀ i, i < m → ∃ r : RowM, w.cell? (a.add i) = some (.slice r.A r.l.length r.cap) ∧ RdG w w.heap.size r ∧ ∀ g ∈ r.l, g.text.size ≤ maxLen ∧ (Lit.int .i64 g.style).wf = true := by
   intro i hi
   obtain ⟨cs', h1', h2'⟩ := hx i hi
   rw [ce] at h1'
   obtain ⟨_, hlen, hcell⟩ := World.cells?_some h1'
   match cs', hlen with
   | [v], _ =>
    obtain ⟨A5, len5, cap5, rfl⟩ := slice_of he h2'
    obtain ⟨lg, q1, q2, q3, q4, q5⟩ := open_gls he heg ceg hog hg0 hg1 hg2 ⟨_, h2'⟩
    subst q1
    refine ⟨⟨lg, A5, cap5⟩, ?_, ⟨q4, q2, q3⟩, q5⟩
    have hcj := hcell 0 (by simp)
    rw [add_of_add, Nat.mul_one, Nat.add_zero] at hcj
    rw [hcj]
    rfl
  obtain ⟨q, hq⟩ := choose_lt each
  refine ⟨(List.range len).map q, by simp, hl, hm, ⟨⟨by rw [encRs_len]; simp, fun hn => ?_⟩, fun r hr => ?_⟩, fun r hr => ?_⟩
  ·obtain ⟨b, o, spot⟩ := a
   have h0 := (hq 0 (by omega)).1
   have hspot : spot = none := by simpa [Addr.add] using World.cell?_spot h0
   subst hspot
   refine ⟨b, o, rfl, by simpa [Addr.add] using cell_lt h0, fun j u hu => ?_⟩
   have hj : j < len := by
    have := (List.getElem?_eq_some_iff.1 hu).1
    rw [encRs_len] at this
    simpa using this
   have h1 := (hq j (by omega)).1
   rw [add_none] at h1
   rw [h1]
   rw [← hu]
   simp [encRs, hj]
  ·obtain ⟨i, hi, rfl⟩ := List.mem_map.1 hr
   exact (hq i (by have := List.mem_range.1 hi; omega)).2.1
  ·obtain ⟨i, hi, rfl⟩ := List.mem_map.1 hr
   exact (hq i (by have := List.mem_range.1 hi; omega)).2.2
theorem open_model {H : Type} {enc : TypeId × Value → H} {P : Program} {w : World} {base : Nat} {spare : Nat → Bool} {held : Bool} {r : Reach} {b0 : Nat} {t tv tr ti tb te : TypeId} {g0 g1 f0 f1 f2 f3 f4 f5 : Field} {v : Value} {d : DataW H} {ps : List MemPlace}
  (hp : P.underlying t = some (.struct #[g0, g1])) (cp : P.cellsOf t = 7) (op : [g0.offset, g1.offset] = [0, 6]) (typ : g0.type = tv ∧ g1.type = ti) (cv : P.cellsOf tv = 6)
  (ht : P.underlying tv = some (.struct #[f0, f1, f2, f3, f4, f5])) (ho : [f0.offset, f1.offset, f2.offset, f3.offset, f4.offset, f5.offset] = [0, 1, 2, 3, 4, 5])
  (hti : P.underlying ti = some (.int .i64)) (hci : P.cellsOf ti = 1) (htb : P.underlying tb = some .bool) (hcb : P.cellsOf tb = 1) (htr : P.underlying tr = some (.slice te)) (hcr : P.cellsOf tr = 1)
  (hty : f0.type = ti ∧ f1.type = ti ∧ f2.type = tr ∧ f3.type = ti ∧ f4.type = ti ∧ f5.type = tb)
  (hval : Value.okWide P w r b0 t v) (h : DataW.Trod enc P w base spare held t v d ps) :
  ∃ (W Hh : Int) (A : Option Addr) (n c : Nat) (R C : Int) (V : Bool) (U : Int), v = .agg #[.int .i64 W, .int .i64 Hh, .slice A n c, .int .i64 R, .int .i64 C, .bool V, .int .i64 U] ∧ (∃ d p, DataW.Trod enc P w base spare held tr (.slice A n c) d p) ∧
   ((Lit.int .i64 W).wf = true ∧ (Lit.int .i64 Hh).wf = true ∧ (Lit.int .i64 R).wf = true ∧ (Lit.int .i64 C).wf = true ∧ (Lit.int .i64 U).wf = true) := by
 obtain ⟨cs, rfl, hsz⟩ := okWide_struct hp hval
 rw [cp] at hsz
 obtain ⟨fuel, hf⟩ := h
 simp only [List.cons.injEq, and_true] at op ho
 obtain ⟨o0, o1⟩ := op
 obtain ⟨q0, q1, q2, q3, q4, q5⟩ := ho
 obtain ⟨t0, t1, t2, t3, t4, t5⟩ := hty
 obtain ⟨xs, k, hk, hxy, _, hxl, hfl⟩ := DataW.trod_struct hp hf
 obtain ⟨cl'⟩ := cs
 match cl', hsz with
 | [v0, v1, v2, v3, v4, v5, v6], _ =>
  match xs, hxl with
  | [y0, y1], _ =>
   have e0 := hfl 0 g0 rfl
   have e1 := hfl 1 g1 rfl
   rw [o0, typ.1, cv] at e0
   rw [o1, typ.2, hci] at e1
   have e0' : DataW.trod enc P w base spare held k tv [v0, v1, v2, v3, v4, v5] = some y0 := e0
   have e1' : DataW.trod enc P w base spare held k ti [v6] = some y1 := e1
   obtain ⟨U, eU, _, wU⟩ := DataW.trod_int hti e1'
   obtain ⟨xs', k', hk', hxy', _, hxl', hfl'⟩ := DataW.trod_struct ht e0'
   match xs', hxl' with
   | [z0, z1, z2, z3, z4, z5], _ =>
    have g0' := hfl' 0 f0 rfl
    have g1' := hfl' 1 f1 rfl
    have g2' := hfl' 2 f2 rfl
    have g3' := hfl' 3 f3 rfl
    have g4' := hfl' 4 f4 rfl
    have g5' := hfl' 5 f5 rfl
    rw [q0, t0, hci] at g0'
    rw [q1, t1, hci] at g1'
    rw [q2, t2, hcr] at g2'
    rw [q3, t3, hci] at g3'
    rw [q4, t4, hci] at g4'
    rw [q5, t5, hcb] at g5'
    obtain ⟨n0, a0, _, w0⟩ := DataW.trod_int hti g0'
    obtain ⟨n1, a1, _, w1⟩ := DataW.trod_int hti g1'
    obtain ⟨n3, a3, _, w3⟩ := DataW.trod_int hti g3'
    obtain ⟨n4, a4, _, w4⟩ := DataW.trod_int hti g4'
    obtain ⟨n5, a5, _⟩ := DataW.trod_bool htb g5'
    have g2'' : DataW.trod enc P w base spare held k' tr [v2] = some z2 := g2'
    obtain ⟨A, n, c, rfl⟩ := slice_of htr g2''
    simp at eU a0 a1 a3 a4 a5
    subst eU a0 a1 a3 a4 a5
    exact ⟨n0, n1, A, n, c, n3, n4, n5, U, rfl, ⟨z2.1, z2.2, k', g2''⟩, w0, w1, w3, w4, wU⟩
end Go.Proofs.YtholajadbbdcmaaGreatDoor
