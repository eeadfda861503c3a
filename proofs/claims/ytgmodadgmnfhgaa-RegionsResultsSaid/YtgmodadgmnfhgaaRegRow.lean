/- An argument that is a slice of regions, read as a list; the cells of a region. -/
import Derived.Test.YtgmodadgmnfhgaaRow
import Derived.Test.YtgmodadgmnfhgaaRegP
import Derived.Deep.Slices
namespace Go.Proofs.Ytgmodadgmnfhgaa
open Go.ChangeShapes Go.WideShapes Go.ChangeAt Go.RowKit Go.Deep
def encR (r : Reg) : List Value := [.int .i64 r.kind, .int .i64 r.id, .int .i64 r.par, .int .i64 r.top, .int .i64 r.left, .int .i64 r.bot, .int .i64 r.right, .string r.label]
def encL (l : List Reg) : List Value := l.flatMap encR
theorem encR_len (r : Reg) : (encR r).length = 8 := rfl
theorem encL_len : ∀ l : List Reg, (encL l).length = l.length * 8
  | [] => rfl
  | r :: l => by
    have e : encL (r :: l) = encR r ++ encL l := by simp [encL]
    rw [e, List.length_append, encL_len l, encR_len, List.length_cons]
    omega
theorem encL_get : ∀ (l : List Reg) (i j : Nat), j < 8 → (encL l)[i * 8 + j]? = l[i]?.bind fun r => (encR r)[j]?
  | [], i, j, _ => by simp [encL]
  | r :: l, 0, j, h => by
    have e : encL (r :: l) = encR r ++ encL l := by simp [encL]
    rw [e, Nat.zero_mul, Nat.zero_add, List.getElem?_append_left (by rw [encR_len]; exact h)]
    rfl
  | r :: l, i + 1, j, h => by
    have e : encL (r :: l) = encR r ++ encL l := by simp [encL]
    rw [e, List.getElem?_append_right (by rw [encR_len]; omega), encR_len, show (i + 1) * 8 + j - 8 = i * 8 + j by omega, encL_get l i j h]
    rfl
theorem open_regs {H : Type} {enc : TypeId × Value → H} {P : Program} {w : World} {t e : TypeId} {f0 f1 f2 f3 f4 f5 f6 f7 : Field} {A : Option Addr} {len cap : Nat} {d : DataW H} {p : List MemPlace}
    (ht : P.underlying t = some (.slice e)) (he : P.underlying e = some (.struct #[f0, f1, f2, f3, f4, f5, f6, f7])) (ce : P.cellsOf e = 8)
    (ho : [f0.offset, f1.offset, f2.offset, f3.offset, f4.offset, f5.offset, f6.offset, f7.offset] = [0, 1, 2, 3, 4, 5, 6, 7])
    {ti : TypeId} (hti : P.underlying ti = some (.int .i64)) (hci : P.cellsOf ti = 1) (hti' : f0.type = ti ∧ f1.type = ti ∧ f2.type = ti ∧ f3.type = ti ∧ f4.type = ti ∧ f5.type = ti ∧ f6.type = ti)
    (hts : P.underlying f7.type = some .string) (hcs : P.cellsOf f7.type = 1)
    (h : DataW.Trod enc P w 0 (fun _ => true) true t (.slice A len cap) d p) :
    ∃ l : List Reg, l.length = len ∧ len ≤ cap ∧ cap ≤ maxLen ∧ Rd w w.heap.size 8 A len (encL l) ∧ ∀ r ∈ l, r.label.size ≤ maxLen := by
  obtain ⟨fuel, hf⟩ := h
  simp only [List.cons.injEq, and_true] at ho
  obtain ⟨o0, o1, o2, o3, o4, o5, o6, o7⟩ := ho
  obtain ⟨t0, t1, t2, t3, t4, t5, t6⟩ := hti'
  rcases open_slice ht hf with ⟨hcs, _⟩ | ⟨a, len', cap', m, n, D, Pl, hcs', _, hl, hm, hmm, _, hx⟩
  · simp [Value.cells] at hcs
    obtain ⟨rfl, rfl, rfl⟩ := hcs
    exact ⟨[], rfl, Nat.le_refl _, by unfold maxLen; omega, Rd.none_, fun s hs => by cases hs⟩
  · simp [Value.cells] at hcs'
    obtain ⟨rfl, rfl, rfl⟩ := hcs'
    simp only [if_true] at hmm
    have each : ∀ i, i < m → ∃ r : Reg, (∀ j u, (encR r)[j]? = some u → w.cell? (a.add (i * 8 + j)) = some u) ∧ r.label.size ≤ maxLen := by
      intro i hi
      obtain ⟨cs', h1, h2⟩ := hx i hi
      rw [ce] at h1
      obtain ⟨_, hlen, hcell⟩ := World.cells?_some h1
      obtain ⟨xs, k, hk, hxy, _, hxl, hfl⟩ := DataW.trod_struct he h2
      match cs', hlen with
      | [v0, v1, v2, v3, v4, v5, v6, v7], _ =>
        match xs, hxl with
        | [y0, y1, y2, y3, y4, y5, y6, y7], _ =>
          have g0 := hfl 0 f0 rfl
          have g1 := hfl 1 f1 rfl
          have g2 := hfl 2 f2 rfl
          have g3 := hfl 3 f3 rfl
          have g4 := hfl 4 f4 rfl
          have g5 := hfl 5 f5 rfl
          have g6 := hfl 6 f6 rfl
          have g7 := hfl 7 f7 rfl
          rw [o0, t0, hci] at g0
          rw [o1, t1, hci] at g1
          rw [o2, t2, hci] at g2
          rw [o3, t3, hci] at g3
          rw [o4, t4, hci] at g4
          rw [o5, t5, hci] at g5
          rw [o6, t6, hci] at g6
          rw [o7, hcs] at g7
          obtain ⟨n0, e0, _, _⟩ := DataW.trod_int hti g0
          obtain ⟨n1, e1, _, _⟩ := DataW.trod_int hti g1
          obtain ⟨n2, e2, _, _⟩ := DataW.trod_int hti g2
          obtain ⟨n3, e3, _, _⟩ := DataW.trod_int hti g3
          obtain ⟨n4, e4, _, _⟩ := DataW.trod_int hti g4
          obtain ⟨n5, e5, _, _⟩ := DataW.trod_int hti g5
          obtain ⟨n6, e6, _, _⟩ := DataW.trod_int hti g6
          obtain ⟨s, e7, _, hz⟩ := DataW.trod_string hts g7
          simp at e0 e1 e2 e3 e4 e5 e6 e7
          subst e0 e1 e2 e3 e4 e5 e6 e7
          refine ⟨⟨n0, n1, n2, n3, n4, n5, n6, s⟩, fun j u hu => ?_, hz⟩
          have hj : j < 8 := by
            have := (List.getElem?_eq_some_iff.1 hu).1
            rwa [encR_len] at this
          have hcj := hcell j hj
          rw [add_of_add] at hcj
          rw [hcj]
          exact hu
    obtain ⟨q, hq⟩ := choose_lt each
    refine ⟨(List.range len).map q, by simp, hl, hm, ⟨by rw [encL_len]; simp, fun hn => ?_⟩, fun r hr => ?_⟩
    · obtain ⟨b, o, spot⟩ := a
      have h0 := (hq 0 (by omega)).1 0 _ rfl
      have hspot : spot = none := by simpa [Addr.add] using World.cell?_spot h0
      subst hspot
      refine ⟨b, o, rfl, by simpa [Addr.add] using cell_lt h0, fun j u hu => ?_⟩
      have hj : j < len * 8 := by
        have := (List.getElem?_eq_some_iff.1 hu).1
        rw [encL_len] at this
        simpa using this
      have e : j = j / 8 * 8 + j % 8 := by omega
      rw [e, encL_get _ _ _ (by omega)] at hu
      rw [List.getElem?_map, List.getElem?_range (show j / 8 < len by omega)] at hu
      have h1 := (hq (j / 8) (by omega)).1 (j % 8) u (by simpa using hu)
      rw [add_none] at h1
      rw [e]
      exact h1
    · obtain ⟨i, hi, rfl⟩ := List.mem_map.1 hr
      exact (hq i (by have := List.mem_range.1 hi; omega)).2
end Go.Proofs.Ytgmodadgmnfhgaa
