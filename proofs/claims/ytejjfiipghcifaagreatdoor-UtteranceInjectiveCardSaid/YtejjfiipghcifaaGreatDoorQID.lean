/- Joined texts: UtPair. -/
import Derived.Deep.Slices
import Derived.Deep.FieldsWide
import Derived.Test.YtejjfiipghcifaaGreatDoorQAB
import Derived.Test.YtejjfiipghcifaaGreatDoorQAE
import Derived.Test.YtejjfiipghcifaaGreatDoorQAG
import Derived.Test.YtejjfiipghcifaaGreatDoorQAR
import Derived.Test.YtejjfiipghcifaaGreatDoorQBE
set_option linter.unusedVariables false
set_option linter.unusedSimpArgs false
set_option linter.unnecessarySimpa false
namespace Go.Proofs.YtejjfiipghcifaaGreatDoor
open Go.ChangeShapes Go.WideShapes Go.ChangeAt Go.RowKit Go.Deep
theorem open_sett6 {H : Type} {enc : TypeId × Value → H} {P : Program} {w : World} {base : Nat} {spare : Nat → Bool} {held : Bool} {t : TypeId} {f0 f1 f2 f3 f4 f5 : Field} {fuel : Nat} {x0 x1 x2 x3 x4 x5 : Value} {y : DataW H × List MemPlace}
  (ht : P.underlying t = some (.struct #[f0, f1, f2, f3, f4, f5]))
  (ho : [f0.offset, f1.offset, f2.offset, f3.offset, f4.offset, f5.offset] = [0, 1, 2, 3, 4, 5])
  {ti tb : TypeId} (hti : P.underlying ti = some (.int .i64)) (hci : P.cellsOf ti = 1) (htb : P.underlying tb = some .bool) (hcb : P.cellsOf tb = 1)
  (hty : f0.type = ti ∧ f1.type = tb ∧ f2.type = tb ∧ f3.type = ti ∧ f4.type = tb ∧ f5.type = ti)
  (hf : DataW.trod enc P w base spare held fuel t [x0, x1, x2, x3, x4, x5] = some y) :
  ∃ (R : Int) (D S : Bool) (Q : Int) (C : Bool) (K : Int), x0 = .int .i64 R ∧ x1 = .bool D ∧ x2 = .bool S ∧ x3 = .int .i64 Q ∧ x4 = .bool C ∧ x5 = .int .i64 K ∧ (Lit.int .i64 R).wf = true ∧ (Lit.int .i64 Q).wf = true ∧ (Lit.int .i64 K).wf = true := by
 simp only [List.cons.injEq, and_true] at ho
 obtain ⟨o0, o1, o2, o3, o4, o5⟩ := ho
 obtain ⟨t0, t1, t2, t3, t4, t5⟩ := hty
 obtain ⟨xs, k, hk, hxy, _, hxl, hfl⟩ := DataW.trod_struct ht hf
 match xs, hxl with
 | [y0, y1, y2, y3, y4, y5], _ =>
  have g0 := hfl 0 f0 rfl
  have g1 := hfl 1 f1 rfl
  have g2 := hfl 2 f2 rfl
  have g3 := hfl 3 f3 rfl
  have g4 := hfl 4 f4 rfl
  have g5 := hfl 5 f5 rfl
  rw [o0, t0, hci] at g0
  rw [o1, t1, hcb] at g1
  rw [o2, t2, hcb] at g2
  rw [o3, t3, hci] at g3
  rw [o4, t4, hcb] at g4
  rw [o5, t5, hci] at g5
  obtain ⟨n0, e0, _, w0⟩ := DataW.trod_int hti g0
  obtain ⟨n1, e1, _⟩ := DataW.trod_bool htb g1
  obtain ⟨n2, e2, _⟩ := DataW.trod_bool htb g2
  obtain ⟨n3, e3, _, w3⟩ := DataW.trod_int hti g3
  obtain ⟨n4, e4, _⟩ := DataW.trod_bool htb g4
  obtain ⟨n5, e5, _, w5⟩ := DataW.trod_int hti g5
  simp at e0 e1 e2 e3 e4 e5
  subst e0 e1 e2 e3 e4 e5
  exact ⟨n0, n1, n2, n3, n4, n5, rfl, rfl, rfl, rfl, rfl, rfl, w0, w3, w5⟩
theorem open_pair {H : Type} {enc : TypeId × Value → H} {P : Program} {w : World} {base : Nat} {spare : Nat → Bool} {held : Bool} {r : Reach} {b0 : Nat} {t tl te ts : TypeId} {g0 g1 g2 g3 f0 f1 f2 f3 f4 f5 : Field} {v : Value} {d : DataW H} {ps : List MemPlace}
  (hp : P.underlying t = some (.struct #[g0, g1, g2, g3])) (cp : P.cellsOf t = 14) (op : [g0.offset, g1.offset, g2.offset, g3.offset] = [0, 1, 2, 8])
  (typ : g0.type = tl ∧ g1.type = tl ∧ g2.type = ts ∧ g3.type = ts) (hl : P.underlying tl = some (.slice te)) (cl : P.cellsOf tl = 1) (cs6 : P.cellsOf ts = 6)
  (ht : P.underlying ts = some (.struct #[f0, f1, f2, f3, f4, f5]))
  (ho : [f0.offset, f1.offset, f2.offset, f3.offset, f4.offset, f5.offset] = [0, 1, 2, 3, 4, 5])
  {ti tb : TypeId} (hti : P.underlying ti = some (.int .i64)) (hci : P.cellsOf ti = 1) (htb : P.underlying tb = some .bool) (hcb : P.cellsOf tb = 1)
  (hty : f0.type = ti ∧ f1.type = tb ∧ f2.type = tb ∧ f3.type = ti ∧ f4.type = tb ∧ f5.type = ti)
  (hval : Value.okWide P w r b0 t v) (h : DataW.Trod enc P w base spare held t v d ps) :
  ∃ (A : Option Addr) (n c : Nat) (A' : Option Addr) (n' c' : Nat) (R : Int) (D S : Bool) (Q : Int) (C : Bool) (K : Int) (R' : Int) (D' S' : Bool) (Q' : Int) (C' : Bool) (K' : Int),
   v = .agg #[.slice A n c, .slice A' n' c', .int .i64 R, .bool D, .bool S, .int .i64 Q, .bool C, .int .i64 K, .int .i64 R', .bool D', .bool S', .int .i64 Q', .bool C', .int .i64 K'] ∧
   (∃ d p, DataW.Trod enc P w base spare held tl (.slice A n c) d p) ∧ (∃ d p, DataW.Trod enc P w base spare held tl (.slice A' n' c') d p) ∧
   ((Lit.int .i64 R).wf = true ∧ (Lit.int .i64 Q).wf = true ∧ (Lit.int .i64 K).wf = true) ∧ ((Lit.int .i64 R').wf = true ∧ (Lit.int .i64 Q').wf = true ∧ (Lit.int .i64 K').wf = true) := by
 obtain ⟨cs, rfl, hsz⟩ := okWide_struct hp hval
 rw [cp] at hsz
 obtain ⟨fuel, hf⟩ := h
 simp only [List.cons.injEq, and_true] at op
 obtain ⟨o0, o1, o2, o3⟩ := op
 obtain ⟨t0, t1, t2, t3⟩ := typ
 obtain ⟨xs, k, hk, hxy, _, hxl, hfl⟩ := DataW.trod_struct hp hf
 obtain ⟨cl'⟩ := cs
 match cl', hsz with
 | [v0, v1, v2, v3, v4, v5, v6, v7, v8, v9, va, vb, vc, vd], _ =>
  match xs, hxl with
  | [y0, y1, y2, y3], _ =>
   have e0 := hfl 0 g0 rfl
   have e1 := hfl 1 g1 rfl
   have e2 := hfl 2 g2 rfl
   have e3 := hfl 3 g3 rfl
   rw [o0, t0, cl] at e0
   rw [o1, t1, cl] at e1
   rw [o2, t2, cs6] at e2
   rw [o3, t3, cs6] at e3
   have e0' : DataW.trod enc P w base spare held k tl [v0] = some y0 := e0
   have e1' : DataW.trod enc P w base spare held k tl [v1] = some y1 := e1
   obtain ⟨A, n, c, rfl⟩ : ∃ A n c, v0 = .slice A n c := by
    rcases open_slice hl e0' with ⟨hcs, _⟩ | ⟨a5, len5, cap5, m5, n5, D5, Pl5, hcs5, _⟩
    ·exact ⟨none, 0, 0, by simpa using hcs⟩
    ·exact ⟨some a5, len5, cap5, by simpa using hcs5⟩
   obtain ⟨A', n', c', rfl⟩ : ∃ A n c, v1 = .slice A n c := by
    rcases open_slice hl e1' with ⟨hcs, _⟩ | ⟨a5, len5, cap5, m5, n5, D5, Pl5, hcs5, _⟩
    ·exact ⟨none, 0, 0, by simpa using hcs⟩
    ·exact ⟨some a5, len5, cap5, by simpa using hcs5⟩
   obtain ⟨R, D, S, Q, C, K, rfl, rfl, rfl, rfl, rfl, rfl, wR, wQ, wK⟩ := open_sett6 ht ho hti hci htb hcb hty (show DataW.trod enc P w base spare held k ts [v2, v3, v4, v5, v6, v7] = some y2 from e2)
   obtain ⟨R', D', S', Q', C', K', rfl, rfl, rfl, rfl, rfl, rfl, wR', wQ', wK'⟩ := open_sett6 ht ho hti hci htb hcb hty (show DataW.trod enc P w base spare held k ts [v8, v9, va, vb, vc, vd] = some y3 from e3)
   exact ⟨A, n, c, A', n', c', R, D, S, Q, C, K, R', D', S', Q', C', K', rfl, ⟨y0.1, y0.2, k, e0'⟩, ⟨y1.1, y1.2, k, e1'⟩, ⟨wR, wQ, wK⟩, wR', wQ', wK'⟩
end Go.Proofs.YtejjfiipghcifaaGreatDoor
