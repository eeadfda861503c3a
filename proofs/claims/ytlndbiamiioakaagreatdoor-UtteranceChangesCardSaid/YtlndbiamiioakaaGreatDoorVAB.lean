/- Joined: Each, Ut1. -/
import Derived.Lib.Small
import Derived.Test.YtlndbiamiioakaaGreatDoorVAA
set_option linter.unusedVariables false
set_option linter.unusedSimpArgs false
set_option linter.unnecessarySimpa false
namespace Go.Proofs.YtlndbiamiioakaaGreatDoor
open Go.Proofs.Tryz Go.RowKit
section
variable {P : Program}
def eachB (l : List Oper) (n : Nat) : Bool :=
 (l.filterMap (·.dst)).all (fun d => decide (d < n)) && decide ((l.filterMap (·.dst)).Nodup) && (List.range l.length).all fun i => match l[i]? with
  | some o => o.after.all fun e => !Region.binds .any e || decide (e.on < i)
  | none => true
def EachOp (P : Program) (V : Nat -> Value -> World -> Prop) (W : World -> Prop) (T : World -> World -> Prop) (Q : Exit -> Act -> World -> Prop) (l : List Oper) (a : Act) : List Oper -> Nat -> Prop
 | [], _ => True
 | o :: rest, i => (∀ (a' : Act) (w' : World), W w' -> a'.tmps.size = a.tmps.size -> (∀ s, (l.filterMap (·.dst)).contains s = false -> a'.tmps.getD s undef = a.tmps.getD s undef) ->
   (∀ e ∈ o.after, Region.binds .any e = true -> ∀ oe d, l[e.on]? = some oe -> oe.dst = some d -> V e.on (a'.tmps.getD d undef) w') ->
   if Region.wanted o (yielded l.toArray a'.tmps) = true then o.wp P a' w' (fun a'' w'' => ∃ v, a'' = a'.put o.dst v /\ V i v w'' /\ W w'' /\ T w' w'') Q else V i undef w') /\ EachOp P V W T Q l a rest (i + 1)
theorem EachOp.at_ {V : Nat -> Value -> World -> Prop} {W : World -> Prop} {T : World -> World -> Prop} {Q : Exit -> Act -> World -> Prop} {l : List Oper} {a : Act} : ∀ (r : List Oper) (k i : Nat) (o : Oper), EachOp P V W T Q l a r k -> r[i]? = some o ->
  (∀ (a' : Act) (w' : World), W w' -> a'.tmps.size = a.tmps.size -> (∀ s, (l.filterMap (·.dst)).contains s = false -> a'.tmps.getD s undef = a.tmps.getD s undef) ->
   (∀ e ∈ o.after, Region.binds .any e = true -> ∀ oe d, l[e.on]? = some oe -> oe.dst = some d -> V e.on (a'.tmps.getD d undef) w') ->
   if Region.wanted o (yielded l.toArray a'.tmps) = true then o.wp P a' w' (fun a'' w'' => ∃ v, a'' = a'.put o.dst v /\ V (k + i) v w'' /\ W w'' /\ T w' w'') Q else V (k + i) undef w')
 | [], _, _, _, _, h => by cases h
 | o :: r, k, 0, o', h, hi => by
  obtain rfl : o = o' := by simpa using hi
  exact h.1
 | o :: r, k, i + 1, o', h, hi => by
  have := EachOp.at_ r (k + 1) i o' h.2 (by simpa using hi)
  rwa [show k + 1 + i = k + (i + 1) by omega] at this
theorem qeb {a : Act} {d s : Nat} {v : Value} (h : s ≠ d) : (a.put (some d) v).tmps.getD s undef = a.tmps.getD s undef := by
 show (a.tmps.setIfInBounds d v).getD s undef = _
 simp only [Array.getD_eq_getD_getElem?, Array.getElem?_setIfInBounds_ne (Ne.symm h)]
theorem put_same {a : Act} {d : Nat} {v : Value} (h : d < a.tmps.size) : (a.put (some d) v).tmps.getD d undef = v := by
 show (a.tmps.setIfInBounds d v).getD d undef = _
 simp [Array.getD_eq_getD_getElem?, h]
theorem put_size {a : Act} {d : Option Tmp} {v : Value} : (a.put d v).tmps.size = a.tmps.size := by
 cases d <;> simp [Act.put]
theorem put_defs {a : Act} {d : Option Tmp} {v : Value} : (a.put d v).defers = a.defers := by
 cases d <;> rfl
theorem qf {xs : List Value} {n : Nat} (h : xs.length = n + 1) : ∃ u t, xs = u :: t /\ t.length = n := by
 cases xs with
 | nil => simp at h
 | cons u t => exact ⟨u, t, rfl, by simpa using h⟩
theorem qh1 {f : FuncId} {fn : Func} {c : Code} (hf : P.funcs[f]? = some fn) (hname : (fn.name == "runtime.NumGoroutine") = false) (hb : fn.body = some c) (args : Array Value) (w : World) : (callFunc f args).run P w = .ok (.enter f args) w := by
 have h1 : fn.name ≠ "runtime.NumGoroutine" := by simpa using hname
 simp [callFunc, go_sem, hf, h1, hb]
theorem qhh {o : Oper} {a : Act} {w : World} {K : Act -> World -> Prop} {Q : Exit -> Act -> World -> Prop} {c : Call} {f : FuncId} {args : Array Value} (ho : o.op = .call c) (hc : c.callee = .value (.func f)) (ha : c.args.map a.eval = args)
  {fn : Func} {cd : Code} (hf : P.funcs[f]? = some fn) (hname : (fn.name == "runtime.NumGoroutine") = false) (hb : fn.body = some cd)
  (h : Calls P f args w fun e w'' => ∃ v, e = .returned v /\ K (a.put o.dst v) w'') : o.wp P a w K Q := by
 have e : (execOp a.eval o).run P w = .ok (.enter f args) w := by
  obtain ⟨callee, cargs, ctypes⟩ := c
  simp only at hc ha
  subst hc
  unfold execOp
  simp only [ho, resolve, Act.eval, Deferred.ofValue, ha]
  simp [go_sem, invoke, qh1 hf hname hb]
 unfold Oper.wp
 rw [e]
 exact h.mono fun en w'' ⟨v, he, hk⟩ => by subst he; exact hk
theorem qaJ {o : Oper} {a : Act} {w : World} {K : Act -> World -> Prop} {Q : Exit -> Act -> World -> Prop} {v : Value} (h : (execOp a.eval o).run P w = .ok (.value v) w) (hk : K (a.put o.dst v) w) : o.wp P a w K Q := by
 unfold Oper.wp
 rw [h]
 exact hk
theorem qcd {o : Oper} {a : Act} {w : World} {x : Operand} {t : TypeId} {p v : Value} (ho : o.op = .load t x) (hx : a.eval x = p) (h : (Instr.loadAt t p).run P w = .ok v w) : (execOp a.eval o).run P w = .ok (.value v) w := by
 unfold execOp
 simp only [ho, hx, Sem.run_bind, h, Result.andThen_ok]
 rfl
end
end Go.Proofs.YtlndbiamiioakaaGreatDoor
namespace Go.Proofs.YtlndbiamiioakaaGreatDoor
def jP : List (Int × Int) := [(0x1100, 0x115F), (0x2E80, 0x303E), (0x3041, 0x33FF), (0x3400, 0x4DBF), (0x4E00, 0x9FFF), (0xA000, 0xA4CF), (0xAC00, 0xD7A3), (0xF900, 0xFAFF), (0xFE30, 0xFE6F), (0xFF00, 0xFF60), (0xFFE0, 0xFFE6), (0x1F300, 0x1F64F), (0x1F900, 0x1F9FF), (0x20000, 0x3FFFD)]
def q6 : List (Int × Int) := [(0x0300, 0x036F), (0x1AB0, 0x1AFF), (0x1DC0, 0x1DFF), (0x200B, 0x200F), (0x20D0, 0x20FF), (0xFE00, 0xFE0F), (0xFE20, 0xFE2F)]
def inT (t : List (Int × Int)) (r : Int) : Bool := t.any fun p => decide (p.1 <= r) && decide (r <= p.2)
def zC (r : Int) : Int := if r < 32 ∨ (127 <= r /\ r <= 159) then -1 else if inT q6 r = true then 0 else if inT jP r = true then 2 else 1
def qaB (t : List (Int × Int)) : Prop := t.Pairwise fun p q => p.2 < q.1
theorem qfT : qaB jP := by unfold qaB jP; decide
theorem qfF : qaB q6 := by unfold qaB q6; decide
theorem wide_up : ∀ p ∈ jP, p.1 <= p.2 := by unfold jP; decide
theorem mark_up : ∀ p ∈ q6, p.1 <= p.2 := by unfold q6; decide
theorem tab_mono {t : List (Int × Int)} (ha : qaB t) (hu : ∀ p ∈ t, p.1 <= p.2) {i j : Nat} (hij : i <= j) (hj : j < t.length) : (t[i]'(by omega)).2 <= t[j].2 := by
 rcases Nat.lt_or_ge i j with h | h
 ·have h1 := List.pairwise_iff_getElem.1 ha i j (by omega) hj h
  have h2 := hu t[j] (List.getElem_mem hj)
  omega
 ·obtain rfl : i = j := by omega
  exact Int.le_refl _
theorem qf6 (t : List (Int × Int)) (r : Int) : inT t r = true ↔ ∃ i, ∃ h : i < t.length, t[i].1 <= r /\ r <= t[i].2 := by
 unfold inT
 rw [List.any_eq_true]
 constructor
 ·rintro ⟨p, hp, h⟩
  obtain ⟨i, hi, rfl⟩ := List.getElem_of_mem hp
  simp only [Bool.and_eq_true, decide_eq_true_eq] at h
  exact ⟨i, hi, h⟩
 ·rintro ⟨i, hi, h⟩
  refine ⟨t[i], List.getElem_mem hi, ?_⟩
  simp only [Bool.and_eq_true, decide_eq_true_eq]
  exact h
theorem qhm {t : List (Int × Int)} (ha : qaB t) {r : Int} {k : Nat} (h1 : ∀ j (h : j < t.length), j < k -> t[j].2 < r) (h2 : ∀ j (h : j < t.length), k <= j -> r <= t[j].2) (hk : k <= t.length) :
  inT t r = if h : k < t.length then decide (t[k].1 <= r) else false := by
 rw [Bool.eq_iff_iff, qf6]
 constructor
 ·rintro ⟨i, hi, a, b⟩
  rcases Nat.lt_or_ge i k with c | c
  ·have := h1 i hi c; omega
  ·have hkl : k < t.length := by omega
   rw [dif_pos hkl, decide_eq_true_eq]
   rcases Nat.lt_or_ge k i with d | d
   ·have e1 := List.pairwise_iff_getElem.1 ha k i hkl hi d
    have e2 := h2 k hkl (Nat.le_refl _)
    omega
   ·obtain rfl : i = k := by omega
    exact a
 ·intro h
  by_cases hkl : k < t.length
  ·rw [dif_pos hkl, decide_eq_true_eq] at h
   exact ⟨k, hkl, h, h2 k hkl (Nat.le_refl _)⟩
  ·rw [dif_neg hkl] at h
   cases h
structure US where
 v : Nat
 m : Nat
 lo : Nat
 hi : Nat
def qM (b : Nat) : US :=
 ⟨if 0xC2 <= b /\ b <= 0xDF then b % 32 else if 0xE0 <= b /\ b <= 0xEF then b % 16 else if 0xF0 <= b /\ b <= 0xF4 then b % 8 else 0,
  if 0xC2 <= b /\ b <= 0xDF then 1 else if 0xE0 <= b /\ b <= 0xEF then 2 else if 0xF0 <= b /\ b <= 0xF4 then 3 else 0,
  if b = 0xE0 then 0xA0 else if b = 0xF0 then 0x90 else 0x80,
  if b = 0xED then 0x9F else if b = 0xF4 then 0x8F else 0xBF⟩
def kb (s : US) (b : Nat) : Bool := decide (0 < s.m) && decide (s.lo <= b) && decide (b <= s.hi)
def ja (s : US) (b : Nat) : US := if kb s b = true then ⟨s.v * 64 + b % 64, s.m - 1, 0x80, 0xBF⟩ else qM b
def yo (s : US) (b : Nat) : List Nat :=
 if kb s b = true then (if s.m = 1 then [s.v * 64 + b % 64] else [])
 else (if 0 < s.m then [65533] else []) ++ (if b < 128 then [b] else if (qM b).m = 0 then [65533] else [])
def za : List Nat -> US × List Nat -> US × List Nat
 | [], x => x
 | b :: t, x => za t (ja x.1 b, x.2 ++ yo x.1 b)
def u0 : US := ⟨0, 0, 0, 0⟩
theorem qeZ : ∀ (l m : List Nat) (x : US × List Nat), za (l ++ m) x = za m (za l x)
 | [], _, _ => rfl
 | _ :: l, m, _ => qeZ l m _
def qw (l : List Nat) : List Nat := (za l (u0, [])).2
def vx (r : Nat) : List Nat :=
 if r < 0x80 then [r] else if r < 0x800 then [0xC0 + r / 64, 0x80 + r % 64] else if r < 0x10000 then [0xE0 + r / 4096, 0x80 + r / 64 % 64, 0x80 + r % 64]
 else [0xF0 + r / 262144, 0x80 + r / 4096 % 64, 0x80 + r / 64 % 64, 0x80 + r % 64]
def q9 (r : Nat) : Prop := r < 0xD800 ∨ (0xE000 <= r /\ r < 0x110000)
theorem qeD {b : Nat} (h : b < 0xC2) : (qM b).m = 0 := by
 show (if 0xC2 <= b /\ b <= 0xDF then 1 else if 0xE0 <= b /\ b <= 0xEF then 2 else if 0xF0 <= b /\ b <= 0xF4 then 3 else 0) = 0
 rw [if_neg (by omega), if_neg (by omega), if_neg (by omega)]
theorem qeF {b : Nat} (h1 : 0xC2 <= b) (h2 : b <= 0xDF) : qM b = ⟨b % 32, 1, 0x80, 0xBF⟩ := by
 unfold qM
 rw [if_pos ⟨h1, h2⟩, if_pos ⟨h1, h2⟩, if_neg (by omega), if_neg (by omega), if_neg (by omega), if_neg (by omega)]
theorem qcm {b : Nat} (h1 : 0xE0 <= b) (h2 : b <= 0xEF) : qM b = ⟨b % 16, 2, if b = 0xE0 then 0xA0 else 0x80, if b = 0xED then 0x9F else 0xBF⟩ := by
 unfold qM
 rw [if_neg (by omega), if_pos ⟨h1, h2⟩, if_neg (by omega), if_pos ⟨h1, h2⟩, if_neg (show ¬ b = 0xF0 by omega), if_neg (show ¬ b = 0xF4 by omega)]
theorem qdc {b : Nat} (h1 : 0xF0 <= b) (h2 : b <= 0xF4) : qM b = ⟨b % 8, 3, if b = 0xF0 then 0x90 else 0x80, if b = 0xF4 then 0x8F else 0xBF⟩ := by
 unfold qM
 rw [if_neg (by omega), if_neg (by omega), if_pos ⟨h1, h2⟩, if_neg (by omega), if_neg (by omega), if_pos ⟨h1, h2⟩, if_neg (show ¬ b = 0xE0 by omega), if_neg (show ¬ b = 0xED by omega)]
theorem kc {s : US} (hs : s.m = 0) (b : Nat) : kb s b = false := by simp [kb, hs]
theorem qcU {s : US} {b : Nat} (h0 : 0 < s.m) (h1 : s.lo <= b) (h2 : b <= s.hi) : kb s b = true := by simp [kb, h0, h1, h2]
theorem qd9 {s : US} (hs : s.m = 0) {b : Nat} (h : b < 128) (t out : List Nat) : za (b :: t) (s, out) = za t (qM b, out ++ [b]) := by
 have e1 : ja s b = qM b := by rw [ja, kc hs]; rfl
 have e2 : yo s b = [b] := by rw [yo, kc hs, if_neg (by simp), if_neg (by omega), if_pos h]; rfl
 show za t (ja s b, out ++ yo s b) = _
 rw [e1, e2]
theorem qaj {s x : US} (hs : s.m = 0) {b : Nat} (h : 128 <= b) (e : qM b = x) (hm : x.m ≠ 0) (t out : List Nat) : za (b :: t) (s, out) = za t (x, out) := by
 have e1 : ja s b = x := by rw [ja, kc hs]; exact e
 have e2 : yo s b = [] := by rw [yo, kc hs, if_neg (by simp), if_neg (by omega), if_neg (by omega), e, if_neg hm]; rfl
 show za t (ja s b, out ++ yo s b) = _
 rw [e1, e2, List.append_nil]
theorem qbH {s : US} {b : Nat} (h0 : 1 < s.m) (h1 : s.lo <= b) (h2 : b <= s.hi) (t out : List Nat) : za (b :: t) (s, out) = za t (⟨s.v * 64 + b % 64, s.m - 1, 0x80, 0xBF⟩, out) := by
 have e0 : kb s b = true := qcU (by omega) h1 h2
 have e1 : ja s b = ⟨s.v * 64 + b % 64, s.m - 1, 0x80, 0xBF⟩ := by rw [ja, e0]; rfl
 have e2 : yo s b = [] := by rw [yo, e0, if_pos rfl, if_neg (by omega)]
 show za t (ja s b, out ++ yo s b) = _
 rw [e1, e2, List.append_nil]
theorem k9 {s : US} {b : Nat} (h0 : s.m = 1) (h1 : s.lo <= b) (h2 : b <= s.hi) (t out : List Nat) : za (b :: t) (s, out) = za t (⟨s.v * 64 + b % 64, 0, 0x80, 0xBF⟩, out ++ [s.v * 64 + b % 64]) := by
 have e0 : kb s b = true := qcU (by omega) h1 h2
 have e1 : ja s b = ⟨s.v * 64 + b % 64, 0, 0x80, 0xBF⟩ := by rw [ja, e0, h0]; rfl
 have e2 : yo s b = [s.v * 64 + b % 64] := by rw [yo, e0, if_pos rfl, if_pos h0]
 show za t (ja s b, out ++ yo s b) = _
 rw [e1, e2]
theorem uRun_enc {r : Nat} (h : q9 r) (s : US) (hs : s.m = 0) (out : List Nat) : ∃ s', za (vx r) (s, out) = (s', out ++ [r]) /\ s'.m = 0 := by
 unfold q9 at h
 unfold vx
 split
 ·rename_i h1
  rw [qd9 hs h1]
  exact ⟨_, rfl, qeD (by omega)⟩
 ·split
  ·rw [qaj hs (by omega) (qeF (b := 0xC0 + r / 64) (by omega) (by omega)) (Nat.one_ne_zero), k9 rfl (by show 0x80 <= _; omega) (by show _ <= 0xBF; omega)]
   refine ⟨⟨r, 0, 0x80, 0xBF⟩, ?_, rfl⟩
   show ((⟨(0xC0 + r / 64) % 32 * 64 + (0x80 + r % 64) % 64, 0, 0x80, 0xBF⟩, out ++ [(0xC0 + r / 64) % 32 * 64 + (0x80 + r % 64) % 64]) : US × List Nat) = _
   rw [show (0xC0 + r / 64) % 32 * 64 + (0x80 + r % 64) % 64 = r by omega]
  ·split
   ·have e := qcm (b := 0xE0 + r / 4096) (by omega) (by omega)
    have hlo : (if 0xE0 + r / 4096 = 0xE0 then 0xA0 else 0x80) <= 0x80 + r / 64 % 64 := by split <;> omega
    have hhi : 0x80 + r / 64 % 64 <= (if 0xE0 + r / 4096 = 0xED then 0x9F else 0xBF) := by split <;> omega
    generalize (if 0xE0 + r / 4096 = 0xE0 then 0xA0 else 0x80) = lo at *
    generalize (if 0xE0 + r / 4096 = 0xED then 0x9F else 0xBF) = hi at *
    rw [qaj hs (by omega) e (by show 2 ≠ 0; omega), qbH (by show 1 < 2; omega) hlo hhi, k9 rfl (by show 0x80 <= _; omega) (by show _ <= 0xBF; omega)]
    refine ⟨⟨r, 0, 0x80, 0xBF⟩, ?_, rfl⟩
    show ((⟨((0xE0 + r / 4096) % 16 * 64 + (0x80 + r / 64 % 64) % 64) * 64 + (0x80 + r % 64) % 64, 0, 0x80, 0xBF⟩, out ++ [((0xE0 + r / 4096) % 16 * 64 + (0x80 + r / 64 % 64) % 64) * 64 + (0x80 + r % 64) % 64]) : US × List Nat) = _
    rw [show ((0xE0 + r / 4096) % 16 * 64 + (0x80 + r / 64 % 64) % 64) * 64 + (0x80 + r % 64) % 64 = r by omega]
   ·have e := qdc (b := 0xF0 + r / 262144) (by omega) (by omega)
    have hlo : (if 0xF0 + r / 262144 = 0xF0 then 0x90 else 0x80) <= 0x80 + r / 4096 % 64 := by split <;> omega
    have hhi : 0x80 + r / 4096 % 64 <= (if 0xF0 + r / 262144 = 0xF4 then 0x8F else 0xBF) := by split <;> omega
    generalize (if 0xF0 + r / 262144 = 0xF0 then 0x90 else 0x80) = lo at *
    generalize (if 0xF0 + r / 262144 = 0xF4 then 0x8F else 0xBF) = hi at *
    rw [qaj hs (by omega) e (by show 3 ≠ 0; omega), qbH (by show 1 < 3; omega) hlo hhi, qbH (by show 1 < 2; omega) (by show 0x80 <= _; omega) (by show _ <= 0xBF; omega), k9 rfl (by show 0x80 <= _; omega) (by show _ <= 0xBF; omega)]
    refine ⟨⟨r, 0, 0x80, 0xBF⟩, ?_, rfl⟩
    show ((⟨(((0xF0 + r / 262144) % 8 * 64 + (0x80 + r / 4096 % 64) % 64) * 64 + (0x80 + r / 64 % 64) % 64) * 64 + (0x80 + r % 64) % 64, 0, 0x80, 0xBF⟩, out ++ [(((0xF0 + r / 262144) % 8 * 64 + (0x80 + r / 4096 % 64) % 64) * 64 + (0x80 + r / 64 % 64) % 64) * 64 + (0x80 + r % 64) % 64]) : US × List Nat) = _
    rw [show (((0xF0 + r / 262144) % 8 * 64 + (0x80 + r / 4096 % 64) % 64) * 64 + (0x80 + r / 64 % 64) % 64) * 64 + (0x80 + r % 64) % 64 = r by omega]
def zF (rs : List Nat) : List Nat := rs.flatMap vx
theorem qa8 : ∀ (rs : List Nat), (∀ r ∈ rs, q9 r) -> ∀ (s : US), s.m = 0 -> ∀ out, ∃ s', za (zF rs) (s, out) = (s', out ++ rs) /\ s'.m = 0
 | [], _, s, hs, out => ⟨s, by simp [zF, za], hs⟩
 | r :: rs, h, s, hs, out => by
  obtain ⟨s1, e1, h1⟩ := uRun_enc (h r (by simp)) s hs out
  obtain ⟨s2, e2, h2⟩ := qa8 rs (fun x hx => h x (by simp [hx])) s1 h1 (out ++ [r])
  refine ⟨s2, ?_, h2⟩
  have e : zF (r :: rs) = vx r ++ zF rs := by simp [zF]
  rw [e, qeZ, e1, e2]
  simp
theorem qbR {rs : List Nat} (h : ∀ r ∈ rs, q9 r) : qw (zF rs) = rs := by
 obtain ⟨s, e, _⟩ := qa8 rs h u0 rfl []
 unfold qw
 rw [e]
 rfl
end Go.Proofs.YtlndbiamiioakaaGreatDoor
