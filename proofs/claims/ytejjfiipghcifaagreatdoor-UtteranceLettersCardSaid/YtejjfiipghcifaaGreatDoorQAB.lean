/- Joined texts: Each, Ut1. -/
import Derived.Lib.Small
import Derived.Test.YtejjfiipghcifaaGreatDoorQAA
set_option linter.unusedVariables false
set_option linter.unusedSimpArgs false
set_option linter.unnecessarySimpa false
namespace Go.Proofs.YtejjfiipghcifaaGreatDoor
open Go.RowKit
section
variable {P : Program}
def eachB (l : List Oper) (n : Nat) : Bool :=
 (l.filterMap (·.dst)).all (fun d => decide (d < n)) && decide ((l.filterMap (·.dst)).Nodup) && (List.range l.length).all fun i => match l[i]? with
  | some o => o.after.all fun e => !Region.binds .any e || decide (e.on < i)
  | none => true
def EachOp (P : Program) (V : Nat → Value → World → Prop) (W : World → Prop) (T : World → World → Prop) (Q : Exit → Act → World → Prop) (l : List Oper) (a : Act) : List Oper → Nat → Prop
 | [], _ => True
 | o :: rest, i => (∀ (a' : Act) (w' : World), W w' → a'.tmps.size = a.tmps.size → (∀ s, (l.filterMap (·.dst)).contains s = false → a'.tmps.getD s undef = a.tmps.getD s undef) →
   (∀ e ∈ o.after, Region.binds .any e = true → ∀ oe d, l[e.on]? = some oe → oe.dst = some d → V e.on (a'.tmps.getD d undef) w') →
   if Region.wanted o (yielded l.toArray a'.tmps) = true then o.wp P a' w' (fun a'' w'' => ∃ v, a'' = a'.put o.dst v ∧ V i v w'' ∧ W w'' ∧ T w' w'') Q else V i undef w') ∧ EachOp P V W T Q l a rest (i + 1)
theorem EachOp.at_ {V : Nat → Value → World → Prop} {W : World → Prop} {T : World → World → Prop} {Q : Exit → Act → World → Prop} {l : List Oper} {a : Act} : ∀ (r : List Oper) (k i : Nat) (o : Oper), EachOp P V W T Q l a r k → r[i]? = some o →
  (∀ (a' : Act) (w' : World), W w' → a'.tmps.size = a.tmps.size → (∀ s, (l.filterMap (·.dst)).contains s = false → a'.tmps.getD s undef = a.tmps.getD s undef) →
   (∀ e ∈ o.after, Region.binds .any e = true → ∀ oe d, l[e.on]? = some oe → oe.dst = some d → V e.on (a'.tmps.getD d undef) w') →
   if Region.wanted o (yielded l.toArray a'.tmps) = true then o.wp P a' w' (fun a'' w'' => ∃ v, a'' = a'.put o.dst v ∧ V (k + i) v w'' ∧ W w'' ∧ T w' w'') Q else V (k + i) undef w')
 | [], _, _, _, _, h => by cases h
 | o :: r, k, 0, o', h, hi => by
  obtain rfl : o = o' := by simpa using hi
  exact h.1
 | o :: r, k, i + 1, o', h, hi => by
  have := EachOp.at_ r (k + 1) i o' h.2 (by simpa using hi)
  rwa [show k + 1 + i = k + (i + 1) by omega] at this
def EachJ (V : Nat → Value → World → Prop) (W : World → Prop) (l : List Oper) (a : Act) (listed : Array Bool) (a' : Act) (w' : World) : Prop :=
 W w' ∧ a'.tmps.size = a.tmps.size ∧ a'.defers = a.defers ∧ (∀ s, (l.filterMap (·.dst)).contains s = false → a'.tmps.getD s undef = a.tmps.getD s undef) ∧
  (∀ i o d, l[i]? = some o → listed.getD i true = true → o.dst = some d → V i (a'.tmps.getD d undef) w')
theorem put_getD {a : Act} {d s : Nat} {v : Value} (h : s ≠ d) : (a.put (some d) v).tmps.getD s undef = a.tmps.getD s undef := by
 show (a.tmps.setIfInBounds d v).getD s undef = _
 simp only [Array.getD_eq_getD_getElem?, Array.getElem?_setIfInBounds_ne (Ne.symm h)]
theorem put_same {a : Act} {d : Nat} {v : Value} (h : d < a.tmps.size) : (a.put (some d) v).tmps.getD d undef = v := by
 show (a.tmps.setIfInBounds d v).getD d undef = _
 simp [Array.getD_eq_getD_getElem?, h]
theorem put_size {a : Act} {d : Option Tmp} {v : Value} : (a.put d v).tmps.size = a.tmps.size := by
 cases d <;> simp [Act.put]
theorem put_defs {a : Act} {d : Option Tmp} {v : Value} : (a.put d v).defers = a.defers := by
 cases d <;> rfl
theorem each_any {V : Nat → Value → World → Prop} {W : World → Prop} {T : World → World → Prop} {Q : Exit → Act → World → Prop} {l : List Oper} {a : Act} (hB : eachB l a.tmps.size = true)
  (hrefl : ∀ w, T w w) (hst : ∀ i v w w', W w → W w' → V i v w → T w w' → V i v w')
  (hop : EachOp P V W T Q l a l 0)
  (hend : ∀ (a' : Act) (w' : World), W w' → a'.tmps.size = a.tmps.size → a'.defers = a.defers → (∀ s, (l.filterMap (·.dst)).contains s = false → a'.tmps.getD s undef = a.tmps.getD s undef) → (∀ i o d, l[i]? = some o → o.dst = some d → V i (a'.tmps.getD d undef) w') → Q .normal a' w') :
  ∀ (fuel : Nat) (listed : Array Bool) (a' : Act) (w' : World), listed.size = l.length → ((List.range l.length).filter fun i => !listed.getD i true).length ≤ fuel → EachJ V W l a listed a' w' → wpAny P .any l.toArray Q fuel listed a' w' := by
 unfold eachB at hB
 simp only [Bool.and_eq_true, List.all_eq_true, decide_eq_true_eq] at hB
 obtain ⟨⟨hlt, hnd⟩, hord⟩ := hB
 have hdis : ∀ (i j : Nat) (oi oj : Oper) (d : Tmp), l[i]? = some oi → l[j]? = some oj → i ≠ j → oi.dst = some d → oj.dst ≠ some d := by
  intro i j oi oj d hi hj hij hdi hdj
  have key : ∀ (l : List Oper) (i j : Nat), (l.filterMap (·.dst)).Nodup → l[i]? = some oi → l[j]? = some oj → i < j → False := by
   intro l
   induction l with
   | nil => intro i j _ h; simp at h
   | cons o l ih =>
    intro i j hn h1 h2 hlt
    cases j with
    | zero => omega
    | succ j =>
     rw [List.getElem?_cons_succ] at h2
     have hmem : d ∈ l.filterMap (·.dst) := List.mem_filterMap.2 ⟨oj, List.mem_of_getElem? h2, hdj⟩
     cases i with
     | zero =>
      obtain rfl : o = oi := by simpa using h1
      rw [List.filterMap_cons, hdi] at hn
      exact (List.nodup_cons.1 hn).1 hmem
     | succ i =>
      rw [List.getElem?_cons_succ] at h1
      refine ih i j ?_ h1 h2 (by omega)
      cases ho : o.dst with
      | none => rw [List.filterMap_cons, ho] at hn; exact hn
      | some e => rw [List.filterMap_cons, ho] at hn; exact (List.nodup_cons.1 hn).2
  rcases Nat.lt_or_gt_of_ne hij with h | h
  ·exact key l i j hnd hi hj h
  ·have key2 : ∀ (l : List Oper) (i j : Nat), (l.filterMap (·.dst)).Nodup → l[i]? = some oj → l[j]? = some oi → i < j → False := by
    intro l
    induction l with
    | nil => intro i j _ h; simp at h
    | cons o l ih =>
     intro i j hn h1 h2 hlt
     cases j with
     | zero => omega
     | succ j =>
      rw [List.getElem?_cons_succ] at h2
      have hmem : d ∈ l.filterMap (·.dst) := List.mem_filterMap.2 ⟨oi, List.mem_of_getElem? h2, hdi⟩
      cases i with
      | zero =>
       obtain rfl : o = oj := by simpa using h1
       rw [List.filterMap_cons, hdj] at hn
       exact (List.nodup_cons.1 hn).1 hmem
      | succ i =>
       rw [List.getElem?_cons_succ] at h1
       refine ih i j ?_ h1 h2 (by omega)
       cases ho : o.dst with
       | none => rw [List.filterMap_cons, ho] at hn; exact hn
       | some e => rw [List.filterMap_cons, ho] at hn; exact (List.nodup_cons.1 hn).2
   exact key2 l j i hnd hj hi h
 have hin : ∀ {i : Nat} {o : Oper} {d : Nat}, l[i]? = some o → o.dst = some d → d ∈ l.filterMap (·.dst) := fun hi hd => List.mem_filterMap.2 ⟨_, List.mem_of_getElem? hi, hd⟩
 have hall : ∀ {listed : Array Bool}, listed.size = l.length → Region.ready .any l.toArray listed = [] → ∀ i, i < l.length → listed.getD i true = true := by
  intro listed hsz hr i
  induction i using Nat.strongRecOn with
  | ind i ih =>
   intro hi
   cases hli : listed.getD i true with
   | true => rfl
   | false =>
    exfalso
    have ho : l[i]? = some (l[i]'hi) := List.getElem?_eq_getElem hi
    have hm : i ∈ Region.ready .any l.toArray listed := by
     refine mem_ready.2 ⟨hli, l[i]'hi, by simpa using ho, fun e he hb => ?_⟩
     have h1 := hord i (List.mem_range.2 hi)
     rw [ho] at h1
     simp only [Array.all_eq_true_iff_forall_mem] at h1
     have h2 := h1 e he
     rw [hb] at h2
     simp only [Bool.not_true, Bool.false_or, decide_eq_true_eq] at h2
     have h3 := ih e.on h2 (by omega)
     rw [Array.getD_eq_getD_getElem?] at h3 ⊢
     rw [Array.getElem?_eq_getElem (by omega)] at h3 ⊢
     exact h3
    rw [hr] at hm
    cases hm
 intro fuel
 induction fuel with
 | zero =>
  intro listed a' w' hsz hf hJ
  have hr : Region.ready .any l.toArray listed = [] := by
   rw [List.eq_nil_iff_forall_not_mem]
   intro i hi
   obtain ⟨h1, o, h2, _⟩ := mem_ready.1 hi
   have hil : i < l.length := by
    rcases Nat.lt_or_ge i l.length with h | h
    ·exact h
    ·rw [List.getElem?_toArray, List.getElem?_eq_none h] at h2; cases h2
   have : i ∈ (List.range l.length).filter fun i => !listed.getD i true := List.mem_filter.2 ⟨List.mem_range.2 hil, by rw [h1]; rfl⟩
   rw [List.length_eq_zero_iff.1 (Nat.le_zero.1 hf)] at this
   cases this
  obtain ⟨j1, j2, j3, j4, j5⟩ := hJ
  exact ⟨hr, hend a' w' j1 j2 j3 j4 fun i o d hi hd => j5 i o d hi (hall hsz hr i (by
   rcases Nat.lt_or_ge i l.length with h | h
   ·exact h
   ·rw [List.getElem?_eq_none h] at hi; cases hi)) hd⟩
 | succ fuel ih =>
  intro listed a' w' hsz hf hJ
  have hJ' := hJ
  obtain ⟨j1, j2, j3, j4, j5⟩ := hJ'
  refine ⟨fun hr => hend a' w' j1 j2 j3 j4 fun i o d hi hd => j5 i o d hi (hall hsz hr i (by
   rcases Nat.lt_or_ge i l.length with h | h
   ·exact h
   ·rw [List.getElem?_eq_none h] at hi; cases hi)) hd, fun i hi => ?_⟩
  obtain ⟨h1, o, h2, h3⟩ := mem_ready.1 hi
  rw [List.getElem?_toArray] at h2
  have hil : i < l.length := by
   rcases Nat.lt_or_ge i l.length with h | h
   ·exact h
   ·rw [List.getElem?_eq_none h] at h2; cases h2
  have hgd : ∀ j, j < l.length → listed.getD j false = true → listed.getD j true = true := fun j hj h => by
   rw [Array.getD_eq_getD_getElem?] at h ⊢
   rw [Array.getElem?_eq_getElem (by omega)] at h ⊢
   exact h
  have hstep := EachOp.at_ l 0 i o hop h2 a' w' j1 j2 j4 fun e he hb oe d hoe hd => j5 e.on oe d hoe (hgd e.on (by
   rcases Nat.lt_or_ge e.on l.length with h | h
   ·exact h
   ·rw [List.getElem?_eq_none h] at hoe; cases hoe) (h3 e he hb)) hd
  rw [Nat.zero_add] at hstep
  have hsz' : (listed.setIfInBounds i true).size = l.length := by rw [Array.size_setIfInBounds]; exact hsz
  have hset : ∀ j, (listed.setIfInBounds i true).getD j true = true → j = i ∨ listed.getD j true = true := fun j h => by
   by_cases hji : j = i
   ·exact .inl hji
   ·right
    rw [Array.getD_eq_getD_getElem?, Array.getElem?_setIfInBounds_ne (Ne.symm hji)] at h
    rw [Array.getD_eq_getD_getElem?]
    exact h
  have hfl : ((List.range l.length).filter fun j => !(listed.setIfInBounds i true).getD j true).length ≤ fuel := by
   have key : ∀ (L : List Nat), i ∈ L → L.Nodup → (L.filter fun j => !(listed.setIfInBounds i true).getD j true).length + 1 ≤ (L.filter fun j => !listed.getD j true).length := by
    intro L
    induction L with
    | nil => intro h; cases h
    | cons x L ihL =>
     intro hm hn
     have hx := List.nodup_cons.1 hn
     by_cases hxi : x = i
     ·subst hxi
      have e1 : (listed.setIfInBounds x true).getD x true = true := by
       rw [Array.getD_eq_getD_getElem?]
       simp [hsz, hil]
      rw [List.filter_cons, List.filter_cons, e1, h1]
      simp only [Bool.not_true, Bool.not_false, if_true, Bool.false_eq_true, if_false, List.length_cons]
      have : (L.filter fun j => !(listed.setIfInBounds x true).getD j true) = L.filter fun j => !listed.getD j true := by
       refine List.filter_congr fun j hj => ?_
       have hjx : j ≠ x := fun e => hx.1 (e ▸ hj)
       rw [Array.getD_eq_getD_getElem?, Array.getElem?_setIfInBounds_ne (Ne.symm hjx), ← Array.getD_eq_getD_getElem?]
      rw [this]
      exact Nat.le_refl _
     ·have hm' : i ∈ L := by
       rcases List.mem_cons.1 hm with h | h
       ·exact absurd h.symm hxi
       ·exact h
      have := ihL hm' hx.2
      rw [List.filter_cons, List.filter_cons, show (listed.setIfInBounds i true).getD x true = listed.getD x true by
       rw [Array.getD_eq_getD_getElem?, Array.getElem?_setIfInBounds_ne (Ne.symm hxi), ← Array.getD_eq_getD_getElem?]]
      split
      ·simp only [List.length_cons]; omega
      ·exact this
   have := key (List.range l.length) (List.mem_range.2 hil) List.nodup_range
   omega
  have hnew : ∀ v w'', V i v w'' → W w'' → T w' w'' → EachJ V W l a (listed.setIfInBounds i true) (a'.put o.dst v) w'' := fun v w'' hv hw ht => by
   refine ⟨hw, by rw [put_size]; exact j2, by rw [put_defs]; exact j3, fun s hs => ?_, fun j oj d hj hl hd => ?_⟩
   ·cases hod : o.dst with
    | none => exact j4 s hs
    | some d =>
     rw [put_getD fun e => ?_]
     ·exact j4 s hs
     ·subst e
      rw [List.contains_iff_mem.2 (hin h2 hod)] at hs
      cases hs
   ·by_cases hji : j = i
    ·subst hji
     obtain rfl : o = oj := by rw [h2] at hj; injection hj
     rw [hd, put_same (by rw [j2]; exact hlt d (hin h2 hd))]
     exact hv
    ·have hl' : listed.getD j true = true := (hset j hl).resolve_left hji
     have hvj := hst j _ w' w'' j1 hw (j5 j oj d hj hl' hd) ht
     cases hod : o.dst with
     | none => exact hvj
     | some d' =>
      rw [put_getD fun e => ?_]
      ·exact hvj
      ·subst e
       exact hdis j i oj o d hj h2 hji hd hod
  unfold wpOp
  rw [List.getElem?_toArray, h2]
  simp only
  split
  ·rename_i hw
   rw [if_pos hw] at hstep
   exact .inl (Oper.wp_mono (fun a'' w'' ⟨v, e, hv, hw', ht⟩ => by
    subst e
    exact ih _ _ _ hsz' hfl (hnew v w'' hv hw' ht)) hstep)
  ·rename_i hw
   rw [if_neg hw] at hstep
   exact ih _ _ _ hsz' hfl (hnew undef w' hstep j1 (hrefl w'))
theorem uncons {xs : List Value} {n : Nat} (h : xs.length = n + 1) : ∃ u t, xs = u :: t ∧ t.length = n := by
 cases xs with
 | nil => simp at h
 | cons u t => exact ⟨u, t, rfl, by simpa using h⟩
theorem wp_region_each {V : Nat → Value → World → Prop} {W : World → Prop} {T : World → World → Prop} {Q : Exit → Act → World → Prop} {l : List Oper} {a : Act} {w : World} {id : Nat} (hm : P.follows .mixedOrders = true) (hB : eachB l a.tmps.size = true)
  (hrefl : ∀ w, T w w) (hst : ∀ i v w w', W w → W w' → V i v w → T w w' → V i v w') (hw : W w.drew)
  (hop : EachOp P V W T Q l a l 0)
  (hend : ∀ (a' : Act) (w' : World), W w' → a'.tmps.size = a.tmps.size → a'.defers = a.defers → (∀ s, (l.filterMap (·.dst)).contains s = false → a'.tmps.getD s undef = a.tmps.getD s undef) → (∀ i o d, l[i]? = some o → o.dst = some d → V i (a'.tmps.getD d undef) w') → Q .normal a' w') :
  (Code.region id l.toArray true).wp P Q a w := by
 refine wp_region_any hm (each_any hB hrefl hst hop hend _ _ _ _ (by simp) ?_ ⟨hw, rfl, rfl, fun _ _ => rfl, fun i o d hi hl _ => ?_⟩)
 ·rw [List.size_toArray]
  exact Nat.le_trans (List.length_filter_le _ _) (by simp)
 ·exfalso
  have hil : i < l.length := by
   rcases Nat.lt_or_ge i l.length with h | h
   ·exact h
   ·rw [List.getElem?_eq_none h] at hi; cases hi
  rw [Array.getD_eq_getD_getElem?] at hl
  simp [hil] at hl
theorem each_op {o : Oper} {ask : Nat → Option Bool} {A B : Prop} (hg : o.guard = none) (h : A) : if Region.wanted o ask = true then A else B := by
 rw [if_pos (by simp [Region.wanted, hg])]
 exact h
theorem run_enter {f : FuncId} {fn : Func} {c : Code} (hf : P.funcs[f]? = some fn) (hname : (fn.name == "runtime.NumGoroutine") = false) (hb : fn.body = some c) (args : Array Value) (w : World) : (callFunc f args).run P w = .ok (.enter f args) w := by
 have h1 : fn.name ≠ "runtime.NumGoroutine" := by simpa using hname
 simp [callFunc, go_sem, hf, h1, hb]
theorem each_call {o : Oper} {a : Act} {w : World} {K : Act → World → Prop} {Q : Exit → Act → World → Prop} {c : Call} {f : FuncId} {args : Array Value} (ho : o.op = .call c) (hc : c.callee = .value (.func f)) (ha : c.args.map a.eval = args)
  {fn : Func} {cd : Code} (hf : P.funcs[f]? = some fn) (hname : (fn.name == "runtime.NumGoroutine") = false) (hb : fn.body = some cd)
  (h : Calls P f args w fun e w'' => ∃ v, e = .returned v ∧ K (a.put o.dst v) w'') : o.wp P a w K Q := by
 have e : (execOp a.eval o).run P w = .ok (.enter f args) w := by
  obtain ⟨callee, cargs, ctypes⟩ := c
  simp only at hc ha
  subst hc
  unfold execOp
  simp only [ho, resolve, Act.eval, Deferred.ofValue, ha]
  simp [go_sem, invoke, run_enter hf hname hb]
 unfold Oper.wp
 rw [e]
 exact h.mono fun en w'' ⟨v, he, hk⟩ => by subst he; exact hk
theorem each_val {o : Oper} {a : Act} {w : World} {K : Act → World → Prop} {Q : Exit → Act → World → Prop} {v : Value} (h : (execOp a.eval o).run P w = .ok (.value v) w) (hk : K (a.put o.dst v) w) : o.wp P a w K Q := by
 unfold Oper.wp
 rw [h]
 exact hk
theorem run_assign {o : Oper} {a : Act} {w : World} {x : Operand} {v : Value} (ho : o.op = .assign x) (hx : a.eval x = v) : (execOp a.eval o).run P w = .ok (.value v) w := by
 unfold execOp
 simp only [ho, hx]
 rfl
theorem run_move {o : Oper} {a : Act} {w : World} {x : Operand} {v : Value} (ho : o.op = .move x) (hx : a.eval x = v) : (execOp a.eval o).run P w = .ok (.value v) w := by
 unfold execOp
 simp only [ho, hx]
 rfl
theorem run_load {o : Oper} {a : Act} {w : World} {x : Operand} {t : TypeId} {p v : Value} (ho : o.op = .load t x) (hx : a.eval x = p) (h : (Instr.loadAt t p).run P w = .ok v w) : (execOp a.eval o).run P w = .ok (.value v) w := by
 unfold execOp
 simp only [ho, hx, Sem.run_bind, h, Result.andThen_ok]
 rfl
end
end Go.Proofs.YtejjfiipghcifaaGreatDoor
namespace Go.Proofs.YtejjfiipghcifaaGreatDoor
def wideT : List (Int × Int) := [(0x1100, 0x115F), (0x2E80, 0x303E), (0x3041, 0x33FF), (0x3400, 0x4DBF), (0x4E00, 0x9FFF), (0xA000, 0xA4CF), (0xAC00, 0xD7A3), (0xF900, 0xFAFF), (0xFE30, 0xFE6F), (0xFF00, 0xFF60), (0xFFE0, 0xFFE6), (0x1F300, 0x1F64F), (0x1F900, 0x1F9FF), (0x20000, 0x3FFFD)]
def markT : List (Int × Int) := [(0x0300, 0x036F), (0x1AB0, 0x1AFF), (0x1DC0, 0x1DFF), (0x200B, 0x200F), (0x20D0, 0x20FF), (0xFE00, 0xFE0F), (0xFE20, 0xFE2F)]
def inT (t : List (Int × Int)) (r : Int) : Bool := t.any fun p => decide (p.1 ≤ r) && decide (r ≤ p.2)
def widL (r : Int) : Int := if r < 32 ∨ (127 ≤ r ∧ r ≤ 159) then -1 else if inT markT r = true then 0 else if inT wideT r = true then 2 else 1
def ApartT (t : List (Int × Int)) : Prop := t.Pairwise fun p q => p.2 < q.1
theorem wide_apart : ApartT wideT := by unfold ApartT wideT; decide
theorem mark_apart : ApartT markT := by unfold ApartT markT; decide
theorem wide_up : ∀ p ∈ wideT, p.1 ≤ p.2 := by unfold wideT; decide
theorem mark_up : ∀ p ∈ markT, p.1 ≤ p.2 := by unfold markT; decide
theorem tab_mono {t : List (Int × Int)} (ha : ApartT t) (hu : ∀ p ∈ t, p.1 ≤ p.2) {i j : Nat} (hij : i ≤ j) (hj : j < t.length) : (t[i]'(by omega)).2 ≤ t[j].2 := by
 rcases Nat.lt_or_ge i j with h | h
 ·have h1 := List.pairwise_iff_getElem.1 ha i j (by omega) hj h
  have h2 := hu t[j] (List.getElem_mem hj)
  omega
 ·obtain rfl : i = j := by omega
  exact Int.le_refl _
theorem inT_iff (t : List (Int × Int)) (r : Int) : inT t r = true ↔ ∃ i, ∃ h : i < t.length, t[i].1 ≤ r ∧ r ≤ t[i].2 := by
 unfold inT
 rw [List.any_eq_true]
 constructor
 ·rintro ⟨p, hp, h⟩
  obtain ⟨i, hi, rfl⟩ := List.getElem_of_mem hp
  simp only [Bool.and_eq_true, decide_eq_true_eq] at h
  exact ⟨i, hi, h⟩
 ·rintro ⟨i, hi, h⟩
  refine ⟨t[i], List.getElem_mem hi, ?_⟩
  simp only [Bool.and_eq_true, decide_eq_true_eq]
  exact h
theorem inT_found {t : List (Int × Int)} (ha : ApartT t) {r : Int} {k : Nat} (h1 : ∀ j (h : j < t.length), j < k → t[j].2 < r) (h2 : ∀ j (h : j < t.length), k ≤ j → r ≤ t[j].2) (hk : k ≤ t.length) :
  inT t r = if h : k < t.length then decide (t[k].1 ≤ r) else false := by
 rw [Bool.eq_iff_iff, inT_iff]
 constructor
 ·rintro ⟨i, hi, a, b⟩
  rcases Nat.lt_or_ge i k with c | c
  ·have := h1 i hi c; omega
  ·have hkl : k < t.length := by omega
   rw [dif_pos hkl, decide_eq_true_eq]
   rcases Nat.lt_or_ge k i with d | d
   ·have e1 := List.pairwise_iff_getElem.1 ha k i hkl hi d
    have e2 := h2 k hkl (Nat.le_refl _)
    omega
   ·obtain rfl : i = k := by omega
    exact a
 ·intro h
  by_cases hkl : k < t.length
  ·rw [dif_pos hkl, decide_eq_true_eq] at h
   exact ⟨k, hkl, h, h2 k hkl (Nat.le_refl _)⟩
  ·rw [dif_neg hkl] at h
   cases h
structure US where
 v : Nat
 m : Nat
 lo : Nat
 hi : Nat
def begU (b : Nat) : US :=
 ⟨if 0xC2 ≤ b ∧ b ≤ 0xDF then b % 32 else if 0xE0 ≤ b ∧ b ≤ 0xEF then b % 16 else if 0xF0 ≤ b ∧ b ≤ 0xF4 then b % 8 else 0,
  if 0xC2 ≤ b ∧ b ≤ 0xDF then 1 else if 0xE0 ≤ b ∧ b ≤ 0xEF then 2 else if 0xF0 ≤ b ∧ b ≤ 0xF4 then 3 else 0,
  if b = 0xE0 then 0xA0 else if b = 0xF0 then 0x90 else 0x80,
  if b = 0xED then 0x9F else if b = 0xF4 then 0x8F else 0xBF⟩
def uTake (s : US) (b : Nat) : Bool := decide (0 < s.m) && decide (s.lo ≤ b) && decide (b ≤ s.hi)
def uNext (s : US) (b : Nat) : US := if uTake s b = true then ⟨s.v * 64 + b % 64, s.m - 1, 0x80, 0xBF⟩ else begU b
def uOut (s : US) (b : Nat) : List Nat :=
 if uTake s b = true then (if s.m = 1 then [s.v * 64 + b % 64] else [])
 else (if 0 < s.m then [65533] else []) ++ (if b < 128 then [b] else if (begU b).m = 0 then [65533] else [])
def uRun : List Nat → US × List Nat → US × List Nat
 | [], x => x
 | b :: t, x => uRun t (uNext x.1 b, x.2 ++ uOut x.1 b)
def u0 : US := ⟨0, 0, 0, 0⟩
theorem uRun_snoc : ∀ (l : List Nat) (b : Nat) (x : US × List Nat), uRun (l ++ [b]) x = (uNext (uRun l x).1 b, (uRun l x).2 ++ uOut (uRun l x).1 b)
 | [], _, _ => rfl
 | _ :: l, b, _ => uRun_snoc l b _
theorem uRun_app : ∀ (l m : List Nat) (x : US × List Nat), uRun (l ++ m) x = uRun m (uRun l x)
 | [], _, _ => rfl
 | _ :: l, m, _ => uRun_app l m _
def charsL (l : List Nat) : List Nat := (uRun l (u0, [])).2
def encN (r : Nat) : List Nat :=
 if r < 0x80 then [r] else if r < 0x800 then [0xC0 + r / 64, 0x80 + r % 64] else if r < 0x10000 then [0xE0 + r / 4096, 0x80 + r / 64 % 64, 0x80 + r % 64]
 else [0xF0 + r / 262144, 0x80 + r / 4096 % 64, 0x80 + r / 64 % 64, 0x80 + r % 64]
def isChN (r : Nat) : Prop := r < 0xD800 ∨ (0xE000 ≤ r ∧ r < 0x110000)
theorem begU_one {b : Nat} (h : b < 0xC2) : (begU b).m = 0 := by
 show (if 0xC2 ≤ b ∧ b ≤ 0xDF then 1 else if 0xE0 ≤ b ∧ b ≤ 0xEF then 2 else if 0xF0 ≤ b ∧ b ≤ 0xF4 then 3 else 0) = 0
 rw [if_neg (by omega), if_neg (by omega), if_neg (by omega)]
theorem begU_two {b : Nat} (h1 : 0xC2 ≤ b) (h2 : b ≤ 0xDF) : begU b = ⟨b % 32, 1, 0x80, 0xBF⟩ := by
 unfold begU
 rw [if_pos ⟨h1, h2⟩, if_pos ⟨h1, h2⟩, if_neg (by omega), if_neg (by omega), if_neg (by omega), if_neg (by omega)]
theorem begU_three {b : Nat} (h1 : 0xE0 ≤ b) (h2 : b ≤ 0xEF) : begU b = ⟨b % 16, 2, if b = 0xE0 then 0xA0 else 0x80, if b = 0xED then 0x9F else 0xBF⟩ := by
 unfold begU
 rw [if_neg (by omega), if_pos ⟨h1, h2⟩, if_neg (by omega), if_pos ⟨h1, h2⟩, if_neg (show ¬ b = 0xF0 by omega), if_neg (show ¬ b = 0xF4 by omega)]
theorem begU_four {b : Nat} (h1 : 0xF0 ≤ b) (h2 : b ≤ 0xF4) : begU b = ⟨b % 8, 3, if b = 0xF0 then 0x90 else 0x80, if b = 0xF4 then 0x8F else 0xBF⟩ := by
 unfold begU
 rw [if_neg (by omega), if_neg (by omega), if_pos ⟨h1, h2⟩, if_neg (by omega), if_neg (by omega), if_pos ⟨h1, h2⟩, if_neg (show ¬ b = 0xE0 by omega), if_neg (show ¬ b = 0xED by omega)]
theorem uTake_no {s : US} (hs : s.m = 0) (b : Nat) : uTake s b = false := by simp [uTake, hs]
theorem uTake_yes {s : US} {b : Nat} (h0 : 0 < s.m) (h1 : s.lo ≤ b) (h2 : b ≤ s.hi) : uTake s b = true := by simp [uTake, h0, h1, h2]
theorem uRun_asc {s : US} (hs : s.m = 0) {b : Nat} (h : b < 128) (t out : List Nat) : uRun (b :: t) (s, out) = uRun t (begU b, out ++ [b]) := by
 have e1 : uNext s b = begU b := by rw [uNext, uTake_no hs]; rfl
 have e2 : uOut s b = [b] := by rw [uOut, uTake_no hs, if_neg (by simp), if_neg (by omega), if_pos h]; rfl
 show uRun t (uNext s b, out ++ uOut s b) = _
 rw [e1, e2]
theorem uRun_lead {s x : US} (hs : s.m = 0) {b : Nat} (h : 128 ≤ b) (e : begU b = x) (hm : x.m ≠ 0) (t out : List Nat) : uRun (b :: t) (s, out) = uRun t (x, out) := by
 have e1 : uNext s b = x := by rw [uNext, uTake_no hs]; exact e
 have e2 : uOut s b = [] := by rw [uOut, uTake_no hs, if_neg (by simp), if_neg (by omega), if_neg (by omega), e, if_neg hm]; rfl
 show uRun t (uNext s b, out ++ uOut s b) = _
 rw [e1, e2, List.append_nil]
theorem uRun_on {s : US} {b : Nat} (h0 : 1 < s.m) (h1 : s.lo ≤ b) (h2 : b ≤ s.hi) (t out : List Nat) : uRun (b :: t) (s, out) = uRun t (⟨s.v * 64 + b % 64, s.m - 1, 0x80, 0xBF⟩, out) := by
 have e0 : uTake s b = true := uTake_yes (by omega) h1 h2
 have e1 : uNext s b = ⟨s.v * 64 + b % 64, s.m - 1, 0x80, 0xBF⟩ := by rw [uNext, e0]; rfl
 have e2 : uOut s b = [] := by rw [uOut, e0, if_pos rfl, if_neg (by omega)]
 show uRun t (uNext s b, out ++ uOut s b) = _
 rw [e1, e2, List.append_nil]
theorem uRun_last {s : US} {b : Nat} (h0 : s.m = 1) (h1 : s.lo ≤ b) (h2 : b ≤ s.hi) (t out : List Nat) : uRun (b :: t) (s, out) = uRun t (⟨s.v * 64 + b % 64, 0, 0x80, 0xBF⟩, out ++ [s.v * 64 + b % 64]) := by
 have e0 : uTake s b = true := uTake_yes (by omega) h1 h2
 have e1 : uNext s b = ⟨s.v * 64 + b % 64, 0, 0x80, 0xBF⟩ := by rw [uNext, e0, h0]; rfl
 have e2 : uOut s b = [s.v * 64 + b % 64] := by rw [uOut, e0, if_pos rfl, if_pos h0]
 show uRun t (uNext s b, out ++ uOut s b) = _
 rw [e1, e2]
theorem uRun_enc {r : Nat} (h : isChN r) (s : US) (hs : s.m = 0) (out : List Nat) : ∃ s', uRun (encN r) (s, out) = (s', out ++ [r]) ∧ s'.m = 0 := by
 unfold isChN at h
 unfold encN
 split
 ·rename_i h1
  rw [uRun_asc hs h1]
  exact ⟨_, rfl, begU_one (by omega)⟩
 ·split
  ·rw [uRun_lead hs (by omega) (begU_two (b := 0xC0 + r / 64) (by omega) (by omega)) (Nat.one_ne_zero), uRun_last rfl (by show 0x80 ≤ _; omega) (by show _ ≤ 0xBF; omega)]
   refine ⟨⟨r, 0, 0x80, 0xBF⟩, ?_, rfl⟩
   show ((⟨(0xC0 + r / 64) % 32 * 64 + (0x80 + r % 64) % 64, 0, 0x80, 0xBF⟩, out ++ [(0xC0 + r / 64) % 32 * 64 + (0x80 + r % 64) % 64]) : US × List Nat) = _
   rw [show (0xC0 + r / 64) % 32 * 64 + (0x80 + r % 64) % 64 = r by omega]
  ·split
   ·have e := begU_three (b := 0xE0 + r / 4096) (by omega) (by omega)
    have hlo : (if 0xE0 + r / 4096 = 0xE0 then 0xA0 else 0x80) ≤ 0x80 + r / 64 % 64 := by split <;> omega
    have hhi : 0x80 + r / 64 % 64 ≤ (if 0xE0 + r / 4096 = 0xED then 0x9F else 0xBF) := by split <;> omega
    generalize (if 0xE0 + r / 4096 = 0xE0 then 0xA0 else 0x80) = lo at *
    generalize (if 0xE0 + r / 4096 = 0xED then 0x9F else 0xBF) = hi at *
    rw [uRun_lead hs (by omega) e (by show 2 ≠ 0; omega), uRun_on (by show 1 < 2; omega) hlo hhi, uRun_last rfl (by show 0x80 ≤ _; omega) (by show _ ≤ 0xBF; omega)]
    refine ⟨⟨r, 0, 0x80, 0xBF⟩, ?_, rfl⟩
    show ((⟨((0xE0 + r / 4096) % 16 * 64 + (0x80 + r / 64 % 64) % 64) * 64 + (0x80 + r % 64) % 64, 0, 0x80, 0xBF⟩, out ++ [((0xE0 + r / 4096) % 16 * 64 + (0x80 + r / 64 % 64) % 64) * 64 + (0x80 + r % 64) % 64]) : US × List Nat) = _
    rw [show ((0xE0 + r / 4096) % 16 * 64 + (0x80 + r / 64 % 64) % 64) * 64 + (0x80 + r % 64) % 64 = r by omega]
   ·have e := begU_four (b := 0xF0 + r / 262144) (by omega) (by omega)
    have hlo : (if 0xF0 + r / 262144 = 0xF0 then 0x90 else 0x80) ≤ 0x80 + r / 4096 % 64 := by split <;> omega
    have hhi : 0x80 + r / 4096 % 64 ≤ (if 0xF0 + r / 262144 = 0xF4 then 0x8F else 0xBF) := by split <;> omega
    generalize (if 0xF0 + r / 262144 = 0xF0 then 0x90 else 0x80) = lo at *
    generalize (if 0xF0 + r / 262144 = 0xF4 then 0x8F else 0xBF) = hi at *
    rw [uRun_lead hs (by omega) e (by show 3 ≠ 0; omega), uRun_on (by show 1 < 3; omega) hlo hhi, uRun_on (by show 1 < 2; omega) (by show 0x80 ≤ _; omega) (by show _ ≤ 0xBF; omega), uRun_last rfl (by show 0x80 ≤ _; omega) (by show _ ≤ 0xBF; omega)]
    refine ⟨⟨r, 0, 0x80, 0xBF⟩, ?_, rfl⟩
    show ((⟨(((0xF0 + r / 262144) % 8 * 64 + (0x80 + r / 4096 % 64) % 64) * 64 + (0x80 + r / 64 % 64) % 64) * 64 + (0x80 + r % 64) % 64, 0, 0x80, 0xBF⟩, out ++ [(((0xF0 + r / 262144) % 8 * 64 + (0x80 + r / 4096 % 64) % 64) * 64 + (0x80 + r / 64 % 64) % 64) * 64 + (0x80 + r % 64) % 64]) : US × List Nat) = _
    rw [show (((0xF0 + r / 262144) % 8 * 64 + (0x80 + r / 4096 % 64) % 64) * 64 + (0x80 + r / 64 % 64) % 64) * 64 + (0x80 + r % 64) % 64 = r by omega]
def encL_ (rs : List Nat) : List Nat := rs.flatMap encN
theorem uRun_encs : ∀ (rs : List Nat), (∀ r ∈ rs, isChN r) → ∀ (s : US), s.m = 0 → ∀ out, ∃ s', uRun (encL_ rs) (s, out) = (s', out ++ rs) ∧ s'.m = 0
 | [], _, s, hs, out => ⟨s, by simp [encL_, uRun], hs⟩
 | r :: rs, h, s, hs, out => by
  obtain ⟨s1, e1, h1⟩ := uRun_enc (h r (by simp)) s hs out
  obtain ⟨s2, e2, h2⟩ := uRun_encs rs (fun x hx => h x (by simp [hx])) s1 h1 (out ++ [r])
  refine ⟨s2, ?_, h2⟩
  have e : encL_ (r :: rs) = encN r ++ encL_ rs := by simp [encL_]
  rw [e, uRun_app, e1, e2]
  simp
theorem charsL_enc {rs : List Nat} (h : ∀ r ∈ rs, isChN r) : charsL (encL_ rs) = rs := by
 obtain ⟨s, e, _⟩ := uRun_encs rs h u0 rfl []
 unfold charsL
 rw [e]
 rfl
end Go.Proofs.YtejjfiipghcifaaGreatDoor
