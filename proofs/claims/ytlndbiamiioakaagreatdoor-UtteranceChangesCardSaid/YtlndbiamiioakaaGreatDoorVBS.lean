/- Joined: Rp3, Rn8. -/
import Derived.Test.YtlndbiamiioakaaGreatDoorVBR
set_option linter.unusedVariables false
set_option linter.unusedSimpArgs false
set_option linter.unnecessarySimpa false
set_option maxHeartbeats 8000000
namespace Go.Proofs.YtlndbiamiioakaaGreatDoor
open Go.Proofs.Tryz Go.RowKit
set_option maxRecDepth 20000
abbrev tC (v : Value) (st : Int) (j : Bool) : Array Value := #[v, .int .i64 st, .bool j]
theorem zD : (prog.info? 98).map (fun x => x.size) = some 3 := by kernel_rfl
theorem qd1 (w : World) (a : Addr) (u : Value) : w.grownBy (w.setCell a u) (some a.block) :=
 ⟨rfl, rfl, rfl, by simp, fun k _ hk => Below.heap_setCell w a u k (fun e => hk (by rw [e]))⟩
theorem ne_own {v : Value} {p : Nat} (hp : ∀ k, v.ownBlock = some k -> k ≠ p) : v.ownBlock = none ∨ v.ownBlock ≠ some p := by
 cases h : v.ownBlock with
 | none => exact .inl rfl
 | some k => exact .inr fun e => hp k h (by injection e)
theorem jL {v : Value} {p : Nat} (hp : ∀ k, v.ownBlock = some k -> k ≠ p) : some p ≠ v.ownBlock := fun e => hp p e.symm rfl
theorem yw {w : World} {base size n : Nat} {e : TypeId} {v : Value} {xs : List Value} (h : w.ownsRow base e size v n xs) {p : Addr} (hp : ∀ k, v.ownBlock = some k -> k ≠ p.block) (u : Value) : (w.setCell p u).ownsRow base e size v n xs :=
 h.kept (qd1 w p u) (ne_own hp)
theorem qaT {w : World} {g : Nat} {t : TypeId} {a b c a' b' c' : Value} (h : Blk w g t #[a, b, c]) :
  Blk (((w.setCell ⟨g, 0, none⟩ a').setCell ⟨g, 1, none⟩ b').setCell ⟨g, 2, none⟩ c') g t #[a', b', c'] := by
 have := ((h.set_ 0 a').set_ 1 b').set_ 2 c'
 simpa using this
theorem ky {B : Nat} {w w0 : World} {g : Nat} {a' b' c' : Value} (h : Below B w0 w) (hg : B <= g) :
  Below B w0 (((w.setCell ⟨g, 0, none⟩ a').setCell ⟨g, 1, none⟩ b').setCell ⟨g, 2, none⟩ c') := ((h.setCell hg _).setCell hg _).setCell hg _
theorem qeO {w : World} {base size n g : Nat} {e : TypeId} {v : Value} {xs : List Value} {a' b' c' : Value} (h : w.ownsRow base e size v n xs) (hp : ∀ k, v.ownBlock = some k -> k ≠ g) :
  (((w.setCell ⟨g, 0, none⟩ a').setCell ⟨g, 1, none⟩ b').setCell ⟨g, 2, none⟩ c').ownsRow base e size v n xs := yw (yw (yw h hp _) hp _) hp _
def Sep (N : Nat) (v0 v : Value) : Prop := ∀ k, v.ownBlock = some k -> (v0.ownBlock = some k /\ k < N) ∨ N + 2 <= k
theorem Sep.ne {N : Nat} {v0 v : Value} (h : Sep N v0 v) : ∀ k, v.ownBlock = some k -> k ≠ N /\ k ≠ N + 1 := fun k hk => by
 rcases h k hk with h | h <;> omega
def BG (base : Nat) (v0 : Value) (w wx : World) : Prop := Below base w wx /\ w.grownBy wx v0.ownBlock
theorem qbV {w w' : World} (hb : Below w.heap.size w w') (row : Option Nat) : w.grownBy w' row := ⟨hb.os, hb.tape, hb.output, hb.size, fun k hk _ => hb.block k hk⟩
section
variable {base : Nat} {v0 : Value} {w wx wy : World}
theorem BG.refl (base : Nat) (v0 : Value) (w : World) : BG base v0 w w := ⟨Below.refl _ _, World.grownBy.refl w _⟩
theorem BG.below (h : BG base v0 w wx) (hb : Below wx.heap.size wx wy) (hbase : base <= w.heap.size) : BG base v0 w wy :=
 ⟨h.1.trans (hb.mono (Nat.le_trans hbase h.2.size)), h.2.trans (qbV hb _)⟩
theorem BG.grown (h : BG base v0 w wx) (hb : Below base wx wy) {v : Value} (hg : wx.grownBy wy v.ownBlock) (hs : Sep w.heap.size v0 v) : BG base v0 w wy :=
 ⟨h.1.trans hb, h.2.andThen hg fun j hj => by
  rcases hs j hj with ⟨h, _⟩ | h
  ·exact .inr h
  ·exact .inl (by omega)⟩
theorem BG.alloc (h : BG base v0 w wx) (hbase : base <= w.heap.size) (o : Obj) : BG base v0 w (wx.alloc o) := h.below (Below.alloc (Below.refl _ _) (Nat.le_refl _) _) hbase
theorem BG.drew (h : BG base v0 w wx) (hbase : base <= w.heap.size) : BG base v0 w wx.drew := h.below (Below.refl _ _).drew hbase
theorem BG.set_ (h : BG base v0 w wx) (hbase : base <= w.heap.size) {p : Addr} (hp : w.heap.size <= p.block) (u : Value) : BG base v0 w (wx.setCell p u) :=
 ⟨h.1.setCell (Nat.le_trans hbase hp) _, h.2.andThen (qd1 wx p u) fun j hj => .inl (by injection hj with hj; omega)⟩
theorem BG.size (h : BG base v0 w wx) : w.heap.size <= wx.heap.size := h.2.size
end
def TX (w : World) (base : Nat) (v0 : Value) (st : Int) (j : Bool) (O : List Gl) (wx : World) : Prop :=
 ∃ A c, Blk wx w.heap.size 98 (tC (.slice A O.length c) st j) /\ Blk wx (w.heap.size + 1) 98 (tC (.slice none 0 0) 0 false) /\ wx.ownsRow base 31 3 (.slice A O.length c) O.length (qn O) /\
  Sep w.heap.size v0 (.slice A O.length c) /\ BG base v0 w wx
theorem TX.new {w : World} {base : Nat} {st : Int} {j : Bool} {O : List Gl} {A : Option Addr} {c : Nat} (h : w.ownsRow base 31 3 (.slice A O.length c) O.length (qn O)) (hb : base <= w.heap.size) :
  TX w base (.slice A O.length c) st j O ((w.alloc (.cells (tC (.slice A O.length c) st j) 98)).alloc (.cells (tC (.slice none 0 0) 0 false) 98)) :=
 ⟨A, c, Blk.alloc (Blk.new w _ _) _, Blk.new_ (by simp), (h.alloc _).alloc _, fun k hk => .inl ⟨hk, (h.lt k hk).2⟩, ((BG.refl _ _ _).alloc hb _).alloc hb _⟩
theorem TX.put {w X w4 : World} {base n N c0 c4 : Nat} {v0 : Value} {A0 A4 : Option Addr} {st : Int} {j : Bool} {ys : List Value} {O : List Gl}
  (B1 : Blk X w.heap.size 98 (tC (.slice A0 n c0) st j)) (B2 : Blk X (w.heap.size + 1) 98 (tC (.slice none 0 0) 0 false)) (hs : Sep w.heap.size v0 (.slice A0 n c0)) (tX : BG base v0 w X) (hb : base <= w.heap.size)
  (qie : w4.ownsRow base 31 3 (.slice A4 N c4) N ys) (qia : Below base X w4) (hgr : X.grownBy w4 (Value.slice A0 n c0).ownBlock) (hat : (Value.slice A4 N c4).ownBlock = (Value.slice A0 n c0).ownBlock ∨ (Value.slice A4 N c4).ownBlock = some X.heap.size) (hN : O.length = N) (hy : qn O = ys) :
  TX w base v0 st j O (w4.setCell ⟨w.heap.size, 0, none⟩ (.slice A4 N c4)) := by
 subst hN hy
 have z1 := B2.lt
 have hs4 : Sep w.heap.size v0 (.slice A4 O.length c4) := fun k hk => by
  rcases hat with h | h
  ·exact hs k (h ▸ hk)
  ·rw [h] at hk
   injection hk with hk
   omega
 have C1 := B1.grown hgr (jL fun k hk => (hs.ne k hk).1)
 have C2 := B2.grown hgr (jL fun k hk => (hs.ne k hk).2)
 refine ⟨A4, c4, ?_, C2.far (p := ⟨w.heap.size, 0, none⟩) (by show w.heap.size + 1 ≠ w.heap.size; omega) _, yw qie (p := ⟨w.heap.size, 0, none⟩) (fun k hk => (hs4.ne k hk).1) _, hs4, (tX.grown qia hgr hs).set_ hb (Nat.le_refl _) _⟩
 have := C1.set_ 0 (.slice A4 O.length c4)
 simpa [tC] using this
def TRt (base : Nat) (v0 : Value) (w : World) (O : List Gl) (st : Int) (j : Bool) (F : Value -> Value) (e : Ending) (w' : World) : Prop :=
 ∃ A c, e = .returned (F (.agg (tC (.slice A O.length c) st j))) /\ w'.ownsRow base 31 3 (.slice A O.length c) O.length (qn O) /\ BG base v0 w w' /\ Sep w.heap.size v0 (.slice A O.length c)
theorem TX.copy {w wr : World} {base : Nat} {v0 : Value} {O : List Gl} {A : Option Addr} {c : Nat} {v : Value} {st' : Int} {j' : Bool} (B1 : Blk wr (w.heap.size + 1) 98 (tC (.slice none 0 0) 0 false)) (ox : wr.ownsRow base 31 3 (.slice A O.length c) O.length (qn O))
  (hs : Sep w.heap.size v0 (.slice A O.length c)) (tx : BG base v0 w wr) (hb : base <= w.heap.size) :
  Blk (((wr.setCell ⟨w.heap.size + 1, 0, none⟩ v).setCell ⟨w.heap.size + 1, 1, none⟩ (.int .i64 st')).setCell ⟨w.heap.size + 1, 2, none⟩ (.bool j')) (w.heap.size + 1) 98 (tC v st' j') /\
  (((wr.setCell ⟨w.heap.size + 1, 0, none⟩ v).setCell ⟨w.heap.size + 1, 1, none⟩ (.int .i64 st')).setCell ⟨w.heap.size + 1, 2, none⟩ (.bool j')).ownsRow base 31 3 (.slice A O.length c) O.length (qn O) /\
  BG base v0 w (((wr.setCell ⟨w.heap.size + 1, 0, none⟩ v).setCell ⟨w.heap.size + 1, 1, none⟩ (.int .i64 st')).setCell ⟨w.heap.size + 1, 2, none⟩ (.bool j')) :=
 ⟨qaT B1, qeO ox fun k hk => (hs.ne k hk).2, ((tx.set_ hb (Nat.le_succ _) _).set_ hb (Nat.le_succ _) _).set_ hb (Nat.le_succ _) _⟩
theorem qdl (O : List Gl) (st : Int) (J : Bool) (s : ByteArray) (hs : s.size <= 1000000) (ho : O.length <= 1000000000) (A : Option Addr) (c base : Nat) (w : World) (hb : base <= w.heap.size) (h : w.ownsRow base 31 3 (.slice A O.length c) O.length (qn O)) :
  Calls prog 81 #[.agg (tC (.slice A O.length c) st J), .string s] w (TRt base (.slice A O.length c) w (O ++ zt J st s) st true id) := by
 obtain ⟨O1, hO1⟩ : ∃ x, x = O ++ (if J = true then [chG st 32] else []) := ⟨_, rfl⟩
 have hO1l : O1.length <= O.length + 1 := by
  rw [hO1, List.length_append]
  split <;> simp
 have HE : Hid (O ++ zt J st s = O1 ++ (s.data.toList.take s.data.toList.length).map (chG st)) := Lh (by rw [hO1, zt, List.take_length, List.append_assoc])
 have HT : Hid (∀ j (h : j < s.size), O1 ++ (s.data.toList.take (j + 1)).map (chG st) = (O1 ++ (s.data.toList.take j).map (chG st)) ++ [chG st s[j]]) := Lh fun j h => qc4 O1 st _ j (by simpa using h)
 have HX : Hid (∀ j (h : j < s.size), s.extract j (j + 1) = ⟨#[s[j]]⟩) := Lh (qcR s)
 have HL : Hid (∀ j, (O1 ++ (s.data.toList.take j).map (chG st)).length <= 1000000001 + j) := Lh fun j => by
  rw [List.length_append, List.length_map, List.length_take]
  omega
 have HZ : Hid (s.data.toList.length = s.size) := Lh (by simp)
 have H0 : Hid (O1 = O1 ++ (s.data.toList.take 0).map (chG st)) := Lh (by simp)
 generalize O ++ zt J st s = Q at *
 have hpn := TX.new (st := st) (j := J) h hb
 clear h
 obtain ⟨v0, hv0⟩ : ∃ x, x = Value.slice A O.length c := ⟨_, rfl⟩
 have HV := Lh hv0
 rw [<- hv0] at hpn ⊢
 clear hv0
 cases J with
 | false =>
  rw [if_neg (by simp), List.append_nil] at hO1
  subst hO1
  clear hO1l
  go_enter func81, ntmps81
  go_upto_region 1 with fail
  refine qc (TX w base v0 st false O1) hpn ?_
  clear hpn
  intro wx hpx
  obtain ⟨A2, c2, B1, B2, ox, hs2, tx⟩ := id hpx
  have c0 := B1.cell 0
  have c1 := B1.cell 1
  have c2 := B1.cell 2
  have d0 := B2.cell 0
  have d1 := B2.cell 1
  have d2 := B2.cell 2
  have f0 := B1.frozen 0
  have f2 := B1.frozen 2
  have g0 := B2.frozen 0
  have g1 := B2.frozen 1
  have g2 := B2.frozen 2
  simp only [tC, La, Lb, Lc] at c0 c1 c2 d0 d1 d2
  clear B1 B2 ox hs2 tx
  go_upto_region 3 with fail
  clear c0 c1 c2 d0 d1 d2 f0 f2 g0 g1 g2
  go_wp2
  go_loopw [5] (fun x wr => ∃ j : Nat, j <= s.size /\ x = .int .i64 j /\ TX w base v0 st false (O1 ++ (s.data.toList.take j).map (chG st)) wr) (fun x _ => s.size - (intOf x).toNat)
  case atStart => exact ⟨0, Nat.zero_le _, rfl, by rw [<- H0.out]; exact hpx⟩
  case round =>
   clear hpx
   obtain ⟨j, hj, rfl, A6, c6, B1, B2, ox, hs6, tx⟩ := hrel
   have zz := B2.lt
   have zg := B1.lt
   by_cases hlt : j < s.size
   ·have hx := HX.out j hlt
    have HTj := Lh (HT.out j hlt)
    have hlen := HL.out j
    have HQl : Hid ((O1 ++ (s.data.toList.take (j + 1)).map (chG st)).length = (O1 ++ (s.data.toList.take j).map (chG st)).length + 1) := Lh (by rw [HTj.out, List.length_append]; rfl)
    have HQs : Hid (qn (O1 ++ (s.data.toList.take (j + 1)).map (chG st)) = qn (O1 ++ (s.data.toList.take j).map (chG st)) ++ vp (chG st s[j])) := Lh (by rw [HTj.out, jE, jF])
    clear HTj HT HX HE H0 HL
    generalize O1 ++ (s.data.toList.take j).map (chG st) = OJ at *
    generalize s[j] = cj at *
    have c0 := B1.cell 0
    have c1 := B1.cell 1
    have c2 := B1.cell 2
    have d0 := B2.cell 0
    have d1 := B2.cell 1
    have d2 := B2.cell 2
    have f0 := B1.frozen 0
    have f2 := B1.frozen 2
    have g0 := B2.frozen 0
    have g1 := B2.frozen 1
    have g2 := B2.frozen 2
    simp only [tC, La, Lb, Lc] at c0 c1 c2 d0 d1 d2
    have HS6 := Lh hs6
    have hown := (World.ownsRow.alloc (qa ox (Below.refl wr.heap.size wr).drew) (.cells (vp (chG st cj)).toArray 31))
    have BS1 := (Blk.alloc B1 (.cells (vp (chG st cj)).toArray 31)).drew
    have BS2 := (Blk.alloc B2 (.cells (vp (chG st cj)).toArray 31)).drew
    have hwj : IntKind.i64.wrap ((j : Int) + 1) = (j : Int) + 1 := by rw [IntKind.wrap_i64]; omega
    have hj0 : (0 : Int) <= (j : Int) + 1 := by omega
    have hj1 : (j : Int) + 1 <= s.size := by omega
    have hj2 : (j : Int) <= (j : Int) + 1 := by omega
    have hj3 : ((j : Int) + 1).toNat = j + 1 := by omega
    have tX : BG base v0 w (wr.alloc (.cells (vp (chG st cj)).toArray 31)).drew := (tx.alloc hb _).drew hb
    clear hs6
    go_upto_region 6 with fail
    go_region_law (refine vS rfl _ _ _ rfl kQ (base) _ rfl (hown) _ _ rfl ((qe (xs := vp (chG st cj)) rfl rfl)) (rfl) (by omega) (by omega) (by first | (simp; done) | (simp; omega) | omega) ?_; intro A4 c4 w4 qie qia qii qik; have z4 := qia.size; (try simp only [Nat.zero_add, List.nil_append] at qie); have B4 := BS1.grown qii (jL fun k hk => (HS6.out.ne k hk).1); have c42 := B4.cell 0; have f42 := B4.frozen 0; simp only [tC, La, Lb, Lc] at c42)
    all_goals go_wp2
    all_goals exact ⟨⟨j + 1, by omega, by go_num, TX.put BS1 BS2 HS6.out tX hb qie qia qii qik HQl.out HQs.out⟩, by simp [intOf]; omega⟩
   ·obtain rfl : j = s.size := by omega
    have HQ : Hid (Q = O1 ++ (s.data.toList.take s.size).map (chG st)) := Lh (by rw [HE.out, HZ.out])
    rw [<- HQ.out] at B1 ox hs6
    clear HT HX HE H0 HL HQ
    have c0 := B1.cell 0
    have c1 := B1.cell 1
    have c2 := B1.cell 2
    have d0 := B2.cell 0
    have d1 := B2.cell 1
    have d2 := B2.cell 2
    have f0 := B1.frozen 0
    have f2 := B1.frozen 2
    have g0 := B2.frozen 0
    have g1 := B2.frozen 1
    have g2 := B2.frozen 2
    simp only [tC, La, Lb, Lc] at c0 c1 c2 d0 d1 d2
    have o7 := yw ox (p := ⟨w.heap.size, 2, none⟩) (fun k hk => (hs6.ne k hk).1) (.bool true)
    have R := TX.copy (v := .slice A6 Q.length c6) (st' := st) (j' := true) (B2.far (p := ⟨w.heap.size, 2, none⟩) (by show w.heap.size + 1 ≠ w.heap.size; omega) (.bool true)) o7 hs6 (tx.set_ (p := ⟨w.heap.size, 2, none⟩) hb (Nat.le_refl _) (.bool true)) hb
    go_wp2
    exact bodyPost_ret (results_cell_row rfl _ _ (w.heap.size + 1) 98 _ (0, 0) _ rfl R.1 underlying98 rfl zD) rfl ⟨A6, c6, rfl, R.2.1, R.2.2, hs6⟩
 | true =>
  rw [if_pos rfl] at hO1
  have hO1l' : O1.length = O.length + 1 := by rw [hO1]; simp
  have hO1s : qn O1 = qn O ++ vp (chG st 32) := by rw [hO1, jE, jF]
  replace hO1 := Lh hO1
  go_enter func81, ntmps81
  go_upto_region 1 with fail
  refine qc (TX w base v0 st true O) hpn ?_
  clear hpn
  intro wx hpx
  obtain ⟨A2, c2, B1, B2, ox, hs2, tx⟩ := hpx
  have c0 := B1.cell 0
  have c1 := B1.cell 1
  have c2 := B1.cell 2
  have d0 := B2.cell 0
  have d1 := B2.cell 1
  have d2 := B2.cell 2
  have f0 := B1.frozen 0
  have f2 := B1.frozen 2
  have g0 := B2.frozen 0
  have g1 := B2.frozen 1
  have g2 := B2.frozen 2
  simp only [tC, La, Lb, Lc] at c0 c1 c2 d0 d1 d2
  go_upto_if 7 with fail
  go_cut [] (fun wx => TX w base v0 st true O1 wx)
  case first =>
   clear HE HT HX HL HZ H0
   have HS6 := Lh hs2
   have zz := B2.lt
   have zg := B1.lt
   clear hs2
   have hown := (World.ownsRow.alloc ox (.cells (vp (chG st 32)).toArray 31))
   have BS1 := (Blk.alloc B1 (.cells (vp (chG st 32)).toArray 31))
   have BS2 := (Blk.alloc B2 (.cells (vp (chG st 32)).toArray 31))
   have tX := tx.alloc hb (.cells (vp (chG st 32)).toArray 31)
   go_wp2_with ((at_builtin; go_must (refine qh rfl _ _ _ rfl kQ (base) _ rfl (hown) _ _ rfl ((qe (xs := vp (chG st 32)) rfl rfl)) (by first | rfl | exact qN _ | exact qO _) (by omega) (by omega) (by first | (simp; done) | (simp; omega) | omega) ?_); intro A4 c4 w4 qie qia qii qik; have z4 := qia.size; (try simp only [World.size_alloc] at z4); (try simp only [Nat.zero_add, List.nil_append] at qie)); have B4 := BS1.grown qii (jL fun k hk => (HS6.out.ne k hk).1); have c42 := B4.cell 0; have f42 := B4.frozen 0; simp only [tC, La, Lb, Lc] at c42)
   go_meet
   exact TX.put BS1 BS2 HS6.out tX hb qie qia qii qik hO1l' hO1s
  case rest =>
   clear B1 B2 ox hs2 tx c0 c1 c2 d0 d1 d2 f0 f2 g0 g1 g2
   have hpx := hcut
   clear hcut
   go_wp2
   go_loopw [5] (fun x wr => ∃ j : Nat, j <= s.size /\ x = .int .i64 j /\ TX w base v0 st true (O1 ++ (s.data.toList.take j).map (chG st)) wr) (fun x _ => s.size - (intOf x).toNat)
   case atStart => exact ⟨0, Nat.zero_le _, rfl, by rw [<- H0.out]; exact hpx⟩
   case round =>
    clear hpx
    obtain ⟨j, hj, rfl, A6, c6, B1, B2, ox, hs6, tx⟩ := hrel
    have zz := B2.lt
    have zg := B1.lt
    by_cases hlt : j < s.size
    ·have hx := HX.out j hlt
     have HTj := Lh (HT.out j hlt)
     have hlen := HL.out j
     have HQl : Hid ((O1 ++ (s.data.toList.take (j + 1)).map (chG st)).length = (O1 ++ (s.data.toList.take j).map (chG st)).length + 1) := Lh (by rw [HTj.out, List.length_append]; rfl)
     have HQs : Hid (qn (O1 ++ (s.data.toList.take (j + 1)).map (chG st)) = qn (O1 ++ (s.data.toList.take j).map (chG st)) ++ vp (chG st s[j])) := Lh (by rw [HTj.out, jE, jF])
     clear HTj HT HX HE H0 HL
     generalize O1 ++ (s.data.toList.take j).map (chG st) = OJ at *
     generalize s[j] = cj at *
     have c0 := B1.cell 0
     have c1 := B1.cell 1
     have c2 := B1.cell 2
     have d0 := B2.cell 0
     have d1 := B2.cell 1
     have d2 := B2.cell 2
     have f0 := B1.frozen 0
     have f2 := B1.frozen 2
     have g0 := B2.frozen 0
     have g1 := B2.frozen 1
     have g2 := B2.frozen 2
     simp only [tC, La, Lb, Lc] at c0 c1 c2 d0 d1 d2
     have HS6 := Lh hs6
     have hown := (World.ownsRow.alloc (qa ox (Below.refl wr.heap.size wr).drew) (.cells (vp (chG st cj)).toArray 31))
     have BS1 := (Blk.alloc B1 (.cells (vp (chG st cj)).toArray 31)).drew
     have BS2 := (Blk.alloc B2 (.cells (vp (chG st cj)).toArray 31)).drew
     have hwj : IntKind.i64.wrap ((j : Int) + 1) = (j : Int) + 1 := by rw [IntKind.wrap_i64]; omega
     have hj0 : (0 : Int) <= (j : Int) + 1 := by omega
     have hj1 : (j : Int) + 1 <= s.size := by omega
     have hj2 : (j : Int) <= (j : Int) + 1 := by omega
     have hj3 : ((j : Int) + 1).toNat = j + 1 := by omega
     have tX : BG base v0 w (wr.alloc (.cells (vp (chG st cj)).toArray 31)).drew := (tx.alloc hb _).drew hb
     clear hs6
     go_upto_region 6 with fail
     go_region_law (refine vS rfl _ _ _ rfl kQ (base) _ rfl (hown) _ _ rfl ((qe (xs := vp (chG st cj)) rfl rfl)) (rfl) (by omega) (by omega) (by first | (simp; done) | (simp; omega) | omega) ?_; intro A4 c4 w4 qie qia qii qik; have z4 := qia.size; (try simp only [Nat.zero_add, List.nil_append] at qie); have B4 := BS1.grown qii (jL fun k hk => (HS6.out.ne k hk).1); have c42 := B4.cell 0; have f42 := B4.frozen 0; simp only [tC, La, Lb, Lc] at c42)
     all_goals go_wp2
     all_goals exact ⟨⟨j + 1, by omega, by go_num, TX.put BS1 BS2 HS6.out tX hb qie qia qii qik HQl.out HQs.out⟩, by simp [intOf]; omega⟩
    ·obtain rfl : j = s.size := by omega
     have HQ : Hid (Q = O1 ++ (s.data.toList.take s.size).map (chG st)) := Lh (by rw [HE.out, HZ.out])
     rw [<- HQ.out] at B1 ox hs6
     clear HT HX HE H0 HL HQ
     have c0 := B1.cell 0
     have c1 := B1.cell 1
     have c2 := B1.cell 2
     have d0 := B2.cell 0
     have d1 := B2.cell 1
     have d2 := B2.cell 2
     have f0 := B1.frozen 0
     have f2 := B1.frozen 2
     have g0 := B2.frozen 0
     have g1 := B2.frozen 1
     have g2 := B2.frozen 2
     simp only [tC, La, Lb, Lc] at c0 c1 c2 d0 d1 d2
     have o7 := yw ox (p := ⟨w.heap.size, 2, none⟩) (fun k hk => (hs6.ne k hk).1) (.bool true)
     have R := TX.copy (v := .slice A6 Q.length c6) (st' := st) (j' := true) (B2.far (p := ⟨w.heap.size, 2, none⟩) (by show w.heap.size + 1 ≠ w.heap.size; omega) (.bool true)) o7 hs6 (tx.set_ (p := ⟨w.heap.size, 2, none⟩) hb (Nat.le_refl _) (.bool true)) hb
     go_wp2
     exact bodyPost_ret (results_cell_row rfl _ _ (w.heap.size + 1) 98 _ (0, 0) _ rfl R.1 underlying98 rfl zD) rfl ⟨A6, c6, rfl, R.2.1, R.2.2, hs6⟩
end Go.Proofs.YtlndbiamiioakaaGreatDoor
namespace Go.Proofs.YtlndbiamiioakaaGreatDoor
open Go.Proofs.Tryz Go.RowKit
set_option maxRecDepth 20000
theorem rsplit1 (r : Nat) (hr : q9 r) (hw : 1 <= zC (r : Int)) (A : Option Addr) (c B : Nat) (w : World) (rd : Rd w B 1 A 1 (chV [r])) (hB : B <= w.heap.size) :
  Calls prog 115 #[.slice A 1 c] w (ql 9 1 id w 1 (sv [jf r])) := by
 obtain ⟨b, o, rfl, hbB, hc⟩ := rd.2 (by omega)
 have hcell : w.cell? ⟨b, o, none⟩ = some (.int .i32 (r : Int)) := hc 0 _ rfl
 have HM := Lh (qeX (r : Int))
 have HW := Lh (qdU (r : Int))
 have hm : inT q6 (r : Int) = false := by
  cases h : inT q6 (r : Int) with
  | false => rfl
  | true => have := qf0 h; omega
 have HE := Lh (qen r hr)
 rw [hm] at HM
 generalize zC (r : Int) = W at *
 generalize jf r = E at *
 clear hc rd hm
 go_enter func115, ntmps115
 go_wp2
 go_loopw [3, 4, 5] (fun v _ x wr => ∃ k : Nat, k <= 1 /\ x = .int .i64 k /\ Below w.heap.size w wr /\ ((k = 0 /\ v = .slice none 0 0) ∨ (k = 1 /\ ∃ A' c', v = .slice A' 1 c' /\ wr.ownsRow w.heap.size 9 1 (.slice A' 1 c') 1 (sv [E])))) (fun _ _ x _ => 1 - (intOf x).toNat)
 case atStart => exact ⟨0, by omega, rfl, Below.refl _ _, .inl ⟨rfl, rfl⟩⟩
 case round =>
  obtain ⟨k, hk, rfl, hbel, hcase⟩ := hrel
  rcases hcase with ⟨rfl, rfl⟩ | ⟨rfl, A', c', rfl, hown⟩
  ·have hcell2 := (hbel.cell (by omega : b < w.heap.size)).trans hcell
   have z0 := hbel.size
   go_wp2_with (first
    | (go_at_call 64; refine (HM.out _).mono ?_; rintro e w3 ⟨rfl, qh9⟩; have t3 := hbel.trans (qh9.mono z0); have hcell3 := (t3.cell (by omega : b < w.heap.size)).trans hcell)
    | (go_at_call 65; refine (HW.out _).mono ?_; rintro e w4 ⟨rfl, qia⟩; have t4 := t3.trans (qia.mono t3.size); have hcell4 := (t4.cell (by omega : b < w.heap.size)).trans hcell)
    | (go_at_call 141; refine (HE.out _).mono ?_; rintro e w5 ⟨rfl, qib⟩; have t5 := t4.trans (qib.mono t4.size); have z5 := t5.size)
    | (at_builtin; go_must (refine qh rfl _ _ _ rfl qx (w.heap.size) _ rfl (zh _ _ _ _) _ _ rfl ((qe (by rfl) rfl)) (by first | rfl | exact qN _ | exact qO _) (by omega) (by omega) (by first | (simp; done) | (simp; omega) | omega) ?_); intro A6 c6 w6 hown6 qic hgr6 hat6; have z6 := qic.size; (try simp only [World.size_alloc] at z6); (try simp only [Nat.zero_add, List.nil_append] at hown6)))
   exact ⟨⟨1, by omega, by go_num, (t5.alloc z5 _).trans qic, .inr ⟨rfl, A6, c6, rfl, hown6⟩⟩, by simp [intOf]⟩
  ·go_wp2
   go_ret
   exact ⟨A', c', rfl, hown, hbel⟩
end Go.Proofs.YtlndbiamiioakaaGreatDoor
