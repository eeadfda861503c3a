/- Joined texts: Lw8, LxI, LsRow. -/
import Derived.Great.BuildSlice
import Derived.Test.YtholajadbbdcmaaGreatDoorQAA
import Derived.Test.YtholajadbbdcmaaGreatDoorQAB
import Derived.Test.YtholajadbbdcmaaGreatDoorQAC
import Derived.Test.YtholajadbbdcmaaGreatDoorQAD
import Derived.Test.YtholajadbbdcmaaGreatDoorQAE
import Derived.Test.YtholajadbbdcmaaGreatDoorQAG
import Derived.Test.YtholajadbbdcmaaGreatDoorQAH
import Derived.Test.YtholajadbbdcmaaGreatDoorQAI
import Derived.Test.YtholajadbbdcmaaGreatDoorQAM
import Derived.Test.YtholajadbbdcmaaGreatDoorQAN
import Derived.Test.YtholajadbbdcmaaGreatDoorQAQ
import Derived.Test.YtholajadbbdcmaaGreatDoorQAS
import Derived.Test.YtholajadbbdcmaaGreatDoorQAT
import Derived.Test.YtholajadbbdcmaaGreatDoorQAU
import Derived.Test.YtholajadbbdcmaaGreatDoorQAY
import Derived.Test.YtholajadbbdcmaaGreatDoorQBB
import Derived.Test.YtholajadbbdcmaaGreatDoorQBC
import Derived.Test.YtholajadbbdcmaaGreatDoorQBD
import Derived.Test.YtholajadbbdcmaaGreatDoorQBF
import Derived.Test.YtholajadbbdcmaaGreatDoorQBG
import Derived.Test.YtholajadbbdcmaaGreatDoorQBH
import Derived.Test.YtholajadbbdcmaaGreatDoorQBM
import Derived.Test.YtholajadbbdcmaaGreatDoorQBN
import Derived.Test.YtholajadbbdcmaaGreatDoorQBQ
import Derived.Test.YtholajadbbdcmaaGreatDoorQBU
import Derived.Test.YtholajadbbdcmaaGreatDoorQBV
import Derived.Test.YtholajadbbdcmaaGreatDoorQBW
import Derived.Test.YtholajadbbdcmaaGreatDoorQBX
import Derived.Test.YtholajadbbdcmaaGreatDoorQBY
import Derived.Test.YtholajadbbdcmaaGreatDoorQCA
import Derived.Test.YtholajadbbdcmaaGreatDoorQCB
import Derived.Test.YtholajadbbdcmaaGreatDoorQCC
import Derived.Test.YtholajadbbdcmaaGreatDoorQCD
import Derived.Test.YtholajadbbdcmaaGreatDoorQCE
import Derived.Test.YtholajadbbdcmaaGreatDoorQCF
import Derived.Test.YtholajadbbdcmaaGreatDoorQDW
set_option linter.unusedVariables false
set_option linter.unusedSimpArgs false
set_option linter.unnecessarySimpa false
namespace Go.Proofs.YtholajadbbdcmaaGreatDoor
open Go.RowKit
set_option maxRecDepth 20000
def V2 (w : World) (v : Vw) (A A' : Option Addr) (n c c' : Nat) (X : World) : Prop := Blk X w.heap.size 24 (vwC v A n c) ∧ Blk X (w.heap.size + 1) 24 (vwC v A' n c') ∧ Below w.heap.size w X
theorem V2.on {w X X' : World} {v : Vw} {A A' : Option Addr} {n c c' : Nat} (h : V2 w v A A' n c c' X) (hb : Below X.heap.size X X') : V2 w v A A' n c c' X' :=
 ⟨h.1.below hb h.1.lt, h.2.1.below hb h.2.1.lt, h.2.2.trans (hb.mono (Nat.le_of_lt h.1.lt))⟩
set_option maxHeartbeats 4000000 in
theorem rsame15_ (v : Vw) (A A' : Option Addr) (n c c' B : Nat) (rs rs' : List RowM) (w : World) (rd : RdV w B v A n c rs) (rd' : RdV w B v A' n c' rs') (hB : B ≤ w.heap.size) (hm : ∀ x ∈ rs, x.l.length ≤ 1000000000) :
  Calls Tryz.prog 21 #[.agg (vwC v A n c), .agg (vwC v A' n c')] w (Gives (.bool true) w) := by
 have hn : rs.length = n := rd.1.len
 have hn' : rs'.length = n := rd'.1.len
 have hnm : n ≤ 9223372036854775807 := by have h1 := rd.2.2.1; have h2 := rd.2.2.2; unfold maxLen at h2; omega
 have hl : ∀ k (h : k < rs.length) (h' : k < rs'.length), rs[k].l = rs'[k].l := fun k h h' => by
  have e : rls rs = rls rs' := rd.2.1.symm.trans rd'.2.1
  have e1 : (rls rs)[k]? = (rls rs')[k]? := by rw [e]
  unfold rls at e1
  rw [List.getElem?_map, List.getElem?_map, List.getElem?_eq_getElem h, List.getElem?_eq_getElem h'] at e1
  exact Option.some.inj e1
 have HC : Hid (∀ k, k < n → ∀ X, Below w.heap.size w X → ∃ b o b' o' B1 B2 m d d', A = some ⟨b, o, none⟩ ∧ A' = some ⟨b', o', none⟩ ∧ X.cell? ⟨b, o + k, none⟩ = some (.slice B1 m d) ∧ X.cell? ⟨b', o' + k, none⟩ = some (.slice B2 m d') ∧ ∀ Y, Below w.heap.size w Y → Calls Tryz.prog 42 #[.slice B1 m d, .slice B2 m d'] Y (Gives (.bool true) Y)) := Lib.hid fun k hk X hX => by
  have h1 : k < rs.length := by omega
  have h2 : k < rs'.length := by omega
  obtain ⟨b, o, e1, -, e2⟩ := ((rd.1.more hB).below hX).at_ h1
  obtain ⟨b', o', e3, -, e4⟩ := ((rd'.1.more hB).below hX).at_ h2
  refine ⟨b, o, b', o', rs[k].A, rs'[k].A, rs[k].l.length, rs[k].cap, rs'[k].cap, e1, e3, e2, by rw [hl k h1 h2]; exact e4, fun Y hY => ?_⟩
  have r1 := ((rd.1.gl _ (List.getElem_mem h1)).1.more hB).below hY
  have r2 := ((rd'.1.gl _ (List.getElem_mem h2)).1.more hB).below hY
  rw [← hl k h1 h2] at r2
  have := rsamerow rs[k].l rs[k].l rs[k].A rs'[k].A _ _ rs[k].cap rs'[k].cap w.heap.size Y (hm _ (List.getElem_mem h1)) r1 r2
  rw [decide_eq_true rfl] at this
  exact this.mono fun _ _ h => h.gives
 clear rd rd' hl hn hn' hm
 obtain ⟨W, H, rows, r, cl, vs⟩ := v
 have hvs : (vs != vs) = false := by cases vs <;> rfl
 have e1 : (W != W) = false := bne_self_eq_false W
 have e2 : (H != H) = false := bne_self_eq_false H
 have e3 : (r != r) = false := bne_self_eq_false r
 have e4 : (cl != cl) = false := bne_self_eq_false cl
 have e5 : ((n : Int) != n) = false := bne_self_eq_false _
 go_enter Tryz.func21, Tryz.ntmps21
 go_upto_region 1 with fail
 refine wp_fg (V2 w ⟨W, H, rows, r, cl, vs⟩ A A' n c c') ⟨(Blk.new_ rfl).below ((Below.refl _ _).alloc (Nat.le_refl _) _) (by simp), Blk.new_ (by simp), ((Below.refl _ _).alloc (Nat.le_refl _) _).alloc (by simp) _⟩ ?_
 intro X hX
 obtain ⟨c0, c1, c2, c3, c4, c5⟩ := vw_cells hX.1
 obtain ⟨d0, d1, d2, d3, d4, d5⟩ := vw_cells hX.2.1
 dsimp only at c0 c1 c3 c4 c5 d0 d1 d3 d4 d5
 go_wp2
 clear c0 c1 c2 c3 c4 c5 d0 d1 d2 d3 d4 d5
 go_loopw [5] (fun x wr => ∃ k : Nat, k ≤ n ∧ x = .int .i64 k ∧ V2 w ⟨W, H, rows, r, cl, vs⟩ A A' n c c' wr) (fun x _ => n - (intOf x).toNat)
 case atStart => exact ⟨0, Nat.zero_le _, rfl, hX⟩
 case round =>
  clear hX
  obtain ⟨k, hk, rfl, hX⟩ := hrel
  obtain ⟨c0, c1, c2, c3, c4, c5⟩ := vw_cells hX.1
  obtain ⟨d0, d1, d2, d3, d4, d5⟩ := vw_cells hX.2.1
  have hb := hX.2.2
  have hlX := hX.2.1.lt
  by_cases hlt : k < n
  ·obtain ⟨b, o, b', o', B1, B2, m, g, g', rfl, rfl, k1, k2, hS⟩ := HC.out k hlt _ hb
   have hS' := Lib.hid hS
   have hki : (k : Int) < n := by omega
   clear hS c0 c1 c3 c4 c5 d0 d1 d3 d4 d5
   go_upto_region 6 with fail
   go_region_law (go_simp; go_at_call 42; refine (hS'.out _ (by first | exact hb | exact hb.drew)).mono ?_; rintro e w2 ⟨rfl, b2⟩)
   all_goals go_wp2
   all_goals exact ⟨⟨k + 1, by omega, by go_num, hX.on (below_of_drew (B := wr.heap.size) b2)⟩, by simp [intOf]; omega⟩
  ·obtain rfl : k = n := by omega
   clear c0 c1 c3 c4 c5 d0 d1 d3 d4 d5
   go_wp2
   go_ret
   exact ⟨rfl, hb⟩
set_option maxHeartbeats 4000000 in
theorem rsame42_ (m : Md) (A A' : Option Addr) (n c c' B : Nat) (rs rs' : List RowM) (w : World) (rd : RdV w B m.view A n c rs) (rd' : RdV w B m.view A' n c' rs') (hB : B ≤ w.heap.size) (hm : ∀ x ∈ rs, x.l.length ≤ 1000000000) :
  Calls Tryz.prog 16 #[.agg (mdC m A n c), .agg (mdC m A' n c')] w (Gives (.bool true) w) := by
 have HS : Hid (∀ X, Below w.heap.size w X → Calls Tryz.prog 21 #[.agg (vwC m.view A n c), .agg (vwC m.view A' n c')] X (Gives (.bool true) X)) := Lib.hid fun X hX => rsame15_ m.view A A' n c c' w.heap.size rs rs' X ((rd.more hB).below hX) ((rd'.more hB).below hX) hX.size hm
 clear rd rd' hm
 obtain ⟨⟨W, H, rows, r, cl, vs⟩, U⟩ := m
 dsimp only at HS
 have e1 : (U == U) = true := beq_self_eq_true U
 go_enter Tryz.func16, Tryz.ntmps16
 go_upto_region 1 with fail
 refine wp_fg (fun X => Blk X w.heap.size 26 (mdC ⟨⟨W, H, rows, r, cl, vs⟩, U⟩ A n c) ∧ Blk X (w.heap.size + 1) 26 (mdC ⟨⟨W, H, rows, r, cl, vs⟩, U⟩ A' n c') ∧ Below w.heap.size w X) ⟨(Blk.new_ rfl).below ((Below.refl _ _).alloc (Nat.le_refl _) _) (by simp), Blk.new_ (by simp), ((Below.refl _ _).alloc (Nat.le_refl _) _).alloc (by simp) _⟩ ?_
 rintro X ⟨h1, h2, hb⟩
 obtain ⟨c0, c1, c2, c3, c4, c5, c6, -, -, -, -, -, -, -⟩ := md_facts h1
 obtain ⟨d0, d1, d2, d3, d4, d5, d6, -, -, -, -, -, -, -⟩ := md_facts h2
 dsimp only at c0 c1 c3 c4 c5 c6 d0 d1 d3 d4 d5 d6
 go_wp2_with (go_at_call 21; refine (HS.out _ hb).mono ?_; rintro e w1 ⟨rfl, hb1⟩)
 go_ret
 exact ⟨rfl, hb.trans (hb1.mono hb.size)⟩
theorem elt_spk : Elt Tryz.prog 55 62 (.agg #[.slice none 0 0, .slice none 0 0, .int .i64 0, .int .i64 0, .int .i64 0, .int .i64 0, .int .i64 0, .bool false]) 8 96 where
 und := Tryz.underlying55
 row := by
  have h : (Tryz.prog.info? 62).map (fun i => (i.zero, i.size, i.bytes)) = some (some (.agg #[.slice none 0 0, .slice none 0 0, .int .i64 0, .int .i64 0, .int .i64 0, .int .i64 0, .int .i64 0, .bool false]), 8, 96) := by kernel_rfl
  obtain ⟨i, hi, a, b, c⟩ := info_parts h
  exact ⟨i, hi, a, b, c⟩
 zs := rfl
 pos := by decide
theorem wpList_lit8 {ops : Array Oper} {rest : List Oper} {o : Oper} {a : Act} {w : World} {Q : Exit → Act → World → Prop} (hg : o.guard = none) (x : Operand) (ho : o.op = .buildSlice 55 1 #[(0, x)]) (v0 v1 v2 v3 v4 v5 v6 v7 : Value) (hx : a.eval x = .agg #[v0, v1, v2, v3, v4, v5, v6, v7])
  (h : wpList Tryz.prog ops Q rest (a.put o.dst (.slice (some ⟨w.heap.size, 0, none⟩) 1 1)) (w.alloc (.cells #[v0, v1, v2, v3, v4, v5, v6, v7] 62))) : wpList Tryz.prog ops Q (o :: rest) a w := by
 obtain ⟨ie, h1, h2, h3, h4⟩ := elt_spk.row
 refine wpList_buildSlice hg 55 62 1 _ ho #[v0, v1, v2, v3, v4, v5, v6, v7] ie _ Tryz.underlying55 h1 h2 (by rw [h3]; decide) (by rw [h3]; decide) ?_ h
 rw [h3]
 have hp : (#[(0, x)].map fun (i, x) => (i, a.eval x) : Array (Nat × Value)).toList = [(0, Value.agg #[v0, v1, v2, v3, v4, v5, v6, v7])] := by
  simp [hx]
 rw [hp]
 exact (Great.fill_whole (s := 8) (by decide) [Value.agg #[v0, v1, v2, v3, v4, v5, v6, v7]] _ (fun v hv => by rw [List.mem_singleton] at hv; subst hv; rfl) (by simp)).trans rfl
theorem own_dj {W : World} {b b' s s' n n' : Nat} {e e' : TypeId} {v v' : Value} {xs xs' : List Value} (h : W.ownsRow b e s v n xs) (h' : W.ownsRow b' e' s' v' n' xs') (he : e ≠ e') : v.ownBlock = none ∨ v.ownBlock ≠ v'.ownBlock := by
 rcases h.2 with ⟨rfl, _⟩ | ⟨g, cap, cur, rfl, _, hgb, _⟩
 ·exact .inl rfl
 ·rcases h'.2 with ⟨rfl, _⟩ | ⟨g', cap', cur', rfl, _, hgb', _⟩
  ·exact .inr (by simp [Value.ownBlock])
  ·refine .inr fun e1 => ?_
   obtain rfl : g = g' := by simpa [Value.ownBlock] using e1
   rw [hgb] at hgb'
   simp at hgb'
   exact he hgb'.2
theorem blk_dj {W : World} {g b s n : Nat} {t e : TypeId} {v : Value} {cs : Array Value} {xs : List Value} (h : Blk W g t cs) (h' : W.ownsRow b e s v n xs) (he : t ≠ e) : some g ≠ v.ownBlock := by
 rcases h'.2 with ⟨rfl, _⟩ | ⟨g', cap', cur', rfl, _, hgb', _⟩
 ·simp [Value.ownBlock]
 ·intro e1
  obtain rfl : g = g' := by simpa [Value.ownBlock] using e1
  unfold Blk at h
  rw [h] at hgb'
  simp at hgb'
  exact he hgb'.2
def XR (w W : World) (v : Vw) (A : Option Addr) (n c : Nat) (rs : List RowM) : Prop := RdV W w.heap.size v A n c rs ∨ ∃ N, OwV N W v A n c rs
section
variable {w W W' : World} {v : Vw} {A : Option Addr} {n c : Nat} {rs : List RowM}
theorem XR.rdV (h : XR w W v A n c rs) (hb : w.heap.size ≤ W.heap.size) : RdV W W.heap.size v A n c rs := h.elim (fun h => h.more hb) fun ⟨_, h⟩ => h.rdV
theorem XR.on (h : XR w W v A n c rs) (hb : w.heap.size ≤ W.heap.size) (hW : Below W.heap.size W W') : XR w W' v A n c rs := h.elim (fun h => .inl (h.below (hW.mono hb))) fun ⟨N, h⟩ => .inr ⟨N, h.below hW⟩
theorem XR.grown {b s k : Nat} {u : Value} {xs : List Value} (h : XR w W v A n c rs) (hW : Below w.heap.size W W') (hg : W.grownBy W' u.ownBlock) (ho : W.ownsRow b 62 s u k xs) : XR w W' v A n c rs :=
 h.elim (fun h => .inl (h.below hW)) fun ⟨N, h⟩ => .inr ⟨N, h.rows.kept hg (own_dj h.rows ho (by decide)), fun x hx => (h.gl x hx).kept hg (own_dj (h.gl x hx) ho (by decide)), h.eq⟩
end
structure IgI (w : World) (m : Md) (A : Option Addr) (n c g6 : Nat) (M : Md × Int) (cl : List SpkM) (A5 : Option Addr) (k5 c5 : Nat) (W : World) : Prop where
 box : Blk W w.heap.size 26 (mdC m A n c)
 xb : ∃ A' n' c' rs', Blk W g6 26 (mdC M.1 A' n' c') ∧ XR w W M.1.view A' n' c' rs'
 com : W.ownsRow (w.heap.size + 1) 62 8 (.slice A5 k5 c5) k5 (encKs cl)
 bel : Below w.heap.size w W
theorem IgI.on {w W W' : World} {m : Md} {A : Option Addr} {n c g6 : Nat} {M : Md × Int} {cl : List SpkM} {A5 : Option Addr} {k5 c5 : Nat} (h : IgI w m A n c g6 M cl A5 k5 c5 W) (hW : Below W.heap.size W W') : IgI w m A n c g6 M cl A5 k5 c5 W' := by
 obtain ⟨A', n', c', rs', h1, h2⟩ := h.xb
 exact ⟨h.box.below hW h.box.lt, ⟨A', n', c', rs', h1.below hW h1.lt, h2.on h.bel.size hW⟩, own_below h.com hW, h.bel.trans (hW.mono h.bel.size)⟩
theorem IgI.put {w W W' : World} {m : Md} {A : Option Addr} {n c g6 : Nat} {M : Md × Int} {cl cl' : List SpkM} {A5 A6 : Option Addr} {k5 k6 c5 c6 : Nat} (h : IgI w m A n c g6 M cl A5 k5 c5 W) (hW : Below (w.heap.size + 1) W W') (hg : W.grownBy W' (Value.slice A5 k5 c5).ownBlock) (ho : W'.ownsRow (w.heap.size + 1) 62 8 (.slice A6 k6 c6) k6 (encKs cl')) : IgI w m A n c g6 M cl' A6 k6 c6 W' := by
 obtain ⟨A', n', c', rs', h1, h2⟩ := h.xb
 exact ⟨h.box.grown hg (blk_dj h.box h.com (by decide)), ⟨A', n', c', rs', h1.grown hg (blk_dj h1 h.com (by decide)), h2.grown (hW.mono (Nat.le_succ _)) hg h.com⟩, ho, h.bel.trans (hW.mono (Nat.le_succ _))⟩
theorem IgI.boxes {w W : World} {m : Md} {A : Option Addr} {n c g6 : Nat} {M M' : Md × Int} {cl : List SpkM} {A5 A' : Option Addr} {k5 c5 n' c' N : Nat} {rs' : List RowM} (h : IgI w m A n c g6 M cl A5 k5 c5 W) (h6 : w.heap.size < g6) (hN : g6 < N) (ho : OwV N W M'.1.view A' n' c' rs') : IgI w m A n c g6 M' cl A5 k5 c5 (setM W g6 M'.1 A' n' c') := by
 obtain ⟨A1, n1, c1, rs1, h1, _⟩ := h.xb
 refine ⟨blk_setM h.box (by omega) _ _ _ _, ⟨A', n', c', rs', md_set h1 _ _ _ _, .inr ⟨N, ow_setM ho hN⟩⟩, ?_, below_m7 h.bel (by omega) _ _ _ _⟩
 have hne : (Value.slice A5 k5 c5).ownBlock ≠ some g6 := fun e => blk_dj h1 h.com (by decide) e.symm
 have s0 := ownsRow_setCell_other (a := ⟨g6, 0, none⟩) h.com hne (.int .i64 M'.1.view.width)
 have s1 := ownsRow_setCell_other (a := ⟨g6, 1, none⟩) s0 hne (.int .i64 M'.1.view.height)
 have s2 := ownsRow_setCell_other (a := ⟨g6, 2, none⟩) s1 hne (.slice A' n' c')
 have s3 := ownsRow_setCell_other (a := ⟨g6, 3, none⟩) s2 hne (.int .i64 M'.1.view.row)
 have s4 := ownsRow_setCell_other (a := ⟨g6, 4, none⟩) s3 hne (.int .i64 M'.1.view.col)
 have s5 := ownsRow_setCell_other (a := ⟨g6, 5, none⟩) s4 hne (.bool M'.1.view.vis)
 exact ownsRow_setCell_other (a := ⟨g6, 6, none⟩) s5 hne (.int .i64 M'.1.upd)
theorem goH_small {m : Md} (hp : properM m = true) (L : List (List ByteArray)) (h0 : (goH m L).2 = 0) : properM (goH m L).1 = true := (goH_proper hp L).1 h0
set_option maxHeartbeats 8000000 in
theorem law_ListenerIgnores (w : World) (hg : Gd w) (m : Md) (A : Option Addr) (n c : Nat) (rs : List RowM) (rd : RdV w w.heap.size m.view A n c rs) (As : Option Addr) (ns cs : Nat) (ls : List SpkM) (hn : ls.length = ns) (hc : ns ≤ cs) (hm : cs ≤ maxLen) (rS : RdS w w.heap.size As ns ls) :
  Calls Tryz.prog 10 #[.agg (mdC m A n c), .slice As ns cs] w (Gives (.bool true) w) := by
 have HA : Hid (∀ X, Below w.heap.size w X → Calls Tryz.prog 13 #[] X fun e X' => e = .returned (.bool true) ∧ Below w.heap.size w X' ∧ Below X.heap.size X X') := Lib.hid fun X hX => bothG (awake42_ X (hg.below hX)) hX
 have HG : Hid (∀ X, Below w.heap.size w X → Calls Tryz.prog 11 #[.agg (vwC m.view A n c)] X fun e X' => e = .returned (.bool (greatV m.view)) ∧ Below w.heap.size w X' ∧ Below X.heap.size X X') := Lib.hid fun X hX => bothG (rgreat15_ m.view A n c w.heap.size rs X (rd.below hX) hX.size) hX
 have HL : Hid (∀ X, Below w.heap.size w X → Calls Tryz.prog 24 #[.slice As ns cs] X fun e X' => e = .returned (.bool (greatS ls)) ∧ Below w.heap.size w X' ∧ Below X.heap.size X X') := Lib.hid fun X hX => bothS (great42_ ls As ns cs w.heap.size X (by omega) (rS.below hX)) hX
 cases hgr : greatV m.view with
 | true =>
  rw [hgr] at HG
  clear HL hg rd hgr rS
  obtain ⟨⟨W, H, rows, r, cl, vs⟩, U⟩ := m
  dsimp only at HG
  go_enter Tryz.func10, Tryz.ntmps10
  go_upto_region 1 with fail
  refine wp_fg (fun X => Blk X w.heap.size 26 (mdC ⟨⟨W, H, rows, r, cl, vs⟩, U⟩ A n c) ∧ Below w.heap.size w X) ⟨Blk.new_ rfl, (Below.refl _ _).alloc (Nat.le_refl _) _⟩ ?_
  rintro X ⟨hM, hb⟩
  obtain ⟨c0, c1, c2, c3, c4, c5, c6, -, -, -, -, -, -, -⟩ := md_facts hM
  have hlM := hM.lt
  dsimp only at c0 c1 c3 c4 c5 c6
  go_wp2_with (first | (go_at_call 11; refine (HG.out _ hb).mono ?_; rintro e w1 ⟨rfl, hb1, hx1⟩; have hM1 := hM.below hx1 hlM; have hl1 := hM1.lt; obtain ⟨d_0, d_1, d_2, d_3, d_4, d_5, d_6, -, -, -, -, -, -, -⟩ := md_facts hM1; dsimp only at d_0 d_1 d_3 d_4 d_5 d_6) | (go_at_call 13; refine (HA.out _ (by assumption)).mono ?_; rintro e wa ⟨rfl, hba, hxa⟩))
  go_ret
  exact ⟨rfl, hba⟩
 | false =>
  rw [hgr] at HG
  have hsm : ∀ x ∈ rs, x.l.length ≤ 140 ∧ ∀ g ∈ x.l, g.text.size ≤ 40 := fun x hx => great_small hgr x.l (by rw [rd.2.1]; exact rls_mem hx)
  cases hgs : greatS ls with
  | true =>
   rw [hgs] at HL
   clear hg rd hgr rS hgs hsm
   obtain ⟨⟨W, H, rows, r, cl, vs⟩, U⟩ := m
   dsimp only at HG
   go_enter Tryz.func10, Tryz.ntmps10
   go_upto_region 1 with fail
   refine wp_fg (fun X => Blk X w.heap.size 26 (mdC ⟨⟨W, H, rows, r, cl, vs⟩, U⟩ A n c) ∧ Below w.heap.size w X) ⟨Blk.new_ rfl, (Below.refl _ _).alloc (Nat.le_refl _) _⟩ ?_
   rintro X ⟨hM, hb⟩
   obtain ⟨c0, c1, c2, c3, c4, c5, c6, -, -, -, -, -, -, -⟩ := md_facts hM
   have hlM := hM.lt
   dsimp only at c0 c1 c3 c4 c5 c6
   go_wp2_with (first | (go_at_call 11; refine (HG.out _ hb).mono ?_; rintro e w1 ⟨rfl, hb1, hx1⟩; have hM1 := hM.below hx1 hlM; have hl1 := hM1.lt; obtain ⟨d_0, d_1, d_2, d_3, d_4, d_5, d_6, -, -, -, -, -, -, -⟩ := md_facts hM1; dsimp only at d_0 d_1 d_3 d_4 d_5 d_6) | (go_at_call 24; refine (HL.out _ hb1).mono ?_; rintro e w2 ⟨rfl, hb2, hx2⟩; have hM2 := hM1.below hx2 hl1; have hl2 := hM2.lt; obtain ⟨f_0, f_1, f_2, f_3, f_4, f_5, f_6, -, -, -, -, -, -, -⟩ := md_facts hM2; dsimp only at f_0 f_1 f_3 f_4 f_5 f_6) | (go_at_call 13; refine (HA.out _ (by assumption)).mono ?_; rintro e wa ⟨rfl, hba, hxa⟩))
   go_ret
   exact ⟨rfl, hba⟩
  | false =>
   rw [hgs] at HL
   have HP : Hid (∀ X, Below w.heap.size w X → Calls Tryz.prog 18 #[.agg (mdC m A n c)] X fun e X' => e = .returned (.bool (properM m)) ∧ Below w.heap.size w X' ∧ Below X.heap.size X X') := Lib.hid fun X hX => bothG (rproper42_ m A n c w.heap.size rs X (rd.below hX) hX.size fun x hx => ⟨Nat.le_trans (hsm x hx).1 (by decide), fun g hg => Nat.le_trans ((hsm x hx).2 g hg) (by decide)⟩) hX
   cases hpr : properM m with
   | false =>
    rw [hpr] at HP
    clear hg rd hgr rS hgs hsm hpr
    obtain ⟨⟨W, H, rows, r, cl, vs⟩, U⟩ := m
    dsimp only at HG
    go_enter Tryz.func10, Tryz.ntmps10
    go_upto_region 1 with fail
    refine wp_fg (fun X => Blk X w.heap.size 26 (mdC ⟨⟨W, H, rows, r, cl, vs⟩, U⟩ A n c) ∧ Below w.heap.size w X) ⟨Blk.new_ rfl, (Below.refl _ _).alloc (Nat.le_refl _) _⟩ ?_
    rintro X ⟨hM, hb⟩
    obtain ⟨c0, c1, c2, c3, c4, c5, c6, -, -, -, -, -, -, -⟩ := md_facts hM
    have hlM := hM.lt
    dsimp only at c0 c1 c3 c4 c5 c6
    go_wp2_with (first | (go_at_call 11; refine (HG.out _ hb).mono ?_; rintro e w1 ⟨rfl, hb1, hx1⟩; have hM1 := hM.below hx1 hlM; have hl1 := hM1.lt; obtain ⟨d_0, d_1, d_2, d_3, d_4, d_5, d_6, -, -, -, -, -, -, -⟩ := md_facts hM1; dsimp only at d_0 d_1 d_3 d_4 d_5 d_6) | (go_at_call 24; refine (HL.out _ hb1).mono ?_; rintro e w2 ⟨rfl, hb2, hx2⟩; have hM2 := hM1.below hx2 hl1; have hl2 := hM2.lt; obtain ⟨f_0, f_1, f_2, f_3, f_4, f_5, f_6, -, -, -, -, -, -, -⟩ := md_facts hM2; dsimp only at f_0 f_1 f_3 f_4 f_5 f_6) | (go_at_call 18; refine (HP.out _ (by assumption)).mono ?_; rintro e wp ⟨rfl, hbp, hxp⟩; have hMp := Blk.below (by assumption) hxp (by assumption); have hlp := hMp.lt; obtain ⟨p_0, p_1, p_2, p_3, p_4, p_5, p_6, -, -, -, -, -, -, -⟩ := md_facts hMp; dsimp only at p_0 p_1 p_3 p_4 p_5 p_6) | (go_at_call 13; refine (HA.out _ (by assumption)).mono ?_; rintro e wa ⟨rfl, hba, hxa⟩))
    go_ret
    exact ⟨rfl, hba⟩
   | true =>
    rw [hpr] at HP
    obtain ⟨hl8, hW⟩ := greatS_small hgs
    obtain ⟨R, hR⟩ : ∃ R, R = goH m (comW ls) := ⟨_, rfl⟩
    have hall : allV m (comW ls) = R := by rw [hR]; exact if_neg (by rw [hpr]; decide)
    have HA1 : Hid (∀ X, Below w.heap.size w X → Calls Tryz.prog 25 #[.agg (mdC m A n c), .slice As ns cs] X fun e X' => (∃ A4 n4 d4, e = .returned (.tuple #[.agg (mdC R.1 A4 n4 d4), .int .i64 R.2]) ∧ ∃ rs4, RdV X' X'.heap.size R.1.view A4 n4 d4 rs4) ∧ Below w.heap.size w X' ∧ Below X.heap.size X X') := Lib.hid fun X hX => by
     have := lall_ m A n c rs ls As ns cs X ((rd.below hX).more hX.size) hsm ((rS.below hX).more hX.size) (by omega) hW (hg.below hX)
     rw [hall] at this
     exact this.mono fun e X' ⟨h1, A4, n4, d4, rs4, h2, h3⟩ => ⟨⟨A4, n4, d4, h2, rs4, h3⟩, hX.trans (h1.mono hX.size), h1⟩
    have HA2 : Hid (∀ X A5 k5 c5, Below w.heap.size w X → RdS X X.heap.size A5 k5 (cmpl ls) → Calls Tryz.prog 25 #[.agg (mdC m A n c), .slice A5 k5 c5] X fun e X' => (∃ A4 n4 d4, e = .returned (.tuple #[.agg (mdC R.1 A4 n4 d4), .int .i64 R.2]) ∧ ∃ rs4, RdV X' X'.heap.size R.1.view A4 n4 d4 rs4) ∧ Below w.heap.size w X' ∧ Below X.heap.size X X') := Lib.hid fun X A5 k5 c5 hX h5 => by
     have hl5 : (cmpl ls).length ≤ ls.length := List.length_filter_le _ _
     have := lall_ m A n c rs (cmpl ls) A5 k5 c5 X ((rd.below hX).more hX.size) hsm h5 (by have := h5.len; omega) (fun x hx => hW x (List.mem_filter.1 hx).1) (hg.below hX)
     rw [show comW (cmpl ls) = comW ls from comW_filter ls, hall] at this
     exact this.mono fun e X' ⟨h1, A4, n4, d4, rs4, h2, h3⟩ => ⟨⟨A4, n4, d4, h2, rs4, h3⟩, hX.trans (h1.mono hX.size), h1⟩
    have hRp : properM R.1 = true ∨ R.1 = md0 := by
     rw [hR]
     by_cases h : (goH m (comW ls)).2 = 0
     ·exact .inl ((goH_proper hpr _).1 h)
     ·exact .inr ((goH_proper hpr _).2 h)
    have HSm : Hid (∀ X A1 n1 c1 A2 n2 c2, Below w.heap.size w X → (∃ rs1, RdV X X.heap.size R.1.view A1 n1 c1 rs1) → (∃ rs2, RdV X X.heap.size R.1.view A2 n2 c2 rs2) → Calls Tryz.prog 16 #[.agg (mdC R.1 A1 n1 c1), .agg (mdC R.1 A2 n2 c2)] X fun e X' => e = .returned (.bool true) ∧ Below w.heap.size w X' ∧ Below X.heap.size X X') := Lib.hid fun X A1 n1 c1 A2 n2 c2 hX ⟨rs1, h1⟩ ⟨rs2, h2⟩ => by
     obtain rfl : n1 = n2 := h1.len.symm.trans h2.len
     refine bothG (rsame42_ R.1 A1 A2 n1 c1 c2 X.heap.size rs1 rs2 X h1 h2 (Nat.le_refl _) fun x hx => ?_) hX
     rcases hRp with hp | hp
     ·have := (proper_small hp h1 x hx).1; omega
     ·have h3 := rls_mem hx
      rw [← h1.2.1, hp] at h3
      cases h3
    have HH : Hid (∀ (M : Md) (A : Option Addr) (n c : Nat) (X : World) (x : SpkM), x ∈ ls → properM M = true → Below w.heap.size w X → (∃ rs, RdV X X.heap.size M.view A n c rs) → Calls Tryz.prog 14 #[.agg (mdC M A n c), .slice x.A x.ws.length x.cap] X fun e X' => ∃ A4 n4 d4 rs4, e = .returned (.tuple #[.agg (mdC (hearV M x.ws).1 A4 n4 d4), .int .i64 (hearV M x.ws).2]) ∧ OwV X.heap.size X' (hearV M x.ws).1.view A4 n4 d4 rs4 ∧ Below X.heap.size X X') := Lib.hid fun M A n c X x hx hpM hX ⟨rs, hr⟩ => by
     have hs := proper_small hpM hr
     have hw := hW x hx
     have hb := rS.gl x hx
     have hg' := hg.below hX
     exact (hear_ M A n c X.heap.size rs x.ws x.A x.ws.length x.cap X hr (Nat.le_refl _) (fun y hy => by have := (hs y hy).1; omega) (fun y hy g hg => by have := (hs y hy).2 g hg; omega) ⟨rfl, hb.2.1, hb.2.2.1, (hb.1.below hX).more hX.size, fun s hs => Nat.le_trans (hw.2 s hs) (by decide)⟩ (by omega) (few_of (by omega)) hg'.1 hg'.2.1 hg'.2.2).mono fun e X' ⟨h1, A4, n4, d4, rs4, h2, h3⟩ => ⟨A4, n4, d4, rs4, h2, h3, h1⟩
    obtain ⟨PF, hPF⟩ : ∃ PF : Nat → Md × Int, PF = fun k => goH m (comW (ls.take k)) := ⟨_, rfl⟩
    obtain ⟨CF, hCF⟩ : ∃ CF : Nat → List SpkM, CF = fun k => cmpl (ls.take k) := ⟨_, rfl⟩
    have P0 : Hid (PF 0 = (m, 0)) := Lib.hid (by rw [hPF]; rfl)
    have C0 : Hid (CF 0 = []) := Lib.hid (by rw [hCF]; rfl)
    have PS : Hid (∀ k (h : k < ls.length), PF (k + 1) = if ls[k].com = true then (if (PF k).2 = 0 then hearV (PF k).1 ls[k].ws else PF k) else PF k) := Lib.hid fun k h => by
     rw [hPF]
     dsimp only
     rw [comW_take h]
     split
     ·rw [goH_snoc]; rfl
     ·rw [List.append_nil]
    have CS : Hid (∀ k (h : k < ls.length), CF (k + 1) = CF k ++ (if ls[k].com = true then [ls[k]] else [])) := Lib.hid fun k h => by
     rw [hCF]
     exact cmpl_take h
    have PE : Hid (PF ns = R) := Lib.hid (by rw [hPF, hR, ← hn]; dsimp only; rw [List.take_length])
    have CE : Hid (CF ns = cmpl ls) := Lib.hid (by rw [hCF, ← hn]; dsimp only; rw [List.take_length])
    have PP : Hid (∀ k, (PF k).2 = 0 → properM (PF k).1 = true) := Lib.hid fun k h => by
     rw [hPF] at h ⊢
     exact (goH_proper hpr _).1 h
    have CL : Hid (∀ k, (CF k).length ≤ 8 ∧ ∀ x ∈ CF k, x ∈ ls) := Lib.hid fun k => by
     rw [hCF]
     dsimp only
     exact ⟨Nat.le_trans (List.length_filter_le _ _) (by rw [List.length_take]; omega), fun x hx => List.mem_of_mem_take (List.mem_filter.1 hx).1⟩
    have HRS := Lib.hid rS
    have HN := Lib.hid hn
    have hns8 : ns ≤ 8 := by omega
    have hrd0 := rd
    clear hRp hR hPF hCF hall hW hgs hsm hgr rd rS hg hpr hn hl8 hc hm
    obtain ⟨⟨W, H, rows, r, cl, vs⟩, U⟩ := m
    dsimp only at HG
    go_enter Tryz.func10, Tryz.ntmps10
    go_upto_region 1 with fail
    refine wp_fg (fun X => Blk X w.heap.size 26 (mdC ⟨⟨W, H, rows, r, cl, vs⟩, U⟩ A n c) ∧ Below w.heap.size w X) ⟨Blk.new_ rfl, (Below.refl _ _).alloc (Nat.le_refl _) _⟩ ?_
    rintro X ⟨hM, hb⟩
    obtain ⟨c0, c1, c2, c3, c4, c5, c6, -, -, -, -, -, -, -⟩ := md_facts hM
    have hlM := hM.lt
    dsimp only at c0 c1 c3 c4 c5 c6
    go_upto_region 4 with (first | (go_at_call 11; refine (HG.out _ hb).mono ?_; rintro e w1 ⟨rfl, hb1, hx1⟩; have hM1 := hM.below hx1 hlM; have hl1 := hM1.lt; obtain ⟨d_0, d_1, d_2, d_3, d_4, d_5, d_6, -, -, -, -, -, -, -⟩ := md_facts hM1; dsimp only at d_0 d_1 d_3 d_4 d_5 d_6) | (go_at_call 24; refine (HL.out _ hb1).mono ?_; rintro e w2 ⟨rfl, hb2, hx2⟩; have hM2 := hM1.below hx2 hl1; have hl2 := hM2.lt; obtain ⟨f_0, f_1, f_2, f_3, f_4, f_5, f_6, -, -, -, -, -, -, -⟩ := md_facts hM2; dsimp only at f_0 f_1 f_3 f_4 f_5 f_6) | (go_at_call 18; refine (HP.out _ (by assumption)).mono ?_; rintro e wp ⟨rfl, hbp, hxp⟩; have hMp := Blk.below (by assumption) hxp (by assumption); have hlp := hMp.lt; obtain ⟨p_0, p_1, p_2, p_3, p_4, p_5, p_6, -, -, -, -, -, -, -⟩ := md_facts hMp; dsimp only at p_0 p_1 p_3 p_4 p_5 p_6))
    have hM4 := hMp.below ((Below.refl wp.heap.size wp).alloc (Nat.le_refl _) (.cells #[] 62)) hlp
    obtain ⟨q_0, q_1, q_2, q_3, q_4, q_5, q_6, -, -, -, -, -, -, -⟩ := md_facts hM4; dsimp only at q_0 q_1 q_3 q_4 q_5 q_6
    go_upto_region 5 with fail
    obtain ⟨g6, hg6⟩ : ∃ g, g = wp.heap.size + 1 := ⟨_, rfl⟩
    have hg6w : w.heap.size < g6 := by omega
    have hwp : w.heap.size + 1 ≤ wp.heap.size := hlp
    refine wp_fg (IgI w ⟨⟨W, H, rows, r, cl, vs⟩, U⟩ A n c g6 (PF 0) (CF 0) (some ⟨wp.heap.size, 0, none⟩) 0 0) ⟨hM4.alloc _, ⟨A, n, c, rs, by rw [P0.out, hg6]; exact Blk.new_ (by simp), .inl (by rw [P0.out]; exact hrd0.below ((hbp.alloc (Nat.le_of_lt hlp) _).alloc (by simp; omega) _))⟩, by rw [C0.out]; exact own_below (own_built (xs := []) (n := 0) rfl rfl hwp (by omega)) ((Below.refl _ _).alloc (Nat.le_refl _) _), (hbp.alloc (Nat.le_of_lt hlp) _).alloc (by simp; omega) _⟩ ?_
    rw [← hg6]
    have hP0 : (PF 0).2 = 0 := by rw [P0.out]
    have hC0 : (CF 0).length = 0 := by rw [C0.out]; rfl
    clear c0 c1 c2 c3 c4 c5 c6 d_0 d_1 d_2 d_3 d_4 d_5 d_6 f_0 f_1 f_2 f_3 f_4 f_5 f_6 p_0 p_1 p_2 p_3 p_4 p_5 p_6 q_0 q_1 q_2 q_3 q_4 q_5 q_6
    clear P0 C0 hM hMp hM4 hrd0 HG HL HP hb hb1 hb2 hbp hx1 hx2 hxp hlM hlp hM1 hM2 hl1 hl2 hwp hg6
    intro X5 hI5
    go_wp2
    go_loopw [5, 7, 31] (fun x5 x7 x31 wr => ∃ (k : Nat) (A5 : Option Addr) (k5 c5 : Nat), k ≤ ns ∧ x31 = .int .i64 k ∧ x5 = .slice A5 k5 c5 ∧ k5 = (CF k).length ∧ x7 = .int .i64 (PF k).2 ∧ IgI w ⟨⟨W, H, rows, r, cl, vs⟩, U⟩ A n c g6 (PF k) (CF k) A5 k5 c5 wr) (fun _ _ x31 _ => ns - (intOf x31).toNat)
    case atStart => exact ⟨0, _, 0, 0, Nat.zero_le _, rfl, rfl, hC0.symm, by rw [hP0], hI5⟩
    case round =>
     clear hI5 hP0 hC0
     obtain ⟨k, A5, k5, c5, hk, rfl, rfl, hk5, rfl, hI⟩ := hrel
     by_cases hlt : k < ns
     ·have hkl : k < ls.length := by rw [HN.out]; exact hlt
      obtain ⟨b, o, rfl, hbB, d0, d1, d2, d3, d4, d5, d6, d7⟩ := (HRS.out.below hI.bel).at_ hkl
      have HPS := Lib.hid (PS.out k hkl)
      have HCS := Lib.hid (CS.out k hkl)
      have hmem : ls[k] ∈ ls := List.getElem_mem hkl
      have hk8 : k5 ≤ 8 := by rw [hk5]; exact (CL.out k).1
      have hpp := Lib.hid (PP.out k)
      have HHx := Lib.hid fun M A n c X => HH.out M A n c X ls[k] hmem
      clear hmem HH HA HA1 HA2 HSm PP CL PE CE PS CS HRS HN
      generalize ls[k] = x at *
      obtain ⟨com, ws, xA, xcap, cA, cn, cc, cl', af, up, be, en⟩ := x
      dsimp only at d0 d1 d2 d3 d4 d5 d6 d7 HPS HCS HHx
      have HK5 := Lib.hid hk5
      have j1 : (0 : Int) ≤ k := by omega
      have j2 : (k : Int) < ns := by omega
      clear hk5
      generalize PF k = P1 at *
      generalize CF k = C1 at *
      cases com with
      | false =>
       rw [if_neg (by decide)] at HPS HCS
       rw [List.append_nil] at HCS
       have hA : Below wr.heap.size wr (wr.alloc (.cells #[.slice xA ws.length xcap, .slice cA cn cc, .int .i64 cl', .int .i64 af, .int .i64 up, .int .i64 be, .int .i64 en, .bool false] 62)) := (Below.refl _ _).alloc (Nat.le_refl _) _
       go_upto_region 8 with fail
       refine wp_fg (fun X => IgI w ⟨⟨W, H, rows, r, cl, vs⟩, U⟩ A n c g6 P1 C1 A5 k5 c5 X ∧ X.cell? ⟨wr.heap.size, 7, none⟩ = some (.bool false)) ⟨hI.on hA, Blk.cell (Blk.new_ rfl) 7⟩ ?_
       rintro Y ⟨hIY, hu7⟩
       clear d0 d1 d2 d3 d4 d5 d6 d7 hI
       go_wp2
       exact ⟨⟨k + 1, A5, k5, c5, by omega, by go_num, rfl, by rw [HCS.out]; exact HK5.out, by rw [HPS.out], by rw [HPS.out, HCS.out]; exact hIY⟩, by simp [intOf]; omega⟩
      | true =>
       rw [if_pos rfl] at HPS HCS
       have hA : Below wr.heap.size wr (wr.alloc (.cells #[.slice xA ws.length xcap, .slice cA cn cc, .int .i64 cl', .int .i64 af, .int .i64 up, .int .i64 be, .int .i64 en, .bool true] 62)) := (Below.refl _ _).alloc (Nat.le_refl _) _
       have hob : some wr.heap.size ≠ (Value.slice A5 k5 c5).ownBlock := fun e => by
        rw [ob_slice] at e
        have := (own_ob hI.com _ e.symm).2
        omega
       go_upto_region 8 with fail
       refine wp_fg (fun X => IgI w ⟨⟨W, H, rows, r, cl, vs⟩, U⟩ A n c g6 P1 C1 A5 k5 c5 X ∧ Blk X wr.heap.size 62 #[.slice xA ws.length xcap, .slice cA cn cc, .int .i64 cl', .int .i64 af, .int .i64 up, .int .i64 be, .int .i64 en, .bool true]) ⟨hI.on hA, Blk.new_ rfl⟩ ?_
       rintro Y ⟨hIY, hU⟩
       clear d0 d1 d2 d3 d4 d5 d6 d7 hI hA
       have u0 : Y.cell? ⟨wr.heap.size, 0, none⟩ = some (.slice xA ws.length xcap) := hU.cell 0
       have u1 : Y.cell? ⟨wr.heap.size, 1, none⟩ = some (.slice cA cn cc) := hU.cell 1
       have u2 : Y.cell? ⟨wr.heap.size, 2, none⟩ = some (.int .i64 cl') := hU.cell 2
       have u3 : Y.cell? ⟨wr.heap.size, 3, none⟩ = some (.int .i64 af) := hU.cell 3
       have u4 : Y.cell? ⟨wr.heap.size, 4, none⟩ = some (.int .i64 up) := hU.cell 4
       have u5 : Y.cell? ⟨wr.heap.size, 5, none⟩ = some (.int .i64 be) := hU.cell 5
       have u6 : Y.cell? ⟨wr.heap.size, 6, none⟩ = some (.int .i64 en) := hU.cell 6
       have u7 : Y.cell? ⟨wr.heap.size, 7, none⟩ = some (.bool true) := hU.cell 7
       have hsy := hIY.bel.size
       have hsy2 : w.heap.size + 1 ≤ Y.heap.size := hIY.box.lt
       have hAl : Below Y.heap.size Y (Y.alloc (.cells #[.slice xA ws.length xcap, .slice cA cn cc, .int .i64 cl', .int .i64 af, .int .i64 up, .int .i64 be, .int .i64 en, .bool true] 62)) := (Below.refl _ _).alloc (Nat.le_refl _) _
       have hOw : Hid ((Y.alloc (.cells #[.slice xA ws.length xcap, .slice cA cn cc, .int .i64 cl', .int .i64 af, .int .i64 up, .int .i64 be, .int .i64 en, .bool true] 62)).ownsRow (w.heap.size + 1) 62 8 (.slice A5 k5 c5) k5 (encKs C1)) := Lib.hid (own_below hIY.com hAl)
       have hRdl : Hid (Rd (Y.alloc (.cells #[.slice xA ws.length xcap, .slice cA cn cc, .int .i64 cl', .int .i64 af, .int .i64 up, .int .i64 be, .int .i64 en, .bool true] 62)) (Y.heap.size + 1) 8 (some ⟨Y.heap.size, 0, none⟩) 1 (encK ⟨true, ws, xA, xcap, cA, cn, cc, cl', af, up, be, en⟩)) := Lib.hid (rd_built rfl rfl)
       have hB1 : Hid ((k5 + 1) * 96 ≤ 140737488355328) := Lib.hid (by omega)
       have hB2 : Hid (k5 + 1 ≤ 140737488355328) := Lib.hid (by omega)
       have hB3 : Hid (w.heap.size + 1 ≤ (Y.alloc (.cells #[.slice xA ws.length xcap, .slice cA cn cc, .int .i64 cl', .int .i64 af, .int .i64 up, .int .i64 be, .int .i64 en, .bool true] 62)).heap.size) := Lib.hid (Nat.le_trans hsy2 hAl.size)
       go_upto_region 9 with fail
       repeat (go_not_at_region 10; first
        | ((fail_if_success have := w9); with_reducible refine wpList_lit8 (hg := ?a1) (x := .tmp 39) (ho := ?a2) (v0 := .slice xA ws.length xcap) (v1 := .slice cA cn cc) (v2 := .int .i64 cl') (v3 := .int .i64 af) (v4 := .int .i64 up) (v5 := .int .i64 be) (v6 := .int .i64 en) (v7 := .bool true) (hx := ?a3) (h := ?a4); (case a1 => exact rfl); (case a2 => exact rfl); (case a3 => exact rfl); go_simp)
        | (at_builtin; refine app_list rfl _ _ _ rfl elt_spk (w.heap.size + 1) _ rfl hOw.out _ _ rfl hRdl.out (encK_cells _) hB1.out hB2.out hB3.out ?_; intro A9 c9 w9 h1 h2 h3 h4; have hown9 := Lib.hid h1; have hbel9 := Lib.hid h2; have hgr9 := Lib.hid h3; clear h1 h2 h3 h4; go_simp)
        | go_values | go_guarded | go_step | go_upon | go_back)
       have hI9 := (hIY.on hAl).put (cl' := CF (k + 1)) hbel9.out hgr9.out (by rw [HCS.out, encKs_app]; exact hown9.out)
       refine wp_fg (fun X => IgI w ⟨⟨W, H, rows, r, cl, vs⟩, U⟩ A n c g6 P1 (CF (k + 1)) A9 (k5 + 1) c9 X ∧ X.cell? ⟨wr.heap.size, 0, none⟩ = some (.slice xA ws.length xcap)) ⟨hI9, Blk.cell (Blk.grown (Blk.below hU hAl hU.lt) hgr9.out hob) 0⟩ ?_
       clear u0 u1 u2 u3 u4 u5 u6 u7 hI9 hU hgr9 hbel9 hown9 hOw hRdl hB1 hB2 hB3 hAl hob hIY hsy hsy2
       rintro Z ⟨hIZ, hu0⟩
       have HK6 : Hid (k5 + 1 = (CF (k + 1)).length) := Lib.hid (by rw [HCS.out, List.length_append, ← HK5.out]; rfl)
       clear HCS HK5
       obtain ⟨A', n', c', rs', hxb, hxr⟩ := hIZ.xb
       have hrd' : ∃ rs, RdV Z Z.heap.size P1.1.view A' n' c' rs := ⟨rs', hxr.rdV hIZ.bel.size⟩
       by_cases hE : P1.2 = 0
       ·have HC := Lib.hid (HHx.out P1.1 A' n' c' Z (hpp.out hE) hIZ.bel hrd')
        rw [if_pos hE] at HPS
        have hbx := fun (w4 : World) (A4 : Option Addr) (n4 d4 : Nat) (rs4 : List RowM) (hx4 : Below Z.heap.size Z w4) (ho4 : OwV Z.heap.size w4 (hearV P1.1 ws).1.view A4 n4 d4 rs4) => (hIZ.on hx4).boxes (M' := hearV P1.1 ws) hg6w hxb.lt ho4
        generalize hearV P1.1 ws = P2 at *
        have HBX := Lib.hid hbx
        have hlx := hxb.lt
        clear hbx hrd' hxr hpp HHx hIZ
        obtain ⟨⟨⟨vW, vH, vrows, vr, vy, vv⟩, vU⟩, vE⟩ := P1
        obtain ⟨⟨⟨zW, zH, zrows, zr, zy, zv⟩, zU⟩, zE⟩ := P2
        obtain rfl : vE = 0 := hE
        have HC3 : Hid (Calls Tryz.prog 14 #[.agg #[.int .i64 vW, .int .i64 vH, .slice A' n' c', .int .i64 vr, .int .i64 vy, .bool vv, .int .i64 vU], .slice xA ws.length xcap] Z fun e X' => ∃ A4 n4 d4 rs4, e = .returned (.tuple #[.agg #[.int .i64 zW, .int .i64 zH, .slice A4 n4 d4, .int .i64 zr, .int .i64 zy, .bool zv, .int .i64 zU], .int .i64 zE]) ∧ OwV Z.heap.size X' ⟨zW, zH, zrows, zr, zy, zv⟩ A4 n4 d4 rs4 ∧ Below Z.heap.size Z X') := HC
        have h00 : ((0 : Int) == 0) = true := rfl
        obtain ⟨c0, c1, c2, c3, c4, c5', c6, -, -, -, -, -, -, -⟩ := md_facts hxb
        dsimp only at c0 c1 c3 c4 c5' c6
        clear HC
        go_upto_region 12 with (go_at_call 14; refine HC3.out.mono ?_; rintro e w4 ⟨A4, n4, d4, rs4, rfl, ho4, hx4⟩; have hb4 := hxb.below hx4 hlx; obtain ⟨z0, z1, z2, z3, z4, z5, z6, y0, y1, y2, y3, y4, y5, y6⟩ := md_facts hb4)
        have hIW := HBX.out w4 A4 n4 d4 rs4 hx4 ho4
        refine wp_fg (IgI w ⟨⟨W, H, rows, r, cl, vs⟩, U⟩ A n c g6 (⟨⟨zW, zH, zrows, zr, zy, zv⟩, zU⟩, zE) (CF (k + 1)) A9 (k5 + 1) c9) hIW ?_
        clear c0 c1 c2 c3 c4 c5' c6 z0 z1 z2 z3 z4 z5 z6 y0 y1 y2 y3 y4 y5 y6 hIW hb4 ho4 hx4 HBX HC3 hxb hu0
        intro Z2 hZ2
        go_wp2
        exact ⟨⟨k + 1, A9, k5 + 1, c9, by omega, by go_num, rfl, HK6.out, by rw [HPS.out], by rw [HPS.out]; exact hZ2⟩, by simp [intOf]; omega⟩
       ·rw [if_neg hE] at HPS
        have hEb : (P1.2 == 0) = false := beq_eq_false_iff_ne.2 hE
        clear hpp HHx hxb hxr hrd' hu0 hE
        go_wp2
        exact ⟨⟨k + 1, A9, k5 + 1, c9, by omega, by go_num, rfl, HK6.out, by rw [HPS.out], by rw [HPS.out]; exact hIZ⟩, by simp [intOf]; omega⟩
     ·obtain rfl : k = ns := by omega
      rw [PE.out] at hI ⊢
      rw [CE.out] at hI hk5
      have HRc : Hid (∀ X, Below wr.heap.size wr X → RdS X X.heap.size A5 k5 (cmpl ls)) := Lib.hid fun X hX => ⟨(Rd.of_own (own_below hI.com hX)), fun x hx => ((HRS.out.gl x (List.mem_filter.1 hx).1).below (hI.bel.trans (hX.mono hI.bel.size))).more (Nat.le_trans hI.bel.size hX.size)⟩
      clear PS CS PE CE PP CL HH HRS HN hk5
      obtain ⟨⟨⟨rW, rH, rrows, rr, ry, rv⟩, rU⟩, rE⟩ := R
      have HB1 : Hid (∀ X, Below w.heap.size w X → Calls Tryz.prog 25 #[.agg #[.int .i64 W, .int .i64 H, .slice A n c, .int .i64 r, .int .i64 cl, .bool vs, .int .i64 U], .slice As k cs] X fun e X' => (∃ A4 n4 d4, e = .returned (.tuple #[.agg #[.int .i64 rW, .int .i64 rH, .slice A4 n4 d4, .int .i64 rr, .int .i64 ry, .bool rv, .int .i64 rU], .int .i64 rE]) ∧ ∃ rs4, RdV X' X'.heap.size ⟨rW, rH, rrows, rr, ry, rv⟩ A4 n4 d4 rs4) ∧ Below w.heap.size w X' ∧ Below X.heap.size X X') := HA1
      have HB2 : Hid (∀ X A5 k5 c5, Below w.heap.size w X → RdS X X.heap.size A5 k5 (cmpl ls) → Calls Tryz.prog 25 #[.agg #[.int .i64 W, .int .i64 H, .slice A n c, .int .i64 r, .int .i64 cl, .bool vs, .int .i64 U], .slice A5 k5 c5] X fun e X' => (∃ A4 n4 d4, e = .returned (.tuple #[.agg #[.int .i64 rW, .int .i64 rH, .slice A4 n4 d4, .int .i64 rr, .int .i64 ry, .bool rv, .int .i64 rU], .int .i64 rE]) ∧ ∃ rs4, RdV X' X'.heap.size ⟨rW, rH, rrows, rr, ry, rv⟩ A4 n4 d4 rs4) ∧ Below w.heap.size w X' ∧ Below X.heap.size X X') := HA2
      have HS2 : Hid (∀ X A1 n1 c1 A2 n2 c2, Below w.heap.size w X → (∃ rs1, RdV X X.heap.size ⟨rW, rH, rrows, rr, ry, rv⟩ A1 n1 c1 rs1) → (∃ rs2, RdV X X.heap.size ⟨rW, rH, rrows, rr, ry, rv⟩ A2 n2 c2 rs2) → Calls Tryz.prog 16 #[.agg #[.int .i64 rW, .int .i64 rH, .slice A1 n1 c1, .int .i64 rr, .int .i64 ry, .bool rv, .int .i64 rU], .agg #[.int .i64 rW, .int .i64 rH, .slice A2 n2 c2, .int .i64 rr, .int .i64 ry, .bool rv, .int .i64 rU]] X fun e X' => e = .returned (.bool true) ∧ Below w.heap.size w X' ∧ Below X.heap.size X X') := HSm
      clear HA1 HA2 HSm
      have hee : (rE == rE) = true := beq_self_eq_true rE
      obtain ⟨c0, c1, c2, c3, c4, c5', c6, -, -, -, -, -, -, -⟩ := md_facts hI.box
      dsimp only at c0 c1 c3 c4 c5' c6
      go_upto_region 14 with (go_at_call 25; refine (HB1.out _ hI.bel).mono ?_; rintro e w5 ⟨⟨A6, n6, d6, rfl, hr6⟩, hb5, hx5⟩)
      have hz5 := hx5.size
      refine wp_fg (fun Y => Below wr.heap.size wr Y ∧ Blk Y w5.heap.size 26 (mdC ⟨⟨rW, rH, rrows, rr, ry, rv⟩, rU⟩ A6 n6 d6) ∧ ∃ rs4, RdV Y Y.heap.size ⟨rW, rH, rrows, rr, ry, rv⟩ A6 n6 d6 rs4) ⟨hx5.alloc hz5 _, Blk.new_ rfl, hr6.imp fun _ h => (h.below ((Below.refl _ _).alloc (Nat.le_refl _) _)).more (by rw [World.size_alloc]; omega)⟩ ?_
      rintro Y ⟨hwY, hB10, hr6'⟩
      have hIY := hI.on hwY
      have HRcY := HRc.out Y hwY
      clear c0 c1 c2 c3 c4 c5' c6 hI hr6 hb5 hx5 hz5 HRc HB1
      obtain ⟨c0, c1, c2, c3, c4, c5', c6, -, -, -, -, -, -, -⟩ := md_facts hIY.box
      dsimp only at c0 c1 c3 c4 c5' c6
      go_upto_region 15 with (go_at_call 25; refine (HB2.out _ _ _ _ hIY.bel HRcY).mono ?_; rintro e w6 ⟨⟨A7, n7, d7, rfl, hr7⟩, hb6, hx6⟩)
      have hz6 := hx6.size
      refine wp_fg (fun V => Below Y.heap.size Y V ∧ Blk V w6.heap.size 26 (mdC ⟨⟨rW, rH, rrows, rr, ry, rv⟩, rU⟩ A7 n7 d7) ∧ ∃ rs4, RdV V V.heap.size ⟨rW, rH, rrows, rr, ry, rv⟩ A7 n7 d7 rs4) ⟨hx6.alloc hz6 _, Blk.new_ rfl, hr7.imp fun _ h => (h.below ((Below.refl _ _).alloc (Nat.le_refl _) _)).more (by rw [World.size_alloc]; omega)⟩ ?_
      rintro V ⟨hYV, hB12, hr7'⟩
      have hIV := hIY.on hYV
      obtain ⟨A', n', c', rs', hxb, hxr⟩ := hIV.xb
      have hrx : ∃ rs, RdV V V.heap.size ⟨rW, rH, rrows, rr, ry, rv⟩ A' n' c' rs := ⟨rs', hxr.rdV hIV.bel.size⟩
      have hB10V := hB10.below hYV hB10.lt
      have hr6V : ∃ rs, RdV V V.heap.size ⟨rW, rH, rrows, rr, ry, rv⟩ A6 n6 d6 rs := hr6'.imp fun _ h => (h.below hYV).more hYV.size
      have hbV := hIV.bel
      clear c0 c1 c2 c3 c4 c5' c6 hIY hr7 hb6 hx6 hz6 HB2 HRcY hIV hxr hr6' hwY hYV hB10
      obtain ⟨a_0, a_1, a_2, a_3, a_4, a_5, a_6, -, -, -, -, -, -, -⟩ := md_facts hB10V; dsimp only at a_0 a_1 a_3 a_4 a_5 a_6
      obtain ⟨b_0, b_1, b_2, b_3, b_4, b_5, b_6, -, -, -, -, -, -, -⟩ := md_facts hxb; dsimp only at b_0 b_1 b_3 b_4 b_5 b_6
      obtain ⟨e_0, e_1, e_2, e_3, e_4, e_5, e_6, -, -, -, -, -, -, -⟩ := md_facts hB12; dsimp only at e_0 e_1 e_3 e_4 e_5 e_6
      go_wp2_with (first
       | ((fail_if_success have := w7); go_at_call 16; refine (HS2.out _ _ _ _ _ _ _ hbV hr6V hrx).mono ?_; rintro e w7 ⟨rfl, hb7, hx7⟩; have hB12w := hB12.below hx7 hB12.lt; have hxbw := hxb.below hx7 hxb.lt; obtain ⟨g_0, g_1, g_2, g_3, g_4, g_5, g_6, -, -, -, -, -, -, -⟩ := md_facts hB12w; dsimp only at g_0 g_1 g_3 g_4 g_5 g_6; obtain ⟨h_0, h_1, h_2, h_3, h_4, h_5, h_6, -, -, -, -, -, -, -⟩ := md_facts hxbw; dsimp only at h_0 h_1 h_3 h_4 h_5 h_6; have hr7w : ∃ rs, RdV w7 w7.heap.size ⟨rW, rH, rrows, rr, ry, rv⟩ A7 n7 d7 rs := hr7'.imp fun _ h => (h.below hx7).more hx7.size; have hrxw : ∃ rs, RdV w7 w7.heap.size ⟨rW, rH, rrows, rr, ry, rv⟩ A' n' c' rs := hrx.imp fun _ h => (h.below hx7).more hx7.size)
       | (go_at_call 16; refine (HS2.out _ _ _ _ _ _ _ hb7 hr7w hrxw).mono ?_; rintro e w8 ⟨rfl, hb8, hx8⟩)
       | (go_at_call 13; refine (HA.out _ (by assumption)).mono ?_; rintro e wa ⟨rfl, hba, hxa⟩))
      go_ret
      exact ⟨rfl, hba⟩
end Go.Proofs.YtholajadbbdcmaaGreatDoor
namespace Go.Proofs.YtholajadbbdcmaaGreatDoor
open Go.ChangeShapes Go.WideShapes Go.ChangeAt Go.RowKit Go.Deep
theorem open_spks {H : Type} {enc : TypeId × Value → H} {P : Program} {w : World} {t e tu ti tb tw ts tc ec : TypeId} {f0 f1 f2 f3 g0 g1 g2 g3 g4 : Field} {A : Option Addr} {len cap : Nat} {d : DataW H} {p : List MemPlace}
  (ht : P.underlying t = some (.slice e)) (he : P.underlying e = some (.struct #[f0, f1, f2, f3])) (ce : P.cellsOf e = 8) (ho : [f0.offset, f1.offset, f2.offset, f3.offset] = [0, 5, 6, 7]) (hty : f0.type = tu ∧ f1.type = ti ∧ f2.type = ti ∧ f3.type = tb)
  (hu : P.underlying tu = some (.struct #[g0, g1, g2, g3, g4])) (cu : P.cellsOf tu = 5) (hou : [g0.offset, g1.offset, g2.offset, g3.offset, g4.offset] = [0, 1, 2, 3, 4]) (htu : g0.type = tw ∧ g1.type = tc ∧ g2.type = ti ∧ g3.type = ti ∧ g4.type = ti)
  (hti : P.underlying ti = some (.int .i64)) (hci : P.cellsOf ti = 1) (htb : P.underlying tb = some .bool) (hcb : P.cellsOf tb = 1)
  (htw : P.underlying tw = some (.slice ts)) (hcw : P.cellsOf tw = 1) (hts : P.underlying ts = some .string) (hcs : P.cellsOf ts = 1) (htc : P.underlying tc = some (.slice ec)) (hcc : P.cellsOf tc = 1)
  (h : DataW.Trod enc P w 0 (fun _ => true) true t (.slice A len cap) d p) :
  ∃ l : List SpkM, l.length = len ∧ len ≤ cap ∧ cap ≤ maxLen ∧ RdS w w.heap.size A len l := by
 obtain ⟨fuel, hf⟩ := h
 simp only [List.cons.injEq, and_true] at ho hou
 obtain ⟨o0, o1, o2, o3⟩ := ho
 obtain ⟨q0, q1, q2, q3, q4⟩ := hou
 obtain ⟨t0, t1, t2, t3⟩ := hty
 obtain ⟨u0, u1, u2, u3, u4⟩ := htu
 rcases open_slice ht hf with ⟨hcs', _⟩ | ⟨a, len', cap', m, n, D, Pl, hcs', _, hl, hm, hmm, _, hx⟩
 ·simp [Value.cells] at hcs'
  obtain ⟨rfl, rfl, rfl⟩ := hcs'
  exact ⟨[], rfl, Nat.le_refl _, by unfold maxLen; omega, ⟨Rd.none_, fun x hx => by cases hx⟩⟩
 ·simp [Value.cells] at hcs'
  obtain ⟨rfl, rfl, rfl⟩ := hcs'
  simp only [if_true] at hmm
  have each : ∀ i, i < m → ∃ r : SpkM, (∀ j u, (encK r)[j]? = some u → w.cell? (a.add (i * 8 + j)) = some u) ∧ RdW w w.heap.size r := by
   intro i hi
   obtain ⟨cs', h1', h2'⟩ := hx i hi
   rw [ce] at h1'
   obtain ⟨_, hlen, hcell⟩ := World.cells?_some h1'
   obtain ⟨xs, k, hk, hxy, _, hxl, hfl⟩ := DataW.trod_struct he h2'
   match cs', hlen with
   | [v0, v1, v2, v3, v4, v5, v6, v7], _ =>
    match xs, hxl with
    | [y0, y1, y2, y3], _ =>
     have s0 := hfl 0 f0 rfl
     have s1 := hfl 1 f1 rfl
     have s2 := hfl 2 f2 rfl
     have s3 := hfl 3 f3 rfl
     rw [o0, t0, cu] at s0
     rw [o1, t1, hci] at s1
     rw [o2, t2, hci] at s2
     rw [o3, t3, hcb] at s3
     obtain ⟨n5, e5, _, _⟩ := DataW.trod_int hti s1
     obtain ⟨n6, e6, _, _⟩ := DataW.trod_int hti s2
     obtain ⟨b7, e7, _⟩ := DataW.trod_bool htb s3
     have s0' : DataW.trod enc P w 0 (fun _ => true) true k tu [v0, v1, v2, v3, v4] = some y0 := s0
     obtain ⟨xs', k', hk', hxy', _, hxl', hfl'⟩ := DataW.trod_struct hu s0'
     match xs', hxl' with
     | [z0, z1, z2, z3, z4], _ =>
      have r0 := hfl' 0 g0 rfl
      have r1 := hfl' 1 g1 rfl
      have r2 := hfl' 2 g2 rfl
      have r3 := hfl' 3 g3 rfl
      have r4 := hfl' 4 g4 rfl
      rw [q0, u0, hcw] at r0
      rw [q1, u1, hcc] at r1
      rw [q2, u2, hci] at r2
      rw [q3, u3, hci] at r3
      rw [q4, u4, hci] at r4
      obtain ⟨n2, e2, _, _⟩ := DataW.trod_int hti r2
      obtain ⟨n3, e3, _, _⟩ := DataW.trod_int hti r3
      obtain ⟨n4, e4, _, _⟩ := DataW.trod_int hti r4
      have r0' : DataW.trod enc P w 0 (fun _ => true) true k' tw [v0] = some z0 := r0
      have r1' : DataW.trod enc P w 0 (fun _ => true) true k' tc [v1] = some z1 := r1
      obtain ⟨Aw, nw, cw, rfl⟩ := slice_of htw r0'
      obtain ⟨Ac, nc, cc, rfl⟩ := slice_of htc r1'
      obtain ⟨ws, p1, p2, p3, p4, p5⟩ := open_strs (d := z0.1) (p := z0.2) htw hts hcs ⟨k', r0'⟩
      simp at e2 e3 e4 e5 e6 e7
      subst e2 e3 e4 e5 e6 e7
      subst p1
      refine ⟨⟨b7, ws, Aw, cw, Ac, nc, cc, n2, n3, n4, n5, n6⟩, fun j u hu => ?_, p4, p2, p3, p5⟩
      have hj : j < 8 := by
       have := (List.getElem?_eq_some_iff.1 hu).1
       rwa [encK_len] at this
      have hcj := hcell j hj
      rw [add_of_add] at hcj
      rw [hcj]
      exact hu
  obtain ⟨q, hq⟩ := choose_lt each
  refine ⟨(List.range len).map q, by simp, hl, hm, ⟨⟨by rw [encKs_len]; simp, fun hn => ?_⟩, fun r hr => ?_⟩⟩
  ·obtain ⟨b, o, spot⟩ := a
   have h0 := (hq 0 (by omega)).1 0 _ rfl
   have hspot : spot = none := by simpa [Addr.add] using World.cell?_spot h0
   subst hspot
   refine ⟨b, o, rfl, by simpa [Addr.add] using cell_lt h0, fun j u hu => ?_⟩
   have hj : j < len * 8 := by
    have := (List.getElem?_eq_some_iff.1 hu).1
    rw [encKs_len] at this
    simpa using this
   have e : j = j / 8 * 8 + j % 8 := by omega
   rw [e, encKs_get _ _ _ (by omega)] at hu
   rw [List.getElem?_map, List.getElem?_range (show j / 8 < len by omega)] at hu
   have h1 := (hq (j / 8) (by omega)).1 (j % 8) u (by simpa using hu)
   rw [add_none] at h1
   rw [e]
   exact h1
  ·obtain ⟨i, hi, rfl⟩ := List.mem_map.1 hr
   exact (hq i (by have := List.mem_range.1 hi; omega)).2
end Go.Proofs.YtholajadbbdcmaaGreatDoor
