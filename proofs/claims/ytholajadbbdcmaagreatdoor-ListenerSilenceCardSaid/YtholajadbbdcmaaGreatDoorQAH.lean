/- Joined texts: Vo1, Lib4, Cc1, Vo2. -/
import Derived.Shelf.Strings.OnBuilder
import Derived.Shelf.Strings.BuilderF
import Derived.Shelf.Strings.BuilderK
import Derived.Shelf.Strings.BuilderRune
import Derived.Shelf.Utf8.AppendRunePlain
import Derived.Shelf.LaysM
import Derived.Shelf.Strings.SplitShaped
import Derived.Shelf.Unicode.Decode
import Derived.Shelf.Unicode.DecodeAny
import Derived.Shelf.Strings.MapAny
import Derived.Shelf.Strings.CaseAny
import Derived.Shelf.Unicode.ExclAny
import Derived.Shelf.Spec.SlicesGrow
import Derived.Ground.Names8Prog
import Derived.Test.YtholajadbbdcmaaGreatDoorQAA
import Derived.Test.YtholajadbbdcmaaGreatDoorQAB
import Derived.Test.YtholajadbbdcmaaGreatDoorQAC
import Derived.Test.YtholajadbbdcmaaGreatDoorQAD
import Derived.Test.YtholajadbbdcmaaGreatDoorQAE
import Derived.Test.YtholajadbbdcmaaGreatDoorQAF
import Derived.Test.YtholajadbbdcmaaGreatDoorQAG
set_option linter.unusedVariables false
set_option linter.unusedSimpArgs false
set_option linter.unnecessarySimpa false
namespace Go.Proofs.YtholajadbbdcmaaGreatDoor
open Go.RowKit Go.Maps
set_option maxRecDepth 20000
def SetM (w : World) (b m : Nat) (S : ByteArray → Bool) : Prop :=
 ∃ D : DataW Unit, w.ownsMap Tryz.prog 9 (plainElem Tryz.prog 4) b m D ∧ IsMap D ∧ ∀ s : ByteArray, D.atKey (.string s.data.toList) (.lit (.bool false)) = .lit (.bool (S s))
theorem SetM.made (w : World) : SetM (w.alloc (.map #[] 0)) w.heap.size 0 (fun _ => false) :=
 ⟨.map [], World.ownsMap_made w _ _ _, ⟨[], rfl⟩, fun s => rfl⟩
theorem SetM.lt {w : World} {b m : Nat} {S : ByteArray → Bool} (h : SetM w b m S) : b < w.heap.size := by
 obtain ⟨D, h1, _⟩ := h
 exact h1.lt
theorem SetM.below {w w' : World} {b m : Nat} {S : ByteArray → Bool} (h : SetM w b m S) (hb : Below w.heap.size w w') : SetM w' b m S := by
 obtain ⟨D, h1, h2⟩ := h
 exact ⟨D, h1.kept (row := none) ⟨hb.os, hb.tape, hb.output, hb.size, fun k hk _ => hb.block k hk⟩ (by simp), h2⟩
theorem SetM.up {w w' : World} {b m B : Nat} {S : ByteArray → Bool} (h : SetM w b m S) (hb : Below B w w') (hB : b < B) : SetM w' b m S := by
 obtain ⟨D, ⟨es, clock, hh, hr⟩, h2⟩ := h
 exact ⟨D, ⟨es, clock, (hb.block b hB).trans hh, hr⟩, h2⟩
theorem SetM.ext {w : World} {b m : Nat} {S S' : ByteArray → Bool} (h : SetM w b m S) (e : ∀ s, S s = S' s) : SetM w b m S' := by
 obtain rfl : S = S' := funext e
 exact h
theorem SetM.put {w : World} {b m : Nat} {x : ByteArray} {D : DataW Unit} {S : ByteArray → Bool} (h1 : w.ownsMap Tryz.prog 9 (plainElem Tryz.prog 4) b (m + 1) (D.put (.string x.data.toList) (.lit (.bool true))))
  (h2 : IsMap D) (h3 : ∀ s : ByteArray, D.atKey (.string s.data.toList) (.lit (.bool false)) = .lit (.bool (S s))) : SetM w b (m + 1) (fun s => decide (x = s) || S s) := by
 refine ⟨_, h1, h2.put _ _, fun s => ?_⟩
 by_cases h : x = s
 ·subst h
  rw [atKey_put_same h2 (show WideAt.IsKeyLit (.string x.data.toList) from by rw [WideAt.IsKeyLit.eq_3]; trivial)]
  simp
 ·rw [atKey_put_other (by
   intro e
   injection e with e
   exact h (ByteArray.ext (Array.toList_inj.1 e)).symm), h3]
  simp [h]
theorem zero_bool (w : World) : (zeroValue 4).run Tryz.prog w = .ok (.bool false) w := by kernel_rfl
theorem SetM.look {w : World} {b m : Nat} {S : ByteArray → Bool} (h : SetM w b m S) (s : ByteArray) (hs : s.size ≤ maxLen) : (Instr.lookup 201 (.map (some b)) (.string s) false).run Tryz.prog w = .ok (.bool (S s)) w := by
 obtain ⟨D, h1, _, h3⟩ := h
 obtain ⟨v, ps, hrun, hv⟩ := h1.lookup (string_keyed Tryz.underlying9) Tryz.underlying201 (zero_bool w) (plainElem_bool (H := Unit) Tryz.underlying4 false) (WideMaps.keyOf_string_mk Tryz.underlying9 hs)
 rw [h3] at hv
 have hvb : v = .bool (S s) := by
  unfold plainElem at hv
  rw [Tryz.underlying4] at hv
  cases v <;> simp at hv
  rw [hv.1]
 rw [hrun, hvb]
theorem any_succ (f : Nat → ByteArray) (k : Nat) (s : ByteArray) : (decide (f k = s) || (List.range k).any fun j => decide (f j = s)) = (List.range (k + 1)).any fun j => decide (f j = s) := by
 rw [List.range_succ, List.any_append, Bool.or_comm]
 simp
set_option maxHeartbeats 2000000 in
theorem vocabulary_ (w : World) : Calls Tryz.prog 171 #[] w fun e w' => ∃ b, e = .returned (.map (some b)) ∧ SetM w' b 32 isNumW ∧ w.heap.size ≤ b ∧ Below w.heap.size w w' := by
 have hmm := @run_makeMap Tryz.prog
 go_enter Tryz.func171, Tryz.ntmps171
 go_wp2_with (go_at_call 179; refine (voc _).mono ?_; rintro e w1 ⟨rfl, rfl⟩)
 have hset := (SetM.made w).below ((Below.refl _ _).alloc (Nat.le_refl _) (.cells vocab 9))
 have hbel : Below w.heap.size w ((w.alloc (.map #[] 0)).alloc (.cells vocab 9)) := ((Below.refl _ _).alloc (Nat.le_refl _) _).alloc (by simp) _
 have hcell := cellVoc (w.alloc (.map #[] 0))
 have hz : (w.alloc (.map #[] 0)).heap.size = w.heap.size + 1 := by simp
 rw [hz] at hcell
 have hz2 : ((w.alloc (.map #[] 0)).alloc (.cells vocab 9)).heap.size = w.heap.size + 2 := by simp
 generalize (w.alloc (.map #[] 0)).alloc (.cells vocab 9) = wb0 at *
 have HC := Lib.hid hcell
 clear hcell
 go_loopw [7] (fun x wr => ∃ k : Nat, k ≤ 32 ∧ x = .int .i64 k ∧ SetM wr w.heap.size k (fun s => (List.range k).any fun j => decide (wb j = s)) ∧ Below w.heap.size w wr ∧ w.heap.size + 2 ≤ wr.heap.size ∧ Hid (∀ i, i < 32 → wr.cell? ⟨w.heap.size + 1, i, none⟩ = some (.string (wb i)))) (fun x _ => 32 - (intOf x).toNat)
 case atStart => exact ⟨0, by omega, rfl, hset, hbel, by omega, HC⟩
 case round =>
  obtain ⟨k, hk, rfl, hst, hb, hsz, HCk⟩ := hrel
  by_cases hlt : k < 32
  ·have hc := HCk.out k hlt
   have hws : (wb k).size ≤ maxLen := Nat.le_trans (wb_size k) (by unfold maxLen; omega)
   have HX := Lib.hid (any_succ wb k)
   generalize wb k = x at *
   obtain ⟨D, hown, hD, hS⟩ := hst
   go_wp2_with (at_mapUpdate; refine wpList_mapUpdate_own _ rfl _ _ _ 201 rfl 9 4 (string_keyed Tryz.underlying9) Tryz.underlying201 _ w.heap.size k _ rfl hown (by unfold maxLen; omega) _ _ _ rfl rfl (WideMaps.keyOf_string_mk Tryz.underlying9 hws) _ [] (plainElem_bool (H := Unit) Tryz.underlying4 true) ?_; intro w2 hown2 hgr2)
   refine ⟨⟨k + 1, by omega, by go_num, (SetM.put hown2 hD hS).ext HX.out, hb.grown hgr2 (by omega) (fun q hq => by cases hq; exact Nat.le_refl _), Nat.le_trans hsz hgr2.size, Lib.hid fun i hi => ?_⟩, by simp [intOf]; omega⟩
   rw [World.cell?_of_block (hgr2.block (w.heap.size + 1) (by omega) (by simp))]
   exact HCk.out i hi
  ·obtain rfl : k = 32 := by omega
   go_wp2
   go_ret
   exact ⟨w.heap.size, rfl, hst, Nat.le_refl _, hb⟩
end Go.Proofs.YtholajadbbdcmaaGreatDoor
namespace Go.Proofs
open Go.Shelf
def Tryz.laysGrow_ren : Go.Shelf.Ren := ⟨fun | 4 => 186 | n => n, fun | 22 => 27 | 25 => 9 | 3 => 3 | 4 => 4 | 9 => 9 | 20 => 20 | 0 => 0 | n => n, fun | n => n⟩
theorem Tryz.laysGrow : Go.Proofs.Lays8.n4 Tryz.prog Tryz.laysGrow_ren := {
 mixed := by kernel_rfl
 f4 := ⟨Tryz.f186.name, by decide, Tryz.func186.trans (congrArg some (by kernel_rfl))⟩
 t0 := Tryz.underlying0
 a0 := Tryz.isAgg0
 z0 := Tryz.sizeOf0
 v0 := Tryz.zeroValue0
 t3 := Tryz.underlying3
 a3 := Tryz.isAgg3
 z3 := Tryz.sizeOf3
 v3 := Tryz.zeroValue3
 t4 := Tryz.underlying4
 a4 := Tryz.isAgg4
 z4 := Tryz.sizeOf4
 v4 := Tryz.zeroValue4
 t9 := Tryz.underlying9
 a9 := Tryz.isAgg9
 z9 := Tryz.sizeOf9
 v9 := Tryz.zeroValue9
 t20 := Tryz.underlying20
 a20 := Tryz.isAgg20
 z20 := Tryz.sizeOf20
 v20 := Tryz.zeroValue20
 t22 := Tryz.underlying27
 a22 := Tryz.isAgg27
 z22 := Tryz.sizeOf27
 v22 := Tryz.zeroValue27 }
def Tryz.laysGrowG_ren : Go.Shelf.Ren := ⟨fun | 4 => 135 | n => n, fun | 22 => 51 | 25 => 89 | 3 => 3 | 4 => 4 | 9 => 9 | 20 => 20 | 0 => 0 | n => n, fun | n => n⟩
theorem Tryz.laysGrowG : Go.Proofs.Lays8.n4 Tryz.prog Tryz.laysGrowG_ren := {
 mixed := by kernel_rfl
 f4 := ⟨Tryz.f135.name, by decide, Tryz.func135.trans (congrArg some (by kernel_rfl))⟩
 t0 := Tryz.underlying0
 a0 := Tryz.isAgg0
 z0 := Tryz.sizeOf0
 v0 := Tryz.zeroValue0
 t3 := Tryz.underlying3
 a3 := Tryz.isAgg3
 z3 := Tryz.sizeOf3
 v3 := Tryz.zeroValue3
 t4 := Tryz.underlying4
 a4 := Tryz.isAgg4
 z4 := Tryz.sizeOf4
 v4 := Tryz.zeroValue4
 t9 := Tryz.underlying9
 a9 := Tryz.isAgg9
 z9 := Tryz.sizeOf9
 v9 := Tryz.zeroValue9
 t20 := Tryz.underlying20
 a20 := Tryz.isAgg20
 z20 := Tryz.sizeOf20
 v20 := Tryz.zeroValue20
 t22 := Tryz.underlying51
 a22 := Tryz.isAgg51
 z22 := Tryz.sizeOf51
 v22 := Tryz.zeroValue51 }
end Go.Proofs
namespace Go.Proofs.YtholajadbbdcmaaGreatDoor
open Go.RowKit
set_option maxRecDepth 20000
theorem grow_nil (n : Nat) (hn : n ≤ 1000000000) (w : World) : Calls Tryz.prog 186 #[.slice none 0 0, .int .i64 n] w fun e w' => ∃ A c, e = .returned (.slice A 0 c) ∧ w'.ownsRow w.heap.size 9 1 (.slice A 0 c) 0 [] ∧ Below w.heap.size w w' := by
 rcases Nat.eq_zero_or_pos n with h0 | h0
 ·subst h0
  refine (Any8.slices_Grow_room Tryz.laysGrow none 0 0 0 w (by omega) (by omega) (by omega) (by omega)).mono ?_
  rintro e w' ⟨rfl, rfl⟩
  exact ⟨none, 0, rfl, own_nil _ _ _ _, Below.refl _ _⟩
 ·have h : (Tryz.prog.info? 9).map (fun i => (i.zero, i.size, i.bytes)) = some (some (.string ⟨#[]⟩), 1, 16) := by kernel_rfl
  obtain ⟨i, hi, hz, hs, hb⟩ := info_parts h
  refine (Any8.slices_Grow_grow Tryz.laysGrow i (.string ⟨#[]⟩) hi hz (by omega) none 0 0 n [] w (by omega) (by omega) (by rw [hb]; omega) (by omega) (by simp) (fun _ => rfl) (fun a h => by cases h)).mono ?_
  rintro e w' ⟨rfl, rfl⟩
  have hge := grownCap_ge w (0 + n) 0 9
  refine ⟨_, _, rfl, ⟨rfl, .inr ⟨w.heap.size, grownCap w (0 + n) 0 9, _, rfl, Nat.le_refl _, heap_alloc_new w.drew _, Nat.zero_le _, grownCap_le_maxLen _ _ _ _ (by unfold maxLen; omega), ?_, by simp⟩⟩, below_of_drew ((Below.refl w.heap.size w.drew).alloc (Nat.le_refl _) _)⟩
  rw [Array.size_append, Array.size_append, size_zeroCells, size_zeroCells]
  have e1 : (Value.string ⟨#[]⟩).cells.size = 1 := rfl
  have e2 : Tryz.laysGrow_ren.t 25 = 9 := rfl
  rw [e1]
  simp only [List.size_toArray, List.length_nil, e2]
  omega
def catV (L : List (Option Addr × Nat × List ByteArray)) : List Value := L.map fun x => .slice x.1 x.2.2.length x.2.1
def catL (L : List (Option Addr × Nat × List ByteArray)) : List ByteArray := L.flatMap fun x => x.2.2
theorem catL_take {L : List (Option Addr × Nat × List ByteArray)} {k : Nat} (h : k < L.length) : catL (L.take (k + 1)) = catL (L.take k) ++ L[k].2.2 := by
 have e : L.take (k + 1) = L.take k ++ [L[k]] := (List.take_append_getElem h).symm
 unfold catL
 rw [e, List.flatMap_append]
 simp only [List.flatMap_cons, List.flatMap_nil, List.append_nil]
theorem catL_le (L : List (Option Addr × Nat × List ByteArray)) (k : Nat) : (catL (L.take k)).length ≤ (catL L).length := by
 have e : catL L = catL (L.take k) ++ catL (L.drop k) := by
  unfold catL
  rw [← List.flatMap_append, List.take_append_drop]
 rw [e, List.length_append]
 omega
set_option maxHeartbeats 4000000 in
theorem concat_ (L : List (Option Addr × Nat × List ByteArray)) (A : Option Addr) (n c B : Nat) (w : World) (hn : L.length = n) (hn2 : n ≤ 1000) (hB : B ≤ w.heap.size) (htot : (catL L).length ≤ 1000000000)
  (rd : Rd w B 1 A n (catV L)) (hr : ∀ x ∈ L, Rd w B 1 x.1 x.2.2.length (sv x.2.2)) :
  Calls Tryz.prog 172 #[.slice A n c] w (GivesOwn 9 1 id w (catL L).length (sv (catL L))) := by
 have HN := Lib.hid hn
 have HT : Hid (∀ k (h : k < L.length), catL (L.take (k + 1)) = catL (L.take k) ++ L[k].2.2) := Lib.hid fun k h => catL_take h
 have HLe := Lib.hid (catL_le L)
 have HC : Hid (∀ k (h : k < L.length), (catV L)[k]? = some (.slice L[k].1 L[k].2.2.length L[k].2.1)) := Lib.hid fun k h => by simp [catV, h]
 have HR : Hid (∀ k (h : k < L.length), Rd w B 1 L[k].1 L[k].2.2.length (sv L[k].2.2)) := Lib.hid fun k h => hr _ (List.getElem_mem h)
 have HG := Lib.hid grow_nil
 have HA : Hid (L.take n = L) := Lib.hid (List.take_of_length_le (by omega))
 clear hn hr
 go_enter Tryz.func172, Tryz.ntmps172
 go_wp2
 go_loopw [3, 11] (fun v x wr => ∃ k : Nat, k ≤ n ∧ x = .int .i64 k ∧ v = .int .i64 ((catL (L.take k)).length : Nat) ∧ w = wr) (fun _ x _ => n - (intOf x).toNat)
 case atStart => exact ⟨0, Nat.zero_le _, rfl, rfl, rfl⟩
 case round =>
  obtain ⟨k, hk, rfl, rfl, rfl⟩ := hrel
  by_cases hlt : k < n
  ·have hkl : k < L.length := by have := HN.out; omega
   obtain ⟨b, o, rfl, hbB, hc⟩ := rd.at_ hlt
   rw [HC.out k hkl] at hc
   have hl1 := HLe.out k
   have hl2 := HLe.out (k + 1)
   have hT := HT.out k hkl
   have hTl : (catL (L.take (k + 1))).length = (catL (L.take k)).length + L[k].2.2.length := by rw [hT, List.length_append]
   generalize hm2 : (catL (L.take (k + 1))).length = m2 at *
   replace hm2 := Lib.hid hm2
   generalize (catL (L.take k)).length = m1 at *
   generalize L[k].2.2.length = q at *
   generalize L[k].1 = aa at *
   generalize L[k].2.1 = cc at *
   clear hT
   go_wp2
   exact ⟨⟨k + 1, by omega, by go_num, by rw [hm2.out, hTl]; go_num, by trivial⟩, by simp [intOf]; omega⟩
  ·obtain rfl : k = n := by omega
   have hA := HA.out
   rw [hA]
   clear hA
   generalize hm : (catL L).length = m at *
   replace hm := Lib.hid hm
   go_wp2_with (go_at_call 186; refine (HG.out m htot _).mono ?_; rintro e w1 ⟨A1, c1, rfl, hown1, hbel1⟩)
   go_loopw [6, 27] (fun v x wr => ∃ (A' : Option Addr) (c' j : Nat), j ≤ k ∧ x = .int .i64 j ∧ v = .slice A' (catL (L.take j)).length c' ∧ wr.ownsRow w.heap.size 9 1 (.slice A' (catL (L.take j)).length c') (catL (L.take j)).length (sv (catL (L.take j))) ∧ Below w.heap.size w wr) (fun _ x _ => k - (intOf x).toNat)
   case atStart => exact ⟨A1, c1, 0, Nat.zero_le _, rfl, rfl, hown1, hbel1⟩
   case round =>
    obtain ⟨A', c', j, hj, rfl, rfl, hown, hbel⟩ := hrel
    by_cases hlt : j < k
    ·have hkl : j < L.length := by have := HN.out; omega
     obtain ⟨b, o, rfl, hbB, hc⟩ := (rd.keep (w' := wr) fun p hp => hbel.cell (by omega)).at_ hlt
     rw [HC.out j hkl] at hc
     have hr := Lib.hid ((HR.out j hkl).keep (w' := wr) fun p hp => hbel.cell (by omega))
     have hl1 := HLe.out j
     have hl2 := HLe.out (j + 1)
     have hT := HT.out j hkl
     have hTl : (catL (L.take (j + 1))).length = (catL (L.take j)).length + L[j].2.2.length := by rw [hT, List.length_append]
     replace hT := Lib.hid hT
     replace hTl := Lib.hid hTl
     have hl3 : (catL (L.take j)).length + L[j].2.2.length ≤ m := by rw [← hTl.out]; exact hl2
     generalize hM1 : catL (L.take j) = M1 at *
     generalize hl : L[j].2.2 = l at *
     generalize L[j].1 = aa at *
     generalize L[j].2.1 = cc at *
     clear hl hM1 hl2
     have zb := hbel.size
     go_wp2_with (at_builtin; go_must (refine app_list rfl _ _ _ rfl elt_str (w.heap.size) _ rfl (hown) _ _ rfl (hr.out) (by first | rfl | exact sv_one _ | exact wv_one _) (by omega) (by omega) (by first | (simp; done) | (simp; omega) | omega) ?_); intro A4 c4 w4 hown4 hbel4 hgr4 hat4; have z4 := hbel4.size; (try simp only [World.size_alloc] at z4); (try simp only [Nat.zero_add, List.nil_append] at hown4))
     exact ⟨⟨A4, c4, j + 1, by omega, by go_num, by rw [hTl.out], by rw [hTl.out, hT.out]; simpa [sv] using hown4, hbel.trans hbel4⟩, by simp [intOf]; omega⟩
    ·obtain rfl : j = k := by omega
     have hA := HA.out
     rw [hA] at hown
     go_wp2
     go_ret
     have e1 : (catL (L.take j)).length = m := by rw [hA, hm.out]
     rw [hm.out] at hown
     exact ⟨A', c', by rw [e1]; rfl, hown, hbel⟩
end Go.Proofs.YtholajadbbdcmaaGreatDoor
namespace Go.Proofs.YtholajadbbdcmaaGreatDoor
open Go.RowKit Go.Maps
set_option maxRecDepth 100000
def ctrlB : ByteArray := { data := (([99, 104, 97, 114, 97, 99, 116, 101, 114, 32, 106, 111, 105, 110, 101, 100, 32, 99, 97, 112, 32, 99, 97, 112, 115, 32, 119, 111, 114, 100, 32, 115, 112, 97, 99, 101, 32, 116, 105, 109, 101, 115, 32, 115, 112, 101, 108, 108, 101, 100, 32, 101, 110, 100, 32, 100, 105, 103, 105].append [116, 115, 32, 112, 108, 97, 105, 110, 32, 115, 116, 114, 111, 110, 103, 32, 105, 110, 118, 101, 114, 115, 101, 32, 104, 105, 100, 100, 101, 110, 32, 115, 105, 122, 101, 32, 114, 111, 119, 115, 32, 99, 111, 108, 117, 109, 110, 115, 32, 115, 99, 114, 111, 108, 108, 32, 108, 105, 110, 101]).append ([32, 108, 105, 110, 101, 115, 32, 102, 114, 111, 109, 32, 116, 111, 32, 117, 112, 32, 100, 111, 119, 110, 32, 99, 111, 108, 117, 109, 110, 32, 114, 101, 112, 108, 97, 99, 101, 32, 119, 105, 116, 104, 32, 105, 110, 115, 101, 114, 116, 32, 100, 101, 108, 101, 116, 101, 32, 99, 117].append [114, 115, 111, 114, 32, 118, 105, 115, 105, 98, 108, 101, 32, 105, 110, 118, 105, 115, 105, 98, 108, 101, 32, 109, 111, 114, 101, 32, 100, 111, 110, 101, 32, 117, 112, 100, 97, 116, 101, 115, 32, 114, 101, 97, 100, 115, 32, 115, 116, 111, 112, 32, 98, 108, 97, 110, 107, 32, 98, 121])).toArray }
theorem ctrl_fields : Lib.fields ctrlB.data.toList = ctrlL.map fun s => s.data.toList := by decide +kernel
theorem ctrl_len : ctrlL.length = 39 := rfl
theorem ctrl_all : (ctrlB.data.toList.all fun b => decide (b.toNat < 128)) = true := by decide +kernel
theorem ctrl_ascii : ∀ (j : Nat) b, ctrlB.data.toList[j]? = some b → b.toNat < 128 := ascii_of _ ctrl_all
theorem ctrl_size0 : ctrlB.size ≤ 1000 := by decide +kernel
theorem ctrl_size : ctrlB.size < 4294967281 := Nat.lt_of_le_of_lt ctrl_size0 (by omega)
theorem ctrl_sv : ((Lib.fields ctrlB.data.toList).map fun l => Value.string ⟨l.toArray⟩) = sv ctrlL := by
 rw [ctrl_fields, List.map_map]
 rfl
def resN : List ByteArray := ctrlL ++ (List.range 32).map nb
theorem res_any (s : ByteArray) : (isNumW s || (resN.any fun x => decide (x = s))) = resB s := by
 unfold resB resN
 rw [List.any_append, List.any_map]
 have e : ((List.range 32).any ((fun x => decide (x = s)) ∘ nb)) = (List.range 32).any fun j => decide (nb j = s) := rfl
 rw [e]
 cases isNumW s <;> cases (ctrlL.any fun x => decide (x = s)) <;> cases ((List.range 32).any fun j => decide (nb j = s)) <;> rfl
theorem resN_len : resN.length = 71 := rfl
theorem resN_size : ∀ x ∈ resN, x.size ≤ 20 := by decide +kernel
theorem any_take {f : List ByteArray} {k : Nat} (h : k < f.length) (s : ByteArray) (z : Bool) : (decide (f[k] = s) || (z || (f.take k).any fun x => decide (x = s))) = (z || (f.take (k + 1)).any fun x => decide (x = s)) := by
 have e : f.take (k + 1) = f.take k ++ [f[k]] := (List.take_append_getElem h).symm
 rw [e, List.any_append]
 simp only [List.any_cons, List.any_nil, Bool.or_false]
 cases z <;> cases decide (f[k] = s) <;> cases ((f.take k).any fun x => decide (x = s)) <;> rfl
set_option maxHeartbeats 4000000 in
theorem reserved_ (w : World) (hs : Sp w) : Calls Tryz.prog 150 #[] w fun e w' => ∃ b, e = .returned (.map (some b)) ∧ SetM w' b 200 resB ∧ w.heap.size ≤ b ∧ Below w.heap.size w w' := by
 have HF : Hid (∀ w, Sp w → Calls Tryz.prog 29 #[.string ctrlB] w fun e w' => e = .returned (.slice (some ⟨w.heap.size, 0, none⟩) 39 39) ∧ w' = w.alloc (.cells (sv ctrlL).toArray 9)) := Lib.hid fun w hs => by
  have h := Tryz.strings_Fields ctrlB w ctrl_size ctrl_ascii hs
  rw [ctrl_sv, ctrl_fields, List.length_map, ctrl_len] at h
  exact h
 have HS := Lib.hid hs
 have HV := Lib.hid vocabulary_
 have HN := Lib.hid names
 clear hs
 go_enter Tryz.func150, Tryz.ntmps150
 go_upto_region 2 with (go_at_call 171; refine (HV.out _).mono ?_; rintro e w1 ⟨b1, rfl, hset1, hb1, hbel1⟩)
 have hs1 := HS.out.below hbel1 (Nat.le_refl _)
 go_wp2_with (first
  | (go_at_call 29; refine (HF.out _ hs1).mono ?_; rintro e w2 ⟨rfl, rfl⟩)
  | (go_at_call 173; refine (HN.out _ (hs1.below (B := w1.heap.size) ((Below.refl _ _).alloc (Nat.le_refl _) _) (Nat.le_refl _))).mono ?_; rintro e w3 ⟨A3, c3, rfl, rd3, hbel3⟩))
 have z1 := hbel1.size
 have z3 := hbel3.size
 rw [World.size_alloc] at z3
 have t3 : Below w1.heap.size w1 w3 := ((Below.refl _ _).alloc (Nat.le_refl _) _).trans (hbel3.mono (by simp))
 have rdC : Rd w3 w3.heap.size 1 (some ⟨w1.heap.size, 0, none⟩) 39 (sv ctrlL) := Rd.more (Rd.keep (rd_built (w := w1) (xs := sv ctrlL) (e := 9) rfl rfl) fun p hp => hbel3.cell (by simp; omega)) (by omega)
 have HCat : Hid (∀ W, Rd W W.heap.size 1 (some ⟨w3.heap.size, 0, none⟩) 2 [.slice (some ⟨w1.heap.size, 0, none⟩) 39 39, .slice A3 32 c3] → Below w3.heap.size w3 W → Calls Tryz.prog 172 #[.slice (some ⟨w3.heap.size, 0, none⟩) 2 2] W (GivesOwn 9 1 id W 71 (sv resN))) := Lib.hid fun W rd hW => by
  have h := concat_ [(some ⟨w1.heap.size, 0, none⟩, 39, ctrlL), (A3, c3, (List.range 32).map nb)] (some ⟨w3.heap.size, 0, none⟩) 2 2 W.heap.size W rfl (by omega) (Nat.le_refl _) (by show (71 : Nat) ≤ 1000000000; omega) rd (fun x hx => by
   simp only [List.mem_cons, List.not_mem_nil, or_false] at hx
   rcases hx with rfl | rfl
   ·exact (rdC.below hW).more hW.size
   ·exact (Rd.below rd3 hW).more hW.size)
  exact h
 go_wp2_with (go_at_call 172; refine (HCat.out _ (Rd.more (rd_built (xs := [.slice (some ⟨w1.heap.size, 0, none⟩) 39 39, .slice A3 32 c3]) rfl rfl) (by simp)) ((Below.refl _ _).alloc (Nat.le_refl _) _)).mono ?_; rintro e w4 ⟨A4, c4, rfl, hown4, hbel4⟩)
 rw [World.size_alloc] at hown4 hbel4
 have hlt1 := hset1.lt
 have hset4 := (hset1.up t3 hlt1).up (((Below.refl w3.heap.size w3).alloc (Nat.le_refl _) _).trans (hbel4.mono (by omega))) (by omega : b1 < w3.heap.size)
 have hbl4 : Below w.heap.size w w4 := (hbel1.trans (t3.mono z1)).trans ((((Below.refl w3.heap.size w3).alloc (Nat.le_refl _) _).trans (hbel4.mono (by omega))).mono (by omega))
 have z4 := hbel4.size
 rw [World.size_alloc] at z4
 clear hset1 rdC rd3 HCat hs1 t3 hbel3 hbel1 hbel4 HF HN
 have HX : Hid (∀ k (h : k < resN.length) s, _) := Lib.hid fun k (h : k < resN.length) s => any_take h s (isNumW s)
 have HSz : Hid (∀ k (h : k < resN.length), resN[k].size ≤ 20) := Lib.hid fun k h => resN_size _ (List.getElem_mem h)
 have HL := Lib.hid resN_len
 have HE : Hid (∀ s, (isNumW s || ((resN.take 71).any fun x => decide (x = s))) = resB s) := Lib.hid fun s => by rw [← resN_len, List.take_length]; exact res_any s
 generalize resN = RN at *
 go_loopw [10] (fun x wr => ∃ k : Nat, k ≤ 71 ∧ x = .int .i64 k ∧ SetM wr b1 (32 + k) (fun s => isNumW s || (RN.take k).any fun x => decide (x = s)) ∧ Below w.heap.size w wr ∧ w3.heap.size + 1 ≤ wr.heap.size ∧ wr.ownsRow (w3.heap.size + 1) 9 1 (.slice A4 71 c4) 71 (sv RN)) (fun x _ => 71 - (intOf x).toNat)
 case atStart => exact ⟨0, by omega, rfl, hset4.ext fun s => by simp, hbl4, z4, hown4⟩
 case round =>
  obtain ⟨k, hk, rfl, hst, hb, hsz, hown⟩ := hrel
  by_cases hlt : k < 71
  ·have hkl : k < RN.length := by have := HL.out; omega
   obtain ⟨b, o, rfl, _, hc⟩ := (Rd.of_own hown).at_ hlt
   rw [sv_get _ _ hkl] at hc
   have hxs := HSz.out k hkl
   have hws : RN[k].size ≤ maxLen := by unfold maxLen; omega
   have HXk := Lib.hid (HX.out k hkl)
   generalize RN[k] = x at *
   obtain ⟨D, hownm, hD, hS⟩ := hst
   go_wp2_with (at_mapUpdate; refine wpList_mapUpdate_own _ rfl _ _ _ 201 rfl 9 4 (string_keyed Tryz.underlying9) Tryz.underlying201 _ b1 (32 + k) _ rfl hownm (by unfold maxLen; omega) _ _ _ rfl rfl (WideMaps.keyOf_string_mk Tryz.underlying9 hws) _ [] (plainElem_bool (H := Unit) Tryz.underlying4 true) ?_; intro w5 hown5 hgr5)
   exact ⟨⟨k + 1, by omega, by go_num, (SetM.put hown5 hD hS).ext HXk.out, hb.grown hgr5 (by omega) (fun q hq => by cases hq; omega), Nat.le_trans hsz hgr5.size, hown.kept hgr5 (.inr fun e => by
    have := (hown.lt b1 e).1
    omega)⟩, by simp [intOf]; omega⟩
  ·obtain rfl : k = 71 := by omega
   go_wp2
   go_ret
   exact ⟨b1, rfl, (by
    obtain ⟨D, h1, h2⟩ := hst.ext HE.out
    exact ⟨D, h1.mono (by omega), h2⟩), by omega, hb⟩
end Go.Proofs.YtholajadbbdcmaaGreatDoor
