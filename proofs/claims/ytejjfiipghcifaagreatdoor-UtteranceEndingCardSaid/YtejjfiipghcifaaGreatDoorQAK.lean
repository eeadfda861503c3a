/- Joined texts: Dg1. -/
import Derived.Test.YtejjfiipghcifaaGreatDoorQAA
import Derived.Test.YtejjfiipghcifaaGreatDoorQAB
import Derived.Test.YtejjfiipghcifaaGreatDoorQAD
import Derived.Test.YtejjfiipghcifaaGreatDoorQAE
import Derived.Test.YtejjfiipghcifaaGreatDoorQAF
import Derived.Test.YtejjfiipghcifaaGreatDoorQAG
import Derived.Test.YtejjfiipghcifaaGreatDoorQAJ
set_option linter.unusedVariables false
set_option linter.unusedSimpArgs false
set_option linter.unnecessarySimpa false
namespace Go.Proofs.YtejjfiipghcifaaGreatDoor
open Go.RowKit
set_option maxRecDepth 20000
def digT (T : List UInt8) : List Nat := T.map fun c => c.toNat - 48
def catW (D : List Nat) : List ByteArray := D.flatMap numW
theorem catW_snoc (D : List Nat) (d : Nat) : catW (D ++ [d]) = catW D ++ numW d := by
 unfold catW
 rw [List.flatMap_append]
 simp only [List.flatMap_cons, List.flatMap_nil, List.append_nil]
def digitsT (T : List UInt8) (dig : Bool) : List ByteArray :=
 if dig = true ∨ 9 < T.length ∨ (1 < T.length ∧ (digT T).headD 1 = 0) then bDigits :: catW (digT T) else numW (numL (digT T))
theorem numW_len (n : Nat) : (numW n).length ≤ 16 := by
 unfold numW
 rw [List.length_map]
 have := wordsL_le (n : Int)
 omega
theorem numL_snoc (l : List Nat) (d : Nat) : numL (l ++ [d]) = 10 * numL l + d := by
 unfold numL
 rw [List.foldl_append]
 rfl
theorem numL_lt (l : List Nat) (h : ∀ d ∈ l, d < 10) : numL l < 10 ^ l.length := by
 have e : ∀ (l : List Nat), (∀ d ∈ l, d < 10) → ∀ a, l.foldl (fun n d => 10 * n + d) a < (a + 1) * 10 ^ l.length := by
  intro l
  induction l with
  | nil => intro _ a; simp
  | cons d t ih =>
   intro h a
   have h1 := h d (by simp)
   have h2 := ih (fun x hx => h x (by simp [hx])) (10 * a + d)
   rw [List.length_cons, Nat.pow_succ]
   show List.foldl _ (10 * a + d) t < _
   have : (10 * a + d + 1) * 10 ^ t.length ≤ (a + 1) * 10 * 10 ^ t.length := Nat.mul_le_mul_right _ (by omega)
   have e2 : (a + 1) * 10 * 10 ^ t.length = (a + 1) * (10 ^ t.length * 10) := by rw [Nat.mul_assoc, Nat.mul_comm 10]
   omega
 have := e l h 0
 unfold numL
 omega
theorem digT_take {T : List UInt8} {j : Nat} (h : j < T.length) : digT (T.take (j + 1)) = digT (T.take j) ++ [T[j].toNat - 48] := by
 have e : T.take (j + 1) = T.take j ++ [T[j]] := (List.take_append_getElem h).symm
 unfold digT
 rw [e, List.map_append]
 rfl
theorem own_iterAt {w : World} {base size n k q q' : Nat} {s : ByteArray} {e : TypeId} {v : Value} {xs : List Value} (h : w.ownsRow base e size v n xs) (hk : w.heap[k]? = some (.stringIter s q)) : (w.iterAt k s q').ownsRow base e size v n xs := by
 refine ⟨h.1, ?_⟩
 rcases h.2 with h0 | ⟨g, cap, cur, rfl, h1, h2, h3⟩
 ·exact .inl h0
 ·refine .inr ⟨g, cap, cur, rfl, h1, ?_, h3⟩
  have hne : k ≠ g := by
   rintro rfl
   rw [hk] at h2
   cases h2
  show (w.heap.setIfInBounds k _)[g]? = _
  rw [Array.getElem?_setIfInBounds_ne hne]
  exact h2
theorem iter_grown {w w' : World} {base size n k q : Nat} {s : ByteArray} {e : TypeId} {v : Value} {xs : List Value} (h : w.ownsRow base e size v n xs) (hg : w.grownBy w' v.ownBlock) (hk : w.heap[k]? = some (.stringIter s q)) : w'.heap[k]? = some (.stringIter s q) := by
 have hl : k < w.heap.size := by
  rcases Nat.lt_or_ge k w.heap.size with h | h
  ·exact h
  ·rw [Array.getElem?_eq_none h] at hk; cases hk
 refine (hg.block k hl ?_).trans hk
 rcases h.2 with ⟨rfl, _⟩ | ⟨g, cap, cur, rfl, h1, h2, h3⟩
 ·simp [Value.ownBlock]
 ·intro e
  simp only [Value.ownBlock, Option.some.injEq] at e
  subst e
  rw [hk] at h2
  cases h2
theorem iter_below {w w' : World} {k q : Nat} {s : ByteArray} (hb : Below w.heap.size w w') (hk : w.heap[k]? = some (.stringIter s q)) : w'.heap[k]? = some (.stringIter s q) := by
 have hl : k < w.heap.size := by
  rcases Nat.lt_or_ge k w.heap.size with h | h
  ·exact h
  ·rw [Array.getElem?_eq_none h] at hk; cases hk
 exact (hb.block k hl).trans hk
def posN (w : World) (k : Nat) : Nat := w.iterPos k
theorem posN_at {w : World} {k q : Nat} {s : ByteArray} (hk : w.heap[k]? = some (.stringIter s q)) : posN w k = q := by simp [posN, World.iterPos, hk]
set_option maxHeartbeats 4000000 in
theorem digits_ (X : ByteArray) (T : List UInt8) (hXT : X.data.toList = T) (hT : ∀ c ∈ T, 48 ≤ c.toNat ∧ c.toNat ≤ 57) (hl : T.length ≤ 1000000) (h0 : 0 < T.length) (r : Int) (d sp : Bool) (p : Int) (con : Bool) (k : Int) (w : World) :
  Calls Tryz.prog 108 #[.string X, stV r d sp p con k] w (GivesOwn 9 1 id w (digitsT T d).length (sv (digitsT T d))) := by
 have hsz : X.size = T.length := by rw [← hXT]; simp
 have HX : Hid (∀ (j : Nat) (h : j < T.length) (h2 : j < X.size), X[j] = T[j]) := Lib.hid fun j h h2 => by subst hXT; rfl
 have HB : Hid (∀ (j : Nat) (h : j < T.length), 48 ≤ T[j].toNat ∧ T[j].toNat ≤ 57) := Lib.hid fun j h => hT _ (List.getElem_mem h)
 have HD : Hid (∀ (j : Nat) (h : j < T.length), digT (T.take (j + 1)) = digT (T.take j) ++ [T[j].toNat - 48]) := Lib.hid fun j h => digT_take h
 have HTA : Hid (T.take T.length = T) := Lib.hid List.take_length
 have HLn : Hid (∀ j, (catW (digT (T.take j))).length ≤ 16 * j) := Lib.hid fun j => by
  unfold catW
  have e : ∀ l : List Nat, (l.flatMap numW).length ≤ 16 * l.length := by
   intro l
   induction l with
   | nil => simp
   | cons a t ih =>
    have := numW_len a
    simp only [List.flatMap_cons, List.length_append, List.length_cons]
    omega
  have h1 := e (digT (T.take j))
  have h2 : (digT (T.take j)).length ≤ j := by unfold digT; rw [List.length_map, List.length_take]; omega
  omega
 have HNW := Lib.hid number_w
 have hd0 : (digT T).headD 1 = T[0].toNat - 48 := by
  cases T with
  | nil => cases h0
  | cons c t => rfl
 by_cases hcond : d = true ∨ 9 < T.length ∨ (1 < T.length ∧ (digT T).headD 1 = 0)
 ·obtain ⟨RES, hRES⟩ : ∃ x, x = digitsT T d := ⟨_, rfl⟩
  rw [← hRES]
  have HR : Hid (RES = bDigits :: catW (digT T)) := Lib.hid (by rw [hRES, digitsT, if_pos hcond])
  clear hRES
  rw [hd0] at hcond
  have hx0 := HX.out 0 h0 (by omega)
  have hb0 := HB.out 0 h0
  have hc2 : d = true ∨ (d = false ∧ 9 < X.size) ∨ (d = false ∧ ¬ 9 < X.size ∧ 1 < X.size ∧ (X[0]'(by omega)).toNat = 48) := by
   cases d with
   | true => exact .inl rfl
   | false =>
    rcases hcond with h | h | ⟨h, h'⟩
    ·cases h
    ·exact .inr (.inl ⟨rfl, by omega⟩)
    ·by_cases h9 : 9 < X.size
     ·exact .inr (.inl ⟨rfl, h9⟩)
     ·exact .inr (.inr ⟨rfl, h9, by omega, by rw [hx0]; omega⟩)
  clear hcond hd0 hx0 hb0 hXT hT
  rcases hc2 with rfl | ⟨rfl, h9⟩ | ⟨rfl, h9, h1, hx48⟩
  ·skip
   go_enter Tryz.func108, Tryz.ntmps108
   go_upto_region 1 with fail
   refine wp_fg (fun wx => StBox wx r true sp p con k w.heap.size ∧ Below w.heap.size w wx ∧ wx.heap.size = w.heap.size + 1) ⟨StBox.new w r true sp p con k _, (Below.refl _ _).alloc (Nat.le_refl _) _, by simp⟩ ?_
   rintro wb ⟨⟨_, s1, _, _, _, _⟩, hb0, hz0⟩
   go_upto_region 3 with fail
   have hown0 : (wb.alloc (.cells #[.string ⟨#[100, 105, 103, 105, 116, 115]⟩] 9)).ownsRow (w.heap.size + 1) 9 1 (.slice (some ⟨wb.heap.size, 0, none⟩) 1 1) 1 (sv [bDigits]) := own_built (xs := sv [bDigits]) rfl rfl (by omega) (by omega)
   have hbe : Below w.heap.size w (wb.alloc (.cells #[.string ⟨#[100, 105, 103, 105, 116, 115]⟩] 9)) := hb0.alloc (by omega) _
   have hze : (wb.alloc (.cells #[.string ⟨#[100, 105, 103, 105, 116, 115]⟩] 9)).heap.size = w.heap.size + 2 := by simp; omega
   rw [hz0] at hown0
   (try simp only [hz0])
   generalize wb.alloc (.cells #[.string ⟨#[100, 105, 103, 105, 116, 115]⟩] 9) = wc at *
   go_wp2
   go_loopw [5] (fun v wr => ∃ (A : Option Addr) (c j : Nat), j ≤ T.length ∧ wr.heap[w.heap.size + 2]? = some (.stringIter X j) ∧ v = .slice A (1 + (catW (digT (T.take j))).length) c ∧ wr.ownsRow (w.heap.size + 1) 9 1 (.slice A (1 + (catW (digT (T.take j))).length) c) (1 + (catW (digT (T.take j))).length) (sv (bDigits :: catW (digT (T.take j)))) ∧ Below w.heap.size w wr) (fun _ wr => T.length - posN wr (w.heap.size + 2))
   case atStart => exact ⟨_, _, 0, Nat.zero_le _, by rw [← hze]; exact heap_alloc_new _ _, rfl, hown0.alloc _, hbe.alloc (by omega) _⟩
   case round =>
    obtain ⟨A, c, j, hj, hk, rfl, hown, hbel⟩ := hrel
    have hln := HLn.out j
    by_cases hlt : j < T.length
    ·have hjx : j < X.size := by omega
     have hx := HX.out j hlt hjx
     have hb := HB.out j hlt
     rw [← hx] at hb
     have HDj : Hid (digT (T.take (j + 1)) = digT (T.take j) ++ [X[j].toNat - 48]) := Lib.hid (by rw [hx]; exact HD.out j hlt)
     have hnext : ∀ ty, (Instr.next (.pointer (some ⟨w.heap.size + 2, 0, none⟩)) true ty).run Tryz.prog wr = _ := fun ty => Lib.run_next_ascii_at wr (w.heap.size + 2) X j ty hk hjx (by omega)
     have hmu := Lib.hid (posN_at hk)
     have hk1 := Lib.iterAt_heap wr (w.heap.size + 2) X j (j + 1) hk
     have hown1 := own_iterAt (q' := j + 1) hown hk
     have hbel1 := Lib.below_iterAt hbel (k := w.heap.size + 2) (by omega) X (j + 1)
     have hzk : w.heap.size + 2 < (wr.iterAt (w.heap.size + 2) X (j + 1)).heap.size := by
      rcases Nat.lt_or_ge (w.heap.size + 2) (wr.iterAt (w.heap.size + 2) X (j + 1)).heap.size with h | h
      ·exact h
      ·rw [Array.getElem?_eq_none h] at hk1; cases hk1
     have HNj : Hid (∀ w, Calls Tryz.prog 111 #[.int .i64 ((X[j].toNat : Int) - 48)] w (GivesOwn 9 1 id w (numW (X[j].toNat - 48)).length (sv (numW (X[j].toNat - 48))))) := Lib.hid fun w => by
      have h := HNW.out (X[j].toNat - 48) (by omega) w
      rwa [show ((X[j].toNat - 48 : Nat) : Int) = (X[j].toNat : Int) - 48 by omega] at h
     have hnl := numW_len (X[j].toNat - 48)
     clear hown hbel hx hk
     generalize wr.iterAt (w.heap.size + 2) X (j + 1) = W1 at *
     generalize digT (T.take j) = DJ at *
     generalize hNW : numW (X[j].toNat - 48) = NW at *
     replace hNW := Lib.hid hNW
     go_wp2_with (first
      | (go_at_call 111; refine (HNj.out _).mono ?_; rintro e w3 ⟨A3, c3, rfl, hown3, hbel3⟩; have z3 := hbel3.size)
      | (at_builtin; go_must (refine app_list rfl _ _ _ rfl elt_str ((w.heap.size + 1)) _ rfl ((own_below hown1 hbel3)) _ _ rfl ((Rd.of_own hown3)) (by first | rfl | exact sv_one _ | exact wv_one _) (by omega) (by omega) (by first | (simp; done) | (simp; omega) | omega) ?_); intro A4 c4 w4 hown4 hbel4 hgr4 hat4; have z4 := hbel4.size; (try simp only [World.size_alloc] at z4); (try simp only [Nat.zero_add, List.nil_append] at hown4)))
     have hk3 := iter_below hbel3 hk1
     have hk4 := iter_grown (own_below hown1 hbel3) hgr4 hk3
     have e1 : (1 + (catW (DJ ++ [X[j].toNat - 48])).length) = 1 + (catW DJ).length + NW.length := by
      rw [catW_snoc, List.length_append, hNW.out]; omega
     have e2 : sv (bDigits :: catW (DJ ++ [X[j].toNat - 48])) = sv (bDigits :: catW DJ) ++ sv NW := by
      rw [catW_snoc, hNW.out]; simp [sv]
     go_roundw
     case rel => exact ⟨A4, c4, j + 1, by omega, hk4, by rw [HDj.out, e1], by rw [HDj.out, e1, e2]; exact hown4, (hbel1.trans (hbel3.mono (by omega))).trans (hbel4.mono (by omega))⟩
     case measure =>
      rw [hmu.out, posN_at hk4]
      omega
    ·obtain rfl : j = T.length := by omega
     have hnext : ∀ ty, (Instr.next (.pointer (some ⟨w.heap.size + 2, 0, none⟩)) true ty).run Tryz.prog wr = _ := fun ty => Lib.run_next_end_at wr (w.heap.size + 2) X T.length ty hk (by omega)
     have e3 : RES.length = 1 + (catW (digT (T.take T.length))).length := by rw [HR.out, HTA.out]; simp; omega
     have e4 : sv RES = sv (bDigits :: catW (digT (T.take T.length))) := by rw [HR.out, HTA.out]
     go_wp2
     go_ret
     rw [e3, e4]
     exact ⟨A, c, rfl, own_less hown (by omega), hbel⟩
  ·skip
   go_enter Tryz.func108, Tryz.ntmps108
   go_upto_region 1 with fail
   refine wp_fg (fun wx => StBox wx r false sp p con k w.heap.size ∧ Below w.heap.size w wx ∧ wx.heap.size = w.heap.size + 1) ⟨StBox.new w r false sp p con k _, (Below.refl _ _).alloc (Nat.le_refl _) _, by simp⟩ ?_
   rintro wb ⟨⟨_, s1, _, _, _, _⟩, hb0, hz0⟩
   go_upto_region 3 with fail
   have hown0 : (wb.alloc (.cells #[.string ⟨#[100, 105, 103, 105, 116, 115]⟩] 9)).ownsRow (w.heap.size + 1) 9 1 (.slice (some ⟨wb.heap.size, 0, none⟩) 1 1) 1 (sv [bDigits]) := own_built (xs := sv [bDigits]) rfl rfl (by omega) (by omega)
   have hbe : Below w.heap.size w (wb.alloc (.cells #[.string ⟨#[100, 105, 103, 105, 116, 115]⟩] 9)) := hb0.alloc (by omega) _
   have hze : (wb.alloc (.cells #[.string ⟨#[100, 105, 103, 105, 116, 115]⟩] 9)).heap.size = w.heap.size + 2 := by simp; omega
   rw [hz0] at hown0
   (try simp only [hz0])
   generalize wb.alloc (.cells #[.string ⟨#[100, 105, 103, 105, 116, 115]⟩] 9) = wc at *
   go_wp2
   go_loopw [5] (fun v wr => ∃ (A : Option Addr) (c j : Nat), j ≤ T.length ∧ wr.heap[w.heap.size + 2]? = some (.stringIter X j) ∧ v = .slice A (1 + (catW (digT (T.take j))).length) c ∧ wr.ownsRow (w.heap.size + 1) 9 1 (.slice A (1 + (catW (digT (T.take j))).length) c) (1 + (catW (digT (T.take j))).length) (sv (bDigits :: catW (digT (T.take j)))) ∧ Below w.heap.size w wr) (fun _ wr => T.length - posN wr (w.heap.size + 2))
   case atStart => exact ⟨_, _, 0, Nat.zero_le _, by rw [← hze]; exact heap_alloc_new _ _, rfl, hown0.alloc _, hbe.alloc (by omega) _⟩
   case round =>
    obtain ⟨A, c, j, hj, hk, rfl, hown, hbel⟩ := hrel
    have hln := HLn.out j
    by_cases hlt : j < T.length
    ·have hjx : j < X.size := by omega
     have hx := HX.out j hlt hjx
     have hb := HB.out j hlt
     rw [← hx] at hb
     have HDj : Hid (digT (T.take (j + 1)) = digT (T.take j) ++ [X[j].toNat - 48]) := Lib.hid (by rw [hx]; exact HD.out j hlt)
     have hnext : ∀ ty, (Instr.next (.pointer (some ⟨w.heap.size + 2, 0, none⟩)) true ty).run Tryz.prog wr = _ := fun ty => Lib.run_next_ascii_at wr (w.heap.size + 2) X j ty hk hjx (by omega)
     have hmu := Lib.hid (posN_at hk)
     have hk1 := Lib.iterAt_heap wr (w.heap.size + 2) X j (j + 1) hk
     have hown1 := own_iterAt (q' := j + 1) hown hk
     have hbel1 := Lib.below_iterAt hbel (k := w.heap.size + 2) (by omega) X (j + 1)
     have hzk : w.heap.size + 2 < (wr.iterAt (w.heap.size + 2) X (j + 1)).heap.size := by
      rcases Nat.lt_or_ge (w.heap.size + 2) (wr.iterAt (w.heap.size + 2) X (j + 1)).heap.size with h | h
      ·exact h
      ·rw [Array.getElem?_eq_none h] at hk1; cases hk1
     have HNj : Hid (∀ w, Calls Tryz.prog 111 #[.int .i64 ((X[j].toNat : Int) - 48)] w (GivesOwn 9 1 id w (numW (X[j].toNat - 48)).length (sv (numW (X[j].toNat - 48))))) := Lib.hid fun w => by
      have h := HNW.out (X[j].toNat - 48) (by omega) w
      rwa [show ((X[j].toNat - 48 : Nat) : Int) = (X[j].toNat : Int) - 48 by omega] at h
     have hnl := numW_len (X[j].toNat - 48)
     clear hown hbel hx hk
     generalize wr.iterAt (w.heap.size + 2) X (j + 1) = W1 at *
     generalize digT (T.take j) = DJ at *
     generalize hNW : numW (X[j].toNat - 48) = NW at *
     replace hNW := Lib.hid hNW
     go_wp2_with (first
      | (go_at_call 111; refine (HNj.out _).mono ?_; rintro e w3 ⟨A3, c3, rfl, hown3, hbel3⟩; have z3 := hbel3.size)
      | (at_builtin; go_must (refine app_list rfl _ _ _ rfl elt_str ((w.heap.size + 1)) _ rfl ((own_below hown1 hbel3)) _ _ rfl ((Rd.of_own hown3)) (by first | rfl | exact sv_one _ | exact wv_one _) (by omega) (by omega) (by first | (simp; done) | (simp; omega) | omega) ?_); intro A4 c4 w4 hown4 hbel4 hgr4 hat4; have z4 := hbel4.size; (try simp only [World.size_alloc] at z4); (try simp only [Nat.zero_add, List.nil_append] at hown4)))
     have hk3 := iter_below hbel3 hk1
     have hk4 := iter_grown (own_below hown1 hbel3) hgr4 hk3
     have e1 : (1 + (catW (DJ ++ [X[j].toNat - 48])).length) = 1 + (catW DJ).length + NW.length := by
      rw [catW_snoc, List.length_append, hNW.out]; omega
     have e2 : sv (bDigits :: catW (DJ ++ [X[j].toNat - 48])) = sv (bDigits :: catW DJ) ++ sv NW := by
      rw [catW_snoc, hNW.out]; simp [sv]
     go_roundw
     case rel => exact ⟨A4, c4, j + 1, by omega, hk4, by rw [HDj.out, e1], by rw [HDj.out, e1, e2]; exact hown4, (hbel1.trans (hbel3.mono (by omega))).trans (hbel4.mono (by omega))⟩
     case measure =>
      rw [hmu.out, posN_at hk4]
      omega
    ·obtain rfl : j = T.length := by omega
     have hnext : ∀ ty, (Instr.next (.pointer (some ⟨w.heap.size + 2, 0, none⟩)) true ty).run Tryz.prog wr = _ := fun ty => Lib.run_next_end_at wr (w.heap.size + 2) X T.length ty hk (by omega)
     have e3 : RES.length = 1 + (catW (digT (T.take T.length))).length := by rw [HR.out, HTA.out]; simp; omega
     have e4 : sv RES = sv (bDigits :: catW (digT (T.take T.length))) := by rw [HR.out, HTA.out]
     go_wp2
     go_ret
     rw [e3, e4]
     exact ⟨A, c, rfl, own_less hown (by omega), hbel⟩
  ·have h48 : (((X[0]'(by omega)).toNat : Int) == 48) = true := beq_iff_eq.2 (by omega)
   go_enter Tryz.func108, Tryz.ntmps108
   go_upto_region 1 with fail
   refine wp_fg (fun wx => StBox wx r false sp p con k w.heap.size ∧ Below w.heap.size w wx ∧ wx.heap.size = w.heap.size + 1) ⟨StBox.new w r false sp p con k _, (Below.refl _ _).alloc (Nat.le_refl _) _, by simp⟩ ?_
   rintro wb ⟨⟨_, s1, _, _, _, _⟩, hb0, hz0⟩
   go_upto_region 3 with fail
   have hown0 : (wb.alloc (.cells #[.string ⟨#[100, 105, 103, 105, 116, 115]⟩] 9)).ownsRow (w.heap.size + 1) 9 1 (.slice (some ⟨wb.heap.size, 0, none⟩) 1 1) 1 (sv [bDigits]) := own_built (xs := sv [bDigits]) rfl rfl (by omega) (by omega)
   have hbe : Below w.heap.size w (wb.alloc (.cells #[.string ⟨#[100, 105, 103, 105, 116, 115]⟩] 9)) := hb0.alloc (by omega) _
   have hze : (wb.alloc (.cells #[.string ⟨#[100, 105, 103, 105, 116, 115]⟩] 9)).heap.size = w.heap.size + 2 := by simp; omega
   rw [hz0] at hown0
   (try simp only [hz0])
   generalize wb.alloc (.cells #[.string ⟨#[100, 105, 103, 105, 116, 115]⟩] 9) = wc at *
   go_wp2
   go_loopw [5] (fun v wr => ∃ (A : Option Addr) (c j : Nat), j ≤ T.length ∧ wr.heap[w.heap.size + 2]? = some (.stringIter X j) ∧ v = .slice A (1 + (catW (digT (T.take j))).length) c ∧ wr.ownsRow (w.heap.size + 1) 9 1 (.slice A (1 + (catW (digT (T.take j))).length) c) (1 + (catW (digT (T.take j))).length) (sv (bDigits :: catW (digT (T.take j)))) ∧ Below w.heap.size w wr) (fun _ wr => T.length - posN wr (w.heap.size + 2))
   case atStart => exact ⟨_, _, 0, Nat.zero_le _, by rw [← hze]; exact heap_alloc_new _ _, rfl, hown0.alloc _, hbe.alloc (by omega) _⟩
   case round =>
    obtain ⟨A, c, j, hj, hk, rfl, hown, hbel⟩ := hrel
    have hln := HLn.out j
    by_cases hlt : j < T.length
    ·have hjx : j < X.size := by omega
     have hx := HX.out j hlt hjx
     have hb := HB.out j hlt
     rw [← hx] at hb
     have HDj : Hid (digT (T.take (j + 1)) = digT (T.take j) ++ [X[j].toNat - 48]) := Lib.hid (by rw [hx]; exact HD.out j hlt)
     have hnext : ∀ ty, (Instr.next (.pointer (some ⟨w.heap.size + 2, 0, none⟩)) true ty).run Tryz.prog wr = _ := fun ty => Lib.run_next_ascii_at wr (w.heap.size + 2) X j ty hk hjx (by omega)
     have hmu := Lib.hid (posN_at hk)
     have hk1 := Lib.iterAt_heap wr (w.heap.size + 2) X j (j + 1) hk
     have hown1 := own_iterAt (q' := j + 1) hown hk
     have hbel1 := Lib.below_iterAt hbel (k := w.heap.size + 2) (by omega) X (j + 1)
     have hzk : w.heap.size + 2 < (wr.iterAt (w.heap.size + 2) X (j + 1)).heap.size := by
      rcases Nat.lt_or_ge (w.heap.size + 2) (wr.iterAt (w.heap.size + 2) X (j + 1)).heap.size with h | h
      ·exact h
      ·rw [Array.getElem?_eq_none h] at hk1; cases hk1
     have HNj : Hid (∀ w, Calls Tryz.prog 111 #[.int .i64 ((X[j].toNat : Int) - 48)] w (GivesOwn 9 1 id w (numW (X[j].toNat - 48)).length (sv (numW (X[j].toNat - 48))))) := Lib.hid fun w => by
      have h := HNW.out (X[j].toNat - 48) (by omega) w
      rwa [show ((X[j].toNat - 48 : Nat) : Int) = (X[j].toNat : Int) - 48 by omega] at h
     have hnl := numW_len (X[j].toNat - 48)
     clear hown hbel hx hk
     generalize wr.iterAt (w.heap.size + 2) X (j + 1) = W1 at *
     generalize digT (T.take j) = DJ at *
     generalize hNW : numW (X[j].toNat - 48) = NW at *
     replace hNW := Lib.hid hNW
     go_wp2_with (first
      | (go_at_call 111; refine (HNj.out _).mono ?_; rintro e w3 ⟨A3, c3, rfl, hown3, hbel3⟩; have z3 := hbel3.size)
      | (at_builtin; go_must (refine app_list rfl _ _ _ rfl elt_str ((w.heap.size + 1)) _ rfl ((own_below hown1 hbel3)) _ _ rfl ((Rd.of_own hown3)) (by first | rfl | exact sv_one _ | exact wv_one _) (by omega) (by omega) (by first | (simp; done) | (simp; omega) | omega) ?_); intro A4 c4 w4 hown4 hbel4 hgr4 hat4; have z4 := hbel4.size; (try simp only [World.size_alloc] at z4); (try simp only [Nat.zero_add, List.nil_append] at hown4)))
     have hk3 := iter_below hbel3 hk1
     have hk4 := iter_grown (own_below hown1 hbel3) hgr4 hk3
     have e1 : (1 + (catW (DJ ++ [X[j].toNat - 48])).length) = 1 + (catW DJ).length + NW.length := by
      rw [catW_snoc, List.length_append, hNW.out]; omega
     have e2 : sv (bDigits :: catW (DJ ++ [X[j].toNat - 48])) = sv (bDigits :: catW DJ) ++ sv NW := by
      rw [catW_snoc, hNW.out]; simp [sv]
     go_roundw
     case rel => exact ⟨A4, c4, j + 1, by omega, hk4, by rw [HDj.out, e1], by rw [HDj.out, e1, e2]; exact hown4, (hbel1.trans (hbel3.mono (by omega))).trans (hbel4.mono (by omega))⟩
     case measure =>
      rw [hmu.out, posN_at hk4]
      omega
    ·obtain rfl : j = T.length := by omega
     have hnext : ∀ ty, (Instr.next (.pointer (some ⟨w.heap.size + 2, 0, none⟩)) true ty).run Tryz.prog wr = _ := fun ty => Lib.run_next_end_at wr (w.heap.size + 2) X T.length ty hk (by omega)
     have e3 : RES.length = 1 + (catW (digT (T.take T.length))).length := by rw [HR.out, HTA.out]; simp; omega
     have e4 : sv RES = sv (bDigits :: catW (digT (T.take T.length))) := by rw [HR.out, HTA.out]
     go_wp2
     go_ret
     rw [e3, e4]
     exact ⟨A, c, rfl, own_less hown (by omega), hbel⟩
 ·obtain ⟨RES, hRES⟩ : ∃ x, x = digitsT T d := ⟨_, rfl⟩
  rw [← hRES]
  have HR : Hid (RES = numW (numL (digT T))) := Lib.hid (by rw [hRES, digitsT, if_neg hcond])
  clear hRES HLn
  have HLn : Hid (∀ j, numL (digT (T.take j)) ≤ 999999999) := Lib.hid fun j => by
   have h9 : T.length ≤ 9 := by
    rcases Nat.lt_or_ge 9 T.length with h | h
    ·exact absurd (.inr (.inl h)) hcond
    ·exact h
   have h1 := numL_lt (digT (T.take j)) (fun x hx => by
    unfold digT at hx
    obtain ⟨c, hc, rfl⟩ := List.mem_map.1 hx
    have := hT c (List.mem_of_mem_take hc)
    omega)
   have h2 : (digT (T.take j)).length ≤ 9 := by unfold digT; rw [List.length_map, List.length_take]; omega
   have h3 : 10 ^ (digT (T.take j)).length ≤ 10 ^ 9 := Nat.pow_le_pow_right (by omega) h2
   omega
  rw [hd0] at hcond
  have hX0 : 0 < X.size := by omega
  have hx0 := HX.out 0 h0 (by omega)
  have hb0 := HB.out 0 h0
  have hc2 : d = false ∧ ¬ 9 < X.size ∧ (X.size = 1 ∨ (1 < X.size ∧ (X[0]'hX0).toNat ≠ 48)) := by
   rw [not_or, not_or] at hcond
   obtain ⟨q1, q2, q3⟩ := hcond
   refine ⟨by simpa using q1, by omega, ?_⟩
   by_cases h1 : 1 < T.length
   ·exact .inr ⟨by omega, fun e => q3 ⟨h1, by rw [hx0] at e; omega⟩⟩
   ·exact .inl (by omega)
  clear hcond hd0 hx0 hb0 hXT hT
  obtain ⟨rfl, h9, hc3⟩ := hc2
  rcases hc3 with h1 | ⟨h1, hx48⟩
  ·have h1' : ¬ 1 < X.size := by omega
   go_enter Tryz.func108, Tryz.ntmps108
   go_upto_region 1 with fail
   refine wp_fg (fun wx => StBox wx r false sp p con k w.heap.size ∧ Below w.heap.size w wx ∧ wx.heap.size = w.heap.size + 1) ⟨StBox.new w r false sp p con k _, (Below.refl _ _).alloc (Nat.le_refl _) _, by simp⟩ ?_
   rintro wb ⟨⟨_, s1, _, _, _, _⟩, hb0, hz0⟩
   go_wp2
   go_loopw [8] (fun v wr => ∃ (j : Nat), j ≤ T.length ∧ wr.heap[w.heap.size + 1]? = some (.stringIter X j) ∧ v = .int .i64 (numL (digT (T.take j)) : Nat) ∧ Below w.heap.size w wr) (fun _ wr => T.length - posN wr (w.heap.size + 1))
   case atStart => exact ⟨0, Nat.zero_le _, by rw [← hz0]; exact heap_alloc_new _ _, rfl, hb0.alloc (by omega) _⟩
   case round =>
    obtain ⟨j, hj, hk, rfl, hbel⟩ := hrel
    have hln := HLn.out j
    by_cases hlt : j < T.length
    ·have hjx : j < X.size := by omega
     have hx := HX.out j hlt hjx
     have hb := HB.out j hlt
     rw [← hx] at hb
     have HDj : Hid (numL (digT (T.take (j + 1))) = 10 * numL (digT (T.take j)) + (X[j].toNat - 48)) := Lib.hid (by rw [hx, HD.out j hlt, numL_snoc])
     have hnext : ∀ ty, (Instr.next (.pointer (some ⟨w.heap.size + 1, 0, none⟩)) true ty).run Tryz.prog wr = _ := fun ty => Lib.run_next_ascii_at wr (w.heap.size + 1) X j ty hk hjx (by omega)
     have hmu := Lib.hid (posN_at hk)
     have hk1 := Lib.iterAt_heap wr (w.heap.size + 1) X j (j + 1) hk
     have hbel1 := Lib.below_iterAt hbel (k := w.heap.size + 1) (by omega) X (j + 1)
     clear hbel hx hk
     generalize wr.iterAt (w.heap.size + 1) X (j + 1) = W1 at *
     generalize numL (digT (T.take j)) = N at *
     go_wp2
     go_roundw
     case rel => exact ⟨j + 1, by omega, hk1, by rw [HDj.out]; go_num, hbel1⟩
     case measure =>
      rw [hmu.out, posN_at hk1]
      omega
    ·obtain rfl : j = T.length := by omega
     have hnext : ∀ ty, (Instr.next (.pointer (some ⟨w.heap.size + 1, 0, none⟩)) true ty).run Tryz.prog wr = _ := fun ty => Lib.run_next_end_at wr (w.heap.size + 1) X T.length ty hk (by omega)
     rw [HTA.out] at hln ⊢
     have HNj := Lib.hid (HNW.out (numL (digT T)) (by omega))
     generalize numL (digT T) = N at *
     generalize numW N = NW at *
     go_wp2_with (go_at_call 111; refine (HNj.out _).mono ?_; rintro e w3 ⟨A3, c3, rfl, hown3, hbel3⟩; have z3 := hbel3.size)
     go_ret
     rw [HR.out]
     exact ⟨A3, c3, rfl, own_less hown3 hbel.size, hbel.trans (hbel3.mono hbel.size)⟩
  ·have h48 : (((X[0]'hX0).toNat : Int) == 48) = false := beq_eq_false_iff_ne.2 (by omega)
   go_enter Tryz.func108, Tryz.ntmps108
   go_upto_region 1 with fail
   refine wp_fg (fun wx => StBox wx r false sp p con k w.heap.size ∧ Below w.heap.size w wx ∧ wx.heap.size = w.heap.size + 1) ⟨StBox.new w r false sp p con k _, (Below.refl _ _).alloc (Nat.le_refl _) _, by simp⟩ ?_
   rintro wb ⟨⟨_, s1, _, _, _, _⟩, hb0, hz0⟩
   go_wp2
   go_loopw [8] (fun v wr => ∃ (j : Nat), j ≤ T.length ∧ wr.heap[w.heap.size + 1]? = some (.stringIter X j) ∧ v = .int .i64 (numL (digT (T.take j)) : Nat) ∧ Below w.heap.size w wr) (fun _ wr => T.length - posN wr (w.heap.size + 1))
   case atStart => exact ⟨0, Nat.zero_le _, by rw [← hz0]; exact heap_alloc_new _ _, rfl, hb0.alloc (by omega) _⟩
   case round =>
    obtain ⟨j, hj, hk, rfl, hbel⟩ := hrel
    have hln := HLn.out j
    by_cases hlt : j < T.length
    ·have hjx : j < X.size := by omega
     have hx := HX.out j hlt hjx
     have hb := HB.out j hlt
     rw [← hx] at hb
     have HDj : Hid (numL (digT (T.take (j + 1))) = 10 * numL (digT (T.take j)) + (X[j].toNat - 48)) := Lib.hid (by rw [hx, HD.out j hlt, numL_snoc])
     have hnext : ∀ ty, (Instr.next (.pointer (some ⟨w.heap.size + 1, 0, none⟩)) true ty).run Tryz.prog wr = _ := fun ty => Lib.run_next_ascii_at wr (w.heap.size + 1) X j ty hk hjx (by omega)
     have hmu := Lib.hid (posN_at hk)
     have hk1 := Lib.iterAt_heap wr (w.heap.size + 1) X j (j + 1) hk
     have hbel1 := Lib.below_iterAt hbel (k := w.heap.size + 1) (by omega) X (j + 1)
     clear hbel hx hk
     generalize wr.iterAt (w.heap.size + 1) X (j + 1) = W1 at *
     generalize numL (digT (T.take j)) = N at *
     go_wp2
     go_roundw
     case rel => exact ⟨j + 1, by omega, hk1, by rw [HDj.out]; go_num, hbel1⟩
     case measure =>
      rw [hmu.out, posN_at hk1]
      omega
    ·obtain rfl : j = T.length := by omega
     have hnext : ∀ ty, (Instr.next (.pointer (some ⟨w.heap.size + 1, 0, none⟩)) true ty).run Tryz.prog wr = _ := fun ty => Lib.run_next_end_at wr (w.heap.size + 1) X T.length ty hk (by omega)
     rw [HTA.out] at hln ⊢
     have HNj := Lib.hid (HNW.out (numL (digT T)) (by omega))
     generalize numL (digT T) = N at *
     generalize numW N = NW at *
     go_wp2_with (go_at_call 111; refine (HNj.out _).mono ?_; rintro e w3 ⟨A3, c3, rfl, hown3, hbel3⟩; have z3 := hbel3.size)
     go_ret
     rw [HR.out]
     exact ⟨A3, c3, rfl, own_less hown3 hbel.size, hbel.trans (hbel3.mono hbel.size)⟩
end Go.Proofs.YtejjfiipghcifaaGreatDoor
