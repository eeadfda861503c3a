/- Joined: Dg1. -/
import Derived.Test.YtlndbiamiioakaaGreatDoorVAI
set_option linter.unusedVariables false
set_option linter.unusedSimpArgs false
set_option linter.unnecessarySimpa false
set_option maxHeartbeats 4000000
namespace Go.Proofs.YtlndbiamiioakaaGreatDoor
open Go.Proofs.Tryz Go.RowKit
set_option maxRecDepth 20000
def zi (T : List UInt8) : List Nat := T.map fun c => c.toNat - 48
def vN (D : List Nat) : List ByteArray := D.flatMap jm
theorem yy (D : List Nat) (d : Nat) : vN (D ++ [d]) = vN D ++ jm d := by
 unfold vN
 rw [List.flatMap_append]
 simp only [List.flatMap_cons, List.flatMap_nil, List.append_nil]
def jt (T : List UInt8) (dig : Bool) : List ByteArray :=
 if dig = true ∨ 9 < T.length ∨ (1 < T.length /\ (zi T).headD 1 = 0) then qI :: vN (zi T) else jm (yM (zi T))
theorem ye (n : Nat) : (jm n).length <= 16 := by
 unfold jm
 rw [List.length_map]
 have := jD (n : Int)
 omega
theorem qdh (l : List Nat) (d : Nat) : yM (l ++ [d]) = 10 * yM l + d := by
 unfold yM
 rw [List.foldl_append]
 rfl
theorem qgf (l : List Nat) (h : ∀ d ∈ l, d < 10) : yM l < 10 ^ l.length := by
 have e : ∀ (l : List Nat), (∀ d ∈ l, d < 10) -> ∀ a, l.foldl (fun n d => 10 * n + d) a < (a + 1) * 10 ^ l.length := by
  intro l
  induction l with
  | nil => intro _ a; simp
  | cons d t ih =>
   intro h a
   have h1 := h d (by simp)
   have h2 := ih (fun x hx => h x (by simp [hx])) (10 * a + d)
   rw [List.length_cons, Nat.pow_succ]
   show List.foldl _ (10 * a + d) t < _
   have : (10 * a + d + 1) * 10 ^ t.length <= (a + 1) * 10 * 10 ^ t.length := Nat.mul_le_mul_right _ (by omega)
   have e2 : (a + 1) * 10 * 10 ^ t.length = (a + 1) * (10 ^ t.length * 10) := by rw [Nat.mul_assoc, Nat.mul_comm 10]
   omega
 have := e l h 0
 unfold yM
 omega
theorem qg6 {T : List UInt8} {j : Nat} (h : j < T.length) : zi (T.take (j + 1)) = zi (T.take j) ++ [T[j].toNat - 48] := by
 have e : T.take (j + 1) = T.take j ++ [T[j]] := (List.take_append_getElem h).symm
 unfold zi
 rw [e, List.map_append]
 rfl
theorem qas {w : World} {base size n k q q' : Nat} {s : ByteArray} {e : TypeId} {v : Value} {xs : List Value} (h : w.ownsRow base e size v n xs) (hk : w.heap[k]? = some (.stringIter s q)) : (w.iterAt k s q').ownsRow base e size v n xs := by
 refine ⟨h.1, ?_⟩
 rcases h.2 with h0 | ⟨g, cap, cur, rfl, h1, h2, h3⟩
 ·exact .inl h0
 ·refine .inr ⟨g, cap, cur, rfl, h1, ?_, h3⟩
  have hne : k ≠ g := by
   rintro rfl
   rw [hk] at h2
   cases h2
  show (w.heap.setIfInBounds k _)[g]? = _
  rw [Array.getElem?_setIfInBounds_ne hne]
  exact h2
theorem qax {w w' : World} {base size n k q : Nat} {s : ByteArray} {e : TypeId} {v : Value} {xs : List Value} (h : w.ownsRow base e size v n xs) (hg : w.grownBy w' v.ownBlock) (hk : w.heap[k]? = some (.stringIter s q)) : w'.heap[k]? = some (.stringIter s q) := by
 have hl : k < w.heap.size := by
  rcases Nat.lt_or_ge k w.heap.size with h | h
  ·exact h
  ·rw [Array.getElem?_eq_none h] at hk; cases hk
 refine (hg.block k hl ?_).trans hk
 rcases h.2 with ⟨rfl, _⟩ | ⟨g, cap, cur, rfl, h1, h2, h3⟩
 ·simp [Value.ownBlock]
 ·intro e
  simp only [Value.ownBlock, Option.some.injEq] at e
  subst e
  rw [hk] at h2
  cases h2
theorem qaC {w w' : World} {k q : Nat} {s : ByteArray} (hb : Below w.heap.size w w') (hk : w.heap[k]? = some (.stringIter s q)) : w'.heap[k]? = some (.stringIter s q) := by
 have hl : k < w.heap.size := by
  rcases Nat.lt_or_ge k w.heap.size with h | h
  ·exact h
  ·rw [Array.getElem?_eq_none h] at hk; cases hk
 exact (hb.block k hl).trans hk
def posN (w : World) (k : Nat) : Nat := w.iterPos k
theorem yb {w : World} {k q : Nat} {s : ByteArray} (hk : w.heap[k]? = some (.stringIter s q)) : posN w k = q := by simp [posN, World.iterPos, hk]
theorem digits_ (X : ByteArray) (T : List UInt8) (hXT : X.data.toList = T) (hT : ∀ c ∈ T, 48 <= c.toNat /\ c.toNat <= 57) (hl : T.length <= 1000000) (h0 : 0 < T.length) (r : Int) (d sp : Bool) (p : Int) (con : Bool) (k : Int) (w : World) :
  Calls prog 97 #[.string X, stV r d sp p con k] w (ql 9 1 id w (jt T d).length (sv (jt T d))) := by
 have hsz : X.size = T.length := by rw [<- hXT]; simp
 have HX : Hid (∀ (j : Nat) (h : j < T.length) (h2 : j < X.size), X[j] = T[j]) := Lh fun j h h2 => by subst hXT; rfl
 have HB : Hid (∀ (j : Nat) (h : j < T.length), 48 <= T[j].toNat /\ T[j].toNat <= 57) := Lh fun j h => hT _ (List.getElem_mem h)
 have HD : Hid (∀ (j : Nat) (h : j < T.length), zi (T.take (j + 1)) = zi (T.take j) ++ [T[j].toNat - 48]) := Lh fun j h => qg6 h
 have HTA : Hid (T.take T.length = T) := Lh List.take_length
 have HLn : Hid (∀ j, (vN (zi (T.take j))).length <= 16 * j) := Lh fun j => by
  unfold vN
  have e : ∀ l : List Nat, (l.flatMap jm).length <= 16 * l.length := by
   intro l
   induction l with
   | nil => simp
   | cons a t ih =>
    have := ye a
    simp only [List.flatMap_cons, List.length_append, List.length_cons]
    omega
  have h1 := e (zi (T.take j))
  have h2 : (zi (T.take j)).length <= j := by unfold zi; rw [List.length_map, List.length_take]; omega
  omega
 have HNW := Lh qeE
 have hd0 : (zi T).headD 1 = T[0].toNat - 48 := by
  cases T with
  | nil => cases h0
  | cons c t => rfl
 by_cases hcond : d = true ∨ 9 < T.length ∨ (1 < T.length /\ (zi T).headD 1 = 0)
 ·obtain ⟨RES, qih⟩ : ∃ x, x = jt T d := ⟨_, rfl⟩
  rw [<- qih]
  have HR : Hid (RES = qI :: vN (zi T)) := Lh (by rw [qih, jt, if_pos hcond])
  clear qih
  rw [hd0] at hcond
  have hx0 := HX.out 0 h0 (by omega)
  have hb0 := HB.out 0 h0
  have hc2 : d = true ∨ (d = false /\ 9 < X.size) ∨ (d = false /\ ¬ 9 < X.size /\ 1 < X.size /\ (X[0]'(by omega)).toNat = 48) := by
   cases d with
   | true => exact .inl rfl
   | false =>
    rcases hcond with h | h | ⟨h, h'⟩
    ·cases h
    ·exact .inr (.inl ⟨rfl, by omega⟩)
    ·by_cases h9 : 9 < X.size
     ·exact .inr (.inl ⟨rfl, h9⟩)
     ·exact .inr (.inr ⟨rfl, h9, by omega, by rw [hx0]; omega⟩)
  clear hcond hd0 hx0 hb0 hXT hT
  rcases hc2 with rfl | ⟨rfl, h9⟩ | ⟨rfl, h9, h1, hx48⟩
  ·skip
   go_enter func97, ntmps97
   go_upto_region 1 with fail
   refine qc (fun wx => StBox wx r true sp p con k w.heap.size /\ Below w.heap.size w wx /\ wx.heap.size = w.heap.size + 1) ⟨StBox.new w r true sp p con k _, (Below.refl _ _).alloc (Nat.le_refl _) _, by simp⟩ ?_
   rintro wb ⟨⟨_, s1, _, _, _, _⟩, hb0, hz0⟩
   go_upto_region 3 with fail
   have hown0 : (wb.alloc (.cells #[.string ⟨#[100, 105, 103, 105, 116, 115]⟩] 9)).ownsRow (w.heap.size + 1) 9 1 (.slice (some ⟨wb.heap.size, 0, none⟩) 1 1) 1 (sv [qI]) := qR (xs := sv [qI]) rfl rfl (by omega) (by omega)
   have hbe : Below w.heap.size w (wb.alloc (.cells #[.string ⟨#[100, 105, 103, 105, 116, 115]⟩] 9)) := hb0.alloc (by omega) _
   have hze : (wb.alloc (.cells #[.string ⟨#[100, 105, 103, 105, 116, 115]⟩] 9)).heap.size = w.heap.size + 2 := by simp; omega
   rw [hz0] at hown0
   (try simp only [hz0])
   generalize wb.alloc (.cells #[.string ⟨#[100, 105, 103, 105, 116, 115]⟩] 9) = wc at *
   go_wp2
   go_loopw [5] (fun v wr => ∃ (A : Option Addr) (c j : Nat), j <= T.length /\ wr.heap[w.heap.size + 2]? = some (.stringIter X j) /\ v = .slice A (1 + (vN (zi (T.take j))).length) c /\ wr.ownsRow (w.heap.size + 1) 9 1 (.slice A (1 + (vN (zi (T.take j))).length) c) (1 + (vN (zi (T.take j))).length) (sv (qI :: vN (zi (T.take j)))) /\ Below w.heap.size w wr) (fun _ wr => T.length - posN wr (w.heap.size + 2))
   case atStart => exact ⟨_, _, 0, Nat.zero_le _, by rw [<- hze]; exact heap_alloc_new _ _, rfl, hown0.alloc _, hbe.alloc (by omega) _⟩
   case round =>
    obtain ⟨A, c, j, hj, hk, rfl, hown, hbel⟩ := hrel
    have hln := HLn.out j
    by_cases hlt : j < T.length
    ·have hjx : j < X.size := by omega
     have hx := HX.out j hlt hjx
     have hb := HB.out j hlt
     rw [<- hx] at hb
     have HDj : Hid (zi (T.take (j + 1)) = zi (T.take j) ++ [X[j].toNat - 48]) := Lh (by rw [hx]; exact HD.out j hlt)
     have hnext : ∀ ty, (Instr.next (.pointer (some ⟨w.heap.size + 2, 0, none⟩)) true ty).run prog wr = _ := fun ty => Lib.run_next_ascii_at wr (w.heap.size + 2) X j ty hk hjx (by omega)
     have hmu := Lh (yb hk)
     have hk1 := Lib.iterAt_heap wr (w.heap.size + 2) X j (j + 1) hk
     have hown1 := qas (q' := j + 1) hown hk
     have qh7 := Lib.below_iterAt hbel (k := w.heap.size + 2) (by omega) X (j + 1)
     have hzk : w.heap.size + 2 < (wr.iterAt (w.heap.size + 2) X (j + 1)).heap.size := by
      rcases Nat.lt_or_ge (w.heap.size + 2) (wr.iterAt (w.heap.size + 2) X (j + 1)).heap.size with h | h
      ·exact h
      ·rw [Array.getElem?_eq_none h] at hk1; cases hk1
     have HNj : Hid (∀ w, Calls prog 100 #[.int .i64 ((X[j].toNat : Int) - 48)] w (ql 9 1 id w (jm (X[j].toNat - 48)).length (sv (jm (X[j].toNat - 48))))) := Lh fun w => by
      have h := HNW.out (X[j].toNat - 48) (by omega) w
      rwa [show ((X[j].toNat - 48 : Nat) : Int) = (X[j].toNat : Int) - 48 by omega] at h
     have hnl := ye (X[j].toNat - 48)
     clear hown hbel hx hk
     generalize wr.iterAt (w.heap.size + 2) X (j + 1) = W1 at *
     generalize zi (T.take j) = DJ at *
     generalize hNW : jm (X[j].toNat - 48) = NW at *
     replace hNW := Lh hNW
     go_wp2_with (first
      | (go_at_call 100; refine (HNj.out _).mono ?_; rintro e w3 ⟨A3, c3, rfl, hown3, qh9⟩; have z3 := qh9.size)
      | (at_builtin; go_must (refine qh rfl _ _ _ rfl qx ((w.heap.size + 1)) _ rfl ((qa hown1 qh9)) _ _ rfl ((Rd.of_own hown3)) (by first | rfl | exact qN _ | exact qO _) (by omega) (by omega) (by first | (simp; done) | (simp; omega) | omega) ?_); intro A4 c4 w4 qie qia qii qik; have z4 := qia.size; (try simp only [World.size_alloc] at z4); (try simp only [Nat.zero_add, List.nil_append] at qie)))
     have hk3 := qaC qh9 hk1
     have hk4 := qax (qa hown1 qh9) qii hk3
     have e1 : (1 + (vN (DJ ++ [X[j].toNat - 48])).length) = 1 + (vN DJ).length + NW.length := by
      rw [yy, List.length_append, hNW.out]; omega
     have e2 : sv (qI :: vN (DJ ++ [X[j].toNat - 48])) = sv (qI :: vN DJ) ++ sv NW := by
      rw [yy, hNW.out]; simp [sv]
     go_roundw
     case rel => exact ⟨A4, c4, j + 1, by omega, hk4, by rw [HDj.out, e1], by rw [HDj.out, e1, e2]; exact qie, (qh7.trans (qh9.mono (by omega))).trans (qia.mono (by omega))⟩
     case measure =>
      rw [hmu.out, yb hk4]
      omega
    ·obtain rfl : j = T.length := by omega
     have hnext : ∀ ty, (Instr.next (.pointer (some ⟨w.heap.size + 2, 0, none⟩)) true ty).run prog wr = _ := fun ty => Lib.run_next_end_at wr (w.heap.size + 2) X T.length ty hk (by omega)
     have e3 : RES.length = 1 + (vN (zi (T.take T.length))).length := by rw [HR.out, HTA.out]; simp; omega
     have e4 : sv RES = sv (qI :: vN (zi (T.take T.length))) := by rw [HR.out, HTA.out]
     go_wp2
     go_ret
     rw [e3, e4]
     exact ⟨A, c, rfl, qq hown (by omega), hbel⟩
  ·skip
   go_enter func97, ntmps97
   go_upto_region 1 with fail
   refine qc (fun wx => StBox wx r false sp p con k w.heap.size /\ Below w.heap.size w wx /\ wx.heap.size = w.heap.size + 1) ⟨StBox.new w r false sp p con k _, (Below.refl _ _).alloc (Nat.le_refl _) _, by simp⟩ ?_
   rintro wb ⟨⟨_, s1, _, _, _, _⟩, hb0, hz0⟩
   go_upto_region 3 with fail
   have hown0 : (wb.alloc (.cells #[.string ⟨#[100, 105, 103, 105, 116, 115]⟩] 9)).ownsRow (w.heap.size + 1) 9 1 (.slice (some ⟨wb.heap.size, 0, none⟩) 1 1) 1 (sv [qI]) := qR (xs := sv [qI]) rfl rfl (by omega) (by omega)
   have hbe : Below w.heap.size w (wb.alloc (.cells #[.string ⟨#[100, 105, 103, 105, 116, 115]⟩] 9)) := hb0.alloc (by omega) _
   have hze : (wb.alloc (.cells #[.string ⟨#[100, 105, 103, 105, 116, 115]⟩] 9)).heap.size = w.heap.size + 2 := by simp; omega
   rw [hz0] at hown0
   (try simp only [hz0])
   generalize wb.alloc (.cells #[.string ⟨#[100, 105, 103, 105, 116, 115]⟩] 9) = wc at *
   go_wp2
   go_loopw [5] (fun v wr => ∃ (A : Option Addr) (c j : Nat), j <= T.length /\ wr.heap[w.heap.size + 2]? = some (.stringIter X j) /\ v = .slice A (1 + (vN (zi (T.take j))).length) c /\ wr.ownsRow (w.heap.size + 1) 9 1 (.slice A (1 + (vN (zi (T.take j))).length) c) (1 + (vN (zi (T.take j))).length) (sv (qI :: vN (zi (T.take j)))) /\ Below w.heap.size w wr) (fun _ wr => T.length - posN wr (w.heap.size + 2))
   case atStart => exact ⟨_, _, 0, Nat.zero_le _, by rw [<- hze]; exact heap_alloc_new _ _, rfl, hown0.alloc _, hbe.alloc (by omega) _⟩
   case round =>
    obtain ⟨A, c, j, hj, hk, rfl, hown, hbel⟩ := hrel
    have hln := HLn.out j
    by_cases hlt : j < T.length
    ·have hjx : j < X.size := by omega
     have hx := HX.out j hlt hjx
     have hb := HB.out j hlt
     rw [<- hx] at hb
     have HDj : Hid (zi (T.take (j + 1)) = zi (T.take j) ++ [X[j].toNat - 48]) := Lh (by rw [hx]; exact HD.out j hlt)
     have hnext : ∀ ty, (Instr.next (.pointer (some ⟨w.heap.size + 2, 0, none⟩)) true ty).run prog wr = _ := fun ty => Lib.run_next_ascii_at wr (w.heap.size + 2) X j ty hk hjx (by omega)
     have hmu := Lh (yb hk)
     have hk1 := Lib.iterAt_heap wr (w.heap.size + 2) X j (j + 1) hk
     have hown1 := qas (q' := j + 1) hown hk
     have qh7 := Lib.below_iterAt hbel (k := w.heap.size + 2) (by omega) X (j + 1)
     have hzk : w.heap.size + 2 < (wr.iterAt (w.heap.size + 2) X (j + 1)).heap.size := by
      rcases Nat.lt_or_ge (w.heap.size + 2) (wr.iterAt (w.heap.size + 2) X (j + 1)).heap.size with h | h
      ·exact h
      ·rw [Array.getElem?_eq_none h] at hk1; cases hk1
     have HNj : Hid (∀ w, Calls prog 100 #[.int .i64 ((X[j].toNat : Int) - 48)] w (ql 9 1 id w (jm (X[j].toNat - 48)).length (sv (jm (X[j].toNat - 48))))) := Lh fun w => by
      have h := HNW.out (X[j].toNat - 48) (by omega) w
      rwa [show ((X[j].toNat - 48 : Nat) : Int) = (X[j].toNat : Int) - 48 by omega] at h
     have hnl := ye (X[j].toNat - 48)
     clear hown hbel hx hk
     generalize wr.iterAt (w.heap.size + 2) X (j + 1) = W1 at *
     generalize zi (T.take j) = DJ at *
     generalize hNW : jm (X[j].toNat - 48) = NW at *
     replace hNW := Lh hNW
     go_wp2_with (first
      | (go_at_call 100; refine (HNj.out _).mono ?_; rintro e w3 ⟨A3, c3, rfl, hown3, qh9⟩; have z3 := qh9.size)
      | (at_builtin; go_must (refine qh rfl _ _ _ rfl qx ((w.heap.size + 1)) _ rfl ((qa hown1 qh9)) _ _ rfl ((Rd.of_own hown3)) (by first | rfl | exact qN _ | exact qO _) (by omega) (by omega) (by first | (simp; done) | (simp; omega) | omega) ?_); intro A4 c4 w4 qie qia qii qik; have z4 := qia.size; (try simp only [World.size_alloc] at z4); (try simp only [Nat.zero_add, List.nil_append] at qie)))
     have hk3 := qaC qh9 hk1
     have hk4 := qax (qa hown1 qh9) qii hk3
     have e1 : (1 + (vN (DJ ++ [X[j].toNat - 48])).length) = 1 + (vN DJ).length + NW.length := by
      rw [yy, List.length_append, hNW.out]; omega
     have e2 : sv (qI :: vN (DJ ++ [X[j].toNat - 48])) = sv (qI :: vN DJ) ++ sv NW := by
      rw [yy, hNW.out]; simp [sv]
     go_roundw
     case rel => exact ⟨A4, c4, j + 1, by omega, hk4, by rw [HDj.out, e1], by rw [HDj.out, e1, e2]; exact qie, (qh7.trans (qh9.mono (by omega))).trans (qia.mono (by omega))⟩
     case measure =>
      rw [hmu.out, yb hk4]
      omega
    ·obtain rfl : j = T.length := by omega
     have hnext : ∀ ty, (Instr.next (.pointer (some ⟨w.heap.size + 2, 0, none⟩)) true ty).run prog wr = _ := fun ty => Lib.run_next_end_at wr (w.heap.size + 2) X T.length ty hk (by omega)
     have e3 : RES.length = 1 + (vN (zi (T.take T.length))).length := by rw [HR.out, HTA.out]; simp; omega
     have e4 : sv RES = sv (qI :: vN (zi (T.take T.length))) := by rw [HR.out, HTA.out]
     go_wp2
     go_ret
     rw [e3, e4]
     exact ⟨A, c, rfl, qq hown (by omega), hbel⟩
  ·have h48 : (((X[0]'(by omega)).toNat : Int) == 48) = true := beq_iff_eq.2 (by omega)
   go_enter func97, ntmps97
   go_upto_region 1 with fail
   refine qc (fun wx => StBox wx r false sp p con k w.heap.size /\ Below w.heap.size w wx /\ wx.heap.size = w.heap.size + 1) ⟨StBox.new w r false sp p con k _, (Below.refl _ _).alloc (Nat.le_refl _) _, by simp⟩ ?_
   rintro wb ⟨⟨_, s1, _, _, _, _⟩, hb0, hz0⟩
   go_upto_region 3 with fail
   have hown0 : (wb.alloc (.cells #[.string ⟨#[100, 105, 103, 105, 116, 115]⟩] 9)).ownsRow (w.heap.size + 1) 9 1 (.slice (some ⟨wb.heap.size, 0, none⟩) 1 1) 1 (sv [qI]) := qR (xs := sv [qI]) rfl rfl (by omega) (by omega)
   have hbe : Below w.heap.size w (wb.alloc (.cells #[.string ⟨#[100, 105, 103, 105, 116, 115]⟩] 9)) := hb0.alloc (by omega) _
   have hze : (wb.alloc (.cells #[.string ⟨#[100, 105, 103, 105, 116, 115]⟩] 9)).heap.size = w.heap.size + 2 := by simp; omega
   rw [hz0] at hown0
   (try simp only [hz0])
   generalize wb.alloc (.cells #[.string ⟨#[100, 105, 103, 105, 116, 115]⟩] 9) = wc at *
   go_wp2
   go_loopw [5] (fun v wr => ∃ (A : Option Addr) (c j : Nat), j <= T.length /\ wr.heap[w.heap.size + 2]? = some (.stringIter X j) /\ v = .slice A (1 + (vN (zi (T.take j))).length) c /\ wr.ownsRow (w.heap.size + 1) 9 1 (.slice A (1 + (vN (zi (T.take j))).length) c) (1 + (vN (zi (T.take j))).length) (sv (qI :: vN (zi (T.take j)))) /\ Below w.heap.size w wr) (fun _ wr => T.length - posN wr (w.heap.size + 2))
   case atStart => exact ⟨_, _, 0, Nat.zero_le _, by rw [<- hze]; exact heap_alloc_new _ _, rfl, hown0.alloc _, hbe.alloc (by omega) _⟩
   case round =>
    obtain ⟨A, c, j, hj, hk, rfl, hown, hbel⟩ := hrel
    have hln := HLn.out j
    by_cases hlt : j < T.length
    ·have hjx : j < X.size := by omega
     have hx := HX.out j hlt hjx
     have hb := HB.out j hlt
     rw [<- hx] at hb
     have HDj : Hid (zi (T.take (j + 1)) = zi (T.take j) ++ [X[j].toNat - 48]) := Lh (by rw [hx]; exact HD.out j hlt)
     have hnext : ∀ ty, (Instr.next (.pointer (some ⟨w.heap.size + 2, 0, none⟩)) true ty).run prog wr = _ := fun ty => Lib.run_next_ascii_at wr (w.heap.size + 2) X j ty hk hjx (by omega)
     have hmu := Lh (yb hk)
     have hk1 := Lib.iterAt_heap wr (w.heap.size + 2) X j (j + 1) hk
     have hown1 := qas (q' := j + 1) hown hk
     have qh7 := Lib.below_iterAt hbel (k := w.heap.size + 2) (by omega) X (j + 1)
     have hzk : w.heap.size + 2 < (wr.iterAt (w.heap.size + 2) X (j + 1)).heap.size := by
      rcases Nat.lt_or_ge (w.heap.size + 2) (wr.iterAt (w.heap.size + 2) X (j + 1)).heap.size with h | h
      ·exact h
      ·rw [Array.getElem?_eq_none h] at hk1; cases hk1
     have HNj : Hid (∀ w, Calls prog 100 #[.int .i64 ((X[j].toNat : Int) - 48)] w (ql 9 1 id w (jm (X[j].toNat - 48)).length (sv (jm (X[j].toNat - 48))))) := Lh fun w => by
      have h := HNW.out (X[j].toNat - 48) (by omega) w
      rwa [show ((X[j].toNat - 48 : Nat) : Int) = (X[j].toNat : Int) - 48 by omega] at h
     have hnl := ye (X[j].toNat - 48)
     clear hown hbel hx hk
     generalize wr.iterAt (w.heap.size + 2) X (j + 1) = W1 at *
     generalize zi (T.take j) = DJ at *
     generalize hNW : jm (X[j].toNat - 48) = NW at *
     replace hNW := Lh hNW
     go_wp2_with (first
      | (go_at_call 100; refine (HNj.out _).mono ?_; rintro e w3 ⟨A3, c3, rfl, hown3, qh9⟩; have z3 := qh9.size)
      | (at_builtin; go_must (refine qh rfl _ _ _ rfl qx ((w.heap.size + 1)) _ rfl ((qa hown1 qh9)) _ _ rfl ((Rd.of_own hown3)) (by first | rfl | exact qN _ | exact qO _) (by omega) (by omega) (by first | (simp; done) | (simp; omega) | omega) ?_); intro A4 c4 w4 qie qia qii qik; have z4 := qia.size; (try simp only [World.size_alloc] at z4); (try simp only [Nat.zero_add, List.nil_append] at qie)))
     have hk3 := qaC qh9 hk1
     have hk4 := qax (qa hown1 qh9) qii hk3
     have e1 : (1 + (vN (DJ ++ [X[j].toNat - 48])).length) = 1 + (vN DJ).length + NW.length := by
      rw [yy, List.length_append, hNW.out]; omega
     have e2 : sv (qI :: vN (DJ ++ [X[j].toNat - 48])) = sv (qI :: vN DJ) ++ sv NW := by
      rw [yy, hNW.out]; simp [sv]
     go_roundw
     case rel => exact ⟨A4, c4, j + 1, by omega, hk4, by rw [HDj.out, e1], by rw [HDj.out, e1, e2]; exact qie, (qh7.trans (qh9.mono (by omega))).trans (qia.mono (by omega))⟩
     case measure =>
      rw [hmu.out, yb hk4]
      omega
    ·obtain rfl : j = T.length := by omega
     have hnext : ∀ ty, (Instr.next (.pointer (some ⟨w.heap.size + 2, 0, none⟩)) true ty).run prog wr = _ := fun ty => Lib.run_next_end_at wr (w.heap.size + 2) X T.length ty hk (by omega)
     have e3 : RES.length = 1 + (vN (zi (T.take T.length))).length := by rw [HR.out, HTA.out]; simp; omega
     have e4 : sv RES = sv (qI :: vN (zi (T.take T.length))) := by rw [HR.out, HTA.out]
     go_wp2
     go_ret
     rw [e3, e4]
     exact ⟨A, c, rfl, qq hown (by omega), hbel⟩
 ·obtain ⟨RES, qih⟩ : ∃ x, x = jt T d := ⟨_, rfl⟩
  rw [<- qih]
  have HR : Hid (RES = jm (yM (zi T))) := Lh (by rw [qih, jt, if_neg hcond])
  clear qih HLn
  have HLn : Hid (∀ j, yM (zi (T.take j)) <= 999999999) := Lh fun j => by
   have h9 : T.length <= 9 := by
    rcases Nat.lt_or_ge 9 T.length with h | h
    ·exact absurd (.inr (.inl h)) hcond
    ·exact h
   have h1 := qgf (zi (T.take j)) (fun x hx => by
    unfold zi at hx
    obtain ⟨c, hc, rfl⟩ := List.mem_map.1 hx
    have := hT c (List.mem_of_mem_take hc)
    omega)
   have h2 : (zi (T.take j)).length <= 9 := by unfold zi; rw [List.length_map, List.length_take]; omega
   have h3 : 10 ^ (zi (T.take j)).length <= 10 ^ 9 := Nat.pow_le_pow_right (by omega) h2
   omega
  rw [hd0] at hcond
  have hX0 : 0 < X.size := by omega
  have hx0 := HX.out 0 h0 (by omega)
  have hb0 := HB.out 0 h0
  have hc2 : d = false /\ ¬ 9 < X.size /\ (X.size = 1 ∨ (1 < X.size /\ (X[0]'hX0).toNat ≠ 48)) := by
   rw [not_or, not_or] at hcond
   obtain ⟨q1, q2, q3⟩ := hcond
   refine ⟨by simpa using q1, by omega, ?_⟩
   by_cases h1 : 1 < T.length
   ·exact .inr ⟨by omega, fun e => q3 ⟨h1, by rw [hx0] at e; omega⟩⟩
   ·exact .inl (by omega)
  clear hcond hd0 hx0 hb0 hXT hT
  obtain ⟨rfl, h9, hc3⟩ := hc2
  rcases hc3 with h1 | ⟨h1, hx48⟩
  ·have h1' : ¬ 1 < X.size := by omega
   go_enter func97, ntmps97
   go_upto_region 1 with fail
   refine qc (fun wx => StBox wx r false sp p con k w.heap.size /\ Below w.heap.size w wx /\ wx.heap.size = w.heap.size + 1) ⟨StBox.new w r false sp p con k _, (Below.refl _ _).alloc (Nat.le_refl _) _, by simp⟩ ?_
   rintro wb ⟨⟨_, s1, _, _, _, _⟩, hb0, hz0⟩
   go_wp2
   go_loopw [8] (fun v wr => ∃ (j : Nat), j <= T.length /\ wr.heap[w.heap.size + 1]? = some (.stringIter X j) /\ v = .int .i64 (yM (zi (T.take j)) : Nat) /\ Below w.heap.size w wr) (fun _ wr => T.length - posN wr (w.heap.size + 1))
   case atStart => exact ⟨0, Nat.zero_le _, by rw [<- hz0]; exact heap_alloc_new _ _, rfl, hb0.alloc (by omega) _⟩
   case round =>
    obtain ⟨j, hj, hk, rfl, hbel⟩ := hrel
    have hln := HLn.out j
    by_cases hlt : j < T.length
    ·have hjx : j < X.size := by omega
     have hx := HX.out j hlt hjx
     have hb := HB.out j hlt
     rw [<- hx] at hb
     have HDj : Hid (yM (zi (T.take (j + 1))) = 10 * yM (zi (T.take j)) + (X[j].toNat - 48)) := Lh (by rw [hx, HD.out j hlt, qdh])
     have hnext : ∀ ty, (Instr.next (.pointer (some ⟨w.heap.size + 1, 0, none⟩)) true ty).run prog wr = _ := fun ty => Lib.run_next_ascii_at wr (w.heap.size + 1) X j ty hk hjx (by omega)
     have hmu := Lh (yb hk)
     have hk1 := Lib.iterAt_heap wr (w.heap.size + 1) X j (j + 1) hk
     have qh7 := Lib.below_iterAt hbel (k := w.heap.size + 1) (by omega) X (j + 1)
     clear hbel hx hk
     generalize wr.iterAt (w.heap.size + 1) X (j + 1) = W1 at *
     generalize yM (zi (T.take j)) = N at *
     go_wp2
     go_roundw
     case rel => exact ⟨j + 1, by omega, hk1, by rw [HDj.out]; go_num, qh7⟩
     case measure =>
      rw [hmu.out, yb hk1]
      omega
    ·obtain rfl : j = T.length := by omega
     have hnext : ∀ ty, (Instr.next (.pointer (some ⟨w.heap.size + 1, 0, none⟩)) true ty).run prog wr = _ := fun ty => Lib.run_next_end_at wr (w.heap.size + 1) X T.length ty hk (by omega)
     rw [HTA.out] at hln ⊢
     have HNj := Lh (HNW.out (yM (zi T)) (by omega))
     generalize yM (zi T) = N at *
     generalize jm N = NW at *
     go_wp2_with (go_at_call 100; refine (HNj.out _).mono ?_; rintro e w3 ⟨A3, c3, rfl, hown3, qh9⟩; have z3 := qh9.size)
     go_ret
     rw [HR.out]
     exact ⟨A3, c3, rfl, qq hown3 hbel.size, hbel.trans (qh9.mono hbel.size)⟩
  ·have h48 : (((X[0]'hX0).toNat : Int) == 48) = false := beq_eq_false_iff_ne.2 (by omega)
   go_enter func97, ntmps97
   go_upto_region 1 with fail
   refine qc (fun wx => StBox wx r false sp p con k w.heap.size /\ Below w.heap.size w wx /\ wx.heap.size = w.heap.size + 1) ⟨StBox.new w r false sp p con k _, (Below.refl _ _).alloc (Nat.le_refl _) _, by simp⟩ ?_
   rintro wb ⟨⟨_, s1, _, _, _, _⟩, hb0, hz0⟩
   go_wp2
   go_loopw [8] (fun v wr => ∃ (j : Nat), j <= T.length /\ wr.heap[w.heap.size + 1]? = some (.stringIter X j) /\ v = .int .i64 (yM (zi (T.take j)) : Nat) /\ Below w.heap.size w wr) (fun _ wr => T.length - posN wr (w.heap.size + 1))
   case atStart => exact ⟨0, Nat.zero_le _, by rw [<- hz0]; exact heap_alloc_new _ _, rfl, hb0.alloc (by omega) _⟩
   case round =>
    obtain ⟨j, hj, hk, rfl, hbel⟩ := hrel
    have hln := HLn.out j
    by_cases hlt : j < T.length
    ·have hjx : j < X.size := by omega
     have hx := HX.out j hlt hjx
     have hb := HB.out j hlt
     rw [<- hx] at hb
     have HDj : Hid (yM (zi (T.take (j + 1))) = 10 * yM (zi (T.take j)) + (X[j].toNat - 48)) := Lh (by rw [hx, HD.out j hlt, qdh])
     have hnext : ∀ ty, (Instr.next (.pointer (some ⟨w.heap.size + 1, 0, none⟩)) true ty).run prog wr = _ := fun ty => Lib.run_next_ascii_at wr (w.heap.size + 1) X j ty hk hjx (by omega)
     have hmu := Lh (yb hk)
     have hk1 := Lib.iterAt_heap wr (w.heap.size + 1) X j (j + 1) hk
     have qh7 := Lib.below_iterAt hbel (k := w.heap.size + 1) (by omega) X (j + 1)
     clear hbel hx hk
     generalize wr.iterAt (w.heap.size + 1) X (j + 1) = W1 at *
     generalize yM (zi (T.take j)) = N at *
     go_wp2
     go_roundw
     case rel => exact ⟨j + 1, by omega, hk1, by rw [HDj.out]; go_num, qh7⟩
     case measure =>
      rw [hmu.out, yb hk1]
      omega
    ·obtain rfl : j = T.length := by omega
     have hnext : ∀ ty, (Instr.next (.pointer (some ⟨w.heap.size + 1, 0, none⟩)) true ty).run prog wr = _ := fun ty => Lib.run_next_end_at wr (w.heap.size + 1) X T.length ty hk (by omega)
     rw [HTA.out] at hln ⊢
     have HNj := Lh (HNW.out (yM (zi T)) (by omega))
     generalize yM (zi T) = N at *
     generalize jm N = NW at *
     go_wp2_with (go_at_call 100; refine (HNj.out _).mono ?_; rintro e w3 ⟨A3, c3, rfl, hown3, qh9⟩; have z3 := qh9.size)
     go_ret
     rw [HR.out]
     exact ⟨A3, c3, rfl, qq hown3 hbel.size, hbel.trans (qh9.mono hbel.size)⟩
end Go.Proofs.YtlndbiamiioakaaGreatDoor
