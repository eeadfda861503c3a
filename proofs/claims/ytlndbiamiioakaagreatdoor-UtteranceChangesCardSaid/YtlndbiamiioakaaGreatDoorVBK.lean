/- Joined: Up2, EachG, Up4. -/
import Derived.Test.YtlndbiamiioakaaGreatDoorVBJ
set_option linter.unusedVariables false
set_option linter.unusedSimpArgs false
set_option linter.unnecessarySimpa false
set_option maxHeartbeats 4000000
namespace Go.Proofs.YtlndbiamiioakaaGreatDoor
open Go.Proofs.Tryz Go.RowKit
set_option maxRecDepth 20000
def PhS (w : World) (c : Chg) (Ag : Option Addr) (cap : Nat) (r : Int) (d sp : Bool) (p : Int) (con : Bool) (k : Int) (xs : List ByteArray) (X : World) : Prop :=
 ∃ A co, Blk X w.heap.size 34 (vK c Ag cap) /\ Blk X (w.heap.size + 1) 38 #[.int .i64 r, .bool d, .bool sp, .int .i64 p, .bool con, .int .i64 k] /\ Blk X (w.heap.size + 2) 22 #[.slice A xs.length co] /\ X.ownsRow (w.heap.size + 3) 9 1 (.slice A xs.length co) xs.length (sv xs) /\ Below w.heap.size w X
section
variable {w X : World} {c : Chg} {Ag : Option Addr} {cap : Nat} {r : Int} {d sp : Bool} {p : Int} {con : Bool} {k : Int} {xs : List ByteArray}
theorem PhS.size (h : PhS w c Ag cap r d sp p con k xs X) : w.heap.size + 3 <= X.heap.size := by
 obtain ⟨A, co, h1, h2, h3, h4, h5⟩ := h
 have := h3.lt
 omega
theorem PhS.say (h : PhS w c Ag cap r d sp p con k xs X) (ws : List ByteArray) (n : Int) (h1 : -999999999 <= n) (h2 : n <= 999999999) (hw : ws.length <= 1000) (hx : xs.length <= 100000000) :
  Calls prog 37 #[.int .i64 n, .slice (some ⟨X.heap.size, 0, none⟩) ws.length ws.length, .pointer (some ⟨w.heap.size + 2, 0, none⟩)] (X.alloc (.cells (sv ws).toArray 9)) fun e w' => e = .returned (.tuple #[]) /\ PhS w c Ag cap r d sp p con k (xs ++ ws ++ zI n) w' := by
 have hz := h.size
 obtain ⟨A, co, b1, b2, b3, b4, b5⟩ := h
 have ha : Below X.heap.size X (X.alloc (.cells (sv ws).toArray 9)) := (Below.refl _ _).alloc (Nat.le_refl _) _
 refine (psay_ n h1 h2 ws xs (some ⟨X.heap.size, 0, none⟩) ws.length ws.length (w.heap.size + 2) (w.heap.size + 3) _ hw hx ?_ ⟨A, co, b3.below ha b3.lt, qa b4 ha⟩ (by omega) (by simp; omega)).mono ?_
 ·exact (qe rfl (by rw [qdI, Nat.mul_one])).more (by simp)
 ·rintro e w' ⟨rfl, ⟨A', co', g3, g4⟩, g5⟩
  exact ⟨rfl, A', co', (b1.below ha b1.lt).below g5 (by omega), (b2.below ha b2.lt).below g5 (by omega), g3, g4, (b5.trans (ha.mono (by omega))).trans (g5.mono (by omega))⟩
theorem qaV (n : Int) (h1 : -999999999 <= n) (h2 : n <= 999999999) (a : ByteArray) (h : PhS w c Ag cap r d sp p con k xs X) (hx : xs.length <= 100000000) :
  Calls prog 37 #[.int .i64 n, .slice (some ⟨X.heap.size, 0, none⟩) 1 1, .pointer (some ⟨w.heap.size + 2, 0, none⟩)] (X.alloc (.cells #[.string a] 9)) fun e w' => e = .returned (.tuple #[]) /\ PhS w c Ag cap r d sp p con k (xs ++ a :: zI n) w' := by
 have := h.say [a] n h1 h2 (by simp) hx
 rw [List.append_assoc] at this
 exact this
theorem psay2 (n : Int) (h1 : -999999999 <= n) (h2 : n <= 999999999) (a b : ByteArray) (h : PhS w c Ag cap r d sp p con k xs X) (hx : xs.length <= 100000000) :
  Calls prog 37 #[.int .i64 n, .slice (some ⟨X.heap.size, 0, none⟩) 2 2, .pointer (some ⟨w.heap.size + 2, 0, none⟩)] (X.alloc (.cells #[.string a, .string b] 9)) fun e w' => e = .returned (.tuple #[]) /\ PhS w c Ag cap r d sp p con k (xs ++ a :: b :: zI n) w' := by
 have := h.say [a, b] n h1 h2 (by simp) hx
 rw [List.append_assoc] at this
 exact this
theorem PhS.start (w : World) (c : Chg) (Ag : Option Addr) (cap : Nat) (r : Int) (d sp : Bool) (p : Int) (con : Bool) (k : Int) :
  PhS w c Ag cap r d sp p con k [] (((w.alloc (.cells (vK c Ag cap) 34)).alloc (.cells #[.int .i64 r, .bool d, .bool sp, .int .i64 p, .bool con, .int .i64 k] 38)).alloc (.cells #[.slice none 0 0] 22)) :=
 ⟨none, 0, ((Blk.new w _ _).alloc _).alloc _, (Blk.new_ (by simp)).alloc _, Blk.new_ (by simp), zh _ _ _ _, (((Below.refl _ _).alloc (Nat.le_refl _) _).alloc (by simp) _).alloc (by simp; omega) _⟩
end
theorem vo (n : Int) : (zI n).length <= 15 := by unfold zI; rw [List.length_map]; exact jD n
theorem yv {R xs ys T : List ByteArray} {a : ByteArray} {n : Int} (h : Hid (R = xs ++ a :: (zI n ++ T))) (hy : ys = xs ++ a :: zI n) : Hid (R = ys ++ T) := Lh (by rw [h.out, hy, List.append_assoc]; rfl)
theorem qeh {R xs ys T : List ByteArray} {a b : ByteArray} {n : Int} (h : Hid (R = xs ++ a :: b :: (zI n ++ T))) (hy : ys = xs ++ a :: b :: zI n) : Hid (R = ys ++ T) := Lh (by rw [h.out, hy, List.append_assoc]; rfl)
theorem yE {xs ys zs : List ByteArray} {m : Nat} (h : xs.length <= m) (hy : ys = xs ++ zs) (hz : zs.length <= 20) : ys.length <= m + 20 := by rw [hy, List.length_append]; omega
theorem qa9 {w w9 : World} {R xs : List ByteArray} {a : ByteArray} {A : Option Addr} {c : Nat} (h : R = xs ++ [a]) (ho : w9.ownsRow (w.heap.size + 3) 9 1 (.slice A (xs.length + 1) c) (xs.length + 1) (sv xs ++ sv [a])) (hb : Below w.heap.size w w9) :
  ql 9 1 id w R.length (sv R) (.returned (.slice A (xs.length + 1) c)) w9 := by
 subst h
 rw [List.length_append]
 refine ⟨A, c, rfl, ?_, hb⟩
 rw [kH]
 exact qq ho (by omega)
theorem qcq {w X : World} {R xs : List ByteArray} {A : Option Addr} {c : Nat} (h : R = xs ++ []) (ho : X.ownsRow (w.heap.size + 3) 9 1 (.slice A xs.length c) xs.length (sv xs)) (hb : Below w.heap.size w X) :
  ql 9 1 id w R.length (sv R) (.returned (.slice A xs.length c)) X := by
 rw [List.append_nil] at h
 subst h
 exact ⟨A, c, rfl, qq ho (by omega), hb⟩
theorem qfg (row col count til : Int) (g : List Gl) (Ag : Option Addr) (cap : Nat) (r : Int) (d sp : Bool) (p : Int) (con : Bool) (k : Int) (w : World) (hr : 1 <= row /\ row <= 60 /\ 1 <= col /\ col <= 132) :
  Calls prog 23 #[ku ⟨1, row, col, count, til, g⟩ Ag cap, stV r d sp p con k] w (ql 9 1 id w (vc :: (zI row ++ jk :: (zI col ++ [vn]))).length (sv (vc :: (zI row ++ jk :: (zI col ++ [vn]))))) := by
 obtain ⟨R, hR⟩ : ∃ x, Hid (x = vc :: (zI row ++ jk :: (zI col ++ [vn]))) := ⟨_, Lh rfl⟩
 rw [<- hR.out]
 have hX := PhS.start w ⟨1, row, col, count, til, g⟩ Ag cap r d sp p con k
 obtain ⟨xs, hxs⟩ : ∃ x : List ByteArray, x = [] := ⟨_, rfl⟩
 rw [<- hxs] at hX
 have HR : Hid (R = xs ++ vc :: (zI row ++ jk :: (zI col ++ [vn]))) := Lh (by rw [hR.out, hxs]; rfl)
 have hl : xs.length <= 0 := by rw [hxs]; exact Nat.le_refl _
 clear hR hxs
 go_enter func23, ntmps23
 go_upto_region 5 with fail
 refine qc (PhS w ⟨1, row, col, count, til, g⟩ Ag cap r d sp p con k xs) hX ?_
 clear hX
 intro X hX
 obtain ⟨Ao, co, P0, P1, P2, po, pb⟩ := id hX
 obtain ⟨-, c1, c2, c3, c4, c5, -⟩ := qr P0
 dsimp only at c1 c2 c3 c4 c5
 have d0 := P2.cell 0
 have zX := P2.lt
 simp only [La, Lb] at d0
 have HS := Lh (qaV row (by omega) (by omega) vc hX (by omega))
 obtain ⟨ys, hys⟩ : ∃ y, y = xs ++ vc :: zI row := ⟨_, rfl⟩
 rw [<- hys] at HS
 have HRn := yv HR hys
 have hln := yE hl hys (by simp only [List.length_cons]; have := vo row; omega)
 go_upto_region 6 with (go_at_call 37; refine HS.out.mono ?_; rintro e w1 ⟨rfl, hY⟩)
 refine qc (PhS w ⟨1, row, col, count, til, g⟩ Ag cap r d sp p con k ys) hY ?_
 clear c1 c2 c3 c4 c5 d0 P0 P1 P2 po pb zX
 clear hX hY HS HR hl hys
 clear xs
 obtain ⟨xs, rfl⟩ : ∃ x, x = ys := ⟨_, rfl⟩
 have HR := HRn
 have hl := hln
 clear HRn hln
 intro X hX
 obtain ⟨Ao, co, P0, P1, P2, po, pb⟩ := id hX
 obtain ⟨-, c1, c2, c3, c4, c5, -⟩ := qr P0
 dsimp only at c1 c2 c3 c4 c5
 have d0 := P2.cell 0
 have zX := P2.lt
 simp only [La, Lb] at d0
 have HS := Lh (qaV col (by omega) (by omega) jk hX (by omega))
 obtain ⟨ys, hys⟩ : ∃ y, y = xs ++ jk :: zI col := ⟨_, rfl⟩
 rw [<- hys] at HS
 have HRn := yv HR hys
 have hln := yE hl hys (by simp only [List.length_cons]; have := vo col; omega)
 go_upto_region 7 with (go_at_call 37; refine HS.out.mono ?_; rintro e w1 ⟨rfl, hY⟩)
 refine qc (PhS w ⟨1, row, col, count, til, g⟩ Ag cap r d sp p con k ys) hY ?_
 clear c1 c2 c3 c4 c5 d0 P0 P1 P2 po pb zX
 clear hX hY HS HR hl hys
 clear xs
 obtain ⟨xs, rfl⟩ : ∃ x, x = ys := ⟨_, rfl⟩
 have HR := HRn
 have hl := hln
 clear HRn hln
 intro X hX
 obtain ⟨Ao, co, P0, P1, P2, po, pb⟩ := id hX
 obtain ⟨-, c1, c2, c3, c4, c5, -⟩ := qr P0
 dsimp only at c1 c2 c3 c4 c5
 have d0 := P2.cell 0
 have zX := P2.lt
 simp only [La, Lb] at d0
 have hz4 := pb.size
 go_wp2_with (at_builtin; refine qh rfl _ _ _ rfl qx ((w.heap.size + 3)) _ rfl (qa po ((Below.refl _ _).alloc (Nat.le_refl _) _)) _ _ rfl ((qe (xs := sv [vn]) rfl rfl)) (by first | rfl | exact qN _ | exact qO _) (by omega) (by omega) (by first | (simp; done) | (simp; omega) | omega) ?_; intro A9 c9 w9 qig qin qij hat9; have z9 := qin.size; (try simp only [World.size_alloc] at z9); (try simp only [Nat.zero_add, List.nil_append] at qig))
 go_ret
 exact qa9 HR.out qig (pb.trans ((Below.alloc (Below.refl w.heap.size X) hz4 _).trans (qin.mono (by omega))))
theorem qfL (row col count til : Int) (g : List Gl) (Ag : Option Addr) (cap : Nat) (r : Int) (d sp : Bool) (p : Int) (con : Bool) (k : Int) (w : World) (hr : 0 <= row /\ row <= 59 /\ 0 <= til /\ til <= 60 /\ -60 <= count /\ count <= 60) :
  Calls prog 23 #[ku ⟨2, row, col, count, til, g⟩ Ag cap, stV r d sp p con k] w (ql 9 1 id w (zk ⟨2, row, col, count, til, g⟩ ⟨d, sp, p⟩).length (sv (zk ⟨2, row, col, count, til, g⟩ ⟨d, sp, p⟩))) := by
 have e1 : IntKind.i64.wrap (row + 1) = row + 1 := by rw [IntKind.wrap_i64]; omega
 have e2 : IntKind.i64.wrap (-count) = -count := by rw [IntKind.wrap_i64]; omega
 obtain ⟨R, hR⟩ : ∃ x, Hid (x = qE :: qu :: (zI (row + 1) ++ bTo :: (zI til ++ (if 0 < count then bUp :: zI count else zT :: zI (-count))))) := ⟨_, Lh rfl⟩
 rw [show zk ⟨2, row, col, count, til, g⟩ ⟨d, sp, p⟩ = R from hR.out.symm]
 have hX := PhS.start w ⟨2, row, col, count, til, g⟩ Ag cap r d sp p con k
 obtain ⟨xs, hxs⟩ : ∃ x : List ByteArray, x = [] := ⟨_, rfl⟩
 rw [<- hxs] at hX
 have HR : Hid (R = xs ++ qE :: qu :: (zI (row + 1) ++ bTo :: (zI til ++ (if 0 < count then bUp :: zI count else zT :: zI (-count))))) := Lh (by rw [hR.out, hxs]; rfl)
 have hl : xs.length <= 0 := by rw [hxs]; exact Nat.le_refl _
 clear hR hxs
 go_enter func23, ntmps23
 go_upto_region 9 with fail
 refine qc (PhS w ⟨2, row, col, count, til, g⟩ Ag cap r d sp p con k xs) hX ?_
 clear hX
 intro X hX
 obtain ⟨Ao, co, P0, P1, P2, po, pb⟩ := id hX
 obtain ⟨-, c1, c2, c3, c4, c5, -⟩ := qr P0
 dsimp only at c1 c2 c3 c4 c5
 have d0 := P2.cell 0
 have zX := P2.lt
 simp only [La, Lb] at d0
 have HS := Lh (psay2 (row + 1) (by omega) (by omega) qE qu hX (by omega))
 obtain ⟨ys, hys⟩ : ∃ y, y = xs ++ qE :: qu :: zI (row + 1) := ⟨_, rfl⟩
 rw [<- hys] at HS
 have HRn := qeh HR hys
 have hln := yE hl hys (by simp only [List.length_cons]; have := vo (row + 1); omega)
 go_upto_region 10 with (go_at_call 37; refine HS.out.mono ?_; rintro e w1 ⟨rfl, hY⟩)
 refine qc (PhS w ⟨2, row, col, count, til, g⟩ Ag cap r d sp p con k ys) hY ?_
 clear c1 c2 c3 c4 c5 d0 P0 P1 P2 po pb zX
 clear hX hY HS HR hl hys
 clear xs
 obtain ⟨xs, rfl⟩ : ∃ x, x = ys := ⟨_, rfl⟩
 have HR := HRn
 have hl := hln
 clear HRn hln
 intro X hX
 obtain ⟨Ao, co, P0, P1, P2, po, pb⟩ := id hX
 obtain ⟨-, c1, c2, c3, c4, c5, -⟩ := qr P0
 dsimp only at c1 c2 c3 c4 c5
 have d0 := P2.cell 0
 have zX := P2.lt
 simp only [La, Lb] at d0
 have HS := Lh (qaV til (by omega) (by omega) bTo hX (by omega))
 obtain ⟨ys, hys⟩ : ∃ y, y = xs ++ bTo :: zI til := ⟨_, rfl⟩
 rw [<- hys] at HS
 have HRn := yv HR hys
 have hln := yE hl hys (by simp only [List.length_cons]; have := vo til; omega)
 go_upto_region 11 with (go_at_call 37; refine HS.out.mono ?_; rintro e w1 ⟨rfl, hY⟩)
 refine qc (PhS w ⟨2, row, col, count, til, g⟩ Ag cap r d sp p con k ys) hY ?_
 clear c1 c2 c3 c4 c5 d0 P0 P1 P2 po pb zX
 clear hX hY HS HR hl hys
 clear xs
 obtain ⟨xs, rfl⟩ : ∃ x, x = ys := ⟨_, rfl⟩
 have HR := HRn
 have hl := hln
 clear HRn hln
 intro X hX
 by_cases hc : 0 < count
 ·rw [if_pos hc] at HR
  replace HR : Hid (R = xs ++ bUp :: (zI count ++ [])) := Lh (by rw [HR.out, List.append_nil])
  obtain ⟨Ao, co, P0, P1, P2, po, pb⟩ := id hX
  obtain ⟨-, c1, c2, c3, c4, c5, -⟩ := qr P0
  dsimp only at c1 c2 c3 c4 c5
  have d0 := P2.cell 0
  have zX := P2.lt
  simp only [La, Lb] at d0
  go_upto_region 12 with fail
  clear c1 c2 c3 c4 c5 d0 P0 P1 P2 po pb zX
  obtain ⟨Ao, co, P0, P1, P2, po, pb⟩ := id hX
  obtain ⟨-, c1, c2, c3, c4, c5, -⟩ := qr P0
  dsimp only at c1 c2 c3 c4 c5
  have d0 := P2.cell 0
  have zX := P2.lt
  simp only [La, Lb] at d0
  have HS := Lh (qaV count (by omega) (by omega) bUp hX (by omega))
  obtain ⟨ys, hys⟩ : ∃ y, y = xs ++ bUp :: zI count := ⟨_, rfl⟩
  rw [<- hys] at HS
  have HRn := yv HR hys
  have hln := yE hl hys (by simp only [List.length_cons]; have := vo count; omega)
  go_upto_region 27 with (go_at_call 37; refine HS.out.mono ?_; rintro e w1 ⟨rfl, hY⟩)
  refine qc (PhS w ⟨2, row, col, count, til, g⟩ Ag cap r d sp p con k ys) hY ?_
  clear c1 c2 c3 c4 c5 d0 P0 P1 P2 po pb zX
  clear hX hY HS HR hl hys
  clear xs
  obtain ⟨xs, rfl⟩ : ∃ x, x = ys := ⟨_, rfl⟩
  have HR := HRn
  have hl := hln
  clear HRn hln
  intro X hX
  obtain ⟨Ao, co, P0, P1, P2, po, pb⟩ := id hX
  obtain ⟨-, c1, c2, c3, c4, c5, -⟩ := qr P0
  dsimp only at c1 c2 c3 c4 c5
  have d0 := P2.cell 0
  have zX := P2.lt
  simp only [La, Lb] at d0
  go_wp2
  go_ret
  exact qcq HR.out po pb
 ·rw [if_neg hc] at HR
  replace HR : Hid (R = xs ++ zT :: (zI (-count) ++ [])) := Lh (by rw [HR.out, List.append_nil])
  obtain ⟨Ao, co, P0, P1, P2, po, pb⟩ := id hX
  obtain ⟨-, c1, c2, c3, c4, c5, -⟩ := qr P0
  dsimp only at c1 c2 c3 c4 c5
  have d0 := P2.cell 0
  have zX := P2.lt
  simp only [La, Lb] at d0
  go_upto_region 13 with fail
  clear c1 c2 c3 c4 c5 d0 P0 P1 P2 po pb zX
  obtain ⟨Ao, co, P0, P1, P2, po, pb⟩ := id hX
  obtain ⟨-, c1, c2, c3, c4, c5, -⟩ := qr P0
  dsimp only at c1 c2 c3 c4 c5
  have d0 := P2.cell 0
  have zX := P2.lt
  simp only [La, Lb] at d0
  have HS := Lh (qaV (-count) (by omega) (by omega) zT hX (by omega))
  obtain ⟨ys, hys⟩ : ∃ y, y = xs ++ zT :: zI (-count) := ⟨_, rfl⟩
  rw [<- hys] at HS
  have HRn := yv HR hys
  have hln := yE hl hys (by simp only [List.length_cons]; have := vo (-count); omega)
  go_upto_region 27 with (go_at_call 37; refine HS.out.mono ?_; rintro e w1 ⟨rfl, hY⟩)
  refine qc (PhS w ⟨2, row, col, count, til, g⟩ Ag cap r d sp p con k ys) hY ?_
  clear c1 c2 c3 c4 c5 d0 P0 P1 P2 po pb zX
  clear hX hY HS HR hl hys
  clear xs
  obtain ⟨xs, rfl⟩ : ∃ x, x = ys := ⟨_, rfl⟩
  have HR := HRn
  have hl := hln
  clear HRn hln
  intro X hX
  obtain ⟨Ao, co, P0, P1, P2, po, pb⟩ := id hX
  obtain ⟨-, c1, c2, c3, c4, c5, -⟩ := qr P0
  dsimp only at c1 c2 c3 c4 c5
  have d0 := P2.cell 0
  have zX := P2.lt
  simp only [La, Lb] at d0
  go_wp2
  go_ret
  exact qcq HR.out po pb
theorem qeR (row col count til : Int) (g : List Gl) (Ag : Option Addr) (cap : Nat) (r : Int) (d sp : Bool) (p : Int) (con : Bool) (k : Int) (w : World) (hr : 0 <= row /\ row <= 59 /\ 0 <= col /\ col <= 131) :
  Calls prog 23 #[ku ⟨4, row, col, count, til, g⟩ Ag cap, stV r d sp p con k] w (ql 9 1 id w (zk ⟨4, row, col, count, til, g⟩ ⟨d, sp, p⟩).length (sv (zk ⟨4, row, col, count, til, g⟩ ⟨d, sp, p⟩))) := by
 have e1 : IntKind.i64.wrap (row + 1) = row + 1 := by rw [IntKind.wrap_i64]; omega
 have e2 : IntKind.i64.wrap (col + 1) = col + 1 := by rw [IntKind.wrap_i64]; omega
 obtain ⟨R, hR⟩ : ∃ x, Hid (x = qD :: qu :: (zI (row + 1) ++ qB :: (zI (col + 1) ++ [if count = 1 then qH else zo]))) := ⟨_, Lh rfl⟩
 rw [show zk ⟨4, row, col, count, til, g⟩ ⟨d, sp, p⟩ = R from hR.out.symm]
 have hX := PhS.start w ⟨4, row, col, count, til, g⟩ Ag cap r d sp p con k
 obtain ⟨xs, hxs⟩ : ∃ x : List ByteArray, x = [] := ⟨_, rfl⟩
 rw [<- hxs] at hX
 have HR : Hid (R = xs ++ qD :: qu :: (zI (row + 1) ++ qB :: (zI (col + 1) ++ [if count = 1 then qH else zo]))) := Lh (by rw [hR.out, hxs]; rfl)
 have hl : xs.length <= 0 := by rw [hxs]; exact Nat.le_refl _
 clear hR hxs
 go_enter func23, ntmps23
 go_upto_region 22 with fail
 refine qc (PhS w ⟨4, row, col, count, til, g⟩ Ag cap r d sp p con k xs) hX ?_
 clear hX
 intro X hX
 obtain ⟨Ao, co, P0, P1, P2, po, pb⟩ := id hX
 obtain ⟨-, c1, c2, c3, c4, c5, -⟩ := qr P0
 dsimp only at c1 c2 c3 c4 c5
 have d0 := P2.cell 0
 have zX := P2.lt
 simp only [La, Lb] at d0
 have HS := Lh (psay2 (row + 1) (by omega) (by omega) qD qu hX (by omega))
 obtain ⟨ys, hys⟩ : ∃ y, y = xs ++ qD :: qu :: zI (row + 1) := ⟨_, rfl⟩
 rw [<- hys] at HS
 have HRn := qeh HR hys
 have hln := yE hl hys (by simp only [List.length_cons]; have := vo (row + 1); omega)
 go_upto_region 23 with (go_at_call 37; refine HS.out.mono ?_; rintro e w1 ⟨rfl, hY⟩)
 refine qc (PhS w ⟨4, row, col, count, til, g⟩ Ag cap r d sp p con k ys) hY ?_
 clear c1 c2 c3 c4 c5 d0 P0 P1 P2 po pb zX
 clear hX hY HS HR hl hys
 clear xs
 obtain ⟨xs, rfl⟩ : ∃ x, x = ys := ⟨_, rfl⟩
 have HR := HRn
 have hl := hln
 clear HRn hln
 intro X hX
 obtain ⟨Ao, co, P0, P1, P2, po, pb⟩ := id hX
 obtain ⟨-, c1, c2, c3, c4, c5, -⟩ := qr P0
 dsimp only at c1 c2 c3 c4 c5
 have d0 := P2.cell 0
 have zX := P2.lt
 simp only [La, Lb] at d0
 have HS := Lh (qaV (col + 1) (by omega) (by omega) qB hX (by omega))
 obtain ⟨ys, hys⟩ : ∃ y, y = xs ++ qB :: zI (col + 1) := ⟨_, rfl⟩
 rw [<- hys] at HS
 have HRn := yv HR hys
 have hln := yE hl hys (by simp only [List.length_cons]; have := vo (col + 1); omega)
 go_upto_region 24 with (go_at_call 37; refine HS.out.mono ?_; rintro e w1 ⟨rfl, hY⟩)
 refine qc (PhS w ⟨4, row, col, count, til, g⟩ Ag cap r d sp p con k ys) hY ?_
 clear c1 c2 c3 c4 c5 d0 P0 P1 P2 po pb zX
 clear hX hY HS HR hl hys
 clear xs
 obtain ⟨xs, rfl⟩ : ∃ x, x = ys := ⟨_, rfl⟩
 have HR := HRn
 have hl := hln
 clear HRn hln
 intro X hX
 by_cases hc : count = 1
 ·rw [if_pos hc] at HR
  subst hc
  obtain ⟨Ao, co, P0, P1, P2, po, pb⟩ := id hX
  obtain ⟨-, c1, c2, c3, c4, c5, -⟩ := qr P0
  dsimp only at c1 c2 c3 c4 c5
  have d0 := P2.cell 0
  have zX := P2.lt
  simp only [La, Lb] at d0
  have hz4 := pb.size
  go_wp2_with (at_builtin; refine qh rfl _ _ _ rfl qx ((w.heap.size + 3)) _ rfl (qa po ((Below.refl _ _).alloc (Nat.le_refl _) _)) _ _ rfl ((qe (xs := sv [qH]) rfl rfl)) (by first | rfl | exact qN _ | exact qO _) (by omega) (by omega) (by first | (simp; done) | (simp; omega) | omega) ?_; intro A9 c9 w9 qig qin qij hat9; have z9 := qin.size; (try simp only [World.size_alloc] at z9); (try simp only [Nat.zero_add, List.nil_append] at qig))
  go_ret
  exact qa9 HR.out qig (pb.trans ((Below.alloc (Below.refl w.heap.size X) hz4 _).trans (qin.mono (by omega))))
 ·rw [if_neg hc] at HR
  have hcb : (count == 1) = false := beq_eq_false_iff_ne.2 hc
  clear hc
  obtain ⟨Ao, co, P0, P1, P2, po, pb⟩ := id hX
  obtain ⟨-, c1, c2, c3, c4, c5, -⟩ := qr P0
  dsimp only at c1 c2 c3 c4 c5
  have d0 := P2.cell 0
  have zX := P2.lt
  simp only [La, Lb] at d0
  have hz4 := pb.size
  go_wp2_with (at_builtin; refine qh rfl _ _ _ rfl qx ((w.heap.size + 3)) _ rfl (qa po ((Below.refl _ _).alloc (Nat.le_refl _) _)) _ _ rfl ((qe (xs := sv [zo]) rfl rfl)) (by first | rfl | exact qN _ | exact qO _) (by omega) (by omega) (by first | (simp; done) | (simp; omega) | omega) ?_; intro A9 c9 w9 qig qin qij hat9; have z9 := qin.size; (try simp only [World.size_alloc] at z9); (try simp only [Nat.zero_add, List.nil_append] at qig))
  go_ret
  exact qa9 HR.out qig (pb.trans ((Below.alloc (Below.refl w.heap.size X) hz4 _).trans (qin.mono (by omega))))
end Go.Proofs.YtlndbiamiioakaaGreatDoor
namespace Go.Proofs.YtlndbiamiioakaaGreatDoor
open Go.Proofs.Tryz Go.RowKit
section
variable {P : Program} {G : Type}
def EachG (P : Program) (V : G -> Nat -> Value -> World -> Prop) (C : G -> Array Bool -> Prop) (W : G -> World -> Prop) (Q : Exit -> Act -> World -> Prop) (l : List Oper) (a : Act) : List Oper -> Nat -> Prop
 | [], _ => True
 | o :: rest, i => (∀ (s : G) (L : Array Bool) (a' : Act) (w' : World), C s L -> W s w' -> L.size = l.length -> L.getD i false = false -> (∀ e ∈ o.after, Region.binds .any e = true -> L.getD e.on false = true) -> a'.tmps.size = a.tmps.size -> (∀ t, (l.filterMap (·.dst)).contains t = false -> a'.tmps.getD t undef = a.tmps.getD t undef) ->
   (∀ e ∈ o.after, Region.binds .any e = true -> ∀ oe d, l[e.on]? = some oe -> oe.dst = some d -> V s e.on (a'.tmps.getD d undef) w') ->
   o.guard = none /\ o.wp P a' w' (fun a'' w'' => ∃ v s', a'' = a'.put o.dst v /\ C s' (L.setIfInBounds i true) /\ W s' w'' /\ V s' i v w'' /\ ∀ j u, j ≠ i -> L.getD j false = true -> V s j u w' -> V s' j u w'') Q) /\ EachG P V C W Q l a rest (i + 1)
theorem EachG.at_ {V : G -> Nat -> Value -> World -> Prop} {C : G -> Array Bool -> Prop} {W : G -> World -> Prop} {Q : Exit -> Act -> World -> Prop} {l : List Oper} {a : Act} : ∀ (r : List Oper) (k i : Nat) (o : Oper), EachG P V C W Q l a r k -> r[i]? = some o ->
  (∀ (s : G) (L : Array Bool) (a' : Act) (w' : World), C s L -> W s w' -> L.size = l.length -> L.getD (k + i) false = false -> (∀ e ∈ o.after, Region.binds .any e = true -> L.getD e.on false = true) -> a'.tmps.size = a.tmps.size -> (∀ t, (l.filterMap (·.dst)).contains t = false -> a'.tmps.getD t undef = a.tmps.getD t undef) ->
   (∀ e ∈ o.after, Region.binds .any e = true -> ∀ oe d, l[e.on]? = some oe -> oe.dst = some d -> V s e.on (a'.tmps.getD d undef) w') ->
   o.guard = none /\ o.wp P a' w' (fun a'' w'' => ∃ v s', a'' = a'.put o.dst v /\ C s' (L.setIfInBounds (k + i) true) /\ W s' w'' /\ V s' (k + i) v w'' /\ ∀ j u, j ≠ k + i -> L.getD j false = true -> V s j u w' -> V s' j u w'') Q)
 | [], _, _, _, _, h => by cases h
 | o :: r, k, 0, o', h, hi => by
  obtain rfl : o = o' := by simpa using hi
  exact h.1
 | o :: r, k, i + 1, o', h, hi => by
  have := EachG.at_ r (k + 1) i o' h.2 (by simpa using hi)
  rwa [show k + 1 + i = k + (i + 1) by omega] at this
def EachH (V : G -> Nat -> Value -> World -> Prop) (C : G -> Array Bool -> Prop) (W : G -> World -> Prop) (l : List Oper) (a : Act) (listed : Array Bool) (a' : Act) (w' : World) : Prop :=
 ∃ s, C s listed /\ W s w' /\ a'.tmps.size = a.tmps.size /\ a'.defers = a.defers /\ (∀ t, (l.filterMap (·.dst)).contains t = false -> a'.tmps.getD t undef = a.tmps.getD t undef) /\
  (∀ i o d, l[i]? = some o -> listed.getD i true = true -> o.dst = some d -> V s i (a'.tmps.getD d undef) w')
theorem qhg {V : G -> Nat -> Value -> World -> Prop} {C : G -> Array Bool -> Prop} {W : G -> World -> Prop} {Q : Exit -> Act -> World -> Prop} {l : List Oper} {a : Act} (hB : eachB l a.tmps.size = true)
  (hop : EachG P V C W Q l a l 0)
  (hend : ∀ (s : G) (L : Array Bool) (a' : Act) (w' : World), C s L -> L.size = l.length -> (∀ i, i < l.length -> L.getD i true = true) -> W s w' -> a'.tmps.size = a.tmps.size -> a'.defers = a.defers -> (∀ s, (l.filterMap (·.dst)).contains s = false -> a'.tmps.getD s undef = a.tmps.getD s undef) -> (∀ i o d, l[i]? = some o -> o.dst = some d -> V s i (a'.tmps.getD d undef) w') -> Q .normal a' w') :
  ∀ (fuel : Nat) (listed : Array Bool) (a' : Act) (w' : World), listed.size = l.length -> ((List.range l.length).filter fun i => !listed.getD i true).length <= fuel -> EachH V C W l a listed a' w' -> wpAny P .any l.toArray Q fuel listed a' w' := by
 unfold eachB at hB
 simp only [Bool.and_eq_true, List.all_eq_true, decide_eq_true_eq] at hB
 obtain ⟨⟨hlt, hnd⟩, hord⟩ := hB
 have hdis : ∀ (i j : Nat) (oi oj : Oper) (d : Tmp), l[i]? = some oi -> l[j]? = some oj -> i ≠ j -> oi.dst = some d -> oj.dst ≠ some d := by
  intro i j oi oj d hi hj hij hdi hdj
  have key : ∀ (l : List Oper) (i j : Nat), (l.filterMap (·.dst)).Nodup -> l[i]? = some oi -> l[j]? = some oj -> i < j -> False := by
   intro l
   induction l with
   | nil => intro i j _ h; simp at h
   | cons o l ih =>
    intro i j hn h1 h2 hlt
    cases j with
    | zero => omega
    | succ j =>
     rw [Lc] at h2
     have hmem : d ∈ l.filterMap (·.dst) := List.mem_filterMap.2 ⟨oj, List.mem_of_getElem? h2, hdj⟩
     cases i with
     | zero =>
      obtain rfl : o = oi := by simpa using h1
      rw [List.filterMap_cons, hdi] at hn
      exact (List.nodup_cons.1 hn).1 hmem
     | succ i =>
      rw [Lc] at h1
      refine ih i j ?_ h1 h2 (by omega)
      cases ho : o.dst with
      | none => rw [List.filterMap_cons, ho] at hn; exact hn
      | some e => rw [List.filterMap_cons, ho] at hn; exact (List.nodup_cons.1 hn).2
  rcases Nat.lt_or_gt_of_ne hij with h | h
  ·exact key l i j hnd hi hj h
  ·have key2 : ∀ (l : List Oper) (i j : Nat), (l.filterMap (·.dst)).Nodup -> l[i]? = some oj -> l[j]? = some oi -> i < j -> False := by
    intro l
    induction l with
    | nil => intro i j _ h; simp at h
    | cons o l ih =>
     intro i j hn h1 h2 hlt
     cases j with
     | zero => omega
     | succ j =>
      rw [Lc] at h2
      have hmem : d ∈ l.filterMap (·.dst) := List.mem_filterMap.2 ⟨oi, List.mem_of_getElem? h2, hdi⟩
      cases i with
      | zero =>
       obtain rfl : o = oj := by simpa using h1
       rw [List.filterMap_cons, hdj] at hn
       exact (List.nodup_cons.1 hn).1 hmem
      | succ i =>
       rw [Lc] at h1
       refine ih i j ?_ h1 h2 (by omega)
       cases ho : o.dst with
       | none => rw [List.filterMap_cons, ho] at hn; exact hn
       | some e => rw [List.filterMap_cons, ho] at hn; exact (List.nodup_cons.1 hn).2
   exact key2 l j i hnd hj hi h
 have hin : ∀ {i : Nat} {o : Oper} {d : Nat}, l[i]? = some o -> o.dst = some d -> d ∈ l.filterMap (·.dst) := fun hi hd => List.mem_filterMap.2 ⟨_, List.mem_of_getElem? hi, hd⟩
 have hall : ∀ {listed : Array Bool}, listed.size = l.length -> Region.ready .any l.toArray listed = [] -> ∀ i, i < l.length -> listed.getD i true = true := by
  intro listed hsz hr i
  induction i using Nat.strongRecOn with
  | ind i ih =>
   intro hi
   cases hli : listed.getD i true with
   | true => rfl
   | false =>
    exfalso
    have ho : l[i]? = some (l[i]'hi) := List.getElem?_eq_getElem hi
    have hm : i ∈ Region.ready .any l.toArray listed := by
     refine mem_ready.2 ⟨hli, l[i]'hi, by simpa using ho, fun e he hb => ?_⟩
     have h1 := hord i (List.mem_range.2 hi)
     rw [ho] at h1
     simp only [Array.all_eq_true_iff_forall_mem] at h1
     have h2 := h1 e he
     rw [hb] at h2
     simp only [Bool.not_true, Bool.false_or, decide_eq_true_eq] at h2
     have h3 := ih e.on h2 (by omega)
     rw [Array.getD_eq_getD_getElem?] at h3 ⊢
     rw [Array.getElem?_eq_getElem (by omega)] at h3 ⊢
     exact h3
    rw [hr] at hm
    cases hm
 intro fuel
 induction fuel with
 | zero =>
  intro listed a' w' hsz hf hJ
  have hr : Region.ready .any l.toArray listed = [] := by
   rw [List.eq_nil_iff_forall_not_mem]
   intro i hi
   obtain ⟨h1, o, h2, _⟩ := mem_ready.1 hi
   have hil : i < l.length := by
    rcases Nat.lt_or_ge i l.length with h | h
    ·exact h
    ·rw [La, List.getElem?_eq_none h] at h2; cases h2
   have : i ∈ (List.range l.length).filter fun i => !listed.getD i true := List.mem_filter.2 ⟨List.mem_range.2 hil, by rw [h1]; rfl⟩
   rw [List.length_eq_zero_iff.1 (Nat.le_zero.1 hf)] at this
   cases this
  obtain ⟨s, jc, j1, j2, j3, j4, j5⟩ := hJ
  exact ⟨hr, hend s listed a' w' jc hsz (hall hsz hr) j1 j2 j3 j4 fun i o d hi hd => j5 i o d hi (hall hsz hr i (by
   rcases Nat.lt_or_ge i l.length with h | h
   ·exact h
   ·rw [List.getElem?_eq_none h] at hi; cases hi)) hd⟩
 | succ fuel ih =>
  intro listed a' w' hsz hf hJ
  have hJ' := hJ
  obtain ⟨s, jc, j1, j2, j3, j4, j5⟩ := hJ'
  refine ⟨fun hr => hend s listed a' w' jc hsz (hall hsz hr) j1 j2 j3 j4 fun i o d hi hd => j5 i o d hi (hall hsz hr i (by
   rcases Nat.lt_or_ge i l.length with h | h
   ·exact h
   ·rw [List.getElem?_eq_none h] at hi; cases hi)) hd, fun i hi => ?_⟩
  obtain ⟨h1, o, h2, h3⟩ := mem_ready.1 hi
  rw [La] at h2
  have hil : i < l.length := by
   rcases Nat.lt_or_ge i l.length with h | h
   ·exact h
   ·rw [List.getElem?_eq_none h] at h2; cases h2
  have hgd : ∀ j, j < l.length -> listed.getD j false = true -> listed.getD j true = true := fun j hj h => by
   rw [Array.getD_eq_getD_getElem?] at h ⊢
   rw [Array.getElem?_eq_getElem (by omega)] at h ⊢
   exact h
  have hnot : listed.getD i false = false := by
   rw [Array.getD_eq_getD_getElem?] at h1 ⊢
   rw [Array.getElem?_eq_getElem (by omega)] at h1 ⊢
   exact h1
  have hstep := EachG.at_ l 0 i o hop h2 s listed a' w' jc j1 hsz (by rw [Nat.zero_add]; exact hnot) (fun e he hb => h3 e he hb) j2 j4 fun e he hb oe d hoe hd => j5 e.on oe d hoe (hgd e.on (by
   rcases Nat.lt_or_ge e.on l.length with h | h
   ·exact h
   ·rw [List.getElem?_eq_none h] at hoe; cases hoe) (h3 e he hb)) hd
  rw [Nat.zero_add] at hstep
  have hsz' : (listed.setIfInBounds i true).size = l.length := by rw [Array.size_setIfInBounds]; exact hsz
  have hset : ∀ j, (listed.setIfInBounds i true).getD j true = true -> j = i ∨ listed.getD j true = true := fun j h => by
   by_cases hji : j = i
   ·exact .inl hji
   ·right
    rw [Array.getD_eq_getD_getElem?, Array.getElem?_setIfInBounds_ne (Ne.symm hji)] at h
    rw [Array.getD_eq_getD_getElem?]
    exact h
  have hfl : ((List.range l.length).filter fun j => !(listed.setIfInBounds i true).getD j true).length <= fuel := by
   have key : ∀ (L : List Nat), i ∈ L -> L.Nodup -> (L.filter fun j => !(listed.setIfInBounds i true).getD j true).length + 1 <= (L.filter fun j => !listed.getD j true).length := by
    intro L
    induction L with
    | nil => intro h; cases h
    | cons x L ihL =>
     intro hm hn
     have hx := List.nodup_cons.1 hn
     by_cases hxi : x = i
     ·subst hxi
      have e1 : (listed.setIfInBounds x true).getD x true = true := by
       rw [Array.getD_eq_getD_getElem?]
       simp [hsz, hil]
      rw [List.filter_cons, List.filter_cons, e1, h1]
      simp only [Bool.not_true, Bool.not_false, if_true, Bool.false_eq_true, if_false, List.length_cons]
      have : (L.filter fun j => !(listed.setIfInBounds x true).getD j true) = L.filter fun j => !listed.getD j true := by
       refine List.filter_congr fun j hj => ?_
       have hjx : j ≠ x := fun e => hx.1 (e ▸ hj)
       rw [Array.getD_eq_getD_getElem?, Array.getElem?_setIfInBounds_ne (Ne.symm hjx), <- Array.getD_eq_getD_getElem?]
      rw [this]
      exact Nat.le_refl _
     ·have hm' : i ∈ L := by
       rcases List.mem_cons.1 hm with h | h
       ·exact absurd h.symm hxi
       ·exact h
      have := ihL hm' hx.2
      rw [List.filter_cons, List.filter_cons, show (listed.setIfInBounds i true).getD x true = listed.getD x true by
       rw [Array.getD_eq_getD_getElem?, Array.getElem?_setIfInBounds_ne (Ne.symm hxi), <- Array.getD_eq_getD_getElem?]]
      split
      ·simp only [List.length_cons]; omega
      ·exact this
   have := key (List.range l.length) (List.mem_range.2 hil) List.nodup_range
   omega
  have hnew : ∀ v w'' s', C s' (listed.setIfInBounds i true) -> W s' w'' -> V s' i v w'' -> (∀ j u, j ≠ i -> listed.getD j false = true -> V s j u w' -> V s' j u w'') -> EachH V C W l a (listed.setIfInBounds i true) (a'.put o.dst v) w'' := fun v w'' s' hc hw hv ht => by
   refine ⟨s', hc, hw, by rw [put_size]; exact j2, by rw [put_defs]; exact j3, fun t hs => ?_, fun j oj d hj hl hd => ?_⟩
   ·cases hod : o.dst with
    | none => exact j4 t hs
    | some d =>
     rw [qeb fun e => ?_]
     ·exact j4 t hs
     ·subst e
      rw [List.contains_iff_mem.2 (hin h2 hod)] at hs
      cases hs
   ·by_cases hji : j = i
    ·subst hji
     obtain rfl : o = oj := by rw [h2] at hj; injection hj
     rw [hd, put_same (by rw [j2]; exact hlt d (hin h2 hd))]
     exact hv
    ·have hl' : listed.getD j true = true := (hset j hl).resolve_left hji
     have hjl : j < l.length := by
      rcases Nat.lt_or_ge j l.length with h | h
      ·exact h
      ·rw [List.getElem?_eq_none h] at hj; cases hj
     have hl2 : listed.getD j false = true := by
      rw [Array.getD_eq_getD_getElem?] at hl' ⊢
      rw [Array.getElem?_eq_getElem (by omega)] at hl' ⊢
      exact hl'
     have hvj := ht j _ hji hl2 (j5 j oj d hj hl' hd)
     cases hod : o.dst with
     | none => exact hvj
     | some d' =>
      rw [qeb fun e => ?_]
      ·exact hvj
      ·subst e
       exact hdis j i oj o d hj h2 hji hd hod
  unfold wpOp
  rw [La, h2]
  simp only
  rw [if_pos (by simp [Region.wanted, hstep.1])]
  exact .inl (Oper.wp_mono (fun a'' w'' ⟨v, s', e, hc, hw', hv, ht⟩ => by
   subst e
   exact ih _ _ _ hsz' hfl (hnew v w'' s' hc hw' hv ht)) hstep.2)
theorem qbC {V : G -> Nat -> Value -> World -> Prop} {C : G -> Array Bool -> Prop} {W : G -> World -> Prop} {Q : Exit -> Act -> World -> Prop} {l : List Oper} {a : Act} {w : World} {id : Nat} (hm : P.follows .mixedOrders = true) (hB : eachB l a.tmps.size = true)
  (s0 : G) (hc : C s0 (Array.replicate l.length false)) (hw : W s0 w.drew)
  (hop : EachG P V C W Q l a l 0)
  (hend : ∀ (s : G) (L : Array Bool) (a' : Act) (w' : World), C s L -> L.size = l.length -> (∀ i, i < l.length -> L.getD i true = true) -> W s w' -> a'.tmps.size = a.tmps.size -> a'.defers = a.defers -> (∀ s, (l.filterMap (·.dst)).contains s = false -> a'.tmps.getD s undef = a.tmps.getD s undef) -> (∀ i o d, l[i]? = some o -> o.dst = some d -> V s i (a'.tmps.getD d undef) w') -> Q .normal a' w') :
  (Code.region id l.toArray true).wp P Q a w := by
 refine wp_region_any hm (qhg hB hop hend _ _ _ _ (by simp) ?_ ⟨s0, by simp only [List.size_toArray]; exact hc, hw, rfl, rfl, fun _ _ => rfl, fun i o d hi hl _ => ?_⟩)
 ·rw [List.size_toArray]
  exact Nat.le_trans (List.length_filter_le _ _) (by simp)
 ·exfalso
  have hil : i < l.length := by
   rcases Nat.lt_or_ge i l.length with h | h
   ·exact h
   ·rw [List.getElem?_eq_none h] at hi; cases hi
  rw [Array.getD_eq_getD_getElem?] at hl
  simp [hil] at hl
end
end Go.Proofs.YtlndbiamiioakaaGreatDoor
namespace Go.Proofs.YtlndbiamiioakaaGreatDoor
open Go.Proofs.Tryz Go.RowKit
set_option maxRecDepth 20000
theorem ne_low {X : World} {base size n : Nat} {e : TypeId} {v : Value} {xs : List Value} (h : X.ownsRow base e size v n xs) {b : Nat} (hb : X.heap.size <= b) : some b ≠ v.ownBlock := fun h' => by
 have := (h.lt b h'.symm).2
 omega
theorem rd_blk {X : World} {b : Nat} {e : TypeId} {v : Value} (h : Blk X b e #[v]) : Rd X X.heap.size 1 (some ⟨b, 0, none⟩) 1 [v] :=
 Rd.some_ rfl h.lt fun j u hu => by
  rw [Nat.zero_add, h.cell j]
  simpa using hu
def OneS (lo : Nat) (rho : Value) (x : ByteArray) (v : Value) (wx : World) : Prop := ∃ b, v = .slice (some ⟨b, 0, none⟩) 1 1 /\ Blk wx b 9 #[.string x] /\ lo <= b /\ some b ≠ rho.ownBlock
theorem OneS.on {lo : Nat} {rho v : Value} {x : ByteArray} {w w' : World} (h : OneS lo rho x v w) (hb : Below w.heap.size w w') : OneS lo rho x v w' := by
 obtain ⟨b, e, hk, hl, hn⟩ := h
 exact ⟨b, e, hk.below hb hk.lt, hl, hn⟩
theorem OneS.app {lo : Nat} {rho rho' v : Value} {x : ByteArray} {w w' : World} (h : OneS lo rho x v w) (hg : w.grownBy w' rho.ownBlock) (hat : rho'.ownBlock = rho.ownBlock ∨ rho'.ownBlock = some w.heap.size) : OneS lo rho' x v w' := by
 obtain ⟨b, e, hk, hl, hn⟩ := h
 refine ⟨b, e, hk.grown hg hn, hl, fun h' => ?_⟩
 rcases hat with h | h
 ·exact hn (h'.trans h)
 ·rw [h] at h'
  cases h'
  exact Nat.lt_irrefl _ hk.lt
def RowS (lo : Nat) (rho : Value) (l : List ByteArray) (v : Value) (wx : World) : Prop := ∃ A c, v = .slice A l.length c /\ wx.ownsRow lo 9 1 v l.length (sv l) /\ (v.ownBlock = none ∨ v.ownBlock ≠ rho.ownBlock)
theorem RowS.on {lo : Nat} {rho v : Value} {x : List ByteArray} {w w' : World} (h : RowS lo rho x v w) (hb : Below w.heap.size w w') : RowS lo rho x v w' := by
 obtain ⟨A, c, e, ho, hn⟩ := h
 exact ⟨A, c, e, qa ho hb, hn⟩
theorem RowS.app {lo : Nat} {rho rho' v : Value} {x : List ByteArray} {w w' : World} (h : RowS lo rho x v w) (hg : w.grownBy w' rho.ownBlock) (hat : rho'.ownBlock = rho.ownBlock ∨ rho'.ownBlock = some w.heap.size) : RowS lo rho' x v w' := by
 obtain ⟨A, c, e, ho, hn⟩ := h
 refine ⟨A, c, e, ho.kept hg hn, ?_⟩
 rcases hk : v.ownBlock with _ | k
 ·exact .inl rfl
 ·right
  intro h'
  rcases hat with h | h
  ·rcases hn with h0 | h0
   ·rw [hk] at h0; cases h0
   ·exact h0 (hk.trans (h'.trans h))
  ·rw [h] at h'
   cases h'
   exact Nat.lt_irrefl _ (ho.lt _ hk).2
def rwL (xs SW : List ByteArray) : Nat -> List ByteArray
 | 0 => xs
 | 1 => xs ++ [qK]
 | 2 => xs ++ [qK] ++ SW
 | _ => xs ++ [qK] ++ SW ++ [jb]
def rgV (h lo : Nat) (v0 : Value) (Ag : Option Addr) (gl cap : Nat) (st : Value) (SW : List ByteArray) (s : Nat × Value) (i : Nat) (v : Value) (wx : World) : Prop := match i with
 | 0 => v = v0
 | 1 => s.1 = 0 -> OneS lo s.2 qK v wx
 | 2 => s.1 = 1 -> v = s.2
 | 3 => v = .pointer (some ⟨h, 5, none⟩)
 | 4 => v = .slice Ag gl cap
 | 5 => v = st
 | 6 => s.1 <= 1 -> RowS lo s.2 SW v wx
 | 7 => s.1 = 2 -> v = s.2
 | 8 => s.1 <= 2 -> OneS lo s.2 jb v wx
 | 9 => s.1 = 3 -> v = s.2
 | _ => True
theorem rgV.on {h lo : Nat} {v0 : Value} {Ag : Option Addr} {gl cap : Nat} {st : Value} {SW : List ByteArray} {s : Nat × Value} {i : Nat} {v : Value} {w w' : World} (H : rgV h lo v0 Ag gl cap st SW s i v w) (hb : Below w.heap.size w w') : rgV h lo v0 Ag gl cap st SW s i v w' := by
 unfold rgV at *
 split at H <;> first | exact H | exact fun e => (H e).on hb
def rgC (s : Nat × Value) (L : Array Bool) : Prop := (L.size = 11 /\ L.getD 2 false = decide (1 <= s.1) /\ L.getD 7 false = decide (2 <= s.1) /\ L.getD 9 false = decide (3 <= s.1) /\ L.getD 10 false = decide (4 <= s.1)) /\
 (1 <= s.1 -> L.getD 0 false = true /\ L.getD 1 false = true) /\ (2 <= s.1 -> L.getD 6 false = true) /\ (3 <= s.1 -> L.getD 8 false = true) /\ (L.getD 6 false = true -> L.getD 4 false = true /\ L.getD 5 false = true)
theorem qhc {L : Array Bool} {i : Nat} (h : L.getD i true = true) (hi : i < L.size) : L.getD i false = true := by
 rw [Array.getD_eq_getD_getElem?, Array.getElem?_eq_getElem hi] at h ⊢
 exact h
theorem qX {L : Array Bool} {i j : Nat} (h : j ≠ i) : (L.setIfInBounds i true).getD j false = L.getD j false := by
 rw [Array.getD_eq_getD_getElem?, Array.getD_eq_getD_getElem?, Array.getElem?_setIfInBounds_ne (Ne.symm h)]
theorem yf {L : Array Bool} {i : Nat} (h : i < L.size) : (L.setIfInBounds i true).getD i false = true := by
 rw [Array.getD_eq_getD_getElem?, Array.getElem?_setIfInBounds_self_of_lt h]
 rfl
theorem vr {L : Array Bool} {i j : Nat} (h : L.getD j false = true) : (L.setIfInBounds i true).getD j false = true := by
 by_cases e : j = i
 ·subst e
  have hl : j < L.size := by
   rcases Nat.lt_or_ge j L.size with h' | h'
   ·exact h'
   ·rw [Array.getD_eq_getD_getElem?, Array.getElem?_eq_none h'] at h; cases h
  exact yf hl
 ·rw [qX e]; exact h
theorem rgC.step {s s' : Nat × Value} {L : Array Bool} (h : rgC s L) {i : Nat} (h2 : (L.setIfInBounds i true).getD 2 false = decide (1 <= s'.1)) (h7 : (L.setIfInBounds i true).getD 7 false = decide (2 <= s'.1)) (h9 : (L.setIfInBounds i true).getD 9 false = decide (3 <= s'.1)) (h10 : (L.setIfInBounds i true).getD 10 false = decide (4 <= s'.1))
  (g0 : 1 <= s'.1 -> 1 <= s.1 ∨ L.getD 0 false = true /\ L.getD 1 false = true) (g6 : 2 <= s'.1 -> 2 <= s.1 ∨ L.getD 6 false = true) (g8 : 3 <= s'.1 -> 3 <= s.1 ∨ L.getD 8 false = true) (g4 : i = 6 -> L.getD 4 false = true /\ L.getD 5 false = true) : rgC s' (L.setIfInBounds i true) := by
 obtain ⟨⟨a0, a1, a2, a3, a4⟩, b1, b2, b3, b4⟩ := h
 refine ⟨⟨by rw [Array.size_setIfInBounds]; exact a0, h2, h7, h9, h10⟩, fun e => ?_, fun e => ?_, fun e => ?_, fun e => ?_⟩
 ·have := (g0 e).elim b1 id
  exact ⟨vr this.1, vr this.2⟩
 ·exact vr ((g6 e).elim b2 id)
 ·exact vr ((g8 e).elim b3 id)
 ·by_cases h6 : i = 6
  ·exact ⟨vr (g4 h6).1, vr (g4 h6).2⟩
  ·rw [qX (Ne.symm h6)] at e
   exact ⟨vr (b4 e).1, vr (b4 e).2⟩
theorem rgC.other {s : Nat × Value} {L : Array Bool} (h : rgC s L) {i : Nat} (h2 : 2 ≠ i) (h7 : 7 ≠ i) (h9 : 9 ≠ i) (h10 : 10 ≠ i) (h6 : i = 6 -> L.getD 4 false = true /\ L.getD 5 false = true) : rgC s (L.setIfInBounds i true) :=
 h.step (by rw [qX h2]; exact h.1.2.1) (by rw [qX h7]; exact h.1.2.2.1) (by rw [qX h9]; exact h.1.2.2.2.1) (by rw [qX h10]; exact h.1.2.2.2.2) .inl .inl .inl h6
def rgW (X : World) (h : Nat) (v0 : Value) (xs SW : List ByteArray) (s : Nat × Value) (wx : World) : Prop :=
 (∃ A c, s.2 = .slice A (rwL xs SW s.1).length c) /\ wx.ownsRow (h + 3) 9 1 s.2 (rwL xs SW s.1).length (sv (rwL xs SW s.1)) /\ (s.1 = 0 -> s.2 = v0) /\ s.1 <= 4 /\ X.heap.size <= wx.heap.size /\
  (s.1 <= 3 -> Below (h + 3) X wx) /\ (s.1 = 4 -> Below (h + 2) X wx /\ Blk wx (h + 2) 22 #[s.2])
theorem rgW.on {X : World} {h : Nat} {v0 : Value} {xs SW : List ByteArray} {s : Nat × Value} {w w' : World} (H : rgW X h v0 xs SW s w) (hX : h + 3 <= X.heap.size) (hb : Below w.heap.size w w') : rgW X h v0 xs SW s w' := by
 obtain ⟨h1, h2, h3, h4, h5, h6, h7⟩ := H
 exact ⟨h1, qa h2 hb, h3, h4, Nat.le_trans h5 hb.size, fun e => (h6 e).trans (hb.mono (by omega)), fun e => ⟨(h7 e).1.trans (hb.mono (by omega)), (h7 e).2.below hb (h7 e).2.lt⟩⟩
section
variable {a : Act} {w : World} {K : Act -> World -> Prop} {Q : Exit -> Act -> World -> Prop}
theorem qcT {P : Program} {o : Oper} {v : Value} {w' : World} (h : (execOp a.eval o).run P w = .ok (.value v) w') (hk : K (a.put o.dst v) w') : o.wp P a w K Q := by
 unfold Oper.wp
 rw [h]
 exact hk
theorem qh6 {P : Program} {o : Oper} {w' : World} (h : (execOp a.eval o).run P w = .ok .skip w') (hk : K (a.put o.dst undef) w') : o.wp P a w K Q := by
 unfold Oper.wp
 rw [h]
 exact hk
theorem qb7 {o : Oper} {v : Value} (ho : o.op = .buildSlice 22 1 #[(0, .const v)]) (hv : v.oneCell' = true) : (execOp a.eval o).run prog w = .ok (.value (.slice (some ⟨w.heap.size, 0, none⟩) 1 1)) (w.alloc (.cells #[v] 9)) := by
 unfold execOp
 simp only [ho]
 cases v <;> first | (cases hv; done) | go_simp
end
theorem qdv {a : Act} {w : World} {o : Oper} {p x : Operand} {g i : Nat} {u : Value} {A : Option Addr} {n c : Nat} (ho : o.op = .store 22 p x) (hp : a.eval p = .pointer (some ⟨g, i, none⟩)) (hx : a.eval x = .slice A n c) (hc : w.cell? ⟨g, i, none⟩ = some u) (hf : w.frozen? ⟨g, i, none⟩ = false) :
  (execOp a.eval o).run prog w = .ok .skip (w.setCell ⟨g, i, none⟩ (.slice A n c)) := by
 unfold execOp
 simp only [ho, hp, hx]
 go_simp
theorem run_fa5 {a : Act} {w : World} {o : Oper} {p : Operand} {g : Nat} (ho : o.op = .fieldAddr 34 p 5) (hp : a.eval p = .pointer (some ⟨g, 0, none⟩)) : (execOp a.eval o).run prog w = .ok (.value (.pointer (some ⟨g, 5, none⟩))) w := by
 unfold execOp
 simp only [ho, hp]
 go_simp
theorem load_ws {w : World} {g i : Nat} {v : Value} (h : w.cell? ⟨g, i, none⟩ = some v) : (Instr.loadAt 22 (.pointer (some ⟨g, i, none⟩))).run prog w = .ok v w := by go_simp
theorem load_gs {w : World} {g i : Nat} {v : Value} (h : w.cell? ⟨g, i, none⟩ = some v) : (Instr.loadAt 32 (.pointer (some ⟨g, i, none⟩))).run prog w = .ok v w := by go_simp
end Go.Proofs.YtlndbiamiioakaaGreatDoor
