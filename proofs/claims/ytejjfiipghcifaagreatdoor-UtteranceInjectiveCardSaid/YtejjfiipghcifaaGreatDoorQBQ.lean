/- Joined texts: Up2, EachG. -/
import Derived.Test.YtejjfiipghcifaaGreatDoorQAA
import Derived.Test.YtejjfiipghcifaaGreatDoorQAB
import Derived.Test.YtejjfiipghcifaaGreatDoorQAC
import Derived.Test.YtejjfiipghcifaaGreatDoorQAD
import Derived.Test.YtejjfiipghcifaaGreatDoorQAG
import Derived.Test.YtejjfiipghcifaaGreatDoorQAH
import Derived.Test.YtejjfiipghcifaaGreatDoorQAJ
import Derived.Test.YtejjfiipghcifaaGreatDoorQAN
import Derived.Test.YtejjfiipghcifaaGreatDoorQAO
import Derived.Test.YtejjfiipghcifaaGreatDoorQAR
import Derived.Test.YtejjfiipghcifaaGreatDoorQAU
import Derived.Test.YtejjfiipghcifaaGreatDoorQAV
import Derived.Test.YtejjfiipghcifaaGreatDoorQAW
import Derived.Test.YtejjfiipghcifaaGreatDoorQBA
import Derived.Test.YtejjfiipghcifaaGreatDoorQBC
import Derived.Test.YtejjfiipghcifaaGreatDoorQBD
import Derived.Test.YtejjfiipghcifaaGreatDoorQBE
import Derived.Test.YtejjfiipghcifaaGreatDoorQBF
import Derived.Test.YtejjfiipghcifaaGreatDoorQBP
set_option linter.unusedVariables false
set_option linter.unusedSimpArgs false
set_option linter.unnecessarySimpa false
namespace Go.Proofs.YtejjfiipghcifaaGreatDoor
open Go.RowKit
set_option maxRecDepth 20000
def PhS (w : World) (c : Chg) (Ag : Option Addr) (cap : Nat) (r : Int) (d sp : Bool) (p : Int) (con : Bool) (k : Int) (xs : List ByteArray) (X : World) : Prop :=
 ∃ A co, Blk X w.heap.size 46 (chgA c Ag cap) ∧ Blk X (w.heap.size + 1) 24 #[.int .i64 r, .bool d, .bool sp, .int .i64 p, .bool con, .int .i64 k] ∧ Blk X (w.heap.size + 2) 27 #[.slice A xs.length co] ∧ X.ownsRow (w.heap.size + 3) 9 1 (.slice A xs.length co) xs.length (sv xs) ∧ Below w.heap.size w X
section
variable {w X : World} {c : Chg} {Ag : Option Addr} {cap : Nat} {r : Int} {d sp : Bool} {p : Int} {con : Bool} {k : Int} {xs : List ByteArray}
theorem PhS.size (h : PhS w c Ag cap r d sp p con k xs X) : w.heap.size + 3 ≤ X.heap.size := by
 obtain ⟨A, co, h1, h2, h3, h4, h5⟩ := h
 have := h3.lt
 omega
theorem PhS.say (h : PhS w c Ag cap r d sp p con k xs X) (ws : List ByteArray) (n : Int) (h1 : -999999999 ≤ n) (h2 : n ≤ 999999999) (hw : ws.length ≤ 1000) (hx : xs.length ≤ 100000000) :
  Calls Tryz.prog 40 #[.int .i64 n, .slice (some ⟨X.heap.size, 0, none⟩) ws.length ws.length, .pointer (some ⟨w.heap.size + 2, 0, none⟩)] (X.alloc (.cells (sv ws).toArray 9)) fun e w' => e = .returned (.tuple #[]) ∧ PhS w c Ag cap r d sp p con k (xs ++ ws ++ numI n) w' := by
 have hz := h.size
 obtain ⟨A, co, b1, b2, b3, b4, b5⟩ := h
 have ha : Below X.heap.size X (X.alloc (.cells (sv ws).toArray 9)) := (Below.refl _ _).alloc (Nat.le_refl _) _
 refine (psay_ n h1 h2 ws xs (some ⟨X.heap.size, 0, none⟩) ws.length ws.length (w.heap.size + 2) (w.heap.size + 3) _ hw hx ?_ ⟨A, co, b3.below ha b3.lt, own_below b4 ha⟩ (by omega) (by simp; omega)).mono ?_
 ·exact (rd_built rfl (by rw [sv_len, Nat.mul_one])).more (by simp)
 ·rintro e w' ⟨rfl, ⟨A', co', g3, g4⟩, g5⟩
  exact ⟨rfl, A', co', (b1.below ha b1.lt).below g5 (by omega), (b2.below ha b2.lt).below g5 (by omega), g3, g4, (b5.trans (ha.mono (by omega))).trans (g5.mono (by omega))⟩
theorem psay1 (n : Int) (h1 : -999999999 ≤ n) (h2 : n ≤ 999999999) (a : ByteArray) (h : PhS w c Ag cap r d sp p con k xs X) (hx : xs.length ≤ 100000000) :
  Calls Tryz.prog 40 #[.int .i64 n, .slice (some ⟨X.heap.size, 0, none⟩) 1 1, .pointer (some ⟨w.heap.size + 2, 0, none⟩)] (X.alloc (.cells #[.string a] 9)) fun e w' => e = .returned (.tuple #[]) ∧ PhS w c Ag cap r d sp p con k (xs ++ a :: numI n) w' := by
 have := h.say [a] n h1 h2 (by simp) hx
 rw [List.append_assoc] at this
 exact this
theorem psay2 (n : Int) (h1 : -999999999 ≤ n) (h2 : n ≤ 999999999) (a b : ByteArray) (h : PhS w c Ag cap r d sp p con k xs X) (hx : xs.length ≤ 100000000) :
  Calls Tryz.prog 40 #[.int .i64 n, .slice (some ⟨X.heap.size, 0, none⟩) 2 2, .pointer (some ⟨w.heap.size + 2, 0, none⟩)] (X.alloc (.cells #[.string a, .string b] 9)) fun e w' => e = .returned (.tuple #[]) ∧ PhS w c Ag cap r d sp p con k (xs ++ a :: b :: numI n) w' := by
 have := h.say [a, b] n h1 h2 (by simp) hx
 rw [List.append_assoc] at this
 exact this
theorem PhS.start (w : World) (c : Chg) (Ag : Option Addr) (cap : Nat) (r : Int) (d sp : Bool) (p : Int) (con : Bool) (k : Int) :
  PhS w c Ag cap r d sp p con k [] (((w.alloc (.cells (chgA c Ag cap) 46)).alloc (.cells #[.int .i64 r, .bool d, .bool sp, .int .i64 p, .bool con, .int .i64 k] 24)).alloc (.cells #[.slice none 0 0] 27)) :=
 ⟨none, 0, ((Blk.new w _ _).alloc _).alloc _, (Blk.new_ (by simp)).alloc _, Blk.new_ (by simp), own_nil _ _ _ _, (((Below.refl _ _).alloc (Nat.le_refl _) _).alloc (by simp) _).alloc (by simp; omega) _⟩
end
theorem numI_le (n : Int) : (numI n).length ≤ 15 := by unfold numI; rw [List.length_map]; exact wordsL_le n
theorem ph_step {R xs ys T : List ByteArray} {a : ByteArray} {n : Int} (h : Hid (R = xs ++ a :: (numI n ++ T))) (hy : ys = xs ++ a :: numI n) : Hid (R = ys ++ T) := Lib.hid (by rw [h.out, hy, List.append_assoc]; rfl)
theorem ph_step2 {R xs ys T : List ByteArray} {a b : ByteArray} {n : Int} (h : Hid (R = xs ++ a :: b :: (numI n ++ T))) (hy : ys = xs ++ a :: b :: numI n) : Hid (R = ys ++ T) := Lib.hid (by rw [h.out, hy, List.append_assoc]; rfl)
theorem ph_len {xs ys zs : List ByteArray} {m : Nat} (h : xs.length ≤ m) (hy : ys = xs ++ zs) (hz : zs.length ≤ 20) : ys.length ≤ m + 20 := by rw [hy, List.length_append]; omega
theorem give_snoc {w w9 : World} {R xs : List ByteArray} {a : ByteArray} {A : Option Addr} {c : Nat} (h : R = xs ++ [a]) (ho : w9.ownsRow (w.heap.size + 3) 9 1 (.slice A (xs.length + 1) c) (xs.length + 1) (sv xs ++ sv [a])) (hb : Below w.heap.size w w9) :
  GivesOwn 9 1 id w R.length (sv R) (.returned (.slice A (xs.length + 1) c)) w9 := by
 subst h
 rw [List.length_append]
 refine ⟨A, c, rfl, ?_, hb⟩
 rw [sv_app]
 exact own_less ho (by omega)
theorem give_all {w X : World} {R xs : List ByteArray} {A : Option Addr} {c : Nat} (h : R = xs ++ []) (ho : X.ownsRow (w.heap.size + 3) 9 1 (.slice A xs.length c) xs.length (sv xs)) (hb : Below w.heap.size w X) :
  GivesOwn 9 1 id w R.length (sv R) (.returned (.slice A xs.length c)) X := by
 rw [List.append_nil] at h
 subst h
 exact ⟨A, c, rfl, own_less ho (by omega), hb⟩
set_option maxHeartbeats 4000000 in
theorem phrase_one (row col count til : Int) (g : List Gl) (Ag : Option Addr) (cap : Nat) (r : Int) (d sp : Bool) (p : Int) (con : Bool) (k : Int) (w : World) (hr : 1 ≤ row ∧ row ≤ 60 ∧ 1 ≤ col ∧ col ≤ 132) :
  Calls Tryz.prog 24 #[chgV ⟨1, row, col, count, til, g⟩ Ag cap, stV r d sp p con k] w (GivesOwn 9 1 id w (bSize :: (numI row ++ bRows :: (numI col ++ [bColumns]))).length (sv (bSize :: (numI row ++ bRows :: (numI col ++ [bColumns]))))) := by
 obtain ⟨R, hR⟩ : ∃ x, Hid (x = bSize :: (numI row ++ bRows :: (numI col ++ [bColumns]))) := ⟨_, Lib.hid rfl⟩
 rw [← hR.out]
 have hX := PhS.start w ⟨1, row, col, count, til, g⟩ Ag cap r d sp p con k
 obtain ⟨xs, hxs⟩ : ∃ x : List ByteArray, x = [] := ⟨_, rfl⟩
 rw [← hxs] at hX
 have HR : Hid (R = xs ++ bSize :: (numI row ++ bRows :: (numI col ++ [bColumns]))) := Lib.hid (by rw [hR.out, hxs]; rfl)
 have hl : xs.length ≤ 0 := by rw [hxs]; exact Nat.le_refl _
 clear hR hxs
 go_enter Tryz.func24, Tryz.ntmps24
 go_upto_region 5 with fail
 refine wp_fg (PhS w ⟨1, row, col, count, til, g⟩ Ag cap r d sp p con k xs) hX ?_
 clear hX
 intro X hX
 obtain ⟨Ao, co, P0, P1, P2, po, pb⟩ := id hX
 obtain ⟨-, c1, c2, c3, c4, c5, -⟩ := blk6 P0
 dsimp only at c1 c2 c3 c4 c5
 have d0 := P2.cell 0
 have zX := P2.lt
 simp only [List.getElem?_toArray, List.getElem?_cons_zero] at d0
 have HS := Lib.hid (psay1 row (by omega) (by omega) bSize hX (by omega))
 obtain ⟨ys, hys⟩ : ∃ y, y = xs ++ bSize :: numI row := ⟨_, rfl⟩
 rw [← hys] at HS
 have HRn := ph_step HR hys
 have hln := ph_len hl hys (by simp only [List.length_cons]; have := numI_le row; omega)
 go_upto_region 6 with (go_at_call 40; refine HS.out.mono ?_; rintro e w1 ⟨rfl, hY⟩)
 refine wp_fg (PhS w ⟨1, row, col, count, til, g⟩ Ag cap r d sp p con k ys) hY ?_
 clear c1 c2 c3 c4 c5 d0 P0 P1 P2 po pb zX
 clear hX hY HS HR hl hys
 clear xs
 obtain ⟨xs, rfl⟩ : ∃ x, x = ys := ⟨_, rfl⟩
 have HR := HRn
 have hl := hln
 clear HRn hln
 intro X hX
 obtain ⟨Ao, co, P0, P1, P2, po, pb⟩ := id hX
 obtain ⟨-, c1, c2, c3, c4, c5, -⟩ := blk6 P0
 dsimp only at c1 c2 c3 c4 c5
 have d0 := P2.cell 0
 have zX := P2.lt
 simp only [List.getElem?_toArray, List.getElem?_cons_zero] at d0
 have HS := Lib.hid (psay1 col (by omega) (by omega) bRows hX (by omega))
 obtain ⟨ys, hys⟩ : ∃ y, y = xs ++ bRows :: numI col := ⟨_, rfl⟩
 rw [← hys] at HS
 have HRn := ph_step HR hys
 have hln := ph_len hl hys (by simp only [List.length_cons]; have := numI_le col; omega)
 go_upto_region 7 with (go_at_call 40; refine HS.out.mono ?_; rintro e w1 ⟨rfl, hY⟩)
 refine wp_fg (PhS w ⟨1, row, col, count, til, g⟩ Ag cap r d sp p con k ys) hY ?_
 clear c1 c2 c3 c4 c5 d0 P0 P1 P2 po pb zX
 clear hX hY HS HR hl hys
 clear xs
 obtain ⟨xs, rfl⟩ : ∃ x, x = ys := ⟨_, rfl⟩
 have HR := HRn
 have hl := hln
 clear HRn hln
 intro X hX
 obtain ⟨Ao, co, P0, P1, P2, po, pb⟩ := id hX
 obtain ⟨-, c1, c2, c3, c4, c5, -⟩ := blk6 P0
 dsimp only at c1 c2 c3 c4 c5
 have d0 := P2.cell 0
 have zX := P2.lt
 simp only [List.getElem?_toArray, List.getElem?_cons_zero] at d0
 have hz4 := pb.size
 go_wp2_with (at_builtin; refine app_list rfl _ _ _ rfl elt_str ((w.heap.size + 3)) _ rfl (own_below po ((Below.refl _ _).alloc (Nat.le_refl _) _)) _ _ rfl ((rd_built (xs := sv [bColumns]) rfl rfl)) (by first | rfl | exact sv_one _ | exact wv_one _) (by omega) (by omega) (by first | (simp; done) | (simp; omega) | omega) ?_; intro A9 c9 w9 hown9 hbel9 hgr9 hat9; have z9 := hbel9.size; (try simp only [World.size_alloc] at z9); (try simp only [Nat.zero_add, List.nil_append] at hown9))
 go_ret
 exact give_snoc HR.out hown9 (pb.trans ((Below.alloc (Below.refl w.heap.size X) hz4 _).trans (hbel9.mono (by omega))))
set_option maxHeartbeats 4000000 in
theorem phrase_two (row col count til : Int) (g : List Gl) (Ag : Option Addr) (cap : Nat) (r : Int) (d sp : Bool) (p : Int) (con : Bool) (k : Int) (w : World) (hr : 0 ≤ row ∧ row ≤ 59 ∧ 0 ≤ til ∧ til ≤ 60 ∧ -60 ≤ count ∧ count ≤ 60) :
  Calls Tryz.prog 24 #[chgV ⟨2, row, col, count, til, g⟩ Ag cap, stV r d sp p con k] w (GivesOwn 9 1 id w (phraseL ⟨2, row, col, count, til, g⟩ ⟨d, sp, p⟩).length (sv (phraseL ⟨2, row, col, count, til, g⟩ ⟨d, sp, p⟩))) := by
 have e1 : IntKind.i64.wrap (row + 1) = row + 1 := by rw [IntKind.wrap_i64]; omega
 have e2 : IntKind.i64.wrap (-count) = -count := by rw [IntKind.wrap_i64]; omega
 obtain ⟨R, hR⟩ : ∃ x, Hid (x = bScroll :: bLine :: (numI (row + 1) ++ bTo :: (numI til ++ (if 0 < count then bUp :: numI count else bDown :: numI (-count))))) := ⟨_, Lib.hid rfl⟩
 rw [show phraseL ⟨2, row, col, count, til, g⟩ ⟨d, sp, p⟩ = R from hR.out.symm]
 have hX := PhS.start w ⟨2, row, col, count, til, g⟩ Ag cap r d sp p con k
 obtain ⟨xs, hxs⟩ : ∃ x : List ByteArray, x = [] := ⟨_, rfl⟩
 rw [← hxs] at hX
 have HR : Hid (R = xs ++ bScroll :: bLine :: (numI (row + 1) ++ bTo :: (numI til ++ (if 0 < count then bUp :: numI count else bDown :: numI (-count))))) := Lib.hid (by rw [hR.out, hxs]; rfl)
 have hl : xs.length ≤ 0 := by rw [hxs]; exact Nat.le_refl _
 clear hR hxs
 go_enter Tryz.func24, Tryz.ntmps24
 go_upto_region 9 with fail
 refine wp_fg (PhS w ⟨2, row, col, count, til, g⟩ Ag cap r d sp p con k xs) hX ?_
 clear hX
 intro X hX
 obtain ⟨Ao, co, P0, P1, P2, po, pb⟩ := id hX
 obtain ⟨-, c1, c2, c3, c4, c5, -⟩ := blk6 P0
 dsimp only at c1 c2 c3 c4 c5
 have d0 := P2.cell 0
 have zX := P2.lt
 simp only [List.getElem?_toArray, List.getElem?_cons_zero] at d0
 have HS := Lib.hid (psay2 (row + 1) (by omega) (by omega) bScroll bLine hX (by omega))
 obtain ⟨ys, hys⟩ : ∃ y, y = xs ++ bScroll :: bLine :: numI (row + 1) := ⟨_, rfl⟩
 rw [← hys] at HS
 have HRn := ph_step2 HR hys
 have hln := ph_len hl hys (by simp only [List.length_cons]; have := numI_le (row + 1); omega)
 go_upto_region 10 with (go_at_call 40; refine HS.out.mono ?_; rintro e w1 ⟨rfl, hY⟩)
 refine wp_fg (PhS w ⟨2, row, col, count, til, g⟩ Ag cap r d sp p con k ys) hY ?_
 clear c1 c2 c3 c4 c5 d0 P0 P1 P2 po pb zX
 clear hX hY HS HR hl hys
 clear xs
 obtain ⟨xs, rfl⟩ : ∃ x, x = ys := ⟨_, rfl⟩
 have HR := HRn
 have hl := hln
 clear HRn hln
 intro X hX
 obtain ⟨Ao, co, P0, P1, P2, po, pb⟩ := id hX
 obtain ⟨-, c1, c2, c3, c4, c5, -⟩ := blk6 P0
 dsimp only at c1 c2 c3 c4 c5
 have d0 := P2.cell 0
 have zX := P2.lt
 simp only [List.getElem?_toArray, List.getElem?_cons_zero] at d0
 have HS := Lib.hid (psay1 til (by omega) (by omega) bTo hX (by omega))
 obtain ⟨ys, hys⟩ : ∃ y, y = xs ++ bTo :: numI til := ⟨_, rfl⟩
 rw [← hys] at HS
 have HRn := ph_step HR hys
 have hln := ph_len hl hys (by simp only [List.length_cons]; have := numI_le til; omega)
 go_upto_region 11 with (go_at_call 40; refine HS.out.mono ?_; rintro e w1 ⟨rfl, hY⟩)
 refine wp_fg (PhS w ⟨2, row, col, count, til, g⟩ Ag cap r d sp p con k ys) hY ?_
 clear c1 c2 c3 c4 c5 d0 P0 P1 P2 po pb zX
 clear hX hY HS HR hl hys
 clear xs
 obtain ⟨xs, rfl⟩ : ∃ x, x = ys := ⟨_, rfl⟩
 have HR := HRn
 have hl := hln
 clear HRn hln
 intro X hX
 by_cases hc : 0 < count
 ·rw [if_pos hc] at HR
  replace HR : Hid (R = xs ++ bUp :: (numI count ++ [])) := Lib.hid (by rw [HR.out, List.append_nil])
  obtain ⟨Ao, co, P0, P1, P2, po, pb⟩ := id hX
  obtain ⟨-, c1, c2, c3, c4, c5, -⟩ := blk6 P0
  dsimp only at c1 c2 c3 c4 c5
  have d0 := P2.cell 0
  have zX := P2.lt
  simp only [List.getElem?_toArray, List.getElem?_cons_zero] at d0
  go_upto_region 12 with fail
  clear c1 c2 c3 c4 c5 d0 P0 P1 P2 po pb zX
  obtain ⟨Ao, co, P0, P1, P2, po, pb⟩ := id hX
  obtain ⟨-, c1, c2, c3, c4, c5, -⟩ := blk6 P0
  dsimp only at c1 c2 c3 c4 c5
  have d0 := P2.cell 0
  have zX := P2.lt
  simp only [List.getElem?_toArray, List.getElem?_cons_zero] at d0
  have HS := Lib.hid (psay1 count (by omega) (by omega) bUp hX (by omega))
  obtain ⟨ys, hys⟩ : ∃ y, y = xs ++ bUp :: numI count := ⟨_, rfl⟩
  rw [← hys] at HS
  have HRn := ph_step HR hys
  have hln := ph_len hl hys (by simp only [List.length_cons]; have := numI_le count; omega)
  go_upto_region 27 with (go_at_call 40; refine HS.out.mono ?_; rintro e w1 ⟨rfl, hY⟩)
  refine wp_fg (PhS w ⟨2, row, col, count, til, g⟩ Ag cap r d sp p con k ys) hY ?_
  clear c1 c2 c3 c4 c5 d0 P0 P1 P2 po pb zX
  clear hX hY HS HR hl hys
  clear xs
  obtain ⟨xs, rfl⟩ : ∃ x, x = ys := ⟨_, rfl⟩
  have HR := HRn
  have hl := hln
  clear HRn hln
  intro X hX
  obtain ⟨Ao, co, P0, P1, P2, po, pb⟩ := id hX
  obtain ⟨-, c1, c2, c3, c4, c5, -⟩ := blk6 P0
  dsimp only at c1 c2 c3 c4 c5
  have d0 := P2.cell 0
  have zX := P2.lt
  simp only [List.getElem?_toArray, List.getElem?_cons_zero] at d0
  go_wp2
  go_ret
  exact give_all HR.out po pb
 ·rw [if_neg hc] at HR
  replace HR : Hid (R = xs ++ bDown :: (numI (-count) ++ [])) := Lib.hid (by rw [HR.out, List.append_nil])
  obtain ⟨Ao, co, P0, P1, P2, po, pb⟩ := id hX
  obtain ⟨-, c1, c2, c3, c4, c5, -⟩ := blk6 P0
  dsimp only at c1 c2 c3 c4 c5
  have d0 := P2.cell 0
  have zX := P2.lt
  simp only [List.getElem?_toArray, List.getElem?_cons_zero] at d0
  go_upto_region 13 with fail
  clear c1 c2 c3 c4 c5 d0 P0 P1 P2 po pb zX
  obtain ⟨Ao, co, P0, P1, P2, po, pb⟩ := id hX
  obtain ⟨-, c1, c2, c3, c4, c5, -⟩ := blk6 P0
  dsimp only at c1 c2 c3 c4 c5
  have d0 := P2.cell 0
  have zX := P2.lt
  simp only [List.getElem?_toArray, List.getElem?_cons_zero] at d0
  have HS := Lib.hid (psay1 (-count) (by omega) (by omega) bDown hX (by omega))
  obtain ⟨ys, hys⟩ : ∃ y, y = xs ++ bDown :: numI (-count) := ⟨_, rfl⟩
  rw [← hys] at HS
  have HRn := ph_step HR hys
  have hln := ph_len hl hys (by simp only [List.length_cons]; have := numI_le (-count); omega)
  go_upto_region 27 with (go_at_call 40; refine HS.out.mono ?_; rintro e w1 ⟨rfl, hY⟩)
  refine wp_fg (PhS w ⟨2, row, col, count, til, g⟩ Ag cap r d sp p con k ys) hY ?_
  clear c1 c2 c3 c4 c5 d0 P0 P1 P2 po pb zX
  clear hX hY HS HR hl hys
  clear xs
  obtain ⟨xs, rfl⟩ : ∃ x, x = ys := ⟨_, rfl⟩
  have HR := HRn
  have hl := hln
  clear HRn hln
  intro X hX
  obtain ⟨Ao, co, P0, P1, P2, po, pb⟩ := id hX
  obtain ⟨-, c1, c2, c3, c4, c5, -⟩ := blk6 P0
  dsimp only at c1 c2 c3 c4 c5
  have d0 := P2.cell 0
  have zX := P2.lt
  simp only [List.getElem?_toArray, List.getElem?_cons_zero] at d0
  go_wp2
  go_ret
  exact give_all HR.out po pb
set_option maxHeartbeats 4000000 in
theorem phrase_four (row col count til : Int) (g : List Gl) (Ag : Option Addr) (cap : Nat) (r : Int) (d sp : Bool) (p : Int) (con : Bool) (k : Int) (w : World) (hr : 0 ≤ row ∧ row ≤ 59 ∧ 0 ≤ col ∧ col ≤ 131) :
  Calls Tryz.prog 24 #[chgV ⟨4, row, col, count, til, g⟩ Ag cap, stV r d sp p con k] w (GivesOwn 9 1 id w (phraseL ⟨4, row, col, count, til, g⟩ ⟨d, sp, p⟩).length (sv (phraseL ⟨4, row, col, count, til, g⟩ ⟨d, sp, p⟩))) := by
 have e1 : IntKind.i64.wrap (row + 1) = row + 1 := by rw [IntKind.wrap_i64]; omega
 have e2 : IntKind.i64.wrap (col + 1) = col + 1 := by rw [IntKind.wrap_i64]; omega
 obtain ⟨R, hR⟩ : ∃ x, Hid (x = bCursor :: bLine :: (numI (row + 1) ++ bColumn :: (numI (col + 1) ++ [if count = 1 then bVisible else bInvisible]))) := ⟨_, Lib.hid rfl⟩
 rw [show phraseL ⟨4, row, col, count, til, g⟩ ⟨d, sp, p⟩ = R from hR.out.symm]
 have hX := PhS.start w ⟨4, row, col, count, til, g⟩ Ag cap r d sp p con k
 obtain ⟨xs, hxs⟩ : ∃ x : List ByteArray, x = [] := ⟨_, rfl⟩
 rw [← hxs] at hX
 have HR : Hid (R = xs ++ bCursor :: bLine :: (numI (row + 1) ++ bColumn :: (numI (col + 1) ++ [if count = 1 then bVisible else bInvisible]))) := Lib.hid (by rw [hR.out, hxs]; rfl)
 have hl : xs.length ≤ 0 := by rw [hxs]; exact Nat.le_refl _
 clear hR hxs
 go_enter Tryz.func24, Tryz.ntmps24
 go_upto_region 22 with fail
 refine wp_fg (PhS w ⟨4, row, col, count, til, g⟩ Ag cap r d sp p con k xs) hX ?_
 clear hX
 intro X hX
 obtain ⟨Ao, co, P0, P1, P2, po, pb⟩ := id hX
 obtain ⟨-, c1, c2, c3, c4, c5, -⟩ := blk6 P0
 dsimp only at c1 c2 c3 c4 c5
 have d0 := P2.cell 0
 have zX := P2.lt
 simp only [List.getElem?_toArray, List.getElem?_cons_zero] at d0
 have HS := Lib.hid (psay2 (row + 1) (by omega) (by omega) bCursor bLine hX (by omega))
 obtain ⟨ys, hys⟩ : ∃ y, y = xs ++ bCursor :: bLine :: numI (row + 1) := ⟨_, rfl⟩
 rw [← hys] at HS
 have HRn := ph_step2 HR hys
 have hln := ph_len hl hys (by simp only [List.length_cons]; have := numI_le (row + 1); omega)
 go_upto_region 23 with (go_at_call 40; refine HS.out.mono ?_; rintro e w1 ⟨rfl, hY⟩)
 refine wp_fg (PhS w ⟨4, row, col, count, til, g⟩ Ag cap r d sp p con k ys) hY ?_
 clear c1 c2 c3 c4 c5 d0 P0 P1 P2 po pb zX
 clear hX hY HS HR hl hys
 clear xs
 obtain ⟨xs, rfl⟩ : ∃ x, x = ys := ⟨_, rfl⟩
 have HR := HRn
 have hl := hln
 clear HRn hln
 intro X hX
 obtain ⟨Ao, co, P0, P1, P2, po, pb⟩ := id hX
 obtain ⟨-, c1, c2, c3, c4, c5, -⟩ := blk6 P0
 dsimp only at c1 c2 c3 c4 c5
 have d0 := P2.cell 0
 have zX := P2.lt
 simp only [List.getElem?_toArray, List.getElem?_cons_zero] at d0
 have HS := Lib.hid (psay1 (col + 1) (by omega) (by omega) bColumn hX (by omega))
 obtain ⟨ys, hys⟩ : ∃ y, y = xs ++ bColumn :: numI (col + 1) := ⟨_, rfl⟩
 rw [← hys] at HS
 have HRn := ph_step HR hys
 have hln := ph_len hl hys (by simp only [List.length_cons]; have := numI_le (col + 1); omega)
 go_upto_region 24 with (go_at_call 40; refine HS.out.mono ?_; rintro e w1 ⟨rfl, hY⟩)
 refine wp_fg (PhS w ⟨4, row, col, count, til, g⟩ Ag cap r d sp p con k ys) hY ?_
 clear c1 c2 c3 c4 c5 d0 P0 P1 P2 po pb zX
 clear hX hY HS HR hl hys
 clear xs
 obtain ⟨xs, rfl⟩ : ∃ x, x = ys := ⟨_, rfl⟩
 have HR := HRn
 have hl := hln
 clear HRn hln
 intro X hX
 by_cases hc : count = 1
 ·rw [if_pos hc] at HR
  subst hc
  obtain ⟨Ao, co, P0, P1, P2, po, pb⟩ := id hX
  obtain ⟨-, c1, c2, c3, c4, c5, -⟩ := blk6 P0
  dsimp only at c1 c2 c3 c4 c5
  have d0 := P2.cell 0
  have zX := P2.lt
  simp only [List.getElem?_toArray, List.getElem?_cons_zero] at d0
  have hz4 := pb.size
  go_wp2_with (at_builtin; refine app_list rfl _ _ _ rfl elt_str ((w.heap.size + 3)) _ rfl (own_below po ((Below.refl _ _).alloc (Nat.le_refl _) _)) _ _ rfl ((rd_built (xs := sv [bVisible]) rfl rfl)) (by first | rfl | exact sv_one _ | exact wv_one _) (by omega) (by omega) (by first | (simp; done) | (simp; omega) | omega) ?_; intro A9 c9 w9 hown9 hbel9 hgr9 hat9; have z9 := hbel9.size; (try simp only [World.size_alloc] at z9); (try simp only [Nat.zero_add, List.nil_append] at hown9))
  go_ret
  exact give_snoc HR.out hown9 (pb.trans ((Below.alloc (Below.refl w.heap.size X) hz4 _).trans (hbel9.mono (by omega))))
 ·rw [if_neg hc] at HR
  have hcb : (count == 1) = false := beq_eq_false_iff_ne.2 hc
  clear hc
  obtain ⟨Ao, co, P0, P1, P2, po, pb⟩ := id hX
  obtain ⟨-, c1, c2, c3, c4, c5, -⟩ := blk6 P0
  dsimp only at c1 c2 c3 c4 c5
  have d0 := P2.cell 0
  have zX := P2.lt
  simp only [List.getElem?_toArray, List.getElem?_cons_zero] at d0
  have hz4 := pb.size
  go_wp2_with (at_builtin; refine app_list rfl _ _ _ rfl elt_str ((w.heap.size + 3)) _ rfl (own_below po ((Below.refl _ _).alloc (Nat.le_refl _) _)) _ _ rfl ((rd_built (xs := sv [bInvisible]) rfl rfl)) (by first | rfl | exact sv_one _ | exact wv_one _) (by omega) (by omega) (by first | (simp; done) | (simp; omega) | omega) ?_; intro A9 c9 w9 hown9 hbel9 hgr9 hat9; have z9 := hbel9.size; (try simp only [World.size_alloc] at z9); (try simp only [Nat.zero_add, List.nil_append] at hown9))
  go_ret
  exact give_snoc HR.out hown9 (pb.trans ((Below.alloc (Below.refl w.heap.size X) hz4 _).trans (hbel9.mono (by omega))))
end Go.Proofs.YtejjfiipghcifaaGreatDoor
namespace Go.Proofs.YtejjfiipghcifaaGreatDoor
open Go.RowKit
section
variable {P : Program} {G : Type}
def EachG (P : Program) (V : G → Nat → Value → World → Prop) (C : G → Array Bool → Prop) (W : G → World → Prop) (Q : Exit → Act → World → Prop) (l : List Oper) (a : Act) : List Oper → Nat → Prop
 | [], _ => True
 | o :: rest, i => (∀ (s : G) (L : Array Bool) (a' : Act) (w' : World), C s L → W s w' → L.size = l.length → L.getD i false = false → (∀ e ∈ o.after, Region.binds .any e = true → L.getD e.on false = true) → a'.tmps.size = a.tmps.size → (∀ t, (l.filterMap (·.dst)).contains t = false → a'.tmps.getD t undef = a.tmps.getD t undef) →
   (∀ e ∈ o.after, Region.binds .any e = true → ∀ oe d, l[e.on]? = some oe → oe.dst = some d → V s e.on (a'.tmps.getD d undef) w') →
   o.guard = none ∧ o.wp P a' w' (fun a'' w'' => ∃ v s', a'' = a'.put o.dst v ∧ C s' (L.setIfInBounds i true) ∧ W s' w'' ∧ V s' i v w'' ∧ ∀ j u, j ≠ i → L.getD j false = true → V s j u w' → V s' j u w'') Q) ∧ EachG P V C W Q l a rest (i + 1)
theorem EachG.at_ {V : G → Nat → Value → World → Prop} {C : G → Array Bool → Prop} {W : G → World → Prop} {Q : Exit → Act → World → Prop} {l : List Oper} {a : Act} : ∀ (r : List Oper) (k i : Nat) (o : Oper), EachG P V C W Q l a r k → r[i]? = some o →
  (∀ (s : G) (L : Array Bool) (a' : Act) (w' : World), C s L → W s w' → L.size = l.length → L.getD (k + i) false = false → (∀ e ∈ o.after, Region.binds .any e = true → L.getD e.on false = true) → a'.tmps.size = a.tmps.size → (∀ t, (l.filterMap (·.dst)).contains t = false → a'.tmps.getD t undef = a.tmps.getD t undef) →
   (∀ e ∈ o.after, Region.binds .any e = true → ∀ oe d, l[e.on]? = some oe → oe.dst = some d → V s e.on (a'.tmps.getD d undef) w') →
   o.guard = none ∧ o.wp P a' w' (fun a'' w'' => ∃ v s', a'' = a'.put o.dst v ∧ C s' (L.setIfInBounds (k + i) true) ∧ W s' w'' ∧ V s' (k + i) v w'' ∧ ∀ j u, j ≠ k + i → L.getD j false = true → V s j u w' → V s' j u w'') Q)
 | [], _, _, _, _, h => by cases h
 | o :: r, k, 0, o', h, hi => by
  obtain rfl : o = o' := by simpa using hi
  exact h.1
 | o :: r, k, i + 1, o', h, hi => by
  have := EachG.at_ r (k + 1) i o' h.2 (by simpa using hi)
  rwa [show k + 1 + i = k + (i + 1) by omega] at this
def EachH (V : G → Nat → Value → World → Prop) (C : G → Array Bool → Prop) (W : G → World → Prop) (l : List Oper) (a : Act) (listed : Array Bool) (a' : Act) (w' : World) : Prop :=
 ∃ s, C s listed ∧ W s w' ∧ a'.tmps.size = a.tmps.size ∧ a'.defers = a.defers ∧ (∀ t, (l.filterMap (·.dst)).contains t = false → a'.tmps.getD t undef = a.tmps.getD t undef) ∧
  (∀ i o d, l[i]? = some o → listed.getD i true = true → o.dst = some d → V s i (a'.tmps.getD d undef) w')
theorem eachG_any {V : G → Nat → Value → World → Prop} {C : G → Array Bool → Prop} {W : G → World → Prop} {Q : Exit → Act → World → Prop} {l : List Oper} {a : Act} (hB : eachB l a.tmps.size = true)
  (hop : EachG P V C W Q l a l 0)
  (hend : ∀ (s : G) (L : Array Bool) (a' : Act) (w' : World), C s L → L.size = l.length → (∀ i, i < l.length → L.getD i true = true) → W s w' → a'.tmps.size = a.tmps.size → a'.defers = a.defers → (∀ s, (l.filterMap (·.dst)).contains s = false → a'.tmps.getD s undef = a.tmps.getD s undef) → (∀ i o d, l[i]? = some o → o.dst = some d → V s i (a'.tmps.getD d undef) w') → Q .normal a' w') :
  ∀ (fuel : Nat) (listed : Array Bool) (a' : Act) (w' : World), listed.size = l.length → ((List.range l.length).filter fun i => !listed.getD i true).length ≤ fuel → EachH V C W l a listed a' w' → wpAny P .any l.toArray Q fuel listed a' w' := by
 unfold eachB at hB
 simp only [Bool.and_eq_true, List.all_eq_true, decide_eq_true_eq] at hB
 obtain ⟨⟨hlt, hnd⟩, hord⟩ := hB
 have hdis : ∀ (i j : Nat) (oi oj : Oper) (d : Tmp), l[i]? = some oi → l[j]? = some oj → i ≠ j → oi.dst = some d → oj.dst ≠ some d := by
  intro i j oi oj d hi hj hij hdi hdj
  have key : ∀ (l : List Oper) (i j : Nat), (l.filterMap (·.dst)).Nodup → l[i]? = some oi → l[j]? = some oj → i < j → False := by
   intro l
   induction l with
   | nil => intro i j _ h; simp at h
   | cons o l ih =>
    intro i j hn h1 h2 hlt
    cases j with
    | zero => omega
    | succ j =>
     rw [List.getElem?_cons_succ] at h2
     have hmem : d ∈ l.filterMap (·.dst) := List.mem_filterMap.2 ⟨oj, List.mem_of_getElem? h2, hdj⟩
     cases i with
     | zero =>
      obtain rfl : o = oi := by simpa using h1
      rw [List.filterMap_cons, hdi] at hn
      exact (List.nodup_cons.1 hn).1 hmem
     | succ i =>
      rw [List.getElem?_cons_succ] at h1
      refine ih i j ?_ h1 h2 (by omega)
      cases ho : o.dst with
      | none => rw [List.filterMap_cons, ho] at hn; exact hn
      | some e => rw [List.filterMap_cons, ho] at hn; exact (List.nodup_cons.1 hn).2
  rcases Nat.lt_or_gt_of_ne hij with h | h
  ·exact key l i j hnd hi hj h
  ·have key2 : ∀ (l : List Oper) (i j : Nat), (l.filterMap (·.dst)).Nodup → l[i]? = some oj → l[j]? = some oi → i < j → False := by
    intro l
    induction l with
    | nil => intro i j _ h; simp at h
    | cons o l ih =>
     intro i j hn h1 h2 hlt
     cases j with
     | zero => omega
     | succ j =>
      rw [List.getElem?_cons_succ] at h2
      have hmem : d ∈ l.filterMap (·.dst) := List.mem_filterMap.2 ⟨oi, List.mem_of_getElem? h2, hdi⟩
      cases i with
      | zero =>
       obtain rfl : o = oj := by simpa using h1
       rw [List.filterMap_cons, hdj] at hn
       exact (List.nodup_cons.1 hn).1 hmem
      | succ i =>
       rw [List.getElem?_cons_succ] at h1
       refine ih i j ?_ h1 h2 (by omega)
       cases ho : o.dst with
       | none => rw [List.filterMap_cons, ho] at hn; exact hn
       | some e => rw [List.filterMap_cons, ho] at hn; exact (List.nodup_cons.1 hn).2
   exact key2 l j i hnd hj hi h
 have hin : ∀ {i : Nat} {o : Oper} {d : Nat}, l[i]? = some o → o.dst = some d → d ∈ l.filterMap (·.dst) := fun hi hd => List.mem_filterMap.2 ⟨_, List.mem_of_getElem? hi, hd⟩
 have hall : ∀ {listed : Array Bool}, listed.size = l.length → Region.ready .any l.toArray listed = [] → ∀ i, i < l.length → listed.getD i true = true := by
  intro listed hsz hr i
  induction i using Nat.strongRecOn with
  | ind i ih =>
   intro hi
   cases hli : listed.getD i true with
   | true => rfl
   | false =>
    exfalso
    have ho : l[i]? = some (l[i]'hi) := List.getElem?_eq_getElem hi
    have hm : i ∈ Region.ready .any l.toArray listed := by
     refine mem_ready.2 ⟨hli, l[i]'hi, by simpa using ho, fun e he hb => ?_⟩
     have h1 := hord i (List.mem_range.2 hi)
     rw [ho] at h1
     simp only [Array.all_eq_true_iff_forall_mem] at h1
     have h2 := h1 e he
     rw [hb] at h2
     simp only [Bool.not_true, Bool.false_or, decide_eq_true_eq] at h2
     have h3 := ih e.on h2 (by omega)
     rw [Array.getD_eq_getD_getElem?] at h3 ⊢
     rw [Array.getElem?_eq_getElem (by omega)] at h3 ⊢
     exact h3
    rw [hr] at hm
    cases hm
 intro fuel
 induction fuel with
 | zero =>
  intro listed a' w' hsz hf hJ
  have hr : Region.ready .any l.toArray listed = [] := by
   rw [List.eq_nil_iff_forall_not_mem]
   intro i hi
   obtain ⟨h1, o, h2, _⟩ := mem_ready.1 hi
   have hil : i < l.length := by
    rcases Nat.lt_or_ge i l.length with h | h
    ·exact h
    ·rw [List.getElem?_toArray, List.getElem?_eq_none h] at h2; cases h2
   have : i ∈ (List.range l.length).filter fun i => !listed.getD i true := List.mem_filter.2 ⟨List.mem_range.2 hil, by rw [h1]; rfl⟩
   rw [List.length_eq_zero_iff.1 (Nat.le_zero.1 hf)] at this
   cases this
  obtain ⟨s, jc, j1, j2, j3, j4, j5⟩ := hJ
  exact ⟨hr, hend s listed a' w' jc hsz (hall hsz hr) j1 j2 j3 j4 fun i o d hi hd => j5 i o d hi (hall hsz hr i (by
   rcases Nat.lt_or_ge i l.length with h | h
   ·exact h
   ·rw [List.getElem?_eq_none h] at hi; cases hi)) hd⟩
 | succ fuel ih =>
  intro listed a' w' hsz hf hJ
  have hJ' := hJ
  obtain ⟨s, jc, j1, j2, j3, j4, j5⟩ := hJ'
  refine ⟨fun hr => hend s listed a' w' jc hsz (hall hsz hr) j1 j2 j3 j4 fun i o d hi hd => j5 i o d hi (hall hsz hr i (by
   rcases Nat.lt_or_ge i l.length with h | h
   ·exact h
   ·rw [List.getElem?_eq_none h] at hi; cases hi)) hd, fun i hi => ?_⟩
  obtain ⟨h1, o, h2, h3⟩ := mem_ready.1 hi
  rw [List.getElem?_toArray] at h2
  have hil : i < l.length := by
   rcases Nat.lt_or_ge i l.length with h | h
   ·exact h
   ·rw [List.getElem?_eq_none h] at h2; cases h2
  have hgd : ∀ j, j < l.length → listed.getD j false = true → listed.getD j true = true := fun j hj h => by
   rw [Array.getD_eq_getD_getElem?] at h ⊢
   rw [Array.getElem?_eq_getElem (by omega)] at h ⊢
   exact h
  have hnot : listed.getD i false = false := by
   rw [Array.getD_eq_getD_getElem?] at h1 ⊢
   rw [Array.getElem?_eq_getElem (by omega)] at h1 ⊢
   exact h1
  have hstep := EachG.at_ l 0 i o hop h2 s listed a' w' jc j1 hsz (by rw [Nat.zero_add]; exact hnot) (fun e he hb => h3 e he hb) j2 j4 fun e he hb oe d hoe hd => j5 e.on oe d hoe (hgd e.on (by
   rcases Nat.lt_or_ge e.on l.length with h | h
   ·exact h
   ·rw [List.getElem?_eq_none h] at hoe; cases hoe) (h3 e he hb)) hd
  rw [Nat.zero_add] at hstep
  have hsz' : (listed.setIfInBounds i true).size = l.length := by rw [Array.size_setIfInBounds]; exact hsz
  have hset : ∀ j, (listed.setIfInBounds i true).getD j true = true → j = i ∨ listed.getD j true = true := fun j h => by
   by_cases hji : j = i
   ·exact .inl hji
   ·right
    rw [Array.getD_eq_getD_getElem?, Array.getElem?_setIfInBounds_ne (Ne.symm hji)] at h
    rw [Array.getD_eq_getD_getElem?]
    exact h
  have hfl : ((List.range l.length).filter fun j => !(listed.setIfInBounds i true).getD j true).length ≤ fuel := by
   have key : ∀ (L : List Nat), i ∈ L → L.Nodup → (L.filter fun j => !(listed.setIfInBounds i true).getD j true).length + 1 ≤ (L.filter fun j => !listed.getD j true).length := by
    intro L
    induction L with
    | nil => intro h; cases h
    | cons x L ihL =>
     intro hm hn
     have hx := List.nodup_cons.1 hn
     by_cases hxi : x = i
     ·subst hxi
      have e1 : (listed.setIfInBounds x true).getD x true = true := by
       rw [Array.getD_eq_getD_getElem?]
       simp [hsz, hil]
      rw [List.filter_cons, List.filter_cons, e1, h1]
      simp only [Bool.not_true, Bool.not_false, if_true, Bool.false_eq_true, if_false, List.length_cons]
      have : (L.filter fun j => !(listed.setIfInBounds x true).getD j true) = L.filter fun j => !listed.getD j true := by
       refine List.filter_congr fun j hj => ?_
       have hjx : j ≠ x := fun e => hx.1 (e ▸ hj)
       rw [Array.getD_eq_getD_getElem?, Array.getElem?_setIfInBounds_ne (Ne.symm hjx), ← Array.getD_eq_getD_getElem?]
      rw [this]
      exact Nat.le_refl _
     ·have hm' : i ∈ L := by
       rcases List.mem_cons.1 hm with h | h
       ·exact absurd h.symm hxi
       ·exact h
      have := ihL hm' hx.2
      rw [List.filter_cons, List.filter_cons, show (listed.setIfInBounds i true).getD x true = listed.getD x true by
       rw [Array.getD_eq_getD_getElem?, Array.getElem?_setIfInBounds_ne (Ne.symm hxi), ← Array.getD_eq_getD_getElem?]]
      split
      ·simp only [List.length_cons]; omega
      ·exact this
   have := key (List.range l.length) (List.mem_range.2 hil) List.nodup_range
   omega
  have hnew : ∀ v w'' s', C s' (listed.setIfInBounds i true) → W s' w'' → V s' i v w'' → (∀ j u, j ≠ i → listed.getD j false = true → V s j u w' → V s' j u w'') → EachH V C W l a (listed.setIfInBounds i true) (a'.put o.dst v) w'' := fun v w'' s' hc hw hv ht => by
   refine ⟨s', hc, hw, by rw [put_size]; exact j2, by rw [put_defs]; exact j3, fun t hs => ?_, fun j oj d hj hl hd => ?_⟩
   ·cases hod : o.dst with
    | none => exact j4 t hs
    | some d =>
     rw [put_getD fun e => ?_]
     ·exact j4 t hs
     ·subst e
      rw [List.contains_iff_mem.2 (hin h2 hod)] at hs
      cases hs
   ·by_cases hji : j = i
    ·subst hji
     obtain rfl : o = oj := by rw [h2] at hj; injection hj
     rw [hd, put_same (by rw [j2]; exact hlt d (hin h2 hd))]
     exact hv
    ·have hl' : listed.getD j true = true := (hset j hl).resolve_left hji
     have hjl : j < l.length := by
      rcases Nat.lt_or_ge j l.length with h | h
      ·exact h
      ·rw [List.getElem?_eq_none h] at hj; cases hj
     have hl2 : listed.getD j false = true := by
      rw [Array.getD_eq_getD_getElem?] at hl' ⊢
      rw [Array.getElem?_eq_getElem (by omega)] at hl' ⊢
      exact hl'
     have hvj := ht j _ hji hl2 (j5 j oj d hj hl' hd)
     cases hod : o.dst with
     | none => exact hvj
     | some d' =>
      rw [put_getD fun e => ?_]
      ·exact hvj
      ·subst e
       exact hdis j i oj o d hj h2 hji hd hod
  unfold wpOp
  rw [List.getElem?_toArray, h2]
  simp only
  rw [if_pos (by simp [Region.wanted, hstep.1])]
  exact .inl (Oper.wp_mono (fun a'' w'' ⟨v, s', e, hc, hw', hv, ht⟩ => by
   subst e
   exact ih _ _ _ hsz' hfl (hnew v w'' s' hc hw' hv ht)) hstep.2)
theorem wp_region_eachG {V : G → Nat → Value → World → Prop} {C : G → Array Bool → Prop} {W : G → World → Prop} {Q : Exit → Act → World → Prop} {l : List Oper} {a : Act} {w : World} {id : Nat} (hm : P.follows .mixedOrders = true) (hB : eachB l a.tmps.size = true)
  (s0 : G) (hc : C s0 (Array.replicate l.length false)) (hw : W s0 w.drew)
  (hop : EachG P V C W Q l a l 0)
  (hend : ∀ (s : G) (L : Array Bool) (a' : Act) (w' : World), C s L → L.size = l.length → (∀ i, i < l.length → L.getD i true = true) → W s w' → a'.tmps.size = a.tmps.size → a'.defers = a.defers → (∀ s, (l.filterMap (·.dst)).contains s = false → a'.tmps.getD s undef = a.tmps.getD s undef) → (∀ i o d, l[i]? = some o → o.dst = some d → V s i (a'.tmps.getD d undef) w') → Q .normal a' w') :
  (Code.region id l.toArray true).wp P Q a w := by
 refine wp_region_any hm (eachG_any hB hop hend _ _ _ _ (by simp) ?_ ⟨s0, by simp only [List.size_toArray]; exact hc, hw, rfl, rfl, fun _ _ => rfl, fun i o d hi hl _ => ?_⟩)
 ·rw [List.size_toArray]
  exact Nat.le_trans (List.length_filter_le _ _) (by simp)
 ·exfalso
  have hil : i < l.length := by
   rcases Nat.lt_or_ge i l.length with h | h
   ·exact h
   ·rw [List.getElem?_eq_none h] at hi; cases hi
  rw [Array.getD_eq_getD_getElem?] at hl
  simp [hil] at hl
end
end Go.Proofs.YtejjfiipghcifaaGreatDoor
