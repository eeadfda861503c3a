/- Joined texts: Vc2, Vc3. -/
import Derived.Test.YtejjfiipghcifaaGreatDoorQAA
import Derived.Test.YtejjfiipghcifaaGreatDoorQAB
import Derived.Test.YtejjfiipghcifaaGreatDoorQAC
import Derived.Test.YtejjfiipghcifaaGreatDoorQAD
import Derived.Test.YtejjfiipghcifaaGreatDoorQAG
import Derived.Test.YtejjfiipghcifaaGreatDoorQAH
import Derived.Test.YtejjfiipghcifaaGreatDoorQAJ
import Derived.Test.YtejjfiipghcifaaGreatDoorQAN
import Derived.Test.YtejjfiipghcifaaGreatDoorQAO
import Derived.Test.YtejjfiipghcifaaGreatDoorQAR
import Derived.Test.YtejjfiipghcifaaGreatDoorQAU
import Derived.Test.YtejjfiipghcifaaGreatDoorQAV
import Derived.Test.YtejjfiipghcifaaGreatDoorQAW
import Derived.Test.YtejjfiipghcifaaGreatDoorQBA
import Derived.Test.YtejjfiipghcifaaGreatDoorQBC
import Derived.Test.YtejjfiipghcifaaGreatDoorQBD
import Derived.Test.YtejjfiipghcifaaGreatDoorQBE
import Derived.Test.YtejjfiipghcifaaGreatDoorQBF
import Derived.Test.YtejjfiipghcifaaGreatDoorQBI
import Derived.Test.YtejjfiipghcifaaGreatDoorQBJ
import Derived.Test.YtejjfiipghcifaaGreatDoorQBK
import Derived.Test.YtejjfiipghcifaaGreatDoorQBO
import Derived.Test.YtejjfiipghcifaaGreatDoorQBP
import Derived.Test.YtejjfiipghcifaaGreatDoorQBQ
import Derived.Test.YtejjfiipghcifaaGreatDoorQBT
set_option linter.unusedVariables false
set_option linter.unusedSimpArgs false
set_option linter.unnecessarySimpa false
namespace Go.Proofs.YtejjfiipghcifaaGreatDoor
open Go.RowKit
set_option maxRecDepth 20000
set_option maxHeartbeats 2000000 in
theorem rsay (n : Int) (h1 : -999999999 ≤ n) (h2 : n ≤ 999999999) (a : ByteArray) (xs : List ByteArray) (A : Option Addr) (m c base : Nat) (w : World) (ht : ∀ Y, Below base w Y → Tb Y) (ho : w.ownsRow base 9 1 (.slice A m c) m (sv xs)) (hm : m = xs.length) (hx : m ≤ 60000000000) (hb : base ≤ w.heap.size) :
  Calls Tryz.prog 28 #[.slice A m c, .string a, .int .i64 n] w fun e w' => (∃ A' c', e = .returned (.slice A' (xs ++ a :: numI n).length c') ∧ w'.ownsRow base 9 1 (.slice A' (xs ++ a :: numI n).length c') (xs ++ a :: numI n).length (sv (xs ++ a :: numI n))) ∧ Below base w w' := by
 subst hm
 have HT := Lib.hid ht
 have HW : Hid (∀ w, Tb w → Calls Tryz.prog 45 #[.int .i64 n] w (GivesOwn 9 1 okPair w (numI n).length (sv (numI n)))) := Lib.hid fun w ht => by
  have := rwords_in n h1 h2 w ht
  rw [wv_sv] at this
  unfold numI
  rw [List.length_map]
  exact this
 have hl := numI_le n
 generalize numI n = ys at *
 have hlen : (xs ++ a :: ys).length = xs.length + 1 + ys.length := by simp; omega
 have hsv : sv (xs ++ a :: ys) = sv xs ++ sv [a] ++ sv ys := by simp [sv]
 rw [hlen, hsv]
 have ha := (Below.refl base w).alloc hb (.cells (sv [a]).toArray 9)
 clear ht h1 h2 hlen hsv
 go_enter Tryz.func28, Tryz.ntmps28
 go_wp2_with (first
  | (go_at_call 45; refine (HW.out _ (HT.out _ (ha.trans hbel1))).mono ?_; rintro e w3 ⟨A3, c3, rfl, o3, b3⟩; have z3 := b3.size)
  | ((fail_if_success have := hown1); (at_builtin; refine app_list rfl _ _ _ rfl elt_str (base) _ rfl (own_below ho ((Below.refl _ _).alloc (Nat.le_refl _) _)) _ _ rfl ((rd_built (xs := sv [a]) rfl rfl)) (by first | rfl | exact sv_one _ | exact wv_one _) (by omega) (by omega) (by first | (simp; done) | (simp; omega) | omega) ?_; intro A1 c1 w1 hown1 hbel1 hgr1 hat1; have z1 := hbel1.size; (try simp only [World.size_alloc] at z1); (try simp only [Nat.zero_add, List.nil_append] at hown1)))
  | (at_builtin; refine app_list rfl _ _ _ rfl elt_str (base) _ rfl (own_below hown1 b3) _ _ rfl ((Rd.of_own o3)) (by first | rfl | exact sv_one _ | exact wv_one _) (by omega) (by omega) (by first | (simp; done) | (simp; omega) | omega) ?_; intro A2 c2 w2 hown2 hbel2 hgr2 hat2; have z2 := hbel2.size; (try simp only [World.size_alloc] at z2); (try simp only [Nat.zero_add, List.nil_append] at hown2)))
 go_ret
 exact ⟨⟨A2, c2, rfl, hown2⟩, (ha.trans hbel1).trans ((b3.mono (by omega)).trans hbel2)⟩
def PhR (w : World) (c : Chg) (Ag : Option Addr) (cap : Nat) (r : Int) (d sp : Bool) (p : Int) (con : Bool) (k : Int) (j : Nat) (xs : List ByteArray) (v : Value) (X : World) : Prop :=
 Blk X w.heap.size 46 (chgA c Ag cap) ∧ Blk X (w.heap.size + 1) 24 #[.int .i64 r, .bool d, .bool sp, .int .i64 p, .bool con, .int .i64 k] ∧ (∃ n, n = xs.length ∧ X.ownsRow (w.heap.size + 2) 9 1 v n (sv xs)) ∧ Below w.heap.size w X ∧ xs.length ≤ j
section
variable {w X : World} {c : Chg} {Ag : Option Addr} {cap : Nat} {r : Int} {d sp : Bool} {p : Int} {con : Bool} {k : Int} {xs : List ByteArray} {j : Nat} {v : Value}
theorem PhR.say (ht : Tb w) (h : PhR w c Ag cap r d sp p con k j xs v X) (a : ByteArray) (n : Int) (h1 : -999999999 ≤ n) (h2 : n ≤ 999999999) (hj : j ≤ 60000000000) :
  Calls Tryz.prog 28 #[v, .string a, .int .i64 n] X fun e w' => ∃ v', e = .returned v' ∧ PhR w c Ag cap r d sp p con k (j + 16) (xs ++ a :: numI n) v' w' := by
 obtain ⟨b1, b2, ⟨m, hm, b3⟩, b4, b5⟩ := h
 obtain ⟨A, co, rfl⟩ := own_slice b3
 have z2 := b2.lt
 refine (rsay n h1 h2 a xs A m co (w.heap.size + 2) X (fun Y hY => ht.below (b4.trans (hY.mono (by omega)))) b3 hm (by omega) (by omega)).mono ?_
 rintro e w' ⟨⟨A', c', rfl, o'⟩, bl⟩
 have := numI_le n
 exact ⟨_, rfl, b1.below bl (by omega), b2.below bl (by omega), ⟨_, rfl, o'⟩, b4.trans (bl.mono (by omega)), by rw [List.length_append, List.length_cons]; omega⟩
theorem PhR.put (h : PhR w c Ag cap r d sp p con k j xs v X) {Y : World} {ys : List ByteArray} {v' : Value} {n m : Nat} (hb : Below (w.heap.size + 2) X Y) (hn : n = xs.length) (hm : ys.length = m) (ho : Y.ownsRow (w.heap.size + 2) 9 1 v' (n + m) (sv xs ++ sv ys)) : PhR w c Ag cap r d sp p con k (j + m) (xs ++ ys) v' Y := by
 obtain ⟨b1, b2, _, b4, b5⟩ := h
 refine ⟨b1.below hb (by omega), b2.below hb (by omega), ⟨n + m, by rw [List.length_append]; omega, by rw [sv_app]; exact ho⟩, b4.trans (hb.mono (by omega)), by rw [List.length_append]; omega⟩
theorem PhR.start (w : World) (c : Chg) (Ag : Option Addr) (cap : Nat) (r : Int) (d sp : Bool) (p : Int) (con : Bool) (k : Int) : PhR w c Ag cap r d sp p con k 0 [] (.slice (some ⟨w.heap.size + 2, 0, none⟩) 0 0) (((w.alloc (.cells (chgA c Ag cap) 46)).alloc (.cells #[.int .i64 r, .bool d, .bool sp, .int .i64 p, .bool con, .int .i64 k] 24)).alloc (.cells #[] 9)) :=
 ⟨((Blk.new w _ _).alloc _).alloc _, (Blk.new_ (by simp)).alloc _, ⟨0, rfl, own_built (xs := []) (n := 0) (by simp) rfl (Nat.le_refl _) (by omega)⟩, (((Below.refl _ _).alloc (Nat.le_refl _) _).alloc (by simp) _).alloc (by simp; omega) _, Nat.le_refl _⟩
theorem PhR.done {R : List ByteArray} (h : PhR w c Ag cap r d sp p con k j xs v X) (hR : R = xs ++ []) : GivesOwn 9 1 id w R.length (sv R) (.returned v) X := by
 rw [List.append_nil] at hR
 subst hR
 obtain ⟨b1, b2, ⟨m, rfl, b3⟩, b4, b5⟩ := h
 obtain ⟨A, co, rfl⟩ := own_slice b3
 exact ⟨A, co, rfl, own_less b3 (by omega), b4⟩
end
theorem ph_app {R xs ys T : List ByteArray} {zs : List ByteArray} (h : Hid (R = xs ++ (zs ++ T))) (hy : ys = xs ++ zs) : Hid (R = ys ++ T) := Lib.hid (by rw [h.out, hy, List.append_assoc])
end Go.Proofs.YtejjfiipghcifaaGreatDoor
namespace Go.Proofs.YtejjfiipghcifaaGreatDoor
open Go.RowKit
set_option maxRecDepth 20000
set_option maxHeartbeats 4000000 in
theorem vphrase_one (row col count til : Int) (g : List Gl) (Ag : Option Addr) (cap : Nat) (r : Int) (d sp : Bool) (p : Int) (con : Bool) (k : Int) (w : World) (ht : Tb w) (hr : 1 ≤ row ∧ row ≤ 60 ∧ 1 ≤ col ∧ col ≤ 132) :
  Calls Tryz.prog 27 #[chgV ⟨1, row, col, count, til, g⟩ Ag cap, stV r d sp p con k] w (GivesOwn 9 1 id w (phraseL ⟨1, row, col, count, til, g⟩ ⟨d, sp, p⟩).length (sv (phraseL ⟨1, row, col, count, til, g⟩ ⟨d, sp, p⟩))) := by
 have HT := Lib.hid ht
 clear ht
 obtain ⟨R, hR⟩ : ∃ x, Hid (x = bSize :: (numI row ++ bRows :: (numI col ++ ([bColumns] ++ [])))) := ⟨_, Lib.hid rfl⟩
 rw [show phraseL ⟨1, row, col, count, til, g⟩ ⟨d, sp, p⟩ = R from hR.out.symm]
 have hX := PhR.start w ⟨1, row, col, count, til, g⟩ Ag cap r d sp p con k
 obtain ⟨xs, hxs⟩ : ∃ x : List ByteArray, x = [] := ⟨_, rfl⟩
 rw [← hxs] at hX
 have HR : Hid (R = xs ++ bSize :: (numI row ++ bRows :: (numI col ++ ([bColumns] ++ [])))) := Lib.hid (by rw [hR.out, hxs]; rfl)
 clear hR hxs
 go_enter Tryz.func27, Tryz.ntmps27
 go_upto_region 4 with fail
 refine wp_fg (PhR w ⟨1, row, col, count, til, g⟩ Ag cap r d sp p con k 0 xs (.slice (some ⟨w.heap.size + 2, 0, none⟩) 0 0)) hX ?_
 clear hX
 intro X hX
 generalize Value.slice (some ⟨w.heap.size + 2, 0, none⟩) 0 0 = v0 at hX ⊢
 obtain ⟨P0, P1, ⟨m0, hm0, po⟩, pb, pl⟩ := id hX
 have pl0 := pl
 rw [← hm0] at pl0
 replace hm0 := Lib.hid hm0
 obtain ⟨-, c1, c2, c3, c4, c5, -⟩ := blk6 P0
 dsimp only at c1 c2 c3 c4 c5
 have zX := P1.lt
 have HS := Lib.hid (PhR.say HT.out hX bSize row (by omega) (by omega) (by omega))
 obtain ⟨ys, hys⟩ : ∃ y, y = xs ++ bSize :: numI row := ⟨_, rfl⟩
 rw [← hys] at HS
 have HRn := ph_step HR hys
 go_upto_region 5 with (go_at_call 28; refine HS.out.mono ?_; rintro e w1 ⟨v1, rfl, hY⟩)
 refine wp_fg (PhR w ⟨1, row, col, count, til, g⟩ Ag cap r d sp p con k (0 + 16) ys v1) hY ?_
 clear hY HS
 clear c1 c2 c3 c4 c5 P0 P1 po pb pl pl0 zX hm0
 clear hX HR hys
 clear xs
 obtain ⟨xs, rfl⟩ : ∃ x, x = ys := ⟨_, rfl⟩
 have HR := HRn
 clear HRn
 intro X hX
 obtain ⟨P0, P1, ⟨m0, hm0, po⟩, pb, pl⟩ := id hX
 have pl0 := pl
 rw [← hm0] at pl0
 replace hm0 := Lib.hid hm0
 obtain ⟨-, c1, c2, c3, c4, c5, -⟩ := blk6 P0
 dsimp only at c1 c2 c3 c4 c5
 have zX := P1.lt
 have HS := Lib.hid (PhR.say HT.out hX bRows col (by omega) (by omega) (by omega))
 obtain ⟨ys, hys⟩ : ∃ y, y = xs ++ bRows :: numI col := ⟨_, rfl⟩
 rw [← hys] at HS
 have HRn := ph_step HR hys
 go_upto_region 6 with (go_at_call 28; refine HS.out.mono ?_; rintro e w1 ⟨v1, rfl, hY⟩)
 refine wp_fg (PhR w ⟨1, row, col, count, til, g⟩ Ag cap r d sp p con k (16 + 16) ys v1) hY ?_
 clear hY HS
 clear c1 c2 c3 c4 c5 P0 P1 po pb pl pl0 zX hm0
 clear hX HR hys
 clear xs
 obtain ⟨xs, rfl⟩ : ∃ x, x = ys := ⟨_, rfl⟩
 have HR := HRn
 clear HRn
 intro X hX
 obtain ⟨P0, P1, ⟨m0, hm0, po⟩, pb, pl⟩ := id hX
 have pl0 := pl
 rw [← hm0] at pl0
 replace hm0 := Lib.hid hm0
 obtain ⟨-, c1, c2, c3, c4, c5, -⟩ := blk6 P0
 dsimp only at c1 c2 c3 c4 c5
 have zX := P1.lt
 obtain ⟨Ao, co, rfl⟩ := own_slice po
 obtain ⟨ys, hys⟩ : ∃ y, y = xs ++ [bColumns] := ⟨_, rfl⟩
 have HRn := ph_app (zs := [bColumns]) HR hys
 go_upto_region 30 with (at_builtin; refine app_list rfl _ _ _ rfl elt_str ((w.heap.size + 2)) _ rfl (own_below po ((Below.refl _ _).alloc (Nat.le_refl _) _)) _ _ rfl ((rd_built (xs := sv [bColumns]) rfl rfl)) (by first | rfl | exact sv_one _ | exact wv_one _) (by omega) (by omega) (by first | (simp; done) | (simp; omega) | omega) ?_; intro A9 c9 w9 hown9 hbel9 hgr9 hat9; have z9 := hbel9.size; (try simp only [World.size_alloc] at z9); (try simp only [Nat.zero_add, List.nil_append] at hown9))
 refine wp_fg (PhR w ⟨1, row, col, count, til, g⟩ Ag cap r d sp p con k (32 + 1) ys (.slice A9 (m0 + 1) c9)) (by rw [hys]; exact hX.put (((Below.refl _ _).alloc (by omega) _).trans hbel9) hm0.out rfl hown9) ?_
 clear hown9 hbel9 hgr9 hat9 z9
 clear c1 c2 c3 c4 c5 P0 P1 po pb pl pl0 zX hm0
 clear hX HR hys
 clear xs
 obtain ⟨xs, rfl⟩ : ∃ x, x = ys := ⟨_, rfl⟩
 have HR := HRn
 clear HRn
 intro X hX
 generalize Value.slice A9 (m0 + 1) c9 = v0 at hX ⊢
 obtain ⟨P0, P1, ⟨m0, hm0, po⟩, pb, pl⟩ := id hX
 have pl0 := pl
 rw [← hm0] at pl0
 replace hm0 := Lib.hid hm0
 obtain ⟨-, c1, c2, c3, c4, c5, -⟩ := blk6 P0
 dsimp only at c1 c2 c3 c4 c5
 have zX := P1.lt
 go_wp2
 go_ret
 exact hX.done HR.out
set_option maxHeartbeats 4000000 in
theorem vphrase_two (row col count til : Int) (g : List Gl) (Ag : Option Addr) (cap : Nat) (r : Int) (d sp : Bool) (p : Int) (con : Bool) (k : Int) (w : World) (ht : Tb w) (hr : 0 ≤ row ∧ row ≤ 59 ∧ 0 ≤ til ∧ til ≤ 60 ∧ -60 ≤ count ∧ count ≤ 60) :
  Calls Tryz.prog 27 #[chgV ⟨2, row, col, count, til, g⟩ Ag cap, stV r d sp p con k] w (GivesOwn 9 1 id w (phraseL ⟨2, row, col, count, til, g⟩ ⟨d, sp, p⟩).length (sv (phraseL ⟨2, row, col, count, til, g⟩ ⟨d, sp, p⟩))) := by
 have HT := Lib.hid ht
 clear ht
 have e1 : IntKind.i64.wrap (row + 1) = row + 1 := by rw [IntKind.wrap_i64]; omega
 have e2 : IntKind.i64.wrap (-count) = -count := by rw [IntKind.wrap_i64]; omega
 obtain ⟨R, hR⟩ : ∃ x, Hid (x = [bScroll] ++ bLine :: (numI (row + 1) ++ bTo :: (numI til ++ (if 0 < count then bUp :: numI count else bDown :: numI (-count))))) := ⟨_, Lib.hid rfl⟩
 rw [show phraseL ⟨2, row, col, count, til, g⟩ ⟨d, sp, p⟩ = R from hR.out.symm]
 have hX := PhR.start w ⟨2, row, col, count, til, g⟩ Ag cap r d sp p con k
 obtain ⟨xs, hxs⟩ : ∃ x : List ByteArray, x = [] := ⟨_, rfl⟩
 rw [← hxs] at hX
 have HR : Hid (R = xs ++ ([bScroll] ++ bLine :: (numI (row + 1) ++ bTo :: (numI til ++ (if 0 < count then bUp :: numI count else bDown :: numI (-count)))))) := Lib.hid (by rw [hR.out, hxs]; rfl)
 clear hR hxs
 go_enter Tryz.func27, Tryz.ntmps27
 go_upto_region 8 with fail
 refine wp_fg (PhR w ⟨2, row, col, count, til, g⟩ Ag cap r d sp p con k 0 xs (.slice (some ⟨w.heap.size + 2, 0, none⟩) 0 0)) hX ?_
 clear hX
 intro X hX
 generalize Value.slice (some ⟨w.heap.size + 2, 0, none⟩) 0 0 = v0 at hX ⊢
 obtain ⟨P0, P1, ⟨m0, hm0, po⟩, pb, pl⟩ := id hX
 have pl0 := pl
 rw [← hm0] at pl0
 replace hm0 := Lib.hid hm0
 obtain ⟨-, c1, c2, c3, c4, c5, -⟩ := blk6 P0
 dsimp only at c1 c2 c3 c4 c5
 have zX := P1.lt
 obtain ⟨Ao, co, rfl⟩ := own_slice po
 obtain ⟨ys, hys⟩ : ∃ y, y = xs ++ [bScroll] := ⟨_, rfl⟩
 have HRn := ph_app (zs := [bScroll]) HR hys
 go_upto_region 9 with (at_builtin; refine app_list rfl _ _ _ rfl elt_str ((w.heap.size + 2)) _ rfl (own_below po ((Below.refl _ _).alloc (Nat.le_refl _) _)) _ _ rfl ((rd_built (xs := sv [bScroll]) rfl rfl)) (by first | rfl | exact sv_one _ | exact wv_one _) (by omega) (by omega) (by first | (simp; done) | (simp; omega) | omega) ?_; intro A9 c9 w9 hown9 hbel9 hgr9 hat9; have z9 := hbel9.size; (try simp only [World.size_alloc] at z9); (try simp only [Nat.zero_add, List.nil_append] at hown9))
 refine wp_fg (PhR w ⟨2, row, col, count, til, g⟩ Ag cap r d sp p con k (0 + 1) ys (.slice A9 (m0 + 1) c9)) (by rw [hys]; exact hX.put (((Below.refl _ _).alloc (by omega) _).trans hbel9) hm0.out rfl hown9) ?_
 clear hown9 hbel9 hgr9 hat9 z9
 clear c1 c2 c3 c4 c5 P0 P1 po pb pl pl0 zX hm0
 clear hX HR hys
 clear xs
 obtain ⟨xs, rfl⟩ : ∃ x, x = ys := ⟨_, rfl⟩
 have HR := HRn
 clear HRn
 intro X hX
 generalize Value.slice A9 (m0 + 1) c9 = v0 at hX ⊢
 obtain ⟨P0, P1, ⟨m0, hm0, po⟩, pb, pl⟩ := id hX
 have pl0 := pl
 rw [← hm0] at pl0
 replace hm0 := Lib.hid hm0
 obtain ⟨-, c1, c2, c3, c4, c5, -⟩ := blk6 P0
 dsimp only at c1 c2 c3 c4 c5
 have zX := P1.lt
 have HS := Lib.hid (PhR.say HT.out hX bLine (row + 1) (by omega) (by omega) (by omega))
 obtain ⟨ys, hys⟩ : ∃ y, y = xs ++ bLine :: numI (row + 1) := ⟨_, rfl⟩
 rw [← hys] at HS
 have HRn := ph_step HR hys
 go_upto_region 10 with (go_at_call 28; refine HS.out.mono ?_; rintro e w1 ⟨v1, rfl, hY⟩)
 refine wp_fg (PhR w ⟨2, row, col, count, til, g⟩ Ag cap r d sp p con k (1 + 16) ys v1) hY ?_
 clear hY HS
 clear c1 c2 c3 c4 c5 P0 P1 po pb pl pl0 zX hm0
 clear hX HR hys
 clear xs
 obtain ⟨xs, rfl⟩ : ∃ x, x = ys := ⟨_, rfl⟩
 have HR := HRn
 clear HRn
 intro X hX
 obtain ⟨P0, P1, ⟨m0, hm0, po⟩, pb, pl⟩ := id hX
 have pl0 := pl
 rw [← hm0] at pl0
 replace hm0 := Lib.hid hm0
 obtain ⟨-, c1, c2, c3, c4, c5, -⟩ := blk6 P0
 dsimp only at c1 c2 c3 c4 c5
 have zX := P1.lt
 have HS := Lib.hid (PhR.say HT.out hX bTo til (by omega) (by omega) (by omega))
 obtain ⟨ys, hys⟩ : ∃ y, y = xs ++ bTo :: numI til := ⟨_, rfl⟩
 rw [← hys] at HS
 have HRn := ph_step HR hys
 go_upto_region 11 with (go_at_call 28; refine HS.out.mono ?_; rintro e w1 ⟨v1, rfl, hY⟩)
 refine wp_fg (PhR w ⟨2, row, col, count, til, g⟩ Ag cap r d sp p con k (17 + 16) ys v1) hY ?_
 clear hY HS
 clear c1 c2 c3 c4 c5 P0 P1 po pb pl pl0 zX hm0
 clear hX HR hys
 clear xs
 obtain ⟨xs, rfl⟩ : ∃ x, x = ys := ⟨_, rfl⟩
 have HR := HRn
 clear HRn
 intro X hX
 by_cases hc : 0 < count
 ·rw [if_pos hc] at HR
  replace HR : Hid (R = xs ++ bUp :: (numI count ++ [])) := Lib.hid (by rw [HR.out, List.append_nil])
  obtain ⟨P0, P1, ⟨m0, hm0, po⟩, pb, pl⟩ := id hX
  have pl0 := pl
  rw [← hm0] at pl0
  replace hm0 := Lib.hid hm0
  obtain ⟨-, c1, c2, c3, c4, c5, -⟩ := blk6 P0
  dsimp only at c1 c2 c3 c4 c5
  have zX := P1.lt
  go_upto_region 12 with fail
  clear c1 c2 c3 c4 c5 P0 P1 po pb pl pl0 zX hm0
  obtain ⟨P0, P1, ⟨m0, hm0, po⟩, pb, pl⟩ := id hX
  have pl0 := pl
  rw [← hm0] at pl0
  replace hm0 := Lib.hid hm0
  obtain ⟨-, c1, c2, c3, c4, c5, -⟩ := blk6 P0
  dsimp only at c1 c2 c3 c4 c5
  have zX := P1.lt
  have HS := Lib.hid (PhR.say HT.out hX bUp count (by omega) (by omega) (by omega))
  obtain ⟨ys, hys⟩ : ∃ y, y = xs ++ bUp :: numI count := ⟨_, rfl⟩
  rw [← hys] at HS
  have HRn := ph_step HR hys
  go_upto_region 30 with (go_at_call 28; refine HS.out.mono ?_; rintro e w1 ⟨v1, rfl, hY⟩)
  refine wp_fg (PhR w ⟨2, row, col, count, til, g⟩ Ag cap r d sp p con k (33 + 16) ys v1) hY ?_
  clear hY HS
  clear c1 c2 c3 c4 c5 P0 P1 po pb pl pl0 zX hm0
  clear hX HR hys
  clear xs
  obtain ⟨xs, rfl⟩ : ∃ x, x = ys := ⟨_, rfl⟩
  have HR := HRn
  clear HRn
  intro X hX
  obtain ⟨P0, P1, ⟨m0, hm0, po⟩, pb, pl⟩ := id hX
  have pl0 := pl
  rw [← hm0] at pl0
  replace hm0 := Lib.hid hm0
  obtain ⟨-, c1, c2, c3, c4, c5, -⟩ := blk6 P0
  dsimp only at c1 c2 c3 c4 c5
  have zX := P1.lt
  go_wp2
  go_ret
  exact hX.done HR.out
 ·rw [if_neg hc] at HR
  replace HR : Hid (R = xs ++ bDown :: (numI (-count) ++ [])) := Lib.hid (by rw [HR.out, List.append_nil])
  obtain ⟨P0, P1, ⟨m0, hm0, po⟩, pb, pl⟩ := id hX
  have pl0 := pl
  rw [← hm0] at pl0
  replace hm0 := Lib.hid hm0
  obtain ⟨-, c1, c2, c3, c4, c5, -⟩ := blk6 P0
  dsimp only at c1 c2 c3 c4 c5
  have zX := P1.lt
  go_upto_region 13 with fail
  clear c1 c2 c3 c4 c5 P0 P1 po pb pl pl0 zX hm0
  obtain ⟨P0, P1, ⟨m0, hm0, po⟩, pb, pl⟩ := id hX
  have pl0 := pl
  rw [← hm0] at pl0
  replace hm0 := Lib.hid hm0
  obtain ⟨-, c1, c2, c3, c4, c5, -⟩ := blk6 P0
  dsimp only at c1 c2 c3 c4 c5
  have zX := P1.lt
  have HS := Lib.hid (PhR.say HT.out hX bDown (-count) (by omega) (by omega) (by omega))
  obtain ⟨ys, hys⟩ : ∃ y, y = xs ++ bDown :: numI (-count) := ⟨_, rfl⟩
  rw [← hys] at HS
  have HRn := ph_step HR hys
  go_upto_region 30 with (go_at_call 28; refine HS.out.mono ?_; rintro e w1 ⟨v1, rfl, hY⟩)
  refine wp_fg (PhR w ⟨2, row, col, count, til, g⟩ Ag cap r d sp p con k (33 + 16) ys v1) hY ?_
  clear hY HS
  clear c1 c2 c3 c4 c5 P0 P1 po pb pl pl0 zX hm0
  clear hX HR hys
  clear xs
  obtain ⟨xs, rfl⟩ : ∃ x, x = ys := ⟨_, rfl⟩
  have HR := HRn
  clear HRn
  intro X hX
  obtain ⟨P0, P1, ⟨m0, hm0, po⟩, pb, pl⟩ := id hX
  have pl0 := pl
  rw [← hm0] at pl0
  replace hm0 := Lib.hid hm0
  obtain ⟨-, c1, c2, c3, c4, c5, -⟩ := blk6 P0
  dsimp only at c1 c2 c3 c4 c5
  have zX := P1.lt
  go_wp2
  go_ret
  exact hX.done HR.out
set_option maxHeartbeats 4000000 in
theorem vphrase_four (row col count til : Int) (g : List Gl) (Ag : Option Addr) (cap : Nat) (r : Int) (d sp : Bool) (p : Int) (con : Bool) (k : Int) (w : World) (ht : Tb w) (hr : 0 ≤ row ∧ row ≤ 59 ∧ 0 ≤ col ∧ col ≤ 131) :
  Calls Tryz.prog 27 #[chgV ⟨4, row, col, count, til, g⟩ Ag cap, stV r d sp p con k] w (GivesOwn 9 1 id w (phraseL ⟨4, row, col, count, til, g⟩ ⟨d, sp, p⟩).length (sv (phraseL ⟨4, row, col, count, til, g⟩ ⟨d, sp, p⟩))) := by
 have HT := Lib.hid ht
 clear ht
 have e1 : IntKind.i64.wrap (row + 1) = row + 1 := by rw [IntKind.wrap_i64]; omega
 have e2 : IntKind.i64.wrap (col + 1) = col + 1 := by rw [IntKind.wrap_i64]; omega
 obtain ⟨R, hR⟩ : ∃ x, Hid (x = [bCursor] ++ bLine :: (numI (row + 1) ++ bColumn :: (numI (col + 1) ++ [if count = 1 then bVisible else bInvisible]))) := ⟨_, Lib.hid rfl⟩
 rw [show phraseL ⟨4, row, col, count, til, g⟩ ⟨d, sp, p⟩ = R from hR.out.symm]
 have hX := PhR.start w ⟨4, row, col, count, til, g⟩ Ag cap r d sp p con k
 obtain ⟨xs, hxs⟩ : ∃ x : List ByteArray, x = [] := ⟨_, rfl⟩
 rw [← hxs] at hX
 have HR : Hid (R = xs ++ ([bCursor] ++ bLine :: (numI (row + 1) ++ bColumn :: (numI (col + 1) ++ [if count = 1 then bVisible else bInvisible])))) := Lib.hid (by rw [hR.out, hxs]; rfl)
 clear hR hxs
 go_enter Tryz.func27, Tryz.ntmps27
 go_upto_region 24 with fail
 refine wp_fg (PhR w ⟨4, row, col, count, til, g⟩ Ag cap r d sp p con k 0 xs (.slice (some ⟨w.heap.size + 2, 0, none⟩) 0 0)) hX ?_
 clear hX
 intro X hX
 generalize Value.slice (some ⟨w.heap.size + 2, 0, none⟩) 0 0 = v0 at hX ⊢
 obtain ⟨P0, P1, ⟨m0, hm0, po⟩, pb, pl⟩ := id hX
 have pl0 := pl
 rw [← hm0] at pl0
 replace hm0 := Lib.hid hm0
 obtain ⟨-, c1, c2, c3, c4, c5, -⟩ := blk6 P0
 dsimp only at c1 c2 c3 c4 c5
 have zX := P1.lt
 obtain ⟨Ao, co, rfl⟩ := own_slice po
 obtain ⟨ys, hys⟩ : ∃ y, y = xs ++ [bCursor] := ⟨_, rfl⟩
 have HRn := ph_app (zs := [bCursor]) HR hys
 go_upto_region 25 with (at_builtin; refine app_list rfl _ _ _ rfl elt_str ((w.heap.size + 2)) _ rfl (own_below po ((Below.refl _ _).alloc (Nat.le_refl _) _)) _ _ rfl ((rd_built (xs := sv [bCursor]) rfl rfl)) (by first | rfl | exact sv_one _ | exact wv_one _) (by omega) (by omega) (by first | (simp; done) | (simp; omega) | omega) ?_; intro A9 c9 w9 hown9 hbel9 hgr9 hat9; have z9 := hbel9.size; (try simp only [World.size_alloc] at z9); (try simp only [Nat.zero_add, List.nil_append] at hown9))
 refine wp_fg (PhR w ⟨4, row, col, count, til, g⟩ Ag cap r d sp p con k (0 + 1) ys (.slice A9 (m0 + 1) c9)) (by rw [hys]; exact hX.put (((Below.refl _ _).alloc (by omega) _).trans hbel9) hm0.out rfl hown9) ?_
 clear hown9 hbel9 hgr9 hat9 z9
 clear c1 c2 c3 c4 c5 P0 P1 po pb pl pl0 zX hm0
 clear hX HR hys
 clear xs
 obtain ⟨xs, rfl⟩ : ∃ x, x = ys := ⟨_, rfl⟩
 have HR := HRn
 clear HRn
 intro X hX
 generalize Value.slice A9 (m0 + 1) c9 = v0 at hX ⊢
 obtain ⟨P0, P1, ⟨m0, hm0, po⟩, pb, pl⟩ := id hX
 have pl0 := pl
 rw [← hm0] at pl0
 replace hm0 := Lib.hid hm0
 obtain ⟨-, c1, c2, c3, c4, c5, -⟩ := blk6 P0
 dsimp only at c1 c2 c3 c4 c5
 have zX := P1.lt
 have HS := Lib.hid (PhR.say HT.out hX bLine (row + 1) (by omega) (by omega) (by omega))
 obtain ⟨ys, hys⟩ : ∃ y, y = xs ++ bLine :: numI (row + 1) := ⟨_, rfl⟩
 rw [← hys] at HS
 have HRn := ph_step HR hys
 go_upto_region 26 with (go_at_call 28; refine HS.out.mono ?_; rintro e w1 ⟨v1, rfl, hY⟩)
 refine wp_fg (PhR w ⟨4, row, col, count, til, g⟩ Ag cap r d sp p con k (1 + 16) ys v1) hY ?_
 clear hY HS
 clear c1 c2 c3 c4 c5 P0 P1 po pb pl pl0 zX hm0
 clear hX HR hys
 clear xs
 obtain ⟨xs, rfl⟩ : ∃ x, x = ys := ⟨_, rfl⟩
 have HR := HRn
 clear HRn
 intro X hX
 obtain ⟨P0, P1, ⟨m0, hm0, po⟩, pb, pl⟩ := id hX
 have pl0 := pl
 rw [← hm0] at pl0
 replace hm0 := Lib.hid hm0
 obtain ⟨-, c1, c2, c3, c4, c5, -⟩ := blk6 P0
 dsimp only at c1 c2 c3 c4 c5
 have zX := P1.lt
 have HS := Lib.hid (PhR.say HT.out hX bColumn (col + 1) (by omega) (by omega) (by omega))
 obtain ⟨ys, hys⟩ : ∃ y, y = xs ++ bColumn :: numI (col + 1) := ⟨_, rfl⟩
 rw [← hys] at HS
 have HRn := ph_step HR hys
 go_upto_region 27 with (go_at_call 28; refine HS.out.mono ?_; rintro e w1 ⟨v1, rfl, hY⟩)
 refine wp_fg (PhR w ⟨4, row, col, count, til, g⟩ Ag cap r d sp p con k (17 + 16) ys v1) hY ?_
 clear hY HS
 clear c1 c2 c3 c4 c5 P0 P1 po pb pl pl0 zX hm0
 clear hX HR hys
 clear xs
 obtain ⟨xs, rfl⟩ : ∃ x, x = ys := ⟨_, rfl⟩
 have HR := HRn
 clear HRn
 intro X hX
 by_cases hc : count = 1
 ·rw [if_pos hc] at HR
  replace HR : Hid (R = xs ++ ([bVisible] ++ [])) := HR
  subst hc
  obtain ⟨P0, P1, ⟨m0, hm0, po⟩, pb, pl⟩ := id hX
  have pl0 := pl
  rw [← hm0] at pl0
  replace hm0 := Lib.hid hm0
  obtain ⟨-, c1, c2, c3, c4, c5, -⟩ := blk6 P0
  dsimp only at c1 c2 c3 c4 c5
  have zX := P1.lt
  go_upto_region 28 with fail
  clear c1 c2 c3 c4 c5 P0 P1 po pb pl pl0 zX hm0
  obtain ⟨P0, P1, ⟨m0, hm0, po⟩, pb, pl⟩ := id hX
  have pl0 := pl
  rw [← hm0] at pl0
  replace hm0 := Lib.hid hm0
  obtain ⟨-, c1, c2, c3, c4, c5, -⟩ := blk6 P0
  dsimp only at c1 c2 c3 c4 c5
  have zX := P1.lt
  obtain ⟨Ao, co, rfl⟩ := own_slice po
  obtain ⟨ys, hys⟩ : ∃ y, y = xs ++ [bVisible] := ⟨_, rfl⟩
  have HRn := ph_app (zs := [bVisible]) HR hys
  go_upto_region 30 with (at_builtin; refine app_list rfl _ _ _ rfl elt_str ((w.heap.size + 2)) _ rfl (own_below po ((Below.refl _ _).alloc (Nat.le_refl _) _)) _ _ rfl ((rd_built (xs := sv [bVisible]) rfl rfl)) (by first | rfl | exact sv_one _ | exact wv_one _) (by omega) (by omega) (by first | (simp; done) | (simp; omega) | omega) ?_; intro A9 c9 w9 hown9 hbel9 hgr9 hat9; have z9 := hbel9.size; (try simp only [World.size_alloc] at z9); (try simp only [Nat.zero_add, List.nil_append] at hown9))
  refine wp_fg (PhR w ⟨4, row, col, 1, til, g⟩ Ag cap r d sp p con k (33 + 1) ys (.slice A9 (m0 + 1) c9)) (by rw [hys]; exact hX.put (((Below.refl _ _).alloc (by omega) _).trans hbel9) hm0.out rfl hown9) ?_
  clear hown9 hbel9 hgr9 hat9 z9
  clear c1 c2 c3 c4 c5 P0 P1 po pb pl pl0 zX hm0
  clear hX HR hys
  clear xs
  obtain ⟨xs, rfl⟩ : ∃ x, x = ys := ⟨_, rfl⟩
  have HR := HRn
  clear HRn
  intro X hX
  generalize Value.slice A9 (m0 + 1) c9 = v0 at hX ⊢
  obtain ⟨P0, P1, ⟨m0, hm0, po⟩, pb, pl⟩ := id hX
  have pl0 := pl
  rw [← hm0] at pl0
  replace hm0 := Lib.hid hm0
  obtain ⟨-, c1, c2, c3, c4, c5, -⟩ := blk6 P0
  dsimp only at c1 c2 c3 c4 c5
  have zX := P1.lt
  go_wp2
  go_ret
  exact hX.done HR.out
 ·rw [if_neg hc] at HR
  replace HR : Hid (R = xs ++ ([bInvisible] ++ [])) := HR
  have hcb : (count == 1) = false := beq_eq_false_iff_ne.2 hc
  clear hc
  obtain ⟨P0, P1, ⟨m0, hm0, po⟩, pb, pl⟩ := id hX
  have pl0 := pl
  rw [← hm0] at pl0
  replace hm0 := Lib.hid hm0
  obtain ⟨-, c1, c2, c3, c4, c5, -⟩ := blk6 P0
  dsimp only at c1 c2 c3 c4 c5
  have zX := P1.lt
  go_upto_region 29 with fail
  clear c1 c2 c3 c4 c5 P0 P1 po pb pl pl0 zX hm0
  obtain ⟨P0, P1, ⟨m0, hm0, po⟩, pb, pl⟩ := id hX
  have pl0 := pl
  rw [← hm0] at pl0
  replace hm0 := Lib.hid hm0
  obtain ⟨-, c1, c2, c3, c4, c5, -⟩ := blk6 P0
  dsimp only at c1 c2 c3 c4 c5
  have zX := P1.lt
  obtain ⟨Ao, co, rfl⟩ := own_slice po
  obtain ⟨ys, hys⟩ : ∃ y, y = xs ++ [bInvisible] := ⟨_, rfl⟩
  have HRn := ph_app (zs := [bInvisible]) HR hys
  go_upto_region 30 with (at_builtin; refine app_list rfl _ _ _ rfl elt_str ((w.heap.size + 2)) _ rfl (own_below po ((Below.refl _ _).alloc (Nat.le_refl _) _)) _ _ rfl ((rd_built (xs := sv [bInvisible]) rfl rfl)) (by first | rfl | exact sv_one _ | exact wv_one _) (by omega) (by omega) (by first | (simp; done) | (simp; omega) | omega) ?_; intro A9 c9 w9 hown9 hbel9 hgr9 hat9; have z9 := hbel9.size; (try simp only [World.size_alloc] at z9); (try simp only [Nat.zero_add, List.nil_append] at hown9))
  refine wp_fg (PhR w ⟨4, row, col, count, til, g⟩ Ag cap r d sp p con k (33 + 1) ys (.slice A9 (m0 + 1) c9)) (by rw [hys]; exact hX.put (((Below.refl _ _).alloc (by omega) _).trans hbel9) hm0.out rfl hown9) ?_
  clear hown9 hbel9 hgr9 hat9 z9
  clear c1 c2 c3 c4 c5 P0 P1 po pb pl pl0 zX hm0
  clear hX HR hys
  clear xs
  obtain ⟨xs, rfl⟩ : ∃ x, x = ys := ⟨_, rfl⟩
  have HR := HRn
  clear HRn
  intro X hX
  generalize Value.slice A9 (m0 + 1) c9 = v0 at hX ⊢
  obtain ⟨P0, P1, ⟨m0, hm0, po⟩, pb, pl⟩ := id hX
  have pl0 := pl
  rw [← hm0] at pl0
  replace hm0 := Lib.hid hm0
  obtain ⟨-, c1, c2, c3, c4, c5, -⟩ := blk6 P0
  dsimp only at c1 c2 c3 c4 c5
  have zX := P1.lt
  go_wp2
  go_ret
  exact hX.done HR.out
set_option maxHeartbeats 8000000 in
theorem vphrase_three (row col count til : Int) (g : List Gl) (Ag : Option Addr) (cap : Nat) (r : Int) (d sp : Bool) (p : Int) (con : Bool) (k : Int) (w : World) (ht : Tb w) (hr : 0 ≤ row ∧ row ≤ 59 ∧ 0 ≤ col ∧ col ≤ 132 ∧ 0 ≤ count ∧ count ≤ 132)
  (B : Nat) (hgn : g.length ≤ 132) (hok : ∀ x ∈ g, GW x) (hcx : g.length ≤ cap) (hmx : cap ≤ maxLen) (rd : Rd w B 3 Ag g.length (encGs g)) (hB : B ≤ w.heap.size) (hp0 : 0 ≤ p) :
  Calls Tryz.prog 27 #[chgV ⟨3, row, col, count, til, g⟩ Ag cap, stV r d sp p con k] w (GivesOwn 9 1 id w (phraseL ⟨3, row, col, count, til, g⟩ ⟨d, sp, p⟩).length (sv (phraseL ⟨3, row, col, count, til, g⟩ ⟨d, sp, p⟩))) := by
 have HT := Lib.hid ht
 have e1 : IntKind.i64.wrap (row + 1) = row + 1 := by rw [IntKind.wrap_i64]; omega
 have e2 : IntKind.i64.wrap (col + 1) = col + 1 := by rw [IntKind.wrap_i64]; omega
 have hSW := (spokenWords_len (S := ⟨d, sp, p⟩) _ (Nat.le_refl _) (WoI.start ⟨d, sp, p⟩ g (by omega) hok)).1
 have HWd : Hid (∀ X, Below w.heap.size w X → Calls Tryz.prog 44 #[.slice Ag g.length cap, stV r d sp p con k] X (GivesOwn 9 1 id X (spokenWords g ⟨d, sp, p⟩).length (sv (spokenWords g ⟨d, sp, p⟩)))) := Lib.hid fun X hX =>
  rwords g Ag _ cap B r d sp p con k X (ht.below hX) (by omega) hcx hmx hok hp0 (rd.below (hX.mono hB)) (Nat.le_trans hB hX.size)
 obtain ⟨G, hG⟩ : ∃ x, Hid (x = if g = [] then ([] : List ByteArray) else bInsert :: (spokenWords g ⟨d, sp, p⟩ ++ [bStop])) := ⟨_, Lib.hid rfl⟩
 obtain ⟨R, hR⟩ : ∃ x, Hid (x = bLine :: (numI (row + 1) ++ bColumn :: (numI (col + 1) ++ ((if 0 < count then bDelete :: numI count else []) ++ G)))) := ⟨_, Lib.hid rfl⟩
 rw [show phraseL ⟨3, row, col, count, til, g⟩ ⟨d, sp, p⟩ = R by rw [hR.out, hG.out]; rfl]
 generalize spokenWords g ⟨d, sp, p⟩ = SW at *
 have HRd := Lib.hid rd
 clear ht hok rd
 have hX := PhR.start w ⟨3, row, col, count, til, g⟩ Ag cap r d sp p con k
 obtain ⟨xs, hxs⟩ : ∃ x : List ByteArray, x = [] := ⟨_, rfl⟩
 rw [← hxs] at hX
 have HR : Hid (R = xs ++ (bLine :: (numI (row + 1) ++ bColumn :: (numI (col + 1) ++ ((if 0 < count then bDelete :: numI count else []) ++ G))))) := Lib.hid (by rw [hR.out, hxs]; rfl)
 clear hR hxs
 go_enter Tryz.func27, Tryz.ntmps27
 go_upto_region 15 with fail
 refine wp_fg (PhR w ⟨3, row, col, count, til, g⟩ Ag cap r d sp p con k 0 xs (.slice (some ⟨w.heap.size + 2, 0, none⟩) 0 0)) hX ?_
 clear hX
 intro X hX
 generalize Value.slice (some ⟨w.heap.size + 2, 0, none⟩) 0 0 = v0 at hX ⊢
 obtain ⟨P0, P1, ⟨m0, hm0, po⟩, pb, pl⟩ := id hX
 have pl0 := pl
 rw [← hm0] at pl0
 replace hm0 := Lib.hid hm0
 obtain ⟨-, c1, c2, c3, c4, c5, -⟩ := blk6 P0
 dsimp only at c1 c2 c3 c4 c5
 have zX := P1.lt
 have HS := Lib.hid (PhR.say HT.out hX bLine (row + 1) (by omega) (by omega) (by omega))
 obtain ⟨ys, hys⟩ : ∃ y, y = xs ++ bLine :: numI (row + 1) := ⟨_, rfl⟩
 rw [← hys] at HS
 have HRn := ph_step HR hys
 go_upto_region 16 with (go_at_call 28; refine HS.out.mono ?_; rintro e w1 ⟨v1, rfl, hY⟩)
 refine wp_fg (PhR w ⟨3, row, col, count, til, g⟩ Ag cap r d sp p con k (0 + 16) ys v1) hY ?_
 clear hY HS
 clear c1 c2 c3 c4 c5 P0 P1 po pb pl pl0 zX hm0
 clear hX HR hys
 clear xs
 obtain ⟨xs, rfl⟩ : ∃ x, x = ys := ⟨_, rfl⟩
 have HR := HRn
 clear HRn
 intro X hX
 obtain ⟨P0, P1, ⟨m0, hm0, po⟩, pb, pl⟩ := id hX
 have pl0 := pl
 rw [← hm0] at pl0
 replace hm0 := Lib.hid hm0
 obtain ⟨-, c1, c2, c3, c4, c5, -⟩ := blk6 P0
 dsimp only at c1 c2 c3 c4 c5
 have zX := P1.lt
 have HS := Lib.hid (PhR.say HT.out hX bColumn (col + 1) (by omega) (by omega) (by omega))
 obtain ⟨ys, hys⟩ : ∃ y, y = xs ++ bColumn :: numI (col + 1) := ⟨_, rfl⟩
 rw [← hys] at HS
 have HRn := ph_step HR hys
 go_upto_region 17 with (go_at_call 28; refine HS.out.mono ?_; rintro e w1 ⟨v1, rfl, hY⟩)
 refine wp_fg (PhR w ⟨3, row, col, count, til, g⟩ Ag cap r d sp p con k (16 + 16) ys v1) hY ?_
 clear hY HS
 clear c1 c2 c3 c4 c5 P0 P1 po pb pl pl0 zX hm0
 clear hX HR hys
 clear xs
 obtain ⟨xs, rfl⟩ : ∃ x, x = ys := ⟨_, rfl⟩
 have HR := HRn
 clear HRn
 intro X hX
 by_cases hc : 0 < count
 ·as_aux_lemma =>
  rw [if_pos hc] at HR
  obtain ⟨P0, P1, ⟨m0, hm0, po⟩, pb, pl⟩ := id hX
  have pl0 := pl
  rw [← hm0] at pl0
  replace hm0 := Lib.hid hm0
  obtain ⟨-, c1, c2, c3, c4, c5, -⟩ := blk6 P0
  dsimp only at c1 c2 c3 c4 c5
  have zX := P1.lt
  go_upto_region 18 with fail
  clear c1 c2 c3 c4 c5 P0 P1 po pb pl pl0 zX hm0
  replace HR : Hid (R = xs ++ bDelete :: (numI count ++ G)) := HR
  obtain ⟨P0, P1, ⟨m0, hm0, po⟩, pb, pl⟩ := id hX
  have pl0 := pl
  rw [← hm0] at pl0
  replace hm0 := Lib.hid hm0
  obtain ⟨-, c1, c2, c3, c4, c5, -⟩ := blk6 P0
  dsimp only at c1 c2 c3 c4 c5
  have zX := P1.lt
  have HS := Lib.hid (PhR.say HT.out hX bDelete count (by omega) (by omega) (by omega))
  obtain ⟨ys, hys⟩ : ∃ y, y = xs ++ bDelete :: numI count := ⟨_, rfl⟩
  rw [← hys] at HS
  have HRn := ph_step HR hys
  go_upto_region 19 with (go_at_call 28; refine HS.out.mono ?_; rintro e w1 ⟨v1, rfl, hY⟩)
  refine wp_fg (PhR w ⟨3, row, col, count, til, g⟩ Ag cap r d sp p con k (32 + 16) ys v1) hY ?_
  clear hY HS
  clear c1 c2 c3 c4 c5 P0 P1 po pb pl pl0 zX hm0
  clear hX HR hys
  clear xs
  obtain ⟨xs, rfl⟩ : ∃ x, x = ys := ⟨_, rfl⟩
  have HR := HRn
  clear HRn
  intro X hX
  by_cases hg0 : g = []
  ·subst hg0
   replace HR : Hid (R = xs ++ []) := Lib.hid (by rw [HR.out, hG.out]; rfl)
   clear hG HWd hSW HRd
   obtain ⟨P0, P1, ⟨m0, hm0, po⟩, pb, pl⟩ := id hX
   have pl0 := pl
   rw [← hm0] at pl0
   replace hm0 := Lib.hid hm0
   obtain ⟨-, c1, c2, c3, c4, c5, -⟩ := blk6 P0
   dsimp only at c1 c2 c3 c4 c5
   have zX := P1.lt
   go_wp2
   go_ret
   exact hX.done HR.out
  ·replace HR : Hid (R = xs ++ ([bInsert] ++ (SW ++ ([bStop] ++ [])))) := Lib.hid (by rw [HR.out, hG.out, if_neg hg0]; rfl)
   have hgl : 0 < g.length := List.length_pos_iff.2 hg0
   have hgi : (0 : Int) < (g.length : Int) := by omega
   clear hG hg0
   obtain ⟨P0, P1, ⟨m0, hm0, po⟩, pb, pl⟩ := id hX
   have pl0 := pl
   rw [← hm0] at pl0
   replace hm0 := Lib.hid hm0
   obtain ⟨-, c1, c2, c3, c4, c5, -⟩ := blk6 P0
   dsimp only at c1 c2 c3 c4 c5
   have zX := P1.lt
   go_upto_region 20 with fail
   clear c1 c2 c3 c4 c5 P0 P1 po pb pl pl0 zX hm0
   obtain ⟨P0, P1, ⟨m0, hm0, po⟩, pb, pl⟩ := id hX
   have pl0 := pl
   rw [← hm0] at pl0
   replace hm0 := Lib.hid hm0
   obtain ⟨-, c1, c2, c3, c4, c5, -⟩ := blk6 P0
   dsimp only at c1 c2 c3 c4 c5
   have zX := P1.lt
   obtain ⟨Ao, co, rfl⟩ := own_slice po
   obtain ⟨ys, hys⟩ : ∃ y, y = xs ++ [bInsert] := ⟨_, rfl⟩
   have HRn := ph_app (zs := [bInsert]) HR hys
   go_upto_region 21 with (at_builtin; refine app_list rfl _ _ _ rfl elt_str ((w.heap.size + 2)) _ rfl (own_below po ((Below.refl _ _).alloc (Nat.le_refl _) _)) _ _ rfl ((rd_built (xs := sv [bInsert]) rfl rfl)) (by first | rfl | exact sv_one _ | exact wv_one _) (by omega) (by omega) (by first | (simp; done) | (simp; omega) | omega) ?_; intro A9 c9 w9 hown9 hbel9 hgr9 hat9; have z9 := hbel9.size; (try simp only [World.size_alloc] at z9); (try simp only [Nat.zero_add, List.nil_append] at hown9))
   refine wp_fg (PhR w ⟨3, row, col, count, til, g⟩ Ag cap r d sp p con k (48 + 1) ys (.slice A9 (m0 + 1) c9)) (by rw [hys]; exact hX.put (((Below.refl _ _).alloc (by omega) _).trans hbel9) hm0.out rfl hown9) ?_
   clear hown9 hbel9 hgr9 hat9 z9
   clear c1 c2 c3 c4 c5 P0 P1 po pb pl pl0 zX hm0
   clear hX HR hys
   clear xs
   obtain ⟨xs, rfl⟩ : ∃ x, x = ys := ⟨_, rfl⟩
   have HR := HRn
   clear HRn
   intro X hX
   generalize Value.slice A9 (m0 + 1) c9 = v0 at hX ⊢
   obtain ⟨P0, P1, ⟨m0, hm0, po⟩, pb, pl⟩ := id hX
   have pl0 := pl
   rw [← hm0] at pl0
   replace hm0 := Lib.hid hm0
   obtain ⟨-, c1, c2, c3, c4, c5, -⟩ := blk6 P0
   dsimp only at c1 c2 c3 c4 c5
   have zX := P1.lt
   have s0 := P1.cell 0
   have s1 := P1.cell 1
   have s2 := P1.cell 2
   have s3 := P1.cell 3
   have s4 := P1.cell 4
   have s5 := P1.cell 5
   simp only [List.getElem?_toArray, List.getElem?_cons_zero, List.getElem?_cons_succ] at s0 s1 s2 s3 s4 s5
   obtain ⟨Ao, co, rfl⟩ := own_slice po
   obtain ⟨ys, hys⟩ : ∃ y, y = xs ++ SW := ⟨_, rfl⟩
   have HRn := ph_app HR hys
   go_upto_region 22 with (first
    | (go_at_call 44; refine (HWd.out _ pb).mono ?_; rintro e w2 ⟨A2, cw, rfl, o2, b2⟩; have z2 := b2.size)
    | (at_builtin; refine app_list rfl _ _ _ rfl elt_str ((w.heap.size + 2)) _ rfl (own_below po b2) _ _ rfl ((Rd.of_own o2)) (by first | rfl | exact sv_one _ | exact wv_one _) (by omega) (by omega) (by first | (simp; done) | (simp; omega) | omega) ?_; intro A9 c9 w9 hown9 hbel9 hgr9 hat9; have z9 := hbel9.size; (try simp only [World.size_alloc] at z9); (try simp only [Nat.zero_add, List.nil_append] at hown9)))
   refine wp_fg (PhR w ⟨3, row, col, count, til, g⟩ Ag cap r d sp p con k (48 + 1 + SW.length) ys (.slice A9 (m0 + SW.length) c9)) (by rw [hys]; exact hX.put ((b2.mono (by omega)).trans hbel9) hm0.out rfl hown9) ?_
   clear hown9 hbel9 hgr9 hat9 z9 o2 b2 z2 s0 s1 s2 s3 s4 s5
   clear c1 c2 c3 c4 c5 P0 P1 po pb pl pl0 zX hm0
   clear hX HR hys
   clear xs
   obtain ⟨xs, rfl⟩ : ∃ x, x = ys := ⟨_, rfl⟩
   have HR := HRn
   clear HRn
   intro X hX
   generalize Value.slice A9 (m0 + SW.length) c9 = v0 at hX ⊢
   obtain ⟨P0, P1, ⟨m0, hm0, po⟩, pb, pl⟩ := id hX
   have pl0 := pl
   rw [← hm0] at pl0
   replace hm0 := Lib.hid hm0
   obtain ⟨-, c1, c2, c3, c4, c5, -⟩ := blk6 P0
   dsimp only at c1 c2 c3 c4 c5
   have zX := P1.lt
   obtain ⟨Ao, co, rfl⟩ := own_slice po
   obtain ⟨ys, hys⟩ : ∃ y, y = xs ++ [bStop] := ⟨_, rfl⟩
   have HRn := ph_app (zs := [bStop]) HR hys
   go_upto_region 30 with (at_builtin; refine app_list rfl _ _ _ rfl elt_str ((w.heap.size + 2)) _ rfl (own_below po ((Below.refl _ _).alloc (Nat.le_refl _) _)) _ _ rfl ((rd_built (xs := sv [bStop]) rfl rfl)) (by first | rfl | exact sv_one _ | exact wv_one _) (by omega) (by omega) (by first | (simp; done) | (simp; omega) | omega) ?_; intro A9 c9 w9 hown9 hbel9 hgr9 hat9; have z9 := hbel9.size; (try simp only [World.size_alloc] at z9); (try simp only [Nat.zero_add, List.nil_append] at hown9))
   refine wp_fg (PhR w ⟨3, row, col, count, til, g⟩ Ag cap r d sp p con k (48 + 1 + SW.length + 1) ys (.slice A9 (m0 + 1) c9)) (by rw [hys]; exact hX.put (((Below.refl _ _).alloc (by omega) _).trans hbel9) hm0.out rfl hown9) ?_
   clear hown9 hbel9 hgr9 hat9 z9
   clear c1 c2 c3 c4 c5 P0 P1 po pb pl pl0 zX hm0
   clear hX HR hys
   clear xs
   obtain ⟨xs, rfl⟩ : ∃ x, x = ys := ⟨_, rfl⟩
   have HR := HRn
   clear HRn
   intro X hX
   generalize Value.slice A9 (m0 + 1) c9 = v0 at hX ⊢
   obtain ⟨P0, P1, ⟨m0, hm0, po⟩, pb, pl⟩ := id hX
   have pl0 := pl
   rw [← hm0] at pl0
   replace hm0 := Lib.hid hm0
   obtain ⟨-, c1, c2, c3, c4, c5, -⟩ := blk6 P0
   dsimp only at c1 c2 c3 c4 c5
   have zX := P1.lt
   go_wp2
   go_ret
   exact hX.done HR.out
 ·as_aux_lemma =>
  rw [if_neg hc] at HR
  replace HR : Hid (R = xs ++ G) := HR
  obtain ⟨P0, P1, ⟨m0, hm0, po⟩, pb, pl⟩ := id hX
  have pl0 := pl
  rw [← hm0] at pl0
  replace hm0 := Lib.hid hm0
  obtain ⟨-, c1, c2, c3, c4, c5, -⟩ := blk6 P0
  dsimp only at c1 c2 c3 c4 c5
  have zX := P1.lt
  go_upto_region 19 with fail
  clear c1 c2 c3 c4 c5 P0 P1 po pb pl pl0 zX hm0
  by_cases hg0 : g = []
  ·subst hg0
   replace HR : Hid (R = xs ++ []) := Lib.hid (by rw [HR.out, hG.out]; rfl)
   clear hG HWd hSW HRd
   obtain ⟨P0, P1, ⟨m0, hm0, po⟩, pb, pl⟩ := id hX
   have pl0 := pl
   rw [← hm0] at pl0
   replace hm0 := Lib.hid hm0
   obtain ⟨-, c1, c2, c3, c4, c5, -⟩ := blk6 P0
   dsimp only at c1 c2 c3 c4 c5
   have zX := P1.lt
   go_wp2
   go_ret
   exact hX.done HR.out
  ·replace HR : Hid (R = xs ++ ([bInsert] ++ (SW ++ ([bStop] ++ [])))) := Lib.hid (by rw [HR.out, hG.out, if_neg hg0]; rfl)
   have hgl : 0 < g.length := List.length_pos_iff.2 hg0
   have hgi : (0 : Int) < (g.length : Int) := by omega
   clear hG hg0
   obtain ⟨P0, P1, ⟨m0, hm0, po⟩, pb, pl⟩ := id hX
   have pl0 := pl
   rw [← hm0] at pl0
   replace hm0 := Lib.hid hm0
   obtain ⟨-, c1, c2, c3, c4, c5, -⟩ := blk6 P0
   dsimp only at c1 c2 c3 c4 c5
   have zX := P1.lt
   go_upto_region 20 with fail
   clear c1 c2 c3 c4 c5 P0 P1 po pb pl pl0 zX hm0
   obtain ⟨P0, P1, ⟨m0, hm0, po⟩, pb, pl⟩ := id hX
   have pl0 := pl
   rw [← hm0] at pl0
   replace hm0 := Lib.hid hm0
   obtain ⟨-, c1, c2, c3, c4, c5, -⟩ := blk6 P0
   dsimp only at c1 c2 c3 c4 c5
   have zX := P1.lt
   obtain ⟨Ao, co, rfl⟩ := own_slice po
   obtain ⟨ys, hys⟩ : ∃ y, y = xs ++ [bInsert] := ⟨_, rfl⟩
   have HRn := ph_app (zs := [bInsert]) HR hys
   go_upto_region 21 with (at_builtin; refine app_list rfl _ _ _ rfl elt_str ((w.heap.size + 2)) _ rfl (own_below po ((Below.refl _ _).alloc (Nat.le_refl _) _)) _ _ rfl ((rd_built (xs := sv [bInsert]) rfl rfl)) (by first | rfl | exact sv_one _ | exact wv_one _) (by omega) (by omega) (by first | (simp; done) | (simp; omega) | omega) ?_; intro A9 c9 w9 hown9 hbel9 hgr9 hat9; have z9 := hbel9.size; (try simp only [World.size_alloc] at z9); (try simp only [Nat.zero_add, List.nil_append] at hown9))
   refine wp_fg (PhR w ⟨3, row, col, count, til, g⟩ Ag cap r d sp p con k (32 + 1) ys (.slice A9 (m0 + 1) c9)) (by rw [hys]; exact hX.put (((Below.refl _ _).alloc (by omega) _).trans hbel9) hm0.out rfl hown9) ?_
   clear hown9 hbel9 hgr9 hat9 z9
   clear c1 c2 c3 c4 c5 P0 P1 po pb pl pl0 zX hm0
   clear hX HR hys
   clear xs
   obtain ⟨xs, rfl⟩ : ∃ x, x = ys := ⟨_, rfl⟩
   have HR := HRn
   clear HRn
   intro X hX
   generalize Value.slice A9 (m0 + 1) c9 = v0 at hX ⊢
   obtain ⟨P0, P1, ⟨m0, hm0, po⟩, pb, pl⟩ := id hX
   have pl0 := pl
   rw [← hm0] at pl0
   replace hm0 := Lib.hid hm0
   obtain ⟨-, c1, c2, c3, c4, c5, -⟩ := blk6 P0
   dsimp only at c1 c2 c3 c4 c5
   have zX := P1.lt
   have s0 := P1.cell 0
   have s1 := P1.cell 1
   have s2 := P1.cell 2
   have s3 := P1.cell 3
   have s4 := P1.cell 4
   have s5 := P1.cell 5
   simp only [List.getElem?_toArray, List.getElem?_cons_zero, List.getElem?_cons_succ] at s0 s1 s2 s3 s4 s5
   obtain ⟨Ao, co, rfl⟩ := own_slice po
   obtain ⟨ys, hys⟩ : ∃ y, y = xs ++ SW := ⟨_, rfl⟩
   have HRn := ph_app HR hys
   go_upto_region 22 with (first
    | (go_at_call 44; refine (HWd.out _ pb).mono ?_; rintro e w2 ⟨A2, cw, rfl, o2, b2⟩; have z2 := b2.size)
    | (at_builtin; refine app_list rfl _ _ _ rfl elt_str ((w.heap.size + 2)) _ rfl (own_below po b2) _ _ rfl ((Rd.of_own o2)) (by first | rfl | exact sv_one _ | exact wv_one _) (by omega) (by omega) (by first | (simp; done) | (simp; omega) | omega) ?_; intro A9 c9 w9 hown9 hbel9 hgr9 hat9; have z9 := hbel9.size; (try simp only [World.size_alloc] at z9); (try simp only [Nat.zero_add, List.nil_append] at hown9)))
   refine wp_fg (PhR w ⟨3, row, col, count, til, g⟩ Ag cap r d sp p con k (32 + 1 + SW.length) ys (.slice A9 (m0 + SW.length) c9)) (by rw [hys]; exact hX.put ((b2.mono (by omega)).trans hbel9) hm0.out rfl hown9) ?_
   clear hown9 hbel9 hgr9 hat9 z9 o2 b2 z2 s0 s1 s2 s3 s4 s5
   clear c1 c2 c3 c4 c5 P0 P1 po pb pl pl0 zX hm0
   clear hX HR hys
   clear xs
   obtain ⟨xs, rfl⟩ : ∃ x, x = ys := ⟨_, rfl⟩
   have HR := HRn
   clear HRn
   intro X hX
   generalize Value.slice A9 (m0 + SW.length) c9 = v0 at hX ⊢
   obtain ⟨P0, P1, ⟨m0, hm0, po⟩, pb, pl⟩ := id hX
   have pl0 := pl
   rw [← hm0] at pl0
   replace hm0 := Lib.hid hm0
   obtain ⟨-, c1, c2, c3, c4, c5, -⟩ := blk6 P0
   dsimp only at c1 c2 c3 c4 c5
   have zX := P1.lt
   obtain ⟨Ao, co, rfl⟩ := own_slice po
   obtain ⟨ys, hys⟩ : ∃ y, y = xs ++ [bStop] := ⟨_, rfl⟩
   have HRn := ph_app (zs := [bStop]) HR hys
   go_upto_region 30 with (at_builtin; refine app_list rfl _ _ _ rfl elt_str ((w.heap.size + 2)) _ rfl (own_below po ((Below.refl _ _).alloc (Nat.le_refl _) _)) _ _ rfl ((rd_built (xs := sv [bStop]) rfl rfl)) (by first | rfl | exact sv_one _ | exact wv_one _) (by omega) (by omega) (by first | (simp; done) | (simp; omega) | omega) ?_; intro A9 c9 w9 hown9 hbel9 hgr9 hat9; have z9 := hbel9.size; (try simp only [World.size_alloc] at z9); (try simp only [Nat.zero_add, List.nil_append] at hown9))
   refine wp_fg (PhR w ⟨3, row, col, count, til, g⟩ Ag cap r d sp p con k (32 + 1 + SW.length + 1) ys (.slice A9 (m0 + 1) c9)) (by rw [hys]; exact hX.put (((Below.refl _ _).alloc (by omega) _).trans hbel9) hm0.out rfl hown9) ?_
   clear hown9 hbel9 hgr9 hat9 z9
   clear c1 c2 c3 c4 c5 P0 P1 po pb pl pl0 zX hm0
   clear hX HR hys
   clear xs
   obtain ⟨xs, rfl⟩ : ∃ x, x = ys := ⟨_, rfl⟩
   have HR := HRn
   clear HRn
   intro X hX
   generalize Value.slice A9 (m0 + 1) c9 = v0 at hX ⊢
   obtain ⟨P0, P1, ⟨m0, hm0, po⟩, pb, pl⟩ := id hX
   have pl0 := pl
   rw [← hm0] at pl0
   replace hm0 := Lib.hid hm0
   obtain ⟨-, c1, c2, c3, c4, c5, -⟩ := blk6 P0
   dsimp only at c1 c2 c3 c4 c5
   have zX := P1.lt
   go_wp2
   go_ret
   exact hX.done HR.out
theorem vphrase_ (x : ChgM) (hc : chkU x.c = 0) (r : Int) (d sp : Bool) (p : Int) (con : Bool) (k : Int) (w : World) (B : Nat) (hB : B ≤ w.heap.size) (rd : Rd w B 3 x.A x.c.glyphs.length (encGs x.c.glyphs)) (hcx : x.c.glyphs.length ≤ x.cap) (hmx : x.cap ≤ maxLen) (hp0 : 0 ≤ p) (ht : Tb w) :
  Calls Tryz.prog 27 #[chgV x.c x.A x.cap, stV r d sp p con k] w (GivesOwn 9 1 id w (phraseL x.c ⟨d, sp, p⟩).length (sv (phraseL x.c ⟨d, sp, p⟩))) := by
 obtain ⟨hg, hgl, hk, hr⟩ := chk_gl hc
 obtain ⟨⟨kind, row, col, count, til, g⟩, A, cap⟩ := x
 simp only at hk hr hg hgl rd hcx hmx
 unfold rangesU at hr
 simp only at hr
 by_cases h1 : kind = 1
 ·subst h1
  rw [if_pos rfl, decide_eq_true_eq] at hr
  exact vphrase_one row col count til g A cap r d sp p con k w ht hr
 ·by_cases h2 : kind = 2
  ·subst h2
   rw [if_neg (by decide), if_pos rfl, decide_eq_true_eq] at hr
   exact vphrase_two row col count til g A cap r d sp p con k w ht ⟨hr.1, hr.2.1, by omega, by omega, by omega, by omega⟩
  ·by_cases h3 : kind = 3
   ·subst h3
    rw [if_neg (by decide), if_neg (by decide), if_pos rfl, decide_eq_true_eq] at hr
    exact vphrase_three row col count til g A cap r d sp p con k w ht hr B hg (fun x hx => (gw_of (hgl x hx)).1) hcx hmx rd hB hp0
   ·obtain rfl : kind = 4 := by omega
    rw [if_neg (by decide), if_neg (by decide), if_neg (by decide), decide_eq_true_eq] at hr
    exact vphrase_four row col count til g A cap r d sp p con k w ht ⟨hr.1, hr.2.1, hr.2.2.1, hr.2.2.2.1⟩
end Go.Proofs.YtejjfiipghcifaaGreatDoor
