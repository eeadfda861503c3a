/- Joined texts: Num1, Num2, Num3, Num4, Mp, Num5. -/
import Derived.Maps.Own
import Derived.Maps.OwnOps
import Derived.Maps.OwnSet
import Derived.Maps.Views
import Derived.Test.YtholajadbbdcmaaGreatDoorQAA
set_option linter.unusedVariables false
set_option linter.unusedSimpArgs false
set_option linter.unnecessarySimpa false
namespace Go.Proofs.YtholajadbbdcmaaGreatDoor
open Go.RowKit
def wb : Nat → ByteArray
 | 0 => ⟨#[122, 101, 114, 111]⟩ | 1 => ⟨#[111, 110, 101]⟩ | 2 => ⟨#[116, 119, 111]⟩ | 3 => ⟨#[116, 104, 114, 101, 101]⟩ | 4 => ⟨#[102, 111, 117, 114]⟩ | 5 => ⟨#[102, 105, 118, 101]⟩
 | 6 => ⟨#[115, 105, 120]⟩ | 7 => ⟨#[115, 101, 118, 101, 110]⟩ | 8 => ⟨#[101, 105, 103, 104, 116]⟩ | 9 => ⟨#[110, 105, 110, 101]⟩ | 10 => ⟨#[116, 101, 110]⟩ | 11 => ⟨#[101, 108, 101, 118, 101, 110]⟩
 | 12 => ⟨#[116, 119, 101, 108, 118, 101]⟩ | 13 => ⟨#[116, 104, 105, 114, 116, 101, 101, 110]⟩ | 14 => ⟨#[102, 111, 117, 114, 116, 101, 101, 110]⟩ | 15 => ⟨#[102, 105, 102, 116, 101, 101, 110]⟩
 | 16 => ⟨#[115, 105, 120, 116, 101, 101, 110]⟩ | 17 => ⟨#[115, 101, 118, 101, 110, 116, 101, 101, 110]⟩ | 18 => ⟨#[101, 105, 103, 104, 116, 101, 101, 110]⟩ | 19 => ⟨#[110, 105, 110, 101, 116, 101, 101, 110]⟩
 | 20 => ⟨#[116, 119, 101, 110, 116, 121]⟩ | 21 => ⟨#[116, 104, 105, 114, 116, 121]⟩ | 22 => ⟨#[102, 111, 114, 116, 121]⟩ | 23 => ⟨#[102, 105, 102, 116, 121]⟩ | 24 => ⟨#[115, 105, 120, 116, 121]⟩
 | 25 => ⟨#[115, 101, 118, 101, 110, 116, 121]⟩ | 26 => ⟨#[101, 105, 103, 104, 116, 121]⟩ | 27 => ⟨#[110, 105, 110, 101, 116, 121]⟩ | 28 => ⟨#[104, 117, 110, 100, 114, 101, 100]⟩
 | 29 => ⟨#[116, 104, 111, 117, 115, 97, 110, 100]⟩ | 30 => ⟨#[109, 105, 108, 108, 105, 111, 110]⟩ | _ => ⟨#[109, 105, 110, 117, 115]⟩
def wv (l : List Nat) : List Value := l.map fun i => .string (wb i)
def vocab : Array Value := ((List.range 32).map fun i => Value.string (wb i)).toArray
theorem vocab_lit : vocab = #[Value.string (wb 0), .string (wb 1), .string (wb 2), .string (wb 3), .string (wb 4), .string (wb 5), .string (wb 6), .string (wb 7), .string (wb 8), .string (wb 9), .string (wb 10), .string (wb 11), .string (wb 12), .string (wb 13), .string (wb 14), .string (wb 15), .string (wb 16), .string (wb 17), .string (wb 18), .string (wb 19), .string (wb 20), .string (wb 21), .string (wb 22), .string (wb 23), .string (wb 24), .string (wb 25), .string (wb 26), .string (wb 27), .string (wb 28), .string (wb 29), .string (wb 30), .string (wb 31)] := rfl
theorem wv_one (l : List Nat) : (wv l).all Value.oneCell' = true := by
 rw [List.all_eq_true]
 intro u hu
 simp [wv] at hu
 obtain ⟨i, _, rfl⟩ := hu
 rfl
theorem wv_append (l k : List Nat) : wv (l ++ k) = wv l ++ wv k := by simp [wv]
set_option maxHeartbeats 400000 in
theorem voc (w : World) : Calls Tryz.prog 179 #[] w fun e w' => e = .returned (.slice (some ⟨w.heap.size, 0, none⟩) 32 32) ∧ w.alloc (.cells vocab 9) = w' := by
 rw [vocab_lit]
 go_enter Tryz.func179, Tryz.ntmps179
 go_wp2
 go_ret
 exact ⟨rfl, rfl⟩
theorem cellVoc (w : World) (i : Nat) (h : i < 32) : (w.alloc (.cells vocab 9)).cell? ⟨w.heap.size, i, none⟩ = some (.string (wb i)) := by
 rw [cell_built]
 simp [vocab, h]
def smallR (m : Nat) : List Nat := (if 100 ≤ m then [m / 100, 28] else [])
def smallS (m : Nat) : List Nat := (if 20 ≤ m then [18 + m / 10] else [])
def smallT (m : Nat) : List Nat := (if 0 < m then [m] else [])
def smallL (m : Nat) : List Nat :=
 let k := if 100 ≤ m then m % 100 else m
 smallR m ++ smallS k ++ smallT (if 20 ≤ k then k % 10 else k)
theorem smallL_le (m : Nat) : (smallL m).length ≤ 4 := by
 unfold smallL smallR smallS smallT
 simp only [List.length_append]
 repeat' split
 all_goals simp
set_option maxHeartbeats 400000 in
theorem small (m : Nat) (hm : m < 1000) (w : World) :
  Calls Tryz.prog 181 #[.int .i64 m] w (GivesOwn 9 1 id w (smallL m).length (wv (smallL m))) := by
 go_enter Tryz.func181, Tryz.ntmps181
 go_upto_if 7 with (go_at_call 179; refine (voc _).mono ?_; rintro e w' ⟨rfl, rfl⟩)
 go_cut [0, 4] (fun s0 s4 wx => s0 = .int .i64 ((if 100 ≤ m then m % 100 else m : Nat) : Int) ∧ Ow wx (w.heap.size + 1) 9 1 s4 (smallR m).length (wv (smallR m)) ∧ Below (w.heap.size + 1) (w.alloc (.cells vocab 9)) wx)
 case first =>
  have h1 := cellVoc w (m/100) (by omega)
  by_cases c : 100 ≤ m
  ·go_wp2_with (at_builtin; refine app_list rfl _ _ _ rfl elt_str (w.heap.size + 1) _ rfl (own_nil _ _ _ _) _ _ rfl ((rd_built (by simp) rfl)) (by first | rfl | exact sv_one _ | exact wv_one _) (by omega) (by omega) (by first | (simp; done) | (simp; omega) | omega) ?_; intro A1 c1 w1 hown1 hbel1 hgr1 hat1; have z1 := hbel1.size; (try simp only [World.size_alloc] at z1); (try simp only [Nat.zero_add, List.nil_append] at hown1))
   go_meet
   exact ⟨by simp [c], ⟨A1, c1, by simp [smallR, c], by simpa [smallR, c, wv, wb] using hown1⟩, (Below.alloc (Below.refl _ _) (by simp) _).trans hbel1⟩
  ·go_wp2_with fail
   go_meet
   exact ⟨by simp [c], ⟨none, 0, by simp [smallR, c], by simpa [smallR, c, wv, wb] using own_nil _ _ _ _⟩, Below.refl _ _⟩
 case rest =>
  obtain ⟨wa, rfl⟩ : ∃ x : World, x = wc := ⟨_, rfl⟩
  obtain ⟨rfl, ⟨A, c, rfl, hown⟩, hbel⟩ := hcut
  have hk : (if 100 ≤ m then m % 100 else m) < 100 := by split <;> omega
  have HL : Hid (smallL m = smallR m ++ smallS (if 100 ≤ m then m % 100 else m) ++ smallT (if 20 ≤ (if 100 ≤ m then m % 100 else m) then (if 100 ≤ m then m % 100 else m) % 10 else (if 100 ≤ m then m % 100 else m))) := Lib.hid rfl
  have hR2 : (smallR m).length ≤ 2 := by unfold smallR; split <;> simp
  generalize (if 100 ≤ m then m % 100 else m) = k at hk HL ⊢
  generalize smallR m = R at hR2 hown HL ⊢
  have hz := hbel.size
  rw [World.size_alloc] at hz
  have h2 : 20 ≤ k → wa.cell? ⟨w.heap.size, 18 + k / 10, none⟩ = some (.string (wb (18 + k / 10))) := fun _ => (hbel.cell (p := ⟨w.heap.size, 18 + k/10, none⟩) (by simp)).trans (cellVoc w (18 + k/10) (by omega))
  go_upto_if 19 with fail
  go_cut [0, 4] (fun s0 s4 wx => s0 = .int .i64 ((if 20 ≤ k then k % 10 else k : Nat) : Int) ∧ Ow wx (w.heap.size + 1) 9 1 s4 (R ++ smallS k).length (wv (R ++ smallS k)) ∧ Below (w.heap.size + 1) wa wx)
  case first =>
   by_cases c20 : 20 ≤ k
   ·have h2' := h2 c20
    go_wp2_with (at_builtin; refine app_list rfl _ _ _ rfl elt_str (w.heap.size + 1) _ rfl (hown.alloc _) _ _ rfl ((rd_built (by simp) rfl)) (by first | rfl | exact sv_one _ | exact wv_one _) (by omega) (by omega) (by first | (simp; done) | (simp; omega) | omega) ?_; intro A1 c1 w1 hown1 hbel1 hgr1 hat1; have z1 := hbel1.size; (try simp only [World.size_alloc] at z1); (try simp only [Nat.zero_add, List.nil_append] at hown1))
    go_meet
    exact ⟨by simp [c20], ⟨A1, c1, by simp [smallS, c20], by simpa [smallS, c20, wv] using hown1⟩, ((Below.refl _ _).alloc (by omega) _).trans hbel1⟩
   ·go_wp2_with fail
    go_meet
    exact ⟨by simp [c20], ⟨A, c, by simp [smallS, c20], by simpa [smallS, c20, wv] using hown⟩, Below.refl _ _⟩
  case rest =>
   obtain ⟨rfl, ⟨A', c', rfl, hown'⟩, hbel'⟩ := hcut
   have hk' : (if 20 ≤ k then k % 10 else k) < 20 := by split <;> omega
   have hR3 : (R ++ smallS k).length ≤ 3 := by unfold smallS; split <;> simp <;> omega
   have hz' := hbel'.size
   have hbx := hbel.trans hbel'
   clear hown h2
   generalize (if 20 ≤ k then k % 10 else k) = j at hk' HL ⊢
   generalize R ++ smallS k = R' at hR3 hown' HL ⊢
   have h3 : wc.cell? ⟨w.heap.size, j, none⟩ = some (.string (wb j)) := (hbx.cell (p := ⟨w.heap.size, j, none⟩) (by simp)).trans (cellVoc w j (by omega))
   have hb0 : Below w.heap.size w wc := ((Below.refl _ _).alloc (Nat.le_refl _) _).trans (hbx.mono (by omega))
   by_cases c0 : 0 < j
   ·go_wp2_with (at_builtin; refine app_list rfl _ _ _ rfl elt_str (w.heap.size + 1) _ rfl (hown'.alloc _) _ _ rfl ((rd_built (by simp) rfl)) (by first | rfl | exact sv_one _ | exact wv_one _) (by omega) (by omega) (by first | (simp; done) | (simp; omega) | omega) ?_; intro A1 c1 w1 hown1 hbel1 hgr1 hat1; have z1 := hbel1.size; (try simp only [World.size_alloc] at z1); (try simp only [Nat.zero_add, List.nil_append] at hown1))
    go_ret
    rw [HL.out]
    refine ⟨A1, c1, by simp [smallT, c0], own_less (base := w.heap.size + 1) (by simpa [smallT, c0, wv] using hown1) (by omega), (hb0.alloc (by omega) _).trans (hbel1.mono (by omega))⟩
   ·go_wp2_with fail
    go_ret
    rw [HL.out]
    refine ⟨A', c', by simp [smallT, c0], own_less (base := w.heap.size + 1) (by simpa [smallT, c0, wv] using hown') (by omega), hb0⟩
def GroupPost (k s wn : Nat) (word : List Value) (B bn bl base n : Nat) (xs : List Value) (w : World) (e : Ending) (w' : World) : Prop :=
 e = .returned (.tuple #[]) ∧
   ∃ A' c', Blk w' bn 3 #[.int .i64 ((k % s : Nat) : Int)] ∧ Blk w' bl 27 #[.slice A' (n + (if 0 < k / s then (smallL (k / s)).length + wn else 0)) c'] ∧
    w'.ownsRow base 9 1 (.slice A' (n + (if 0 < k / s then (smallL (k / s)).length + wn else 0)) c') (n + (if 0 < k / s then (smallL (k / s)).length + wn else 0)) (xs ++ (if 0 < k / s then wv (smallL (k / s)) ++ word else [])) ∧ Below B w w'
set_option maxHeartbeats 400000 in
theorem group (k s : Nat) (hs : 0 < s) (hn : k < s * 1000) (hk : k < 1000000000) (W : Option Addr) (wn wc : Nat) (word : List Value) (B bn bl base : Nat) (A : Option Addr) (n c : Nat) (xs : List Value) (w : World)
  (hw1 : word.all Value.oneCell' = true) (hdis : ∀ b o, W = some ⟨b, o, none⟩ → (Value.slice A n c).ownBlock ≠ some b) (hwn : wn ≤ 1) (h5 : base ≤ w.heap.size) (hnn : n ≤ 20)
  (hW : Rd w w.heap.size 1 W wn word) (hbn : Blk w bn 3 #[.int .i64 k]) (hbl : Blk w bl 27 #[.slice A n c]) (hne : bn ≠ bl) (h1 : B ≤ bn) (h2 : B ≤ bl) (h3 : bn < base) (h4 : bl < base)
  (hown : w.ownsRow base 9 1 (.slice A n c) n xs) :
  Calls Tryz.prog 180 #[.int .i64 s, .slice W wn wc, .pointer (some ⟨bn, 0, none⟩), .pointer (some ⟨bl, 0, none⟩)] w (GroupPost k s wn word B bn bl base n xs w) := by
 have hq : k / s < 1000 := Nat.div_lt_of_lt_mul hn
 have cn := hbn.cell 0
 have cl := hbl.cell 0
 have fn := hbn.frozen 0
 have fl := hbl.frozen 0
 simp at cn cl
 by_cases h0 : 0 < k / s
 ·have HC : ∀ w : World, Calls Tryz.prog 181 #[.int .i64 ((k : Int) / (s : Int))] w (GivesOwn 9 1 id w (smallL (k / s)).length (wv (smallL (k / s)))) := fun w => by
   have := small (k / s) hq w
   rwa [Int.natCast_ediv] at this
  have hL := smallL_le (k / s)
  have HP : Hid (∀ e w', GroupPost k s wn word B bn bl base n xs w e w' = (e = .returned (.tuple #[]) ∧ ∃ A' c', Blk w' bn 3 #[.int .i64 ((k % s : Nat) : Int)] ∧ Blk w' bl 27 #[.slice A' (n + ((smallL (k / s)).length + wn)) c'] ∧
    w'.ownsRow base 9 1 (.slice A' (n + ((smallL (k / s)).length + wn)) c') (n + ((smallL (k / s)).length + wn)) (xs ++ (wv (smallL (k / s)) ++ word)) ∧ Below B w w')) := Lib.hid fun e w' => by
   unfold GroupPost
   rw [if_pos h0, if_pos h0]
  generalize smallL (k / s) = L at *
  have HC' := Lib.hid HC
  clear HC
  go_enter Tryz.func180, Tryz.ntmps180
  go_wp2_with fail
  go_region_law (first
    | (go_simp; go_at_call 181; refine (HC'.out _).mono ?_; rintro e w1 ⟨A1, c1, rfl, hown1, hbel1⟩; have z1 : w.heap.size ≤ w1.heap.size := hbel1.size; have hW1 : Rd w1 w.heap.size 1 W wn word := Rd.below (w := w.drew) hW hbel1; have B1 := Blk.below (w := w.drew) hbl hbel1 hbl.lt; have b1c := B1.cell 0; simp at b1c)
    | (refine app_step rfl _ _ _ rfl elt_str (base) _ rfl (hown2) _ _ rfl ((hW1.grown hgr2 z1 hdis)) (hw1) (by omega) (by omega) (by first | (simp; done) | (simp; omega) | omega) ?_; intro A3 c3 w3 hown3 hbel3 hgr3 hat3; have z3 := hbel3.size; (try simp only [Nat.zero_add, List.nil_append] at hown3); have B3 := B2.below hbel3 h4; have b3c := B3.cell 0; have b3f := B3.frozen 0; simp at b3c)
    | (refine app_step rfl _ _ _ rfl elt_str (base) _ rfl (own_below (w := w.drew) hown hbel1) _ _ rfl ((Rd.of_own hown1)) ((wv_one _)) (by omega) (by omega) (by first | (simp; done) | (simp; omega) | omega) ?_; intro A2 c2 w2 hown2 hbel2 hgr2 hat2; have z2 := hbel2.size; (try simp only [Nat.zero_add, List.nil_append] at hown2); have B2 := B1.below hbel2 h4; have b2c := B2.cell 0; simp at b2c))
  all_goals
   have hbn3 : Blk w3 bn 3 #[.int .i64 k] := ((Blk.below (w := w.drew) hbn hbel1 hbn.lt).below (hbel2.trans hbel3) h3)
   have hbn4 := hbn3.far (p := ⟨bl, 0, none⟩) hne (.slice A3 (n + L.length + wn) c3)
   have d1 := hbn4.cell 0
   have d2 := hbn4.frozen 0
   simp at d1
   have hb0 : Below B w w3 := (below_of_drew (Below.mono hbel1 (by have := hbl.lt; show B ≤ w.heap.size; omega))).trans ((hbel2.trans hbel3).mono (by omega))
   go_wp2
   go_end0
   rw [HP.out]
   refine ⟨rfl, A3, c3, by simpa using hbn4.set_ 0 (.int .i64 (k % s)), by simpa [Nat.add_assoc] using (B3.set_ 0 (.slice A3 (n + L.length + wn) c3)).far (p := ⟨bn, 0, none⟩) (Ne.symm hne) _, ?_, (hb0.setCell h2 _).setCell h1 _⟩
   have hx := ownsRow_setCell_below (ownsRow_setCell_below hown3 (a := ⟨bl, 0, none⟩) h4 (.slice A3 (n + L.length + wn) c3)) (a := ⟨bn, 0, none⟩) h3 (.int .i64 (k % s))
   simpa [Nat.add_assoc] using hx
 ·have e0 : k / s = 0 := Nat.eq_zero_of_not_pos h0
  have e1 : k % s = k := by have := Nat.div_add_mod k s; rw [e0] at this; simpa using this
  have e0' : (k : Int) / (s : Int) = 0 := by rw [← Int.natCast_ediv, e0]; rfl
  have e1' : (k : Int) % (s : Int) = k := by rw [← Int.natCast_emod, e1]
  have E1 := Lib.hid e1'
  clear e1'
  go_enter Tryz.func180, Tryz.ntmps180
  go_wp2
  go_end0
  unfold GroupPost
  rw [if_neg h0, if_neg h0, e1]
  exact ⟨rfl, A, c, by simpa using hbn, by simpa using hbl, by simpa using hown, Below.refl _ _⟩
def segL (q x : Nat) : List Nat := if 0 < q then smallL q ++ [x] else []
def segE (q : Nat) : List Nat := if 0 < q then smallL q else []
def posL (k : Nat) : List Nat := segL (k / 1000000) 30 ++ segL (k % 1000000 / 1000) 29 ++ segE (k % 1000000 % 1000)
def wordsL (n : Int) : List Nat := if n = 0 then [0] else (if n < 0 then [31] else []) ++ posL n.natAbs
theorem segL_two (q x : Nat) : ((if 0 < q then (smallL q).length + 1 else 0) = (segL q x).length) ∧ ((if 0 < q then wv (smallL q) ++ [.string (wb x)] else []) = wv (segL q x)) := by
 unfold segL
 split <;> simp [wv]
theorem segE_two (q : Nat) : ((if 0 < q / 1 then (smallL (q / 1)).length + 0 else 0) = (segE q).length) ∧ ((if 0 < q / 1 then wv (smallL (q / 1)) ++ [] else []) = wv (segE q)) := by
 unfold segE
 rw [Nat.div_one]
 split <;> simp [wv]
theorem segL_le (q x : Nat) : (segL q x).length ≤ 5 := by
 have := smallL_le q
 unfold segL
 split <;> simp <;> omega
theorem posL_eq (m : Nat) : posL m = segL (m / 1000000) 30 ++ segL (m % 1000000 / 1000) 29 ++ segE (m % 1000000 % 1000) := rfl
theorem hown_size {B : Nat} {w w1 : World} {o : Obj} (h : Below B (w.alloc o) w1) : w.heap.size + 1 ≤ w1.heap.size := by
 have := h.size
 rwa [World.size_alloc] at this
abbrev okPair (v : Value) : Value := .tuple #[v, .int .i64 0]
set_option maxHeartbeats 400000 in
theorem words_range (n : Int) (h : n < -999999999 ∨ 999999999 < n) (w : World) :
  Calls Tryz.prog 153 #[.int .i64 n] w (Gives (.tuple #[.slice none 0 0, .int .i64 2]) w) := by
 rcases h with h | h
 ·go_enter Tryz.func153, Tryz.ntmps153
  go_wp2
  go_ret2
  exact ⟨rfl, (Below.refl _ _).alloc (Nat.le_refl _) _⟩
 ·have h' : ¬ n < -999999999 := by omega
  go_enter Tryz.func153, Tryz.ntmps153
  go_wp2
  go_ret2
  exact ⟨rfl, (Below.refl _ _).alloc (Nat.le_refl _) _⟩
set_option maxHeartbeats 400000 in
theorem words_zero (w : World) :
  Calls Tryz.prog 153 #[.int .i64 0] w (GivesOwn 9 1 okPair w 1 (wv [0])) := by
 go_enter Tryz.func153, Tryz.ntmps153
 go_wp2
 go_ret2
 refine ⟨_, _, rfl, ?_, ((Below.refl _ _).alloc (Nat.le_refl _) _).alloc (by simp) _⟩
 exact own_built (xs := [_]) (by simp) rfl (by omega) (by omega)
set_option maxHeartbeats 4000000 in
theorem words_other (n : Int) (h0 : n ≠ 0) (h1 : -999999999 ≤ n) (h2 : n ≤ 999999999) (w : World) :
  Calls Tryz.prog 153 #[.int .i64 n] w (GivesOwn 9 1 okPair w (wordsL n).length (wv (wordsL n))) := by
 have h3 : (n == 0) = false := by simp [h0]
 have hN := Lib.hid h0
 clear h0
 go_enter Tryz.func153, Tryz.ntmps153
 go_upto_if 16 with fail
 go_cut [] (fun wx => ∃ (A : Option Addr) (c : Nat), Blk wx w.heap.size 3 #[.int .i64 (n.natAbs : Int)] ∧ Blk wx (w.heap.size + 1) 27 #[.slice A (if n < 0 then [31] else []).length c] ∧
  wx.ownsRow (w.heap.size + 2) 9 1 (.slice A (if n < 0 then [31] else []).length c) (if n < 0 then [31] else []).length (wv (if n < 0 then [31] else [])) ∧ Below w.heap.size w wx)
 case first =>
  by_cases hn : n < 0
  ·go_wp2_with fail
   go_region_law (refine app_step rfl _ _ _ rfl elt_str (w.heap.size + 2) _ rfl (own_nil _ _ _ _) _ _ rfl ((rd_built (by simp) rfl)) (rfl) (by omega) (by omega) (by first | (simp; done) | (simp; omega) | omega) ?_; intro A1 c1 w1 hown1 hbel1 hgr1 hat1; have z1 := hbel1.size; (try simp only [Nat.zero_add, List.nil_append] at hown1); have B0 : Blk w1 w.heap.size 3 #[.int .i64 n] := Blk.below (by exact ((Blk.new_ rfl).alloc _).alloc _) hbel1 (by omega); have B1 : Blk w1 (w.heap.size + 1) 27 #[.slice none 0 0] := Blk.below (by exact (Blk.new_ (by simp)).alloc _) hbel1 (by omega); have d0 := B0.cell 0; have d1 := B1.cell 0; have f0 := B0.frozen 0; have f1 := B1.frozen 0; simp at d0 d1)
   all_goals
    go_wp2_with fail
    go_meet
    rw [if_pos hn]
    have e0 : ((n.natAbs : Nat) : Int) = -n := by omega
    rw [e0]
    have hw : IntKind.i64.wrap (-n) = -n := IntWalk.i64_in _ (by omega)
    simp only [hw]
    have hb0 : Below w.heap.size w w1 := by
     refine Below.trans (b := _) ?_ (hbel1.mono (by omega))
     (repeat (first | exact Below.refl _ _ | assumption | refine Below.drew ?_ | refine Below.alloc ?_ (by first | (simp; done) | (simp; omega) | omega) _ | refine Below.setCell ?_ (by first | (simp; done) | (simp; omega) | omega) _))
    refine ⟨A1, c1, ?_, ?_, ?_, ?_⟩
    ·first
      | (simpa using (B0.far (p := ⟨w.heap.size + 1, 0, none⟩) (by simp) _).set_ 0 (.int .i64 (-n)))
      | (simpa using (B0.set_ 0 (.int .i64 (-n))).far (p := ⟨w.heap.size + 1, 0, none⟩) (by simp) _)
    ·first
      | (simpa using (B1.far (p := ⟨w.heap.size, 0, none⟩) (by simp) _).set_ 0 (.slice A1 1 c1))
      | (simpa using (B1.set_ 0 (.slice A1 1 c1)).far (p := ⟨w.heap.size, 0, none⟩) (by simp) _)
    ·exact ownsRow_setCell_below (ownsRow_setCell_below hown1 (by simp) _) (by simp) _
    ·exact (hb0.setCell (by simp) _).setCell (by simp) _
  ·go_wp2_with fail
   go_meet
   rw [if_neg (by omega)]
   have e0 : ((n.natAbs : Nat) : Int) = n := by omega
   rw [e0]
   exact ⟨none, 0, (Blk.new_ rfl).alloc _, Blk.new_ (by simp), own_nil _ _ _ _, ((Below.refl _ _).alloc (Nat.le_refl _) _).alloc (by simp) _⟩
 case rest =>
  obtain ⟨A, c, hB0, hB1, hown, hbel⟩ := hcut
  obtain ⟨wa, rfl⟩ : ∃ x : World, x = wc := ⟨_, rfl⟩
  have hW : Hid (wordsL n = (if n < 0 then [31] else []) ++ posL n.natAbs) := Lib.hid (by unfold wordsL; rw [if_neg hN.out])
  have hm : n.natAbs ≤ 999999999 := by omega
  have hl : (if n < 0 then [31] else [] : List Nat).length ≤ 1 := by split <;> simp
  generalize (if n < 0 then [31] else [] : List Nat) = l0 at *
  generalize n.natAbs = m at *
  have z0 := hB1.lt
  go_wp2_with fail
  refine (group m 1000000 (by omega) (by omega) (by omega) _ 1 1 [.string (wb 30)] w.heap.size _ _ (w.heap.size + 2) A l0.length c (wv l0) _ rfl ?_ (by omega) (by first | (simp; done) | (simp; omega) | omega) (by omega) (rd_built rfl rfl |>.more (by first | (simp; done) | (simp; omega) | omega)) (hB0.alloc _) (hB1.alloc _) (by omega) (by omega) (by omega) (by omega) (by omega) (hown.alloc _)).mono ?_
  ·intro b o e
   injection e with e
   injection e with e1
   subst e1
   intro e2
   exact absurd (hown.lt _ e2).2 (by omega)
  rintro e w1 ⟨rfl, A1, c1, hB01, hB11, hown1, hbel1⟩
  have hG1 : ((if 0 < m / 1000000 then (smallL (m / 1000000)).length + 1 else 0) = (segL (m / 1000000) 30).length) ∧ ((if 0 < m / 1000000 then wv (smallL (m / 1000000)) ++ [.string (wb 30)] else []) = wv (segL (m / 1000000) 30)) := segL_two _ _
  rw [hG1.1] at hB11 hown1
  rw [hG1.2] at hown1
  have hq1 := segL_le (m / 1000000) 30
  have hP := Lib.hid (posL_eq m)
  generalize segL (m / 1000000) 30 = l1 at *
  clear hG1
  have hm1 : m % 1000000 < 1000000 := by omega
  generalize m % 1000000 = m1 at *
  have z1 : wa.heap.size + 1 ≤ w1.heap.size := hown_size hbel1
  clear hown hB0 hB1
  go_wp2_with fail
  refine (group m1 1000 (by omega) (by omega) (by omega) _ 1 1 [.string (wb 29)] w.heap.size _ _ (w.heap.size + 2) A1 (l0.length + l1.length) c1 (wv l0 ++ wv l1) _ rfl ?_ (by omega) (by first | (simp; done) | (simp; omega) | omega) (by omega) (rd_built rfl rfl |>.more (by first | (simp; done) | (simp; omega) | omega)) (hB01.alloc _) (hB11.alloc _) (by omega) (by omega) (by omega) (by omega) (by omega) (hown1.alloc _)).mono ?_
  ·intro b o e
   injection e with e
   injection e with e1
   subst e1
   intro e2
   exact absurd (hown1.lt _ e2).2 (by omega)
  rintro e w2 ⟨rfl, A2, c2, hB02, hB12, hown2, hbel2⟩
  have hG2 : ((if 0 < m1 / 1000 then (smallL (m1 / 1000)).length + 1 else 0) = (segL (m1 / 1000) 29).length) ∧ ((if 0 < m1 / 1000 then wv (smallL (m1 / 1000)) ++ [.string (wb 29)] else []) = wv (segL (m1 / 1000) 29)) := segL_two _ _
  rw [hG2.1] at hB12 hown2
  rw [hG2.2] at hown2
  have hq2 := segL_le (m1 / 1000) 29
  generalize segL (m1 / 1000) 29 = l2 at *
  clear hG2
  have hm2 : m1 % 1000 < 1000 := by omega
  generalize m1 % 1000 = m2 at *
  have z2 : w1.heap.size + 1 ≤ w2.heap.size := hown_size hbel2
  clear hown1 hB01 hB11
  go_wp2_with fail
  refine (group m2 1 (by omega) (by omega) (by omega) _ 0 0 [] w.heap.size _ _ (w.heap.size + 2) A2 (l0.length + l1.length + l2.length) c2 (wv l0 ++ wv l1 ++ wv l2) _ rfl ?_ (by omega) (by first | (simp; done) | (simp; omega) | omega) (by omega) Rd.none_ hB02 hB12 (by omega) (by omega) (by omega) (by omega) (by omega) hown2).mono ?_
  ·intro b o e
   cases e
  rintro e w3 ⟨rfl, A3, c3, hB03, hB13, hown3, hbel3⟩
  have hG3 : ((if 0 < m2 / 1 then (smallL (m2 / 1)).length + 0 else 0) = (segE m2).length) ∧ ((if 0 < m2 / 1 then wv (smallL (m2 / 1)) ++ [] else []) = wv (segE m2)) := segE_two _
  rw [hG3.1] at hB13 hown3
  rw [hG3.2] at hown3
  have d3 := hB13.cell 0
  simp at d3
  go_wp2_with fail
  go_ret2
  rw [hW.out, hP.out]
  refine ⟨A3, c3, by simp [okPair, Nat.add_assoc], ?_, ((hbel.alloc (by first | (simp; done) | (simp; omega) | omega) _).trans hbel1).trans ((((Below.refl _ _).alloc (by first | (simp; done) | (simp; omega) | omega) _).trans hbel2).trans hbel3)⟩
  have := own_less (base' := w.heap.size) hown3 (by omega)
  simpa [wv_append, Nat.add_assoc] using this
theorem words_in (n : Int) (h1 : -999999999 ≤ n) (h2 : n ≤ 999999999) (w : World) :
  Calls Tryz.prog 153 #[.int .i64 n] w (GivesOwn 9 1 okPair w (wordsL n).length (wv (wordsL n))) := by
 by_cases h0 : n = 0
 ·subst h0
  exact words_zero w
 ·exact words_other n h0 h1 h2 w
theorem wordsL_le (n : Int) : (wordsL n).length ≤ 15 := by
 unfold wordsL
 split
 ·simp
 ·have a := segL_le (n.natAbs / 1000000) 30
  have b := segL_le (n.natAbs % 1000000 / 1000) 29
  have c : (segE (n.natAbs % 1000000 % 1000)).length ≤ 4 := by
   unfold segE
   split
   ·exact smallL_le _
   ·simp
  rw [List.length_append, posL_eq, List.length_append, List.length_append]
  have d : (if n < 0 then [31] else [] : List Nat).length ≤ 1 := by split <;> simp
  omega
theorem wv_sv (l : List Nat) : wv l = sv (l.map wb) := by simp [wv, sv]
end Go.Proofs.YtholajadbbdcmaaGreatDoor
namespace Go.Proofs.YtholajadbbdcmaaGreatDoor
open Go.RowKit Go.WideMaps
section
variable {P : Program} {K E : TypeId}
def MapI (P : Program) (K E : TypeId) (w : World) (b n : Nat) (f : ByteArray → Option Int) : Prop :=
 ∃ D : DataW Unit, w.ownsMap P K (plainElem P E) b n D ∧ Maps.IsMap D ∧ ∀ s : ByteArray, Maps.has D (.string s.data.toList) = (f s).isSome ∧ ∀ v, f s = some v → ∀ z, D.atKey (.string s.data.toList) z = .lit (.int .i64 v)
theorem MapI.lt {w : World} {b n : Nat} {f : ByteArray → Option Int} (h : MapI P K E w b n f) : b < w.heap.size := by
 obtain ⟨D, h1, _⟩ := h
 exact h1.lt
theorem MapI.keep {w w' : World} {b n : Nat} {f : ByteArray → Option Int} (h : MapI P K E w b n f) (hb : w'.heap[b]? = w.heap[b]?) : MapI P K E w' b n f := by
 obtain ⟨D, ⟨es, clock, h0, h1⟩, h2⟩ := h
 exact ⟨D, ⟨es, clock, hb.trans h0, h1⟩, h2⟩
theorem MapI.made {w : World} {b : Nat} (hb : w.heap.size = b) : MapI P K E (w.alloc (.map #[] 0)) b 0 fun _ => none := by
 subst hb
 exact ⟨.map [], World.ownsMap_made _ _ _ _, Maps.isMap_empty, fun s => ⟨by simp [Maps.has], fun v h => by cases h⟩⟩
theorem MapI.ext {w : World} {b n : Nat} {f g : ByteArray → Option Int} (h : MapI P K E w b n f) (hfg : ∀ s, f s = g s) : MapI P K E w b n g := by
 obtain rfl : f = g := funext hfg
 exact h
theorem ba_data_inj {s t : ByteArray} (h : s.data.toList = t.data.toList) : s = t := by
 cases s; cases t
 simp only at h
 rw [Array.toList_inj.1 h]
theorem mapI_look {w : World} {ops : Array Oper} {rest : List Oper} {o : Oper} {a : Act} {Q : Exit → Act → World → Prop} (hg : o.guard = none) (m x : Operand) (t : TypeId) (hop : o.op = .lookup t m x true)
  (hK : P.underlying K = some .string) (ht : P.underlying t = some (.map K E)) (he : P.underlying E = some (.int .i64)) (hz : ∀ w : World, (zeroValue E).run P w = .ok (.int .i64 0) w)
  {b n : Nat} {f : ByteArray → Option Int} (hm : a.eval m = .map (some b)) (hown : MapI P K E w b n f) {s : ByteArray} (hx : a.eval x = .string s) (hs : s.size ≤ maxLen)
  (h : wpList P ops Q rest (a.put o.dst (.tuple #[.int .i64 ((f s).getD 0), .bool (f s).isSome])) w) : wpList P ops Q (o :: rest) a w := by
 obtain ⟨D, h1, h2, h3⟩ := hown
 refine wpList_lookup_own_ok_int w hg m x t hop K E .i64 (Maps.string_keyed hK) ht he (hz w) b n D hm h1 _ _ hx (keyOf_string_mk hK hs) fun c hc _ => ?_
 rw [(h3 s).1]
 have e : c = (f s).getD 0 := by
  cases hf : f s with
  | some v =>
   have := (h3 s).2 v hf (.lit (.int .i64 0))
   rw [this] at hc
   injection hc with hc
   injection hc with _ hc
   exact hc.symm
  | none =>
   have := (h3 s).1
   rw [hf] at this
   have h4 := Maps.atKey_of_not_has this (.lit (.int .i64 0))
   rw [h4] at hc
   injection hc with hc
   injection hc with _ hc
   exact hc.symm
 rw [e]
 exact h
theorem mapI_store {w : World} {ops : Array Oper} {rest : List Oper} {o : Oper} {a : Act} {Q : Exit → Act → World → Prop} (hg : o.guard = none) (m x v : Operand) (t : TypeId) (hop : o.op = .mapUpdate t m x v)
  (hK : P.underlying K = some .string) (ht : P.underlying t = some (.map K E)) (he : P.underlying E = some (.int .i64))
  {b n : Nat} {f : ByteArray → Option Int} (hm : a.eval m = .map (some b)) (hown : MapI P K E w b n f) {s : ByteArray} (hx : a.eval x = .string s) (hs : s.size ≤ maxLen) {z : Int} (hv : a.eval v = .int .i64 z) (hw : (Lit.int .i64 z).wf = true) (hn : n < maxLen)
  (h : ∀ w', MapI P K E w' b (n + 1) (fun k => if k = s then some z else f k) → w.grownBy w' (some b) → wpList P ops Q rest (a.put o.dst undef) w') : wpList P ops Q (o :: rest) a w := by
 obtain ⟨D, h1, h2, h3⟩ := hown
 refine wpList_mapUpdate_own w hg m x v t hop K E (Maps.string_keyed hK) ht _ b n D hm h1 hn _ _ _ hx hv (keyOf_string_mk hK hs) _ [] (plainElem_int he hw) fun w' h4 h5 => h w' ⟨_, h4, h2.put _ _, fun k => ?_⟩ h5
 by_cases hk : k = s
 ·subst hk
  simp only [if_true]
  exact ⟨Maps.has_put_same h2 (by simp [WideAt.IsKeyLit]) _, fun v hv z => by injection hv with hv; subst hv; exact Maps.atKey_put_same h2 (by simp [WideAt.IsKeyLit]) _ _⟩
 ·simp only [if_neg hk]
  have hne : Lit.string k.data.toList ≠ Lit.string s.data.toList := by
   intro e
   injection e with e
   exact hk (ba_data_inj e)
  refine ⟨(Maps.has_put_other hne _).trans (h3 k).1, fun v hv z => ?_⟩
  rw [Maps.atKey_put_other hne]
  exact (h3 k).2 v hv z
end
def valI (i : Nat) : Int := if 20 < i then 10 * ((i : Int) - 18) else i
def valK : Nat → ByteArray → Option Int
 | 0, _ => none
 | k + 1, s => if s = wb k then some (valI k) else valK k s
theorem wb_size (i : Nat) : (wb i).size ≤ maxLen := by
 unfold wb maxLen
 split <;> decide
theorem zeroInt (w : World) : (zeroValue 3).run Tryz.prog w = .ok (.int .i64 0) w := by kernel_rfl
set_option maxHeartbeats 800000 in
theorem values (w : World) : Calls Tryz.prog 152 #[] w fun e w' => ∃ b, e = .returned (.map (some b)) ∧ MapI Tryz.prog 9 3 w' b 56 (valK 28) ∧ Below w.heap.size w w' ∧ w.heap.size ≤ b := by
 have hmm := @run_makeMap Tryz.prog
 go_enter Tryz.func152, Tryz.ntmps152
 go_wp2_with (first | (go_at_call 179; refine (voc _).mono ?_; rintro e w' ⟨rfl, rfl⟩))
 go_loopw [8] (fun i wr => ∃ k : Nat, k ≤ 28 ∧ i = .int .i64 k ∧ MapI Tryz.prog 9 3 wr w.heap.size (2 * k) (valK k) ∧ Below w.heap.size w wr ∧ ∀ i, i < 28 → wr.cell? ⟨w.heap.size + 1, i, none⟩ = some (.string (wb i))) (fun i _ => 28 - (intOf i).toNat)
 case atStart =>
  refine ⟨0, by omega, rfl, (MapI.made rfl).keep ?_, ((Below.refl _ _).alloc (Nat.le_refl _) _).alloc (by simp) _, fun i hi => ?_⟩
  ·exact Below.heap_alloc _ _ _ (by simp)
  ·have := cellVoc (w.alloc (.map #[] 0)) i (by omega)
   rwa [World.size_alloc] at this
 case round =>
  obtain ⟨k, hk, rfl, hmap, hbel, hcell⟩ := hrel
  have HC := Lib.hid hcell
  clear hcell
  have hz := hmap.lt
  by_cases hlt : k < 28
  ·have hc := HC.out k hlt
   by_cases h20 : 20 < k
   ·go_wp2_with (first | (at_mapUpdate; have tok1 := hmap; refine mapI_store rfl _ _ _ _ rfl Tryz.underlying9 Tryz.underlying205 Tryz.underlying3 rfl hmap rfl (wb_size _) rfl (WalkArith.wf_i64 (by omega)) (by unfold maxLen; omega) ?_; intro w1 hm1 hg1; have hz1 := hg1.size; clear hmap) | (at_mapUpdate; refine mapI_store rfl _ _ _ _ rfl Tryz.underlying9 Tryz.underlying205 Tryz.underlying3 rfl hm1 rfl (wb_size _) rfl (WalkArith.wf_i64 (by omega)) (by unfold maxLen; omega) ?_; intro w2 hm2 hg2; clear hm1))
    refine ⟨⟨k + 1, by omega, by go_num, ?_, (hbel.grown hg1 hbel.size (fun _ e => by injection e with e; omega)).grown hg2 (Nat.le_trans hbel.size hz1) (fun _ e => by injection e with e; omega), fun i hi => ?_⟩, by simp [intOf]; omega⟩
    ·refine MapI.ext (g := valK (k + 1)) hm2 fun s => ?_
     rw [valK]
     unfold valI
     rw [if_pos h20]
     by_cases hs : s = wb k
     ·simp [hs]
     ·simp [hs]
    ·exact hg2.cell (hg1.cell (HC.out i hi) (by simp)) (by simp)
   ·go_wp2_with (first | (at_mapUpdate; refine mapI_store rfl _ _ _ _ rfl Tryz.underlying9 Tryz.underlying205 Tryz.underlying3 rfl hmap rfl (wb_size _) rfl (WalkArith.wf_i64 (by omega)) (by unfold maxLen; omega) ?_; intro w1 hm1 hg1; clear hmap))
    refine ⟨⟨k + 1, by omega, by go_num, ?_, hbel.grown hg1 hbel.size (fun _ e => by injection e with e; omega), fun i hi => ?_⟩, by simp [intOf]; omega⟩
    ·obtain ⟨D, a, b⟩ := hm1
     refine MapI.ext (g := valK (k + 1)) ⟨D, a.mono (by omega), b⟩ fun s => ?_
     rw [valK]
     unfold valI
     rw [if_neg h20]
    ·exact hg1.cell (HC.out i hi) (by simp)
  ·obtain rfl : k = 28 := by omega
   go_wp2
   go_ret
   exact ⟨_, rfl, hmap, hbel, Nat.le_refl _⟩
end Go.Proofs.YtholajadbbdcmaaGreatDoor
