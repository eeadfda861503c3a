/- Joined texts: Row, Un3, Un4, Sg1, Rn1, Rn2. -/
import Derived.SliceStrings
import Derived.ChangeSlices
import Derived.ProofKit
import Derived.OpenShut
import Derived.ShutString
import Derived.ChangeOld
import Derived.Laws.IdiomStrings
import Derived.Test.YtejjfiipghcifaaGreatDoorQAA
import Derived.Test.YtejjfiipghcifaaGreatDoorQAB
import Derived.Test.YtejjfiipghcifaaGreatDoorQAC
import Derived.Test.YtejjfiipghcifaaGreatDoorQAD
import Derived.Test.YtejjfiipghcifaaGreatDoorQAE
import Derived.Test.YtejjfiipghcifaaGreatDoorQAF
import Derived.Test.YtejjfiipghcifaaGreatDoorQAG
import Derived.Test.YtejjfiipghcifaaGreatDoorQAI
import Derived.Test.YtejjfiipghcifaaGreatDoorQAL
import Derived.Test.YtejjfiipghcifaaGreatDoorQAM
set_option linter.unusedVariables false
set_option linter.unusedSimpArgs false
set_option linter.unnecessarySimpa false
namespace Go.Proofs.YtejjfiipghcifaaGreatDoor
open Go.ChangeShapes Go.WideShapes Go.ChangeAt Go.RowKit
theorem own : ownKnob Tryz.prog.godebug = none := by kernel_rfl
theorem cell_lt {w : World} {a : Addr} {v : Value} (h : w.cell? a = some v) : a.block < w.heap.size := by
 rcases Nat.lt_or_ge a.block w.heap.size with hl | hl
 ·exact hl
 ·unfold World.cell? at h
  rw [Array.getElem?_eq_none hl] at h
  cases h
end Go.Proofs.YtejjfiipghcifaaGreatDoor
namespace Go.Proofs.YtejjfiipghcifaaGreatDoor
open Go.RowKit
theorem runesFrom_eq (s : ByteArray) : ∀ (f i : Nat) (acc : Array Value), Conv.runesFrom s f i acc = acc ++ (chV (runesN s f i)).toArray
 | 0, i, acc => by
  simp [runesN, chV]
  unfold Conv.runesFrom
  rfl
 | f + 1, i, acc => by
  rw [Conv.runesFrom.eq_2, runesN]
  by_cases h : i < s.size
  ·rw [if_pos h, if_pos h]
   show Conv.runesFrom s f (i + (Utf8.decode s i).2) (acc.push (Value.int IntKind.i32 (Int.ofNat (Utf8.decode s i).1))) = _
   rw [runesFrom_eq s f]
   apply Array.ext'
   simp [chV]
  ·rw [if_neg h, if_neg h]
   simp [chV]
theorem charsL_len (s : ByteArray) : (charsL (bytN s)).length ≤ 2 * s.size := by
 have h : ∀ (l : List Nat) (x : US × List Nat), (uRun l x).2.length ≤ x.2.length + 2 * l.length := by
  intro l
  induction l with
  | nil => intro x; simp [uRun]
  | cons b t ih =>
   intro x
   have := ih (uNext x.1 b, x.2 ++ uOut x.1 b)
   have h2 : (uOut x.1 b).length ≤ 2 := by
    unfold uOut
    split
    ·split <;> simp
    ·rw [List.length_append]
     split <;> split <;> (try split) <;> simp
   show (uRun t (uNext x.1 b, x.2 ++ uOut x.1 b)).2.length ≤ _
   rw [List.length_append] at this
   rw [List.length_cons]
   omega
 have := h (bytN s) (u0, [])
 rw [bytN_len] at this
 simpa [charsL] using this
theorem conv_runes (s : ByteArray) (hv : validB s = true) (hs : s.size ≤ 1000000000) (w : World) :
  ∃ c w', (convert 9 104 (.string s)).run Tryz.prog w = .ok (.slice (some ⟨w.heap.size, 0, none⟩) (charsL (bytN s)).length c) w' ∧ Rd w' w'.heap.size 1 (some ⟨w.heap.size, 0, none⟩) (charsL (bytN s)).length (chV (charsL (bytN s))) ∧ Below w.heap.size w w' ∧ (charsL (bytN s)).length ≤ c := by
 have hz := chars_runes s ((validB_iff s).1 hv)
 have he : Conv.runesFrom s s.size 0 #[] = (chV (charsL (bytN s))).toArray := by rw [runesFrom_eq, hz]; simp
 have hl := charsL_len s
 have hn : (Conv.runesFrom s s.size 0 #[]).size = (charsL (bytN s)).length := by rw [he]; simp [chV]
 have h := run_runes_of_string (P := Tryz.prog) w _ _ _ s Tryz.underlying9 Tryz.underlying104 Tryz.underlying21 (by rw [hn]; omega)
 rw [hn, he] at h
 generalize (charsL (bytN s)) = L at *
 refine ⟨_, _, h, ?_, below_of_drew ((Below.refl w.heap.size w.drew).alloc (Nat.le_refl _) _), ?_⟩
 ·refine Rd.some_ (by rw [chV_len, Nat.mul_one]) (by simp) fun j u hu => ?_
  have h1 := cell_built w.drew ((chV L).toArray ++ Array.replicate (grownCap w L.length 0 21 - L.length) (Value.int IntKind.i32 0)) 21 (0 + j)
  refine Eq.trans ?_ (h1.trans ?_)
  ·rfl
  ·have hj : j < (chV L).length := (List.getElem?_eq_some_iff.1 hu).1
   rw [Nat.zero_add, Array.getElem?_append_left (by simpa using hj)]
   simpa using hu
 ·exact grownCap_ge w L.length 0 _
def U8 (w : World) : Prop := Lib.Utf8Tabs (Tryz.laysValid_ren.g 3) (Tryz.laysValid_ren.g 4) w
theorem U8.below {w w' : World} (h : U8 w) (hb : Below w.heap.size w w') : U8 w' := by
 refine ⟨fun c hc => ?_, fun i hi => ?_⟩
 ·have := h.1 c hc
  exact (hb.cell (cell_lt this)).trans this
 ·have h1 := (h.2 i hi).1
  have h2 := (h.2 i hi).2
  exact ⟨(hb.cell (cell_lt h1)).trans h1, (hb.cell (cell_lt h2)).trans h2⟩
set_option maxHeartbeats 1000000 in
theorem valid_ (s : ByteArray) (hs : s.size ≤ 1000000000) (w : World) (hu : U8 w) : Calls Tryz.prog 77 #[.string s] w (Gives (.bool (validB s)) w) := by
 have HC : Hid (Calls Tryz.prog 101 #[.string s] w (Gives (.bool (validB s)) w)) := Lib.hid (by
  have h := Any.utf8_ValidString Tryz.laysValid s w (by omega) hu
  rw [validD_eq] at h
  exact h)
 generalize validB s = R at *
 clear hu
 go_enter Tryz.func77, Tryz.ntmps77
 go_wp2_with (go_at_call 101; refine HC.out.mono ?_; rintro e w1 ⟨rfl, hbel1⟩)
 go_ret
 exact ⟨rfl, hbel1⟩
set_option maxHeartbeats 1000000 in
theorem finish_nil (w : World) : Calls Tryz.prog 106 #[.string ⟨#[]⟩] w fun e w' => ∃ A c, e = .returned (.slice A 0 c) ∧ w'.ownsRow w.heap.size 21 1 (.slice A 0 c) 0 [] ∧ Below w.heap.size w w' := by
 have HD := Lib.hid (decode_ ⟨#[]⟩ (by decide) w rfl)
 go_enter Tryz.func106, Tryz.ntmps106
 go_wp2_with (go_at_call 105; refine HD.out.mono ?_; rintro e w1 ⟨A1, c1, rfl, hown1, hbel1⟩)
 go_ret
 exact ⟨A1, c1, rfl, hown1, hbel1⟩
set_option maxHeartbeats 1000000 in
theorem characters_ (t : ByteArray) (ht : t.size ≤ 1000000000) (w : World) (hv : validB t = true) :
  Calls Tryz.prog 82 #[.string t] w (GivesOwn 21 1 id w (charsL (bytN t)).length (chV (charsL (bytN t)))) := by
 have HD := Lib.hid (decode_ t ht w (validB_pend hv))
 have hl := charsL_len t
 generalize charsL (bytN t) = L at *
 go_enter Tryz.func82, Tryz.ntmps82
 go_wp2_with (first
  | (go_at_call 105; refine HD.out.mono ?_; rintro e w1 ⟨A1, c1, rfl, hown1, hbel1⟩)
  | (go_at_call 106; refine (finish_nil _).mono ?_; rintro e w2 ⟨A2, c2, rfl, hown2, hbel2⟩; have z1 := hbel1.size; have z2 := hbel2.size)
  | (at_builtin; go_must (refine app_list rfl _ _ _ rfl elt_i32 (w.heap.size) _ rfl ((own_below hown1 hbel2)) _ _ rfl ((Rd.of_own hown2)) (by first | rfl | exact chV_one _) (by omega) (by omega) (by first | (simp; done) | (simp; omega) | omega) ?_); intro A3 c3 w3 hown3 hbel3 hgr3 hat3; have z3 := hbel3.size; (try simp only [World.size_alloc] at z3); (try simp only [Nat.zero_add, List.nil_append] at hown3)))
 go_ret
 exact ⟨A3, c3, rfl, by simpa using hown3, (hbel1.trans (hbel2.mono z1)).trans hbel3⟩
def byV (l : List Nat) : List Value := l.map fun (b : Nat) => Value.int .u8 (b : Int)
theorem encN_lt {r : Nat} (h : isChN r) : ∀ b ∈ encN r, b < 256 := by
 unfold isChN at h
 unfold encN
 intro b hb
 split at hb
 ·simp only [List.mem_cons, List.not_mem_nil, or_false] at hb
  omega
 ·split at hb
  ·simp only [List.mem_cons, List.not_mem_nil, or_false] at hb
   omega
  ·split at hb
   ·simp only [List.mem_cons, List.not_mem_nil, or_false] at hb
    omega
   ·simp only [List.mem_cons, List.not_mem_nil, or_false] at hb
    omega
theorem runeCells_eq {r : Nat} (h : isChN r) : Lib.runeCells (r : Int) = byV (encN r) := by
 unfold Lib.runeCells byV
 rw [encodeZ h, List.map_map]
 rfl
theorem own_slice {w : World} {base size n : Nat} {e : TypeId} {v : Value} {xs : List Value} (h : w.ownsRow base e size v n xs) : ∃ A c, v = .slice A n c := by
 rcases h.2 with ⟨rfl, rfl⟩ | ⟨g, cap, cur, rfl, _⟩
 ·exact ⟨none, 0, rfl⟩
 ·exact ⟨_, _, rfl⟩
theorem conv_str {w : World} {B n c : Nat} {A : Option Addr} {l : List Nat} (rd : Rd w B 1 A n (byV l)) (hn : l.length = n) (h0 : 0 < n) (hl : ∀ b ∈ l, b < 256) :
  (convert 126 9 (.slice A n c)).run Tryz.prog w = .ok (.string ⟨(l.map fun b => UInt8.ofNat b).toArray⟩) w := by
 obtain ⟨b, o, rfl, _, hc⟩ := rd.2 h0
 have h := run_convert_bytes_back (P := Tryz.prog) w _ _ _ ⟨b, o, none⟩ c (l.map fun b => UInt8.ofNat b) Tryz.underlying126 Tryz.underlying5 Tryz.underlying9 (fun j hj => by
  have hjl : j < l.length := by simpa using hj
  rw [add_none, hc j (.int .u8 (l[j] : Int)) (by simp [byV, hjl])]
  have := hl _ (List.getElem_mem hjl)
  simp only [List.getElem_map, UInt8.toNat_ofNat']
  congr 2
  omega)
 rw [List.length_map, hn] at h
 exact h
set_option maxHeartbeats 2000000 in
theorem encode_ (r : Nat) (hr : isChN r) (A : Option Addr) (c B : Nat) (w : World) (rd : Rd w B 1 A 1 (chV [r])) (hB : B ≤ w.heap.size) : Calls Tryz.prog 194 #[.slice A 1 c] w (Gives (.string (encB r)) w) := by
 obtain ⟨b, o, rfl, hbB, hc⟩ := rd.2 (by omega)
 have hcell : w.cell? ⟨b, o, none⟩ = some (.int .i32 (r : Int)) := hc 0 _ rfl
 have hr2 : (r : Int) ≤ 2147483647 := by unfold isChN at hr; omega
 have HC := Lib.hid (runeCells_eq hr)
 have HL : Hid (∀ b ∈ encN r, b < 256) := Lib.hid (encN_lt hr)
 have HP := Lib.hid (encN_pos r)
 have hl4 := (encN_pos r).2
 unfold encB
 generalize encN r = E at *
 clear hc rd
 go_enter Tryz.func194, Tryz.ntmps194
 go_wp2
 go_loopw [3, 8] (fun v x wr => ∃ k : Nat, k ≤ 1 ∧ x = .int .i64 k ∧ Below w.heap.size w wr ∧ ((k = 0 ∧ v = .slice none 0 0) ∨ (k = 1 ∧ ∃ A' c', v = .slice A' E.length c' ∧ wr.ownsRow w.heap.size 5 1 (.slice A' E.length c') E.length (byV E)))) (fun _ x _ => 1 - (intOf x).toNat)
 case atStart => exact ⟨0, by omega, rfl, Below.refl _ _, .inl ⟨rfl, rfl⟩⟩
 case round =>
  obtain ⟨k, hk, rfl, hbel, hcase⟩ := hrel
  rcases hcase with ⟨rfl, rfl⟩ | ⟨rfl, A', c', rfl, hown⟩
  ·have hcell2 := (hbel.cell (by omega : b < w.heap.size)).trans hcell
   go_wp2_with (go_at_call 198; refine (Tryz.utf8_AppendRune_plain w.heap.size _ 0 [] (r : Int) (by omega) hr2 _ (own_nil _ _ _ _) (by omega) hbel.size).mono ?_; rintro e w1 ⟨v1, rfl, hown1, o1, hg1⟩)
   rw [HC.out] at hown1
   have hlen : (byV E).length = E.length := by simp [byV]
   rw [hlen, Nat.zero_add, List.nil_append] at hown1
   obtain ⟨A', c', rfl⟩ := own_slice hown1
   refine ⟨⟨1, by omega, by go_num, ?_, .inr ⟨rfl, A', c', rfl, hown1⟩⟩, by simp [intOf]⟩
   exact (hbel.alloc hbel.size o1).grown hg1 (by have := hbel.size; simp; omega) (fun k hk => by cases hk)
  ·have HV := Lib.hid (conv_str (c := c') (Rd.of_own hown) rfl HP.out.1 HL.out)
   have HV2 := HV.out
   go_wp2
   go_ret
   exact ⟨rfl, hbel⟩
end Go.Proofs.YtejjfiipghcifaaGreatDoor
namespace Go.Proofs.YtejjfiipghcifaaGreatDoor
open Go.RowKit
set_option maxRecDepth 20000
theorem byte_beq (s : ByteArray) (c : UInt8) : (s.toList == [c]) = decide (s.data.toList = [c]) := by
 rw [ByteArray.toList_eq]
 rw [Bool.eq_iff_iff]
 simp
def spellN (l : List Nat) : List ByteArray := l.flatMap fun (r : Nat) => spellL (r : Int)
theorem spellN_snoc (l : List Nat) (r : Nat) : spellN (l ++ [r]) = spellN l ++ spellL (r : Int) := by
 unfold spellN
 rw [List.flatMap_append]
 simp only [List.flatMap_cons, List.flatMap_nil, List.append_nil]
theorem spellN_len (l : List Nat) : (spellN l).length ≤ 16 * l.length := by
 induction l with
 | nil => simp [spellN]
 | cons a t ih =>
  have h1 := spellL_le (a : Int)
  have e : spellN (a :: t) = spellL (a : Int) ++ spellN t := by simp [spellN]
  rw [e, List.length_append, List.length_cons]
  omega
theorem spellN_take {l : List Nat} {j : Nat} (h : j < l.length) : spellN (l.take (j + 1)) = spellN (l.take j) ++ spellL (l[j] : Int) := by
 have e : l.take (j + 1) = l.take j ++ [l[j]] := (List.take_append_getElem h).symm
 rw [e, spellN_snoc]
theorem singleL_sp {g : Gl} (h : g.text.data.toList = [32]) : singleL g = [bSpace] := if_pos h
theorem singleL_oth {g : Gl} (h : g.text.data.toList ≠ [32]) : singleL g = spellN (charsL (bytN g.text)) := if_neg h
set_option maxHeartbeats 4000000 in
theorem single_ (g : Gl) (hz : g.text.size ≤ 1000000) (hv : validB g.text = true) (w : World) (hs : Sp w) :
  Calls Tryz.prog 109 #[glV g] w (GivesOwn 9 1 id w (singleL g).length (sv (singleL g))) := by
 have hq := byte_beq g.text 32
 have HS := Lib.hid hs
 by_cases h1 : g.text.data.toList = [32]
 ·rw [singleL_sp h1]
  rw [decide_eq_true h1] at hq
  obtain ⟨t, wd, st⟩ := g
  dsimp only at *
  clear h1 hs
  go_enter Tryz.func109, Tryz.ntmps109
  go_upto_region 1 with fail
  refine wp_fg (GlBox w t wd st) (GlBox.new w t wd st _) ?_
  rintro wb ⟨c0, _, _, hb0, hz0⟩
  go_wp2
  go_ret
  exact ⟨_, _, rfl, own_built (xs := sv [bSpace]) rfl rfl (by omega) (by simp [sv]), hb0.alloc (by omega) _⟩
 ·rw [singleL_oth h1]
  rw [decide_eq_false h1] at hq
  have HCh := Lib.hid (fun w => characters_ g.text (by omega) w hv)
  have hl := charsL_len g.text
  have HI : Hid (∀ (j : Nat) (h : j < (charsL (bytN g.text)).length), (charsL (bytN g.text))[j] ≤ 1114111) := Lib.hid fun j h => by
   have := charsL_ch (bytN g.text) _ (List.getElem_mem h)
   unfold isChN at this
   omega
  generalize charsL (bytN g.text) = L at *
  have HT : Hid (∀ (j : Nat) (h : j < L.length), spellN (L.take (j + 1)) = spellN (L.take j) ++ spellL (L[j] : Int)) := Lib.hid fun j h => spellN_take h
  have HLn : Hid (∀ j, (spellN (L.take j)).length ≤ 16 * j) := Lib.hid fun j => by
   have := spellN_len (L.take j)
   rw [List.length_take] at this
   omega
  have HTA : Hid (L.take L.length = L) := Lib.hid List.take_length
  have HSp : Hid (∀ (r : Nat), r ≤ 1114111 → ∀ w, Sp w → _) := Lib.hid fun r hr w hs => spell (r : Int) (by omega) (by omega) w hs
  have HSl : Hid (∀ r : Nat, (spellL (r : Int)).length ≤ 16) := Lib.hid fun r => spellL_le _
  obtain ⟨t, wd, st⟩ := g
  dsimp only at *
  clear h1 hs hv
  go_enter Tryz.func109, Tryz.ntmps109
  go_upto_region 1 with fail
  refine wp_fg (GlBox w t wd st) (GlBox.new w t wd st _) ?_
  rintro wb ⟨c0, _, _, hb0, hz0⟩
  go_wp2_with (go_at_call 82; refine (HCh.out _).mono ?_; rintro e w1 ⟨A1, c1, rfl, hown1, hbel1⟩)
  have z1 := hbel1.size
  go_loopw [3, 14] (fun v x wr => ∃ (A : Option Addr) (c j : Nat), j ≤ L.length ∧ x = .int .i64 j ∧ v = .slice A (spellN (L.take j)).length c ∧ wr.ownsRow w1.heap.size 9 1 (.slice A (spellN (L.take j)).length c) (spellN (L.take j)).length (sv (spellN (L.take j))) ∧ Below w1.heap.size w1 wr) (fun _ x _ => L.length - (intOf x).toNat)
  case atStart => exact ⟨none, 0, 0, Nat.zero_le _, rfl, rfl, own_nil _ _ _ _, Below.refl _ _⟩
  case round =>
   obtain ⟨A, c, j, hj, rfl, rfl, hown, hbel⟩ := hrel
   have hln := HLn.out j
   have zb := hbel.size
   by_cases hlt : j < L.length
   ·obtain ⟨b, o, rfl, hbB, hc⟩ := ((Rd.of_own hown1).below hbel).at_ hlt
    rw [chV_get _ _ hlt] at hc
    have HTj := Lib.hid (HT.out j hlt)
    have hri := HI.out j hlt
    generalize L[j] = r at *
    have hsx : Sp wr := HS.out.below (B := w.heap.size) ((hb0.trans (hbel1.mono (by omega))).trans (hbel.mono (by omega))) (Nat.le_refl _)
    have HSr := Lib.hid (HSp.out r hri wr hsx)
    have hsl := HSl.out r
    generalize spellL (r : Int) = SL at *
    generalize spellN (L.take j) = F at *
    go_wp2_with (first
     | (go_at_call 136; refine HSr.out.mono ?_; rintro e w3 ⟨A3, c3, rfl, hown3, hbel3⟩; have z3 := hbel3.size)
     | (at_builtin; go_must (refine app_list rfl _ _ _ rfl elt_str (w1.heap.size) _ rfl ((own_below hown hbel3)) _ _ rfl ((Rd.of_own hown3)) (by first | rfl | exact sv_one _ | exact wv_one _) (by omega) (by omega) (by first | (simp; done) | (simp; omega) | omega) ?_); intro A4 c4 w4 hown4 hbel4 hgr4 hat4; have z4 := hbel4.size; (try simp only [World.size_alloc] at z4); (try simp only [Nat.zero_add, List.nil_append] at hown4)))
    exact ⟨⟨A4, c4, j + 1, by omega, by go_num, by rw [HTj.out, List.length_append], by rw [HTj.out, List.length_append]; simpa [sv] using hown4, (hbel.trans (hbel3.mono zb)).trans (hbel4.mono (by omega))⟩, by simp [intOf]; omega⟩
   ·obtain rfl : j = L.length := by omega
    rw [HTA.out] at hown ⊢
    go_wp2
    go_ret
    exact ⟨A, c, rfl, own_less hown (by omega), (hb0.trans (hbel1.mono (by omega))).trans (hbel.mono (by omega))⟩
def Same (v : Value) (w : World) (en : Ending) (w' : World) : Prop := en = .returned v ∧ w = w'
def limV (x : Nat × Nat × Nat) : Value := .tuple #[.int .u8 x.1, .int .u8 x.2.1, .int .i64 x.2.2]
theorem byV_app (a b : List Nat) : byV (a ++ b) = byV a ++ byV b := by simp [byV]
theorem byV_one (l : List Nat) : (byV l).all Value.oneCell' = true := by
 rw [List.all_eq_true]
 intro u hu
 simp [byV] at hu
 obtain ⟨i, _, rfl⟩ := hu
 rfl
theorem lim_eq (x : Nat × Nat × Nat) (a b c : Int) (h1 : a = x.1) (h2 : b = x.2.1) (h3 : c = x.2.2) : Value.tuple #[.int .u8 a, .int .u8 b, .int .i64 c] = limV x := by subst h1 h2 h3; rfl
set_option maxHeartbeats 4000000 in
theorem limits_cons (b : Nat) (rest : List Nat) (hb : b < 256) (A : Option Addr) (n c B : Nat) (w : World) (hn : rest.length + 1 = n) (hn2 : n ≤ 1000000000) (rd : Rd w B 1 A n (byV (b :: rest))) :
  Calls Tryz.prog 138 #[.slice A n c] w (Same (limV (limU (b :: rest))) w) := by
 obtain ⟨g, o, rfl, _, hcc⟩ := rd.2 (by omega)
 have hcell : w.cell? ⟨g, o, none⟩ = some (.int .u8 (b : Int)) := hcc 0 _ rfl
 have HE := Lib.hid (lim_eq (limU (b :: rest)))
 have HM : Hid ((limU (b :: rest)).2.2 = if 0xC2 ≤ b ∧ b ≤ 0xDF then 2 else if 0xE0 ≤ b ∧ b ≤ 0xEF then 3 else if 0xF0 ≤ b ∧ b ≤ 0xF4 then 4 else 0) := Lib.hid (by
  show (if (if 0xC2 ≤ b ∧ b ≤ 0xDF then 1 else if 0xE0 ≤ b ∧ b ≤ 0xEF then 2 else if 0xF0 ≤ b ∧ b ≤ 0xF4 then 3 else 0) = 0 then 0 else (if 0xC2 ≤ b ∧ b ≤ 0xDF then 1 else if 0xE0 ≤ b ∧ b ≤ 0xEF then 2 else if 0xF0 ≤ b ∧ b ≤ 0xF4 then 3 else 0) + 1) = _
  by_cases h1 : 0xC2 ≤ b ∧ b ≤ 0xDF
  ·simp [h1]
  ·by_cases h2 : 0xE0 ≤ b ∧ b ≤ 0xEF
   ·simp [h1, h2]
   ·by_cases h3 : 0xF0 ≤ b ∧ b ≤ 0xF4
    ·simp [h1, h2, h3]
    ·simp [h1, h2, h3])
 have hr : rest = [] ↔ n = 1 := by
  constructor
  ·rintro rfl; simpa using hn.symm
  ·intro h; exact List.eq_nil_of_length_eq_zero (by omega)
 have HL : Hid ((limU (b :: rest)).1 = if n = 1 then (if b = 0xE0 then 0xA0 else if b = 0xF0 then 0x90 else 0x80) else 128) := Lib.hid (by
  show (if rest = [] then (begU b).lo else 128) = _
  simp only [hr]
  rfl)
 have HH : Hid ((limU (b :: rest)).2.1 = if n = 1 then (if b = 0xED then 0x9F else if b = 0xF4 then 0x8F else 0xBF) else 191) := Lib.hid (by
  show (if rest = [] then (begU b).hi else 191) = _
  simp only [hr]
  rfl)
 have h0 : 0 < n := by omega
 clear hcc hn hr rd
 generalize limU (b :: rest) = S at *
 by_cases h1 : n = 1
 ·subst h1
  rw [if_pos rfl] at HL HH
  go_enter Tryz.func138, Tryz.ntmps138
  go_wp2
  all_goals
   simp only [beq_iff_eq, beq_eq_false_iff_ne, ne_eq] at *
   go_ret3
   refine ⟨congrArg Ending.returned (HE.out _ _ _ ?_ ?_ ?_), rfl⟩
   ·rw [HL.out]; (repeat' split) <;> omega
   ·rw [HH.out]; (repeat' split) <;> omega
   ·rw [HM.out]; (repeat' split) <;> omega
 ·rw [if_neg h1] at HL HH
  have h2 : ((n : Int) == 1) = false := beq_eq_false_iff_ne.2 (by omega)
  go_enter Tryz.func138, Tryz.ntmps138
  go_wp2
  all_goals
   go_ret3
   refine ⟨congrArg Ending.returned (HE.out _ _ _ ?_ ?_ ?_), rfl⟩
   ·rw [HL.out]; (repeat' split) <;> omega
   ·rw [HH.out]; (repeat' split) <;> omega
   ·rw [HM.out]; (repeat' split) <;> omega
theorem begU_m (b : Nat) : ((begU b).m = 1 → (begU b).v + 192 = b) ∧ ((begU b).m = 2 → (begU b).v + 224 = b) ∧ ((begU b).m = 3 → (begU b).v + 240 = b) ∧ (begU b).v < 32 ∧ (begU b).m ≤ 3 := by
 unfold begU
 dsimp only
 refine ⟨?_, ?_, ?_, ?_, ?_⟩
 ·intro h
  split at h
  ·rw [if_pos (by assumption)]; omega
  ·split at h
   ·omega
   ·split at h <;> omega
 ·intro h
  split at h
  ·omega
  ·split at h
   ·rw [if_neg (by assumption), if_pos (by assumption)]; omega
   ·split at h <;> omega
 ·intro h
  split at h
  ·omega
  ·split at h
   ·omega
   ·split at h
    ·rw [if_neg (by assumption), if_neg (by assumption), if_pos (by assumption)]; omega
    ·omega
 ·split
  ·omega
  ·split
   ·omega
   ·split <;> omega
 ·split
  ·omega
  ·split
   ·omega
   ·split <;> omega
def valK_ (b0 : Nat) (rest : List Nat) (j : Nat) : Nat := (rest.take j).foldl (fun n b => n * 64 + b - 128) (begU b0).v
theorem valK_zero (b0 : Nat) (rest : List Nat) : valK_ b0 rest 0 = (begU b0).v := rfl
theorem valK_succ {b0 : Nat} {rest : List Nat} {j : Nat} (h : j < rest.length) : valK_ b0 rest (j + 1) = valK_ b0 rest j * 64 + rest[j] - 128 := by
 unfold valK_
 rw [List.take_add_one, List.getElem?_eq_getElem h, List.foldl_append]
 rfl
theorem valK_all (b0 : Nat) (rest : List Nat) : valK_ b0 rest rest.length = valU (b0 :: rest) := by
 unfold valK_ valU
 rw [List.take_length]
set_option maxHeartbeats 4000000 in
theorem value_ (b0 : Nat) (rest : List Nat) (hb : b0 < 256) (hm : (begU b0).m = rest.length) (h0 : 0 < rest.length) (hx : ∀ x ∈ rest, 128 ≤ x ∧ x ≤ 191) (A : Option Addr) (n c B : Nat) (w : World) (hn : rest.length + 1 = n) (rd : Rd w B 1 A n (byV (b0 :: rest))) :
  Calls Tryz.prog 139 #[.slice A n c] w (Same (.int .i32 (valU (b0 :: rest) : Int)) w) := by
 obtain ⟨m1, m2, m3, mv, m4⟩ := begU_m b0
 obtain ⟨g, o, rfl, _, hcc⟩ := rd.2 (by omega)
 have hcell : w.cell? ⟨g, o, none⟩ = some (.int .u8 (b0 : Int)) := hcc 0 _ rfl
 have HC : Hid (∀ j (h : j < rest.length), w.cell? ⟨g, o + (j + 1), none⟩ = some (.int .u8 (rest[j] : Int))) := Lib.hid fun j h => hcc (j + 1) _ (by simp [byV, h])
 have HS : Hid (∀ j (h : j < rest.length), valK_ b0 rest (j + 1) = valK_ b0 rest j * 64 + rest[j] - 128) := Lib.hid fun j h => valK_succ h
 have HX : Hid (∀ j (h : j < rest.length), 128 ≤ rest[j] ∧ rest[j] ≤ 191) := Lib.hid fun j h => hx _ (List.getElem_mem h)
 have HZ := Lib.hid (valK_zero b0 rest)
 rw [← valK_all]
 rw [hm] at m1 m2 m3 m4
 generalize (begU b0).v = bv at *
 obtain rfl : n = rest.length + 1 := hn.symm
 clear hcc rd hx hm
 by_cases hl : rest.length = 1
 ·have hv := (m1 (by omega))
  have hb2 : (b0 : Int) = bv + 192 := by omega
  have hl2 : (rest.length : Int) = 1 := by omega
  clear m1 m2 m3
  go_enter Tryz.func139, Tryz.ntmps139
  go_wp2
  go_loopw [3, 4] (fun v x wr => ∃ j : Nat, j ≤ rest.length ∧ x = .int .i64 ((j : Int) + 1) ∧ v = .int .i32 (valK_ b0 rest j : Int) ∧ wr = w ∧ ((j = 0 ∧ valK_ b0 rest j < 32) ∨ (j = 1 ∧ valK_ b0 rest j < 2048) ∨ (j = 2 ∧ valK_ b0 rest j < 131072) ∨ (j = 3 ∧ valK_ b0 rest j < 8388608))) (fun _ x _ => rest.length + 1 - (intOf x).toNat)
  case atStart => exact ⟨0, Nat.zero_le _, rfl, by rw [HZ.out], rfl, .inl ⟨rfl, by rw [HZ.out]; exact mv⟩⟩
  case round =>
   obtain ⟨j, hj, rfl, rfl, rfl, hbd⟩ := hrel
   by_cases hlt : j < rest.length
   ·have hc := HC.out j hlt
    have hs := HS.out j hlt
    have hxx := HX.out j hlt
    generalize rest[j] = y at *
    generalize hv1 : valK_ b0 rest (j + 1) = v1 at *
    generalize valK_ b0 rest j = v0 at *
    have hv2 : (v1 : Int) = (v0 : Int) * 64 + y - 128 := by omega
    go_wp2
    refine ⟨⟨j + 1, by omega, by go_num, ?_, (by first | trivial | rfl), by omega⟩, by simp [intOf]; omega⟩
    rw [hv1, hv2]
   ·obtain rfl : j = rest.length := by omega
    go_wp2
    go_ret
    exact ⟨rfl, rfl⟩
 skip
 by_cases hl : rest.length = 2
 ·have hv := (m2 (by omega))
  have hb2 : (b0 : Int) = bv + 224 := by omega
  have hl2 : (rest.length : Int) = 2 := by omega
  clear m1 m2 m3
  go_enter Tryz.func139, Tryz.ntmps139
  go_wp2
  go_loopw [3, 4] (fun v x wr => ∃ j : Nat, j ≤ rest.length ∧ x = .int .i64 ((j : Int) + 1) ∧ v = .int .i32 (valK_ b0 rest j : Int) ∧ wr = w ∧ ((j = 0 ∧ valK_ b0 rest j < 32) ∨ (j = 1 ∧ valK_ b0 rest j < 2048) ∨ (j = 2 ∧ valK_ b0 rest j < 131072) ∨ (j = 3 ∧ valK_ b0 rest j < 8388608))) (fun _ x _ => rest.length + 1 - (intOf x).toNat)
  case atStart => exact ⟨0, Nat.zero_le _, rfl, by rw [HZ.out], rfl, .inl ⟨rfl, by rw [HZ.out]; exact mv⟩⟩
  case round =>
   obtain ⟨j, hj, rfl, rfl, rfl, hbd⟩ := hrel
   by_cases hlt : j < rest.length
   ·have hc := HC.out j hlt
    have hs := HS.out j hlt
    have hxx := HX.out j hlt
    generalize rest[j] = y at *
    generalize hv1 : valK_ b0 rest (j + 1) = v1 at *
    generalize valK_ b0 rest j = v0 at *
    have hv2 : (v1 : Int) = (v0 : Int) * 64 + y - 128 := by omega
    go_wp2
    refine ⟨⟨j + 1, by omega, by go_num, ?_, (by first | trivial | rfl), by omega⟩, by simp [intOf]; omega⟩
    rw [hv1, hv2]
   ·obtain rfl : j = rest.length := by omega
    go_wp2
    go_ret
    exact ⟨rfl, rfl⟩
 skip
 by_cases hl : rest.length = 3
 ·have hv := (m3 (by omega))
  have hb2 : (b0 : Int) = bv + 240 := by omega
  have hl2 : (rest.length : Int) = 3 := by omega
  clear m1 m2 m3
  go_enter Tryz.func139, Tryz.ntmps139
  go_wp2
  go_loopw [3, 4] (fun v x wr => ∃ j : Nat, j ≤ rest.length ∧ x = .int .i64 ((j : Int) + 1) ∧ v = .int .i32 (valK_ b0 rest j : Int) ∧ wr = w ∧ ((j = 0 ∧ valK_ b0 rest j < 32) ∨ (j = 1 ∧ valK_ b0 rest j < 2048) ∨ (j = 2 ∧ valK_ b0 rest j < 131072) ∨ (j = 3 ∧ valK_ b0 rest j < 8388608))) (fun _ x _ => rest.length + 1 - (intOf x).toNat)
  case atStart => exact ⟨0, Nat.zero_le _, rfl, by rw [HZ.out], rfl, .inl ⟨rfl, by rw [HZ.out]; exact mv⟩⟩
  case round =>
   obtain ⟨j, hj, rfl, rfl, rfl, hbd⟩ := hrel
   by_cases hlt : j < rest.length
   ·have hc := HC.out j hlt
    have hs := HS.out j hlt
    have hxx := HX.out j hlt
    generalize rest[j] = y at *
    generalize hv1 : valK_ b0 rest (j + 1) = v1 at *
    generalize valK_ b0 rest j = v0 at *
    have hv2 : (v1 : Int) = (v0 : Int) * 64 + y - 128 := by omega
    go_wp2
    refine ⟨⟨j + 1, by omega, by go_num, ?_, (by first | trivial | rfl), by omega⟩, by simp [intOf]; omega⟩
    rw [hv1, hv2]
   ·obtain rfl : j = rest.length := by omega
    go_wp2
    go_ret
    exact ⟨rfl, rfl⟩
 skip
 omega
end Go.Proofs.YtejjfiipghcifaaGreatDoor
