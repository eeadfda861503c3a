/- Joined texts: Kit, Gk, Gl2, Wo0, LvP, Up3, Ls1, Ls2, Ls3, Ls4. -/
import Derived.RangeFuncNested
import Derived.RangeFuncBound
import Derived.RangeFuncCalls
import Derived.RangeFuncLeaves
import Derived.RangeFuncBox
import Derived.Shelf.Abstract
import Derived.OwnWalkIn
import Derived.TacticsInMore
import Derived.LoopNIn
import Derived.LoopIn
import Derived.Sort.CutIn
import Derived.Shelf.RegionOpen
import Derived.Test.YtholajadbbdcmaaGreatDoorQAA
import Derived.Test.YtholajadbbdcmaaGreatDoorQAB
import Derived.Test.YtholajadbbdcmaaGreatDoorQAC
import Derived.Test.YtholajadbbdcmaaGreatDoorQAD
import Derived.Test.YtholajadbbdcmaaGreatDoorQAE
import Derived.Test.YtholajadbbdcmaaGreatDoorQAF
import Derived.Test.YtholajadbbdcmaaGreatDoorQAG
import Derived.Test.YtholajadbbdcmaaGreatDoorQAH
import Derived.Test.YtholajadbbdcmaaGreatDoorQAI
import Derived.Test.YtholajadbbdcmaaGreatDoorQAM
import Derived.Test.YtholajadbbdcmaaGreatDoorQAN
import Derived.Test.YtholajadbbdcmaaGreatDoorQAP
import Derived.Test.YtholajadbbdcmaaGreatDoorQAQ
import Derived.Test.YtholajadbbdcmaaGreatDoorQAS
import Derived.Test.YtholajadbbdcmaaGreatDoorQAT
import Derived.Test.YtholajadbbdcmaaGreatDoorQAU
import Derived.Test.YtholajadbbdcmaaGreatDoorQAY
import Derived.Test.YtholajadbbdcmaaGreatDoorQBA
import Derived.Test.YtholajadbbdcmaaGreatDoorQBB
import Derived.Test.YtholajadbbdcmaaGreatDoorQBC
import Derived.Test.YtholajadbbdcmaaGreatDoorQBD
import Derived.Test.YtholajadbbdcmaaGreatDoorQBF
import Derived.Test.YtholajadbbdcmaaGreatDoorQBG
import Derived.Test.YtholajadbbdcmaaGreatDoorQBH
import Derived.Test.YtholajadbbdcmaaGreatDoorQBM
import Derived.Test.YtholajadbbdcmaaGreatDoorQBN
import Derived.Test.YtholajadbbdcmaaGreatDoorQBQ
import Derived.Test.YtholajadbbdcmaaGreatDoorQBU
import Derived.Test.YtholajadbbdcmaaGreatDoorQBV
import Derived.Test.YtholajadbbdcmaaGreatDoorQBW
import Derived.Test.YtholajadbbdcmaaGreatDoorQBX
import Derived.Test.YtholajadbbdcmaaGreatDoorQBY
import Derived.Test.YtholajadbbdcmaaGreatDoorQCA
import Derived.Test.YtholajadbbdcmaaGreatDoorQCB
import Derived.Test.YtholajadbbdcmaaGreatDoorQCC
import Derived.Test.YtholajadbbdcmaaGreatDoorQCD
import Derived.Test.YtholajadbbdcmaaGreatDoorQCE
set_option linter.unusedVariables false
set_option linter.unusedSimpArgs false
set_option linter.unnecessarySimpa false
namespace Go.Proofs.YtholajadbbdcmaaGreatDoor
open Go.RowKit
section
variable {w w' : World} {B B' size n : Nat} {A : Option Addr} {xs : List Value}
end
section
variable {w w' : World} {g : Nat} {t : TypeId} {cs : Array Value}
end
section
variable {P : Program} {w : World}
end
theorem Quiet.gives {v : Value} {w w' : World} {en : Ending} (h : Quiet v w en w') : Gives v w en w' := ⟨h.1, by obtain ⟨n, rfl⟩ := h.2; exact below_drewN (Below.refl _ _)⟩
theorem neq_gl (a b : Gl) (w : World) : (binOp .neq 89 (glV a) (glV b)).run Tryz.prog w = .ok (.bool (!decide (a = b))) w := by
 rw [run_neq_struct, eqIn_gl]
 rfl
end Go.Proofs.YtholajadbbdcmaaGreatDoor
namespace Go.Proofs.YtholajadbbdcmaaGreatDoor
open Go.RowKit
set_option maxRecDepth 20000
set_option maxHeartbeats 2000000 in
theorem rsamerow (l m : List Gl) (A A' : Option Addr) (n n' c c' B : Nat) (w : World) (hn : n ≤ 1000000000) (rd : Rd w B 3 A n (encGs l)) (rd' : Rd w B 3 A' n' (encGs m)) :
  Calls Tryz.prog 42 #[.slice A n c, .slice A' n' c'] w (Quiet (.bool (decide (l = m))) w) := by
 have HN := Lib.hid (gl_len rd)
 have HN' := Lib.hid (gl_len rd')
 by_cases hnn : n = n'
 ·subst hnn
  go_enter Tryz.func42, Tryz.ntmps42
  go_wp2
  go_loopw [5] (fun x wr => ∃ k j : Nat, k ≤ n ∧ x = .int .i64 k ∧ wr = w.drewN j ∧ Hid (∀ i (h1 : i < l.length) (h2 : i < m.length), i < k → l[i] = m[i])) (fun x _ => n - (intOf x).toNat)
  case atStart => exact ⟨0, 0, Nat.zero_le _, rfl, rfl, Lib.hid fun i _ _ h => absurd h (Nat.not_lt_zero i)⟩
  case round =>
   obtain ⟨k, j, hk, rfl, rfl, HE⟩ := hrel
   by_cases hlt : k < n
   ·have hk1 : k < l.length := by have := HN.out; omega
    have hk2 : k < m.length := by have := HN'.out; omega
    obtain ⟨b, o, rfl, _, g0, g1, g2⟩ := rd_gl rd hk1 HN.out
    obtain ⟨b', o', rfl, _, g0', g1', g2'⟩ := rd_gl rd' hk2 HN'.out
    have hq := neq_gl l[k] m[k]
    have hg := guard_gl l[k] m[k] .neq
    by_cases he : l[k] = m[k]
    ·have HE2 : Hid (∀ i (h1 : i < l.length) (h2 : i < m.length), i < k + 1 → l[i] = m[i]) := Lib.hid fun i h1 h2 hi => by
      rcases Nat.lt_or_ge i k with h | h
      ·exact HE.out i h1 h2 h
      ·obtain rfl : i = k := by omega
       exact he
     rw [decide_eq_true he] at hq
     clear he
     generalize l[k] = r at *
     generalize m[k] = r' at *
     go_wp2
     go_quiet (fail)
     go_wp2
     exact ⟨⟨k + 1, _, by omega, by go_num, rfl, HE2⟩, by simp [intOf]; omega⟩
    ·rw [decide_eq_false he] at hq
     have HD : Hid (decide (l = m) = false) := Lib.hid (decide_eq_false fun e => he (by subst e; rfl))
     clear he
     generalize decide (l = m) = R at *
     generalize l[k] = r at *
     generalize m[k] = r' at *
     go_wp2
     go_quiet (fail)
     go_wp2
     go_ret
     exact ⟨by rw [HD.out]; rfl, _, World.drewN_drewN _ _ _⟩
   ·obtain rfl : k = n := by omega
    have HD : Hid (decide (l = m) = true) := Lib.hid (decide_eq_true (List.ext_getElem (by rw [HN.out, HN'.out]) fun i h1 h2 => HE.out i h1 h2 (by have := HN.out; omega)))
    generalize decide (l = m) = R at *
    go_wp2
    go_ret
    exact ⟨by rw [HD.out]; rfl, _, rfl⟩
 ·have HD : Hid (decide (l = m) = false) := Lib.hid (decide_eq_false fun e => hnn (by rw [← HN.out, ← HN'.out, e]))
  have hni : ((n : Int) != (n' : Int)) = true := by simp; omega
  generalize decide (l = m) = R at *
  go_enter Tryz.func42, Tryz.ntmps42
  go_wp2
  go_ret
  exact ⟨by rw [HD.out]; rfl, 0, rfl⟩
end Go.Proofs.YtholajadbbdcmaaGreatDoor
namespace Go.Proofs.YtholajadbbdcmaaGreatDoor
open Go.RowKit
theorem WoI.stop {S : Setts} {R : List ByteArray} {q : Spk} (h : WoI S R q []) : R = q.out := by
 have := h.1
 simpa [wordsFrom] using this
theorem apply_nil {v : Vw} (h : viewC v = 0) : applyV v [] = (v, 0) := by
 unfold applyV
 rw [if_neg (by simpa using h)]
 unfold goV
 rw [if_pos]
 unfold widthV
 rw [List.all_eq_true]
 intro l hl
 simpa using ((view_zero.1 h).2.2.2 l hl).2.1
end Go.Proofs.YtholajadbbdcmaaGreatDoor
namespace Go.Proofs.YtholajadbbdcmaaGreatDoor
open Go.RowKit
set_option maxRecDepth 20000
theorem UwR.err {l : List ChgM} {m r q k x : Int} {S : Setts} {w w' : World} {e : Ending} (h : wErr l m r q k = x) (hx : x ≠ 0) (he : e = .returned (.tuple #[.slice none 0 0, .int .i64 x]) ∧ Below w.heap.size w w') : UwR l m r q k S w e w' := by
 unfold UwR
 rw [if_neg (by rw [h]; exact hx), h]
 exact he
end Go.Proofs.YtholajadbbdcmaaGreatDoor
namespace Go.Proofs.YtholajadbbdcmaaGreatDoor
open Go.RowKit
structure SpkM where
 com : Bool
 ws : List ByteArray
 A : Option Addr
 cap : Nat
 cA : Option Addr
 cn : Nat
 cc : Nat
 cl : Int
 af : Int
 up : Int
 be : Int
 en : Int
instance : Inhabited SpkM := ⟨⟨false, [], none, 0, none, 0, 0, 0, 0, 0, 0, 0⟩⟩
def encK (x : SpkM) : List Value := [.slice x.A x.ws.length x.cap, .slice x.cA x.cn x.cc, .int .i64 x.cl, .int .i64 x.af, .int .i64 x.up, .int .i64 x.be, .int .i64 x.en, .bool x.com]
def uttV (x : SpkM) : Value := .agg #[.slice x.A x.ws.length x.cap, .slice x.cA x.cn x.cc, .int .i64 x.cl, .int .i64 x.af, .int .i64 x.up]
def encKs (l : List SpkM) : List Value := l.flatMap encK
theorem encK_len (x : SpkM) : (encK x).length = 8 := rfl
theorem encKs_cons (x : SpkM) (l : List SpkM) : encKs (x :: l) = encK x ++ encKs l := by simp [encKs]
theorem encKs_app (a b : List SpkM) : encKs (a ++ b) = encKs a ++ encKs b := by simp [encKs]
theorem encKs_len : ∀ l : List SpkM, (encKs l).length = l.length * 8
 | [] => rfl
 | r :: l => by
  rw [encKs_cons, List.length_append, encKs_len l, encK_len, List.length_cons]
  omega
theorem encKs_get : ∀ (l : List SpkM) (i j : Nat), j < 8 → (encKs l)[i * 8 + j]? = l[i]?.bind fun r => (encK r)[j]?
 | [], i, j, _ => by simp [encKs]
 | r :: l, 0, j, h => by
  rw [encKs_cons, Nat.zero_mul, Nat.zero_add, List.getElem?_append_left (by rw [encK_len]; exact h)]
  rfl
 | r :: l, i + 1, j, h => by
  rw [encKs_cons, List.getElem?_append_right (by rw [encK_len]; omega), encK_len, show (i + 1) * 8 + j - 8 = i * 8 + j by omega, encKs_get l i j h]
  rfl
theorem encK_cells (x : SpkM) : (encK x).all Value.oneCell' = true := by simp [encK, Value.oneCell']
def RdW (w : World) (B : Nat) (x : SpkM) : Prop := Rd w B 1 x.A x.ws.length (sv x.ws) ∧ x.ws.length ≤ x.cap ∧ x.cap ≤ maxLen ∧ ∀ s ∈ x.ws, s.size ≤ maxLen
theorem RdW.below {w w' : World} {B : Nat} {x : SpkM} (h : RdW w B x) (hb : Below B w w') : RdW w' B x := ⟨h.1.below hb, h.2⟩
theorem RdW.more {w : World} {B B' : Nat} {x : SpkM} (h : RdW w B x) (hb : B ≤ B') : RdW w B' x := ⟨h.1.more hb, h.2⟩
structure RdS (w : World) (B : Nat) (A : Option Addr) (n : Nat) (l : List SpkM) : Prop where
 rd : Rd w B 8 A n (encKs l)
 gl : ∀ x ∈ l, RdW w B x
theorem RdS.len {w : World} {B n : Nat} {A : Option Addr} {l : List SpkM} (h : RdS w B A n l) : l.length = n := by
 have := h.rd.1
 rw [encKs_len] at this
 omega
theorem RdS.below {w w' : World} {B n : Nat} {A : Option Addr} {l : List SpkM} (h : RdS w B A n l) (hb : Below B w w') : RdS w' B A n l := ⟨h.rd.below hb, fun x hx => (h.gl x hx).below hb⟩
theorem RdS.more {w : World} {B B' n : Nat} {A : Option Addr} {l : List SpkM} (h : RdS w B A n l) (hb : B ≤ B') : RdS w B' A n l := ⟨h.rd.more hb, fun x hx => (h.gl x hx).more hb⟩
theorem RdS.at_ {w : World} {B n : Nat} {A : Option Addr} {l : List SpkM} (h : RdS w B A n l) {k : Nat} (hk : k < l.length) : ∃ b o, A = some ⟨b, o, none⟩ ∧ b < B ∧
  w.cell? ⟨b, o + k * 8, none⟩ = some (.slice l[k].A l[k].ws.length l[k].cap) ∧ w.cell? ⟨b, o + k * 8 + 1, none⟩ = some (.slice l[k].cA l[k].cn l[k].cc) ∧ w.cell? ⟨b, o + k * 8 + 2, none⟩ = some (.int .i64 l[k].cl) ∧ w.cell? ⟨b, o + k * 8 + 3, none⟩ = some (.int .i64 l[k].af) ∧
  w.cell? ⟨b, o + k * 8 + 4, none⟩ = some (.int .i64 l[k].up) ∧ w.cell? ⟨b, o + k * 8 + 5, none⟩ = some (.int .i64 l[k].be) ∧ w.cell? ⟨b, o + k * 8 + 6, none⟩ = some (.int .i64 l[k].en) ∧ w.cell? ⟨b, o + k * 8 + 7, none⟩ = some (.bool l[k].com) := by
 have hn := h.len
 obtain ⟨b, o, e, hb, hc⟩ := h.rd.2 (by omega)
 have h : ∀ j, j < 8 → ∀ u, (encK l[k])[j]? = some u → w.cell? ⟨b, o + k * 8 + j, none⟩ = some u := fun j hj u hu => by
  have := hc (k * 8 + j) u (by rw [encKs_get _ _ _ hj, List.getElem?_eq_getElem hk]; exact hu)
  rwa [← Nat.add_assoc] at this
 exact ⟨b, o, e, hb, h 0 (by omega) _ rfl, h 1 (by omega) _ rfl, h 2 (by omega) _ rfl, h 3 (by omega) _ rfl, h 4 (by omega) _ rfl, h 5 (by omega) _ rfl, h 6 (by omega) _ rfl, h 7 (by omega) _ rfl⟩
def comW (l : List SpkM) : List (List ByteArray) := (l.filter fun x => x.com).map SpkM.ws
def stepH (s : Md × Int) (W : List ByteArray) : Md × Int := if s.2 = 0 then hearV s.1 W else s
def goH (m : Md) (L : List (List ByteArray)) : Md × Int := L.foldl stepH (m, 0)
def allV (m : Md) (L : List (List ByteArray)) : Md × Int := if properM m = false then (md0, 1) else goH m L
theorem hear_err (m : Md) (W : List ByteArray) (h : (hearV m W).2 ≠ 0) : hearV m W = (md0, (hearV m W).2) := by
 unfold hearV at h ⊢
 split
 ·rfl
 ·next hp =>
  rw [if_neg hp] at h
  split
  ·rfl
  ·next cs n hc =>
   rw [hc] at h
   dsimp only at h ⊢
   split
   ·rfl
   ·next h1 =>
    rw [if_neg h1] at h
    split
    ·rfl
    ·next h2 => rw [if_neg h2] at h; exact absurd rfl h
theorem comW_filter (l : List SpkM) : comW (l.filter fun x => x.com) = comW l := by
 unfold comW
 rw [List.filter_filter]
 simp
theorem comW_snoc (l : List SpkM) (x : SpkM) : comW (l ++ [x]) = comW l ++ (if x.com = true then [x.ws] else []) := by
 unfold comW
 rw [List.filter_append, List.map_append]
 cases h : x.com <;> simp [h]
theorem comW_take {l : List SpkM} {k : Nat} (h : k < l.length) : comW (l.take (k + 1)) = comW (l.take k) ++ (if l[k].com = true then [l[k].ws] else []) := by
 rw [List.take_succ_eq_append_getElem h, comW_snoc]
theorem goH_snoc (m : Md) (L : List (List ByteArray)) (W : List ByteArray) : goH m (L ++ [W]) = stepH (goH m L) W := by
 unfold goH
 rw [List.foldl_append]
 rfl
theorem stepH_stay {s : Md × Int} (h : s.2 ≠ 0) : ∀ L : List (List ByteArray), L.foldl stepH s = s
 | [] => rfl
 | W :: L => by
  rw [List.foldl_cons]
  have : stepH s W = s := if_neg h
  rw [this]
  exact stepH_stay h L
theorem goH_stay {m : Md} {L : List (List ByteArray)} (h : (goH m L).2 ≠ 0) (T : List (List ByteArray)) : goH m (L ++ T) = goH m L := by
 unfold goH at h ⊢
 rw [List.foldl_append]
 exact stepH_stay h T
theorem goH_proper {m : Md} (hp : properM m = true) : ∀ L : List (List ByteArray), ((goH m L).2 = 0 → properM (goH m L).1 = true) ∧ ((goH m L).2 ≠ 0 → (goH m L).1 = md0) := fun L => by
 suffices ∀ (L : List (List ByteArray)) (s : Md × Int), ((s.2 = 0 → properM s.1 = true) ∧ (s.2 ≠ 0 → s.1 = md0)) → ((L.foldl stepH s).2 = 0 → properM (L.foldl stepH s).1 = true) ∧ ((L.foldl stepH s).2 ≠ 0 → (L.foldl stepH s).1 = md0) from this L (m, 0) ⟨fun _ => hp, fun h => absurd rfl h⟩
 intro L
 induction L with
 | nil => intro s h; exact h
 | cons W L ih =>
  intro s h
  rw [List.foldl_cons]
  refine ih _ ?_
  unfold stepH
  split
  ·exact ⟨hear_proper, fun h => by rw [hear_err _ _ h]⟩
  ·exact h
end Go.Proofs.YtholajadbbdcmaaGreatDoor
namespace Go.Proofs.YtholajadbbdcmaaGreatDoor
open Go.RowKit Go.Shelf
set_option maxRecDepth 20000
attribute [local go_sem] Oper.semAt_some
abbrev SpX (ls : List SpkM) := { x : SpkM // x ∈ ls ∧ x.com = true }
def cmpl (ls : List SpkM) : List SpkM := ls.filter fun x => x.com
theorem cmpl_take {ls : List SpkM} {k : Nat} (h : k < ls.length) : cmpl (ls.take (k + 1)) = cmpl (ls.take k) ++ (if ls[k].com = true then [ls[k]] else []) := by
 unfold cmpl
 rw [List.take_succ_eq_append_getElem h, List.filter_append]
 cases h : ls[k].com <;> simp [h]
theorem cmpl_pre (ls : List SpkM) (k : Nat) : cmpl (ls.take k) <+: cmpl ls := by
 refine ⟨cmpl (ls.drop k), ?_⟩
 unfold cmpl
 rw [← List.filter_append, List.take_append_drop]
theorem cmpl_len {ls : List SpkM} {k : Nat} (h : k < ls.length) (hc : ls[k].com = true) : (cmpl (ls.take k)).length < (cmpl ls).length := by
 have h1 := (cmpl_pre ls (k + 1)).length_le
 rw [cmpl_take h, if_pos hc, List.length_append, List.length_singleton] at h1
 omega
set_option maxHeartbeats 4000000 in
theorem comp1_in (F : Fence) (n : Nat) (h72 : F.fn 72) (hro : F.round = none) (hn : 1 ≤ n) (l Bs n₀ : Nat) (A : Option Addr) (m c : Nat) (ls : List SpkM) (J Jx : List (SpX ls) → World → Prop) (W : World) (hJ : AbidesFrom W.heap.size J) (hm : m ≤ 1000)
  (hY : ∀ (pre : List (SpX ls)) (x : SpX ls) (W1 : World), J pre W1 → pre.length < (cmpl ls).length → YieldAt F (n - 1) Tryz.prog l #[uttV x.1] W1 fun e W' => (e = .returned (.bool true) ∧ J (pre ++ [x]) W' ∧ Below n₀ W1 W') ∨ (e = .returned (.bool false) ∧ Jx (pre ++ [x]) W'))
  (hBs : W.cell? ⟨Bs, 0, none⟩ = some (.slice A m c)) (rd : RdS W n₀ A m ls) (hn₀ : n₀ ≤ W.heap.size) (h0 : J [] W) :
  CallsIn F n Tryz.prog 72 #[.func (.yield l) #[] #[], .pointer (some ⟨Bs, 0, none⟩)] W fun e W' => (∃ v, e = .returned v) ∧
   ((∃ ys : List (SpX ls), ys.map (·.1) = cmpl ls ∧ J ys W') ∨ (∃ pre : List (SpX ls), pre.map (·.1) <+: cmpl ls ∧ Jx pre W')) := by
 have hln := rd.len
 have HRd := Lib.hid rd
 clear rd
 refine callsIn_of_wp Tryz.func72 rfl h72 ?_ hro
 simp only [Tryz.ntmps72, List.size_toArray, List.length_cons, List.length_nil, Nat.reduceAdd, Nat.reduceSub, Array.replicate_succ, Array.replicate_zero, List.push_toArray, List.append_toArray, List.nil_append, List.cons_append]
 gi_wp2
 gi_loopw [7] (fun i wr => ∃ (k : Nat) (pre : List (SpX ls)), k ≤ m ∧ i = .int .i64 k ∧ pre.map (·.1) = cmpl (ls.take k) ∧ J pre wr ∧ Below n₀ W wr) (fun i _ => m - (intOf i).toNat)
 case atStart => exact ⟨0, [], Nat.zero_le _, rfl, rfl, h0, Below.refl _ _⟩
 case round =>
  obtain ⟨k, pre, hk, rfl, hp, hJs, hnx⟩ := hrel
  by_cases hlt : k < m
  ·have hkl : k < ls.length := by omega
   obtain ⟨b, o, rfl, hbB, c0, c1, c2, c3, c4, c5, c6, c7⟩ := (HRd.out.below hnx).at_ hkl
   have hmem : ls[k] ∈ ls := List.getElem_mem hkl
   have htk := cmpl_take hkl
   have hpl : ls[k].com = true → pre.length < (cmpl ls).length := fun h => by
    have := cmpl_len hkl h
    rw [← hp, List.length_map] at this
    exact this
   have hpre := cmpl_pre ls (k + 1)
   generalize ls[k] = x at *
   obtain ⟨com, ws, xA, xcap, cA, cn, cc, cl, af, up, be, en⟩ := x
   dsimp only at c0 c1 c2 c3 c4 c5 c6 c7
   generalize hws : ws.length = nw at *
   cases com with
   | true =>
    obtain ⟨fn, tmps, assign, body, hy, hR⟩ := hY pre ⟨_, hmem, rfl⟩ (wr.alloc (.cells #[.slice xA nw xcap, .slice cA cn cc, .int .i64 cl, .int .i64 af, .int .i64 up, .int .i64 be, .int .i64 en, .bool true] 62)) (hJ _ _ _ none hJs (World.grownBy_alloc _ _ none) (fun r e => by cases e)) (hpl rfl)
    dsimp only [uttV] at hy
    rw [hws] at hy
    have hka : Below n₀ W (wr.alloc (.cells #[.slice xA nw xcap, .slice cA cn cc, .int .i64 cl, .int .i64 af, .int .i64 up, .int .i64 be, .int .i64 en, .bool true] 62)) := hnx.alloc (Nat.le_trans hn₀ hnx.size) _
    gi_wp2
    refine hR.mono ?_
    rintro e W3 (⟨rfl, hJ3, hk3⟩ | ⟨rfl, hJx3⟩)
    ·gi_wp2
     go_roundw
     case rel => exact ⟨k + 1, _, by omega, by simp, by simp [List.map_append, hp, htk], hJ3, hka.trans hk3⟩
     case measure => simp [intOf]; omega
    ·gi_wp2
     refine bodyPost_ret (results_none rfl _ _ _) rfl ?_
     exact ⟨⟨_, rfl⟩, .inr ⟨_, by rw [List.map_append, hp]; rw [htk] at hpre; simpa using hpre, hJx3⟩⟩
   | false =>
    have hka : Below n₀ W (wr.alloc (.cells #[.slice xA nw xcap, .slice cA cn cc, .int .i64 cl, .int .i64 af, .int .i64 up, .int .i64 be, .int .i64 en, .bool false] 62)) := hnx.alloc (Nat.le_trans hn₀ hnx.size) _
    have hJ2 := hJ _ _ (wr.alloc (.cells #[.slice xA nw xcap, .slice cA cn cc, .int .i64 cl, .int .i64 af, .int .i64 up, .int .i64 be, .int .i64 en, .bool false] 62)) none hJs (World.grownBy_alloc _ _ none) (fun r e => by cases e)
    gi_wp2
    refine ⟨fun _ h => (by cases h), ?_⟩
    gi_wp2
    go_roundw
    case rel => exact ⟨k + 1, pre, by omega, by simp, by simp [hp, htk], hJ2, hka⟩
    case measure => simp [intOf]; omega
  ·obtain rfl : k = m := by omega
   gi_wp2
   go_end0
   refine ⟨⟨_, rfl⟩, .inl ⟨pre, ?_, hJs⟩⟩
   rw [hp, ← hln, List.take_length]
set_option maxHeartbeats 1000000 in
theorem comp_in (F : Fence) (n : Nat) (h44 : F.fn 44) (hro : F.round = none) (A : Option Addr) (m c : Nat) (w : World) :
  CallsIn F n Tryz.prog 44 #[.slice A m c] w fun e w' => e = .returned (.func (.func 72) #[] #[.pointer (some ⟨w.heap.size, 0, none⟩)]) ∧ w' = w.alloc (.cells #[.slice A m c] 55) := by
 refine callsIn_of_wp Tryz.func44 rfl h44 ?_ hro
 simp only [Tryz.ntmps44, List.size_toArray, List.length_cons, List.length_nil, Nat.reduceAdd, Nat.reduceSub, Array.replicate_succ, Array.replicate_zero, List.push_toArray, List.append_toArray, List.nil_append, List.cons_append]
 gi_wp2
 go_ret
 exact ⟨rfl, rfl⟩
theorem comp_stops (F : Fence) (n : Nat) (h72 : F.fn 72) (hro : F.round = none) (hn : 1 ≤ n) (Bs n₀ : Nat) (A : Option Addr) (m c : Nat) (ls : List SpkM) (hm : m ≤ 1000) (w : World) (hBs : Bs < w.heap.size) (hn₀ : n₀ ≤ w.heap.size)
  (hc : w.cell? ⟨Bs, 0, none⟩ = some (.slice A m c)) (rd : RdS w n₀ A m ls) :
  SeqStopsK F n Tryz.prog 72 #[.pointer (some ⟨Bs, 0, none⟩)] (fun x : SpX ls => #[uttV x.1]) (Below n₀) (fun ys => ys.map (·.1) = cmpl ls) (fun pre => pre.map (·.1) <+: cmpl ls) (cmpl ls).length w := fun l J Jx W hW hJ _ hY h0 =>
 comp1_in F n h72 hro hn l Bs n₀ A m c ls J Jx W hJ hm hY ((hW.cell (p := ⟨Bs, 0, none⟩) hBs).trans hc) (rd.below (hW.mono hn₀)) (Nat.le_trans hn₀ hW.size) h0
end Go.Proofs.YtholajadbbdcmaaGreatDoor
namespace Go.Proofs.YtholajadbbdcmaaGreatDoor
open Go.RowKit Go.Shelf
set_option maxRecDepth 20000
attribute [local go_sem] Oper.semAt_some
theorem wpIn_fg {F : Fence} {n : Nat} {P : Program} {c : Code} {Q : Exit → Act → World → Prop} {a : Act} {w : World} (G : World → Prop) (h : G w) (k : ∀ w', G w' → c.wpIn F n P Q a w') : c.wpIn F n P Q a w := k w h
theorem wpIn_act {F : Fence} {n : Nat} {P : Program} {c : Code} {Q : Exit → Act → World → Prop} {a : Act} {w : World} (G : Act → Prop) (h : G a) (k : ∀ a', G a' → c.wpIn F n P Q a' w) : c.wpIn F n P Q a w := k a h
theorem run_loadVar_int {P : Program} (w : World) (g : Nat) (ty : TypeId) (v : Value) (hc : w.cell? ⟨g, 0, none⟩ = some v) (hv : P.underlying ty = some (.int .i64)) : (loadVar ty ⟨g, 0, none⟩).run P w = .ok v w := by
 have hagg : (isAgg ty).run P w = .ok false w := by
  unfold isAgg
  rw [Sem.run_bind, run_underlying hv w]
  rfl
 simp [loadVar, Sem.run_bind, hagg, go_sem, hc]
theorem results_ce {P : Program} {fn : Func} {p q : Tmp} {ty tq : TypeId} (h : fn.results = #[.cell p ty, .cell q tq]) (tmps : Array Value) (w : World) (g gq : Nat) (t : TypeId) (cs : Array Value) (fr : Nat × Nat) (d : TypeDesc) (v : Value)
  (hp : tmps.getD p undef = .pointer (some ⟨g, 0, none⟩)) (hg : w.heap[g]? = some (.cells cs t fr))
  (hu : P.underlying ty = some d) (hd : (match d with | .struct _ | .array _ _ => true | _ => false) = true) (hi : (P.info? ty).map (·.size) = some cs.size)
  (hq : tmps.getD q undef = .pointer (some ⟨gq, 0, none⟩)) (hc : w.cell? ⟨gq, 0, none⟩ = some v) (hv : P.underlying tq = some (.int .i64)) :
  (results fn tmps).run P w = .ok (.tuple #[.agg cs, v]) w := by
 simp only [results, h]
 have hp' : tmps[p]?.getD undef = .pointer (some ⟨g, 0, none⟩) := by simpa using hp
 have hq' : tmps[q]?.getD undef = .pointer (some ⟨gq, 0, none⟩) := by simpa using hq
 simp [Sem.run_bind, Result.andThen, hp', hq', asAddr, run_loadVar_row w g t ty cs fr d hg hu hd hi, run_loadVar_int w gq tq v hc hv]
theorem blk_ne {W : World} {g : Nat} {t : TypeId} {cs : Array Value} {row : Option Nat} (h : Blk W g t cs) (hr : ∀ r, row = some r → ∃ o : Obj, W.heap[r]? = some o ∧ o.isCells = false) : some g ≠ row := fun e => by
 obtain ⟨o, ho, hc⟩ := hr g e.symm
 unfold Blk at h
 rw [h] at ho; cases ho; cases hc
theorem own_kept {W W' : World} {row : Option Nat} {base : Nat} {e : TypeId} {size : Nat} {v : Value} {k : Nat} {xs : List Value} (h : W.ownsRow base e size v k xs) (hg : W.grownBy W' row) (hr : ∀ r, row = some r → ∃ o : Obj, W.heap[r]? = some o ∧ o.isCells = false) : W'.ownsRow base e size v k xs := by
 refine h.kept hg ?_
 rcases h.2 with ⟨rfl, _⟩ | ⟨g, cap, cur, rfl, _, hgb, _⟩
 ·exact .inl rfl
 ·refine .inr fun e' => ?_
  obtain ⟨o, ho, hc⟩ := hr g (by simpa [Value.ownBlock] using e'.symm)
  rw [hgb] at ho; cases ho; cases hc
theorem OwV.kept {N n c : Nat} {W W' : World} {v : Vw} {A : Option Addr} {rs : List RowM} {row : Option Nat} (h : OwV N W v A n c rs) (hg : W.grownBy W' row) (hr : ∀ r, row = some r → ∃ o : Obj, W.heap[r]? = some o ∧ o.isCells = false) : OwV N W' v A n c rs :=
 ⟨own_kept h.rows hg hr, fun x hx => own_kept (h.gl x hx) hg hr, h.eq⟩
theorem keeps_below {W W' : World} (h : Below W.heap.size W W') : KeepsOthers W W' := ⟨h.size, fun k o hk _ => (h.block k (Array.getElem?_eq_some_iff.1 hk).1).trans hk⟩
theorem keeps_setM (X : World) (g : Nat) (m : Md) (A : Option Addr) (n c : Nat) : KeepsOthers X (setM X g m A n c) :=
 ((((((KeepsOthers.setCell _ _ _).trans (KeepsOthers.setCell _ _ _)).trans (KeepsOthers.setCell _ _ _)).trans (KeepsOthers.setCell _ _ _)).trans (KeepsOthers.setCell _ _ _)).trans (KeepsOthers.setCell _ _ _)).trans (KeepsOthers.setCell _ _ _)
theorem blk_setM {X : World} {h g : Nat} {t : TypeId} {cs : Array Value} (hb : Blk X h t cs) (hn : h ≠ g) (m : Md) (A : Option Addr) (n c : Nat) : Blk (setM X g m A n c) h t cs :=
 ((((((hb.far (p := ⟨g, 0, none⟩) hn _).far (p := ⟨g, 1, none⟩) hn _).far (p := ⟨g, 2, none⟩) hn _).far (p := ⟨g, 3, none⟩) hn _).far (p := ⟨g, 4, none⟩) hn _).far (p := ⟨g, 5, none⟩) hn _).far (p := ⟨g, 6, none⟩) hn _
abbrev errB (X : World) (g : Nat) (e : Int) : Prop := Blk X g 31 #[.int .i64 e]
theorem errB.set {X : World} {g : Nat} {e : Int} (h : errB X g e) (u : Int) : errB (X.setCell ⟨g, 0, none⟩ (.int .i64 u)) g u := Blk.set_ h 0 _
structure AllG (w : World) (gR gX gE gO : Nat) : Prop where
 r : w.heap.size ≤ gR
 x : gR < gX
 e : gX < gE
 o : gE < gO
def uttA (x : SpkM) : Array Value := #[.slice x.A x.ws.length x.cap, .slice x.cA x.cn x.cc, .int .i64 x.cl, .int .i64 x.af, .int .i64 x.up]
structure AllI (w : World) (gR gX gE gO : Nat) (M : Md × Int) (W : World) : Prop where
 res : Blk W gR 26 (mdC md0 none 0 0)
 rex : errB W gX 0
 err : errB W gE M.2
 out : ∃ A n c N rs, gX < N ∧ Blk W gO 26 (mdC M.1 A n c) ∧ OwV N W M.1.view A n c rs
 bel : Below w.heap.size w W
theorem AllI.kept {w W W' : World} {gR gX gE gO : Nat} {M : Md × Int} {row : Option Nat} (h : AllI w gR gX gE gO M W) (hg : W.grownBy W' row) (hr : ∀ r, row = some r → w.heap.size ≤ r ∧ ∃ o : Obj, W.heap[r]? = some o ∧ o.isCells = false) : AllI w gR gX gE gO M W' := by
 have hr' : ∀ r, row = some r → ∃ o : Obj, W.heap[r]? = some o ∧ o.isCells = false := fun r e => (hr r e).2
 obtain ⟨A, n, c, N, rs, h1, h2, h3⟩ := h.out
 exact ⟨h.res.grown hg (blk_ne h.res hr'), Blk.grown h.rex hg (blk_ne h.rex hr'), Blk.grown h.err hg (blk_ne h.err hr'), ⟨A, n, c, N, rs, h1, h2.grown hg (blk_ne h2 hr'), h3.kept hg hr'⟩, h.bel.grown hg h.bel.size (fun k e => (hr k e).1)⟩
theorem AllI.on {w X X' : World} {gR gX gE gO : Nat} {M : Md × Int} (h : AllI w gR gX gE gO M X) (hb : Below X.heap.size X X') : AllI w gR gX gE gO M X' := by
 obtain ⟨A, n, c, N, rs, h1, h2, h3⟩ := h.out
 exact ⟨Blk.below h.res hb h.res.lt, Blk.below h.rex hb h.rex.lt, Blk.below h.err hb h.err.lt, ⟨A, n, c, N, rs, h1, h2.below hb h2.lt, h3.below hb⟩, h.bel.trans (hb.mono h.bel.size)⟩
theorem AllI.put {w X X3 : World} {gR gX gE gO n c : Nat} {M1 M2 : Md × Int} {A : Option Addr} {rs : List RowM} (h : AllI w gR gX gE gO M1 X) (hw : w.heap.size ≤ gR) (h1 : gR < gX) (h2 : gX < gE) (h3 : gE < gO) (hb : Below X.heap.size X X3) (ho : OwV X.heap.size X3 M2.1.view A n c rs) : AllI w gR gX gE gO M2 ((setM X3 gO M2.1 A n c).setCell ⟨gE, 0, none⟩ (.int .i64 M2.2)) := by
 obtain ⟨A1, n1, c1, N, rs1, -, hO, -⟩ := h.out
 have hl := hO.lt
 exact ⟨(blk_setM (Blk.below h.res hb h.res.lt) (by omega) _ _ _ _).far (by show gR ≠ gE; omega) _, (blk_setM (Blk.below h.rex hb h.rex.lt) (by omega) _ _ _ _).far (by show gX ≠ gE; omega) _, errB.set (blk_setM (Blk.below h.err hb h.err.lt) (by omega) _ _ _ _) _,
  ⟨A, n, c, X.heap.size, rs, by omega, (md_set (hO.below hb hl) _ _ _ _).far (by show gO ≠ gE; omega) _, (ow_setM ho hl).far (by show gE < X.heap.size; omega) _⟩, (below_m7 (h.bel.trans (hb.mono h.bel.size)) (by omega) _ _ _ _).setCell (by show w.heap.size ≤ gE; omega) _⟩
theorem AllI.keeps {w X X3 : World} {gR gX gE gO n c B : Nat} {M1 M2 : Md × Int} {A : Option Addr} (h : AllI w gR gX gE gO M1 X) (hw : w.heap.size ≤ gR) (h1 : gR < gX) (h2 : gX < gE) (h3 : gE < gO) (hb : Below X.heap.size X X3) : KeepsFrom B X ((setM X3 gO M2.1 A n c).setCell ⟨gE, 0, none⟩ (.int .i64 M2.2)) ∧ Below w.heap.size X ((setM X3 gO M2.1 A n c).setCell ⟨gE, 0, none⟩ (.int .i64 M2.2)) :=
 ⟨(((keeps_below hb).trans (keeps_setM _ _ _ _ _ _)).trans (KeepsOthers.setCell _ _ _)).from _, (below_m7 (hb.mono h.bel.size) (by omega) _ _ _ _).setCell (by show w.heap.size ≤ gE; omega) _⟩
structure AllX (w : World) (gR gX : Nat) (E : Int) (W : World) : Prop where
 res : Blk W gR 26 (mdC md0 none 0 0)
 rex : errB W gX E
 bel : Below w.heap.size w W
theorem AllX.kept {w W W' : World} {gR gX : Nat} {E : Int} {row : Option Nat} (h : AllX w gR gX E W) (hg : W.grownBy W' row) (hr : ∀ r, row = some r → w.heap.size ≤ r ∧ ∃ o : Obj, W.heap[r]? = some o ∧ o.isCells = false) : AllX w gR gX E W' := by
 have hr' : ∀ r, row = some r → ∃ o : Obj, W.heap[r]? = some o ∧ o.isCells = false := fun r e => (hr r e).2
 exact ⟨h.res.grown hg (blk_ne h.res hr'), Blk.grown h.rex hg (blk_ne h.rex hr'), h.bel.grown hg h.bel.size (fun k e => (hr k e).1)⟩
theorem AllX.drew {w X : World} {gR gX : Nat} {E : Int} (h : AllX w gR gX E X) : AllX w gR gX E X.drew := ⟨h.res, h.rex, h.bel.drew⟩
theorem AllI.exit {w X : World} {gR gX gE gO B : Nat} {M : Md × Int} (h : AllI w gR gX gE gO M X) (hw : w.heap.size ≤ gR) (h1 : gR < gX) (E : Int) : AllX w gR gX E ((setM X gR md0 none 0 0).setCell ⟨gX, 0, none⟩ (.int .i64 E)) ∧ KeepsFrom B X ((setM X gR md0 none 0 0).setCell ⟨gX, 0, none⟩ (.int .i64 E)) :=
 ⟨⟨(md_set h.res md0 none 0 0).far (by show gR ≠ gX; omega) _, errB.set (blk_setM h.rex (by omega) _ _ _ _) _, (below_m7 h.bel hw _ _ _ _).setCell (by show w.heap.size ≤ gX; omega) _⟩, ((keeps_setM _ _ _ _ _ _).trans (KeepsOthers.setCell _ _ _)).from _⟩
def MdV (r : Md × Int) (w : World) (e : Ending) (w' : World) : Prop :=
 Below w.heap.size w w' ∧ ∃ A n c rs, e = .returned (.tuple #[.agg (mdC r.1 A n c), .int .i64 r.2]) ∧ RdV w' w'.heap.size r.1.view A n c rs
structure AllF (w : World) (gR gX : Nat) (M : Md × Int) (A : Option Addr) (n c : Nat) (X : World) : Prop where
 res : Blk X gR 26 (mdC M.1 A n c)
 rex : errB X gX M.2
 row : ∃ N rs, OwV N X M.1.view A n c rs
 bel : Below w.heap.size w X
theorem AllF.turn {w X : World} {gR gX n c D : Nat} {M : Md × Int} {A : Option Addr} {o o' : Obj} (h : AllF w gR gX M A n c X) (hK : X.heap[D]? = some o) (ho : o.isCells = false) (hD : w.heap.size ≤ D) : AllF w gR gX M A n c (X.putObj D o') := by
 have hr : ∀ r, some D = some r → ∃ o : Obj, X.heap[r]? = some o ∧ o.isCells = false := fun r e => by cases e; exact ⟨o, hK, ho⟩
 have hg := grownBy_putObj' X D o'
 obtain ⟨N, rs, h3⟩ := h.row
 exact ⟨h.res.grown hg (blk_ne h.res hr), Blk.grown h.rex hg (blk_ne h.rex hr), ⟨N, rs, h3.kept hg hr⟩, h.bel.grown hg h.bel.size (fun k e => by cases e; exact hD)⟩
theorem AllF.mdv {w X : World} {gR gX n c : Nat} {M : Md × Int} {A : Option Addr} (h : AllF w gR gX M A n c X) : MdV M w (.returned (.tuple #[.agg (mdC M.1 A n c), .int .i64 M.2])) X := by
 obtain ⟨N, rs, h3⟩ := h.row
 exact ⟨h.bel, A, n, c, rs, rfl, h3.rdV⟩
theorem AllI.fin {w X : World} {gR gX gE gO : Nat} {M : Md × Int} (h : AllI w gR gX gE gO M X) (hw : w.heap.size ≤ gR) (h1 : gR < gX) : ∃ A n c, Blk X gO 26 (mdC M.1 A n c) ∧ AllF w gR gX M A n c ((setM X gR M.1 A n c).setCell ⟨gX, 0, none⟩ (.int .i64 M.2)) := by
 obtain ⟨A, n, c, N, rs, h2, h3, h4⟩ := h.out
 exact ⟨A, n, c, h3, (md_set h.res _ _ _ _).far (by show gR ≠ gX; omega) _, errB.set (blk_setM h.rex (by omega) _ _ _ _) _, ⟨N, rs, (ow_setM h4 (by omega)).far (by show gX < N; omega) _⟩, (below_m7 h.bel hw _ _ _ _).setCell (by show w.heap.size ≤ gX; omega) _⟩
theorem AllX.fin {w X : World} {gR gX : Nat} {E : Int} (h : AllX w gR gX E X) : AllF w gR gX (md0, E) none 0 0 X := ⟨h.res, h.rex, ⟨0, [], OwV.none_ _ _⟩, h.bel⟩
theorem keep_obj {X : World} {D g gX n c : Nat} {o : Obj} {m : Md} {A : Option Addr} {u : Value} (hK : X.heap[D]? = some o) (ho : o.isCells = false) : ((setM X g m A n c).setCell ⟨gX, 0, none⟩ u).heap[D]? = some o := ((keeps_setM X g m A n c).trans (KeepsOthers.setCell _ _ _)).same D _ hK ho
theorem proper_small {m : Md} (hp : properM m = true) {W : World} {B n c : Nat} {A : Option Addr} {rs : List RowM} (h : RdV W B m.view A n c rs) : ∀ x ∈ rs, x.l.length ≤ 132 ∧ ∀ g ∈ x.l, g.text.size ≤ 16 := fun x hx => by
 unfold properM at hp
 exact view_small (of_decide_eq_true hp).1 x.l (by rw [h.2.1]; exact rls_mem hx)
structure AllS (w : World) (m : Md) (A : Option Addr) (n c : Nat) (X : World) : Prop where
 box : Blk X w.heap.size 26 (mdC m A n c)
 res : ZM X (w.heap.size + 1)
 rex : errB X (w.heap.size + 1 + 1) 0
 bel : Below w.heap.size w X
theorem AllS.new (w : World) (m : Md) (A : Option Addr) (n c : Nat) : AllS w m A n c (((w.alloc (.cells (mdC m A n c) 26)).alloc (.cells (mdC md0 none 0 0) 26)).alloc (.cells #[.int .i64 0] 31)) :=
 ⟨((Blk.new_ rfl).alloc _).alloc _, (Blk.new_ (by simp)).alloc _, Blk.new_ (by simp), (((Below.refl _ _).alloc (Nat.le_refl _) _).alloc (by simp) _).alloc (by simp; omega) _⟩
theorem AllS.on {w X X' : World} {m : Md} {A : Option Addr} {n c : Nat} (h : AllS w m A n c X) (hb : Below X.heap.size X X') : AllS w m A n c X' :=
 ⟨h.box.below hb h.box.lt, Blk.below h.res hb h.res.lt, Blk.below h.rex hb h.rex.lt, h.bel.trans (hb.mono h.bel.size)⟩
theorem errB.facts {X : World} {g : Nat} {e : Int} (h : errB X g e) : X.cell? ⟨g, 0, none⟩ = some (.int .i64 e) ∧ X.frozen? ⟨g, 0, none⟩ = false := ⟨Blk.cell h 0, Blk.frozen h 0⟩
theorem comW_cmpl (ls : List SpkM) : comW ls = (cmpl ls).map SpkM.ws := rfl
def wdS {ls : List SpkM} (pre : List (SpX ls)) : List (List ByteArray) := pre.map fun x => x.1.ws
theorem wdS_map {ls : List SpkM} (pre : List (SpX ls)) : wdS pre = (pre.map (·.1)).map SpkM.ws := by simp [wdS]
theorem wdS_snoc {ls : List SpkM} (pre : List (SpX ls)) (x : SpX ls) : wdS (pre ++ [x]) = wdS pre ++ [x.1.ws] := by simp [wdS]
theorem wdS_all {ls : List SpkM} {pre : List (SpX ls)} (h : pre.map (·.1) = cmpl ls) : wdS pre = comW ls := by rw [wdS_map, h]; rfl
theorem wdS_pre {ls : List SpkM} {pre : List (SpX ls)} (h : pre.map (·.1) <+: cmpl ls) : ∃ T, comW ls = wdS pre ++ T := by
 obtain ⟨T, hT⟩ := h
 exact ⟨T.map SpkM.ws, by rw [wdS_map, comW_cmpl, ← hT, List.map_append]⟩
set_option maxHeartbeats 8000000 in
theorem lall_ (m : Md) (A : Option Addr) (n c : Nat) (rs : List RowM) (ls : List SpkM) (As : Option Addr) (ns cs : Nat) (w : World) (rd : RdV w w.heap.size m.view A n c rs) (hsm : ∀ x ∈ rs, x.l.length ≤ 140 ∧ ∀ g ∈ x.l, g.text.size ≤ 40)
  (rS : RdS w w.heap.size As ns ls) (hns : ns ≤ 1000) (hW : ∀ x ∈ ls, x.ws.length ≤ 300 ∧ ∀ s ∈ x.ws, s.size ≤ 200) (hg : Gd w) :
  Calls Tryz.prog 25 #[.agg (mdC m A n c), .slice As ns cs] w (MdV (allV m (comW ls)) w) := by
 have HP : Hid (∀ X, Below w.heap.size w X → Calls Tryz.prog 31 #[.agg (mdC m A n c)] X (Gives (.bool (properM m)) X)) := Lib.hid fun X hb => proper_ m A n c w.heap.size rs X (rd.below hb) hb.size (fun x hx => ⟨Nat.le_trans (hsm x hx).1 (by decide), fun g hg => Nat.le_trans ((hsm x hx).2 g hg) (by decide)⟩) (hg.below hb).2.1
 unfold allV
 cases hp : properM m with
 | false =>
  rw [hp] at HP
  rw [if_pos rfl]
  clear rd hsm rS hns hW hg hp
  obtain ⟨⟨W, H, rows, r, cl, vs⟩, U⟩ := m
  refine (callsIn_wide (n := 9)).1 ?_
  refine callsIn_of_wp_marks Tryz.func25 rfl trivial ?_ rfl
  simp only [Tryz.ntmps25, List.size_toArray, List.length_cons, List.length_nil, Nat.reduceAdd, Nat.reduceSub, Array.replicate_succ, Array.replicate_zero, List.push_toArray, List.append_toArray, List.nil_append, List.cons_append]
  have hb0 : Below w.heap.size w w := Below.refl _ _
  gi_upto_region 1 with fail
  refine wpIn_fg (AllS w ⟨⟨W, H, rows, r, cl, vs⟩, U⟩ A n c) (AllS.new w _ A n c) ?_
  intro X hX
  obtain ⟨c0, c1, c2, c3, c4, c5, c6, -, -, -, -, -, -, -⟩ := md_facts hX.box
  dsimp only at c0 c1 c3 c4 c5 c6
  gi_upto_region 2 with (refine ⟨trivial, ?_⟩; gi_at_call 31; refine (callsIn_wide.2 (HP.out _ hX.bel)).mono ?_; rintro e w1 ⟨rfl, hb1⟩)
  have hX1 := hX.on hb1
  obtain ⟨z0, z1, z2, z3, z4, z5, z6, y0, y1, y2, y3, y4, y5, y6⟩ := ZM.facts hX1.res
  obtain ⟨x0, x1⟩ := hX1.rex.facts
  have hM := md_set hX1.res md0 none 0 0
  have hne : w.heap.size + 1 ≠ w.heap.size + 1 + 1 := by omega
  have hR := Blk.far hM (p := ⟨w.heap.size + 1 + 1, 0, none⟩) hne (.int .i64 1)
  have hE := errB.set (blk_setM hX1.rex (Ne.symm hne) md0 none 0 0) 1
  have hbe := (below_m7 hX1.bel (Nat.le_succ _) md0 none 0 0).setCell (p := ⟨w.heap.size + 1 + 1, 0, none⟩) (by show w.heap.size ≤ w.heap.size + 1 + 1; omega) (.int .i64 1)
  gi_wp2
  exact ⟨_, results_ce rfl _ _ (w.heap.size + 1) (w.heap.size + 1 + 1) 26 _ (0, 0) _ (.int .i64 1) rfl hR Tryz.underlying26 rfl info_model rfl hE.facts.1 Tryz.underlying31, hbe, none, 0, 0, [], rfl, (OwV.none_ 0 _).rdV⟩
 | true =>
  rw [hp] at HP
  rw [if_neg (by simp)]
  have hv : viewC m.view = 0 := by
   unfold properM at hp
   exact (of_decide_eq_true hp).1
  have HAp : Hid (∀ X b, Below w.heap.size w X → Calls Tryz.prog 33 #[.agg (vwC m.view A n c), .slice (some ⟨b, 0, none⟩) 0 0] X fun e X' => ∃ A3 n3 d3 rs3 i3, e = .returned (.tuple #[.agg #[.int .i64 m.view.width, .int .i64 m.view.height, .slice A3 n3 d3, .int .i64 m.view.row, .int .i64 m.view.col, .bool m.view.vis], .int .i64 i3, .int .i64 0]) ∧ OwV X.heap.size X' m.view A3 n3 d3 rs3 ∧ Below X.heap.size X X') := Lib.hid fun X b hX => by
   have := apply_ m.view A n c w.heap.size rs [] (some ⟨b, 0, none⟩) 0 0 X (rd.below hX) ⟨⟨rfl, fun h => absurd h (by omega)⟩, fun x hx => by cases hx⟩ (Nat.le_refl 0) hX.size (fun x hx => by have := (hsm x hx).1; show x.l.length + 0 ≤ 100000000; omega) (fun x hx g hg => Nat.le_trans ((hsm x hx).2 g hg) (by decide)) (fun x hx => by cases hx) (by omega) (hg.below hX).2.1
   rw [show chgs [] = [] from rfl, apply_nil hv] at this
   exact this.mono fun e X' ⟨h1, A3, n3, d3, rs3, i3, h2, h3⟩ => ⟨A3, n3, d3, rs3, i3, h2, h3, h1⟩
  have HH : Hid (∀ (M : Md) (A : Option Addr) (n c : Nat) (rs : List RowM) (X : World) (x : SpkM), x ∈ ls → properM M = true → Below w.heap.size w X → RdV X X.heap.size M.view A n c rs → Calls Tryz.prog 14 #[.agg (mdC M A n c), .slice x.A x.ws.length x.cap] X fun e X' => ∃ A4 n4 d4 rs4, e = .returned (.tuple #[.agg (mdC (hearV M x.ws).1 A4 n4 d4), .int .i64 (hearV M x.ws).2]) ∧ OwV X.heap.size X' (hearV M x.ws).1.view A4 n4 d4 rs4 ∧ Below X.heap.size X X') := Lib.hid fun M A n c rs X x hx hpM hX hr => by
   have hs := proper_small hpM hr
   have hw := hW x hx
   have hb := rS.gl x hx
   have hg' := hg.below hX
   exact (hear_ M A n c X.heap.size rs x.ws x.A x.ws.length x.cap X hr (Nat.le_refl _) (fun y hy => by have := (hs y hy).1; omega) (fun y hy g hg => by have := (hs y hy).2 g hg; omega) ⟨rfl, hb.2.1, hb.2.2.1, (hb.1.below hX).more hX.size, fun s hs => Nat.le_trans (hw.2 s hs) (by decide)⟩ (by omega) (few_of (by omega)) hg'.1 hg'.2.1 hg'.2.2).mono fun e X' ⟨h1, A4, n4, d4, rs4, h2, h3⟩ => ⟨A4, n4, d4, rs4, h2, h3, h1⟩
  have HGP := Lib.hid (goH_proper hp)
  have HRS := Lib.hid rS
  clear rd hsm rS hW hg hp hv
  obtain ⟨⟨W, H, rows, r, cl, vs⟩, U⟩ := m
  dsimp only at HAp
  refine (callsIn_wide (n := 9)).1 ?_
  refine callsIn_of_wp_marks Tryz.func25 rfl trivial ?_ rfl
  simp only [Tryz.ntmps25, List.size_toArray, List.length_cons, List.length_nil, Nat.reduceAdd, Nat.reduceSub, Array.replicate_succ, Array.replicate_zero, List.push_toArray, List.append_toArray, List.nil_append, List.cons_append]
  gi_upto_region 1 with fail
  refine wpIn_fg (AllS w ⟨⟨W, H, rows, r, cl, vs⟩, U⟩ A n c) (AllS.new w _ A n c) ?_
  intro X hX
  obtain ⟨c0, c1, c2, c3, c4, c5, c6, -, -, -, -, -, -, -⟩ := md_facts hX.box
  dsimp only at c0 c1 c3 c4 c5 c6
  gi_upto_region 3 with (refine ⟨trivial, ?_⟩; gi_at_call 31; refine (callsIn_wide.2 (HP.out _ hX.bel)).mono ?_; rintro e w1 ⟨rfl, hb1⟩)
  have hX1 := hX.on hb1
  clear c0 c1 c2 c3 c4 c5 c6 hX hb1
  gi_upto_region 4 with fail
  refine wpIn_fg (AllS w ⟨⟨W, H, rows, r, cl, vs⟩, U⟩ A n c) (hX1.on ((Below.refl _ _).alloc (Nat.le_refl _) _)) ?_
  clear hX1
  intro Y hY
  obtain ⟨c0, c1, c2, c3, c4, c5, c6, -, -, -, -, -, -, -⟩ := md_facts hY.box
  dsimp only at c0 c1 c3 c4 c5 c6
  gi_upto_region 5 with (refine ⟨trivial, ?_⟩; gi_at_call 33; refine (callsIn_wide.2 (HAp.out _ _ hY.bel)).mono ?_; rintro e w2 ⟨A3, n3, d3, rs3, i3, rfl, ho3, hb3⟩)
  have hz2 := hb3.size
  have hyx := hY.rex.lt
  have hba : Below w2.heap.size w2 ((w2.alloc (.cells #[.int .i64 W, .int .i64 H, .slice A3 n3 d3, .int .i64 r, .int .i64 cl, .bool vs] 24)).alloc (.cells #[.int .i64 0] 31)) := ((Below.refl _ _).alloc (Nat.le_refl _) _).alloc (by simp) _
  refine wpIn_fg (fun Z => AllS w ⟨⟨W, H, rows, r, cl, vs⟩, U⟩ A n c Z ∧ Blk Z w2.heap.size 24 (vwC ⟨W, H, rows, r, cl, vs⟩ A3 n3 d3) ∧ errB Z (w2.heap.size + 1) 0 ∧ OwV Y.heap.size Z ⟨W, H, rows, r, cl, vs⟩ A3 n3 d3 rs3) ⟨(hY.on hb3).on hba, (Blk.new_ rfl).alloc _, Blk.new_ (by simp), ho3.below hba⟩ ?_
  rintro Z ⟨hZ, hVZ, hEZ, hoZ⟩
  have hzx := hEZ.lt
  clear c0 c1 c2 c3 c4 c5 c6 ho3 hb3 hba HAp HP hY
  obtain ⟨c0, c1, c2, c3, c4, c5, c6, -, -, -, -, -, -, -⟩ := md_facts hZ.box
  dsimp only at c6
  clear c0 c1 c2 c3 c4 c5
  obtain ⟨v0, v1, v2, v3, v4, v5⟩ := vw_cells hVZ
  dsimp only at v0 v1 v3 v4 v5
  obtain ⟨x0, x1⟩ := hEZ.facts
  gi_wp2_with (refine ⟨trivial, ?_⟩; gi_at_call 44; refine (comp_in Fence.wide _ trivial rfl _ _ _ _).mono ?_; rintro e w3 ⟨rfl, rfl⟩)
  obtain ⟨gE, hgE⟩ : ∃ x, x = w2.heap.size + 1 := ⟨_, rfl⟩
  obtain ⟨gO, hgO⟩ : ∃ x, x = Z.heap.size := ⟨_, rfl⟩
  obtain ⟨gS, hgS⟩ : ∃ x, x = Z.heap.size + 1 := ⟨_, rfl⟩
  have hbz : Below Z.heap.size Z ((Z.alloc (.cells #[.int .i64 W, .int .i64 H, .slice A3 n3 d3, .int .i64 r, .int .i64 cl, .bool vs, .int .i64 U] 26)).alloc (.cells #[.slice As ns cs] 55)) := ((Below.refl _ _).alloc (Nat.le_refl _) _).alloc (by simp) _
  have hZ2 := hZ.on hbz
  refine wpIn_fg (fun X => AllI w (w.heap.size + 1) (w.heap.size + 1 + 1) gE gO (⟨⟨W, H, rows, r, cl, vs⟩, U⟩, 0) X ∧ X.cell? ⟨gS, 0, none⟩ = some (.slice As ns cs) ∧ gS < X.heap.size) ⟨⟨hZ2.res, hZ2.rex, by rw [hgE]; exact Blk.below hEZ hbz hEZ.lt, ⟨A3, n3, d3, Y.heap.size, rs3, hyx, by rw [hgO]; exact (Blk.new_ rfl).alloc _, hoZ.below hbz⟩, hZ2.bel⟩, by rw [hgS]; exact Blk.cell (Blk.new_ (by simp)) 0, by rw [hgS]; simp⟩ ?_
  rintro W0 ⟨hI0, hS0, hgs⟩
  have hG : w.heap.size + 1 + 1 < gE ∧ gE < gO := by omega
  rw [← hgS, ← hgE, ← hgO]
  clear hgE hgO hgS hbz hZ2 hZ hVZ hEZ hoZ c6 v0 v1 v2 v3 v4 v5 x0 x1
  refine wpIn_act (fun a' => ∃ u0 u1 u2 u3 u6 u7 u8 u11 u12 u13 u14 u15 u16 u17 u18 u19 u20 u21 u22 u23 u24 u25 u26 u27 u28 u29 u30 u31 u32 u33 u35 u36 u37 u38 u39 u40 u41 u42 u43 u44 u45 u46 u47 : Value, a' = { tmps := #[u0, u1, u2, u3, .pointer (some ⟨w.heap.size + 1, 0, none⟩), .pointer (some ⟨w.heap.size + 1 + 1, 0, none⟩), u6, u7, u8, .pointer (some ⟨gE, 0, none⟩), .pointer (some ⟨gO, 0, none⟩), u11, u12, u13, u14, u15, u16, u17, u18, u19, u20, u21, u22, u23, u24, u25, u26, u27, u28, u29, u30, u31, u32, u33, .func (.func 72) #[] #[.pointer (some ⟨gS, 0, none⟩)], u35, u36, u37, u38, u39, u40, u41, u42, u43, u44, u45, u46, u47], defers := [] }) ⟨_, _, _, _, _, _, _, _, _, _, _, _, _, _, _, _, _, _, _, _, _, _, _, _, _, _, _, _, _, _, _, _, _, _, _, _, _, _, _, _, _, _, _, rfl⟩ ?_
  rintro _ ⟨u0, u1, u2, u3, u6, u7, u8, u11, u12, u13, u14, u15, u16, u17, u18, u19, u20, u21, u22, u23, u24, u25, u26, u27, u28, u29, u30, u31, u32, u33, u35, u36, u37, u38, u39, u40, u41, u42, u43, u44, u45, u46, u47, rfl⟩
  have hB0 := hI0.bel.size
  refine wpIn_rangeFunc_ownH rfl (by omega) (gf := 72) (lb := #[.pointer (some ⟨gS, 0, none⟩)]) rfl trivial (enters_of Tryz.func72 (by kernel_rfl) rfl)
   (comp_stops Fence.wide _ trivial rfl (by omega) gS w.heap.size As ns cs ls hns W0 hgs hB0 hS0 (HRS.out.below hI0.bel)) belowK_t (belowK_b hB0) (Below.refl _ _) (fun _ => rfl)
   (fun pre X => (goH ⟨⟨W, H, rows, r, cl, vs⟩, U⟩ (wdS pre)).2 = 0 ∧ AllI w (w.heap.size + 1) (w.heap.size + 1 + 1) gE gO (goH ⟨⟨W, H, rows, r, cl, vs⟩, U⟩ (wdS pre)) X)
   (fun c pre X => (c = .ret ∧ (goH ⟨⟨W, H, rows, r, cl, vs⟩, U⟩ (wdS pre)).2 ≠ 0) ∧ AllX w (w.heap.size + 1) (w.heap.size + 1 + 1) (goH ⟨⟨W, H, rows, r, cl, vs⟩, U⟩ (wdS pre)).2 X)
   (fun s X X' row hs hg hr => ⟨hs.1, hs.2.kept hg fun k e => ⟨Nat.le_trans hB0 (hr k e).1, (hr k e).2⟩⟩)
   (fun _ s X X' row hs hg hr => ⟨hs.1, hs.2.kept hg fun k e => ⟨Nat.le_trans hB0 (hr k e).1, (hr k e).2⟩⟩)
   ⟨rfl, hI0⟩
   (fun x a' X => ∃ Bx, gO < Bx ∧ Blk X Bx 60 (uttA x.1) ∧ a' = { tmps := #[u0, u1, u2, u3, .pointer (some ⟨w.heap.size + 1, 0, none⟩), .pointer (some ⟨w.heap.size + 1 + 1, 0, none⟩), u6, u7, u8, .pointer (some ⟨gE, 0, none⟩), .pointer (some ⟨gO, 0, none⟩), .pointer (some ⟨Bx, 0, none⟩), u12, u13, u14, u15, u16, u17, u18, u19, u20, u21, u22, u23, u24, u25, u26, u27, u28, u29, u30, u31, u32, u33, .func (.func 72) #[] #[.pointer (some ⟨gS, 0, none⟩)], uttV x.1, u36, u37, u38, u39, u40, u41, u42, u43, u44, u45, u46, u47], defers := [] })
   (fun x a' _ X X' row hs hg hr => by obtain ⟨Bx, h1, h2, h3⟩ := hs; exact ⟨Bx, h1, h2.grown hg (blk_ne h2 fun k e => (hr k e).2), h3⟩)
   ?assign ?body ?done ?stop
  case assign =>
   rintro l pre ⟨⟨com, ws, xA, xcap, cA, cn, cc, cl, af, up, be, en⟩, hx⟩ X K hI hK
   obtain ⟨A1, n1, d1, N1, rs1, hN1, hO1, -⟩ := hI.2.out
   dsimp only [uttV]
   gi_wp2
   exact hK _ _ ((KeepsOthers.alloc _ _).from _) ((Below.refl _ _).alloc hI.2.bel.size _) ⟨hI.1, hI.2.kept (World.grownBy_alloc _ _ none) (fun k e => by cases e)⟩ ⟨X.heap.size, hO1.lt, Blk.new_ rfl, rfl⟩
  case body =>
   rintro l pre ⟨x, hx, hc⟩ a' X _ _ ⟨h0, hI⟩ ⟨Bx, hBx, hBl, rfl⟩ _
   have HC := HH.out (goH ⟨⟨W, H, rows, r, cl, vs⟩, U⟩ (wdS pre)).1
   have hpm := (HGP.out (wdS pre)).1 h0
   have hnx : goH ⟨⟨W, H, rows, r, cl, vs⟩, U⟩ (wdS (pre ++ [⟨x, hx, hc⟩])) = hearV (goH ⟨⟨W, H, rows, r, cl, vs⟩, U⟩ (wdS pre)).1 x.ws := by
    rw [wdS_snoc, goH_snoc]
    exact if_pos h0
   obtain ⟨A1, n1, d1, N1, rs1, hN1, hO1, ho1⟩ := hI.out
   have HC2 := Lib.hid (HC A1 n1 d1 rs1 X x hx hpm hI.bel ho1.rdV)
   obtain ⟨PX, hPX⟩ : ∃ p, p = pre ++ [⟨x, hx, hc⟩] := ⟨_, rfl⟩
   rw [← hPX] at hnx ⊢
   clear hPX
   generalize goH ⟨⟨W, H, rows, r, cl, vs⟩, U⟩ (wdS pre) = M1 at *
   generalize hearV M1.1 x.ws = M3 at *
   have HNX := Lib.hid hnx
   clear hnx hpm HC ho1 hN1
   have hput := fun (X3 : World) (A4 : Option Addr) (n4 d4 : Nat) (rs4 : List RowM) (hb : Below X.heap.size X X3) (ho : OwV X.heap.size X3 M3.1.view A4 n4 d4 rs4) => hI.put (Nat.le_succ _) (Nat.lt_succ_self _) hG.1 hG.2 hb ho
   have hkp := fun (X3 : World) (A4 : Option Addr) (n4 d4 : Nat) (hb : Below X.heap.size X X3) => hI.keeps (M2 := M3) (n := n4) (c := d4) (A := A4) (B := W0.heap.size) (Nat.le_succ _) (Nat.lt_succ_self _) hG.1 hG.2 hb
   obtain ⟨⟨⟨vW, vH, vrows, vr, vy, vv⟩, vU⟩, vE⟩ := M1
   obtain ⟨⟨⟨qW, qH, qrows, qr, qy, qv⟩, qU⟩, qE⟩ := M3
   obtain rfl : vE = 0 := h0
   have HC3 : Hid (Calls Tryz.prog 14 #[.agg #[.int .i64 vW, .int .i64 vH, .slice A1 n1 d1, .int .i64 vr, .int .i64 vy, .bool vv, .int .i64 vU], .slice x.A x.ws.length x.cap] X fun e X' => ∃ A4 n4 d4 rs4, e = .returned (.tuple #[.agg #[.int .i64 qW, .int .i64 qH, .slice A4 n4 d4, .int .i64 qr, .int .i64 qy, .bool qv, .int .i64 qU], .int .i64 qE]) ∧ OwV X.heap.size X' ⟨qW, qH, qrows, qr, qy, qv⟩ A4 n4 d4 rs4 ∧ Below X.heap.size X X') := HC2
   clear HC2 HH
   obtain ⟨c0, c1, c2, c3, c4, c5, c6, -, -, -, -, -, -, -⟩ := md_facts hO1
   dsimp only at c0 c1 c3 c4 c5 c6
   have hlO := hO1.lt
   have hEr := hI.err
   have hlE := hEr.lt
   have u0 : X.cell? ⟨Bx, 0, none⟩ = some (.slice x.A x.ws.length x.cap) := hBl.cell 0
   obtain ⟨com, ws, xA, xcap, cA, cn, cc, cl', af, up, be, en⟩ := x
   dsimp only at u0 HC3
   generalize ws.length = nw at *
   have hn1 : gO ≠ gE := by omega
   have hn2 : gE ≠ gO := by omega
   gi_upto_region 11 with (refine ⟨trivial, ?_⟩; gi_at_call 14; refine (CallsIn.inRound l (callsIn_wide.2 HC3.out)).mono ?_; rintro e X3 ⟨A4, n4, d4, rs4, rfl, ho4, hb4⟩; have hO3 := hO1.below hb4 hlO; obtain ⟨z0, z1, z2, z3, z4, z5, z6, y0, y1, y2, y3, y4, y5, y6⟩ := md_facts hO3; obtain ⟨k0, k1⟩ := errB.facts (Blk.below hEr hb4 hlE))
   obtain ⟨q1, q2⟩ := hkp X3 A4 n4 d4 hb4
   have hput2 := hput X3 A4 n4 d4 rs4 hb4 ho4
   refine wpIn_fg (fun X4 => KeepsFrom W0.heap.size X X4 ∧ Below w.heap.size X X4 ∧ AllI w (w.heap.size + 1) (w.heap.size + 1 + 1) gE gO (⟨⟨qW, qH, qrows, qr, qy, qv⟩, qU⟩, qE) X4) ⟨q1, q2, hput2⟩ ?_
   clear q1 q2 hput2 z0 z1 z2 z3 z4 z5 z6 y0 y1 y2 y3 y4 y5 y6 k0 k1 c0 c1 c2 c3 c4 c5 c6 hO3 ho4 hb4 hput hkp HC3 hBl u0
   rintro X4 ⟨q1, q2, hI4⟩
   obtain ⟨k0, k1⟩ := errB.facts hI4.err
   dsimp only at k0
   by_cases hqE : qE = 0
   ·have hEb : (qE != 0) = false := by rw [hqE]; rfl
    have hres : Hid ((goH ⟨⟨W, H, rows, r, cl, vs⟩, U⟩ (wdS PX)).2 = 0 ∧ AllI w (w.heap.size + 1) (w.heap.size + 1 + 1) gE gO (goH ⟨⟨W, H, rows, r, cl, vs⟩, U⟩ (wdS PX)) X4) := Lib.hid (by rw [HNX.out]; exact ⟨hqE, hI4⟩)
    clear hqE HNX
    gi_wp2
    exact ⟨q1, q2, hres.out⟩
   ·have hEb : (qE != 0) = true := bne_iff_ne.2 hqE
    gi_upto_region 12 with fail
    obtain ⟨z0, z1, z2, z3, z4, z5, z6, y0, y1, y2, y3, y4, y5, y6⟩ := ZM.facts hI4.res
    obtain ⟨x0, x1⟩ := hI4.rex.facts
    obtain ⟨hX5, hk5⟩ := hI4.exit (B := W0.heap.size) (Nat.le_succ _) (Nat.lt_succ_self _) qE
    have hres : Hid (KeepsFrom W0.heap.size X ((setM X4 (w.heap.size + 1) md0 none 0 0).setCell ⟨w.heap.size + 1 + 1, 0, none⟩ (.int .i64 qE)).drew ∧ (goH ⟨⟨W, H, rows, r, cl, vs⟩, U⟩ (wdS PX)).2 ≠ 0 ∧ AllX w (w.heap.size + 1) (w.heap.size + 1 + 1) (goH ⟨⟨W, H, rows, r, cl, vs⟩, U⟩ (wdS PX)).2 ((setM X4 (w.heap.size + 1) md0 none 0 0).setCell ⟨w.heap.size + 1 + 1, 0, none⟩ (.int .i64 qE)).drew) := Lib.hid (by rw [HNX.out]; exact ⟨(q1.trans hk5).trans ((KeepsOthers.drew _).from _), hqE, hX5.drew⟩)
    have hne1 : w.heap.size + 1 ≠ gE := by omega
    have hne2 : w.heap.size + 1 ≠ w.heap.size + 1 + 1 := by omega
    clear hqE HNX hX5 hk5 hI4 q1 q2
    have hmx : Tryz.prog.follows .mixedOrders = true := by kernel_rfl
    gi_region_with_o (fail)
    all_goals gi_wp2
    all_goals exact ⟨hres.out.1, ⟨rfl, hres.out.2.1⟩, hres.out.2.2⟩
  case done =>
   rintro D ys X hD hys ⟨h0, hI⟩ hK
   rw [wdS_all hys] at h0 hI
   generalize goH ⟨⟨W, H, rows, r, cl, vs⟩, U⟩ (comW ls) = M at *
   obtain ⟨A1, n1, d1, hO1, hF⟩ := hI.fin (Nat.le_succ _) (Nat.lt_succ_self _)
   obtain ⟨⟨⟨vW, vH, vrows, vr, vy, vv⟩, vU⟩, vE⟩ := M
   obtain rfl : vE = 0 := h0
   obtain ⟨c0, c1, c2, c3, c4, c5, c6, -, -, -, -, -, -, -⟩ := md_facts hO1
   dsimp only at c0 c1 c3 c4 c5 c6
   obtain ⟨z0, z1, z2, z3, z4, z5, z6, y0, y1, y2, y3, y4, y5, y6⟩ := ZM.facts hI.res
   obtain ⟨x0, x1⟩ := hI.rex.facts
   have hne2 : w.heap.size + 1 ≠ w.heap.size + 1 + 1 := by omega
   have hK2 := Lib.hid fun (m : Md) (A : Option Addr) (n c : Nat) (u : Value) => keep_obj (g := w.heap.size + 1) (gX := w.heap.size + 1 + 1) (m := m) (A := A) (n := n) (c := c) (u := u) hK rfl
   have hFF := Lib.hid hF
   clear hF hI HGP HH hK
   gi_wp2
   have hK3 := hK2.out ⟨⟨vW, vH, vrows, vr, vy, vv⟩, vU⟩ A1 n1 d1 (.int .i64 0)
   have hT := AllF.turn (o' := .deferred none) hFF.out hK3 rfl (Nat.le_trans hB0 hD)
   refine ⟨by simp, .inl ⟨_, _, rfl, run_takeDeferred hK3, ?_⟩⟩
   exact ⟨_, results_ce rfl _ _ (w.heap.size + 1) (w.heap.size + 1 + 1) 26 _ (0, 0) _ (.int .i64 0) rfl hT.res Tryz.underlying26 rfl info_model rfl hT.rex.facts.1 Tryz.underlying31, hT.mdv⟩
  case stop =>
   rintro D c pre X hD hpre ⟨⟨rfl, hE⟩, hX⟩ hK
   obtain ⟨T, hT⟩ := wdS_pre hpre
   have hst : Hid (goH ⟨⟨W, H, rows, r, cl, vs⟩, U⟩ (comW ls) = (md0, (goH ⟨⟨W, H, rows, r, cl, vs⟩, U⟩ (wdS pre)).2)) := Lib.hid (by
    rw [hT, goH_stay hE]
    exact Prod.ext ((HGP.out _).2 hE) rfl)
   rw [hst.out]
   generalize (goH ⟨⟨W, H, rows, r, cl, vs⟩, U⟩ (wdS pre)).2 = E at *
   have hF := AllF.turn (o' := .deferred none) hX.fin hK rfl (Nat.le_trans hB0 hD)
   gi_wp2
   refine ⟨by simp, .inl ⟨_, _, rfl, run_takeDeferred hK, ?_⟩⟩
   exact ⟨_, results_ce rfl _ _ (w.heap.size + 1) (w.heap.size + 1 + 1) 26 _ (0, 0) _ (.int .i64 E) rfl hF.res Tryz.underlying26 rfl info_model rfl hF.rex.facts.1 Tryz.underlying31, hF.mdv⟩
end Go.Proofs.YtholajadbbdcmaaGreatDoor
namespace Go.Proofs.YtholajadbbdcmaaGreatDoor
open Go.RowKit
set_option maxRecDepth 20000
def greatS (l : List SpkM) : Bool := decide (8 < l.length) || l.any fun x => !shortW 300 200 x.ws
set_option maxHeartbeats 1000000 in
theorem great42_ (l : List SpkM) (A : Option Addr) (n c B : Nat) (w : World) (hm : n ≤ maxLen) (rd : RdS w B A n l) :
  Calls Tryz.prog 24 #[.slice A n c] w fun e w' => e = .returned (.bool (greatS l)) ∧ w' = w := by
 have HN := Lib.hid rd.len
 have hmm : n ≤ 9223372036854775807 := by unfold maxLen at hm; omega
 have HG : Hid (∀ x ∈ l, Calls Tryz.prog 12 #[.slice x.A x.ws.length x.cap] w fun e w' => e = .returned (.bool (!shortW 300 200 x.ws)) ∧ w' = w) := Lib.hid fun x hx =>
  rlong42_ _ _ _ _ B w (Nat.le_trans (rd.gl x hx).2.1 (rd.gl x hx).2.2.1) (rd.gl x hx).1
 unfold greatS
 rw [HN.out]
 clear hm
 by_cases h0 : 8 < n
 ·rw [decide_eq_true h0, Bool.true_or]
  have hi : (8 : Int) < (n : Int) := by omega
  go_enter Tryz.func24, Tryz.ntmps24
  go_wp2
  go_ret
  exact ⟨rfl, rfl⟩
 ·rw [decide_eq_false h0, Bool.false_or]
  have hi : (n : Int) ≤ 8 := by omega
  have H0 : Hid ((l.any fun x => !shortW 300 200 x.ws) = ((l.drop 0).any fun x => !shortW 300 200 x.ws)) := Lib.hid rfl
  generalize (l.any fun x => !shortW 300 200 x.ws) = R at *
  clear h0
  go_enter Tryz.func24, Tryz.ntmps24
  go_wp2
  go_loop [9] (fun x => ∃ k : Nat, k ≤ n ∧ x = .int .i64 k ∧ Hid (R = ((l.drop k).any fun x => !shortW 300 200 x.ws))) (fun x => n - (intOf x).toNat)
  case atStart => exact ⟨0, Nat.zero_le _, rfl, H0⟩
  case round =>
   obtain ⟨k, hk, rfl, HK⟩ := hrel
   by_cases hlt : k < n
   ·have hkl : k < l.length := by have := HN.out; omega
    obtain ⟨b, o, rfl, _, c0, -, -, -, -, -, -, -⟩ := rd.at_ hkl
    have HD := Lib.hid (any_drop (fun x : SpkM => !shortW 300 200 x.ws) hkl)
    have HGk := Lib.hid (HG.out _ (List.getElem_mem hkl))
    generalize l[k] = g at *
    obtain ⟨com, ws, xA, xcap, cA, cn, cc, cl, af, up, be, en⟩ := g
    dsimp only at *
    generalize ws.length = nw at *
    generalize (!shortW 300 200 ws) = gg at *
    cases gg with
    | true =>
     have HR2 : Hid (R = true) := Lib.hid (by rw [HK.out, HD.out]; rfl)
     clear HK HD HG
     go_wp2_with (go_at_call 12; refine HGk.out.mono ?_; rintro e w1 ⟨rfl, rfl⟩)
     go_ret
     exact ⟨by rw [HR2.out]; rfl, rfl⟩
    | false =>
     have HR2 : Hid (R = ((l.drop (k + 1)).any fun x => !shortW 300 200 x.ws)) := Lib.hid (by rw [HK.out, HD.out]; rfl)
     clear HK HD HG
     go_wp2_with (go_at_call 12; refine HGk.out.mono ?_; rintro e w1 ⟨rfl, rfl⟩)
     exact ⟨⟨k + 1, by omega, by go_num, HR2⟩, by simp [intOf]; omega⟩
   ·have HR2 : Hid (R = false) := Lib.hid (by rw [HK.out, List.drop_of_length_le (by have := HN.out; omega)]; rfl)
    go_wp2
    go_ret
    exact ⟨by rw [HR2.out]; rfl, rfl⟩
theorem greatS_small {l : List SpkM} (h : greatS l = false) : l.length ≤ 8 ∧ ∀ x ∈ l, x.ws.length ≤ 300 ∧ ∀ s ∈ x.ws, s.size ≤ 200 := by
 unfold greatS at h
 rw [Bool.or_eq_false_iff] at h
 refine ⟨by have := of_decide_eq_false h.1; omega, fun x hx => ?_⟩
 have h2 := List.any_eq_false.1 h.2 x hx
 exact short_some (by simpa using h2)
end Go.Proofs.YtholajadbbdcmaaGreatDoor
