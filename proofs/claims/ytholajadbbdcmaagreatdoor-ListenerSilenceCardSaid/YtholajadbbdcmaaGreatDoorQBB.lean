/- Joined texts: SpC, UtP, UtP2, Ur1. -/
import Derived.Test.YtholajadbbdcmaaGreatDoorQAA
import Derived.Test.YtholajadbbdcmaaGreatDoorQAB
import Derived.Test.YtholajadbbdcmaaGreatDoorQAC
import Derived.Test.YtholajadbbdcmaaGreatDoorQAD
import Derived.Test.YtholajadbbdcmaaGreatDoorQAE
import Derived.Test.YtholajadbbdcmaaGreatDoorQAF
import Derived.Test.YtholajadbbdcmaaGreatDoorQAG
import Derived.Test.YtholajadbbdcmaaGreatDoorQAH
import Derived.Test.YtholajadbbdcmaaGreatDoorQAI
import Derived.Test.YtholajadbbdcmaaGreatDoorQAM
import Derived.Test.YtholajadbbdcmaaGreatDoorQAN
import Derived.Test.YtholajadbbdcmaaGreatDoorQAP
import Derived.Test.YtholajadbbdcmaaGreatDoorQAQ
import Derived.Test.YtholajadbbdcmaaGreatDoorQAS
import Derived.Test.YtholajadbbdcmaaGreatDoorQAT
import Derived.Test.YtholajadbbdcmaaGreatDoorQAU
set_option linter.unusedVariables false
set_option linter.unusedSimpArgs false
set_option linter.unnecessarySimpa false
namespace Go.Proofs.YtholajadbbdcmaaGreatDoor
open Go.RowKit
set_option maxRecDepth 20000
def BadS (r q k : Int) : Prop := (r < 25 ∨ 400 < r) ∨ (q ≠ 0 ∧ (q < 2 ∨ 132 < q)) ∨ (k < 1 ∨ 80 < k)
instance (r q k : Int) : Decidable (BadS r q k) := by unfold BadS; infer_instance
def setE (r q k : Int) : Int := if BadS r q k then 2 else 0
def bSize : ByteArray := ⟨#[115, 105, 122, 101]⟩
def bRows : ByteArray := ⟨#[114, 111, 119, 115]⟩
def bColumns : ByteArray := ⟨#[99, 111, 108, 117, 109, 110, 115]⟩
def bScroll : ByteArray := ⟨#[115, 99, 114, 111, 108, 108]⟩
def bLine : ByteArray := ⟨#[108, 105, 110, 101]⟩
def bTo : ByteArray := ⟨#[116, 111]⟩
def bUp : ByteArray := ⟨#[117, 112]⟩
def bDown : ByteArray := ⟨#[100, 111, 119, 110]⟩
def bColumn : ByteArray := ⟨#[99, 111, 108, 117, 109, 110]⟩
def bInsert : ByteArray := ⟨#[105, 110, 115, 101, 114, 116]⟩
def bDelete : ByteArray := ⟨#[100, 101, 108, 101, 116, 101]⟩
def bCursor : ByteArray := ⟨#[99, 117, 114, 115, 111, 114]⟩
def bVisible : ByteArray := ⟨#[118, 105, 115, 105, 98, 108, 101]⟩
def bInvisible : ByteArray := ⟨#[105, 110, 118, 105, 115, 105, 98, 108, 101]⟩
def bMore : ByteArray := ⟨#[109, 111, 114, 101]⟩
def bDone : ByteArray := ⟨#[100, 111, 110, 101]⟩
def bUpdates : ByteArray := ⟨#[117, 112, 100, 97, 116, 101, 115]⟩
structure Chg where
 kind : Int
 row : Int
 col : Int
 count : Int
 til : Int
 glyphs : List Gl
def numI (n : Int) : List ByteArray := (wordsL n).map wb
def rangesU (c : Chg) : Bool :=
 if c.kind = 1 then decide (1 ≤ c.row ∧ c.row ≤ 60 ∧ 1 ≤ c.col ∧ c.col ≤ 132)
 else if c.kind = 2 then decide (0 ≤ c.row ∧ c.row ≤ 59 ∧ c.row + 1 ≤ c.til ∧ c.til ≤ 60 ∧ -60 ≤ c.count ∧ c.count ≤ 60 ∧ c.count ≠ 0)
 else if c.kind = 3 then decide (0 ≤ c.row ∧ c.row ≤ 59 ∧ 0 ≤ c.col ∧ c.col ≤ 132 ∧ 0 ≤ c.count ∧ c.count ≤ 132)
 else decide (0 ≤ c.row ∧ c.row ≤ 59 ∧ 0 ≤ c.col ∧ c.col ≤ 131 ∧ 0 ≤ c.count ∧ c.count ≤ 1)
def othersU (c : Chg) : Bool :=
 if c.kind = 1 then decide (c.count = 0 ∧ c.til = 0 ∧ c.glyphs = [])
 else if c.kind = 2 then decide (c.col = 0 ∧ c.glyphs = [])
 else if c.kind = 3 then decide (c.til = 0) && c.glyphs.all fun g => decide (glyphC g = 0)
 else decide (c.til = 0 ∧ c.glyphs = [])
def chkU (c : Chg) : Int :=
 if c.kind < 1 ∨ 4 < c.kind then 9
 else if rangesU c = false then 2
 else if c.kind = 3 ∧ 132 < c.glyphs.length then 5
 else if othersU c = false then 1
 else 0
def phraseL (c : Chg) (S : Setts) : List ByteArray :=
 if c.kind = 1 then bSize :: (numI c.row ++ bRows :: (numI c.col ++ [bColumns]))
 else if c.kind = 2 then bScroll :: bLine :: (numI (c.row + 1) ++ bTo :: (numI c.til ++ (if 0 < c.count then bUp :: numI c.count else bDown :: numI (-c.count))))
 else if c.kind = 3 then bLine :: (numI (c.row + 1) ++ bColumn :: (numI (c.col + 1) ++ ((if 0 < c.count then bDelete :: numI c.count else []) ++ (if c.glyphs = [] then [] else bInsert :: (spokenWords c.glyphs S ++ [bStop])))))
 else if c.kind = 4 then bCursor :: bLine :: (numI (c.row + 1) ++ bColumn :: (numI (c.col + 1) ++ [if c.count = 1 then bVisible else bInvisible]))
 else []
def endW (n : Int) : List ByteArray := if n = 0 then [bMore] else if n = 1 then [bDone] else bDone :: (numI n ++ [bUpdates])
def wordsU (l : List Chg) (n : Int) (S : Setts) : List ByteArray := (l.flatMap fun c => phraseL c S) ++ endW n
def hdIs (s : ByteArray) : List ByteArray → Bool
 | a :: _ => decide (a = s)
 | [] => false
def skO (s : ByteArray) : List ByteArray → Option (List ByteArray)
 | a :: t => if a = s then some t else none
 | [] => none
def numO (l : List ByteArray) : Option (Int × List ByteArray) := (prefixL l).map fun x => (x.1, l.drop x.2)
def afO (s : ByteArray) (l : List ByteArray) : Option (Int × List ByteArray) := (skO s l).bind numO
def findStop : Bool → List ByteArray → Option Nat
 | _, [] => none
 | true, _ :: t => (findStop false t).map (· + 1)
 | false, a :: t => if a = bWord then (findStop true t).map (· + 1) else if a = bStop then some 0 else (findStop false t).map (· + 1)
def textO (l : List ByteArray) : Option (List Gl × List ByteArray) := (findStop false l).bind fun i => match glyphsL (l.take i) with
 | some (g :: gs) => some (g :: gs, l.drop (i + 1))
 | _ => none
def delL (l : List ByteArray) : Option (Int × List ByteArray) := if hdIs bDelete l = true then (afO bDelete l).bind fun x => if x.1 < 1 then none else some x else some (0, l)
def insL (l : List ByteArray) : Option (List Gl × List ByteArray) := if hdIs bInsert l = true then (skO bInsert l).bind textO else some ([], l)
def spliceL (l : List ByteArray) : Option (Chg × List ByteArray) :=
 (afO bLine l).bind fun x => (afO bColumn x.2).bind fun y => (delL y.2).bind fun z => (insL z.2).map fun g => (⟨3, x.1 - 1, y.1 - 1, z.1, 0, g.1⟩, g.2)
def chgL (l : List ByteArray) : Option (Chg × List ByteArray) :=
 if hdIs bSize l = true then (afO bSize l).bind fun x => (afO bRows x.2).bind fun y => (skO bColumns y.2).map fun t => (⟨1, x.1, y.1, 0, 0, []⟩, t)
 else if hdIs bScroll l = true then ((skO bScroll l).bind (afO bLine)).bind fun x => (afO bTo x.2).bind fun y =>
  if hdIs bDown y.2 = true then (afO bDown y.2).bind fun z => if z.1 < 0 then none else some (⟨2, x.1 - 1, 0, -z.1, y.1, []⟩, z.2)
  else (afO bUp y.2).bind fun z => if z.1 < 0 then none else some (⟨2, x.1 - 1, 0, z.1, y.1, []⟩, z.2)
 else if hdIs bLine l = true then spliceL l
 else if hdIs bCursor l = true then ((skO bCursor l).bind (afO bLine)).bind fun x => (afO bColumn x.2).bind fun y =>
  if hdIs bVisible y.2 = true then (skO bVisible y.2).map fun t => (⟨4, x.1 - 1, y.1 - 1, 1, 0, []⟩, t)
  else (skO bInvisible y.2).map fun t => (⟨4, x.1 - 1, y.1 - 1, 0, 0, []⟩, t)
 else none
def endL (l : List ByteArray) : Option Int :=
 if hdIs bMore l = true then (if l.length = 1 then some 0 else none)
 else (skO bDone l).bind fun t => if t = [] then some 1 else (numO t).bind fun x => (skO bUpdates x.2).bind fun u => if u = [] ∧ 1 < x.1 then some x.1 else none
def chgsL : Nat → List ByteArray → List Chg → Option (List Chg × Int)
 | 0, _, _ => none
 | f + 1, l, acc => if hdIs bMore l = true ∨ hdIs bDone l = true then (endL l).map fun n => (acc, n) else (chgL l).bind fun x => if chkU x.1 = 0 then chgsL f x.2 (acc ++ [x.1]) else none
def changesU (l : List ByteArray) : Option (List Chg × Int) := chgsL (l.length + 1) l []
theorem skO_yes (s : ByteArray) (t : List ByteArray) : skO s (s :: t) = some t := by simp [skO]
def NoW (a : ByteArray) : Prop := ∀ j, j < 32 → wb j ≠ a
theorem NoW.num {a : ByteArray} (h : NoW a) (t : List ByteArray) : NoNum (a :: t) := fun x t' e j hj => by
 injection e with e1 _
 subst e1
 exact h j hj
def nxtB : List ByteArray := [bSize, bScroll, bLine, bCursor, bMore, bDone]
theorem noW_nxt : ∀ a ∈ nxtB, NoW a := by unfold NoW nxtB; decide +kernel
def Nxt (t : List ByteArray) : Prop := ∃ a u, t = a :: u ∧ a ∈ nxtB
theorem Nxt.num {t : List ByteArray} (h : Nxt t) : NoNum t := by
 obtain ⟨a, u, rfl, ha⟩ := h
 exact (noW_nxt a ha).num u
theorem glyphC_ok {g : Gl} (h : glyphC g = 0) : GF g ∧ 0 ≤ g.style ∧ g.style ≤ 3 := by
 unfold glyphC at h
 split at h
 ·cases h
 ·rename_i h3
  split at h
  ·cases h
  ·rename_i h4
   refine ⟨⟨Decidable.not_not.1 h3, Decidable.not_not.1 fun e => h4 (.inl e)⟩, ?_, ?_⟩
   ·rcases Int.lt_or_le g.style 0 with h | h
    ·exact absurd (.inr (.inl h)) h4
    ·exact h
   ·rcases Int.lt_or_le 3 g.style with h | h
    ·exact absurd (.inr (.inr (.inl h))) h4
    ·exact h
theorem chk_zero {c : Chg} (h : chkU c = 0) : (1 ≤ c.kind ∧ c.kind ≤ 4) ∧ rangesU c = true ∧ ¬ (c.kind = 3 ∧ 132 < c.glyphs.length) ∧ othersU c = true := by
 unfold chkU at h
 split at h
 ·cases h
 ·rename_i h1
  split at h
  ·cases h
  ·rename_i h2
   split at h
   ·cases h
   ·rename_i h3
    split at h
    ·cases h
    ·rename_i h4
     exact ⟨by omega, by simpa using h2, h3, by simpa using h4⟩
structure WdR (w : World) (B : Nat) (l : List ByteArray) (A : Option Addr) (n c : Nat) : Prop where
 len : l.length = n
 cap : n ≤ c
 max : c ≤ maxLen
 rd : Rd w B 1 A n (sv l)
 sz : ∀ s ∈ l, s.size ≤ 1000
theorem WdR.below {w w' : World} {B : Nat} {l : List ByteArray} {A : Option Addr} {n c : Nat} (h : WdR w B l A n c) (hb : Below B w w') : WdR w' B l A n c := ⟨h.len, h.cap, h.max, h.rd.below hb, h.sz⟩
theorem WdR.nil (w : World) (B : Nat) : WdR w B [] none 0 0 := ⟨rfl, Nat.le_refl _, Nat.zero_le _, Rd.none_, fun s hs => by cases hs⟩
theorem WdR.cut {w : World} {B : Nat} {l : List ByteArray} {A : Option Addr} {n c k : Nat} (h : WdR w B l A n c) (hk : k ≤ n) : WdR w B (l.drop k) (if c = k then A else A.map (·.add (k * 1))) (n - k) (c - k) := by
 have hr := h.rd.cut (k := k) hk h.cap
 rw [show (sv l).drop (k * 1) = sv (l.drop k) by simp [sv]] at hr
 have := h.len
 have := h.cap
 have := h.max
 exact ⟨by rw [List.length_drop]; omega, by omega, by omega, hr, fun s hs => h.sz s (List.mem_of_mem_drop hs)⟩
def optR (bad : Bool) (l : List ByteArray) : Option (List ByteArray) := if bad = true then none else some l
def RV (w : World) (B : Nat) (r : Option (List ByteArray)) (v : Value) : Prop := ∃ A n c l bad, v = .agg #[.slice A n c, .bool bad] ∧ WdR w B l A n c ∧ r = optR bad l
theorem RV.below {w w' : World} {B : Nat} {r : Option (List ByteArray)} {v : Value} (h : RV w B r v) (hb : Below B w w') : RV w' B r v := by
 obtain ⟨A, n, c, l, bad, h1, h2, h3⟩ := h
 exact ⟨A, n, c, l, bad, h1, h2.below hb, h3⟩
theorem RV.bad (w : World) (B : Nat) : RV w B none (.agg #[.slice none 0 0, .bool true]) := ⟨none, 0, 0, [], true, rfl, WdR.nil w B, rfl⟩
def nextB (r : Option (List ByteArray)) (s : ByteArray) : Bool := match r with
 | some l => hdIs s l
 | none => false
set_option maxHeartbeats 1000000 in
theorem unext_ (r : Option (List ByteArray)) (v : Value) (s : ByteArray) (B : Nat) (w : World) (h : RV w B r v) (hB : B ≤ w.heap.size) : Calls Tryz.prog 49 #[v, .string s] w (Gives (.bool (nextB r s)) w) := by
 obtain ⟨A, n, c, l, bad, rfl, hW, rfl⟩ := h
 cases bad with
 | true =>
  clear hW
  show Calls _ _ _ _ (Gives (.bool false) w)
  go_enter Tryz.func49, Tryz.ntmps49
  go_wp2
  go_ret
  exact ⟨rfl, (Below.refl _ _).alloc (Nat.le_refl _) _⟩
 | false =>
  show Calls _ _ _ _ (Gives (.bool (hdIs s l)) w)
  cases l with
  | nil =>
   obtain rfl : n = 0 := hW.len.symm
   clear hW
   show Calls _ _ _ _ (Gives (.bool false) w)
   go_enter Tryz.func49, Tryz.ntmps49
   go_wp2
   go_ret
   exact ⟨rfl, (Below.refl _ _).alloc (Nat.le_refl _) _⟩
  | cons a t =>
   have hn : 0 < n := by have := hW.len; simp at this; omega
   have hi : (0 : Int) < n := by omega
   obtain ⟨b, o, rfl, hb, hca⟩ := hW.rd.at_ hn
   have ha : w.cell? ⟨b, o, none⟩ = some (.string a) := hca
   have hbl : b < w.heap.size := by omega
   have q : (a.toList == s.toList) = hdIs s (a :: t) := str_beq a s
   generalize hdIs s (a :: t) = R at *
   clear hW hca
   go_enter Tryz.func49, Tryz.ntmps49
   go_wp2
   go_ret
   exact ⟨rfl, (Below.refl _ _).alloc (Nat.le_refl _) _⟩
def skipsR : Option (List ByteArray) → List ByteArray → Option (List ByteArray)
 | r, [] => r
 | r, s :: t => skipsR (r.bind (skO s)) t
theorem skipsR_none : ∀ ws : List ByteArray, skipsR none ws = none
 | [] => rfl
 | _ :: t => skipsR_none t
theorem nextB_no {r : Option (List ByteArray)} {s : ByteArray} (h : nextB r s = false) : r.bind (skO s) = none := by
 cases r with
 | none => rfl
 | some l =>
  cases l with
  | nil => rfl
  | cons a t =>
   have : a ≠ s := fun e => by rw [e] at h; simp [nextB, hdIs] at h
   show (if a = s then some t else none) = none
   rw [if_neg this]
theorem nextB_yes {bad : Bool} {l : List ByteArray} {s : ByteArray} (h : nextB (optR bad l) s = true) : bad = false ∧ ∃ t, l = s :: t ∧ (optR bad l).bind (skO s) = some t := by
 cases bad with
 | true => cases h
 | false =>
  cases l with
  | nil => cases h
  | cons a t =>
   have e : a = s := by simpa [nextB, optR, hdIs] using h
   subst e
   exact ⟨rfl, t, rfl, skO_yes _ _⟩
theorem info_rd : (Tryz.prog.info? 95).map (fun x => x.size) = some 2 := by kernel_rfl
theorem blk_set2 {w : World} {g : Nat} {t : TypeId} {a b a' b' : Value} (h : Blk w g t #[a, b]) : Blk ((w.setCell ⟨g, 0, none⟩ a').setCell ⟨g, 1, none⟩ b') g t #[a', b'] := by
 have := (h.set_ 0 a').set_ 1 b'
 simpa using this
def RX (w : World) (B : Nat) (bad : Bool) (l : List ByteArray) (wx : World) : Prop :=
 ∃ A n c, WdR w B l A n c ∧ Blk wx w.heap.size 95 #[.slice A n c, .bool bad] ∧ Blk wx (w.heap.size + 1) 95 #[.slice none 0 0, .bool false] ∧ Below w.heap.size w wx
theorem RX.below {w wx wy : World} {B : Nat} {bad : Bool} {l : List ByteArray} (h : RX w B bad l wx) (hb : Below wx.heap.size wx wy) : RX w B bad l wy := by
 obtain ⟨A, n, c, h1, h2, h3, h4⟩ := h
 have := h2.lt
 exact ⟨A, n, c, h1, h2.below hb h2.lt, h3.below hb h3.lt, h4.trans (hb.mono (by omega))⟩
theorem RX.turn {w w1 : World} {B : Nat} {bad : Bool} {l : List ByteArray} {A0 A : Option Addr} {n0 c0 n c : Nat} (C1 : Blk w1 w.heap.size 95 #[.slice A0 n0 c0, .bool bad]) (C2 : Blk w1 (w.heap.size + 1) 95 #[.slice none 0 0, .bool false]) (tx : Below w.heap.size w w1) (h : WdR w B l A n c) :
  RX w B bad l (w1.setCell ⟨w.heap.size, 0, none⟩ (.slice A n c)) := by
 refine ⟨A, n, c, h, ?_, C2.far (p := ⟨w.heap.size, 0, none⟩) (by show w.heap.size + 1 ≠ w.heap.size; omega) _, tx.setCell (Nat.le_refl _) _⟩
 have := C1.set_ 0 (.slice A n c)
 simpa using this
def RRet (w : World) (B : Nat) (r : Option (List ByteArray)) (F : Value → Value) (e : Ending) (w' : World) : Prop := ∃ v, e = .returned (F v) ∧ RV w B r v ∧ Below w.heap.size w w'
set_option maxHeartbeats 4000000 in
theorem uskip_ (r : Option (List ByteArray)) (v : Value) (ws : List ByteArray) (Aw : Option Addr) (nw cw : Nat) (B : Nat) (w : World) (h : RV w B r v) (hB : B ≤ w.heap.size) (hw : ws.length = nw) (hws : nw ≤ 1000) (rdw : Rd w w.heap.size 1 Aw nw (sv ws)) :
  Calls Tryz.prog 77 #[v, .slice Aw nw cw] w (RRet w B (skipsR r ws) id) := by
 obtain ⟨A, n, c, l, bad, rfl, hW, rfl⟩ := h
 obtain ⟨R, hR⟩ : ∃ x, x = skipsR (optR bad l) ws := ⟨_, rfl⟩
 rw [← hR]
 have hX : RX w B bad l ((w.alloc (.cells #[.slice A n c, .bool bad] 95)).alloc (.cells #[.slice none 0 0, .bool false] 95)) :=
  ⟨A, n, c, hW, Blk.alloc (Blk.new w _ _) _, Blk.new_ (by simp), ((Below.refl _ _).alloc (Nat.le_refl _) _).alloc (by simp) _⟩
 have H0 : Hid (R = skipsR (optR bad l) (ws.drop 0)) := Lib.hid hR
 have HRw := Lib.hid rdw
 have HNw := Lib.hid hw
 clear hR hW rdw hw
 go_enter Tryz.func77, Tryz.ntmps77
 go_upto_region 1 with fail
 refine wp_fg (RX w B bad l) hX ?_
 clear hX
 intro X hX
 go_wp2
 go_loopw [9] (fun x wr => ∃ (k : Nat) (l' : List ByteArray), k ≤ nw ∧ x = .int .i64 k ∧ RX w B bad l' wr ∧ Hid (R = skipsR (optR bad l') (ws.drop k))) (fun x _ => nw - (intOf x).toNat)
 case atStart => exact ⟨0, l, Nat.zero_le _, rfl, hX, H0⟩
 case round =>
  clear hX H0
  obtain ⟨k, l', hk, rfl, hX, HK⟩ := hrel
  obtain ⟨A', n', c', hW, B1, B2, tx⟩ := id hX
  have z1 := B2.lt
  have z0 := B1.lt
  have c0 := B1.cell 0
  have c1 := B1.cell 1
  have d0 := B2.cell 0
  have d1 := B2.cell 1
  have f0 := B1.frozen 0
  have f1 := B1.frozen 1
  have g0 := B2.frozen 0
  have g1 := B2.frozen 1
  simp only [List.getElem?_toArray, List.getElem?_cons_zero, List.getElem?_cons_succ] at c0 c1 d0 d1
  by_cases hlt : k < nw
  ·have hkl : k < ws.length := by have := HNw.out; omega
   obtain ⟨bw, ow, rfl, hbw, hcw⟩ := HRw.out.at_ hlt
   rw [sv_get _ _ hkl] at hcw
   replace hcw := (tx.cell (p := ⟨bw, ow + k, none⟩) hbw).trans hcw
   have HD : Hid (skipsR (optR bad l') (ws.drop k) = skipsR ((optR bad l').bind (skO ws[k])) (ws.drop (k + 1))) := Lib.hid (by rw [List.drop_eq_getElem_cons hkl]; rfl)
   have HNx := Lib.hid (unext_ (optR bad l') (.agg #[.slice A' n' c', .bool bad]) ws[k] B wr ⟨A', n', c', l', bad, rfl, hW.below (tx.mono hB), rfl⟩ (Nat.le_trans hB tx.size))
   generalize ws[k] = s at *
   cases hnx : nextB (optR bad l') s with
   | false =>
    have HR2 : Hid (R = none) := Lib.hid (by rw [HK.out, HD.out, nextB_no hnx, skipsR_none])
    rw [hnx] at HNx
    clear HK HD hnx hW
    go_wp2_with (go_at_call 49; refine HNx.out.mono ?_; rintro e w1 ⟨rfl, hb1⟩; clear c0 c1 d0 d1 f0 f1 g0 g1; have C2 := B2.below hb1 B2.lt; have d0 := C2.cell 0; have d1 := C2.cell 1; have g0 := C2.frozen 0; have g1 := C2.frozen 1; simp only [List.getElem?_toArray, List.getElem?_cons_zero, List.getElem?_cons_succ] at d0 d1)
    have Rr := blk_set2 (a' := .slice none 0 0) (b' := .bool true) C2
    exact bodyPost_ret (results_cell_row rfl _ _ (w.heap.size + 1) 95 _ (0, 0) _ rfl Rr Tryz.underlying95 rfl info_rd) rfl ⟨_, rfl, by rw [HR2.out]; exact RV.bad w B, ((tx.trans (hb1.mono (by omega))).setCell (by show w.heap.size ≤ w.heap.size + 1; omega) _).setCell (by show w.heap.size ≤ w.heap.size + 1; omega) _⟩
   | true =>
    obtain ⟨rfl, t, rfl, ht⟩ := nextB_yes hnx
    have HR2 : Hid (R = skipsR (optR false t) (ws.drop (k + 1))) := Lib.hid (by rw [HK.out, HD.out, ht]; rfl)
    rw [hnx] at HNx
    have hn1 : 1 ≤ n' := by have := hW.len; simp at this; omega
    have hcut := hW.cut hn1
    have hcap := hW.cap
    have hmax := hW.max
    have i1 : (1 : Int) ≤ n' := by omega
    have i2 : (1 : Int) ≤ c' := by omega
    have i3 : c' ≤ 9223372036854775807 := by unfold maxLen at hmax; omega
    clear HK HD hnx hW ht
    by_cases hc1 : c' = 1
    ·rw [if_pos hc1] at hcut
     subst hc1
     go_wp2_with (go_at_call 49; refine HNx.out.mono ?_; rintro e w1 ⟨rfl, hb1⟩; clear c0 c1 d0 d1 f0 f1 g0 g1; have C1 := B1.below hb1 B1.lt; have C2 := B2.below hb1 B2.lt; have c0 := C1.cell 0; have f0 := C1.frozen 0; simp only [List.getElem?_toArray, List.getElem?_cons_zero, List.getElem?_cons_succ] at c0)
     have hz : n' - 1 = 0 := by omega
     rw [hz] at hcut
     exact ⟨⟨k + 1, t, by omega, by go_num, RX.turn C1 C2 (tx.trans (hb1.mono (by omega))) hcut, HR2⟩, by simp [intOf]; omega⟩
    ·rw [if_neg hc1] at hcut
     go_wp2_with (go_at_call 49; refine HNx.out.mono ?_; rintro e w1 ⟨rfl, hb1⟩; clear c0 c1 d0 d1 f0 f1 g0 g1; have C1 := B1.below hb1 B1.lt; have C2 := B2.below hb1 B2.lt; have c0 := C1.cell 0; have f0 := C1.frozen 0; simp only [List.getElem?_toArray, List.getElem?_cons_zero, List.getElem?_cons_succ] at c0)
     exact ⟨⟨k + 1, t, by omega, by go_num, RX.turn C1 C2 (tx.trans (hb1.mono (by omega))) hcut, HR2⟩, by simp [intOf]; omega⟩
  ·have HR2 : Hid (R = optR bad l') := Lib.hid (by rw [HK.out, List.drop_of_length_le (by have := HNw.out; omega)]; rfl)
   clear HK HRw
   go_wp2
   have Rr := blk_set2 (a' := .slice A' n' c') (b' := .bool bad) B2
   exact bodyPost_ret (results_cell_row rfl _ _ (w.heap.size + 1) 95 _ (0, 0) _ rfl Rr Tryz.underlying95 rfl info_rd) rfl ⟨_, rfl, ⟨A', n', c', l', bad, rfl, hW, HR2.out⟩, (tx.setCell (by show w.heap.size ≤ w.heap.size + 1; omega) _).setCell (by show w.heap.size ≤ w.heap.size + 1; omega) _⟩
end Go.Proofs.YtholajadbbdcmaaGreatDoor
