/- Joined texts: Up3, Um1, Um2, Ul0, Ul1. -/
import Derived.Test.YtholajadbbdcmaaGreatDoorQAA
import Derived.Test.YtholajadbbdcmaaGreatDoorQAB
import Derived.Test.YtholajadbbdcmaaGreatDoorQAC
import Derived.Test.YtholajadbbdcmaaGreatDoorQAD
import Derived.Test.YtholajadbbdcmaaGreatDoorQAE
import Derived.Test.YtholajadbbdcmaaGreatDoorQAF
import Derived.Test.YtholajadbbdcmaaGreatDoorQAG
import Derived.Test.YtholajadbbdcmaaGreatDoorQAH
import Derived.Test.YtholajadbbdcmaaGreatDoorQAI
import Derived.Test.YtholajadbbdcmaaGreatDoorQAM
import Derived.Test.YtholajadbbdcmaaGreatDoorQAN
import Derived.Test.YtholajadbbdcmaaGreatDoorQAP
import Derived.Test.YtholajadbbdcmaaGreatDoorQAQ
import Derived.Test.YtholajadbbdcmaaGreatDoorQAS
import Derived.Test.YtholajadbbdcmaaGreatDoorQAT
import Derived.Test.YtholajadbbdcmaaGreatDoorQAU
import Derived.Test.YtholajadbbdcmaaGreatDoorQAY
import Derived.Test.YtholajadbbdcmaaGreatDoorQBA
import Derived.Test.YtholajadbbdcmaaGreatDoorQBB
import Derived.Test.YtholajadbbdcmaaGreatDoorQBC
import Derived.Test.YtholajadbbdcmaaGreatDoorQBD
import Derived.Test.YtholajadbbdcmaaGreatDoorQBF
import Derived.Test.YtholajadbbdcmaaGreatDoorQBG
import Derived.Test.YtholajadbbdcmaaGreatDoorQBM
import Derived.Test.YtholajadbbdcmaaGreatDoorQBN
set_option linter.unusedVariables false
set_option linter.unusedSimpArgs false
set_option linter.unnecessarySimpa false
namespace Go.Proofs.YtholajadbbdcmaaGreatDoor
open Go.RowKit
set_option maxRecDepth 20000
theorem encS_size (l : List Nat) : (encS l).size ≤ 4 * l.length := by
 unfold encS
 show (List.toArray _).size ≤ _
 rw [List.size_toArray, List.length_map]
 exact encL_len l
theorem gw_of {g : Gl} (h : glyphC g = 0) : GW g ∧ g.text.size ≤ 16 := by
 obtain ⟨h1, h2, h3⟩ := glyphC_ok h
 obtain ⟨r, t, _, _, _, _, _, ht, he, _⟩ := h1.form
 have := encS_size (r :: t)
 rw [← he] at this
 simp only [List.length_cons] at this
 exact ⟨⟨⟨h1.1, by omega⟩, h2, h3⟩, by omega⟩
theorem chk_gl {c : Chg} (h : chkU c = 0) : c.glyphs.length ≤ 132 ∧ (∀ g ∈ c.glyphs, glyphC g = 0) ∧ (1 ≤ c.kind ∧ c.kind ≤ 4) ∧ rangesU c = true := by
 obtain ⟨h1, h2, h3, h4⟩ := chk_zero h
 refine ⟨?_, ?_, h1, h2⟩
 ·by_cases hk : c.kind = 3
  ·by_cases hl : 132 < c.glyphs.length
   ·exact absurd ⟨hk, hl⟩ h3
   ·omega
  ·unfold othersU at h4
   have : c.glyphs = [] := by
    split at h4
    ·exact (of_decide_eq_true h4).2.2
    ·split at h4
     ·exact (of_decide_eq_true h4).2
     ·exact (of_decide_eq_true h4).2
   rw [this]
   simp
 ·by_cases hk : c.kind = 3
  ·unfold othersU at h4
   rw [if_neg (by omega), if_neg (by omega), if_pos hk] at h4
   simp only [Bool.and_eq_true, List.all_eq_true, decide_eq_true_eq] at h4
   exact h4.2
  ·have : c.glyphs = [] := by
    unfold othersU at h4
    split at h4
    ·exact (of_decide_eq_true h4).2.2
    ·split at h4
     ·exact (of_decide_eq_true h4).2
     ·exact (of_decide_eq_true h4).2
   rw [this]
   exact fun g hg => by cases hg
def wErr (l : List ChgM) (m r q k : Int) : Int := if setE r q k ≠ 0 ∨ m < 0 then 1 else if 999999999 < m then 5 else chkAll l
def UwR (l : List ChgM) (m r q k : Int) (S : Setts) (w : World) (e : Ending) (w' : World) : Prop :=
 if wErr l m r q k = 0 then GivesOwn 9 1 okPair w (wordsU (chgs l) m S).length (sv (wordsU (chgs l) m S)) e w' else e = .returned (.tuple #[.slice none 0 0, .int .i64 (wErr l m r q k)]) ∧ Below w.heap.size w w'
theorem UwR.ok {l : List ChgM} {m r q k : Int} {S : Setts} {w w' : World} {e : Ending} (h : wErr l m r q k = 0) (he : GivesOwn 9 1 okPair w (wordsU (chgs l) m S).length (sv (wordsU (chgs l) m S)) e w') : UwR l m r q k S w e w' := by
 unfold UwR
 rw [if_pos h]
 exact he
def greatR (l : List Gl) : Bool := decide (140 < l.length) || l.any fun g => decide (40 < g.text.size)
def shortW (m z : Nat) (l : List ByteArray) : Bool := decide (l.length ≤ m) && l.all fun s => decide (s.size ≤ z)
theorem any_drop {α : Type} {l : List α} {k : Nat} (p : α → Bool) (h : k < l.length) : (l.drop k).any p = (p l[k] || (l.drop (k + 1)).any p) := by
 rw [List.drop_eq_getElem_cons h, List.any_cons]
theorem all_drop {α : Type} {l : List α} {k : Nat} (p : α → Bool) (h : k < l.length) : (l.drop k).all p = (p l[k] && (l.drop (k + 1)).all p) := by
 rw [List.drop_eq_getElem_cons h, List.all_cons]
set_option maxHeartbeats 1000000 in
theorem greatrow_ (l : List Gl) (A : Option Addr) (n c B : Nat) (w : World) (hm : n ≤ maxLen) (rd : Rd w B 3 A n (encGs l)) :
  Calls Tryz.prog 28 #[.slice A n c] w fun e w' => e = .returned (.bool (greatR l)) ∧ w' = w := by
 have HN := Lib.hid (gl_len rd)
 have hmm : n ≤ 9223372036854775807 := by unfold maxLen at hm; omega
 unfold greatR
 rw [HN.out]
 clear hm
 by_cases h0 : 140 < n
 ·rw [decide_eq_true h0, Bool.true_or]
  have hi : (140 : Int) < (n : Int) := by omega
  go_enter Tryz.func28, Tryz.ntmps28
  go_wp2
  go_ret
  exact ⟨rfl, rfl⟩
 ·rw [decide_eq_false h0, Bool.false_or]
  have hi : (n : Int) ≤ 140 := by omega
  have H0 : Hid ((l.any fun g => decide (40 < g.text.size)) = ((l.drop 0).any fun g => decide (40 < g.text.size))) := Lib.hid rfl
  generalize (l.any fun g => decide (40 < g.text.size)) = R at *
  clear h0
  go_enter Tryz.func28, Tryz.ntmps28
  go_wp2
  go_loop [3] (fun x => ∃ k : Nat, k ≤ n ∧ x = .int .i64 k ∧ Hid (R = ((l.drop k).any fun g => decide (40 < g.text.size)))) (fun x => n - (intOf x).toNat)
  case atStart => exact ⟨0, Nat.zero_le _, rfl, H0⟩
  case round =>
   obtain ⟨k, hk, rfl, HK⟩ := hrel
   by_cases hlt : k < n
   ·have hkl : k < l.length := by have := HN.out; omega
    obtain ⟨b, o, rfl, _, g0, -, -⟩ := rd_gl rd hkl HN.out
    have HD := Lib.hid (any_drop (fun g : Gl => decide (40 < g.text.size)) hkl)
    generalize l[k] = g at *
    obtain ⟨t, wd, st⟩ := g
    dsimp only at *
    by_cases hz : 40 < t.size
    ·have HR2 : Hid (R = true) := Lib.hid (by rw [HK.out, HD.out, decide_eq_true hz]; rfl)
     have hzi : (40 : Int) < (t.size : Int) := by omega
     clear HK HD hz
     go_wp2
     go_ret
     exact ⟨by rw [HR2.out]; rfl, rfl⟩
    ·have HR2 : Hid (R = ((l.drop (k + 1)).any fun g => decide (40 < g.text.size))) := Lib.hid (by rw [HK.out, HD.out, decide_eq_false hz]; rfl)
     have hzi : (t.size : Int) ≤ 40 := by omega
     clear HK HD hz
     go_wp2
     exact ⟨⟨k + 1, by omega, by go_num, HR2⟩, by simp [intOf]; omega⟩
   ·have HR2 : Hid (R = false) := Lib.hid (by rw [HK.out, List.drop_of_length_le (by have := HN.out; omega)]; rfl)
    go_wp2
    go_ret
    exact ⟨by rw [HR2.out]; rfl, rfl⟩
theorem short_some {m z : Nat} {l : List ByteArray} (h : shortW m z l = true) : l.length ≤ m ∧ ∀ s ∈ l, s.size ≤ z := by
 unfold shortW at h
 simp only [Bool.and_eq_true, List.all_eq_true, decide_eq_true_eq] at h
 exact h
theorem chg_ext {a b : Chg} (h1 : a.kind = b.kind) (h2 : a.row = b.row) (h3 : a.col = b.col) (h4 : a.count = b.count) (h5 : a.til = b.til) (h6 : a.glyphs = b.glyphs) : a = b := by
 cases a; cases b
 simp only at h1 h2 h3 h4 h5 h6
 subst h1 h2 h3 h4 h5 h6
 rfl
instance : DecidableEq Chg := fun a b => if h : a.kind = b.kind ∧ a.row = b.row ∧ a.col = b.col ∧ a.count = b.count ∧ a.til = b.til ∧ a.glyphs = b.glyphs then isTrue (chg_ext h.1 h.2.1 h.2.2.1 h.2.2.2.1 h.2.2.2.2.1 h.2.2.2.2.2) else isFalse fun e => h (by subst e; exact ⟨rfl, rfl, rfl, rfl, rfl, rfl⟩)
def eCh : Chg := ⟨3, 4, 0, 0, 0, [⟨⟨#[111]⟩, false, 0⟩, ⟨⟨#[107]⟩, false, 0⟩]⟩
theorem WdR.own {w : World} {base n c : Nat} {A : Option Addr} {l : List ByteArray} (h : w.ownsRow base 9 1 (.slice A n c) n (sv l)) (hs : ∀ s ∈ l, s.size ≤ 1000) : WdR w w.heap.size l A n c := by
 have hl : l.length = n := by have := (Rd.of_own h).1; rw [sv_len] at this; omega
 exact ⟨hl, (own_caps h).1, (own_caps h).2, Rd.of_own h, hs⟩
theorem WdR.more {w : World} {B B' : Nat} {l : List ByteArray} {A : Option Addr} {n c : Nat} (h : WdR w B l A n c) (hb : B ≤ B') : WdR w B' l A n c := ⟨h.len, h.cap, h.max, h.rd.more hb, h.sz⟩
def ExI (w X : World) : Prop := RdC X X.heap.size (some ⟨w.heap.size + 1, 0, none⟩) 1 [⟨eCh, some ⟨w.heap.size, 0, none⟩, 2⟩] ∧ Below w.heap.size w X
theorem ExI.on {w X Y : World} (h : ExI w X) (hb : Below X.heap.size X Y) : ExI w Y := ⟨(h.1.below hb).more hb.size, h.2.trans (hb.mono h.2.size)⟩
theorem ExI.new (w : World) : ExI w ((w.alloc (.cells (encGs eCh.glyphs).toArray 89)).alloc (.cells (encC ⟨eCh, some ⟨w.heap.size, 0, none⟩, 2⟩).toArray 72)) := by
 have hr : Rd (w.alloc (.cells (encGs eCh.glyphs).toArray 89)) (w.heap.size + 1) 3 (some ⟨w.heap.size, 0, none⟩) 2 (encGs eCh.glyphs) := rd_built rfl rfl
 have hb2 : Below (w.heap.size + 1) (w.alloc (.cells (encGs eCh.glyphs).toArray 89)) ((w.alloc (.cells (encGs eCh.glyphs).toArray 89)).alloc (.cells (encC ⟨eCh, some ⟨w.heap.size, 0, none⟩, 2⟩).toArray 72)) := (Below.refl _ _).alloc (by simp) _
 refine ⟨⟨?_, fun x hx => ?_⟩, ((Below.refl _ _).alloc (Nat.le_refl _) _).alloc (by simp) _⟩
 ·exact Rd.more (B := w.heap.size + 1 + 1) (rd_built (xs := encC ⟨eCh, some ⟨w.heap.size, 0, none⟩, 2⟩) (by simp) rfl) (by simp)
 ·rw [List.mem_singleton] at hx
  subst hx
  exact ⟨(hr.below hb2).more (by simp), (by show 2 ≤ 2; decide), (by show 2 ≤ maxLen; decide)⟩
def SzW (l : List ByteArray) : Prop := ∀ s ∈ l, s.size ≤ 1000
theorem SzW.nil : SzW [] := fun s hs => by cases hs
theorem SzW.cons {a : ByteArray} {l : List ByteArray} (h : a.size ≤ 1000) (hl : SzW l) : SzW (a :: l) := fun s hs => by
 rcases List.mem_cons.1 hs with rfl | hs
 ·exact h
 ·exact hl s hs
theorem SzW.app {a b : List ByteArray} (h : SzW a) (hl : SzW b) : SzW (a ++ b) := fun s hs => by
 rcases List.mem_append.1 hs with hs | hs
 ·exact h s hs
 ·exact hl s hs
theorem bothG {P : Program} {f : FuncId} {args : Array Value} {w X : World} {v : Value} (h : Calls P f args X (Gives v X)) (hb : Below w.heap.size w X) : Calls P f args X fun e X' => e = .returned v ∧ Below w.heap.size w X' ∧ Below X.heap.size X X' :=
 h.mono fun _ _ ⟨h1, h2⟩ => ⟨h1, hb.trans (h2.mono hb.size), h2⟩
theorem bothS {P : Program} {f : FuncId} {args : Array Value} {w X : World} {v : Value} (h : Calls P f args X fun e X' => e = .returned v ∧ X' = X) (hb : Below w.heap.size w X) : Calls P f args X fun e X' => e = .returned v ∧ Below w.heap.size w X' ∧ Below X.heap.size X X' :=
 h.mono fun _ _ ⟨h1, h2⟩ => by subst h2; exact ⟨h1, hb, Below.refl _ _⟩
end Go.Proofs.YtholajadbbdcmaaGreatDoor
