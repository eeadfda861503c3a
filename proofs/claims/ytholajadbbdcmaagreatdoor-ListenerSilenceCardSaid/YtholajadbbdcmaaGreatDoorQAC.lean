/- Joined texts: Ut2, Wd1, Lib, Sig1, Sig2. -/
import Derived.Lib.ValidLaws
import Derived.Shelf.Strings.Builder1
import Derived.Shelf.Strings.Builder2
import Derived.Shelf.Small.Utf8
import Derived.Shelf.Small.Strs
import Derived.Shelf.Strings.Search1
import Derived.Shelf.Strings.Fields
import Derived.Shelf.Unicode.Latin
import Derived.Shelf.Unicode.DecodeSlow
import Derived.Shelf.Unicode.Is16White
import Derived.Shelf.Unicode.IsSpaceAny
import Derived.Shelf.Unicode.CaseLookup
import Derived.Shelf.Unicode.CaseConvert
import Derived.Shelf.Unicode.CaseTo
import Derived.Shelf.Unicode.CaseLaid
import Derived.Shelf.Unicode.Is16Any
import Derived.Shelf.Unicode.Is32Any
import Derived.Test.YtholajadbbdcmaaGreatDoorProg
import Derived.Laws.CopyOwn
import Derived.Laws.Tables
import Derived.Laws.ResultCell
import Derived.Lib.LaidTab
import Derived.Deep.WholeRow
import Derived.Test.YtholajadbbdcmaaGreatDoorQAA
import Derived.Test.YtholajadbbdcmaaGreatDoorQAB
set_option linter.unusedVariables false
set_option linter.unusedSimpArgs false
set_option linter.unnecessarySimpa false
namespace Go.Proofs.YtholajadbbdcmaaGreatDoor
theorem decN_enc {n b0 b1 b2 b3 r k : Nat} (h0 : b0 < 256) (h1 : b1 < 256) (h2 : b2 < 256) (h3 : b3 < 256) (hn : 1 ≤ n) (hd : Lib.decodeN n b0 b1 b2 b3 = (r, k)) (hv : ¬ (r = 65533 ∧ k = 1)) :
  isChN r ∧ 0 < k ∧ k ≤ n ∧ k ≤ 4 ∧ encN r = [b0, b1, b2, b3].take k := by
 unfold Lib.decodeN at hd
 unfold isChN
 split at hd
 ·simp only [Prod.mk.injEq] at hd
  obtain ⟨rfl, rfl⟩ := hd
  refine ⟨by omega, by omega, by omega, by omega, ?_⟩
  rw [encN, if_pos (by omega)]
  rfl
 ·split at hd
  ·split at hd
   ·simp only [Prod.mk.injEq] at hd
    obtain ⟨rfl, rfl⟩ := hd
    refine ⟨by omega, by omega, by omega, by omega, ?_⟩
    rw [encN, if_neg (by omega), if_pos (by omega)]
    simp only [List.take_succ_cons, List.take_zero, List.cons.injEq, and_true]
    omega
   ·simp only [Prod.mk.injEq] at hd
    exact absurd ⟨hd.1.symm, hd.2.symm⟩ hv
  ·split at hd
   ·split at hd
    ·simp only [Prod.mk.injEq] at hd
     obtain ⟨rfl, rfl⟩ := hd
     refine ⟨by omega, by omega, by omega, by omega, ?_⟩
     rw [encN, if_neg (by omega), if_neg (by omega), if_pos (by omega)]
     simp only [List.take_succ_cons, List.take_zero, List.cons.injEq, and_true]
     omega
    ·simp only [Prod.mk.injEq] at hd
     exact absurd ⟨hd.1.symm, hd.2.symm⟩ hv
   ·split at hd
    ·split at hd
     ·simp only [Prod.mk.injEq] at hd
      obtain ⟨rfl, rfl⟩ := hd
      refine ⟨by omega, by omega, by omega, by omega, ?_⟩
      rw [encN, if_neg (by omega), if_neg (by omega), if_neg (by omega)]
      simp only [List.take_succ_cons, List.take_zero, List.cons.injEq, and_true]
      omega
     ·simp only [Prod.mk.injEq] at hd
      exact absurd ⟨hd.1.symm, hd.2.symm⟩ hv
    ·simp only [Prod.mk.injEq] at hd
     exact absurd ⟨hd.1.symm, hd.2.symm⟩ hv
def bytN (s : ByteArray) : List Nat := s.data.toList.map UInt8.toNat
theorem bytN_len (s : ByteArray) : (bytN s).length = s.size := by simp [bytN]
theorem bytN_get (s : ByteArray) (i : Nat) (h : i < s.size) : (bytN s)[i]'(by rw [bytN_len]; exact h) = (s.get! i).toNat := by
 simp only [bytN, List.getElem_map]
 congr 1
 exact (getElem!_pos s.data i h).symm
theorem dec_enc (s : ByteArray) (i : Nat) (hi : i < s.size) (hv : ¬ ((Utf8.decode s i).1 = 65533 ∧ (Utf8.decode s i).2 = 1)) :
  isChN (Utf8.decode s i).1 ∧ 0 < (Utf8.decode s i).2 ∧ i + (Utf8.decode s i).2 ≤ s.size ∧ encN (Utf8.decode s i).1 = ((bytN s).drop i).take (Utf8.decode s i).2 := by
 rw [Lib.decode_at] at hv ⊢
 generalize hD : Lib.decodeN (s.size - i) (s.get! i).toNat (s.get! (i + 1)).toNat (s.get! (i + 2)).toNat (s.get! (i + 3)).toNat = p at *
 obtain ⟨r, k⟩ := p
 obtain ⟨a, b, c, d, e⟩ := decN_enc (UInt8.toNat_lt _) (UInt8.toNat_lt _) (UInt8.toNat_lt _) (UInt8.toNat_lt _) (show 1 ≤ s.size - i by omega) hD hv
 simp only
 refine ⟨a, b, by omega, ?_⟩
 rw [e]
 apply List.ext_getElem
 ·simp [bytN_len]; omega
 ·intro j h1 h2
  have hj : j < k := by simp at h1; omega
  rw [List.getElem_take, List.getElem_take, List.getElem_drop, bytN_get s (i + j) (by omega)]
  have hc : j = 0 ∨ j = 1 ∨ j = 2 ∨ j = 3 := by omega
  rcases hc with rfl | rfl | rfl | rfl <;> rfl
def runesN (s : ByteArray) : Nat → Nat → List Nat
 | 0, _ => []
 | f + 1, i => if i < s.size then (Utf8.decode s i).1 :: runesN s f (i + (Utf8.decode s i).2) else []
def validN (s : ByteArray) : Nat → Nat → Prop
 | 0, _ => True
 | f + 1, i => if i < s.size then ¬ ((Utf8.decode s i).1 = 65533 ∧ (Utf8.decode s i).2 = 1) ∧ validN s f (i + (Utf8.decode s i).2) else True
theorem runesN_enc (s : ByteArray) : ∀ (f i : Nat), s.size ≤ i + f → validN s f i → encL_ (runesN s f i) = (bytN s).drop i ∧ ∀ r ∈ runesN s f i, isChN r
 | 0, i, hf, _ => ⟨by rw [List.drop_of_length_le (by rw [bytN_len]; omega)]; rfl, fun r h => by cases h⟩
 | f + 1, i, hf, hv => by
  rw [runesN]
  by_cases hi : i < s.size
  ·rw [validN, if_pos hi] at hv
   obtain ⟨a, b, c, d⟩ := dec_enc s i hi hv.1
   obtain ⟨e1, e2⟩ := runesN_enc s f (i + (Utf8.decode s i).2) (by omega) hv.2
   rw [if_pos hi]
   refine ⟨?_, fun r h => ?_⟩
   ·have e : ∀ x t, encL_ (x :: t) = encN x ++ encL_ t := fun x t => by simp [encL_]
    rw [e, e1, d, ← List.drop_drop, List.take_append_drop]
   ·rcases List.mem_cons.1 h with rfl | h
    ·exact a
    ·exact e2 r h
  ·rw [if_neg hi]
   exact ⟨by rw [List.drop_of_length_le (by rw [bytN_len]; omega)]; rfl, fun r h => by cases h⟩
theorem chars_runes (s : ByteArray) (hv : validN s s.size 0) : charsL (bytN s) = runesN s s.size 0 := by
 obtain ⟨h1, h2⟩ := runesN_enc s s.size 0 (by omega) hv
 rw [List.drop_zero] at h1
 rw [← h1]
 exact charsL_enc h2
structure Gl where
 text : ByteArray
 wide : Bool
 style : Int
instance : Inhabited Gl := ⟨⟨⟨#[]⟩, false, 0⟩⟩
theorem Gl.ext_iff' {a b : Gl} : a = b ↔ (a.text.data.toList = b.text.data.toList ∧ a.wide = b.wide ∧ a.style = b.style) := by
 constructor
 ·rintro rfl; simp
 ·rintro ⟨h1, h2, h3⟩
  obtain ⟨⟨⟨x⟩⟩, _, _⟩ := a
  obtain ⟨⟨⟨y⟩⟩, _, _⟩ := b
  simp only at h1 h2 h3
  subst h1 h2 h3
  rfl
instance : DecidableEq Gl := fun _ _ => decidable_of_iff _ Gl.ext_iff'.symm
def kindB (c : Nat) : Nat := if 97 ≤ c ∧ c ≤ 122 then 1 else if 65 ≤ c ∧ c ≤ 90 then 2 else if 48 ≤ c ∧ c ≤ 57 then 3 else 0
def kindL (g : Gl) : Nat := match g.text.data.toList with
 | [c] => kindB c.toNat
 | _ => 0
def runK : List Gl → Nat → Int → Nat
 | [], _, _ => 0
 | g :: t, k, st => if kindL g = k ∧ g.style = st then runK t k st + 1 else 0
def runE : List Gl → Gl → Nat → Nat
 | _, _, 0 => 0
 | [], _, _ + 1 => 0
 | x :: t, g, m + 1 => if x = g then runE t g m + 1 else 0
def pieceL (l : List Gl) (rep : Int) : Nat := match l with
 | [] => 0
 | g :: t =>
  if kindL g = 1 ∨ kindL g = 3 then runK (g :: t) (kindL g) g.style
  else if kindL g = 2 then (if 1 < runK (g :: t) 2 g.style then runK (g :: t) 2 g.style else 1 + runK t 1 g.style)
  else if 0 < rep ∧ rep ≤ (1 + runE t g 131 : Nat) ∧ (charsL (bytN g.text)).length = 1 then 1 + runE t g 131 else 1
theorem runK_le : ∀ (l : List Gl) (k : Nat) (st : Int), runK l k st ≤ l.length
 | [], _, _ => Nat.le_refl _
 | g :: t, k, st => by
  have := runK_le t k st
  rw [runK]
  split
  ·simp; omega
  ·simp
theorem runE_le : ∀ (l : List Gl) (g : Gl) (m : Nat), runE l g m ≤ l.length ∧ runE l g m ≤ m
 | l, _, 0 => by cases l <;> simp [runE]
 | [], _, _ + 1 => by simp [runE]
 | x :: t, g, m + 1 => by
  have := runE_le t g m
  rw [runE]
  split
  ·simp; omega
  ·simp
theorem pieceL_pos {g : Gl} {t : List Gl} (rep : Int) : 0 < pieceL (g :: t) rep ∧ pieceL (g :: t) rep ≤ t.length + 1 := by
 have h1 := runK_le (g :: t) (kindL g) g.style
 have h2 := runK_le (g :: t) 2 g.style
 have h3 := runK_le t 1 g.style
 have h4 := runE_le t g 131
 have h5 : runK (g :: t) (kindL g) g.style = runK t (kindL g) g.style + 1 := by rw [runK, if_pos ⟨rfl, rfl⟩]
 simp only [List.length_cons] at h1 h2
 unfold pieceL
 simp only
 split
 ·omega
 ·split
  ·split <;> omega
  ·split <;> omega
end Go.Proofs.YtholajadbbdcmaaGreatDoor
namespace Go.Proofs
open Go.Shelf
def Tryz.lays137_ren : Go.Shelf.Ren := ⟨fun | 137 => 224 | 217 => 228 | 266 => 229 | n => n, fun | 9 => 9 | 5 => 5 | 3 => 3 | n => n, fun | n => n⟩
theorem Tryz.lays137 : Go.Proofs.Lays.n137 Tryz.prog Tryz.lays137_ren := {
 mixed := by kernel_rfl
 f137 := Tryz.func224.trans (congrArg some (by kernel_rfl))
 f217 := Tryz.func228.trans (congrArg some (by kernel_rfl))
 f266 := Tryz.func229.trans (congrArg some (by kernel_rfl))
 t3 := Tryz.underlying3
 a3 := Tryz.isAgg3
 z3 := Tryz.sizeOf3
 v3 := Tryz.zeroValue3
 t5 := Tryz.underlying5
 a5 := Tryz.isAgg5
 z5 := Tryz.sizeOf5
 v5 := Tryz.zeroValue5
 t9 := Tryz.underlying9
 a9 := Tryz.isAgg9
 z9 := Tryz.sizeOf9
 v9 := Tryz.zeroValue9 }
def Tryz.lays157_ren : Go.Shelf.Ren := ⟨fun | 157 => 29 | 229 => 46 | 199 => 47 | 261 => 73 | 311 => 104 | 312 => 105 | n => n, fun | 9 => 9 | 31 => 27 | 3 => 3 | 5 => 5 | 4 => 4 | 119 => 90 | 0 => 0 | 40 => 92 | 152 => 123 | 21 => 21 | 154 => 125 | 51 => 126 | 141 => 128 | 196 => 151 | 193 => 148 | 198 => 153 | 49 => 37 | 194 => 149 | 201 => 156 | 226 => 177 | 46 => 178 | 227 => 179 | n => n, fun | 0 => 0 | 6 => 1 | n => n⟩
theorem Tryz.lays157 : Go.Proofs.Lays.n157 Tryz.prog Tryz.lays157_ren := {
 mixed := by kernel_rfl
 f157 := Tryz.func29.trans (congrArg some (by kernel_rfl))
 f199 := Tryz.func47.trans (congrArg some (by kernel_rfl))
 f229 := Tryz.func46.trans (congrArg some (by kernel_rfl))
 f261 := Tryz.func73.trans (congrArg some (by kernel_rfl))
 f311 := Tryz.func104.trans (congrArg some (by kernel_rfl))
 f312 := Tryz.func105.trans (congrArg some (by kernel_rfl))
 t0 := Tryz.underlying0
 a0 := Tryz.isAgg0
 z0 := Tryz.sizeOf0
 v0 := Tryz.zeroValue0
 t3 := Tryz.underlying3
 a3 := Tryz.isAgg3
 z3 := Tryz.sizeOf3
 v3 := Tryz.zeroValue3
 t4 := Tryz.underlying4
 a4 := Tryz.isAgg4
 z4 := Tryz.sizeOf4
 v4 := Tryz.zeroValue4
 t5 := Tryz.underlying5
 a5 := Tryz.isAgg5
 z5 := Tryz.sizeOf5
 v5 := Tryz.zeroValue5
 t9 := Tryz.underlying9
 a9 := Tryz.isAgg9
 z9 := Tryz.sizeOf9
 v9 := Tryz.zeroValue9
 t21 := Tryz.underlying21
 a21 := Tryz.isAgg21
 z21 := Tryz.sizeOf21
 v21 := Tryz.zeroValue21
 t31 := Tryz.underlying27
 a31 := Tryz.isAgg27
 z31 := Tryz.sizeOf27
 v31 := Tryz.zeroValue27
 t40 := Tryz.underlying92
 a40 := Tryz.isAgg92
 z40 := Tryz.sizeOf92
 v40 := Tryz.zeroValue92
 t46 := Tryz.underlying178
 a46 := Tryz.isAgg178
 z46 := Tryz.sizeOf178
 v46 := Tryz.zeroValue178
 t49 := Tryz.underlying37
 a49 := Tryz.isAgg37
 z49 := Tryz.sizeOf37
 v49 := Tryz.zeroValue37
 t51 := Tryz.underlying126
 a51 := Tryz.isAgg126
 z51 := Tryz.sizeOf126
 v51 := Tryz.zeroValue126
 t119 := Tryz.underlying90
 a119 := Tryz.isAgg90
 z119 := Tryz.sizeOf90
 t141 := Tryz.underlying128
 a141 := Tryz.isAgg128
 z141 := Tryz.sizeOf128
 v141 := Tryz.zeroValue128
 t152 := Tryz.underlying123
 a152 := Tryz.isAgg123
 z152 := Tryz.sizeOf123
 v152 := Tryz.zeroValue123
 t154 := Tryz.underlying125
 a154 := Tryz.isAgg125
 z154 := Tryz.sizeOf125
 v154 := Tryz.zeroValue125
 t193 := Tryz.underlying148
 a193 := Tryz.isAgg148
 z193 := Tryz.sizeOf148
 v193 := Tryz.zeroValue148
 t194 := Tryz.underlying149
 a194 := Tryz.isAgg149
 z194 := Tryz.sizeOf149
 v194 := Tryz.zeroValue149
 t196 := Tryz.underlying151
 a196 := Tryz.isAgg151
 z196 := Tryz.sizeOf151
 v196 := Tryz.zeroValue151
 t198 := Tryz.underlying153
 a198 := Tryz.isAgg153
 z198 := Tryz.sizeOf153
 v198 := Tryz.zeroValue153
 t201 := Tryz.underlying156
 a201 := Tryz.isAgg156
 z201 := Tryz.sizeOf156
 v201 := Tryz.zeroValue156
 t226 := Tryz.underlying177
 a226 := Tryz.isAgg177
 z226 := Tryz.sizeOf177
 v226 := Tryz.zeroValue177
 t227 := Tryz.underlying179
 a227 := Tryz.isAgg179
 z227 := Tryz.sizeOf179
 v227 := Tryz.zeroValue179
 g0 := by kernel_rfl
 g6 := by kernel_rfl }
open Go.RowKit in
theorem Tryz.strings_IndexByte (s : ByteArray) (c : Int) (w : World) :
  Calls Tryz.prog 224 #[.string s, .int .u8 c] w fun e w' => e = .returned (.int .i64 (Lib.indexByte s.data.toList c.toNat.toUInt8)) ∧ w' = w := Any.strings_IndexByte Tryz.lays137 s c w
open Go.RowKit Go.Lib in
theorem Tryz.strings_Fields (s : ByteArray) (w : World) (hs : s.size < 4294967281) (hascii : ∀ (j : Nat) b, s.data.toList[j]? = some b → b.toNat < 128) (htab : Lib.TabIs Tryz.prog w "strings.asciiSpace" .u8 Lib.asciiSpaceTab) :
  Calls Tryz.prog 29 #[.string s] w fun e w' =>
   e = .returned (.slice (some ⟨w.heap.size, 0, none⟩) (Lib.fields s.data.toList).length (Lib.fields s.data.toList).length) ∧ w' = w.alloc (.cells ((Lib.fields s.data.toList).map fun l => Value.string ⟨l.toArray⟩).toArray 9) := Any.strings_Fields Tryz.lays157 (by kernel_rfl) (by kernel_rfl) s w hs hascii htab
end Go.Proofs
namespace Go.Proofs.YtholajadbbdcmaaGreatDoor
open Go.RowKit
def nb : Nat → ByteArray
 | 0 => ⟨#[98, 97, 110, 103]⟩
 | 1 => ⟨#[113, 117, 111, 116, 101]⟩
 | 2 => ⟨#[104, 97, 115, 104]⟩
 | 3 => ⟨#[100, 111, 108, 108, 97, 114]⟩
 | 4 => ⟨#[112, 101, 114, 99, 101, 110, 116]⟩
 | 5 => ⟨#[97, 109, 112, 101, 114, 115, 97, 110, 100]⟩
 | 6 => ⟨#[97, 112, 111, 115, 116, 114, 111, 112, 104, 101]⟩
 | 7 => ⟨#[111, 112, 101, 110]⟩
 | 8 => ⟨#[99, 108, 111, 115, 101]⟩
 | 9 => ⟨#[115, 116, 97, 114]⟩
 | 10 => ⟨#[112, 108, 117, 115]⟩
 | 11 => ⟨#[99, 111, 109, 109, 97]⟩
 | 12 => ⟨#[100, 97, 115, 104]⟩
 | 13 => ⟨#[100, 111, 116]⟩
 | 14 => ⟨#[115, 108, 97, 115, 104]⟩
 | 15 => ⟨#[99, 111, 108, 111, 110]⟩
 | 16 => ⟨#[115, 101, 109, 105, 99, 111, 108, 111, 110]⟩
 | 17 => ⟨#[108, 101, 115, 115]⟩
 | 18 => ⟨#[101, 113, 117, 97, 108, 115]⟩
 | 19 => ⟨#[103, 114, 101, 97, 116, 101, 114]⟩
 | 20 => ⟨#[113, 117, 101, 115, 116, 105, 111, 110]⟩
 | 21 => ⟨#[97, 116]⟩
 | 22 => ⟨#[98, 114, 97, 99, 107, 101, 116]⟩
 | 23 => ⟨#[98, 97, 99, 107, 115, 108, 97, 115, 104]⟩
 | 24 => ⟨#[117, 110, 98, 114, 97, 99, 107, 101, 116]⟩
 | 25 => ⟨#[99, 97, 114, 101, 116]⟩
 | 26 => ⟨#[117, 110, 100, 101, 114, 115, 99, 111, 114, 101]⟩
 | 27 => ⟨#[98, 97, 99, 107, 113, 117, 111, 116, 101]⟩
 | 28 => ⟨#[98, 114, 97, 99, 101]⟩
 | 29 => ⟨#[98, 97, 114]⟩
 | 30 => ⟨#[117, 110, 98, 114, 97, 99, 101]⟩
 | _ => ⟨#[116, 105, 108, 100, 101]⟩
def namesB : ByteArray := ⟨#[98, 97, 110, 103, 32, 113, 117, 111, 116, 101, 32, 104, 97, 115, 104, 32, 100, 111, 108, 108, 97, 114, 32, 112, 101, 114, 99, 101, 110, 116, 32, 97, 109, 112, 101, 114, 115, 97, 110, 100, 32, 97, 112, 111, 115, 116, 114, 111, 112, 104, 101, 32, 111, 112, 101, 110, 32, 99, 108, 111, 115, 101, 32, 115, 116, 97, 114, 32, 112, 108, 117, 115, 32, 99, 111, 109, 109, 97, 32, 100, 97, 115, 104, 32, 100, 111, 116, 32, 115, 108, 97, 115, 104, 32, 99, 111, 108, 111, 110, 32, 115, 101, 109, 105, 99, 111, 108, 111, 110, 32, 108, 101, 115, 115, 32, 101, 113, 117, 97, 108, 115, 32, 103, 114, 101, 97, 116, 101, 114, 32, 113, 117, 101, 115, 116, 105, 111, 110, 32, 97, 116, 32, 98, 114, 97, 99, 107, 101, 116, 32, 98, 97, 99, 107, 115, 108, 97, 115, 104, 32, 117, 110, 98, 114, 97, 99, 107, 101, 116, 32, 99, 97, 114, 101, 116, 32, 117, 110, 100, 101, 114, 115, 99, 111, 114, 101, 32, 98, 97, 99, 107, 113, 117, 111, 116, 101, 32, 98, 114, 97, 99, 101, 32, 98, 97, 114, 32, 117, 110, 98, 114, 97, 99, 101, 32, 116, 105, 108, 100, 101, 32]⟩
def signsB : ByteArray := ⟨#[33, 34, 35, 36, 37, 38, 39, 40, 41, 42, 43, 44, 45, 46, 47, 58, 59, 60, 61, 62, 63, 64, 91, 92, 93, 94, 95, 96, 123, 124, 125, 126]⟩
def nmL : List Value := (List.range 32).map fun i => .string (nb i)
def nmA : Array Value := nmL.toArray
set_option maxRecDepth 100000 in
theorem nm_fields : Lib.fields namesB.data.toList = (List.range 32).map fun i => (nb i).data.toList := by decide +kernel
theorem ascii_of (l : List UInt8) (h : l.all (fun b => decide (b.toNat < 128)) = true) : ∀ (j : Nat) b, l[j]? = some b → b.toNat < 128 := by
 intro j b hb
 have := List.all_eq_true.1 h b (List.mem_of_getElem? hb)
 simpa using this
theorem nm_all : (namesB.data.toList.all fun b => decide (b.toNat < 128)) = true := by decide +kernel
theorem nm_ascii : ∀ (j : Nat) b, namesB.data.toList[j]? = some b → b.toNat < 128 := ascii_of _ nm_all
theorem nm_size0 : namesB.size ≤ 1000 := by decide +kernel
theorem nm_size : namesB.size < 4294967281 := Nat.lt_of_le_of_lt nm_size0 (by omega)
def Sp (w : World) : Prop := Lib.TabIs Tryz.prog w "strings.asciiSpace" .u8 Lib.asciiSpaceTab
theorem gSpace : Tryz.prog.globalNamed "strings.asciiSpace" = some 0 := by kernel_rfl
theorem Sp.below {w w' : World} {B : Nat} (h : Sp w) (hb : Below B w w') (hB : w.heap.size ≤ B) : Sp w' := by
 have hl : 0 < w.heap.size := by
  have hc := h.cell gSpace 0 (by decide +kernel)
  rcases Nat.lt_or_ge 0 w.heap.size with hl | hl
  ·exact hl
  ·unfold World.cell? at hc
   rw [Array.getElem?_eq_none hl] at hc
   cases hc
 exact var?_below hb gSpace (by omega) h
theorem Sp.drew {w : World} (h : Sp w) : Sp w.drew := h
theorem infoArr : (Tryz.prog.info? 234).map (·.size) = some 32 := by kernel_rfl
theorem nmL_len : nmL.length = 32 := rfl
theorem nmA_one : nmA.all (·.oneCell') = true := by
 rw [Array.all_eq_true_iff_forall_mem]
 intro v hv
 simp [nmA, nmL] at hv
 obtain ⟨i, _, rfl⟩ := hv
 rfl
theorem nmL_one : ∀ v ∈ nmL, v.oneCell' = true := by
 intro v hv
 simp [nmL] at hv
 obtain ⟨i, _, rfl⟩ := hv
 rfl
theorem infoStr : (Tryz.prog.info? 9).map (·.size) = some 1 := by kernel_rfl
theorem splice_all (z : List Value) (h : z.length = 32) : splice z 0 nmL = nmL := by
 unfold splice
 simp [nmL, h]
theorem nm_cells {w : World} {b j : Nat} {v : Value} (hb : w.heap.size = b) (hv : nmL[j]? = some v) : (w.alloc (.cells nmA 9)).cell? ((⟨b, 0, none⟩ : Addr).add j) = some v := by
 subst hb
 rw [add_none, Nat.zero_add, cell_built]
 simpa [nmA] using hv
set_option maxHeartbeats 1000000 in
set_option maxRecDepth 100000 in
theorem split (w : World) (hs : Sp w) : Calls Tryz.prog 187 #[] w (Gives (.agg nmA) w) := by
 have HF : Hid (∀ w, Sp w → Calls Tryz.prog 29 #[.string namesB] w fun e w' => e = .returned (.slice (some ⟨w.heap.size, 0, none⟩) 32 32) ∧ w' = w.alloc (.cells nmA 9)) := Lib.hid fun w hs => by
  have := Tryz.strings_Fields namesB w nm_size nm_ascii hs
  rw [nm_fields] at this
  exact this
 have HS := Lib.hid hs
 clear hs
 go_enter Tryz.func187, Tryz.ntmps187
 go_wp2_with fail
 go_region_law (first
  | (go_simp; go_at_call 29; refine (HF.out _ (HS.out.below (B := w.heap.size) (by (repeat (first | exact Below.refl _ _ | assumption | refine Below.drew ?_ | refine Below.alloc ?_ (by first | (simp; done) | (simp; omega) | omega) _ | refine Below.setCell ?_ (by first | (simp; done) | (simp; omega) | omega) _))) (Nat.le_refl _))).mono ?_; rintro e w1 ⟨rfl, rfl⟩)
  | (refine step_copy_splice rfl _ _ 27 27 rfl 9 Tryz.underlying27 infoStr (some ⟨w.heap.size + 1, 0, none⟩) (some ⟨w.heap.size + 1 + 1, 0, none⟩) 32 32 32 32 rfl rfl (w.heap.size + 1) 0 _ 234 (by exact (Blk.new_ (by simp)).alloc _) nmL rfl (fun _ => ⟨rfl, _, rfl, fun j v hv => by exact nm_cells (by simp) hv⟩) (by simp [nmL]) nmL_one (w.heap.size + 1) _ (Below.refl _ _) (Nat.le_refl _) ?_; intro w2 hcell hbel2))
 have hc1 : w2.heap[w.heap.size + 1]? = some (.cells nmA 234) := by
  have := hcell.out
  rw [splice_all _ (by rfl)] at this
  exact this
 have hb2 : Below w.heap.size w w2 := by
  refine Below.trans (b := _) ?_ (hbel2.mono (by omega))
  (repeat (first | exact Below.refl _ _ | assumption | refine Below.drew ?_ | refine Below.alloc ?_ (by first | (simp; done) | (simp; omega) | omega) _ | refine Below.setCell ?_ (by first | (simp; done) | (simp; omega) | omega) _))
 have hc0 : w2.heap[w.heap.size]? = some (.cells (List.replicate 32 (Value.string ⟨#[]⟩)).toArray 234) := by
  refine (hbel2.block _ (by omega)).trans ?_
  exact ((Blk.new_ rfl).alloc _).alloc _
 clear hcell
 have HC1 := Lib.hid hc1
 have HC0 := Lib.hid hc0
 clear hc1 hc0
 go_wp2_with (first
  | (refine wpList_load_row rfl 234 _ rfl (w.heap.size + 1) rfl 234 nmA (0, 0) _ HC1.out Tryz.underlying234 rfl infoArr ?_)
  | (refine wpList_store_row rfl 234 _ _ rfl w.heap.size nmA rfl rfl 234 _ HC0.out infoArr rfl nmA_one ?_))
 have hfin : (w2.setRow w.heap.size nmA).heap[w.heap.size]? = some (.cells nmA 234) := by
  simp [World.setRow, Array.getElem?_modify, HC0.out]
 refine bodyPost_ret (results_cell_row rfl _ _ w.heap.size 234 nmA (0, 0) _ rfl hfin Tryz.underlying234 rfl infoArr) rfl ⟨rfl, below_setRow hb2 (Nat.le_refl _) _⟩
end Go.Proofs.YtholajadbbdcmaaGreatDoor
namespace Go.Proofs.YtholajadbbdcmaaGreatDoor
open Go.RowKit
set_option maxRecDepth 10000
def sIdx (r : Nat) : Option Nat :=
 if 33 ≤ r ∧ r ≤ 47 then some (r - 33) else if 58 ≤ r ∧ r ≤ 64 then some (r - 43) else if 91 ≤ r ∧ r ≤ 96 then some (r - 69) else if 123 ≤ r ∧ r ≤ 126 then some (r - 95) else none
def sChar (i : Nat) : Nat := if i < 15 then 33 + i else if i < 22 then 43 + i else if i < 28 then 69 + i else 95 + i
theorem sIdx_char (i : Nat) (h : i < 32) : sIdx (sChar i) = some i := by
 have : ∀ i : Fin 32, sIdx (sChar i.val) = some i.val := by decide +kernel
 exact this ⟨i, h⟩
theorem sIdx_some {r i : Nat} (h : sIdx r = some i) : i < 32 ∧ r = sChar i ∧ 33 ≤ r ∧ r ≤ 126 := by
 unfold sIdx at h
 unfold sChar
 repeat' split at h
 all_goals first | (injection h with h; subst h; repeat' split) | cases h
 all_goals omega
def sIdxI (r : Int) : Option Nat := if 0 ≤ r then sIdx r.toNat else none
theorem sIdxI_some {r : Int} {i : Nat} (h : sIdxI r = some i) : i < 32 ∧ r = (sChar i : Int) ∧ 33 ≤ r ∧ r ≤ 126 := by
 unfold sIdxI at h
 split at h
 ·obtain ⟨a, b, c, d⟩ := sIdx_some h
  omega
 ·cases h
def idxV (r : Int) : Int := match sIdxI r with
 | some i => i
 | none => -1
theorem index_tab : ∀ r : Fin 94, Lib.indexByte signsB.data.toList (33 + r.val).toUInt8 = idxV (((33 + r.val : Nat)) : Int) := by decide +kernel
theorem nb_ne (i j : Nat) (h : i < 32) (k : j < 32) (hne : i ≠ j) : nb i ≠ nb j := by
 have : ∀ i j : Fin 32, i ≠ j → nb i.val ≠ nb j.val := by decide +kernel
 exact this ⟨i, h⟩ ⟨j, k⟩ (by intro e; injection e with e; exact hne e)
set_option maxHeartbeats 400000 in
theorem index (r : Int) (w : World) : Calls Tryz.prog 217 #[.int .i32 r] w (Gives (.int .i64 (idxV r)) w) := by
 by_cases h1 : r < 33
 ·have hv : idxV r = -1 := by
   unfold idxV sIdxI sIdx
   split
   ·rename_i i h
    split at h
    ·repeat' split at h
     all_goals first | omega | cases h
    ·cases h
   ·rfl
  rw [hv]
  go_enter Tryz.func217, Tryz.ntmps217
  go_wp2
  go_ret
  exact ⟨rfl, Below.refl _ _⟩
 by_cases h2 : 126 < r
 ·have hv : idxV r = -1 := by
   unfold idxV sIdxI sIdx
   split
   ·rename_i i h
    split at h
    ·repeat' split at h
     all_goals first | omega | cases h
    ·cases h
   ·rfl
  rw [hv]
  go_enter Tryz.func217, Tryz.ntmps217
  go_wp2
  go_ret
  exact ⟨rfl, Below.refl _ _⟩
 ·obtain ⟨k, hk⟩ : ∃ k : Nat, r = ((33 + k : Nat) : Int) := ⟨(r - 33).toNat, by omega⟩
  have hk94 : k < 94 := by omega
  have HI : Hid (∀ w, Calls Tryz.prog 224 #[.string signsB, .int .u8 r] w fun e w' => e = .returned (.int .i64 (idxV r)) ∧ w' = w) := Lib.hid fun w => by
   have := Tryz.strings_IndexByte signsB r w
   have ht := index_tab ⟨k, hk94⟩
   simp only at ht
   rw [show r.toNat = 33 + k from by omega, ht, ← hk] at this
   exact this
  clear hk
  generalize idxV r = v at *
  go_enter Tryz.func217, Tryz.ntmps217
  go_wp2_with (go_at_call 224; refine (HI.out _).mono ?_; rintro e w1 ⟨rfl, rfl⟩)
  go_ret
  exact ⟨rfl, Below.refl _ _⟩
theorem run_index_arr {P : Program} {w : World} {t e : TypeId} {n : Nat} {cs : Array Value} {k : IntKind} {i : Int} {v : Value} (hu : P.underlying t = some (.array n e))
  (hs : ∀ w, (sizeOf e).run P w = .ok 1 w) (ha : ∀ w, (isAgg e).run P w = .ok false w) (h0 : 0 ≤ i) (h1 : i < n) (hv : cs[i.toNat]? = some v) :
  (Instr.index t (.agg cs) (.int k i)).run P w = .ok v w := by
 simp [Instr.index, run_underlying hu, asIntOf, h0, h1, go_sem, hs, ha, part, hv]
theorem nm_index (i : Nat) (h : i < 32) (w : World) : (Instr.index 234 (.agg nmA) (.int .i64 i)).run Tryz.prog w = .ok (.string (nb i)) w :=
 run_index_arr Tryz.underlying234 Tryz.sizeOf9 Tryz.isAgg9 (by omega) (by omega) (by simp [nmA, nmL, h])
theorem signs_index (i : Nat) (h : i < 32) (w : World) : (Instr.index 9 (.string signsB) (.int .i64 i)).run Tryz.prog w = .ok (.int .u8 (sChar i)) w := by
 have : ∀ i : Fin 32, ∀ h : i.val < signsB.size, (signsB[i.val]'h).toNat = sChar i.val := by decide +kernel
 have h2 : signsB.size = 32 := by decide +kernel
 have h3 := this ⟨i, h⟩ (by simp [h2, h])
 simp only at h3
 rw [← h3]
 simp [Instr.index, run_underlying Tryz.underlying9, asIntOf, h2, h, go_sem]
theorem signs_size : signsB.size = 32 := by decide +kernel
theorem signs_get0 : ∀ i : Fin 32, ∀ h : i.val < signsB.size, (signsB[i.val]'h).toNat = sChar i.val := by decide +kernel
theorem sChar_le : ∀ i : Fin 32, sChar i.val ≤ 126 := by decide +kernel
set_option maxHeartbeats 1000000 in
theorem sign_some (i : Nat) (hi : i < 32) (w : World) (hs : Sp w) : Calls Tryz.prog 215 #[.string (nb i)] w (Gives (.tuple #[.int .i32 (sChar i), .bool true]) w) := by
 have hc0 := sChar_le ⟨i, hi⟩
 simp only at hc0
 have hc : (sChar i : Int) ≤ 126 := by omega
 clear hc0
 have HX := Lib.hid (signs_index i hi)
 have HN : Hid (∀ j, j < 32 → ((nb j).toList == (nb i).toList) = decide (j = i)) := Lib.hid fun j hj => by
  rw [str_beq]
  by_cases e : j = i
  ·rw [e]; simp
  ·simp [e, nb_ne j i hj hi e]
 have HI := Lib.hid nm_index
 have HS := Lib.hid hs
 clear hs
 generalize nb i = s at *
 go_enter Tryz.func215, Tryz.ntmps215
 go_wp2_with (go_at_call 187; refine (split _ HS.out).mono ?_; rintro e w1 ⟨rfl, hbel1⟩)
 go_loop [7] (fun x => ∃ k : Nat, k ≤ i ∧ x = .int .i64 k) (fun x => 32 - (intOf x).toNat)
 case atStart => exact ⟨0, by omega, rfl⟩
 case round =>
  obtain ⟨k, hk, rfl⟩ := hrel
  have hk32 : k < 32 := by omega
  have hx := HI.out k hk32 w1
  have hb := HN.out k hk32
  by_cases e : k = i
  ·have hd : ((nb k).toList == s.toList) = true := by rw [hb]; simp [e]
   subst e
   have hx2 := HX.out w1
   clear hb
   generalize nb k = u at *
   go_wp2
   go_ret2
   have hg : wrap32 ((signsB[k]'(by rw [signs_size]; exact hk32)).toNat : Int) = (sChar k : Int) := by
    rw [signs_get0 ⟨k, hk32⟩]
    show wrap32 ((sChar k : Nat) : Int) = _
    exact IntWalk.wrap32_in _ ⟨by omega, by omega⟩
   exact ⟨congrArg (fun z => Ending.returned (.tuple #[.int .i32 z, .bool true])) hg, hbel1⟩
  ·have hd : ((nb k).toList == s.toList) = false := by rw [hb]; simp [e]
   clear hb
   generalize nb k = u at *
   go_wp2
   exact ⟨⟨k + 1, by omega, by go_num⟩, by simp [intOf]; omega⟩
set_option maxHeartbeats 1000000 in
theorem sign_none (s : ByteArray) (hn : ∀ i, i < 32 → nb i ≠ s) (w : World) (hs : Sp w) : Calls Tryz.prog 215 #[.string s] w (Gives (.tuple #[.int .i32 0, .bool false]) w) := by
 have HN : Hid (∀ j, j < 32 → ((nb j).toList == s.toList) = false) := Lib.hid fun j hj => by
  rw [str_beq]
  simp [hn j hj]
 have HI := Lib.hid nm_index
 have HS := Lib.hid hs
 clear hs hn
 go_enter Tryz.func215, Tryz.ntmps215
 go_wp2_with (go_at_call 187; refine (split _ HS.out).mono ?_; rintro e w1 ⟨rfl, hbel1⟩)
 go_loop [7] (fun x => ∃ k : Nat, k ≤ 32 ∧ x = .int .i64 k) (fun x => 32 - (intOf x).toNat)
 case atStart => exact ⟨0, by omega, rfl⟩
 case round =>
  obtain ⟨k, hk, rfl⟩ := hrel
  by_cases hk32 : k < 32
  ·have hx := HI.out k hk32 w1
   have hd := HN.out k hk32
   generalize nb k = u at *
   go_wp2
   exact ⟨⟨k + 1, by omega, by go_num⟩, by simp [intOf]; omega⟩
  ·go_wp2
   go_ret2
   exact ⟨rfl, hbel1⟩
set_option maxHeartbeats 400000 in
set_option maxRecDepth 100000 in
theorem names (w : World) (hs : Sp w) : Calls Tryz.prog 173 #[] w fun e w' => ∃ A c, e = .returned (.slice A 32 c) ∧ Rd w' w'.heap.size 1 A 32 nmL ∧ Below w.heap.size w w' := by
 have HS := Lib.hid hs
 clear hs
 go_enter Tryz.func173, Tryz.ntmps173
 go_wp2_with (first
  | (go_at_call 187; refine (split _ HS.out).mono ?_; rintro e w1 ⟨rfl, hbel1⟩)
  | (refine wpList_store_row rfl 234 _ _ rfl w1.heap.size nmA rfl rfl 234 _ (by exact heap_alloc_new w1 _) infoArr (by rfl) nmA_one ?_))
 go_ret
 refine ⟨_, _, rfl, ?_, ?_⟩
 ·rw [World.setRow_alloc_new]
  refine (rd_built rfl nmL_len).more ?_
  rw [World.size_alloc]
  exact Nat.le_refl _
 ·rw [World.setRow_alloc_new]
  exact hbel1.alloc hbel1.size _
def isChar (n : Int) : Prop := 0 ≤ n ∧ n ≤ 55295 ∨ 57344 ≤ n ∧ n ≤ 1114111
set_option maxHeartbeats 400000 in
theorem char_t (n : Int) (h : isChar n) (w : World) : Calls Tryz.prog 216 #[.int .i64 n] w (Gives (.bool true) w) := by
 unfold isChar at h
 by_cases h1 : 0 ≤ n ∧ n ≤ 55295
 ·obtain ⟨a, b⟩ := h1
  clear h
  go_enter Tryz.func216, Tryz.ntmps216
  go_wp2
  go_ret
  exact ⟨rfl, Below.refl _ _⟩
 ·have a : 57344 ≤ n := by omega
  have b : n ≤ 1114111 := by omega
  have c : ¬ n ≤ 55295 := by omega
  clear h h1
  go_enter Tryz.func216, Tryz.ntmps216
  go_wp2
  go_ret
  exact ⟨rfl, Below.refl _ _⟩
set_option maxHeartbeats 400000 in
theorem char_f (n : Int) (h : ¬ isChar n) (w : World) : Calls Tryz.prog 216 #[.int .i64 n] w (Gives (.bool false) w) := by
 unfold isChar at h
 by_cases h1 : n < 0
 ·clear h
  go_enter Tryz.func216, Tryz.ntmps216
  go_wp2
  all_goals
   go_ret
   exact ⟨by simp <;> omega, Below.refl _ _⟩
 ·by_cases h2 : n < 57344
  ·have a : 55295 < n := by omega
   clear h
   go_enter Tryz.func216, Tryz.ntmps216
   go_wp2
   all_goals
    go_ret
    exact ⟨by simp <;> omega, Below.refl _ _⟩
  ·have a : 1114111 < n := by omega
   clear h
   go_enter Tryz.func216, Tryz.ntmps216
   go_wp2
   all_goals
    go_ret
    exact ⟨by simp <;> omega, Below.refl _ _⟩
end Go.Proofs.YtholajadbbdcmaaGreatDoor
