/- Joined texts: UtP3, LvP, LvM, Lv1, Lv2, Lv3. -/
import Derived.Lib.SliceRun
import Derived.Test.YtholajadbbdcmaaGreatDoorQAA
import Derived.Test.YtholajadbbdcmaaGreatDoorQAB
import Derived.Test.YtholajadbbdcmaaGreatDoorQAC
import Derived.Test.YtholajadbbdcmaaGreatDoorQAE
import Derived.Test.YtholajadbbdcmaaGreatDoorQAF
import Derived.Test.YtholajadbbdcmaaGreatDoorQAG
import Derived.Test.YtholajadbbdcmaaGreatDoorQAH
import Derived.Test.YtholajadbbdcmaaGreatDoorQAI
import Derived.Test.YtholajadbbdcmaaGreatDoorQAM
import Derived.Test.YtholajadbbdcmaaGreatDoorQAP
import Derived.Test.YtholajadbbdcmaaGreatDoorQAQ
import Derived.Test.YtholajadbbdcmaaGreatDoorQAS
import Derived.Test.YtholajadbbdcmaaGreatDoorQAT
import Derived.Test.YtholajadbbdcmaaGreatDoorQBB
import Derived.Test.YtholajadbbdcmaaGreatDoorQBC
import Derived.Test.YtholajadbbdcmaaGreatDoorQBF
set_option linter.unusedVariables false
set_option linter.unusedSimpArgs false
set_option linter.unnecessarySimpa false
namespace Go.Proofs.YtholajadbbdcmaaGreatDoor
open Go.RowKit
set_option maxRecDepth 20000
theorem num_range {l r : List ByteArray} {n : Int} (h : numO l = some (n, r)) : -999999999 ≤ n ∧ n ≤ 999999999 := by
 unfold numO at h
 cases hp : prefixL l with
 | none => rw [hp] at h; cases h
 | some x =>
  obtain ⟨m, k⟩ := x
  rw [hp] at h
  simp only [Option.map_some, Option.some.injEq, Prod.mk.injEq] at h
  obtain ⟨rfl, _⟩ := h
  obtain ⟨_, _, _, hnum, _⟩ := prefixL_some hp
  obtain ⟨h1, h2, _⟩ := number_some hnum
  exact ⟨h1, h2⟩
theorem end_range {l : List ByteArray} {n : Int} (h : endL l = some n) : 0 ≤ n ∧ n ≤ 999999999 := by
 unfold endL at h
 split at h
 ·split at h
  ·injection h with h; omega
  ·cases h
 ·cases hs : skO bDone l with
  | none => rw [hs] at h; cases h
  | some t =>
   rw [hs, Option.bind_some] at h
   split at h
   ·injection h with h; omega
   ·cases hn : numO t with
    | none => rw [hn] at h; cases h
    | some x =>
     obtain ⟨m, r⟩ := x
     rw [hn, Option.bind_some] at h
     simp only at h
     cases hu : skO bUpdates r with
     | none => rw [hu] at h; cases h
     | some u =>
      rw [hu, Option.bind_some] at h
      split at h
      ·rename_i hc
       injection h with h
       have := num_range hn
       omega
      ·cases h
theorem chgs_range : ∀ (f : Nat) (l : List ByteArray) (acc m : List Chg) (n : Int), (∀ c ∈ acc, chkU c = 0) → chgsL f l acc = some (m, n) → (∀ c ∈ m, chkU c = 0) ∧ 0 ≤ n ∧ n ≤ 999999999
 | 0, l, acc, m, n, _, h => by cases h
 | f + 1, l, acc, m, n, ha, h => by
  rw [chgsL] at h
  split at h
  ·cases he : endL l with
   | none => rw [he] at h; cases h
   | some k =>
    rw [he] at h
    simp only [Option.map_some, Option.some.injEq, Prod.mk.injEq] at h
    obtain ⟨rfl, rfl⟩ := h
    exact ⟨ha, end_range he⟩
  ·cases hc : chgL l with
   | none => rw [hc] at h; cases h
   | some x =>
    obtain ⟨c, r⟩ := x
    rw [hc, Option.bind_some] at h
    simp only at h
    split at h
    ·rename_i h0
     exact chgs_range f r (acc ++ [c]) m n (fun x hx => by
      rcases List.mem_append.1 hx with h' | h'
      ·exact ha x h'
      ·rw [List.mem_singleton] at h'
       exact h' ▸ h0) h
    ·cases h
theorem changes_range {l : List ByteArray} {m : List Chg} {n : Int} (h : changesU l = some (m, n)) : (∀ c ∈ m, chkU c = 0) ∧ 0 ≤ n ∧ n ≤ 999999999 := chgs_range _ _ _ _ _ (fun c hc => by cases hc) h
end Go.Proofs.YtholajadbbdcmaaGreatDoor
namespace Go.Proofs.YtholajadbbdcmaaGreatDoor
open Go.RowKit
structure Vw where
 width : Int
 height : Int
 rows : List (List Gl)
 row : Int
 col : Int
 vis : Bool
def vw0 : Vw := ⟨0, 0, [], 0, 0, false⟩
def spG : Gl := ⟨⟨#[32]⟩, false, 0⟩
def glW (g : Gl) : Nat := if g.wide = true then 2 else 1
def wideN (l : List Gl) : Nat := (l.filter fun g => g.wide).length
def rowW (l : List Gl) : Nat := l.length + wideN l
def trimL (l : List Gl) : List Gl := (l.reverse.dropWhile fun g => decide (g = spG)).reverse
def sizeB (w h : Int) : Bool := decide (1 ≤ w ∧ w ≤ 132 ∧ 1 ≤ h ∧ h ≤ 60)
def glsC : List Gl → Int
 | [] => 0
 | g :: t => if glyphC g ≠ 0 then glyphC g else glsC t
def rowC (w : Int) (l : List Gl) : Int := if glsC l ≠ 0 then glsC l else if w < rowW l then 12 else if l.getLast? = some spG then 1 else 0
def rowsC (w : Int) : List (List Gl) → Int
 | [] => 0
 | l :: t => if rowC w l ≠ 0 then rowC w l else rowsC w t
def viewC (v : Vw) : Int := if sizeB v.width v.height = false then 2 else if (v.rows.length : Int) ≠ v.height then 11 else if v.row < 0 ∨ v.height ≤ v.row ∨ v.col < 0 ∨ v.width ≤ v.col then 2 else rowsC v.width v.rows
def blankC (c : Chg) : Bool :=
 if c.kind = 1 then decide (c.count = 0 ∧ c.til = 0 ∧ c.glyphs = [])
 else if c.kind = 2 then decide (c.col = 0 ∧ c.glyphs = [])
 else if c.kind = 3 then decide (c.til = 0)
 else decide (c.til = 0 ∧ c.glyphs = [])
def rangeC (v : Vw) (c : Chg) : Bool :=
 if c.kind = 1 then decide (1 ≤ c.row ∧ c.row ≤ 60 ∧ 1 ≤ c.col ∧ c.col ≤ 132)
 else if c.kind = 2 then decide (0 ≤ c.row ∧ c.row < c.til ∧ c.til ≤ v.height ∧ c.count ≠ 0 ∧ c.count < c.til - c.row ∧ c.row - c.til < c.count)
 else if c.kind = 3 then decide (0 ≤ c.row ∧ c.row ≤ v.height - 1 ∧ 0 ≤ c.col ∧ c.col ≤ 264 ∧ 0 ≤ c.count ∧ (c.count = 0 ∨ c.col + c.count ≤ ((v.rows.getD c.row.toNat []).length : Int)))
 else decide (0 ≤ c.row ∧ c.row ≤ v.height - 1 ∧ 0 ≤ c.col ∧ c.col ≤ v.width - 1 ∧ 0 ≤ c.count ∧ c.count ≤ 1)
def fitsC (v : Vw) (c : Chg) : Int := if c.kind < 1 ∨ 4 < c.kind then 9 else if blankC c = false then 1 else if rangeC v c = false then 2 else glsC c.glyphs
def fitN : Int → List Gl → Nat
 | _, [] => 0
 | w, g :: t => if w < (glW g : Int) then 0 else fitN (w - glW g) t + 1
def cutR (w : Int) (l : List Gl) : List Gl := trimL (l.take (fitN w l))
def spliceG (l : List Gl) (col count : Nat) (gs : List Gl) : List Gl := l.take col ++ List.replicate (col - l.length) spG ++ gs ++ l.drop (col + count)
def rollR (rows : List (List Gl)) (top til by_ : Int) (i : Nat) : List Gl :=
 if top ≤ (i : Int) ∧ (i : Int) < til then (if top ≤ (i : Int) + by_ ∧ (i : Int) + by_ < til then rows.getD ((i : Int) + by_).toNat [] else []) else rows.getD i []
def stepV (v : Vw) (c : Chg) : Vw :=
 if c.kind = 1 then ⟨c.col, c.row, (List.range c.row.toNat).map fun i => cutR c.col (v.rows.getD i []), min v.row (c.row - 1), min v.col (c.col - 1), v.vis⟩
 else if c.kind = 2 then ⟨v.width, v.height, (List.range v.rows.length).map (rollR v.rows c.row c.til c.count), v.row, v.col, v.vis⟩
 else if c.kind = 3 then ⟨v.width, v.height, v.rows.set c.row.toNat (trimL (spliceG (v.rows.getD c.row.toNat []) c.col.toNat c.count.toNat c.glyphs)), v.row, v.col, v.vis⟩
 else ⟨v.width, v.height, v.rows, c.row, c.col, decide (c.count = 1)⟩
def widthV (v : Vw) : Bool := v.rows.all fun l => decide ((rowW l : Int) ≤ v.width)
def goV : Vw → List Chg → Vw × Int
 | v, [] => if widthV v = true then (v, 0) else (vw0, 12)
 | v, c :: t => if fitsC v c ≠ 0 then (vw0, fitsC v c) else goV (stepV v c) t
def applyV (v : Vw) (l : List Chg) : Vw × Int := if viewC v ≠ 0 then (vw0, 1) else goV v l
structure Md where
 view : Vw
 upd : Int
def md0 : Md := ⟨vw0, 0⟩
def MaxT : Int := 1099511627776
def properM (m : Md) : Bool := decide (viewC m.view = 0 ∧ 0 ≤ m.upd ∧ m.upd ≤ MaxT)
def hearV (m : Md) (l : List ByteArray) : Md × Int :=
 if properM m = false then (md0, 1) else match changesU l with
 | none => (md0, 17)
 | some (cs, n) => if (applyV m.view cs).2 ≠ 0 then (md0, (applyV m.view cs).2) else if MaxT < m.upd + n then (md0, 5) else (⟨(applyV m.view cs).1, m.upd + n⟩, 0)
def TrimR (rows : List (List Gl)) : Prop := ∀ l ∈ rows, trimL l = l
theorem wide_take {l : List Gl} {k : Nat} (h : k < l.length) : wideN (l.take (k + 1)) = wideN (l.take k) + l[k].wide.toNat := by
 unfold wideN
 rw [List.take_succ_eq_append_getElem h, List.filter_append, List.length_append]
 cases h : l[k].wide <;> simp [h]
theorem wide_le (l : List Gl) : wideN l ≤ l.length := List.length_filter_le _ _
theorem wide_take_le (l : List Gl) (k : Nat) : wideN (l.take k) ≤ l.length := Nat.le_trans (wide_le _) (by rw [List.length_take]; omega)
theorem trim_last (l : List Gl) (g : Gl) : trimL (l ++ [g]) = if g = spG then trimL l else l ++ [g] := by
 unfold trimL
 rw [List.reverse_append, List.reverse_singleton, List.singleton_append, List.dropWhile_cons]
 by_cases h : g = spG
 ·rw [if_pos (by simpa using h), if_pos h]
 ·rw [if_neg (by simpa using h), if_neg h, List.reverse_cons, List.reverse_reverse]
theorem trim_take {l : List Gl} {k : Nat} (hk : k < l.length) : trimL (l.take (k + 1)) = if l[k] = spG then trimL (l.take k) else l.take (k + 1) := by
 rw [List.take_succ_eq_append_getElem hk, trim_last]
theorem snoc_cases (l : List Gl) : l = [] ∨ ∃ m g, l = m ++ [g] := by
 rcases l.eq_nil_or_concat with h | ⟨m, g, h⟩
 ·exact .inl h
 ·exact .inr ⟨m, g, by rw [h, List.concat_eq_append]⟩
theorem trim_id : ∀ (n : Nat) (l : List Gl), l.length = n → trimL (trimL l) = trimL l := by
 intro n
 induction n with
 | zero => intro l h; obtain rfl := List.length_eq_zero_iff.1 h; rfl
 | succ n ih =>
  intro l h
  rcases snoc_cases l with rfl | ⟨m, g, rfl⟩
  ·cases h
  ·rw [trim_last]
   rw [List.length_append, List.length_singleton] at h
   split
   ·exact ih m (by omega)
   ·next hg => rw [trim_last, if_neg hg]
theorem trim_trim (l : List Gl) : trimL (trimL l) = trimL l := trim_id _ l rfl
theorem trim_mem {l : List Gl} {g : Gl} (h : g ∈ trimL l) : g ∈ l := by
 unfold trimL at h
 rw [List.mem_reverse] at h
 exact List.mem_reverse.1 ((List.dropWhile_sublist _).mem h)
theorem trim_len (l : List Gl) : (trimL l).length ≤ l.length := by
 unfold trimL
 rw [List.length_reverse]
 have := (List.dropWhile_sublist (fun g => decide (g = spG)) (l := l.reverse)).length_le
 rwa [List.length_reverse] at this
theorem trim_iff {l : List Gl} : trimL l = l ↔ l.getLast? ≠ some spG := by
 rcases snoc_cases l with rfl | ⟨m, g, rfl⟩
 ·simp [trimL]
 ·rw [trim_last, List.getLast?_append, List.getLast?_singleton]
  by_cases h : g = spG
  ·rw [if_pos h]
   have := trim_len m
   constructor
   ·intro e
    have := congrArg List.length e
    rw [List.length_append, List.length_singleton] at this
    omega
   ·intro e; exact absurd (by rw [h]; rfl) e
  ·rw [if_neg h]
   simp [h]
theorem gls_zero {l : List Gl} : glsC l = 0 ↔ ∀ g ∈ l, glyphC g = 0 := by
 induction l with
 | nil => simp [glsC]
 | cons g t ih =>
  unfold glsC
  by_cases h : glyphC g = 0
  ·rw [if_neg (by simpa using h), ih]; simp [h]
  ·rw [if_pos h]; simp [h]
theorem row_zero {w : Int} {l : List Gl} : rowC w l = 0 ↔ glsC l = 0 ∧ (rowW l : Int) ≤ w ∧ trimL l = l := by
 unfold rowC
 rw [trim_iff]
 by_cases h1 : glsC l = 0
 ·rw [if_neg (by simpa using h1)]
  by_cases h2 : w < rowW l
  ·rw [if_pos h2]; simp; omega
  ·rw [if_neg h2]
   by_cases h3 : l.getLast? = some spG
   ·rw [if_pos h3]; simp [h3]
   ·rw [if_neg h3]; simp [h1, h3]; omega
 ·rw [if_pos h1]; simp [h1]
theorem rows_zero {w : Int} {r : List (List Gl)} : rowsC w r = 0 ↔ ∀ l ∈ r, rowC w l = 0 := by
 induction r with
 | nil => simp [rowsC]
 | cons g t ih =>
  unfold rowsC
  by_cases h : rowC w g = 0
  ·rw [if_neg (by simpa using h), ih]; simp [h]
  ·rw [if_pos h]; simp [h]
theorem view_zero {v : Vw} : viewC v = 0 ↔ sizeB v.width v.height = true ∧ (v.rows.length : Int) = v.height ∧ (0 ≤ v.row ∧ v.row < v.height ∧ 0 ≤ v.col ∧ v.col < v.width) ∧ ∀ l ∈ v.rows, glsC l = 0 ∧ (rowW l : Int) ≤ v.width ∧ trimL l = l := by
 unfold viewC
 by_cases h1 : sizeB v.width v.height = false
 ·rw [if_pos h1]; simp [h1]
 ·rw [if_neg h1]
  have h1 : sizeB v.width v.height = true := by simpa using h1
  by_cases h2 : (v.rows.length : Int) = v.height
  ·rw [if_neg (by simpa using h2)]
   by_cases h3 : v.row < 0 ∨ v.height ≤ v.row ∨ v.col < 0 ∨ v.width ≤ v.col
   ·rw [if_pos h3]
    constructor
    ·intro h; cases h
    ·rintro ⟨_, _, h, _⟩; omega
   ·rw [if_neg h3, rows_zero]
    simp only [row_zero, h1, h2, true_and]
    exact ⟨fun h => ⟨by omega, h⟩, fun h => h.2⟩
  ·rw [if_pos h2]; simp [h2]
theorem size_iff {w h : Int} : sizeB w h = true ↔ 1 ≤ w ∧ w ≤ 132 ∧ 1 ≤ h ∧ h ≤ 60 := by unfold sizeB; rw [decide_eq_true_iff]
theorem spG_ok : glyphC spG = 0 := by decide +kernel
theorem fit_le : ∀ (w : Int) (l : List Gl), fitN w l ≤ l.length
 | _, [] => Nat.le_refl _
 | w, g :: t => by
  unfold fitN
  split
  ·omega
  ·have := fit_le (w - glW g) t
   rw [List.length_cons]; omega
theorem mem_getD {r : List (List Gl)} {i : Nat} {g : Gl} (h : g ∈ r.getD i []) : ∃ l ∈ r, g ∈ l := by
 rw [List.getD_eq_getElem?_getD] at h
 cases hx : r[i]? with
 | none => rw [hx] at h; cases h
 | some l => rw [hx] at h; exact ⟨l, List.mem_of_getElem? hx, h⟩
theorem trim_getD {r : List (List Gl)} (h : TrimR r) (i : Nat) : trimL (r.getD i []) = r.getD i [] := by
 rw [List.getD_eq_getElem?_getD]
 cases hx : r[i]? with
 | none => rfl
 | some l => exact h l (List.mem_of_getElem? hx)
structure OnV (v : Vw) : Prop where
 size : sizeB v.width v.height = true
 rows : (v.rows.length : Int) = v.height
 cur : 0 ≤ v.row ∧ v.row < v.height ∧ 0 ≤ v.col ∧ v.col < v.width
 gls : ∀ l ∈ v.rows, ∀ g ∈ l, glyphC g = 0
 trim : TrimR v.rows
theorem OnV.of {v : Vw} (h : viewC v = 0) : OnV v := by
 obtain ⟨a, b, c, d⟩ := view_zero.1 h
 exact ⟨a, b, c, fun l hl => gls_zero.1 (d l hl).1, fun l hl => (d l hl).2.2⟩
theorem OnV.zero {v : Vw} (h : OnV v) (hw : widthV v = true) : viewC v = 0 := by
 refine view_zero.2 ⟨h.size, h.rows, h.cur, fun l hl => ⟨gls_zero.2 (h.gls l hl), ?_, h.trim l hl⟩⟩
 unfold widthV at hw
 rw [List.all_eq_true] at hw
 simpa using hw l hl
theorem fits_zero {v : Vw} {c : Chg} (h : fitsC v c = 0) : (1 ≤ c.kind ∧ c.kind ≤ 4) ∧ blankC c = true ∧ rangeC v c = true ∧ glsC c.glyphs = 0 := by
 unfold fitsC at h
 split at h
 ·cases h
 ·next h1 =>
  split at h
  ·cases h
  ·next h2 =>
   split at h
   ·cases h
   ·next h3 => exact ⟨by omega, by simpa using h2, by simpa using h3, h⟩
theorem OnV.step {v : Vw} {c : Chg} (h : OnV v) (hc : fitsC v c = 0) : OnV (stepV v c) := by
 obtain ⟨hk, hb, hr, hg⟩ := fits_zero hc
 unfold stepV
 unfold rangeC at hr
 have hs := size_iff.1 h.size
 have hcur := h.cur
 by_cases h1 : c.kind = 1
 ·rw [if_pos h1, decide_eq_true_iff] at hr
  rw [if_pos h1]
  refine ⟨size_iff.2 (by simp only; omega), by simp only [List.length_map, List.length_range]; omega, by simp only; omega, ?_, ?_⟩
  ·intro l hl g hg
   simp only [List.mem_map] at hl
   obtain ⟨i, _, rfl⟩ := hl
   obtain ⟨m, hm, hgm⟩ := mem_getD (List.mem_of_mem_take (trim_mem hg))
   exact h.gls m hm g hgm
  ·intro l hl
   simp only [List.mem_map] at hl
   obtain ⟨i, _, rfl⟩ := hl
   exact trim_trim _
 ·rw [if_neg h1] at hr ⊢
  by_cases h2 : c.kind = 2
  ·rw [if_pos h2]
   have hroll : ∀ i, (∀ g ∈ rollR v.rows c.row c.til c.count i, glyphC g = 0) ∧ trimL (rollR v.rows c.row c.til c.count i) = rollR v.rows c.row c.til c.count i := fun i => by
    have key : ∀ j, (∀ g ∈ v.rows.getD j [], glyphC g = 0) ∧ trimL (v.rows.getD j []) = v.rows.getD j [] := fun j =>
     ⟨fun g hg => by obtain ⟨m, hm, hgm⟩ := mem_getD hg; exact h.gls m hm g hgm, trim_getD h.trim j⟩
    unfold rollR
    split
    ·split
     ·exact key _
     ·exact ⟨fun g hg => (by cases hg), rfl⟩
    ·exact key _
   refine ⟨h.size, by simp only [List.length_map, List.length_range]; exact h.rows, h.cur, ?_, ?_⟩
   ·intro l hl
    simp only [List.mem_map] at hl
    obtain ⟨i, _, rfl⟩ := hl
    exact (hroll i).1
   ·intro l hl
    simp only [List.mem_map] at hl
    obtain ⟨i, _, rfl⟩ := hl
    exact (hroll i).2
  ·rw [if_neg h2] at hr ⊢
   by_cases h3 : c.kind = 3
   ·rw [if_pos h3]
    refine ⟨h.size, by simp only [List.length_set]; exact h.rows, h.cur, ?_, ?_⟩
    ·intro l hl g hgl
     rcases List.mem_or_eq_of_mem_set hl with hl | rfl
     ·exact h.gls l hl g hgl
     ·have := trim_mem hgl
      unfold spliceG at this
      simp only [List.mem_append, List.mem_replicate] at this
      rcases this with ((hm | ⟨_, rfl⟩) | hm) | hm
      ·obtain ⟨m, hm, hgm⟩ := mem_getD (List.mem_of_mem_take hm); exact h.gls m hm g hgm
      ·exact spG_ok
      ·exact gls_zero.1 hg g hm
      ·obtain ⟨m, hm, hgm⟩ := mem_getD (List.mem_of_mem_drop hm); exact h.gls m hm g hgm
    ·intro l hl
     rcases List.mem_or_eq_of_mem_set hl with hl | rfl
     ·exact h.trim l hl
     ·exact trim_trim _
   ·rw [if_neg h3] at hr ⊢
    rw [decide_eq_true_iff] at hr
    exact ⟨h.size, h.rows, by simp only; omega, h.gls, h.trim⟩
theorem go_proper : ∀ (l : List Chg) (v : Vw), OnV v → (goV v l).2 = 0 → viewC (goV v l).1 = 0
 | [], v, h, e => by
  unfold goV at e ⊢
  split
  ·next hw => exact h.zero hw
  ·next hw => rw [if_neg hw] at e; cases e
 | c :: t, v, h, e => by
  unfold goV at e ⊢
  by_cases hc : fitsC v c = 0
  ·rw [if_neg (by simpa using hc)] at e ⊢
   exact go_proper t _ (h.step hc) e
  ·rw [if_pos hc] at e
   exact absurd e hc
theorem apply_proper {v : Vw} {l : List Chg} (e : (applyV v l).2 = 0) : viewC (applyV v l).1 = 0 := by
 unfold applyV at e ⊢
 split
 ·next h => rw [if_pos h] at e; cases e
 ·next h => rw [if_neg h] at e; exact go_proper l v (.of (by simpa using h)) e
theorem hear_proper {m : Md} {l : List ByteArray} (e : (hearV m l).2 = 0) : properM (hearV m l).1 = true := by
 unfold hearV at e ⊢
 by_cases hp : properM m = false
 ·rw [if_pos hp] at e; cases e
 ·rw [if_neg hp] at e ⊢
  cases hc : changesU l with
  | none => rw [hc] at e; cases e
  | some x =>
   obtain ⟨cs, n⟩ := x
   rw [hc] at e
   simp only at e ⊢
   by_cases h1 : (applyV m.view cs).2 = 0
   ·rw [if_neg (by simpa using h1)] at e ⊢
    by_cases h2 : MaxT < m.upd + n
    ·rw [if_pos h2] at e; cases e
    ·rw [if_neg h2]
     have hp : properM m = true := by simpa using hp
     unfold properM at hp ⊢
     rw [decide_eq_true_iff] at hp ⊢
     have := (changes_range hc).2
     exact ⟨apply_proper h1, by simp only; omega, by simp only; omega⟩
   ·rw [if_pos h1] at e; exact absurd e h1
structure RowM where
 l : List Gl
 A : Option Addr
 cap : Nat
instance : Inhabited RowM := ⟨⟨[], none, 0⟩⟩
def encRs (rs : List RowM) : List Value := rs.map fun x => .slice x.A x.l.length x.cap
def rls (rs : List RowM) : List (List Gl) := rs.map RowM.l
theorem encRs_len (rs : List RowM) : (encRs rs).length = rs.length := by simp [encRs]
theorem rls_len (rs : List RowM) : (rls rs).length = rs.length := by simp [rls]
theorem encRs_get {rs : List RowM} {k : Nat} (h : k < rs.length) : (encRs rs)[k]? = some (.slice rs[k].A rs[k].l.length rs[k].cap) := by simp [encRs, h]
theorem rls_get {rs : List RowM} {k : Nat} (h : k < rs.length) : (rls rs)[k]'(by rw [rls_len]; exact h) = rs[k].l := by simp [rls]
theorem rls_getD {rs : List RowM} {k : Nat} (h : k < rs.length) : (rls rs).getD k [] = rs[k].l := by simp [rls, h]
theorem encRs_cells (rs : List RowM) : (encRs rs).all Value.oneCell' = true := by
 rw [List.all_eq_true]
 intro u hu
 obtain ⟨x, _, rfl⟩ := List.mem_map.1 hu
 rfl
def RdG (w : World) (B : Nat) (x : RowM) : Prop := Rd w B 3 x.A x.l.length (encGs x.l) ∧ x.l.length ≤ x.cap ∧ x.cap ≤ maxLen
theorem RdG.below {w w' : World} {B : Nat} {x : RowM} (h : RdG w B x) (hb : Below B w w') : RdG w' B x := ⟨h.1.below hb, h.2⟩
theorem RdG.more {w : World} {B B' : Nat} {x : RowM} (h : RdG w B x) (hb : B ≤ B') : RdG w B' x := ⟨h.1.more hb, h.2⟩
structure RdRs (w : World) (B : Nat) (A : Option Addr) (n : Nat) (rs : List RowM) : Prop where
 rd : Rd w B 1 A n (encRs rs)
 gl : ∀ x ∈ rs, RdG w B x
theorem RdRs.len {w : World} {B n : Nat} {A : Option Addr} {l : List RowM} (h : RdRs w B A n l) : l.length = n := by
 have := h.rd.1
 rw [encRs_len] at this
 omega
theorem RdRs.below {w w' : World} {B n : Nat} {A : Option Addr} {l : List RowM} (h : RdRs w B A n l) (hb : Below B w w') : RdRs w' B A n l := ⟨h.rd.below hb, fun x hx => (h.gl x hx).below hb⟩
theorem RdRs.more {w : World} {B B' n : Nat} {A : Option Addr} {l : List RowM} (h : RdRs w B A n l) (hb : B ≤ B') : RdRs w B' A n l := ⟨h.rd.more hb, fun x hx => (h.gl x hx).more hb⟩
theorem RdRs.at_ {w : World} {B n : Nat} {A : Option Addr} {l : List RowM} (h : RdRs w B A n l) {k : Nat} (hk : k < l.length) : ∃ b o, A = some ⟨b, o, none⟩ ∧ b < B ∧ w.cell? ⟨b, o + k, none⟩ = some (.slice l[k].A l[k].l.length l[k].cap) := by
 have hn := h.len
 obtain ⟨b, o, e, hb, hc⟩ := h.rd.2 (by omega)
 exact ⟨b, o, e, hb, hc k _ (encRs_get hk)⟩
def vwC (v : Vw) (A : Option Addr) (n c : Nat) : Array Value := #[.int .i64 v.width, .int .i64 v.height, .slice A n c, .int .i64 v.row, .int .i64 v.col, .bool v.vis]
def RdV (w : World) (B : Nat) (v : Vw) (A : Option Addr) (n c : Nat) (rs : List RowM) : Prop := RdRs w B A n rs ∧ v.rows = rls rs ∧ n ≤ c ∧ c ≤ maxLen
theorem RdV.below {w w' : World} {B n c : Nat} {A : Option Addr} {v : Vw} {rs : List RowM} (h : RdV w B v A n c rs) (hb : Below B w w') : RdV w' B v A n c rs := ⟨h.1.below hb, h.2⟩
theorem RdV.more {w : World} {B B' n c : Nat} {A : Option Addr} {v : Vw} {rs : List RowM} (h : RdV w B v A n c rs) (hb : B ≤ B') : RdV w B' v A n c rs := ⟨h.1.more hb, h.2⟩
theorem RdV.len {w : World} {B n c : Nat} {A : Option Addr} {v : Vw} {rs : List RowM} (h : RdV w B v A n c rs) : v.rows.length = n := by
 rw [h.2.1, rls_len]; exact h.1.len
end Go.Proofs.YtholajadbbdcmaaGreatDoor
namespace Go.Proofs.YtholajadbbdcmaaGreatDoor
open Go.RowKit
set_option maxRecDepth 20000
set_option maxHeartbeats 1000000 in
theorem vwidth_ (l : List Gl) (A : Option Addr) (n c B : Nat) (w : World) (hm : n ≤ 1000000000) (rd : Rd w B 3 A n (encGs l)) (hB : B ≤ w.heap.size) : Calls Tryz.prog 56 #[.slice A n c] w (Gives (.int .i64 (rowW l : Nat)) w) := by
 have HG : Hid (∀ k (hk : k < l.length) w', Below w.heap.size w w' → ∃ b o, A = some ⟨b, o, none⟩ ∧ b < B ∧ (w'.cell? ⟨b, (o + k * 3), none⟩ = some (.string l[k].text) ∧ w'.cell? ⟨b, (o + k * 3) + 1, none⟩ = some (.bool l[k].wide) ∧ w'.cell? ⟨b, (o + k * 3) + 2, none⟩ = some (.int .i64 l[k].style))) := Lib.hid fun k hk w' hb => rd_gl (rd.below (hb.mono hB)) hk (gl_len rd)
 have HN := Lib.hid (gl_len rd)
 have HL : Hid (∀ k, wideN (l.take k) ≤ n) := Lib.hid fun k => by rw [← HN.out]; exact wide_take_le l k
 have HE : Hid (rowW l = n + wideN (l.take n)) := Lib.hid (by unfold rowW; rw [HN.out, List.take_of_length_le (Nat.le_of_eq HN.out)])
 generalize rowW l = R at *
 clear rd
 go_enter Tryz.func56, Tryz.ntmps56
 go_wp2
 go_loopw [3, 10] (fun v x wr => ∃ k : Nat, k ≤ n ∧ x = .int .i64 k ∧ v = .int .i64 ((n + wideN (l.take k) : Nat) : Int) ∧ Below w.heap.size w wr) (fun _ x _ => n - (intOf x).toNat)
 case atStart => exact ⟨0, Nat.zero_le _, rfl, rfl, Below.refl _ _⟩
 case round =>
  obtain ⟨k, hk, rfl, rfl, hb⟩ := hrel
  by_cases hlt : k < n
  ·have hkl : k < l.length := by have := HN.out; omega
   obtain ⟨b, o, rfl, _, g0, g1, g2⟩ := HG.out k hkl _ hb
   have HT := Lib.hid (wide_take hkl)
   have hW := HL.out k
   generalize wideN (l.take k) = W1 at *
   generalize l[k] = g at *
   obtain ⟨t, wd, st⟩ := g
   dsimp only at *
   cases wd
   ·go_wp2
    exact ⟨⟨k + 1, by omega, by go_num, by rw [HT.out]; rfl, hb.alloc hb.size _⟩, by simp [intOf]; omega⟩
   ·go_wp2
    exact ⟨⟨k + 1, by omega, by go_num, by rw [HT.out]; simp only [Bool.toNat_true]; go_num, hb.alloc hb.size _⟩, by simp [intOf]; omega⟩
  ·obtain rfl : k = n := by omega
   go_wp2
   go_ret
   exact ⟨by rw [HE.out]; rfl, hb⟩
set_option maxHeartbeats 1000000 in
theorem rwidth15_ (l : List Gl) (A : Option Addr) (n c B : Nat) (w : World) (hm : n ≤ 1000000000) (rd : Rd w B 3 A n (encGs l)) : Calls Tryz.prog 41 #[.slice A n c] w fun e w' => e = .returned (.int .i64 (rowW l : Nat)) ∧ w' = w := by
 have HN := Lib.hid (gl_len rd)
 have HRd := Lib.hid rd
 have HL : Hid (∀ k, wideN (l.take k) ≤ n) := Lib.hid fun k => by rw [← HN.out]; exact wide_take_le l k
 have HE : Hid (rowW l = n + wideN (l.take n)) := Lib.hid (by unfold rowW; rw [HN.out, List.take_of_length_le (Nat.le_of_eq HN.out)])
 generalize rowW l = R at *
 clear rd
 go_enter Tryz.func41, Tryz.ntmps41
 go_wp2
 go_loop [3, 4] (fun v x => ∃ k : Nat, k ≤ n ∧ x = .int .i64 k ∧ v = .int .i64 ((k + wideN (l.take k) : Nat) : Int)) (fun _ x => n - (intOf x).toNat)
 case atStart => exact ⟨0, Nat.zero_le _, rfl, rfl⟩
 case round =>
  obtain ⟨k, hk, rfl, rfl⟩ := hrel
  by_cases hlt : k < n
  ·have hkl : k < l.length := by have := HN.out; omega
   obtain ⟨b, o, rfl, _, -, g1, -⟩ := rd_gl HRd.out hkl HN.out
   have HT := Lib.hid (wide_take hkl)
   have hW := HL.out k
   generalize wideN (l.take k) = W1 at *
   generalize l[k].wide = wd at *
   cases wd
   ·go_wp2
    exact ⟨⟨k + 1, by omega, by go_num, by rw [HT.out]; simp only [Bool.toNat_false]; go_num⟩, by simp [intOf]; omega⟩
   ·go_wp2
    exact ⟨⟨k + 1, by omega, by go_num, by rw [HT.out]; simp only [Bool.toNat_true]; go_num⟩, by simp [intOf]; omega⟩
  ·obtain rfl : k = n := by omega
   go_wp2
   go_ret
   exact ⟨by rw [HE.out]; rfl, rfl⟩
theorem vsized_ (w0 h0 : Int) (w : World) : Calls Tryz.prog 71 #[.int .i64 w0, .int .i64 h0] w fun e w' => e = .returned (.bool (sizeB w0 h0)) ∧ w = w' := by
 by_cases h1 : 1 ≤ w0
 ·by_cases h2 : w0 ≤ 132
  ·by_cases h3 : 1 ≤ h0
   ·by_cases h4 : h0 ≤ 60
    ·go_enter Tryz.func71, Tryz.ntmps71
     go_wp2
     go_ret
     exact ⟨by unfold sizeB; rw [decide_eq_true (by omega)]; rfl, rfl⟩
    ·go_enter Tryz.func71, Tryz.ntmps71
     go_wp2
     go_ret
     exact ⟨by unfold sizeB; rw [decide_eq_false (by omega)]; rfl, rfl⟩
   ·go_enter Tryz.func71, Tryz.ntmps71
    go_wp2
    go_ret
    exact ⟨by unfold sizeB; rw [decide_eq_false (by omega)]; rfl, rfl⟩
  ·go_enter Tryz.func71, Tryz.ntmps71
   go_wp2
   go_ret
   exact ⟨by unfold sizeB; rw [decide_eq_false (by omega)]; rfl, rfl⟩
 ·go_enter Tryz.func71, Tryz.ntmps71
  go_wp2
  go_ret
  exact ⟨by unfold sizeB; rw [decide_eq_false (by omega)]; rfl, rfl⟩
theorem rsize15_ (w0 h0 : Int) (w : World) : Calls Tryz.prog 62 #[.int .i64 w0, .int .i64 h0] w fun e w' => e = .returned (.bool (sizeB w0 h0)) ∧ w = w' := by
 by_cases h1 : 1 ≤ w0
 ·by_cases h2 : w0 ≤ 132
  ·by_cases h3 : 1 ≤ h0
   ·by_cases h4 : h0 ≤ 60
    ·go_enter Tryz.func62, Tryz.ntmps62
     go_wp2
     go_ret
     exact ⟨by unfold sizeB; rw [decide_eq_true (by omega)]; rfl, rfl⟩
    ·go_enter Tryz.func62, Tryz.ntmps62
     go_wp2
     go_ret
     exact ⟨by unfold sizeB; rw [decide_eq_false (by omega)]; rfl, rfl⟩
   ·go_enter Tryz.func62, Tryz.ntmps62
    go_wp2
    go_ret
    exact ⟨by unfold sizeB; rw [decide_eq_false (by omega)]; rfl, rfl⟩
  ·go_enter Tryz.func62, Tryz.ntmps62
   go_wp2
   go_ret
   exact ⟨by unfold sizeB; rw [decide_eq_false (by omega)]; rfl, rfl⟩
 ·go_enter Tryz.func62, Tryz.ntmps62
  go_wp2
  go_ret
  exact ⟨by unfold sizeB; rw [decide_eq_false (by omega)]; rfl, rfl⟩
theorem btw_ (n a b : Int) (w : World) : Calls Tryz.prog 86 #[.int .i64 n, .int .i64 a, .int .i64 b] w fun e w' => e = .returned (.bool (inB n a b)) ∧ w = w' := by
 unfold inB
 by_cases h1 : a ≤ n
 ·by_cases h2 : n ≤ b
  ·go_enter Tryz.func86, Tryz.ntmps86
   go_wp2
   go_ret
   exact ⟨by simp [h1, h2], rfl⟩
  ·go_enter Tryz.func86, Tryz.ntmps86
   go_wp2
   go_ret
   exact ⟨by simp [h1, h2], rfl⟩
 ·go_enter Tryz.func86, Tryz.ntmps86
  go_wp2
  go_ret
  exact ⟨by rw [decide_eq_false (show ¬ a ≤ n by omega)]; rfl, rfl⟩
end Go.Proofs.YtholajadbbdcmaaGreatDoor
namespace Go.Proofs.YtholajadbbdcmaaGreatDoor
open Go.RowKit
set_option maxRecDepth 20000
theorem elt_row : Elt Tryz.prog 22 51 (.slice none 0 0) 1 24 where
 und := Tryz.underlying22
 row := by
  have h : (Tryz.prog.info? 51).map (fun i => (i.zero, i.size, i.bytes)) = some (some (.slice none 0 0), 1, 24) := by kernel_rfl
  obtain ⟨i, hi, a, b, c⟩ := info_parts h
  exact ⟨i, hi, a, b, c⟩
 zs := rfl
 pos := by decide
theorem nil_gl (w : World) (a : Option Addr) (n c n' c' : Nat) : (binOp .eql 51 (.slice a n c) (.slice none n' c')).run Tryz.prog w = .ok (.bool a.isNone) w := Lib.run_eql_slice_nil w _ _ a n c n' c' Tryz.underlying51
theorem nil_rs (w : World) (a : Option Addr) (n c n' c' : Nat) : (binOp .eql 22 (.slice a n c) (.slice none n' c')).run Tryz.prog w = .ok (.bool a.isNone) w := Lib.run_eql_slice_nil w _ _ a n c n' c' Tryz.underlying22
theorem vblank_ (w : World) : Calls Tryz.prog 75 #[] w (Gives (.agg #[.string ⟨#[32]⟩, .bool false, .int .i64 0]) w) := by
 go_enter Tryz.func75, Tryz.ntmps75
 go_wp2
 exact bodyPost_ret (results_cell_row rfl _ _ w.heap.size 89 _ (0, 0) _ rfl (heap_alloc_new w _) Tryz.underlying89 rfl (by kernel_rfl)) rfl ⟨rfl, (Below.refl _ _).alloc (Nat.le_refl _) _⟩
theorem rblank15_ (g : Gl) (w : World) : Calls Tryz.prog 64 #[glV g] w (Gives (.bool (decide (g = spG))) w) := by
 have hq := eq_gl g spG
 have hg := guard_gl g spG .eql
 unfold glV spG at hq hg
 unfold spG
 generalize decide (g = _) = R at *
 obtain ⟨t, wd, st⟩ := g
 dsimp only at *
 go_enter Tryz.func64, Tryz.ntmps64
 go_wp2
 go_ret
 exact ⟨rfl, (Below.refl _ _).alloc (Nat.le_refl _) _⟩
set_option maxHeartbeats 1000000 in
theorem clone_gl (l : List Gl) (A : Option Addr) (n c B : Nat) (w : World) (hm : n ≤ 1000000000) (rd : Rd w B 3 A n (encGs l)) (hB : B ≤ w.heap.size) : Calls Tryz.prog 85 #[.slice A n c] w (GivesOwn 89 3 id w n (encGs l)) := by
 have q22 := nil_gl
 rcases A with _ | a
 ·have hn : n = 0 := by
   rcases Nat.eq_zero_or_pos n with h | h
   ·exact h
   ·obtain ⟨_, _, h, _⟩ := rd.2 h
    cases h
  subst hn
  obtain rfl : l = [] := List.length_eq_zero_iff.1 (gl_len rd)
  clear rd
  go_enter Tryz.func85, Tryz.ntmps85
  go_wp2
  go_ret
  exact ⟨none, 0, rfl, own_nil _ _ _ _, Below.refl _ _⟩
 ·go_enter Tryz.func85, Tryz.ntmps85
  go_wp2_with (at_builtin; go_must (refine app_list rfl _ _ _ rfl elt_gl (w.heap.size) _ rfl (own_built (xs := []) (by rfl) rfl (Nat.le_refl _) (by omega)) _ _ rfl (rd.below ((Below.refl _ _).alloc hB _)) (by first | rfl | exact encGs_cells _) (by omega) (by omega) (by first | (simp; done) | (simp; omega) | omega) ?_); intro A4 c4 w4 hown4 hbel4 hgr4 hat4; have z4 := hbel4.size; (try simp only [World.size_alloc] at z4); (try simp only [Nat.zero_add, List.nil_append] at hown4))
  go_ret
  exact ⟨A4, c4, by first | rfl | (rw [Nat.zero_add]; rfl), hown4, ((Below.refl _ _).alloc (Nat.le_refl _) _).trans hbel4⟩
set_option maxHeartbeats 1000000 in
theorem clone_rs (l : List RowM) (A : Option Addr) (n c B : Nat) (w : World) (hm : n ≤ 1000000000) (rd : Rd w B 1 A n (encRs l)) (hB : B ≤ w.heap.size) : Calls Tryz.prog 84 #[.slice A n c] w (GivesOwn 51 1 id w n (encRs l)) := by
 have q22 := nil_rs
 rcases A with _ | a
 ·have hn : n = 0 := by
   rcases Nat.eq_zero_or_pos n with h | h
   ·exact h
   ·obtain ⟨_, _, h, _⟩ := rd.2 h
    cases h
  subst hn
  obtain rfl : l = [] := by
   have := rd.1
   rw [encRs_len] at this
   exact List.length_eq_zero_iff.1 (by omega)
  clear rd
  go_enter Tryz.func84, Tryz.ntmps84
  go_wp2
  go_ret
  exact ⟨none, 0, rfl, own_nil _ _ _ _, Below.refl _ _⟩
 ·go_enter Tryz.func84, Tryz.ntmps84
  go_wp2_with (at_builtin; refine app_list rfl _ _ _ rfl elt_row (w.heap.size) _ rfl (own_built (xs := []) (by rfl) rfl (Nat.le_refl _) (by omega)) _ _ rfl (rd.below ((Below.refl _ _).alloc hB _)) (encRs_cells _) (by omega) (by omega) (by first | (simp; done) | (simp; omega) | omega) ?_; intro A4 c4 w4 hown4 hbel4 hgr4 hat4; simp only [Nat.zero_add, List.nil_append] at hown4)
  go_ret
  exact ⟨A4, c4, by first | rfl | (rw [Nat.zero_add]; rfl), hown4, ((Below.refl _ _).alloc (Nat.le_refl _) _).trans hbel4⟩
end Go.Proofs.YtholajadbbdcmaaGreatDoor
namespace Go.Proofs.YtholajadbbdcmaaGreatDoor
open Go.RowKit
set_option maxRecDepth 20000
set_option maxHeartbeats 2000000 in
theorem vtrim_ (l : List Gl) (A : Option Addr) (n c B : Nat) (w : World) (hm : n ≤ 1000000000) (hc : n ≤ c) (hcm : c ≤ maxLen) (rd : Rd w B 3 A n (encGs l)) (hB : B ≤ w.heap.size) : Calls Tryz.prog 111 #[.slice A n c] w (GivesOwn 89 3 id w (trimL l).length (encGs (trimL l))) := by
 have HN := Lib.hid (gl_len rd)
 have HG : Hid (∀ k (hk : k < l.length) w', Below w.heap.size w w' → ∃ b o, A = some ⟨b, o, none⟩ ∧ b < w.heap.size ∧ (w'.cell? ⟨b, (o + k * 3), none⟩ = some (.string l[k].text) ∧ w'.cell? ⟨b, (o + k * 3) + 1, none⟩ = some (.bool l[k].wide) ∧ w'.cell? ⟨b, (o + k * 3) + 2, none⟩ = some (.int .i64 l[k].style))) := Lib.hid fun k hk w' hb => rd_gl ((rd.more hB).below hb) hk (gl_len rd)
 have HR : Hid (∀ k, k ≤ n → Rd w w.heap.size 3 A k (encGs (l.take k))) := Lib.hid fun k hk => by
  rw [encGs_take]
  exact (rd.more hB).take hk
 have HT : Hid (∀ k (hk : k < l.length), trimL (l.take (k + 1)) = if l[k] = spG then trimL (l.take k) else l.take (k + 1)) := Lib.hid fun k hk => trim_take hk
 have H0 : Hid (trimL l = trimL (l.take n)) := Lib.hid (by rw [List.take_of_length_le (Nat.le_of_eq HN.out)])
 clear rd
 have HC : Hid (∀ k, k ≤ n → ∀ w', Below w.heap.size w w' → Calls Tryz.prog 85 #[.slice A k c] w' fun e w'' => ∃ A' c', e = .returned (.slice A' k c') ∧ w''.ownsRow w.heap.size 89 3 (.slice A' k c') k (encGs (l.take k)) ∧ Below w.heap.size w w'') := Lib.hid fun k hk w' hb =>
  (clone_gl (l.take k) A k c w.heap.size w' (by omega) ((HR.out k hk).below hb) hb.size).mono fun e w'' ⟨A', c', h1, h2, h3⟩ => ⟨A', c', h1, own_less h2 hb.size, hb.trans (h3.mono hb.size)⟩
 have hcc : (c : Int) ≤ 9223372036854775807 := by unfold maxLen at hcm; omega
 clear hcm
 go_enter Tryz.func111, Tryz.ntmps111
 go_wp2
 go_loopw [3] (fun v wr => ∃ k : Nat, k ≤ n ∧ v = .int .i64 k ∧ Below w.heap.size w wr ∧ Hid (trimL l = trimL (l.take k))) (fun v _ => (intOf v).toNat)
 case atStart => exact ⟨n, Nat.le_refl _, rfl, Below.refl _ _, H0⟩
 case round =>
  clear H0
  obtain ⟨k, hk, rfl, hb, HK⟩ := hrel
  have hzz := Nat.le_refl wr.heap.size
  by_cases h0 : k = 0
  ·have HL : Hid (trimL l = l.take k) := Lib.hid (by rw [HK.out, h0]; rfl)
   have hk0 : decide (0 < k) = false := decide_eq_false (by omega)
   clear h0 HG HT
   go_wp2
   go_quiet (fail)
   go_wp2_with (go_at_call 85; refine (HC.out k hk _ (below_drewN hb)).mono ?_; rintro e w1 ⟨A1, c1, rfl, o1, b1⟩)
   go_ret
   rw [HL.out, List.length_take, HN.out, Nat.min_eq_left hk]
   exact ⟨A1, c1, rfl, o1, b1⟩
  ·obtain ⟨j, rfl⟩ : ∃ j, k = j + 1 := ⟨k - 1, by omega⟩
   have hjl : j < l.length := by have := HN.out; omega
   obtain ⟨b, o, rfl, hbB, g0, g1, g2⟩ := HG.out j hjl _ hb
   have hq := eq_gl l[j] spG
   have hg := guard_gl l[j] spG .eql
   have N := c3_near ⟨g0, g1, g2⟩ (show b < wr.heap.size from Nat.lt_of_lt_of_le hbB hb.size)
   by_cases he : l[j] = spG
   ·have HL : Hid (trimL l = trimL (l.take j)) := Lib.hid (by rw [HK.out, HT.out j hjl, if_pos he])
    rw [decide_eq_true he] at hq
    clear he HC HG HT
    unfold glV spG at hq hg
    generalize l[j] = g at *
    obtain ⟨t, wd, st⟩ := g
    dsimp only at *
    clear g0 g1 g2 h0
    go_wp2
    refine wp_region_near wr.heap.size (by kernel_rfl) (by kernel_rfl) ?_; (repeat (go_big_quiet_step ((go_at_call 75; exact Calls.near _ hzz (vblank_ _))))); refine wpQuiet_nil ?_; intro _ hw'; obtain ⟨x1, hw''⟩ := hw'; subst hw''
    go_wp2
    exact ⟨⟨j, by omega, by go_num, hb.trans (x1.h.mono hb.size), HL⟩, by simp [intOf]⟩
   ·have HL : Hid (trimL l = l.take (j + 1)) := Lib.hid (by rw [HK.out, HT.out j hjl, if_neg he])
    rw [decide_eq_false he] at hq
    clear he HG HT
    unfold glV spG at hq hg
    generalize l[j] = g at *
    obtain ⟨t, wd, st⟩ := g
    dsimp only at *
    clear g0 g1 g2 h0
    go_wp2
    refine wp_region_near wr.heap.size (by kernel_rfl) (by kernel_rfl) ?_; (repeat (go_big_quiet_step ((go_at_call 75; exact Calls.near _ hzz (vblank_ _))))); refine wpQuiet_nil ?_; intro _ hw'; obtain ⟨x1, hw''⟩ := hw'; subst hw''
    go_wp2_with (go_at_call 85; refine (HC.out (j + 1) hk _ (hb.trans (x1.h.mono hb.size))).mono ?_; rintro e w1 ⟨A1, c1, rfl, o1, b1⟩)
    go_ret
    rw [HL.out, List.length_take, HN.out, Nat.min_eq_left hk]
    exact ⟨A1, c1, rfl, o1, b1⟩
end Go.Proofs.YtholajadbbdcmaaGreatDoor
