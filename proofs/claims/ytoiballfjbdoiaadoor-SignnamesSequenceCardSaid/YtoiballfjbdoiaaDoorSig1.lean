/- The names of the signs: split, index, Name, Sign, Names, character. -/
import Derived.Test.YtoiballfjbdoiaaDoorKit
import Derived.Test.YtoiballfjbdoiaaDoorLib
import Derived.Laws.CopyOwn
import Derived.Laws.Tables
import Derived.Laws.ResultCell
import Derived.Lib.LaidTab
namespace Go.Proofs.YtoiballfjbdoiaaDoor
open Go.RowKit
/-- The names, by their places. -/
def nb : Nat → ByteArray
  | 0 => ⟨#[98, 97, 110, 103]⟩
  | 1 => ⟨#[113, 117, 111, 116, 101]⟩
  | 2 => ⟨#[104, 97, 115, 104]⟩
  | 3 => ⟨#[100, 111, 108, 108, 97, 114]⟩
  | 4 => ⟨#[112, 101, 114, 99, 101, 110, 116]⟩
  | 5 => ⟨#[97, 109, 112, 101, 114, 115, 97, 110, 100]⟩
  | 6 => ⟨#[97, 112, 111, 115, 116, 114, 111, 112, 104, 101]⟩
  | 7 => ⟨#[111, 112, 101, 110]⟩
  | 8 => ⟨#[99, 108, 111, 115, 101]⟩
  | 9 => ⟨#[115, 116, 97, 114]⟩
  | 10 => ⟨#[112, 108, 117, 115]⟩
  | 11 => ⟨#[99, 111, 109, 109, 97]⟩
  | 12 => ⟨#[100, 97, 115, 104]⟩
  | 13 => ⟨#[100, 111, 116]⟩
  | 14 => ⟨#[115, 108, 97, 115, 104]⟩
  | 15 => ⟨#[99, 111, 108, 111, 110]⟩
  | 16 => ⟨#[115, 101, 109, 105, 99, 111, 108, 111, 110]⟩
  | 17 => ⟨#[108, 101, 115, 115]⟩
  | 18 => ⟨#[101, 113, 117, 97, 108, 115]⟩
  | 19 => ⟨#[103, 114, 101, 97, 116, 101, 114]⟩
  | 20 => ⟨#[113, 117, 101, 115, 116, 105, 111, 110]⟩
  | 21 => ⟨#[97, 116]⟩
  | 22 => ⟨#[98, 114, 97, 99, 107, 101, 116]⟩
  | 23 => ⟨#[98, 97, 99, 107, 115, 108, 97, 115, 104]⟩
  | 24 => ⟨#[117, 110, 98, 114, 97, 99, 107, 101, 116]⟩
  | 25 => ⟨#[99, 97, 114, 101, 116]⟩
  | 26 => ⟨#[117, 110, 100, 101, 114, 115, 99, 111, 114, 101]⟩
  | 27 => ⟨#[98, 97, 99, 107, 113, 117, 111, 116, 101]⟩
  | 28 => ⟨#[98, 114, 97, 99, 101]⟩
  | 29 => ⟨#[98, 97, 114]⟩
  | 30 => ⟨#[117, 110, 98, 114, 97, 99, 101]⟩
  | _ => ⟨#[116, 105, 108, 100, 101]⟩
def namesB : ByteArray := ⟨#[98, 97, 110, 103, 32, 113, 117, 111, 116, 101, 32, 104, 97, 115, 104, 32, 100, 111, 108, 108, 97, 114, 32, 112, 101, 114, 99, 101, 110, 116, 32, 97, 109, 112, 101, 114, 115, 97, 110, 100, 32, 97, 112, 111, 115, 116, 114, 111, 112, 104, 101, 32, 111, 112, 101, 110, 32, 99, 108, 111, 115, 101, 32, 115, 116, 97, 114, 32, 112, 108, 117, 115, 32, 99, 111, 109, 109, 97, 32, 100, 97, 115, 104, 32, 100, 111, 116, 32, 115, 108, 97, 115, 104, 32, 99, 111, 108, 111, 110, 32, 115, 101, 109, 105, 99, 111, 108, 111, 110, 32, 108, 101, 115, 115, 32, 101, 113, 117, 97, 108, 115, 32, 103, 114, 101, 97, 116, 101, 114, 32, 113, 117, 101, 115, 116, 105, 111, 110, 32, 97, 116, 32, 98, 114, 97, 99, 107, 101, 116, 32, 98, 97, 99, 107, 115, 108, 97, 115, 104, 32, 117, 110, 98, 114, 97, 99, 107, 101, 116, 32, 99, 97, 114, 101, 116, 32, 117, 110, 100, 101, 114, 115, 99, 111, 114, 101, 32, 98, 97, 99, 107, 113, 117, 111, 116, 101, 32, 98, 114, 97, 99, 101, 32, 98, 97, 114, 32, 117, 110, 98, 114, 97, 99, 101, 32, 116, 105, 108, 100, 101, 32]⟩
def signsB : ByteArray := ⟨#[33, 34, 35, 36, 37, 38, 39, 40, 41, 42, 43, 44, 45, 46, 47, 58, 59, 60, 61, 62, 63, 64, 91, 92, 93, 94, 95, 96, 123, 124, 125, 126]⟩
def nmL : List Value := (List.range 32).map fun i => .string (nb i)
def nmA : Array Value := nmL.toArray
set_option maxRecDepth 100000 in
theorem nm_fields : Lib.fields namesB.data.toList = (List.range 32).map fun i => (nb i).data.toList := by decide +kernel
theorem ascii_of (l : List UInt8) (h : l.all (fun b => decide (b.toNat < 128)) = true) : ∀ (j : Nat) b, l[j]? = some b → b.toNat < 128 := by
  intro j b hb
  have := List.all_eq_true.1 h b (List.mem_of_getElem? hb)
  simpa using this
theorem nm_all : (namesB.data.toList.all fun b => decide (b.toNat < 128)) = true := by decide +kernel
theorem nm_ascii : ∀ (j : Nat) b, namesB.data.toList[j]? = some b → b.toNat < 128 := ascii_of _ nm_all
theorem nm_size0 : namesB.size ≤ 1000 := by decide +kernel
theorem nm_size : namesB.size < 4294967281 := Nat.lt_of_le_of_lt nm_size0 (by omega)
def Sp (w : World) : Prop := Lib.TabIs Tryd.prog w "strings.asciiSpace" .u8 Lib.asciiSpaceTab
theorem gSpace : Tryd.prog.globalNamed "strings.asciiSpace" = some 0 := by kernel_rfl
theorem Sp.below {w w' : World} {B : Nat} (h : Sp w) (hb : Below B w w') (hB : w.heap.size ≤ B) : Sp w' := by
  have hl : 0 < w.heap.size := by
    have hc := h.cell gSpace 0 (by decide +kernel)
    rcases Nat.lt_or_ge 0 w.heap.size with hl | hl
    · exact hl
    · unfold World.cell? at hc
      rw [Array.getElem?_eq_none hl] at hc
      cases hc
  exact var?_below hb gSpace (by omega) h
theorem Sp.drew {w : World} (h : Sp w) : Sp w.drew := h
theorem infoArr : (Tryd.prog.info? 51).map (·.size) = some 32 := by kernel_rfl
theorem nmL_len : nmL.length = 32 := rfl
theorem nmA_one : nmA.all (·.oneCell') = true := by
  rw [Array.all_eq_true_iff_forall_mem]
  intro v hv
  simp [nmA, nmL] at hv
  obtain ⟨i, _, rfl⟩ := hv
  rfl
theorem nmL_one : ∀ v ∈ nmL, v.oneCell' = true := by
  intro v hv
  simp [nmL] at hv
  obtain ⟨i, _, rfl⟩ := hv
  rfl
theorem infoStr : (Tryd.prog.info? 9).map (·.size) = some 1 := by kernel_rfl
theorem splice_all (z : List Value) (h : z.length = 32) : splice z 0 nmL = nmL := by
  unfold splice
  simp [nmL, h]
theorem nm_cells {w : World} {b j : Nat} {v : Value} (hb : w.heap.size = b) (hv : nmL[j]? = some v) : (w.alloc (.cells nmA 9)).cell? ((⟨b, 0, none⟩ : Addr).add j) = some v := by
  subst hb
  rw [add_none, Nat.zero_add, cell_built]
  simpa [nmA] using hv
set_option maxHeartbeats 1000000 in
set_option maxRecDepth 100000 in
theorem split (w : World) (hs : Sp w) : Calls Tryd.prog 33 #[] w (Gives (.agg nmA) w) := by
  have HF : Hid (∀ w, Sp w → Calls Tryd.prog 40 #[.string namesB] w fun e w' => e = .returned (.slice (some ⟨w.heap.size, 0, none⟩) 32 32) ∧ w' = w.alloc (.cells nmA 9)) := Lib.hid fun w hs => by
    have := Tryd.strings_Fields namesB w nm_size nm_ascii hs
    rw [nm_fields] at this
    exact this
  have HS := Lib.hid hs
  clear hs
  go_enter Tryd.func33, Tryd.ntmps33
  go_wp2_with fail
  go_region_law (first
    | (go_simp; go_at_call 40; refine (HF.out _ (HS.out.below (B := w.heap.size) (by (repeat (first | exact Below.refl _ _ | assumption | refine Below.drew ?_ | refine Below.alloc ?_ (by first | (simp; done) | (simp; omega) | omega) _ | refine Below.setCell ?_ (by first | (simp; done) | (simp; omega) | omega) _))) (Nat.le_refl _))).mono ?_; rintro e w1 ⟨rfl, rfl⟩)
    | (refine step_copy_splice rfl _ _ 23 23 rfl 9 Tryd.underlying23 infoStr (some ⟨w.heap.size + 1, 0, none⟩) (some ⟨w.heap.size + 1 + 1, 0, none⟩) 32 32 32 32 rfl rfl (w.heap.size + 1) 0 _ 51 (by exact (Blk.new_ (by simp)).alloc _) nmL rfl (fun _ => ⟨rfl, _, rfl, fun j v hv => by exact nm_cells (by simp) hv⟩) (by simp [nmL]) nmL_one (w.heap.size + 1) _ (Below.refl _ _) (Nat.le_refl _) ?_; intro w2 hcell hbel2))
  have hc1 : w2.heap[w.heap.size + 1]? = some (.cells nmA 51) := by
    have := hcell.out
    rw [splice_all _ (by rfl)] at this
    exact this
  have hb2 : Below w.heap.size w w2 := by
    refine Below.trans (b := _) ?_ (hbel2.mono (by omega))
    (repeat (first | exact Below.refl _ _ | assumption | refine Below.drew ?_ | refine Below.alloc ?_ (by first | (simp; done) | (simp; omega) | omega) _ | refine Below.setCell ?_ (by first | (simp; done) | (simp; omega) | omega) _))
  have hc0 : w2.heap[w.heap.size]? = some (.cells (List.replicate 32 (Value.string ⟨#[]⟩)).toArray 51) := by
    refine (hbel2.block _ (by omega)).trans ?_
    exact ((Blk.new_ rfl).alloc _).alloc _
  clear hcell
  have HC1 := Lib.hid hc1
  have HC0 := Lib.hid hc0
  clear hc1 hc0
  go_wp2_with (first
    | (refine wpList_load_row rfl 51 _ rfl (w.heap.size + 1) rfl 51 nmA (0, 0) _ HC1.out Tryd.underlying51 rfl infoArr ?_)
    | (refine wpList_store_row rfl 51 _ _ rfl w.heap.size nmA rfl rfl 51 _ HC0.out infoArr rfl nmA_one ?_))
  have hfin : (w2.setRow w.heap.size nmA).heap[w.heap.size]? = some (.cells nmA 51) := by
    simp [World.setRow, Array.getElem?_modify, HC0.out]
  refine bodyPost_ret (results_cell_row rfl _ _ w.heap.size 51 nmA (0, 0) _ rfl hfin Tryd.underlying51 rfl infoArr) rfl ⟨rfl, below_setRow hb2 (Nat.le_refl _) _⟩
end Go.Proofs.YtoiballfjbdoiaaDoor
