/- The words of numbers: the vocabulary, small. -/
import Derived.Test.YtoiballfjbdoiaaDoorKit
namespace Go.Proofs.YtoiballfjbdoiaaDoor
open Go.RowKit
def wb : Nat → ByteArray
  | 0 => ⟨#[122, 101, 114, 111]⟩ | 1 => ⟨#[111, 110, 101]⟩ | 2 => ⟨#[116, 119, 111]⟩ | 3 => ⟨#[116, 104, 114, 101, 101]⟩ | 4 => ⟨#[102, 111, 117, 114]⟩ | 5 => ⟨#[102, 105, 118, 101]⟩
  | 6 => ⟨#[115, 105, 120]⟩ | 7 => ⟨#[115, 101, 118, 101, 110]⟩ | 8 => ⟨#[101, 105, 103, 104, 116]⟩ | 9 => ⟨#[110, 105, 110, 101]⟩ | 10 => ⟨#[116, 101, 110]⟩ | 11 => ⟨#[101, 108, 101, 118, 101, 110]⟩
  | 12 => ⟨#[116, 119, 101, 108, 118, 101]⟩ | 13 => ⟨#[116, 104, 105, 114, 116, 101, 101, 110]⟩ | 14 => ⟨#[102, 111, 117, 114, 116, 101, 101, 110]⟩ | 15 => ⟨#[102, 105, 102, 116, 101, 101, 110]⟩
  | 16 => ⟨#[115, 105, 120, 116, 101, 101, 110]⟩ | 17 => ⟨#[115, 101, 118, 101, 110, 116, 101, 101, 110]⟩ | 18 => ⟨#[101, 105, 103, 104, 116, 101, 101, 110]⟩ | 19 => ⟨#[110, 105, 110, 101, 116, 101, 101, 110]⟩
  | 20 => ⟨#[116, 119, 101, 110, 116, 121]⟩ | 21 => ⟨#[116, 104, 105, 114, 116, 121]⟩ | 22 => ⟨#[102, 111, 114, 116, 121]⟩ | 23 => ⟨#[102, 105, 102, 116, 121]⟩ | 24 => ⟨#[115, 105, 120, 116, 121]⟩
  | 25 => ⟨#[115, 101, 118, 101, 110, 116, 121]⟩ | 26 => ⟨#[101, 105, 103, 104, 116, 121]⟩ | 27 => ⟨#[110, 105, 110, 101, 116, 121]⟩ | 28 => ⟨#[104, 117, 110, 100, 114, 101, 100]⟩
  | 29 => ⟨#[116, 104, 111, 117, 115, 97, 110, 100]⟩ | 30 => ⟨#[109, 105, 108, 108, 105, 111, 110]⟩ | _ => ⟨#[109, 105, 110, 117, 115]⟩
/-- The words with these places in the vocabulary, as values. -/
def wv (l : List Nat) : List Value := l.map fun i => .string (wb i)
def vocab : Array Value := ((List.range 32).map fun i => Value.string (wb i)).toArray
theorem vocab_lit : vocab = #[Value.string (wb 0), .string (wb 1), .string (wb 2), .string (wb 3), .string (wb 4), .string (wb 5), .string (wb 6), .string (wb 7), .string (wb 8), .string (wb 9), .string (wb 10), .string (wb 11), .string (wb 12), .string (wb 13), .string (wb 14), .string (wb 15), .string (wb 16), .string (wb 17), .string (wb 18), .string (wb 19), .string (wb 20), .string (wb 21), .string (wb 22), .string (wb 23), .string (wb 24), .string (wb 25), .string (wb 26), .string (wb 27), .string (wb 28), .string (wb 29), .string (wb 30), .string (wb 31)] := rfl
theorem wv_one (l : List Nat) : (wv l).all Value.oneCell' = true := by
  rw [List.all_eq_true]
  intro u hu
  simp [wv] at hu
  obtain ⟨i, _, rfl⟩ := hu
  rfl
theorem wv_len (l : List Nat) : (wv l).length = l.length := by simp [wv]
theorem wv_append (l k : List Nat) : wv (l ++ k) = wv l ++ wv k := by simp [wv]
set_option maxHeartbeats 400000 in
theorem voc (w : World) : Calls Tryd.prog 24 #[] w fun e w' => e = .returned (.slice (some ⟨w.heap.size, 0, none⟩) 32 32) ∧ w.alloc (.cells vocab 9) = w' := by
  rw [vocab_lit]
  go_enter Tryd.func24, Tryd.ntmps24
  go_wp2
  go_ret
  exact ⟨rfl, rfl⟩
theorem cellVoc (w : World) (i : Nat) (h : i < 32) : (w.alloc (.cells vocab 9)).cell? ⟨w.heap.size, i, none⟩ = some (.string (wb i)) := by
  rw [cell_built]
  simp [vocab, h]
end Go.Proofs.YtoiballfjbdoiaaDoor
