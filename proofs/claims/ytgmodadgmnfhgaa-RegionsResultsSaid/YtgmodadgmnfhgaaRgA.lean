/- slices.SortFunc over regions by regions.compare: the row ends as sortL. -/
import Derived.Test.YtgmodadgmnfhgaaRg5
import Derived.Shelf.SlSortCmp.NoneTotal
namespace Go.Proofs.Ytgmodadgmnfhgaa
open Go.RowKit Go.Sort
theorem encL_at (l : List Reg) (j : Nat) (h : j < l.length * 8) : (encL l)[j]? = some ((encR l.toArray[j / 8]!)[j % 8]!) := by
  have e : j = j / 8 * 8 + j % 8 := by omega
  have hk : j / 8 < l.length := by omega
  have h8 : j % 8 < (encR l[j / 8]).length := by rw [encR_len]; omega
  rw [e, encL_get _ _ _ (by omega), List.getElem?_eq_getElem hk, Option.bind_some, List.getElem?_eq_getElem h8]
  have e1 : (j / 8 * 8 + j % 8) / 8 = j / 8 := by omega
  have e2 : (j / 8 * 8 + j % 8) % 8 = j % 8 := by omega
  rw [e1, e2, getElem!_pos l.toArray (j / 8) (by simpa using hk), List.getElem_toArray, getElem!_pos (encR l[j / 8]) (j % 8) h8]
theorem holds_own {w : World} {base g m cap : Nat} {e : TypeId} {l : List Reg} (hl : l.length = m) (h : w.ownsRow base e 8 (.slice (some ⟨g, 0, none⟩) m cap) m (encL l)) : HoldsK encR 8 w g 0 l.toArray := by
  intro j hj
  rw [size_flatK] at hj
  have hj' : j < l.length * 8 := by simpa using hj
  rw [Nat.zero_add]
  refine ⟨?_, h.frozenAt j⟩
  rw [h.cellAt j (by rw [← hl]; exact hj'), encL_at l j hj', get_flatK _ _ _ _ hj]
  rfl
theorem own_sorted {w : World} {base g m cap n : Nat} {e : TypeId} {l : List Reg} {d : Array Reg} {os : Array Obj} (hd : d.size = m) (h : w.ownsRow base e 8 (.slice (some ⟨g, 0, none⟩) m cap) m (encL l)) :
    (sortWorldK encR 8 w g 0 n d os).ownsRow base e 8 (.slice (some ⟨g, 0, none⟩) m cap) m (encL d.toList) ∧ Below base w (sortWorldK encR 8 w g 0 n d os) := by
  rcases h.2 with ⟨h', _⟩ | ⟨g', cap', cur, h', hb, hg, hnc, hcm, hcs, htake⟩
  · simp at h'
  simp only [Value.slice.injEq, Option.some.injEq, Addr.mk.injEq, and_true, true_and] at h'
  obtain ⟨rfl, rfl⟩ := h'
  have hgl : g < w.heap.size := by
    rcases Nat.lt_or_ge g w.heap.size with h | h
    · exact h
    · rw [Array.getElem?_eq_none h] at hg; cases hg
  have hheap : (sortWorldK encR 8 w g 0 n d os).heap = w.heap.modify g (onCells (putCells id 0 (flatK encR 8 d))) ++ os := rfl
  refine ⟨⟨by rw [encL_len, Array.length_toList, hd], .inr ⟨g, cap, putCells id 0 (flatK encR 8 d) cur, rfl, hb, ?_, hnc, hcm, by simp [putCells, hcs], ?_⟩⟩, ⟨rfl, rfl, rfl, ?_, fun k hk => ?_⟩⟩
  · rw [hheap, Array.getElem?_append_left (by simpa using hgl), Array.getElem?_modify, if_pos rfl, hg]
    rfl
  · apply List.ext_getElem?
    intro j
    by_cases hj : j < m * 8
    · rw [List.getElem?_take, if_pos hj, encL_at _ j (by rw [Array.length_toList, hd]; exact hj)]
      have hjc : j < cur.size := by rw [hcs]; have := Nat.mul_le_mul_right 8 hnc; omega
      have hjf : j < d.size * 8 := by rw [hd]; exact hj
      rw [Array.getElem?_toList, putCells, Array.getElem?_mapIdx, Array.getElem?_eq_getElem hjc, Option.map_some, if_pos ⟨Nat.zero_le _, by rw [size_flatK]; omega⟩, Nat.sub_zero, get_flatK _ _ _ _ hjf]
      simp
    · rw [List.getElem?_take, if_neg hj, List.getElem?_eq_none (by rw [encL_len, Array.length_toList, hd]; omega)]
  · rw [hheap]; simp
  · rw [hheap, Array.getElem?_append_left (by simp; omega), Array.getElem?_modify, if_neg (by omega)]
theorem ltOf_cmp : ltOf cmpR = ltR := rfl
set_option maxHeartbeats 1000000 in
theorem sort_ (l : List Reg) (base g cap m : Nat) (w : World) (hl : l.length = m) (hm : m ≤ 100000) (h : w.ownsRow base 31 8 (.slice (some ⟨g, 0, none⟩) m cap) m (encL l)) :
    Calls Try.prog 24 #[.slice (some ⟨g, 0, none⟩) m cap, .func (.func 25) #[] #[]] w fun e w' => e = .returned (.tuple #[]) ∧ w'.ownsRow base 31 8 (.slice (some ⟨g, 0, none⟩) m cap) m (encL (sortL l)) ∧ Below base w w' := by
  have eg : ∀ args w, (callFunc 25 args).run Try.prog w = .ok (.enter 25 args) w := enters_of Try.func25 (by kernel_rfl) rfl
  have hgl : g < w.heap.size := (h.lt g rfl).2
  have hcmp : CmpLays Try.prog 25 #[] encR 8 cmpR g 0 l.toArray.size w := fun _ _ _ _ x y => compare_ x y _
  have hcon := AnyQ.slices_SortFunc Try.sortReg 8 Try.isAgg31 Try.sizeOf31 encR (fun _ => rfl) (fun x v hv => by simp [encR] at hv; rcases hv with rfl | rfl | rfl | rfl | rfl | rfl | rfl | rfl <;> rfl) cmpR (by rw [ltOf_cmp]; exact swoR) 25 #[] g 0 cap l.toArray w eg hcmp (holds_own hl h) hgl (by rw [List.size_toArray]; omega)
  rw [List.size_toArray, hl] at hcon
  refine Calls.mono hcon ?_
  rintro e w' ⟨rfl, d', n, os, hp, hs, rfl⟩
  have hsz : d'.size = m := by rw [hp.1, List.size_toArray, hl]
  obtain ⟨o1, o2⟩ := own_sorted (n := n) (os := os) hsz h
  refine ⟨rfl, ?_, o2⟩
  have hperm : d'.toList.Perm l := by
    have := hp.2.2
    rw [← hsz, Array.extract_size] at this
    rw [show d'.size = l.toArray.size by rw [hsz, List.size_toArray, hl], Array.extract_size] at this
    exact this
  have hsort : d'.toList.Pairwise leR := by
    rw [List.pairwise_iff_getElem]
    intro i j hi hj hij
    rw [Array.length_toList] at hi hj
    have := hs i j (Nat.zero_le _) hij (by omega)
    rw [ltOf_cmp, getElem!_pos d' i hi, getElem!_pos d' j hj] at this
    exact le_of_not_lt this
  rw [← sortL_unique hsort hperm]
  exact o1
end Go.Proofs.Ytgmodadgmnfhgaa
