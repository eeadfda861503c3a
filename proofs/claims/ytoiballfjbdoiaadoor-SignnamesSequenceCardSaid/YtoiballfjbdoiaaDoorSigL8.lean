/- SignnamesSequence: the law's walk. -/
import Derived.Test.YtoiballfjbdoiaaDoorSigL2
import Derived.Test.YtoiballfjbdoiaaDoorRow
namespace Go.Proofs.YtoiballfjbdoiaaDoor
open Go.RowKit
def flatS (l : List Int) : List ByteArray := l.flatMap spellL
theorem flat_noNum : ∀ l : List Int, NoNum (flatS l)
  | [] => NoNum.nil
  | r :: l => by
    have := spell_noNum r (flat_noNum l)
    simpa [flatS] using this
theorem flat_le : ∀ l : List Int, (flatS l).length ≤ 16 * l.length
  | [] => Nat.zero_le _
  | r :: l => by
    have h1 := flat_le l
    have h2 := spellL_le r
    have e : flatS (r :: l) = spellL r ++ flatS l := by simp [flatS]
    rw [e, List.length_append, List.length_cons]
    omega
theorem flat_sizes (l : List Int) : ∀ s ∈ flatS l, s.size ≤ maxLen := by
  intro s hs
  obtain ⟨r, _, h⟩ := List.mem_flatMap.1 hs
  exact spell_sizes r s h
theorem flat_take {l : List Int} {k : Nat} (h : k < l.length) : flatS (l.take (k + 1)) = flatS (l.take k) ++ spellL l[k] := by
  unfold flatS
  rw [List.take_succ_eq_append_getElem h, List.flatMap_append, List.flatMap_cons, List.flatMap_nil, List.append_nil]
theorem flat_drop {l : List Int} {k : Nat} (h : k < l.length) : flatS (l.drop k) = spellL l[k] ++ flatS (l.drop (k + 1)) := by
  unfold flatS
  rw [List.drop_eq_getElem_cons h, List.flatMap_cons]
theorem wf_i32 {r : Int} (h : (Lit.int .i32 r).wf = true) : -2147483648 ≤ r ∧ r ≤ 2147483647 := by simpa [Lit.wf, IntKind.min, IntKind.max, IntKind.signed, IntKind.bits] using h
set_option maxHeartbeats 1000000 in
theorem law_SignnamesSequence (w : World) (ht : Sp w) (A : Option Addr) (n c : Nat) (l : List Int) (hn : l.length = n) (hc : n ≤ c) (hm : c ≤ maxLen) (rd : Rd w w.heap.size 1 A n (ivs .i32 l)) (hs : ∀ x ∈ l, (Lit.int .i32 x).wf = true) :
    Calls Tryd.prog 7 #[.slice A n c] w (Gives (.bool true) w) := by
  have hnm : n ≤ 9223372036854775807 := by unfold maxLen at hm; omega
  have HA : Hid (∀ w1, Below w.heap.size w w1 → Calls Tryd.prog 14 #[] w1 (Gives (.bool true) w1)) := Lib.hid fun w1 hb => awake w1 (ht.below hb (Nat.le_refl _))
  have HT := Lib.hid ht
  have HN := Lib.hid hn
  have HRD := Lib.hid rd
  have HWF := Lib.hid hs
  clear hn hs hm ht rd
  by_cases h12 : 12 < n
  · have hi12 : (12 : Int) < (n : Int) := by omega
    go_enter Tryd.func7, Tryd.ntmps7
    go_wp2_with (go_at_call 14; refine (HA.out _ (Below.refl _ _)).mono ?_; rintro e w1 ⟨rfl, hbel1⟩)
    go_ret
    exact ⟨rfl, hbel1⟩
  · have hi12 : (n : Int) ≤ 12 := by omega
    have HSP : Hid (∀ r w1, r ∈ l → Below w.heap.size w w1 → Calls Tryd.prog 12 #[.int .i32 r] w1 (GivesOwn 9 1 id w1 (spellL r).length (sv (spellL r)))) := Lib.hid fun r w1 hr hb => by
      obtain ⟨h1, h2⟩ := wf_i32 (HWF.out r hr)
      exact spell r h1 h2 w1 (HT.out.below hb (Nat.le_refl _))
    have HUN : Hid (∀ x A m c w1, x.length = m → m ≤ c → c ≤ maxLen → Rd w1 w1.heap.size 1 A m (sv x) → (∀ s ∈ x, s.size ≤ maxLen) → Below w.heap.size w w1 → Calls Tryd.prog 16 #[.slice A m c] w1 (Gives (unsV (unspellL x)) w1)) := Lib.hid fun x A m c w1 h1 h2 h3 h4 h5 h6 => unspell x A m c w1 h1 h2 h3 h4 h5 (HT.out.below h6 (Nat.le_refl _))
    go_enter Tryd.func7, Tryd.ntmps7
    go_wp2_with fail
    go_loopw [3, 4] (fun x y wr => ∃ k m : Nat, k ≤ n ∧ y = .int .i64 k ∧ m ≤ 16 * k ∧ (flatS (l.take k)).length = m ∧ Ow wr w.heap.size 9 1 x m (sv (flatS (l.take k))) ∧ Below w.heap.size w wr) (fun _ y _ => n - (intOf y).toNat)
    case atStart => exact ⟨0, 0, Nat.zero_le _, rfl, Nat.zero_le _, rfl, ⟨none, 0, rfl, own_nil _ _ _ _⟩, Below.refl _ _⟩
    case round =>
      obtain ⟨k, m, hk, rfl, hm, hml, ⟨A0, c0, rfl, hown⟩, hbel⟩ := hrel
      have HML := Lib.hid hml
      clear hml
      obtain ⟨wo, rfl⟩ : ∃ x : World, x = wr := ⟨_, rfl⟩
      by_cases hlt : k < n
      · have hkl : k < l.length := by have := HN.out; omega
        obtain ⟨b, o, rfl, _, hcell0⟩ := HRD.out.at_ hlt
        have hv : (ivs .i32 l)[k]? = some (.int .i32 l[k]) := by simp [ivs, hkl]
        rw [hv] at hcell0
        have hcell := cell_up hcell0 hbel
        have HF := Lib.hid (flat_take hkl)
        have HS : Hid (∀ w1, Below w.heap.size w w1 → Calls Tryd.prog 12 #[.int .i32 l[k]] w1 (GivesOwn 9 1 id w1 (spellL l[k]).length (sv (spellL l[k])))) := Lib.hid fun w1 hb => HSP.out _ w1 (List.getElem_mem hkl) hb
        have hle := spellL_le l[k]
        have hz := hbel.size
        clear hv hcell0
        generalize l[k] = r at *
        generalize spellL r = X at *
        go_wp2_with (first
          | (go_at_call 12; refine (HS.out _ hbel).mono ?_; rintro e w1 ⟨A1, c1, rfl, hown1, hbel1⟩; have t1 := hbel.trans (hbel1.mono hbel.size); have z1 := hbel1.size)
          | ((at_builtin; refine app_list rfl _ _ _ rfl elt_str (w.heap.size) _ rfl ((own_below hown hbel1)) _ _ rfl ((Rd.of_own hown1)) (by first | rfl | exact sv_one _ | exact wv_one _) (by omega) (by omega) (by first | (simp; done) | (simp; omega) | omega) ?_; intro A2 c2 w2 hown2 hbel2 hgr2 hat2; have z2 := hbel2.size; (try simp only [World.size_alloc] at z2); (try simp only [Nat.zero_add, List.nil_append] at hown2)); have t2 := t1.trans hbel2))
        refine ⟨⟨k + 1, m + X.length, by omega, by go_num, by omega, by rw [HF.out, List.length_append, HML.out], ⟨_, _, rfl, ?_⟩, t2⟩, by simp [intOf]; omega⟩
        rw [HF.out]
        simpa [sv] using hown2
      · obtain rfl : k = n := by omega
        have HRow : Hid (Rd wo wo.heap.size 1 A0 m (sv (flatS (l.drop 0))) ∧ m ≤ c0 ∧ c0 ≤ maxLen ∧ (flatS (l.drop 0)).length = m) := Lib.hid (by
          have e : l.take k = l := List.take_of_length_le (by have := HN.out; omega)
          have h1 := Rd.of_own hown
          have h2 := HML.out
          rw [e] at h1 h2
          exact ⟨h1, (own_cap hown).1, (own_cap hown).2, h2⟩)
        clear HML hown hm
        go_wp2_with fail
        go_loopw [3, 5] (fun x y wr => ∃ (j m : Nat) (A : Option Addr) (c : Nat), j ≤ k ∧ y = .int .i64 j ∧ x = .slice A m c ∧ Below w.heap.size w wr ∧ Hid (Rd wr wr.heap.size 1 A m (sv (flatS (l.drop j))) ∧ m ≤ c ∧ c ≤ maxLen ∧ (flatS (l.drop j)).length = m)) (fun _ y _ => k - (intOf y).toNat)
        case atStart => exact ⟨0, m, A0, c0, Nat.zero_le _, rfl, rfl, hbel, HRow⟩
        case round =>
          clear hbel HRow
          clear wo
          obtain ⟨j, m, A2, c2, hj, rfl, rfl, hbel, HR⟩ := hrel
          obtain ⟨wo, rfl⟩ : ∃ x : World, x = wr := ⟨_, rfl⟩
          by_cases hlt : j < k
          · have hkl : j < l.length := by have := HN.out; omega
            obtain ⟨b, o, rfl, _, hcell0⟩ := HRD.out.at_ hlt
            have hv : (ivs .i32 l)[j]? = some (.int .i32 l[j]) := by simp [ivs, hkl]
            rw [hv] at hcell0
            have hcell := cell_up hcell0 hbel
            have HF := Lib.hid (flat_drop hkl)
            have HS : Hid (∀ w1, Below w.heap.size w w1 → Calls Tryd.prog 12 #[.int .i32 l[j]] w1 (GivesOwn 9 1 id w1 (spellL l[j]).length (sv (spellL l[j])))) := Lib.hid fun w1 hb => HSP.out _ w1 (List.getElem_mem hkl) hb
            have hle := spellL_le l[j]
            have hz := hbel.size
            have HNN := Lib.hid (flat_noNum (l.drop (j + 1)))
            have HSZ := Lib.hid (flat_sizes (l.drop j))
            have HC0 := Lib.hid hcell0
            clear hv hcell0
            generalize l[j] = r at *
            cases hch : isCharB r with
            | false =>
              have hnil : spellL r = [] := spell_nil.2 hch
              rw [hnil] at HS HF
              have HF' : Hid (flatS (l.drop j) = flatS (l.drop (j + 1))) := HF
              clear hch hnil hle
              go_wp2_with (first
                | (go_at_call 12; refine (HS.out _ hbel).mono ?_; rintro e w1 ⟨A1, c1, rfl, hown1, hbel1⟩; have t1 := hbel.trans (hbel1.mono hbel.size)))
              refine ⟨⟨j + 1, m, A2, c2, by omega, by go_num, rfl, t1, Lib.hid ?_⟩, by simp [intOf]; omega⟩
              obtain ⟨h1, h2, h3, h4⟩ := HR.out
              rw [HF'.out] at h1 h4
              exact ⟨(h1.below hbel1).more hbel1.size, h2, h3, h4⟩
            | true =>
              have hpos := spell_pos hch
              have HU2 : Hid (unspellL (flatS (l.drop j)) = some (r, (spellL r).length)) := Lib.hid (by
                rw [HF.out]
                exact unspell_spell hch HNN.out)
              have hlen : m = (spellL r).length + (flatS (l.drop (j + 1))).length := by rw [← HR.out.2.2.2, HF.out, List.length_append]
              have hcm := HR.out.2.1
              have hcx := HR.out.2.2.1
              unfold maxLen at hcx
              clear hch
              have hi1 : ((spellL r).length : Int) ≤ (m : Int) := by omega
              have hi2 : ((spellL r).length : Int) ≤ (c2 : Int) := by omega
              have hi3 : (0 : Int) ≤ ((spellL r).length : Int) := by omega
              have hi4 : (spellL r).length ≤ c2 := by omega
              have hi5 : (spellL r).length ≤ m := by omega
              have hc63 : c2 ≤ 9223372036854775807 := by omega
              have hne : ((spellL r).length == 0) = false := beq_eq_false_iff_ne.2 (by omega)
              have hne2 : (((spellL r).length : Int) == 0) = false := beq_eq_false_iff_ne.2 (by omega)
              have HUA : Hid (∀ w1, Below w.heap.size w w1 → Below wo.heap.size wo w1 → Calls Tryd.prog 16 #[.slice A2 m c2] w1 (Gives (.tuple #[.int .i32 r, .int .i64 (((spellL r).length : Nat) : Int), .int .i64 0]) w1)) := Lib.hid fun w1 hb hb' => by
                obtain ⟨h1, h2, h3, h4⟩ := HR.out
                have := HUN.out (flatS (l.drop j)) A2 m c2 w1 h4 h2 h3 ((h1.below hb').more hb'.size) HSZ.out hb
                rwa [HU2.out] at this
              have HCUT : Hid (Rd wo wo.heap.size 1 (if c2 = (spellL r).length then A2 else A2.map fun a => a.add ((spellL r).length * 1)) (m - (spellL r).length) (sv (flatS (l.drop (j + 1))))) := Lib.hid (by
                obtain ⟨h1, h2, h3, h4⟩ := HR.out
                have := h1.cut (k := (spellL r).length) (cap := c2) (by omega) h2
                rw [HF.out] at this
                simpa [sv] using this)
              obtain ⟨b2, o2, rfl, _, _⟩ := HR.out.1.at_ (show 0 < m by omega)
              have HLN := Lib.hid hlen
              clear HR HF HNN HSZ HU2 hlen hcx
              by_cases hck : (spellL r).length = c2
              · have HC1 : Hid (Rd wo wo.heap.size 1 (some ⟨b2, o2, none⟩) (m - (spellL r).length) (sv (flatS (l.drop (j + 1))))) := Lib.hid (by have := HCUT.out; rwa [if_pos hck.symm] at this)
                clear HCUT
                generalize spellL r = X at *
                subst hck
                go_wp2_with (first
                  | (go_at_call 12; refine (HS.out _ hbel).mono ?_; rintro e w1 ⟨A1, c1, rfl, hown1, hbel1⟩; have t1 := hbel.trans (hbel1.mono hbel.size))
                  | (go_at_call 16; refine (HUA.out _ t1 hbel1).mono ?_; rintro e w2 ⟨rfl, hbel2⟩; have t2 := t1.trans (hbel2.mono t1.size); have hcell2 := cell_up HC0.out t2))
                refine ⟨⟨j + 1, m - X.length, some ⟨b2, o2, none⟩, 0, by omega, by go_num, by simp; omega, t2, Lib.hid ⟨?_, ?_, ?_, ?_⟩⟩, by simp [intOf]; omega⟩
                · exact ((HC1.out.below hbel1).below (hbel2.mono hbel1.size)).more (by have := hbel1.size; have := hbel2.size; omega)
                · omega
                · omega
                · have := HLN.out; omega
              · have HC1 : Hid (Rd wo wo.heap.size 1 (some ⟨b2, o2 + (spellL r).length, none⟩) (m - (spellL r).length) (sv (flatS (l.drop (j + 1))))) := Lib.hid (by have := HCUT.out; rw [if_neg (fun e => hck e.symm)] at this; simpa [add_none] using this)
                clear HCUT
                generalize spellL r = X at *
                go_wp2_with (first
                  | (go_at_call 12; refine (HS.out _ hbel).mono ?_; rintro e w1 ⟨A1, c1, rfl, hown1, hbel1⟩; have t1 := hbel.trans (hbel1.mono hbel.size))
                  | (go_at_call 16; refine (HUA.out _ t1 hbel1).mono ?_; rintro e w2 ⟨rfl, hbel2⟩; have t2 := t1.trans (hbel2.mono t1.size); have hcell2 := cell_up HC0.out t2))
                refine ⟨⟨j + 1, m - X.length, some ⟨b2, o2 + X.length, none⟩, c2 - X.length, by omega, by go_num, by rfl, t2, Lib.hid ⟨?_, ?_, ?_, ?_⟩⟩, by simp [intOf]; omega⟩
                · exact ((HC1.out.below hbel1).below (hbel2.mono hbel1.size)).more (by have := hbel1.size; have := hbel2.size; omega)
                · omega
                · have := hcm; unfold maxLen; omega
                · have := HLN.out; omega
          · obtain rfl : j = k := by omega
            obtain ⟨h1, h2, h3, h4⟩ := HR.out
            have e : l.drop j = [] := List.drop_of_length_le (by have := HN.out; omega)
            rw [e] at h4
            obtain rfl : m = 0 := h4.symm
            clear h1 h2 h3 h4 HR e
            go_wp2_with (go_at_call 14; refine (HA.out _ hbel).mono ?_; rintro e w5 ⟨rfl, hbel5⟩)
            go_ret
            exact ⟨rfl, hbel.trans (hbel5.mono hbel.size)⟩
end Go.Proofs.YtoiballfjbdoiaaDoor
