/- regions.Nest. -/
import Derived.Test.YtgmodadgmnfhgaaRgA
import Derived.Test.YtgmodadgmnfhgaaRg4
import Derived.Test.YtgmodadgmnfhgaaRg7
import Derived.Test.YtgmodadgmnfhgaaRg8
namespace Go.Proofs.Ytgmodadgmnfhgaa
open Go.RowKit
theorem elt_reg : Elt Try.prog 22 31 (.agg #[.int .i64 0, .int .i64 0, .int .i64 0, .int .i64 0, .int .i64 0, .int .i64 0, .int .i64 0, .string ⟨#[]⟩]) 8 72 where
  und := Try.underlying22
  row := by
    have h : (Try.prog.info? 31).map (fun i => (i.zero, i.size, i.bytes)) = some (some (.agg #[.int .i64 0, .int .i64 0, .int .i64 0, .int .i64 0, .int .i64 0, .int .i64 0, .int .i64 0, .string ⟨#[]⟩]), 8, 72) := by kernel_rfl
    obtain ⟨i, hi, a, b, c⟩ := info_parts h
    exact ⟨i, hi, a, b, c⟩
  zs := rfl
  pos := by decide
theorem own_cap {w : World} {base : Nat} {e : TypeId} {size n c : Nat} {A : Option Addr} {xs : List Value} (h : w.ownsRow base e size (.slice A n c) n xs) : n ≤ c ∧ c ≤ maxLen := by
  rcases h.2 with ⟨h1, h2⟩ | ⟨g, cap, cur, h1, _, _, h2, h3, _⟩
  · injection h1 with _ h3 h4
    subst h3 h4
    exact ⟨Nat.le_refl _, Nat.zero_le _⟩
  · injection h1 with _ _ h4
    subst h4
    exact ⟨h2, h3⟩
theorem own_at {w : World} {base : Nat} {e : TypeId} {size n c : Nat} {A : Option Addr} {xs : List Value} (h : w.ownsRow base e size (.slice A n c) n xs) (hn : 0 < n) : ∃ g, A = some ⟨g, 0, none⟩ ∧ base ≤ g := by
  rcases h.2 with ⟨h1, h2⟩ | ⟨g, cap, cur, h1, h2, _⟩
  · omega
  · injection h1 with h3
    exact ⟨g, h3, h2⟩
theorem encL_app (l m : List Reg) : encL (l ++ m) = encL l ++ encL m := by simp [encL]
theorem encL_one (r : Reg) : encL [r] = encR r := by simp [encL]
theorem encL_set : ∀ (L : List Reg) (i : Nat) (p : Int), i < L.length → (encL L).set (i * 8 + 2) (.int .i64 p) = encL (L.set i (setPar L[i]! p))
  | [], i, p, h => by cases h
  | r :: L, 0, p, _ => by
    have e : encL (r :: L) = encR r ++ encL L := by simp [encL]
    rw [e]
    simp [encL, encR, setPar]
  | r :: L, i + 1, p, h => by
    have e : ∀ x, encL (x :: L) = encR x ++ encL L := fun x => by simp [encL]
    have hi : i < L.length := by simpa using h
    rw [e, List.set_append_right _ _ (by rw [encR_len]; omega), encR_len, show (i + 1) * 8 + 2 - 8 = i * 8 + 2 by omega, encL_set L i p hi, List.set_cons_succ]
    have e2 : (r :: L)[i + 1]! = L[i]! := by
      rw [getElem!_pos (r :: L) (i + 1) h, getElem!_pos L i hi]
      rfl
    rw [e2]
    simp [encL]
theorem filt_succ {l : List Reg} {k : Nat} (h : k < l.length) : (l.take (k + 1)).filter properB = if properE l[k]! = 0 then (l.take k).filter properB ++ [l[k]!] else (l.take k).filter properB := by
  rw [List.take_succ_eq_append_getElem h, List.filter_append, getElem!_pos l k h]
  by_cases hp : properE l[k] = 0
  · rw [if_pos hp]
    simp [properB, hp]
  · rw [if_neg hp]
    simp [properB, hp]
theorem sort_any (l : List Reg) (base m cap : Nat) (A : Option Addr) (w : World) (hl : l.length = m) (hm : m ≤ 100000) (h : w.ownsRow base 31 8 (.slice A m cap) m (encL l)) :
    Calls Try.prog 24 #[.slice A m cap, .func (.func 25) #[] #[]] w fun e w' => e = .returned (.tuple #[]) ∧ w'.ownsRow base 31 8 (.slice A m cap) m (encL (sortL l)) ∧ Below base w w' := by
  rcases Nat.eq_zero_or_pos m with h0 | h0
  · subst h0
    obtain rfl : l = [] := List.length_eq_zero_iff.1 hl
    refine Calls.mono (AnyF.slices_SortFunc_none Try.sortReg A cap _ w) ?_
    rintro e w' ⟨rfl, rfl⟩
    exact ⟨rfl, h, Below.refl _ _⟩
  · obtain ⟨b, o, rfl, _, _⟩ := (Rd.of_own h).2 h0
    have ho : o = 0 := by
      rcases h.2 with ⟨h', _⟩ | ⟨g', cap', cur, h', _⟩
      · simp at h'
      · simp only [Value.slice.injEq, Option.some.injEq, Addr.mk.injEq] at h'
        exact h'.1.2.1
    subst ho
    exact sort_ l base b cap m w hl hm h
set_option maxHeartbeats 2000000 in
theorem nest_ (l : List Reg) (A : Option Addr) (n c : Nat) (w : World) (hn : n ≤ 200) (rd : Rd w w.heap.size 8 A n (encL l)) :
    Calls Try.prog 11 #[.slice A n c] w (GivesOwn 31 8 id w (nestL l).length (encL (nestL l))) := by
  have HL := Lib.hid (rd_len rd)
  have hni : (n : Int) ≤ 200 := by omega
  have HF : Hid (∀ k, k < n → (l.take (k + 1)).filter properB = if properE l[k]! = 0 then (l.take k).filter properB ++ [l[k]!] else (l.take k).filter properB) := Lib.hid fun k h => filt_succ (by have := HL.out; omega)
  have H0 : Hid ((l.take 0).filter properB = []) := Lib.hid rfl
  have HE : Hid ((l.take n).filter properB = l.filter properB) := Lib.hid (by rw [List.take_of_length_le (by have := HL.out; omega)])
  have HNL : Hid (nestL l = parK (sortL (l.filter properB)) (sortL (l.filter properB)).length) := Lib.hid rfl
  have HNS : Hid (∀ i, i < (sortL (l.filter properB)).length → Proper (sortL (l.filter properB))[i]!) := Lib.hid (sorted_proper l)
  have HSL : Hid ((sortL (l.filter properB)).length = (l.filter properB).length) := Lib.hid (sortL_len _)
  generalize nestL l = NL at *
  go_enter Try.func11, Try.ntmps11
  go_wp2
  go_loopw [3, 9] (fun x y wr => ∃ k m : Nat, k ≤ n ∧ y = .int .i64 k ∧ m ≤ k ∧ Hid (((l.take k).filter properB).length = m) ∧ Ow wr w.heap.size 31 8 x m (encL ((l.take k).filter properB)) ∧ Below w.heap.size w wr) (fun _ y _ => n - (intOf y).toNat)
  case atStart => exact ⟨0, 0, Nat.zero_le _, rfl, Nat.zero_le _, Lib.hid (by rw [H0.out]; rfl), ⟨none, 0, rfl, by rw [H0.out]; exact own_nil _ _ _ _⟩, Below.refl _ _⟩
  case round =>
    obtain ⟨k, m, hk, rfl, hm, HM, ⟨A0, c0, rfl, hown⟩, hbel⟩ := hrel
    obtain ⟨wo, rfl⟩ : ∃ x : World, x = wr := ⟨_, rfl⟩
    have hz := hbel.size
    by_cases hlt : k < n
    · obtain ⟨b, o, rfl, hb, hck⟩ := rd_reg rd hlt
      obtain ⟨g0, g1, g2, g3, g4, g5, g6, g7⟩ := c8_below hck hbel hb
      have HFk := Lib.hid (HF.out k hlt)
      have HP : Hid (∀ w, Calls Try.prog 23 #[regV l[k]!] w (Gives (.int .i64 (properE l[k]!)) w)) := Lib.hid fun w => proper _ w
      clear hck
      by_cases he : properE l[k]! = 0
      · have HF2 := Lib.hid (HFk.out.trans (if_pos he))
        rw [he] at HP
        clear he
        generalize l[k]! = r at *
        go_wp2_with (first
          | (go_at_call 23; refine (HP.out _).mono ?_; rintro e w1 ⟨rfl, hbel1⟩; have t1 := (below_box wo (.cells #[.int .i64 r.kind, .int .i64 r.id, .int .i64 r.par, .int .i64 r.top, .int .i64 r.left, .int .i64 r.bot, .int .i64 r.right, .string r.label] 31)).trans (hbel1.mono (by simp)); have z1 := t1.size; obtain ⟨d0, d1, d2, d3, d4, d5, d6, d7⟩ := c8z_below (c8z_new wo r _ rfl) hbel1 (by simp))
          | (at_builtin; go_must (refine app_list rfl _ _ _ rfl elt_reg (w.heap.size) _ rfl ((own_below hown (t1.alloc z1 _))) _ _ rfl ((rd_built (xs := encR r) rfl rfl)) (by first | rfl | exact sv_one _ | exact wv_one _) (by omega) (by omega) (by first | (simp; done) | (simp; omega) | omega) ?_); intro A2 c2 w2 hown2 hbel2 hgr2 hat2; have z2 := hbel2.size; (try simp only [World.size_alloc] at z2); (try simp only [Nat.zero_add, List.nil_append] at hown2)))
        refine ⟨⟨k + 1, m + 1, by omega, by go_num, by omega, Lib.hid (by rw [HF2.out, List.length_append, HM.out]; rfl), ⟨A2, c2, rfl, ?_⟩, ?_⟩, by simp [intOf]; omega⟩
        · rw [HF2.out, encL_app, encL_one]
          exact hown2
        · exact ((hbel.trans (t1.mono hz)).alloc (by omega) _).trans hbel2
      · have HF2 := Lib.hid (HFk.out.trans (if_neg he))
        have hne : (properE l[k]! == 0) = false := beq_eq_false_iff_ne.2 he
        clear he
        generalize properE l[k]! = E at *
        generalize l[k]! = r at *
        go_wp2_with (go_at_call 23; refine (HP.out _).mono ?_; rintro e w1 ⟨rfl, hbel1⟩; have t1 := (below_box wo (.cells #[.int .i64 r.kind, .int .i64 r.id, .int .i64 r.par, .int .i64 r.top, .int .i64 r.left, .int .i64 r.bot, .int .i64 r.right, .string r.label] 31)).trans (hbel1.mono (by simp)))
        refine ⟨⟨k + 1, m, by omega, by go_num, by omega, Lib.hid (by rw [HF2.out, HM.out]), ⟨A0, c0, rfl, ?_⟩, hbel.trans (t1.mono hz)⟩, by simp [intOf]; omega⟩
        rw [HF2.out]
        exact own_below hown t1
    · obtain rfl : k = n := by omega
      rw [HE.out] at hown
      have HM2 : Hid ((l.filter properB).length = m) := Lib.hid (by rw [← HE.out]; exact HM.out)
      have HS : Hid (Calls Try.prog 24 #[.slice A0 m c0, .func (.func 25) #[] #[]] wo fun e w' => e = .returned (.tuple #[]) ∧ w'.ownsRow w.heap.size 31 8 (.slice A0 m c0) m (encL (sortL (l.filter properB))) ∧ Below w.heap.size wo w') := Lib.hid (sort_any _ _ m c0 A0 wo HM2.out (by omega) hown)
      have hm2 : (m : Int) ≤ 200 := by omega
      have hcap := own_cap hown
      generalize sortL (l.filter properB) = S at *
      have HSm : Hid (S.length = m) := Lib.hid (by rw [HSL.out, HM2.out])
      clear hown HM
      go_wp2_with (go_at_call 24; refine HS.out.mono ?_; rintro e w1 ⟨rfl, hown1, hbel1⟩; have t1 := hbel.trans hbel1)
      go_loopw [30] (fun y wr => ∃ i : Nat, i ≤ m ∧ y = .int .i64 i ∧ wr.ownsRow w.heap.size 31 8 (.slice A0 m c0) m (encL (parK S i)) ∧ Below w.heap.size w wr) (fun y _ => m - (intOf y).toNat)
      case atStart => exact ⟨0, Nat.zero_le _, rfl, by rw [parK_zero]; exact hown1, t1⟩
      case round =>
        clear hown1 hbel1 t1 hbel hz HS
        obtain ⟨i, hi, rfl, hown, hbel⟩ := hrel
        obtain ⟨wo2, rfl⟩ : ∃ x : World, x = wr := ⟨_, rfl⟩
        have hz := hbel.size
        by_cases hlt : i < m
        · obtain ⟨g, rfl, hg⟩ := own_at hown (show 0 < m by omega)
          have hpc := parent_ (parK S i) (some ⟨g, 0, none⟩) m c0 wo2 (by rw [parK_len]; exact HSm.out) (fun j hj => by
            have hjS : j < S.length := by have := HSm.out; omega
            rw [← properE_iff, (parK_rect hjS).2.2.2.1, properE_iff]
            exact HNS.out j hjS) i hlt hcap.1 hcap.2 (Rd.of_own hown)
          have HPC := Lib.hid hpc
          have HSU := Lib.hid (parK_succ (s := S) (k := i) (by have := HSm.out; omega))
          have HSE := Lib.hid (fun p => encL_set (parK S i) i p (by rw [parK_len]; have := HSm.out; omega))
          have hgw := (hown.lt g rfl).2
          have hcl := hown.cellAt (i * 8 + 2) (by omega)
          have hcx : (encL (parK S i))[i * 8 + 2]? = some (.int .i64 (parK S i)[i]!.par) := by
            have hiS : i < (parK S i).length := by rw [parK_len]; have := HSm.out; omega
            rw [encL_get _ _ _ (by omega), List.getElem?_eq_getElem hiS, getElem!_pos _ i hiS]
            rfl
          rw [hcx] at hcl
          generalize parentL (parK S i) i = P at *
          generalize (parK S i)[i]!.par = Q at *
          clear hpc hcx
          have hfr := hown.frozenAt (i * 8 + 2)
          go_wp2_with (go_at_call 26; refine HPC.out.mono ?_; rintro e w2 ⟨rfl, hbel2⟩; have hcl2 := (hbel2.cell (p := ⟨g, i * 8 + 2, none⟩) hgw).trans hcl; have own2 := own_below hown hbel2; have hfr2 := own2.frozenAt (i * 8 + 2))
          have o3 := (own2.stored (i * 8 + 2) (.int .i64 P)).1
          rw [HSE.out P, ← HSU.out] at o3
          exact ⟨⟨i + 1, by omega, by go_num, o3, (hbel.trans (hbel2.mono hz)).setCell (hown.lt g rfl).1 _⟩, by simp [intOf]; omega⟩
        · obtain rfl : i = m := by omega
          go_wp2
          go_ret
          have e := HSm.out
          rw [HNL.out, parK_len, e]
          exact ⟨A0, c0, rfl, hown, hbel⟩
end Go.Proofs.Ytgmodadgmnfhgaa
