/- SignnamesRoundTrip: the law's walk. -/
import Derived.Test.YtoiballfjbdoiaaDoorSig4
namespace Go.Proofs.YtoiballfjbdoiaaDoor
open Go.RowKit
theorem isCharB_f {r : Int} (h : isCharB r = false) : r < 0 ∨ 1114111 < r ∨ (55296 ≤ r ∧ r ≤ 57343) := by
  have := (isCharB_false r).1 h
  unfold isChar at this
  omega
theorem own_cap {w : World} {base : Nat} {e : TypeId} {size n c : Nat} {A : Option Addr} {xs : List Value} (h : w.ownsRow base e size (.slice A n c) n xs) : n ≤ c ∧ c ≤ maxLen := by
  rcases h.2 with ⟨h1, h2⟩ | ⟨g, cap, cur, h1, _, _, h2, h3, _⟩
  · injection h1 with _ h3 h4
    subst h3 h4
    exact ⟨Nat.le_refl _, Nat.zero_le _⟩
  · injection h1 with _ _ h4
    subst h4
    exact ⟨h2, h3⟩
set_option maxHeartbeats 1000000 in
theorem law_SignnamesRoundTrip (w : World) (ht : Sp w) (a : Int) (wa : (Lit.int .i32 a).wf = true) (b : Int) (wb_ : (Lit.int .i32 b).wf = true) : Calls Tryd.prog 5 #[.int .i32 a, .int .i32 b] w (Gives (.bool true) w) := by
  have ha : -2147483648 ≤ a ∧ a ≤ 2147483647 := by simpa [Lit.wf, IntKind.min, IntKind.max, IntKind.signed, IntKind.bits] using wa
  have hb : -2147483648 ≤ b ∧ b ≤ 2147483647 := by simpa [Lit.wf, IntKind.min, IntKind.max, IntKind.signed, IntKind.bits] using wb_
  obtain ⟨a1, a2⟩ := ha
  obtain ⟨b1, b2⟩ := hb
  have HS : Hid (∀ r w1, -2147483648 ≤ r → r ≤ 2147483647 → Below w.heap.size w w1 → Calls Tryd.prog 12 #[.int .i32 r] w1 (GivesOwn 9 1 id w1 (spellL r).length (sv (spellL r)))) := Lib.hid fun r w1 h1 h2 hb => spell r h1 h2 w1 (ht.below hb (Nat.le_refl _))
  have HA : Hid (∀ w1, Below w.heap.size w w1 → Calls Tryd.prog 14 #[] w1 (Gives (.bool true) w1)) := Lib.hid fun w1 hb => awake w1 (ht.below hb (Nat.le_refl _))
  have hleA := spellL_le a
  have hleB := spellL_le b
  cases hc : isCharB a with
  | false =>
    have hnil : spellL a = [] := spell_nil.2 hc
    have hr := isCharB_f hc
    have H1 : Hid (∀ w1, Below w.heap.size w w1 → Calls Tryd.prog 12 #[.int .i32 a] w1 (GivesOwn 9 1 id w1 0 (sv []))) := Lib.hid fun w1 hb => by
      have := HS.out a w1 a1 a2 hb
      rwa [hnil] at this
    have H2 : Hid (∀ w1, Below w.heap.size w w1 → Calls Tryd.prog 12 #[.int .i32 b] w1 (GivesOwn 9 1 id w1 (spellL b).length (sv (spellL b)))) := Lib.hid fun w1 hb => HS.out b w1 b1 b2 hb
    clear hc hnil HS wa wb_
    generalize spellL b = Y at *
    rcases hr with hr | hr | ⟨hr, hr'⟩
    all_goals
      go_enter Tryd.func5, Tryd.ntmps5
      go_wp2_with (first
        | (go_at_call 12; (fail_if_success have := hbel1); refine (H1.out _ (Below.refl _ _)).mono ?_; rintro e w1 ⟨A1, c1, rfl, hown1, hbel1⟩)
        | (go_at_call 12; refine (H2.out _ hbel1).mono ?_; rintro e w2 ⟨A2, c2, rfl, hown2, hbel2⟩; have t2 := hbel1.trans (hbel2.mono hbel1.size))
        | (go_at_call 14; refine (HA.out _ t2).mono ?_; rintro e w3 ⟨rfl, hbel3⟩))
      go_ret
      exact ⟨rfl, t2.trans (hbel3.mono t2.size)⟩
  | true =>
    have hpos := spell_pos hc
    have HX : Hid (unspellL (spellL a) = some (a, (spellL a).length)) := Lib.hid (by have := unspell_spell hc NoNum.nil; rwa [List.append_nil] at this)
    have HXY : Hid (unspellL (spellL a ++ spellL b) = some (a, (spellL a).length)) := Lib.hid (unspell_spell hc (by have := spell_noNum b NoNum.nil; rwa [List.append_nil] at this))
    have HU : Hid (∀ w1 A c, Below w.heap.size w w1 → w1.ownsRow w.heap.size 9 1 (.slice A (spellL a).length c) (spellL a).length (sv (spellL a)) → Calls Tryd.prog 16 #[.slice A (spellL a).length c] w1 (Gives (.tuple #[.int .i32 a, .int .i64 (((spellL a).length : Nat) : Int), .int .i64 0]) w1)) := Lib.hid fun w1 A c hb h => by
      have := unspell (spellL a) A _ c w1 rfl (own_cap h).1 (own_cap h).2 (Rd.of_own h) (spell_sizes a) (ht.below hb (Nat.le_refl _))
      rwa [HX.out] at this
    have HU2 : Hid (∀ w1 A c B, Below w.heap.size w w1 → w1.ownsRow B 9 1 (.slice A ((spellL a).length + (spellL b).length) c) ((spellL a).length + (spellL b).length) (sv (spellL a) ++ sv (spellL b)) → Calls Tryd.prog 16 #[.slice A ((spellL a).length + (spellL b).length) c] w1 (Gives (.tuple #[.int .i32 a, .int .i64 (((spellL a).length : Nat) : Int), .int .i64 0]) w1)) := Lib.hid fun w1 A c B hb h => by
      have h' := Rd.of_own h
      have e : sv (spellL a) ++ sv (spellL b) = sv (spellL a ++ spellL b) := by simp [sv]
      rw [e] at h'
      have := unspell (spellL a ++ spellL b) A _ c w1 (by simp) (own_cap h).1 (own_cap h).2 h' (fun s hs => by
        rcases List.mem_append.1 hs with hs | hs
        · exact spell_sizes a s hs
        · exact spell_sizes b s hs) (ht.below hb (Nat.le_refl _))
      rwa [HXY.out] at this
    have H1 : Hid (∀ w1, Below w.heap.size w w1 → Calls Tryd.prog 12 #[.int .i32 a] w1 (GivesOwn 9 1 id w1 (spellL a).length (sv (spellL a)))) := Lib.hid fun w1 hb => HS.out a w1 a1 a2 hb
    have H2 : Hid (∀ w1, Below w.heap.size w w1 → Calls Tryd.prog 12 #[.int .i32 b] w1 (GivesOwn 9 1 id w1 (spellL b).length (sv (spellL b)))) := Lib.hid fun w1 hb => HS.out b w1 b1 b2 hb
    clear hc HS wa wb_ HX HXY ht
    generalize spellL b = Y at *
    generalize spellL a = X at *
    have hne : ((X.length : Int) == 0) = false := beq_eq_false_iff_ne.2 (by omega)
    go_enter Tryd.func5, Tryd.ntmps5
    go_wp2_with (first
      | (go_at_call 12; (fail_if_success have := hbel1); refine (H1.out _ (Below.refl _ _)).mono ?_; rintro e w1 ⟨A1, c1, rfl, hown1, hbel1⟩; have z1 := hbel1.size)
      | (go_at_call 12; refine (H2.out _ hbel1).mono ?_; rintro e w2 ⟨A2, c2, rfl, hown2, hbel2⟩; have z2 := hbel2.size; have t2 := hbel1.trans (hbel2.mono hbel1.size))
      | (go_at_call 16; (fail_if_success have := t3); refine (HU.out _ _ _ t2 (own_below hown1 hbel2)).mono ?_; rintro e w3 ⟨rfl, hbel3⟩; have z3 := hbel3.size; have t3 := t2.trans (hbel3.mono t2.size); have o1 := Rd.of_own (own_below (own_below hown1 hbel2) hbel3); have o2 := Rd.of_own (own_below hown2 hbel3))
      | ((at_builtin; refine app_list rfl _ _ _ rfl elt_str (w3.heap.size) _ rfl (own_built (xs := []) (by rfl) rfl (Nat.le_refl _) (by omega)) _ _ rfl ((o1.below ((Below.refl _ _).alloc (Nat.le_refl _) _))) (by first | rfl | exact sv_one _ | exact wv_one _) (by omega) (by omega) (by first | (simp; done) | (simp; omega) | omega) ?_; intro A4 c4 w4 hown4 hbel4 hgr4 hat4; have z4 := hbel4.size; (try simp only [World.size_alloc] at z4); (try simp only [Nat.zero_add, List.nil_append] at hown4)); have t4 := (t3.alloc (by omega) _).trans (hbel4.mono (by omega)); have o2q := o2.below (((Below.refl w3.heap.size w3).alloc (Nat.le_refl _) _).trans hbel4))
      | ((at_builtin; refine app_list rfl _ _ _ rfl elt_str (w3.heap.size) _ rfl (hown4) _ _ rfl (o2q) (by first | rfl | exact sv_one _ | exact wv_one _) (by omega) (by omega) (by first | (simp; done) | (simp; omega) | omega) ?_; intro A5 c5 w5 hown5 hbel5 hgr5 hat5; have z5 := hbel5.size; (try simp only [World.size_alloc] at z5); (try simp only [Nat.zero_add, List.nil_append] at hown5)); have t5 := t4.trans (hbel5.mono (by omega)))
      | (go_at_call 16; refine (HU2.out _ _ _ _ t5 hown5).mono ?_; rintro e w6 ⟨rfl, hbel6⟩; have t6 := t5.trans (hbel6.mono t5.size))
      | (go_at_call 14; refine (HA.out _ t6).mono ?_; rintro e w7 ⟨rfl, hbel7⟩))
    go_ret
    exact ⟨rfl, t6.trans (hbel7.mono t6.size)⟩
end Go.Proofs.YtoiballfjbdoiaaDoor
