/- Joined texts: UxC. -/
import Derived.Test.YtejjfiipghcifaaGreatDoorQAA
import Derived.Test.YtejjfiipghcifaaGreatDoorQAC
import Derived.Test.YtejjfiipghcifaaGreatDoorQAG
import Derived.Test.YtejjfiipghcifaaGreatDoorQAH
import Derived.Test.YtejjfiipghcifaaGreatDoorQAJ
import Derived.Test.YtejjfiipghcifaaGreatDoorQAN
import Derived.Test.YtejjfiipghcifaaGreatDoorQAO
import Derived.Test.YtejjfiipghcifaaGreatDoorQAR
import Derived.Test.YtejjfiipghcifaaGreatDoorQAU
import Derived.Test.YtejjfiipghcifaaGreatDoorQAW
import Derived.Test.YtejjfiipghcifaaGreatDoorQBA
import Derived.Test.YtejjfiipghcifaaGreatDoorQBD
import Derived.Test.YtejjfiipghcifaaGreatDoorQBE
import Derived.Test.YtejjfiipghcifaaGreatDoorQBF
import Derived.Test.YtejjfiipghcifaaGreatDoorQBH
import Derived.Test.YtejjfiipghcifaaGreatDoorQBI
import Derived.Test.YtejjfiipghcifaaGreatDoorQBP
import Derived.Test.YtejjfiipghcifaaGreatDoorQBQ
import Derived.Test.YtejjfiipghcifaaGreatDoorQBT
import Derived.Test.YtejjfiipghcifaaGreatDoorQBU
import Derived.Test.YtejjfiipghcifaaGreatDoorQHT
import Derived.Test.YtejjfiipghcifaaGreatDoorQHV
import Derived.Test.YtejjfiipghcifaaGreatDoorQHX
set_option linter.unusedVariables false
set_option linter.unusedSimpArgs false
set_option linter.unnecessarySimpa false
namespace Go.Proofs.YtejjfiipghcifaaGreatDoor
open Go.RowKit
set_option maxRecDepth 20000
theorem sm_chk {out : List ChgM} (h : ∀ c ∈ chgs out, chkU c = 0) : SmC out := fun x hx => by
 have hc := chk_gl (h x.c (List.mem_map_of_mem hx))
 exact ⟨by omega, fun g hg => by have := (gw_of (hc.2.1 g hg)).2; omega⟩
set_option maxHeartbeats 4000000 in
theorem law_UtteranceCanonical (w : World) (hg : Gd w) (A : Option Addr) (n c : Nat) (l : List ByteArray) (hn : l.length = n) (hc : n ≤ c) (hm : c ≤ maxLen) (rd : Rd w w.heap.size 1 A n (sv l)) (hs : ∀ s ∈ l, s.size ≤ maxLen) :
  Calls Tryz.prog 6 #[.slice A n c] w (Gives (.bool true) w) := by
 subst hn
 have HA : Hid (∀ X, Below w.heap.size w X → Calls Tryz.prog 12 #[] X fun e X' => e = .returned (.bool true) ∧ Below w.heap.size w X' ∧ Below X.heap.size X X') := Lib.hid fun X hX => bothG (awake41_ X (hg.below hX)) hX
 have HSh : Hid (∀ X, Below w.heap.size w X → Calls Tryz.prog 18 #[.slice A l.length c] X fun e X' => e = .returned (.bool (shortW 100 40 l)) ∧ Below w.heap.size w X' ∧ Below X.heap.size X X') := Lib.hid fun X hX => bothS (short41_ l A _ c w.heap.size X (by omega) (rd.below hX)) hX
 have hb0 : Below w.heap.size w w := Below.refl _ _
 by_cases hf : shortW 100 40 l = true
 ·rw [hf] at HSh
  obtain ⟨h1, h2⟩ := short_some hf
  have HC : Hid (∀ X, Below w.heap.size w X → Calls Tryz.prog 19 #[.slice A l.length c] X fun e X' => ChR (changesU l) X e X' ∧ Below w.heap.size w X' ∧ Below X.heap.size X X') := Lib.hid fun X hX => by
   have hg' := hg.below hX
   exact (uchanges_ l A _ c X ⟨rfl, hc, hm, (rd.below hX).more hX.size, fun s hs => Nat.le_trans (h2 s hs) (by decide)⟩ (by omega) hg'.1 hg'.2.1 hg'.2.2).mono fun e X' h => ⟨h, hX.trans (h.1.mono hX.size), h.1⟩
  cases hch : changesU l with
  | none =>
   rw [hch] at HC
   clear hf h1 h2 rd hg hs hch
   go_enter Tryz.func6, Tryz.ntmps6
   go_wp2_with (first
    | (go_at_call 18; refine (HSh.out _ hb0).mono ?_; rintro e w1 ⟨rfl, hb1, hx1⟩)
    | (go_at_call 19; refine (HC.out _ hb1).mono ?_; rintro e w2 ⟨⟨-, rfl⟩, hb2, hx2⟩)
    | (go_at_call 12; refine (HA.out _ (by assumption)).mono ?_; rintro e wa ⟨rfl, hba, hxa⟩))
   go_ret
   exact ⟨rfl, hba⟩
  | some x =>
   obtain ⟨M, K⟩ := x
   rw [hch] at HC
   obtain ⟨hM, hK0, hK1⟩ := changes_range hch
   have hcnt := changes_count hch
   have hbd := words_thirty SU hK0 hK1 (by omega) hM
   have hback := changes_words M K SU hK0 hK1 hM
   have HWo : Hid (∀ X, Below w.heap.size w X → ∀ (out : List ChgM) A2 c2, chgs out = M → RdC X X.heap.size A2 out.length out → Calls Tryz.prog 13 #[.slice A2 out.length c2, .int .i64 K, stV 100 false false 0 false 40] X fun e X' => (∃ A3 c3, e = .returned (.tuple #[.slice A3 (wordsU M K SU).length c3, .int .i64 0]) ∧ X'.ownsRow X.heap.size 9 1 (.slice A3 (wordsU M K SU).length c3) (wordsU M K SU).length (sv (wordsU M K SU))) ∧ Below w.heap.size w X' ∧ Below X.heap.size X X') := Lib.hid fun X hX out A2 c2 ho hr => by
    have hg' := hg.below hX
    have hlo : out.length = M.length := by rw [← ho, chgs_len]
    have hok : ∀ c ∈ chgs out, chkU c = 0 := by rw [ho]; exact hM
    have h0 : wErr out K 100 0 40 = 0 := by
     unfold wErr
     rw [if_neg (by rw [not_or]; exact ⟨by decide +kernel, by omega⟩), if_neg (by omega)]
     exact chkAll_zero.2 hok
    refine (uwords_ out A2 _ c2 K 100 false false 0 false 40 X (by omega) hr (sm_chk hok) hg'.1 hg'.2.1 hg'.2.2).mono fun e X' h => ?_
    unfold UwR at h
    rw [if_pos h0, ho] at h
    obtain ⟨A3, c3, he, h2, h3⟩ := h
    exact ⟨⟨A3, c3, he, h2⟩, hX.trans (h3.mono hX.size), h3⟩
   have HC2 : Hid (∀ X, Below w.heap.size w X → ∀ A2 c2 base, X.ownsRow base 9 1 (.slice A2 (wordsU M K SU).length c2) (wordsU M K SU).length (sv (wordsU M K SU)) → Calls Tryz.prog 19 #[.slice A2 (wordsU M K SU).length c2] X fun e X' => (∃ out A3 c3, chgs out = M ∧ e = .returned (.tuple #[.slice A3 out.length c3, .int .i64 K, .int .i64 0]) ∧ RdC X' X'.heap.size A3 out.length out) ∧ Below w.heap.size w X' ∧ Below X.heap.size X X') := Lib.hid fun X hX A2 c2 base ho =>
    (k_changes hg hbd.1 hbd.2 X hX A2 c2 base ho).mono fun e X' ⟨⟨hb, h⟩, h'⟩ => by
     rw [hback] at h
     obtain ⟨out, A3, c3, h1, h2, h3, h4⟩ := h
     exact ⟨⟨out, A3, c3, h1, h2, h4.rdc h3⟩, h'⟩
   have HCk : Hid (∀ X, Below w.heap.size w X → ∀ (out : List ChgM) A2 c2, chgs out = M → RdC X X.heap.size A2 out.length out → Calls Tryz.prog 16 #[.slice A2 out.length c2] X fun e X' => e = .returned (.int .i64 0) ∧ Below w.heap.size w X' ∧ Below X.heap.size X X') := Lib.hid fun X hX out A2 c2 ho hr => by
    have hok : ∀ c ∈ chgs out, chkU c = 0 := by rw [ho]; exact hM
    have hlo : out.length = M.length := by rw [← ho, chgs_len]
    have := uCheck_ out A2 _ c2 X.heap.size X (by omega) hr (Nat.le_refl _) (sm_chk hok) (hg.below hX).2.1
    rw [chkAll_zero.2 hok] at this
    exact bothG this hX
   have HSm : Hid (∀ X, Below w.heap.size w X → ∀ (out out' : List ChgM) A2 c2 A3 c3, chgs out = M → RdC X X.heap.size A2 out.length out → chgs out' = M → RdC X X.heap.size A3 out'.length out' → Calls Tryz.prog 21 #[.slice A3 out'.length c3, .slice A2 out.length c2] X fun e X' => e = .returned (.bool true) ∧ Below w.heap.size w X' ∧ Below X.heap.size X X') := Lib.hid fun X hX out out' A2 c2 A3 c3 ho hr ho' hr' => by
    have hlo : out'.length = M.length := by rw [← ho', chgs_len]
    have h := rsame19 out' out A3 A2 out'.length out.length c3 c2 X.heap.size X (by omega) hr' hr (Nat.le_refl _) fun x hx => by
     have hxc : x.c ∈ M := by rw [← ho']; exact List.mem_map_of_mem hx
     have := (chk_gl (hM x.c hxc)).1
     omega
    rw [decide_eq_true (ho'.trans ho.symm)] at h
    exact bothG h hX
   clear hf h1 h2 rd hg hs hch hM hbd hback hcnt
   generalize wordsU M K SU = W at *
   go_enter Tryz.func6, Tryz.ntmps6
   go_upto_region 6 with (first
    | (go_at_call 18; refine (HSh.out _ hb0).mono ?_; rintro e w1 ⟨rfl, hb1, hx1⟩)
    | (go_at_call 19; refine (HC.out _ hb1).mono ?_; rintro e w2 ⟨⟨-, out, A2, c2, ho, rfl, hr2, hg2⟩, hb2, hx2⟩))
   have hrc := hg2.rdc hr2
   have HW2 := Lib.hid (HWo.out w2 hb2 out A2 c2 ho hrc)
   have HCk2 : Hid (∀ X, Below w2.heap.size w2 X → Below w.heap.size w X → Calls Tryz.prog 16 #[.slice A2 out.length c2] X fun e X' => e = .returned (.int .i64 0) ∧ Below w.heap.size w X' ∧ Below X.heap.size X X') := Lib.hid fun X h1 h2 => HCk.out X h2 out A2 c2 ho ((hrc.below h1).more h1.size)
   have HSm2 : Hid (∀ X, Below w2.heap.size w2 X → Below w.heap.size w X → ∀ (out' : List ChgM) A3 c3, chgs out' = M → RdC X X.heap.size A3 out'.length out' → Calls Tryz.prog 21 #[.slice A3 out'.length c3, .slice A2 out.length c2] X fun e X' => e = .returned (.bool true) ∧ Below w.heap.size w X' ∧ Below X.heap.size X X') := Lib.hid fun X h1 h2 out' A3 c3 ho' hr' => HSm.out X h2 out out' A2 c2 A3 c3 ho ((hrc.below h1).more h1.size) ho' hr'
   clear HC HWo HCk HSm hrc hr2 hg2 ho HSh
   go_wp2_with (first
    | (go_at_call 13; refine HW2.out.mono ?_; rintro e w3 ⟨⟨A3, c3, rfl, o3⟩, hb3, hx3⟩)
    | (go_at_call 19; refine (HC2.out _ hb3 _ _ _ o3).mono ?_; rintro e w4 ⟨⟨out', A4, c4, ho', rfl, hr4⟩, hb4, hx4⟩; have hx24 := hx3.trans (hx4.mono hx3.size))
    | (go_at_call 16; refine (HCk2.out _ hx24 hb4).mono ?_; rintro e w5 ⟨rfl, hb5, hx5⟩; have HS5 := Lib.hid (HSm2.out _ (hx24.trans (hx5.mono hx24.size)) hb5 _ _ c4 ho' ((hr4.below hx5).more hx5.size)); clear ho')
    | (go_at_call 21; refine HS5.out.mono ?_; rintro e w6 ⟨rfl, hb6, hx6⟩)
    | (go_at_call 12; refine (HA.out _ (by assumption)).mono ?_; rintro e wa ⟨rfl, hba, hxa⟩))
   go_ret
   exact ⟨rfl, hba⟩
 ·have hf' : shortW 100 40 l = false := by simpa using hf
  rw [hf'] at HSh
  clear hf hf' rd hg hs
  go_enter Tryz.func6, Tryz.ntmps6
  go_wp2_with (first | (go_at_call 18; refine (HSh.out _ hb0).mono ?_; rintro e w1 ⟨rfl, hb1, hx1⟩) | (go_at_call 12; refine (HA.out _ (by assumption)).mono ?_; rintro e wa ⟨rfl, hba, hxa⟩))
  go_ret
  exact ⟨rfl, hba⟩
end Go.Proofs.YtejjfiipghcifaaGreatDoor
