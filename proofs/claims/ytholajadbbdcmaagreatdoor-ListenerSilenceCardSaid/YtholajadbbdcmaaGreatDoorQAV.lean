/- Joined texts: Pa4. -/
import Derived.Test.YtholajadbbdcmaaGreatDoorQAA
import Derived.Test.YtholajadbbdcmaaGreatDoorQAB
import Derived.Test.YtholajadbbdcmaaGreatDoorQAC
import Derived.Test.YtholajadbbdcmaaGreatDoorQAD
import Derived.Test.YtholajadbbdcmaaGreatDoorQAE
import Derived.Test.YtholajadbbdcmaaGreatDoorQAF
import Derived.Test.YtholajadbbdcmaaGreatDoorQAG
import Derived.Test.YtholajadbbdcmaaGreatDoorQAH
import Derived.Test.YtholajadbbdcmaaGreatDoorQAU
set_option linter.unusedVariables false
set_option linter.unusedSimpArgs false
set_option linter.unnecessarySimpa false
namespace Go.Proofs.YtholajadbbdcmaaGreatDoor
open Go.RowKit
set_option maxRecDepth 20000
def litV : Option (ByteArray × Nat) → Value
 | some (s, n) => .tuple #[.string s, .int .i64 n]
 | none => .tuple #[.string ⟨#[]⟩, .int .i64 0]
def catT (t : List ByteArray) (j : Nat) : ByteArray := ⟨((t.take j).flatMap fun s => s.data.toList).toArray⟩
theorem catT_snoc {t : List ByteArray} {j : Nat} (h : j < t.length) : catT t (j + 1) = catT t j ++ t[j] := by
 unfold catT
 apply ByteArray.ext
 rw [ByteArray.data_append]
 apply Array.toList_inj.1
 rw [(List.take_append_getElem h).symm, List.flatMap_append]
 simp
theorem take_while {α : Type} {p : α → Bool} {t : List α} {j : Nat} (hj : j ≤ t.length) (h : ∀ k (hk : k < t.length), k < j → p t[k] = true) (hs : ∀ hk : j < t.length, p t[j] = false) : t.takeWhile p = t.take j := by
 have e : t = t.take j ++ t.drop j := (List.take_append_drop _ _).symm
 conv => lhs; rw [e]
 rw [List.takeWhile_append_of_pos fun x hx => by
  obtain ⟨k, hk, rfl⟩ := List.mem_iff_getElem.1 hx
  rw [List.getElem_take]
  rw [List.length_take] at hk
  exact h k (by omega) (by omega)]
 rcases Nat.lt_or_ge j t.length with hlt | hge
 ·rw [List.drop_eq_getElem_cons hlt, List.takeWhile_cons_of_neg (by rw [hs hlt]; simp), List.append_nil]
 ·rw [List.drop_of_length_le hge]
  simp
theorem sp_stop {t : List ByteArray} {j : Nat} (hj : j ≤ t.length) (h : ∀ k (hk : k < t.length), k < j → oneB t[k] = true) (hs : ∀ hk : j < t.length, oneB t[j] = false) :
  spelledL t = if j = 0 then none else if t[j]? = some bEnd then some (catT t j, j + 2) else none := by
 unfold spelledL
 rw [take_while hj h hs, List.length_take, Nat.min_eq_left hj]
 rfl
theorem catT_size {t : List ByteArray} {j : Nat} (hj : j ≤ t.length) (h : ∀ k (hk : k < t.length), k < j → oneB t[k] = true) : (catT t j).size = j := by
 induction j with
 | zero => rfl
 | succ j ih =>
  have h1 := h j (by omega) (by omega)
  unfold oneB at h1
  rw [Bool.and_eq_true, decide_eq_true_eq] at h1
  rw [catT_snoc (by omega), ByteArray.size_append, ih (by omega) fun k hk hkj => h k hk (by omega), h1.2]
theorem strq {a b : ByteArray} {l : List UInt8} (hb : b.data.toList = l) : (a.toList == l) = decide (a = b) := by rw [← hb, ← ByteArray.toList_eq, str_beq]
set_option maxHeartbeats 8000000 in
theorem literal_ (l : List ByteArray) (A : Option Addr) (n c B g nb : Nat) (w : World) (hsz : ∀ s ∈ l, s.size ≤ 1000) (hl : l.length ≤ 1000000) (rd : Rd w B 1 A n (sv l)) (hB : B ≤ w.heap.size)
  (hg : g < w.heap.size) (C0 : w.cell? ⟨g, 0, none⟩ = some (.map (some nb))) (hset : SetM w nb 200 resB) :
  Calls Tryz.prog 191 #[.pointer (some ⟨g, 0, none⟩), .slice A n c] w (Gives (litV (litL l)) w) := by
 have hn : l.length = n := by have := rd.1; simp [sv] at this; omega
 have hzz : w.heap.size ≤ w.heap.size := Nat.le_refl _
 cases l with
 | nil =>
  obtain rfl : n = 0 := by simpa using hn.symm
  clear rd hset C0
  go_enter Tryz.func191, Tryz.ntmps191
  go_wp2
  go_ret2
  exact ⟨rfl, Below.refl _ _⟩
 | cons a t =>
  have hn1 : 0 < n := by rw [← hn]; simp
  have ht : t.length + 1 = n := by simpa using hn
  obtain ⟨b, o, rfl, hb, hca⟩ := rd.at_ hn1
  have ha : w.cell? ⟨b, o, none⟩ = some (.string a) := hca
  have han : ∀ x : Near w.heap.size w, x.w.cell? ⟨b, o, none⟩ = some (.string a) := fun x => (x.h.cell (by show b < _; omega)).trans ha
  have h0n : ∀ x : Near w.heap.size w, x.w.cell? ⟨g, 0, none⟩ = some (.map (some nb)) := fun x => (x.h.cell hg).trans C0
  have hHL : ∀ x : Near w.heap.size w, (Instr.lookup 201 (.map (some nb)) (.string a) false).run Tryz.prog x.w = .ok (.bool (resB a)) x.w := fun x => (hset.below x.h).look a (Nat.le_trans (hsz a (by simp)) (by decide))
  have HP := Lib.hid (plain_ a (Nat.le_trans (hsz a (by simp)) (by decide)))
  have q1 := strq (a := a) (b := bWord) (l := [119, 111, 114, 100]) rfl
  have q2 := strq (a := a) (b := bSpelled) (l := [115, 112, 101, 108, 108, 101, 100]) rfl
  have haz := azB a
  by_cases hw : a = bWord
  ·rw [decide_eq_true hw] at q1
   have hne : a ≠ bSpelled := by rw [hw]; decide +kernel
   rw [decide_eq_false hne] at q2
   have haz1 : azB a = true := by rw [hw]; decide +kernel
   have hrs1 : resB a = true := by rw [hw]; decide +kernel
   rw [hrs1] at hHL
   rw [haz1] at HP
   have e1 : azB (t.headD ⟨#[]⟩) = false → litL (a :: t) = none := fun h => by
    rw [litL, if_neg (by rw [h]; simp), if_neg (by rw [hrs1]; simp), if_neg hne]
   cases t with
   | nil =>
    obtain rfl : n = 1 := by simpa using ht.symm
    rw [e1 (by decide +kernel)]
    clear e1 hne haz1 hrs1 hset hsz hw hca rd haz
    go_enter Tryz.func191, Tryz.ntmps191
    go_upto_region 5 with fail
    refine wp_region_near w.heap.size (by kernel_rfl) (by kernel_rfl) ?_; (repeat (go_big_quiet_step ((go_at_call 198; exact Calls.near _ hzz (HP.out _))))); refine wpQuiet_nil ?_; intro _ hw'; obtain ⟨x1, hw''⟩ := hw'; subst hw''
    have ha1 := han x1
    have hb1 := x1.h
    generalize x1.w = w1 at *
    go_wp2
    go_ret2
    exact ⟨rfl, hb1⟩
   | cons d t' =>
    have hn2 : 1 < n := by rw [← ht]; simp
    have hcd := rd.at_ hn2
    obtain ⟨b', o', e', _, hcd⟩ := hcd
    simp only [Option.some.injEq, Addr.mk.injEq, and_true] at e'
    obtain ⟨rfl, rfl⟩ := e'
    have hd : w.cell? ⟨b, o + 1, none⟩ = some (.string d) := hcd
    have HD := Lib.hid (plain_ d (Nat.le_trans (hsz d (by simp)) (by decide)))
    rw [List.headD_cons] at e1
    cases hz : azB d with
    | true =>
     have e2 : litL (a :: d :: t') = some (d, 2) := by rw [litL, List.headD_cons, if_pos ⟨hw, hz⟩]
     rw [e2]
     rw [hz] at HD
     clear e1 e2 hne haz1 hrs1 hset hsz hw hca hcd rd haz hz
     go_enter Tryz.func191, Tryz.ntmps191
     go_wp2_with (go_at_call 198; refine (HD.out _).mono ?_; rintro e w1 ⟨rfl, hbel1⟩; have hd1 := (hbel1.cell (p := ⟨b, o + 1, none⟩) (by show b < _; omega)).trans hd)
     go_ret2
     exact ⟨rfl, hbel1⟩
    | false =>
     rw [e1 hz]
     rw [hz] at HD
     clear e1 hne haz1 hrs1 hset hsz hw hca hcd rd haz hz
     go_enter Tryz.func191, Tryz.ntmps191
     go_upto_region 5 with (go_at_call 198; refine (HD.out _).mono ?_; rintro e w1 ⟨rfl, hbel1⟩)
     have hzz1 : w.heap.size ≤ w1.heap.size := hbel1.size
     have han1 : ∀ x : Near w.heap.size w1, x.w.cell? ⟨b, o, none⟩ = some (.string a) := fun x => han ⟨x.w, hbel1.trans x.h⟩
     have h0n1 : ∀ x : Near w.heap.size w1, x.w.cell? ⟨g, 0, none⟩ = some (.map (some nb)) := fun x => h0n ⟨x.w, hbel1.trans x.h⟩
     have hHL1 : ∀ x : Near w.heap.size w1, (Instr.lookup 201 (.map (some nb)) (.string a) false).run Tryz.prog x.w = .ok (.bool true) x.w := fun x => hHL ⟨x.w, hbel1.trans x.h⟩
     refine wp_region_near w.heap.size (by kernel_rfl) (by kernel_rfl) ?_; (repeat (go_big_quiet_step ((go_at_call 198; exact Calls.near _ hzz1 (HP.out _))))); refine wpQuiet_nil ?_; intro _ hw'; obtain ⟨x1, hw''⟩ := hw'; subst hw''
     have ha1 := han1 x1
     have hb1 := hbel1.trans x1.h
     generalize x1.w = w2 at *
     go_wp2
     go_ret2
     exact ⟨rfl, hb1⟩
  ·rw [decide_eq_false hw] at q1
   have e1 : litL (a :: t) = if azB a = true ∧ resB a = false then some (a, 1) else if a = bSpelled then spelledL t else none := if_neg fun h => hw h.1
   by_cases hlit : azB a = true ∧ resB a = false
   ·rw [e1, if_pos hlit]
    rw [hlit.1] at HP
    rw [hlit.2] at hHL
    clear e1 hlit q2 hset hsz hw hca rd
    go_enter Tryz.func191, Tryz.ntmps191
    go_upto_region 5 with fail
    refine wp_region_near w.heap.size (by kernel_rfl) (by kernel_rfl) ?_; (repeat (go_big_quiet_step ((go_at_call 198; exact Calls.near _ hzz (HP.out _))))); refine wpQuiet_nil ?_; intro _ hw'; obtain ⟨x1, hw''⟩ := hw'; subst hw''
    go_wp2
    go_ret2
    exact ⟨rfl, x1.h⟩
   ·rw [e1, if_neg hlit]
    obtain ⟨RES, hRES⟩ : ∃ x, x = if a = bSpelled then spelledL t else none := ⟨_, rfl⟩
    rw [← hRES]
    replace hRES := Lib.hid hRES
    have hcs : azB a = false ∨ (azB a = true ∧ resB a = true) := by
     cases h1 : azB a with
     | false => exact .inl rfl
     | true =>
      cases h2 : resB a with
      | true => exact .inr ⟨rfl, rfl⟩
      | false => exact absurd ⟨h1, h2⟩ hlit
    have hsz' := Lib.hid hsz
    clear e1 hlit hset hsz hw hca haz
    go_enter Tryz.func191, Tryz.ntmps191
    go_upto_region 5 with fail
    go_cut [30] (fun v wx => v = .bool false ∧ Below w.heap.size w wx)
    case first =>
     clear hsz' rd q2
     rcases hcs with hz | ⟨hz, hr⟩
     ·rw [hz] at HP
      clear hHL hz
      refine wp_region_near w.heap.size (by kernel_rfl) (by kernel_rfl) ?_; (repeat (go_big_quiet_step ((go_at_call 198; exact Calls.near _ hzz (HP.out _))))); refine wpQuiet_nil ?_; intro _ hw'; obtain ⟨x1, hw''⟩ := hw'; subst hw''
      go_wp2
      go_meet
      exact ⟨rfl, x1.h⟩
     ·rw [hz] at HP
      rw [hr] at hHL
      clear hz hr
      refine wp_region_near w.heap.size (by kernel_rfl) (by kernel_rfl) ?_; (repeat (go_big_quiet_step ((go_at_call 198; exact Calls.near _ hzz (HP.out _))))); refine wpQuiet_nil ?_; intro _ hw'; obtain ⟨x1, hw''⟩ := hw'; subst hw''
      go_wp2
      go_meet
      exact ⟨rfl, x1.h⟩
    case rest =>
     obtain ⟨rfl, hbc⟩ := hcut
     clear han h0n hHL HP hcs C0 hg
     have ha1 := (hbc.cell (p := ⟨b, o, none⟩) (by show b < _; omega)).trans ha
     by_cases hsp : a = bSpelled
     ·rw [decide_eq_true hsp] at q2
      replace hRES := Lib.hid (hRES.out.trans (if_pos hsp))
      have HLt : Hid (∀ k (hk : k < t.length), t[k].size ≤ 1000) := Lib.hid fun k hk => hsz'.out _ (List.mem_cons_of_mem _ (List.getElem_mem hk))
      have HC : Hid (∀ k (hk : k < t.length) w', Below w.heap.size w w' → w'.cell? ⟨b, o + (k + 1), none⟩ = some (.string t[k])) := Lib.hid fun k hk w' hw => by
       obtain ⟨b', o', e', _, hcd⟩ := rd.at_ (k := k + 1) (by omega)
       simp only [Option.some.injEq, Addr.mk.injEq, and_true] at e'
       obtain ⟨rfl, rfl⟩ := e'
       refine (hw.cell (by show b < _; omega)).trans (hcd.trans ?_)
       show (sv (a :: t))[k + 1]? = _
       simp [sv, hk]
      have HS : Hid (∀ k (hk : k < t.length), catT t (k + 1) = catT t k ++ t[k]) := Lib.hid fun k hk => catT_snoc hk
      have HSt : Hid (∀ j, j ≤ t.length → (∀ k (hk : k < t.length), k < j → oneB t[k] = true) → (∀ hk : j < t.length, oneB t[j] = false) → spelledL t = if j = 0 then none else if t[j]? = some bEnd then some (catT t j, j + 2) else none) := Lib.hid fun j h1 h2 h3 => sp_stop h1 h2 h3
      have HSz : Hid (∀ j, j ≤ t.length → (∀ k (hk : k < t.length), k < j → oneB t[k] = true) → (catT t j).size = j) := Lib.hid fun j h1 h2 => catT_size h1 h2
      rw [← hRES.out] at HSt
      clear rd hsz' hsp q1 ha
      have hl' : t.length ≤ 1000000 := by simp at hl; omega
      have ht' := Lib.hid ht
      clear hn hl ht
      go_wp2
      go_loopw [7, 6] (fun x y wr => ∃ j : Nat, j ≤ t.length ∧ x = .int .i64 (j + 1 : Nat) ∧ y = .string (catT t j) ∧ Below w.heap.size w wr ∧ Hid (∀ k (hk : k < t.length), k < j → oneB t[k] = true)) (fun x _ _ => n - (intOf x).toNat)
      case atStart => exact ⟨0, Nat.zero_le _, rfl, rfl, hbc, Lib.hid fun k hk h => absurd h (Nat.not_lt_zero k)⟩
      case round =>
       clear hbc
       obtain ⟨j, hj, rfl, rfl, hbel, HA⟩ := hrel
       have hz := HSz.out j hj HA.out
       by_cases hlt : j < t.length
       ·have hc := HC.out j hlt wr hbel
        have HCn := Lib.hid (HS.out j hlt)
        have hxs := HLt.out j hlt
        have HSj := Lib.hid (HSt.out j hj HA.out)
        have HAn : Hid (oneB t[j] = true → ∀ k (hk : k < t.length), k < j + 1 → oneB t[k] = true) := Lib.hid fun h k hk hkj => by
         rcases Nat.lt_or_ge k j with h' | h'
         ·exact HA.out k hk h'
         ·obtain rfl : k = j := by omega
          exact h
        have HP := Lib.hid (plain_ t[j] (Nat.le_trans hxs (by decide)))
        have hqe := strq (a := t[j]) (b := bEnd) (l := [101, 110, 100]) rfl
        have htj : t[j]? = some t[j] := List.getElem?_eq_getElem hlt
        have hjn : j + 1 < n := by have := ht'.out; omega
        by_cases hone : oneB t[j] = true
        ·have HA2 := Lib.hid (HAn.out hone)
         have ho := hone
         unfold oneB at ho
         rw [Bool.and_eq_true, decide_eq_true_eq] at ho
         obtain ⟨ho1, ho2⟩ := ho
         have hne : t[j] ≠ bEnd := by rintro e; rw [e] at ho2; cases ho2
         rw [decide_eq_false hne] at hqe
         rw [ho1] at HP
         clear HSj HAn HSt hone hne ho1 HS HSz HC htj
         generalize t[j] = x at *
         generalize catT t j = CJ at *
         go_wp2_with (go_at_call 198; refine (HP.out _).mono ?_; rintro e w1 ⟨rfl, hbel1⟩; have hc1 := (hbel1.cell (p := ⟨b, o + (j + 1), none⟩) (by show b < wr.heap.size; have := hbel.size; omega)).trans hc)
         exact ⟨⟨j + 1, by omega, by go_num, by rw [HCn.out], hbel.trans (hbel1.mono hbel.size), HA2⟩, by simp [intOf]; omega⟩
        ·have HSj2 := Lib.hid (HSj.out (fun _ => by simpa using hone))
         rw [htj] at HSj2
         by_cases hend : t[j] = bEnd ∧ j ≠ 0
         ·have he : (catT t j).toList.isEmpty = false := isEmpty_no' (by omega)
          have HR2 : Hid (RES = some (catT t j, j + 2)) := Lib.hid (by rw [HSj2.out, if_neg hend.2, if_pos (by rw [hend.1])])
          rw [decide_eq_true hend.1] at hqe
          clear HSj HSj2 HAn HSt hone HS HSz HC htj HP HCn hend
          generalize t[j] = x at *
          generalize catT t j = CJ at *
          go_wp2
          go_ret2
          exact ⟨by rw [HR2.out]; show Ending.returned (.tuple #[.string CJ, .int .i64 ((j : Int) + 1 + 1)]) = .returned (.tuple #[.string CJ, .int .i64 ((j + 2 : Nat) : Int)]); rw [show ((j + 2 : Nat) : Int) = (j : Int) + 1 + 1 by omega], hbel⟩
         ·have HR2 : Hid (RES = none) := Lib.hid (by
           rw [HSj2.out]
           by_cases h0 : j = 0
           ·rw [if_pos h0]
           ·rw [if_neg h0, if_neg (fun e => hend ⟨by injection e, h0⟩)])
          by_cases hxe : t[j] = bEnd
          ·have h0 : j = 0 := Classical.not_not.1 fun h => hend ⟨hxe, h⟩
           have he : (catT t j).toList.isEmpty = true := by rw [h0, ByteArray.toList_eq]; rfl
           rw [decide_eq_true hxe] at hqe
           have hx3 : t[j].size = 3 := by rw [hxe]; rfl
           have hxp : azB t[j] = true := by rw [hxe]; decide +kernel
           rw [hxp] at HP
           have hx1 : ((t[j].size : Int) != 1) = true := by rw [hx3]; rfl
           clear HSj HSj2 HAn HSt hone HS HSz HC htj HCn hend hxe hxp h0 hx3
           generalize t[j] = x at *
           generalize catT t j = CJ at *
           go_wp2_with (go_at_call 198; refine (HP.out _).mono ?_; rintro e w1 ⟨rfl, hbel1⟩; have hc1 := (hbel1.cell (p := ⟨b, o + (j + 1), none⟩) (by show b < wr.heap.size; have := hbel.size; omega)).trans hc)
           go_ret2
           exact ⟨by rw [HR2.out]; rfl, hbel.trans (hbel1.mono hbel.size)⟩
          ·rw [decide_eq_false hxe] at hqe
           have hone' : azB t[j] = false ∨ (azB t[j] = true ∧ t[j].size ≠ 1) := by
            cases h1 : azB t[j] with
            | false => exact .inl rfl
            | true =>
             refine .inr ⟨rfl, fun h2 => hone ?_⟩
             unfold oneB
             rw [h1, decide_eq_true h2]
             rfl
           clear HSj HSj2 HAn HSt hone HS HSz HC htj HCn hend hxe
           generalize t[j] = x at *
           generalize catT t j = CJ at *
           rcases hone' with hz | ⟨hz, hx1⟩
           ·rw [hz] at HP
            clear hz
            go_wp2_with (go_at_call 198; refine (HP.out _).mono ?_; rintro e w1 ⟨rfl, hbel1⟩)
            go_ret2
            exact ⟨by rw [HR2.out]; rfl, hbel.trans (hbel1.mono hbel.size)⟩
           ·rw [hz] at HP
            have hx1' : ((x.size : Int) != 1) = true := bne_iff_ne.2 (by omega)
            clear hz
            go_wp2_with (go_at_call 198; refine (HP.out _).mono ?_; rintro e w1 ⟨rfl, hbel1⟩; have hc1 := (hbel1.cell (p := ⟨b, o + (j + 1), none⟩) (by show b < wr.heap.size; have := hbel.size; omega)).trans hc)
            go_ret2
            exact ⟨by rw [HR2.out]; rfl, hbel.trans (hbel1.mono hbel.size)⟩
       ·obtain rfl : j = t.length := by omega
        have hjn : ¬ t.length + 1 < n := by have := ht'.out; omega
        have HR2 : Hid (RES = none) := Lib.hid (by
         rw [HSt.out t.length (Nat.le_refl _) HA.out (fun hk => absurd hk (Nat.lt_irrefl _))]
         split
         ·rfl
         ·rw [List.getElem?_eq_none (Nat.le_refl _), if_neg (by simp)])
        clear HSt HS HSz HC HA HLt
        generalize catT t t.length = CJ at *
        go_wp2
        go_ret2
        exact ⟨by rw [HR2.out]; rfl, hbel⟩
     ·rw [decide_eq_false hsp] at q2
      replace hRES := Lib.hid (hRES.out.trans (if_neg hsp))
      clear rd hsz' hsp q1 ha
      go_wp2
      go_ret2
      exact ⟨by rw [hRES.out]; rfl, hbc⟩
end Go.Proofs.YtholajadbbdcmaaGreatDoor
