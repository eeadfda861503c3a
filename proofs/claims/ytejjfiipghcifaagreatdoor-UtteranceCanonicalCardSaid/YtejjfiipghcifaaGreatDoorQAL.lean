/- Joined texts: Kd1, Un0, Un1. -/
import Derived.Test.YtejjfiipghcifaaGreatDoorQAA
import Derived.Test.YtejjfiipghcifaaGreatDoorQAB
import Derived.Test.YtejjfiipghcifaaGreatDoorQAC
import Derived.Test.YtejjfiipghcifaaGreatDoorQAG
set_option linter.unusedVariables false
set_option linter.unusedSimpArgs false
set_option linter.unnecessarySimpa false
namespace Go.Proofs.YtejjfiipghcifaaGreatDoor
open Go.RowKit
set_option maxRecDepth 20000
theorem one_byte {s : ByteArray} (h : s.size = 1) : ∃ c, s = ⟨#[c]⟩ := by
 obtain ⟨⟨l⟩⟩ := s
 match l, h with
 | [c], _ => exact ⟨c, rfl⟩
theorem kindL_one (c : UInt8) (wd : Bool) (st : Int) : kindL ⟨⟨#[c]⟩, wd, st⟩ = kindB c.toNat := rfl
theorem kindL_no {g : Gl} (h : g.text.size ≠ 1) : kindL g = 0 := by
 unfold kindL
 split
 ·rename_i c hc
  have := congrArg List.length hc
  exact absurd (by simpa using this) h
 ·rfl
set_option maxHeartbeats 1000000 in
theorem kind_ (g : Gl) (hs : g.text.size ≤ 1000000000) (w : World) : Calls Tryz.prog 80 #[glV g] w (Gives (.int .i64 (kindL g : Int)) w) := by
 by_cases h1 : g.text.size = 1
 ·obtain ⟨t, wd, st⟩ := g
  obtain ⟨c, rfl⟩ := one_byte h1
  rw [kindL_one]
  have HK : Hid ((kindB c.toNat : Int) = if 97 ≤ c.toNat ∧ c.toNat ≤ 122 then 1 else if 65 ≤ c.toNat ∧ c.toNat ≤ 90 then 2 else if 48 ≤ c.toNat ∧ c.toNat ≤ 57 then 3 else 0) := Lib.hid (by unfold kindB; (repeat' split) <;> rfl)
  have hb : c.toNat < 256 := UInt8.toNat_lt _
  generalize (kindB c.toNat : Int) = K at *
  clear hs h1
  go_enter Tryz.func80, Tryz.ntmps80
  go_upto_region 4 with fail
  simp only [ByteArray.getElem_eq_getElem_data, List.getElem_toArray, List.getElem_cons_zero]
  generalize c.toNat = b at *
  go_wp2
  all_goals go_ret
  all_goals
   refine ⟨congrArg (fun x => Ending.returned (Value.int .i64 x)) ?_, (Below.refl _ _).alloc (Nat.le_refl _) _⟩
   rw [HK.out]; (repeat' split) <;> first | rfl | omega
 ·rw [kindL_no h1]
  have h2 : ((g.text.size : Int) != 1) = true := bne_iff_ne.2 (by omega)
  obtain ⟨t, wd, st⟩ := g
  dsimp only at *
  clear h1
  go_enter Tryz.func80, Tryz.ntmps80
  go_wp2
  go_ret
  exact ⟨rfl, (Below.refl _ _).alloc (Nat.le_refl _) _⟩
def inB1 (s : ByteArray) (lo hi : Nat) : Bool := match s.data.toList with
 | [c] => decide (lo ≤ c.toNat) && decide (c.toNat ≤ hi)
 | _ => false
theorem inB1_no {s : ByteArray} (h : s.size ≠ 1) (lo hi : Nat) : inB1 s lo hi = false := by
 unfold inB1
 split
 ·rename_i c hc
  have := congrArg List.length hc
  exact absurd (by simpa using this) h
 ·rfl
set_option maxHeartbeats 1000000 in
theorem rin1 (s : ByteArray) (hs : s.size ≤ 1000000000) (lo hi : Nat) (w : World) : Calls Tryz.prog 86 #[.string s, .int .u8 lo, .int .u8 hi] w (Gives (.bool (inB1 s lo hi)) w) := by
 by_cases h1 : s.size = 1
 ·obtain ⟨c, rfl⟩ := one_byte h1
  have HK : Hid (inB1 ⟨#[c]⟩ lo hi = (decide (lo ≤ c.toNat) && decide (c.toNat ≤ hi))) := Lib.hid rfl
  generalize inB1 ⟨#[c]⟩ lo hi = K at *
  clear hs h1
  go_enter Tryz.func86, Tryz.ntmps86
  go_wp2
  all_goals go_ret
  all_goals
   refine ⟨congrArg (fun x => Ending.returned (Value.bool x)) ?_, Below.refl _ _⟩
   rw [HK.out, Bool.eq_iff_iff]
   simp only [ByteArray.getElem_eq_getElem_data, List.getElem_toArray, List.getElem_cons_zero] at *
   first | (simp; done) | (simp; omega)
 ·rw [inB1_no h1]
  have h2 : ((s.size : Int) == 1) = false := beq_eq_false_iff_ne.2 (by omega)
  go_enter Tryz.func86, Tryz.ntmps86
  go_wp2
  go_ret
  exact ⟨rfl, Below.refl _ _⟩
def rkV (k : Nat) : Int := if k = 1 then 97 else if k = 2 then 65 else if k = 3 then 48 else 46
theorem rkV_eq (g : Gl) : rkV (kindL g) = if inB1 g.text 97 122 = true then 97 else if inB1 g.text 65 90 = true then 65 else if inB1 g.text 48 57 = true then 48 else 46 := by
 by_cases h1 : g.text.size = 1
 ·obtain ⟨t, wd, st⟩ := g
  obtain ⟨c, rfl⟩ := one_byte h1
  rw [kindL_one]
  show rkV (kindB c.toNat) = if (decide (97 ≤ c.toNat) && decide (c.toNat ≤ 122)) = true then 97 else if (decide (65 ≤ c.toNat) && decide (c.toNat ≤ 90)) = true then 65 else if (decide (48 ≤ c.toNat) && decide (c.toNat ≤ 57)) = true then 48 else 46
  unfold kindB rkV
  simp only [Bool.and_eq_true, decide_eq_true_eq]
  (repeat' split) <;> omega
 ·rw [kindL_no h1, inB1_no h1, inB1_no h1, inB1_no h1]
  rfl
set_option maxHeartbeats 1000000 in
theorem rkind (g : Gl) (hs : g.text.size ≤ 1000000000) (w : World) : Calls Tryz.prog 65 #[glV g] w (Gives (.int .u8 (rkV (kindL g))) w) := by
 have H1 := Lib.hid (rin1 g.text hs 97 122)
 have H2 := Lib.hid (rin1 g.text hs 65 90)
 have H3 := Lib.hid (rin1 g.text hs 48 57)
 rw [rkV_eq]
 generalize inB1 g.text 97 122 = x1 at *
 generalize inB1 g.text 65 90 = x2 at *
 generalize inB1 g.text 48 57 = x3 at *
 obtain ⟨t, wd, st⟩ := g
 dsimp only at *
 cases x1 with
 | true =>
  simp only [if_true]
  go_enter Tryz.func65, Tryz.ntmps65
  go_upto_region 1 with fail
  refine wp_fg (GlBox w t wd st) (GlBox.new w t wd st _) ?_
  rintro wb hgb
  obtain ⟨c0, _, _, hb0, hz0⟩ := id hgb
  go_wp2_with (go_at_call 86; refine (H1.out _).mono ?_; rintro e w1 ⟨rfl, hbel1⟩)
  go_ret
  exact ⟨rfl, hb0.trans (hbel1.mono (by omega))⟩
 | false =>
  cases x2 with
  | true =>
   simp only [Bool.false_eq_true, if_false, if_true]
   go_enter Tryz.func65, Tryz.ntmps65
   go_upto_region 1 with fail
   refine wp_fg (GlBox w t wd st) (GlBox.new w t wd st _) ?_
   rintro wb hgb
   obtain ⟨c0, _, _, hb0, hz0⟩ := id hgb
   go_upto_region 3 with (go_at_call 86; refine (H1.out _).mono ?_; rintro e w1 ⟨rfl, hbel1⟩; obtain ⟨d0, _, _, hb1, hz1⟩ := hgb.on hbel1)
   go_wp2_with (go_at_call 86; refine (H2.out _).mono ?_; rintro e w2 ⟨rfl, hbel2⟩)
   go_ret
   exact ⟨rfl, hb1.trans (hbel2.mono (by omega))⟩
  | false =>
   cases x3 with
   | true =>
    simp only [Bool.false_eq_true, if_false, if_true]
    go_enter Tryz.func65, Tryz.ntmps65
    go_upto_region 1 with fail
    refine wp_fg (GlBox w t wd st) (GlBox.new w t wd st _) ?_
    rintro wb hgb
    obtain ⟨c0, _, _, hb0, hz0⟩ := id hgb
    go_upto_region 3 with (go_at_call 86; refine (H1.out _).mono ?_; rintro e w1 ⟨rfl, hbel1⟩; have hg1 := hgb.on hbel1; obtain ⟨d0, _, _, hb1, hz1⟩ := id hg1)
    go_upto_region 5 with (go_at_call 86; refine (H2.out _).mono ?_; rintro e w2 ⟨rfl, hbel2⟩; obtain ⟨e0, _, _, hb2, hz2⟩ := hg1.on hbel2)
    go_wp2_with (go_at_call 86; refine (H3.out _).mono ?_; rintro e w3 ⟨rfl, hbel3⟩)
    go_ret
    exact ⟨rfl, hb2.trans (hbel3.mono (by omega))⟩
   | false =>
    simp only [Bool.false_eq_true, if_false]
    go_enter Tryz.func65, Tryz.ntmps65
    go_upto_region 1 with fail
    refine wp_fg (GlBox w t wd st) (GlBox.new w t wd st _) ?_
    rintro wb hgb
    obtain ⟨c0, _, _, hb0, hz0⟩ := id hgb
    go_upto_region 3 with (go_at_call 86; refine (H1.out _).mono ?_; rintro e w1 ⟨rfl, hbel1⟩; have hg1 := hgb.on hbel1; obtain ⟨d0, _, _, hb1, hz1⟩ := id hg1)
    go_upto_region 5 with (go_at_call 86; refine (H2.out _).mono ?_; rintro e w2 ⟨rfl, hbel2⟩; obtain ⟨e0, _, _, hb2, hz2⟩ := hg1.on hbel2)
    go_wp2_with (go_at_call 86; refine (H3.out _).mono ?_; rintro e w3 ⟨rfl, hbel3⟩)
    go_ret
    exact ⟨rfl, hb2.trans (hbel3.mono (by omega))⟩
end Go.Proofs.YtejjfiipghcifaaGreatDoor
namespace Go.Proofs.YtejjfiipghcifaaGreatDoor
def BdU (s : US) : Prop := s.m ≤ 3 ∧ (s.m = 3 → s.v < 8) ∧ (s.m = 2 → s.v < 512) ∧ (s.m = 1 → s.v < 32768) ∧ s.v < 2097152 ∧ s.lo < 256 ∧ s.hi < 256
theorem bdU_u0 : BdU u0 := by unfold BdU u0; dsimp only; omega
theorem begU_bd (b : Nat) : BdU (begU b) := by
 unfold BdU begU
 dsimp only
 refine ⟨?_, ?_, ?_, ?_, ?_, ?_, ?_⟩
 ·split
  ·omega
  ·split
   ·omega
   ·split <;> omega
 ·intro h
  split at h
  ·omega
  ·split at h
   ·omega
   ·split at h
    ·rw [if_neg (by assumption), if_neg (by assumption), if_pos (by assumption)]; omega
    ·omega
 ·intro h
  split at h
  ·omega
  ·split at h
   ·rw [if_neg (by assumption), if_pos (by assumption)]; omega
   ·split at h <;> omega
 ·intro h
  split at h
  ·rw [if_pos (by assumption)]; omega
  ·split at h
   ·omega
   ·split at h <;> omega
 ·split
  ·omega
  ·split
   ·omega
   ·split <;> omega
 ·split
  ·omega
  ·split <;> omega
 ·split
  ·omega
  ·split <;> omega
theorem takeU_bd {s : US} (h : BdU s) (b : Nat) (hm : 0 < s.m) : BdU ⟨s.v * 64 + b % 64, s.m - 1, 0x80, 0xBF⟩ := by
 unfold BdU at *
 dsimp only
 omega
theorem step_on {s : US} {b : Nat} {t out : List Nat} (h0 : 0 < s.m) (h1 : s.lo ≤ b) (h2 : b ≤ s.hi) (h3 : s.m ≠ 1) : uRun (b :: t) (s, out) = uRun t (⟨s.v * 64 + b % 64, s.m - 1, 0x80, 0xBF⟩, out) := uRun_on (by omega) h1 h2 t out
theorem step_last {s : US} {b : Nat} {t out : List Nat} (h0 : s.m = 1) (h1 : s.lo ≤ b) (h2 : b ≤ s.hi) : uRun (b :: t) (s, out) = uRun t (⟨s.v * 64 + b % 64, s.m - 1, 0x80, 0xBF⟩, out ++ [s.v * 64 + b % 64]) := by rw [uRun_last h0 h1 h2, h0]
theorem step_back {s : US} {b : Nat} {t out : List Nat} (h0 : 0 < s.m) (h1 : ¬ (s.lo ≤ b ∧ b ≤ s.hi)) : uRun (b :: t) (s, out) = uRun (b :: t) (u0, out ++ [65533]) := by
 have e : uTake s b = false := by
  cases h : uTake s b with
  | false => rfl
  | true => exact absurd (uTake_iff.1 h).2 h1
 show uRun t (uNext s b, out ++ uOut s b) = uRun t (uNext u0 b, out ++ [65533] ++ uOut u0 b)
 have e0 : uTake u0 b = false := uTake_no rfl b
 rw [uNext, uNext, e, e0, uOut, uOut, e, e0]
 simp only [Bool.false_eq_true, if_false, if_pos h0]
 rw [if_neg (show ¬ 0 < u0.m from Nat.lt_irrefl 0)]
 simp
theorem step_asc {s : US} {b : Nat} {t out : List Nat} (h0 : s.m = 0) (h1 : b < 128) : uRun (b :: t) (s, out) = uRun t (begU b, out ++ [b]) := uRun_asc h0 h1 t out
theorem step_bad {s : US} {b : Nat} {t out : List Nat} (h0 : s.m = 0) (h1 : ¬ b < 128) (h2 : (begU b).m = 0) : uRun (b :: t) (s, out) = uRun t (begU b, out ++ [65533]) := by
 show uRun t (uNext s b, out ++ uOut s b) = _
 rw [uNext, uOut, uTake_no h0]
 simp only [Bool.false_eq_true, if_false]
 rw [if_neg (by omega), if_neg h1, if_pos h2]
 rfl
theorem step_lead {s : US} {b : Nat} {t out : List Nat} (h0 : s.m = 0) (h1 : ¬ b < 128) (h2 : (begU b).m ≠ 0) : uRun (b :: t) (s, out) = uRun t (begU b, out) := uRun_lead h0 (by omega) rfl h2 t out
section
variable {l t outs : List Nat} {sv sm slo shi b : Nat} {F : US × List Nat}
theorem run_on (h : uRun l (⟨sv, sm, slo, shi⟩, outs) = F) (hl : l = b :: t) (h0 : 0 < sm) (h1 : slo ≤ b) (h2 : b ≤ shi) (h3 : sm ≠ 1) : uRun t (⟨sv * 64 + b % 64, sm - 1, 128, 191⟩, outs) = F := by
 rw [← h, hl, step_on (s := ⟨sv, sm, slo, shi⟩) h0 h1 h2 h3]
theorem run_last (h : uRun l (⟨sv, 1, slo, shi⟩, outs) = F) (hl : l = b :: t) (h1 : slo ≤ b) (h2 : b ≤ shi) : uRun t (⟨sv * 64 + b % 64, 0, 128, 191⟩, outs ++ [sv * 64 + b % 64]) = F := by
 rw [← h, hl, step_last (s := ⟨sv, 1, slo, shi⟩) rfl h1 h2]
 rfl
theorem run_back (h : uRun l (⟨sv, sm, slo, shi⟩, outs) = F) (hl : l = b :: t) (h0 : 0 < sm) (h1 : ¬ (slo ≤ b ∧ b ≤ shi)) : uRun l (u0, outs ++ [65533]) = F := by
 rw [← h, hl, step_back (s := ⟨sv, sm, slo, shi⟩) h0 h1]
theorem run_asc {s : US} (h : uRun l (s, outs) = F) (hl : l = b :: t) (h0 : s.m = 0) (h1 : b < 128) : uRun t (begU b, outs ++ [b]) = F := by
 rw [← h, hl, step_asc h0 h1]
theorem run_bad {s : US} (h : uRun l (s, outs) = F) (hl : l = b :: t) (h0 : s.m = 0) (h1 : ¬ b < 128) (h2 : (begU b).m = 0) : uRun t (begU b, outs ++ [65533]) = F := by
 rw [← h, hl, step_bad h0 h1 h2]
theorem run_lead {s : US} (h : uRun l (s, outs) = F) (hl : l = b :: t) (h0 : s.m = 0) (h1 : ¬ b < 128) (h2 : (begU b).m ≠ 0) : uRun t (begU b, outs) = F := by
 rw [← h, hl, step_lead h0 h1 h2]
theorem bd_on (h : BdU ⟨sv, sm, slo, shi⟩) (b : Nat) (hm : 0 < sm) : BdU ⟨sv * 64 + b % 64, sm - 1, 128, 191⟩ := takeU_bd h b hm
theorem bd_last (h : BdU ⟨sv, 1, slo, shi⟩) (b : Nat) : BdU ⟨sv * 64 + b % 64, 0, 128, 191⟩ := takeU_bd h b (Nat.lt_succ_self 0)
end
def KeptU (K : List Nat) (s : US) : Prop :=
 (s.m = 0 ∧ K = []) ∨ (0 < s.m ∧ ∃ b0 rest, K = b0 :: rest ∧ b0 < 256 ∧ (begU b0).m = s.m + rest.length ∧ (rest = [] → begU b0 = s) ∧ (rest ≠ [] → s.lo = 128 ∧ s.hi = 191) ∧
  rest.foldl (fun n b => n * 64 + b - 128) (begU b0).v = s.v ∧ ∀ x ∈ rest, 128 ≤ x ∧ x ≤ 191)
theorem keptU_u0 : KeptU [] u0 := .inl ⟨rfl, rfl⟩
theorem KeptU.beg {b : Nat} (hb : b < 256) (h : (begU b).m ≠ 0) : KeptU [b] (begU b) := .inr ⟨by omega, b, [], rfl, hb, rfl, fun _ => rfl, fun h => absurd rfl h, rfl, fun x hx => by cases hx⟩
theorem begU_lim (b : Nat) : 128 ≤ (begU b).lo ∧ (begU b).hi ≤ 191 := by
 unfold begU
 dsimp only
 constructor
 ·split
  ·omega
  ·split <;> omega
 ·split
  ·omega
  ·split <;> omega
theorem KeptU.snoc {K : List Nat} {s : US} {b : Nat} (h : KeptU K s) (h0 : 1 < s.m) (h1 : s.lo ≤ b) (h2 : b ≤ s.hi) : KeptU (K ++ [b]) ⟨s.v * 64 + b % 64, s.m - 1, 0x80, 0xBF⟩ := by
 rcases h with ⟨h, _⟩ | ⟨_, b0, rest, rfl, hb, hm, hr, hr2, hv, hx⟩
 ·omega
 ·have hb2 : 128 ≤ b ∧ b ≤ 191 := by
   by_cases e : rest = []
   ·have := hr e
    subst this
    have := begU_lim b0
    omega
   ·have := hr2 e
    omega
  refine .inr ⟨by dsimp only; omega, b0, rest ++ [b], rfl, hb, ?_, fun e => absurd e (by simp), fun _ => ⟨rfl, rfl⟩, ?_, fun x h => ?_⟩
  ·rw [List.length_append, List.length_singleton]
   dsimp only
   omega
  ·rw [List.foldl_append, hv]
   dsimp only [List.foldl]
   omega
  ·rcases List.mem_append.1 h with h | h
   ·exact hx x h
   ·rw [List.mem_singleton] at h
    subst h
    exact hb2
def valU (K : List Nat) : Nat := match K with
 | [] => 0
 | b0 :: rest => rest.foldl (fun n b => n * 64 + b - 128) (begU b0).v
theorem KeptU.whole {K : List Nat} {s : US} {b : Nat} (h : KeptU K s) (h0 : s.m = 1) (h1 : s.lo ≤ b) (h2 : b ≤ s.hi) : valU (K ++ [b]) = s.v * 64 + b % 64 ∧ ∃ b0 rest, K ++ [b] = b0 :: rest ∧ b0 < 256 ∧ (begU b0).m = rest.length ∧ 0 < rest.length ∧ ∀ x ∈ rest, 128 ≤ x ∧ x ≤ 191 := by
 rcases h with ⟨h, _⟩ | ⟨_, b0, rest, rfl, hb, hm, hr, hr2, hv, hx⟩
 ·omega
 ·have hb2 : 128 ≤ b ∧ b ≤ 191 := by
   by_cases e : rest = []
   ·have := hr e
    subst this
    have := begU_lim b0
    omega
   ·have := hr2 e
    omega
  refine ⟨?_, b0, rest ++ [b], rfl, hb, by rw [List.length_append, List.length_singleton]; omega, by simp, fun x h => ?_⟩
  ·show (rest ++ [b]).foldl _ (begU b0).v = _
   rw [List.foldl_append, hv]
   dsimp only [List.foldl]
   omega
  ·rcases List.mem_append.1 h with h | h
   ·exact hx x h
   ·rw [List.mem_singleton] at h
    subst h
    exact hb2
def limU (K : List Nat) : Nat × Nat × Nat := match K with
 | [] => (0, 255, 0)
 | b :: rest => (if rest = [] then (begU b).lo else 128, if rest = [] then (begU b).hi else 191, if (begU b).m = 0 then 0 else (begU b).m + 1)
theorem KeptU.lim {K : List Nat} {s : US} (h : KeptU K s) (hK : 0 < s.m) : limU K = (s.lo, s.hi, K.length + s.m) := by
 rcases h with ⟨h, _⟩ | ⟨_, b0, rest, rfl, hb, hm, hr, hr2, hv, hx⟩
 ·omega
 ·unfold limU
  dsimp only
  rw [if_neg (show ¬ (begU b0).m = 0 by omega), hm]
  by_cases e : rest = []
  ·rw [if_pos e, if_pos e, hr e, e]
   simp
   omega
  ·obtain ⟨a, c⟩ := hr2 e
   rw [if_neg e, if_neg e, a, c]
   simp
   omega
end Go.Proofs.YtejjfiipghcifaaGreatDoor
namespace Go.Proofs.YtejjfiipghcifaaGreatDoor
open Go.RowKit
abbrev usV (s : US) : Value := .agg #[.int .i32 s.v, .int .i64 s.m, .int .u8 s.lo, .int .u8 s.hi]
theorem us_eq (S : US) (v m lo hi : Int) (h1 : v = S.v) (h2 : m = S.m) (h3 : lo = S.lo) (h4 : hi = S.hi) : Value.agg #[.int .i32 v, .int .i64 m, .int .u8 lo, .int .u8 hi] = usV S := by subst h1 h2 h3 h4; rfl
theorem info_us : (Tryz.prog.info? 153).map (fun x => x.size) = some 4 := by kernel_rfl
set_option maxHeartbeats 2000000 in
theorem begin_ (b : Nat) (hb : b < 256) (w : World) : Calls Tryz.prog 132 #[.int .u8 b] w (Gives (usV (begU b)) w) := by
 have HE := Lib.hid (us_eq (begU b))
 have HV : Hid ((begU b).v = if 0xC2 ≤ b ∧ b ≤ 0xDF then b % 32 else if 0xE0 ≤ b ∧ b ≤ 0xEF then b % 16 else if 0xF0 ≤ b ∧ b ≤ 0xF4 then b % 8 else 0) := Lib.hid rfl
 have HM : Hid ((begU b).m = if 0xC2 ≤ b ∧ b ≤ 0xDF then 1 else if 0xE0 ≤ b ∧ b ≤ 0xEF then 2 else if 0xF0 ≤ b ∧ b ≤ 0xF4 then 3 else 0) := Lib.hid rfl
 have HL : Hid ((begU b).lo = if b = 0xE0 then 0xA0 else if b = 0xF0 then 0x90 else 0x80) := Lib.hid rfl
 have HH : Hid ((begU b).hi = if b = 0xED then 0x9F else if b = 0xF4 then 0x8F else 0xBF) := Lib.hid rfl
 generalize begU b = S at *
 go_enter Tryz.func132, Tryz.ntmps132
 go_wp2
 all_goals
  simp only [beq_iff_eq, beq_eq_false_iff_ne, ne_eq] at *
  refine bodyPost_ret (results_cell_row rfl _ _ w.heap.size 153 _ (0, 0) _ rfl (Blk.alloc (Blk.new w _ _) _) Tryz.underlying153 rfl info_us) rfl ⟨congrArg Ending.returned (HE.out _ _ _ _ ?_ ?_ ?_ ?_), ((Below.refl _ _).alloc (Nat.le_refl _) _).alloc (by simp) _⟩
  ·rw [HV.out]; repeat' split
   all_goals omega
  ·rw [HM.out]; repeat' split
   all_goals omega
  ·rw [HL.out]; repeat' split
   all_goals omega
  ·rw [HH.out]; repeat' split
   all_goals omega
end Go.Proofs.YtejjfiipghcifaaGreatDoor
