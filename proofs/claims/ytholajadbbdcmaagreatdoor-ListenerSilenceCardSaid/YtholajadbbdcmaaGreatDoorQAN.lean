/- Joined texts: Rn3, Rn4, Ch1. -/
import Derived.Test.YtholajadbbdcmaaGreatDoorQAA
import Derived.Test.YtholajadbbdcmaaGreatDoorQAB
import Derived.Test.YtholajadbbdcmaaGreatDoorQAC
import Derived.Test.YtholajadbbdcmaaGreatDoorQAG
import Derived.Test.YtholajadbbdcmaaGreatDoorQAK
import Derived.Test.YtholajadbbdcmaaGreatDoorQAL
import Derived.Test.YtholajadbbdcmaaGreatDoorQAM
set_option linter.unusedVariables false
set_option linter.unusedSimpArgs false
set_option linter.unnecessarySimpa false
namespace Go.Proofs.YtholajadbbdcmaaGreatDoor
open Go.RowKit
set_option maxRecDepth 20000
def lenV : Value → Nat
 | .slice _ n _ => n
 | _ => 0
theorem ob_len (A : Option Addr) (n m c : Nat) : (Value.slice A n c).ownBlock = (Value.slice A m c).ownBlock := by cases A <;> rfl
def Dj (a b : Option Nat) : Prop := ∀ k, a = some k → b = some k → False
theorem Dj.symm {a b : Option Nat} (h : Dj a b) : Dj b a := fun k h1 h2 => h k h2 h1
theorem Dj.new {a b b' : Option Nat} {N : Nat} (h : Dj a b) (hb : b' = b ∨ b' = some N) (ha : ∀ k, a = some k → k < N) : Dj a b' := by
 rcases hb with rfl | rfl
 ·exact h
 ·intro k h1 h2
  have := ha k h1
  injection h2 with h2
  omega
theorem Dj.ne {a b : Option Nat} (h : Dj a b) : a = none ∨ a ≠ b := by
 cases a with
 | none => exact .inl rfl
 | some k => exact .inr fun e => h k rfl e.symm
theorem own_lt {w : World} {base size n : Nat} {e : TypeId} {v : Value} {xs : List Value} (h : w.ownsRow base e size v n xs) : ∀ k, v.ownBlock = some k → k < w.heap.size := fun k hk => (h.lt k hk).2
theorem elt_u8 : Elt Tryz.prog 195 5 (.int .u8 0) 1 1 where
 und := Tryz.underlying195
 row := by
  have h : (Tryz.prog.info? 5).map (fun i => (i.zero, i.size, i.bytes)) = some (some (.int .u8 0), 1, 1) := by kernel_rfl
  obtain ⟨i, hi, a, b, c⟩ := info_parts h
  exact ⟨i, hi, a, b, c⟩
 zs := rfl
 pos := by decide
theorem own_snocB {w : World} {base c x : Nat} {A : Option Addr} {e : TypeId} {outs : List Nat} {v : Int} (h : w.ownsRow base e 1 (.slice A (outs.length + 1) c) (outs.length + 1) (byV outs ++ [.int .u8 v])) (hv : (x : Int) = v) :
  w.ownsRow base e 1 (.slice A (outs ++ [x]).length c) (outs ++ [x]).length (byV (outs ++ [x])) := by
 rw [byV_app, List.length_append, List.length_singleton]
 subst hv
 exact h
theorem KeptU.lt_ {K : List Nat} {s : US} (h : KeptU K s) : ∀ b ∈ K, b < 256 := by
 rcases h with ⟨_, rfl⟩ | ⟨_, b0, rest, rfl, hb, _, _, _, _, hx⟩
 ·intro b hb; cases hb
 ·intro b hb2
  rcases List.mem_cons.1 hb2 with rfl | h
  ·exact hb
  ·have := hx b h; omega
theorem KeptU.nil_iff {K : List Nat} {s : US} (h : KeptU K s) : K = [] ↔ s.m = 0 := by
 rcases h with ⟨h0, rfl⟩ | ⟨h0, b0, rest, rfl, _⟩
 ·simp [h0]
 ·simp; omega
theorem conv_any {w : World} {B n c : Nat} {A : Option Addr} {l : List Nat} (rd : Rd w B 1 A n (byV l)) (hn : l.length = n) (hl : ∀ b ∈ l, b < 256) :
  (convert 195 9 (.slice A n c)).run Tryz.prog w = .ok (.string ⟨(l.map fun b => UInt8.ofNat b).toArray⟩) w := by
 rcases Nat.eq_zero_or_pos n with h0 | h0
 ·subst h0
  obtain rfl := List.eq_nil_of_length_eq_zero hn
  cases A with
  | none => exact run_convert_bytes_nil (P := Tryz.prog) w _ _ Tryz.underlying195 Tryz.underlying5 0 c _ Tryz.underlying9
  | some a => exact run_convert_bytes_back (P := Tryz.prog) w _ _ _ a c [] Tryz.underlying195 Tryz.underlying5 Tryz.underlying9 (fun j hj => absurd hj (Nat.not_lt_zero j))
 ·exact conv_str rd hn h0 hl
def DecP (L : List Nat) (pend : Prop) (w : World) (en : Ending) (w' : World) : Prop :=
 ∃ A c rest, en = .returned (.tuple #[.slice A L.length c, .string rest]) ∧ w'.ownsRow w.heap.size 21 1 (.slice A L.length c) L.length (chV L) ∧ Below w.heap.size w w' ∧ (rest = ⟨#[]⟩ ↔ pend)
def DecR (w : World) (t : ByteArray) (F : US × List Nat) (v u x : Value) (wr : World) : Prop :=
 ∃ (A A' : Option Addr) (c c' k : Nat) (s : US) (outs K : List Nat), k ≤ t.size ∧ x = .int .i64 k ∧ v = .slice A outs.length c ∧ u = .slice A' K.length c' ∧
  wr.ownsRow w.heap.size 21 1 (.slice A outs.length c) outs.length (chV outs) ∧ wr.ownsRow w.heap.size 5 1 (.slice A' K.length c') K.length (byV K) ∧ Dj (Value.slice A outs.length c).ownBlock (Value.slice A' K.length c').ownBlock ∧
  Below w.heap.size w wr ∧ KeptU K s ∧ uRun ((bytN t).drop k) (s, outs) = F ∧ outs.length + K.length ≤ k
set_option maxHeartbeats 4000000 in
theorem rdecode (t : ByteArray) (ht : t.size ≤ 1000000000) (w : World) :
  Calls Tryz.prog 139 #[.string ⟨#[]⟩, .string t] w (DecP (charsL (bytN t)) ((uRun (bytN t) (u0, [])).1.m = 0) w) := by
 have HF : Hid (uRun ((bytN t).drop 0) (u0, []) = uRun (bytN t) (u0, [])) := Lib.hid rfl
 unfold charsL
 generalize uRun (bytN t) (u0, []) = F at *
 have HN : Hid ((bytN t).length = t.size) := Lib.hid (bytN_len t)
 go_enter Tryz.func139, Tryz.ntmps139
 go_wp2
 have e0 : (⟨#[]⟩ ++ t : ByteArray) = t := ByteArray.ext (by rw [ByteArray.data_append]; simp)
 simp only [e0]
 go_loopw [7, 8, 9] (fun v u x wr => DecR w t F v u x wr) (fun _ u x _ => 2 * (t.size - (intOf x).toNat) + lenV u)
 case atStart => exact ⟨_, _, _, _, 0, u0, [], [], Nat.zero_le _, rfl, rfl, rfl, (own_built (xs := []) rfl rfl (Nat.le_refl _) (Nat.zero_le _)).alloc _, own_built (xs := []) (by simp) rfl (by omega) (Nat.zero_le _), (fun k h1 h2 => by
  simp only [Value.ownBlock, Option.some.injEq] at h1 h2
  omega), ((Below.refl _ _).alloc (Nat.le_refl _) _).alloc (by simp) _, keptU_u0, HF.out, by simp⟩
 case round =>
  obtain ⟨A, A', c, c', k, ⟨sv, sm, slo, shi⟩, outs, K, hk, rfl, rfl, rfl, hown, hownK, hdj, hbel, HK, HR, hle⟩ := hrel
  replace HK := Lib.hid HK
  replace HR := Lib.hid HR
  by_cases hlt : k < t.size
  ·have HD : Hid ((bytN t).drop k = (t[k]'hlt).toNat :: (bytN t).drop (k + 1)) := Lib.hid (by rw [List.drop_eq_getElem_cons (by rw [HN.out]; exact hlt), bytN_get t k hlt]; congr 2; exact getElem!_pos t.data k hlt)
   have hbl : (t[k]'hlt).toNat < 256 := UInt8.toNat_lt _
   go_upto_region 7 with fail
   generalize (t[k]'hlt).toNat = b at *
   have zb := hbel.size
   have hne1 := own_lt hown
   have hne2 := own_lt hownK
   rcases Nat.eq_zero_or_pos sm with hm | hm
   ·have hKn : K = [] := by
     rcases HK.out with ⟨_, h⟩ | ⟨h, _⟩
     ·exact h
     ·have : sm = 0 := hm
      exact absurd h (by show ¬ 0 < sm; omega)
    subst hKn
    subst hm
    rw [List.length_nil] at hownK hdj hle
    have HL1 : Hid (∀ w : World, Calls Tryz.prog 161 #[.slice (some ⟨w.heap.size, 0, none⟩) 1 1] (w.alloc (.cells #[.int .u8 (b : Int)] 5)) (Same (limV (limU [b])) (w.alloc (.cells #[.int .u8 (b : Int)] 5)))) := Lib.hid fun w => limits_cons b [] hbl _ 1 1 (w.heap.size + 1) _ rfl (by omega) (rd_built (xs := byV [b]) rfl rfl)
    obtain ⟨z, hz0, hz1, HL2⟩ : ∃ z : Nat, ((begU b).m = 0 → z = 0) ∧ ((begU b).m ≠ 0 → 0 < z) ∧ limU [b] = ((begU b).lo, (begU b).hi, z) := by
     refine ⟨if (begU b).m = 0 then 0 else (begU b).m + 1, fun h => by rw [if_pos h], fun h => by rw [if_neg h]; omega, rfl⟩
    rw [HL2] at HL1
    simp only [limV] at HL1
    by_cases h128 : b < 128
    ·have hm0 : (begU b).m = 0 := begU_one (by omega)
     have HS := Lib.hid (run_asc HR.out HD.out rfl h128)
     have HKu : Hid (KeptU [] (begU b)) := Lib.hid (.inl ⟨hm0, rfl⟩)
     clear hz0 hz1 hm0 HK HR HD HL2
     generalize begU b = Z at *
     go_wp2_with (first
      | (go_at_call 161; refine (HL1.out _).mono ?_; rintro e w3 ⟨rfl, rfl⟩)
      | (at_builtin; go_must (refine app_list rfl _ _ _ rfl elt_i32 (w.heap.size) _ rfl (((hown.alloc _).alloc _)) _ _ rfl ((rd_built (by first | rfl | (simp; done)) rfl)) (by first | rfl | exact chV_one _ | exact byV_one _) (by omega) (by omega) (by first | (simp; done) | (simp; omega) | omega) ?_); intro A4 c4 w4 hown4 hbel4 hgr4 hat4; have z4 := hbel4.size; (try simp only [World.size_alloc] at z4); (try simp only [Nat.zero_add, List.nil_append] at hown4)))
     exact ⟨⟨A4, A', c4, c', k + 1, Z, outs ++ [b], [], by omega, by go_num, by rw [List.length_append]; rfl, rfl, own_snoc hown4 rfl, ((hownK.alloc _).alloc _).kept hgr4 hdj.symm.ne, (by rw [ob_len A4 _ (outs.length + 1) c4]; exact (Dj.new hdj.symm hat4 (own_lt ((hownK.alloc _).alloc _))).symm), ((hbel.alloc zb _).alloc (by simp; omega) _).trans hbel4, HKu.out, HS.out, by rw [List.length_append, List.length_singleton]; simp; omega⟩, by simp [intOf, lenV]; omega⟩
    ·by_cases hz : (begU b).m = 0
     ·have HS := Lib.hid (run_bad HR.out HD.out rfl h128 hz)
      have HKu : Hid (KeptU [] (begU b)) := Lib.hid (.inl ⟨hz, rfl⟩)
      obtain rfl := hz0 hz
      clear hz0 hz1 hz HK HR HD HL2
      generalize begU b = Z at *
      go_wp2_with (first
       | (go_at_call 161; refine (HL1.out _).mono ?_; rintro e w3 ⟨rfl, rfl⟩)
       | (at_builtin; go_must (refine app_list rfl _ _ _ rfl elt_i32 (w.heap.size) _ rfl (((hown.alloc _).alloc _)) _ _ rfl ((rd_built (by first | rfl | (simp; done)) rfl)) (by first | rfl | exact chV_one _ | exact byV_one _) (by omega) (by omega) (by first | (simp; done) | (simp; omega) | omega) ?_); intro A4 c4 w4 hown4 hbel4 hgr4 hat4; have z4 := hbel4.size; (try simp only [World.size_alloc] at z4); (try simp only [Nat.zero_add, List.nil_append] at hown4)))
      exact ⟨⟨A4, A', c4, c', k + 1, Z, outs ++ [65533], [], by omega, by go_num, by rw [List.length_append]; rfl, rfl, own_snoc hown4 rfl, ((hownK.alloc _).alloc _).kept hgr4 hdj.symm.ne, (by rw [ob_len A4 _ (outs.length + 1) c4]; exact (Dj.new hdj.symm hat4 (own_lt ((hownK.alloc _).alloc _))).symm), ((hbel.alloc zb _).alloc (by simp; omega) _).trans hbel4, HKu.out, HS.out, by rw [List.length_append, List.length_singleton]; simp; omega⟩, by simp [intOf, lenV]; omega⟩
     ·have HS := Lib.hid (run_lead HR.out HD.out rfl h128 hz)
      have HKu : Hid (KeptU [b] (begU b)) := Lib.hid (KeptU.beg hbl hz)
      have hzp := hz1 hz
      clear hz0 hz1 hz HK HR HD HL2
      generalize begU b = Z at *
      go_wp2_with (first
       | (go_at_call 161; refine (HL1.out _).mono ?_; rintro e w3 ⟨rfl, rfl⟩)
       | (at_builtin; go_must (refine app_list rfl _ _ _ rfl elt_u8 (w.heap.size) _ rfl (((hownK.alloc _).alloc _)) _ _ rfl ((rd_built (by first | rfl | (simp; done)) rfl)) (by first | rfl | exact chV_one _ | exact byV_one _) (by omega) (by omega) (by first | (simp; done) | (simp; omega) | omega) ?_); intro A4 c4 w4 hown4 hbel4 hgr4 hat4; have z4 := hbel4.size; (try simp only [World.size_alloc] at z4); (try simp only [Nat.zero_add, List.nil_append] at hown4)))
      exact ⟨⟨A, A4, c, c4, k + 1, Z, outs, [b], by omega, by go_num, rfl, rfl, ((hown.alloc _).alloc _).kept hgr4 hdj.ne, hown4, Dj.new hdj hat4 (own_lt ((hown.alloc _).alloc _)), ((hbel.alloc zb _).alloc (by simp; omega) _).trans hbel4, HKu.out, HS.out, by simp; omega⟩, by simp [intOf, lenV]; omega⟩
   ·have hm' : 0 < sm := hm
    have HLim := Lib.hid (HK.out.lim hm)
    obtain ⟨b0, rest, hK, hb0⟩ : ∃ b0 rest, K = b0 :: rest ∧ b0 < 256 := by
     rcases HK.out with ⟨h, _⟩ | ⟨_, b0, rest, h1, h2, _⟩
     ·have : sm = 0 := h
      omega
     ·exact ⟨b0, rest, h1, h2⟩
    have hKl : 0 < K.length := by rw [hK]; simp
    have HL1 : Hid (∀ (w : World) (B : Nat) (A : Option Addr) (c : Nat), Rd w B 1 A K.length (byV K) → Calls Tryz.prog 161 #[.slice A K.length c] w (Same (limV (slo, shi, K.length + sm)) w)) := Lib.hid fun w B A c rd => by
     have h := HLim.out
     have h2 := limits_cons b0 rest hb0 A K.length c B w (by rw [hK]; rfl) (by omega) (by rw [← hK]; exact rd)
     rw [← hK, h] at h2
     exact h2
    simp only [limV] at HL1
    clear HLim hK
    by_cases hin : slo ≤ b ∧ b ≤ shi
    ·have HKs : Hid (1 < sm → KeptU (K ++ [b]) ⟨sv * 64 + b % 64, sm - 1, 0x80, 0xBF⟩) := Lib.hid fun h => HK.out.snoc h hin.1 hin.2
     have HKw : Hid (sm = 1 → _) := Lib.hid fun (h : sm = 1) => HK.out.whole h hin.1 hin.2
     have HRn : Hid (sm ≠ 1 → uRun ((bytN t).drop (k + 1)) (⟨sv * 64 + b % 64, sm - 1, 128, 191⟩, outs) = F) := Lib.hid fun h => run_on HR.out HD.out hm' hin.1 hin.2 h
     have HRl : Hid (sm = 1 → uRun ((bytN t).drop (k + 1)) (⟨sv * 64 + b % 64, 0, 128, 191⟩, outs ++ [sv * 64 + b % 64]) = F) := Lib.hid fun h => by
      subst h
      exact run_last HR.out HD.out hin.1 hin.2
     obtain ⟨hi1, hi2⟩ := hin
     by_cases h1 : sm = 1
     ·have HS := Lib.hid (HRl.out h1)
      have HVal : Hid (∀ (A : Option Addr) (c B : Nat) (w : World), Rd w B 1 A (K ++ [b]).length (byV (K ++ [b])) → Calls Tryz.prog 162 #[.slice A (K.length + 1) c] w (Same (.int .i32 ((sv * 64 + b % 64 : Nat) : Int)) w)) := Lib.hid fun A c B w rd => by
       obtain ⟨hv, b1, rest1, e1, hb1, hm1, hp1, hx1⟩ := HKw.out h1
       have hl1 : rest1.length + 1 = (K ++ [b]).length := by rw [e1]; rfl
       rw [e1] at rd hv
       have h := value_ b1 rest1 hb1 hm1 hp1 hx1 A (rest1.length + 1) c B w rfl (by rw [show (b1 :: rest1).length = rest1.length + 1 from rfl] at rd; exact rd)
       rw [hl1, List.length_append, List.length_singleton] at h
       rw [hv] at h
       exact h
      subst h1
      clear HRn HRl HKw HKs HK HR HD
      have zz : (((K.length : Int) + 1) == ((K.length + 1 : Nat) : Int)) = true := beq_iff_eq.2 (by omega)
      go_upto_region 22 with (first
       | (go_at_call 161; refine (HL1.out _ _ _ _ (Rd.of_own hownK)).mono ?_; rintro e w3 ⟨rfl, rfl⟩)
       | (at_builtin; go_must (refine app_list rfl _ _ _ rfl elt_u8 (w.heap.size) _ rfl ((hownK.alloc _)) _ _ rfl ((rd_built (by first | rfl | (simp; done)) rfl)) (by first | rfl | exact chV_one _ | exact byV_one _) (by omega) (by omega) (by first | (simp; done) | (simp; omega) | omega) ?_); intro A4 c4 w4 hown4 hbel4 hgr4 hat4; have z4 := hbel4.size; (try simp only [World.size_alloc] at z4); (try simp only [Nat.zero_add, List.nil_append] at hown4)))
      have HO := (hown.alloc (Obj.cells #[Value.int IntKind.u8 (b : Int)] 5)).kept hgr4 hdj.ne
      have HB4 := (hbel.alloc zb (Obj.cells #[Value.int IntKind.u8 (b : Int)] 5)).trans hbel4
      have HV4 := Lib.hid (HVal.out A4 c4 _ w4 (Rd.of_own (own_snocB hown4 rfl)))
      have zw := HB4.size
      clear hgr4 hat4 hbel4 hown4 hown hownK hdj HVal HL1
      generalize sv * 64 + b % 64 = X at *
      go_wp2_with (first
       | (go_at_call 162; refine HV4.out.mono ?_; rintro e w6 ⟨rfl, rfl⟩)
       | (at_builtin; go_must (refine app_list rfl _ _ _ rfl elt_i32 (w.heap.size) _ rfl ((HO.alloc _)) _ _ rfl ((rd_built (by first | rfl | (simp; done)) rfl)) (by first | rfl | exact chV_one _ | exact byV_one _) (by omega) (by omega) (by first | (simp; done) | (simp; omega) | omega) ?_); intro A5 c5 w5 hown5 hbel5 hgr5 hat5; have z5 := hbel5.size; (try simp only [World.size_alloc] at z5); (try simp only [Nat.zero_add, List.nil_append] at hown5)))
      exact ⟨⟨A5, _, c5, _, k + 1, ⟨X, 0, 128, 191⟩, outs ++ [X], [], by omega, by go_num, by rw [List.length_append]; rfl, rfl, (own_snoc hown5 rfl).alloc _, own_built (xs := []) rfl rfl (by omega) (Nat.zero_le _), by
       rw [ob_len A5 _ (outs.length + 1) c5]
       intro q q1 q2
       have := own_lt hown5 q q1
       simp only [Value.ownBlock, Option.some.injEq] at q2
       omega, ((HB4.alloc zw _).trans hbel5).alloc (by omega) _, .inl ⟨rfl, rfl⟩, HS.out, by rw [List.length_append, List.length_singleton]; simp; omega⟩, by simp [intOf, lenV]; omega⟩
     ·have HS := Lib.hid (HRn.out h1)
      have HKu := Lib.hid (HKs.out (by omega))
      clear HRn HRl HKw HKs HK HR HD
      have zz : (((K.length : Int) + 1) == ((K.length + sm : Nat) : Int)) = false := beq_eq_false_iff_ne.2 (by omega)
      go_wp2_with (first
       | (go_at_call 161; refine (HL1.out _ _ _ _ (Rd.of_own hownK)).mono ?_; rintro e w3 ⟨rfl, rfl⟩)
       | (at_builtin; go_must (refine app_list rfl _ _ _ rfl elt_u8 (w.heap.size) _ rfl ((hownK.alloc _)) _ _ rfl ((rd_built (by first | rfl | (simp; done)) rfl)) (by first | rfl | exact chV_one _ | exact byV_one _) (by omega) (by omega) (by first | (simp; done) | (simp; omega) | omega) ?_); intro A4 c4 w4 hown4 hbel4 hgr4 hat4; have z4 := hbel4.size; (try simp only [World.size_alloc] at z4); (try simp only [Nat.zero_add, List.nil_append] at hown4)))
      exact ⟨⟨A, A4, c, c4, k + 1, ⟨sv * 64 + b % 64, sm - 1, 128, 191⟩, outs, K ++ [b], by omega, by go_num, rfl, by rw [List.length_append]; rfl, (hown.alloc _).kept hgr4 hdj.ne, own_snocB hown4 rfl, by rw [ob_len A4 _ (K.length + 1) c4]; exact Dj.new hdj hat4 (own_lt (hown.alloc _)), (hbel.alloc zb _).trans hbel4, HKu.out, HS.out, by rw [List.length_append, List.length_singleton]; omega⟩, by simp [intOf, lenV]; omega⟩
    ·have HS := Lib.hid (run_back HR.out HD.out hm' hin)
     clear HK HR HD
     have hin2 : ¬ slo ≤ b ∨ (slo ≤ b ∧ ¬ b ≤ shi) := by omega
     clear hin
     rcases hin2 with hin | ⟨hin, hin2⟩ <;>
     ·go_wp2_with (first
       | (go_at_call 161; refine (HL1.out _ _ _ _ (Rd.of_own hownK)).mono ?_; rintro e w3 ⟨rfl, rfl⟩)
       | (at_builtin; go_must (refine app_list rfl _ _ _ rfl elt_i32 (w.heap.size) _ rfl ((hown.alloc _)) _ _ rfl ((rd_built (by first | rfl | (simp; done)) rfl)) (by first | rfl | exact chV_one _ | exact byV_one _) (by omega) (by omega) (by first | (simp; done) | (simp; omega) | omega) ?_); intro A4 c4 w4 hown4 hbel4 hgr4 hat4; have z4 := hbel4.size; (try simp only [World.size_alloc] at z4); (try simp only [Nat.zero_add, List.nil_append] at hown4)))
      exact ⟨⟨A4, _, c4, _, k, u0, outs ++ [65533], [], by omega, rfl, by rw [List.length_append]; rfl, rfl, (own_snoc hown4 rfl).alloc _, own_built (xs := []) rfl rfl (by have := hbel4.size; simp at this; omega) (Nat.zero_le _), by
       rw [ob_len A4 _ (outs.length + 1) c4]
       intro q q1 q2
       have := own_lt hown4 q q1
       simp only [Value.ownBlock, Option.some.injEq] at q2
       omega, ((hbel.alloc zb _).trans hbel4).alloc (by have := hbel4.size; simp at this; omega) _, keptU_u0, HS.out, by rw [List.length_append, List.length_singleton]; simp; omega⟩, by simp [intOf, lenV]; omega⟩
  ·obtain rfl : k = t.size := by omega
   have HF2 : Hid (F = (⟨sv, sm, slo, shi⟩, outs)) := Lib.hid (by rw [← HR.out, List.drop_of_length_le (by rw [HN.out]; exact Nat.le_refl _)]; rfl)
   have HCv : ∀ m, (convert 195 9 (.slice A' K.length c')).run Tryz.prog (wr.drewN m) = .ok (.string ⟨(K.map fun b => UInt8.ofNat b).toArray⟩) (wr.drewN m) := fun m => conv_any (Rd.keep (Rd.of_own hownK) fun _ _ => rfl) rfl HK.out.lt_
   have HCd : (convert 195 9 (.slice A' K.length c')).run Tryz.prog wr.drew = .ok (.string ⟨(K.map fun b => UInt8.ofNat b).toArray⟩) wr.drew := HCv 1
   have HNil : Hid ((⟨(K.map fun b => UInt8.ofNat b).toArray⟩ : ByteArray) = ⟨#[]⟩ ↔ F.1.m = 0) := Lib.hid (by
    rw [HF2.out, ← HK.out.nil_iff]
    constructor
    ·intro h
     have := congrArg (fun x : ByteArray => x.data.size) h
     simpa using this
    ·rintro rfl; rfl)
   have HO := Lib.hid hown
   have e1 : F.2 = outs := by rw [HF2.out]
   clear HF2 HR HK
   generalize (⟨(K.map fun b => UInt8.ofNat b).toArray⟩ : ByteArray) = REST at *
   go_wp2
   go_quiet (fail)
   go_wp2
   go_ret2
   rw [e1]
   exact ⟨A, c, REST, rfl, own_below HO.out (below_drewN (Below.refl _ _)), below_drewN hbel, HNil.out⟩
end Go.Proofs.YtholajadbbdcmaaGreatDoor
namespace Go.Proofs.YtholajadbbdcmaaGreatDoor
open Go.RowKit
set_option maxRecDepth 100000
def encS (rs : List Nat) : ByteArray := ⟨((encL_ rs).map fun b => UInt8.ofNat b).toArray⟩
theorem encL_take {rs : List Nat} {k : Nat} (h : k < rs.length) : encL_ (rs.take (k + 1)) = encL_ (rs.take k) ++ encN rs[k] := by
 have e : rs.take (k + 1) = rs.take k ++ [rs[k]] := (List.take_append_getElem h).symm
 rw [encL_, encL_, e, List.flatMap_append]
 simp only [List.flatMap_cons, List.flatMap_nil, List.append_nil]
theorem encL_len (rs : List Nat) : (encL_ rs).length ≤ 4 * rs.length := by
 induction rs with
 | nil => simp [encL_]
 | cons r t ih =>
  have e : encL_ (r :: t) = encN r ++ encL_ t := by simp [encL_]
  have := encN_pos r
  rw [e, List.length_append, List.length_cons]
  omega
theorem encL_lt {rs : List Nat} (h : ∀ r ∈ rs, isChN r) : ∀ b ∈ encL_ rs, b < 256 := by
 intro b hb
 rw [encL_, List.mem_flatMap] at hb
 obtain ⟨r, hr, hb⟩ := hb
 exact encN_lt (h r hr) b hb
theorem own_appB {w : World} {base c n : Nat} {A : Option Addr} {e : TypeId} {outs l : List Nat} {vs : List Value} (h : w.ownsRow base e 1 (.slice A n c) n (byV outs ++ vs)) (hv : byV l = vs) (hn : n = (outs ++ l).length) :
  w.ownsRow base e 1 (.slice A (outs ++ l).length c) (outs ++ l).length (byV (outs ++ l)) := by
 subst hv hn
 rw [byV_app]
 exact h
set_option maxHeartbeats 4000000 in
theorem rencode (rs : List Nat) (hr : ∀ r ∈ rs, isChN r) (A : Option Addr) (n c B : Nat) (w : World) (hn : rs.length = n) (hb : n ≤ 4000000000) (rd : Rd w B 1 A n (chV rs)) (hB : B ≤ w.heap.size) :
  Calls Tryz.prog 140 #[.slice A n c] w (Gives (.string (encS rs)) w) := by
 have HN := Lib.hid hn
 have HC : Hid (∀ k (h : k < rs.length), isChN rs[k]) := Lib.hid fun k h => hr _ (List.getElem_mem h)
 have HT : Hid (∀ k (h : k < rs.length), encL_ (rs.take (k + 1)) = encL_ (rs.take k) ++ encN rs[k]) := Lib.hid fun k h => encL_take h
 have HL : Hid (∀ k, (encL_ (rs.take k)).length ≤ 4 * k) := Lib.hid fun k => by
  have := encL_len (rs.take k)
  rw [List.length_take] at this
  omega
 have HE : Hid (∀ A c w, Rd w w.heap.size 1 A (encL_ rs).length (byV (encL_ rs)) → (convert 195 9 (.slice A (encL_ rs).length c)).run Tryz.prog w = .ok (.string (encS rs)) w) := Lib.hid fun A c w rd => conv_any rd rfl (encL_lt hr)
 generalize encS rs = R at *
 clear hn
 go_enter Tryz.func140, Tryz.ntmps140
 go_wp2
 go_loopw [3, 4] (fun v x wr => ∃ (A' : Option Addr) (c' k : Nat), k ≤ n ∧ x = .int .i64 k ∧ v = .slice A' (encL_ (rs.take k)).length c' ∧ wr.ownsRow w.heap.size 5 1 (.slice A' (encL_ (rs.take k)).length c') (encL_ (rs.take k)).length (byV (encL_ (rs.take k))) ∧ Below w.heap.size w wr) (fun _ x _ => n - (intOf x).toNat)
 case atStart => exact ⟨_, _, 0, Nat.zero_le _, rfl, rfl, own_built (xs := []) rfl rfl (Nat.le_refl _) (Nat.zero_le _), (Below.refl _ _).alloc (Nat.le_refl _) _⟩
 case round =>
  obtain ⟨A', c', k, hk, rfl, rfl, hown, hbel⟩ := hrel
  by_cases hlt : k < n
  ·have hkl : k < rs.length := by have := HN.out; omega
   obtain ⟨b, o, rfl, hbB, hc⟩ := (rd.keep (w' := wr) fun p hp => hbel.cell (by omega)).at_ hlt
   rw [chV_get _ _ hkl] at hc
   have hch := HC.out k hkl
   have HTk := Lib.hid (HT.out k hkl)
   have hlk := HL.out k
   have zb := hbel.size
   generalize rs[k] = r at *
   generalize encL_ (rs.take k) = E at *
   unfold isChN at hch
   by_cases h1 : r < 128
   ·have HEn : Hid (encN r = [r]) := Lib.hid (by rw [encN, if_pos h1])
    go_wp2_with (at_builtin; go_must (refine app_list rfl _ _ _ rfl elt_u8 (w.heap.size) _ rfl ((hown.alloc _)) _ _ rfl ((rd_built (by first | rfl | (simp; done)) rfl)) (by first | rfl | exact chV_one _ | exact byV_one _) (by omega) (by omega) (by first | (simp; done) | (simp; omega) | omega) ?_); intro A4 c4 w4 hown4 hbel4 hgr4 hat4; have z4 := hbel4.size; (try simp only [World.size_alloc] at z4); (try simp only [Nat.zero_add, List.nil_append] at hown4))
    exact ⟨⟨A4, c4, k + 1, by omega, by go_num, by rw [HTk.out, HEn.out, List.length_append]; rfl, by rw [HTk.out]; exact own_appB hown4 (by rw [HEn.out]; simp [byV]) (by rw [HEn.out]; simp), (hbel.alloc zb _).trans hbel4⟩, by simp [intOf]; omega⟩
   ·by_cases h2 : r < 2048
    ·have HEn : Hid (encN r = [0xC0 + r / 64, 0x80 + r % 64]) := Lib.hid (by rw [encN, if_neg h1, if_pos h2])
     go_wp2_with (at_builtin; go_must (refine app_list rfl _ _ _ rfl elt_u8 (w.heap.size) _ rfl ((hown.alloc _)) _ _ rfl ((rd_built (by first | rfl | (simp; done)) rfl)) (by first | rfl | exact chV_one _ | exact byV_one _) (by omega) (by omega) (by first | (simp; done) | (simp; omega) | omega) ?_); intro A4 c4 w4 hown4 hbel4 hgr4 hat4; have z4 := hbel4.size; (try simp only [World.size_alloc] at z4); (try simp only [Nat.zero_add, List.nil_append] at hown4))
     exact ⟨⟨A4, c4, k + 1, by omega, by go_num, by rw [HTk.out, HEn.out, List.length_append]; rfl, by rw [HTk.out]; exact own_appB hown4 (by rw [HEn.out]; simp [byV]) (by rw [HEn.out]; simp), (hbel.alloc zb _).trans hbel4⟩, by simp [intOf]; omega⟩
    ·by_cases h3 : r < 65536
     ·have HEn : Hid (encN r = [0xE0 + r / 4096, 0x80 + r / 64 % 64, 0x80 + r % 64]) := Lib.hid (by rw [encN, if_neg h1, if_neg h2, if_pos h3])
      obtain ⟨z, hz⟩ : ∃ z : Int, z = (r : Int) := ⟨_, rfl⟩
      rw [← hz] at hc
      have z1 : 2048 ≤ z := by omega
      have z2 : z < 65536 := by omega
      have z3 : z < 55296 ∨ (55296 ≤ z ∧ ¬ z ≤ 57343) := by omega
      have HZ := Lib.hid hz
      clear hz h1 h2 h3
      clear hch
      rcases z3 with z3 | ⟨z3, z4⟩
      ·skip
       go_wp2_with (at_builtin; go_must (refine app_list rfl _ _ _ rfl elt_u8 (w.heap.size) _ rfl ((hown.alloc _)) _ _ rfl ((rd_built (by first | rfl | (simp; done)) rfl)) (by first | rfl | exact chV_one _ | exact byV_one _) (by omega) (by omega) (by first | (simp; done) | (simp; omega) | omega) ?_); intro A4 c4 w4 hown4 hbel4 hgr4 hat4; have z4 := hbel4.size; (try simp only [World.size_alloc] at z4); (try simp only [Nat.zero_add, List.nil_append] at hown4))
       exact ⟨⟨A4, c4, k + 1, by omega, by go_num, by rw [HTk.out, HEn.out, List.length_append]; rfl, by rw [HTk.out]; exact own_appB hown4 (by rw [HEn.out, HZ.out]; simp [byV]) (by rw [HEn.out]; simp), (hbel.alloc zb _).trans hbel4⟩, by simp [intOf]; omega⟩
      ·skip
       go_wp2_with (at_builtin; go_must (refine app_list rfl _ _ _ rfl elt_u8 (w.heap.size) _ rfl ((hown.alloc _)) _ _ rfl ((rd_built (by first | rfl | (simp; done)) rfl)) (by first | rfl | exact chV_one _ | exact byV_one _) (by omega) (by omega) (by first | (simp; done) | (simp; omega) | omega) ?_); intro A4 c4 w4 hown4 hbel4 hgr4 hat4; have z4 := hbel4.size; (try simp only [World.size_alloc] at z4); (try simp only [Nat.zero_add, List.nil_append] at hown4))
       exact ⟨⟨A4, c4, k + 1, by omega, by go_num, by rw [HTk.out, HEn.out, List.length_append]; rfl, by rw [HTk.out]; exact own_appB hown4 (by rw [HEn.out, HZ.out]; simp [byV]) (by rw [HEn.out]; simp), (hbel.alloc zb _).trans hbel4⟩, by simp [intOf]; omega⟩
     ·have HEn : Hid (encN r = [0xF0 + r / 262144, 0x80 + r / 4096 % 64, 0x80 + r / 64 % 64, 0x80 + r % 64]) := Lib.hid (by rw [encN, if_neg h1, if_neg h2, if_neg h3])
      obtain ⟨z, hz⟩ : ∃ z : Int, z = (r : Int) := ⟨_, rfl⟩
      rw [← hz] at hc
      have z1 : 2048 ≤ z := by omega
      have z2 : 65536 ≤ z := by omega
      have z3 : z ≤ 1114111 := by omega
      have HZ := Lib.hid hz
      clear hz h1 h2 h3
      clear hch
      go_wp2_with (at_builtin; go_must (refine app_list rfl _ _ _ rfl elt_u8 (w.heap.size) _ rfl ((hown.alloc _)) _ _ rfl ((rd_built (by first | rfl | (simp; done)) rfl)) (by first | rfl | exact chV_one _ | exact byV_one _) (by omega) (by omega) (by first | (simp; done) | (simp; omega) | omega) ?_); intro A4 c4 w4 hown4 hbel4 hgr4 hat4; have z4 := hbel4.size; (try simp only [World.size_alloc] at z4); (try simp only [Nat.zero_add, List.nil_append] at hown4))
      exact ⟨⟨A4, c4, k + 1, by omega, by go_num, by rw [HTk.out, HEn.out, List.length_append]; rfl, by rw [HTk.out]; exact own_appB hown4 (by rw [HEn.out, HZ.out]; simp [byV]) (by rw [HEn.out]; simp), (hbel.alloc zb _).trans hbel4⟩, by simp [intOf]; omega⟩
  ·obtain rfl : k = n := by omega
   have ht : rs.take k = rs := List.take_of_length_le (by have := HN.out; omega)
   rw [ht] at hown
   have hl : (encL_ (rs.take k)).length = (encL_ rs).length := by rw [ht]
   have hcv := HE.out _ c' wr (Rd.of_own hown)
   rw [ht]
   clear hl HL HT HC HE
   generalize (encL_ rs).length = m at *
   clear ht
   go_wp2
   go_ret
   exact ⟨rfl, hbel⟩
end Go.Proofs.YtholajadbbdcmaaGreatDoor
namespace Go.Proofs.YtholajadbbdcmaaGreatDoor
open Go.RowKit
def encT (t : List (Int × Int)) : List Value := t.flatMap fun p => [.int .i32 p.1, .int .i32 p.2]
theorem encT_get : ∀ (t : List (Int × Int)) (i : Nat) (h : i < t.length), (encT t)[i * 2]? = some (.int .i32 t[i].1) ∧ (encT t)[i * 2 + 1]? = some (.int .i32 t[i].2)
 | [], i, h => by cases h
 | p :: t, 0, _ => ⟨rfl, rfl⟩
 | p :: t, i + 1, h => by
  have e : encT (p :: t) = .int .i32 p.1 :: .int .i32 p.2 :: encT t := by simp [encT]
  obtain ⟨h1, h2⟩ := encT_get t i (by simpa using h)
  rw [e]
  refine ⟨?_, ?_⟩
  ·rw [show (i + 1) * 2 = i * 2 + 1 + 1 by omega, List.getElem?_cons_succ, List.getElem?_cons_succ]
   exact h1
  ·rw [show (i + 1) * 2 + 1 = i * 2 + 1 + 1 + 1 by omega, List.getElem?_cons_succ, List.getElem?_cons_succ]
   exact h2
theorem rd_tab {w : World} {B n : Nat} {A : Option Addr} {t : List (Int × Int)} (rd : Rd w B 2 A n (encT t)) {i : Nat} (hi : i < t.length) (hn : t.length = n) :
  ∃ b o, A = some ⟨b, o, none⟩ ∧ w.cell? ⟨b, o + i * 2, none⟩ = some (.int .i32 t[i].1) ∧ w.cell? ⟨b, o + i * 2 + 1, none⟩ = some (.int .i32 t[i].2) := by
 obtain ⟨b, o, e, _, hc⟩ := rd.2 (by omega)
 obtain ⟨h1, h2⟩ := encT_get t i hi
 exact ⟨b, o, e, hc _ _ h1, hc _ _ h2⟩
set_option maxHeartbeats 1000000 in
theorem found (t : List (Int × Int)) (ha : ApartT t) (hu : ∀ p ∈ t, p.1 ≤ p.2) (r : Int) (g n c B : Nat) (A : Option Addr) (w : World) (hn : t.length = n) (hb : n ≤ 1000) (hbox : w.cell? ⟨g, 0, none⟩ = some (.slice A n c)) (rd : Rd w B 2 A n (encT t)) :
  Calls Tryz.prog 170 #[.int .i32 r, .pointer (some ⟨g, 0, none⟩)] w (Quiet (.bool (inT t r)) w) := by
 have HF : Hid (∀ k, (∀ j (h : j < t.length), j < k → t[j].2 < r) → (∀ j (h : j < t.length), k ≤ j → r ≤ t[j].2) → k ≤ t.length → inT t r = if h : k < t.length then decide (t[k].1 ≤ r) else false) := Lib.hid fun k h1 h2 h3 => inT_found ha h1 h2 h3
 have HN := Lib.hid hn
 have HM : Hid (∀ i j (hi : i < t.length) (hj : j < t.length), i ≤ j → t[i].2 ≤ t[j].2) := Lib.hid fun i j hi hj h => tab_mono ha hu h hj
 generalize inT t r = R at *
 clear ha hu hn
 go_enter Tryz.func170, Tryz.ntmps170
 go_wp2
 go_quiet (fail)
 go_wp2
 go_loopw [4, 5] (fun x y wr => ∃ a b j : Nat, a ≤ b ∧ b ≤ n ∧ x = .int .i64 a ∧ y = .int .i64 b ∧ wr = w.drewN j ∧ Hid (∀ j (h : j < t.length), j < a → t[j].2 < r) ∧ Hid (∀ j (h : j < t.length), b ≤ j → r ≤ t[j].2)) (fun x y _ => (intOf y).toNat - (intOf x).toNat)
 case atStart => exact ⟨0, n, _, Nat.zero_le _, Nat.le_refl _, rfl, rfl, rfl, Lib.hid fun j h h2 => absurd h2 (Nat.not_lt_zero j), Lib.hid fun j h h2 => absurd h2 (by have := HN.out; omega)⟩
 case round =>
  obtain ⟨a, b, j, hab, hbn, rfl, rfl, rfl, HA, HB⟩ := hrel
  by_cases hlt : a < b
  ·have e1 : IntKind.i64.wrap ((a : Int) + (b : Int)) = (a : Int) + (b : Int) := IntWalk.i64_in _ (by omega)
   have e2 : ((a : Int) + (b : Int)).tdiv 2 = (((a + b) / 2 : Nat) : Int) := by
    rw [show (a : Int) + (b : Int) = ((a + b : Nat) : Int) by omega, Int.tdiv_eq_ediv_of_nonneg (by omega)]
    rfl
   have hm1 : a ≤ (a + b) / 2 := by omega
   have hm2 : (a + b) / 2 < b := by omega
   generalize (a + b) / 2 = m at *
   have hml : m < t.length := by have := HN.out; omega
   obtain ⟨bb, oo, rfl, c1, c2⟩ := rd_tab rd hml HN.out
   have e3 : IntKind.i64.wrap (m : Int) = (m : Int) := IntWalk.i64_in _ (by omega)
   by_cases hr : t[m].2 < r
   ·have HA2 : Hid (∀ j (h : j < t.length), j < m + 1 → t[j].2 < r) := Lib.hid fun j h h2 => by
     have := HM.out j m h hml (by omega)
     omega
    generalize t[m].2 = z at *
    clear c1
    go_wp2
    exact ⟨⟨m + 1, b, _, by omega, hbn, by go_num, rfl, rfl, HA2, HB⟩, by simp [intOf]; omega⟩
   ·have HB2 : Hid (∀ j (h : j < t.length), m ≤ j → r ≤ t[j].2) := Lib.hid fun j h h2 => by
     have := HM.out m j hml h h2
     omega
    generalize t[m].2 = z at *
    clear c1
    go_wp2
    exact ⟨⟨a, m, _, hm1, by omega, rfl, by go_num, rfl, HA, HB2⟩, by simp [intOf]; omega⟩
  ·obtain rfl : a = b := by omega
   have HR := Lib.hid (HF.out a HA.out HB.out (by have := HN.out; omega))
   by_cases hal : a < n
   ·have hal' : a < t.length := by have := HN.out; omega
    obtain ⟨bb, oo, rfl, c1, c2⟩ := rd_tab rd hal' HN.out
    have HR2 : Hid (R = decide (t[a].1 ≤ r)) := Lib.hid (by rw [HR.out, dif_pos hal'])
    generalize t[a].1 = z at *
    clear c2 HR
    go_wp2
    go_ret
    exact ⟨by rw [HR2.out]; rfl, _, rfl⟩
   ·have HR2 : Hid (R = false) := Lib.hid (by rw [HR.out, dif_neg (by have := HN.out; omega)])
    clear HR
    go_wp2
    go_ret
    exact ⟨by rw [HR2.out]; rfl, _, rfl⟩
end Go.Proofs.YtholajadbbdcmaaGreatDoor
