/- Joined: Kd1, Un0, Un1, Un2, Ut4, Lib3. -/
import Derived.Shelf.Unicode.ValidAny
import Derived.Test.YtlndbiamiioakaaGreatDoorVAG
set_option linter.unusedVariables false
set_option linter.unusedSimpArgs false
set_option linter.unnecessarySimpa false
set_option maxHeartbeats 4000000
namespace Go.Proofs.YtlndbiamiioakaaGreatDoor
open Go.Proofs.Tryz Go.RowKit
set_option maxRecDepth 20000
theorem one_byte {s : ByteArray} (h : s.size = 1) : ∃ c, s = ⟨#[c]⟩ := by
 obtain ⟨⟨l⟩⟩ := s
 match l, h with
 | [c], _ => exact ⟨c, rfl⟩
theorem qh0 (c : UInt8) (wd : Bool) (st : Int) : qv ⟨⟨#[c]⟩, wd, st⟩ = vV c.toNat := rfl
theorem kindL_no {g : Gl} (h : g.text.size ≠ 1) : qv g = 0 := by
 unfold qv
 split
 ·rename_i c hc
  have := congrArg List.length hc
  exact absurd (by simpa using this) h
 ·rfl
theorem qbr (g : Gl) (hs : g.text.size <= 1000000000) (w : World) : Calls prog 68 #[glV g] w (qg (.int .i64 (qv g : Int)) w) := by
 by_cases h1 : g.text.size = 1
 ·obtain ⟨t, wd, st⟩ := g
  obtain ⟨c, rfl⟩ := one_byte h1
  rw [qh0]
  have HK : Hid ((vV c.toNat : Int) = if 97 <= c.toNat /\ c.toNat <= 122 then 1 else if 65 <= c.toNat /\ c.toNat <= 90 then 2 else if 48 <= c.toNat /\ c.toNat <= 57 then 3 else 0) := Lh (by unfold vV; (repeat' split) <;> rfl)
  have hb : c.toNat < 256 := UInt8.toNat_lt _
  generalize (vV c.toNat : Int) = K at *
  clear hs h1
  go_enter func68, ntmps68
  go_upto_region 4 with fail
  simp only [ByteArray.getElem_eq_getElem_data, List.getElem_toArray, List.getElem_cons_zero]
  generalize c.toNat = b at *
  go_wp2
  all_goals go_ret
  all_goals
   refine ⟨congrArg (fun x => Ending.returned (Value.int .i64 x)) ?_, (Below.refl _ _).alloc (Nat.le_refl _) _⟩
   rw [HK.out]; (repeat' split) <;> first | rfl | omega
 ·rw [kindL_no h1]
  have h2 : ((g.text.size : Int) != 1) = true := bne_iff_ne.2 (by omega)
  obtain ⟨t, wd, st⟩ := g
  dsimp only at *
  clear h1
  go_enter func68, ntmps68
  go_wp2
  go_ret
  exact ⟨rfl, (Below.refl _ _).alloc (Nat.le_refl _) _⟩
end Go.Proofs.YtlndbiamiioakaaGreatDoor
namespace Go.Proofs.YtlndbiamiioakaaGreatDoor
def BdU (s : US) : Prop := s.m <= 3 /\ (s.m = 3 -> s.v < 8) /\ (s.m = 2 -> s.v < 512) /\ (s.m = 1 -> s.v < 32768) /\ s.v < 2097152 /\ s.lo < 256 /\ s.hi < 256
theorem bdU_u0 : BdU u0 := by unfold BdU u0; dsimp only; omega
theorem qdw (b : Nat) : BdU (qM b) := by
 unfold BdU qM
 dsimp only
 refine ⟨?_, ?_, ?_, ?_, ?_, ?_, ?_⟩
 ·split
  ·omega
  ·split
   ·omega
   ·split <;> omega
 ·intro h
  split at h
  ·omega
  ·split at h
   ·omega
   ·split at h
    ·rw [if_neg (by assumption), if_neg (by assumption), if_pos (by assumption)]; omega
    ·omega
 ·intro h
  split at h
  ·omega
  ·split at h
   ·rw [if_neg (by assumption), if_pos (by assumption)]; omega
   ·split at h <;> omega
 ·intro h
  split at h
  ·rw [if_pos (by assumption)]; omega
  ·split at h
   ·omega
   ·split at h <;> omega
 ·split
  ·omega
  ·split
   ·omega
   ·split <;> omega
 ·split
  ·omega
  ·split <;> omega
 ·split
  ·omega
  ·split <;> omega
theorem qeG {s : US} (h : BdU s) (b : Nat) (hm : 0 < s.m) : BdU ⟨s.v * 64 + b % 64, s.m - 1, 0x80, 0xBF⟩ := by
 unfold BdU at *
 dsimp only
 omega
theorem step_on {s : US} {b : Nat} {t out : List Nat} (h0 : 0 < s.m) (h1 : s.lo <= b) (h2 : b <= s.hi) (h3 : s.m ≠ 1) : za (b :: t) (s, out) = za t (⟨s.v * 64 + b % 64, s.m - 1, 0x80, 0xBF⟩, out) := qbH (by omega) h1 h2 t out
theorem qhN {s : US} {b : Nat} {t out : List Nat} (h0 : s.m = 1) (h1 : s.lo <= b) (h2 : b <= s.hi) : za (b :: t) (s, out) = za t (⟨s.v * 64 + b % 64, s.m - 1, 0x80, 0xBF⟩, out ++ [s.v * 64 + b % 64]) := by rw [k9 h0 h1 h2, h0]
theorem qhq {s : US} {b : Nat} {t out : List Nat} (h0 : 0 < s.m) (h1 : ¬ (s.lo <= b /\ b <= s.hi)) : za (b :: t) (s, out) = za (b :: t) (u0, out ++ [65533]) := by
 have e : kb s b = false := by
  cases h : kb s b with
  | false => rfl
  | true => exact absurd (qbj.1 h).2 h1
 show za t (ja s b, out ++ yo s b) = za t (ja u0 b, out ++ [65533] ++ yo u0 b)
 have e0 : kb u0 b = false := kc rfl b
 rw [ja, ja, e, e0, yo, yo, e, e0]
 simp only [Bool.false_eq_true, if_false, if_pos h0]
 rw [if_neg (show ¬ 0 < u0.m from Nat.lt_irrefl 0)]
 simp
theorem step_asc {s : US} {b : Nat} {t out : List Nat} (h0 : s.m = 0) (h1 : b < 128) : za (b :: t) (s, out) = za t (qM b, out ++ [b]) := qd9 h0 h1 t out
theorem step_bad {s : US} {b : Nat} {t out : List Nat} (h0 : s.m = 0) (h1 : ¬ b < 128) (h2 : (qM b).m = 0) : za (b :: t) (s, out) = za t (qM b, out ++ [65533]) := by
 show za t (ja s b, out ++ yo s b) = _
 rw [ja, yo, kc h0]
 simp only [Bool.false_eq_true, if_false]
 rw [if_neg (by omega), if_neg h1, if_pos h2]
 rfl
theorem qhy {s : US} {b : Nat} {t out : List Nat} (h0 : s.m = 0) (h1 : ¬ b < 128) (h2 : (qM b).m ≠ 0) : za (b :: t) (s, out) = za t (qM b, out) := qaj h0 (by omega) rfl h2 t out
section
variable {l t outs : List Nat} {sv sm slo shi b : Nat} {F : US × List Nat}
theorem run_on (h : za l (⟨sv, sm, slo, shi⟩, outs) = F) (hl : l = b :: t) (h0 : 0 < sm) (h1 : slo <= b) (h2 : b <= shi) (h3 : sm ≠ 1) : za t (⟨sv * 64 + b % 64, sm - 1, 128, 191⟩, outs) = F := by
 rw [<- h, hl, step_on (s := ⟨sv, sm, slo, shi⟩) h0 h1 h2 h3]
theorem qea (h : za l (⟨sv, 1, slo, shi⟩, outs) = F) (hl : l = b :: t) (h1 : slo <= b) (h2 : b <= shi) : za t (⟨sv * 64 + b % 64, 0, 128, 191⟩, outs ++ [sv * 64 + b % 64]) = F := by
 rw [<- h, hl, qhN (s := ⟨sv, 1, slo, shi⟩) rfl h1 h2]
 rfl
theorem qcc (h : za l (⟨sv, sm, slo, shi⟩, outs) = F) (hl : l = b :: t) (h0 : 0 < sm) (h1 : ¬ (slo <= b /\ b <= shi)) : za l (u0, outs ++ [65533]) = F := by
 rw [<- h, hl, qhq (s := ⟨sv, sm, slo, shi⟩) h0 h1]
theorem qbN {s : US} (h : za l (s, outs) = F) (hl : l = b :: t) (h0 : s.m = 0) (h1 : b < 128) : za t (qM b, outs ++ [b]) = F := by
 rw [<- h, hl, step_asc h0 h1]
theorem qbI {s : US} (h : za l (s, outs) = F) (hl : l = b :: t) (h0 : s.m = 0) (h1 : ¬ b < 128) (h2 : (qM b).m = 0) : za t (qM b, outs ++ [65533]) = F := by
 rw [<- h, hl, step_bad h0 h1 h2]
theorem qaS {s : US} (h : za l (s, outs) = F) (hl : l = b :: t) (h0 : s.m = 0) (h1 : ¬ b < 128) (h2 : (qM b).m ≠ 0) : za t (qM b, outs) = F := by
 rw [<- h, hl, qhy h0 h1 h2]
theorem bd_on (h : BdU ⟨sv, sm, slo, shi⟩) (b : Nat) (hm : 0 < sm) : BdU ⟨sv * 64 + b % 64, sm - 1, 128, 191⟩ := qeG h b hm
theorem bd_last (h : BdU ⟨sv, 1, slo, shi⟩) (b : Nat) : BdU ⟨sv * 64 + b % 64, 0, 128, 191⟩ := qeG h b (Nat.lt_succ_self 0)
end
def KeptU (K : List Nat) (s : US) : Prop :=
 (s.m = 0 /\ K = []) ∨ (0 < s.m /\ ∃ b0 rest, K = b0 :: rest /\ b0 < 256 /\ (qM b0).m = s.m + rest.length /\ (rest = [] -> qM b0 = s) /\ (rest ≠ [] -> s.lo = 128 /\ s.hi = 191) /\
  rest.foldl (fun n b => n * 64 + b - 128) (qM b0).v = s.v /\ ∀ x ∈ rest, 128 <= x /\ x <= 191)
theorem qef : KeptU [] u0 := .inl ⟨rfl, rfl⟩
theorem KeptU.beg {b : Nat} (hb : b < 256) (h : (qM b).m ≠ 0) : KeptU [b] (qM b) := .inr ⟨by omega, b, [], rfl, hb, rfl, fun _ => rfl, fun h => absurd rfl h, rfl, fun x hx => by cases hx⟩
theorem qeg (b : Nat) : 128 <= (qM b).lo /\ (qM b).hi <= 191 := by
 unfold qM
 dsimp only
 constructor
 ·split
  ·omega
  ·split <;> omega
 ·split
  ·omega
  ·split <;> omega
theorem KeptU.snoc {K : List Nat} {s : US} {b : Nat} (h : KeptU K s) (h0 : 1 < s.m) (h1 : s.lo <= b) (h2 : b <= s.hi) : KeptU (K ++ [b]) ⟨s.v * 64 + b % 64, s.m - 1, 0x80, 0xBF⟩ := by
 rcases h with ⟨h, _⟩ | ⟨_, b0, rest, rfl, hb, hm, hr, hr2, hv, hx⟩
 ·omega
 ·have hb2 : 128 <= b /\ b <= 191 := by
   by_cases e : rest = []
   ·have := hr e
    subst this
    have := qeg b0
    omega
   ·have := hr2 e
    omega
  refine .inr ⟨by dsimp only; omega, b0, rest ++ [b], rfl, hb, ?_, fun e => absurd e (by simp), fun _ => ⟨rfl, rfl⟩, ?_, fun x h => ?_⟩
  ·rw [List.length_append, List.length_singleton]
   dsimp only
   omega
  ·rw [List.foldl_append, hv]
   dsimp only [List.foldl]
   omega
  ·rcases List.mem_append.1 h with h | h
   ·exact hx x h
   ·rw [List.mem_singleton] at h
    subst h
    exact hb2
def valU (K : List Nat) : Nat := match K with
 | [] => 0
 | b0 :: rest => rest.foldl (fun n b => n * 64 + b - 128) (qM b0).v
theorem KeptU.whole {K : List Nat} {s : US} {b : Nat} (h : KeptU K s) (h0 : s.m = 1) (h1 : s.lo <= b) (h2 : b <= s.hi) : valU (K ++ [b]) = s.v * 64 + b % 64 /\ ∃ b0 rest, K ++ [b] = b0 :: rest /\ b0 < 256 /\ (qM b0).m = rest.length /\ 0 < rest.length /\ ∀ x ∈ rest, 128 <= x /\ x <= 191 := by
 rcases h with ⟨h, _⟩ | ⟨_, b0, rest, rfl, hb, hm, hr, hr2, hv, hx⟩
 ·omega
 ·have hb2 : 128 <= b /\ b <= 191 := by
   by_cases e : rest = []
   ·have := hr e
    subst this
    have := qeg b0
    omega
   ·have := hr2 e
    omega
  refine ⟨?_, b0, rest ++ [b], rfl, hb, by rw [List.length_append, List.length_singleton]; omega, by simp, fun x h => ?_⟩
  ·show (rest ++ [b]).foldl _ (qM b0).v = _
   rw [List.foldl_append, hv]
   dsimp only [List.foldl]
   omega
  ·rcases List.mem_append.1 h with h | h
   ·exact hx x h
   ·rw [List.mem_singleton] at h
    subst h
    exact hb2
def limU (K : List Nat) : Nat × Nat × Nat := match K with
 | [] => (0, 255, 0)
 | b :: rest => (if rest = [] then (qM b).lo else 128, if rest = [] then (qM b).hi else 191, if (qM b).m = 0 then 0 else (qM b).m + 1)
theorem KeptU.lim {K : List Nat} {s : US} (h : KeptU K s) (hK : 0 < s.m) : limU K = (s.lo, s.hi, K.length + s.m) := by
 rcases h with ⟨h, _⟩ | ⟨_, b0, rest, rfl, hb, hm, hr, hr2, hv, hx⟩
 ·omega
 ·unfold limU
  dsimp only
  rw [if_neg (show ¬ (qM b0).m = 0 by omega), hm]
  by_cases e : rest = []
  ·rw [if_pos e, if_pos e, hr e, e]
   simp
   omega
  ·obtain ⟨a, c⟩ := hr2 e
   rw [if_neg e, if_neg e, a, c]
   simp
   omega
end Go.Proofs.YtlndbiamiioakaaGreatDoor
namespace Go.Proofs.YtlndbiamiioakaaGreatDoor
open Go.Proofs.Tryz Go.RowKit
abbrev usV (s : US) : Value := .agg #[.int .i32 s.v, .int .i64 s.m, .int .u8 s.lo, .int .u8 s.hi]
theorem us_eq (S : US) (v m lo hi : Int) (h1 : v = S.v) (h2 : m = S.m) (h3 : lo = S.lo) (h4 : hi = S.hi) : Value.agg #[.int .i32 v, .int .i64 m, .int .u8 lo, .int .u8 hi] = usV S := by subst h1 h2 h3 h4; rfl
theorem info_us : (prog.info? 149).map (fun x => x.size) = some 4 := by kernel_rfl
theorem qe5 (b : Nat) (hb : b < 256) (w : World) : Calls prog 119 #[.int .u8 b] w (qg (usV (qM b)) w) := by
 have HE := Lh (us_eq (qM b))
 have HV : Hid ((qM b).v = if 0xC2 <= b /\ b <= 0xDF then b % 32 else if 0xE0 <= b /\ b <= 0xEF then b % 16 else if 0xF0 <= b /\ b <= 0xF4 then b % 8 else 0) := Lh rfl
 have HM : Hid ((qM b).m = if 0xC2 <= b /\ b <= 0xDF then 1 else if 0xE0 <= b /\ b <= 0xEF then 2 else if 0xF0 <= b /\ b <= 0xF4 then 3 else 0) := Lh rfl
 have HL : Hid ((qM b).lo = if b = 0xE0 then 0xA0 else if b = 0xF0 then 0x90 else 0x80) := Lh rfl
 have HH : Hid ((qM b).hi = if b = 0xED then 0x9F else if b = 0xF4 then 0x8F else 0xBF) := Lh rfl
 generalize qM b = S at *
 go_enter func119, ntmps119
 go_wp2
 all_goals
  simp only [beq_iff_eq, beq_eq_false_iff_ne, ne_eq] at *
  refine bodyPost_ret (results_cell_row rfl _ _ w.heap.size 149 _ (0, 0) _ rfl (Blk.alloc (Blk.new w _ _) _) underlying149 rfl info_us) rfl ⟨congrArg Ending.returned (HE.out _ _ _ _ ?_ ?_ ?_ ?_), ((Below.refl _ _).alloc (Nat.le_refl _) _).alloc (by simp) _⟩
  ·rw [HV.out]; repeat' split
   all_goals omega
  ·rw [HM.out]; repeat' split
   all_goals omega
  ·rw [HL.out]; repeat' split
   all_goals omega
  ·rw [HH.out]; repeat' split
   all_goals omega
def chV (l : List Nat) : List Value := l.map fun (r : Nat) => Value.int .i32 (r : Int)
theorem chV_len (l : List Nat) : (chV l).length = l.length := by simp [chV]
theorem zZ (l : List Nat) : (chV l).all Value.oneCell' = true := by
 rw [List.all_eq_true]
 intro u hu
 simp [chV] at hu
 obtain ⟨i, _, rfl⟩ := hu
 rfl
theorem chV_app (a b : List Nat) : chV (a ++ b) = chV a ++ chV b := by simp [chV]
theorem qdX (l : List Nat) (k : Nat) (h : k < l.length) : (chV l)[k]? = some (.int .i32 (l[k] : Int)) := by simp [chV, h]
theorem vW : Elt prog 93 21 (.int .i32 0) 1 4 where
 und := underlying93
 row := by
  have h : (prog.info? 21).map (fun i => (i.zero, i.size, i.bytes)) = some (some (.int .i32 0), 1, 4) := by kernel_rfl
  obtain ⟨i, hi, a, b, c⟩ := info_parts h
  exact ⟨i, hi, a, b, c⟩
 zs := rfl
 pos := by decide
theorem kL {w : World} {g : Nat} {t : TypeId} {a b c d a' b' c' d' : Value} (h : Blk w g t #[a, b, c, d]) :
  Blk ((((w.setCell ⟨g, 0, none⟩ a').setCell ⟨g, 1, none⟩ b').setCell ⟨g, 2, none⟩ c').setCell ⟨g, 3, none⟩ d') g t #[a', b', c', d'] := by
 have := (((h.set_ 0 a').set_ 1 b').set_ 2 c').set_ 3 d'
 simpa using this
theorem yI {B : Nat} {w w0 : World} {g : Nat} {a' b' c' d' : Value} (h : Below B w0 w) (hg : B <= g) :
  Below B w0 ((((w.setCell ⟨g, 0, none⟩ a').setCell ⟨g, 1, none⟩ b').setCell ⟨g, 2, none⟩ c').setCell ⟨g, 3, none⟩ d') := (((h.setCell hg _).setCell hg _).setCell hg _).setCell hg _
theorem own_keep {w w' : World} {base size n : Nat} {e : TypeId} {v : Value} {xs : List Value} (h : w.ownsRow base e size v n xs) (hk : ∀ k, base <= k -> w'.heap[k]? = w.heap[k]?) : w'.ownsRow base e size v n xs := by
 refine ⟨h.1, ?_⟩
 rcases h.2 with h0 | ⟨g, cap, cur, rfl, h1, h2, h3⟩
 ·exact .inl h0
 ·exact .inr ⟨g, cap, cur, rfl, h1, (hk g h1).trans h2, h3⟩
theorem qs {w : World} {base size n : Nat} {e : TypeId} {v : Value} {xs : List Value} (h : w.ownsRow base e size v n xs) {p : Addr} (hp : p.block < base) (u : Value) : (w.setCell p u).ownsRow base e size v n xs :=
 own_keep h fun k hk => Below.heap_setCell w p u k (by omega)
theorem kV {w : World} {base size n g : Nat} {e : TypeId} {v : Value} {xs : List Value} {a' b' c' d' : Value} (h : w.ownsRow base e size v n xs) (hg : g < base) :
  ((((w.setCell ⟨g, 0, none⟩ a').setCell ⟨g, 1, none⟩ b').setCell ⟨g, 2, none⟩ c').setCell ⟨g, 3, none⟩ d').ownsRow base e size v n xs := qs (qs (qs (qs h hg _) hg _) hg _) hg _
theorem vI {w : World} {base c x : Nat} {A : Option Addr} {e : TypeId} {outs : List Nat} {v : Int} (h : w.ownsRow base e 1 (.slice A (outs.length + 1) c) (outs.length + 1) (chV outs ++ [.int .i32 v])) (hv : (x : Int) = v) :
  w.ownsRow base e 1 (.slice A (outs ++ [x]).length c) (outs ++ [x]).length (chV (outs ++ [x])) := by
 rw [chV_app, List.length_append, List.length_singleton]
 subst hv
 exact h
theorem qbb (sv b : Nat) : ((sv * 64 + b % 64 : Nat) : Int) = (sv : Int) * 64 + (b : Int) % 64 := by omega
theorem qb8 {P : Program} {c : Code} {Q : Exit -> Act -> World -> Prop} {a : Act} {w : World} (F : World -> Prop) (h : F w) (k : ∀ w', F w' -> c.wp P Q a w') : c.wp P Q a w := k w h
def usC (s : US) : Array Value := #[.int .i32 s.v, .int .i64 s.m, .int .u8 s.lo, .int .u8 s.hi]
set_option maxRecDepth 10000 in
theorem qgb (t : ByteArray) (ht : t.size <= 1000000000) (w : World) (hv : (za (qz t) (u0, [])).1.m = 0) :
  Calls prog 94 #[.string ⟨#[]⟩, .string t] w fun e w' => ∃ A c, e = .returned (.tuple #[.slice A (qw (qz t)).length c, .string ⟨#[]⟩]) /\ w'.ownsRow w.heap.size 21 1 (.slice A (qw (qz t)).length c) (qw (qz t)).length (chV (qw (qz t))) /\ Below w.heap.size w w' := by
 have HF : Hid (za ((qz t).drop 0) (u0, []) = za (qz t) (u0, [])) := Lh rfl
 have HV : Hid ((za (qz t) (u0, [])).1.m = 0) := Lh hv
 unfold qw
 generalize za (qz t) (u0, []) = F at *
 have HN : Hid ((qz t).length = t.size) := Lh (zf t)
 clear hv
 go_enter func94, ntmps94
 go_wp2
 have e0 : (⟨#[]⟩ ++ t : ByteArray) = t := ByteArray.ext (by rw [ByteArray.data_append]; simp)
 simp only [e0]
 go_loopw [7, 9, 17] (fun v st x wr => ∃ (A : Option Addr) (c k p : Nat) (s : US) (outs : List Nat), k <= t.size /\ x = .int .i64 k /\ st = .int .i64 p /\ p <= k /\ v = .slice A outs.length c /\
   wr.ownsRow (w.heap.size + 1) 21 1 (.slice A outs.length c) outs.length (chV outs) /\ Blk wr w.heap.size 149 (usC s) /\ Below w.heap.size w wr /\ Hid (za ((qz t).drop k) (s, outs) = F) /\ Hid (BdU s) /\ outs.length <= 2 * k) (fun _ _ x _ => t.size - (intOf x).toNat)
 case atStart => exact ⟨none, 0, 0, 0, u0, [], Nat.zero_le _, rfl, rfl, Nat.le_refl _, rfl, zh _ _ _ _, Blk.new w _ _, (Below.refl _ _).alloc (Nat.le_refl _) _, HF, Lh bdU_u0, Nat.le_refl _⟩
 case round =>
  obtain ⟨A, c, k, p, ⟨sv, sm, slo, shi⟩, outs, hk, rfl, rfl, hp, rfl, hown, hblk, hbel, HR, HB, hle⟩ := hrel
  have f0 := hblk.frozen 0
  have f1 := hblk.frozen 1
  have f2 := hblk.frozen 2
  have f3 := hblk.frozen 3
  have c0 := hblk.cell 0
  have c1 := hblk.cell 1
  have c2 := hblk.cell 2
  have c3 := hblk.cell 3
  simp only [usC, La, Lb, Lc] at c0 c1 c2 c3
  by_cases hlt : k < t.size
  ·have HD : Hid ((qz t).drop k = (t[k]'hlt).toNat :: (qz t).drop (k + 1)) := Lh (by rw [List.drop_eq_getElem_cons (by rw [HN.out]; exact hlt), qaQ t k hlt]; congr 2; exact getElem!_pos t.data k hlt)
   have hbl : (t[k]'hlt).toNat < 256 := UInt8.toNat_lt _
   have bd := HB.out
   unfold BdU at bd
   dsimp only at bd
   go_upto_region 9 with fail
   generalize (t[k]'hlt).toNat = b at *
   by_cases hm : 0 < sm
   ·by_cases h1 : slo <= b
    ·by_cases h2 : b <= shi
     ·by_cases h3 : sm = 1
      ·have hsv : sv < 32768 := by omega
       subst h3
       have HS : Hid (za ((qz t).drop (k + 1)) (⟨sv * 64 + b % 64, 0, 128, 191⟩, outs ++ [sv * 64 + b % 64]) = F) := Lh (qea HR.out HD.out h1 h2)
       have HB2 : Hid (BdU ⟨sv * 64 + b % 64, 0, 128, 191⟩) := Lh (bd_last HB.out b)
       clear bd HB HR
       go_upto_region 11 with fail
       refine qb8 (fun wx => Blk wx w.heap.size 149 #[.int .i32 ((sv : Int) * 64 + (b : Int) % 64), .int .i64 0, .int .u8 128, .int .u8 191] /\ Below w.heap.size w wx /\ wx.ownsRow (w.heap.size + 1) 21 1 (.slice A outs.length c) outs.length (chV outs)) ⟨kL hblk, yI hbel (Nat.le_refl _), kV hown (by omega)⟩ ?_
       rintro wx ⟨hblk2, qh8, hown2⟩
       have zx := hblk2.lt
       have g0 := hblk2.cell 0
       have g1 := hblk2.cell 1
       simp only [La, Lb, Lc] at g0 g1
       clear c0 c1 c2 c3 f0 f1 f2 f3
       go_wp2_with (at_builtin; go_must (refine qh rfl _ _ _ rfl vW ((w.heap.size + 1)) _ rfl ((hown2.alloc _)) _ _ rfl ((qe (by rfl) rfl)) (by first | rfl | exact zZ _) (by omega) (by omega) (by first | (simp; done) | (simp; omega) | omega) ?_); intro A4 c4 w4 qie qia qii qik; have z4 := qia.size; (try simp only [World.size_alloc] at z4); (try simp only [Nat.zero_add, List.nil_append] at qie))
       exact ⟨⟨A4, c4, k + 1, p, ⟨sv * 64 + b % 64, 0, 128, 191⟩, outs ++ [sv * 64 + b % 64], by omega, by go_num, rfl, by omega, by rw [List.length_append]; rfl, vI qie (qbb sv b), by
        show Blk _ _ _ #[.int .i32 ((sv * 64 + b % 64 : Nat) : Int), .int .i64 0, .int .u8 128, .int .u8 191]
        rw [qbb]
        exact (hblk2.alloc _).below qia (by omega), (qh8.alloc (by omega) _).trans (qia.mono (by omega)), HS, HB2, by rw [List.length_append, List.length_singleton]; omega⟩, by simp [intOf]; omega⟩
      ·have hsv : sv < 32768 := by omega
       have HS : Hid (za ((qz t).drop (k + 1)) (⟨sv * 64 + b % 64, sm - 1, 128, 191⟩, outs) = F) := Lh (run_on HR.out HD.out hm h1 h2 h3)
       have HB2 : Hid (BdU ⟨sv * 64 + b % 64, sm - 1, 128, 191⟩) := Lh (bd_on HB.out b hm)
       clear HB HR
       have hm1 : ((sm : Int) - 1 == 0) = false := beq_eq_false_iff_ne.2 (by omega)
       go_upto_region 11 with fail
       refine qb8 (fun wx => Blk wx w.heap.size 149 #[.int .i32 ((sv : Int) * 64 + (b : Int) % 64), .int .i64 ((sm : Int) - 1), .int .u8 128, .int .u8 191] /\ Below w.heap.size w wx /\ wx.ownsRow (w.heap.size + 1) 21 1 (.slice A outs.length c) outs.length (chV outs)) ⟨kL hblk, yI hbel (Nat.le_refl _), kV hown (by omega)⟩ ?_
       rintro wx ⟨hblk2, qh8, hown2⟩
       have g0 := hblk2.cell 0
       have g1 := hblk2.cell 1
       simp only [La, Lb, Lc] at g0 g1
       clear c0 c1 c2 c3 f0 f1 f2 f3 bd
       go_wp2
       exact ⟨⟨A, c, k + 1, p, ⟨sv * 64 + b % 64, sm - 1, 128, 191⟩, outs, by omega, by go_num, rfl, by omega, rfl, hown2, by
        show Blk _ _ _ #[.int .i32 ((sv * 64 + b % 64 : Nat) : Int), .int .i64 ((sm - 1 : Nat) : Int), .int .u8 128, .int .u8 191]
        rw [qbb, show ((sm - 1 : Nat) : Int) = (sm : Int) - 1 by omega]
        exact hblk2, qh8, HS, HB2, by omega⟩, by simp [intOf]; omega⟩
     ·have HR' := Lh (qcc HR.out HD.out hm (fun h => h2 h.2))
      have HA : Hid (b < 128 -> za ((qz t).drop (k + 1)) (qM b, (outs ++ [65533]) ++ [b]) = F) := Lh fun h => qbN HR'.out HD.out rfl h
      have HC : Hid (¬ b < 128 -> (qM b).m = 0 -> za ((qz t).drop (k + 1)) (qM b, (outs ++ [65533]) ++ [65533]) = F) := Lh fun h h' => qbI HR'.out HD.out rfl h h'
      have HE : Hid (¬ b < 128 -> (qM b).m ≠ 0 -> za ((qz t).drop (k + 1)) (qM b, outs ++ [65533]) = F) := Lh fun h h' => qaS HR'.out HD.out rfl h h'
      have HBG := Lh (qe5 b hbl)
      have HBD : Hid (BdU (qM b)) := Lh (qdw b)
      clear HB HR bd
      generalize qM b = Z at *
      obtain ⟨zv, zm, zlo, zhi⟩ := Z
      dsimp only at HC HE
      have z0 := hblk.lt
      go_upto_region 16 with (first
       | (go_at_call 119; refine (HBG.out _).mono ?_; rintro e w3 ⟨rfl, qh9⟩; have q0 := (qir.below qh9 zO).frozen 0; have q1 := (qir.below qh9 zO).frozen 1; have q2 := (qir.below qh9 zO).frozen 2; have q3 := (qir.below qh9 zO).frozen 3; have e0 := (qir.below qh9 zO).cell 0; have e1 := (qir.below qh9 zO).cell 1; have e2 := (qir.below qh9 zO).cell 2; have e3 := (qir.below qh9 zO).cell 3; simp only [usC, La, Lb, Lc] at e0 e1 e2 e3)
       | ((at_builtin; go_must (refine qh rfl _ _ _ rfl vW ((w.heap.size + 1)) _ rfl ((hown.alloc _)) _ _ rfl ((qe (by rfl) rfl)) (by first | rfl | exact zZ _) (by omega) (by omega) (by first | (simp; done) | (simp; omega) | omega) ?_); intro A4 c4 w4 qie qia qii qik; have z4 := qia.size; (try simp only [World.size_alloc] at z4); (try simp only [Nat.zero_add, List.nil_append] at qie)); have qiF := vI (x := 65533) qie rfl; have qir := (hblk.alloc _).below qia (by omega); have hbelO := (hbel.alloc (by omega) _).trans (qia.mono (by omega)); have zO := qir.lt))
      rw [<- show (outs ++ [65533]).length = outs.length + 1 from by simp]
      refine qb8 (fun wx => Blk wx w.heap.size 149 (usC ⟨zv, zm, zlo, zhi⟩) /\ Below w.heap.size w wx /\ wx.ownsRow (w.heap.size + 1) 21 1 (.slice A4 ((outs ++ [65533])).length c4) ((outs ++ [65533])).length (chV (outs ++ [65533]))) ⟨kL (qir.below qh9 zO), yI (hbelO.trans (qh9.mono (by omega))) (Nat.le_refl _), kV (qa qiF qh9) (by omega)⟩ ?_
      rintro wx ⟨qiu, qiC, qiB⟩
      have zx := qiu.lt
      have g1 := qiu.cell 1
      simp only [usC, La, Lb, Lc] at g1
      have hlx : ((outs ++ [65533])).length <= 2 * k + 1 := by (try simp); omega
      generalize (outs ++ [65533]) = O at *
      by_cases h128 : b < 128
      ·have HS := Lh (HA.out h128)
       clear HA HC HE
       go_wp2_with (at_builtin; go_must (refine qh rfl _ _ _ rfl vW ((w.heap.size + 1)) _ rfl ((qiB.alloc _)) _ _ rfl ((qe (by rfl) rfl)) (by first | rfl | exact zZ _) (by omega) (by omega) (by first | (simp; done) | (simp; omega) | omega) ?_); intro A5 c5 w5 hown5 qib hgr5 hat5; have z5 := qib.size; (try simp only [World.size_alloc] at z5); (try simp only [Nat.zero_add, List.nil_append] at hown5))
       exact ⟨⟨A5, c5, k + 1, k, ⟨zv, zm, zlo, zhi⟩, O ++ [b], by omega, by go_num, rfl, by omega, by rw [List.length_append]; rfl, vI hown5 rfl, (qiu.alloc _).below qib (by omega), (qiC.alloc (by omega) _).trans (qib.mono (by omega)), HS, HBD, by rw [List.length_append, List.length_singleton]; omega⟩, by simp [intOf]; omega⟩
      ·by_cases hz : zm = 0
       ·have HS := Lh (HC.out h128 hz)
        clear HA HC HE
        subst hz
        go_wp2_with (at_builtin; go_must (refine qh rfl _ _ _ rfl vW ((w.heap.size + 1)) _ rfl ((qiB.alloc _)) _ _ rfl ((qe (by rfl) rfl)) (by first | rfl | exact zZ _) (by omega) (by omega) (by first | (simp; done) | (simp; omega) | omega) ?_); intro A5 c5 w5 hown5 qib hgr5 hat5; have z5 := qib.size; (try simp only [World.size_alloc] at z5); (try simp only [Nat.zero_add, List.nil_append] at hown5))
        exact ⟨⟨A5, c5, k + 1, k, ⟨zv, 0, zlo, zhi⟩, O ++ [65533], by omega, by go_num, rfl, by omega, by rw [List.length_append]; rfl, vI hown5 rfl, (qiu.alloc _).below qib (by omega), (qiC.alloc (by omega) _).trans (qib.mono (by omega)), HS, HBD, by rw [List.length_append, List.length_singleton]; omega⟩, by simp [intOf]; omega⟩
       ·have HS := Lh (HE.out h128 hz)
        have hz1 : ((zm : Int) == 0) = false := beq_eq_false_iff_ne.2 (by omega)
        clear HA HC HE
        go_wp2
        exact ⟨⟨A4, c4, k + 1, k, ⟨zv, zm, zlo, zhi⟩, O, by omega, by go_num, rfl, by omega, rfl, qiB, qiu, qiC, HS, HBD, by omega⟩, by simp [intOf]; omega⟩
    · have HR' := Lh (qcc HR.out HD.out hm (fun h => h1 h.1))
      have HA : Hid (b < 128 -> za ((qz t).drop (k + 1)) (qM b, (outs ++ [65533]) ++ [b]) = F) := Lh fun h => qbN HR'.out HD.out rfl h
      have HC : Hid (¬ b < 128 -> (qM b).m = 0 -> za ((qz t).drop (k + 1)) (qM b, (outs ++ [65533]) ++ [65533]) = F) := Lh fun h h' => qbI HR'.out HD.out rfl h h'
      have HE : Hid (¬ b < 128 -> (qM b).m ≠ 0 -> za ((qz t).drop (k + 1)) (qM b, outs ++ [65533]) = F) := Lh fun h h' => qaS HR'.out HD.out rfl h h'
      have HBG := Lh (qe5 b hbl)
      have HBD : Hid (BdU (qM b)) := Lh (qdw b)
      clear HB HR bd
      generalize qM b = Z at *
      obtain ⟨zv, zm, zlo, zhi⟩ := Z
      dsimp only at HC HE
      have z0 := hblk.lt
      go_upto_region 16 with (first
       | (go_at_call 119; refine (HBG.out _).mono ?_; rintro e w3 ⟨rfl, qh9⟩; have q0 := (qir.below qh9 zO).frozen 0; have q1 := (qir.below qh9 zO).frozen 1; have q2 := (qir.below qh9 zO).frozen 2; have q3 := (qir.below qh9 zO).frozen 3; have e0 := (qir.below qh9 zO).cell 0; have e1 := (qir.below qh9 zO).cell 1; have e2 := (qir.below qh9 zO).cell 2; have e3 := (qir.below qh9 zO).cell 3; simp only [usC, La, Lb, Lc] at e0 e1 e2 e3)
       | ((at_builtin; go_must (refine qh rfl _ _ _ rfl vW ((w.heap.size + 1)) _ rfl ((hown.alloc _)) _ _ rfl ((qe (by rfl) rfl)) (by first | rfl | exact zZ _) (by omega) (by omega) (by first | (simp; done) | (simp; omega) | omega) ?_); intro A4 c4 w4 qie qia qii qik; have z4 := qia.size; (try simp only [World.size_alloc] at z4); (try simp only [Nat.zero_add, List.nil_append] at qie)); have qiF := vI (x := 65533) qie rfl; have qir := (hblk.alloc _).below qia (by omega); have hbelO := (hbel.alloc (by omega) _).trans (qia.mono (by omega)); have zO := qir.lt))
      rw [<- show (outs ++ [65533]).length = outs.length + 1 from by simp]
      refine qb8 (fun wx => Blk wx w.heap.size 149 (usC ⟨zv, zm, zlo, zhi⟩) /\ Below w.heap.size w wx /\ wx.ownsRow (w.heap.size + 1) 21 1 (.slice A4 ((outs ++ [65533])).length c4) ((outs ++ [65533])).length (chV (outs ++ [65533]))) ⟨kL (qir.below qh9 zO), yI (hbelO.trans (qh9.mono (by omega))) (Nat.le_refl _), kV (qa qiF qh9) (by omega)⟩ ?_
      rintro wx ⟨qiu, qiC, qiB⟩
      have zx := qiu.lt
      have g1 := qiu.cell 1
      simp only [usC, La, Lb, Lc] at g1
      have hlx : ((outs ++ [65533])).length <= 2 * k + 1 := by (try simp); omega
      generalize (outs ++ [65533]) = O at *
      by_cases h128 : b < 128
      ·have HS := Lh (HA.out h128)
       clear HA HC HE
       go_wp2_with (at_builtin; go_must (refine qh rfl _ _ _ rfl vW ((w.heap.size + 1)) _ rfl ((qiB.alloc _)) _ _ rfl ((qe (by rfl) rfl)) (by first | rfl | exact zZ _) (by omega) (by omega) (by first | (simp; done) | (simp; omega) | omega) ?_); intro A5 c5 w5 hown5 qib hgr5 hat5; have z5 := qib.size; (try simp only [World.size_alloc] at z5); (try simp only [Nat.zero_add, List.nil_append] at hown5))
       exact ⟨⟨A5, c5, k + 1, k, ⟨zv, zm, zlo, zhi⟩, O ++ [b], by omega, by go_num, rfl, by omega, by rw [List.length_append]; rfl, vI hown5 rfl, (qiu.alloc _).below qib (by omega), (qiC.alloc (by omega) _).trans (qib.mono (by omega)), HS, HBD, by rw [List.length_append, List.length_singleton]; omega⟩, by simp [intOf]; omega⟩
      ·by_cases hz : zm = 0
       ·have HS := Lh (HC.out h128 hz)
        clear HA HC HE
        subst hz
        go_wp2_with (at_builtin; go_must (refine qh rfl _ _ _ rfl vW ((w.heap.size + 1)) _ rfl ((qiB.alloc _)) _ _ rfl ((qe (by rfl) rfl)) (by first | rfl | exact zZ _) (by omega) (by omega) (by first | (simp; done) | (simp; omega) | omega) ?_); intro A5 c5 w5 hown5 qib hgr5 hat5; have z5 := qib.size; (try simp only [World.size_alloc] at z5); (try simp only [Nat.zero_add, List.nil_append] at hown5))
        exact ⟨⟨A5, c5, k + 1, k, ⟨zv, 0, zlo, zhi⟩, O ++ [65533], by omega, by go_num, rfl, by omega, by rw [List.length_append]; rfl, vI hown5 rfl, (qiu.alloc _).below qib (by omega), (qiC.alloc (by omega) _).trans (qib.mono (by omega)), HS, HBD, by rw [List.length_append, List.length_singleton]; omega⟩, by simp [intOf]; omega⟩
       ·have HS := Lh (HE.out h128 hz)
        have hz1 : ((zm : Int) == 0) = false := beq_eq_false_iff_ne.2 (by omega)
        clear HA HC HE
        go_wp2
        exact ⟨⟨A4, c4, k + 1, k, ⟨zv, zm, zlo, zhi⟩, O, by omega, by go_num, rfl, by omega, rfl, qiB, qiu, qiC, HS, HBD, by omega⟩, by simp [intOf]; omega⟩
   ·  obtain rfl : sm = 0 := by omega
      have HA : Hid (b < 128 -> za ((qz t).drop (k + 1)) (qM b, outs ++ [b]) = F) := Lh fun h => qbN HR.out HD.out rfl h
      have HC : Hid (¬ b < 128 -> (qM b).m = 0 -> za ((qz t).drop (k + 1)) (qM b, outs ++ [65533]) = F) := Lh fun h h' => qbI HR.out HD.out rfl h h'
      have HE : Hid (¬ b < 128 -> (qM b).m ≠ 0 -> za ((qz t).drop (k + 1)) (qM b, outs) = F) := Lh fun h h' => qaS HR.out HD.out rfl h h'
      have HBG := Lh (qe5 b hbl)
      have HBD : Hid (BdU (qM b)) := Lh (qdw b)
      clear HB HR bd
      generalize qM b = Z at *
      obtain ⟨zv, zm, zlo, zhi⟩ := Z
      dsimp only at HC HE
      have z0 := hblk.lt
      go_upto_region 16 with (go_at_call 119; refine (HBG.out _).mono ?_; rintro e w3 ⟨rfl, qh9⟩; have q0 := (hblk.below qh9 z0).frozen 0; have q1 := (hblk.below qh9 z0).frozen 1; have q2 := (hblk.below qh9 z0).frozen 2; have q3 := (hblk.below qh9 z0).frozen 3; have e0 := (hblk.below qh9 z0).cell 0; have e1 := (hblk.below qh9 z0).cell 1; have e2 := (hblk.below qh9 z0).cell 2; have e3 := (hblk.below qh9 z0).cell 3; simp only [usC, La, Lb, Lc] at e0 e1 e2 e3)
      skip; refine qb8 (fun wx => Blk wx w.heap.size 149 (usC ⟨zv, zm, zlo, zhi⟩) /\ Below w.heap.size w wx /\ wx.ownsRow (w.heap.size + 1) 21 1 (.slice A (outs).length c) (outs).length (chV outs)) ⟨kL (hblk.below qh9 z0), yI (hbel.trans (qh9.mono (by omega))) (Nat.le_refl _), kV (qa hown qh9) (by omega)⟩ ?_
      rintro wx ⟨qiu, qiC, qiB⟩
      have zx := qiu.lt
      have g1 := qiu.cell 1
      simp only [usC, La, Lb, Lc] at g1
      have hlx : (outs).length <= 2 * k + 1 := by (try simp); omega
      generalize outs = O at *
      by_cases h128 : b < 128
      ·have HS := Lh (HA.out h128)
       clear HA HC HE
       go_wp2_with (at_builtin; go_must (refine qh rfl _ _ _ rfl vW ((w.heap.size + 1)) _ rfl ((qiB.alloc _)) _ _ rfl ((qe (by rfl) rfl)) (by first | rfl | exact zZ _) (by omega) (by omega) (by first | (simp; done) | (simp; omega) | omega) ?_); intro A5 c5 w5 hown5 qib hgr5 hat5; have z5 := qib.size; (try simp only [World.size_alloc] at z5); (try simp only [Nat.zero_add, List.nil_append] at hown5))
       exact ⟨⟨A5, c5, k + 1, k, ⟨zv, zm, zlo, zhi⟩, O ++ [b], by omega, by go_num, rfl, by omega, by rw [List.length_append]; rfl, vI hown5 rfl, (qiu.alloc _).below qib (by omega), (qiC.alloc (by omega) _).trans (qib.mono (by omega)), HS, HBD, by rw [List.length_append, List.length_singleton]; omega⟩, by simp [intOf]; omega⟩
      ·by_cases hz : zm = 0
       ·have HS := Lh (HC.out h128 hz)
        clear HA HC HE
        subst hz
        go_wp2_with (at_builtin; go_must (refine qh rfl _ _ _ rfl vW ((w.heap.size + 1)) _ rfl ((qiB.alloc _)) _ _ rfl ((qe (by rfl) rfl)) (by first | rfl | exact zZ _) (by omega) (by omega) (by first | (simp; done) | (simp; omega) | omega) ?_); intro A5 c5 w5 hown5 qib hgr5 hat5; have z5 := qib.size; (try simp only [World.size_alloc] at z5); (try simp only [Nat.zero_add, List.nil_append] at hown5))
        exact ⟨⟨A5, c5, k + 1, k, ⟨zv, 0, zlo, zhi⟩, O ++ [65533], by omega, by go_num, rfl, by omega, by rw [List.length_append]; rfl, vI hown5 rfl, (qiu.alloc _).below qib (by omega), (qiC.alloc (by omega) _).trans (qib.mono (by omega)), HS, HBD, by rw [List.length_append, List.length_singleton]; omega⟩, by simp [intOf]; omega⟩
       ·have HS := Lh (HE.out h128 hz)
        have hz1 : ((zm : Int) == 0) = false := beq_eq_false_iff_ne.2 (by omega)
        clear HA HC HE
        go_wp2
        exact ⟨⟨A, c, k + 1, k, ⟨zv, zm, zlo, zhi⟩, O, by omega, by go_num, rfl, by omega, rfl, qiB, qiu, qiC, HS, HBD, by omega⟩, by simp [intOf]; omega⟩
  ·obtain rfl : k = t.size := by omega
   have HF2 : Hid (F = (⟨sv, sm, slo, shi⟩, outs)) := Lh (by rw [<- HR.out, List.drop_of_length_le (by rw [HN.out]; exact Nat.le_refl _)]; rfl)
   have hm : sm = 0 := by have := HV.out; rw [HF2.out] at this; exact this
   subst hm
   go_wp2
   go_ret2
   rw [HF2.out]
   exact ⟨A, c, rfl, qq hown (by omega), hbel⟩
end Go.Proofs.YtlndbiamiioakaaGreatDoor
namespace Go.Proofs.YtlndbiamiioakaaGreatDoor
theorem qff (s : ByteArray) (i : Nat) : Lib.decodeL (s.data.toList.drop i) = Utf8.decode s i := Lib.decodeL_drop s i
theorem qaO (s : ByteArray) : ∀ f i, Lib.validGoD f (s.data.toList.drop i) = true ↔ yH s f i
 | 0, i => by simp [Lib.validGoD, yH]
 | f + 1, i => by
  rw [Lib.validGoD.eq_2, yH, qff]
  by_cases h : i < s.size
  ·have hne : s.data.toList.drop i ≠ [] := fun e => by
    have := congrArg List.length e
    simp at this
    have h2 : s.size = s.data.size := rfl
    omega
   rw [if_neg hne, if_pos h, List.drop_drop]
   by_cases hb : (Utf8.decode s i).1 = 65533 /\ (Utf8.decode s i).2 = 1
   ·rw [if_pos hb]
    simp [hb]
   ·rw [if_neg hb, qaO s f]
    simp [hb]
  ·have hnil : s.data.toList.drop i = [] := List.drop_of_length_le (by simp; exact Nat.le_of_not_lt h)
   rw [if_pos hnil, if_neg h]
   simp
theorem qh2 (s : ByteArray) : Lib.validD s.data.toList = zP s := by
 rw [Bool.eq_iff_iff, qcb, <- qaO s s.size 0]
 rfl
theorem encodeZ {r : Nat} (h : q9 r) : Lib.encodeRuneZ (r : Int) = (vx r).map fun (b : Nat) => (b : Int) := by
 unfold q9 at h
 unfold Lib.encodeRuneZ vx
 split
 ·rw [if_pos (by omega)]; rfl
 ·split
  ·rw [if_neg (by omega), if_pos (by omega)]
   simp
  ·split
   ·rw [if_neg (by omega), if_neg (by omega), if_pos (by omega)]
    simp
   ·split
    ·rw [if_neg (by omega), if_neg (by omega), if_neg (by omega)]
     simp
    ·omega
end Go.Proofs.YtlndbiamiioakaaGreatDoor
namespace Go.Proofs
open Go.Shelf
def Tryz.laysValid_ren : Go.Shelf.Ren := ⟨fun | 196 => 74 | 259 => 108 | n => n, fun | 9 => 9 | 4 => 4 | 3 => 3 | 5 => 5 | 12 => 12 | 119 => 135 | 0 => 0 | 46 => 139 | 139 => 138 | 138 => 137 | 53 => 164 | n => n, fun | 3 => 3 | 4 => 4 | n => n⟩
theorem Tryz.laysValid : Go.Proofs.Lays.n196 Tryz.prog Tryz.laysValid_ren := {
 mixed := by kernel_rfl
 f196 := Tryz.func74.trans (congrArg some (by kernel_rfl))
 f259 := Tryz.func108.trans (congrArg some (by kernel_rfl))
 t0 := Tryz.underlying0
 a0 := Tryz.isAgg0
 z0 := Tryz.sizeOf0
 v0 := Tryz.zeroValue0
 t3 := Tryz.underlying3
 a3 := Tryz.isAgg3
 z3 := Tryz.sizeOf3
 v3 := Tryz.zeroValue3
 t4 := Tryz.underlying4
 a4 := Tryz.isAgg4
 z4 := Tryz.sizeOf4
 v4 := Tryz.zeroValue4
 t5 := Tryz.underlying5
 a5 := Tryz.isAgg5
 z5 := Tryz.sizeOf5
 v5 := Tryz.zeroValue5
 t9 := Tryz.underlying9
 a9 := Tryz.isAgg9
 z9 := Tryz.sizeOf9
 v9 := Tryz.zeroValue9
 t12 := Tryz.underlying12
 a12 := Tryz.isAgg12
 z12 := Tryz.sizeOf12
 v12 := Tryz.zeroValue12
 t46 := Tryz.underlying139
 a46 := Tryz.isAgg139
 z46 := Tryz.sizeOf139
 v46 := Tryz.zeroValue139
 t53 := Tryz.underlying164
 a53 := Tryz.isAgg164
 z53 := Tryz.sizeOf164
 v53 := Tryz.zeroValue164
 t119 := Tryz.underlying135
 a119 := Tryz.isAgg135
 z119 := Tryz.sizeOf135
 t138 := Tryz.underlying137
 a138 := Tryz.isAgg137
 z138 := Tryz.sizeOf137
 v138 := Tryz.zeroValue137
 t139 := Tryz.underlying138
 a139 := Tryz.isAgg138
 z139 := Tryz.sizeOf138
 v139 := Tryz.zeroValue138
 g3 := by kernel_rfl
 g4 := by kernel_rfl }
end Go.Proofs
