/- Joined: Ch2, Ch3, Cl1, Cl2, Rn5, Rn6. -/
import Derived.Test.YtlndbiamiioakaaGreatDoorVAM
set_option linter.unusedVariables false
set_option linter.unusedSimpArgs false
set_option linter.unnecessarySimpa false
set_option maxHeartbeats 4000000
namespace Go.Proofs.YtlndbiamiioakaaGreatDoor
open Go.Proofs.Tryz Go.RowKit
theorem marks_ (w : World) : Calls prog 109 #[] w (ql 140 2 id w 7 (kF q6)) := by
 go_enter func109, ntmps109
 go_wp2
 go_ret
 exact ⟨_, _, rfl, qR (xs := kF q6) rfl rfl (Nat.le_refl _) (by omega), (Below.refl _ _).alloc (Nat.le_refl _) _⟩
theorem wide_ (w : World) : Calls prog 77 #[] w (ql 140 2 id w 14 (kF jP)) := by
 go_enter func77, ntmps77
 go_wp2
 go_ret
 exact ⟨_, _, rfl, qR (xs := kF jP) rfl rfl (Nat.le_refl _) (by omega), (Below.refl _ _).alloc (Nat.le_refl _) _⟩
theorem qgk (A : Option Addr) (n c : Nat) (w : World) : Calls prog 76 #[.slice A n c] w fun e w' => e = .returned (.func (.func 110) #[] #[.pointer (some ⟨w.heap.size, 0, none⟩)]) /\ w.alloc (.cells #[.slice A n c] 109) = w' := by
 go_enter func76, ntmps76
 go_wp2
 go_ret
 exact ⟨rfl, rfl⟩
theorem mark_ (r : Int) (w : World) : Calls prog 75 #[.int .i32 r] w (qg (.bool (inT q6 r)) w) := by
 have HF : Hid (∀ g c B A w, w.cell? ⟨g, 0, none⟩ = some (.slice A 7 c) -> Rd w B 2 A 7 (kF q6) -> Calls prog 110 #[.int .i32 r, .pointer (some ⟨g, 0, none⟩)] w (Quiet (.bool (inT q6 r)) w)) := Lh fun g c B A w h1 h2 => found q6 qfF mark_up r g 7 c B A w rfl (by omega) h1 h2
 generalize inT q6 r = R at *
 go_enter func75, ntmps75
 go_wp2_with (first
  | (go_at_call 109; refine (marks_ _).mono ?_; rintro e w1 ⟨A1, c1, rfl, hown1, qh7⟩)
  | (go_at_call 76; refine (qgk _ _ _ _).mono ?_; rintro e w2 ⟨rfl, rfl⟩)
  | (go_at_call 110; go_loud (refine (HF.out w1.heap.size c1 _ A1 _ (qF w1 #[.slice A1 7 c1] _ 0) (Rd.of_own (qa hown1 ((Below.refl _ _).alloc (Nat.le_refl _) _)))).mono ?_); rintro e w3 ⟨rfl, q3, rfl⟩))
 go_ret
 exact ⟨rfl, qb (qh7.alloc qh7.size _)⟩
end Go.Proofs.YtlndbiamiioakaaGreatDoor
namespace Go.Proofs.YtlndbiamiioakaaGreatDoor
open Go.Proofs.Tryz Go.RowKit
theorem qd6 {r : Int} (h : r < 32 ∨ (127 <= r /\ r <= 159)) : zC r = -1 := if_pos h
theorem qds {r : Int} (h : ¬ (r < 32 ∨ (127 <= r /\ r <= 159))) (hm : inT q6 r = true) : zC r = 0 := by unfold zC; rw [if_neg h, if_pos hm]
theorem qcP {r : Int} (h : ¬ (r < 32 ∨ (127 <= r /\ r <= 159))) (hm : inT q6 r = false) : zC r = if inT jP r = true then 2 else 1 := by unfold zC; rw [if_neg h, if_neg (by simp [hm])]
theorem qfP (r : Int) (w : World) : Calls prog 57 #[.int .i32 r] w (qg (.int .i64 (zC r)) w) := by
 have HF : Hid (∀ g c B A w, w.cell? ⟨g, 0, none⟩ = some (.slice A 14 c) -> Rd w B 2 A 14 (kF jP) -> Calls prog 110 #[.int .i32 r, .pointer (some ⟨g, 0, none⟩)] w (Quiet (.bool (inT jP r)) w)) := Lh fun g c B A w h1 h2 => found jP qfT wide_up r g 14 c B A w rfl (by omega) h1 h2
 have HM := Lh (mark_ r)
 have H0 := Lh (@qd6 r)
 have H1 := Lh (@qds r)
 have H2 := Lh (@qcP r)
 generalize zC r = W at *
 by_cases hc : r < 32 ∨ (127 <= r /\ r <= 159)
 ·have HW : Hid (W = -1) := Lh (H0.out hc)
  clear H0 H1 H2 HM HF
  rcases hc with hc | ⟨hc1, hc2⟩
  ·go_enter func57, ntmps57
   go_wp2
   go_ret
   exact ⟨by rw [HW.out]; rfl, by first | exact Below.refl _ _ | exact qb (Below.refl _ _)⟩
  ·have hc3 : ¬ r < 32 := by omega
   go_enter func57, ntmps57
   go_wp2
   go_ret
   exact ⟨by rw [HW.out]; rfl, by first | exact Below.refl _ _ | exact qb (Below.refl _ _)⟩
 ·generalize inT q6 r = M at *
  cases M with
  | true =>
   have HW : Hid (W = 0) := Lh (H1.out hc rfl)
   clear H0 H1 H2 HF
   rw [not_or] at hc
   obtain ⟨hc0, hc⟩ := hc
   by_cases hc1 : 127 <= r
   ·have hc2 : ¬ r <= 159 := by omega
    clear hc
    go_enter func57, ntmps57
    go_wp2_with (go_at_call 75; refine (HM.out _).mono ?_; rintro e w1 ⟨rfl, qh7⟩)
    go_ret
    exact ⟨by rw [HW.out]; rfl, qh7⟩
   ·clear hc
    go_enter func57, ntmps57
    go_wp2_with (go_at_call 75; refine (HM.out _).mono ?_; rintro e w1 ⟨rfl, qh7⟩)
    go_ret
    exact ⟨by rw [HW.out]; rfl, qh7⟩
  | false =>
   have HW : Hid (W = if inT jP r = true then 2 else 1) := Lh (H2.out hc rfl)
   generalize inT jP r = V at *
   clear H0 H1 H2
   rw [not_or] at hc
   obtain ⟨hc0, hc⟩ := hc
   have hd : 127 <= r /\ ¬ r <= 159 ∨ ¬ 127 <= r := by omega
   clear hc
   rcases hd with ⟨hc1, hc2⟩ | hc1 <;> cases V <;>
   ·go_enter func57, ntmps57
    go_wp2_with (first
     | (go_at_call 75; refine (HM.out _).mono ?_; rintro e w1 ⟨rfl, qh7⟩)
     | (go_at_call 77; refine (wide_ _).mono ?_; rintro e w2 ⟨A2, c2, rfl, hown2, qh8⟩; have t2 := qh7.trans (qh8.mono qh7.size))
     | (go_at_call 76; refine (qgk _ _ _ _).mono ?_; rintro e w3 ⟨rfl, rfl⟩)
     | (go_at_call 110; go_loud (refine (HF.out w2.heap.size c2 _ A2 _ (qF w2 #[.slice A2 14 c2] _ 0) (Rd.of_own (qa hown2 ((Below.refl _ _).alloc (Nat.le_refl _) _)))).mono ?_); rintro e w4 ⟨rfl, q4, rfl⟩))
    go_ret
    exact ⟨by rw [HW.out]; rfl, qb (t2.alloc t2.size _)⟩
theorem rin2 (t : List (Int × Int)) (r : Int) (n c B : Nat) (A : Option Addr) (w : World) (hn : t.length = n) (hb : n <= 1000) (rd : Rd w B 2 A n (kF t)) :
  Calls prog 90 #[.slice A n c, .int .i32 r] w (Quiet (.bool (inT t r)) w) := by
 have HF : Hid (inT t r = true ↔ ∃ i, ∃ h : i < t.length, t[i].1 <= r /\ r <= t[i].2) := Lh (qf6 t r)
 have HN := Lh hn
 generalize inT t r = R at *
 clear hn
 go_enter func90, ntmps90
 go_wp2
 go_loopw [5] (fun x wr => ∃ a j : Nat, a <= n /\ x = .int .i64 a /\ wr = w.drewN j /\ Hid (∀ i (h : i < t.length), i < a -> ¬ (t[i].1 <= r /\ r <= t[i].2))) (fun x _ => n - (intOf x).toNat)
 case atStart => exact ⟨0, 0, Nat.zero_le _, rfl, rfl, Lh fun i h h2 => absurd h2 (Nat.not_lt_zero i)⟩
 case round =>
  obtain ⟨a, j, han, rfl, rfl, HA⟩ := hrel
  by_cases hlt : a < n
  ·have hml : a < t.length := by have := HN.out; omega
   obtain ⟨bb, oo, rfl, c1, c2⟩ := qfk rd hml HN.out
   have HY : Hid (t[a].1 <= r /\ r <= t[a].2 -> R = true) := Lh fun h => HF.out.2 ⟨a, hml, h⟩
   have HZ : Hid (¬ (t[a].1 <= r /\ r <= t[a].2) -> ∀ i (h : i < t.length), i < a + 1 -> ¬ (t[i].1 <= r /\ r <= t[i].2)) := Lh fun h0 i h h2 => by
    rcases Nat.lt_or_ge i a with h1 | h1
    ·exact HA.out i h h1
    ·obtain rfl : i = a := by omega
     exact h0
   generalize t[a].1 = y at *
   generalize t[a].2 = z at *
   by_cases h1 : y <= r
   ·by_cases h2 : r <= z
    ·have HR := Lh (HY.out ⟨h1, h2⟩)
     go_wp2
     go_ret
     exact ⟨by rw [HR.out]; rfl, _, rfl⟩
    ·have HR := Lh (HZ.out fun h => h2 h.2)
     clear HY HZ
     go_wp2
     exact ⟨⟨a + 1, _, by omega, by go_num, rfl, HR⟩, by simp [intOf]; omega⟩
   ·have HR := Lh (HZ.out fun h => h1 h.1)
    clear HY HZ
    go_wp2
    exact ⟨⟨a + 1, _, by omega, by go_num, rfl, HR⟩, by simp [intOf]; omega⟩
  ·have HR : Hid (R = false) := Lh (by
    cases hR : R with
    | false => rfl
    | true =>
     obtain ⟨i, h, h1⟩ := HF.out.1 hR
     exact absurd h1 (HA.out i h (by have := HN.out; omega)))
   clear HF
   go_wp2
   go_ret
   exact ⟨by rw [HR.out]; rfl, _, rfl⟩
theorem rmarks (w : World) : Calls prog 91 #[] w (ql 140 2 id w 7 (kF q6)) := by
 go_enter func91, ntmps91
 go_wp2
 go_ret
 exact ⟨_, _, rfl, qR (xs := kF q6) rfl rfl (Nat.le_refl _) (by omega), (Below.refl _ _).alloc (Nat.le_refl _) _⟩
theorem rwide (w : World) : Calls prog 92 #[] w (ql 140 2 id w 14 (kF jP)) := by
 go_enter func92, ntmps92
 go_wp2
 go_ret
 exact ⟨_, _, rfl, qR (xs := kF jP) rfl rfl (Nat.le_refl _) (by omega), (Below.refl _ _).alloc (Nat.le_refl _) _⟩
theorem qeX (r : Int) (w : World) : Calls prog 64 #[.int .i32 r] w (qg (.bool (inT q6 r)) w) := by
 have HF := Lh (rin2 q6 r)
 generalize inT q6 r = R at *
 go_enter func64, ntmps64
 go_wp2_with (first
  | (go_at_call 91; refine (rmarks _).mono ?_; rintro e w1 ⟨A1, c1, rfl, hown1, qh7⟩)
  | (go_at_call 90; refine (HF.out 7 c1 _ A1 _ rfl (by omega) (Rd.of_own hown1)).mono ?_; rintro e w3 ⟨rfl, q3, rfl⟩))
 go_ret
 exact ⟨rfl, qb qh7⟩
theorem qdU (r : Int) (w : World) : Calls prog 65 #[.int .i32 r] w (qg (.int .i64 (zC r)) w) := by
 have HF := Lh (rin2 jP r)
 have HM := Lh (qeX r)
 have H0 := Lh (@qd6 r)
 have H1 := Lh (@qds r)
 have H2 := Lh (@qcP r)
 generalize zC r = W at *
 by_cases hc : r < 32 ∨ (127 <= r /\ r <= 159)
 ·have HW : Hid (W = -1) := Lh (H0.out hc)
  clear H0 H1 H2 HM HF
  rcases hc with hc | ⟨hc1, hc2⟩
  ·go_enter func65, ntmps65
   go_wp2
   go_ret
   exact ⟨by rw [HW.out]; rfl, by first | exact Below.refl _ _ | exact qb (Below.refl _ _)⟩
  ·have hc3 : ¬ r < 32 := by omega
   go_enter func65, ntmps65
   go_wp2
   go_ret
   exact ⟨by rw [HW.out]; rfl, by first | exact Below.refl _ _ | exact qb (Below.refl _ _)⟩
 ·have hd : ¬ r < 32 /\ (127 <= r /\ ¬ r <= 159 ∨ ¬ 127 <= r) := by omega
  generalize inT q6 r = M at *
  cases M with
  | true =>
   have HW : Hid (W = 0) := Lh (H1.out hc rfl)
   clear H0 H1 H2 HF hc
   obtain ⟨hc0, hd⟩ := hd
   rcases hd with ⟨hc1, hc2⟩ | hc1 <;>
   ·go_enter func65, ntmps65
    go_wp2_with (go_at_call 64; refine (HM.out _).mono ?_; rintro e w1 ⟨rfl, qh7⟩)
    go_ret
    exact ⟨by rw [HW.out]; rfl, qh7⟩
  | false =>
   have HW : Hid (W = if inT jP r = true then 2 else 1) := Lh (H2.out hc rfl)
   generalize inT jP r = V at *
   clear H0 H1 H2 hc
   obtain ⟨hc0, hd⟩ := hd
   rcases hd with ⟨hc1, hc2⟩ | hc1 <;> cases V <;>
   ·go_enter func65, ntmps65
    go_wp2_with (first
     | (go_at_call 64; refine (HM.out _).mono ?_; rintro e w1 ⟨rfl, qh7⟩)
     | (go_at_call 92; refine (rwide _).mono ?_; rintro e w2 ⟨A2, c2, rfl, hown2, qh8⟩; have t2 := qh7.trans (qh8.mono qh7.size))
     | (go_at_call 90; refine (HF.out 14 c2 _ A2 _ rfl (by omega) (Rd.of_own hown2)).mono ?_; rintro e w4 ⟨rfl, q4, rfl⟩))
    go_ret
    exact ⟨by rw [HW.out]; rfl, qb t2⟩
end Go.Proofs.YtlndbiamiioakaaGreatDoor
namespace Go.Proofs.YtlndbiamiioakaaGreatDoor
open Go.Proofs.Tryz Go.RowKit
theorem marked_ (rs : List Nat) (A : Option Addr) (n c B : Nat) (w : World) (hn : rs.length = n) (hb : n <= 100000000000) (rd : Rd w B 1 A n (chV rs)) (hB : B <= w.heap.size) :
  Calls prog 58 #[.slice A n c] w (qg (.bool (rs.all fun (x : Nat) => inT q6 (x : Int))) w) := by
 have HF : Hid ((rs.all fun (x : Nat) => inT q6 (x : Int)) = ((rs.drop 0).all fun (x : Nat) => inT q6 (x : Int))) := Lh rfl
 have HN := Lh hn
 generalize (rs.all fun (x : Nat) => inT q6 (x : Int)) = R at *
 clear hn
 go_enter func58, ntmps58
 go_wp2
 go_loopw [7] (fun x wr => ∃ k : Nat, k <= n /\ x = .int .i64 k /\ Below w.heap.size w wr /\ Hid (R = ((rs.drop k).all fun (x : Nat) => inT q6 (x : Int)))) (fun x _ => n - (intOf x).toNat)
 case atStart => exact ⟨0, Nat.zero_le _, rfl, Below.refl _ _, HF⟩
 case round =>
  obtain ⟨k, hk, rfl, hbel, HR⟩ := hrel
  by_cases hlt : k < n
  ·have hkl : k < rs.length := by have := HN.out; omega
   obtain ⟨b, o, rfl, hbB, hc⟩ := (rd.keep (w' := wr) fun p hp => hbel.cell (by omega)).at_ hlt
   rw [qdX _ _ hkl] at hc
   have HD : Hid (rs.drop k = rs[k] :: rs.drop (k + 1)) := Lh (List.drop_eq_getElem_cons hkl)
   generalize rs[k] = x at *
   have HM := Lh (mark_ (x : Int) wr)
   have HT : Hid (inT q6 (x : Int) = true -> R = ((rs.drop (k + 1)).all fun (x : Nat) => inT q6 (x : Int))) := Lh fun h => by rw [HR.out, HD.out, List.all_cons, h, Bool.true_and]
   have HZ : Hid (inT q6 (x : Int) = false -> R = false) := Lh fun h => by rw [HR.out, HD.out, List.all_cons, h, Bool.false_and]
   generalize inT q6 (x : Int) = M at *
   clear HR HD
   cases M with
   | true =>
    have HR2 := Lh (HT.out rfl)
    go_wp2_with (go_at_call 75; refine HM.out.mono ?_; rintro e w1 ⟨rfl, qh7⟩)
    exact ⟨⟨k + 1, by omega, by go_num, hbel.trans (qh7.mono hbel.size), HR2⟩, by simp [intOf]; omega⟩
   | false =>
    have HR2 := Lh (HZ.out rfl)
    go_wp2_with (go_at_call 75; refine HM.out.mono ?_; rintro e w1 ⟨rfl, qh7⟩)
    go_ret
    exact ⟨by rw [HR2.out]; rfl, hbel.trans (qh7.mono hbel.size)⟩
  ·have HR2 : Hid (R = true) := Lh (by rw [HR.out, List.drop_of_length_le (by have := HN.out; omega)]; rfl)
   go_wp2
   go_ret
   exact ⟨by rw [HR2.out]; rfl, hbel⟩
end Go.Proofs.YtlndbiamiioakaaGreatDoor
namespace Go.Proofs.YtlndbiamiioakaaGreatDoor
open Go.Proofs.Tryz Go.RowKit
set_option maxRecDepth 20000
theorem rd_tailC {w : World} {B n c : Nat} {b o : Nat} {r : Nat} {t : List Nat} (hn : t.length + 1 = n) (hc : n <= c) (rd : Rd w B 1 (some ⟨b, o, none⟩) n (chV (r :: t))) :
  Rd w B 1 (if c = 1 then some ⟨b, o, none⟩ else some ⟨b, o + 1, none⟩) (n - 1) (chV t) := by
 have h := rd.cut (k := 1) (cap := c) (by omega) hc
 simp only [Nat.mul_one, Option.map_some, vm] at h
 exact h
theorem qgx {w : World} {B n b o : Nat} {v : Value} {xs : List Value} (rd : Rd w B 1 (some ⟨b, o, none⟩) n (v :: xs)) (hn : 0 < n) : w.cell? ⟨b, o, none⟩ = some v := (rd.form hn).2.2 0 v rfl
theorem yJ {s : ByteArray} (h : s.size ≠ 0) : s.toList.isEmpty = false := by
 rw [ByteArray.toList_eq, List.isEmpty_eq_false_iff]
 intro e
 have := congrArg List.length e
 exact h (by simpa using this)
theorem qep (w : World) : Calls prog 43 #[.string ⟨#[]⟩] w (qg (.int .i64 3) w) := by
 go_enter func43, ntmps43
 go_wp2
 go_ret
 exact ⟨rfl, Below.refl _ _⟩
theorem qg2 (s : ByteArray) (hs : s.size <= 1000000000) (h0 : s.size ≠ 0) (hv : zP s = false) (w : World) (hu : U8 w) : Calls prog 43 #[.string s] w (qg (.int .i64 3) w) := by
 have HV := Lh (valid_ s hs w hu)
 rw [hv] at HV
 have he := yJ h0
 clear hu hv
 go_enter func43, ntmps43
 go_wp2_with (go_at_call 56; refine HV.out.mono ?_; rintro e w1 ⟨rfl, qh7⟩)
 go_ret
 exact ⟨rfl, qh7⟩
theorem qfM (s : ByteArray) (hs : s.size <= 1000000000) (h0 : s.size ≠ 0) (hv : zP s = true) (w : World) (hu : U8 w) (r : Nat) (t : List Nat) (hc : qw (qz s) = r :: t) :
  Calls prog 43 #[.string s] w (qg (.int .i64 (if zC (r : Int) < 1 ∨ (t.all fun (x : Nat) => inT q6 (x : Int)) = false then 9 else if 3 < t.length then 5 else 0)) w) := by
 have HV := Lh (valid_ s hs w hu)
 rw [hv] at HV
 have he := yJ h0
 have HC : Hid (∀ w, _) := Lh (qav s hv hs)
 have hl := vv s
 rw [hc] at HC hl
 rw [List.length_cons] at HC hl
 have HW := Lh (qfP (r : Int))
 have HM := Lh (fun (n c B : Nat) A w => marked_ t A n c B w)
 generalize (t.all fun (x : Nat) => inT q6 (x : Int)) = M at *
 generalize zC (r : Int) = W at *
 obtain ⟨RES, qih⟩ : ∃ x : Int, x = if W < 1 ∨ M = false then 9 else if 3 < t.length then 5 else 0 := ⟨_, rfl⟩
 rw [<- qih]
 have qiv := Lh qih
 clear hu hv hc qih
 go_enter func43, ntmps43
 go_upto_region 3 with (go_at_call 56; refine HV.out.mono ?_; rintro e w1 ⟨rfl, qh7⟩)
 obtain ⟨c2, w2, hrun, rd2, qh8, hcap⟩ := HC.out w1
 have z1 := qh7.size
 have z2 := qh8.size
 go_upto_region 4 with fail
 have cell0 : w2.cell? ⟨w1.heap.size, 0, none⟩ = some (.int .i32 (r : Int)) := qgx rd2 (by omega)
 have HT := Lh (rd_tailC rfl hcap rd2)
 rw [Nat.add_sub_cancel, Nat.zero_add] at HT
 by_cases hw : W < 1
 ·go_wp2_with (go_at_call 57; refine (HW.out _).mono ?_; rintro e w3 ⟨rfl, qh9⟩)
  go_ret
  exact ⟨by rw [qiv.out, if_pos (.inl hw)]; rfl, (qh7.trans (qh8.mono z1)).trans (qh9.mono (by omega))⟩
 ·cases M with
  | false =>
   go_wp2_with (first
    | (go_at_call 57; refine (HW.out _).mono ?_; rintro e w3 ⟨rfl, qh9⟩; have z3 := qh9.size)
    | (go_at_call 58; refine (HM.out _ _ w2.heap.size _ _ rfl (by omega) (HT.out.below qh9) z3).mono ?_; rintro e w4 ⟨rfl, qia⟩))
   all_goals go_ret
   all_goals exact ⟨by rw [qiv.out, if_pos (by simp)]; rfl, ((qh7.trans (qh8.mono z1)).trans (qh9.mono (by omega))).trans (qia.mono (by omega))⟩
  | true =>
   by_cases h3 : 3 < t.length
   ·go_wp2_with (first
     | (go_at_call 57; refine (HW.out _).mono ?_; rintro e w3 ⟨rfl, qh9⟩; have z3 := qh9.size)
     | (go_at_call 58; refine (HM.out _ _ w2.heap.size _ _ rfl (by omega) (HT.out.below qh9) z3).mono ?_; rintro e w4 ⟨rfl, qia⟩))
    all_goals go_ret
    all_goals exact ⟨by rw [qiv.out, if_neg (by simp; omega), if_pos h3]; rfl, ((qh7.trans (qh8.mono z1)).trans (qh9.mono (by omega))).trans (qia.mono (by omega))⟩
   ·go_wp2_with (first
     | (go_at_call 57; refine (HW.out _).mono ?_; rintro e w3 ⟨rfl, qh9⟩; have z3 := qh9.size)
     | (go_at_call 58; refine (HM.out _ _ w2.heap.size _ _ rfl (by omega) (HT.out.below qh9) z3).mono ?_; rintro e w4 ⟨rfl, qia⟩))
    all_goals go_ret
    all_goals exact ⟨by rw [qiv.out, if_neg (by simp; omega), if_neg h3]; rfl, ((qh7.trans (qh8.mono z1)).trans (qh9.mono (by omega))).trans (qia.mono (by omega))⟩
theorem qcv (s : ByteArray) (hs : s.size <= 1000000000) (w : World) (hu : U8 w) : Calls prog 43 #[.string s] w (qg (.int .i64 (zJ s)) w) := by
 by_cases h0 : s.size = 0
 ·rw [kC h0]
  obtain rfl : s = ⟨#[]⟩ := ByteArray.ext (Array.eq_empty_of_size_eq_zero h0)
  exact qep w
 ·unfold zJ
  cases hv : zP s with
  | false => exact qg2 s hs h0 hv w hu
  | true =>
   rw [if_neg (by simp)]
   cases hc : qw (qz s) with
   | nil =>
    exfalso
    rw [zP, decide_eq_true_eq, hc] at hv
    have := congrArg List.length hv
    rw [zf] at this
    exact h0 this.symm
   | cons r t => exact qfM s hs h0 hv w hu r t hc
theorem qgZ (s : ByteArray) : (⟨((qz s).map fun b => UInt8.ofNat b).toArray⟩ : ByteArray) = s := by
 apply ByteArray.ext
 apply Array.toList_inj.1
 simp [qz, Function.comp_def]
theorem qcs (s : ByteArray) : qaR (qw (qz s)) = s ↔ zP s = true := by
 rw [zP, decide_eq_true_eq]
 constructor
 ·intro h
  have h2 : qz (qaR (qw (qz s))) = zF (qw (qz s)) := by
   unfold qaR
   show List.map UInt8.toNat (List.toArray _).toList = _
   rw [List.map_map]
   refine (List.map_congr_left (g := id) fun b hb => ?_).trans (List.map_id _)
   have := qf1 (jZ (qz s)) b hb
   simp
   omega
  rw [<- h2, h]
 ·intro h
  unfold qaR
  rw [h]
  exact qgZ s
theorem rvalid (s : ByteArray) (hs : s.size <= 1000000000) (w : World) : Calls prog 62 #[.string s] w (qg (.bool (zP s)) w) := by
 have HD := Lh (qgr s hs w)
 have hl := vv s
 have HE : Hid (∀ (A : Option Addr) (c : Nat) (w : World), Rd w w.heap.size 1 A (qw (qz s)).length (chV (qw (qz s))) -> Calls prog 89 #[.slice A (qw (qz s)).length c] w (qg (.string (qaR (qw (qz s)))) w)) := Lh fun A c w rd => qgF _ (jZ _) A _ c w.heap.size w rfl (by omega) rd (Nat.le_refl _)
 have HV := Lh (qcs s)
 have HP : Hid (zP s = true -> (za (qz s) (u0, [])).1.m = 0) := Lh qbs
 unfold DecP at HD
 generalize (za (qz s) (u0, [])).1.m = m at *
 generalize zP s = R at *
 generalize qaR (qw (qz s)) = E at *
 generalize qw (qz s) = L at *
 by_cases hm' : m = 0
 ·have hm := Lh hm'
  clear hm'
  cases R with
  | true =>
   have hq := Lh (HV.out.2 rfl)
   go_enter func62, ntmps62
   go_upto_region 2 with (go_at_call 88; refine HD.out.mono ?_; rintro e w1 ⟨A1, c1, rest, rfl, hown1, qh7, hrest⟩; have hre : rest.toList.isEmpty = true := (by rw [hrest.2 hm.out, ByteArray.toList_eq]; rfl))
   clear HV HP HD hm
   go_wp2_with (go_at_call 89; refine (HE.out _ _ _ (Rd.of_own hown1)).mono ?_; rintro e w2 ⟨rfl, qh8⟩; obtain rfl := hq.out)
   all_goals go_ret
   all_goals exact ⟨rfl, qh7.trans (qh8.mono qh7.size)⟩
  | false =>
   have hq : E ≠ s := fun h => (by have := HV.out.1 h; cases this)
   have hq2 : (E.toList == s.toList) = false := by rw [ve]; simp [hq]
   go_enter func62, ntmps62
   go_wp2_with (first
    | (go_at_call 88; refine HD.out.mono ?_; rintro e w1 ⟨A1, c1, rest, rfl, hown1, qh7, hrest⟩; have hre : rest.toList.isEmpty = true := (by rw [hrest.2 hm.out, ByteArray.toList_eq]; rfl))
    | (go_at_call 89; refine (HE.out _ _ _ (Rd.of_own hown1)).mono ?_; rintro e w2 ⟨rfl, qh8⟩))
   all_goals go_ret
   all_goals exact ⟨rfl, qh7.trans (qh8.mono qh7.size)⟩
 ·have hR : R = false := by
   cases R with
   | false => rfl
   | true => exact absurd (HP.out rfl) hm'
  subst hR
  go_enter func62, ntmps62
  go_wp2_with (go_at_call 88; refine HD.out.mono ?_; rintro e w1 ⟨A1, c1, rest, rfl, hown1, qh7, hrest⟩; have hne : rest.size ≠ 0 := (fun h => hm' (hrest.1 (ByteArray.ext (Array.eq_empty_of_size_eq_zero h)))); have hne2 := yJ hne)
  all_goals go_ret
  all_goals exact ⟨rfl, qh7⟩
theorem encS_one (r : Nat) : qaR [r] = jf r := by
 unfold qaR jf
 simp [zF]
theorem chV_new (w : World) (r : Nat) (e : TypeId) : Rd (w.alloc (.cells #[.int .i32 (r : Int)] e)) (w.alloc (.cells #[.int .i32 (r : Int)] e)).heap.size 1 (some ⟨w.heap.size, 0, none⟩) 1 (chV [r]) := Rd.more (qe (xs := chV [r]) rfl rfl) (by simp)
theorem qen (r : Nat) (hr : q9 r) (w : World) : Calls prog 141 #[.int .i32 (r : Int)] w (qg (.string (jf r)) w) := by
 have HE : Hid (∀ (A : Option Addr) (c : Nat) (w : World), Rd w w.heap.size 1 A 1 (chV [r]) -> Calls prog 89 #[.slice A 1 c] w (qg (.string (jf r)) w)) := Lh fun A c w rd => by
  rw [<- encS_one]
  exact qgF [r] (fun x hx => by rw [List.mem_singleton] at hx; subst hx; exact hr) A 1 c w.heap.size w rfl (by omega) rd (Nat.le_refl _)
 generalize jf r = E at *
 go_enter func141, ntmps141
 go_wp2_with (go_at_call 89; refine (HE.out _ _ _ (chV_new _ r _)).mono ?_; rintro e w1 ⟨rfl, qh7⟩)
 go_ret
 exact ⟨rfl, ((Below.refl _ _).alloc (Nat.le_refl _) _).trans (qh7.mono (by simp))⟩
theorem kZ (s : ByteArray) (hs : s.size <= 1000000000) (w : World) : Calls prog 63 #[.string s] w (ql 21 1 id w (qw (qz s)).length (chV (qw (qz s)))) := by
 have HD := Lh (qgr s hs w)
 unfold DecP at HD
 generalize (za (qz s) (u0, [])).1.m = m at *
 generalize qw (qz s) = L at *
 go_enter func63, ntmps63
 go_wp2_with (go_at_call 88; refine HD.out.mono ?_; rintro e w1 ⟨A1, c1, rest, rfl, hown1, qh7, hrest⟩)
 go_ret
 exact ⟨A1, c1, rfl, hown1, qh7⟩
theorem qdK (w : World) : Calls prog 47 #[.string ⟨#[]⟩] w (qg (.int .i64 3) w) := by
 go_enter func47, ntmps47
 go_wp2
 go_ret
 exact ⟨rfl, Below.refl _ _⟩
theorem qe8 (s : ByteArray) (hs : s.size <= 1000000000) (h0 : s.size ≠ 0) (hv : zP s = false) (w : World) : Calls prog 47 #[.string s] w (qg (.int .i64 3) w) := by
 have HV := Lh (rvalid s hs w)
 rw [hv] at HV
 have he := yJ h0
 clear hv
 go_enter func47, ntmps47
 go_wp2_with (go_at_call 62; refine HV.out.mono ?_; rintro e w1 ⟨rfl, qh7⟩)
 go_ret
 exact ⟨rfl, qh7⟩
theorem qf0 {r : Int} (h : inT q6 r = true) : zC r < 1 := by
 unfold zC
 split
 ·omega
 ·simp [h]
theorem qei (s : ByteArray) (hs : s.size <= 1000000000) (h0 : s.size ≠ 0) (hv : zP s = true) (w : World) (r : Nat) (t : List Nat) (hc : qw (qz s) = r :: t) :
  Calls prog 47 #[.string s] w (qg (.int .i64 (if zC (r : Int) < 1 ∨ (t.all fun (x : Nat) => inT q6 (x : Int)) = false then 9 else if 3 < t.length then 5 else 0)) w) := by
 have HV := Lh (rvalid s hs w)
 rw [hv] at HV
 have he := yJ h0
 have HC := Lh (kZ s hs)
 have hl := vv s
 rw [hc] at HC hl
 rw [List.length_cons] at HC hl
 have HW := Lh (qdU (r : Int))
 have HM := Lh (qeX (r : Int))
 have HML : Hid (inT q6 (r : Int) = true -> zC (r : Int) < 1) := Lh qf0
 generalize zC (r : Int) = W at *
 obtain ⟨RES, qih⟩ : ∃ x : Int, x = if W < 1 ∨ (t.all fun (x : Nat) => inT q6 (x : Int)) = false then 9 else if 3 < t.length then 5 else 0 := ⟨_, rfl⟩
 rw [<- qih]
 have qiv := Lh qih
 clear hv hc qih
 generalize inT q6 (r : Int) = M0 at *
 cases M0 with
 | true =>
  have hw := HML.out rfl
  have HR2 : Hid (RES = 9) := Lh (by rw [qiv.out, if_pos (.inl hw)])
  clear hw qiv HML
  go_enter func47, ntmps47
  go_wp2_with (first
   | (go_at_call 62; refine HV.out.mono ?_; rintro e w1 ⟨rfl, qh7⟩)
   | (go_at_call 63; refine (HC.out _).mono ?_; rintro e w2 ⟨A2, c2, rfl, hown2, qh8⟩; have t2 := qh7.trans (qh8.mono qh7.size); obtain ⟨b, o, rfl, _, hcc⟩ := (Rd.of_own hown2).2 (by omega); have cell0 := hcc 0 _ rfl; simp only [Nat.add_zero] at cell0)
   | (go_at_call 64; refine (HM.out _).mono ?_; rintro e w3 ⟨rfl, qh9⟩; have t3 := t2.trans (qh9.mono t2.size)))
  go_ret
  exact ⟨by rw [HR2.out]; rfl, t3⟩
 | false =>
  by_cases hw : W < 1
  ·have HR2 : Hid (RES = 9) := Lh (by rw [qiv.out, if_pos (.inl hw)])
   clear qiv HML
   go_enter func47, ntmps47
   go_wp2_with (first
    | (go_at_call 62; refine HV.out.mono ?_; rintro e w1 ⟨rfl, qh7⟩)
    | (go_at_call 63; refine (HC.out _).mono ?_; rintro e w2 ⟨A2, c2, rfl, hown2, qh8⟩; have t2 := qh7.trans (qh8.mono qh7.size); obtain ⟨b, o, rfl, _, hcc⟩ := (Rd.of_own hown2).2 (by omega); have cell0 := hcc 0 _ rfl; simp only [Nat.add_zero] at cell0)
    | (go_at_call 64; refine (HM.out _).mono ?_; rintro e w3 ⟨rfl, qh9⟩; have t3 := t2.trans (qh9.mono t2.size); have cell1 := (qh9.cell (yQ cell0)).trans cell0)
    | (go_at_call 65; refine (HW.out _).mono ?_; rintro e w4 ⟨rfl, qia⟩; have t4 := t3.trans (qia.mono t3.size)))
   go_ret
   exact ⟨by rw [HR2.out]; rfl, t4⟩
  ·have HRA : Hid ((t.all fun (x : Nat) => inT q6 (x : Int)) = false -> RES = 9) := Lh fun h => by rw [qiv.out, if_pos (.inr h)]
   have HRB : Hid ((t.all fun (x : Nat) => inT q6 (x : Int)) = true -> RES = if 3 < t.length then 5 else 0) := Lh fun h => by rw [qiv.out, if_neg (by rw [not_or]; exact ⟨hw, by simp [h]⟩)]
   have HF : Hid ((t.all fun (x : Nat) => inT q6 (x : Int)) = ((t.drop 0).all fun (x : Nat) => inT q6 (x : Int))) := Lh rfl
   generalize (t.all fun (x : Nat) => inT q6 (x : Int)) = R at *
   clear qiv HML
   go_enter func47, ntmps47
   go_wp2_with (first
    | (go_at_call 62; refine HV.out.mono ?_; rintro e w1 ⟨rfl, qh7⟩)
    | (go_at_call 63; refine (HC.out _).mono ?_; rintro e w2 ⟨A2, c2, rfl, hown2, qh8⟩; have t2 := qh7.trans (qh8.mono qh7.size); have rd2 := Rd.of_own hown2; obtain ⟨b, o, rfl, _, hcc⟩ := rd2.2 (by omega); have cell0 := hcc 0 _ rfl; simp only [Nat.add_zero] at cell0)
    | (go_at_call 64; refine (HM.out _).mono ?_; rintro e w3 ⟨rfl, qh9⟩; have t3 := t2.trans (qh9.mono t2.size); have cell1 := (qh9.cell (yQ cell0)).trans cell0)
    | (go_at_call 65; refine (HW.out _).mono ?_; rintro e w4 ⟨rfl, qia⟩; have t4 := t3.trans (qia.mono t3.size); have b4 := qh9.trans (qia.mono qh9.size)))
   go_loopw [4] (fun x wr => ∃ j : Nat, j <= t.length /\ x = .int .i64 ((j : Int) + 1) /\ Below w.heap.size w wr /\ Below w2.heap.size w2 wr /\ Hid (R = ((t.drop j).all fun (x : Nat) => inT q6 (x : Int)))) (fun x _ => t.length + 1 - (intOf x).toNat)
   case atStart => exact ⟨0, Nat.zero_le _, rfl, t4, b4, HF⟩
   case round =>
    obtain ⟨j, hj, rfl, hbel, hbel2', HR⟩ := hrel
    by_cases hlt : j < t.length
    ·have hc : wr.cell? ⟨b, o + (j + 1), none⟩ = some (.int .i32 (t[j] : Int)) := (hbel2'.cell (Nat.lt_of_lt_of_le (by assumption) (Nat.le_refl _))).trans (hcc (j + 1) _ (by simp [chV, hlt]))
     have HD : Hid (t.drop j = t[j] :: t.drop (j + 1)) := Lh (List.drop_eq_getElem_cons hlt)
     generalize t[j] = x at *
     have HMx := Lh (qeX (x : Int) wr)
     have HT : Hid (inT q6 (x : Int) = true -> R = ((t.drop (j + 1)).all fun (x : Nat) => inT q6 (x : Int))) := Lh fun h => by rw [HR.out, HD.out, List.all_cons, h, Bool.true_and]
     have HZ : Hid (inT q6 (x : Int) = false -> R = false) := Lh fun h => by rw [HR.out, HD.out, List.all_cons, h, Bool.false_and]
     generalize inT q6 (x : Int) = M at *
     clear HR HD
     cases M with
     | true =>
      have HR2 := Lh (HT.out rfl)
      go_wp2_with (go_at_call 64; refine HMx.out.mono ?_; rintro e w5 ⟨rfl, qib⟩)
      exact ⟨⟨j + 1, by omega, by go_num, hbel.trans (qib.mono hbel.size), hbel2'.trans (qib.mono hbel2'.size), HR2⟩, by simp [intOf]; omega⟩
     | false =>
      have HR2 := Lh (HRA.out (HZ.out rfl))
      go_wp2_with (go_at_call 64; refine HMx.out.mono ?_; rintro e w5 ⟨rfl, qib⟩)
      go_ret
      exact ⟨by rw [HR2.out]; rfl, hbel.trans (qib.mono hbel.size)⟩
    ·have HR2 := Lh (HRB.out (by rw [HR.out, List.drop_of_length_le (by omega)]; rfl))
     clear HRA HRB HR HF
     by_cases h3 : 3 < t.length
     ·rw [if_pos h3] at HR2
      go_wp2
      go_ret
      exact ⟨by rw [HR2.out]; rfl, hbel⟩
     ·rw [if_neg h3] at HR2
      go_wp2
      go_ret
      exact ⟨by rw [HR2.out]; rfl, hbel⟩
theorem qfv (s : ByteArray) (hs : s.size <= 1000000000) (w : World) : Calls prog 47 #[.string s] w (qg (.int .i64 (zJ s)) w) := by
 by_cases h0 : s.size = 0
 ·rw [kC h0]
  obtain rfl : s = ⟨#[]⟩ := ByteArray.ext (Array.eq_empty_of_size_eq_zero h0)
  exact qdK w
 ·unfold zJ
  cases hv : zP s with
  | false => exact qe8 s hs h0 hv w
  | true =>
   rw [if_neg (by simp)]
   cases hc : qw (qz s) with
   | nil =>
    exfalso
    rw [zP, decide_eq_true_eq, hc] at hv
    have := congrArg List.length hv
    rw [zf] at this
    exact h0 this.symm
   | cons r t => exact qei s hs h0 hv w r t hc
end Go.Proofs.YtlndbiamiioakaaGreatDoor
