/- Joined texts: Un2, Ut4, Lib3. -/
import Derived.Shelf.Unicode.ValidAny
import Derived.Test.YtejjfiipghcifaaGreatDoorQAA
import Derived.Test.YtejjfiipghcifaaGreatDoorQAB
import Derived.Test.YtejjfiipghcifaaGreatDoorQAC
import Derived.Test.YtejjfiipghcifaaGreatDoorQAG
import Derived.Test.YtejjfiipghcifaaGreatDoorQAL
set_option linter.unusedVariables false
set_option linter.unusedSimpArgs false
set_option linter.unnecessarySimpa false
namespace Go.Proofs.YtejjfiipghcifaaGreatDoor
open Go.RowKit
def chV (l : List Nat) : List Value := l.map fun (r : Nat) => Value.int .i32 (r : Int)
theorem chV_len (l : List Nat) : (chV l).length = l.length := by simp [chV]
theorem chV_one (l : List Nat) : (chV l).all Value.oneCell' = true := by
 rw [List.all_eq_true]
 intro u hu
 simp [chV] at hu
 obtain ⟨i, _, rfl⟩ := hu
 rfl
theorem chV_app (a b : List Nat) : chV (a ++ b) = chV a ++ chV b := by simp [chV]
theorem chV_get (l : List Nat) (k : Nat) (h : k < l.length) : (chV l)[k]? = some (.int .i32 (l[k] : Int)) := by simp [chV, h]
theorem elt_i32 : Elt Tryz.prog 104 21 (.int .i32 0) 1 4 where
 und := Tryz.underlying104
 row := by
  have h : (Tryz.prog.info? 21).map (fun i => (i.zero, i.size, i.bytes)) = some (some (.int .i32 0), 1, 4) := by kernel_rfl
  obtain ⟨i, hi, a, b, c⟩ := info_parts h
  exact ⟨i, hi, a, b, c⟩
 zs := rfl
 pos := by decide
theorem blk_set4 {w : World} {g : Nat} {t : TypeId} {a b c d a' b' c' d' : Value} (h : Blk w g t #[a, b, c, d]) :
  Blk ((((w.setCell ⟨g, 0, none⟩ a').setCell ⟨g, 1, none⟩ b').setCell ⟨g, 2, none⟩ c').setCell ⟨g, 3, none⟩ d') g t #[a', b', c', d'] := by
 have := (((h.set_ 0 a').set_ 1 b').set_ 2 c').set_ 3 d'
 simpa using this
theorem below_set4 {B : Nat} {w w0 : World} {g : Nat} {a' b' c' d' : Value} (h : Below B w0 w) (hg : B ≤ g) :
  Below B w0 ((((w.setCell ⟨g, 0, none⟩ a').setCell ⟨g, 1, none⟩ b').setCell ⟨g, 2, none⟩ c').setCell ⟨g, 3, none⟩ d') := (((h.setCell hg _).setCell hg _).setCell hg _).setCell hg _
theorem own_keep {w w' : World} {base size n : Nat} {e : TypeId} {v : Value} {xs : List Value} (h : w.ownsRow base e size v n xs) (hk : ∀ k, base ≤ k → w'.heap[k]? = w.heap[k]?) : w'.ownsRow base e size v n xs := by
 refine ⟨h.1, ?_⟩
 rcases h.2 with h0 | ⟨g, cap, cur, rfl, h1, h2, h3⟩
 ·exact .inl h0
 ·exact .inr ⟨g, cap, cur, rfl, h1, (hk g h1).trans h2, h3⟩
theorem own_set {w : World} {base size n : Nat} {e : TypeId} {v : Value} {xs : List Value} (h : w.ownsRow base e size v n xs) {p : Addr} (hp : p.block < base) (u : Value) : (w.setCell p u).ownsRow base e size v n xs :=
 own_keep h fun k hk => Below.heap_setCell w p u k (by omega)
theorem own_set4 {w : World} {base size n g : Nat} {e : TypeId} {v : Value} {xs : List Value} {a' b' c' d' : Value} (h : w.ownsRow base e size v n xs) (hg : g < base) :
  ((((w.setCell ⟨g, 0, none⟩ a').setCell ⟨g, 1, none⟩ b').setCell ⟨g, 2, none⟩ c').setCell ⟨g, 3, none⟩ d').ownsRow base e size v n xs := own_set (own_set (own_set (own_set h hg _) hg _) hg _) hg _
theorem own_snoc {w : World} {base c x : Nat} {A : Option Addr} {e : TypeId} {outs : List Nat} {v : Int} (h : w.ownsRow base e 1 (.slice A (outs.length + 1) c) (outs.length + 1) (chV outs ++ [.int .i32 v])) (hv : (x : Int) = v) :
  w.ownsRow base e 1 (.slice A (outs ++ [x]).length c) (outs ++ [x]).length (chV (outs ++ [x])) := by
 rw [chV_app, List.length_append, List.length_singleton]
 subst hv
 exact h
theorem cast_step (sv b : Nat) : ((sv * 64 + b % 64 : Nat) : Int) = (sv : Int) * 64 + (b : Int) % 64 := by omega
theorem wp_gen {P : Program} {c : Code} {Q : Exit → Act → World → Prop} {a : Act} {w : World} (F : World → Prop) (h : F w) (k : ∀ w', F w' → c.wp P Q a w') : c.wp P Q a w := k w h
def usC (s : US) : Array Value := #[.int .i32 s.v, .int .i64 s.m, .int .u8 s.lo, .int .u8 s.hi]
set_option maxRecDepth 10000 in
set_option maxHeartbeats 4000000 in
theorem decode_ (t : ByteArray) (ht : t.size ≤ 1000000000) (w : World) (hv : (uRun (bytN t) (u0, [])).1.m = 0) :
  Calls Tryz.prog 105 #[.string ⟨#[]⟩, .string t] w fun e w' => ∃ A c, e = .returned (.tuple #[.slice A (charsL (bytN t)).length c, .string ⟨#[]⟩]) ∧ w'.ownsRow w.heap.size 21 1 (.slice A (charsL (bytN t)).length c) (charsL (bytN t)).length (chV (charsL (bytN t))) ∧ Below w.heap.size w w' := by
 have HF : Hid (uRun ((bytN t).drop 0) (u0, []) = uRun (bytN t) (u0, [])) := Lib.hid rfl
 have HV : Hid ((uRun (bytN t) (u0, [])).1.m = 0) := Lib.hid hv
 unfold charsL
 generalize uRun (bytN t) (u0, []) = F at *
 have HN : Hid ((bytN t).length = t.size) := Lib.hid (bytN_len t)
 clear hv
 go_enter Tryz.func105, Tryz.ntmps105
 go_wp2
 have e0 : (⟨#[]⟩ ++ t : ByteArray) = t := ByteArray.ext (by rw [ByteArray.data_append]; simp)
 simp only [e0]
 go_loopw [7, 9, 17] (fun v st x wr => ∃ (A : Option Addr) (c k p : Nat) (s : US) (outs : List Nat), k ≤ t.size ∧ x = .int .i64 k ∧ st = .int .i64 p ∧ p ≤ k ∧ v = .slice A outs.length c ∧
   wr.ownsRow (w.heap.size + 1) 21 1 (.slice A outs.length c) outs.length (chV outs) ∧ Blk wr w.heap.size 153 (usC s) ∧ Below w.heap.size w wr ∧ Hid (uRun ((bytN t).drop k) (s, outs) = F) ∧ Hid (BdU s) ∧ outs.length ≤ 2 * k) (fun _ _ x _ => t.size - (intOf x).toNat)
 case atStart => exact ⟨none, 0, 0, 0, u0, [], Nat.zero_le _, rfl, rfl, Nat.le_refl _, rfl, own_nil _ _ _ _, Blk.new w _ _, (Below.refl _ _).alloc (Nat.le_refl _) _, HF, Lib.hid bdU_u0, Nat.le_refl _⟩
 case round =>
  obtain ⟨A, c, k, p, ⟨sv, sm, slo, shi⟩, outs, hk, rfl, rfl, hp, rfl, hown, hblk, hbel, HR, HB, hle⟩ := hrel
  have f0 := hblk.frozen 0
  have f1 := hblk.frozen 1
  have f2 := hblk.frozen 2
  have f3 := hblk.frozen 3
  have c0 := hblk.cell 0
  have c1 := hblk.cell 1
  have c2 := hblk.cell 2
  have c3 := hblk.cell 3
  simp only [usC, List.getElem?_toArray, List.getElem?_cons_zero, List.getElem?_cons_succ] at c0 c1 c2 c3
  by_cases hlt : k < t.size
  ·have HD : Hid ((bytN t).drop k = (t[k]'hlt).toNat :: (bytN t).drop (k + 1)) := Lib.hid (by rw [List.drop_eq_getElem_cons (by rw [HN.out]; exact hlt), bytN_get t k hlt]; congr 2; exact getElem!_pos t.data k hlt)
   have hbl : (t[k]'hlt).toNat < 256 := UInt8.toNat_lt _
   have bd := HB.out
   unfold BdU at bd
   dsimp only at bd
   go_upto_region 9 with fail
   generalize (t[k]'hlt).toNat = b at *
   by_cases hm : 0 < sm
   ·by_cases h1 : slo ≤ b
    ·by_cases h2 : b ≤ shi
     ·by_cases h3 : sm = 1
      ·have hsv : sv < 32768 := by omega
       subst h3
       have HS : Hid (uRun ((bytN t).drop (k + 1)) (⟨sv * 64 + b % 64, 0, 128, 191⟩, outs ++ [sv * 64 + b % 64]) = F) := Lib.hid (run_last HR.out HD.out h1 h2)
       have HB2 : Hid (BdU ⟨sv * 64 + b % 64, 0, 128, 191⟩) := Lib.hid (bd_last HB.out b)
       clear bd HB HR
       go_upto_region 11 with fail
       refine wp_gen (fun wx => Blk wx w.heap.size 153 #[.int .i32 ((sv : Int) * 64 + (b : Int) % 64), .int .i64 0, .int .u8 128, .int .u8 191] ∧ Below w.heap.size w wx ∧ wx.ownsRow (w.heap.size + 1) 21 1 (.slice A outs.length c) outs.length (chV outs)) ⟨blk_set4 hblk, below_set4 hbel (Nat.le_refl _), own_set4 hown (by omega)⟩ ?_
       rintro wx ⟨hblk2, hbel2, hown2⟩
       have zx := hblk2.lt
       have g0 := hblk2.cell 0
       have g1 := hblk2.cell 1
       simp only [List.getElem?_toArray, List.getElem?_cons_zero, List.getElem?_cons_succ] at g0 g1
       clear c0 c1 c2 c3 f0 f1 f2 f3
       go_wp2_with (at_builtin; go_must (refine app_list rfl _ _ _ rfl elt_i32 ((w.heap.size + 1)) _ rfl ((hown2.alloc _)) _ _ rfl ((rd_built (by rfl) rfl)) (by first | rfl | exact chV_one _) (by omega) (by omega) (by first | (simp; done) | (simp; omega) | omega) ?_); intro A4 c4 w4 hown4 hbel4 hgr4 hat4; have z4 := hbel4.size; (try simp only [World.size_alloc] at z4); (try simp only [Nat.zero_add, List.nil_append] at hown4))
       exact ⟨⟨A4, c4, k + 1, p, ⟨sv * 64 + b % 64, 0, 128, 191⟩, outs ++ [sv * 64 + b % 64], by omega, by go_num, rfl, by omega, by rw [List.length_append]; rfl, own_snoc hown4 (cast_step sv b), by
        show Blk _ _ _ #[.int .i32 ((sv * 64 + b % 64 : Nat) : Int), .int .i64 0, .int .u8 128, .int .u8 191]
        rw [cast_step]
        exact (hblk2.alloc _).below hbel4 (by omega), (hbel2.alloc (by omega) _).trans (hbel4.mono (by omega)), HS, HB2, by rw [List.length_append, List.length_singleton]; omega⟩, by simp [intOf]; omega⟩
      ·have hsv : sv < 32768 := by omega
       have HS : Hid (uRun ((bytN t).drop (k + 1)) (⟨sv * 64 + b % 64, sm - 1, 128, 191⟩, outs) = F) := Lib.hid (run_on HR.out HD.out hm h1 h2 h3)
       have HB2 : Hid (BdU ⟨sv * 64 + b % 64, sm - 1, 128, 191⟩) := Lib.hid (bd_on HB.out b hm)
       clear HB HR
       have hm1 : ((sm : Int) - 1 == 0) = false := beq_eq_false_iff_ne.2 (by omega)
       go_upto_region 11 with fail
       refine wp_gen (fun wx => Blk wx w.heap.size 153 #[.int .i32 ((sv : Int) * 64 + (b : Int) % 64), .int .i64 ((sm : Int) - 1), .int .u8 128, .int .u8 191] ∧ Below w.heap.size w wx ∧ wx.ownsRow (w.heap.size + 1) 21 1 (.slice A outs.length c) outs.length (chV outs)) ⟨blk_set4 hblk, below_set4 hbel (Nat.le_refl _), own_set4 hown (by omega)⟩ ?_
       rintro wx ⟨hblk2, hbel2, hown2⟩
       have g0 := hblk2.cell 0
       have g1 := hblk2.cell 1
       simp only [List.getElem?_toArray, List.getElem?_cons_zero, List.getElem?_cons_succ] at g0 g1
       clear c0 c1 c2 c3 f0 f1 f2 f3 bd
       go_wp2
       exact ⟨⟨A, c, k + 1, p, ⟨sv * 64 + b % 64, sm - 1, 128, 191⟩, outs, by omega, by go_num, rfl, by omega, rfl, hown2, by
        show Blk _ _ _ #[.int .i32 ((sv * 64 + b % 64 : Nat) : Int), .int .i64 ((sm - 1 : Nat) : Int), .int .u8 128, .int .u8 191]
        rw [cast_step, show ((sm - 1 : Nat) : Int) = (sm : Int) - 1 by omega]
        exact hblk2, hbel2, HS, HB2, by omega⟩, by simp [intOf]; omega⟩
     ·have HR' := Lib.hid (run_back HR.out HD.out hm (fun h => h2 h.2))
      have HA : Hid (b < 128 → uRun ((bytN t).drop (k + 1)) (begU b, (outs ++ [65533]) ++ [b]) = F) := Lib.hid fun h => run_asc HR'.out HD.out rfl h
      have HC : Hid (¬ b < 128 → (begU b).m = 0 → uRun ((bytN t).drop (k + 1)) (begU b, (outs ++ [65533]) ++ [65533]) = F) := Lib.hid fun h h' => run_bad HR'.out HD.out rfl h h'
      have HE : Hid (¬ b < 128 → (begU b).m ≠ 0 → uRun ((bytN t).drop (k + 1)) (begU b, outs ++ [65533]) = F) := Lib.hid fun h h' => run_lead HR'.out HD.out rfl h h'
      have HBG := Lib.hid (begin_ b hbl)
      have HBD : Hid (BdU (begU b)) := Lib.hid (begU_bd b)
      clear HB HR bd
      generalize begU b = Z at *
      obtain ⟨zv, zm, zlo, zhi⟩ := Z
      dsimp only at HC HE
      have z0 := hblk.lt
      go_upto_region 16 with (first
       | (go_at_call 132; refine (HBG.out _).mono ?_; rintro e w3 ⟨rfl, hbel3⟩; have q0 := (hblkO.below hbel3 zO).frozen 0; have q1 := (hblkO.below hbel3 zO).frozen 1; have q2 := (hblkO.below hbel3 zO).frozen 2; have q3 := (hblkO.below hbel3 zO).frozen 3; have e0 := (hblkO.below hbel3 zO).cell 0; have e1 := (hblkO.below hbel3 zO).cell 1; have e2 := (hblkO.below hbel3 zO).cell 2; have e3 := (hblkO.below hbel3 zO).cell 3; simp only [usC, List.getElem?_toArray, List.getElem?_cons_zero, List.getElem?_cons_succ] at e0 e1 e2 e3)
       | ((at_builtin; go_must (refine app_list rfl _ _ _ rfl elt_i32 ((w.heap.size + 1)) _ rfl ((hown.alloc _)) _ _ rfl ((rd_built (by rfl) rfl)) (by first | rfl | exact chV_one _) (by omega) (by omega) (by first | (simp; done) | (simp; omega) | omega) ?_); intro A4 c4 w4 hown4 hbel4 hgr4 hat4; have z4 := hbel4.size; (try simp only [World.size_alloc] at z4); (try simp only [Nat.zero_add, List.nil_append] at hown4)); have hownO := own_snoc (x := 65533) hown4 rfl; have hblkO := (hblk.alloc _).below hbel4 (by omega); have hbelO := (hbel.alloc (by omega) _).trans (hbel4.mono (by omega)); have zO := hblkO.lt))
      rw [← show (outs ++ [65533]).length = outs.length + 1 from by simp]
      refine wp_gen (fun wx => Blk wx w.heap.size 153 (usC ⟨zv, zm, zlo, zhi⟩) ∧ Below w.heap.size w wx ∧ wx.ownsRow (w.heap.size + 1) 21 1 (.slice A4 ((outs ++ [65533])).length c4) ((outs ++ [65533])).length (chV (outs ++ [65533]))) ⟨blk_set4 (hblkO.below hbel3 zO), below_set4 (hbelO.trans (hbel3.mono (by omega))) (Nat.le_refl _), own_set4 (own_below hownO hbel3) (by omega)⟩ ?_
      rintro wx ⟨hblkx, hbelx, hownx⟩
      have zx := hblkx.lt
      have g1 := hblkx.cell 1
      simp only [usC, List.getElem?_toArray, List.getElem?_cons_zero, List.getElem?_cons_succ] at g1
      have hlx : ((outs ++ [65533])).length ≤ 2 * k + 1 := by (try simp); omega
      generalize (outs ++ [65533]) = O at *
      by_cases h128 : b < 128
      ·have HS := Lib.hid (HA.out h128)
       clear HA HC HE
       go_wp2_with (at_builtin; go_must (refine app_list rfl _ _ _ rfl elt_i32 ((w.heap.size + 1)) _ rfl ((hownx.alloc _)) _ _ rfl ((rd_built (by rfl) rfl)) (by first | rfl | exact chV_one _) (by omega) (by omega) (by first | (simp; done) | (simp; omega) | omega) ?_); intro A5 c5 w5 hown5 hbel5 hgr5 hat5; have z5 := hbel5.size; (try simp only [World.size_alloc] at z5); (try simp only [Nat.zero_add, List.nil_append] at hown5))
       exact ⟨⟨A5, c5, k + 1, k, ⟨zv, zm, zlo, zhi⟩, O ++ [b], by omega, by go_num, rfl, by omega, by rw [List.length_append]; rfl, own_snoc hown5 rfl, (hblkx.alloc _).below hbel5 (by omega), (hbelx.alloc (by omega) _).trans (hbel5.mono (by omega)), HS, HBD, by rw [List.length_append, List.length_singleton]; omega⟩, by simp [intOf]; omega⟩
      ·by_cases hz : zm = 0
       ·have HS := Lib.hid (HC.out h128 hz)
        clear HA HC HE
        subst hz
        go_wp2_with (at_builtin; go_must (refine app_list rfl _ _ _ rfl elt_i32 ((w.heap.size + 1)) _ rfl ((hownx.alloc _)) _ _ rfl ((rd_built (by rfl) rfl)) (by first | rfl | exact chV_one _) (by omega) (by omega) (by first | (simp; done) | (simp; omega) | omega) ?_); intro A5 c5 w5 hown5 hbel5 hgr5 hat5; have z5 := hbel5.size; (try simp only [World.size_alloc] at z5); (try simp only [Nat.zero_add, List.nil_append] at hown5))
        exact ⟨⟨A5, c5, k + 1, k, ⟨zv, 0, zlo, zhi⟩, O ++ [65533], by omega, by go_num, rfl, by omega, by rw [List.length_append]; rfl, own_snoc hown5 rfl, (hblkx.alloc _).below hbel5 (by omega), (hbelx.alloc (by omega) _).trans (hbel5.mono (by omega)), HS, HBD, by rw [List.length_append, List.length_singleton]; omega⟩, by simp [intOf]; omega⟩
       ·have HS := Lib.hid (HE.out h128 hz)
        have hz1 : ((zm : Int) == 0) = false := beq_eq_false_iff_ne.2 (by omega)
        clear HA HC HE
        go_wp2
        exact ⟨⟨A4, c4, k + 1, k, ⟨zv, zm, zlo, zhi⟩, O, by omega, by go_num, rfl, by omega, rfl, hownx, hblkx, hbelx, HS, HBD, by omega⟩, by simp [intOf]; omega⟩
    · have HR' := Lib.hid (run_back HR.out HD.out hm (fun h => h1 h.1))
      have HA : Hid (b < 128 → uRun ((bytN t).drop (k + 1)) (begU b, (outs ++ [65533]) ++ [b]) = F) := Lib.hid fun h => run_asc HR'.out HD.out rfl h
      have HC : Hid (¬ b < 128 → (begU b).m = 0 → uRun ((bytN t).drop (k + 1)) (begU b, (outs ++ [65533]) ++ [65533]) = F) := Lib.hid fun h h' => run_bad HR'.out HD.out rfl h h'
      have HE : Hid (¬ b < 128 → (begU b).m ≠ 0 → uRun ((bytN t).drop (k + 1)) (begU b, outs ++ [65533]) = F) := Lib.hid fun h h' => run_lead HR'.out HD.out rfl h h'
      have HBG := Lib.hid (begin_ b hbl)
      have HBD : Hid (BdU (begU b)) := Lib.hid (begU_bd b)
      clear HB HR bd
      generalize begU b = Z at *
      obtain ⟨zv, zm, zlo, zhi⟩ := Z
      dsimp only at HC HE
      have z0 := hblk.lt
      go_upto_region 16 with (first
       | (go_at_call 132; refine (HBG.out _).mono ?_; rintro e w3 ⟨rfl, hbel3⟩; have q0 := (hblkO.below hbel3 zO).frozen 0; have q1 := (hblkO.below hbel3 zO).frozen 1; have q2 := (hblkO.below hbel3 zO).frozen 2; have q3 := (hblkO.below hbel3 zO).frozen 3; have e0 := (hblkO.below hbel3 zO).cell 0; have e1 := (hblkO.below hbel3 zO).cell 1; have e2 := (hblkO.below hbel3 zO).cell 2; have e3 := (hblkO.below hbel3 zO).cell 3; simp only [usC, List.getElem?_toArray, List.getElem?_cons_zero, List.getElem?_cons_succ] at e0 e1 e2 e3)
       | ((at_builtin; go_must (refine app_list rfl _ _ _ rfl elt_i32 ((w.heap.size + 1)) _ rfl ((hown.alloc _)) _ _ rfl ((rd_built (by rfl) rfl)) (by first | rfl | exact chV_one _) (by omega) (by omega) (by first | (simp; done) | (simp; omega) | omega) ?_); intro A4 c4 w4 hown4 hbel4 hgr4 hat4; have z4 := hbel4.size; (try simp only [World.size_alloc] at z4); (try simp only [Nat.zero_add, List.nil_append] at hown4)); have hownO := own_snoc (x := 65533) hown4 rfl; have hblkO := (hblk.alloc _).below hbel4 (by omega); have hbelO := (hbel.alloc (by omega) _).trans (hbel4.mono (by omega)); have zO := hblkO.lt))
      rw [← show (outs ++ [65533]).length = outs.length + 1 from by simp]
      refine wp_gen (fun wx => Blk wx w.heap.size 153 (usC ⟨zv, zm, zlo, zhi⟩) ∧ Below w.heap.size w wx ∧ wx.ownsRow (w.heap.size + 1) 21 1 (.slice A4 ((outs ++ [65533])).length c4) ((outs ++ [65533])).length (chV (outs ++ [65533]))) ⟨blk_set4 (hblkO.below hbel3 zO), below_set4 (hbelO.trans (hbel3.mono (by omega))) (Nat.le_refl _), own_set4 (own_below hownO hbel3) (by omega)⟩ ?_
      rintro wx ⟨hblkx, hbelx, hownx⟩
      have zx := hblkx.lt
      have g1 := hblkx.cell 1
      simp only [usC, List.getElem?_toArray, List.getElem?_cons_zero, List.getElem?_cons_succ] at g1
      have hlx : ((outs ++ [65533])).length ≤ 2 * k + 1 := by (try simp); omega
      generalize (outs ++ [65533]) = O at *
      by_cases h128 : b < 128
      ·have HS := Lib.hid (HA.out h128)
       clear HA HC HE
       go_wp2_with (at_builtin; go_must (refine app_list rfl _ _ _ rfl elt_i32 ((w.heap.size + 1)) _ rfl ((hownx.alloc _)) _ _ rfl ((rd_built (by rfl) rfl)) (by first | rfl | exact chV_one _) (by omega) (by omega) (by first | (simp; done) | (simp; omega) | omega) ?_); intro A5 c5 w5 hown5 hbel5 hgr5 hat5; have z5 := hbel5.size; (try simp only [World.size_alloc] at z5); (try simp only [Nat.zero_add, List.nil_append] at hown5))
       exact ⟨⟨A5, c5, k + 1, k, ⟨zv, zm, zlo, zhi⟩, O ++ [b], by omega, by go_num, rfl, by omega, by rw [List.length_append]; rfl, own_snoc hown5 rfl, (hblkx.alloc _).below hbel5 (by omega), (hbelx.alloc (by omega) _).trans (hbel5.mono (by omega)), HS, HBD, by rw [List.length_append, List.length_singleton]; omega⟩, by simp [intOf]; omega⟩
      ·by_cases hz : zm = 0
       ·have HS := Lib.hid (HC.out h128 hz)
        clear HA HC HE
        subst hz
        go_wp2_with (at_builtin; go_must (refine app_list rfl _ _ _ rfl elt_i32 ((w.heap.size + 1)) _ rfl ((hownx.alloc _)) _ _ rfl ((rd_built (by rfl) rfl)) (by first | rfl | exact chV_one _) (by omega) (by omega) (by first | (simp; done) | (simp; omega) | omega) ?_); intro A5 c5 w5 hown5 hbel5 hgr5 hat5; have z5 := hbel5.size; (try simp only [World.size_alloc] at z5); (try simp only [Nat.zero_add, List.nil_append] at hown5))
        exact ⟨⟨A5, c5, k + 1, k, ⟨zv, 0, zlo, zhi⟩, O ++ [65533], by omega, by go_num, rfl, by omega, by rw [List.length_append]; rfl, own_snoc hown5 rfl, (hblkx.alloc _).below hbel5 (by omega), (hbelx.alloc (by omega) _).trans (hbel5.mono (by omega)), HS, HBD, by rw [List.length_append, List.length_singleton]; omega⟩, by simp [intOf]; omega⟩
       ·have HS := Lib.hid (HE.out h128 hz)
        have hz1 : ((zm : Int) == 0) = false := beq_eq_false_iff_ne.2 (by omega)
        clear HA HC HE
        go_wp2
        exact ⟨⟨A4, c4, k + 1, k, ⟨zv, zm, zlo, zhi⟩, O, by omega, by go_num, rfl, by omega, rfl, hownx, hblkx, hbelx, HS, HBD, by omega⟩, by simp [intOf]; omega⟩
   ·  obtain rfl : sm = 0 := by omega
      have HA : Hid (b < 128 → uRun ((bytN t).drop (k + 1)) (begU b, outs ++ [b]) = F) := Lib.hid fun h => run_asc HR.out HD.out rfl h
      have HC : Hid (¬ b < 128 → (begU b).m = 0 → uRun ((bytN t).drop (k + 1)) (begU b, outs ++ [65533]) = F) := Lib.hid fun h h' => run_bad HR.out HD.out rfl h h'
      have HE : Hid (¬ b < 128 → (begU b).m ≠ 0 → uRun ((bytN t).drop (k + 1)) (begU b, outs) = F) := Lib.hid fun h h' => run_lead HR.out HD.out rfl h h'
      have HBG := Lib.hid (begin_ b hbl)
      have HBD : Hid (BdU (begU b)) := Lib.hid (begU_bd b)
      clear HB HR bd
      generalize begU b = Z at *
      obtain ⟨zv, zm, zlo, zhi⟩ := Z
      dsimp only at HC HE
      have z0 := hblk.lt
      go_upto_region 16 with (go_at_call 132; refine (HBG.out _).mono ?_; rintro e w3 ⟨rfl, hbel3⟩; have q0 := (hblk.below hbel3 z0).frozen 0; have q1 := (hblk.below hbel3 z0).frozen 1; have q2 := (hblk.below hbel3 z0).frozen 2; have q3 := (hblk.below hbel3 z0).frozen 3; have e0 := (hblk.below hbel3 z0).cell 0; have e1 := (hblk.below hbel3 z0).cell 1; have e2 := (hblk.below hbel3 z0).cell 2; have e3 := (hblk.below hbel3 z0).cell 3; simp only [usC, List.getElem?_toArray, List.getElem?_cons_zero, List.getElem?_cons_succ] at e0 e1 e2 e3)
      skip; refine wp_gen (fun wx => Blk wx w.heap.size 153 (usC ⟨zv, zm, zlo, zhi⟩) ∧ Below w.heap.size w wx ∧ wx.ownsRow (w.heap.size + 1) 21 1 (.slice A (outs).length c) (outs).length (chV outs)) ⟨blk_set4 (hblk.below hbel3 z0), below_set4 (hbel.trans (hbel3.mono (by omega))) (Nat.le_refl _), own_set4 (own_below hown hbel3) (by omega)⟩ ?_
      rintro wx ⟨hblkx, hbelx, hownx⟩
      have zx := hblkx.lt
      have g1 := hblkx.cell 1
      simp only [usC, List.getElem?_toArray, List.getElem?_cons_zero, List.getElem?_cons_succ] at g1
      have hlx : (outs).length ≤ 2 * k + 1 := by (try simp); omega
      generalize outs = O at *
      by_cases h128 : b < 128
      ·have HS := Lib.hid (HA.out h128)
       clear HA HC HE
       go_wp2_with (at_builtin; go_must (refine app_list rfl _ _ _ rfl elt_i32 ((w.heap.size + 1)) _ rfl ((hownx.alloc _)) _ _ rfl ((rd_built (by rfl) rfl)) (by first | rfl | exact chV_one _) (by omega) (by omega) (by first | (simp; done) | (simp; omega) | omega) ?_); intro A5 c5 w5 hown5 hbel5 hgr5 hat5; have z5 := hbel5.size; (try simp only [World.size_alloc] at z5); (try simp only [Nat.zero_add, List.nil_append] at hown5))
       exact ⟨⟨A5, c5, k + 1, k, ⟨zv, zm, zlo, zhi⟩, O ++ [b], by omega, by go_num, rfl, by omega, by rw [List.length_append]; rfl, own_snoc hown5 rfl, (hblkx.alloc _).below hbel5 (by omega), (hbelx.alloc (by omega) _).trans (hbel5.mono (by omega)), HS, HBD, by rw [List.length_append, List.length_singleton]; omega⟩, by simp [intOf]; omega⟩
      ·by_cases hz : zm = 0
       ·have HS := Lib.hid (HC.out h128 hz)
        clear HA HC HE
        subst hz
        go_wp2_with (at_builtin; go_must (refine app_list rfl _ _ _ rfl elt_i32 ((w.heap.size + 1)) _ rfl ((hownx.alloc _)) _ _ rfl ((rd_built (by rfl) rfl)) (by first | rfl | exact chV_one _) (by omega) (by omega) (by first | (simp; done) | (simp; omega) | omega) ?_); intro A5 c5 w5 hown5 hbel5 hgr5 hat5; have z5 := hbel5.size; (try simp only [World.size_alloc] at z5); (try simp only [Nat.zero_add, List.nil_append] at hown5))
        exact ⟨⟨A5, c5, k + 1, k, ⟨zv, 0, zlo, zhi⟩, O ++ [65533], by omega, by go_num, rfl, by omega, by rw [List.length_append]; rfl, own_snoc hown5 rfl, (hblkx.alloc _).below hbel5 (by omega), (hbelx.alloc (by omega) _).trans (hbel5.mono (by omega)), HS, HBD, by rw [List.length_append, List.length_singleton]; omega⟩, by simp [intOf]; omega⟩
       ·have HS := Lib.hid (HE.out h128 hz)
        have hz1 : ((zm : Int) == 0) = false := beq_eq_false_iff_ne.2 (by omega)
        clear HA HC HE
        go_wp2
        exact ⟨⟨A, c, k + 1, k, ⟨zv, zm, zlo, zhi⟩, O, by omega, by go_num, rfl, by omega, rfl, hownx, hblkx, hbelx, HS, HBD, by omega⟩, by simp [intOf]; omega⟩
  ·obtain rfl : k = t.size := by omega
   have HF2 : Hid (F = (⟨sv, sm, slo, shi⟩, outs)) := Lib.hid (by rw [← HR.out, List.drop_of_length_le (by rw [HN.out]; exact Nat.le_refl _)]; rfl)
   have hm : sm = 0 := by have := HV.out; rw [HF2.out] at this; exact this
   subst hm
   go_wp2
   go_ret2
   rw [HF2.out]
   exact ⟨A, c, rfl, own_less hown (by omega), hbel⟩
end Go.Proofs.YtejjfiipghcifaaGreatDoor
namespace Go.Proofs.YtejjfiipghcifaaGreatDoor
theorem decodeL_at (s : ByteArray) (i : Nat) : Lib.decodeL (s.data.toList.drop i) = Utf8.decode s i := Lib.decodeL_drop s i
theorem validGoD_iff (s : ByteArray) : ∀ f i, Lib.validGoD f (s.data.toList.drop i) = true ↔ validN s f i
 | 0, i => by simp [Lib.validGoD, validN]
 | f + 1, i => by
  rw [Lib.validGoD.eq_2, validN, decodeL_at]
  by_cases h : i < s.size
  ·have hne : s.data.toList.drop i ≠ [] := fun e => by
    have := congrArg List.length e
    simp at this
    have h2 : s.size = s.data.size := rfl
    omega
   rw [if_neg hne, if_pos h, List.drop_drop]
   by_cases hb : (Utf8.decode s i).1 = 65533 ∧ (Utf8.decode s i).2 = 1
   ·rw [if_pos hb]
    simp [hb]
   ·rw [if_neg hb, validGoD_iff s f]
    simp [hb]
  ·have hnil : s.data.toList.drop i = [] := List.drop_of_length_le (by simp; exact Nat.le_of_not_lt h)
   rw [if_pos hnil, if_neg h]
   simp
theorem validD_eq (s : ByteArray) : Lib.validD s.data.toList = validB s := by
 rw [Bool.eq_iff_iff, validB_iff, ← validGoD_iff s s.size 0]
 rfl
theorem encodeZ {r : Nat} (h : isChN r) : Lib.encodeRuneZ (r : Int) = (encN r).map fun (b : Nat) => (b : Int) := by
 unfold isChN at h
 unfold Lib.encodeRuneZ encN
 split
 ·rw [if_pos (by omega)]; rfl
 ·split
  ·rw [if_neg (by omega), if_pos (by omega)]
   simp
  ·split
   ·rw [if_neg (by omega), if_neg (by omega), if_pos (by omega)]
    simp
   ·split
    ·rw [if_neg (by omega), if_neg (by omega), if_neg (by omega)]
     simp
    ·omega
end Go.Proofs.YtejjfiipghcifaaGreatDoor
namespace Go.Proofs
open Go.Shelf
def Tryz.laysValid_ren : Go.Shelf.Ren := ⟨fun | 196 => 101 | 259 => 129 | n => n, fun | 9 => 9 | 4 => 4 | 3 => 3 | 5 => 5 | 12 => 12 | 119 => 146 | 0 => 0 | 46 => 150 | 139 => 149 | 138 => 148 | 53 => 169 | n => n, fun | 3 => 3 | 4 => 4 | n => n⟩
theorem Tryz.laysValid : Go.Proofs.Lays.n196 Tryz.prog Tryz.laysValid_ren := {
 mixed := by kernel_rfl
 f196 := Tryz.func101.trans (congrArg some (by kernel_rfl))
 f259 := Tryz.func129.trans (congrArg some (by kernel_rfl))
 t0 := Tryz.underlying0
 a0 := Tryz.isAgg0
 z0 := Tryz.sizeOf0
 v0 := Tryz.zeroValue0
 t3 := Tryz.underlying3
 a3 := Tryz.isAgg3
 z3 := Tryz.sizeOf3
 v3 := Tryz.zeroValue3
 t4 := Tryz.underlying4
 a4 := Tryz.isAgg4
 z4 := Tryz.sizeOf4
 v4 := Tryz.zeroValue4
 t5 := Tryz.underlying5
 a5 := Tryz.isAgg5
 z5 := Tryz.sizeOf5
 v5 := Tryz.zeroValue5
 t9 := Tryz.underlying9
 a9 := Tryz.isAgg9
 z9 := Tryz.sizeOf9
 v9 := Tryz.zeroValue9
 t12 := Tryz.underlying12
 a12 := Tryz.isAgg12
 z12 := Tryz.sizeOf12
 v12 := Tryz.zeroValue12
 t46 := Tryz.underlying150
 a46 := Tryz.isAgg150
 z46 := Tryz.sizeOf150
 v46 := Tryz.zeroValue150
 t53 := Tryz.underlying169
 a53 := Tryz.isAgg169
 z53 := Tryz.sizeOf169
 v53 := Tryz.zeroValue169
 t119 := Tryz.underlying146
 a119 := Tryz.isAgg146
 z119 := Tryz.sizeOf146
 t138 := Tryz.underlying148
 a138 := Tryz.isAgg148
 z138 := Tryz.sizeOf148
 v138 := Tryz.zeroValue148
 t139 := Tryz.underlying149
 a139 := Tryz.isAgg149
 z139 := Tryz.sizeOf149
 v139 := Tryz.zeroValue149
 g3 := by kernel_rfl
 g4 := by kernel_rfl }
end Go.Proofs
