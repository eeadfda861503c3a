/- Joined texts: SpM, Sp1, Sk0. -/
import Derived.Test.YtejjfiipghcifaaGreatDoorQAA
import Derived.Test.YtejjfiipghcifaaGreatDoorQAB
import Derived.Test.YtejjfiipghcifaaGreatDoorQAC
import Derived.Test.YtejjfiipghcifaaGreatDoorQAD
import Derived.Test.YtejjfiipghcifaaGreatDoorQAE
import Derived.Test.YtejjfiipghcifaaGreatDoorQAF
import Derived.Test.YtejjfiipghcifaaGreatDoorQAG
import Derived.Test.YtejjfiipghcifaaGreatDoorQAH
import Derived.Test.YtejjfiipghcifaaGreatDoorQAJ
import Derived.Test.YtejjfiipghcifaaGreatDoorQAK
import Derived.Test.YtejjfiipghcifaaGreatDoorQAL
import Derived.Test.YtejjfiipghcifaaGreatDoorQAN
import Derived.Test.YtejjfiipghcifaaGreatDoorQAO
import Derived.Test.YtejjfiipghcifaaGreatDoorQAQ
import Derived.Test.YtejjfiipghcifaaGreatDoorQAR
set_option linter.unusedVariables false
set_option linter.unusedSimpArgs false
set_option linter.unnecessarySimpa false
namespace Go.Proofs.YtejjfiipghcifaaGreatDoor
open Go.RowKit
set_option maxRecDepth 20000
set_option maxHeartbeats 4000000 in
theorem spoken_many (l : List Gl) (g : Gl) (t : List Gl) (hl : l = g :: t) (hP : PieceOK l) (h0 : kindL g = 0) (A : Option Addr) (n c B : Nat) (r : Int) (d sp : Bool) (p : Int) (con : Bool) (k : Int) (w : World) (hs : Sp w) (hn1' : n ≠ 1) (rd : Rd w B 3 A n (encGs l)) (hB : B ≤ w.heap.size) :
  Calls Tryz.prog 83 #[.slice A n c, stV r d sp p con k] w (GivesOwn 9 1 id w (spokenL l sp d).length (sv (spokenL l sp d))) := by
 have hln := gl_len rd
 have hl0 : 0 < l.length := by rw [hl]; simp
 have hg0 : l[0] = g := by subst hl; rfl
 obtain ⟨b, o, rfl, hbB, _, _, _⟩ := rd_gl rd hl0 hln
 have HCell : Hid (∀ (j : Nat) (h : j < l.length) (w' : World), Below w.heap.size w w' → (w'.cell? ⟨b, (o + j * 3), none⟩ = some (.string l[j].text) ∧ w'.cell? ⟨b, (o + j * 3) + 1, none⟩ = some (.bool l[j].wide) ∧ w'.cell? ⟨b, (o + j * 3) + 2, none⟩ = some (.int .i64 l[j].style))) := Lib.hid fun j h w' hw => by
  obtain ⟨b2, o2, e, _, q0, q1, q2⟩ := rd_gl (rd.keep (w' := w') fun p hp => hw.cell (by omega)) h hln
  injection e with e
  injection e with e1 e2
  subst e1 e2
  exact ⟨q0, q1, q2⟩
 have HC0 : Hid (∀ (w' : World), Below w.heap.size w w' → (w'.cell? ⟨b, o, none⟩ = some (.string g.text) ∧ w'.cell? ⟨b, o + 1, none⟩ = some (.bool g.wide) ∧ w'.cell? ⟨b, o + 2, none⟩ = some (.int .i64 g.style))) := Lib.hid fun w' hw => by
  have h := HCell.out 0 hl0 w' hw
  rw [Nat.zero_mul, Nat.add_zero, hg0] at h
  exact h
 have HSz : Hid (∀ (j : Nat) (h : j < l.length), l[j].text.size ≤ 1000) := Lib.hid fun j h => hP.sz _ (List.getElem_mem h)
 have HT : Hid (∀ (j : Nat) (h : j < l.length), txtL (l.take (j + 1)) = txtL (l.take j) ++ l[j].text) := Lib.hid fun j h => txt_take h
 have hn1 := hP.n
 have HTs : Hid (∀ j, (txtL (l.take j)).size ≤ 1000000) := Lib.hid fun j => by
  have h1 := txt_size (l.take j) 1000 (fun x hx => hP.sz x (List.mem_of_mem_take hx))
  rw [List.length_take] at h1
  omega
 have HTA : Hid (l.take n = l) := Lib.hid (List.take_of_length_le (by omega))
 have HS := Lib.hid hs
 have hgm : g ∈ l := by rw [hl]; simp
 have hzg : g.text.size ≤ 1000 := hP.sz g hgm
 have HK := Lib.hid (kind_ g (by omega))
 have hk3 := kindL_le g
 have hn2 : n ≤ 1000 := by omega
 have hn0 : 0 < n := by omega
 have hv := hP.oth g t hl h0
 have HSi : Hid (∀ w, Sp w → _) := Lib.hid fun w hs => single_ g (by omega) hv w hs
 rw [h0] at HK
 have hcl := charsL_len g.text
 have hsl := @singleL_len g
 have e : spokenL l sp d = numW n ++ [bTimes] ++ singleL g := by
  have ht : t ≠ [] := by rintro rfl; subst hl; simp at hln; omega
  have hnt : n = t.length + 1 := by subst hl; simpa using hln.symm
  subst hl
  rw [hnt]
  exact spokenL_many h0 ht
 have HNu := Lib.hid (number_w n (by omega))
 have hnl := numW_len n
 obtain ⟨RES, hRES⟩ : ∃ x, x = spokenL l sp d := ⟨_, rfl⟩
 rw [← hRES]
 rw [e] at hRES
 generalize singleL g = SG at *
 generalize numW n = NW at *
 replace hRES := Lib.hid hRES
 have hlen : NW.length + 1 + SG.length ≤ 1000000000 := by omega
 clear hP hs hl rd hg0 hgm hk3 h0 hv e hcl hsl hnl
 obtain ⟨xx, wd, st⟩ := g
 dsimp only at *
 have en : ((n : Int) == 1) = false := beq_eq_false_iff_ne.2 (by omega)
 go_enter Tryz.func83, Tryz.ntmps83
 go_upto_region 1 with fail
 refine wp_fg (fun wx => StBox wx r d sp p con k w.heap.size ∧ Below w.heap.size w wx ∧ w.heap.size + 1 ≤ wx.heap.size) ⟨StBox.new w r d sp p con k _, (Below.refl _ _).alloc (Nat.le_refl _) _, by simp⟩ ?_
 rintro wb ⟨hst, hb0, hz0⟩
 go_wp2
 go_loopw [5, 10] (fun v x wr => ∃ j : Nat, j ≤ n ∧ x = .int .i64 j ∧ v = .string (txtL (l.take j)) ∧ Below (w.heap.size + 1) wb wr) (fun _ x _ => n - (intOf x).toNat)
 case atStart => exact ⟨0, Nat.zero_le _, rfl, rfl, Below.refl _ _⟩
 case round =>
  obtain ⟨j, hj, rfl, rfl, hbel⟩ := hrel
  have hts := HTs.out j
  have hb1 := hb0.trans (hbel.mono (Nat.le_succ _))
  have zb := hbel.size
  by_cases hlt : j < n
  ·have hkl : j < l.length := by omega
   have hz := HSz.out j hkl
   have hTj := Lib.hid (HT.out j hkl)
   obtain ⟨g0, g1, g2⟩ := HCell.out j hkl wr hb1
   generalize hgj : l[j] = gj at *
   clear hgj
   obtain ⟨tt, wdd, stt⟩ := gj
   dsimp only at *
   generalize txtL (l.take j) = Z at *
   go_upto_region 5 with fail
   refine wp_fg (GlBox wr tt wdd stt) (GlBox.new wr tt wdd stt _) ?_
   rintro wc ⟨d0, _, _, hbc, hzc⟩
   go_wp2
   exact ⟨⟨j + 1, by omega, by go_num, by rw [hTj.out], hbel.trans (hbc.mono (by omega))⟩, by simp [intOf]; omega⟩
  ·obtain rfl : j = n := by omega
   rw [HTA.out]
   have hstr := hst.below hbel (Nat.lt_succ_self _)
   obtain ⟨q0, q1, q2⟩ := HC0.out wr hb1
   have zr : w.heap.size + 1 ≤ wr.heap.size := Nat.le_trans hz0 zb
   clear hst hbel HCell HT HTs HSz HTA hb0 hz0
   go_upto_region 15 with (go_at_call 80; refine (HK.out _).mono ?_; rintro e w5 ⟨rfl, hbel5⟩; have t5 := hb1.trans (hbel5.mono (by omega)); obtain ⟨v0, v1, v2⟩ := HC0.out w5 t5)
   obtain ⟨z0, z1, z2⟩ := HC0.out w5.drew (below_drewN (n := 1) t5)
   obtain ⟨k0, k1, k2⟩ := HC0.out (w5.alloc (.cells #[.string ⟨#[116, 105, 109, 101, 115]⟩] 9)).drew (t5.alloc t5.size _).drew
   go_region_law (first
    | (go_simp; go_at_call 111; refine (HNu.out w5.drew).mono ?_; rintro e w6 ⟨A6, c6, rfl, hown6, hbel6⟩; have t6 := t5.trans ((below_of_drew hbel6).mono t5.size); obtain ⟨y0, y1, y2⟩ := HC0.out w6 t6; obtain ⟨x0, x1, x2⟩ := HC0.out (w6.alloc (.cells #[.string ⟨#[116, 105, 109, 101, 115]⟩] 9)) (t6.alloc t6.size _))
    | (go_simp; go_at_call 111; refine (HNu.out (w5.alloc (.cells #[.string ⟨#[116, 105, 109, 101, 115]⟩] 9)).drew).mono ?_; rintro e w6 ⟨A6, c6, rfl, hown6, hbel6⟩; have t6 := (t5.alloc t5.size (.cells #[.string ⟨#[116, 105, 109, 101, 115]⟩] 9)).drew.trans (hbel6.mono (by have := t5.size; simp; omega)); obtain ⟨y0, y1, y2⟩ := HC0.out w6 t6; have hC := rd_up (w := (w5.alloc (.cells #[.string ⟨#[116, 105, 109, 101, 115]⟩] 9)).drew) (size := 1) (n := 1) (A := some ⟨w5.heap.size, 0, none⟩) (xs := [.string ⟨#[116, 105, 109, 101, 115]⟩]) (by exact rd_one (w := w5)) hbel6)
    | (go_simp; go_at_call 109; refine (HSi.out (w6.alloc (.cells #[.string ⟨#[116, 105, 109, 101, 115]⟩] 9)) (HS.out.below (t6.alloc t6.size _) (Nat.le_refl _))).mono ?_; rintro e w7 ⟨A7, c7, rfl, hown7, hbel7⟩; have hA := rd_up (rd_one (w := w6) (v := .string ⟨#[116, 105, 109, 101, 115]⟩) (e := 9)) hbel7; have R6 := rd_up (rd_al (Rd.of_own hown6) (.cells #[.string ⟨#[116, 105, 109, 101, 115]⟩] 9)) hbel7; have t7 := (t6.alloc t6.size (.cells #[.string ⟨#[116, 105, 109, 101, 115]⟩] 9)).trans (hbel7.mono (by have := t6.size; simp; omega)))
    | (go_simp; go_at_call 109; refine (HSi.out w6 (HS.out.below t6 (Nat.le_refl _))).mono ?_; rintro e w7 ⟨A7, c7, rfl, hown7, hbel7⟩; have R6 := rd_up (Rd.of_own hown6) hbel7; have t7 := t6.trans (hbel7.mono t6.size))
    | (go_simp; go_at_call 110; have _hA := hA; go_must (refine (cat3 rfl R6 hA (Rd.of_own hown7) hlen hRES.out).mono ?_); rintro e w8 ⟨A8, c8, rfl, hown8, hbel8⟩; have t8 := (t7.alloc t7.size _).trans (hbel8.mono (by have := t7.size; simp; omega)))
    | (go_simp; go_at_call 110; have _hC := hC; go_must (refine (cat3 rfl R6 (rd_up hC hbel7) (Rd.of_own hown7) hlen hRES.out).mono ?_); rintro e w8 ⟨A8, c8, rfl, hown8, hbel8⟩; have t8 := (t7.alloc t7.size _).trans (hbel8.mono (by have := t7.size; simp; omega)))
    | (go_simp; go_at_call 110; (fail_if_success have := hA); (fail_if_success have := hC); go_must (refine (cat3 (W0 := w7.alloc (.cells #[.string ⟨#[116, 105, 109, 101, 115]⟩] 9)) (m := w7.heap.size + 1) (World.size_alloc _ _) (rd_al R6 _) rd_one (rd_al (Rd.of_own hown7) _) hlen hRES.out).mono ?_); rintro e w8 ⟨A8, c8, rfl, hown8, hbel8⟩; have t8 := ((t7.alloc t7.size _).alloc (by have := t7.size; simp; omega) _).trans (hbel8.mono (by have := t7.size; simp; omega))))
   all_goals go_wp2
   all_goals go_ret
   all_goals exact ⟨A8, c8, rfl, own_less hown8 (by have := t7.size; simp; omega), t8⟩
theorem spoken_ (l : List Gl) (g : Gl) (t : List Gl) (hl : l = g :: t) (hP : PieceOK l) (A : Option Addr) (n c B : Nat) (r : Int) (d sp : Bool) (p : Int) (con : Bool) (k : Int) (w : World) (hs : Sp w) (rd : Rd w B 3 A n (encGs l)) (hB : B ≤ w.heap.size) :
  Calls Tryz.prog 83 #[.slice A n c, stV r d sp p con k] w (GivesOwn 9 1 id w (spokenL l sp d).length (sv (spokenL l sp d))) := by
 have hln := gl_len rd
 have hl0 : 0 < l.length := by rw [hl]; simp
 have hg0 : l[0] = g := by subst hl; rfl
 obtain ⟨b, o, rfl, hbB, _, _, _⟩ := rd_gl rd hl0 hln
 have HCell : Hid (∀ (j : Nat) (h : j < l.length) (w' : World), Below w.heap.size w w' → (w'.cell? ⟨b, (o + j * 3), none⟩ = some (.string l[j].text) ∧ w'.cell? ⟨b, (o + j * 3) + 1, none⟩ = some (.bool l[j].wide) ∧ w'.cell? ⟨b, (o + j * 3) + 2, none⟩ = some (.int .i64 l[j].style))) := Lib.hid fun j h w' hw => by
  obtain ⟨b2, o2, e, _, q0, q1, q2⟩ := rd_gl (rd.keep (w' := w') fun p hp => hw.cell (by omega)) h hln
  injection e with e
  injection e with e1 e2
  subst e1 e2
  exact ⟨q0, q1, q2⟩
 have HC0 : Hid (∀ (w' : World), Below w.heap.size w w' → (w'.cell? ⟨b, o, none⟩ = some (.string g.text) ∧ w'.cell? ⟨b, o + 1, none⟩ = some (.bool g.wide) ∧ w'.cell? ⟨b, o + 2, none⟩ = some (.int .i64 g.style))) := Lib.hid fun w' hw => by
  have h := HCell.out 0 hl0 w' hw
  rw [Nat.zero_mul, Nat.add_zero, hg0] at h
  exact h
 have HSz : Hid (∀ (j : Nat) (h : j < l.length), l[j].text.size ≤ 1000) := Lib.hid fun j h => hP.sz _ (List.getElem_mem h)
 have HT : Hid (∀ (j : Nat) (h : j < l.length), txtL (l.take (j + 1)) = txtL (l.take j) ++ l[j].text) := Lib.hid fun j h => txt_take h
 have hn1 := hP.n
 have HTs : Hid (∀ j, (txtL (l.take j)).size ≤ 1000000) := Lib.hid fun j => by
  have h1 := txt_size (l.take j) 1000 (fun x hx => hP.sz x (List.mem_of_mem_take hx))
  rw [List.length_take] at h1
  omega
 have HTA : Hid (l.take n = l) := Lib.hid (List.take_of_length_le (by omega))
 have HS := Lib.hid hs
 have hgm : g ∈ l := by rw [hl]; simp
 have hzg : g.text.size ≤ 1000 := hP.sz g hgm
 have HK := Lib.hid (kind_ g (by omega))
 have hk3 := kindL_le g
 have hn2 : n ≤ 1000 := by omega
 have hn0 : 0 < n := by omega
 by_cases h1 : kindL g = 1 ∨ kindL g = 2
 ·have hall : ∀ x ∈ l, kindL x ≠ 0 := fun x hx => by have := hP.ltr g t hl h1 x hx; omega
  have HLet : Hid (∀ w, Sp w → Calls Tryz.prog 107 #[.string (txtL l), stV r d sp p con k] w (GivesOwn 9 1 id w (spokenL l sp d).length (sv (spokenL l sp d)))) := Lib.hid fun w hs => by
   have e : spokenL l sp d = lettersT (l.map headB) sp := by rw [← lettersL_T hall]; subst hl; exact spokenL_ltr h1
   rw [e]
   refine letters_ _ _ (txt_bytes hall) (fun c hc => ?_) (by rw [List.length_map]; omega) r d sp p con k w hs
   obtain ⟨x, hx, rfl⟩ := List.mem_map.1 hc
   have h2 := (kind_byte (hall x hx)).2
   have h3 := hP.ltr g t hl h1 x hx
   rw [h2] at h3
   unfold kindB at h3
   (repeat' split at h3) <;> omega
  generalize spokenL l sp d = RES at *
  generalize kindL g = K at *
  clear hP hall hs hl rd hg0 hgm
  obtain ⟨xx, wd, st⟩ := g
  dsimp only at *
  rcases h1 with rfl | rfl
  ·skip
   go_enter Tryz.func83, Tryz.ntmps83
   go_upto_region 1 with fail
   refine wp_fg (fun wx => StBox wx r d sp p con k w.heap.size ∧ Below w.heap.size w wx ∧ w.heap.size + 1 ≤ wx.heap.size) ⟨StBox.new w r d sp p con k _, (Below.refl _ _).alloc (Nat.le_refl _) _, by simp⟩ ?_
   rintro wb ⟨hst, hb0, hz0⟩
   go_wp2
   go_loopw [5, 10] (fun v x wr => ∃ j : Nat, j ≤ n ∧ x = .int .i64 j ∧ v = .string (txtL (l.take j)) ∧ Below (w.heap.size + 1) wb wr) (fun _ x _ => n - (intOf x).toNat)
   case atStart => exact ⟨0, Nat.zero_le _, rfl, rfl, Below.refl _ _⟩
   case round =>
    obtain ⟨j, hj, rfl, rfl, hbel⟩ := hrel
    have hts := HTs.out j
    have hb1 := hb0.trans (hbel.mono (Nat.le_succ _))
    have zb := hbel.size
    by_cases hlt : j < n
    ·have hkl : j < l.length := by omega
     have hz := HSz.out j hkl
     have hTj := Lib.hid (HT.out j hkl)
     obtain ⟨g0, g1, g2⟩ := HCell.out j hkl wr hb1
     generalize hgj : l[j] = gj at *
     clear hgj
     obtain ⟨tt, wdd, stt⟩ := gj
     dsimp only at *
     generalize txtL (l.take j) = Z at *
     go_upto_region 5 with fail
     refine wp_fg (GlBox wr tt wdd stt) (GlBox.new wr tt wdd stt _) ?_
     rintro wc ⟨d0, _, _, hbc, hzc⟩
     go_wp2
     exact ⟨⟨j + 1, by omega, by go_num, by rw [hTj.out], hbel.trans (hbc.mono (by omega))⟩, by simp [intOf]; omega⟩
    ·obtain rfl : j = n := by omega
     rw [HTA.out]
     have hstr := hst.below hbel (Nat.lt_succ_self _)
     obtain ⟨q0, q1, q2⟩ := HC0.out wr hb1
     have zr : w.heap.size + 1 ≤ wr.heap.size := Nat.le_trans hz0 zb
     clear hst hbel HCell HT HTs HSz HTA hb0 hz0
     go_wp2_with (first
      | (go_at_call 80; refine (HK.out _).mono ?_; rintro e w5 ⟨rfl, hbel5⟩; obtain ⟨u0, u1, u2, u3, u4, u5⟩ := hstr.below hbel5 (by omega); have t5 := hb1.trans (hbel5.mono (by omega)))
      | (go_at_call 107; refine (HLet.out _ (HS.out.below t5 (Nat.le_refl _))).mono ?_; rintro e w6 ⟨A6, c6, rfl, hown6, hbel6⟩))
     go_ret
     exact ⟨A6, c6, rfl, own_less hown6 t5.size, t5.trans (hbel6.mono t5.size)⟩
  ·skip
   go_enter Tryz.func83, Tryz.ntmps83
   go_upto_region 1 with fail
   refine wp_fg (fun wx => StBox wx r d sp p con k w.heap.size ∧ Below w.heap.size w wx ∧ w.heap.size + 1 ≤ wx.heap.size) ⟨StBox.new w r d sp p con k _, (Below.refl _ _).alloc (Nat.le_refl _) _, by simp⟩ ?_
   rintro wb ⟨hst, hb0, hz0⟩
   go_wp2
   go_loopw [5, 10] (fun v x wr => ∃ j : Nat, j ≤ n ∧ x = .int .i64 j ∧ v = .string (txtL (l.take j)) ∧ Below (w.heap.size + 1) wb wr) (fun _ x _ => n - (intOf x).toNat)
   case atStart => exact ⟨0, Nat.zero_le _, rfl, rfl, Below.refl _ _⟩
   case round =>
    obtain ⟨j, hj, rfl, rfl, hbel⟩ := hrel
    have hts := HTs.out j
    have hb1 := hb0.trans (hbel.mono (Nat.le_succ _))
    have zb := hbel.size
    by_cases hlt : j < n
    ·have hkl : j < l.length := by omega
     have hz := HSz.out j hkl
     have hTj := Lib.hid (HT.out j hkl)
     obtain ⟨g0, g1, g2⟩ := HCell.out j hkl wr hb1
     generalize hgj : l[j] = gj at *
     clear hgj
     obtain ⟨tt, wdd, stt⟩ := gj
     dsimp only at *
     generalize txtL (l.take j) = Z at *
     go_upto_region 5 with fail
     refine wp_fg (GlBox wr tt wdd stt) (GlBox.new wr tt wdd stt _) ?_
     rintro wc ⟨d0, _, _, hbc, hzc⟩
     go_wp2
     exact ⟨⟨j + 1, by omega, by go_num, by rw [hTj.out], hbel.trans (hbc.mono (by omega))⟩, by simp [intOf]; omega⟩
    ·obtain rfl : j = n := by omega
     rw [HTA.out]
     have hstr := hst.below hbel (Nat.lt_succ_self _)
     obtain ⟨q0, q1, q2⟩ := HC0.out wr hb1
     have zr : w.heap.size + 1 ≤ wr.heap.size := Nat.le_trans hz0 zb
     clear hst hbel HCell HT HTs HSz HTA hb0 hz0
     go_wp2_with (first
      | (go_at_call 80; refine (HK.out _).mono ?_; rintro e w5 ⟨rfl, hbel5⟩; obtain ⟨u0, u1, u2, u3, u4, u5⟩ := hstr.below hbel5 (by omega); have t5 := hb1.trans (hbel5.mono (by omega)))
      | (go_at_call 107; refine (HLet.out _ (HS.out.below t5 (Nat.le_refl _))).mono ?_; rintro e w6 ⟨A6, c6, rfl, hown6, hbel6⟩))
     go_ret
     exact ⟨A6, c6, rfl, own_less hown6 t5.size, t5.trans (hbel6.mono t5.size)⟩
 ·by_cases h3 : kindL g = 3
  ·have hall3 : ∀ x ∈ l, kindL x = 3 := hP.dig g t hl h3
   have hall : ∀ x ∈ l, kindL x ≠ 0 := fun x hx => by have := hall3 x hx; omega
   have HLet : Hid (∀ w, Calls Tryz.prog 108 #[.string (txtL l), stV r d sp p con k] w (GivesOwn 9 1 id w (spokenL l sp d).length (sv (spokenL l sp d)))) := Lib.hid fun w => by
    have e : spokenL l sp d = digitsT (l.map headB) d := by rw [← digitsL_T]; subst hl; exact spokenL_dig h3
    rw [e]
    refine digits_ _ _ (txt_bytes hall) (fun c hc => ?_) (by rw [List.length_map]; omega) (by rw [List.length_map]; omega) r d sp p con k w
    obtain ⟨x, hx, rfl⟩ := List.mem_map.1 hc
    have h2 := (kind_byte (hall x hx)).2
    have h4 := hall3 x hx
    rw [h2] at h4
    unfold kindB at h4
    (repeat' split at h4) <;> omega
   generalize spokenL l sp d = RES at *
   rw [h3] at HK
   clear hP hall hall3 hs hl rd hg0 hgm h1 h3 hk3
   obtain ⟨xx, wd, st⟩ := g
   dsimp only at *
   go_enter Tryz.func83, Tryz.ntmps83
   go_upto_region 1 with fail
   refine wp_fg (fun wx => StBox wx r d sp p con k w.heap.size ∧ Below w.heap.size w wx ∧ w.heap.size + 1 ≤ wx.heap.size) ⟨StBox.new w r d sp p con k _, (Below.refl _ _).alloc (Nat.le_refl _) _, by simp⟩ ?_
   rintro wb ⟨hst, hb0, hz0⟩
   go_wp2
   go_loopw [5, 10] (fun v x wr => ∃ j : Nat, j ≤ n ∧ x = .int .i64 j ∧ v = .string (txtL (l.take j)) ∧ Below (w.heap.size + 1) wb wr) (fun _ x _ => n - (intOf x).toNat)
   case atStart => exact ⟨0, Nat.zero_le _, rfl, rfl, Below.refl _ _⟩
   case round =>
    obtain ⟨j, hj, rfl, rfl, hbel⟩ := hrel
    have hts := HTs.out j
    have hb1 := hb0.trans (hbel.mono (Nat.le_succ _))
    have zb := hbel.size
    by_cases hlt : j < n
    ·have hkl : j < l.length := by omega
     have hz := HSz.out j hkl
     have hTj := Lib.hid (HT.out j hkl)
     obtain ⟨g0, g1, g2⟩ := HCell.out j hkl wr hb1
     generalize hgj : l[j] = gj at *
     clear hgj
     obtain ⟨tt, wdd, stt⟩ := gj
     dsimp only at *
     generalize txtL (l.take j) = Z at *
     go_upto_region 5 with fail
     refine wp_fg (GlBox wr tt wdd stt) (GlBox.new wr tt wdd stt _) ?_
     rintro wc ⟨d0, _, _, hbc, hzc⟩
     go_wp2
     exact ⟨⟨j + 1, by omega, by go_num, by rw [hTj.out], hbel.trans (hbc.mono (by omega))⟩, by simp [intOf]; omega⟩
    ·obtain rfl : j = n := by omega
     rw [HTA.out]
     have hstr := hst.below hbel (Nat.lt_succ_self _)
     obtain ⟨q0, q1, q2⟩ := HC0.out wr hb1
     have zr : w.heap.size + 1 ≤ wr.heap.size := Nat.le_trans hz0 zb
     clear hst hbel HCell HT HTs HSz HTA hb0 hz0
     go_wp2_with (first
      | (go_at_call 80; refine (HK.out _).mono ?_; rintro e w5 ⟨rfl, hbel5⟩; obtain ⟨u0, u1, u2, u3, u4, u5⟩ := hstr.below hbel5 (by omega); have t5 := hb1.trans (hbel5.mono (by omega)))
      | (go_at_call 108; refine (HLet.out _).mono ?_; rintro e w6 ⟨A6, c6, rfl, hown6, hbel6⟩))
     go_ret
     exact ⟨A6, c6, rfl, own_less hown6 t5.size, t5.trans (hbel6.mono t5.size)⟩
  ·have h0 : kindL g = 0 := by omega
   have hv := hP.oth g t hl h0
   have HSi : Hid (∀ w, Sp w → _) := Lib.hid fun w hs => single_ g (by omega) hv w hs
   rw [h0] at HK
   have hcl := charsL_len g.text
   have hsl := @singleL_len g
   by_cases hn1' : n = 1
   ·have e : spokenL l sp d = singleL g := by
     subst hl
     have : t = [] := List.eq_nil_of_length_eq_zero (by simp at hln; omega)
     subst this
     exact spokenL_one h0
    rw [e]
    generalize singleL g = RES at *
    clear hP hs hl rd hg0 hgm h1 h3 hk3 h0 hv e
    obtain ⟨xx, wd, st⟩ := g
    dsimp only at *
    have en : ((n : Int) == 1) = true := beq_iff_eq.2 (by omega)
    go_enter Tryz.func83, Tryz.ntmps83
    go_upto_region 1 with fail
    refine wp_fg (fun wx => StBox wx r d sp p con k w.heap.size ∧ Below w.heap.size w wx ∧ w.heap.size + 1 ≤ wx.heap.size) ⟨StBox.new w r d sp p con k _, (Below.refl _ _).alloc (Nat.le_refl _) _, by simp⟩ ?_
    rintro wb ⟨hst, hb0, hz0⟩
    go_wp2
    go_loopw [5, 10] (fun v x wr => ∃ j : Nat, j ≤ n ∧ x = .int .i64 j ∧ v = .string (txtL (l.take j)) ∧ Below (w.heap.size + 1) wb wr) (fun _ x _ => n - (intOf x).toNat)
    case atStart => exact ⟨0, Nat.zero_le _, rfl, rfl, Below.refl _ _⟩
    case round =>
     obtain ⟨j, hj, rfl, rfl, hbel⟩ := hrel
     have hts := HTs.out j
     have hb1 := hb0.trans (hbel.mono (Nat.le_succ _))
     have zb := hbel.size
     by_cases hlt : j < n
     ·have hkl : j < l.length := by omega
      have hz := HSz.out j hkl
      have hTj := Lib.hid (HT.out j hkl)
      obtain ⟨g0, g1, g2⟩ := HCell.out j hkl wr hb1
      generalize hgj : l[j] = gj at *
      clear hgj
      obtain ⟨tt, wdd, stt⟩ := gj
      dsimp only at *
      generalize txtL (l.take j) = Z at *
      go_upto_region 5 with fail
      refine wp_fg (GlBox wr tt wdd stt) (GlBox.new wr tt wdd stt _) ?_
      rintro wc ⟨d0, _, _, hbc, hzc⟩
      go_wp2
      exact ⟨⟨j + 1, by omega, by go_num, by rw [hTj.out], hbel.trans (hbc.mono (by omega))⟩, by simp [intOf]; omega⟩
     ·obtain rfl : j = n := by omega
      rw [HTA.out]
      have hstr := hst.below hbel (Nat.lt_succ_self _)
      obtain ⟨q0, q1, q2⟩ := HC0.out wr hb1
      have zr : w.heap.size + 1 ≤ wr.heap.size := Nat.le_trans hz0 zb
      clear hst hbel HCell HT HTs HSz HTA hb0 hz0
      go_wp2_with (first
       | (go_at_call 80; refine (HK.out _).mono ?_; rintro e w5 ⟨rfl, hbel5⟩; have t5 := hb1.trans (hbel5.mono (by omega)); obtain ⟨v0, v1, v2⟩ := HC0.out w5 t5)
       | (go_at_call 109; refine (HSi.out _ (HS.out.below t5 (Nat.le_refl _))).mono ?_; rintro e w6 ⟨A6, c6, rfl, hown6, hbel6⟩))
      go_ret
      exact ⟨A6, c6, rfl, own_less hown6 t5.size, t5.trans (hbel6.mono t5.size)⟩
   ·exact spoken_many l g t hl hP h0 _ n c B r d sp p con k w hs hn1' rd hB
end Go.Proofs.YtejjfiipghcifaaGreatDoor
namespace Go.Proofs.YtejjfiipghcifaaGreatDoor
open Go.RowKit
def GOK (g : Gl) : Prop := checkC g.text = 0 ∧ g.text.size ≤ 1000
theorem GOK.valid {g : Gl} (h : GOK g) : validB g.text = true := (checkC_zero.1 h.1).1
theorem runK_take : ∀ (l : List Gl) (k : Nat) (st : Int), ∀ x ∈ l.take (runK l k st), kindL x = k ∧ x.style = st
 | [], _, _, x, h => by simp at h
 | g :: t, k, st, x, h => by
  rw [runK_cons] at h
  split at h
  ·rename_i hc
   rw [List.take_succ_cons] at h
   rcases List.mem_cons.1 h with rfl | h
   ·exact hc
   ·exact runK_take t k st x h
  ·cases h
theorem piece_ok {l : List Gl} {g : Gl} {t : List Gl} (hl : l = g :: t) (hn : l.length ≤ 1000) (hg : ∀ x ∈ l, GOK x) (rep : Int) : PieceOK (l.take (pieceL l rep)) := by
 have hpos := pieceL_pos (g := g) (t := t) rep
 rw [← hl] at hpos
 have htk : ∀ g' t', l.take (pieceL l rep) = g' :: t' → g' = g := fun g' t' e => by
  obtain ⟨m, hm⟩ : ∃ m, pieceL l rep = m + 1 := ⟨pieceL l rep - 1, by omega⟩
  rw [hm, hl, List.take_succ_cons] at e
  injection e with e
  exact e.symm
 refine ⟨?_, fun x hx => (hg x (List.mem_of_mem_take hx)).2, fun g' t' e h => ?_, fun g' t' e h => ?_, fun g' t' e h => ?_⟩
 ·rw [List.length_take]; omega
 ·obtain rfl := htk g' t' e
  intro x hx
  rcases h with h | h
  ·rw [hl, pieceL_ltr (.inl h), h] at hx
   exact .inl (runK_take _ _ _ x hx).1
  ·rw [hl, pieceL_cap h] at hx
   split at hx
   ·exact .inr (runK_take _ _ _ x hx).1
   ·rw [Nat.add_comm, List.take_succ_cons] at hx
    rcases List.mem_cons.1 hx with rfl | hx
    ·exact .inr h
    ·exact .inl (runK_take _ _ _ x hx).1
 ·obtain rfl := htk g' t' e
  intro x hx
  rw [hl, pieceL_ltr (.inr h), h] at hx
  exact (runK_take _ _ _ x hx).1
 ·obtain rfl := htk g' t' e
  exact (hg g' (by rw [hl]; simp)).valid
theorem chN_isChar {r : Nat} (h : isChN r) : isCharB (r : Int) = true := by
 unfold isChN at h
 rw [isCharB_iff]
 unfold isChar
 omega
theorem single_ne {g : Gl} (h : GOK g) : singleL g ≠ [] := by
 by_cases h1 : g.text.data.toList = [32]
 ·rw [singleL_sp h1]; simp
 ·rw [singleL_oth h1]
  obtain ⟨_, r, t, hL, _⟩ := checkC_zero.1 h.1
  have hch := charsL_ch (bytN g.text) r (by rw [hL]; simp)
  rw [hL]
  have e : spellN (r :: t) = spellL (r : Int) ++ spellN t := by simp [spellN]
  rw [e]
  intro h2
  have h3 := spell_pos (chN_isChar hch)
  have := (List.append_eq_nil_iff.1 h2).1
  rw [this] at h3
  simp at h3
theorem numW_ne (n : Nat) (hn : n ≤ 999999999) : numW n ≠ [] := by
 unfold numW
 intro h
 have h1 := List.map_eq_nil_iff.1 h
 have := wordsL_pos (n : Int)
 rw [h1] at this
 simp at this
 omega
theorem spoken_ne {l : List Gl} {g : Gl} {t : List Gl} (hl : l = g :: t) (hP : PieceOK l) (hg : GOK g) (sp d : Bool) : spokenL l sp d ≠ [] := by
 subst hl
 have hk := kindL_le g
 by_cases h1 : kindL g = 1 ∨ kindL g = 2
 ·rw [spokenL_ltr h1]
  unfold lettersL
  cases sp <;> simp
 ·by_cases h3 : kindL g = 3
  ·rw [spokenL_dig h3, digitsL_T]
   unfold digitsT
   split
   ·simp
   ·rename_i hc
    refine numW_ne _ ?_
    have hl9 : (List.map headB (g :: t)).length ≤ 9 := by
     rcases Nat.lt_or_ge 9 (List.map headB (g :: t)).length with h | h
     ·exact absurd (.inr (.inl h)) hc
     ·exact h
    have h1 := numL_lt (digT (List.map headB (g :: t))) (fun x hx => by
     unfold digT at hx
     obtain ⟨c, hc2, rfl⟩ := List.mem_map.1 hx
     obtain ⟨y, hy, rfl⟩ := List.mem_map.1 hc2
     have h4 := hP.dig g t rfl h3 y hy
     have h5 := (kind_byte (g := y) (by omega)).2
     rw [h5] at h4
     unfold kindB at h4
     (repeat' split at h4) <;> omega)
    have h2 : (digT (List.map headB (g :: t))).length ≤ 9 := by unfold digT; rw [List.length_map]; exact hl9
    have h3 : 10 ^ (digT (List.map headB (g :: t))).length ≤ 10 ^ 9 := Nat.pow_le_pow_right (by omega) h2
    omega
  ·have h0 : kindL g = 0 := by omega
   by_cases ht : t = []
   ·subst ht
    rw [spokenL_one h0]
    exact single_ne hg
   ·rw [spokenL_many h0 ht]
    simp
theorem wordsz (l : List Nat) : ∀ s ∈ l.map wb, s.size ≤ maxLen := by
 intro s hs
 simp at hs
 obtain ⟨i, _, rfl⟩ := hs
 exact wb_size i
theorem nb_size (i : Nat) : (nb i).size ≤ maxLen := by
 unfold nb maxLen
 split <;> decide
theorem spell_sizes (r : Int) : ∀ s ∈ spellL r, s.size ≤ maxLen := by
 intro s hs
 unfold spellL at hs
 split at hs
 ·simp at hs
  subst hs
  exact nb_size _
 ·split at hs
  ·rcases List.mem_cons.1 hs with rfl | hs
   ·unfold maxLen cB; decide
   ·exact wordsz _ s hs
  ·cases hs
theorem single_sizes (g : Gl) : ∀ s ∈ singleL g, s.size ≤ maxLen := by
 intro s hs
 by_cases h : g.text.data.toList = [32]
 ·rw [singleL_sp h, List.mem_singleton] at hs
  subst hs
  unfold maxLen bSpace; decide
 ·rw [singleL_oth h] at hs
  obtain ⟨r, _, hr⟩ := List.mem_flatMap.1 hs
  exact spell_sizes _ s hr
theorem spoken_sizes {l : List Gl} {g : Gl} {t : List Gl} (hl : l = g :: t) (hP : PieceOK l) (sp d : Bool) : ∀ s ∈ spokenL l sp d, s.size ≤ maxLen := by
 intro s hs
 have hn := hP.n
 subst hl
 have hk := kindL_le g
 have hlow : ∀ T : List UInt8, T.length ≤ 1000 → (⟨T.toArray⟩ : ByteArray).size ≤ maxLen := fun T hT => by
  show T.toArray.size ≤ maxLen
  rw [List.size_toArray]
  unfold maxLen
  omega
 by_cases h1 : kindL g = 1 ∨ kindL g = 2
 ·rw [spokenL_ltr h1] at hs
  unfold lettersL at hs
  rcases List.mem_append.1 hs with hs | hs
  ·(repeat' split at hs) <;> first | (cases hs; done) | (rw [List.mem_singleton] at hs; subst hs; unfold maxLen; decide)
  ·split at hs
   ·rcases List.mem_append.1 hs with hs | hs
    ·rcases List.mem_cons.1 hs with rfl | hs
     ·unfold maxLen bSpelled; decide
     ·obtain ⟨c, _, rfl⟩ := List.mem_map.1 hs
      unfold maxLen
      show (1 : Nat) ≤ _
      omega
    ·rw [List.mem_singleton] at hs; subst hs; unfold maxLen bEnd; decide
   ·rcases List.mem_append.1 hs with hs | hs
    ·split at hs
     ·rw [List.mem_singleton] at hs; subst hs; unfold maxLen bWord; decide
     ·cases hs
    ·rw [List.mem_singleton] at hs
     subst hs
     exact hlow _ (by unfold lowL; rw [List.length_map]; exact hn)
 ·by_cases h3 : kindL g = 3
  ·rw [spokenL_dig h3, digitsL_T] at hs
   unfold digitsT at hs
   split at hs
   ·rcases List.mem_cons.1 hs with rfl | hs
    ·unfold maxLen bDigits; decide
    ·obtain ⟨x, _, hx⟩ := List.mem_flatMap.1 hs
     exact wordsz _ s hx
   ·exact wordsz _ s hs
  ·have h0 : kindL g = 0 := by omega
   by_cases ht : t = []
   ·subst ht
    rw [spokenL_one h0] at hs
    exact single_sizes g s hs
   ·rw [spokenL_many h0 ht] at hs
    rcases List.mem_append.1 hs with hs | hs
    ·rcases List.mem_append.1 hs with hs | hs
     ·exact wordsz _ s hs
     ·rw [List.mem_singleton] at hs; subst hs; unfold maxLen bTimes; decide
    ·exact single_sizes g s hs
end Go.Proofs.YtejjfiipghcifaaGreatDoor
