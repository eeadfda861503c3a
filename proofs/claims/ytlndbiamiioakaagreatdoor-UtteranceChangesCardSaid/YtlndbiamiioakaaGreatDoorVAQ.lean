/- Joined: SpM, Sp1, Sk0. -/
import Derived.Test.YtlndbiamiioakaaGreatDoorVAP
set_option linter.unusedVariables false
set_option linter.unusedSimpArgs false
set_option linter.unnecessarySimpa false
set_option maxHeartbeats 4000000
namespace Go.Proofs.YtlndbiamiioakaaGreatDoor
open Go.Proofs.Tryz Go.RowKit
set_option maxRecDepth 20000
theorem qeq (l : List Gl) (g : Gl) (t : List Gl) (hl : l = g :: t) (hP : PieceOK l) (h0 : qv g = 0) (A : Option Addr) (n c B : Nat) (r : Int) (d sp : Bool) (p : Int) (con : Bool) (k : Int) (w : World) (hs : Sp w) (hn1' : n ≠ 1) (rd : Rd w B 3 A n (qn l)) (hB : B <= w.heap.size) :
  Calls prog 71 #[.slice A n c, stV r d sp p con k] w (ql 9 1 id w (qJ l sp d).length (sv (qJ l sp d))) := by
 have hln := yl rd
 have hl0 : 0 < l.length := by rw [hl]; simp
 have hg0 : l[0] = g := by subst hl; rfl
 obtain ⟨b, o, rfl, hbB, _, _, _⟩ := jJ rd hl0 hln
 have qio : Hid (∀ (j : Nat) (h : j < l.length) (w' : World), Below w.heap.size w w' -> (w'.cell? ⟨b, (o + j * 3), none⟩ = some (.string l[j].text) /\ w'.cell? ⟨b, (o + j * 3) + 1, none⟩ = some (.bool l[j].wide) /\ w'.cell? ⟨b, (o + j * 3) + 2, none⟩ = some (.int .i64 l[j].style))) := Lh fun j h w' hw => by
  obtain ⟨b2, o2, e, _, q0, q1, q2⟩ := jJ (rd.keep (w' := w') fun p hp => hw.cell (by omega)) h hln
  injection e with e
  injection e with e1 e2
  subst e1 e2
  exact ⟨q0, q1, q2⟩
 have HC0 : Hid (∀ (w' : World), Below w.heap.size w w' -> (w'.cell? ⟨b, o, none⟩ = some (.string g.text) /\ w'.cell? ⟨b, o + 1, none⟩ = some (.bool g.wide) /\ w'.cell? ⟨b, o + 2, none⟩ = some (.int .i64 g.style))) := Lh fun w' hw => by
  have h := qio.out 0 hl0 w' hw
  rw [Nat.zero_mul, Nat.add_zero, hg0] at h
  exact h
 have HSz : Hid (∀ (j : Nat) (h : j < l.length), l[j].text.size <= 1000) := Lh fun j h => hP.sz _ (List.getElem_mem h)
 have HT : Hid (∀ (j : Nat) (h : j < l.length), yh (l.take (j + 1)) = yh (l.take j) ++ l[j].text) := Lh fun j h => qeB h
 have hn1 := hP.n
 have HTs : Hid (∀ j, (yh (l.take j)).size <= 1000000) := Lh fun j => by
  have h1 := qeu (l.take j) 1000 (fun x hx => hP.sz x (List.mem_of_mem_take hx))
  rw [List.length_take] at h1
  omega
 have HTA : Hid (l.take n = l) := Lh (List.take_of_length_le (by omega))
 have HS := Lh hs
 have hgm : g ∈ l := by rw [hl]; simp
 have hzg : g.text.size <= 1000 := hP.sz g hgm
 have HK := Lh (qbr g (by omega))
 have hk3 := yD g
 have hn2 : n <= 1000 := by omega
 have hn0 : 0 < n := by omega
 have hv := hP.oth g t hl h0
 have HSi : Hid (∀ w, Sp w -> _) := Lh fun w hs => qgG g (by omega) hv w hs
 rw [h0] at HK
 have hcl := vv g.text
 have hsl := @kS g
 have e : qJ l sp d = jm n ++ [bTimes] ++ vH g := by
  have ht : t ≠ [] := by rintro rfl; subst hl; simp at hln; omega
  have hnt : n = t.length + 1 := by subst hl; simpa using hln.symm
  subst hl
  rw [hnt]
  exact yx h0 ht
 have HNu := Lh (qeE n (by omega))
 have hnl := ye n
 obtain ⟨RES, qih⟩ : ∃ x, x = qJ l sp d := ⟨_, rfl⟩
 rw [<- qih]
 rw [e] at qih
 generalize vH g = SG at *
 generalize jm n = NW at *
 replace qih := Lh qih
 have hlen : NW.length + 1 + SG.length <= 1000000000 := by omega
 clear hP hs hl rd hg0 hgm hk3 h0 hv e hcl hsl hnl
 obtain ⟨xx, wd, st⟩ := g
 dsimp only at *
 have en : ((n : Int) == 1) = false := beq_eq_false_iff_ne.2 (by omega)
 go_enter func71, ntmps71
 go_upto_region 1 with fail
 refine qc (fun wx => StBox wx r d sp p con k w.heap.size /\ Below w.heap.size w wx /\ w.heap.size + 1 <= wx.heap.size) ⟨StBox.new w r d sp p con k _, (Below.refl _ _).alloc (Nat.le_refl _) _, by simp⟩ ?_
 rintro wb ⟨hst, hb0, hz0⟩
 go_wp2
 go_loopw [5, 10] (fun v x wr => ∃ j : Nat, j <= n /\ x = .int .i64 j /\ v = .string (yh (l.take j)) /\ Below (w.heap.size + 1) wb wr) (fun _ x _ => n - (intOf x).toNat)
 case atStart => exact ⟨0, Nat.zero_le _, rfl, rfl, Below.refl _ _⟩
 case round =>
  obtain ⟨j, hj, rfl, rfl, hbel⟩ := hrel
  have hts := HTs.out j
  have hb1 := hb0.trans (hbel.mono (Nat.le_succ _))
  have zb := hbel.size
  by_cases hlt : j < n
  ·have hkl : j < l.length := by omega
   have hz := HSz.out j hkl
   have hTj := Lh (HT.out j hkl)
   obtain ⟨g0, g1, g2⟩ := qio.out j hkl wr hb1
   generalize hgj : l[j] = gj at *
   clear hgj
   obtain ⟨tt, wdd, stt⟩ := gj
   dsimp only at *
   generalize yh (l.take j) = Z at *
   go_upto_region 5 with fail
   refine qc (GlBox wr tt wdd stt) (GlBox.new wr tt wdd stt _) ?_
   rintro wc ⟨d0, _, _, hbc, hzc⟩
   go_wp2
   exact ⟨⟨j + 1, by omega, by go_num, by rw [hTj.out], hbel.trans (hbc.mono (by omega))⟩, by simp [intOf]; omega⟩
  ·obtain rfl : j = n := by omega
   rw [HTA.out]
   have hstr := hst.below hbel (Nat.lt_succ_self _)
   obtain ⟨q0, q1, q2⟩ := HC0.out wr hb1
   have zr : w.heap.size + 1 <= wr.heap.size := Nat.le_trans hz0 zb
   clear hst hbel qio HT HTs HSz HTA hb0 hz0
   go_upto_region 15 with (go_at_call 68; refine (HK.out _).mono ?_; rintro e w5 ⟨rfl, qib⟩; have t5 := hb1.trans (qib.mono (by omega)); obtain ⟨v0, v1, v2⟩ := HC0.out w5 t5)
   obtain ⟨z0, z1, z2⟩ := HC0.out w5.drew (qb (n := 1) t5)
   obtain ⟨k0, k1, k2⟩ := HC0.out (w5.alloc (.cells #[.string ⟨#[116, 105, 109, 101, 115]⟩] 9)).drew (t5.alloc t5.size _).drew
   go_region_law (first
    | (go_simp; go_at_call 100; refine (HNu.out w5.drew).mono ?_; rintro e w6 ⟨A6, c6, rfl, hown6, qic⟩; have t6 := t5.trans ((yc qic).mono t5.size); obtain ⟨y0, y1, y2⟩ := HC0.out w6 t6; obtain ⟨x0, x1, x2⟩ := HC0.out (w6.alloc (.cells #[.string ⟨#[116, 105, 109, 101, 115]⟩] 9)) (t6.alloc t6.size _))
    | (go_simp; go_at_call 100; refine (HNu.out (w5.alloc (.cells #[.string ⟨#[116, 105, 109, 101, 115]⟩] 9)).drew).mono ?_; rintro e w6 ⟨A6, c6, rfl, hown6, qic⟩; have t6 := (t5.alloc t5.size (.cells #[.string ⟨#[116, 105, 109, 101, 115]⟩] 9)).drew.trans (qic.mono (by have := t5.size; simp; omega)); obtain ⟨y0, y1, y2⟩ := HC0.out w6 t6; have hC := qc8 (w := (w5.alloc (.cells #[.string ⟨#[116, 105, 109, 101, 115]⟩] 9)).drew) (size := 1) (n := 1) (A := some ⟨w5.heap.size, 0, none⟩) (xs := [.string ⟨#[116, 105, 109, 101, 115]⟩]) (by exact qfb (w := w5)) qic)
    | (go_simp; go_at_call 98; refine (HSi.out (w6.alloc (.cells #[.string ⟨#[116, 105, 109, 101, 115]⟩] 9)) (HS.out.below (t6.alloc t6.size _) (Nat.le_refl _))).mono ?_; rintro e w7 ⟨A7, c7, rfl, qif, qid⟩; have hA := qc8 (qfb (w := w6) (v := .string ⟨#[116, 105, 109, 101, 115]⟩) (e := 9)) qid; have R6 := qc8 (rd_al (Rd.of_own hown6) (.cells #[.string ⟨#[116, 105, 109, 101, 115]⟩] 9)) qid; have t7 := (t6.alloc t6.size (.cells #[.string ⟨#[116, 105, 109, 101, 115]⟩] 9)).trans (qid.mono (by have := t6.size; simp; omega)))
    | (go_simp; go_at_call 98; refine (HSi.out w6 (HS.out.below t6 (Nat.le_refl _))).mono ?_; rintro e w7 ⟨A7, c7, rfl, qif, qid⟩; have R6 := qc8 (Rd.of_own hown6) qid; have t7 := t6.trans (qid.mono t6.size))
    | (go_simp; go_at_call 99; have _hA := hA; go_must (refine (cat3 rfl R6 hA (Rd.of_own qif) hlen qih.out).mono ?_); rintro e w8 ⟨A8, c8, rfl, hown8, hbel8⟩; have t8 := (t7.alloc t7.size _).trans (hbel8.mono (by have := t7.size; simp; omega)))
    | (go_simp; go_at_call 99; have _hC := hC; go_must (refine (cat3 rfl R6 (qc8 hC qid) (Rd.of_own qif) hlen qih.out).mono ?_); rintro e w8 ⟨A8, c8, rfl, hown8, hbel8⟩; have t8 := (t7.alloc t7.size _).trans (hbel8.mono (by have := t7.size; simp; omega)))
    | (go_simp; go_at_call 99; (fail_if_success have := hA); (fail_if_success have := hC); go_must (refine (cat3 (W0 := w7.alloc (.cells #[.string ⟨#[116, 105, 109, 101, 115]⟩] 9)) (m := w7.heap.size + 1) (World.size_alloc _ _) (rd_al R6 _) qfb (rd_al (Rd.of_own qif) _) hlen qih.out).mono ?_); rintro e w8 ⟨A8, c8, rfl, hown8, hbel8⟩; have t8 := ((t7.alloc t7.size _).alloc (by have := t7.size; simp; omega) _).trans (hbel8.mono (by have := t7.size; simp; omega))))
   all_goals go_wp2
   all_goals go_ret
   all_goals exact ⟨A8, c8, rfl, qq hown8 (by have := t7.size; simp; omega), t8⟩
theorem qf5 (l : List Gl) (g : Gl) (t : List Gl) (hl : l = g :: t) (hP : PieceOK l) (A : Option Addr) (n c B : Nat) (r : Int) (d sp : Bool) (p : Int) (con : Bool) (k : Int) (w : World) (hs : Sp w) (rd : Rd w B 3 A n (qn l)) (hB : B <= w.heap.size) :
  Calls prog 71 #[.slice A n c, stV r d sp p con k] w (ql 9 1 id w (qJ l sp d).length (sv (qJ l sp d))) := by
 have hln := yl rd
 have hl0 : 0 < l.length := by rw [hl]; simp
 have hg0 : l[0] = g := by subst hl; rfl
 obtain ⟨b, o, rfl, hbB, _, _, _⟩ := jJ rd hl0 hln
 have qio : Hid (∀ (j : Nat) (h : j < l.length) (w' : World), Below w.heap.size w w' -> (w'.cell? ⟨b, (o + j * 3), none⟩ = some (.string l[j].text) /\ w'.cell? ⟨b, (o + j * 3) + 1, none⟩ = some (.bool l[j].wide) /\ w'.cell? ⟨b, (o + j * 3) + 2, none⟩ = some (.int .i64 l[j].style))) := Lh fun j h w' hw => by
  obtain ⟨b2, o2, e, _, q0, q1, q2⟩ := jJ (rd.keep (w' := w') fun p hp => hw.cell (by omega)) h hln
  injection e with e
  injection e with e1 e2
  subst e1 e2
  exact ⟨q0, q1, q2⟩
 have HC0 : Hid (∀ (w' : World), Below w.heap.size w w' -> (w'.cell? ⟨b, o, none⟩ = some (.string g.text) /\ w'.cell? ⟨b, o + 1, none⟩ = some (.bool g.wide) /\ w'.cell? ⟨b, o + 2, none⟩ = some (.int .i64 g.style))) := Lh fun w' hw => by
  have h := qio.out 0 hl0 w' hw
  rw [Nat.zero_mul, Nat.add_zero, hg0] at h
  exact h
 have HSz : Hid (∀ (j : Nat) (h : j < l.length), l[j].text.size <= 1000) := Lh fun j h => hP.sz _ (List.getElem_mem h)
 have HT : Hid (∀ (j : Nat) (h : j < l.length), yh (l.take (j + 1)) = yh (l.take j) ++ l[j].text) := Lh fun j h => qeB h
 have hn1 := hP.n
 have HTs : Hid (∀ j, (yh (l.take j)).size <= 1000000) := Lh fun j => by
  have h1 := qeu (l.take j) 1000 (fun x hx => hP.sz x (List.mem_of_mem_take hx))
  rw [List.length_take] at h1
  omega
 have HTA : Hid (l.take n = l) := Lh (List.take_of_length_le (by omega))
 have HS := Lh hs
 have hgm : g ∈ l := by rw [hl]; simp
 have hzg : g.text.size <= 1000 := hP.sz g hgm
 have HK := Lh (qbr g (by omega))
 have hk3 := yD g
 have hn2 : n <= 1000 := by omega
 have hn0 : 0 < n := by omega
 by_cases h1 : qv g = 1 ∨ qv g = 2
 ·have hall : ∀ x ∈ l, qv x ≠ 0 := fun x hx => by have := hP.ltr g t hl h1 x hx; omega
  have HLet : Hid (∀ w, Sp w -> Calls prog 96 #[.string (yh l), stV r d sp p con k] w (ql 9 1 id w (qJ l sp d).length (sv (qJ l sp d)))) := Lh fun w hs => by
   have e : qJ l sp d = kf (l.map jo) sp := by rw [<- qfo hall]; subst hl; exact yR h1
   rw [e]
   refine letters_ _ _ (qdp hall) (fun c hc => ?_) (by rw [List.length_map]; omega) r d sp p con k w hs
   obtain ⟨x, hx, rfl⟩ := List.mem_map.1 hc
   have h2 := (y9 (hall x hx)).2
   have h3 := hP.ltr g t hl h1 x hx
   rw [h2] at h3
   unfold vV at h3
   (repeat' split at h3) <;> omega
  generalize qJ l sp d = RES at *
  generalize qv g = K at *
  clear hP hall hs hl rd hg0 hgm
  obtain ⟨xx, wd, st⟩ := g
  dsimp only at *
  rcases h1 with rfl | rfl
  ·skip
   go_enter func71, ntmps71
   go_upto_region 1 with fail
   refine qc (fun wx => StBox wx r d sp p con k w.heap.size /\ Below w.heap.size w wx /\ w.heap.size + 1 <= wx.heap.size) ⟨StBox.new w r d sp p con k _, (Below.refl _ _).alloc (Nat.le_refl _) _, by simp⟩ ?_
   rintro wb ⟨hst, hb0, hz0⟩
   go_wp2
   go_loopw [5, 10] (fun v x wr => ∃ j : Nat, j <= n /\ x = .int .i64 j /\ v = .string (yh (l.take j)) /\ Below (w.heap.size + 1) wb wr) (fun _ x _ => n - (intOf x).toNat)
   case atStart => exact ⟨0, Nat.zero_le _, rfl, rfl, Below.refl _ _⟩
   case round =>
    obtain ⟨j, hj, rfl, rfl, hbel⟩ := hrel
    have hts := HTs.out j
    have hb1 := hb0.trans (hbel.mono (Nat.le_succ _))
    have zb := hbel.size
    by_cases hlt : j < n
    ·have hkl : j < l.length := by omega
     have hz := HSz.out j hkl
     have hTj := Lh (HT.out j hkl)
     obtain ⟨g0, g1, g2⟩ := qio.out j hkl wr hb1
     generalize hgj : l[j] = gj at *
     clear hgj
     obtain ⟨tt, wdd, stt⟩ := gj
     dsimp only at *
     generalize yh (l.take j) = Z at *
     go_upto_region 5 with fail
     refine qc (GlBox wr tt wdd stt) (GlBox.new wr tt wdd stt _) ?_
     rintro wc ⟨d0, _, _, hbc, hzc⟩
     go_wp2
     exact ⟨⟨j + 1, by omega, by go_num, by rw [hTj.out], hbel.trans (hbc.mono (by omega))⟩, by simp [intOf]; omega⟩
    ·obtain rfl : j = n := by omega
     rw [HTA.out]
     have hstr := hst.below hbel (Nat.lt_succ_self _)
     obtain ⟨q0, q1, q2⟩ := HC0.out wr hb1
     have zr : w.heap.size + 1 <= wr.heap.size := Nat.le_trans hz0 zb
     clear hst hbel qio HT HTs HSz HTA hb0 hz0
     go_wp2_with (first
      | (go_at_call 68; refine (HK.out _).mono ?_; rintro e w5 ⟨rfl, qib⟩; obtain ⟨u0, u1, u2, u3, u4, u5⟩ := hstr.below qib (by omega); have t5 := hb1.trans (qib.mono (by omega)))
      | (go_at_call 96; refine (HLet.out _ (HS.out.below t5 (Nat.le_refl _))).mono ?_; rintro e w6 ⟨A6, c6, rfl, hown6, qic⟩))
     go_ret
     exact ⟨A6, c6, rfl, qq hown6 t5.size, t5.trans (qic.mono t5.size)⟩
  ·skip
   go_enter func71, ntmps71
   go_upto_region 1 with fail
   refine qc (fun wx => StBox wx r d sp p con k w.heap.size /\ Below w.heap.size w wx /\ w.heap.size + 1 <= wx.heap.size) ⟨StBox.new w r d sp p con k _, (Below.refl _ _).alloc (Nat.le_refl _) _, by simp⟩ ?_
   rintro wb ⟨hst, hb0, hz0⟩
   go_wp2
   go_loopw [5, 10] (fun v x wr => ∃ j : Nat, j <= n /\ x = .int .i64 j /\ v = .string (yh (l.take j)) /\ Below (w.heap.size + 1) wb wr) (fun _ x _ => n - (intOf x).toNat)
   case atStart => exact ⟨0, Nat.zero_le _, rfl, rfl, Below.refl _ _⟩
   case round =>
    obtain ⟨j, hj, rfl, rfl, hbel⟩ := hrel
    have hts := HTs.out j
    have hb1 := hb0.trans (hbel.mono (Nat.le_succ _))
    have zb := hbel.size
    by_cases hlt : j < n
    ·have hkl : j < l.length := by omega
     have hz := HSz.out j hkl
     have hTj := Lh (HT.out j hkl)
     obtain ⟨g0, g1, g2⟩ := qio.out j hkl wr hb1
     generalize hgj : l[j] = gj at *
     clear hgj
     obtain ⟨tt, wdd, stt⟩ := gj
     dsimp only at *
     generalize yh (l.take j) = Z at *
     go_upto_region 5 with fail
     refine qc (GlBox wr tt wdd stt) (GlBox.new wr tt wdd stt _) ?_
     rintro wc ⟨d0, _, _, hbc, hzc⟩
     go_wp2
     exact ⟨⟨j + 1, by omega, by go_num, by rw [hTj.out], hbel.trans (hbc.mono (by omega))⟩, by simp [intOf]; omega⟩
    ·obtain rfl : j = n := by omega
     rw [HTA.out]
     have hstr := hst.below hbel (Nat.lt_succ_self _)
     obtain ⟨q0, q1, q2⟩ := HC0.out wr hb1
     have zr : w.heap.size + 1 <= wr.heap.size := Nat.le_trans hz0 zb
     clear hst hbel qio HT HTs HSz HTA hb0 hz0
     go_wp2_with (first
      | (go_at_call 68; refine (HK.out _).mono ?_; rintro e w5 ⟨rfl, qib⟩; obtain ⟨u0, u1, u2, u3, u4, u5⟩ := hstr.below qib (by omega); have t5 := hb1.trans (qib.mono (by omega)))
      | (go_at_call 96; refine (HLet.out _ (HS.out.below t5 (Nat.le_refl _))).mono ?_; rintro e w6 ⟨A6, c6, rfl, hown6, qic⟩))
     go_ret
     exact ⟨A6, c6, rfl, qq hown6 t5.size, t5.trans (qic.mono t5.size)⟩
 ·by_cases h3 : qv g = 3
  ·have hall3 : ∀ x ∈ l, qv x = 3 := hP.dig g t hl h3
   have hall : ∀ x ∈ l, qv x ≠ 0 := fun x hx => by have := hall3 x hx; omega
   have HLet : Hid (∀ w, Calls prog 97 #[.string (yh l), stV r d sp p con k] w (ql 9 1 id w (qJ l sp d).length (sv (qJ l sp d)))) := Lh fun w => by
    have e : qJ l sp d = jt (l.map jo) d := by rw [<- qak]; subst hl; exact yU h3
    rw [e]
    refine digits_ _ _ (qdp hall) (fun c hc => ?_) (by rw [List.length_map]; omega) (by rw [List.length_map]; omega) r d sp p con k w
    obtain ⟨x, hx, rfl⟩ := List.mem_map.1 hc
    have h2 := (y9 (hall x hx)).2
    have h4 := hall3 x hx
    rw [h2] at h4
    unfold vV at h4
    (repeat' split at h4) <;> omega
   generalize qJ l sp d = RES at *
   rw [h3] at HK
   clear hP hall hall3 hs hl rd hg0 hgm h1 h3 hk3
   obtain ⟨xx, wd, st⟩ := g
   dsimp only at *
   go_enter func71, ntmps71
   go_upto_region 1 with fail
   refine qc (fun wx => StBox wx r d sp p con k w.heap.size /\ Below w.heap.size w wx /\ w.heap.size + 1 <= wx.heap.size) ⟨StBox.new w r d sp p con k _, (Below.refl _ _).alloc (Nat.le_refl _) _, by simp⟩ ?_
   rintro wb ⟨hst, hb0, hz0⟩
   go_wp2
   go_loopw [5, 10] (fun v x wr => ∃ j : Nat, j <= n /\ x = .int .i64 j /\ v = .string (yh (l.take j)) /\ Below (w.heap.size + 1) wb wr) (fun _ x _ => n - (intOf x).toNat)
   case atStart => exact ⟨0, Nat.zero_le _, rfl, rfl, Below.refl _ _⟩
   case round =>
    obtain ⟨j, hj, rfl, rfl, hbel⟩ := hrel
    have hts := HTs.out j
    have hb1 := hb0.trans (hbel.mono (Nat.le_succ _))
    have zb := hbel.size
    by_cases hlt : j < n
    ·have hkl : j < l.length := by omega
     have hz := HSz.out j hkl
     have hTj := Lh (HT.out j hkl)
     obtain ⟨g0, g1, g2⟩ := qio.out j hkl wr hb1
     generalize hgj : l[j] = gj at *
     clear hgj
     obtain ⟨tt, wdd, stt⟩ := gj
     dsimp only at *
     generalize yh (l.take j) = Z at *
     go_upto_region 5 with fail
     refine qc (GlBox wr tt wdd stt) (GlBox.new wr tt wdd stt _) ?_
     rintro wc ⟨d0, _, _, hbc, hzc⟩
     go_wp2
     exact ⟨⟨j + 1, by omega, by go_num, by rw [hTj.out], hbel.trans (hbc.mono (by omega))⟩, by simp [intOf]; omega⟩
    ·obtain rfl : j = n := by omega
     rw [HTA.out]
     have hstr := hst.below hbel (Nat.lt_succ_self _)
     obtain ⟨q0, q1, q2⟩ := HC0.out wr hb1
     have zr : w.heap.size + 1 <= wr.heap.size := Nat.le_trans hz0 zb
     clear hst hbel qio HT HTs HSz HTA hb0 hz0
     go_wp2_with (first
      | (go_at_call 68; refine (HK.out _).mono ?_; rintro e w5 ⟨rfl, qib⟩; obtain ⟨u0, u1, u2, u3, u4, u5⟩ := hstr.below qib (by omega); have t5 := hb1.trans (qib.mono (by omega)))
      | (go_at_call 97; refine (HLet.out _).mono ?_; rintro e w6 ⟨A6, c6, rfl, hown6, qic⟩))
     go_ret
     exact ⟨A6, c6, rfl, qq hown6 t5.size, t5.trans (qic.mono t5.size)⟩
  ·have h0 : qv g = 0 := by omega
   have hv := hP.oth g t hl h0
   have HSi : Hid (∀ w, Sp w -> _) := Lh fun w hs => qgG g (by omega) hv w hs
   rw [h0] at HK
   have hcl := vv g.text
   have hsl := @kS g
   by_cases hn1' : n = 1
   ·have e : qJ l sp d = vH g := by
     subst hl
     have : t = [] := List.eq_nil_of_length_eq_zero (by simp at hln; omega)
     subst this
     exact yS h0
    rw [e]
    generalize vH g = RES at *
    clear hP hs hl rd hg0 hgm h1 h3 hk3 h0 hv e
    obtain ⟨xx, wd, st⟩ := g
    dsimp only at *
    have en : ((n : Int) == 1) = true := beq_iff_eq.2 (by omega)
    go_enter func71, ntmps71
    go_upto_region 1 with fail
    refine qc (fun wx => StBox wx r d sp p con k w.heap.size /\ Below w.heap.size w wx /\ w.heap.size + 1 <= wx.heap.size) ⟨StBox.new w r d sp p con k _, (Below.refl _ _).alloc (Nat.le_refl _) _, by simp⟩ ?_
    rintro wb ⟨hst, hb0, hz0⟩
    go_wp2
    go_loopw [5, 10] (fun v x wr => ∃ j : Nat, j <= n /\ x = .int .i64 j /\ v = .string (yh (l.take j)) /\ Below (w.heap.size + 1) wb wr) (fun _ x _ => n - (intOf x).toNat)
    case atStart => exact ⟨0, Nat.zero_le _, rfl, rfl, Below.refl _ _⟩
    case round =>
     obtain ⟨j, hj, rfl, rfl, hbel⟩ := hrel
     have hts := HTs.out j
     have hb1 := hb0.trans (hbel.mono (Nat.le_succ _))
     have zb := hbel.size
     by_cases hlt : j < n
     ·have hkl : j < l.length := by omega
      have hz := HSz.out j hkl
      have hTj := Lh (HT.out j hkl)
      obtain ⟨g0, g1, g2⟩ := qio.out j hkl wr hb1
      generalize hgj : l[j] = gj at *
      clear hgj
      obtain ⟨tt, wdd, stt⟩ := gj
      dsimp only at *
      generalize yh (l.take j) = Z at *
      go_upto_region 5 with fail
      refine qc (GlBox wr tt wdd stt) (GlBox.new wr tt wdd stt _) ?_
      rintro wc ⟨d0, _, _, hbc, hzc⟩
      go_wp2
      exact ⟨⟨j + 1, by omega, by go_num, by rw [hTj.out], hbel.trans (hbc.mono (by omega))⟩, by simp [intOf]; omega⟩
     ·obtain rfl : j = n := by omega
      rw [HTA.out]
      have hstr := hst.below hbel (Nat.lt_succ_self _)
      obtain ⟨q0, q1, q2⟩ := HC0.out wr hb1
      have zr : w.heap.size + 1 <= wr.heap.size := Nat.le_trans hz0 zb
      clear hst hbel qio HT HTs HSz HTA hb0 hz0
      go_wp2_with (first
       | (go_at_call 68; refine (HK.out _).mono ?_; rintro e w5 ⟨rfl, qib⟩; have t5 := hb1.trans (qib.mono (by omega)); obtain ⟨v0, v1, v2⟩ := HC0.out w5 t5)
       | (go_at_call 98; refine (HSi.out _ (HS.out.below t5 (Nat.le_refl _))).mono ?_; rintro e w6 ⟨A6, c6, rfl, hown6, qic⟩))
      go_ret
      exact ⟨A6, c6, rfl, qq hown6 t5.size, t5.trans (qic.mono t5.size)⟩
   ·exact qeq l g t hl hP h0 _ n c B r d sp p con k w hs hn1' rd hB
end Go.Proofs.YtlndbiamiioakaaGreatDoor
namespace Go.Proofs.YtlndbiamiioakaaGreatDoor
open Go.Proofs.Tryz Go.RowKit
def GOK (g : Gl) : Prop := zJ g.text = 0 /\ g.text.size <= 1000
theorem GOK.valid {g : Gl} (h : GOK g) : zP g.text = true := (vt.1 h.1).1
theorem kj : ∀ (l : List Gl) (k : Nat) (st : Int), ∀ x ∈ l.take (jT l k st), qv x = k /\ x.style = st
 | [], _, _, x, h => by simp at h
 | g :: t, k, st, x, h => by
  rw [qbc] at h
  split at h
  ·rename_i hc
   rw [List.take_succ_cons] at h
   rcases List.mem_cons.1 h with rfl | h
   ·exact hc
   ·exact kj t k st x h
  ·cases h
theorem qca {l : List Gl} {g : Gl} {t : List Gl} (hl : l = g :: t) (hn : l.length <= 1000) (hg : ∀ x ∈ l, GOK x) (rep : Int) : PieceOK (l.take (qt l rep)) := by
 have hpos := jv (g := g) (t := t) rep
 rw [<- hl] at hpos
 have htk : ∀ g' t', l.take (qt l rep) = g' :: t' -> g' = g := fun g' t' e => by
  obtain ⟨m, hm⟩ : ∃ m, qt l rep = m + 1 := ⟨qt l rep - 1, by omega⟩
  rw [hm, hl, List.take_succ_cons] at e
  injection e with e
  exact e.symm
 refine ⟨?_, fun x hx => (hg x (List.mem_of_mem_take hx)).2, fun g' t' e h => ?_, fun g' t' e h => ?_, fun g' t' e h => ?_⟩
 ·rw [List.length_take]; omega
 ·obtain rfl := htk g' t' e
  intro x hx
  rcases h with h | h
  ·rw [hl, qaF (.inl h), h] at hx
   exact .inl (kj _ _ _ x hx).1
  ·rw [hl, qb1 h] at hx
   split at hx
   ·exact .inr (kj _ _ _ x hx).1
   ·rw [Nat.add_comm, List.take_succ_cons] at hx
    rcases List.mem_cons.1 hx with rfl | hx
    ·exact .inr h
    ·exact .inl (kj _ _ _ x hx).1
 ·obtain rfl := htk g' t' e
  intro x hx
  rw [hl, qaF (.inr h), h] at hx
  exact (kj _ _ _ x hx).1
 ·obtain rfl := htk g' t' e
  exact (hg g' (by rw [hl]; simp)).valid
theorem qb9 {r : Nat} (h : q9 r) : zn (r : Int) = true := by
 unfold q9 at h
 rw [vO]
 unfold jy
 omega
theorem qhD {g : Gl} (h : GOK g) : vH g ≠ [] := by
 by_cases h1 : g.text.data.toList = [32]
 ·rw [kw h1]; simp
 ·rw [yV h1]
  obtain ⟨_, r, t, hL, _⟩ := vt.1 h.1
  have hch := jZ (qz g.text) r (by rw [hL]; simp)
  rw [hL]
  have e : vz (r :: t) = vk (r : Int) ++ vz t := by simp [vz]
  rw [e]
  intro h2
  have h3 := qhA (qb9 hch)
  have := (List.append_eq_nil_iff.1 h2).1
  rw [this] at h3
  simp at h3
theorem numW_ne (n : Nat) (hn : n <= 999999999) : jm n ≠ [] := by
 unfold jm
 intro h
 have h1 := List.map_eq_nil_iff.1 h
 have := qcz (n : Int)
 rw [h1] at this
 simp at this
 omega
theorem qde {l : List Gl} {g : Gl} {t : List Gl} (hl : l = g :: t) (hP : PieceOK l) (hg : GOK g) (sp d : Bool) : qJ l sp d ≠ [] := by
 subst hl
 have hk := yD g
 by_cases h1 : qv g = 1 ∨ qv g = 2
 ·rw [yR h1]
  unfold yG
  cases sp <;> simp
 ·by_cases h3 : qv g = 3
  ·rw [yU h3, qak]
   unfold jt
   split
   ·simp
   ·rename_i hc
    refine numW_ne _ ?_
    have hl9 : (List.map jo (g :: t)).length <= 9 := by
     rcases Nat.lt_or_ge 9 (List.map jo (g :: t)).length with h | h
     ·exact absurd (.inr (.inl h)) hc
     ·exact h
    have h1 := qgf (zi (List.map jo (g :: t))) (fun x hx => by
     unfold zi at hx
     obtain ⟨c, hc2, rfl⟩ := List.mem_map.1 hx
     obtain ⟨y, hy, rfl⟩ := List.mem_map.1 hc2
     have h4 := hP.dig g t rfl h3 y hy
     have h5 := (y9 (g := y) (by omega)).2
     rw [h5] at h4
     unfold vV at h4
     (repeat' split at h4) <;> omega)
    have h2 : (zi (List.map jo (g :: t))).length <= 9 := by unfold zi; rw [List.length_map]; exact hl9
    have h3 : 10 ^ (zi (List.map jo (g :: t))).length <= 10 ^ 9 := Nat.pow_le_pow_right (by omega) h2
    omega
  ·have h0 : qv g = 0 := by omega
   by_cases ht : t = []
   ·subst ht
    rw [yS h0]
    exact qhD hg
   ·rw [yx h0 ht]
    simp
theorem qdx (l : List Nat) : ∀ s ∈ l.map wb, s.size <= maxLen := by
 intro s hs
 simp at hs
 obtain ⟨i, _, rfl⟩ := hs
 exact qa2 i
theorem nb_size (i : Nat) : (nb i).size <= maxLen := by
 unfold nb maxLen
 split <;> decide
theorem qe1 (r : Int) : ∀ s ∈ vk r, s.size <= maxLen := by
 intro s hs
 unfold vk at hs
 split at hs
 ·simp at hs
  subst hs
  exact nb_size _
 ·split at hs
  ·rcases List.mem_cons.1 hs with rfl | hs
   ·unfold maxLen cB; decide
   ·exact qdx _ s hs
  ·cases hs
theorem qaL (g : Gl) : ∀ s ∈ vH g, s.size <= maxLen := by
 intro s hs
 by_cases h : g.text.data.toList = [32]
 ·rw [kw h, List.mem_singleton] at hs
  subst hs
  unfold maxLen jS; decide
 ·rw [yV h] at hs
  obtain ⟨r, _, hr⟩ := List.mem_flatMap.1 hs
  exact qe1 _ s hr
theorem kt {l : List Gl} {g : Gl} {t : List Gl} (hl : l = g :: t) (hP : PieceOK l) (sp d : Bool) : ∀ s ∈ qJ l sp d, s.size <= maxLen := by
 intro s hs
 have hn := hP.n
 subst hl
 have hk := yD g
 have hlow : ∀ T : List UInt8, T.length <= 1000 -> (⟨T.toArray⟩ : ByteArray).size <= maxLen := fun T hT => by
  show T.toArray.size <= maxLen
  rw [List.size_toArray]
  unfold maxLen
  omega
 by_cases h1 : qv g = 1 ∨ qv g = 2
 ·rw [yR h1] at hs
  unfold yG at hs
  rcases List.mem_append.1 hs with hs | hs
  ·(repeat' split at hs) <;> first | (cases hs; done) | (rw [List.mem_singleton] at hs; subst hs; unfold maxLen; decide)
  ·split at hs
   ·rcases List.mem_append.1 hs with hs | hs
    ·rcases List.mem_cons.1 hs with rfl | hs
     ·unfold maxLen zB; decide
     ·obtain ⟨c, _, rfl⟩ := List.mem_map.1 hs
      unfold maxLen
      show (1 : Nat) <= _
      omega
    ·rw [List.mem_singleton] at hs; subst hs; unfold maxLen ko; decide
   ·rcases List.mem_append.1 hs with hs | hs
    ·split at hs
     ·rw [List.mem_singleton] at hs; subst hs; unfold maxLen vw; decide
     ·cases hs
    ·rw [List.mem_singleton] at hs
     subst hs
     exact hlow _ (by unfold lowL; rw [List.length_map]; exact hn)
 ·by_cases h3 : qv g = 3
  ·rw [yU h3, qak] at hs
   unfold jt at hs
   split at hs
   ·rcases List.mem_cons.1 hs with rfl | hs
    ·unfold maxLen qI; decide
    ·obtain ⟨x, _, hx⟩ := List.mem_flatMap.1 hs
     exact qdx _ s hx
   ·exact qdx _ s hs
  ·have h0 : qv g = 0 := by omega
   by_cases ht : t = []
   ·subst ht
    rw [yS h0] at hs
    exact qaL g s hs
   ·rw [yx h0 ht] at hs
    rcases List.mem_append.1 hs with hs | hs
    ·rcases List.mem_append.1 hs with hs | hs
     ·exact qdx _ s hs
     ·rw [List.mem_singleton] at hs; subst hs; unfold maxLen bTimes; decide
    ·exact qaL g s hs
end Go.Proofs.YtlndbiamiioakaaGreatDoor
