/- Joined: Up5. -/
import Derived.Test.YtlndbiamiioakaaGreatDoorVBK
set_option linter.unusedVariables false
set_option linter.unusedSimpArgs false
set_option linter.unnecessarySimpa false
set_option maxHeartbeats 8000000
namespace Go.Proofs.YtlndbiamiioakaaGreatDoor
open Go.Proofs.Tryz Go.RowKit
set_option maxRecDepth 20000
theorem qaa (xs SW : List ByteArray) : (rwL xs SW 1).length = xs.length + 1 /\ (rwL xs SW 2).length = xs.length + 1 + SW.length /\ (rwL xs SW 3).length = xs.length + 1 + SW.length + 1 := by
 refine ⟨by simp [rwL], by simp [rwL]; omega, by simp [rwL]; omega⟩
theorem qe6 {w w9 : World} {R xs SW : List ByteArray} {A : Option Addr} {c : Nat} (h : R = xs ++ qK :: (SW ++ [jb])) (ho : w9.ownsRow (w.heap.size + 3) 9 1 (.slice A (xs.length + 1 + SW.length + 1) c) (xs.length + 1 + SW.length + 1) (sv (rwL xs SW 3))) (hb : Below w.heap.size w w9) :
  ql 9 1 id w R.length (sv R) (.returned (.slice A (xs.length + 1 + SW.length + 1) c)) w9 := by
 have e1 : R = rwL xs SW 3 := by rw [h]; simp [rwL]
 rw [e1, (qaa xs SW).2.2]
 exact ⟨A, c, rfl, qq ho (by omega), hb⟩
theorem qd3 (row col count til : Int) (g : List Gl) (Ag : Option Addr) (cap : Nat) (r : Int) (d sp : Bool) (p : Int) (con : Bool) (k : Int) (w : World) (B : Nat) (hr : 0 <= row /\ row <= 59 /\ 0 <= col /\ col <= 132 /\ 0 <= count /\ count <= 132) (hg : g.length <= 132) (hok : ∀ x ∈ g, GW x) (hcx : g.length <= cap) (hmx : cap <= maxLen) (rd : Rd w B 3 Ag g.length (qn g)) (hB : B <= w.heap.size) (hs : Sp w) (hu : U8 w) (hy : Sty w) :
  Calls prog 23 #[ku ⟨3, row, col, count, til, g⟩ Ag cap, stV r d sp p con k] w (ql 9 1 id w (zk ⟨3, row, col, count, til, g⟩ ⟨d, sp, p⟩).length (sv (zk ⟨3, row, col, count, til, g⟩ ⟨d, sp, p⟩))) := by
 have e1 : IntKind.i64.wrap (row + 1) = row + 1 := by rw [IntKind.wrap_i64]; omega
 have e2 : IntKind.i64.wrap (col + 1) = col + 1 := by rw [IntKind.wrap_i64]; omega
 have hmf : prog.follows .mixedOrders = true := by kernel_rfl
 have HWd : Hid (∀ X', Below w.heap.size w X' -> Calls prog 38 #[.slice Ag g.length cap, stV r d sp p con k] X' (ql 9 1 id X' (vq g ⟨d, sp, p⟩).length (sv (vq g ⟨d, sp, p⟩)))) := Lh fun X' hX' =>
  words_ g Ag _ cap B r d sp p con k X' (hs.below hX' (Nat.le_refl _)) (hu.below hX') (hy.below hX' (Nat.le_refl _)) (by omega) hcx hmx hok (rd.below (hX'.mono hB)) (Nat.le_trans hB hX'.size)
 have HLn : Hid ((vq g ⟨d, sp, p⟩).length <= 50000000) := Lh (ju _ (Nat.le_refl _) (WoI.start ⟨d, sp, p⟩ g (by omega) hok)).1
 obtain ⟨G, hG⟩ : ∃ x, Hid (x = if g = [] then [] else qK :: (vq g ⟨d, sp, p⟩ ++ [jb])) := ⟨_, Lh rfl⟩
 obtain ⟨R, hR⟩ : ∃ x, Hid (x = qu :: (zI (row + 1) ++ qB :: (zI (col + 1) ++ ((if 0 < count then qW :: zI count else []) ++ G)))) := ⟨_, Lh rfl⟩
 rw [show zk ⟨3, row, col, count, til, g⟩ ⟨d, sp, p⟩ = R by rw [hR.out, hG.out]; rfl]
 generalize vq g ⟨d, sp, p⟩ = SW at *
 clear hok hcx hmx rd hB hs hu hy
 have hX := PhS.start w ⟨3, row, col, count, til, g⟩ Ag cap r d sp p con k
 obtain ⟨xs, hxs⟩ : ∃ x : List ByteArray, x = [] := ⟨_, rfl⟩
 rw [<- hxs] at hX
 have HR : Hid (R = xs ++ qu :: (zI (row + 1) ++ qB :: (zI (col + 1) ++ ((if 0 < count then qW :: zI count else []) ++ G)))) := Lh (by rw [hR.out, hxs]; rfl)
 have hl : xs.length <= 0 := by rw [hxs]; exact Nat.le_refl _
 clear hR hxs
 go_enter func23, ntmps23
 go_upto_region 15 with fail
 refine qc (PhS w ⟨3, row, col, count, til, g⟩ Ag cap r d sp p con k xs) hX ?_
 clear hX
 intro X hX
 obtain ⟨Ao, co, P0, P1, P2, po, pb⟩ := id hX
 obtain ⟨-, c1, c2, c3, c4, c5, -⟩ := qr P0
 dsimp only at c1 c2 c3 c4 c5
 have d0 := P2.cell 0
 have zX := P2.lt
 simp only [La, Lb] at d0
 have HS := Lh (qaV (row + 1) (by omega) (by omega) qu hX (by omega))
 obtain ⟨ys, hys⟩ : ∃ y, y = xs ++ qu :: zI (row + 1) := ⟨_, rfl⟩
 rw [<- hys] at HS
 have HRn := yv HR hys
 have hln := yE hl hys (by simp only [List.length_cons]; have := vo (row + 1); omega)
 go_upto_region 16 with (go_at_call 37; refine HS.out.mono ?_; rintro e w1 ⟨rfl, hY⟩)
 refine qc (PhS w ⟨3, row, col, count, til, g⟩ Ag cap r d sp p con k ys) hY ?_
 clear c1 c2 c3 c4 c5 d0 P0 P1 P2 po pb zX
 clear hX hY HS HR hl hys
 clear xs
 obtain ⟨xs, rfl⟩ : ∃ x, x = ys := ⟨_, rfl⟩
 have HR := HRn
 have hl := hln
 clear HRn hln
 intro X hX
 obtain ⟨Ao, co, P0, P1, P2, po, pb⟩ := id hX
 obtain ⟨-, c1, c2, c3, c4, c5, -⟩ := qr P0
 dsimp only at c1 c2 c3 c4 c5
 have d0 := P2.cell 0
 have zX := P2.lt
 simp only [La, Lb] at d0
 have HS := Lh (qaV (col + 1) (by omega) (by omega) qB hX (by omega))
 obtain ⟨ys, hys⟩ : ∃ y, y = xs ++ qB :: zI (col + 1) := ⟨_, rfl⟩
 rw [<- hys] at HS
 have HRn := yv HR hys
 have hln := yE hl hys (by simp only [List.length_cons]; have := vo (col + 1); omega)
 go_upto_region 17 with (go_at_call 37; refine HS.out.mono ?_; rintro e w1 ⟨rfl, hY⟩)
 refine qc (PhS w ⟨3, row, col, count, til, g⟩ Ag cap r d sp p con k ys) hY ?_
 clear c1 c2 c3 c4 c5 d0 P0 P1 P2 po pb zX
 clear hX hY HS HR hl hys
 clear xs
 obtain ⟨xs, rfl⟩ : ∃ x, x = ys := ⟨_, rfl⟩
 have HR := HRn
 have hl := hln
 clear HRn hln
 intro X hX
 obtain ⟨Ao, co, P0, P1, P2, po, pb⟩ := id hX
 obtain ⟨-, c1, c2, c3, c4, c5, -⟩ := qr P0
 dsimp only at c1 c2 c3 c4 c5
 have d0 := P2.cell 0
 have zX := P2.lt
 simp only [La, Lb] at d0
 go_upto_if 68 with fail
 clear c1 c2 c3 c4 c5 d0 P0 P1 P2 po pb zX
 go_cut [] (fun wx => ∃ xs, Hid (R = xs ++ G) /\ xs.length <= 100 /\ PhS w ⟨3, row, col, count, til, g⟩ Ag cap r d sp p con k xs wx)
 case first =>
  by_cases hc : 0 < count
  ·rw [if_pos hc] at HR
   obtain ⟨Ao, co, P0, P1, P2, po, pb⟩ := id hX
   obtain ⟨-, c1, c2, c3, c4, c5, -⟩ := qr P0
   dsimp only at c1 c2 c3 c4 c5
   have d0 := P2.cell 0
   have zX := P2.lt
   simp only [La, Lb] at d0
   have HS := Lh (qaV count (by omega) (by omega) qW hX (by omega))
   obtain ⟨ys, hys⟩ : ∃ y, y = xs ++ qW :: zI count := ⟨_, rfl⟩
   rw [<- hys] at HS
   have HRn := yv HR hys
   have hln := yE hl hys (by simp only [List.length_cons]; have := vo count; omega)
   go_wp2_with (go_at_call 37; refine HS.out.mono ?_; rintro e w1 ⟨rfl, hY⟩)
   go_meet
   exact ⟨ys, HRn, by omega, hY⟩
  ·rw [if_neg hc] at HR
   go_wp2
   go_meet
   exact ⟨xs, HR, by omega, hX⟩
 case rest =>
  clear hX HR hl
  obtain ⟨xs, HR, hl, hX⟩ := hcut
  generalize hXw : wc = X at *
  clear hXw
  by_cases hg0 : g = []
  ·subst hg0
   have HR' : Hid (R = xs ++ []) := Lh (by rw [HR.out, hG.out]; rfl)
   clear HR hG HWd HLn
   have HR := HR'
   obtain ⟨Ao, co, P0, P1, P2, po, pb⟩ := id hX
   obtain ⟨-, c1, c2, c3, c4, c5, -⟩ := qr P0
   dsimp only at c1 c2 c3 c4 c5
   have d0 := P2.cell 0
   have zX := P2.lt
   simp only [La, Lb] at d0
   go_wp2
   go_ret
   exact qcq HR.out po pb
  ·have HR' : Hid (R = xs ++ qK :: (SW ++ [jb])) := Lh (by rw [HR.out, hG.out, if_neg hg0])
   have hgl : 0 < g.length := List.length_pos_iff.2 hg0
   have hgi : (0 : Int) < (g.length : Int) := by omega
   clear HR hG hg0
   obtain ⟨Ao, co, P0, P1, P2, po, pb⟩ := id hX
   obtain ⟨-, c1, c2, c3, c4, c5, -⟩ := qr P0
   dsimp only at c1 c2 c3 c4 c5
   have d0 := P2.cell 0
   have zX := P2.lt
   simp only [La, Lb] at d0
   go_upto_region 20 with fail
   clear c1 c2 c3 c4 c5 d0 P0 P1 P2 po pb zX
   obtain ⟨Ao, co, P0, P1, P2, po, pb⟩ := id hX
   obtain ⟨-, c1, c2, c3, c4, c5, -⟩ := qr P0
   dsimp only at c1 c2 c3 c4 c5
   have d0 := P2.cell 0
   have zX := P2.lt
   simp only [La, Lb] at d0
   have zX3 : w.heap.size + 3 <= X.heap.size := by omega
   have HCS : Hid (∀ X', Below (w.heap.size + 3) X X' -> X'.cell? ⟨w.heap.size, 5, none⟩ = some (.slice Ag g.length cap) /\ StBox X' r d sp p con k (w.heap.size + 1) /\ Blk X' (w.heap.size + 2) 22 #[.slice Ao xs.length co]) := Lh fun X' h => by
    have Q1 := P1.below h (by omega)
    exact ⟨(h.cell (by show w.heap.size < _; omega)).trans c5, ⟨Q1.cell 0, Q1.cell 1, Q1.cell 2, Q1.cell 3, Q1.cell 4, Q1.cell 5⟩, P2.below h (by omega)⟩
   have HSW := HLn.out
   refine qbC (G := Nat × Value) (V := rgV w.heap.size X.heap.size (.slice Ao xs.length co) Ag g.length cap (stV r d sp p con k) SW) (C := rgC) (W := rgW X w.heap.size (.slice Ao xs.length co) xs SW) hmf (by kernel_rfl) (0, .slice Ao xs.length co) ?_ ?_ ?_ ?_
   ·exact ⟨⟨rfl, rfl, rfl, rfl, rfl⟩, fun h => absurd h (Nat.not_succ_le_zero _), fun h => absurd h (Nat.not_succ_le_zero _), fun h => absurd h (Nat.not_succ_le_zero _), fun h => absurd (show false = true from h) (by decide)⟩
   ·exact ⟨⟨_, _, rfl⟩, qa po (Below.refl _ _).drew, fun _ => rfl, Nat.zero_le _, Nat.le_refl _, fun _ => (Below.refl _ _).drew, fun h => absurd h (by simp)⟩
   ·refine ⟨?_, ?_, ?_, ?_, ?_, ?_, ?_, ?_, ?_, ?_, ?_, trivial⟩
    ·intro s L a' w' hC hW hLs hLi qis hsz hfr hV; refine ⟨rfl, ?_⟩
     have h3 : s.1 <= 3 := by
      rcases Nat.lt_or_ge s.1 1 with h | h
      ·omega
      ·have := (hC.2.1 h).1; rw [hLi] at this; cases this
     have hc := (HCS.out w' (hW.2.2.2.2.2.1 h3)).2.2.cell 0
     exact qaJ (qcd rfl (hfr 5 (by kernel_rfl)) (load_ws (g := w.heap.size + 2) hc)) ⟨_, s, rfl, (hC.other (by decide) (by decide) (by decide) (by decide) (by intro h; first | exact absurd h (by decide) | exact ⟨(qis { on := 4, ground := Ground.data } (by simp) rfl), (qis { on := 5, ground := Ground.data } (by simp) rfl)⟩)), hW, rfl, fun j u _ _ h => h⟩
    ·intro s L a' w' hC hW hLs hLi qis hsz hfr hV; refine ⟨rfl, ?_⟩
     have hbb : Below w'.heap.size w' (w'.alloc (.cells #[.string qK] 9)) := (Below.refl _ _).alloc (Nat.le_refl _) _
     refine qcT (qb7 rfl rfl) ⟨_, s, rfl, (hC.other (by decide) (by decide) (by decide) (by decide) (by intro h; first | exact absurd h (by decide) | exact ⟨(qis { on := 4, ground := Ground.data } (by simp) rfl), (qis { on := 5, ground := Ground.data } (by simp) rfl)⟩)), hW.on zX3 hbb, fun _ => ⟨_, rfl, Blk.new w' _ _, hW.2.2.2.2.1, ne_low hW.2.1 (Nat.le_refl _)⟩, fun j u _ _ h => h.on hbb⟩
    ·intro s L a' w' hC hW hLs hLi qis hsz hfr hV; refine ⟨rfl, ?_⟩
     obtain ⟨n, rho⟩ := s
     obtain ⟨⟨A0, c0, hA0⟩, ho, hr0, h4, hsz5, hb3, hb4⟩ := hW
     have h0 : n = 0 := by
      have := hC.1.2.1
      rw [hLi] at this
      have := of_decide_eq_false this.symm
      simp only at this
      omega
     subst h0
     obtain rfl : rho = _ := hr0 rfl
     obtain ⟨b, hbv, hbk, hbl, hbn⟩ := (hV { on := 1, ground := Ground.data } (by simp) rfl _ _ rfl rfl) rfl
     have hv0 : a'.tmps.getD 78 undef = .slice Ao xs.length co := (hV { on := 0, ground := Ground.data } (by simp) rfl _ _ rfl rfl)
     refine qbX (.tmp 78) (.tmp 79) 22 rfl qx (w.heap.size + 3) (sv xs) hv0 ho _ [.string qK] hbv (rd_blk hbk) rfl (by omega) (by omega) (by omega) ?_
     intro A1 c1 w1 hown1 qh7 hgr1 hat1
     have el := qaa xs SW
     refine ⟨_, (1, .slice A1 (xs.length + 1) c1), rfl, hC.step (yf (by rw [hC.1.1]; decide)) (by rw [qX (by decide)]; exact hC.1.2.2.1) (by rw [qX (by decide)]; exact hC.1.2.2.2.1) (by rw [qX (by decide)]; exact hC.1.2.2.2.2) (fun _ => .inr ⟨(qis { on := 0, ground := Ground.data } (by simp) rfl), (qis { on := 1, ground := Ground.data } (by simp) rfl)⟩) (fun h => absurd h (by simp)) (fun h => absurd h (by simp)) (fun h => absurd h (by decide)), ⟨⟨A1, c1, by rw [el.1]⟩, ?_, fun h => absurd h (by simp), by simp, Nat.le_trans hsz5 qh7.size, fun _ => (hb3 (by simp)).trans qh7, fun h => absurd h (by simp)⟩, fun _ => rfl, ?_⟩
     ·show w1.ownsRow (w.heap.size + 3) 9 1 (.slice A1 (xs.length + 1) c1) (rwL xs SW 1).length (sv (rwL xs SW 1))
      rw [el.1, show sv (rwL xs SW 1) = sv xs ++ [.string qK] by simp [rwL, sv]]
      exact hown1
     ·intro j u hj hl hv
      match j with
      | 0 => exact hv
      | 1 => exact fun h => absurd h (by simp)
      | 2 => exact absurd rfl hj
      | 3 => exact hv
      | 4 => exact hv
      | 5 => exact hv
      | 6 => exact fun _ => (hv (by simp)).app hgr1 hat1
      | 7 => exact fun h => absurd h (by simp)
      | 8 => exact fun _ => (hv (by simp)).app hgr1 hat1
      | 9 => exact fun h => absurd h (by simp)
      | _ + 10 => exact trivial
    ·intro s L a' w' hC hW hLs hLi qis hsz hfr hV; refine ⟨rfl, ?_⟩
     exact qaJ (run_fa5 rfl (hfr 2 (by kernel_rfl))) ⟨_, s, rfl, (hC.other (by decide) (by decide) (by decide) (by decide) (by intro h; first | exact absurd h (by decide) | exact ⟨(qis { on := 4, ground := Ground.data } (by simp) rfl), (qis { on := 5, ground := Ground.data } (by simp) rfl)⟩)), hW, rfl, fun j u _ _ h => h⟩
    ·intro s L a' w' hC hW hLs hLi qis hsz hfr hV; refine ⟨rfl, ?_⟩
     have h3 : s.1 <= 3 := by
      rcases Nat.lt_or_ge s.1 2 with h | h
      ·omega
      ·have := (hC.2.2.2.2 (hC.2.2.1 h)).1; rw [hLi] at this; cases this
     exact qaJ (qcd rfl (hV { on := 3, ground := Ground.data } (by simp) rfl _ _ rfl rfl) (load_gs (HCS.out w' (hW.2.2.2.2.2.1 h3)).1)) ⟨_, s, rfl, (hC.other (by decide) (by decide) (by decide) (by decide) (by intro h; first | exact absurd h (by decide) | exact ⟨(qis { on := 4, ground := Ground.data } (by simp) rfl), (qis { on := 5, ground := Ground.data } (by simp) rfl)⟩)), hW, rfl, fun j u _ _ h => h⟩
    ·intro s L a' w' hC hW hLs hLi qis hsz hfr hV; refine ⟨rfl, ?_⟩
     have h3 : s.1 <= 3 := by
      rcases Nat.lt_or_ge s.1 2 with h | h
      ·omega
      ·have := (hC.2.2.2.2 (hC.2.2.1 h)).2; rw [hLi] at this; cases this
     exact qaJ (qcd rfl (hfr 3 (by kernel_rfl)) (qfe (HCS.out w' (hW.2.2.2.2.2.1 h3)).2.1)) ⟨_, s, rfl, (hC.other (by decide) (by decide) (by decide) (by decide) (by intro h; first | exact absurd h (by decide) | exact ⟨(qis { on := 4, ground := Ground.data } (by simp) rfl), (qis { on := 5, ground := Ground.data } (by simp) rfl)⟩)), hW, rfl, fun j u _ _ h => h⟩
    ·intro s L a' w' hC hW hLs hLi qis hsz hfr hV; refine ⟨rfl, ?_⟩
     have h1 : s.1 <= 1 := by
      rcases Nat.lt_or_ge s.1 2 with h | h
      ·omega
      ·have := hC.2.2.1 h; rw [hLi] at this; cases this
     have hb3 := hW.2.2.2.2.2.1 (by omega)
     refine qhh (args := #[.slice Ag g.length cap, stV r d sp p con k]) rfl rfl (by simp [Act.eval, (show a'.tmps.getD 82 undef = _ from (hV { on := 4, ground := Ground.data } (by simp) rfl _ _ rfl rfl)), (show a'.tmps.getD 83 undef = _ from (hV { on := 5, ground := Ground.data } (by simp) rfl _ _ rfl rfl))]) func38 (by kernel_rfl) rfl ((HWd.out w' (pb.trans (hb3.mono (by omega)))).mono ?_)
     rintro e w7 ⟨A7, c7, rfl, ho7, hb7⟩
     refine ⟨_, rfl, _, s, rfl, (hC.other (by decide) (by decide) (by decide) (by decide) (by intro h; first | exact absurd h (by decide) | exact ⟨(qis { on := 4, ground := Ground.data } (by simp) rfl), (qis { on := 5, ground := Ground.data } (by simp) rfl)⟩)), hW.on zX3 hb7, fun _ => ⟨A7, c7, rfl, qq ho7 hW.2.2.2.2.1, ?_⟩, fun j u _ _ h => h.on hb7⟩
     rcases hk : Value.ownBlock (.slice A7 SW.length c7) with _ | k7
     ·exact .inl (by simpa using hk)
     ·right
      intro h'
      have h1 := (ho7.lt _ hk).1
      have h2 := (hW.2.1.lt k7 (h'.symm.trans (by simpa using hk))).2
      omega
    ·intro s L a' w' hC hW hLs hLi qis hsz hfr hV; refine ⟨rfl, ?_⟩
     obtain ⟨n, rho⟩ := s
     obtain ⟨⟨A0, c0, hA0⟩, ho, hr0, h4, hsz5, hb3, hb4⟩ := hW
     have h0 : n = 1 := by
      have h1 := hC.1.2.2.1
      rw [hLi] at h1
      have h1 := of_decide_eq_false h1.symm
      have h2 := hC.1.2.1
      rw [(qis { on := 2, ground := Ground.data } (by simp) rfl)] at h2
      have h2 := of_decide_eq_true h2.symm
      simp only at h1 h2
      omega
     subst h0
     have hv0 : a'.tmps.getD 80 undef = rho := (hV { on := 2, ground := Ground.data } (by simp) rfl _ _ rfl rfl) rfl
     obtain ⟨A7, c7, hv7, ho7, hn7⟩ := (hV { on := 6, ground := Ground.data } (by simp) rfl _ _ rfl rfl) (Nat.le_refl _)
     have el := qaa xs SW
     simp only at hA0 ho
     subst hA0
     rw [el.1] at ho hv0
     rw [hv7] at ho7
     refine qbX (.tmp 80) (.tmp 84) 22 rfl qx (w.heap.size + 3) (sv (rwL xs SW 1)) hv0 ho _ (sv SW) hv7 (Rd.of_own ho7) (qN _) (by omega) (by omega) (by omega) ?_
     intro A1 c1 w1 hown1 qh7 hgr1 hat1
     refine ⟨_, (2, .slice A1 (xs.length + 1 + SW.length) c1), rfl, hC.step (by rw [qX (by decide)]; exact hC.1.2.1) (yf (by rw [hC.1.1]; decide)) (by rw [qX (by decide)]; exact hC.1.2.2.2.1) (by rw [qX (by decide)]; exact hC.1.2.2.2.2) (fun _ => .inl (Nat.le_refl _)) (fun _ => .inr (qis { on := 6, ground := Ground.data } (by simp) rfl)) (fun h => absurd h (by simp)) (fun h => absurd h (by decide)), ⟨⟨A1, c1, by rw [el.2.1]⟩, ?_, fun h => absurd h (by simp), by simp, Nat.le_trans hsz5 qh7.size, fun _ => (hb3 (by simp)).trans qh7, fun h => absurd h (by simp)⟩, fun _ => rfl, ?_⟩
     ·show w1.ownsRow (w.heap.size + 3) 9 1 (.slice A1 (xs.length + 1 + SW.length) c1) (rwL xs SW 2).length (sv (rwL xs SW 2))
      rw [el.2.1, show sv (rwL xs SW 2) = sv (rwL xs SW 1) ++ sv SW by simp [rwL, sv]]
      exact hown1
     ·intro j u hj hl hv
      match j with
      | 0 => exact hv
      | 1 => exact fun h => absurd h (by simp)
      | 2 => exact fun h => absurd h (by simp)
      | 3 => exact hv
      | 4 => exact hv
      | 5 => exact hv
      | 6 => exact fun h => absurd h (by simp)
      | 7 => exact absurd rfl hj
      | 8 => exact fun _ => (hv (by simp)).app (by rw [el.1]; exact hgr1) (by rw [el.1]; exact hat1)
      | 9 => exact fun h => absurd h (by simp)
      | _ + 10 => exact trivial
    ·intro s L a' w' hC hW hLs hLi qis hsz hfr hV; refine ⟨rfl, ?_⟩
     have hbb : Below w'.heap.size w' (w'.alloc (.cells #[.string jb] 9)) := (Below.refl _ _).alloc (Nat.le_refl _) _
     refine qcT (qb7 rfl rfl) ⟨_, s, rfl, (hC.other (by decide) (by decide) (by decide) (by decide) (by intro h; first | exact absurd h (by decide) | exact ⟨(qis { on := 4, ground := Ground.data } (by simp) rfl), (qis { on := 5, ground := Ground.data } (by simp) rfl)⟩)), hW.on zX3 hbb, fun _ => ⟨_, rfl, Blk.new w' _ _, hW.2.2.2.2.1, ne_low hW.2.1 (Nat.le_refl _)⟩, fun j u _ _ h => h.on hbb⟩
    ·intro s L a' w' hC hW hLs hLi qis hsz hfr hV; refine ⟨rfl, ?_⟩
     obtain ⟨n, rho⟩ := s
     obtain ⟨⟨A0, c0, hA0⟩, ho, hr0, h4, hsz5, hb3, hb4⟩ := hW
     have h0 : n = 2 := by
      have h1 := hC.1.2.2.2.1
      rw [hLi] at h1
      have h1 := of_decide_eq_false h1.symm
      have h2 := hC.1.2.2.1
      rw [(qis { on := 7, ground := Ground.data } (by simp) rfl)] at h2
      have h2 := of_decide_eq_true h2.symm
      simp only at h1 h2
      omega
     subst h0
     have hv0 : a'.tmps.getD 85 undef = rho := (hV { on := 7, ground := Ground.data } (by simp) rfl _ _ rfl rfl) rfl
     obtain ⟨b, hbv, hbk, hbl, hbn⟩ := (hV { on := 8, ground := Ground.data } (by simp) rfl _ _ rfl rfl) (Nat.le_refl _)
     have el := qaa xs SW
     simp only at hA0 ho
     subst hA0
     rw [el.2.1] at ho hv0
     refine qbX (.tmp 85) (.tmp 86) 22 rfl qx (w.heap.size + 3) (sv (rwL xs SW 2)) hv0 ho _ [.string jb] hbv (rd_blk hbk) rfl (by omega) (by omega) (by omega) ?_
     intro A1 c1 w1 hown1 qh7 hgr1 hat1
     refine ⟨_, (3, .slice A1 (xs.length + 1 + SW.length + 1) c1), rfl, hC.step (by rw [qX (by decide)]; exact hC.1.2.1) (by rw [qX (by decide)]; exact hC.1.2.2.1) (yf (by rw [hC.1.1]; decide)) (by rw [qX (by decide)]; exact hC.1.2.2.2.2) (fun _ => .inl (by simp)) (fun _ => .inl (Nat.le_refl _)) (fun _ => .inr (qis { on := 8, ground := Ground.data } (by simp) rfl)) (fun h => absurd h (by decide)), ⟨⟨A1, c1, by rw [el.2.2]⟩, ?_, fun h => absurd h (by simp), by simp, Nat.le_trans hsz5 qh7.size, fun _ => (hb3 (by simp)).trans qh7, fun h => absurd h (by simp)⟩, fun _ => rfl, ?_⟩
     ·show w1.ownsRow (w.heap.size + 3) 9 1 (.slice A1 (xs.length + 1 + SW.length + 1) c1) (rwL xs SW 3).length (sv (rwL xs SW 3))
      rw [el.2.2, show sv (rwL xs SW 3) = sv (rwL xs SW 2) ++ [.string jb] by simp [rwL, sv]]
      exact hown1
     ·intro j u hj hl hv
      match j with
      | 0 => exact hv
      | 1 => exact fun h => absurd h (by simp)
      | 2 => exact fun h => absurd h (by simp)
      | 3 => exact hv
      | 4 => exact hv
      | 5 => exact hv
      | 6 => exact fun h => absurd h (by simp)
      | 7 => exact fun h => absurd h (by simp)
      | 8 => exact fun h => absurd h (by simp)
      | 9 => exact absurd rfl hj
      | _ + 10 => exact trivial
    ·intro s L a' w' hC hW hLs hLi qis hsz hfr hV; refine ⟨rfl, ?_⟩
     obtain ⟨n, rho⟩ := s
     obtain ⟨⟨A0, c0, hA0⟩, ho, hr0, h4, hsz5, hb3, hb4⟩ := hW
     have h0 : n = 3 := by
      have h1 := hC.1.2.2.2.2
      rw [hLi] at h1
      have h1 := of_decide_eq_false h1.symm
      have h2 := hC.1.2.2.2.1
      rw [(qis { on := 9, ground := Ground.data } (by simp) rfl)] at h2
      have h2 := of_decide_eq_true h2.symm
      simp only at h1 h2
      omega
     subst h0
     have hv0 : a'.tmps.getD 87 undef = rho := (hV { on := 9, ground := Ground.data } (by simp) rfl _ _ rfl rfl) rfl
     have el := qaa xs SW
     simp only at hA0 ho
     have hb := hb3 (Nat.le_refl _)
     have Q := (HCS.out w' hb).2.2
     rw [hA0] at hv0
     refine qh6 (qdv (g := w.heap.size + 2) rfl (hfr 5 (by kernel_rfl)) hv0 (Q.cell 0) (Q.frozen 0)) ⟨_, (4, rho), rfl, hC.step (by rw [qX (by decide)]; exact hC.1.2.1) (by rw [qX (by decide)]; exact hC.1.2.2.1) (by rw [qX (by decide)]; exact hC.1.2.2.2.1) (yf (by rw [hC.1.1]; decide)) (fun _ => .inl (by simp)) (fun _ => .inl (by simp)) (fun _ => .inl (Nat.le_refl _)) (fun h => absurd h (by decide)), ⟨⟨A0, c0, hA0⟩, qs ho (by show w.heap.size + 2 < _; omega) _, fun h => absurd h (by simp), Nat.le_refl _, by simpa using hsz5, fun h => absurd h (by simp), fun _ => ⟨(hb.mono (by omega)).setCell (by show w.heap.size + 2 <= w.heap.size + 2; omega) _, ?_⟩⟩, trivial, ?_⟩
     ·have := Q.set_ 0 (.slice A0 (rwL xs SW 3).length c0)
      rw [hA0]
      simpa using this
     ·intro j u hj hl hv
      match j with
      | 0 => exact hv
      | 1 => exact fun h => absurd h (by simp)
      | 2 => exact fun h => absurd h (by simp)
      | 3 => exact hv
      | 4 => exact hv
      | 5 => exact hv
      | 6 => exact fun h => absurd h (by simp)
      | 7 => exact fun h => absurd h (by simp)
      | 8 => exact fun h => absurd h (by simp)
      | 9 => exact fun h => absurd h (by simp)
      | _ + 10 => exact trivial
   ·rintro ⟨n, rho⟩ L ⟨⟨tl⟩, df⟩ wx hC hLs hall hW hsz hdf hfr hV
    obtain ⟨⟨A0, c0, hA0⟩, ho, hr0, h4, hsz5, hb3, hb4⟩ := hW
    have hn : n = 4 := by
     have h1 := qhc (hall 10 (by decide)) (by rw [hC.1.1]; decide)
     have h2 := hC.1.2.2.2.2
     rw [h1] at h2
     have h2 := of_decide_eq_true h2.symm
     simp only at h2 h4
     omega
    subst hn
    obtain ⟨hb, hk⟩ := hb4 rfl
    have el := qaa xs SW
    have hl : tl.length = 112 := hsz
    have q5 : tl.toArray.getD 5 undef = .pointer (some ⟨w.heap.size + 2, 0, none⟩) := hfr 5 (by kernel_rfl)
    have qd : df = [] := hdf
    clear hfr hV hdf hall hC
    obtain ⟨u0, tl_1, e_1, hl_1⟩ := qf hl; subst e_1; clear hl; obtain ⟨u1, tl_2, e_2, hl_2⟩ := qf hl_1; subst e_2; clear hl_1; obtain ⟨u2, tl_3, e_3, hl_3⟩ := qf hl_2; subst e_3; clear hl_2; obtain ⟨u3, tl_4, e_4, hl_4⟩ := qf hl_3; subst e_4; clear hl_3; obtain ⟨u4, tl_5, e_5, hl_5⟩ := qf hl_4; subst e_5; clear hl_4; obtain ⟨u5, tl_6, e_6, hl_6⟩ := qf hl_5; subst e_6; clear hl_5; obtain ⟨u6, tl_7, e_7, hl_7⟩ := qf hl_6; subst e_7; clear hl_6; obtain ⟨u7, tl_8, e_8, hl_8⟩ := qf hl_7; subst e_8; clear hl_7; obtain ⟨u8, tl_9, e_9, hl_9⟩ := qf hl_8; subst e_9; clear hl_8; obtain ⟨u9, tl_10, e_10, hl_10⟩ := qf hl_9; subst e_10; clear hl_9; obtain ⟨u10, tl_11, e_11, hl_11⟩ := qf hl_10; subst e_11; clear hl_10; obtain ⟨u11, tl_12, e_12, hl_12⟩ := qf hl_11; subst e_12; clear hl_11; obtain ⟨u12, tl_13, e_13, hl_13⟩ := qf hl_12; subst e_13; clear hl_12; obtain ⟨u13, tl_14, e_14, hl_14⟩ := qf hl_13; subst e_14; clear hl_13; obtain ⟨u14, tl_15, e_15, hl_15⟩ := qf hl_14; subst e_15; clear hl_14; obtain ⟨u15, tl_16, e_16, hl_16⟩ := qf hl_15; subst e_16; clear hl_15; obtain ⟨u16, tl_17, e_17, hl_17⟩ := qf hl_16; subst e_17; clear hl_16; obtain ⟨u17, tl_18, e_18, hl_18⟩ := qf hl_17; subst e_18; clear hl_17; obtain ⟨u18, tl_19, e_19, hl_19⟩ := qf hl_18; subst e_19; clear hl_18; obtain ⟨u19, tl_20, e_20, hl_20⟩ := qf hl_19; subst e_20; clear hl_19; obtain ⟨u20, tl_21, e_21, hl_21⟩ := qf hl_20; subst e_21; clear hl_20; obtain ⟨u21, tl_22, e_22, hl_22⟩ := qf hl_21; subst e_22; clear hl_21; obtain ⟨u22, tl_23, e_23, hl_23⟩ := qf hl_22; subst e_23; clear hl_22; obtain ⟨u23, tl_24, e_24, hl_24⟩ := qf hl_23; subst e_24; clear hl_23; obtain ⟨u24, tl_25, e_25, hl_25⟩ := qf hl_24; subst e_25; clear hl_24; obtain ⟨u25, tl_26, e_26, hl_26⟩ := qf hl_25; subst e_26; clear hl_25; obtain ⟨u26, tl_27, e_27, hl_27⟩ := qf hl_26; subst e_27; clear hl_26; obtain ⟨u27, tl_28, e_28, hl_28⟩ := qf hl_27; subst e_28; clear hl_27; obtain ⟨u28, tl_29, e_29, hl_29⟩ := qf hl_28; subst e_29; clear hl_28; obtain ⟨u29, tl_30, e_30, hl_30⟩ := qf hl_29; subst e_30; clear hl_29; obtain ⟨u30, tl_31, e_31, hl_31⟩ := qf hl_30; subst e_31; clear hl_30; obtain ⟨u31, tl_32, e_32, hl_32⟩ := qf hl_31; subst e_32; clear hl_31; obtain ⟨u32, tl_33, e_33, hl_33⟩ := qf hl_32; subst e_33; clear hl_32; obtain ⟨u33, tl_34, e_34, hl_34⟩ := qf hl_33; subst e_34; clear hl_33; obtain ⟨u34, tl_35, e_35, hl_35⟩ := qf hl_34; subst e_35; clear hl_34; obtain ⟨u35, tl_36, e_36, hl_36⟩ := qf hl_35; subst e_36; clear hl_35; obtain ⟨u36, tl_37, e_37, hl_37⟩ := qf hl_36; subst e_37; clear hl_36; obtain ⟨u37, tl_38, e_38, hl_38⟩ := qf hl_37; subst e_38; clear hl_37; obtain ⟨u38, tl_39, e_39, hl_39⟩ := qf hl_38; subst e_39; clear hl_38; obtain ⟨u39, tl_40, e_40, hl_40⟩ := qf hl_39; subst e_40; clear hl_39; obtain ⟨u40, tl_41, e_41, hl_41⟩ := qf hl_40; subst e_41; clear hl_40; obtain ⟨u41, tl_42, e_42, hl_42⟩ := qf hl_41; subst e_42; clear hl_41; obtain ⟨u42, tl_43, e_43, hl_43⟩ := qf hl_42; subst e_43; clear hl_42; obtain ⟨u43, tl_44, e_44, hl_44⟩ := qf hl_43; subst e_44; clear hl_43; obtain ⟨u44, tl_45, e_45, hl_45⟩ := qf hl_44; subst e_45; clear hl_44; obtain ⟨u45, tl_46, e_46, hl_46⟩ := qf hl_45; subst e_46; clear hl_45; obtain ⟨u46, tl_47, e_47, hl_47⟩ := qf hl_46; subst e_47; clear hl_46; obtain ⟨u47, tl_48, e_48, hl_48⟩ := qf hl_47; subst e_48; clear hl_47; obtain ⟨u48, tl_49, e_49, hl_49⟩ := qf hl_48; subst e_49; clear hl_48; obtain ⟨u49, tl_50, e_50, hl_50⟩ := qf hl_49; subst e_50; clear hl_49; obtain ⟨u50, tl_51, e_51, hl_51⟩ := qf hl_50; subst e_51; clear hl_50; obtain ⟨u51, tl_52, e_52, hl_52⟩ := qf hl_51; subst e_52; clear hl_51; obtain ⟨u52, tl_53, e_53, hl_53⟩ := qf hl_52; subst e_53; clear hl_52; obtain ⟨u53, tl_54, e_54, hl_54⟩ := qf hl_53; subst e_54; clear hl_53; obtain ⟨u54, tl_55, e_55, hl_55⟩ := qf hl_54; subst e_55; clear hl_54; obtain ⟨u55, tl_56, e_56, hl_56⟩ := qf hl_55; subst e_56; clear hl_55; obtain ⟨u56, tl_57, e_57, hl_57⟩ := qf hl_56; subst e_57; clear hl_56; obtain ⟨u57, tl_58, e_58, hl_58⟩ := qf hl_57; subst e_58; clear hl_57; obtain ⟨u58, tl_59, e_59, hl_59⟩ := qf hl_58; subst e_59; clear hl_58; obtain ⟨u59, tl_60, e_60, hl_60⟩ := qf hl_59; subst e_60; clear hl_59; obtain ⟨u60, tl_61, e_61, hl_61⟩ := qf hl_60; subst e_61; clear hl_60; obtain ⟨u61, tl_62, e_62, hl_62⟩ := qf hl_61; subst e_62; clear hl_61; obtain ⟨u62, tl_63, e_63, hl_63⟩ := qf hl_62; subst e_63; clear hl_62; obtain ⟨u63, tl_64, e_64, hl_64⟩ := qf hl_63; subst e_64; clear hl_63; obtain ⟨u64, tl_65, e_65, hl_65⟩ := qf hl_64; subst e_65; clear hl_64; obtain ⟨u65, tl_66, e_66, hl_66⟩ := qf hl_65; subst e_66; clear hl_65; obtain ⟨u66, tl_67, e_67, hl_67⟩ := qf hl_66; subst e_67; clear hl_66; obtain ⟨u67, tl_68, e_68, hl_68⟩ := qf hl_67; subst e_68; clear hl_67; obtain ⟨u68, tl_69, e_69, hl_69⟩ := qf hl_68; subst e_69; clear hl_68; obtain ⟨u69, tl_70, e_70, hl_70⟩ := qf hl_69; subst e_70; clear hl_69; obtain ⟨u70, tl_71, e_71, hl_71⟩ := qf hl_70; subst e_71; clear hl_70; obtain ⟨u71, tl_72, e_72, hl_72⟩ := qf hl_71; subst e_72; clear hl_71; obtain ⟨u72, tl_73, e_73, hl_73⟩ := qf hl_72; subst e_73; clear hl_72; obtain ⟨u73, tl_74, e_74, hl_74⟩ := qf hl_73; subst e_74; clear hl_73; obtain ⟨u74, tl_75, e_75, hl_75⟩ := qf hl_74; subst e_75; clear hl_74; obtain ⟨u75, tl_76, e_76, hl_76⟩ := qf hl_75; subst e_76; clear hl_75; obtain ⟨u76, tl_77, e_77, hl_77⟩ := qf hl_76; subst e_77; clear hl_76; obtain ⟨u77, tl_78, e_78, hl_78⟩ := qf hl_77; subst e_78; clear hl_77; obtain ⟨u78, tl_79, e_79, hl_79⟩ := qf hl_78; subst e_79; clear hl_78; obtain ⟨u79, tl_80, e_80, hl_80⟩ := qf hl_79; subst e_80; clear hl_79; obtain ⟨u80, tl_81, e_81, hl_81⟩ := qf hl_80; subst e_81; clear hl_80; obtain ⟨u81, tl_82, e_82, hl_82⟩ := qf hl_81; subst e_82; clear hl_81; obtain ⟨u82, tl_83, e_83, hl_83⟩ := qf hl_82; subst e_83; clear hl_82; obtain ⟨u83, tl_84, e_84, hl_84⟩ := qf hl_83; subst e_84; clear hl_83; obtain ⟨u84, tl_85, e_85, hl_85⟩ := qf hl_84; subst e_85; clear hl_84; obtain ⟨u85, tl_86, e_86, hl_86⟩ := qf hl_85; subst e_86; clear hl_85; obtain ⟨u86, tl_87, e_87, hl_87⟩ := qf hl_86; subst e_87; clear hl_86; obtain ⟨u87, tl_88, e_88, hl_88⟩ := qf hl_87; subst e_88; clear hl_87; obtain ⟨u88, tl_89, e_89, hl_89⟩ := qf hl_88; subst e_89; clear hl_88; obtain ⟨u89, tl_90, e_90, hl_90⟩ := qf hl_89; subst e_90; clear hl_89; obtain ⟨u90, tl_91, e_91, hl_91⟩ := qf hl_90; subst e_91; clear hl_90; obtain ⟨u91, tl_92, e_92, hl_92⟩ := qf hl_91; subst e_92; clear hl_91; obtain ⟨u92, tl_93, e_93, hl_93⟩ := qf hl_92; subst e_93; clear hl_92; obtain ⟨u93, tl_94, e_94, hl_94⟩ := qf hl_93; subst e_94; clear hl_93; obtain ⟨u94, tl_95, e_95, hl_95⟩ := qf hl_94; subst e_95; clear hl_94; obtain ⟨u95, tl_96, e_96, hl_96⟩ := qf hl_95; subst e_96; clear hl_95; obtain ⟨u96, tl_97, e_97, hl_97⟩ := qf hl_96; subst e_97; clear hl_96; obtain ⟨u97, tl_98, e_98, hl_98⟩ := qf hl_97; subst e_98; clear hl_97; obtain ⟨u98, tl_99, e_99, hl_99⟩ := qf hl_98; subst e_99; clear hl_98; obtain ⟨u99, tl_100, e_100, hl_100⟩ := qf hl_99; subst e_100; clear hl_99; obtain ⟨u100, tl_101, e_101, hl_101⟩ := qf hl_100; subst e_101; clear hl_100; obtain ⟨u101, tl_102, e_102, hl_102⟩ := qf hl_101; subst e_102; clear hl_101; obtain ⟨u102, tl_103, e_103, hl_103⟩ := qf hl_102; subst e_103; clear hl_102; obtain ⟨u103, tl_104, e_104, hl_104⟩ := qf hl_103; subst e_104; clear hl_103; obtain ⟨u104, tl_105, e_105, hl_105⟩ := qf hl_104; subst e_105; clear hl_104; obtain ⟨u105, tl_106, e_106, hl_106⟩ := qf hl_105; subst e_106; clear hl_105; obtain ⟨u106, tl_107, e_107, hl_107⟩ := qf hl_106; subst e_107; clear hl_106; obtain ⟨u107, tl_108, e_108, hl_108⟩ := qf hl_107; subst e_108; clear hl_107; obtain ⟨u108, tl_109, e_109, hl_109⟩ := qf hl_108; subst e_109; clear hl_108; obtain ⟨u109, tl_110, e_110, hl_110⟩ := qf hl_109; subst e_110; clear hl_109; obtain ⟨u110, tl_111, e_111, hl_111⟩ := qf hl_110; subst e_111; clear hl_110; obtain ⟨u111, tl_112, e_112, hl_112⟩ := qf hl_111; subst e_112; clear hl_111; obtain rfl := List.length_eq_zero_iff.1 hl_112; clear hl_112
    have q5' : u5 = .pointer (some ⟨w.heap.size + 2, 0, none⟩) := q5
    clear q5
    subst q5' qd
    have ck := hk.cell 0
    simp only at hA0 ho ck
    subst hA0
    simp only [La, Lb] at ck
    rw [show rwL xs SW 4 = rwL xs SW 3 from rfl, el.2.2] at ho ck
    clear hb3 hb4 hr0 h4 hk
    go_wp2
    go_ret
    exact qe6 HR'.out ho (pb.trans (hb.mono (by omega)))
end Go.Proofs.YtlndbiamiioakaaGreatDoor
