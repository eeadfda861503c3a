/- Joined texts: Rp5. -/
import Derived.Test.YtndgcjdiemfngaaGreatDoorQBD
import Derived.Test.YtndgcjdiemfngaaGreatDoorQBO
import Derived.Test.YtndgcjdiemfngaaGreatDoorQBQ
import Derived.Test.YtndgcjdiemfngaaGreatDoorQBX
set_option linter.unusedVariables false
set_option linter.unusedSimpArgs false
set_option linter.unnecessarySimpa false
/- The reference of layer 40: number without times. -/
namespace Go.Proofs.YtndgcjdiemfngaaGreatDoor
open Go.RowKit
set_option maxRecDepth 20000
/-- The decimal digits that are written after j of nine steps. -/
def decS (n j : Nat) : List UInt8 := if j < 9 ∧ n / 10 ^ (9 - j) = 0 then [] else decT (n / 10 ^ (9 - j))
theorem decS_zero {n : Nat} (h : n ≤ 999999999) : decS n 0 = [] := if_pos ⟨by omega, Nat.div_eq_of_lt (by omega)⟩
theorem decS_nine (n : Nat) : decS n 9 = decT n := by
  unfold decS
  rw [if_neg (by omega)]
  simp
theorem decS_step {n j D : Nat} (hj : j < 9) (hD : D = 10 ^ (8 - j)) : ((D ≤ n ∨ D = 1) → decS n (j + 1) = decS n j ++ [UInt8.ofNat (48 + n / D % 10)]) ∧ (¬ (D ≤ n ∨ D = 1) → decS n (j + 1) = decS n j) := by
  have hp : 0 < D := by rw [hD]; exact Nat.pow_pos (by decide)
  have h1 : 10 ^ (9 - (j + 1)) = D := by rw [hD]; congr 1; omega
  have h2 : n / 10 ^ (9 - j) = n / D / 10 := by rw [Nat.div_div_eq_div_mul, hD, ← Nat.pow_succ]; congr 2; omega
  unfold decS
  rw [h1, h2]
  constructor
  · intro hc
    have h3 : ¬ (j + 1 < 9 ∧ n / D = 0) := by
      rintro ⟨h4, h5⟩
      rcases hc with h | h
      · have := Nat.div_pos h hp; omega
      · have : (1 : Nat) < D := by rw [hD]; exact Nat.one_lt_pow (by omega) (by decide)
        omega
    rw [if_neg h3]
    by_cases h10 : n / D < 10
    · rw [if_pos ⟨hj, Nat.div_eq_of_lt h10⟩, decT, dif_pos h10, Nat.mod_eq_of_lt h10]
      rfl
    · have h6 : ¬ (j < 9 ∧ n / D / 10 = 0) := by
        rintro ⟨_, h⟩
        rw [Nat.div_eq_zero_iff] at h
        omega
      rw [if_neg h6]
      conv => lhs; rw [decT]
      rw [dif_neg h10]
  · intro hc
    have h4 : n / D = 0 := Nat.div_eq_of_lt (by omega)
    have h5 : j + 1 < 9 := by
      rcases Nat.lt_or_ge (j + 1) 9 with h | h
      · exact h
      · have h8 : j = 8 := by omega
        subst h8
        exact absurd (Or.inr (by rw [hD])) hc
    rw [h4, if_pos ⟨h5, rfl⟩, if_pos ⟨hj, rfl⟩]
theorem decS_len {n : Nat} (h : n ≤ 999999999) (j : Nat) (hj : j ≤ 9) : (decS n j).length ≤ 10 := by
  unfold decS
  split
  · simp
  · exact decT_len 9 _ (Nat.lt_of_le_of_lt (Nat.div_le_self _ _) (by omega))
theorem pow_div {j : Nat} (hj : j < 9) : (10 ^ (8 - j) : Nat) / 10 = if j = 8 then 0 else 10 ^ (8 - (j + 1)) := by
  have : ∀ j : Fin 9, (10 ^ (8 - j.val) : Nat) / 10 = if j.val = 8 then 0 else 10 ^ (8 - (j.val + 1)) := by decide +kernel
  exact this ⟨j, hj⟩
/-- The step's divisor. -/
def powS (j : Nat) : Nat := if j < 9 then 10 ^ (8 - j) else 0
theorem powS_next {j : Nat} (hj : j < 9) : powS j / 10 = powS (j + 1) ∧ 0 < powS j ∧ powS j ≤ 100000000 ∧ powS j = 10 ^ (8 - j) ∧ powS (j + 1) < powS j := by
  have : ∀ j : Fin 9, powS j.val / 10 = powS (j.val + 1) ∧ 0 < powS j.val ∧ powS j.val ≤ 100000000 ∧ powS j.val = 10 ^ (8 - j.val) ∧ powS (j.val + 1) < powS j.val := by decide +kernel
  exact this ⟨j, hj⟩
theorem dec_one {N D : Nat} (hN : N ≤ 999999999) (hD : 0 < D) (hD8 : D ≤ 100000000) : ∃ Dn Q d : Nat, Dn = D / 10 ∧ Q = N / D ∧ d = Q % 10 ∧ (D : Int).tdiv 10 = (Dn : Int) ∧ wrap64 (Dn : Int) = Dn ∧ Dn < D ∧ (N : Int).tdiv (D : Int) = (Q : Int) ∧ (Q : Int).tmod 10 = (d : Int) ∧
    wrap64 (Q : Int) = Q ∧ wrap64 (d : Int) = d ∧ wrap64 (48 + (d : Int)) = 48 + (d : Int) ∧ IntKind.u8.wrap (48 + (d : Int)) = 48 + (d : Int) ∧ d < 10 := by
  have hQN : N / D ≤ N := Nat.div_le_self _ _
  have hd10 : N / D % 10 < 10 := Nat.mod_lt _ (by decide)
  have hdn : D / 10 < D := Nat.div_lt_self hD (by decide)
  refine ⟨D / 10, N / D, N / D % 10, rfl, rfl, rfl, dec_quo D, wrap_nat _ (by omega), hdn, ?_, dec_rem _, wrap_nat _ (Nat.le_trans hQN hN), wrap_nat _ (Nat.le_trans (Nat.le_of_lt hd10) (by decide)), (wrap_dig _ hd10).1, ?_, hd10⟩
  · rw [Int.tdiv_eq_ediv_of_nonneg (Int.natCast_nonneg _)]
    exact (Int.natCast_ediv N D).symm
  · generalize N / D % 10 = d at *
    rw [IntKind.wrap_u8]
    omega
theorem powS_zero : ((powS 0 : Nat) : Int) = 100000000 := by rw [show powS 0 = 100000000 by decide +kernel]; simp
/-- The words in memory, below base; the tables. -/
structure WdA (base : Nat) (w : World) (l : List ByteArray) (A : Option Addr) (n c : Nat) : Prop where
  len : l.length = n
  cap : n ≤ c
  max : c ≤ maxLen
  rd : Rd w base 1 A n (sv l)
  sz : ∀ s ∈ l, s.size ≤ 1000
  few : l.length ≤ 1000
  tb : ∀ w', Below base w w' → Tb w'
theorem WdA.below {base : Nat} {w w' : World} {l : List ByteArray} {A : Option Addr} {n c : Nat} (h : WdA base w l A n c) (hb : Below base w w') : WdA base w' l A n c :=
  ⟨h.len, h.cap, h.max, h.rd.below hb, h.sz, h.few, fun w'' h' => h.tb w'' (hb.trans h')⟩
theorem TX.bel {w wx : World} {base : Nat} {v0 : Value} {st : Int} {j : Bool} {O : List Gl} (h : TX w base v0 st j O wx) : Below base w wx := by
  obtain ⟨_, _, _, _, _, _, h⟩ := h
  exact h.1
/-- What the parser's part hands back. -/
def PRes (base : Nat) (v0 : Value) (w : World) (ws : List ByteArray) (o : Option Prs) (e : Ending) (w' : World) : Prop := match o with
  | some q => ∃ A c n, 0 < n ∧ n ≤ ws.length ∧ q.words = ws.drop n ∧ e = .returned (.tuple #[.agg (tC (.slice A q.out.length c) q.style q.joins), .int .i64 (n : Nat)]) ∧ w'.ownsRow base 41 3 (.slice A q.out.length c) q.out.length (encGs q.out) ∧ BG base v0 w w' ∧ Sep w.heap.size v0 (.slice A q.out.length c)
  | none => ∃ A m c st j, e = .returned (.tuple #[.agg (tC (.slice A m c) st j), .int .i64 0]) ∧ BG base v0 w w'
theorem Sep.trans {N M : Nat} {v0 v1 v2 : Value} (h1 : Sep N v0 v1) (h2 : Sep M v1 v2) (h : N ≤ M) : Sep N v0 v2 := fun k hk => by
  rcases h2 k hk with ⟨h, _⟩ | h
  · exact h1 k h
  · exact .inr (by omega)
/-- Behind a call that takes the state and hands one back. -/
theorem TX.call {w wr w5 : World} {base : Nat} {v0 v1 : Value} {A : Option Addr} {n c : Nat} {t1 t2 : TypeId} {x y : Array Value} (B1 : Blk wr w.heap.size t1 x) (B2 : Blk wr (w.heap.size + 1) t2 y) (hs : Sep w.heap.size v0 (.slice A n c)) (tx : BG base v0 w wr)
    (hg : BG base (.slice A n c) wr w5) (hs' : Sep wr.heap.size (.slice A n c) v1) : Blk w5 w.heap.size t1 x ∧ Blk w5 (w.heap.size + 1) t2 y ∧ BG base v0 w w5 ∧ Sep w.heap.size v0 v1 :=
  ⟨B1.grown hg.2 (some_ne fun k hk => (hs.ne k hk).1), B2.grown hg.2 (some_ne fun k hk => (hs.ne k hk).2), tx.grown hg.1 hg.2 hs, hs.trans hs' tx.size⟩
set_option maxHeartbeats 4000000 in
theorem rnum_no (O : List Gl) (st : Int) (J : Bool) (l : List ByteArray) (ho : O.length ≤ 1000000000) (A : Option Addr) (c base : Nat) (w : World) (hb : base ≤ w.heap.size) (h : w.ownsRow base 41 3 (.slice A O.length c) O.length (encGs O)) (Aw : Option Addr) (nw cw : Nat) (hW : WdA base w l Aw nw cw) (hp : prefixL l = none) : Calls Tryz.prog 85 #[.agg (tC (.slice A O.length c) st J), .slice Aw nw cw] w (PRes base (.slice A O.length c) w l (amtL ⟨l, O, st, J⟩)) := by
  have e0 : Hid (amtL ⟨l, O, st, J⟩ = none) := Lib.hid (by unfold amtL; simp only [hp])
  generalize amtL ⟨l, O, st, J⟩ = RES at *
  have hpn := TX.new (st := st) (j := J) h hb
  clear h
  obtain ⟨v0, hv0⟩ : ∃ x, x = Value.slice A O.length c := ⟨_, rfl⟩
  have HV := Lib.hid hv0
  rw [← hv0] at hpn ⊢
  clear hv0
  have HPr : Hid (∀ w', Below base w w' → Calls Tryz.prog 128 #[.slice Aw nw cw] w' (Gives (preTriple (prefixL l)) w')) := Lib.hid fun w' hw =>
    rprefix l Aw nw cw w' hW.len hW.cap hW.max ((hW.rd.below hw).more (Nat.le_trans hb hw.size)) (hW.tb w' hw)
  rw [hp] at HPr
  simp only [preTriple] at HPr
  clear hW hp
  go_enter Tryz.func85, Tryz.ntmps85
  go_upto_region 1 with fail
  refine wp_fg (TX w base v0 st J O) hpn ?_
  clear hpn
  intro X hX
  go_upto_region 2 with (go_at_call 128; refine (HPr.out _ hX.bel).mono ?_; rintro e w1 ⟨rfl, hb1⟩; have hT := hX.below hb1 hb)
  obtain ⟨A6, c6, B1, B2, ox, hs6, tx⟩ := hT
  have c0 := B1.cell 0
  have c1 := B1.cell 1
  have c2 := B1.cell 2
  have d0 := B2.cell 0
  have d1 := B2.cell 1
  have d2 := B2.cell 2
  have f0 := B1.frozen 0
  have f2 := B1.frozen 2
  have g0 := B2.frozen 0
  have g1 := B2.frozen 1
  have g2 := B2.frozen 2
  simp only [tC, List.getElem?_toArray, List.getElem?_cons_zero, List.getElem?_cons_succ] at c0 c1 c2 d0 d1 d2
  have R := TX.copy (v := .slice A6 O.length c6) (st' := st) (j' := J) B2 ox hs6 tx hb
  go_wp2
  exact bodyPost_ret (results_ctmp rfl _ _ (w.heap.size + 1) 64 _ (0, 0) _ rfl R.1 Tryz.underlying64 rfl info_T) rfl (by rw [e0.out]; exact ⟨_, _, _, _, _, rfl, R.2.2⟩)
set_option maxHeartbeats 4000000 in
theorem rnum_neg (O : List Gl) (st : Int) (J : Bool) (l : List ByteArray) (ho : O.length ≤ 1000000000) (A : Option Addr) (c base : Nat) (w : World) (hb : base ≤ w.heap.size) (h : w.ownsRow base 41 3 (.slice A O.length c) O.length (encGs O)) (Aw : Option Addr) (nw cw : Nat) (hW : WdA base w l Aw nw cw) (nn : Int) (k : Nat) (hp : prefixL l = some (nn, k)) (hneg : nn < 0) : Calls Tryz.prog 85 #[.agg (tC (.slice A O.length c) st J), .slice Aw nw cw] w (PRes base (.slice A O.length c) w l (amtL ⟨l, O, st, J⟩)) := by
  have e0 : Hid (amtL ⟨l, O, st, J⟩ = none) := Lib.hid (by unfold amtL; simp only [hp, if_pos hneg])
  generalize amtL ⟨l, O, st, J⟩ = RES at *
  have hpn := TX.new (st := st) (j := J) h hb
  clear h
  obtain ⟨v0, hv0⟩ : ∃ x, x = Value.slice A O.length c := ⟨_, rfl⟩
  have HV := Lib.hid hv0
  rw [← hv0] at hpn ⊢
  clear hv0
  have HPr : Hid (∀ w', Below base w w' → Calls Tryz.prog 128 #[.slice Aw nw cw] w' (Gives (preTriple (prefixL l)) w')) := Lib.hid fun w' hw =>
    rprefix l Aw nw cw w' hW.len hW.cap hW.max ((hW.rd.below hw).more (Nat.le_trans hb hw.size)) (hW.tb w' hw)
  rw [hp] at HPr
  simp only [preTriple] at HPr
  clear hW hp
  go_enter Tryz.func85, Tryz.ntmps85
  go_upto_region 1 with fail
  refine wp_fg (TX w base v0 st J O) hpn ?_
  clear hpn
  intro X hX
  go_upto_region 2 with (go_at_call 128; refine (HPr.out _ hX.bel).mono ?_; rintro e w1 ⟨rfl, hb1⟩; have hT := hX.below hb1 hb)
  obtain ⟨A6, c6, B1, B2, ox, hs6, tx⟩ := hT
  have c0 := B1.cell 0
  have c1 := B1.cell 1
  have c2 := B1.cell 2
  have d0 := B2.cell 0
  have d1 := B2.cell 1
  have d2 := B2.cell 2
  have f0 := B1.frozen 0
  have f2 := B1.frozen 2
  have g0 := B2.frozen 0
  have g1 := B2.frozen 1
  have g2 := B2.frozen 2
  simp only [tC, List.getElem?_toArray, List.getElem?_cons_zero, List.getElem?_cons_succ] at c0 c1 c2 d0 d1 d2
  have R := TX.copy (v := .slice A6 O.length c6) (st' := st) (j' := J) B2 ox hs6 tx hb
  go_wp2
  exact bodyPost_ret (results_ctmp rfl _ _ (w.heap.size + 1) 64 _ (0, 0) _ rfl R.1 Tryz.underlying64 rfl info_T) rfl (by rw [e0.out]; exact ⟨_, _, _, _, _, rfl, R.2.2⟩)
set_option maxHeartbeats 8000000 in
theorem rnum_dec (O : List Gl) (st : Int) (J : Bool) (l : List ByteArray) (ho : O.length ≤ 1000000000) (A : Option Addr) (c base : Nat) (w : World) (hb : base ≤ w.heap.size) (h : w.ownsRow base 41 3 (.slice A O.length c) O.length (encGs O)) (Aw : Option Addr) (nw cw : Nat) (hW : WdA base w l Aw nw cw) (nn : Int) (k : Nat) (hp : prefixL l = some (nn, k)) (hneg : ¬ nn < 0) (hT : ¬ l[k]? = some bTimes) : Calls Tryz.prog 85 #[.agg (tC (.slice A O.length c) st J), .slice Aw nw cw] w (PRes base (.slice A O.length c) w l (amtL ⟨l, O, st, J⟩)) := by
  obtain ⟨N, rfl⟩ : ∃ N : Nat, nn = (N : Int) := ⟨nn.toNat, by omega⟩
  obtain ⟨hk0, hkl, hk15, hnum, _⟩ := prefixL_some hp
  obtain ⟨_, hN9, _⟩ := number_some hnum
  have hN : N ≤ 999999999 := by omega
  have e0 : Hid (amtL ⟨l, O, st, J⟩ = some (textL ⟨l, O, st, J⟩ ⟨(decT N).toArray⟩ k)) := Lib.hid (by unfold amtL; simp only [hp]; rw [if_neg hneg, if_neg hT, Int.toNat_natCast])
  have HS := Lib.hid (fun j D hj hD => @decS_step N j D hj hD)
  have HL := Lib.hid (decS_len hN)
  have HP := Lib.hid (fun j hj => @powS_next j hj)
  have H0 : Hid ((⟨#[]⟩ : ByteArray) = ⟨(decS N 0).toArray⟩) := Lib.hid (by rw [decS_zero hN])
  have H9 : Hid (decT N = decS N 9) := Lib.hid (decS_nine N).symm
  generalize amtL ⟨l, O, st, J⟩ = RES at *
  generalize hdT : decT N = DT at *
  have hpn := TX.new (st := st) (j := J) h hb
  clear h
  obtain ⟨v0, hv0⟩ : ∃ x, x = Value.slice A O.length c := ⟨_, rfl⟩
  have HV := Lib.hid hv0
  rw [← hv0] at hpn ⊢
  clear hv0
  have HPr : Hid (∀ w', Below base w w' → Calls Tryz.prog 128 #[.slice Aw nw cw] w' (Gives (preTriple (prefixL l)) w')) := Lib.hid fun w' hw =>
    rprefix l Aw nw cw w' hW.len hW.cap hW.max ((hW.rd.below hw).more (Nat.le_trans hb hw.size)) (hW.tb w' hw)
  rw [hp] at HPr
  simp only [preTriple] at HPr
  have hln := hW.len
  have HCk : Hid (∀ hk : k < nw, ∀ w', Below base w w' → ∃ b o, Aw = some ⟨b, o, none⟩ ∧ w'.cell? ⟨b, o + k, none⟩ = some (.string (l[k]'(by rw [hln]; exact hk)))) := Lib.hid fun hk w' hw => by
    obtain ⟨b, o, rfl, _, hc⟩ := (hW.rd.below hw).at_ hk
    rw [sv_get _ _ (by rw [hln]; exact hk)] at hc
    exact ⟨b, o, rfl, hc⟩
  have hkn : k ≤ nw := by omega
  have hxt : Hid (∀ hk : k < nw, (l[k]'(by rw [hln]; exact hk)) ≠ bTimes) := Lib.hid fun hk e => hT (by rw [List.getElem?_eq_getElem (by rw [hln]; exact hk), e])
  have hi0 : ¬ (N : Int) < 0 := by omega
  clear hW hp hT hnum hneg hdT
  go_enter Tryz.func85, Tryz.ntmps85
  go_upto_region 1 with fail
  refine wp_fg (TX w base v0 st J O) hpn ?_
  clear hpn
  intro X hX
  go_upto_region 4 with (go_at_call 128; refine (HPr.out _ hX.bel).mono ?_; rintro e w1 ⟨rfl, hb1⟩; have hT := hX.below hb1 hb)
  go_cut [38] (fun v wx => v = .bool true ∧ wx = w1)
  case first =>
    clear e0 HS HL HP H0 H9 hX
    by_cases hkk : k = nw
    · have hb1 : ((k : Int) == nw) = true := beq_iff_eq.2 (by omega)
      go_wp2
      go_meet
      exact ⟨rfl, rfl⟩
    · have hb1 : ((k : Int) == nw) = false := beq_eq_false_iff_ne.2 (by omega)
      obtain ⟨b, o, rfl, hc⟩ := HCk.out (by omega) w1 hT.bel
      have q := strq (a := l[k]'(by omega)) (b := bTimes) (l := [116, 105, 109, 101, 115]) rfl
      rw [decide_eq_false (hxt.out (by omega))] at q
      generalize (l[k]'(by omega)) = x at *
      have hki : (k : Int) < nw := by omega
      clear hT
      go_wp2
      go_meet
      exact ⟨rfl, rfl⟩
  case rest =>
    obtain ⟨rfl, hwc⟩ := hcut
    rw [hwc]
    clear hwc HCk hxt hX hb1
    go_wp2
    go_loopw [9, 10] (fun x y wr => ∃ j : Nat, j ≤ 9 ∧ y = .int .i64 (powS j : Nat) ∧ x = .string ⟨(decS N j).toArray⟩ ∧ TX w base v0 st J O wr) (fun _ y _ => (intOf y).toNat)
    case atStart => exact ⟨0, Nat.zero_le _, congrArg (fun z => Value.int .i64 z) powS_zero.symm, by rw [← H0.out], hT⟩
    case round =>
      clear hT
      obtain ⟨j, hj, rfl, rfl, hT⟩ := hrel
      by_cases hlt : j < 9
      · obtain ⟨hp1, hp2, hp3, hp4, hp5⟩ := HP.out j hlt
        obtain ⟨HSy, HSn⟩ := HS.out j (powS j) hlt hp4
        have hl1 := HL.out j hj
        clear HS HL HP H0 H9 hp4
        have HNx : Hid (powS (j + 1) = powS j / 10) := Lib.hid hp1.symm
        have HSy' := Lib.hid HSy
        have HSn' := Lib.hid HSn
        clear HSy HSn hp1
        generalize hD : powS j = D at *
        generalize decS N j = DS at *
        obtain ⟨Dn, Q, d, hDn, hQ, hd, hq10, hwq, hM5, hdv, hrm, hwQ, hwd, hw2, hw8, hd10⟩ := dec_one hN hp2 hp3
        rw [← hDn] at HNx
        rw [← hQ, ← hd] at HSy'
        have hcv := byte_str wr (48 + (d : Int)) (UInt8.ofNat (48 + d)) (by rw [UInt8.toNat_ofNat', Nat.mod_eq_of_lt (show 48 + d < 2 ^ 8 from Nat.lt_of_lt_of_le (Nat.add_lt_add_left hd10 48) (by decide))]; rfl)
        have hTn := hT.below (Below.alloc (Below.refl wr.heap.size wr) (Nat.le_refl _) (.cells #[.int .u8 (48 + (d : Int))] 5)) hb
        have hD0 : ¬ (D : Int) = 0 := fun h => Nat.lt_irrefl 0 (Int.ofNat.inj h ▸ hp2)
        have hDp : (0 : Int) < (D : Int) := Int.ofNat_lt.2 hp2
        have hgy : D ≤ N → (D : Int) ≤ N := fun h => Int.ofNat_le.2 h
        have hgn : ¬ D ≤ N → ¬ (D : Int) ≤ N := fun h h' => h (Int.ofNat_le.1 h')
        have hoy : D = 1 → ((D : Int) == 1) = true := fun h => by rw [h]; rfl
        have hon : ¬ D = 1 → ((D : Int) == 1) = false := fun h => beq_eq_false_iff_ne.2 fun h' => h (Int.ofNat.inj h')
        have HM5 := Lib.hid hM5
        have happ : Hid ((⟨DS.toArray⟩ : ByteArray) ++ ⟨#[UInt8.ofNat (48 + d)]⟩ = ⟨(DS ++ [UInt8.ofNat (48 + d)]).toArray⟩) := Lib.hid (app_byte _ _)
        have hme : Hid ((intOf (Value.int .i64 (Dn : Int))).toNat < (intOf (Value.int .i64 (D : Int))).toNat) := Lib.hid (by simpa [intOf] using hM5)
        have HLt := Lib.hid hlt
        clear hQ hd hDn hp5 hp2 hp3 hM5 hd10 hlt
        generalize UInt8.ofNat (48 + d) = ub at *
        generalize (N : Int) = NI at *
        obtain ⟨DI, hDI⟩ : ∃ x, x = (D : Int) := ⟨_, rfl⟩
        obtain ⟨DnI, hDnI⟩ : ∃ x, x = (Dn : Int) := ⟨_, rfl⟩
        obtain ⟨dI, hdI⟩ : ∃ x, x = (d : Int) := ⟨_, rfl⟩
        rw [← hDI] at hq10 hdv hD0 hDp hgy hgn hoy hon hme
        rw [← hDnI] at hq10 hwq hme
        rw [← hdI] at hrm hwd hw2 hw8 hcv hTn
        generalize (Q : Int) = QI at *
        rw [← hDI]
        have HDnI := Lib.hid hDnI
        have HDI := Lib.hid hDI
        clear hDI hdI hDnI
        by_cases hc : D ≤ N ∨ D = 1
        · have HD2 := Lib.hid (HSy'.out hc)
          clear HSy' HSn' hT
          by_cases hge : D ≤ N
          · have hgi := hgy hge
            clear hc hgy hgn hoy hon hge
            go_wp2
            exact ⟨⟨j + 1, HLt.out, by rw [HNx.out, hwq, HDnI.out], by rw [HD2.out, happ.out], hTn⟩, by rw [hwq]; exact hme.out⟩
          · have hgi := hgn hge
            have h1' := hoy (hc.resolve_left hge)
            clear hc hgy hgn hoy hon hge
            go_wp2
            exact ⟨⟨j + 1, HLt.out, by rw [HNx.out, hwq, HDnI.out], by rw [HD2.out, happ.out], hTn⟩, by rw [hwq]; exact hme.out⟩
        · have HD2 := Lib.hid (HSn'.out hc)
          have hgi := hgn (fun h => hc (.inl h))
          have h1' := hon (fun h => hc (.inr h))
          clear HSy' HSn' hc hgy hgn hoy hon hcv hTn
          go_wp2
          exact ⟨⟨j + 1, HLt.out, by rw [HNx.out, hwq, HDnI.out], by rw [HD2.out], hT⟩, by rw [hwq]; exact hme.out⟩
      · obtain rfl : j = 9 := by omega
        have hpz : powS 9 = 0 := rfl
        rw [← H9.out, hpz]
        have hl1 := HL.out 9 (Nat.le_refl _)
        rw [← H9.out] at hl1
        clear HS HL HP H0 H9
        obtain ⟨A6, c6, B1, B2, ox, hs6, tx⟩ := hT
        have HTx := Lib.hid (rtext O st J ⟨DT.toArray⟩ (by show DT.toArray.size ≤ _; rw [List.size_toArray]; omega) ho A6 c6 base wr (Nat.le_trans hb tx.size) ox)
        have HE : Hid (textL ⟨l, O, st, J⟩ ⟨DT.toArray⟩ k = ⟨l.drop k, O ++ textG J st ⟨DT.toArray⟩, st, true⟩) := Lib.hid rfl
        rw [HE.out] at e0
        generalize O ++ textG J st ⟨DT.toArray⟩ = Q at *
        generalize (⟨DT.toArray⟩ : ByteArray) = DD at *
        have c0 := B1.cell 0
        have c1 := B1.cell 1
        have c2 := B1.cell 2
        have d0 := B2.cell 0
        have d1 := B2.cell 1
        have d2 := B2.cell 2
        have f0 := B1.frozen 0
        have f2 := B1.frozen 2
        have g0 := B2.frozen 0
        have g1 := B2.frozen 1
        have g2 := B2.frozen 2
        simp only [tC, List.getElem?_toArray, List.getElem?_cons_zero, List.getElem?_cons_succ] at c0 c1 c2 d0 d1 d2
        clear HE
        go_wp2_with (go_at_call 80; refine HTx.out.mono ?_; rintro e w5 ⟨A7, c7, rfl, o7, bg7, hs7⟩; clear c0 c1 c2 d0 d1 d2 f0 f2 g0 g1 g2; obtain ⟨D1, D2, tx7, hs8⟩ := TX.call B1 B2 hs6 tx bg7 hs7; have d0 := D2.cell 0; have d1 := D2.cell 1; have d2 := D2.cell 2; have g0 := D2.frozen 0; have g1 := D2.frozen 1; have g2 := D2.frozen 2; simp only [tC, List.getElem?_toArray, List.getElem?_cons_zero, List.getElem?_cons_succ] at d0 d1 d2; simp only [id, tC])
        have R := TX.copy (v := .slice A7 Q.length c7) (st' := st) (j' := true) D2 o7 hs8 tx7 hb
        exact bodyPost_ret (results_ctmp rfl _ _ (w.heap.size + 1) 64 _ (0, 0) _ rfl R.1 Tryz.underlying64 rfl info_T) rfl (by rw [e0.out]; exact ⟨A7, c7, k, hk0, hkl, rfl, rfl, R.2.1, R.2.2, hs8⟩)
end Go.Proofs.YtndgcjdiemfngaaGreatDoor
