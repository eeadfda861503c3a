/- Joined: Rp8. -/
import Derived.Test.YtlndbiamiioakaaGreatDoorVBV
set_option linter.unusedVariables false
set_option linter.unusedSimpArgs false
set_option linter.unnecessarySimpa false
set_option maxHeartbeats 4000000
namespace Go.Proofs.YtlndbiamiioakaaGreatDoor
open Go.Proofs.Tryz Go.RowKit
set_option maxRecDepth 20000
def RgI (w : World) (l : List ByteArray) (R : Option (List Gl)) (i : Nat) (wr : World) : Prop :=
 ∃ q f A c, q.words = l.drop i /\ q.words.length <= f /\ k8 f q = R /\ PaK2 q /\ Blk wr w.heap.size 98 (tC (.slice A q.out.length c) q.style q.joins) /\
  wr.ownsRow (w.heap.size + 1) 31 3 (.slice A q.out.length c) q.out.length (qn q.out) /\ Below w.heap.size w wr
def RgN (w : World) (q' : Prs) (v6 : Value) (wx : World) : Prop :=
 ∃ H A c m0 A0 c0 st0 j0, v6 = .pointer (some ⟨H, 0, none⟩) /\ w.heap.size < H /\ Blk wx H 98 (tC (.slice A q'.out.length c) q'.style q'.joins) /\ Blk wx w.heap.size 98 (tC (.slice A0 m0 c0) st0 j0) /\
  wx.ownsRow (w.heap.size + 1) 31 3 (.slice A q'.out.length c) q'.out.length (qn q'.out) /\ Below w.heap.size w wx
theorem qcS {w : World} {g p i : Nat} {a b c : Value} (h : g ≠ p) : (((w.setCell ⟨p, 0, none⟩ a).setCell ⟨p, 1, none⟩ b).setCell ⟨p, 2, none⟩ c).cell? ⟨g, i, none⟩ = w.cell? ⟨g, i, none⟩ := by
 rw [World.cell?_setCell_other _ _ _ _ (by intro e; injection e with e; exact h e.symm), World.cell?_setCell_other _ _ _ _ (by intro e; injection e with e; exact h e.symm), World.cell?_setCell_other _ _ _ _ (by intro e; injection e with e; exact h e.symm)]
theorem RgN.mk {w wr wz : World} {q' : Prs} {H c7 : Nat} {A7 : Option Addr} {m0 c0 : Nat} {A0 : Option Addr} {st0 : Int} {j0 : Bool} (hw : w.heap.size + 1 <= wr.heap.size) (bz : Blk wz H 98 (tC (.slice none 0 0) 0 false)) (hH : wr.heap.size <= H)
  (hbox : Blk wz w.heap.size 98 (tC (.slice A0 m0 c0) st0 j0)) (o7 : wz.ownsRow (w.heap.size + 1) 31 3 (.slice A7 q'.out.length c7) q'.out.length (qn q'.out)) (hz : Below w.heap.size w wz)
  (hne : ∀ k, (Value.slice A7 q'.out.length c7).ownBlock = some k -> k ≠ H) :
  RgN w q' (.pointer (some ⟨H, 0, none⟩)) (((wz.setCell ⟨H, 0, none⟩ (.slice A7 q'.out.length c7)).setCell ⟨H, 1, none⟩ (.int .i64 q'.style)).setCell ⟨H, 2, none⟩ (.bool q'.joins)) := by
 have hne0 : w.heap.size ≠ H := by omega
 exact ⟨H, A7, c7, m0, A0, c0, st0, j0, rfl, by omega, qaT bz, ((hbox.far (p := ⟨H, 0, none⟩) hne0 _).far (p := ⟨H, 1, none⟩) hne0 _).far (p := ⟨H, 2, none⟩) hne0 _, qeO o7 hne, ky hz (by omega)⟩
theorem rglyphs (l : List ByteArray) (A : Option Addr) (n c : Nat) (w : World) (hn : l.length = n) (hc : n <= c) (hm : c <= maxLen) (rd : Rd w w.heap.size 1 A n (sv l)) (hsz : ∀ s ∈ l, s.size <= 1000) (hl : l.length <= 1000) (ht : Tb w) :
  Calls prog 46 #[.slice A n c] w (GlR (jr l) w) := by
 obtain ⟨R, hR⟩ : ∃ R, R = jr l := ⟨_, rfl⟩
 rw [<- hR]
 have hI : RgI w l R 0 (w.alloc (.cells (tC (.slice none 0 0) 0 false) 98)) :=
  ⟨⟨l, [], 0, false⟩, l.length, none, 0, rfl, Nat.le_refl _, hR.symm, ⟨⟨hsz, by show 0 + 2000 * l.length <= _; omega, fun x hx => by cases hx⟩, by show l.length <= _; omega⟩, Blk.new w _ _, zh _ _ _ _, (Below.refl _ _).alloc (Nat.le_refl _) _⟩
 have HWd : Hid (∀ i, i < n -> ∃ b o, A = some ⟨b, o, none⟩ /\ ∀ wr, Below w.heap.size w wr -> WdA (w.heap.size + 1) wr (l.drop i) (some ⟨b, o + i, none⟩) (n - i) (c - i)) := Lh fun i hi => by
  obtain ⟨b, o, hA, hb, -⟩ := rd.2 (show 0 < n by omega)
  subst hA
  refine ⟨b, o, rfl, fun wr hw => ⟨by rw [List.length_drop]; omega, by omega, by omega, ?_, fun s hs => hsz s (List.mem_of_mem_drop hs), by rw [List.length_drop]; omega, fun w' h' => ht.below (hw.trans (h'.mono (Nat.le_succ _)))⟩⟩
  have hcut := (rd.below hw).cut (k := i) (by omega) hc
  rw [if_neg (by omega), show (sv l).drop (i * 1) = sv (l.drop i) by simp [sv]] at hcut
  simp only [Nat.mul_one, Option.map_some, vm] at hcut
  exact hcut.more (Nat.le_succ _)
 have hcm : c <= 9223372036854775807 := by unfold maxLen at hm; omega
 have hn5 : n <= 1000 := by omega
 have HN := Lh hn
 clear rd hsz hl ht hR hn hm
 go_enter func46, ntmps46
 go_upto_region 2 with fail
 refine qc (RgI w l R 0) hI ?_
 clear hI
 intro X hX
 go_wp2
 go_loopw [5] (fun x wr => ∃ i : Nat, i <= n /\ x = .int .i64 i /\ RgI w l R i wr) (fun x _ => n - (intOf x).toNat)
 case atStart => exact ⟨0, Nat.zero_le _, rfl, hX⟩
 case round =>
  clear hX
  obtain ⟨i, hi, rfl, q, f, Aq, cq, hqw, hf, hq, hk, bq, oq, hb⟩ := hrel
  have hzw := bq.lt
  by_cases hlt : i < n
  ·as_aux_lemma =>
   obtain ⟨b, o, hA, hWi⟩ := HWd.out i hlt
   subst hA
   have hne : q.words ≠ [] := by
    rw [hqw]
    intro e
    have := congrArg List.length e
    rw [List.length_drop, HN.out, List.length_nil] at this
    omega
   obtain ⟨a, t, hat⟩ : ∃ a t, q.words = a :: t := by
    cases h : q.words with
    | nil => exact absurd h hne
    | cons a t => exact ⟨a, t, rfl⟩
   obtain ⟨f', rfl⟩ : ∃ f', f = f' + 1 := ⟨f - 1, by rw [hat, List.length_cons] at hf; omega⟩
   rw [k8, if_neg hne] at hq
   have hout : q.out.length <= 1000000000 := by have h := hk.1.2.1; omega
   have hot : ∀ x ∈ q.out, x.text.size <= 4000000 := fun x hx => by have := hk.1.2.2 x hx; omega
   have HOne : Hid (∀ w', Below wr.heap.size wr w' -> Calls prog 61 #[.agg #[.slice Aq q.out.length cq, .int .i64 q.style, .bool q.joins], .slice (some ⟨b, o + i, none⟩) (n - i) (c - i)] w' (PRes (w.heap.size + 1) (.slice Aq q.out.length cq) w' (l.drop i) (zR q))) := Lh fun w' hw' => by
    have h := rone q.out q.style q.joins q.words hout Aq cq (w.heap.size + 1) w' (by have := hw'.size; omega) (qa oq hw') (some ⟨b, o + i, none⟩) (n - i) (c - i) (by rw [hqw]; exact hWi w' (hb.trans (hw'.mono (by omega)))) hot a t hat
    rw [hqw] at h
    rwa [show (⟨l.drop i, q.out, q.style, q.joins⟩ : Prs) = q by rw [<- hqw]] at h
   have hsep : ∀ k, (Value.slice Aq q.out.length cq).ownBlock = some k -> k < wr.heap.size := fun k hk => (oq.lt k hk).2
   have hdn : (l.drop i).length = n - i := by rw [List.length_drop, HN.out]
   have hii : (0 : Int) <= i := by omega
   have hin : (i : Int) <= n := by omega
   have hin2 : (i : Int) < n := by omega
   have hic : (i : Int) <= c := by omega
   have hci : ¬ c = i := by omega
   have hPart : ∀ q', zR q = some q' -> PaK2 q' := fun q' h => hk.part h
   have hless : ∀ q', zR q = some q' -> q'.words.length < q.words.length := fun q' h => qcV h
   clear hot hout hk hat
   generalize zR q = PT at *
   have c0 := bq.cell 0
   have c1 := bq.cell 1
   have c2 := bq.cell 2
   simp only [tC, La, Lb, Lc] at c0 c1 c2
   have hd1 : Below wr.heap.size wr wr.drew := (Below.refl _ _).drew
   have hd2 : Below wr.heap.size wr (wr.drew.alloc (.cells (tC (.slice none 0 0) 0 false) 98)) := hd1.alloc (Nat.le_refl _) _
   have HBx : Hid (∀ w' w5, Below wr.heap.size wr w' -> Below (w.heap.size + 1) w' w5 -> Blk w5 w.heap.size 98 (tC (.slice Aq q.out.length cq) q.style q.joins) /\ Below w.heap.size w w5) := Lh fun w' w5 h1 h2 => ⟨(bq.below h1 hzw).below h2 (Nat.lt_succ_self _), (hb.trans (h1.mono (by omega))).trans (h2.mono (Nat.le_succ _))⟩
   cases PT with
   | none =>
    as_aux_lemma =>
    have e0 : R = none := hq.symm
    replace e0 := Lh e0
    clear hq hPart hless oq hne hqw hf hWi HWd bq
    go_upto_region 4 with fail
    go_cut [7] (fun v wx => v = .int .i64 0 /\ Below w.heap.size w wx)
    case first =>
     as_aux_lemma =>
     go_region_held3 (fun w' => w'.cell? ⟨w.heap.size, 0, none⟩ = some (.slice Aq q.out.length cq) /\ w'.cell? ⟨w.heap.size, 1, none⟩ = some (.int .i64 q.style) /\ w'.cell? ⟨w.heap.size, 2, none⟩ = some (.bool q.joins)) (first | go_keep | (refine ⟨?_, ?_, ?_⟩ <;> (rw [qcS (by omega)]; assumption))) (first
      | (go_at_call 61; refine (HOne.out wr.drew hd1).mono ?_; rintro e w5 ⟨A', m', c', st', j', rfl, bg5⟩; obtain ⟨E5, hb5⟩ := HBx.out _ _ hd1 bg5.1; have zz5 := Nat.le_trans hd1.size bg5.size; have k0 := E5.cell 0; have k1 := E5.cell 1; have k2 := E5.cell 2; simp only [tC, La, Lb, Lc] at k0 k1 k2; (try simp only [tC]))
      | (go_at_call 61; refine (HOne.out _ hd2).mono ?_; rintro e w5 ⟨A', m', c', st', j', rfl, bg5⟩; obtain ⟨E5, hb5⟩ := HBx.out _ _ hd2 bg5.1; have zz5 := Nat.le_trans hd2.size bg5.size; have k0 := E5.cell 0; have k1 := E5.cell 1; have k2 := E5.cell 2; have BZ : Blk w5 wr.heap.size 98 (tC (.slice none 0 0) 0 false) := (Blk.new_ (w := wr.drew) rfl).grown bg5.2 (jL fun k hk => Nat.ne_of_lt (hsep k hk)); have y0 := BZ.cell 0; have y1 := BZ.cell 1; have y2 := BZ.cell 2; have z0 := BZ.frozen 0; have z1 := BZ.frozen 1; have z2 := BZ.frozen 2; simp only [tC, La, Lb, Lc] at k0 k1 k2 y0 y1 y2; (try simp only [tC])))
     all_goals go_wp2
     all_goals go_meet
     all_goals exact ⟨rfl, by first | exact ky (hb5.alloc (by omega) _) (by omega) | exact ky hb5 (by omega) | exact hb5.alloc (by omega) _⟩
    case rest =>
     obtain ⟨w6, rfl⟩ : ∃ x : World, x = wc := ⟨_, rfl⟩
     obtain ⟨rfl, hb6⟩ := hcut
     go_wp2
     go_ret2
     rw [e0.out]
     exact ⟨hb6, rfl⟩
   | some q' =>
    as_aux_lemma =>
    have hk' := Lh (hPart q' rfl)
    have hle := Lh (hless q' rfl)
    have hqq := Lh hq
    have HQw := Lh hqw
    have HF := Lh hf
    clear hq hPart hless hne hqw hf hWi HWd bq
    go_upto_region 4 with fail
    go_cut [6, 7] (fun v6 v7 wx => ∃ m : Nat, v7 = .int .i64 (m : Int) /\ 0 < m /\ m <= n - i /\ q'.words = (l.drop i).drop m /\ RgN w q' v6 wx)
    case first =>
     as_aux_lemma =>
     go_region_held3 (fun w' => w'.cell? ⟨w.heap.size, 0, none⟩ = some (.slice Aq q.out.length cq) /\ w'.cell? ⟨w.heap.size, 1, none⟩ = some (.int .i64 q.style) /\ w'.cell? ⟨w.heap.size, 2, none⟩ = some (.bool q.joins)) (first | go_keep | (refine ⟨?_, ?_, ?_⟩ <;> (rw [qcS (by omega)]; assumption))) (first
      | (go_at_call 61; refine (HOne.out wr.drew hd1).mono ?_; rintro e w5 ⟨A7, c7, m, hm0, hm1, hm2, rfl, o7, bg5, hs7⟩; obtain ⟨E5, hb5⟩ := HBx.out _ _ hd1 bg5.1; have zz5 := Nat.le_trans hd1.size bg5.size; have k0 := E5.cell 0; have k1 := E5.cell 1; have k2 := E5.cell 2; simp only [tC, La, Lb, Lc] at k0 k1 k2; (try simp only [tC]))
      | (go_at_call 61; refine (HOne.out _ hd2).mono ?_; rintro e w5 ⟨A7, c7, m, hm0, hm1, hm2, rfl, o7, bg5, hs7⟩; obtain ⟨E5, hb5⟩ := HBx.out _ _ hd2 bg5.1; have zz5 := Nat.le_trans hd2.size bg5.size; have k0 := E5.cell 0; have k1 := E5.cell 1; have k2 := E5.cell 2; have BZ : Blk w5 wr.heap.size 98 (tC (.slice none 0 0) 0 false) := (Blk.new_ (w := wr.drew) rfl).grown bg5.2 (jL fun k hk => Nat.ne_of_lt (hsep k hk)); have y0 := BZ.cell 0; have y1 := BZ.cell 1; have y2 := BZ.cell 2; have z0 := BZ.frozen 0; have z1 := BZ.frozen 1; have z2 := BZ.frozen 2; simp only [tC, La, Lb, Lc] at k0 k1 k2 y0 y1 y2; (try simp only [tC])))
     all_goals go_wp2
     all_goals go_meet
     all_goals refine ⟨m, rfl, hm0, by omega, hm2, ?_⟩
     all_goals first
      | exact RgN.mk hzw (Blk.new_ rfl) zz5 (E5.alloc _) (o7.alloc _) (hb5.alloc (by omega) _) (fun k hk => by have := (o7.lt k hk).2; omega)
      | exact ⟨w5.heap.size, A7, c7, _, _, _, _, _, rfl, by omega, Blk.new_ rfl, E5.alloc _, o7.alloc _, hb5.alloc (by omega) _⟩
      | exact RgN.mk hzw BZ (Nat.le_refl _) E5 o7 hb5 (fun k hk => by rcases hs7 k hk with ⟨h, _⟩ | h; · have := hsep k h; omega
                                                                      · simp at h; omega)
    case rest =>
     obtain ⟨w6, rfl⟩ : ∃ x : World, x = wc := ⟨_, rfl⟩
     obtain ⟨m, rfl, hm0, hm1, hm2, H, A7, c7, m0, A0, c0', st0, j0, rfl, hwH, bH, b0, o6, hb6⟩ := hcut
     have h0 := bH.cell 0
     have h1 := bH.cell 1
     have h2 := bH.cell 2
     have k0 := b0.cell 0
     have k1 := b0.cell 1
     have k2 := b0.cell 2
     have f0 := b0.frozen 0
     have f1 := b0.frozen 1
     have f2 := b0.frozen 2
     simp only [tC, La, Lb, Lc] at h0 h1 h2 k0 k1 k2
     have hmz : ((m : Int) == 0) = false := beq_eq_false_iff_ne.2 (by omega)
     have hwi : IntKind.i64.wrap ((i : Int) + m) = (i : Int) + m := by rw [IntKind.wrap_i64]; omega
     have bn := qaT (a' := .slice A7 q'.out.length c7) (b' := .int .i64 q'.style) (c' := .bool q'.joins) b0
     have on := qs (qs (qs o6 (p := ⟨w.heap.size, 0, none⟩) (Nat.lt_succ_self _) (.slice A7 q'.out.length c7)) (p := ⟨w.heap.size, 1, none⟩) (Nat.lt_succ_self _) (.int .i64 q'.style)) (p := ⟨w.heap.size, 2, none⟩) (Nat.lt_succ_self _) (.bool q'.joins)
     have hbn := ky (a' := .slice A7 q'.out.length c7) (b' := .int .i64 q'.style) (c' := .bool q'.joins) (g := w.heap.size) hb6 (Nat.le_refl _)
     clear bH b0 o6 hb6
     go_wp2
     exact ⟨⟨i + m, by omega, by first | go_num | simp, q', f', A7, c7, by rw [hm2, List.drop_drop], by have := hle.out; have := HF.out; omega, hqq.out, hk'.out, bn, on, hbn⟩, by simp [intOf]; omega⟩
  ·as_aux_lemma =>
   obtain rfl : i = n := by omega
   have h0 : q.words = [] := by rw [hqw, <- HN.out, List.drop_length]
   have e0 : R = some q.out := by rw [<- hq]; cases f <;> simp [k8, h0]
   replace e0 := Lh e0
   have c0 := bq.cell 0
   simp only [tC, La, Lb, Lc] at c0
   clear hq hk h0 HWd hqw hf
   go_wp2
   go_ret2
   rw [e0.out]
   exact ⟨hb, Aq, cq, rfl, qq oq (Nat.le_succ _)⟩
end Go.Proofs.YtlndbiamiioakaaGreatDoor
