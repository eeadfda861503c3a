/- Joined texts: PaD, PaF. -/
import Derived.LoopN
import Derived.Test.YtholajadbbdcmaaGreatDoorQAA
import Derived.Test.YtholajadbbdcmaaGreatDoorQAC
import Derived.Test.YtholajadbbdcmaaGreatDoorQAD
import Derived.Test.YtholajadbbdcmaaGreatDoorQAE
import Derived.Test.YtholajadbbdcmaaGreatDoorQAF
import Derived.Test.YtholajadbbdcmaaGreatDoorQAG
import Derived.Test.YtholajadbbdcmaaGreatDoorQAH
import Derived.Test.YtholajadbbdcmaaGreatDoorQAI
import Derived.Test.YtholajadbbdcmaaGreatDoorQAM
import Derived.Test.YtholajadbbdcmaaGreatDoorQAN
import Derived.Test.YtholajadbbdcmaaGreatDoorQAQ
import Derived.Test.YtholajadbbdcmaaGreatDoorQAS
import Derived.Test.YtholajadbbdcmaaGreatDoorQAT
import Derived.Test.YtholajadbbdcmaaGreatDoorQAU
import Derived.Test.YtholajadbbdcmaaGreatDoorQAW
import Derived.Test.YtholajadbbdcmaaGreatDoorQAX
import Derived.Test.YtholajadbbdcmaaGreatDoorQAY
import Derived.Test.YtholajadbbdcmaaGreatDoorQAZ
set_option linter.unusedVariables false
set_option linter.unusedSimpArgs false
set_option linter.unnecessarySimpa false
namespace Go.Proofs.YtholajadbbdcmaaGreatDoor
open Go.RowKit
set_option maxRecDepth 20000
theorem PaS.words1 {w : World} {g nb : Nat} {q : Prs} (h : PaS w g nb q) : ∃ A c, w.cell? ⟨g, 1, none⟩ = some (.slice A q.words.length c) := by
 obtain ⟨A, n, c, A2, c2, h1, h2, h3, h4, h5⟩ := h
 have hn : q.words.length = n := by have := h4.1; simp [sv] at this; omega
 have C1 := h3.cell 1
 simp only [parC, List.getElem?_toArray, List.getElem?_cons_zero, List.getElem?_cons_succ] at C1
 exact ⟨A, c, by rw [hn]; exact C1⟩
theorem PaS.out_lt {w : World} {g nb : Nat} {q : Prs} (h : PaS w g nb q) : ∀ b o s n c, w.cell? ⟨g, 2, none⟩ = some (.slice (some ⟨b, o, s⟩) n c) → b < w.heap.size := by
 obtain ⟨A, n, c, A2, c2, h1, h2, h3, h4, h5⟩ := h
 have C2 := h3.cell 2
 simp only [parC, List.getElem?_toArray, List.getElem?_cons_zero, List.getElem?_cons_succ] at C2
 intro b o s n' c' hc
 rw [C2] at hc
 simp only [Option.some.injEq, Value.slice.injEq] at hc
 obtain ⟨rfl, rfl, rfl⟩ := hc
 rcases h5.2 with ⟨h0, _⟩ | ⟨G, cap, cur, hv, h1, h2, _⟩
 ·cases h0
 ·simp only [Value.slice.injEq, Option.some.injEq, Addr.mk.injEq] at hv
  obtain ⟨⟨rfl, _, _⟩, _, _⟩ := hv
  have hb : Blk w b 89 cur := h2
  exact hb.lt
def PaV (w : World) (g : Nat) (X : World) : Prop := Below w.heap.size w X ∧ X.heap.size = w.heap.size + 1 ∧
 X.cell? ⟨w.heap.size, 0, none⟩ = some (.func (.func 174) #[.pointer (some ⟨g, 0, none⟩)] #[]) ∧ X.cell? ⟨w.heap.size, 1, none⟩ = some (.func (.func 175) #[.pointer (some ⟨g, 0, none⟩)] #[]) ∧ X.cell? ⟨w.heap.size, 2, none⟩ = some (.func (.func 176) #[.pointer (some ⟨g, 0, none⟩)] #[]) ∧
 X.cell? ⟨w.heap.size, 3, none⟩ = some (.func (.func 177) #[.pointer (some ⟨g, 0, none⟩)] #[]) ∧ X.cell? ⟨w.heap.size, 4, none⟩ = some (.func (.func 178) #[.pointer (some ⟨g, 0, none⟩)] #[])
theorem PaV.new (w : World) (g : Nat) (t : TypeId) : PaV w g (w.alloc (.cells #[(.func (.func 174) #[.pointer (some ⟨g, 0, none⟩)] #[]), (.func (.func 175) #[.pointer (some ⟨g, 0, none⟩)] #[]), (.func (.func 176) #[.pointer (some ⟨g, 0, none⟩)] #[]), (.func (.func 177) #[.pointer (some ⟨g, 0, none⟩)] #[]), (.func (.func 178) #[.pointer (some ⟨g, 0, none⟩)] #[])] t)) :=
 ⟨(Below.refl _ _).alloc (Nat.le_refl _) _, by simp, cell_built w _ t 0, cell_built w _ t 1, cell_built w _ t 2, cell_built w _ t 3, cell_built w _ t 4⟩
def PaP (g nb : Nat) (o : Option Prs) (w : World) (e : Ending) (w' : World) : Prop :=
 Below g w w' ∧ match o with
 | some q => e = .returned (.bool true) ∧ PaS w' g nb q
 | none => e = .returned (.bool false)
set_option maxHeartbeats 4000000 in
theorem part_ (E : World) (p : Prs) (g nb : Nat) (w : World) (hE : PaE E g nb) (hSt : Sty E) (hEw : Below g E w) (h : PaS w g nb p) (hk : PaK p) : Calls Tryz.prog 151 #[.pointer (some ⟨g, 0, none⟩)] w (PaP g nb (partL p) w) := by
 have hgl := h.lt
 have hmf : ∀ (fn : Fn) (first cap : Array Value) (w : World), (Instr.makeFunc fn first cap).run Tryz.prog w = .ok (.func fn first cap) w := fun _ _ _ _ => rfl
 have hE0 : E.heap.size = g := hE.2.2.2
 obtain ⟨A1, c1, C1⟩ := h.words1
 have KW : ∀ {w' : World}, Below w.heap.size w w' → Below g E w' := fun hw => hEw.trans (hw.mono (Nat.le_of_lt hgl))
 have HCz : Hid (∀ w', Below w.heap.size w w' → w'.cell? ⟨g, 1, none⟩ = some (.slice A1 p.words.length c1)) := Lib.hid fun w' hw => (hw.cell (show g < _ from hgl)).trans C1
 have HO := Lib.hid h.out_lt
 have Q0 : Hid (∀ w', Below w.heap.size w w' → Calls Tryz.prog 174 #[.pointer (some ⟨g, 0, none⟩)] w' (PaR g nb p (styledL p) w')) := Lib.hid fun w' hw => styled_ p g nb w' (hSt.below (KW hw) (Nat.le_of_eq hE0)) (h.below hw)
 have Q1 : Hid (∀ w', Below w.heap.size w w' → Calls Tryz.prog 175 #[.pointer (some ⟨g, 0, none⟩)] w' (PaR g nb p (wordL p) w')) := Lib.hid fun w' hw => word_ p g nb w' (h.below hw) (hE.set (KW hw)) hk
 have Q2 : Hid (∀ w', Below w.heap.size w w' → Calls Tryz.prog 176 #[.pointer (some ⟨g, 0, none⟩)] w' (PaR g nb p (figL p) w')) := Lib.hid fun w' hw => figures_ p g nb w' (h.below hw) hk
 have Q3 : Hid (∀ w', Below w.heap.size w w' → Calls Tryz.prog 177 #[.pointer (some ⟨g, 0, none⟩)] w' (PaR2 g nb p (signL p) w')) := Lib.hid fun w' hw => sign_ E p g nb w' hE (KW hw) (h.below hw) hk
 have Q4 : Hid (∀ (q : Prs) (w' : World), q.words = p.words → PaS w' g nb q → (charW p.words = none → q = p) → Below g w w' → Calls Tryz.prog 178 #[.pointer (some ⟨g, 0, none⟩)] w' (PaR3 g nb p (amtL p) w')) := Lib.hid fun q w' hq hs hc hw => by
  by_cases hcw : charW p.words = none
  ·obtain rfl := hc hcw
   exact amount_ E q g nb w' hE (hEw.trans hw) hs hk
  ·obtain ⟨x, hx⟩ := Option.ne_none_iff_exists'.1 hcw
   have hp := charW_prefix hx
   have ha : amtL p = none := by unfold amtL; rw [hp]
   rw [ha]
   refine (amount_no q g nb w' hs (fun s hs => hk.sz s (by rw [← hq]; exact hs)) (by rw [hq]; exact hk.len) (by rw [hq]; exact hp)).mono fun e w'' ⟨h1, h2, h3⟩ => ⟨h1, h2, q, hq, h3⟩
 have hpl : p.words.length ≤ 500000 := hk.len
 clear hE hSt hEw hk hE0 C1 h KW
 cases e0 : styledL p with
 | some q =>
  have er : partL p = some q := by unfold partL; rw [e0]; rfl
  rw [er]
  rw [e0] at Q0
  clear er e0 Q1 Q2 Q3 Q4
  go_enter Tryz.func151, Tryz.ntmps151
  go_upto_region 2 with fail
  refine wp_fg (PaV w g) (PaV.new w g _) ?_
  rintro X ⟨hbX, hzX, F0, G1, G2, G3, G4⟩
  have hFl : w.heap.size < X.heap.size := by omega
  have HW : Hid (∀ w', Below X.heap.size X w' → Below w.heap.size w w') := Lib.hid fun w' hb => hbX.trans (hb.mono hbX.size)
  have HC1 : Hid (∀ w', Below X.heap.size X w' → w'.cell? ⟨g, 1, none⟩ = some (.slice A1 p.words.length c1)) := Lib.hid fun w' hb => HCz.out w' (HW.out w' hb)
  have HFz : Hid (∀ w', Below X.heap.size X w' → w.heap.size < w'.heap.size) := Lib.hid fun w' hb => by have := hb.size; omega
  have HF1 : Hid (∀ w', Below X.heap.size X w' → w'.cell? ⟨w.heap.size, 1, none⟩ = some (.func (.func 175) #[.pointer (some ⟨g, 0, none⟩)] #[])) := Lib.hid fun w' hb => (hb.cell hFl).trans G1
  have HF2 : Hid (∀ w', Below X.heap.size X w' → w'.cell? ⟨w.heap.size, 2, none⟩ = some (.func (.func 176) #[.pointer (some ⟨g, 0, none⟩)] #[])) := Lib.hid fun w' hb => (hb.cell hFl).trans G2
  have HF3 : Hid (∀ w', Below X.heap.size X w' → w'.cell? ⟨w.heap.size, 3, none⟩ = some (.func (.func 177) #[.pointer (some ⟨g, 0, none⟩)] #[])) := Lib.hid fun w' hb => (hb.cell hFl).trans G3
  have HF4 : Hid (∀ w', Below X.heap.size X w' → w'.cell? ⟨w.heap.size, 4, none⟩ = some (.func (.func 178) #[.pointer (some ⟨g, 0, none⟩)] #[])) := Lib.hid fun w' hb => (hb.cell hFl).trans G4
  have hb1 : Below X.heap.size X X := Below.refl _ _
  have cc1 := HC1.out _ hb1
  clear G1 G2 G3 G4 hzX
  have K0 : Hid (∀ w', Below X.heap.size X w' → Calls Tryz.prog 174 #[.pointer (some ⟨g, 0, none⟩)] w' fun e w'' => e = .returned (.bool true) ∧ Below g w w'' ∧ PaS w'' g nb q) := Lib.hid fun w' hb => (Q0.out w' (HW.out w' hb)).mono fun e w'' ⟨a, b, c⟩ => ⟨b, ((HW.out w' hb).mono (Nat.le_of_lt hgl)).trans a, c⟩
  clear HF1 HF2 HF3 HF4 HFz
  go_wp2
  refine wp_loop_rounds 6 ?_
  rw [rounds_succ]
  go_wp2_with (go_at_call 174; refine (K0.out _ hb1).mono ?_; rintro e wz ⟨rfl, hbz, hpz⟩)
  go_ret
  exact ⟨hbz, rfl, hpz⟩
 | none =>
  rw [e0] at Q0
  cases e1 : wordL p with
  | some q =>
   have er : partL p = some q := by unfold partL; rw [e0, e1]; rfl
   rw [er]
   rw [e1] at Q1
   clear er e0 e1 Q2 Q3 Q4
   go_enter Tryz.func151, Tryz.ntmps151
   go_upto_region 2 with fail
   refine wp_fg (PaV w g) (PaV.new w g _) ?_
   rintro X ⟨hbX, hzX, F0, G1, G2, G3, G4⟩
   have hFl : w.heap.size < X.heap.size := by omega
   have HW : Hid (∀ w', Below X.heap.size X w' → Below w.heap.size w w') := Lib.hid fun w' hb => hbX.trans (hb.mono hbX.size)
   have HC1 : Hid (∀ w', Below X.heap.size X w' → w'.cell? ⟨g, 1, none⟩ = some (.slice A1 p.words.length c1)) := Lib.hid fun w' hb => HCz.out w' (HW.out w' hb)
   have HFz : Hid (∀ w', Below X.heap.size X w' → w.heap.size < w'.heap.size) := Lib.hid fun w' hb => by have := hb.size; omega
   have HF1 : Hid (∀ w', Below X.heap.size X w' → w'.cell? ⟨w.heap.size, 1, none⟩ = some (.func (.func 175) #[.pointer (some ⟨g, 0, none⟩)] #[])) := Lib.hid fun w' hb => (hb.cell hFl).trans G1
   have HF2 : Hid (∀ w', Below X.heap.size X w' → w'.cell? ⟨w.heap.size, 2, none⟩ = some (.func (.func 176) #[.pointer (some ⟨g, 0, none⟩)] #[])) := Lib.hid fun w' hb => (hb.cell hFl).trans G2
   have HF3 : Hid (∀ w', Below X.heap.size X w' → w'.cell? ⟨w.heap.size, 3, none⟩ = some (.func (.func 177) #[.pointer (some ⟨g, 0, none⟩)] #[])) := Lib.hid fun w' hb => (hb.cell hFl).trans G3
   have HF4 : Hid (∀ w', Below X.heap.size X w' → w'.cell? ⟨w.heap.size, 4, none⟩ = some (.func (.func 178) #[.pointer (some ⟨g, 0, none⟩)] #[])) := Lib.hid fun w' hb => (hb.cell hFl).trans G4
   have hb1 : Below X.heap.size X X := Below.refl _ _
   have cc1 := HC1.out _ hb1
   clear G1 G2 G3 G4 hzX
   have K0 : Hid (∀ w', Below X.heap.size X w' → Calls Tryz.prog 174 #[.pointer (some ⟨g, 0, none⟩)] w' fun e w'' => e = .returned (.bool false) ∧ Below X.heap.size X w'') := Lib.hid fun w' hb => (Q0.out w' (HW.out w' hb)).mono fun e w'' ⟨_, a, _, c⟩ => ⟨a, hb.trans (c.mono hb.size)⟩
   have K1 : Hid (∀ w', Below X.heap.size X w' → Calls Tryz.prog 175 #[.pointer (some ⟨g, 0, none⟩)] w' fun e w'' => e = .returned (.bool true) ∧ Below g w w'' ∧ PaS w'' g nb q) := Lib.hid fun w' hb => (Q1.out w' (HW.out w' hb)).mono fun e w'' ⟨a, b, c⟩ => ⟨b, ((HW.out w' hb).mono (Nat.le_of_lt hgl)).trans a, c⟩
   clear HF2 HF3 HF4 HFz
   go_wp2
   refine wp_loop_rounds 6 ?_
   rw [rounds_succ]
   go_wp2_with (go_at_call 174; refine (K0.out _ hb1).mono ?_; rintro e w2 ⟨rfl, hb2⟩; have cc2 := HC1.out _ hb2; have F1 := HF1.out _ hb2)
   rw [rounds_succ]
   go_wp2_with (go_at_call 175; refine (K1.out _ hb2).mono ?_; rintro e wz ⟨rfl, hbz, hpz⟩)
   go_ret
   exact ⟨hbz, rfl, hpz⟩
  | none =>
   rw [e1] at Q1
   cases e2 : figL p with
   | some q =>
    have er : partL p = some q := by unfold partL; rw [e0, e1, e2]; rfl
    rw [er]
    rw [e2] at Q2
    clear er e0 e1 e2 Q3 Q4
    go_enter Tryz.func151, Tryz.ntmps151
    go_upto_region 2 with fail
    refine wp_fg (PaV w g) (PaV.new w g _) ?_
    rintro X ⟨hbX, hzX, F0, G1, G2, G3, G4⟩
    have hFl : w.heap.size < X.heap.size := by omega
    have HW : Hid (∀ w', Below X.heap.size X w' → Below w.heap.size w w') := Lib.hid fun w' hb => hbX.trans (hb.mono hbX.size)
    have HC1 : Hid (∀ w', Below X.heap.size X w' → w'.cell? ⟨g, 1, none⟩ = some (.slice A1 p.words.length c1)) := Lib.hid fun w' hb => HCz.out w' (HW.out w' hb)
    have HFz : Hid (∀ w', Below X.heap.size X w' → w.heap.size < w'.heap.size) := Lib.hid fun w' hb => by have := hb.size; omega
    have HF1 : Hid (∀ w', Below X.heap.size X w' → w'.cell? ⟨w.heap.size, 1, none⟩ = some (.func (.func 175) #[.pointer (some ⟨g, 0, none⟩)] #[])) := Lib.hid fun w' hb => (hb.cell hFl).trans G1
    have HF2 : Hid (∀ w', Below X.heap.size X w' → w'.cell? ⟨w.heap.size, 2, none⟩ = some (.func (.func 176) #[.pointer (some ⟨g, 0, none⟩)] #[])) := Lib.hid fun w' hb => (hb.cell hFl).trans G2
    have HF3 : Hid (∀ w', Below X.heap.size X w' → w'.cell? ⟨w.heap.size, 3, none⟩ = some (.func (.func 177) #[.pointer (some ⟨g, 0, none⟩)] #[])) := Lib.hid fun w' hb => (hb.cell hFl).trans G3
    have HF4 : Hid (∀ w', Below X.heap.size X w' → w'.cell? ⟨w.heap.size, 4, none⟩ = some (.func (.func 178) #[.pointer (some ⟨g, 0, none⟩)] #[])) := Lib.hid fun w' hb => (hb.cell hFl).trans G4
    have hb1 : Below X.heap.size X X := Below.refl _ _
    have cc1 := HC1.out _ hb1
    clear G1 G2 G3 G4 hzX
    have K0 : Hid (∀ w', Below X.heap.size X w' → Calls Tryz.prog 174 #[.pointer (some ⟨g, 0, none⟩)] w' fun e w'' => e = .returned (.bool false) ∧ Below X.heap.size X w'') := Lib.hid fun w' hb => (Q0.out w' (HW.out w' hb)).mono fun e w'' ⟨_, a, _, c⟩ => ⟨a, hb.trans (c.mono hb.size)⟩
    have K1 : Hid (∀ w', Below X.heap.size X w' → Calls Tryz.prog 175 #[.pointer (some ⟨g, 0, none⟩)] w' fun e w'' => e = .returned (.bool false) ∧ Below X.heap.size X w'') := Lib.hid fun w' hb => (Q1.out w' (HW.out w' hb)).mono fun e w'' ⟨_, a, _, c⟩ => ⟨a, hb.trans (c.mono hb.size)⟩
    have K2 : Hid (∀ w', Below X.heap.size X w' → Calls Tryz.prog 176 #[.pointer (some ⟨g, 0, none⟩)] w' fun e w'' => e = .returned (.bool true) ∧ Below g w w'' ∧ PaS w'' g nb q) := Lib.hid fun w' hb => (Q2.out w' (HW.out w' hb)).mono fun e w'' ⟨a, b, c⟩ => ⟨b, ((HW.out w' hb).mono (Nat.le_of_lt hgl)).trans a, c⟩
    clear HF3 HF4 HFz
    go_wp2
    refine wp_loop_rounds 6 ?_
    rw [rounds_succ]
    go_wp2_with (go_at_call 174; refine (K0.out _ hb1).mono ?_; rintro e w2 ⟨rfl, hb2⟩; have cc2 := HC1.out _ hb2; have F1 := HF1.out _ hb2)
    rw [rounds_succ]
    go_wp2_with (go_at_call 175; refine (K1.out _ hb2).mono ?_; rintro e w3 ⟨rfl, hb3⟩; have cc3 := HC1.out _ hb3; have F2 := HF2.out _ hb3)
    rw [rounds_succ]
    go_wp2_with (go_at_call 176; refine (K2.out _ hb3).mono ?_; rintro e wz ⟨rfl, hbz, hpz⟩)
    go_ret
    exact ⟨hbz, rfl, hpz⟩
   | none =>
    rw [e2] at Q2
    cases e3 : signL p with
    | some q =>
     have er : partL p = some q := by unfold partL; rw [e0, e1, e2, e3]; rfl
     rw [er]
     rw [e3] at Q3
     clear er e0 e1 e2 e3 Q4
     go_enter Tryz.func151, Tryz.ntmps151
     go_upto_region 2 with fail
     refine wp_fg (PaV w g) (PaV.new w g _) ?_
     rintro X ⟨hbX, hzX, F0, G1, G2, G3, G4⟩
     have hFl : w.heap.size < X.heap.size := by omega
     have HW : Hid (∀ w', Below X.heap.size X w' → Below w.heap.size w w') := Lib.hid fun w' hb => hbX.trans (hb.mono hbX.size)
     have HC1 : Hid (∀ w', Below X.heap.size X w' → w'.cell? ⟨g, 1, none⟩ = some (.slice A1 p.words.length c1)) := Lib.hid fun w' hb => HCz.out w' (HW.out w' hb)
     have HFz : Hid (∀ w', Below X.heap.size X w' → w.heap.size < w'.heap.size) := Lib.hid fun w' hb => by have := hb.size; omega
     have HF1 : Hid (∀ w', Below X.heap.size X w' → w'.cell? ⟨w.heap.size, 1, none⟩ = some (.func (.func 175) #[.pointer (some ⟨g, 0, none⟩)] #[])) := Lib.hid fun w' hb => (hb.cell hFl).trans G1
     have HF2 : Hid (∀ w', Below X.heap.size X w' → w'.cell? ⟨w.heap.size, 2, none⟩ = some (.func (.func 176) #[.pointer (some ⟨g, 0, none⟩)] #[])) := Lib.hid fun w' hb => (hb.cell hFl).trans G2
     have HF3 : Hid (∀ w', Below X.heap.size X w' → w'.cell? ⟨w.heap.size, 3, none⟩ = some (.func (.func 177) #[.pointer (some ⟨g, 0, none⟩)] #[])) := Lib.hid fun w' hb => (hb.cell hFl).trans G3
     have HF4 : Hid (∀ w', Below X.heap.size X w' → w'.cell? ⟨w.heap.size, 4, none⟩ = some (.func (.func 178) #[.pointer (some ⟨g, 0, none⟩)] #[])) := Lib.hid fun w' hb => (hb.cell hFl).trans G4
     have hb1 : Below X.heap.size X X := Below.refl _ _
     have cc1 := HC1.out _ hb1
     clear G1 G2 G3 G4 hzX
     have K0 : Hid (∀ w', Below X.heap.size X w' → Calls Tryz.prog 174 #[.pointer (some ⟨g, 0, none⟩)] w' fun e w'' => e = .returned (.bool false) ∧ Below X.heap.size X w'') := Lib.hid fun w' hb => (Q0.out w' (HW.out w' hb)).mono fun e w'' ⟨_, a, _, c⟩ => ⟨a, hb.trans (c.mono hb.size)⟩
     have K1 : Hid (∀ w', Below X.heap.size X w' → Calls Tryz.prog 175 #[.pointer (some ⟨g, 0, none⟩)] w' fun e w'' => e = .returned (.bool false) ∧ Below X.heap.size X w'') := Lib.hid fun w' hb => (Q1.out w' (HW.out w' hb)).mono fun e w'' ⟨_, a, _, c⟩ => ⟨a, hb.trans (c.mono hb.size)⟩
     have K2 : Hid (∀ w', Below X.heap.size X w' → Calls Tryz.prog 176 #[.pointer (some ⟨g, 0, none⟩)] w' fun e w'' => e = .returned (.bool false) ∧ Below X.heap.size X w'') := Lib.hid fun w' hb => (Q2.out w' (HW.out w' hb)).mono fun e w'' ⟨_, a, _, c⟩ => ⟨a, hb.trans (c.mono hb.size)⟩
     have K3 : Hid (∀ w', Below X.heap.size X w' → Calls Tryz.prog 177 #[.pointer (some ⟨g, 0, none⟩)] w' fun e w'' => e = .returned (.bool true) ∧ Below g w w'' ∧ PaS w'' g nb q) := Lib.hid fun w' hb => (Q3.out w' (HW.out w' hb)).mono fun e w'' ⟨a, b, c⟩ => ⟨b, ((HW.out w' hb).mono (Nat.le_of_lt hgl)).trans a, c⟩
     clear HF4 HFz
     go_wp2
     refine wp_loop_rounds 6 ?_
     rw [rounds_succ]
     go_wp2_with (go_at_call 174; refine (K0.out _ hb1).mono ?_; rintro e w2 ⟨rfl, hb2⟩; have cc2 := HC1.out _ hb2; have F1 := HF1.out _ hb2)
     rw [rounds_succ]
     go_wp2_with (go_at_call 175; refine (K1.out _ hb2).mono ?_; rintro e w3 ⟨rfl, hb3⟩; have cc3 := HC1.out _ hb3; have F2 := HF2.out _ hb3)
     rw [rounds_succ]
     go_wp2_with (go_at_call 176; refine (K2.out _ hb3).mono ?_; rintro e w4 ⟨rfl, hb4⟩; have cc4 := HC1.out _ hb4; have F3 := HF3.out _ hb4)
     rw [rounds_succ]
     go_wp2_with (go_at_call 177; refine (K3.out _ hb4).mono ?_; rintro e wz ⟨rfl, hbz, hpz⟩)
     go_ret
     exact ⟨hbz, rfl, hpz⟩
    | none =>
     have er : partL p = amtL p := by unfold partL; rw [e0, e1, e2, e3]; rfl
     rw [er]
     rw [e3] at Q3
     clear er e0 e1 e2 e3
     cases e4 : amtL p with
     | some q =>
      rw [e4] at Q4
      clear e4
      go_enter Tryz.func151, Tryz.ntmps151
      go_upto_region 2 with fail
      refine wp_fg (PaV w g) (PaV.new w g _) ?_
      rintro X ⟨hbX, hzX, F0, G1, G2, G3, G4⟩
      have hFl : w.heap.size < X.heap.size := by omega
      have HW : Hid (∀ w', Below X.heap.size X w' → Below w.heap.size w w') := Lib.hid fun w' hb => hbX.trans (hb.mono hbX.size)
      have HC1 : Hid (∀ w', Below X.heap.size X w' → w'.cell? ⟨g, 1, none⟩ = some (.slice A1 p.words.length c1)) := Lib.hid fun w' hb => HCz.out w' (HW.out w' hb)
      have HFz : Hid (∀ w', Below X.heap.size X w' → w.heap.size < w'.heap.size) := Lib.hid fun w' hb => by have := hb.size; omega
      have HF1 : Hid (∀ w', Below X.heap.size X w' → w'.cell? ⟨w.heap.size, 1, none⟩ = some (.func (.func 175) #[.pointer (some ⟨g, 0, none⟩)] #[])) := Lib.hid fun w' hb => (hb.cell hFl).trans G1
      have HF2 : Hid (∀ w', Below X.heap.size X w' → w'.cell? ⟨w.heap.size, 2, none⟩ = some (.func (.func 176) #[.pointer (some ⟨g, 0, none⟩)] #[])) := Lib.hid fun w' hb => (hb.cell hFl).trans G2
      have HF3 : Hid (∀ w', Below X.heap.size X w' → w'.cell? ⟨w.heap.size, 3, none⟩ = some (.func (.func 177) #[.pointer (some ⟨g, 0, none⟩)] #[])) := Lib.hid fun w' hb => (hb.cell hFl).trans G3
      have HF4 : Hid (∀ w', Below X.heap.size X w' → w'.cell? ⟨w.heap.size, 4, none⟩ = some (.func (.func 178) #[.pointer (some ⟨g, 0, none⟩)] #[])) := Lib.hid fun w' hb => (hb.cell hFl).trans G4
      have hb1 : Below X.heap.size X X := Below.refl _ _
      have cc1 := HC1.out _ hb1
      clear G1 G2 G3 G4 hzX
      have K0 : Hid (∀ w', Below X.heap.size X w' → Calls Tryz.prog 174 #[.pointer (some ⟨g, 0, none⟩)] w' fun e w'' => e = .returned (.bool false) ∧ Below X.heap.size X w'') := Lib.hid fun w' hb => (Q0.out w' (HW.out w' hb)).mono fun e w'' ⟨_, a, _, c⟩ => ⟨a, hb.trans (c.mono hb.size)⟩
      have K1 : Hid (∀ w', Below X.heap.size X w' → Calls Tryz.prog 175 #[.pointer (some ⟨g, 0, none⟩)] w' fun e w'' => e = .returned (.bool false) ∧ Below X.heap.size X w'') := Lib.hid fun w' hb => (Q1.out w' (HW.out w' hb)).mono fun e w'' ⟨_, a, _, c⟩ => ⟨a, hb.trans (c.mono hb.size)⟩
      have K2 : Hid (∀ w', Below X.heap.size X w' → Calls Tryz.prog 176 #[.pointer (some ⟨g, 0, none⟩)] w' fun e w'' => e = .returned (.bool false) ∧ Below X.heap.size X w'') := Lib.hid fun w' hb => (Q2.out w' (HW.out w' hb)).mono fun e w'' ⟨_, a, _, c⟩ => ⟨a, hb.trans (c.mono hb.size)⟩
      have K3 : Hid (∀ w', Below X.heap.size X w' → w.heap.size < w'.heap.size → Calls Tryz.prog 177 #[.pointer (some ⟨g, 0, none⟩)] w' fun e w'' => e = .returned (.bool false) ∧ Below g w w'' ∧ ∃ q : Prs, q.words = p.words ∧ PaS w'' g nb q ∧ (charW p.words = none → q = p) ∧
        (∀ i : Nat, w''.cell? ⟨w.heap.size, i, none⟩ = w'.cell? ⟨w.heap.size, i, none⟩) ∧ ∃ A c, w''.cell? ⟨g, 1, none⟩ = some (.slice A p.words.length c)) := Lib.hid fun w' hb hF =>
       (Q3.out w' (HW.out w' hb)).mono fun e w'' ⟨a, b, q, hq, hs, hc, hap⟩ => ⟨b, ((HW.out w' hb).mono (Nat.le_of_lt hgl)).trans a, q, hq, hs, hc,
        fun i => hap w.heap.size i (by omega) hF (fun b o s n c hcell => Nat.ne_of_lt (HO.out b o s n c (((HW.out w' hb).cell (show g < _ from hgl)).symm.trans hcell))), by rw [← hq]; exact hs.words1⟩
      have K4 : Hid (∀ (q' : Prs) (w' : World), q'.words = p.words → PaS w' g nb q' → (charW p.words = none → q' = p) → Below g w w' → Calls Tryz.prog 178 #[.pointer (some ⟨g, 0, none⟩)] w' fun e w'' => e = .returned (.bool true) ∧ Below g w w'' ∧ PaS w'' g nb q) := Lib.hid fun q' w' hq hs hc hw =>
       (Q4.out q' w' hq hs hc hw).mono fun e w'' ⟨a, b, c⟩ => ⟨b, hw.trans a, c⟩
      go_wp2
      refine wp_loop_rounds 6 ?_
      rw [rounds_succ]
      go_wp2_with (go_at_call 174; refine (K0.out _ hb1).mono ?_; rintro e w2 ⟨rfl, hb2⟩; have cc2 := HC1.out _ hb2; have F1 := HF1.out _ hb2)
      rw [rounds_succ]
      go_wp2_with (go_at_call 175; refine (K1.out _ hb2).mono ?_; rintro e w3 ⟨rfl, hb3⟩; have cc3 := HC1.out _ hb3; have F2 := HF2.out _ hb3)
      rw [rounds_succ]
      go_wp2_with (go_at_call 176; refine (K2.out _ hb3).mono ?_; rintro e w4 ⟨rfl, hb4⟩; have cc4 := HC1.out _ hb4; have F3 := HF3.out _ hb4)
      rw [rounds_succ]
      go_wp2_with (go_at_call 177; refine (K3.out _ hb4 (HFz.out _ hb4)).mono ?_; rintro e w5 ⟨rfl, hb5, q5, hq5, hp5, hc5, hk5, A5, c5, cc5⟩; have F4 := (hk5 4).trans (HF4.out _ hb4); replace hk5 := Lib.hid hk5; replace hc5 := Lib.hid hc5; replace hq5 := Lib.hid hq5)
      rw [rounds_succ]
      go_wp2_with (go_at_call 178; refine (K4.out q5 _ hq5.out hp5 hc5.out hb5).mono ?_; rintro e wz ⟨rfl, hbz, hpz⟩)
      go_ret
      exact ⟨hbz, rfl, hpz⟩
     | none =>
      rw [e4] at Q4
      clear e4
      go_enter Tryz.func151, Tryz.ntmps151
      go_upto_region 2 with fail
      refine wp_fg (PaV w g) (PaV.new w g _) ?_
      rintro X ⟨hbX, hzX, F0, G1, G2, G3, G4⟩
      have hFl : w.heap.size < X.heap.size := by omega
      have HW : Hid (∀ w', Below X.heap.size X w' → Below w.heap.size w w') := Lib.hid fun w' hb => hbX.trans (hb.mono hbX.size)
      have HC1 : Hid (∀ w', Below X.heap.size X w' → w'.cell? ⟨g, 1, none⟩ = some (.slice A1 p.words.length c1)) := Lib.hid fun w' hb => HCz.out w' (HW.out w' hb)
      have HFz : Hid (∀ w', Below X.heap.size X w' → w.heap.size < w'.heap.size) := Lib.hid fun w' hb => by have := hb.size; omega
      have HF1 : Hid (∀ w', Below X.heap.size X w' → w'.cell? ⟨w.heap.size, 1, none⟩ = some (.func (.func 175) #[.pointer (some ⟨g, 0, none⟩)] #[])) := Lib.hid fun w' hb => (hb.cell hFl).trans G1
      have HF2 : Hid (∀ w', Below X.heap.size X w' → w'.cell? ⟨w.heap.size, 2, none⟩ = some (.func (.func 176) #[.pointer (some ⟨g, 0, none⟩)] #[])) := Lib.hid fun w' hb => (hb.cell hFl).trans G2
      have HF3 : Hid (∀ w', Below X.heap.size X w' → w'.cell? ⟨w.heap.size, 3, none⟩ = some (.func (.func 177) #[.pointer (some ⟨g, 0, none⟩)] #[])) := Lib.hid fun w' hb => (hb.cell hFl).trans G3
      have HF4 : Hid (∀ w', Below X.heap.size X w' → w'.cell? ⟨w.heap.size, 4, none⟩ = some (.func (.func 178) #[.pointer (some ⟨g, 0, none⟩)] #[])) := Lib.hid fun w' hb => (hb.cell hFl).trans G4
      have hb1 : Below X.heap.size X X := Below.refl _ _
      have cc1 := HC1.out _ hb1
      clear G1 G2 G3 G4 hzX
      have K0 : Hid (∀ w', Below X.heap.size X w' → Calls Tryz.prog 174 #[.pointer (some ⟨g, 0, none⟩)] w' fun e w'' => e = .returned (.bool false) ∧ Below X.heap.size X w'') := Lib.hid fun w' hb => (Q0.out w' (HW.out w' hb)).mono fun e w'' ⟨_, a, _, c⟩ => ⟨a, hb.trans (c.mono hb.size)⟩
      have K1 : Hid (∀ w', Below X.heap.size X w' → Calls Tryz.prog 175 #[.pointer (some ⟨g, 0, none⟩)] w' fun e w'' => e = .returned (.bool false) ∧ Below X.heap.size X w'') := Lib.hid fun w' hb => (Q1.out w' (HW.out w' hb)).mono fun e w'' ⟨_, a, _, c⟩ => ⟨a, hb.trans (c.mono hb.size)⟩
      have K2 : Hid (∀ w', Below X.heap.size X w' → Calls Tryz.prog 176 #[.pointer (some ⟨g, 0, none⟩)] w' fun e w'' => e = .returned (.bool false) ∧ Below X.heap.size X w'') := Lib.hid fun w' hb => (Q2.out w' (HW.out w' hb)).mono fun e w'' ⟨_, a, _, c⟩ => ⟨a, hb.trans (c.mono hb.size)⟩
      have K3 : Hid (∀ w', Below X.heap.size X w' → w.heap.size < w'.heap.size → Calls Tryz.prog 177 #[.pointer (some ⟨g, 0, none⟩)] w' fun e w'' => e = .returned (.bool false) ∧ Below g w w'' ∧ ∃ q : Prs, q.words = p.words ∧ PaS w'' g nb q ∧ (charW p.words = none → q = p) ∧
        (∀ i : Nat, w''.cell? ⟨w.heap.size, i, none⟩ = w'.cell? ⟨w.heap.size, i, none⟩) ∧ ∃ A c, w''.cell? ⟨g, 1, none⟩ = some (.slice A p.words.length c)) := Lib.hid fun w' hb hF =>
       (Q3.out w' (HW.out w' hb)).mono fun e w'' ⟨a, b, q, hq, hs, hc, hap⟩ => ⟨b, ((HW.out w' hb).mono (Nat.le_of_lt hgl)).trans a, q, hq, hs, hc,
        fun i => hap w.heap.size i (by omega) hF (fun b o s n c hcell => Nat.ne_of_lt (HO.out b o s n c (((HW.out w' hb).cell (show g < _ from hgl)).symm.trans hcell))), by rw [← hq]; exact hs.words1⟩
      have K4 : Hid (∀ (q' : Prs) (w' : World), q'.words = p.words → PaS w' g nb q' → (charW p.words = none → q' = p) → Below g w w' → Calls Tryz.prog 178 #[.pointer (some ⟨g, 0, none⟩)] w' fun e w'' => e = .returned (.bool false) ∧ Below g w w'' ∧ ∃ A c, w''.cell? ⟨g, 1, none⟩ = some (.slice A p.words.length c)) := Lib.hid fun q' w' hq hs hc hw =>
       (Q4.out q' w' hq hs hc hw).mono fun e w'' ⟨a, b, q2, hq2, hs2⟩ => ⟨b, hw.trans a, by rw [← hq2]; exact hs2.words1⟩
      go_wp2
      refine wp_loop_rounds 6 ?_
      rw [rounds_succ]
      go_wp2_with (go_at_call 174; refine (K0.out _ hb1).mono ?_; rintro e w2 ⟨rfl, hb2⟩; have cc2 := HC1.out _ hb2; have F1 := HF1.out _ hb2)
      rw [rounds_succ]
      go_wp2_with (go_at_call 175; refine (K1.out _ hb2).mono ?_; rintro e w3 ⟨rfl, hb3⟩; have cc3 := HC1.out _ hb3; have F2 := HF2.out _ hb3)
      rw [rounds_succ]
      go_wp2_with (go_at_call 176; refine (K2.out _ hb3).mono ?_; rintro e w4 ⟨rfl, hb4⟩; have cc4 := HC1.out _ hb4; have F3 := HF3.out _ hb4)
      rw [rounds_succ]
      go_wp2_with (go_at_call 177; refine (K3.out _ hb4 (HFz.out _ hb4)).mono ?_; rintro e w5 ⟨rfl, hb5, q5, hq5, hp5, hc5, hk5, A5, c5, cc5⟩; have F4 := (hk5 4).trans (HF4.out _ hb4); replace hk5 := Lib.hid hk5; replace hc5 := Lib.hid hc5; replace hq5 := Lib.hid hq5)
      rw [rounds_succ]
      go_wp2_with (go_at_call 178; refine (K4.out q5 _ hq5.out hp5 hc5.out hb5).mono ?_; rintro e w6 ⟨rfl, hb6, A6, c6, cc6⟩)
      rw [rounds_succ]
      go_wp2
      go_ret
      exact ⟨hb6, rfl⟩
def GlR (o : Option (List Gl)) (w : World) (e : Ending) (w' : World) : Prop :=
 Below w.heap.size w w' ∧ match o with
 | none => e = .returned (.tuple #[.slice none 0 0, .int .i64 17])
 | some G => ∃ A c, e = .returned (.tuple #[.slice A G.length c, .int .i64 0]) ∧ w'.ownsRow w.heap.size 89 3 (.slice A G.length c) G.length (encGs G)
def leftN (w : World) (g : Nat) : Nat := match w.cell? ⟨g, 1, none⟩ with
 | some (.slice _ n _) => n
 | _ => 0
theorem PaS.left {w : World} {g nb : Nat} {q : Prs} (h : PaS w g nb q) : leftN w g = q.words.length := by
 obtain ⟨A, c, hc⟩ := h.words1
 unfold leftN
 rw [hc]
theorem PaS.out2 {w : World} {g nb : Nat} {q : Prs} (h : PaS w g nb q) : ∃ A c, w.cell? ⟨g, 2, none⟩ = some (.slice A q.out.length c) ∧ w.ownsRow (g + 1) 89 3 (.slice A q.out.length c) q.out.length (encGs q.out) := by
 obtain ⟨A, n, c, A2, c2, h1, h2, h3, h4, h5⟩ := h
 have C2 := h3.cell 2
 simp only [parC, List.getElem?_toArray, List.getElem?_cons_zero, List.getElem?_cons_succ] at C2
 exact ⟨A2, c2, C2, h5⟩
def GlI (w w1 : World) (nb : Nat) (R : Option (List Gl)) (wr : World) : Prop :=
 ∃ q f, q.words.length ≤ f ∧ readL f q = R ∧ PaS wr w1.heap.size nb q ∧ PaK2 q ∧ Below w1.heap.size w1 wr ∧ Below w.heap.size w wr
set_option maxHeartbeats 2000000 in
theorem glyphs_ (l : List ByteArray) (A : Option Addr) (n c : Nat) (w : World) (hn : l.length = n) (hc : n ≤ c) (hm : c ≤ maxLen) (rd : Rd w w.heap.size 1 A n (sv l)) (hsz : ∀ s ∈ l, s.size ≤ 1000) (hl : l.length ≤ 400000) (hs : Sp w) (hu : U8 w) (hy : Sty w) :
  Calls Tryz.prog 132 #[.slice A n c] w (GlR (glyphsL l) w) := by
 obtain ⟨R, hR⟩ : ∃ R, R = glyphsL l := ⟨_, rfl⟩
 rw [← hR]
 have HR := Lib.hid (reserved_ w hs)
 have HI : Hid (∀ (w1 : World) (b1 : Nat), SetM w1 b1 200 resB → Below w.heap.size w w1 → GlI w w1 b1 R (w1.alloc (.cells (parC b1 (.slice A n c) (.slice none 0 0) 0 false) 204)) ∧ PaE w1 w1.heap.size b1 ∧ Sty w1) := Lib.hid fun w1 b1 hset hb =>
  ⟨⟨⟨l, [], 0, false⟩, l.length, Nat.le_refl _, hR.symm,
   ⟨A, n, c, none, 0, hc, hm, Blk.new w1 _ _, ((rd.below hb).more hb.size).below (Below.alloc (Below.refl w1.heap.size w1) (Nat.le_refl _) _), own_nil _ _ _ _⟩,
   ⟨⟨hsz, by show 0 + 2000 * l.length ≤ _; omega, fun x hx => by cases hx⟩, hl⟩, (Below.refl w1.heap.size w1).alloc (Nat.le_refl _) _, hb.alloc hb.size _⟩,
   ⟨hs.below hb (Nat.le_refl _), hu.below hb, hset, rfl⟩, hy.below hb (Nat.le_refl _)⟩
 clear rd hsz hl hs hu hy hR hn hc hm
 go_enter Tryz.func132, Tryz.ntmps132
 go_wp2_with (go_at_call 150; refine HR.out.mono ?_; rintro e w1 ⟨b1, rfl, hset1, hb1, hbel1⟩)
 obtain ⟨hI, hE, hSt⟩ := HI.out w1 b1 hset1 hbel1
 have hE' := Lib.hid hE
 have hSt' := Lib.hid hSt
 have hsz1 : w.heap.size ≤ w1.heap.size := hbel1.size
 clear hset1 hE hSt HI HR hb1 hbel1
 go_loopw [17] (fun x wr => GlI w w1 b1 R wr) (fun x wr => leftN wr w1.heap.size)
 case atStart => exact hI
 case round =>
  clear hI
  obtain ⟨q, f, hf, hq, hp, hk, hb1, hb⟩ := hrel
  have hleft := Lib.hid hp.left
  obtain ⟨A1, c1, C1⟩ := hp.words1
  by_cases h0 : q.words = []
  ·have e0 : R = some q.out := by rw [← hq]; cases f <;> simp [readL, h0]
   have hl0 : q.words.length = 0 := by rw [h0]; rfl
   rw [hl0] at C1
   obtain ⟨A2, c2, C2, ho⟩ := hp.out2
   replace e0 := Lib.hid e0
   clear hq hk hl0 h0
   go_wp2
   go_ret2
   rw [e0.out]
   exact ⟨hb, A2, c2, rfl, own_less ho (by omega)⟩
  ·have hpos : 0 < q.words.length := List.length_pos_iff.2 h0
   obtain ⟨f', rfl⟩ : ∃ f', f = f' + 1 := ⟨f - 1, by omega⟩
   have hgt : decide ((0 : Int) < q.words.length) = true := decide_eq_true (by omega)
   have HP := Lib.hid (part_ w1 q w1.heap.size b1 _ hE'.out hSt'.out hb1 hp hk.1)
   rw [readL, if_neg h0] at hq
   cases hpt : partL q with
   | none =>
    rw [hpt] at hq HP
    have e0 := Lib.hid hq.symm
    clear hq hk hp hpos hgt hpt
    have hb1' := Lib.hid hb1
    have hb' := Lib.hid hb
    clear hb hb1
    have hpos : (0 : Int) < q.words.length := by have := List.length_pos_iff.2 h0; omega
    go_wp2_with (go_at_call 151; refine HP.out.mono ?_; rintro e w5 ⟨hb5, rfl⟩)
    go_ret2
    rw [e0.out]
    exact ⟨hb'.out.trans (hb5.mono hsz1), rfl⟩
   | some q' =>
    rw [hpt] at hq HP
    have hless := part_less hpt
    have hk' := hk.part hpt
    have hqq := Lib.hid hq
    have hb1' := Lib.hid hb1
    have hb' := Lib.hid hb
    have hk2 := Lib.hid hk'
    clear hq hk hp hpos hgt hpt hk' hb hb1
    have hpos : (0 : Int) < q.words.length := by have := List.length_pos_iff.2 h0; omega
    go_wp2_with (go_at_call 151; refine HP.out.mono ?_; rintro e w5 ⟨hb5, rfl, hp5⟩)
    exact ⟨⟨q', f', by omega, hqq.out, hp5, hk2.out, hb1'.out.trans hb5, hb'.out.trans (hb5.mono hsz1)⟩, by rw [hp5.left, hleft.out]; exact hless⟩
end Go.Proofs.YtholajadbbdcmaaGreatDoor
