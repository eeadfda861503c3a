/- Joined texts: UrP, Ur7, Uc1. -/
import Derived.Test.YtholajadbbdcmaaGreatDoorQAA
import Derived.Test.YtholajadbbdcmaaGreatDoorQAB
import Derived.Test.YtholajadbbdcmaaGreatDoorQAC
import Derived.Test.YtholajadbbdcmaaGreatDoorQAD
import Derived.Test.YtholajadbbdcmaaGreatDoorQAE
import Derived.Test.YtholajadbbdcmaaGreatDoorQAF
import Derived.Test.YtholajadbbdcmaaGreatDoorQAG
import Derived.Test.YtholajadbbdcmaaGreatDoorQAH
import Derived.Test.YtholajadbbdcmaaGreatDoorQAI
import Derived.Test.YtholajadbbdcmaaGreatDoorQAL
import Derived.Test.YtholajadbbdcmaaGreatDoorQAM
import Derived.Test.YtholajadbbdcmaaGreatDoorQAN
import Derived.Test.YtholajadbbdcmaaGreatDoorQAO
import Derived.Test.YtholajadbbdcmaaGreatDoorQAP
import Derived.Test.YtholajadbbdcmaaGreatDoorQAQ
import Derived.Test.YtholajadbbdcmaaGreatDoorQAS
import Derived.Test.YtholajadbbdcmaaGreatDoorQAT
import Derived.Test.YtholajadbbdcmaaGreatDoorQAU
import Derived.Test.YtholajadbbdcmaaGreatDoorQAY
import Derived.Test.YtholajadbbdcmaaGreatDoorQBA
import Derived.Test.YtholajadbbdcmaaGreatDoorQBB
import Derived.Test.YtholajadbbdcmaaGreatDoorQBC
import Derived.Test.YtholajadbbdcmaaGreatDoorQBD
import Derived.Test.YtholajadbbdcmaaGreatDoorQBE
set_option linter.unusedVariables false
set_option linter.unusedSimpArgs false
set_option linter.unnecessarySimpa false
namespace Go.Proofs.YtholajadbbdcmaaGreatDoor
open Go.RowKit
set_option maxRecDepth 20000
theorem numR_af (l s) : numR ((some l).bind (skO s)) = match afO s l with
  | some x => (x.1, some x.2)
  | none => (0, none) := by
 unfold numR afO
 simp only [Option.bind_some]
 cases (skO s l).bind numO <;> rfl
theorem numR_af2 (l s t) : numR (((some l).bind (skO s)).bind (skO t)) = match (skO s l).bind (afO t) with
  | some x => (x.1, some x.2)
  | none => (0, none) := by
 show numR ((skO s l).bind (skO t)) = _
 cases skO s l with
 | none => rfl
 | some l' => exact numR_af l' t
theorem sizP_eq (l : List ByteArray) : ((afO bSize l).bind fun x => (afO bRows x.2).bind fun y => (skO bColumns y.2).map fun t => ((⟨1, x.1, y.1, 0, 0, []⟩ : Chg), t)) = (sizP (some l)).2.map fun t => ((sizP (some l)).1, t) := by
 unfold sizP
 rw [numR_af]
 cases afO bSize l with
 | none => rfl
 | some x =>
  simp only [Option.bind_some]
  rw [show skO bRows x.2 = (some x.2).bind (skO bRows) from rfl, numR_af]
  cases afO bRows x.2 with
  | none => rfl
  | some y => rfl
theorem scrP_eq (l : List ByteArray) : (((skO bScroll l).bind (afO bLine)).bind fun x => (afO bTo x.2).bind fun y =>
  if hdIs bDown y.2 = true then (afO bDown y.2).bind fun z => if z.1 < 0 then none else some ((⟨2, x.1 - 1, 0, -z.1, y.1, []⟩ : Chg), z.2)
  else (afO bUp y.2).bind fun z => if z.1 < 0 then none else some (⟨2, x.1 - 1, 0, z.1, y.1, []⟩, z.2)) = (scrP (some l)).2.map fun t => ((scrP (some l)).1, t) := by
 unfold scrP
 rw [numR_af2]
 cases (skO bScroll l).bind (afO bLine) with
 | none => rfl
 | some x =>
  simp only [Option.bind_some]
  rw [show skO bTo x.2 = (some x.2).bind (skO bTo) from rfl, numR_af]
  cases afO bTo x.2 with
  | none => rfl
  | some y =>
   simp only [Option.bind_some]
   by_cases hd : hdIs bDown y.2 = true
   ·rw [if_pos hd, if_pos (show nextB (some y.2) bDown = true from hd), show skO bDown y.2 = (some y.2).bind (skO bDown) from rfl, numR_af]
    cases afO bDown y.2 with
    | none => rfl
    | some z =>
     simp only [Option.bind_some, negP]
     split <;> rfl
   ·rw [if_neg hd, if_neg (show ¬ nextB (some y.2) bDown = true from hd), show skO bUp y.2 = (some y.2).bind (skO bUp) from rfl, numR_af]
    cases afO bUp y.2 with
    | none => rfl
    | some z =>
     simp only [Option.bind_some, negP]
     split <;> rfl
theorem curP_eq (l : List ByteArray) : (((skO bCursor l).bind (afO bLine)).bind fun x => (afO bColumn x.2).bind fun y =>
  if hdIs bVisible y.2 = true then (skO bVisible y.2).map fun t => ((⟨4, x.1 - 1, y.1 - 1, 1, 0, []⟩ : Chg), t)
  else (skO bInvisible y.2).map fun t => (⟨4, x.1 - 1, y.1 - 1, 0, 0, []⟩, t)) = (curP (some l)).2.map fun t => ((curP (some l)).1, t) := by
 unfold curP
 rw [numR_af2]
 cases (skO bCursor l).bind (afO bLine) with
 | none => rfl
 | some x =>
  simp only [Option.bind_some]
  rw [show skO bColumn x.2 = (some x.2).bind (skO bColumn) from rfl, numR_af]
  cases afO bColumn x.2 with
  | none => rfl
  | some y =>
   simp only [Option.bind_some]
   by_cases hd : hdIs bVisible y.2 = true
   ·rw [if_pos hd, if_pos (show nextB (some y.2) bVisible = true from hd)]
   ·rw [if_neg hd, if_neg (show ¬ nextB (some y.2) bVisible = true from hd)]
theorem delP_eq (l : List ByteArray) : delL l = (delP (some l)).2.map fun t => ((delP (some l)).1, t) := by
 unfold delL delP
 by_cases hd : hdIs bDelete l = true
 ·rw [if_pos hd, if_pos (show nextB (some l) bDelete = true from hd), numR_af]
  cases afO bDelete l with
  | none => rfl
  | some x =>
   simp only [Option.bind_some]
   split <;> rfl
 ·rw [if_neg hd, if_neg (show ¬ nextB (some l) bDelete = true from hd)]
  rfl
theorem insP_eq (l : List ByteArray) : insL l = (insP (some l)).2.map fun t => ((insP (some l)).1, t) := by
 unfold insL insP textR
 by_cases hd : hdIs bInsert l = true
 ·rw [if_pos hd, if_pos (show nextB (some l) bInsert = true from hd)]
  simp only [Option.bind_some]
  cases (skO bInsert l).bind textO <;> rfl
 ·rw [if_neg hd, if_neg (show ¬ nextB (some l) bInsert = true from hd)]
  rfl
theorem splP_eq (l : List ByteArray) : spliceL l = (splP (some l)).2.map fun t => ((splP (some l)).1, t) := by
 unfold spliceL splP
 rw [numR_af]
 cases afO bLine l with
 | none => rfl
 | some x =>
  simp only [Option.bind_some]
  rw [show skO bColumn x.2 = (some x.2).bind (skO bColumn) from rfl, numR_af]
  cases afO bColumn x.2 with
  | none => rfl
  | some y =>
   simp only [Option.bind_some]
   rw [delP_eq]
   generalize delP (some y.2) = d
   obtain ⟨d1, d2⟩ := d
   cases d2 with
   | none => rfl
   | some t =>
    simp only [Option.map_some, Option.bind_some]
    rw [insP_eq]
    generalize insP (some t) = g
    obtain ⟨g1, g2⟩ := g
    cases g2 <;> rfl
theorem chgP_eq (l : List ByteArray) : chgL l = (chgP (some l)).2.map fun t => ((chgP (some l)).1, t) := by
 unfold chgL chgP
 by_cases h1 : hdIs bSize l = true
 ·rw [if_pos h1, if_pos (show nextB (some l) bSize = true from h1)]
  exact sizP_eq l
 ·rw [if_neg h1, if_neg (show ¬ nextB (some l) bSize = true from h1)]
  by_cases h2 : hdIs bScroll l = true
  ·rw [if_pos h2, if_pos (show nextB (some l) bScroll = true from h2)]
   exact scrP_eq l
  ·rw [if_neg h2, if_neg (show ¬ nextB (some l) bScroll = true from h2)]
   by_cases h3 : hdIs bLine l = true
   ·rw [if_pos h3, if_pos (show nextB (some l) bLine = true from h3)]
    exact splP_eq l
   ·rw [if_neg h3, if_neg (show ¬ nextB (some l) bLine = true from h3)]
    by_cases h4 : hdIs bCursor l = true
    ·rw [if_pos h4, if_pos (show nextB (some l) bCursor = true from h4)]
     exact curP_eq l
    ·rw [if_neg h4, if_neg (show ¬ nextB (some l) bCursor = true from h4)]
     rfl
theorem sk_len {s : ByteArray} {l t : List ByteArray} (h : skO s l = some t) : t.length < l.length := by
 cases l with
 | nil => cases h
 | cons a u =>
  simp only [skO] at h
  split at h
  ·cases h; simp
  ·cases h
theorem num_len {l t : List ByteArray} {n : Int} (h : numO l = some (n, t)) : t.length ≤ l.length := by
 unfold numO at h
 rw [Option.map_eq_some_iff] at h
 obtain ⟨x, _, e⟩ := h
 cases e
 rw [List.length_drop]
 omega
theorem af_len {s : ByteArray} {l t : List ByteArray} {n : Int} (h : afO s l = some (n, t)) : t.length < l.length := by
 unfold afO at h
 rw [Option.bind_eq_some_iff] at h
 obtain ⟨x, h1, h2⟩ := h
 have := sk_len h1
 have := num_len h2
 omega
theorem text_len {l t : List ByteArray} {G : List Gl} (h : textO l = some (G, t)) : t.length ≤ l.length ∧ ∃ k, glyphsL (l.take k) = some G := by
 unfold textO at h
 rw [Option.bind_eq_some_iff] at h
 obtain ⟨i, _, h2⟩ := h
 split at h2
 ·rename_i g gs hg
  cases h2
  exact ⟨by rw [List.length_drop]; omega, i, hg⟩
 ·cases h2
theorem del_len {l t : List ByteArray} {n : Int} (h : delL l = some (n, t)) : t.length ≤ l.length := by
 unfold delL at h
 split at h
 ·rw [Option.bind_eq_some_iff] at h
  obtain ⟨x, h1, h2⟩ := h
  split at h2
  ·cases h2
  ·cases h2
   exact Nat.le_of_lt (af_len h1)
 ·cases h
  exact Nat.le_refl _
def SmG (G : List Gl) : Prop := G.length ≤ 1000000000 ∧ ∀ x ∈ G, x.text.size ≤ 1000000000
theorem SmG.nil : SmG [] := ⟨by decide, fun x hx => by cases hx⟩
theorem readL_small : ∀ (f : Nat) (q : Prs) (G : List Gl), PaK2 q → readL f q = some G → SmG G
 | 0, q, G, hk, h => by
  rw [readL] at h
  injection h with h
  have h1 := hk.1.2.1
  have h2 := hk.1.2.2
  rw [← h]
  exact ⟨by omega, fun x hx => by have := h2 x hx; omega⟩
 | f + 1, q, G, hk, h => by
  rw [readL] at h
  split at h
  ·injection h with h
   have h1 := hk.1.2.1
   have h2 := hk.1.2.2
   rw [← h]
   exact ⟨by omega, fun x hx => by have := h2 x hx; omega⟩
  ·cases hp : partL q with
   | none => rw [hp] at h; cases h
   | some q' => rw [hp] at h; exact readL_small f q' G (hk.part hp) h
theorem glyphs_small {l : List ByteArray} {G : List Gl} (hl : l.length ≤ 400000) (hsz : ∀ s ∈ l, s.size ≤ 1000) (h : glyphsL l = some G) : SmG G :=
 readL_small _ _ _ ⟨⟨hsz, by show 0 + 2000 * l.length ≤ _; omega, fun x hx => by cases hx⟩, hl⟩ h
def Sub (t l : List ByteArray) : Prop := t.length ≤ l.length ∧ ∀ s ∈ t, s ∈ l
theorem Sub.trans {a b c : List ByteArray} (h : Sub a b) (g : Sub b c) : Sub a c := ⟨Nat.le_trans h.1 g.1, fun s hs => g.2 s (h.2 s hs)⟩
theorem sk_sub {s : ByteArray} {l t : List ByteArray} (h : skO s l = some t) : Sub t l := by
 refine ⟨Nat.le_of_lt (sk_len h), ?_⟩
 cases l with
 | nil => cases h
 | cons a u =>
  simp only [skO] at h
  split at h
  ·cases h; exact fun x hx => List.mem_cons_of_mem _ hx
  ·cases h
theorem num_sub {l t : List ByteArray} {n : Int} (h : numO l = some (n, t)) : Sub t l := by
 refine ⟨num_len h, ?_⟩
 unfold numO at h
 rw [Option.map_eq_some_iff] at h
 obtain ⟨x, _, e⟩ := h
 cases e
 exact fun s hs => List.mem_of_mem_drop hs
theorem af_sub {s : ByteArray} {l t : List ByteArray} {n : Int} (h : afO s l = some (n, t)) : Sub t l := by
 unfold afO at h
 rw [Option.bind_eq_some_iff] at h
 obtain ⟨x, h1, h2⟩ := h
 exact (num_sub h2).trans (sk_sub h1)
theorem del_sub {l t : List ByteArray} {n : Int} (h : delL l = some (n, t)) : Sub t l := by
 unfold delL at h
 split at h
 ·rw [Option.bind_eq_some_iff] at h
  obtain ⟨x, h1, h2⟩ := h
  split at h2
  ·cases h2
  ·cases h2
   exact af_sub h1
 ·cases h
  exact ⟨Nat.le_refl _, fun s hs => hs⟩
theorem ins_len {l t : List ByteArray} {G : List Gl} (h : insL l = some (G, t)) (hl : l.length ≤ 400000) (hsz : ∀ s ∈ l, s.size ≤ 1000) : t.length ≤ l.length ∧ SmG G := by
 unfold insL at h
 split at h
 ·rw [Option.bind_eq_some_iff] at h
  obtain ⟨x, h1, h2⟩ := h
  have hs := sk_sub h1
  obtain ⟨h3, k, hk⟩ := text_len h2
  exact ⟨Nat.le_trans h3 hs.1, glyphs_small (by rw [List.length_take]; have := hs.1; omega) (fun s hs' => hsz s (hs.2 s (List.mem_of_mem_take hs'))) hk⟩
 ·cases h
  exact ⟨Nat.le_refl _, SmG.nil⟩
theorem chg_len {l t : List ByteArray} {c : Chg} (h : chgL l = some (c, t)) (hl : l.length ≤ 400000) (hsz : ∀ s ∈ l, s.size ≤ 1000) : t.length < l.length ∧ SmG c.glyphs := by
 unfold chgL at h
 split at h
 ·rw [Option.bind_eq_some_iff] at h
  obtain ⟨x, h1, h⟩ := h
  rw [Option.bind_eq_some_iff] at h
  obtain ⟨y, h2, h⟩ := h
  rw [Option.map_eq_some_iff] at h
  obtain ⟨u, h3, h⟩ := h
  cases h
  have := af_len h1
  have := af_len h2
  have := sk_len h3
  exact ⟨by omega, SmG.nil⟩
 ·split at h
  ·rw [Option.bind_eq_some_iff] at h
   obtain ⟨x, h1, h⟩ := h
   rw [Option.bind_eq_some_iff] at h1
   obtain ⟨x0, h0, h1⟩ := h1
   rw [Option.bind_eq_some_iff] at h
   obtain ⟨y, h2, h⟩ := h
   have := sk_len h0
   have := af_len h1
   have := af_len h2
   split at h
   ·rw [Option.bind_eq_some_iff] at h
    obtain ⟨z, h3, h⟩ := h
    have := af_len h3
    split at h
    ·cases h
    ·cases h
     exact ⟨by omega, SmG.nil⟩
   ·rw [Option.bind_eq_some_iff] at h
    obtain ⟨z, h3, h⟩ := h
    have := af_len h3
    split at h
    ·cases h
    ·cases h
     exact ⟨by omega, SmG.nil⟩
  ·split at h
   ·unfold spliceL at h
    rw [Option.bind_eq_some_iff] at h
    obtain ⟨x, h1, h⟩ := h
    rw [Option.bind_eq_some_iff] at h
    obtain ⟨y, h2, h⟩ := h
    rw [Option.bind_eq_some_iff] at h
    obtain ⟨z, h3, h⟩ := h
    rw [Option.map_eq_some_iff] at h
    obtain ⟨g, h4, h⟩ := h
    cases h
    have hs := (del_sub h3).trans ((af_sub h2).trans (af_sub h1))
    have := af_len h1
    have := af_len h2
    have := del_len h3
    obtain ⟨h5, h6⟩ := ins_len h4 (Nat.le_trans hs.1 hl) (fun s hs' => hsz s (hs.2 s hs'))
    exact ⟨by omega, h6⟩
   ·split at h
    ·rw [Option.bind_eq_some_iff] at h
     obtain ⟨x, h1, h⟩ := h
     rw [Option.bind_eq_some_iff] at h1
     obtain ⟨x0, h0, h1⟩ := h1
     rw [Option.bind_eq_some_iff] at h
     obtain ⟨y, h2, h⟩ := h
     have := sk_len h0
     have := af_len h1
     have := af_len h2
     split at h
     ·rw [Option.map_eq_some_iff] at h
      obtain ⟨u, h3, h⟩ := h
      cases h
      have := sk_len h3
      exact ⟨by omega, SmG.nil⟩
     ·rw [Option.map_eq_some_iff] at h
      obtain ⟨u, h3, h⟩ := h
      cases h
      have := sk_len h3
      exact ⟨by omega, SmG.nil⟩
    ·cases h
def ES (w : World) (B : Nat) (r : Option (List ByteArray)) (X : World) : Prop :=
 ∃ A n cc l bad, r = optR bad l ∧ WdR X B l A n cc ∧ Blk X w.heap.size 95 #[.slice A n cc, .bool bad] ∧ Below w.heap.size w X
theorem ES.turn {w X : World} {B : Nat} {r' : Option (List ByteArray)} {A A0 : Option Addr} {n cc n0 cc0 : Nat} {l : List ByteArray} {bad bad0 : Bool} (hB : B ≤ w.heap.size) (R1 : Blk X w.heap.size 95 #[.slice A0 n0 cc0, .bool bad0]) (tx : Below w.heap.size w X) (hW : WdR X B l A n cc) (hr : r' = optR bad l) :
  ES w B r' ((X.setCell ⟨w.heap.size, 0, none⟩ (.slice A n cc)).setCell ⟨w.heap.size, 1, none⟩ (.bool bad)) :=
 ⟨A, n, cc, l, bad, hr, hW.below (((Below.refl B X).setCell (p := ⟨w.heap.size, 0, none⟩) hB _).setCell (p := ⟨w.heap.size, 1, none⟩) hB _), blk_set2 R1, (tx.setCell (p := ⟨w.heap.size, 0, none⟩) (Nat.le_refl _) _).setCell (p := ⟨w.heap.size, 1, none⟩) (Nat.le_refl _) _⟩
def EndE (w : World) (l : List ByteArray) (e : Ending) (w' : World) : Prop := ∃ N b, e = .returned (.tuple #[.int .i64 N, .bool b]) ∧ Below w.heap.size w w' ∧ endL l = if b = true then some N else none
theorem end_tail (t : List ByteArray) : ((numO t).bind fun x => (skO bUpdates x.2).bind fun u => if u = [] ∧ 1 < x.1 then some x.1 else none) = ((numR (some t)).2.bind (skO bUpdates)).bind fun u => if u = [] ∧ 1 < (numR (some t)).1 then some (numR (some t)).1 else none := by
 unfold numR
 simp only [Option.bind_some]
 cases numO t with
 | none => rfl
 | some x => rfl
theorem hdIs_next (l : List ByteArray) (s : ByteArray) : nextB (some l) s = hdIs s l := rfl
set_option maxHeartbeats 4000000 in
theorem uend_ (l : List ByteArray) (A : Option Addr) (n c : Nat) (w : World) (B : Nat) (hW : WdR w B l A n c) (hB : B ≤ w.heap.size) :
  Calls Tryz.prog 52 #[.agg #[.slice A n c, .bool false]] w (EndE w l) := by
 have hX : ES w B (some l) (w.alloc (.cells #[.slice A n c, .bool false] 95)) := ⟨A, n, c, l, false, rfl, hW.below ((Below.refl _ _).alloc hB _), Blk.new w _ _, (Below.refl _ _).alloc (Nat.le_refl _) _⟩
 clear hW
 go_enter Tryz.func52, Tryz.ntmps52
 go_upto_region 1 with fail
 refine wp_fg (ES w B (some l)) hX ?_
 clear hX
 intro X hX
 obtain ⟨s1, hs1⟩ : ∃ b, Hid (b = nextB (some l) bMore) := ⟨_, Lib.hid rfl⟩
 obtain ⟨A', n', c', l', bad', hr', hW, R1, tx⟩ := id hX
 have c0 := R1.cell 0
 have c1 := R1.cell 1
 have f0 := R1.frozen 0
 have f1 := R1.frozen 1
 have z0 := R1.lt
 simp only [List.getElem?_toArray, List.getElem?_cons_zero, List.getElem?_cons_succ] at c0 c1
 have hBX := Nat.le_trans hB tx.size
 cases bad' with
 | true => cases hr'
 | false =>
  obtain rfl : l = l' := by cases hr'; rfl
  have hln := hW.len
  have HN := Lib.hid (unext_ (some l) _ bMore B X ⟨A', n', c', l, false, rfl, hW, rfl⟩ hBX)
  rw [← hs1.out] at HN
  cases s1 with
  | true =>
   have HE : Hid (endL l = if l.length = 1 then some 0 else none) := Lib.hid (by unfold endL; rw [← hdIs_next, ← hs1.out]; rfl)
   clear hs1 hr'
   go_upto_region 2 with (go_at_call 49; refine HN.out.mono ?_; rintro e w1 ⟨rfl, hb1⟩; (clear c0 c1 f0 f1; have R0 := R1.below hb1 R1.lt; have f0 := R0.frozen 0; have f1 := R0.frozen 1; have c0 := R0.cell 0; have c1 := R0.cell 1; simp only [List.getElem?_toArray, List.getElem?_cons_zero, List.getElem?_cons_succ] at c0 c1))
   have hq : ((n' : Int) == 1) = decide (l.length = 1) := by rw [hln, Bool.eq_iff_iff]; simp; omega
   generalize hdd : decide (l.length = 1) = dd at *
   have HE2 : Hid (endL l = if dd = true then some 0 else none) := Lib.hid (by rw [HE.out, ← hdd]; simp)
   clear HE hdd
   go_quiet (fail)
   go_wp2
   go_ret2
   exact ⟨0, dd, rfl, below_drewN (tx.trans (hb1.mono (by omega))), HE2.out⟩
  | false =>
   have HE : Hid (endL l = (skO bDone l).bind fun t => if t = [] then some 1 else (numO t).bind fun x => (skO bUpdates x.2).bind fun u => if u = [] ∧ 1 < x.1 then some x.1 else none) := Lib.hid (by unfold endL; rw [← hdIs_next, ← hs1.out]; rfl)
   clear hs1 hr'
   obtain ⟨r1, hr1⟩ : ∃ r, Hid (r = (some l).bind (skO bDone)) := ⟨_, Lib.hid rfl⟩
   have HE1 : Hid (endL l = r1.bind fun t => if t = [] then some 1 else (numO t).bind fun x => (skO bUpdates x.2).bind fun u => if u = [] ∧ 1 < x.1 then some x.1 else none) := Lib.hid (by rw [HE.out, hr1.out]; rfl)
   clear HE
   go_upto_region 3 with (go_at_call 49; refine HN.out.mono ?_; rintro e w1 ⟨rfl, hb1⟩; (clear c0 c1 f0 f1; have R0 := R1.below hb1 R1.lt; have f0 := R0.frozen 0; have f1 := R0.frozen 1; have c0 := R0.cell 0; have c1 := R0.cell 1; simp only [List.getElem?_toArray, List.getElem?_cons_zero, List.getElem?_cons_succ] at c0 c1))
   refine wp_fg (ES w B (some l)) ⟨A', n', c', l, false, rfl, hW.below (hb1.mono hBX), R1.below hb1 R1.lt, tx.trans (hb1.mono (by omega))⟩ ?_
   clear hX c0 c1 f0 f1 z0 R1 tx hb1 hW HN hln hBX
   intro X hX
   obtain ⟨A', n', c', l', bad', hr', hW, R1, tx⟩ := id hX
   have c0 := R1.cell 0
   have c1 := R1.cell 1
   have f0 := R1.frozen 0
   have f1 := R1.frozen 1
   have z0 := R1.lt
   simp only [List.getElem?_toArray, List.getElem?_cons_zero, List.getElem?_cons_succ] at c0 c1
   have HK := Lib.hid (uskp1 (some l) _ bDone B X ⟨A', n', c', l', bad', rfl, hW, hr'⟩ (Nat.le_trans hB tx.size))
   rw [← hr1.out] at HK
   go_upto_region 4 with (go_at_call 77; refine HK.out.mono ?_; rintro e w1 ⟨A1, n1, cc1, l1, bad1, rfl, hW1, hq1, hb1⟩; (clear c0 c1 f0 f1; have R0 := R1.below hb1 R1.lt; have f0 := R0.frozen 0; have f1 := R0.frozen 1; have c0 := R0.cell 0; have c1 := R0.cell 1; simp only [List.getElem?_toArray, List.getElem?_cons_zero, List.getElem?_cons_succ] at c0 c1))
   refine wp_fg (ES w B r1) (ES.turn hB (R1.below hb1 R1.lt) (tx.trans (hb1.mono (by omega))) hW1 hq1) ?_
   clear hX c0 c1 f0 f1 z0 R1 tx hb1 hW HK hr1 hW1 hq1 hr'
   intro X hX
   obtain ⟨A', n', c', l', bad', hr', hW, R1, tx⟩ := id hX
   have c0 := R1.cell 0
   have c1 := R1.cell 1
   have f0 := R1.frozen 0
   have f1 := R1.frozen 1
   have z0 := R1.lt
   simp only [List.getElem?_toArray, List.getElem?_cons_zero, List.getElem?_cons_succ] at c0 c1
   have hln := hW.len
   by_cases hn0 : n' = 0
   ·subst hn0
    have hl0 : l' = [] := List.length_eq_zero_iff.1 hln
    have HE2 : Hid (endL l = if (!bad') = true then some 1 else none) := Lib.hid (by rw [HE1.out, hr']; cases bad' <;> simp [optR, hl0])
    clear HE1 hr'
    go_upto_region 5 with fail
    go_quiet (fail)
    go_wp2
    go_ret2
    exact ⟨1, !bad', rfl, below_drewN tx, HE2.out⟩
   ·have hni : ((n' : Int) == 0) = false := beq_eq_false_iff_ne.2 (by omega)
    have hni2 : ¬ (n' : Int) = 0 := by omega
    obtain ⟨x, hx⟩ : ∃ x, Hid (x = numR r1) := ⟨_, Lib.hid rfl⟩
    obtain ⟨y, hy⟩ : ∃ y, Hid (y = x.2.bind (skO bUpdates)) := ⟨_, Lib.hid rfl⟩
    have HE2 : Hid (endL l = y.bind fun u => if u = [] ∧ 1 < x.1 then some x.1 else none) := Lib.hid (by
     rw [HE1.out, hy.out, hx.out, hr']
     cases bad' with
     | true => rfl
     | false =>
      show (if l' = [] then _ else _) = _
      rw [if_neg (fun e => hn0 (by rw [← hln, e]; rfl))]
      exact end_tail l')
    clear HE1 hn0 hln
    have HM := Lib.hid (unumber_ r1 _ B X ⟨A', n', c', l', bad', rfl, hW, hr'⟩ (Nat.le_trans hB tx.size))
    rw [← hx.out] at HM
    go_upto_region 7 with (go_at_call 83; refine (HM.out.mono fun _ _ h => h.e (Nat.le_trans hB tx.size)).mono ?_; rintro e w1 ⟨v1, rfl, ⟨A1, n1, cc1, l1, bad1, rfl, hW1, hq1⟩, hb1⟩; (clear c0 c1 f0 f1; have R0 := R1.below hb1 R1.lt; have f0 := R0.frozen 0; have f1 := R0.frozen 1; have c0 := R0.cell 0; have c1 := R0.cell 1; simp only [List.getElem?_toArray, List.getElem?_cons_zero, List.getElem?_cons_succ] at c0 c1))
    refine wp_fg (ES w B x.2) (ES.turn hB (R1.below hb1 R1.lt) (tx.trans (hb1.mono (by omega))) hW1 hq1) ?_
    clear hX c0 c1 f0 f1 z0 R1 tx hb1 hW HM hW1 hq1 hr' hni hni2 hx
    intro X hX
    obtain ⟨A', n', c', l', bad', hr', hW, R1, tx⟩ := id hX
    have c0 := R1.cell 0
    have c1 := R1.cell 1
    have f0 := R1.frozen 0
    have f1 := R1.frozen 1
    have z0 := R1.lt
    simp only [List.getElem?_toArray, List.getElem?_cons_zero, List.getElem?_cons_succ] at c0 c1
    have HK := Lib.hid (uskp1 x.2 _ bUpdates B X ⟨A', n', c', l', bad', rfl, hW, hr'⟩ (Nat.le_trans hB tx.size))
    rw [← hy.out] at HK
    go_upto_region 8 with (go_at_call 77; refine HK.out.mono ?_; rintro e w1 ⟨A1, n1, cc1, l1, bad1, rfl, hW1, hq1, hb1⟩; (clear c0 c1 f0 f1; have R0 := R1.below hb1 R1.lt; have f0 := R0.frozen 0; have f1 := R0.frozen 1; have c0 := R0.cell 0; have c1 := R0.cell 1; simp only [List.getElem?_toArray, List.getElem?_cons_zero, List.getElem?_cons_succ] at c0 c1))
    refine wp_fg (ES w B y) (ES.turn hB (R1.below hb1 R1.lt) (tx.trans (hb1.mono (by omega))) hW1 hq1) ?_
    clear hX c0 c1 f0 f1 z0 R1 tx hb1 hW HK hW1 hq1 hr' hy
    intro X hX
    obtain ⟨A', n', c', l', bad', hr', hW, R1, tx⟩ := id hX
    have c0 := R1.cell 0
    have c1 := R1.cell 1
    have f0 := R1.frozen 0
    have f1 := R1.frozen 1
    have z0 := R1.lt
    simp only [List.getElem?_toArray, List.getElem?_cons_zero, List.getElem?_cons_succ] at c0 c1
    have hln := hW.len
    obtain ⟨N, xr⟩ := x
    simp only at HE2
    cases bad' with
    | true =>
     have HE3 : Hid (endL l = none) := Lib.hid (by rw [HE2.out, hr']; rfl)
     clear HE2 hr' hln
     go_wp2
     go_ret2
     exact ⟨N, false, rfl, tx, HE3.out⟩
    | false =>
     have HE3 : Hid (endL l = if l' = [] ∧ 1 < N then some N else none) := Lib.hid (by rw [HE2.out, hr']; rfl)
     clear HE2 hr'
     by_cases hn0 : n' = 0
     ·subst hn0
      have hl0 : l' = [] := List.length_eq_zero_iff.1 hln
      have HE4 : Hid (endL l = if decide (1 < N) = true then some N else none) := Lib.hid (by rw [HE3.out, hl0]; simp)
      clear HE3 hln
      generalize hdd : decide (1 < N) = dd at *
      go_wp2
      go_ret2
      exact ⟨N, dd, by first | rfl | (rw [← hdd]), tx, HE4.out⟩
     ·have HE4 : Hid (endL l = none) := Lib.hid (by rw [HE3.out, if_neg]; rintro ⟨e, _⟩; rw [e] at hln; exact hn0 hln.symm)
      have hni : ((n' : Int) == 0) = false := beq_eq_false_iff_ne.2 (by omega)
      have hni2 : ¬ (n' : Int) = 0 := by omega
      clear HE3 hln
      go_wp2
      go_ret2
      exact ⟨N, false, rfl, tx, HE4.out⟩
def inB (n a b : Int) : Bool := decide (a ≤ n) && decide (n ≤ b)
theorem in_s (n a b : Int) (w : World) : Calls Tryz.prog 79 #[.int .i64 n, .int .i64 a, .int .i64 b] w fun e w' => e = .returned (.bool (inB n a b)) ∧ w = w' := by
 unfold inB
 by_cases h1 : a ≤ n
 ·by_cases h2 : n ≤ b
  ·go_enter Tryz.func79, Tryz.ntmps79
   go_wp2
   go_ret
   exact ⟨by simp [h1, h2], rfl⟩
  ·go_enter Tryz.func79, Tryz.ntmps79
   go_wp2
   go_ret
   exact ⟨by simp [h1, h2], rfl⟩
 ·go_enter Tryz.func79, Tryz.ntmps79
  go_wp2
  go_ret
  exact ⟨by rw [decide_eq_false (show ¬ a ≤ n by omega)]; rfl, rfl⟩
theorem in_ (n a b : Int) (w : World) : Calls Tryz.prog 79 #[.int .i64 n, .int .i64 a, .int .i64 b] w (Gives (.bool (inB n a b)) w) := (in_s n a b w).mono fun e w' ⟨h1, h2⟩ => ⟨h1, h2 ▸ Below.refl _ _⟩
def RnP (s : ByteArray) (w : World) (e : Ending) (w' : World) : Prop := Below w.heap.size w w' ∧ ((checkC s ≠ 0 ∧ e = .returned (.slice none 0 0)) ∨ (checkC s = 0 ∧ ∃ G c, e = .returned (.slice (some ⟨G, 0, none⟩) (charsL (bytN s)).length c) ∧ Rd w' w'.heap.size 1 (some ⟨G, 0, none⟩) (charsL (bytN s)).length (chV (charsL (bytN s)))))
set_option maxHeartbeats 1000000 in
theorem crunes_ (s : ByteArray) (hs : s.size ≤ 1000000000) (w : World) (hu : U8 w) : Calls Tryz.prog 131 #[.string s] w (RnP s w) := by
 have HC := Lib.hid (check_ s hs w hu)
 by_cases h0 : checkC s = 0
 ·have hv := (checkC_zero.1 h0).1
  have HR : Hid (∀ w, _) := Lib.hid (conv_runes s hv hs)
  have H0 := Lib.hid h0
  rw [h0] at HC
  clear h0 hv hu
  go_enter Tryz.func131, Tryz.ntmps131
  go_upto_region 3 with (go_at_call 106; refine HC.out.mono ?_; rintro e w1 ⟨rfl, hb1⟩)
  obtain ⟨c2, w2, hrun, rd2, hbel2, hcap⟩ := HR.out w1
  go_wp2
  go_ret
  have z := hbel2.size
  exact ⟨hb1.trans (hbel2.mono hb1.size), .inr ⟨H0.out, _, c2, rfl, rd2⟩⟩
 ·have H0 := Lib.hid h0
  have hne : (checkC s != 0) = true := bne_iff_ne.2 h0
  generalize checkC s = K at HC hne
  clear h0 hu
  go_enter Tryz.func131, Tryz.ntmps131
  go_wp2_with (go_at_call 106; refine HC.out.mono ?_; rintro e w1 ⟨rfl, hb1⟩)
  go_ret
  exact ⟨hb1, .inl ⟨H0.out, rfl⟩⟩
set_option maxHeartbeats 1000000 in
theorem cwidth_ (s : ByteArray) (hs : s.size ≤ 1000000000) (w : World) (hu : U8 w) : Calls Tryz.prog 107 #[.string s] w (Gives (.int .i64 (widthC s)) w) := by
 have HR := Lib.hid (crunes_ s hs w hu)
 by_cases h0 : checkC s = 0
 ·obtain ⟨r, t, hc, -⟩ := (checkC_zero.1 h0).2
  have H0 := Lib.hid h0
  unfold widthC
  rw [if_pos h0, hc, List.headD_cons]
  unfold RnP at HR
  rw [hc] at HR
  have HW := Lib.hid (width_ (r : Int))
  generalize widL (r : Int) = W at *
  clear h0 hu hc
  go_enter Tryz.func107, Tryz.ntmps107
  go_wp2_with (first
   | (go_at_call 131; refine HR.out.mono ?_; rintro e w1 ⟨hb1, h⟩; obtain ⟨G, c1, rfl, rd1⟩ := (h.resolve_left fun x => x.1 H0.out).2; have hc0 := rd_head rd1 (by simp); simp only [List.length_cons] at *)
   | (go_at_call 129; refine (HW.out _).mono ?_; rintro e w2 ⟨rfl, hb2⟩))
  go_ret
  exact ⟨rfl, hb1.trans (hb2.mono hb1.size)⟩
 ·have H0 := Lib.hid h0
  unfold widthC
  rw [if_neg h0]
  clear h0 hu
  go_enter Tryz.func107, Tryz.ntmps107
  go_wp2_with (go_at_call 131; refine HR.out.mono ?_; rintro e w1 ⟨hb1, h⟩; obtain rfl := (h.resolve_right fun x => H0.out x.1).2)
  go_ret
  exact ⟨rfl, hb1⟩
def validG (g : Gl) : Bool := decide (glyphC g = 0)
set_option maxHeartbeats 4000000 in
theorem validu_ (g : Gl) (hs : g.text.size ≤ 1000000000) (w : World) (hu : U8 w) : Calls Tryz.prog 82 #[glV g] w (Gives (.bool (validG g)) w) := by
 have HK : Hid (∀ w', U8 w' → _) := Lib.hid (check_ g.text hs)
 have HW : Hid (∀ w', U8 w' → _) := Lib.hid (cwidth_ g.text hs)
 have HI := Lib.hid (in_ g.style 0 3)
 have HU := Lib.hid hu
 have hq := star_beq g.text
 unfold validG glyphC
 obtain ⟨t, wd, st⟩ := g
 dsimp only at *
 clear hu
 by_cases hc : checkC t = 0
 ·rw [if_neg (by simp [hc])]
  rw [hc] at HK
  clear hc
  generalize widthC t = W at *
  by_cases h1 : wd = decide (W = 2)
  ·have e1 : (wd == (W == 2)) = true := by
    cases wd <;> by_cases h : W = 2 <;> simp_all
   by_cases h2 : st < 0
   ·rw [if_pos (.inr (.inl h2))]
    have e2 : inB st 0 3 = false := by unfold inB; rw [decide_eq_false (by omega)]; rfl
    rw [e2] at HI
    clear hq h1
    go_enter Tryz.func82, Tryz.ntmps82
    go_upto_region 1 with fail
    refine wp_fg (GlBox w t wd st) (GlBox.new w t wd st _) ?_
    rintro wb hgb
    obtain ⟨d0, d1, d2, hb1, hz1⟩ := id hgb
    have N0 : ∀ x : Near wb.heap.size wb, x.w.cell? ⟨w.heap.size, 0, none⟩ = some (.string t) := fun x => (x.h.cell (by show w.heap.size < _; omega)).trans d0
    have N1 : ∀ x : Near wb.heap.size wb, x.w.cell? ⟨w.heap.size, 1, none⟩ = some (.bool wd) := fun x => (x.h.cell (by show w.heap.size < _; omega)).trans d1
    have N2 : ∀ x : Near wb.heap.size wb, x.w.cell? ⟨w.heap.size, 2, none⟩ = some (.int .i64 st) := fun x => (x.h.cell (by show w.heap.size < _; omega)).trans d2
    have hzz := Nat.le_refl wb.heap.size
    have HUx : Hid (∀ x : Near wb.heap.size wb, U8 x.w) := Lib.hid fun x => HU.out.below (hb1.trans (x.h.mono (by omega)))
    clear d0 d1 d2 hgb
    refine wp_region_near wb.heap.size (by kernel_rfl) (by kernel_rfl) ?_; (repeat (go_big_quiet_step ((first | (go_at_call 106; exact Calls.near _ hzz (HK.out _ (HUx.out _))) | (go_at_call 107; exact Calls.near _ hzz (HW.out _ (HUx.out _))) | (go_at_call 79; exact Calls.near _ hzz (HI.out _)))))); refine wpQuiet_nil ?_; intro _ hw'; obtain ⟨x1, hw''⟩ := hw'; subst hw''
    go_wp2
    go_ret
    exact ⟨rfl, hb1.trans (x1.h.mono (by omega))⟩
   ·by_cases h3 : 3 < st
    ·rw [if_pos (.inr (.inr (.inl h3)))]
     have e2 : inB st 0 3 = false := by unfold inB; rw [decide_eq_false (show ¬ st ≤ 3 by omega), Bool.and_false]
     rw [e2] at HI
     clear hq h1
     go_enter Tryz.func82, Tryz.ntmps82
     go_upto_region 1 with fail
     refine wp_fg (GlBox w t wd st) (GlBox.new w t wd st _) ?_
     rintro wb hgb
     obtain ⟨d0, d1, d2, hb1, hz1⟩ := id hgb
     have N0 : ∀ x : Near wb.heap.size wb, x.w.cell? ⟨w.heap.size, 0, none⟩ = some (.string t) := fun x => (x.h.cell (by show w.heap.size < _; omega)).trans d0
     have N1 : ∀ x : Near wb.heap.size wb, x.w.cell? ⟨w.heap.size, 1, none⟩ = some (.bool wd) := fun x => (x.h.cell (by show w.heap.size < _; omega)).trans d1
     have N2 : ∀ x : Near wb.heap.size wb, x.w.cell? ⟨w.heap.size, 2, none⟩ = some (.int .i64 st) := fun x => (x.h.cell (by show w.heap.size < _; omega)).trans d2
     have hzz := Nat.le_refl wb.heap.size
     have HUx : Hid (∀ x : Near wb.heap.size wb, U8 x.w) := Lib.hid fun x => HU.out.below (hb1.trans (x.h.mono (by omega)))
     clear d0 d1 d2 hgb
     refine wp_region_near wb.heap.size (by kernel_rfl) (by kernel_rfl) ?_; (repeat (go_big_quiet_step ((first | (go_at_call 106; exact Calls.near _ hzz (HK.out _ (HUx.out _))) | (go_at_call 107; exact Calls.near _ hzz (HW.out _ (HUx.out _))) | (go_at_call 79; exact Calls.near _ hzz (HI.out _)))))); refine wpQuiet_nil ?_; intro _ hw'; obtain ⟨x1, hw''⟩ := hw'; subst hw''
     go_wp2
     go_ret
     exact ⟨rfl, hb1.trans (x1.h.mono (by omega))⟩
    ·have e2 : inB st 0 3 = true := by unfold inB; rw [decide_eq_true (by omega), decide_eq_true (by omega)]; rfl
     rw [e2] at HI
     by_cases h4 : st = 3
     ·have e4 : (st != 3) = false := by simp [h4]
      by_cases h5 : t = ⟨#[42]⟩
      ·rw [if_neg (by rw [not_or, not_or, not_or]; exact ⟨fun h => h h1, h2, h3, fun h => h.2 h5⟩)]
       have e5 : (t.toList == [42]) = true := by rw [hq]; simp [h5]
       clear hq h1 h5 h4
       go_enter Tryz.func82, Tryz.ntmps82
       go_upto_region 1 with fail
       refine wp_fg (GlBox w t wd st) (GlBox.new w t wd st _) ?_
       rintro wb hgb
       obtain ⟨d0, d1, d2, hb1, hz1⟩ := id hgb
       have N0 : ∀ x : Near wb.heap.size wb, x.w.cell? ⟨w.heap.size, 0, none⟩ = some (.string t) := fun x => (x.h.cell (by show w.heap.size < _; omega)).trans d0
       have N1 : ∀ x : Near wb.heap.size wb, x.w.cell? ⟨w.heap.size, 1, none⟩ = some (.bool wd) := fun x => (x.h.cell (by show w.heap.size < _; omega)).trans d1
       have N2 : ∀ x : Near wb.heap.size wb, x.w.cell? ⟨w.heap.size, 2, none⟩ = some (.int .i64 st) := fun x => (x.h.cell (by show w.heap.size < _; omega)).trans d2
       have hzz := Nat.le_refl wb.heap.size
       have HUx : Hid (∀ x : Near wb.heap.size wb, U8 x.w) := Lib.hid fun x => HU.out.below (hb1.trans (x.h.mono (by omega)))
       clear d0 d1 d2 hgb
       refine wp_region_near wb.heap.size (by kernel_rfl) (by kernel_rfl) ?_; (repeat (go_big_quiet_step ((first | (go_at_call 106; exact Calls.near _ hzz (HK.out _ (HUx.out _))) | (go_at_call 107; exact Calls.near _ hzz (HW.out _ (HUx.out _))) | (go_at_call 79; exact Calls.near _ hzz (HI.out _)))))); refine wpQuiet_nil ?_; intro _ hw'; obtain ⟨x1, hw''⟩ := hw'; subst hw''
       go_wp2
       go_ret
       exact ⟨rfl, hb1.trans (x1.h.mono (by omega))⟩
      ·rw [if_pos (.inr (.inr (.inr ⟨h4, h5⟩)))]
       have e5 : (t.toList == [42]) = false := by rw [hq]; simp [h5]
       clear hq h1 h5 h4
       go_enter Tryz.func82, Tryz.ntmps82
       go_upto_region 1 with fail
       refine wp_fg (GlBox w t wd st) (GlBox.new w t wd st _) ?_
       rintro wb hgb
       obtain ⟨d0, d1, d2, hb1, hz1⟩ := id hgb
       have N0 : ∀ x : Near wb.heap.size wb, x.w.cell? ⟨w.heap.size, 0, none⟩ = some (.string t) := fun x => (x.h.cell (by show w.heap.size < _; omega)).trans d0
       have N1 : ∀ x : Near wb.heap.size wb, x.w.cell? ⟨w.heap.size, 1, none⟩ = some (.bool wd) := fun x => (x.h.cell (by show w.heap.size < _; omega)).trans d1
       have N2 : ∀ x : Near wb.heap.size wb, x.w.cell? ⟨w.heap.size, 2, none⟩ = some (.int .i64 st) := fun x => (x.h.cell (by show w.heap.size < _; omega)).trans d2
       have hzz := Nat.le_refl wb.heap.size
       have HUx : Hid (∀ x : Near wb.heap.size wb, U8 x.w) := Lib.hid fun x => HU.out.below (hb1.trans (x.h.mono (by omega)))
       clear d0 d1 d2 hgb
       refine wp_region_near wb.heap.size (by kernel_rfl) (by kernel_rfl) ?_; (repeat (go_big_quiet_step ((first | (go_at_call 106; exact Calls.near _ hzz (HK.out _ (HUx.out _))) | (go_at_call 107; exact Calls.near _ hzz (HW.out _ (HUx.out _))) | (go_at_call 79; exact Calls.near _ hzz (HI.out _)))))); refine wpQuiet_nil ?_; intro _ hw'; obtain ⟨x1, hw''⟩ := hw'; subst hw''
       go_wp2
       go_ret
       exact ⟨rfl, hb1.trans (x1.h.mono (by omega))⟩
     ·rw [if_neg (by rw [not_or, not_or, not_or]; exact ⟨fun h => h h1, h2, h3, fun h => h4 h.1⟩)]
      have e4 : (st != 3) = true := bne_iff_ne.2 h4
      clear hq h1
      go_enter Tryz.func82, Tryz.ntmps82
      go_upto_region 1 with fail
      refine wp_fg (GlBox w t wd st) (GlBox.new w t wd st _) ?_
      rintro wb hgb
      obtain ⟨d0, d1, d2, hb1, hz1⟩ := id hgb
      have N0 : ∀ x : Near wb.heap.size wb, x.w.cell? ⟨w.heap.size, 0, none⟩ = some (.string t) := fun x => (x.h.cell (by show w.heap.size < _; omega)).trans d0
      have N1 : ∀ x : Near wb.heap.size wb, x.w.cell? ⟨w.heap.size, 1, none⟩ = some (.bool wd) := fun x => (x.h.cell (by show w.heap.size < _; omega)).trans d1
      have N2 : ∀ x : Near wb.heap.size wb, x.w.cell? ⟨w.heap.size, 2, none⟩ = some (.int .i64 st) := fun x => (x.h.cell (by show w.heap.size < _; omega)).trans d2
      have hzz := Nat.le_refl wb.heap.size
      have HUx : Hid (∀ x : Near wb.heap.size wb, U8 x.w) := Lib.hid fun x => HU.out.below (hb1.trans (x.h.mono (by omega)))
      clear d0 d1 d2 hgb
      refine wp_region_near wb.heap.size (by kernel_rfl) (by kernel_rfl) ?_; (repeat (go_big_quiet_step ((first | (go_at_call 106; exact Calls.near _ hzz (HK.out _ (HUx.out _))) | (go_at_call 107; exact Calls.near _ hzz (HW.out _ (HUx.out _))) | (go_at_call 79; exact Calls.near _ hzz (HI.out _)))))); refine wpQuiet_nil ?_; intro _ hw'; obtain ⟨x1, hw''⟩ := hw'; subst hw''
      go_wp2
      go_ret
      exact ⟨rfl, hb1.trans (x1.h.mono (by omega))⟩
  ·rw [if_pos (.inl h1)]
   have e2 : (wd == (W == 2)) = false := by
    cases wd <;> by_cases h : W = 2 <;> simp_all
   clear hq h1
   go_enter Tryz.func82, Tryz.ntmps82
   go_upto_region 1 with fail
   refine wp_fg (GlBox w t wd st) (GlBox.new w t wd st _) ?_
   rintro wb hgb
   obtain ⟨d0, d1, d2, hb1, hz1⟩ := id hgb
   have N0 : ∀ x : Near wb.heap.size wb, x.w.cell? ⟨w.heap.size, 0, none⟩ = some (.string t) := fun x => (x.h.cell (by show w.heap.size < _; omega)).trans d0
   have N1 : ∀ x : Near wb.heap.size wb, x.w.cell? ⟨w.heap.size, 1, none⟩ = some (.bool wd) := fun x => (x.h.cell (by show w.heap.size < _; omega)).trans d1
   have N2 : ∀ x : Near wb.heap.size wb, x.w.cell? ⟨w.heap.size, 2, none⟩ = some (.int .i64 st) := fun x => (x.h.cell (by show w.heap.size < _; omega)).trans d2
   have hzz := Nat.le_refl wb.heap.size
   have HUx : Hid (∀ x : Near wb.heap.size wb, U8 x.w) := Lib.hid fun x => HU.out.below (hb1.trans (x.h.mono (by omega)))
   clear d0 d1 d2 hgb
   refine wp_region_near wb.heap.size (by kernel_rfl) (by kernel_rfl) ?_; (repeat (go_big_quiet_step ((first | (go_at_call 106; exact Calls.near _ hzz (HK.out _ (HUx.out _))) | (go_at_call 107; exact Calls.near _ hzz (HW.out _ (HUx.out _))) | (go_at_call 79; exact Calls.near _ hzz (HI.out _)))))); refine wpQuiet_nil ?_; intro _ hw'; obtain ⟨x1, hw''⟩ := hw'; subst hw''
   go_wp2
   go_ret
   exact ⟨rfl, hb1.trans (x1.h.mono (by omega))⟩
 ·rw [if_pos hc]
  generalize checkC t = K at *
  have hcb : (K == 0) = false := beq_eq_false_iff_ne.2 hc
  clear hc hq
  go_enter Tryz.func82, Tryz.ntmps82
  go_upto_region 1 with fail
  refine wp_fg (GlBox w t wd st) (GlBox.new w t wd st _) ?_
  rintro wb hgb
  obtain ⟨d0, d1, d2, hb1, hz1⟩ := id hgb
  have N0 : ∀ x : Near wb.heap.size wb, x.w.cell? ⟨w.heap.size, 0, none⟩ = some (.string t) := fun x => (x.h.cell (by show w.heap.size < _; omega)).trans d0
  have N1 : ∀ x : Near wb.heap.size wb, x.w.cell? ⟨w.heap.size, 1, none⟩ = some (.bool wd) := fun x => (x.h.cell (by show w.heap.size < _; omega)).trans d1
  have N2 : ∀ x : Near wb.heap.size wb, x.w.cell? ⟨w.heap.size, 2, none⟩ = some (.int .i64 st) := fun x => (x.h.cell (by show w.heap.size < _; omega)).trans d2
  have hzz := Nat.le_refl wb.heap.size
  have HUx : Hid (∀ x : Near wb.heap.size wb, U8 x.w) := Lib.hid fun x => HU.out.below (hb1.trans (x.h.mono (by omega)))
  clear d0 d1 d2 hgb
  refine wp_region_near wb.heap.size (by kernel_rfl) (by kernel_rfl) ?_; (repeat (go_big_quiet_step ((first | (go_at_call 106; exact Calls.near _ hzz (HK.out _ (HUx.out _))) | (go_at_call 107; exact Calls.near _ hzz (HW.out _ (HUx.out _))) | (go_at_call 79; exact Calls.near _ hzz (HI.out _)))))); refine wpQuiet_nil ?_; intro _ hw'; obtain ⟨x1, hw''⟩ := hw'; subst hw''
  go_wp2
  go_ret
  exact ⟨rfl, hb1.trans (x1.h.mono (by omega))⟩
set_option maxHeartbeats 1000000 in
theorem notvalid_ (g : Gl) (hs : g.text.size ≤ 1000000000) (w : World) (hu : U8 w) : Calls Tryz.prog 81 #[glV g] w (Gives (.bool (!validG g)) w) := by
 have HV : Hid (∀ w', U8 w' → _) := Lib.hid (validu_ g hs)
 have HU := Lib.hid hu
 generalize validG g = V at *
 obtain ⟨t, wd, st⟩ := g
 clear hu
 go_enter Tryz.func81, Tryz.ntmps81
 go_upto_region 1 with fail
 refine wp_fg (GlBox w t wd st) (GlBox.new w t wd st _) ?_
 rintro wb hgb
 obtain ⟨d0, d1, d2, hb1, hz1⟩ := hgb
 have hub := HU.out.below hb1
 go_wp2_with (go_at_call 82; refine (HV.out _ hub).mono ?_; rintro e w1 ⟨rfl, hbel1⟩)
 go_ret
 exact ⟨rfl, hb1.trans (hbel1.mono (by omega))⟩
end Go.Proofs.YtholajadbbdcmaaGreatDoor
