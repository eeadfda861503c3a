/- Joined: UrP, Ur7, Uc1. -/
import Derived.Test.YtlndbiamiioakaaGreatDoorVBE
set_option linter.unusedVariables false
set_option linter.unusedSimpArgs false
set_option linter.unnecessarySimpa false
set_option maxHeartbeats 4000000
namespace Go.Proofs.YtlndbiamiioakaaGreatDoor
open Go.Proofs.Tryz Go.RowKit
set_option maxRecDepth 20000
theorem j7 (l s) : qU ((some l).bind (skO s)) = match afO s l with
  | some x => (x.1, some x.2)
  | none => (0, none) := by
 unfold qU afO
 simp only [Option.bind_some]
 cases (skO s l).bind jH <;> rfl
theorem qeQ (l s t) : qU (((some l).bind (skO s)).bind (skO t)) = match (skO s l).bind (afO t) with
  | some x => (x.1, some x.2)
  | none => (0, none) := by
 show qU ((skO s l).bind (skO t)) = _
 cases skO s l with
 | none => rfl
 | some l' => exact j7 l' t
theorem sizP_eq (l : List ByteArray) : ((afO vc l).bind fun x => (afO jk x.2).bind fun y => (skO vn y.2).map fun t => ((⟨1, x.1, y.1, 0, 0, []⟩ : Chg), t)) = (sizP (some l)).2.map fun t => ((sizP (some l)).1, t) := by
 unfold sizP
 rw [j7]
 cases afO vc l with
 | none => rfl
 | some x =>
  simp only [Option.bind_some]
  rw [show skO jk x.2 = (some x.2).bind (skO jk) from rfl, j7]
  cases afO jk x.2 with
  | none => rfl
  | some y => rfl
theorem scrP_eq (l : List ByteArray) : (((skO qE l).bind (afO qu)).bind fun x => (afO bTo x.2).bind fun y =>
  if zj zT y.2 = true then (afO zT y.2).bind fun z => if z.1 < 0 then none else some ((⟨2, x.1 - 1, 0, -z.1, y.1, []⟩ : Chg), z.2)
  else (afO bUp y.2).bind fun z => if z.1 < 0 then none else some (⟨2, x.1 - 1, 0, z.1, y.1, []⟩, z.2)) = (scrP (some l)).2.map fun t => ((scrP (some l)).1, t) := by
 unfold scrP
 rw [qeQ]
 cases (skO qE l).bind (afO qu) with
 | none => rfl
 | some x =>
  simp only [Option.bind_some]
  rw [show skO bTo x.2 = (some x.2).bind (skO bTo) from rfl, j7]
  cases afO bTo x.2 with
  | none => rfl
  | some y =>
   simp only [Option.bind_some]
   by_cases hd : zj zT y.2 = true
   ·rw [if_pos hd, if_pos (show qo (some y.2) zT = true from hd), show skO zT y.2 = (some y.2).bind (skO zT) from rfl, j7]
    cases afO zT y.2 with
    | none => rfl
    | some z =>
     simp only [Option.bind_some, qbG]
     split <;> rfl
   ·rw [if_neg hd, if_neg (show ¬ qo (some y.2) zT = true from hd), show skO bUp y.2 = (some y.2).bind (skO bUp) from rfl, j7]
    cases afO bUp y.2 with
    | none => rfl
    | some z =>
     simp only [Option.bind_some, qbG]
     split <;> rfl
theorem curP_eq (l : List ByteArray) : (((skO qD l).bind (afO qu)).bind fun x => (afO qB x.2).bind fun y =>
  if zj qH y.2 = true then (skO qH y.2).map fun t => ((⟨4, x.1 - 1, y.1 - 1, 1, 0, []⟩ : Chg), t)
  else (skO zo y.2).map fun t => (⟨4, x.1 - 1, y.1 - 1, 0, 0, []⟩, t)) = (curP (some l)).2.map fun t => ((curP (some l)).1, t) := by
 unfold curP
 rw [qeQ]
 cases (skO qD l).bind (afO qu) with
 | none => rfl
 | some x =>
  simp only [Option.bind_some]
  rw [show skO qB x.2 = (some x.2).bind (skO qB) from rfl, j7]
  cases afO qB x.2 with
  | none => rfl
  | some y =>
   simp only [Option.bind_some]
   by_cases hd : zj qH y.2 = true
   ·rw [if_pos hd, if_pos (show qo (some y.2) qH = true from hd)]
   ·rw [if_neg hd, if_neg (show ¬ qo (some y.2) qH = true from hd)]
theorem delP_eq (l : List ByteArray) : delL l = (delP (some l)).2.map fun t => ((delP (some l)).1, t) := by
 unfold delL delP
 by_cases hd : zj qW l = true
 ·rw [if_pos hd, if_pos (show qo (some l) qW = true from hd), j7]
  cases afO qW l with
  | none => rfl
  | some x =>
   simp only [Option.bind_some]
   split <;> rfl
 ·rw [if_neg hd, if_neg (show ¬ qo (some l) qW = true from hd)]
  rfl
theorem qbJ (l : List ByteArray) : insL l = (j6 (some l)).2.map fun t => ((j6 (some l)).1, t) := by
 unfold insL j6 kW
 by_cases hd : zj qK l = true
 ·rw [if_pos hd, if_pos (show qo (some l) qK = true from hd)]
  simp only [Option.bind_some]
  cases (skO qK l).bind vX <;> rfl
 ·rw [if_neg hd, if_neg (show ¬ qo (some l) qK = true from hd)]
  rfl
theorem splP_eq (l : List ByteArray) : kv l = (qaA (some l)).2.map fun t => ((qaA (some l)).1, t) := by
 unfold kv qaA
 rw [j7]
 cases afO qu l with
 | none => rfl
 | some x =>
  simp only [Option.bind_some]
  rw [show skO qB x.2 = (some x.2).bind (skO qB) from rfl, j7]
  cases afO qB x.2 with
  | none => rfl
  | some y =>
   simp only [Option.bind_some]
   rw [delP_eq]
   generalize delP (some y.2) = d
   obtain ⟨d1, d2⟩ := d
   cases d2 with
   | none => rfl
   | some t =>
    simp only [Option.map_some, Option.bind_some]
    rw [qbJ]
    generalize j6 (some t) = g
    obtain ⟨g1, g2⟩ := g
    cases g2 <;> rfl
theorem chgP_eq (l : List ByteArray) : qan l = (chgP (some l)).2.map fun t => ((chgP (some l)).1, t) := by
 unfold qan chgP
 by_cases h1 : zj vc l = true
 ·rw [if_pos h1, if_pos (show qo (some l) vc = true from h1)]
  exact sizP_eq l
 ·rw [if_neg h1, if_neg (show ¬ qo (some l) vc = true from h1)]
  by_cases h2 : zj qE l = true
  ·rw [if_pos h2, if_pos (show qo (some l) qE = true from h2)]
   exact scrP_eq l
  ·rw [if_neg h2, if_neg (show ¬ qo (some l) qE = true from h2)]
   by_cases h3 : zj qu l = true
   ·rw [if_pos h3, if_pos (show qo (some l) qu = true from h3)]
    exact splP_eq l
   ·rw [if_neg h3, if_neg (show ¬ qo (some l) qu = true from h3)]
    by_cases h4 : zj qD l = true
    ·rw [if_pos h4, if_pos (show qo (some l) qD = true from h4)]
     exact curP_eq l
    ·rw [if_neg h4, if_neg (show ¬ qo (some l) qD = true from h4)]
     rfl
theorem jN {s : ByteArray} {l t : List ByteArray} (h : skO s l = some t) : t.length < l.length := by
 cases l with
 | nil => cases h
 | cons a u =>
  simp only [skO] at h
  split at h
  ·cases h; simp
  ·cases h
theorem qgh {l t : List ByteArray} {n : Int} (h : jH l = some (n, t)) : t.length <= l.length := by
 unfold jH at h
 rw [Option.map_eq_some_iff] at h
 obtain ⟨x, _, e⟩ := h
 cases e
 rw [List.length_drop]
 omega
theorem jQ {s : ByteArray} {l t : List ByteArray} {n : Int} (h : afO s l = some (n, t)) : t.length < l.length := by
 unfold afO at h
 rw [Option.bind_eq_some_iff] at h
 obtain ⟨x, h1, h2⟩ := h
 have := jN h1
 have := qgh h2
 omega
theorem qeC {l t : List ByteArray} {G : List Gl} (h : vX l = some (G, t)) : t.length <= l.length /\ ∃ k, jr (l.take k) = some G := by
 unfold vX at h
 rw [Option.bind_eq_some_iff] at h
 obtain ⟨i, _, h2⟩ := h
 split at h2
 ·rename_i g gs hg
  cases h2
  exact ⟨by rw [List.length_drop]; omega, i, hg⟩
 ·cases h2
theorem qgD {l t : List ByteArray} {n : Int} (h : delL l = some (n, t)) : t.length <= l.length := by
 unfold delL at h
 split at h
 ·rw [Option.bind_eq_some_iff] at h
  obtain ⟨x, h1, h2⟩ := h
  split at h2
  ·cases h2
  ·cases h2
   exact Nat.le_of_lt (jQ h1)
 ·cases h
  exact Nat.le_refl _
def SmG (G : List Gl) : Prop := G.length <= 1000000000 /\ ∀ x ∈ G, x.text.size <= 1000000000
theorem SmG.nil : SmG [] := ⟨by decide, fun x hx => by cases hx⟩
theorem qbu : ∀ (f : Nat) (q : Prs) (G : List Gl), PaK2 q -> k8 f q = some G -> SmG G
 | 0, q, G, hk, h => by
  rw [k8] at h
  injection h with h
  have h1 := hk.1.2.1
  have h2 := hk.1.2.2
  rw [<- h]
  exact ⟨by omega, fun x hx => by have := h2 x hx; omega⟩
 | f + 1, q, G, hk, h => by
  rw [k8] at h
  split at h
  ·injection h with h
   have h1 := hk.1.2.1
   have h2 := hk.1.2.2
   rw [<- h]
   exact ⟨by omega, fun x hx => by have := h2 x hx; omega⟩
  ·cases hp : zR q with
   | none => rw [hp] at h; cases h
   | some q' => rw [hp] at h; exact qbu f q' G (hk.part hp) h
theorem qdV {l : List ByteArray} {G : List Gl} (hl : l.length <= 400000) (hsz : ∀ s ∈ l, s.size <= 1000) (h : jr l = some G) : SmG G :=
 qbu _ _ _ ⟨⟨hsz, by show 0 + 2000 * l.length <= _; omega, fun x hx => by cases hx⟩, hl⟩ h
def Sub (t l : List ByteArray) : Prop := t.length <= l.length /\ ∀ s ∈ t, s ∈ l
theorem Sub.trans {a b c : List ByteArray} (h : Sub a b) (g : Sub b c) : Sub a c := ⟨Nat.le_trans h.1 g.1, fun s hs => g.2 s (h.2 s hs)⟩
theorem qfN {s : ByteArray} {l t : List ByteArray} (h : skO s l = some t) : Sub t l := by
 refine ⟨Nat.le_of_lt (jN h), ?_⟩
 cases l with
 | nil => cases h
 | cons a u =>
  simp only [skO] at h
  split at h
  ·cases h; exact fun x hx => List.mem_cons_of_mem _ hx
  ·cases h
theorem qga {l t : List ByteArray} {n : Int} (h : jH l = some (n, t)) : Sub t l := by
 refine ⟨qgh h, ?_⟩
 unfold jH at h
 rw [Option.map_eq_some_iff] at h
 obtain ⟨x, _, e⟩ := h
 cases e
 exact fun s hs => List.mem_of_mem_drop hs
theorem qfp {s : ByteArray} {l t : List ByteArray} {n : Int} (h : afO s l = some (n, t)) : Sub t l := by
 unfold afO at h
 rw [Option.bind_eq_some_iff] at h
 obtain ⟨x, h1, h2⟩ := h
 exact (qga h2).trans (qfN h1)
theorem del_sub {l t : List ByteArray} {n : Int} (h : delL l = some (n, t)) : Sub t l := by
 unfold delL at h
 split at h
 ·rw [Option.bind_eq_some_iff] at h
  obtain ⟨x, h1, h2⟩ := h
  split at h2
  ·cases h2
  ·cases h2
   exact qfp h1
 ·cases h
  exact ⟨Nat.le_refl _, fun s hs => hs⟩
theorem qgu {l t : List ByteArray} {G : List Gl} (h : insL l = some (G, t)) (hl : l.length <= 400000) (hsz : ∀ s ∈ l, s.size <= 1000) : t.length <= l.length /\ SmG G := by
 unfold insL at h
 split at h
 ·rw [Option.bind_eq_some_iff] at h
  obtain ⟨x, h1, h2⟩ := h
  have hs := qfN h1
  obtain ⟨h3, k, hk⟩ := qeC h2
  exact ⟨Nat.le_trans h3 hs.1, qdV (by rw [List.length_take]; have := hs.1; omega) (fun s hs' => hsz s (hs.2 s (List.mem_of_mem_take hs'))) hk⟩
 ·cases h
  exact ⟨Nat.le_refl _, SmG.nil⟩
theorem qgy {l t : List ByteArray} {c : Chg} (h : qan l = some (c, t)) (hl : l.length <= 400000) (hsz : ∀ s ∈ l, s.size <= 1000) : t.length < l.length /\ SmG c.glyphs := by
 unfold qan at h
 split at h
 ·rw [Option.bind_eq_some_iff] at h
  obtain ⟨x, h1, h⟩ := h
  rw [Option.bind_eq_some_iff] at h
  obtain ⟨y, h2, h⟩ := h
  rw [Option.map_eq_some_iff] at h
  obtain ⟨u, h3, h⟩ := h
  cases h
  have := jQ h1
  have := jQ h2
  have := jN h3
  exact ⟨by omega, SmG.nil⟩
 ·split at h
  ·rw [Option.bind_eq_some_iff] at h
   obtain ⟨x, h1, h⟩ := h
   rw [Option.bind_eq_some_iff] at h1
   obtain ⟨x0, h0, h1⟩ := h1
   rw [Option.bind_eq_some_iff] at h
   obtain ⟨y, h2, h⟩ := h
   have := jN h0
   have := jQ h1
   have := jQ h2
   split at h
   ·rw [Option.bind_eq_some_iff] at h
    obtain ⟨z, h3, h⟩ := h
    have := jQ h3
    split at h
    ·cases h
    ·cases h
     exact ⟨by omega, SmG.nil⟩
   ·rw [Option.bind_eq_some_iff] at h
    obtain ⟨z, h3, h⟩ := h
    have := jQ h3
    split at h
    ·cases h
    ·cases h
     exact ⟨by omega, SmG.nil⟩
  ·split at h
   ·unfold kv at h
    rw [Option.bind_eq_some_iff] at h
    obtain ⟨x, h1, h⟩ := h
    rw [Option.bind_eq_some_iff] at h
    obtain ⟨y, h2, h⟩ := h
    rw [Option.bind_eq_some_iff] at h
    obtain ⟨z, h3, h⟩ := h
    rw [Option.map_eq_some_iff] at h
    obtain ⟨g, h4, h⟩ := h
    cases h
    have hs := (del_sub h3).trans ((qfp h2).trans (qfp h1))
    have := jQ h1
    have := jQ h2
    have := qgD h3
    obtain ⟨h5, h6⟩ := qgu h4 (Nat.le_trans hs.1 hl) (fun s hs' => hsz s (hs.2 s hs'))
    exact ⟨by omega, h6⟩
   ·split at h
    ·rw [Option.bind_eq_some_iff] at h
     obtain ⟨x, h1, h⟩ := h
     rw [Option.bind_eq_some_iff] at h1
     obtain ⟨x0, h0, h1⟩ := h1
     rw [Option.bind_eq_some_iff] at h
     obtain ⟨y, h2, h⟩ := h
     have := jN h0
     have := jQ h1
     have := jQ h2
     split at h
     ·rw [Option.map_eq_some_iff] at h
      obtain ⟨u, h3, h⟩ := h
      cases h
      have := jN h3
      exact ⟨by omega, SmG.nil⟩
     ·rw [Option.map_eq_some_iff] at h
      obtain ⟨u, h3, h⟩ := h
      cases h
      have := jN h3
      exact ⟨by omega, SmG.nil⟩
    ·cases h
def ES (w : World) (B : Nat) (r : Option (List ByteArray)) (X : World) : Prop :=
 ∃ A n cc l bad, r = zY bad l /\ WdR X B l A n cc /\ Blk X w.heap.size 41 #[.slice A n cc, .bool bad] /\ Below w.heap.size w X
theorem ES.turn {w X : World} {B : Nat} {r' : Option (List ByteArray)} {A A0 : Option Addr} {n cc n0 cc0 : Nat} {l : List ByteArray} {bad bad0 : Bool} (hB : B <= w.heap.size) (R1 : Blk X w.heap.size 41 #[.slice A0 n0 cc0, .bool bad0]) (tx : Below w.heap.size w X) (hW : WdR X B l A n cc) (hr : r' = zY bad l) :
  ES w B r' ((X.setCell ⟨w.heap.size, 0, none⟩ (.slice A n cc)).setCell ⟨w.heap.size, 1, none⟩ (.bool bad)) :=
 ⟨A, n, cc, l, bad, hr, hW.below (((Below.refl B X).setCell (p := ⟨w.heap.size, 0, none⟩) hB _).setCell (p := ⟨w.heap.size, 1, none⟩) hB _), qA R1, (tx.setCell (p := ⟨w.heap.size, 0, none⟩) (Nat.le_refl _) _).setCell (p := ⟨w.heap.size, 1, none⟩) (Nat.le_refl _) _⟩
def EndE (w : World) (l : List ByteArray) (e : Ending) (w' : World) : Prop := ∃ N b, e = .returned (.tuple #[.int .i64 N, .bool b]) /\ Below w.heap.size w w' /\ yp l = if b = true then some N else none
theorem end_tail (t : List ByteArray) : ((jH t).bind fun x => (skO zy x.2).bind fun u => if u = [] /\ 1 < x.1 then some x.1 else none) = ((qU (some t)).2.bind (skO zy)).bind fun u => if u = [] /\ 1 < (qU (some t)).1 then some (qU (some t)).1 else none := by
 unfold qU
 simp only [Option.bind_some]
 cases jH t with
 | none => rfl
 | some x => rfl
theorem qdb (l : List ByteArray) (s : ByteArray) : qo (some l) s = zj s l := rfl
theorem uend_ (l : List ByteArray) (A : Option Addr) (n c : Nat) (w : World) (B : Nat) (hW : WdR w B l A n c) (hB : B <= w.heap.size) :
  Calls prog 14 #[.agg #[.slice A n c, .bool false]] w (EndE w l) := by
 have hX : ES w B (some l) (w.alloc (.cells #[.slice A n c, .bool false] 41)) := ⟨A, n, c, l, false, rfl, hW.below ((Below.refl _ _).alloc hB _), Blk.new w _ _, (Below.refl _ _).alloc (Nat.le_refl _) _⟩
 clear hW
 go_enter func14, ntmps14
 go_upto_region 1 with fail
 refine qc (ES w B (some l)) hX ?_
 clear hX
 intro X hX
 obtain ⟨s1, hs1⟩ : ∃ b, Hid (b = qo (some l) vh) := ⟨_, Lh rfl⟩
 obtain ⟨A', n', c', l', bad', hr', hW, R1, tx⟩ := id hX
 have c0 := R1.cell 0
 have c1 := R1.cell 1
 have f0 := R1.frozen 0
 have f1 := R1.frozen 1
 have z0 := R1.lt
 simp only [La, Lb, Lc] at c0 c1
 have hBX := Nat.le_trans hB tx.size
 cases bad' with
 | true => cases hr'
 | false =>
  obtain rfl : l = l' := by cases hr'; rfl
  have hln := hW.len
  have HN := Lh (yk (some l) _ vh B X ⟨A', n', c', l, false, rfl, hW, rfl⟩ hBX)
  rw [<- hs1.out] at HN
  cases s1 with
  | true =>
   have HE : Hid (yp l = if l.length = 1 then some 0 else none) := Lh (by unfold yp; rw [<- qdb, <- hs1.out]; rfl)
   clear hs1 hr'
   go_upto_region 2 with (go_at_call 11; refine HN.out.mono ?_; rintro e w1 ⟨rfl, hb1⟩; (clear c0 c1 f0 f1; have R0 := R1.below hb1 R1.lt; have f0 := R0.frozen 0; have f1 := R0.frozen 1; have c0 := R0.cell 0; have c1 := R0.cell 1; simp only [La, Lb, Lc] at c0 c1))
   have hq : ((n' : Int) == 1) = decide (l.length = 1) := by rw [hln, Bool.eq_iff_iff]; simp; omega
   generalize hdd : decide (l.length = 1) = dd at *
   have HE2 : Hid (yp l = if dd = true then some 0 else none) := Lh (by rw [HE.out, <- hdd]; simp)
   clear HE hdd
   go_quiet (fail)
   go_wp2
   go_ret2
   exact ⟨0, dd, rfl, qb (tx.trans (hb1.mono (by omega))), HE2.out⟩
  | false =>
   have HE : Hid (yp l = (skO q8 l).bind fun t => if t = [] then some 1 else (jH t).bind fun x => (skO zy x.2).bind fun u => if u = [] /\ 1 < x.1 then some x.1 else none) := Lh (by unfold yp; rw [<- qdb, <- hs1.out]; rfl)
   clear hs1 hr'
   obtain ⟨r1, hr1⟩ : ∃ r, Hid (r = (some l).bind (skO q8)) := ⟨_, Lh rfl⟩
   have HE1 : Hid (yp l = r1.bind fun t => if t = [] then some 1 else (jH t).bind fun x => (skO zy x.2).bind fun u => if u = [] /\ 1 < x.1 then some x.1 else none) := Lh (by rw [HE.out, hr1.out]; rfl)
   clear HE
   go_upto_region 3 with (go_at_call 11; refine HN.out.mono ?_; rintro e w1 ⟨rfl, hb1⟩; (clear c0 c1 f0 f1; have R0 := R1.below hb1 R1.lt; have f0 := R0.frozen 0; have f1 := R0.frozen 1; have c0 := R0.cell 0; have c1 := R0.cell 1; simp only [La, Lb, Lc] at c0 c1))
   refine qc (ES w B (some l)) ⟨A', n', c', l, false, rfl, hW.below (hb1.mono hBX), R1.below hb1 R1.lt, tx.trans (hb1.mono (by omega))⟩ ?_
   clear hX c0 c1 f0 f1 z0 R1 tx hb1 hW HN hln hBX
   intro X hX
   obtain ⟨A', n', c', l', bad', hr', hW, R1, tx⟩ := id hX
   have c0 := R1.cell 0
   have c1 := R1.cell 1
   have f0 := R1.frozen 0
   have f1 := R1.frozen 1
   have z0 := R1.lt
   simp only [La, Lb, Lc] at c0 c1
   have HK := Lh (qdr (some l) _ q8 B X ⟨A', n', c', l', bad', rfl, hW, hr'⟩ (Nat.le_trans hB tx.size))
   rw [<- hr1.out] at HK
   go_upto_region 4 with (go_at_call 26; refine HK.out.mono ?_; rintro e w1 ⟨A1, n1, cc1, l1, qim, rfl, hW1, hq1, hb1⟩; (clear c0 c1 f0 f1; have R0 := R1.below hb1 R1.lt; have f0 := R0.frozen 0; have f1 := R0.frozen 1; have c0 := R0.cell 0; have c1 := R0.cell 1; simp only [La, Lb, Lc] at c0 c1))
   refine qc (ES w B r1) (ES.turn hB (R1.below hb1 R1.lt) (tx.trans (hb1.mono (by omega))) hW1 hq1) ?_
   clear hX c0 c1 f0 f1 z0 R1 tx hb1 hW HK hr1 hW1 hq1 hr'
   intro X hX
   obtain ⟨A', n', c', l', bad', hr', hW, R1, tx⟩ := id hX
   have c0 := R1.cell 0
   have c1 := R1.cell 1
   have f0 := R1.frozen 0
   have f1 := R1.frozen 1
   have z0 := R1.lt
   simp only [La, Lb, Lc] at c0 c1
   have hln := hW.len
   by_cases hn0 : n' = 0
   ·subst hn0
    have hl0 : l' = [] := List.length_eq_zero_iff.1 hln
    have HE2 : Hid (yp l = if (!bad') = true then some 1 else none) := Lh (by rw [HE1.out, hr']; cases bad' <;> simp [zY, hl0])
    clear HE1 hr'
    go_upto_region 5 with fail
    go_quiet (fail)
    go_wp2
    go_ret2
    exact ⟨1, !bad', rfl, qb tx, HE2.out⟩
   ·have hni : ((n' : Int) == 0) = false := beq_eq_false_iff_ne.2 (by omega)
    have hni2 : ¬ (n' : Int) = 0 := by omega
    obtain ⟨x, hx⟩ : ∃ x, Hid (x = qU r1) := ⟨_, Lh rfl⟩
    obtain ⟨y, hy⟩ : ∃ y, Hid (y = x.2.bind (skO zy)) := ⟨_, Lh rfl⟩
    have HE2 : Hid (yp l = y.bind fun u => if u = [] /\ 1 < x.1 then some x.1 else none) := Lh (by
     rw [HE1.out, hy.out, hx.out, hr']
     cases bad' with
     | true => rfl
     | false =>
      show (if l' = [] then _ else _) = _
      rw [if_neg (fun e => hn0 (by rw [<- hln, e]; rfl))]
      exact end_tail l')
    clear HE1 hn0 hln
    have HM := Lh (qeU r1 _ B X ⟨A', n', c', l', bad', rfl, hW, hr'⟩ (Nat.le_trans hB tx.size))
    rw [<- hx.out] at HM
    go_upto_region 7 with (go_at_call 32; refine (HM.out.mono fun _ _ h => h.e (Nat.le_trans hB tx.size)).mono ?_; rintro e w1 ⟨v1, rfl, ⟨A1, n1, cc1, l1, qim, rfl, hW1, hq1⟩, hb1⟩; (clear c0 c1 f0 f1; have R0 := R1.below hb1 R1.lt; have f0 := R0.frozen 0; have f1 := R0.frozen 1; have c0 := R0.cell 0; have c1 := R0.cell 1; simp only [La, Lb, Lc] at c0 c1))
    refine qc (ES w B x.2) (ES.turn hB (R1.below hb1 R1.lt) (tx.trans (hb1.mono (by omega))) hW1 hq1) ?_
    clear hX c0 c1 f0 f1 z0 R1 tx hb1 hW HM hW1 hq1 hr' hni hni2 hx
    intro X hX
    obtain ⟨A', n', c', l', bad', hr', hW, R1, tx⟩ := id hX
    have c0 := R1.cell 0
    have c1 := R1.cell 1
    have f0 := R1.frozen 0
    have f1 := R1.frozen 1
    have z0 := R1.lt
    simp only [La, Lb, Lc] at c0 c1
    have HK := Lh (qdr x.2 _ zy B X ⟨A', n', c', l', bad', rfl, hW, hr'⟩ (Nat.le_trans hB tx.size))
    rw [<- hy.out] at HK
    go_upto_region 8 with (go_at_call 26; refine HK.out.mono ?_; rintro e w1 ⟨A1, n1, cc1, l1, qim, rfl, hW1, hq1, hb1⟩; (clear c0 c1 f0 f1; have R0 := R1.below hb1 R1.lt; have f0 := R0.frozen 0; have f1 := R0.frozen 1; have c0 := R0.cell 0; have c1 := R0.cell 1; simp only [La, Lb, Lc] at c0 c1))
    refine qc (ES w B y) (ES.turn hB (R1.below hb1 R1.lt) (tx.trans (hb1.mono (by omega))) hW1 hq1) ?_
    clear hX c0 c1 f0 f1 z0 R1 tx hb1 hW HK hW1 hq1 hr' hy
    intro X hX
    obtain ⟨A', n', c', l', bad', hr', hW, R1, tx⟩ := id hX
    have c0 := R1.cell 0
    have c1 := R1.cell 1
    have f0 := R1.frozen 0
    have f1 := R1.frozen 1
    have z0 := R1.lt
    simp only [La, Lb, Lc] at c0 c1
    have hln := hW.len
    obtain ⟨N, xr⟩ := x
    simp only at HE2
    cases bad' with
    | true =>
     have HE3 : Hid (yp l = none) := Lh (by rw [HE2.out, hr']; rfl)
     clear HE2 hr' hln
     go_wp2
     go_ret2
     exact ⟨N, false, rfl, tx, HE3.out⟩
    | false =>
     have HE3 : Hid (yp l = if l' = [] /\ 1 < N then some N else none) := Lh (by rw [HE2.out, hr']; rfl)
     clear HE2 hr'
     by_cases hn0 : n' = 0
     ·subst hn0
      have hl0 : l' = [] := List.length_eq_zero_iff.1 hln
      have HE4 : Hid (yp l = if decide (1 < N) = true then some N else none) := Lh (by rw [HE3.out, hl0]; simp)
      clear HE3 hln
      generalize hdd : decide (1 < N) = dd at *
      go_wp2
      go_ret2
      exact ⟨N, dd, by first | rfl | (rw [<- hdd]), tx, HE4.out⟩
     ·have HE4 : Hid (yp l = none) := Lh (by rw [HE3.out, if_neg]; rintro ⟨e, _⟩; rw [e] at hln; exact hn0 hln.symm)
      have hni : ((n' : Int) == 0) = false := beq_eq_false_iff_ne.2 (by omega)
      have hni2 : ¬ (n' : Int) = 0 := by omega
      clear HE3 hln
      go_wp2
      go_ret2
      exact ⟨N, false, rfl, tx, HE4.out⟩
def inB (n a b : Int) : Bool := decide (a <= n) && decide (n <= b)
theorem kp (n a b : Int) (w : World) : Calls prog 28 #[.int .i64 n, .int .i64 a, .int .i64 b] w fun e w' => e = .returned (.bool (inB n a b)) /\ w = w' := by
 unfold inB
 by_cases h1 : a <= n
 ·by_cases h2 : n <= b
  ·go_enter func28, ntmps28
   go_wp2
   go_ret
   exact ⟨by simp [h1, h2], rfl⟩
  ·go_enter func28, ntmps28
   go_wp2
   go_ret
   exact ⟨by simp [h1, h2], rfl⟩
 ·go_enter func28, ntmps28
  go_wp2
  go_ret
  exact ⟨by rw [decide_eq_false (show ¬ a <= n by omega)]; rfl, rfl⟩
theorem in_ (n a b : Int) (w : World) : Calls prog 28 #[.int .i64 n, .int .i64 a, .int .i64 b] w (qg (.bool (inB n a b)) w) := (kp n a b w).mono fun e w' ⟨h1, h2⟩ => ⟨h1, h2 ▸ Below.refl _ _⟩
def RnP (s : ByteArray) (w : World) (e : Ending) (w' : World) : Prop := Below w.heap.size w w' /\ ((zJ s ≠ 0 /\ e = .returned (.slice none 0 0)) ∨ (zJ s = 0 /\ ∃ G c, e = .returned (.slice (some ⟨G, 0, none⟩) (qw (qz s)).length c) /\ Rd w' w'.heap.size 1 (some ⟨G, 0, none⟩) (qw (qz s)).length (chV (qw (qz s)))))
theorem crunes_ (s : ByteArray) (hs : s.size <= 1000000000) (w : World) (hu : U8 w) : Calls prog 59 #[.string s] w (RnP s w) := by
 have HC := Lh (qcv s hs w hu)
 by_cases h0 : zJ s = 0
 ·have hv := (vt.1 h0).1
  have HR : Hid (∀ w, _) := Lh (qav s hv hs)
  have H0 := Lh h0
  rw [h0] at HC
  clear h0 hv hu
  go_enter func59, ntmps59
  go_upto_region 3 with (go_at_call 43; refine HC.out.mono ?_; rintro e w1 ⟨rfl, hb1⟩)
  obtain ⟨c2, w2, hrun, rd2, qh8, hcap⟩ := HR.out w1
  go_wp2
  go_ret
  have z := qh8.size
  exact ⟨hb1.trans (qh8.mono hb1.size), .inr ⟨H0.out, _, c2, rfl, rd2⟩⟩
 ·have H0 := Lh h0
  have hne : (zJ s != 0) = true := bne_iff_ne.2 h0
  generalize zJ s = K at HC hne
  clear h0 hu
  go_enter func59, ntmps59
  go_wp2_with (go_at_call 43; refine HC.out.mono ?_; rintro e w1 ⟨rfl, hb1⟩)
  go_ret
  exact ⟨hb1, .inl ⟨H0.out, rfl⟩⟩
theorem cwidth_ (s : ByteArray) (hs : s.size <= 1000000000) (w : World) (hu : U8 w) : Calls prog 44 #[.string s] w (qg (.int .i64 (yZ s)) w) := by
 have HR := Lh (crunes_ s hs w hu)
 by_cases h0 : zJ s = 0
 ·obtain ⟨r, t, hc, -⟩ := (vt.1 h0).2
  have H0 := Lh h0
  unfold yZ
  rw [if_pos h0, hc, List.headD_cons]
  unfold RnP at HR
  rw [hc] at HR
  have HW := Lh (qfP (r : Int))
  generalize zC (r : Int) = W at *
  clear h0 hu hc
  go_enter func44, ntmps44
  go_wp2_with (first
   | (go_at_call 59; refine HR.out.mono ?_; rintro e w1 ⟨hb1, h⟩; obtain ⟨G, c1, rfl, rd1⟩ := (h.resolve_left fun x => x.1 H0.out).2; have hc0 := qgx rd1 (by simp); simp only [List.length_cons] at *)
   | (go_at_call 57; refine (HW.out _).mono ?_; rintro e w2 ⟨rfl, hb2⟩))
  go_ret
  exact ⟨rfl, hb1.trans (hb2.mono hb1.size)⟩
 ·have H0 := Lh h0
  unfold yZ
  rw [if_neg h0]
  clear h0 hu
  go_enter func44, ntmps44
  go_wp2_with (go_at_call 59; refine HR.out.mono ?_; rintro e w1 ⟨hb1, h⟩; obtain rfl := (h.resolve_right fun x => H0.out x.1).2)
  go_ret
  exact ⟨rfl, hb1⟩
def y7 (g : Gl) : Bool := decide (jV g = 0)
theorem validu_ (g : Gl) (hs : g.text.size <= 1000000000) (w : World) (hu : U8 w) : Calls prog 31 #[glV g] w (qg (.bool (y7 g)) w) := by
 have HK : Hid (∀ w', U8 w' -> _) := Lh (qcv g.text hs)
 have HW : Hid (∀ w', U8 w' -> _) := Lh (cwidth_ g.text hs)
 have HI := Lh (in_ g.style 0 3)
 have HU := Lh hu
 have hq := qd5 g.text
 unfold y7 jV
 obtain ⟨t, wd, st⟩ := g
 dsimp only at *
 clear hu
 by_cases hc : zJ t = 0
 ·rw [if_neg (by simp [hc])]
  rw [hc] at HK
  clear hc
  generalize yZ t = W at *
  by_cases h1 : wd = decide (W = 2)
  ·have e1 : (wd == (W == 2)) = true := by
    cases wd <;> by_cases h : W = 2 <;> simp_all
   by_cases h2 : st < 0
   ·rw [if_pos (.inr (.inl h2))]
    have e2 : inB st 0 3 = false := by unfold inB; rw [decide_eq_false (by omega)]; rfl
    rw [e2] at HI
    clear hq h1
    go_enter func31, ntmps31
    go_upto_region 1 with fail
    refine qc (GlBox w t wd st) (GlBox.new w t wd st _) ?_
    rintro wb hgb
    obtain ⟨d0, d1, d2, hb1, hz1⟩ := id hgb
    have N0 : ∀ x : Near wb.heap.size wb, x.w.cell? ⟨w.heap.size, 0, none⟩ = some (.string t) := fun x => (x.h.cell (by show w.heap.size < _; omega)).trans d0
    have N1 : ∀ x : Near wb.heap.size wb, x.w.cell? ⟨w.heap.size, 1, none⟩ = some (.bool wd) := fun x => (x.h.cell (by show w.heap.size < _; omega)).trans d1
    have N2 : ∀ x : Near wb.heap.size wb, x.w.cell? ⟨w.heap.size, 2, none⟩ = some (.int .i64 st) := fun x => (x.h.cell (by show w.heap.size < _; omega)).trans d2
    have hzz := Nat.le_refl wb.heap.size
    have HUx : Hid (∀ x : Near wb.heap.size wb, U8 x.w) := Lh fun x => HU.out.below (hb1.trans (x.h.mono (by omega)))
    clear d0 d1 d2 hgb
    refine qi wb.heap.size (by kernel_rfl) (by kernel_rfl) ?_; (repeat (go_big_quiet_step ((first | (go_at_call 43; exact Calls.near _ hzz (HK.out _ (HUx.out _))) | (go_at_call 44; exact Calls.near _ hzz (HW.out _ (HUx.out _))) | (go_at_call 28; exact Calls.near _ hzz (HI.out _)))))); refine wpQuiet_nil ?_; intro _ hw'; obtain ⟨x1, hw''⟩ := hw'; subst hw''
    go_wp2
    go_ret
    exact ⟨rfl, hb1.trans (x1.h.mono (by omega))⟩
   ·by_cases h3 : 3 < st
    ·rw [if_pos (.inr (.inr (.inl h3)))]
     have e2 : inB st 0 3 = false := by unfold inB; rw [decide_eq_false (show ¬ st <= 3 by omega), Bool.and_false]
     rw [e2] at HI
     clear hq h1
     go_enter func31, ntmps31
     go_upto_region 1 with fail
     refine qc (GlBox w t wd st) (GlBox.new w t wd st _) ?_
     rintro wb hgb
     obtain ⟨d0, d1, d2, hb1, hz1⟩ := id hgb
     have N0 : ∀ x : Near wb.heap.size wb, x.w.cell? ⟨w.heap.size, 0, none⟩ = some (.string t) := fun x => (x.h.cell (by show w.heap.size < _; omega)).trans d0
     have N1 : ∀ x : Near wb.heap.size wb, x.w.cell? ⟨w.heap.size, 1, none⟩ = some (.bool wd) := fun x => (x.h.cell (by show w.heap.size < _; omega)).trans d1
     have N2 : ∀ x : Near wb.heap.size wb, x.w.cell? ⟨w.heap.size, 2, none⟩ = some (.int .i64 st) := fun x => (x.h.cell (by show w.heap.size < _; omega)).trans d2
     have hzz := Nat.le_refl wb.heap.size
     have HUx : Hid (∀ x : Near wb.heap.size wb, U8 x.w) := Lh fun x => HU.out.below (hb1.trans (x.h.mono (by omega)))
     clear d0 d1 d2 hgb
     refine qi wb.heap.size (by kernel_rfl) (by kernel_rfl) ?_; (repeat (go_big_quiet_step ((first | (go_at_call 43; exact Calls.near _ hzz (HK.out _ (HUx.out _))) | (go_at_call 44; exact Calls.near _ hzz (HW.out _ (HUx.out _))) | (go_at_call 28; exact Calls.near _ hzz (HI.out _)))))); refine wpQuiet_nil ?_; intro _ hw'; obtain ⟨x1, hw''⟩ := hw'; subst hw''
     go_wp2
     go_ret
     exact ⟨rfl, hb1.trans (x1.h.mono (by omega))⟩
    ·have e2 : inB st 0 3 = true := by unfold inB; rw [decide_eq_true (by omega), decide_eq_true (by omega)]; rfl
     rw [e2] at HI
     by_cases h4 : st = 3
     ·have e4 : (st != 3) = false := by simp [h4]
      by_cases h5 : t = ⟨#[42]⟩
      ·rw [if_neg (by rw [not_or, not_or, not_or]; exact ⟨fun h => h h1, h2, h3, fun h => h.2 h5⟩)]
       have e5 : (t.toList == [42]) = true := by rw [hq]; simp [h5]
       clear hq h1 h5 h4
       go_enter func31, ntmps31
       go_upto_region 1 with fail
       refine qc (GlBox w t wd st) (GlBox.new w t wd st _) ?_
       rintro wb hgb
       obtain ⟨d0, d1, d2, hb1, hz1⟩ := id hgb
       have N0 : ∀ x : Near wb.heap.size wb, x.w.cell? ⟨w.heap.size, 0, none⟩ = some (.string t) := fun x => (x.h.cell (by show w.heap.size < _; omega)).trans d0
       have N1 : ∀ x : Near wb.heap.size wb, x.w.cell? ⟨w.heap.size, 1, none⟩ = some (.bool wd) := fun x => (x.h.cell (by show w.heap.size < _; omega)).trans d1
       have N2 : ∀ x : Near wb.heap.size wb, x.w.cell? ⟨w.heap.size, 2, none⟩ = some (.int .i64 st) := fun x => (x.h.cell (by show w.heap.size < _; omega)).trans d2
       have hzz := Nat.le_refl wb.heap.size
       have HUx : Hid (∀ x : Near wb.heap.size wb, U8 x.w) := Lh fun x => HU.out.below (hb1.trans (x.h.mono (by omega)))
       clear d0 d1 d2 hgb
       refine qi wb.heap.size (by kernel_rfl) (by kernel_rfl) ?_; (repeat (go_big_quiet_step ((first | (go_at_call 43; exact Calls.near _ hzz (HK.out _ (HUx.out _))) | (go_at_call 44; exact Calls.near _ hzz (HW.out _ (HUx.out _))) | (go_at_call 28; exact Calls.near _ hzz (HI.out _)))))); refine wpQuiet_nil ?_; intro _ hw'; obtain ⟨x1, hw''⟩ := hw'; subst hw''
       go_wp2
       go_ret
       exact ⟨rfl, hb1.trans (x1.h.mono (by omega))⟩
      ·rw [if_pos (.inr (.inr (.inr ⟨h4, h5⟩)))]
       have e5 : (t.toList == [42]) = false := by rw [hq]; simp [h5]
       clear hq h1 h5 h4
       go_enter func31, ntmps31
       go_upto_region 1 with fail
       refine qc (GlBox w t wd st) (GlBox.new w t wd st _) ?_
       rintro wb hgb
       obtain ⟨d0, d1, d2, hb1, hz1⟩ := id hgb
       have N0 : ∀ x : Near wb.heap.size wb, x.w.cell? ⟨w.heap.size, 0, none⟩ = some (.string t) := fun x => (x.h.cell (by show w.heap.size < _; omega)).trans d0
       have N1 : ∀ x : Near wb.heap.size wb, x.w.cell? ⟨w.heap.size, 1, none⟩ = some (.bool wd) := fun x => (x.h.cell (by show w.heap.size < _; omega)).trans d1
       have N2 : ∀ x : Near wb.heap.size wb, x.w.cell? ⟨w.heap.size, 2, none⟩ = some (.int .i64 st) := fun x => (x.h.cell (by show w.heap.size < _; omega)).trans d2
       have hzz := Nat.le_refl wb.heap.size
       have HUx : Hid (∀ x : Near wb.heap.size wb, U8 x.w) := Lh fun x => HU.out.below (hb1.trans (x.h.mono (by omega)))
       clear d0 d1 d2 hgb
       refine qi wb.heap.size (by kernel_rfl) (by kernel_rfl) ?_; (repeat (go_big_quiet_step ((first | (go_at_call 43; exact Calls.near _ hzz (HK.out _ (HUx.out _))) | (go_at_call 44; exact Calls.near _ hzz (HW.out _ (HUx.out _))) | (go_at_call 28; exact Calls.near _ hzz (HI.out _)))))); refine wpQuiet_nil ?_; intro _ hw'; obtain ⟨x1, hw''⟩ := hw'; subst hw''
       go_wp2
       go_ret
       exact ⟨rfl, hb1.trans (x1.h.mono (by omega))⟩
     ·rw [if_neg (by rw [not_or, not_or, not_or]; exact ⟨fun h => h h1, h2, h3, fun h => h4 h.1⟩)]
      have e4 : (st != 3) = true := bne_iff_ne.2 h4
      clear hq h1
      go_enter func31, ntmps31
      go_upto_region 1 with fail
      refine qc (GlBox w t wd st) (GlBox.new w t wd st _) ?_
      rintro wb hgb
      obtain ⟨d0, d1, d2, hb1, hz1⟩ := id hgb
      have N0 : ∀ x : Near wb.heap.size wb, x.w.cell? ⟨w.heap.size, 0, none⟩ = some (.string t) := fun x => (x.h.cell (by show w.heap.size < _; omega)).trans d0
      have N1 : ∀ x : Near wb.heap.size wb, x.w.cell? ⟨w.heap.size, 1, none⟩ = some (.bool wd) := fun x => (x.h.cell (by show w.heap.size < _; omega)).trans d1
      have N2 : ∀ x : Near wb.heap.size wb, x.w.cell? ⟨w.heap.size, 2, none⟩ = some (.int .i64 st) := fun x => (x.h.cell (by show w.heap.size < _; omega)).trans d2
      have hzz := Nat.le_refl wb.heap.size
      have HUx : Hid (∀ x : Near wb.heap.size wb, U8 x.w) := Lh fun x => HU.out.below (hb1.trans (x.h.mono (by omega)))
      clear d0 d1 d2 hgb
      refine qi wb.heap.size (by kernel_rfl) (by kernel_rfl) ?_; (repeat (go_big_quiet_step ((first | (go_at_call 43; exact Calls.near _ hzz (HK.out _ (HUx.out _))) | (go_at_call 44; exact Calls.near _ hzz (HW.out _ (HUx.out _))) | (go_at_call 28; exact Calls.near _ hzz (HI.out _)))))); refine wpQuiet_nil ?_; intro _ hw'; obtain ⟨x1, hw''⟩ := hw'; subst hw''
      go_wp2
      go_ret
      exact ⟨rfl, hb1.trans (x1.h.mono (by omega))⟩
  ·rw [if_pos (.inl h1)]
   have e2 : (wd == (W == 2)) = false := by
    cases wd <;> by_cases h : W = 2 <;> simp_all
   clear hq h1
   go_enter func31, ntmps31
   go_upto_region 1 with fail
   refine qc (GlBox w t wd st) (GlBox.new w t wd st _) ?_
   rintro wb hgb
   obtain ⟨d0, d1, d2, hb1, hz1⟩ := id hgb
   have N0 : ∀ x : Near wb.heap.size wb, x.w.cell? ⟨w.heap.size, 0, none⟩ = some (.string t) := fun x => (x.h.cell (by show w.heap.size < _; omega)).trans d0
   have N1 : ∀ x : Near wb.heap.size wb, x.w.cell? ⟨w.heap.size, 1, none⟩ = some (.bool wd) := fun x => (x.h.cell (by show w.heap.size < _; omega)).trans d1
   have N2 : ∀ x : Near wb.heap.size wb, x.w.cell? ⟨w.heap.size, 2, none⟩ = some (.int .i64 st) := fun x => (x.h.cell (by show w.heap.size < _; omega)).trans d2
   have hzz := Nat.le_refl wb.heap.size
   have HUx : Hid (∀ x : Near wb.heap.size wb, U8 x.w) := Lh fun x => HU.out.below (hb1.trans (x.h.mono (by omega)))
   clear d0 d1 d2 hgb
   refine qi wb.heap.size (by kernel_rfl) (by kernel_rfl) ?_; (repeat (go_big_quiet_step ((first | (go_at_call 43; exact Calls.near _ hzz (HK.out _ (HUx.out _))) | (go_at_call 44; exact Calls.near _ hzz (HW.out _ (HUx.out _))) | (go_at_call 28; exact Calls.near _ hzz (HI.out _)))))); refine wpQuiet_nil ?_; intro _ hw'; obtain ⟨x1, hw''⟩ := hw'; subst hw''
   go_wp2
   go_ret
   exact ⟨rfl, hb1.trans (x1.h.mono (by omega))⟩
 ·rw [if_pos hc]
  generalize zJ t = K at *
  have hcb : (K == 0) = false := beq_eq_false_iff_ne.2 hc
  clear hc hq
  go_enter func31, ntmps31
  go_upto_region 1 with fail
  refine qc (GlBox w t wd st) (GlBox.new w t wd st _) ?_
  rintro wb hgb
  obtain ⟨d0, d1, d2, hb1, hz1⟩ := id hgb
  have N0 : ∀ x : Near wb.heap.size wb, x.w.cell? ⟨w.heap.size, 0, none⟩ = some (.string t) := fun x => (x.h.cell (by show w.heap.size < _; omega)).trans d0
  have N1 : ∀ x : Near wb.heap.size wb, x.w.cell? ⟨w.heap.size, 1, none⟩ = some (.bool wd) := fun x => (x.h.cell (by show w.heap.size < _; omega)).trans d1
  have N2 : ∀ x : Near wb.heap.size wb, x.w.cell? ⟨w.heap.size, 2, none⟩ = some (.int .i64 st) := fun x => (x.h.cell (by show w.heap.size < _; omega)).trans d2
  have hzz := Nat.le_refl wb.heap.size
  have HUx : Hid (∀ x : Near wb.heap.size wb, U8 x.w) := Lh fun x => HU.out.below (hb1.trans (x.h.mono (by omega)))
  clear d0 d1 d2 hgb
  refine qi wb.heap.size (by kernel_rfl) (by kernel_rfl) ?_; (repeat (go_big_quiet_step ((first | (go_at_call 43; exact Calls.near _ hzz (HK.out _ (HUx.out _))) | (go_at_call 44; exact Calls.near _ hzz (HW.out _ (HUx.out _))) | (go_at_call 28; exact Calls.near _ hzz (HI.out _)))))); refine wpQuiet_nil ?_; intro _ hw'; obtain ⟨x1, hw''⟩ := hw'; subst hw''
  go_wp2
  go_ret
  exact ⟨rfl, hb1.trans (x1.h.mono (by omega))⟩
theorem qhW (g : Gl) (hs : g.text.size <= 1000000000) (w : World) (hu : U8 w) : Calls prog 30 #[glV g] w (qg (.bool (!y7 g)) w) := by
 have HV : Hid (∀ w', U8 w' -> _) := Lh (validu_ g hs)
 have HU := Lh hu
 generalize y7 g = V at *
 obtain ⟨t, wd, st⟩ := g
 clear hu
 go_enter func30, ntmps30
 go_upto_region 1 with fail
 refine qc (GlBox w t wd st) (GlBox.new w t wd st _) ?_
 rintro wb hgb
 obtain ⟨d0, d1, d2, hb1, hz1⟩ := hgb
 have hub := HU.out.below hb1
 go_wp2_with (go_at_call 31; refine (HV.out _ hub).mono ?_; rintro e w1 ⟨rfl, qh7⟩)
 go_ret
 exact ⟨rfl, hb1.trans (qh7.mono (by omega))⟩
end Go.Proofs.YtlndbiamiioakaaGreatDoor
