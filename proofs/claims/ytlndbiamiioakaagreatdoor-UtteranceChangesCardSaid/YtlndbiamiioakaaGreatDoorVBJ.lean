/- Joined: Ur8, Up1. -/
import Derived.Test.YtlndbiamiioakaaGreatDoorVBG
set_option linter.unusedVariables false
set_option linter.unusedSimpArgs false
set_option linter.unnecessarySimpa false
set_option maxHeartbeats 4000000
namespace Go.Proofs.YtlndbiamiioakaaGreatDoor
open Go.Proofs.Tryz Go.RowKit
set_option maxRecDepth 20000
theorem qfJ : Elt prog 25 34 (.agg #[.int .i64 0, .int .i64 0, .int .i64 0, .int .i64 0, .int .i64 0, .slice none 0 0]) 6 64 where
 und := underlying25
 row := by
  have h : (prog.info? 34).map (fun i => (i.zero, i.size, i.bytes)) = some (some (.agg #[.int .i64 0, .int .i64 0, .int .i64 0, .int .i64 0, .int .i64 0, .slice none 0 0]), 6, 64) := by kernel_rfl
  obtain ⟨i, hi, a, b, c⟩ := info_parts h
  exact ⟨i, hi, a, b, c⟩
 zs := rfl
 pos := by decide
theorem qbS {w : World} {g base size n : Nat} {t e : TypeId} {cs : Array Value} {v : Value} {xs : List Value} (h : Blk w g t cs) (ho : w.ownsRow base e size v n xs) (hte : t ≠ e) : some g ≠ v.ownBlock := by
 rcases ho.2 with ⟨rfl, _⟩ | ⟨g', cap, cur, rfl, _, h2, _⟩
 ·simp [Value.ownBlock]
 ·intro hg
  simp only [Value.ownBlock, Option.some.injEq] at hg
  subst hg
  unfold Blk at h
  rw [h] at h2
  injection h2 with h2
  injection h2 with _ h2
  exact hte h2
theorem qdz {w : World} {base size n base' size' n' : Nat} {e e' : TypeId} {v v' : Value} {xs xs' : List Value} (h : w.ownsRow base e size v n xs) (ho : w.ownsRow base' e' size' v' n' xs') (hte : e ≠ e') : v.ownBlock = none ∨ v.ownBlock ≠ v'.ownBlock := by
 rcases h.2 with ⟨rfl, _⟩ | ⟨g, cap, cur, rfl, _, h1, _⟩
 ·exact .inl rfl
 ·exact .inr (qbS (t := e) (cs := cur) h1 ho hte)
def GlO (base : Nat) (wr : World) (out : List ChgM) : Prop := ∀ x ∈ out, wr.ownsRow base 31 3 (.slice x.A x.c.glyphs.length x.cap) x.c.glyphs.length (qn x.c.glyphs)
theorem GlO.below {base : Nat} {wr w' : World} {out : List ChgM} (h : GlO base wr out) (hb : Below wr.heap.size wr w') : GlO base w' out := fun x hx => qa (h x hx) hb
theorem GlO.less {base base' : Nat} {wr : World} {out : List ChgM} (h : GlO base wr out) (hb : base' <= base) : GlO base' wr out := fun x hx => qq (h x hx) hb
theorem GlO.set_ {base : Nat} {wr : World} {out : List ChgM} (h : GlO base wr out) {p : Addr} (hp : p.block < base) (u : Value) : GlO base (wr.setCell p u) out := fun x hx => qs (h x hx) hp u
theorem GlO.rdc {base n c : Nat} {A : Option Addr} {w : World} {out : List ChgM} (h : GlO base w out) (ho : w.ownsRow base 34 6 (.slice A n c) n (jl out)) : RdC w w.heap.size A n out :=
 ⟨Rd.of_own ho, fun x hx => ⟨Rd.of_own (h x hx), qb5 (h x hx)⟩⟩
def ChR (o : Option (List Chg × Int)) (w : World) (e : Ending) (w' : World) : Prop :=
 Below w.heap.size w w' /\ match o with
 | none => e = .returned (.tuple #[.slice none 0 0, .int .i64 0, .int .i64 17])
 | some x => ∃ out A c, zE out = x.1 /\ e = .returned (.tuple #[.slice A out.length c, .int .i64 x.2, .int .i64 0]) /\ w'.ownsRow w.heap.size 34 6 (.slice A out.length c) out.length (jl out) /\ GlO w.heap.size w' out
def qeI (w : World) (g : Nat) : Nat := match w.cell? ⟨g, 0, none⟩ with
 | some (.slice _ n _) => n
 | _ => 0
theorem qeW {w : World} {g n c : Nat} {A : Option Addr} {t : TypeId} {v : Value} (h : Blk w g t #[.slice A n c, v]) : qeI w g = n := by
 unfold qeI
 rw [h.cell 0]
 rfl
def ChJ (w : World) (l' : List ByteArray) (out : List ChgM) (A : Option Addr) (c : Nat) (X : World) : Prop :=
 ∃ A' n' c', X.ownsRow (w.heap.size + 1) 34 6 (.slice A out.length c) out.length (jl out) /\ GlO (w.heap.size + 1) X out /\ WdR X w.heap.size l' A' n' c' /\ Blk X w.heap.size 41 #[.slice A' n' c', .bool false] /\ Below w.heap.size w X
theorem ChJ.bel {w X : World} {l' : List ByteArray} {out : List ChgM} {A : Option Addr} {c : Nat} (h : ChJ w l' out A c X) : Below w.heap.size w X := by
 obtain ⟨A', n', c', ho, hg, hW, R1, tx⟩ := h
 exact tx
theorem ChJ.on {w X Y : World} {l' : List ByteArray} {out : List ChgM} {A : Option Addr} {c : Nat} (h : ChJ w l' out A c X) (hb : Below X.heap.size X Y) : ChJ w l' out A c Y := by
 obtain ⟨A', n', c', ho, hg, hW, R1, tx⟩ := h
 exact ⟨A', n', c', qa ho hb, hg.below hb, hW.below (hb.mono tx.size), R1.below hb R1.lt, tx.trans (hb.mono tx.size)⟩
theorem GlO.app {base base' n : Nat} {w w' : World} {out : List ChgM} {v : Value} {xs : List Value} (h : GlO base w out) (ho : w.ownsRow base' 34 6 v n xs) (hg : w.grownBy w' v.ownBlock) : GlO base w' out := fun x hx => (h x hx).kept hg (qdz (h x hx) ho (by decide))
def ChK (w : World) (gc : Nat) (l' : List ByteArray) (out : List ChgM) (A : Option Addr) (c : Nat) (cg : Chg) (Ag : Option Addr) (cap : Nat) (A1 : Option Addr) (n1 cc : Nat) (bad : Bool) (lr : List ByteArray) (Y : World) : Prop :=
 Blk Y gc 34 (vK cg Ag cap) /\ Blk Y (gc + 1) 41 #[.slice A1 n1 cc, .bool bad] /\ ChJ w l' out A c Y /\ WdR Y w.heap.size lr A1 n1 cc /\ Y.ownsRow (w.heap.size + 1) 31 3 (.slice Ag cg.glyphs.length cap) cg.glyphs.length (qn cg.glyphs) /\ w.heap.size + 1 <= gc
theorem ChK.on {w : World} {gc : Nat} {l' : List ByteArray} {out : List ChgM} {A : Option Addr} {c : Nat} {cg : Chg} {Ag : Option Addr} {cap : Nat} {A1 : Option Addr} {n1 cc : Nat} {bad : Bool} {lr : List ByteArray} {Y Z : World} (h : ChK w gc l' out A c cg Ag cap A1 n1 cc bad lr Y) (hb : Below Y.heap.size Y Z) : ChK w gc l' out A c cg Ag cap A1 n1 cc bad lr Z := by
 obtain ⟨h1, h2, h3, h4, h5, h6⟩ := h
 have := h1.lt
 exact ⟨h1.below hb h1.lt, h2.below hb h2.lt, h3.on hb, h4.below (hb.mono (by omega)), qa h5 hb, h6⟩
theorem ChK.new {w X w3 : World} {l' : List ByteArray} {out : List ChgM} {A : Option Addr} {c : Nat} {cg : Chg} {Ag : Option Addr} {cap : Nat} {A1 : Option Addr} {n1 cc : Nat} {bad : Bool} {lr : List ByteArray} (hJ : ChJ w l' out A c X) (hb3 : Below X.heap.size X w3) (hW : WdR w3 w.heap.size lr A1 n1 cc) (ho : w3.ownsRow X.heap.size 31 3 (.slice Ag cg.glyphs.length cap) cg.glyphs.length (qn cg.glyphs)) :
  ChK w w3.heap.size l' out A c cg Ag cap A1 n1 cc bad lr ((w3.alloc (.cells (vK cg Ag cap) 34)).alloc (.cells #[.slice A1 n1 cc, .bool bad] 41)) := by
 have hbb : Below w3.heap.size w3 ((w3.alloc (.cells (vK cg Ag cap) 34)).alloc (.cells #[.slice A1 n1 cc, .bool bad] 41)) := ((Below.refl _ _).alloc (Nat.le_refl _) _).alloc (by simp) _
 have hX : w.heap.size + 1 <= X.heap.size := by
  obtain ⟨A', n', c', ho, hg, hW, R1, tx⟩ := hJ
  exact R1.lt
 have hX3 := hb3.size
 exact ⟨(Blk.new w3 _ _).alloc _, Blk.new_ (by simp), (hJ.on hb3).on hbb, hW.below (hbb.mono (by omega)), qq (qa ho hbb) hX, by omega⟩
theorem qce {X Y : World} {b : Nat} {t : TypeId} {cs : Array Value} {row : Option Nat} (h : Blk X b t cs) (hb : X.grownBy Y row) (hn : some b ≠ row) : Blk Y b t cs := h.grown hb hn
theorem ChJ.left {w X : World} {l' : List ByteArray} {out : List ChgM} {A : Option Addr} {c : Nat} (h : ChJ w l' out A c X) : qeI X w.heap.size = l'.length := by
 obtain ⟨A', n', c', ho, hg, hW, R1, tx⟩ := h
 rw [qeW R1]
 exact hW.len.symm
theorem ChJ.next {w Z U W9 : World} {l' lr : List ByteArray} {out : List ChgM} {A A1 A9 : Option Addr} {c n1 cc c9 : Nat} {x : ChgM} (hJ : ChJ w l' out A c Z) (hW1 : WdR Z w.heap.size lr A1 n1 cc) (hx : Z.ownsRow (w.heap.size + 1) 31 3 (.slice x.A x.c.glyphs.length x.cap) x.c.glyphs.length (qn x.c.glyphs))
  (hb : Below Z.heap.size Z U) (hgr : U.grownBy W9 (Value.slice A out.length c).ownBlock) (hb9 : Below (w.heap.size + 1) U W9) (ho9 : W9.ownsRow (w.heap.size + 1) 34 6 (.slice A9 (out.length + 1) c9) (out.length + 1) (jl out ++ kr x)) :
  ChJ w lr (out ++ [x]) A9 c9 ((W9.setCell ⟨w.heap.size, 0, none⟩ (.slice A1 n1 cc)).setCell ⟨w.heap.size, 1, none⟩ (.bool false)) := by
 obtain ⟨A', n', c', ho, hg, hW, R1, tx⟩ := hJ
 have hz := R1.lt
 have h9 : Below (w.heap.size + 1) Z W9 := (hb.mono hz).trans hb9
 have hgl : GlO (w.heap.size + 1) W9 (out ++ [x]) := fun y hy => by
  rcases List.mem_append.1 hy with hy | hy
  ·exact ((hg.below hb).app (qa ho hb) hgr) y hy
  ·rw [List.mem_singleton] at hy
   subst hy
   exact (qa hx hb).kept hgr (qdz (qa hx hb) (qa ho hb) (by decide))
 have hlt : ∀ i, (⟨w.heap.size, i, none⟩ : Addr).block < w.heap.size + 1 := fun i => Nat.lt_succ_self _
 have hbw : Below w.heap.size W9 ((W9.setCell ⟨w.heap.size, 0, none⟩ (.slice A1 n1 cc)).setCell ⟨w.heap.size, 1, none⟩ (.bool false)) := ((Below.refl _ _).setCell (p := ⟨w.heap.size, 0, none⟩) (Nat.le_refl _) _).setCell (p := ⟨w.heap.size, 1, none⟩) (Nat.le_refl _) _
 refine ⟨A1, n1, cc, ?_, (hgl.set_ (hlt 0) _).set_ (hlt 1) _, (hW1.below (h9.mono (by omega))).below hbw, qA (R1.below h9 (Nat.lt_succ_self _)), (tx.trans (h9.mono (by omega))).trans hbw⟩
 rw [List.length_append, qdq, show jl [x] = kr x by simp [jl]]
 exact qs (qs ho9 (hlt 0) _) (hlt 1) _
theorem qdf {f : Nat} {l : List ByteArray} {acc : List Chg} (h : zj vh l = true ∨ zj q8 l = true) : jj (f + 1) l acc = (yp l).map fun n => (acc, n) := by
 rw [jj, if_pos h]
theorem qh3 {f : Nat} {l : List ByteArray} {acc : List Chg} (h : zj vh l = false) (h2 : zj q8 l = false) : jj (f + 1) l acc = (qan l).bind fun x => if vb x.1 = 0 then jj f x.2 (acc ++ [x.1]) else none := by
 rw [jj, if_neg (by rw [h, h2]; simp)]
def EndV (o : Option Int) (w : World) (e : Ending) (w' : World) : Prop := Below w.heap.size w w' /\ match o with
 | none => ∃ N, e = .returned (.tuple #[.int .i64 N, .bool false])
 | some N => e = .returned (.tuple #[.int .i64 N, .bool true])
theorem EndE.v {l : List ByteArray} {w w' : World} {e : Ending} (h : EndE w l e w') : EndV (yp l) w e w' := by
 obtain ⟨N, b, rfl, hb, hE⟩ := h
 rw [hE]
 cases b with
 | true => exact ⟨hb, rfl⟩
 | false => exact ⟨hb, N, rfl⟩
theorem qdk (l : List ByteArray) (A : Option Addr) (n c : Nat) (w : World) (hW : WdR w w.heap.size l A n c) (hl : l.length <= 400000) (hs : Sp w) (hu : U8 w) (hy : Sty w) :
  Calls prog 6 #[.slice A n c] w (ChR (jn l) w) := by
 obtain ⟨R, hR⟩ : ∃ x, Hid (x = jn l) := ⟨_, Lh rfl⟩
 rw [<- hR.out]
 have HS : Hid (Sp w /\ U8 w /\ Sty w) := Lh ⟨hs, hu, hy⟩
 have hJ : ChJ w l [] none 0 (w.alloc (.cells #[.slice A n c, .bool false] 41)) := ⟨A, n, c, zh _ _ _ _, (fun x hx => by cases hx), hW.below ((Below.refl _ _).alloc (Nat.le_refl _) _), Blk.new w _ _, (Below.refl _ _).alloc (Nat.le_refl _) _⟩
 have H0 : Hid (R = jj (l.length + 1) l (zE [])) := Lh (by rw [hR.out]; rfl)
 clear hW hs hu hy hR
 go_enter func6, ntmps6
 go_wp2
 go_loopw [6] (fun x wr => ∃ l' out f A c, x = .slice A out.length c /\ ChJ w l' out A c wr /\ l'.length < f /\ out.length + l'.length <= 400000 /\ Hid (R = jj f l' (zE out))) (fun _ wr => qeI wr w.heap.size)
 case atStart => exact ⟨l, [], l.length + 1, none, 0, rfl, hJ, by omega, by simpa using hl, H0⟩
 case round =>
  clear hJ H0 hl
  obtain ⟨l', out, f, A, c, rfl, hJ, hf, hlen, HR⟩ := hrel
  obtain ⟨f', rfl⟩ : ∃ f', f = f' + 1 := ⟨f - 1, by omega⟩
  have HL : Hid (qeI wr w.heap.size = l'.length) := Lh (by obtain ⟨A', n', c', ho, hg, hW, R1, tx⟩ := hJ; rw [qeW R1]; exact hW.len.symm)
  rw [HL.out]
  clear HL
  obtain ⟨A', n', c', ho, hg, hW, R1, tx⟩ := id hJ
  have c0 := R1.cell 0
  have c1 := R1.cell 1
  have f0 := R1.frozen 0
  have f1 := R1.frozen 1
  have z0 := R1.lt
  have hBX := tx.size
  simp only [La, Lb, Lc] at c0 c1
  obtain ⟨s1, hs1⟩ : ∃ b, Hid (b = qo (some l') vh) := ⟨_, Lh rfl⟩
  obtain ⟨s2, hs2⟩ : ∃ b, Hid (b = qo (some l') q8) := ⟨_, Lh rfl⟩
  have hRV : RV wr w.heap.size (some l') (.agg #[.slice A' n' c', .bool false]) := ⟨A', n', c', l', false, rfl, hW, rfl⟩
  have HN1 := Lh (yk (some l') _ vh w.heap.size wr hRV hBX)
  rw [<- hs1.out] at HN1
  have HN2 : Hid (∀ w1, Below wr.heap.size wr w1 -> Calls prog 11 #[.agg #[.slice A' n' c', .bool false], .string q8] w1 (qg (.bool s2) w1)) := Lh fun w1 hb => by
   rw [hs2.out]
   exact yk (some l') _ q8 w.heap.size w1 (hRV.below (hb.mono hBX)) (Nat.le_trans hBX hb.size)
  clear hRV
  cases s1 with
  | true =>
   have HR2 : Hid (R = (yp l').map fun n => (zE out, n)) := Lh (by rw [HR.out, qdf (.inl hs1.out.symm)])
   clear HR hs1 hs2
   go_upto_region 8 with ((fail_if_success have := hb1); go_at_call 11; refine HN1.out.mono ?_; rintro e w1 ⟨rfl, hb1⟩; clear c0 c1 f0 f1; have R0 := R1.below hb1 R1.lt; have f0 := R0.frozen 0; have f1 := R0.frozen 1; have c0 := R0.cell 0; have c1 := R0.cell 1; simp only [La, Lb, Lc] at c0 c1)
   clear R0
   refine qc (ChJ w l' out A c) (hJ.on (hb1)) ?_
   clear c0 c1 f0 f1 z0 hBX ho hg hW R1 tx
   clear hJ HN1 HN2
   intro X hJ
   obtain ⟨A', n', c', ho, hg, hW, R1, tx⟩ := id hJ
   have c0 := R1.cell 0
   have c1 := R1.cell 1
   have f0 := R1.frozen 0
   have f1 := R1.frozen 1
   have z0 := R1.lt
   have hBX := tx.size
   simp only [La, Lb, Lc] at c0 c1
   have HEn := Lh ((uend_ l' A' n' c' X w.heap.size hW tx.size).mono fun _ _ h => h.v)
   generalize yp l' = E at *
   cases E with
   | none =>
    have HR3 : Hid (R = none) := Lh HR2.out
    clear HR2
    go_wp2_with (go_at_call 14; refine HEn.out.mono ?_; rintro e w5 ⟨hb5, N, rfl⟩)
    go_ret3
    rw [HR3.out]
    exact ⟨tx.trans (hb5.mono hBX), rfl⟩
   | some N =>
    have HR3 : Hid (R = some (zE out, N)) := Lh HR2.out
    clear HR2
    go_wp2_with (go_at_call 14; refine HEn.out.mono ?_; rintro e w5 ⟨hb5, rfl⟩)
    go_ret3
    rw [HR3.out]
    exact ⟨tx.trans (hb5.mono hBX), out, A, c, rfl, rfl, qq (qa ho hb5) (by omega), (hg.below hb5).less (by omega)⟩
  | false =>
   cases s2 with
   | true =>
    have HR2 : Hid (R = (yp l').map fun n => (zE out, n)) := Lh (by rw [HR.out, qdf (.inr hs2.out.symm)])
    clear HR hs1 hs2
    go_upto_region 8 with (first | ((fail_if_success have := hb1); go_at_call 11; refine HN1.out.mono ?_; rintro e w1 ⟨rfl, hb1⟩; clear c0 c1 f0 f1; have R0 := R1.below hb1 R1.lt; have f0 := R0.frozen 0; have f1 := R0.frozen 1; have c0 := R0.cell 0; have c1 := R0.cell 1; simp only [La, Lb, Lc] at c0 c1) | (go_at_call 11; refine (HN2.out _ hb1).mono ?_; rintro e w2 ⟨rfl, hb2⟩))
    clear R0
    refine qc (ChJ w l' out A c) (hJ.on (hb1.trans (hb2.mono hb1.size))) ?_
    clear c0 c1 f0 f1 z0 hBX ho hg hW R1 tx
    clear hJ HN1 HN2
    intro X hJ
    obtain ⟨A', n', c', ho, hg, hW, R1, tx⟩ := id hJ
    have c0 := R1.cell 0
    have c1 := R1.cell 1
    have f0 := R1.frozen 0
    have f1 := R1.frozen 1
    have z0 := R1.lt
    have hBX := tx.size
    simp only [La, Lb, Lc] at c0 c1
    have HEn := Lh ((uend_ l' A' n' c' X w.heap.size hW tx.size).mono fun _ _ h => h.v)
    generalize yp l' = E at *
    cases E with
    | none =>
     have HR3 : Hid (R = none) := Lh HR2.out
     clear HR2
     go_wp2_with (go_at_call 14; refine HEn.out.mono ?_; rintro e w5 ⟨hb5, N, rfl⟩)
     go_ret3
     rw [HR3.out]
     exact ⟨tx.trans (hb5.mono hBX), rfl⟩
    | some N =>
     have HR3 : Hid (R = some (zE out, N)) := Lh HR2.out
     clear HR2
     go_wp2_with (go_at_call 14; refine HEn.out.mono ?_; rintro e w5 ⟨hb5, rfl⟩)
     go_ret3
     rw [HR3.out]
     exact ⟨tx.trans (hb5.mono hBX), out, A, c, rfl, rfl, qq (qa ho hb5) (by omega), (hg.below hb5).less (by omega)⟩
   | false =>
    have HR2 : Hid (R = (qan l').bind fun x => if vb x.1 = 0 then jj f' x.2 (zE out ++ [x.1]) else none) := Lh (by rw [HR.out, qh3 hs1.out.symm hs2.out.symm])
    clear HR hs1 hs2
    go_upto_region 4 with (first | ((fail_if_success have := hb1); go_at_call 11; refine HN1.out.mono ?_; rintro e w1 ⟨rfl, hb1⟩; clear c0 c1 f0 f1; have R0 := R1.below hb1 R1.lt; have f0 := R0.frozen 0; have f1 := R0.frozen 1; have c0 := R0.cell 0; have c1 := R0.cell 1; simp only [La, Lb, Lc] at c0 c1) | (go_at_call 11; refine (HN2.out _ hb1).mono ?_; rintro e w2 ⟨rfl, hb2⟩))
    refine qc (ChJ w l' out A c) (hJ.on (hb1.trans (hb2.mono hb1.size))) ?_
    clear R0
    clear c0 c1 f0 f1 z0 hBX ho hg hW R1 tx
    clear hJ HN1 HN2 hb1 hb2
    intro X hJ
    obtain ⟨A', n', c', ho, hg, hW, R1, tx⟩ := id hJ
    have c0 := R1.cell 0
    have c1 := R1.cell 1
    have f0 := R1.frozen 0
    have f1 := R1.frozen 1
    have z0 := R1.lt
    have hBX := tx.size
    simp only [La, Lb, Lc] at c0 c1
    have hl' : l'.length <= 400000 := by omega
    have HCh := Lh ((uchange_ l' A' n' c' X w.heap.size hW tx.size hl' (HS.out.1.below tx (Nat.le_refl _)) (HS.out.2.1.below tx) (HS.out.2.2.below tx (Nat.le_refl _))).mono fun _ _ h => h.spl)
    have HLn : Hid (∀ c t, qan l' = some (c, t) -> t.length < l'.length /\ SmG c.glyphs) := Lh fun c t h => qgy h hl' hW.sz
    have HEq := Lh (chgP_eq l')
    generalize chgP (some l') = P at *
    obtain ⟨cg, rr⟩ := P
    dsimp only at HEq HCh
    go_upto_region 5 with (go_at_call 12; refine HCh.out.mono ?_; rintro e w3 ⟨Ag, cap, A1, n1, cc, lr, bad, rfl, hr, hW1, hb3, ho3⟩)
    refine qc (ChK w w3.heap.size l' out A c cg Ag cap A1 n1 cc bad lr) (ChK.new hJ hb3 hW1 ho3) ?_
    have hg3 : w3.heap.size = w3.heap.size := rfl
    generalize w3.heap.size = gc at *
    clear c0 c1 f0 f1 z0 hBX ho hg hW R1 tx
    clear hJ hb3 hW1 ho3 HCh hg3
    intro Y hK
    obtain ⟨K1, K2, hJ, hW1, ho3, hgc⟩ := id hK
    have k0 := K1.cell 0
    have k1 := K1.cell 1
    have k2 := K1.cell 2
    have k3 := K1.cell 3
    have k4 := K1.cell 4
    have k5 := K1.cell 5
    have m0 := K2.cell 0
    have m1 := K2.cell 1
    simp only [vK, La, Lb, Lc] at k0 k1 k2 k3 k4 k5 m0 m1
    cases bad with
    | true =>
     have HR3 : Hid (R = none) := Lh (by rw [HR2.out, HEq.out, hr]; rfl)
     clear HR2 HEq hr HLn HS
     have tx := hJ.bel
     go_wp2
     go_ret3
     rw [HR3.out]
     exact ⟨tx, rfl⟩
    | false =>
     have HEq2 : Hid (qan l' = some (cg, lr)) := Lh (by rw [HEq.out, hr]; rfl)
     obtain ⟨hlr, hsm⟩ := HLn.out cg lr HEq2.out
     have HR3 : Hid (R = if vb cg = 0 then jj f' lr (zE out ++ [cg]) else none) := Lh (by rw [HR2.out, HEq2.out]; rfl)
     have HCk := Lh (qgz cg Ag cap Y.heap.size Y hsm.1 (Rd.of_own ho3) (Nat.le_refl _) hsm.2 (HS.out.2.1.below hJ.bel))
     clear HR2 HEq HEq2 hr HLn hsm
     by_cases hK0 : vb cg = 0
     ·rw [hK0] at HCk
      have HR4 : Hid (R = jj f' lr (zE (out ++ [⟨cg, Ag, cap⟩]))) := Lh (by rw [HR3.out, if_pos hK0]; unfold zE; rw [List.map_append]; rfl)
      clear HR3 hK0
      go_upto_region 7 with (go_at_call 13; refine HCk.out.mono ?_; rintro e w5 ⟨rfl, hb5⟩)
      refine qc (ChK w gc l' out A c cg Ag cap A1 n1 cc false lr) (hK.on hb5) ?_
      clear k0 k1 k2 k3 k4 k5 m0 m1 K1 K2 hJ hW1 ho3 hgc
      clear hK hb5 HCk
      intro Z hK
      obtain ⟨K1, K2, hJ, hW1, ho3, hgc⟩ := id hK
      have k0 := K1.cell 0
      have k1 := K1.cell 1
      have k2 := K1.cell 2
      have k3 := K1.cell 3
      have k4 := K1.cell 4
      have k5 := K1.cell 5
      have m0 := K2.cell 0
      have m1 := K2.cell 1
      simp only [vK, La, Lb, Lc] at k0 k1 k2 k3 k4 k5 m0 m1
      obtain ⟨A', n', c', ho, hg, hW, R1, tx⟩ := id hJ
      have f0 := R1.frozen 0
      have f1 := R1.frozen 1
      have z0 := R1.lt
      have hlr2 : lr.length < l'.length := hlr
      have htz := tx.size
      have hbZ : Below Z.heap.size Z Z := Below.refl _ _
      have kz := K2.lt
      have kz1 := K1.lt
      go_region_law (refine vS rfl _ _ _ rfl qfJ ((w.heap.size + 1)) _ rfl ((qa ho (by (repeat (first | exact Below.refl _ _ | assumption | refine Below.drew ?_ | refine Below.alloc ?_ (by first | (simp; done) | (simp; omega) | omega) _ | refine Below.setCell ?_ (by first | (simp; done) | (simp; omega) | omega) _))))) _ _ rfl ((qe (xs := kr ⟨cg, Ag, cap⟩) rfl rfl)) (qfj _) (by omega) (by omega) (by first | (simp; done) | (simp; omega) | omega) ?_; intro A9 c9 w9 qig qin qij hat9; have z9 := qin.size; (try simp only [Nat.zero_add, List.nil_append] at qig); have R9 := R1.below (B := w.heap.size + 1) (Below.trans (by (repeat (first | exact Below.refl _ _ | assumption | refine Below.drew ?_ | refine Below.alloc ?_ (by first | (simp; done) | (simp; omega) | omega) _ | refine Below.setCell ?_ (by first | (simp; done) | (simp; omega) | omega) _))) qin) (Nat.lt_succ_self _); have K9 := qce (K2.below (by (repeat (first | exact Below.refl _ _ | assumption | refine Below.drew ?_ | refine Below.alloc ?_ (by first | (simp; done) | (simp; omega) | omega) _ | refine Below.setCell ?_ (by first | (simp; done) | (simp; omega) | omega) _))) K2.lt) qij (qbS (K2.below (by (repeat (first | exact Below.refl _ _ | assumption | refine Below.drew ?_ | refine Below.alloc ?_ (by first | (simp; done) | (simp; omega) | omega) _ | refine Below.setCell ?_ (by first | (simp; done) | (simp; omega) | omega) _))) K2.lt) (qa ho (by (repeat (first | exact Below.refl _ _ | assumption | refine Below.drew ?_ | refine Below.alloc ?_ (by first | (simp; done) | (simp; omega) | omega) _ | refine Below.setCell ?_ (by first | (simp; done) | (simp; omega) | omega) _)))) (by decide)); clear f0 f1 m0 m1; have f0 := R9.frozen 0; have f1 := R9.frozen 1; have e0 := R9.cell 0; have e1 := R9.cell 1; have m0 := K9.cell 0; have m1 := K9.cell 1; simp only [La, Lb, Lc] at m0 m1 e0 e1)
      all_goals go_wp2
      all_goals exact ⟨⟨lr, out ++ [⟨cg, Ag, cap⟩], f', A9, c9, by rw [List.length_append]; rfl, ChJ.next (x := ⟨cg, Ag, cap⟩) hJ hW1 ho3 (by (repeat (first | exact Below.refl _ _ | assumption | refine Below.drew ?_ | refine Below.alloc ?_ (by first | (simp; done) | (simp; omega) | omega) _ | refine Below.setCell ?_ (by first | (simp; done) | (simp; omega) | omega) _))) qij qin qig, by omega, by rw [List.length_append]; simp only [List.length_cons, List.length_nil]; omega, HR4⟩, by rw [ChJ.left (ChJ.next (x := ⟨cg, Ag, cap⟩) hJ hW1 ho3 (by (repeat (first | exact Below.refl _ _ | assumption | refine Below.drew ?_ | refine Below.alloc ?_ (by first | (simp; done) | (simp; omega) | omega) _ | refine Below.setCell ?_ (by first | (simp; done) | (simp; omega) | omega) _))) qij qin qig)]; exact hlr2⟩
     ·have HR4 : Hid (R = none) := Lh (by rw [HR3.out, if_neg hK0])
      have hKb : (vb cg != 0) = true := bne_iff_ne.2 hK0
      generalize vb cg = K at *
      have tx := hJ.bel
      clear HR3 hK0 HS
      go_wp2_with (go_at_call 13; refine HCk.out.mono ?_; rintro e w5 ⟨rfl, hb5⟩)
      go_ret3
      rw [HR4.out]
      exact ⟨tx.trans (hb5.mono tx.size), rfl⟩
theorem kH (a b : List ByteArray) : sv (a ++ b) = sv a ++ sv b := by simp [sv]
def SayI (X : World) (base g : Nat) (xs : List ByteArray) : Prop := ∃ A c, Blk X g 22 #[.slice A xs.length c] /\ X.ownsRow base 9 1 (.slice A xs.length c) xs.length (sv xs)
theorem SayI.lt {X : World} {base g : Nat} {xs : List ByteArray} (h : SayI X base g xs) : g < X.heap.size := by
 obtain ⟨A, c, h1, h2⟩ := h
 exact h1.lt
theorem SayI.on {X Y : World} {base g : Nat} {xs : List ByteArray} (h : SayI X base g xs) (hb : Below X.heap.size X Y) : SayI Y base g xs := by
 obtain ⟨A, c, h1, h2⟩ := h
 exact ⟨A, c, h1.below hb h1.lt, qa h2 hb⟩
theorem SayI.put {X : World} {base g n c : Nat} {xs ys : List ByteArray} {A : Option Addr} {v : Value} (h : Blk X g 22 #[v]) (ho : X.ownsRow base 9 1 (.slice A n c) n (sv xs ++ sv ys)) (hn : n = xs.length + ys.length) (hg : g < base) : SayI (X.setCell ⟨g, 0, none⟩ (.slice A n c)) base g (xs ++ ys) := by
 subst hn
 refine ⟨A, c, ?_, ?_⟩
 ·have := h.set_ 0 (.slice A (xs.length + ys.length) c)
  rw [List.length_append]
  simpa using this
 ·rw [List.length_append, kH]
  exact qs ho hg _
theorem psay_ (n : Int) (h1 : -999999999 <= n) (h2 : n <= 999999999) (ws xs : List ByteArray) (Aw : Option Addr) (nw cw g base : Nat) (w : World) (hw : nw <= 1000) (hx : xs.length <= 100000000) (rdw : Rd w w.heap.size 1 Aw nw (sv ws)) (hI : SayI w base g xs) (hg : g < base) (hb : base <= w.heap.size) :
  Calls prog 37 #[.int .i64 n, .slice Aw nw cw, .pointer (some ⟨g, 0, none⟩)] w fun e w' => e = .returned (.tuple #[]) /\ SayI w' base g (xs ++ ws ++ ((qG n).map wb)) /\ Below g w w' := by
 obtain ⟨A, c, hB, ho⟩ := hI
 have hlw : ws.length = nw := by have := rdw.1; rw [qdI] at this; omega
 have HX : Hid (ws.length = nw) := Lh hlw
 have HW : Hid (∀ w, Calls prog 24 #[.int .i64 n] w (ql 9 1 jI w (qG n).length (sv (((qG n).map wb))))) := Lh fun w => by
  have := ka n h1 h2 w
  rwa [qcf] at this
 have HL : Hid ((((qG n).map wb)).length = (qG n).length) := Lh (by rw [List.length_map])
 have hl := jD n
 generalize (qG n).length = K at *
 generalize ((qG n).map wb) = ys at *
 have c0 := hB.cell 0
 have f0 := hB.frozen 0
 simp only [La, Lb] at c0
 clear hlw
 go_enter func37, ntmps37
 go_upto_region 1 with ((at_builtin; refine qh rfl _ _ _ rfl qx (base) _ rfl (ho) _ _ rfl (rdw) (by first | rfl | exact qN _ | exact qO _) (by omega) (by omega) (by first | (simp; done) | (simp; omega) | omega) ?_; intro A1 c1 w1 hown1 qh7 hgr1 hat1; have z1 := qh7.size; (try simp only [World.size_alloc] at z1); (try simp only [Nat.zero_add, List.nil_append] at hown1)); have B1 := hB.below qh7 hg; have d0 := B1.cell 0; have e0 := B1.frozen 0; simp only [La, Lb] at d0)
 refine qc (fun X => SayI X base g (xs ++ ws) /\ Below g w X) ⟨SayI.put B1 hown1 (by rw [HX.out]) hg, (qh7.mono (Nat.le_of_lt hg)).setCell (p := ⟨g, 0, none⟩) (Nat.le_refl g) _⟩ ?_
 clear hown1 qh7 hgr1 hat1 z1 B1 d0 e0 c0 f0 hB ho rdw
 rintro X ⟨hI, tx⟩
 have hzX := tx.size
 go_upto_region 2 with (go_at_call 24; refine (HW.out _).mono ?_; rintro e w3 ⟨A3, c3, rfl, ho3, hb3⟩)
 obtain ⟨A, c, hB, ho⟩ := hI.on hb3
 have hz3 := hb3.size
 have hlen : (xs ++ ws).length <= 100001000 := by rw [List.length_append, HX.out]; omega
 have c0 := hB.cell 0
 have f0 := hB.frozen 0
 simp only [La, Lb] at c0
 have HL2 : Hid ((xs ++ ws).length = (xs ++ ws).length) := Lh rfl
 generalize hzs : xs ++ ws = zs at *
 go_wp2_with ((at_builtin; refine qh rfl _ _ _ rfl qx (base) _ rfl (ho) _ _ rfl ((Rd.of_own ho3)) (by first | rfl | exact qN _ | exact qO _) (by omega) (by omega) (by first | (simp; done) | (simp; omega) | omega) ?_; intro A1 c1 w1 hown1 qh7 hgr1 hat1; have z1 := qh7.size; (try simp only [World.size_alloc] at z1); (try simp only [Nat.zero_add, List.nil_append] at hown1)); have B1 := hB.below qh7 hg; have d0 := B1.cell 0; have e0 := B1.frozen 0; simp only [La, Lb] at d0)
 go_end0
 exact ⟨rfl, SayI.put B1 hown1 (by rw [HL.out]) hg, (tx.trans ((hb3.mono (by omega)).trans (qh7.mono (Nat.le_of_lt hg)))).setCell (p := ⟨g, 0, none⟩) (Nat.le_refl g) _⟩
end Go.Proofs.YtlndbiamiioakaaGreatDoor
