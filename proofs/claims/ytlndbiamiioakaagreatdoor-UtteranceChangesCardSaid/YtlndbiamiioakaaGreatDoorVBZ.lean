/- Joined: Vd5, Vd6, UxH. -/
import Derived.Test.YtlndbiamiioakaaGreatDoorVBN
import Derived.Test.YtlndbiamiioakaaGreatDoorVBO
import Derived.Test.YtlndbiamiioakaaGreatDoorVBQ
import Derived.Test.YtlndbiamiioakaaGreatDoorVBY
set_option linter.unusedVariables false
set_option linter.unusedSimpArgs false
set_option linter.unnecessarySimpa false
set_option maxHeartbeats 8000000
namespace Go.Proofs.YtlndbiamiioakaaGreatDoor
open Go.Proofs.Tryz Go.RowKit
set_option maxRecDepth 20000
theorem chk_pos {c : Chg} (h : vb c = 0) : 0 <= c.row /\ 0 <= c.col /\ 0 <= c.til := by
 obtain ⟨h1, h2, _, h4⟩ := qev h
 obtain ⟨kind, row, col, count, til, g⟩ := c
 unfold jg at h2
 unfold jh at h4
 dsimp only at *
 by_cases k1 : kind = 1
 ·rw [if_pos k1, decide_eq_true_eq] at h2 h4
  exact ⟨by omega, by omega, by omega⟩
 ·rw [if_neg k1] at h2 h4
  by_cases k2 : kind = 2
  ·rw [if_pos k2, decide_eq_true_eq] at h2 h4
   exact ⟨by omega, by omega, by omega⟩
  ·rw [if_neg k2] at h2 h4
   by_cases k3 : kind = 3
   ·rw [if_pos k3] at h2 h4
    rw [decide_eq_true_eq] at h2
    rw [Bool.and_eq_true, decide_eq_true_eq] at h4
    exact ⟨by omega, by omega, by omega⟩
   ·rw [if_neg k3, decide_eq_true_eq] at h2 h4
    exact ⟨by omega, by omega, by omega⟩
def okX (F : Option (Chg × List ByteArray)) : Option (Chg × List ByteArray) := F.bind fun x => if vb x.1 = 0 then some x else none
def okC (x : Chg × Option (List ByteArray)) : Option (Chg × List ByteArray) := okX (x.2.map fun t => (x.1, t))
theorem yd {F : Option (Chg × List ByteArray)} (h : ∀ x, F = some x -> x.1.row < 0 ∨ x.1.col < 0 ∨ x.1.til < 0) : okX F = none := by
 unfold okX
 cases F with
 | none => rfl
 | some x =>
  have := h x rfl
  rw [Option.bind_some]
  by_cases hc : vb x.1 = 0
  ·have := chk_pos hc
   omega
  ·rw [if_neg hc]
theorem j8 (l s) : zc ((some l).bind (skO s)) = match afO s l with
  | some x => if x.1 < 0 then (0, none) else (x.1, some x.2)
  | none => (0, none) := by
 unfold zc afO
 simp only [Option.bind_some]
 cases (skO s l).bind jH <;> rfl
theorem qew (l s t) : zc (((some l).bind (skO s)).bind (skO t)) = match (skO s l).bind (afO t) with
  | some x => if x.1 < 0 then (0, none) else (x.1, some x.2)
  | none => (0, none) := by
 show zc ((skO s l).bind (skO t)) = _
 cases skO s l with
 | none => rfl
 | some l' => exact j8 l' t
theorem siz_eq (l : List ByteArray) : okC (sizV (some l)) = okX ((afO vc l).bind fun x => (afO jk x.2).bind fun y => (skO vn y.2).map fun t => ((⟨1, x.1, y.1, 0, 0, []⟩ : Chg), t)) := by
 unfold sizV
 rw [j8]
 cases afO vc l with
 | none => rfl
 | some x =>
  simp only [Option.bind_some]
  by_cases hx : x.1 < 0
  ·rw [if_pos hx]
   refine (yd fun z hz => ?_).symm
   rw [Option.bind_eq_some_iff] at hz
   obtain ⟨y, _, hz⟩ := hz
   rw [Option.map_eq_some_iff] at hz
   obtain ⟨t, _, rfl⟩ := hz
   exact .inl hx
  ·rw [if_neg hx, j8]
   cases afO jk x.2 with
   | none => rfl
   | some y =>
    simp only [Option.bind_some]
    by_cases hy : y.1 < 0
    ·rw [if_pos hy]
     refine (yd fun z hz => ?_).symm
     rw [Option.map_eq_some_iff] at hz
     obtain ⟨t, _, rfl⟩ := hz
     exact .inr (.inl hy)
    ·rw [if_neg hy]
     rfl
theorem up_eq (X Y : Int) (t : List ByteArray) : okC (upV X Y (some t)) = okX (if zj zT t = true then (afO zT t).bind fun z => if z.1 < 0 then none else some ((⟨2, X, 0, -z.1, Y, []⟩ : Chg), z.2)
  else (afO bUp t).bind fun z => if z.1 < 0 then none else some (⟨2, X, 0, z.1, Y, []⟩, z.2)) := by
 unfold upV
 by_cases hu : zj bUp t = true
 ·rw [if_pos (show qo (some t) bUp = true from hu)]
  have hd : ¬ zj zT t = true := by
   cases t with
   | nil => cases hu
   | cons a u =>
    have e : a = bUp := by simpa [zj] using hu
    subst e
    show ¬ decide (bUp = zT) = true
    decide
  rw [if_neg hd, j8]
  cases afO bUp t with
  | none => rfl
  | some z =>
   simp only [Option.bind_some]
   split <;> rfl
 ·rw [if_neg (show ¬ qo (some t) bUp = true from hu), j8]
  by_cases hd : zj zT t = true
  ·rw [if_pos hd]
   cases afO zT t with
   | none => rfl
   | some z =>
    simp only [Option.bind_some]
    split <;> rfl
  ·rw [if_neg hd]
   have n1 : ∀ s, ¬ zj s t = true -> afO s t = none := fun s h => by
    have : (some t : Option (List ByteArray)).bind (skO s) = none := qb4 (by show zj s t = false; simpa using h)
    unfold afO
    rw [show skO s t = none from this]
    rfl
   rw [n1 _ hu, n1 _ hd]
   rfl
theorem scr_eq (l : List ByteArray) : okC (scrV (some l)) = okX (((skO qE l).bind (afO qu)).bind fun x => (afO bTo x.2).bind fun y =>
  if zj zT y.2 = true then (afO zT y.2).bind fun z => if z.1 < 0 then none else some ((⟨2, x.1 - 1, 0, -z.1, y.1, []⟩ : Chg), z.2)
  else (afO bUp y.2).bind fun z => if z.1 < 0 then none else some (⟨2, x.1 - 1, 0, z.1, y.1, []⟩, z.2)) := by
 unfold scrV
 rw [qew]
 cases (skO qE l).bind (afO qu) with
 | none => rfl
 | some x =>
  simp only [Option.bind_some]
  have key : ∀ (y : Int × List ByteArray) z, (if zj zT y.2 = true then (afO zT y.2).bind fun z => if z.1 < 0 then none else some ((⟨2, x.1 - 1, 0, -z.1, y.1, []⟩ : Chg), z.2)
    else (afO bUp y.2).bind fun z => if z.1 < 0 then none else some (⟨2, x.1 - 1, 0, z.1, y.1, []⟩, z.2)) = some z -> z.1.row = x.1 - 1 /\ z.1.til = y.1 := fun y z hz => by
   split at hz <;>
   ·rw [Option.bind_eq_some_iff] at hz
    obtain ⟨q, _, hz⟩ := hz
    split at hz
    ·cases hz
    ·cases hz
     exact ⟨rfl, rfl⟩
  by_cases hx : x.1 < 0
  ·rw [if_pos hx]
   refine (yd fun z hz => ?_).symm
   rw [Option.bind_eq_some_iff] at hz
   obtain ⟨y, _, hz⟩ := hz
   have := (key y z hz).1
   exact .inl (by omega)
  ·rw [if_neg hx, j8]
   cases afO bTo x.2 with
   | none => rfl
   | some y =>
    simp only [Option.bind_some]
    by_cases hy : y.1 < 0
    ·rw [if_pos hy]
     refine (yd fun z hz => ?_).symm
     have := (key y z hz).2
     exact .inr (.inr (by omega))
    ·rw [if_neg hy]
     exact up_eq _ _ _
theorem vis_eq (X Y : Int) (t : List ByteArray) : okC (visV X Y (some t)) = okX (if zj qH t = true then (skO qH t).map fun u => ((⟨4, X, Y, 1, 0, []⟩ : Chg), u)
  else (skO zo t).map fun u => (⟨4, X, Y, 0, 0, []⟩, u)) := by
 unfold visV
 by_cases hd : zj qH t = true
 ·rw [if_pos hd, if_pos (show qo (some t) qH = true from hd)]
  rfl
 ·rw [if_neg hd, if_neg (show ¬ qo (some t) qH = true from hd)]
  rfl
theorem cur_eq (l : List ByteArray) : okC (curV (some l)) = okX (((skO qD l).bind (afO qu)).bind fun x => (afO qB x.2).bind fun y =>
  if zj qH y.2 = true then (skO qH y.2).map fun t => ((⟨4, x.1 - 1, y.1 - 1, 1, 0, []⟩ : Chg), t)
  else (skO zo y.2).map fun t => (⟨4, x.1 - 1, y.1 - 1, 0, 0, []⟩, t)) := by
 unfold curV
 rw [qew]
 cases (skO qD l).bind (afO qu) with
 | none => rfl
 | some x =>
  simp only [Option.bind_some]
  have key : ∀ (y : Int × List ByteArray) z, (if zj qH y.2 = true then (skO qH y.2).map fun t => ((⟨4, x.1 - 1, y.1 - 1, 1, 0, []⟩ : Chg), t)
    else (skO zo y.2).map fun t => (⟨4, x.1 - 1, y.1 - 1, 0, 0, []⟩, t)) = some z -> z.1.row = x.1 - 1 /\ z.1.col = y.1 - 1 := fun y z hz => by
   split at hz <;>
   ·rw [Option.map_eq_some_iff] at hz
    obtain ⟨q, _, rfl⟩ := hz
    exact ⟨rfl, rfl⟩
  by_cases hx : x.1 < 0
  ·rw [if_pos hx]
   refine (yd fun z hz => ?_).symm
   rw [Option.bind_eq_some_iff] at hz
   obtain ⟨y, _, hz⟩ := hz
   have := (key y z hz).1
   exact .inl (by omega)
  ·rw [if_neg hx, j8]
   cases afO qB x.2 with
   | none => rfl
   | some y =>
    simp only [Option.bind_some]
    by_cases hy : y.1 < 0
    ·rw [if_pos hy]
     refine (yd fun z hz => ?_).symm
     have := (key y z hz).2
     exact .inr (.inl (by omega))
    ·rw [if_neg hy]
     exact vis_eq _ _ _
theorem del_eq (X Y : Int) (t : List ByteArray) : okC (delV X Y (some t)) = okX ((delL t).bind fun z => (insL z.2).map fun g => ((⟨3, X, Y, z.1, 0, g.1⟩ : Chg), g.2)) := by
 unfold delV delL
 by_cases hd : zj qW t = true
 ·rw [if_pos hd, if_pos (show qo (some t) qW = true from hd), j8]
  cases afO qW t with
  | none => rfl
  | some x =>
   simp only [Option.bind_some]
   by_cases hx : x.1 < 0
   ·rw [if_pos hx, if_pos (show x.1 < 1 by omega)]
    rfl
   ·rw [if_neg hx]
    by_cases h0 : x.1 = 0
    ·rw [if_pos h0, if_pos (show x.1 < 1 by omega)]
     rfl
    ·rw [if_neg h0, if_neg (show ¬ x.1 < 1 by omega)]
     simp only [Option.bind_some]
     rw [qbJ, Option.map_map]
     rfl
 ·rw [if_neg hd, if_neg (show ¬ qo (some t) qW = true from hd)]
  simp only [Option.bind_some]
  rw [qbJ, Option.map_map]
  rfl
theorem lin_eq (l : List ByteArray) : okC (linV (some l)) = okX (kv l) := by
 unfold linV kv
 rw [j8]
 cases afO qu l with
 | none => rfl
 | some x =>
  simp only [Option.bind_some]
  have key : ∀ (y : Int × List ByteArray) z, ((delL y.2).bind fun z => (insL z.2).map fun g => ((⟨3, x.1 - 1, y.1 - 1, z.1, 0, g.1⟩ : Chg), g.2)) = some z -> z.1.row = x.1 - 1 /\ z.1.col = y.1 - 1 := fun y z hz => by
   rw [Option.bind_eq_some_iff] at hz
   obtain ⟨q, _, hz⟩ := hz
   rw [Option.map_eq_some_iff] at hz
   obtain ⟨q, _, rfl⟩ := hz
   exact ⟨rfl, rfl⟩
  by_cases hx : x.1 < 0
  ·rw [if_pos hx]
   refine (yd fun z hz => ?_).symm
   rw [Option.bind_eq_some_iff] at hz
   obtain ⟨y, _, hz⟩ := hz
   have := (key y z hz).1
   exact .inl (by omega)
  ·rw [if_neg hx, j8]
   cases afO qB x.2 with
   | none => rfl
   | some y =>
    simp only [Option.bind_some]
    by_cases hy : y.1 < 0
    ·rw [if_pos hy]
     refine (yd fun z hz => ?_).symm
     have := (key y z hz).2
     exact .inr (.inl (by omega))
    ·rw [if_neg hy]
     exact del_eq _ _ _
theorem qgL (l : List ByteArray) : okC (yi (some l)) = okX (qan l) := by
 unfold qan yi
 by_cases h1 : zj vc l = true
 ·rw [if_pos h1, if_pos (show qo (some l) vc = true from h1)]
  exact siz_eq l
 ·rw [if_neg h1, if_neg (show ¬ qo (some l) vc = true from h1)]
  by_cases h2 : zj qE l = true
  ·rw [if_pos h2, if_pos (show qo (some l) qE = true from h2)]
   exact scr_eq l
  ·rw [if_neg h2, if_neg (show ¬ qo (some l) qE = true from h2)]
   by_cases h3 : zj qu l = true
   ·rw [if_pos h3, if_pos (show qo (some l) qu = true from h3)]
    exact lin_eq l
   ·rw [if_neg h3, if_neg (show ¬ qo (some l) qu = true from h3)]
    by_cases h4 : zj qD l = true
    ·rw [if_pos h4, if_pos (show qo (some l) qD = true from h4)]
     exact cur_eq l
    ·rw [if_neg h4, if_neg (show ¬ qo (some l) qD = true from h4)]
     rfl
def goV (f : Nat) (r : Option (List ByteArray)) (acc : List Chg) : Option (List Chg × Int) := r.bind fun l => jj f l acc
theorem goV_step {f : Nat} {l : List ByteArray} {acc : List Chg} (h1 : zj vh l = false) (h2 : zj q8 l = false) : goV (f + 1) (some l) acc = goV f (if vb (yi (some l)).1 = 0 then (yi (some l)).2 else none) (acc ++ [(yi (some l)).1]) := by
 have e : goV (f + 1) (some l) acc = (okX (qan l)).bind fun x => jj f x.2 (acc ++ [x.1]) := by
  show jj (f + 1) l acc = _
  rw [jj, if_neg (by rw [h1, h2]; simp), okX]
  cases qan l with
  | none => rfl
  | some x =>
   simp only [Option.bind_some]
   split <;> rfl
 rw [e, <- qgL]
 generalize yi (some l) = q
 obtain ⟨c, t⟩ := q
 unfold okC okX goV
 cases t with
 | none => split <;> rfl
 | some t =>
  simp only [Option.map_some, Option.bind_some]
  split <;> rfl
theorem chgQ_len {l t : List ByteArray} (hl : l.length <= 1000) (hsz : ∀ s ∈ l, s.size <= 1000) (hc : vb (yi (some l)).1 = 0) (h : (yi (some l)).2 = some t) : t.length < l.length := by
 have e := qgL l
 unfold okC at e
 rw [h, Option.map_some] at e
 unfold okX at e
 rw [Option.bind_some, if_pos hc] at e
 obtain ⟨x, hx, h2⟩ := Option.bind_eq_some_iff.1 e.symm
 split at h2
 ·cases h2
  exact (qgy (c := (yi (some l)).1) hx (by omega) hsz).1
 ·cases h2
def lenO (r : Option (List ByteArray)) : Nat := match r with
 | some l => l.length
 | none => 0
def endT (r : Option (List ByteArray)) : Int × Option (List ByteArray) :=
 if qo r vh = true then (0, r.bind (skO vh))
 else if qo r q8 = true /\ lenO r = 1 then (1, r.bind (skO q8))
 else ((zc (r.bind (skO q8))).1, if (zc (r.bind (skO q8))).1 < 2 then none else (zc (r.bind (skO q8))).2.bind (skO zy))
def endV (r : Option (List ByteArray)) : Option Int := (endT r).2.bind fun t => if t = [] then some (endT r).1 else none
theorem endV_nil : endV (some []) = none := by decide
theorem endV_eq (l : List ByteArray) (h : zj vh l = true ∨ zj q8 l = true) : endV (some l) = yp l := by
 unfold endV endT yp
 cases l with
 | nil => rcases h with h | h <;> cases h
 | cons a t =>
  by_cases hm : zj vh (a :: t) = true
  ·rw [if_pos hm, if_pos (show qo (some (a :: t)) vh = true from hm)]
   have e : a = vh := by simpa [zj] using hm
   subst e
   simp only [Option.bind_some, qdC]
   cases t <;> simp
  ·rw [if_neg hm, if_neg (show ¬ qo (some (a :: t)) vh = true from hm)]
   have hd := h.resolve_left hm
   have e : a = q8 := by simpa [zj] using hd
   subst e
   simp only [Option.bind_some, qdC]
   cases t with
   | nil => rw [if_pos ⟨hd, rfl⟩]; rfl
   | cons b u =>
    rw [if_neg (by rintro ⟨_, h⟩; simp [lenO] at h), if_neg (show ¬ (b :: u = []) by simp)]
    unfold zc
    simp only [Option.bind_some]
    cases jH (b :: u) with
    | none => rfl
    | some x =>
     obtain ⟨n, q⟩ := x
     simp only [Option.bind_some]
     by_cases hn : n < 0
     ·rw [if_pos hn]
      show none = _
      cases skO zy q with
      | none => rfl
      | some z =>
       show none = if z = [] /\ 1 < n then some n else none
       rw [if_neg (fun h => by have := h.2; omega)]
     ·rw [if_neg hn]
      show (Option.bind (if n < 2 then none else skO zy q) fun t => if t = [] then some n else none) = _
      by_cases h2 : n < 2
      ·rw [if_pos h2]
       cases skO zy q with
       | none => rfl
       | some z =>
        show none = if z = [] /\ 1 < n then some n else none
        rw [if_neg (fun h => by have := h.2; omega)]
      ·rw [if_neg h2]
       cases skO zy q with
       | none => rfl
       | some z =>
        show (if z = [] then some n else none) = if z = [] /\ 1 < n then some n else none
        by_cases hz : z = []
        ·rw [if_pos hz, if_pos ⟨hz, by omega⟩]
        ·rw [if_neg hz, if_neg (fun h => hz h.1)]
theorem goV_end {f : Nat} {r : Option (List ByteArray)} {acc : List Chg} (h : ∀ l, r = some l -> l = [] ∨ zj vh l = true ∨ zj q8 l = true) : goV (f + 1) r acc = (endV r).map fun n => (acc, n) := by
 cases r with
 | none => rfl
 | some l =>
  rcases h l rfl with rfl | h
  ·rw [endV_nil]; rfl
  ·rw [endV_eq l h]
   show jj (f + 1) l acc = _
   rw [jj, if_pos h]
theorem qcl {r : Option (List ByteArray)} (h : ∀ l, r = some l -> l.length <= 1000 /\ ∀ s ∈ l, s.size <= 1000) : SmG (j6 r).1 := by
 cases r with
 | none => exact SmG.nil
 | some l =>
  have e := qbJ l
  cases hp : (j6 (some l)).2 with
  | none =>
   have : (j6 (some l)).1 = [] := by
    unfold j6 kW at hp ⊢
    split
    ·rename_i hn
     rw [if_pos hn] at hp
     cases hq : ((some l).bind (skO qK)).bind vX with
     | none => rfl
     | some x => rw [hq] at hp; cases hp
    ·rfl
   rw [this]
   exact SmG.nil
  | some t =>
   rw [hp, Option.map_some] at e
   have := h l rfl
   exact (qgu e (by omega) this.2).2
def OkR (r : Option (List ByteArray)) : Prop := ∀ l, r = some l -> l.length <= 1000 /\ ∀ s ∈ l, s.size <= 1000
theorem OkR.sk {r : Option (List ByteArray)} (h : OkR r) (s : ByteArray) : OkR (r.bind (skO s)) := fun t ht => by
 obtain ⟨l, hl, h2⟩ := Option.bind_eq_some_iff.1 ht
 have := qfN h2
 exact ⟨Nat.le_trans this.1 (h l hl).1, fun x hx => (h l hl).2 x (this.2 x hx)⟩
theorem OkR.num {r : Option (List ByteArray)} (h : OkR r) : OkR (zc r).2 := fun t ht => by
 unfold zc at ht
 cases hq : r.bind jH with
 | none => rw [hq] at ht; cases ht
 | some x =>
  obtain ⟨n, u⟩ := x
  rw [hq] at ht
  dsimp only at ht
  split at ht
  ·cases ht
  ·cases ht
   obtain ⟨l, hl, h2⟩ := Option.bind_eq_some_iff.1 hq
   have := qga h2
   exact ⟨Nat.le_trans this.1 (h l hl).1, fun x hx => (h l hl).2 x (this.2 x hx)⟩
theorem qfE {l : List ByteArray} (h : OkR (some l)) : SmG (yi (some l)).1.glyphs := by
 unfold yi
 split
 ·exact SmG.nil
 ·split
  ·unfold scrV upV
   split <;> exact SmG.nil
  ·split
   ·unfold linV delV
    have h2 : OkR (zc ((zc ((some l).bind (skO qu))).2.bind (skO qB))).2 := ((h.sk _).num.sk _).num
    split
    ·split
     ·exact SmG.nil
     ·exact qcl (h2.sk _).num
    ·exact qcl h2
   ·split
    ·unfold curV visV
     split <;> exact SmG.nil
    ·exact SmG.nil
theorem OkR.text {r : Option (List ByteArray)} (h : OkR r) : OkR (kW r).2 := fun t ht => by
 unfold kW at ht
 cases hq : r.bind vX with
 | none => rw [hq] at ht; cases ht
 | some x =>
  obtain ⟨G, u⟩ := x
  rw [hq] at ht
  cases ht
  obtain ⟨l, hl, h2⟩ := Option.bind_eq_some_iff.1 hq
  unfold vX at h2
  obtain ⟨i, _, h3⟩ := Option.bind_eq_some_iff.1 h2
  split at h3
  ·cases h3
   exact ⟨by rw [List.length_drop]; have := (h l hl).1; omega, fun x hx => (h l hl).2 x (List.mem_of_mem_drop hx)⟩
  ·cases h3
theorem OkR.ins {r : Option (List ByteArray)} (h : OkR r) : OkR (j6 r).2 := by
 unfold j6
 split
 ·exact (h.sk _).text
 ·exact h
theorem OkR.none_ : OkR none := fun l e => by cases e
theorem chgQ_ok {l : List ByteArray} (h : OkR (some l)) : OkR (yi (some l)).2 := by
 unfold yi
 split
 ·exact ((h.sk _).num.sk _).num.sk _
 ·split
  ·unfold scrV upV
   have h2 : OkR (zc ((zc (((some l).bind (skO qE)).bind (skO qu))).2.bind (skO bTo))).2 := (((h.sk _).sk _).num.sk _).num
   split <;> exact (h2.sk _).num
  ·split
   ·unfold linV delV
    have h2 : OkR (zc ((zc ((some l).bind (skO qu))).2.bind (skO qB))).2 := ((h.sk _).num.sk _).num
    split
    ·split
     ·exact OkR.none_
     ·exact (h2.sk _).num.ins
    ·exact h2.ins
   ·split
    ·unfold curV visV
     have h2 : OkR (zc ((zc (((some l).bind (skO qD)).bind (skO qu))).2.bind (skO qB))).2 := (((h.sk _).sk _).num.sk _).num
     split <;> exact h2.sk _
    ·exact OkR.none_
def TcR (o : Option (List Chg × Int)) (w : World) (e : Ending) (w' : World) : Prop :=
 Below w.heap.size w w' /\ match o with
 | none => ∃ A, e = .returned (.tuple #[.slice A 0 0, .int .i64 0, .int .i64 17])
 | some x => ∃ out A c, zE out = x.1 /\ e = .returned (.tuple #[.slice A out.length c, .int .i64 x.2, .int .i64 0]) /\ w'.ownsRow w.heap.size 34 6 (.slice A out.length c) out.length (jl out) /\ GlO w.heap.size w' out
def qeV (w : World) (g : Nat) : Nat := match w.cell? ⟨g, 0, none⟩, w.cell? ⟨g, 1, none⟩ with
 | some (.slice _ n _), some (.bool true) => n + 1
 | _, _ => 0
theorem leftT_eq {w : World} {g n c : Nat} {A : Option Addr} {t : TypeId} {b : Bool} (h : Blk w g t #[.slice A n c, .bool b]) : qeV w g = if b = true then n + 1 else 0 := by
 obtain ⟨h0, h1, _⟩ := qm h
 unfold qeV
 rw [h0, h1]
 cases b <;> rfl
def TJ (w : World) (r : Option (List ByteArray)) (out : List ChgM) (A : Option Addr) (c : Nat) (X : World) : Prop :=
 (∃ A' n' c' l' bad', r = zY bad' l' /\ WdR X w.heap.size l' A' n' c' /\ Blk X w.heap.size 49 #[.slice A' n' c', .bool (!bad')]) /\ X.ownsRow (w.heap.size + 1) 34 6 (.slice A out.length c) out.length (jl out) /\ GlO (w.heap.size + 1) X out /\ Below w.heap.size w X
theorem TJ.lt {w X : World} {r : Option (List ByteArray)} {out : List ChgM} {A : Option Addr} {c : Nat} (h : TJ w r out A c X) : w.heap.size < X.heap.size := by
 obtain ⟨⟨A', n', c', l', bad', hr', hW, R1⟩, ho, hg, tx⟩ := h
 exact R1.lt
theorem TJ.on {w X Y : World} {r : Option (List ByteArray)} {out : List ChgM} {A : Option Addr} {c : Nat} (h : TJ w r out A c X) (hb : Below X.heap.size X Y) : TJ w r out A c Y := by
 obtain ⟨⟨A', n', c', l', bad', hr', hW, R1⟩, ho, hg, tx⟩ := h
 exact ⟨⟨A', n', c', l', bad', hr', hW.below (hb.mono tx.size), R1.below hb R1.lt⟩, qa ho hb, hg.below hb, tx.trans (hb.mono tx.size)⟩
theorem TJ.turn {w X : World} {r r' : Option (List ByteArray)} {out : List ChgM} {A A1 : Option Addr} {c n1 cc : Nat} {lr : List ByteArray} {bad : Bool} (h : TJ w r out A c X) (hW : WdR X w.heap.size lr A1 n1 cc) (hr : r' = zY bad lr) :
  TJ w r' out A c ((X.setCell ⟨w.heap.size, 0, none⟩ (.slice A1 n1 cc)).setCell ⟨w.heap.size, 1, none⟩ (.bool (!bad))) := by
 obtain ⟨⟨A', n', c', l', bad', hr', hW', R1⟩, ho, hg, tx⟩ := h
 have hlt : ∀ i, (⟨w.heap.size, i, none⟩ : Addr).block < w.heap.size + 1 := fun i => Nat.lt_succ_self _
 have hbw : Below w.heap.size X ((X.setCell ⟨w.heap.size, 0, none⟩ (.slice A1 n1 cc)).setCell ⟨w.heap.size, 1, none⟩ (.bool (!bad))) := ((Below.refl _ _).setCell (p := ⟨w.heap.size, 0, none⟩) (Nat.le_refl _) _).setCell (p := ⟨w.heap.size, 1, none⟩) (Nat.le_refl _) _
 exact ⟨⟨A1, n1, cc, lr, bad, hr, hW.below hbw, qA R1⟩, qs (qs ho (hlt 0) _) (hlt 1) _, (hg.set_ (hlt 0) _).set_ (hlt 1) _, tx.trans hbw⟩
def lenT (r : Option (List ByteArray)) : Nat := match r with
 | some l => l.length + 1
 | none => 0
theorem lenT_lt {r : Option (List ByteArray)} {l : List ByteArray} (h : ∀ t, r = some t -> t.length < l.length) : lenT r < lenT (some l) := by
 cases r with
 | none => exact Nat.succ_pos _
 | some t =>
  have := h t rfl
  show t.length + 1 < l.length + 1
  omega
theorem TJ.left {w X : World} {r : Option (List ByteArray)} {out : List ChgM} {A : Option Addr} {c : Nat} (h : TJ w r out A c X) : qeV X w.heap.size = lenT r := by
 obtain ⟨⟨A', n', c', l', bad', rfl, hW, R1⟩, ho, hg, tx⟩ := h
 rw [leftT_eq R1]
 have := hW.len
 cases bad'
 ·show n' + 1 = l'.length + 1
  omega
 ·rfl
theorem TJ.next {w Z U W9 : World} {r r' : Option (List ByteArray)} {lr : List ByteArray} {out : List ChgM} {A A1 A9 : Option Addr} {c n1 cc c9 : Nat} {bad : Bool} {x : ChgM} (hJ : TJ w r out A c Z) (hW1 : WdR Z w.heap.size lr A1 n1 cc) (hr1 : r' = zY bad lr) (hx : Z.ownsRow (w.heap.size + 1) 31 3 (.slice x.A x.c.glyphs.length x.cap) x.c.glyphs.length (qn x.c.glyphs))
  (hb : Below Z.heap.size Z U) (hgr : U.grownBy W9 (Value.slice A out.length c).ownBlock) (hb9 : Below (w.heap.size + 1) U W9) (ho9 : W9.ownsRow (w.heap.size + 1) 34 6 (.slice A9 (out.length + 1) c9) (out.length + 1) (jl out ++ kr x)) :
  TJ w r' (out ++ [x]) A9 c9 ((W9.setCell ⟨w.heap.size, 0, none⟩ (.slice A1 n1 cc)).setCell ⟨w.heap.size, 1, none⟩ (.bool (!bad))) := by
 have hz := hJ.lt
 obtain ⟨⟨A', n', c', l', bad', hr', hW, R1⟩, ho, hg, tx⟩ := hJ
 have h9 : Below (w.heap.size + 1) Z W9 := (hb.mono hz).trans hb9
 have hgl : GlO (w.heap.size + 1) W9 (out ++ [x]) := fun y hy => by
  rcases List.mem_append.1 hy with hy | hy
  ·exact ((hg.below hb).app (qa ho hb) hgr) y hy
  ·rw [List.mem_singleton] at hy
   subst hy
   exact (qa hx hb).kept hgr (qdz (qa hx hb) (qa ho hb) (by decide))
 have h' : TJ w r (out ++ [x]) A9 c9 W9 := ⟨⟨A', n', c', l', bad', hr', hW.below (h9.mono (by omega)), R1.below h9 (Nat.lt_succ_self _)⟩, by rw [List.length_append, qdq, show jl [x] = kr x by simp [jl]]; exact ho9, hgl, tx.trans (h9.mono (by omega))⟩
 exact h'.turn (hW1.below (h9.mono (by omega))) hr1
def TK (w : World) (gc : Nat) (r : Option (List ByteArray)) (out : List ChgM) (A : Option Addr) (c : Nat) (cg : Chg) (Ag : Option Addr) (cap : Nat) (A1 : Option Addr) (n1 cc : Nat) (bad : Bool) (lr : List ByteArray) (Y : World) : Prop :=
 Blk Y gc 34 (vK cg Ag cap) /\ Blk Y (gc + 1) 49 #[.slice A1 n1 cc, .bool (!bad)] /\ TJ w r out A c Y /\ WdR Y w.heap.size lr A1 n1 cc /\ Y.ownsRow (w.heap.size + 1) 31 3 (.slice Ag cg.glyphs.length cap) cg.glyphs.length (qn cg.glyphs) /\ w.heap.size + 1 <= gc
theorem TK.on {w : World} {gc : Nat} {r : Option (List ByteArray)} {out : List ChgM} {A : Option Addr} {c : Nat} {cg : Chg} {Ag : Option Addr} {cap : Nat} {A1 : Option Addr} {n1 cc : Nat} {bad : Bool} {lr : List ByteArray} {Y Z : World} (h : TK w gc r out A c cg Ag cap A1 n1 cc bad lr Y) (hb : Below Y.heap.size Y Z) : TK w gc r out A c cg Ag cap A1 n1 cc bad lr Z := by
 obtain ⟨h1, h2, h3, h4, h5, h6⟩ := h
 have := h1.lt
 exact ⟨h1.below hb h1.lt, h2.below hb h2.lt, h3.on hb, h4.below (hb.mono (by omega)), qa h5 hb, h6⟩
theorem TK.new {w X w3 : World} {r : Option (List ByteArray)} {out : List ChgM} {A : Option Addr} {c : Nat} {cg : Chg} {Ag : Option Addr} {cap : Nat} {A1 : Option Addr} {n1 cc : Nat} {bad : Bool} {lr : List ByteArray} (hJ : TJ w r out A c X) (hb3 : Below X.heap.size X w3) (hW : WdR w3 w.heap.size lr A1 n1 cc) (ho : w3.ownsRow X.heap.size 31 3 (.slice Ag cg.glyphs.length cap) cg.glyphs.length (qn cg.glyphs)) :
  TK w w3.heap.size r out A c cg Ag cap A1 n1 cc bad lr ((w3.alloc (.cells (vK cg Ag cap) 34)).alloc (.cells #[.slice A1 n1 cc, .bool (!bad)] 49)) := by
 have hX := hJ.lt
 have hX3 := hb3.size
 have hbb : Below w3.heap.size w3 ((w3.alloc (.cells (vK cg Ag cap) 34)).alloc (.cells #[.slice A1 n1 cc, .bool (!bad)] 49)) := ((Below.refl _ _).alloc (Nat.le_refl _) _).alloc (by simp) _
 exact ⟨(Blk.new w3 _ _).alloc _, Blk.new_ (by simp), (hJ.on hb3).on hbb, hW.below (hbb.mono (by omega)), qq (qa ho hbb) hX, by omega⟩
theorem qf7 {w : World} {base size n : Nat} {e : TypeId} {v : Value} {xs : List Value} (h : w.ownsRow base e size v n xs) {p : Addr} (hn : some p.block ≠ v.ownBlock) (u : Value) : (w.setCell p u).ownsRow base e size v n xs :=
 h.kept (row := some p.block) ⟨rfl, rfl, rfl, by simp, fun k _ hk => Below.heap_setCell _ _ _ _ (fun e => hk (by rw [e]))⟩ (.inr (Ne.symm hn))
theorem TK.spoil {w : World} {gc : Nat} {r : Option (List ByteArray)} {out : List ChgM} {A : Option Addr} {c : Nat} {cg : Chg} {Ag : Option Addr} {cap : Nat} {A1 : Option Addr} {n1 cc : Nat} {bad : Bool} {lr : List ByteArray} {Y : World} (h : TK w gc r out A c cg Ag cap A1 n1 cc bad lr Y) : TK w gc r out A c cg Ag cap none 0 0 true [] ((Y.setCell ⟨gc + 1, 0, none⟩ (.slice none 0 0)).setCell ⟨gc + 1, 1, none⟩ (.bool false)) := by
 obtain ⟨h1, h2, ⟨⟨A', n', c', l', bad', hr', hW', R1⟩, ho, hg, tx⟩, h4, h5, h6⟩ := h
 have hb : ∀ k, k <= gc + 1 -> Below k Y ((Y.setCell ⟨gc + 1, 0, none⟩ (.slice none 0 0)).setCell ⟨gc + 1, 1, none⟩ (.bool false)) := fun k hk => ((Below.refl k Y).setCell (p := ⟨gc + 1, 0, none⟩) hk _).setCell (p := ⟨gc + 1, 1, none⟩) hk _
 have own_ne3 : ∀ {e : TypeId} {size n : Nat} {v : Value} {xs : List Value}, 49 ≠ e -> Y.ownsRow (w.heap.size + 1) e size v n xs -> ((Y.setCell ⟨gc + 1, 0, none⟩ (.slice none 0 0)).setCell ⟨gc + 1, 1, none⟩ (.bool false)).ownsRow (w.heap.size + 1) e size v n xs := fun hne hw => by
  have n1 := qbS h2 hw hne
  exact qf7 (qf7 hw (p := ⟨gc + 1, 0, none⟩) n1 _) (p := ⟨gc + 1, 1, none⟩) n1 _
 refine ⟨h1.below (hb _ (Nat.le_refl _)) (Nat.lt_succ_self _), qA h2, ⟨⟨A', n', c', l', bad', hr', hW'.below (hb _ (by omega)), R1.below (hb (w.heap.size + 1) (by omega)) (Nat.lt_succ_self _)⟩, own_ne3 (by decide) ho, fun x hx => own_ne3 (by decide) (hg x hx), tx.trans (hb _ (by omega))⟩, WdR.nil _ _, own_ne3 (by decide) h5, h6⟩
def qao (r : Option (List ByteArray)) : Bool := match r with
 | some l => decide (l ≠ []) && !(zj vh l) && !(zj q8 l)
 | none => false
theorem contB_no {r : Option (List ByteArray)} (h : qao r = false) : ∀ l, r = some l -> l = [] ∨ zj vh l = true ∨ zj q8 l = true := fun l e => by
 subst e
 replace h : (decide (l ≠ []) && !(zj vh l) && !(zj q8 l)) = false := h
 by_cases hl : l = []
 ·exact .inl hl
 ·right
  cases hm : zj vh l with
  | true => exact .inl rfl
  | false =>
   right
   rw [hm] at h
   simpa [hl] using h
theorem qhr {r : Option (List ByteArray)} (h : qao r = true) : ∃ l, r = some l /\ 0 < l.length /\ zj vh l = false /\ zj q8 l = false := by
 cases r with
 | none => cases h
 | some l =>
  unfold qao at h
  simp only [Bool.and_eq_true, decide_eq_true_eq, Bool.not_eq_true'] at h
  exact ⟨l, rfl, List.length_pos_iff.2 h.1.1, h.1.2, h.2⟩
theorem goV_zero {f : Nat} {r : Option (List ByteArray)} {acc : List Chg} (h : ∀ l, r = some l -> l.length < f) : ∃ f', goV f r acc = goV (f' + 1) r acc /\ ∀ l, r = some l -> l.length < f' + 1 := by
 cases f with
 | succ f => exact ⟨f, rfl, h⟩
 | zero =>
  cases r with
  | none => exact ⟨0, rfl, fun l e => by cases e⟩
  | some l => exact absurd (h l rfl) (Nat.not_lt_zero _)
theorem qhT (l : List ByteArray) (A : Option Addr) (n c : Nat) (w : World) (hW : WdR w w.heap.size l A n c) (hl : l.length <= 1000) (ht : Tb w) :
  Calls prog 7 #[.slice A n c] w (TcR (jn l) w) := by
 obtain ⟨R, hR⟩ : ∃ x, Hid (x = jn l) := ⟨_, Lh rfl⟩
 rw [<- hR.out]
 have HT := Lh ht
 have hJ : TJ w (some l) [] (some ⟨w.heap.size + 1, 0, none⟩) 0 ((w.alloc (.cells #[.slice A n c, .bool true] 49)).alloc (.cells #[] 34)) := by
  have hb : Below w.heap.size w (w.alloc (.cells #[.slice A n c, .bool true] 49)) := (Below.refl _ _).alloc (Nat.le_refl _) _
  have hz : (w.alloc (.cells #[.slice A n c, .bool true] 49)).heap.size = w.heap.size + 1 := by simp
  exact ⟨⟨A, n, c, l, false, rfl, hW.below (hb.alloc (by omega) _), (Blk.new w _ _).alloc _⟩, qR (xs := []) (n := 0) hz rfl (Nat.le_refl _) (by omega), (fun x hx => by cases hx), hb.alloc (by omega) _⟩
 have H0 : Hid (R = goV (l.length + 1) (some l) (zE [])) := Lh (by rw [hR.out]; rfl)
 have H1 : OkR (some l) := fun x e => by cases e; exact ⟨hl, hW.sz⟩
 clear hW hR ht
 go_enter func7, ntmps7
 go_wp2
 go_loopw [6] (fun x wr => ∃ r out f A c, x = .slice A out.length c /\ TJ w r out A c wr /\ (∀ l, r = some l -> l.length < f) /\ out.length + lenO r <= 1000 /\ OkR r /\ Hid (R = goV f r (zE out))) (fun _ wr => qeV wr w.heap.size)
 case atStart => exact ⟨some l, [], l.length + 1, _, 0, rfl, hJ, fun x e => by cases e; omega, by simpa [lenO] using hl, H1, H0⟩
 case round =>
  clear hJ H0 H1 hl
  obtain ⟨r, out, f, Ao, co, rfl, hJ, hf, hlen, hok, HR⟩ := hrel
  obtain ⟨f', hgo, hf'⟩ := goV_zero (acc := zE out) hf
  have HR1 : Hid (R = goV (f' + 1) r (zE out)) := Lh (by rw [HR.out, hgo])
  have HM : Hid (qeV wr w.heap.size = lenT r) := Lh hJ.left
  rw [HM.out]
  clear HR hgo hf HM
  go_upto_region 3 with fail
  go_cut [30] (fun v wx => v = .bool (qao r) /\ TJ w r out Ao co wx)
  case first =>
   as_aux_lemma =>
   clear HR1 hf' hlen hok
   obtain ⟨⟨A', n', c', l', bad', hr', hW, R1⟩, ho, hg, tx⟩ := id hJ
   obtain ⟨c0, c1, f0, f1⟩ := qm R1
   have z0 := R1.lt
   have hBX := tx.size
   subst hr'
   cases bad' with
   | true =>
    replace c1 : wr.cell? ⟨w.heap.size, 1, none⟩ = some (.bool false) := c1
    go_wp2
    go_meet
    exact ⟨rfl, hJ⟩
   | false =>
    replace c1 : wr.cell? ⟨w.heap.size, 1, none⟩ = some (.bool true) := c1
    have HC : Hid (qao (some l') = (decide (l' ≠ []) && !(zj vh l') && !(zj q8 l'))) := Lh rfl
    have hln := hW.len
    by_cases hn : n' = 0
    ·have e : Hid (qao (zY false l') = false) := Lh (by rw [show zY false l' = some l' from rfl, HC.out, List.length_eq_zero_iff.1 (hln.trans hn)]; rfl)
     subst hn
     clear HC
     go_wp2
     go_meet
     exact ⟨by rw [e.out], hJ⟩
    ·have hi : (0 : Int) < n' := by omega
     have hne : l' ≠ [] := fun e => hn (by rw [<- hln, e]; rfl)
     have HN1 := Lh (tis_ (some l') (.agg #[.slice A' n' c', .bool true]) vh w.heap.size wr ⟨A', n', c', l', false, rfl, hW, rfl⟩ hBX)
     have HN2 : Hid (∀ w1, Below wr.heap.size wr w1 -> Calls prog 15 #[.agg #[.slice A' n' c', .bool true], .string q8] w1 (qg (.bool (qo (some l') q8)) w1)) := Lh fun w1 hb => tis_ (some l') _ q8 w.heap.size w1 ⟨A', n', c', l', false, rfl, hW.below (hb.mono hBX), rfl⟩ (Nat.le_trans hBX hb.size)
     cases s1 : qo (some l') vh with
     | true =>
      have e : Hid (qao (zY false l') = false) := Lh (by rw [show zY false l' = some l' from rfl, HC.out, show zj vh l' = true from s1]; simp)
      rw [s1] at HN1
      clear HC s1 HN2 hn hne
      go_wp2_with ((fail_if_success have := hb1); go_at_call 15; refine HN1.out.mono ?_; rintro e w1 ⟨rfl, hb1⟩; clear c0 c1 f0 f1; have R0 := R1.below hb1 R1.lt; obtain ⟨c0, c1, f0, f1⟩ := qm R0)
      go_meet
      exact ⟨by rw [e.out], hJ.on hb1⟩
     | false =>
      have e : Hid (qao (zY false l') = !(qo (some l') q8)) := Lh (by rw [show zY false l' = some l' from rfl, HC.out, show zj vh l' = false from s1]; simp [hne]; rfl)
      rw [s1] at HN1
      generalize qo (some l') q8 = s2 at *
      clear HC s1 hn hne
      go_wp2_with (first | ((fail_if_success have := hb1); go_at_call 15; refine HN1.out.mono ?_; rintro e w1 ⟨rfl, hb1⟩; clear c0 c1 f0 f1; have R0 := R1.below hb1 R1.lt; obtain ⟨c0, c1, f0, f1⟩ := qm R0) | (go_at_call 15; refine (HN2.out _ hb1).mono ?_; rintro e w2 ⟨rfl, hb2⟩))
      go_meet
      exact ⟨by rw [e.out], hJ.on (hb1.trans (hb2.mono hb1.size))⟩
  case rest =>
   clear hJ
   obtain ⟨rfl, hJ⟩ := hcut
   generalize hXw : wc = X at *
   clear hXw
   cases hcb : qao r with
   | true =>
    obtain ⟨l', rfl, hpos, hm, hd⟩ := qhr hcb
    have HR2 : Hid (R = goV f' (if vb (yi (some l')).1 = 0 then (yi (some l')).2 else none) (zE out ++ [(yi (some l')).1])) := Lh (by rw [HR1.out, goV_step hm hd])
    have hl' := (hok l' rfl).1
    have hsz := (hok l' rfl).2
    have HSm := Lh (qfE hok)
    have HLn : Hid (vb (yi (some l')).1 = 0 -> ∀ t, (yi (some l')).2 = some t -> t.length < l'.length) := Lh fun h0 t ht => chgQ_len hl' hsz h0 ht
    have HOk : Hid (OkR (yi (some l')).2) := Lh (chgQ_ok hok)
    have hlen' : out.length + l'.length <= 1000 := hlen
    have hfl := hf' l' rfl
    clear HR1 hcb hf' hlen hm hd hok
    obtain ⟨⟨A', n', c', l', bad', hr', hW, R1⟩, ho, hg, tx⟩ := id hJ
    obtain ⟨c0, c1, f0, f1⟩ := qm R1
    have z0 := R1.lt
    have hBX := tx.size
    cases bad' with
    | true => cases hr'
    | false =>
     replace c1 : X.cell? ⟨w.heap.size, 1, none⟩ = some (.bool true) := c1
     obtain rfl : l' = _ := by cases hr'; rfl
     have HCh := Lh (tchange_ l' A' n' c' X w.heap.size hW hBX hl' (HT.out.below tx))
     generalize yi (some l') = P at *
     obtain ⟨cg, rr⟩ := P
     dsimp only at HCh HR2 HSm HLn HOk
     go_upto_region 5 with (go_at_call 16; refine HCh.out.mono ?_; rintro e w3 ⟨Ag, cap, A1, n1, cc, lr, bad, rfl, hr, hW1, hb3, ho3⟩)
     refine qc (TK w w3.heap.size (some l') out Ao co cg Ag cap A1 n1 cc bad lr) (TK.new hJ hb3 hW1 ho3) ?_
     generalize w3.heap.size = gc at *
     clear c0 c1 f0 f1 z0 hBX ho hg hW R1 tx hr'
     clear hJ hb3 hW1 ho3 HCh
     intro Y hK
     obtain ⟨K1, K2, hJ, hW1, ho3, hgc⟩ := id hK
     obtain ⟨k0, k1, k2, k3, k4, k5, p0, p1, p2, p3, p4, p5⟩ := qr K1
     obtain ⟨m0, m1, q0, q1⟩ := qm K2
     have kz := K2.lt
     have kz1 := K1.lt
     have HCk := Lh (vcheck_ cg Ag cap Y.heap.size Y HSm.out.1 (Rd.of_own ho3) (Nat.le_refl _) HSm.out.2)
     by_cases hK0 : vb cg = 0
     ·rw [hK0] at HCk
      have HR3 : Hid (R = goV f' rr (zE (out ++ [⟨cg, Ag, cap⟩]))) := Lh (by rw [HR2.out, if_pos hK0]; unfold zE; rw [List.map_append]; rfl)
      have hlt := HLn.out hK0
      clear HR2 hK0 HLn HSm
      go_upto_region 7 with (go_at_call 17; refine HCk.out.mono ?_; rintro e w5 ⟨rfl, hb5⟩)
      refine qc (TK w gc (some l') out Ao co cg Ag cap A1 n1 cc bad lr) (hK.on hb5) ?_
      clear k0 k1 k2 k3 k4 k5 p0 p1 p2 p3 p4 p5 m0 m1 q0 q1 K1 K2 hJ hW1 ho3 hgc kz kz1
      clear hK hb5 HCk
      intro Z hK
      have hln1 : out.length + 1 + lenO rr <= 1000 := by
       cases rr with
       | none => show out.length + 1 + 0 <= 1000; omega
       | some t => have := hlt t rfl; show out.length + 1 + t.length <= 1000; omega
      obtain ⟨K1, K2, hJ, hW1, ho3, hgc⟩ := id hK
      obtain ⟨k0, k1, k2, k3, k4, k5, p0, p1, p2, p3, p4, p5⟩ := qr K1
      obtain ⟨m0, m1, q0, q1⟩ := qm K2
      have kz := K2.lt
      have kz1 := K1.lt
      obtain ⟨⟨A', n', c', lz, bad', hr', hW, R1⟩, ho, hg, tx⟩ := id hJ
      obtain ⟨c0, c1, f0, f1⟩ := qm R1
      have z0 := R1.lt
      have htz := tx.size
      go_wp2_with ((at_builtin; refine qh rfl _ _ _ rfl qfJ ((w.heap.size + 1)) _ rfl (qa ho ((Below.refl _ _).alloc (Nat.le_refl _) _)) _ _ rfl ((qe (xs := kr ⟨cg, Ag, cap⟩) rfl rfl)) (by first | rfl | exact qN _ | exact qO _) (by omega) (by omega) (by first | (simp; done) | (simp; omega) | omega) ?_; intro A9 c9 w9 qig qin qij hat9; have z9 := qin.size; (try simp only [World.size_alloc] at z9); (try simp only [Nat.zero_add, List.nil_append] at qig)); have hbA : Below Z.heap.size Z (Z.alloc (.cells (kr ⟨cg, Ag, cap⟩).toArray 34)) := (Below.refl _ _).alloc (Nat.le_refl _) _; have R9 := (R1.below hbA R1.lt).below qin (Nat.lt_succ_self _); have K9 := qce (K2.below hbA K2.lt) qij (qbS (K2.below hbA K2.lt) (qa ho hbA) (by decide)); clear f0 f1 m0 m1 c0 c1; obtain ⟨c0, c1, f0, f1⟩ := qm R9; obtain ⟨m0, m1, -, -⟩ := qm K9)
      have hJ9 := TJ.next (x := ⟨cg, Ag, cap⟩) hJ hW1 hr ho3 hbA qij qin qig
      refine ⟨⟨rr, out ++ [⟨cg, Ag, cap⟩], f', A9, c9, ?_, ?_, ?_, ?_, ?_, ?_⟩, ?_⟩
      ·rw [List.length_append]; rfl
      ·exact hJ9
      ·exact fun x e => by have := hlt x e; omega
      ·rw [List.length_append]; exact hln1
      ·exact HOk.out
      ·exact HR3
      ·exact Nat.lt_of_le_of_lt (Nat.le_of_eq hJ9.left) (lenT_lt hlt)
     ·have HR3 : Hid (R = goV f' none (zE (out ++ [⟨cg, Ag, cap⟩]))) := Lh (by rw [HR2.out, if_neg hK0]; rfl)
      have hKb : (vb cg != 0) = true := bne_iff_ne.2 hK0
      generalize vb cg = K at *
      clear HR2 hK0 HLn HSm HOk hr
      go_upto_region 6 with (go_at_call 17; refine HCk.out.mono ?_; rintro e w5 ⟨rfl, hb5⟩)
      refine qc (TK w gc (some l') out Ao co cg Ag cap A1 n1 cc bad lr) (hK.on hb5) ?_
      clear k0 k1 k2 k3 k4 k5 p0 p1 p2 p3 p4 p5 m0 m1 q0 q1 K1 K2 hJ hW1 ho3 hgc kz kz1
      clear hK hb5 HCk
      intro Y hK
      obtain ⟨K1, K2, hJ, hW1, ho3, hgc⟩ := id hK
      obtain ⟨k0, k1, k2, k3, k4, k5, p0, p1, p2, p3, p4, p5⟩ := qr K1
      obtain ⟨m0, m1, q0, q1⟩ := qm K2
      have kz := K2.lt
      have kz1 := K1.lt
      go_upto_region 7 with fail
      refine qc (TK w gc (some l') out Ao co cg Ag cap none 0 0 true []) hK.spoil ?_
      clear k0 k1 k2 k3 k4 k5 p0 p1 p2 p3 p4 p5 m0 m1 q0 q1 K1 K2 hJ hW1 ho3 hgc kz kz1
      clear hK
      intro Z hK
      have hln1 : out.length + 1 + lenO none <= 1000 := by show out.length + 1 + 0 <= 1000; omega
      obtain ⟨K1, K2, hJ, hW1, ho3, hgc⟩ := id hK
      obtain ⟨k0, k1, k2, k3, k4, k5, p0, p1, p2, p3, p4, p5⟩ := qr K1
      obtain ⟨m0, m1, q0, q1⟩ := qm K2
      have kz := K2.lt
      have kz1 := K1.lt
      obtain ⟨⟨A', n', c', lz, bad', hr', hW, R1⟩, ho, hg, tx⟩ := id hJ
      obtain ⟨c0, c1, f0, f1⟩ := qm R1
      have z0 := R1.lt
      have htz := tx.size
      go_wp2_with ((at_builtin; refine qh rfl _ _ _ rfl qfJ ((w.heap.size + 1)) _ rfl (qa ho ((Below.refl _ _).alloc (Nat.le_refl _) _)) _ _ rfl ((qe (xs := kr ⟨cg, Ag, cap⟩) rfl rfl)) (by first | rfl | exact qN _ | exact qO _) (by omega) (by omega) (by first | (simp; done) | (simp; omega) | omega) ?_; intro A9 c9 w9 qig qin qij hat9; have z9 := qin.size; (try simp only [World.size_alloc] at z9); (try simp only [Nat.zero_add, List.nil_append] at qig)); have hbA : Below Z.heap.size Z (Z.alloc (.cells (kr ⟨cg, Ag, cap⟩).toArray 34)) := (Below.refl _ _).alloc (Nat.le_refl _) _; have R9 := (R1.below hbA R1.lt).below qin (Nat.lt_succ_self _); have K9 := qce (K2.below hbA K2.lt) qij (qbS (K2.below hbA K2.lt) (qa ho hbA) (by decide)); clear f0 f1 m0 m1 c0 c1; obtain ⟨c0, c1, f0, f1⟩ := qm R9; obtain ⟨m0, m1, -, -⟩ := qm K9)
      have hJ9 := TJ.next (x := ⟨cg, Ag, cap⟩) hJ hW1 (show (none : Option (List ByteArray)) = zY true [] from rfl) ho3 hbA qij qin qig
      refine ⟨⟨none, out ++ [⟨cg, Ag, cap⟩], f', A9, c9, ?_, ?_, ?_, ?_, ?_, ?_⟩, ?_⟩
      ·rw [List.length_append]; rfl
      ·exact hJ9
      ·exact fun x e => by cases e
      ·rw [List.length_append]; exact hln1
      ·exact fun x e => by cases e
      ·exact HR3
      ·exact Nat.lt_of_le_of_lt (Nat.le_of_eq hJ9.left) (Nat.succ_pos _)
   | false =>
    as_aux_lemma =>
    have HR2 : Hid (R = (endV r).map fun n => (zE out, n)) := Lh (by rw [HR1.out, goV_end (contB_no hcb)])
    clear HR1 hcb hf' hlen hok
    obtain ⟨E, hE⟩ : ∃ E, Hid (E = endT r) := ⟨_, Lh rfl⟩
    have HR3 : Hid (R = (E.2.bind fun t => if t = [] then some E.1 else none).map fun n => (zE out, n)) := Lh (by rw [HR2.out, endV, hE.out])
    clear HR2
    go_upto_block 2 with fail
    go_cut [9] (fun v wx => v = .int .i64 E.1 /\ TJ w E.2 out Ao co wx)
    case first =>
     as_aux_lemma =>
     clear HR3
     obtain ⟨s1, hs1⟩ : ∃ b, Hid (b = qo r vh) := ⟨_, Lh rfl⟩
     obtain ⟨⟨A', n', c', l', bad', hr', hW, R1⟩, ho, hg, tx⟩ := id hJ
     obtain ⟨c0, c1, f0, f1⟩ := qm R1
     have z0 := R1.lt
     have hBX := tx.size
     have HN := Lh (tis_ r (.agg #[.slice A' n' c', .bool (!bad')]) vh w.heap.size X ⟨A', n', c', l', bad', rfl, hW, hr'⟩ hBX)
     rw [<- hs1.out] at HN
     cases s1 with
     | true =>
      have hE2 : Hid (E = (0, r.bind (skO vh))) := Lh (by rw [hE.out, endT, <- hs1.out]; rfl)
      clear hE hs1
      go_upto_region 15 with ((fail_if_success have := hb1); go_at_call 15; refine HN.out.mono ?_; rintro e w1 ⟨rfl, hb1⟩; clear c0 c1 f0 f1; have R0 := R1.below hb1 R1.lt; obtain ⟨c0, c1, f0, f1⟩ := qm R0)
      clear HN
      refine qc (TJ w r out Ao co) (hJ.on hb1) ?_
      clear c0 c1 f0 f1 z0 hBX ho hg hW R1 tx hr'
      clear hJ
      (try clear hb1 R0)
      (try clear hW1 hr1)
      intro X hJ
      obtain ⟨⟨A', n', c', l', bad', hr', hW, R1⟩, ho, hg, tx⟩ := id hJ
      obtain ⟨c0, c1, f0, f1⟩ := qm R1
      have z0 := R1.lt
      have hBX := tx.size
      have HK := Lh (kU r (.agg #[.slice A' n' c', .bool (!bad')]) vh w.heap.size X ⟨A', n', c', l', bad', rfl, hW, hr'⟩ hBX)
      go_wp2_with (go_at_call 18; refine HK.out.mono ?_; rintro e w1 ⟨A1, n1, cc, l1, qim, rfl, hW1, hr1, hb1⟩; clear c0 c1 f0 f1; have R0 := R1.below hb1 R1.lt; obtain ⟨c0, c1, f0, f1⟩ := qm R0)
      go_meet
      rw [hE2.out]
      exact ⟨rfl, (hJ.on hb1).turn hW1 hr1⟩
     | false =>
      have hE1 : Hid (E = if qo r q8 = true /\ lenO r = 1 then (1, r.bind (skO q8)) else ((zc (r.bind (skO q8))).1, if (zc (r.bind (skO q8))).1 < 2 then none else (zc (r.bind (skO q8))).2.bind (skO zy))) := Lh (by rw [hE.out, endT, <- hs1.out]; rfl)
      clear hE hs1
      go_upto_region 16 with ((fail_if_success have := hb1); go_at_call 15; refine HN.out.mono ?_; rintro e w1 ⟨rfl, hb1⟩; clear c0 c1 f0 f1; have R0 := R1.below hb1 R1.lt; obtain ⟨c0, c1, f0, f1⟩ := qm R0)
      clear HN
      refine qc (TJ w r out Ao co) (hJ.on hb1) ?_
      clear c0 c1 f0 f1 z0 hBX ho hg hW R1 tx hr'
      clear hJ
      (try clear hb1 R0)
      (try clear hW1 hr1)
      intro X hJ
      obtain ⟨⟨A', n', c', l', bad', hr', hW, R1⟩, ho, hg, tx⟩ := id hJ
      obtain ⟨c0, c1, f0, f1⟩ := qm R1
      have z0 := R1.lt
      have hBX := tx.size
      have HN := Lh (tis_ r (.agg #[.slice A' n' c', .bool (!bad')]) q8 w.heap.size X ⟨A', n', c', l', bad', rfl, hW, hr'⟩ hBX)
      have hln := hW.len
      obtain ⟨s2, hs2⟩ : ∃ b, Hid (b = qo r q8) := ⟨_, Lh rfl⟩
      rw [<- hs2.out] at HN hE1
      have HL1 : Hid (s2 = true -> lenO r = n') := Lh fun h => by
       rw [hs2.out] at h
       rw [hr'] at h ⊢
       cases bad' with
       | true => cases h
       | false => exact hln
      by_cases hc : s2 = true /\ lenO r = 1
      ·as_aux_lemma =>
       have hE2 : Hid (E = (1, r.bind (skO q8))) := Lh (by rw [hE1.out, if_pos hc])
       have hn1 : n' = 1 := by rw [<- HL1.out hc.1]; exact hc.2
       obtain rfl := hc.1
       have hni : ((n' : Int) == 1) = true := by rw [hn1]; rfl
       clear hE1 hs2 HL1 hc hln hn1
       go_upto_region 17 with ((fail_if_success have := hb1); go_at_call 15; refine HN.out.mono ?_; rintro e w1 ⟨rfl, hb1⟩; clear c0 c1 f0 f1; have R0 := R1.below hb1 R1.lt; obtain ⟨c0, c1, f0, f1⟩ := qm R0)
       clear HN hni
       refine qc (TJ w r out Ao co) (hJ.on hb1) ?_
       clear c0 c1 f0 f1 z0 hBX ho hg hW R1 tx hr'
       clear hJ
       (try clear hb1 R0)
       (try clear hW1 hr1)
       intro X hJ
       obtain ⟨⟨A', n', c', l', bad', hr', hW, R1⟩, ho, hg, tx⟩ := id hJ
       obtain ⟨c0, c1, f0, f1⟩ := qm R1
       have z0 := R1.lt
       have hBX := tx.size
       have HK := Lh (kU r (.agg #[.slice A' n' c', .bool (!bad')]) q8 w.heap.size X ⟨A', n', c', l', bad', rfl, hW, hr'⟩ hBX)
       go_wp2_with (go_at_call 18; refine HK.out.mono ?_; rintro e w1 ⟨A1, n1, cc, l1, qim, rfl, hW1, hr1, hb1⟩; clear c0 c1 f0 f1; have R0 := R1.below hb1 R1.lt; obtain ⟨c0, c1, f0, f1⟩ := qm R0)
       go_meet
       rw [hE2.out]
       exact ⟨rfl, (hJ.on hb1).turn hW1 hr1⟩
      ·as_aux_lemma =>
       have hE2 : Hid (E = ((zc (r.bind (skO q8))).1, if (zc (r.bind (skO q8))).1 < 2 then none else (zc (r.bind (skO q8))).2.bind (skO zy))) := Lh (by rw [hE1.out, if_neg hc])
       have HN2 : Hid (s2 = true -> ((n' : Int) == 1) = false) := Lh fun h => beq_eq_false_iff_ne.2 fun e => hc ⟨h, by rw [HL1.out h]; omega⟩
       clear hE1 hs2 HL1 hc hln
       cases s2 with
       | false =>
        go_upto_region 10 with ((fail_if_success have := hb1); go_at_call 15; refine HN.out.mono ?_; rintro e w1 ⟨rfl, hb1⟩; clear c0 c1 f0 f1; have R0 := R1.below hb1 R1.lt; obtain ⟨c0, c1, f0, f1⟩ := qm R0)
        clear HN HN2
        refine qc (TJ w r out Ao co) (hJ.on hb1) ?_
        clear c0 c1 f0 f1 z0 hBX ho hg hW R1 tx hr'
        clear hJ
        (try clear hb1 R0)
        (try clear hW1 hr1)
        intro X hJ
        obtain ⟨⟨A', n', c', l', bad', hr', hW, R1⟩, ho, hg, tx⟩ := id hJ
        obtain ⟨c0, c1, f0, f1⟩ := qm R1
        have z0 := R1.lt
        have hBX := tx.size
        obtain ⟨x, hx⟩ : ∃ x, Hid (x = zc (r.bind (skO q8))) := ⟨_, Lh rfl⟩
        have hE3 : Hid (E = (x.1, if x.1 < 2 then none else x.2.bind (skO zy))) := Lh (by rw [hE2.out, hx.out])
        have HU := Lh (qbW r (.agg #[.slice A' n' c', .bool (!bad')]) q8 w.heap.size X ⟨A', n', c', l', bad', rfl, hW, hr'⟩ hBX (HT.out.below tx))
        rw [<- hx.out] at HU
        clear hE2 hx
        go_upto_region 11 with (go_at_call 19; refine HU.out.mono ?_; rintro e w1 ⟨A1, n1, cc, l1, qim, rfl, hW1, hr1, hb1⟩; clear c0 c1 f0 f1; have R0 := R1.below hb1 R1.lt; obtain ⟨c0, c1, f0, f1⟩ := qm R0)
        clear HU
        refine qc (TJ w x.2 out Ao co) ((hJ.on hb1).turn hW1 hr1) ?_
        clear c0 c1 f0 f1 z0 hBX ho hg hW R1 tx hr'
        clear hJ
        (try clear hb1 R0)
        (try clear hW1 hr1)
        intro X hJ
        obtain ⟨⟨A', n', c', l', bad', hr', hW, R1⟩, ho, hg, tx⟩ := id hJ
        obtain ⟨c0, c1, f0, f1⟩ := qm R1
        have z0 := R1.lt
        have hBX := tx.size
        have HK := Lh (kU x.2 (.agg #[.slice A' n' c', .bool (!bad')]) zy w.heap.size X ⟨A', n', c', l', bad', rfl, hW, hr'⟩ hBX)
        go_upto_region 12 with (go_at_call 18; refine HK.out.mono ?_; rintro e w1 ⟨A1, n1, cc, l1, qim, rfl, hW1, hr1, hb1⟩; clear c0 c1 f0 f1; have R0 := R1.below hb1 R1.lt; obtain ⟨c0, c1, f0, f1⟩ := qm R0)
        clear HK
        refine qc (TJ w (x.2.bind (skO zy)) out Ao co) ((hJ.on hb1).turn hW1 hr1) ?_
        clear c0 c1 f0 f1 z0 hBX ho hg hW R1 tx hr'
        clear hJ
        (try clear hb1 R0)
        (try clear hW1 hr1)
        intro X hJ
        obtain ⟨⟨A', n', c', l', bad', hr', hW, R1⟩, ho, hg, tx⟩ := id hJ
        obtain ⟨c0, c1, f0, f1⟩ := qm R1
        have z0 := R1.lt
        have hBX := tx.size
        obtain ⟨xn, xr⟩ := x
        dsimp only at *
        by_cases h2 : xn < 2
        ·go_wp2
         go_meet
         rw [hE3.out, if_pos h2]
         exact ⟨rfl, hJ.turn (bad := true) (lr := []) (WdR.nil X _) rfl⟩
        ·go_wp2
         go_meet
         rw [hE3.out, if_neg (show ¬ xn < 2 by omega)]
         exact ⟨rfl, hJ⟩
       | true =>
        have hni := HN2.out rfl
        go_upto_region 10 with ((fail_if_success have := hb1); go_at_call 15; refine HN.out.mono ?_; rintro e w1 ⟨rfl, hb1⟩; clear c0 c1 f0 f1; have R0 := R1.below hb1 R1.lt; obtain ⟨c0, c1, f0, f1⟩ := qm R0)
        clear HN HN2 hni
        refine qc (TJ w r out Ao co) (hJ.on hb1) ?_
        clear c0 c1 f0 f1 z0 hBX ho hg hW R1 tx hr'
        clear hJ
        (try clear hb1 R0)
        (try clear hW1 hr1)
        intro X hJ
        obtain ⟨⟨A', n', c', l', bad', hr', hW, R1⟩, ho, hg, tx⟩ := id hJ
        obtain ⟨c0, c1, f0, f1⟩ := qm R1
        have z0 := R1.lt
        have hBX := tx.size
        obtain ⟨x, hx⟩ : ∃ x, Hid (x = zc (r.bind (skO q8))) := ⟨_, Lh rfl⟩
        have hE3 : Hid (E = (x.1, if x.1 < 2 then none else x.2.bind (skO zy))) := Lh (by rw [hE2.out, hx.out])
        have HU := Lh (qbW r (.agg #[.slice A' n' c', .bool (!bad')]) q8 w.heap.size X ⟨A', n', c', l', bad', rfl, hW, hr'⟩ hBX (HT.out.below tx))
        rw [<- hx.out] at HU
        clear hE2 hx
        go_upto_region 11 with (go_at_call 19; refine HU.out.mono ?_; rintro e w1 ⟨A1, n1, cc, l1, qim, rfl, hW1, hr1, hb1⟩; clear c0 c1 f0 f1; have R0 := R1.below hb1 R1.lt; obtain ⟨c0, c1, f0, f1⟩ := qm R0)
        clear HU
        refine qc (TJ w x.2 out Ao co) ((hJ.on hb1).turn hW1 hr1) ?_
        clear c0 c1 f0 f1 z0 hBX ho hg hW R1 tx hr'
        clear hJ
        (try clear hb1 R0)
        (try clear hW1 hr1)
        intro X hJ
        obtain ⟨⟨A', n', c', l', bad', hr', hW, R1⟩, ho, hg, tx⟩ := id hJ
        obtain ⟨c0, c1, f0, f1⟩ := qm R1
        have z0 := R1.lt
        have hBX := tx.size
        have HK := Lh (kU x.2 (.agg #[.slice A' n' c', .bool (!bad')]) zy w.heap.size X ⟨A', n', c', l', bad', rfl, hW, hr'⟩ hBX)
        go_upto_region 12 with (go_at_call 18; refine HK.out.mono ?_; rintro e w1 ⟨A1, n1, cc, l1, qim, rfl, hW1, hr1, hb1⟩; clear c0 c1 f0 f1; have R0 := R1.below hb1 R1.lt; obtain ⟨c0, c1, f0, f1⟩ := qm R0)
        clear HK
        refine qc (TJ w (x.2.bind (skO zy)) out Ao co) ((hJ.on hb1).turn hW1 hr1) ?_
        clear c0 c1 f0 f1 z0 hBX ho hg hW R1 tx hr'
        clear hJ
        (try clear hb1 R0)
        (try clear hW1 hr1)
        intro X hJ
        obtain ⟨⟨A', n', c', l', bad', hr', hW, R1⟩, ho, hg, tx⟩ := id hJ
        obtain ⟨c0, c1, f0, f1⟩ := qm R1
        have z0 := R1.lt
        have hBX := tx.size
        obtain ⟨xn, xr⟩ := x
        dsimp only at *
        by_cases h2 : xn < 2
        ·go_wp2
         go_meet
         rw [hE3.out, if_pos h2]
         exact ⟨rfl, hJ.turn (bad := true) (lr := []) (WdR.nil X _) rfl⟩
        ·go_wp2
         go_meet
         rw [hE3.out, if_neg (show ¬ xn < 2 by omega)]
         exact ⟨rfl, hJ⟩
    case rest =>
     as_aux_lemma =>
     clear hJ hE
     obtain ⟨rfl, hJ⟩ := hcut
     obtain ⟨N, r3⟩ := E
     dsimp only at hJ HR3
     obtain ⟨⟨A', n', c', l', bad', hr', hW, R1⟩, ho, hg, tx⟩ := id hJ
     obtain ⟨c0, c1, f0, f1⟩ := qm R1
     have z0 := R1.lt
     have hBX := tx.size
     have hln := hW.len
     cases bad' with
     | true =>
      replace c1 : wc.cell? ⟨w.heap.size, 1, none⟩ = some (.bool false) := c1
      have HR4 : Hid (R = none) := Lh (by rw [HR3.out, hr']; rfl)
      clear HR3 hr'
      go_wp2
      go_ret3
      rw [HR4.out]
      exact ⟨tx.alloc hBX _, _, rfl⟩
     | false =>
      replace c1 : wc.cell? ⟨w.heap.size, 1, none⟩ = some (.bool true) := c1
      by_cases hn : n' = 0
      ·have HR4 : Hid (R = some (zE out, N)) := Lh (by rw [HR3.out, hr', List.length_eq_zero_iff.1 (hln.trans hn)]; rfl)
       subst hn
       clear HR3 hr'
       go_wp2
       go_ret3
       rw [HR4.out]
       exact ⟨tx, out, Ao, co, rfl, rfl, qq ho (by omega), hg.less (by omega)⟩
      ·have hne : l' ≠ [] := fun e => hn (by rw [<- hln, e]; rfl)
       have HR4 : Hid (R = none) := Lh (by rw [HR3.out, hr']; show ((if l' = [] then some N else none).map _) = none; rw [if_neg hne]; rfl)
       have hi : (0 : Int) < n' := by omega
       clear HR3 hr' hn hne
       go_wp2
       go_ret3
       rw [HR4.out]
       exact ⟨tx.alloc hBX _, _, rfl⟩
end Go.Proofs.YtlndbiamiioakaaGreatDoor
namespace Go.Proofs.YtlndbiamiioakaaGreatDoor
open Go.Proofs.Tryz Go.RowKit
set_option maxRecDepth 20000
theorem law_UtteranceChanges (w : World) (hg : Gd w /\ Tb w) (A : Option Addr) (n c : Nat) (l : List ByteArray) (hn : l.length = n) (hc : n <= c) (hm : c <= maxLen) (rd : Rd w w.heap.size 1 A n (sv l)) (hs : ∀ s ∈ l, s.size <= maxLen) :
  Calls prog 3 #[.slice A n c] w (qg (.bool true) w) := by
 subst hn
 obtain ⟨hg, ht⟩ := hg
 have HA : Hid (∀ X, Below w.heap.size w X -> Calls prog 5 #[] X fun e X' => e = .returned (.bool true) /\ Below w.heap.size w X' /\ Below X.heap.size X X') := Lh fun X hX => bothG (awake41_ X (hg.below hX)) hX
 have HSh : Hid (∀ X, Below w.heap.size w X -> Calls prog 4 #[.slice A l.length c] X fun e X' => e = .returned (.bool (qaz 100 40 l)) /\ Below w.heap.size w X' /\ Below X.heap.size X X') := Lh fun X hX => bothS (short41_ l A _ c w.heap.size X (by omega) (rd.below hX)) hX
 have hb0 : Below w.heap.size w w := Below.refl _ _
 by_cases hf : qaz 100 40 l = true
 ·rw [hf] at HSh
  obtain ⟨h1, h2⟩ := qfx hf
  have hWd : ∀ X, Below w.heap.size w X -> WdR X X.heap.size l A l.length c := fun X hX => ⟨rfl, hc, hm, (rd.below hX).more hX.size, fun s hs => Nat.le_trans (h2 s hs) (by decide)⟩
  have HC : Hid (∀ X, Below w.heap.size w X -> Calls prog 6 #[.slice A l.length c] X fun e X' => ChR (jn l) X e X' /\ Below w.heap.size w X' /\ Below X.heap.size X X') := Lh fun X hX => by
   have hg' := hg.below hX
   exact (qdk l A _ c X (hWd X hX) (by omega) hg'.1 hg'.2.1 hg'.2.2).mono fun e X' h => ⟨h, hX.trans (h.1.mono hX.size), h.1⟩
  have HR : Hid (∀ X, Below w.heap.size w X -> Calls prog 7 #[.slice A l.length c] X fun e X' => TcR (jn l) X e X' /\ Below w.heap.size w X' /\ Below X.heap.size X X') := Lh fun X hX =>
   (qhT l A _ c X (hWd X hX) (by omega) (ht.below hX)).mono fun e X' h => ⟨h, hX.trans (h.1.mono hX.size), h.1⟩
  cases hch : jn l with
  | none =>
   rw [hch] at HC HR
   have HSm : Hid (∀ X, Below w.heap.size w X -> ∀ A3, Calls prog 8 #[.slice none 0 0, .slice A3 0 0] X fun e X' => e = .returned (.bool true) /\ Below w.heap.size w X' /\ Below X.heap.size X X') := Lh fun X hX A3 => by
    have h := qd2 [] [] none A3 0 0 0 0 X.heap.size X (by omega) ⟨Rd.none_, fun x hx => by cases hx⟩ ⟨⟨rfl, fun h => absurd h (Nat.lt_irrefl _)⟩, fun x hx => by cases hx⟩ (Nat.le_refl _) fun x hx => by cases hx
    rw [decide_eq_true rfl] at h
    exact bothG h hX
   clear hf h1 h2 rd hg ht hs hch hWd
   go_enter func3, ntmps3
   go_wp2_with (first
    | (go_at_call 4; refine (HSh.out _ hb0).mono ?_; rintro e w1 ⟨rfl, hb1, hx1⟩)
    | ((fail_if_success have := hb2); go_at_call 6; refine (HC.out _ hb1).mono ?_; rintro e w2 ⟨⟨-, rfl⟩, hb2, hx2⟩)
    | (go_at_call 7; refine (HR.out _ hb2).mono ?_; rintro e w3 ⟨⟨-, A3, rfl⟩, hb3, hx3⟩)
    | (go_at_call 8; refine (HSm.out _ hb3 _).mono ?_; rintro e w4 ⟨rfl, hb4, hx4⟩)
    | (go_at_call 5; refine (HA.out _ (by assumption)).mono ?_; rintro e wa ⟨rfl, hba, hxa⟩))
   go_ret
   exact ⟨rfl, hba⟩
  | some x =>
   obtain ⟨M, K⟩ := x
   rw [hch] at HC HR
   have hcnt := qcL hch
   have HC2 : Hid (∀ X, Below w.heap.size w X -> Calls prog 6 #[.slice A l.length c] X fun e X' => (∃ out A3 c3, zE out = M /\ e = .returned (.tuple #[.slice A3 out.length c3, .int .i64 K, .int .i64 0]) /\ RdC X' X'.heap.size A3 out.length out) /\ Below w.heap.size w X' /\ Below X.heap.size X X') := Lh fun X hX =>
    (HC.out X hX).mono fun e X' ⟨⟨hb, h⟩, h'⟩ => by
     obtain ⟨out, A3, c3, h1, h2, h3, h4⟩ := h
     exact ⟨⟨out, A3, c3, h1, h2, h4.rdc h3⟩, h'⟩
   have HR2 : Hid (∀ X, Below w.heap.size w X -> Calls prog 7 #[.slice A l.length c] X fun e X' => (∃ out A3 c3, zE out = M /\ e = .returned (.tuple #[.slice A3 out.length c3, .int .i64 K, .int .i64 0]) /\ RdC X' X'.heap.size A3 out.length out) /\ Below w.heap.size w X' /\ Below X.heap.size X X') := Lh fun X hX =>
    (HR.out X hX).mono fun e X' ⟨⟨hb, h⟩, h'⟩ => by
     obtain ⟨out, A3, c3, h1, h2, h3, h4⟩ := h
     exact ⟨⟨out, A3, c3, h1, h2, h4.rdc h3⟩, h'⟩
   have HSm : Hid (∀ X, Below w.heap.size w X -> ∀ (out out' : List ChgM) A2 c2 A3 c3, zE out = M -> RdC X X.heap.size A2 out.length out -> zE out' = M -> RdC X X.heap.size A3 out'.length out' -> Calls prog 8 #[.slice A2 out.length c2, .slice A3 out'.length c3] X fun e X' => e = .returned (.bool true) /\ Below w.heap.size w X' /\ Below X.heap.size X X') := Lh fun X hX out out' A2 c2 A3 c3 ho hr ho' hr' => by
    have hlo : out.length = M.length := by rw [<- ho, yC]
    have h := qd2 out out' A2 A3 out.length out'.length c2 c3 X.heap.size X (by omega) hr hr' (Nat.le_refl _) fun x hx => by
     have hxc : x.c ∈ M := by rw [<- ho]; exact List.mem_map_of_mem hx
     have := (qfH ((qcF hch).1 x.c hxc)).1
     omega
    rw [decide_eq_true (ho.trans ho'.symm)] at h
    exact bothG h hX
   clear hf h1 h2 rd hg ht hs hch hWd hcnt HC HR
   have HC := HC2
   have HR := HR2
   clear HC2 HR2
   go_enter func3, ntmps3
   go_wp2_with (first
    | (go_at_call 4; refine (HSh.out _ hb0).mono ?_; rintro e w1 ⟨rfl, hb1, hx1⟩)
    | ((fail_if_success have := hb2); go_at_call 6; refine (HC.out _ hb1).mono ?_; rintro e w2 ⟨⟨out, A2, c2, hout, rfl, hrc⟩, hb2, hx2⟩)
    | (go_at_call 7; refine (HR.out _ hb2).mono ?_; rintro e w3 ⟨⟨out', A3, c3, hout', rfl, hrc'⟩, hb3, hx3⟩; have hrd := (hrc.below hx3).more hx3.size)
    | (go_at_call 8; refine (HSm.out _ hb3 _ _ _ _ _ _ hout hrd hout' hrc').mono ?_; rintro e w4 ⟨rfl, hb4, hx4⟩)
    | (go_at_call 5; refine (HA.out _ (by assumption)).mono ?_; rintro e wa ⟨rfl, hba, hxa⟩))
   go_ret
   exact ⟨rfl, hba⟩
 ·have hf' : qaz 100 40 l = false := by simpa using hf
  rw [hf'] at HSh
  clear hf hf' rd hg ht hs
  go_enter func3, ntmps3
  go_wp2_with (first | (go_at_call 4; refine (HSh.out _ hb0).mono ?_; rintro e w1 ⟨rfl, hb1, hx1⟩) | (go_at_call 5; refine (HA.out _ (by assumption)).mono ?_; rintro e wa ⟨rfl, hba, hxa⟩))
  go_ret
  exact ⟨rfl, hba⟩
end Go.Proofs.YtlndbiamiioakaaGreatDoor
