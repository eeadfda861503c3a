/- Joined texts: Bk2, Bk3. -/
import Derived.Test.YtejjfiipghcifaaGreatDoorQAP
import Derived.Test.YtejjfiipghcifaaGreatDoorQAV
set_option linter.unusedVariables false
set_option linter.unusedSimpArgs false
set_option linter.unnecessarySimpa false
namespace Go.Proofs.YtejjfiipghcifaaGreatDoor
open Go.RowKit
set_option maxRecDepth 20000
theorem enc_bytN {rs : List Nat} (h : ∀ r ∈ rs, isChN r) : bytN (encS rs) = encL_ rs := by
 unfold encS
 show List.map UInt8.toNat (List.toArray _).toList = _
 rw [List.map_map]
 refine (List.map_congr_left (g := id) fun b hb => ?_).trans (List.map_id _)
 have := encL_lt h b hb
 simp
 omega
theorem enc_chars {rs : List Nat} (h : ∀ r ∈ rs, isChN r) : charsL (bytN (encS rs)) = rs := by rw [enc_bytN h, charsL_enc h]
theorem enc_valid {rs : List Nat} (h : ∀ r ∈ rs, isChN r) : validB (encS rs) = true := (encS_valid _).1 (by rw [enc_chars h])
theorem enc_one (r : Nat) : encS [r] = encB r := by
 unfold encS encB encL_
 simp only [List.flatMap_cons, List.flatMap_nil, List.append_nil]
theorem enc_snoc (a : List Nat) (m : Nat) : encS (a ++ [m]) = encS a ++ encB m := by
 apply ByteArray.ext
 rw [ByteArray.data_append]
 apply Array.toList_inj.1
 unfold encS encB encL_
 simp
theorem check_enc {r : Nat} {pre : List Nat} (h : ∀ x ∈ r :: pre, isChN x) (hw : 1 ≤ widL (r : Int)) (hm : ∀ x ∈ pre, inT markT (x : Int) = true) (hl : pre.length ≤ 3) : checkC (encS (r :: pre)) = 0 :=
 checkC_zero.2 ⟨enc_valid h, r, pre, enc_chars h, hw, List.all_eq_true.2 hm, hl⟩
theorem attach_enc {r m : Nat} {pre : List Nat} (h : ∀ x ∈ r :: pre, isChN x) (hw : 1 ≤ widL (r : Int)) (hm : ∀ x ∈ pre, inT markT (x : Int) = true) (hl : pre.length < 3) (hmm : inT markT (m : Int) = true) :
  attachC (encS (r :: pre)) (m : Int) = (encS (r :: pre ++ [m]), 0) := by
 unfold attachC
 rw [if_neg (by rw [check_enc h hw hm (by omega)]; simp), if_neg (by rw [hmm]; simp), enc_chars h, if_neg (by rw [List.length_cons]; omega), Int.toNat_natCast, enc_snoc]
theorem mark_wid {m : Nat} (h : inT markT (m : Int) = true) : widL (m : Int) = 0 := by
 have hlow : ∀ p ∈ markT, 160 ≤ p.1 := by decide +kernel
 have : 160 ≤ (m : Int) := by
  unfold inT at h
  obtain ⟨p, hp, h⟩ := List.any_eq_true.1 h
  simp only [Bool.and_eq_true, decide_eq_true_eq] at h
  have := hlow p hp
  omega
 unfold widL
 rw [if_neg (by omega), if_pos h]
theorem isNumW_iff {s : ByteArray} : isNumW s = true ↔ ∃ j, j < 32 ∧ wb j = s := by
 unfold isNumW
 rw [List.any_eq_true]
 simp
theorem NoNum.of {a : ByteArray} (h : isNumW a = false) (t : List ByteArray) : NoNum (a :: t) := by
 intro x t' e j hj he
 injection e with e _
 subst e
 have := isNumW_iff.2 ⟨j, hj, he⟩
 rw [h] at this
 cases this
def ChW (r : Int) (W R : List ByteArray) : Prop := (r = 32 ∧ W = [bSpace]) ∨ (isCharB r = true ∧ W = spellL r ∧ (isNumW (W.getLastD ⟨#[]⟩) = true → NoNum R))
theorem words_last {n : Int} (h1 : -999999999 ≤ n) (h2 : n ≤ 999999999) (c : ByteArray) : isNumW ((c :: (wordsL n).map wb).getLastD ⟨#[]⟩) = true := by
 have hpos : 0 < (wordsL n).length := by
  rcases wordsL_pos n with h | h
  ·exact h
  ·omega
 rw [List.getLastD_cons]
 obtain ⟨a, l, hl⟩ : ∃ a l, (wordsL n).map wb = l ++ [a] := by
  have hne : (wordsL n).map wb ≠ [] := by rw [← List.length_pos_iff, List.length_map]; exact hpos
  exact ⟨_, _, (List.dropLast_concat_getLast hne).symm⟩
 rw [hl, List.getLastD_concat]
 have : a ∈ (wordsL n).map wb := by rw [hl]; simp
 obtain ⟨j, hj, rfl⟩ := List.mem_map.1 this
 exact isNumW_iff.2 ⟨j, sg_words_lt n h1 h2 j hj, rfl⟩
theorem ChW.back {r : Int} {W R : List ByteArray} (h : ChW r W R) : charW (W ++ R) = some (r, W.length) := by
 rcases h with ⟨rfl, rfl⟩ | ⟨hr, rfl, hn⟩
 ·show charW (bSpace :: R) = _
  rw [charW, if_pos rfl]
  rfl
 ·have hnb : ∀ i : Fin 32, nb i.val ≠ bSpace := by decide +kernel
  cases hi : sIdxI r with
  | some i =>
   have e : spellL r = [nb i] := by unfold spellL; rw [hi]
   obtain ⟨a, b, _⟩ := sIdxI_some hi
   rw [e]
   show charW (nb i :: R) = _
   rw [charW, if_neg (hnb ⟨i, a⟩), unspellL, nIdx_nb i a]
   simp only [List.length_cons, List.length_nil]
   rw [b]
  | none =>
   have e : spellL r = cB :: (wordsL r).map wb := by unfold spellL; rw [hi]; simp only [hr, if_true]
   obtain ⟨a, b⟩ := char_range hr
   have hR : NoNum R := hn (by rw [e]; exact words_last (by omega) (by omega) _)
   have := unspell_spell hr hR
   rw [e] at this ⊢
   rw [List.cons_append, charW, if_neg (by decide +kernel), ← List.cons_append]
   exact this
theorem ChW.head {r : Int} {W R : List ByteArray} (h : ChW r W R) : ∃ a t, W = a :: t ∧ NoSty a ∧ NoLit a ∧ isNumW a = false ∧ a ≠ bTimes := by
 have hnb : ∀ i : Fin 32, isNumW (nb i.val) = false ∧ nb i.val ≠ bTimes := by decide +kernel
 rcases h with ⟨rfl, rfl⟩ | ⟨hr, rfl, hn⟩
 ·exact ⟨_, _, rfl, NoSty.space, NoLit.space, by decide +kernel, by decide +kernel⟩
 ·cases hi : sIdxI r with
  | some i =>
   have e : spellL r = [nb i] := by unfold spellL; rw [hi]
   obtain ⟨a, _⟩ := sIdxI_some hi
   exact ⟨_, _, e, NoSty.nb a, NoLit.nb a, (hnb ⟨i, a⟩).1, (hnb ⟨i, a⟩).2⟩
  | none =>
   have e : spellL r = cB :: (wordsL r).map wb := by unfold spellL; rw [hi]; simp only [hr, if_true]
   exact ⟨_, _, e, NoSty.cB, NoLit.cB, by decide +kernel, by decide +kernel⟩
theorem read_char {r : Int} {W R : List ByteArray} (h : ChW r W R) {O O' : List Gl} {st : Int} (ha : addL O st r 1 = (true, O')) (J : Bool) :
  partL ⟨W ++ R, O, st, J⟩ = some ⟨R, O', st, false⟩ := by
 obtain ⟨a, t, e, h1, h2, _, _⟩ := h.head
 have hw : (⟨W ++ R, O, st, J⟩ : Prs).words = a :: (t ++ R) := by rw [e]; rfl
 refine part_sign (styled_none hw h1) (NoLit.word hw h2) (NoLit.fig hw h2) ?_
 unfold signL
 simp only
 rw [h.back]
 simp only
 rw [ha, if_pos rfl, drop_app _ _ _ rfl]
theorem add_wide {O : List Gl} {st : Int} {r n : Nat} (h : 1 ≤ widL (r : Int)) : addL O st (r : Int) n = (true, O ++ List.replicate n ⟨encB r, decide (widL (r : Int) = 2), st⟩) := by
 unfold addL
 rw [if_neg (by omega), if_neg (by omega), Int.toNat_natCast]
theorem read_times {n : Nat} (h2 : 2 ≤ n) (hn : n ≤ 132) {r : Nat} {W R : List ByteArray} (h : ChW (r : Int) W R) (hw : 1 ≤ widL (r : Int)) (O : List Gl) (st : Int) (J : Bool) :
  partL ⟨numW n ++ [bTimes] ++ W ++ R, O, st, J⟩ = some ⟨R, O ++ List.replicate n ⟨encB r, decide (widL (r : Int) = 2), st⟩, st, false⟩ := by
 obtain ⟨j, t, hj, e⟩ := numW_cons n (by omega)
 have hl : (numW n).length = (wordsL (n : Int)).length := by unfold numW; rw [List.length_map]
 have hT : NoNum (bTimes :: (W ++ R)) := NoNum.of (by decide +kernel) _
 have ew : numW n ++ [bTimes] ++ W ++ R = numW n ++ (bTimes :: (W ++ R)) := by simp
 rw [ew, part_num hj (t := t ++ (bTimes :: (W ++ R))) (by rw [e]; rfl)]
 have hp := prefix_app (n : Int) (by omega) (by omega) _ hT
 unfold amtL
 simp only
 rw [show numW n ++ (bTimes :: (W ++ R)) = (wordsL (n : Int)).map wb ++ (bTimes :: (W ++ R)) from rfl, hp]
 simp only
 rw [if_neg (by omega), List.getElem?_append_right (by simp), List.length_map, Nat.sub_self, List.getElem?_cons_zero, if_pos rfl]
 have hd : ∀ k, ((wordsL (n : Int)).map wb ++ (bTimes :: (W ++ R))).drop ((wordsL (n : Int)).length + 1 + k) = (W ++ R).drop k := by
  intro k
  rw [Nat.add_assoc, List.drop_append]
  simp [Nat.add_comm 1 k]
 have hd0 := hd 0
 rw [Nat.add_zero, List.drop_zero] at hd0
 rw [hd0, h.back]
 simp only
 rw [Int.toNat_natCast, add_wide hw, if_pos ⟨by omega, by omega, rfl⟩, hd, drop_app _ _ _ rfl]
theorem NoNum.spell {m : Nat} (h : isChN m) (t : List ByteArray) : NoNum (spellL (m : Int) ++ t) := by
 unfold spellL
 cases hi : sIdxI (m : Int) with
 | some i => exact NoNum.nb (sIdxI_some hi).1 _
 | none =>
  rw [chN_isChar h]
  exact NoNum.cB _
theorem spellN_cons (m : Nat) (t : List Nat) : spellN (m :: t) = spellL (m : Int) ++ spellN t := by simp [spellN]
theorem last_app {A B : List ByteArray} (h : B ≠ []) (d : ByteArray) : (A ++ B).getLastD d = B.getLastD d := by
 obtain ⟨B', b, rfl⟩ : ∃ B' b, B = B' ++ [b] := ⟨_, _, (List.dropLast_concat_getLast h).symm⟩
 rw [← List.append_assoc, List.getLastD_concat, List.getLastD_concat]
theorem read_marks {r : Nat} (hr : isChN r) (hw : 1 ≤ widL (r : Int)) (O : List Gl) (st : Int) (wd : Bool) (st0 : Int) {R : List ByteArray} : ∀ (t pre : List Nat), (∀ x ∈ pre, isChN x) → (∀ x ∈ t, isChN x) → (∀ x ∈ pre, inT markT (x : Int) = true) → (∀ x ∈ t, inT markT (x : Int) = true) → pre.length + t.length ≤ 3 →
  (t ≠ [] → isNumW ((spellN t).getLastD ⟨#[]⟩) = true → NoNum R) → readA ⟨spellN t ++ R, O ++ [⟨encS (r :: pre), wd, st0⟩], st, false⟩ = readA ⟨R, O ++ [⟨encS (r :: (pre ++ t)), wd, st0⟩], st, false⟩
 | [], pre, _, _, _, _, _, _ => by rw [List.append_nil]; rfl
 | m :: t, pre, h1, h2, h3, h4, h5, h6 => by
  rw [List.length_cons] at h5
  have hm := h2 m (by simp)
  have hmm := h4 m (by simp)
  have hne : spellL (m : Int) ≠ [] := by
   intro e
   have := spell_nil.1 e
   rw [chN_isChar hm] at this
   cases this
  have hc : ChW (m : Int) (spellL (m : Int)) (spellN t ++ R) := .inr ⟨chN_isChar hm, rfl, fun hl => by
   cases t with
   | nil => exact h6 (by simp) (by rw [spellN_cons, show spellN [] = [] from rfl, List.append_nil]; exact hl)
   | cons x t' =>
    rw [spellN_cons, List.append_assoc]
    exact NoNum.spell (h2 x (by simp)) _⟩
  have ha : addL (O ++ [⟨encS (r :: pre), wd, st0⟩]) st (m : Int) 1 = (true, O ++ [⟨encS (r :: (pre ++ [m])), wd, st0⟩]) := by
   unfold addL
   rw [mark_wid hmm, if_neg (by omega), if_pos rfl, if_neg (by omega), List.getLast?_append, List.getLast?_singleton, Option.some_or]
   simp only
   rw [attach_enc (List.forall_mem_cons.2 ⟨hr, h1⟩) hw h3 (by omega) hmm, List.dropLast_concat]
   rfl
  rw [spellN_cons, List.append_assoc, readA_step (read_char hc ha false)]
  have := read_marks hr hw O st wd st0 t (pre ++ [m]) (fun x hx => by
    rcases List.mem_append.1 hx with hx | hx
    ·exact h1 x hx
    ·rw [List.mem_singleton] at hx; subst hx; exact hm) (fun x hx => h2 x (by simp [hx])) (fun x hx => by
    rcases List.mem_append.1 hx with hx | hx
    ·exact h3 x hx
    ·rw [List.mem_singleton] at hx; subst hx; exact hmm) (fun x hx => h4 x (by simp [hx])) (by rw [List.length_append, List.length_singleton]; omega) (fun ht hl => h6 (by simp) (by
     rw [spellN_cons, last_app _]
     ·exact hl
     ·cases t with
      | nil => exact absurd rfl ht
      | cons x t' =>
       rw [spellN_cons]
       intro e
       have := spell_nil.1 (List.append_eq_nil_iff.1 e).1
       rw [chN_isChar (h2 x (by simp))] at this
       cases this))
  rw [List.append_assoc, List.singleton_append] at this
  exact this
def GF (g : Gl) : Prop := checkC g.text = 0 ∧ g.wide = decide (widthC g.text = 2)
theorem GF.form {g : Gl} (h : GF g) : ∃ r t, charsL (bytN g.text) = r :: t ∧ isChN r ∧ (∀ x ∈ t, isChN x) ∧ 1 ≤ widL (r : Int) ∧ (∀ x ∈ t, inT markT (x : Int) = true) ∧ t.length ≤ 3 ∧ g.text = encS (r :: t) ∧ g.wide = decide (widL (r : Int) = 2) := by
 obtain ⟨hv, r, t, hc, hw, hm, hl⟩ := checkC_zero.1 h.1
 have hch := charsL_ch (bytN g.text)
 rw [hc] at hch
 refine ⟨r, t, hc, hch r (by simp), fun x hx => hch x (by simp [hx]), hw, List.all_eq_true.1 hm, hl, ?_, ?_⟩
 ·rw [← hc]
  exact ((encS_valid _).2 hv).symm
 ·have := h.2
  unfold widthC at this
  rw [if_pos h.1, hc] at this
  exact this
theorem space_chars {g : Gl} (h : g.text.data.toList = [32]) : charsL (bytN g.text) = [32] := by
 unfold bytN
 rw [h]
 decide +kernel
theorem single_ch {g : Gl} (h : GF g) {r : Nat} {R : List ByteArray} (hc : charsL (bytN g.text) = [r]) (hR : isNumW ((singleL g).getLastD ⟨#[]⟩) = true → NoNum R) : ChW (r : Int) (singleL g) R := by
 by_cases hs : g.text.data.toList = [32]
 ·have := space_chars hs
  rw [hc] at this
  injection this with this
  exact .inl ⟨by rw [this]; rfl, singleL_sp hs⟩
 ·have hch := charsL_ch (bytN g.text)
  rw [hc] at hch
  have e : singleL g = spellL (r : Int) := by
   rw [singleL_oth hs, hc, spellN_cons]
   exact List.append_nil _
  exact .inr ⟨chN_isChar (hch r (by simp)), e, hR⟩
theorem read_single {g : Gl} (h : GF g) {R : List ByteArray} (hR : isNumW ((singleL g).getLastD ⟨#[]⟩) = true → NoNum R) (O : List Gl) (J : Bool) :
  readA ⟨singleL g ++ R, O, g.style, J⟩ = readA ⟨R, O ++ [g], g.style, false⟩ := by
 obtain ⟨r, t, hc, h1, h2, h3, h4, h5, h6, h7⟩ := h.form
 have hg : g = ⟨encS (r :: t), decide (widL (r : Int) = 2), g.style⟩ := by
  obtain ⟨tx, wd, st⟩ := g
  simp only at h6 h7
  rw [h6, h7]
 have ha : addL O g.style (r : Int) 1 = (true, O ++ [⟨encS [r], decide (widL (r : Int) = 2), g.style⟩]) := by rw [add_wide h3, enc_one]; rfl
 cases t with
 | nil =>
  rw [readA_step (read_char (single_ch h hc hR) ha J), ← hg]
 | cons m t' =>
  have hs : g.text.data.toList ≠ [32] := by
   intro hs
   have := space_chars hs
   rw [hc] at this
   cases this
  have e : singleL g = spellL (r : Int) ++ spellN (m :: t') := by rw [singleL_oth hs, hc, spellN_cons]
  have hlast : (singleL g).getLastD ⟨#[]⟩ = (spellN (m :: t')).getLastD ⟨#[]⟩ := by
   rw [e, last_app]
   rw [spellN_cons]
   intro e
   have := spell_nil.1 (List.append_eq_nil_iff.1 e).1
   rw [chN_isChar (h2 m (by simp))] at this
   cases this
  rw [hlast] at hR
  have hcw : ChW (r : Int) (spellL (r : Int)) (spellN (m :: t') ++ R) := .inr ⟨chN_isChar h1, rfl, fun _ => by
   rw [spellN_cons, List.append_assoc]
   exact NoNum.spell (h2 m (by simp)) _⟩
  rw [e, List.append_assoc, readA_step (read_char hcw ha J), read_marks h1 h3 O g.style _ g.style (m :: t') [] (by simp) h2 (by simp) h4 (by simpa using h5) (fun _ => hR), List.nil_append, ← hg]
end Go.Proofs.YtejjfiipghcifaaGreatDoor
namespace Go.Proofs.YtejjfiipghcifaaGreatDoor
open Go.RowKit
set_option maxRecDepth 20000
theorem numL_pos {a : Nat} (ha : a ≠ 0) (t : List Nat) : 0 < numL (a :: t) := by
 have : ∀ (t : List Nat) (n : Nat), 0 < n → 0 < t.foldl (fun n d => 10 * n + d) n := by
  intro t
  induction t with
  | nil => intro n h; exact h
  | cons d t ih => intro n h; exact ih _ (by show 0 < 10 * n + d; omega)
 unfold numL
 exact this t _ (by show 0 < 10 * 0 + a; omega)
theorem decT_small {n : Nat} (h : n < 10) : decT n = [UInt8.ofNat (48 + n)] := by rw [decT, dif_pos h]
theorem decT_big {n : Nat} (h : ¬ n < 10) : decT n = decT (n / 10) ++ [UInt8.ofNat (48 + n % 10)] := by rw [decT, dif_neg h]
theorem dec_back : ∀ (k : Nat) (D : List Nat), D.length = k + 1 → (∀ d ∈ D, d < 10) → (k = 0 ∨ D.headD 1 ≠ 0) → decT (numL D) = D.map fun d => UInt8.ofNat (48 + d)
 | 0, D, hl, h, _ => by
  match D, hl with
  | [d], _ =>
   have : numL [d] = d := by unfold numL; simp
   rw [this, decT_small (h d (by simp))]
   rfl
 | k + 1, D, hl, h, h0 => by
  have hne : D ≠ [] := by rintro rfl; simp at hl
  obtain ⟨D', d, rfl⟩ : ∃ D' d, D = D' ++ [d] := ⟨_, _, (List.dropLast_concat_getLast hne).symm⟩
  rw [List.length_append, List.length_singleton] at hl
  have hd := h d (by simp)
  cases D' with
  | nil => simp at hl
  | cons a t =>
   have ha : a ≠ 0 := by
    rcases h0 with h0 | h0
    ·omega
    ·exact h0
   have hp := numL_pos ha t
   have ih := dec_back k (a :: t) (by omega) (fun x hx => h x (by simp at hx ⊢; rcases hx with hx | hx <;> simp [hx])) (.inr ha)
   rw [numL_snoc, decT_big (by omega), show (10 * numL (a :: t) + d) / 10 = numL (a :: t) by omega, show (10 * numL (a :: t) + d) % 10 = d by omega, ih, List.map_append]
   rfl
theorem wide_byte (c : UInt8) (h : kindB c.toNat ≠ 0 ∨ c = 32) : widthC ⟨#[c]⟩ = 1 := by
 have := u8_all (P := fun c => (kindB c.toNat == 0 && c != 32) || decide (widthC ⟨#[c]⟩ = 1)) (by decide +kernel) c
 simp only [Bool.or_eq_true, Bool.and_eq_true, beq_iff_eq, bne_iff_ne, decide_eq_true_eq] at this
 rcases this with ⟨h1, h2⟩ | h1
 ·rcases h with h | h
  ·exact absurd h1 h
  ·exact absurd h h2
 ·exact h1
theorem gl_byte {x : Gl} (h : GF x) {c : UInt8} (hc : x.text.data.toList = [c]) (hk : kindB c.toNat ≠ 0 ∨ c = 32) : x = chG x.style c := by
 obtain ⟨tx, wd, st⟩ := x
 have ht : tx = ⟨#[c]⟩ := ByteArray.ext (Array.toList_inj.1 hc)
 subst ht
 have := h.2
 simp only at this
 rw [wide_byte c hk] at this
 have : wd = false := by simpa using this
 rw [this]
 rfl
theorem gl_kind {x : Gl} (h : GF x) (hk : kindL x ≠ 0) : x = chG x.style (headB x) := by
 obtain ⟨h1, h2⟩ := kind_byte hk
 exact gl_byte h h1 (.inl (by rw [← h2]; exact hk))
theorem gl_kinds {P : List Gl} {st : Int} (h : ∀ x ∈ P, GF x) (hk : ∀ x ∈ P, kindL x ≠ 0 ∧ x.style = st) : (P.map headB).map (chG st) = P := by
 rw [List.map_map]
 refine (List.map_congr_left (g := id) fun x hx => ?_).trans (List.map_id _)
 have := gl_kind (h x hx) (hk x hx).1
 rw [(hk x hx).2] at this
 exact this.symm
theorem runE_take : ∀ (t : List Gl) (g : Gl) (m : Nat), t.take (runE t g m) = List.replicate (runE t g m) g
 | t, g, 0 => by cases t <;> simp [runE]
 | [], g, m + 1 => by simp [runE]
 | x :: t, g, m + 1 => by
  rw [runE]
  split
  ·rename_i h
   subst h
   rw [List.take_succ_cons, List.replicate_succ, runE_take t x m]
  ·rfl
def pcL (l : List Gl) (rep : Int) : List Gl := l.take (pieceL l rep)
theorem pc_cons (g : Gl) (t : List Gl) (rep : Int) : pcL (g :: t) rep = g :: t.take (pieceL (g :: t) rep - 1) := by
 have := pieceL_pos (g := g) (t := t) rep
 obtain ⟨m, hm⟩ : ∃ m, pieceL (g :: t) rep = m + 1 := ⟨pieceL (g :: t) rep - 1, by omega⟩
 unfold pcL
 rw [hm, List.take_succ_cons, Nat.add_sub_cancel]
theorem pc_ltr {g : Gl} {t : List Gl} {rep : Int} (h : kindL g = 1 ∨ kindL g = 2) : LtrPat ((pcL (g :: t) rep).map headB) ∧ ∀ x ∈ pcL (g :: t) rep, (kindL x = 1 ∨ kindL x = 2) ∧ x.style = g.style := by
 have hne : (pcL (g :: t) rep).map headB ≠ [] := by rw [pc_cons]; simp
 have hkb : ∀ x : Gl, kindL x ≠ 0 → kindB (headB x).toNat = kindL x := fun x hx => (kind_byte hx).2.symm
 rcases h with h | h
 ·have hall : ∀ x ∈ pcL (g :: t) rep, kindL x = 1 ∧ x.style = g.style := by
   unfold pcL
   rw [pieceL_ltr (.inl h), h]
   exact runK_take _ _ _
  refine ⟨⟨hne, .inl fun c hc => ?_⟩, fun x hx => ⟨.inl (hall x hx).1, (hall x hx).2⟩⟩
  obtain ⟨x, hx, rfl⟩ := List.mem_map.1 hc
  rw [hkb x (by have := (hall x hx).1; omega), (hall x hx).1]
 ·by_cases h1 : 1 < runK (g :: t) 2 g.style
  ·have hall : ∀ x ∈ pcL (g :: t) rep, kindL x = 2 ∧ x.style = g.style := by
    unfold pcL
    rw [pieceL_cap h, if_pos h1]
    exact runK_take _ _ _
   refine ⟨⟨hne, .inr (.inr ⟨?_, fun c hc => ?_⟩)⟩, fun x hx => ⟨.inr (hall x hx).1, (hall x hx).2⟩⟩
   ·have := runK_le (g :: t) 2 g.style
    unfold pcL
    rw [List.length_map, List.length_take, pieceL_cap h, if_pos h1]
    omega
   ·obtain ⟨x, hx, rfl⟩ := List.mem_map.1 hc
    rw [hkb x (by have := (hall x hx).1; omega), (hall x hx).1]
  ·have e : pcL (g :: t) rep = g :: t.take (runK t 1 g.style) := by
    unfold pcL
    rw [pieceL_cap h, if_neg h1, Nat.add_comm, List.take_succ_cons]
   have hall := runK_take t 1 g.style
   rw [e]
   refine ⟨⟨by simp, .inr (.inl ⟨headB g, (t.take (runK t 1 g.style)).map headB, rfl, by rw [hkb g (by omega), h], fun c hc => ?_⟩)⟩, fun x hx => ?_⟩
   ·obtain ⟨x, hx, rfl⟩ := List.mem_map.1 hc
    rw [hkb x (by have := (hall x hx).1; omega), (hall x hx).1]
   ·rcases List.mem_cons.1 hx with rfl | hx
    ·exact ⟨.inr h, rfl⟩
    ·exact ⟨.inl (hall x hx).1, (hall x hx).2⟩
theorem pc_dig {g : Gl} {t : List Gl} {rep : Int} (h : kindL g = 3) : ∀ x ∈ pcL (g :: t) rep, kindL x = 3 ∧ x.style = g.style := by
 unfold pcL
 rw [pieceL_ltr (.inr h), h]
 exact runK_take _ _ _
theorem pc_oth {g : Gl} {t : List Gl} {rep : Int} (h : kindL g = 0) : pcL (g :: t) rep = [g] ∨ ∃ n, 2 ≤ n ∧ n ≤ 132 ∧ pcL (g :: t) rep = List.replicate n g ∧ (charsL (bytN g.text)).length = 1 := by
 have hle := (runE_le t g 131).2
 unfold pcL
 rw [pieceL_oth h]
 split
 ·rename_i hc
  rw [Nat.add_comm, List.take_succ_cons, runE_take]
  rcases Nat.eq_zero_or_pos (runE t g 131) with h0 | h0
  ·rw [h0]
   exact .inl rfl
  ·exact .inr ⟨runE t g 131 + 1, by omega, by omega, by rw [List.replicate_succ], hc.2.2⟩
 ·exact .inl rfl
theorem singleL_ne' {g : Gl} (h : GF g) : singleL g ≠ [] := by
 by_cases hs : g.text.data.toList = [32]
 ·rw [singleL_sp hs]; simp
 ·obtain ⟨r, t, hc, h1, _⟩ := h.form
  rw [singleL_oth hs, hc, spellN_cons]
  intro e
  have := spell_nil.1 (List.append_eq_nil_iff.1 e).1
  rw [chN_isChar h1] at this
  cases this
theorem last_cons (a : ByteArray) {t : List ByteArray} (h : t ≠ []) (d : ByteArray) : (a :: t).getLastD d = t.getLastD d := by
 cases t with
 | nil => exact absurd rfl h
 | cons b t => rw [List.getLastD_cons, List.getLastD_cons, List.getLastD_cons]
theorem numW_last (n : Nat) (hn : n ≤ 999999999) (A : List ByteArray) : isNumW ((A ++ numW n).getLastD ⟨#[]⟩) = true := by
 obtain ⟨j, t, hj, e⟩ := numW_cons n hn
 have := words_last (n := (n : Int)) (by omega) (by omega) ⟨#[]⟩
 rw [last_app (by rw [e]; simp)]
 rw [last_cons] at this
 ·exact this
 ·show numW n ≠ []
  rw [e]
  simp
theorem catD_last {D : List Nat} (h0 : D ≠ []) (h : ∀ d ∈ D, d < 10) (a : ByteArray) : isNumW ((a :: D.flatMap numW).getLastD ⟨#[]⟩) = true := by
 obtain ⟨D', d, rfl⟩ : ∃ D' d, D = D' ++ [d] := ⟨_, _, (List.dropLast_concat_getLast h0).symm⟩
 rw [List.flatMap_append, ← List.cons_append]
 simp only [List.flatMap_cons, List.flatMap_nil, List.append_nil]
 exact numW_last d (by have := h d (by simp); omega) _
theorem digs_lt {P : List Gl} (h : ∀ x ∈ P, kindL x = 3) : ∀ d ∈ digT (P.map headB), d < 10 := by
 intro d hd
 unfold digT at hd
 obtain ⟨c, hc, rfl⟩ := List.mem_map.1 hd
 obtain ⟨x, hx, rfl⟩ := List.mem_map.1 hc
 have h1 := (kind_byte (by rw [h x hx]; omega)).2
 rw [h x hx] at h1
 unfold kindB at h1
 split at h1
 ·omega
 ·split at h1
  ·omega
  ·split at h1
   ·omega
   ·omega
theorem digs_back {P : List Gl} (h : ∀ x ∈ P, kindL x = 3) : (digT (P.map headB)).map (fun d => UInt8.ofNat (48 + d)) = P.map headB := by
 unfold digT
 rw [List.map_map]
 refine (List.map_congr_left (g := id) fun c hc => ?_).trans (List.map_id _)
 obtain ⟨x, hx, rfl⟩ := List.mem_map.1 hc
 have h1 := (kind_byte (by rw [h x hx]; omega)).2
 rw [h x hx] at h1
 generalize headB x = c at *
 have := u8_all (P := fun c => !(kindB c.toNat == 3) || (UInt8.ofNat (48 + (c.toNat - 48)) == c)) (by decide +kernel) c
 rw [← h1] at this
 simpa using this
theorem text_gl (J : Bool) (st : Int) (T : List UInt8) : textG J st ⟨T.toArray⟩ = (if J = true then [chG st 32] else []) ++ T.map (chG st) := rfl
theorem read_piece {g : Gl} {t : List Gl} {rep : Int} {sp dg : Bool} (hG : ∀ x ∈ g :: t, GF x) {R : List ByteArray} (hT : R[0]? ≠ some bTimes)
  (hR : kindL g = 0 ∨ kindL g = 3 → isNumW ((spokenL (pcL (g :: t) rep) sp dg).getLastD ⟨#[]⟩) = true → NoNum R) (O : List Gl) (J : Bool) :
  readA ⟨spokenL (pcL (g :: t) rep) sp dg ++ R, O, g.style, J⟩ = readA ⟨R, O ++ (if kindL g ≠ 0 ∧ J = true then [chG g.style 32] else []) ++ pcL (g :: t) rep, g.style, decide (kindL g ≠ 0)⟩ := by
 have hGP : ∀ x ∈ pcL (g :: t) rep, GF x := fun x hx => hG x (List.mem_of_mem_take hx)
 have hcons := pc_cons g t rep
 have hk3 := kindL_le g
 by_cases h12 : kindL g = 1 ∨ kindL g = 2
 ·obtain ⟨hp, hall⟩ := pc_ltr (rep := rep) (t := t) h12
  have e : spokenL (pcL (g :: t) rep) sp dg = lettersT ((pcL (g :: t) rep).map headB) sp := by
   rw [← lettersL_T (fun x hx => by have := (hall x hx).1; omega), hcons, spokenL_ltr h12]
  rw [e, readA_step (read_letters hp sp R O g.style J), text_gl, gl_kinds hGP (fun x hx => ⟨by have := (hall x hx).1; omega, (hall x hx).2⟩), decide_eq_true (show kindL g ≠ 0 by omega)]
  have : (kindL g ≠ 0 ∧ J = true) ↔ J = true := ⟨fun h => h.2, fun h => ⟨by omega, h⟩⟩
  simp only [this, List.append_assoc]
 ·by_cases h3 : kindL g = 3
  ·have hall := pc_dig (rep := rep) (t := t) h3
   have hk : ∀ x ∈ pcL (g :: t) rep, kindL x = 3 := fun x hx => (hall x hx).1
   have e : spokenL (pcL (g :: t) rep) sp dg = digitsT ((pcL (g :: t) rep).map headB) dg := by
    rw [← digitsL_T, hcons, spokenL_dig h3]
   have hlt := digs_lt hk
   have hbk := digs_back hk
   have hne : digT ((pcL (g :: t) rep).map headB) ≠ [] := by unfold digT; rw [hcons]; simp
   have hN : NoNum R := hR (.inr h3) (by
    rw [e]
    unfold digitsT
    split
    ·exact catD_last hne hlt _
    ·rename_i hc
     rw [not_or, not_or, List.length_map] at hc
     have h1 := numL_lt _ hlt
     have h2 : (digT ((pcL (g :: t) rep).map headB)).length ≤ 9 := by unfold digT; rw [List.length_map, List.length_map]; omega
     have h3 : 10 ^ (digT ((pcL (g :: t) rep).map headB)).length ≤ 10 ^ 9 := Nat.pow_le_pow_right (by omega) h2
     exact numW_last _ (by omega) [])
   have hfin : partL ⟨digitsT ((pcL (g :: t) rep).map headB) dg ++ R, O, g.style, J⟩ = some ⟨R, O ++ textG J g.style ⟨((pcL (g :: t) rep).map headB).toArray⟩, g.style, true⟩ := by
    unfold digitsT
    split
    ·have := read_digits hne hlt hN O g.style J
     unfold dgStr at this
     rw [hbk] at this
     exact this
    ·rename_i hc
     rw [not_or, not_or, List.length_map] at hc
     have h1 := numL_lt _ hlt
     have h2 : (digT ((pcL (g :: t) rep).map headB)).length ≤ 9 := by unfold digT; rw [List.length_map, List.length_map]; omega
     have h3 : 10 ^ (digT ((pcL (g :: t) rep).map headB)).length ≤ 10 ^ 9 := Nat.pow_le_pow_right (by omega) h2
     have := read_number (n := numL (digT ((pcL (g :: t) rep).map headB))) (by omega) hN hT O g.style J
     obtain ⟨k, hk'⟩ : ∃ k, (digT ((pcL (g :: t) rep).map headB)).length = k + 1 := ⟨_, (Nat.succ_pred_eq_of_pos (List.length_pos_iff.2 hne)).symm⟩
     rw [dec_back k _ hk' hlt, hbk] at this
     ·exact this
     ·rcases Nat.eq_zero_or_pos k with h0 | h0
      ·exact .inl h0
      ·refine .inr fun hz => hc.2.2 ⟨?_, hz⟩
       unfold digT at hk'
       rw [List.length_map, List.length_map] at hk'
       omega
   rw [e, readA_step hfin, text_gl, gl_kinds hGP (fun x hx => ⟨by rw [hk x hx]; omega, (hall x hx).2⟩), decide_eq_true (show kindL g ≠ 0 by omega)]
   have : (kindL g ≠ 0 ∧ J = true) ↔ J = true := ⟨fun h => h.2, fun h => ⟨by omega, h⟩⟩
   simp only [this, List.append_assoc]
  ·have h0 : kindL g = 0 := by omega
   have hg := hG g (by simp)
   rw [decide_eq_false (show ¬ kindL g ≠ 0 by omega), if_neg (fun h => h.1 h0), List.append_nil]
   rcases pc_oth (rep := rep) (t := t) h0 with e | ⟨n, h2, hn, e, hc⟩
   ·rw [e] at hR ⊢
    rw [spokenL_one h0] at hR ⊢
    exact read_single hg (hR (.inl h0)) O J
   ·obtain ⟨m, rfl⟩ : ∃ m, n = m + 2 := ⟨n - 2, by omega⟩
    have e2 : spokenL (List.replicate (m + 2) g) sp dg = numW (m + 2) ++ [bTimes] ++ singleL g := by
     rw [List.replicate_succ, spokenL_many h0 (by simp), List.length_replicate]
    rw [e, e2] at hR
    rw [e, e2]
    obtain ⟨r, t', hc', h1, _, h3', _, _, h6, h7⟩ := hg.form
    rw [hc'] at hc
    obtain rfl : t' = [] := by simpa using hc
    have hch : ChW (r : Int) (singleL g) R := by
     refine single_ch hg hc' fun hl => hR (.inl h0) ?_
     rw [last_app]
     ·exact hl
     ·exact singleL_ne' hg
    have hgg : g = ⟨encB r, decide (widL (r : Int) = 2), g.style⟩ := by
     obtain ⟨tx, wd, st⟩ := g
     simp only at h6 h7
     rw [h6, h7, enc_one]
    rw [readA_step (read_times (by omega) hn hch h3' O g.style J), ← hgg]
end Go.Proofs.YtejjfiipghcifaaGreatDoor
