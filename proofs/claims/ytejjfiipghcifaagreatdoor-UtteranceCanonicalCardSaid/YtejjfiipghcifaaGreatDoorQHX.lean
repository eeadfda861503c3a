/- Joined texts: BdQ, Ul3. -/
import Derived.Test.YtejjfiipghcifaaGreatDoorQAA
import Derived.Test.YtejjfiipghcifaaGreatDoorQAB
import Derived.Test.YtejjfiipghcifaaGreatDoorQAC
import Derived.Test.YtejjfiipghcifaaGreatDoorQAE
import Derived.Test.YtejjfiipghcifaaGreatDoorQAF
import Derived.Test.YtejjfiipghcifaaGreatDoorQAG
import Derived.Test.YtejjfiipghcifaaGreatDoorQAK
import Derived.Test.YtejjfiipghcifaaGreatDoorQAQ
import Derived.Test.YtejjfiipghcifaaGreatDoorQAR
import Derived.Test.YtejjfiipghcifaaGreatDoorQAT
import Derived.Test.YtejjfiipghcifaaGreatDoorQAU
import Derived.Test.YtejjfiipghcifaaGreatDoorQAV
import Derived.Test.YtejjfiipghcifaaGreatDoorQBD
import Derived.Test.YtejjfiipghcifaaGreatDoorQBE
import Derived.Test.YtejjfiipghcifaaGreatDoorQBF
import Derived.Test.YtejjfiipghcifaaGreatDoorQBH
import Derived.Test.YtejjfiipghcifaaGreatDoorQBP
import Derived.Test.YtejjfiipghcifaaGreatDoorQBQ
import Derived.Test.YtejjfiipghcifaaGreatDoorQBR
import Derived.Test.YtejjfiipghcifaaGreatDoorQBT
import Derived.Test.YtejjfiipghcifaaGreatDoorQBU
set_option linter.unusedVariables false
set_option linter.unusedSimpArgs false
set_option linter.unnecessarySimpa false
namespace Go.Proofs.YtejjfiipghcifaaGreatDoor
open Go.RowKit
set_option maxRecDepth 20000
def Fw (g : Gl) : Prop := (charsL (bytN g.text)).length ≤ 4
theorem bdq_single {g : Gl} (h : Fw g) : (singleL g).length ≤ 65 := by
 have h1 := @singleL_len g
 unfold Fw at h
 omega
theorem szq_letters {l : List Gl} (hl : l.length ≤ 1000) (sp : Bool) : ∀ a ∈ lettersL l sp, a.size ≤ 1000 := by
 have hlow : (lowL l).length = l.length := by unfold lowL; rw [List.length_map]
 intro a ha
 unfold lettersL at ha
 rcases List.mem_append.1 ha with ha | ha
 ·split at ha
  ·rw [List.mem_singleton] at ha; subst ha; decide +kernel
  ·split at ha
   ·rw [List.mem_singleton] at ha; subst ha; decide +kernel
   ·cases ha
 ·split at ha
  ·rcases List.mem_append.1 ha with ha | ha
   ·rcases List.mem_cons.1 ha with rfl | ha
    ·decide +kernel
    ·obtain ⟨c, hc, rfl⟩ := List.mem_map.1 ha
     exact (by decide : 1 ≤ 1000)
   ·rw [List.mem_singleton] at ha; subst ha; decide +kernel
  ·rcases List.mem_append.1 ha with ha | ha
   ·split at ha
    ·rw [List.mem_singleton] at ha; subst ha; decide +kernel
    ·cases ha
   ·rw [List.mem_singleton] at ha
    subst ha
    show (List.toArray _).size ≤ _
    rw [List.size_toArray]
    omega
theorem bdq_letters (l : List Gl) (sp : Bool) : (lettersL l sp).length ≤ l.length + 5 := by
 have hlow : (lowL l).length = l.length := by unfold lowL; rw [List.length_map]
 unfold lettersL
 simp only [List.length_append]
 (repeat' split) <;> simp only [List.length_append, List.length_cons, List.length_nil, List.length_map] <;> omega
theorem bdq_digits (l : List Gl) (dg : Bool) : (digitsL l dg).length ≤ 16 * l.length + 17 := by
 rw [digitsL_T]
 unfold digitsT
 split
 ·have := catW_len (digT (List.map headB l))
  have h5 : (digT (List.map headB l)).length = l.length := by unfold digT; rw [List.length_map, List.length_map]
  rw [List.length_cons]
  omega
 ·have := numW_len (numL (digT (List.map headB l)))
  omega
theorem bdq_spoken {g : Gl} {t : List Gl} {rep : Int} {sp dg : Bool} (hn : (g :: t).length ≤ 1000) (hz : ∀ x ∈ g :: t, Fw x) :
  (spokenL (pcL (g :: t) rep) sp dg).length ≤ 16 * (pcL (g :: t) rep).length + 82 ∧ ∀ a ∈ spokenL (pcL (g :: t) rep) sp dg, a.size ≤ 1000 := by
 have hpc := pc_cons g t rep
 have hpl : (pcL (g :: t) rep).length ≤ 1000 := by
  unfold pcL
  rw [List.length_take]
  omega
 have hg := hz g (by simp)
 by_cases hk : kindL g = 1 ∨ kindL g = 2
 ·rw [hpc] at hpl ⊢
  rw [spokenL_ltr hk]
  have := bdq_letters (g :: t.take (pieceL (g :: t) rep - 1)) sp
  exact ⟨Nat.le_trans (bdq_letters _ sp) (by omega), szq_letters hpl sp⟩
 ·by_cases h3 : kindL g = 3
  ·have h2 := pc_dig (t := t) (rep := rep) h3
   rw [hpc] at h2 hpl ⊢
   rw [spokenL_dig h3]
   exact ⟨Nat.le_trans (bdq_digits _ dg) (by omega), sz_digits (fun x hx => (h2 x hx).1) dg⟩
  ·have h0 : kindL g = 0 := by
    have := kindL_le g
    omega
   have hs := bdq_single hg
   rcases pc_oth (t := t) (rep := rep) h0 with e | ⟨n, hn, hn2, e, _⟩
   ·rw [e, spokenL_one h0]
    exact ⟨by omega, sz_single g⟩
   ·rw [e] at hpl ⊢
    obtain ⟨m, rfl⟩ : ∃ m, n = m + 1 := ⟨n - 1, by omega⟩
    rw [List.length_replicate] at hpl
    rw [List.replicate_succ, spokenL_many h0 (by intro e; have := congrArg List.length e; simp at this; omega)]
    have hw := numW_len ((List.replicate m g).length + 1)
    refine ⟨by simp only [List.length_append, List.length_cons, List.length_nil]; omega, fun a ha => ?_⟩
    rcases List.mem_append.1 ha with ha | ha
    ·rcases List.mem_append.1 ha with ha | ha
     ·exact sz_numW (by simp; omega) a ha
     ·rw [List.mem_singleton] at ha; subst ha; decide +kernel
    ·exact sz_single g a ha
theorem bdq_from (S : Setts) : ∀ (n : Nat) (q : Spk) (rest : List Gl), rest.length ≤ n → rest.length ≤ 1000 → (∀ x ∈ rest, Fw x) → (∀ s ∈ q.out, s.size ≤ 1000) →
  (wordsFrom S rest.length q rest).out.length ≤ q.out.length + 100 * rest.length ∧ ∀ s ∈ (wordsFrom S rest.length q rest).out, s.size ≤ 1000
 | n, q, [], _, _, _, h => by
  rw [show (wordsFrom S ([] : List Gl).length q []) = q from rfl]
  exact ⟨by simp, h⟩
 | 0, q, g :: t, hn, _, _, _ => by simp at hn
 | n + 1, q, g :: t, hn, h6, hz, h => by
  have hp := pieceL_pos (g := g) (t := t) S.rep
  have hdl : ((g :: t).drop (pieceL (g :: t) S.rep)).length = (g :: t).length - pieceL (g :: t) S.rep := List.length_drop
  have hc : (g :: t).length = t.length + 1 := List.length_cons
  have hzd : ∀ x ∈ (g :: t).drop (pieceL (g :: t) S.rep), Fw x := fun x hx => hz x (List.mem_of_mem_drop hx)
  rw [wordsFrom_cons]
  split
  ·have := bdq_from S n { q with silent := true } _ (by omega) (by omega) hzd h
   exact ⟨by have h1 := this.1; simp only at h1; omega, this.2⟩
  ·have hb := bdq_spoken (rep := S.rep) (sp := S.spell) (dg := S.digits) h6 hz
   have hpl : (pcL (g :: t) S.rep).length ≤ pieceL (g :: t) S.rep ∧ (pcL (g :: t) S.rep).length ≤ (g :: t).length := by
    unfold pcL
    rw [List.length_take]
    omega
   have hq : (sayL q S (pcL (g :: t) S.rep)).out = q.out ++ preL q g ((spokenL (pcL (g :: t) S.rep) S.spell S.digits).headD ⟨#[]⟩) ++ spokenL (pcL (g :: t) S.rep) S.spell S.digits := by rw [sayL_pc]
   have hpre := preL_len q g ((spokenL (pcL (g :: t) S.rep) S.spell S.digits).headD ⟨#[]⟩)
   have hql : (sayL q S (pcL (g :: t) S.rep)).out.length ≤ q.out.length + 16 * (pcL (g :: t) S.rep).length + 84 := by
    rw [hq, List.length_append, List.length_append]
    have := hb.1
    omega
   have := bdq_from S n (sayL q S (pcL (g :: t) S.rep)) _ (by omega) (by omega) hzd (by
    rw [hq]
    intro s hs
    rcases List.mem_append.1 hs with hs | hs
    ·rcases List.mem_append.1 hs with hs | hs
     ·exact h s hs
     ·exact sz_pre _ _ _ s hs
    ·exact hb.2 s hs)
   exact ⟨Nat.le_trans this.1 (by omega), this.2⟩
theorem words_few (l : List Gl) (S : Setts) (hn : l.length ≤ 1000) (hz : ∀ x ∈ l, Fw x) : (spokenWords l S).length ≤ 100 * l.length ∧ ∀ s ∈ spokenWords l S, s.size ≤ 1000 := by
 have := bdq_from S l.length ⟨[], 0, 0, false⟩ l (Nat.le_refl _) hn hz (fun s hs => by cases hs)
 refine ⟨?_, this.2⟩
 have h1 := this.1
 simp only [List.length_nil] at h1
 show (wordsFrom S l.length ⟨[], 0, 0, false⟩ l).out.length ≤ _
 omega
theorem fw_of {g : Gl} (h : glyphC g = 0) : Fw g := by
 obtain ⟨r, t, hc, _, _, _, _, ht, _, _⟩ := (glyphC_ok h).1.form
 unfold Fw
 rw [hc, List.length_cons]
 omega
theorem phrase_few (c : Chg) (S : Setts) (hc : chkU c = 0) : (phraseL c S).length ≤ 13260 ∧ SzW (phraseL c S) := by
 have hgl := chk_gl hc
 have hb := words_few c.glyphs S (by omega) fun x hx => fw_of (hgl.2.1 x hx)
 have hw : (spokenWords c.glyphs S).length ≤ 13200 := by have := hb.1; omega
 have hs : SzW (spokenWords c.glyphs S) := hb.2
 have hr := (chk_gl hc).2.2.2
 obtain ⟨kind, row, col, count, til, g⟩ := c
 simp only at hw hs
 unfold rangesU at hr
 simp only at hr
 have n1 := numI_le row
 have n2 := numI_le col
 have n3 := numI_le (row + 1)
 have n4 := numI_le (col + 1)
 have n5 := numI_le til
 have n6 := numI_le count
 have n7 := numI_le (-count)
 refine ⟨?_, ?_⟩
 ·unfold phraseL
  simp only
  (repeat' split) <;> simp only [List.length_append, List.length_cons, List.length_nil] <;> omega
 ·unfold phraseL
  simp only
  split
  ·rename_i h1
   rw [if_pos h1, decide_eq_true_eq] at hr
   exact SzW.cons (by decide) ((SzW.app (numI_size _ (by omega) (by omega)) (SzW.cons (by decide) (SzW.app (numI_size _ (by omega) (by omega)) (SzW.cons (by decide) SzW.nil)))))
  ·rename_i h1
   rw [if_neg h1] at hr
   split
   ·rename_i h2
    rw [if_pos h2, decide_eq_true_eq] at hr
    refine SzW.cons (by decide) (SzW.cons (by decide) (SzW.app (numI_size _ (by omega) (by omega)) (SzW.cons (by decide) (SzW.app (numI_size _ (by omega) (by omega)) ?_))))
    split
    ·exact SzW.cons (by decide) (numI_size _ (by omega) (by omega))
    ·exact SzW.cons (by decide) (numI_size _ (by omega) (by omega))
   ·rename_i h2
    rw [if_neg h2] at hr
    split
    ·rename_i h3
     rw [if_pos h3, decide_eq_true_eq] at hr
     refine SzW.cons (by decide) (SzW.app (numI_size _ (by omega) (by omega)) (SzW.cons (by decide) (SzW.app (numI_size _ (by omega) (by omega)) (SzW.app ?_ ?_))))
     ·split
      ·exact SzW.cons (by decide) (numI_size _ (by omega) (by omega))
      ·exact SzW.nil
     ·split
      ·exact SzW.nil
      ·exact SzW.cons (by decide) (SzW.app hs (SzW.cons (by decide) SzW.nil))
    ·rename_i h3
     rw [if_neg h3, decide_eq_true_eq] at hr
     split
     ·refine SzW.cons (by decide) (SzW.cons (by decide) (SzW.app (numI_size _ (by omega) (by omega)) (SzW.cons (by decide) (SzW.app (numI_size _ (by omega) (by omega)) ?_))))
      split <;> exact SzW.cons (by decide) SzW.nil
     ·exact SzW.nil
theorem flat_few (S : Setts) : ∀ l : List Chg, (∀ c ∈ l, chkU c = 0) → (l.flatMap fun c => phraseL c S).length ≤ 13260 * l.length ∧ SzW (l.flatMap fun c => phraseL c S)
 | [], _ => ⟨by simp, SzW.nil⟩
 | c :: t, h => by
  have hp := phrase_few c S (h c (by simp))
  have ih := flat_few S t fun x hx => h x (List.mem_cons_of_mem _ hx)
  rw [List.flatMap_cons, List.length_append, List.length_cons]
  exact ⟨by omega, SzW.app hp.2 ih.2⟩
theorem words_thirty {l : List Chg} {n : Int} (S : Setts) (h0 : 0 ≤ n) (h1 : n ≤ 999999999) (hl : l.length ≤ 30) (h : ∀ c ∈ l, chkU c = 0) : (wordsU l n S).length ≤ 400000 ∧ SzW (wordsU l n S) := by
 have hf := flat_few S l h
 have he := end_bound h0 h1
 unfold wordsU
 rw [List.length_append]
 have : 13260 * l.length ≤ 13260 * 30 := Nat.mul_le_mul_left _ hl
 exact ⟨by omega, SzW.app hf.2 he.2⟩
theorem num_len2 {l t : List ByteArray} {n : Int} (h : numO l = some (n, t)) : t.length + 1 ≤ l.length := by
 unfold numO at h
 rw [Option.map_eq_some_iff] at h
 obtain ⟨x, hp, e⟩ := h
 cases e
 obtain ⟨hk0, hkl, _⟩ := prefixL_some (n := x.1) (k := x.2) hp
 rw [List.length_drop]
 omega
theorem af_len2 {s : ByteArray} {l t : List ByteArray} {n : Int} (h : afO s l = some (n, t)) : t.length + 2 ≤ l.length := by
 unfold afO at h
 rw [Option.bind_eq_some_iff] at h
 obtain ⟨x, h1, h2⟩ := h
 have := sk_len h1
 have := num_len2 h2
 omega
theorem ins_len2 {l t : List ByteArray} {G : List Gl} (h : insL l = some (G, t)) : t.length ≤ l.length := by
 unfold insL at h
 split at h
 ·rw [Option.bind_eq_some_iff] at h
  obtain ⟨x, h1, h2⟩ := h
  have := sk_len h1
  have := (text_len h2).1
  omega
 ·cases h
  exact Nat.le_refl _
theorem chg_len4 {l t : List ByteArray} {c : Chg} (h : chgL l = some (c, t)) : t.length + 4 ≤ l.length := by
 unfold chgL at h
 split at h
 ·rw [Option.bind_eq_some_iff] at h
  obtain ⟨x, h1, h⟩ := h
  rw [Option.bind_eq_some_iff] at h
  obtain ⟨y, h2, h⟩ := h
  rw [Option.map_eq_some_iff] at h
  obtain ⟨u, h3, h⟩ := h
  cases h
  have := af_len2 h1
  have := af_len2 h2
  have := sk_len h3
  omega
 ·split at h
  ·rw [Option.bind_eq_some_iff] at h
   obtain ⟨x, h1, h⟩ := h
   rw [Option.bind_eq_some_iff] at h1
   obtain ⟨x0, h0, h1⟩ := h1
   rw [Option.bind_eq_some_iff] at h
   obtain ⟨y, h2, h⟩ := h
   have := sk_len h0
   have := af_len2 h1
   have := af_len2 h2
   split at h
   ·rw [Option.bind_eq_some_iff] at h
    obtain ⟨z, h3, h⟩ := h
    have := af_len h3
    split at h
    ·cases h
    ·cases h
     omega
   ·rw [Option.bind_eq_some_iff] at h
    obtain ⟨z, h3, h⟩ := h
    have := af_len h3
    split at h
    ·cases h
    ·cases h
     omega
  ·split at h
   ·unfold spliceL at h
    rw [Option.bind_eq_some_iff] at h
    obtain ⟨x, h1, h⟩ := h
    rw [Option.bind_eq_some_iff] at h
    obtain ⟨y, h2, h⟩ := h
    rw [Option.bind_eq_some_iff] at h
    obtain ⟨z, h3, h⟩ := h
    rw [Option.map_eq_some_iff] at h
    obtain ⟨g, h4, h⟩ := h
    cases h
    have := af_len2 h1
    have := af_len2 h2
    have := del_len h3
    have := ins_len2 h4
    omega
   ·split at h
    ·rw [Option.bind_eq_some_iff] at h
     obtain ⟨x, h1, h⟩ := h
     rw [Option.bind_eq_some_iff] at h1
     obtain ⟨x0, h0, h1⟩ := h1
     rw [Option.bind_eq_some_iff] at h
     obtain ⟨y, h2, h⟩ := h
     have := sk_len h0
     have := af_len2 h1
     have := af_len2 h2
     split at h
     ·rw [Option.map_eq_some_iff] at h
      obtain ⟨u, h3, h⟩ := h
      cases h
      have := sk_len h3
      omega
     ·rw [Option.map_eq_some_iff] at h
      obtain ⟨u, h3, h⟩ := h
      cases h
      have := sk_len h3
      omega
    ·cases h
theorem chgs_count : ∀ (f : Nat) (l : List ByteArray) (acc m : List Chg) (n : Int), chgsL f l acc = some (m, n) → 4 * m.length ≤ 4 * acc.length + l.length
 | 0, l, acc, m, n, h => by cases h
 | f + 1, l, acc, m, n, h => by
  rw [chgsL] at h
  split at h
  ·rw [Option.map_eq_some_iff] at h
   obtain ⟨x, _, h⟩ := h
   cases h
   omega
  ·rw [Option.bind_eq_some_iff] at h
   obtain ⟨x, h1, h⟩ := h
   split at h
   ·have := chgs_count f x.2 (acc ++ [x.1]) m n h
    have := chg_len4 (c := x.1) (t := x.2) h1
    rw [List.length_append, List.length_cons, List.length_nil] at *
    omega
   ·cases h
theorem changes_count {l : List ByteArray} {m : List Chg} {n : Int} (h : changesU l = some (m, n)) : 4 * m.length ≤ l.length := by
 have := chgs_count _ _ _ _ _ h
 simp only [List.length_nil] at this
 omega
end Go.Proofs.YtejjfiipghcifaaGreatDoor
