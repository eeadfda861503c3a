/- Joined: Ul3, UtP3. -/
import Derived.Test.YtlndbiamiioakaaGreatDoorVBF
set_option linter.unusedVariables false
set_option linter.unusedSimpArgs false
set_option linter.unnecessarySimpa false
namespace Go.Proofs.YtlndbiamiioakaaGreatDoor
open Go.Proofs.Tryz Go.RowKit
set_option maxRecDepth 20000
theorem num_len2 {l t : List ByteArray} {n : Int} (h : jH l = some (n, t)) : t.length + 1 <= l.length := by
 unfold jH at h
 rw [Option.map_eq_some_iff] at h
 obtain ⟨x, hp, e⟩ := h
 cases e
 obtain ⟨hk0, hkl, _⟩ := qT (n := x.1) (k := x.2) hp
 rw [List.length_drop]
 omega
theorem yP {s : ByteArray} {l t : List ByteArray} {n : Int} (h : afO s l = some (n, t)) : t.length + 2 <= l.length := by
 unfold afO at h
 rw [Option.bind_eq_some_iff] at h
 obtain ⟨x, h1, h2⟩ := h
 have := jN h1
 have := num_len2 h2
 omega
theorem ins_len2 {l t : List ByteArray} {G : List Gl} (h : insL l = some (G, t)) : t.length <= l.length := by
 unfold insL at h
 split at h
 ·rw [Option.bind_eq_some_iff] at h
  obtain ⟨x, h1, h2⟩ := h
  have := jN h1
  have := (qeC h2).1
  omega
 ·cases h
  exact Nat.le_refl _
theorem chg_len4 {l t : List ByteArray} {c : Chg} (h : qan l = some (c, t)) : t.length + 4 <= l.length := by
 unfold qan at h
 split at h
 ·rw [Option.bind_eq_some_iff] at h
  obtain ⟨x, h1, h⟩ := h
  rw [Option.bind_eq_some_iff] at h
  obtain ⟨y, h2, h⟩ := h
  rw [Option.map_eq_some_iff] at h
  obtain ⟨u, h3, h⟩ := h
  cases h
  have := yP h1
  have := yP h2
  have := jN h3
  omega
 ·split at h
  ·rw [Option.bind_eq_some_iff] at h
   obtain ⟨x, h1, h⟩ := h
   rw [Option.bind_eq_some_iff] at h1
   obtain ⟨x0, h0, h1⟩ := h1
   rw [Option.bind_eq_some_iff] at h
   obtain ⟨y, h2, h⟩ := h
   have := jN h0
   have := yP h1
   have := yP h2
   split at h
   ·rw [Option.bind_eq_some_iff] at h
    obtain ⟨z, h3, h⟩ := h
    have := jQ h3
    split at h
    ·cases h
    ·cases h
     omega
   ·rw [Option.bind_eq_some_iff] at h
    obtain ⟨z, h3, h⟩ := h
    have := jQ h3
    split at h
    ·cases h
    ·cases h
     omega
  ·split at h
   ·unfold kv at h
    rw [Option.bind_eq_some_iff] at h
    obtain ⟨x, h1, h⟩ := h
    rw [Option.bind_eq_some_iff] at h
    obtain ⟨y, h2, h⟩ := h
    rw [Option.bind_eq_some_iff] at h
    obtain ⟨z, h3, h⟩ := h
    rw [Option.map_eq_some_iff] at h
    obtain ⟨g, h4, h⟩ := h
    cases h
    have := yP h1
    have := yP h2
    have := qgD h3
    have := ins_len2 h4
    omega
   ·split at h
    ·rw [Option.bind_eq_some_iff] at h
     obtain ⟨x, h1, h⟩ := h
     rw [Option.bind_eq_some_iff] at h1
     obtain ⟨x0, h0, h1⟩ := h1
     rw [Option.bind_eq_some_iff] at h
     obtain ⟨y, h2, h⟩ := h
     have := jN h0
     have := yP h1
     have := yP h2
     split at h
     ·rw [Option.map_eq_some_iff] at h
      obtain ⟨u, h3, h⟩ := h
      cases h
      have := jN h3
      omega
     ·rw [Option.map_eq_some_iff] at h
      obtain ⟨u, h3, h⟩ := h
      cases h
      have := jN h3
      omega
    ·cases h
theorem qb3 : ∀ (f : Nat) (l : List ByteArray) (acc m : List Chg) (n : Int), jj f l acc = some (m, n) -> 4 * m.length <= 4 * acc.length + l.length
 | 0, l, acc, m, n, h => by cases h
 | f + 1, l, acc, m, n, h => by
  rw [jj] at h
  split at h
  ·rw [Option.map_eq_some_iff] at h
   obtain ⟨x, _, h⟩ := h
   cases h
   omega
  ·rw [Option.bind_eq_some_iff] at h
   obtain ⟨x, h1, h⟩ := h
   split at h
   ·have := qb3 f x.2 (acc ++ [x.1]) m n h
    have := chg_len4 (c := x.1) (t := x.2) h1
    rw [List.length_append, List.length_cons, List.length_nil] at *
    omega
   ·cases h
theorem qcL {l : List ByteArray} {m : List Chg} {n : Int} (h : jn l = some (m, n)) : 4 * m.length <= l.length := by
 have := qb3 _ _ _ _ _ h
 simp only [List.length_nil] at this
 omega
theorem qgM {l r : List ByteArray} {n : Int} (h : jH l = some (n, r)) : -999999999 <= n /\ n <= 999999999 := by
 unfold jH at h
 cases hp : prefixL l with
 | none => rw [hp] at h; cases h
 | some x =>
  obtain ⟨m, k⟩ := x
  rw [hp] at h
  simp only [Option.map_some, Option.some.injEq, Prod.mk.injEq] at h
  obtain ⟨rfl, _⟩ := h
  obtain ⟨_, _, _, qil, _⟩ := qT hp
  obtain ⟨h1, h2, _⟩ := zu qil
  exact ⟨h1, h2⟩
theorem qg9 {l : List ByteArray} {n : Int} (h : yp l = some n) : 0 <= n /\ n <= 999999999 := by
 unfold yp at h
 split at h
 ·split at h
  ·injection h with h; omega
  ·cases h
 ·cases hs : skO q8 l with
  | none => rw [hs] at h; cases h
  | some t =>
   rw [hs, Option.bind_some] at h
   split at h
   ·injection h with h; omega
   ·cases hn : jH t with
    | none => rw [hn] at h; cases h
    | some x =>
     obtain ⟨m, r⟩ := x
     rw [hn, Option.bind_some] at h
     simp only at h
     cases hu : skO zy r with
     | none => rw [hu] at h; cases h
     | some u =>
      rw [hu, Option.bind_some] at h
      split at h
      ·rename_i hc
       injection h with h
       have := qgM hn
       omega
      ·cases h
theorem qbY : ∀ (f : Nat) (l : List ByteArray) (acc m : List Chg) (n : Int), (∀ c ∈ acc, vb c = 0) -> jj f l acc = some (m, n) -> (∀ c ∈ m, vb c = 0) /\ 0 <= n /\ n <= 999999999
 | 0, l, acc, m, n, _, h => by cases h
 | f + 1, l, acc, m, n, ha, h => by
  rw [jj] at h
  split at h
  ·cases he : yp l with
   | none => rw [he] at h; cases h
   | some k =>
    rw [he] at h
    simp only [Option.map_some, Option.some.injEq, Prod.mk.injEq] at h
    obtain ⟨rfl, rfl⟩ := h
    exact ⟨ha, qg9 he⟩
  ·cases hc : qan l with
   | none => rw [hc] at h; cases h
   | some x =>
    obtain ⟨c, r⟩ := x
    rw [hc, Option.bind_some] at h
    simp only at h
    split at h
    ·rename_i h0
     exact qbY f r (acc ++ [c]) m n (fun x hx => by
      rcases List.mem_append.1 hx with h' | h'
      ·exact ha x h'
      ·rw [List.mem_singleton] at h'
       exact h' ▸ h0) h
    ·cases h
theorem qcF {l : List ByteArray} {m : List Chg} {n : Int} (h : jn l = some (m, n)) : (∀ c ∈ m, vb c = 0) /\ 0 <= n /\ n <= 999999999 := qbY _ _ _ _ _ (fun c hc => by cases hc) h
end Go.Proofs.YtlndbiamiioakaaGreatDoor
