/- Regions, in plain Lean: the order, the parents, nesting. -/
import Derived.Lib.Bytealg
import Derived.Lib.Small
import Derived.Sort.Statements
namespace Go.Proofs.Ytgmodadgmnfhgaa
open Go.Lib
structure Reg where
  kind : Int
  id : Int
  par : Int
  top : Int
  left : Int
  bot : Int
  right : Int
  label : ByteArray
instance : Inhabited Reg := ⟨⟨0, 0, 0, 0, 0, 0, 0, ⟨#[]⟩⟩⟩
theorem ba_ext {a b : ByteArray} (h : a.data.toList = b.data.toList) : a = b := by
  cases a; cases b
  simp only at h
  rw [Array.toList_inj.1 h]
theorem Reg.ext_iff' {a b : Reg} : a = b ↔ (a.kind = b.kind ∧ a.id = b.id ∧ a.par = b.par ∧ a.top = b.top ∧ a.left = b.left ∧ a.bot = b.bot ∧ a.right = b.right ∧ a.label.data.toList = b.label.data.toList) := by
  constructor
  · rintro rfl; simp
  · rintro ⟨h1, h2, h3, h4, h5, h6, h7, h8⟩
    cases a; cases b
    have := ba_ext h8
    simp_all
instance : DecidableEq Reg := fun _ _ => decidable_of_iff _ Reg.ext_iff'.symm
/-- A comparison that orders. -/
structure TO {α : Type} (c : α → α → Int) : Prop where
  anti : ∀ x y, c x y < 0 ↔ 0 < c y x
  lt_le : ∀ x y z, c x y < 0 → c y z ≤ 0 → c x z < 0
  le_lt : ∀ x y z, c x y ≤ 0 → c y z < 0 → c x z < 0
  eq : ∀ x y z, c x y = 0 → c y z = 0 → c x z = 0
def lexC {α : Type} (c d : α → α → Int) (x y : α) : Int := if c x y = 0 then d x y else c x y
theorem TO.lex {α : Type} {c d : α → α → Int} (hc : TO c) (hd : TO d) : TO (lexC c d) where
  anti x y := by
    have h1 := hc.anti x y
    have h2 := hc.anti y x
    have h3 := hd.anti x y
    unfold lexC
    split <;> split <;> omega
  lt_le x y z := by
    have h1 := hc.lt_le x y z
    have h2 := hc.le_lt x y z
    have h3 := hc.eq x y z
    have h4 := hd.lt_le x y z
    unfold lexC
    split <;> split <;> split <;> omega
  le_lt x y z := by
    have h1 := hc.lt_le x y z
    have h2 := hc.le_lt x y z
    have h3 := hc.eq x y z
    have h4 := hd.le_lt x y z
    unfold lexC
    split <;> split <;> split <;> omega
  eq x y z := by
    have h3 := hc.eq x y z
    have h4 := hd.eq x y z
    unfold lexC
    split <;> split <;> split <;> omega
theorem TO.key {α : Type} (f : α → Int) : TO (fun x y => compareInt (f x) (f y)) := by
  constructor <;> intros <;> simp only [compareInt] at * <;> (repeat' split at *) <;> omega
theorem TO.yek {α : Type} (f : α → Int) : TO (fun x y => compareInt (f y) (f x)) := by
  constructor <;> intros <;> simp only [compareInt] at * <;> (repeat' split at *) <;> omega
theorem compareInt_eq {x y : Int} : compareInt x y = 0 ↔ x = y := by
  unfold compareInt
  split
  · omega
  · split <;> omega
theorem cb_cons (a b : UInt8) (as bs : List UInt8) : compareBytes (a :: as) (b :: bs) = if compareInt a.toNat b.toNat = 0 then compareBytes as bs else compareInt a.toNat b.toNat := by
  unfold compareInt
  simp only [compareBytes, UInt8.lt_iff_toNat_lt]
  repeat' split
  all_goals first | rfl | omega
theorem TO.bytes0 : TO compareBytes where
  anti x := by
    induction x with
    | nil => intro y; cases y <;> simp [compareBytes]
    | cons a as ih =>
      intro y
      cases y with
      | nil => simp [compareBytes]
      | cons b bs =>
        have h := ih bs
        have h1 := (TO.key (fun x : Nat => (x : Int))).anti a.toNat b.toNat
        have h2 := (TO.key (fun x : Nat => (x : Int))).anti b.toNat a.toNat
        rw [cb_cons, cb_cons]
        split <;> split <;> omega
  lt_le x := by
    induction x with
    | nil =>
      intro y z
      cases y <;> cases z <;> simp [compareBytes]
    | cons a as ih =>
      intro y z
      cases y with
      | nil => simp [compareBytes]
      | cons b bs =>
        cases z with
        | nil => simp [compareBytes]
        | cons c cs =>
          have h := ih bs cs
          have K := TO.key (fun x : Nat => (x : Int))
          have h1 := K.lt_le a.toNat b.toNat c.toNat
          have h2 := K.le_lt a.toNat b.toNat c.toNat
          have h3 := K.eq a.toNat b.toNat c.toNat
          rw [cb_cons, cb_cons, cb_cons]
          split <;> split <;> split <;> omega
  le_lt x := by
    induction x with
    | nil =>
      intro y z
      cases y <;> cases z <;> simp [compareBytes]
    | cons a as ih =>
      intro y z
      cases y with
      | nil => simp [compareBytes]
      | cons b bs =>
        cases z with
        | nil => simp [compareBytes]
        | cons c cs =>
          have h := ih bs cs
          have K := TO.key (fun x : Nat => (x : Int))
          have h1 := K.lt_le a.toNat b.toNat c.toNat
          have h2 := K.le_lt a.toNat b.toNat c.toNat
          have h3 := K.eq a.toNat b.toNat c.toNat
          rw [cb_cons, cb_cons, cb_cons]
          split <;> split <;> split <;> omega
  eq x := by
    induction x with
    | nil =>
      intro y z
      cases y <;> cases z <;> simp [compareBytes]
    | cons a as ih =>
      intro y z
      cases y with
      | nil => simp [compareBytes]
      | cons b bs =>
        cases z with
        | nil => simp [compareBytes]
        | cons c cs =>
          have h := ih bs cs
          have h3 := (TO.key (fun x : Nat => (x : Int))).eq a.toNat b.toNat c.toNat
          rw [cb_cons, cb_cons, cb_cons]
          split <;> split <;> split <;> omega
theorem TO.pull {α β : Type} {c : β → β → Int} (h : TO c) (f : α → β) : TO (fun x y => c (f x) (f y)) where
  anti _ _ := h.anti _ _
  lt_le _ _ _ := h.lt_le _ _ _
  le_lt _ _ _ := h.le_lt _ _ _
  eq _ _ _ := h.eq _ _ _
theorem compareBytes_eq : ∀ {a b : List UInt8}, compareBytes a b = 0 → a = b
  | [], [], _ => rfl
  | [], _ :: _, h => by simp [compareBytes] at h
  | _ :: _, [], h => by simp [compareBytes] at h
  | a :: as, b :: bs, h => by
    rw [cb_cons] at h
    split at h
    · rename_i h1
      have := compareInt_eq.1 h1
      have h2 : a.toNat = b.toNat := by omega
      rw [UInt8.toNat_inj.1 h2, compareBytes_eq h]
    · rename_i h1; exact absurd h h1
/-- The order of regions. -/
def keyL (a b : Reg) : List Int := [compareInt a.top b.top, compareInt a.left b.left, compareInt b.bot a.bot, compareInt b.right a.right, compareInt a.kind b.kind, compareBytes a.label.data.toList b.label.data.toList, compareInt a.id b.id, compareInt a.par b.par]
def firstL : List Int → Int
  | [] => 0
  | x :: t => if x = 0 then firstL t else x
def cmpR (a b : Reg) : Int := firstL (keyL a b)
def cmpK (a b : Reg) : Int := lexC (fun a b : Reg => compareInt a.top b.top) (lexC (fun a b => compareInt a.left b.left) (lexC (fun a b => compareInt b.bot a.bot) (lexC (fun a b => compareInt b.right a.right) (lexC (fun a b => compareInt a.kind b.kind) (lexC (fun a b => compareBytes a.label.data.toList b.label.data.toList) (lexC (fun a b => compareInt a.id b.id) (fun a b => compareInt a.par b.par))))))) a b
theorem cmpR_eq (a b : Reg) : cmpR a b = cmpK a b := by
  simp only [cmpR, keyL, firstL, cmpK, lexC]
  repeat' split
  all_goals first | rfl | omega
theorem cmpTO : TO cmpR := by
  rw [show cmpR = cmpK from funext fun a => funext fun b => cmpR_eq a b]
  exact (TO.key (·.top)).lex ((TO.key (·.left)).lex ((TO.yek (·.bot)).lex ((TO.yek (·.right)).lex ((TO.key (·.kind)).lex ((TO.bytes0.pull (fun r : Reg => r.label.data.toList)).lex ((TO.key (·.id)).lex (TO.key (·.par))))))))
theorem firstL_zero : ∀ {l : List Int}, firstL l = 0 → ∀ x ∈ l, x = 0
  | [], _, _, h => by cases h
  | y :: t, h0, x, h => by
    unfold firstL at h0
    split at h0
    · rename_i hy
      rcases List.mem_cons.1 h with rfl | h
      · exact hy
      · exact firstL_zero h0 x h
    · rename_i hy; exact absurd h0 hy
theorem cmpR_zero {a b : Reg} (h : cmpR a b = 0) : a = b := by
  have H := firstL_zero h
  have h1 := H _ (List.mem_cons_self ..)
  simp only [keyL, List.mem_cons, List.not_mem_nil, or_false, forall_eq_or_imp, forall_eq] at H
  obtain ⟨e1, e2, e3, e4, e5, e6, e7, e8⟩ := H
  cases a; cases b
  simp only [compareInt_eq] at *
  have := ba_ext (compareBytes_eq e6)
  simp_all
theorem cmpR_self (a : Reg) : cmpR a a = 0 := by
  have h := cmpTO.anti a a
  omega
def ltR (a b : Reg) : Bool := decide (cmpR a b < 0)
theorem swoR : Go.Sort.SWO ltR where
  irrefl x := by simp [ltR, cmpR_self]
  trans x y z h1 h2 := by
    simp only [ltR, decide_eq_true_eq] at *
    exact cmpTO.lt_le x y z h1 (by omega)
  ntrans x y z h1 h2 := by
    simp only [ltR, decide_eq_false_iff_not] at *
    have a1 := cmpTO.anti x y
    have a2 := cmpTO.anti y x
    have a3 := cmpTO.anti y z
    have a4 := cmpTO.anti z y
    have a5 := cmpTO.anti x z
    have a6 := cmpTO.anti z x
    have b1 := cmpTO.lt_le z y x
    have b2 := cmpTO.le_lt z y x
    have b3 := cmpTO.eq x y z
    omega
def leR (a b : Reg) : Prop := cmpR a b ≤ 0
theorem sorted_eq {l m : List Reg} (h1 : l.Pairwise leR) (h2 : m.Pairwise leR) (h : l.Perm m) : l = m :=
  h.eq_of_pairwise (fun a b _ _ hab hba => cmpR_zero (by
    have a1 := cmpTO.anti a b
    unfold leR at hab hba
    omega)) h1 h2
end Go.Proofs.Ytgmodadgmnfhgaa
