/- Joined texts: Wd2, Ut3, Cl0, Pa0, Near, Gk. -/
import Derived.Laws.StructEq
import Derived.Test.YtholajadbbdcmaaGreatDoorQAA
import Derived.Test.YtholajadbbdcmaaGreatDoorQAB
import Derived.Test.YtholajadbbdcmaaGreatDoorQAC
import Derived.Test.YtholajadbbdcmaaGreatDoorQAD
import Derived.Test.YtholajadbbdcmaaGreatDoorQAE
import Derived.Test.YtholajadbbdcmaaGreatDoorQAF
set_option linter.unusedVariables false
set_option linter.unusedSimpArgs false
set_option linter.unnecessarySimpa false
namespace Go.Proofs.YtholajadbbdcmaaGreatDoor
def bCap : ByteArray := ⟨#[99, 97, 112]⟩
def bCaps : ByteArray := ⟨#[99, 97, 112, 115]⟩
def bWord : ByteArray := ⟨#[119, 111, 114, 100]⟩
def bSpace : ByteArray := ⟨#[115, 112, 97, 99, 101]⟩
def bTimes : ByteArray := ⟨#[116, 105, 109, 101, 115]⟩
def bSpelled : ByteArray := ⟨#[115, 112, 101, 108, 108, 101, 100]⟩
def bEnd : ByteArray := ⟨#[101, 110, 100]⟩
def bDigits : ByteArray := ⟨#[100, 105, 103, 105, 116, 115]⟩
def bJoined : ByteArray := ⟨#[106, 111, 105, 110, 101, 100]⟩
def styB : Nat → ByteArray
 | 0 => ⟨#[112, 108, 97, 105, 110]⟩
 | 1 => ⟨#[115, 116, 114, 111, 110, 103]⟩
 | 2 => ⟨#[105, 110, 118, 101, 114, 115, 101]⟩
 | _ => ⟨#[104, 105, 100, 100, 101, 110]⟩
def ctrlL : List ByteArray := [cB, bJoined, bCap, bCaps, bWord, bSpace, bTimes, bSpelled, bEnd, bDigits, styB 0, styB 1, styB 2, styB 3,
 ⟨#[115, 105, 122, 101]⟩, ⟨#[114, 111, 119, 115]⟩, ⟨#[99, 111, 108, 117, 109, 110, 115]⟩, ⟨#[115, 99, 114, 111, 108, 108]⟩, ⟨#[108, 105, 110, 101]⟩, ⟨#[108, 105, 110, 101, 115]⟩, ⟨#[102, 114, 111, 109]⟩, ⟨#[116, 111]⟩, ⟨#[117, 112]⟩, ⟨#[100, 111, 119, 110]⟩,
 ⟨#[99, 111, 108, 117, 109, 110]⟩, ⟨#[114, 101, 112, 108, 97, 99, 101]⟩, ⟨#[119, 105, 116, 104]⟩, ⟨#[105, 110, 115, 101, 114, 116]⟩, ⟨#[100, 101, 108, 101, 116, 101]⟩, ⟨#[99, 117, 114, 115, 111, 114]⟩, ⟨#[118, 105, 115, 105, 98, 108, 101]⟩, ⟨#[105, 110, 118, 105, 115, 105, 98, 108, 101]⟩,
 ⟨#[109, 111, 114, 101]⟩, ⟨#[100, 111, 110, 101]⟩, ⟨#[117, 112, 100, 97, 116, 101, 115]⟩, ⟨#[114, 101, 97, 100, 115]⟩, ⟨#[115, 116, 111, 112]⟩, ⟨#[98, 108, 97, 110, 107]⟩, ⟨#[98, 121]⟩]
def isNumW (s : ByteArray) : Bool := (List.range 32).any fun j => decide (wb j = s)
def resB (s : ByteArray) : Bool := ctrlL.any (fun x => decide (x = s)) || isNumW s || (List.range 32).any fun j => decide (nb j = s)
def headB (g : Gl) : UInt8 := g.text.data.toList.headD 0
def lowB (c : UInt8) : UInt8 := if 65 ≤ c.toNat ∧ c.toNat ≤ 90 then c + 32 else c
def lowL (l : List Gl) : List UInt8 := l.map fun g => lowB (headB g)
def lettersL (l : List Gl) (spell : Bool) : List ByteArray :=
 (if (l.filter fun g => kindL g == 2).length = 1 then [bCap] else if 1 < (l.filter fun g => kindL g == 2).length then [bCaps] else []) ++
 (if spell = true then bSpelled :: ((lowL l).map fun c => (⟨#[c]⟩ : ByteArray)) ++ [bEnd] else (if resB ⟨(lowL l).toArray⟩ = true then [bWord] else []) ++ [⟨(lowL l).toArray⟩])
def digL (l : List Gl) : List Nat := l.map fun g => (headB g).toNat - 48
def numL (l : List Nat) : Nat := l.foldl (fun n d => 10 * n + d) 0
def numW (n : Nat) : List ByteArray := (wordsL (n : Int)).map wb
def digitsL (l : List Gl) (dig : Bool) : List ByteArray :=
 if dig = true ∨ 9 < l.length ∨ (1 < l.length ∧ (digL l).headD 1 = 0) then bDigits :: (digL l).flatMap numW else numW (numL (digL l))
def singleL (g : Gl) : List ByteArray := if g.text.data.toList = [32] then [bSpace] else (charsL (bytN g.text)).flatMap fun (r : Nat) => spellL (r : Int)
def spokenL (l : List Gl) (spell dig : Bool) : List ByteArray := match l with
 | [] => []
 | g :: t =>
  if kindL g = 1 ∨ kindL g = 2 then lettersL (g :: t) spell
  else if kindL g = 3 then digitsL (g :: t) dig
  else if t = [] then singleL g
  else numW (t.length + 1) ++ [bTimes] ++ singleL g
structure Spk where
 out : List ByteArray
 style : Int
 before : Nat
 silent : Bool
structure Setts where
 digits : Bool
 spell : Bool
 rep : Int
def skipsB (p : Spk) (s : Setts) (l : List Gl) (n : Nat) : Bool := match l with
 | a :: b :: t => decide (n = 1) && decide (a.text.data.toList = [32]) && decide (p.before ≠ 0) && decide (a.style = p.style) && decide (kindL b ≠ 0) && decide (b.style = p.style) &&
   (decide (p.before ≠ 3) || !(isNumW ((spokenL ((b :: t).take (pieceL (b :: t) s.rep)) s.spell s.digits).headD ⟨#[]⟩)))
 | _ => false
def sayL (p : Spk) (s : Setts) (l : List Gl) : Spk := match l with
 | [] => p
 | g :: t =>
  let w := spokenL (g :: t) s.spell s.digits
  ⟨p.out ++ (if g.style ≠ p.style then [styB g.style.toNat] else if kindL g ≠ 0 ∧ p.before ≠ 0 then (if p.silent = true then [] else [bJoined])
    else if p.out ≠ [] ∧ isNumW (w.headD ⟨#[]⟩) = true ∧ isNumW (p.out.getLastD ⟨#[]⟩) = true then [bJoined] else []) ++ w, g.style, kindL g, false⟩
def wordsFrom (s : Setts) : Nat → Spk → List Gl → Spk
 | 0, p, _ => p
 | f + 1, p, l => if l = [] then p else
  if skipsB p s l (pieceL l s.rep) = true then wordsFrom s f { p with silent := true } (l.drop (pieceL l s.rep))
  else wordsFrom s f (sayL p s (l.take (pieceL l s.rep))) (l.drop (pieceL l s.rep))
def spokenWords (l : List Gl) (s : Setts) : List ByteArray := (wordsFrom s l.length ⟨[], 0, 0, false⟩ l).out
def InvU (s : US) : Prop :=
 (s.m = 1 → ∀ b, s.lo ≤ b → b ≤ s.hi → isChN (s.v * 64 + b % 64)) ∧
 (s.m = 2 → ∀ b c, s.lo ≤ b → b ≤ s.hi → 128 ≤ c → c ≤ 191 → isChN ((s.v * 64 + b % 64) * 64 + c % 64)) ∧
 (s.m = 3 → ∀ b c d, s.lo ≤ b → b ≤ s.hi → 128 ≤ c → c ≤ 191 → 128 ≤ d → d ≤ 191 → isChN (((s.v * 64 + b % 64) * 64 + c % 64) * 64 + d % 64)) ∧ s.m ≤ 3
theorem InvU.zero {s : US} (h : s.m = 0) : InvU s := ⟨fun e => (by omega), fun e => (by omega), fun e => (by omega), by omega⟩
theorem begU_inv (b : Nat) : InvU (begU b) := by
 by_cases h2 : 0xC2 ≤ b ∧ b ≤ 0xDF
 ·rw [begU_two h2.1 h2.2]
  refine ⟨fun _ x h3 h4 => ?_, fun e => (by cases e), fun e => (by cases e), by show 1 ≤ 3; omega⟩
  dsimp only at *
  unfold isChN
  omega
 ·by_cases h3 : 0xE0 ≤ b ∧ b ≤ 0xEF
  ·rw [begU_three h3.1 h3.2]
   refine ⟨fun e => (by cases e), fun _ x y h4 h5 h6 h7 => ?_, fun e => (by cases e), by show 2 ≤ 3; omega⟩
   dsimp only at *
   unfold isChN
   split at h4 <;> split at h5 <;> omega
  ·by_cases h4 : 0xF0 ≤ b ∧ b ≤ 0xF4
   ·rw [begU_four h4.1 h4.2]
    refine ⟨fun e => (by cases e), fun e => (by cases e), fun _ x y z h5 h6 h7 h8 h9 h10 => ?_, by show 3 ≤ 3; omega⟩
    dsimp only at *
    unfold isChN
    split at h5 <;> split at h6 <;> omega
   ·refine InvU.zero ?_
    show (if 0xC2 ≤ b ∧ b ≤ 0xDF then 1 else if 0xE0 ≤ b ∧ b ≤ 0xEF then 2 else if 0xF0 ≤ b ∧ b ≤ 0xF4 then 3 else 0) = 0
    rw [if_neg h2, if_neg h3, if_neg h4]
theorem uTake_iff {s : US} {b : Nat} : uTake s b = true ↔ 0 < s.m ∧ s.lo ≤ b ∧ b ≤ s.hi := by
 unfold uTake
 simp [and_assoc]
theorem uNext_inv {s : US} (h : InvU s) (b : Nat) : InvU (uNext s b) := by
 unfold uNext
 split
 ·rename_i ht
  obtain ⟨h0, h1, h2⟩ := uTake_iff.1 ht
  obtain ⟨i1, i2, i3, i4⟩ := h
  refine ⟨fun e x h3 h4 => ?_, fun e x y h3 h4 h5 h6 => ?_, fun e => ?_, ?_⟩
  ·exact i2 (by dsimp only at e; omega) b x h1 h2 h3 h4
  ·exact i3 (by dsimp only at e; omega) b x y h1 h2 h3 h4 h5 h6
  ·dsimp only at e; omega
  ·dsimp only; omega
 ·exact begU_inv b
theorem uOut_ch {s : US} (h : InvU s) (b : Nat) : ∀ r ∈ uOut s b, isChN r := by
 have hu : isChN 65533 := by unfold isChN; omega
 unfold uOut
 split
 ·rename_i ht
  obtain ⟨h0, h1, h2⟩ := uTake_iff.1 ht
  split
  ·rename_i h3
   intro r hr
   rw [List.mem_singleton] at hr
   subst hr
   exact h.1 h3 b h1 h2
  ·intro r hr; cases hr
 ·intro r hr
  rcases List.mem_append.1 hr with hr | hr
  ·split at hr
   ·rw [List.mem_singleton] at hr; subst hr; exact hu
   ·cases hr
  ·split at hr
   ·rw [List.mem_singleton] at hr; subst hr; unfold isChN; omega
   ·split at hr
    ·rw [List.mem_singleton] at hr; subst hr; exact hu
    ·cases hr
theorem uRun_ch : ∀ (l : List Nat) (s : US) (out : List Nat), InvU s → (∀ r ∈ out, isChN r) → (∀ r ∈ (uRun l (s, out)).2, isChN r) ∧ InvU (uRun l (s, out)).1
 | [], s, out, h, ho => ⟨ho, h⟩
 | b :: l, s, out, h, ho => uRun_ch l _ _ (uNext_inv h b) fun r hr => by
  rcases List.mem_append.1 hr with hr | hr
  ·exact ho r hr
  ·exact uOut_ch h b r hr
theorem charsL_ch (l : List Nat) : ∀ r ∈ charsL l, isChN r := (uRun_ch l u0 [] (InvU.zero rfl) fun _ h => by cases h).1
def validB (s : ByteArray) : Bool := decide (encL_ (charsL (bytN s)) = bytN s)
theorem validB_pend {s : ByteArray} (h : validB s = true) : (uRun (bytN s) (u0, [])).1.m = 0 := by
 rw [validB, decide_eq_true_eq] at h
 obtain ⟨s', e, h0⟩ := uRun_encs (charsL (bytN s)) (charsL_ch _) u0 rfl []
 rw [h] at e
 rw [e]
 exact h0
theorem validB_of {s : ByteArray} (h : validN s s.size 0) : validB s = true := by
 obtain ⟨h1, h2⟩ := runesN_enc s s.size 0 (by omega) h
 rw [List.drop_zero] at h1
 rw [validB, decide_eq_true_eq, ← h1, charsL_enc h2]
theorem enc_dec {n b0 b1 b2 b3 r : Nat} (hr : isChN r) (hn : (encN r).length ≤ n) (he : encN r = [b0, b1, b2, b3].take (encN r).length) : Lib.decodeN n b0 b1 b2 b3 = (r, (encN r).length) := by
 unfold isChN at hr
 unfold encN at *
 split at he
 ·rename_i h
  simp only [if_pos h, List.length_cons, List.length_nil, List.take_succ_cons, List.take_zero, List.cons.injEq, and_true, Nat.zero_add] at *
  unfold Lib.decodeN
  rw [if_pos (by omega)]
  simp only [Prod.mk.injEq, and_true]
  omega
 ·split at he
  ·rename_i h1 h
   simp only [if_neg h1, if_pos h, List.length_cons, List.length_nil, List.take_succ_cons, List.take_zero, List.cons.injEq, and_true, Nat.zero_add] at *
   obtain ⟨e0, e1⟩ := he
   unfold Lib.decodeN
   split
   ·omega
   ·split
    ·split
     ·simp only [Prod.mk.injEq, and_true]; omega
     ·omega
    ·omega
  ·split at he
   ·rename_i h1 h2 h
    simp only [if_neg h1, if_neg h2, if_pos h, List.length_cons, List.length_nil, List.take_succ_cons, List.take_zero, List.cons.injEq, and_true, Nat.zero_add] at *
    obtain ⟨e0, e1, e2⟩ := he
    unfold Lib.decodeN
    split
    ·omega
    ·split
     ·omega
     ·split
      ·split
       ·simp only [Prod.mk.injEq, and_true]; omega
       ·omega
      ·omega
   ·rename_i h1 h2 h3
    simp only [if_neg h1, if_neg h2, if_neg h3, List.length_cons, List.length_nil, List.take_succ_cons, List.take_zero, List.cons.injEq, and_true, Nat.zero_add] at *
    obtain ⟨e0, e1, e2, e3⟩ := he
    unfold Lib.decodeN
    split
    ·omega
    ·split
     ·omega
     ·split
      ·omega
      ·split
       ·split
        ·simp only [Prod.mk.injEq, and_true]; omega
        ·omega
       ·omega
theorem encN_pos (r : Nat) : 0 < (encN r).length ∧ (encN r).length ≤ 4 := by
 unfold encN
 split
 ·simp
 ·split
  ·simp
  ·split <;> simp
theorem validN_of_enc (s : ByteArray) : ∀ (f : Nat) (rs : List Nat) (i : Nat), (∀ r ∈ rs, isChN r) → encL_ rs = (bytN s).drop i → validN s f i
 | 0, _, _, _, _ => trivial
 | f + 1, rs, i, h, he => by
  rw [validN]
  by_cases hi : i < s.size
  ·rw [if_pos hi]
   cases rs with
   | nil =>
    have := congrArg List.length he
    simp [encL_, bytN_len] at this
    omega
   | cons r t =>
    have e : encL_ (r :: t) = encN r ++ encL_ t := by simp [encL_]
    rw [e] at he
    have hl := congrArg List.length he
    rw [List.length_append, List.length_drop, bytN_len] at hl
    have hp := encN_pos r
    have h1 : encN r = ((bytN s).drop i).take (encN r).length := by rw [← he, List.take_left]
    have hd : Utf8.decode s i = (r, (encN r).length) := by
     rw [Lib.decode_at]
     refine enc_dec (h r (by simp)) (by omega) ?_
     rw [h1]
     apply List.ext_getElem
     ·simp [bytN_len]; omega
     ·intro j h1 h2
      have hj : j < (encN r).length := by simp at h2; omega
      rw [List.getElem_take, List.getElem_take, List.getElem_drop, bytN_get s (i + j) (by omega)]
      have hc : j = 0 ∨ j = 1 ∨ j = 2 ∨ j = 3 := by omega
      rcases hc with rfl | rfl | rfl | rfl <;> rfl
    rw [hd]
    refine ⟨fun hc => ?_, validN_of_enc s f t (i + (encN r).length) (fun x hx => h x (by simp [hx])) ?_⟩
    ·obtain ⟨hc1, hc2⟩ := hc
     simp only at hc1 hc2
     subst hc1
     exact absurd hc2 (by decide)
    ·rw [← List.drop_drop, ← he, List.drop_left]
  ·rw [if_neg hi]
   trivial
theorem validB_iff (s : ByteArray) : validB s = true ↔ validN s s.size 0 := by
 refine ⟨fun h => ?_, validB_of⟩
 rw [validB, decide_eq_true_eq] at h
 exact validN_of_enc s s.size _ 0 (charsL_ch _) (by rw [h, List.drop_zero])
def encB (r : Nat) : ByteArray := ⟨((encN r).map fun b => UInt8.ofNat b).toArray⟩
def checkC (s : ByteArray) : Int := if validB s = false then 3 else match charsL (bytN s) with
 | [] => 3
 | r :: t => if widL (r : Int) < 1 ∨ (t.all fun (x : Nat) => inT markT (x : Int)) = false then 9 else if 3 < t.length then 5 else 0
def widthC (s : ByteArray) : Int := if checkC s = 0 then widL (((charsL (bytN s)).headD 0 : Nat) : Int) else 0
def attachC (s : ByteArray) (r : Int) : ByteArray × Int :=
 if checkC s ≠ 0 then (⟨#[]⟩, checkC s) else if inT markT r = false then (⟨#[]⟩, 9) else if 4 ≤ (charsL (bytN s)).length then (⟨#[]⟩, 5) else (s ++ encB r.toNat, 0)
theorem checkC_nonempty {s : ByteArray} (h : s.size = 0) : checkC s = 3 := by
 have e : bytN s = [] := List.eq_nil_of_length_eq_zero (by rw [bytN_len]; exact h)
 unfold checkC
 split
 ·rfl
 ·rw [e]; rfl
theorem checkC_zero {s : ByteArray} : checkC s = 0 ↔ validB s = true ∧ ∃ r t, charsL (bytN s) = r :: t ∧ 1 ≤ widL (r : Int) ∧ (t.all fun (x : Nat) => inT markT (x : Int)) = true ∧ t.length ≤ 3 := by
 unfold checkC
 constructor
 ·intro h
  split at h
  ·cases h
  ·rename_i hv
   split at h
   ·cases h
   ·rename_i r t ht
    split at h
    ·cases h
    ·rename_i hw
     split at h
     ·cases h
     ·rename_i hl
      rw [not_or] at hw
      exact ⟨by simpa using hv, r, t, ht, by omega, by simpa using hw.2, by omega⟩
 ·rintro ⟨hv, r, t, ht, hw, ha, hl⟩
  rw [if_neg (by simp [hv]), ht]
  simp only
  rw [if_neg (by rw [not_or]; exact ⟨by omega, by simp [ha]⟩), if_neg (by omega)]
end Go.Proofs.YtholajadbbdcmaaGreatDoor
namespace Go.Proofs.YtholajadbbdcmaaGreatDoor
open Go.RowKit
def azB (s : ByteArray) : Bool := !(s.data.toList.isEmpty) && s.data.toList.all fun c => decide (97 ≤ c.toNat) && decide (c.toNat ≤ 122)
structure Prs where
 words : List ByteArray
 out : List Gl
 style : Int
 joins : Bool
def chG (st : Int) (c : UInt8) : Gl := ⟨⟨#[c]⟩, false, st⟩
def textG (j : Bool) (st : Int) (s : ByteArray) : List Gl := (if j = true then [chG st 32] else []) ++ s.data.toList.map (chG st)
def textL (p : Prs) (s : ByteArray) (k : Nat) : Prs := ⟨p.words.drop k, p.out ++ textG p.joins p.style s, p.style, true⟩
def addL (out : List Gl) (st : Int) (r : Int) (times : Nat) : Bool × List Gl :=
 if widL r < 0 then (false, out)
 else if widL r = 0 then
  (if 1 < times then (false, out) else match out.getLast? with
   | none => (false, out)
   | some g => ((attachC g.text r).2 == 0, out.dropLast ++ [⟨(attachC g.text r).1, g.wide, g.style⟩]))
 else (true, out ++ List.replicate times ⟨encB r.toNat, decide (widL r = 2), st⟩)
def oneB (s : ByteArray) : Bool := azB s && decide (s.size = 1)
def spelledL (t : List ByteArray) : Option (ByteArray × Nat) :=
 if (t.takeWhile oneB).length = 0 then none
 else if t[(t.takeWhile oneB).length]? = some bEnd then some (⟨((t.takeWhile oneB).flatMap fun s => s.data.toList).toArray⟩, (t.takeWhile oneB).length + 2) else none
def litL : List ByteArray → Option (ByteArray × Nat)
 | [] => none
 | a :: t => if a = bWord ∧ azB (t.headD ⟨#[]⟩) = true then some (t.headD ⟨#[]⟩, 2)
  else if azB a = true ∧ resB a = false then some (a, 1)
  else if a = bSpelled then spelledL t else none
def upB (c : UInt8) : UInt8 := if 97 ≤ c.toNat ∧ c.toNat ≤ 122 then c - 32 else c
def raiseL (s : ByteArray) (n : Nat) : ByteArray := ⟨((s.data.toList.take n).map upB ++ s.data.toList.drop n).toArray⟩
def styIdx (s : ByteArray) : Option Nat := (List.range 4).find? fun i => decide (styB i = s)
def styledL (p : Prs) : Option Prs := match p.words with
 | [] => none
 | a :: t => match styIdx a with
  | some i => some ⟨t, p.out, (i : Nat), false⟩
  | none => if a = bJoined then some ⟨t, p.out, p.style, false⟩ else none
def wordL (p : Prs) : Option Prs := match p.words with
 | [] => none
 | a :: t =>
  if a = bCap then (litL t).map fun (s, n) => textL p (raiseL s 1) (1 + n)
  else if a = bCaps then (litL t).map fun (s, n) => textL p (raiseL s s.size) (1 + n)
  else (litL (a :: t)).map fun (s, n) => textL p s n
def dgW (s : ByteArray) : Option Nat := (List.range 10).find? fun i => decide (wb i = s)
def dgsL (t : List ByteArray) : List Nat := (t.takeWhile fun s => (dgW s).isSome).map fun s => (dgW s).getD 0
def dgStr (D : List Nat) : ByteArray := ⟨(D.map fun d => UInt8.ofNat (48 + d)).toArray⟩
def figL (p : Prs) : Option Prs := match p.words with
 | [] => none
 | a :: t => if a = bDigits ∧ dgsL t ≠ [] then some (textL p (dgStr (dgsL t)) (1 + (dgsL t).length)) else none
def charW : List ByteArray → Option (Int × Nat)
 | [] => none
 | a :: t => if a = bSpace then some (32, 1) else unspellL (a :: t)
def signL (p : Prs) : Option Prs := match charW p.words with
 | none => none
 | some (r, n) => if (addL p.out p.style r 1).1 = true then some ⟨p.words.drop n, (addL p.out p.style r 1).2, p.style, false⟩ else none
def decT (n : Nat) : List UInt8 := if h : n < 10 then [UInt8.ofNat (48 + n)] else decT (n / 10) ++ [UInt8.ofNat (48 + n % 10)]
termination_by n
decreasing_by omega
def amtL (p : Prs) : Option Prs := match prefixL p.words with
 | none => none
 | some (n, k) => if n < 0 then none
  else if p.words[k]? = some bTimes then (match charW (p.words.drop (k + 1)) with
   | none => none
   | some (r, m) => if 2 ≤ n ∧ n ≤ 132 ∧ (addL p.out p.style r n.toNat).1 = true then some ⟨p.words.drop (k + 1 + m), (addL p.out p.style r n.toNat).2, p.style, false⟩ else none)
  else some (textL p ⟨(decT n.toNat).toArray⟩ k)
def partL (p : Prs) : Option Prs := (styledL p).orElse fun _ => (wordL p).orElse fun _ => (figL p).orElse fun _ => (signL p).orElse fun _ => amtL p
def readL : Nat → Prs → Option (List Gl)
 | 0, p => some p.out
 | f + 1, p => if p.words = [] then some p.out else match partL p with
  | none => none
  | some q => readL f q
def glyphsL (l : List ByteArray) : Option (List Gl) := readL l.length ⟨l, [], 0, false⟩
structure Near (B : Nat) (wb : World) where
 w : World
 h : Below B wb w
instance {B : Nat} {wb : World} : Nonempty (Near B wb) := ⟨⟨wb, Below.refl B wb⟩⟩
theorem wp_region_near {P : Program} {id : Nat} {Q : Exit → Act → World → Prop} {a : Act} {w : World} {l : List Oper} (B : Nat) (hm : P.follows .mixedOrders = true) (hB : Region.lexB .any l.toArray = true)
  (h : wpQuiet P l.toArray (fun w' => ∃ x : Near B w, w' = x.w) (fun a' => ∀ w', (∃ x : Near B w, w' = x.w) → Q .normal a' w') l a) : (Code.region id l.toArray true).wp P Q a w :=
 wp_region_quiet (C := fun w' => ∃ x : Near B w, w' = x.w) hm hB ⟨⟨w.drew, (Below.refl B w).drew⟩, rfl⟩ (by simpa using h)
theorem Calls.near {P : Program} {f : FuncId} {args : Array Value} {B : Nat} {wb : World} {v : Value} (x : Near B wb) (hB : B ≤ wb.heap.size) (h : Calls P f args x.w (Gives v x.w)) :
  Calls P f args x.w fun e w'' => e = .returned v ∧ ∃ y : Near B wb, w'' = y.w :=
 h.mono fun _ w'' ⟨he, hb⟩ => ⟨he, ⟨w'', x.h.trans (hb.mono (Nat.le_trans hB x.h.size))⟩, rfl⟩
def encG (g : Gl) : List Value := [.string g.text, .bool g.wide, .int .i64 g.style]
def encGs (l : List Gl) : List Value := l.flatMap encG
abbrev glV (g : Gl) : Value := .agg #[.string g.text, .bool g.wide, .int .i64 g.style]
theorem encG_len (g : Gl) : (encG g).length = 3 := rfl
theorem encGs_cons (g : Gl) (l : List Gl) : encGs (g :: l) = encG g ++ encGs l := by simp [encGs]
theorem encGs_app (a b : List Gl) : encGs (a ++ b) = encGs a ++ encGs b := by simp [encGs]
theorem encGs_len : ∀ l : List Gl, (encGs l).length = l.length * 3
 | [] => rfl
 | r :: l => by
  rw [encGs_cons, List.length_append, encGs_len l, encG_len, List.length_cons]
  omega
theorem encGs_get : ∀ (l : List Gl) (i j : Nat), j < 3 → (encGs l)[i * 3 + j]? = l[i]?.bind fun r => (encG r)[j]?
 | [], i, j, _ => by simp [encGs]
 | r :: l, 0, j, h => by
  rw [encGs_cons, Nat.zero_mul, Nat.zero_add, List.getElem?_append_left (by rw [encG_len]; exact h)]
  rfl
 | r :: l, i + 1, j, h => by
  rw [encGs_cons, List.getElem?_append_right (by rw [encG_len]; omega), encG_len, show (i + 1) * 3 + j - 3 = i * 3 + j by omega, encGs_get l i j h]
  rfl
theorem encGs_take (l : List Gl) (k : Nat) : encGs (l.take k) = (encGs l).take (k * 3) := by
 induction l generalizing k with
 | nil => simp [encGs]
 | cons g t ih =>
  cases k with
  | zero => simp [encGs]
  | succ k => rw [List.take_succ_cons, encGs_cons, encGs_cons, ih, show (k + 1) * 3 = (encG g).length + k * 3 by rw [encG_len]; omega, List.take_length_add_append]
theorem encGs_drop (l : List Gl) (k : Nat) : encGs (l.drop k) = (encGs l).drop (k * 3) := by
 induction l generalizing k with
 | nil => simp [encGs]
 | cons g t ih =>
  cases k with
  | zero => simp
  | succ k => rw [List.drop_succ_cons, encGs_cons, ih, show (k + 1) * 3 = (encG g).length + k * 3 by rw [encG_len]; omega, List.drop_length_add_append]
theorem encGs_cells (l : List Gl) : (encGs l).all Value.oneCell' = true := by
 rw [List.all_eq_true]
 intro u hu
 rw [encGs, List.mem_flatMap] at hu
 obtain ⟨g, _, hu⟩ := hu
 simp only [encG, List.mem_cons, List.not_mem_nil, or_false] at hu
 rcases hu with rfl | rfl | rfl <;> rfl
theorem rd_gl {w : World} {B n : Nat} {A : Option Addr} {l : List Gl} (rd : Rd w B 3 A n (encGs l)) {k : Nat} (hk : k < l.length) (hn : l.length = n) : ∃ b o, A = some ⟨b, o, none⟩ ∧ b < B ∧ (w.cell? ⟨b, (o + k * 3), none⟩ = some (.string l[k].text) ∧ w.cell? ⟨b, (o + k * 3) + 1, none⟩ = some (.bool l[k].wide) ∧ w.cell? ⟨b, (o + k * 3) + 2, none⟩ = some (.int .i64 l[k].style)) := by
 obtain ⟨b, o, e, hb, hc⟩ := rd.2 (by omega)
 have h : ∀ j, j < 3 → ∀ u, (encG l[k])[j]? = some u → w.cell? ⟨b, o + k * 3 + j, none⟩ = some u := fun j hj u hu => by
  have := hc (k * 3 + j) u (by rw [encGs_get _ _ _ hj, List.getElem?_eq_getElem hk]; exact hu)
  rwa [← Nat.add_assoc] at this
 exact ⟨b, o, e, hb, h 0 (by omega) _ rfl, h 1 (by omega) _ rfl, h 2 (by omega) _ rfl⟩
theorem c3_below {w w' : World} {B b o : Nat} {r : Gl} (h : (w.cell? ⟨b, o, none⟩ = some (.string r.text) ∧ w.cell? ⟨b, o + 1, none⟩ = some (.bool r.wide) ∧ w.cell? ⟨b, o + 2, none⟩ = some (.int .i64 r.style))) (hb : Below B w w') (hB : b < B) : (w'.cell? ⟨b, o, none⟩ = some (.string r.text) ∧ w'.cell? ⟨b, o + 1, none⟩ = some (.bool r.wide) ∧ w'.cell? ⟨b, o + 2, none⟩ = some (.int .i64 r.style)) := by
 obtain ⟨h0, h1, h2⟩ := h
 exact ⟨(hb.cell hB).trans h0, (hb.cell hB).trans h1, (hb.cell hB).trans h2⟩
theorem c3_near {wb : World} {B b o : Nat} {r : Gl} (h : (wb.cell? ⟨b, o, none⟩ = some (.string r.text) ∧ wb.cell? ⟨b, o + 1, none⟩ = some (.bool r.wide) ∧ wb.cell? ⟨b, o + 2, none⟩ = some (.int .i64 r.style))) (hB : b < B) : ∀ x : Near B wb, (x.w.cell? ⟨b, o, none⟩ = some (.string r.text) ∧ x.w.cell? ⟨b, o + 1, none⟩ = some (.bool r.wide) ∧ x.w.cell? ⟨b, o + 2, none⟩ = some (.int .i64 r.style)) := fun x => c3_below h x.h hB
theorem wp_fg {P : Program} {c : Code} {Q : Exit → Act → World → Prop} {a : Act} {w : World} (F : World → Prop) (h : F w) (k : ∀ w', F w' → c.wp P Q a w') : c.wp P Q a w := k w h
def GlBox (w : World) (t : ByteArray) (wd : Bool) (st : Int) (wx : World) : Prop := wx.cell? ⟨w.heap.size, 0, none⟩ = some (.string t) ∧ wx.cell? ⟨w.heap.size, 1, none⟩ = some (.bool wd) ∧ wx.cell? ⟨w.heap.size, 2, none⟩ = some (.int .i64 st) ∧ Below w.heap.size w wx ∧ w.heap.size + 1 ≤ wx.heap.size
theorem GlBox.new (w : World) (t : ByteArray) (wd : Bool) (st : Int) (ty : TypeId) : GlBox w t wd st (w.alloc (.cells #[.string t, .bool wd, .int .i64 st] ty)) := ⟨cell_built w _ _ 0, cell_built w _ _ 1, cell_built w _ _ 2, (Below.refl _ _).alloc (Nat.le_refl _) _, by simp⟩
theorem GlBox.on {w wx wy : World} {t : ByteArray} {wd : Bool} {st : Int} (h : GlBox w t wd st wx) (hb : Below wx.heap.size wx wy) : GlBox w t wd st wy := by
 obtain ⟨h0, h1, h2, h3, h4⟩ := h
 exact ⟨(hb.cell (by show w.heap.size < _; omega)).trans h0, (hb.cell (by show w.heap.size < _; omega)).trans h1, (hb.cell (by show w.heap.size < _; omega)).trans h2, h3.trans (hb.mono (by omega)), Nat.le_trans h4 hb.size⟩
theorem gl_fields : (Tryz.prog.fieldsOf 89).toList.map (fun f => (f.name == "_", f.type, f.offset)) = [(false, 9, 0), (false, 4, 1), (false, 3, 2)] := by kernel_rfl
theorem eqIn_gl (a b : Gl) (w : World) : (Op.equalIn 10000 89 (glV a) (glV b)).run Tryz.prog w = .ok (decide (a = b)) w := by
 rw [run_equalIn_agg w 9999 _ _ _ (by kernel_rfl) (by kernel_rfl)]
 have h := gl_fields
 generalize (Tryz.prog.fieldsOf 89).toList = fs at *
 have hl : fs.length = 3 := by
  have := congrArg List.length h
  rw [List.length_map] at this
  exact this
 match fs, hl, h with
 | [f0, f1, f2], _, h =>
  simp only [List.map_cons, List.map_nil, List.cons.injEq, Prod.mk.injEq, and_true] at h
  obtain ⟨⟨n0, t0, o0⟩, ⟨n1, t1, o1⟩, ⟨n2, t2, o2⟩⟩ := h
  have q : ∀ f : Field, (f.name == "_") = false → f.name ≠ "_" := fun f h e => by rw [e] at h; simp at h
  have hi := Tryz.underlying3
  have hs := Tryz.underlying9
  have hb := Tryz.underlying4
  simp only [Op.eqFields, if_pos (q f0 n0), if_pos (q f1 n1), if_pos (q f2 n2), t0, t1, t2, o0, o1, o2]
  simp [go_sem, part]
  have e := @Gl.ext_iff' a b
  rw [ByteArray.toList_eq, ByteArray.toList_eq]
  repeat' split
  all_goals simp_all
theorem eq_gl (a b : Gl) (w : World) : (binOp .eql 89 (glV a) (glV b)).run Tryz.prog w = .ok (.bool (decide (a = b))) w := by
 rw [run_eql_struct, eqIn_gl]
 rfl
theorem guard_gl (a b : Gl) (op : BinOp) (x y : Operand) (w : World) : (eqGuard op 89 x y (glV a) (glV b)).run Tryz.prog w = .ok () w := run_eqGuard_agg w op _ x y _ _ (by kernel_rfl)
theorem elt_gl : Elt Tryz.prog 51 89 (.agg #[.string ⟨#[]⟩, .bool false, .int .i64 0]) 3 32 where
 und := Tryz.underlying51
 row := by
  have h : (Tryz.prog.info? 89).map (fun i => (i.zero, i.size, i.bytes)) = some (some (.agg #[.string ⟨#[]⟩, .bool false, .int .i64 0]), 3, 32) := by kernel_rfl
  obtain ⟨i, hi, a, b, c⟩ := info_parts h
  exact ⟨i, hi, a, b, c⟩
 zs := rfl
 pos := by decide
end Go.Proofs.YtholajadbbdcmaaGreatDoor
