/- Joined texts: Rsg3, Rw1, Rw2. -/
import Derived.Test.YtejjfiipghcifaaGreatDoorQAA
import Derived.Test.YtejjfiipghcifaaGreatDoorQAB
import Derived.Test.YtejjfiipghcifaaGreatDoorQAC
import Derived.Test.YtejjfiipghcifaaGreatDoorQAD
import Derived.Test.YtejjfiipghcifaaGreatDoorQAE
import Derived.Test.YtejjfiipghcifaaGreatDoorQAF
import Derived.Test.YtejjfiipghcifaaGreatDoorQAG
import Derived.Test.YtejjfiipghcifaaGreatDoorQAH
import Derived.Test.YtejjfiipghcifaaGreatDoorQAJ
import Derived.Test.YtejjfiipghcifaaGreatDoorQAL
import Derived.Test.YtejjfiipghcifaaGreatDoorQAM
import Derived.Test.YtejjfiipghcifaaGreatDoorQAN
import Derived.Test.YtejjfiipghcifaaGreatDoorQAO
import Derived.Test.YtejjfiipghcifaaGreatDoorQAP
import Derived.Test.YtejjfiipghcifaaGreatDoorQAQ
import Derived.Test.YtejjfiipghcifaaGreatDoorQAR
import Derived.Test.YtejjfiipghcifaaGreatDoorQAW
import Derived.Test.YtejjfiipghcifaaGreatDoorQBJ
import Derived.Test.YtejjfiipghcifaaGreatDoorQBK
set_option linter.unusedVariables false
set_option linter.unusedSimpArgs false
set_option linter.unnecessarySimpa false
namespace Go.Proofs.YtejjfiipghcifaaGreatDoor
open Go.RowKit
set_option maxHeartbeats 800000 in
theorem rspell (r : Int) (w : World) (ht : Tb w) : Calls Tryz.prog 114 #[.int .i32 r] w (GivesOwn 9 1 id w (spellL r).length (sv (spellL r))) := by
 have HCH := Lib.hid (rcharacter r)
 have HSG := Lib.hid (rsign r)
 have HT := Lib.hid ht
 clear ht
 unfold spellL
 unfold isS at HSG
 cases hi : sIdxI r with
 | some i =>
  rw [hi] at HSG
  rw [sign_isChar hi] at HCH
  have HNm : Hid (∀ w, Calls Tryz.prog 144 #[.int .i32 r] w (Gives (.string (nb i)) w)) := Lib.hid fun w => by
   have := rname r w
   unfold rnameV at this
   rwa [hi] at this
  simp only [Option.isSome] at HSG ⊢
  clear hi
  go_enter Tryz.func114, Tryz.ntmps114
  go_wp2_with (first
   | (go_at_call 142; refine (HCH.out _).mono ?_; rintro e w1 ⟨rfl, hbel1⟩)
   | (go_at_call 143; refine (HSG.out _).mono ?_; rintro e w2 ⟨rfl, hbel2⟩; have t2 := hbel1.trans (hbel2.mono hbel1.size))
   | (go_at_call 144; refine (HNm.out _).mono ?_; rintro e w3 ⟨rfl, hbel3⟩; have t3 := t2.trans (hbel3.mono t2.size)))
  go_ret
  exact ⟨_, _, rfl, own_built (xs := [_]) rfl rfl t3.size (by first | omega | (simp only [List.length_cons, List.length_nil]; omega)), t3.alloc t3.size _⟩
 | none =>
  rw [hi] at HSG
  simp only [Option.isSome] at HSG ⊢
  clear hi
  cases hc : isCharB r with
  | true =>
   rw [hc] at HCH
   obtain ⟨h1, h2⟩ := char_range hc
   have HW : Hid (∀ w, Tb w → Calls Tryz.prog 45 #[.int .i64 r] w (GivesOwn 9 1 okPair w (wordsL r).length (wv (wordsL r)))) := Lib.hid fun w ht => rwords_in r (by omega) (by omega) w ht
   have hle := wordsL_le r
   clear hc
   rw [if_pos rfl]
   generalize wordsL r = L at *
   go_enter Tryz.func114, Tryz.ntmps114
   go_wp2_with (first
    | (go_at_call 142; refine (HCH.out _).mono ?_; rintro e w1 ⟨rfl, hbel1⟩)
    | (go_at_call 143; refine (HSG.out _).mono ?_; rintro e w2 ⟨rfl, hbel2⟩; have t2 := hbel1.trans (hbel2.mono hbel1.size))
    | (go_at_call 45; refine (HW.out _ (HT.out.below t2)).mono ?_; rintro e w3 ⟨A3, c3, rfl, hown3, hbel3⟩; have z3 := hbel3.size; have t3 := t2.trans (hbel3.mono t2.size))
    | (at_builtin; refine app_list rfl _ _ _ rfl elt_str (w3.heap.size) _ rfl (own_built (xs := [.string cB]) rfl rfl (Nat.le_refl _) (by omega)) _ _ rfl ((Rd.of_own (hown3.alloc _))) (by first | rfl | exact sv_one _ | exact wv_one _) (by omega) (by omega) (by first | (simp; done) | (simp; omega) | omega) ?_; intro A4 c4 w4 hown4 hbel4 hgr4 hat4; have z4 := hbel4.size; (try simp only [World.size_alloc] at z4); (try simp only [Nat.zero_add, List.nil_append] at hown4)))
   go_ret
   have e : (L.map wb).length + 1 = 1 + L.length := by simp; omega
   have zz := t3.size
   rw [e]
   refine ⟨A4, c4, by rfl, ?_, ?_⟩
   ·refine own_less (base := w3.heap.size) ?_ zz
    simpa [sv, wv, cB, Function.comp_def] using hown4
   ·exact (t3.alloc zz _).trans (hbel4.mono zz)
  | false =>
   rw [hc] at HCH
   clear hc
   simp only [Bool.false_eq_true, if_false]
   go_enter Tryz.func114, Tryz.ntmps114
   go_wp2_with (go_at_call 142; refine (HCH.out _).mono ?_; rintro e w1 ⟨rfl, hbel1⟩)
   go_ret
   exact ⟨none, 0, rfl, own_nil _ _ _ _, hbel1⟩
end Go.Proofs.YtejjfiipghcifaaGreatDoor
namespace Go.Proofs.YtejjfiipghcifaaGreatDoor
open Go.RowKit
set_option maxRecDepth 20000
set_option maxHeartbeats 4000000 in
theorem rsingle (g : Gl) (hz : g.text.size ≤ 1000000) (w : World) (hs : Tb w) :
  Calls Tryz.prog 89 #[glV g] w (GivesOwn 9 1 id w (singleL g).length (sv (singleL g))) := by
 have hq := byte_beq g.text 32
 have HS := Lib.hid hs
 by_cases h1 : g.text.data.toList = [32]
 ·rw [singleL_sp h1]
  rw [decide_eq_true h1] at hq
  obtain ⟨t, wd, st⟩ := g
  dsimp only at *
  clear h1 hs
  go_enter Tryz.func89, Tryz.ntmps89
  go_upto_region 1 with fail
  refine wp_fg (GlBox w t wd st) (GlBox.new w t wd st _) ?_
  rintro wb ⟨c0, _, _, hb0, hz0⟩
  go_wp2
  go_ret
  exact ⟨_, _, rfl, own_built (xs := sv [bSpace]) rfl rfl (by omega) (by simp [sv]), hb0.alloc (by omega) _⟩
 ·rw [singleL_oth h1]
  rw [decide_eq_false h1] at hq
  have HCh := Lib.hid (fun w => rcharacters g.text (by omega) w)
  have hl := charsL_len g.text
  have HI : Hid (∀ (j : Nat) (h : j < (charsL (bytN g.text)).length), (charsL (bytN g.text))[j] ≤ 1114111) := Lib.hid fun j h => by
   have := charsL_ch (bytN g.text) _ (List.getElem_mem h)
   unfold isChN at this
   omega
  generalize charsL (bytN g.text) = L at *
  have HT : Hid (∀ (j : Nat) (h : j < L.length), spellN (L.take (j + 1)) = spellN (L.take j) ++ spellL (L[j] : Int)) := Lib.hid fun j h => spellN_take h
  have HLn : Hid (∀ j, (spellN (L.take j)).length ≤ 16 * j) := Lib.hid fun j => by
   have := spellN_len (L.take j)
   rw [List.length_take] at this
   omega
  have HTA : Hid (L.take L.length = L) := Lib.hid List.take_length
  have HSp : Hid (∀ (r : Nat), r ≤ 1114111 → ∀ w, Tb w → _) := Lib.hid fun r hr w hs => rspell (r : Int) w hs
  have HSl : Hid (∀ r : Nat, (spellL (r : Int)).length ≤ 16) := Lib.hid fun r => spellL_le _
  obtain ⟨t, wd, st⟩ := g
  dsimp only at *
  clear h1 hs
  go_enter Tryz.func89, Tryz.ntmps89
  go_upto_region 1 with fail
  refine wp_fg (GlBox w t wd st) (GlBox.new w t wd st _) ?_
  rintro wb ⟨c0, _, _, hb0, hz0⟩
  have c0' : (wb.alloc (.cells #[] 9)).cell? ⟨w.heap.size, 0, none⟩ = some (.string t) := ((Below.alloc (Below.refl wb.heap.size wb) (Nat.le_refl _) _).cell (by show w.heap.size < _; omega)).trans c0
  go_wp2_with (go_at_call 85; refine (HCh.out _).mono ?_; rintro e w1 ⟨A1, c1, rfl, hown1, hbel1⟩)
  have z1 := hbel1.size
  have HLb : Hid (∀ m, (Value.slice A1 L.length c1).ownBlock = some m → wb.heap.size + 1 ≤ m ∧ m < w1.heap.size) := Lib.hid fun m hm => by have := hown1.lt m hm; rw [World.size_alloc] at this; exact this
  rw [World.size_alloc] at hown1 z1
  have hb1 : Below w.heap.size w w1 := (hb0.alloc (by omega) _).trans (hbel1.mono (by rw [World.size_alloc]; omega))
  have hbb : Below wb.heap.size wb w1 := (Below.alloc (Below.refl _ _) (Nat.le_refl _) _).trans (hbel1.mono (by rw [World.size_alloc]; omega))
  go_loopw [3, 5] (fun v x wr => ∃ (A : Option Addr) (c j : Nat), j ≤ L.length ∧ x = .int .i64 j ∧ v = .slice A (spellN (L.take j)).length c ∧ wr.ownsRow wb.heap.size 9 1 (.slice A (spellN (L.take j)).length c) (spellN (L.take j)).length (sv (spellN (L.take j))) ∧ Below wb.heap.size wb wr ∧ wr.ownsRow (wb.heap.size + 1) 21 1 (.slice A1 L.length c1) L.length (chV L) ∧ w1.heap.size ≤ wr.heap.size ∧ Hid (∀ m, (Value.slice A (spellN (L.take j)).length c).ownBlock = some m → m = wb.heap.size ∨ w1.heap.size ≤ m)) (fun _ x _ => L.length - (intOf x).toNat)
  case atStart => exact ⟨_, _, 0, Nat.zero_le _, rfl, rfl, own_below (own_built (xs := []) rfl rfl (Nat.le_refl _) (by simp [spellN])) hbel1, hbb, hown1, Nat.le_refl _, Lib.hid fun m hm => .inl (by simpa [Value.ownBlock] using hm.symm)⟩
  case round =>
   clear hown1
   obtain ⟨A, c, j, hj, rfl, rfl, hown, hbel, hownL, zL, HB⟩ := hrel
   have hln := HLn.out j
   have zb := hbel.size
   by_cases hlt : j < L.length
   ·obtain ⟨b, o, rfl, hbB, hc⟩ := (Rd.of_own hownL).at_ hlt
    rw [chV_get _ _ hlt] at hc
    have HTj := Lib.hid (HT.out j hlt)
    have hri := HI.out j hlt
    have hsx : Tb wr := HS.out.below (hb0.trans (hbel.mono (by omega)))
    have HSr := Lib.hid (HSp.out L[j] hri wr hsx)
    have hsl := HSl.out L[j]
    have HR : Hid (∀ (w3 w4 : World) (A4 : Option Addr) (n4 c4 : Nat), Below wr.heap.size wr w3 → w3.grownBy w4 (Value.slice A (spellN (L.take j)).length c).ownBlock → ((Value.slice A4 n4 c4).ownBlock = (Value.slice A (spellN (L.take j)).length c).ownBlock ∨ (Value.slice A4 n4 c4).ownBlock = some w3.heap.size) →
      w4.ownsRow (wb.heap.size + 1) 21 1 (.slice (some ⟨b, o, none⟩) L.length c1) L.length (chV L) ∧ (∀ m, (Value.slice A4 n4 c4).ownBlock = some m → m = wb.heap.size ∨ w1.heap.size ≤ m)) := Lib.hid fun w3 w4 A4 n4 c4 h3 hg hat => by
     refine ⟨(own_below hownL h3).kept hg (.inr fun e => ?_), fun m hm => ?_⟩
     ·rcases hm : (Value.slice A (spellN (L.take j)).length c).ownBlock with _ | m
      ·rw [hm] at e
       simp [Value.ownBlock] at e
      ·rw [hm] at e
       have h1 := HLb.out m e
       have h2 := HB.out m hm
       omega
     ·rcases hat with e | e
      ·rw [e] at hm
       exact HB.out m hm
      ·rw [e] at hm
       injection hm with hm
       right
       have := h3.size
       omega
    generalize L[j] = r at *
    generalize spellL (r : Int) = SL at *
    generalize spellN (L.take j) = F at *
    go_wp2_with (first
     | (go_at_call 114; refine HSr.out.mono ?_; rintro e w3 ⟨A3, c3, rfl, hown3, hbel3⟩; have z3 := hbel3.size)
     | (at_builtin; go_must (refine app_list rfl _ _ _ rfl elt_str (wb.heap.size) _ rfl ((own_below hown hbel3)) _ _ rfl ((Rd.of_own hown3)) (by first | rfl | exact sv_one _ | exact wv_one _) (by omega) (by omega) (by first | (simp; done) | (simp; omega) | omega) ?_); intro A4 c4 w4 hown4 hbel4 hgr4 hat4; have z4 := hbel4.size; (try simp only [World.size_alloc] at z4); (try simp only [Nat.zero_add, List.nil_append] at hown4)))
    obtain ⟨r1, r2⟩ := HR.out w3 w4 A4 _ c4 hbel3 hgr4 hat4
    exact ⟨⟨A4, c4, j + 1, by omega, by go_num, by rw [HTj.out, List.length_append], by rw [HTj.out, List.length_append]; simpa [sv] using hown4, (hbel.trans (hbel3.mono zb)).trans hbel4, r1, by omega, by rw [HTj.out, List.length_append]; exact Lib.hid r2⟩, by simp [intOf]; omega⟩
   ·obtain rfl : j = L.length := by omega
    rw [HTA.out] at hown ⊢
    go_wp2
    go_ret
    exact ⟨A, c, rfl, own_less hown (by omega), hb0.trans (hbel.mono (by omega))⟩
end Go.Proofs.YtejjfiipghcifaaGreatDoor
namespace Go.Proofs.YtejjfiipghcifaaGreatDoor
open Go.RowKit
set_option maxRecDepth 20000
def capsN (l : List Gl) : Nat := (l.filter fun g => kindL g == 2).length
theorem ltr_form {g : Gl} (h : kindL g = 1 ∨ kindL g = 2) : ∃ c : UInt8, g.text = ⟨#[c]⟩ ∧ ((kindL g = 1 ∧ 97 ≤ c.toNat ∧ c.toNat ≤ 122) ∨ (kindL g = 2 ∧ 65 ≤ c.toNat ∧ c.toNat ≤ 90)) ∧ headB g = c := by
 unfold kindL at *
 unfold headB
 match hg : g.text.data.toList with
 | [] => rw [hg] at h; simp at h
 | [c] =>
  rw [hg] at h
  refine ⟨c, ByteArray.ext (Array.toList_inj.1 (by rw [hg])), ?_, rfl⟩
  simp only at h ⊢
  unfold kindB at *
  split at h
  ·rename_i h1; exact .inl ⟨by rw [if_pos h1], h1⟩
  ·split at h
   ·rename_i h1 h2; exact .inr ⟨by rw [if_neg h1, if_pos h2], h2⟩
   ·split at h <;> simp at h
 | _ :: _ :: _ => rw [hg] at h; simp at h
def capW1 (n : Nat) : List ByteArray := if n = 1 then [bCap] else []
theorem capW_len (n : Nat) : (capW n).length ≤ 1 := by
 unfold capW
 (repeat' split) <;> simp
theorem lowL_take {l : List Gl} {j : Nat} (h : j < l.length) : (lowL l).take (j + 1) = (lowL l).take j ++ [lowB (headB l[j])] := by
 unfold lowL
 rw [← List.map_take, ← List.map_take, (List.take_append_getElem h).symm, List.map_append]
 rfl
theorem capsN_take {l : List Gl} {j : Nat} (h : j < l.length) : capsN (l.take (j + 1)) = capsN (l.take j) + if kindL l[j] = 2 then 1 else 0 := by
 unfold capsN
 rw [(List.take_append_getElem h).symm, List.filter_append, List.length_append]
 congr 1
 by_cases hk : kindL l[j] = 2 <;> simp [hk]
theorem byte_str (w0 : World) (v : Int) (b : UInt8) (hv : v = (b.toNat : Int)) : (convert 126 9 (.slice (some ⟨w0.heap.size, 0, none⟩) 1 1)).run Tryz.prog (w0.alloc (.cells #[.int .u8 v] 5)) = .ok (.string ⟨#[b]⟩) (w0.alloc (.cells #[.int .u8 v] 5)) := by
 subst hv
 exact run_convert_bytes_back _ _ _ 5 ⟨w0.heap.size, 0, none⟩ 1 [b] Tryz.underlying126 Tryz.underlying5 Tryz.underlying9 fun j hj => by
  obtain rfl : j = 0 := by simp at hj; exact hj
  exact cell_built w0 _ _ 0
theorem app_byte (L : List UInt8) (b : UInt8) : (⟨L.toArray⟩ ++ ⟨#[b]⟩ : ByteArray) = ⟨(L ++ [b]).toArray⟩ := by
 apply ByteArray.ext
 rw [ByteArray.data_append]
 simp
theorem low_one {c : UInt8} (h1 : 97 ≤ c.toNat) : lowB c = c := by
 unfold lowB
 rw [if_neg (by omega)]
theorem low_two {c : UInt8} (h1 : 65 ≤ c.toNat) (h2 : c.toNat ≤ 90) : lowB c = c + 32 ∧ ((c.toNat : Int) + 32 = ((c + 32 : UInt8).toNat : Int)) := by
 unfold lowB
 rw [if_pos ⟨h1, h2⟩]
 refine ⟨rfl, ?_⟩
 rw [UInt8.toNat_add]
 have : (32 : UInt8).toNat = 32 := rfl
 omega
theorem gives_list {w w' : World} {base m c : Nat} {A : Option Addr} {xs : List Value} {L : List ByteArray} (h : w'.ownsRow base 9 1 (.slice A m c) m xs) (hm : m = L.length) (hx : xs = sv L) (hbase : w.heap.size ≤ base) (hb : Below w.heap.size w w') :
  GivesOwn 9 1 id w L.length (sv L) (.returned (.slice A m c)) w' := by
 subst hm hx
 exact ⟨A, c, rfl, own_less h hbase, hb⟩
set_option maxHeartbeats 4000000 in
theorem rletters (l : List Gl) (hk : ∀ x ∈ l, kindL x = 1 ∨ kindL x = 2) (hl : l.length ≤ 1000000) (A : Option Addr) (n c B : Nat) (r : Int) (d sp : Bool) (q : Int) (co : Bool) (k : Int) (w : World) (ht : Tb w) (rd : Rd w B 3 A n (encGs l)) (hB : B ≤ w.heap.size) :
  Calls Tryz.prog 87 #[.slice A n c, stV r d sp q co k] w (GivesOwn 9 1 id w (lettersL l sp).length (sv (lettersL l sp))) := by
 obtain rfl := gl_len rd
 have HK : Hid (∀ (g : Gl), kindL g = 1 ∨ kindL g = 2 → ∀ w, Calls Tryz.prog 65 #[glV g] w (Gives (.int .u8 (rkV (kindL g))) w)) := Lib.hid fun g hg w => by
  obtain ⟨c, hc, _⟩ := ltr_form hg
  exact rkind g (by rw [hc]; exact (by decide : 1 ≤ 1000000000)) w
 have HG : Hid (∀ (j : Nat) (h : j < l.length), kindL l[j] = 1 ∨ kindL l[j] = 2) := Lib.hid fun j h => hk _ (List.getElem_mem h)
 have HLo : Hid (∀ (j : Nat) (h : j < l.length), (lowL l).take (j + 1) = (lowL l).take j ++ [lowB (headB l[j])]) := Lib.hid fun j h => lowL_take h
 have HCa : Hid (∀ (j : Nat) (h : j < l.length), capsN (l.take (j + 1)) = capsN (l.take j) + if kindL l[j] = 2 then 1 else 0) := Lib.hid fun j h => capsN_take h
 have HRd := Lib.hid rd
 have HT := Lib.hid ht
 clear hk ht rd
 go_enter Tryz.func87, Tryz.ntmps87
 go_upto_region 2 with fail
 refine wp_fg (fun X => StBox X r d sp q co k w.heap.size ∧ Below w.heap.size w X ∧ X.ownsRow (w.heap.size + 1) 9 1 (.slice (some ⟨w.heap.size + 1, 0, none⟩) 0 0) 0 [] ∧ X.heap.size = w.heap.size + 2) ⟨(StBox.new w r d sp q co k 24).below (B := w.heap.size + 1) (Below.alloc (Below.refl _ _) (by simp) _) (by omega), (Below.alloc (Below.refl _ _) (Nat.le_refl _) _).alloc (by simp) _, by have h := own_built (w := w.alloc (.cells #[.int .i64 r, .bool d, .bool sp, .int .i64 q, .bool co, .int .i64 k] 24)) (xs := []) (e := 9) (b := w.heap.size + 1) (n := 0) (size := 1) (base := w.heap.size + 1) (by simp) rfl (Nat.le_refl _) (by omega); exact h, by simp⟩ ?_
 rintro X ⟨hst, hbX, hoX, hzX⟩
 go_wp2
 go_loopw [6, 7, 8] (fun x y z wr => ∃ j : Nat, j ≤ l.length ∧ z = .int .i64 j ∧ x = .string ⟨((lowL l).take j).toArray⟩ ∧ y = .int .i64 (capsN (l.take j)) ∧ Below X.heap.size X wr) (fun _ _ z _ => l.length - (intOf z).toNat)
 case atStart => exact ⟨0, Nat.zero_le _, rfl, rfl, rfl, Below.refl _ _⟩
 case round =>
  obtain ⟨j, hj, rfl, rfl, rfl, hb⟩ := hrel
  by_cases hlt : j < l.length
  ·have hrw := HRd.out.below (hbX.mono hB)
   obtain ⟨b, o, rfl, hbB, c0, c1, c2⟩ := rd_gl (hrw.below (hb.mono (by omega))) hlt rfl
   have HKj := Lib.hid (HK.out l[j] (HG.out j hlt))
   obtain ⟨ch, htx, hkd, hhd⟩ := ltr_form (HG.out j hlt)
   have HLj := Lib.hid (HLo.out j hlt)
   have HCj := Lib.hid (HCa.out j hlt)
   have hcl : capsN (l.take j) ≤ 1000000 := by
    unfold capsN
    have := List.length_filter_le (fun g => kindL g == 2) (l.take j)
    rw [List.length_take] at this
    omega
   rw [hhd] at HLj
   have hLo : ((lowL l).take j).length ≤ 1000000 := by rw [List.length_take]; omega
   generalize capsN (l.take j) = CN at *
   generalize (lowL l).take j = LO at *
   generalize kindL l[j] = KD at *
   generalize l[j] = g at *
   obtain ⟨tx, wd, sx⟩ := g
   dsimp only at *
   subst htx
   have hix : ((⟨#[ch]⟩ : ByteArray)[0]'(show 0 < 1 by decide)).toNat = ch.toNat := rfl
   have hsz : (⟨LO.toArray⟩ : ByteArray).size ≤ 1000000 := by
    show LO.toArray.size ≤ _
    rw [List.size_toArray]
    exact hLo
   rcases hkd with ⟨rfl, h1, h2⟩ | ⟨rfl, h1, h2⟩
   ·rw [low_one h1] at HLj
    rw [if_neg (by decide)] at HCj
    have hs2 : (⟨#[ch]⟩ : ByteArray).size ≤ 4 := by show 1 ≤ 4; omega
    go_wp2_with (go_at_call 65; refine (HKj.out _).mono ?_; rintro e w2 ⟨rfl, hb2⟩; have hby := byte_str w2 _ ch rfl)
    exact ⟨⟨j + 1, by omega, by go_num, by rw [app_byte, HLj.out], by rw [HCj.out]; rfl, (hb.trans (hb2.mono hb.size)).alloc (Nat.le_trans hb.size hb2.size) _⟩, by simp [intOf]; omega⟩
   ·obtain ⟨hlo, hlv0⟩ := low_two h1 h2
    rw [hlo] at HLj
    rw [if_pos rfl] at HCj
    generalize ch + 32 = cu at *
    have hlv := Lib.hid hlv0
    clear hlv0 hlo
    have hs2 : (⟨#[cu]⟩ : ByteArray).size ≤ 4 := by show 1 ≤ 4; omega
    go_wp2_with (go_at_call 65; refine (HKj.out _).mono ?_; rintro e w2 ⟨rfl, hb2⟩; have hby := byte_str w2 _ cu hlv.out)
    exact ⟨⟨j + 1, by omega, by go_num, by rw [app_byte, HLj.out], by rw [HCj.out]; rfl, (hb.trans (hb2.mono hb.size)).alloc (Nat.le_trans hb.size hb2.size) _⟩, by simp [intOf]; omega⟩
  ·obtain rfl : j = l.length := by omega
   have hLl : (lowL l).length = l.length := by unfold lowL; rw [List.length_map]
   rw [List.take_of_length_le (by omega : (lowL l).length ≤ l.length), List.take_length]
   have hLET : Hid (lettersL l sp = capW (capsN l) ++ (if sp = true then bSpelled :: ((lowL l).map fun c => (⟨#[c]⟩ : ByteArray)) ++ [bEnd] else (if resB ⟨(lowL l).toArray⟩ = true then [bWord] else []) ++ [⟨(lowL l).toArray⟩])) := Lib.hid rfl
   have hoW := own_below hoX hb
   have hbw := hbX.trans (hb.mono hbX.size)
   have hsw := hst.below hb (by omega)
   have htw := HT.out.below hbw
   have htb : Hid (∀ wx, Below (w.heap.size + 1) wr wx → Tb wx) := Lib.hid fun wx h => HT.out.below (hbw.trans (h.mono (by omega)))
   have hwz : w.heap.size + 2 ≤ wr.heap.size := by have := hb.size; omega
   have hLS : (⟨(lowL l).toArray⟩ : ByteArray).size ≤ 1000000 := by
    show (lowL l).toArray.size ≤ _
    rw [List.size_toArray]
    omega
   clear HK HG HLo HCa HRd HT hst hoX hb hbX hzX hlt hj
   have hLL : (lowL l).length ≤ 1000000 := by omega
   generalize capsN l = CN at *
   generalize lowL l = LL at *
   obtain ⟨C0, C1, C2, C3, C4, C5⟩ := hsw
   have hbe : Below (w.heap.size + 1) wr wr := Below.refl _ _
   have HSt : Hid (∀ wx, Below (w.heap.size + 1) wr wx → StBox wx r d sp q co k w.heap.size ∧ Below w.heap.size w wx ∧ Tb wx) := Lib.hid fun wx h => ⟨StBox.below ⟨C0, C1, C2, C3, C4, C5⟩ h (by omega), hbw.trans (h.mono (by omega)), htb.out wx h⟩
   clear hbw htw C0 C1 C2 C3 C4 C5
   go_upto_if 40 with fail
   go_cut [5] (fun v wx => Ow wx (w.heap.size + 1) 9 1 v (capW1 CN).length (sv (capW1 CN)) ∧ Below (w.heap.size + 1) wr wx)
   case first =>
    by_cases h1 : CN = 1
    ·subst h1
     go_wp2_with (at_builtin; go_must (refine app_list rfl _ _ _ rfl elt_str ((w.heap.size + 1)) _ rfl ((own_below hoW (Below.alloc (Below.refl _ _) (Nat.le_refl _) _))) _ _ rfl ((rd_built (xs := sv [bCap]) rfl rfl)) (by first | rfl | exact sv_one _ | exact wv_one _) (by omega) (by omega) (by first | (simp; done) | (simp; omega) | omega) ?_); intro A4 c4 w4 hown4 hbel4 hgr4 hat4; have z4 := hbel4.size; (try simp only [World.size_alloc] at z4); (try simp only [Nat.zero_add, List.nil_append] at hown4))
     go_meet
     case rel => exact ⟨⟨_, _, rfl, hown4⟩, (hbe.alloc (by omega) _).trans hbel4⟩
    ·have e1 : ((CN : Int) == 1) = false := beq_eq_false_iff_ne.2 (by omega)
     have ec : capW1 CN = [] := if_neg h1
     go_wp2
     go_meet
     case rel => exact ⟨by rw [ec]; exact ⟨_, _, rfl, hoW⟩, hbe⟩
   case rest =>
    obtain ⟨⟨A5, c5, rfl, o5⟩, hb5⟩ := hcut
    have z5 := hb5.size
    clear hoW hbe
    go_upto_if 45 with fail
    go_cut [5] (fun v wx => Ow wx (w.heap.size + 1) 9 1 v (capW CN).length (sv (capW CN)) ∧ Below (w.heap.size + 1) wr wx)
    case first =>
     by_cases h1 : 1 < CN
     ·have e1 : (1 : Int) < CN := by omega
      have ec : capW CN = [bCaps] := by unfold capW; rw [if_neg (by omega), if_pos h1]
      have ec1 : capW1 CN = [] := if_neg (by omega)
      rw [ec1] at o5 ⊢
      rw [List.length_nil] at o5 ⊢
      have HEc := Lib.hid ec
      clear ec ec1 h1
      go_wp2_with (at_builtin; go_must (refine app_list rfl _ _ _ rfl elt_str ((w.heap.size + 1)) _ rfl ((own_below o5 (Below.alloc (Below.refl _ _) (Nat.le_refl _) _))) _ _ rfl ((rd_built (xs := sv [bCaps]) rfl rfl)) (by first | rfl | exact sv_one _ | exact wv_one _) (by omega) (by omega) (by first | (simp; done) | (simp; omega) | omega) ?_); intro A4 c4 w4 hown4 hbel4 hgr4 hat4; have z4 := hbel4.size; (try simp only [World.size_alloc] at z4); (try simp only [Nat.zero_add, List.nil_append] at hown4))
      go_meet
      case rel => exact ⟨by rw [HEc.out]; exact ⟨_, _, rfl, hown4⟩, (hb5.alloc (by omega) _).trans hbel4⟩
     ·have e1 : ¬ (1 : Int) < CN := by omega
      have ec : capW CN = capW1 CN := by
       unfold capW capW1
       by_cases h : CN = 1
       ·rw [if_pos h, if_pos h]
       ·rw [if_neg h, if_neg h, if_neg h1]
      have HEc := Lib.hid ec
      clear ec h1
      go_wp2
      go_meet
      case rel => exact ⟨by rw [HEc.out]; exact ⟨_, _, rfl, o5⟩, hb5⟩
    case rest =>
     clear o5 hb5 z5
     obtain ⟨⟨A6, c6, rfl, o6⟩, hb6⟩ := hcut
     obtain ⟨⟨C0, C1, C2, C3, C4, C5⟩, hbq, htq⟩ := HSt.out _ hb6
     have hcw := capW_len CN
     have z6 := hb6.size
     have HRs := Lib.hid (rreserved ⟨LL.toArray⟩ wc htq)
     clear htq HSt hb6
     generalize capW CN = CW at *
     obtain ⟨LS, hLSe⟩ : ∃ LS : ByteArray, LS = ⟨LL.toArray⟩ := ⟨_, rfl⟩
     rw [← hLSe] at HRs hLS hLET ⊢
     have zq := hbq.size
     have hwz0 : w.heap.size + 1 ≤ wc.heap.size := by omega
     cases sp with
     | false =>
      cases hr : resB LS with
      | true =>
       have HQ : Hid (lettersL l false = CW ++ ([bWord] ++ [LS])) := Lib.hid (by rw [hLET.out, if_neg (by simp), hr, if_pos rfl])
       rw [hr] at HRs
       clear hr hLSe hLET
       go_wp2_with (first
        | (go_at_call 113; refine HRs.out.mono ?_; rintro e w7 ⟨rfl, hb7⟩; have z7 := hb7.size)
        | (at_builtin; refine app_list rfl _ _ _ rfl elt_str ((w.heap.size + 1)) _ rfl ((own_below (own_below o6 hb7) (Below.alloc (Below.refl _ _) (Nat.le_refl _) _))) _ _ rfl ((rd_built (xs := sv [bWord]) rfl rfl)) (by first | rfl | exact sv_one _ | exact wv_one _) (by omega) (by omega) (by first | (simp; done) | (simp; omega) | omega) ?_; intro A8 c8 w8 hown8 hbel8 hgr8 hat8; have z8 := hbel8.size; (try simp only [World.size_alloc] at z8); (try simp only [Nat.zero_add, List.nil_append] at hown8))
        | (at_builtin; refine app_list rfl _ _ _ rfl elt_str ((w.heap.size + 1)) _ rfl ((own_below hown8 (Below.alloc (Below.refl _ _) (Nat.le_refl _) _))) _ _ rfl ((rd_built (xs := sv [LS]) rfl rfl)) (by first | rfl | exact sv_one _ | exact wv_one _) (by omega) (by omega) (by first | (simp; done) | (simp; omega) | omega) ?_; intro A9 c9 w9 hown9 hbel9 hgr9 hat9; have z9 := hbel9.size; (try simp only [World.size_alloc] at z9); (try simp only [Nat.zero_add, List.nil_append] at hown9)))
       go_ret
       rw [HQ.out]
       exact gives_list hown9 (by simp) (by simp [sv]) (by omega) (((((hbq.trans (hb7.mono zq)).alloc (by omega) _).trans (hbel8.mono (by omega))).alloc (by omega) _).trans (hbel9.mono (by omega)))
      | false =>
       have HQ : Hid (lettersL l false = CW ++ ([] ++ [LS])) := Lib.hid (by rw [hLET.out, if_neg (by simp), hr, if_neg (by simp)])
       rw [hr] at HRs
       clear hr hLSe hLET
       go_wp2_with (first
        | (go_at_call 113; refine HRs.out.mono ?_; rintro e w7 ⟨rfl, hb7⟩; have z7 := hb7.size)
        | (at_builtin; refine app_list rfl _ _ _ rfl elt_str ((w.heap.size + 1)) _ rfl ((own_below (own_below o6 hb7) (Below.alloc (Below.refl _ _) (Nat.le_refl _) _))) _ _ rfl ((rd_built (xs := sv [LS]) rfl rfl)) (by first | rfl | exact sv_one _ | exact wv_one _) (by omega) (by omega) (by first | (simp; done) | (simp; omega) | omega) ?_; intro A8 c8 w8 hown8 hbel8 hgr8 hat8; have z8 := hbel8.size; (try simp only [World.size_alloc] at z8); (try simp only [Nat.zero_add, List.nil_append] at hown8)))
       go_ret
       rw [HQ.out]
       exact gives_list hown8 (by simp) (by simp [sv]) (by omega) (((hbq.trans (hb7.mono zq)).alloc (by omega) _).trans (hbel8.mono (by omega)))
     | true =>
      have HQ : Hid (lettersL l true = CW ++ (bSpelled :: (LL.map fun c => (⟨#[c]⟩ : ByteArray)) ++ [bEnd])) := Lib.hid (by rw [hLET.out, if_pos rfl])
      clear HRs hLET
      have hLsz : LS.size = LL.length := by rw [hLSe]; show LL.toArray.size = _; simp
      have HX : Hid (∀ (j : Nat) (h : j < LS.size), LS.extract j (j + 1) = ⟨#[LS[j]]⟩) := Lib.hid (one_byteP LS)
      have HT2 : Hid (∀ (j : Nat) (h : j < LS.size), sv (CW ++ bSpelled :: (LL.take (j + 1)).map fun c => (⟨#[c]⟩ : ByteArray)) = sv (CW ++ bSpelled :: (LL.take j).map fun c => (⟨#[c]⟩ : ByteArray)) ++ [.string ⟨#[LS[j]]⟩]) := Lib.hid fun j h => by
       have hj : j < LL.length := by omega
       have e : LS[j] = LL[j] := by subst hLSe; rfl
       rw [e, (List.take_append_getElem hj).symm, List.map_append]
       simp [sv]
      have HE : Hid (LL.map (fun c => (⟨#[c]⟩ : ByteArray)) = (LL.take LS.size).map fun c => (⟨#[c]⟩ : ByteArray)) := Lib.hid (by rw [List.take_of_length_le (by omega)])
      have HEl : Hid (LL.length = LS.size) := Lib.hid hLsz.symm
      clear hLSe hLsz hLL hLl
      go_wp2_with (at_builtin; go_must (refine app_list rfl _ _ _ rfl elt_str ((w.heap.size + 1)) _ rfl ((own_below o6 (Below.alloc (Below.refl _ _) (Nat.le_refl _) _))) _ _ rfl ((rd_built (xs := sv [bSpelled]) rfl rfl)) (by first | rfl | exact sv_one _ | exact wv_one _) (by omega) (by omega) (by first | (simp; done) | (simp; omega) | omega) ?_); intro A7 c7 w7 hown7 hbel7 hgr7 hat7; have z7 := hbel7.size; (try simp only [World.size_alloc] at z7); (try simp only [Nat.zero_add, List.nil_append] at hown7))
      have h7 : Below w.heap.size w w7 := (hbq.alloc (by omega) _).trans (hbel7.mono (by omega))
      have e70 : sv CW ++ [.string bSpelled] = sv (CW ++ bSpelled :: (LL.take 0).map fun c => (⟨#[c]⟩ : ByteArray)) := by simp [sv]
      have o70 : Ow w7 (w.heap.size + 1) 9 1 (.slice A7 (CW.length + 1) c7) (CW.length + 1 + 0) (sv (CW ++ bSpelled :: (LL.take 0).map fun c => (⟨#[c]⟩ : ByteArray))) := ⟨A7, c7, rfl, by rw [← e70]; exact hown7⟩
      clear e70
      have hbd : LS.size ≤ 1000000 := hLS
      go_loopw [5, 10] (fun x y wx => ∃ j : Nat, j ≤ LS.size ∧ y = .int .i64 j ∧ Ow wx (w.heap.size + 1) 9 1 x (CW.length + 1 + j) (sv (CW ++ bSpelled :: (LL.take j).map fun c => (⟨#[c]⟩ : ByteArray))) ∧ Below w.heap.size w wx ∧ w.heap.size + 1 ≤ wx.heap.size) (fun _ y _ => LS.size - (intOf y).toNat)
      case atStart => exact ⟨0, Nat.zero_le _, rfl, o70, h7, by omega⟩
      case round =>
       clear o70 h7 hown7 hbel7 hgr7 hat7 z7 o6
       obtain ⟨j, hj, rfl, ⟨A8, c8, rfl, o8⟩, hb8, hz8⟩ := hrel
       have z8 := hb8.size
       by_cases hlt : j < LS.size
       ·have hx := HX.out j hlt
        have HTj := Lib.hid (HT2.out j hlt)
        have hwj : IntKind.i64.wrap ((j : Int) + 1) = (j : Int) + 1 := by rw [IntKind.wrap_i64]; omega
        have hj0 : (0 : Int) ≤ (j : Int) + 1 := by omega
        have hj1 : (j : Int) + 1 ≤ LS.size := by omega
        have hj2 : (j : Int) ≤ (j : Int) + 1 := by omega
        have hj3 : ((j : Int) + 1).toNat = j + 1 := by omega
        clear HX HT2 HE
        generalize LS[j] = cj at *
        generalize sv (CW ++ bSpelled :: (LL.take j).map fun c => (⟨#[c]⟩ : ByteArray)) = XS at *
        go_wp2_with (at_builtin; go_must (refine app_list rfl _ _ _ rfl elt_str ((w.heap.size + 1)) _ rfl ((own_below o8 (Below.alloc (Below.refl _ _) (Nat.le_refl _) _))) _ _ rfl ((rd_built (xs := sv [⟨#[cj]⟩]) rfl rfl)) (by first | rfl | exact sv_one _ | exact wv_one _) (by omega) (by omega) (by first | (simp; done) | (simp; omega) | omega) ?_); intro A9 c9 w9 hown9 hbel9 hgr9 hat9; have z9 := hbel9.size; (try simp only [World.size_alloc] at z9); (try simp only [Nat.zero_add, List.nil_append] at hown9))
        exact ⟨⟨j + 1, by omega, by go_num, ⟨_, _, rfl, by rw [HTj.out]; exact hown9⟩, (hb8.alloc z8 _).trans (hbel9.mono (by omega)), by omega⟩, by simp [intOf]; omega⟩
       ·obtain rfl : j = LS.size := by omega
        rw [← HE.out] at o8
        clear HX HT2 HE
        go_wp2_with (at_builtin; go_must (refine app_list rfl _ _ _ rfl elt_str ((w.heap.size + 1)) _ rfl ((own_below o8 (Below.alloc (Below.refl _ _) (Nat.le_refl _) _))) _ _ rfl ((rd_built (xs := sv [bEnd]) rfl rfl)) (by first | rfl | exact sv_one _ | exact wv_one _) (by omega) (by omega) (by first | (simp; done) | (simp; omega) | omega) ?_); intro A9 c9 w9 hown9 hbel9 hgr9 hat9; have z9 := hbel9.size; (try simp only [World.size_alloc] at z9); (try simp only [Nat.zero_add, List.nil_append] at hown9))
        go_ret
        rw [HQ.out]
        exact gives_list hown9 (by simp [HEl.out]; omega) (by simp [sv]) (by omega) ((hb8.alloc z8 _).trans (hbel9.mono (by omega)))
end Go.Proofs.YtejjfiipghcifaaGreatDoor
