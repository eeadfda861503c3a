/- Joined texts: Rw3, Rw4. -/
import Derived.Test.YtejjfiipghcifaaGreatDoorQAA
import Derived.Test.YtejjfiipghcifaaGreatDoorQAB
import Derived.Test.YtejjfiipghcifaaGreatDoorQAC
import Derived.Test.YtejjfiipghcifaaGreatDoorQAD
import Derived.Test.YtejjfiipghcifaaGreatDoorQAE
import Derived.Test.YtejjfiipghcifaaGreatDoorQAF
import Derived.Test.YtejjfiipghcifaaGreatDoorQAG
import Derived.Test.YtejjfiipghcifaaGreatDoorQAH
import Derived.Test.YtejjfiipghcifaaGreatDoorQAJ
import Derived.Test.YtejjfiipghcifaaGreatDoorQAK
import Derived.Test.YtejjfiipghcifaaGreatDoorQAL
import Derived.Test.YtejjfiipghcifaaGreatDoorQAN
import Derived.Test.YtejjfiipghcifaaGreatDoorQAO
import Derived.Test.YtejjfiipghcifaaGreatDoorQAQ
import Derived.Test.YtejjfiipghcifaaGreatDoorQAR
import Derived.Test.YtejjfiipghcifaaGreatDoorQAT
import Derived.Test.YtejjfiipghcifaaGreatDoorQAU
import Derived.Test.YtejjfiipghcifaaGreatDoorQAV
import Derived.Test.YtejjfiipghcifaaGreatDoorQAW
import Derived.Test.YtejjfiipghcifaaGreatDoorQBJ
import Derived.Test.YtejjfiipghcifaaGreatDoorQBK
import Derived.Test.YtejjfiipghcifaaGreatDoorQBL
set_option linter.unusedVariables false
set_option linter.unusedSimpArgs false
set_option linter.unnecessarySimpa false
namespace Go.Proofs.YtejjfiipghcifaaGreatDoor
open Go.RowKit
set_option maxRecDepth 20000
theorem dig_form {g : Gl} (h : kindL g = 3) : ∃ c : UInt8, g.text = ⟨#[c]⟩ ∧ 48 ≤ c.toNat ∧ c.toNat ≤ 57 ∧ headB g = c := by
 unfold kindL at *
 unfold headB
 match hg : g.text.data.toList with
 | [] => rw [hg] at h; simp at h
 | [c] =>
  rw [hg] at h
  refine ⟨c, ByteArray.ext (Array.toList_inj.1 (by rw [hg])), ?_⟩
  simp only at h ⊢
  unfold kindB at h
  split at h
  ·simp at h
  ·split at h
   ·simp at h
   ·split at h
    ·rename_i h1; exact ⟨h1.1, h1.2, rfl⟩
    ·simp at h
 | _ :: _ :: _ => rw [hg] at h; simp at h
theorem digL_take {l : List Gl} {j : Nat} (h : j < l.length) : (digL l).take (j + 1) = (digL l).take j ++ [(headB l[j]).toNat - 48] := by
 unfold digL
 rw [← List.map_take, ← List.map_take, (List.take_append_getElem h).symm, List.map_append]
 rfl
theorem ow_of {w : World} {base size m n c : Nat} {e : TypeId} {A : Option Addr} {xs ys : List Value} (h : w.ownsRow base e size (.slice A m c) m xs) (hm : m = n) (hx : xs = ys) : Ow w base e size (.slice A m c) n ys := by
 subst hm hx
 exact ⟨A, c, rfl, h⟩
theorem digL_ten {l : List Gl} (h : ∀ x ∈ l, kindL x = 3) : ∀ d ∈ digL l, d < 10 := by
 intro d hd
 unfold digL at hd
 obtain ⟨g, hg, rfl⟩ := List.mem_map.1 hd
 obtain ⟨c, _, h1, h2, h3⟩ := dig_form (h g hg)
 rw [h3]
 omega
theorem num_nine {D : List Nat} (h : ∀ d ∈ D, d < 10) (j : Nat) (hj : j ≤ 9) : numL (D.take j) ≤ 999999999 := by
 have h1 := num9 (D := D.take j) fun d hd => h d (List.mem_of_mem_take hd)
 have h2 : 10 ^ (D.take j).length ≤ 10 ^ 9 := Nat.pow_le_pow_right (by decide) (by rw [List.length_take]; omega)
 omega
theorem catW_bd (D : List Nat) : (catW D).length ≤ 16 * D.length := by
 have := catW_len D
 omega
set_option maxHeartbeats 4000000 in
theorem rdigits (l : List Gl) (hk : ∀ x ∈ l, kindL x = 3) (h0 : 0 < l.length) (hl : l.length ≤ 1000000) (A : Option Addr) (n c B : Nat) (r : Int) (d sp : Bool) (q : Int) (co : Bool) (k : Int) (w : World) (ht : Tb w) (rd : Rd w B 3 A n (encGs l)) (hB : B ≤ w.heap.size) :
  Calls Tryz.prog 88 #[.slice A n c, stV r d sp q co k] w (GivesOwn 9 1 id w (digitsL l d).length (sv (digitsL l d))) := by
 obtain rfl := gl_len rd
 have HG : Hid (∀ (j : Nat) (h : j < l.length), kindL l[j] = 3) := Lib.hid fun j h => hk _ (List.getElem_mem h)
 have HDi : Hid (∀ (j : Nat) (h : j < l.length), (digL l).take (j + 1) = (digL l).take j ++ [(headB l[j]).toNat - 48]) := Lib.hid fun j h => digL_take h
 have HN9 : Hid (∀ j, j ≤ 9 → numL ((digL l).take j) ≤ 999999999) := Lib.hid fun j hj => num_nine (digL_ten hk) j hj
 have HCb : Hid (∀ j, j ≤ l.length → (catW ((digL l).take j)).length ≤ 16 * j) := Lib.hid fun j hj => by
  have := catW_bd ((digL l).take j)
  rw [List.length_take] at this
  omega
 have hDl : (digL l).length = l.length := by unfold digL; rw [List.length_map]
 have HWo : Hid (∀ (x : Int) (m : Nat), x = (m : Int) → m ≤ 999999999 → ∀ w, Tb w → Calls Tryz.prog 45 #[.int .i64 x] w (GivesOwn 9 1 okPair w (numW m).length (sv (numW m)))) := Lib.hid fun x m hx hm w ht => by
  subst hx
  have h := rwords_in (m : Int) (by omega) (by omega) w ht
  rw [wv_sv] at h
  unfold numW
  rw [List.length_map]
  exact h
 have HDL : Hid (digitsL l d = if d = true ∨ 9 < l.length ∨ (1 < l.length ∧ (digL l).headD 1 = 0) then bDigits :: catW (digL l) else numW (numL (digL l))) := Lib.hid rfl
 have HRd := Lib.hid rd
 have HT := Lib.hid ht
 clear hk ht rd
 go_enter Tryz.func88, Tryz.ntmps88
 go_upto_region 3 with fail
 refine wp_fg (fun X => StBox X r d sp q co k w.heap.size ∧ Below w.heap.size w X ∧ X.ownsRow (w.heap.size + 1) 9 1 (.slice (some ⟨w.heap.size + 1, 0, none⟩) 1 1) 1 (sv [bDigits]) ∧ X.heap.size = w.heap.size + 2) ⟨(StBox.new w r d sp q co k 24).below (B := w.heap.size + 1) (Below.alloc (Below.refl _ _) (by simp) _) (by omega), (Below.alloc (Below.refl _ _) (Nat.le_refl _) _).alloc (by simp) _, by have h := own_built (w := w.alloc (.cells #[.int .i64 r, .bool d, .bool sp, .int .i64 q, .bool co, .int .i64 k] 24)) (xs := sv [bDigits]) (e := 9) (b := w.heap.size + 1) (n := 1) (size := 1) (base := w.heap.size + 1) (by simp) rfl (Nat.le_refl _) (by omega); exact h, by simp⟩ ?_
 rintro X ⟨hst, hbX, hoX, hzX⟩
 have HSt : Hid (∀ wx, Below (w.heap.size + 1) X wx → StBox wx r d sp q co k w.heap.size ∧ Below w.heap.size w wx ∧ Tb wx) := Lib.hid fun wx h => ⟨hst.below h (by omega), hbX.trans (h.mono (by omega)), HT.out.below (hbX.trans (h.mono (by omega)))⟩
 go_wp2
 go_loopw [5, 6, 7] (fun x y z wr => ∃ j : Nat, j ≤ l.length ∧ z = .int .i64 j ∧ x = .int .i64 (numL ((digL l).take (min j 9)) : Nat) ∧ Ow wr (w.heap.size + 1) 9 1 y (1 + (catW ((digL l).take j)).length) (sv (bDigits :: catW ((digL l).take j))) ∧ Below (w.heap.size + 1) X wr ∧ w.heap.size + 2 ≤ wr.heap.size) (fun _ _ z _ => l.length - (intOf z).toNat)
 case atStart => exact ⟨0, Nat.zero_le _, rfl, rfl, ⟨_, _, rfl, hoX⟩, Below.refl _ _, by omega⟩
 case round =>
  clear hoX hst hzX
  obtain ⟨j, hj, rfl, rfl, ⟨A6, c6, rfl, o6⟩, hb, hz⟩ := hrel
  obtain ⟨⟨C0, C1, C2, C3, C4, C5⟩, hbq, htq⟩ := HSt.out _ hb
  have hcb := HCb.out j hj
  by_cases hlt : j < l.length
  ·obtain ⟨b, o, rfl, hbB, c0, c1, c2⟩ := rd_gl (HRd.out.below (hbq.mono hB)) hlt rfl
   obtain ⟨ch, htx, hd1, hd2, hhd⟩ := dig_form (HG.out j hlt)
   have HDj := Lib.hid (HDi.out j hlt)
   have hn9 := HN9.out (min j 9) (by omega)
   rw [hhd] at HDj
   obtain ⟨dg, hdg⟩ : ∃ dg, dg = ch.toNat - 48 := ⟨_, rfl⟩
   rw [← hdg] at HDj
   have HWj := Lib.hid (HWo.out ((ch.toNat : Int) - 48) dg (by omega) (by omega))
   have hNL := numW_len dg
   have HStep : Hid ((j < 9 → numL ((digL l).take (min (j + 1) 9)) = 10 * numL ((digL l).take (min j 9)) + dg) ∧ (9 ≤ j → numL ((digL l).take (min (j + 1) 9)) = numL ((digL l).take (min j 9)))) := Lib.hid ⟨fun h => by
    rw [show min (j + 1) 9 = j + 1 by omega, show min j 9 = j by omega, HDj.out, numL_snoc], fun h => by rw [show min (j + 1) 9 = 9 by omega, show min j 9 = 9 by omega]⟩
   have HCat : Hid (catW ((digL l).take (j + 1)) = catW ((digL l).take j) ++ numW dg) := Lib.hid (by rw [HDj.out, catW_snoc])
   clear HDj
   generalize numL ((digL l).take (min j 9)) = NN at *
   generalize catW ((digL l).take j) = CT at *
   generalize l[j] = g at *
   obtain ⟨tx, wd, sx⟩ := g
   dsimp only at *
   subst htx
   have hix : ((⟨#[ch]⟩ : ByteArray)[0]'(show 0 < 1 by decide)).toNat = ch.toNat := rfl
   have hdgI : Hid ((ch.toNat : Int) - 48 = dg) := Lib.hid (by omega)
   clear hdg hhd
   by_cases h9 : j < 9
   ·have i9 : (j : Int) < 9 := by omega
    have e9 := Lib.hid (HStep.out.1 h9)
    clear HStep h9
    go_wp2_with (first
     | (go_at_call 45; refine (HWj.out _ htq).mono ?_; rintro e w7 ⟨A7, c7, rfl, o7, hb7⟩; have z7 := hb7.size)
     | (at_builtin; refine app_list rfl _ _ _ rfl elt_str ((w.heap.size + 1)) _ rfl ((own_below o6 hb7)) _ _ rfl ((Rd.of_own o7)) (by first | rfl | exact sv_one _ | exact wv_one _) (by omega) (by omega) (by first | (simp; done) | (simp; omega) | omega) ?_; intro A8 c8 w8 hown8 hbel8 hgr8 hat8; have z8 := hbel8.size; (try simp only [World.size_alloc] at z8); (try simp only [Nat.zero_add, List.nil_append] at hown8)))
    exact ⟨⟨j + 1, by omega, by go_num, by rw [e9.out]; have := hdgI.out; congr 1; omega, ow_of hown8 (by rw [HCat.out, List.length_append, Nat.add_assoc]) (by rw [HCat.out]; simp [sv]), (hb.trans (hb7.mono (by omega))).trans hbel8, by omega⟩, by simp [intOf]; omega⟩
   ·have i9 : ¬ (j : Int) < 9 := by omega
    have e9 := Lib.hid (HStep.out.2 (by omega))
    clear HStep h9
    go_wp2_with (first
     | (go_at_call 45; refine (HWj.out _ htq).mono ?_; rintro e w7 ⟨A7, c7, rfl, o7, hb7⟩; have z7 := hb7.size)
     | (at_builtin; refine app_list rfl _ _ _ rfl elt_str ((w.heap.size + 1)) _ rfl ((own_below o6 hb7)) _ _ rfl ((Rd.of_own o7)) (by first | rfl | exact sv_one _ | exact wv_one _) (by omega) (by omega) (by first | (simp; done) | (simp; omega) | omega) ?_; intro A8 c8 w8 hown8 hbel8 hgr8 hat8; have z8 := hbel8.size; (try simp only [World.size_alloc] at z8); (try simp only [Nat.zero_add, List.nil_append] at hown8)))
    exact ⟨⟨j + 1, by omega, by go_num, by rw [e9.out], ow_of hown8 (by rw [HCat.out, List.length_append, Nat.add_assoc]) (by rw [HCat.out]; simp [sv]), (hb.trans (hb7.mono (by omega))).trans hbel8, by omega⟩, by simp [intOf]; omega⟩
  ·obtain rfl : j = l.length := by omega
   obtain ⟨b, o, rfl, hbB, c0, c1, c2⟩ := rd_gl (HRd.out.below (hbq.mono hB)) h0 rfl
   rw [Nat.zero_mul, Nat.add_zero] at c0
   obtain ⟨ch, htx, hd1, hd2, hhd⟩ := dig_form (HG.out 0 h0)
   rw [htx] at c0
   have hq0 : ((⟨#[ch]⟩ : ByteArray).toList == [48]) = decide (ch = 48) := by
    rw [ByteArray.toList_eq, Bool.eq_iff_iff, beq_iff_eq, decide_eq_true_iff]
    simp
   have hh : (digL l).headD 1 = ch.toNat - 48 := by
    cases l with
    | nil => simp at h0
    | cons g t =>
     unfold digL
     rw [List.map_cons, List.headD_cons]
     simp only [List.getElem_cons_zero] at hhd
     rw [hhd]
   have etk : (digL l).take l.length = digL l := List.take_of_length_le (by omega)
   rw [etk] at o6 hcb ⊢
   clear etk
   have hz0 : (ch = 48) ↔ (digL l).headD 1 = 0 := by
    rw [hh]
    constructor
    ·rintro rfl; rfl
    ·intro h
     have : ch.toNat = 48 := by omega
     exact UInt8.toNat_inj.1 this
   have hwx : w.heap.size + 1 ≤ wr.heap.size := by omega
   have HN : Hid (l.length ≤ 9 → numL ((digL l).take (min l.length 9)) = numL (digL l)) := Lib.hid fun h => by rw [List.take_of_length_le (by omega)]
   have hn9 := HN9.out (min l.length 9) (by omega)
   have HWn := Lib.hid (HWo.out (numL ((digL l).take (min l.length 9)) : Nat) _ rfl hn9)
   clear HG HDi HN9 HCb HWo HRd HT HSt hb htx hhd hh hDl
   generalize catW (digL l) = CT at *
   generalize hNN : numL ((digL l).take (min l.length 9)) = NN at *
   have HQd : Hid (d = true ∨ 9 < l.length ∨ (1 < l.length ∧ ch = 48) → digitsL l d = bDigits :: CT) := Lib.hid fun h => by
    rw [HDL.out, if_pos]
    rw [← hz0]
    exact h
   have HQn : Hid (¬ (d = true ∨ 9 < l.length ∨ (1 < l.length ∧ ch = 48)) → digitsL l d = numW NN) := Lib.hid fun h => by
    rw [HDL.out, if_neg (by rw [← hz0]; exact h), HN.out (by omega)]
   clear HDL hz0 hNN HN c1 c2 hd1 hd2
   generalize (⟨#[ch]⟩ : ByteArray) = S0 at *
   cases d with
   | true =>
    have HQ := Lib.hid (HQd.out (.inl rfl))
    clear HQd HQn HWn
    go_wp2
    go_ret
    rw [HQ.out]
    exact gives_list o6 (by simp; omega) rfl (by omega) hbq
   | false =>
    by_cases h1 : 1 < l.length
    ·have i1 : (1 : Int) < l.length := by omega
     by_cases hc : ch = 48
     ·have HQ := Lib.hid (HQd.out (.inr (.inr ⟨h1, hc⟩)))
      rw [decide_eq_true hc] at hq0
      clear HQd HQn HWn hc h1
      go_wp2
      go_ret
      rw [HQ.out]
      exact gives_list o6 (by simp; omega) rfl (by omega) hbq
     ·rw [decide_eq_false hc] at hq0
      by_cases h9 : 9 < l.length
      ·have i9 : (9 : Int) < l.length := by omega
       have HQ := Lib.hid (HQd.out (.inr (.inl h9)))
       clear HQd HQn HWn hc h1 h9
       go_wp2
       go_ret
       rw [HQ.out]
       exact gives_list o6 (by simp; omega) rfl (by omega) hbq
      ·have i9 : ¬ (9 : Int) < l.length := by omega
       have HQ := Lib.hid (HQn.out (by rintro (h | h | h); · cases h
                                       · exact h9 h
                                       · exact hc h.2))
       clear HQd HQn hc h1 h9
       go_wp2_with (go_at_call 45; refine (HWn.out _ htq).mono ?_; rintro e w7 ⟨A7, c7, rfl, o7, hb7⟩)
       go_ret
       rw [HQ.out]
       exact gives_list o7 rfl rfl hbq.size (hbq.trans (hb7.mono hbq.size))
    ·have i1 : ¬ (1 : Int) < l.length := by omega
     have i9 : ¬ (9 : Int) < l.length := by omega
     have HQ := Lib.hid (HQn.out (by rintro (h | h | h); · cases h
                                     · omega
                                     · exact h1 h.1))
     clear HQd HQn h1
     go_wp2_with (go_at_call 45; refine (HWn.out _ htq).mono ?_; rintro e w7 ⟨A7, c7, rfl, o7, hb7⟩)
     go_ret
     rw [HQ.out]
     exact gives_list o7 rfl rfl hbq.size (hbq.trans (hb7.mono hbq.size))
theorem own_apart2 {w1 w2 : World} {b1 b2 s1 s2 n1 n2 : Nat} {e1 e2 : TypeId} {v1 v2 : Value} {x1 x2 : List Value} (h1 : w1.ownsRow b1 e1 s1 v1 n1 x1) (h2 : w2.ownsRow b2 e2 s2 v2 n2 x2) (hb : w1.heap.size ≤ b2) : v2.ownBlock = none ∨ v2.ownBlock ≠ v1.ownBlock := by
 rcases hk : v2.ownBlock with _ | k
 ·exact .inl rfl
 ·right
  intro e
  have := h2.lt k hk
  have := h1.lt k e.symm
  omega
set_option maxHeartbeats 8000000 in
theorem rspoken (l : List Gl) (g : Gl) (t : List Gl) (hl : l = g :: t) (hP : PieceOK l) (A : Option Addr) (n c B : Nat) (r : Int) (d sp : Bool) (q : Int) (co : Bool) (k : Int) (w : World) (ht : Tb w) (rd : Rd w B 3 A n (encGs l)) (hB : B ≤ w.heap.size) :
  Calls Tryz.prog 66 #[.slice A n c, stV r d sp q co k] w (GivesOwn 9 1 id w (spokenL l sp d).length (sv (spokenL l sp d))) := by
 have hln := gl_len rd
 subst hln
 have hl0 : 0 < l.length := by rw [hl]; simp
 have hg0 : l[0] = g := by subst hl; rfl
 obtain ⟨b, o, rfl, hbB, _, _, _⟩ := rd_gl rd hl0 rfl
 have HRd := Lib.hid rd
 have HC0 : Hid (∀ (w' : World), Below w.heap.size w w' → (w'.cell? ⟨b, o, none⟩ = some (.string g.text) ∧ w'.cell? ⟨b, o + 1, none⟩ = some (.bool g.wide) ∧ w'.cell? ⟨b, o + 2, none⟩ = some (.int .i64 g.style))) := Lib.hid fun w' hw => by
  obtain ⟨b', o', e', _, c0, c1, c2⟩ := rd_gl (rd.below (hw.mono hB)) hl0 rfl
  simp only [Option.some.injEq, Addr.mk.injEq, and_true] at e'
  obtain ⟨rfl, rfl⟩ := e'
  rw [Nat.zero_mul, Nat.add_zero, hg0] at c0 c1 c2
  exact ⟨c0, c1, c2⟩
 have hn1 := hP.n
 have HT := Lib.hid ht
 have hgm : g ∈ l := by rw [hl]; simp
 have hzg : g.text.size ≤ 1000 := hP.sz g hgm
 have HK := Lib.hid (rkind g (by omega))
 have hk3 := kindL_le g
 by_cases h1 : kindL g = 1 ∨ kindL g = 2
 ·have hall := hP.ltr g t hl h1
  have HLet : Hid (∀ w', Below w.heap.size w w' → Calls Tryz.prog 87 #[.slice (some ⟨b, o, none⟩) l.length c, stV r d sp q co k] w' (GivesOwn 9 1 id w' (spokenL l sp d).length (sv (spokenL l sp d)))) := Lib.hid fun w' hw => by
   have e : spokenL l sp d = lettersL l sp := by subst hl; exact spokenL_ltr h1
   rw [e]
   exact rletters l hall (by omega) _ _ c B r d sp q co k w' (HT.out.below hw) (HRd.out.below (hw.mono hB)) (Nat.le_trans hB hw.size)
  generalize spokenL l sp d = RES at *
  generalize kindL g = K at *
  clear hP hall hl rd hg0 hgm ht HT
  obtain ⟨xx, wd, st⟩ := g
  dsimp only at *
  rcases h1 with rfl | rfl
  ·go_enter Tryz.func66, Tryz.ntmps66
   go_upto_region 1 with fail
   refine wp_fg (fun wx => StBox wx r d sp q co k w.heap.size ∧ Below w.heap.size w wx ∧ w.heap.size + 1 ≤ wx.heap.size) ⟨StBox.new w r d sp q co k _, (Below.refl _ _).alloc (Nat.le_refl _) _, by simp⟩ ?_
   rintro wb ⟨hst, hb0, hz0⟩
   obtain ⟨q0, q1, q2⟩ := HC0.out wb hb0
   go_wp2_with (first
    | (go_at_call 65; refine (HK.out _).mono ?_; rintro e w5 ⟨rfl, hbel5⟩; obtain ⟨u0, u1, u2, u3, u4, u5⟩ := hst.below hbel5 (by omega); have t5 := hb0.trans (hbel5.mono (by omega)); obtain ⟨v0, v1, v2⟩ := HC0.out w5 t5)
    | (go_at_call 87; refine (HLet.out _ t5).mono ?_; rintro e w6 ⟨A6, c6, rfl, hown6, hbel6⟩))
   go_ret
   exact ⟨A6, c6, rfl, own_less hown6 t5.size, t5.trans (hbel6.mono t5.size)⟩
  ·go_enter Tryz.func66, Tryz.ntmps66
   go_upto_region 1 with fail
   refine wp_fg (fun wx => StBox wx r d sp q co k w.heap.size ∧ Below w.heap.size w wx ∧ w.heap.size + 1 ≤ wx.heap.size) ⟨StBox.new w r d sp q co k _, (Below.refl _ _).alloc (Nat.le_refl _) _, by simp⟩ ?_
   rintro wb ⟨hst, hb0, hz0⟩
   obtain ⟨q0, q1, q2⟩ := HC0.out wb hb0
   go_wp2_with (first
    | (go_at_call 65; refine (HK.out _).mono ?_; rintro e w5 ⟨rfl, hbel5⟩; obtain ⟨u0, u1, u2, u3, u4, u5⟩ := hst.below hbel5 (by omega); have t5 := hb0.trans (hbel5.mono (by omega)); obtain ⟨v0, v1, v2⟩ := HC0.out w5 t5)
    | (go_at_call 87; refine (HLet.out _ t5).mono ?_; rintro e w6 ⟨A6, c6, rfl, hown6, hbel6⟩))
   go_ret
   exact ⟨A6, c6, rfl, own_less hown6 t5.size, t5.trans (hbel6.mono t5.size)⟩
 ·by_cases h3 : kindL g = 3
  ·have hall3 : ∀ x ∈ l, kindL x = 3 := hP.dig g t hl h3
   have HDig : Hid (∀ w', Below w.heap.size w w' → Calls Tryz.prog 88 #[.slice (some ⟨b, o, none⟩) l.length c, stV r d sp q co k] w' (GivesOwn 9 1 id w' (spokenL l sp d).length (sv (spokenL l sp d)))) := Lib.hid fun w' hw => by
    have e : spokenL l sp d = digitsL l d := by subst hl; exact spokenL_dig h3
    rw [e]
    exact rdigits l hall3 hl0 (by omega) _ _ c B r d sp q co k w' (HT.out.below hw) (HRd.out.below (hw.mono hB)) (Nat.le_trans hB hw.size)
   generalize spokenL l sp d = RES at *
   rw [h3] at HK
   clear hP hall3 hl rd hg0 hgm ht HT h1 h3 hk3
   obtain ⟨xx, wd, st⟩ := g
   dsimp only at *
   go_enter Tryz.func66, Tryz.ntmps66
   go_upto_region 1 with fail
   refine wp_fg (fun wx => StBox wx r d sp q co k w.heap.size ∧ Below w.heap.size w wx ∧ w.heap.size + 1 ≤ wx.heap.size) ⟨StBox.new w r d sp q co k _, (Below.refl _ _).alloc (Nat.le_refl _) _, by simp⟩ ?_
   rintro wb ⟨hst, hb0, hz0⟩
   obtain ⟨q0, q1, q2⟩ := HC0.out wb hb0
   go_wp2_with (first
    | (go_at_call 65; refine (HK.out _).mono ?_; rintro e w5 ⟨rfl, hbel5⟩; obtain ⟨u0, u1, u2, u3, u4, u5⟩ := hst.below hbel5 (by omega); have t5 := hb0.trans (hbel5.mono (by omega)); obtain ⟨v0, v1, v2⟩ := HC0.out w5 t5)
    | (go_at_call 88; refine (HDig.out _ t5).mono ?_; rintro e w6 ⟨A6, c6, rfl, hown6, hbel6⟩))
   go_ret
   exact ⟨A6, c6, rfl, own_less hown6 t5.size, t5.trans (hbel6.mono t5.size)⟩
  ·have h0 : kindL g = 0 := by omega
   have HSi : Hid (∀ w', Below w.heap.size w w' → Calls Tryz.prog 89 #[glV g] w' (GivesOwn 9 1 id w' (singleL g).length (sv (singleL g)))) := Lib.hid fun w' hw => rsingle g (by omega) w' (HT.out.below hw)
   have hsl : (singleL g).length ≤ 40000 := by
    have a1 := @singleL_len g
    have a2 := charsL_len g.text
    omega
   rw [h0] at HK
   by_cases h2 : l.length = 1
   ·have e : spokenL l sp d = singleL g := by
     have ht0 : t = [] := by
      have := hl ▸ h2
      simpa using this
     subst ht0
     rw [hl]
     exact spokenL_one h0
    rw [e]
    have i2 : ((l.length : Int) == 1) = true := by simp [h2]
    generalize singleL g = RES at *
    clear hP hl rd hg0 hgm ht HT h1 h3 hk3 h0 e h2
    obtain ⟨xx, wd, st⟩ := g
    dsimp only at *
    go_enter Tryz.func66, Tryz.ntmps66
    go_upto_region 1 with fail
    refine wp_fg (fun wx => StBox wx r d sp q co k w.heap.size ∧ Below w.heap.size w wx ∧ w.heap.size + 1 ≤ wx.heap.size) ⟨StBox.new w r d sp q co k _, (Below.refl _ _).alloc (Nat.le_refl _) _, by simp⟩ ?_
    rintro wb ⟨hst, hb0, hz0⟩
    obtain ⟨q0, q1, q2⟩ := HC0.out wb hb0
    go_wp2_with (first
     | (go_at_call 65; refine (HK.out _).mono ?_; rintro e w5 ⟨rfl, hbel5⟩; obtain ⟨u0, u1, u2, u3, u4, u5⟩ := hst.below hbel5 (by omega); have t5 := hb0.trans (hbel5.mono (by omega)); obtain ⟨v0, v1, v2⟩ := HC0.out w5 t5)
     | (go_at_call 89; refine (HSi.out _ t5).mono ?_; rintro e w6 ⟨A6, c6, rfl, hown6, hbel6⟩))
    go_ret
    exact ⟨A6, c6, rfl, own_less hown6 t5.size, t5.trans (hbel6.mono t5.size)⟩
   ·have i2 : ((l.length : Int) == 1) = false := beq_eq_false_iff_ne.2 (by omega)
    have e : spokenL l sp d = numW l.length ++ [bTimes] ++ singleL g := by
     have ht0 : t ≠ [] := fun e => h2 (by rw [hl, e]; rfl)
     rw [hl, spokenL_many h0 ht0]
     rfl
    have HNu : Hid (∀ w', Below w.heap.size w w' → Calls Tryz.prog 45 #[.int .i64 l.length] w' (GivesOwn 9 1 okPair w' (numW l.length).length (sv (numW l.length)))) := Lib.hid fun w' hw => by
     have h := rwords_in (l.length : Int) (by omega) (by omega) w' (HT.out.below hw)
     rw [wv_sv] at h
     unfold numW
     rw [List.length_map]
     exact h
    have hnl := numW_len l.length
    have HQ := Lib.hid e
    generalize singleL g = SL at *
    generalize numW l.length = NW at *
    clear hP hl rd hg0 hgm ht HT h1 h3 hk3 h0 e h2
    obtain ⟨xx, wd, st⟩ := g
    dsimp only at *
    go_enter Tryz.func66, Tryz.ntmps66
    go_upto_region 1 with fail
    refine wp_fg (fun wx => StBox wx r d sp q co k w.heap.size ∧ Below w.heap.size w wx ∧ w.heap.size + 1 ≤ wx.heap.size) ⟨StBox.new w r d sp q co k _, (Below.refl _ _).alloc (Nat.le_refl _) _, by simp⟩ ?_
    rintro wb ⟨hst, hb0, hz0⟩
    obtain ⟨q0, q1, q2⟩ := HC0.out wb hb0
    go_upto_region 10 with (first
     | (go_at_call 65; refine (HK.out _).mono ?_; rintro e w5 ⟨rfl, hbel5⟩; obtain ⟨u0, u1, u2, u3, u4, u5⟩ := hst.below hbel5 (by omega); have t5 := hb0.trans (hbel5.mono (by omega)); obtain ⟨v0, v1, v2⟩ := HC0.out w5 t5)
     | (go_at_call 45; refine (HNu.out _ t5).mono ?_; rintro e w6 ⟨A6, c6, rfl, hown6, hbel6⟩; have t6 := t5.trans (hbel6.mono t5.size)))
    obtain ⟨x0, x1, x2⟩ := HC0.out w6 t6
    obtain ⟨y0, y1, y2⟩ := HC0.out (w6.alloc (.cells #[.string ⟨#[116, 105, 109, 101, 115]⟩] 9)) (t6.alloc t6.size _)
    have z6 := t6.size
    have z56 := hbel6.size
    have z5 := t5.size
    have zu : w6.heap.size ≤ (w6.alloc (.cells #[.string ⟨#[116, 105, 109, 101, 115]⟩] 9)).drew.heap.size := by simp
    go_region_law (first
     | ((fail_if_success have := hown8); go_simp; go_at_call 89; refine (HSi.out _ (by (repeat (first | exact Below.refl _ _ | assumption | refine Below.drew ?_ | refine Below.alloc ?_ (by first | (simp; done) | (simp; omega) | omega) _ | refine Below.setCell ?_ (by first | (simp; done) | (simp; omega) | omega) _)))).mono ?_; rintro e w7 ⟨A7, c7, rfl, hown7, hbel7⟩; have hc7 : Below w6.heap.size w6 w7 := Below.trans (by (repeat (first | exact Below.refl _ _ | assumption | refine Below.drew ?_ | refine Below.alloc ?_ (by first | (simp; done) | (simp; omega) | omega) _ | refine Below.setCell ?_ (by first | (simp; done) | (simp; omega) | omega) _))) (hbel7.mono (by first | (simp; done) | (simp; omega) | omega)); have z7 := hbel7.size; (try simp only [World.size_alloc] at z7 hbel7); have t7 : Below w.heap.size w w7 := t6.trans (hc7.mono z6); (first | have r7 := rd_up (rd_one (w := w6) (v := .string ⟨#[116, 105, 109, 101, 115]⟩) (e := 9)) hbel7 | have r7 := rd_up (w := (w6.alloc (.cells #[.string ⟨#[116, 105, 109, 101, 115]⟩] 9)).drew) (size := 1) (n := 1) (A := some ⟨w6.heap.size, 0, none⟩) (xs := [.string ⟨#[116, 105, 109, 101, 115]⟩]) (by exact rd_one (w := w6)) hbel7 | skip))
     | (go_simp; go_at_call 89; refine (HSi.out _ (by (repeat (first | exact Below.refl _ _ | assumption | refine Below.drew ?_ | refine Below.alloc ?_ (by first | (simp; done) | (simp; omega) | omega) _ | refine Below.setCell ?_ (by first | (simp; done) | (simp; omega) | omega) _)))).mono ?_; rintro e w7 ⟨A7, c7, rfl, hown7, hbel7⟩; have k8 := own_below hown8 hbel7; have z7 := hbel7.size; have t7 : Below w.heap.size w w7 := t8.trans (hbel7.mono t8.size))
     | (refine app_step rfl _ _ _ rfl elt_str (w5.heap.size) _ rfl ((own_below hown6 (by (repeat (first | exact Below.refl _ _ | assumption | refine Below.drew ?_ | refine Below.alloc ?_ (by first | (simp; done) | (simp; omega) | omega) _ | refine Below.setCell ?_ (by first | (simp; done) | (simp; omega) | omega) _))))) _ _ rfl ((by first | exact rd_one | exact r7 | exact (rd_one (w := w6)))) (rfl) (by omega) (by omega) (by first | (simp; done) | (simp; omega) | omega) ?_; intro A8 c8 w8 hown8 hbel8 hgr8 hat8; have z8 := hbel8.size; (try simp only [Nat.zero_add, List.nil_append] at hown8); have t8 : Below w.heap.size w w8 := Below.trans (by (repeat (first | exact Below.refl _ _ | assumption | refine Below.drew ?_ | refine Below.alloc ?_ (by first | (simp; done) | (simp; omega) | omega) _ | refine Below.setCell ?_ (by first | (simp; done) | (simp; omega) | omega) _))) (hbel8.mono (by first | (simp; done) | (simp; omega) | omega)); obtain ⟨_, _, _⟩ := HC0.out w8 t8; (try have k7 := (own_below hown7 (by (repeat (first | exact Below.refl _ _ | assumption | refine Below.drew ?_ | refine Below.alloc ?_ (by first | (simp; done) | (simp; omega) | omega) _ | refine Below.setCell ?_ (by first | (simp; done) | (simp; omega) | omega) _)); done)).kept hgr8 (own_apart2 hown6 hown7 (by first | (simp; done) | (simp; omega) | omega))))
     | (refine app_step rfl _ _ _ rfl elt_str (w5.heap.size) _ rfl ((by first | exact k8 | exact hown8)) _ _ rfl ((by first | exact Rd.of_own k7 | exact Rd.of_own hown7)) (sv_one _) (by omega) (by omega) (by first | (simp; done) | (simp; omega) | omega) ?_; intro A9 c9 w9 hown9 hbel9 hgr9 hat9; have z9 := hbel9.size; (try simp only [Nat.zero_add, List.nil_append] at hown9)))
    all_goals go_wp2
    all_goals go_ret
    all_goals rw [HQ.out]
    all_goals exact gives_list hown9 (by first | (simp; done) | (simp; omega)) (by first | rfl | (simp [sv]; done) | (simp [sv]; rfl)) z5 (Below.trans (by (repeat (first | exact Below.refl _ _ | assumption | refine Below.drew ?_ | refine Below.alloc ?_ (by first | (simp; done) | (simp; omega) | omega) _ | refine Below.setCell ?_ (by first | (simp; done) | (simp; omega) | omega) _))) (hbel9.mono z5))
end Go.Proofs.YtejjfiipghcifaaGreatDoor
