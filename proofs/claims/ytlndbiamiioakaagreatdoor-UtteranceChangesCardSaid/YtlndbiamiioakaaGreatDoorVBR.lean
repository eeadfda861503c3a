/- Joined: Rp1, Rp2. -/
import Derived.Test.YtlndbiamiioakaaGreatDoorVBP
set_option linter.unusedVariables false
set_option linter.unusedSimpArgs false
set_option linter.unnecessarySimpa false
set_option maxHeartbeats 8000000
namespace Go.Proofs.YtlndbiamiioakaaGreatDoor
open Go.Proofs.Tryz Go.RowKit
set_option maxRecDepth 20000
theorem rlower (s : ByteArray) (hs : s.size <= 1000000000) (w : World) : Calls prog 111 #[.string s] w (qg (.bool (azB s)) w) := by
 have HF : Hid (azB s = (!(s.data.toList.isEmpty) && (s.data.toList.drop 0).all azC)) := Lh rfl
 have HS : Hid (∀ j (h : j < s.size), (s.data.toList.drop j).all azC = (azC s[j] && (s.data.toList.drop (j + 1)).all azC)) := Lh fun j h => by
  rw [List.drop_eq_getElem_cons (by simpa using h), List.all_cons]
  rfl
 have HE : Hid ((s.data.toList.drop s.size).all azC = true) := Lh (by rw [List.drop_of_length_le (by simp)]; rfl)
 have HZ : Hid (s.size = 0 -> s.toList.isEmpty = true /\ s.data.toList.isEmpty = true) := Lh fun h => by
  have : s.data.toList = [] := List.length_eq_zero_iff.1 (by simpa using h)
  rw [ByteArray.toList_eq, this]
  exact ⟨rfl, rfl⟩
 have HY : Hid (s.size ≠ 0 -> s.toList.isEmpty = false /\ s.data.toList.isEmpty = false) := Lh fun h => by
  refine ⟨zQ h, ?_⟩
  rw [List.isEmpty_eq_false_iff]
  intro e
  have := congrArg List.length e
  exact h (by simpa using this)
 generalize azB s = R at *
 go_enter func111, ntmps111
 go_wp2
 go_loopw [3] (fun x wr => ∃ j : Nat, j <= s.size /\ x = .int .i64 j /\ Below w.heap.size w wr /\ Hid (R = (!(s.data.toList.isEmpty) && (s.data.toList.drop j).all azC))) (fun x _ => s.size - (intOf x).toNat)
 case atStart => exact ⟨0, Nat.zero_le _, rfl, Below.refl _ _, HF⟩
 case round =>
  obtain ⟨j, hj, rfl, hbel, HR⟩ := hrel
  by_cases hlt : j < s.size
  ·have HSj := Lh (HS.out j hlt)
   have hb := UInt8.toNat_lt s[j]
   have hne := (HY.out (by omega)).2
   have HN : Hid (azC s[j] = true -> R = (!(s.data.toList.isEmpty) && (s.data.toList.drop (j + 1)).all azC)) := Lh fun h => by rw [HR.out, HSj.out, h, Bool.true_and]
   have HM : Hid (azC s[j] = false -> R = false) := Lh fun h => by rw [HR.out, HSj.out, h, Bool.false_and, Bool.and_false]
   clear HR HSj HS HE HF HZ HY hne
   unfold azC at HN HM
   generalize hc : s[j] = c at *
   by_cases h1 : c.toNat < 97
   ·have i1 : decide ((c.toNat : Int) < 97) = true := decide_eq_true (by omega)
    have HR2 := Lh (HM.out (by rw [decide_eq_false (by omega)]; rfl))
    go_wp2
    go_ret
    exact ⟨by rw [HR2.out]; rfl, hbel⟩
   ·have i1 : decide ((c.toNat : Int) < 97) = false := decide_eq_false (by omega)
    by_cases h2 : 122 < c.toNat
    ·have HR2 := Lh (HM.out (by rw [decide_eq_true (show 97 <= c.toNat by omega), decide_eq_false (by omega)]; rfl))
     go_wp2
     go_ret
     exact ⟨by rw [HR2.out]; rfl, hbel⟩
    ·have HR2 := Lh (HN.out (by rw [decide_eq_true (show 97 <= c.toNat by omega), decide_eq_true (show c.toNat <= 122 by omega)]; rfl))
     go_wp2
     exact ⟨⟨j + 1, by omega, by go_num, hbel, HR2⟩, by simp [intOf]; omega⟩
  ·obtain rfl : j = s.size := by omega
   have HR2 := Lh (HR.out.trans (by rw [HE.out, Bool.and_true]))
   by_cases h0 : s.size = 0
   ·obtain ⟨e1, e2⟩ := HZ.out h0
    go_wp2
    go_ret
    exact ⟨by rw [HR2.out, e2]; rfl, hbel⟩
   ·obtain ⟨e1, e2⟩ := HY.out h0
    go_wp2
    go_ret
    exact ⟨by rw [HR2.out, e2]; rfl, hbel⟩
theorem qgp (l : List ByteArray) (A : Option Addr) (n c : Nat) (w : World) (hn : l.length = n) (hc : n <= c) (hm : c <= maxLen) (rd : Rd w w.heap.size 1 A n (sv l)) (ht : Tb w) :
  Calls prog 85 #[.slice A n c] w (qg (kE (charW l)) w) := by
 cases l with
 | nil =>
  obtain rfl : n = 0 := by simpa using hn.symm
  have HU := Lh (qdL A c w)
  simp only [qbF] at HU
  clear rd ht
  go_enter func85, ntmps85
  go_wp2_with (go_at_call 113; refine HU.out.mono ?_; rintro e w1 ⟨rfl, hb1⟩)
  go_ret2
  exact ⟨rfl, hb1⟩
 | cons a t =>
  have hn1 : 0 < n := by rw [<- hn]; simp
  obtain ⟨b, o, rfl, hb, hca⟩ := rd.at_ hn1
  have ha : w.cell? ⟨b, o, none⟩ = some (.string a) := hca
  have q1 := yN (a := a) (b := jS) (l := [115, 112, 97, 99, 101]) rfl
  have HU := Lh (qcE a t b o n c w (by simpa using hn) hc hm rd ht)
  have hi : (0 : Int) < n := by omega
  by_cases hsp : a = jS
  ·rw [decide_eq_true hsp] at q1
   rw [charW, if_pos hsp]
   clear rd ht hca hsp hn hm HU
   go_enter func85, ntmps85
   go_wp2
   go_ret2
   exact ⟨rfl, Below.refl _ _⟩
  ·rw [decide_eq_false hsp] at q1
   rw [charW, if_neg hsp]
   clear rd ht hca hsp hn hm
   cases hu : qL (a :: t) with
   | none =>
    rw [hu] at HU
    simp only [qbF] at HU
    clear hu
    go_enter func85, ntmps85
    go_wp2_with (go_at_call 113; refine HU.out.mono ?_; rintro e w1 ⟨rfl, hb1⟩)
    go_ret2
    exact ⟨rfl, hb1⟩
   | some x =>
    obtain ⟨r, k⟩ := x
    rw [hu] at HU
    simp only [qbF] at HU
    clear hu
    go_enter func85, ntmps85
    go_wp2_with (go_at_call 113; refine HU.out.mono ?_; rintro e w1 ⟨rfl, hb1⟩)
    go_ret2
    exact ⟨rfl, hb1⟩
def raN (s : ByteArray) (j : Nat) : List Nat := ((qz s).take j).map (fun b => b - 32) ++ (qz s).drop j
theorem kn (s : ByteArray) (j : Nat) : (raN s j).length = s.size := by
 unfold raN
 rw [List.length_append, List.length_map, List.length_take, List.length_drop, zf]
 omega
theorem qag (s : ByteArray) (j i : Nat) (h : i < s.size) : (raN s j)[i]'(by rw [kn]; exact h) = if i < j then (qz s)[i]'(by rw [zf]; exact h) - 32 else (qz s)[i]'(by rw [zf]; exact h) := by
 unfold raN
 rw [List.getElem_append]
 by_cases hi : i < j
 ·rw [if_pos hi, dif_pos (by rw [List.length_map, List.length_take, zf]; omega)]
  simp
 ·rw [if_neg hi, dif_neg (by rw [List.length_map, List.length_take, zf]; omega)]
  simp only [List.length_map, List.length_take, zf, List.getElem_drop]
  congr 1
  omega
theorem qgU (s : ByteArray) (j : Nat) (hb : ∀ c ∈ s.data.toList, 97 <= c.toNat /\ c.toNat <= 122) : (⟨((raN s j).map fun b => UInt8.ofNat b).toArray⟩ : ByteArray) = qZ s j := by
 unfold raN qZ qz
 apply ByteArray.ext
 apply Array.toList_inj.1
 simp only [List.map_append, List.map_map, <- List.map_take, <- List.map_drop]
 congr 1
 ·refine List.map_congr_left fun c hc => ?_
  obtain ⟨h1, h2⟩ := hb c (List.mem_of_mem_take hc)
  show UInt8.ofNat (c.toNat - 32) = upB c
  unfold upB
  rw [if_pos ⟨h1, h2⟩]
  apply UInt8.toNat_inj.1
  have h3 := UInt8.toNat_sub_of_le c 32 (UInt8.le_iff_toNat_le.2 (Nat.le_trans (by decide) h1))
  rw [h3, UInt8.toNat_ofNat']
  show (c.toNat - 32) % 256 = c.toNat - 32
  omega
 ·refine (List.map_congr_left fun c hc => ?_).trans (List.map_id _)
  show UInt8.ofNat c.toNat = c
  simp
theorem qcx (s : ByteArray) (k : Nat) (h : s.size <= k) : qZ s k = qZ s s.size := by
 unfold qZ
 have hl : s.data.toList.length = s.size := by simp
 rw [List.take_of_length_le (by omega), List.drop_of_length_le (by omega), List.take_of_length_le (by omega), List.drop_of_length_le (by omega)]
def RaS (w : World) (s : ByteArray) (j : Nat) (wr : World) : Prop :=
 (∀ i (h : i < s.size), wr.cell? ⟨w.heap.size, i, none⟩ = some (.int .u8 ((raN s j)[i]'(by rw [kn]; exact h) : Nat)) /\ wr.frozen? ⟨w.heap.size, i, none⟩ = false) /\ Below w.heap.size w wr
theorem RaS.str {w wr : World} {s : ByteArray} {j c : Nat} (h : RaS w s j wr) (hb : ∀ c ∈ s.data.toList, 97 <= c.toNat /\ c.toNat <= 122) :
  (convert 118 9 (.slice (some ⟨w.heap.size, 0, none⟩) s.size c)).run prog wr = .ok (.string (qZ s j)) wr := by
 rw [<- qgU s j hb]
 refine qcg (B := w.heap.size + 1) (l := raN s j) ?_ (kn s j) ?_
 ·refine Rd.some_ (by rw [qgo, kn]; omega) (by omega) fun t u hu => ?_
  have ht : t < s.size := by
   rcases Nat.lt_or_ge t s.size with h | h
   ·exact h
   ·rw [List.getElem?_eq_none (by rw [qgo, kn]; exact h)] at hu; cases hu
  rw [byV_get _ _ (by rw [kn]; exact ht)] at hu
  rw [Nat.zero_add, (h.1 t ht).1]
  exact hu
 ·intro b hb'
  obtain ⟨i, hi, rfl⟩ := List.mem_iff_getElem.1 hb'
  rw [kn] at hi
  have hlt : (qz s)[i]'(by rw [zf]; exact hi) < 256 := by
   simp only [qz, List.getElem_map]
   exact UInt8.toNat_lt _
  rw [qag s j i hi]
  split <;> omega
theorem RaS.next {w wr : World} {s : ByteArray} {j : Nat} (h : RaS w s j wr) (hj : j < s.size) : RaS w s (j + 1) (wr.setCell ⟨w.heap.size, j, none⟩ (.int .u8 (((qz s)[j]'(by rw [zf]; exact hj) - 32 : Nat) : Int))) := by
 refine ⟨fun i hi => ⟨?_, ?_⟩, h.2.setCell (Nat.le_refl _) _⟩
 ·by_cases hij : i = j
  ·subst hij
   rw [World.cell?_setCell_same' _ _ _ (by rw [(h.1 i hi).1]; rfl), qag s (i + 1) i hi, if_pos (by omega)]
  ·rw [World.cell?_setCell_other _ _ _ _ (by intro e; injection e with _ e; exact hij e.symm), (h.1 i hi).1, qag s (j + 1) i hi, qag s j i hi]
   by_cases hl : i < j
   ·rw [if_pos hl, if_pos (by omega)]
   ·rw [if_neg hl, if_neg (by omega)]
 ·rw [World.frozen?_setCell]
  exact (h.1 i hi).2
theorem RaS.first (w : World) (s : ByteArray) : RaS w s 0 (w.drew.alloc (.cells (bytesRow s (grownCap w s.size 0 5)) 5 ((bytesRow s (grownCap w s.size 0 5)).size, (bytesRow s (grownCap w s.size 0 5)).size + 1))) := by
 have hrow : (w.drew.alloc (.cells (bytesRow s (grownCap w s.size 0 5)) 5 ((bytesRow s (grownCap w s.size 0 5)).size, (bytesRow s (grownCap w s.size 0 5)).size + 1))).heap[w.heap.size]? = some (.cells (bytesRow s (grownCap w s.size 0 5)) 5 ((bytesRow s (grownCap w s.size 0 5)).size, (bytesRow s (grownCap w s.size 0 5)).size + 1)) := heap_alloc_new w.drew _
 refine ⟨fun i hi => ⟨?_, ?_⟩, (Below.refl _ _).drew.alloc (Nat.le_refl _) _⟩
 ·rw [cell_of_row _ _ _ _ _ _ hrow]
  unfold bytesRow
  rw [Array.getElem?_append_left (by simpa using hi), Array.getElem?_map, Array.getElem?_eq_getElem (by simpa using hi), qag s 0 i hi, if_neg (by omega)]
  simp [qz]
 ·unfold World.frozen?
  rw [hrow]
  have : i < (bytesRow s (grownCap w s.size 0 5)).size := by
   unfold bytesRow
   rw [Array.size_append, Array.size_map]
   have : s.data.size = s.size := rfl
   omega
  simp only [decide_eq_false_iff_not, Bool.and_eq_false_iff, decide_eq_true_eq]
  omega
theorem qdM (s : ByteArray) (hz : azB s = true) (hs : s.size <= 1000000) (k : Nat) (hk : k <= 1000000) (w : World) : Calls prog 82 #[.string s, .int .i64 k] w (qg (.string (qZ s k)) w) := by
 have hby := (qai hz).2
 have HR : Hid (∀ j, (j = k ∨ j = s.size) -> j <= k -> qZ s j = qZ s k) := Lh fun j h hj => by
  rcases h with rfl | rfl
  ·rfl
  ·exact (qcx s k hj).symm
 have HStr : Hid (∀ j wr c, RaS w s j wr -> (convert 118 9 (.slice (some ⟨w.heap.size, 0, none⟩) s.size c)).run prog wr = .ok (.string (qZ s j)) wr) := Lh fun j wr c h => h.str hby
 have HB : Hid (∀ j (h : j < s.size), 97 <= (qz s)[j]'(by rw [zf]; exact h) /\ (qz s)[j]'(by rw [zf]; exact h) <= 122) := Lh fun j h => by
  simp only [qz, List.getElem_map]
  exact hby _ (List.getElem_mem _)
 have hcv := run_bytes_of_string (P := prog) w 9 118 5 s underlying9 underlying118 underlying5
 have h0 := RaS.first w s
 generalize w.drew.alloc (.cells (bytesRow s (grownCap w s.size 0 5)) 5 ((bytesRow s (grownCap w s.size 0 5)).size, (bytesRow s (grownCap w s.size 0 5)).size + 1)) = X at *
 generalize grownCap w s.size 0 5 = cp at *
 generalize qZ s k = RS at *
 clear hz hby
 go_enter func82, ntmps82
 go_wp2
 go_loopw [6] (fun x wr => ∃ j : Nat, j <= s.size /\ j <= k /\ x = .int .i64 j /\ RaS w s j wr) (fun x _ => s.size - (intOf x).toNat)
 case atStart => exact ⟨0, Nat.zero_le _, Nat.zero_le _, rfl, h0⟩
 case round =>
  clear h0 hcv
  obtain ⟨j, hj, hjk, rfl, hR⟩ := hrel
  by_cases hlk : j < k
  ·by_cases hlt : j < s.size
   ·have hn := hR.next hlt
    obtain ⟨hc, hf⟩ := hR.1 j hlt
    obtain ⟨b1, b2⟩ := HB.out j hlt
    rw [qag s j j hlt, if_neg (Nat.lt_irrefl j)] at hc
    generalize (qz s)[j]'(by rw [zf]; exact hlt) = bj at *
    have hwb : IntKind.u8.wrap ((bj : Int) - 32) = ((bj - 32 : Nat) : Int) := by rw [IntKind.wrap_u8]; omega
    clear HB HStr HR
    go_wp2
    exact ⟨⟨j + 1, by omega, by omega, by go_num, hn⟩, by simp [intOf]; omega⟩
   ·obtain rfl : j = s.size := by omega
    have hst := HStr.out _ _ cp hR
    have hR2 := Lh (HR.out _ (.inr rfl) hjk)
    clear HStr HB HR
    go_wp2
    go_ret
    exact ⟨by rw [hR2.out]; rfl, hR.2⟩
  ·obtain rfl : j = k := by omega
   have hst := HStr.out _ _ cp hR
   have hR2 := Lh (HR.out _ (.inl rfl) hjk)
   clear HStr HB HR
   go_wp2
   go_ret
   exact ⟨by rw [hR2.out]; rfl, hR.2⟩
end Go.Proofs.YtlndbiamiioakaaGreatDoor
namespace Go.Proofs.YtlndbiamiioakaaGreatDoor
open Go.Proofs.Tryz Go.RowKit
set_option maxRecDepth 20000
theorem rliteral (l : List ByteArray) (A : Option Addr) (n c B : Nat) (w : World) (hsz : ∀ s ∈ l, s.size <= 1000) (hl : l.length <= 1000000) (rd : Rd w B 1 A n (sv l)) (hB : B <= w.heap.size) (ht : Tb w) :
  Calls prog 80 #[.slice A n c] w (qg (kg (zV l)) w) := by
 have hn : l.length = n := by have := rd.1; simp [sv] at this; omega
 cases l with
 | nil =>
  obtain rfl : n = 0 := by simpa using hn.symm
  clear rd ht
  go_enter func80, ntmps80
  go_wp2
  go_ret2
  exact ⟨rfl, Below.refl _ _⟩
 | cons a t =>
  have hn1 : 0 < n := by rw [<- hn]; simp
  have htl : t.length + 1 = n := by simpa using hn
  obtain ⟨b, o, rfl, hb, hca⟩ := rd.at_ hn1
  have ha : w.cell? ⟨b, o, none⟩ = some (.string a) := hca
  have HCa : Hid (∀ w', Below w.heap.size w w' -> w'.cell? ⟨b, o, none⟩ = some (.string a)) := Lh fun w' hw => (hw.cell (by show b < _; omega)).trans ha
  have qiH : ∀ s : ByteArray, s.size <= 1000 -> Hid (∀ w', Below w.heap.size w w' -> Calls prog 111 #[.string s] w' fun e w'' => e = .returned (.bool (azB s)) /\ Below w.heap.size w w'') := fun s hs => Lh fun w' hw => (rlower s (Nat.le_trans hs (by decide)) w').mono fun e w'' ⟨h1, h2⟩ => ⟨h1, hw.trans (h2.mono hw.size)⟩
  have HPa := qiH a (hsz a (by simp))
  have HRs : Hid (∀ w', Below w.heap.size w w' -> Calls prog 112 #[.string a] w' fun e w'' => e = .returned (.bool (vD a)) /\ Below w.heap.size w w'') := Lh fun w' hw => (qgY a w' (ht.below hw)).mono fun e w'' ⟨h1, h2⟩ => ⟨h1, hw.trans (h2.mono hw.size)⟩
  have q1 := yN (a := a) (b := vw) (l := [119, 111, 114, 100]) rfl
  have q2 := yN (a := a) (b := zB) (l := [115, 112, 101, 108, 108, 101, 100]) rfl
  have hb0 : Below w.heap.size w w := Below.refl _ _
  have hi0 : (0 : Int) < n := by omega
  have hn0 : ((n : Int) == 0) = false := beq_eq_false_iff_ne.2 (by omega)
  by_cases hw : a = vw
  ·rw [decide_eq_true hw] at q1
   have hne : a ≠ zB := by rw [hw]; decide +kernel
   rw [decide_eq_false hne] at q2
   have haz1 : azB a = true := by rw [hw]; decide +kernel
   have hrs1 : vD a = true := by rw [hw]; decide +kernel
   have e1 : azB (t.headD ⟨#[]⟩) = false -> zV (a :: t) = none := fun h => by
    rw [zV, if_neg (by rw [h]; simp), if_neg (by rw [hrs1]; simp), if_neg hne]
   rw [hrs1] at HRs
   rw [haz1] at HPa
   cases t with
   | nil =>
    obtain rfl : n = 1 := by simpa using htl.symm
    rw [e1 (by decide +kernel)]
    clear e1 hne haz1 hrs1 hsz hw hca rd qiH
    go_enter func80, ntmps80
    go_wp2_with (first
      | (go_at_call 111; with_reducible refine (HPa.out _ (by assumption)).mono ?_; rintro e w1 ⟨rfl, hb1⟩; have ha1 := HCa.out _ hb1)
      | (go_at_call 112; with_reducible refine (HRs.out _ (by assumption)).mono ?_; rintro e w2 ⟨rfl, hb2⟩; have ha2 := HCa.out _ hb2))
    go_ret2
    exact ⟨rfl, by assumption⟩
   | cons d t' =>
    have hn2 : 1 < n := by rw [<- htl]; simp
    have hi1 : (1 : Int) < n := by omega
    have hcd := rd.at_ hn2
    obtain ⟨b', o', e', _, hcd⟩ := hcd
    simp only [Option.some.injEq, Addr.mk.injEq, and_true] at e'
    obtain ⟨rfl, rfl⟩ := e'
    have hd : w.cell? ⟨b, o + 1, none⟩ = some (.string d) := hcd
    have HCd : Hid (∀ w', Below w.heap.size w w' -> w'.cell? ⟨b, o + 1, none⟩ = some (.string d)) := Lh fun w' hw => (hw.cell (by show b < _; omega)).trans hd
    have HPd := qiH d (hsz d (by simp))
    rw [List.headD_cons] at e1
    cases hz : azB d with
    | true =>
     have e2 : zV (a :: d :: t') = some (d, 2) := by rw [zV, List.headD_cons, if_pos ⟨hw, hz⟩]
     rw [e2]
     rw [hz] at HPd
     clear e1 e2 hne haz1 hrs1 hsz hw hca hcd rd hz qiH
     go_enter func80, ntmps80
     go_wp2_with (first
       | (go_at_call 111; with_reducible refine (HPd.out _ (by assumption)).mono ?_; rintro e w3 ⟨rfl, hb3⟩; have ha3 := HCa.out _ hb3; have hd3 := HCd.out _ hb3)
       | (go_at_call 111; with_reducible refine (HPa.out _ (by assumption)).mono ?_; rintro e w1 ⟨rfl, hb1⟩; have ha1 := HCa.out _ hb1)
       | (go_at_call 112; with_reducible refine (HRs.out _ (by assumption)).mono ?_; rintro e w2 ⟨rfl, hb2⟩; have ha2 := HCa.out _ hb2))
     go_ret2
     exact ⟨rfl, by assumption⟩
    | false =>
     rw [e1 hz]
     rw [hz] at HPd
     clear e1 hne haz1 hrs1 hsz hw hca hcd rd hz qiH
     go_enter func80, ntmps80
     go_wp2_with (first
       | (go_at_call 111; with_reducible refine (HPd.out _ (by assumption)).mono ?_; rintro e w3 ⟨rfl, hb3⟩; have ha3 := HCa.out _ hb3; have hd3 := HCd.out _ hb3)
       | (go_at_call 111; with_reducible refine (HPa.out _ (by assumption)).mono ?_; rintro e w1 ⟨rfl, hb1⟩; have ha1 := HCa.out _ hb1)
       | (go_at_call 112; with_reducible refine (HRs.out _ (by assumption)).mono ?_; rintro e w2 ⟨rfl, hb2⟩; have ha2 := HCa.out _ hb2))
     go_ret2
     exact ⟨rfl, by assumption⟩
  ·rw [decide_eq_false hw] at q1
   have e1 : zV (a :: t) = if azB a = true /\ vD a = false then some (a, 1) else if a = zB then vJ t else none := if_neg fun h => hw h.1
   by_cases qip : azB a = true /\ vD a = false
   ·rw [e1, if_pos qip]
    rw [qip.1] at HPa
    rw [qip.2] at HRs
    clear e1 qip q2 hsz hw hca rd qiH
    go_enter func80, ntmps80
    go_upto_region 1 with fail
    go_cut [20] (fun v wx => v = .bool false /\ wx = w)
    case first =>
     clear HRs HPa
     by_cases h1n : (1 : Int) < n
     ·go_wp2
      go_meet
      exact ⟨rfl, rfl⟩
     ·go_wp2
      go_meet
      exact ⟨rfl, rfl⟩
    case rest =>
    obtain ⟨rfl, hwc⟩ := hcut
    rw [hwc]
    clear hwc
    go_upto_region 3 with fail
    go_wp2_with (first
      | (go_at_call 111; with_reducible refine (HPa.out _ (by assumption)).mono ?_; rintro e w1 ⟨rfl, hb1⟩; have ha1 := HCa.out _ hb1)
      | (go_at_call 112; with_reducible refine (HRs.out _ (by assumption)).mono ?_; rintro e w2 ⟨rfl, hb2⟩; have ha2 := HCa.out _ hb2))
    go_ret2
    exact ⟨rfl, by assumption⟩
   ·rw [e1, if_neg qip]
    obtain ⟨RES, qih⟩ : ∃ x, x = if a = zB then vJ t else none := ⟨_, rfl⟩
    rw [<- qih]
    replace qih := Lh qih
    have hcs : azB a = false ∨ (azB a = true /\ vD a = true) := by
     cases h1 : azB a with
     | false => exact .inl rfl
     | true =>
      cases h2 : vD a with
      | true => exact .inr ⟨rfl, rfl⟩
      | false => exact absurd ⟨h1, h2⟩ qip
    have hsz' := Lh hsz
    clear e1 qip hsz hw hca
    go_enter func80, ntmps80
    go_upto_region 1 with fail
    go_cut [20] (fun v wx => v = .bool false /\ wx = w)
    case first =>
     clear HRs HPa
     by_cases h1n : (1 : Int) < n
     ·go_wp2
      go_meet
      exact ⟨rfl, rfl⟩
     ·go_wp2
      go_meet
      exact ⟨rfl, rfl⟩
    case rest =>
    obtain ⟨rfl, hwc⟩ := hcut
    rw [hwc]
    clear hwc
    go_upto_region 3 with fail
    go_cut [39] (fun v wx => v = .bool false /\ Below w.heap.size w wx)
    case first =>
     clear hsz' rd q2 qiH
     rcases hcs with hz | ⟨hz, hr⟩
     ·rw [hz] at HPa
      clear hz
      go_wp2_with (first
        | (go_at_call 111; with_reducible refine (HPa.out _ (by assumption)).mono ?_; rintro e w1 ⟨rfl, hb1⟩; have ha1 := HCa.out _ hb1)
        | (go_at_call 112; with_reducible refine (HRs.out _ (by assumption)).mono ?_; rintro e w2 ⟨rfl, hb2⟩; have ha2 := HCa.out _ hb2))
      go_meet
      exact ⟨rfl, by assumption⟩
     ·rw [hz] at HPa
      rw [hr] at HRs
      clear hz hr
      go_wp2_with (first
        | (go_at_call 111; with_reducible refine (HPa.out _ (by assumption)).mono ?_; rintro e w1 ⟨rfl, hb1⟩; have ha1 := HCa.out _ hb1)
        | (go_at_call 112; with_reducible refine (HRs.out _ (by assumption)).mono ?_; rintro e w2 ⟨rfl, hb2⟩; have ha2 := HCa.out _ hb2))
      go_meet
      exact ⟨rfl, by assumption⟩
    case rest =>
     obtain ⟨wq, rfl⟩ : ∃ x : World, x = wc := ⟨_, rfl⟩
     obtain ⟨rfl, hbc⟩ := hcut
     clear HPa HRs hcs
     have ha1 := HCa.out _ hbc
     by_cases hsp : a = zB
     ·rw [decide_eq_true hsp] at q2
      replace qih := Lh (qih.out.trans (if_pos hsp))
      have HLt : Hid (∀ k (hk : k < t.length), t[k].size <= 1000) := Lh fun k hk => hsz'.out _ (List.mem_cons_of_mem _ (List.getElem_mem hk))
      have HC : Hid (∀ k (hk : k < t.length) w', Below w.heap.size w w' -> w'.cell? ⟨b, o + (k + 1), none⟩ = some (.string t[k])) := Lh fun k hk w' hw => by
       obtain ⟨b', o', e', _, hcd⟩ := rd.at_ (k := k + 1) (by omega)
       simp only [Option.some.injEq, Addr.mk.injEq, and_true] at e'
       obtain ⟨rfl, rfl⟩ := e'
       refine (hw.cell (by show b < _; omega)).trans (hcd.trans ?_)
       show (sv (a :: t))[k + 1]? = _
       simp [sv, hk]
      have HS : Hid (∀ k (hk : k < t.length), vZ t (k + 1) = vZ t k ++ t[k]) := Lh fun k hk => qbe hk
      have HSt : Hid (∀ j, j <= t.length -> (∀ k (hk : k < t.length), k < j -> vu t[k] = true) -> (∀ hk : j < t.length, vu t[j] = false) -> vJ t = if j = 0 then none else if t[j]? = some ko then some (vZ t j, j + 2) else none) := Lh fun j h1 h2 h3 => qgd h1 h2 h3
      have HSz : Hid (∀ j, j <= t.length -> (∀ k (hk : k < t.length), k < j -> vu t[k] = true) -> (vZ t j).size = j) := Lh fun j h1 h2 => qdn h1 h2
      have HLo := Lh qiH
      rw [<- qih.out] at HSt
      clear rd hsz' hsp q1 ha qiH
      have hl' : t.length <= 1000000 := by simp at hl; omega
      have ht' := Lh htl
      clear hn hl htl HCa
      go_wp2
      go_loopw [4, 5] (fun y x wr => ∃ j : Nat, j <= t.length /\ x = .int .i64 (j + 1 : Nat) /\ y = .string (vZ t j) /\ Below w.heap.size w wr /\ Hid (∀ k (hk : k < t.length), k < j -> vu t[k] = true)) (fun _ x _ => n - (intOf x).toNat)
      case atStart => exact ⟨0, Nat.zero_le _, rfl, rfl, hbc, Lh fun k hk h => absurd h (Nat.not_lt_zero k)⟩
      case round =>
       clear hbc
       obtain ⟨j, hj, rfl, rfl, hbel, HA⟩ := hrel
       have hz := HSz.out j hj HA.out
       by_cases hlt : j < t.length
       ·have HCx := Lh (HC.out j hlt)
        have hc := HCx.out wr hbel
        have HCn := Lh (HS.out j hlt)
        have hxs := HLt.out j hlt
        have HSj := Lh (HSt.out j hj HA.out)
        have HAn : Hid (vu t[j] = true -> ∀ k (hk : k < t.length), k < j + 1 -> vu t[k] = true) := Lh fun h k hk hkj => by
         rcases Nat.lt_or_ge k j with h' | h'
         ·exact HA.out k hk h'
         ·obtain rfl : k = j := by omega
          exact h
        have HPx := HLo.out t[j] hxs
        have hqe := yN (a := t[j]) (b := ko) (l := [101, 110, 100]) rfl
        have htj : t[j]? = some t[j] := List.getElem?_eq_getElem hlt
        have hjn : j + 1 < n := by have := ht'.out; omega
        have hji : (j : Int) + 1 < n := by omega
        have hje : ((j : Int) + 1 == n) = false := beq_eq_false_iff_ne.2 (by omega)
        by_cases hone : vu t[j] = true
        ·have HA2 := Lh (HAn.out hone)
         have ho := hone
         unfold vu at ho
         rw [Bool.and_eq_true, decide_eq_true_eq] at ho
         obtain ⟨ho1, ho2⟩ := ho
         rw [ho1] at HPx
         clear HSj HAn HSt hone ho1 HS HSz HC htj HLo hqe
         generalize t[j] = x at *
         generalize vZ t j = CJ at *
         go_wp2_with (go_at_call 111; with_reducible refine (HPx.out _ hbel).mono ?_; rintro e w4 ⟨rfl, qh7⟩; have hc1 := HCx.out _ qh7)
         exact ⟨⟨j + 1, by omega, by go_num, by rw [HCn.out], qh7, HA2⟩, by simp [intOf]; omega⟩
        ·have qiK := Lh (HSj.out (fun _ => by simpa using hone))
         rw [htj] at qiK
         have hone' : azB t[j] = false ∨ (azB t[j] = true /\ t[j].size ≠ 1) := by
          cases h1 : azB t[j] with
          | false => exact .inl rfl
          | true =>
           refine .inr ⟨rfl, fun h2 => hone ?_⟩
           unfold vu
           rw [h1, decide_eq_true h2]
           rfl
         have hnend : azB t[j] = false -> t[j] ≠ ko := fun h e => by rw [e] at h; exact absurd h (by decide +kernel)
         clear HSj HAn HSt hone HS HSz HC htj HLo HCn HA
         generalize t[j] = x at *
         by_cases h0 : j = 0
         ·have he : (vZ t j).toList.isEmpty = true := by rw [h0, ByteArray.toList_eq]; rfl
          have HR2 : Hid (RES = none) := Lh (by rw [qiK.out, if_pos h0])
          clear qiK hqe hnend h0
          generalize vZ t j = CJ at *
          rcases hone' with hz1 | ⟨hz1, hx1⟩
          ·rw [hz1] at HPx
           clear hz1
           go_wp2_with (go_at_call 111; with_reducible refine (HPx.out _ hbel).mono ?_; rintro e w4 ⟨rfl, qh7⟩; have hc1 := HCx.out _ qh7)
           go_ret2
           exact ⟨by rw [HR2.out]; rfl, qh7⟩
          ·rw [hz1] at HPx
           have hx1' : ((x.size : Int) == 1) = false := beq_eq_false_iff_ne.2 (by omega)
           clear hz1
           go_wp2_with (go_at_call 111; with_reducible refine (HPx.out _ hbel).mono ?_; rintro e w4 ⟨rfl, qh7⟩; have hc1 := HCx.out _ qh7)
           go_ret2
           exact ⟨by rw [HR2.out]; rfl, qh7⟩
         ·have he : (vZ t j).toList.isEmpty = false := zQ (by omega)
          rw [if_neg h0] at qiK
          rcases hone' with hz1 | ⟨hz1, hx1⟩
          ·have hne := hnend hz1
           have HR2 : Hid (RES = none) := Lh (by rw [qiK.out, if_neg (fun e => hne (by injection e))])
           rw [decide_eq_false hne] at hqe
           rw [hz1] at HPx
           clear qiK hne hnend h0 hz1
           generalize vZ t j = CJ at *
           go_wp2_with (go_at_call 111; with_reducible refine (HPx.out _ hbel).mono ?_; rintro e w4 ⟨rfl, qh7⟩; have hc1 := HCx.out _ qh7)
           go_ret2
           exact ⟨by rw [HR2.out]; rfl, qh7⟩
          ·have hx1' : ((x.size : Int) == 1) = false := beq_eq_false_iff_ne.2 (by omega)
           rw [hz1] at HPx
           by_cases hend : x = ko
           ·have HR2 : Hid (RES = some (vZ t j, j + 2)) := Lh (by rw [qiK.out, if_pos (by rw [hend])])
            rw [decide_eq_true hend] at hqe
            clear qiK hnend h0 hz1 hend
            generalize vZ t j = CJ at *
            go_wp2_with (go_at_call 111; with_reducible refine (HPx.out _ hbel).mono ?_; rintro e w4 ⟨rfl, qh7⟩; have hc1 := HCx.out _ qh7)
            go_ret2
            exact ⟨by rw [HR2.out]; show Ending.returned (.tuple #[.string CJ, .int .i64 ((j : Int) + 1 + 1)]) = .returned (.tuple #[.string CJ, .int .i64 ((j + 2 : Nat) : Int)]); rw [show ((j + 2 : Nat) : Int) = (j : Int) + 1 + 1 by omega], qh7⟩
           ·have HR2 : Hid (RES = none) := Lh (by rw [qiK.out, if_neg (fun e => hend (by injection e))])
            rw [decide_eq_false hend] at hqe
            clear qiK hnend h0 hz1 hend
            generalize vZ t j = CJ at *
            go_wp2_with (go_at_call 111; with_reducible refine (HPx.out _ hbel).mono ?_; rintro e w4 ⟨rfl, qh7⟩; have hc1 := HCx.out _ qh7)
            go_ret2
            exact ⟨by rw [HR2.out]; rfl, qh7⟩
       ·obtain rfl : j = t.length := by omega
        have hjn : ¬ t.length + 1 < n := by have := ht'.out; omega
        have hji : ¬ (t.length : Int) + 1 < n := by omega
        have hje : ((t.length : Int) + 1 == n) = true := beq_iff_eq.2 (by have := ht'.out; omega)
        have HR2 : Hid (RES = none) := Lh (by
         rw [HSt.out t.length (Nat.le_refl _) HA.out (fun hk => absurd hk (Nat.lt_irrefl _))]
         split
         ·rfl
         ·rw [List.getElem?_eq_none (Nat.le_refl _), if_neg (by simp)])
        by_cases h0 : t.length = 0
        ·have he : (vZ t t.length).toList.isEmpty = true := by
          have : vZ t t.length = ⟨#[]⟩ := by rw [h0]; rfl
          rw [this, ByteArray.toList_eq]; rfl
         clear HSt HS HSz HC HA HLt HLo
         generalize vZ t t.length = CJ at *
         go_wp2
         go_ret2
         exact ⟨by rw [HR2.out]; rfl, hbel⟩
        ·have he : (vZ t t.length).toList.isEmpty = false := zQ (by omega)
         clear HSt HS HSz HC HA HLt HLo
         generalize vZ t t.length = CJ at *
         go_wp2
         go_ret2
         exact ⟨by rw [HR2.out]; rfl, hbel⟩
     ·rw [decide_eq_false hsp] at q2
      replace qih := Lh (qih.out.trans (if_neg hsp))
      clear rd hsz' hsp q1 ha qiH
      go_wp2
      go_ret2
      exact ⟨by rw [qih.out]; rfl, hbc⟩
end Go.Proofs.YtlndbiamiioakaaGreatDoor
