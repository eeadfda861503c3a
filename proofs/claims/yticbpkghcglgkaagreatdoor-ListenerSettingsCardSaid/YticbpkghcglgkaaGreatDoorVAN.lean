/- Joined: Pa1, PaC, PlP, Pa2. -/
import Derived.Test.YticbpkghcglgkaaGreatDoorVAM
set_option linter.unusedVariables false
set_option linter.unusedSimpArgs false
set_option linter.unnecessarySimpa false
namespace Go.Proofs.YticbpkghcglgkaaGreatDoor
open Go.Proofs.Tryz Go.RowKit
set_option maxRecDepth 20000
def jh (nb:Nat) (v u:Value) (st:Int) (j:Bool):Array Value:=#[.map (some nb),v,u,.int .i64 st,.bool j]
def PaS (w:World) (g nb:Nat) (p:Prs):Prop :=
 ∃ A n c A2 c2,n<=c/\c<=maxLen/\Blk w g 201 (jh nb (.slice A n c) (.slice A2 p.out.length c2) p.style p.joins)/\Rd w g 1 A n (sv p.words)/\w.ownsRow (g+1) 86 3 (.slice A2 p.out.length c2) p.out.length (qi p.out)
theorem PaS.lt {w:World} {g nb:Nat} {p:Prs} (h:PaS w g nb p):g<w.heap.size:=by
 obtain ⟨A,n,c,A2,c2,_,_,h,_⟩:=h
 exact h.lt
theorem PaS.below {w w':World} {g nb:Nat} {p:Prs} (h:PaS w g nb p) (hb:Below w.heap.size w w'):PaS w' g nb p:=by
 have hl:=h.lt
 obtain ⟨A,n,c,A2,c2,h1,h2,h3,h4,h5⟩:=h
 exact ⟨A,n,c,A2,c2,h1,h2,h3.below hb hl,h4.below (hb.mono (Nat.le_of_lt hl)),qb h5 hb⟩
def PaK (p:Prs):Prop:=(∀ s∈p.words,s.size<=1000)/\p.out.length+2000 * p.words.length<=1000000000/\(∀ x∈p.out,x.text.size+8 * p.words.length<=4000000)
theorem PaK.len {p:Prs} (h:PaK p):p.words.length<=500000:=by have:=h.2.1;omega
theorem PaK.sz {p:Prs} (h:PaK p) : ∀ s∈p.words,s.size<=maxLen:=fun s hs=>Nat.le_trans (h.1 s hs) (by decide)
def PaK2 (p:Prs):Prop:=PaK p/\p.words.length<=400000
theorem encN_len (r:Nat):(vQ r).length<=4:=by
 unfold vQ
 repeat' split
 all_goals simp
theorem qet (r:Nat):(kt r).size<=4:=by
 unfold kt
 show (List.toArray _).size<=_
 rw [List.size_toArray,List.length_map]
 exact encN_len r
theorem qkd (j:Bool) (st:Int) (s:ByteArray):(vm j st s).length<=s.size+1:=by
 have h:s.data.toList.length=s.size:=by simp
 unfold vm
 rw [List.length_append,List.length_map,h]
 split <;> simp <;> omega
theorem qiT {j:Bool} {st:Int} {s:ByteArray} : ∀ x∈vm j st s,x.text.size=1:=by
 intro x hx
 unfold vm at hx
 rcases List.mem_append.1 hx with hx | hx
 ·split at hx
  ·rw [List.mem_singleton] at hx;subst hx;rfl
  ·cases hx
 ·obtain ⟨c,_,rfl⟩:=List.mem_map.1 hx
  rfl
theorem PaK2.text {p:Prs} (h:PaK2 p) {s:ByteArray} {k:Nat} (hk:0<k) (hkl:k<=p.words.length) (hs:s.size+1<=2000 * k):PaK2 (kN p s k):=by
 obtain ⟨⟨h1,h2,h3⟩,h4⟩:=h
 have hl:(p.words.drop k).length=p.words.length-k:=List.length_drop
 have ht:=qkd p.joins p.style s
 refine ⟨⟨fun x hx=>h1 x (List.mem_of_mem_drop hx),?_,fun x hx=>?_⟩,?_⟩
 ·show (p.out++vm p.joins p.style s).length+2000 * (p.words.drop k).length<=_
  rw [List.length_append,hl]
  omega
 ·show _+8 * (p.words.drop k).length<=_
  rw [hl]
  rcases List.mem_append.1 hx with hx | hx
  ·have:=h3 x hx;omega
  ·have:=qiT x hx;omega
 ·show (p.words.drop k).length<=_
  omega
theorem qgU {s:ByteArray} {r:Int} (h:((ye s r).2==0)=true):(ye s r).1.size<=s.size+4:=by
 unfold ye at *
 split at h
 ·rename_i hc
  exact absurd (beq_iff_eq.1 h) hc
 ·split at h
  ·exact absurd (beq_iff_eq.1 h) (by decide)
  ·split at h
   ·exact absurd (beq_iff_eq.1 h) (by decide)
   ·rename_i h1 h2 h3
    rw [if_neg h1,if_neg h2,if_neg h3,ByteArray.size_append]
    have:=qet r.toNat
    show s.size+_<=_
    omega
theorem PaK2.add {p:Prs} (h:PaK2 p) {r:Int} {times n:Nat} (ht:times<=132) (hn:0<n) (hnl:n<=p.words.length) (ha:(vV p.out p.style r times).1=true):PaK2 ⟨p.words.drop n,(vV p.out p.style r times).2,p.style,false⟩:=by
 obtain ⟨⟨h1,h2,h3⟩,h4⟩:=h
 have hl:(p.words.drop n).length=p.words.length-n:=List.length_drop
 have key:(vV p.out p.style r times).2.length<=p.out.length+132/\∀ x∈(vV p.out p.style r times).2,x.text.size+8 * p.words.length<=4000008:=by
  unfold vV at *
  split at ha
  ·cases ha
  ·split at ha
   ·split at ha
    ·cases ha
    ·rename_i hw1 hw2 hw3
     rw [if_neg hw1,if_pos hw2,if_neg hw3]
     cases hg:p.out.getLast? with
     | none=>rw [hg] at ha;cases ha
     | some g =>
      rw [hg] at ha
      simp only at ha ⊢
      have hz:=qgU ha
      have hne:p.out≠[]:=by rintro e;rw [e] at hg;cases hg
      have hgm:g∈p.out:=by
       rw [List.getLast?_eq_some_getLast hne] at hg
       injection hg with hg
       rw [<- hg]
       exact List.getLast_mem hne
      have:=h3 g hgm
      refine ⟨by rw [List.length_append,List.length_dropLast,List.length_singleton];omega,fun x hx=>?_⟩
      rcases List.mem_append.1 hx with hx | hx
      ·have:=h3 x (List.dropLast_subset _ hx);omega
      ·rw [List.mem_singleton] at hx
       subst hx
       show (ye g.text r).1.size+_<=_
       omega
   ·rename_i hw1 hw2
    rw [if_neg hw1,if_neg hw2]
    refine ⟨by simp only [List.length_append,List.length_replicate];omega,fun x hx=>?_⟩
    rcases List.mem_append.1 hx with hx | hx
    ·have:=h3 x hx;omega
    ·have:=List.eq_of_mem_replicate hx
     subst this
     have:=qet r.toNat
     show (kt r.toNat).size+_<=_
     omega
 refine ⟨⟨fun x hx=>h1 x (List.mem_of_mem_drop hx),?_,fun x hx=>?_⟩,?_⟩
 ·show (vV p.out p.style r times).2.length+2000 * (p.words.drop n).length<=_
  rw [hl]
  have:=key.1
  omega
 ·show _+8 * (p.words.drop n).length<=_
  rw [hl]
  have:=key.2 x hx
  omega
 ·show (p.words.drop n).length<=_
  omega
def LowW (w:ByteArray):Prop:=azB w=true/\jF w=false
theorem LowW.bytes {w:ByteArray} (h:LowW w) : ∃ c T,w.data.toList=c::T/\∀ x∈c::T,97<=x.toNat/\x.toNat<=122:=by
 have h1:=h.1
 unfold azB at h1
 simp only [Bool.and_eq_true,Bool.not_eq_true',List.isEmpty_eq_false_iff,List.all_eq_true,decide_eq_true_eq] at h1
 obtain ⟨h2,h3⟩:=h1
 match hd:w.data.toList with
 | []=>exact absurd hd h2
 | c::T=>exact ⟨c,T,rfl,by rw [<- hd];exact h3⟩
theorem par_put {X w4:World} {g nb n N c0 c4:Nat} {A0 A4:Option Addr} {v:Value} {st:Int} {j:Bool} {ys:List Value}
  (hX:Blk X g 201 (jh nb v (.slice A0 n c0) st j)) (hown4:w4.ownsRow (g+1) 86 3 (.slice A4 N c4) N ys) (hbel4:Below (g+1) X w4) :
  Blk (w4.setCell ⟨g,2,none⟩ (.slice A4 N c4)) g 201 (jh nb v (.slice A4 N c4) st j)/\(w4.setCell ⟨g,2,none⟩ (.slice A4 N c4)).ownsRow (g+1) 86 3 (.slice A4 N c4) N ys/\Below g X (w4.setCell ⟨g,2,none⟩ (.slice A4 N c4)):=by
 have hb4:=hX.below hbel4 (Nat.lt_succ_self g)
 refine ⟨?_,zZ hown4 (Nat.lt_succ_self g) _,(hbel4.mono (Nat.le_succ g)).setCell (Nat.le_refl _) _⟩
 have:=hb4.set_ 2 (.slice A4 N c4)
 simpa [jh] using this
def PaT (w:World) (g nb:Nat) (v:Value) (st:Int) (j:Bool) (O:List Gl) (wx:World):Prop :=
 ∃ A c,Blk wx g 201 (jh nb v (.slice A O.length c) st j)/\wx.ownsRow (g+1) 86 3 (.slice A O.length c) O.length (qi O)/\Below g w wx
theorem PaT.put {w X w4:World} {g nb n N c0 c4:Nat} {A0 A4:Option Addr} {v:Value} {st:Int} {j:Bool} {ys:List Value} {O:List Gl}
  (hX:Blk X g 201 (jh nb v (.slice A0 n c0) st j)) (tX:Below g w X) (hown4:w4.ownsRow (g+1) 86 3 (.slice A4 N c4) N ys) (hbel4:Below (g+1) X w4) (hN:O.length=N) (hy:qi O=ys) :
  PaT w g nb v st j O (w4.setCell ⟨g,2,none⟩ (.slice A4 N c4)):=by
 subst hN hy
 obtain ⟨h1,h2,h3⟩:=par_put hX hown4 hbel4
 exact ⟨A4,c4,h1,h2,tX.trans h3⟩
end Go.Proofs.YticbpkghcglgkaaGreatDoor
