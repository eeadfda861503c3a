/- Joined: Num7, NumP, Sig3, SigP, Wd2, Ut3, Cl0, Pa0, Vo1, Lib4, Cc1, Vo2, Lib2, Lt1, Dg1, Kd1, Un0, Un2, Ut4. -/
import Derived.Test.YticbpkghcglgkaaGreatDoorVAG
import Derived.Test.YticbpkghcglgkaaGreatDoorVDW
set_option linter.unusedVariables false
set_option linter.unusedSimpArgs false
set_option linter.unnecessarySimpa false
set_option maxHeartbeats 4000000
namespace Go.Proofs.YticbpkghcglgkaaGreatDoor
open Go.Proofs.Tryz Go.RowKit Go.WideMaps
def ve:Option (Int × Nat)->Value
 | some (n,k)=>.tuple #[.int .i64 n,.int .i64 k,.int .i64 0]
 | none=>.tuple #[.int .i64 0,.int .i64 0,.int .i64 17]
theorem sv_take (l:List ByteArray) (k:Nat):sv (l.take k)=(sv l).take k:=by simp [sv,List.map_take]
theorem kx (l:List ByteArray) (A:Option Addr) (n c:Nat) (w:World) (hn:l.length=n) (hc:n<=c) (hbig:c<=maxLen) (hl:Rd w w.heap.size 1 A n (sv l)) (hsz : ∀ s∈l,s.size<=maxLen) :
  Calls prog 107 #[.slice A n c] w (qh (ve (zi l)) w):=by
 unfold maxLen at hbig
 have HN:=Lh hn
 clear hn
 have HP:Hid (zi l=qaS l (min l.length 15)):=Lh rfl
 generalize zi l=R at *
 go_enter func107,ntmps107
 go_upto_region 1 with fail
 go_cut [5] (fun x wx=>wx=w/\x = .int .i64 ((min n 15:Nat):Int))
 case first =>
  by_cases hq:n<=15
  ·have hq':(n:Int)<=15:=by omega
   have hm:min n 15=n:=Nat.min_eq_left hq
   have HM:=Lh hm
   clear hm
   go_wp2_with fail
   go_meet
   exact ⟨rfl,by first | (rw [HM.out];done) | (rw [HM.out];congr 1;omega)⟩
  ·have hq':(15:Int)<(n:Int):=by omega
   have hm:min n 15=15:=Nat.min_eq_right (by omega)
   have HM:=Lh hm
   clear hm
   go_wp2_with fail
   go_meet
   exact ⟨rfl,by first | (rw [HM.out];rfl) | (rw [HM.out];congr 1;omega)⟩
 case rest =>
  obtain ⟨rfl,rfl⟩:=hcut
  have hkm:min n 15<=n/\min n 15<=15:=by omega
  rw [HN.out] at HP
  generalize min n 15=k0 at *
  go_wp2_with fail
  go_loopw [5] (fun i wr=>∃ k:Nat,k<=n/\k<=15/\i = .int .i64 k/\Below wc.heap.size wc wr/\Hid (R=qaS l k)) (fun i _=>(intOf i).toNat)
  case atStart=>exact ⟨k0,hkm.1,hkm.2,rfl,Below.refl _ _,HP⟩
  case round =>
   obtain ⟨k,hk,hk15,rfl,hbel,HL⟩:=hrel
   by_cases hlt:0<k
   ·obtain ⟨b,o,rfl,hbB,_⟩:=hl.at_ (show k-1<n by omega)
    have hT:Rd wr wr.heap.size 1 (some ⟨b,o,none⟩) k (sv (l.take k)):=by
     have:=((hl.below hbel).more hbel.size).take hk
     rwa [Nat.mul_one,<- sv_take] at this
    have hlen:(l.take k).length=k:=by rw [List.length_take,HN.out];omega
    have hszT : ∀ s∈l.take k,s.size<=maxLen:=fun s hs=>hsz s (List.mem_of_mem_take hs)
    have HC:=Lh (number (l.take k) (some ⟨b,o,none⟩) k c wr hlen hT hszT)
    clear hlen hT hszT hl
    cases hr:zc (l.take k) with
    | none =>
     rw [hr] at HC
     have HR2:Hid (R=qaS l (k-1)):=Lh (by
      rw [HL.out]
      obtain ⟨j,rfl⟩ : ∃ j,k=j+1:=⟨k-1,by omega⟩
      rw [qaS,hr]
      rfl)
     clear hr
     simp only [kE] at HC
     go_wp2_with (go_at_call 130;refine HC.out.mono ?_;rintro e w1 ⟨rfl,hbel1⟩)
     exact ⟨⟨k-1,by omega,by omega,by go_num,hbel.trans (hbel1.mono hbel.size),HR2⟩,by simp [intOf];omega⟩
    | some v =>
     rw [hr] at HC
     have HR2:Hid (R=some (v,k)):=Lh (by
      rw [HL.out]
      obtain ⟨j,rfl⟩ : ∃ j,k=j+1:=⟨k-1,by omega⟩
      rw [qaS,hr])
     clear hr
     simp only [kE] at HC
     go_wp2_with (go_at_call 130;refine HC.out.mono ?_;rintro e w1 ⟨rfl,hbel1⟩)
     go_ret3
     rw [HR2.out]
     exact ⟨rfl,hbel.trans (hbel1.mono hbel.size)⟩
   ·obtain rfl:k=0:=by omega
    go_wp2
    go_ret3
    rw [HL.out]
    exact ⟨rfl,hbel⟩
end Go.Proofs.YticbpkghcglgkaaGreatDoor
namespace Go.Proofs.YticbpkghcglgkaaGreatDoor
theorem valK_wb (i:Nat) (h:i<28):qbS 28 (wb i)=some (qbt i):=by
 have : ∀ i:Fin 28,qbS 28 (wb i.val)=some (qbt i.val):=by decide +kernel
 exact this ⟨i,h⟩
theorem qa1 (i j:Nat) (h:i<32) (k:j<32) (hne:i≠j):wb i≠wb j:=by
 have : ∀ i j:Fin 32,i≠j->wb i.val≠wb j.val:=by decide +kernel
 exact this ⟨i,h⟩ ⟨j,k⟩ (by intro e;injection e with e;exact hne e)
theorem qd4 (a p:Int) (i:Nat) (h:i<28) (ha:a<=999999999) (hp:p+qbt i<=999999999):kp a p (wb i)=some (a,p+qbt i):=by
 unfold kp swN
 rw [if_neg (qa1 _ _ (by omega) (by omega) (by omega)),if_neg (qa1 _ _ (by omega) (by omega) (by omega)),if_neg (qa1 _ _ (by omega) (by omega) (by omega)),if_neg (qa1 _ _ (by omega) (by omega) (by omega)),valK_wb i h]
 simp only
 rw [if_neg (by omega)]
theorem qfc (a p:Int) (ha:a<=999999999) (hp:p * 100<=999999999):kp a p (wb 28)=some (a,p * 100):=by
 unfold kp swN
 rw [if_neg (qa1 _ _ (by omega) (by omega) (by omega)),if_pos rfl]
 simp only
 rw [if_neg (by omega)]
theorem qea (a p:Int) (ha:a+1000 * p<=999999999):kp a p (wb 29)=some (a+1000 * p,0):=by
 unfold kp swN
 rw [if_neg (qa1 _ _ (by omega) (by omega) (by omega)),if_neg (qa1 _ _ (by omega) (by omega) (by omega)),if_pos rfl]
 simp only
 rw [if_neg (by omega)]
theorem qfm (a p:Int) (ha:a+1000000 * p<=999999999):kp a p (wb 30)=some (a+1000000 * p,0):=by
 unfold kp swN
 rw [if_neg (qa1 _ _ (by omega) (by omega) (by omega)),if_neg (qa1 _ _ (by omega) (by omega) (by omega)),if_neg (qa1 _ _ (by omega) (by omega) (by omega)),if_pos rfl]
 simp only
 rw [if_neg (by omega)]
theorem qhn (a p:Int) (ha:a<=999999999) (hp:p<=999999999):kp a p (wb 31)=some (a,p):=by
 unfold kp swN
 rw [if_pos rfl]
 simp only
 rw [if_neg (by omega)]
theorem kf {s:ByteArray} {t:List ByteArray} {a p a' p':Int} (h:kp a p s=some (a',p')):vS (s::t) a p=vS t a' p':=by
 rw [vS,h]
theorem qbA (q:Nat) (hq:q<1000) (a:Int) (ha:a<=999999999) (t:List ByteArray):vS ((zj q).map wb++t) a 0=vS t a q:=by
 have hT : ∀ (j:Nat) (p:Int),j<20->p+j<=999999999->vS ((kO j).map wb++t) a p=vS t a (p+j):=by
  intro j p hj hp
  unfold kO
  by_cases h:0<j
  ·rw [if_pos h]
   have hv:qbt j=j:=by unfold qbt;rw [if_neg (by omega)]
   simp only [List.map_cons,List.map_nil,List.cons_append,List.nil_append]
   rw [kf (qd4 a p j (by omega) ha (by omega)),hv]
  ·obtain rfl:j=0:=by omega
   simp
 have hS : ∀ (k:Nat) (p:Int),k<100->p+k<=999999999->vS ((yz k).map wb++((kO (if 20<=k then k % 10 else k)).map wb++t)) a p=vS t a (p+k):=by
  intro k p hk hp
  unfold yz
  by_cases h:20<=k
  ·rw [if_pos h,if_pos h]
   have hv:qbt (18+k / 10)=10 * (k / 10:Nat):=by unfold qbt;split <;> omega
   simp only [List.map_cons,List.map_nil,List.cons_append,List.nil_append]
   rw [kf (qd4 a p (18+k / 10) (by omega) ha (by rw [hv];omega)),hv,hT _ _ (by omega) (by omega)]
   congr 1
   omega
  ·rw [if_neg h,if_neg h]
   simp only [List.map_nil,List.nil_append]
   rw [hT _ _ (by omega) (by omega)]
 unfold zj yQ
 by_cases h:100<=q
 ·simp only [if_pos h,List.map_append,List.map_cons,List.cons_append,List.nil_append,List.append_assoc]
  have hv:qbt (q / 100)=(q / 100:Nat):=by unfold qbt;rw [if_neg (by omega)]
  rw [kf (qd4 a 0 (q / 100) (by omega) ha (by rw [hv];omega)),hv,kf (qfc a _ ha (by omega)),hS _ _ (by omega) (by omega)]
  congr 1
  omega
 ·simp only [if_neg h,List.map_append,List.nil_append,List.append_assoc]
  rw [hS _ _ (by omega) (by omega)]
  congr 1
  omega
theorem loop_pos (m:Nat) (hm:m<=999999999) : ∃ a p:Int,vS ((posL m).map wb) 0 0=some (a,p)/\a+p=m:=by
 rw [km]
 have h1 : ∀ t,vS ((yO (m / 1000000) 30).map wb++t) 0 0=vS t (1000000 * (m / 1000000:Nat)) 0:=by
  intro t
  unfold yO
  by_cases h:0<m / 1000000
  ·rw [if_pos h]
   simp only [List.map_append,List.map_cons,List.map_nil,List.append_assoc,List.cons_append,List.nil_append]
   rw [qbA _ (by omega) 0 (by omega),kf (qfm _ _ (by omega))]
   congr 1
   omega
  ·rw [if_neg h]
   have:m / 1000000=0:=by omega
   simp [this]
 have h2 : ∀ t,vS ((yO (m % 1000000 / 1000) 29).map wb++t) (1000000 * (m / 1000000:Nat)) 0=vS t (1000000 * (m / 1000000:Nat)+1000 * (m % 1000000 / 1000:Nat)) 0:=by
  intro t
  unfold yO
  by_cases h:0<m % 1000000 / 1000
  ·rw [if_pos h]
   simp only [List.map_append,List.map_cons,List.map_nil,List.append_assoc,List.cons_append,List.nil_append]
   rw [qbA _ (by omega) _ (by omega),kf (qea _ _ (by omega))]
  ·rw [if_neg h]
   have:m % 1000000 / 1000=0:=by omega
   rw [this]
   simp
 have h3:vS ((qak (m % 1000000 % 1000)).map wb) (1000000 * (m / 1000000:Nat)+1000 * (m % 1000000 / 1000:Nat)) 0=some ((1000000 * (m / 1000000:Nat)+1000 * (m % 1000000 / 1000:Nat):Int),((m % 1000000 % 1000:Nat):Int)):=by
  unfold qak
  by_cases h:0<m % 1000000 % 1000
  ·rw [if_pos h]
   have:=qbA (m % 1000000 % 1000) (by omega) (1000000 * (m / 1000000:Nat)+1000 * (m % 1000000 / 1000:Nat)) (by omega) []
   rw [List.append_nil] at this
   rw [this,vS]
  ·rw [if_neg h]
   have:m % 1000000 % 1000=0:=by omega
   rw [this]
   rfl
 have h4:vS ((yO (m / 1000000) 30++yO (m % 1000000 / 1000) 29++qak (m % 1000000 % 1000)).map wb) 0 0=some ((1000000 * (m / 1000000:Nat)+1000 * (m % 1000000 / 1000:Nat):Int),((m % 1000000 % 1000:Nat):Int)):=by
  rw [List.map_append,List.map_append,List.append_assoc,h1,h2,h3]
 exact ⟨_,_,h4,by omega⟩
theorem qbJ (q:Nat) (hq:q<1000) (h0:0<q) : ∃ i t,zj q=i::t/\i<28:=by
 unfold zj yQ yz kO
 by_cases h:100<=q
 ·exact ⟨q / 100,_,by simp only [if_pos h];rfl,by omega⟩
 ·simp only [if_neg h,List.nil_append]
  by_cases h2:20<=q
  ·exact ⟨18+q / 10,_,by simp only [if_pos h2];rfl,by omega⟩
  ·exact ⟨q,[],by simp [h2,h0],by omega⟩
theorem qfJ (m:Nat) (hm:m<=999999999) (h0:0<m) : ∃ i t,posL m=i::t/\i<28:=by
 rw [km]
 unfold yO qak
 by_cases h1:0<m / 1000000
 ·obtain ⟨i,t,e,hi⟩:=qbJ (m / 1000000) (by omega) h1
  rw [if_pos h1,e]
  exact ⟨i,_,rfl,hi⟩
 rw [if_neg h1,List.nil_append]
 by_cases h2:0<m % 1000000 / 1000
 ·obtain ⟨i,t,e,hi⟩:=qbJ (m % 1000000 / 1000) (by omega) h2
  rw [if_pos h2,e]
  exact ⟨i,_,rfl,hi⟩
 rw [if_neg h2,List.nil_append]
 obtain ⟨i,t,e,hi⟩:=qbJ (m % 1000000 % 1000) (by omega) (by omega)
 rw [if_pos (by omega),e]
 exact ⟨i,t,rfl,hi⟩
theorem qaa (n:Int):0<(qm n).length∨n < -999999999∨999999999<n:=by
 by_cases hn:n < -999999999∨999999999<n
 ·exact .inr hn
 left
 unfold qm
 by_cases h0:n=0
 ·rw [if_pos h0];decide
 ·rw [if_neg h0]
  obtain ⟨i,t,e,_⟩:=qfJ n.natAbs (by omega) (by omega)
  rw [e]
  simp
  omega
theorem qfg (n:Int) (h1 : -999999999<=n) (h2:n<=999999999):zc ((qm n).map wb)=some n:=by
 have hlen:=ke n
 have hpos:0<(qm n).length:=by
  rcases qaa n with h | h
  ·exact h
  ·omega
 have hck:qaA ((qm n).map wb) n=some n:=by unfold qaA;rw [if_pos ⟨h1,h2,rfl⟩]
 unfold zc
 rw [if_neg (by rw [List.length_map];omega)]
 by_cases h0:n=0
 ·subst h0
  decide +kernel
 ·obtain ⟨i,t,e,hi⟩:=qfJ n.natAbs (by omega) (by omega)
  obtain ⟨a,p,hl,hap⟩:=loop_pos n.natAbs (by omega)
  by_cases hneg:n<0
  ·have hw:qm n=31::posL n.natAbs:=by unfold qm;rw [if_neg h0,if_pos hneg];rfl
   have hlo:vS ((qm n).map wb) 0 0=some (a,p):=by rw [hw,List.map_cons,kf (qhn 0 0 (by omega) (by omega)),hl]
   have hs:qbx ((qm n).map wb) (a+p)=n:=by
    rw [hw]
    show (if some (wb 31)=some (wb 31) then -(a+p) else a+p)=n
    rw [if_pos rfl]
    omega
   rw [hlo]
   simp only
   rw [hs,hck]
  ·have hw:qm n=posL n.natAbs:=by unfold qm;rw [if_neg h0,if_neg hneg];rfl
   have hlo:vS ((qm n).map wb) 0 0=some (a,p):=by rw [hw,hl]
   have hs:qbx ((qm n).map wb) (a+p)=n:=by
    rw [hw,e]
    unfold qbx
    rw [if_neg (by
     simp only [List.map_cons,List.head?_cons,Option.some.injEq]
     exact qa1 _ _ (by omega) (by omega) (by omega))]
    omega
   rw [hlo]
   simp only
   rw [hs,hck]
theorem vp {l:List ByteArray} {n:Int} (h:zc l=some n) : -999999999<=n/\n<=999999999/\(qm n).map wb=l/\0<l.length/\l.length<=15:=by
 unfold zc at h
 split at h
 ·cases h
 ·split at h
  ·cases h
  ·unfold qaA at h
   split at h
   ·rename_i hc
    injection h with h
    subst h
    exact ⟨hc.1,hc.2.1,hc.2.2,by omega,by omega⟩
   ·cases h
theorem qhc {l:List ByteArray} : ∀ {m:Nat} {n:Int} {k:Nat},qaS l m=some (n,k)->0<k/\k<=m/\zc (l.take k)=some n/\∀ i,k<i->i<=m->zc (l.take i)=none:=by
 intro m
 induction m with
 | zero=>intro n k h;cases h
 | succ m ih =>
  intro n k h
  rw [qaS] at h
  split at h
  ·rename_i v hv
   simp only [Option.some.injEq,Prod.mk.injEq] at h
   obtain ⟨rfl,rfl⟩:=h
   exact ⟨by omega,by omega,hv,fun i h1 h2=>by omega⟩
  ·rename_i hv
   obtain ⟨a,b,c,d⟩:=ih h
   refine ⟨a,by omega,c,fun i h1 h2=>?_⟩
   rcases Nat.lt_or_ge i (m+1) with h3 | h3
   ·exact d i h1 (by omega)
   ·obtain rfl:i=m+1:=by omega
    exact hv
theorem qcq (l:List ByteArray) (i:Nat) (h1:15<i) (h2:i<=l.length):zc (l.take i)=none:=by
 unfold zc
 rw [if_pos (by rw [List.length_take];omega)]
theorem zF {l:List ByteArray} {n:Int} {k:Nat} (h:zi l=some (n,k)):0<k/\k<=l.length/\k<=15/\zc (l.take k)=some n/\∀ i,k<i->i<=l.length->zc (l.take i)=none:=by
 obtain ⟨a,b,c,d⟩:=qhc h
 refine ⟨a,by omega,by omega,c,fun i h1 h2=>?_⟩
 rcases Nat.lt_or_ge 15 i with h3 | h3
 ·exact qcq l i h3 h2
 ·exact d i h1 (by omega)
end Go.Proofs.YticbpkghcglgkaaGreatDoor
namespace Go.Proofs.YticbpkghcglgkaaGreatDoor
open Go.Proofs.Tryz Go.RowKit
theorem qbk {w w':World} {a:Addr} {v:Value} (h:w.cell? a=some v) (hb:Below w.heap.size w w'):w'.cell? a=some v:=by
 have hl:a.block<w.heap.size:=by
  rcases Nat.lt_or_ge a.block w.heap.size with hl | hl
  ·exact hl
  ·unfold World.cell? at h
   rw [Array.getElem?_eq_none hl] at h
   cases h
 exact (hb.cell hl).trans h
theorem qed (n:Int):zC n=false↔¬ ks n:=by rw [<- jV];cases zC n <;> simp
def qdK (s:ByteArray):Option Nat:=(List.range 32).find? fun i=>decide (nb i=s)
theorem qez {s:ByteArray} {i:Nat} (h:qdK s=some i):i<32/\s=nb i:=by
 unfold qdK at h
 have h1:=List.find?_some h
 have h2:=List.mem_of_find?_eq_some h
 simp at h1 h2
 exact ⟨h2,h1.symm⟩
theorem qiZ {s:ByteArray} (h:qdK s=none) : ∀ i,i<32->nb i≠s:=by
 intro i hi
 unfold qdK at h
 rw [List.find?_eq_none] at h
 have:=h i (by simp [hi])
 simpa using this
theorem qia (i:Nat) (hi:i<32):qdK (nb i)=some i:=by
 have : ∀ i:Fin 32,qdK (nb i.val)=some i.val:=by decide +kernel
 exact this ⟨i,hi⟩
def qda:Option (Int × Nat)->Option (Int × Nat)
 | none=>none
 | some (n,k)=>if zC n=true/\jM n=none then some (n,1+k) else none
def zM:List ByteArray->Option (Int × Nat)
 | []=>none
 | s::t=>match qdK s with
  | some i=>some (yq i,1)
  | none=>if s=cB then qda (zi t) else none
def unsV:Option (Int × Nat)->Value
 | some (r,k)=>.tuple #[.int .i32 r,.int .i64 k,.int .i64 0]
 | none=>.tuple #[.int .i32 0,.int .i64 0,.int .i64 17]
theorem qeR (r:Int):(qD r).length<=16:=by
 unfold qD
 split
 ·simp
 ·split
  ·have:=ke r
   simp
   omega
  ·simp
theorem qco {v:Int} {k:Nat} (h : ¬ (zC v=true/\jM v=none)):qda (some (v,k))=none:=if_neg h
theorem qcu {v:Int} {k:Nat} (h:zC v=true/\jM v=none):qda (some (v,k))=some (v,1+k):=if_pos h
theorem wrap_i32 {v:Int} (h:zC v=true):IntKind.i32.wrap v=v:=by
 have:=(jV v).1 h
 unfold ks at this
 exact IntWalk.i32_in _ (by omega)
theorem qgt (A:Option Addr) (c:Nat) (w:World):Calls prog 202 #[.slice A 0 c] w (qh (unsV none) w):=by
 go_enter func202,ntmps202
 go_wp2
 go_ret3
 exact ⟨rfl,Below.refl _ _⟩
theorem rd_tail {w:World} {B n c:Nat} {b o:Nat} {s:ByteArray} {t:List ByteArray} (hn:t.length+1=n) (hc:n<=c) (rd:Rd w B 1 (some ⟨b,o,none⟩) n (sv (s::t))) :
  Rd w B 1 (if c=1 then some ⟨b,o,none⟩ else some ⟨b,o+1,none⟩) (n-1) (sv t):=by
 have h:=rd.cut (k:=1) (cap:=c) (by omega) hc
 simp only [Nat.mul_one,Option.map_some,vl] at h
 exact h
theorem qfi (s:ByteArray) (t:List ByteArray) (b o n c:Nat) (w:World) (hn:t.length+1=n) (hc:n<=c) (hm:c<=maxLen) (rd:Rd w w.heap.size 1 (some ⟨b,o,none⟩) n (sv (s::t))) (hsz : ∀ x∈s::t,x.size<=maxLen) (hs:Sp w) :
  Calls prog 202 #[.slice (some ⟨b,o,none⟩) n c] w (qh (unsV (zM (s::t))) w):=by
 have e0:((n:Int)==0)=false:=beq_eq_false_iff_ne.2 (by omega)
 have hn1:1<=n:=by omega
 have hcell:w.cell? ⟨b,o,none⟩=some (.string s):=by
  obtain ⟨b',o',e,_,h⟩:=rd.at_ (show 0<n by omega)
  cases e
  simpa [sv] using h
 have HS:=Lh hs
 cases hi:qdK s with
 | some i =>
  obtain ⟨hi32,rfl⟩:=qez hi
  have HR:Hid (zM (nb i::t)=some ((yq i:Int),1)):=Lh (by rw [zM,hi])
  have HC:=Lh (qiU i hi32 w hs)
  rw [HR.out]
  clear hi hs rd hsz hn hm
  generalize nb i=s at *
  go_enter func202,ntmps202
  go_wp2_with (go_at_call 212;refine HC.out.mono ?_;rintro e w1 ⟨rfl,hbel1⟩)
  go_ret3
  exact ⟨rfl,hbel1⟩
 | none =>
  have HC:=Lh (qjY s (qiZ hi) w hs)
  have tc:=qbr s cB [99,104,97,114,97,99,116,101,114] rfl
  by_cases hcb:s=cB
  ·have dc:(s.toList==[99,104,97,114,97,99,116,101,114])=true:=by rw [tc];simp [hcb]
   have HR:Hid (zM (s::t)=qda (zi t)):=Lh (by rw [zM,hi];exact if_pos hcb)
   have hcm:c<=9223372036854775807:=by unfold maxLen at hm;omega
   have HT:=Lh (rd_tail hn hc rd)
   have HP:Hid (∀ w1 A',Below w.heap.size w w1->Rd w w.heap.size 1 A' (n-1) (sv t)->Calls prog 107 #[.slice A' (n-1) (c-1)] w1 (qh (ve (zi t)) w1)):=Lh fun w1 A' hb h =>
    kx t A' (n-1) (c-1) w1 (by omega) (by omega) (Nat.le_trans (Nat.sub_le _ _) hm) ((h.below hb).more hb.size) (fun x hx=>hsz x (List.mem_cons_of_mem _ hx))
   have Htn:=Lh hn
   clear tc hcb hi hs rd hsz hn hm
   cases hp:zi t with
   | none =>
    rw [hp] at HP
    have HR2:Hid (zM (s::t)=none):=Lh (by rw [HR.out,hp];rfl)
    rw [HR2.out]
    clear hp
    simp only [ve] at HP
    by_cases c1:c=1
    ·obtain rfl:n=1:=by omega
     have HT1:Hid (Rd w w.heap.size 1 (some ⟨b,o,none⟩) 0 (sv t)):=Lh (by have:=HT.out;rwa [if_pos c1] at this)
     subst c1
     simp only [Nat.sub_self] at HP
     clear HT HR HR2
     go_enter func202,ntmps202
     go_wp2_with (first
      | (go_at_call 212;refine HC.out.mono ?_;rintro e w1 ⟨rfl,hbel1⟩;have hcell1:=qbk hcell hbel1)
      | (go_at_call 107;refine (HP.out _ _ hbel1 HT1.out).mono ?_;rintro e w2 ⟨rfl,hbel2⟩))
     go_ret3
     exact ⟨rfl,hbel1.trans (hbel2.mono hbel1.size)⟩
    ·have HT1:Hid (Rd w w.heap.size 1 (some ⟨b,o+1,none⟩) (n-1) (sv t)):=Lh (by have:=HT.out;rwa [if_neg c1] at this)
     go_enter func202,ntmps202
     go_wp2_with (first
      | (go_at_call 212;refine HC.out.mono ?_;rintro e w1 ⟨rfl,hbel1⟩;have hcell1:=qbk hcell hbel1)
      | (go_at_call 107;refine (HP.out _ _ hbel1 HT1.out).mono ?_;rintro e w2 ⟨rfl,hbel2⟩))
     go_ret3
     exact ⟨rfl,hbel1.trans (hbel2.mono hbel1.size)⟩
   | some x =>
    obtain ⟨v,k⟩:=x
    rw [hp] at HP
    obtain ⟨k1,k2,k3,k4,k5⟩:=zF hp
    obtain ⟨v1,v2,_⟩:=vp k4
    have c1 : ¬ c=1:=by have:=Htn.out;omega
    have hk16:k<=15:=k3
    have HT1:Hid (Rd w w.heap.size 1 (some ⟨b,o+1,none⟩) (n-1) (sv t)):=Lh (by have:=HT.out;rwa [if_neg c1] at this)
    simp only [ve] at HP
    have Hpv:Hid (zi t=some (v,k)):=Lh hp
    clear hp k4 k5 k2 k3
    cases hch:zC v with
    | false =>
     have HR2:Hid (zM (s::t)=none):=Lh (by rw [HR.out,Hpv.out];exact qco (by simp [hch]))
     have HCC:=Lh (char_f v ((qed v).1 hch))
     rw [HR2.out]
     clear hch
     go_enter func202,ntmps202
     go_wp2_with (first
      | (go_at_call 212;refine HC.out.mono ?_;rintro e w1 ⟨rfl,hbel1⟩;have hcell1:=qbk hcell hbel1)
      | (go_at_call 107;refine (HP.out _ _ hbel1 HT1.out).mono ?_;rintro e w2 ⟨rfl,hbel2⟩)
      | (go_at_call 213;refine (HCC.out _).mono ?_;rintro e w3 ⟨rfl,hbel3⟩))
     go_ret3
     exact ⟨rfl,(hbel1.trans (hbel2.mono hbel1.size)).trans (hbel3.mono (Nat.le_trans hbel1.size hbel2.size))⟩
    | true =>
     have HCC:=Lh (char_t v ((jV v).1 hch))
     have Hw:=wrap_i32 hch
     cases hi:jM v with
     | some i =>
      have HR2:Hid (zM (s::t)=none):=Lh (by rw [HR.out,Hpv.out];exact qco (by simp [hi]))
      have HI:Hid (∀ w,Calls prog 214 #[.int .i32 v] w (qh (.int .i64 (i:Int)) w)):=Lh fun w=>by
       have:=index v w
       unfold idxV at this
       rwa [hi] at this
      rw [HR2.out]
      have hge:(i:Int) ≥ 0:=Int.natCast_nonneg i
      clear hch hi
      go_enter func202,ntmps202
      go_wp2_with (first
       | (go_at_call 212;refine HC.out.mono ?_;rintro e w1 ⟨rfl,hbel1⟩;have hcell1:=qbk hcell hbel1)
       | (go_at_call 107;refine (HP.out _ _ hbel1 HT1.out).mono ?_;rintro e w2 ⟨rfl,hbel2⟩)
       | (go_at_call 213;refine (HCC.out _).mono ?_;rintro e w3 ⟨rfl,hbel3⟩)
       | (go_at_call 214;refine (HI.out _).mono ?_;rintro e w4 ⟨rfl,hbel4⟩))
      go_ret3
      exact ⟨rfl,((hbel1.trans (hbel2.mono hbel1.size)).trans (hbel3.mono (Nat.le_trans hbel1.size hbel2.size))).trans (hbel4.mono (Nat.le_trans hbel1.size (Nat.le_trans hbel2.size hbel3.size)))⟩
     | none =>
      have HR2:Hid (zM (s::t)=some (v,1+k)):=Lh (by rw [HR.out,Hpv.out];exact qcu ⟨hch,hi⟩)
      have HI:Hid (∀ w,Calls prog 214 #[.int .i32 v] w (qh (.int .i64 (-1)) w)):=Lh fun w=>by
       have:=index v w
       unfold idxV at this
       rwa [hi] at this
      rw [HR2.out]
      clear hch hi
      go_enter func202,ntmps202
      go_wp2_with (first
       | (go_at_call 212;refine HC.out.mono ?_;rintro e w1 ⟨rfl,hbel1⟩;have hcell1:=qbk hcell hbel1)
       | (go_at_call 107;refine (HP.out _ _ hbel1 HT1.out).mono ?_;rintro e w2 ⟨rfl,hbel2⟩)
       | (go_at_call 213;refine (HCC.out _).mono ?_;rintro e w3 ⟨rfl,hbel3⟩)
       | (go_at_call 214;refine (HI.out _).mono ?_;rintro e w4 ⟨rfl,hbel4⟩))
      go_ret3
      exact ⟨by simp [unsV],((hbel1.trans (hbel2.mono hbel1.size)).trans (hbel3.mono (Nat.le_trans hbel1.size hbel2.size))).trans (hbel4.mono (Nat.le_trans hbel1.size (Nat.le_trans hbel2.size hbel3.size)))⟩
  ·have dc:(s.toList==[99,104,97,114,97,99,116,101,114])=false:=by rw [tc];simp [hcb]
   have HR:Hid (zM (s::t)=none):=Lh (by rw [zM,hi];exact if_neg hcb)
   rw [HR.out]
   clear tc hcb hi hs rd hsz hn hm
   go_enter func202,ntmps202
   go_wp2_with (go_at_call 212;refine HC.out.mono ?_;rintro e w1 ⟨rfl,hbel1⟩;have hcell1:=qbk hcell hbel1)
   go_ret3
   exact ⟨rfl,hbel1⟩
theorem qcO (q:Nat) (hq:q<1000) : ∀ i∈zj q,i<32:=by
 have : ∀ q:Fin 1000,(zj q.val).all (· < 32)=true:=by decide +kernel
 have h:=this ⟨q,hq⟩
 intro i hi
 have:=List.all_eq_true.1 h i hi
 simpa using this
theorem nIdx_cB:qdK cB=none:=by decide +kernel
theorem prefN_of {l:List ByteArray} {k:Nat} {v:Int} (h0:0<k) (hv:zc (l.take k)=some v) : ∀ {m:Nat},k<=m->(∀ i,k<i->i<=m->zc (l.take i)=none)->qaS l m=some (v,k):=by
 intro m
 induction m with
 | zero=>intro h _;omega
 | succ m ih =>
  intro h hn
  rw [qaS]
  rcases Nat.lt_or_ge m k with h1 | h1
  ·obtain rfl:k=m+1:=by omega
   rw [hv]
  ·rw [hn (m+1) (by omega) (by omega)]
   exact ih h1 fun i a b=>hn i a (by omega)
theorem jT (n:Int) (h1 : -999999999<=n) (h2:n<=999999999) : ∀ i∈qm n,i<32:=by
 have hsg : ∀ q x,q<1000->x<32->∀ i∈yO q x,i<32:=by
  intro q x hq hx i hi
  unfold yO at hi
  split at hi
  ·rw [List.mem_append] at hi
   rcases hi with hi | hi
   ·exact qcO q hq i hi
   ·simp at hi;omega
  ·cases hi
 have hse : ∀ q,q<1000->∀ i∈qak q,i<32:=by
  intro q hq i hi
  unfold qak at hi
  split at hi
  ·exact qcO q hq i hi
  ·cases hi
 intro i hi
 unfold qm at hi
 split at hi
 ·simp at hi;omega
 ·rw [km,List.mem_append,List.mem_append,List.mem_append] at hi
  rcases hi with hi | (hi | hi) | hi
  ·split at hi
   ·simp at hi;omega
   ·cases hi
  ·exact hsg _ _ (by omega) (by omega) i hi
  ·exact hsg _ _ (by omega) (by omega) i hi
  ·exact hse _ (by omega) i hi
theorem qax (n:Int) (h1 : -999999999<=n) (h2:n<=999999999) (t:List ByteArray) (ht:NoNum t):zi ((qm n).map wb++t)=some (n,(qm n).length):=by
 have hpos:0<(qm n).length:=by
  rcases qaa n with h | h
  ·exact h
  ·omega
 have hle:=ke n
 have hnum:=qfg n h1 h2
 have hlen:((qm n).map wb++t).length=(qm n).length+t.length:=by simp
 refine prefN_of hpos ?_ (by omega) ?_
 ·rw [List.take_append_of_le_length (by simp),List.take_of_length_le (by simp)]
  exact hnum
 ·intro i hi1 hi2
  cases h:zc (((qm n).map wb++t).take i) with
  | none=>rfl
  | some v =>
   exfalso
   obtain ⟨a1,a2,a3,_⟩:=vp h
   have hk:(qm n).length<(((qm n).map wb++t).take i).length:=by rw [List.length_take,hlen];omega
   have e:(((qm n).map wb++t).take i)[(qm n).length]=t[0]'(by omega):=by
    rw [List.getElem_take,List.getElem_append_right (by simp)]
    simp
   have hk2:(qm n).length<((qm v).map wb).length:=by rw [a3];exact hk
   have e2:((qm v).map wb)[(qm n).length]=(((qm n).map wb++t).take i)[(qm n).length]:=by
    simp only [a3]
   rw [e,List.getElem_map] at e2
   cases t with
   | nil=>simp only [List.length_nil,Nat.add_zero] at hlen;omega
   | cons x t'=>exact ht x t' rfl _ (jT v a1 a2 _ (List.getElem_mem _)) e2
theorem kj {r:Int} (h:zC r=true):0<=r/\r<=1114111:=by
 have:=(jV r).1 h
 unfold ks at this
 omega
theorem qaY {r:Int} {i:Nat} (h:jM r=some i):zC r=true:=by
 obtain ⟨_,_,a,b⟩:=jz h
 exact (jV r).2 (by unfold ks;omega)
theorem qao {r:Int}:qD r=[]↔zC r=false:=by
 unfold qD
 cases h:jM r with
 | some i=>simp [qaY h]
 | none=>cases zC r <;> simp
theorem qj1 {r:Int} (h:zC r=true):0<(qD r).length:=by
 rcases Nat.eq_zero_or_pos (qD r).length with h0 | h0
 ·have:=qao.1 (List.length_eq_zero_iff.1 h0)
  rw [h] at this
  cases this
 ·exact h0
theorem qd7 {r:Int} (hr:zC r=true) {t:List ByteArray} (ht:NoNum t):zM (qD r++t)=some (r,(qD r).length):=by
 unfold qD
 cases h:jM r with
 | some i =>
  obtain ⟨a,b,_⟩:=jz h
  simp only [List.cons_append,List.nil_append,zM,qia i a,List.length_cons,List.length_nil,Nat.zero_add]
  rw [b]
 | none =>
  obtain ⟨a,b⟩:=kj hr
  simp only [hr,if_true,List.cons_append,zM,nIdx_cB,qax r (by omega) (by omega) t ht,List.length_cons,List.length_map]
  rw [qcu ⟨hr,h⟩,Nat.add_comm]
theorem qaj {l:List ByteArray} {r:Int} {k:Nat} (h:zM l=some (r,k)):zC r=true/\0<k/\k<=l.length/\k<=16/\qD r=l.take k:=by
 cases l with
 | nil=>cases h
 | cons s t =>
  rw [zM] at h
  cases hi:qdK s with
  | some i =>
   rw [hi] at h
   simp only [Option.some.injEq,Prod.mk.injEq] at h
   obtain ⟨rfl,rfl⟩:=h
   obtain ⟨a,rfl⟩:=qez hi
   have hs:jM (yq i:Int)=some i:=by
    unfold jM
    rw [if_pos (by omega)]
    exact qjv i a
   refine ⟨qaY hs,by omega,by simp,by omega,?_⟩
   unfold qD
   rw [hs]
   simp
  | none =>
   rw [hi] at h
   simp only at h
   split at h
   ·rename_i hc
    cases hp:zi t with
    | none=>rw [hp] at h;cases h
    | some x =>
     obtain ⟨v,m⟩:=x
     rw [hp] at h
     by_cases hq:zC v=true/\jM v=none
     ·rw [qcu hq] at h
      simp only [Option.some.injEq,Prod.mk.injEq] at h
      obtain ⟨rfl,rfl⟩:=h
      obtain ⟨p1,p2,p3,p4,_⟩:=zF hp
      obtain ⟨_,_,n3,_⟩:=vp p4
      refine ⟨hq.1,by omega,by simp;omega,by omega,?_⟩
      unfold qD
      rw [hq.2]
      simp only [hq.1,if_true,n3,hc]
      rw [Nat.add_comm 1 m,List.take_succ_cons]
     ·rw [qco hq] at h
      cases h
   ·cases h
end Go.Proofs.YticbpkghcglgkaaGreatDoor
namespace Go.Proofs.YticbpkghcglgkaaGreatDoor
def qz (l:List Gl) (s:Setts):List ByteArray:=(qQ s l.length ⟨[],0,0,false⟩ l).out
theorem qf2 {s:ByteArray} (h:vb s=true):(zJ (qB s) (u0,[])).1.m=0:=by
 rw [vb,decide_eq_true_eq] at h
 obtain ⟨s',e,h0⟩:=qcj (qs (qB s)) (yD _) u0 rfl []
 rw [h] at e
 rw [e]
 exact h0
theorem qi9 {s:ByteArray} (h:kK s s.size 0):vb s=true:=by
 obtain ⟨h1,h2⟩:=qbL s s.size 0 (by omega) h
 rw [List.drop_zero] at h1
 rw [vb,decide_eq_true_eq,<- h1,qbP h2]
theorem enc_dec {n b0 b1 b2 b3 r:Nat} (hr:qR r) (hn:(vQ r).length<=n) (he:vQ r=[b0,b1,b2,b3].take (vQ r).length):Lib.decodeN n b0 b1 b2 b3=(r,(vQ r).length):=by
 unfold qR at hr
 unfold vQ at *
 split at he
 ·rename_i h
  simp only [if_pos h,List.length_cons,List.length_nil,List.take_succ_cons,List.take_zero,List.cons.injEq,and_true,Nat.zero_add] at *
  unfold Lib.decodeN
  rw [if_pos (by omega)]
  simp only [Prod.mk.injEq,and_true]
  omega
 ·split at he
  ·rename_i h1 h
   simp only [if_neg h1,if_pos h,List.length_cons,List.length_nil,List.take_succ_cons,List.take_zero,List.cons.injEq,and_true,Nat.zero_add] at *
   obtain ⟨e0,e1⟩:=he
   unfold Lib.decodeN
   split
   ·omega
   ·split
    ·split
     ·simp only [Prod.mk.injEq,and_true];omega
     ·omega
    ·omega
  ·split at he
   ·rename_i h1 h2 h
    simp only [if_neg h1,if_neg h2,if_pos h,List.length_cons,List.length_nil,List.take_succ_cons,List.take_zero,List.cons.injEq,and_true,Nat.zero_add] at *
    obtain ⟨e0,e1,e2⟩:=he
    unfold Lib.decodeN
    split
    ·omega
    ·split
     ·omega
     ·split
      ·split
       ·simp only [Prod.mk.injEq,and_true];omega
       ·omega
      ·omega
   ·rename_i h1 h2 h3
    simp only [if_neg h1,if_neg h2,if_neg h3,List.length_cons,List.length_nil,List.take_succ_cons,List.take_zero,List.cons.injEq,and_true,Nat.zero_add] at *
    obtain ⟨e0,e1,e2,e3⟩:=he
    unfold Lib.decodeN
    split
    ·omega
    ·split
     ·omega
     ·split
      ·omega
      ·split
       ·split
        ·simp only [Prod.mk.injEq,and_true];omega
        ·omega
       ·omega
theorem qbw (s:ByteArray) : ∀ (f:Nat) (rs:List Nat) (i:Nat),(∀ r∈rs,qR r)->zm rs=(qB s).drop i->kK s f i
 | 0,_,_,_,_=>trivial
 | f+1,rs,i,h,he=>by
  rw [kK]
  by_cases hi:i<s.size
  ·rw [if_pos hi]
   cases rs with
   | nil =>
    have:=congrArg List.length he
    simp [zm,zT] at this
    omega
   | cons r t =>
    have e:zm (r::t)=vQ r++zm t:=by simp [zm]
    rw [e] at he
    have hl:=congrArg List.length he
    rw [List.length_append,List.length_drop,zT] at hl
    have hp:=qaR r
    have h1:vQ r=((qB s).drop i).take (vQ r).length:=by rw [<- he,List.take_left]
    have hd:Utf8.decode s i=(r,(vQ r).length):=by
     rw [Lib.decode_at]
     refine enc_dec (h r (by simp)) (by omega) ?_
     rw [h1]
     apply List.ext_getElem
     ·simp [zT];omega
     ·intro j h1 h2
      have hj:j<(vQ r).length:=by simp at h2;omega
      rw [List.getElem_take,List.getElem_take,List.getElem_drop,qdL s (i+j) (by omega)]
      have hc:j=0∨j=1∨j=2∨j=3:=by omega
      rcases hc with rfl | rfl | rfl | rfl <;> rfl
    rw [hd]
    refine ⟨fun hc=>?_,qbw s f t (i+(vQ r).length) (fun x hx=>h x (by simp [hx])) ?_⟩
    ·obtain ⟨hc1,hc2⟩:=hc
     simp only at hc1 hc2
     subst hc1
     exact absurd hc2 (by decide)
    ·rw [<- List.drop_drop,<- he,List.drop_left]
  ·rw [if_neg hi]
   trivial
theorem qdx (s:ByteArray):vb s=true↔kK s s.size 0:=by
 refine ⟨fun h=>?_,qi9⟩
 rw [vb,decide_eq_true_eq] at h
 exact qbw s s.size _ 0 (yD _) (by rw [h,List.drop_zero])
theorem qaK {s:ByteArray} (h:s.size=0):zB s=3:=by
 have e:qB s=[]:=List.eq_nil_of_length_eq_zero (by rw [zT];exact h)
 unfold zB
 split
 ·rfl
 ·rw [e];rfl
end Go.Proofs.YticbpkghcglgkaaGreatDoor
namespace Go.Proofs.YticbpkghcglgkaaGreatDoor
open Go.Proofs.Tryz Go.RowKit
def jQ (s:ByteArray):Bool:=azB s&&decide (s.size=1)
def ya (t:List ByteArray):Option (ByteArray × Nat) :=
 if (t.takeWhile jQ).length=0 then none
 else if t[(t.takeWhile jQ).length]? = some qaO then some (⟨((t.takeWhile jQ).flatMap fun s=>s.data.toList).toArray⟩,(t.takeWhile jQ).length+2) else none
def yl:List ByteArray->Option (ByteArray × Nat)
 | []=>none
 | a::t=>if a=vD/\azB (t.headD ⟨#[]⟩)=true then some (t.headD ⟨#[]⟩,2)
  else if azB a=true/\jF a=false then some (a,1)
  else if a=qS then ya t else none
def upB (c:UInt8):UInt8:=if 97<=c.toNat/\c.toNat<=122 then c-32 else c
def jn (s:ByteArray) (n:Nat):ByteArray:=⟨((s.data.toList.take n).map upB++s.data.toList.drop n).toArray⟩
def zP (p:Prs):Option Prs:=match p.words with
 | []=>none
 | a::t=>match vY a with
  | some i=>some ⟨t,p.out,(i:Nat),false⟩
  | none=>if a=zO then some ⟨t,p.out,p.style,false⟩ else none
def jP (p:Prs):Option Prs:=match p.words with
 | []=>none
 | a::t =>
  if a=bCap then (yl t).map fun (s,n)=>kN p (jn s 1) (1+n)
  else if a=yi then (yl t).map fun (s,n)=>kN p (jn s s.size) (1+n)
  else (yl (a::t)).map fun (s,n)=>kN p s n
def dgW (s:ByteArray):Option Nat:=(List.range 10).find? fun i=>decide (wb i=s)
def dgsL (t:List ByteArray):List Nat:=(t.takeWhile fun s=>(dgW s).isSome).map fun s=>(dgW s).getD 0
def zN (D:List Nat):ByteArray:=⟨(D.map fun d=>UInt8.ofNat (48+d)).toArray⟩
def qaP (p:Prs):Option Prs:=match p.words with
 | []=>none
 | a::t=>if a=vI/\dgsL t≠[] then some (kN p (zN (dgsL t)) (1+(dgsL t).length)) else none
def vi:List ByteArray->Option (Int × Nat)
 | []=>none
 | a::t=>if a=yB then some (32,1) else zM (a::t)
def ko (p:Prs):Option Prs:=match vi p.words with
 | none=>none
 | some (r,n)=>if (vV p.out p.style r 1).1=true then some ⟨p.words.drop n,(vV p.out p.style r 1).2,p.style,false⟩ else none
def kD (p:Prs):Option Prs:=match zi p.words with
 | none=>none
 | some (n,k)=>if n<0 then none
  else if p.words[k]? = some bTimes then (match vi (p.words.drop (k+1)) with
   | none=>none
   | some (r,m)=>if 2<=n/\n<=132/\(vV p.out p.style r n.toNat).1=true then some ⟨p.words.drop (k+1+m),(vV p.out p.style r n.toNat).2,p.style,false⟩ else none)
  else some (kN p ⟨(kA n.toNat).toArray⟩ k)
def va (p:Prs):Option Prs:=(zP p).orElse fun _=>(jP p).orElse fun _=>(qaP p).orElse fun _=>(ko p).orElse fun _=>kD p
def ka:Nat->Prs->Option (List Gl)
 | 0,p=>some p.out
 | f+1,p=>if p.words=[] then some p.out else match va p with
  | none=>none
  | some q=>ka f q
def kC (l:List ByteArray):Option (List Gl):=ka l.length ⟨l,[],0,false⟩
end Go.Proofs.YticbpkghcglgkaaGreatDoor
namespace Go.Proofs.YticbpkghcglgkaaGreatDoor
open Go.Proofs.Tryz Go.RowKit Go.Maps
set_option maxRecDepth 20000
theorem SetM.made (w:World):SetM (w.alloc (.map #[] 0)) w.heap.size 0 (fun _=>false) :=
 ⟨.map [],World.ownsMap_made w _ _ _,⟨[],rfl⟩,fun s=>rfl⟩
theorem SetM.up {w w':World} {b m B:Nat} {S:ByteArray->Bool} (h:SetM w b m S) (hb:Below B w w') (hB:b<B):SetM w' b m S:=by
 obtain ⟨D,⟨es,clock,hh,hr⟩,h2⟩:=h
 exact ⟨D,⟨es,clock,(hb.block b hB).trans hh,hr⟩,h2⟩
theorem qj7 (w:World):(zeroValue 4).run prog w = .ok (.bool false) w:=by kernel_rfl
theorem SetM.look {w:World} {b m:Nat} {S:ByteArray->Bool} (h:SetM w b m S) (s:ByteArray) (hs:s.size<=maxLen):(Instr.lookup 198 (.map (some b)) (.string s) false).run prog w = .ok (.bool (S s)) w:=by
 obtain ⟨D,h1,_,h3⟩:=h
 obtain ⟨v,ps,hrun,hv⟩:=h1.lookup (string_keyed underlying9) underlying198 (qj7 w) (plainElem_bool (H:=Unit) underlying4 false) (WideMaps.keyOf_string_mk underlying9 hs)
 rw [h3] at hv
 have hvb:v = .bool (S s):=by
  unfold plainElem at hv
  rw [underlying4] at hv
  cases v <;> simp at hv
  rw [hv.1]
 rw [hrun,hvb]
theorem any_succ (f:Nat->ByteArray) (k:Nat) (s:ByteArray):(decide (f k=s) || (List.range k).any fun j=>decide (f j=s))=(List.range (k+1)).any fun j=>decide (f j=s):=by
 rw [List.range_succ,List.any_append,Bool.or_comm]
 simp
theorem qgT (w:World):Calls prog 168 #[] w fun e w'=>∃ b,e = .returned (.map (some b))/\SetM w' b 32 qL/\w.heap.size<=b/\Below w.heap.size w w':=by
 have hmm:=@run_makeMap prog
 go_enter func168,ntmps168
 go_wp2_with (go_at_call 176;refine (voc _).mono ?_;rintro e w1 ⟨rfl,rfl⟩)
 have hset:=(SetM.made w).below ((Below.refl _ _).alloc (Nat.le_refl _) (.cells qb6 9))
 have hbel:Below w.heap.size w ((w.alloc (.map #[] 0)).alloc (.cells qb6 9)):=((Below.refl _ _).alloc (Nat.le_refl _) _).alloc (by simp) _
 have hcell:=qb2 (w.alloc (.map #[] 0))
 have hz:(w.alloc (.map #[] 0)).heap.size=w.heap.size+1:=by simp
 rw [hz] at hcell
 have hz2:((w.alloc (.map #[] 0)).alloc (.cells qb6 9)).heap.size=w.heap.size+2:=by simp
 generalize (w.alloc (.map #[] 0)).alloc (.cells qb6 9)=wb0 at *
 have HC:=Lh hcell
 clear hcell
 go_loopw [7] (fun x wr=>∃ k:Nat,k<=32/\x = .int .i64 k/\SetM wr w.heap.size k (fun s=>(List.range k).any fun j=>decide (wb j=s))/\Below w.heap.size w wr/\w.heap.size+2<=wr.heap.size/\Hid (∀ i,i<32->wr.cell? ⟨w.heap.size+1,i,none⟩=some (.string (wb i)))) (fun x _=>32-(intOf x).toNat)
 case atStart=>exact ⟨0,by omega,rfl,hset,hbel,by omega,HC⟩
 case round =>
  obtain ⟨k,hk,rfl,hst,hb,hsz,HCk⟩:=hrel
  by_cases hlt:k<32
  ·have hc:=HCk.out k hlt
   have hws:(wb k).size<=maxLen:=Nat.le_trans (qce k) (by unfold maxLen;omega)
   have HX:=Lh (any_succ wb k)
   generalize wb k=x at *
   obtain ⟨D,hown,hD,hS⟩:=hst
   go_wp2_with (at_mapUpdate;refine wpList_mapUpdate_own _ rfl _ _ _ 198 rfl 9 4 (string_keyed underlying9) underlying198 _ w.heap.size k _ rfl hown (by unfold maxLen;omega) _ _ _ rfl rfl (WideMaps.keyOf_string_mk underlying9 hws) _ [] (plainElem_bool (H:=Unit) underlying4 true) ?_;intro w2 hown2 hgr2)
   refine ⟨⟨k+1,by omega,by go_num,(SetM.put hown2 hD hS).ext HX.out,hb.grown hgr2 (by omega) (fun q hq=>by cases hq;exact Nat.le_refl _),Nat.le_trans hsz hgr2.size,Lh fun i hi=>?_⟩,by simp [intOf];omega⟩
   rw [World.cell?_of_block (hgr2.block (w.heap.size+1) (by omega) (by simp))]
   exact HCk.out i hi
  ·obtain rfl:k=32:=by omega
   go_wp2
   go_ret
   exact ⟨w.heap.size,rfl,hst,Nat.le_refl _,hb⟩
end Go.Proofs.YticbpkghcglgkaaGreatDoor
namespace Go.Proofs
open Go.Shelf
def Tryz.laysGrow_ren:Go.Shelf.Ren:=⟨fun | 4=>183 | n=>n,fun | 22=>27 | 25=>9 | 3=>3 | 4=>4 | 9=>9 | 20=>20 | 0=>0 | n=>n,fun | n=>n⟩
theorem Tryz.laysGrow:Go.Proofs.Lays8.n4 Tryz.prog Tryz.laysGrow_ren:={
 mixed:=by kernel_rfl
 f4:=⟨Tryz.f183.name,by decide,Tryz.func183.trans (congrArg some (by kernel_rfl))⟩
 t0:=Tryz.underlying0
 a0:=Tryz.isAgg0
 z0:=Tryz.sizeOf0
 v0:=Tryz.zeroValue0
 t3:=Tryz.underlying3
 a3:=Tryz.isAgg3
 z3:=Tryz.sizeOf3
 v3:=Tryz.zeroValue3
 t4:=Tryz.underlying4
 a4:=Tryz.isAgg4
 z4:=Tryz.sizeOf4
 v4:=Tryz.zeroValue4
 t9:=Tryz.underlying9
 a9:=Tryz.isAgg9
 z9:=Tryz.sizeOf9
 v9:=Tryz.zeroValue9
 t20:=Tryz.underlying20
 a20:=Tryz.isAgg20
 z20:=Tryz.sizeOf20
 v20:=Tryz.zeroValue20
 t22:=Tryz.underlying27
 a22:=Tryz.isAgg27
 z22:=Tryz.sizeOf27
 v22:=Tryz.zeroValue27 }
def Tryz.laysGrowG_ren:Go.Shelf.Ren:=⟨fun | 4=>132 | n=>n,fun | 22=>56 | 25=>86 | 3=>3 | 4=>4 | 9=>9 | 20=>20 | 0=>0 | n=>n,fun | n=>n⟩
theorem Tryz.laysGrowG:Go.Proofs.Lays8.n4 Tryz.prog Tryz.laysGrowG_ren:={
 mixed:=by kernel_rfl
 f4:=⟨Tryz.f132.name,by decide,Tryz.func132.trans (congrArg some (by kernel_rfl))⟩
 t0:=Tryz.underlying0
 a0:=Tryz.isAgg0
 z0:=Tryz.sizeOf0
 v0:=Tryz.zeroValue0
 t3:=Tryz.underlying3
 a3:=Tryz.isAgg3
 z3:=Tryz.sizeOf3
 v3:=Tryz.zeroValue3
 t4:=Tryz.underlying4
 a4:=Tryz.isAgg4
 z4:=Tryz.sizeOf4
 v4:=Tryz.zeroValue4
 t9:=Tryz.underlying9
 a9:=Tryz.isAgg9
 z9:=Tryz.sizeOf9
 v9:=Tryz.zeroValue9
 t20:=Tryz.underlying20
 a20:=Tryz.isAgg20
 z20:=Tryz.sizeOf20
 v20:=Tryz.zeroValue20
 t22:=Tryz.underlying56
 a22:=Tryz.isAgg56
 z22:=Tryz.sizeOf56
 v22:=Tryz.zeroValue56 }
end Go.Proofs
namespace Go.Proofs.YticbpkghcglgkaaGreatDoor
open Go.Proofs.Tryz Go.RowKit
set_option maxRecDepth 20000
theorem grow_nil (n:Nat) (hn:n<=1000000000) (w:World):Calls prog 183 #[.slice none 0 0,.int .i64 n] w fun e w'=>∃ A c,e = .returned (.slice A 0 c)/\w'.ownsRow w.heap.size 9 1 (.slice A 0 c) 0 []/\Below w.heap.size w w':=by
 rcases Nat.eq_zero_or_pos n with h0 | h0
 ·subst h0
  refine (Any8.slices_Grow_room Tryz.laysGrow none 0 0 0 w (by omega) (by omega) (by omega) (by omega)).mono ?_
  rintro e w' ⟨rfl,rfl⟩
  exact ⟨none,0,rfl,zY _ _ _ _,Below.refl _ _⟩
 ·have h:(prog.info? 9).map (fun i=>(i.zero,i.size,i.bytes))=some (some (.string ⟨#[]⟩),1,16):=by kernel_rfl
  obtain ⟨i,hi,hz,hs,hb⟩:=info_parts h
  refine (Any8.slices_Grow_grow Tryz.laysGrow i (.string ⟨#[]⟩) hi hz (by omega) none 0 0 n [] w (by omega) (by omega) (by rw [hb];omega) (by omega) (by simp) (fun _=>rfl) (fun a h=>by cases h)).mono ?_
  rintro e w' ⟨rfl,rfl⟩
  have hge:=grownCap_ge w (0+n) 0 9
  refine ⟨_,_,rfl,⟨rfl,.inr ⟨w.heap.size,grownCap w (0+n) 0 9,_,rfl,Nat.le_refl _,heap_alloc_new w.drew _,Nat.zero_le _,grownCap_le_maxLen _ _ _ _ (by unfold maxLen;omega),?_,by simp⟩⟩,jI ((Below.refl w.heap.size w.drew).alloc (Nat.le_refl _) _)⟩
  rw [Array.size_append,Array.size_append,size_zeroCells,size_zeroCells]
  have e1:(Value.string ⟨#[]⟩).cells.size=1:=rfl
  have e2:Tryz.laysGrow_ren.t 25=9:=rfl
  rw [e1]
  simp only [List.size_toArray,List.length_nil,e2]
  omega
def catV (L:List (Option Addr × Nat × List ByteArray)):List Value:=L.map fun x=>.slice x.1 x.2.2.length x.2.1
def yJ (L:List (Option Addr × Nat × List ByteArray)):List ByteArray:=L.flatMap fun x=>x.2.2
theorem qi4 {L:List (Option Addr × Nat × List ByteArray)} {k:Nat} (h:k<L.length):yJ (L.take (k+1))=yJ (L.take k)++L[k].2.2:=by
 have e:L.take (k+1)=L.take k++[L[k]]:=(List.take_append_getElem h).symm
 unfold yJ
 rw [e,List.flatMap_append]
 simp only [List.flatMap_cons,List.flatMap_nil,List.append_nil]
theorem catL_le (L:List (Option Addr × Nat × List ByteArray)) (k:Nat):(yJ (L.take k)).length<=(yJ L).length:=by
 have e:yJ L=yJ (L.take k)++yJ (L.drop k):=by
  unfold yJ
  rw [<- List.flatMap_append,List.take_append_drop]
 rw [e,List.length_append]
 omega
theorem concat_ (L:List (Option Addr × Nat × List ByteArray)) (A:Option Addr) (n c B:Nat) (w:World) (hn:L.length=n) (hn2:n<=1000) (hB:B<=w.heap.size) (htot:(yJ L).length<=1000000000)
  (rd:Rd w B 1 A n (catV L)) (hr : ∀ x∈L,Rd w B 1 x.1 x.2.2.length (sv x.2.2)) :
  Calls prog 169 #[.slice A n c] w (ql 9 1 id w (yJ L).length (sv (yJ L))):=by
 have HN:=Lh hn
 have HT:Hid (∀ k (h:k<L.length),yJ (L.take (k+1))=yJ (L.take k)++L[k].2.2):=Lh fun k h=>qi4 h
 have HLe:=Lh (catL_le L)
 have HC:Hid (∀ k (h:k<L.length),(catV L)[k]? = some (.slice L[k].1 L[k].2.2.length L[k].2.1)):=Lh fun k h=>by simp [catV,h]
 have HR:Hid (∀ k (h:k<L.length),Rd w B 1 L[k].1 L[k].2.2.length (sv L[k].2.2)):=Lh fun k h=>hr _ (List.getElem_mem h)
 have HG:=Lh grow_nil
 have HA:Hid (L.take n=L):=Lh (List.take_of_length_le (by omega))
 clear hn hr
 go_enter func169,ntmps169
 go_wp2
 go_loopw [3,11] (fun v x wr=>∃ k:Nat,k<=n/\x = .int .i64 k/\v = .int .i64 ((yJ (L.take k)).length:Nat)/\w=wr) (fun _ x _=>n-(intOf x).toNat)
 case atStart=>exact ⟨0,Nat.zero_le _,rfl,rfl,rfl⟩
 case round =>
  obtain ⟨k,hk,rfl,rfl,rfl⟩:=hrel
  by_cases hlt:k<n
  ·have hkl:k<L.length:=by have:=HN.out;omega
   obtain ⟨b,o,rfl,hbB,hc⟩:=rd.at_ hlt
   rw [HC.out k hkl] at hc
   have hl1:=HLe.out k
   have hl2:=HLe.out (k+1)
   have hT:=HT.out k hkl
   have hTl:(yJ (L.take (k+1))).length=(yJ (L.take k)).length+L[k].2.2.length:=by rw [hT,List.length_append]
   generalize hm2:(yJ (L.take (k+1))).length=m2 at *
   replace hm2:=Lh hm2
   generalize (yJ (L.take k)).length=m1 at *
   generalize L[k].2.2.length=q at *
   generalize L[k].1=aa at *
   generalize L[k].2.1=cc at *
   clear hT
   go_wp2
   exact ⟨⟨k+1,by omega,by go_num,by rw [hm2.out,hTl];go_num,by trivial⟩,by simp [intOf];omega⟩
  ·obtain rfl:k=n:=by omega
   have hA:=HA.out
   rw [hA]
   clear hA
   generalize hm:(yJ L).length=m at *
   replace hm:=Lh hm
   go_wp2_with (go_at_call 183;refine (HG.out m htot _).mono ?_;rintro e w1 ⟨A1,c1,rfl,hown1,hbel1⟩)
   go_loopw [6,27] (fun v x wr=>∃ (A':Option Addr) (c' j:Nat),j<=k/\x = .int .i64 j/\v = .slice A' (yJ (L.take j)).length c'/\wr.ownsRow w.heap.size 9 1 (.slice A' (yJ (L.take j)).length c') (yJ (L.take j)).length (sv (yJ (L.take j)))/\Below w.heap.size w wr) (fun _ x _=>k-(intOf x).toNat)
   case atStart=>exact ⟨A1,c1,0,Nat.zero_le _,rfl,rfl,hown1,hbel1⟩
   case round =>
    obtain ⟨A',c',j,hj,rfl,rfl,hown,hbel⟩:=hrel
    by_cases hlt:j<k
    ·have hkl:j<L.length:=by have:=HN.out;omega
     obtain ⟨b,o,rfl,hbB,hc⟩:=(rd.keep (w':=wr) fun p hp=>hbel.cell (by omega)).at_ hlt
     rw [HC.out j hkl] at hc
     have hr:=Lh ((HR.out j hkl).keep (w':=wr) fun p hp=>hbel.cell (by omega))
     have hl1:=HLe.out j
     have hl2:=HLe.out (j+1)
     have hT:=HT.out j hkl
     have hTl:(yJ (L.take (j+1))).length=(yJ (L.take j)).length+L[j].2.2.length:=by rw [hT,List.length_append]
     replace hT:=Lh hT
     replace hTl:=Lh hTl
     have hl3:(yJ (L.take j)).length+L[j].2.2.length<=m:=by rw [<- hTl.out];exact hl2
     generalize hM1:yJ (L.take j)=M1 at *
     generalize hl:L[j].2.2=l at *
     generalize L[j].1=aa at *
     generalize L[j].2.1=cc at *
     clear hl hM1 hl2
     have zb:=hbel.size
     go_wp2_with (at_builtin;go_must (refine qg rfl _ _ _ rfl qp (w.heap.size) _ rfl (hown) _ _ rfl (hr.out) (by first | rfl | exact qA _ | exact qF _) (by omega) (by omega) (by first | (simp;done) | (simp;omega) | omega) ?_);intro A4 c4 w4 hown4 hbel4 hgr4 hat4;have z4:=hbel4.size;(try simp only [World.size_alloc] at z4);(try simp only [Nat.zero_add,List.nil_append] at hown4))
     exact ⟨⟨A4,c4,j+1,by omega,by go_num,by rw [hTl.out],by rw [hTl.out,hT.out];simpa [sv] using hown4,hbel.trans hbel4⟩,by simp [intOf];omega⟩
    ·obtain rfl:j=k:=by omega
     have hA:=HA.out
     rw [hA] at hown
     go_wp2
     go_ret
     have e1:(yJ (L.take j)).length=m:=by rw [hA,hm.out]
     rw [hm.out] at hown
     exact ⟨A',c',by rw [e1];rfl,hown,hbel⟩
end Go.Proofs.YticbpkghcglgkaaGreatDoor
namespace Go.Proofs.YticbpkghcglgkaaGreatDoor
open Go.Proofs.Tryz Go.RowKit Go.Maps
set_option maxRecDepth 100000
def ctrlB:ByteArray:={ data:=(([99,104,97,114,97,99,116,101,114,32,106,111,105,110,101,100,32,99,97,112,32,99,97,112,115,32,119,111,114,100,32,115,112,97,99,101,32,116,105,109,101,115,32,115,112,101,108,108,101,100,32,101,110,100,32,100,105,103,105].append [116,115,32,112,108,97,105,110,32,115,116,114,111,110,103,32,105,110,118,101,114,115,101,32,104,105,100,100,101,110,32,115,105,122,101,32,114,111,119,115,32,99,111,108,117,109,110,115,32,115,99,114,111,108,108,32,108,105,110,101]).append ([32,108,105,110,101,115,32,102,114,111,109,32,116,111,32,117,112,32,100,111,119,110,32,99,111,108,117,109,110,32,114,101,112,108,97,99,101,32,119,105,116,104,32,105,110,115,101,114,116,32,100,101,108,101,116,101,32,99,117].append [114,115,111,114,32,118,105,115,105,98,108,101,32,105,110,118,105,115,105,98,108,101,32,109,111,114,101,32,100,111,110,101,32,117,112,100,97,116,101,115,32,114,101,97,100,115,32,115,116,111,112,32,98,108,97,110,107,32,98,121])).toArray }
theorem qcN:Lib.fields ctrlB.data.toList=ctrlL.map fun s=>s.data.toList:=by decide +kernel
theorem ctrl_len:ctrlL.length=39:=rfl
theorem ctrl_all:(ctrlB.data.toList.all fun b=>decide (b.toNat<128))=true:=by decide +kernel
theorem qhp : ∀ (j:Nat) b,ctrlB.data.toList[j]? = some b->b.toNat<128:=qdF _ ctrl_all
theorem qhY:ctrlB.size<=1000:=by decide +kernel
theorem qjL:ctrlB.size<4294967281:=Nat.lt_of_le_of_lt qhY (by omega)
theorem ctrl_sv:((Lib.fields ctrlB.data.toList).map fun l=>Value.string ⟨l.toArray⟩)=sv ctrlL:=by
 rw [qcN,List.map_map]
 rfl
def resN:List ByteArray:=ctrlL++(List.range 32).map nb
theorem res_any (s:ByteArray):(qL s || (resN.any fun x=>decide (x=s)))=jF s:=by
 unfold jF resN
 rw [List.any_append,List.any_map]
 have e:((List.range 32).any ((fun x=>decide (x=s)) ∘ nb))=(List.range 32).any fun j=>decide (nb j=s):=rfl
 rw [e]
 cases qL s <;> cases (ctrlL.any fun x=>decide (x=s)) <;> cases ((List.range 32).any fun j=>decide (nb j=s)) <;> rfl
theorem qgm:resN.length=71:=rfl
theorem qjm : ∀ x∈resN,x.size<=20:=by decide +kernel
theorem any_take {f:List ByteArray} {k:Nat} (h:k<f.length) (s:ByteArray) (z:Bool):(decide (f[k]=s) || (z || (f.take k).any fun x=>decide (x=s)))=(z || (f.take (k+1)).any fun x=>decide (x=s)):=by
 have e:f.take (k+1)=f.take k++[f[k]]:=(List.take_append_getElem h).symm
 rw [e,List.any_append]
 simp only [List.any_cons,List.any_nil,Bool.or_false]
 cases z <;> cases decide (f[k]=s) <;> cases ((f.take k).any fun x=>decide (x=s)) <;> rfl
theorem qkq (w:World) (hs:Sp w):Calls prog 147 #[] w fun e w'=>∃ b,e = .returned (.map (some b))/\SetM w' b 200 jF/\w.heap.size<=b/\Below w.heap.size w w':=by
 have HF:Hid (∀ w,Sp w->Calls prog 25 #[.string ctrlB] w fun e w'=>e = .returned (.slice (some ⟨w.heap.size,0,none⟩) 39 39)/\w'=w.alloc (.cells (sv ctrlL).toArray 9)):=Lh fun w hs=>by
  have h:=Tryz.strings_Fields ctrlB w qjL qhp hs
  rw [ctrl_sv,qcN,List.length_map,ctrl_len] at h
  exact h
 have HS:=Lh hs
 have HV:=Lh qgT
 have HN:=Lh names
 clear hs
 go_enter func147,ntmps147
 go_upto_region 2 with (go_at_call 168;refine (HV.out _).mono ?_;rintro e w1 ⟨b1,rfl,hset1,hb1,hbel1⟩)
 have hs1:=HS.out.below hbel1 (Nat.le_refl _)
 go_wp2_with (first
  | (go_at_call 25;refine (HF.out _ hs1).mono ?_;rintro e w2 ⟨rfl,rfl⟩)
  | (go_at_call 170;refine (HN.out _ (hs1.below (B:=w1.heap.size) ((Below.refl _ _).alloc (Nat.le_refl _) _) (Nat.le_refl _))).mono ?_;rintro e w3 ⟨A3,c3,rfl,rd3,hbel3⟩))
 have z1:=hbel1.size
 have z3:=hbel3.size
 rw [World.size_alloc] at z3
 have t3:Below w1.heap.size w1 w3:=((Below.refl _ _).alloc (Nat.le_refl _) _).trans (hbel3.mono (by simp))
 have rdC:Rd w3 w3.heap.size 1 (some ⟨w1.heap.size,0,none⟩) 39 (sv ctrlL):=Rd.more (Rd.keep (qe (w:=w1) (xs:=sv ctrlL) (e:=9) rfl rfl) fun p hp=>hbel3.cell (by simp;omega)) (by omega)
 have HCat:Hid (∀ W,Rd W W.heap.size 1 (some ⟨w3.heap.size,0,none⟩) 2 [.slice (some ⟨w1.heap.size,0,none⟩) 39 39,.slice A3 32 c3]->Below w3.heap.size w3 W->Calls prog 169 #[.slice (some ⟨w3.heap.size,0,none⟩) 2 2] W (ql 9 1 id W 71 (sv resN))):=Lh fun W rd hW=>by
  have h:=concat_ [(some ⟨w1.heap.size,0,none⟩,39,ctrlL),(A3,c3,(List.range 32).map nb)] (some ⟨w3.heap.size,0,none⟩) 2 2 W.heap.size W rfl (by omega) (Nat.le_refl _) (by show (71:Nat)<=1000000000;omega) rd (fun x hx=>by
   simp only [List.mem_cons,List.not_mem_nil,or_false] at hx
   rcases hx with rfl | rfl
   ·exact (rdC.below hW).more hW.size
   ·exact (Rd.below rd3 hW).more hW.size)
  exact h
 go_wp2_with (go_at_call 169;refine (HCat.out _ (Rd.more (qe (xs:=[.slice (some ⟨w1.heap.size,0,none⟩) 39 39,.slice A3 32 c3]) rfl rfl) (by simp)) ((Below.refl _ _).alloc (Nat.le_refl _) _)).mono ?_;rintro e w4 ⟨A4,c4,rfl,hown4,hbel4⟩)
 rw [World.size_alloc] at hown4 hbel4
 have hlt1:=hset1.lt
 have hset4:=(hset1.up t3 hlt1).up (((Below.refl w3.heap.size w3).alloc (Nat.le_refl _) _).trans (hbel4.mono (by omega))) (by omega:b1<w3.heap.size)
 have hbl4:Below w.heap.size w w4:=(hbel1.trans (t3.mono z1)).trans ((((Below.refl w3.heap.size w3).alloc (Nat.le_refl _) _).trans (hbel4.mono (by omega))).mono (by omega))
 have z4:=hbel4.size
 rw [World.size_alloc] at z4
 clear hset1 rdC rd3 HCat hs1 t3 hbel3 hbel1 hbel4 HF HN
 have HX:Hid (∀ k (h:k<resN.length) s,_):=Lh fun k (h:k<resN.length) s=>any_take h s (qL s)
 have HSz:Hid (∀ k (h:k<resN.length),resN[k].size<=20):=Lh fun k h=>qjm _ (List.getElem_mem h)
 have HL:=Lh qgm
 have HE:Hid (∀ s,(qL s || ((resN.take 71).any fun x=>decide (x=s)))=jF s):=Lh fun s=>by rw [<- qgm,List.take_length];exact res_any s
 generalize resN=RN at *
 go_loopw [10] (fun x wr=>∃ k:Nat,k<=71/\x = .int .i64 k/\SetM wr b1 (32+k) (fun s=>qL s || (RN.take k).any fun x=>decide (x=s))/\Below w.heap.size w wr/\w3.heap.size+1<=wr.heap.size/\wr.ownsRow (w3.heap.size+1) 9 1 (.slice A4 71 c4) 71 (sv RN)) (fun x _=>71-(intOf x).toNat)
 case atStart=>exact ⟨0,by omega,rfl,hset4.ext fun s=>by simp,hbl4,z4,hown4⟩
 case round =>
  obtain ⟨k,hk,rfl,hst,hb,hsz,hown⟩:=hrel
  by_cases hlt:k<71
  ·have hkl:k<RN.length:=by have:=HL.out;omega
   obtain ⟨b,o,rfl,_,hc⟩:=(Rd.of_own hown).at_ hlt
   rw [yM _ _ hkl] at hc
   have hxs:=HSz.out k hkl
   have hws:RN[k].size<=maxLen:=by unfold maxLen;omega
   have HXk:=Lh (HX.out k hkl)
   generalize RN[k]=x at *
   obtain ⟨D,hownm,hD,hS⟩:=hst
   go_wp2_with (at_mapUpdate;refine wpList_mapUpdate_own _ rfl _ _ _ 198 rfl 9 4 (string_keyed underlying9) underlying198 _ b1 (32+k) _ rfl hownm (by unfold maxLen;omega) _ _ _ rfl rfl (WideMaps.keyOf_string_mk underlying9 hws) _ [] (plainElem_bool (H:=Unit) underlying4 true) ?_;intro w5 hown5 hgr5)
   exact ⟨⟨k+1,by omega,by go_num,(SetM.put hown5 hD hS).ext HXk.out,hb.grown hgr5 (by omega) (fun q hq=>by cases hq;omega),Nat.le_trans hsz hgr5.size,hown.kept hgr5 (.inr fun e=>by
    have:=(hown.lt b1 e).1
    omega)⟩,by simp [intOf];omega⟩
  ·obtain rfl:k=71:=by omega
   go_wp2
   go_ret
   exact ⟨b1,rfl,(by
    obtain ⟨D,h1,h2⟩:=hst.ext HE.out
    exact ⟨D,h1.mono (by omega),h2⟩),by omega,hb⟩
end Go.Proofs.YticbpkghcglgkaaGreatDoor
namespace Go.Proofs
open Go.Shelf
def Tryz.lays158_ren:Go.Shelf.Ren:=⟨fun | 158=>189 | 165=>196 | 166=>197 | 167=>198 | 169=>199 | 230=>200 | 203=>201 | 240=>205 | 241=>206 | 197=>207 | 118=>208 | 168=>209 | 270=>210 | 262=>211 | 276=>217 | 277=>218 | 260=>219 | 242=>216 | 313=>220 | 278=>222 | 274=>223 | 275=>224 | n=>n,fun | 9=>9 | 4=>4 | 3=>3 | 5=>5 | 72=>243 | 0=>0 | 76=>246 | 75=>245 | 107=>250 | 70=>241 | 20=>20 | 37=>192 | 127=>255 | 21=>21 | 105=>208 | 164=>264 | 162=>268 | 203=>260 | 119=>87 | 46=>175 | 139=>220 | 138=>219 | 51=>123 | 160=>270 | 208=>276 | 206=>274 | 80=>235 | n=>n,fun | 13=>7 | 3=>4 | 4=>5 | n=>n⟩
theorem Tryz.lays158:Go.Proofs.Lays.n158 Tryz.prog Tryz.lays158_ren:={
 mixed:=by kernel_rfl
 f118:=Tryz.func208.trans (congrArg some (by kernel_rfl))
 f158:=Tryz.func189.trans (congrArg some (by kernel_rfl))
 f165:=Tryz.func196.trans (congrArg some (by kernel_rfl))
 f166:=Tryz.func197.trans (congrArg some (by kernel_rfl))
 f167:=Tryz.func198.trans (congrArg some (by kernel_rfl))
 f168:=Tryz.func209.trans (congrArg some (by kernel_rfl))
 f169:=Tryz.func199.trans (congrArg some (by kernel_rfl))
 f197:=Tryz.func207.trans (congrArg some (by kernel_rfl))
 f203:=Tryz.func201.trans (congrArg some (by kernel_rfl))
 f230:=Tryz.func200.trans (congrArg some (by kernel_rfl))
 f240:=Tryz.func205.trans (congrArg some (by kernel_rfl))
 f241:=Tryz.func206.trans (congrArg some (by kernel_rfl))
 f242:=Tryz.func216.trans (congrArg some (by kernel_rfl))
 f260:=Tryz.func219.trans (congrArg some (by kernel_rfl))
 f262:=Tryz.func211.trans (congrArg some (by kernel_rfl))
 f270:=Tryz.func210.trans (congrArg some (by kernel_rfl))
 f274:=Tryz.func223.trans (congrArg some (by kernel_rfl))
 f275:=Tryz.func224.trans (congrArg some (by kernel_rfl))
 f276:=Tryz.func217.trans (congrArg some (by kernel_rfl))
 f277:=Tryz.func218.trans (congrArg some (by kernel_rfl))
 f278:=Tryz.func222.trans (congrArg some (by kernel_rfl))
 f313:=Tryz.func220.trans (congrArg some (by kernel_rfl))
 t0:=Tryz.underlying0
 a0:=Tryz.isAgg0
 z0:=Tryz.sizeOf0
 v0:=Tryz.zeroValue0
 t3:=Tryz.underlying3
 a3:=Tryz.isAgg3
 z3:=Tryz.sizeOf3
 v3:=Tryz.zeroValue3
 t4:=Tryz.underlying4
 a4:=Tryz.isAgg4
 z4:=Tryz.sizeOf4
 v4:=Tryz.zeroValue4
 t5:=Tryz.underlying5
 a5:=Tryz.isAgg5
 z5:=Tryz.sizeOf5
 v5:=Tryz.zeroValue5
 t9:=Tryz.underlying9
 a9:=Tryz.isAgg9
 z9:=Tryz.sizeOf9
 v9:=Tryz.zeroValue9
 t20:=Tryz.underlying20
 a20:=Tryz.isAgg20
 z20:=Tryz.sizeOf20
 v20:=Tryz.zeroValue20
 t21:=Tryz.underlying21
 a21:=Tryz.isAgg21
 z21:=Tryz.sizeOf21
 v21:=Tryz.zeroValue21
 t37:=Tryz.underlying192
 a37:=Tryz.isAgg192
 z37:=Tryz.sizeOf192
 v37:=Tryz.zeroValue192
 t46:=Tryz.underlying175
 a46:=Tryz.isAgg175
 z46:=Tryz.sizeOf175
 v46:=Tryz.zeroValue175
 t51:=Tryz.underlying123
 a51:=Tryz.isAgg123
 z51:=Tryz.sizeOf123
 v51:=Tryz.zeroValue123
 t70:=Tryz.underlying241
 a70:=Tryz.isAgg241
 z70:=Tryz.sizeOf241
 v70:=Tryz.zeroValue241
 t72:=Tryz.underlying243
 a72:=Tryz.isAgg243
 z72:=Tryz.sizeOf243
 v72:=Tryz.zeroValue243
 t75:=Tryz.underlying245
 a75:=Tryz.isAgg245
 z75:=Tryz.sizeOf245
 v75:=Tryz.zeroValue245
 t76:=Tryz.underlying246
 a76:=Tryz.isAgg246
 z76:=Tryz.sizeOf246
 v76:=Tryz.zeroValue246
 t105:=Tryz.underlying208
 a105:=Tryz.isAgg208
 z105:=Tryz.sizeOf208
 v105:=Tryz.zeroValue208
 t107:=Tryz.underlying250
 a107:=Tryz.isAgg250
 z107:=Tryz.sizeOf250
 v107:=Tryz.zeroValue250
 t119:=Tryz.underlying87
 a119:=Tryz.isAgg87
 z119:=Tryz.sizeOf87
 t127:=Tryz.underlying255
 a127:=Tryz.isAgg255
 z127:=Tryz.sizeOf255
 v127:=Tryz.zeroValue255
 t138:=Tryz.underlying219
 a138:=Tryz.isAgg219
 z138:=Tryz.sizeOf219
 v138:=Tryz.zeroValue219
 t139:=Tryz.underlying220
 a139:=Tryz.isAgg220
 z139:=Tryz.sizeOf220
 v139:=Tryz.zeroValue220
 t160:=Tryz.underlying270
 a160:=Tryz.isAgg270
 z160:=Tryz.sizeOf270
 v160:=Tryz.zeroValue270
 t162:=Tryz.underlying268
 a162:=Tryz.isAgg268
 z162:=Tryz.sizeOf268
 v162:=Tryz.zeroValue268
 t164:=Tryz.underlying264
 a164:=Tryz.isAgg264
 z164:=Tryz.sizeOf264
 v164:=Tryz.zeroValue264
 t203:=Tryz.underlying260
 a203:=Tryz.isAgg260
 z203:=Tryz.sizeOf260
 v203:=Tryz.zeroValue260
 t206:=Tryz.underlying274
 a206:=Tryz.isAgg274
 z206:=Tryz.sizeOf274
 v206:=Tryz.zeroValue274
 t208:=Tryz.underlying276
 a208:=Tryz.isAgg276
 z208:=Tryz.sizeOf276
 v208:=Tryz.zeroValue276
 g3:=by kernel_rfl
 g4:=by kernel_rfl
 g13:=by kernel_rfl }
def Tryz.lays242_ren:Go.Shelf.Ren:=⟨fun | 242=>216 | 278=>222 | n=>n,fun | 37=>192 | 21=>21 | 51=>123 | 4=>4 | 5=>5 | 46=>175 | n=>n,fun | n=>n⟩
theorem Tryz.lays242:Go.Proofs.Lays.n242 Tryz.prog Tryz.lays242_ren:={
 mixed:=by kernel_rfl
 f242:=Tryz.func216.trans (congrArg some (by kernel_rfl))
 f278:=Tryz.func222.trans (congrArg some (by kernel_rfl))
 t4:=Tryz.underlying4
 a4:=Tryz.isAgg4
 z4:=Tryz.sizeOf4
 v4:=Tryz.zeroValue4
 t5:=Tryz.underlying5
 a5:=Tryz.isAgg5
 z5:=Tryz.sizeOf5
 v5:=Tryz.zeroValue5
 t21:=Tryz.underlying21
 a21:=Tryz.isAgg21
 z21:=Tryz.sizeOf21
 v21:=Tryz.zeroValue21
 t37:=Tryz.underlying192
 a37:=Tryz.isAgg192
 z37:=Tryz.sizeOf192
 v37:=Tryz.zeroValue192
 t46:=Tryz.underlying175
 a46:=Tryz.isAgg175
 z46:=Tryz.sizeOf175
 v46:=Tryz.zeroValue175
 t51:=Tryz.underlying123
 a51:=Tryz.isAgg123
 z51:=Tryz.sizeOf123
 v51:=Tryz.zeroValue123 }
theorem Tryz.Builder_Extra_158:Builder.Extra Tryz.prog Tryz.lays158_ren:={
 sizeBuilder:=by kernel_rfl
 liesBuilder:=by kernel_rfl
 t5:=Tryz.underlying5
 a5:=Tryz.isAgg5
 z5:=Tryz.sizeOf5
 v5:=Tryz.zeroValue5
 infoByte:=by kernel_rfl
 cellsByte:=by kernel_rfl
 sizeByte:=by kernel_rfl
 neB5:=by decide }
open Go.RowKit in
theorem Tryz.strings_ToUpper_ascii (s:ByteArray) (w:World) (hs:s.size<=140737488355328) (hascii : ∀ (j:Nat) (b:UInt8),s.data.toList[j]? = some b->b.toNat<128) :
  Calls Tryz.prog 189 #[.string s] w fun e w'=>e = .returned (.string ⟨(Lib.toUpperA s.data.toList).toArray⟩)/\Below w.heap.size w w':=Any.strings_ToUpper_ascii Tryz.lays158 Tryz.Builder_Extra_158 s w hs hascii
open Go.RowKit in
theorem Tryz.utf8_AppendRune_plain (B:Nat) (v:Value) (n:Nat) (xs:List Value) (r:Int) (hr0 : -2147483648<=r) (hr1:r<=2147483647) (w:World) (hown:w.ownsRow B 5 1 v n xs) (hlen:n+4<=140737488355328) (hBw:B<=w.heap.size) :
  Calls Tryz.prog 216 #[v,.int .i32 r] w fun e w'=>∃ v',e = .returned v'/\w'.ownsRow B 5 1 v' (n+(Lib.runeCells r).length) (xs++Lib.runeCells r)/\∃ o,(w.alloc o).grownBy w' v.ownBlock:=Any.utf8_AppendRune_plain Tryz.lays242 (by kernel_rfl) B v n xs r hr0 hr1 w hown hlen hBw
end Go.Proofs
namespace Go.Proofs.YticbpkghcglgkaaGreatDoor
open Go.Proofs.Tryz Go.RowKit
set_option maxRecDepth 20000
def qbb (T:List UInt8):Nat:=(T.filter fun c=>vg c.toNat==2).length
def qaB (n:Nat):List ByteArray:=if n=1 then [bCap] else if 1<n then [yi] else []
def kS (T:List UInt8) (spell:Bool):List ByteArray :=
 qaB (qbb T)++(if spell=true then qS::((T.map yp).map fun c=>(⟨#[c]⟩:ByteArray))++[qaO] else (if jF ⟨(T.map yp).toArray⟩=true then [vD] else [])++[⟨(T.map yp).toArray⟩])
theorem StBox.new (w:World) (r:Int) (d s:Bool) (p:Int) (c:Bool) (k:Int) (t:TypeId):StBox (w.alloc (.cells #[.int .i64 r,.bool d,.bool s,.int .i64 p,.bool c,.int .i64 k] t)) r d s p c k w.heap.size :=
 ⟨qu w _ _ 0,qu w _ _ 1,qu w _ _ 2,qu w _ _ 3,qu w _ _ 4,qu w _ _ 5⟩
def jC (T:List UInt8):List Nat:=T.map fun c=>c.toNat-48
def qbu (D:List Nat):List ByteArray:=D.flatMap ja
theorem qi3 (D:List Nat) (d:Nat):qbu (D++[d])=qbu D++ja d:=by
 unfold qbu
 rw [List.flatMap_append]
 simp only [List.flatMap_cons,List.flatMap_nil,List.append_nil]
def yt (T:List UInt8) (dig:Bool):List ByteArray :=
 if dig=true∨9<T.length∨(1<T.length/\(jC T).headD 1=0) then vI::qbu (jC T) else ja (yj (jC T))
theorem kR (n:Nat):(ja n).length<=16:=by
 unfold ja
 rw [List.length_map]
 have:=ke (n:Int)
 omega
theorem qeq (l:List Nat) (d:Nat):yj (l++[d])=10 * yj l+d:=by
 unfold yj
 rw [List.foldl_append]
 rfl
theorem qc5 (l:List Nat) (h : ∀ d∈l,d<10):yj l<10 ^ l.length:=by
 have e : ∀ (l:List Nat),(∀ d∈l,d<10)->∀ a,l.foldl (fun n d=>10 * n+d) a<(a+1) * 10 ^ l.length:=by
  intro l
  induction l with
  | nil=>intro _ a;simp
  | cons d t ih =>
   intro h a
   have h1:=h d (by simp)
   have h2:=ih (fun x hx=>h x (by simp [hx])) (10 * a+d)
   rw [List.length_cons,Nat.pow_succ]
   show List.foldl _ (10 * a+d) t<_
   have:(10 * a+d+1) * 10 ^ t.length<=(a+1) * 10 * 10 ^ t.length:=Nat.mul_le_mul_right _ (by omega)
   have e2:(a+1) * 10 * 10 ^ t.length=(a+1) * (10 ^ t.length * 10):=by rw [Nat.mul_assoc,Nat.mul_comm 10]
   omega
 have:=e l h 0
 unfold yj
 omega
theorem qgR {s:ByteArray} (h:s.size=1) : ∃ c,s=⟨#[c]⟩:=by
 obtain ⟨⟨l⟩⟩:=s
 match l,h with
 | [c],_=>exact ⟨c,rfl⟩
theorem qj3 (c:UInt8) (wd:Bool) (st:Int):qd ⟨⟨#[c]⟩,wd,st⟩=vg c.toNat:=rfl
theorem kindL_no {g:Gl} (h:g.text.size≠1):qd g=0:=by
 unfold qd
 split
 ·rename_i c hc
  have:=congrArg List.length hc
  exact absurd (by simpa using this) h
 ·rfl
def qdU (s:ByteArray) (lo hi:Nat):Bool:=match s.data.toList with
 | [c]=>decide (lo<=c.toNat)&&decide (c.toNat<=hi)
 | _=>false
theorem qde {s:ByteArray} (h:s.size≠1) (lo hi:Nat):qdU s lo hi=false:=by
 unfold qdU
 split
 ·rename_i c hc
  have:=congrArg List.length hc
  exact absurd (by simpa using this) h
 ·rfl
theorem rin1 (s:ByteArray) (hs:s.size<=1000000000) (lo hi:Nat) (w:World):Calls prog 118 #[.string s,.int .u8 lo,.int .u8 hi] w (qh (.bool (qdU s lo hi)) w):=by
 by_cases h1:s.size=1
 ·obtain ⟨c,rfl⟩:=qgR h1
  have HK:Hid (qdU ⟨#[c]⟩ lo hi=(decide (lo<=c.toNat)&&decide (c.toNat<=hi))):=Lh rfl
  generalize qdU ⟨#[c]⟩ lo hi=K at *
  clear hs h1
  go_enter func118,ntmps118
  go_wp2
  all_goals go_ret
  all_goals
   refine ⟨congrArg (fun x=>Ending.returned (Value.bool x)) ?_,Below.refl _ _⟩
   rw [HK.out,Bool.eq_iff_iff]
   simp only [ByteArray.getElem_eq_getElem_data,List.getElem_toArray,List.getElem_cons_zero] at *
   first | (simp;done) | (simp;omega)
 ·rw [qde h1]
  have h2:((s.size:Int)==1)=false:=beq_eq_false_iff_ne.2 (by omega)
  go_enter func118,ntmps118
  go_wp2
  go_ret
  exact ⟨rfl,Below.refl _ _⟩
def rkV (k:Nat):Int:=if k=1 then 97 else if k=2 then 65 else if k=3 then 48 else 46
theorem rkV_eq (g:Gl):rkV (qd g)=if qdU g.text 97 122=true then 97 else if qdU g.text 65 90=true then 65 else if qdU g.text 48 57=true then 48 else 46:=by
 by_cases h1:g.text.size=1
 ·obtain ⟨t,wd,st⟩:=g
  obtain ⟨c,rfl⟩:=qgR h1
  rw [qj3]
  show rkV (vg c.toNat)=if (decide (97<=c.toNat)&&decide (c.toNat<=122))=true then 97 else if (decide (65<=c.toNat)&&decide (c.toNat<=90))=true then 65 else if (decide (48<=c.toNat)&&decide (c.toNat<=57))=true then 48 else 46
  unfold vg rkV
  simp only [Bool.and_eq_true,decide_eq_true_eq]
  (repeat' split) <;> omega
 ·rw [kindL_no h1,qde h1,qde h1,qde h1]
  rfl
theorem qfZ (g:Gl) (hs:g.text.size<=1000000000) (w:World):Calls prog 97 #[glV g] w (qh (.int .u8 (rkV (qd g))) w):=by
 have H1:=Lh (rin1 g.text hs 97 122)
 have H2:=Lh (rin1 g.text hs 65 90)
 have H3:=Lh (rin1 g.text hs 48 57)
 rw [rkV_eq]
 generalize qdU g.text 97 122=x1 at *
 generalize qdU g.text 65 90=x2 at *
 generalize qdU g.text 48 57=x3 at *
 obtain ⟨t,wd,st⟩:=g
 dsimp only at *
 cases x1 with
 | true =>
  simp only [if_true]
  go_enter func97,ntmps97
  go_upto_region 1 with fail
  refine qa (GlBox w t wd st) (GlBox.new w t wd st _) ?_
  rintro wb hgb
  obtain ⟨c0,_,_,hb0,hz0⟩:=id hgb
  go_wp2_with (go_at_call 118;refine (H1.out _).mono ?_;rintro e w1 ⟨rfl,hbel1⟩)
  go_ret
  exact ⟨rfl,hb0.trans (hbel1.mono (by omega))⟩
 | false =>
  cases x2 with
  | true =>
   simp only [Bool.false_eq_true,if_false,if_true]
   go_enter func97,ntmps97
   go_upto_region 1 with fail
   refine qa (GlBox w t wd st) (GlBox.new w t wd st _) ?_
   rintro wb hgb
   obtain ⟨c0,_,_,hb0,hz0⟩:=id hgb
   go_upto_region 3 with (go_at_call 118;refine (H1.out _).mono ?_;rintro e w1 ⟨rfl,hbel1⟩;obtain ⟨d0,_,_,hb1,hz1⟩:=hgb.on hbel1)
   go_wp2_with (go_at_call 118;refine (H2.out _).mono ?_;rintro e w2 ⟨rfl,hbel2⟩)
   go_ret
   exact ⟨rfl,hb1.trans (hbel2.mono (by omega))⟩
  | false =>
   cases x3 with
   | true =>
    simp only [Bool.false_eq_true,if_false,if_true]
    go_enter func97,ntmps97
    go_upto_region 1 with fail
    refine qa (GlBox w t wd st) (GlBox.new w t wd st _) ?_
    rintro wb hgb
    obtain ⟨c0,_,_,hb0,hz0⟩:=id hgb
    go_upto_region 3 with (go_at_call 118;refine (H1.out _).mono ?_;rintro e w1 ⟨rfl,hbel1⟩;have hg1:=hgb.on hbel1;obtain ⟨d0,_,_,hb1,hz1⟩:=id hg1)
    go_upto_region 5 with (go_at_call 118;refine (H2.out _).mono ?_;rintro e w2 ⟨rfl,hbel2⟩;obtain ⟨e0,_,_,hb2,hz2⟩:=hg1.on hbel2)
    go_wp2_with (go_at_call 118;refine (H3.out _).mono ?_;rintro e w3 ⟨rfl,hbel3⟩)
    go_ret
    exact ⟨rfl,hb2.trans (hbel3.mono (by omega))⟩
   | false =>
    simp only [Bool.false_eq_true,if_false]
    go_enter func97,ntmps97
    go_upto_region 1 with fail
    refine qa (GlBox w t wd st) (GlBox.new w t wd st _) ?_
    rintro wb hgb
    obtain ⟨c0,_,_,hb0,hz0⟩:=id hgb
    go_upto_region 3 with (go_at_call 118;refine (H1.out _).mono ?_;rintro e w1 ⟨rfl,hbel1⟩;have hg1:=hgb.on hbel1;obtain ⟨d0,_,_,hb1,hz1⟩:=id hg1)
    go_upto_region 5 with (go_at_call 118;refine (H2.out _).mono ?_;rintro e w2 ⟨rfl,hbel2⟩;obtain ⟨e0,_,_,hb2,hz2⟩:=hg1.on hbel2)
    go_wp2_with (go_at_call 118;refine (H3.out _).mono ?_;rintro e w3 ⟨rfl,hbel3⟩)
    go_ret
    exact ⟨rfl,hb2.trans (hbel3.mono (by omega))⟩
end Go.Proofs.YticbpkghcglgkaaGreatDoor
namespace Go.Proofs.YticbpkghcglgkaaGreatDoor
theorem step_on {s:US} {b:Nat} {t out:List Nat} (h0:0<s.m) (h1:s.lo<=b) (h2:b<=s.hi) (h3:s.m≠1):zJ (b::t) (s,out)=zJ t (⟨s.v * 64+b % 64,s.m-1,0x80,0xBF⟩,out):=qdc (by omega) h1 h2 t out
theorem qj5 {s:US} {b:Nat} {t out:List Nat} (h0:s.m=1) (h1:s.lo<=b) (h2:b<=s.hi):zJ (b::t) (s,out)=zJ t (⟨s.v * 64+b % 64,s.m-1,0x80,0xBF⟩,out++[s.v * 64+b % 64]):=by rw [qbj h0 h1 h2,h0]
theorem qjq {s:US} {b:Nat} {t out:List Nat} (h0:0<s.m) (h1 : ¬ (s.lo<=b/\b<=s.hi)):zJ (b::t) (s,out)=zJ (b::t) (u0,out++[65533]):=by
 have e:qat s b=false:=by
  cases h:qat s b with
  | false=>rfl
  | true=>exact absurd (qcm.1 h).2 h1
 show zJ t (jU s b,out++ku s b)=zJ t (jU u0 b,out++[65533]++ku u0 b)
 have e0:qat u0 b=false:=qav rfl b
 rw [jU,jU,e,e0,ku,ku,e,e0]
 simp only [Bool.false_eq_true,if_false,if_pos h0]
 rw [if_neg (show ¬ 0<u0.m from Nat.lt_irrefl 0)]
 simp
theorem step_asc {s:US} {b:Nat} {t out:List Nat} (h0:s.m=0) (h1:b<128):zJ (b::t) (s,out)=zJ t (zt b,out++[b]):=qgi h0 h1 t out
theorem step_bad {s:US} {b:Nat} {t out:List Nat} (h0:s.m=0) (h1 : ¬ b<128) (h2:(zt b).m=0):zJ (b::t) (s,out)=zJ t (zt b,out++[65533]):=by
 show zJ t (jU s b,out++ku s b)=_
 rw [jU,ku,qav h0]
 simp only [Bool.false_eq_true,if_false]
 rw [if_neg (by omega),if_neg h1,if_pos h2]
 rfl
theorem qje {s:US} {b:Nat} {t out:List Nat} (h0:s.m=0) (h1 : ¬ b<128) (h2:(zt b).m≠0):zJ (b::t) (s,out)=zJ t (zt b,out):=qbf h0 (by omega) rfl h2 t out
section
variable {l t outs : List Nat} {sv sm slo shi b : Nat} {F : US × List Nat}
theorem run_on (h:zJ l (⟨sv,sm,slo,shi⟩,outs)=F) (hl:l=b::t) (h0:0<sm) (h1:slo<=b) (h2:b<=shi) (h3:sm≠1):zJ t (⟨sv * 64+b % 64,sm-1,128,191⟩,outs)=F:=by
 rw [<- h,hl,step_on (s:=⟨sv,sm,slo,shi⟩) h0 h1 h2 h3]
theorem run_last (h:zJ l (⟨sv,1,slo,shi⟩,outs)=F) (hl:l=b::t) (h1:slo<=b) (h2:b<=shi):zJ t (⟨sv * 64+b % 64,0,128,191⟩,outs++[sv * 64+b % 64])=F:=by
 rw [<- h,hl,qj5 (s:=⟨sv,1,slo,shi⟩) rfl h1 h2]
 rfl
theorem run_back (h:zJ l (⟨sv,sm,slo,shi⟩,outs)=F) (hl:l=b::t) (h0:0<sm) (h1 : ¬ (slo<=b/\b<=shi)):zJ l (u0,outs++[65533])=F:=by
 rw [<- h,hl,qjq (s:=⟨sv,sm,slo,shi⟩) h0 h1]
theorem run_asc {s:US} (h:zJ l (s,outs)=F) (hl:l=b::t) (h0:s.m=0) (h1:b<128):zJ t (zt b,outs++[b])=F:=by
 rw [<- h,hl,step_asc h0 h1]
theorem run_bad {s:US} (h:zJ l (s,outs)=F) (hl:l=b::t) (h0:s.m=0) (h1 : ¬ b<128) (h2:(zt b).m=0):zJ t (zt b,outs++[65533])=F:=by
 rw [<- h,hl,step_bad h0 h1 h2]
theorem run_lead {s:US} (h:zJ l (s,outs)=F) (hl:l=b::t) (h0:s.m=0) (h1 : ¬ b<128) (h2:(zt b).m≠0):zJ t (zt b,outs)=F:=by
 rw [<- h,hl,qje h0 h1 h2]
end
def KeptU (K:List Nat) (s:US):Prop :=
 (s.m=0/\K=[])∨(0<s.m/\∃ b0 rest,K=b0::rest/\b0<256/\(zt b0).m=s.m+rest.length/\(rest=[]->zt b0=s)/\(rest≠[]->s.lo=128/\s.hi=191) /\
  rest.foldl (fun n b=>n * 64+b-128) (zt b0).v=s.v/\∀ x∈rest,128<=x/\x<=191)
theorem qgz:KeptU [] u0:=.inl ⟨rfl,rfl⟩
theorem KeptU.beg {b:Nat} (hb:b<256) (h:(zt b).m≠0):KeptU [b] (zt b):=.inr ⟨by omega,b,[],rfl,hb,rfl,fun _=>rfl,fun h=>absurd rfl h,rfl,fun x hx=>by cases hx⟩
theorem qf4 (b:Nat):128<=(zt b).lo/\(zt b).hi<=191:=by
 unfold zt
 dsimp only
 constructor
 ·split
  ·omega
  ·split <;> omega
 ·split
  ·omega
  ·split <;> omega
theorem KeptU.snoc {K:List Nat} {s:US} {b:Nat} (h:KeptU K s) (h0:1<s.m) (h1:s.lo<=b) (h2:b<=s.hi):KeptU (K++[b]) ⟨s.v * 64+b % 64,s.m-1,0x80,0xBF⟩:=by
 rcases h with ⟨h,_⟩ | ⟨_,b0,rest,rfl,hb,hm,hr,hr2,hv,hx⟩
 ·omega
 ·have hb2:128<=b/\b<=191:=by
   by_cases e:rest=[]
   ·have:=hr e
    subst this
    have:=qf4 b0
    omega
   ·have:=hr2 e
    omega
  refine .inr ⟨by dsimp only;omega,b0,rest++[b],rfl,hb,?_,fun e=>absurd e (by simp),fun _=>⟨rfl,rfl⟩,?_,fun x h=>?_⟩
  ·rw [List.length_append,List.length_singleton]
   dsimp only
   omega
  ·rw [List.foldl_append,hv]
   dsimp only [List.foldl]
   omega
  ·rcases List.mem_append.1 h with h | h
   ·exact hx x h
   ·rw [List.mem_singleton] at h
    subst h
    exact hb2
def valU (K:List Nat):Nat:=match K with
 | []=>0
 | b0::rest=>rest.foldl (fun n b=>n * 64+b-128) (zt b0).v
theorem KeptU.whole {K:List Nat} {s:US} {b:Nat} (h:KeptU K s) (h0:s.m=1) (h1:s.lo<=b) (h2:b<=s.hi):valU (K++[b])=s.v * 64+b % 64/\∃ b0 rest,K++[b]=b0::rest/\b0<256/\(zt b0).m=rest.length/\0<rest.length/\∀ x∈rest,128<=x/\x<=191:=by
 rcases h with ⟨h,_⟩ | ⟨_,b0,rest,rfl,hb,hm,hr,hr2,hv,hx⟩
 ·omega
 ·have hb2:128<=b/\b<=191:=by
   by_cases e:rest=[]
   ·have:=hr e
    subst this
    have:=qf4 b0
    omega
   ·have:=hr2 e
    omega
  refine ⟨?_,b0,rest++[b],rfl,hb,by rw [List.length_append,List.length_singleton];omega,by simp,fun x h=>?_⟩
  ·show (rest++[b]).foldl _ (zt b0).v=_
   rw [List.foldl_append,hv]
   dsimp only [List.foldl]
   omega
  ·rcases List.mem_append.1 h with h | h
   ·exact hx x h
   ·rw [List.mem_singleton] at h
    subst h
    exact hb2
def limU (K:List Nat):Nat × Nat × Nat:=match K with
 | []=>(0,255,0)
 | b::rest=>(if rest=[] then (zt b).lo else 128,if rest=[] then (zt b).hi else 191,if (zt b).m=0 then 0 else (zt b).m+1)
theorem KeptU.lim {K:List Nat} {s:US} (h:KeptU K s) (hK:0<s.m):limU K=(s.lo,s.hi,K.length+s.m):=by
 rcases h with ⟨h,_⟩ | ⟨_,b0,rest,rfl,hb,hm,hr,hr2,hv,hx⟩
 ·omega
 ·unfold limU
  dsimp only
  rw [if_neg (show ¬ (zt b0).m=0 by omega),hm]
  by_cases e:rest=[]
  ·rw [if_pos e,if_pos e,hr e,e]
   simp
   omega
  ·obtain ⟨a,c⟩:=hr2 e
   rw [if_neg e,if_neg e,a,c]
   simp
   omega
end Go.Proofs.YticbpkghcglgkaaGreatDoor
namespace Go.Proofs.YticbpkghcglgkaaGreatDoor
open Go.Proofs.Tryz Go.RowKit
def chV (l:List Nat):List Value:=l.map fun (r:Nat)=>Value.int .i32 (r:Int)
theorem chV_len (l:List Nat):(chV l).length=l.length:=by simp [chV]
theorem yw (l:List Nat):(chV l).all Value.oneCell'=true:=by
 rw [List.all_eq_true]
 intro u hu
 simp [chV] at hu
 obtain ⟨i,_,rfl⟩:=hu
 rfl
theorem chV_app (a b:List Nat):chV (a++b)=chV a++chV b:=by simp [chV]
theorem qft (l:List Nat) (k:Nat) (h:k<l.length):(chV l)[k]? = some (.int .i32 (l[k]:Int)):=by simp [chV,h]
theorem qdd:Elt prog 166 21 (.int .i32 0) 1 4 where
 und:=underlying166
 row:=by
  have h:(prog.info? 21).map (fun i=>(i.zero,i.size,i.bytes))=some (some (.int .i32 0),1,4):=by kernel_rfl
  obtain ⟨i,hi,a,b,c⟩:=info_parts h
  exact ⟨i,hi,a,b,c⟩
 zs:=rfl
 pos:=by decide
theorem qca {w:World} {base c x:Nat} {A:Option Addr} {e:TypeId} {outs:List Nat} {v:Int} (h:w.ownsRow base e 1 (.slice A (outs.length+1) c) (outs.length+1) (chV outs++[.int .i32 v])) (hv:(x:Int)=v) :
  w.ownsRow base e 1 (.slice A (outs++[x]).length c) (outs++[x]).length (chV (outs++[x])):=by
 rw [chV_app,List.length_append,List.length_singleton]
 subst hv
 exact h
end Go.Proofs.YticbpkghcglgkaaGreatDoor
namespace Go.Proofs.YticbpkghcglgkaaGreatDoor
theorem qht (s:ByteArray) (i:Nat):Lib.decodeL (s.data.toList.drop i)=Utf8.decode s i:=Lib.decodeL_drop s i
theorem qb1 (s:ByteArray) : ∀ f i,Lib.validGoD f (s.data.toList.drop i)=true↔kK s f i
 | 0,i=>by simp [Lib.validGoD,kK]
 | f+1,i=>by
  rw [Lib.validGoD.eq_2,kK,qht]
  by_cases h:i<s.size
  ·have hne:s.data.toList.drop i≠[]:=fun e=>by
    have:=congrArg List.length e
    simp at this
    have h2:s.size=s.data.size:=rfl
    omega
   rw [if_neg hne,if_pos h,List.drop_drop]
   by_cases hb:(Utf8.decode s i).1=65533/\(Utf8.decode s i).2=1
   ·rw [if_pos hb]
    simp [hb]
   ·rw [if_neg hb,qb1 s f]
    simp [hb]
  ·have hnil:s.data.toList.drop i=[]:=List.drop_of_length_le (by simp;exact Nat.le_of_not_lt h)
   rw [if_pos hnil,if_neg h]
   simp
theorem qjF (s:ByteArray):Lib.validD s.data.toList=vb s:=by
 rw [Bool.eq_iff_iff,qdx,<- qb1 s s.size 0]
 rfl
theorem encodeZ {r:Nat} (h:qR r):Lib.encodeRuneZ (r:Int)=(vQ r).map fun (b:Nat)=>(b:Int):=by
 unfold qR at h
 unfold Lib.encodeRuneZ vQ
 split
 ·rw [if_pos (by omega)];rfl
 ·split
  ·rw [if_neg (by omega),if_pos (by omega)]
   simp
  ·split
   ·rw [if_neg (by omega),if_neg (by omega),if_pos (by omega)]
    simp
   ·split
    ·rw [if_neg (by omega),if_neg (by omega),if_neg (by omega)]
     simp
    ·omega
end Go.Proofs.YticbpkghcglgkaaGreatDoor
