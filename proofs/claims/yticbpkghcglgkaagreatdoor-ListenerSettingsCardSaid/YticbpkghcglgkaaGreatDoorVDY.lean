/- Joined: Un3, Un4, Sg1, Rn1, Rn2, Rn3, Rn4, Ch1, Ch2, Ch3, Cl1, Cl2, Rn5, Rn6, Cl3, Rn7. -/
import Derived.Test.YticbpkghcglgkaaGreatDoorVAK
import Derived.Test.YticbpkghcglgkaaGreatDoorVDX
set_option linter.unusedVariables false
set_option linter.unusedSimpArgs false
set_option linter.unnecessarySimpa false
set_option maxHeartbeats 4000000
namespace Go.Proofs.YticbpkghcglgkaaGreatDoor
open Go.Proofs.Tryz Go.RowKit
theorem qb8 (s:ByteArray) : ∀ (f i:Nat) (acc:Array Value),Conv.runesFrom s f i acc=acc++(chV (qaW s f i)).toArray
 | 0,i,acc=>by
  simp [qaW,chV]
  unfold Conv.runesFrom
  rfl
 | f+1,i,acc=>by
  rw [Conv.runesFrom.eq_2,qaW]
  by_cases h:i<s.size
  ·rw [if_pos h,if_pos h]
   show Conv.runesFrom s f (i+(Utf8.decode s i).2) (acc.push (Value.int IntKind.i32 (Int.ofNat (Utf8.decode s i).1)))=_
   rw [qb8 s f]
   apply Array.ext'
   simp [chV]
  ·rw [if_neg h,if_neg h]
   simp [chV]
theorem jB (s:ByteArray):(qs (qB s)).length<=2 * s.size:=by
 have h : ∀ (l:List Nat) (x:US × List Nat),(zJ l x).2.length<=x.2.length+2 * l.length:=by
  intro l
  induction l with
  | nil=>intro x;simp [zJ]
  | cons b t ih =>
   intro x
   have:=ih (jU x.1 b,x.2++ku x.1 b)
   have h2:(ku x.1 b).length<=2:=by
    unfold ku
    split
    ·split <;> simp
    ·rw [List.length_append]
     split <;> split <;> (try split) <;> simp
   show (zJ t (jU x.1 b,x.2++ku x.1 b)).2.length<=_
   rw [List.length_append] at this
   rw [List.length_cons]
   omega
 have:=h (qB s) (u0,[])
 rw [zT] at this
 simpa [qs] using this
theorem qbK (s:ByteArray) (hv:vb s=true) (hs:s.size<=1000000000) (w:World) :
  ∃ c w',(convert 9 166 (.string s)).run prog w = .ok (.slice (some ⟨w.heap.size,0,none⟩) (qs (qB s)).length c) w'/\Rd w' w'.heap.size 1 (some ⟨w.heap.size,0,none⟩) (qs (qB s)).length (chV (qs (qB s)))/\Below w.heap.size w w'/\(qs (qB s)).length<=c:=by
 have hz:=qgn s ((qdx s).1 hv)
 have he:Conv.runesFrom s s.size 0 #[]=(chV (qs (qB s))).toArray:=by rw [qb8,hz];simp
 have hl:=jB s
 have hn:(Conv.runesFrom s s.size 0 #[]).size=(qs (qB s)).length:=by rw [he];simp [chV]
 have h:=run_runes_of_string (P:=prog) w _ _ _ s underlying9 underlying166 underlying21 (by rw [hn];omega)
 rw [hn,he] at h
 generalize (qs (qB s))=L at *
 refine ⟨_,_,h,?_,jI ((Below.refl w.heap.size w.drew).alloc (Nat.le_refl _) _),?_⟩
 ·refine Rd.some_ (by rw [chV_len,Nat.mul_one]) (by simp) fun j u hu=>?_
  have h1:=qu w.drew ((chV L).toArray++Array.replicate (grownCap w L.length 0 21-L.length) (Value.int IntKind.i32 0)) 21 (0+j)
  refine Eq.trans ?_ (h1.trans ?_)
  ·rfl
  ·have hj:j<(chV L).length:=(List.getElem?_eq_some_iff.1 hu).1
   rw [Nat.zero_add,Array.getElem?_append_left (by simpa using hj)]
   simpa using hu
 ·exact grownCap_ge w L.length 0 _
theorem valid_ (s:ByteArray) (hs:s.size<=1000000000) (w:World) (hu:U8 w):Calls prog 125 #[.string s] w (qh (.bool (vb s)) w):=by
 have HC:Hid (Calls prog 143 #[.string s] w (qh (.bool (vb s)) w)):=Lh (by
  have h:=Any.utf8_ValidString Tryz.laysValid s w (by omega) hu
  rw [qjF] at h
  exact h)
 generalize vb s=R at *
 clear hu
 go_enter func125,ntmps125
 go_wp2_with (go_at_call 143;refine HC.out.mono ?_;rintro e w1 ⟨rfl,hbel1⟩)
 go_ret
 exact ⟨rfl,hbel1⟩
def byV (l:List Nat):List Value:=l.map fun (b:Nat)=>Value.int .u8 (b:Int)
theorem qfs {r:Nat} (h:qR r):Lib.runeCells (r:Int)=byV (vQ r):=by
 unfold Lib.runeCells byV
 rw [encodeZ h,List.map_map]
 rfl
theorem vt {w:World} {base size n:Nat} {e:TypeId} {v:Value} {xs:List Value} (h:w.ownsRow base e size v n xs) : ∃ A c,v = .slice A n c:=by
 rcases h.2 with ⟨rfl,rfl⟩ | ⟨g,cap,cur,rfl,_⟩
 ·exact ⟨none,0,rfl⟩
 ·exact ⟨_,_,rfl⟩
theorem qgb {w:World} {B n c:Nat} {A:Option Addr} {l:List Nat} (rd:Rd w B 1 A n (byV l)) (hn:l.length=n) (h0:0<n) (hl : ∀ b∈l,b<256) :
  (convert 192 9 (.slice A n c)).run prog w = .ok (.string ⟨(l.map fun b=>UInt8.ofNat b).toArray⟩) w:=by
 obtain ⟨b,o,rfl,_,hc⟩:=rd.2 h0
 have h:=run_convert_bytes_back (P:=prog) w _ _ _ ⟨b,o,none⟩ c (l.map fun b=>UInt8.ofNat b) underlying192 underlying5 underlying9 (fun j hj=>by
  have hjl:j<l.length:=by simpa using hj
  rw [vl,hc j (.int .u8 (l[j]:Int)) (by simp [byV,hjl])]
  have:=hl _ (List.getElem_mem hjl)
  simp only [List.getElem_map,UInt8.toNat_ofNat']
  congr 2
  omega)
 rw [List.length_map,hn] at h
 exact h
theorem qiC (r:Nat) (hr:qR r) (A:Option Addr) (c B:Nat) (w:World) (rd:Rd w B 1 A 1 (chV [r])) (hB:B<=w.heap.size):Calls prog 204 #[.slice A 1 c] w (qh (.string (kt r)) w):=by
 obtain ⟨b,o,rfl,hbB,hc⟩:=rd.2 (by omega)
 have hcell:w.cell? ⟨b,o,none⟩=some (.int .i32 (r:Int)):=hc 0 _ rfl
 have hr2:(r:Int)<=2147483647:=by unfold qR at hr;omega
 have HC:=Lh (qfs hr)
 have HL:Hid (∀ b∈vQ r,b<256):=Lh (qh8 hr)
 have HP:=Lh (qaR r)
 have hl4:=(qaR r).2
 unfold kt
 generalize vQ r=E at *
 clear hc rd
 go_enter func204,ntmps204
 go_wp2
 go_loopw [3,8] (fun v x wr=>∃ k:Nat,k<=1/\x = .int .i64 k/\Below w.heap.size w wr/\((k=0/\v = .slice none 0 0)∨(k=1/\∃ A' c',v = .slice A' E.length c'/\wr.ownsRow w.heap.size 5 1 (.slice A' E.length c') E.length (byV E)))) (fun _ x _=>1-(intOf x).toNat)
 case atStart=>exact ⟨0,by omega,rfl,Below.refl _ _,.inl ⟨rfl,rfl⟩⟩
 case round =>
  obtain ⟨k,hk,rfl,hbel,hcase⟩:=hrel
  rcases hcase with ⟨rfl,rfl⟩ | ⟨rfl,A',c',rfl,hown⟩
  ·have hcell2:=(hbel.cell (by omega:b<w.heap.size)).trans hcell
   go_wp2_with (go_at_call 216;refine (Tryz.utf8_AppendRune_plain w.heap.size _ 0 [] (r:Int) (by omega) hr2 _ (zY _ _ _ _) (by omega) hbel.size).mono ?_;rintro e w1 ⟨v1,rfl,hown1,o1,hg1⟩)
   rw [HC.out] at hown1
   have hlen:(byV E).length=E.length:=by simp [byV]
   rw [hlen,Nat.zero_add,List.nil_append] at hown1
   obtain ⟨A',c',rfl⟩:=vt hown1
   refine ⟨⟨1,by omega,by go_num,?_,.inr ⟨rfl,A',c',rfl,hown1⟩⟩,by simp [intOf]⟩
   exact (hbel.alloc hbel.size o1).grown hg1 (by have:=hbel.size;simp;omega) (fun k hk=>by cases hk)
  ·have HV:=Lh (qgb (c:=c') (Rd.of_own hown) rfl HP.out.1 HL.out)
   have HV2:=HV.out
   go_wp2
   go_ret
   exact ⟨rfl,hbel⟩
end Go.Proofs.YticbpkghcglgkaaGreatDoor
namespace Go.Proofs.YticbpkghcglgkaaGreatDoor
open Go.Proofs.Tryz Go.RowKit
set_option maxRecDepth 20000
theorem qgd (s:ByteArray) (c:UInt8):(s.toList==[c])=decide (s.data.toList=[c]):=by
 rw [ByteArray.toList_eq]
 rw [Bool.eq_iff_iff]
 simp
def za (l:List Nat):List ByteArray:=l.flatMap fun (r:Nat)=>qD (r:Int)
theorem qgu (l:List Nat) (r:Nat):za (l++[r])=za l++qD (r:Int):=by
 unfold za
 rw [List.flatMap_append]
 simp only [List.flatMap_cons,List.flatMap_nil,List.append_nil]
theorem qdS (l:List Nat):(za l).length<=16 * l.length:=by
 induction l with
 | nil=>simp [za]
 | cons a t ih =>
  have h1:=qeR (a:Int)
  have e:za (a::t)=qD (a:Int)++za t:=by simp [za]
  rw [e,List.length_append,List.length_cons]
  omega
theorem qfH {l:List Nat} {j:Nat} (h:j<l.length):za (l.take (j+1))=za (l.take j)++qD (l[j]:Int):=by
 have e:l.take (j+1)=l.take j++[l[j]]:=(List.take_append_getElem h).symm
 rw [e,qgu]
theorem yC {g:Gl} (h:g.text.data.toList=[32]):qP g=[yB]:=if_pos h
theorem jr {g:Gl} (h:g.text.data.toList≠[32]):qP g=za (qs (qB g.text)):=if_neg h
def Same (v:Value) (w:World) (en:Ending) (w':World):Prop:=en = .returned v/\w=w'
def limV (x:Nat × Nat × Nat):Value:=.tuple #[.int .u8 x.1,.int .u8 x.2.1,.int .i64 x.2.2]
theorem qh9 (a b:List Nat):byV (a++b)=byV a++byV b:=by simp [byV]
theorem yu (l:List Nat):(byV l).all Value.oneCell'=true:=by
 rw [List.all_eq_true]
 intro u hu
 simp [byV] at hu
 obtain ⟨i,_,rfl⟩:=hu
 rfl
theorem lim_eq (x:Nat × Nat × Nat) (a b c:Int) (h1:a=x.1) (h2:b=x.2.1) (h3:c=x.2.2):Value.tuple #[.int .u8 a,.int .u8 b,.int .i64 c]=limV x:=by subst h1 h2 h3;rfl
theorem qcZ (b:Nat) (rest:List Nat) (hb:b<256) (A:Option Addr) (n c B:Nat) (w:World) (hn:rest.length+1=n) (hn2:n<=1000000000) (rd:Rd w B 1 A n (byV (b::rest))) :
  Calls prog 158 #[.slice A n c] w (Same (limV (limU (b::rest))) w):=by
 obtain ⟨g,o,rfl,_,hcc⟩:=rd.2 (by omega)
 have hcell:w.cell? ⟨g,o,none⟩=some (.int .u8 (b:Int)):=hcc 0 _ rfl
 have HE:=Lh (lim_eq (limU (b::rest)))
 have HM:Hid ((limU (b::rest)).2.2=if 0xC2<=b/\b<=0xDF then 2 else if 0xE0<=b/\b<=0xEF then 3 else if 0xF0<=b/\b<=0xF4 then 4 else 0):=Lh (by
  show (if (if 0xC2<=b/\b<=0xDF then 1 else if 0xE0<=b/\b<=0xEF then 2 else if 0xF0<=b/\b<=0xF4 then 3 else 0)=0 then 0 else (if 0xC2<=b/\b<=0xDF then 1 else if 0xE0<=b/\b<=0xEF then 2 else if 0xF0<=b/\b<=0xF4 then 3 else 0)+1)=_
  by_cases h1:0xC2<=b/\b<=0xDF
  ·simp [h1]
  ·by_cases h2:0xE0<=b/\b<=0xEF
   ·simp [h1,h2]
   ·by_cases h3:0xF0<=b/\b<=0xF4
    ·simp [h1,h2,h3]
    ·simp [h1,h2,h3])
 have hr:rest=[]↔n=1:=by
  constructor
  ·rintro rfl;simpa using hn.symm
  ·intro h;exact List.eq_nil_of_length_eq_zero (by omega)
 have HL:Hid ((limU (b::rest)).1=if n=1 then (if b=0xE0 then 0xA0 else if b=0xF0 then 0x90 else 0x80) else 128):=Lh (by
  show (if rest=[] then (zt b).lo else 128)=_
  simp only [hr]
  rfl)
 have HH:Hid ((limU (b::rest)).2.1=if n=1 then (if b=0xED then 0x9F else if b=0xF4 then 0x8F else 0xBF) else 191):=Lh (by
  show (if rest=[] then (zt b).hi else 191)=_
  simp only [hr]
  rfl)
 have h0:0<n:=by omega
 clear hcc hn hr rd
 generalize limU (b::rest)=S at *
 by_cases h1:n=1
 ·subst h1
  rw [if_pos rfl] at HL HH
  go_enter func158,ntmps158
  go_wp2
  all_goals
   simp only [beq_iff_eq,beq_eq_false_iff_ne,ne_eq] at *
   go_ret3
   refine ⟨congrArg Ending.returned (HE.out _ _ _ ?_ ?_ ?_),rfl⟩
   ·rw [HL.out];(repeat' split) <;> omega
   ·rw [HH.out];(repeat' split) <;> omega
   ·rw [HM.out];(repeat' split) <;> omega
 ·rw [if_neg h1] at HL HH
  have h2:((n:Int)==1)=false:=beq_eq_false_iff_ne.2 (by omega)
  go_enter func158,ntmps158
  go_wp2
  all_goals
   go_ret3
   refine ⟨congrArg Ending.returned (HE.out _ _ _ ?_ ?_ ?_),rfl⟩
   ·rw [HL.out];(repeat' split) <;> omega
   ·rw [HH.out];(repeat' split) <;> omega
   ·rw [HM.out];(repeat' split) <;> omega
theorem begU_m (b:Nat):((zt b).m=1->(zt b).v+192=b)/\((zt b).m=2->(zt b).v+224=b)/\((zt b).m=3->(zt b).v+240=b)/\(zt b).v<32/\(zt b).m<=3:=by
 unfold zt
 dsimp only
 refine ⟨?_,?_,?_,?_,?_⟩
 ·intro h
  split at h
  ·rw [if_pos (by assumption)];omega
  ·split at h
   ·omega
   ·split at h <;> omega
 ·intro h
  split at h
  ·omega
  ·split at h
   ·rw [if_neg (by assumption),if_pos (by assumption)];omega
   ·split at h <;> omega
 ·intro h
  split at h
  ·omega
  ·split at h
   ·omega
   ·split at h
    ·rw [if_neg (by assumption),if_neg (by assumption),if_pos (by assumption)];omega
    ·omega
 ·split
  ·omega
  ·split
   ·omega
   ·split <;> omega
 ·split
  ·omega
  ·split
   ·omega
   ·split <;> omega
def jd (b0:Nat) (rest:List Nat) (j:Nat):Nat:=(rest.take j).foldl (fun n b=>n * 64+b-128) (zt b0).v
theorem qjG (b0:Nat) (rest:List Nat):jd b0 rest 0=(zt b0).v:=rfl
theorem qiM {b0:Nat} {rest:List Nat} {j:Nat} (h:j<rest.length):jd b0 rest (j+1)=jd b0 rest j * 64+rest[j]-128:=by
 unfold jd
 rw [List.take_add_one,List.getElem?_eq_getElem h,List.foldl_append]
 rfl
theorem valK_all (b0:Nat) (rest:List Nat):jd b0 rest rest.length=valU (b0::rest):=by
 unfold jd valU
 rw [List.take_length]
theorem value_ (b0:Nat) (rest:List Nat) (hb:b0<256) (hm:(zt b0).m=rest.length) (h0:0<rest.length) (hx : ∀ x∈rest,128<=x/\x<=191) (A:Option Addr) (n c B:Nat) (w:World) (hn:rest.length+1=n) (rd:Rd w B 1 A n (byV (b0::rest))) :
  Calls prog 159 #[.slice A n c] w (Same (.int .i32 (valU (b0::rest):Int)) w):=by
 obtain ⟨m1,m2,m3,mv,m4⟩:=begU_m b0
 obtain ⟨g,o,rfl,_,hcc⟩:=rd.2 (by omega)
 have hcell:w.cell? ⟨g,o,none⟩=some (.int .u8 (b0:Int)):=hcc 0 _ rfl
 have HC:Hid (∀ j (h:j<rest.length),w.cell? ⟨g,o+(j+1),none⟩=some (.int .u8 (rest[j]:Int))):=Lh fun j h=>hcc (j+1) _ (by simp [byV,h])
 have HS:Hid (∀ j (h:j<rest.length),jd b0 rest (j+1)=jd b0 rest j * 64+rest[j]-128):=Lh fun j h=>qiM h
 have HX:Hid (∀ j (h:j<rest.length),128<=rest[j]/\rest[j]<=191):=Lh fun j h=>hx _ (List.getElem_mem h)
 have HZ:=Lh (qjG b0 rest)
 rw [<- valK_all]
 rw [hm] at m1 m2 m3 m4
 generalize (zt b0).v=bv at *
 obtain rfl:n=rest.length+1:=hn.symm
 clear hcc rd hx hm
 by_cases hl:rest.length=1
 ·have hv:=(m1 (by omega))
  have hb2:(b0:Int)=bv+192:=by omega
  have hl2:(rest.length:Int)=1:=by omega
  clear m1 m2 m3
  go_enter func159,ntmps159
  go_wp2
  go_loopw [3,4] (fun v x wr=>∃ j:Nat,j<=rest.length/\x = .int .i64 ((j:Int)+1)/\v = .int .i32 (jd b0 rest j:Int)/\wr=w/\((j=0/\jd b0 rest j<32)∨(j=1/\jd b0 rest j<2048)∨(j=2/\jd b0 rest j<131072)∨(j=3/\jd b0 rest j<8388608))) (fun _ x _=>rest.length+1-(intOf x).toNat)
  case atStart=>exact ⟨0,Nat.zero_le _,rfl,by rw [HZ.out],rfl,.inl ⟨rfl,by rw [HZ.out];exact mv⟩⟩
  case round =>
   obtain ⟨j,hj,rfl,rfl,rfl,hbd⟩:=hrel
   by_cases hlt:j<rest.length
   ·have hc:=HC.out j hlt
    have hs:=HS.out j hlt
    have hxx:=HX.out j hlt
    generalize rest[j]=y at *
    generalize hv1:jd b0 rest (j+1)=v1 at *
    generalize jd b0 rest j=v0 at *
    have hv2:(v1:Int)=(v0:Int) * 64+y-128:=by omega
    go_wp2
    refine ⟨⟨j+1,by omega,by go_num,?_,(by first | trivial | rfl),by omega⟩,by simp [intOf];omega⟩
    rw [hv1,hv2]
   ·obtain rfl:j=rest.length:=by omega
    go_wp2
    go_ret
    exact ⟨rfl,rfl⟩
 skip
 by_cases hl:rest.length=2
 ·have hv:=(m2 (by omega))
  have hb2:(b0:Int)=bv+224:=by omega
  have hl2:(rest.length:Int)=2:=by omega
  clear m1 m2 m3
  go_enter func159,ntmps159
  go_wp2
  go_loopw [3,4] (fun v x wr=>∃ j:Nat,j<=rest.length/\x = .int .i64 ((j:Int)+1)/\v = .int .i32 (jd b0 rest j:Int)/\wr=w/\((j=0/\jd b0 rest j<32)∨(j=1/\jd b0 rest j<2048)∨(j=2/\jd b0 rest j<131072)∨(j=3/\jd b0 rest j<8388608))) (fun _ x _=>rest.length+1-(intOf x).toNat)
  case atStart=>exact ⟨0,Nat.zero_le _,rfl,by rw [HZ.out],rfl,.inl ⟨rfl,by rw [HZ.out];exact mv⟩⟩
  case round =>
   obtain ⟨j,hj,rfl,rfl,rfl,hbd⟩:=hrel
   by_cases hlt:j<rest.length
   ·have hc:=HC.out j hlt
    have hs:=HS.out j hlt
    have hxx:=HX.out j hlt
    generalize rest[j]=y at *
    generalize hv1:jd b0 rest (j+1)=v1 at *
    generalize jd b0 rest j=v0 at *
    have hv2:(v1:Int)=(v0:Int) * 64+y-128:=by omega
    go_wp2
    refine ⟨⟨j+1,by omega,by go_num,?_,(by first | trivial | rfl),by omega⟩,by simp [intOf];omega⟩
    rw [hv1,hv2]
   ·obtain rfl:j=rest.length:=by omega
    go_wp2
    go_ret
    exact ⟨rfl,rfl⟩
 skip
 by_cases hl:rest.length=3
 ·have hv:=(m3 (by omega))
  have hb2:(b0:Int)=bv+240:=by omega
  have hl2:(rest.length:Int)=3:=by omega
  clear m1 m2 m3
  go_enter func159,ntmps159
  go_wp2
  go_loopw [3,4] (fun v x wr=>∃ j:Nat,j<=rest.length/\x = .int .i64 ((j:Int)+1)/\v = .int .i32 (jd b0 rest j:Int)/\wr=w/\((j=0/\jd b0 rest j<32)∨(j=1/\jd b0 rest j<2048)∨(j=2/\jd b0 rest j<131072)∨(j=3/\jd b0 rest j<8388608))) (fun _ x _=>rest.length+1-(intOf x).toNat)
  case atStart=>exact ⟨0,Nat.zero_le _,rfl,by rw [HZ.out],rfl,.inl ⟨rfl,by rw [HZ.out];exact mv⟩⟩
  case round =>
   obtain ⟨j,hj,rfl,rfl,rfl,hbd⟩:=hrel
   by_cases hlt:j<rest.length
   ·have hc:=HC.out j hlt
    have hs:=HS.out j hlt
    have hxx:=HX.out j hlt
    generalize rest[j]=y at *
    generalize hv1:jd b0 rest (j+1)=v1 at *
    generalize jd b0 rest j=v0 at *
    have hv2:(v1:Int)=(v0:Int) * 64+y-128:=by omega
    go_wp2
    refine ⟨⟨j+1,by omega,by go_num,?_,(by first | trivial | rfl),by omega⟩,by simp [intOf];omega⟩
    rw [hv1,hv2]
   ·obtain rfl:j=rest.length:=by omega
    go_wp2
    go_ret
    exact ⟨rfl,rfl⟩
 skip
 omega
def lenV:Value->Nat
 | .slice _ n _=>n
 | _=>0
theorem qdv (A:Option Addr) (n m c:Nat):(Value.slice A n c).ownBlock=(Value.slice A m c).ownBlock:=by cases A <;> rfl
theorem Dj.new {a b b':Option Nat} {N:Nat} (h:Dj a b) (hb:b'=b∨b'=some N) (ha : ∀ k,a=some k->k<N):Dj a b':=by
 rcases hb with rfl | rfl
 ·exact h
 ·intro k h1 h2
  have:=ha k h1
  injection h2 with h2
  omega
theorem qa8 {w:World} {base size n:Nat} {e:TypeId} {v:Value} {xs:List Value} (h:w.ownsRow base e size v n xs) : ∀ k,v.ownBlock=some k->k<w.heap.size:=fun k hk=>(h.lt k hk).2
theorem qba:Elt prog 192 5 (.int .u8 0) 1 1 where
 und:=underlying192
 row:=by
  have h:(prog.info? 5).map (fun i=>(i.zero,i.size,i.bytes))=some (some (.int .u8 0),1,1):=by kernel_rfl
  obtain ⟨i,hi,a,b,c⟩:=info_parts h
  exact ⟨i,hi,a,b,c⟩
 zs:=rfl
 pos:=by decide
theorem qeS {w:World} {base c x:Nat} {A:Option Addr} {e:TypeId} {outs:List Nat} {v:Int} (h:w.ownsRow base e 1 (.slice A (outs.length+1) c) (outs.length+1) (byV outs++[.int .u8 v])) (hv:(x:Int)=v) :
  w.ownsRow base e 1 (.slice A (outs++[x]).length c) (outs++[x]).length (byV (outs++[x])):=by
 rw [qh9,List.length_append,List.length_singleton]
 subst hv
 exact h
theorem KeptU.lt_ {K:List Nat} {s:US} (h:KeptU K s) : ∀ b∈K,b<256:=by
 rcases h with ⟨_,rfl⟩ | ⟨_,b0,rest,rfl,hb,_,_,_,_,hx⟩
 ·intro b hb;cases hb
 ·intro b hb2
  rcases List.mem_cons.1 hb2 with rfl | h
  ·exact hb
  ·have:=hx b h;omega
theorem KeptU.nil_iff {K:List Nat} {s:US} (h:KeptU K s):K=[]↔s.m=0:=by
 rcases h with ⟨h0,rfl⟩ | ⟨h0,b0,rest,rfl,_⟩
 ·simp [h0]
 ·simp;omega
theorem qgA {w:World} {B n c:Nat} {A:Option Addr} {l:List Nat} (rd:Rd w B 1 A n (byV l)) (hn:l.length=n) (hl : ∀ b∈l,b<256) :
  (convert 192 9 (.slice A n c)).run prog w = .ok (.string ⟨(l.map fun b=>UInt8.ofNat b).toArray⟩) w:=by
 rcases Nat.eq_zero_or_pos n with h0 | h0
 ·subst h0
  obtain rfl:=List.eq_nil_of_length_eq_zero hn
  cases A with
  | none=>exact run_convert_bytes_nil (P:=prog) w _ _ underlying192 underlying5 0 c _ underlying9
  | some a=>exact run_convert_bytes_back (P:=prog) w _ _ _ a c [] underlying192 underlying5 underlying9 (fun j hj=>absurd hj (Nat.not_lt_zero j))
 ·exact qgb rd hn h0 hl
def DecP (L:List Nat) (pend:Prop) (w:World) (en:Ending) (w':World):Prop :=
 ∃ A c rest,en = .returned (.tuple #[.slice A L.length c,.string rest])/\w'.ownsRow w.heap.size 21 1 (.slice A L.length c) L.length (chV L)/\Below w.heap.size w w'/\(rest=⟨#[]⟩↔pend)
def DecR (w:World) (t:ByteArray) (F:US × List Nat) (v u x:Value) (wr:World):Prop :=
 ∃ (A A':Option Addr) (c c' k:Nat) (s:US) (outs K:List Nat),k<=t.size/\x = .int .i64 k/\v = .slice A outs.length c/\u = .slice A' K.length c' /\
  wr.ownsRow w.heap.size 21 1 (.slice A outs.length c) outs.length (chV outs)/\wr.ownsRow w.heap.size 5 1 (.slice A' K.length c') K.length (byV K)/\Dj (Value.slice A outs.length c).ownBlock (Value.slice A' K.length c').ownBlock /\
  Below w.heap.size w wr/\KeptU K s/\zJ ((qB t).drop k) (s,outs)=F/\outs.length+K.length<=k
theorem qiF (t:ByteArray) (ht:t.size<=1000000000) (w:World) :
  Calls prog 136 #[.string ⟨#[]⟩,.string t] w (DecP (qs (qB t)) ((zJ (qB t) (u0,[])).1.m=0) w):=by
 have HF:Hid (zJ ((qB t).drop 0) (u0,[])=zJ (qB t) (u0,[])):=Lh rfl
 unfold qs
 generalize zJ (qB t) (u0,[])=F at *
 have HN:Hid ((qB t).length=t.size):=Lh (zT t)
 go_enter func136,ntmps136
 go_wp2
 have e0:(⟨#[]⟩++t:ByteArray)=t:=ByteArray.ext (by rw [ByteArray.data_append];simp)
 simp only [e0]
 go_loopw [7,8,9] (fun v u x wr=>DecR w t F v u x wr) (fun _ u x _=>2 * (t.size-(intOf x).toNat)+lenV u)
 case atStart=>exact ⟨_,_,_,_,0,u0,[],[],Nat.zero_le _,rfl,rfl,rfl,(qx (xs:=[]) rfl rfl (Nat.le_refl _) (Nat.zero_le _)).alloc _,qx (xs:=[]) (by simp) rfl (by omega) (Nat.zero_le _),(fun k h1 h2=>by
  simp only [Value.ownBlock,Option.some.injEq] at h1 h2
  omega),((Below.refl _ _).alloc (Nat.le_refl _) _).alloc (by simp) _,qgz,HF.out,by simp⟩
 case round =>
  obtain ⟨A,A',c,c',k,⟨sv,sm,slo,shi⟩,outs,K,hk,rfl,rfl,rfl,hown,hownK,hdj,hbel,HK,HR,hle⟩:=hrel
  replace HK:=Lh HK
  replace HR:=Lh HR
  by_cases hlt:k<t.size
  ·have HD:Hid ((qB t).drop k=(t[k]'hlt).toNat::(qB t).drop (k+1)):=Lh (by rw [List.drop_eq_getElem_cons (by rw [HN.out];exact hlt),qdL t k hlt];congr 2;exact getElem!_pos t.data k hlt)
   have hbl:(t[k]'hlt).toNat<256:=UInt8.toNat_lt _
   go_upto_region 7 with fail
   generalize (t[k]'hlt).toNat=b at *
   have zb:=hbel.size
   have hne1:=qa8 hown
   have hne2:=qa8 hownK
   rcases Nat.eq_zero_or_pos sm with hm | hm
   ·have hKn:K=[]:=by
     rcases HK.out with ⟨_,h⟩ | ⟨h,_⟩
     ·exact h
     ·have:sm=0:=hm
      exact absurd h (by show ¬ 0<sm;omega)
    subst hKn
    subst hm
    rw [List.length_nil] at hownK hdj hle
    have HL1:Hid (∀ w:World,Calls prog 158 #[.slice (some ⟨w.heap.size,0,none⟩) 1 1] (w.alloc (.cells #[.int .u8 (b:Int)] 5)) (Same (limV (limU [b])) (w.alloc (.cells #[.int .u8 (b:Int)] 5)))):=Lh fun w=>qcZ b [] hbl _ 1 1 (w.heap.size+1) _ rfl (by omega) (qe (xs:=byV [b]) rfl rfl)
    obtain ⟨z,hz0,hz1,HL2⟩ : ∃ z:Nat,((zt b).m=0->z=0)/\((zt b).m≠0->0<z)/\limU [b]=((zt b).lo,(zt b).hi,z):=by
     refine ⟨if (zt b).m=0 then 0 else (zt b).m+1,fun h=>by rw [if_pos h],fun h=>by rw [if_neg h];omega,rfl⟩
    rw [HL2] at HL1
    simp only [limV] at HL1
    by_cases h128:b<128
    ·have hm0:(zt b).m=0:=qgy (by omega)
     have HS:=Lh (run_asc HR.out HD.out rfl h128)
     have HKu:Hid (KeptU [] (zt b)):=Lh (.inl ⟨hm0,rfl⟩)
     clear hz0 hz1 hm0 HK HR HD HL2
     generalize zt b=Z at *
     go_wp2_with (first
      | (go_at_call 158;refine (HL1.out _).mono ?_;rintro e w3 ⟨rfl,rfl⟩)
      | (at_builtin;go_must (refine qg rfl _ _ _ rfl qdd (w.heap.size) _ rfl (((hown.alloc _).alloc _)) _ _ rfl ((qe (by first | rfl | (simp;done)) rfl)) (by first | rfl | exact yw _ | exact yu _) (by omega) (by omega) (by first | (simp;done) | (simp;omega) | omega) ?_);intro A4 c4 w4 hown4 hbel4 hgr4 hat4;have z4:=hbel4.size;(try simp only [World.size_alloc] at z4);(try simp only [Nat.zero_add,List.nil_append] at hown4)))
     exact ⟨⟨A4,A',c4,c',k+1,Z,outs++[b],[],by omega,by go_num,by rw [List.length_append];rfl,rfl,qca hown4 rfl,((hownK.alloc _).alloc _).kept hgr4 hdj.symm.ne,(by rw [qdv A4 _ (outs.length+1) c4];exact (Dj.new hdj.symm hat4 (qa8 ((hownK.alloc _).alloc _))).symm),((hbel.alloc zb _).alloc (by simp;omega) _).trans hbel4,HKu.out,HS.out,by rw [List.length_append,List.length_singleton];simp;omega⟩,by simp [intOf,lenV];omega⟩
    ·by_cases hz:(zt b).m=0
     ·have HS:=Lh (run_bad HR.out HD.out rfl h128 hz)
      have HKu:Hid (KeptU [] (zt b)):=Lh (.inl ⟨hz,rfl⟩)
      obtain rfl:=hz0 hz
      clear hz0 hz1 hz HK HR HD HL2
      generalize zt b=Z at *
      go_wp2_with (first
       | (go_at_call 158;refine (HL1.out _).mono ?_;rintro e w3 ⟨rfl,rfl⟩)
       | (at_builtin;go_must (refine qg rfl _ _ _ rfl qdd (w.heap.size) _ rfl (((hown.alloc _).alloc _)) _ _ rfl ((qe (by first | rfl | (simp;done)) rfl)) (by first | rfl | exact yw _ | exact yu _) (by omega) (by omega) (by first | (simp;done) | (simp;omega) | omega) ?_);intro A4 c4 w4 hown4 hbel4 hgr4 hat4;have z4:=hbel4.size;(try simp only [World.size_alloc] at z4);(try simp only [Nat.zero_add,List.nil_append] at hown4)))
      exact ⟨⟨A4,A',c4,c',k+1,Z,outs++[65533],[],by omega,by go_num,by rw [List.length_append];rfl,rfl,qca hown4 rfl,((hownK.alloc _).alloc _).kept hgr4 hdj.symm.ne,(by rw [qdv A4 _ (outs.length+1) c4];exact (Dj.new hdj.symm hat4 (qa8 ((hownK.alloc _).alloc _))).symm),((hbel.alloc zb _).alloc (by simp;omega) _).trans hbel4,HKu.out,HS.out,by rw [List.length_append,List.length_singleton];simp;omega⟩,by simp [intOf,lenV];omega⟩
     ·have HS:=Lh (run_lead HR.out HD.out rfl h128 hz)
      have HKu:Hid (KeptU [b] (zt b)):=Lh (KeptU.beg hbl hz)
      have hzp:=hz1 hz
      clear hz0 hz1 hz HK HR HD HL2
      generalize zt b=Z at *
      go_wp2_with (first
       | (go_at_call 158;refine (HL1.out _).mono ?_;rintro e w3 ⟨rfl,rfl⟩)
       | (at_builtin;go_must (refine qg rfl _ _ _ rfl qba (w.heap.size) _ rfl (((hownK.alloc _).alloc _)) _ _ rfl ((qe (by first | rfl | (simp;done)) rfl)) (by first | rfl | exact yw _ | exact yu _) (by omega) (by omega) (by first | (simp;done) | (simp;omega) | omega) ?_);intro A4 c4 w4 hown4 hbel4 hgr4 hat4;have z4:=hbel4.size;(try simp only [World.size_alloc] at z4);(try simp only [Nat.zero_add,List.nil_append] at hown4)))
      exact ⟨⟨A,A4,c,c4,k+1,Z,outs,[b],by omega,by go_num,rfl,rfl,((hown.alloc _).alloc _).kept hgr4 hdj.ne,hown4,Dj.new hdj hat4 (qa8 ((hown.alloc _).alloc _)),((hbel.alloc zb _).alloc (by simp;omega) _).trans hbel4,HKu.out,HS.out,by simp;omega⟩,by simp [intOf,lenV];omega⟩
   ·have hm':0<sm:=hm
    have HLim:=Lh (HK.out.lim hm)
    obtain ⟨b0,rest,hK,hb0⟩ : ∃ b0 rest,K=b0::rest/\b0<256:=by
     rcases HK.out with ⟨h,_⟩ | ⟨_,b0,rest,h1,h2,_⟩
     ·have:sm=0:=h
      omega
     ·exact ⟨b0,rest,h1,h2⟩
    have hKl:0<K.length:=by rw [hK];simp
    have HL1:Hid (∀ (w:World) (B:Nat) (A:Option Addr) (c:Nat),Rd w B 1 A K.length (byV K)->Calls prog 158 #[.slice A K.length c] w (Same (limV (slo,shi,K.length+sm)) w)):=Lh fun w B A c rd=>by
     have h:=HLim.out
     have h2:=qcZ b0 rest hb0 A K.length c B w (by rw [hK];rfl) (by omega) (by rw [<- hK];exact rd)
     rw [<- hK,h] at h2
     exact h2
    simp only [limV] at HL1
    clear HLim hK
    by_cases hin:slo<=b/\b<=shi
    ·have HKs:Hid (1<sm->KeptU (K++[b]) ⟨sv * 64+b % 64,sm-1,0x80,0xBF⟩):=Lh fun h=>HK.out.snoc h hin.1 hin.2
     have HKw:Hid (sm=1->_):=Lh fun (h:sm=1)=>HK.out.whole h hin.1 hin.2
     have HRn:Hid (sm≠1->zJ ((qB t).drop (k+1)) (⟨sv * 64+b % 64,sm-1,128,191⟩,outs)=F):=Lh fun h=>run_on HR.out HD.out hm' hin.1 hin.2 h
     have HRl:Hid (sm=1->zJ ((qB t).drop (k+1)) (⟨sv * 64+b % 64,0,128,191⟩,outs++[sv * 64+b % 64])=F):=Lh fun h=>by
      subst h
      exact run_last HR.out HD.out hin.1 hin.2
     obtain ⟨hi1,hi2⟩:=hin
     by_cases h1:sm=1
     ·have HS:=Lh (HRl.out h1)
      have HVal:Hid (∀ (A:Option Addr) (c B:Nat) (w:World),Rd w B 1 A (K++[b]).length (byV (K++[b]))->Calls prog 159 #[.slice A (K.length+1) c] w (Same (.int .i32 ((sv * 64+b % 64:Nat):Int)) w)):=Lh fun A c B w rd=>by
       obtain ⟨hv,b1,rest1,e1,hb1,hm1,hp1,hx1⟩:=HKw.out h1
       have hl1:rest1.length+1=(K++[b]).length:=by rw [e1];rfl
       rw [e1] at rd hv
       have h:=value_ b1 rest1 hb1 hm1 hp1 hx1 A (rest1.length+1) c B w rfl (by rw [show (b1::rest1).length=rest1.length+1 from rfl] at rd;exact rd)
       rw [hl1,List.length_append,List.length_singleton] at h
       rw [hv] at h
       exact h
      subst h1
      clear HRn HRl HKw HKs HK HR HD
      have zz:(((K.length:Int)+1)==((K.length+1:Nat):Int))=true:=beq_iff_eq.2 (by omega)
      go_upto_region 22 with (first
       | (go_at_call 158;refine (HL1.out _ _ _ _ (Rd.of_own hownK)).mono ?_;rintro e w3 ⟨rfl,rfl⟩)
       | (at_builtin;go_must (refine qg rfl _ _ _ rfl qba (w.heap.size) _ rfl ((hownK.alloc _)) _ _ rfl ((qe (by first | rfl | (simp;done)) rfl)) (by first | rfl | exact yw _ | exact yu _) (by omega) (by omega) (by first | (simp;done) | (simp;omega) | omega) ?_);intro A4 c4 w4 hown4 hbel4 hgr4 hat4;have z4:=hbel4.size;(try simp only [World.size_alloc] at z4);(try simp only [Nat.zero_add,List.nil_append] at hown4)))
      have HO:=(hown.alloc (Obj.cells #[Value.int IntKind.u8 (b:Int)] 5)).kept hgr4 hdj.ne
      have HB4:=(hbel.alloc zb (Obj.cells #[Value.int IntKind.u8 (b:Int)] 5)).trans hbel4
      have HV4:=Lh (HVal.out A4 c4 _ w4 (Rd.of_own (qeS hown4 rfl)))
      have zw:=HB4.size
      clear hgr4 hat4 hbel4 hown4 hown hownK hdj HVal HL1
      generalize sv * 64+b % 64=X at *
      go_wp2_with (first
       | (go_at_call 159;refine HV4.out.mono ?_;rintro e w6 ⟨rfl,rfl⟩)
       | (at_builtin;go_must (refine qg rfl _ _ _ rfl qdd (w.heap.size) _ rfl ((HO.alloc _)) _ _ rfl ((qe (by first | rfl | (simp;done)) rfl)) (by first | rfl | exact yw _ | exact yu _) (by omega) (by omega) (by first | (simp;done) | (simp;omega) | omega) ?_);intro A5 c5 w5 hown5 hbel5 hgr5 hat5;have z5:=hbel5.size;(try simp only [World.size_alloc] at z5);(try simp only [Nat.zero_add,List.nil_append] at hown5)))
      exact ⟨⟨A5,_,c5,_,k+1,⟨X,0,128,191⟩,outs++[X],[],by omega,by go_num,by rw [List.length_append];rfl,rfl,(qca hown5 rfl).alloc _,qx (xs:=[]) rfl rfl (by omega) (Nat.zero_le _),by
       rw [qdv A5 _ (outs.length+1) c5]
       intro q q1 q2
       have:=qa8 hown5 q q1
       simp only [Value.ownBlock,Option.some.injEq] at q2
       omega,((HB4.alloc zw _).trans hbel5).alloc (by omega) _,.inl ⟨rfl,rfl⟩,HS.out,by rw [List.length_append,List.length_singleton];simp;omega⟩,by simp [intOf,lenV];omega⟩
     ·have HS:=Lh (HRn.out h1)
      have HKu:=Lh (HKs.out (by omega))
      clear HRn HRl HKw HKs HK HR HD
      have zz:(((K.length:Int)+1)==((K.length+sm:Nat):Int))=false:=beq_eq_false_iff_ne.2 (by omega)
      go_wp2_with (first
       | (go_at_call 158;refine (HL1.out _ _ _ _ (Rd.of_own hownK)).mono ?_;rintro e w3 ⟨rfl,rfl⟩)
       | (at_builtin;go_must (refine qg rfl _ _ _ rfl qba (w.heap.size) _ rfl ((hownK.alloc _)) _ _ rfl ((qe (by first | rfl | (simp;done)) rfl)) (by first | rfl | exact yw _ | exact yu _) (by omega) (by omega) (by first | (simp;done) | (simp;omega) | omega) ?_);intro A4 c4 w4 hown4 hbel4 hgr4 hat4;have z4:=hbel4.size;(try simp only [World.size_alloc] at z4);(try simp only [Nat.zero_add,List.nil_append] at hown4)))
      exact ⟨⟨A,A4,c,c4,k+1,⟨sv * 64+b % 64,sm-1,128,191⟩,outs,K++[b],by omega,by go_num,rfl,by rw [List.length_append];rfl,(hown.alloc _).kept hgr4 hdj.ne,qeS hown4 rfl,by rw [qdv A4 _ (K.length+1) c4];exact Dj.new hdj hat4 (qa8 (hown.alloc _)),(hbel.alloc zb _).trans hbel4,HKu.out,HS.out,by rw [List.length_append,List.length_singleton];omega⟩,by simp [intOf,lenV];omega⟩
    ·have HS:=Lh (run_back HR.out HD.out hm' hin)
     clear HK HR HD
     have hin2 : ¬ slo<=b∨(slo<=b/\¬ b<=shi):=by omega
     clear hin
     rcases hin2 with hin | ⟨hin,hin2⟩ <;>
     ·go_wp2_with (first
       | (go_at_call 158;refine (HL1.out _ _ _ _ (Rd.of_own hownK)).mono ?_;rintro e w3 ⟨rfl,rfl⟩)
       | (at_builtin;go_must (refine qg rfl _ _ _ rfl qdd (w.heap.size) _ rfl ((hown.alloc _)) _ _ rfl ((qe (by first | rfl | (simp;done)) rfl)) (by first | rfl | exact yw _ | exact yu _) (by omega) (by omega) (by first | (simp;done) | (simp;omega) | omega) ?_);intro A4 c4 w4 hown4 hbel4 hgr4 hat4;have z4:=hbel4.size;(try simp only [World.size_alloc] at z4);(try simp only [Nat.zero_add,List.nil_append] at hown4)))
      exact ⟨⟨A4,_,c4,_,k,u0,outs++[65533],[],by omega,rfl,by rw [List.length_append];rfl,rfl,(qca hown4 rfl).alloc _,qx (xs:=[]) rfl rfl (by have:=hbel4.size;simp at this;omega) (Nat.zero_le _),by
       rw [qdv A4 _ (outs.length+1) c4]
       intro q q1 q2
       have:=qa8 hown4 q q1
       simp only [Value.ownBlock,Option.some.injEq] at q2
       omega,((hbel.alloc zb _).trans hbel4).alloc (by have:=hbel4.size;simp at this;omega) _,qgz,HS.out,by rw [List.length_append,List.length_singleton];simp;omega⟩,by simp [intOf,lenV];omega⟩
  ·obtain rfl:k=t.size:=by omega
   have HF2:Hid (F=(⟨sv,sm,slo,shi⟩,outs)):=Lh (by rw [<- HR.out,List.drop_of_length_le (by rw [HN.out];exact Nat.le_refl _)];rfl)
   have HCv : ∀ m,(convert 192 9 (.slice A' K.length c')).run prog (wr.drewN m) = .ok (.string ⟨(K.map fun b=>UInt8.ofNat b).toArray⟩) (wr.drewN m):=fun m=>qgA (Rd.keep (Rd.of_own hownK) fun _ _=>rfl) rfl HK.out.lt_
   have HCd:(convert 192 9 (.slice A' K.length c')).run prog wr.drew = .ok (.string ⟨(K.map fun b=>UInt8.ofNat b).toArray⟩) wr.drew:=HCv 1
   have HNil:Hid ((⟨(K.map fun b=>UInt8.ofNat b).toArray⟩:ByteArray)=⟨#[]⟩↔F.1.m=0):=Lh (by
    rw [HF2.out,<- HK.out.nil_iff]
    constructor
    ·intro h
     have:=congrArg (fun x:ByteArray=>x.data.size) h
     simpa using this
    ·rintro rfl;rfl)
   have HO:=Lh hown
   have e1:F.2=outs:=by rw [HF2.out]
   clear HF2 HR HK
   generalize (⟨(K.map fun b=>UInt8.ofNat b).toArray⟩:ByteArray)=REST at *
   go_wp2
   go_quiet (fail)
   go_wp2
   go_ret2
   rw [e1]
   exact ⟨A,c,REST,rfl,qb HO.out (qf (Below.refl _ _)),qf hbel,HNil.out⟩
end Go.Proofs.YticbpkghcglgkaaGreatDoor
namespace Go.Proofs.YticbpkghcglgkaaGreatDoor
open Go.Proofs.Tryz Go.RowKit
set_option maxRecDepth 100000
theorem qjC {rs:List Nat} {k:Nat} (h:k<rs.length):zm (rs.take (k+1))=zm (rs.take k)++vQ rs[k]:=by
 have e:rs.take (k+1)=rs.take k++[rs[k]]:=(List.take_append_getElem h).symm
 rw [zm,zm,e,List.flatMap_append]
 simp only [List.flatMap_cons,List.flatMap_nil,List.append_nil]
theorem qa5 {w:World} {base c n:Nat} {A:Option Addr} {e:TypeId} {outs l:List Nat} {vs:List Value} (h:w.ownsRow base e 1 (.slice A n c) n (byV outs++vs)) (hv:byV l=vs) (hn:n=(outs++l).length) :
  w.ownsRow base e 1 (.slice A (outs++l).length c) (outs++l).length (byV (outs++l)):=by
 subst hv hn
 rw [qh9]
 exact h
theorem rencode (rs:List Nat) (hr : ∀ r∈rs,qR r) (A:Option Addr) (n c B:Nat) (w:World) (hn:rs.length=n) (hb:n<=4000000000) (rd:Rd w B 1 A n (chV rs)) (hB:B<=w.heap.size) :
  Calls prog 137 #[.slice A n c] w (qh (.string (yI rs)) w):=by
 have HN:=Lh hn
 have HC:Hid (∀ k (h:k<rs.length),qR rs[k]):=Lh fun k h=>hr _ (List.getElem_mem h)
 have HT:Hid (∀ k (h:k<rs.length),zm (rs.take (k+1))=zm (rs.take k)++vQ rs[k]):=Lh fun k h=>qjC h
 have HL:Hid (∀ k,(zm (rs.take k)).length<=4 * k):=Lh fun k=>by
  have:=qf8 (rs.take k)
  rw [List.length_take] at this
  omega
 have HE:Hid (∀ A c w,Rd w w.heap.size 1 A (zm rs).length (byV (zm rs))->(convert 192 9 (.slice A (zm rs).length c)).run prog w = .ok (.string (yI rs)) w):=Lh fun A c w rd=>qgA rd rfl (qfl hr)
 generalize yI rs=R at *
 clear hn
 go_enter func137,ntmps137
 go_wp2
 go_loopw [3,4] (fun v x wr=>∃ (A':Option Addr) (c' k:Nat),k<=n/\x = .int .i64 k/\v = .slice A' (zm (rs.take k)).length c'/\wr.ownsRow w.heap.size 5 1 (.slice A' (zm (rs.take k)).length c') (zm (rs.take k)).length (byV (zm (rs.take k)))/\Below w.heap.size w wr) (fun _ x _=>n-(intOf x).toNat)
 case atStart=>exact ⟨_,_,0,Nat.zero_le _,rfl,rfl,qx (xs:=[]) rfl rfl (Nat.le_refl _) (Nat.zero_le _),(Below.refl _ _).alloc (Nat.le_refl _) _⟩
 case round =>
  obtain ⟨A',c',k,hk,rfl,rfl,hown,hbel⟩:=hrel
  by_cases hlt:k<n
  ·have hkl:k<rs.length:=by have:=HN.out;omega
   obtain ⟨b,o,rfl,hbB,hc⟩:=(rd.keep (w':=wr) fun p hp=>hbel.cell (by omega)).at_ hlt
   rw [qft _ _ hkl] at hc
   have hch:=HC.out k hkl
   have HTk:=Lh (HT.out k hkl)
   have hlk:=HL.out k
   have zb:=hbel.size
   generalize rs[k]=r at *
   generalize zm (rs.take k)=E at *
   unfold qR at hch
   by_cases h1:r<128
   ·have HEn:Hid (vQ r=[r]):=Lh (by rw [vQ,if_pos h1])
    go_wp2_with (at_builtin;go_must (refine qg rfl _ _ _ rfl qba (w.heap.size) _ rfl ((hown.alloc _)) _ _ rfl ((qe (by first | rfl | (simp;done)) rfl)) (by first | rfl | exact yw _ | exact yu _) (by omega) (by omega) (by first | (simp;done) | (simp;omega) | omega) ?_);intro A4 c4 w4 hown4 hbel4 hgr4 hat4;have z4:=hbel4.size;(try simp only [World.size_alloc] at z4);(try simp only [Nat.zero_add,List.nil_append] at hown4))
    exact ⟨⟨A4,c4,k+1,by omega,by go_num,by rw [HTk.out,HEn.out,List.length_append];rfl,by rw [HTk.out];exact qa5 hown4 (by rw [HEn.out];simp [byV]) (by rw [HEn.out];simp),(hbel.alloc zb _).trans hbel4⟩,by simp [intOf];omega⟩
   ·by_cases h2:r<2048
    ·have HEn:Hid (vQ r=[0xC0+r / 64,0x80+r % 64]):=Lh (by rw [vQ,if_neg h1,if_pos h2])
     go_wp2_with (at_builtin;go_must (refine qg rfl _ _ _ rfl qba (w.heap.size) _ rfl ((hown.alloc _)) _ _ rfl ((qe (by first | rfl | (simp;done)) rfl)) (by first | rfl | exact yw _ | exact yu _) (by omega) (by omega) (by first | (simp;done) | (simp;omega) | omega) ?_);intro A4 c4 w4 hown4 hbel4 hgr4 hat4;have z4:=hbel4.size;(try simp only [World.size_alloc] at z4);(try simp only [Nat.zero_add,List.nil_append] at hown4))
     exact ⟨⟨A4,c4,k+1,by omega,by go_num,by rw [HTk.out,HEn.out,List.length_append];rfl,by rw [HTk.out];exact qa5 hown4 (by rw [HEn.out];simp [byV]) (by rw [HEn.out];simp),(hbel.alloc zb _).trans hbel4⟩,by simp [intOf];omega⟩
    ·by_cases h3:r<65536
     ·have HEn:Hid (vQ r=[0xE0+r / 4096,0x80+r / 64 % 64,0x80+r % 64]):=Lh (by rw [vQ,if_neg h1,if_neg h2,if_pos h3])
      obtain ⟨z,hz⟩ : ∃ z:Int,z=(r:Int):=⟨_,rfl⟩
      rw [<- hz] at hc
      have z1:2048<=z:=by omega
      have z2:z<65536:=by omega
      have z3:z<55296∨(55296<=z/\¬ z<=57343):=by omega
      have HZ:=Lh hz
      clear hz h1 h2 h3
      clear hch
      rcases z3 with z3 | ⟨z3,z4⟩
      ·skip
       go_wp2_with (at_builtin;go_must (refine qg rfl _ _ _ rfl qba (w.heap.size) _ rfl ((hown.alloc _)) _ _ rfl ((qe (by first | rfl | (simp;done)) rfl)) (by first | rfl | exact yw _ | exact yu _) (by omega) (by omega) (by first | (simp;done) | (simp;omega) | omega) ?_);intro A4 c4 w4 hown4 hbel4 hgr4 hat4;have z4:=hbel4.size;(try simp only [World.size_alloc] at z4);(try simp only [Nat.zero_add,List.nil_append] at hown4))
       exact ⟨⟨A4,c4,k+1,by omega,by go_num,by rw [HTk.out,HEn.out,List.length_append];rfl,by rw [HTk.out];exact qa5 hown4 (by rw [HEn.out,HZ.out];simp [byV]) (by rw [HEn.out];simp),(hbel.alloc zb _).trans hbel4⟩,by simp [intOf];omega⟩
      ·skip
       go_wp2_with (at_builtin;go_must (refine qg rfl _ _ _ rfl qba (w.heap.size) _ rfl ((hown.alloc _)) _ _ rfl ((qe (by first | rfl | (simp;done)) rfl)) (by first | rfl | exact yw _ | exact yu _) (by omega) (by omega) (by first | (simp;done) | (simp;omega) | omega) ?_);intro A4 c4 w4 hown4 hbel4 hgr4 hat4;have z4:=hbel4.size;(try simp only [World.size_alloc] at z4);(try simp only [Nat.zero_add,List.nil_append] at hown4))
       exact ⟨⟨A4,c4,k+1,by omega,by go_num,by rw [HTk.out,HEn.out,List.length_append];rfl,by rw [HTk.out];exact qa5 hown4 (by rw [HEn.out,HZ.out];simp [byV]) (by rw [HEn.out];simp),(hbel.alloc zb _).trans hbel4⟩,by simp [intOf];omega⟩
     ·have HEn:Hid (vQ r=[0xF0+r / 262144,0x80+r / 4096 % 64,0x80+r / 64 % 64,0x80+r % 64]):=Lh (by rw [vQ,if_neg h1,if_neg h2,if_neg h3])
      obtain ⟨z,hz⟩ : ∃ z:Int,z=(r:Int):=⟨_,rfl⟩
      rw [<- hz] at hc
      have z1:2048<=z:=by omega
      have z2:65536<=z:=by omega
      have z3:z<=1114111:=by omega
      have HZ:=Lh hz
      clear hz h1 h2 h3
      clear hch
      go_wp2_with (at_builtin;go_must (refine qg rfl _ _ _ rfl qba (w.heap.size) _ rfl ((hown.alloc _)) _ _ rfl ((qe (by first | rfl | (simp;done)) rfl)) (by first | rfl | exact yw _ | exact yu _) (by omega) (by omega) (by first | (simp;done) | (simp;omega) | omega) ?_);intro A4 c4 w4 hown4 hbel4 hgr4 hat4;have z4:=hbel4.size;(try simp only [World.size_alloc] at z4);(try simp only [Nat.zero_add,List.nil_append] at hown4))
      exact ⟨⟨A4,c4,k+1,by omega,by go_num,by rw [HTk.out,HEn.out,List.length_append];rfl,by rw [HTk.out];exact qa5 hown4 (by rw [HEn.out,HZ.out];simp [byV]) (by rw [HEn.out];simp),(hbel.alloc zb _).trans hbel4⟩,by simp [intOf];omega⟩
  ·obtain rfl:k=n:=by omega
   have ht:rs.take k=rs:=List.take_of_length_le (by have:=HN.out;omega)
   rw [ht] at hown
   have hl:(zm (rs.take k)).length=(zm rs).length:=by rw [ht]
   have hcv:=HE.out _ c' wr (Rd.of_own hown)
   rw [ht]
   clear hl HL HT HC HE
   generalize (zm rs).length=m at *
   clear ht
   go_wp2
   go_ret
   exact ⟨rfl,hbel⟩
end Go.Proofs.YticbpkghcglgkaaGreatDoor
namespace Go.Proofs.YticbpkghcglgkaaGreatDoor
open Go.Proofs.Tryz Go.RowKit
def qaN (t:List (Int × Int)):List Value:=t.flatMap fun p=>[.int .i32 p.1,.int .i32 p.2]
theorem qgv : ∀ (t:List (Int × Int)) (i:Nat) (h:i<t.length),(qaN t)[i * 2]? = some (.int .i32 t[i].1)/\(qaN t)[i * 2+1]? = some (.int .i32 t[i].2)
 | [],i,h=>by cases h
 | p::t,0,_=>⟨rfl,rfl⟩
 | p::t,i+1,h=>by
  have e:qaN (p::t) = .int .i32 p.1::.int .i32 p.2::qaN t:=by simp [qaN]
  obtain ⟨h1,h2⟩:=qgv t i (by simpa using h)
  rw [e]
  refine ⟨?_,?_⟩
  ·rw [show (i+1) * 2=i * 2+1+1 by omega,Lc,Lc]
   exact h1
  ·rw [show (i+1) * 2+1=i * 2+1+1+1 by omega,Lc,Lc]
   exact h2
theorem qhj {w:World} {B n:Nat} {A:Option Addr} {t:List (Int × Int)} (rd:Rd w B 2 A n (qaN t)) {i:Nat} (hi:i<t.length) (hn:t.length=n) :
  ∃ b o,A=some ⟨b,o,none⟩/\w.cell? ⟨b,o+i * 2,none⟩=some (.int .i32 t[i].1)/\w.cell? ⟨b,o+i * 2+1,none⟩=some (.int .i32 t[i].2):=by
 obtain ⟨b,o,e,_,hc⟩:=rd.2 (by omega)
 obtain ⟨h1,h2⟩:=qgv t i hi
 exact ⟨b,o,e,hc _ _ h1,hc _ _ h2⟩
theorem found (t:List (Int × Int)) (ha:qbT t) (hu : ∀ p∈t,p.1<=p.2) (r:Int) (g n c B:Nat) (A:Option Addr) (w:World) (hn:t.length=n) (hb:n<=1000) (hbox:w.cell? ⟨g,0,none⟩=some (.slice A n c)) (rd:Rd w B 2 A n (qaN t)) :
  Calls prog 167 #[.int .i32 r,.pointer (some ⟨g,0,none⟩)] w (Quiet (.bool (inT t r)) w):=by
 have HF:Hid (∀ k,(∀ j (h:j<t.length),j<k->t[j].2<r)->(∀ j (h:j<t.length),k<=j->r<=t[j].2)->k<=t.length->inT t r=if h:k<t.length then decide (t[k].1<=r) else false):=Lh fun k h1 h2 h3=>qiP ha h1 h2 h3
 have HN:=Lh hn
 have HM:Hid (∀ i j (hi:i<t.length) (hj:j<t.length),i<=j->t[i].2<=t[j].2):=Lh fun i j hi hj h=>tab_mono ha hu h hj
 generalize inT t r=R at *
 clear ha hu hn
 go_enter func167,ntmps167
 go_wp2
 go_quiet (fail)
 go_wp2
 go_loopw [4,5] (fun x y wr=>∃ a b j:Nat,a<=b/\b<=n/\x = .int .i64 a/\y = .int .i64 b/\wr=w.drewN j/\Hid (∀ j (h:j<t.length),j<a->t[j].2<r)/\Hid (∀ j (h:j<t.length),b<=j->r<=t[j].2)) (fun x y _=>(intOf y).toNat-(intOf x).toNat)
 case atStart=>exact ⟨0,n,_,Nat.zero_le _,Nat.le_refl _,rfl,rfl,rfl,Lh fun j h h2=>absurd h2 (Nat.not_lt_zero j),Lh fun j h h2=>absurd h2 (by have:=HN.out;omega)⟩
 case round =>
  obtain ⟨a,b,j,hab,hbn,rfl,rfl,rfl,HA,HB⟩:=hrel
  by_cases hlt:a<b
  ·have e1:IntKind.i64.wrap ((a:Int)+(b:Int))=(a:Int)+(b:Int):=IntWalk.i64_in _ (by omega)
   have e2:((a:Int)+(b:Int)).tdiv 2=(((a+b) / 2:Nat):Int):=by
    rw [show (a:Int)+(b:Int)=((a+b:Nat):Int) by omega,Int.tdiv_eq_ediv_of_nonneg (by omega)]
    rfl
   have hm1:a<=(a+b) / 2:=by omega
   have hm2:(a+b) / 2<b:=by omega
   generalize (a+b) / 2=m at *
   have hml:m<t.length:=by have:=HN.out;omega
   obtain ⟨bb,oo,rfl,c1,c2⟩:=qhj rd hml HN.out
   have e3:IntKind.i64.wrap (m:Int)=(m:Int):=IntWalk.i64_in _ (by omega)
   by_cases hr:t[m].2<r
   ·have HA2:Hid (∀ j (h:j<t.length),j<m+1->t[j].2<r):=Lh fun j h h2=>by
     have:=HM.out j m h hml (by omega)
     omega
    generalize t[m].2=z at *
    clear c1
    go_wp2
    exact ⟨⟨m+1,b,_,by omega,hbn,by go_num,rfl,rfl,HA2,HB⟩,by simp [intOf];omega⟩
   ·have HB2:Hid (∀ j (h:j<t.length),m<=j->r<=t[j].2):=Lh fun j h h2=>by
     have:=HM.out m j hml h h2
     omega
    generalize t[m].2=z at *
    clear c1
    go_wp2
    exact ⟨⟨a,m,_,hm1,by omega,rfl,by go_num,rfl,HA,HB2⟩,by simp [intOf];omega⟩
  ·obtain rfl:a=b:=by omega
   have HR:=Lh (HF.out a HA.out HB.out (by have:=HN.out;omega))
   by_cases hal:a<n
   ·have hal':a<t.length:=by have:=HN.out;omega
    obtain ⟨bb,oo,rfl,c1,c2⟩:=qhj rd hal' HN.out
    have HR2:Hid (R=decide (t[a].1<=r)):=Lh (by rw [HR.out,dif_pos hal'])
    generalize t[a].1=z at *
    clear c2 HR
    go_wp2
    go_ret
    exact ⟨by rw [HR2.out];rfl,_,rfl⟩
   ·have HR2:Hid (R=false):=Lh (by rw [HR.out,dif_neg (by have:=HN.out;omega)])
    clear HR
    go_wp2
    go_ret
    exact ⟨by rw [HR2.out];rfl,_,rfl⟩
end Go.Proofs.YticbpkghcglgkaaGreatDoor
namespace Go.Proofs.YticbpkghcglgkaaGreatDoor
open Go.Proofs.Tryz Go.RowKit
theorem marks_ (w:World):Calls prog 166 #[] w (ql 215 2 id w 7 (qaN qM)):=by
 go_enter func166,ntmps166
 go_wp2
 go_ret
 exact ⟨_,_,rfl,qx (xs:=qaN qM) rfl rfl (Nat.le_refl _) (by omega),(Below.refl _ _).alloc (Nat.le_refl _) _⟩
theorem wide_ (w:World):Calls prog 146 #[] w (ql 215 2 id w 14 (qaN y8)):=by
 go_enter func146,ntmps146
 go_wp2
 go_ret
 exact ⟨_,_,rfl,qx (xs:=qaN y8) rfl rfl (Nat.le_refl _) (by omega),(Below.refl _ _).alloc (Nat.le_refl _) _⟩
theorem qiz (A:Option Addr) (n c:Nat) (w:World):Calls prog 145 #[.slice A n c] w fun e w'=>e = .returned (.func (.func 167) #[] #[.pointer (some ⟨w.heap.size,0,none⟩)])/\w.alloc (.cells #[.slice A n c] 190)=w':=by
 go_enter func145,ntmps145
 go_wp2
 go_ret
 exact ⟨rfl,rfl⟩
theorem mark_ (r:Int) (w:World):Calls prog 144 #[.int .i32 r] w (qh (.bool (inT qM r)) w):=by
 have HF:Hid (∀ g c B A w,w.cell? ⟨g,0,none⟩=some (.slice A 7 c)->Rd w B 2 A 7 (qaN qM)->Calls prog 167 #[.int .i32 r,.pointer (some ⟨g,0,none⟩)] w (Quiet (.bool (inT qM r)) w)):=Lh fun g c B A w h1 h2=>found qM qhz mark_up r g 7 c B A w rfl (by omega) h1 h2
 generalize inT qM r=R at *
 go_enter func144,ntmps144
 go_wp2_with (first
  | (go_at_call 166;refine (marks_ _).mono ?_;rintro e w1 ⟨A1,c1,rfl,hown1,hbel1⟩)
  | (go_at_call 145;refine (qiz _ _ _ _).mono ?_;rintro e w2 ⟨rfl,rfl⟩)
  | (go_at_call 167;go_loud (refine (HF.out w1.heap.size c1 _ A1 _ (qu w1 #[.slice A1 7 c1] _ 0) (Rd.of_own (qb hown1 ((Below.refl _ _).alloc (Nat.le_refl _) _)))).mono ?_);rintro e w3 ⟨rfl,q3,rfl⟩))
 go_ret
 exact ⟨rfl,qf (hbel1.alloc hbel1.size _)⟩
end Go.Proofs.YticbpkghcglgkaaGreatDoor
namespace Go.Proofs.YticbpkghcglgkaaGreatDoor
open Go.Proofs.Tryz Go.RowKit
theorem qgk {r:Int} (h:r<32∨(127<=r/\r<=159)):zR r = -1:=if_pos h
theorem qew {r:Int} (h : ¬ (r<32∨(127<=r/\r<=159))) (hm:inT qM r=true):zR r=0:=by unfold zR;rw [if_neg h,if_pos hm]
theorem qen {r:Int} (h : ¬ (r<32∨(127<=r/\r<=159))) (hm:inT qM r=false):zR r=if inT y8 r=true then 2 else 1:=by unfold zR;rw [if_neg h,if_neg (by simp [hm])]
theorem qgZ (r:Int) (w:World):Calls prog 126 #[.int .i32 r] w (qh (.int .i64 (zR r)) w):=by
 have HF:Hid (∀ g c B A w,w.cell? ⟨g,0,none⟩=some (.slice A 14 c)->Rd w B 2 A 14 (qaN y8)->Calls prog 167 #[.int .i32 r,.pointer (some ⟨g,0,none⟩)] w (Quiet (.bool (inT y8 r)) w)):=Lh fun g c B A w h1 h2=>found y8 qhf wide_up r g 14 c B A w rfl (by omega) h1 h2
 have HM:=Lh (mark_ r)
 have H0:=Lh (@qgk r)
 have H1:=Lh (@qew r)
 have H2:=Lh (@qen r)
 generalize zR r=W at *
 by_cases hc:r<32∨(127<=r/\r<=159)
 ·have HW:Hid (W = -1):=Lh (H0.out hc)
  clear H0 H1 H2 HM HF
  rcases hc with hc | ⟨hc1,hc2⟩
  ·go_enter func126,ntmps126
   go_wp2
   go_ret
   exact ⟨by rw [HW.out];rfl,by first | exact Below.refl _ _ | exact qf (Below.refl _ _)⟩
  ·have hc3 : ¬ r<32:=by omega
   go_enter func126,ntmps126
   go_wp2
   go_ret
   exact ⟨by rw [HW.out];rfl,by first | exact Below.refl _ _ | exact qf (Below.refl _ _)⟩
 ·generalize inT qM r=M at *
  cases M with
  | true =>
   have HW:Hid (W=0):=Lh (H1.out hc rfl)
   clear H0 H1 H2 HF
   rw [not_or] at hc
   obtain ⟨hc0,hc⟩:=hc
   by_cases hc1:127<=r
   ·have hc2 : ¬ r<=159:=by omega
    clear hc
    go_enter func126,ntmps126
    go_wp2_with (go_at_call 144;refine (HM.out _).mono ?_;rintro e w1 ⟨rfl,hbel1⟩)
    go_ret
    exact ⟨by rw [HW.out];rfl,hbel1⟩
   ·clear hc
    go_enter func126,ntmps126
    go_wp2_with (go_at_call 144;refine (HM.out _).mono ?_;rintro e w1 ⟨rfl,hbel1⟩)
    go_ret
    exact ⟨by rw [HW.out];rfl,hbel1⟩
  | false =>
   have HW:Hid (W=if inT y8 r=true then 2 else 1):=Lh (H2.out hc rfl)
   generalize inT y8 r=V at *
   clear H0 H1 H2
   rw [not_or] at hc
   obtain ⟨hc0,hc⟩:=hc
   have hd:127<=r/\¬ r<=159∨¬ 127<=r:=by omega
   clear hc
   rcases hd with ⟨hc1,hc2⟩ | hc1 <;> cases V <;>
   ·go_enter func126,ntmps126
    go_wp2_with (first
     | (go_at_call 144;refine (HM.out _).mono ?_;rintro e w1 ⟨rfl,hbel1⟩)
     | (go_at_call 146;refine (wide_ _).mono ?_;rintro e w2 ⟨A2,c2,rfl,hown2,hbel2⟩;have t2:=hbel1.trans (hbel2.mono hbel1.size))
     | (go_at_call 145;refine (qiz _ _ _ _).mono ?_;rintro e w3 ⟨rfl,rfl⟩)
     | (go_at_call 167;go_loud (refine (HF.out w2.heap.size c2 _ A2 _ (qu w2 #[.slice A2 14 c2] _ 0) (Rd.of_own (qb hown2 ((Below.refl _ _).alloc (Nat.le_refl _) _)))).mono ?_);rintro e w4 ⟨rfl,q4,rfl⟩))
    go_ret
    exact ⟨by rw [HW.out];rfl,qf (t2.alloc t2.size _)⟩
theorem rin2 (t:List (Int × Int)) (r:Int) (n c B:Nat) (A:Option Addr) (w:World) (hn:t.length=n) (hb:n<=1000) (rd:Rd w B 2 A n (qaN t)) :
  Calls prog 138 #[.slice A n c,.int .i32 r] w (Quiet (.bool (inT t r)) w):=by
 have HF:Hid (inT t r=true↔∃ i,∃ h:i<t.length,t[i].1<=r/\r<=t[i].2):=Lh (qix t r)
 have HN:=Lh hn
 generalize inT t r=R at *
 clear hn
 go_enter func138,ntmps138
 go_wp2
 go_loopw [5] (fun x wr=>∃ a j:Nat,a<=n/\x = .int .i64 a/\wr=w.drewN j/\Hid (∀ i (h:i<t.length),i<a->¬ (t[i].1<=r/\r<=t[i].2))) (fun x _=>n-(intOf x).toNat)
 case atStart=>exact ⟨0,0,Nat.zero_le _,rfl,rfl,Lh fun i h h2=>absurd h2 (Nat.not_lt_zero i)⟩
 case round =>
  obtain ⟨a,j,han,rfl,rfl,HA⟩:=hrel
  by_cases hlt:a<n
  ·have hml:a<t.length:=by have:=HN.out;omega
   obtain ⟨bb,oo,rfl,c1,c2⟩:=qhj rd hml HN.out
   have HY:Hid (t[a].1<=r/\r<=t[a].2->R=true):=Lh fun h=>HF.out.2 ⟨a,hml,h⟩
   have HZ:Hid (¬ (t[a].1<=r/\r<=t[a].2)->∀ i (h:i<t.length),i<a+1->¬ (t[i].1<=r/\r<=t[i].2)):=Lh fun h0 i h h2=>by
    rcases Nat.lt_or_ge i a with h1 | h1
    ·exact HA.out i h h1
    ·obtain rfl:i=a:=by omega
     exact h0
   generalize t[a].1=y at *
   generalize t[a].2=z at *
   by_cases h1:y<=r
   ·by_cases h2:r<=z
    ·have HR:=Lh (HY.out ⟨h1,h2⟩)
     go_wp2
     go_ret
     exact ⟨by rw [HR.out];rfl,_,rfl⟩
    ·have HR:=Lh (HZ.out fun h=>h2 h.2)
     clear HY HZ
     go_wp2
     exact ⟨⟨a+1,_,by omega,by go_num,rfl,HR⟩,by simp [intOf];omega⟩
   ·have HR:=Lh (HZ.out fun h=>h1 h.1)
    clear HY HZ
    go_wp2
    exact ⟨⟨a+1,_,by omega,by go_num,rfl,HR⟩,by simp [intOf];omega⟩
  ·have HR:Hid (R=false):=Lh (by
    cases hR:R with
    | false=>rfl
    | true =>
     obtain ⟨i,h,h1⟩:=HF.out.1 hR
     exact absurd h1 (HA.out i h (by have:=HN.out;omega)))
   clear HF
   go_wp2
   go_ret
   exact ⟨by rw [HR.out];rfl,_,rfl⟩
theorem rmarks (w:World):Calls prog 139 #[] w (ql 215 2 id w 7 (qaN qM)):=by
 go_enter func139,ntmps139
 go_wp2
 go_ret
 exact ⟨_,_,rfl,qx (xs:=qaN qM) rfl rfl (Nat.le_refl _) (by omega),(Below.refl _ _).alloc (Nat.le_refl _) _⟩
theorem rwide (w:World):Calls prog 140 #[] w (ql 215 2 id w 14 (qaN y8)):=by
 go_enter func140,ntmps140
 go_wp2
 go_ret
 exact ⟨_,_,rfl,qx (xs:=qaN y8) rfl rfl (Nat.le_refl _) (by omega),(Below.refl _ _).alloc (Nat.le_refl _) _⟩
theorem rmark (r:Int) (w:World):Calls prog 115 #[.int .i32 r] w (qh (.bool (inT qM r)) w):=by
 have HF:=Lh (rin2 qM r)
 generalize inT qM r=R at *
 go_enter func115,ntmps115
 go_wp2_with (first
  | (go_at_call 139;refine (rmarks _).mono ?_;rintro e w1 ⟨A1,c1,rfl,hown1,hbel1⟩)
  | (go_at_call 138;refine (HF.out 7 c1 _ A1 _ rfl (by omega) (Rd.of_own hown1)).mono ?_;rintro e w3 ⟨rfl,q3,rfl⟩))
 go_ret
 exact ⟨rfl,qf hbel1⟩
theorem rwidth (r:Int) (w:World):Calls prog 116 #[.int .i32 r] w (qh (.int .i64 (zR r)) w):=by
 have HF:=Lh (rin2 y8 r)
 have HM:=Lh (rmark r)
 have H0:=Lh (@qgk r)
 have H1:=Lh (@qew r)
 have H2:=Lh (@qen r)
 generalize zR r=W at *
 by_cases hc:r<32∨(127<=r/\r<=159)
 ·have HW:Hid (W = -1):=Lh (H0.out hc)
  clear H0 H1 H2 HM HF
  rcases hc with hc | ⟨hc1,hc2⟩
  ·go_enter func116,ntmps116
   go_wp2
   go_ret
   exact ⟨by rw [HW.out];rfl,by first | exact Below.refl _ _ | exact qf (Below.refl _ _)⟩
  ·have hc3 : ¬ r<32:=by omega
   go_enter func116,ntmps116
   go_wp2
   go_ret
   exact ⟨by rw [HW.out];rfl,by first | exact Below.refl _ _ | exact qf (Below.refl _ _)⟩
 ·have hd : ¬ r<32/\(127<=r/\¬ r<=159∨¬ 127<=r):=by omega
  generalize inT qM r=M at *
  cases M with
  | true =>
   have HW:Hid (W=0):=Lh (H1.out hc rfl)
   clear H0 H1 H2 HF hc
   obtain ⟨hc0,hd⟩:=hd
   rcases hd with ⟨hc1,hc2⟩ | hc1 <;>
   ·go_enter func116,ntmps116
    go_wp2_with (go_at_call 115;refine (HM.out _).mono ?_;rintro e w1 ⟨rfl,hbel1⟩)
    go_ret
    exact ⟨by rw [HW.out];rfl,hbel1⟩
  | false =>
   have HW:Hid (W=if inT y8 r=true then 2 else 1):=Lh (H2.out hc rfl)
   generalize inT y8 r=V at *
   clear H0 H1 H2 hc
   obtain ⟨hc0,hd⟩:=hd
   rcases hd with ⟨hc1,hc2⟩ | hc1 <;> cases V <;>
   ·go_enter func116,ntmps116
    go_wp2_with (first
     | (go_at_call 115;refine (HM.out _).mono ?_;rintro e w1 ⟨rfl,hbel1⟩)
     | (go_at_call 140;refine (rwide _).mono ?_;rintro e w2 ⟨A2,c2,rfl,hown2,hbel2⟩;have t2:=hbel1.trans (hbel2.mono hbel1.size))
     | (go_at_call 138;refine (HF.out 14 c2 _ A2 _ rfl (by omega) (Rd.of_own hown2)).mono ?_;rintro e w4 ⟨rfl,q4,rfl⟩))
    go_ret
    exact ⟨by rw [HW.out];rfl,qf t2⟩
end Go.Proofs.YticbpkghcglgkaaGreatDoor
namespace Go.Proofs.YticbpkghcglgkaaGreatDoor
open Go.Proofs.Tryz Go.RowKit
theorem marked_ (rs:List Nat) (A:Option Addr) (n c B:Nat) (w:World) (hn:rs.length=n) (hb:n<=100000000000) (rd:Rd w B 1 A n (chV rs)) (hB:B<=w.heap.size) :
  Calls prog 127 #[.slice A n c] w (qh (.bool (rs.all fun (x:Nat)=>inT qM (x:Int))) w):=by
 have HF:Hid ((rs.all fun (x:Nat)=>inT qM (x:Int))=((rs.drop 0).all fun (x:Nat)=>inT qM (x:Int))):=Lh rfl
 have HN:=Lh hn
 generalize (rs.all fun (x:Nat)=>inT qM (x:Int))=R at *
 clear hn
 go_enter func127,ntmps127
 go_wp2
 go_loopw [7] (fun x wr=>∃ k:Nat,k<=n/\x = .int .i64 k/\Below w.heap.size w wr/\Hid (R=((rs.drop k).all fun (x:Nat)=>inT qM (x:Int)))) (fun x _=>n-(intOf x).toNat)
 case atStart=>exact ⟨0,Nat.zero_le _,rfl,Below.refl _ _,HF⟩
 case round =>
  obtain ⟨k,hk,rfl,hbel,HR⟩:=hrel
  by_cases hlt:k<n
  ·have hkl:k<rs.length:=by have:=HN.out;omega
   obtain ⟨b,o,rfl,hbB,hc⟩:=(rd.keep (w':=wr) fun p hp=>hbel.cell (by omega)).at_ hlt
   rw [qft _ _ hkl] at hc
   have HD:Hid (rs.drop k=rs[k]::rs.drop (k+1)):=Lh (List.drop_eq_getElem_cons hkl)
   generalize rs[k]=x at *
   have HM:=Lh (mark_ (x:Int) wr)
   have HT:Hid (inT qM (x:Int)=true->R=((rs.drop (k+1)).all fun (x:Nat)=>inT qM (x:Int))):=Lh fun h=>by rw [HR.out,HD.out,List.all_cons,h,Bool.true_and]
   have HZ:Hid (inT qM (x:Int)=false->R=false):=Lh fun h=>by rw [HR.out,HD.out,List.all_cons,h,Bool.false_and]
   generalize inT qM (x:Int)=M at *
   clear HR HD
   cases M with
   | true =>
    have HR2:=Lh (HT.out rfl)
    go_wp2_with (go_at_call 144;refine HM.out.mono ?_;rintro e w1 ⟨rfl,hbel1⟩)
    exact ⟨⟨k+1,by omega,by go_num,hbel.trans (hbel1.mono hbel.size),HR2⟩,by simp [intOf];omega⟩
   | false =>
    have HR2:=Lh (HZ.out rfl)
    go_wp2_with (go_at_call 144;refine HM.out.mono ?_;rintro e w1 ⟨rfl,hbel1⟩)
    go_ret
    exact ⟨by rw [HR2.out];rfl,hbel.trans (hbel1.mono hbel.size)⟩
  ·have HR2:Hid (R=true):=Lh (by rw [HR.out,List.drop_of_length_le (by have:=HN.out;omega)];rfl)
   go_wp2
   go_ret
   exact ⟨by rw [HR2.out];rfl,hbel⟩
end Go.Proofs.YticbpkghcglgkaaGreatDoor
namespace Go.Proofs.YticbpkghcglgkaaGreatDoor
open Go.Proofs.Tryz Go.RowKit
set_option maxRecDepth 20000
theorem rd_tailC {w:World} {B n c:Nat} {b o:Nat} {r:Nat} {t:List Nat} (hn:t.length+1=n) (hc:n<=c) (rd:Rd w B 1 (some ⟨b,o,none⟩) n (chV (r::t))) :
  Rd w B 1 (if c=1 then some ⟨b,o,none⟩ else some ⟨b,o+1,none⟩) (n-1) (chV t):=by
 have h:=rd.cut (k:=1) (cap:=c) (by omega) hc
 simp only [Nat.mul_one,Option.map_some,vl] at h
 exact h
theorem qh2 {w:World} {B n b o:Nat} {v:Value} {xs:List Value} (rd:Rd w B 1 (some ⟨b,o,none⟩) n (v::xs)) (hn:0<n):w.cell? ⟨b,o,none⟩=some v:=(rd.form hn).2.2 0 v rfl
theorem kT {s:ByteArray} (h:s.size≠0):s.toList.isEmpty=false:=by
 rw [ByteArray.toList_eq,List.isEmpty_eq_false_iff]
 intro e
 have:=congrArg List.length e
 exact h (by simpa using this)
theorem qgV (w:World):Calls prog 103 #[.string ⟨#[]⟩] w (qh (.int .i64 3) w):=by
 go_enter func103,ntmps103
 go_wp2
 go_ret
 exact ⟨rfl,Below.refl _ _⟩
theorem qi6 (s:ByteArray) (hs:s.size<=1000000000) (h0:s.size≠0) (hv:vb s=false) (w:World) (hu:U8 w):Calls prog 103 #[.string s] w (qh (.int .i64 3) w):=by
 have HV:=Lh (valid_ s hs w hu)
 rw [hv] at HV
 have he:=kT h0
 clear hu hv
 go_enter func103,ntmps103
 go_wp2_with (go_at_call 125;refine HV.out.mono ?_;rintro e w1 ⟨rfl,hbel1⟩)
 go_ret
 exact ⟨rfl,hbel1⟩
theorem qho (s:ByteArray) (hs:s.size<=1000000000) (h0:s.size≠0) (hv:vb s=true) (w:World) (hu:U8 w) (r:Nat) (t:List Nat) (hc:qs (qB s)=r::t) :
  Calls prog 103 #[.string s] w (qh (.int .i64 (if zR (r:Int)<1∨(t.all fun (x:Nat)=>inT qM (x:Int))=false then 9 else if 3<t.length then 5 else 0)) w):=by
 have HV:=Lh (valid_ s hs w hu)
 rw [hv] at HV
 have he:=kT h0
 have HC:Hid (∀ w,_):=Lh (qbK s hv hs)
 have hl:=jB s
 rw [hc] at HC hl
 rw [List.length_cons] at HC hl
 have HW:=Lh (qgZ (r:Int))
 have HM:=Lh (fun (n c B:Nat) A w=>marked_ t A n c B w)
 generalize (t.all fun (x:Nat)=>inT qM (x:Int))=M at *
 generalize zR (r:Int)=W at *
 obtain ⟨RES,hRES⟩ : ∃ x:Int,x=if W<1∨M=false then 9 else if 3<t.length then 5 else 0:=⟨_,rfl⟩
 rw [<- hRES]
 have HRES:=Lh hRES
 clear hu hv hc hRES
 go_enter func103,ntmps103
 go_upto_region 3 with (go_at_call 125;refine HV.out.mono ?_;rintro e w1 ⟨rfl,hbel1⟩)
 obtain ⟨c2,w2,hrun,rd2,hbel2,hcap⟩:=HC.out w1
 have z1:=hbel1.size
 have z2:=hbel2.size
 go_upto_region 4 with fail
 have cell0:w2.cell? ⟨w1.heap.size,0,none⟩=some (.int .i32 (r:Int)):=qh2 rd2 (by omega)
 have HT:=Lh (rd_tailC rfl hcap rd2)
 rw [Nat.add_sub_cancel,Nat.zero_add] at HT
 by_cases hw:W<1
 ·go_wp2_with (go_at_call 126;refine (HW.out _).mono ?_;rintro e w3 ⟨rfl,hbel3⟩)
  go_ret
  exact ⟨by rw [HRES.out,if_pos (.inl hw)];rfl,(hbel1.trans (hbel2.mono z1)).trans (hbel3.mono (by omega))⟩
 ·cases M with
  | false =>
   go_wp2_with (first
    | (go_at_call 126;refine (HW.out _).mono ?_;rintro e w3 ⟨rfl,hbel3⟩;have z3:=hbel3.size)
    | (go_at_call 127;refine (HM.out _ _ w2.heap.size _ _ rfl (by omega) (HT.out.below hbel3) z3).mono ?_;rintro e w4 ⟨rfl,hbel4⟩))
   all_goals go_ret
   all_goals exact ⟨by rw [HRES.out,if_pos (by simp)];rfl,((hbel1.trans (hbel2.mono z1)).trans (hbel3.mono (by omega))).trans (hbel4.mono (by omega))⟩
  | true =>
   by_cases h3:3<t.length
   ·go_wp2_with (first
     | (go_at_call 126;refine (HW.out _).mono ?_;rintro e w3 ⟨rfl,hbel3⟩;have z3:=hbel3.size)
     | (go_at_call 127;refine (HM.out _ _ w2.heap.size _ _ rfl (by omega) (HT.out.below hbel3) z3).mono ?_;rintro e w4 ⟨rfl,hbel4⟩))
    all_goals go_ret
    all_goals exact ⟨by rw [HRES.out,if_neg (by simp;omega),if_pos h3];rfl,((hbel1.trans (hbel2.mono z1)).trans (hbel3.mono (by omega))).trans (hbel4.mono (by omega))⟩
   ·go_wp2_with (first
     | (go_at_call 126;refine (HW.out _).mono ?_;rintro e w3 ⟨rfl,hbel3⟩;have z3:=hbel3.size)
     | (go_at_call 127;refine (HM.out _ _ w2.heap.size _ _ rfl (by omega) (HT.out.below hbel3) z3).mono ?_;rintro e w4 ⟨rfl,hbel4⟩))
    all_goals go_ret
    all_goals exact ⟨by rw [HRES.out,if_neg (by simp;omega),if_neg h3];rfl,((hbel1.trans (hbel2.mono z1)).trans (hbel3.mono (by omega))).trans (hbel4.mono (by omega))⟩
theorem qdB (s:ByteArray) (hs:s.size<=1000000000) (w:World) (hu:U8 w):Calls prog 103 #[.string s] w (qh (.int .i64 (zB s)) w):=by
 by_cases h0:s.size=0
 ·rw [qaK h0]
  obtain rfl:s=⟨#[]⟩:=ByteArray.ext (Array.eq_empty_of_size_eq_zero h0)
  exact qgV w
 ·unfold zB
  cases hv:vb s with
  | false=>exact qi6 s hs h0 hv w hu
  | true =>
   rw [if_neg (by simp)]
   cases hc:qs (qB s) with
   | nil =>
    exfalso
    rw [vb,decide_eq_true_eq,hc] at hv
    have:=congrArg List.length hv
    rw [zT] at this
    exact h0 this.symm
   | cons r t=>exact qho s hs h0 hv w hu r t hc
end Go.Proofs.YticbpkghcglgkaaGreatDoor
namespace Go.Proofs.YticbpkghcglgkaaGreatDoor
open Go.Proofs.Tryz Go.RowKit
set_option maxRecDepth 20000
theorem rvalid (s:ByteArray) (hs:s.size<=1000000000) (w:World):Calls prog 113 #[.string s] w (qh (.bool (vb s)) w):=by
 have HD:=Lh (qiF s hs w)
 have hl:=jB s
 have HE:Hid (∀ (A:Option Addr) (c:Nat) (w:World),Rd w w.heap.size 1 A (qs (qB s)).length (chV (qs (qB s)))->Calls prog 137 #[.slice A (qs (qB s)).length c] w (qh (.string (yI (qs (qB s)))) w)):=Lh fun A c w rd=>rencode _ (yD _) A _ c w.heap.size w rfl (by omega) rd (Nat.le_refl _)
 have HV:=Lh (qbR s)
 have HP:Hid (vb s=true->(zJ (qB s) (u0,[])).1.m=0):=Lh qf2
 unfold DecP at HD
 generalize (zJ (qB s) (u0,[])).1.m=m at *
 generalize vb s=R at *
 generalize yI (qs (qB s))=E at *
 generalize qs (qB s)=L at *
 by_cases hm':m=0
 ·have hm:=Lh hm'
  clear hm'
  cases R with
  | true =>
   have hq:=Lh (HV.out.2 rfl)
   go_enter func113,ntmps113
   go_upto_region 2 with (go_at_call 136;refine HD.out.mono ?_;rintro e w1 ⟨A1,c1,rest,rfl,hown1,hbel1,hrest⟩;have hre:rest.toList.isEmpty=true:=(by rw [hrest.2 hm.out,ByteArray.toList_eq];rfl))
   clear HV HP HD hm
   go_wp2_with (go_at_call 137;refine (HE.out _ _ _ (Rd.of_own hown1)).mono ?_;rintro e w2 ⟨rfl,hbel2⟩;obtain rfl:=hq.out)
   all_goals go_ret
   all_goals exact ⟨rfl,hbel1.trans (hbel2.mono hbel1.size)⟩
  | false =>
   have hq:E≠s:=fun h=>(by have:=HV.out.1 h;cases this)
   have hq2:(E.toList==s.toList)=false:=by rw [jO];simp [hq]
   go_enter func113,ntmps113
   go_wp2_with (first
    | (go_at_call 136;refine HD.out.mono ?_;rintro e w1 ⟨A1,c1,rest,rfl,hown1,hbel1,hrest⟩;have hre:rest.toList.isEmpty=true:=(by rw [hrest.2 hm.out,ByteArray.toList_eq];rfl))
    | (go_at_call 137;refine (HE.out _ _ _ (Rd.of_own hown1)).mono ?_;rintro e w2 ⟨rfl,hbel2⟩))
   all_goals go_ret
   all_goals exact ⟨rfl,hbel1.trans (hbel2.mono hbel1.size)⟩
 ·have hR:R=false:=by
   cases R with
   | false=>rfl
   | true=>exact absurd (HP.out rfl) hm'
  subst hR
  go_enter func113,ntmps113
  go_wp2_with (go_at_call 136;refine HD.out.mono ?_;rintro e w1 ⟨A1,c1,rest,rfl,hown1,hbel1,hrest⟩;have hne:rest.size≠0:=(fun h=>hm' (hrest.1 (ByteArray.ext (Array.eq_empty_of_size_eq_zero h))));have hne2:=kT hne)
  all_goals go_ret
  all_goals exact ⟨rfl,hbel1⟩
end Go.Proofs.YticbpkghcglgkaaGreatDoor
namespace Go.Proofs.YticbpkghcglgkaaGreatDoor
open Go.Proofs.Tryz Go.RowKit
set_option maxRecDepth 20000
theorem qad (s:ByteArray) (hs:s.size<=1000000000) (w:World):Calls prog 114 #[.string s] w (ql 21 1 id w (qs (qB s)).length (chV (qs (qB s)))):=by
 have HD:=Lh (qiF s hs w)
 unfold DecP at HD
 generalize (zJ (qB s) (u0,[])).1.m=m at *
 generalize qs (qB s)=L at *
 go_enter func114,ntmps114
 go_wp2_with (go_at_call 136;refine HD.out.mono ?_;rintro e w1 ⟨A1,c1,rest,rfl,hown1,hbel1,hrest⟩)
 go_ret
 exact ⟨A1,c1,rfl,hown1,hbel1⟩
theorem qe6 (w:World):Calls prog 94 #[.string ⟨#[]⟩] w (qh (.int .i64 3) w):=by
 go_enter func94,ntmps94
 go_wp2
 go_ret
 exact ⟨rfl,Below.refl _ _⟩
theorem qhh (s:ByteArray) (hs:s.size<=1000000000) (h0:s.size≠0) (hv:vb s=false) (w:World):Calls prog 94 #[.string s] w (qh (.int .i64 3) w):=by
 have HV:=Lh (rvalid s hs w)
 rw [hv] at HV
 have he:=kT h0
 clear hv
 go_enter func94,ntmps94
 go_wp2_with (go_at_call 113;refine HV.out.mono ?_;rintro e w1 ⟨rfl,hbel1⟩)
 go_ret
 exact ⟨rfl,hbel1⟩
theorem widL_lt {r:Int} (h:inT qM r=true):zR r<1:=by
 unfold zR
 split
 ·omega
 ·simp [h]
theorem qgI (s:ByteArray) (hs:s.size<=1000000000) (h0:s.size≠0) (hv:vb s=true) (w:World) (r:Nat) (t:List Nat) (hc:qs (qB s)=r::t) :
  Calls prog 94 #[.string s] w (qh (.int .i64 (if zR (r:Int)<1∨(t.all fun (x:Nat)=>inT qM (x:Int))=false then 9 else if 3<t.length then 5 else 0)) w):=by
 have HV:=Lh (rvalid s hs w)
 rw [hv] at HV
 have he:=kT h0
 have HC:=Lh (qad s hs)
 have hl:=jB s
 rw [hc] at HC hl
 rw [List.length_cons] at HC hl
 have HW:=Lh (rwidth (r:Int))
 have HM:=Lh (rmark (r:Int))
 have HML:Hid (inT qM (r:Int)=true->zR (r:Int)<1):=Lh widL_lt
 generalize zR (r:Int)=W at *
 obtain ⟨RES,hRES⟩ : ∃ x:Int,x=if W<1∨(t.all fun (x:Nat)=>inT qM (x:Int))=false then 9 else if 3<t.length then 5 else 0:=⟨_,rfl⟩
 rw [<- hRES]
 have HRES:=Lh hRES
 clear hv hc hRES
 generalize inT qM (r:Int)=M0 at *
 cases M0 with
 | true =>
  have hw:=HML.out rfl
  have HR2:Hid (RES=9):=Lh (by rw [HRES.out,if_pos (.inl hw)])
  clear hw HRES HML
  go_enter func94,ntmps94
  go_wp2_with (first
   | (go_at_call 113;refine HV.out.mono ?_;rintro e w1 ⟨rfl,hbel1⟩)
   | (go_at_call 114;refine (HC.out _).mono ?_;rintro e w2 ⟨A2,c2,rfl,hown2,hbel2⟩;have t2:=hbel1.trans (hbel2.mono hbel1.size);obtain ⟨b,o,rfl,_,hcc⟩:=(Rd.of_own hown2).2 (by omega);have cell0:=hcc 0 _ rfl;simp only [Nat.add_zero] at cell0)
   | (go_at_call 115;refine (HM.out _).mono ?_;rintro e w3 ⟨rfl,hbel3⟩;have t3:=t2.trans (hbel3.mono t2.size)))
  go_ret
  exact ⟨by rw [HR2.out];rfl,t3⟩
 | false =>
  by_cases hw:W<1
  ·have HR2:Hid (RES=9):=Lh (by rw [HRES.out,if_pos (.inl hw)])
   clear HRES HML
   go_enter func94,ntmps94
   go_wp2_with (first
    | (go_at_call 113;refine HV.out.mono ?_;rintro e w1 ⟨rfl,hbel1⟩)
    | (go_at_call 114;refine (HC.out _).mono ?_;rintro e w2 ⟨A2,c2,rfl,hown2,hbel2⟩;have t2:=hbel1.trans (hbel2.mono hbel1.size);obtain ⟨b,o,rfl,_,hcc⟩:=(Rd.of_own hown2).2 (by omega);have cell0:=hcc 0 _ rfl;simp only [Nat.add_zero] at cell0)
    | (go_at_call 115;refine (HM.out _).mono ?_;rintro e w3 ⟨rfl,hbel3⟩;have t3:=t2.trans (hbel3.mono t2.size);have cell1:=(hbel3.cell (yY cell0)).trans cell0)
    | (go_at_call 116;refine (HW.out _).mono ?_;rintro e w4 ⟨rfl,hbel4⟩;have t4:=t3.trans (hbel4.mono t3.size)))
   go_ret
   exact ⟨by rw [HR2.out];rfl,t4⟩
  ·have HRA:Hid ((t.all fun (x:Nat)=>inT qM (x:Int))=false->RES=9):=Lh fun h=>by rw [HRES.out,if_pos (.inr h)]
   have HRB:Hid ((t.all fun (x:Nat)=>inT qM (x:Int))=true->RES=if 3<t.length then 5 else 0):=Lh fun h=>by rw [HRES.out,if_neg (by rw [not_or];exact ⟨hw,by simp [h]⟩)]
   have HF:Hid ((t.all fun (x:Nat)=>inT qM (x:Int))=((t.drop 0).all fun (x:Nat)=>inT qM (x:Int))):=Lh rfl
   generalize (t.all fun (x:Nat)=>inT qM (x:Int))=R at *
   clear HRES HML
   go_enter func94,ntmps94
   go_wp2_with (first
    | (go_at_call 113;refine HV.out.mono ?_;rintro e w1 ⟨rfl,hbel1⟩)
    | (go_at_call 114;refine (HC.out _).mono ?_;rintro e w2 ⟨A2,c2,rfl,hown2,hbel2⟩;have t2:=hbel1.trans (hbel2.mono hbel1.size);have rd2:=Rd.of_own hown2;obtain ⟨b,o,rfl,_,hcc⟩:=rd2.2 (by omega);have cell0:=hcc 0 _ rfl;simp only [Nat.add_zero] at cell0)
    | (go_at_call 115;refine (HM.out _).mono ?_;rintro e w3 ⟨rfl,hbel3⟩;have t3:=t2.trans (hbel3.mono t2.size);have cell1:=(hbel3.cell (yY cell0)).trans cell0)
    | (go_at_call 116;refine (HW.out _).mono ?_;rintro e w4 ⟨rfl,hbel4⟩;have t4:=t3.trans (hbel4.mono t3.size);have b4:=hbel3.trans (hbel4.mono hbel3.size)))
   go_loopw [4] (fun x wr=>∃ j:Nat,j<=t.length/\x = .int .i64 ((j:Int)+1)/\Below w.heap.size w wr/\Below w2.heap.size w2 wr/\Hid (R=((t.drop j).all fun (x:Nat)=>inT qM (x:Int)))) (fun x _=>t.length+1-(intOf x).toNat)
   case atStart=>exact ⟨0,Nat.zero_le _,rfl,t4,b4,HF⟩
   case round =>
    obtain ⟨j,hj,rfl,hbel,hbel2',HR⟩:=hrel
    by_cases hlt:j<t.length
    ·have hc:wr.cell? ⟨b,o+(j+1),none⟩=some (.int .i32 (t[j]:Int)):=(hbel2'.cell (Nat.lt_of_lt_of_le (by assumption) (Nat.le_refl _))).trans (hcc (j+1) _ (by simp [chV,hlt]))
     have HD:Hid (t.drop j=t[j]::t.drop (j+1)):=Lh (List.drop_eq_getElem_cons hlt)
     generalize t[j]=x at *
     have HMx:=Lh (rmark (x:Int) wr)
     have HT:Hid (inT qM (x:Int)=true->R=((t.drop (j+1)).all fun (x:Nat)=>inT qM (x:Int))):=Lh fun h=>by rw [HR.out,HD.out,List.all_cons,h,Bool.true_and]
     have HZ:Hid (inT qM (x:Int)=false->R=false):=Lh fun h=>by rw [HR.out,HD.out,List.all_cons,h,Bool.false_and]
     generalize inT qM (x:Int)=M at *
     clear HR HD
     cases M with
     | true =>
      have HR2:=Lh (HT.out rfl)
      go_wp2_with (go_at_call 115;refine HMx.out.mono ?_;rintro e w5 ⟨rfl,hbel5⟩)
      exact ⟨⟨j+1,by omega,by go_num,hbel.trans (hbel5.mono hbel.size),hbel2'.trans (hbel5.mono hbel2'.size),HR2⟩,by simp [intOf];omega⟩
     | false =>
      have HR2:=Lh (HRA.out (HZ.out rfl))
      go_wp2_with (go_at_call 115;refine HMx.out.mono ?_;rintro e w5 ⟨rfl,hbel5⟩)
      go_ret
      exact ⟨by rw [HR2.out];rfl,hbel.trans (hbel5.mono hbel.size)⟩
    ·have HR2:=Lh (HRB.out (by rw [HR.out,List.drop_of_length_le (by omega)];rfl))
     clear HRA HRB HR HF
     by_cases h3:3<t.length
     ·rw [if_pos h3] at HR2
      go_wp2
      go_ret
      exact ⟨by rw [HR2.out];rfl,hbel⟩
     ·rw [if_neg h3] at HR2
      go_wp2
      go_ret
      exact ⟨by rw [HR2.out];rfl,hbel⟩
theorem rcheck (s:ByteArray) (hs:s.size<=1000000000) (w:World):Calls prog 94 #[.string s] w (qh (.int .i64 (zB s)) w):=by
 by_cases h0:s.size=0
 ·rw [qaK h0]
  obtain rfl:s=⟨#[]⟩:=ByteArray.ext (Array.eq_empty_of_size_eq_zero h0)
  exact qe6 w
 ·unfold zB
  cases hv:vb s with
  | false=>exact qhh s hs h0 hv w
  | true =>
   rw [if_neg (by simp)]
   cases hc:qs (qB s) with
   | nil =>
    exfalso
    rw [vb,decide_eq_true_eq,hc] at hv
    have:=congrArg List.length hv
    rw [zT] at this
    exact h0 this.symm
   | cons r t=>exact qgI s hs h0 hv w r t hc
end Go.Proofs.YticbpkghcglgkaaGreatDoor
namespace Go.Proofs.YticbpkghcglgkaaGreatDoor
open Go.Proofs.Tryz Go.RowKit
set_option maxRecDepth 20000
theorem runes_ (s:ByteArray) (hs:s.size<=1000000000) (w:World) (hu:U8 w) (hc:zB s=0) :
  Calls prog 128 #[.string s] w fun e w'=>∃ A c,e = .returned (.slice A (qs (qB s)).length c)/\Below w.heap.size w w'/\(qs (qB s)).length<=c:=by
 have HK:=Lh (qdB s hs w hu)
 rw [hc] at HK
 have HC:Hid (∀ w,_):=Lh (qbK s (vL.1 hc).1 hs)
 generalize qs (qB s)=L at *
 clear hu hc
 go_enter func128,ntmps128
 go_upto_region 3 with (go_at_call 103;refine HK.out.mono ?_;rintro e w1 ⟨rfl,hbel1⟩)
 obtain ⟨c2,w2,hrun,rd2,hbel2,hcap⟩:=HC.out w1
 go_wp2
 go_ret
 exact ⟨_,_,rfl,hbel1.trans (hbel2.mono hbel1.size),hcap⟩
theorem qj6 (s:ByteArray) (hs:s.size<=1000000000) (w:World) (hu:U8 w) (hc:zB s=0) :
  Calls prog 215 #[.string s] w fun e w'=>∃ A c,e = .returned (.slice A ((qs (qB s)).length-1) c)/\Below w.heap.size w w':=by
 have HK:=Lh (runes_ s hs w hu hc)
 obtain ⟨_,r,t,hL,_⟩:=vL.1 hc
 have hl:=jB s
 rw [hL] at HK hl
 rw [hL]
 rw [List.length_cons] at HK hl
 rw [List.length_cons]
 generalize t.length=n at *
 clear hu hc hL
 go_enter func215,ntmps215
 go_wp2_with (go_at_call 128;refine HK.out.mono ?_;rintro e w1 ⟨A1,c1,rfl,hbel1,hcap⟩)
 all_goals go_ret
 all_goals exact ⟨⟨_,_,rfl⟩,hbel1⟩
def attV (x:ByteArray × Int):Value:=.tuple #[.string x.1,.int .i64 x.2]
theorem qeI (w:World) (r:Nat) (e:TypeId):Rd (w.alloc (.cells #[.int .i32 (r:Int)] e)) (w.heap.size+1) 1 (some ⟨w.heap.size,0,none⟩) 1 (chV [r]):=qe (xs:=chV [r]) rfl rfl
theorem attach_ (s:ByteArray) (hs:s.size<=1000000000) (r:Nat) (hr:qR r) (w:World) (hu:U8 w) :
  Calls prog 203 #[.string s,.int .i32 (r:Int)] w (qh (attV (ye s (r:Int))) w):=by
 have HK:=Lh (qdB s hs w hu)
 have HM:=Lh (mark_ (r:Int))
 have HU:=Lh hu
 unfold ye
 by_cases hc:zB s=0
 ·rw [if_neg (by simp [hc])]
  rw [hc] at HK
  generalize hmk:inT qM (r:Int)=M at *
  cases M with
  | false =>
   rw [if_pos rfl]
   clear hu
   go_enter func203,ntmps203
   go_wp2_with (first
    | (go_at_call 103;refine HK.out.mono ?_;rintro e w1 ⟨rfl,hbel1⟩)
    | (go_at_call 144;refine (HM.out _).mono ?_;rintro e w2 ⟨rfl,hbel2⟩))
   go_ret2
   exact ⟨rfl,hbel1.trans (hbel2.mono hbel1.size)⟩
  | true =>
   rw [if_neg (by simp)]
   have HL:Hid (∀ w,U8 w->_):=Lh fun w hu=>qj6 s hs w hu hc
   have HE:=Lh (fun A c B w=>qiC r hr A c B w)
   have hpos:0<(qs (qB s)).length:=by
    obtain ⟨_,r,t,hL,_⟩:=vL.1 hc
    rw [hL];simp
   have hl:=jB s
   have HS:Hid ((kt r).size<=4):=Lh (by
    have:=(qaR r).2
    show (List.toArray _).size<=4
    simpa using this)
   have hto:(r:Int).toNat=r:=rfl
   rw [hto]
   generalize (qs (qB s)).length=n at *
   generalize kt r=E at *
   clear hu hc hmk
   by_cases h4:4<=n
   ·rw [if_pos h4]
    go_enter func203,ntmps203
    go_wp2_with (first
     | (go_at_call 103;refine HK.out.mono ?_;rintro e w1 ⟨rfl,hbel1⟩)
     | (go_at_call 144;refine (HM.out _).mono ?_;rintro e w2 ⟨rfl,hbel2⟩;have t2:=hbel1.trans (hbel2.mono hbel1.size))
     | (go_at_call 215;refine (HL.out _ (HU.out.below t2)).mono ?_;rintro e w3 ⟨A3,c3,rfl,hbel3⟩;have t3:=t2.trans (hbel3.mono t2.size)))
    go_ret2
    exact ⟨rfl,t3⟩
   ·rw [if_neg h4]
    have hS:=HS.out
    go_enter func203,ntmps203
    go_wp2_with (first
     | (go_at_call 103;refine HK.out.mono ?_;rintro e w1 ⟨rfl,hbel1⟩)
     | (go_at_call 144;refine (HM.out _).mono ?_;rintro e w2 ⟨rfl,hbel2⟩;have t2:=hbel1.trans (hbel2.mono hbel1.size))
     | (go_at_call 215;refine (HL.out _ (HU.out.below t2)).mono ?_;rintro e w3 ⟨A3,c3,rfl,hbel3⟩;have t3:=t2.trans (hbel3.mono t2.size))
     | (go_at_call 204;refine (HE.out _ _ _ _ (qeI _ r _) (by simp)).mono ?_;rintro e w4 ⟨rfl,hbel4⟩))
    go_ret2
    exact ⟨rfl,(t3.alloc t3.size _).trans (hbel4.mono (by have:=t3.size;simp;omega))⟩
 ·rw [if_pos hc]
  generalize zB s=K at *
  have hcb:(K != 0)=true:=bne_iff_ne.2 hc
  clear hu hc
  go_enter func203,ntmps203
  go_wp2_with (go_at_call 103;refine HK.out.mono ?_;rintro e w1 ⟨rfl,hbel1⟩)
  go_ret2
  exact ⟨rfl,hbel1⟩
end Go.Proofs.YticbpkghcglgkaaGreatDoor
namespace Go.Proofs.YticbpkghcglgkaaGreatDoor
open Go.Proofs.Tryz Go.RowKit
set_option maxRecDepth 20000
theorem rwidthC (s:ByteArray) (hs:s.size<=1000000000) (w:World):Calls prog 95 #[.string s] w (qh (.int .i64 (kb s)) w):=by
 have HK:=Lh (rcheck s hs w)
 have HC:=Lh (qad s hs)
 unfold kb
 by_cases h0:zB s=0
 ·rw [if_pos h0]
  rw [h0] at HK
  obtain ⟨hv,r,t,hL,_⟩:=vL.1 h0
  rw [hL] at HC
  rw [hL]
  have HW:=Lh (rwidth (r:Int))
  simp only [List.headD_cons]
  generalize zR (r:Int)=W at *
  have hlen:0<(r::t).length:=by simp
  have HG:Hid ((chV (r::t))[0]? = some (.int .i32 (r:Int))):=Lh rfl
  generalize (r::t)=L at *
  clear h0 hv hL
  go_enter func95,ntmps95
  go_wp2_with (first
   | (go_at_call 94;refine HK.out.mono ?_;rintro e w1 ⟨rfl,hbel1⟩)
   | (go_at_call 114;refine (HC.out _).mono ?_;rintro e w2 ⟨A2,c2,rfl,hown2,hbel2⟩;have t2:=hbel1.trans (hbel2.mono hbel1.size);obtain ⟨b,o,rfl,_,hcc⟩:=(Rd.of_own hown2).2 (by omega);have cell0:=hcc 0 _ HG.out;simp only [Nat.add_zero] at cell0)
   | (go_at_call 116;refine (HW.out _).mono ?_;rintro e w3 ⟨rfl,hbel3⟩;have t3:=t2.trans (hbel3.mono t2.size)))
  go_ret
  exact ⟨rfl,t3⟩
 ·rw [if_neg h0]
  generalize zB s=K at *
  have hcb:(K != 0)=true:=bne_iff_ne.2 h0
  clear h0
  go_enter func95,ntmps95
  go_wp2_with (go_at_call 94;refine HK.out.mono ?_;rintro e w1 ⟨rfl,hbel1⟩)
  go_ret
  exact ⟨rfl,hbel1⟩
end Go.Proofs.YticbpkghcglgkaaGreatDoor
