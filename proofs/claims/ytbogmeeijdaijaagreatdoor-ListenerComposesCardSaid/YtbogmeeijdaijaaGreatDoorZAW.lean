/- Joined: Lw5. -/
import Derived.Test.YtbogmeeijdaijaaGreatDoorZAT
set_option linter.unusedVariables false
set_option linter.unusedSimpArgs false
set_option linter.unnecessarySimpa false
set_option maxHeartbeats 4000000
namespace Go.Proofs.YtbogmeeijdaijaaGreatDoor
open Go.Proofs.Tryz Go.RowKit
set_option maxRecDepth 20000
def qaJ (l:List Gl):ByteArray:=l.foldl (fun s g=>s++g.text) ⟨#[]⟩
theorem qes {l:List Gl} {k:Nat} (h:k<l.length):qaJ (l.take (k+1))=qaJ (l.take k)++l[k].text:=by
 unfold qaJ;rw [List.take_succ_eq_append_getElem h,List.foldl_append]
 rfl
theorem qjz {l:List Gl} {M:Nat} (h : ∀ g∈l,g.text.size<=M) : ∀ k,k<=l.length->(qaJ (l.take k)).size<=k * M:=by
 intro k
 induction k with
 | zero=>intro _;rw [List.take_zero,Nat.zero_mul];exact Ld _
 | succ k ih =>
  intro hk;have h1:=ih L0;have h2:=h _ (Lt (show k<l.length by omega));rw [qes L0,ByteArray.size_append,Nat.add_mul]
  omega
theorem rtext15_ (l:List Gl) (A:Option Addr) (n c B:Nat) (w:World) (rd:Rd w B 3 A n (qi l)) (hn:n<=1000) (hz : ∀ g∈l,g.text.size<=1000) :
  Calls prog 17 #[.slice A n c] w fun e w'=>e = .returned (.string (qaJ l))/\w'=w:=by
 have HN:=Lh (jK rd);have hT:Hid (∀ k,k<=n->(qaJ (l.take k)).size<=1000000):=Lh fun k hk=>by
  have h1:=qjz hz k (by have:=HN.out;omega);have:k * 1000<=1000 * 1000:=Nat.mul_le_mul_right _ L0
  omega
 have hZ:=Lh hz;clear hz;have HE:Hid (qaJ l=qaJ (l.take n)):=Lh (by rw [<- HN.out,List.take_length]);rw [HE.out]
 go_enter func17,ntmps17
 go_wp2
 go_loop [3,4] (fun s x=>∃ k:Nat,k<=n/\x = .int .i64 k/\s = .string (qaJ (l.take k))) (fun _ x=>n-(intOf x).toNat)
 case atStart=>exact ⟨0,Nat.zero_le _,rfl,rfl⟩
 case round =>
  obtain ⟨k,hk,rfl,rfl⟩:=hrel
  by_cases hlt:k<n
  ·have hkl:k<l.length:=by have:=HN.out;omega
   obtain ⟨b,o,rfl,_,g0,_,_⟩:=jE rd hkl (jK rd);have HD:=Lh (qes hkl);have h1:=hT.out k hk;have h2:=hZ.out _ (Lt hkl);generalize l[k]=g at *
   obtain ⟨t,wd,st⟩:=g;dsimp only at *
   generalize hS:qaJ (l.take k)=S at *
   have hki:(k:Int)<n:=by omega
   have hsum:S.size+t.size<=9223372036854775807:=by omega
   clear hS;go_wp2;exact ⟨⟨k+1,by omega,by go_num,by rw [HD.out]⟩,by simp [intOf];omega⟩
  ·obtain rfl:k=n:=by omega
   go_wp2;go_ret;exact ⟨rfl,rfl⟩
end Go.Proofs.YtbogmeeijdaijaaGreatDoor
