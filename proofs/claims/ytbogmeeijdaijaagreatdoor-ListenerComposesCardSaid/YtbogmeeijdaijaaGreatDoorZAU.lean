/- Joined: Lw3. -/
import Derived.Test.YtbogmeeijdaijaaGreatDoorZAS
import Derived.Test.YtbogmeeijdaijaaGreatDoorZAT
set_option linter.unusedVariables false
set_option linter.unusedSimpArgs false
set_option linter.unnecessarySimpa false
set_option maxHeartbeats 1000000
namespace Go.Proofs.YtbogmeeijdaijaaGreatDoor
open Go.Proofs.Tryz Go.RowKit
set_option maxRecDepth 20000
theorem glN_le {cs:List Chg} (h : ∀ c∈cs,c.glyphs.length<=132):glN cs<=cs.length * 396:=by
 induction cs with
 | nil=>simp [glN]
 | cons c t ih =>
  rw [qb3,Lp];have h1:=h c L1;have h2:=ih fun x hx=>h x (by simp [hx])
  omega
theorem few_chk {cs:List Chg} {k:Int} (h : ∀ c∈cs,vj c=0) (hk:0<=k/\k<=999999999) (hl:cs.length<=250000):Few cs k:=by
 have hg : ∀ c∈cs,c.glyphs.length<=132:=fun c hc=>(chk_gl (h c hc)).1
 have:=glN_le hg;refine ⟨by omega,fun c hc=>⟨by have:=hg c hc;omega,fun g hg2=>?_⟩,by omega,hk.1,by omega⟩;have:=(gw_of ((chk_gl (h c hc)).2.1 g hg2)).2
 omega
theorem qhS {l:List ByteArray} (hl:l.length<=850000) : ∀ cs k,jm l=some (cs,k)->Few cs k:=fun cs k h=>by
 obtain ⟨h1,h2⟩:=qbv h;have:=qeb h;exact few_chk h1 h2 L0
theorem rlong42_ (l:List ByteArray) (A:Option Addr) (n c B:Nat) (w:World) (hm:n<=maxLen) (rd:Rd w B 1 A n (sv l)) :
  Calls prog 6 #[.slice A n c] w fun e w'=>e = .returned (.bool (!qcx 300 200 l))/\w'=w:=by
 have HN:Hid (l.length=n):=Lh (by have:=rd.1;rw [sv_len] at this;omega);have hmm:n<=9223372036854775807:=by unfold maxLen at hm;omega
 unfold qcx;rw [HN.out];clear hm
 by_cases h0:n<=300
 ·rw [Ll h0,Bool.true_and];have hi:(n:Int)<=300:=by omega
  have H0:Hid ((l.all fun s=>decide (s.size<=200))=((l.drop 0).all fun s=>decide (s.size<=200))):=Lh rfl;generalize (l.all fun s=>decide (s.size<=200))=R at *
  clear h0
  go_enter func6,ntmps6
  go_wp2
  go_loop [3] (fun x=>∃ k:Nat,k<=n/\x = .int .i64 k/\Hid (R=((l.drop k).all fun s=>decide (s.size<=200)))) (fun x=>n-(intOf x).toNat)
  case atStart=>exact ⟨0,Nat.zero_le _,rfl,H0⟩
  case round =>
   obtain ⟨k,hk,rfl,HK⟩:=hrel
   by_cases hlt:k<n
   ·have hkl:k<l.length:=by have:=HN.out;omega
    obtain ⟨b,o,rfl,_,g0⟩:=rd.at_ hlt;rw [yM _ _ hkl] at g0;have HD:=Lh (all_drop (fun s:ByteArray=>decide (s.size<=200)) hkl);generalize l[k]=t at *
    by_cases hz:t.size<=200
    ·have HR2:Hid (R=((l.drop (k+1)).all fun s=>decide (s.size<=200))):=Lh (by rw [HK.out,HD.out,Ll hz];rfl);have hzi:(t.size:Int)<=200:=by omega
     clear HK HD hz;go_wp2;exact ⟨⟨k+1,by omega,by go_num,HR2⟩,by simp [intOf];omega⟩
    ·have HR2:Hid (R=false):=Lh (by rw [HK.out,HD.out,Lk hz];rfl);have hzi:(200:Int)<(t.size:Int):=by omega
     clear HK HD hz;go_wp2;go_ret;exact ⟨by rw [HR2.out];rfl,rfl⟩
   ·have HR2:Hid (R=true):=Lh (by rw [HK.out,Lv (by have:=HN.out;omega)];rfl);go_wp2;go_ret;exact ⟨by rw [HR2.out];rfl,rfl⟩
 ·rw [Lk h0,Bool.false_and];have hi:(300:Int)<(n:Int):=by omega
  clear h0 rd HN
  go_enter func6,ntmps6
  go_wp2;go_ret;exact ⟨rfl,rfl⟩
end Go.Proofs.YtbogmeeijdaijaaGreatDoor
