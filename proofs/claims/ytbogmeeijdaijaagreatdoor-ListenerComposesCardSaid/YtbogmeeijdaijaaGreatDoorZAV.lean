/- Joined: Lw4. -/
import Derived.Test.YtbogmeeijdaijaaGreatDoorZAS
import Derived.Test.YtbogmeeijdaijaaGreatDoorZAT
set_option linter.unusedVariables false
set_option linter.unusedSimpArgs false
set_option linter.unnecessarySimpa false
set_option maxHeartbeats 4000000
namespace Go.Proofs.YtbogmeeijdaijaaGreatDoor
open Go.Proofs.Tryz Go.RowKit
set_option maxRecDepth 20000
def qaC (v:Vw):Bool:=decide (12<v.rows.length) || (decide (40<v.width)&&decide (2<v.rows.length)) || v.rows.any zA
theorem qek (v:Vw) (A:Option Addr) (n c B:Nat) (rs:List RowM) (w:World) (rd:RdV w B v A n c rs) (hB:B<=w.heap.size) :
  Calls prog 5 #[.agg (vwC v A n c)] w (qh (.bool (qaC v)) w):=by
 have HN:Hid (rs.length=n):=Lh rd.1.len;have hnm:n<=9223372036854775807:=by have h1:=rd.2.2.1;have h2:=rd.2.2.2;unfold maxLen at h2;omega
 have HA:Hid (∀ k (hk:k<rs.length) w',Below w.heap.size w w'->∃ b o,A=some ⟨b,o,none⟩/\b<w.heap.size/\w'.cell? ⟨b,o+k,none⟩=some (.slice rs[k].A rs[k].l.length rs[k].cap)):=Lh fun k hk w' hb=>((rd.1.more hB).below hb).at_ hk
 have HG:Hid (∀ x∈rs,∀ w',Below w.heap.size w w'->Calls prog 14 #[.slice x.A x.l.length x.cap] w' fun e w''=>e = .returned (.bool (zA x.l))/\w''=w'):=Lh fun x hx w' hb=>qeP _ _ _ _ w.heap.size w' (Lj (rd.1.gl x hx).2.1 (rd.1.gl x hx).2.2) (((rd.1.gl x hx).1.more hB).below hb)
 have hgv:qaC v=(decide (12<n) || (decide (40<v.width)&&decide (2<n)) || (rls rs).any zA):=by unfold qaC;rw [rd.len,rd.2.1]
 rw [hgv];have H0:Hid ((rls rs).any zA=((rls rs).drop 0).any zA):=Lh rfl;generalize hR:(rls rs).any zA=R at *
 clear rd hgv hR;obtain ⟨W,Hh,rows,row,col,vis⟩:=v;dsimp only
 by_cases h1:12<n
 ·have d1:decide ((12:Int)<(n:Int))=true:=Ll L0;rw [Ll h1,Bool.true_or,Bool.true_or];clear h1;clear HA HG H0 HN
  go_enter func5,ntmps5
  go_upto_region 1 with fail
  refine qa (VwBox w ⟨W,Hh,rows,row,col,vis⟩ A n c) (VwBox.new w ⟨W,Hh,rows,row,col,vis⟩ A n c) ?_;intro X hX;obtain ⟨c0,c1,c2,c3,c4,c5⟩:=hX.cells;have hb:=hX.2;have hzX:=hX.lt;dsimp only at c0 c1 c2 c3 c4 c5;go_wp2;go_ret;exact ⟨rfl,hb⟩
 ·have d1:decide ((12:Int)<(n:Int))=false:=Lk L0;rw [Lk h1,Bool.false_or];clear h1
  by_cases h2:40<W
  ·have d2:decide ((40:Int)<W)=true:=Ll h2;rw [d2,Bool.true_and];clear h2
   by_cases h3:2<n
   ·have d3:decide ((2:Int)<(n:Int))=true:=Ll L0;rw [Ll h3,Bool.true_or];clear h3;clear HA HG H0 HN
    go_enter func5,ntmps5
    go_upto_region 1 with fail
    refine qa (VwBox w ⟨W,Hh,rows,row,col,vis⟩ A n c) (VwBox.new w ⟨W,Hh,rows,row,col,vis⟩ A n c) ?_;intro X hX;obtain ⟨c0,c1,c2,c3,c4,c5⟩:=hX.cells;have hb:=hX.2;have hzX:=hX.lt;dsimp only at c0 c1 c2 c3 c4 c5;go_wp2;go_ret;exact ⟨rfl,hb⟩
   ·have d3:decide ((2:Int)<(n:Int))=false:=Lk L0;rw [Lk h3,Bool.false_or];clear h3
    go_enter func5,ntmps5
    go_upto_region 1 with fail
    refine qa (VwBox w ⟨W,Hh,rows,row,col,vis⟩ A n c) (VwBox.new w ⟨W,Hh,rows,row,col,vis⟩ A n c) ?_;intro X hX;obtain ⟨c0,c1,c2,c3,c4,c5⟩:=hX.cells;have hb:=hX.2;have hzX:=hX.lt;dsimp only at c0 c1 c2 c3 c4 c5;go_wp2
    go_loopw [3] (fun x wr=>∃ k:Nat,k<=n/\x = .int .i64 k/\VwBox w ⟨W,Hh,rows,row,col,vis⟩ A n c wr/\Hid (R=((rls rs).drop k).any zA)) (fun x _=>n-(intOf x).toNat)
    case atStart=>exact ⟨0,Nat.zero_le _,rfl,hX,H0⟩
    case round =>
     clear c0 c1 c2 c3 c4 c5 hX hb hzX H0;obtain ⟨k,hk,rfl,hX,HK⟩:=hrel;obtain ⟨c0,c1,c2,c3,c4,c5⟩:=hX.cells;have hb:=hX.2;dsimp only at c0 c1 c2 c3 c4 c5
     by_cases hlt:k<n
     ·have hkl:k<rs.length:=by have:=HN.out;omega
      obtain ⟨b,o,rfl,_,g0⟩:=HA.out k hkl _ hb;have HD:Hid (((rls rs).drop k).any zA=(zA rs[k].l || ((rls rs).drop (k+1)).any zA)):=Lh (by rw [qb4 zA (by rw [vJ];exact hkl),qiE hkl]);have HC:=Lh (HG.out _ (Lt hkl));generalize rs[k]=x at *
      obtain ⟨l,Al,cl⟩:=x;dsimp only at *
      have hki:(k:Int)<n:=by omega
      cases hgr:zA l with
      | true =>
       rw [hgr] at HC HD;have HR2:Hid (R=true):=Lh (by rw [HK.out,HD.out];rfl);clear HK HD hgr
       go_wp2_with (go_at_call 14;refine (HC.out _ hb).mono ?_;rintro e w1 ⟨rfl,rfl⟩)
       go_ret;exact ⟨by rw [HR2.out];rfl,hb⟩
      | false =>
       rw [hgr] at HC HD;have HR2:Hid (R=((rls rs).drop (k+1)).any zA):=Lh (by rw [HK.out,HD.out];rfl);clear HK HD hgr
       go_wp2_with (go_at_call 14;refine (HC.out _ hb).mono ?_;rintro e w1 ⟨rfl,rfl⟩)
       exact ⟨⟨k+1,by omega,by go_num,hX,HR2⟩,by simp [intOf];omega⟩
     ·have HR2:Hid (R=false):=Lh (by rw [HK.out,Lv (by rw [vJ];have:=HN.out;omega)];rfl);obtain rfl:k=n:=by omega
      go_wp2;go_ret;exact ⟨by rw [HR2.out];rfl,hb⟩
  ·have d2:decide ((40:Int)<W)=false:=Lk h2;rw [d2,Bool.false_and,Bool.false_or];clear h2
   go_enter func5,ntmps5
   go_upto_region 1 with fail
   refine qa (VwBox w ⟨W,Hh,rows,row,col,vis⟩ A n c) (VwBox.new w ⟨W,Hh,rows,row,col,vis⟩ A n c) ?_;intro X hX;obtain ⟨c0,c1,c2,c3,c4,c5⟩:=hX.cells;have hb:=hX.2;have hzX:=hX.lt;dsimp only at c0 c1 c2 c3 c4 c5;go_wp2
   go_loopw [3] (fun x wr=>∃ k:Nat,k<=n/\x = .int .i64 k/\VwBox w ⟨W,Hh,rows,row,col,vis⟩ A n c wr/\Hid (R=((rls rs).drop k).any zA)) (fun x _=>n-(intOf x).toNat)
   case atStart=>exact ⟨0,Nat.zero_le _,rfl,hX,H0⟩
   case round =>
    clear c0 c1 c2 c3 c4 c5 hX hb hzX H0;obtain ⟨k,hk,rfl,hX,HK⟩:=hrel;obtain ⟨c0,c1,c2,c3,c4,c5⟩:=hX.cells;have hb:=hX.2;dsimp only at c0 c1 c2 c3 c4 c5
    by_cases hlt:k<n
    ·have hkl:k<rs.length:=by have:=HN.out;omega
     obtain ⟨b,o,rfl,_,g0⟩:=HA.out k hkl _ hb;have HD:Hid (((rls rs).drop k).any zA=(zA rs[k].l || ((rls rs).drop (k+1)).any zA)):=Lh (by rw [qb4 zA (by rw [vJ];exact hkl),qiE hkl]);have HC:=Lh (HG.out _ (Lt hkl));generalize rs[k]=x at *
     obtain ⟨l,Al,cl⟩:=x;dsimp only at *
     have hki:(k:Int)<n:=by omega
     cases hgr:zA l with
     | true =>
      rw [hgr] at HC HD;have HR2:Hid (R=true):=Lh (by rw [HK.out,HD.out];rfl);clear HK HD hgr
      go_wp2_with (go_at_call 14;refine (HC.out _ hb).mono ?_;rintro e w1 ⟨rfl,rfl⟩)
      go_ret;exact ⟨by rw [HR2.out];rfl,hb⟩
     | false =>
      rw [hgr] at HC HD;have HR2:Hid (R=((rls rs).drop (k+1)).any zA):=Lh (by rw [HK.out,HD.out];rfl);clear HK HD hgr
      go_wp2_with (go_at_call 14;refine (HC.out _ hb).mono ?_;rintro e w1 ⟨rfl,rfl⟩)
      exact ⟨⟨k+1,by omega,by go_num,hX,HR2⟩,by simp [intOf];omega⟩
    ·have HR2:Hid (R=false):=Lh (by rw [HK.out,Lv (by rw [vJ];have:=HN.out;omega)];rfl);obtain rfl:k=n:=by omega
     go_wp2;go_ret;exact ⟨by rw [HR2.out];rfl,hb⟩
end Go.Proofs.YtbogmeeijdaijaaGreatDoor
