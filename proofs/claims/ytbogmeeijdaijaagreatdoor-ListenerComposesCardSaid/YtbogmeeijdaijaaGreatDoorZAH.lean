/- Joined: Lv8, Lv9, Lva, Lvb, Lvc, Lvd. -/
import Derived.Test.YtbogmeeijdaijaaGreatDoorZAG
set_option linter.unusedVariables false
set_option linter.unusedSimpArgs false
set_option linter.unnecessarySimpa false
set_option maxHeartbeats 4000000
namespace Go.Proofs.YtbogmeeijdaijaaGreatDoor
open Go.Proofs.Tryz Go.RowKit
set_option maxRecDepth 20000
theorem cblank_ (c:Chg) (A:Option Addr) (cap:Nat) (w:World):Calls prog 70 #[jH c A cap] w (qh (.bool (zS c)) w):=by
 obtain ⟨kind,row,col,count,til,g⟩:=c
 by_cases k1:kind=1
 ·have d1:(kind==1)=true:=beq_iff_eq.2 k1
  by_cases a1:count=0
  ·have e1:(count==0)=true:=beq_iff_eq.2 a1
   by_cases a2:til=0
   ·have e2:(til==0)=true:=beq_iff_eq.2 a2
    by_cases a3:g=[]
    ·have e3:((g.length:Int)==0)=true:=by simp [a3]
     have HE:Hid (zS ⟨kind,row,col,count,til,g⟩=true):=Lh (by simp [zS, *]);clear k1 a1 a2 a3
     go_enter func70,ntmps70
     go_upto_region 1 with fail
     refine qa (ChgBox w ⟨kind,row,col,count,til,g⟩ A cap) (ChgBox.new w ⟨kind,row,col,count,til,g⟩ A cap _) ?_;rintro X ⟨c0,c1,c2,c3,c4,c5,hb,hzX⟩;dsimp only at c0 c1 c2 c3 c4 c5;go_wp2;go_ret;exact ⟨by rw [HE.out];rfl,hb⟩
    ·have e3:((g.length:Int)==0)=false:=by simp [a3]
     have HE:Hid (zS ⟨kind,row,col,count,til,g⟩=false):=Lh (by simp [zS, *]);clear k1 a1 a2 a3
     go_enter func70,ntmps70
     go_upto_region 1 with fail
     refine qa (ChgBox w ⟨kind,row,col,count,til,g⟩ A cap) (ChgBox.new w ⟨kind,row,col,count,til,g⟩ A cap _) ?_;rintro X ⟨c0,c1,c2,c3,c4,c5,hb,hzX⟩;dsimp only at c0 c1 c2 c3 c4 c5;go_wp2;go_ret;exact ⟨by rw [HE.out];rfl,hb⟩
   ·have e2:(til==0)=false:=Lm.2 a2;have HE:Hid (zS ⟨kind,row,col,count,til,g⟩=false):=Lh (by simp [zS, *]);clear k1 a1 a2
    go_enter func70,ntmps70
    go_upto_region 1 with fail
    refine qa (ChgBox w ⟨kind,row,col,count,til,g⟩ A cap) (ChgBox.new w ⟨kind,row,col,count,til,g⟩ A cap _) ?_;rintro X ⟨c0,c1,c2,c3,c4,c5,hb,hzX⟩;dsimp only at c0 c1 c2 c3 c4 c5;go_wp2;go_ret;exact ⟨by rw [HE.out];rfl,hb⟩
  ·have e1:(count==0)=false:=Lm.2 a1;have HE:Hid (zS ⟨kind,row,col,count,til,g⟩=false):=Lh (by simp [zS, *]);clear k1 a1
   go_enter func70,ntmps70
   go_upto_region 1 with fail
   refine qa (ChgBox w ⟨kind,row,col,count,til,g⟩ A cap) (ChgBox.new w ⟨kind,row,col,count,til,g⟩ A cap _) ?_;rintro X ⟨c0,c1,c2,c3,c4,c5,hb,hzX⟩;dsimp only at c0 c1 c2 c3 c4 c5;go_wp2;go_ret;exact ⟨by rw [HE.out];rfl,hb⟩
 ·have d1:(kind==1)=false:=Lm.2 k1
  by_cases k2:kind=2
  ·have d2:(kind==2)=true:=beq_iff_eq.2 k2
   by_cases a1:col=0
   ·have e1:(col==0)=true:=beq_iff_eq.2 a1
    by_cases a3:g=[]
    ·have e3:((g.length:Int)==0)=true:=by simp [a3]
     have HE:Hid (zS ⟨kind,row,col,count,til,g⟩=true):=Lh (by simp [zS, *]);clear k1 k2 a1 a3
     go_enter func70,ntmps70
     go_upto_region 1 with fail
     refine qa (ChgBox w ⟨kind,row,col,count,til,g⟩ A cap) (ChgBox.new w ⟨kind,row,col,count,til,g⟩ A cap _) ?_;rintro X ⟨c0,c1,c2,c3,c4,c5,hb,hzX⟩;dsimp only at c0 c1 c2 c3 c4 c5;go_wp2;go_ret;exact ⟨by rw [HE.out];rfl,hb⟩
    ·have e3:((g.length:Int)==0)=false:=by simp [a3]
     have HE:Hid (zS ⟨kind,row,col,count,til,g⟩=false):=Lh (by simp [zS, *]);clear k1 k2 a1 a3
     go_enter func70,ntmps70
     go_upto_region 1 with fail
     refine qa (ChgBox w ⟨kind,row,col,count,til,g⟩ A cap) (ChgBox.new w ⟨kind,row,col,count,til,g⟩ A cap _) ?_;rintro X ⟨c0,c1,c2,c3,c4,c5,hb,hzX⟩;dsimp only at c0 c1 c2 c3 c4 c5;go_wp2;go_ret;exact ⟨by rw [HE.out];rfl,hb⟩
   ·have e1:(col==0)=false:=Lm.2 a1;have HE:Hid (zS ⟨kind,row,col,count,til,g⟩=false):=Lh (by simp [zS, *]);clear k1 k2 a1
    go_enter func70,ntmps70
    go_upto_region 1 with fail
    refine qa (ChgBox w ⟨kind,row,col,count,til,g⟩ A cap) (ChgBox.new w ⟨kind,row,col,count,til,g⟩ A cap _) ?_;rintro X ⟨c0,c1,c2,c3,c4,c5,hb,hzX⟩;dsimp only at c0 c1 c2 c3 c4 c5;go_wp2;go_ret;exact ⟨by rw [HE.out];rfl,hb⟩
  ·have d2:(kind==2)=false:=Lm.2 k2
   by_cases k3:kind=3
   ·have d3:(kind==3)=true:=beq_iff_eq.2 k3
    by_cases a2:til=0
    ·have e2:(til==0)=true:=beq_iff_eq.2 a2;have HE:Hid (zS ⟨kind,row,col,count,til,g⟩=true):=Lh (by simp [zS, *]);clear k1 k2 k3 a2
     go_enter func70,ntmps70
     go_upto_region 1 with fail
     refine qa (ChgBox w ⟨kind,row,col,count,til,g⟩ A cap) (ChgBox.new w ⟨kind,row,col,count,til,g⟩ A cap _) ?_;rintro X ⟨c0,c1,c2,c3,c4,c5,hb,hzX⟩;dsimp only at c0 c1 c2 c3 c4 c5;go_wp2;go_ret;exact ⟨by rw [HE.out];rfl,hb⟩
    ·have e2:(til==0)=false:=Lm.2 a2;have HE:Hid (zS ⟨kind,row,col,count,til,g⟩=false):=Lh (by simp [zS, *]);clear k1 k2 k3 a2
     go_enter func70,ntmps70
     go_upto_region 1 with fail
     refine qa (ChgBox w ⟨kind,row,col,count,til,g⟩ A cap) (ChgBox.new w ⟨kind,row,col,count,til,g⟩ A cap _) ?_;rintro X ⟨c0,c1,c2,c3,c4,c5,hb,hzX⟩;dsimp only at c0 c1 c2 c3 c4 c5;go_wp2;go_ret;exact ⟨by rw [HE.out];rfl,hb⟩
   ·have d3:(kind==3)=false:=Lm.2 k3
    by_cases a2:til=0
    ·have e2:(til==0)=true:=beq_iff_eq.2 a2
     by_cases a3:g=[]
     ·have e3:((g.length:Int)==0)=true:=by simp [a3]
      have HE:Hid (zS ⟨kind,row,col,count,til,g⟩=true):=Lh (by simp [zS, *]);clear k1 k2 k3 a2 a3
      go_enter func70,ntmps70
      go_upto_region 1 with fail
      refine qa (ChgBox w ⟨kind,row,col,count,til,g⟩ A cap) (ChgBox.new w ⟨kind,row,col,count,til,g⟩ A cap _) ?_;rintro X ⟨c0,c1,c2,c3,c4,c5,hb,hzX⟩;dsimp only at c0 c1 c2 c3 c4 c5;go_wp2;go_ret;exact ⟨by rw [HE.out];rfl,hb⟩
     ·have e3:((g.length:Int)==0)=false:=by simp [a3]
      have HE:Hid (zS ⟨kind,row,col,count,til,g⟩=false):=Lh (by simp [zS, *]);clear k1 k2 k3 a2 a3
      go_enter func70,ntmps70
      go_upto_region 1 with fail
      refine qa (ChgBox w ⟨kind,row,col,count,til,g⟩ A cap) (ChgBox.new w ⟨kind,row,col,count,til,g⟩ A cap _) ?_;rintro X ⟨c0,c1,c2,c3,c4,c5,hb,hzX⟩;dsimp only at c0 c1 c2 c3 c4 c5;go_wp2;go_ret;exact ⟨by rw [HE.out];rfl,hb⟩
    ·have e2:(til==0)=false:=Lm.2 a2;have HE:Hid (zS ⟨kind,row,col,count,til,g⟩=false):=Lh (by simp [zS, *]);clear k1 k2 k3 a2
     go_enter func70,ntmps70
     go_upto_region 1 with fail
     refine qa (ChgBox w ⟨kind,row,col,count,til,g⟩ A cap) (ChgBox.new w ⟨kind,row,col,count,til,g⟩ A cap _) ?_;rintro X ⟨c0,c1,c2,c3,c4,c5,hb,hzX⟩;dsimp only at c0 c1 c2 c3 c4 c5;go_wp2;go_ret;exact ⟨by rw [HE.out];rfl,hb⟩
theorem qbX (n a b:Int) (w:World):Calls prog 69 #[.int .i64 n,.int .i64 a,.int .i64 b] w (Quiet (.bool (inB n a b)) w):=(btw_ n a b w).mono fun _ _ ⟨h1,h2⟩=>⟨h1,0,by subst h2;rfl⟩
theorem kk {v:Vw} {row col count til:Int} {g:List Gl}:zh v ⟨2,row,col,count,til,g⟩=decide (0<=row/\row<til/\til<=v.height/\count≠0/\count<til-row/\row-til<count):=rfl
theorem qai {v:Vw} {row col count til:Int} {g:List Gl}:zh v ⟨3,row,col,count,til,g⟩=decide (0<=row/\row<=v.height-1/\0<=col/\col<=264/\0<=count/\(count=0∨col+count<=((v.rows.getD row.toNat []).length:Int))):=rfl
theorem qg6 {v:Vw} {row col count til:Int} {g:List Gl}:zh v ⟨4,row,col,count,til,g⟩=(inB row 0 (v.height-1)&&inB col 0 (v.width-1)&&inB count 0 1):=by
 rw [Bool.eq_iff_iff]
 simp [zh,inB]
 omega
section
variable {base G : Nat} {W Hh : Int} {rows : List (List Gl)} {vr vc : Int} {vis : Bool} {rs : List RowM} {A : Option Addr} {cA : Nat} {X0 : World} {row col count til : Int} {g : List Gl} {Ag : Option Addr} {cap : Nat}
theorem qhN (HB:Hid (Blk X0 G 83 (vwC ⟨W,Hh,rows,vr,vc,vis⟩ A rs.length cA))):Calls prog 71 #[.pointer (some ⟨G,0,none⟩),jH ⟨1,row,col,count,til,g⟩ Ag cap] X0 (qh (.bool (zh ⟨W,Hh,rows,vr,vc,vis⟩ ⟨1,row,col,count,til,g⟩)) X0):=by
 have HE:Hid (zh ⟨W,Hh,rows,vr,vc,vis⟩ ⟨1,row,col,count,til,g⟩=(inB row 1 60&&inB col 1 132)):=Lh (by
  rw [Bool.eq_iff_iff];simp [zh,inB];omega)
 cases z1:inB row 1 60 with
 | false =>
  rw [z1] at HE
  go_enter func71,ntmps71
  go_upto_region 1 with fail
  refine qa (ChgBox X0 ⟨1,row,col,count,til,g⟩ Ag cap) (ChgBox.new X0 ⟨1,row,col,count,til,g⟩ Ag cap _) ?_;rintro X ⟨c0,c1,c2,c3,c4,c5,hb,hzX⟩;dsimp only at c0 c1 c2 c3 c4 c5;obtain ⟨e0,e1,e2,e3,e4,e5⟩:=qw (HB.out.below hb HB.out.lt);dsimp only at e0 e1 e2 e3 e4 e5
  go_wp2_with (go_at_call 69;refine (btw_ _ _ _ _).mono ?_;rintro e wy ⟨rfl,rfl⟩)
  go_ret;exact ⟨by rw [HE.out];rfl,hb⟩
 | true =>
  rw [z1] at HE
  go_enter func71,ntmps71
  go_upto_region 1 with fail
  refine qa (ChgBox X0 ⟨1,row,col,count,til,g⟩ Ag cap) (ChgBox.new X0 ⟨1,row,col,count,til,g⟩ Ag cap _) ?_;rintro X ⟨c0,c1,c2,c3,c4,c5,hb,hzX⟩;dsimp only at c0 c1 c2 c3 c4 c5;obtain ⟨e0,e1,e2,e3,e4,e5⟩:=qw (HB.out.below hb HB.out.lt);dsimp only at e0 e1 e2 e3 e4 e5
  go_wp2_with (go_at_call 69;refine (btw_ _ _ _ _).mono ?_;rintro e wy ⟨rfl,rfl⟩)
  go_ret;exact ⟨by rw [HE.out];rfl,hb⟩
theorem qhE (HB:Hid (Blk X0 G 83 (vwC ⟨W,Hh,rows,vr,vc,vis⟩ A rs.length cA))) (hh:Hh<=1000):Calls prog 71 #[.pointer (some ⟨G,0,none⟩),jH ⟨2,row,col,count,til,g⟩ Ag cap] X0 (qh (.bool (zh ⟨W,Hh,rows,vr,vc,vis⟩ ⟨2,row,col,count,til,g⟩)) X0):=by
 by_cases a1:0<=row
 ·have b1:decide (0<=row)=true:=Ll a1
  by_cases a2:row<til
  ·have b2:decide (row<til)=true:=Ll a2
   by_cases a3:til<=Hh
   ·have b3:decide (til<=Hh)=true:=Ll a3
    by_cases a4:count=0
    ·have b4:(count != 0)=false:=by simp [a4]
     have HE:Hid (zh ⟨W,Hh,rows,vr,vc,vis⟩ ⟨2,row,col,count,til,g⟩=false):=Lh (by simp [zh,a4]);clear a4
     go_enter func71,ntmps71
     go_upto_region 1 with fail
     refine qa (ChgBox X0 ⟨2,row,col,count,til,g⟩ Ag cap) (ChgBox.new X0 ⟨2,row,col,count,til,g⟩ Ag cap _) ?_;rintro X ⟨c0,c1,c2,c3,c4,c5,hb,hzX⟩;dsimp only at c0 c1 c2 c3 c4 c5;obtain ⟨e0,e1,e2,e3,e4,e5⟩:=qw (HB.out.below hb HB.out.lt);dsimp only at e0 e1 e2 e3 e4 e5;go_wp2
     go_quiet (fail)
     go_wp2;go_ret;exact ⟨by rw [HE.out];rfl,qf hb⟩
    ·have b4:(count != 0)=true:=Ln.2 a4;have w1:IntKind.i64.wrap (til-row)=til-row:=by rw [Lx];omega
     have w2:IntKind.i64.wrap (row-til)=row-til:=by rw [Lx];omega
     by_cases a5:count<til-row
     ·have b5:decide (count<til-row)=true:=Ll a5
      by_cases a6:row-til<count
      ·have b6:decide (row-til<count)=true:=Ll a6;have HE:Hid (zh ⟨W,Hh,rows,vr,vc,vis⟩ ⟨2,row,col,count,til,g⟩=true):=Lh (by rw [kk];exact Ll (by dsimp only;omega));clear a4 a5 a6
       go_enter func71,ntmps71
       go_upto_region 1 with fail
       refine qa (ChgBox X0 ⟨2,row,col,count,til,g⟩ Ag cap) (ChgBox.new X0 ⟨2,row,col,count,til,g⟩ Ag cap _) ?_;rintro X ⟨c0,c1,c2,c3,c4,c5,hb,hzX⟩;dsimp only at c0 c1 c2 c3 c4 c5;obtain ⟨e0,e1,e2,e3,e4,e5⟩:=qw (HB.out.below hb HB.out.lt);dsimp only at e0 e1 e2 e3 e4 e5;go_wp2
       go_quiet (fail)
       go_wp2;go_ret;exact ⟨by rw [HE.out];rfl,qf hb⟩
      ·have b6:decide (row-til<count)=false:=Lk a6;have HE:Hid (zh ⟨W,Hh,rows,vr,vc,vis⟩ ⟨2,row,col,count,til,g⟩=false):=Lh (by rw [kk];exact Lk (by dsimp only;omega));clear a4 a5 a6
       go_enter func71,ntmps71
       go_upto_region 1 with fail
       refine qa (ChgBox X0 ⟨2,row,col,count,til,g⟩ Ag cap) (ChgBox.new X0 ⟨2,row,col,count,til,g⟩ Ag cap _) ?_;rintro X ⟨c0,c1,c2,c3,c4,c5,hb,hzX⟩;dsimp only at c0 c1 c2 c3 c4 c5;obtain ⟨e0,e1,e2,e3,e4,e5⟩:=qw (HB.out.below hb HB.out.lt);dsimp only at e0 e1 e2 e3 e4 e5;go_wp2
       go_quiet (fail)
       go_wp2;go_ret;exact ⟨by rw [HE.out];rfl,qf hb⟩
     ·have b5:decide (count<til-row)=false:=Lk a5;have HE:Hid (zh ⟨W,Hh,rows,vr,vc,vis⟩ ⟨2,row,col,count,til,g⟩=false):=Lh (by rw [kk];exact Lk (by dsimp only;omega));clear a4 a5
      go_enter func71,ntmps71
      go_upto_region 1 with fail
      refine qa (ChgBox X0 ⟨2,row,col,count,til,g⟩ Ag cap) (ChgBox.new X0 ⟨2,row,col,count,til,g⟩ Ag cap _) ?_;rintro X ⟨c0,c1,c2,c3,c4,c5,hb,hzX⟩;dsimp only at c0 c1 c2 c3 c4 c5;obtain ⟨e0,e1,e2,e3,e4,e5⟩:=qw (HB.out.below hb HB.out.lt);dsimp only at e0 e1 e2 e3 e4 e5;go_wp2
      go_quiet (fail)
      go_wp2;go_ret;exact ⟨by rw [HE.out];rfl,qf hb⟩
   ·have b3:decide (til<=Hh)=false:=Lk a3;have HE:Hid (zh ⟨W,Hh,rows,vr,vc,vis⟩ ⟨2,row,col,count,til,g⟩=false):=Lh (by rw [kk];exact Lk (by dsimp only;omega));clear a3
    go_enter func71,ntmps71
    go_upto_region 1 with fail
    refine qa (ChgBox X0 ⟨2,row,col,count,til,g⟩ Ag cap) (ChgBox.new X0 ⟨2,row,col,count,til,g⟩ Ag cap _) ?_;rintro X ⟨c0,c1,c2,c3,c4,c5,hb,hzX⟩;dsimp only at c0 c1 c2 c3 c4 c5;obtain ⟨e0,e1,e2,e3,e4,e5⟩:=qw (HB.out.below hb HB.out.lt);dsimp only at e0 e1 e2 e3 e4 e5;go_wp2
    go_quiet (fail)
    go_wp2;go_ret;exact ⟨by rw [HE.out];rfl,qf hb⟩
  ·have b2:decide (row<til)=false:=Lk a2;have HE:Hid (zh ⟨W,Hh,rows,vr,vc,vis⟩ ⟨2,row,col,count,til,g⟩=false):=Lh (by rw [kk];exact Lk (by dsimp only;omega));clear a2
   go_enter func71,ntmps71
   go_upto_region 1 with fail
   refine qa (ChgBox X0 ⟨2,row,col,count,til,g⟩ Ag cap) (ChgBox.new X0 ⟨2,row,col,count,til,g⟩ Ag cap _) ?_;rintro X ⟨c0,c1,c2,c3,c4,c5,hb,hzX⟩;dsimp only at c0 c1 c2 c3 c4 c5;obtain ⟨e0,e1,e2,e3,e4,e5⟩:=qw (HB.out.below hb HB.out.lt);dsimp only at e0 e1 e2 e3 e4 e5;go_wp2
   go_quiet (fail)
   go_wp2;go_ret;exact ⟨by rw [HE.out];rfl,qf hb⟩
 ·have b1:decide (0<=row)=false:=Lk a1;have HE:Hid (zh ⟨W,Hh,rows,vr,vc,vis⟩ ⟨2,row,col,count,til,g⟩=false):=Lh (by rw [kk];exact Lk (by dsimp only;omega));clear a1
  go_enter func71,ntmps71
  go_upto_region 1 with fail
  refine qa (ChgBox X0 ⟨2,row,col,count,til,g⟩ Ag cap) (ChgBox.new X0 ⟨2,row,col,count,til,g⟩ Ag cap _) ?_;rintro X ⟨c0,c1,c2,c3,c4,c5,hb,hzX⟩;dsimp only at c0 c1 c2 c3 c4 c5;obtain ⟨e0,e1,e2,e3,e4,e5⟩:=qw (HB.out.below hb HB.out.lt);dsimp only at e0 e1 e2 e3 e4 e5;go_wp2
  go_quiet (fail)
  go_wp2;go_ret;exact ⟨by rw [HE.out];rfl,qf hb⟩
theorem qfv (HB:Hid (Blk X0 G 83 (vwC ⟨W,Hh,rows,vr,vc,vis⟩ A rs.length cA))) (hlen:(rs.length:Int)=Hh) (hh:Hh<=1000) (hrows:rows=rls rs) (ho:X0.ownsRow base 45 1 (.slice A rs.length cA) rs.length (zQ rs)) (hrl : ∀ x∈rs,x.l.length<=1000000000):Calls prog 71 #[.pointer (some ⟨G,0,none⟩),jH ⟨3,row,col,count,til,g⟩ Ag cap] X0 (qh (.bool (zh ⟨W,Hh,rows,vr,vc,vis⟩ ⟨3,row,col,count,til,g⟩)) X0):=by
 have w1:IntKind.i64.wrap (Hh-1)=Hh-1:=by rw [Lx];omega
 cases z1:inB row 0 (Hh-1) with
 | false =>
  have HE:Hid (zh ⟨W,Hh,rows,vr,vc,vis⟩ ⟨3,row,col,count,til,g⟩=false):=Lh (by
   rw [qai];refine Lk fun h=>?_
   unfold inB at z1;rw [Ll h.1,Ll h.2.1] at z1
   cases z1)
  clear hrows ho hrl hlen
  go_enter func71,ntmps71
  go_upto_region 1 with fail
  refine qa (ChgBox X0 ⟨3,row,col,count,til,g⟩ Ag cap) (ChgBox.new X0 ⟨3,row,col,count,til,g⟩ Ag cap _) ?_;rintro X ⟨c0,c1,c2,c3,c4,c5,hb,hzX⟩;dsimp only at c0 c1 c2 c3 c4 c5;obtain ⟨e0,e1,e2,e3,e4,e5⟩:=qw (HB.out.below hb HB.out.lt);dsimp only at e0 e1 e2 e3 e4 e5;go_wp2
  go_quiet ((go_at_call 69;exact Calls.quiet_of (qbX _ _ _ _)))
  go_wp2;go_ret;exact ⟨by rw [HE.out];rfl,qf hb⟩
 | true =>
  obtain ⟨r0,r1⟩:=qff z1
  cases z2:inB col 0 264 with
  | false =>
   have HE:Hid (zh ⟨W,Hh,rows,vr,vc,vis⟩ ⟨3,row,col,count,til,g⟩=false):=Lh (by
    rw [qai];refine Lk fun h=>?_
    unfold inB at z2;rw [Ll h.2.2.1,Ll h.2.2.2.1] at z2
    cases z2)
   clear hrows ho hrl hlen
   go_enter func71,ntmps71
   go_upto_region 1 with fail
   refine qa (ChgBox X0 ⟨3,row,col,count,til,g⟩ Ag cap) (ChgBox.new X0 ⟨3,row,col,count,til,g⟩ Ag cap _) ?_;rintro X ⟨c0,c1,c2,c3,c4,c5,hb,hzX⟩;dsimp only at c0 c1 c2 c3 c4 c5;obtain ⟨e0,e1,e2,e3,e4,e5⟩:=qw (HB.out.below hb HB.out.lt);dsimp only at e0 e1 e2 e3 e4 e5;go_wp2
   go_quiet ((go_at_call 69;exact Calls.quiet_of (qbX _ _ _ _)))
   go_wp2;go_ret;exact ⟨by rw [HE.out];rfl,qf hb⟩
  | true =>
   obtain ⟨q0,q1⟩:=qff z2;obtain ⟨k,rfl⟩ : ∃ k:Nat,row=k:=⟨row.toNat,by omega⟩
   have hk:k<rs.length:=by omega
   obtain ⟨G1,cap1,hA,hG1,hG2⟩:=ho.form L0;obtain ⟨rfl,rfl⟩:A=some ⟨G1,0,none⟩/\cA=cap1:=by injection hA with h1 _ h2;exact ⟨h1,h2⟩
   have hcx:=ho.cellAt k L0;rw [yF hk] at hcx;have hL:=hrl _ (Lt hk);have hgd:rows.getD k []=rs[k].l:=by rw [hrows,qa4 hk]
   generalize rs[k]=x at *
   obtain ⟨l,Al,cl⟩:=x;dsimp only at *
   have w2:IntKind.i64.wrap ((l.length:Int)-col)=l.length-col:=by rw [Lx];omega
   obtain ⟨M,hM⟩ : ∃ M,max (0:Int) ((l.length:Int)-col)=M:=⟨_,rfl⟩
   have HE:Hid (zh ⟨W,Hh,rows,vr,vc,vis⟩ ⟨3,(k:Int),col,count,til,g⟩=inB count 0 M):=Lh (by
    rw [qai,Bool.eq_iff_iff,decide_eq_true_iff];simp only [Int.toNat_natCast,hgd];unfold inB;rw [Bool.and_eq_true,decide_eq_true_iff,decide_eq_true_iff]
    omega)
   have hki:(k:Int)<(rs.length:Int):=by omega
   clear hrows ho hrl hlen hgd hA
   go_enter func71,ntmps71
   go_upto_region 1 with fail
   refine qa (ChgBox X0 ⟨3,(k:Int),col,count,til,g⟩ Ag cap) (ChgBox.new X0 ⟨3,(k:Int),col,count,til,g⟩ Ag cap _) ?_;rintro X ⟨c0,c1,c2,c3,c4,c5,hb,hzX⟩;dsimp only at c0 c1 c2 c3 c4 c5;obtain ⟨e0,e1,e2,e3,e4,e5⟩:=qw (HB.out.below hb HB.out.lt);dsimp only at e0 e1 e2 e3 e4 e5;have hcx2:=(hb.cell (p:=⟨G1,k,none⟩) hG2).trans hcx;go_wp2
   go_quiet ((go_at_call 69;exact Calls.quiet_of (qbX _ _ _ _)))
   go_upto_region 9 with fail
   refine qa (fun Y=>Below X.heap.size X Y) (qf (Le _ _)) ?_;intro Y hY;have hGX:G<X.heap.size:=Ly HB.out.lt hb.size;have f1:=(hY.cell (p:=⟨X0.heap.size,1,none⟩) hzX).trans c1;have f2:=(hY.cell (p:=⟨X0.heap.size,2,none⟩) hzX).trans c2;have f3:=(hY.cell (p:=⟨X0.heap.size,3,none⟩) hzX).trans c3;have h2:=(hY.cell (p:=⟨G,2,none⟩) hGX).trans e2;have hcx3:=(hY.cell (p:=⟨G1,k,none⟩) (Ly hG2 hb.size)).trans hcx2;have hbY:=hb.trans (hY.mono hb.size);clear c0 c1 c2 c3 c4 c5 e0 e1 e2 e3 e4 e5 hcx hcx2 hY HB;go_wp2
   go_quiet ((go_at_call 69;exact Calls.quiet_of (qbX _ _ _ _)))
   go_wp2;go_ret;exact ⟨by rw [HE.out];rfl,qf hbY⟩
end
section
variable {base G : Nat} {W Hh : Int} {rows : List (List Gl)} {vr vc : Int} {vis : Bool} {rs : List RowM} {A : Option Addr} {cA : Nat} {X0 : World} {row col count til : Int} {g : List Gl} {Ag : Option Addr} {cap : Nat}
theorem qgS (HB:Hid (Blk X0 G 83 (vwC ⟨W,Hh,rows,vr,vc,vis⟩ A rs.length cA))) (hh0:0<=Hh) (hh:Hh<=1000) (hw0:0<=W) (hw:W<=1000):Calls prog 71 #[.pointer (some ⟨G,0,none⟩),jH ⟨4,row,col,count,til,g⟩ Ag cap] X0 (qh (.bool (zh ⟨W,Hh,rows,vr,vc,vis⟩ ⟨4,row,col,count,til,g⟩)) X0):=by
 have w1:IntKind.i64.wrap (Hh-1)=Hh-1:=by rw [Lx];omega
 have w2:IntKind.i64.wrap (W-1)=W-1:=by rw [Lx];omega
 have HE:=Lh (qg6 (v:=⟨W,Hh,rows,vr,vc,vis⟩) (row:=row) (col:=col) (count:=count) (til:=til) (g:=g));dsimp only at HE;have H1:=Lh (qbX row 0 (Hh-1));have H2:=Lh (qbX col 0 (W-1))
 cases z1:inB row 0 (Hh-1) with
 | false =>
  have HE2:Hid (zh ⟨W,Hh,rows,vr,vc,vis⟩ ⟨4,row,col,count,til,g⟩=false):=Lh (by rw [HE.out,z1];rfl);rw [z1] at H1;clear HE z1
  go_enter func71,ntmps71
  go_upto_region 1 with fail
  refine qa (ChgBox X0 ⟨4,row,col,count,til,g⟩ Ag cap) (ChgBox.new X0 ⟨4,row,col,count,til,g⟩ Ag cap _) ?_;rintro X ⟨c0,c1,c2,c3,c4,c5,hb,hzX⟩;dsimp only at c0 c1 c2 c3 c4 c5;obtain ⟨e0,e1,e2,e3,e4,e5⟩:=qw (HB.out.below hb HB.out.lt);dsimp only at e0 e1 e2 e3 e4 e5
  go_upto_region 10 with fail
  go_quiet ((first | (go_at_call_of 69 (Value.int .i64 row);exact Calls.quiet_of (H1.out _)) | (go_at_call_of 69 (Value.int .i64 col);exact Calls.quiet_of (H2.out _)) | (go_at_call 69;exact Calls.quiet_of (qbX _ _ _ _))))
  go_wp2;go_ret;exact ⟨by rw [HE2.out];rfl,qf hb⟩
 | true =>
  cases z2:inB col 0 (W-1) with
  | false =>
   have HE2:Hid (zh ⟨W,Hh,rows,vr,vc,vis⟩ ⟨4,row,col,count,til,g⟩=false):=Lh (by rw [HE.out,z1,z2];rfl);rw [z1] at H1;rw [z2] at H2;clear HE z1 z2
   go_enter func71,ntmps71
   go_upto_region 1 with fail
   refine qa (ChgBox X0 ⟨4,row,col,count,til,g⟩ Ag cap) (ChgBox.new X0 ⟨4,row,col,count,til,g⟩ Ag cap _) ?_;rintro X ⟨c0,c1,c2,c3,c4,c5,hb,hzX⟩;dsimp only at c0 c1 c2 c3 c4 c5;obtain ⟨e0,e1,e2,e3,e4,e5⟩:=qw (HB.out.below hb HB.out.lt);dsimp only at e0 e1 e2 e3 e4 e5
   go_upto_region 10 with fail
   go_quiet ((first | (go_at_call_of 69 (Value.int .i64 row);exact Calls.quiet_of (H1.out _)) | (go_at_call_of 69 (Value.int .i64 col);exact Calls.quiet_of (H2.out _)) | (go_at_call 69;exact Calls.quiet_of (qbX _ _ _ _))))
   go_wp2;go_ret;exact ⟨by rw [HE2.out];rfl,qf hb⟩
  | true =>
   have HE2:Hid (zh ⟨W,Hh,rows,vr,vc,vis⟩ ⟨4,row,col,count,til,g⟩=inB count 0 1):=Lh (by rw [HE.out,z1,z2];rfl);rw [z1] at H1;rw [z2] at H2;clear HE z1 z2
   go_enter func71,ntmps71
   go_upto_region 1 with fail
   refine qa (ChgBox X0 ⟨4,row,col,count,til,g⟩ Ag cap) (ChgBox.new X0 ⟨4,row,col,count,til,g⟩ Ag cap _) ?_;rintro X ⟨c0,c1,c2,c3,c4,c5,hb,hzX⟩;dsimp only at c0 c1 c2 c3 c4 c5;obtain ⟨e0,e1,e2,e3,e4,e5⟩:=qw (HB.out.below hb HB.out.lt);dsimp only at e0 e1 e2 e3 e4 e5
   go_upto_region 10 with fail
   go_quiet ((first | (go_at_call_of 69 (Value.int .i64 row);exact Calls.quiet_of (H1.out _)) | (go_at_call_of 69 (Value.int .i64 col);exact Calls.quiet_of (H2.out _)) | (go_at_call 69;exact Calls.quiet_of (qbX _ _ _ _))))
   go_wp2;go_ret;exact ⟨by rw [HE2.out];rfl,qf hb⟩
end
theorem cranges_ {base G:Nat} {v:Vw} {rs:List RowM} {A:Option Addr} {cA:Nat} {X0:World} (h:ED base G v rs A cA X0) (hlen:(rs.length:Int)=v.height) (hh:v.height<=1000) (hw0:0<=v.width) (hw:v.width<=1000) (hrl : ∀ x∈rs,x.l.length<=1000000000)
  (c:Chg) (Ag:Option Addr) (cap:Nat) (hk:1<=c.kind/\c.kind<=4):Calls prog 71 #[.pointer (some ⟨G,0,none⟩),jH c Ag cap] X0 (qh (.bool (zh v c)) X0):=by
 obtain ⟨W,Hh,rows,vr,vc,vis⟩:=v;obtain ⟨kind,row,col,count,til,g⟩:=c;dsimp only at hlen hh hw0 hw hk;have hk4:kind=1∨kind=2∨kind=3∨kind=4:=by omega
 rcases hk4 with rfl | rfl | rfl | rfl
 ·exact qhN (Lh h.blk)
 ·exact qhE (Lh h.blk) hh
 ·exact qfv (Lh h.blk) hlen hh h.eq h.rows hrl
 ·exact qgS (Lh h.blk) L0 hh hw0 hw
theorem ccheck_ {base G B:Nat} {v:Vw} {rs:List RowM} {A:Option Addr} {cA:Nat} {X0:World} (h:ED base G v rs A cA X0) (hlen:(rs.length:Int)=v.height) (hh:v.height<=1000) (hw0:0<=v.width) (hw:v.width<=1000) (hrl : ∀ x∈rs,x.l.length<=1000000000)
  (c:Chg) (Ag:Option Addr) (cap:Nat) (hB:B<=X0.heap.size) (rd:Rd X0 B 3 Ag c.glyphs.length (qi c.glyphs)) (hgl:c.glyphs.length<=1000000000) (hgz : ∀ x∈c.glyphs,x.text.size<=1000000000) (hu:U8 X0) :
  Calls prog 38 #[.pointer (some ⟨G,0,none⟩),jH c Ag cap] X0 (qh (.int .i64 (qan v c)) X0):=by
 have HBl:Hid (∀ w,_):=Lh (cblank_ c Ag cap);have HI:Hid (∀ w,_):=Lh (btw_ c.kind 1 4);have HR:Hid (1<=c.kind/\c.kind<=4->∀ w',Below X0.heap.size X0 w'->Calls prog 71 #[.pointer (some ⟨G,0,none⟩),jH c Ag cap] w' (qh (.bool (zh v c)) w')):=Lh fun hk w' hb=>cranges_ (h.below hb) hlen hh hw0 hw hrl c Ag cap hk
 have HP:Hid (∀ x∈c.glyphs,∀ w',Below X0.heap.size X0 w'->Calls prog 72 #[glV x] w' (qh (.int .i64 (qJ x)) w')):=Lh fun x hx w' hb=>(qcG x (hgz x hx) w' (hu.below hb)).2
 have HRd:Hid (∀ w',Below X0.heap.size X0 w'->Rd w' X0.heap.size 3 Ag c.glyphs.length (qi c.glyphs)):=Lh fun w' hb=>(rd.more hB).below hb
 unfold qan;clear h hlen hh hw0 hw hrl rd hgz hu
 by_cases hk:c.kind<1∨4<c.kind
 ·rw [if_pos hk];have e:inB c.kind 1 4=false:=by
   unfold inB
   rcases hk with h | h
   ·rw [Lk L0];rfl
   ·rw [Lk (show ¬ c.kind<=4 by omega),Bool.and_false]
  rw [e] at HI;clear hk e HBl HR HP HRd;obtain ⟨kind,row,col,count,til,g⟩:=c;dsimp only at *
  go_enter func38,ntmps38
  go_upto_region 1 with fail
  refine qa (ChgBox X0 ⟨kind,row,col,count,til,g⟩ Ag cap) (ChgBox.new X0 ⟨kind,row,col,count,til,g⟩ Ag cap _) ?_;intro X hX;obtain ⟨c0,c1,c2,c3,c4,c5,hb,hzX⟩:=id hX;dsimp only at c0 c1 c2 c3 c4 c5
  go_wp2_with (go_at_call 69;refine (HI.out _).mono ?_;rintro e wy ⟨rfl,rfl⟩)
  go_ret;exact ⟨rfl,hb⟩
 ·rw [if_neg hk];have HR2:=Lh (HR.out L0);have e:inB c.kind 1 4=true:=by unfold inB;rw [Ll L0,Ll L0];rfl
  rw [e] at HI;clear hk e HR
  by_cases hbl:zS c=false
  ·rw [if_pos hbl];rw [hbl] at HBl;clear hbl HR2 HP HRd;obtain ⟨kind,row,col,count,til,g⟩:=c;dsimp only at *
   go_enter func38,ntmps38
   go_upto_region 1 with fail
   refine qa (ChgBox X0 ⟨kind,row,col,count,til,g⟩ Ag cap) (ChgBox.new X0 ⟨kind,row,col,count,til,g⟩ Ag cap _) ?_;intro X hX;obtain ⟨c0,c1,c2,c3,c4,c5,hb,hzX⟩:=id hX;dsimp only at c0 c1 c2 c3 c4 c5
   go_wp2_with (first | (go_at_call 69;refine (HI.out _).mono ?_;rintro e wy ⟨rfl,rfl⟩) | (go_at_call 70;refine (HBl.out _).mono ?_;rintro e w1 ⟨rfl,hb1⟩))
   go_ret;exact ⟨rfl,hb.trans (hb1.mono L0)⟩
  ·rw [if_neg hbl];have hbl:zS c=true:=by simpa using hbl
   rw [hbl] at HBl;clear hbl;generalize zh v c=RC at *
   obtain ⟨kind,row,col,count,til,g⟩:=c;dsimp only at *
   go_enter func38,ntmps38
   go_upto_region 1 with fail
   refine qa (ChgBox X0 ⟨kind,row,col,count,til,g⟩ Ag cap) (ChgBox.new X0 ⟨kind,row,col,count,til,g⟩ Ag cap _) ?_;intro X hX;obtain ⟨c0,c1,c2,c3,c4,c5,hb,hzX⟩:=id hX;dsimp only at c0 c1 c2 c3 c4 c5
   go_upto_region 5 with (first | (go_at_call 69;refine (HI.out _).mono ?_;rintro e wy ⟨rfl,rfl⟩) | (go_at_call 70;refine (HBl.out _).mono ?_;rintro e w1 ⟨rfl,hb1⟩))
   have hX1:=hX.on hb1;obtain ⟨d0,d1,d2,d3,d4,d5,hbd,hzd⟩:=id hX1;dsimp only at d0 d1 d2 d3 d4 d5;clear c0 c1 c2 c3 c4 c5
   cases RC with
   | false =>
    rw [if_pos rfl]
    go_wp2_with (go_at_call 71;refine (HR2.out _ hbd).mono ?_;rintro e w2 ⟨rfl,hb2⟩)
    go_ret;exact ⟨rfl,hbd.trans (hb2.mono L0)⟩
   | true =>
    rw [if_neg L1];have H0:Hid (yK g=yK (g.drop 0)):=Lh rfl;generalize yK g=R at *
    go_upto_region 7 with (go_at_call 71;refine (HR2.out _ hbd).mono ?_;rintro e w2 ⟨rfl,hb2⟩)
    have hX2:=hX1.on hb2;obtain ⟨c0,c1,c2,c3,c4,c5,hbc,hzc⟩:=id hX2;dsimp only at c0 c1 c2 c3 c4 c5;clear d0 d1 d2 d3 d4 d5 hX1 hX hb1 hb2 hbd hb HR2 HBl HI;go_wp2
    go_loopw [25] (fun y wr=>∃ j:Nat,j<=g.length/\y = .int .i64 j/\Below X0.heap.size X0 wr/\Hid (R=yK (g.drop j))) (fun y _=>g.length-(intOf y).toNat)
    case atStart=>exact ⟨0,Nat.zero_le _,rfl,hbc,H0⟩
    case round =>
     clear c0 c1 c2 c3 c4 c5 hX2 H0 hbc;obtain ⟨j,hj,rfl,hb,HJ⟩:=hrel;have hzb:=hb.size
     by_cases hlt:j<g.length
     ·obtain ⟨b',o',rfl,hbB',g0,g1,g2⟩:=jE (HRd.out _ hb) hlt rfl;have HPj:=Lh (HP.out _ (Lt hlt));have HJ2:=HJ.out;rw [qdN hlt] at HJ2;generalize g[j]=q at *
      by_cases h0:qJ q=0
      ·rw [if_neg (show ¬ qJ q≠0 by simp [h0])] at HJ2;replace HJ2:=Lh HJ2;rw [h0] at HPj;clear h0 HJ;obtain ⟨t,wd,st⟩:=q;dsimp only at *
       go_wp2_with (go_at_call 72;refine (HPj.out _ (hb.alloc hzb _)).mono ?_;rintro e w1 ⟨rfl,hb1⟩)
       exact ⟨⟨j+1,by omega,by go_num,(hb.alloc hzb _).trans (hb1.mono (by simp;omega)),HJ2⟩,by simp [intOf];omega⟩
      ·rw [if_pos (show qJ q≠0 from h0)] at HJ2;replace HJ2:=Lh HJ2;have hn0:(qJ q != 0)=true:=Ln.2 h0;clear h0 HJ;generalize hq:qJ q=K at *
       clear hq;obtain ⟨t,wd,st⟩:=q;dsimp only at *
       go_wp2_with (go_at_call 72;refine (HPj.out _ (hb.alloc hzb _)).mono ?_;rintro e w1 ⟨rfl,hb1⟩)
       go_ret;exact ⟨by rw [HJ2.out];rfl,(hb.alloc hzb _).trans (hb1.mono (by simp;omega))⟩
     ·obtain rfl:j=g.length:=by omega
      have HJ2:Hid (R=0):=Lh (by rw [HJ.out,Lv (Ld _)];rfl);clear HJ;go_wp2;go_ret;exact ⟨by rw [HJ2.out];rfl,hb⟩
structure RB (X0:World) (A:Option Addr) (c:Nat) (rs:List RowM) (X:World):Prop where
 out:X.ownsRow X0.heap.size 45 1 (.slice A rs.length c) rs.length (zQ rs)
 gl : ∀ x∈rs,X.ownsRow X0.heap.size 64 3 (.slice x.A x.l.length x.cap) x.l.length (qi x.l)
 dj:(obS A::rs.map fun x=>obS x.A).Pairwise Dj
 bel:Below X0.heap.size X0 X
theorem RB.nil (X0:World):RB X0 none 0 [] X0:=⟨zY _ _ _ _,fun x hx=>(by cases hx),List.pairwise_singleton _ _,Le _ _⟩
section
variable {X0 X w1 w2 : World} {A : Option Addr} {c : Nat} {rs : List RowM}
theorem RB.below (h:RB X0 A c rs X) (hb:Below X.heap.size X w1):RB X0 A c rs w1 :=
 ⟨qb h.out hb,fun x hx=>qb (h.gl x hx) hb,h.dj,h.bel.trans (hb.mono h.bel.size)⟩
theorem RB.next {A1 A2:Option Addr} {c1 c2 n m:Nat} {l:List Gl} {o:Obj} (h:RB X0 A c rs X) (hb1:Below X.heap.size X w1) (o1:w1.ownsRow X.heap.size 64 3 (.slice A1 l.length c1) l.length (qi l))
  (hn:n=rs.length+1) (hown2:w2.ownsRow X0.heap.size 45 1 (.slice A2 n c2) n (zQ rs++[.slice A1 l.length c1])) (hbel2:Below X0.heap.size (w1.alloc o) w2)
  (hgr2:(w1.alloc o).grownBy w2 (Value.slice A m c).ownBlock) (hat2:(Value.slice A2 n c2).ownBlock=(Value.slice A m c).ownBlock∨(Value.slice A2 n c2).ownBlock=some (w1.alloc o).heap.size):RB X0 A2 c2 (rs++[⟨l,A1,c1⟩]) w2:=by
 subst hn;have hz:=h.bel.size;have hz1:=hb1.size;obtain ⟨hd1,hd2⟩:=List.pairwise_cons.1 h.dj;have hsz:(w1.alloc o).heap.size=w1.heap.size+1:=by simp
 rw [qC,qC,hsz] at hat2;rw [qC] at hgr2;have hA : ∀ k,obS A=some k->k<X.heap.size:=fun k hk=>(vB h.out k hk).2
 have hA1 : ∀ k,obS A1=some k->X.heap.size<=k/\k<w1.heap.size:=vB o1;have hold : ∀ x∈rs,∀ k,obS x.A=some k->k<X.heap.size:=fun x hx k hk=>(vB (h.gl x hx) k hk).2
 have hk : ∀ (b:Option Nat),Dj (obS A) b->b=none∨b≠obS A:=fun b hb=>hb.symm.ne
 have hdA1:Dj (obS A) (obS A1):=Dj.fresh hA fun k hk=>(hA1 k hk).1
 refine ⟨by rw [Lf,qeN];exact hown2,fun x hx=>?_,?_,(h.bel.trans ((hb1.mono hz).alloc L0 _)).trans hbel2⟩
 ·rcases List.mem_append.1 hx with hx | hx
  ·refine ((qb (h.gl x hx) hb1).alloc _).kept hgr2 ?_;rw [qC];exact hk _ (hd1 _ (List.mem_map_of_mem (f:=fun x=>obS x.A) hx))
  ·obtain rfl:=List.mem_singleton.1 hx;refine (qt (o1.alloc _) hz).kept hgr2 ?_;rw [qC];exact hk _ hdA1
 ·rw [List.map_append,<- List.cons_append];have hnew : ∀ b,Dj (obS A) b->(∀ k,b=some k->k<w1.heap.size+1)->Dj (obS A2) b:=fun b hb hl=>(Dj.new hb.symm hat2 hl).symm
  refine qeX (List.pairwise_cons.2 ⟨fun y hy=>?_,hd2⟩) fun y hy=>?_
  ·obtain ⟨x,hx,rfl⟩:=List.mem_map.1 hy;exact hnew _ (hd1 _ hy) fun k hk=>by have:=hold x hx k hk;omega
  ·rcases List.mem_cons.1 hy with rfl | hy
   ·exact hnew _ hdA1 fun k hk=>by have:=(hA1 k hk).2;omega
   ·obtain ⟨x,hx,rfl⟩:=List.mem_map.1 hy;exact Dj.fresh (hold x hx) fun k hk=>(hA1 k hk).1
end
theorem qjn (n:Nat) (top til by_:Int) (w:World) (hn:n<=1000) (h1:0<=top) (h2:top<til) (h3:til<=n) (h4:by_≠0) (h5:by_<til-top) (h6:top-til<by_):Calls prog 121 #[.int .i64 n,.int .i64 top,.int .i64 til,.int .i64 by_] w fun e w'=>e = .returned (.bool true)/\w=w':=by
 have b4:(by_ != 0)=true:=Ln.2 h4;have w1:IntKind.i64.wrap (til-top)=til-top:=by rw [Lx];omega
 have w2:IntKind.i64.wrap (top-til)=top-til:=by rw [Lx];omega
 clear h4
 go_enter func121,ntmps121
 go_wp2;go_ret;exact ⟨rfl,rfl⟩
def qaI:RowM:=⟨[],none,0⟩
def srcR (rs:List RowM) (top til by_:Int) (i:Nat):RowM :=
 if top<=(i:Int)/\(i:Int)<til then (if top<=(i:Int)+by_/\(i:Int)+by_<til then rs.getD ((i:Int)+by_).toNat qaI else qaI) else rs.getD i qaI
theorem qfX (rs:List RowM) (k:Nat):(rs.getD k qaI).l=(rls rs).getD k []:=by
 rw [List.getD_eq_getElem?_getD,List.getD_eq_getElem?_getD,rls,List.getElem?_map]
 cases rs[k]? <;> rfl
theorem src_roll (rs:List RowM) (top til by_:Int) (i:Nat):(srcR rs top til by_ i).l=kP (rls rs) top til by_ i:=by
 unfold srcR kP
 split
 ·split
  ·exact qfX _ _
  ·rfl
 ·exact qfX _ _
theorem qf9 (rs:List RowM) (k:Nat):rs.getD k qaI=qaI∨rs.getD k qaI∈rs:=by
 rw [List.getD_eq_getElem?_getD]
 cases h:rs[k]? with
 | none=>exact .inl rfl
 | some x=>exact .inr (List.mem_of_getElem? h)
theorem src_mem (rs:List RowM) (top til by_:Int) (i:Nat):srcR rs top til by_ i=qaI∨srcR rs top til by_ i∈rs:=by
 unfold srcR
 split
 ·split
  ·exact qf9 _ _
  ·exact .inl rfl
 ·exact qf9 _ _
theorem crows_ (rs:List RowM) (A:Option Addr) (n c B:Nat) (top til by_:Int) (X0:World) (rd:RdRs X0 B A n rs) (hB:B<=X0.heap.size) (hn:n<=1000) (hrl : ∀ x∈rs,x.l.length<=1000000000) (h1:0<=top) (h2:top<til) (h3:til<=n) (h4:by_≠0) (h5:by_<til-top) (h6:top-til<by_) :
  Calls prog 99 #[.slice A n c,.int .i64 top,.int .i64 til,.int .i64 by_] X0 fun e w'=>∃ A' c' rs',e = .returned (.tuple #[.slice A' n c',.int .i64 0])/\rs'.length=n/\RB X0 A' c' rs' w'/\rls rs'=(List.range n).map (kP (rls rs) top til by_):=by
 have HN:=Lh rd.len;have HP:Hid (∀ w,_):=Lh fun w=>qjn n top til by_ w hn h1 h2 h3 h4 h5 h6
 have HA:Hid (∀ k (hk:k<rs.length) w',Below X0.heap.size X0 w'->∃ b o,A=some ⟨b,o,none⟩/\b<X0.heap.size/\w'.cell? ⟨b,o+k,none⟩=some (.slice rs[k].A rs[k].l.length rs[k].cap)):=Lh fun k hk w' hb=>((rd.more hB).below hb).at_ hk
 have HC:Hid (∀ x,x=qaI∨x∈rs->∀ w',Below X0.heap.size X0 w'->Calls prog 68 #[.slice x.A x.l.length x.cap] w' fun e w''=>∃ A1 c1,e = .returned (.slice A1 x.l.length c1)/\w''.ownsRow w'.heap.size 64 3 (.slice A1 x.l.length c1) x.l.length (qi x.l)/\Below w'.heap.size w' w''):=Lh fun x hx w' hb=>by
  rcases hx with rfl | hx
  ·exact qcd [] none 0 0 0 w' L0 Rd.none_ (Nat.zero_le _)
  ·exact qcd x.l x.A _ x.cap X0.heap.size w' (hrl x hx) (((rd.gl x hx).1.more hB).below hb) hb.size
 clear rd hrl h4
 go_enter func99,ntmps99
 go_wp2_with (go_at_call 121;refine (HP.out _).mono ?_;rintro e w1 ⟨rfl,rfl⟩)
 go_loopw [10,23] (fun v x wr=>∃ (k:Nat) (rs':List RowM) (A':Option Addr) (c':Nat),k<=n/\rs'.length=k/\x = .int .i64 k/\v = .slice A' k c'/\RB X0 A' c' rs' wr/\rls rs'=(List.range k).map (kP (rls rs) top til by_)) (fun _ x _=>n-(intOf x).toNat)
 case atStart=>exact ⟨0,[],none,0,Nat.zero_le _,rfl,rfl,rfl,RB.nil X0,rfl⟩
 case round =>
  obtain ⟨k,rs',A',c',hk,hk2,rfl,rfl,hr,hrr⟩:=hrel;have hb:=hr.bel
  by_cases hlt:k<n
  ·have hkl:k<rs.length:=by have:=HN.out;omega
   obtain ⟨b,o,hA,hbB,hc⟩:=HA.out k hkl _ hb;have HN2:Hid (∀ (A1:Option Addr) (d1:Nat),rls (rs'++[⟨(srcR rs top til by_ k).l,A1,d1⟩])=(List.range (k+1)).map (kP (rls rs) top til by_)):=Lh fun A1 d1=>by
    have hrr':=hrr;unfold rls at hrr' ⊢;rw [List.map_append,hrr',List.range_succ,List.map_append,List.map_cons,List.map_nil,List.map_cons,List.map_nil,src_roll]
    rfl
   have HCx:=Lh (HC.out _ (src_mem rs top til by_ k));obtain ⟨x,hx⟩ : ∃ x,srcR rs top til by_ k=x:=⟨_,rfl⟩
   rw [hx] at HCx HN2;unfold srcR at hx;have q1:0<=(k:Int):=by omega
   have hA':=hA;subst hA'
   by_cases a1:top<=(k:Int)
   ·by_cases a2:(k:Int)<til
    ·rw [if_pos ⟨a1,a2⟩] at hx
     by_cases a3:top<=(k:Int)+by_
     ·by_cases a4:(k:Int)+by_<til
      ·rw [if_pos ⟨a3,a4⟩] at hx;obtain ⟨j,hj⟩ : ∃ j:Nat,(k:Int)+by_=j:=⟨((k:Int)+by_).toNat,by omega⟩
       have hjl:j<rs.length:=by have:=HN.out;omega
       obtain ⟨b',o',hA2,_,hc2⟩:=HA.out j hjl _ hb;rw [hj,Int.toNat_natCast,List.getD_eq_getElem?_getD,List.getElem?_eq_getElem hjl,Option.getD_some] at hx;rw [hx] at hc2;obtain ⟨rfl,rfl⟩:b=b'/\o=o':=by injection hA2 with e;injection e with e1 e2;exact ⟨e1,e2⟩
       have hw:IntKind.i64.wrap ((k:Int)+by_)=(j:Int):=by rw [<- hj,Lx];omega
       rw [hj] at a3 a4;have hjn:(j:Int)<n:=by omega
       clear hx HP HA HC hA hA2 hj
       go_wp2_with (first
        | (go_at_call 68;refine (HCx.out _ hb).mono ?_;rintro e w1 ⟨A1,d1,rfl,o1,b1⟩;have hr1:=hr.below b1;have z1:=hr1.bel.size;have ho1:=hr1.out;rw [hk2] at ho1)
        | (at_builtin;go_must (refine qg rfl _ _ _ rfl elt_row (X0.heap.size) _ rfl (ho1.alloc _) _ _ rfl (qe (xs:=[.slice A1 x.l.length d1]) (by rfl) rfl) ?_);intro A4 c4 w4 hown4 hbel4 hgr4 hat4))
       exact ⟨⟨k+1,rs'++[⟨x.l,A1,d1⟩],A4,c4,by omega,by rw [Lf,hk2];rfl,by go_num,rfl,hr.next b1 o1 (by rw [hk2]) hown4 hbel4 hgr4 hat4,HN2.out _ _⟩,by simp [intOf];omega⟩
      ·rw [if_neg (fun h=>a4 h.2)] at hx;subst hx;have hw:IntKind.i64.wrap ((k:Int)+by_)=(k:Int)+by_:=by rw [Lx];omega
       have HCx:Hid (∀ w',Below X0.heap.size X0 w'->Calls prog 68 #[.slice none 0 0] w' fun e w''=>∃ A1 c1,e = .returned (.slice A1 ([]:List Gl).length c1)/\w''.ownsRow w'.heap.size 64 3 (.slice A1 ([]:List Gl).length c1) ([]:List Gl).length (qi [])/\Below w'.heap.size w' w''):=HCx;have HN2:Hid (∀ (A1:Option Addr) (d1:Nat),rls (rs'++[⟨[],A1,d1⟩])=(List.range (k+1)).map (kP (rls rs) top til by_)):=HN2;obtain ⟨x,hx⟩ : ∃ x:RowM,x=qaI:=⟨_,rfl⟩
       have hxl:([]:List Gl)=x.l:=by rw [hx];rfl
       rw [hxl] at HCx HN2;clear hxl hx HP HA HC hA
       go_wp2_with (first
        | (go_at_call 68;refine (HCx.out _ hb).mono ?_;rintro e w1 ⟨A1,d1,rfl,o1,b1⟩;have hr1:=hr.below b1;have z1:=hr1.bel.size;have ho1:=hr1.out;rw [hk2] at ho1)
        | (at_builtin;go_must (refine qg rfl _ _ _ rfl elt_row (X0.heap.size) _ rfl (ho1.alloc _) _ _ rfl (qe (xs:=[.slice A1 x.l.length d1]) (by rfl) rfl) ?_);intro A4 c4 w4 hown4 hbel4 hgr4 hat4))
       exact ⟨⟨k+1,rs'++[⟨x.l,A1,d1⟩],A4,c4,by omega,by rw [Lf,hk2];rfl,by go_num,rfl,hr.next b1 o1 (by rw [hk2]) hown4 hbel4 hgr4 hat4,HN2.out _ _⟩,by simp [intOf];omega⟩
     ·rw [if_neg (fun h=>a3 h.1)] at hx;subst hx;have hw:IntKind.i64.wrap ((k:Int)+by_)=(k:Int)+by_:=by rw [Lx];omega
      have HCx:Hid (∀ w',Below X0.heap.size X0 w'->Calls prog 68 #[.slice none 0 0] w' fun e w''=>∃ A1 c1,e = .returned (.slice A1 ([]:List Gl).length c1)/\w''.ownsRow w'.heap.size 64 3 (.slice A1 ([]:List Gl).length c1) ([]:List Gl).length (qi [])/\Below w'.heap.size w' w''):=HCx;have HN2:Hid (∀ (A1:Option Addr) (d1:Nat),rls (rs'++[⟨[],A1,d1⟩])=(List.range (k+1)).map (kP (rls rs) top til by_)):=HN2;obtain ⟨x,hx⟩ : ∃ x:RowM,x=qaI:=⟨_,rfl⟩
      have hxl:([]:List Gl)=x.l:=by rw [hx];rfl
      rw [hxl] at HCx HN2;clear hxl hx HP HA HC hA
      go_wp2_with (first
       | (go_at_call 68;refine (HCx.out _ hb).mono ?_;rintro e w1 ⟨A1,d1,rfl,o1,b1⟩;have hr1:=hr.below b1;have z1:=hr1.bel.size;have ho1:=hr1.out;rw [hk2] at ho1)
       | (at_builtin;go_must (refine qg rfl _ _ _ rfl elt_row (X0.heap.size) _ rfl (ho1.alloc _) _ _ rfl (qe (xs:=[.slice A1 x.l.length d1]) (by rfl) rfl) ?_);intro A4 c4 w4 hown4 hbel4 hgr4 hat4))
      exact ⟨⟨k+1,rs'++[⟨x.l,A1,d1⟩],A4,c4,by omega,by rw [Lf,hk2];rfl,by go_num,rfl,hr.next b1 o1 (by rw [hk2]) hown4 hbel4 hgr4 hat4,HN2.out _ _⟩,by simp [intOf];omega⟩
    ·rw [if_neg (fun h=>a2 h.2)] at hx;rw [List.getD_eq_getElem?_getD,List.getElem?_eq_getElem hkl,Option.getD_some] at hx;rw [hx] at hc;clear hx HP HA HC hA
     go_wp2_with (first
      | (go_at_call 68;refine (HCx.out _ hb).mono ?_;rintro e w1 ⟨A1,d1,rfl,o1,b1⟩;have hr1:=hr.below b1;have z1:=hr1.bel.size;have ho1:=hr1.out;rw [hk2] at ho1)
      | (at_builtin;go_must (refine qg rfl _ _ _ rfl elt_row (X0.heap.size) _ rfl (ho1.alloc _) _ _ rfl (qe (xs:=[.slice A1 x.l.length d1]) (by rfl) rfl) ?_);intro A4 c4 w4 hown4 hbel4 hgr4 hat4))
     exact ⟨⟨k+1,rs'++[⟨x.l,A1,d1⟩],A4,c4,by omega,by rw [Lf,hk2];rfl,by go_num,rfl,hr.next b1 o1 (by rw [hk2]) hown4 hbel4 hgr4 hat4,HN2.out _ _⟩,by simp [intOf];omega⟩
   ·rw [if_neg (fun h=>a1 h.1)] at hx;rw [List.getD_eq_getElem?_getD,List.getElem?_eq_getElem hkl,Option.getD_some] at hx;rw [hx] at hc;clear hx HP HA HC hA
    go_wp2_with (first
     | (go_at_call 68;refine (HCx.out _ hb).mono ?_;rintro e w1 ⟨A1,d1,rfl,o1,b1⟩;have hr1:=hr.below b1;have z1:=hr1.bel.size;have ho1:=hr1.out;rw [hk2] at ho1)
     | (at_builtin;go_must (refine qg rfl _ _ _ rfl elt_row (X0.heap.size) _ rfl (ho1.alloc _) _ _ rfl (qe (xs:=[.slice A1 x.l.length d1]) (by rfl) rfl) ?_);intro A4 c4 w4 hown4 hbel4 hgr4 hat4))
    exact ⟨⟨k+1,rs'++[⟨x.l,A1,d1⟩],A4,c4,by omega,by rw [Lf,hk2];rfl,by go_num,rfl,hr.next b1 o1 (by rw [hk2]) hown4 hbel4 hgr4 hat4,HN2.out _ _⟩,by simp [intOf];omega⟩
  ·obtain rfl:k=n:=by omega
   go_wp2;go_ret2;exact ⟨A',c',rs',rfl,hk2,hr,hrr⟩
theorem ED.swap {base G c c':Nat} {v:Vw} {rs rs':List RowM} {A A':Option Addr} {X X':World} (h:ED base G v rs A c X) (hb:base<=X.heap.size) (hr:RB X A' c' rs' X') :
  ED base G ⟨v.width,v.height,rls rs',v.row,v.col,v.vis⟩ rs' A' c' (X'.setCell ⟨G,2,none⟩ (.slice A' rs'.length c')):=by
 have hG:=h.blk.lt;have hne : ∀ {A:Option Addr} {n c:Nat},(∀ k,obS A=some k->X.heap.size<=k)->(Value.slice A n c).ownBlock≠some G:=fun hA e=>by
  rw [qC] at e;have:=hA _ e
  omega
 refine ⟨(h.blk.below hr.bel hG).set_ 2 _,ownsRow_setCell_other (a:=⟨G,2,none⟩) (qt hr.out hb) (hne fun k hk=>(vB hr.out k hk).1) _,fun x hx=>ownsRow_setCell_other (a:=⟨G,2,none⟩) (qt (hr.gl x hx) hb) (hne fun k hk=>(vB (hr.gl x hx) k hk).1) _,rfl,h.lo,?_⟩;refine List.pairwise_cons.2 ⟨fun y hy=>Dj.fresh (N:=X.heap.size) (fun k hk=>by injection hk with hk;omega) ?_,hr.dj⟩
 rcases List.mem_cons.1 hy with rfl | hy
 ·exact fun k hk=>(vB hr.out k hk).1
 ·obtain ⟨x,hx,rfl⟩:=List.mem_map.1 hy;exact fun k hk=>(vB (hr.gl x hx) k hk).1
theorem ED.setg {base G c:Nat} {v v':Vw} {rs:List RowM} {A:Option Addr} {X:World} (h:ED base G v rs A c X) {i:Nat} {u:Value} (hv:(vwC v A rs.length c).setIfInBounds i u=vwC v' A rs.length c) (hr:v'.rows=v.rows):ED base G v' rs A c (X.setCell ⟨G,i,none⟩ u):=by
 obtain ⟨hd1,-⟩:=List.pairwise_cons.1 h.dj;have hne : ∀ {B:Option Addr} {n c:Nat},obS B∈(obS A::rs.map fun x=>obS x.A)->(Value.slice B n c).ownBlock≠some G:=fun hm e=>by
  rw [qC] at e;exact hd1 _ hm G rfl e
 exact ⟨by have:=h.blk.set_ i u;rw [hv] at this;exact this,ownsRow_setCell_other (a:=⟨G,i,none⟩) h.rows (hne L1) _,fun x hx=>ownsRow_setCell_other (a:=⟨G,i,none⟩) (h.gl x hx) (hne (List.mem_cons_of_mem _ (List.mem_map_of_mem (f:=fun x=>obS x.A) hx))) _,hr.trans h.eq,h.lo,h.dj⟩
def EdR (base G:Nat) (v:Vw) (X:World) (e:Ending) (w':World):Prop:=e = .returned (.tuple #[])/\(∃ rs A c,ED base G v rs A c w')/\Below base X w'
theorem cscroll_ {base G:Nat} {v:Vw} {rs:List RowM} {A:Option Addr} {cA:Nat} {X0:World} (h:ED base G v rs A cA X0) (hbase:base<=X0.heap.size) (hlen:(rs.length:Int)=v.height) (hh:v.height<=1000) (hrl : ∀ x∈rs,x.l.length<=1000000000)
  (c:Chg) (Ag:Option Addr) (cap:Nat) (hk:c.kind=2) (hr:zh v c=true):Calls prog 74 #[.pointer (some ⟨G,0,none⟩),jH c Ag cap] X0 (EdR base G (jY v c) X0):=by
 obtain ⟨W,Hh,rows,vr,vc,vis⟩:=v;obtain ⟨kind,row,col,count,til,g⟩:=c;dsimp only at hlen hh hk;subst hk;rw [kk] at hr;dsimp only at hr;obtain ⟨r1,r2,r3,r4,r5,r6⟩:=of_decide_eq_true hr;have hE:Hid (rows=rls rs):=Lh h.eq;have hS:Hid (∀ rs':List RowM,rls rs'=(List.range rs.length).map (kP (rls rs) row til count)->jY ⟨W,Hh,rows,vr,vc,vis⟩ ⟨2,row,col,count,til,g⟩=⟨W,Hh,rls rs',vr,vc,vis⟩):=Lh fun rs' h=>by
  rw [h,hE.out];unfold jY;rw [if_neg (show ¬ (2:Int)=1 by decide),if_pos (show (2:Int)=2 from rfl),vJ]
 have hED:=Lh h;have HR:Hid (∀ w',Below X0.heap.size X0 w'->Calls prog 99 #[.slice A rs.length cA,.int .i64 row,.int .i64 til,.int .i64 count] w' fun e w''=>∃ A' c' rs',e = .returned (.tuple #[.slice A' rs.length c',.int .i64 0])/\rs'.length=rs.length/\RB w' A' c' rs' w''/\rls rs'=(List.range rs.length).map (kP (rls rs) row til count)):=Lh fun w' hb =>
  crows_ rs A rs.length cA w'.heap.size row til count w' ⟨Rd.of_own (qb h.rows hb),fun x hx=>qe8 (qb (h.gl x hx) hb)⟩ (Ld _) L0 hrl r1 r2 L0 r4 r5 r6
 clear hr hE r4
 go_enter func74,ntmps74
 go_upto_region 1 with fail
 refine qa (ChgBox X0 ⟨2,row,col,count,til,g⟩ Ag cap) (ChgBox.new X0 ⟨2,row,col,count,til,g⟩ Ag cap _) ?_;rintro X ⟨c0,c1,c2,c3,c4,c5,hb,hzX⟩;dsimp only at c0 c1 c2 c3 c4 c5;have hGX:G<X.heap.size:=Ly h.blk.lt hb.size;obtain ⟨e0,e1,e2,e3,e4,e5⟩:=qw (h.blk.below hb h.blk.lt);have HCE:Hid (∀ w',Below X.heap.size X w'->w'.cell? ⟨G,2,none⟩=some (.slice A rs.length cA)/\w'.cell? ⟨X0.heap.size,1,none⟩=some (.int .i64 row)/\w'.cell? ⟨X0.heap.size,4,none⟩=some (.int .i64 til)/\w'.cell? ⟨X0.heap.size,3,none⟩=some (.int .i64 count)):=Lh fun w' hw =>
  ⟨(hw.cell (p:=⟨G,2,none⟩) hGX).trans e2,(hw.cell (p:=⟨X0.heap.size,1,none⟩) hzX).trans c1,(hw.cell (p:=⟨X0.heap.size,4,none⟩) hzX).trans c4,(hw.cell (p:=⟨X0.heap.size,3,none⟩) hzX).trans c3⟩
 clear c0 c2 c5 e0 e1 e3 e4 e5 h
 go_region_held3 (fun w'=>w'.cell? ⟨G,2,none⟩=some (.slice A rs.length cA)/\w'.cell? ⟨X0.heap.size,1,none⟩=some (.int .i64 row)/\w'.cell? ⟨X0.heap.size,4,none⟩=some (.int .i64 til)/\w'.cell? ⟨X0.heap.size,3,none⟩=some (.int .i64 count)) (first | (refine HCE.out _ ?_;assumption) | go_keep) (first
  | (go_at_call 99;refine (HR.out _ hb.drew).mono ?_;rintro e w1 ⟨A1,d1,rs1,rfl,hl1,hr1,hm1⟩;have hb1:Below X.heap.size X w1:=jI (B:=X.heap.size) hr1.bel))
 have hf1:=(hb1.frozen (p:=⟨G,2,none⟩) hGX).trans ((hED.out.below hb).blk.frozen 2);have he1:=(HCE.out _ hb1).1;go_wp2;go_end0;rw [hS.out rs1 hm1];refine ⟨rfl,⟨rs1,A1,d1,?_⟩,(((hb.mono hbase).trans (hb1.mono (by have:=hb.size;omega))).setCell (p:=⟨G,2,none⟩) hED.out.lo _)⟩;have:=(hED.out.below hb).drew.swap (X':=w1) (Lj hbase hb.size) hr1;rw [hl1] at this;exact this
theorem ccursor_ {base G:Nat} {v:Vw} {rs:List RowM} {A:Option Addr} {cA:Nat} {X0:World} (h:ED base G v rs A cA X0) (hbase:base<=X0.heap.size) (c:Chg) (Ag:Option Addr) (cap:Nat) (hk:c.kind=4) :
  Calls prog 76 #[.pointer (some ⟨G,0,none⟩),jH c Ag cap] X0 (EdR base G (jY v c) X0):=by
 obtain ⟨W,Hh,rows,vr,vc,vis⟩:=v;obtain ⟨kind,row,col,count,til,g⟩:=c;dsimp only at hk;subst hk;have hS:jY ⟨W,Hh,rows,vr,vc,vis⟩ ⟨4,row,col,count,til,g⟩=⟨W,Hh,rows,row,col,decide (count=1)⟩:=rfl;rw [hS];have hED:=Lh h;clear hS
 go_enter func76,ntmps76
 go_upto_region 1 with fail
 refine qa (ChgBox X0 ⟨4,row,col,count,til,g⟩ Ag cap) (ChgBox.new X0 ⟨4,row,col,count,til,g⟩ Ag cap _) ?_;rintro X ⟨c0,c1,c2,c3,c4,c5,hb,hzX⟩;dsimp only at c0 c1 c2 c3 c4 c5;have hGl:=h.blk.lt;have hB:=h.blk.below hb hGl;obtain ⟨e0,e1,e2,e3,e4,e5⟩:=qw hB;have f3:=hB.frozen 3;have f4:=hB.frozen 4;have f5:=hB.frozen 5;have hne:X0.heap.size≠G:=by omega
 have hne2:G≠X0.heap.size:=by omega
 clear c0 c4 c5 h hB e0 e1 e2
 go_region_held3 (fun w'=>w'.cell? ⟨X0.heap.size,1,none⟩=some (.int .i64 row)/\w'.cell? ⟨X0.heap.size,2,none⟩=some (.int .i64 col)/\w'.cell? ⟨X0.heap.size,3,none⟩=some (.int .i64 count)) (go_keep) (first | fail)
 go_wp2;go_end0;have hc1:(count==1)=decide (count=1):=by rw [Bool.eq_iff_iff];simp
 have h1:=((hED.out.below hb).setg (v':=⟨W,Hh,rows,row,vc,vis⟩) (i:=3) (u:=.int .i64 row) rfl rfl).setg (v':=⟨W,Hh,rows,row,col,vis⟩) (i:=4) (u:=.int .i64 col) rfl rfl;have h2:=h1.setg (v':=⟨W,Hh,rows,row,col,decide (count=1)⟩) (i:=5) (u:=.bool (decide (count=1))) rfl rfl;rw [<- hc1] at h2;refine ⟨rfl,⟨rs,A,cA,by rw [<- hc1];exact h2.drew⟩,?_⟩;exact ((((hb.mono hbase).setCell (p:=⟨G,3,none⟩) hED.out.lo _).setCell (p:=⟨G,4,none⟩) hED.out.lo _).setCell (p:=⟨G,5,none⟩) hED.out.lo _).drew
end Go.Proofs.YtbogmeeijdaijaaGreatDoor
