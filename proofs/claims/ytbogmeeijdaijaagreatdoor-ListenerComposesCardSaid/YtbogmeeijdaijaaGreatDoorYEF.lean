/- Joined: Vc1, Vc4, LxW. -/
import Derived.Test.YtbogmeeijdaijaaGreatDoorZAZ
import Derived.Test.YtbogmeeijdaijaaGreatDoorYEE
set_option linter.unusedVariables false
set_option linter.unusedSimpArgs false
set_option linter.unnecessarySimpa false
set_option maxHeartbeats 8000000
namespace Go.Proofs.YtbogmeeijdaijaaGreatDoor
open Go.Proofs.Tryz Go.RowKit
set_option maxRecDepth 20000
theorem jq (n a b:Int) (w:World):Calls prog 78 #[.int .i64 n,.int .i64 a,.int .i64 b] w fun e w'=>e = .returned (.bool (inB n a b))/\w=w':=by
 unfold inB
 by_cases h1:a<=n
 ·by_cases h2:n<=b
  ·go_enter func78,ntmps78
   go_wp2;go_ret;exact ⟨by simp [h1,h2],rfl⟩
  ·go_enter func78,ntmps78
   go_wp2;go_ret;exact ⟨by simp [h1,h2],rfl⟩
 ·go_enter func78,ntmps78
  go_wp2;go_ret;exact ⟨by rw [Lk (show ¬ a<=n by omega)];rfl,rfl⟩
theorem qhT (row col count til:Int) (g:List Gl) (A:Option Addr) (cap:Nat) (w:World):Calls prog 43 #[jH ⟨1,row,col,count,til,g⟩ A cap] w (qh (.int .i64 (vj ⟨1,row,col,count,til,g⟩)) w):=by
 rw [qiy];obtain ⟨R,hR⟩ : ∃ x,x=jL (inB row 1 60&&inB col 1 132) (decide (count=0)&&decide (til=0)&&decide (g.length=0)) false:=⟨_,rfl⟩
 rw [<- hR];have HR:=Lh hR;clear hR;generalize hz0:inB row 0 59=z0 at *
 cases h1:inB row 1 60 with
 | false=>as_aux_lemma =>
  have HE:Hid (R=2):=Lh (by rw [HR.out];simp [jL,h1]);clear HR
  skip
  go_enter func43,ntmps43
  go_upto_region 1 with fail
  refine qa (ChgBox w ⟨1,row,col,count,til,g⟩ A cap) (ChgBox.new w ⟨1,row,col,count,til,g⟩ A cap _) ?_;rintro X ⟨c0,c1,c2,c3,c4,c5,hb,hzX⟩;dsimp only at c0 c1 c2 c3 c4 c5
  go_wp2_with (go_at_call 78;refine (jq _ _ _ _).mono ?_;rintro e wy ⟨rfl,rfl⟩)
  go_ret;exact ⟨by rw [HE.out];rfl,hb⟩
 | true =>
  cases h2:inB col 1 132 with
  | false=>as_aux_lemma =>
   have HE:Hid (R=2):=Lh (by rw [HR.out];simp [jL,h1,h2]);clear HR
   skip
   go_enter func43,ntmps43
   go_upto_region 1 with fail
   refine qa (ChgBox w ⟨1,row,col,count,til,g⟩ A cap) (ChgBox.new w ⟨1,row,col,count,til,g⟩ A cap _) ?_;rintro X ⟨c0,c1,c2,c3,c4,c5,hb,hzX⟩;dsimp only at c0 c1 c2 c3 c4 c5
   go_wp2_with (go_at_call 78;refine (jq _ _ _ _).mono ?_;rintro e wy ⟨rfl,rfl⟩)
   go_ret;exact ⟨by rw [HE.out];rfl,hb⟩
  | true =>
   by_cases h3:count=0
   ·have k3:(count != 0)=false:=by simp [h3]
    by_cases h4:til=0
    ·have k4:(til != 0)=false:=by simp [h4]
     by_cases h5:g.length=0
     ·as_aux_lemma =>
      have k5 : ¬ (0:Int)<g.length:=by omega
      have HE:Hid (R=0):=Lh (by rw [HR.out];simp [jL,h1,h2,h3,h4,h5]);clear HR;clear h3 h4 h5
      go_enter func43,ntmps43
      go_upto_region 1 with fail
      refine qa (ChgBox w ⟨1,row,col,count,til,g⟩ A cap) (ChgBox.new w ⟨1,row,col,count,til,g⟩ A cap _) ?_;rintro X ⟨c0,c1,c2,c3,c4,c5,hb,hzX⟩;dsimp only at c0 c1 c2 c3 c4 c5
      go_wp2_with (go_at_call 78;refine (jq _ _ _ _).mono ?_;rintro e wy ⟨rfl,rfl⟩)
      go_ret;exact ⟨by rw [HE.out];rfl,hb⟩
     ·as_aux_lemma =>
      have k5:(0:Int)<g.length:=by omega
      have HE:Hid (R=1):=Lh (by rw [HR.out];simp [jL,h1,h2,h3,h4,h5]);clear HR;clear h3 h4 h5
      go_enter func43,ntmps43
      go_upto_region 1 with fail
      refine qa (ChgBox w ⟨1,row,col,count,til,g⟩ A cap) (ChgBox.new w ⟨1,row,col,count,til,g⟩ A cap _) ?_;rintro X ⟨c0,c1,c2,c3,c4,c5,hb,hzX⟩;dsimp only at c0 c1 c2 c3 c4 c5
      go_wp2_with (go_at_call 78;refine (jq _ _ _ _).mono ?_;rintro e wy ⟨rfl,rfl⟩)
      go_ret;exact ⟨by rw [HE.out];rfl,hb⟩
    ·as_aux_lemma =>
     have k4:(til != 0)=true:=Ln.2 h4;have HE:Hid (R=1):=Lh (by rw [HR.out];simp [jL,h1,h2,h3,h4]);clear HR;clear h3 h4
     go_enter func43,ntmps43
     go_upto_region 1 with fail
     refine qa (ChgBox w ⟨1,row,col,count,til,g⟩ A cap) (ChgBox.new w ⟨1,row,col,count,til,g⟩ A cap _) ?_;rintro X ⟨c0,c1,c2,c3,c4,c5,hb,hzX⟩;dsimp only at c0 c1 c2 c3 c4 c5
     go_wp2_with (go_at_call 78;refine (jq _ _ _ _).mono ?_;rintro e wy ⟨rfl,rfl⟩)
     go_ret;exact ⟨by rw [HE.out];rfl,hb⟩
   ·as_aux_lemma =>
    have k3:(count != 0)=true:=Ln.2 h3;have HE:Hid (R=1):=Lh (by rw [HR.out];simp [jL,h1,h2,h3]);clear HR;clear h3
    go_enter func43,ntmps43
    go_upto_region 1 with fail
    refine qa (ChgBox w ⟨1,row,col,count,til,g⟩ A cap) (ChgBox.new w ⟨1,row,col,count,til,g⟩ A cap _) ?_;rintro X ⟨c0,c1,c2,c3,c4,c5,hb,hzX⟩;dsimp only at c0 c1 c2 c3 c4 c5
    go_wp2_with (go_at_call 78;refine (jq _ _ _ _).mono ?_;rintro e wy ⟨rfl,rfl⟩)
    go_ret;exact ⟨by rw [HE.out];rfl,hb⟩
theorem qhF (row col count til:Int) (g:List Gl) (A:Option Addr) (cap:Nat) (w:World):Calls prog 43 #[jH ⟨2,row,col,count,til,g⟩ A cap] w (qh (.int .i64 (vj ⟨2,row,col,count,til,g⟩)) w):=by
 rw [qin];obtain ⟨R,hR⟩ : ∃ x,x=jL (inB row 0 59&&inB til (row+1) 60&&inB count (-60) 60&&decide (count≠0)) (decide (col=0)&&decide (g.length=0)) false:=⟨_,rfl⟩
 rw [<- hR];have HR:=Lh hR;clear hR
 cases h0:inB row 0 59 with
 | false=>as_aux_lemma =>
  have HE:Hid (R=2):=Lh (by rw [HR.out];simp [jL,h0]);clear HR
  skip
  go_enter func43,ntmps43
  go_upto_region 1 with fail
  refine qa (ChgBox w ⟨2,row,col,count,til,g⟩ A cap) (ChgBox.new w ⟨2,row,col,count,til,g⟩ A cap _) ?_;rintro X ⟨c0,c1,c2,c3,c4,c5,hb,hzX⟩;dsimp only at c0 c1 c2 c3 c4 c5
  go_wp2_with (go_at_call 78;refine (jq _ _ _ _).mono ?_;rintro e wy ⟨rfl,rfl⟩)
  go_ret;exact ⟨by rw [HE.out];rfl,hb⟩
 | true =>
  have e0:IntKind.i64.wrap (row+1)=row+1:=by
   unfold inB at h0;simp only [Bool.and_eq_true,decide_eq_true_eq] at h0;rw [Lx];omega
  cases h1:inB til (row+1) 60 with
  | false=>as_aux_lemma =>
   have HE:Hid (R=2):=Lh (by rw [HR.out];simp [jL,h0,h1]);clear HR
   skip
   go_enter func43,ntmps43
   go_upto_region 1 with fail
   refine qa (ChgBox w ⟨2,row,col,count,til,g⟩ A cap) (ChgBox.new w ⟨2,row,col,count,til,g⟩ A cap _) ?_;rintro X ⟨c0,c1,c2,c3,c4,c5,hb,hzX⟩;dsimp only at c0 c1 c2 c3 c4 c5
   go_wp2_with (go_at_call 78;refine (jq _ _ _ _).mono ?_;rintro e wy ⟨rfl,rfl⟩)
   go_ret;exact ⟨by rw [HE.out];rfl,hb⟩
  | true =>
   cases h2:inB count (-60) 60 with
   | false=>as_aux_lemma =>
    have HE:Hid (R=2):=Lh (by rw [HR.out];simp [jL,h0,h1,h2]);clear HR
    skip
    go_enter func43,ntmps43
    go_upto_region 1 with fail
    refine qa (ChgBox w ⟨2,row,col,count,til,g⟩ A cap) (ChgBox.new w ⟨2,row,col,count,til,g⟩ A cap _) ?_;rintro X ⟨c0,c1,c2,c3,c4,c5,hb,hzX⟩;dsimp only at c0 c1 c2 c3 c4 c5
    go_wp2_with (go_at_call 78;refine (jq _ _ _ _).mono ?_;rintro e wy ⟨rfl,rfl⟩)
    go_ret;exact ⟨by rw [HE.out];rfl,hb⟩
   | true =>
    by_cases h3:count=0
    ·as_aux_lemma =>
     have k3:(count==0)=true:=by simp [h3]
     have HE:Hid (R=2):=Lh (by rw [HR.out];simp [jL,h0,h1,h2,h3]);clear HR;clear h3
     go_enter func43,ntmps43
     go_upto_region 1 with fail
     refine qa (ChgBox w ⟨2,row,col,count,til,g⟩ A cap) (ChgBox.new w ⟨2,row,col,count,til,g⟩ A cap _) ?_;rintro X ⟨c0,c1,c2,c3,c4,c5,hb,hzX⟩;dsimp only at c0 c1 c2 c3 c4 c5
     go_wp2_with (go_at_call 78;refine (jq _ _ _ _).mono ?_;rintro e wy ⟨rfl,rfl⟩)
     go_ret;exact ⟨by rw [HE.out];rfl,hb⟩
    ·have k3:(count==0)=false:=Lm.2 h3
     by_cases h4:col=0
     ·have k4:(col != 0)=false:=by simp [h4]
      by_cases h5:g.length=0
      ·as_aux_lemma =>
       have k5 : ¬ (0:Int)<g.length:=by omega
       have HE:Hid (R=0):=Lh (by rw [HR.out];simp [jL,h0,h1,h2,h3,h4,h5]);clear HR;clear h3 h4 h5
       go_enter func43,ntmps43
       go_upto_region 1 with fail
       refine qa (ChgBox w ⟨2,row,col,count,til,g⟩ A cap) (ChgBox.new w ⟨2,row,col,count,til,g⟩ A cap _) ?_;rintro X ⟨c0,c1,c2,c3,c4,c5,hb,hzX⟩;dsimp only at c0 c1 c2 c3 c4 c5
       go_wp2_with (go_at_call 78;refine (jq _ _ _ _).mono ?_;rintro e wy ⟨rfl,rfl⟩)
       go_ret;exact ⟨by rw [HE.out];rfl,hb⟩
      ·as_aux_lemma =>
       have k5:(0:Int)<g.length:=by omega
       have HE:Hid (R=1):=Lh (by rw [HR.out];simp [jL,h0,h1,h2,h3,h4,h5]);clear HR;clear h3 h4 h5
       go_enter func43,ntmps43
       go_upto_region 1 with fail
       refine qa (ChgBox w ⟨2,row,col,count,til,g⟩ A cap) (ChgBox.new w ⟨2,row,col,count,til,g⟩ A cap _) ?_;rintro X ⟨c0,c1,c2,c3,c4,c5,hb,hzX⟩;dsimp only at c0 c1 c2 c3 c4 c5
       go_wp2_with (go_at_call 78;refine (jq _ _ _ _).mono ?_;rintro e wy ⟨rfl,rfl⟩)
       go_ret;exact ⟨by rw [HE.out];rfl,hb⟩
     ·as_aux_lemma =>
      have k4:(col != 0)=true:=Ln.2 h4;have HE:Hid (R=1):=Lh (by rw [HR.out];simp [jL,h0,h1,h2,h3,h4]);clear HR;clear h3 h4
      go_enter func43,ntmps43
      go_upto_region 1 with fail
      refine qa (ChgBox w ⟨2,row,col,count,til,g⟩ A cap) (ChgBox.new w ⟨2,row,col,count,til,g⟩ A cap _) ?_;rintro X ⟨c0,c1,c2,c3,c4,c5,hb,hzX⟩;dsimp only at c0 c1 c2 c3 c4 c5
      go_wp2_with (go_at_call 78;refine (jq _ _ _ _).mono ?_;rintro e wy ⟨rfl,rfl⟩)
      go_ret;exact ⟨by rw [HE.out];rfl,hb⟩
theorem qgO (row col count til:Int) (g:List Gl) (A:Option Addr) (cap:Nat) (w:World):Calls prog 43 #[jH ⟨4,row,col,count,til,g⟩ A cap] w (qh (.int .i64 (vj ⟨4,row,col,count,til,g⟩)) w):=by
 rw [qfB];obtain ⟨R,hR⟩ : ∃ x,x=jL (inB row 0 59&&inB col 0 131&&inB count 0 1) (decide (til=0)&&decide (g.length=0)) false:=⟨_,rfl⟩
 rw [<- hR];have HR:=Lh hR;clear hR
 cases h0:inB row 0 59 with
 | false=>as_aux_lemma =>
  have HE:Hid (R=2):=Lh (by rw [HR.out];simp [jL,h0]);clear HR
  skip
  go_enter func43,ntmps43
  go_upto_region 1 with fail
  refine qa (ChgBox w ⟨4,row,col,count,til,g⟩ A cap) (ChgBox.new w ⟨4,row,col,count,til,g⟩ A cap _) ?_;rintro X ⟨c0,c1,c2,c3,c4,c5,hb,hzX⟩;dsimp only at c0 c1 c2 c3 c4 c5
  go_wp2_with (go_at_call 78;refine (jq _ _ _ _).mono ?_;rintro e wy ⟨rfl,rfl⟩)
  go_ret;exact ⟨by rw [HE.out];rfl,hb⟩
 | true =>
  cases h1:inB col 0 131 with
  | false=>as_aux_lemma =>
   have HE:Hid (R=2):=Lh (by rw [HR.out];simp [jL,h0,h1]);clear HR
   skip
   go_enter func43,ntmps43
   go_upto_region 1 with fail
   refine qa (ChgBox w ⟨4,row,col,count,til,g⟩ A cap) (ChgBox.new w ⟨4,row,col,count,til,g⟩ A cap _) ?_;rintro X ⟨c0,c1,c2,c3,c4,c5,hb,hzX⟩;dsimp only at c0 c1 c2 c3 c4 c5
   go_wp2_with (go_at_call 78;refine (jq _ _ _ _).mono ?_;rintro e wy ⟨rfl,rfl⟩)
   go_ret;exact ⟨by rw [HE.out];rfl,hb⟩
  | true =>
   cases h2:inB count 0 1 with
   | false=>as_aux_lemma =>
    have HE:Hid (R=2):=Lh (by rw [HR.out];simp [jL,h0,h1,h2]);clear HR
    skip
    go_enter func43,ntmps43
    go_upto_region 1 with fail
    refine qa (ChgBox w ⟨4,row,col,count,til,g⟩ A cap) (ChgBox.new w ⟨4,row,col,count,til,g⟩ A cap _) ?_;rintro X ⟨c0,c1,c2,c3,c4,c5,hb,hzX⟩;dsimp only at c0 c1 c2 c3 c4 c5
    go_wp2_with (go_at_call 78;refine (jq _ _ _ _).mono ?_;rintro e wy ⟨rfl,rfl⟩)
    go_ret;exact ⟨by rw [HE.out];rfl,hb⟩
   | true =>
    by_cases h4:til=0
    ·have k4:(til != 0)=false:=by simp [h4]
     by_cases h5:g.length=0
     ·as_aux_lemma =>
      have k5 : ¬ (0:Int)<g.length:=by omega
      have HE:Hid (R=0):=Lh (by rw [HR.out];simp [jL,h0,h1,h2,h4,h5]);clear HR;clear h4 h5
      go_enter func43,ntmps43
      go_upto_region 1 with fail
      refine qa (ChgBox w ⟨4,row,col,count,til,g⟩ A cap) (ChgBox.new w ⟨4,row,col,count,til,g⟩ A cap _) ?_;rintro X ⟨c0,c1,c2,c3,c4,c5,hb,hzX⟩;dsimp only at c0 c1 c2 c3 c4 c5
      go_wp2_with (go_at_call 78;refine (jq _ _ _ _).mono ?_;rintro e wy ⟨rfl,rfl⟩)
      go_ret;exact ⟨by rw [HE.out];rfl,hb⟩
     ·as_aux_lemma =>
      have k5:(0:Int)<g.length:=by omega
      have HE:Hid (R=1):=Lh (by rw [HR.out];simp [jL,h0,h1,h2,h4,h5]);clear HR;clear h4 h5
      go_enter func43,ntmps43
      go_upto_region 1 with fail
      refine qa (ChgBox w ⟨4,row,col,count,til,g⟩ A cap) (ChgBox.new w ⟨4,row,col,count,til,g⟩ A cap _) ?_;rintro X ⟨c0,c1,c2,c3,c4,c5,hb,hzX⟩;dsimp only at c0 c1 c2 c3 c4 c5
      go_wp2_with (go_at_call 78;refine (jq _ _ _ _).mono ?_;rintro e wy ⟨rfl,rfl⟩)
      go_ret;exact ⟨by rw [HE.out];rfl,hb⟩
    ·as_aux_lemma =>
     have k4:(til != 0)=true:=Ln.2 h4;have HE:Hid (R=1):=Lh (by rw [HR.out];simp [jL,h0,h1,h2,h4]);clear HR;clear h4
     go_enter func43,ntmps43
     go_upto_region 1 with fail
     refine qa (ChgBox w ⟨4,row,col,count,til,g⟩ A cap) (ChgBox.new w ⟨4,row,col,count,til,g⟩ A cap _) ?_;rintro X ⟨c0,c1,c2,c3,c4,c5,hb,hzX⟩;dsimp only at c0 c1 c2 c3 c4 c5
     go_wp2_with (go_at_call 78;refine (jq _ _ _ _).mono ?_;rintro e wy ⟨rfl,rfl⟩)
     go_ret;exact ⟨by rw [HE.out];rfl,hb⟩
theorem qfh (row col count til:Int) (g:List Gl) (A:Option Addr) (cap:Nat) (w:World) (B:Nat) (hn:g.length<=1000000000) (rd:Rd w B 3 A g.length (qi g)) (hB:B<=w.heap.size) (hz : ∀ x∈g,x.text.size<=1000000000) :
  Calls prog 43 #[jH ⟨3,row,col,count,til,g⟩ A cap] w (qh (.int .i64 (vj ⟨3,row,col,count,til,g⟩)) w):=by
 rw [qeh];obtain ⟨R,hR⟩ : ∃ x,x=jL (inB row 0 59&&inB col 0 132&&inB count 0 132) (decide (til=0)&&!vA g) (decide (132<g.length)):=⟨_,rfl⟩
 rw [<- hR];have HR:=Lh hR;clear hR
 cases h0:inB row 0 59 with
 | false=>as_aux_lemma =>
  have HE:Hid (R=2):=Lh (by rw [HR.out];simp [jL,h0]);clear HR
  skip
  go_enter func43,ntmps43
  go_upto_region 1 with fail
  refine qa (ChgBox w ⟨3,row,col,count,til,g⟩ A cap) (ChgBox.new w ⟨3,row,col,count,til,g⟩ A cap _) ?_;rintro X ⟨c0,c1,c2,c3,c4,c5,hb,hzX⟩;dsimp only at c0 c1 c2 c3 c4 c5
  go_wp2_with (go_at_call 78;refine (jq _ _ _ _).mono ?_;rintro e wy ⟨rfl,rfl⟩)
  go_ret;exact ⟨by rw [HE.out];rfl,hb⟩
 | true =>
  cases h1:inB col 0 132 with
  | false=>as_aux_lemma =>
   have HE:Hid (R=2):=Lh (by rw [HR.out];simp [jL,h0,h1]);clear HR
   skip
   go_enter func43,ntmps43
   go_upto_region 1 with fail
   refine qa (ChgBox w ⟨3,row,col,count,til,g⟩ A cap) (ChgBox.new w ⟨3,row,col,count,til,g⟩ A cap _) ?_;rintro X ⟨c0,c1,c2,c3,c4,c5,hb,hzX⟩;dsimp only at c0 c1 c2 c3 c4 c5
   go_wp2_with (go_at_call 78;refine (jq _ _ _ _).mono ?_;rintro e wy ⟨rfl,rfl⟩)
   go_ret;exact ⟨by rw [HE.out];rfl,hb⟩
  | true =>
   cases h2:inB count 0 132 with
   | false=>as_aux_lemma =>
    have HE:Hid (R=2):=Lh (by rw [HR.out];simp [jL,h0,h1,h2]);clear HR
    skip
    go_enter func43,ntmps43
    go_upto_region 1 with fail
    refine qa (ChgBox w ⟨3,row,col,count,til,g⟩ A cap) (ChgBox.new w ⟨3,row,col,count,til,g⟩ A cap _) ?_;rintro X ⟨c0,c1,c2,c3,c4,c5,hb,hzX⟩;dsimp only at c0 c1 c2 c3 c4 c5
    go_wp2_with (go_at_call 78;refine (jq _ _ _ _).mono ?_;rintro e wy ⟨rfl,rfl⟩)
    go_ret;exact ⟨by rw [HE.out];rfl,hb⟩
   | true =>
    by_cases h3:132<g.length
    ·as_aux_lemma =>
     have k3:(132:Int)<g.length:=by omega
     have HE:Hid (R=5):=Lh (by rw [HR.out];simp [jL,h0,h1,h2,h3]);clear HR;clear h3
     go_enter func43,ntmps43
     go_upto_region 1 with fail
     refine qa (ChgBox w ⟨3,row,col,count,til,g⟩ A cap) (ChgBox.new w ⟨3,row,col,count,til,g⟩ A cap _) ?_;rintro X ⟨c0,c1,c2,c3,c4,c5,hb,hzX⟩;dsimp only at c0 c1 c2 c3 c4 c5
     go_wp2_with (go_at_call 78;refine (jq _ _ _ _).mono ?_;rintro e wy ⟨rfl,rfl⟩)
     go_ret;exact ⟨by rw [HE.out];rfl,hb⟩
    ·have k3 : ¬ (132:Int)<g.length:=by omega
     by_cases h4:til=0
     ·as_aux_lemma =>
      have HRd:=Lh rd;have HRe:Hid (R=if vA (g.drop 0)=true then 1 else 0):=Lh (by rw [HR.out];simp only [h0,h1,h2,h3,h4,jL,List.drop_zero];cases vA g <;> rfl);have HG:Hid (∀ x∈g,∀ w',Calls prog 53 #[glV x] w' (qh (.int .i64 (qJ x)) w')):=Lh fun x hx w'=>rglyph x (hz x hx) w'
      clear rd hz HR;have k4:(til != 0)=false:=by simp [h4]
      clear h4
      go_enter func43,ntmps43
      go_upto_region 1 with fail
      refine qa (ChgBox w ⟨3,row,col,count,til,g⟩ A cap) (ChgBox.new w ⟨3,row,col,count,til,g⟩ A cap _) ?_;rintro X ⟨c0,c1,c2,c3,c4,c5,hb,hzX⟩;dsimp only at c0 c1 c2 c3 c4 c5
      go_wp2_with (go_at_call 78;refine (jq _ _ _ _).mono ?_;rintro e wy ⟨rfl,rfl⟩)
      go_loopw [4] (fun x wr=>∃ k:Nat,k<=g.length/\x = .int .i64 k/\ChgBox w ⟨3,row,col,count,til,g⟩ A cap wr/\Hid (R=if vA (g.drop k)=true then 1 else 0)) (fun x _=>g.length-(intOf x).toNat)
      case atStart=>exact ⟨0,Nat.zero_le _,rfl,⟨c0,c1,c2,c3,c4,c5,hb,hzX⟩,HRe⟩
      case round =>
       clear c0 c1 c2 c3 c4 c5 hb hzX;obtain ⟨k,hk,rfl,⟨c0,c1,c2,c3,c4,c5,hb,hzX⟩,HK⟩:=hrel;dsimp only at c0 c1 c2 c3 c4 c5
       by_cases hlt:k<g.length
       ·obtain ⟨b,o,rfl,hbB,g0,g1,g2⟩:=jE (HRd.out.below (hb.mono hB)) hlt rfl;have HD:Hid (vA (g.drop k)=(!qal g[k] || vA (g.drop (k+1)))):=Lh (by rw [Ls hlt];rfl);have HGk:=Lh (HG.out g[k] (Lt hlt));have hvl:qal g[k]=decide (qJ g[k]=0):=rfl;generalize g[k]=y at *
        obtain ⟨t,wd,st⟩:=y;dsimp only at *
        generalize qJ ⟨t,wd,st⟩=K at *
        by_cases hK:K=0
        ·have HR2:Hid (R=if vA (g.drop (k+1))=true then 1 else 0):=Lh (by rw [HK.out,HD.out,hvl,hK];rfl);have hKb:(K != 0)=false:=by simp [hK]
         clear HK HD hvl hK HG HRd
         go_wp2_with (go_at_call 53;refine (HGk.out _).mono ?_;rintro e w1 ⟨rfl,hb1⟩)
         exact ⟨⟨k+1,by omega,by go_num,ChgBox.on ⟨c0,c1,c2,c3,c4,c5,hb,hzX⟩ hb1,HR2⟩,by simp [intOf];omega⟩
        ·have HR2:Hid (R=1):=Lh (by rw [HK.out,HD.out,hvl,Lk hK];rfl);have hKb:(K != 0)=true:=Ln.2 hK;clear HK HD hvl hK HG HRd
         go_wp2_with (go_at_call 53;refine (HGk.out _).mono ?_;rintro e w1 ⟨rfl,hb1⟩)
         go_ret;exact ⟨by rw [HR2.out];rfl,hb.trans (hb1.mono L0)⟩
       ·have HR2:Hid (R=0):=Lh (by rw [HK.out,Lv L0];rfl);go_wp2;go_ret;exact ⟨by rw [HR2.out];rfl,hb⟩
     ·as_aux_lemma =>
      have k4:(til != 0)=true:=Ln.2 h4;have HE:Hid (R=1):=Lh (by rw [HR.out];simp [jL,h0,h1,h2,h3,h4]);clear HR;clear h3 h4
      go_enter func43,ntmps43
      go_upto_region 1 with fail
      refine qa (ChgBox w ⟨3,row,col,count,til,g⟩ A cap) (ChgBox.new w ⟨3,row,col,count,til,g⟩ A cap _) ?_;rintro X ⟨c0,c1,c2,c3,c4,c5,hb,hzX⟩;dsimp only at c0 c1 c2 c3 c4 c5
      go_wp2_with (go_at_call 78;refine (jq _ _ _ _).mono ?_;rintro e wy ⟨rfl,rfl⟩)
      go_ret;exact ⟨by rw [HE.out];rfl,hb⟩
theorem qhC (c:Chg) (A:Option Addr) (cap:Nat) (w:World) (h1:c.kind≠1) (h2:c.kind≠2) (h3:c.kind≠3) (h4:c.kind≠4):Calls prog 43 #[jH c A cap] w (qh (.int .i64 (vj c)) w):=by
 have e:vj c=9:=if_pos L0;rw [e];obtain ⟨kind,row,col,count,til,g⟩:=c;have b1:(kind==1)=false:=Lm.2 h1;have b2:(kind==2)=false:=Lm.2 h2;have b3:(kind==3)=false:=Lm.2 h3;have b4:(kind==4)=false:=Lm.2 h4;clear e h1 h2 h3 h4
 go_enter func43,ntmps43
 go_upto_region 1 with fail
 refine qa (ChgBox w ⟨kind,row,col,count,til,g⟩ A cap) (ChgBox.new w ⟨kind,row,col,count,til,g⟩ A cap _) ?_;rintro X ⟨c0,c1,c2,c3,c4,c5,hb,hzX⟩;dsimp only at c0 c1 c2 c3 c4 c5
 go_wp2_with (go_at_call 78;refine (jq _ _ _ _).mono ?_;rintro e wy ⟨rfl,rfl⟩)
 go_ret;exact ⟨rfl,hb⟩
theorem vchk_ (c:Chg) (A:Option Addr) (cap B:Nat) (w:World) (hn:c.glyphs.length<=1000000000) (rd:Rd w B 3 A c.glyphs.length (qi c.glyphs)) (hB:B<=w.heap.size) (hz : ∀ x∈c.glyphs,x.text.size<=1000000000) :
  Calls prog 43 #[jH c A cap] w (qh (.int .i64 (vj c)) w):=by
 by_cases h1:c.kind=1
 ·obtain ⟨kind,row,col,count,til,g⟩:=c;obtain rfl:kind=1:=h1;exact qhT row col count til g A cap w
 ·by_cases h2:c.kind=2
  ·obtain ⟨kind,row,col,count,til,g⟩:=c;obtain rfl:kind=2:=h2;exact qhF row col count til g A cap w
  ·by_cases h3:c.kind=3
   ·obtain ⟨kind,row,col,count,til,g⟩:=c;obtain rfl:kind=3:=h3;exact qfh row col count til g A cap w B hn rd hB hz
   ·by_cases h4:c.kind=4
    ·obtain ⟨kind,row,col,count,til,g⟩:=c;obtain rfl:kind=4:=h4;exact qgO row col count til g A cap w
    ·exact qhC c A cap w h1 h2 h3 h4
theorem vCheck_ (l:List ChgM) (A:Option Addr) (n c B:Nat) (w:World) (hn:n<=1000000000) (rd:RdC w B A n l) (hB:B<=w.heap.size) (hs:SmC l) :
  Calls prog 25 #[.slice A n c] w (qh (.int .i64 (chkAll l)) w):=by
 have HN:=Lh rd.len;have HRd:=Lh rd;have HF:Hid (chkAll l=chkAll (l.drop 0)):=Lh rfl;have HC:Hid (∀ x∈l,∀ w',Below w.heap.size w w'->Calls prog 43 #[jH x.c x.A x.cap] w' (qh (.int .i64 (vj x.c)) w')):=Lh fun x hx w' hw =>
  vchk_ x.c x.A x.cap B w' (hs x hx).1 ((rd.gl x hx).1.below (hw.mono hB)) (Lj hB hw.size) (hs x hx).2
 generalize chkAll l=R at *
 clear rd hs
 go_enter func25,ntmps25
 go_wp2
 go_loopw [3] (fun x wr=>∃ k:Nat,k<=n/\x = .int .i64 k/\Below w.heap.size w wr/\Hid (R=chkAll (l.drop k))) (fun x _=>n-(intOf x).toNat)
 case atStart=>exact ⟨0,Nat.zero_le _,rfl,Le _ _,HF⟩
 case round =>
  obtain ⟨k,hk,rfl,hbel,HK⟩:=hrel
  by_cases hlt:k<n
  ·have hkl:k<l.length:=by have:=HN.out;omega
   obtain ⟨b,o,rfl,hbB,c0,c1,c2,c3,c4,c5⟩:=(HRd.out.below (hbel.mono hB)).at_ hkl;have HD:Hid (chkAll (l.drop k)=if vj l[k].c=0 then chkAll (l.drop (k+1)) else vj l[k].c):=Lh (by rw [Ls hkl];rfl);have HCk:=Lh (HC.out l[k] (Lt hkl) _ hbel);generalize l[k]=x at *
   obtain ⟨⟨kind,row,col,count,til,g⟩,Ag,cg⟩:=x;dsimp only at *
   generalize vj ⟨kind,row,col,count,til,g⟩=K at *
   by_cases hK:K=0
   ·have HR2:Hid (R=chkAll (l.drop (k+1))):=Lh (by rw [HK.out,HD.out,if_pos hK]);have hKb:(K != 0)=false:=by simp [hK]
    clear HK HD hK HC HRd
    go_wp2_with (go_at_call 43;refine HCk.out.mono ?_;rintro e w1 ⟨rfl,hb1⟩)
    exact ⟨⟨k+1,by omega,by go_num,hbel.trans (hb1.mono hbel.size),HR2⟩,by simp [intOf];omega⟩
   ·have HR2:Hid (R=K):=Lh (by rw [HK.out,HD.out,if_neg hK]);have hKb:(K != 0)=true:=Ln.2 hK;clear HK HD hK HC HRd
    go_wp2_with (go_at_call 43;refine HCk.out.mono ?_;rintro e w1 ⟨rfl,hb1⟩)
    go_ret;exact ⟨by rw [HR2.out];rfl,hbel.trans (hb1.mono hbel.size)⟩
  ·have HR2:Hid (R=0):=Lh (by rw [HK.out,Lv (by have:=HN.out;omega)];rfl);go_wp2;go_ret;exact ⟨by rw [HR2.out];rfl,hbel⟩
def VwR (l:List ChgM) (m r q k:Int) (S:Setts) (w:World) (e:Ending) (w':World):Prop :=
 if wErr l m r q k=0 then ql 9 1 yP w (qZ (zo l) m S).length (sv (qZ (zo l) m S)) e w' else (∃ A,e = .returned (.tuple #[.slice A 0 0,.int .i64 (wErr l m r q k)]))/\Below w.heap.size w w'
theorem VwR.err {l:List ChgM} {m r q k x:Int} {S:Setts} {w w':World} {e:Ending} (h:wErr l m r q k=x) (hx:x≠0) (he:(∃ A,e = .returned (.tuple #[.slice A 0 0,.int .i64 x]))/\Below w.heap.size w w'):VwR l m r q k S w e w':=by
 unfold VwR;rw [if_neg (by rw [h];exact hx),h];exact he
theorem VwR.ok {l:List ChgM} {m r q k:Int} {S:Setts} {w w':World} {e:Ending} (h:wErr l m r q k=0) (he:ql 9 1 yP w (qZ (zo l) m S).length (sv (qZ (zo l) m S)) e w'):VwR l m r q k S w e w':=by
 unfold VwR;rw [if_pos h];exact he
theorem qik (l:List ChgM) (A:Option Addr) (n c:Nat) (m:Int) (r:Int) (d sp:Bool) (p:Int) (con:Bool) (k:Int) (w:World) (hn:n<=1000) (rd:RdC w w.heap.size A n l) (hsm:SmC l) (ht:Tb w) :
  Calls prog 12 #[.slice A n c,.int .i64 m,stV r d sp p con k] w (VwR l m r p k ⟨d,sp,p⟩ w):=by
 have HCk:Hid (∀ w',Below w.heap.size w w'->Calls prog 25 #[.slice A n c] w' (qh (.int .i64 (chkAll l)) w')):=Lh fun w' h=>vCheck_ l A n c w.heap.size w' L0 (rd.below h) h.size hsm
 have HSt:=Lh (rcheck_s r d sp p con k)
 by_cases h1:setE r p k=0
 ·have hp0:0<=p:=by
   by_cases hb:BadS r p k
   ·rw [qfQ hb] at h1;cases h1
   ·unfold BadS at hb;omega
  by_cases h2:m<0
  ·refine (?_:Calls _ _ _ w (fun e w'=>(∃ A,e = .returned (.tuple #[.slice A 0 0,.int .i64 1]))/\Below w.heap.size w w')).mono fun e w' h=>VwR.err (if_pos (.inr h2)) L2 h
   rw [h1] at HSt;generalize chkAll l=E2 at *
   clear h1 rd hsm ht
   go_enter func12,ntmps12
   go_upto_region 1 with fail
   refine qa (fun X=>StBox X r d sp p con k w.heap.size/\Below w.heap.size w X/\w.heap.size+1<=X.heap.size) ⟨StBox.new w r d sp p con k _,L5,by simp⟩ ?_;rintro X ⟨hst,hb0,hz0⟩;have hst':=hst;obtain ⟨s0,s1,s2,s3,s4,s5⟩:=hst
   go_wp2_with (first | (go_at_call 24;refine (HSt.out _).mono ?_;rintro e w1 ⟨rfl,hb1⟩;have hs1:=hb1.size) | (go_at_call 25;refine (HCk.out _ (hb0.trans (hb1.mono hb0.size))).mono ?_;rintro e w2 ⟨rfl,hb2⟩;have hs2:=hb2.size))
   go_ret2;exact ⟨⟨_,rfl⟩,(hb0.trans (hb1.mono hb0.size)).alloc L6 _⟩
  ·have hw0:wErr l m r p k=if 999999999<m then 5 else chkAll l:=if_neg (by rw [h1];simp;omega)
   rw [h1] at HSt;clear h1
   by_cases h3:999999999<m
   ·rw [if_pos h3] at hw0;refine (?_:Calls _ _ _ w (fun e w'=>(∃ A,e = .returned (.tuple #[.slice A 0 0,.int .i64 5]))/\Below w.heap.size w w')).mono fun e w' h=>VwR.err hw0 L2 h
    clear hw0;generalize chkAll l=E2 at *
    clear rd hsm ht
    go_enter func12,ntmps12
    go_upto_region 1 with fail
    refine qa (fun X=>StBox X r d sp p con k w.heap.size/\Below w.heap.size w X/\w.heap.size+1<=X.heap.size) ⟨StBox.new w r d sp p con k _,L5,by simp⟩ ?_;rintro X ⟨hst,hb0,hz0⟩;have hst':=hst;obtain ⟨s0,s1,s2,s3,s4,s5⟩:=hst
    go_wp2_with (first | (go_at_call 24;refine (HSt.out _).mono ?_;rintro e w1 ⟨rfl,hb1⟩;have hs1:=hb1.size) | (go_at_call 25;refine (HCk.out _ (hb0.trans (hb1.mono hb0.size))).mono ?_;rintro e w2 ⟨rfl,hb2⟩;have hs2:=hb2.size))
    go_ret2;exact ⟨⟨_,rfl⟩,(hb0.trans (hb1.mono hb0.size)).alloc L6 _⟩
   ·rw [if_neg h3] at hw0
    by_cases h4:chkAll l=0
    ·rw [h4] at hw0 HCk;refine (?_:Calls _ _ _ w (ql 9 1 yP w (qZ (zo l) m ⟨d,sp,p⟩).length (sv (qZ (zo l) m ⟨d,sp,p⟩)))).mono fun e w' h=>VwR.ok hw0 h
     have HPh:Hid (∀ x∈l,∀ w',Below w.heap.size w w'->Calls prog 26 #[jH x.c x.A x.cap,stV r d sp p con k] w' (ql 9 1 id w' (phraseL x.c ⟨d,sp,p⟩).length (sv (phraseL x.c ⟨d,sp,p⟩)))):=Lh fun x hx w' hw =>
      vphrase_ x (qac.1 h4 x.c (List.mem_map_of_mem hx)) r d sp p con k w' w.heap.size hw.size ((rd.gl x hx).1.below hw) (rd.gl x hx).2.1 (rd.gl x hx).2.2 hp0 (ht.below hw)
     have HLe:Hid (∀ x∈l,(phraseL x.c ⟨d,sp,p⟩).length<=50000200):=Lh fun x hx=>qji (qac.1 h4 x.c (List.mem_map_of_mem hx)) _
     have HN:=Lh rd.len;have HRd:=Lh rd;have HTb:=Lh ht;have HFl:Hid (∀ j (h:j<l.length),((zo (l.drop j)).flatMap fun c=>phraseL c ⟨d,sp,p⟩)=phraseL l[j].c ⟨d,sp,p⟩++(zo (l.drop (j+1))).flatMap fun c=>phraseL c ⟨d,sp,p⟩):=Lh fun j h=>qiH h _
     have HEn:Hid (∀ j,l.length<=j->((zo (l.drop j)).flatMap fun c=>phraseL c ⟨d,sp,p⟩)=[]):=Lh fun j h=>by rw [Lv h];rfl
     have H0:Hid (qZ (zo l) m ⟨d,sp,p⟩=[]++(((zo (l.drop 0)).flatMap fun c=>phraseL c ⟨d,sp,p⟩)++endW m)):=Lh rfl;generalize qZ (zo l) m ⟨d,sp,p⟩=R at *
     generalize hF:(fun j=>(zo (l.drop j)).flatMap fun c=>phraseL c ⟨d,sp,p⟩)=F;replace HFl:Hid (∀ j (h:j<l.length),F j=phraseL l[j].c ⟨d,sp,p⟩++F (j+1)):=Lh (by rw [<- hF];exact HFl.out);replace HEn:Hid (∀ j,l.length<=j->F j=[]):=Lh (by rw [<- hF];exact HEn.out);replace H0:Hid (R=[]++(F 0++endW m)):=Lh (by rw [<- hF];exact H0.out);clear hF hw0 h4 rd hsm ht hp0
     go_enter func12,ntmps12
     go_upto_region 1 with fail
     refine qa (fun X=>StBox X r d sp p con k w.heap.size/\Below w.heap.size w X/\w.heap.size+1<=X.heap.size) ⟨StBox.new w r d sp p con k _,L5,by simp⟩ ?_;rintro X ⟨hst,hb0,hz0⟩;have hst':=hst;obtain ⟨s0,s1,s2,s3,s4,s5⟩:=hst
     go_wp2_with (first | (go_at_call 24;refine (HSt.out _).mono ?_;rintro e w1 ⟨rfl,hb1⟩;have hs1:=hb1.size) | (go_at_call 25;refine (HCk.out _ (hb0.trans (hb1.mono hb0.size))).mono ?_;rintro e w2 ⟨rfl,hb2⟩;have hs2:=hb2.size))
     have hb3:Below w.heap.size w w2:=hb0.trans ((hb1.mono hb0.size).trans (hb2.mono (Lj hb0.size hb1.size)));have hst2:=(hst'.below hb1 L0).below hb2 (by have:=hb1.size;omega);have hz2:w.heap.size+1<=w2.heap.size:=by have:=hb1.size;have:=hb2.size;omega
     have hba:Below w2.heap.size w2 (w2.alloc (.cells #[] 9)):=L5;have hst3:=hst2.below hba L0;have hb4:=hb3.trans (hba.mono L0);have hz4:=Lj hz2 hba.size;clear hb0 hb1 hb2 hb3 hst2 hst' s0 s1 s2 s3 s4 s5 hz0 hba
     go_loopw [9,10] (fun x y wr=>∃ (j:Nat) (A2:Option Addr) (c2:Nat) (O:List ByteArray),j<=n/\y = .int .i64 j/\x = .slice A2 O.length c2/\wr.ownsRow (w.heap.size+1) 9 1 (.slice A2 O.length c2) O.length (sv O)/\O.length<=j * 50000200/\StBox wr r d sp p con k w.heap.size/\Below w.heap.size w wr/\w.heap.size+1<=wr.heap.size/\Hid (R=O++(F j++endW m))) (fun _ y _=>n-(intOf y).toNat)
     case atStart=>exact ⟨0,_,0,[],Nat.zero_le _,rfl,rfl,qx (xs:=[]) (n:=0) rfl rfl hz2 L0,by simp,hst3,hb4,hz4,H0⟩
     case round =>
      clear hb4 hst3 hz4 hz2 H0;obtain ⟨j,A2,c2,O,hj,rfl,rfl,ho,hol,hst,hbl,hzr,HK⟩:=hrel;have hol2:O.length<=50000200000:=by
       have:j * 50000200<=1000 * 50000200:=Nat.mul_le_mul_right _ L0
       omega
      obtain ⟨s0,s1,s2,s3,s4,s5⟩:=id hst
      by_cases hlt:j<n
      ·as_aux_lemma =>
       have hjl:j<l.length:=by have:=HN.out;omega
       obtain ⟨b,o,rfl,hbB,g0,g1,g2,g3,g4,g5⟩:=(HRd.out.below hbl).at_ hjl;have HD:=Lh (HFl.out j hjl);have HP:=Lh (HPh.out l[j] (Lt hjl));have hpl:=HLe.out l[j] (Lt hjl);generalize l[j]=x at *
       obtain ⟨⟨kind,row,col,count,til,g⟩,Ag,cg⟩:=x;dsimp only at *
       obtain ⟨W,hW⟩ : ∃ x,Hid (x=phraseL ⟨kind,row,col,count,til,g⟩ ⟨d,sp,p⟩):=⟨_,Lh rfl⟩
       rw [<- hW.out] at HD HP hpl;have HK2:Hid (R=(O++W)++(F (j+1)++endW m)):=Lh (by rw [HK.out,HD.out];simp only [List.append_assoc]);have hol3:(O++W).length<=(j+1) * 50000200:=by rw [Lf,Nat.add_mul];omega
       have j1:(0:Int)<=j:=by omega
       have j2:(j:Int)<n:=by omega
       clear HK HD HPh HLe HFl HEn HCk HSt HRd hW HTb
       go_upto_region 12 with fail
       go_region_law (first
        | (go_simp;go_at_call 26;refine (HP.out _ hbl.drew).mono ?_;rintro e w4 ⟨A4,c4,rfl,ho4,hb4⟩;have hz4:=hb4.size;have hz5:wr.heap.size<=w4.heap.size:=hz4)
        | (refine jZ rfl _ _ _ rfl qp ((w.heap.size+1)) _ rfl ((qb (qb ho (Le _ _).drew) hb4)) _ _ rfl ((Rd.of_own ho4)) (sv_one _) ?_;intro A5 c5 w5 hown5 hbel5 hgr5 hat5;have z5:=hbel5.size;(try simp only [Lo,Lg] at hown5)))
       all_goals go_wp2
       all_goals exact ⟨⟨j+1,A5,c5,O++W,by omega,by go_num,by rw [Lf],by rw [Lf,sv_app];exact hown5,hol3,((hst.below (Le wr.heap.size wr).drew L0).below hb4 (by (show w.heap.size<wr.heap.size);omega)).below hbel5 L0,(hbl.drew.trans (hb4.mono (Lj hbl.size (Ld _)))).trans (hbel5.mono L0),by omega,HK2⟩,by simp [intOf];omega⟩
      ·have HK2:Hid (R=O++endW m):=Lh (by rw [HK.out,HEn.out j (by have:=HN.out;omega)];rfl);clear HK HPh HLe HFl HEn HCk HSt HRd
       by_cases h0:m=0
       ·as_aux_lemma =>
        subst h0;have HK3:Hid (R=O++[kZ]):=Lh HK2.out;clear HK2 HTb
        go_wp2_with (at_builtin;refine qg rfl _ _ _ rfl qp ((w.heap.size+1)) _ rfl (qb ho L5) _ _ rfl ((qe (xs:=sv [kZ]) rfl rfl)) ?_;intro A9 c9 w9 hown9 hbel9 hgr9 hat9;have z9:=hbel9.size;(try simp only [Li] at z9);(try simp only [Lo,Lg] at hown9))
        go_ret2;rw [HK3.out,Lf,sv_app];exact ⟨A9,c9,rfl,qt hown9 L0,(hbl.alloc hbl.size _).trans (hbel9.mono L0)⟩
       ·by_cases h1':m=1
        ·as_aux_lemma =>
         subst h1';have HK3:Hid (R=O++[jN]):=Lh HK2.out;clear HK2 HTb
         go_wp2_with (at_builtin;refine qg rfl _ _ _ rfl qp ((w.heap.size+1)) _ rfl (qb ho L5) _ _ rfl ((qe (xs:=sv [jN]) rfl rfl)) ?_;intro A9 c9 w9 hown9 hbel9 hgr9 hat9;have z9:=hbel9.size;(try simp only [Li] at z9);(try simp only [Lo,Lg] at hown9))
         go_ret2;rw [HK3.out,Lf,sv_app];exact ⟨A9,c9,rfl,qt hown9 L0,(hbl.alloc hbl.size _).trans (hbel9.mono L0)⟩
        ·as_aux_lemma =>
         have HK3:Hid (R=(O++jN::qY m)++[jG]):=Lh (by rw [HK2.out,endW,if_neg h0,if_neg h1'];simp only [List.append_assoc];rfl);have hb0:(m==0)=false:=Lm.2 h0;have hb1:(m==1)=false:=Lm.2 h1';have HSy:=Lh (rsay m L0 L0 jN O A2 O.length c2 (w.heap.size+1) wr (fun Y hY=>HTb.out.below (hbl.trans (hY.mono L0))) ho rfl L0 hzr);have hml:=vO m;have hln:(O++jN::qY m).length<=60000000000:=by rw [Lf,Lp];omega
         generalize O++jN::qY m=OD at *
         clear HK2 h0 h1' hst hml HTb
         go_wp2_with (first
          | (go_at_call 27;refine HSy.out.mono ?_;rintro e w5 ⟨⟨A5,c5,rfl,ho5⟩,hb5⟩;have hz5:=hb5.size)
          | (at_builtin;refine qg rfl _ _ _ rfl qp ((w.heap.size+1)) _ rfl (qb ho5 L5) _ _ rfl ((qe (xs:=sv [jG]) rfl rfl)) ?_;intro A9 c9 w9 hown9 hbel9 hgr9 hat9;have z9:=hbel9.size;(try simp only [Li] at z9);(try simp only [Lo,Lg] at hown9)))
         go_ret2;rw [HK3.out,Lf,sv_app];exact ⟨A9,c9,rfl,qt hown9 L0,((hbl.trans (hb5.mono L0)).alloc L0 _).trans (hbel9.mono L0)⟩
    ·refine (?_:Calls _ _ _ w (fun e w'=>(∃ A,e = .returned (.tuple #[.slice A 0 0,.int .i64 (chkAll l)]))/\Below w.heap.size w w')).mono fun e w' h=>VwR.err hw0 h4 h
     clear hw0;generalize chkAll l=E2 at *
     have h4b:(E2 != 0)=true:=Ln.2 h4;clear rd hsm ht h4
     go_enter func12,ntmps12
     go_upto_region 1 with fail
     refine qa (fun X=>StBox X r d sp p con k w.heap.size/\Below w.heap.size w X/\w.heap.size+1<=X.heap.size) ⟨StBox.new w r d sp p con k _,L5,by simp⟩ ?_;rintro X ⟨hst,hb0,hz0⟩;have hst':=hst;obtain ⟨s0,s1,s2,s3,s4,s5⟩:=hst
     go_wp2_with (first | (go_at_call 24;refine (HSt.out _).mono ?_;rintro e w1 ⟨rfl,hb1⟩;have hs1:=hb1.size) | (go_at_call 25;refine (HCk.out _ (hb0.trans (hb1.mono hb0.size))).mono ?_;rintro e w2 ⟨rfl,hb2⟩;have hs2:=hb2.size))
     go_ret2;exact ⟨⟨_,rfl⟩,((hb0.trans (hb1.mono hb0.size)).trans (hb2.mono L6)).alloc L6 _⟩
 ·refine (?_:Calls _ _ _ w (fun e w'=>(∃ A,e = .returned (.tuple #[.slice A 0 0,.int .i64 1]))/\Below w.heap.size w w')).mono fun e w' h=>VwR.err (if_pos (.inl h1)) L2 h
  generalize chkAll l=E2 at *
  generalize setE r p k=E1 at *
  have h1b:(E1 != 0)=true:=Ln.2 h1;clear h1 rd hsm ht
  go_enter func12,ntmps12
  go_upto_region 1 with fail
  refine qa (fun X=>StBox X r d sp p con k w.heap.size/\Below w.heap.size w X/\w.heap.size+1<=X.heap.size) ⟨StBox.new w r d sp p con k _,L5,by simp⟩ ?_;rintro X ⟨hst,hb0,hz0⟩;have hst':=hst;obtain ⟨s0,s1,s2,s3,s4,s5⟩:=hst
  go_wp2_with (first | (go_at_call 24;refine (HSt.out _).mono ?_;rintro e w1 ⟨rfl,hb1⟩;have hs1:=hb1.size) | (go_at_call 25;refine (HCk.out _ (hb0.trans (hb1.mono hb0.size))).mono ?_;rintro e w2 ⟨rfl,hb2⟩;have hs2:=hb2.size))
  go_ret2;exact ⟨⟨_,rfl⟩,(hb0.trans (hb1.mono hb0.size)).alloc L6 _⟩
theorem qga {l:List ChgM} (h:qci l=false):l.length<=30/\SmC l:=by
 unfold qci at h;rw [Bool.or_eq_false_iff] at h;refine ⟨by have:=of_decide_eq_false h.1;omega,fun x hx=>?_⟩;have h2:=List.any_eq_false.1 h.2 x hx;simp only [zA,Bool.or_eq_true,decide_eq_true_eq,List.any_eq_true,not_or,not_exists,not_and] at h2;exact ⟨by omega,fun g hg=>by have:=h2.2 g hg;omega⟩
def WoE (E:Int) (w X:World) (e:Ending) (X':World):Prop:=(∃ A2 n2 c2,e = .returned (.tuple #[.slice A2 n2 c2,.int .i64 E]))/\Below w.heap.size w X'/\Below X.heap.size X X'
def WoT (W:List ByteArray) (w X:World) (e:Ending) (X':World):Prop:=(∃ A2 c2,e = .returned (.tuple #[.slice A2 W.length c2,.int .i64 0])/\X'.ownsRow X.heap.size 9 1 (.slice A2 W.length c2) W.length (sv W))/\Below w.heap.size w X'/\Below X.heap.size X X'
theorem VwR.any {l:List ChgM} {m r q k:Int} {S:Setts} {w X X':World} {e:Ending} (h:VwR l m r q k S X e X') (hX:Below w.heap.size w X):WoE (wErr l m r q k) w X e X':=by
 unfold VwR at h
 split at h
 ·next h0 =>
  obtain ⟨A2,c2,he,ho,hb⟩:=h;exact ⟨⟨A2,_,c2,by rw [he,h0]⟩,hX.trans (hb.mono hX.size),hb⟩
 ·obtain ⟨⟨A2,he⟩,hb⟩:=h;exact ⟨⟨A2,0,0,he⟩,hX.trans (hb.mono hX.size),hb⟩
theorem VwR.good {l:List ChgM} {m r q k:Int} {S:Setts} {w X X':World} {e:Ending} (h:VwR l m r q k S X e X') (h0:wErr l m r q k=0) (hX:Below w.heap.size w X):WoT (qZ (zo l) m S) w X e X':=by
 unfold VwR at h;rw [if_pos h0] at h;obtain ⟨A2,c2,he,ho,hb⟩:=h;exact ⟨⟨A2,c2,he,ho⟩,hX.trans (hb.mono hX.size),hb⟩
structure Bx2 (w:World) (m:Md) (A:Option Addr) (n c:Nat) (r:Int) (d sp:Bool) (q:Int) (co:Bool) (k:Int) (X:World):Prop where
 m:Blk X w.heap.size 26 (mdC m A n c)
 s:Blk X (w.heap.size+1) 38 #[.int .i64 r,.bool d,.bool sp,.int .i64 q,.bool co,.int .i64 k]
 bel:Below w.heap.size w X
section
variable {w X X' : World} {m : Md} {A : Option Addr} {n c : Nat} {r q k : Int} {d sp co : Bool}
theorem Bx2.new (w:World) (m:Md) (A:Option Addr) (n c:Nat) (r q k:Int) (d sp co:Bool):Bx2 w m A n c r d sp q co k ((w.alloc (.cells (mdC m A n c) 26)).alloc (.cells #[.int .i64 r,.bool d,.bool sp,.int .i64 q,.bool co,.int .i64 k] 38)) :=
 ⟨(Blk.new_ rfl).alloc _,Blk.new_ L1,(L5).alloc L1 _⟩
theorem Bx2.on (h:Bx2 w m A n c r d sp q co k X) (hb:Below X.heap.size X X'):Bx2 w m A n c r d sp q co k X' :=
 ⟨h.m.below hb h.m.lt,h.s.below hb h.s.lt,h.bel.trans (hb.mono h.bel.size)⟩
theorem Bx2.setts (h:Bx2 w m A n c r d sp q co k X):StBox X r d sp q co k (w.heap.size+1) :=
 ⟨h.s.cell 0,h.s.cell 1,h.s.cell 2,h.s.cell 3,h.s.cell 4,h.s.cell 5⟩
end
end Go.Proofs.YtbogmeeijdaijaaGreatDoor
