/- Joined: Vc1, Vc4, LxT, UtRow. -/
import Derived.Test.YticbpkghcglgkaaGreatDoorVEL
set_option linter.unusedVariables false
set_option linter.unusedSimpArgs false
set_option linter.unnecessarySimpa false
set_option maxHeartbeats 8000000
namespace Go.Proofs.YticbpkghcglgkaaGreatDoor
open Go.Proofs.Tryz Go.RowKit
set_option maxRecDepth 20000
theorem jq (n a b:Int) (w:World):Calls prog 92 #[.int .i64 n,.int .i64 a,.int .i64 b] w fun e w'=>e = .returned (.bool (inB n a b))/\w=w':=by
 unfold inB
 by_cases h1:a<=n
 ·by_cases h2:n<=b
  ·go_enter func92,ntmps92
   go_wp2
   go_ret
   exact ⟨by simp [h1,h2],rfl⟩
  ·go_enter func92,ntmps92
   go_wp2
   go_ret
   exact ⟨by simp [h1,h2],rfl⟩
 ·go_enter func92,ntmps92
  go_wp2
  go_ret
  exact ⟨by rw [decide_eq_false (show ¬ a<=n by omega)];rfl,rfl⟩
theorem qhT (row col count til:Int) (g:List Gl) (A:Option Addr) (cap:Nat) (w:World):Calls prog 56 #[jH ⟨1,row,col,count,til,g⟩ A cap] w (qh (.int .i64 (vj ⟨1,row,col,count,til,g⟩)) w):=by
 rw [qiy]
 obtain ⟨R,hR⟩ : ∃ x,x=jL (inB row 1 60&&inB col 1 132) (decide (count=0)&&decide (til=0)&&decide (g.length=0)) false:=⟨_,rfl⟩
 rw [<- hR]
 have HR:=Lh hR
 clear hR
 generalize hz0:inB row 0 59=z0 at *
 cases h1:inB row 1 60 with
 | false=>as_aux_lemma =>
  have HE:Hid (R=2):=Lh (by rw [HR.out];simp [jL,h1])
  clear HR
  skip
  go_enter func56,ntmps56
  go_upto_region 1 with fail
  refine qa (ChgBox w ⟨1,row,col,count,til,g⟩ A cap) (ChgBox.new w ⟨1,row,col,count,til,g⟩ A cap _) ?_
  rintro X ⟨c0,c1,c2,c3,c4,c5,hb,hzX⟩
  dsimp only at c0 c1 c2 c3 c4 c5
  go_wp2_with (go_at_call 92;refine (jq _ _ _ _).mono ?_;rintro e wy ⟨rfl,rfl⟩)
  go_ret
  exact ⟨by rw [HE.out];rfl,hb⟩
 | true =>
  cases h2:inB col 1 132 with
  | false=>as_aux_lemma =>
   have HE:Hid (R=2):=Lh (by rw [HR.out];simp [jL,h1,h2])
   clear HR
   skip
   go_enter func56,ntmps56
   go_upto_region 1 with fail
   refine qa (ChgBox w ⟨1,row,col,count,til,g⟩ A cap) (ChgBox.new w ⟨1,row,col,count,til,g⟩ A cap _) ?_
   rintro X ⟨c0,c1,c2,c3,c4,c5,hb,hzX⟩
   dsimp only at c0 c1 c2 c3 c4 c5
   go_wp2_with (go_at_call 92;refine (jq _ _ _ _).mono ?_;rintro e wy ⟨rfl,rfl⟩)
   go_ret
   exact ⟨by rw [HE.out];rfl,hb⟩
  | true =>
   by_cases h3:count=0
   ·have k3:(count != 0)=false:=by simp [h3]
    by_cases h4:til=0
    ·have k4:(til != 0)=false:=by simp [h4]
     by_cases h5:g.length=0
     ·as_aux_lemma =>
      have k5 : ¬ (0:Int)<g.length:=by omega
      have HE:Hid (R=0):=Lh (by rw [HR.out];simp [jL,h1,h2,h3,h4,h5])
      clear HR
      clear h3 h4 h5
      go_enter func56,ntmps56
      go_upto_region 1 with fail
      refine qa (ChgBox w ⟨1,row,col,count,til,g⟩ A cap) (ChgBox.new w ⟨1,row,col,count,til,g⟩ A cap _) ?_
      rintro X ⟨c0,c1,c2,c3,c4,c5,hb,hzX⟩
      dsimp only at c0 c1 c2 c3 c4 c5
      go_wp2_with (go_at_call 92;refine (jq _ _ _ _).mono ?_;rintro e wy ⟨rfl,rfl⟩)
      go_ret
      exact ⟨by rw [HE.out];rfl,hb⟩
     ·as_aux_lemma =>
      have k5:(0:Int)<g.length:=by omega
      have HE:Hid (R=1):=Lh (by rw [HR.out];simp [jL,h1,h2,h3,h4,h5])
      clear HR
      clear h3 h4 h5
      go_enter func56,ntmps56
      go_upto_region 1 with fail
      refine qa (ChgBox w ⟨1,row,col,count,til,g⟩ A cap) (ChgBox.new w ⟨1,row,col,count,til,g⟩ A cap _) ?_
      rintro X ⟨c0,c1,c2,c3,c4,c5,hb,hzX⟩
      dsimp only at c0 c1 c2 c3 c4 c5
      go_wp2_with (go_at_call 92;refine (jq _ _ _ _).mono ?_;rintro e wy ⟨rfl,rfl⟩)
      go_ret
      exact ⟨by rw [HE.out];rfl,hb⟩
    ·as_aux_lemma =>
     have k4:(til != 0)=true:=bne_iff_ne.2 h4
     have HE:Hid (R=1):=Lh (by rw [HR.out];simp [jL,h1,h2,h3,h4])
     clear HR
     clear h3 h4
     go_enter func56,ntmps56
     go_upto_region 1 with fail
     refine qa (ChgBox w ⟨1,row,col,count,til,g⟩ A cap) (ChgBox.new w ⟨1,row,col,count,til,g⟩ A cap _) ?_
     rintro X ⟨c0,c1,c2,c3,c4,c5,hb,hzX⟩
     dsimp only at c0 c1 c2 c3 c4 c5
     go_wp2_with (go_at_call 92;refine (jq _ _ _ _).mono ?_;rintro e wy ⟨rfl,rfl⟩)
     go_ret
     exact ⟨by rw [HE.out];rfl,hb⟩
   ·as_aux_lemma =>
    have k3:(count != 0)=true:=bne_iff_ne.2 h3
    have HE:Hid (R=1):=Lh (by rw [HR.out];simp [jL,h1,h2,h3])
    clear HR
    clear h3
    go_enter func56,ntmps56
    go_upto_region 1 with fail
    refine qa (ChgBox w ⟨1,row,col,count,til,g⟩ A cap) (ChgBox.new w ⟨1,row,col,count,til,g⟩ A cap _) ?_
    rintro X ⟨c0,c1,c2,c3,c4,c5,hb,hzX⟩
    dsimp only at c0 c1 c2 c3 c4 c5
    go_wp2_with (go_at_call 92;refine (jq _ _ _ _).mono ?_;rintro e wy ⟨rfl,rfl⟩)
    go_ret
    exact ⟨by rw [HE.out];rfl,hb⟩
theorem qhF (row col count til:Int) (g:List Gl) (A:Option Addr) (cap:Nat) (w:World):Calls prog 56 #[jH ⟨2,row,col,count,til,g⟩ A cap] w (qh (.int .i64 (vj ⟨2,row,col,count,til,g⟩)) w):=by
 rw [qin]
 obtain ⟨R,hR⟩ : ∃ x,x=jL (inB row 0 59&&inB til (row+1) 60&&inB count (-60) 60&&decide (count≠0)) (decide (col=0)&&decide (g.length=0)) false:=⟨_,rfl⟩
 rw [<- hR]
 have HR:=Lh hR
 clear hR
 cases h0:inB row 0 59 with
 | false=>as_aux_lemma =>
  have HE:Hid (R=2):=Lh (by rw [HR.out];simp [jL,h0])
  clear HR
  skip
  go_enter func56,ntmps56
  go_upto_region 1 with fail
  refine qa (ChgBox w ⟨2,row,col,count,til,g⟩ A cap) (ChgBox.new w ⟨2,row,col,count,til,g⟩ A cap _) ?_
  rintro X ⟨c0,c1,c2,c3,c4,c5,hb,hzX⟩
  dsimp only at c0 c1 c2 c3 c4 c5
  go_wp2_with (go_at_call 92;refine (jq _ _ _ _).mono ?_;rintro e wy ⟨rfl,rfl⟩)
  go_ret
  exact ⟨by rw [HE.out];rfl,hb⟩
 | true =>
  have e0:IntKind.i64.wrap (row+1)=row+1:=by
   unfold inB at h0
   simp only [Bool.and_eq_true,decide_eq_true_eq] at h0
   rw [IntKind.wrap_i64];omega
  cases h1:inB til (row+1) 60 with
  | false=>as_aux_lemma =>
   have HE:Hid (R=2):=Lh (by rw [HR.out];simp [jL,h0,h1])
   clear HR
   skip
   go_enter func56,ntmps56
   go_upto_region 1 with fail
   refine qa (ChgBox w ⟨2,row,col,count,til,g⟩ A cap) (ChgBox.new w ⟨2,row,col,count,til,g⟩ A cap _) ?_
   rintro X ⟨c0,c1,c2,c3,c4,c5,hb,hzX⟩
   dsimp only at c0 c1 c2 c3 c4 c5
   go_wp2_with (go_at_call 92;refine (jq _ _ _ _).mono ?_;rintro e wy ⟨rfl,rfl⟩)
   go_ret
   exact ⟨by rw [HE.out];rfl,hb⟩
  | true =>
   cases h2:inB count (-60) 60 with
   | false=>as_aux_lemma =>
    have HE:Hid (R=2):=Lh (by rw [HR.out];simp [jL,h0,h1,h2])
    clear HR
    skip
    go_enter func56,ntmps56
    go_upto_region 1 with fail
    refine qa (ChgBox w ⟨2,row,col,count,til,g⟩ A cap) (ChgBox.new w ⟨2,row,col,count,til,g⟩ A cap _) ?_
    rintro X ⟨c0,c1,c2,c3,c4,c5,hb,hzX⟩
    dsimp only at c0 c1 c2 c3 c4 c5
    go_wp2_with (go_at_call 92;refine (jq _ _ _ _).mono ?_;rintro e wy ⟨rfl,rfl⟩)
    go_ret
    exact ⟨by rw [HE.out];rfl,hb⟩
   | true =>
    by_cases h3:count=0
    ·as_aux_lemma =>
     have k3:(count==0)=true:=by simp [h3]
     have HE:Hid (R=2):=Lh (by rw [HR.out];simp [jL,h0,h1,h2,h3])
     clear HR
     clear h3
     go_enter func56,ntmps56
     go_upto_region 1 with fail
     refine qa (ChgBox w ⟨2,row,col,count,til,g⟩ A cap) (ChgBox.new w ⟨2,row,col,count,til,g⟩ A cap _) ?_
     rintro X ⟨c0,c1,c2,c3,c4,c5,hb,hzX⟩
     dsimp only at c0 c1 c2 c3 c4 c5
     go_wp2_with (go_at_call 92;refine (jq _ _ _ _).mono ?_;rintro e wy ⟨rfl,rfl⟩)
     go_ret
     exact ⟨by rw [HE.out];rfl,hb⟩
    ·have k3:(count==0)=false:=beq_eq_false_iff_ne.2 h3
     by_cases h4:col=0
     ·have k4:(col != 0)=false:=by simp [h4]
      by_cases h5:g.length=0
      ·as_aux_lemma =>
       have k5 : ¬ (0:Int)<g.length:=by omega
       have HE:Hid (R=0):=Lh (by rw [HR.out];simp [jL,h0,h1,h2,h3,h4,h5])
       clear HR
       clear h3 h4 h5
       go_enter func56,ntmps56
       go_upto_region 1 with fail
       refine qa (ChgBox w ⟨2,row,col,count,til,g⟩ A cap) (ChgBox.new w ⟨2,row,col,count,til,g⟩ A cap _) ?_
       rintro X ⟨c0,c1,c2,c3,c4,c5,hb,hzX⟩
       dsimp only at c0 c1 c2 c3 c4 c5
       go_wp2_with (go_at_call 92;refine (jq _ _ _ _).mono ?_;rintro e wy ⟨rfl,rfl⟩)
       go_ret
       exact ⟨by rw [HE.out];rfl,hb⟩
      ·as_aux_lemma =>
       have k5:(0:Int)<g.length:=by omega
       have HE:Hid (R=1):=Lh (by rw [HR.out];simp [jL,h0,h1,h2,h3,h4,h5])
       clear HR
       clear h3 h4 h5
       go_enter func56,ntmps56
       go_upto_region 1 with fail
       refine qa (ChgBox w ⟨2,row,col,count,til,g⟩ A cap) (ChgBox.new w ⟨2,row,col,count,til,g⟩ A cap _) ?_
       rintro X ⟨c0,c1,c2,c3,c4,c5,hb,hzX⟩
       dsimp only at c0 c1 c2 c3 c4 c5
       go_wp2_with (go_at_call 92;refine (jq _ _ _ _).mono ?_;rintro e wy ⟨rfl,rfl⟩)
       go_ret
       exact ⟨by rw [HE.out];rfl,hb⟩
     ·as_aux_lemma =>
      have k4:(col != 0)=true:=bne_iff_ne.2 h4
      have HE:Hid (R=1):=Lh (by rw [HR.out];simp [jL,h0,h1,h2,h3,h4])
      clear HR
      clear h3 h4
      go_enter func56,ntmps56
      go_upto_region 1 with fail
      refine qa (ChgBox w ⟨2,row,col,count,til,g⟩ A cap) (ChgBox.new w ⟨2,row,col,count,til,g⟩ A cap _) ?_
      rintro X ⟨c0,c1,c2,c3,c4,c5,hb,hzX⟩
      dsimp only at c0 c1 c2 c3 c4 c5
      go_wp2_with (go_at_call 92;refine (jq _ _ _ _).mono ?_;rintro e wy ⟨rfl,rfl⟩)
      go_ret
      exact ⟨by rw [HE.out];rfl,hb⟩
theorem qgO (row col count til:Int) (g:List Gl) (A:Option Addr) (cap:Nat) (w:World):Calls prog 56 #[jH ⟨4,row,col,count,til,g⟩ A cap] w (qh (.int .i64 (vj ⟨4,row,col,count,til,g⟩)) w):=by
 rw [qfB]
 obtain ⟨R,hR⟩ : ∃ x,x=jL (inB row 0 59&&inB col 0 131&&inB count 0 1) (decide (til=0)&&decide (g.length=0)) false:=⟨_,rfl⟩
 rw [<- hR]
 have HR:=Lh hR
 clear hR
 cases h0:inB row 0 59 with
 | false=>as_aux_lemma =>
  have HE:Hid (R=2):=Lh (by rw [HR.out];simp [jL,h0])
  clear HR
  skip
  go_enter func56,ntmps56
  go_upto_region 1 with fail
  refine qa (ChgBox w ⟨4,row,col,count,til,g⟩ A cap) (ChgBox.new w ⟨4,row,col,count,til,g⟩ A cap _) ?_
  rintro X ⟨c0,c1,c2,c3,c4,c5,hb,hzX⟩
  dsimp only at c0 c1 c2 c3 c4 c5
  go_wp2_with (go_at_call 92;refine (jq _ _ _ _).mono ?_;rintro e wy ⟨rfl,rfl⟩)
  go_ret
  exact ⟨by rw [HE.out];rfl,hb⟩
 | true =>
  cases h1:inB col 0 131 with
  | false=>as_aux_lemma =>
   have HE:Hid (R=2):=Lh (by rw [HR.out];simp [jL,h0,h1])
   clear HR
   skip
   go_enter func56,ntmps56
   go_upto_region 1 with fail
   refine qa (ChgBox w ⟨4,row,col,count,til,g⟩ A cap) (ChgBox.new w ⟨4,row,col,count,til,g⟩ A cap _) ?_
   rintro X ⟨c0,c1,c2,c3,c4,c5,hb,hzX⟩
   dsimp only at c0 c1 c2 c3 c4 c5
   go_wp2_with (go_at_call 92;refine (jq _ _ _ _).mono ?_;rintro e wy ⟨rfl,rfl⟩)
   go_ret
   exact ⟨by rw [HE.out];rfl,hb⟩
  | true =>
   cases h2:inB count 0 1 with
   | false=>as_aux_lemma =>
    have HE:Hid (R=2):=Lh (by rw [HR.out];simp [jL,h0,h1,h2])
    clear HR
    skip
    go_enter func56,ntmps56
    go_upto_region 1 with fail
    refine qa (ChgBox w ⟨4,row,col,count,til,g⟩ A cap) (ChgBox.new w ⟨4,row,col,count,til,g⟩ A cap _) ?_
    rintro X ⟨c0,c1,c2,c3,c4,c5,hb,hzX⟩
    dsimp only at c0 c1 c2 c3 c4 c5
    go_wp2_with (go_at_call 92;refine (jq _ _ _ _).mono ?_;rintro e wy ⟨rfl,rfl⟩)
    go_ret
    exact ⟨by rw [HE.out];rfl,hb⟩
   | true =>
    by_cases h4:til=0
    ·have k4:(til != 0)=false:=by simp [h4]
     by_cases h5:g.length=0
     ·as_aux_lemma =>
      have k5 : ¬ (0:Int)<g.length:=by omega
      have HE:Hid (R=0):=Lh (by rw [HR.out];simp [jL,h0,h1,h2,h4,h5])
      clear HR
      clear h4 h5
      go_enter func56,ntmps56
      go_upto_region 1 with fail
      refine qa (ChgBox w ⟨4,row,col,count,til,g⟩ A cap) (ChgBox.new w ⟨4,row,col,count,til,g⟩ A cap _) ?_
      rintro X ⟨c0,c1,c2,c3,c4,c5,hb,hzX⟩
      dsimp only at c0 c1 c2 c3 c4 c5
      go_wp2_with (go_at_call 92;refine (jq _ _ _ _).mono ?_;rintro e wy ⟨rfl,rfl⟩)
      go_ret
      exact ⟨by rw [HE.out];rfl,hb⟩
     ·as_aux_lemma =>
      have k5:(0:Int)<g.length:=by omega
      have HE:Hid (R=1):=Lh (by rw [HR.out];simp [jL,h0,h1,h2,h4,h5])
      clear HR
      clear h4 h5
      go_enter func56,ntmps56
      go_upto_region 1 with fail
      refine qa (ChgBox w ⟨4,row,col,count,til,g⟩ A cap) (ChgBox.new w ⟨4,row,col,count,til,g⟩ A cap _) ?_
      rintro X ⟨c0,c1,c2,c3,c4,c5,hb,hzX⟩
      dsimp only at c0 c1 c2 c3 c4 c5
      go_wp2_with (go_at_call 92;refine (jq _ _ _ _).mono ?_;rintro e wy ⟨rfl,rfl⟩)
      go_ret
      exact ⟨by rw [HE.out];rfl,hb⟩
    ·as_aux_lemma =>
     have k4:(til != 0)=true:=bne_iff_ne.2 h4
     have HE:Hid (R=1):=Lh (by rw [HR.out];simp [jL,h0,h1,h2,h4])
     clear HR
     clear h4
     go_enter func56,ntmps56
     go_upto_region 1 with fail
     refine qa (ChgBox w ⟨4,row,col,count,til,g⟩ A cap) (ChgBox.new w ⟨4,row,col,count,til,g⟩ A cap _) ?_
     rintro X ⟨c0,c1,c2,c3,c4,c5,hb,hzX⟩
     dsimp only at c0 c1 c2 c3 c4 c5
     go_wp2_with (go_at_call 92;refine (jq _ _ _ _).mono ?_;rintro e wy ⟨rfl,rfl⟩)
     go_ret
     exact ⟨by rw [HE.out];rfl,hb⟩
theorem qfh (row col count til:Int) (g:List Gl) (A:Option Addr) (cap:Nat) (w:World) (B:Nat) (hn:g.length<=1000000000) (rd:Rd w B 3 A g.length (qi g)) (hB:B<=w.heap.size) (hz : ∀ x∈g,x.text.size<=1000000000) :
  Calls prog 56 #[jH ⟨3,row,col,count,til,g⟩ A cap] w (qh (.int .i64 (vj ⟨3,row,col,count,til,g⟩)) w):=by
 rw [qeh]
 obtain ⟨R,hR⟩ : ∃ x,x=jL (inB row 0 59&&inB col 0 132&&inB count 0 132) (decide (til=0)&&!vA g) (decide (132<g.length)):=⟨_,rfl⟩
 rw [<- hR]
 have HR:=Lh hR
 clear hR
 cases h0:inB row 0 59 with
 | false=>as_aux_lemma =>
  have HE:Hid (R=2):=Lh (by rw [HR.out];simp [jL,h0])
  clear HR
  skip
  go_enter func56,ntmps56
  go_upto_region 1 with fail
  refine qa (ChgBox w ⟨3,row,col,count,til,g⟩ A cap) (ChgBox.new w ⟨3,row,col,count,til,g⟩ A cap _) ?_
  rintro X ⟨c0,c1,c2,c3,c4,c5,hb,hzX⟩
  dsimp only at c0 c1 c2 c3 c4 c5
  go_wp2_with (go_at_call 92;refine (jq _ _ _ _).mono ?_;rintro e wy ⟨rfl,rfl⟩)
  go_ret
  exact ⟨by rw [HE.out];rfl,hb⟩
 | true =>
  cases h1:inB col 0 132 with
  | false=>as_aux_lemma =>
   have HE:Hid (R=2):=Lh (by rw [HR.out];simp [jL,h0,h1])
   clear HR
   skip
   go_enter func56,ntmps56
   go_upto_region 1 with fail
   refine qa (ChgBox w ⟨3,row,col,count,til,g⟩ A cap) (ChgBox.new w ⟨3,row,col,count,til,g⟩ A cap _) ?_
   rintro X ⟨c0,c1,c2,c3,c4,c5,hb,hzX⟩
   dsimp only at c0 c1 c2 c3 c4 c5
   go_wp2_with (go_at_call 92;refine (jq _ _ _ _).mono ?_;rintro e wy ⟨rfl,rfl⟩)
   go_ret
   exact ⟨by rw [HE.out];rfl,hb⟩
  | true =>
   cases h2:inB count 0 132 with
   | false=>as_aux_lemma =>
    have HE:Hid (R=2):=Lh (by rw [HR.out];simp [jL,h0,h1,h2])
    clear HR
    skip
    go_enter func56,ntmps56
    go_upto_region 1 with fail
    refine qa (ChgBox w ⟨3,row,col,count,til,g⟩ A cap) (ChgBox.new w ⟨3,row,col,count,til,g⟩ A cap _) ?_
    rintro X ⟨c0,c1,c2,c3,c4,c5,hb,hzX⟩
    dsimp only at c0 c1 c2 c3 c4 c5
    go_wp2_with (go_at_call 92;refine (jq _ _ _ _).mono ?_;rintro e wy ⟨rfl,rfl⟩)
    go_ret
    exact ⟨by rw [HE.out];rfl,hb⟩
   | true =>
    by_cases h3:132<g.length
    ·as_aux_lemma =>
     have k3:(132:Int)<g.length:=by omega
     have HE:Hid (R=5):=Lh (by rw [HR.out];simp [jL,h0,h1,h2,h3])
     clear HR
     clear h3
     go_enter func56,ntmps56
     go_upto_region 1 with fail
     refine qa (ChgBox w ⟨3,row,col,count,til,g⟩ A cap) (ChgBox.new w ⟨3,row,col,count,til,g⟩ A cap _) ?_
     rintro X ⟨c0,c1,c2,c3,c4,c5,hb,hzX⟩
     dsimp only at c0 c1 c2 c3 c4 c5
     go_wp2_with (go_at_call 92;refine (jq _ _ _ _).mono ?_;rintro e wy ⟨rfl,rfl⟩)
     go_ret
     exact ⟨by rw [HE.out];rfl,hb⟩
    ·have k3 : ¬ (132:Int)<g.length:=by omega
     by_cases h4:til=0
     ·as_aux_lemma =>
      have HRd:=Lh rd
      have HRe:Hid (R=if vA (g.drop 0)=true then 1 else 0):=Lh (by rw [HR.out];simp only [h0,h1,h2,h3,h4,jL,List.drop_zero];cases vA g <;> rfl)
      have HG:Hid (∀ x∈g,∀ w',Calls prog 60 #[glV x] w' (qh (.int .i64 (qJ x)) w')):=Lh fun x hx w'=>rglyph x (hz x hx) w'
      clear rd hz HR
      have k4:(til != 0)=false:=by simp [h4]
      clear h4
      go_enter func56,ntmps56
      go_upto_region 1 with fail
      refine qa (ChgBox w ⟨3,row,col,count,til,g⟩ A cap) (ChgBox.new w ⟨3,row,col,count,til,g⟩ A cap _) ?_
      rintro X ⟨c0,c1,c2,c3,c4,c5,hb,hzX⟩
      dsimp only at c0 c1 c2 c3 c4 c5
      go_wp2_with (go_at_call 92;refine (jq _ _ _ _).mono ?_;rintro e wy ⟨rfl,rfl⟩)
      go_loopw [4] (fun x wr=>∃ k:Nat,k<=g.length/\x = .int .i64 k/\ChgBox w ⟨3,row,col,count,til,g⟩ A cap wr/\Hid (R=if vA (g.drop k)=true then 1 else 0)) (fun x _=>g.length-(intOf x).toNat)
      case atStart=>exact ⟨0,Nat.zero_le _,rfl,⟨c0,c1,c2,c3,c4,c5,hb,hzX⟩,HRe⟩
      case round =>
       clear c0 c1 c2 c3 c4 c5 hb hzX
       obtain ⟨k,hk,rfl,⟨c0,c1,c2,c3,c4,c5,hb,hzX⟩,HK⟩:=hrel
       dsimp only at c0 c1 c2 c3 c4 c5
       by_cases hlt:k<g.length
       ·obtain ⟨b,o,rfl,hbB,g0,g1,g2⟩:=jE (HRd.out.below (hb.mono hB)) hlt rfl
        have HD:Hid (vA (g.drop k)=(!qal g[k] || vA (g.drop (k+1)))):=Lh (by rw [List.drop_eq_getElem_cons hlt];rfl)
        have HGk:=Lh (HG.out g[k] (List.getElem_mem hlt))
        have hvl:qal g[k]=decide (qJ g[k]=0):=rfl
        generalize g[k]=y at *
        obtain ⟨t,wd,st⟩:=y
        dsimp only at *
        generalize qJ ⟨t,wd,st⟩=K at *
        by_cases hK:K=0
        ·have HR2:Hid (R=if vA (g.drop (k+1))=true then 1 else 0):=Lh (by rw [HK.out,HD.out,hvl,hK];rfl)
         have hKb:(K != 0)=false:=by simp [hK]
         clear HK HD hvl hK HG HRd
         go_wp2_with (go_at_call 60;refine (HGk.out _).mono ?_;rintro e w1 ⟨rfl,hb1⟩)
         exact ⟨⟨k+1,by omega,by go_num,ChgBox.on ⟨c0,c1,c2,c3,c4,c5,hb,hzX⟩ hb1,HR2⟩,by simp [intOf];omega⟩
        ·have HR2:Hid (R=1):=Lh (by rw [HK.out,HD.out,hvl,decide_eq_false hK];rfl)
         have hKb:(K != 0)=true:=bne_iff_ne.2 hK
         clear HK HD hvl hK HG HRd
         go_wp2_with (go_at_call 60;refine (HGk.out _).mono ?_;rintro e w1 ⟨rfl,hb1⟩)
         go_ret
         exact ⟨by rw [HR2.out];rfl,hb.trans (hb1.mono (by omega))⟩
       ·have HR2:Hid (R=0):=Lh (by rw [HK.out,List.drop_of_length_le (by omega)];rfl)
        go_wp2
        go_ret
        exact ⟨by rw [HR2.out];rfl,hb⟩
     ·as_aux_lemma =>
      have k4:(til != 0)=true:=bne_iff_ne.2 h4
      have HE:Hid (R=1):=Lh (by rw [HR.out];simp [jL,h0,h1,h2,h3,h4])
      clear HR
      clear h3 h4
      go_enter func56,ntmps56
      go_upto_region 1 with fail
      refine qa (ChgBox w ⟨3,row,col,count,til,g⟩ A cap) (ChgBox.new w ⟨3,row,col,count,til,g⟩ A cap _) ?_
      rintro X ⟨c0,c1,c2,c3,c4,c5,hb,hzX⟩
      dsimp only at c0 c1 c2 c3 c4 c5
      go_wp2_with (go_at_call 92;refine (jq _ _ _ _).mono ?_;rintro e wy ⟨rfl,rfl⟩)
      go_ret
      exact ⟨by rw [HE.out];rfl,hb⟩
theorem qhC (c:Chg) (A:Option Addr) (cap:Nat) (w:World) (h1:c.kind≠1) (h2:c.kind≠2) (h3:c.kind≠3) (h4:c.kind≠4):Calls prog 56 #[jH c A cap] w (qh (.int .i64 (vj c)) w):=by
 have e:vj c=9:=if_pos (by omega)
 rw [e]
 obtain ⟨kind,row,col,count,til,g⟩:=c
 have b1:(kind==1)=false:=beq_eq_false_iff_ne.2 h1
 have b2:(kind==2)=false:=beq_eq_false_iff_ne.2 h2
 have b3:(kind==3)=false:=beq_eq_false_iff_ne.2 h3
 have b4:(kind==4)=false:=beq_eq_false_iff_ne.2 h4
 clear e h1 h2 h3 h4
 go_enter func56,ntmps56
 go_upto_region 1 with fail
 refine qa (ChgBox w ⟨kind,row,col,count,til,g⟩ A cap) (ChgBox.new w ⟨kind,row,col,count,til,g⟩ A cap _) ?_
 rintro X ⟨c0,c1,c2,c3,c4,c5,hb,hzX⟩
 dsimp only at c0 c1 c2 c3 c4 c5
 go_wp2_with (go_at_call 92;refine (jq _ _ _ _).mono ?_;rintro e wy ⟨rfl,rfl⟩)
 go_ret
 exact ⟨rfl,hb⟩
theorem vchk_ (c:Chg) (A:Option Addr) (cap B:Nat) (w:World) (hn:c.glyphs.length<=1000000000) (rd:Rd w B 3 A c.glyphs.length (qi c.glyphs)) (hB:B<=w.heap.size) (hz : ∀ x∈c.glyphs,x.text.size<=1000000000) :
  Calls prog 56 #[jH c A cap] w (qh (.int .i64 (vj c)) w):=by
 by_cases h1:c.kind=1
 ·obtain ⟨kind,row,col,count,til,g⟩:=c
  obtain rfl:kind=1:=h1
  exact qhT row col count til g A cap w
 ·by_cases h2:c.kind=2
  ·obtain ⟨kind,row,col,count,til,g⟩:=c
   obtain rfl:kind=2:=h2
   exact qhF row col count til g A cap w
  ·by_cases h3:c.kind=3
   ·obtain ⟨kind,row,col,count,til,g⟩:=c
    obtain rfl:kind=3:=h3
    exact qfh row col count til g A cap w B hn rd hB hz
   ·by_cases h4:c.kind=4
    ·obtain ⟨kind,row,col,count,til,g⟩:=c
     obtain rfl:kind=4:=h4
     exact qgO row col count til g A cap w
    ·exact qhC c A cap w h1 h2 h3 h4
theorem vCheck_ (l:List ChgM) (A:Option Addr) (n c B:Nat) (w:World) (hn:n<=1000000000) (rd:RdC w B A n l) (hB:B<=w.heap.size) (hs:SmC l) :
  Calls prog 33 #[.slice A n c] w (qh (.int .i64 (vX l)) w):=by
 have HN:=Lh rd.len
 have HRd:=Lh rd
 have HF:Hid (vX l=vX (l.drop 0)):=Lh rfl
 have HC:Hid (∀ x∈l,∀ w',Below w.heap.size w w'->Calls prog 56 #[jH x.c x.A x.cap] w' (qh (.int .i64 (vj x.c)) w')):=Lh fun x hx w' hw =>
  vchk_ x.c x.A x.cap B w' (hs x hx).1 ((rd.gl x hx).1.below (hw.mono hB)) (Nat.le_trans hB hw.size) (hs x hx).2
 generalize vX l=R at *
 clear rd hs
 go_enter func33,ntmps33
 go_wp2
 go_loopw [3] (fun x wr=>∃ k:Nat,k<=n/\x = .int .i64 k/\Below w.heap.size w wr/\Hid (R=vX (l.drop k))) (fun x _=>n-(intOf x).toNat)
 case atStart=>exact ⟨0,Nat.zero_le _,rfl,Below.refl _ _,HF⟩
 case round =>
  obtain ⟨k,hk,rfl,hbel,HK⟩:=hrel
  by_cases hlt:k<n
  ·have hkl:k<l.length:=by have:=HN.out;omega
   obtain ⟨b,o,rfl,hbB,c0,c1,c2,c3,c4,c5⟩:=(HRd.out.below (hbel.mono hB)).at_ hkl
   have HD:Hid (vX (l.drop k)=if vj l[k].c=0 then vX (l.drop (k+1)) else vj l[k].c):=Lh (by rw [List.drop_eq_getElem_cons hkl];rfl)
   have HCk:=Lh (HC.out l[k] (List.getElem_mem hkl) _ hbel)
   generalize l[k]=x at *
   obtain ⟨⟨kind,row,col,count,til,g⟩,Ag,cg⟩:=x
   dsimp only at *
   generalize vj ⟨kind,row,col,count,til,g⟩=K at *
   by_cases hK:K=0
   ·have HR2:Hid (R=vX (l.drop (k+1))):=Lh (by rw [HK.out,HD.out,if_pos hK])
    have hKb:(K != 0)=false:=by simp [hK]
    clear HK HD hK HC HRd
    go_wp2_with (go_at_call 56;refine HCk.out.mono ?_;rintro e w1 ⟨rfl,hb1⟩)
    exact ⟨⟨k+1,by omega,by go_num,hbel.trans (hb1.mono hbel.size),HR2⟩,by simp [intOf];omega⟩
   ·have HR2:Hid (R=K):=Lh (by rw [HK.out,HD.out,if_neg hK])
    have hKb:(K != 0)=true:=bne_iff_ne.2 hK
    clear HK HD hK HC HRd
    go_wp2_with (go_at_call 56;refine HCk.out.mono ?_;rintro e w1 ⟨rfl,hb1⟩)
    go_ret
    exact ⟨by rw [HR2.out];rfl,hbel.trans (hb1.mono hbel.size)⟩
  ·have HR2:Hid (R=0):=Lh (by rw [HK.out,List.drop_of_length_le (by have:=HN.out;omega)];rfl)
   go_wp2
   go_ret
   exact ⟨by rw [HR2.out];rfl,hbel⟩
def VwR (l:List ChgM) (m r q k:Int) (S:Setts) (w:World) (e:Ending) (w':World):Prop :=
 if qaE l m r q k=0 then ql 9 1 yP w (qZ (zo l) m S).length (sv (qZ (zo l) m S)) e w' else (∃ A,e = .returned (.tuple #[.slice A 0 0,.int .i64 (qaE l m r q k)]))/\Below w.heap.size w w'
theorem VwR.err {l:List ChgM} {m r q k x:Int} {S:Setts} {w w':World} {e:Ending} (h:qaE l m r q k=x) (hx:x≠0) (he:(∃ A,e = .returned (.tuple #[.slice A 0 0,.int .i64 x]))/\Below w.heap.size w w'):VwR l m r q k S w e w':=by
 unfold VwR
 rw [if_neg (by rw [h];exact hx),h]
 exact he
theorem VwR.ok {l:List ChgM} {m r q k:Int} {S:Setts} {w w':World} {e:Ending} (h:qaE l m r q k=0) (he:ql 9 1 yP w (qZ (zo l) m S).length (sv (qZ (zo l) m S)) e w'):VwR l m r q k S w e w':=by
 unfold VwR
 rw [if_pos h]
 exact he
theorem qik (l:List ChgM) (A:Option Addr) (n c:Nat) (m:Int) (r:Int) (d sp:Bool) (p:Int) (con:Bool) (k:Int) (w:World) (hn:n<=1000) (rd:RdC w w.heap.size A n l) (hsm:SmC l) (ht:Tb w) :
  Calls prog 16 #[.slice A n c,.int .i64 m,stV r d sp p con k] w (VwR l m r p k ⟨d,sp,p⟩ w):=by
 have HCk:Hid (∀ w',Below w.heap.size w w'->Calls prog 33 #[.slice A n c] w' (qh (.int .i64 (vX l)) w')):=Lh fun w' h=>vCheck_ l A n c w.heap.size w' (by omega) (rd.below h) h.size hsm
 have HSt:=Lh (rcheck_s r d sp p con k)
 by_cases h1:setE r p k=0
 ·have hp0:0<=p:=by
   by_cases hb:qdH r p k
   ·rw [qfQ hb] at h1;cases h1
   ·unfold qdH at hb;omega
  by_cases h2:m<0
  ·refine (?_:Calls _ _ _ w (fun e w'=>(∃ A,e = .returned (.tuple #[.slice A 0 0,.int .i64 1]))/\Below w.heap.size w w')).mono fun e w' h=>VwR.err (if_pos (.inr h2)) (by decide) h
   rw [h1] at HSt
   generalize vX l=E2 at *
   clear h1 rd hsm ht
   go_enter func16,ntmps16
   go_upto_region 1 with fail
   refine qa (fun X=>StBox X r d sp p con k w.heap.size/\Below w.heap.size w X/\w.heap.size+1<=X.heap.size) ⟨StBox.new w r d sp p con k _,(Below.refl _ _).alloc (Nat.le_refl _) _,by simp⟩ ?_
   rintro X ⟨hst,hb0,hz0⟩
   have hst':=hst
   obtain ⟨s0,s1,s2,s3,s4,s5⟩:=hst
   go_wp2_with (first | (go_at_call 32;refine (HSt.out _).mono ?_;rintro e w1 ⟨rfl,hb1⟩;have hs1:=hb1.size) | (go_at_call 33;refine (HCk.out _ (hb0.trans (hb1.mono hb0.size))).mono ?_;rintro e w2 ⟨rfl,hb2⟩;have hs2:=hb2.size))
   go_ret2
   exact ⟨⟨_,rfl⟩,(hb0.trans (hb1.mono hb0.size)).alloc (by first | (simp;done) | (simp;omega) | omega) _⟩
  ·have hw0:qaE l m r p k=if 999999999<m then 5 else vX l:=if_neg (by rw [h1];simp;omega)
   rw [h1] at HSt
   clear h1
   by_cases h3:999999999<m
   ·rw [if_pos h3] at hw0
    refine (?_:Calls _ _ _ w (fun e w'=>(∃ A,e = .returned (.tuple #[.slice A 0 0,.int .i64 5]))/\Below w.heap.size w w')).mono fun e w' h=>VwR.err hw0 (by decide) h
    clear hw0
    generalize vX l=E2 at *
    clear rd hsm ht
    go_enter func16,ntmps16
    go_upto_region 1 with fail
    refine qa (fun X=>StBox X r d sp p con k w.heap.size/\Below w.heap.size w X/\w.heap.size+1<=X.heap.size) ⟨StBox.new w r d sp p con k _,(Below.refl _ _).alloc (Nat.le_refl _) _,by simp⟩ ?_
    rintro X ⟨hst,hb0,hz0⟩
    have hst':=hst
    obtain ⟨s0,s1,s2,s3,s4,s5⟩:=hst
    go_wp2_with (first | (go_at_call 32;refine (HSt.out _).mono ?_;rintro e w1 ⟨rfl,hb1⟩;have hs1:=hb1.size) | (go_at_call 33;refine (HCk.out _ (hb0.trans (hb1.mono hb0.size))).mono ?_;rintro e w2 ⟨rfl,hb2⟩;have hs2:=hb2.size))
    go_ret2
    exact ⟨⟨_,rfl⟩,(hb0.trans (hb1.mono hb0.size)).alloc (by first | (simp;done) | (simp;omega) | omega) _⟩
   ·rw [if_neg h3] at hw0
    by_cases h4:vX l=0
    ·rw [h4] at hw0 HCk
     refine (?_:Calls _ _ _ w (ql 9 1 yP w (qZ (zo l) m ⟨d,sp,p⟩).length (sv (qZ (zo l) m ⟨d,sp,p⟩)))).mono fun e w' h=>VwR.ok hw0 h
     have HPh:Hid (∀ x∈l,∀ w',Below w.heap.size w w'->Calls prog 34 #[jH x.c x.A x.cap,stV r d sp p con k] w' (ql 9 1 id w' (qn x.c ⟨d,sp,p⟩).length (sv (qn x.c ⟨d,sp,p⟩)))):=Lh fun x hx w' hw =>
      vphrase_ x (qac.1 h4 x.c (List.mem_map_of_mem hx)) r d sp p con k w' w.heap.size hw.size ((rd.gl x hx).1.below hw) (rd.gl x hx).2.1 (rd.gl x hx).2.2 hp0 (ht.below hw)
     have HLe:Hid (∀ x∈l,(qn x.c ⟨d,sp,p⟩).length<=50000200):=Lh fun x hx=>qji (qac.1 h4 x.c (List.mem_map_of_mem hx)) _
     have HN:=Lh rd.len
     have HRd:=Lh rd
     have HTb:=Lh ht
     have HFl:Hid (∀ j (h:j<l.length),((zo (l.drop j)).flatMap fun c=>qn c ⟨d,sp,p⟩)=qn l[j].c ⟨d,sp,p⟩++(zo (l.drop (j+1))).flatMap fun c=>qn c ⟨d,sp,p⟩):=Lh fun j h=>qiH h _
     have HEn:Hid (∀ j,l.length<=j->((zo (l.drop j)).flatMap fun c=>qn c ⟨d,sp,p⟩)=[]):=Lh fun j h=>by rw [List.drop_of_length_le h];rfl
     have H0:Hid (qZ (zo l) m ⟨d,sp,p⟩=[]++(((zo (l.drop 0)).flatMap fun c=>qn c ⟨d,sp,p⟩)++qbQ m)):=Lh rfl
     generalize qZ (zo l) m ⟨d,sp,p⟩=R at *
     generalize hF:(fun j=>(zo (l.drop j)).flatMap fun c=>qn c ⟨d,sp,p⟩)=F
     replace HFl:Hid (∀ j (h:j<l.length),F j=qn l[j].c ⟨d,sp,p⟩++F (j+1)):=Lh (by rw [<- hF];exact HFl.out)
     replace HEn:Hid (∀ j,l.length<=j->F j=[]):=Lh (by rw [<- hF];exact HEn.out)
     replace H0:Hid (R=[]++(F 0++qbQ m)):=Lh (by rw [<- hF];exact H0.out)
     clear hF hw0 h4 rd hsm ht hp0
     go_enter func16,ntmps16
     go_upto_region 1 with fail
     refine qa (fun X=>StBox X r d sp p con k w.heap.size/\Below w.heap.size w X/\w.heap.size+1<=X.heap.size) ⟨StBox.new w r d sp p con k _,(Below.refl _ _).alloc (Nat.le_refl _) _,by simp⟩ ?_
     rintro X ⟨hst,hb0,hz0⟩
     have hst':=hst
     obtain ⟨s0,s1,s2,s3,s4,s5⟩:=hst
     go_wp2_with (first | (go_at_call 32;refine (HSt.out _).mono ?_;rintro e w1 ⟨rfl,hb1⟩;have hs1:=hb1.size) | (go_at_call 33;refine (HCk.out _ (hb0.trans (hb1.mono hb0.size))).mono ?_;rintro e w2 ⟨rfl,hb2⟩;have hs2:=hb2.size))
     have hb3:Below w.heap.size w w2:=hb0.trans ((hb1.mono hb0.size).trans (hb2.mono (Nat.le_trans hb0.size hb1.size)))
     have hst2:=(hst'.below hb1 (by omega)).below hb2 (by have:=hb1.size;omega)
     have hz2:w.heap.size+1<=w2.heap.size:=by have:=hb1.size;have:=hb2.size;omega
     have hba:Below w2.heap.size w2 (w2.alloc (.cells #[] 9)):=(Below.refl _ _).alloc (Nat.le_refl _) _
     have hst3:=hst2.below hba (by omega)
     have hb4:=hb3.trans (hba.mono (by omega))
     have hz4:=Nat.le_trans hz2 hba.size
     clear hb0 hb1 hb2 hb3 hst2 hst' s0 s1 s2 s3 s4 s5 hz0 hba
     go_loopw [9,10] (fun x y wr=>∃ (j:Nat) (A2:Option Addr) (c2:Nat) (O:List ByteArray),j<=n/\y = .int .i64 j/\x = .slice A2 O.length c2/\wr.ownsRow (w.heap.size+1) 9 1 (.slice A2 O.length c2) O.length (sv O)/\O.length<=j * 50000200/\StBox wr r d sp p con k w.heap.size/\Below w.heap.size w wr/\w.heap.size+1<=wr.heap.size/\Hid (R=O++(F j++qbQ m))) (fun _ y _=>n-(intOf y).toNat)
     case atStart=>exact ⟨0,_,0,[],Nat.zero_le _,rfl,rfl,qx (xs:=[]) (n:=0) rfl rfl hz2 (by omega),by simp,hst3,hb4,hz4,H0⟩
     case round =>
      clear hb4 hst3 hz4 hz2 H0
      obtain ⟨j,A2,c2,O,hj,rfl,rfl,ho,hol,hst,hbl,hzr,HK⟩:=hrel
      have hol2:O.length<=50000200000:=by
       have:j * 50000200<=1000 * 50000200:=Nat.mul_le_mul_right _ (by omega)
       omega
      obtain ⟨s0,s1,s2,s3,s4,s5⟩:=id hst
      by_cases hlt:j<n
      ·as_aux_lemma =>
       have hjl:j<l.length:=by have:=HN.out;omega
       obtain ⟨b,o,rfl,hbB,g0,g1,g2,g3,g4,g5⟩:=(HRd.out.below hbl).at_ hjl
       have HD:=Lh (HFl.out j hjl)
       have HP:=Lh (HPh.out l[j] (List.getElem_mem hjl))
       have hpl:=HLe.out l[j] (List.getElem_mem hjl)
       generalize l[j]=x at *
       obtain ⟨⟨kind,row,col,count,til,g⟩,Ag,cg⟩:=x
       dsimp only at *
       obtain ⟨W,hW⟩ : ∃ x,Hid (x=qn ⟨kind,row,col,count,til,g⟩ ⟨d,sp,p⟩):=⟨_,Lh rfl⟩
       rw [<- hW.out] at HD HP hpl
       have HK2:Hid (R=(O++W)++(F (j+1)++qbQ m)):=Lh (by rw [HK.out,HD.out];simp only [List.append_assoc])
       have hol3:(O++W).length<=(j+1) * 50000200:=by rw [List.length_append,Nat.add_mul];omega
       have j1:(0:Int)<=j:=by omega
       have j2:(j:Int)<n:=by omega
       clear HK HD HPh HLe HFl HEn HCk HSt HRd hW HTb
       go_upto_region 12 with fail
       go_region_law (first
        | (go_simp;go_at_call 34;refine (HP.out _ hbl.drew).mono ?_;rintro e w4 ⟨A4,c4,rfl,ho4,hb4⟩;have hz4:=hb4.size;have hz5:wr.heap.size<=w4.heap.size:=hz4)
        | (refine jZ rfl _ _ _ rfl qp ((w.heap.size+1)) _ rfl ((qb (qb ho (Below.refl _ _).drew) hb4)) _ _ rfl ((Rd.of_own ho4)) (qA _) (by omega) (by omega) (by first | (simp;done) | (simp;omega) | omega) ?_;intro A5 c5 w5 hown5 hbel5 hgr5 hat5;have z5:=hbel5.size;(try simp only [Nat.zero_add,List.nil_append] at hown5)))
       all_goals go_wp2
       all_goals exact ⟨⟨j+1,A5,c5,O++W,by omega,by go_num,by rw [List.length_append],by rw [List.length_append,qcD];exact hown5,hol3,((hst.below (Below.refl wr.heap.size wr).drew (by omega)).below hb4 (by show w.heap.size<wr.heap.size;omega)).below hbel5 (by omega),(hbl.drew.trans (hb4.mono (Nat.le_trans hbl.size (Nat.le_refl _)))).trans (hbel5.mono (by omega)),by omega,HK2⟩,by simp [intOf];omega⟩
      ·have HK2:Hid (R=O++qbQ m):=Lh (by rw [HK.out,HEn.out j (by have:=HN.out;omega)];rfl)
       clear HK HPh HLe HFl HEn HCk HSt HRd
       by_cases h0:m=0
       ·as_aux_lemma =>
        subst h0
        have HK3:Hid (R=O++[kZ]):=Lh HK2.out
        clear HK2 HTb
        go_wp2_with (at_builtin;refine qg rfl _ _ _ rfl qp ((w.heap.size+1)) _ rfl (qb ho ((Below.refl _ _).alloc (Nat.le_refl _) _)) _ _ rfl ((qe (xs:=sv [kZ]) rfl rfl)) (by first | rfl | exact qA _ | exact qF _) (by omega) (by omega) (by first | (simp;done) | (simp;omega) | omega) ?_;intro A9 c9 w9 hown9 hbel9 hgr9 hat9;have z9:=hbel9.size;(try simp only [World.size_alloc] at z9);(try simp only [Nat.zero_add,List.nil_append] at hown9))
        go_ret2
        rw [HK3.out,List.length_append,qcD]
        exact ⟨A9,c9,rfl,qt hown9 (by omega),(hbl.alloc hbl.size _).trans (hbel9.mono (by omega))⟩
       ·by_cases h1':m=1
        ·as_aux_lemma =>
         subst h1'
         have HK3:Hid (R=O++[jN]):=Lh HK2.out
         clear HK2 HTb
         go_wp2_with (at_builtin;refine qg rfl _ _ _ rfl qp ((w.heap.size+1)) _ rfl (qb ho ((Below.refl _ _).alloc (Nat.le_refl _) _)) _ _ rfl ((qe (xs:=sv [jN]) rfl rfl)) (by first | rfl | exact qA _ | exact qF _) (by omega) (by omega) (by first | (simp;done) | (simp;omega) | omega) ?_;intro A9 c9 w9 hown9 hbel9 hgr9 hat9;have z9:=hbel9.size;(try simp only [World.size_alloc] at z9);(try simp only [Nat.zero_add,List.nil_append] at hown9))
         go_ret2
         rw [HK3.out,List.length_append,qcD]
         exact ⟨A9,c9,rfl,qt hown9 (by omega),(hbl.alloc hbl.size _).trans (hbel9.mono (by omega))⟩
        ·as_aux_lemma =>
         have HK3:Hid (R=(O++jN::qY m)++[jG]):=Lh (by rw [HK2.out,qbQ,if_neg h0,if_neg h1'];simp only [List.append_assoc];rfl)
         have hb0:(m==0)=false:=beq_eq_false_iff_ne.2 h0
         have hb1:(m==1)=false:=beq_eq_false_iff_ne.2 h1'
         have HSy:=Lh (rsay m (by omega) (by omega) jN O A2 O.length c2 (w.heap.size+1) wr (fun Y hY=>HTb.out.below (hbl.trans (hY.mono (by omega)))) ho rfl (by omega) hzr)
         have hml:=vO m
         have hln:(O++jN::qY m).length<=60000000000:=by rw [List.length_append,List.length_cons];omega
         generalize O++jN::qY m=OD at *
         clear HK2 h0 h1' hst hml HTb
         go_wp2_with (first
          | (go_at_call 35;refine HSy.out.mono ?_;rintro e w5 ⟨⟨A5,c5,rfl,ho5⟩,hb5⟩;have hz5:=hb5.size)
          | (at_builtin;refine qg rfl _ _ _ rfl qp ((w.heap.size+1)) _ rfl (qb ho5 ((Below.refl _ _).alloc (Nat.le_refl _) _)) _ _ rfl ((qe (xs:=sv [jG]) rfl rfl)) (by first | rfl | exact qA _ | exact qF _) (by omega) (by omega) (by first | (simp;done) | (simp;omega) | omega) ?_;intro A9 c9 w9 hown9 hbel9 hgr9 hat9;have z9:=hbel9.size;(try simp only [World.size_alloc] at z9);(try simp only [Nat.zero_add,List.nil_append] at hown9)))
         go_ret2
         rw [HK3.out,List.length_append,qcD]
         exact ⟨A9,c9,rfl,qt hown9 (by omega),((hbl.trans (hb5.mono (by omega))).alloc (by omega) _).trans (hbel9.mono (by omega))⟩
    ·refine (?_:Calls _ _ _ w (fun e w'=>(∃ A,e = .returned (.tuple #[.slice A 0 0,.int .i64 (vX l)]))/\Below w.heap.size w w')).mono fun e w' h=>VwR.err hw0 h4 h
     clear hw0
     generalize vX l=E2 at *
     have h4b:(E2 != 0)=true:=bne_iff_ne.2 h4
     clear rd hsm ht h4
     go_enter func16,ntmps16
     go_upto_region 1 with fail
     refine qa (fun X=>StBox X r d sp p con k w.heap.size/\Below w.heap.size w X/\w.heap.size+1<=X.heap.size) ⟨StBox.new w r d sp p con k _,(Below.refl _ _).alloc (Nat.le_refl _) _,by simp⟩ ?_
     rintro X ⟨hst,hb0,hz0⟩
     have hst':=hst
     obtain ⟨s0,s1,s2,s3,s4,s5⟩:=hst
     go_wp2_with (first | (go_at_call 32;refine (HSt.out _).mono ?_;rintro e w1 ⟨rfl,hb1⟩;have hs1:=hb1.size) | (go_at_call 33;refine (HCk.out _ (hb0.trans (hb1.mono hb0.size))).mono ?_;rintro e w2 ⟨rfl,hb2⟩;have hs2:=hb2.size))
     go_ret2
     exact ⟨⟨_,rfl⟩,((hb0.trans (hb1.mono hb0.size)).trans (hb2.mono (by first | (simp;done) | (simp;omega) | omega))).alloc (by first | (simp;done) | (simp;omega) | omega) _⟩
 ·refine (?_:Calls _ _ _ w (fun e w'=>(∃ A,e = .returned (.tuple #[.slice A 0 0,.int .i64 1]))/\Below w.heap.size w w')).mono fun e w' h=>VwR.err (if_pos (.inl h1)) (by decide) h
  generalize vX l=E2 at *
  generalize setE r p k=E1 at *
  have h1b:(E1 != 0)=true:=bne_iff_ne.2 h1
  clear h1 rd hsm ht
  go_enter func16,ntmps16
  go_upto_region 1 with fail
  refine qa (fun X=>StBox X r d sp p con k w.heap.size/\Below w.heap.size w X/\w.heap.size+1<=X.heap.size) ⟨StBox.new w r d sp p con k _,(Below.refl _ _).alloc (Nat.le_refl _) _,by simp⟩ ?_
  rintro X ⟨hst,hb0,hz0⟩
  have hst':=hst
  obtain ⟨s0,s1,s2,s3,s4,s5⟩:=hst
  go_wp2_with (first | (go_at_call 32;refine (HSt.out _).mono ?_;rintro e w1 ⟨rfl,hb1⟩;have hs1:=hb1.size) | (go_at_call 33;refine (HCk.out _ (hb0.trans (hb1.mono hb0.size))).mono ?_;rintro e w2 ⟨rfl,hb2⟩;have hs2:=hb2.size))
  go_ret2
  exact ⟨⟨_,rfl⟩,(hb0.trans (hb1.mono hb0.size)).alloc (by first | (simp;done) | (simp;omega) | omega) _⟩
theorem qga {l:List ChgM} (h:qci l=false):l.length<=30/\SmC l:=by
 unfold qci at h
 rw [Bool.or_eq_false_iff] at h
 refine ⟨by have:=of_decide_eq_false h.1;omega,fun x hx=>?_⟩
 have h2:=List.any_eq_false.1 h.2 x hx
 simp only [zA,Bool.or_eq_true,decide_eq_true_eq,List.any_eq_true,not_or,not_exists,not_and] at h2
 exact ⟨by omega,fun g hg=>by have:=h2.2 g hg;omega⟩
def WoE (E:Int) (w X:World) (e:Ending) (X':World):Prop:=(∃ A2 n2 c2,e = .returned (.tuple #[.slice A2 n2 c2,.int .i64 E]))/\Below w.heap.size w X'/\Below X.heap.size X X'
def WoT (W:List ByteArray) (w X:World) (e:Ending) (X':World):Prop:=(∃ A2 c2,e = .returned (.tuple #[.slice A2 W.length c2,.int .i64 0])/\X'.ownsRow X.heap.size 9 1 (.slice A2 W.length c2) W.length (sv W))/\Below w.heap.size w X'/\Below X.heap.size X X'
theorem VwR.any {l:List ChgM} {m r q k:Int} {S:Setts} {w X X':World} {e:Ending} (h:VwR l m r q k S X e X') (hX:Below w.heap.size w X):WoE (qaE l m r q k) w X e X':=by
 unfold VwR at h
 split at h
 ·next h0 =>
  obtain ⟨A2,c2,he,ho,hb⟩:=h
  exact ⟨⟨A2,_,c2,by rw [he,h0]⟩,hX.trans (hb.mono hX.size),hb⟩
 ·obtain ⟨⟨A2,he⟩,hb⟩:=h
  exact ⟨⟨A2,0,0,he⟩,hX.trans (hb.mono hX.size),hb⟩
theorem VwR.good {l:List ChgM} {m r q k:Int} {S:Setts} {w X X':World} {e:Ending} (h:VwR l m r q k S X e X') (h0:qaE l m r q k=0) (hX:Below w.heap.size w X):WoT (qZ (zo l) m S) w X e X':=by
 unfold VwR at h
 rw [if_pos h0] at h
 obtain ⟨A2,c2,he,ho,hb⟩:=h
 exact ⟨⟨A2,c2,he,ho⟩,hX.trans (hb.mono hX.size),hb⟩
structure Bx3 (w:World) (m:Md) (A:Option Addr) (n c:Nat) (r:Int) (d sp:Bool) (q:Int) (co:Bool) (k:Int) (r':Int) (d' sp':Bool) (q':Int) (co':Bool) (k':Int) (X:World):Prop where
 m:Blk X w.heap.size 26 (mdC m A n c)
 s:Blk X (w.heap.size+1) 39 #[.int .i64 r,.bool d,.bool sp,.int .i64 q,.bool co,.int .i64 k]
 t:Blk X (w.heap.size+1+1) 39 #[.int .i64 r',.bool d',.bool sp',.int .i64 q',.bool co',.int .i64 k']
 bel:Below w.heap.size w X
section
variable {w X X' : World} {m : Md} {A : Option Addr} {n c : Nat} {r q k r' q' k' : Int} {d sp co d' sp' co' : Bool}
theorem Bx3.new (w:World) (m:Md) (A:Option Addr) (n c:Nat) (r q k r' q' k':Int) (d sp co d' sp' co':Bool):Bx3 w m A n c r d sp q co k r' d' sp' q' co' k' (((w.alloc (.cells (mdC m A n c) 26)).alloc (.cells #[.int .i64 r,.bool d,.bool sp,.int .i64 q,.bool co,.int .i64 k] 39)).alloc (.cells #[.int .i64 r',.bool d',.bool sp',.int .i64 q',.bool co',.int .i64 k'] 39)) :=
 ⟨((Blk.new_ rfl).alloc _).alloc _,(Blk.new_ (by simp)).alloc _,Blk.new_ (by simp),(((Below.refl _ _).alloc (Nat.le_refl _) _).alloc (by simp) _).alloc (by simp;omega) _⟩
theorem Bx3.on (h:Bx3 w m A n c r d sp q co k r' d' sp' q' co' k' X) (hb:Below X.heap.size X X'):Bx3 w m A n c r d sp q co k r' d' sp' q' co' k' X' :=
 ⟨h.m.below hb h.m.lt,h.s.below hb h.s.lt,h.t.below hb h.t.lt,h.bel.trans (hb.mono h.bel.size)⟩
theorem Bx3.setts (h:Bx3 w m A n c r d sp q co k r' d' sp' q' co' k' X):StBox X r d sp q co k (w.heap.size+1)/\StBox X r' d' sp' q' co' k' (w.heap.size+1+1) :=
 ⟨⟨h.s.cell 0,h.s.cell 1,h.s.cell 2,h.s.cell 3,h.s.cell 4,h.s.cell 5⟩,⟨h.t.cell 0,h.t.cell 1,h.t.cell 2,h.t.cell 3,h.t.cell 4,h.t.cell 5⟩⟩
end
theorem law_ListenerSettings (w:World) (hg:Gd w/\Tb w) (m:Md) (A:Option Addr) (n c:Nat) (rs:List RowM) (rd:RdV w w.heap.size m.view A n c rs) (Ac:Option Addr) (nc cc:Nat) (l:List ChgM) (hn:l.length=nc) (hc:nc<=cc) (hm:cc<=maxLen) (rc:RdC w w.heap.size Ac nc l) (a:Int) (wa:(Lit.int .u16 a).wf=true)
  (r1:Int) (d1 sp1:Bool) (q1:Int) (co1:Bool) (k1:Int) (_:(Lit.int .i64 r1).wf=true) (_:(Lit.int .i64 q1).wf=true) (_:(Lit.int .i64 k1).wf=true) (r2:Int) (d2 sp2:Bool) (q2:Int) (co2:Bool) (k2:Int) (_:(Lit.int .i64 r2).wf=true) (_:(Lit.int .i64 q2).wf=true) (_:(Lit.int .i64 k2).wf=true) :
  Calls prog 5 #[.agg (mdC m A n c),.slice Ac nc cc,.int .u16 a,stV r1 d1 sp1 q1 co1 k1,stV r2 d2 sp2 q2 co2 k2] w (qh (.bool true) w):=by
 obtain ⟨hg,ht⟩:=hg
 obtain ⟨ha0,ha1⟩:=wf_u16 wa
 have ea:wrap64 a=a:=by unfold wrap64;omega
 clear wa
 have HA:Hid (∀ X,Below w.heap.size w X->Calls prog 10 #[] X fun e X'=>e = .returned (.bool true)/\Below w.heap.size w X'/\Below X.heap.size X X'):=Lh fun X hX=>bothG (awake42_ X (hg.below hX)) hX
 have HG:Hid (∀ X,Below w.heap.size w X->Calls prog 8 #[.agg (vwC m.view A n c)] X fun e X'=>e = .returned (.bool (qaC m.view))/\Below w.heap.size w X'/\Below X.heap.size X X'):=Lh fun X hX=>bothG (qek m.view A n c w.heap.size rs X (rd.below hX) hX.size) hX
 have HC9:Hid (∀ X,Below w.heap.size w X->Calls prog 14 #[.slice Ac nc cc] X fun e X'=>e = .returned (.bool (qci l))/\Below w.heap.size w X'/\Below X.heap.size X X'):=Lh fun X hX=>bothS (great19_ l Ac nc cc w.heap.size X (by omega) (rc.below hX)) hX
 cases hgr:qaC m.view with
 | true =>
  rw [hgr] at HG
  clear hg rd hgr ht HC9 rc
  obtain ⟨⟨W,H,rows,r,cl,vs⟩,U⟩:=m
  dsimp only at HG
  go_enter func5,ntmps5
  go_upto_region 1 with fail
  refine qa (Bx3 w ⟨⟨W,H,rows,r,cl,vs⟩,U⟩ A n c r1 d1 sp1 q1 co1 k1 r2 d2 sp2 q2 co2 k2) (Bx3.new w _ A n c _ _ _ _ _ _ _ _ _ _ _ _) ?_
  intro X hX
  obtain ⟨c_0,c_1,c_2,c_3,c_4,c_5,c_6,-,-,-,-,-,-,-⟩:=zd hX.m;dsimp only at c_0 c_1 c_3 c_4 c_5 c_6
  go_wp2_with (first | (go_at_call 8;refine (HG.out _ hX.bel).mono ?_;rintro e w1 ⟨rfl,hb1,hx1⟩;have hX1:=hX.on hx1;obtain ⟨⟨s0,s1,s2,s3,s4,s5⟩,t0,t1,t2,t3,t4,t5⟩:=hX1.setts) | (go_at_call 10;refine (HA.out _ (by assumption)).mono ?_;rintro e wa ⟨rfl,hba,hxa⟩))
  go_ret
  exact ⟨rfl,hba⟩
 | false =>
  rw [hgr] at HG
  have hsm : ∀ x∈rs,x.l.length<=140/\∀ g∈x.l,g.text.size<=40:=fun x hx=>qcF hgr x.l (by rw [rd.2.1];exact kB hx)
  cases hgc:qci l with
  | true =>
   rw [hgc] at HC9
   clear hg rd hgr ht rc hgc hsm
   obtain ⟨⟨W,H,rows,r,cl,vs⟩,U⟩:=m
   dsimp only at HG
   go_enter func5,ntmps5
   go_upto_region 1 with fail
   refine qa (Bx3 w ⟨⟨W,H,rows,r,cl,vs⟩,U⟩ A n c r1 d1 sp1 q1 co1 k1 r2 d2 sp2 q2 co2 k2) (Bx3.new w _ A n c _ _ _ _ _ _ _ _ _ _ _ _) ?_
   intro X hX
   obtain ⟨c_0,c_1,c_2,c_3,c_4,c_5,c_6,-,-,-,-,-,-,-⟩:=zd hX.m;dsimp only at c_0 c_1 c_3 c_4 c_5 c_6
   go_wp2_with (first | (go_at_call 8;refine (HG.out _ hX.bel).mono ?_;rintro e w1 ⟨rfl,hb1,hx1⟩;have hX1:=hX.on hx1;obtain ⟨⟨s0,s1,s2,s3,s4,s5⟩,t0,t1,t2,t3,t4,t5⟩:=hX1.setts) | (go_at_call 14;refine (HC9.out _ hX1.bel).mono ?_;rintro e w2 ⟨rfl,hb2,hx2⟩;have hX2:=hX1.on hx2;have hst2:=hX2.setts;obtain ⟨⟨f0,f1,f2,f3,f4,f5⟩,g0,g1,g2,g3,g4,g5⟩:=hst2) | (go_at_call 10;refine (HA.out _ (by assumption)).mono ?_;rintro e wa ⟨rfl,hba,hxa⟩))
   go_ret
   exact ⟨rfl,hba⟩
  | false =>
   rw [hgc] at HC9
   obtain ⟨hl30,hsc⟩:=qga hgc
   have HW1 : ∀ X,Below w.heap.size w X->Calls prog 16 #[.slice Ac nc cc,.int .i64 a,stV r1 d1 sp1 q1 co1 k1] X (VwR l a r1 q1 k1 ⟨d1,sp1,q1⟩ X):=fun X hX=>qik l Ac nc cc a r1 d1 sp1 q1 co1 k1 X (by omega) ((rc.below hX).more hX.size) hsc (ht.below hX)
   have HW2 : ∀ X,Below w.heap.size w X->Calls prog 16 #[.slice Ac nc cc,.int .i64 a,stV r2 d2 sp2 q2 co2 k2] X (VwR l a r2 q2 k2 ⟨d2,sp2,q2⟩ X):=fun X hX=>qik l Ac nc cc a r2 d2 sp2 q2 co2 k2 X (by omega) ((rc.below hX).more hX.size) hsc (ht.below hX)
   by_cases h12:qaE l a r1 q1 k1=0/\qaE l a r2 q2 k2=0
   ·obtain ⟨h1,h2⟩:=h12
    have hck : ∀ c∈zo l,vj c=0:=qac.1 (wErr_ok h1).2.2.2
    have hc30:(zo l).length<=30:=by rw [zo,List.length_map];exact hl30
    have hd1:=qby (zo l) a ⟨d1,sp1,q1⟩ ha0 (by omega) hck
    have hd2:=qby (zo l) a ⟨d2,sp2,q2⟩ ha0 (by omega) hck
    have hs1:=qch ⟨d1,sp1,q1⟩ ha0 (by omega) hc30 hck
    have hs2:=qch ⟨d2,sp2,q2⟩ ha0 (by omega) hc30 hck
    have HT1:Hid (∀ X,Below w.heap.size w X->Calls prog 16 #[.slice Ac nc cc,.int .i64 a,stV r1 d1 sp1 q1 co1 k1] X (WoT (qZ (zo l) a ⟨d1,sp1,q1⟩) w X)):=Lh fun X hX=>(HW1 X hX).mono fun e X' h=>h.good h1 hX
    have HT2:Hid (∀ X,Below w.heap.size w X->Calls prog 16 #[.slice Ac nc cc,.int .i64 a,stV r2 d2 sp2 q2 co2 k2] X (WoT (qZ (zo l) a ⟨d2,sp2,q2⟩) w X)):=Lh fun X hX=>(HW2 X hX).mono fun e X' h=>h.good h2 hX
    have heq:yT m (qZ (zo l) a ⟨d2,sp2,q2⟩)=yT m (qZ (zo l) a ⟨d1,sp1,q1⟩):=by
     unfold yT
     rw [hd1,hd2]
    obtain ⟨R,hR⟩ : ∃ R,R=yT m (qZ (zo l) a ⟨d1,sp1,q1⟩):=⟨_,rfl⟩
    rw [<- hR] at heq
    have HH : ∀ Wd:List ByteArray,yT m Wd=R->(Wd.length<=400000/\SzW Wd)->∀ X Aw cw,Below w.heap.size w X->Rd X X.heap.size 1 Aw Wd.length (sv Wd)->Wd.length<=cw->cw<=maxLen->Calls prog 11 #[.agg (mdC m A n c),.slice Aw Wd.length cw] X fun e X'=>(∃ A4 n4 d4,e = .returned (.tuple #[.agg (mdC R.1 A4 n4 d4),.int .i64 R.2])/\∃ rs4,RdV X' X'.heap.size R.1.view A4 n4 d4 rs4)/\Below w.heap.size w X'/\Below X.heap.size X X':=fun Wd he hs X Aw cw hX hr hc hm=>by
     have hg':=hg.below hX
     have:=hear_ m A n c X.heap.size rs Wd Aw Wd.length cw X ((rd.below hX).more hX.size) (Nat.le_refl _) (fun y hy=>by have:=(hsm y hy).1;omega) (fun y hy g hg=>by have:=(hsm y hy).2 g hg;omega) ⟨rfl,hc,hm,hr,hs.2⟩ hs.1 (few_of hs.1) hg'.1 hg'.2.1 hg'.2.2
     rw [he] at this
     exact this.mono fun e X' ⟨h1,A4,n4,d4,rs4,h2,h3⟩=>⟨⟨A4,n4,d4,h2,rs4,h3.rdV⟩,hX.trans (h1.mono hX.size),h1⟩
    have HU1:=Lh (HH _ hR.symm hs1)
    have HU2:=Lh (HH _ heq hs2)
    have hRp:vu R.1=true∨R.1=md0:=by
     rw [hR]
     by_cases h:(yT m (qZ (zo l) a ⟨d1,sp1,q1⟩)).2=0
     ·exact .inl (qcL h)
     ·exact .inr (by rw [hear_err _ _ h])
    have HSm:Hid (∀ X A1 n1 c1 A2 n2 c2,Below w.heap.size w X->(∃ rs1,RdV X X.heap.size R.1.view A1 n1 c1 rs1)->(∃ rs2,RdV X X.heap.size R.1.view A2 n2 c2 rs2)->Calls prog 13 #[.agg (mdC R.1 A1 n1 c1),.agg (mdC R.1 A2 n2 c2)] X fun e X'=>e = .returned (.bool true)/\Below w.heap.size w X'/\Below X.heap.size X X'):=Lh fun X A1 n1 c1 A2 n2 c2 hX ⟨rs1,h1⟩ ⟨rs2,h2⟩=>by
     obtain rfl:n1=n2:=h1.len.symm.trans h2.len
     refine bothG (rsame42_ R.1 A1 A2 n1 c1 c2 X.heap.size rs1 rs2 X h1 h2 (Nat.le_refl _) fun x hx=>?_) hX
     rcases hRp with hp | hp
     ·have:=(qfj hp h1 x hx).1;omega
     ·have h3:=kB hx
      rw [<- h1.2.1,hp] at h3
      cases h3
    clear HH HW1 HW2 hRp hd1 hd2 hs1 hs2 heq hR hg rd hgr ht rc hgc hsm hsc h1 h2 hck hc30
    generalize qZ (zo l) a ⟨d1,sp1,q1⟩=W1 at *
    generalize qZ (zo l) a ⟨d2,sp2,q2⟩=W2 at *
    obtain ⟨⟨W,H,rows,r,cl,vs⟩,U⟩:=m
    obtain ⟨⟨⟨zW,zH,zrows,zr,zy,zv⟩,zU⟩,zE⟩:=R
    dsimp only at HG
    have HR1:Hid (∀ X Aw cw,Below w.heap.size w X->Rd X X.heap.size 1 Aw W1.length (sv W1)->W1.length<=cw->cw<=maxLen->Calls prog 11 #[.agg #[.int .i64 W,.int .i64 H,.slice A n c,.int .i64 r,.int .i64 cl,.bool vs,.int .i64 U],.slice Aw W1.length cw] X fun e X'=>(∃ A4 n4 d4,e = .returned (.tuple #[.agg #[.int .i64 zW,.int .i64 zH,.slice A4 n4 d4,.int .i64 zr,.int .i64 zy,.bool zv,.int .i64 zU],.int .i64 zE])/\(∃ rs4,RdV X' X'.heap.size ⟨zW,zH,zrows,zr,zy,zv⟩ A4 n4 d4 rs4))/\Below w.heap.size w X'/\Below X.heap.size X X'):=HU1
    have HR2:Hid (∀ X Aw cw,Below w.heap.size w X->Rd X X.heap.size 1 Aw W2.length (sv W2)->W2.length<=cw->cw<=maxLen->Calls prog 11 #[.agg #[.int .i64 W,.int .i64 H,.slice A n c,.int .i64 r,.int .i64 cl,.bool vs,.int .i64 U],.slice Aw W2.length cw] X fun e X'=>(∃ A4 n4 d4,e = .returned (.tuple #[.agg #[.int .i64 zW,.int .i64 zH,.slice A4 n4 d4,.int .i64 zr,.int .i64 zy,.bool zv,.int .i64 zU],.int .i64 zE])/\(∃ rs4,RdV X' X'.heap.size ⟨zW,zH,zrows,zr,zy,zv⟩ A4 n4 d4 rs4))/\Below w.heap.size w X'/\Below X.heap.size X X'):=HU2
    have HRS:Hid (∀ X A1 n1 c1 A2 n2 c2,Below w.heap.size w X->(∃ rs4,RdV X X.heap.size ⟨zW,zH,zrows,zr,zy,zv⟩ A1 n1 c1 rs4)->(∃ rs4,RdV X X.heap.size ⟨zW,zH,zrows,zr,zy,zv⟩ A2 n2 c2 rs4)->Calls prog 13 #[.agg #[.int .i64 zW,.int .i64 zH,.slice A1 n1 c1,.int .i64 zr,.int .i64 zy,.bool zv,.int .i64 zU],.agg #[.int .i64 zW,.int .i64 zH,.slice A2 n2 c2,.int .i64 zr,.int .i64 zy,.bool zv,.int .i64 zU]] X fun e X'=>e = .returned (.bool true)/\Below w.heap.size w X'/\Below X.heap.size X X'):=HSm
    clear HU1 HU2 HSm
    have h00:((0:Int) != 0)=false:=rfl
    have hee:(zE==zE)=true:=beq_self_eq_true zE
    go_enter func5,ntmps5
    go_upto_region 1 with fail
    refine qa (Bx3 w ⟨⟨W,H,rows,r,cl,vs⟩,U⟩ A n c r1 d1 sp1 q1 co1 k1 r2 d2 sp2 q2 co2 k2) (Bx3.new w _ A n c _ _ _ _ _ _ _ _ _ _ _ _) ?_
    intro X hX
    obtain ⟨c_0,c_1,c_2,c_3,c_4,c_5,c_6,-,-,-,-,-,-,-⟩:=zd hX.m;dsimp only at c_0 c_1 c_3 c_4 c_5 c_6
    go_upto_region 7 with (first | (go_at_call 8;refine (HG.out _ hX.bel).mono ?_;rintro e w1 ⟨rfl,hb1,hx1⟩;have hX1:=hX.on hx1;obtain ⟨⟨s0,s1,s2,s3,s4,s5⟩,t0,t1,t2,t3,t4,t5⟩:=hX1.setts) | (go_at_call 14;refine (HC9.out _ hX1.bel).mono ?_;rintro e w2 ⟨rfl,hb2,hx2⟩;have hX2:=hX1.on hx2;have hst2:=hX2.setts;obtain ⟨⟨f0,f1,f2,f3,f4,f5⟩,g0,g1,g2,g3,g4,g5⟩:=hst2) | ((fail_if_success have:=w3);go_at_call 16;refine (HT1.out _ hX2.bel).mono ?_;rintro e w3 ⟨⟨A3,c3,rfl,o3⟩,hb3,hx3⟩;have hX3:=hX2.on hx3;have hst3:=hX3.setts;obtain ⟨⟨i0,i1,i2,i3,i4,i5⟩,j0,j1,j2,j3,j4,j5⟩:=hst3) | (go_at_call 16;refine (HT2.out _ hX3.bel).mono ?_;rintro e w4 ⟨⟨A4,c4,rfl,o4⟩,hb4,hx4⟩))
    have hM4:=(hX3.on hx4).m
    have hr3:Rd w4 w4.heap.size 1 A3 W1.length (sv W1):=Rd.of_own (qb o3 hx4)
    have hr4:Rd w4 w4.heap.size 1 A4 W2.length (sv W2):=Rd.of_own o4
    have hp3:=qas o3
    have hp4:=qas o4
    clear o3 o4 hX hX1 hX2 hX3 hb1 hb2 hb3 hx1 hx2 hx3 hx4 HT1 HT2 HG HC9 c_0 c_1 c_2 c_3 c_4 c_5 c_6 s0 s1 s2 s3 s4 s5 t0 t1 t2 t3 t4 t5 f0 f1 f2 f3 f4 f5 g0 g1 g2 g3 g4 g5 i0 i1 i2 i3 i4 i5 j0 j1 j2 j3 j4 j5
    obtain ⟨s_0,s_1,s_2,s_3,s_4,s_5,s_6,-,-,-,-,-,-,-⟩:=zd hM4;dsimp only at s_0 s_1 s_3 s_4 s_5 s_6
    go_upto_region 8 with (go_at_call 11;refine (HR1.out _ _ _ hb4 hr3 hp3.1 hp3.2).mono ?_;rintro e w5 ⟨⟨A5,n5,d5,rfl,hr5⟩,hb5,hx5⟩)
    have hz5:=hb5.size
    have hz45:=hx5.size
    refine qa (fun Y=>Blk Y w.heap.size 26 (mdC ⟨⟨W,H,rows,r,cl,vs⟩,U⟩ A n c)/\(Blk Y w5.heap.size 26 (mdC ⟨⟨zW,zH,zrows,zr,zy,zv⟩,zU⟩ A5 n5 d5)/\(∃ rs4,RdV Y Y.heap.size ⟨zW,zH,zrows,zr,zy,zv⟩ A5 n5 d5 rs4))/\Rd Y Y.heap.size 1 A4 W2.length (sv W2)/\Below w.heap.size w Y) ⟨(hM4.below hx5 hM4.lt).alloc _,⟨Blk.new_ rfl,hr5.imp fun _ h=>(h.below ((Below.refl _ _).alloc (Nat.le_refl _) _)).more (by rw [World.size_alloc];omega)⟩,Rd.more ((hr4.below hx5).below ((Below.refl w4.heap.size w5).alloc hz45 _)) (by rw [World.size_alloc];omega),hb5.alloc hz5 _⟩ ?_
    clear s_0 s_1 s_2 s_3 s_4 s_5 s_6 hM4 hr3 hr4 hr5 hb5 hx5 hz5 hb4 hp3 HR1 hz45
    rintro Y ⟨hM5,⟨hX5,hr5⟩,hr4,hbY⟩
    obtain ⟨s_0,s_1,s_2,s_3,s_4,s_5,s_6,-,-,-,-,-,-,-⟩:=zd hM5;dsimp only at s_0 s_1 s_3 s_4 s_5 s_6
    go_upto_region 9 with (go_at_call 11;refine (HR2.out _ _ _ hbY hr4 hp4.1 hp4.2).mono ?_;rintro e w6 ⟨⟨A6,n6,d6,rfl,hr6⟩,hb6,hx6⟩)
    have hz6:=hb6.size
    have hzy:=hx6.size
    refine qa (fun Z=>(Blk Z w5.heap.size 26 (mdC ⟨⟨zW,zH,zrows,zr,zy,zv⟩,zU⟩ A5 n5 d5)/\(∃ rs4,RdV Z Z.heap.size ⟨zW,zH,zrows,zr,zy,zv⟩ A5 n5 d5 rs4))/\(Blk Z w6.heap.size 26 (mdC ⟨⟨zW,zH,zrows,zr,zy,zv⟩,zU⟩ A6 n6 d6)/\(∃ rs4,RdV Z Z.heap.size ⟨zW,zH,zrows,zr,zy,zv⟩ A6 n6 d6 rs4))/\Below w.heap.size w Z) ⟨⟨(hX5.below hx6 hX5.lt).alloc _,hr5.imp fun _ h=>((h.below hx6).below (((Below.refl w6.heap.size w6).alloc (Nat.le_refl _) _).mono hzy)).more (by rw [World.size_alloc];omega)⟩,⟨Blk.new_ rfl,hr6.imp fun _ h=>(h.below ((Below.refl _ _).alloc (Nat.le_refl _) _)).more (by rw [World.size_alloc];omega)⟩,hb6.alloc hz6 _⟩ ?_
    clear s_0 s_1 s_2 s_3 s_4 s_5 s_6 hM5 hX5 hr5 hr4 hr6 hb6 hx6 hz6 hzy hbY HR2 hp4
    rintro Z ⟨⟨hXZ,hr5⟩,⟨hYZ,hr6⟩,hbZ⟩
    obtain ⟨x_0,x_1,x_2,x_3,x_4,x_5,x_6,-,-,-,-,-,-,-⟩:=zd hXZ;dsimp only at x_0 x_1 x_3 x_4 x_5 x_6
    obtain ⟨y_0,y_1,y_2,y_3,y_4,y_5,y_6,-,-,-,-,-,-,-⟩:=zd hYZ;dsimp only at y_0 y_1 y_3 y_4 y_5 y_6
    go_wp2_with (first
     | (go_at_call 13;refine (HRS.out _ _ _ _ _ _ _ hbZ hr5 hr6).mono ?_;rintro e w7 ⟨rfl,hb7,hx7⟩)
     | (go_at_call 10;refine (HA.out _ (by assumption)).mono ?_;rintro e wa ⟨rfl,hba,hxa⟩))
    go_ret
    exact ⟨rfl,hba⟩
   ·have HE1:Hid (∀ X,Below w.heap.size w X->Calls prog 16 #[.slice Ac nc cc,.int .i64 a,stV r1 d1 sp1 q1 co1 k1] X (WoE (qaE l a r1 q1 k1) w X)):=Lh fun X hX=>(HW1 X hX).mono fun e X' h=>h.any hX
    have HE2:Hid (∀ X,Below w.heap.size w X->Calls prog 16 #[.slice Ac nc cc,.int .i64 a,stV r2 d2 sp2 q2 co2 k2] X (WoE (qaE l a r2 q2 k2) w X)):=Lh fun X hX=>(HW2 X hX).mono fun e X' h=>h.any hX
    generalize qaE l a r1 q1 k1=E1 at *
    generalize qaE l a r2 q2 k2=E2 at *
    clear hg rd hgr ht rc hgc hsm HW1 HW2 hsc
    obtain ⟨⟨W,H,rows,r,cl,vs⟩,U⟩:=m
    dsimp only at HG
    by_cases h1:E1=0
    ·subst h1
     have h2:(E2 != 0)=true:=bne_iff_ne.2 fun h=>h12 ⟨rfl,h⟩
     have h00:((0:Int) != 0)=false:=rfl
     clear h12
     go_enter func5,ntmps5
     go_upto_region 1 with fail
     refine qa (Bx3 w ⟨⟨W,H,rows,r,cl,vs⟩,U⟩ A n c r1 d1 sp1 q1 co1 k1 r2 d2 sp2 q2 co2 k2) (Bx3.new w _ A n c _ _ _ _ _ _ _ _ _ _ _ _) ?_
     intro X hX
     obtain ⟨c_0,c_1,c_2,c_3,c_4,c_5,c_6,-,-,-,-,-,-,-⟩:=zd hX.m;dsimp only at c_0 c_1 c_3 c_4 c_5 c_6
     go_wp2_with (first | (go_at_call 8;refine (HG.out _ hX.bel).mono ?_;rintro e w1 ⟨rfl,hb1,hx1⟩;have hX1:=hX.on hx1;obtain ⟨⟨s0,s1,s2,s3,s4,s5⟩,t0,t1,t2,t3,t4,t5⟩:=hX1.setts) | (go_at_call 14;refine (HC9.out _ hX1.bel).mono ?_;rintro e w2 ⟨rfl,hb2,hx2⟩;have hX2:=hX1.on hx2;have hst2:=hX2.setts;obtain ⟨⟨f0,f1,f2,f3,f4,f5⟩,g0,g1,g2,g3,g4,g5⟩:=hst2) | ((fail_if_success have:=w3);go_at_call 16;refine (HE1.out _ hX2.bel).mono ?_;rintro e w3 ⟨⟨A3,n3,c3,rfl⟩,hb3,hx3⟩;have hX3:=hX2.on hx3;have hst3:=hX3.setts;obtain ⟨⟨i0,i1,i2,i3,i4,i5⟩,j0,j1,j2,j3,j4,j5⟩:=hst3) | (go_at_call 16;refine (HE2.out _ hX3.bel).mono ?_;rintro e w4 ⟨⟨A4,n4,c4,rfl⟩,hb4,hx4⟩) | (go_at_call 10;refine (HA.out _ (by assumption)).mono ?_;rintro e wa ⟨rfl,hba,hxa⟩))
     go_ret
     exact ⟨rfl,hba⟩
    ·have h2:(E1 != 0)=true:=bne_iff_ne.2 h1
     clear h12 h1
     go_enter func5,ntmps5
     go_upto_region 1 with fail
     refine qa (Bx3 w ⟨⟨W,H,rows,r,cl,vs⟩,U⟩ A n c r1 d1 sp1 q1 co1 k1 r2 d2 sp2 q2 co2 k2) (Bx3.new w _ A n c _ _ _ _ _ _ _ _ _ _ _ _) ?_
     intro X hX
     obtain ⟨c_0,c_1,c_2,c_3,c_4,c_5,c_6,-,-,-,-,-,-,-⟩:=zd hX.m;dsimp only at c_0 c_1 c_3 c_4 c_5 c_6
     go_wp2_with (first | (go_at_call 8;refine (HG.out _ hX.bel).mono ?_;rintro e w1 ⟨rfl,hb1,hx1⟩;have hX1:=hX.on hx1;obtain ⟨⟨s0,s1,s2,s3,s4,s5⟩,t0,t1,t2,t3,t4,t5⟩:=hX1.setts) | (go_at_call 14;refine (HC9.out _ hX1.bel).mono ?_;rintro e w2 ⟨rfl,hb2,hx2⟩;have hX2:=hX1.on hx2;have hst2:=hX2.setts;obtain ⟨⟨f0,f1,f2,f3,f4,f5⟩,g0,g1,g2,g3,g4,g5⟩:=hst2) | ((fail_if_success have:=w3);go_at_call 16;refine (HE1.out _ hX2.bel).mono ?_;rintro e w3 ⟨⟨A3,n3,c3,rfl⟩,hb3,hx3⟩;have hX3:=hX2.on hx3;have hst3:=hX3.setts;obtain ⟨⟨i0,i1,i2,i3,i4,i5⟩,j0,j1,j2,j3,j4,j5⟩:=hst3) | (go_at_call 16;refine (HE2.out _ hX3.bel).mono ?_;rintro e w4 ⟨⟨A4,n4,c4,rfl⟩,hb4,hx4⟩) | (go_at_call 10;refine (HA.out _ (by assumption)).mono ?_;rintro e wa ⟨rfl,hba,hxa⟩))
     go_ret
     exact ⟨rfl,hba⟩
end Go.Proofs.YticbpkghcglgkaaGreatDoor
namespace Go.Proofs.YticbpkghcglgkaaGreatDoor
open Go.ChangeShapes Go.WideShapes Go.ChangeAt Go.RowKit Go.Deep
def ChgW (x:ChgM):Prop:=(Lit.int .i64 x.c.kind).wf=true/\(Lit.int .i64 x.c.row).wf=true/\(Lit.int .i64 x.c.col).wf=true/\(Lit.int .i64 x.c.count).wf=true/\(Lit.int .i64 x.c.til).wf=true/\∀ g∈x.c.glyphs,g.text.size<=maxLen/\(Lit.int .i64 g.style).wf=true
theorem open_chgs {H:Type} {enc:TypeId × Value->H} {P:Program} {w:World} {t e eg:TypeId} {f0 f1 f2 f3 f4 f5 h0 h1 h2:Field} {A:Option Addr} {len cap:Nat} {d:DataW H} {p:List MemPlace}
  (ht:P.underlying t=some (.slice e)) (he:P.underlying e=some (.struct #[f0,f1,f2,f3,f4,f5])) (ce:P.cellsOf e=6)
  (ho:[f0.offset,f1.offset,f2.offset,f3.offset,f4.offset,f5.offset]=[0,1,2,3,4,5])
  {ti tg:TypeId} (hti:P.underlying ti=some (.int .i64)) (hci:P.cellsOf ti=1) (htg:P.underlying tg=some (.slice eg)) (hcg:P.cellsOf tg=1)
  (hty:f0.type=ti/\f1.type=ti/\f2.type=ti/\f3.type=ti/\f4.type=ti/\f5.type=tg)
  (heg:P.underlying eg=some (.struct #[h0,h1,h2])) (ceg:P.cellsOf eg=3) (hog:[h0.offset,h1.offset,h2.offset]=[0,1,2])
  (hg0:P.underlying h0.type=some .string/\P.cellsOf h0.type=1) (hg1:P.underlying h1.type=some .bool/\P.cellsOf h1.type=1) (hg2:P.underlying h2.type=some (.int .i64)/\P.cellsOf h2.type=1)
  (h:DataW.Trod enc P w 0 (fun _=>true) true t (.slice A len cap) d p) :
  ∃ l:List ChgM,l.length=len/\len<=cap/\cap<=maxLen/\RdC w w.heap.size A len l/\∀ x∈l,ChgW x:=by
 obtain ⟨fuel,hf⟩:=h
 simp only [List.cons.injEq,and_true] at ho
 obtain ⟨o0,o1,o2,o3,o4,o5⟩:=ho
 obtain ⟨t0,t1,t2,t3,t4,t5⟩:=hty
 rcases open_slice ht hf with ⟨hcs,_⟩ | ⟨a,len',cap',m,n,D,Pl,hcs',_,hl,hm,hmm,_,hx⟩
 ·simp [Value.cells] at hcs
  obtain ⟨rfl,rfl,rfl⟩:=hcs
  exact ⟨[],rfl,Nat.le_refl _,by unfold maxLen;omega,⟨Rd.none_,fun x hx=>by cases hx⟩,fun s hs=>by cases hs⟩
 ·simp [Value.cells] at hcs'
  obtain ⟨rfl,rfl,rfl⟩:=hcs'
  simp only [if_true] at hmm
  have each : ∀ i,i<m->∃ r:ChgM,(∀ j u,(qb5 r)[j]? = some u->w.cell? (a.add (i * 6+j))=some u)/\(Rd w w.heap.size 3 r.A r.c.glyphs.length (qi r.c.glyphs)/\r.c.glyphs.length<=r.cap/\r.cap<=maxLen)/\ChgW r:=by
   intro i hi
   obtain ⟨cs',h1',h2'⟩:=hx i hi
   rw [ce] at h1'
   obtain ⟨_,hlen,hcell⟩:=World.cells?_some h1'
   obtain ⟨xs,k,hk,hxy,_,hxl,hfl⟩:=DataW.trod_struct he h2'
   match cs',hlen with
   | [v0,v1,v2,v3,v4,v5],_ =>
    match xs,hxl with
    | [y0,y1,y2,y3,y4,y5],_ =>
     have g0:=hfl 0 f0 rfl
     have g1:=hfl 1 f1 rfl
     have g2:=hfl 2 f2 rfl
     have g3:=hfl 3 f3 rfl
     have g4:=hfl 4 f4 rfl
     have g5:=hfl 5 f5 rfl
     rw [o0,t0,hci] at g0
     rw [o1,t1,hci] at g1
     rw [o2,t2,hci] at g2
     rw [o3,t3,hci] at g3
     rw [o4,t4,hci] at g4
     rw [o5,t5,hcg] at g5
     obtain ⟨n0,e0,_,w0⟩:=DataW.trod_int hti g0
     obtain ⟨n1,e1,_,w1⟩:=DataW.trod_int hti g1
     obtain ⟨n2,e2,_,w2⟩:=DataW.trod_int hti g2
     obtain ⟨n3,e3,_,w3⟩:=DataW.trod_int hti g3
     obtain ⟨n4,e4,_,w4⟩:=DataW.trod_int hti g4
     simp at e0 e1 e2 e3 e4
     subst e0 e1 e2 e3 e4
     have g5':DataW.trod enc P w 0 (fun _=>true) true k tg [v5]=some y5:=g5
     obtain ⟨A5,len5,cap5,rfl⟩ : ∃ A5 len5 cap5,v5 = .slice A5 len5 cap5:=by
      rcases open_slice htg g5' with ⟨hcs,_⟩ | ⟨a5,len5,cap5,m5,n5,D5,Pl5,hcs5,_⟩
      ·exact ⟨none,0,0,by simpa using hcs⟩
      ·exact ⟨some a5,len5,cap5,by simpa using hcs5⟩
     obtain ⟨lg,q1,q2,q3,q4,q5⟩:=qgG (d:=y5.1) (p:=y5.2) htg heg ceg hog hg0 hg1 hg2 ⟨k,g5'⟩
     subst q1
     refine ⟨⟨⟨n0,n1,n2,n3,n4,lg⟩,A5,cap5⟩,fun j u hu=>?_,⟨q4,q2,q3⟩,w0,w1,w2,w3,w4,q5⟩
     have hj:j<6:=by
      have:=(List.getElem?_eq_some_iff.1 hu).1
      rwa [qa3] at this
     have hcj:=hcell j hj
     rw [qbC] at hcj
     rw [hcj]
     exact hu
  obtain ⟨q,hq⟩:=choose_lt each
  refine ⟨(List.range len).map q,by simp,hl,hm,⟨⟨by rw [qbp];simp,fun hn=>?_⟩,fun r hr=>?_⟩,fun r hr=>?_⟩
  ·obtain ⟨b,o,spot⟩:=a
   have h0:=(hq 0 (by omega)).1 0 _ rfl
   have hspot:spot=none:=by simpa [Addr.add] using World.cell?_spot h0
   subst hspot
   refine ⟨b,o,rfl,by simpa [Addr.add] using yY h0,fun j u hu=>?_⟩
   have hj:j<len * 6:=by
    have:=(List.getElem?_eq_some_iff.1 hu).1
    rw [qbp] at this
    simpa using this
   have e:j=j / 6 * 6+j % 6:=by omega
   rw [e,qcE _ _ _ (by omega)] at hu
   rw [List.getElem?_map,List.getElem?_range (show j / 6<len by omega)] at hu
   have h1:=(hq (j / 6) (by omega)).1 (j % 6) u (by simpa using hu)
   rw [vl] at h1
   rw [e]
   exact h1
  ·obtain ⟨i,hi,rfl⟩:=List.mem_map.1 hr
   exact (hq i (by have:=List.mem_range.1 hi;omega)).2.1
  ·obtain ⟨i,hi,rfl⟩:=List.mem_map.1 hr
   exact (hq i (by have:=List.mem_range.1 hi;omega)).2.2
end Go.Proofs.YticbpkghcglgkaaGreatDoor
