/- Joined: Uc3, Lv8, Lv9, Lva, Lvb, Lvc, Lvd, Lve, Lvf. -/
import Derived.Test.YtggegijlfaipfaaGreatDoorZAE
set_option linter.unusedVariables false
set_option linter.unusedSimpArgs false
set_option linter.unnecessarySimpa false
set_option maxHeartbeats 8000000
namespace Go.Proofs.YtggegijlfaipfaaGreatDoor
open Go.Proofs.Tryz Go.RowKit
set_option maxRecDepth 20000
def ChgBox (w:World) (c:Chg) (A:Option Addr) (cap:Nat) (wx:World):Prop :=
 wx.cell? ⟨w.heap.size,0,none⟩=some (.int .i64 c.kind)/\wx.cell? ⟨w.heap.size,1,none⟩=some (.int .i64 c.row)/\wx.cell? ⟨w.heap.size,2,none⟩=some (.int .i64 c.col)/\wx.cell? ⟨w.heap.size,3,none⟩=some (.int .i64 c.count)/\wx.cell? ⟨w.heap.size,4,none⟩=some (.int .i64 c.til)/\wx.cell? ⟨w.heap.size,5,none⟩=some (.slice A c.glyphs.length cap)/\Below w.heap.size w wx/\w.heap.size+1<=wx.heap.size
theorem ChgBox.new (w:World) (c:Chg) (A:Option Addr) (cap:Nat) (ty:TypeId):ChgBox w c A cap (w.alloc (.cells #[.int .i64 c.kind,.int .i64 c.row,.int .i64 c.col,.int .i64 c.count,.int .i64 c.til,.slice A c.glyphs.length cap] ty)) :=
 ⟨qu w _ _ 0,qu w _ _ 1,qu w _ _ 2,qu w _ _ 3,qu w _ _ 4,qu w _ _ 5,L5,by simp⟩
theorem ChgBox.on {w wx wy:World} {c:Chg} {A:Option Addr} {cap:Nat} (h:ChgBox w c A cap wx) (hb:Below wx.heap.size wx wy):ChgBox w c A cap wy:=by
 obtain ⟨h0,h1,h2,h3,h4,h5,h6,h7⟩:=h;have k : ∀ i,wy.cell? ⟨w.heap.size,i,none⟩=wx.cell? ⟨w.heap.size,i,none⟩:=fun i=>hb.cell L7
 exact ⟨(k 0).trans h0,(k 1).trans h1,(k 2).trans h2,(k 3).trans h3,(k 4).trans h4,(k 5).trans h5,h6.trans (hb.mono L0),by have:=hb.size;omega⟩
theorem any_all (l:List Gl):(!vA l)=l.all fun g=>decide (qJ g=0):=by
 unfold vA
 induction l with
 | nil=>rfl
 | cons g t ih=>rw [List.any_cons,List.all_cons,<- ih,Bool.not_or,Bool.not_not];rfl
def jL (RG OT big:Bool):Int:=if RG=false then 2 else if big=true then 5 else if OT=false then 1 else 0
theorem qiy {row col count til:Int} {g:List Gl}:vj ⟨1,row,col,count,til,g⟩=jL (inB row 1 60&&inB col 1 132) (decide (count=0)&&decide (til=0)&&decide (g.length=0)) false:=by
 have e1:je ⟨1,row,col,count,til,g⟩=(inB row 1 60&&inB col 1 132):=by
  rw [Bool.eq_iff_iff];simp [je,inB];omega
 have e2:jk ⟨1,row,col,count,til,g⟩=(decide (count=0)&&decide (til=0)&&decide (g.length=0)):=by
  rw [Bool.eq_iff_iff];simp [jk,and_assoc]
 simp only [vj,jL,e1,e2]
 simp
theorem qin {row col count til:Int} {g:List Gl}:vj ⟨2,row,col,count,til,g⟩=jL (inB row 0 59&&inB til (row+1) 60&&inB count (-60) 60&&decide (count≠0)) (decide (col=0)&&decide (g.length=0)) false:=by
 have e1:je ⟨2,row,col,count,til,g⟩=(inB row 0 59&&inB til (row+1) 60&&inB count (-60) 60&&decide (count≠0)):=by
  rw [Bool.eq_iff_iff];simp [je,inB];omega
 have e2:jk ⟨2,row,col,count,til,g⟩=(decide (col=0)&&decide (g.length=0)):=by
  rw [Bool.eq_iff_iff];simp [jk]
 simp only [vj,jL,e1,e2]
 simp
theorem qeh {row col count til:Int} {g:List Gl}:vj ⟨3,row,col,count,til,g⟩=jL (inB row 0 59&&inB col 0 132&&inB count 0 132) (decide (til=0)&&!vA g) (decide (132<g.length)):=by
 have e1:je ⟨3,row,col,count,til,g⟩=(inB row 0 59&&inB col 0 132&&inB count 0 132):=by
  rw [Bool.eq_iff_iff];simp [je,inB];omega
 have e2:jk ⟨3,row,col,count,til,g⟩=(decide (til=0)&&!vA g):=by
  rw [any_all];rfl
 simp only [vj,jL,e1,e2]
 simp
theorem qfB {row col count til:Int} {g:List Gl}:vj ⟨4,row,col,count,til,g⟩=jL (inB row 0 59&&inB col 0 131&&inB count 0 1) (decide (til=0)&&decide (g.length=0)) false:=by
 have e1:je ⟨4,row,col,count,til,g⟩=(inB row 0 59&&inB col 0 131&&inB count 0 1):=by
  rw [Bool.eq_iff_iff];simp [je,inB];omega
 have e2:jk ⟨4,row,col,count,til,g⟩=(decide (til=0)&&decide (g.length=0)):=by
  rw [Bool.eq_iff_iff];simp [jk]
 simp only [vj,jL,e1,e2]
 simp
theorem qff {n a b:Int} (h:inB n a b=true):a<=n/\n<=b:=by
 unfold inB at h
 simpa using h
theorem qhI (row col count til:Int) (g:List Gl) (A:Option Addr) (cap:Nat) (w:World):Calls prog 42 #[jH ⟨1,row,col,count,til,g⟩ A cap] w (qh (.int .i64 (vj ⟨1,row,col,count,til,g⟩)) w):=by
 rw [qiy];obtain ⟨RG,hRG⟩ : ∃ x,x=(inB row 1 60&&inB col 1 132):=⟨_,rfl⟩
 obtain ⟨OT,hOT⟩ : ∃ x,x=(decide (count=0)&&decide (til=0)&&decide (g.length=0)):=⟨_,rfl⟩
 rw [<- hRG,<- hOT];replace hRG:=Lh hRG;replace hOT:=Lh hOT;have HRG:=hRG;have HOT:=hOT
 go_enter func42,ntmps42
 go_upto_region 1 with fail
 refine qa (ChgBox w ⟨1,row,col,count,til,g⟩ A cap) (ChgBox.new w ⟨1,row,col,count,til,g⟩ A cap _) ?_;intro X hX;obtain ⟨c0,c1,c2,c3,c4,c5,hb,hzX⟩:=id hX;dsimp only at c0 c1 c2 c3 c4 c5
 go_upto_block 0 with (go_at_call 70;refine (qaG _ _ _ _).mono ?_;rintro e wy ⟨rfl,rfl⟩)
 generalize hz0:inB row 0 59=z0 at *
 have HZ0:=Lh hz0;clear hz0
 go_cut [4,5] (fun v4 v5 wx=>v4 = .bool RG/\v5 = .bool OT/\ChgBox w ⟨1,row,col,count,til,g⟩ A cap wx)
 case first =>
  go_upto_region 6 with fail
  go_cut [4] (fun v wx=>v = .bool RG/\wx=X)
  case first =>
   clear HOT hOT
   cases h1:inB row 1 60 with
   | false =>
    have e:Hid (RG=false):=Lh (by rw [HRG.out,h1];rfl);clear HRG hRG
    go_wp2_with (go_at_call 70;refine (qaG _ _ _ _).mono ?_;rintro e wy ⟨rfl,rfl⟩)
    go_meet;exact ⟨by rw [e.out],rfl⟩
   | true =>
    have e:Hid (RG=inB col 1 132):=Lh (by rw [HRG.out,h1];rfl);clear HRG hRG
    go_wp2_with (go_at_call 70;refine (qaG _ _ _ _).mono ?_;rintro e wy ⟨rfl,rfl⟩)
    go_meet;exact ⟨by rw [e.out],rfl⟩
  case rest =>
   obtain ⟨rfl,hwc⟩:=hcut;rw [hwc];clear hwc HRG hRG;have HX:=Lh hX;clear hX
   by_cases h1:count=0
   ·by_cases h2:til=0
    ·have e:Hid (OT=decide (g.length=0)):=Lh (by rw [HOT.out,Ll h1,Ll h2];rfl);have e2:((g.length:Int)==0)=decide (g.length=0):=by rw [Bool.eq_iff_iff];simp
     clear HOT hOT;generalize decide (g.length=0)=DL at *
     rw [h1] at c3;rw [h2] at c4;go_wp2;go_meet;exact ⟨rfl,by rw [e.out],HX.out⟩
    ·have e:Hid (OT=false):=Lh (by rw [HOT.out,Lk h2,Bool.and_false];rfl);have e2:(til==0)=false:=Lm.2 h2;clear HOT hOT h2;rw [h1] at c3;go_wp2;go_meet;exact ⟨rfl,by rw [e.out],HX.out⟩
   ·have e:Hid (OT=false):=Lh (by rw [HOT.out,Lk h1];rfl);have e2:(count==0)=false:=Lm.2 h1;clear HOT hOT h1;go_wp2;go_meet;exact ⟨rfl,by rw [e.out],HX.out⟩
 case rest =>
  obtain ⟨rfl,rfl,hX⟩:=hcut;clear HRG HOT hRG hOT c0 c1 c2 c3 c4 c5;obtain ⟨c0,c1,c2,c3,c4,c5,hb2,hz2⟩:=hX;dsimp only at c0 c1 c2 c3 c4 c5
  cases RG with
  | false =>
   go_wp2;go_ret;exact ⟨rfl,hb2⟩
  | true =>
   cases OT with
   | false =>
    go_wp2;go_ret;exact ⟨rfl,hb2⟩
   | true =>
    go_wp2;go_ret;exact ⟨rfl,hb2⟩
theorem qhq (row col count til:Int) (g:List Gl) (A:Option Addr) (cap:Nat) (w:World):Calls prog 42 #[jH ⟨2,row,col,count,til,g⟩ A cap] w (qh (.int .i64 (vj ⟨2,row,col,count,til,g⟩)) w):=by
 rw [qin];obtain ⟨RG,hRG⟩ : ∃ x,x=(inB row 0 59&&inB til (row+1) 60&&inB count (-60) 60&&decide (count≠0)):=⟨_,rfl⟩
 obtain ⟨OT,hOT⟩ : ∃ x,x=(decide (col=0)&&decide (g.length=0)):=⟨_,rfl⟩
 rw [<- hRG,<- hOT];replace hRG:=Lh hRG;replace hOT:=Lh hOT;have HRG:=hRG;have HOT:=hOT
 go_enter func42,ntmps42
 go_upto_region 1 with fail
 refine qa (ChgBox w ⟨2,row,col,count,til,g⟩ A cap) (ChgBox.new w ⟨2,row,col,count,til,g⟩ A cap _) ?_;intro X hX;obtain ⟨c0,c1,c2,c3,c4,c5,hb,hzX⟩:=id hX;dsimp only at c0 c1 c2 c3 c4 c5
 go_upto_block 0 with (go_at_call 70;refine (qaG _ _ _ _).mono ?_;rintro e wy ⟨rfl,rfl⟩)
 generalize hz0:inB row 0 59=z0 at *
 have HZ0:=Lh hz0;clear hz0
 go_cut [4,5] (fun v4 v5 wx=>v4 = .bool RG/\v5 = .bool OT/\ChgBox w ⟨2,row,col,count,til,g⟩ A cap wx)
 case first =>
  go_upto_region 9 with fail
  go_cut [4] (fun v wx=>v = .bool RG/\wx=X)
  case first =>
   clear HOT hOT
   cases z0 with
   | false =>
    have e:Hid (RG=false):=Lh (by rw [HRG.out];rfl);clear HRG hRG
    go_wp2_with (go_at_call 70;refine (qaG _ _ _ _).mono ?_;rintro e wy ⟨rfl,rfl⟩)
    go_meet;exact ⟨by rw [e.out],rfl⟩
   | true =>
    obtain ⟨r0,r1⟩:=qff HZ0.out;have hwr:IntKind.i64.wrap (row+1)=row+1:=by rw [Lx];omega
    cases h1:inB til (row+1) 60 with
    | false =>
     have e:Hid (RG=false):=Lh (by rw [HRG.out,h1];rfl);clear HRG hRG
     go_wp2_with (go_at_call 70;refine (qaG _ _ _ _).mono ?_;rintro e wy ⟨rfl,rfl⟩)
     go_meet;exact ⟨by rw [e.out],rfl⟩
    | true =>
     cases h2:inB count (-60) 60 with
     | false =>
      have e:Hid (RG=false):=Lh (by rw [HRG.out,h1,h2];rfl);clear HRG hRG
      go_wp2_with (go_at_call 70;refine (qaG _ _ _ _).mono ?_;rintro e wy ⟨rfl,rfl⟩)
      go_meet;exact ⟨by rw [e.out],rfl⟩
     | true =>
      by_cases h3:count=0
      ·have e:Hid (RG=false):=Lh (by rw [HRG.out,h1,h2,Lk (fun h=>h h3)];rfl);have e3:(count != 0)=false:=by simp [h3]
       clear HRG hRG h3
       go_wp2_with (go_at_call 70;refine (qaG _ _ _ _).mono ?_;rintro e wy ⟨rfl,rfl⟩)
       go_meet;exact ⟨by rw [e.out],rfl⟩
      ·have e:Hid (RG=true):=Lh (by rw [HRG.out,h1,h2,Ll h3];rfl);have e3:(count != 0)=true:=Ln.2 h3;clear HRG hRG h3
       go_wp2_with (go_at_call 70;refine (qaG _ _ _ _).mono ?_;rintro e wy ⟨rfl,rfl⟩)
       go_meet;exact ⟨by rw [e.out],rfl⟩
  case rest =>
   obtain ⟨rfl,hwc⟩:=hcut;rw [hwc];clear hwc HRG hRG;have HX:=Lh hX;clear hX
   by_cases h1:col=0
   ·have e:Hid (OT=decide (g.length=0)):=Lh (by rw [HOT.out,Ll h1];rfl);have e2:((g.length:Int)==0)=decide (g.length=0):=by rw [Bool.eq_iff_iff];simp
    clear HOT hOT;generalize decide (g.length=0)=DL at *
    rw [h1] at c2;go_wp2;go_meet;exact ⟨rfl,by rw [e.out],HX.out⟩
   ·have e:Hid (OT=false):=Lh (by rw [HOT.out,Lk h1];rfl);have e2:(col==0)=false:=Lm.2 h1;clear HOT hOT h1;go_wp2;go_meet;exact ⟨rfl,by rw [e.out],HX.out⟩
 case rest =>
  obtain ⟨rfl,rfl,hX⟩:=hcut;clear HRG HOT hRG hOT c0 c1 c2 c3 c4 c5;obtain ⟨c0,c1,c2,c3,c4,c5,hb2,hz2⟩:=hX;dsimp only at c0 c1 c2 c3 c4 c5
  cases RG with
  | false =>
   go_wp2;go_ret;exact ⟨rfl,hb2⟩
  | true =>
   cases OT with
   | false =>
    go_wp2;go_ret;exact ⟨rfl,hb2⟩
   | true =>
    go_wp2;go_ret;exact ⟨rfl,hb2⟩
theorem qfb (row col count til:Int) (g:List Gl) (A:Option Addr) (cap:Nat) (w:World) (B:Nat) (hn:g.length<=1000000000) (rd:Rd w B 3 A g.length (qi g)) (hB:B<=w.heap.size) (hz : ∀ x∈g,x.text.size<=1000000000) (hu:U8 w):Calls prog 42 #[jH ⟨3,row,col,count,til,g⟩ A cap] w (qh (.int .i64 (vj ⟨3,row,col,count,til,g⟩)) w):=by
 rw [qeh];obtain ⟨RG,hRG⟩ : ∃ x,x=(inB row 0 59&&inB col 0 132&&inB count 0 132):=⟨_,rfl⟩
 obtain ⟨OT,hOT⟩ : ∃ x,x=(decide (til=0)&&!vA g):=⟨_,rfl⟩
 rw [<- hRG,<- hOT];replace hRG:=Lh hRG;replace hOT:=Lh hOT;have HRG:=hRG;have HOT:=hOT;obtain ⟨BI,hBI⟩ : ∃ x,x=decide (132<g.length):=⟨_,rfl⟩
 rw [<- hBI];replace hBI:=Lh hBI;have HCb:Hid (∀ w',Below w.heap.size w w'->Calls prog 71 #[.slice A g.length cap,(Value.func (.func 72) #[] #[])] w' (qh (.bool (vA g)) w')):=Lh fun w' hw=>qfq g A _ cap B w' hn (rd.below (hw.mono hB)) (Lj hB hw.size) hz (hu.below hw)
 clear rd hz hu
 go_enter func42,ntmps42
 go_upto_region 1 with fail
 refine qa (ChgBox w ⟨3,row,col,count,til,g⟩ A cap) (ChgBox.new w ⟨3,row,col,count,til,g⟩ A cap _) ?_;intro X hX;obtain ⟨c0,c1,c2,c3,c4,c5,hb,hzX⟩:=id hX;dsimp only at c0 c1 c2 c3 c4 c5
 go_upto_block 0 with (go_at_call 70;refine (qaG _ _ _ _).mono ?_;rintro e wy ⟨rfl,rfl⟩)
 generalize hz0:inB row 0 59=z0 at *
 have HZ0:=Lh hz0;clear hz0
 go_cut [4,5] (fun v4 v5 wx=>v4 = .bool RG/\v5 = .bool OT/\ChgBox w ⟨3,row,col,count,til,g⟩ A cap wx)
 case first =>
  go_upto_region 12 with fail
  go_cut [4] (fun v wx=>v = .bool RG/\wx=X)
  case first =>
   clear HOT hOT HCb
   cases z0 with
   | false =>
    have e:Hid (RG=false):=Lh (by rw [HRG.out];rfl);clear HRG hRG
    go_wp2_with (go_at_call 70;refine (qaG _ _ _ _).mono ?_;rintro e wy ⟨rfl,rfl⟩)
    go_meet;exact ⟨by rw [e.out],rfl⟩
   | true =>
    cases h1:inB col 0 132 with
    | false =>
     have e:Hid (RG=false):=Lh (by rw [HRG.out,h1];rfl);clear HRG hRG
     go_wp2_with (go_at_call 70;refine (qaG _ _ _ _).mono ?_;rintro e wy ⟨rfl,rfl⟩)
     go_meet;exact ⟨by rw [e.out],rfl⟩
    | true =>
     have e:Hid (RG=inB count 0 132):=Lh (by rw [HRG.out,h1];rfl);clear HRG hRG
     go_wp2_with (go_at_call 70;refine (qaG _ _ _ _).mono ?_;rintro e wy ⟨rfl,rfl⟩)
     go_meet;exact ⟨by rw [e.out],rfl⟩
  case rest =>
   obtain ⟨rfl,hwc⟩:=hcut;rw [hwc];clear hwc HRG hRG;have HX:=Lh hX;clear hX
   by_cases h1:til=0
   ·have e:Hid (OT = !vA g):=Lh (by rw [HOT.out,Ll h1];rfl);clear HOT hOT;generalize vA g=AB at *
    rw [h1] at c4;clear h1
    go_wp2_with (go_at_call 71;refine (HCb.out _ hb).mono ?_;rintro e' wy ⟨rfl,hby⟩)
    go_meet;exact ⟨rfl,by rw [e.out],HX.out.on hby⟩
   ·have e:Hid (OT=false):=Lh (by rw [HOT.out,Lk h1];rfl);have e2:(til==0)=false:=Lm.2 h1;clear HOT hOT h1 HCb;go_wp2;go_meet;exact ⟨rfl,by rw [e.out],HX.out⟩
 case rest =>
  obtain ⟨rfl,rfl,hX⟩:=hcut;clear HRG HOT hRG hOT c0 c1 c2 c3 c4 c5 HCb;obtain ⟨c0,c1,c2,c3,c4,c5,hb2,hz2⟩:=hX;dsimp only at c0 c1 c2 c3 c4 c5
  cases RG with
  | false =>
   go_wp2;go_ret;exact ⟨rfl,hb2⟩
  | true =>
   cases BI with
   | true =>
    have hbi:(132:Int)<g.length:=by have:=of_decide_eq_true hBI.out.symm;omega
    clear hBI;go_wp2;go_ret;exact ⟨rfl,hb2⟩
   | false =>
    have hbi : ¬ (132:Int)<g.length:=by have:=of_decide_eq_false hBI.out.symm;omega
    clear hBI
    cases OT with
    | false =>
     go_wp2;go_ret;exact ⟨rfl,hb2⟩
    | true =>
     go_wp2;go_ret;exact ⟨rfl,hb2⟩
theorem qgh (row col count til:Int) (g:List Gl) (A:Option Addr) (cap:Nat) (w:World):Calls prog 42 #[jH ⟨4,row,col,count,til,g⟩ A cap] w (qh (.int .i64 (vj ⟨4,row,col,count,til,g⟩)) w):=by
 rw [qfB];obtain ⟨RG,hRG⟩ : ∃ x,x=(inB row 0 59&&inB col 0 131&&inB count 0 1):=⟨_,rfl⟩
 obtain ⟨OT,hOT⟩ : ∃ x,x=(decide (til=0)&&decide (g.length=0)):=⟨_,rfl⟩
 rw [<- hRG,<- hOT];replace hRG:=Lh hRG;replace hOT:=Lh hOT;have HRG:=hRG;have HOT:=hOT
 go_enter func42,ntmps42
 go_upto_region 1 with fail
 refine qa (ChgBox w ⟨4,row,col,count,til,g⟩ A cap) (ChgBox.new w ⟨4,row,col,count,til,g⟩ A cap _) ?_;intro X hX;obtain ⟨c0,c1,c2,c3,c4,c5,hb,hzX⟩:=id hX;dsimp only at c0 c1 c2 c3 c4 c5
 go_upto_block 0 with (go_at_call 70;refine (qaG _ _ _ _).mono ?_;rintro e wy ⟨rfl,rfl⟩)
 generalize hz0:inB row 0 59=z0 at *
 have HZ0:=Lh hz0;clear hz0
 go_cut [4,5] (fun v4 v5 wx=>v4 = .bool RG/\v5 = .bool OT/\ChgBox w ⟨4,row,col,count,til,g⟩ A cap wx)
 case first =>
  go_upto_region 15 with fail
  go_cut [4] (fun v wx=>v = .bool RG/\wx=X)
  case first =>
   clear HOT hOT
   cases z0 with
   | false =>
    have e:Hid (RG=false):=Lh (by rw [HRG.out];rfl);clear HRG hRG
    go_wp2_with (go_at_call 70;refine (qaG _ _ _ _).mono ?_;rintro e wy ⟨rfl,rfl⟩)
    go_meet;exact ⟨by rw [e.out],rfl⟩
   | true =>
    cases h1:inB col 0 131 with
    | false =>
     have e:Hid (RG=false):=Lh (by rw [HRG.out,h1];rfl);clear HRG hRG
     go_wp2_with (go_at_call 70;refine (qaG _ _ _ _).mono ?_;rintro e wy ⟨rfl,rfl⟩)
     go_meet;exact ⟨by rw [e.out],rfl⟩
    | true =>
     have e:Hid (RG=inB count 0 1):=Lh (by rw [HRG.out,h1];rfl);clear HRG hRG
     go_wp2_with (go_at_call 70;refine (qaG _ _ _ _).mono ?_;rintro e wy ⟨rfl,rfl⟩)
     go_meet;exact ⟨by rw [e.out],rfl⟩
  case rest =>
   obtain ⟨rfl,hwc⟩:=hcut;rw [hwc];clear hwc HRG hRG;have HX:=Lh hX;clear hX
   by_cases h1:til=0
   ·have e:Hid (OT=decide (g.length=0)):=Lh (by rw [HOT.out,Ll h1];rfl);have e2:((g.length:Int)==0)=decide (g.length=0):=by rw [Bool.eq_iff_iff];simp
    clear HOT hOT;generalize decide (g.length=0)=DL at *
    rw [h1] at c4;go_wp2;go_meet;exact ⟨rfl,by rw [e.out],HX.out⟩
   ·have e:Hid (OT=false):=Lh (by rw [HOT.out,Lk h1];rfl);have e2:(til==0)=false:=Lm.2 h1;clear HOT hOT h1;go_wp2;go_meet;exact ⟨rfl,by rw [e.out],HX.out⟩
 case rest =>
  obtain ⟨rfl,rfl,hX⟩:=hcut;clear HRG HOT hRG hOT c0 c1 c2 c3 c4 c5;obtain ⟨c0,c1,c2,c3,c4,c5,hb2,hz2⟩:=hX;dsimp only at c0 c1 c2 c3 c4 c5
  cases RG with
  | false =>
   go_wp2;go_ret;exact ⟨rfl,hb2⟩
  | true =>
   cases OT with
   | false =>
    go_wp2;go_ret;exact ⟨rfl,hb2⟩
   | true =>
    go_wp2;go_ret;exact ⟨rfl,hb2⟩
theorem qhv (c:Chg) (A:Option Addr) (cap:Nat) (w:World) (h1:c.kind≠1) (h2:c.kind≠2) (h3:c.kind≠3) (h4:c.kind≠4):Calls prog 42 #[jH c A cap] w (qh (.int .i64 (vj c)) w):=by
 have e:vj c=9:=if_pos L0;rw [e];obtain ⟨kind,row,col,count,til,g⟩:=c;have b1:(kind==1)=false:=Lm.2 h1;have b2:(kind==2)=false:=Lm.2 h2;have b3:(kind==3)=false:=Lm.2 h3;have b4:(kind==4)=false:=Lm.2 h4;clear e h1 h2 h3 h4
 go_enter func42,ntmps42
 go_upto_region 1 with fail
 refine qa (ChgBox w ⟨kind,row,col,count,til,g⟩ A cap) (ChgBox.new w ⟨kind,row,col,count,til,g⟩ A cap _) ?_;rintro X ⟨c0,c1,c2,c3,c4,c5,hb,hzX⟩;dsimp only at c0 c1 c2 c3 c4 c5
 go_wp2_with (go_at_call 70;refine (qaG _ _ _ _).mono ?_;rintro e wy ⟨rfl,rfl⟩)
 go_ret;exact ⟨rfl,hb⟩
theorem ucheck_ (c:Chg) (A:Option Addr) (cap B:Nat) (w:World) (hn:c.glyphs.length<=1000000000) (rd:Rd w B 3 A c.glyphs.length (qi c.glyphs)) (hB:B<=w.heap.size) (hz : ∀ x∈c.glyphs,x.text.size<=1000000000) (hu:U8 w) :
  Calls prog 42 #[jH c A cap] w (qh (.int .i64 (vj c)) w):=by
 by_cases h1:c.kind=1
 ·obtain ⟨kind,row,col,count,til,g⟩:=c;obtain rfl:kind=1:=h1;exact qhI row col count til g A cap w
 ·by_cases h2:c.kind=2
  ·obtain ⟨kind,row,col,count,til,g⟩:=c;obtain rfl:kind=2:=h2;exact qhq row col count til g A cap w
  ·by_cases h3:c.kind=3
   ·obtain ⟨kind,row,col,count,til,g⟩:=c;obtain rfl:kind=3:=h3;exact qfb row col count til g A cap w B hn rd hB hz hu
   ·by_cases h4:c.kind=4
    ·obtain ⟨kind,row,col,count,til,g⟩:=c;obtain rfl:kind=4:=h4;exact qgh row col count til g A cap w
    ·exact qhv c A cap w h1 h2 h3 h4
theorem cblank_ (c:Chg) (A:Option Addr) (cap:Nat) (w:World):Calls prog 50 #[jH c A cap] w (qh (.bool (zS c)) w):=by
 obtain ⟨kind,row,col,count,til,g⟩:=c
 by_cases k1:kind=1
 ·have d1:(kind==1)=true:=beq_iff_eq.2 k1
  by_cases a1:count=0
  ·have e1:(count==0)=true:=beq_iff_eq.2 a1
   by_cases a2:til=0
   ·have e2:(til==0)=true:=beq_iff_eq.2 a2
    by_cases a3:g=[]
    ·have e3:((g.length:Int)==0)=true:=by simp [a3]
     have HE:Hid (zS ⟨kind,row,col,count,til,g⟩=true):=Lh (by simp [zS, *]);clear k1 a1 a2 a3
     go_enter func50,ntmps50
     go_upto_region 1 with fail
     refine qa (ChgBox w ⟨kind,row,col,count,til,g⟩ A cap) (ChgBox.new w ⟨kind,row,col,count,til,g⟩ A cap _) ?_;rintro X ⟨c0,c1,c2,c3,c4,c5,hb,hzX⟩;dsimp only at c0 c1 c2 c3 c4 c5;go_wp2;go_ret;exact ⟨by rw [HE.out];rfl,hb⟩
    ·have e3:((g.length:Int)==0)=false:=by simp [a3]
     have HE:Hid (zS ⟨kind,row,col,count,til,g⟩=false):=Lh (by simp [zS, *]);clear k1 a1 a2 a3
     go_enter func50,ntmps50
     go_upto_region 1 with fail
     refine qa (ChgBox w ⟨kind,row,col,count,til,g⟩ A cap) (ChgBox.new w ⟨kind,row,col,count,til,g⟩ A cap _) ?_;rintro X ⟨c0,c1,c2,c3,c4,c5,hb,hzX⟩;dsimp only at c0 c1 c2 c3 c4 c5;go_wp2;go_ret;exact ⟨by rw [HE.out];rfl,hb⟩
   ·have e2:(til==0)=false:=Lm.2 a2;have HE:Hid (zS ⟨kind,row,col,count,til,g⟩=false):=Lh (by simp [zS, *]);clear k1 a1 a2
    go_enter func50,ntmps50
    go_upto_region 1 with fail
    refine qa (ChgBox w ⟨kind,row,col,count,til,g⟩ A cap) (ChgBox.new w ⟨kind,row,col,count,til,g⟩ A cap _) ?_;rintro X ⟨c0,c1,c2,c3,c4,c5,hb,hzX⟩;dsimp only at c0 c1 c2 c3 c4 c5;go_wp2;go_ret;exact ⟨by rw [HE.out];rfl,hb⟩
  ·have e1:(count==0)=false:=Lm.2 a1;have HE:Hid (zS ⟨kind,row,col,count,til,g⟩=false):=Lh (by simp [zS, *]);clear k1 a1
   go_enter func50,ntmps50
   go_upto_region 1 with fail
   refine qa (ChgBox w ⟨kind,row,col,count,til,g⟩ A cap) (ChgBox.new w ⟨kind,row,col,count,til,g⟩ A cap _) ?_;rintro X ⟨c0,c1,c2,c3,c4,c5,hb,hzX⟩;dsimp only at c0 c1 c2 c3 c4 c5;go_wp2;go_ret;exact ⟨by rw [HE.out];rfl,hb⟩
 ·have d1:(kind==1)=false:=Lm.2 k1
  by_cases k2:kind=2
  ·have d2:(kind==2)=true:=beq_iff_eq.2 k2
   by_cases a1:col=0
   ·have e1:(col==0)=true:=beq_iff_eq.2 a1
    by_cases a3:g=[]
    ·have e3:((g.length:Int)==0)=true:=by simp [a3]
     have HE:Hid (zS ⟨kind,row,col,count,til,g⟩=true):=Lh (by simp [zS, *]);clear k1 k2 a1 a3
     go_enter func50,ntmps50
     go_upto_region 1 with fail
     refine qa (ChgBox w ⟨kind,row,col,count,til,g⟩ A cap) (ChgBox.new w ⟨kind,row,col,count,til,g⟩ A cap _) ?_;rintro X ⟨c0,c1,c2,c3,c4,c5,hb,hzX⟩;dsimp only at c0 c1 c2 c3 c4 c5;go_wp2;go_ret;exact ⟨by rw [HE.out];rfl,hb⟩
    ·have e3:((g.length:Int)==0)=false:=by simp [a3]
     have HE:Hid (zS ⟨kind,row,col,count,til,g⟩=false):=Lh (by simp [zS, *]);clear k1 k2 a1 a3
     go_enter func50,ntmps50
     go_upto_region 1 with fail
     refine qa (ChgBox w ⟨kind,row,col,count,til,g⟩ A cap) (ChgBox.new w ⟨kind,row,col,count,til,g⟩ A cap _) ?_;rintro X ⟨c0,c1,c2,c3,c4,c5,hb,hzX⟩;dsimp only at c0 c1 c2 c3 c4 c5;go_wp2;go_ret;exact ⟨by rw [HE.out];rfl,hb⟩
   ·have e1:(col==0)=false:=Lm.2 a1;have HE:Hid (zS ⟨kind,row,col,count,til,g⟩=false):=Lh (by simp [zS, *]);clear k1 k2 a1
    go_enter func50,ntmps50
    go_upto_region 1 with fail
    refine qa (ChgBox w ⟨kind,row,col,count,til,g⟩ A cap) (ChgBox.new w ⟨kind,row,col,count,til,g⟩ A cap _) ?_;rintro X ⟨c0,c1,c2,c3,c4,c5,hb,hzX⟩;dsimp only at c0 c1 c2 c3 c4 c5;go_wp2;go_ret;exact ⟨by rw [HE.out];rfl,hb⟩
  ·have d2:(kind==2)=false:=Lm.2 k2
   by_cases k3:kind=3
   ·have d3:(kind==3)=true:=beq_iff_eq.2 k3
    by_cases a2:til=0
    ·have e2:(til==0)=true:=beq_iff_eq.2 a2;have HE:Hid (zS ⟨kind,row,col,count,til,g⟩=true):=Lh (by simp [zS, *]);clear k1 k2 k3 a2
     go_enter func50,ntmps50
     go_upto_region 1 with fail
     refine qa (ChgBox w ⟨kind,row,col,count,til,g⟩ A cap) (ChgBox.new w ⟨kind,row,col,count,til,g⟩ A cap _) ?_;rintro X ⟨c0,c1,c2,c3,c4,c5,hb,hzX⟩;dsimp only at c0 c1 c2 c3 c4 c5;go_wp2;go_ret;exact ⟨by rw [HE.out];rfl,hb⟩
    ·have e2:(til==0)=false:=Lm.2 a2;have HE:Hid (zS ⟨kind,row,col,count,til,g⟩=false):=Lh (by simp [zS, *]);clear k1 k2 k3 a2
     go_enter func50,ntmps50
     go_upto_region 1 with fail
     refine qa (ChgBox w ⟨kind,row,col,count,til,g⟩ A cap) (ChgBox.new w ⟨kind,row,col,count,til,g⟩ A cap _) ?_;rintro X ⟨c0,c1,c2,c3,c4,c5,hb,hzX⟩;dsimp only at c0 c1 c2 c3 c4 c5;go_wp2;go_ret;exact ⟨by rw [HE.out];rfl,hb⟩
   ·have d3:(kind==3)=false:=Lm.2 k3
    by_cases a2:til=0
    ·have e2:(til==0)=true:=beq_iff_eq.2 a2
     by_cases a3:g=[]
     ·have e3:((g.length:Int)==0)=true:=by simp [a3]
      have HE:Hid (zS ⟨kind,row,col,count,til,g⟩=true):=Lh (by simp [zS, *]);clear k1 k2 k3 a2 a3
      go_enter func50,ntmps50
      go_upto_region 1 with fail
      refine qa (ChgBox w ⟨kind,row,col,count,til,g⟩ A cap) (ChgBox.new w ⟨kind,row,col,count,til,g⟩ A cap _) ?_;rintro X ⟨c0,c1,c2,c3,c4,c5,hb,hzX⟩;dsimp only at c0 c1 c2 c3 c4 c5;go_wp2;go_ret;exact ⟨by rw [HE.out];rfl,hb⟩
     ·have e3:((g.length:Int)==0)=false:=by simp [a3]
      have HE:Hid (zS ⟨kind,row,col,count,til,g⟩=false):=Lh (by simp [zS, *]);clear k1 k2 k3 a2 a3
      go_enter func50,ntmps50
      go_upto_region 1 with fail
      refine qa (ChgBox w ⟨kind,row,col,count,til,g⟩ A cap) (ChgBox.new w ⟨kind,row,col,count,til,g⟩ A cap _) ?_;rintro X ⟨c0,c1,c2,c3,c4,c5,hb,hzX⟩;dsimp only at c0 c1 c2 c3 c4 c5;go_wp2;go_ret;exact ⟨by rw [HE.out];rfl,hb⟩
    ·have e2:(til==0)=false:=Lm.2 a2;have HE:Hid (zS ⟨kind,row,col,count,til,g⟩=false):=Lh (by simp [zS, *]);clear k1 k2 k3 a2
     go_enter func50,ntmps50
     go_upto_region 1 with fail
     refine qa (ChgBox w ⟨kind,row,col,count,til,g⟩ A cap) (ChgBox.new w ⟨kind,row,col,count,til,g⟩ A cap _) ?_;rintro X ⟨c0,c1,c2,c3,c4,c5,hb,hzX⟩;dsimp only at c0 c1 c2 c3 c4 c5;go_wp2;go_ret;exact ⟨by rw [HE.out];rfl,hb⟩
theorem qbX (n a b:Int) (w:World):Calls prog 49 #[.int .i64 n,.int .i64 a,.int .i64 b] w (Quiet (.bool (inB n a b)) w):=(btw_ n a b w).mono fun _ _ ⟨h1,h2⟩=>⟨h1,0,by subst h2;rfl⟩
theorem kk {v:Vw} {row col count til:Int} {g:List Gl}:zh v ⟨2,row,col,count,til,g⟩=decide (0<=row/\row<til/\til<=v.height/\count≠0/\count<til-row/\row-til<count):=rfl
theorem qai {v:Vw} {row col count til:Int} {g:List Gl}:zh v ⟨3,row,col,count,til,g⟩=decide (0<=row/\row<=v.height-1/\0<=col/\col<=264/\0<=count/\(count=0∨col+count<=((v.rows.getD row.toNat []).length:Int))):=rfl
theorem qg6 {v:Vw} {row col count til:Int} {g:List Gl}:zh v ⟨4,row,col,count,til,g⟩=(inB row 0 (v.height-1)&&inB col 0 (v.width-1)&&inB count 0 1):=by
 rw [Bool.eq_iff_iff]
 simp [zh,inB]
 omega
section
variable {base G : Nat} {W Hh : Int} {rows : List (List Gl)} {vr vc : Int} {vis : Bool} {rs : List RowM} {A : Option Addr} {cA : Nat} {X0 : World} {row col count til : Int} {g : List Gl} {Ag : Option Addr} {cap : Nat}
theorem qhN (HB:Hid (Blk X0 G 75 (vwC ⟨W,Hh,rows,vr,vc,vis⟩ A rs.length cA))):Calls prog 51 #[.pointer (some ⟨G,0,none⟩),jH ⟨1,row,col,count,til,g⟩ Ag cap] X0 (qh (.bool (zh ⟨W,Hh,rows,vr,vc,vis⟩ ⟨1,row,col,count,til,g⟩)) X0):=by
 have HE:Hid (zh ⟨W,Hh,rows,vr,vc,vis⟩ ⟨1,row,col,count,til,g⟩=(inB row 1 60&&inB col 1 132)):=Lh (by
  rw [Bool.eq_iff_iff];simp [zh,inB];omega)
 cases z1:inB row 1 60 with
 | false =>
  rw [z1] at HE
  go_enter func51,ntmps51
  go_upto_region 1 with fail
  refine qa (ChgBox X0 ⟨1,row,col,count,til,g⟩ Ag cap) (ChgBox.new X0 ⟨1,row,col,count,til,g⟩ Ag cap _) ?_;rintro X ⟨c0,c1,c2,c3,c4,c5,hb,hzX⟩;dsimp only at c0 c1 c2 c3 c4 c5;obtain ⟨e0,e1,e2,e3,e4,e5⟩:=qw (HB.out.below hb HB.out.lt);dsimp only at e0 e1 e2 e3 e4 e5
  go_wp2_with (go_at_call 49;refine (btw_ _ _ _ _).mono ?_;rintro e wy ⟨rfl,rfl⟩)
  go_ret;exact ⟨by rw [HE.out];rfl,hb⟩
 | true =>
  rw [z1] at HE
  go_enter func51,ntmps51
  go_upto_region 1 with fail
  refine qa (ChgBox X0 ⟨1,row,col,count,til,g⟩ Ag cap) (ChgBox.new X0 ⟨1,row,col,count,til,g⟩ Ag cap _) ?_;rintro X ⟨c0,c1,c2,c3,c4,c5,hb,hzX⟩;dsimp only at c0 c1 c2 c3 c4 c5;obtain ⟨e0,e1,e2,e3,e4,e5⟩:=qw (HB.out.below hb HB.out.lt);dsimp only at e0 e1 e2 e3 e4 e5
  go_wp2_with (go_at_call 49;refine (btw_ _ _ _ _).mono ?_;rintro e wy ⟨rfl,rfl⟩)
  go_ret;exact ⟨by rw [HE.out];rfl,hb⟩
theorem qhE (HB:Hid (Blk X0 G 75 (vwC ⟨W,Hh,rows,vr,vc,vis⟩ A rs.length cA))) (hh:Hh<=1000):Calls prog 51 #[.pointer (some ⟨G,0,none⟩),jH ⟨2,row,col,count,til,g⟩ Ag cap] X0 (qh (.bool (zh ⟨W,Hh,rows,vr,vc,vis⟩ ⟨2,row,col,count,til,g⟩)) X0):=by
 by_cases a1:0<=row
 ·have b1:decide (0<=row)=true:=Ll a1
  by_cases a2:row<til
  ·have b2:decide (row<til)=true:=Ll a2
   by_cases a3:til<=Hh
   ·have b3:decide (til<=Hh)=true:=Ll a3
    by_cases a4:count=0
    ·have b4:(count != 0)=false:=by simp [a4]
     have HE:Hid (zh ⟨W,Hh,rows,vr,vc,vis⟩ ⟨2,row,col,count,til,g⟩=false):=Lh (by simp [zh,a4]);clear a4
     go_enter func51,ntmps51
     go_upto_region 1 with fail
     refine qa (ChgBox X0 ⟨2,row,col,count,til,g⟩ Ag cap) (ChgBox.new X0 ⟨2,row,col,count,til,g⟩ Ag cap _) ?_;rintro X ⟨c0,c1,c2,c3,c4,c5,hb,hzX⟩;dsimp only at c0 c1 c2 c3 c4 c5;obtain ⟨e0,e1,e2,e3,e4,e5⟩:=qw (HB.out.below hb HB.out.lt);dsimp only at e0 e1 e2 e3 e4 e5;go_wp2
     go_quiet (fail)
     go_wp2;go_ret;exact ⟨by rw [HE.out];rfl,qf hb⟩
    ·have b4:(count != 0)=true:=Ln.2 a4;have w1:IntKind.i64.wrap (til-row)=til-row:=by rw [Lx];omega
     have w2:IntKind.i64.wrap (row-til)=row-til:=by rw [Lx];omega
     by_cases a5:count<til-row
     ·have b5:decide (count<til-row)=true:=Ll a5
      by_cases a6:row-til<count
      ·have b6:decide (row-til<count)=true:=Ll a6;have HE:Hid (zh ⟨W,Hh,rows,vr,vc,vis⟩ ⟨2,row,col,count,til,g⟩=true):=Lh (by rw [kk];exact Ll (by dsimp only;omega));clear a4 a5 a6
       go_enter func51,ntmps51
       go_upto_region 1 with fail
       refine qa (ChgBox X0 ⟨2,row,col,count,til,g⟩ Ag cap) (ChgBox.new X0 ⟨2,row,col,count,til,g⟩ Ag cap _) ?_;rintro X ⟨c0,c1,c2,c3,c4,c5,hb,hzX⟩;dsimp only at c0 c1 c2 c3 c4 c5;obtain ⟨e0,e1,e2,e3,e4,e5⟩:=qw (HB.out.below hb HB.out.lt);dsimp only at e0 e1 e2 e3 e4 e5;go_wp2
       go_quiet (fail)
       go_wp2;go_ret;exact ⟨by rw [HE.out];rfl,qf hb⟩
      ·have b6:decide (row-til<count)=false:=Lk a6;have HE:Hid (zh ⟨W,Hh,rows,vr,vc,vis⟩ ⟨2,row,col,count,til,g⟩=false):=Lh (by rw [kk];exact Lk (by dsimp only;omega));clear a4 a5 a6
       go_enter func51,ntmps51
       go_upto_region 1 with fail
       refine qa (ChgBox X0 ⟨2,row,col,count,til,g⟩ Ag cap) (ChgBox.new X0 ⟨2,row,col,count,til,g⟩ Ag cap _) ?_;rintro X ⟨c0,c1,c2,c3,c4,c5,hb,hzX⟩;dsimp only at c0 c1 c2 c3 c4 c5;obtain ⟨e0,e1,e2,e3,e4,e5⟩:=qw (HB.out.below hb HB.out.lt);dsimp only at e0 e1 e2 e3 e4 e5;go_wp2
       go_quiet (fail)
       go_wp2;go_ret;exact ⟨by rw [HE.out];rfl,qf hb⟩
     ·have b5:decide (count<til-row)=false:=Lk a5;have HE:Hid (zh ⟨W,Hh,rows,vr,vc,vis⟩ ⟨2,row,col,count,til,g⟩=false):=Lh (by rw [kk];exact Lk (by dsimp only;omega));clear a4 a5
      go_enter func51,ntmps51
      go_upto_region 1 with fail
      refine qa (ChgBox X0 ⟨2,row,col,count,til,g⟩ Ag cap) (ChgBox.new X0 ⟨2,row,col,count,til,g⟩ Ag cap _) ?_;rintro X ⟨c0,c1,c2,c3,c4,c5,hb,hzX⟩;dsimp only at c0 c1 c2 c3 c4 c5;obtain ⟨e0,e1,e2,e3,e4,e5⟩:=qw (HB.out.below hb HB.out.lt);dsimp only at e0 e1 e2 e3 e4 e5;go_wp2
      go_quiet (fail)
      go_wp2;go_ret;exact ⟨by rw [HE.out];rfl,qf hb⟩
   ·have b3:decide (til<=Hh)=false:=Lk a3;have HE:Hid (zh ⟨W,Hh,rows,vr,vc,vis⟩ ⟨2,row,col,count,til,g⟩=false):=Lh (by rw [kk];exact Lk (by dsimp only;omega));clear a3
    go_enter func51,ntmps51
    go_upto_region 1 with fail
    refine qa (ChgBox X0 ⟨2,row,col,count,til,g⟩ Ag cap) (ChgBox.new X0 ⟨2,row,col,count,til,g⟩ Ag cap _) ?_;rintro X ⟨c0,c1,c2,c3,c4,c5,hb,hzX⟩;dsimp only at c0 c1 c2 c3 c4 c5;obtain ⟨e0,e1,e2,e3,e4,e5⟩:=qw (HB.out.below hb HB.out.lt);dsimp only at e0 e1 e2 e3 e4 e5;go_wp2
    go_quiet (fail)
    go_wp2;go_ret;exact ⟨by rw [HE.out];rfl,qf hb⟩
  ·have b2:decide (row<til)=false:=Lk a2;have HE:Hid (zh ⟨W,Hh,rows,vr,vc,vis⟩ ⟨2,row,col,count,til,g⟩=false):=Lh (by rw [kk];exact Lk (by dsimp only;omega));clear a2
   go_enter func51,ntmps51
   go_upto_region 1 with fail
   refine qa (ChgBox X0 ⟨2,row,col,count,til,g⟩ Ag cap) (ChgBox.new X0 ⟨2,row,col,count,til,g⟩ Ag cap _) ?_;rintro X ⟨c0,c1,c2,c3,c4,c5,hb,hzX⟩;dsimp only at c0 c1 c2 c3 c4 c5;obtain ⟨e0,e1,e2,e3,e4,e5⟩:=qw (HB.out.below hb HB.out.lt);dsimp only at e0 e1 e2 e3 e4 e5;go_wp2
   go_quiet (fail)
   go_wp2;go_ret;exact ⟨by rw [HE.out];rfl,qf hb⟩
 ·have b1:decide (0<=row)=false:=Lk a1;have HE:Hid (zh ⟨W,Hh,rows,vr,vc,vis⟩ ⟨2,row,col,count,til,g⟩=false):=Lh (by rw [kk];exact Lk (by dsimp only;omega));clear a1
  go_enter func51,ntmps51
  go_upto_region 1 with fail
  refine qa (ChgBox X0 ⟨2,row,col,count,til,g⟩ Ag cap) (ChgBox.new X0 ⟨2,row,col,count,til,g⟩ Ag cap _) ?_;rintro X ⟨c0,c1,c2,c3,c4,c5,hb,hzX⟩;dsimp only at c0 c1 c2 c3 c4 c5;obtain ⟨e0,e1,e2,e3,e4,e5⟩:=qw (HB.out.below hb HB.out.lt);dsimp only at e0 e1 e2 e3 e4 e5;go_wp2
  go_quiet (fail)
  go_wp2;go_ret;exact ⟨by rw [HE.out];rfl,qf hb⟩
theorem qfv (HB:Hid (Blk X0 G 75 (vwC ⟨W,Hh,rows,vr,vc,vis⟩ A rs.length cA))) (qnQ:(rs.length:Int)=Hh) (hh:Hh<=1000) (hrows:rows=rls rs) (ho:X0.ownsRow base 38 1 (.slice A rs.length cA) rs.length (zQ rs)) (hrl : ∀ x∈rs,x.l.length<=1000000000):Calls prog 51 #[.pointer (some ⟨G,0,none⟩),jH ⟨3,row,col,count,til,g⟩ Ag cap] X0 (qh (.bool (zh ⟨W,Hh,rows,vr,vc,vis⟩ ⟨3,row,col,count,til,g⟩)) X0):=by
 have w1:IntKind.i64.wrap (Hh-1)=Hh-1:=by rw [Lx];omega
 cases z1:inB row 0 (Hh-1) with
 | false =>
  have HE:Hid (zh ⟨W,Hh,rows,vr,vc,vis⟩ ⟨3,row,col,count,til,g⟩=false):=Lh (by
   rw [qai];refine Lk fun h=>?_
   unfold inB at z1;rw [Ll h.1,Ll h.2.1] at z1
   cases z1)
  clear hrows ho hrl qnQ
  go_enter func51,ntmps51
  go_upto_region 1 with fail
  refine qa (ChgBox X0 ⟨3,row,col,count,til,g⟩ Ag cap) (ChgBox.new X0 ⟨3,row,col,count,til,g⟩ Ag cap _) ?_;rintro X ⟨c0,c1,c2,c3,c4,c5,hb,hzX⟩;dsimp only at c0 c1 c2 c3 c4 c5;obtain ⟨e0,e1,e2,e3,e4,e5⟩:=qw (HB.out.below hb HB.out.lt);dsimp only at e0 e1 e2 e3 e4 e5;go_wp2
  go_quiet ((go_at_call 49;exact Calls.quiet_of (qbX _ _ _ _)))
  go_wp2;go_ret;exact ⟨by rw [HE.out];rfl,qf hb⟩
 | true =>
  obtain ⟨r0,r1⟩:=qff z1
  cases z2:inB col 0 264 with
  | false =>
   have HE:Hid (zh ⟨W,Hh,rows,vr,vc,vis⟩ ⟨3,row,col,count,til,g⟩=false):=Lh (by
    rw [qai];refine Lk fun h=>?_
    unfold inB at z2;rw [Ll h.2.2.1,Ll h.2.2.2.1] at z2
    cases z2)
   clear hrows ho hrl qnQ
   go_enter func51,ntmps51
   go_upto_region 1 with fail
   refine qa (ChgBox X0 ⟨3,row,col,count,til,g⟩ Ag cap) (ChgBox.new X0 ⟨3,row,col,count,til,g⟩ Ag cap _) ?_;rintro X ⟨c0,c1,c2,c3,c4,c5,hb,hzX⟩;dsimp only at c0 c1 c2 c3 c4 c5;obtain ⟨e0,e1,e2,e3,e4,e5⟩:=qw (HB.out.below hb HB.out.lt);dsimp only at e0 e1 e2 e3 e4 e5;go_wp2
   go_quiet ((go_at_call 49;exact Calls.quiet_of (qbX _ _ _ _)))
   go_wp2;go_ret;exact ⟨by rw [HE.out];rfl,qf hb⟩
  | true =>
   obtain ⟨q0,q1⟩:=qff z2;obtain ⟨k,rfl⟩ : ∃ k:Nat,row=k:=⟨row.toNat,by omega⟩
   have hk:k<rs.length:=by omega
   obtain ⟨G1,cap1,hA,hG1,hG2⟩:=ho.form L0;obtain ⟨rfl,rfl⟩:A=some ⟨G1,0,none⟩/\cA=cap1:=by injection hA with h1 _ h2;exact ⟨h1,h2⟩
   have hcx:=ho.cellAt k L0;rw [yF hk] at hcx;have hL:=hrl _ (Lt hk);have hgd:rows.getD k []=rs[k].l:=by rw [hrows,qa4 hk]
   generalize rs[k]=x at *
   obtain ⟨l,Al,cl⟩:=x;dsimp only at *
   have w2:IntKind.i64.wrap ((l.length:Int)-col)=l.length-col:=by rw [Lx];omega
   obtain ⟨M,hM⟩ : ∃ M,max (0:Int) ((l.length:Int)-col)=M:=⟨_,rfl⟩
   have HE:Hid (zh ⟨W,Hh,rows,vr,vc,vis⟩ ⟨3,(k:Int),col,count,til,g⟩=inB count 0 M):=Lh (by
    rw [qai,Bool.eq_iff_iff,decide_eq_true_iff];simp only [Int.toNat_natCast,hgd];unfold inB;rw [Bool.and_eq_true,decide_eq_true_iff,decide_eq_true_iff]
    omega)
   have hki:(k:Int)<(rs.length:Int):=by omega
   clear hrows ho hrl qnQ hgd hA
   go_enter func51,ntmps51
   go_upto_region 1 with fail
   refine qa (ChgBox X0 ⟨3,(k:Int),col,count,til,g⟩ Ag cap) (ChgBox.new X0 ⟨3,(k:Int),col,count,til,g⟩ Ag cap _) ?_;rintro X ⟨c0,c1,c2,c3,c4,c5,hb,hzX⟩;dsimp only at c0 c1 c2 c3 c4 c5;obtain ⟨e0,e1,e2,e3,e4,e5⟩:=qw (HB.out.below hb HB.out.lt);dsimp only at e0 e1 e2 e3 e4 e5;have hcx2:=(hb.cell (p:=⟨G1,k,none⟩) hG2).trans hcx;go_wp2
   go_quiet ((go_at_call 49;exact Calls.quiet_of (qbX _ _ _ _)))
   go_upto_region 9 with fail
   refine qa (fun Y=>Below X.heap.size X Y) (qf (Le _ _)) ?_;intro Y hY;have hGX:G<X.heap.size:=Ly HB.out.lt hb.size;have f1:=(hY.cell (p:=⟨X0.heap.size,1,none⟩) hzX).trans c1;have f2:=(hY.cell (p:=⟨X0.heap.size,2,none⟩) hzX).trans c2;have f3:=(hY.cell (p:=⟨X0.heap.size,3,none⟩) hzX).trans c3;have h2:=(hY.cell (p:=⟨G,2,none⟩) hGX).trans e2;have hcx3:=(hY.cell (p:=⟨G1,k,none⟩) (Ly hG2 hb.size)).trans hcx2;have hbY:=hb.trans (hY.mono hb.size);clear c0 c1 c2 c3 c4 c5 e0 e1 e2 e3 e4 e5 hcx hcx2 hY HB;go_wp2
   go_quiet ((go_at_call 49;exact Calls.quiet_of (qbX _ _ _ _)))
   go_wp2;go_ret;exact ⟨by rw [HE.out];rfl,qf hbY⟩
end
section
variable {base G : Nat} {W Hh : Int} {rows : List (List Gl)} {vr vc : Int} {vis : Bool} {rs : List RowM} {A : Option Addr} {cA : Nat} {X0 : World} {row col count til : Int} {g : List Gl} {Ag : Option Addr} {cap : Nat}
theorem qgS (HB:Hid (Blk X0 G 75 (vwC ⟨W,Hh,rows,vr,vc,vis⟩ A rs.length cA))) (hh0:0<=Hh) (hh:Hh<=1000) (hw0:0<=W) (hw:W<=1000):Calls prog 51 #[.pointer (some ⟨G,0,none⟩),jH ⟨4,row,col,count,til,g⟩ Ag cap] X0 (qh (.bool (zh ⟨W,Hh,rows,vr,vc,vis⟩ ⟨4,row,col,count,til,g⟩)) X0):=by
 have w1:IntKind.i64.wrap (Hh-1)=Hh-1:=by rw [Lx];omega
 have w2:IntKind.i64.wrap (W-1)=W-1:=by rw [Lx];omega
 have HE:=Lh (qg6 (v:=⟨W,Hh,rows,vr,vc,vis⟩) (row:=row) (col:=col) (count:=count) (til:=til) (g:=g));dsimp only at HE;have H1:=Lh (qbX row 0 (Hh-1));have H2:=Lh (qbX col 0 (W-1))
 cases z1:inB row 0 (Hh-1) with
 | false =>
  have HE2:Hid (zh ⟨W,Hh,rows,vr,vc,vis⟩ ⟨4,row,col,count,til,g⟩=false):=Lh (by rw [HE.out,z1];rfl);rw [z1] at H1;clear HE z1
  go_enter func51,ntmps51
  go_upto_region 1 with fail
  refine qa (ChgBox X0 ⟨4,row,col,count,til,g⟩ Ag cap) (ChgBox.new X0 ⟨4,row,col,count,til,g⟩ Ag cap _) ?_;rintro X ⟨c0,c1,c2,c3,c4,c5,hb,hzX⟩;dsimp only at c0 c1 c2 c3 c4 c5;obtain ⟨e0,e1,e2,e3,e4,e5⟩:=qw (HB.out.below hb HB.out.lt);dsimp only at e0 e1 e2 e3 e4 e5
  go_upto_region 10 with fail
  go_quiet ((first | (go_at_call_of 49 (Value.int .i64 row);exact Calls.quiet_of (H1.out _)) | (go_at_call_of 49 (Value.int .i64 col);exact Calls.quiet_of (H2.out _)) | (go_at_call 49;exact Calls.quiet_of (qbX _ _ _ _))))
  go_wp2;go_ret;exact ⟨by rw [HE2.out];rfl,qf hb⟩
 | true =>
  cases z2:inB col 0 (W-1) with
  | false =>
   have HE2:Hid (zh ⟨W,Hh,rows,vr,vc,vis⟩ ⟨4,row,col,count,til,g⟩=false):=Lh (by rw [HE.out,z1,z2];rfl);rw [z1] at H1;rw [z2] at H2;clear HE z1 z2
   go_enter func51,ntmps51
   go_upto_region 1 with fail
   refine qa (ChgBox X0 ⟨4,row,col,count,til,g⟩ Ag cap) (ChgBox.new X0 ⟨4,row,col,count,til,g⟩ Ag cap _) ?_;rintro X ⟨c0,c1,c2,c3,c4,c5,hb,hzX⟩;dsimp only at c0 c1 c2 c3 c4 c5;obtain ⟨e0,e1,e2,e3,e4,e5⟩:=qw (HB.out.below hb HB.out.lt);dsimp only at e0 e1 e2 e3 e4 e5
   go_upto_region 10 with fail
   go_quiet ((first | (go_at_call_of 49 (Value.int .i64 row);exact Calls.quiet_of (H1.out _)) | (go_at_call_of 49 (Value.int .i64 col);exact Calls.quiet_of (H2.out _)) | (go_at_call 49;exact Calls.quiet_of (qbX _ _ _ _))))
   go_wp2;go_ret;exact ⟨by rw [HE2.out];rfl,qf hb⟩
  | true =>
   have HE2:Hid (zh ⟨W,Hh,rows,vr,vc,vis⟩ ⟨4,row,col,count,til,g⟩=inB count 0 1):=Lh (by rw [HE.out,z1,z2];rfl);rw [z1] at H1;rw [z2] at H2;clear HE z1 z2
   go_enter func51,ntmps51
   go_upto_region 1 with fail
   refine qa (ChgBox X0 ⟨4,row,col,count,til,g⟩ Ag cap) (ChgBox.new X0 ⟨4,row,col,count,til,g⟩ Ag cap _) ?_;rintro X ⟨c0,c1,c2,c3,c4,c5,hb,hzX⟩;dsimp only at c0 c1 c2 c3 c4 c5;obtain ⟨e0,e1,e2,e3,e4,e5⟩:=qw (HB.out.below hb HB.out.lt);dsimp only at e0 e1 e2 e3 e4 e5
   go_upto_region 10 with fail
   go_quiet ((first | (go_at_call_of 49 (Value.int .i64 row);exact Calls.quiet_of (H1.out _)) | (go_at_call_of 49 (Value.int .i64 col);exact Calls.quiet_of (H2.out _)) | (go_at_call 49;exact Calls.quiet_of (qbX _ _ _ _))))
   go_wp2;go_ret;exact ⟨by rw [HE2.out];rfl,qf hb⟩
end
theorem cranges_ {base G:Nat} {v:Vw} {rs:List RowM} {A:Option Addr} {cA:Nat} {X0:World} (h:ED base G v rs A cA X0) (qnQ:(rs.length:Int)=v.height) (hh:v.height<=1000) (hw0:0<=v.width) (hw:v.width<=1000) (hrl : ∀ x∈rs,x.l.length<=1000000000)
  (c:Chg) (Ag:Option Addr) (cap:Nat) (hk:1<=c.kind/\c.kind<=4):Calls prog 51 #[.pointer (some ⟨G,0,none⟩),jH c Ag cap] X0 (qh (.bool (zh v c)) X0):=by
 obtain ⟨W,Hh,rows,vr,vc,vis⟩:=v;obtain ⟨kind,row,col,count,til,g⟩:=c;dsimp only at qnQ hh hw0 hw hk;have hk4:kind=1∨kind=2∨kind=3∨kind=4:=by omega
 rcases hk4 with rfl | rfl | rfl | rfl
 ·exact qhN (Lh h.blk)
 ·exact qhE (Lh h.blk) hh
 ·exact qfv (Lh h.blk) qnQ hh h.eq h.rows hrl
 ·exact qgS (Lh h.blk) L0 hh hw0 hw
theorem ccheck_ {base G B:Nat} {v:Vw} {rs:List RowM} {A:Option Addr} {cA:Nat} {X0:World} (h:ED base G v rs A cA X0) (qnQ:(rs.length:Int)=v.height) (hh:v.height<=1000) (hw0:0<=v.width) (hw:v.width<=1000) (hrl : ∀ x∈rs,x.l.length<=1000000000)
  (c:Chg) (Ag:Option Addr) (cap:Nat) (hB:B<=X0.heap.size) (rd:Rd X0 B 3 Ag c.glyphs.length (qi c.glyphs)) (hgl:c.glyphs.length<=1000000000) (hgz : ∀ x∈c.glyphs,x.text.size<=1000000000) (hu:U8 X0) :
  Calls prog 30 #[.pointer (some ⟨G,0,none⟩),jH c Ag cap] X0 (qh (.int .i64 (qan v c)) X0):=by
 have HBl:Hid (∀ w,_):=Lh (cblank_ c Ag cap);have HI:Hid (∀ w,_):=Lh (btw_ c.kind 1 4);have HR:Hid (1<=c.kind/\c.kind<=4->∀ w',Below X0.heap.size X0 w'->Calls prog 51 #[.pointer (some ⟨G,0,none⟩),jH c Ag cap] w' (qh (.bool (zh v c)) w')):=Lh fun hk w' hb=>cranges_ (h.below hb) qnQ hh hw0 hw hrl c Ag cap hk
 have HP:Hid (∀ x∈c.glyphs,∀ w',Below X0.heap.size X0 w'->Calls prog 52 #[glV x] w' (qh (.int .i64 (qJ x)) w')):=Lh fun x hx w' hb=>(qcG x (hgz x hx) w' (hu.below hb)).2
 have HRd:Hid (∀ w',Below X0.heap.size X0 w'->Rd w' X0.heap.size 3 Ag c.glyphs.length (qi c.glyphs)):=Lh fun w' hb=>(rd.more hB).below hb
 unfold qan;clear h qnQ hh hw0 hw hrl rd hgz hu
 by_cases hk:c.kind<1∨4<c.kind
 ·rw [if_pos hk];have e:inB c.kind 1 4=false:=by
   unfold inB
   rcases hk with h | h
   ·rw [Lk L0];rfl
   ·rw [Lk (show ¬ c.kind<=4 by omega),Bool.and_false]
  rw [e] at HI;clear hk e HBl HR HP HRd;obtain ⟨kind,row,col,count,til,g⟩:=c;dsimp only at *
  go_enter func30,ntmps30
  go_upto_region 1 with fail
  refine qa (ChgBox X0 ⟨kind,row,col,count,til,g⟩ Ag cap) (ChgBox.new X0 ⟨kind,row,col,count,til,g⟩ Ag cap _) ?_;intro X hX;obtain ⟨c0,c1,c2,c3,c4,c5,hb,hzX⟩:=id hX;dsimp only at c0 c1 c2 c3 c4 c5
  go_wp2_with (go_at_call 49;refine (HI.out _).mono ?_;rintro e wy ⟨rfl,rfl⟩)
  go_ret;exact ⟨rfl,hb⟩
 ·rw [if_neg hk];have HR2:=Lh (HR.out L0);have e:inB c.kind 1 4=true:=by unfold inB;rw [Ll L0,Ll L0];rfl
  rw [e] at HI;clear hk e HR
  by_cases hbl:zS c=false
  ·rw [if_pos hbl];rw [hbl] at HBl;clear hbl HR2 HP HRd;obtain ⟨kind,row,col,count,til,g⟩:=c;dsimp only at *
   go_enter func30,ntmps30
   go_upto_region 1 with fail
   refine qa (ChgBox X0 ⟨kind,row,col,count,til,g⟩ Ag cap) (ChgBox.new X0 ⟨kind,row,col,count,til,g⟩ Ag cap _) ?_;intro X hX;obtain ⟨c0,c1,c2,c3,c4,c5,hb,hzX⟩:=id hX;dsimp only at c0 c1 c2 c3 c4 c5
   go_wp2_with (first | (go_at_call 49;refine (HI.out _).mono ?_;rintro e wy ⟨rfl,rfl⟩) | (go_at_call 50;refine (HBl.out _).mono ?_;rintro e w1 ⟨rfl,hb1⟩))
   go_ret;exact ⟨rfl,hb.trans (hb1.mono L0)⟩
  ·rw [if_neg hbl];have hbl:zS c=true:=by simpa using hbl
   rw [hbl] at HBl;clear hbl;generalize zh v c=RC at *
   obtain ⟨kind,row,col,count,til,g⟩:=c;dsimp only at *
   go_enter func30,ntmps30
   go_upto_region 1 with fail
   refine qa (ChgBox X0 ⟨kind,row,col,count,til,g⟩ Ag cap) (ChgBox.new X0 ⟨kind,row,col,count,til,g⟩ Ag cap _) ?_;intro X hX;obtain ⟨c0,c1,c2,c3,c4,c5,hb,hzX⟩:=id hX;dsimp only at c0 c1 c2 c3 c4 c5
   go_upto_region 5 with (first | (go_at_call 49;refine (HI.out _).mono ?_;rintro e wy ⟨rfl,rfl⟩) | (go_at_call 50;refine (HBl.out _).mono ?_;rintro e w1 ⟨rfl,hb1⟩))
   have hX1:=hX.on hb1;obtain ⟨d0,d1,d2,d3,d4,d5,hbd,hzd⟩:=id hX1;dsimp only at d0 d1 d2 d3 d4 d5;clear c0 c1 c2 c3 c4 c5
   cases RC with
   | false =>
    rw [if_pos rfl]
    go_wp2_with (go_at_call 51;refine (HR2.out _ hbd).mono ?_;rintro e w2 ⟨rfl,hb2⟩)
    go_ret;exact ⟨rfl,hbd.trans (hb2.mono L0)⟩
   | true =>
    rw [if_neg L1];have H0:Hid (yK g=yK (g.drop 0)):=Lh rfl;generalize yK g=R at *
    go_upto_region 7 with (go_at_call 51;refine (HR2.out _ hbd).mono ?_;rintro e w2 ⟨rfl,hb2⟩)
    have hX2:=hX1.on hb2;obtain ⟨c0,c1,c2,c3,c4,c5,hbc,hzc⟩:=id hX2;dsimp only at c0 c1 c2 c3 c4 c5;clear d0 d1 d2 d3 d4 d5 hX1 hX hb1 hb2 hbd hb HR2 HBl HI;go_wp2
    go_loopw [25] (fun y wr=>∃ j:Nat,j<=g.length/\y = .int .i64 j/\Below X0.heap.size X0 wr/\Hid (R=yK (g.drop j))) (fun y _=>g.length-(intOf y).toNat)
    case atStart=>exact ⟨0,Nat.zero_le _,rfl,hbc,H0⟩
    case round =>
     clear c0 c1 c2 c3 c4 c5 hX2 H0 hbc;obtain ⟨j,hj,rfl,hb,HJ⟩:=hrel;have hzb:=hb.size
     by_cases hlt:j<g.length
     ·obtain ⟨b',o',rfl,hbB',g0,g1,g2⟩:=jE (HRd.out _ hb) hlt rfl;have HPj:=Lh (HP.out _ (Lt hlt));have HJ2:=HJ.out;rw [qdN hlt] at HJ2;generalize g[j]=q at *
      by_cases h0:qJ q=0
      ·rw [if_neg (show ¬ qJ q≠0 by simp [h0])] at HJ2;replace HJ2:=Lh HJ2;rw [h0] at HPj;clear h0 HJ;obtain ⟨t,wd,st⟩:=q;dsimp only at *
       go_wp2_with (go_at_call 52;refine (HPj.out _ (hb.alloc hzb _)).mono ?_;rintro e w1 ⟨rfl,hb1⟩)
       exact ⟨⟨j+1,by omega,by go_num,(hb.alloc hzb _).trans (hb1.mono (by simp;omega)),HJ2⟩,by simp [intOf];omega⟩
      ·rw [if_pos (show qJ q≠0 from h0)] at HJ2;replace HJ2:=Lh HJ2;have hn0:(qJ q != 0)=true:=Ln.2 h0;clear h0 HJ;generalize hq:qJ q=K at *
       clear hq;obtain ⟨t,wd,st⟩:=q;dsimp only at *
       go_wp2_with (go_at_call 52;refine (HPj.out _ (hb.alloc hzb _)).mono ?_;rintro e w1 ⟨rfl,hb1⟩)
       go_ret;exact ⟨by rw [HJ2.out];rfl,(hb.alloc hzb _).trans (hb1.mono (by simp;omega))⟩
     ·obtain rfl:j=g.length:=by omega
      have HJ2:Hid (R=0):=Lh (by rw [HJ.out,Lv (Ld _)];rfl);clear HJ;go_wp2;go_ret;exact ⟨by rw [HJ2.out];rfl,hb⟩
structure RB (X0:World) (A:Option Addr) (c:Nat) (rs:List RowM) (X:World):Prop where
 out:X.ownsRow X0.heap.size 38 1 (.slice A rs.length c) rs.length (zQ rs)
 gl : ∀ x∈rs,X.ownsRow X0.heap.size 61 3 (.slice x.A x.l.length x.cap) x.l.length (qi x.l)
 dj:(obS A::rs.map fun x=>obS x.A).Pairwise Dj
 bel:Below X0.heap.size X0 X
theorem RB.nil (X0:World):RB X0 none 0 [] X0:=⟨zY _ _ _ _,fun x hx=>(by cases hx),List.pairwise_singleton _ _,Le _ _⟩
section
variable {X0 X w1 w2 : World} {A : Option Addr} {c : Nat} {rs : List RowM}
theorem RB.below (h:RB X0 A c rs X) (hb:Below X.heap.size X w1):RB X0 A c rs w1 :=
 ⟨qb h.out hb,fun x hx=>qb (h.gl x hx) hb,h.dj,h.bel.trans (hb.mono h.bel.size)⟩
theorem RB.next {A1 A2:Option Addr} {c1 c2 n m:Nat} {l:List Gl} {o:Obj} (h:RB X0 A c rs X) (hb1:Below X.heap.size X w1) (o1:w1.ownsRow X.heap.size 61 3 (.slice A1 l.length c1) l.length (qi l))
  (hn:n=rs.length+1) (qny:w2.ownsRow X0.heap.size 38 1 (.slice A2 n c2) n (zQ rs++[.slice A1 l.length c1])) (qmw:Below X0.heap.size (w1.alloc o) w2)
  (qnC:(w1.alloc o).grownBy w2 (Value.slice A m c).ownBlock) (qnD:(Value.slice A2 n c2).ownBlock=(Value.slice A m c).ownBlock∨(Value.slice A2 n c2).ownBlock=some (w1.alloc o).heap.size):RB X0 A2 c2 (rs++[⟨l,A1,c1⟩]) w2:=by
 subst hn;have hz:=h.bel.size;have hz1:=hb1.size;obtain ⟨hd1,hd2⟩:=List.pairwise_cons.1 h.dj;have hsz:(w1.alloc o).heap.size=w1.heap.size+1:=by simp
 rw [qC,qC,hsz] at qnD;rw [qC] at qnC;have hA : ∀ k,obS A=some k->k<X.heap.size:=fun k hk=>(vB h.out k hk).2
 have hA1 : ∀ k,obS A1=some k->X.heap.size<=k/\k<w1.heap.size:=vB o1;have hold : ∀ x∈rs,∀ k,obS x.A=some k->k<X.heap.size:=fun x hx k hk=>(vB (h.gl x hx) k hk).2
 have hk : ∀ (b:Option Nat),Dj (obS A) b->b=none∨b≠obS A:=fun b hb=>hb.symm.ne
 have hdA1:Dj (obS A) (obS A1):=Dj.fresh hA fun k hk=>(hA1 k hk).1
 refine ⟨by rw [Lf,qeN];exact qny,fun x hx=>?_,?_,(h.bel.trans ((hb1.mono hz).alloc L0 _)).trans qmw⟩
 ·rcases List.mem_append.1 hx with hx | hx
  ·refine ((qb (h.gl x hx) hb1).alloc _).kept qnC ?_;rw [qC];exact hk _ (hd1 _ (List.mem_map_of_mem (f:=fun x=>obS x.A) hx))
  ·obtain rfl:=List.mem_singleton.1 hx;refine (qt (o1.alloc _) hz).kept qnC ?_;rw [qC];exact hk _ hdA1
 ·rw [List.map_append,<- List.cons_append];have hnew : ∀ b,Dj (obS A) b->(∀ k,b=some k->k<w1.heap.size+1)->Dj (obS A2) b:=fun b hb hl=>(Dj.new hb.symm qnD hl).symm
  refine qeX (List.pairwise_cons.2 ⟨fun y hy=>?_,hd2⟩) fun y hy=>?_
  ·obtain ⟨x,hx,rfl⟩:=List.mem_map.1 hy;exact hnew _ (hd1 _ hy) fun k hk=>by have:=hold x hx k hk;omega
  ·rcases List.mem_cons.1 hy with rfl | hy
   ·exact hnew _ hdA1 fun k hk=>by have:=(hA1 k hk).2;omega
   ·obtain ⟨x,hx,rfl⟩:=List.mem_map.1 hy;exact Dj.fresh (hold x hx) fun k hk=>(hA1 k hk).1
end
theorem qjn (n:Nat) (top til by_:Int) (w:World) (hn:n<=1000) (h1:0<=top) (h2:top<til) (h3:til<=n) (h4:by_≠0) (h5:by_<til-top) (h6:top-til<by_):Calls prog 98 #[.int .i64 n,.int .i64 top,.int .i64 til,.int .i64 by_] w fun e w'=>e = .returned (.bool true)/\w=w':=by
 have b4:(by_ != 0)=true:=Ln.2 h4;have w1:IntKind.i64.wrap (til-top)=til-top:=by rw [Lx];omega
 have w2:IntKind.i64.wrap (top-til)=top-til:=by rw [Lx];omega
 clear h4
 go_enter func98,ntmps98
 go_wp2;go_ret;exact ⟨rfl,rfl⟩
def qaI:RowM:=⟨[],none,0⟩
def srcR (rs:List RowM) (top til by_:Int) (i:Nat):RowM :=
 if top<=(i:Int)/\(i:Int)<til then (if top<=(i:Int)+by_/\(i:Int)+by_<til then rs.getD ((i:Int)+by_).toNat qaI else qaI) else rs.getD i qaI
theorem qfX (rs:List RowM) (k:Nat):(rs.getD k qaI).l=(rls rs).getD k []:=by
 rw [List.getD_eq_getElem?_getD,List.getD_eq_getElem?_getD,rls,List.getElem?_map]
 cases rs[k]? <;> rfl
theorem src_roll (rs:List RowM) (top til by_:Int) (i:Nat):(srcR rs top til by_ i).l=kP (rls rs) top til by_ i:=by
 unfold srcR kP
 split
 ·split
  ·exact qfX _ _
  ·rfl
 ·exact qfX _ _
theorem qf9 (rs:List RowM) (k:Nat):rs.getD k qaI=qaI∨rs.getD k qaI∈rs:=by
 rw [List.getD_eq_getElem?_getD]
 cases h:rs[k]? with
 | none=>exact .inl rfl
 | some x=>exact .inr (List.mem_of_getElem? h)
theorem src_mem (rs:List RowM) (top til by_:Int) (i:Nat):srcR rs top til by_ i=qaI∨srcR rs top til by_ i∈rs:=by
 unfold srcR
 split
 ·split
  ·exact qf9 _ _
  ·exact .inl rfl
 ·exact qf9 _ _
theorem crows_ (rs:List RowM) (A:Option Addr) (n c B:Nat) (top til by_:Int) (X0:World) (rd:RdRs X0 B A n rs) (hB:B<=X0.heap.size) (hn:n<=1000) (hrl : ∀ x∈rs,x.l.length<=1000000000) (h1:0<=top) (h2:top<til) (h3:til<=n) (h4:by_≠0) (h5:by_<til-top) (h6:top-til<by_) :
  Calls prog 80 #[.slice A n c,.int .i64 top,.int .i64 til,.int .i64 by_] X0 fun e w'=>∃ A' c' rs',e = .returned (.tuple #[.slice A' n c',.int .i64 0])/\rs'.length=n/\RB X0 A' c' rs' w'/\rls rs'=(List.range n).map (kP (rls rs) top til by_):=by
 have HN:=Lh rd.len;have HP:Hid (∀ w,_):=Lh fun w=>qjn n top til by_ w hn h1 h2 h3 h4 h5 h6
 have HA:Hid (∀ k (hk:k<rs.length) w',Below X0.heap.size X0 w'->∃ b o,A=some ⟨b,o,none⟩/\b<X0.heap.size/\w'.cell? ⟨b,o+k,none⟩=some (.slice rs[k].A rs[k].l.length rs[k].cap)):=Lh fun k hk w' hb=>((rd.more hB).below hb).at_ hk
 have HC:Hid (∀ x,x=qaI∨x∈rs->∀ w',Below X0.heap.size X0 w'->Calls prog 48 #[.slice x.A x.l.length x.cap] w' fun e w''=>∃ A1 c1,e = .returned (.slice A1 x.l.length c1)/\w''.ownsRow w'.heap.size 61 3 (.slice A1 x.l.length c1) x.l.length (qi x.l)/\Below w'.heap.size w' w''):=Lh fun x hx w' hb=>by
  rcases hx with rfl | hx
  ·exact qcd [] none 0 0 0 w' L0 Rd.none_ (Nat.zero_le _)
  ·exact qcd x.l x.A _ x.cap X0.heap.size w' (hrl x hx) (((rd.gl x hx).1.more hB).below hb) hb.size
 clear rd hrl h4
 go_enter func80,ntmps80
 go_wp2_with (go_at_call 98;refine (HP.out _).mono ?_;rintro e w1 ⟨rfl,rfl⟩)
 go_loopw [10,23] (fun v x wr=>∃ (k:Nat) (rs':List RowM) (A':Option Addr) (c':Nat),k<=n/\rs'.length=k/\x = .int .i64 k/\v = .slice A' k c'/\RB X0 A' c' rs' wr/\rls rs'=(List.range k).map (kP (rls rs) top til by_)) (fun _ x _=>n-(intOf x).toNat)
 case atStart=>exact ⟨0,[],none,0,Nat.zero_le _,rfl,rfl,rfl,RB.nil X0,rfl⟩
 case round =>
  obtain ⟨k,rs',A',c',hk,hk2,rfl,rfl,hr,hrr⟩:=hrel;have hb:=hr.bel
  by_cases hlt:k<n
  ·have hkl:k<rs.length:=by have:=HN.out;omega
   obtain ⟨b,o,hA,hbB,hc⟩:=HA.out k hkl _ hb;have HN2:Hid (∀ (A1:Option Addr) (d1:Nat),rls (rs'++[⟨(srcR rs top til by_ k).l,A1,d1⟩])=(List.range (k+1)).map (kP (rls rs) top til by_)):=Lh fun A1 d1=>by
    have hrr':=hrr;unfold rls at hrr' ⊢;rw [List.map_append,hrr',List.range_succ,List.map_append,List.map_cons,List.map_nil,List.map_cons,List.map_nil,src_roll]
    rfl
   have HCx:=Lh (HC.out _ (src_mem rs top til by_ k));obtain ⟨x,hx⟩ : ∃ x,srcR rs top til by_ k=x:=⟨_,rfl⟩
   rw [hx] at HCx HN2;unfold srcR at hx;have q1:0<=(k:Int):=by omega
   have hA':=hA;subst hA'
   by_cases a1:top<=(k:Int)
   ·by_cases a2:(k:Int)<til
    ·rw [if_pos ⟨a1,a2⟩] at hx
     by_cases a3:top<=(k:Int)+by_
     ·by_cases a4:(k:Int)+by_<til
      ·rw [if_pos ⟨a3,a4⟩] at hx;obtain ⟨j,hj⟩ : ∃ j:Nat,(k:Int)+by_=j:=⟨((k:Int)+by_).toNat,by omega⟩
       have hjl:j<rs.length:=by have:=HN.out;omega
       obtain ⟨b',o',hA2,_,hc2⟩:=HA.out j hjl _ hb;rw [hj,Int.toNat_natCast,List.getD_eq_getElem?_getD,List.getElem?_eq_getElem hjl,Option.getD_some] at hx;rw [hx] at hc2;obtain ⟨rfl,rfl⟩:b=b'/\o=o':=by injection hA2 with e;injection e with e1 e2;exact ⟨e1,e2⟩
       have hw:IntKind.i64.wrap ((k:Int)+by_)=(j:Int):=by rw [<- hj,Lx];omega
       rw [hj] at a3 a4;have hjn:(j:Int)<n:=by omega
       clear hx HP HA HC hA hA2 hj
       go_wp2_with (first
        | (go_at_call 48;refine (HCx.out _ hb).mono ?_;rintro e w1 ⟨A1,d1,rfl,o1,b1⟩;have hr1:=hr.below b1;have z1:=hr1.bel.size;have ho1:=hr1.out;rw [hk2] at ho1)
        | (at_builtin;go_must (refine qg rfl _ _ _ rfl elt_row (X0.heap.size) _ rfl (ho1.alloc _) _ _ rfl (qe (xs:=[.slice A1 x.l.length d1]) (by rfl) rfl) ?_);intro A4 c4 w4 qmC qmy qmG qmI))
       exact ⟨⟨k+1,rs'++[⟨x.l,A1,d1⟩],A4,c4,by omega,by rw [Lf,hk2];rfl,by go_num,rfl,hr.next b1 o1 (by rw [hk2]) qmC qmy qmG qmI,HN2.out _ _⟩,by simp [intOf];omega⟩
      ·rw [if_neg (fun h=>a4 h.2)] at hx;subst hx;have hw:IntKind.i64.wrap ((k:Int)+by_)=(k:Int)+by_:=by rw [Lx];omega
       have HCx:Hid (∀ w',Below X0.heap.size X0 w'->Calls prog 48 #[.slice none 0 0] w' fun e w''=>∃ A1 c1,e = .returned (.slice A1 ([]:List Gl).length c1)/\w''.ownsRow w'.heap.size 61 3 (.slice A1 ([]:List Gl).length c1) ([]:List Gl).length (qi [])/\Below w'.heap.size w' w''):=HCx;have HN2:Hid (∀ (A1:Option Addr) (d1:Nat),rls (rs'++[⟨[],A1,d1⟩])=(List.range (k+1)).map (kP (rls rs) top til by_)):=HN2;obtain ⟨x,hx⟩ : ∃ x:RowM,x=qaI:=⟨_,rfl⟩
       have hxl:([]:List Gl)=x.l:=by rw [hx];rfl
       rw [hxl] at HCx HN2;clear hxl hx HP HA HC hA
       go_wp2_with (first
        | (go_at_call 48;refine (HCx.out _ hb).mono ?_;rintro e w1 ⟨A1,d1,rfl,o1,b1⟩;have hr1:=hr.below b1;have z1:=hr1.bel.size;have ho1:=hr1.out;rw [hk2] at ho1)
        | (at_builtin;go_must (refine qg rfl _ _ _ rfl elt_row (X0.heap.size) _ rfl (ho1.alloc _) _ _ rfl (qe (xs:=[.slice A1 x.l.length d1]) (by rfl) rfl) ?_);intro A4 c4 w4 qmC qmy qmG qmI))
       exact ⟨⟨k+1,rs'++[⟨x.l,A1,d1⟩],A4,c4,by omega,by rw [Lf,hk2];rfl,by go_num,rfl,hr.next b1 o1 (by rw [hk2]) qmC qmy qmG qmI,HN2.out _ _⟩,by simp [intOf];omega⟩
     ·rw [if_neg (fun h=>a3 h.1)] at hx;subst hx;have hw:IntKind.i64.wrap ((k:Int)+by_)=(k:Int)+by_:=by rw [Lx];omega
      have HCx:Hid (∀ w',Below X0.heap.size X0 w'->Calls prog 48 #[.slice none 0 0] w' fun e w''=>∃ A1 c1,e = .returned (.slice A1 ([]:List Gl).length c1)/\w''.ownsRow w'.heap.size 61 3 (.slice A1 ([]:List Gl).length c1) ([]:List Gl).length (qi [])/\Below w'.heap.size w' w''):=HCx;have HN2:Hid (∀ (A1:Option Addr) (d1:Nat),rls (rs'++[⟨[],A1,d1⟩])=(List.range (k+1)).map (kP (rls rs) top til by_)):=HN2;obtain ⟨x,hx⟩ : ∃ x:RowM,x=qaI:=⟨_,rfl⟩
      have hxl:([]:List Gl)=x.l:=by rw [hx];rfl
      rw [hxl] at HCx HN2;clear hxl hx HP HA HC hA
      go_wp2_with (first
       | (go_at_call 48;refine (HCx.out _ hb).mono ?_;rintro e w1 ⟨A1,d1,rfl,o1,b1⟩;have hr1:=hr.below b1;have z1:=hr1.bel.size;have ho1:=hr1.out;rw [hk2] at ho1)
       | (at_builtin;go_must (refine qg rfl _ _ _ rfl elt_row (X0.heap.size) _ rfl (ho1.alloc _) _ _ rfl (qe (xs:=[.slice A1 x.l.length d1]) (by rfl) rfl) ?_);intro A4 c4 w4 qmC qmy qmG qmI))
      exact ⟨⟨k+1,rs'++[⟨x.l,A1,d1⟩],A4,c4,by omega,by rw [Lf,hk2];rfl,by go_num,rfl,hr.next b1 o1 (by rw [hk2]) qmC qmy qmG qmI,HN2.out _ _⟩,by simp [intOf];omega⟩
    ·rw [if_neg (fun h=>a2 h.2)] at hx;rw [List.getD_eq_getElem?_getD,List.getElem?_eq_getElem hkl,Option.getD_some] at hx;rw [hx] at hc;clear hx HP HA HC hA
     go_wp2_with (first
      | (go_at_call 48;refine (HCx.out _ hb).mono ?_;rintro e w1 ⟨A1,d1,rfl,o1,b1⟩;have hr1:=hr.below b1;have z1:=hr1.bel.size;have ho1:=hr1.out;rw [hk2] at ho1)
      | (at_builtin;go_must (refine qg rfl _ _ _ rfl elt_row (X0.heap.size) _ rfl (ho1.alloc _) _ _ rfl (qe (xs:=[.slice A1 x.l.length d1]) (by rfl) rfl) ?_);intro A4 c4 w4 qmC qmy qmG qmI))
     exact ⟨⟨k+1,rs'++[⟨x.l,A1,d1⟩],A4,c4,by omega,by rw [Lf,hk2];rfl,by go_num,rfl,hr.next b1 o1 (by rw [hk2]) qmC qmy qmG qmI,HN2.out _ _⟩,by simp [intOf];omega⟩
   ·rw [if_neg (fun h=>a1 h.1)] at hx;rw [List.getD_eq_getElem?_getD,List.getElem?_eq_getElem hkl,Option.getD_some] at hx;rw [hx] at hc;clear hx HP HA HC hA
    go_wp2_with (first
     | (go_at_call 48;refine (HCx.out _ hb).mono ?_;rintro e w1 ⟨A1,d1,rfl,o1,b1⟩;have hr1:=hr.below b1;have z1:=hr1.bel.size;have ho1:=hr1.out;rw [hk2] at ho1)
     | (at_builtin;go_must (refine qg rfl _ _ _ rfl elt_row (X0.heap.size) _ rfl (ho1.alloc _) _ _ rfl (qe (xs:=[.slice A1 x.l.length d1]) (by rfl) rfl) ?_);intro A4 c4 w4 qmC qmy qmG qmI))
    exact ⟨⟨k+1,rs'++[⟨x.l,A1,d1⟩],A4,c4,by omega,by rw [Lf,hk2];rfl,by go_num,rfl,hr.next b1 o1 (by rw [hk2]) qmC qmy qmG qmI,HN2.out _ _⟩,by simp [intOf];omega⟩
  ·obtain rfl:k=n:=by omega
   go_wp2;go_ret2;exact ⟨A',c',rs',rfl,hk2,hr,hrr⟩
theorem ED.swap {base G c c':Nat} {v:Vw} {rs rs':List RowM} {A A':Option Addr} {X X':World} (h:ED base G v rs A c X) (hb:base<=X.heap.size) (hr:RB X A' c' rs' X') :
  ED base G ⟨v.width,v.height,rls rs',v.row,v.col,v.vis⟩ rs' A' c' (X'.setCell ⟨G,2,none⟩ (.slice A' rs'.length c')):=by
 have hG:=h.blk.lt;have hne : ∀ {A:Option Addr} {n c:Nat},(∀ k,obS A=some k->X.heap.size<=k)->(Value.slice A n c).ownBlock≠some G:=fun hA e=>by
  rw [qC] at e;have:=hA _ e
  omega
 refine ⟨(h.blk.below hr.bel hG).set_ 2 _,ownsRow_setCell_other (a:=⟨G,2,none⟩) (qt hr.out hb) (hne fun k hk=>(vB hr.out k hk).1) _,fun x hx=>ownsRow_setCell_other (a:=⟨G,2,none⟩) (qt (hr.gl x hx) hb) (hne fun k hk=>(vB (hr.gl x hx) k hk).1) _,rfl,h.lo,?_⟩;refine List.pairwise_cons.2 ⟨fun y hy=>Dj.fresh (N:=X.heap.size) (fun k hk=>by injection hk with hk;omega) ?_,hr.dj⟩
 rcases List.mem_cons.1 hy with rfl | hy
 ·exact fun k hk=>(vB hr.out k hk).1
 ·obtain ⟨x,hx,rfl⟩:=List.mem_map.1 hy;exact fun k hk=>(vB (hr.gl x hx) k hk).1
theorem ED.setg {base G c:Nat} {v v':Vw} {rs:List RowM} {A:Option Addr} {X:World} (h:ED base G v rs A c X) {i:Nat} {u:Value} (hv:(vwC v A rs.length c).setIfInBounds i u=vwC v' A rs.length c) (hr:v'.rows=v.rows):ED base G v' rs A c (X.setCell ⟨G,i,none⟩ u):=by
 obtain ⟨hd1,-⟩:=List.pairwise_cons.1 h.dj;have hne : ∀ {B:Option Addr} {n c:Nat},obS B∈(obS A::rs.map fun x=>obS x.A)->(Value.slice B n c).ownBlock≠some G:=fun hm e=>by
  rw [qC] at e;exact hd1 _ hm G rfl e
 exact ⟨by have:=h.blk.set_ i u;rw [hv] at this;exact this,ownsRow_setCell_other (a:=⟨G,i,none⟩) h.rows (hne L1) _,fun x hx=>ownsRow_setCell_other (a:=⟨G,i,none⟩) (h.gl x hx) (hne (List.mem_cons_of_mem _ (List.mem_map_of_mem (f:=fun x=>obS x.A) hx))) _,hr.trans h.eq,h.lo,h.dj⟩
def EdR (base G:Nat) (v:Vw) (X:World) (e:Ending) (w':World):Prop:=e = .returned (.tuple #[])/\(∃ rs A c,ED base G v rs A c w')/\Below base X w'
theorem cscroll_ {base G:Nat} {v:Vw} {rs:List RowM} {A:Option Addr} {cA:Nat} {X0:World} (h:ED base G v rs A cA X0) (qnR:base<=X0.heap.size) (qnQ:(rs.length:Int)=v.height) (hh:v.height<=1000) (hrl : ∀ x∈rs,x.l.length<=1000000000)
  (c:Chg) (Ag:Option Addr) (cap:Nat) (hk:c.kind=2) (hr:zh v c=true):Calls prog 54 #[.pointer (some ⟨G,0,none⟩),jH c Ag cap] X0 (EdR base G (jY v c) X0):=by
 obtain ⟨W,Hh,rows,vr,vc,vis⟩:=v;obtain ⟨kind,row,col,count,til,g⟩:=c;dsimp only at qnQ hh hk;subst hk;rw [kk] at hr;dsimp only at hr;obtain ⟨r1,r2,r3,r4,r5,r6⟩:=of_decide_eq_true hr;have hE:Hid (rows=rls rs):=Lh h.eq;have hS:Hid (∀ rs':List RowM,rls rs'=(List.range rs.length).map (kP (rls rs) row til count)->jY ⟨W,Hh,rows,vr,vc,vis⟩ ⟨2,row,col,count,til,g⟩=⟨W,Hh,rls rs',vr,vc,vis⟩):=Lh fun rs' h=>by
  rw [h,hE.out];unfold jY;rw [if_neg (show ¬ (2:Int)=1 by decide),if_pos (show (2:Int)=2 from rfl),vJ]
 have hED:=Lh h;have HR:Hid (∀ w',Below X0.heap.size X0 w'->Calls prog 80 #[.slice A rs.length cA,.int .i64 row,.int .i64 til,.int .i64 count] w' fun e w''=>∃ A' c' rs',e = .returned (.tuple #[.slice A' rs.length c',.int .i64 0])/\rs'.length=rs.length/\RB w' A' c' rs' w''/\rls rs'=(List.range rs.length).map (kP (rls rs) row til count)):=Lh fun w' hb =>
  crows_ rs A rs.length cA w'.heap.size row til count w' ⟨Rd.of_own (qb h.rows hb),fun x hx=>qe8 (qb (h.gl x hx) hb)⟩ (Ld _) L0 hrl r1 r2 L0 r4 r5 r6
 clear hr hE r4
 go_enter func54,ntmps54
 go_upto_region 1 with fail
 refine qa (ChgBox X0 ⟨2,row,col,count,til,g⟩ Ag cap) (ChgBox.new X0 ⟨2,row,col,count,til,g⟩ Ag cap _) ?_;rintro X ⟨c0,c1,c2,c3,c4,c5,hb,hzX⟩;dsimp only at c0 c1 c2 c3 c4 c5;have hGX:G<X.heap.size:=Ly h.blk.lt hb.size;obtain ⟨e0,e1,e2,e3,e4,e5⟩:=qw (h.blk.below hb h.blk.lt);have HCE:Hid (∀ w',Below X.heap.size X w'->w'.cell? ⟨G,2,none⟩=some (.slice A rs.length cA)/\w'.cell? ⟨X0.heap.size,1,none⟩=some (.int .i64 row)/\w'.cell? ⟨X0.heap.size,4,none⟩=some (.int .i64 til)/\w'.cell? ⟨X0.heap.size,3,none⟩=some (.int .i64 count)):=Lh fun w' hw =>
  ⟨(hw.cell (p:=⟨G,2,none⟩) hGX).trans e2,(hw.cell (p:=⟨X0.heap.size,1,none⟩) hzX).trans c1,(hw.cell (p:=⟨X0.heap.size,4,none⟩) hzX).trans c4,(hw.cell (p:=⟨X0.heap.size,3,none⟩) hzX).trans c3⟩
 clear c0 c2 c5 e0 e1 e3 e4 e5 h
 go_region_held3 (fun w'=>w'.cell? ⟨G,2,none⟩=some (.slice A rs.length cA)/\w'.cell? ⟨X0.heap.size,1,none⟩=some (.int .i64 row)/\w'.cell? ⟨X0.heap.size,4,none⟩=some (.int .i64 til)/\w'.cell? ⟨X0.heap.size,3,none⟩=some (.int .i64 count)) (first | (refine HCE.out _ ?_;assumption) | go_keep) (first
  | (go_at_call 80;refine (HR.out _ hb.drew).mono ?_;rintro e w1 ⟨A1,d1,rs1,rfl,hl1,hr1,hm1⟩;have hb1:Below X.heap.size X w1:=jI (B:=X.heap.size) hr1.bel))
 have hf1:=(hb1.frozen (p:=⟨G,2,none⟩) hGX).trans ((hED.out.below hb).blk.frozen 2);have he1:=(HCE.out _ hb1).1;go_wp2;go_end0;rw [hS.out rs1 hm1];refine ⟨rfl,⟨rs1,A1,d1,?_⟩,(((hb.mono qnR).trans (hb1.mono (by have:=hb.size;omega))).setCell (p:=⟨G,2,none⟩) hED.out.lo _)⟩;have:=(hED.out.below hb).drew.swap (X':=w1) (Lj qnR hb.size) hr1;rw [hl1] at this;exact this
theorem ccursor_ {base G:Nat} {v:Vw} {rs:List RowM} {A:Option Addr} {cA:Nat} {X0:World} (h:ED base G v rs A cA X0) (qnR:base<=X0.heap.size) (c:Chg) (Ag:Option Addr) (cap:Nat) (hk:c.kind=4) :
  Calls prog 56 #[.pointer (some ⟨G,0,none⟩),jH c Ag cap] X0 (EdR base G (jY v c) X0):=by
 obtain ⟨W,Hh,rows,vr,vc,vis⟩:=v;obtain ⟨kind,row,col,count,til,g⟩:=c;dsimp only at hk;subst hk;have hS:jY ⟨W,Hh,rows,vr,vc,vis⟩ ⟨4,row,col,count,til,g⟩=⟨W,Hh,rows,row,col,decide (count=1)⟩:=rfl;rw [hS];have hED:=Lh h;clear hS
 go_enter func56,ntmps56
 go_upto_region 1 with fail
 refine qa (ChgBox X0 ⟨4,row,col,count,til,g⟩ Ag cap) (ChgBox.new X0 ⟨4,row,col,count,til,g⟩ Ag cap _) ?_;rintro X ⟨c0,c1,c2,c3,c4,c5,hb,hzX⟩;dsimp only at c0 c1 c2 c3 c4 c5;have hGl:=h.blk.lt;have hB:=h.blk.below hb hGl;obtain ⟨e0,e1,e2,e3,e4,e5⟩:=qw hB;have f3:=hB.frozen 3;have f4:=hB.frozen 4;have f5:=hB.frozen 5;have hne:X0.heap.size≠G:=by omega
 have hne2:G≠X0.heap.size:=by omega
 clear c0 c4 c5 h hB e0 e1 e2
 go_region_held3 (fun w'=>w'.cell? ⟨X0.heap.size,1,none⟩=some (.int .i64 row)/\w'.cell? ⟨X0.heap.size,2,none⟩=some (.int .i64 col)/\w'.cell? ⟨X0.heap.size,3,none⟩=some (.int .i64 count)) (go_keep) (first | fail)
 go_wp2;go_end0;have hc1:(count==1)=decide (count=1):=by rw [Bool.eq_iff_iff];simp
 have h1:=((hED.out.below hb).setg (v':=⟨W,Hh,rows,row,vc,vis⟩) (i:=3) (u:=.int .i64 row) rfl rfl).setg (v':=⟨W,Hh,rows,row,col,vis⟩) (i:=4) (u:=.int .i64 col) rfl rfl;have h2:=h1.setg (v':=⟨W,Hh,rows,row,col,decide (count=1)⟩) (i:=5) (u:=.bool (decide (count=1))) rfl rfl;rw [<- hc1] at h2;refine ⟨rfl,⟨rs,A,cA,by rw [<- hc1];exact h2.drew⟩,?_⟩;exact ((((hb.mono qnR).setCell (p:=⟨G,3,none⟩) hED.out.lo _).setCell (p:=⟨G,4,none⟩) hED.out.lo _).setCell (p:=⟨G,5,none⟩) hED.out.lo _).drew
theorem qj4 (n:Nat) (hn:n<=1000000000) (w:World):Calls prog 99 #[.slice none 0 0,.int .i64 n] w fun e w'=>∃ A c,e = .returned (.slice A 0 c)/\w'.ownsRow w.heap.size 61 3 (.slice A 0 c) 0 []/\Below w.heap.size w w':=by
 rcases Nat.eq_zero_or_pos n with h0 | h0
 ·subst h0;refine (Any8.slices_Grow_room Tryz.laysGrowG none 0 0 0 w L0 L0 L0 L0).mono ?_;rintro e w' ⟨rfl,rfl⟩;exact ⟨none,0,rfl,zY _ _ _ _,Le _ _⟩
 ·have h:(prog.info? 61).map (fun i=>(i.zero,i.size,i.bytes))=some (some (.agg #[.string ⟨#[]⟩,.bool false,.int .i64 0]),3,32):=by kernel_rfl
  obtain ⟨i,hi,hz,hs,hb⟩:=info_parts h;refine (Any8.slices_Grow_grow Tryz.laysGrowG i (.agg #[.string ⟨#[]⟩,.bool false,.int .i64 0]) hi hz L0 none 0 0 n [] w L0 L0 (by rw [hb];omega) L0 L1 (fun _=>rfl) (fun a h=>by cases h)).mono ?_;rintro e w' ⟨rfl,rfl⟩;have hge:=grownCap_ge w (0+n) 0 61;refine ⟨_,_,rfl,⟨rfl,.inr ⟨w.heap.size,grownCap w (0+n) 0 61,_,rfl,Ld _,heap_alloc_new w.drew _,Nat.zero_le _,grownCap_le_maxLen _ _ _ _ (by unfold maxLen;omega),?_,by simp⟩⟩,jI ((Le w.heap.size w.drew).alloc (Ld _) _)⟩;rw [Array.size_append,Array.size_append,size_zeroCells,size_zeroCells];have e1:(Value.agg #[.string ⟨#[]⟩,.bool false,.int .i64 0]).cells.size=3:=rfl;have e2:Tryz.laysGrowG_ren.t 25=61:=rfl;rw [e1];simp only [List.size_toArray,List.length_nil,e2]
  omega
def yA (L:List RowM):List Gl:=(rls L).flatten
theorem qkl {L:List RowM} {k:Nat} (h:k<L.length):yA (L.take (k+1))=yA (L.take k)++L[k].l:=by
 unfold yA rls;rw [(List.take_append_getElem h).symm,List.map_append,List.flatten_append]
 simp
theorem catG_le (L:List RowM) (k:Nat):(yA (L.take k)).length<=(yA L).length:=by
 have e:yA L=yA (L.take k)++yA (L.drop k):=by
  unfold yA rls;rw [<- List.flatten_append,<- List.map_append,List.take_append_drop]
 rw [e,Lf]
 omega
theorem qjO (L:List RowM) (A:Option Addr) (n c B:Nat) (w:World) (hn:L.length=n) (hn2:n<=1000) (hB:B<=w.heap.size) (htot:(yA L).length<=1000000000)
  (rd:Rd w B 1 A n (zQ L)) (hr : ∀ x∈L,Rd w B 3 x.A x.l.length (qi x.l)) :
  Calls prog 81 #[.slice A n c] w (ql 61 3 id w (yA L).length (qi (yA L))):=by
 have HN:=Lh hn;have HT:Hid (∀ k (h:k<L.length),yA (L.take (k+1))=yA (L.take k)++L[k].l):=Lh fun k h=>qkl h
 have HLe:=Lh (catG_le L);have HC:Hid (∀ k (h:k<L.length),(zQ L)[k]? = some (.slice L[k].A L[k].l.length L[k].cap)):=Lh fun k h=>yF h
 have HR:Hid (∀ k (h:k<L.length),Rd w B 3 L[k].A L[k].l.length (qi L[k].l)):=Lh fun k h=>hr _ (Lt h)
 have HG:=Lh qj4;have HA:Hid (L.take n=L):=Lh (List.take_of_length_le L0);clear hn hr
 go_enter func81,ntmps81
 go_wp2
 go_loopw [3,11] (fun v x wr=>∃ k:Nat,k<=n/\x = .int .i64 k/\v = .int .i64 ((yA (L.take k)).length:Nat)/\w=wr) (fun _ x _=>n-(intOf x).toNat)
 case atStart=>exact ⟨0,Nat.zero_le _,rfl,rfl,rfl⟩
 case round =>
  obtain ⟨k,hk,rfl,rfl,rfl⟩:=hrel
  by_cases hlt:k<n
  ·have hkl:k<L.length:=by have:=HN.out;omega
   obtain ⟨b,o,rfl,hbB,hc⟩:=rd.at_ hlt;rw [HC.out k hkl] at hc;have hl1:=HLe.out k;have hl2:=HLe.out (k+1);have hT:=HT.out k hkl;have hTl:(yA (L.take (k+1))).length=(yA (L.take k)).length+L[k].l.length:=by rw [hT,Lf]
   generalize hm2:(yA (L.take (k+1))).length=m2 at *
   replace hm2:=Lh hm2;generalize (yA (L.take k)).length=m1 at *
   generalize L[k].l.length=q at *
   generalize L[k].A=aa at *
   generalize L[k].cap=cc at *
   clear hT;go_wp2;exact ⟨⟨k+1,by omega,by go_num,by rw [hm2.out,hTl];go_num,by trivial⟩,by simp [intOf];omega⟩
  ·obtain rfl:k=n:=by omega
   have hA:=HA.out;rw [hA];clear hA;generalize hm:(yA L).length=m at *
   replace hm:=Lh hm
   go_wp2_with (go_at_call 99;refine (HG.out m htot _).mono ?_;rintro e w1 ⟨A1,c1,rfl,qnx,qmv⟩)
   go_loopw [6,27] (fun v x wr=>∃ (A':Option Addr) (c' j:Nat),j<=k/\x = .int .i64 j/\v = .slice A' (yA (L.take j)).length c'/\wr.ownsRow w.heap.size 61 3 (.slice A' (yA (L.take j)).length c') (yA (L.take j)).length (qi (yA (L.take j)))/\Below w.heap.size w wr) (fun _ x _=>k-(intOf x).toNat)
   case atStart=>exact ⟨A1,c1,0,Nat.zero_le _,rfl,rfl,qnx,qmv⟩
   case round =>
    obtain ⟨A',c',j,hj,rfl,rfl,qnB,qnw⟩:=hrel
    by_cases hlt:j<k
    ·have hkl:j<L.length:=by have:=HN.out;omega
     obtain ⟨b,o,rfl,hbB,hc⟩:=(rd.keep (w':=wr) fun p hp=>qnw.cell L0).at_ hlt;rw [HC.out j hkl] at hc;have hr:=Lh ((HR.out j hkl).keep (w':=wr) fun p hp=>qnw.cell L0);have hl1:=HLe.out j;have hl2:=HLe.out (j+1);have hT:=HT.out j hkl;have hTl:(yA (L.take (j+1))).length=(yA (L.take j)).length+L[j].l.length:=by rw [hT,Lf]
     replace hT:=Lh hT;replace hTl:=Lh hTl;have hl3:(yA (L.take j)).length+L[j].l.length<=m:=by rw [<- hTl.out];exact hl2
     generalize hM1:yA (L.take j)=M1 at *
     generalize hl:L[j].l=l at *
     generalize L[j].A=aa at *
     generalize L[j].cap=cc at *
     clear hl hM1 hl2;have zb:=qnw.size
     go_wp2_with (at_builtin;go_must (refine qg rfl _ _ _ rfl qbz (w.heap.size) _ rfl (qnB) _ _ rfl (hr.out) ?_);intro A4 c4 w4 qmC qmy qmG qmI;have z4:=qmy.size;(try simp only [Li] at z4);(try simp only [Lo,Lg] at qmC))
     exact ⟨⟨A4,c4,j+1,by omega,by go_num,by rw [hTl.out],by rw [hTl.out,hT.out,kF];exact qmC,qnw.trans qmy⟩,by simp [intOf];omega⟩
    ·obtain rfl:j=k:=by omega
     have hA:=HA.out;rw [hA] at qnB;go_wp2;go_ret;have e1:(yA (L.take j)).length=m:=by rw [hA,hm.out]
     rw [hm.out] at qnB;exact ⟨A',c',by rw [e1];rfl,qnB,qnw⟩
structure EDx (base G:Nat) (v:Vw) (rs:List RowM) (A:Option Addr) (c k:Nat) (l':List Gl) (A4:Option Addr) (c4:Nat) (X:World):Prop where
 blk:Blk X G 75 (vwC v A rs.length c)
 rows:X.ownsRow base 38 1 (.slice A rs.length c) rs.length (zQ rs)
 gl : ∀ j (h:j<rs.length),j≠k->X.ownsRow base 61 3 (.slice rs[j].A rs[j].l.length rs[j].cap) rs[j].l.length (qi rs[j].l)
 row:X.ownsRow base 61 3 (.slice A4 l'.length c4) l'.length (qi l')
 eq:v.rows=rls rs
 lo:base<=G
 dj:(obR G A (rs.set k ⟨l',A4,c4⟩)).Pairwise Dj
theorem qaD {l:List (Option Nat)} (h:l.Pairwise Dj) {i j:Nat} (hi:i<l.length) (hj:j<l.length) (hne:i≠j):Dj l[i] l[j]:=by
 rcases Nat.lt_or_ge i j with hlt | hge
 ·exact List.pairwise_iff_getElem.1 h i j hi hj hlt
 ·exact (List.pairwise_iff_getElem.1 h j i hj hi L0).symm
theorem obR_set (G:Nat) (A:Option Addr) (rs:List RowM) (k:Nat) (x:RowM):obR G A (rs.set k x)=(obR G A rs).set (k+2) (obS x.A):=by
 unfold obR;rw [List.map_set,List.set_cons_succ,List.set_cons_succ]
section
variable {base G c k c4 : Nat} {v : Vw} {rs : List RowM} {A A4 : Option Addr} {l' : List Gl} {X X' w1 w2 : World}
theorem EDx.start (h:ED base G v rs A c X) (hk:k<rs.length):EDx base G v rs A c k rs[k].l rs[k].A rs[k].cap X :=
 ⟨h.blk,h.rows,fun j hj _=>h.gl _ (Lt hj),h.gl _ (Lt hk),h.eq,h.lo,by
  have e:rs.set k ⟨rs[k].l,rs[k].A,rs[k].cap⟩=rs:=List.set_getElem_self hk;rw [e]
  exact h.dj⟩
theorem EDx.below (h:EDx base G v rs A c k l' A4 c4 X) (hb:Below X.heap.size X X'):EDx base G v rs A c k l' A4 c4 X' :=
 ⟨h.blk.below hb h.blk.lt,qb h.rows hb,fun j hj hne=>qb (h.gl j hj hne) hb,qb h.row hb,h.eq,h.lo,h.dj⟩
theorem EDx.apart (h:EDx base G v rs A c k l' A4 c4 X) (hk:k<rs.length):Dj (some G) (obS A)/\Dj (some G) (obS A4)/\Dj (obS A) (obS A4)/\(∀ j (hj:j<rs.length),j≠k->Dj (some G) (obS rs[j].A)/\Dj (obS A) (obS rs[j].A)/\Dj (obS rs[j].A) (obS A4)):=by
 have hd:=h.dj;have hl:(obR G A (rs.set k ⟨l',A4,c4⟩)).length=rs.length+2:=by simp [obR]
 have g0:(obR G A (rs.set k ⟨l',A4,c4⟩))[0]'(by omega)=some G:=rfl;have g1:(obR G A (rs.set k ⟨l',A4,c4⟩))[1]'(by omega)=obS A:=rfl;have gk:(obR G A (rs.set k ⟨l',A4,c4⟩))[k+2]'(by omega)=obS A4:=by simp [obR]
 have gj : ∀ j (hj:j<rs.length),j≠k->(obR G A (rs.set k ⟨l',A4,c4⟩))[j+2]'(by omega)=obS rs[j].A:=fun j hj hne=>by
  simp [obR,List.getElem_set_ne (Ne.symm hne)]
 refine ⟨?_,?_,?_,fun j hj hne=>⟨?_,?_,?_⟩⟩
 ·have:=qaD hd (i:=0) (j:=1) L0 L0 L0;rwa [g0,g1] at this
 ·have:=qaD hd (i:=0) (j:=k+2) L0 L0 L0;rwa [g0,gk] at this
 ·have:=qaD hd (i:=1) (j:=k+2) L0 L0 L0;rwa [g1,gk] at this
 ·have:=qaD hd (i:=0) (j:=j+2) L0 L0 L0;rwa [g0,gj j hj hne] at this
 ·have:=qaD hd (i:=1) (j:=j+2) L0 L0 L0;rwa [g1,gj j hj hne] at this
 ·have:=qaD hd (i:=j+2) (j:=k+2) L0 L0 L0;rwa [gj j hj hne,gk] at this
theorem EDx.dj_new (h:EDx base G v rs A c k l' A4 c4 X) {l2:List Gl} {A5:Option Addr} {c5:Nat} (hn : ∀ y∈obR G A (rs.set k ⟨l',A4,c4⟩),y=obS A4∨Dj y (obS A5)) (hk:k<rs.length):(obR G A (rs.set k ⟨l2,A5,c5⟩)).Pairwise Dj:=by
 obtain ⟨d1,d2,d3,d4⟩:=h.apart hk;rw [List.pairwise_iff_getElem];have hl:(obR G A (rs.set k ⟨l2,A5,c5⟩)).length=rs.length+2:=by simp [obR]
 have hl':(obR G A (rs.set k ⟨l',A4,c4⟩)).length=rs.length+2:=by simp [obR]
 have same : ∀ i (hi:i<rs.length+2),i≠k+2->(obR G A (rs.set k ⟨l2,A5,c5⟩))[i]'(by omega)=(obR G A (rs.set k ⟨l',A4,c4⟩))[i]'(by omega):=fun i hi hne=>by
  have e1 : ∀ (x:RowM),(obR G A (rs.set k x))[i]? = (obR G A rs)[i]?:=fun x=>by rw [obR_set,List.getElem?_set_ne (Ne.symm hne)]
  have:=(e1 ⟨l2,A5,c5⟩).trans (e1 ⟨l',A4,c4⟩).symm;rw [List.getElem?_eq_getElem L0,List.getElem?_eq_getElem L0] at this
  injection this
 have gk:(obR G A (rs.set k ⟨l2,A5,c5⟩))[k+2]'(by omega)=obS A5:=by simp [obR]
 have key : ∀ i (hi:i<rs.length+2),i≠k+2->Dj ((obR G A (rs.set k ⟨l',A4,c4⟩))[i]'(by omega)) (obS A5):=fun i hi hne=>by
  rcases hn _ (Lt (by omega:i<(obR G A (rs.set k ⟨l',A4,c4⟩)).length)) with e | e
  ·have hd:=qaD h.dj (i:=i) (j:=k+2) L0 L0 hne;have gk':(obR G A (rs.set k ⟨l',A4,c4⟩))[k+2]'(by omega)=obS A4:=by simp [obR]
   rw [e,gk'] at hd;rw [e];intro j h1 _;exact hd j h1 h1
  ·exact e
 intro i j hi hj hij
 by_cases hik:i=k+2
 ·subst hik;rw [gk,same j L0 L0];exact (key j L0 L0).symm
 ·by_cases hjk:j=k+2
  ·subst hjk;rw [gk,same i L0 hik];exact key i L0 hik
  ·rw [same i L0 hik,same j L0 hjk];exact qaD h.dj L0 L0 L0
theorem EDx.grow (h:EDx base G v rs A c k l' A4 c4 X) (hk:k<rs.length) (qnR:base<=X.heap.size) (hb1:Below X.heap.size X w1) {A5:Option Addr} {c5 n m:Nat} {g:Gl} (hn:n=l'.length+1) (qnB:w2.ownsRow base 61 3 (.slice A5 n c5) n (qi l'++ym g))
  (hgr:w1.grownBy w2 (Value.slice A4 m c4).ownBlock) (hat:(Value.slice A5 n c5).ownBlock=(Value.slice A4 m c4).ownBlock∨(Value.slice A5 n c5).ownBlock=some w1.heap.size):EDx base G v rs A c k (l'++[g]) A5 c5 w2:=by
 subst hn;rw [qC] at hgr;rw [qC,qC] at hat;obtain ⟨d1,d2,d3,d4⟩:=h.apart hk;have h1:=h.below hb1;refine ⟨h1.blk.grown hgr fun e=>d2 G rfl e.symm,h1.rows.kept hgr (by rw [qC];exact d3.ne),fun j hj hne=>(h1.gl j hj hne).kept hgr (by rw [qC];exact (d4 j hj hne).2.2.ne),by rw [Lf,kF];simpa [qi] using qnB,h.eq,h.lo,h.dj_new (fun y hy=>?_) hk⟩
 by_cases e:y=obS A4
 ·exact .inl e
 ·right
  have hlt : ∀ b,y=some b->b<w1.heap.size:=fun b hb=>by
   subst hb;have hz:=hb1.size;unfold obR at hy
   rcases List.mem_cons.1 hy with hy | hy
   ·injection hy with hy;have:=h1.blk.lt;omega
   ·rcases List.mem_cons.1 hy with hy | hy
    ·exact (vB h1.rows b hy.symm).2
    ·obtain ⟨x,hx,e2⟩:=List.mem_map.1 hy;obtain ⟨i,hi,rfl⟩:=List.getElem_of_mem hx;rw [List.length_set] at hi
     by_cases hik:i=k
     ·subst hik;rw [List.getElem_set_self] at e2;exact absurd e2.symm e
     ·rw [List.getElem_set_ne (Ne.symm hik)] at e2;exact (vB (h1.gl i hi hik) b e2).2
  obtain ⟨i,hi,rfl⟩:=List.getElem_of_mem hy;have qnQ:(obR G A (rs.set k ⟨l',A4,c4⟩)).length=rs.length+2:=by simp [obR]
  have gk':(obR G A (rs.set k ⟨l',A4,c4⟩))[k+2]'(by omega)=obS A4:=by simp [obR]
  have hik:i≠k+2:=fun e3=>e (by subst e3;exact gk')
  have hd:=qaD h.dj (i:=i) (j:=k+2) hi L0 hik;rw [gk'] at hd;exact Dj.new hd hat hlt
theorem EDx.put (h:EDx base G v rs A c k l' A4 c4 X) (hk:k<rs.length) (qnR:base<=X.heap.size) {G1:Nat} (hA:A=some ⟨G1,0,none⟩) {l6:List Gl} {A6:Option Addr} {c6:Nat} (hb1:Below X.heap.size X w1) (qnB:w1.ownsRow X.heap.size 61 3 (.slice A6 l6.length c6) l6.length (qi l6)) :
  ED base G ⟨v.width,v.height,(rls rs).set k l6,v.row,v.col,v.vis⟩ (rs.set k ⟨l6,A6,c6⟩) A c (w1.setCell ⟨G1,k,none⟩ (.slice A6 l6.length c6)):=by
 subst hA;obtain ⟨d1,d2,d3,d4⟩:=h.apart hk;have h1:=h.below hb1;have hfr : ∀ b,obS A6=some b->X.heap.size<=b:=fun b hb=>(vB qnB b hb).1
 have hG1:G1<X.heap.size:=(vB h.rows G1 rfl).2;refine ⟨?_,?_,fun x hx=>?_,(qfd rs k ⟨l6,A6,c6⟩).symm,h.lo,h.dj_new (fun y hy=>?_) hk⟩
 ·rw [List.length_set];exact h1.blk.far (p:=⟨G1,k,none⟩) (fun e=>d1 G rfl (by rw [e];rfl)) _
 ·rw [List.length_set,qeJ];exact (h1.rows.stored k _).1
 ·obtain ⟨i,hi,rfl⟩:=List.getElem_of_mem hx;rw [List.length_set] at hi
  by_cases hik:i=k
  ·subst hik;rw [List.getElem_set_self]
   exact ownsRow_setCell_other (a:=⟨G1,i,none⟩) (qt qnB qnR) (fun e=>by
    rw [qC] at e;have:=hfr _ e;simp only at this
    omega) _
  ·rw [List.getElem_set_ne (Ne.symm hik)]
   exact ownsRow_setCell_other (a:=⟨G1,k,none⟩) (h1.gl i hi hik) (fun e=>by
    rw [qC] at e
    exact (d4 i hi hik).2.1 G1 rfl e) _
 ·by_cases e:y=obS A4
  ·exact .inl e
  ·right
   refine Dj.fresh (N:=X.heap.size) (fun b hb=>?_) hfr;subst hb;unfold obR at hy
   rcases List.mem_cons.1 hy with hy | hy
   ·injection hy with hy;have:=h.blk.lt;omega
   ·rcases List.mem_cons.1 hy with hy | hy
    ·exact (vB h.rows b hy.symm).2
    ·obtain ⟨x,hx,e2⟩:=List.mem_map.1 hy;obtain ⟨i,hi,rfl⟩:=List.getElem_of_mem hx;rw [List.length_set] at hi
     by_cases hik:i=k
     ·subst hik;rw [List.getElem_set_self] at e2;exact absurd e2.symm e
     ·rw [List.getElem_set_ne (Ne.symm hik)] at e2;exact (vB (h.gl i hi hik) b e2).2
end
end Go.Proofs.YtggegijlfaipfaaGreatDoor
