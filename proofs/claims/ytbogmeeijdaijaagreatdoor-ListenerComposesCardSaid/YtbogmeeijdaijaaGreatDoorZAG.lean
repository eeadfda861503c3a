/- Joined: Lv5, Lv7, Uc2, Uc3. -/
import Derived.OneCell
import Derived.Test.YtbogmeeijdaijaaGreatDoorZAF
set_option linter.unusedVariables false
set_option linter.unusedSimpArgs false
set_option linter.unnecessarySimpa false
set_option maxHeartbeats 8000000
namespace Go.Proofs.YtbogmeeijdaijaaGreatDoor
open Go.Proofs.Tryz Go.RowKit
set_option maxRecDepth 20000
def VwBox (w:World) (v:Vw) (A:Option Addr) (n c:Nat) (wx:World):Prop:=Blk wx w.heap.size 24 (vwC v A n c)/\Below w.heap.size w wx
section
variable {w wx wy : World} {v : Vw} {A : Option Addr} {n c : Nat}
theorem VwBox.new (w:World) (v:Vw) (A:Option Addr) (n c:Nat):VwBox w v A n c (w.alloc (.cells (vwC v A n c) 24)):=⟨Blk.new _ _ _,L5⟩
theorem VwBox.on (h:VwBox w v A n c wx) (hb:Below wx.heap.size wx wy):VwBox w v A n c wy:=⟨h.1.below hb h.1.lt,h.2.trans (hb.mono (Lr h.1.lt))⟩
theorem VwBox.lt (h:VwBox w v A n c wx):w.heap.size+1<=wx.heap.size:=h.1.lt
theorem VwBox.cells (h:VwBox w v A n c wx):wx.cell? ⟨w.heap.size,0,none⟩=some (.int .i64 v.width)/\wx.cell? ⟨w.heap.size,1,none⟩=some (.int .i64 v.height)/\wx.cell? ⟨w.heap.size,2,none⟩=some (.slice A n c)/\wx.cell? ⟨w.heap.size,3,none⟩=some (.int .i64 v.row)/\wx.cell? ⟨w.heap.size,4,none⟩=some (.int .i64 v.col)/\wx.cell? ⟨w.heap.size,5,none⟩=some (.bool v.vis) :=
 ⟨h.1.cell 0,h.1.cell 1,h.1.cell 2,h.1.cell 3,h.1.cell 4,h.1.cell 5⟩
end
theorem qdu (w:Int) (l:List Gl) (t:List (List Gl)):yh w (l::t)=if yK l≠0 then yK l else if w<vM l then 12 else if l.getLast? = some spG then 1 else yh w t:=by
 rw [yh,rowC]
 by_cases h1:yK l=0
 ·by_cases h2:w<vM l
  ·simp only [h1,h2,ne_eq,not_true,if_true,if_false];rfl
  ·by_cases h3:l.getLast? = some spG
   ·simp only [h1,h2,h3,ne_eq,not_true,if_true,if_false];rfl
   ·simp only [h1,h2,h3,ne_eq,not_true,if_false]
 ·simp only [h1,ne_eq,not_false_eq_true,if_true]
theorem qdN {l:List Gl} {k:Nat} (h:k<l.length):yK (l.drop k)=if qJ l[k]≠0 then qJ l[k] else yK (l.drop (k+1)):=by
 rw [Ls h,yK]
theorem qh5 {l:List Gl} {k:Nat} (h:l.length=k+1):l.getLast? = some (l[k]'(by omega)):=by
 rw [List.getLast?_eq_getElem?,show l.length-1=k by omega,List.getElem?_eq_getElem L0]
theorem qig (v:Vw) (A:Option Addr) (n c B:Nat) (rs:List RowM) (w:World) (rd:RdV w B v A n c rs) (hB:B<=w.heap.size) (hz : ∀ x∈rs,x.l.length<=1000000000/\∀ g∈x.l,g.text.size<=1000000000) (hu:U8 w) :
  Calls prog 32 #[.agg (vwC v A n c)] w (qh (.int .i64 (js v)) w):=by
 have hU:=Lh hu;clear hu;have HN:=Lh rd.1.len;have hnm:n<=9223372036854775807:=by have h1:=rd.2.2.1;have h2:=rd.2.2.2;unfold maxLen at h2;omega
 have HRL:Hid (v.rows=rls rs):=Lh rd.2.1;have HA:Hid (∀ k (hk:k<rs.length) w',Below w.heap.size w w'->∃ b o,A=some ⟨b,o,none⟩/\b<w.heap.size/\w'.cell? ⟨b,o+k,none⟩=some (.slice rs[k].A rs[k].l.length rs[k].cap)):=Lh fun k hk w' hb=>((rd.1.more hB).below hb).at_ hk
 have HG:Hid (∀ x∈rs,∀ w',Below w.heap.size w w'->Rd w' w.heap.size 3 x.A x.l.length (qi x.l)):=Lh fun x hx w' hb=>(((rd.1.gl x hx).1.more hB).below hb)
 have HX:Hid (∀ x∈rs,x.l.length<=1000000000/\∀ g∈x.l,g.text.size<=1000000000):=Lh hz;have HS:Hid (∀ k,k<rs.length->(rls rs).drop k=(rls rs).getD k []::(rls rs).drop (k+1)):=Lh fun k hk=>by
  rw [Ls (by rw [vJ];exact hk),List.getD_eq_getElem?_getD,List.getElem?_eq_getElem (by rw [vJ];exact hk)]
  rfl
 unfold js;rw [HRL.out,vJ,HN.out];clear rd hz;obtain ⟨W,Hh,rows,row,col,vis⟩:=v;dsimp only at *
 have HV:Hid (∀ x∈rs,∀ g∈x.l,∀ w',Below w.heap.size w w'->Calls prog 57 #[glV g] w' (qh (.int .i64 (qJ g)) w')):=Lh fun x hx g hg w' hb=>(qcG g ((HX.out x hx).2 g hg) w' (hU.out.below hb)).1
 have HWd:Hid (∀ x∈rs,∀ w',Below w.heap.size w w'->Calls prog 40 #[.slice x.A x.l.length x.cap] w' (qh (.int .i64 (vM x.l:Nat)) w')):=Lh fun x hx w' hb=>qeY x.l x.A _ x.cap w.heap.size w' (HX.out x hx).1 (HG.out x hx w' hb) hb.size
 have HSz:=Lh (qiA W Hh)
 by_cases h1:vR W Hh=false
 ·rw [if_pos h1];rw [h1] at HSz;clear h1
  go_enter func32,ntmps32;go_upto_region 1 with fail;refine qa (VwBox w ⟨W,Hh,rows,row,col,vis⟩ A n c) (VwBox.new w ⟨W,Hh,rows,row,col,vis⟩ A n c) ?_;intro X hX;obtain ⟨c0,c1,c2,c3,c4,c5⟩:=hX.cells;have hb:=hX.2;dsimp only at c0 c1 c2 c3 c4 c5
  go_wp2_with (go_at_call 55;refine (HSz.out _).mono ?_;rintro e w1 ⟨rfl,rfl⟩)
  go_ret;exact ⟨rfl,hb⟩
 ·have h1':vR W Hh=true:=by simpa using h1
  rw [if_neg h1];rw [h1'] at HSz;clear h1 h1'
  by_cases h2:(n:Int)=Hh
  ·rw [if_neg (by simpa using h2)];have hne:((n:Int) != Hh)=false:=by simp [h2]
   replace h2:=Lh h2
   by_cases h3:row<0∨Hh<=row∨col<0∨W<=col
   ·rw [if_pos h3]
    by_cases r1:row<0
    ·go_enter func32,ntmps32;go_upto_region 1 with fail;refine qa (VwBox w ⟨W,Hh,rows,row,col,vis⟩ A n c) (VwBox.new w ⟨W,Hh,rows,row,col,vis⟩ A n c) ?_;intro X hX;obtain ⟨c0,c1,c2,c3,c4,c5⟩:=hX.cells;have hb:=hX.2;dsimp only at c0 c1 c2 c3 c4 c5
     go_wp2_with (go_at_call 55;refine (HSz.out _).mono ?_;rintro e w1 ⟨rfl,rfl⟩)
     go_ret;exact ⟨rfl,hb⟩
    ·by_cases r2:Hh<=row
     ·go_enter func32,ntmps32;go_upto_region 1 with fail;refine qa (VwBox w ⟨W,Hh,rows,row,col,vis⟩ A n c) (VwBox.new w ⟨W,Hh,rows,row,col,vis⟩ A n c) ?_;intro X hX;obtain ⟨c0,c1,c2,c3,c4,c5⟩:=hX.cells;have hb:=hX.2;dsimp only at c0 c1 c2 c3 c4 c5
      go_wp2_with (go_at_call 55;refine (HSz.out _).mono ?_;rintro e w1 ⟨rfl,rfl⟩)
      go_ret;exact ⟨rfl,hb⟩
     ·by_cases r3:col<0
      ·go_enter func32,ntmps32;go_upto_region 1 with fail;refine qa (VwBox w ⟨W,Hh,rows,row,col,vis⟩ A n c) (VwBox.new w ⟨W,Hh,rows,row,col,vis⟩ A n c) ?_;intro X hX;obtain ⟨c0,c1,c2,c3,c4,c5⟩:=hX.cells;have hb:=hX.2;dsimp only at c0 c1 c2 c3 c4 c5
       go_wp2_with (go_at_call 55;refine (HSz.out _).mono ?_;rintro e w1 ⟨rfl,rfl⟩)
       go_ret;exact ⟨rfl,hb⟩
      ·have r4:W<=col:=by omega
       go_enter func32,ntmps32;go_upto_region 1 with fail;refine qa (VwBox w ⟨W,Hh,rows,row,col,vis⟩ A n c) (VwBox.new w ⟨W,Hh,rows,row,col,vis⟩ A n c) ?_;intro X hX;obtain ⟨c0,c1,c2,c3,c4,c5⟩:=hX.cells;have hb:=hX.2;dsimp only at c0 c1 c2 c3 c4 c5
       go_wp2_with (go_at_call 55;refine (HSz.out _).mono ?_;rintro e w1 ⟨rfl,rfl⟩)
       go_ret;exact ⟨rfl,hb⟩
   ·rw [if_neg h3];have r1:0<=row:=by omega
    have r2:row<Hh:=by omega
    have r3:0<=col:=by omega
    have r4:col<W:=by omega
    clear h3;have H0:Hid (yh W (rls rs)=yh W ((rls rs).drop 0)):=Lh rfl;generalize yh W (rls rs)=R at *
    go_enter func32,ntmps32;go_upto_region 1 with fail;refine qa (VwBox w ⟨W,Hh,rows,row,col,vis⟩ A n c) (VwBox.new w ⟨W,Hh,rows,row,col,vis⟩ A n c) ?_;intro X hX;obtain ⟨c0,c1,c2,c3,c4,c5⟩:=hX.cells;have hb:=hX.2;dsimp only at c0 c1 c2 c3 c4 c5
    go_wp2_with (go_at_call 55;refine (HSz.out _).mono ?_;rintro e w1 ⟨rfl,rfl⟩)
    go_loopw [49] (fun x wr=>∃ k:Nat,k<=n/\x = .int .i64 k/\VwBox w ⟨W,Hh,rows,row,col,vis⟩ A n c wr/\Hid (R=yh W ((rls rs).drop k))) (fun x _=>n-(intOf x).toNat)
    case atStart=>exact ⟨0,Nat.zero_le _,rfl,hX,H0⟩
    case round =>
     clear hX hb c0 c1 c2 c3 c4 c5 H0 HSz hne r1 r2 r3 r4;obtain ⟨k,hk,rfl,hX,HK⟩:=hrel;obtain ⟨c0,c1,c2,c3,c4,c5⟩:=hX.cells;have hb:=hX.2;have hzX:=hX.lt;dsimp only at c0 c1 c2 c3 c4 c5
     by_cases hlt:k<n
     ·have hkl:k<rs.length:=by have:=HN.out;omega
      obtain ⟨b,o,rfl,hbB,hc⟩:=HA.out k hkl _ hb;have hx:rs[k]∈rs:=Lt hkl;obtain ⟨T,HT⟩ : ∃ T,Hid (T=if W<vM rs[k].l then 12 else if rs[k].l.getLast? = some spG then 1 else yh W ((rls rs).drop (k+1))):=⟨_,Lh rfl⟩
      have HK2:Hid (R=if yK (rs[k].l.drop 0)≠0 then yK (rs[k].l.drop 0) else T):=Lh (by rw [HK.out,HS.out k hkl,qa4 hkl,qdu,HT.out,List.drop_zero]);have hl:=(HX.out _ hx).1;have HGk:=Lh (HG.out _ hx);have HVk:=Lh (HV.out _ hx);have HWk:=Lh (HWd.out _ hx);clear HK HA HG HX HV HWd HS hx;generalize rs[k]=x at *
      obtain ⟨l,Al,cl⟩:=x;dsimp only at *
      go_wp2
      go_loopw [55] (fun y wy=>∃ j:Nat,j<=l.length/\y = .int .i64 j/\VwBox w ⟨W,Hh,rows,row,col,vis⟩ (some ⟨b,o,none⟩) n c wy/\Hid (R=if yK (l.drop j)≠0 then yK (l.drop j) else T)) (fun y _=>l.length-(intOf y).toNat)
      case atStart=>exact ⟨0,Nat.zero_le _,rfl,hX,HK2⟩
      case round=>as_aux_lemma =>
       clear hX hb c0 c1 c2 c3 c4 c5 HK2 hc hzX;obtain ⟨j,hj,rfl,hX,HJ⟩:=hrel;obtain ⟨c0,c1,c2,c3,c4,c5⟩:=hX.cells;have hb:=hX.2;have hzX:=hX.lt;dsimp only at c0 c1 c2 c3 c4 c5
       by_cases hlj:j<l.length
       ·obtain ⟨b',o',rfl,hbB',g0,g1,g2⟩:=jE (HGk.out _ hb) hlj rfl;have HVj:=Lh (HVk.out _ (Lt hlj));have HJ2:=HJ.out;rw [qdN hlj] at HJ2;generalize l[j]=g at *
        by_cases h0:qJ g=0
        ·rw [if_neg (show ¬ qJ g≠0 by simp [h0])] at HJ2;replace HJ2:=Lh HJ2;rw [h0] at HVj;clear h0;obtain ⟨t,wd,st⟩:=g;dsimp only at *
         go_wp2_with (go_at_call 57;refine (HVj.out _ (hb.alloc L0 _)).mono ?_;rintro e w1 ⟨rfl,hb1⟩)
         exact ⟨⟨j+1,by omega,by go_num,hX.on ((L5).trans (hb1.mono L1)),HJ2⟩,by simp [intOf];omega⟩
        ·rw [if_pos (show qJ g≠0 from h0),if_pos h0] at HJ2;replace HJ2:=Lh HJ2;have hn0:(qJ g != 0)=true:=Ln.2 h0;clear h0;generalize hq:qJ g=K at *
         clear hq;obtain ⟨t,wd,st⟩:=g;dsimp only at *
         go_wp2_with (go_at_call 57;refine (HVj.out _ (hb.alloc L0 _)).mono ?_;rintro e w1 ⟨rfl,hb1⟩)
         go_ret;exact ⟨by rw [HJ2.out];rfl,(hX.on ((L5).trans (hb1.mono L1))).2⟩
       ·obtain rfl:j=l.length:=by omega
        have HT2:Hid (R=if W<vM l then 12 else if l.getLast? = some spG then 1 else yh W ((rls rs).drop (k+1))):=Lh (by rw [HJ.out,Lv (Ld _),<- HT.out];rfl);clear HT HJ HVk;have hzz:=Ld wr.heap.size;have N0 : ∀ x:Near wr.heap.size wr,x.w.cell? ⟨w.heap.size,0,none⟩=some (.int .i64 W):=fun x=>(x.h.cell L7).trans c0
        have HWx:Hid (∀ x:Near wr.heap.size wr,Calls prog 40 #[.slice Al l.length cl] x.w (qh (.int .i64 (vM l:Nat)) x.w)):=Lh fun x=>HWk.out _ (hb.trans (x.h.mono L0))
        clear HWk c0 c1 c2 c3 c4 c5;generalize vM l=rw0 at *
        by_cases hw:W<(rw0:Int)
        ·rw [if_pos hw] at HT2;go_wp2;refine qc wr.heap.size ?_;(repeat (go_big_quiet_step ((go_at_call 40;exact Calls.near _ hzz (HWx.out _)))));refine wpQuiet_nil ?_;intro x1;go_wp2;go_ret;exact ⟨by rw [HT2.out];rfl,(hX.on x1.h).2⟩
        ·as_aux_lemma =>
         rw [if_neg hw] at HT2;have hw' : ¬ W<(rw0:Int):=hw;have hd:decide (W<(rw0:Int))=false:=Lk hw;clear hw hw';go_wp2;refine qc wr.heap.size ?_;(repeat (go_big_quiet_step ((go_at_call 40;exact Calls.near _ hzz (HWx.out _)))));refine wpQuiet_nil ?_;intro x1;have hX1:=hX.on x1.h;have hb1:=hX1.2;have hz1:=Ld x1.w.heap.size;clear HWx N0 hd hX hb
         rcases Nat.eq_zero_or_pos l.length with h0 | h0
         ·have HT3:Hid (R=yh W ((rls rs).drop (k+1))):=Lh (by rw [HT2.out,List.length_eq_zero_iff.1 h0];rfl);have hd:decide (0<l.length)=false:=Lk L0;clear HT2 h0;go_wp2
          go_quiet (fail)
          go_wp2;exact ⟨⟨k+1,by omega,by go_num,hX1.on (qf (Le _ _)),HT3⟩,by simp [intOf];omega⟩
         ·obtain ⟨m,hm⟩ : ∃ m,l.length=m+1:=⟨l.length-1,by omega⟩
          have hml:m<l.length:=by omega
          obtain ⟨b',o',rfl,hbB',g0,g1,g2⟩:=jE (HGk.out _ hb1) hml rfl;rw [qh5 hm] at HT2;have hq:=eq_gl l[m] spG;have hg:=qa2 l[m] spG .eql;have hmi:(l.length:Int)=(m:Int)+1:=by omega
          have hd:decide (0<l.length)=true:=Ll h0;have N:=qeW (wb:=x1.w) (B:=x1.w.heap.size) ⟨g0,g1,g2⟩ (Ly hbB' (by have:=x1.h.size;omega))
          by_cases he:l[m]=spG
          ·rw [if_pos (by rw [he])] at HT2;rw [Ll he] at hq;clear he h0 HGk;unfold glV spG at hq hg;generalize l[m]=g at *
           obtain ⟨t,wd,st⟩:=g;dsimp only at *
           clear g0 g1 g2;go_wp2;refine qc x1.w.heap.size ?_;(repeat (go_big_quiet_step ((go_at_call 58;exact Calls.near _ hz1 (qc7 _)))));refine wpQuiet_nil ?_;intro x2;go_wp2;go_ret;exact ⟨by rw [HT2.out];rfl,hb1.trans (x2.h.mono (by have:=hX1.lt;omega))⟩
          ·rw [if_neg (fun e=>he (by injection e))] at HT2;rw [Lk he] at hq;clear he h0 HGk;unfold glV spG at hq hg;generalize l[m]=g at *
           obtain ⟨t,wd,st⟩:=g;dsimp only at *
           clear g0 g1 g2;go_wp2;refine qc x1.w.heap.size ?_;(repeat (go_big_quiet_step ((go_at_call 58;exact Calls.near _ hz1 (qc7 _)))));refine wpQuiet_nil ?_;intro x2;go_wp2;exact ⟨⟨k+1,by omega,by go_num,hX1.on x2.h,HT2⟩,by simp [intOf];omega⟩
     ·have HK2:Hid (R=0):=Lh (by rw [HK.out,Lv (by rw [vJ];have:=HN.out;omega)];rfl);go_wp2;go_ret;exact ⟨by rw [HK2.out];rfl,hb⟩
  ·rw [if_pos h2];have hne:((n:Int) != Hh)=true:=Ln.2 h2;clear h2
   go_enter func32,ntmps32;go_upto_region 1 with fail;refine qa (VwBox w ⟨W,Hh,rows,row,col,vis⟩ A n c) (VwBox.new w ⟨W,Hh,rows,row,col,vis⟩ A n c) ?_;intro X hX;obtain ⟨c0,c1,c2,c3,c4,c5⟩:=hX.cells;have hb:=hX.2;dsimp only at c0 c1 c2 c3 c4 c5
   go_wp2_with (go_at_call 55;refine (HSz.out _).mono ?_;rintro e w1 ⟨rfl,rfl⟩)
   go_ret;exact ⟨rfl,hb⟩
def obS (A:Option Addr):Option Nat:=A.map Addr.block
theorem qC (A:Option Addr) (n c:Nat):(Value.slice A n c).ownBlock=obS A:=by cases A <;> rfl
def obR (g:Nat) (A:Option Addr) (rs:List RowM):List (Option Nat):=some g::obS A::rs.map fun x=>obS x.A
structure ED (base g:Nat) (v:Vw) (rs:List RowM) (A:Option Addr) (c:Nat) (X:World):Prop where
 blk:Blk X g 83 (vwC v A rs.length c)
 rows:X.ownsRow base 45 1 (.slice A rs.length c) rs.length (zQ rs)
 gl : ∀ x∈rs,X.ownsRow base 64 3 (.slice x.A x.l.length x.cap) x.l.length (qi x.l)
 eq:v.rows=rls rs
 lo:base<=g
 dj:(obR g A rs).Pairwise Dj
theorem qw {X:World} {g n c:Nat} {t:TypeId} {v:Vw} {A:Option Addr} (h:Blk X g t (vwC v A n c)):X.cell? ⟨g,0,none⟩=some (.int .i64 v.width)/\X.cell? ⟨g,1,none⟩=some (.int .i64 v.height)/\X.cell? ⟨g,2,none⟩=some (.slice A n c)/\X.cell? ⟨g,3,none⟩=some (.int .i64 v.row)/\X.cell? ⟨g,4,none⟩=some (.int .i64 v.col)/\X.cell? ⟨g,5,none⟩=some (.bool v.vis) :=
 ⟨h.cell 0,h.cell 1,h.cell 2,h.cell 3,h.cell 4,h.cell 5⟩
section
variable {base g : Nat} {v : Vw} {rs : List RowM} {A : Option Addr} {c : Nat} {X X' : World}
theorem ED.below (h:ED base g v rs A c X) (hb:Below X.heap.size X X'):ED base g v rs A c X' :=
 ⟨h.blk.below hb h.blk.lt,qb h.rows hb,fun x hx=>qb (h.gl x hx) hb,h.eq,h.lo,h.dj⟩
theorem ED.drew (h:ED base g v rs A c X):ED base g v rs A c X.drew:=h.below (Le _ _).drew
end
theorem yd {w:World} {base size n c:Nat} {e:TypeId} {A:Option Addr} {xs:List Value} (h:w.ownsRow base e size (.slice A n c) n xs):n<=c/\c<=maxLen:=by
 rcases h.2 with ⟨h1,h2⟩ | ⟨g,cap,cur,h1,_,_,h3,h4,_⟩
 ·injection h1 with _ _ h1
  subst h1 h2;exact ⟨Ld _,by unfold maxLen;omega⟩
 ·injection h1 with _ _ h1
  subst h1;exact ⟨h3,h4⟩
theorem qe8 {w:World} {base c:Nat} {A:Option Addr} {l:List Gl} (h:w.ownsRow base 64 3 (.slice A l.length c) l.length (qi l)):RdG w w.heap.size ⟨l,A,c⟩ :=
 ⟨Rd.of_own h,(yd h).1,(yd h).2⟩
theorem vB {w:World} {base size n c:Nat} {e:TypeId} {A:Option Addr} {xs:List Value} (h:w.ownsRow base e size (.slice A n c) n xs) : ∀ k,obS A=some k->base<=k/\k<w.heap.size:=fun k hk=>h.lt k (by rw [qC];exact hk)
theorem Dj.fresh {a b:Option Nat} {N:Nat} (ha : ∀ k,a=some k->k<N) (hb : ∀ k,b=some k->N<=k):Dj a b:=fun k h1 h2=>by
 have:=ha k h1;have:=hb k h2
 omega
theorem qeX {l:List (Option Nat)} {x:Option Nat} (h:l.Pairwise Dj) (hx : ∀ y∈l,Dj y x):(l++[x]).Pairwise Dj:=by
 rw [List.pairwise_append];exact ⟨h,List.pairwise_singleton _ _,fun a ha b hb=>by rw [List.mem_singleton.1 hb];exact hx a ha⟩
theorem qeN (a b:List RowM):zQ (a++b)=zQ a++zQ b:=by simp [zQ]
theorem qeJ (rs:List RowM) (k:Nat) (x:RowM):zQ (rs.set k x)=(zQ rs).set k (.slice x.A x.l.length x.cap):=by
 unfold zQ;rw [List.map_set]
theorem qfd (rs:List RowM) (k:Nat) (x:RowM):rls (rs.set k x)=(rls rs).set k x.l:=by
 unfold rls;rw [List.map_set]
def OpI (w:World) (v:Vw) (rs:List RowM) (G n c1 k:Nat) (X:World):Prop :=
 ∃ cl:List RowM,cl.length=k/\Blk X w.heap.size 24 (vwC v (some ⟨G,0,none⟩) n c1)/\X.ownsRow w.heap.size 45 1 (.slice (some ⟨G,0,none⟩) n c1) n (zQ (cl++rs.drop k)) /\
  (∀ x∈cl,X.ownsRow w.heap.size 64 3 (.slice x.A x.l.length x.cap) x.l.length (qi x.l))/\rls cl=(rls rs).take k/\(some w.heap.size::some G::cl.map fun x=>obS x.A).Pairwise Dj/\Below w.heap.size w X
theorem OpI.drew {w X:World} {v:Vw} {rs:List RowM} {G n c1 k:Nat} (h:OpI w v rs G n c1 k X):OpI w v rs G n c1 k X.drew:=by
 obtain ⟨cl,h1,h2,h3,h4,h5,h6,h7⟩:=h;exact ⟨cl,h1,h2,h3,h4,h5,h6,h7.drew⟩
theorem OpI.next {w X w2:World} {v:Vw} {rs:List RowM} {G n c1 k:Nat} {A2:Option Addr} {c2:Nat} (h:OpI w v rs G n c1 k X) (hkl:k<rs.length) (hb:Below X.heap.size X w2) (o2:w2.ownsRow X.heap.size 64 3 (.slice A2 rs[k].l.length c2) rs[k].l.length (qi rs[k].l)) :
  OpI w v rs G n c1 (k+1) (w2.setCell ⟨G,k,none⟩ (.slice A2 rs[k].l.length c2)):=by
 obtain ⟨cl,hcl,hB,ho,hg,hr,hd,hbw⟩:=h;have hGlt:=(ho.lt G rfl).2;have hGlo:=(ho.lt G rfl).1;obtain ⟨hd1,hd2⟩:=List.pairwise_cons.1 hd;obtain ⟨hd3,hd4⟩:=List.pairwise_cons.1 hd2;have hne:w.heap.size≠G:=fun e=>hd1 (some G) L1 _ rfl (by rw [e])
 have hz:=hbw.size;have hfr : ∀ k,obS A2=some k->X.heap.size<=k:=fun k hk=>(vB o2 k hk).1
 have hdl : ∀ y∈some w.heap.size::some G::cl.map fun x=>obS x.A,Dj y (obS A2):=fun y hy=>by
  refine Dj.fresh (N:=X.heap.size) (fun j hj=>?_) hfr;subst hj
  rcases List.mem_cons.1 hy with hy | hy
  ·injection hy with hy;have:=hB.lt;omega
  ·rcases List.mem_cons.1 hy with hy | hy
   ·injection hy with hy;omega
   ·obtain ⟨x,hx,e⟩:=List.mem_map.1 hy;exact (vB (hg x hx) j e).2
 refine ⟨cl++[⟨rs[k].l,A2,c2⟩],by rw [Lf,hcl];rfl,(hB.below hb hB.lt).far (p:=⟨G,k,none⟩) hne _,?_,fun x hx=>?_,?_,?_,((hbw.trans (hb.mono hz)).setCell (p:=⟨G,k,none⟩) hGlo _)⟩
 ·have h2:=((qb ho hb).stored k (.slice A2 rs[k].l.length c2)).1;rw [show zQ ((cl++[⟨rs[k].l,A2,c2⟩])++rs.drop (k+1))=(zQ (cl++rs.drop k)).set k (.slice A2 rs[k].l.length c2) from ?_]
  ·exact h2
  ·rw [<- qeJ _ _ ⟨rs[k].l,A2,c2⟩,List.set_append_right _ _ L0,hcl,Nat.sub_self,Ls hkl,List.set_cons_zero,List.append_assoc,List.singleton_append]
 ·rcases List.mem_append.1 hx with hx | hx
  ·refine ownsRow_setCell_other (qb (hg x hx) hb) (fun e=>?_) _;rw [qC] at e;exact hd3 _ (List.mem_map_of_mem (f:=fun x=>obS x.A) hx) G rfl e
  ·obtain rfl:=List.mem_singleton.1 hx
   exact ownsRow_setCell_other (qt o2 L0) (fun e=>by
    rw [qC] at e;have:=hfr _ e;simp only at this
    omega) _
 ·unfold rls at hr ⊢;rw [List.map_append,hr,List.map_cons,List.map_nil,List.take_succ_eq_append_getElem (by rw [Lq];exact hkl),List.getElem_map]
 ·have:=qeX hd hdl
  simpa using this
theorem open_ (v:Vw) (A:Option Addr) (n c B:Nat) (rs:List RowM) (w:World) (rd:RdV w B v A n c rs) (hB:B<=w.heap.size) (h0:0<n) (hn:n<=1000) (hz : ∀ x∈rs,x.l.length<=1000000000) :
  Calls prog 37 #[.agg (vwC v A n c)] w fun e w'=>∃ g rs' A' c',e = .returned (.pointer (some ⟨g,0,none⟩))/\ED w.heap.size g v rs' A' c' w'/\Below w.heap.size w w':=by
 have HN:=Lh rd.1.len;have HRL:Hid (v.rows=rls rs):=Lh rd.2.1;have HC:Hid (∀ w',Below w.heap.size w w'->Calls prog 67 #[.slice A n c] w' (ql 45 1 id w' n (zQ rs))):=Lh fun w' hb=>clone_rs rs A n c w.heap.size w' L0 ((rd.1.rd.more hB).below hb) hb.size
 have HG:Hid (∀ x∈rs,∀ w',Below w.heap.size w w'->Calls prog 68 #[.slice x.A x.l.length x.cap] w' (ql 64 3 id w' x.l.length (qi x.l))):=Lh fun x hx w' hb=>qcd x.l x.A _ x.cap w.heap.size w' (hz x hx) (((rd.1.gl x hx).1.more hB).below hb) hb.size
 clear rd hz
 go_enter func37,ntmps37
 go_upto_region 1 with fail
 refine qa (VwBox w v A n c) (VwBox.new w v A n c) ?_;intro X hX;obtain ⟨c0,c1,c2,c3,c4,c5⟩:=hX.cells;have hb:=hX.2;have hzX:=hX.lt;have hfz:=hX.1.frozen 2
 go_upto_region 2 with (go_at_call 67;refine (HC.out _ hb).mono ?_;rintro e w1 ⟨A1,d1,rfl,o1,b1⟩;have hfz1:=(b1.frozen (p:=⟨w.heap.size,2,none⟩) hzX).trans hfz;have hc1:=(b1.cell (p:=⟨w.heap.size,2,none⟩) hzX).trans c2)
 obtain ⟨G,cap,hA,hG1,hG2⟩:=o1.form h0;obtain ⟨rfl,rfl⟩:A1=some ⟨G,0,none⟩/\d1=cap:=by injection hA with h1 _ h2;exact ⟨h1,h2⟩
 have hI:OpI w v rs G n d1 0 (w1.setCell ⟨w.heap.size,2,none⟩ (.slice (some ⟨G,0,none⟩) n d1)) :=
  ⟨[],rfl,(hX.1.below b1 hX.1.lt).set_ 2 _,qt (zZ o1 (p:=⟨w.heap.size,2,none⟩) hzX _) L0,fun x hx=>(by cases hx),rfl,by
   refine List.pairwise_cons.2 ⟨fun y hy=>?_,List.pairwise_singleton _ _⟩;rw [List.mem_singleton.1 hy];intro k h1 h2
   injection h1 with h1
   injection h2 with h2
   omega,(hb.trans (b1.mono L0)).setCell (Ld _) _⟩
 clear o1 hX hb hfz c0 c1 c2 c3 c4 c5 hA hG2;go_wp2;clear hc1 hfz1
 go_loopw [12] (fun x wr=>∃ k:Nat,k<=n/\x = .int .i64 k/\OpI w v rs G n d1 k wr) (fun x _=>n-(intOf x).toNat)
 case atStart=>exact ⟨0,Nat.zero_le _,rfl,hI⟩
 case round =>
  clear hI b1;obtain ⟨k,hk,rfl,hI⟩:=hrel;obtain ⟨cl,hcl,hB1,ho,hg,hr,hd,hb⟩:=id hI;replace hI:=Lh hI;have hzr:=hb.size
  by_cases hlt:k<n
  ·have hkl:k<rs.length:=by have:=HN.out;omega
   have hx:rs[k]∈rs:=Lt hkl;have HGk:=Lh (HG.out _ hx);have hcx:=ho.cellAt k L0;have hfr:=ho.frozenAt k;have hex:(zQ (cl++rs.drop k))[k]? = some (.slice rs[k].A rs[k].l.length rs[k].cap):=by
    rw [yF (by rw [Lf,List.length_drop];omega)]
    simp [List.getElem_append_right (show cl.length<=k by omega),hcl]
   rw [hex] at hcx;have HI:Hid (∀ X w2 A2 c2,OpI w v rs G n d1 k X->Below X.heap.size X w2->w2.ownsRow X.heap.size 64 3 (.slice A2 rs[k].l.length c2) rs[k].l.length (qi rs[k].l)->OpI w v rs G n d1 (k+1) (w2.setCell ⟨G,k,none⟩ (.slice A2 rs[k].l.length c2))):=Lh fun X w2 A2 c2 h1 h2 h3=>h1.next hkl h2 h3
   generalize rs[k]=x at *
   obtain ⟨l,Al,cx⟩:=x;dsimp only at *
   clear hex hx;have hc2:wr.cell? ⟨w.heap.size,2,none⟩=some (.slice (some ⟨G,0,none⟩) n d1):=hB1.cell 2;have hGw:=(ho.lt G rfl).2;go_wp2
   go_region_law (go_simp;go_at_call 68;refine (HGk.out _ (by first | exact hb | exact hb.drew)).mono ?_;rintro e w2 ⟨A2,c2,rfl,o2,b2⟩;have hc3:=(b2.cell (p:=⟨w.heap.size,2,none⟩) (Ly (Nat.lt_succ_self _) hB1.lt)).trans hc2;have hcx3:=(b2.cell (p:=⟨G,k,none⟩) hGw).trans hcx;have hfr3:=(b2.frozen (p:=⟨G,k,none⟩) hGw).trans hfr)
   all_goals go_wp2
   all_goals refine ⟨⟨k+1,by omega,by go_num,?_⟩,by simp [intOf];omega⟩
   all_goals exact HI.out _ _ _ _ (by first | exact hI.out | exact hI.out.drew) b2 o2
  ·obtain rfl:k=n:=by omega
   rw [Lv (by have:=HN.out;omega),List.append_nil] at ho;have hrr:v.rows=rls cl:=by rw [hr,HRL.out,List.take_of_length_le (by rw [vJ];have:=HN.out;omega)]
   obtain ⟨c0,c1,c2,c3,c4,c5⟩:=qw hB1;go_wp2;go_ret;refine ⟨wr.heap.size,cl,some ⟨G,0,none⟩,d1,rfl,⟨?_,?_,fun x hx=>(hg x hx).alloc _,hrr,hzr,?_⟩,hb.alloc hzr _⟩
   ·rw [hcl];exact Blk.new _ _ _
   ·rw [hcl];exact ho.alloc _
   ·obtain ⟨_,hd2⟩:=List.pairwise_cons.1 hd;refine List.pairwise_cons.2 ⟨fun y hy=>Dj.symm (Dj.fresh (N:=wr.heap.size) (fun j hj=>?_) (fun j hj=>by injection hj with hj;omega)),hd2⟩;subst hj
    rcases List.mem_cons.1 hy with hy | hy
    ·injection hy with hy
     rw [hy];exact (ho.lt G rfl).2
    ·obtain ⟨x,hx,e⟩:=List.mem_map.1 hy;exact (vB (hg x hx) j e).2
def vA (l:List Gl):Bool:=l.any fun g=>!qal g
theorem qjT (l:List Gl) (A:Option Addr) (n c B:Nat) (w:World) (hn:n<=1000000000) (rd:Rd w B 3 A n (qi l)) (hB:B<=w.heap.size) (hz : ∀ g∈l,g.text.size<=1000000000) (hu:U8 w) :
  Calls prog 96 #[.slice A n c,(Value.func (.func 64) #[] #[])] w fun e w'=>(∃ x:Int,e = .returned (.int .i64 x)/\(0<=x↔vA l=true))/\Below w.heap.size w w':=by
 have HN:=Lh (jK rd);have HR:=Lh rd;have HF:Hid (vA l=vA (l.drop 0)):=Lh rfl;have HV:Hid (∀ g∈l,∀ w',Below w.heap.size w w'->Calls prog 64 #[glV g] w' (qh (.bool (!qal g)) w')):=Lh fun g hg w' hw=>qjA g (hz g hg) w' (hu.below hw)
 generalize vA l=R at *
 clear hz hu rd
 go_enter func96,ntmps96
 go_wp2
 go_loopw [8] (fun x wr=>∃ k:Nat,k<=n/\x = .int .i64 k/\Below w.heap.size w wr/\Hid (R=vA (l.drop k))) (fun x _=>n-(intOf x).toNat)
 case atStart=>exact ⟨0,Nat.zero_le _,rfl,Le _ _,HF⟩
 case round =>
  obtain ⟨k,hk,rfl,hbel,HK⟩:=hrel
  by_cases hlt:k<n
  ·have hkl:k<l.length:=by have:=HN.out;omega
   obtain ⟨b,o,rfl,hbB,g0,g1,g2⟩:=jE (HR.out.below (hbel.mono hB)) hkl HN.out;have HD:Hid (vA (l.drop k)=(!qal l[k] || vA (l.drop (k+1)))):=Lh (by rw [Ls hkl];rfl);have HVk:=Lh (HV.out l[k] (Lt hkl) wr hbel);generalize l[k]=g at *
   obtain ⟨t,wd,st⟩:=g;dsimp only at *
   cases hv:qal ⟨t,wd,st⟩ with
   | false =>
    rw [hv] at HVk;have HR2:Hid (R=true):=Lh (by rw [HK.out,HD.out,hv];rfl);clear HK HD hv HV HR
    go_wp2_with (go_at_call 64;refine HVk.out.mono ?_;rintro e w1 ⟨rfl,hb1⟩)
    go_ret;exact ⟨⟨k,rfl,by rw [HR2.out];simp⟩,hbel.trans (hb1.mono hbel.size)⟩
   | true =>
    rw [hv] at HVk;have HR2:Hid (R=vA (l.drop (k+1))):=Lh (by rw [HK.out,HD.out,hv];rfl);clear HK HD hv HV HR
    go_wp2_with (go_at_call 64;refine HVk.out.mono ?_;rintro e w1 ⟨rfl,hb1⟩)
    exact ⟨⟨k+1,by omega,by go_num,hbel.trans (hb1.mono hbel.size),HR2⟩,by simp [intOf];omega⟩
  ·have HR2:Hid (R=false):=Lh (by rw [HK.out,Lv (by have:=HN.out;omega)];rfl);go_wp2;go_ret;exact ⟨⟨-1,rfl,by rw [HR2.out];simp⟩,hbel⟩
theorem qfq (l:List Gl) (A:Option Addr) (n c B:Nat) (w:World) (hn:n<=1000000000) (rd:Rd w B 3 A n (qi l)) (hB:B<=w.heap.size) (hz : ∀ g∈l,g.text.size<=1000000000) (hu:U8 w) :
  Calls prog 63 #[.slice A n c,(Value.func (.func 64) #[] #[])] w (qh (.bool (vA l)) w):=by
 have HI:=Lh (qjT l A n c B w hn rd hB hz hu);generalize vA l=R at *
 clear rd hz hu
 go_enter func63,ntmps63
 go_wp2_with (go_at_call 96;refine HI.out.mono ?_;rintro e w1 ⟨⟨x,rfl,hx⟩,hb1⟩)
 go_ret;exact ⟨rfl,hb1⟩
def ChgBox (w:World) (c:Chg) (A:Option Addr) (cap:Nat) (wx:World):Prop :=
 wx.cell? ⟨w.heap.size,0,none⟩=some (.int .i64 c.kind)/\wx.cell? ⟨w.heap.size,1,none⟩=some (.int .i64 c.row)/\wx.cell? ⟨w.heap.size,2,none⟩=some (.int .i64 c.col)/\wx.cell? ⟨w.heap.size,3,none⟩=some (.int .i64 c.count)/\wx.cell? ⟨w.heap.size,4,none⟩=some (.int .i64 c.til)/\wx.cell? ⟨w.heap.size,5,none⟩=some (.slice A c.glyphs.length cap)/\Below w.heap.size w wx/\w.heap.size+1<=wx.heap.size
theorem ChgBox.new (w:World) (c:Chg) (A:Option Addr) (cap:Nat) (ty:TypeId):ChgBox w c A cap (w.alloc (.cells #[.int .i64 c.kind,.int .i64 c.row,.int .i64 c.col,.int .i64 c.count,.int .i64 c.til,.slice A c.glyphs.length cap] ty)) :=
 ⟨qu w _ _ 0,qu w _ _ 1,qu w _ _ 2,qu w _ _ 3,qu w _ _ 4,qu w _ _ 5,L5,by simp⟩
theorem ChgBox.on {w wx wy:World} {c:Chg} {A:Option Addr} {cap:Nat} (h:ChgBox w c A cap wx) (hb:Below wx.heap.size wx wy):ChgBox w c A cap wy:=by
 obtain ⟨h0,h1,h2,h3,h4,h5,h6,h7⟩:=h;have k : ∀ i,wy.cell? ⟨w.heap.size,i,none⟩=wx.cell? ⟨w.heap.size,i,none⟩:=fun i=>hb.cell L7
 exact ⟨(k 0).trans h0,(k 1).trans h1,(k 2).trans h2,(k 3).trans h3,(k 4).trans h4,(k 5).trans h5,h6.trans (hb.mono L0),by have:=hb.size;omega⟩
theorem any_all (l:List Gl):(!vA l)=l.all fun g=>decide (qJ g=0):=by
 unfold vA
 induction l with
 | nil=>rfl
 | cons g t ih=>rw [List.any_cons,List.all_cons,<- ih,Bool.not_or,Bool.not_not];rfl
def jL (RG OT big:Bool):Int:=if RG=false then 2 else if big=true then 5 else if OT=false then 1 else 0
theorem qiy {row col count til:Int} {g:List Gl}:vj ⟨1,row,col,count,til,g⟩=jL (inB row 1 60&&inB col 1 132) (decide (count=0)&&decide (til=0)&&decide (g.length=0)) false:=by
 have e1:je ⟨1,row,col,count,til,g⟩=(inB row 1 60&&inB col 1 132):=by
  rw [Bool.eq_iff_iff];simp [je,inB];omega
 have e2:jk ⟨1,row,col,count,til,g⟩=(decide (count=0)&&decide (til=0)&&decide (g.length=0)):=by
  rw [Bool.eq_iff_iff];simp [jk,and_assoc]
 simp only [vj,jL,e1,e2]
 simp
theorem qin {row col count til:Int} {g:List Gl}:vj ⟨2,row,col,count,til,g⟩=jL (inB row 0 59&&inB til (row+1) 60&&inB count (-60) 60&&decide (count≠0)) (decide (col=0)&&decide (g.length=0)) false:=by
 have e1:je ⟨2,row,col,count,til,g⟩=(inB row 0 59&&inB til (row+1) 60&&inB count (-60) 60&&decide (count≠0)):=by
  rw [Bool.eq_iff_iff];simp [je,inB];omega
 have e2:jk ⟨2,row,col,count,til,g⟩=(decide (col=0)&&decide (g.length=0)):=by
  rw [Bool.eq_iff_iff];simp [jk]
 simp only [vj,jL,e1,e2]
 simp
theorem qeh {row col count til:Int} {g:List Gl}:vj ⟨3,row,col,count,til,g⟩=jL (inB row 0 59&&inB col 0 132&&inB count 0 132) (decide (til=0)&&!vA g) (decide (132<g.length)):=by
 have e1:je ⟨3,row,col,count,til,g⟩=(inB row 0 59&&inB col 0 132&&inB count 0 132):=by
  rw [Bool.eq_iff_iff];simp [je,inB];omega
 have e2:jk ⟨3,row,col,count,til,g⟩=(decide (til=0)&&!vA g):=by
  rw [any_all];rfl
 simp only [vj,jL,e1,e2]
 simp
theorem qfB {row col count til:Int} {g:List Gl}:vj ⟨4,row,col,count,til,g⟩=jL (inB row 0 59&&inB col 0 131&&inB count 0 1) (decide (til=0)&&decide (g.length=0)) false:=by
 have e1:je ⟨4,row,col,count,til,g⟩=(inB row 0 59&&inB col 0 131&&inB count 0 1):=by
  rw [Bool.eq_iff_iff];simp [je,inB];omega
 have e2:jk ⟨4,row,col,count,til,g⟩=(decide (til=0)&&decide (g.length=0)):=by
  rw [Bool.eq_iff_iff];simp [jk]
 simp only [vj,jL,e1,e2]
 simp
theorem qff {n a b:Int} (h:inB n a b=true):a<=n/\n<=b:=by
 unfold inB at h
 simpa using h
theorem qhI (row col count til:Int) (g:List Gl) (A:Option Addr) (cap:Nat) (w:World):Calls prog 35 #[jH ⟨1,row,col,count,til,g⟩ A cap] w (qh (.int .i64 (vj ⟨1,row,col,count,til,g⟩)) w):=by
 rw [qiy];obtain ⟨RG,hRG⟩ : ∃ x,x=(inB row 1 60&&inB col 1 132):=⟨_,rfl⟩
 obtain ⟨OT,hOT⟩ : ∃ x,x=(decide (count=0)&&decide (til=0)&&decide (g.length=0)):=⟨_,rfl⟩
 rw [<- hRG,<- hOT];replace hRG:=Lh hRG;replace hOT:=Lh hOT;have HRG:=hRG;have HOT:=hOT
 go_enter func35,ntmps35
 go_upto_region 1 with fail
 refine qa (ChgBox w ⟨1,row,col,count,til,g⟩ A cap) (ChgBox.new w ⟨1,row,col,count,til,g⟩ A cap _) ?_;intro X hX;obtain ⟨c0,c1,c2,c3,c4,c5,hb,hzX⟩:=id hX;dsimp only at c0 c1 c2 c3 c4 c5
 go_upto_block 0 with (go_at_call 62;refine (qaG _ _ _ _).mono ?_;rintro e wy ⟨rfl,rfl⟩)
 generalize hz0:inB row 0 59=z0 at *
 have HZ0:=Lh hz0;clear hz0
 go_cut [4,5] (fun v4 v5 wx=>v4 = .bool RG/\v5 = .bool OT/\ChgBox w ⟨1,row,col,count,til,g⟩ A cap wx)
 case first =>
  go_upto_region 6 with fail
  go_cut [4] (fun v wx=>v = .bool RG/\wx=X)
  case first =>
   clear HOT hOT
   cases h1:inB row 1 60 with
   | false =>
    have e:Hid (RG=false):=Lh (by rw [HRG.out,h1];rfl);clear HRG hRG
    go_wp2_with (go_at_call 62;refine (qaG _ _ _ _).mono ?_;rintro e wy ⟨rfl,rfl⟩)
    go_meet;exact ⟨by rw [e.out],rfl⟩
   | true =>
    have e:Hid (RG=inB col 1 132):=Lh (by rw [HRG.out,h1];rfl);clear HRG hRG
    go_wp2_with (go_at_call 62;refine (qaG _ _ _ _).mono ?_;rintro e wy ⟨rfl,rfl⟩)
    go_meet;exact ⟨by rw [e.out],rfl⟩
  case rest =>
   obtain ⟨rfl,hwc⟩:=hcut;rw [hwc];clear hwc HRG hRG;have HX:=Lh hX;clear hX
   by_cases h1:count=0
   ·by_cases h2:til=0
    ·have e:Hid (OT=decide (g.length=0)):=Lh (by rw [HOT.out,Ll h1,Ll h2];rfl);have e2:((g.length:Int)==0)=decide (g.length=0):=by rw [Bool.eq_iff_iff];simp
     clear HOT hOT;generalize decide (g.length=0)=DL at *
     rw [h1] at c3;rw [h2] at c4;go_wp2;go_meet;exact ⟨rfl,by rw [e.out],HX.out⟩
    ·have e:Hid (OT=false):=Lh (by rw [HOT.out,Lk h2,Bool.and_false];rfl);have e2:(til==0)=false:=Lm.2 h2;clear HOT hOT h2;rw [h1] at c3;go_wp2;go_meet;exact ⟨rfl,by rw [e.out],HX.out⟩
   ·have e:Hid (OT=false):=Lh (by rw [HOT.out,Lk h1];rfl);have e2:(count==0)=false:=Lm.2 h1;clear HOT hOT h1;go_wp2;go_meet;exact ⟨rfl,by rw [e.out],HX.out⟩
 case rest =>
  obtain ⟨rfl,rfl,hX⟩:=hcut;clear HRG HOT hRG hOT c0 c1 c2 c3 c4 c5;obtain ⟨c0,c1,c2,c3,c4,c5,hb2,hz2⟩:=hX;dsimp only at c0 c1 c2 c3 c4 c5
  cases RG with
  | false =>
   go_wp2;go_ret;exact ⟨rfl,hb2⟩
  | true =>
   cases OT with
   | false =>
    go_wp2;go_ret;exact ⟨rfl,hb2⟩
   | true =>
    go_wp2;go_ret;exact ⟨rfl,hb2⟩
theorem qhq (row col count til:Int) (g:List Gl) (A:Option Addr) (cap:Nat) (w:World):Calls prog 35 #[jH ⟨2,row,col,count,til,g⟩ A cap] w (qh (.int .i64 (vj ⟨2,row,col,count,til,g⟩)) w):=by
 rw [qin];obtain ⟨RG,hRG⟩ : ∃ x,x=(inB row 0 59&&inB til (row+1) 60&&inB count (-60) 60&&decide (count≠0)):=⟨_,rfl⟩
 obtain ⟨OT,hOT⟩ : ∃ x,x=(decide (col=0)&&decide (g.length=0)):=⟨_,rfl⟩
 rw [<- hRG,<- hOT];replace hRG:=Lh hRG;replace hOT:=Lh hOT;have HRG:=hRG;have HOT:=hOT
 go_enter func35,ntmps35
 go_upto_region 1 with fail
 refine qa (ChgBox w ⟨2,row,col,count,til,g⟩ A cap) (ChgBox.new w ⟨2,row,col,count,til,g⟩ A cap _) ?_;intro X hX;obtain ⟨c0,c1,c2,c3,c4,c5,hb,hzX⟩:=id hX;dsimp only at c0 c1 c2 c3 c4 c5
 go_upto_block 0 with (go_at_call 62;refine (qaG _ _ _ _).mono ?_;rintro e wy ⟨rfl,rfl⟩)
 generalize hz0:inB row 0 59=z0 at *
 have HZ0:=Lh hz0;clear hz0
 go_cut [4,5] (fun v4 v5 wx=>v4 = .bool RG/\v5 = .bool OT/\ChgBox w ⟨2,row,col,count,til,g⟩ A cap wx)
 case first =>
  go_upto_region 9 with fail
  go_cut [4] (fun v wx=>v = .bool RG/\wx=X)
  case first =>
   clear HOT hOT
   cases z0 with
   | false =>
    have e:Hid (RG=false):=Lh (by rw [HRG.out];rfl);clear HRG hRG
    go_wp2_with (go_at_call 62;refine (qaG _ _ _ _).mono ?_;rintro e wy ⟨rfl,rfl⟩)
    go_meet;exact ⟨by rw [e.out],rfl⟩
   | true =>
    obtain ⟨r0,r1⟩:=qff HZ0.out;have hwr:IntKind.i64.wrap (row+1)=row+1:=by rw [Lx];omega
    cases h1:inB til (row+1) 60 with
    | false =>
     have e:Hid (RG=false):=Lh (by rw [HRG.out,h1];rfl);clear HRG hRG
     go_wp2_with (go_at_call 62;refine (qaG _ _ _ _).mono ?_;rintro e wy ⟨rfl,rfl⟩)
     go_meet;exact ⟨by rw [e.out],rfl⟩
    | true =>
     cases h2:inB count (-60) 60 with
     | false =>
      have e:Hid (RG=false):=Lh (by rw [HRG.out,h1,h2];rfl);clear HRG hRG
      go_wp2_with (go_at_call 62;refine (qaG _ _ _ _).mono ?_;rintro e wy ⟨rfl,rfl⟩)
      go_meet;exact ⟨by rw [e.out],rfl⟩
     | true =>
      by_cases h3:count=0
      ·have e:Hid (RG=false):=Lh (by rw [HRG.out,h1,h2,Lk (fun h=>h h3)];rfl);have e3:(count != 0)=false:=by simp [h3]
       clear HRG hRG h3
       go_wp2_with (go_at_call 62;refine (qaG _ _ _ _).mono ?_;rintro e wy ⟨rfl,rfl⟩)
       go_meet;exact ⟨by rw [e.out],rfl⟩
      ·have e:Hid (RG=true):=Lh (by rw [HRG.out,h1,h2,Ll h3];rfl);have e3:(count != 0)=true:=Ln.2 h3;clear HRG hRG h3
       go_wp2_with (go_at_call 62;refine (qaG _ _ _ _).mono ?_;rintro e wy ⟨rfl,rfl⟩)
       go_meet;exact ⟨by rw [e.out],rfl⟩
  case rest =>
   obtain ⟨rfl,hwc⟩:=hcut;rw [hwc];clear hwc HRG hRG;have HX:=Lh hX;clear hX
   by_cases h1:col=0
   ·have e:Hid (OT=decide (g.length=0)):=Lh (by rw [HOT.out,Ll h1];rfl);have e2:((g.length:Int)==0)=decide (g.length=0):=by rw [Bool.eq_iff_iff];simp
    clear HOT hOT;generalize decide (g.length=0)=DL at *
    rw [h1] at c2;go_wp2;go_meet;exact ⟨rfl,by rw [e.out],HX.out⟩
   ·have e:Hid (OT=false):=Lh (by rw [HOT.out,Lk h1];rfl);have e2:(col==0)=false:=Lm.2 h1;clear HOT hOT h1;go_wp2;go_meet;exact ⟨rfl,by rw [e.out],HX.out⟩
 case rest =>
  obtain ⟨rfl,rfl,hX⟩:=hcut;clear HRG HOT hRG hOT c0 c1 c2 c3 c4 c5;obtain ⟨c0,c1,c2,c3,c4,c5,hb2,hz2⟩:=hX;dsimp only at c0 c1 c2 c3 c4 c5
  cases RG with
  | false =>
   go_wp2;go_ret;exact ⟨rfl,hb2⟩
  | true =>
   cases OT with
   | false =>
    go_wp2;go_ret;exact ⟨rfl,hb2⟩
   | true =>
    go_wp2;go_ret;exact ⟨rfl,hb2⟩
theorem qfb (row col count til:Int) (g:List Gl) (A:Option Addr) (cap:Nat) (w:World) (B:Nat) (hn:g.length<=1000000000) (rd:Rd w B 3 A g.length (qi g)) (hB:B<=w.heap.size) (hz : ∀ x∈g,x.text.size<=1000000000) (hu:U8 w):Calls prog 35 #[jH ⟨3,row,col,count,til,g⟩ A cap] w (qh (.int .i64 (vj ⟨3,row,col,count,til,g⟩)) w):=by
 rw [qeh];obtain ⟨RG,hRG⟩ : ∃ x,x=(inB row 0 59&&inB col 0 132&&inB count 0 132):=⟨_,rfl⟩
 obtain ⟨OT,hOT⟩ : ∃ x,x=(decide (til=0)&&!vA g):=⟨_,rfl⟩
 rw [<- hRG,<- hOT];replace hRG:=Lh hRG;replace hOT:=Lh hOT;have HRG:=hRG;have HOT:=hOT;obtain ⟨BI,hBI⟩ : ∃ x,x=decide (132<g.length):=⟨_,rfl⟩
 rw [<- hBI];replace hBI:=Lh hBI;have HCb:Hid (∀ w',Below w.heap.size w w'->Calls prog 63 #[.slice A g.length cap,(Value.func (.func 64) #[] #[])] w' (qh (.bool (vA g)) w')):=Lh fun w' hw=>qfq g A _ cap B w' hn (rd.below (hw.mono hB)) (Lj hB hw.size) hz (hu.below hw)
 clear rd hz hu
 go_enter func35,ntmps35
 go_upto_region 1 with fail
 refine qa (ChgBox w ⟨3,row,col,count,til,g⟩ A cap) (ChgBox.new w ⟨3,row,col,count,til,g⟩ A cap _) ?_;intro X hX;obtain ⟨c0,c1,c2,c3,c4,c5,hb,hzX⟩:=id hX;dsimp only at c0 c1 c2 c3 c4 c5
 go_upto_block 0 with (go_at_call 62;refine (qaG _ _ _ _).mono ?_;rintro e wy ⟨rfl,rfl⟩)
 generalize hz0:inB row 0 59=z0 at *
 have HZ0:=Lh hz0;clear hz0
 go_cut [4,5] (fun v4 v5 wx=>v4 = .bool RG/\v5 = .bool OT/\ChgBox w ⟨3,row,col,count,til,g⟩ A cap wx)
 case first =>
  go_upto_region 12 with fail
  go_cut [4] (fun v wx=>v = .bool RG/\wx=X)
  case first =>
   clear HOT hOT HCb
   cases z0 with
   | false =>
    have e:Hid (RG=false):=Lh (by rw [HRG.out];rfl);clear HRG hRG
    go_wp2_with (go_at_call 62;refine (qaG _ _ _ _).mono ?_;rintro e wy ⟨rfl,rfl⟩)
    go_meet;exact ⟨by rw [e.out],rfl⟩
   | true =>
    cases h1:inB col 0 132 with
    | false =>
     have e:Hid (RG=false):=Lh (by rw [HRG.out,h1];rfl);clear HRG hRG
     go_wp2_with (go_at_call 62;refine (qaG _ _ _ _).mono ?_;rintro e wy ⟨rfl,rfl⟩)
     go_meet;exact ⟨by rw [e.out],rfl⟩
    | true =>
     have e:Hid (RG=inB count 0 132):=Lh (by rw [HRG.out,h1];rfl);clear HRG hRG
     go_wp2_with (go_at_call 62;refine (qaG _ _ _ _).mono ?_;rintro e wy ⟨rfl,rfl⟩)
     go_meet;exact ⟨by rw [e.out],rfl⟩
  case rest =>
   obtain ⟨rfl,hwc⟩:=hcut;rw [hwc];clear hwc HRG hRG;have HX:=Lh hX;clear hX
   by_cases h1:til=0
   ·have e:Hid (OT = !vA g):=Lh (by rw [HOT.out,Ll h1];rfl);clear HOT hOT;generalize vA g=AB at *
    rw [h1] at c4;clear h1
    go_wp2_with (go_at_call 63;refine (HCb.out _ hb).mono ?_;rintro e' wy ⟨rfl,hby⟩)
    go_meet;exact ⟨rfl,by rw [e.out],HX.out.on hby⟩
   ·have e:Hid (OT=false):=Lh (by rw [HOT.out,Lk h1];rfl);have e2:(til==0)=false:=Lm.2 h1;clear HOT hOT h1 HCb;go_wp2;go_meet;exact ⟨rfl,by rw [e.out],HX.out⟩
 case rest =>
  obtain ⟨rfl,rfl,hX⟩:=hcut;clear HRG HOT hRG hOT c0 c1 c2 c3 c4 c5 HCb;obtain ⟨c0,c1,c2,c3,c4,c5,hb2,hz2⟩:=hX;dsimp only at c0 c1 c2 c3 c4 c5
  cases RG with
  | false =>
   go_wp2;go_ret;exact ⟨rfl,hb2⟩
  | true =>
   cases BI with
   | true =>
    have hbi:(132:Int)<g.length:=by have:=of_decide_eq_true hBI.out.symm;omega
    clear hBI;go_wp2;go_ret;exact ⟨rfl,hb2⟩
   | false =>
    have hbi : ¬ (132:Int)<g.length:=by have:=of_decide_eq_false hBI.out.symm;omega
    clear hBI
    cases OT with
    | false =>
     go_wp2;go_ret;exact ⟨rfl,hb2⟩
    | true =>
     go_wp2;go_ret;exact ⟨rfl,hb2⟩
theorem qgh (row col count til:Int) (g:List Gl) (A:Option Addr) (cap:Nat) (w:World):Calls prog 35 #[jH ⟨4,row,col,count,til,g⟩ A cap] w (qh (.int .i64 (vj ⟨4,row,col,count,til,g⟩)) w):=by
 rw [qfB];obtain ⟨RG,hRG⟩ : ∃ x,x=(inB row 0 59&&inB col 0 131&&inB count 0 1):=⟨_,rfl⟩
 obtain ⟨OT,hOT⟩ : ∃ x,x=(decide (til=0)&&decide (g.length=0)):=⟨_,rfl⟩
 rw [<- hRG,<- hOT];replace hRG:=Lh hRG;replace hOT:=Lh hOT;have HRG:=hRG;have HOT:=hOT
 go_enter func35,ntmps35
 go_upto_region 1 with fail
 refine qa (ChgBox w ⟨4,row,col,count,til,g⟩ A cap) (ChgBox.new w ⟨4,row,col,count,til,g⟩ A cap _) ?_;intro X hX;obtain ⟨c0,c1,c2,c3,c4,c5,hb,hzX⟩:=id hX;dsimp only at c0 c1 c2 c3 c4 c5
 go_upto_block 0 with (go_at_call 62;refine (qaG _ _ _ _).mono ?_;rintro e wy ⟨rfl,rfl⟩)
 generalize hz0:inB row 0 59=z0 at *
 have HZ0:=Lh hz0;clear hz0
 go_cut [4,5] (fun v4 v5 wx=>v4 = .bool RG/\v5 = .bool OT/\ChgBox w ⟨4,row,col,count,til,g⟩ A cap wx)
 case first =>
  go_upto_region 15 with fail
  go_cut [4] (fun v wx=>v = .bool RG/\wx=X)
  case first =>
   clear HOT hOT
   cases z0 with
   | false =>
    have e:Hid (RG=false):=Lh (by rw [HRG.out];rfl);clear HRG hRG
    go_wp2_with (go_at_call 62;refine (qaG _ _ _ _).mono ?_;rintro e wy ⟨rfl,rfl⟩)
    go_meet;exact ⟨by rw [e.out],rfl⟩
   | true =>
    cases h1:inB col 0 131 with
    | false =>
     have e:Hid (RG=false):=Lh (by rw [HRG.out,h1];rfl);clear HRG hRG
     go_wp2_with (go_at_call 62;refine (qaG _ _ _ _).mono ?_;rintro e wy ⟨rfl,rfl⟩)
     go_meet;exact ⟨by rw [e.out],rfl⟩
    | true =>
     have e:Hid (RG=inB count 0 1):=Lh (by rw [HRG.out,h1];rfl);clear HRG hRG
     go_wp2_with (go_at_call 62;refine (qaG _ _ _ _).mono ?_;rintro e wy ⟨rfl,rfl⟩)
     go_meet;exact ⟨by rw [e.out],rfl⟩
  case rest =>
   obtain ⟨rfl,hwc⟩:=hcut;rw [hwc];clear hwc HRG hRG;have HX:=Lh hX;clear hX
   by_cases h1:til=0
   ·have e:Hid (OT=decide (g.length=0)):=Lh (by rw [HOT.out,Ll h1];rfl);have e2:((g.length:Int)==0)=decide (g.length=0):=by rw [Bool.eq_iff_iff];simp
    clear HOT hOT;generalize decide (g.length=0)=DL at *
    rw [h1] at c4;go_wp2;go_meet;exact ⟨rfl,by rw [e.out],HX.out⟩
   ·have e:Hid (OT=false):=Lh (by rw [HOT.out,Lk h1];rfl);have e2:(til==0)=false:=Lm.2 h1;clear HOT hOT h1;go_wp2;go_meet;exact ⟨rfl,by rw [e.out],HX.out⟩
 case rest =>
  obtain ⟨rfl,rfl,hX⟩:=hcut;clear HRG HOT hRG hOT c0 c1 c2 c3 c4 c5;obtain ⟨c0,c1,c2,c3,c4,c5,hb2,hz2⟩:=hX;dsimp only at c0 c1 c2 c3 c4 c5
  cases RG with
  | false =>
   go_wp2;go_ret;exact ⟨rfl,hb2⟩
  | true =>
   cases OT with
   | false =>
    go_wp2;go_ret;exact ⟨rfl,hb2⟩
   | true =>
    go_wp2;go_ret;exact ⟨rfl,hb2⟩
theorem qhv (c:Chg) (A:Option Addr) (cap:Nat) (w:World) (h1:c.kind≠1) (h2:c.kind≠2) (h3:c.kind≠3) (h4:c.kind≠4):Calls prog 35 #[jH c A cap] w (qh (.int .i64 (vj c)) w):=by
 have e:vj c=9:=if_pos L0;rw [e];obtain ⟨kind,row,col,count,til,g⟩:=c;have b1:(kind==1)=false:=Lm.2 h1;have b2:(kind==2)=false:=Lm.2 h2;have b3:(kind==3)=false:=Lm.2 h3;have b4:(kind==4)=false:=Lm.2 h4;clear e h1 h2 h3 h4
 go_enter func35,ntmps35
 go_upto_region 1 with fail
 refine qa (ChgBox w ⟨kind,row,col,count,til,g⟩ A cap) (ChgBox.new w ⟨kind,row,col,count,til,g⟩ A cap _) ?_;rintro X ⟨c0,c1,c2,c3,c4,c5,hb,hzX⟩;dsimp only at c0 c1 c2 c3 c4 c5
 go_wp2_with (go_at_call 62;refine (qaG _ _ _ _).mono ?_;rintro e wy ⟨rfl,rfl⟩)
 go_ret;exact ⟨rfl,hb⟩
theorem ucheck_ (c:Chg) (A:Option Addr) (cap B:Nat) (w:World) (hn:c.glyphs.length<=1000000000) (rd:Rd w B 3 A c.glyphs.length (qi c.glyphs)) (hB:B<=w.heap.size) (hz : ∀ x∈c.glyphs,x.text.size<=1000000000) (hu:U8 w) :
  Calls prog 35 #[jH c A cap] w (qh (.int .i64 (vj c)) w):=by
 by_cases h1:c.kind=1
 ·obtain ⟨kind,row,col,count,til,g⟩:=c;obtain rfl:kind=1:=h1;exact qhI row col count til g A cap w
 ·by_cases h2:c.kind=2
  ·obtain ⟨kind,row,col,count,til,g⟩:=c;obtain rfl:kind=2:=h2;exact qhq row col count til g A cap w
  ·by_cases h3:c.kind=3
   ·obtain ⟨kind,row,col,count,til,g⟩:=c;obtain rfl:kind=3:=h3;exact qfb row col count til g A cap w B hn rd hB hz hu
   ·by_cases h4:c.kind=4
    ·obtain ⟨kind,row,col,count,til,g⟩:=c;obtain rfl:kind=4:=h4;exact qgh row col count til g A cap w
    ·exact qhv c A cap w h1 h2 h3 h4
end Go.Proofs.YtbogmeeijdaijaaGreatDoor
