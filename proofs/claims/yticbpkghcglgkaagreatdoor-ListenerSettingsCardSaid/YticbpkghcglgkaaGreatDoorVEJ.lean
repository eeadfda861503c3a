/- Joined: Lw2, Up2, Up4, SpC, Up3, Ul0, Ul1, BdQ, Ul3, Lw3, Lw4, Lw5, Lw6, Lw8, Ls1, Ls2, Ls3, Vc2, LxS. -/
import Derived.RangeFuncNested
import Derived.RangeFuncBound
import Derived.RangeFuncCalls
import Derived.RangeFuncLeaves
import Derived.RangeFuncBox
import Derived.Shelf.Abstract
import Derived.OwnWalkIn
import Derived.TacticsInMore
import Derived.LoopNIn
import Derived.LoopIn
import Derived.Sort.CutIn
import Derived.Shelf.RegionOpen
import Derived.Test.YticbpkghcglgkaaGreatDoorVBU
import Derived.Test.YticbpkghcglgkaaGreatDoorVEI
set_option linter.unusedVariables false
set_option linter.unusedSimpArgs false
set_option linter.unnecessarySimpa false
set_option maxHeartbeats 4000000
namespace Go.Proofs.YticbpkghcglgkaaGreatDoor
open Go.Proofs.Tryz Go.RowKit
set_option maxRecDepth 20000
theorem wdr_more {w:World} {B B' n c:Nat} {l:List ByteArray} {A:Option Addr} (h:WdR w B l A n c) (hb:B<=B'):WdR w B' l A n c:=⟨h.len,h.cap,h.max,h.rd.more hb,h.sz⟩
theorem HrX.facts {w X:World} {W H r cl U:Int} {rows:List (List Gl)} {vs:Bool} {A:Option Addr} {n c:Nat} (h:HrX w ⟨⟨W,H,rows,r,cl,vs⟩,U⟩ A n c X) :
  X.cell? ⟨w.heap.size,0,none⟩=some (.int .i64 W)/\X.cell? ⟨w.heap.size,1,none⟩=some (.int .i64 H)/\X.cell? ⟨w.heap.size,2,none⟩=some (.slice A n c)/\X.cell? ⟨w.heap.size,3,none⟩=some (.int .i64 r)/\X.cell? ⟨w.heap.size,4,none⟩=some (.int .i64 cl)/\X.cell? ⟨w.heap.size,5,none⟩=some (.bool vs)/\X.cell? ⟨w.heap.size,6,none⟩=some (.int .i64 U)/\w.heap.size+1<X.heap.size/\Below w.heap.size w X :=
 ⟨h.1.cell 0,h.1.cell 1,h.1.cell 2,h.1.cell 3,h.1.cell 4,h.1.cell 5,h.1.cell 6,h.2.1.lt,h.2.2⟩
theorem hear_ (m:Md) (A:Option Addr) (n c B:Nat) (rs:List RowM) (l:List ByteArray) (Aw:Option Addr) (nw cw:Nat) (w:World) (rd:RdV w B m.view A n c rs) (hB:B<=w.heap.size) (hM : ∀ x∈rs,x.l.length<=1000) (hz : ∀ x∈rs,∀ g∈x.l,g.text.size<=1000000000)
  (hW:WdR w w.heap.size l Aw nw cw) (hl:l.length<=400000) (hF : ∀ cs k,jm l=some (cs,k)->Few cs k) (hs:Sp w) (hu:U8 w) (hy:Sty w) :
  Calls prog 11 #[.agg (mdC m A n c),.slice Aw nw cw] w (MdR (yT m l) w):=by
 have HP:Hid (∀ w',Below w.heap.size w w'->Calls prog 27 #[.agg (mdC m A n c)] w' (qh (.bool (vu m)) w')):=Lh fun w' hb=>proper_ m A n c w.heap.size rs w' ((rd.more hB).below hb) hb.size (fun x hx=>⟨Nat.le_trans (hM x hx) (by decide),hz x hx⟩) (hu.below hb)
 have HC:Hid (∀ w',Below w.heap.size w w'->Calls prog 28 #[.slice Aw nw cw] w' (ChR (jm l) w')):=Lh fun w' hb=>qkg l Aw nw cw w' (wdr_more (hW.below hb) hb.size) hl (hs.below hb (Nat.le_refl _)) (hu.below hb) (hy.below hb (Nat.le_refl _))
 have HA:Hid (∀ cs out Ac nc cc w',Below w.heap.size w w'->(∃ k,Few cs k)->zo out=cs->RdC w' w'.heap.size Ac nc out->nc<=cc->Calls prog 29 #[.agg (vwC m.view A n c),.slice Ac nc cc] w' (ApR (yx m.view cs) w')):=Lh fun cs out Ac nc cc w' hb ⟨k,hf⟩ he hr hcc=>by
  subst he
  have h1 : ∀ x∈out,x.c∈zo out:=fun x hx=>List.mem_map_of_mem hx
  have h2:=hr.len
  have h3:=hf.len
  rw [zo,List.length_map] at h3
  exact apply_ m.view A n c w'.heap.size rs out Ac nc cc w' (((rd.more hB).below hb).more hb.size) hr hcc (Nat.le_refl _) (fun x hx=>by have:=hM x hx;have:=hf.sum;omega) hz (fun x hx=>hf.gl _ (h1 x hx)) (by omega) (hu.below hb)
 have HF:=Lh hF
 unfold yT MaxT
 clear rd hM hz hW hF hs hu hy
 obtain ⟨⟨W,H,rows,r,cl,vs⟩,U⟩:=m
 dsimp only at HP HA ⊢
 have hpr:vu ⟨⟨W,H,rows,r,cl,vs⟩,U⟩=true->0<=U/\U<=1099511627776:=fun h=>by
  unfold vu MaxT at h
  exact (of_decide_eq_true h).2
 generalize vu ⟨⟨W,H,rows,r,cl,vs⟩,U⟩=P at *
 cases P with
 | false =>
  rw [if_pos rfl]
  clear HC HA HF hpr
  go_enter func11,ntmps11
  go_upto_region 1 with fail
  refine qa (HrX w ⟨⟨W,H,rows,r,cl,vs⟩,U⟩ A n c) ⟨(Blk.new_ rfl).below ((Below.refl _ _).alloc (Nat.le_refl _) _) (by simp),Blk.new_ (by simp),((Below.refl _ _).alloc (Nat.le_refl _) _).alloc (by simp) _⟩ ?_
  intro X hX
  obtain ⟨c0,c1,c2,c3,c4,c5,c6,hl,hb⟩:=hX.facts
  go_upto_region 2 with (go_at_call 27;refine (HP.out _ hb).mono ?_;rintro e w1 ⟨rfl,hb1⟩;have hX1:=hX.on hb1;have hbw1:=hX1.2.2)
  have hZ:=hX1.2.1
  obtain ⟨z0,z1,z2,z3,z4,z5,z6,y0,y1,y2,y3,y4,y5,y6⟩:=ZM.facts hZ
  go_wp2
  exact bodyPost_ret (vG rfl _ _ (w.heap.size+1) 26 _ (0,0) _ rfl (ZM.set7 hX1.2.1 md0 none 0 0) underlying26 rfl yy) rfl ⟨yX hX1.2.2 (Nat.le_succ _) md0 none 0 0,none,0,0,[],rfl,OwV.none_ _ _⟩
 | true =>
  rw [if_neg (by simp)]
  have hU:=hpr rfl
  clear hpr
  generalize jm l=o at *
  cases o with
  | none =>
   dsimp only
   clear HA HF
   have h17:((17:Int) != 0)=true:=rfl
   go_enter func11,ntmps11
   go_upto_region 1 with fail
   refine qa (HrX w ⟨⟨W,H,rows,r,cl,vs⟩,U⟩ A n c) ⟨(Blk.new_ rfl).below ((Below.refl _ _).alloc (Nat.le_refl _) _) (by simp),Blk.new_ (by simp),((Below.refl _ _).alloc (Nat.le_refl _) _).alloc (by simp) _⟩ ?_
   intro X hX
   obtain ⟨c0,c1,c2,c3,c4,c5,c6,hl,hb⟩:=hX.facts
   go_upto_region 4 with (first | (go_at_call 27;refine (HP.out _ hb).mono ?_;rintro e w1 ⟨rfl,hb1⟩;have hX1:=hX.on hb1;have hbw1:=hX1.2.2) | (go_at_call 28;refine (HC.out _ hbw1).mono ?_;rintro e w2 ⟨hb2,rfl⟩;have hX2:=hX1.on hb2))
   have hZ:=hX2.2.1
   obtain ⟨z0,z1,z2,z3,z4,z5,z6,y0,y1,y2,y3,y4,y5,y6⟩:=ZM.facts hZ
   go_wp2
   exact bodyPost_ret (vG rfl _ _ (w.heap.size+1) 26 _ (0,0) _ rfl (ZM.set7 hX2.2.1 md0 none 0 0) underlying26 rfl yy) rfl ⟨yX hX2.2.2 (Nat.le_succ _) md0 none 0 0,none,0,0,[],rfl,OwV.none_ _ _⟩
  | some x =>
   obtain ⟨cs,k⟩:=x
   have hf:=HF.out cs k rfl
   have hk:=hf.num
   have HA2:Hid (∀ out Ac nc cc w',Below w.heap.size w w'->zo out=cs->RdC w' w'.heap.size Ac nc out->nc<=cc->Calls prog 29 #[.agg (vwC ⟨W,H,rows,r,cl,vs⟩ A n c),.slice Ac nc cc] w' (ApR (yx ⟨W,H,rows,r,cl,vs⟩ cs) w')):=Lh fun out Ac nc cc w' hb he hr hcc=>HA.out cs out Ac nc cc w' hb ⟨k,hf⟩ he hr hcc
   clear HA HF hf
   dsimp only
   generalize yx ⟨W,H,rows,r,cl,vs⟩ cs=R at *
   obtain ⟨⟨vw,vh,vr,vy,vx,vv⟩,E⟩:=R
   dsimp only
   obtain ⟨RR,hRR⟩ : ∃ RR,Hid ((if E≠0 then (md0,E) else if 1099511627776<U+k then (md0,5) else ((⟨⟨vw,vh,vr,vy,vx,vv⟩,U+k⟩:Md),(0:Int)))=RR):=⟨_,Lh rfl⟩
   rw [hRR.out]
   have h00:((0:Int) != 0)=false:=rfl
   have hwr:IntKind.i64.wrap (U+k)=U+k:=by rw [IntKind.wrap_i64];omega
   go_enter func11,ntmps11
   go_upto_region 1 with fail
   refine qa (HrX w ⟨⟨W,H,rows,r,cl,vs⟩,U⟩ A n c) ⟨(Blk.new_ rfl).below ((Below.refl _ _).alloc (Nat.le_refl _) _) (by simp),Blk.new_ (by simp),((Below.refl _ _).alloc (Nat.le_refl _) _).alloc (by simp) _⟩ ?_
   intro X hX
   obtain ⟨c0,c1,c2,c3,c4,c5,c6,hl,hb⟩:=hX.facts
   go_upto_region 4 with (first | (go_at_call 27;refine (HP.out _ hb).mono ?_;rintro e w1 ⟨rfl,hb1⟩;have hX1:=hX.on hb1;have hbw1:=hX1.2.2) | (go_at_call 28;refine (HC.out _ hbw1).mono ?_;rintro e w2 ⟨hb2,out,Ac,cc,he,rfl,ho,hg⟩))
   have hX2:=hX1.on hb2
   have hAp:Hid (Calls prog 29 #[.agg (vwC ⟨W,H,rows,r,cl,vs⟩ A n c),.slice Ac out.length cc] w2 fun e w''=>∃ A n c rs,∃ i:Int,e = .returned (.tuple #[.agg #[.int .i64 vw,.int .i64 vh,.slice A n c,.int .i64 vy,.int .i64 vx,.bool vv],.int .i64 i,.int .i64 E])/\OwV w2.heap.size w'' ⟨vw,vh,vr,vy,vx,vv⟩ A n c rs/\Below w2.heap.size w2 w'') :=
    Lh ((HA2.out out Ac out.length cc w2 hX2.2.2 he (hg.rdc ho) (qas ho).1).mono fun e w'' ⟨h1,A,n,c,rs,i,h2,h3⟩=>⟨A,n,c,rs,i,h2,h3,h1⟩)
   generalize out.length=no at *
   clear HP HC HA2 hg ho he hX1 hX hb1 hbw1 hb2 c0 c1 c2 c3 c4 c5 c6 hl hb
   obtain ⟨d0,d1,d2,d3,d4,d5,d6,hlY,hbY⟩:=HrX.facts hX2
   by_cases hE:E=0
   ·subst hE
    have hR1:=hRR.out
    rw [if_neg (show ¬ ((0:Int)≠0) from fun h=>h rfl)] at hR1
    have hRz:=Lh hR1
    clear hRR hR1
    go_upto_region 7 with (go_at_call 29;refine hAp.out.mono ?_;rintro e w3 ⟨A3,n3,e3,rs3,i3,rfl,hv,hb3⟩)
    have hzz:=hb3.size
    refine qa (fun Y=>Below w2.heap.size w2 Y/\OwV w2.heap.size Y ⟨vw,vh,vr,vy,vx,vv⟩ A3 n3 e3 rs3/\Blk Y w3.heap.size 24 (vwC ⟨vw,vh,vr,vy,vx,vv⟩ A3 n3 e3)) ⟨hb3.alloc hb3.size _,hv.below ((Below.refl _ _).alloc (Nat.le_refl _) _),Blk.new_ rfl⟩ ?_
    rintro Y ⟨hY,hoY,hBY⟩
    have hX3:=hX2.on hY
    have hZ:=hX3.2.1
    obtain ⟨z0,z1,z2,z3,z4,z5,z6,y0,y1,y2,y3,y4,y5,y6⟩:=ZM.facts hZ
    have hl2:w.heap.size+1<w2.heap.size:=hlY
    clear hX2 d0 d1 d2 d3 d4 d5 d6 hlY hbY
    obtain ⟨d0,d1,d2,d3,d4,d5,d6,hlY,hbY⟩:=HrX.facts hX3
    clear d0 d1 d2 d3 d4 d5
    obtain ⟨v0,v1,v2,v3,v4,v5⟩:=qw hBY
    dsimp only at v0 v1 v3 v4 v5
    have hng:w.heap.size+1≠w3.heap.size:=by omega
    by_cases hT:1099511627776<U+k
    ·have hRe:Hid (RR=(md0,5)):=Lh (by rw [<- hRz.out,if_pos hT])
     have hd:decide (1099511627776<U+k)=true:=decide_eq_true hT
     clear hRz hT
     go_wp2
     exact bodyPost_ret (vG rfl _ _ (w.heap.size+1) 26 _ (0,0) _ rfl (ZM.set7 hX3.2.1 md0 none 0 0) underlying26 rfl yy) rfl (by rw [hRe.out];exact ⟨yX hX3.2.2 (Nat.le_succ _) md0 none 0 0,none,0,0,[],rfl,OwV.none_ _ _⟩)
    ·have hRe:Hid (RR=(⟨⟨vw,vh,vr,vy,vx,vv⟩,U+k⟩,0)):=Lh (by rw [<- hRz.out,if_neg hT])
     have hd:decide (1099511627776<U+k)=false:=decide_eq_false hT
     have hR:=ZM.set7 hZ ⟨⟨vw,vh,vr,vy,vx,vv⟩,U+k⟩ A3 n3 e3
     have ho7:=Lh (((((((hoY.far (p:=⟨w.heap.size+1,0,none⟩) (by show w.heap.size+1<w2.heap.size;omega) (.int .i64 vw)).far (p:=⟨w.heap.size+1,1,none⟩) (by show w.heap.size+1<w2.heap.size;omega) (.int .i64 vh)).far (p:=⟨w.heap.size+1,2,none⟩) (by show w.heap.size+1<w2.heap.size;omega) (.slice A3 n3 e3)).far (p:=⟨w.heap.size+1,3,none⟩) (by show w.heap.size+1<w2.heap.size;omega) (.int .i64 vy)).far (p:=⟨w.heap.size+1,4,none⟩) (by show w.heap.size+1<w2.heap.size;omega) (.int .i64 vx)).far (p:=⟨w.heap.size+1,5,none⟩) (by show w.heap.size+1<w2.heap.size;omega) (.bool vv)).far (p:=⟨w.heap.size+1,6,none⟩) (by show w.heap.size+1<w2.heap.size;omega) (.int .i64 (U+k)))
     have hb7:=yX hX3.2.2 (Nat.le_succ _) ⟨⟨vw,vh,vr,vy,vx,vv⟩,U+k⟩ A3 n3 e3
     clear hoY hv hX3 hZ hBY hRz hT
     go_wp2
     exact bodyPost_ret (vG rfl _ _ (w.heap.size+1) 26 _ (0,0) _ rfl hR underlying26 rfl yy) rfl (by rw [hRe.out];exact ⟨hb7,A3,n3,e3,rs3,rfl,ho7.out.less (by omega)⟩)
   ·have hRe:Hid (RR=(md0,E)):=Lh (by rw [<- hRR.out,if_pos hE])
    clear hRR
    have hEn:(E != 0)=true:=bne_iff_ne.2 hE
    clear hE
    go_upto_region 7 with (go_at_call 29;refine hAp.out.mono ?_;rintro e w3 ⟨A3,n3,e3,rs3,i3,rfl,hv,hb3⟩)
    refine qa (fun Y=>Below w2.heap.size w2 Y) (hb3.alloc hb3.size _) ?_
    intro Y hY
    have hX3:=hX2.on hY
    have hZ:=hX3.2.1
    obtain ⟨z0,z1,z2,z3,z4,z5,z6,y0,y1,y2,y3,y4,y5,y6⟩:=ZM.facts hZ
    clear hX2 d0 d1 d2 d3 d4 d5 d6
    go_wp2
    exact bodyPost_ret (vG rfl _ _ (w.heap.size+1) 26 _ (0,0) _ rfl (ZM.set7 hX3.2.1 md0 none 0 0) underlying26 rfl yy) rfl (by rw [hRe.out];exact ⟨yX hX3.2.2 (Nat.le_succ _) md0 none 0 0,none,0,0,[],rfl,OwV.none_ _ _⟩)
section
variable {w X : World} {c : Chg} {Ag : Option Addr} {cap : Nat} {r : Int} {d sp : Bool} {p : Int} {con : Bool} {k : Int} {xs : List ByteArray}
theorem PhS.start (w:World) (c:Chg) (Ag:Option Addr) (cap:Nat) (r:Int) (d sp:Bool) (p:Int) (con:Bool) (k:Int) :
  PhS w c Ag cap r d sp p con k [] (((w.alloc (.cells (yG c Ag cap) 64)).alloc (.cells #[.int .i64 r,.bool d,.bool sp,.int .i64 p,.bool con,.int .i64 k] 39)).alloc (.cells #[.slice none 0 0] 27)) :=
 ⟨none,0,((Blk.new w _ _).alloc _).alloc _,(Blk.new_ (by simp)).alloc _,Blk.new_ (by simp),zY _ _ _ _,(((Below.refl _ _).alloc (Nat.le_refl _) _).alloc (by simp) _).alloc (by simp;omega) _⟩
end
theorem vO (n:Int):(qY n).length<=15:=by unfold qY;rw [List.length_map];exact ke n
theorem yN {R xs ys T:List ByteArray} {a:ByteArray} {n:Int} (h:Hid (R=xs++a::(qY n++T))) (hy:ys=xs++a::qY n):Hid (R=ys++T):=Lh (by rw [h.out,hy,List.append_assoc];rfl)
def rgC (s:Nat × Value) (L:Array Bool):Prop:=(L.size=11/\L.getD 2 false=decide (1<=s.1)/\L.getD 7 false=decide (2<=s.1)/\L.getD 9 false=decide (3<=s.1)/\L.getD 10 false=decide (4<=s.1)) /\
 (1<=s.1->L.getD 0 false=true/\L.getD 1 false=true)/\(2<=s.1->L.getD 6 false=true)/\(3<=s.1->L.getD 8 false=true)/\(L.getD 6 false=true->L.getD 4 false=true/\L.getD 5 false=true)
theorem qcI {L:Array Bool} {i j:Nat} (h:j≠i):(L.setIfInBounds i true).getD j false=L.getD j false:=by
 rw [Array.getD_eq_getD_getElem?,Array.getD_eq_getD_getElem?,Array.getElem?_setIfInBounds_ne (Ne.symm h)]
theorem qfY {L:Array Bool} {i:Nat} (h:i<L.size):(L.setIfInBounds i true).getD i false=true:=by
 rw [Array.getD_eq_getD_getElem?,Array.getElem?_setIfInBounds_self_of_lt h]
 rfl
theorem vK {L:Array Bool} {i j:Nat} (h:L.getD j false=true):(L.setIfInBounds i true).getD j false=true:=by
 by_cases e:j=i
 ·subst e
  have hl:j<L.size:=by
   rcases Nat.lt_or_ge j L.size with h' | h'
   ·exact h'
   ·rw [Array.getD_eq_getD_getElem?,Array.getElem?_eq_none h'] at h;cases h
  exact qfY hl
 ·rw [qcI e];exact h
theorem rgC.step {s s':Nat × Value} {L:Array Bool} (h:rgC s L) {i:Nat} (h2:(L.setIfInBounds i true).getD 2 false=decide (1<=s'.1)) (h7:(L.setIfInBounds i true).getD 7 false=decide (2<=s'.1)) (h9:(L.setIfInBounds i true).getD 9 false=decide (3<=s'.1)) (h10:(L.setIfInBounds i true).getD 10 false=decide (4<=s'.1))
  (g0:1<=s'.1->1<=s.1∨L.getD 0 false=true/\L.getD 1 false=true) (g6:2<=s'.1->2<=s.1∨L.getD 6 false=true) (g8:3<=s'.1->3<=s.1∨L.getD 8 false=true) (g4:i=6->L.getD 4 false=true/\L.getD 5 false=true):rgC s' (L.setIfInBounds i true):=by
 obtain ⟨⟨a0,a1,a2,a3,a4⟩,b1,b2,b3,b4⟩:=h
 refine ⟨⟨by rw [Array.size_setIfInBounds];exact a0,h2,h7,h9,h10⟩,fun e=>?_,fun e=>?_,fun e=>?_,fun e=>?_⟩
 ·have:=(g0 e).elim b1 id
  exact ⟨vK this.1,vK this.2⟩
 ·exact vK ((g6 e).elim b2 id)
 ·exact vK ((g8 e).elim b3 id)
 ·by_cases h6:i=6
  ·exact ⟨vK (g4 h6).1,vK (g4 h6).2⟩
  ·rw [qcI (Ne.symm h6)] at e
   exact ⟨vK (b4 e).1,vK (b4 e).2⟩
section
variable {a : Act} {w : World} {K : Act -> World -> Prop} {Q : Exit -> Act -> World -> Prop}
end
def setE (r q k:Int):Int:=if qdH r q k then 2 else 0
theorem qfQ {r q k:Int} (h:qdH r q k):setE r q k=2:=if_pos h
theorem setE_ok {r q k:Int} (h : ¬ qdH r q k):setE r q k=0:=if_neg h
theorem rcheck_s (r:Int) (d sp:Bool) (q:Int) (con:Bool) (k:Int) (w:World):Calls prog 32 #[stV r d sp q con k] w (qh (.int .i64 (setE r q k)) w):=by
 obtain ⟨X,hX⟩ : ∃ X,X=setE r q k:=⟨_,rfl⟩
 rw [<- hX]
 have HB:Hid (qdH r q k->X=2):=Lh fun h=>by rw [hX,qfQ h]
 have HO:Hid (¬ qdH r q k->X=0):=Lh fun h=>by rw [hX,setE_ok h]
 obtain ⟨C0,C1,C2,C3,C4,C5⟩:=StBox.new w r d sp q con k 39
 clear hX
 go_enter func32,ntmps32
 go_wp2
 all_goals go_ret
 all_goals first
  | exact ⟨by rw [HO.out (by unfold qdH;simp at *;omega)];rfl,(Below.refl _ _).alloc (Nat.le_refl _) _⟩
  | exact ⟨by rw [HB.out (by unfold qdH;simp at *;omega)];rfl,(Below.refl _ _).alloc (Nat.le_refl _) _⟩
theorem qcC {c:Chg} (h:vj c=0):c.glyphs.length<=132/\(∀ g∈c.glyphs,qJ g=0)/\(1<=c.kind/\c.kind<=4)/\je c=true:=by
 obtain ⟨h1,h2,h3,h4⟩:=qdG h
 refine ⟨?_,?_,h1,h2⟩
 ·by_cases hk:c.kind=3
  ·by_cases hl:132<c.glyphs.length
   ·exact absurd ⟨hk,hl⟩ h3
   ·omega
  ·unfold jk at h4
   have:c.glyphs=[]:=by
    split at h4
    ·exact (of_decide_eq_true h4).2.2
    ·split at h4
     ·exact (of_decide_eq_true h4).2
     ·exact (of_decide_eq_true h4).2
   rw [this]
   simp
 ·by_cases hk:c.kind=3
  ·unfold jk at h4
   rw [if_neg (by omega),if_neg (by omega),if_pos hk] at h4
   simp only [Bool.and_eq_true,List.all_eq_true,decide_eq_true_eq] at h4
   exact h4.2
  ·have:c.glyphs=[]:=by
    unfold jk at h4
    split at h4
    ·exact (of_decide_eq_true h4).2.2
    ·split at h4
     ·exact (of_decide_eq_true h4).2
     ·exact (of_decide_eq_true h4).2
   rw [this]
   exact fun g hg=>by cases hg
theorem qji {c:Chg} (hc:vj c=0) (S:Setts):(qn c S).length<=50000200:=by
 obtain ⟨hg,hgl,hk,_⟩:=qcC hc
 have hw:=(yv (S:=S) _ (Nat.le_refl _) (WoI.start S c.glyphs (by omega) fun x hx=>(gw_of (hgl x hx)).1)).1
 have n1:=vO c.row
 have n2:=vO c.col
 have n3:=vO (c.row+1)
 have n4:=vO (c.col+1)
 have n5:=vO c.til
 have n6:=vO c.count
 have n7:=vO (-c.count)
 unfold qn
 (repeat' split) <;> simp only [List.length_append,List.length_cons,List.length_nil] <;> omega
def qaE (l:List ChgM) (m r q k:Int):Int:=if setE r q k≠0∨m<0 then 1 else if 999999999<m then 5 else vX l
def UwR (l:List ChgM) (m r q k:Int) (S:Setts) (w:World) (e:Ending) (w':World):Prop :=
 if qaE l m r q k=0 then ql 9 1 yP w (qZ (zo l) m S).length (sv (qZ (zo l) m S)) e w' else e = .returned (.tuple #[.slice none 0 0,.int .i64 (qaE l m r q k)])/\Below w.heap.size w w'
theorem qiH {l:List ChgM} {j:Nat} (h:j<l.length) (S:Setts):((zo (l.drop j)).flatMap fun c=>qn c S)=qn l[j].c S++(zo (l.drop (j+1))).flatMap fun c=>qn c S:=by
 rw [List.drop_eq_getElem_cons h]
 rfl
theorem UwR.err {l:List ChgM} {m r q k x:Int} {S:Setts} {w w':World} {e:Ending} (h:qaE l m r q k=x) (hx:x≠0) (he:e = .returned (.tuple #[.slice none 0 0,.int .i64 x])/\Below w.heap.size w w'):UwR l m r q k S w e w':=by
 unfold UwR
 rw [if_neg (by rw [h];exact hx),h]
 exact he
theorem UwR.ok {l:List ChgM} {m r q k:Int} {S:Setts} {w w':World} {e:Ending} (h:qaE l m r q k=0) (he:ql 9 1 yP w (qZ (zo l) m S).length (sv (qZ (zo l) m S)) e w'):UwR l m r q k S w e w':=by
 unfold UwR
 rw [if_pos h]
 exact he
theorem ExI.new (w:World):ExI w ((w.alloc (.cells (qi eCh.glyphs).toArray 86)).alloc (.cells (qb5 ⟨eCh,some ⟨w.heap.size,0,none⟩,2⟩).toArray 64)):=by
 have hr:Rd (w.alloc (.cells (qi eCh.glyphs).toArray 86)) (w.heap.size+1) 3 (some ⟨w.heap.size,0,none⟩) 2 (qi eCh.glyphs):=qe rfl rfl
 have hb2:Below (w.heap.size+1) (w.alloc (.cells (qi eCh.glyphs).toArray 86)) ((w.alloc (.cells (qi eCh.glyphs).toArray 86)).alloc (.cells (qb5 ⟨eCh,some ⟨w.heap.size,0,none⟩,2⟩).toArray 64)):=(Below.refl _ _).alloc (by simp) _
 refine ⟨⟨?_,fun x hx=>?_⟩,((Below.refl _ _).alloc (Nat.le_refl _) _).alloc (by simp) _⟩
 ·exact Rd.more (B:=w.heap.size+1+1) (qe (xs:=qb5 ⟨eCh,some ⟨w.heap.size,0,none⟩,2⟩) (by simp) rfl) (by simp)
 ·rw [List.mem_singleton] at hx
  subst hx
  exact ⟨(hr.below hb2).more (by simp),(by show 2<=2;decide),(by show 2<=maxLen;decide)⟩
theorem vZ (n:Int) (h1 : -999999999<=n) (h2:n<=999999999) : ∀ s∈qY n,s.size<=1000:=fun s hs=>by
 unfold qY at hs
 obtain ⟨j,hj,rfl⟩:=List.mem_map.1 hs
 have h:=jT n h1 h2 j hj
 have : ∀ i,i<32->(wb i).size<=1000:=by decide +kernel
 exact this j h
theorem qkc {n:Int} (h0:0<=n) (h1:n<=999999999):(qbQ n).length<=20/\SzW (qbQ n):=by
 have:=vO n
 unfold qbQ
 split
 ·exact ⟨by simp,SzW.cons (by decide) SzW.nil⟩
 ·split
  ·exact ⟨by simp,SzW.cons (by decide) SzW.nil⟩
  ·exact ⟨by simp only [List.length_append,List.length_cons,List.length_nil];omega,SzW.cons (by decide) (SzW.app (vZ _ (by omega) (by omega)) (SzW.cons (by decide) SzW.nil))⟩
theorem bothG {P:Program} {f:FuncId} {args:Array Value} {w X:World} {v:Value} (h:Calls P f args X (qh v X)) (hb:Below w.heap.size w X):Calls P f args X fun e X'=>e = .returned v/\Below w.heap.size w X'/\Below X.heap.size X X' :=
 h.mono fun _ _ ⟨h1,h2⟩=>⟨h1,hb.trans (h2.mono hb.size),h2⟩
theorem bothS {P:Program} {f:FuncId} {args:Array Value} {w X:World} {v:Value} (h:Calls P f args X fun e X'=>e = .returned v/\X'=X) (hb:Below w.heap.size w X):Calls P f args X fun e X'=>e = .returned v/\Below w.heap.size w X'/\Below X.heap.size X X' :=
 h.mono fun _ _ ⟨h1,h2⟩=>by subst h2;exact ⟨h1,hb,Below.refl _ _⟩
theorem wErr_ok {l:List ChgM} {m r q k:Int} (h:qaE l m r q k=0):setE r q k=0/\0<=m/\m<=999999999/\vX l=0:=by
 unfold qaE at h
 split at h
 ·cases h
 ·rename_i h1
  split at h
  ·cases h
  ·rw [not_or] at h1
   exact ⟨Decidable.not_not.1 h1.1,by omega,by omega,h⟩
def Fw (g:Gl):Prop:=(qs (qB g.text)).length<=4
theorem qhU {g:Gl} (h:Fw g):(qP g).length<=65:=by
 have h1:=@qaX g
 unfold Fw at h
 omega
theorem qgK {l:List Gl} (hl:l.length<=1000) (sp:Bool) : ∀ a∈vk l sp,a.size<=1000:=by
 have hlow:(yH l).length=l.length:=by unfold yH;rw [List.length_map]
 intro a ha
 unfold vk at ha
 rcases List.mem_append.1 ha with ha | ha
 ·split at ha
  ·rw [List.mem_singleton] at ha;subst ha;decide +kernel
  ·split at ha
   ·rw [List.mem_singleton] at ha;subst ha;decide +kernel
   ·cases ha
 ·split at ha
  ·rcases List.mem_append.1 ha with ha | ha
   ·rcases List.mem_cons.1 ha with rfl | ha
    ·decide +kernel
    ·obtain ⟨c,hc,rfl⟩:=List.mem_map.1 ha
     exact (by decide:1<=1000)
   ·rw [List.mem_singleton] at ha;subst ha;decide +kernel
  ·rcases List.mem_append.1 ha with ha | ha
   ·split at ha
    ·rw [List.mem_singleton] at ha;subst ha;decide +kernel
    ·cases ha
   ·rw [List.mem_singleton] at ha
    subst ha
    show (List.toArray _).size<=_
    rw [List.size_toArray]
    omega
theorem qcU (l:List Gl) (sp:Bool):(vk l sp).length<=l.length+5:=by
 have hlow:(yH l).length=l.length:=by unfold yH;rw [List.length_map]
 unfold vk
 simp only [List.length_append]
 (repeat' split) <;> simp only [List.length_append,List.length_cons,List.length_nil,List.length_map] <;> omega
theorem qhM (l:List Gl) (dg:Bool):(jx l dg).length<=16 * l.length+17:=by
 rw [kG]
 unfold yt
 split
 ·have:=qdJ (jC (List.map qT l))
  have h5:(jC (List.map qT l)).length=l.length:=by unfold jC;rw [List.length_map,List.length_map]
  rw [List.length_cons]
  omega
 ·have:=kR (yj (jC (List.map qT l)))
  omega
theorem qg4 {g:Gl} {t:List Gl} {rep:Int} {sp dg:Bool} (hn:(g::t).length<=1000) (hz : ∀ x∈g::t,Fw x) :
  (qq (pcL (g::t) rep) sp dg).length<=16 * (pcL (g::t) rep).length+82/\∀ a∈qq (pcL (g::t) rep) sp dg,a.size<=1000:=by
 have hpc:=kn g t rep
 have hpl:(pcL (g::t) rep).length<=1000:=by
  unfold pcL
  rw [List.length_take]
  omega
 have hg:=hz g (by simp)
 by_cases hk:qd g=1∨qd g=2
 ·rw [hpc] at hpl ⊢
  rw [jv hk]
  have:=qcU (g::t.take (qo (g::t) rep-1)) sp
  exact ⟨Nat.le_trans (qcU _ sp) (by omega),qgK hpl sp⟩
 ·by_cases h3:qd g=3
  ·have h2:=qe1 (t:=t) (rep:=rep) h3
   rw [hpc] at h2 hpl ⊢
   rw [ju h3]
   exact ⟨Nat.le_trans (qhM _ dg) (by omega),qjP (fun x hx=>(h2 x hx).1) dg⟩
  ·have h0:qd g=0:=by
    have:=jX g
    omega
   have hs:=qhU hg
   rcases qfe (t:=t) (rep:=rep) h0 with e | ⟨n,hn,hn2,e,_⟩
   ·rw [e,jt h0]
    exact ⟨by omega,qei g⟩
   ·rw [e] at hpl ⊢
    obtain ⟨m,rfl⟩ : ∃ m,n=m+1:=⟨n-1,by omega⟩
    rw [List.length_replicate] at hpl
    rw [List.replicate_succ,jb h0 (by intro e;have:=congrArg List.length e;simp at this;omega)]
    have hw:=kR ((List.replicate m g).length+1)
    refine ⟨by simp only [List.length_append,List.length_cons,List.length_nil];omega,fun a ha=>?_⟩
    rcases List.mem_append.1 ha with ha | ha
    ·rcases List.mem_append.1 ha with ha | ha
     ·exact qfk (by simp;omega) a ha
     ·rw [List.mem_singleton] at ha;subst ha;decide +kernel
    ·exact qei g a ha
theorem qdy (S:Setts) : ∀ (n:Nat) (q:Spk) (rest:List Gl),rest.length<=n->rest.length<=1000->(∀ x∈rest,Fw x)->(∀ s∈q.out,s.size<=1000) ->
  (qQ S rest.length q rest).out.length<=q.out.length+100 * rest.length/\∀ s∈(qQ S rest.length q rest).out,s.size<=1000
 | n,q,[],_,_,_,h=>by
  rw [show (qQ S ([]:List Gl).length q [])=q from rfl]
  exact ⟨by simp,h⟩
 | 0,q,g::t,hn,_,_,_=>by simp at hn
 | n+1,q,g::t,hn,h6,hz,h=>by
  have hp:=vz (g:=g) (t:=t) S.rep
  have hdl:((g::t).drop (qo (g::t) S.rep)).length=(g::t).length-qo (g::t) S.rep:=List.length_drop
  have hc:(g::t).length=t.length+1:=List.length_cons
  have hzd : ∀ x∈(g::t).drop (qo (g::t) S.rep),Fw x:=fun x hx=>hz x (List.mem_of_mem_drop hx)
  rw [jR]
  split
  ·have:=qdy S n { q with silent:=true } _ (by omega) (by omega) hzd h
   exact ⟨by have h1:=this.1;simp only at h1;omega,this.2⟩
  ·have hb:=qg4 (rep:=S.rep) (sp:=S.spell) (dg:=S.digits) h6 hz
   have hpl:(pcL (g::t) S.rep).length<=qo (g::t) S.rep/\(pcL (g::t) S.rep).length<=(g::t).length:=by
    unfold pcL
    rw [List.length_take]
    omega
   have hq:(qc4 q S (pcL (g::t) S.rep)).out=q.out++ky q g ((qq (pcL (g::t) S.rep) S.spell S.digits).headD ⟨#[]⟩)++qq (pcL (g::t) S.rep) S.spell S.digits:=by rw [qdg]
   have hpre:=qfF q g ((qq (pcL (g::t) S.rep) S.spell S.digits).headD ⟨#[]⟩)
   have hql:(qc4 q S (pcL (g::t) S.rep)).out.length<=q.out.length+16 * (pcL (g::t) S.rep).length+84:=by
    rw [hq,List.length_append,List.length_append]
    have:=hb.1
    omega
   have:=qdy S n (qc4 q S (pcL (g::t) S.rep)) _ (by omega) (by omega) hzd (by
    rw [hq]
    intro s hs
    rcases List.mem_append.1 hs with hs | hs
    ·rcases List.mem_append.1 hs with hs | hs
     ·exact h s hs
     ·exact sz_pre _ _ _ s hs
    ·exact hb.2 s hs)
   exact ⟨Nat.le_trans this.1 (by omega),this.2⟩
theorem qiR (l:List Gl) (S:Setts) (hn:l.length<=1000) (hz : ∀ x∈l,Fw x):(qz l S).length<=100 * l.length/\∀ s∈qz l S,s.size<=1000:=by
 have:=qdy S l.length ⟨[],0,0,false⟩ l (Nat.le_refl _) hn hz (fun s hs=>by cases hs)
 refine ⟨?_,this.2⟩
 have h1:=this.1
 simp only [List.length_nil] at h1
 show (qQ S l.length ⟨[],0,0,false⟩ l).out.length<=_
 omega
theorem fw_of {g:Gl} (h:qJ g=0):Fw g:=by
 obtain ⟨r,t,hc,_,_,_,_,ht,_,_⟩:=(qcr h).1.form
 unfold Fw
 rw [hc,List.length_cons]
 omega
theorem qhG (c:Chg) (S:Setts) (hc:vj c=0):(qn c S).length<=13260/\SzW (qn c S):=by
 have hgl:=qcC hc
 have hb:=qiR c.glyphs S (by omega) fun x hx=>fw_of (hgl.2.1 x hx)
 have hw:(qz c.glyphs S).length<=13200:=by have:=hb.1;omega
 have hs:SzW (qz c.glyphs S):=hb.2
 have hr:=(qcC hc).2.2.2
 obtain ⟨kind,row,col,count,til,g⟩:=c
 simp only at hw hs
 unfold je at hr
 simp only at hr
 have n1:=vO row
 have n2:=vO col
 have n3:=vO (row+1)
 have n4:=vO (col+1)
 have n5:=vO til
 have n6:=vO count
 have n7:=vO (-count)
 refine ⟨?_,?_⟩
 ·unfold qn
  simp only
  (repeat' split) <;> simp only [List.length_append,List.length_cons,List.length_nil] <;> omega
 ·unfold qn
  simp only
  split
  ·rename_i h1
   rw [if_pos h1,decide_eq_true_eq] at hr
   exact SzW.cons (by decide) ((SzW.app (vZ _ (by omega) (by omega)) (SzW.cons (by decide) (SzW.app (vZ _ (by omega) (by omega)) (SzW.cons (by decide) SzW.nil)))))
  ·rename_i h1
   rw [if_neg h1] at hr
   split
   ·rename_i h2
    rw [if_pos h2,decide_eq_true_eq] at hr
    refine SzW.cons (by decide) (SzW.cons (by decide) (SzW.app (vZ _ (by omega) (by omega)) (SzW.cons (by decide) (SzW.app (vZ _ (by omega) (by omega)) ?_))))
    split
    ·exact SzW.cons (by decide) (vZ _ (by omega) (by omega))
    ·exact SzW.cons (by decide) (vZ _ (by omega) (by omega))
   ·rename_i h2
    rw [if_neg h2] at hr
    split
    ·rename_i h3
     rw [if_pos h3,decide_eq_true_eq] at hr
     refine SzW.cons (by decide) (SzW.app (vZ _ (by omega) (by omega)) (SzW.cons (by decide) (SzW.app (vZ _ (by omega) (by omega)) (SzW.app ?_ ?_))))
     ·split
      ·exact SzW.cons (by decide) (vZ _ (by omega) (by omega))
      ·exact SzW.nil
     ·split
      ·exact SzW.nil
      ·exact SzW.cons (by decide) (SzW.app hs (SzW.cons (by decide) SzW.nil))
    ·rename_i h3
     rw [if_neg h3,decide_eq_true_eq] at hr
     split
     ·refine SzW.cons (by decide) (SzW.cons (by decide) (SzW.app (vZ _ (by omega) (by omega)) (SzW.cons (by decide) (SzW.app (vZ _ (by omega) (by omega)) ?_))))
      split <;> exact SzW.cons (by decide) SzW.nil
     ·exact SzW.nil
theorem qfM (S:Setts) : ∀ l:List Chg,(∀ c∈l,vj c=0)->(l.flatMap fun c=>qn c S).length<=13260 * l.length/\SzW (l.flatMap fun c=>qn c S)
 | [],_=>⟨by simp,SzW.nil⟩
 | c::t,h=>by
  have hp:=qhG c S (h c (by simp))
  have ih:=qfM S t fun x hx=>h x (List.mem_cons_of_mem _ hx)
  rw [List.flatMap_cons,List.length_append,List.length_cons]
  exact ⟨by omega,SzW.app hp.2 ih.2⟩
theorem qch {l:List Chg} {n:Int} (S:Setts) (h0:0<=n) (h1:n<=999999999) (hl:l.length<=30) (h : ∀ c∈l,vj c=0):(qZ l n S).length<=400000/\SzW (qZ l n S):=by
 have hf:=qfM S l h
 have he:=qkc h0 h1
 unfold qZ
 rw [List.length_append]
 have:13260 * l.length<=13260 * 30:=Nat.mul_le_mul_left _ hl
 exact ⟨by omega,SzW.app hf.2 he.2⟩
theorem num_len2 {l t:List ByteArray} {n:Int} (h:kU l=some (n,t)):t.length+1<=l.length:=by
 unfold kU at h
 rw [Option.map_eq_some_iff] at h
 obtain ⟨x,hp,e⟩:=h
 cases e
 obtain ⟨hk0,hkl,_⟩:=zF (n:=x.1) (k:=x.2) hp
 rw [List.length_drop]
 omega
theorem qaf {s:ByteArray} {l t:List ByteArray} {n:Int} (h:afO s l=some (n,t)):t.length+2<=l.length:=by
 unfold afO at h
 rw [Option.bind_eq_some_iff] at h
 obtain ⟨x,h1,h2⟩:=h
 have:=yV h1
 have:=num_len2 h2
 omega
theorem ins_len2 {l t:List ByteArray} {G:List Gl} (h:insL l=some (G,t)):t.length<=l.length:=by
 unfold insL at h
 split at h
 ·rw [Option.bind_eq_some_iff] at h
  obtain ⟨x,h1,h2⟩:=h
  have:=yV h1
  have:=(qgs h2).1
  omega
 ·cases h
  exact Nat.le_refl _
theorem chg_len4 {l t:List ByteArray} {c:Chg} (h:qaL l=some (c,t)):t.length+4<=l.length:=by
 unfold qaL at h
 split at h
 ·rw [Option.bind_eq_some_iff] at h
  obtain ⟨x,h1,h⟩:=h
  rw [Option.bind_eq_some_iff] at h
  obtain ⟨y,h2,h⟩:=h
  rw [Option.map_eq_some_iff] at h
  obtain ⟨u,h3,h⟩:=h
  cases h
  have:=qaf h1
  have:=qaf h2
  have:=yV h3
  omega
 ·split at h
  ·rw [Option.bind_eq_some_iff] at h
   obtain ⟨x,h1,h⟩:=h
   rw [Option.bind_eq_some_iff] at h1
   obtain ⟨x0,h0,h1⟩:=h1
   rw [Option.bind_eq_some_iff] at h
   obtain ⟨y,h2,h⟩:=h
   have:=yV h0
   have:=qaf h1
   have:=qaf h2
   split at h
   ·rw [Option.bind_eq_some_iff] at h
    obtain ⟨z,h3,h⟩:=h
    have:=kg h3
    split at h
    ·cases h
    ·cases h
     omega
   ·rw [Option.bind_eq_some_iff] at h
    obtain ⟨z,h3,h⟩:=h
    have:=kg h3
    split at h
    ·cases h
    ·cases h
     omega
  ·split at h
   ·unfold qbo at h
    rw [Option.bind_eq_some_iff] at h
    obtain ⟨x,h1,h⟩:=h
    rw [Option.bind_eq_some_iff] at h
    obtain ⟨y,h2,h⟩:=h
    rw [Option.bind_eq_some_iff] at h
    obtain ⟨z,h3,h⟩:=h
    rw [Option.map_eq_some_iff] at h
    obtain ⟨g,h4,h⟩:=h
    cases h
    have:=qaf h1
    have:=qaf h2
    have:=qim h3
    have:=ins_len2 h4
    omega
   ·split at h
    ·rw [Option.bind_eq_some_iff] at h
     obtain ⟨x,h1,h⟩:=h
     rw [Option.bind_eq_some_iff] at h1
     obtain ⟨x0,h0,h1⟩:=h1
     rw [Option.bind_eq_some_iff] at h
     obtain ⟨y,h2,h⟩:=h
     have:=yV h0
     have:=qaf h1
     have:=qaf h2
     split at h
     ·rw [Option.map_eq_some_iff] at h
      obtain ⟨u,h3,h⟩:=h
      cases h
      have:=yV h3
      omega
     ·rw [Option.map_eq_some_iff] at h
      obtain ⟨u,h3,h⟩:=h
      cases h
      have:=yV h3
      omega
    ·cases h
theorem qdl : ∀ (f:Nat) (l:List ByteArray) (acc m:List Chg) (n:Int),yR f l acc=some (m,n)->4 * m.length<=4 * acc.length+l.length
 | 0,l,acc,m,n,h=>by cases h
 | f+1,l,acc,m,n,h=>by
  rw [yR] at h
  split at h
  ·rw [Option.map_eq_some_iff] at h
   obtain ⟨x,_,h⟩:=h
   cases h
   omega
  ·rw [Option.bind_eq_some_iff] at h
   obtain ⟨x,h1,h⟩:=h
   split at h
   ·have:=qdl f x.2 (acc++[x.1]) m n h
    have:=chg_len4 (c:=x.1) (t:=x.2) h1
    rw [List.length_append,List.length_cons,List.length_nil] at *
    omega
   ·cases h
theorem qeb {l:List ByteArray} {m:List Chg} {n:Int} (h:jm l=some (m,n)):4 * m.length<=l.length:=by
 have:=qdl _ _ _ _ _ h
 simp only [List.length_nil] at this
 omega
theorem glN_le {cs:List Chg} (h : ∀ c∈cs,c.glyphs.length<=132):glN cs<=cs.length * 396:=by
 induction cs with
 | nil=>simp [glN]
 | cons c t ih =>
  rw [qb3,List.length_cons]
  have h1:=h c (by simp)
  have h2:=ih fun x hx=>h x (by simp [hx])
  omega
theorem few_chk {cs:List Chg} {k:Int} (h : ∀ c∈cs,vj c=0) (hk:0<=k/\k<=999999999) (hl:cs.length<=100000):Few cs k:=by
 have hg : ∀ c∈cs,c.glyphs.length<=132:=fun c hc=>(qcC (h c hc)).1
 have:=glN_le hg
 refine ⟨by omega,fun c hc=>⟨by have:=hg c hc;omega,fun g hg2=>?_⟩,by omega,hk.1,by omega⟩
 have:=(gw_of ((qcC (h c hc)).2.1 g hg2)).2
 omega
theorem few_of {l:List ByteArray} (hl:l.length<=400000) : ∀ cs k,jm l=some (cs,k)->Few cs k:=fun cs k h=>by
 obtain ⟨h1,h2⟩:=qbv h
 have:=qeb h
 exact few_chk h1 h2 (by omega)
end Go.Proofs.YticbpkghcglgkaaGreatDoor
namespace Go.Proofs.YticbpkghcglgkaaGreatDoor
open Go.Proofs.Tryz Go.RowKit
set_option maxRecDepth 20000
theorem qek (v:Vw) (A:Option Addr) (n c B:Nat) (rs:List RowM) (w:World) (rd:RdV w B v A n c rs) (hB:B<=w.heap.size) :
  Calls prog 8 #[.agg (vwC v A n c)] w (qh (.bool (qaC v)) w):=by
 have HN:Hid (rs.length=n):=Lh rd.1.len
 have hnm:n<=9223372036854775807:=by have h1:=rd.2.2.1;have h2:=rd.2.2.2;unfold maxLen at h2;omega
 have HA:Hid (∀ k (hk:k<rs.length) w',Below w.heap.size w w'->∃ b o,A=some ⟨b,o,none⟩/\b<w.heap.size/\w'.cell? ⟨b,o+k,none⟩=some (.slice rs[k].A rs[k].l.length rs[k].cap)):=Lh fun k hk w' hb=>((rd.1.more hB).below hb).at_ hk
 have HG:Hid (∀ x∈rs,∀ w',Below w.heap.size w w'->Calls prog 24 #[.slice x.A x.l.length x.cap] w' fun e w''=>e = .returned (.bool (zA x.l))/\w''=w'):=Lh fun x hx w' hb=>qeP _ _ _ _ w.heap.size w' (Nat.le_trans (rd.1.gl x hx).2.1 (rd.1.gl x hx).2.2) (((rd.1.gl x hx).1.more hB).below hb)
 have hgv:qaC v=(decide (12<n) || (decide (40<v.width)&&decide (2<n)) || (rls rs).any zA):=by unfold qaC;rw [rd.len,rd.2.1]
 rw [hgv]
 have H0:Hid ((rls rs).any zA=((rls rs).drop 0).any zA):=Lh rfl
 generalize hR:(rls rs).any zA=R at *
 clear rd hgv hR
 obtain ⟨W,Hh,rows,row,col,vis⟩:=v
 dsimp only
 by_cases h1:12<n
 ·have d1:decide ((12:Int)<(n:Int))=true:=decide_eq_true (by omega)
  rw [decide_eq_true h1,Bool.true_or,Bool.true_or]
  clear h1
  clear HA HG H0 HN
  go_enter func8,ntmps8
  go_upto_region 1 with fail
  refine qa (VwBox w ⟨W,Hh,rows,row,col,vis⟩ A n c) (VwBox.new w ⟨W,Hh,rows,row,col,vis⟩ A n c) ?_
  intro X hX
  obtain ⟨c0,c1,c2,c3,c4,c5⟩:=hX.cells
  have hb:=hX.2
  have hzX:=hX.lt
  dsimp only at c0 c1 c2 c3 c4 c5
  go_wp2
  go_ret
  exact ⟨rfl,hb⟩
 ·have d1:decide ((12:Int)<(n:Int))=false:=decide_eq_false (by omega)
  rw [decide_eq_false h1,Bool.false_or]
  clear h1
  by_cases h2:40<W
  ·have d2:decide ((40:Int)<W)=true:=decide_eq_true h2
   rw [d2,Bool.true_and]
   clear h2
   by_cases h3:2<n
   ·have d3:decide ((2:Int)<(n:Int))=true:=decide_eq_true (by omega)
    rw [decide_eq_true h3,Bool.true_or]
    clear h3
    clear HA HG H0 HN
    go_enter func8,ntmps8
    go_upto_region 1 with fail
    refine qa (VwBox w ⟨W,Hh,rows,row,col,vis⟩ A n c) (VwBox.new w ⟨W,Hh,rows,row,col,vis⟩ A n c) ?_
    intro X hX
    obtain ⟨c0,c1,c2,c3,c4,c5⟩:=hX.cells
    have hb:=hX.2
    have hzX:=hX.lt
    dsimp only at c0 c1 c2 c3 c4 c5
    go_wp2
    go_ret
    exact ⟨rfl,hb⟩
   ·have d3:decide ((2:Int)<(n:Int))=false:=decide_eq_false (by omega)
    rw [decide_eq_false h3,Bool.false_or]
    clear h3
    go_enter func8,ntmps8
    go_upto_region 1 with fail
    refine qa (VwBox w ⟨W,Hh,rows,row,col,vis⟩ A n c) (VwBox.new w ⟨W,Hh,rows,row,col,vis⟩ A n c) ?_
    intro X hX
    obtain ⟨c0,c1,c2,c3,c4,c5⟩:=hX.cells
    have hb:=hX.2
    have hzX:=hX.lt
    dsimp only at c0 c1 c2 c3 c4 c5
    go_wp2
    go_loopw [3] (fun x wr=>∃ k:Nat,k<=n/\x = .int .i64 k/\VwBox w ⟨W,Hh,rows,row,col,vis⟩ A n c wr/\Hid (R=((rls rs).drop k).any zA)) (fun x _=>n-(intOf x).toNat)
    case atStart=>exact ⟨0,Nat.zero_le _,rfl,hX,H0⟩
    case round =>
     clear c0 c1 c2 c3 c4 c5 hX hb hzX H0
     obtain ⟨k,hk,rfl,hX,HK⟩:=hrel
     obtain ⟨c0,c1,c2,c3,c4,c5⟩:=hX.cells
     have hb:=hX.2
     dsimp only at c0 c1 c2 c3 c4 c5
     by_cases hlt:k<n
     ·have hkl:k<rs.length:=by have:=HN.out;omega
      obtain ⟨b,o,rfl,_,g0⟩:=HA.out k hkl _ hb
      have HD:Hid (((rls rs).drop k).any zA=(zA rs[k].l || ((rls rs).drop (k+1)).any zA)):=Lh (by rw [qb4 zA (by rw [vJ];exact hkl),qiE hkl])
      have HC:=Lh (HG.out _ (List.getElem_mem hkl))
      generalize rs[k]=x at *
      obtain ⟨l,Al,cl⟩:=x
      dsimp only at *
      have hki:(k:Int)<n:=by omega
      cases hgr:zA l with
      | true =>
       rw [hgr] at HC HD
       have HR2:Hid (R=true):=Lh (by rw [HK.out,HD.out];rfl)
       clear HK HD hgr
       go_wp2_with (go_at_call 24;refine (HC.out _ hb).mono ?_;rintro e w1 ⟨rfl,rfl⟩)
       go_ret
       exact ⟨by rw [HR2.out];rfl,hb⟩
      | false =>
       rw [hgr] at HC HD
       have HR2:Hid (R=((rls rs).drop (k+1)).any zA):=Lh (by rw [HK.out,HD.out];rfl)
       clear HK HD hgr
       go_wp2_with (go_at_call 24;refine (HC.out _ hb).mono ?_;rintro e w1 ⟨rfl,rfl⟩)
       exact ⟨⟨k+1,by omega,by go_num,hX,HR2⟩,by simp [intOf];omega⟩
     ·have HR2:Hid (R=false):=Lh (by rw [HK.out,List.drop_of_length_le (by rw [vJ];have:=HN.out;omega)];rfl)
      obtain rfl:k=n:=by omega
      go_wp2
      go_ret
      exact ⟨by rw [HR2.out];rfl,hb⟩
  ·have d2:decide ((40:Int)<W)=false:=decide_eq_false h2
   rw [d2,Bool.false_and,Bool.false_or]
   clear h2
   go_enter func8,ntmps8
   go_upto_region 1 with fail
   refine qa (VwBox w ⟨W,Hh,rows,row,col,vis⟩ A n c) (VwBox.new w ⟨W,Hh,rows,row,col,vis⟩ A n c) ?_
   intro X hX
   obtain ⟨c0,c1,c2,c3,c4,c5⟩:=hX.cells
   have hb:=hX.2
   have hzX:=hX.lt
   dsimp only at c0 c1 c2 c3 c4 c5
   go_wp2
   go_loopw [3] (fun x wr=>∃ k:Nat,k<=n/\x = .int .i64 k/\VwBox w ⟨W,Hh,rows,row,col,vis⟩ A n c wr/\Hid (R=((rls rs).drop k).any zA)) (fun x _=>n-(intOf x).toNat)
   case atStart=>exact ⟨0,Nat.zero_le _,rfl,hX,H0⟩
   case round =>
    clear c0 c1 c2 c3 c4 c5 hX hb hzX H0
    obtain ⟨k,hk,rfl,hX,HK⟩:=hrel
    obtain ⟨c0,c1,c2,c3,c4,c5⟩:=hX.cells
    have hb:=hX.2
    dsimp only at c0 c1 c2 c3 c4 c5
    by_cases hlt:k<n
    ·have hkl:k<rs.length:=by have:=HN.out;omega
     obtain ⟨b,o,rfl,_,g0⟩:=HA.out k hkl _ hb
     have HD:Hid (((rls rs).drop k).any zA=(zA rs[k].l || ((rls rs).drop (k+1)).any zA)):=Lh (by rw [qb4 zA (by rw [vJ];exact hkl),qiE hkl])
     have HC:=Lh (HG.out _ (List.getElem_mem hkl))
     generalize rs[k]=x at *
     obtain ⟨l,Al,cl⟩:=x
     dsimp only at *
     have hki:(k:Int)<n:=by omega
     cases hgr:zA l with
     | true =>
      rw [hgr] at HC HD
      have HR2:Hid (R=true):=Lh (by rw [HK.out,HD.out];rfl)
      clear HK HD hgr
      go_wp2_with (go_at_call 24;refine (HC.out _ hb).mono ?_;rintro e w1 ⟨rfl,rfl⟩)
      go_ret
      exact ⟨by rw [HR2.out];rfl,hb⟩
     | false =>
      rw [hgr] at HC HD
      have HR2:Hid (R=((rls rs).drop (k+1)).any zA):=Lh (by rw [HK.out,HD.out];rfl)
      clear HK HD hgr
      go_wp2_with (go_at_call 24;refine (HC.out _ hb).mono ?_;rintro e w1 ⟨rfl,rfl⟩)
      exact ⟨⟨k+1,by omega,by go_num,hX,HR2⟩,by simp [intOf];omega⟩
    ·have HR2:Hid (R=false):=Lh (by rw [HK.out,List.drop_of_length_le (by rw [vJ];have:=HN.out;omega)];rfl)
     obtain rfl:k=n:=by omega
     go_wp2
     go_ret
     exact ⟨by rw [HR2.out];rfl,hb⟩
end Go.Proofs.YticbpkghcglgkaaGreatDoor
namespace Go.Proofs.YticbpkghcglgkaaGreatDoor
open Go.Proofs.Tryz Go.RowKit
set_option maxRecDepth 20000
def qaJ (l:List Gl):ByteArray:=l.foldl (fun s g=>s++g.text) ⟨#[]⟩
theorem qes {l:List Gl} {k:Nat} (h:k<l.length):qaJ (l.take (k+1))=qaJ (l.take k)++l[k].text:=by
 unfold qaJ
 rw [List.take_succ_eq_append_getElem h,List.foldl_append]
 rfl
theorem qjz {l:List Gl} {M:Nat} (h : ∀ g∈l,g.text.size<=M) : ∀ k,k<=l.length->(qaJ (l.take k)).size<=k * M:=by
 intro k
 induction k with
 | zero=>intro _;rw [List.take_zero,Nat.zero_mul];exact Nat.le_refl _
 | succ k ih =>
  intro hk
  have h1:=ih (by omega)
  have h2:=h _ (List.getElem_mem (show k<l.length by omega))
  rw [qes (by omega),ByteArray.size_append,Nat.add_mul]
  omega
theorem rtext15_ (l:List Gl) (A:Option Addr) (n c B:Nat) (w:World) (rd:Rd w B 3 A n (qi l)) (hn:n<=1000) (hz : ∀ g∈l,g.text.size<=1000) :
  Calls prog 26 #[.slice A n c] w fun e w'=>e = .returned (.string (qaJ l))/\w'=w:=by
 have HN:=Lh (jK rd)
 have hT:Hid (∀ k,k<=n->(qaJ (l.take k)).size<=1000000):=Lh fun k hk=>by
  have h1:=qjz hz k (by have:=HN.out;omega)
  have:k * 1000<=1000 * 1000:=Nat.mul_le_mul_right _ (by omega)
  omega
 have hZ:=Lh hz
 clear hz
 have HE:Hid (qaJ l=qaJ (l.take n)):=Lh (by rw [<- HN.out,List.take_length])
 rw [HE.out]
 go_enter func26,ntmps26
 go_wp2
 go_loop [3,4] (fun s x=>∃ k:Nat,k<=n/\x = .int .i64 k/\s = .string (qaJ (l.take k))) (fun _ x=>n-(intOf x).toNat)
 case atStart=>exact ⟨0,Nat.zero_le _,rfl,rfl⟩
 case round =>
  obtain ⟨k,hk,rfl,rfl⟩:=hrel
  by_cases hlt:k<n
  ·have hkl:k<l.length:=by have:=HN.out;omega
   obtain ⟨b,o,rfl,_,g0,_,_⟩:=jE rd hkl (jK rd)
   have HD:=Lh (qes hkl)
   have h1:=hT.out k hk
   have h2:=hZ.out _ (List.getElem_mem hkl)
   generalize l[k]=g at *
   obtain ⟨t,wd,st⟩:=g
   dsimp only at *
   generalize hS:qaJ (l.take k)=S at *
   have hki:(k:Int)<n:=by omega
   have hsum:S.size+t.size<=9223372036854775807:=by omega
   clear hS
   go_wp2
   exact ⟨⟨k+1,by omega,by go_num,by rw [HD.out]⟩,by simp [intOf];omega⟩
  ·obtain rfl:k=n:=by omega
   go_wp2
   go_ret
   exact ⟨rfl,rfl⟩
def exB42:ByteArray:=⟨#[108,105,110,101,32,116,119,111,32,99,111,108,117,109,110,32,111,110,101,32,105,110,115,101,114,116,32,104,105,32,115,116,111,112,32,100,111,110,101]⟩
def exL42:List ByteArray:=[⟨#[108,105,110,101]⟩,⟨#[116,119,111]⟩,⟨#[99,111,108,117,109,110]⟩,⟨#[111,110,101]⟩,⟨#[105,110,115,101,114,116]⟩,⟨#[104,105]⟩,⟨#[115,116,111,112]⟩,⟨#[100,111,110,101]⟩]
def exC42:Chg:=⟨3,1,0,0,0,[⟨⟨#[104]⟩,false,0⟩,⟨⟨#[105]⟩,false,0⟩]⟩
def exV42:Vw:=⟨10,2,[[],[⟨⟨#[104]⟩,false,0⟩,⟨⟨#[105]⟩,false,0⟩]],0,0,true⟩
theorem qcT:Lib.fields exB42.data.toList=exL42.map fun s=>s.data.toList:=by decide +kernel
theorem qjB:exB42.size<4294967281:=by decide +kernel
theorem qhD : ∀ (j:Nat) b,exB42.data.toList[j]? = some b->b.toNat<128:=qdF _ (by decide +kernel)
theorem ex42_sv:((Lib.fields exB42.data.toList).map fun l=>Value.string ⟨l.toArray⟩)=sv exL42:=by
 rw [qcT,List.map_map]
 rfl
theorem qiY:jm exL42=some ([exC42],1):=by kernel_rfl
theorem ex42_new:newM 10 2=(⟨zD 10 2,0⟩,0):=by unfold newM;rw [if_pos (by decide)]
theorem qhP:yx (zD 10 2) [exC42]=(exV42,0):=by kernel_rfl
theorem qgo:vu ⟨zD 10 2,0⟩=true:=by kernel_rfl
theorem qjH:yT ⟨zD 10 2,0⟩ exL42=(⟨exV42,1⟩,0):=by
 unfold yT
 rw [qgo,qiY]
 dsimp only
 rw [qhP]
 rfl
theorem qkr:qaJ [⟨⟨#[104]⟩,false,0⟩,⟨⟨#[105]⟩,false,0⟩]=⟨#[104,105]⟩:=by decide +kernel
theorem zd {X:World} {g:Nat} {m:Md} {A:Option Addr} {n c:Nat} (h:Blk X g 26 (mdC m A n c)):X.cell? ⟨g,0,none⟩=some (.int .i64 m.view.width)/\X.cell? ⟨g,1,none⟩=some (.int .i64 m.view.height)/\X.cell? ⟨g,2,none⟩=some (.slice A n c)/\X.cell? ⟨g,3,none⟩=some (.int .i64 m.view.row)/\X.cell? ⟨g,4,none⟩=some (.int .i64 m.view.col)/\X.cell? ⟨g,5,none⟩=some (.bool m.view.vis)/\X.cell? ⟨g,6,none⟩=some (.int .i64 m.upd) /\
  X.frozen? ⟨g,0,none⟩=false/\X.frozen? ⟨g,1,none⟩=false/\X.frozen? ⟨g,2,none⟩=false/\X.frozen? ⟨g,3,none⟩=false/\X.frozen? ⟨g,4,none⟩=false/\X.frozen? ⟨g,5,none⟩=false/\X.frozen? ⟨g,6,none⟩=false :=
 ⟨h.cell 0,h.cell 1,h.cell 2,h.cell 3,h.cell 4,h.cell 5,h.cell 6,h.frozen 0,h.frozen 1,h.frozen 2,h.frozen 3,h.frozen 4,h.frozen 5,h.frozen 6⟩
theorem set7_ {X:World} {g:Nat} {t:TypeId} {a0 a1 a2 a3 a4 a5 a6:Value} (h:Blk X g t #[a0,a1,a2,a3,a4,a5,a6]) (b0 b1 b2 b3 b4 b5 b6:Value):Blk (((((((X.setCell ⟨g,0,none⟩ b0).setCell ⟨g,1,none⟩ b1).setCell ⟨g,2,none⟩ b2).setCell ⟨g,3,none⟩ b3).setCell ⟨g,4,none⟩ b4).setCell ⟨g,5,none⟩ b5).setCell ⟨g,6,none⟩ b6) g t #[b0,b1,b2,b3,b4,b5,b6]:=by
 have h0:Blk _ g t #[b0,a1,a2,a3,a4,a5,a6]:=h.set_ 0 b0
 have h1:Blk _ g t #[b0,b1,a2,a3,a4,a5,a6]:=h0.set_ 1 b1
 have h2:Blk _ g t #[b0,b1,b2,a3,a4,a5,a6]:=h1.set_ 2 b2
 have h3:Blk _ g t #[b0,b1,b2,b3,a4,a5,a6]:=h2.set_ 3 b3
 have h4:Blk _ g t #[b0,b1,b2,b3,b4,a5,a6]:=h3.set_ 4 b4
 have h5:Blk _ g t #[b0,b1,b2,b3,b4,b5,a6]:=h4.set_ 5 b5
 exact h5.set_ 6 b6
theorem md_set {X:World} {g:Nat} {m0:Md} {A0:Option Addr} {n0 c0:Nat} (h:Blk X g 26 (mdC m0 A0 n0 c0)) (m:Md) (A:Option Addr) (n c:Nat):Blk (setM X g m A n c) g 26 (mdC m A n c):=set7_ h _ _ _ _ _ _ _
theorem qiB {N g n c n' c':Nat} {X:World} {v:Vw} {A A':Option Addr} {rs:List RowM} {m:Md} (h:OwV N X v A n c rs) (hg:g<N):OwV N (setM X g m A' n' c') v A n c rs :=
 ((((((h.far (p:=⟨g,0,none⟩) hg _).far (p:=⟨g,1,none⟩) hg _).far (p:=⟨g,2,none⟩) hg _).far (p:=⟨g,3,none⟩) hg _).far (p:=⟨g,4,none⟩) hg _).far (p:=⟨g,5,none⟩) hg _).far (p:=⟨g,6,none⟩) hg _
theorem two_rows {rs:List RowM} (h:exV42.rows=rls rs) : ∃ r0 r1,rs=[r0,r1]/\r0.l=[]/\r1.l=[⟨⟨#[104]⟩,false,0⟩,⟨⟨#[105]⟩,false,0⟩]:=by
 have hl:rs.length=2:=by
  have:=congrArg List.length h
  rw [vJ] at this
  exact this.symm
 match rs,hl,h with
 | [r0,r1],_,h =>
  have h:([[],[⟨⟨#[104]⟩,false,0⟩,⟨⟨#[105]⟩,false,0⟩]]:List (List Gl))=[r0.l,r1.l]:=h
  injection h with h1 h2
  injection h2 with h2
  exact ⟨r0,r1,rfl,h1.symm,h2.symm⟩
theorem ex42_sz : ∀ s∈exL42,s.size<=1000:=by decide +kernel
theorem qic (W:World):WdR (W.alloc (.cells (sv exL42).toArray 9)) (W.alloc (.cells (sv exL42).toArray 9)).heap.size exL42 (some ⟨W.heap.size,0,none⟩) 8 8:=by
 have h:Rd (W.alloc (.cells (sv exL42).toArray 9)) (W.heap.size+1) 1 (some ⟨W.heap.size,0,none⟩) 8 (sv exL42):=qe (w:=W) (xs:=sv exL42) (e:=9) rfl rfl
 have h2:W.heap.size+1<=(W.alloc (.cells (sv exL42).toArray 9)).heap.size:=by rw [World.size_alloc];exact Nat.le_refl _
 have h3:=Rd.more h h2
 have h4:(8:Nat)<=maxLen:=by unfold maxLen;omega
 generalize W.alloc (.cells (sv exL42).toArray 9)=Y at *
 exact ⟨rfl,Nat.le_refl _,h4,h3,ex42_sz⟩
theorem ex42_wdr (W:World):WdR (W.alloc (.cells (sv exL42).toArray 9)).drew (W.alloc (.cells (sv exL42).toArray 9)).drew.heap.size exL42 (some ⟨W.heap.size,0,none⟩) 8 8:=(qic W).below (Below.refl _ _).drew
theorem awake42_ (w:World) (hg:Gd w):Calls prog 10 #[] w (qh (.bool true) w):=by
 have HF:Hid (∀ X,Below w.heap.size w X->Calls prog 25 #[.string exB42] X fun e w'=>e = .returned (.slice (some ⟨X.heap.size,0,none⟩) 8 8)/\w'=X.alloc (.cells (sv exL42).toArray 9)):=Lh fun X hX=>by
  have h:=Tryz.strings_Fields exB42 X qjB qhD (hg.below hX).1
  rw [ex42_sv,qcT,List.length_map] at h
  exact h
 have HN:Hid (∀ X,Below w.heap.size w X->Calls prog 22 #[.int .i64 10,.int .i64 2] X fun e w'=>∃ A c rs,e = .returned (.tuple #[.agg #[.int .i64 10,.int .i64 2,.slice A 2 c,.int .i64 0,.int .i64 0,.bool true,.int .i64 0],.int .i64 0])/\RdV w' w'.heap.size (zD 10 2) A 2 c rs/\Below w.heap.size w w'/\Below X.heap.size X w'):=Lh fun X hX=>(lnew_ 10 2 X).mono fun e w' h=>by
  rw [ex42_new] at h
  obtain ⟨h1,A,n,c,rs,h2,h3⟩:=h
  obtain rfl:2=n:=h3.rdV.len
  exact ⟨A,c,rs,h2,h3.rdV,hX.trans (h1.mono hX.size),h1⟩
 have HH:Hid (∀ X A c rs Y,Below w.heap.size w X->RdV X X.heap.size (zD 10 2) A 2 c rs->Below X.heap.size X Y->∀ B2,WdR Y Y.heap.size exL42 (some B2) 8 8->Calls prog 11 #[.agg #[.int .i64 10,.int .i64 2,.slice A 2 c,.int .i64 0,.int .i64 0,.bool true,.int .i64 0],.slice (some B2) 8 8] Y fun e w'=>∃ A c rs,e = .returned (.tuple #[.agg #[.int .i64 10,.int .i64 2,.slice A 2 c,.int .i64 0,.int .i64 0,.bool true,.int .i64 1],.int .i64 0])/\OwV Y.heap.size w' exV42 A 2 c rs/\Below Y.heap.size Y w'):=Lh fun X A c rs Y hX hr hY B2 hW=>by
  have hb:=hX.trans (hY.mono hX.size)
  have hg':=hg.below hb
  have hrl:rls rs=[[],[]]:=hr.2.1.symm
  have hx : ∀ x∈rs,x.l=[]:=fun x hx=>by
   have:x.l∈rls rs:=List.mem_map_of_mem hx
   rw [hrl] at this
   simpa using this
  refine (hear_ ⟨zD 10 2,0⟩ A 2 c X.heap.size rs exL42 (some B2) 8 8 Y (hr.below hY) hY.size (fun x h=>by rw [hx x h];decide) (fun x h=>by rw [hx x h];intro g hg;cases hg) hW (by decide) (few_of (by decide)) hg'.1 hg'.2.1 hg'.2.2).mono fun e w' h=>?_
  rw [qjH] at h
  obtain ⟨h1,A,n,c,rs,h2,h3⟩:=h
  obtain rfl:2=n:=h3.rdV.len
  exact ⟨A,c,rs,h2,h3,h1⟩
 have hb0:Below w.heap.size w w:=Below.refl _ _
 clear hg
 go_enter func10,ntmps10
 go_upto_region 2 with (go_at_call 22;refine (HN.out _ hb0).mono ?_;rintro e w1 ⟨A1,d1,rs1,rfl,hr1,hb1,hx1⟩)
 refine qa (fun X=>Blk X w1.heap.size 26 (mdC ⟨zD 10 2,0⟩ A1 2 d1)/\Below w1.heap.size w1 X) ⟨Blk.new_ rfl,(Below.refl _ _).alloc (Nat.le_refl _) _⟩ ?_
 rintro X ⟨hB,hx⟩
 have hbX:=hb1.trans (hx.mono hb1.size)
 have hGl:=hB.lt
 obtain ⟨e0,e1,e2,e3,e4,e5,e6,-,-,-,-,-,-,-⟩:=zd hB
 have hz1:=hx.size
 have hbl:(zD 10 2).width=10/\(zD 10 2).height=2/\(zD 10 2).row=0/\(zD 10 2).col=0/\(zD 10 2).vis=true:=⟨rfl,rfl,rfl,rfl,rfl⟩
 obtain ⟨l0,l1,l2,l3,l4⟩:=hbl
 dsimp only at e0 e1 e3 e4 e5 e6
 rw [l0] at e0
 rw [l1] at e1
 rw [l2] at e3
 rw [l3] at e4
 rw [l4] at e5
 clear l0 l1 l2 l3 l4
 have HFX:Hid (∀ W,Below X.heap.size X W->Calls prog 25 #[.string exB42] W fun e w'=>e = .returned (.slice (some ⟨W.heap.size,0,none⟩) 8 8)/\w'=W.alloc (.cells (sv exL42).toArray 9)):=Lh fun W h=>HF.out W (hbX.trans (h.mono hbX.size))
 have HHX:Hid (∀ Y B2,Below X.heap.size X Y->WdR Y Y.heap.size exL42 (some B2) 8 8->Calls prog 11 #[.agg #[.int .i64 10,.int .i64 2,.slice A1 2 d1,.int .i64 0,.int .i64 0,.bool true,.int .i64 0],.slice (some B2) 8 8] Y fun e w'=>∃ A c rs,e = .returned (.tuple #[.agg #[.int .i64 10,.int .i64 2,.slice A 2 c,.int .i64 0,.int .i64 0,.bool true,.int .i64 1],.int .i64 0])/\OwV X.heap.size w' exV42 A 2 c rs/\Below X.heap.size X w'):=Lh fun Y B2 h hW =>
  (HH.out w1 A1 d1 rs1 Y hb1 hr1 (hx.trans (h.mono hz1)) B2 hW).mono fun e w' ⟨A,c,rs,q1,q2,q3⟩=>⟨A,c,rs,q1,q2.less h.size,h.trans (q3.mono h.size)⟩
 clear HN HF HH hb0 hr1
 go_region_law (first
  | (go_simp;go_at_call 25;refine (HFX.out _ (by (repeat (first | exact Below.refl _ _ | assumption | refine Below.drew ?_ | refine Below.alloc ?_ (by first | (simp;done) | (simp;omega) | omega) _ | refine Below.setCell ?_ (by first | (simp;done) | (simp;omega) | omega) _)))).mono ?_;rintro e w2 ⟨rfl,rfl⟩)
  | (go_simp;go_at_call 11;refine (HHX.out _ _ (by (repeat (first | exact Below.refl _ _ | assumption | refine Below.drew ?_ | refine Below.alloc ?_ (by first | (simp;done) | (simp;omega) | omega) _ | refine Below.setCell ?_ (by first | (simp;done) | (simp;omega) | omega) _))) (by first | exact qic _ | exact ex42_wdr _)).mono ?_;rintro e w3 ⟨A3,d3,rs3,rfl,hr3,hx3⟩;have hB3:=hB.below hx3 hGl;have hB4:=md_set hB3 ⟨exV42,1⟩ A3 2 d3;have ho4:=qiB (m:=⟨exV42,1⟩) (A':=A3) (n':=2) (c':=d3) hr3 hGl;have hb4:=yX (g:=w1.heap.size) (hbX.trans (hx3.mono hbX.size)) hb1.size ⟨exV42,1⟩ A3 2 d3;obtain ⟨z0,z1,z2,z3,z4,z5,z6,y0,y1,y2,y3,y4,y5,y6⟩:=zd hB3))
 all_goals
  go_upto_region 3 with fail
  refine qa (fun Y=>Blk Y w1.heap.size 26 (mdC ⟨exV42,1⟩ A3 2 d3)/\OwV X.heap.size Y exV42 A3 2 d3 rs3/\Below w.heap.size w Y) ⟨hB4,ho4,hb4⟩ ?_
  rintro Y ⟨hBY,hoY,hbY⟩
  clear hB3 hB4 hr3 ho4 hb4 z0 z1 z2 z3 z4 z5 z6 y0 y1 y2 y3 y4 y5 y6
  obtain ⟨-,-,e2',-,-,-,e6',-,-,-,-,-,-,-⟩:=zd hBY
  dsimp only at e6'
  obtain ⟨G1,cap1,hA,hG1,-⟩:=hoY.rows.form (by decide)
  obtain ⟨rfl,rfl⟩:A3=some ⟨G1,0,none⟩/\d3=cap1:=by injection hA with h1 _ h2;exact ⟨h1,h2⟩
  obtain ⟨r0,r1,rfl,hq0,hq1⟩:=two_rows hoY.eq
  have k0:Y.cell? ⟨G1,0,none⟩=some (.slice r0.A r0.l.length r0.cap):=hoY.rows.cellAt 0 (by decide)
  have k1:Y.cell? ⟨G1,1,none⟩=some (.slice r1.A r1.l.length r1.cap):=hoY.rows.cellAt 1 (by decide)
  have hT:Hid (Calls prog 26 #[.slice r1.A r1.l.length r1.cap] Y fun e w'=>e = .returned (.string (qaJ r1.l))/\w'=Y):=Lh (rtext15_ _ _ _ _ Y.heap.size Y (qe8 (hoY.gl r1 (by simp))).1 (by rw [hq1];decide) (by rw [hq1];decide))
  rw [hq0] at k0
  rw [hq1] at k1 hT
  rw [qkr] at hT
  dsimp only [List.length_nil,List.length_cons] at k0 k1 hT
  clear hBY hoY hA hq0 hq1 e0 e1 e2 e3 e4 e5 e6 hB hx3
  go_wp2_with (go_at_call 26;refine hT.out.mono ?_;rintro e w4 ⟨rfl,rfl⟩)
  go_ret
  exact ⟨rfl,hbY⟩
def V2 (w:World) (v:Vw) (A A':Option Addr) (n c c':Nat) (X:World):Prop:=Blk X w.heap.size 24 (vwC v A n c)/\Blk X (w.heap.size+1) 24 (vwC v A' n c')/\Below w.heap.size w X
theorem V2.on {w X X':World} {v:Vw} {A A':Option Addr} {n c c':Nat} (h:V2 w v A A' n c c' X) (hb:Below X.heap.size X X'):V2 w v A A' n c c' X' :=
 ⟨h.1.below hb h.1.lt,h.2.1.below hb h.2.1.lt,h.2.2.trans (hb.mono (Nat.le_of_lt h.1.lt))⟩
theorem rsame15_ (v:Vw) (A A':Option Addr) (n c c' B:Nat) (rs rs':List RowM) (w:World) (rd:RdV w B v A n c rs) (rd':RdV w B v A' n c' rs') (hB:B<=w.heap.size) (hm : ∀ x∈rs,x.l.length<=1000000000) :
  Calls prog 18 #[.agg (vwC v A n c),.agg (vwC v A' n c')] w (qh (.bool true) w):=by
 have hn:rs.length=n:=rd.1.len
 have hn':rs'.length=n:=rd'.1.len
 have hnm:n<=9223372036854775807:=by have h1:=rd.2.2.1;have h2:=rd.2.2.2;unfold maxLen at h2;omega
 have hl : ∀ k (h:k<rs.length) (h':k<rs'.length),rs[k].l=rs'[k].l:=fun k h h'=>by
  have e:rls rs=rls rs':=rd.2.1.symm.trans rd'.2.1
  have e1:(rls rs)[k]? = (rls rs')[k]?:=by rw [e]
  unfold rls at e1
  rw [List.getElem?_map,List.getElem?_map,List.getElem?_eq_getElem h,List.getElem?_eq_getElem h'] at e1
  exact Option.some.inj e1
 have HC:Hid (∀ k,k<n->∀ X,Below w.heap.size w X->∃ b o b' o' B1 B2 m d d',A=some ⟨b,o,none⟩/\A'=some ⟨b',o',none⟩/\X.cell? ⟨b,o+k,none⟩=some (.slice B1 m d)/\X.cell? ⟨b',o'+k,none⟩=some (.slice B2 m d')/\∀ Y,Below w.heap.size w Y->Calls prog 39 #[.slice B1 m d,.slice B2 m d'] Y (qh (.bool true) Y)):=Lh fun k hk X hX=>by
  have h1:k<rs.length:=by omega
  have h2:k<rs'.length:=by omega
  obtain ⟨b,o,e1,-,e2⟩:=((rd.1.more hB).below hX).at_ h1
  obtain ⟨b',o',e3,-,e4⟩:=((rd'.1.more hB).below hX).at_ h2
  refine ⟨b,o,b',o',rs[k].A,rs'[k].A,rs[k].l.length,rs[k].cap,rs'[k].cap,e1,e3,e2,by rw [hl k h1 h2];exact e4,fun Y hY=>?_⟩
  have r1:=((rd.1.gl _ (List.getElem_mem h1)).1.more hB).below hY
  have r2:=((rd'.1.gl _ (List.getElem_mem h2)).1.more hB).below hY
  rw [<- hl k h1 h2] at r2
  have:=rsamerow rs[k].l rs[k].l rs[k].A rs'[k].A _ _ rs[k].cap rs'[k].cap w.heap.size Y (hm _ (List.getElem_mem h1)) r1 r2
  rw [decide_eq_true rfl] at this
  exact this.mono fun _ _ h=>h.gives
 clear rd rd' hl hn hn' hm
 obtain ⟨W,H,rows,r,cl,vs⟩:=v
 have hvs:(vs != vs)=false:=by cases vs <;> rfl
 have e1:(W != W)=false:=bne_self_eq_false W
 have e2:(H != H)=false:=bne_self_eq_false H
 have e3:(r != r)=false:=bne_self_eq_false r
 have e4:(cl != cl)=false:=bne_self_eq_false cl
 have e5:((n:Int) != n)=false:=bne_self_eq_false _
 go_enter func18,ntmps18
 go_upto_region 1 with fail
 refine qa (V2 w ⟨W,H,rows,r,cl,vs⟩ A A' n c c') ⟨(Blk.new_ rfl).below ((Below.refl _ _).alloc (Nat.le_refl _) _) (by simp),Blk.new_ (by simp),((Below.refl _ _).alloc (Nat.le_refl _) _).alloc (by simp) _⟩ ?_
 intro X hX
 obtain ⟨c0,c1,c2,c3,c4,c5⟩:=qw hX.1
 obtain ⟨d0,d1,d2,d3,d4,d5⟩:=qw hX.2.1
 dsimp only at c0 c1 c3 c4 c5 d0 d1 d3 d4 d5
 go_wp2
 clear c0 c1 c2 c3 c4 c5 d0 d1 d2 d3 d4 d5
 go_loopw [5] (fun x wr=>∃ k:Nat,k<=n/\x = .int .i64 k/\V2 w ⟨W,H,rows,r,cl,vs⟩ A A' n c c' wr) (fun x _=>n-(intOf x).toNat)
 case atStart=>exact ⟨0,Nat.zero_le _,rfl,hX⟩
 case round =>
  clear hX
  obtain ⟨k,hk,rfl,hX⟩:=hrel
  obtain ⟨c0,c1,c2,c3,c4,c5⟩:=qw hX.1
  obtain ⟨d0,d1,d2,d3,d4,d5⟩:=qw hX.2.1
  have hb:=hX.2.2
  have hlX:=hX.2.1.lt
  by_cases hlt:k<n
  ·obtain ⟨b,o,b',o',B1,B2,m,g,g',rfl,rfl,k1,k2,hS⟩:=HC.out k hlt _ hb
   have hS':=Lh hS
   have hki:(k:Int)<n:=by omega
   clear hS c0 c1 c3 c4 c5 d0 d1 d3 d4 d5
   go_upto_region 6 with fail
   go_region_law (go_simp;go_at_call 39;refine (hS'.out _ (by first | exact hb | exact hb.drew)).mono ?_;rintro e w2 ⟨rfl,b2⟩)
   all_goals go_wp2
   all_goals exact ⟨⟨k+1,by omega,by go_num,hX.on (jI (B:=wr.heap.size) b2)⟩,by simp [intOf];omega⟩
  ·obtain rfl:k=n:=by omega
   clear c0 c1 c3 c4 c5 d0 d1 d3 d4 d5
   go_wp2
   go_ret
   exact ⟨rfl,hb⟩
theorem rsame42_ (m:Md) (A A':Option Addr) (n c c' B:Nat) (rs rs':List RowM) (w:World) (rd:RdV w B m.view A n c rs) (rd':RdV w B m.view A' n c' rs') (hB:B<=w.heap.size) (hm : ∀ x∈rs,x.l.length<=1000000000) :
  Calls prog 13 #[.agg (mdC m A n c),.agg (mdC m A' n c')] w (qh (.bool true) w):=by
 have HS:Hid (∀ X,Below w.heap.size w X->Calls prog 18 #[.agg (vwC m.view A n c),.agg (vwC m.view A' n c')] X (qh (.bool true) X)):=Lh fun X hX=>rsame15_ m.view A A' n c c' w.heap.size rs rs' X ((rd.more hB).below hX) ((rd'.more hB).below hX) hX.size hm
 clear rd rd' hm
 obtain ⟨⟨W,H,rows,r,cl,vs⟩,U⟩:=m
 dsimp only at HS
 have e1:(U==U)=true:=beq_self_eq_true U
 go_enter func13,ntmps13
 go_upto_region 1 with fail
 refine qa (fun X=>Blk X w.heap.size 26 (mdC ⟨⟨W,H,rows,r,cl,vs⟩,U⟩ A n c)/\Blk X (w.heap.size+1) 26 (mdC ⟨⟨W,H,rows,r,cl,vs⟩,U⟩ A' n c')/\Below w.heap.size w X) ⟨(Blk.new_ rfl).below ((Below.refl _ _).alloc (Nat.le_refl _) _) (by simp),Blk.new_ (by simp),((Below.refl _ _).alloc (Nat.le_refl _) _).alloc (by simp) _⟩ ?_
 rintro X ⟨h1,h2,hb⟩
 obtain ⟨c0,c1,c2,c3,c4,c5,c6,-,-,-,-,-,-,-⟩:=zd h1
 obtain ⟨d0,d1,d2,d3,d4,d5,d6,-,-,-,-,-,-,-⟩:=zd h2
 dsimp only at c0 c1 c3 c4 c5 c6 d0 d1 d3 d4 d5 d6
 go_wp2_with (go_at_call 18;refine (HS.out _ hb).mono ?_;rintro e w1 ⟨rfl,hb1⟩)
 go_ret
 exact ⟨rfl,hb.trans (hb1.mono hb.size)⟩
end Go.Proofs.YticbpkghcglgkaaGreatDoor
namespace Go.Proofs.YticbpkghcglgkaaGreatDoor
open Go.Proofs.Tryz Go.RowKit
structure SpkM where
 com:Bool
 ws:List ByteArray
 A:Option Addr
 cap:Nat
 cA:Option Addr
 cn:Nat
 cc:Nat
 cl:Int
 af:Int
 up:Int
 be:Int
 en:Int
instance:Inhabited SpkM:=⟨⟨false,[],none,0,none,0,0,0,0,0,0,0⟩⟩
def encK (x:SpkM):List Value:=[.slice x.A x.ws.length x.cap,.slice x.cA x.cn x.cc,.int .i64 x.cl,.int .i64 x.af,.int .i64 x.up,.int .i64 x.be,.int .i64 x.en,.bool x.com]
def qdD (l:List SpkM):List Value:=l.flatMap encK
theorem qbU (x:SpkM):(encK x).length=8:=rfl
theorem qbE (x:SpkM) (l:List SpkM):qdD (x::l)=encK x++qdD l:=by simp [qdD]
theorem qep : ∀ l:List SpkM,(qdD l).length=l.length * 8
 | []=>rfl
 | r::l=>by
  rw [qbE,List.length_append,qep l,qbU,List.length_cons]
  omega
theorem qex : ∀ (l:List SpkM) (i j:Nat),j<8->(qdD l)[i * 8+j]? = l[i]?.bind fun r=>(encK r)[j]?
 | [],i,j,_=>by simp [qdD]
 | r::l,0,j,h=>by
  rw [qbE,Nat.zero_mul,Nat.zero_add,List.getElem?_append_left (by rw [qbU];exact h)]
  rfl
 | r::l,i+1,j,h=>by
  rw [qbE,List.getElem?_append_right (by rw [qbU];omega),qbU,show (i+1) * 8+j-8=i * 8+j by omega,qex l i j h]
  rfl
def RdW (w:World) (B:Nat) (x:SpkM):Prop:=Rd w B 1 x.A x.ws.length (sv x.ws)/\x.ws.length<=x.cap/\x.cap<=maxLen/\∀ s∈x.ws,s.size<=maxLen
theorem RdW.below {w w':World} {B:Nat} {x:SpkM} (h:RdW w B x) (hb:Below B w w'):RdW w' B x:=⟨h.1.below hb,h.2⟩
theorem RdW.more {w:World} {B B':Nat} {x:SpkM} (h:RdW w B x) (hb:B<=B'):RdW w B' x:=⟨h.1.more hb,h.2⟩
structure RdS (w:World) (B:Nat) (A:Option Addr) (n:Nat) (l:List SpkM):Prop where
 rd:Rd w B 8 A n (qdD l)
 gl : ∀ x∈l,RdW w B x
theorem RdS.len {w:World} {B n:Nat} {A:Option Addr} {l:List SpkM} (h:RdS w B A n l):l.length=n:=by
 have:=h.rd.1
 rw [qep] at this
 omega
theorem RdS.below {w w':World} {B n:Nat} {A:Option Addr} {l:List SpkM} (h:RdS w B A n l) (hb:Below B w w'):RdS w' B A n l:=⟨h.rd.below hb,fun x hx=>(h.gl x hx).below hb⟩
theorem RdS.more {w:World} {B B' n:Nat} {A:Option Addr} {l:List SpkM} (h:RdS w B A n l) (hb:B<=B'):RdS w B' A n l:=⟨h.rd.more hb,fun x hx=>(h.gl x hx).more hb⟩
theorem RdS.at_ {w:World} {B n:Nat} {A:Option Addr} {l:List SpkM} (h:RdS w B A n l) {k:Nat} (hk:k<l.length) : ∃ b o,A=some ⟨b,o,none⟩/\b<B /\
  w.cell? ⟨b,o+k * 8,none⟩=some (.slice l[k].A l[k].ws.length l[k].cap)/\w.cell? ⟨b,o+k * 8+1,none⟩=some (.slice l[k].cA l[k].cn l[k].cc)/\w.cell? ⟨b,o+k * 8+2,none⟩=some (.int .i64 l[k].cl)/\w.cell? ⟨b,o+k * 8+3,none⟩=some (.int .i64 l[k].af) /\
  w.cell? ⟨b,o+k * 8+4,none⟩=some (.int .i64 l[k].up)/\w.cell? ⟨b,o+k * 8+5,none⟩=some (.int .i64 l[k].be)/\w.cell? ⟨b,o+k * 8+6,none⟩=some (.int .i64 l[k].en)/\w.cell? ⟨b,o+k * 8+7,none⟩=some (.bool l[k].com):=by
 have hn:=h.len
 obtain ⟨b,o,e,hb,hc⟩:=h.rd.2 (by omega)
 have h : ∀ j,j<8->∀ u,(encK l[k])[j]? = some u->w.cell? ⟨b,o+k * 8+j,none⟩=some u:=fun j hj u hu=>by
  have:=hc (k * 8+j) u (by rw [qex _ _ _ hj,List.getElem?_eq_getElem hk];exact hu)
  rwa [<- Nat.add_assoc] at this
 exact ⟨b,o,e,hb,h 0 (by omega) _ rfl,h 1 (by omega) _ rfl,h 2 (by omega) _ rfl,h 3 (by omega) _ rfl,h 4 (by omega) _ rfl,h 5 (by omega) _ rfl,h 6 (by omega) _ rfl,h 7 (by omega) _ rfl⟩
theorem hear_err (m:Md) (W:List ByteArray) (h:(yT m W).2≠0):yT m W=(md0,(yT m W).2):=by
 unfold yT at h ⊢
 split
 ·rfl
 ·next hp =>
  rw [if_neg hp] at h
  split
  ·rfl
  ·next cs n hc =>
   rw [hc] at h
   dsimp only at h ⊢
   split
   ·rfl
   ·next h1 =>
    rw [if_neg h1] at h
    split
    ·rfl
    ·next h2=>rw [if_neg h2] at h;exact absurd rfl h
end Go.Proofs.YticbpkghcglgkaaGreatDoor
namespace Go.Proofs.YticbpkghcglgkaaGreatDoor
open Go.Proofs.Tryz Go.RowKit Go.Shelf
set_option maxRecDepth 20000
attribute [local go_sem] Oper.semAt_some
end Go.Proofs.YticbpkghcglgkaaGreatDoor
namespace Go.Proofs.YticbpkghcglgkaaGreatDoor
open Go.Proofs.Tryz Go.RowKit Go.Shelf
set_option maxRecDepth 20000
attribute [local go_sem] Oper.semAt_some
theorem qa9 {W:World} {g:Nat} {t:TypeId} {cs:Array Value} {row:Option Nat} (h:Blk W g t cs) (hr : ∀ r,row=some r->∃ o:Obj,W.heap[r]? = some o/\o.isCells=false):some g≠row:=fun e=>by
 obtain ⟨o,ho,hc⟩:=hr g e.symm
 unfold Blk at h
 rw [h] at ho;cases ho;cases hc
theorem qgM {W W':World} {row:Option Nat} {base:Nat} {e:TypeId} {size:Nat} {v:Value} {k:Nat} {xs:List Value} (h:W.ownsRow base e size v k xs) (hg:W.grownBy W' row) (hr : ∀ r,row=some r->∃ o:Obj,W.heap[r]? = some o/\o.isCells=false):W'.ownsRow base e size v k xs:=by
 refine h.kept hg ?_
 rcases h.2 with ⟨rfl,_⟩ | ⟨g,cap,cur,rfl,_,hgb,_⟩
 ·exact .inl rfl
 ·refine .inr fun e'=>?_
  obtain ⟨o,ho,hc⟩:=hr g (by simpa [Value.ownBlock] using e'.symm)
  rw [hgb] at ho;cases ho;cases hc
theorem OwV.kept {N n c:Nat} {W W':World} {v:Vw} {A:Option Addr} {rs:List RowM} {row:Option Nat} (h:OwV N W v A n c rs) (hg:W.grownBy W' row) (hr : ∀ r,row=some r->∃ o:Obj,W.heap[r]? = some o/\o.isCells=false):OwV N W' v A n c rs :=
 ⟨qgM h.rows hg hr,fun x hx=>qgM (h.gl x hx) hg hr,h.eq⟩
theorem qdt {X:World} {h g:Nat} {t:TypeId} {cs:Array Value} (hb:Blk X h t cs) (hn:h≠g) (m:Md) (A:Option Addr) (n c:Nat):Blk (setM X g m A n c) h t cs :=
 ((((((hb.far (p:=⟨g,0,none⟩) hn _).far (p:=⟨g,1,none⟩) hn _).far (p:=⟨g,2,none⟩) hn _).far (p:=⟨g,3,none⟩) hn _).far (p:=⟨g,4,none⟩) hn _).far (p:=⟨g,5,none⟩) hn _).far (p:=⟨g,6,none⟩) hn _
abbrev errB (X:World) (g:Nat) (e:Int):Prop:=Blk X g 31 #[.int .i64 e]
theorem errB.set {X:World} {g:Nat} {e:Int} (h:errB X g e) (u:Int):errB (X.setCell ⟨g,0,none⟩ (.int .i64 u)) g u:=Blk.set_ h 0 _
structure AllG (w:World) (gR gX gE gO:Nat):Prop where
 r:w.heap.size<=gR
 x:gR<gX
 e:gX<gE
 o:gE<gO
structure AllI (w:World) (gR gX gE gO:Nat) (M:Md × Int) (W:World):Prop where
 res:Blk W gR 26 (mdC md0 none 0 0)
 rex:errB W gX 0
 err:errB W gE M.2
 out : ∃ A n c N rs,gX<N/\Blk W gO 26 (mdC M.1 A n c)/\OwV N W M.1.view A n c rs
 bel:Below w.heap.size w W
theorem AllI.kept {w W W':World} {gR gX gE gO:Nat} {M:Md × Int} {row:Option Nat} (h:AllI w gR gX gE gO M W) (hg:W.grownBy W' row) (hr : ∀ r,row=some r->w.heap.size<=r/\∃ o:Obj,W.heap[r]? = some o/\o.isCells=false):AllI w gR gX gE gO M W':=by
 have hr' : ∀ r,row=some r->∃ o:Obj,W.heap[r]? = some o/\o.isCells=false:=fun r e=>(hr r e).2
 obtain ⟨A,n,c,N,rs,h1,h2,h3⟩:=h.out
 exact ⟨h.res.grown hg (qa9 h.res hr'),Blk.grown h.rex hg (qa9 h.rex hr'),Blk.grown h.err hg (qa9 h.err hr'),⟨A,n,c,N,rs,h1,h2.grown hg (qa9 h2 hr'),h3.kept hg hr'⟩,h.bel.grown hg h.bel.size (fun k e=>(hr k e).1)⟩
theorem AllI.on {w X X':World} {gR gX gE gO:Nat} {M:Md × Int} (h:AllI w gR gX gE gO M X) (hb:Below X.heap.size X X'):AllI w gR gX gE gO M X':=by
 obtain ⟨A,n,c,N,rs,h1,h2,h3⟩:=h.out
 exact ⟨Blk.below h.res hb h.res.lt,Blk.below h.rex hb h.rex.lt,Blk.below h.err hb h.err.lt,⟨A,n,c,N,rs,h1,h2.below hb h2.lt,h3.below hb⟩,h.bel.trans (hb.mono h.bel.size)⟩
theorem AllI.put {w X X3:World} {gR gX gE gO n c:Nat} {M1 M2:Md × Int} {A:Option Addr} {rs:List RowM} (h:AllI w gR gX gE gO M1 X) (hw:w.heap.size<=gR) (h1:gR<gX) (h2:gX<gE) (h3:gE<gO) (hb:Below X.heap.size X X3) (ho:OwV X.heap.size X3 M2.1.view A n c rs):AllI w gR gX gE gO M2 ((setM X3 gO M2.1 A n c).setCell ⟨gE,0,none⟩ (.int .i64 M2.2)):=by
 obtain ⟨A1,n1,c1,N,rs1,-,hO,-⟩:=h.out
 have hl:=hO.lt
 exact ⟨(qdt (Blk.below h.res hb h.res.lt) (by omega) _ _ _ _).far (by show gR≠gE;omega) _,(qdt (Blk.below h.rex hb h.rex.lt) (by omega) _ _ _ _).far (by show gX≠gE;omega) _,errB.set (qdt (Blk.below h.err hb h.err.lt) (by omega) _ _ _ _) _,
  ⟨A,n,c,X.heap.size,rs,by omega,(md_set (hO.below hb hl) _ _ _ _).far (by show gO≠gE;omega) _,(qiB ho hl).far (by show gE<X.heap.size;omega) _⟩,(yX (h.bel.trans (hb.mono h.bel.size)) (by omega) _ _ _ _).setCell (by show w.heap.size<=gE;omega) _⟩
structure AllX (w:World) (gR gX:Nat) (E:Int) (W:World):Prop where
 res:Blk W gR 26 (mdC md0 none 0 0)
 rex:errB W gX E
 bel:Below w.heap.size w W
theorem AllX.kept {w W W':World} {gR gX:Nat} {E:Int} {row:Option Nat} (h:AllX w gR gX E W) (hg:W.grownBy W' row) (hr : ∀ r,row=some r->w.heap.size<=r/\∃ o:Obj,W.heap[r]? = some o/\o.isCells=false):AllX w gR gX E W':=by
 have hr' : ∀ r,row=some r->∃ o:Obj,W.heap[r]? = some o/\o.isCells=false:=fun r e=>(hr r e).2
 exact ⟨h.res.grown hg (qa9 h.res hr'),Blk.grown h.rex hg (qa9 h.rex hr'),h.bel.grown hg h.bel.size (fun k e=>(hr k e).1)⟩
theorem AllX.drew {w X:World} {gR gX:Nat} {E:Int} (h:AllX w gR gX E X):AllX w gR gX E X.drew:=⟨h.res,h.rex,h.bel.drew⟩
structure AllF (w:World) (gR gX:Nat) (M:Md × Int) (A:Option Addr) (n c:Nat) (X:World):Prop where
 res:Blk X gR 26 (mdC M.1 A n c)
 rex:errB X gX M.2
 row : ∃ N rs,OwV N X M.1.view A n c rs
 bel:Below w.heap.size w X
theorem AllF.turn {w X:World} {gR gX n c D:Nat} {M:Md × Int} {A:Option Addr} {o o':Obj} (h:AllF w gR gX M A n c X) (hK:X.heap[D]? = some o) (ho:o.isCells=false) (hD:w.heap.size<=D):AllF w gR gX M A n c (X.putObj D o'):=by
 have hr : ∀ r,some D=some r->∃ o:Obj,X.heap[r]? = some o/\o.isCells=false:=fun r e=>by cases e;exact ⟨o,hK,ho⟩
 have hg:=grownBy_putObj' X D o'
 obtain ⟨N,rs,h3⟩:=h.row
 exact ⟨h.res.grown hg (qa9 h.res hr),Blk.grown h.rex hg (qa9 h.rex hr),⟨N,rs,h3.kept hg hr⟩,h.bel.grown hg h.bel.size (fun k e=>by cases e;exact hD)⟩
theorem qfj {m:Md} (hp:vu m=true) {W:World} {B n c:Nat} {A:Option Addr} {rs:List RowM} (h:RdV W B m.view A n c rs) : ∀ x∈rs,x.l.length<=132/\∀ g∈x.l,g.text.size<=16:=fun x hx=>by
 unfold vu at hp
 exact qd0 (of_decide_eq_true hp).1 x.l (by rw [h.2.1];exact kB hx)
structure AllS (w:World) (m:Md) (A:Option Addr) (n c:Nat) (X:World):Prop where
 box:Blk X w.heap.size 26 (mdC m A n c)
 res:ZM X (w.heap.size+1)
 rex:errB X (w.heap.size+1+1) 0
 bel:Below w.heap.size w X
theorem AllS.new (w:World) (m:Md) (A:Option Addr) (n c:Nat):AllS w m A n c (((w.alloc (.cells (mdC m A n c) 26)).alloc (.cells (mdC md0 none 0 0) 26)).alloc (.cells #[.int .i64 0] 31)) :=
 ⟨((Blk.new_ rfl).alloc _).alloc _,(Blk.new_ (by simp)).alloc _,Blk.new_ (by simp),(((Below.refl _ _).alloc (Nat.le_refl _) _).alloc (by simp) _).alloc (by simp;omega) _⟩
theorem AllS.on {w X X':World} {m:Md} {A:Option Addr} {n c:Nat} (h:AllS w m A n c X) (hb:Below X.heap.size X X'):AllS w m A n c X' :=
 ⟨h.box.below hb h.box.lt,Blk.below h.res hb h.res.lt,Blk.below h.rex hb h.rex.lt,h.bel.trans (hb.mono h.bel.size)⟩
theorem errB.facts {X:World} {g:Nat} {e:Int} (h:errB X g e):X.cell? ⟨g,0,none⟩=some (.int .i64 e)/\X.frozen? ⟨g,0,none⟩=false:=⟨Blk.cell h 0,Blk.frozen h 0⟩
end Go.Proofs.YticbpkghcglgkaaGreatDoor
namespace Go.Proofs.YticbpkghcglgkaaGreatDoor
open Go.Proofs.Tryz Go.RowKit
set_option maxRecDepth 20000
theorem rsay (n:Int) (h1 : -999999999<=n) (h2:n<=999999999) (a:ByteArray) (xs:List ByteArray) (A:Option Addr) (m c base:Nat) (w:World) (ht : ∀ Y,Below base w Y->Tb Y) (ho:w.ownsRow base 9 1 (.slice A m c) m (sv xs)) (hm:m=xs.length) (hx:m<=60000000000) (hb:base<=w.heap.size) :
  Calls prog 35 #[.slice A m c,.string a,.int .i64 n] w fun e w'=>(∃ A' c',e = .returned (.slice A' (xs++a::qY n).length c')/\w'.ownsRow base 9 1 (.slice A' (xs++a::qY n).length c') (xs++a::qY n).length (sv (xs++a::qY n)))/\Below base w w':=by
 subst hm
 have HT:=Lh ht
 have HW:Hid (∀ w,Tb w->Calls prog 63 #[.int .i64 n] w (ql 9 1 yP w (qY n).length (sv (qY n)))):=Lh fun w ht=>by
  have:=qbl n h1 h2 w ht
  rw [qgr] at this
  unfold qY
  rw [List.length_map]
  exact this
 have hl:=vO n
 generalize qY n=ys at *
 have hlen:(xs++a::ys).length=xs.length+1+ys.length:=by simp;omega
 have hsv:sv (xs++a::ys)=sv xs++sv [a]++sv ys:=by simp [sv]
 rw [hlen,hsv]
 have ha:=(Below.refl base w).alloc hb (.cells (sv [a]).toArray 9)
 clear ht h1 h2 hlen hsv
 go_enter func35,ntmps35
 go_wp2_with (first
  | (go_at_call 63;refine (HW.out _ (HT.out _ (ha.trans hbel1))).mono ?_;rintro e w3 ⟨A3,c3,rfl,o3,b3⟩;have z3:=b3.size)
  | ((fail_if_success have:=hown1);(at_builtin;refine qg rfl _ _ _ rfl qp (base) _ rfl (qb ho ((Below.refl _ _).alloc (Nat.le_refl _) _)) _ _ rfl ((qe (xs:=sv [a]) rfl rfl)) (by first | rfl | exact qA _ | exact qF _) (by omega) (by omega) (by first | (simp;done) | (simp;omega) | omega) ?_;intro A1 c1 w1 hown1 hbel1 hgr1 hat1;have z1:=hbel1.size;(try simp only [World.size_alloc] at z1);(try simp only [Nat.zero_add,List.nil_append] at hown1)))
  | (at_builtin;refine qg rfl _ _ _ rfl qp (base) _ rfl (qb hown1 b3) _ _ rfl ((Rd.of_own o3)) (by first | rfl | exact qA _ | exact qF _) (by omega) (by omega) (by first | (simp;done) | (simp;omega) | omega) ?_;intro A2 c2 w2 hown2 hbel2 hgr2 hat2;have z2:=hbel2.size;(try simp only [World.size_alloc] at z2);(try simp only [Nat.zero_add,List.nil_append] at hown2)))
 go_ret
 exact ⟨⟨A2,c2,rfl,hown2⟩,(ha.trans hbel1).trans ((b3.mono (by omega)).trans hbel2)⟩
def PhR (w:World) (c:Chg) (Ag:Option Addr) (cap:Nat) (r:Int) (d sp:Bool) (p:Int) (con:Bool) (k:Int) (j:Nat) (xs:List ByteArray) (v:Value) (X:World):Prop :=
 Blk X w.heap.size 64 (yG c Ag cap)/\Blk X (w.heap.size+1) 39 #[.int .i64 r,.bool d,.bool sp,.int .i64 p,.bool con,.int .i64 k]/\(∃ n,n=xs.length/\X.ownsRow (w.heap.size+2) 9 1 v n (sv xs))/\Below w.heap.size w X/\xs.length<=j
section
variable {w X : World} {c : Chg} {Ag : Option Addr} {cap : Nat} {r : Int} {d sp : Bool} {p : Int} {con : Bool} {k : Int} {xs : List ByteArray} {j : Nat} {v : Value}
theorem PhR.say (ht:Tb w) (h:PhR w c Ag cap r d sp p con k j xs v X) (a:ByteArray) (n:Int) (h1 : -999999999<=n) (h2:n<=999999999) (hj:j<=60000000000) :
  Calls prog 35 #[v,.string a,.int .i64 n] X fun e w'=>∃ v',e = .returned v'/\PhR w c Ag cap r d sp p con k (j+16) (xs++a::qY n) v' w':=by
 obtain ⟨b1,b2,⟨m,hm,b3⟩,b4,b5⟩:=h
 obtain ⟨A,co,rfl⟩:=vt b3
 have z2:=b2.lt
 refine (rsay n h1 h2 a xs A m co (w.heap.size+2) X (fun Y hY=>ht.below (b4.trans (hY.mono (by omega)))) b3 hm (by omega) (by omega)).mono ?_
 rintro e w' ⟨⟨A',c',rfl,o'⟩,bl⟩
 have:=vO n
 exact ⟨_,rfl,b1.below bl (by omega),b2.below bl (by omega),⟨_,rfl,o'⟩,b4.trans (bl.mono (by omega)),by rw [List.length_append,List.length_cons];omega⟩
theorem PhR.put (h:PhR w c Ag cap r d sp p con k j xs v X) {Y:World} {ys:List ByteArray} {v':Value} {n m:Nat} (hb:Below (w.heap.size+2) X Y) (hn:n=xs.length) (hm:ys.length=m) (ho:Y.ownsRow (w.heap.size+2) 9 1 v' (n+m) (sv xs++sv ys)):PhR w c Ag cap r d sp p con k (j+m) (xs++ys) v' Y:=by
 obtain ⟨b1,b2,_,b4,b5⟩:=h
 refine ⟨b1.below hb (by omega),b2.below hb (by omega),⟨n+m,by rw [List.length_append];omega,by rw [qcD];exact ho⟩,b4.trans (hb.mono (by omega)),by rw [List.length_append];omega⟩
theorem PhR.start (w:World) (c:Chg) (Ag:Option Addr) (cap:Nat) (r:Int) (d sp:Bool) (p:Int) (con:Bool) (k:Int):PhR w c Ag cap r d sp p con k 0 [] (.slice (some ⟨w.heap.size+2,0,none⟩) 0 0) (((w.alloc (.cells (yG c Ag cap) 64)).alloc (.cells #[.int .i64 r,.bool d,.bool sp,.int .i64 p,.bool con,.int .i64 k] 39)).alloc (.cells #[] 9)) :=
 ⟨((Blk.new w _ _).alloc _).alloc _,(Blk.new_ (by simp)).alloc _,⟨0,rfl,qx (xs:=[]) (n:=0) (by simp) rfl (Nat.le_refl _) (by omega)⟩,(((Below.refl _ _).alloc (Nat.le_refl _) _).alloc (by simp) _).alloc (by simp;omega) _,Nat.le_refl _⟩
theorem PhR.done {R:List ByteArray} (h:PhR w c Ag cap r d sp p con k j xs v X) (hR:R=xs++[]):ql 9 1 id w R.length (sv R) (.returned v) X:=by
 rw [List.append_nil] at hR
 subst hR
 obtain ⟨b1,b2,⟨m,rfl,b3⟩,b4,b5⟩:=h
 obtain ⟨A,co,rfl⟩:=vt b3
 exact ⟨A,co,rfl,qt b3 (by omega),b4⟩
end
theorem kX {R xs ys T:List ByteArray} {zs:List ByteArray} (h:Hid (R=xs++(zs++T))) (hy:ys=xs++zs):Hid (R=ys++T):=Lh (by rw [h.out,hy,List.append_assoc])
end Go.Proofs.YticbpkghcglgkaaGreatDoor
namespace Go.Proofs.YticbpkghcglgkaaGreatDoor
open Go.Proofs.Tryz Go.RowKit
set_option maxRecDepth 20000
theorem wf_u16 {a:Int} (h:(Lit.int .u16 a).wf=true):0<=a/\a<=65535:=by
 simp [Lit.wf] at h
 have h1:IntKind.u16.min=0:=rfl
 have h2:IntKind.u16.max=65535:=rfl
 omega
end Go.Proofs.YticbpkghcglgkaaGreatDoor
