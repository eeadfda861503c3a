/- Joined: Lw6. -/
import Derived.Test.YtbogmeeijdaijaaGreatDoorZAU
import Derived.Test.YtbogmeeijdaijaaGreatDoorZAW
set_option linter.unusedVariables false
set_option linter.unusedSimpArgs false
set_option linter.unnecessarySimpa false
set_option maxHeartbeats 4000000
namespace Go.Proofs.YtbogmeeijdaijaaGreatDoor
open Go.Proofs.Tryz Go.RowKit
set_option maxRecDepth 20000
def exB42:ByteArray:=⟨#[108,105,110,101,32,116,119,111,32,99,111,108,117,109,110,32,111,110,101,32,105,110,115,101,114,116,32,104,105,32,115,116,111,112,32,100,111,110,101]⟩
def exL42:List ByteArray:=[⟨#[108,105,110,101]⟩,⟨#[116,119,111]⟩,⟨#[99,111,108,117,109,110]⟩,⟨#[111,110,101]⟩,⟨#[105,110,115,101,114,116]⟩,⟨#[104,105]⟩,⟨#[115,116,111,112]⟩,⟨#[100,111,110,101]⟩]
def exC42:Chg:=⟨3,1,0,0,0,[⟨⟨#[104]⟩,false,0⟩,⟨⟨#[105]⟩,false,0⟩]⟩
def exV42:Vw:=⟨10,2,[[],[⟨⟨#[104]⟩,false,0⟩,⟨⟨#[105]⟩,false,0⟩]],0,0,true⟩
theorem qcT:Lib.fields exB42.data.toList=exL42.map fun s=>s.data.toList:=by decide +kernel
theorem qjB:exB42.size<4294967281:=by decide +kernel
theorem qhD : ∀ (j:Nat) b,exB42.data.toList[j]? = some b->b.toNat<128:=qdF _ L4
theorem ex42_sv:((Lib.fields exB42.data.toList).map fun l=>Value.string ⟨l.toArray⟩)=sv exL42:=by
 rw [qcT,List.map_map]
 rfl
theorem qiY:jm exL42=some ([exC42],1):=by kernel_rfl
theorem ex42_new:newM 10 2=(⟨zD 10 2,0⟩,0):=by unfold newM;rw [if_pos L2]
theorem qhP:yx (zD 10 2) [exC42]=(exV42,0):=by kernel_rfl
theorem qgo:vu ⟨zD 10 2,0⟩=true:=by kernel_rfl
theorem qjH:yT ⟨zD 10 2,0⟩ exL42=(⟨exV42,1⟩,0):=by
 unfold yT;rw [qgo,qiY];dsimp only;rw [qhP]
 rfl
theorem qkr:qaJ [⟨⟨#[104]⟩,false,0⟩,⟨⟨#[105]⟩,false,0⟩]=⟨#[104,105]⟩:=by decide +kernel
theorem zd {X:World} {g:Nat} {m:Md} {A:Option Addr} {n c:Nat} (h:Blk X g 26 (mdC m A n c)):X.cell? ⟨g,0,none⟩=some (.int .i64 m.view.width)/\X.cell? ⟨g,1,none⟩=some (.int .i64 m.view.height)/\X.cell? ⟨g,2,none⟩=some (.slice A n c)/\X.cell? ⟨g,3,none⟩=some (.int .i64 m.view.row)/\X.cell? ⟨g,4,none⟩=some (.int .i64 m.view.col)/\X.cell? ⟨g,5,none⟩=some (.bool m.view.vis)/\X.cell? ⟨g,6,none⟩=some (.int .i64 m.upd) /\
  X.frozen? ⟨g,0,none⟩=false/\X.frozen? ⟨g,1,none⟩=false/\X.frozen? ⟨g,2,none⟩=false/\X.frozen? ⟨g,3,none⟩=false/\X.frozen? ⟨g,4,none⟩=false/\X.frozen? ⟨g,5,none⟩=false/\X.frozen? ⟨g,6,none⟩=false :=
 ⟨h.cell 0,h.cell 1,h.cell 2,h.cell 3,h.cell 4,h.cell 5,h.cell 6,h.frozen 0,h.frozen 1,h.frozen 2,h.frozen 3,h.frozen 4,h.frozen 5,h.frozen 6⟩
theorem set7_ {X:World} {g:Nat} {t:TypeId} {a0 a1 a2 a3 a4 a5 a6:Value} (h:Blk X g t #[a0,a1,a2,a3,a4,a5,a6]) (b0 b1 b2 b3 b4 b5 b6:Value):Blk (((((((X.setCell ⟨g,0,none⟩ b0).setCell ⟨g,1,none⟩ b1).setCell ⟨g,2,none⟩ b2).setCell ⟨g,3,none⟩ b3).setCell ⟨g,4,none⟩ b4).setCell ⟨g,5,none⟩ b5).setCell ⟨g,6,none⟩ b6) g t #[b0,b1,b2,b3,b4,b5,b6]:=by
 have h0:Blk _ g t #[b0,a1,a2,a3,a4,a5,a6]:=h.set_ 0 b0;have h1:Blk _ g t #[b0,b1,a2,a3,a4,a5,a6]:=h0.set_ 1 b1;have h2:Blk _ g t #[b0,b1,b2,a3,a4,a5,a6]:=h1.set_ 2 b2;have h3:Blk _ g t #[b0,b1,b2,b3,a4,a5,a6]:=h2.set_ 3 b3;have h4:Blk _ g t #[b0,b1,b2,b3,b4,a5,a6]:=h3.set_ 4 b4;have h5:Blk _ g t #[b0,b1,b2,b3,b4,b5,a6]:=h4.set_ 5 b5;exact h5.set_ 6 b6
theorem md_set {X:World} {g:Nat} {m0:Md} {A0:Option Addr} {n0 c0:Nat} (h:Blk X g 26 (mdC m0 A0 n0 c0)) (m:Md) (A:Option Addr) (n c:Nat):Blk (setM X g m A n c) g 26 (mdC m A n c):=set7_ h _ _ _ _ _ _ _
theorem qiB {N g n c n' c':Nat} {X:World} {v:Vw} {A A':Option Addr} {rs:List RowM} {m:Md} (h:OwV N X v A n c rs) (hg:g<N):OwV N (setM X g m A' n' c') v A n c rs :=
 ((((((h.far (p:=⟨g,0,none⟩) hg _).far (p:=⟨g,1,none⟩) hg _).far (p:=⟨g,2,none⟩) hg _).far (p:=⟨g,3,none⟩) hg _).far (p:=⟨g,4,none⟩) hg _).far (p:=⟨g,5,none⟩) hg _).far (p:=⟨g,6,none⟩) hg _
theorem two_rows {rs:List RowM} (h:exV42.rows=rls rs) : ∃ r0 r1,rs=[r0,r1]/\r0.l=[]/\r1.l=[⟨⟨#[104]⟩,false,0⟩,⟨⟨#[105]⟩,false,0⟩]:=by
 have hl:rs.length=2:=by
  have:=congrArg List.length h;rw [vJ] at this;exact this.symm
 match rs,hl,h with
 | [r0,r1],_,h =>
  have h:([[],[⟨⟨#[104]⟩,false,0⟩,⟨⟨#[105]⟩,false,0⟩]]:List (List Gl))=[r0.l,r1.l]:=h
  injection h with h1 h2
  injection h2 with h2
  exact ⟨r0,r1,rfl,h1.symm,h2.symm⟩
theorem ex42_sz : ∀ s∈exL42,s.size<=1000:=by decide +kernel
theorem qic (W:World):WdR (W.alloc (.cells (sv exL42).toArray 9)) (W.alloc (.cells (sv exL42).toArray 9)).heap.size exL42 (some ⟨W.heap.size,0,none⟩) 8 8:=by
 have h:Rd (W.alloc (.cells (sv exL42).toArray 9)) (W.heap.size+1) 1 (some ⟨W.heap.size,0,none⟩) 8 (sv exL42):=qe (w:=W) (xs:=sv exL42) (e:=9) rfl rfl;have h2:W.heap.size+1<=(W.alloc (.cells (sv exL42).toArray 9)).heap.size:=by rw [Li];exact Ld _
 have h3:=Rd.more h h2;have h4:(8:Nat)<=maxLen:=by unfold maxLen;omega
 generalize W.alloc (.cells (sv exL42).toArray 9)=Y at *
 exact ⟨rfl,Ld _,h4,h3,ex42_sz⟩
theorem ex42_wdr (W:World):WdR (W.alloc (.cells (sv exL42).toArray 9)).drew (W.alloc (.cells (sv exL42).toArray 9)).drew.heap.size exL42 (some ⟨W.heap.size,0,none⟩) 8 8:=(qic W).below (Le _ _).drew
theorem awake42_ (w:World) (hg:Gd w):Calls prog 7 #[] w (qh (.bool true) w):=by
 have HF:Hid (∀ X,Below w.heap.size w X->Calls prog 16 #[.string exB42] X fun e w'=>e = .returned (.slice (some ⟨X.heap.size,0,none⟩) 8 8)/\w'=X.alloc (.cells (sv exL42).toArray 9)):=Lh fun X hX=>by
  have h:=Tryz.strings_Fields exB42 X qjB qhD (hg.below hX).1;rw [ex42_sv,qcT,Lq] at h;exact h
 have HN:Hid (∀ X,Below w.heap.size w X->Calls prog 15 #[.int .i64 10,.int .i64 2] X fun e w'=>∃ A c rs,e = .returned (.tuple #[.agg #[.int .i64 10,.int .i64 2,.slice A 2 c,.int .i64 0,.int .i64 0,.bool true,.int .i64 0],.int .i64 0])/\RdV w' w'.heap.size (zD 10 2) A 2 c rs/\Below w.heap.size w w'/\Below X.heap.size X w'):=Lh fun X hX=>(lnew_ 10 2 X).mono fun e w' h=>by
  rw [ex42_new] at h;obtain ⟨h1,A,n,c,rs,h2,h3⟩:=h;obtain rfl:2=n:=h3.rdV.len;exact ⟨A,c,rs,h2,h3.rdV,hX.trans (h1.mono hX.size),h1⟩
 have HH:Hid (∀ X A c rs Y,Below w.heap.size w X->RdV X X.heap.size (zD 10 2) A 2 c rs->Below X.heap.size X Y->∀ B2,WdR Y Y.heap.size exL42 (some B2) 8 8->Calls prog 8 #[.agg #[.int .i64 10,.int .i64 2,.slice A 2 c,.int .i64 0,.int .i64 0,.bool true,.int .i64 0],.slice (some B2) 8 8] Y fun e w'=>∃ A c rs,e = .returned (.tuple #[.agg #[.int .i64 10,.int .i64 2,.slice A 2 c,.int .i64 0,.int .i64 0,.bool true,.int .i64 1],.int .i64 0])/\OwV Y.heap.size w' exV42 A 2 c rs/\Below Y.heap.size Y w'):=Lh fun X A c rs Y hX hr hY B2 hW=>by
  have hb:=hX.trans (hY.mono hX.size);have hg':=hg.below hb;have hrl:rls rs=[[],[]]:=hr.2.1.symm;have hx : ∀ x∈rs,x.l=[]:=fun x hx=>by
   have:x.l∈rls rs:=List.mem_map_of_mem hx;rw [hrl] at this
   simpa using this
  refine (hear_ ⟨zD 10 2,0⟩ A 2 c X.heap.size rs exL42 (some B2) 8 8 Y (hr.below hY) hY.size (fun x h=>by rw [hx x h];decide) (fun x h=>by rw [hx x h];intro g hg;cases hg) hW L2 (qhS L2) hg'.1 hg'.2.1 hg'.2.2).mono fun e w' h=>?_
  rw [qjH] at h;obtain ⟨h1,A,n,c,rs,h2,h3⟩:=h;obtain rfl:2=n:=h3.rdV.len;exact ⟨A,c,rs,h2,h3,h1⟩
 have hb0:Below w.heap.size w w:=Le _ _;clear hg
 go_enter func7,ntmps7
 go_upto_region 2 with (go_at_call 15;refine (HN.out _ hb0).mono ?_;rintro e w1 ⟨A1,d1,rs1,rfl,hr1,hb1,hx1⟩)
 refine qa (fun X=>Blk X w1.heap.size 26 (mdC ⟨zD 10 2,0⟩ A1 2 d1)/\Below w1.heap.size w1 X) ⟨Blk.new_ rfl,L5⟩ ?_;rintro X ⟨hB,hx⟩;have hbX:=hb1.trans (hx.mono hb1.size);have hGl:=hB.lt;obtain ⟨e0,e1,e2,e3,e4,e5,e6,-,-,-,-,-,-,-⟩:=zd hB;have hz1:=hx.size;have hbl:(zD 10 2).width=10/\(zD 10 2).height=2/\(zD 10 2).row=0/\(zD 10 2).col=0/\(zD 10 2).vis=true:=⟨rfl,rfl,rfl,rfl,rfl⟩
 obtain ⟨l0,l1,l2,l3,l4⟩:=hbl;dsimp only at e0 e1 e3 e4 e5 e6;rw [l0] at e0;rw [l1] at e1;rw [l2] at e3;rw [l3] at e4;rw [l4] at e5;clear l0 l1 l2 l3 l4;have HFX:Hid (∀ W,Below X.heap.size X W->Calls prog 16 #[.string exB42] W fun e w'=>e = .returned (.slice (some ⟨W.heap.size,0,none⟩) 8 8)/\w'=W.alloc (.cells (sv exL42).toArray 9)):=Lh fun W h=>HF.out W (hbX.trans (h.mono hbX.size))
 have HHX:Hid (∀ Y B2,Below X.heap.size X Y->WdR Y Y.heap.size exL42 (some B2) 8 8->Calls prog 8 #[.agg #[.int .i64 10,.int .i64 2,.slice A1 2 d1,.int .i64 0,.int .i64 0,.bool true,.int .i64 0],.slice (some B2) 8 8] Y fun e w'=>∃ A c rs,e = .returned (.tuple #[.agg #[.int .i64 10,.int .i64 2,.slice A 2 c,.int .i64 0,.int .i64 0,.bool true,.int .i64 1],.int .i64 0])/\OwV X.heap.size w' exV42 A 2 c rs/\Below X.heap.size X w'):=Lh fun Y B2 h hW =>
  (HH.out w1 A1 d1 rs1 Y hb1 hr1 (hx.trans (h.mono hz1)) B2 hW).mono fun e w' ⟨A,c,rs,q1,q2,q3⟩=>⟨A,c,rs,q1,q2.less h.size,h.trans (q3.mono h.size)⟩
 clear HN HF HH hb0 hr1
 go_region_law (first
  | (go_simp;go_at_call 16;refine (HFX.out _ ql8).mono ?_;rintro e w2 ⟨rfl,rfl⟩)
  | (go_simp;go_at_call 8;refine (HHX.out _ _ ql8 (by first | exact qic _ | exact ex42_wdr _)).mono ?_;rintro e w3 ⟨A3,d3,rs3,rfl,hr3,hx3⟩;have hB3:=hB.below hx3 hGl;have hB4:=md_set hB3 ⟨exV42,1⟩ A3 2 d3;have ho4:=qiB (m:=⟨exV42,1⟩) (A':=A3) (n':=2) (c':=d3) hr3 hGl;have hb4:=yX (g:=w1.heap.size) (hbX.trans (hx3.mono hbX.size)) hb1.size ⟨exV42,1⟩ A3 2 d3;obtain ⟨z0,z1,z2,z3,z4,z5,z6,y0,y1,y2,y3,y4,y5,y6⟩:=zd hB3))
 all_goals
  go_upto_region 3 with fail
  refine qa (fun Y=>Blk Y w1.heap.size 26 (mdC ⟨exV42,1⟩ A3 2 d3)/\OwV X.heap.size Y exV42 A3 2 d3 rs3/\Below w.heap.size w Y) ⟨hB4,ho4,hb4⟩ ?_;rintro Y ⟨hBY,hoY,hbY⟩;clear hB3 hB4 hr3 ho4 hb4 z0 z1 z2 z3 z4 z5 z6 y0 y1 y2 y3 y4 y5 y6;obtain ⟨-,-,e2',-,-,-,e6',-,-,-,-,-,-,-⟩:=zd hBY;dsimp only at e6';obtain ⟨G1,cap1,hA,hG1,-⟩:=hoY.rows.form L2;obtain ⟨rfl,rfl⟩:A3=some ⟨G1,0,none⟩/\d3=cap1:=by injection hA with h1 _ h2;exact ⟨h1,h2⟩
  obtain ⟨r0,r1,rfl,hq0,hq1⟩:=two_rows hoY.eq;have k0:Y.cell? ⟨G1,0,none⟩=some (.slice r0.A r0.l.length r0.cap):=hoY.rows.cellAt 0 L2;have k1:Y.cell? ⟨G1,1,none⟩=some (.slice r1.A r1.l.length r1.cap):=hoY.rows.cellAt 1 L2;have hT:Hid (Calls prog 17 #[.slice r1.A r1.l.length r1.cap] Y fun e w'=>e = .returned (.string (qaJ r1.l))/\w'=Y):=Lh (rtext15_ _ _ _ _ Y.heap.size Y (qe8 (hoY.gl r1 L1)).1 (by rw [hq1];decide) (by rw [hq1];decide));rw [hq0] at k0;rw [hq1] at k1 hT;rw [qkr] at hT;dsimp only [List.length_nil,Lp] at k0 k1 hT;clear hBY hoY hA hq0 hq1 e0 e1 e2 e3 e4 e5 e6 hB hx3
  go_wp2_with (go_at_call 17;refine hT.out.mono ?_;rintro e w4 ⟨rfl,rfl⟩)
  go_ret;exact ⟨rfl,hbY⟩
end Go.Proofs.YtbogmeeijdaijaaGreatDoor
