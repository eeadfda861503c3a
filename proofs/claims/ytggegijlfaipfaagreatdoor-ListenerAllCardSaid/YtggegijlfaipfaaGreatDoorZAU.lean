/- Joined: LxA. -/
import Derived.Test.YtggegijlfaipfaaGreatDoorZAT
set_option linter.unusedVariables false
set_option linter.unusedSimpArgs false
set_option linter.unnecessarySimpa false
set_option maxHeartbeats 8000000
namespace Go.Proofs.YtggegijlfaipfaaGreatDoor
open Go.Proofs.Tryz Go.RowKit
set_option maxRecDepth 20000
theorem law_ListenerAll (w:World) (hg:Gd w/\Tb w) (m:Md) (A:Option Addr) (n c:Nat) (rs:List RowM) (rd:RdV w w.heap.size m.view A n c rs) (As:Option Addr) (ns cs:Nat) (ls:List SpkM) (hn:ls.length=ns) (hc:ns<=cs) (hm:cs<=maxLen) (rS:RdS w w.heap.size As ns ls) (a:Int) (_:(Lit.int .i64 a).wf=true) (b:Int) (_:(Lit.int .i64 b).wf=true) :
  Calls prog 3 #[.agg (mdC m A n c),.slice As ns cs,.int .i64 a,.int .i64 b] w (qh (.bool true) w):=by
 obtain ⟨hg,ht⟩:=hg;have HA:Hid (∀ X,Below w.heap.size w X->Calls prog 6 #[] X fun e X'=>e = .returned (.bool true)/\Below w.heap.size w X'/\Below X.heap.size X X'):=Lh fun X hX=>bothG (awake42_ X (hg.below hX)) hX
 have HG:Hid (∀ X,Below w.heap.size w X->Calls prog 4 #[.agg (vwC m.view A n c)] X fun e X'=>e = .returned (.bool (qaC m.view))/\Below w.heap.size w X'/\Below X.heap.size X X'):=Lh fun X hX=>bothG (qek m.view A n c w.heap.size rs X (rd.below hX) hX.size) hX
 have HL:Hid (∀ X,Below w.heap.size w X->Calls prog 5 #[.slice As ns cs] X fun e X'=>e = .returned (.bool (qne ls))/\Below w.heap.size w X'/\Below X.heap.size X X'):=Lh fun X hX=>bothS (great42_ ls As ns cs w.heap.size X L0 (rS.below hX)) hX
 cases hgr:qaC m.view with
 | true =>
  rw [hgr] at HG;clear HL hg rd hgr rS ht;obtain ⟨⟨W,H,rows,r,cl,vs⟩,U⟩:=m;dsimp only at HG
  go_enter func3,ntmps3
  go_upto_region 1 with fail
  refine qa (fun X=>Blk X w.heap.size 26 (mdC ⟨⟨W,H,rows,r,cl,vs⟩,U⟩ A n c)/\Below w.heap.size w X) ⟨Blk.new_ rfl,L5⟩ ?_;rintro X ⟨hM,hb⟩;obtain ⟨c0,c1,c2,c3,c4,c5,c6,-,-,-,-,-,-,-⟩:=zd hM;have hlM:=hM.lt;dsimp only at c0 c1 c3 c4 c5 c6
  go_wp2_with (first | (go_at_call 4;refine (HG.out _ hb).mono ?_;rintro e w1 ⟨rfl,hb1,hx1⟩;have hM1:=hM.below hx1 hlM;have hl1:=hM1.lt;obtain ⟨d_0,d_1,d_2,d_3,d_4,d_5,d_6,-,-,-,-,-,-,-⟩:=zd hM1;dsimp only at d_0 d_1 d_3 d_4 d_5 d_6) | (go_at_call 6;refine (HA.out _ L3).mono ?_;rintro e wa ⟨rfl,hba,hxa⟩))
  go_ret;exact ⟨rfl,hba⟩
 | false =>
  rw [hgr] at HG;have hsm : ∀ x∈rs,x.l.length<=140/\∀ g∈x.l,g.text.size<=40:=fun x hx=>qcF hgr x.l (by rw [rd.2.1];exact kB hx)
  cases hgs:qne ls with
  | true =>
   rw [hgs] at HL;clear hg rd hgr rS hgs hsm ht;obtain ⟨⟨W,H,rows,r,cl,vs⟩,U⟩:=m;dsimp only at HG
   go_enter func3,ntmps3
   go_upto_region 1 with fail
   refine qa (fun X=>Blk X w.heap.size 26 (mdC ⟨⟨W,H,rows,r,cl,vs⟩,U⟩ A n c)/\Below w.heap.size w X) ⟨Blk.new_ rfl,L5⟩ ?_;rintro X ⟨hM,hb⟩;obtain ⟨c0,c1,c2,c3,c4,c5,c6,-,-,-,-,-,-,-⟩:=zd hM;have hlM:=hM.lt;dsimp only at c0 c1 c3 c4 c5 c6
   go_wp2_with (first | (go_at_call 4;refine (HG.out _ hb).mono ?_;rintro e w1 ⟨rfl,hb1,hx1⟩;have hM1:=hM.below hx1 hlM;have hl1:=hM1.lt;obtain ⟨d_0,d_1,d_2,d_3,d_4,d_5,d_6,-,-,-,-,-,-,-⟩:=zd hM1;dsimp only at d_0 d_1 d_3 d_4 d_5 d_6) | (go_at_call 5;refine (HL.out _ hb1).mono ?_;rintro e w2 ⟨rfl,hb2,hx2⟩;have hM2:=hM1.below hx2 hl1;have hl2:=hM2.lt;obtain ⟨f_0,f_1,f_2,f_3,f_4,f_5,f_6,-,-,-,-,-,-,-⟩:=zd hM2;dsimp only at f_0 f_1 f_3 f_4 f_5 f_6) | (go_at_call 6;refine (HA.out _ L3).mono ?_;rintro e wa ⟨rfl,hba,hxa⟩))
   go_ret;exact ⟨rfl,hba⟩
  | false =>
   rw [hgs] at HL;obtain ⟨hl8,hW⟩:=qnj hgs;obtain ⟨R,hR⟩ : ∃ R,R=allV m (qna ls):=⟨_,rfl⟩
   obtain ⟨Q,hQ⟩ : ∃ Q,Q=newM a b:=⟨_,rfl⟩
   have HU1:Hid (∀ X,Below w.heap.size w X->Calls prog 7 #[.agg (mdC m A n c),.slice As ns cs] X fun e X'=>(∃ A4 n4 d4,e = .returned (.tuple #[.agg (mdC R.1 A4 n4 d4),.int .i64 R.2])/\∃ rs4,RdV X' X'.heap.size R.1.view A4 n4 d4 rs4)/\Below w.heap.size w X'/\Below X.heap.size X X'):=Lh fun X hX=>by
    have:=lall_ m A n c rs ls As ns cs X ((rd.below hX).more hX.size) hsm ((rS.below hX).more hX.size) L0 hW (hg.below hX);rw [<- hR] at this;exact this.mono fun e X' ⟨h1,A4,n4,d4,rs4,h2,h3⟩=>⟨⟨A4,n4,d4,h2,rs4,h3⟩,hX.trans (h1.mono hX.size),h1⟩
   have HU2:Hid (∀ X,Below w.heap.size w X->Calls prog 8 #[.agg (mdC m A n c),.slice As ns cs] X fun e X'=>(∃ A4 n4 d4,e = .returned (.tuple #[.agg (mdC R.1 A4 n4 d4),.int .i64 R.2])/\∃ rs4,RdV X' X'.heap.size R.1.view A4 n4 d4 rs4)/\Below w.heap.size w X'/\Below X.heap.size X X'):=Lh fun X hX=>by
    have:=rall42_ m A n c X.heap.size rs ls As ns cs X ((rd.below hX).more hX.size) (Ld _) hsm ((rS.below hX).more hX.size) L0 hc hW (ht.below hX);rw [<- hR] at this;exact this.mono fun e X' ⟨h1,A4,n4,d4,rs4,h2,h3,_⟩=>⟨⟨A4,n4,d4,h2,rs4,h3.rdV h1.size⟩,hX.trans (h1.mono hX.size),h1⟩
   have HU3:Hid (∀ X,Below w.heap.size w X->Calls prog 9 #[.int .i64 a,.int .i64 b] X fun e X'=>(∃ A4 n4 d4,e = .returned (.tuple #[.agg (mdC Q.1 A4 n4 d4),.int .i64 Q.2])/\∃ rs4,RdV X' X'.heap.size Q.1.view A4 n4 d4 rs4)/\Below w.heap.size w X'/\Below X.heap.size X X'):=Lh fun X hX=>by
    have:=lnew_ a b X;rw [<- hQ] at this;exact this.mono fun e X' ⟨h1,A4,n4,d4,rs4,h2,h3⟩=>⟨⟨A4,n4,d4,h2,rs4,h3.rdV⟩,hX.trans (h1.mono hX.size),h1⟩
   have HU4:Hid (∀ X,Below w.heap.size w X->Calls prog 10 #[.int .i64 a,.int .i64 b] X fun e X'=>(∃ A4 n4 d4,e = .returned (.tuple #[.agg (mdC Q.1 A4 n4 d4),.int .i64 Q.2])/\∃ rs4,RdV X' X'.heap.size Q.1.view A4 n4 d4 rs4)/\Below w.heap.size w X'/\Below X.heap.size X X'):=Lh fun X hX=>by
    have:=rnew42_ a b X;rw [<- hQ] at this;exact this.mono fun e X' ⟨h1,A4,n4,d4,rs4,h2,h3⟩=>⟨⟨A4,n4,d4,h2,rs4,h3.rdV⟩,hX.trans (h1.mono hX.size),h1⟩
   have hRp:vu R.1=true∨R.1=md0:=by
    rw [hR];unfold allV
    cases hp:vu m with
    | false=>rw [if_pos rfl];exact .inr rfl
    | true =>
     rw [if_neg L2]
     by_cases h:(goH m (qna ls)).2=0
     ·exact .inl ((qnb hp _).1 h)
     ·exact .inr ((qnb hp _).2 h)
   have hQr : ∀ l∈Q.1.view.rows,l=[]:=by
    rw [hQ];unfold newM
    split
    ·intro l hl;exact List.eq_of_mem_replicate hl
    ·intro l hl;cases hl
   have HS1:Hid (∀ X A1 n1 c1 A2 n2 c2,Below w.heap.size w X->(∃ rs1,RdV X X.heap.size R.1.view A1 n1 c1 rs1)->(∃ rs2,RdV X X.heap.size R.1.view A2 n2 c2 rs2)->Calls prog 11 #[.agg (mdC R.1 A1 n1 c1),.agg (mdC R.1 A2 n2 c2)] X fun e X'=>e = .returned (.bool true)/\Below w.heap.size w X'/\Below X.heap.size X X'):=Lh fun X A1 n1 c1 A2 n2 c2 hX ⟨rs1,h1⟩ ⟨rs2,h2⟩=>by
    obtain rfl:n1=n2:=h1.len.symm.trans h2.len;refine bothG (qnl R.1 A1 A2 n1 c1 c2 X.heap.size rs1 rs2 X h1 h2 (Ld _) fun x hx=>?_) hX
    rcases hRp with hp | hp
    ·have:=(qfj hp h1 x hx).1;omega
    ·have h3:=kB hx;rw [<- h1.2.1,hp] at h3
     cases h3
   have HS2:Hid (∀ X A1 n1 c1 A2 n2 c2,Below w.heap.size w X->(∃ rs1,RdV X X.heap.size Q.1.view A1 n1 c1 rs1)->(∃ rs2,RdV X X.heap.size Q.1.view A2 n2 c2 rs2)->Calls prog 11 #[.agg (mdC Q.1 A1 n1 c1),.agg (mdC Q.1 A2 n2 c2)] X fun e X'=>e = .returned (.bool true)/\Below w.heap.size w X'/\Below X.heap.size X X'):=Lh fun X A1 n1 c1 A2 n2 c2 hX ⟨rs1,h1⟩ ⟨rs2,h2⟩=>by
    obtain rfl:n1=n2:=h1.len.symm.trans h2.len;refine bothG (qnl Q.1 A1 A2 n1 c1 c2 X.heap.size rs1 rs2 X h1 h2 (Ld _) fun x hx=>?_) hX;rw [hQr x.l (by rw [h1.2.1];exact kB hx)];exact Nat.zero_le _
   clear hRp hR hQ hQr hg rd hgr ht rS hgs hsm hW hl8;obtain ⟨⟨W,H,rows,r,cl,vs⟩,U⟩:=m;obtain ⟨⟨⟨zW,zH,qnH,zr,zy,zv⟩,zU⟩,zE⟩:=R;obtain ⟨⟨⟨yW,yH,qnJ,yr,yy,yv⟩,yU⟩,yE⟩:=Q;dsimp only at HG;have HR1:Hid (∀ X,Below w.heap.size w X->Calls prog 7 #[.agg #[.int .i64 W,.int .i64 H,.slice A n c,.int .i64 r,.int .i64 cl,.bool vs,.int .i64 U],.slice As ns cs] X fun e X'=>(∃ A4 n4 d4,e = .returned (.tuple #[.agg #[.int .i64 zW,.int .i64 zH,.slice A4 n4 d4,.int .i64 zr,.int .i64 zy,.bool zv,.int .i64 zU],.int .i64 zE])/\(∃ rs4,RdV X' X'.heap.size ⟨zW,zH,qnH,zr,zy,zv⟩ A4 n4 d4 rs4))/\Below w.heap.size w X'/\Below X.heap.size X X'):=HU1;have HR2:Hid (∀ X,Below w.heap.size w X->Calls prog 8 #[.agg #[.int .i64 W,.int .i64 H,.slice A n c,.int .i64 r,.int .i64 cl,.bool vs,.int .i64 U],.slice As ns cs] X fun e X'=>(∃ A4 n4 d4,e = .returned (.tuple #[.agg #[.int .i64 zW,.int .i64 zH,.slice A4 n4 d4,.int .i64 zr,.int .i64 zy,.bool zv,.int .i64 zU],.int .i64 zE])/\(∃ rs4,RdV X' X'.heap.size ⟨zW,zH,qnH,zr,zy,zv⟩ A4 n4 d4 rs4))/\Below w.heap.size w X'/\Below X.heap.size X X'):=HU2;have HR3:Hid (∀ X,Below w.heap.size w X->Calls prog 9 #[.int .i64 a,.int .i64 b] X fun e X'=>(∃ A4 n4 d4,e = .returned (.tuple #[.agg #[.int .i64 yW,.int .i64 yH,.slice A4 n4 d4,.int .i64 yr,.int .i64 yy,.bool yv,.int .i64 yU],.int .i64 yE])/\(∃ rs4,RdV X' X'.heap.size ⟨yW,yH,qnJ,yr,yy,yv⟩ A4 n4 d4 rs4))/\Below w.heap.size w X'/\Below X.heap.size X X'):=HU3
   have HR4:Hid (∀ X,Below w.heap.size w X->Calls prog 10 #[.int .i64 a,.int .i64 b] X fun e X'=>(∃ A4 n4 d4,e = .returned (.tuple #[.agg #[.int .i64 yW,.int .i64 yH,.slice A4 n4 d4,.int .i64 yr,.int .i64 yy,.bool yv,.int .i64 yU],.int .i64 yE])/\(∃ rs4,RdV X' X'.heap.size ⟨yW,yH,qnJ,yr,yy,yv⟩ A4 n4 d4 rs4))/\Below w.heap.size w X'/\Below X.heap.size X X'):=HU4;have HR5:Hid (∀ X A1 n1 c1 A2 n2 c2,Below w.heap.size w X->(∃ rs4,RdV X X.heap.size ⟨zW,zH,qnH,zr,zy,zv⟩ A1 n1 c1 rs4)->(∃ rs4,RdV X X.heap.size ⟨zW,zH,qnH,zr,zy,zv⟩ A2 n2 c2 rs4)->Calls prog 11 #[.agg #[.int .i64 zW,.int .i64 zH,.slice A1 n1 c1,.int .i64 zr,.int .i64 zy,.bool zv,.int .i64 zU],.agg #[.int .i64 zW,.int .i64 zH,.slice A2 n2 c2,.int .i64 zr,.int .i64 zy,.bool zv,.int .i64 zU]] X fun e X'=>e = .returned (.bool true)/\Below w.heap.size w X'/\Below X.heap.size X X'):=HS1;have HR6:Hid (∀ X A1 n1 c1 A2 n2 c2,Below w.heap.size w X->(∃ rs4,RdV X X.heap.size ⟨yW,yH,qnJ,yr,yy,yv⟩ A1 n1 c1 rs4)->(∃ rs4,RdV X X.heap.size ⟨yW,yH,qnJ,yr,yy,yv⟩ A2 n2 c2 rs4)->Calls prog 11 #[.agg #[.int .i64 yW,.int .i64 yH,.slice A1 n1 c1,.int .i64 yr,.int .i64 yy,.bool yv,.int .i64 yU],.agg #[.int .i64 yW,.int .i64 yH,.slice A2 n2 c2,.int .i64 yr,.int .i64 yy,.bool yv,.int .i64 yU]] X fun e X'=>e = .returned (.bool true)/\Below w.heap.size w X'/\Below X.heap.size X X'):=HS2;clear HU1 HU2 HU3 HU4 HS1 HS2;have hee:(zE==zE)=true:=Lw zE
   have hfe:(yE==yE)=true:=Lw yE
   go_enter func3,ntmps3
   go_upto_region 1 with fail
   refine qa (fun X=>Blk X w.heap.size 26 (mdC ⟨⟨W,H,rows,r,cl,vs⟩,U⟩ A n c)/\Below w.heap.size w X) ⟨Blk.new_ rfl,L5⟩ ?_;rintro X ⟨hM,hb⟩;obtain ⟨c0,c1,c2,c3,c4,c5,c6,-,-,-,-,-,-,-⟩:=zd hM;have hlM:=hM.lt;dsimp only at c0 c1 c3 c4 c5 c6
   go_upto_region 3 with (first | (go_at_call 4;refine (HG.out _ hb).mono ?_;rintro e w1 ⟨rfl,hb1,hx1⟩;have hM1:=hM.below hx1 hlM;have hl1:=hM1.lt;obtain ⟨d_0,d_1,d_2,d_3,d_4,d_5,d_6,-,-,-,-,-,-,-⟩:=zd hM1;dsimp only at d_0 d_1 d_3 d_4 d_5 d_6) | (go_at_call 5;refine (HL.out _ hb1).mono ?_;rintro e w2 ⟨rfl,hb2,hx2⟩;have hM2:=hM1.below hx2 hl1;have hl2:=hM2.lt;obtain ⟨f_0,f_1,f_2,f_3,f_4,f_5,f_6,-,-,-,-,-,-,-⟩:=zd hM2;dsimp only at f_0 f_1 f_3 f_4 f_5 f_6))
   clear c0 c1 c2 c3 c4 c5 c6 d_0 d_1 d_2 d_3 d_4 d_5 d_6 hM hM1 hb hb1 hx1 hx2 HG HL hl1 hlM
   go_upto_region 4 with (go_at_call 7;refine (HR1.out _ hb2).mono ?_;rintro e w5 ⟨⟨A5,n5,d5,rfl,hr5⟩,hb5,hx5⟩)
   have hz5:=hb5.size;refine qa (fun Y=>Blk Y w.heap.size 26 (mdC ⟨⟨W,H,rows,r,cl,vs⟩,U⟩ A n c)/\(Blk Y w5.heap.size 26 (mdC ⟨⟨zW,zH,qnH,zr,zy,zv⟩,zU⟩ A5 n5 d5)/\(∃ rs4,RdV Y Y.heap.size ⟨zW,zH,qnH,zr,zy,zv⟩ A5 n5 d5 rs4))/\Below w.heap.size w Y) ⟨(hM2.below hx5 hM2.lt).alloc _,⟨Blk.new_ rfl,hr5.imp fun _ h=>(h.below L5).more (by rw [Li];omega)⟩,hb5.alloc hz5 _⟩ ?_;clear f_0 f_1 f_2 f_3 f_4 f_5 f_6 hM2 hr5 hb5 hx5 hz5 hb2 HR1 hl2;rintro Y ⟨hM5,⟨hX5,hr5⟩,hbY⟩;obtain ⟨s_0,s_1,s_2,s_3,s_4,s_5,s_6,-,-,-,-,-,-,-⟩:=zd hM5;dsimp only at s_0 s_1 s_3 s_4 s_5 s_6
   go_upto_region 5 with (go_at_call 8;refine (HR2.out _ hbY).mono ?_;rintro e w6 ⟨⟨A6,n6,d6,rfl,hr6⟩,hb6,hx6⟩)
   have hz6:=hb6.size;have hzy:=hx6.size;refine qa (fun Z=>(Blk Z w5.heap.size 26 (mdC ⟨⟨zW,zH,qnH,zr,zy,zv⟩,zU⟩ A5 n5 d5)/\(∃ rs4,RdV Z Z.heap.size ⟨zW,zH,qnH,zr,zy,zv⟩ A5 n5 d5 rs4))/\(Blk Z w6.heap.size 26 (mdC ⟨⟨zW,zH,qnH,zr,zy,zv⟩,zU⟩ A6 n6 d6)/\(∃ rs4,RdV Z Z.heap.size ⟨zW,zH,qnH,zr,zy,zv⟩ A6 n6 d6 rs4))/\Below w.heap.size w Z) ⟨⟨(hX5.below hx6 hX5.lt).alloc _,hr5.imp fun _ h=>((h.below hx6).below (((Le w6.heap.size w6).alloc (Ld _) _).mono hzy)).more (by rw [Li];omega)⟩,⟨Blk.new_ rfl,hr6.imp fun _ h=>(h.below L5).more (by rw [Li];omega)⟩,hb6.alloc hz6 _⟩ ?_;clear s_0 s_1 s_2 s_3 s_4 s_5 s_6 hM5 hX5 hr5 hr6 hb6 hx6 hz6 hzy hbY HR2;rintro Z ⟨⟨hX6,hr5⟩,⟨hY6,hr6⟩,hbZ⟩
   go_upto_region 6 with (go_at_call 9;refine (HR3.out _ hbZ).mono ?_;rintro e w7 ⟨⟨A7,n7,d7,rfl,hr7⟩,hb7,hx7⟩)
   have hz7:=hb7.size;have hzz:=hx7.size;refine qa (fun Z=>(Blk Z w5.heap.size 26 (mdC ⟨⟨zW,zH,qnH,zr,zy,zv⟩,zU⟩ A5 n5 d5)/\(∃ rs4,RdV Z Z.heap.size ⟨zW,zH,qnH,zr,zy,zv⟩ A5 n5 d5 rs4))/\(Blk Z w6.heap.size 26 (mdC ⟨⟨zW,zH,qnH,zr,zy,zv⟩,zU⟩ A6 n6 d6)/\(∃ rs4,RdV Z Z.heap.size ⟨zW,zH,qnH,zr,zy,zv⟩ A6 n6 d6 rs4))/\(Blk Z w7.heap.size 26 (mdC ⟨⟨yW,yH,qnJ,yr,yy,yv⟩,yU⟩ A7 n7 d7)/\(∃ rs4,RdV Z Z.heap.size ⟨yW,yH,qnJ,yr,yy,yv⟩ A7 n7 d7 rs4))/\Below w.heap.size w Z) ⟨⟨(hX6.below hx7 hX6.lt).alloc _,hr5.imp fun _ h=>((h.below hx7).below (((Le w7.heap.size w7).alloc (Ld _) _).mono hzz)).more (by rw [Li];omega)⟩,⟨(hY6.below hx7 hY6.lt).alloc _,hr6.imp fun _ h=>((h.below hx7).below (((Le w7.heap.size w7).alloc (Ld _) _).mono hzz)).more (by rw [Li];omega)⟩,⟨Blk.new_ rfl,hr7.imp fun _ h=>(h.below L5).more (by rw [Li];omega)⟩,hb7.alloc hz7 _⟩ ?_;clear hX6 hY6 hr5 hr6 hr7 hb7 hx7 hz7 hzz hbZ HR3;rintro V ⟨⟨hX7,hr5⟩,⟨hY7,hr6⟩,⟨hN7,hr7⟩,hbV⟩
   go_upto_region 7 with (go_at_call 10;refine (HR4.out _ hbV).mono ?_;rintro e w8 ⟨⟨A8,n8,d8,rfl,hr8⟩,hb8,hx8⟩)
   have hz8:=hb8.size;have hzv:=hx8.size;refine qa (fun Z=>(Blk Z w5.heap.size 26 (mdC ⟨⟨zW,zH,qnH,zr,zy,zv⟩,zU⟩ A5 n5 d5)/\(∃ rs4,RdV Z Z.heap.size ⟨zW,zH,qnH,zr,zy,zv⟩ A5 n5 d5 rs4))/\(Blk Z w6.heap.size 26 (mdC ⟨⟨zW,zH,qnH,zr,zy,zv⟩,zU⟩ A6 n6 d6)/\(∃ rs4,RdV Z Z.heap.size ⟨zW,zH,qnH,zr,zy,zv⟩ A6 n6 d6 rs4))/\(Blk Z w7.heap.size 26 (mdC ⟨⟨yW,yH,qnJ,yr,yy,yv⟩,yU⟩ A7 n7 d7)/\(∃ rs4,RdV Z Z.heap.size ⟨yW,yH,qnJ,yr,yy,yv⟩ A7 n7 d7 rs4))/\(Blk Z w8.heap.size 26 (mdC ⟨⟨yW,yH,qnJ,yr,yy,yv⟩,yU⟩ A8 n8 d8)/\(∃ rs4,RdV Z Z.heap.size ⟨yW,yH,qnJ,yr,yy,yv⟩ A8 n8 d8 rs4))/\Below w.heap.size w Z) ⟨⟨(hX7.below hx8 hX7.lt).alloc _,hr5.imp fun _ h=>((h.below hx8).below (((Le w8.heap.size w8).alloc (Ld _) _).mono hzv)).more (by rw [Li];omega)⟩,⟨(hY7.below hx8 hY7.lt).alloc _,hr6.imp fun _ h=>((h.below hx8).below (((Le w8.heap.size w8).alloc (Ld _) _).mono hzv)).more (by rw [Li];omega)⟩,⟨(hN7.below hx8 hN7.lt).alloc _,hr7.imp fun _ h=>((h.below hx8).below (((Le w8.heap.size w8).alloc (Ld _) _).mono hzv)).more (by rw [Li];omega)⟩,⟨Blk.new_ rfl,hr8.imp fun _ h=>(h.below L5).more (by rw [Li];omega)⟩,hb8.alloc hz8 _⟩ ?_;clear hX7 hY7 hN7 hr5 hr6 hr7 hr8 hb8 hx8 hz8 hzv hbV HR4;rintro T ⟨⟨hX8,hr5⟩,⟨hY8,hr6⟩,⟨hN8,hr7⟩,⟨hO8,hr8⟩,hbT⟩;obtain ⟨x_0,x_1,x_2,x_3,x_4,x_5,x_6,-,-,-,-,-,-,-⟩:=zd hX8;dsimp only at x_0 x_1 x_3 x_4 x_5 x_6;obtain ⟨y_0,y_1,y_2,y_3,y_4,y_5,y_6,-,-,-,-,-,-,-⟩:=zd hY8;dsimp only at y_0 y_1 y_3 y_4 y_5 y_6
   go_wp2_with (first
    | ((fail_if_success have:=w9);go_at_call 11;refine (HR5.out _ _ _ _ _ _ _ hbT hr5 hr6).mono ?_;rintro e w9 ⟨rfl,hb9,hx9⟩;have hN9:=hN8.below hx9 hN8.lt;have hO9:=hO8.below hx9 hO8.lt;have hr7':=hr7.imp fun _ h=>(h.below hx9).more hx9.size;have hr8':=hr8.imp fun _ h=>(h.below hx9).more hx9.size;obtain ⟨u_0,u_1,u_2,u_3,u_4,u_5,u_6,-,-,-,-,-,-,-⟩:=zd hN9;dsimp only at u_0 u_1 u_3 u_4 u_5 u_6;obtain ⟨v_0,v_1,v_2,v_3,v_4,v_5,v_6,-,-,-,-,-,-,-⟩:=zd hO9;dsimp only at v_0 v_1 v_3 v_4 v_5 v_6)
    | (go_at_call 11;refine (HR6.out _ _ _ _ _ _ _ hb9 hr7' hr8').mono ?_;rintro e wt ⟨rfl,hbt,hxt⟩)
    | (go_at_call 6;refine (HA.out _ L3).mono ?_;rintro e wa ⟨rfl,hba,hxa⟩))
   go_ret;exact ⟨rfl,hba⟩
end Go.Proofs.YtggegijlfaipfaaGreatDoor
