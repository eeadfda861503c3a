/- Joined: Vc3. -/
import Derived.Test.YtbogmeeijdaijaaGreatDoorYED
set_option linter.unusedVariables false
set_option linter.unusedSimpArgs false
set_option linter.unnecessarySimpa false
set_option maxHeartbeats 8000000
namespace Go.Proofs.YtbogmeeijdaijaaGreatDoor
open Go.Proofs.Tryz Go.RowKit
set_option maxRecDepth 20000
theorem qf3 (row col count til:Int) (g:List Gl) (Ag:Option Addr) (cap:Nat) (r:Int) (d sp:Bool) (p:Int) (con:Bool) (k:Int) (w:World) (ht:Tb w) (hr:1<=row/\row<=60/\1<=col/\col<=132) :
  Calls prog 26 #[jH ⟨1,row,col,count,til,g⟩ Ag cap,stV r d sp p con k] w (ql 9 1 id w (phraseL ⟨1,row,col,count,til,g⟩ ⟨d,sp,p⟩).length (sv (phraseL ⟨1,row,col,count,til,g⟩ ⟨d,sp,p⟩))):=by
 have HT:=Lh ht;clear ht;obtain ⟨R,hR⟩ : ∃ x,Hid (x=jS::(qY row++kv::(qY col++([jl]++[])))):=⟨_,Lh rfl⟩
 rw [show phraseL ⟨1,row,col,count,til,g⟩ ⟨d,sp,p⟩=R from hR.out.symm];have hX:=PhR.start w ⟨1,row,col,count,til,g⟩ Ag cap r d sp p con k;obtain ⟨xs,hxs⟩ : ∃ x:List ByteArray,x=[]:=⟨_,rfl⟩
 rw [<- hxs] at hX;have HR:Hid (R=xs++jS::(qY row++kv::(qY col++([jl]++[])))):=Lh (by rw [hR.out,hxs];rfl);clear hR hxs
 go_enter func26,ntmps26
 go_upto_region 4 with fail
 refine qa (PhR w ⟨1,row,col,count,til,g⟩ Ag cap r d sp p con k 0 xs (.slice (some ⟨w.heap.size+2,0,none⟩) 0 0)) hX ?_;clear hX;intro X hX;generalize Value.slice (some ⟨w.heap.size+2,0,none⟩) 0 0=v0 at hX ⊢;obtain ⟨P0,P1,⟨m0,hm0,po⟩,pb,pl⟩:=id hX;have pl0:=pl;rw [<- hm0] at pl0;replace hm0:=Lh hm0;obtain ⟨-,c1,c2,c3,c4,c5,-⟩:=qV P0;dsimp only at c1 c2 c3 c4 c5;have zX:=P1.lt;have HS:=Lh (PhR.say HT.out hX jS row L0 L0 L0);obtain ⟨ys,hys⟩ : ∃ y,y=xs++jS::qY row:=⟨_,rfl⟩
 rw [<- hys] at HS;have HRn:=yN HR hys
 go_upto_region 5 with (go_at_call 27;refine HS.out.mono ?_;rintro e w1 ⟨v1,rfl,hY⟩)
 refine qa (PhR w ⟨1,row,col,count,til,g⟩ Ag cap r d sp p con k (0+16) ys v1) hY ?_;clear hY HS;clear c1 c2 c3 c4 c5 P0 P1 po pb pl pl0 zX hm0;clear hX HR hys;clear xs;obtain ⟨xs,rfl⟩ : ∃ x,x=ys:=⟨_,rfl⟩
 have HR:=HRn;clear HRn;intro X hX;obtain ⟨P0,P1,⟨m0,hm0,po⟩,pb,pl⟩:=id hX;have pl0:=pl;rw [<- hm0] at pl0;replace hm0:=Lh hm0;obtain ⟨-,c1,c2,c3,c4,c5,-⟩:=qV P0;dsimp only at c1 c2 c3 c4 c5;have zX:=P1.lt;have HS:=Lh (PhR.say HT.out hX kv col L0 L0 L0);obtain ⟨ys,hys⟩ : ∃ y,y=xs++kv::qY col:=⟨_,rfl⟩
 rw [<- hys] at HS;have HRn:=yN HR hys
 go_upto_region 6 with (go_at_call 27;refine HS.out.mono ?_;rintro e w1 ⟨v1,rfl,hY⟩)
 refine qa (PhR w ⟨1,row,col,count,til,g⟩ Ag cap r d sp p con k (16+16) ys v1) hY ?_;clear hY HS;clear c1 c2 c3 c4 c5 P0 P1 po pb pl pl0 zX hm0;clear hX HR hys;clear xs;obtain ⟨xs,rfl⟩ : ∃ x,x=ys:=⟨_,rfl⟩
 have HR:=HRn;clear HRn;intro X hX;obtain ⟨P0,P1,⟨m0,hm0,po⟩,pb,pl⟩:=id hX;have pl0:=pl;rw [<- hm0] at pl0;replace hm0:=Lh hm0;obtain ⟨-,c1,c2,c3,c4,c5,-⟩:=qV P0;dsimp only at c1 c2 c3 c4 c5;have zX:=P1.lt;obtain ⟨Ao,co,rfl⟩:=vt po;obtain ⟨ys,hys⟩ : ∃ y,y=xs++[jl]:=⟨_,rfl⟩
 have HRn:=kX (zs:=[jl]) HR hys
 go_upto_region 30 with (at_builtin;refine qg rfl _ _ _ rfl qp ((w.heap.size+2)) _ rfl (qb po L5) _ _ rfl ((qe (xs:=sv [jl]) rfl rfl)) ?_;intro A9 c9 w9 hown9 hbel9 hgr9 hat9;have z9:=hbel9.size;(try simp only [Li] at z9);(try simp only [Lo,Lg] at hown9))
 refine qa (PhR w ⟨1,row,col,count,til,g⟩ Ag cap r d sp p con k (32+1) ys (.slice A9 (m0+1) c9)) (by rw [hys];exact hX.put (((Le _ _).alloc L0 _).trans hbel9) hm0.out rfl hown9) ?_;clear hown9 hbel9 hgr9 hat9 z9;clear c1 c2 c3 c4 c5 P0 P1 po pb pl pl0 zX hm0;clear hX HR hys;clear xs;obtain ⟨xs,rfl⟩ : ∃ x,x=ys:=⟨_,rfl⟩
 have HR:=HRn;clear HRn;intro X hX;generalize Value.slice A9 (m0+1) c9=v0 at hX ⊢;obtain ⟨P0,P1,⟨m0,hm0,po⟩,pb,pl⟩:=id hX;have pl0:=pl;rw [<- hm0] at pl0;replace hm0:=Lh hm0;obtain ⟨-,c1,c2,c3,c4,c5,-⟩:=qV P0;dsimp only at c1 c2 c3 c4 c5;have zX:=P1.lt;go_wp2;go_ret;exact hX.done HR.out
theorem qgE (row col count til:Int) (g:List Gl) (Ag:Option Addr) (cap:Nat) (r:Int) (d sp:Bool) (p:Int) (con:Bool) (k:Int) (w:World) (ht:Tb w) (hr:0<=row/\row<=59/\0<=til/\til<=60 /\ -60<=count/\count<=60) :
  Calls prog 26 #[jH ⟨2,row,col,count,til,g⟩ Ag cap,stV r d sp p con k] w (ql 9 1 id w (phraseL ⟨2,row,col,count,til,g⟩ ⟨d,sp,p⟩).length (sv (phraseL ⟨2,row,col,count,til,g⟩ ⟨d,sp,p⟩))):=by
 have HT:=Lh ht;clear ht;have e1:IntKind.i64.wrap (row+1)=row+1:=by rw [Lx];omega
 have e2:IntKind.i64.wrap (-count) = -count:=by rw [Lx];omega
 obtain ⟨R,hR⟩ : ∃ x,Hid (x=[q8]++qI::(qY (row+1)++bTo::(qY til++(if 0<count then bUp::qY count else jj::qY (-count))))):=⟨_,Lh rfl⟩
 rw [show phraseL ⟨2,row,col,count,til,g⟩ ⟨d,sp,p⟩=R from hR.out.symm];have hX:=PhR.start w ⟨2,row,col,count,til,g⟩ Ag cap r d sp p con k;obtain ⟨xs,hxs⟩ : ∃ x:List ByteArray,x=[]:=⟨_,rfl⟩
 rw [<- hxs] at hX;have HR:Hid (R=xs++([q8]++qI::(qY (row+1)++bTo::(qY til++(if 0<count then bUp::qY count else jj::qY (-count)))))):=Lh (by rw [hR.out,hxs];rfl);clear hR hxs
 go_enter func26,ntmps26
 go_upto_region 8 with fail
 refine qa (PhR w ⟨2,row,col,count,til,g⟩ Ag cap r d sp p con k 0 xs (.slice (some ⟨w.heap.size+2,0,none⟩) 0 0)) hX ?_;clear hX;intro X hX;generalize Value.slice (some ⟨w.heap.size+2,0,none⟩) 0 0=v0 at hX ⊢;obtain ⟨P0,P1,⟨m0,hm0,po⟩,pb,pl⟩:=id hX;have pl0:=pl;rw [<- hm0] at pl0;replace hm0:=Lh hm0;obtain ⟨-,c1,c2,c3,c4,c5,-⟩:=qV P0;dsimp only at c1 c2 c3 c4 c5;have zX:=P1.lt;obtain ⟨Ao,co,rfl⟩:=vt po;obtain ⟨ys,hys⟩ : ∃ y,y=xs++[q8]:=⟨_,rfl⟩
 have HRn:=kX (zs:=[q8]) HR hys
 go_upto_region 9 with (at_builtin;refine qg rfl _ _ _ rfl qp ((w.heap.size+2)) _ rfl (qb po L5) _ _ rfl ((qe (xs:=sv [q8]) rfl rfl)) ?_;intro A9 c9 w9 hown9 hbel9 hgr9 hat9;have z9:=hbel9.size;(try simp only [Li] at z9);(try simp only [Lo,Lg] at hown9))
 refine qa (PhR w ⟨2,row,col,count,til,g⟩ Ag cap r d sp p con k (0+1) ys (.slice A9 (m0+1) c9)) (by rw [hys];exact hX.put (((Le _ _).alloc L0 _).trans hbel9) hm0.out rfl hown9) ?_;clear hown9 hbel9 hgr9 hat9 z9;clear c1 c2 c3 c4 c5 P0 P1 po pb pl pl0 zX hm0;clear hX HR hys;clear xs;obtain ⟨xs,rfl⟩ : ∃ x,x=ys:=⟨_,rfl⟩
 have HR:=HRn;clear HRn;intro X hX;generalize Value.slice A9 (m0+1) c9=v0 at hX ⊢;obtain ⟨P0,P1,⟨m0,hm0,po⟩,pb,pl⟩:=id hX;have pl0:=pl;rw [<- hm0] at pl0;replace hm0:=Lh hm0;obtain ⟨-,c1,c2,c3,c4,c5,-⟩:=qV P0;dsimp only at c1 c2 c3 c4 c5;have zX:=P1.lt;have HS:=Lh (PhR.say HT.out hX qI (row+1) L0 L0 L0);obtain ⟨ys,hys⟩ : ∃ y,y=xs++qI::qY (row+1):=⟨_,rfl⟩
 rw [<- hys] at HS;have HRn:=yN HR hys
 go_upto_region 10 with (go_at_call 27;refine HS.out.mono ?_;rintro e w1 ⟨v1,rfl,hY⟩)
 refine qa (PhR w ⟨2,row,col,count,til,g⟩ Ag cap r d sp p con k (1+16) ys v1) hY ?_;clear hY HS;clear c1 c2 c3 c4 c5 P0 P1 po pb pl pl0 zX hm0;clear hX HR hys;clear xs;obtain ⟨xs,rfl⟩ : ∃ x,x=ys:=⟨_,rfl⟩
 have HR:=HRn;clear HRn;intro X hX;obtain ⟨P0,P1,⟨m0,hm0,po⟩,pb,pl⟩:=id hX;have pl0:=pl;rw [<- hm0] at pl0;replace hm0:=Lh hm0;obtain ⟨-,c1,c2,c3,c4,c5,-⟩:=qV P0;dsimp only at c1 c2 c3 c4 c5;have zX:=P1.lt;have HS:=Lh (PhR.say HT.out hX bTo til L0 L0 L0);obtain ⟨ys,hys⟩ : ∃ y,y=xs++bTo::qY til:=⟨_,rfl⟩
 rw [<- hys] at HS;have HRn:=yN HR hys
 go_upto_region 11 with (go_at_call 27;refine HS.out.mono ?_;rintro e w1 ⟨v1,rfl,hY⟩)
 refine qa (PhR w ⟨2,row,col,count,til,g⟩ Ag cap r d sp p con k (17+16) ys v1) hY ?_;clear hY HS;clear c1 c2 c3 c4 c5 P0 P1 po pb pl pl0 zX hm0;clear hX HR hys;clear xs;obtain ⟨xs,rfl⟩ : ∃ x,x=ys:=⟨_,rfl⟩
 have HR:=HRn;clear HRn;intro X hX
 by_cases hc:0<count
 ·rw [if_pos hc] at HR;replace HR:Hid (R=xs++bUp::(qY count++[])):=Lh (by rw [HR.out,List.append_nil]);obtain ⟨P0,P1,⟨m0,hm0,po⟩,pb,pl⟩:=id hX;have pl0:=pl;rw [<- hm0] at pl0;replace hm0:=Lh hm0;obtain ⟨-,c1,c2,c3,c4,c5,-⟩:=qV P0;dsimp only at c1 c2 c3 c4 c5;have zX:=P1.lt
  go_upto_region 12 with fail
  clear c1 c2 c3 c4 c5 P0 P1 po pb pl pl0 zX hm0;obtain ⟨P0,P1,⟨m0,hm0,po⟩,pb,pl⟩:=id hX;have pl0:=pl;rw [<- hm0] at pl0;replace hm0:=Lh hm0;obtain ⟨-,c1,c2,c3,c4,c5,-⟩:=qV P0;dsimp only at c1 c2 c3 c4 c5;have zX:=P1.lt;have HS:=Lh (PhR.say HT.out hX bUp count L0 L0 L0);obtain ⟨ys,hys⟩ : ∃ y,y=xs++bUp::qY count:=⟨_,rfl⟩
  rw [<- hys] at HS;have HRn:=yN HR hys
  go_upto_region 30 with (go_at_call 27;refine HS.out.mono ?_;rintro e w1 ⟨v1,rfl,hY⟩)
  refine qa (PhR w ⟨2,row,col,count,til,g⟩ Ag cap r d sp p con k (33+16) ys v1) hY ?_;clear hY HS;clear c1 c2 c3 c4 c5 P0 P1 po pb pl pl0 zX hm0;clear hX HR hys;clear xs;obtain ⟨xs,rfl⟩ : ∃ x,x=ys:=⟨_,rfl⟩
  have HR:=HRn;clear HRn;intro X hX;obtain ⟨P0,P1,⟨m0,hm0,po⟩,pb,pl⟩:=id hX;have pl0:=pl;rw [<- hm0] at pl0;replace hm0:=Lh hm0;obtain ⟨-,c1,c2,c3,c4,c5,-⟩:=qV P0;dsimp only at c1 c2 c3 c4 c5;have zX:=P1.lt;go_wp2;go_ret;exact hX.done HR.out
 ·rw [if_neg hc] at HR;replace HR:Hid (R=xs++jj::(qY (-count)++[])):=Lh (by rw [HR.out,List.append_nil]);obtain ⟨P0,P1,⟨m0,hm0,po⟩,pb,pl⟩:=id hX;have pl0:=pl;rw [<- hm0] at pl0;replace hm0:=Lh hm0;obtain ⟨-,c1,c2,c3,c4,c5,-⟩:=qV P0;dsimp only at c1 c2 c3 c4 c5;have zX:=P1.lt
  go_upto_region 13 with fail
  clear c1 c2 c3 c4 c5 P0 P1 po pb pl pl0 zX hm0;obtain ⟨P0,P1,⟨m0,hm0,po⟩,pb,pl⟩:=id hX;have pl0:=pl;rw [<- hm0] at pl0;replace hm0:=Lh hm0;obtain ⟨-,c1,c2,c3,c4,c5,-⟩:=qV P0;dsimp only at c1 c2 c3 c4 c5;have zX:=P1.lt;have HS:=Lh (PhR.say HT.out hX jj (-count) L0 L0 L0);obtain ⟨ys,hys⟩ : ∃ y,y=xs++jj::qY (-count):=⟨_,rfl⟩
  rw [<- hys] at HS;have HRn:=yN HR hys
  go_upto_region 30 with (go_at_call 27;refine HS.out.mono ?_;rintro e w1 ⟨v1,rfl,hY⟩)
  refine qa (PhR w ⟨2,row,col,count,til,g⟩ Ag cap r d sp p con k (33+16) ys v1) hY ?_;clear hY HS;clear c1 c2 c3 c4 c5 P0 P1 po pb pl pl0 zX hm0;clear hX HR hys;clear xs;obtain ⟨xs,rfl⟩ : ∃ x,x=ys:=⟨_,rfl⟩
  have HR:=HRn;clear HRn;intro X hX;obtain ⟨P0,P1,⟨m0,hm0,po⟩,pb,pl⟩:=id hX;have pl0:=pl;rw [<- hm0] at pl0;replace hm0:=Lh hm0;obtain ⟨-,c1,c2,c3,c4,c5,-⟩:=qV P0;dsimp only at c1 c2 c3 c4 c5;have zX:=P1.lt;go_wp2;go_ret;exact hX.done HR.out
theorem qeV (row col count til:Int) (g:List Gl) (Ag:Option Addr) (cap:Nat) (r:Int) (d sp:Bool) (p:Int) (con:Bool) (k:Int) (w:World) (ht:Tb w) (hr:0<=row/\row<=59/\0<=col/\col<=131) :
  Calls prog 26 #[jH ⟨4,row,col,count,til,g⟩ Ag cap,stV r d sp p con k] w (ql 9 1 id w (phraseL ⟨4,row,col,count,til,g⟩ ⟨d,sp,p⟩).length (sv (phraseL ⟨4,row,col,count,til,g⟩ ⟨d,sp,p⟩))):=by
 have HT:=Lh ht;clear ht;have e1:IntKind.i64.wrap (row+1)=row+1:=by rw [Lx];omega
 have e2:IntKind.i64.wrap (col+1)=col+1:=by rw [Lx];omega
 obtain ⟨R,hR⟩ : ∃ x,Hid (x=[q7]++qI::(qY (row+1)++qO::(qY (col+1)++[if count=1 then ze else zK]))):=⟨_,Lh rfl⟩
 rw [show phraseL ⟨4,row,col,count,til,g⟩ ⟨d,sp,p⟩=R from hR.out.symm];have hX:=PhR.start w ⟨4,row,col,count,til,g⟩ Ag cap r d sp p con k;obtain ⟨xs,hxs⟩ : ∃ x:List ByteArray,x=[]:=⟨_,rfl⟩
 rw [<- hxs] at hX;have HR:Hid (R=xs++([q7]++qI::(qY (row+1)++qO::(qY (col+1)++[if count=1 then ze else zK])))):=Lh (by rw [hR.out,hxs];rfl);clear hR hxs
 go_enter func26,ntmps26
 go_upto_region 24 with fail
 refine qa (PhR w ⟨4,row,col,count,til,g⟩ Ag cap r d sp p con k 0 xs (.slice (some ⟨w.heap.size+2,0,none⟩) 0 0)) hX ?_;clear hX;intro X hX;generalize Value.slice (some ⟨w.heap.size+2,0,none⟩) 0 0=v0 at hX ⊢;obtain ⟨P0,P1,⟨m0,hm0,po⟩,pb,pl⟩:=id hX;have pl0:=pl;rw [<- hm0] at pl0;replace hm0:=Lh hm0;obtain ⟨-,c1,c2,c3,c4,c5,-⟩:=qV P0;dsimp only at c1 c2 c3 c4 c5;have zX:=P1.lt;obtain ⟨Ao,co,rfl⟩:=vt po;obtain ⟨ys,hys⟩ : ∃ y,y=xs++[q7]:=⟨_,rfl⟩
 have HRn:=kX (zs:=[q7]) HR hys
 go_upto_region 25 with (at_builtin;refine qg rfl _ _ _ rfl qp ((w.heap.size+2)) _ rfl (qb po L5) _ _ rfl ((qe (xs:=sv [q7]) rfl rfl)) ?_;intro A9 c9 w9 hown9 hbel9 hgr9 hat9;have z9:=hbel9.size;(try simp only [Li] at z9);(try simp only [Lo,Lg] at hown9))
 refine qa (PhR w ⟨4,row,col,count,til,g⟩ Ag cap r d sp p con k (0+1) ys (.slice A9 (m0+1) c9)) (by rw [hys];exact hX.put (((Le _ _).alloc L0 _).trans hbel9) hm0.out rfl hown9) ?_;clear hown9 hbel9 hgr9 hat9 z9;clear c1 c2 c3 c4 c5 P0 P1 po pb pl pl0 zX hm0;clear hX HR hys;clear xs;obtain ⟨xs,rfl⟩ : ∃ x,x=ys:=⟨_,rfl⟩
 have HR:=HRn;clear HRn;intro X hX;generalize Value.slice A9 (m0+1) c9=v0 at hX ⊢;obtain ⟨P0,P1,⟨m0,hm0,po⟩,pb,pl⟩:=id hX;have pl0:=pl;rw [<- hm0] at pl0;replace hm0:=Lh hm0;obtain ⟨-,c1,c2,c3,c4,c5,-⟩:=qV P0;dsimp only at c1 c2 c3 c4 c5;have zX:=P1.lt;have HS:=Lh (PhR.say HT.out hX qI (row+1) L0 L0 L0);obtain ⟨ys,hys⟩ : ∃ y,y=xs++qI::qY (row+1):=⟨_,rfl⟩
 rw [<- hys] at HS;have HRn:=yN HR hys
 go_upto_region 26 with (go_at_call 27;refine HS.out.mono ?_;rintro e w1 ⟨v1,rfl,hY⟩)
 refine qa (PhR w ⟨4,row,col,count,til,g⟩ Ag cap r d sp p con k (1+16) ys v1) hY ?_;clear hY HS;clear c1 c2 c3 c4 c5 P0 P1 po pb pl pl0 zX hm0;clear hX HR hys;clear xs;obtain ⟨xs,rfl⟩ : ∃ x,x=ys:=⟨_,rfl⟩
 have HR:=HRn;clear HRn;intro X hX;obtain ⟨P0,P1,⟨m0,hm0,po⟩,pb,pl⟩:=id hX;have pl0:=pl;rw [<- hm0] at pl0;replace hm0:=Lh hm0;obtain ⟨-,c1,c2,c3,c4,c5,-⟩:=qV P0;dsimp only at c1 c2 c3 c4 c5;have zX:=P1.lt;have HS:=Lh (PhR.say HT.out hX qO (col+1) L0 L0 L0);obtain ⟨ys,hys⟩ : ∃ y,y=xs++qO::qY (col+1):=⟨_,rfl⟩
 rw [<- hys] at HS;have HRn:=yN HR hys
 go_upto_region 27 with (go_at_call 27;refine HS.out.mono ?_;rintro e w1 ⟨v1,rfl,hY⟩)
 refine qa (PhR w ⟨4,row,col,count,til,g⟩ Ag cap r d sp p con k (17+16) ys v1) hY ?_;clear hY HS;clear c1 c2 c3 c4 c5 P0 P1 po pb pl pl0 zX hm0;clear hX HR hys;clear xs;obtain ⟨xs,rfl⟩ : ∃ x,x=ys:=⟨_,rfl⟩
 have HR:=HRn;clear HRn;intro X hX
 by_cases hc:count=1
 ·rw [if_pos hc] at HR;replace HR:Hid (R=xs++([ze]++[])):=HR;subst hc;obtain ⟨P0,P1,⟨m0,hm0,po⟩,pb,pl⟩:=id hX;have pl0:=pl;rw [<- hm0] at pl0;replace hm0:=Lh hm0;obtain ⟨-,c1,c2,c3,c4,c5,-⟩:=qV P0;dsimp only at c1 c2 c3 c4 c5;have zX:=P1.lt
  go_upto_region 28 with fail
  clear c1 c2 c3 c4 c5 P0 P1 po pb pl pl0 zX hm0;obtain ⟨P0,P1,⟨m0,hm0,po⟩,pb,pl⟩:=id hX;have pl0:=pl;rw [<- hm0] at pl0;replace hm0:=Lh hm0;obtain ⟨-,c1,c2,c3,c4,c5,-⟩:=qV P0;dsimp only at c1 c2 c3 c4 c5;have zX:=P1.lt;obtain ⟨Ao,co,rfl⟩:=vt po;obtain ⟨ys,hys⟩ : ∃ y,y=xs++[ze]:=⟨_,rfl⟩
  have HRn:=kX (zs:=[ze]) HR hys
  go_upto_region 30 with (at_builtin;refine qg rfl _ _ _ rfl qp ((w.heap.size+2)) _ rfl (qb po L5) _ _ rfl ((qe (xs:=sv [ze]) rfl rfl)) ?_;intro A9 c9 w9 hown9 hbel9 hgr9 hat9;have z9:=hbel9.size;(try simp only [Li] at z9);(try simp only [Lo,Lg] at hown9))
  refine qa (PhR w ⟨4,row,col,1,til,g⟩ Ag cap r d sp p con k (33+1) ys (.slice A9 (m0+1) c9)) (by rw [hys];exact hX.put (((Le _ _).alloc L0 _).trans hbel9) hm0.out rfl hown9) ?_;clear hown9 hbel9 hgr9 hat9 z9;clear c1 c2 c3 c4 c5 P0 P1 po pb pl pl0 zX hm0;clear hX HR hys;clear xs;obtain ⟨xs,rfl⟩ : ∃ x,x=ys:=⟨_,rfl⟩
  have HR:=HRn;clear HRn;intro X hX;generalize Value.slice A9 (m0+1) c9=v0 at hX ⊢;obtain ⟨P0,P1,⟨m0,hm0,po⟩,pb,pl⟩:=id hX;have pl0:=pl;rw [<- hm0] at pl0;replace hm0:=Lh hm0;obtain ⟨-,c1,c2,c3,c4,c5,-⟩:=qV P0;dsimp only at c1 c2 c3 c4 c5;have zX:=P1.lt;go_wp2;go_ret;exact hX.done HR.out
 ·rw [if_neg hc] at HR;replace HR:Hid (R=xs++([zK]++[])):=HR;have hcb:(count==1)=false:=Lm.2 hc;clear hc;obtain ⟨P0,P1,⟨m0,hm0,po⟩,pb,pl⟩:=id hX;have pl0:=pl;rw [<- hm0] at pl0;replace hm0:=Lh hm0;obtain ⟨-,c1,c2,c3,c4,c5,-⟩:=qV P0;dsimp only at c1 c2 c3 c4 c5;have zX:=P1.lt
  go_upto_region 29 with fail
  clear c1 c2 c3 c4 c5 P0 P1 po pb pl pl0 zX hm0;obtain ⟨P0,P1,⟨m0,hm0,po⟩,pb,pl⟩:=id hX;have pl0:=pl;rw [<- hm0] at pl0;replace hm0:=Lh hm0;obtain ⟨-,c1,c2,c3,c4,c5,-⟩:=qV P0;dsimp only at c1 c2 c3 c4 c5;have zX:=P1.lt;obtain ⟨Ao,co,rfl⟩:=vt po;obtain ⟨ys,hys⟩ : ∃ y,y=xs++[zK]:=⟨_,rfl⟩
  have HRn:=kX (zs:=[zK]) HR hys
  go_upto_region 30 with (at_builtin;refine qg rfl _ _ _ rfl qp ((w.heap.size+2)) _ rfl (qb po L5) _ _ rfl ((qe (xs:=sv [zK]) rfl rfl)) ?_;intro A9 c9 w9 hown9 hbel9 hgr9 hat9;have z9:=hbel9.size;(try simp only [Li] at z9);(try simp only [Lo,Lg] at hown9))
  refine qa (PhR w ⟨4,row,col,count,til,g⟩ Ag cap r d sp p con k (33+1) ys (.slice A9 (m0+1) c9)) (by rw [hys];exact hX.put (((Le _ _).alloc L0 _).trans hbel9) hm0.out rfl hown9) ?_;clear hown9 hbel9 hgr9 hat9 z9;clear c1 c2 c3 c4 c5 P0 P1 po pb pl pl0 zX hm0;clear hX HR hys;clear xs;obtain ⟨xs,rfl⟩ : ∃ x,x=ys:=⟨_,rfl⟩
  have HR:=HRn;clear HRn;intro X hX;generalize Value.slice A9 (m0+1) c9=v0 at hX ⊢;obtain ⟨P0,P1,⟨m0,hm0,po⟩,pb,pl⟩:=id hX;have pl0:=pl;rw [<- hm0] at pl0;replace hm0:=Lh hm0;obtain ⟨-,c1,c2,c3,c4,c5,-⟩:=qV P0;dsimp only at c1 c2 c3 c4 c5;have zX:=P1.lt;go_wp2;go_ret;exact hX.done HR.out
theorem qec (row col count til:Int) (g:List Gl) (Ag:Option Addr) (cap:Nat) (r:Int) (d sp:Bool) (p:Int) (con:Bool) (k:Int) (w:World) (ht:Tb w) (hr:0<=row/\row<=59/\0<=col/\col<=132/\0<=count/\count<=132)
  (B:Nat) (hgn:g.length<=132) (hok : ∀ x∈g,GW x) (hcx:g.length<=cap) (hmx:cap<=maxLen) (rd:Rd w B 3 Ag g.length (qi g)) (hB:B<=w.heap.size) (hp0:0<=p) :
  Calls prog 26 #[jH ⟨3,row,col,count,til,g⟩ Ag cap,stV r d sp p con k] w (ql 9 1 id w (phraseL ⟨3,row,col,count,til,g⟩ ⟨d,sp,p⟩).length (sv (phraseL ⟨3,row,col,count,til,g⟩ ⟨d,sp,p⟩))):=by
 have HT:=Lh ht;have e1:IntKind.i64.wrap (row+1)=row+1:=by rw [Lx];omega
 have e2:IntKind.i64.wrap (col+1)=col+1:=by rw [Lx];omega
 have hSW:=(yv (S:=⟨d,sp,p⟩) _ (Ld _) (WoI.start ⟨d,sp,p⟩ g L0 hok)).1;have HWd:Hid (∀ X,Below w.heap.size w X->Calls prog 50 #[.slice Ag g.length cap,stV r d sp p con k] X (ql 9 1 id X (qz g ⟨d,sp,p⟩).length (sv (qz g ⟨d,sp,p⟩)))):=Lh fun X hX =>
  rwords g Ag _ cap B r d sp p con k X (ht.below hX) L0 hcx hmx hok hp0 (rd.below (hX.mono hB)) (Lj hB hX.size)
 obtain ⟨G,hG⟩ : ∃ x,Hid (x=if g=[] then ([]:List ByteArray) else qK::(qz g ⟨d,sp,p⟩++[vF])):=⟨_,Lh rfl⟩
 obtain ⟨R,hR⟩ : ∃ x,Hid (x=qI::(qY (row+1)++qO::(qY (col+1)++((if 0<count then q9::qY count else [])++G)))):=⟨_,Lh rfl⟩
 rw [show phraseL ⟨3,row,col,count,til,g⟩ ⟨d,sp,p⟩=R by rw [hR.out,hG.out];rfl];generalize qz g ⟨d,sp,p⟩=SW at *
 have HRd:=Lh rd;clear ht hok rd;have hX:=PhR.start w ⟨3,row,col,count,til,g⟩ Ag cap r d sp p con k;obtain ⟨xs,hxs⟩ : ∃ x:List ByteArray,x=[]:=⟨_,rfl⟩
 rw [<- hxs] at hX;have HR:Hid (R=xs++(qI::(qY (row+1)++qO::(qY (col+1)++((if 0<count then q9::qY count else [])++G))))):=Lh (by rw [hR.out,hxs];rfl);clear hR hxs
 go_enter func26,ntmps26
 go_upto_region 15 with fail
 refine qa (PhR w ⟨3,row,col,count,til,g⟩ Ag cap r d sp p con k 0 xs (.slice (some ⟨w.heap.size+2,0,none⟩) 0 0)) hX ?_;clear hX;intro X hX;generalize Value.slice (some ⟨w.heap.size+2,0,none⟩) 0 0=v0 at hX ⊢;obtain ⟨P0,P1,⟨m0,hm0,po⟩,pb,pl⟩:=id hX;have pl0:=pl;rw [<- hm0] at pl0;replace hm0:=Lh hm0;obtain ⟨-,c1,c2,c3,c4,c5,-⟩:=qV P0;dsimp only at c1 c2 c3 c4 c5;have zX:=P1.lt;have HS:=Lh (PhR.say HT.out hX qI (row+1) L0 L0 L0);obtain ⟨ys,hys⟩ : ∃ y,y=xs++qI::qY (row+1):=⟨_,rfl⟩
 rw [<- hys] at HS;have HRn:=yN HR hys
 go_upto_region 16 with (go_at_call 27;refine HS.out.mono ?_;rintro e w1 ⟨v1,rfl,hY⟩)
 refine qa (PhR w ⟨3,row,col,count,til,g⟩ Ag cap r d sp p con k (0+16) ys v1) hY ?_;clear hY HS;clear c1 c2 c3 c4 c5 P0 P1 po pb pl pl0 zX hm0;clear hX HR hys;clear xs;obtain ⟨xs,rfl⟩ : ∃ x,x=ys:=⟨_,rfl⟩
 have HR:=HRn;clear HRn;intro X hX;obtain ⟨P0,P1,⟨m0,hm0,po⟩,pb,pl⟩:=id hX;have pl0:=pl;rw [<- hm0] at pl0;replace hm0:=Lh hm0;obtain ⟨-,c1,c2,c3,c4,c5,-⟩:=qV P0;dsimp only at c1 c2 c3 c4 c5;have zX:=P1.lt;have HS:=Lh (PhR.say HT.out hX qO (col+1) L0 L0 L0);obtain ⟨ys,hys⟩ : ∃ y,y=xs++qO::qY (col+1):=⟨_,rfl⟩
 rw [<- hys] at HS;have HRn:=yN HR hys
 go_upto_region 17 with (go_at_call 27;refine HS.out.mono ?_;rintro e w1 ⟨v1,rfl,hY⟩)
 refine qa (PhR w ⟨3,row,col,count,til,g⟩ Ag cap r d sp p con k (16+16) ys v1) hY ?_;clear hY HS;clear c1 c2 c3 c4 c5 P0 P1 po pb pl pl0 zX hm0;clear hX HR hys;clear xs;obtain ⟨xs,rfl⟩ : ∃ x,x=ys:=⟨_,rfl⟩
 have HR:=HRn;clear HRn;intro X hX
 by_cases hc:0<count
 ·as_aux_lemma =>
  rw [if_pos hc] at HR;obtain ⟨P0,P1,⟨m0,hm0,po⟩,pb,pl⟩:=id hX;have pl0:=pl;rw [<- hm0] at pl0;replace hm0:=Lh hm0;obtain ⟨-,c1,c2,c3,c4,c5,-⟩:=qV P0;dsimp only at c1 c2 c3 c4 c5;have zX:=P1.lt
  go_upto_region 18 with fail
  clear c1 c2 c3 c4 c5 P0 P1 po pb pl pl0 zX hm0;replace HR:Hid (R=xs++q9::(qY count++G)):=HR;obtain ⟨P0,P1,⟨m0,hm0,po⟩,pb,pl⟩:=id hX;have pl0:=pl;rw [<- hm0] at pl0;replace hm0:=Lh hm0;obtain ⟨-,c1,c2,c3,c4,c5,-⟩:=qV P0;dsimp only at c1 c2 c3 c4 c5;have zX:=P1.lt;have HS:=Lh (PhR.say HT.out hX q9 count L0 L0 L0);obtain ⟨ys,hys⟩ : ∃ y,y=xs++q9::qY count:=⟨_,rfl⟩
  rw [<- hys] at HS;have HRn:=yN HR hys
  go_upto_region 19 with (go_at_call 27;refine HS.out.mono ?_;rintro e w1 ⟨v1,rfl,hY⟩)
  refine qa (PhR w ⟨3,row,col,count,til,g⟩ Ag cap r d sp p con k (32+16) ys v1) hY ?_;clear hY HS;clear c1 c2 c3 c4 c5 P0 P1 po pb pl pl0 zX hm0;clear hX HR hys;clear xs;obtain ⟨xs,rfl⟩ : ∃ x,x=ys:=⟨_,rfl⟩
  have HR:=HRn;clear HRn;intro X hX
  by_cases hg0:g=[]
  ·subst hg0;replace HR:Hid (R=xs++[]):=Lh (by rw [HR.out,hG.out];rfl);clear hG HWd hSW HRd;obtain ⟨P0,P1,⟨m0,hm0,po⟩,pb,pl⟩:=id hX;have pl0:=pl;rw [<- hm0] at pl0;replace hm0:=Lh hm0;obtain ⟨-,c1,c2,c3,c4,c5,-⟩:=qV P0;dsimp only at c1 c2 c3 c4 c5;have zX:=P1.lt;go_wp2;go_ret;exact hX.done HR.out
  ·replace HR:Hid (R=xs++([qK]++(SW++([vF]++[])))):=Lh (by rw [HR.out,hG.out,if_neg hg0];rfl);have hgl:0<g.length:=List.length_pos_iff.2 hg0;have hgi:(0:Int)<(g.length:Int):=by omega
   clear hG hg0;obtain ⟨P0,P1,⟨m0,hm0,po⟩,pb,pl⟩:=id hX;have pl0:=pl;rw [<- hm0] at pl0;replace hm0:=Lh hm0;obtain ⟨-,c1,c2,c3,c4,c5,-⟩:=qV P0;dsimp only at c1 c2 c3 c4 c5;have zX:=P1.lt
   go_upto_region 20 with fail
   clear c1 c2 c3 c4 c5 P0 P1 po pb pl pl0 zX hm0;obtain ⟨P0,P1,⟨m0,hm0,po⟩,pb,pl⟩:=id hX;have pl0:=pl;rw [<- hm0] at pl0;replace hm0:=Lh hm0;obtain ⟨-,c1,c2,c3,c4,c5,-⟩:=qV P0;dsimp only at c1 c2 c3 c4 c5;have zX:=P1.lt;obtain ⟨Ao,co,rfl⟩:=vt po;obtain ⟨ys,hys⟩ : ∃ y,y=xs++[qK]:=⟨_,rfl⟩
   have HRn:=kX (zs:=[qK]) HR hys
   go_upto_region 21 with (at_builtin;refine qg rfl _ _ _ rfl qp ((w.heap.size+2)) _ rfl (qb po L5) _ _ rfl ((qe (xs:=sv [qK]) rfl rfl)) ?_;intro A9 c9 w9 hown9 hbel9 hgr9 hat9;have z9:=hbel9.size;(try simp only [Li] at z9);(try simp only [Lo,Lg] at hown9))
   refine qa (PhR w ⟨3,row,col,count,til,g⟩ Ag cap r d sp p con k (48+1) ys (.slice A9 (m0+1) c9)) (by rw [hys];exact hX.put (((Le _ _).alloc L0 _).trans hbel9) hm0.out rfl hown9) ?_;clear hown9 hbel9 hgr9 hat9 z9;clear c1 c2 c3 c4 c5 P0 P1 po pb pl pl0 zX hm0;clear hX HR hys;clear xs;obtain ⟨xs,rfl⟩ : ∃ x,x=ys:=⟨_,rfl⟩
   have HR:=HRn;clear HRn;intro X hX;generalize Value.slice A9 (m0+1) c9=v0 at hX ⊢;obtain ⟨P0,P1,⟨m0,hm0,po⟩,pb,pl⟩:=id hX;have pl0:=pl;rw [<- hm0] at pl0;replace hm0:=Lh hm0;obtain ⟨-,c1,c2,c3,c4,c5,-⟩:=qV P0;dsimp only at c1 c2 c3 c4 c5;have zX:=P1.lt;have s0:=P1.cell 0;have s1:=P1.cell 1;have s2:=P1.cell 2;have s3:=P1.cell 3;have s4:=P1.cell 4;have s5:=P1.cell 5;simp only [La,Lb,Lc] at s0 s1 s2 s3 s4 s5;obtain ⟨Ao,co,rfl⟩:=vt po;obtain ⟨ys,hys⟩ : ∃ y,y=xs++SW:=⟨_,rfl⟩
   have HRn:=kX HR hys
   go_upto_region 22 with (first
    | (go_at_call 50;refine (HWd.out _ pb).mono ?_;rintro e w2 ⟨A2,cw,rfl,o2,b2⟩;have z2:=b2.size)
    | (at_builtin;refine qg rfl _ _ _ rfl qp ((w.heap.size+2)) _ rfl (qb po b2) _ _ rfl ((Rd.of_own o2)) ?_;intro A9 c9 w9 hown9 hbel9 hgr9 hat9;have z9:=hbel9.size;(try simp only [Li] at z9);(try simp only [Lo,Lg] at hown9)))
   refine qa (PhR w ⟨3,row,col,count,til,g⟩ Ag cap r d sp p con k (48+1+SW.length) ys (.slice A9 (m0+SW.length) c9)) (by rw [hys];exact hX.put ((b2.mono L0).trans hbel9) hm0.out rfl hown9) ?_;clear hown9 hbel9 hgr9 hat9 z9 o2 b2 z2 s0 s1 s2 s3 s4 s5;clear c1 c2 c3 c4 c5 P0 P1 po pb pl pl0 zX hm0;clear hX HR hys;clear xs;obtain ⟨xs,rfl⟩ : ∃ x,x=ys:=⟨_,rfl⟩
   have HR:=HRn;clear HRn;intro X hX;generalize Value.slice A9 (m0+SW.length) c9=v0 at hX ⊢;obtain ⟨P0,P1,⟨m0,hm0,po⟩,pb,pl⟩:=id hX;have pl0:=pl;rw [<- hm0] at pl0;replace hm0:=Lh hm0;obtain ⟨-,c1,c2,c3,c4,c5,-⟩:=qV P0;dsimp only at c1 c2 c3 c4 c5;have zX:=P1.lt;obtain ⟨Ao,co,rfl⟩:=vt po;obtain ⟨ys,hys⟩ : ∃ y,y=xs++[vF]:=⟨_,rfl⟩
   have HRn:=kX (zs:=[vF]) HR hys
   go_upto_region 30 with (at_builtin;refine qg rfl _ _ _ rfl qp ((w.heap.size+2)) _ rfl (qb po L5) _ _ rfl ((qe (xs:=sv [vF]) rfl rfl)) ?_;intro A9 c9 w9 hown9 hbel9 hgr9 hat9;have z9:=hbel9.size;(try simp only [Li] at z9);(try simp only [Lo,Lg] at hown9))
   refine qa (PhR w ⟨3,row,col,count,til,g⟩ Ag cap r d sp p con k (48+1+SW.length+1) ys (.slice A9 (m0+1) c9)) (by rw [hys];exact hX.put (((Le _ _).alloc L0 _).trans hbel9) hm0.out rfl hown9) ?_;clear hown9 hbel9 hgr9 hat9 z9;clear c1 c2 c3 c4 c5 P0 P1 po pb pl pl0 zX hm0;clear hX HR hys;clear xs;obtain ⟨xs,rfl⟩ : ∃ x,x=ys:=⟨_,rfl⟩
   have HR:=HRn;clear HRn;intro X hX;generalize Value.slice A9 (m0+1) c9=v0 at hX ⊢;obtain ⟨P0,P1,⟨m0,hm0,po⟩,pb,pl⟩:=id hX;have pl0:=pl;rw [<- hm0] at pl0;replace hm0:=Lh hm0;obtain ⟨-,c1,c2,c3,c4,c5,-⟩:=qV P0;dsimp only at c1 c2 c3 c4 c5;have zX:=P1.lt;go_wp2;go_ret;exact hX.done HR.out
 ·as_aux_lemma =>
  rw [if_neg hc] at HR;replace HR:Hid (R=xs++G):=HR;obtain ⟨P0,P1,⟨m0,hm0,po⟩,pb,pl⟩:=id hX;have pl0:=pl;rw [<- hm0] at pl0;replace hm0:=Lh hm0;obtain ⟨-,c1,c2,c3,c4,c5,-⟩:=qV P0;dsimp only at c1 c2 c3 c4 c5;have zX:=P1.lt
  go_upto_region 19 with fail
  clear c1 c2 c3 c4 c5 P0 P1 po pb pl pl0 zX hm0
  by_cases hg0:g=[]
  ·subst hg0;replace HR:Hid (R=xs++[]):=Lh (by rw [HR.out,hG.out];rfl);clear hG HWd hSW HRd;obtain ⟨P0,P1,⟨m0,hm0,po⟩,pb,pl⟩:=id hX;have pl0:=pl;rw [<- hm0] at pl0;replace hm0:=Lh hm0;obtain ⟨-,c1,c2,c3,c4,c5,-⟩:=qV P0;dsimp only at c1 c2 c3 c4 c5;have zX:=P1.lt;go_wp2;go_ret;exact hX.done HR.out
  ·replace HR:Hid (R=xs++([qK]++(SW++([vF]++[])))):=Lh (by rw [HR.out,hG.out,if_neg hg0];rfl);have hgl:0<g.length:=List.length_pos_iff.2 hg0;have hgi:(0:Int)<(g.length:Int):=by omega
   clear hG hg0;obtain ⟨P0,P1,⟨m0,hm0,po⟩,pb,pl⟩:=id hX;have pl0:=pl;rw [<- hm0] at pl0;replace hm0:=Lh hm0;obtain ⟨-,c1,c2,c3,c4,c5,-⟩:=qV P0;dsimp only at c1 c2 c3 c4 c5;have zX:=P1.lt
   go_upto_region 20 with fail
   clear c1 c2 c3 c4 c5 P0 P1 po pb pl pl0 zX hm0;obtain ⟨P0,P1,⟨m0,hm0,po⟩,pb,pl⟩:=id hX;have pl0:=pl;rw [<- hm0] at pl0;replace hm0:=Lh hm0;obtain ⟨-,c1,c2,c3,c4,c5,-⟩:=qV P0;dsimp only at c1 c2 c3 c4 c5;have zX:=P1.lt;obtain ⟨Ao,co,rfl⟩:=vt po;obtain ⟨ys,hys⟩ : ∃ y,y=xs++[qK]:=⟨_,rfl⟩
   have HRn:=kX (zs:=[qK]) HR hys
   go_upto_region 21 with (at_builtin;refine qg rfl _ _ _ rfl qp ((w.heap.size+2)) _ rfl (qb po L5) _ _ rfl ((qe (xs:=sv [qK]) rfl rfl)) ?_;intro A9 c9 w9 hown9 hbel9 hgr9 hat9;have z9:=hbel9.size;(try simp only [Li] at z9);(try simp only [Lo,Lg] at hown9))
   refine qa (PhR w ⟨3,row,col,count,til,g⟩ Ag cap r d sp p con k (32+1) ys (.slice A9 (m0+1) c9)) (by rw [hys];exact hX.put (((Le _ _).alloc L0 _).trans hbel9) hm0.out rfl hown9) ?_;clear hown9 hbel9 hgr9 hat9 z9;clear c1 c2 c3 c4 c5 P0 P1 po pb pl pl0 zX hm0;clear hX HR hys;clear xs;obtain ⟨xs,rfl⟩ : ∃ x,x=ys:=⟨_,rfl⟩
   have HR:=HRn;clear HRn;intro X hX;generalize Value.slice A9 (m0+1) c9=v0 at hX ⊢;obtain ⟨P0,P1,⟨m0,hm0,po⟩,pb,pl⟩:=id hX;have pl0:=pl;rw [<- hm0] at pl0;replace hm0:=Lh hm0;obtain ⟨-,c1,c2,c3,c4,c5,-⟩:=qV P0;dsimp only at c1 c2 c3 c4 c5;have zX:=P1.lt;have s0:=P1.cell 0;have s1:=P1.cell 1;have s2:=P1.cell 2;have s3:=P1.cell 3;have s4:=P1.cell 4;have s5:=P1.cell 5;simp only [La,Lb,Lc] at s0 s1 s2 s3 s4 s5;obtain ⟨Ao,co,rfl⟩:=vt po;obtain ⟨ys,hys⟩ : ∃ y,y=xs++SW:=⟨_,rfl⟩
   have HRn:=kX HR hys
   go_upto_region 22 with (first
    | (go_at_call 50;refine (HWd.out _ pb).mono ?_;rintro e w2 ⟨A2,cw,rfl,o2,b2⟩;have z2:=b2.size)
    | (at_builtin;refine qg rfl _ _ _ rfl qp ((w.heap.size+2)) _ rfl (qb po b2) _ _ rfl ((Rd.of_own o2)) ?_;intro A9 c9 w9 hown9 hbel9 hgr9 hat9;have z9:=hbel9.size;(try simp only [Li] at z9);(try simp only [Lo,Lg] at hown9)))
   refine qa (PhR w ⟨3,row,col,count,til,g⟩ Ag cap r d sp p con k (32+1+SW.length) ys (.slice A9 (m0+SW.length) c9)) (by rw [hys];exact hX.put ((b2.mono L0).trans hbel9) hm0.out rfl hown9) ?_;clear hown9 hbel9 hgr9 hat9 z9 o2 b2 z2 s0 s1 s2 s3 s4 s5;clear c1 c2 c3 c4 c5 P0 P1 po pb pl pl0 zX hm0;clear hX HR hys;clear xs;obtain ⟨xs,rfl⟩ : ∃ x,x=ys:=⟨_,rfl⟩
   have HR:=HRn;clear HRn;intro X hX;generalize Value.slice A9 (m0+SW.length) c9=v0 at hX ⊢;obtain ⟨P0,P1,⟨m0,hm0,po⟩,pb,pl⟩:=id hX;have pl0:=pl;rw [<- hm0] at pl0;replace hm0:=Lh hm0;obtain ⟨-,c1,c2,c3,c4,c5,-⟩:=qV P0;dsimp only at c1 c2 c3 c4 c5;have zX:=P1.lt;obtain ⟨Ao,co,rfl⟩:=vt po;obtain ⟨ys,hys⟩ : ∃ y,y=xs++[vF]:=⟨_,rfl⟩
   have HRn:=kX (zs:=[vF]) HR hys
   go_upto_region 30 with (at_builtin;refine qg rfl _ _ _ rfl qp ((w.heap.size+2)) _ rfl (qb po L5) _ _ rfl ((qe (xs:=sv [vF]) rfl rfl)) ?_;intro A9 c9 w9 hown9 hbel9 hgr9 hat9;have z9:=hbel9.size;(try simp only [Li] at z9);(try simp only [Lo,Lg] at hown9))
   refine qa (PhR w ⟨3,row,col,count,til,g⟩ Ag cap r d sp p con k (32+1+SW.length+1) ys (.slice A9 (m0+1) c9)) (by rw [hys];exact hX.put (((Le _ _).alloc L0 _).trans hbel9) hm0.out rfl hown9) ?_;clear hown9 hbel9 hgr9 hat9 z9;clear c1 c2 c3 c4 c5 P0 P1 po pb pl pl0 zX hm0;clear hX HR hys;clear xs;obtain ⟨xs,rfl⟩ : ∃ x,x=ys:=⟨_,rfl⟩
   have HR:=HRn;clear HRn;intro X hX;generalize Value.slice A9 (m0+1) c9=v0 at hX ⊢;obtain ⟨P0,P1,⟨m0,hm0,po⟩,pb,pl⟩:=id hX;have pl0:=pl;rw [<- hm0] at pl0;replace hm0:=Lh hm0;obtain ⟨-,c1,c2,c3,c4,c5,-⟩:=qV P0;dsimp only at c1 c2 c3 c4 c5;have zX:=P1.lt;go_wp2;go_ret;exact hX.done HR.out
theorem vphrase_ (x:ChgM) (hc:vj x.c=0) (r:Int) (d sp:Bool) (p:Int) (con:Bool) (k:Int) (w:World) (B:Nat) (hB:B<=w.heap.size) (rd:Rd w B 3 x.A x.c.glyphs.length (qi x.c.glyphs)) (hcx:x.c.glyphs.length<=x.cap) (hmx:x.cap<=maxLen) (hp0:0<=p) (ht:Tb w) :
  Calls prog 26 #[jH x.c x.A x.cap,stV r d sp p con k] w (ql 9 1 id w (phraseL x.c ⟨d,sp,p⟩).length (sv (phraseL x.c ⟨d,sp,p⟩))):=by
 obtain ⟨hg,hgl,hk,hr⟩:=chk_gl hc;obtain ⟨⟨kind,row,col,count,til,g⟩,A,cap⟩:=x;simp only at hk hr hg hgl rd hcx hmx;unfold je at hr;simp only at hr
 by_cases h1:kind=1
 ·subst h1;rw [if_pos rfl,decide_eq_true_eq] at hr;exact qf3 row col count til g A cap r d sp p con k w ht hr
 ·by_cases h2:kind=2
  ·subst h2;rw [if_neg L2,if_pos rfl,decide_eq_true_eq] at hr;exact qgE row col count til g A cap r d sp p con k w ht ⟨hr.1,hr.2.1,by omega,by omega,by omega,by omega⟩
  ·by_cases h3:kind=3
   ·subst h3;rw [if_neg L2,if_neg L2,if_pos rfl,decide_eq_true_eq] at hr;exact qec row col count til g A cap r d sp p con k w ht hr B hg (fun x hx=>(gw_of (hgl x hx)).1) hcx hmx rd hB hp0
   ·obtain rfl:kind=4:=by omega
    rw [if_neg L2,if_neg L2,if_neg L2,decide_eq_true_eq] at hr;exact qeV row col count til g A cap r d sp p con k w ht ⟨hr.1,hr.2.1,hr.2.2.1,hr.2.2.2.1⟩
end Go.Proofs.YtbogmeeijdaijaaGreatDoor
