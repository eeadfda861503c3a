/- Joined: Rp3, Rn8, Rp4, Lv6, Lvo. -/
import Derived.Test.YtbogmeeijdaijaaGreatDoorZAP
import Derived.Test.YtbogmeeijdaijaaGreatDoorZDX
set_option linter.unusedVariables false
set_option linter.unusedSimpArgs false
set_option linter.unnecessarySimpa false
set_option maxHeartbeats 8000000
namespace Go.Proofs.YtbogmeeijdaijaaGreatDoor
open Go.Proofs.Tryz Go.RowKit
set_option maxRecDepth 20000
theorem qy:(prog.info? 165).map (fun x=>x.size)=some 3:=by kernel_rfl
theorem k8 {w:World} {g:Nat} {t:TypeId} {a b c a' b' c':Value} (h:Blk w g t #[a,b,c]) :
  Blk (((w.setCell ⟨g,0,none⟩ a').setCell ⟨g,1,none⟩ b').setCell ⟨g,2,none⟩ c') g t #[a',b',c']:=by
 have:=((h.set_ 0 a').set_ 1 b').set_ 2 c'
 simpa using this
theorem vU {B:Nat} {w w0:World} {g:Nat} {a' b' c':Value} (h:Below B w0 w) (hg:B<=g) :
  Below B w0 (((w.setCell ⟨g,0,none⟩ a').setCell ⟨g,1,none⟩ b').setCell ⟨g,2,none⟩ c'):=((h.setCell hg _).setCell hg _).setCell hg _
theorem qlv {w:World} {base size n g:Nat} {e:TypeId} {v:Value} {xs:List Value} {a' b' c':Value} (h:w.ownsRow base e size v n xs) (hp : ∀ k,v.ownBlock=some k->k≠g) :
  (((w.setCell ⟨g,0,none⟩ a').setCell ⟨g,1,none⟩ b').setCell ⟨g,2,none⟩ c').ownsRow base e size v n xs:=zy (zy (zy h hp _) hp _) hp _
section
variable {base : Nat} {v0 : Value} {w wx wy : World}
end
def TRt (base:Nat) (v0:Value) (w:World) (O:List Gl) (st:Int) (j:Bool) (F:Value->Value) (e:Ending) (w':World):Prop :=
 ∃ A c,e = .returned (F (.agg (tC (.slice A O.length c) st j)))/\w'.ownsRow base 64 3 (.slice A O.length c) O.length (qi O)/\BG base v0 w w'/\Sep w.heap.size v0 (.slice A O.length c)
theorem TX.copy {w wr:World} {base:Nat} {v0:Value} {O:List Gl} {A:Option Addr} {c:Nat} {v:Value} {st':Int} {j':Bool} (B1:Blk wr (w.heap.size+1) 165 (tC (.slice none 0 0) 0 false)) (ox:wr.ownsRow base 64 3 (.slice A O.length c) O.length (qi O))
  (hs:Sep w.heap.size v0 (.slice A O.length c)) (tx:BG base v0 w wr) (hb:base<=w.heap.size) :
  Blk (((wr.setCell ⟨w.heap.size+1,0,none⟩ v).setCell ⟨w.heap.size+1,1,none⟩ (.int .i64 st')).setCell ⟨w.heap.size+1,2,none⟩ (.bool j')) (w.heap.size+1) 165 (tC v st' j') /\
  (((wr.setCell ⟨w.heap.size+1,0,none⟩ v).setCell ⟨w.heap.size+1,1,none⟩ (.int .i64 st')).setCell ⟨w.heap.size+1,2,none⟩ (.bool j')).ownsRow base 64 3 (.slice A O.length c) O.length (qi O) /\
  BG base v0 w (((wr.setCell ⟨w.heap.size+1,0,none⟩ v).setCell ⟨w.heap.size+1,1,none⟩ (.int .i64 st')).setCell ⟨w.heap.size+1,2,none⟩ (.bool j')) :=
 ⟨k8 B1,qlv ox fun k hk=>(hs.ne k hk).2,((tx.set_ hb (Nat.le_succ _) _).set_ hb (Nat.le_succ _) _).set_ hb (Nat.le_succ _) _⟩
theorem qlf (O:List Gl) (st:Int) (J:Bool) (s:ByteArray) (hs:s.size<=1000000) (ho:O.length<=1000000000) (A:Option Addr) (c base:Nat) (w:World) (hb:base<=w.heap.size) (h:w.ownsRow base 64 3 (.slice A O.length c) O.length (qi O)) :
  Calls prog 143 #[.agg (tC (.slice A O.length c) st J),.string s] w (TRt base (.slice A O.length c) w (O++vm J st s) st true id):=by
 obtain ⟨O1,hO1⟩ : ∃ x,x=O++(if J=true then [chG st 32] else []):=⟨_,rfl⟩
 have hO1l:O1.length<=O.length+1:=by
  rw [hO1,Lf]
  split <;> simp
 have HE:Hid (O++vm J st s=O1++(s.data.toList.take s.data.toList.length).map (chG st)):=Lh (by rw [hO1,vm,List.take_length,List.append_assoc]);have HT:Hid (∀ j (h:j<s.size),O1++(s.data.toList.take (j+1)).map (chG st)=(O1++(s.data.toList.take j).map (chG st))++[chG st s[j]]):=Lh fun j h=>qjr O1 st _ j (by simpa using h)
 have HX:Hid (∀ j (h:j<s.size),s.extract j (j+1)=⟨#[s[j]]⟩):=Lh (qeF s);have HL:Hid (∀ j,(O1++(s.data.toList.take j).map (chG st)).length<=1000000001+j):=Lh fun j=>by
  rw [Lf,Lq,Lu]
  omega
 have HZ:Hid (s.data.toList.length=s.size):=Lh L1;have H0:Hid (O1=O1++(s.data.toList.take 0).map (chG st)):=Lh L1;generalize O++vm J st s=Q at *
 have hpn:=TX.new (st:=st) (j:=J) h hb;clear h;obtain ⟨v0,hv0⟩ : ∃ x,x=Value.slice A O.length c:=⟨_,rfl⟩
 have HV:=Lh hv0;rw [<- hv0] at hpn ⊢;clear hv0
 cases J with
 | false =>
  rw [if_neg L1,List.append_nil] at hO1;subst hO1;clear hO1l
  go_enter func143,ntmps143
  go_upto_region 1 with fail
  refine qa (TX w base v0 st false O1) hpn ?_;clear hpn;intro wx hpx;obtain ⟨A2,c2,B1,B2,ox,hs2,tx⟩:=id hpx;have c0:=B1.cell 0;have c1:=B1.cell 1;have c2:=B1.cell 2;have d0:=B2.cell 0;have d1:=B2.cell 1;have d2:=B2.cell 2;have f0:=B1.frozen 0;have f2:=B1.frozen 2;have g0:=B2.frozen 0;have g1:=B2.frozen 1;have g2:=B2.frozen 2;simp only [tC,La,Lb,Lc] at c0 c1 c2 d0 d1 d2;clear B1 B2 ox hs2 tx
  go_upto_region 3 with fail
  clear c0 c1 c2 d0 d1 d2 f0 f2 g0 g1 g2;go_wp2
  go_loopw [5] (fun x wr=>∃ j:Nat,j<=s.size/\x = .int .i64 j/\TX w base v0 st false (O1++(s.data.toList.take j).map (chG st)) wr) (fun x _=>s.size-(intOf x).toNat)
  case atStart=>exact ⟨0,Nat.zero_le _,rfl,by rw [<- H0.out];exact hpx⟩
  case round =>
   clear hpx;obtain ⟨j,hj,rfl,A6,c6,B1,B2,ox,hs6,tx⟩:=hrel;have zz:=B2.lt;have zg:=B1.lt
   by_cases hlt:j<s.size
   ·have hx:=HX.out j hlt;have HTj:=Lh (HT.out j hlt);have hlen:=HL.out j;have HQl:Hid ((O1++(s.data.toList.take (j+1)).map (chG st)).length=(O1++(s.data.toList.take j).map (chG st)).length+1):=Lh (by rw [HTj.out,Lf];rfl);have HQs:Hid (qi (O1++(s.data.toList.take (j+1)).map (chG st))=qi (O1++(s.data.toList.take j).map (chG st))++ym (chG st s[j])):=Lh (by rw [HTj.out,kF,qbe]);clear HTj HT HX HE H0 HL;generalize O1++(s.data.toList.take j).map (chG st)=OJ at *
    generalize s[j]=cj at *
    have c0:=B1.cell 0;have c1:=B1.cell 1;have c2:=B1.cell 2;have d0:=B2.cell 0;have d1:=B2.cell 1;have d2:=B2.cell 2;have f0:=B1.frozen 0;have f2:=B1.frozen 2;have g0:=B2.frozen 0;have g1:=B2.frozen 1;have g2:=B2.frozen 2;simp only [tC,La,Lb,Lc] at c0 c1 c2 d0 d1 d2;have HS6:=Lh hs6;have hown:=(World.ownsRow.alloc (qb ox (Le wr.heap.size wr).drew) (.cells (ym (chG st cj)).toArray 64))
    have BS1:=(Blk.alloc B1 (.cells (ym (chG st cj)).toArray 64)).drew;have BS2:=(Blk.alloc B2 (.cells (ym (chG st cj)).toArray 64)).drew;have hwj:IntKind.i64.wrap ((j:Int)+1)=(j:Int)+1:=by rw [Lx];omega
    have hj0:(0:Int)<=(j:Int)+1:=by omega
    have hj1:(j:Int)+1<=s.size:=by omega
    have hj2:(j:Int)<=(j:Int)+1:=by omega
    have hj3:((j:Int)+1).toNat=j+1:=by omega
    have tX:BG base v0 w (wr.alloc (.cells (ym (chG st cj)).toArray 64)).drew:=(tx.alloc hb _).drew hb;clear hs6
    go_upto_region 6 with fail
    go_region_law (refine jZ rfl _ _ _ rfl qbz (base) _ rfl (hown) _ _ rfl ((qe (xs:=ym (chG st cj)) rfl rfl)) (rfl) ?_;intro A4 c4 w4 hown4 hbel4 hgr4 hat4;have z4:=hbel4.size;(try simp only [Lo,Lg] at hown4);have B4:=BS1.grown hgr4 (qh7 fun k hk=>(HS6.out.ne k hk).1);have c42:=B4.cell 0;have f42:=B4.frozen 0;simp only [tC,La,Lb,Lc] at c42)
    all_goals go_wp2
    all_goals exact ⟨⟨j+1,by omega,by go_num,TX.put BS1 BS2 HS6.out tX hb hown4 hbel4 hgr4 hat4 HQl.out HQs.out⟩,by simp [intOf];omega⟩
   ·obtain rfl:j=s.size:=by omega
    have HQ:Hid (Q=O1++(s.data.toList.take s.size).map (chG st)):=Lh (by rw [HE.out,HZ.out]);rw [<- HQ.out] at B1 ox hs6;clear HT HX HE H0 HL HQ;have c0:=B1.cell 0;have c1:=B1.cell 1;have c2:=B1.cell 2;have d0:=B2.cell 0;have d1:=B2.cell 1;have d2:=B2.cell 2;have f0:=B1.frozen 0;have f2:=B1.frozen 2;have g0:=B2.frozen 0;have g1:=B2.frozen 1;have g2:=B2.frozen 2;simp only [tC,La,Lb,Lc] at c0 c1 c2 d0 d1 d2;have o7:=zy ox (p:=⟨w.heap.size,2,none⟩) (fun k hk=>(hs6.ne k hk).1) (.bool true);have R:=TX.copy (v:=.slice A6 Q.length c6) (st':=st) (j':=true) (B2.far (p:=⟨w.heap.size,2,none⟩) L7 (.bool true)) o7 hs6 (tx.set_ (p:=⟨w.heap.size,2,none⟩) hb (Ld _) (.bool true)) hb;go_wp2;exact bodyPost_ret (results_cell_row rfl _ _ (w.heap.size+1) 165 _ (0,0) _ rfl R.1 underlying165 rfl qy) rfl ⟨A6,c6,rfl,R.2.1,R.2.2,hs6⟩
 | true =>
  rw [if_pos rfl] at hO1;have hO1l':O1.length=O.length+1:=by rw [hO1];simp
  have hO1s:qi O1=qi O++ym (chG st 32):=by rw [hO1,kF,qbe]
  replace hO1:=Lh hO1
  go_enter func143,ntmps143
  go_upto_region 1 with fail
  refine qa (TX w base v0 st true O) hpn ?_;clear hpn;intro wx hpx;obtain ⟨A2,c2,B1,B2,ox,hs2,tx⟩:=hpx;have c0:=B1.cell 0;have c1:=B1.cell 1;have c2:=B1.cell 2;have d0:=B2.cell 0;have d1:=B2.cell 1;have d2:=B2.cell 2;have f0:=B1.frozen 0;have f2:=B1.frozen 2;have g0:=B2.frozen 0;have g1:=B2.frozen 1;have g2:=B2.frozen 2;simp only [tC,La,Lb,Lc] at c0 c1 c2 d0 d1 d2
  go_upto_if 7 with fail
  go_cut [] (fun wx=>TX w base v0 st true O1 wx)
  case first =>
   clear HE HT HX HL HZ H0;have HS6:=Lh hs2;have zz:=B2.lt;have zg:=B1.lt;clear hs2;have hown:=(World.ownsRow.alloc ox (.cells (ym (chG st 32)).toArray 64))
   have BS1:=(Blk.alloc B1 (.cells (ym (chG st 32)).toArray 64))
   have BS2:=(Blk.alloc B2 (.cells (ym (chG st 32)).toArray 64))
   have tX:=tx.alloc hb (.cells (ym (chG st 32)).toArray 64)
   go_wp2_with ((at_builtin;go_must (refine qg rfl _ _ _ rfl qbz (base) _ rfl (hown) _ _ rfl ((qe (xs:=ym (chG st 32)) rfl rfl)) ?_);intro A4 c4 w4 hown4 hbel4 hgr4 hat4;have z4:=hbel4.size;(try simp only [Li] at z4);(try simp only [Lo,Lg] at hown4));have B4:=BS1.grown hgr4 (qh7 fun k hk=>(HS6.out.ne k hk).1);have c42:=B4.cell 0;have f42:=B4.frozen 0;simp only [tC,La,Lb,Lc] at c42)
   go_meet;exact TX.put BS1 BS2 HS6.out tX hb hown4 hbel4 hgr4 hat4 hO1l' hO1s
  case rest =>
   clear B1 B2 ox hs2 tx c0 c1 c2 d0 d1 d2 f0 f2 g0 g1 g2;have hpx:=hcut;clear hcut;go_wp2
   go_loopw [5] (fun x wr=>∃ j:Nat,j<=s.size/\x = .int .i64 j/\TX w base v0 st true (O1++(s.data.toList.take j).map (chG st)) wr) (fun x _=>s.size-(intOf x).toNat)
   case atStart=>exact ⟨0,Nat.zero_le _,rfl,by rw [<- H0.out];exact hpx⟩
   case round =>
    clear hpx;obtain ⟨j,hj,rfl,A6,c6,B1,B2,ox,hs6,tx⟩:=hrel;have zz:=B2.lt;have zg:=B1.lt
    by_cases hlt:j<s.size
    ·have hx:=HX.out j hlt;have HTj:=Lh (HT.out j hlt);have hlen:=HL.out j;have HQl:Hid ((O1++(s.data.toList.take (j+1)).map (chG st)).length=(O1++(s.data.toList.take j).map (chG st)).length+1):=Lh (by rw [HTj.out,Lf];rfl);have HQs:Hid (qi (O1++(s.data.toList.take (j+1)).map (chG st))=qi (O1++(s.data.toList.take j).map (chG st))++ym (chG st s[j])):=Lh (by rw [HTj.out,kF,qbe]);clear HTj HT HX HE H0 HL;generalize O1++(s.data.toList.take j).map (chG st)=OJ at *
     generalize s[j]=cj at *
     have c0:=B1.cell 0;have c1:=B1.cell 1;have c2:=B1.cell 2;have d0:=B2.cell 0;have d1:=B2.cell 1;have d2:=B2.cell 2;have f0:=B1.frozen 0;have f2:=B1.frozen 2;have g0:=B2.frozen 0;have g1:=B2.frozen 1;have g2:=B2.frozen 2;simp only [tC,La,Lb,Lc] at c0 c1 c2 d0 d1 d2;have HS6:=Lh hs6;have hown:=(World.ownsRow.alloc (qb ox (Le wr.heap.size wr).drew) (.cells (ym (chG st cj)).toArray 64))
     have BS1:=(Blk.alloc B1 (.cells (ym (chG st cj)).toArray 64)).drew;have BS2:=(Blk.alloc B2 (.cells (ym (chG st cj)).toArray 64)).drew;have hwj:IntKind.i64.wrap ((j:Int)+1)=(j:Int)+1:=by rw [Lx];omega
     have hj0:(0:Int)<=(j:Int)+1:=by omega
     have hj1:(j:Int)+1<=s.size:=by omega
     have hj2:(j:Int)<=(j:Int)+1:=by omega
     have hj3:((j:Int)+1).toNat=j+1:=by omega
     have tX:BG base v0 w (wr.alloc (.cells (ym (chG st cj)).toArray 64)).drew:=(tx.alloc hb _).drew hb;clear hs6
     go_upto_region 6 with fail
     go_region_law (refine jZ rfl _ _ _ rfl qbz (base) _ rfl (hown) _ _ rfl ((qe (xs:=ym (chG st cj)) rfl rfl)) (rfl) ?_;intro A4 c4 w4 hown4 hbel4 hgr4 hat4;have z4:=hbel4.size;(try simp only [Lo,Lg] at hown4);have B4:=BS1.grown hgr4 (qh7 fun k hk=>(HS6.out.ne k hk).1);have c42:=B4.cell 0;have f42:=B4.frozen 0;simp only [tC,La,Lb,Lc] at c42)
     all_goals go_wp2
     all_goals exact ⟨⟨j+1,by omega,by go_num,TX.put BS1 BS2 HS6.out tX hb hown4 hbel4 hgr4 hat4 HQl.out HQs.out⟩,by simp [intOf];omega⟩
    ·obtain rfl:j=s.size:=by omega
     have HQ:Hid (Q=O1++(s.data.toList.take s.size).map (chG st)):=Lh (by rw [HE.out,HZ.out]);rw [<- HQ.out] at B1 ox hs6;clear HT HX HE H0 HL HQ;have c0:=B1.cell 0;have c1:=B1.cell 1;have c2:=B1.cell 2;have d0:=B2.cell 0;have d1:=B2.cell 1;have d2:=B2.cell 2;have f0:=B1.frozen 0;have f2:=B1.frozen 2;have g0:=B2.frozen 0;have g1:=B2.frozen 1;have g2:=B2.frozen 2;simp only [tC,La,Lb,Lc] at c0 c1 c2 d0 d1 d2;have o7:=zy ox (p:=⟨w.heap.size,2,none⟩) (fun k hk=>(hs6.ne k hk).1) (.bool true);have R:=TX.copy (v:=.slice A6 Q.length c6) (st':=st) (j':=true) (B2.far (p:=⟨w.heap.size,2,none⟩) L7 (.bool true)) o7 hs6 (tx.set_ (p:=⟨w.heap.size,2,none⟩) hb (Ld _) (.bool true)) hb;go_wp2;exact bodyPost_ret (results_cell_row rfl _ _ (w.heap.size+1) 165 _ (0,0) _ rfl R.1 underlying165 rfl qy) rfl ⟨A6,c6,rfl,R.2.1,R.2.2,hs6⟩
theorem rsplit1 (r:Nat) (hr:qR r) (hw:1<=zR (r:Int)) (A:Option Addr) (c B:Nat) (w:World) (rd:Rd w B 1 A 1 (chV [r])) (hB:B<=w.heap.size) :
  Calls prog 172 #[.slice A 1 c] w (ql 9 1 id w 1 (sv [kt r])):=by
 obtain ⟨b,o,rfl,hbB,hc⟩:=rd.2 L0;have hcell:w.cell? ⟨b,o,none⟩=some (.int .i32 (r:Int)):=hc 0 _ rfl;have HM:=Lh (qlD (r:Int));have HW:=Lh (qlk (r:Int));have hm:inT qM (r:Int)=false:=by
  cases h:inT qM (r:Int) with
  | false=>rfl
  | true=>have:=qlR h;omega
 have HE:=Lh (qlp r hr);rw [hm] at HM;generalize zR (r:Int)=W at *
 generalize kt r=E at *
 clear hc rd hm
 go_enter func172,ntmps172
 go_wp2
 go_loopw [3,4,5] (fun v _ x wr=>∃ k:Nat,k<=1/\x = .int .i64 k/\Below w.heap.size w wr/\((k=0/\v = .slice none 0 0)∨(k=1/\∃ A' c',v = .slice A' 1 c'/\wr.ownsRow w.heap.size 9 1 (.slice A' 1 c') 1 (sv [E])))) (fun _ _ x _=>1-(intOf x).toNat)
 case atStart=>exact ⟨0,by omega,rfl,Le _ _,.inl ⟨rfl,rfl⟩⟩
 case round =>
  obtain ⟨k,hk,rfl,hbel,hcase⟩:=hrel
  rcases hcase with ⟨rfl,rfl⟩ | ⟨rfl,A',c',rfl,hown⟩
  ·have hcell2:=(hbel.cell (by omega:b<w.heap.size)).trans hcell;have z0:=hbel.size
   go_wp2_with (first
    | (go_at_call 113;refine (HM.out _).mono ?_;rintro e w3 ⟨rfl,hbel3⟩;have t3:=hbel.trans (hbel3.mono z0);have hcell3:=(t3.cell (by omega:b<w.heap.size)).trans hcell)
    | (go_at_call 114;refine (HW.out _).mono ?_;rintro e w4 ⟨rfl,hbel4⟩;have t4:=t3.trans (hbel4.mono t3.size);have hcell4:=(t4.cell (by omega:b<w.heap.size)).trans hcell)
    | (go_at_call 184;refine (HE.out _).mono ?_;rintro e w5 ⟨rfl,hbel5⟩;have t5:=t4.trans (hbel5.mono t4.size);have z5:=t5.size)
    | (at_builtin;go_must (refine qg rfl _ _ _ rfl qp (w.heap.size) _ rfl (zY _ _ _ _) _ _ rfl ((qe (by rfl) rfl)) ?_);intro A6 c6 w6 hown6 hbel6 hgr6 hat6;have z6:=hbel6.size;(try simp only [Li] at z6);(try simp only [Lo,Lg] at hown6)))
   exact ⟨⟨1,by omega,by go_num,(t5.alloc z5 _).trans hbel6,.inr ⟨rfl,A6,c6,rfl,hown6⟩⟩,by simp [intOf]⟩
  ·go_wp2;go_ret;exact ⟨A',c',rfl,hown,hbel⟩
theorem TX.mark {w X:World} {base c k Gr:Nat} {v0:Value} {st:Int} {j:Bool} {O:List Gl} {s:ByteArray} (hk:k<O.length)
  (B1:Blk X w.heap.size 165 (tC (.slice (some ⟨Gr,0,none⟩) O.length c) st j)) (B2:Blk X (w.heap.size+1) 165 (tC (.slice none 0 0) 0 false)) (hs:Sep w.heap.size v0 (.slice (some ⟨Gr,0,none⟩) O.length c))
  (o:X.ownsRow base 64 3 (.slice (some ⟨Gr,0,none⟩) O.length c) O.length (qi O)) (tX:BG base v0 w X) :
  TX w base v0 st j (O.set k ⟨s,O[k].wide,O[k].style⟩) (X.setCell ⟨Gr,k * 3,none⟩ (.string s)):=by
 have hg:=hs.ne Gr rfl;have hbg:=(qlT o).1;have o5:=qme o (show k * 3<O.length * 3 by omega) (.string s);rw [qdT O k hk s] at o5;refine ⟨some ⟨Gr,0,none⟩,c,?_,B2.far (p:=⟨Gr,k * 3,none⟩) L7 _,?_,?_,tX.grown (v:=.slice (some ⟨Gr,0,none⟩) O.length c) ((Le _ _).setCell (p:=⟨Gr,k * 3,none⟩) hbg _) (qio X ⟨Gr,k * 3,none⟩ _) hs⟩
 ·rw [List.length_set];exact B1.far (p:=⟨Gr,k * 3,none⟩) L7 _
 ·rw [List.length_set];exact o5
 ·rw [List.length_set];exact hs
theorem radd (O:List Gl) (st:Int) (J:Bool) (r:Nat) (hr:qR r) (times:Nat) (ht:times<=132) (ho:O.length<=1000000000) (hot : ∀ x∈O,x.text.size<=8000000) (A:Option Addr) (c base:Nat) (w:World) (hb:base<=w.heap.size) (h:w.ownsRow base 64 3 (.slice A O.length c) O.length (qi O)) :
  Calls prog 146 #[.agg (tC (.slice A O.length c) st J),.int .i32 (r:Int),.int .i64 times] w (TRt base (.slice A O.length c) w (vV O st (r:Int) times).2 st J (fun v=>.tuple #[v,.bool (vV O st (r:Int) times).1])):=by
 have HW:=Lh (qlk (r:Int));have hpn:=TX.new (st:=st) (j:=J) h hb;clear h;obtain ⟨v0,hv0⟩ : ∃ x,x=Value.slice A O.length c:=⟨_,rfl⟩
 have HV:=Lh hv0;rw [<- hv0] at hpn ⊢;clear hv0
 by_cases hw0:zR (r:Int)<0
 ·rw [qmd hw0];have hz:(zR (r:Int)==0)=false:=Lm.2 L0;generalize zR (r:Int)=WL at *
  generalize (r:Int)=R at *
  go_enter func146,ntmps146
  go_upto_region 1 with fail
  refine qa (TX w base v0 st J O) hpn ?_;clear hpn;intro X hX
  go_upto_region 2 with (go_at_call 114;refine (HW.out X).mono ?_;rintro e w1 ⟨rfl,hb1⟩;have hT:=hX.below hb1 hb)
  obtain ⟨A6,c6,B1,B2,ox,hs6,tx⟩:=hT;have c0:=B1.cell 0;have c1:=B1.cell 1;have c2:=B1.cell 2;have d0:=B2.cell 0;have d1:=B2.cell 1;have d2:=B2.cell 2;have f0:=B1.frozen 0;have f2:=B1.frozen 2;have g0:=B2.frozen 0;have g1:=B2.frozen 1;have g2:=B2.frozen 2;simp only [tC,La,Lb,Lc] at c0 c1 c2 d0 d1 d2;have R:=TX.copy (v:=.slice A6 O.length c6) (st':=st) (j':=J) B2 ox hs6 tx hb;go_wp2;exact bodyPost_ret (vG rfl _ _ (w.heap.size+1) 165 _ (0,0) _ rfl R.1 underlying165 rfl qy) rfl ⟨A6,c6,rfl,R.2.1,R.2.2,hs6⟩
 ·by_cases hw1:zR (r:Int)=0
  ·by_cases hmany:1<times
   ·rw [qjE hw1 hmany];generalize zR (r:Int)=WL at *
    generalize (r:Int)=R at *
    have i1:(1:Int)<times:=by omega
    subst hw1
    go_enter func146,ntmps146
    go_upto_region 1 with fail
    refine qa (TX w base v0 st J O) hpn ?_;clear hpn;intro X hX
    go_upto_region 2 with (go_at_call 114;refine (HW.out X).mono ?_;rintro e w1 ⟨rfl,hb1⟩;have hT:=hX.below hb1 hb)
    obtain ⟨A6,c6,B1,B2,ox,hs6,tx⟩:=hT;have c0:=B1.cell 0;have c1:=B1.cell 1;have c2:=B1.cell 2;have d0:=B2.cell 0;have d1:=B2.cell 1;have d2:=B2.cell 2;have f0:=B1.frozen 0;have f2:=B1.frozen 2;have g0:=B2.frozen 0;have g1:=B2.frozen 1;have g2:=B2.frozen 2;simp only [tC,La,Lb,Lc] at c0 c1 c2 d0 d1 d2;have R:=TX.copy (v:=.slice A6 O.length c6) (st':=st) (j':=J) B2 ox hs6 tx hb;go_wp2;exact bodyPost_ret (vG rfl _ _ (w.heap.size+1) 165 _ (0,0) _ rfl R.1 underlying165 rfl qy) rfl ⟨A6,c6,rfl,R.2.1,R.2.2,hs6⟩
   ·cases hO:O with
    | nil =>
     subst hO;rw [qiO hw1];generalize zR (r:Int)=WL at *
     generalize (r:Int)=R at *
     have i1 : ¬ (1:Int)<times:=by omega
     subst hw1;simp only [List.length_nil] at hpn ⊢
     go_enter func146,ntmps146
     go_upto_region 1 with fail
     refine qa (TX w base v0 st J ([]:List Gl)) hpn ?_;clear hpn;intro X hX
     go_upto_region 2 with (go_at_call 114;refine (HW.out X).mono ?_;rintro e w1 ⟨rfl,hb1⟩;have hT:=hX.below hb1 hb)
     obtain ⟨A6,c6,B1,B2,ox,hs6,tx⟩:=hT;have c0:=B1.cell 0;have c1:=B1.cell 1;have c2:=B1.cell 2;have d0:=B2.cell 0;have d1:=B2.cell 1;have d2:=B2.cell 2;have f0:=B1.frozen 0;have f2:=B1.frozen 2;have g0:=B2.frozen 0;have g1:=B2.frozen 1;have g2:=B2.frozen 2;simp only [tC,La,Lb,Lc] at c0 c1 c2 d0 d1 d2;have R:=TX.copy (v:=.slice A6 ([]:List Gl).length c6) (st':=st) (j':=J) B2 ox hs6 tx hb;go_wp2;exact bodyPost_ret (vG rfl _ _ (w.heap.size+1) 165 _ (0,0) _ rfl R.1 underlying165 rfl qy) rfl ⟨A6,c6,rfl,R.2.1,R.2.2,hs6⟩
    | cons x O' =>
     have hk : ∃ k,k+1=O.length:=⟨O'.length,by rw [hO];simp⟩
     rw [<- hO];clear hO;obtain ⟨k,hk⟩:=hk;rw [qjh hw1 hmany k hk];have htx:=hot (O[k]'(by omega)) (Lt _);have hkl:k<O.length:=by omega
     have HCell:Hid (∀ (w':World) (A:Option Addr) (c:Nat),w'.ownsRow base 64 3 (.slice A O.length c) O.length (qi O)->∃ G,A=some ⟨G,0,none⟩/\w'.cell? ⟨G,k * 3,none⟩=some (.string (O[k]'hkl).text)):=Lh fun w' A c ho=>by
      obtain ⟨b,o,rfl,_,a0,_⟩:=jE (Rd.of_own ho) hkl rfl;have hz:o=0:=by
       rcases ho.2 with ⟨h0,_⟩ | ⟨g',cap,cur,hv,_⟩
       ·cases h0
       ·simp only [Value.slice.injEq,Option.some.injEq,Addr.mk.injEq,and_true] at hv;exact hv.1.2
      subst hz;rw [Lo] at a0;exact ⟨b,rfl,a0⟩
     have HAt:=Lh (fun w'=>rattach (O[k]'hkl).text (Lj htx L2) r hr w')
     have HMk:Hid (∀ (X:World) (c Gr:Nat) (s:ByteArray),Blk X w.heap.size 165 (tC (.slice (some ⟨Gr,0,none⟩) O.length c) st J)->Blk X (w.heap.size+1) 165 (tC (.slice none 0 0) 0 false)->Sep w.heap.size v0 (.slice (some ⟨Gr,0,none⟩) O.length c) ->
       X.ownsRow base 64 3 (.slice (some ⟨Gr,0,none⟩) O.length c) O.length (qi O)->BG base v0 w X->TX w base v0 st J (O.set k ⟨s,(O[k]'hkl).wide,(O[k]'hkl).style⟩) (X.setCell ⟨Gr,k * 3,none⟩ (.string s))):=Lh fun X c Gr s b1 b2 hs o tX=>TX.mark hkl b1 b2 hs o tX
     have hk9:k<=1000000000:=by omega
     have hk3:k * 3<O.length * 3:=by omega
     generalize (O[k]'hkl)=x at *
     obtain ⟨tx,wd,sx⟩:=x;dsimp only at *
     generalize ye tx (r:Int)=AT at *
     obtain ⟨S,E⟩:=AT;simp only [attV] at HAt;dsimp only;have HNL:Hid (O.length=k+1):=Lh hk.symm;generalize hOS:O.set k ⟨S,wd,sx⟩=OS at *
     have HOS:=Lh hOS;clear hot hkl htx ho hr hk hOS;generalize zR (r:Int)=WL at *
     generalize (r:Int)=R at *
     have i1 : ¬ (1:Int)<times:=by omega
     subst hw1;have hk0:(0:Int)<=k:=by omega
     have hkn:(k:Int)<(k:Int)+1:=by omega
     have hkw:IntKind.i64.wrap ((k:Int)+1-1)=(k:Int):=by rw [Lx];omega
     have hkz:((k:Int)+1==0)=false:=Lm.2 L0
     go_enter func146,ntmps146
     go_upto_region 1 with fail
     refine qa (TX w base v0 st J O) hpn ?_;clear hpn;intro X hX
     go_upto_region 2 with (go_at_call 114;refine (HW.out X).mono ?_;rintro e w1 ⟨rfl,hb1⟩;have hT:=hX.below hb1 hb)
     have hnl:=HNL.out;obtain ⟨A3,c3,B1,B2,o3,hs3,t3⟩:=hT;obtain ⟨G,rfl,hcG⟩:=HCell.out _ _ _ o3;have hG:=hs3.ne G rfl;have zz:=B2.lt;have c0:=B1.cell 0;have c1:=B1.cell 1;have c2:=B1.cell 2;have d0:=B2.cell 0;have d1:=B2.cell 1;have d2:=B2.cell 2;have f0:=B1.frozen 0;have f2:=B1.frozen 2;have g0:=B2.frozen 0;have g1:=B2.frozen 1;have g2:=B2.frozen 2;simp only [tC,La,Lb,Lc] at c0 c1 c2 d0 d1 d2;rw [hnl] at c0
     go_upto_region 7 with (go_at_call 171;refine (HAt.out w1).mono ?_;rintro e w2 ⟨rfl,hb2⟩)
     clear c0 c1 c2 d0 d1 d2 f0 f2 g0 g1 g2;replace B1:=B1.below hb2 B1.lt;replace B2:=B2.below hb2 B2.lt;have o4:=qb o3 hb2;have t4:=t3.below hb2 hb;obtain ⟨hgG,_,_,cur,BG⟩:=qlT o4;have FG:=BG.frozen (k * 3);obtain ⟨G',eG,hcG'⟩:=HCell.out _ _ _ o4;obtain rfl:G=G':=(by simpa using eG)
     have c0:=B1.cell 0;have c1:=B1.cell 1;have c2:=B1.cell 2;have d0:=B2.cell 0;have d1:=B2.cell 1;have d2:=B2.cell 2;have f0:=B1.frozen 0;have f2:=B1.frozen 2;have g0:=B2.frozen 0;have g1:=B2.frozen 1;have g2:=B2.frozen 2;simp only [tC,La,Lb,Lc] at c0 c1 c2 d0 d1 d2;rw [hnl] at c0;have hT:=HMk.out _ _ _ S B1 B2 hs3 o4 t4;rw [HOS.out] at hT
     go_upto_region 8 with fail
     clear c0 c1 c2 d0 d1 d2 f0 f2 g0 g1 g2 B1 B2;obtain ⟨A6,c6,B1,B2,ox,hs6,tx⟩:=hT;have c0:=B1.cell 0;have c1:=B1.cell 1;have c2:=B1.cell 2;have d0:=B2.cell 0;have d1:=B2.cell 1;have d2:=B2.cell 2;have f0:=B1.frozen 0;have f2:=B1.frozen 2;have g0:=B2.frozen 0;have g1:=B2.frozen 1;have g2:=B2.frozen 2;simp only [tC,La,Lb,Lc] at c0 c1 c2 d0 d1 d2;have R:=TX.copy (v:=.slice A6 OS.length c6) (st':=st) (j':=J) B2 ox hs6 tx hb;go_wp2;exact bodyPost_ret (vG rfl _ _ (w.heap.size+1) 165 _ (0,0) _ rfl R.1 underlying165 rfl qy) rfl ⟨A6,c6,rfl,R.2.1,R.2.2,hs6⟩
  ·have hw2:1<=zR (r:Int):=by omega
   have HSp:Hid (∀ wr:World,Calls prog 172 #[.slice (some ⟨wr.heap.size,0,none⟩) 1 1] (wr.alloc (.cells #[.int .i32 (r:Int)] 21)).drew (ql 9 1 id (wr.alloc (.cells #[.int .i32 (r:Int)] 21)).drew 1 (sv [kt r]))):=Lh fun wr =>
    rsplit1 r hr hw2 _ 1 (wr.heap.size+1) _ (qeI wr r 21) (by show wr.heap.size+1<=(wr.alloc _).heap.size;simp)
   rw [qjZ hw2];have HGl:Hid ((⟨kt r,decide (zR (r:Int)=2),st⟩:Gl)=⟨kt r,zR (r:Int)==2,st⟩):=Lh rfl;rw [HGl.out];have HRn:Hid (∀ j,O++List.replicate (j+1) (⟨kt r,zR (r:Int)==2,st⟩:Gl)=(O++List.replicate j ⟨kt r,zR (r:Int)==2,st⟩)++[⟨kt r,zR (r:Int)==2,st⟩]):=Lh fun j=>by rw [List.replicate_succ',List.append_assoc]
   have HLn:Hid (∀ j,j<=times->(O++List.replicate j (⟨kt r,zR (r:Int)==2,st⟩:Gl)).length<=1000000132):=Lh fun j hj=>by rw [Lf,List.length_replicate];omega
   have hz0:(zR (r:Int)==0)=false:=Lm.2 hw1;have hn0:decide (zR (r:Int)<0)=false:=Lk hw0;clear hr hot hw2 HGl hw0 hw1;generalize hWL:zR (r:Int)=WL at *
   generalize kt r=EB at *
   generalize hGL:(⟨EB,WL==2,st⟩:Gl)=GL at *
   replace hGL:=Lh hGL;generalize (r:Int)=R at *
   clear hWL
   go_enter func146,ntmps146
   go_upto_region 1 with fail
   refine qa (TX w base v0 st J O) hpn ?_;clear hpn;intro X hX
   go_upto_region 2 with (go_at_call 114;refine (HW.out X).mono ?_;rintro e w1 ⟨rfl,hb1⟩;have hT:=hX.below hb1 hb)
   go_upto_region 9 with fail
   clear hX hb1;go_wp2
   go_loopw [12] (fun x wr=>∃ j:Nat,j<=times/\x = .int .i64 j/\TX w base v0 st J (O++List.replicate j GL) wr) (fun x _=>times-(intOf x).toNat)
   case atStart=>exact ⟨0,Nat.zero_le _,rfl,by rw [List.replicate_zero,List.append_nil];exact hT⟩
   case round =>
    clear hT;obtain ⟨j,hj,rfl,hT⟩:=hrel
    by_cases hlt:j<times
    ·have hlen:=HLn.out j hj;have HQl:Hid ((O++List.replicate (j+1) GL).length=(O++List.replicate j GL).length+1):=Lh (by rw [HRn.out j,Lf];rfl);have HQs:Hid (qi (O++List.replicate (j+1) GL)=qi (O++List.replicate j GL)++ym GL):=Lh (by rw [HRn.out j,kF,qbe]);clear HRn HLn HW;generalize O++List.replicate j GL=OJ at *
     obtain ⟨A6,c6,B1,B2,ox,hs6,tx⟩:=hT;have HS6:=Lh hs6;have zz:=B2.lt;have zg:=B1.lt;have c0:=B1.cell 0;have c1:=B1.cell 1;have c2:=B1.cell 2;have d0:=B2.cell 0;have d1:=B2.cell 1;have d2:=B2.cell 2;have f0:=B1.frozen 0;have f2:=B1.frozen 2;have g0:=B2.frozen 0;have g1:=B2.frozen 1;have g2:=B2.frozen 2;simp only [tC,La,Lb,Lc] at c0 c1 c2 d0 d1 d2;have HE:=Lh (HSp.out wr);have o0:=qb (World.ownsRow.alloc ox (.cells #[.int .i32 R] 21)) (Le _ _).drew;have B10:=(Blk.alloc B1 (.cells #[.int .i32 R] 21)).drew;have B20:=(Blk.alloc B2 (.cells #[.int .i32 R] 21)).drew;have t0:BG base v0 w (wr.alloc (.cells #[.int .i32 R] 21)).drew:=(tx.alloc hb _).drew hb;have hG:=hGL.out;subst hG;clear hGL hs6
     go_upto_region 12 with fail
     go_region_law (first
      | (go_simp;go_at_call 172;refine HE.out.mono ?_;rintro e w5 ⟨A5,c5,rfl,o5s,hb5⟩;obtain ⟨Bs,Os,rfl,_,hcs⟩:=(Rd.of_own o5s).at_ (Nat.succ_pos _);rw [yM _ _ (Nat.succ_pos _),Nat.add_zero] at hcs;have B15:=B10.below hb5 B10.lt;have B25:=B20.below hb5 B20.lt;have z5:w.heap.size+1<w5.heap.size:=B25.lt;have z6:w.heap.size<w5.heap.size:=B15.lt;have o5:=qb o0 hb5;have t5:=t0.below hb5 hb;have c50:=B15.cell 0;have c51:=B15.cell 1;simp only [tC,La,Lb,Lc] at c50 c51)
      | (refine jZ rfl _ _ _ rfl qbz (base) _ rfl ((o5.alloc _)) _ _ rfl ((qe (xs:=ym ⟨EB,WL==2,st⟩) rfl rfl)) (rfl) ?_;intro A4 c4 w4 hown4 hbel4 hgr4 hat4;have z4:=hbel4.size;(try simp only [Lo,Lg] at hown4);have B4:=(Blk.alloc B15 (.cells (ym ⟨EB,WL==2,st⟩).toArray 64)).grown hgr4 (qh7 fun k hk=>(HS6.out.ne k hk).1);have c42:=B4.cell 0;have f42:=B4.frozen 0;simp only [tC,La,Lb,Lc] at c42))
     all_goals go_wp2
     all_goals exact ⟨⟨j+1,by omega,by go_num,TX.put (Blk.alloc B15 _) (Blk.alloc B25 _) HS6.out (t5.alloc hb _) hb hown4 hbel4 hgr4 hat4 HQl.out HQs.out⟩,by simp [intOf];omega⟩
    ·obtain rfl:j=times:=by omega
     clear HRn HLn HW HSp;obtain ⟨OJ,hOJ⟩ : ∃ x,x=O++List.replicate j GL:=⟨_,rfl⟩
     rw [<- hOJ] at hT;have HOJ:=Lh hOJ;clear hOJ;obtain ⟨A6,c6,B1,B2,ox,hs6,tx⟩:=hT;have c0:=B1.cell 0;have c1:=B1.cell 1;have c2:=B1.cell 2;have d0:=B2.cell 0;have d1:=B2.cell 1;have d2:=B2.cell 2;have f0:=B1.frozen 0;have f2:=B1.frozen 2;have g0:=B2.frozen 0;have g1:=B2.frozen 1;have g2:=B2.frozen 2;simp only [tC,La,Lb,Lc] at c0 c1 c2 d0 d1 d2;have R:=TX.copy (v:=.slice A6 OJ.length c6) (st':=st) (j':=J) B2 ox hs6 tx hb;go_wp2;rw [<- HOJ.out];exact bodyPost_ret (vG rfl _ _ (w.heap.size+1) 165 _ (0,0) _ rfl R.1 underlying165 rfl qy) rfl ⟨A6,c6,rfl,R.2.1,R.2.2,hs6⟩
theorem qjk (v:Vw) (A:Option Addr) (n c B:Nat) (rs:List RowM) (w:World) (rd:RdV w B v A n c rs) (hB:B<=w.heap.size) (hz : ∀ x∈rs,x.l.length<=1000000000/\∀ g∈x.l,g.text.size<=1000000000) :
  Calls prog 28 #[.agg (vwC v A n c)] w (qh (.int .i64 (js v)) w):=by
 have HN:=Lh rd.1.len;have hnm:n<=9223372036854775807:=by have h1:=rd.2.2.1;have h2:=rd.2.2.2;unfold maxLen at h2;omega
 have HRL:Hid (v.rows=rls rs):=Lh rd.2.1;have HA:Hid (∀ k (hk:k<rs.length) w',Below w.heap.size w w'->∃ b o,A=some ⟨b,o,none⟩/\b<w.heap.size/\w'.cell? ⟨b,o+k,none⟩=some (.slice rs[k].A rs[k].l.length rs[k].cap)):=Lh fun k hk w' hb=>((rd.1.more hB).below hb).at_ hk
 have HG:Hid (∀ x∈rs,∀ w',Below w.heap.size w w'->Rd w' w.heap.size 3 x.A x.l.length (qi x.l)):=Lh fun x hx w' hb=>(((rd.1.gl x hx).1.more hB).below hb)
 have HX:Hid (∀ x∈rs,x.l.length<=1000000000/\∀ g∈x.l,g.text.size<=1000000000):=Lh hz;have HS:Hid (∀ k,k<rs.length->(rls rs).drop k=(rls rs).getD k []::(rls rs).drop (k+1)):=Lh fun k hk=>by
  rw [Ls (by rw [vJ];exact hk),List.getD_eq_getElem?_getD,List.getElem?_eq_getElem (by rw [vJ];exact hk)]
  rfl
 unfold js;rw [HRL.out,vJ,HN.out];clear rd hz;obtain ⟨W,Hh,rows,row,col,vis⟩:=v;dsimp only at *
 have HV:Hid (∀ x∈rs,∀ g∈x.l,∀ w',Calls prog 53 #[glV g] w' (qh (.int .i64 (qJ g)) w')):=Lh fun x hx g hg w'=>qky g ((HX.out x hx).2 g hg) w'
 have HWd:Hid (∀ x∈rs,∀ w',Below w.heap.size w w'->Calls prog 48 #[.slice x.A x.l.length x.cap] w' (qh (.int .i64 (vM x.l:Nat)) w')):=Lh fun x hx w' hb=>(qjp x.l x.A _ x.cap w.heap.size w' (HX.out x hx).1 (HG.out x hx w' hb)).mono fun e w'' ⟨h1,h2⟩=>⟨h1,h2 ▸ Le _ _⟩
 have HSz:=Lh (q6 W Hh)
 by_cases h1:vR W Hh=false
 ·rw [if_pos h1];rw [h1] at HSz;clear h1
  go_enter func28,ntmps28;go_upto_region 1 with fail;refine qa (VwBox w ⟨W,Hh,rows,row,col,vis⟩ A n c) (VwBox.new w ⟨W,Hh,rows,row,col,vis⟩ A n c) ?_;intro X hX;obtain ⟨c0,c1,c2,c3,c4,c5⟩:=hX.cells;have hb:=hX.2;dsimp only at c0 c1 c2 c3 c4 c5
  go_wp2_with (go_at_call 52;refine (HSz.out _).mono ?_;rintro e w1 ⟨rfl,rfl⟩)
  go_ret;exact ⟨rfl,hb⟩
 ·have h1':vR W Hh=true:=by simpa using h1
  rw [if_neg h1];rw [h1'] at HSz;clear h1 h1'
  by_cases h2:(n:Int)=Hh
  ·rw [if_neg (by simpa using h2)];have hne:((n:Int) != Hh)=false:=by simp [h2]
   replace h2:=Lh h2
   by_cases h3:row<0∨Hh<=row∨col<0∨W<=col
   ·rw [if_pos h3]
    by_cases r1:row<0
    ·go_enter func28,ntmps28;go_upto_region 1 with fail;refine qa (VwBox w ⟨W,Hh,rows,row,col,vis⟩ A n c) (VwBox.new w ⟨W,Hh,rows,row,col,vis⟩ A n c) ?_;intro X hX;obtain ⟨c0,c1,c2,c3,c4,c5⟩:=hX.cells;have hb:=hX.2;dsimp only at c0 c1 c2 c3 c4 c5
     go_wp2_with (go_at_call 52;refine (HSz.out _).mono ?_;rintro e w1 ⟨rfl,rfl⟩)
     go_ret;exact ⟨rfl,hb⟩
    ·by_cases r2:Hh<=row
     ·go_enter func28,ntmps28;go_upto_region 1 with fail;refine qa (VwBox w ⟨W,Hh,rows,row,col,vis⟩ A n c) (VwBox.new w ⟨W,Hh,rows,row,col,vis⟩ A n c) ?_;intro X hX;obtain ⟨c0,c1,c2,c3,c4,c5⟩:=hX.cells;have hb:=hX.2;dsimp only at c0 c1 c2 c3 c4 c5
      go_wp2_with (go_at_call 52;refine (HSz.out _).mono ?_;rintro e w1 ⟨rfl,rfl⟩)
      go_ret;exact ⟨rfl,hb⟩
     ·by_cases r3:col<0
      ·go_enter func28,ntmps28;go_upto_region 1 with fail;refine qa (VwBox w ⟨W,Hh,rows,row,col,vis⟩ A n c) (VwBox.new w ⟨W,Hh,rows,row,col,vis⟩ A n c) ?_;intro X hX;obtain ⟨c0,c1,c2,c3,c4,c5⟩:=hX.cells;have hb:=hX.2;dsimp only at c0 c1 c2 c3 c4 c5
       go_wp2_with (go_at_call 52;refine (HSz.out _).mono ?_;rintro e w1 ⟨rfl,rfl⟩)
       go_ret;exact ⟨rfl,hb⟩
      ·have r4:W<=col:=by omega
       go_enter func28,ntmps28;go_upto_region 1 with fail;refine qa (VwBox w ⟨W,Hh,rows,row,col,vis⟩ A n c) (VwBox.new w ⟨W,Hh,rows,row,col,vis⟩ A n c) ?_;intro X hX;obtain ⟨c0,c1,c2,c3,c4,c5⟩:=hX.cells;have hb:=hX.2;dsimp only at c0 c1 c2 c3 c4 c5
       go_wp2_with (go_at_call 52;refine (HSz.out _).mono ?_;rintro e w1 ⟨rfl,rfl⟩)
       go_ret;exact ⟨rfl,hb⟩
   ·rw [if_neg h3];have r1:0<=row:=by omega
    have r2:row<Hh:=by omega
    have r3:0<=col:=by omega
    have r4:col<W:=by omega
    clear h3;have H0:Hid (yh W (rls rs)=yh W ((rls rs).drop 0)):=Lh rfl;generalize yh W (rls rs)=R at *
    go_enter func28,ntmps28;go_upto_region 1 with fail;refine qa (VwBox w ⟨W,Hh,rows,row,col,vis⟩ A n c) (VwBox.new w ⟨W,Hh,rows,row,col,vis⟩ A n c) ?_;intro X hX;obtain ⟨c0,c1,c2,c3,c4,c5⟩:=hX.cells;have hb:=hX.2;dsimp only at c0 c1 c2 c3 c4 c5
    go_wp2_with (go_at_call 52;refine (HSz.out _).mono ?_;rintro e w1 ⟨rfl,rfl⟩)
    go_loopw [3] (fun x wr=>∃ k:Nat,k<=n/\x = .int .i64 k/\VwBox w ⟨W,Hh,rows,row,col,vis⟩ A n c wr/\Hid (R=yh W ((rls rs).drop k))) (fun x _=>n-(intOf x).toNat)
    case atStart=>exact ⟨0,Nat.zero_le _,rfl,hX,H0⟩
    case round =>
     clear hX hb c0 c1 c2 c3 c4 c5 H0 HSz hne r1 r2 r3 r4;obtain ⟨k,hk,rfl,hX,HK⟩:=hrel;obtain ⟨c0,c1,c2,c3,c4,c5⟩:=hX.cells;have hb:=hX.2;have hzX:=hX.lt;dsimp only at c0 c1 c2 c3 c4 c5
     by_cases hlt:k<n
     ·have hkl:k<rs.length:=by have:=HN.out;omega
      obtain ⟨b,o,rfl,hbB,hc⟩:=HA.out k hkl _ hb;have hx:rs[k]∈rs:=Lt hkl;obtain ⟨T,HT⟩ : ∃ T,Hid (T=if W<vM rs[k].l then 12 else if rs[k].l.getLast? = some spG then 1 else yh W ((rls rs).drop (k+1))):=⟨_,Lh rfl⟩
      have HK2:Hid (R=if yK (rs[k].l.drop 0)≠0 then yK (rs[k].l.drop 0) else T):=Lh (by rw [HK.out,HS.out k hkl,qa4 hkl,qdu,HT.out,List.drop_zero]);have hl:=(HX.out _ hx).1;have HGk:=Lh (HG.out _ hx);have HVk:=Lh (HV.out _ hx);have HWk:=Lh (HWd.out _ hx);clear HK HA HG HX HV HWd HS hx;generalize rs[k]=x at *
      obtain ⟨l,Al,cl⟩:=x;dsimp only at *
      go_wp2
      go_loopw [5] (fun y wy=>∃ j:Nat,j<=l.length/\y = .int .i64 j/\VwBox w ⟨W,Hh,rows,row,col,vis⟩ (some ⟨b,o,none⟩) n c wy/\Hid (R=if yK (l.drop j)≠0 then yK (l.drop j) else T)) (fun y _=>l.length-(intOf y).toNat)
      case atStart=>exact ⟨0,Nat.zero_le _,rfl,hX,HK2⟩
      case round=>as_aux_lemma =>
       clear hX hb c0 c1 c2 c3 c4 c5 HK2 hc hzX;obtain ⟨j,hj,rfl,hX,HJ⟩:=hrel;obtain ⟨c0,c1,c2,c3,c4,c5⟩:=hX.cells;have hb:=hX.2;have hzX:=hX.lt;dsimp only at c0 c1 c2 c3 c4 c5
       by_cases hlj:j<l.length
       ·obtain ⟨b',o',rfl,hbB',g0,g1,g2⟩:=jE (HGk.out _ hb) hlj rfl;have HVj:=Lh (HVk.out _ (Lt hlj));have HJ2:=HJ.out;rw [qdN hlj] at HJ2;generalize l[j]=g at *
        by_cases h0:qJ g=0
        ·rw [if_neg (show ¬ qJ g≠0 by simp [h0])] at HJ2;replace HJ2:=Lh HJ2;rw [h0] at HVj;clear h0;obtain ⟨t,wd,st⟩:=g;dsimp only at *
         go_wp2_with (go_at_call 53;refine (HVj.out _).mono ?_;rintro e w1 ⟨rfl,hb1⟩)
         exact ⟨⟨j+1,by omega,by go_num,hX.on hb1,HJ2⟩,by simp [intOf];omega⟩
        ·rw [if_pos (show qJ g≠0 from h0),if_pos h0] at HJ2;replace HJ2:=Lh HJ2;have hn0:(qJ g != 0)=true:=Ln.2 h0;clear h0;generalize hq:qJ g=K at *
         clear hq;obtain ⟨t,wd,st⟩:=g;dsimp only at *
         go_wp2_with (go_at_call 53;refine (HVj.out _).mono ?_;rintro e w1 ⟨rfl,hb1⟩)
         go_ret;exact ⟨by rw [HJ2.out];rfl,(hX.on hb1).2⟩
       ·obtain rfl:j=l.length:=by omega
        have HT2:Hid (R=if W<vM l then 12 else if l.getLast? = some spG then 1 else yh W ((rls rs).drop (k+1))):=Lh (by rw [HJ.out,Lv (Ld _),<- HT.out];rfl);clear HT HJ HVk;have hzz:=Ld wr.heap.size;have N0 : ∀ x:Near wr.heap.size wr,x.w.cell? ⟨w.heap.size,0,none⟩=some (.int .i64 W):=fun x=>(x.h.cell L7).trans c0
        have HWx:Hid (∀ x:Near wr.heap.size wr,Calls prog 48 #[.slice Al l.length cl] x.w (qh (.int .i64 (vM l:Nat)) x.w)):=Lh fun x=>HWk.out _ (hb.trans (x.h.mono L0))
        clear HWk c0 c1 c2 c3 c4 c5;generalize vM l=rw0 at *
        by_cases hw:W<(rw0:Int)
        ·rw [if_pos hw] at HT2;go_wp2;refine qc wr.heap.size ?_;(repeat (go_big_quiet_step ((go_at_call 48;exact Calls.near _ hzz (HWx.out _)))));refine wpQuiet_nil ?_;intro x1;go_wp2;go_ret;exact ⟨by rw [HT2.out];rfl,(hX.on x1.h).2⟩
        ·as_aux_lemma =>
         rw [if_neg hw] at HT2;have hw' : ¬ W<(rw0:Int):=hw;have hd:decide (W<(rw0:Int))=false:=Lk hw;clear hw hw';go_wp2;refine qc wr.heap.size ?_;(repeat (go_big_quiet_step ((go_at_call 48;exact Calls.near _ hzz (HWx.out _)))));refine wpQuiet_nil ?_;intro x1;have hX1:=hX.on x1.h;have hb1:=hX1.2;have hz1:=Ld x1.w.heap.size;clear HWx N0 hd hX hb
         rcases Nat.eq_zero_or_pos l.length with h0 | h0
         ·have HT3:Hid (R=yh W ((rls rs).drop (k+1))):=Lh (by rw [HT2.out,List.length_eq_zero_iff.1 h0];rfl);have hd:decide (0<l.length)=false:=Lk L0;clear HT2 h0;go_wp2;exact ⟨⟨k+1,by omega,by go_num,hX1,HT3⟩,by simp [intOf];omega⟩
         ·obtain ⟨m,hm⟩ : ∃ m,l.length=m+1:=⟨l.length-1,by omega⟩
          have hml:m<l.length:=by omega
          obtain ⟨b',o',rfl,hbB',g0,g1,g2⟩:=jE (HGk.out _ hb1) hml rfl;rw [qh5 hm] at HT2;have HBk:=Lh (qjx l[m]);have hmi:(l.length:Int)=(m:Int)+1:=by omega
          have hd:decide (0<l.length)=true:=Ll h0
          by_cases he:l[m]=spG
          ·rw [if_pos (by rw [he])] at HT2;rw [Ll he] at HBk;clear he h0 HGk;generalize l[m]=g at *
           obtain ⟨t,wd,st⟩:=g;dsimp only at *
           go_wp2_with (go_at_call 54;refine (HBk.out _).mono ?_;rintro e w2 ⟨rfl,hb2⟩)
           go_ret;exact ⟨by rw [HT2.out];rfl,hb1.trans (hb2.mono (by have:=hX1.lt;omega))⟩
          ·rw [if_neg (fun e=>he (by injection e))] at HT2;rw [Lk he] at HBk;clear he h0 HGk;generalize l[m]=g at *
           obtain ⟨t,wd,st⟩:=g;dsimp only at *
           go_wp2_with (go_at_call 54;refine (HBk.out _).mono ?_;rintro e w2 ⟨rfl,hb2⟩)
           exact ⟨⟨k+1,by omega,by go_num,hX1.on hb2,HT2⟩,by simp [intOf];omega⟩
     ·have HK2:Hid (R=0):=Lh (by rw [HK.out,Lv (by rw [vJ];have:=HN.out;omega)];rfl);go_wp2;go_ret;exact ⟨by rw [HK2.out];rfl,hb⟩
  ·rw [if_pos h2];have hne:((n:Int) != Hh)=true:=Ln.2 h2;clear h2
   go_enter func28,ntmps28;go_upto_region 1 with fail;refine qa (VwBox w ⟨W,Hh,rows,row,col,vis⟩ A n c) (VwBox.new w ⟨W,Hh,rows,row,col,vis⟩ A n c) ?_;intro X hX;obtain ⟨c0,c1,c2,c3,c4,c5⟩:=hX.cells;have hb:=hX.2;dsimp only at c0 c1 c2 c3 c4 c5
   go_wp2_with (go_at_call 52;refine (HSz.out _).mono ?_;rintro e w1 ⟨rfl,rfl⟩)
   go_ret;exact ⟨rfl,hb⟩
theorem qbM (m:Md) (A:Option Addr) (n c B:Nat) (rs:List RowM) (w:World) (rd:RdV w B m.view A n c rs) (hB:B<=w.heap.size) (hz : ∀ x∈rs,x.l.length<=1000000000/\∀ g∈x.l,g.text.size<=1000000000) :
  Calls prog 13 #[.agg (mdC m A n c)] w (qh (.bool (vu m)) w):=by
 have HC:Hid (∀ w',Below w.heap.size w w'->Calls prog 28 #[.agg (vwC m.view A n c)] w' (qh (.int .i64 (js m.view)) w')):=Lh fun w' hb=>qjk _ _ _ _ w.heap.size _ _ ((rd.more hB).below hb) hb.size hz
 clear rd hz;obtain ⟨⟨W,H,rows,r,cl,vs⟩,U⟩:=m;dsimp only at HC;rw [qdz];dsimp only;generalize js ⟨W,H,rows,r,cl,vs⟩=V at *
 have h1:(V==0)=decide (V=0):=by rw [Bool.eq_iff_iff];simp
 by_cases hv:V=0
 ·have e1:(V==0)=true:=beq_iff_eq.2 hv;rw [Ll hv];clear h1 hv
  by_cases hu:0<=U
  ·by_cases ht:U<=1099511627776
   ·have hu':decide (0<=U)=true:=Ll hu;have ht':decide (U<=1099511627776)=true:=Ll ht;rw [hu',ht'];clear hu ht
    go_enter func13,ntmps13
    go_upto_region 1 with fail
    refine qa (fun X=>Blk X w.heap.size 26 (mdC ⟨⟨W,H,rows,r,cl,vs⟩,U⟩ A n c)/\Below w.heap.size w X) ⟨Blk.new_ rfl,L5⟩ ?_;rintro X ⟨hM,hb⟩;have c0:X.cell? ⟨w.heap.size,0,none⟩=some (.int .i64 W):=hM.cell 0;have c1:X.cell? ⟨w.heap.size,1,none⟩=some (.int .i64 H):=hM.cell 1;have c2:X.cell? ⟨w.heap.size,2,none⟩=some (.slice A n c):=hM.cell 2;have c3:X.cell? ⟨w.heap.size,3,none⟩=some (.int .i64 r):=hM.cell 3;have c4:X.cell? ⟨w.heap.size,4,none⟩=some (.int .i64 cl):=hM.cell 4;have c5:X.cell? ⟨w.heap.size,5,none⟩=some (.bool vs):=hM.cell 5;have c6:X.cell? ⟨w.heap.size,6,none⟩=some (.int .i64 U):=hM.cell 6;have hl:=hM.lt;clear hM
    go_wp2_with (go_at_call 28;refine (HC.out _ hb).mono ?_;rintro e w1 ⟨rfl,hb1⟩;have d6:=(hb1.cell (p:=⟨w.heap.size,6,none⟩) hl).trans c6)
    go_ret;exact ⟨rfl,hb.trans (hb1.mono hb.size)⟩
   ·have hu':decide (0<=U)=true:=Ll hu;have ht':decide (U<=1099511627776)=false:=Lk ht;rw [hu',ht'];clear hu ht
    go_enter func13,ntmps13
    go_upto_region 1 with fail
    refine qa (fun X=>Blk X w.heap.size 26 (mdC ⟨⟨W,H,rows,r,cl,vs⟩,U⟩ A n c)/\Below w.heap.size w X) ⟨Blk.new_ rfl,L5⟩ ?_;rintro X ⟨hM,hb⟩;have c0:X.cell? ⟨w.heap.size,0,none⟩=some (.int .i64 W):=hM.cell 0;have c1:X.cell? ⟨w.heap.size,1,none⟩=some (.int .i64 H):=hM.cell 1;have c2:X.cell? ⟨w.heap.size,2,none⟩=some (.slice A n c):=hM.cell 2;have c3:X.cell? ⟨w.heap.size,3,none⟩=some (.int .i64 r):=hM.cell 3;have c4:X.cell? ⟨w.heap.size,4,none⟩=some (.int .i64 cl):=hM.cell 4;have c5:X.cell? ⟨w.heap.size,5,none⟩=some (.bool vs):=hM.cell 5;have c6:X.cell? ⟨w.heap.size,6,none⟩=some (.int .i64 U):=hM.cell 6;have hl:=hM.lt;clear hM
    go_wp2_with (go_at_call 28;refine (HC.out _ hb).mono ?_;rintro e w1 ⟨rfl,hb1⟩;have d6:=(hb1.cell (p:=⟨w.heap.size,6,none⟩) hl).trans c6)
    go_ret;exact ⟨rfl,hb.trans (hb1.mono hb.size)⟩
  ·have hu':decide (0<=U)=false:=Lk hu;rw [hu'];clear hu
   go_enter func13,ntmps13
   go_upto_region 1 with fail
   refine qa (fun X=>Blk X w.heap.size 26 (mdC ⟨⟨W,H,rows,r,cl,vs⟩,U⟩ A n c)/\Below w.heap.size w X) ⟨Blk.new_ rfl,L5⟩ ?_;rintro X ⟨hM,hb⟩;have c0:X.cell? ⟨w.heap.size,0,none⟩=some (.int .i64 W):=hM.cell 0;have c1:X.cell? ⟨w.heap.size,1,none⟩=some (.int .i64 H):=hM.cell 1;have c2:X.cell? ⟨w.heap.size,2,none⟩=some (.slice A n c):=hM.cell 2;have c3:X.cell? ⟨w.heap.size,3,none⟩=some (.int .i64 r):=hM.cell 3;have c4:X.cell? ⟨w.heap.size,4,none⟩=some (.int .i64 cl):=hM.cell 4;have c5:X.cell? ⟨w.heap.size,5,none⟩=some (.bool vs):=hM.cell 5;have c6:X.cell? ⟨w.heap.size,6,none⟩=some (.int .i64 U):=hM.cell 6;have hl:=hM.lt;clear hM
   go_wp2_with (go_at_call 28;refine (HC.out _ hb).mono ?_;rintro e w1 ⟨rfl,hb1⟩;have d6:=(hb1.cell (p:=⟨w.heap.size,6,none⟩) hl).trans c6)
   go_ret;exact ⟨rfl,hb.trans (hb1.mono hb.size)⟩
 ·have e1:(V==0)=false:=Lm.2 hv;rw [Lk hv];clear h1 hv
  go_enter func13,ntmps13
  go_upto_region 1 with fail
  refine qa (fun X=>Blk X w.heap.size 26 (mdC ⟨⟨W,H,rows,r,cl,vs⟩,U⟩ A n c)/\Below w.heap.size w X) ⟨Blk.new_ rfl,L5⟩ ?_;rintro X ⟨hM,hb⟩;have c0:X.cell? ⟨w.heap.size,0,none⟩=some (.int .i64 W):=hM.cell 0;have c1:X.cell? ⟨w.heap.size,1,none⟩=some (.int .i64 H):=hM.cell 1;have c2:X.cell? ⟨w.heap.size,2,none⟩=some (.slice A n c):=hM.cell 2;have c3:X.cell? ⟨w.heap.size,3,none⟩=some (.int .i64 r):=hM.cell 3;have c4:X.cell? ⟨w.heap.size,4,none⟩=some (.int .i64 cl):=hM.cell 4;have c5:X.cell? ⟨w.heap.size,5,none⟩=some (.bool vs):=hM.cell 5;have c6:X.cell? ⟨w.heap.size,6,none⟩=some (.int .i64 U):=hM.cell 6;have hl:=hM.lt;clear hM
  go_wp2_with (go_at_call 28;refine (HC.out _ hb).mono ?_;rintro e w1 ⟨rfl,hb1⟩;have d6:=(hb1.cell (p:=⟨w.heap.size,6,none⟩) hl).trans c6)
  go_ret;exact ⟨rfl,hb.trans (hb1.mono hb.size)⟩
end Go.Proofs.YtbogmeeijdaijaaGreatDoor
