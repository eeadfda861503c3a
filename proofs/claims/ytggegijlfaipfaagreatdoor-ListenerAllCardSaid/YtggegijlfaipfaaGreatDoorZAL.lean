/- Joined: Rp3, Rn8, Rp4, Lvl, Lvm, Lvn, Lw1, Lv6. -/
import Derived.Test.YtggegijlfaipfaaGreatDoorZAK
set_option linter.unusedVariables false
set_option linter.unusedSimpArgs false
set_option linter.unnecessarySimpa false
set_option maxHeartbeats 8000000
namespace Go.Proofs.YtggegijlfaipfaaGreatDoor
open Go.Proofs.Tryz Go.RowKit
set_option maxRecDepth 20000
abbrev tC (v:Value) (st:Int) (j:Bool):Array Value:=#[v,.int .i64 st,.bool j]
theorem qy:(prog.info? 165).map (fun x=>x.size)=some 3:=by kernel_rfl
theorem qio (w:World) (a:Addr) (u:Value):w.grownBy (w.setCell a u) (some a.block) :=
 ⟨rfl,rfl,rfl,by simp,fun k _ hk=>Below.heap_setCell w a u k (fun e=>hk (by rw [e]))⟩
theorem ne_own {v:Value} {p:Nat} (hp : ∀ k,v.ownBlock=some k->k≠p):v.ownBlock=none∨v.ownBlock≠some p:=by
 cases h:v.ownBlock with
 | none=>exact .inl rfl
 | some k=>exact .inr fun e=>hp k h (by injection e)
theorem qh7 {v:Value} {p:Nat} (hp : ∀ k,v.ownBlock=some k->k≠p):some p≠v.ownBlock:=fun e=>hp p e.symm rfl
theorem zy {w:World} {base size n:Nat} {e:TypeId} {v:Value} {xs:List Value} (h:w.ownsRow base e size v n xs) {p:Addr} (hp : ∀ k,v.ownBlock=some k->k≠p.block) (u:Value):(w.setCell p u).ownsRow base e size v n xs :=
 h.kept (qio w p u) (ne_own hp)
theorem k8 {w:World} {g:Nat} {t:TypeId} {a b c a' b' c':Value} (h:Blk w g t #[a,b,c]) :
  Blk (((w.setCell ⟨g,0,none⟩ a').setCell ⟨g,1,none⟩ b').setCell ⟨g,2,none⟩ c') g t #[a',b',c']:=by
 have:=((h.set_ 0 a').set_ 1 b').set_ 2 c'
 simpa using this
theorem vU {B:Nat} {w w0:World} {g:Nat} {a' b' c':Value} (h:Below B w0 w) (hg:B<=g) :
  Below B w0 (((w.setCell ⟨g,0,none⟩ a').setCell ⟨g,1,none⟩ b').setCell ⟨g,2,none⟩ c'):=((h.setCell hg _).setCell hg _).setCell hg _
theorem qlv {w:World} {base size n g:Nat} {e:TypeId} {v:Value} {xs:List Value} {a' b' c':Value} (h:w.ownsRow base e size v n xs) (hp : ∀ k,v.ownBlock=some k->k≠g) :
  (((w.setCell ⟨g,0,none⟩ a').setCell ⟨g,1,none⟩ b').setCell ⟨g,2,none⟩ c').ownsRow base e size v n xs:=zy (zy (zy h hp _) hp _) hp _
def Sep (N:Nat) (v0 v:Value):Prop:=∀ k,v.ownBlock=some k->(v0.ownBlock=some k/\k<N)∨N+2<=k
theorem Sep.ne {N:Nat} {v0 v:Value} (h:Sep N v0 v) : ∀ k,v.ownBlock=some k->k≠N/\k≠N+1:=fun k hk=>by
 rcases h k hk with h | h <;> omega
def BG (base:Nat) (v0:Value) (w wx:World):Prop:=Below base w wx/\w.grownBy wx v0.ownBlock
theorem qdA {w w':World} (hb:Below w.heap.size w w') (row:Option Nat):w.grownBy w' row:=⟨hb.os,hb.tape,hb.output,hb.size,fun k hk _=>hb.block k hk⟩
section
variable {base : Nat} {v0 : Value} {w wx wy : World}
theorem BG.refl (base:Nat) (v0:Value) (w:World):BG base v0 w w:=⟨Le _ _,World.grownBy.refl w _⟩
theorem BG.below (h:BG base v0 w wx) (hb:Below wx.heap.size wx wy) (qnR:base<=w.heap.size):BG base v0 w wy :=
 ⟨h.1.trans (hb.mono (Lj qnR h.2.size)),h.2.trans (qdA hb _)⟩
theorem BG.grown (h:BG base v0 w wx) (hb:Below base wx wy) {v:Value} (hg:wx.grownBy wy v.ownBlock) (hs:Sep w.heap.size v0 v):BG base v0 w wy :=
 ⟨h.1.trans hb,h.2.andThen hg fun j hj=>by
  rcases hs j hj with ⟨h,_⟩ | h
  ·exact .inr h
  ·exact .inl L0⟩
theorem BG.alloc (h:BG base v0 w wx) (qnR:base<=w.heap.size) (o:Obj):BG base v0 w (wx.alloc o):=h.below (Below.alloc (Le _ _) (Ld _) _) qnR
theorem BG.drew (h:BG base v0 w wx) (qnR:base<=w.heap.size):BG base v0 w wx.drew:=h.below (Le _ _).drew qnR
theorem BG.set_ (h:BG base v0 w wx) (qnR:base<=w.heap.size) {p:Addr} (hp:w.heap.size<=p.block) (u:Value):BG base v0 w (wx.setCell p u) :=
 ⟨h.1.setCell (Lj qnR hp) _,h.2.andThen (qio wx p u) fun j hj=>.inl (by injection hj with hj;omega)⟩
theorem BG.size (h:BG base v0 w wx):w.heap.size<=wx.heap.size:=h.2.size
end
def TX (w:World) (base:Nat) (v0:Value) (st:Int) (j:Bool) (O:List Gl) (wx:World):Prop :=
 ∃ A c,Blk wx w.heap.size 165 (tC (.slice A O.length c) st j)/\Blk wx (w.heap.size+1) 165 (tC (.slice none 0 0) 0 false)/\wx.ownsRow base 61 3 (.slice A O.length c) O.length (qi O) /\
  Sep w.heap.size v0 (.slice A O.length c)/\BG base v0 w wx
theorem TX.new {w:World} {base:Nat} {st:Int} {j:Bool} {O:List Gl} {A:Option Addr} {c:Nat} (h:w.ownsRow base 61 3 (.slice A O.length c) O.length (qi O)) (hb:base<=w.heap.size) :
  TX w base (.slice A O.length c) st j O ((w.alloc (.cells (tC (.slice A O.length c) st j) 165)).alloc (.cells (tC (.slice none 0 0) 0 false) 165)) :=
 ⟨A,c,Blk.alloc (Blk.new w _ _) _,Blk.new_ L1,(h.alloc _).alloc _,fun k hk=>.inl ⟨hk,(h.lt k hk).2⟩,((BG.refl _ _ _).alloc hb _).alloc hb _⟩
theorem TX.put {w X w4:World} {base n N c0 c4:Nat} {v0:Value} {A0 A4:Option Addr} {st:Int} {j:Bool} {ys:List Value} {O:List Gl}
  (B1:Blk X w.heap.size 165 (tC (.slice A0 n c0) st j)) (B2:Blk X (w.heap.size+1) 165 (tC (.slice none 0 0) 0 false)) (hs:Sep w.heap.size v0 (.slice A0 n c0)) (tX:BG base v0 w X) (hb:base<=w.heap.size)
  (qmC:w4.ownsRow base 61 3 (.slice A4 N c4) N ys) (qmy:Below base X w4) (hgr:X.grownBy w4 (Value.slice A0 n c0).ownBlock) (hat:(Value.slice A4 N c4).ownBlock=(Value.slice A0 n c0).ownBlock∨(Value.slice A4 N c4).ownBlock=some X.heap.size) (hN:O.length=N) (hy:qi O=ys) :
  TX w base v0 st j O (w4.setCell ⟨w.heap.size,0,none⟩ (.slice A4 N c4)):=by
 subst hN hy;have z1:=B2.lt;have hs4:Sep w.heap.size v0 (.slice A4 O.length c4):=fun k hk=>by
  rcases hat with h | h
  ·exact hs k (h ▸ hk)
  ·rw [h] at hk
   injection hk with hk
   omega
 have C1:=B1.grown hgr (qh7 fun k hk=>(hs.ne k hk).1);have C2:=B2.grown hgr (qh7 fun k hk=>(hs.ne k hk).2);refine ⟨A4,c4,?_,C2.far (p:=⟨w.heap.size,0,none⟩) L7 _,zy qmC (p:=⟨w.heap.size,0,none⟩) (fun k hk=>(hs4.ne k hk).1) _,hs4,(tX.grown qmy hgr hs).set_ hb (Ld _) _⟩;have:=C1.set_ 0 (.slice A4 O.length c4)
 simpa [tC] using this
def TRt (base:Nat) (v0:Value) (w:World) (O:List Gl) (st:Int) (j:Bool) (F:Value->Value) (e:Ending) (w':World):Prop :=
 ∃ A c,e = .returned (F (.agg (tC (.slice A O.length c) st j)))/\w'.ownsRow base 61 3 (.slice A O.length c) O.length (qi O)/\BG base v0 w w'/\Sep w.heap.size v0 (.slice A O.length c)
theorem TX.copy {w wr:World} {base:Nat} {v0:Value} {O:List Gl} {A:Option Addr} {c:Nat} {v:Value} {st':Int} {j':Bool} (B1:Blk wr (w.heap.size+1) 165 (tC (.slice none 0 0) 0 false)) (ox:wr.ownsRow base 61 3 (.slice A O.length c) O.length (qi O))
  (hs:Sep w.heap.size v0 (.slice A O.length c)) (tx:BG base v0 w wr) (hb:base<=w.heap.size) :
  Blk (((wr.setCell ⟨w.heap.size+1,0,none⟩ v).setCell ⟨w.heap.size+1,1,none⟩ (.int .i64 st')).setCell ⟨w.heap.size+1,2,none⟩ (.bool j')) (w.heap.size+1) 165 (tC v st' j') /\
  (((wr.setCell ⟨w.heap.size+1,0,none⟩ v).setCell ⟨w.heap.size+1,1,none⟩ (.int .i64 st')).setCell ⟨w.heap.size+1,2,none⟩ (.bool j')).ownsRow base 61 3 (.slice A O.length c) O.length (qi O) /\
  BG base v0 w (((wr.setCell ⟨w.heap.size+1,0,none⟩ v).setCell ⟨w.heap.size+1,1,none⟩ (.int .i64 st')).setCell ⟨w.heap.size+1,2,none⟩ (.bool j')) :=
 ⟨k8 B1,qlv ox fun k hk=>(hs.ne k hk).2,((tx.set_ hb (Nat.le_succ _) _).set_ hb (Nat.le_succ _) _).set_ hb (Nat.le_succ _) _⟩
theorem qlf (O:List Gl) (st:Int) (J:Bool) (s:ByteArray) (hs:s.size<=1000000) (ho:O.length<=1000000000) (A:Option Addr) (c base:Nat) (w:World) (hb:base<=w.heap.size) (h:w.ownsRow base 61 3 (.slice A O.length c) O.length (qi O)) :
  Calls prog 132 #[.agg (tC (.slice A O.length c) st J),.string s] w (TRt base (.slice A O.length c) w (O++vm J st s) st true id):=by
 obtain ⟨O1,hO1⟩ : ∃ x,x=O++(if J=true then [chG st 32] else []):=⟨_,rfl⟩
 have hO1l:O1.length<=O.length+1:=by
  rw [hO1,Lf]
  split <;> simp
 have HE:Hid (O++vm J st s=O1++(s.data.toList.take s.data.toList.length).map (chG st)):=Lh (by rw [hO1,vm,List.take_length,List.append_assoc]);have HT:Hid (∀ j (h:j<s.size),O1++(s.data.toList.take (j+1)).map (chG st)=(O1++(s.data.toList.take j).map (chG st))++[chG st s[j]]):=Lh fun j h=>qjr O1 st _ j (by simpa using h)
 have HX:Hid (∀ j (h:j<s.size),s.extract j (j+1)=⟨#[s[j]]⟩):=Lh (qeF s);have HL:Hid (∀ j,(O1++(s.data.toList.take j).map (chG st)).length<=1000000001+j):=Lh fun j=>by
  rw [Lf,Lq,Lu]
  omega
 have HZ:Hid (s.data.toList.length=s.size):=Lh L1;have H0:Hid (O1=O1++(s.data.toList.take 0).map (chG st)):=Lh L1;generalize O++vm J st s=Q at *
 have hpn:=TX.new (st:=st) (j:=J) h hb;clear h;obtain ⟨v0,hv0⟩ : ∃ x,x=Value.slice A O.length c:=⟨_,rfl⟩
 have HV:=Lh hv0;rw [<- hv0] at hpn ⊢;clear hv0
 cases J with
 | false =>
  rw [if_neg L1,List.append_nil] at hO1;subst hO1;clear hO1l
  go_enter func132,ntmps132
  go_upto_region 1 with fail
  refine qa (TX w base v0 st false O1) hpn ?_;clear hpn;intro wx hpx;obtain ⟨A2,c2,B1,B2,ox,hs2,tx⟩:=id hpx;have c0:=B1.cell 0;have c1:=B1.cell 1;have c2:=B1.cell 2;have d0:=B2.cell 0;have d1:=B2.cell 1;have d2:=B2.cell 2;have f0:=B1.frozen 0;have f2:=B1.frozen 2;have g0:=B2.frozen 0;have g1:=B2.frozen 1;have g2:=B2.frozen 2;simp only [tC,La,Lb,Lc] at c0 c1 c2 d0 d1 d2;clear B1 B2 ox hs2 tx
  go_upto_region 3 with fail
  clear c0 c1 c2 d0 d1 d2 f0 f2 g0 g1 g2;go_wp2
  go_loopw [5] (fun x wr=>∃ j:Nat,j<=s.size/\x = .int .i64 j/\TX w base v0 st false (O1++(s.data.toList.take j).map (chG st)) wr) (fun x _=>s.size-(intOf x).toNat)
  case atStart=>exact ⟨0,Nat.zero_le _,rfl,by rw [<- H0.out];exact hpx⟩
  case round =>
   clear hpx;obtain ⟨j,hj,rfl,A6,c6,B1,B2,ox,hs6,tx⟩:=hrel;have zz:=B2.lt;have zg:=B1.lt
   by_cases hlt:j<s.size
   ·have hx:=HX.out j hlt;have HTj:=Lh (HT.out j hlt);have qnQ:=HL.out j;have HQl:Hid ((O1++(s.data.toList.take (j+1)).map (chG st)).length=(O1++(s.data.toList.take j).map (chG st)).length+1):=Lh (by rw [HTj.out,Lf];rfl);have HQs:Hid (qi (O1++(s.data.toList.take (j+1)).map (chG st))=qi (O1++(s.data.toList.take j).map (chG st))++ym (chG st s[j])):=Lh (by rw [HTj.out,kF,qbe]);clear HTj HT HX HE H0 HL;generalize O1++(s.data.toList.take j).map (chG st)=OJ at *
    generalize s[j]=cj at *
    have c0:=B1.cell 0;have c1:=B1.cell 1;have c2:=B1.cell 2;have d0:=B2.cell 0;have d1:=B2.cell 1;have d2:=B2.cell 2;have f0:=B1.frozen 0;have f2:=B1.frozen 2;have g0:=B2.frozen 0;have g1:=B2.frozen 1;have g2:=B2.frozen 2;simp only [tC,La,Lb,Lc] at c0 c1 c2 d0 d1 d2;have HS6:=Lh hs6;have qnB:=(World.ownsRow.alloc (qb ox (Le wr.heap.size wr).drew) (.cells (ym (chG st cj)).toArray 61))
    have BS1:=(Blk.alloc B1 (.cells (ym (chG st cj)).toArray 61)).drew;have BS2:=(Blk.alloc B2 (.cells (ym (chG st cj)).toArray 61)).drew;have hwj:IntKind.i64.wrap ((j:Int)+1)=(j:Int)+1:=by rw [Lx];omega
    have hj0:(0:Int)<=(j:Int)+1:=by omega
    have hj1:(j:Int)+1<=s.size:=by omega
    have hj2:(j:Int)<=(j:Int)+1:=by omega
    have hj3:((j:Int)+1).toNat=j+1:=by omega
    have tX:BG base v0 w (wr.alloc (.cells (ym (chG st cj)).toArray 61)).drew:=(tx.alloc hb _).drew hb;clear hs6
    go_upto_region 6 with fail
    go_region_law (refine jZ rfl _ _ _ rfl qbz (base) _ rfl (qnB) _ _ rfl ((qe (xs:=ym (chG st cj)) rfl rfl)) (rfl) ?_;intro A4 c4 w4 qmC qmy qmG qmI;have z4:=qmy.size;(try simp only [Lo,Lg] at qmC);have B4:=BS1.grown qmG (qh7 fun k hk=>(HS6.out.ne k hk).1);have c42:=B4.cell 0;have f42:=B4.frozen 0;simp only [tC,La,Lb,Lc] at c42)
    all_goals go_wp2
    all_goals exact ⟨⟨j+1,by omega,by go_num,TX.put BS1 BS2 HS6.out tX hb qmC qmy qmG qmI HQl.out HQs.out⟩,by simp [intOf];omega⟩
   ·obtain rfl:j=s.size:=by omega
    have HQ:Hid (Q=O1++(s.data.toList.take s.size).map (chG st)):=Lh (by rw [HE.out,HZ.out]);rw [<- HQ.out] at B1 ox hs6;clear HT HX HE H0 HL HQ;have c0:=B1.cell 0;have c1:=B1.cell 1;have c2:=B1.cell 2;have d0:=B2.cell 0;have d1:=B2.cell 1;have d2:=B2.cell 2;have f0:=B1.frozen 0;have f2:=B1.frozen 2;have g0:=B2.frozen 0;have g1:=B2.frozen 1;have g2:=B2.frozen 2;simp only [tC,La,Lb,Lc] at c0 c1 c2 d0 d1 d2;have o7:=zy ox (p:=⟨w.heap.size,2,none⟩) (fun k hk=>(hs6.ne k hk).1) (.bool true);have R:=TX.copy (v:=.slice A6 Q.length c6) (st':=st) (j':=true) (B2.far (p:=⟨w.heap.size,2,none⟩) L7 (.bool true)) o7 hs6 (tx.set_ (p:=⟨w.heap.size,2,none⟩) hb (Ld _) (.bool true)) hb;go_wp2;exact bodyPost_ret (results_cell_row rfl _ _ (w.heap.size+1) 165 _ (0,0) _ rfl R.1 underlying165 rfl qy) rfl ⟨A6,c6,rfl,R.2.1,R.2.2,hs6⟩
 | true =>
  rw [if_pos rfl] at hO1;have hO1l':O1.length=O.length+1:=by rw [hO1];simp
  have hO1s:qi O1=qi O++ym (chG st 32):=by rw [hO1,kF,qbe]
  replace hO1:=Lh hO1
  go_enter func132,ntmps132
  go_upto_region 1 with fail
  refine qa (TX w base v0 st true O) hpn ?_;clear hpn;intro wx hpx;obtain ⟨A2,c2,B1,B2,ox,hs2,tx⟩:=hpx;have c0:=B1.cell 0;have c1:=B1.cell 1;have c2:=B1.cell 2;have d0:=B2.cell 0;have d1:=B2.cell 1;have d2:=B2.cell 2;have f0:=B1.frozen 0;have f2:=B1.frozen 2;have g0:=B2.frozen 0;have g1:=B2.frozen 1;have g2:=B2.frozen 2;simp only [tC,La,Lb,Lc] at c0 c1 c2 d0 d1 d2
  go_upto_if 7 with fail
  go_cut [] (fun wx=>TX w base v0 st true O1 wx)
  case first =>
   clear HE HT HX HL HZ H0;have HS6:=Lh hs2;have zz:=B2.lt;have zg:=B1.lt;clear hs2;have qnB:=(World.ownsRow.alloc ox (.cells (ym (chG st 32)).toArray 61))
   have BS1:=(Blk.alloc B1 (.cells (ym (chG st 32)).toArray 61))
   have BS2:=(Blk.alloc B2 (.cells (ym (chG st 32)).toArray 61))
   have tX:=tx.alloc hb (.cells (ym (chG st 32)).toArray 61)
   go_wp2_with ((at_builtin;go_must (refine qg rfl _ _ _ rfl qbz (base) _ rfl (qnB) _ _ rfl ((qe (xs:=ym (chG st 32)) rfl rfl)) ?_);intro A4 c4 w4 qmC qmy qmG qmI;have z4:=qmy.size;(try simp only [Li] at z4);(try simp only [Lo,Lg] at qmC));have B4:=BS1.grown qmG (qh7 fun k hk=>(HS6.out.ne k hk).1);have c42:=B4.cell 0;have f42:=B4.frozen 0;simp only [tC,La,Lb,Lc] at c42)
   go_meet;exact TX.put BS1 BS2 HS6.out tX hb qmC qmy qmG qmI hO1l' hO1s
  case rest =>
   clear B1 B2 ox hs2 tx c0 c1 c2 d0 d1 d2 f0 f2 g0 g1 g2;have hpx:=hcut;clear hcut;go_wp2
   go_loopw [5] (fun x wr=>∃ j:Nat,j<=s.size/\x = .int .i64 j/\TX w base v0 st true (O1++(s.data.toList.take j).map (chG st)) wr) (fun x _=>s.size-(intOf x).toNat)
   case atStart=>exact ⟨0,Nat.zero_le _,rfl,by rw [<- H0.out];exact hpx⟩
   case round =>
    clear hpx;obtain ⟨j,hj,rfl,A6,c6,B1,B2,ox,hs6,tx⟩:=hrel;have zz:=B2.lt;have zg:=B1.lt
    by_cases hlt:j<s.size
    ·have hx:=HX.out j hlt;have HTj:=Lh (HT.out j hlt);have qnQ:=HL.out j;have HQl:Hid ((O1++(s.data.toList.take (j+1)).map (chG st)).length=(O1++(s.data.toList.take j).map (chG st)).length+1):=Lh (by rw [HTj.out,Lf];rfl);have HQs:Hid (qi (O1++(s.data.toList.take (j+1)).map (chG st))=qi (O1++(s.data.toList.take j).map (chG st))++ym (chG st s[j])):=Lh (by rw [HTj.out,kF,qbe]);clear HTj HT HX HE H0 HL;generalize O1++(s.data.toList.take j).map (chG st)=OJ at *
     generalize s[j]=cj at *
     have c0:=B1.cell 0;have c1:=B1.cell 1;have c2:=B1.cell 2;have d0:=B2.cell 0;have d1:=B2.cell 1;have d2:=B2.cell 2;have f0:=B1.frozen 0;have f2:=B1.frozen 2;have g0:=B2.frozen 0;have g1:=B2.frozen 1;have g2:=B2.frozen 2;simp only [tC,La,Lb,Lc] at c0 c1 c2 d0 d1 d2;have HS6:=Lh hs6;have qnB:=(World.ownsRow.alloc (qb ox (Le wr.heap.size wr).drew) (.cells (ym (chG st cj)).toArray 61))
     have BS1:=(Blk.alloc B1 (.cells (ym (chG st cj)).toArray 61)).drew;have BS2:=(Blk.alloc B2 (.cells (ym (chG st cj)).toArray 61)).drew;have hwj:IntKind.i64.wrap ((j:Int)+1)=(j:Int)+1:=by rw [Lx];omega
     have hj0:(0:Int)<=(j:Int)+1:=by omega
     have hj1:(j:Int)+1<=s.size:=by omega
     have hj2:(j:Int)<=(j:Int)+1:=by omega
     have hj3:((j:Int)+1).toNat=j+1:=by omega
     have tX:BG base v0 w (wr.alloc (.cells (ym (chG st cj)).toArray 61)).drew:=(tx.alloc hb _).drew hb;clear hs6
     go_upto_region 6 with fail
     go_region_law (refine jZ rfl _ _ _ rfl qbz (base) _ rfl (qnB) _ _ rfl ((qe (xs:=ym (chG st cj)) rfl rfl)) (rfl) ?_;intro A4 c4 w4 qmC qmy qmG qmI;have z4:=qmy.size;(try simp only [Lo,Lg] at qmC);have B4:=BS1.grown qmG (qh7 fun k hk=>(HS6.out.ne k hk).1);have c42:=B4.cell 0;have f42:=B4.frozen 0;simp only [tC,La,Lb,Lc] at c42)
     all_goals go_wp2
     all_goals exact ⟨⟨j+1,by omega,by go_num,TX.put BS1 BS2 HS6.out tX hb qmC qmy qmG qmI HQl.out HQs.out⟩,by simp [intOf];omega⟩
    ·obtain rfl:j=s.size:=by omega
     have HQ:Hid (Q=O1++(s.data.toList.take s.size).map (chG st)):=Lh (by rw [HE.out,HZ.out]);rw [<- HQ.out] at B1 ox hs6;clear HT HX HE H0 HL HQ;have c0:=B1.cell 0;have c1:=B1.cell 1;have c2:=B1.cell 2;have d0:=B2.cell 0;have d1:=B2.cell 1;have d2:=B2.cell 2;have f0:=B1.frozen 0;have f2:=B1.frozen 2;have g0:=B2.frozen 0;have g1:=B2.frozen 1;have g2:=B2.frozen 2;simp only [tC,La,Lb,Lc] at c0 c1 c2 d0 d1 d2;have o7:=zy ox (p:=⟨w.heap.size,2,none⟩) (fun k hk=>(hs6.ne k hk).1) (.bool true);have R:=TX.copy (v:=.slice A6 Q.length c6) (st':=st) (j':=true) (B2.far (p:=⟨w.heap.size,2,none⟩) L7 (.bool true)) o7 hs6 (tx.set_ (p:=⟨w.heap.size,2,none⟩) hb (Ld _) (.bool true)) hb;go_wp2;exact bodyPost_ret (results_cell_row rfl _ _ (w.heap.size+1) 165 _ (0,0) _ rfl R.1 underlying165 rfl qy) rfl ⟨A6,c6,rfl,R.2.1,R.2.2,hs6⟩
theorem rsplit1 (r:Nat) (hr:qR r) (hw:1<=zR (r:Int)) (A:Option Addr) (c B:Nat) (w:World) (rd:Rd w B 1 A 1 (chV [r])) (hB:B<=w.heap.size) :
  Calls prog 155 #[.slice A 1 c] w (ql 9 1 id w 1 (sv [kt r])):=by
 obtain ⟨b,o,rfl,hbB,hc⟩:=rd.2 L0;have qnM:w.cell? ⟨b,o,none⟩=some (.int .i32 (r:Int)):=hc 0 _ rfl;have HM:=Lh (qlD (r:Int));have HW:=Lh (qlk (r:Int));have hm:inT qM (r:Int)=false:=by
  cases h:inT qM (r:Int) with
  | false=>rfl
  | true=>have:=qlR h;omega
 have HE:=Lh (qlp r hr);rw [hm] at HM;generalize zR (r:Int)=W at *
 generalize kt r=E at *
 clear hc rd hm
 go_enter func155,ntmps155
 go_wp2
 go_loopw [3,4,5] (fun v _ x wr=>∃ k:Nat,k<=1/\x = .int .i64 k/\Below w.heap.size w wr/\((k=0/\v = .slice none 0 0)∨(k=1/\∃ A' c',v = .slice A' 1 c'/\wr.ownsRow w.heap.size 9 1 (.slice A' 1 c') 1 (sv [E])))) (fun _ _ x _=>1-(intOf x).toNat)
 case atStart=>exact ⟨0,by omega,rfl,Le _ _,.inl ⟨rfl,rfl⟩⟩
 case round =>
  obtain ⟨k,hk,rfl,qnw,hcase⟩:=hrel
  rcases hcase with ⟨rfl,rfl⟩ | ⟨rfl,A',c',rfl,qnB⟩
  ·have qnO:=(qnw.cell (by omega:b<w.heap.size)).trans qnM;have z0:=qnw.size
   go_wp2_with (first
    | (go_at_call 102;refine (HM.out _).mono ?_;rintro e w3 ⟨rfl,qmx⟩;have t3:=qnw.trans (qmx.mono z0);have hcell3:=(t3.cell (by omega:b<w.heap.size)).trans qnM)
    | (go_at_call 103;refine (HW.out _).mono ?_;rintro e w4 ⟨rfl,qmy⟩;have t4:=t3.trans (qmy.mono t3.size);have hcell4:=(t4.cell (by omega:b<w.heap.size)).trans qnM)
    | (go_at_call 172;refine (HE.out _).mono ?_;rintro e w5 ⟨rfl,qmz⟩;have t5:=t4.trans (qmz.mono t4.size);have z5:=t5.size)
    | (at_builtin;go_must (refine qg rfl _ _ _ rfl qp (w.heap.size) _ rfl (zY _ _ _ _) _ _ rfl ((qe (by rfl) rfl)) ?_);intro A6 c6 w6 hown6 hbel6 hgr6 hat6;have z6:=hbel6.size;(try simp only [Li] at z6);(try simp only [Lo,Lg] at hown6)))
   exact ⟨⟨1,by omega,by go_num,(t5.alloc z5 _).trans hbel6,.inr ⟨rfl,A6,c6,rfl,hown6⟩⟩,by simp [intOf]⟩
  ·go_wp2;go_ret;exact ⟨A',c',rfl,qnB,qnw⟩
theorem vG {P:Program} {fn:Func} {p u:Tmp} {ty:TypeId} (h:fn.results = #[.cell p ty,.tmp u]) (tmps:Array Value) (w:World) (g:Nat) (t:TypeId) (cs:Array Value) (fr:Nat × Nat) (d:TypeDesc)
  (hp:tmps.getD p undef = .pointer (some ⟨g,0,none⟩)) (hg:w.heap[g]? = some (.cells cs t fr))
  (hu:P.underlying ty=some d) (hd:(match d with | .struct _ | .array _ _=>true | _=>false)=true) (hi:(P.info? ty).map (·.size)=some cs.size) :
  (results fn tmps).run P w = .ok (.tuple #[.agg cs,tmps.getD u undef]) w:=by
 rw [results_cell_tmp h,hp]
 simp [asAddr,run_loadVar_row w g t ty cs fr d hg hu hd hi]
theorem TX.below {w X X':World} {base:Nat} {v0:Value} {st:Int} {j:Bool} {O:List Gl} (h:TX w base v0 st j O X) (hb:Below X.heap.size X X') (qnR:base<=w.heap.size):TX w base v0 st j O X':=by
 obtain ⟨A,c,B1,B2,ox,hs,tx⟩:=h;exact ⟨A,c,B1.below hb B1.lt,B2.below hb B2.lt,qb ox hb,hs,tx.below hb qnR⟩
theorem TX.mark {w X:World} {base c k Gr:Nat} {v0:Value} {st:Int} {j:Bool} {O:List Gl} {s:ByteArray} (hk:k<O.length)
  (B1:Blk X w.heap.size 165 (tC (.slice (some ⟨Gr,0,none⟩) O.length c) st j)) (B2:Blk X (w.heap.size+1) 165 (tC (.slice none 0 0) 0 false)) (hs:Sep w.heap.size v0 (.slice (some ⟨Gr,0,none⟩) O.length c))
  (o:X.ownsRow base 61 3 (.slice (some ⟨Gr,0,none⟩) O.length c) O.length (qi O)) (tX:BG base v0 w X) :
  TX w base v0 st j (O.set k ⟨s,O[k].wide,O[k].style⟩) (X.setCell ⟨Gr,k * 3,none⟩ (.string s)):=by
 have hg:=hs.ne Gr rfl;have hbg:=(qlT o).1;have o5:=qme o (show k * 3<O.length * 3 by omega) (.string s);rw [qdT O k hk s] at o5;refine ⟨some ⟨Gr,0,none⟩,c,?_,B2.far (p:=⟨Gr,k * 3,none⟩) L7 _,?_,?_,tX.grown (v:=.slice (some ⟨Gr,0,none⟩) O.length c) ((Le _ _).setCell (p:=⟨Gr,k * 3,none⟩) hbg _) (qio X ⟨Gr,k * 3,none⟩ _) hs⟩
 ·rw [List.length_set];exact B1.far (p:=⟨Gr,k * 3,none⟩) L7 _
 ·rw [List.length_set];exact o5
 ·rw [List.length_set];exact hs
theorem radd (O:List Gl) (st:Int) (J:Bool) (r:Nat) (hr:qR r) (times:Nat) (ht:times<=132) (ho:O.length<=1000000000) (hot : ∀ x∈O,x.text.size<=8000000) (A:Option Addr) (c base:Nat) (w:World) (hb:base<=w.heap.size) (h:w.ownsRow base 61 3 (.slice A O.length c) O.length (qi O)) :
  Calls prog 137 #[.agg (tC (.slice A O.length c) st J),.int .i32 (r:Int),.int .i64 times] w (TRt base (.slice A O.length c) w (vV O st (r:Int) times).2 st J (fun v=>.tuple #[v,.bool (vV O st (r:Int) times).1])):=by
 have HW:=Lh (qlk (r:Int));have hpn:=TX.new (st:=st) (j:=J) h hb;clear h;obtain ⟨v0,hv0⟩ : ∃ x,x=Value.slice A O.length c:=⟨_,rfl⟩
 have HV:=Lh hv0;rw [<- hv0] at hpn ⊢;clear hv0
 by_cases hw0:zR (r:Int)<0
 ·rw [qmd hw0];have hz:(zR (r:Int)==0)=false:=Lm.2 L0;generalize zR (r:Int)=WL at *
  generalize (r:Int)=R at *
  go_enter func137,ntmps137
  go_upto_region 1 with fail
  refine qa (TX w base v0 st J O) hpn ?_;clear hpn;intro X hX
  go_upto_region 2 with (go_at_call 103;refine (HW.out X).mono ?_;rintro e w1 ⟨rfl,hb1⟩;have hT:=hX.below hb1 hb)
  obtain ⟨A6,c6,B1,B2,ox,hs6,tx⟩:=hT;have c0:=B1.cell 0;have c1:=B1.cell 1;have c2:=B1.cell 2;have d0:=B2.cell 0;have d1:=B2.cell 1;have d2:=B2.cell 2;have f0:=B1.frozen 0;have f2:=B1.frozen 2;have g0:=B2.frozen 0;have g1:=B2.frozen 1;have g2:=B2.frozen 2;simp only [tC,La,Lb,Lc] at c0 c1 c2 d0 d1 d2;have R:=TX.copy (v:=.slice A6 O.length c6) (st':=st) (j':=J) B2 ox hs6 tx hb;go_wp2;exact bodyPost_ret (vG rfl _ _ (w.heap.size+1) 165 _ (0,0) _ rfl R.1 underlying165 rfl qy) rfl ⟨A6,c6,rfl,R.2.1,R.2.2,hs6⟩
 ·by_cases hw1:zR (r:Int)=0
  ·by_cases hmany:1<times
   ·rw [qjE hw1 hmany];generalize zR (r:Int)=WL at *
    generalize (r:Int)=R at *
    have i1:(1:Int)<times:=by omega
    subst hw1
    go_enter func137,ntmps137
    go_upto_region 1 with fail
    refine qa (TX w base v0 st J O) hpn ?_;clear hpn;intro X hX
    go_upto_region 2 with (go_at_call 103;refine (HW.out X).mono ?_;rintro e w1 ⟨rfl,hb1⟩;have hT:=hX.below hb1 hb)
    obtain ⟨A6,c6,B1,B2,ox,hs6,tx⟩:=hT;have c0:=B1.cell 0;have c1:=B1.cell 1;have c2:=B1.cell 2;have d0:=B2.cell 0;have d1:=B2.cell 1;have d2:=B2.cell 2;have f0:=B1.frozen 0;have f2:=B1.frozen 2;have g0:=B2.frozen 0;have g1:=B2.frozen 1;have g2:=B2.frozen 2;simp only [tC,La,Lb,Lc] at c0 c1 c2 d0 d1 d2;have R:=TX.copy (v:=.slice A6 O.length c6) (st':=st) (j':=J) B2 ox hs6 tx hb;go_wp2;exact bodyPost_ret (vG rfl _ _ (w.heap.size+1) 165 _ (0,0) _ rfl R.1 underlying165 rfl qy) rfl ⟨A6,c6,rfl,R.2.1,R.2.2,hs6⟩
   ·cases hO:O with
    | nil =>
     subst hO;rw [qiO hw1];generalize zR (r:Int)=WL at *
     generalize (r:Int)=R at *
     have i1 : ¬ (1:Int)<times:=by omega
     subst hw1;simp only [List.length_nil] at hpn ⊢
     go_enter func137,ntmps137
     go_upto_region 1 with fail
     refine qa (TX w base v0 st J ([]:List Gl)) hpn ?_;clear hpn;intro X hX
     go_upto_region 2 with (go_at_call 103;refine (HW.out X).mono ?_;rintro e w1 ⟨rfl,hb1⟩;have hT:=hX.below hb1 hb)
     obtain ⟨A6,c6,B1,B2,ox,hs6,tx⟩:=hT;have c0:=B1.cell 0;have c1:=B1.cell 1;have c2:=B1.cell 2;have d0:=B2.cell 0;have d1:=B2.cell 1;have d2:=B2.cell 2;have f0:=B1.frozen 0;have f2:=B1.frozen 2;have g0:=B2.frozen 0;have g1:=B2.frozen 1;have g2:=B2.frozen 2;simp only [tC,La,Lb,Lc] at c0 c1 c2 d0 d1 d2;have R:=TX.copy (v:=.slice A6 ([]:List Gl).length c6) (st':=st) (j':=J) B2 ox hs6 tx hb;go_wp2;exact bodyPost_ret (vG rfl _ _ (w.heap.size+1) 165 _ (0,0) _ rfl R.1 underlying165 rfl qy) rfl ⟨A6,c6,rfl,R.2.1,R.2.2,hs6⟩
    | cons x O' =>
     have hk : ∃ k,k+1=O.length:=⟨O'.length,by rw [hO];simp⟩
     rw [<- hO];clear hO;obtain ⟨k,hk⟩:=hk;rw [qjh hw1 hmany k hk];have htx:=hot (O[k]'(by omega)) (Lt _);have hkl:k<O.length:=by omega
     have HCell:Hid (∀ (w':World) (A:Option Addr) (c:Nat),w'.ownsRow base 61 3 (.slice A O.length c) O.length (qi O)->∃ G,A=some ⟨G,0,none⟩/\w'.cell? ⟨G,k * 3,none⟩=some (.string (O[k]'hkl).text)):=Lh fun w' A c ho=>by
      obtain ⟨b,o,rfl,_,a0,_⟩:=jE (Rd.of_own ho) hkl rfl;have hz:o=0:=by
       rcases ho.2 with ⟨h0,_⟩ | ⟨g',cap,cur,hv,_⟩
       ·cases h0
       ·simp only [Value.slice.injEq,Option.some.injEq,Addr.mk.injEq,and_true] at hv;exact hv.1.2
      subst hz;rw [Lo] at a0;exact ⟨b,rfl,a0⟩
     have HAt:=Lh (fun w'=>rattach (O[k]'hkl).text (Lj htx L2) r hr w')
     have HMk:Hid (∀ (X:World) (c Gr:Nat) (s:ByteArray),Blk X w.heap.size 165 (tC (.slice (some ⟨Gr,0,none⟩) O.length c) st J)->Blk X (w.heap.size+1) 165 (tC (.slice none 0 0) 0 false)->Sep w.heap.size v0 (.slice (some ⟨Gr,0,none⟩) O.length c) ->
       X.ownsRow base 61 3 (.slice (some ⟨Gr,0,none⟩) O.length c) O.length (qi O)->BG base v0 w X->TX w base v0 st J (O.set k ⟨s,(O[k]'hkl).wide,(O[k]'hkl).style⟩) (X.setCell ⟨Gr,k * 3,none⟩ (.string s))):=Lh fun X c Gr s b1 b2 hs o tX=>TX.mark hkl b1 b2 hs o tX
     have hk9:k<=1000000000:=by omega
     have hk3:k * 3<O.length * 3:=by omega
     generalize (O[k]'hkl)=x at *
     obtain ⟨tx,wd,sx⟩:=x;dsimp only at *
     generalize ye tx (r:Int)=AT at *
     obtain ⟨S,E⟩:=AT;simp only [attV] at HAt;dsimp only;have HNL:Hid (O.length=k+1):=Lh hk.symm;generalize hOS:O.set k ⟨S,wd,sx⟩=OS at *
     have HOS:=Lh hOS;clear hot hkl htx ho hr hk hOS;generalize zR (r:Int)=WL at *
     generalize (r:Int)=R at *
     have i1 : ¬ (1:Int)<times:=by omega
     subst hw1;have hk0:(0:Int)<=k:=by omega
     have hkn:(k:Int)<(k:Int)+1:=by omega
     have hkw:IntKind.i64.wrap ((k:Int)+1-1)=(k:Int):=by rw [Lx];omega
     have hkz:((k:Int)+1==0)=false:=Lm.2 L0
     go_enter func137,ntmps137
     go_upto_region 1 with fail
     refine qa (TX w base v0 st J O) hpn ?_;clear hpn;intro X hX
     go_upto_region 2 with (go_at_call 103;refine (HW.out X).mono ?_;rintro e w1 ⟨rfl,hb1⟩;have hT:=hX.below hb1 hb)
     have hnl:=HNL.out;obtain ⟨A3,c3,B1,B2,o3,hs3,t3⟩:=hT;obtain ⟨G,rfl,hcG⟩:=HCell.out _ _ _ o3;have hG:=hs3.ne G rfl;have zz:=B2.lt;have c0:=B1.cell 0;have c1:=B1.cell 1;have c2:=B1.cell 2;have d0:=B2.cell 0;have d1:=B2.cell 1;have d2:=B2.cell 2;have f0:=B1.frozen 0;have f2:=B1.frozen 2;have g0:=B2.frozen 0;have g1:=B2.frozen 1;have g2:=B2.frozen 2;simp only [tC,La,Lb,Lc] at c0 c1 c2 d0 d1 d2;rw [hnl] at c0
     go_upto_region 7 with (go_at_call 154;refine (HAt.out w1).mono ?_;rintro e w2 ⟨rfl,hb2⟩)
     clear c0 c1 c2 d0 d1 d2 f0 f2 g0 g1 g2;replace B1:=B1.below hb2 B1.lt;replace B2:=B2.below hb2 B2.lt;have o4:=qb o3 hb2;have t4:=t3.below hb2 hb;obtain ⟨hgG,_,_,cur,BG⟩:=qlT o4;have FG:=BG.frozen (k * 3);obtain ⟨G',eG,hcG'⟩:=HCell.out _ _ _ o4;obtain rfl:G=G':=(by simpa using eG)
     have c0:=B1.cell 0;have c1:=B1.cell 1;have c2:=B1.cell 2;have d0:=B2.cell 0;have d1:=B2.cell 1;have d2:=B2.cell 2;have f0:=B1.frozen 0;have f2:=B1.frozen 2;have g0:=B2.frozen 0;have g1:=B2.frozen 1;have g2:=B2.frozen 2;simp only [tC,La,Lb,Lc] at c0 c1 c2 d0 d1 d2;rw [hnl] at c0;have hT:=HMk.out _ _ _ S B1 B2 hs3 o4 t4;rw [HOS.out] at hT
     go_upto_region 8 with fail
     clear c0 c1 c2 d0 d1 d2 f0 f2 g0 g1 g2 B1 B2;obtain ⟨A6,c6,B1,B2,ox,hs6,tx⟩:=hT;have c0:=B1.cell 0;have c1:=B1.cell 1;have c2:=B1.cell 2;have d0:=B2.cell 0;have d1:=B2.cell 1;have d2:=B2.cell 2;have f0:=B1.frozen 0;have f2:=B1.frozen 2;have g0:=B2.frozen 0;have g1:=B2.frozen 1;have g2:=B2.frozen 2;simp only [tC,La,Lb,Lc] at c0 c1 c2 d0 d1 d2;have R:=TX.copy (v:=.slice A6 OS.length c6) (st':=st) (j':=J) B2 ox hs6 tx hb;go_wp2;exact bodyPost_ret (vG rfl _ _ (w.heap.size+1) 165 _ (0,0) _ rfl R.1 underlying165 rfl qy) rfl ⟨A6,c6,rfl,R.2.1,R.2.2,hs6⟩
  ·have hw2:1<=zR (r:Int):=by omega
   have HSp:Hid (∀ wr:World,Calls prog 155 #[.slice (some ⟨wr.heap.size,0,none⟩) 1 1] (wr.alloc (.cells #[.int .i32 (r:Int)] 21)).drew (ql 9 1 id (wr.alloc (.cells #[.int .i32 (r:Int)] 21)).drew 1 (sv [kt r]))):=Lh fun wr =>
    rsplit1 r hr hw2 _ 1 (wr.heap.size+1) _ (qeI wr r 21) (by show wr.heap.size+1<=(wr.alloc _).heap.size;simp)
   rw [qjZ hw2];have HGl:Hid ((⟨kt r,decide (zR (r:Int)=2),st⟩:Gl)=⟨kt r,zR (r:Int)==2,st⟩):=Lh rfl;rw [HGl.out];have HRn:Hid (∀ j,O++List.replicate (j+1) (⟨kt r,zR (r:Int)==2,st⟩:Gl)=(O++List.replicate j ⟨kt r,zR (r:Int)==2,st⟩)++[⟨kt r,zR (r:Int)==2,st⟩]):=Lh fun j=>by rw [List.replicate_succ',List.append_assoc]
   have HLn:Hid (∀ j,j<=times->(O++List.replicate j (⟨kt r,zR (r:Int)==2,st⟩:Gl)).length<=1000000132):=Lh fun j hj=>by rw [Lf,List.length_replicate];omega
   have hz0:(zR (r:Int)==0)=false:=Lm.2 hw1;have hn0:decide (zR (r:Int)<0)=false:=Lk hw0;clear hr hot hw2 HGl hw0 hw1;generalize hWL:zR (r:Int)=WL at *
   generalize kt r=EB at *
   generalize hGL:(⟨EB,WL==2,st⟩:Gl)=GL at *
   replace hGL:=Lh hGL;generalize (r:Int)=R at *
   clear hWL
   go_enter func137,ntmps137
   go_upto_region 1 with fail
   refine qa (TX w base v0 st J O) hpn ?_;clear hpn;intro X hX
   go_upto_region 2 with (go_at_call 103;refine (HW.out X).mono ?_;rintro e w1 ⟨rfl,hb1⟩;have hT:=hX.below hb1 hb)
   go_upto_region 9 with fail
   clear hX hb1;go_wp2
   go_loopw [12] (fun x wr=>∃ j:Nat,j<=times/\x = .int .i64 j/\TX w base v0 st J (O++List.replicate j GL) wr) (fun x _=>times-(intOf x).toNat)
   case atStart=>exact ⟨0,Nat.zero_le _,rfl,by rw [List.replicate_zero,List.append_nil];exact hT⟩
   case round =>
    clear hT;obtain ⟨j,hj,rfl,hT⟩:=hrel
    by_cases hlt:j<times
    ·have qnQ:=HLn.out j hj;have HQl:Hid ((O++List.replicate (j+1) GL).length=(O++List.replicate j GL).length+1):=Lh (by rw [HRn.out j,Lf];rfl);have HQs:Hid (qi (O++List.replicate (j+1) GL)=qi (O++List.replicate j GL)++ym GL):=Lh (by rw [HRn.out j,kF,qbe]);clear HRn HLn HW;generalize O++List.replicate j GL=OJ at *
     obtain ⟨A6,c6,B1,B2,ox,hs6,tx⟩:=hT;have HS6:=Lh hs6;have zz:=B2.lt;have zg:=B1.lt;have c0:=B1.cell 0;have c1:=B1.cell 1;have c2:=B1.cell 2;have d0:=B2.cell 0;have d1:=B2.cell 1;have d2:=B2.cell 2;have f0:=B1.frozen 0;have f2:=B1.frozen 2;have g0:=B2.frozen 0;have g1:=B2.frozen 1;have g2:=B2.frozen 2;simp only [tC,La,Lb,Lc] at c0 c1 c2 d0 d1 d2;have HE:=Lh (HSp.out wr);have o0:=qb (World.ownsRow.alloc ox (.cells #[.int .i32 R] 21)) (Le _ _).drew;have B10:=(Blk.alloc B1 (.cells #[.int .i32 R] 21)).drew;have B20:=(Blk.alloc B2 (.cells #[.int .i32 R] 21)).drew;have t0:BG base v0 w (wr.alloc (.cells #[.int .i32 R] 21)).drew:=(tx.alloc hb _).drew hb;have hG:=hGL.out;subst hG;clear hGL hs6
     go_upto_region 12 with fail
     go_region_law (first
      | (go_simp;go_at_call 155;refine HE.out.mono ?_;rintro e w5 ⟨A5,c5,rfl,o5s,hb5⟩;obtain ⟨Bs,Os,rfl,_,hcs⟩:=(Rd.of_own o5s).at_ (Nat.succ_pos _);rw [yM _ _ (Nat.succ_pos _),Nat.add_zero] at hcs;have B15:=B10.below hb5 B10.lt;have B25:=B20.below hb5 B20.lt;have z5:w.heap.size+1<w5.heap.size:=B25.lt;have z6:w.heap.size<w5.heap.size:=B15.lt;have o5:=qb o0 hb5;have t5:=t0.below hb5 hb;have c50:=B15.cell 0;have c51:=B15.cell 1;simp only [tC,La,Lb,Lc] at c50 c51)
      | (refine jZ rfl _ _ _ rfl qbz (base) _ rfl ((o5.alloc _)) _ _ rfl ((qe (xs:=ym ⟨EB,WL==2,st⟩) rfl rfl)) (rfl) ?_;intro A4 c4 w4 qmC qmy qmG qmI;have z4:=qmy.size;(try simp only [Lo,Lg] at qmC);have B4:=(Blk.alloc B15 (.cells (ym ⟨EB,WL==2,st⟩).toArray 61)).grown qmG (qh7 fun k hk=>(HS6.out.ne k hk).1);have c42:=B4.cell 0;have f42:=B4.frozen 0;simp only [tC,La,Lb,Lc] at c42))
     all_goals go_wp2
     all_goals exact ⟨⟨j+1,by omega,by go_num,TX.put (Blk.alloc B15 _) (Blk.alloc B25 _) HS6.out (t5.alloc hb _) hb qmC qmy qmG qmI HQl.out HQs.out⟩,by simp [intOf];omega⟩
    ·obtain rfl:j=times:=by omega
     clear HRn HLn HW HSp;obtain ⟨OJ,hOJ⟩ : ∃ x,x=O++List.replicate j GL:=⟨_,rfl⟩
     rw [<- hOJ] at hT;have HOJ:=Lh hOJ;clear hOJ;obtain ⟨A6,c6,B1,B2,ox,hs6,tx⟩:=hT;have c0:=B1.cell 0;have c1:=B1.cell 1;have c2:=B1.cell 2;have d0:=B2.cell 0;have d1:=B2.cell 1;have d2:=B2.cell 2;have f0:=B1.frozen 0;have f2:=B1.frozen 2;have g0:=B2.frozen 0;have g1:=B2.frozen 1;have g2:=B2.frozen 2;simp only [tC,La,Lb,Lc] at c0 c1 c2 d0 d1 d2;have R:=TX.copy (v:=.slice A6 OJ.length c6) (st':=st) (j':=J) B2 ox hs6 tx hb;go_wp2;rw [<- HOJ.out];exact bodyPost_ret (vG rfl _ _ (w.heap.size+1) 165 _ (0,0) _ rfl R.1 underlying165 rfl qy) rfl ⟨A6,c6,rfl,R.2.1,R.2.2,hs6⟩
theorem qah {P:Program} {fn:Func} {p u u2:Tmp} {ty:TypeId} (h:fn.results = #[.cell p ty,.tmp u,.tmp u2]) (tmps:Array Value) (w:World) (g:Nat) (t:TypeId) (cs:Array Value) (fr:Nat × Nat) (d:TypeDesc)
  (hp:tmps.getD p undef = .pointer (some ⟨g,0,none⟩)) (hg:w.heap[g]? = some (.cells cs t fr))
  (hu:P.underlying ty=some d) (hd:(match d with | .struct _ | .array _ _=>true | _=>false)=true) (hi:(P.info? ty).map (·.size)=some cs.size) :
  (results fn tmps).run P w = .ok (.tuple #[.agg cs,tmps.getD u undef,tmps.getD u2 undef]) w:=by
 simp only [results,h];have hp':tmps[p]?.getD undef = .pointer (some ⟨g,0,none⟩):=by simpa using hp
 simp [Sem.run_bind,Result.andThen,hp',asAddr,run_loadVar_row w g t ty cs fr d hg hu hd hi]
def glN (l:List Chg):Nat:=(l.map fun c=>c.glyphs.length+264).sum
theorem qb3 (c:Chg) (l:List Chg):glN (c::l)=c.glyphs.length+264+glN l:=by simp [glN]
def LenV (v:Vw) (M:Nat):Prop:=∀ l∈v.rows,l.length<=M
theorem LenV.getD {v:Vw} {M:Nat} (h:LenV v M) (i:Nat):(v.rows.getD i []).length<=M:=by
 rw [List.getD_eq_getElem?_getD]
 cases hx:v.rows[i]? with
 | none=>exact Nat.zero_le _
 | some l=>exact h l (List.mem_of_getElem? hx)
theorem LenV.step {v:Vw} {c:Chg} {M:Nat} (h:LenV v M) (hr:zh v c=true):LenV (jY v c) (M+(c.glyphs.length+264)):=by
 have h0 : ∀ i,(v.rows.getD i []).length<=M+(c.glyphs.length+264):=fun i=>by have:=h.getD i;omega
 unfold jY;unfold zh at hr
 by_cases h1:c.kind=1
 ·rw [if_pos h1];intro l hl;simp only [List.mem_map] at hl;obtain ⟨i,_,rfl⟩:=hl;have h2:=qdP ((v.rows.getD i []).take (qaT c.col (v.rows.getD i [])));rw [Lu] at h2;have:=h0 i;unfold kr
  omega
 ·rw [if_neg h1] at hr ⊢
  by_cases h2:c.kind=2
  ·rw [if_pos h2];intro l hl;simp only [List.mem_map] at hl;obtain ⟨i,_,rfl⟩:=hl;unfold kP
   split
   ·split
    ·exact h0 _
    ·exact Nat.zero_le _
   ·exact h0 _
  ·rw [if_neg h2] at hr ⊢
   by_cases h3:c.kind=3
   ·rw [if_pos h3,decide_eq_true_iff] at hr;rw [if_pos h3];intro l hl
    rcases List.mem_or_eq_of_mem_set hl with hl | rfl
    ·have:=h l hl;omega
    ·have h4:=qdP (zV (v.rows.getD c.row.toNat []) c.col.toNat c.count.toNat c.glyphs);have h5:=h.getD c.row.toNat;unfold zV at h4 ⊢;simp only [Lf,Lu,List.length_replicate,List.length_drop] at h4
     omega
   ·rw [if_neg h3];intro l hl;have:=h l hl
    omega
theorem kI:(prog.info? 24).map (fun x=>x.size)=some 6:=by kernel_rfl
structure OwV (N:Nat) (X:World) (v:Vw) (A:Option Addr) (n c:Nat) (rs:List RowM):Prop where
 rows:X.ownsRow N 38 1 (.slice A n c) n (zQ rs)
 gl : ∀ x∈rs,X.ownsRow N 61 3 (.slice x.A x.l.length x.cap) x.l.length (qi x.l)
 eq:v.rows=rls rs
section
variable {N N' n c : Nat} {X X' : World} {v : Vw} {A : Option Addr} {rs : List RowM}
theorem OwV.below (h:OwV N X v A n c rs) (hb:Below X.heap.size X X'):OwV N X' v A n c rs:=⟨qb h.rows hb,fun x hx=>qb (h.gl x hx) hb,h.eq⟩
theorem OwV.less (h:OwV N X v A n c rs) (hn:N'<=N):OwV N' X v A n c rs:=⟨qt h.rows hn,fun x hx=>qt (h.gl x hx) hn,h.eq⟩
theorem OwV.far (h:OwV N X v A n c rs) {p:Addr} (hp:p.block<N) (u:Value):OwV N (X.setCell p u) v A n c rs:=by
 have hne : ∀ {B:Option Addr} {n c size:Nat} {e:TypeId} {xs:List Value},X.ownsRow N e size (.slice B n c) n xs->(Value.slice B n c).ownBlock≠some p.block:=fun ho e=>by
  rw [qC] at e;have:=(vB ho _ e).1
  omega
 exact ⟨ownsRow_setCell_other h.rows (hne h.rows) _,fun x hx=>ownsRow_setCell_other (h.gl x hx) (hne (h.gl x hx)) _,h.eq⟩
theorem OwV.rdV (h:OwV N X v A n c rs):RdV X X.heap.size v A n c rs :=
 ⟨⟨Rd.of_own h.rows,fun x hx=>qe8 (h.gl x hx)⟩,h.eq,(yd h.rows).1,(yd h.rows).2⟩
end
theorem OwV.none_ (N:Nat) (w:World):OwV N w vw0 none 0 0 []:=⟨zY _ _ _ _,fun x hx=>(by cases hx),rfl⟩
theorem ED.ow {base g c:Nat} {v:Vw} {rs:List RowM} {A:Option Addr} {X:World} (h:ED base g v rs A c X):OwV base X v A rs.length c rs:=⟨h.rows,h.gl,h.eq⟩
def ApR (r:Vw × Int) (w:World) (e:Ending) (w':World):Prop :=
 Below w.heap.size w w'/\∃ A n c rs,∃ i:Int,e = .returned (.tuple #[.agg (vwC r.1 A n c),.int .i64 i,.int .i64 r.2])/\OwV w.heap.size w' r.1 A n c rs
theorem ED.far {base g c:Nat} {v:Vw} {rs:List RowM} {A:Option Addr} {X:World} (h:ED base g v rs A c X) {p:Addr} (hp:p.block<base) (u:Value):ED base g v rs A c (X.setCell p u):=by
 have hne : ∀ {B:Option Addr} {n c size:Nat} {e:TypeId} {xs:List Value},X.ownsRow base e size (.slice B n c) n xs->(Value.slice B n c).ownBlock≠some p.block:=fun ho e=>by
  rw [qC] at e;have:=(vB ho _ e).1
  omega
 exact ⟨h.blk.far (by have:=h.lo;omega) _,ownsRow_setCell_other h.rows (hne h.rows) _,fun x hx=>ownsRow_setCell_other (h.gl x hx) (hne (h.gl x hx)) _,h.eq,h.lo,h.dj⟩
abbrev ZB (X:World) (g:Nat):Prop:=Blk X g 24 (vwC vw0 none 0 0)
theorem ZB.facts {X:World} {g:Nat} (h:ZB X g):X.cell? ⟨g,0,none⟩=some (.int .i64 0)/\X.cell? ⟨g,1,none⟩=some (.int .i64 0)/\X.cell? ⟨g,2,none⟩=some (.slice none 0 0)/\X.cell? ⟨g,3,none⟩=some (.int .i64 0)/\X.cell? ⟨g,4,none⟩=some (.int .i64 0)/\X.cell? ⟨g,5,none⟩=some (.bool false) /\
  X.frozen? ⟨g,0,none⟩=false/\X.frozen? ⟨g,1,none⟩=false/\X.frozen? ⟨g,2,none⟩=false/\X.frozen? ⟨g,3,none⟩=false/\X.frozen? ⟨g,4,none⟩=false/\X.frozen? ⟨g,5,none⟩=false :=
 ⟨h.cell 0,h.cell 1,h.cell 2,h.cell 3,h.cell 4,h.cell 5,h.frozen 0,h.frozen 1,h.frozen 2,h.frozen 3,h.frozen 4,h.frozen 5⟩
theorem ZB.set6 {X:World} {g:Nat} (h:ZB X g) (v:Vw) (A:Option Addr) (n c:Nat):Blk ((((((X.setCell ⟨g,0,none⟩ (.int .i64 v.width)).setCell ⟨g,1,none⟩ (.int .i64 v.height)).setCell ⟨g,2,none⟩ (.slice A n c)).setCell ⟨g,3,none⟩ (.int .i64 v.row)).setCell ⟨g,4,none⟩ (.int .i64 v.col)).setCell ⟨g,5,none⟩ (.bool v.vis)) g 24 (vwC v A n c) :=
 (((((h.set_ 0 _).set_ 1 _).set_ 2 _).set_ 3 _).set_ 4 _).set_ 5 _
theorem qap {B g:Nat} {X Y:World} (h:Below B X Y) (hg:B<=g) (u0 u1 u2 u3 u4 u5:Value):Below B X ((((((Y.setCell ⟨g,0,none⟩ u0).setCell ⟨g,1,none⟩ u1).setCell ⟨g,2,none⟩ u2).setCell ⟨g,3,none⟩ u3).setCell ⟨g,4,none⟩ u4).setCell ⟨g,5,none⟩ u5) :=
 (((((h.setCell (p:=⟨g,0,none⟩) hg _).setCell (p:=⟨g,1,none⟩) hg _).setCell (p:=⟨g,2,none⟩) hg _).setCell (p:=⟨g,3,none⟩) hg _).setCell (p:=⟨g,4,none⟩) hg _).setCell (p:=⟨g,5,none⟩) hg _
theorem qkz (l:List Chg) (k:Nat):glN (l.drop k)<=glN l:=by
 induction l generalizing k with
 | nil=>simp [glN]
 | cons c t ih =>
  cases k with
  | zero=>exact Ld _
  | succ k=>rw [List.drop_succ_cons,qb3];have:=ih k;omega
def ApL (w:World) (base g:Nat) (cs:List ChgM) (R:Vw × Int) (k:Nat) (X:World):Prop :=
 ∃ v rs A c,ED base g v rs A c X/\OnV v/\LenV v (100000000-glN (zo (cs.drop k)))/\R=goV v (zo (cs.drop k))/\ZB X (w.heap.size+1)/\Below w.heap.size w X/\base<=X.heap.size
theorem qbd {cs:List ChgM} {k:Nat} (h:k<cs.length):zo (cs.drop k)=cs[k].c::zo (cs.drop (k+1)):=by
 rw [Ls h]
 rfl
theorem apply_ (v:Vw) (A:Option Addr) (n c B:Nat) (rs:List RowM) (cs:List ChgM) (Ac:Option Addr) (nc cc:Nat) (w:World) (rd:RdV w B v A n c rs) (rc:RdC w B Ac nc cs) (hcc:nc<=cc) (hB:B<=w.heap.size)
  (hM : ∀ x∈rs,x.l.length+glN (zo cs)<=100000000) (hz : ∀ x∈rs,∀ g∈x.l,g.text.size<=1000000000) (hgz : ∀ x∈cs,x.c.glyphs.length<=100000000/\∀ g∈x.c.glyphs,g.text.size<=1000000000) (hnc:nc<=1000000) (hu:U8 w) :
  Calls prog 18 #[.agg (vwC v A n c),.slice Ac nc cc] w (ApR (yx v (zo cs)) w):=by
 obtain ⟨R,hR⟩ : ∃ R,Hid (yx v (zo cs)=R):=⟨_,Lh rfl⟩
 rw [hR.out];have HCh:Hid (∀ w',Below w.heap.size w w'->Calls prog 28 #[.agg (vwC v A n c)] w' (qh (.int .i64 (js v)) w')):=Lh fun w' hb=>qig v A n c w.heap.size rs w' ((rd.more hB).below hb) hb.size (fun x hx=>⟨by have:=hM x hx;omega,hz x hx⟩) (hu.below hb)
 have HOp:Hid (js v=0->∀ w',Below w.heap.size w w'->Calls prog 29 #[.agg (vwC v A n c)] w' fun e w''=>∃ g rs' A' c',e = .returned (.pointer (some ⟨g,0,none⟩))/\ED w'.heap.size g v rs' A' c' w''/\Below w'.heap.size w' w''):=Lh fun h0 w' hb=>by
  have h1:=OnV.of h0;have h2:=jW.1 h1.size;have h3:=h1.rows;have h4:=rd.len;exact open_ v A n c w.heap.size rs w' ((rd.more hB).below hb) hb.size L0 L0 (fun x hx=>by have:=hM x hx;omega)
 have HLn:Hid (LenV v (100000000-glN (zo cs))):=Lh fun l hl=>by
  rw [rd.2.1] at hl;obtain ⟨x,hx,rfl⟩:=List.mem_map.1 hl;have:=hM x hx
  omega
 have HGl0:Hid (v.rows≠[]->glN (zo cs)<=100000000):=Lh fun h=>by
  rw [rd.2.1] at h
  cases rs with
  | nil=>exact absurd rfl h
  | cons x t=>have:=hM x L1;omega
 have HU:=Lh hu;have HRc:=Lh (rc.more hB);have HGz:=Lh hgz;have hnl:cs.length=nc:=rc.len;clear rd rc hM hz hgz hu
 go_enter func18,ntmps18
 go_upto_region 1 with fail
 refine qa (fun X=>VwBox w v A n c X/\ZB X (w.heap.size+1)) ⟨(VwBox.new w v A n c).on ((Le _ _).alloc L1 _),Blk.new_ L1⟩ ?_;rintro X ⟨hX,hZ⟩;obtain ⟨c0,c1,c2,c3,c4,c5⟩:=hX.cells;have hb:=hX.2;have hzX:=hX.lt;have hZl:=hZ.lt
 by_cases hv:js v=0
 ·have h0:(js v != 0)=false:=by rw [hv];rfl
  have hOn:=OnV.of hv;have hRe:Hid (R=goV v (zo cs)):=Lh (by rw [<- hR.out,yx,if_neg (by simpa using hv)]);have hs0:=jW.1 hOn.size;have hHO:=Lh (HOp.out hv);have hGl1:glN (zo cs)<=100000000:=HGl0.out fun e=>by have h1:=hOn.rows;rw [e] at h1;simp at h1;omega
  have hLn:Hid (LenV v (100000000-glN (zo cs))):=HLn;have hOnH:=Lh hOn;have hnn:nc<=9223372036854775807:=by omega
  generalize js v=VC at *
  clear hv HOp HLn HGl0 hR hs0 hOn
  go_upto_region 3 with (go_at_call 28;refine (HCh.out _ hb).mono ?_;rintro e w1 ⟨rfl,hb1⟩)
  have hX1:=hX.on hb1;have hZ1:=hZ.below hb1 hZl;have hbz:=hX1.2;have hzz:=hX1.lt;have hZl1:=Ly hZl hb1.size;clear hX hZ c0 c1 c2 c3 c4 c5 hb1 hb h0;obtain ⟨c0,c1,c2,c3,c4,c5⟩:=hX1.cells;have hI:Hid (∀ g rs' A' c' w2,ED w1.heap.size g v rs' A' c' w2->Below w1.heap.size w1 w2->ApL w w1.heap.size g cs R 0 w2):=Lh fun g rs' A' c' w2 hE hb2=>⟨v,rs',A',c',hE,hOnH.out,hLn.out,hRe.out,hZ1.below hb2 hZl1,hbz.trans (hb2.mono L0),hb2.size⟩
  go_upto_region 5 with (go_at_call 29;refine (hHO.out _ hbz).mono ?_;rintro e w2 ⟨g,rs',A',c',rfl,hE,hb2⟩)
  have hI0:=hI.out _ _ _ _ _ hE hb2;have hbw:w.heap.size+2<=w1.heap.size:=by omega
  generalize w1.heap.size=base at *
  clear c0 c1 c2 c3 c4 c5 hE hb2 hI hX1 hZ1 hZl1 hzz hbz hHO hLn hRe hOnH HCh hzX hZl
  go_loopw [21] (fun x wr=>∃ k:Nat,k<=nc/\x = .int .i64 k/\ApL w base g cs R k wr) (fun x _=>nc-(intOf x).toNat)
  case atStart=>exact ⟨0,Nat.zero_le _,rfl,hI0⟩
  case round =>
   clear hI0;obtain ⟨k,hk,rfl,v1,rs1,A1,d1,hE,hOn,hLn,hRe,hZ,hbz,hbb⟩:=hrel
   by_cases hlt:k<nc
   ·have hkc:k<cs.length:=by omega
    obtain ⟨b,o,rfl,hbl,k0,k1,k2,k3,k4,k5⟩:=(HRc.out.below hbz).at_ hkc;have hxm:=Lt hkc;have hs:=jW.1 hOn.size;have qnQ:(rs1.length:Int)=v1.height:=by rw [<- hOn.rows,hE.eq,vJ]
    have hg1:=qkz (zo cs) k;rw [show (zo cs).drop k=zo (cs.drop k) from by unfold zo;rw [List.map_drop],qbd hkc,qb3] at hg1;rw [qbd hkc,qb3] at hLn;have hrl : ∀ x∈rs1,x.l.length<=100000000:=fun x hx=>by
     have:=hLn x.l (by rw [hE.eq];exact List.mem_map_of_mem hx)
     omega
    have HCk:Hid (∀ w',Below wr.heap.size wr w'->Calls prog 30 #[.pointer (some ⟨g,0,none⟩),jH cs[k].c cs[k].A cs[k].cap] w' (qh (.int .i64 (qan v1 cs[k].c)) w')):=Lh fun w' hb'=>by
     have h1:=hbz.trans (hb'.mono (Lj L0 hbb));exact ccheck_ (B:=w.heap.size) (hE.below hb') qnQ L0 L0 L0 (fun x hx=>Lj (hrl x hx) L2) _ _ _ h1.size ((HRc.out.below h1).gl _ hxm).1 (Lj (HGz.out _ hxm).1 L2) (HGz.out _ hxm).2 (HU.out.below h1)
    have HAp:Hid (qan v1 cs[k].c=0->∀ w',Below wr.heap.size wr w'->Calls prog 31 #[.pointer (some ⟨g,0,none⟩),jH cs[k].c cs[k].A cs[k].cap] w' fun e w''=>e = .returned (.tuple #[])/\ApL w base g cs R (k+1) w''):=Lh fun h0 w' hb'=>by
     have h1:=hbz.trans (hb'.mono (Lj L0 hbb));obtain ⟨q1,q2,q3,q4⟩:=qey h0;refine (capply_ (B:=w.heap.size) (hE.below hb') (Lj hbb hb'.size) qnQ L0 hrl _ _ _ L0 ((HRc.out.below h1).gl _ hxm).1 (HGz.out _ hxm).1 q1 q3).mono ?_;rintro e w'' ⟨rfl,⟨rs2,A2,c2,hE2⟩,hb2⟩;have hb3:=(hb'.mono hbb).trans hb2;refine ⟨rfl,_,rs2,A2,c2,hE2,hOn.step h0,?_,?_,hZ.below hb3 L0,hbz.trans (hb3.mono L0),Lj (Lj hbb hb'.size) hb2.size⟩
     ·intro l hl;have:=(hLn.step q3) l hl
      omega
     ·rw [hRe,qbd hkc,goV,if_neg (by simpa using h0)]
    have HRn:Hid (qan v1 cs[k].c≠0->R=(vw0,qan v1 cs[k].c)):=Lh fun h0=>by
     rw [hRe,qbd hkc,goV,if_pos h0]
    have hZl:w.heap.size+1<wr.heap.size:=by omega
    have hZ':=Lh hZ;have hbz':=Lh hbz;clear hE hOn hLn hRe hg1 hrl qnQ hs hxm hZ hbz;generalize qan v1 cs[k].c=F at *
    generalize cs[k]=x at *
    obtain ⟨⟨kind,row,col,count,til,gl⟩,Ag,cap⟩:=x;dsimp only at *
    have hkn:(k:Int)<nc:=by omega
    have hkcc:(k:Int)<cc:=by omega
    go_upto_region 7 with fail
    refine qa (ChgBox wr ⟨kind,row,col,count,til,gl⟩ Ag cap) (ChgBox.new wr ⟨kind,row,col,count,til,gl⟩ Ag cap _) ?_;intro wb hX;obtain ⟨c0,c1,c2,c3,c4,c5,hb,hzX⟩:=id hX;dsimp only at c0 c1 c2 c3 c4 c5;clear k0 k1 k2 k3 k4 k5 hkn hkcc
    by_cases hf:F=0
    ·subst hf;have h00:((0:Int) != 0)=false:=rfl;have HA:=Lh (HAp.out rfl);clear HAp HRn
     go_wp2_with (first
      | (go_at_call 30;refine (HCk.out _ hb).mono ?_;rintro e w1 ⟨rfl,hb1⟩;have hX1:=hX.on hb1;obtain ⟨d0,d1,d2,d3,d4,d5,hbd,hzd⟩:=hX1;dsimp only at d0 d1 d2 d3 d4 d5)
      | (go_at_call 31;refine (HA.out _ hbd).mono ?_;rintro e w2 ⟨rfl,hL⟩))
     exact ⟨⟨k+1,by omega,by go_num,hL⟩,by simp [intOf];omega⟩
    ·have hne:(F != 0)=true:=Ln.2 hf;have hRn:=Lh (HRn.out hf);clear HAp HRn hf;have hZb:=hZ'.out.below hb hZl
     go_wp2_with (go_at_call 30;refine (HCk.out _ hb).mono ?_;rintro e w1 ⟨rfl,hb1⟩;have hZ1:=hZb.below hb1 (Ly hZl hb.size);obtain ⟨z0,z1,z2,z3,z4,z5,y0,y1,y2,y3,y4,y5⟩:=ZB.facts hZ1)
     have hZ2:=ZB.set6 hZ1 vw0 none 0 0;have hbq:=hbz'.out.trans ((hb.trans (hb1.mono hb.size)).mono (show w.heap.size<=wr.heap.size by omega));exact bodyPost_ret (qah rfl _ _ (w.heap.size+1) 24 _ (0,0) _ rfl hZ2 underlying24 rfl kI) rfl (by rw [hRn.out];exact ⟨qap hbq L0 _ _ _ _ _ _,none,0,0,[],k,rfl,OwV.none_ _ _⟩)
   ·obtain rfl:k=nc:=by omega
    have hRe2:R=if qcz v1=true then (v1,0) else (vw0,12):=by
     rw [hRe,Lv L0,show zo []=[] from rfl,goV]
    have hm : ∀ x∈rs1,x.l.length<=100000000:=fun x hx=>by
     have:=hLn x.l (by rw [hE.eq];exact List.mem_map_of_mem hx)
     omega
    have hE':=Lh hE;have hZ':=Lh hZ;have hbz':=Lh hbz;have hRl:v1.rows=rls rs1:=hE.eq;have hRd:Hid (∀ j (h:j<rs1.length) w',Below wr.heap.size wr w'->Calls prog 32 #[.slice rs1[j].A rs1[j].l.length rs1[j].cap] w' (qh (.int .i64 (vM rs1[j].l:Nat)) w')):=Lh fun j h w' hb=>by
     have hxm:=Lt h;exact qeY _ _ _ _ wr.heap.size w' (by have:=hm _ hxm;omega) ((Rd.of_own (hE.gl _ hxm)).below hb) hb.size
    have hRt:Hid ((∀ j (h:j<rs1.length),(vM rs1[j].l:Int)<=v1.width)->R=(v1,0)):=Lh fun h=>by
     rw [hRe2,if_pos];unfold qcz;rw [List.all_eq_true,hRl];intro l hl;obtain ⟨x,hx,rfl⟩:=List.mem_map.1 hl;obtain ⟨i,hi,rfl⟩:=List.getElem_of_mem hx;exact Ll (h i hi)
    have hRf:Hid (∀ j (h:j<rs1.length),v1.width<(vM rs1[j].l:Int)->R=(vw0,12)):=Lh fun j h hl=>by
     rw [hRe2,if_neg];unfold qcz;rw [List.all_eq_true,hRl];intro h2;have:=of_decide_eq_true (h2 rs1[j].l (List.mem_map_of_mem (Lt h)))
     omega
    have hcl:Hid (∀ j,j<rs1.length->∃ G1,A1=some ⟨G1,0,none⟩/\G1<wr.heap.size/\wr.cell? ⟨G1,j,none⟩=(zQ rs1)[j]?):=Lh fun j hj=>by
     obtain ⟨G1,cap1,hA,hG1,-⟩:=hE.rows.form L0;obtain ⟨rfl,rfl⟩:A1=some ⟨G1,0,none⟩/\d1=cap1:=by injection hA with h1 _ h2;exact ⟨h1,h2⟩
     exact ⟨G1,rfl,(vB hE.rows G1 rfl).2,hE.rows.cellAt j L0⟩
    have hgl:=hE.blk.lt;have hcaps:=yd hE.rows;obtain ⟨g0,g1,g2,g3,g4,g5⟩:=qw hE.blk;have hn9:(rs1.length:Int)<=9223372036854775807:=by have h1:=hcaps.1;have h2:=hcaps.2;unfold maxLen at h2;omega
    have hZl:w.heap.size+1<wr.heap.size:=by omega
    clear hE hOn hLn hRe hRe2 hm hRl hZ hcaps;obtain ⟨wo,rfl⟩ : ∃ x:World,x=wr:=⟨_,rfl⟩
    go_wp2
    go_loopw [44] (fun x wz=>∃ j:Nat,j<=rs1.length/\x = .int .i64 j/\Below wo.heap.size wo wz/\Hid (∀ i (h:i<rs1.length),i<j->(vM rs1[i].l:Int)<=v1.width)) (fun x _=>rs1.length-(intOf x).toNat)
    case atStart=>exact ⟨0,Nat.zero_le _,rfl,Le _ _,Lh fun i h h0=>absurd h0 (Nat.not_lt_zero _)⟩
    case round =>
     obtain ⟨j,hj,rfl,hbq,hq⟩:=hrel
     by_cases hjl:j<rs1.length
     ·obtain ⟨G1,rfl,hG1,hc1⟩:=hcl.out j hjl;rw [yF hjl] at hc1;have hc:=(hbq.cell (p:=⟨G1,j,none⟩) hG1).trans hc1;have hqz:=hbq.size;have hw:Hid (∀ w',Below wr.heap.size wr w'->Calls prog 32 #[.slice rs1[j].A rs1[j].l.length rs1[j].cap] w' fun e w''=>e = .returned (.int .i64 (vM rs1[j].l:Nat))/\Below wr.heap.size wr w''):=Lh fun w' h=>(hRd.out j hjl w' (hbq.trans (h.mono hqz))).mono fun e w'' ⟨h1,h2⟩=>⟨h1,h.trans (h2.mono h.size)⟩
      have hR2:=Lh (hRf.out j hjl);have hQ2:Hid ((vM rs1[j].l:Int)<=v1.width->∀ i (h:i<rs1.length),i<j+1->(vM rs1[i].l:Int)<=v1.width):=Lh fun h0 i h hi=>by
       by_cases hij:i=j
       ·subst hij;exact h0
       ·exact hq.out i h L0
      have e0:=(hbq.cell (p:=⟨g,0,none⟩) hgl).trans g0;have hgw:=Ly hgl hqz;clear hc1 hq hRf hRd hcl;generalize rs1[j]=x at *
      obtain ⟨l,Al,cl⟩:=x;dsimp only at *
      generalize vM l=rw0 at *
      have hji:(j:Int)<rs1.length:=by omega
      by_cases hgt:v1.width<(rw0:Int)
      ·have hd:decide (v1.width<(rw0:Int))=true:=Ll hgt;have hR3:=Lh (hR2.out hgt);have hZ1:=hZ'.out.below hbq hZl;have hZl1:=Ly hZl hqz;clear hR2 hQ2
       go_upto_region 15 with fail
       go_region_law (go_simp;go_at_call 32;refine (hw.out _ (by first | exact Le _ _ | exact (Le _ _).drew)).mono ?_;rintro e w2 ⟨rfl,b2⟩;have e2:=(b2.cell (p:=⟨g,0,none⟩) hgw).trans e0;have hZ2:=hZ1.below b2 hZl1;obtain ⟨z0,z1,z2,z3,z4,z5,y0,y1,y2,y3,y4,y5⟩:=ZB.facts hZ2)
       all_goals go_wp2
       all_goals exact bodyPost_ret (qah rfl _ _ (w.heap.size+1) 24 _ (0,0) _ rfl (ZB.set6 hZ2 vw0 none 0 0) underlying24 rfl kI) rfl (by rw [hR3.out];exact ⟨qap (hbz'.out.trans ((hbq.trans (b2.mono hqz)).mono L0)) L0 _ _ _ _ _ _,none,0,0,[],k,rfl,OwV.none_ _ _⟩)
      ·have hd:decide (v1.width<(rw0:Int))=false:=Lk hgt;have hQ3:=Lh (hQ2.out L0);clear hR2 hQ2
       go_upto_region 15 with fail
       go_region_law (go_simp;go_at_call 32;refine (hw.out _ (by first | exact Le _ _ | exact (Le _ _).drew)).mono ?_;rintro e w2 ⟨rfl,b2⟩;have e2:=(b2.cell (p:=⟨g,0,none⟩) hgw).trans e0)
       all_goals go_wp2
       all_goals exact ⟨⟨j+1,by omega,by go_num,hbq.trans (b2.mono hqz),hQ3⟩,by simp [intOf];omega⟩
     ·obtain rfl:j=rs1.length:=by omega
      have hRz:=Lh (hRt.out fun i h=>hq.out i h h);have hZ1:=hZ'.out.below hbq hZl;have hE2:=hE'.out.below hbq;obtain ⟨c0,c1,c2,c3,c4,c5⟩:=qw hE2.blk;obtain ⟨z0,z1,z2,z3,z4,z5,y0,y1,y2,y3,y4,y5⟩:=ZB.facts hZ1;have hlb:w.heap.size+1<base:=by omega
      have hE3:=Lh (((((((hE2.far (p:=⟨w.heap.size+1,0,none⟩) hlb (.int .i64 v1.width)).far (p:=⟨w.heap.size+1,1,none⟩) hlb (.int .i64 v1.height)).far (p:=⟨w.heap.size+1,2,none⟩) hlb (.slice A1 rs1.length d1)).far (p:=⟨w.heap.size+1,3,none⟩) hlb (.int .i64 v1.row)).far (p:=⟨w.heap.size+1,4,none⟩) hlb (.int .i64 v1.col)).far (p:=⟨w.heap.size+1,5,none⟩) hlb (.bool v1.vis)).ow.less (Lr (Nat.lt_of_succ_lt hlb)));have hng:w.heap.size+1≠g:=by have:=hE2.lo;omega
      have hR:=ZB.set6 hZ1 v1 A1 rs1.length d1;have hb6:=qap (B:=w.heap.size) (hbz.trans (hbq.mono L0)) (g:=w.heap.size+1) L0 (.int .i64 v1.width) (.int .i64 v1.height) (.slice A1 rs1.length d1) (.int .i64 v1.row) (.int .i64 v1.col) (.bool v1.vis);clear hE' hZ' hq hRt hRf hRd hcl g0 g1 g2 g3 g4 g5 hE2 hZ1;go_wp2;exact bodyPost_ret (qah rfl _ _ (w.heap.size+1) 24 _ (0,0) _ rfl hR underlying24 rfl kI) rfl (by rw [hRz.out];exact ⟨hb6,A1,rs1.length,d1,rs1,0,rfl,hE3.out⟩)
 ·have hne:(js v != 0)=true:=Ln.2 hv;have hRe:Hid (R=(vw0,1)):=Lh (by rw [<- hR.out,yx,if_pos (by simpa using hv)]);generalize js v=VC at *
  clear hv HOp HLn HGl0 HRc HGz hR
  go_wp2_with (go_at_call 28;refine (HCh.out _ hb).mono ?_;rintro e w1 ⟨rfl,hb1⟩;have hZ1:=hZ.below hb1 hZl;obtain ⟨z0,z1,z2,z3,z4,z5,y0,y1,y2,y3,y4,y5⟩:=ZB.facts hZ1)
  have hZ2:=ZB.set6 hZ1 vw0 none 0 0;exact bodyPost_ret (qah rfl _ _ (w.heap.size+1) 24 _ (0,0) _ rfl hZ2 underlying24 rfl kI) rfl (by rw [hRe.out];exact ⟨qap (hb.trans (hb1.mono L0)) L0 _ _ _ _ _ _,none,0,0,[],0,rfl,OwV.none_ _ _⟩)
def zD (W H:Int):Vw:=⟨W,H,List.replicate H.toNat [],0,0,true⟩
def newM (W H:Int):Md × Int:=if vR W H=true then (⟨zD W H,0⟩,0) else (md0,2)
def mdC (m:Md) (A:Option Addr) (n c:Nat):Array Value:=#[.int .i64 m.view.width,.int .i64 m.view.height,.slice A n c,.int .i64 m.view.row,.int .i64 m.view.col,.bool m.view.vis,.int .i64 m.upd]
theorem yy:(prog.info? 26).map (fun x=>x.size)=some 7:=by kernel_rfl
def BlR (r:Vw × Int) (w:World) (e:Ending) (w':World):Prop :=
 Below w.heap.size w w'/\∃ A n c rs,e = .returned (.tuple #[.agg (vwC r.1 A n c),.int .i64 r.2])/\OwV w.heap.size w' r.1 A n c rs
def MdR (r:Md × Int) (w:World) (e:Ending) (w':World):Prop :=
 Below w.heap.size w w'/\∃ A n c rs,e = .returned (.tuple #[.agg (mdC r.1 A n c),.int .i64 r.2])/\OwV w.heap.size w' r.1.view A n c rs
abbrev ZM (X:World) (g:Nat):Prop:=Blk X g 26 (mdC md0 none 0 0)
theorem ZM.facts {X:World} {g:Nat} (h:ZM X g):X.cell? ⟨g,0,none⟩=some (.int .i64 0)/\X.cell? ⟨g,1,none⟩=some (.int .i64 0)/\X.cell? ⟨g,2,none⟩=some (.slice none 0 0)/\X.cell? ⟨g,3,none⟩=some (.int .i64 0)/\X.cell? ⟨g,4,none⟩=some (.int .i64 0)/\X.cell? ⟨g,5,none⟩=some (.bool false)/\X.cell? ⟨g,6,none⟩=some (.int .i64 0) /\
  X.frozen? ⟨g,0,none⟩=false/\X.frozen? ⟨g,1,none⟩=false/\X.frozen? ⟨g,2,none⟩=false/\X.frozen? ⟨g,3,none⟩=false/\X.frozen? ⟨g,4,none⟩=false/\X.frozen? ⟨g,5,none⟩=false/\X.frozen? ⟨g,6,none⟩=false :=
 ⟨h.cell 0,h.cell 1,h.cell 2,h.cell 3,h.cell 4,h.cell 5,h.cell 6,h.frozen 0,h.frozen 1,h.frozen 2,h.frozen 3,h.frozen 4,h.frozen 5,h.frozen 6⟩
abbrev zq (X:World) (g:Nat) (m:Md) (A:Option Addr) (n c:Nat):World:=((((((X.setCell ⟨g,0,none⟩ (.int .i64 m.view.width)).setCell ⟨g,1,none⟩ (.int .i64 m.view.height)).setCell ⟨g,2,none⟩ (.slice A n c)).setCell ⟨g,3,none⟩ (.int .i64 m.view.row)).setCell ⟨g,4,none⟩ (.int .i64 m.view.col)).setCell ⟨g,5,none⟩ (.bool m.view.vis)).setCell ⟨g,6,none⟩ (.int .i64 m.upd)
theorem ZM.set7 {X:World} {g:Nat} (h:ZM X g) (m:Md) (A:Option Addr) (n c:Nat):Blk (zq X g m A n c) g 26 (mdC m A n c) :=
 ((((((h.set_ 0 _).set_ 1 _).set_ 2 _).set_ 3 _).set_ 4 _).set_ 5 _).set_ 6 _
theorem yX {B g:Nat} {X Y:World} (h:Below B X Y) (hg:B<=g) (m:Md) (A:Option Addr) (n c:Nat):Below B X (zq Y g m A n c) :=
 ((((((h.setCell (p:=⟨g,0,none⟩) hg _).setCell (p:=⟨g,1,none⟩) hg _).setCell (p:=⟨g,2,none⟩) hg _).setCell (p:=⟨g,3,none⟩) hg _).setCell (p:=⟨g,4,none⟩) hg _).setCell (p:=⟨g,5,none⟩) hg _).setCell (p:=⟨g,6,none⟩) hg _
theorem qhK (n:Nat):zQ (List.replicate n qaI)=List.replicate n (.slice none 0 0):=by unfold zQ;rw [List.map_replicate];rfl
theorem qnn (n:Nat):rls (List.replicate n qaI)=List.replicate n []:=by unfold rls;rw [List.map_replicate];rfl
theorem blank_ (W H:Int) (w:World):Calls prog 22 #[.int .i64 W,.int .i64 H] w (BlR (if vR W H=true then (zD W H,0) else (vw0,2)) w):=by
 have HS:Hid (∀ w',_):=Lh (qiA W H)
 by_cases h:vR W H=true
 ·rw [if_pos h];have hs:=jW.1 h;rw [h] at HS;obtain ⟨n,rfl⟩ : ∃ n:Nat,H=n:=⟨H.toNat,by omega⟩
  obtain ⟨i0,hi,hz0,hz1,hz2⟩:=elt_row.row;clear h
  go_enter func22,ntmps22
  go_upto_region 1 with fail
  refine qa (fun X=>ZB X w.heap.size/\Below w.heap.size w X) ⟨Blk.new_ rfl,L5⟩ ?_;rintro X ⟨hZ,hb⟩;have hlX:=hZ.lt
  go_upto_region 3 with (go_at_call 37;refine (HS.out _).mono ?_;rintro e w1 ⟨rfl,rfl⟩)
  go_wp2_with (at_make;refine wpList_make_full _ rfl _ _ 22 rfl X.heap.size 38 i0 (.slice none 0 0) 1 underlying22 hi hz0 hz1 _ _ _ _ n rfl rfl rfl rfl (by rw [hz2];omega) (by unfold maxLen;omega) (Ld _) ?_;intro w1 qnB hgr;have hb1:=(Le X.heap.size X).grown hgr (Ld _) (fun k h=>by cases h);have hZ1:=hZ.below hb1 hlX;obtain ⟨z0,z1,z2,z3,z4,z5,y0,y1,y2,y3,y4,y5⟩:=ZB.facts hZ1)
  have hown':w1.ownsRow X.heap.size 38 1 (.slice (some ⟨X.heap.size,0,none⟩) n n) n (zQ (List.replicate n qaI)):=by
   rw [qhK];rw [Nat.mul_one,show (Value.slice none 0 0).cells = #[.slice none 0 0] from rfl,toList_madeCells_one] at qnB;exact qnB
  have hne:(Value.slice (some ⟨X.heap.size,0,none⟩) n n).ownBlock≠some w.heap.size:=fun e=>by
   rw [qC] at e
   injection e with e
   dsimp only at e
   omega
  have hw5:=ownsRow_setCell_other (a:=⟨w.heap.size,5,none⟩) (ownsRow_setCell_other (a:=⟨w.heap.size,4,none⟩) (ownsRow_setCell_other (a:=⟨w.heap.size,3,none⟩) (ownsRow_setCell_other (a:=⟨w.heap.size,2,none⟩) (ownsRow_setCell_other (a:=⟨w.heap.size,1,none⟩) (ownsRow_setCell_other (a:=⟨w.heap.size,0,none⟩) hown' hne (.int .i64 W)) hne (.int .i64 n)) hne (.slice (some ⟨X.heap.size,0,none⟩) n n)) hne (.int .i64 0)) hne (.int .i64 0)) hne (.bool true);have hR:=ZB.set6 hZ1 (zD W n) (some ⟨X.heap.size,0,none⟩) n n;refine bodyPost_ret (vG rfl _ _ w.heap.size 24 _ (0,0) _ rfl hR underlying24 rfl kI) rfl ⟨qap (hb.trans (hb1.mono L0)) (Ld _) _ _ _ _ _ _,some ⟨X.heap.size,0,none⟩,n,n,List.replicate n qaI,rfl,⟨qt hw5 (Lr hlX),fun x hx=>?_,?_⟩⟩
  ·obtain rfl:=List.eq_of_mem_replicate hx;exact zY _ _ _ _
  ·rw [qnn]
   show List.replicate ((n:Int).toNat) []=_
   rw [Int.toNat_natCast]
 ·rw [if_neg h];have h:vR W H=false:=by simpa using h
  rw [h] at HS;clear h
  go_enter func22,ntmps22
  go_upto_region 1 with fail
  refine qa (fun X=>ZB X w.heap.size/\Below w.heap.size w X) ⟨Blk.new_ rfl,L5⟩ ?_;rintro X ⟨hZ,hb⟩;obtain ⟨z0,z1,z2,z3,z4,z5,y0,y1,y2,y3,y4,y5⟩:=ZB.facts hZ
  go_wp2_with (go_at_call 37;refine (HS.out _).mono ?_;rintro e w1 ⟨rfl,rfl⟩)
  exact bodyPost_ret (vG rfl _ _ w.heap.size 24 _ (0,0) _ rfl (ZB.set6 hZ vw0 none 0 0) underlying24 rfl kI) rfl ⟨qap hb (Ld _) _ _ _ _ _ _,none,0,0,[],rfl,OwV.none_ _ _⟩
theorem lnew_ (W H:Int) (w:World):Calls prog 9 #[.int .i64 W,.int .i64 H] w (MdR (newM W H) w):=by
 obtain ⟨R,hR⟩ : ∃ R:Vw × Int,(if vR W H=true then (zD W H,(0:Int)) else (vw0,2))=R:=⟨_,rfl⟩
 have hN:newM W H=if R.2=0 then (⟨R.1,0⟩,0) else (md0,R.2):=by
  rw [<- hR];unfold newM
  by_cases h:vR W H=true
  ·rw [if_pos h,if_pos h];rfl
  ·rw [if_neg h,if_neg h];rfl
 have HB:Hid (∀ w',Below w.heap.size w w'->Calls prog 22 #[.int .i64 W,.int .i64 H] w' fun e w''=>∃ A n c rs,e = .returned (.tuple #[.agg #[.int .i64 R.1.width,.int .i64 R.1.height,.slice A n c,.int .i64 R.1.row,.int .i64 R.1.col,.bool R.1.vis],.int .i64 R.2])/\OwV w'.heap.size w'' R.1 A n c rs/\Below w'.heap.size w' w''):=Lh fun w' _=>(blank_ W H w').mono fun e w'' h=>by
  rw [hR] at h;obtain ⟨h1,A,n,c,rs,h2,h3⟩:=h;exact ⟨A,n,c,rs,h2,h3,h1⟩
 rw [hN];clear hN hR;obtain ⟨⟨vw,vh,rows,vr,vc,vis⟩,E⟩:=R;dsimp only at HB ⊢
 by_cases hE:E=0
 ·subst hE;rw [if_pos rfl];have h0:((0:Int) != 0)=false:=rfl
  go_enter func9,ntmps9
  go_upto_region 1 with fail
  refine qa (fun X=>ZM X w.heap.size/\Below w.heap.size w X) ⟨Blk.new_ rfl,L5⟩ ?_;rintro X ⟨hZ,hb⟩;have hlX:=hZ.lt
  go_upto_region 2 with (go_at_call 22;refine (HB.out _ hb).mono ?_;rintro e w1 ⟨A1,n1,d1,rs1,rfl,ho,hb1⟩)
  have hzz:=hb1.size;refine qa (fun Y=>Below X.heap.size X Y/\OwV X.heap.size Y ⟨vw,vh,rows,vr,vc,vis⟩ A1 n1 d1 rs1/\Blk Y w1.heap.size 24 (vwC ⟨vw,vh,rows,vr,vc,vis⟩ A1 n1 d1)) ⟨hb1.alloc hzz _,ho.below L5,Blk.new_ rfl⟩ ?_;rintro Y ⟨hY,hoY,hB⟩;have hZ1:=hZ.below hY hlX;obtain ⟨z0,z1,z2,z3,z4,z5,z6,y0,y1,y2,y3,y4,y5,y6⟩:=ZM.facts hZ1;obtain ⟨c0,c1,c2,c3,c4,c5⟩:=qw hB;dsimp only at c0 c1 c3 c4 c5;have hR:=ZM.set7 hZ1 ⟨⟨vw,vh,rows,vr,vc,vis⟩,0⟩ A1 n1 d1;have ho7:=Lh (((((((hoY.far (p:=⟨w.heap.size,0,none⟩) hlX (.int .i64 vw)).far (p:=⟨w.heap.size,1,none⟩) hlX (.int .i64 vh)).far (p:=⟨w.heap.size,2,none⟩) hlX (.slice A1 n1 d1)).far (p:=⟨w.heap.size,3,none⟩) hlX (.int .i64 vr)).far (p:=⟨w.heap.size,4,none⟩) hlX (.int .i64 vc)).far (p:=⟨w.heap.size,5,none⟩) hlX (.bool vis)).far (p:=⟨w.heap.size,6,none⟩) hlX (.int .i64 0));have hng:w.heap.size≠w1.heap.size:=by omega
  clear hB hoY ho;go_wp2;exact bodyPost_ret (vG rfl _ _ w.heap.size 26 _ (0,0) _ rfl hR underlying26 rfl yy) rfl ⟨yX (hb.trans (hY.mono (Lr hlX))) (Ld _) ⟨⟨vw,vh,rows,vr,vc,vis⟩,0⟩ A1 n1 d1,A1,n1,d1,rs1,rfl,ho7.out.less (Lr hlX)⟩
 ·rw [if_neg hE];have h0:(E != 0)=true:=Ln.2 hE;clear hE
  go_enter func9,ntmps9
  go_upto_region 1 with fail
  refine qa (fun X=>ZM X w.heap.size/\Below w.heap.size w X) ⟨Blk.new_ rfl,L5⟩ ?_;rintro X ⟨hZ,hb⟩;have hlX:=hZ.lt
  go_upto_region 2 with (go_at_call 22;refine (HB.out _ hb).mono ?_;rintro e w1 ⟨A1,n1,d1,rs1,rfl,ho,hb1⟩)
  refine qa (fun Y=>Below X.heap.size X Y) (hb1.alloc hb1.size _) ?_;intro Y hY;have hZ1:=hZ.below hY hlX;obtain ⟨z0,z1,z2,z3,z4,z5,z6,y0,y1,y2,y3,y4,y5,y6⟩:=ZM.facts hZ1;go_wp2;exact bodyPost_ret (vG rfl _ _ w.heap.size 26 _ (0,0) _ rfl (ZM.set7 hZ1 md0 none 0 0) underlying26 rfl yy) rfl ⟨yX (hb.trans (hY.mono (Lr hlX))) (Ld _) md0 none 0 0,none,0,0,[],rfl,OwV.none_ _ _⟩
theorem qjk (v:Vw) (A:Option Addr) (n c B:Nat) (rs:List RowM) (w:World) (rd:RdV w B v A n c rs) (hB:B<=w.heap.size) (hz : ∀ x∈rs,x.l.length<=1000000000/\∀ g∈x.l,g.text.size<=1000000000) :
  Calls prog 34 #[.agg (vwC v A n c)] w (qh (.int .i64 (js v)) w):=by
 have HN:=Lh rd.1.len;have hnm:n<=9223372036854775807:=by have h1:=rd.2.2.1;have h2:=rd.2.2.2;unfold maxLen at h2;omega
 have HRL:Hid (v.rows=rls rs):=Lh rd.2.1;have HA:Hid (∀ k (hk:k<rs.length) w',Below w.heap.size w w'->∃ b o,A=some ⟨b,o,none⟩/\b<w.heap.size/\w'.cell? ⟨b,o+k,none⟩=some (.slice rs[k].A rs[k].l.length rs[k].cap)):=Lh fun k hk w' hb=>((rd.1.more hB).below hb).at_ hk
 have HG:Hid (∀ x∈rs,∀ w',Below w.heap.size w w'->Rd w' w.heap.size 3 x.A x.l.length (qi x.l)):=Lh fun x hx w' hb=>(((rd.1.gl x hx).1.more hB).below hb)
 have HX:Hid (∀ x∈rs,x.l.length<=1000000000/\∀ g∈x.l,g.text.size<=1000000000):=Lh hz;have HS:Hid (∀ k,k<rs.length->(rls rs).drop k=(rls rs).getD k []::(rls rs).drop (k+1)):=Lh fun k hk=>by
  rw [Ls (by rw [vJ];exact hk),List.getD_eq_getElem?_getD,List.getElem?_eq_getElem (by rw [vJ];exact hk)]
  rfl
 unfold js;rw [HRL.out,vJ,HN.out];clear rd hz;obtain ⟨W,Hh,rows,row,col,vis⟩:=v;dsimp only at *
 have HV:Hid (∀ x∈rs,∀ g∈x.l,∀ w',Calls prog 57 #[glV g] w' (qh (.int .i64 (qJ g)) w')):=Lh fun x hx g hg w'=>qky g ((HX.out x hx).2 g hg) w'
 have HWd:Hid (∀ x∈rs,∀ w',Below w.heap.size w w'->Calls prog 58 #[.slice x.A x.l.length x.cap] w' (qh (.int .i64 (vM x.l:Nat)) w')):=Lh fun x hx w' hb=>(qjp x.l x.A _ x.cap w.heap.size w' (HX.out x hx).1 (HG.out x hx w' hb)).mono fun e w'' ⟨h1,h2⟩=>⟨h1,h2 ▸ Le _ _⟩
 have HSz:=Lh (q6 W Hh)
 by_cases h1:vR W Hh=false
 ·rw [if_pos h1];rw [h1] at HSz;clear h1
  go_enter func34,ntmps34;go_upto_region 1 with fail;refine qa (VwBox w ⟨W,Hh,rows,row,col,vis⟩ A n c) (VwBox.new w ⟨W,Hh,rows,row,col,vis⟩ A n c) ?_;intro X hX;obtain ⟨c0,c1,c2,c3,c4,c5⟩:=hX.cells;have hb:=hX.2;dsimp only at c0 c1 c2 c3 c4 c5
  go_wp2_with (go_at_call 38;refine (HSz.out _).mono ?_;rintro e w1 ⟨rfl,rfl⟩)
  go_ret;exact ⟨rfl,hb⟩
 ·have h1':vR W Hh=true:=by simpa using h1
  rw [if_neg h1];rw [h1'] at HSz;clear h1 h1'
  by_cases h2:(n:Int)=Hh
  ·rw [if_neg (by simpa using h2)];have hne:((n:Int) != Hh)=false:=by simp [h2]
   replace h2:=Lh h2
   by_cases h3:row<0∨Hh<=row∨col<0∨W<=col
   ·rw [if_pos h3]
    by_cases r1:row<0
    ·go_enter func34,ntmps34;go_upto_region 1 with fail;refine qa (VwBox w ⟨W,Hh,rows,row,col,vis⟩ A n c) (VwBox.new w ⟨W,Hh,rows,row,col,vis⟩ A n c) ?_;intro X hX;obtain ⟨c0,c1,c2,c3,c4,c5⟩:=hX.cells;have hb:=hX.2;dsimp only at c0 c1 c2 c3 c4 c5
     go_wp2_with (go_at_call 38;refine (HSz.out _).mono ?_;rintro e w1 ⟨rfl,rfl⟩)
     go_ret;exact ⟨rfl,hb⟩
    ·by_cases r2:Hh<=row
     ·go_enter func34,ntmps34;go_upto_region 1 with fail;refine qa (VwBox w ⟨W,Hh,rows,row,col,vis⟩ A n c) (VwBox.new w ⟨W,Hh,rows,row,col,vis⟩ A n c) ?_;intro X hX;obtain ⟨c0,c1,c2,c3,c4,c5⟩:=hX.cells;have hb:=hX.2;dsimp only at c0 c1 c2 c3 c4 c5
      go_wp2_with (go_at_call 38;refine (HSz.out _).mono ?_;rintro e w1 ⟨rfl,rfl⟩)
      go_ret;exact ⟨rfl,hb⟩
     ·by_cases r3:col<0
      ·go_enter func34,ntmps34;go_upto_region 1 with fail;refine qa (VwBox w ⟨W,Hh,rows,row,col,vis⟩ A n c) (VwBox.new w ⟨W,Hh,rows,row,col,vis⟩ A n c) ?_;intro X hX;obtain ⟨c0,c1,c2,c3,c4,c5⟩:=hX.cells;have hb:=hX.2;dsimp only at c0 c1 c2 c3 c4 c5
       go_wp2_with (go_at_call 38;refine (HSz.out _).mono ?_;rintro e w1 ⟨rfl,rfl⟩)
       go_ret;exact ⟨rfl,hb⟩
      ·have r4:W<=col:=by omega
       go_enter func34,ntmps34;go_upto_region 1 with fail;refine qa (VwBox w ⟨W,Hh,rows,row,col,vis⟩ A n c) (VwBox.new w ⟨W,Hh,rows,row,col,vis⟩ A n c) ?_;intro X hX;obtain ⟨c0,c1,c2,c3,c4,c5⟩:=hX.cells;have hb:=hX.2;dsimp only at c0 c1 c2 c3 c4 c5
       go_wp2_with (go_at_call 38;refine (HSz.out _).mono ?_;rintro e w1 ⟨rfl,rfl⟩)
       go_ret;exact ⟨rfl,hb⟩
   ·rw [if_neg h3];have r1:0<=row:=by omega
    have r2:row<Hh:=by omega
    have r3:0<=col:=by omega
    have r4:col<W:=by omega
    clear h3;have H0:Hid (yh W (rls rs)=yh W ((rls rs).drop 0)):=Lh rfl;generalize yh W (rls rs)=R at *
    go_enter func34,ntmps34;go_upto_region 1 with fail;refine qa (VwBox w ⟨W,Hh,rows,row,col,vis⟩ A n c) (VwBox.new w ⟨W,Hh,rows,row,col,vis⟩ A n c) ?_;intro X hX;obtain ⟨c0,c1,c2,c3,c4,c5⟩:=hX.cells;have hb:=hX.2;dsimp only at c0 c1 c2 c3 c4 c5
    go_wp2_with (go_at_call 38;refine (HSz.out _).mono ?_;rintro e w1 ⟨rfl,rfl⟩)
    go_loopw [3] (fun x wr=>∃ k:Nat,k<=n/\x = .int .i64 k/\VwBox w ⟨W,Hh,rows,row,col,vis⟩ A n c wr/\Hid (R=yh W ((rls rs).drop k))) (fun x _=>n-(intOf x).toNat)
    case atStart=>exact ⟨0,Nat.zero_le _,rfl,hX,H0⟩
    case round =>
     clear hX hb c0 c1 c2 c3 c4 c5 H0 HSz hne r1 r2 r3 r4;obtain ⟨k,hk,rfl,hX,HK⟩:=hrel;obtain ⟨c0,c1,c2,c3,c4,c5⟩:=hX.cells;have hb:=hX.2;have hzX:=hX.lt;dsimp only at c0 c1 c2 c3 c4 c5
     by_cases hlt:k<n
     ·have hkl:k<rs.length:=by have:=HN.out;omega
      obtain ⟨b,o,rfl,hbB,hc⟩:=HA.out k hkl _ hb;have hx:rs[k]∈rs:=Lt hkl;obtain ⟨T,HT⟩ : ∃ T,Hid (T=if W<vM rs[k].l then 12 else if rs[k].l.getLast? = some spG then 1 else yh W ((rls rs).drop (k+1))):=⟨_,Lh rfl⟩
      have HK2:Hid (R=if yK (rs[k].l.drop 0)≠0 then yK (rs[k].l.drop 0) else T):=Lh (by rw [HK.out,HS.out k hkl,qa4 hkl,qdu,HT.out,List.drop_zero]);have hl:=(HX.out _ hx).1;have HGk:=Lh (HG.out _ hx);have HVk:=Lh (HV.out _ hx);have HWk:=Lh (HWd.out _ hx);clear HK HA HG HX HV HWd HS hx;generalize rs[k]=x at *
      obtain ⟨l,Al,cl⟩:=x;dsimp only at *
      go_wp2
      go_loopw [5] (fun y wy=>∃ j:Nat,j<=l.length/\y = .int .i64 j/\VwBox w ⟨W,Hh,rows,row,col,vis⟩ (some ⟨b,o,none⟩) n c wy/\Hid (R=if yK (l.drop j)≠0 then yK (l.drop j) else T)) (fun y _=>l.length-(intOf y).toNat)
      case atStart=>exact ⟨0,Nat.zero_le _,rfl,hX,HK2⟩
      case round=>as_aux_lemma =>
       clear hX hb c0 c1 c2 c3 c4 c5 HK2 hc hzX;obtain ⟨j,hj,rfl,hX,HJ⟩:=hrel;obtain ⟨c0,c1,c2,c3,c4,c5⟩:=hX.cells;have hb:=hX.2;have hzX:=hX.lt;dsimp only at c0 c1 c2 c3 c4 c5
       by_cases hlj:j<l.length
       ·obtain ⟨b',o',rfl,hbB',g0,g1,g2⟩:=jE (HGk.out _ hb) hlj rfl;have HVj:=Lh (HVk.out _ (Lt hlj));have HJ2:=HJ.out;rw [qdN hlj] at HJ2;generalize l[j]=g at *
        by_cases h0:qJ g=0
        ·rw [if_neg (show ¬ qJ g≠0 by simp [h0])] at HJ2;replace HJ2:=Lh HJ2;rw [h0] at HVj;clear h0;obtain ⟨t,wd,st⟩:=g;dsimp only at *
         go_wp2_with (go_at_call 57;refine (HVj.out _).mono ?_;rintro e w1 ⟨rfl,hb1⟩)
         exact ⟨⟨j+1,by omega,by go_num,hX.on hb1,HJ2⟩,by simp [intOf];omega⟩
        ·rw [if_pos (show qJ g≠0 from h0),if_pos h0] at HJ2;replace HJ2:=Lh HJ2;have hn0:(qJ g != 0)=true:=Ln.2 h0;clear h0;generalize hq:qJ g=K at *
         clear hq;obtain ⟨t,wd,st⟩:=g;dsimp only at *
         go_wp2_with (go_at_call 57;refine (HVj.out _).mono ?_;rintro e w1 ⟨rfl,hb1⟩)
         go_ret;exact ⟨by rw [HJ2.out];rfl,(hX.on hb1).2⟩
       ·obtain rfl:j=l.length:=by omega
        have HT2:Hid (R=if W<vM l then 12 else if l.getLast? = some spG then 1 else yh W ((rls rs).drop (k+1))):=Lh (by rw [HJ.out,Lv (Ld _),<- HT.out];rfl);clear HT HJ HVk;have hzz:=Ld wr.heap.size;have N0 : ∀ x:Near wr.heap.size wr,x.w.cell? ⟨w.heap.size,0,none⟩=some (.int .i64 W):=fun x=>(x.h.cell L7).trans c0
        have HWx:Hid (∀ x:Near wr.heap.size wr,Calls prog 58 #[.slice Al l.length cl] x.w (qh (.int .i64 (vM l:Nat)) x.w)):=Lh fun x=>HWk.out _ (hb.trans (x.h.mono L0))
        clear HWk c0 c1 c2 c3 c4 c5;generalize vM l=rw0 at *
        by_cases hw:W<(rw0:Int)
        ·rw [if_pos hw] at HT2;go_wp2;refine qc wr.heap.size ?_;(repeat (go_big_quiet_step ((go_at_call 58;exact Calls.near _ hzz (HWx.out _)))));refine wpQuiet_nil ?_;intro x1;go_wp2;go_ret;exact ⟨by rw [HT2.out];rfl,(hX.on x1.h).2⟩
        ·as_aux_lemma =>
         rw [if_neg hw] at HT2;have hw' : ¬ W<(rw0:Int):=hw;have hd:decide (W<(rw0:Int))=false:=Lk hw;clear hw hw';go_wp2;refine qc wr.heap.size ?_;(repeat (go_big_quiet_step ((go_at_call 58;exact Calls.near _ hzz (HWx.out _)))));refine wpQuiet_nil ?_;intro x1;have hX1:=hX.on x1.h;have hb1:=hX1.2;have hz1:=Ld x1.w.heap.size;clear HWx N0 hd hX hb
         rcases Nat.eq_zero_or_pos l.length with h0 | h0
         ·have HT3:Hid (R=yh W ((rls rs).drop (k+1))):=Lh (by rw [HT2.out,List.length_eq_zero_iff.1 h0];rfl);have hd:decide (0<l.length)=false:=Lk L0;clear HT2 h0;go_wp2;exact ⟨⟨k+1,by omega,by go_num,hX1,HT3⟩,by simp [intOf];omega⟩
         ·obtain ⟨m,hm⟩ : ∃ m,l.length=m+1:=⟨l.length-1,by omega⟩
          have hml:m<l.length:=by omega
          obtain ⟨b',o',rfl,hbB',g0,g1,g2⟩:=jE (HGk.out _ hb1) hml rfl;rw [qh5 hm] at HT2;have HBk:=Lh (qjx l[m]);have hmi:(l.length:Int)=(m:Int)+1:=by omega
          have hd:decide (0<l.length)=true:=Ll h0
          by_cases he:l[m]=spG
          ·rw [if_pos (by rw [he])] at HT2;rw [Ll he] at HBk;clear he h0 HGk;generalize l[m]=g at *
           obtain ⟨t,wd,st⟩:=g;dsimp only at *
           go_wp2_with (go_at_call 59;refine (HBk.out _).mono ?_;rintro e w2 ⟨rfl,hb2⟩)
           go_ret;exact ⟨by rw [HT2.out];rfl,hb1.trans (hb2.mono (by have:=hX1.lt;omega))⟩
          ·rw [if_neg (fun e=>he (by injection e))] at HT2;rw [Lk he] at HBk;clear he h0 HGk;generalize l[m]=g at *
           obtain ⟨t,wd,st⟩:=g;dsimp only at *
           go_wp2_with (go_at_call 59;refine (HBk.out _).mono ?_;rintro e w2 ⟨rfl,hb2⟩)
           exact ⟨⟨k+1,by omega,by go_num,hX1.on hb2,HT2⟩,by simp [intOf];omega⟩
     ·have HK2:Hid (R=0):=Lh (by rw [HK.out,Lv (by rw [vJ];have:=HN.out;omega)];rfl);go_wp2;go_ret;exact ⟨by rw [HK2.out];rfl,hb⟩
  ·rw [if_pos h2];have hne:((n:Int) != Hh)=true:=Ln.2 h2;clear h2
   go_enter func34,ntmps34;go_upto_region 1 with fail;refine qa (VwBox w ⟨W,Hh,rows,row,col,vis⟩ A n c) (VwBox.new w ⟨W,Hh,rows,row,col,vis⟩ A n c) ?_;intro X hX;obtain ⟨c0,c1,c2,c3,c4,c5⟩:=hX.cells;have hb:=hX.2;dsimp only at c0 c1 c2 c3 c4 c5
   go_wp2_with (go_at_call 38;refine (HSz.out _).mono ?_;rintro e w1 ⟨rfl,rfl⟩)
   go_ret;exact ⟨rfl,hb⟩
end Go.Proofs.YtggegijlfaipfaaGreatDoor
