/- Joined: Rl1, Ra0, Ra1, Ra2, Ra3, Ra4. -/
import Derived.Test.YtggegijlfaipfaaGreatDoorZAL
set_option linter.unusedVariables false
set_option linter.unusedSimpArgs false
set_option linter.unnecessarySimpa false
set_option maxHeartbeats 8000000
namespace Go.Proofs.YtggegijlfaipfaaGreatDoor
open Go.Proofs.Tryz Go.RowKit
set_option maxRecDepth 20000
def RbR (r:Vw × Bool) (w:World) (e:Ending) (w':World):Prop :=
 Below w.heap.size w w'/\∃ A n c rs,e = .returned (.tuple #[.agg (vwC r.1 A n c),.bool r.2])/\OwV w.heap.size w' r.1 A n c rs
theorem rblank_ (W H:Int) (w:World):Calls prog 23 #[.int .i64 W,.int .i64 H] w (RbR (if vR W H=true then (zD W H,true) else (vw0,false)) w):=by
 have HS:Hid (∀ w',_):=Lh (q6 W H)
 by_cases h:vR W H=true
 ·rw [if_pos h];have hs:=jW.1 h;rw [h] at HS;obtain ⟨n,rfl⟩ : ∃ n:Nat,H=n:=⟨H.toNat,by omega⟩
  obtain ⟨i0,hi,hz0,hz1,hz2⟩:=elt_row.row;clear h
  go_enter func23,ntmps23
  go_upto_region 1 with fail
  refine qa (fun X=>ZB X w.heap.size/\Below w.heap.size w X) ⟨Blk.new_ rfl,L5⟩ ?_;rintro X ⟨hZ,hb⟩;have hlX:=hZ.lt
  go_upto_region 3 with (go_at_call 38;refine (HS.out _).mono ?_;rintro e w1 ⟨rfl,rfl⟩)
  go_wp2_with (at_make;refine wpList_make_full _ rfl _ _ 22 rfl X.heap.size 38 i0 (.slice none 0 0) 1 underlying22 hi hz0 hz1 _ _ _ _ n rfl rfl rfl rfl (by rw [hz2];omega) (by unfold maxLen;omega) (Ld _) ?_;intro w1 qnB hgr;have hb1:=(Le X.heap.size X).grown hgr (Ld _) (fun k h=>by cases h);have hZ1:=hZ.below hb1 hlX;obtain ⟨z0,z1,z2,z3,z4,z5,y0,y1,y2,y3,y4,y5⟩:=ZB.facts hZ1)
  have hown':w1.ownsRow X.heap.size 38 1 (.slice (some ⟨X.heap.size,0,none⟩) n n) n (zQ (List.replicate n qaI)):=by
   rw [qhK];rw [Nat.mul_one,show (Value.slice none 0 0).cells = #[.slice none 0 0] from rfl,toList_madeCells_one] at qnB;exact qnB
  have hne:(Value.slice (some ⟨X.heap.size,0,none⟩) n n).ownBlock≠some w.heap.size:=fun e=>by
   rw [qC] at e
   injection e with e
   dsimp only at e
   omega
  have hw5:=ownsRow_setCell_other (a:=⟨w.heap.size,5,none⟩) (ownsRow_setCell_other (a:=⟨w.heap.size,4,none⟩) (ownsRow_setCell_other (a:=⟨w.heap.size,3,none⟩) (ownsRow_setCell_other (a:=⟨w.heap.size,2,none⟩) (ownsRow_setCell_other (a:=⟨w.heap.size,1,none⟩) (ownsRow_setCell_other (a:=⟨w.heap.size,0,none⟩) hown' hne (.int .i64 W)) hne (.int .i64 n)) hne (.slice (some ⟨X.heap.size,0,none⟩) n n)) hne (.int .i64 0)) hne (.int .i64 0)) hne (.bool true);have hR:=ZB.set6 hZ1 (zD W n) (some ⟨X.heap.size,0,none⟩) n n;refine bodyPost_ret (vG rfl _ _ w.heap.size 24 _ (0,0) _ rfl hR underlying24 rfl kI) rfl ⟨qap (hb.trans (hb1.mono L0)) (Ld _) _ _ _ _ _ _,some ⟨X.heap.size,0,none⟩,n,n,List.replicate n qaI,rfl,⟨qt hw5 (Lr hlX),fun x hx=>?_,?_⟩⟩
  ·obtain rfl:=List.eq_of_mem_replicate hx;exact zY _ _ _ _
  ·rw [qnn]
   show List.replicate ((n:Int).toNat) []=_
   rw [Int.toNat_natCast]
 ·rw [if_neg h];have h:vR W H=false:=by simpa using h
  rw [h] at HS;clear h
  go_enter func23,ntmps23
  go_upto_region 1 with fail
  refine qa (fun X=>ZB X w.heap.size/\Below w.heap.size w X) ⟨Blk.new_ rfl,L5⟩ ?_;rintro X ⟨hZ,hb⟩;obtain ⟨z0,z1,z2,z3,z4,z5,y0,y1,y2,y3,y4,y5⟩:=ZB.facts hZ
  go_wp2_with (go_at_call 38;refine (HS.out _).mono ?_;rintro e w1 ⟨rfl,rfl⟩)
  exact bodyPost_ret (vG rfl _ _ w.heap.size 24 _ (0,0) _ rfl (ZB.set6 hZ vw0 none 0 0) underlying24 rfl kI) rfl ⟨qap hb (Ld _) _ _ _ _ _ _,none,0,0,[],rfl,OwV.none_ _ _⟩
theorem rnew42_ (W H:Int) (w:World):Calls prog 10 #[.int .i64 W,.int .i64 H] w (MdR (newM W H) w):=by
 obtain ⟨R,hR⟩ : ∃ R:Vw × Bool,(if vR W H=true then (zD W H,true) else (vw0,false))=R:=⟨_,rfl⟩
 have hN:newM W H=if R.2=true then (⟨R.1,0⟩,0) else (md0,2):=by
  rw [<- hR];unfold newM
  by_cases h:vR W H=true
  ·rw [if_pos h,if_pos h];rfl
  ·rw [if_neg h,if_neg h];rfl
 have HB:Hid (∀ w',Below w.heap.size w w'->Calls prog 23 #[.int .i64 W,.int .i64 H] w' fun e w''=>∃ A n c rs,e = .returned (.tuple #[.agg #[.int .i64 R.1.width,.int .i64 R.1.height,.slice A n c,.int .i64 R.1.row,.int .i64 R.1.col,.bool R.1.vis],.bool R.2])/\OwV w'.heap.size w'' R.1 A n c rs/\Below w'.heap.size w' w''):=Lh fun w' _=>(rblank_ W H w').mono fun e w'' h=>by
  rw [hR] at h;obtain ⟨h1,A,n,c,rs,h2,h3⟩:=h;exact ⟨A,n,c,rs,h2,h3,h1⟩
 rw [hN];clear hN hR;obtain ⟨⟨vw,vh,rows,vr,vc,vis⟩,E⟩:=R;dsimp only at HB ⊢
 cases E with
 | true =>
  rw [if_pos rfl]
  go_enter func10,ntmps10
  go_upto_region 1 with fail
  refine qa (fun X=>ZM X w.heap.size/\Below w.heap.size w X) ⟨Blk.new_ rfl,L5⟩ ?_;rintro X ⟨hZ,hb⟩;have hlX:=hZ.lt
  go_upto_region 2 with (go_at_call 23;refine (HB.out _ hb).mono ?_;rintro e w1 ⟨A1,n1,d1,rs1,rfl,ho,hb1⟩)
  have hzz:=hb1.size;refine qa (fun Y=>Below X.heap.size X Y/\OwV X.heap.size Y ⟨vw,vh,rows,vr,vc,vis⟩ A1 n1 d1 rs1/\Blk Y w1.heap.size 24 (vwC ⟨vw,vh,rows,vr,vc,vis⟩ A1 n1 d1)) ⟨hb1.alloc hzz _,ho.below L5,Blk.new_ rfl⟩ ?_;rintro Y ⟨hY,hoY,hB⟩;have hZ1:=hZ.below hY hlX;obtain ⟨z0,z1,z2,z3,z4,z5,z6,y0,y1,y2,y3,y4,y5,y6⟩:=ZM.facts hZ1;obtain ⟨c0,c1,c2,c3,c4,c5⟩:=qw hB;dsimp only at c0 c1 c3 c4 c5;have hR:=ZM.set7 hZ1 ⟨⟨vw,vh,rows,vr,vc,vis⟩,0⟩ A1 n1 d1;have ho7:=Lh (((((((hoY.far (p:=⟨w.heap.size,0,none⟩) hlX (.int .i64 vw)).far (p:=⟨w.heap.size,1,none⟩) hlX (.int .i64 vh)).far (p:=⟨w.heap.size,2,none⟩) hlX (.slice A1 n1 d1)).far (p:=⟨w.heap.size,3,none⟩) hlX (.int .i64 vr)).far (p:=⟨w.heap.size,4,none⟩) hlX (.int .i64 vc)).far (p:=⟨w.heap.size,5,none⟩) hlX (.bool vis)).far (p:=⟨w.heap.size,6,none⟩) hlX (.int .i64 0));have hng:w.heap.size≠w1.heap.size:=by omega
  clear hB hoY ho;go_wp2;exact bodyPost_ret (vG rfl _ _ w.heap.size 26 _ (0,0) _ rfl hR underlying26 rfl yy) rfl ⟨yX (hb.trans (hY.mono (Lr hlX))) (Ld _) ⟨⟨vw,vh,rows,vr,vc,vis⟩,0⟩ A1 n1 d1,A1,n1,d1,rs1,rfl,ho7.out.less (Lr hlX)⟩
 | false =>
  rw [if_neg L2]
  go_enter func10,ntmps10
  go_upto_region 1 with fail
  refine qa (fun X=>ZM X w.heap.size/\Below w.heap.size w X) ⟨Blk.new_ rfl,L5⟩ ?_;rintro X ⟨hZ,hb⟩;have hlX:=hZ.lt
  go_upto_region 2 with (go_at_call 23;refine (HB.out _ hb).mono ?_;rintro e w1 ⟨A1,n1,d1,rs1,rfl,ho,hb1⟩)
  refine qa (fun Y=>Below X.heap.size X Y) (hb1.alloc hb1.size _) ?_;intro Y hY;have hZ1:=hZ.below hY hlX;obtain ⟨z0,z1,z2,z3,z4,z5,z6,y0,y1,y2,y3,y4,y5,y6⟩:=ZM.facts hZ1;go_wp2;exact bodyPost_ret (vG rfl _ _ w.heap.size 26 _ (0,0) _ rfl (ZM.set7 hZ1 md0 none 0 0) underlying26 rfl yy) rfl ⟨yX (hb.trans (hY.mono (Lr hlX))) (Ld _) md0 none 0 0,none,0,0,[],rfl,OwV.none_ _ _⟩
def qkw (v:Vw) (c:Chg) (i:Nat):List Gl:=if c.kind=2 then kP v.rows c.row c.til c.count i else if (i:Int)=c.row then zV (v.rows.getD i []) c.col.toNat c.count.toNat c.glyphs else v.rows.getD i []
theorem qkU {v:Vw} {c:Chg} (hk:c.kind=2∨c.kind=3) (hr:zh v c=true) (ht:TrimR v.rows) (hl:(v.rows.length:Int)=v.height) :
  jY v c=⟨v.width,v.height,(List.range v.rows.length).map fun i=>zI (qkw v c i),v.row,v.col,v.vis⟩:=by
 rcases hk with hk | hk
 ·unfold jY;rw [if_neg L0,if_pos hk]
  congr 1
  refine List.map_congr_left fun i _=>?_
  unfold qkw;rw [if_pos hk];unfold kP
  split
  ·split
   ·exact (qjs ht _).symm
   ·rfl
  ·exact (qjs ht _).symm
 ·unfold zh at hr;rw [if_neg L0,if_neg L0,if_pos hk,decide_eq_true_iff] at hr;unfold jY;rw [if_neg L0,if_neg L0,if_pos hk]
  congr 1
  refine List.ext_getElem L1 fun i h1 h2=>?_
  rw [List.length_set] at h1;rw [List.getElem_set,List.getElem_map,List.getElem_range];unfold qkw;rw [if_neg (show ¬ c.kind=2 by omega)]
  by_cases h:c.row.toNat=i
  ·rw [if_pos h,if_pos L0,h]
  ·rw [if_neg h,if_neg L0,qjs ht];simp [h1]
def XV (B N:Nat) (X:World) (v:Vw) (A:Option Addr) (n c:Nat) (rs:List RowM):Prop:=RdV X B v A n c rs∨OwV N X v A n c rs
section
variable {B N B' N' n c : Nat} {X X' : World} {v v' : Vw} {A : Option Addr} {rs : List RowM}
theorem XV.rdV (h:XV B N X v A n c rs) (hB:B<=X.heap.size):RdV X X.heap.size v A n c rs:=h.elim (fun h=>h.more hB) OwV.rdV
theorem XV.below (h:XV B N X v A n c rs) (hB:B<=X.heap.size) (hb:Below X.heap.size X X'):XV B N X' v A n c rs:=h.elim (fun h=>.inl (h.below (hb.mono hB))) fun h=>.inr (h.below hb)
theorem XV.less (h:XV B N X v A n c rs) (hn:N'<=N):XV B N' X v A n c rs:=h.elim .inl fun h=>.inr (h.less hn)
theorem XV.more (h:XV B N X v A n c rs) (hn:B<=B'):XV B' N X v A n c rs:=h.elim (fun h=>.inl (h.more hn)) .inr
theorem XV.far (h:XV B N X v A n c rs) {p:Addr} (h1:B<=p.block) (h2:p.block<N) (u:Value):XV B N (X.setCell p u) v A n c rs :=
 h.elim (fun h=>.inl (h.below ((Le B X).setCell h1 u))) fun h=>.inr (h.far h2 u)
theorem XV.rows (h:XV B N X v A n c rs) (e:v'.rows=v.rows):XV B N X v' A n c rs :=
 h.elim (fun h=>.inl ⟨h.1,by rw [e];exact h.2.1,h.2.2⟩) fun h=>.inr ⟨h.rows,h.gl,by rw [e];exact h.eq⟩
theorem XV.eq (h:XV B N X v A n c rs):v.rows=rls rs:=h.elim (fun h=>h.2.1) OwV.eq
theorem XV.cap (h:XV B N X v A n c rs):n<=c/\c<=maxLen:=h.elim (fun h=>h.2.2) fun h=>yd h.rows
theorem XV.set6 (h:XV B N X v A n c rs) {g:Nat} (h1:B<=g) (h2:g<N) (u0 u1 u2 u3 u4 u5:Value):XV B N ((((((X.setCell ⟨g,0,none⟩ u0).setCell ⟨g,1,none⟩ u1).setCell ⟨g,2,none⟩ u2).setCell ⟨g,3,none⟩ u3).setCell ⟨g,4,none⟩ u4).setCell ⟨g,5,none⟩ u5) v A n c rs :=
 (((((h.far (p:=⟨g,0,none⟩) h1 h2 _).far (p:=⟨g,1,none⟩) h1 h2 _).far (p:=⟨g,2,none⟩) h1 h2 _).far (p:=⟨g,3,none⟩) h1 h2 _).far (p:=⟨g,4,none⟩) h1 h2 _).far (p:=⟨g,5,none⟩) h1 h2 _
end
theorem OwV.set6 {N n c g:Nat} {X:World} {v:Vw} {A:Option Addr} {rs:List RowM} (h:OwV N X v A n c rs) (h2:g<N) (u0 u1 u2 u3 u4 u5:Value):OwV N ((((((X.setCell ⟨g,0,none⟩ u0).setCell ⟨g,1,none⟩ u1).setCell ⟨g,2,none⟩ u2).setCell ⟨g,3,none⟩ u3).setCell ⟨g,4,none⟩ u4).setCell ⟨g,5,none⟩ u5) v A n c rs :=
 (((((h.far (p:=⟨g,0,none⟩) h2 _).far (p:=⟨g,1,none⟩) h2 _).far (p:=⟨g,2,none⟩) h2 _).far (p:=⟨g,3,none⟩) h2 _).far (p:=⟨g,4,none⟩) h2 _).far (p:=⟨g,5,none⟩) h2 _
theorem OwV.rows2 {N n c:Nat} {X:World} {v v':Vw} {A:Option Addr} {rs:List RowM} (h:OwV N X v A n c rs) (e:v'.rows=v.rows):OwV N X v' A n c rs:=⟨h.rows,h.gl,by rw [e];exact h.eq⟩
theorem qkx {W:World} {b b' s s' n n':Nat} {e e':TypeId} {v v':Value} {xs xs':List Value} (h:W.ownsRow b e s v n xs) (h':W.ownsRow b' e' s' v' n' xs') (he:e≠e'):v.ownBlock=none∨v.ownBlock≠v'.ownBlock:=by
 rcases h.2 with ⟨rfl,_⟩ | ⟨g,cap,cur,rfl,_,hgb,_⟩
 ·exact .inl rfl
 ·rcases h'.2 with ⟨rfl,_⟩ | ⟨g',cap',cur',rfl,_,hgb',_⟩
  ·exact .inr (by simp [Value.ownBlock])
  ·refine .inr fun e1=>?_
   obtain rfl:g=g':=by simpa [Value.ownBlock] using e1
   rw [hgb] at hgb'
   simp at hgb'
   exact he hgb'.2
structure OutV (g N:Nat) (W H r cl:Int) (vs:Bool) (rs:List RowM) (A:Option Addr) (c:Nat) (X:World):Prop where
 blk:Blk X g 24 (vwC ⟨W,H,rls rs,r,cl,vs⟩ A rs.length c)
 own:OwV N X ⟨W,H,rls rs,r,cl,vs⟩ A rs.length c rs
 lt:g<N
section
variable {g N c c4 c6 : Nat} {W H r cl : Int} {vs : Bool} {rs : List RowM} {A A4 A6 : Option Addr} {X X' w1 w4 : World} {l : List Gl}
theorem OutV.below (h:OutV g N W H r cl vs rs A c X) (hb:Below X.heap.size X X'):OutV g N W H r cl vs rs A c X':=⟨h.blk.below hb h.blk.lt,h.own.below hb,h.lt⟩
theorem OutV.push (h:OutV g N W H r cl vs rs A c X) (hN:N<=X.heap.size) (hb1:Below X.heap.size X w1) (ho:w1.ownsRow X.heap.size 61 3 (.slice A6 l.length c6) l.length (qi l))
  (qnB:w4.ownsRow N 38 1 (.slice A4 (rs.length+1) c4) (rs.length+1) (zQ rs++[.slice A6 l.length c6])) (hgr:w1.grownBy w4 (Value.slice A rs.length c).ownBlock) :
  OutV g N W H r cl vs (rs++[⟨l,A6,c6⟩]) A4 c4 (w4.setCell ⟨g,2,none⟩ (.slice A4 (rs.length+1) c4)):=by
 have h1:=h.below hb1;have hne:some g≠(Value.slice A rs.length c).ownBlock:=fun e=>by
  rw [qC] at e;have:=(vB h1.own.rows g e.symm).1;have:=h.lt
  omega
 have hB:=(h1.blk.grown hgr hne).set_ 2 (.slice A4 (rs.length+1) c4);have hO:OwV N w4 ⟨W,H,rls (rs++[(⟨l,A6,c6⟩:RowM)]),r,cl,vs⟩ A4 (rs++[(⟨l,A6,c6⟩:RowM)]).length c4 (rs++[(⟨l,A6,c6⟩:RowM)]):=by
  refine ⟨?_,fun x hx=>?_,rfl⟩
  ·rw [Lf,Lz,show zQ (rs++[(⟨l,A6,c6⟩:RowM)])=zQ rs++[.slice A6 l.length c6] by simp [zQ]];exact qnB
  ·rcases List.mem_append.1 hx with hx | hx
   ·exact (h1.own.gl x hx).kept hgr (qkx (h1.own.gl x hx) h1.own.rows L2)
   ·obtain rfl:=List.mem_singleton.1 hx;exact (qt ho hN).kept hgr (qkx ho h1.own.rows L2)
 exact ⟨by rw [Lf,Lz];exact hB,hO.far (p:=⟨g,2,none⟩) h.lt _,h.lt⟩
end
structure VcBox (w:World) (v:Vw) (A:Option Addr) (n c:Nat) (ch:Chg) (Ag:Option Addr) (cap:Nat) (X:World):Prop where
 v:Blk X w.heap.size 24 (vwC v A n c)
 c:Blk X (w.heap.size+1) 71 (yG ch Ag cap)
 bel:Below w.heap.size w X
theorem VcBox.new (w:World) (v:Vw) (A:Option Addr) (n c:Nat) (ch:Chg) (Ag:Option Addr) (cap:Nat):VcBox w v A n c ch Ag cap ((w.alloc (.cells (vwC v A n c) 24)).alloc (.cells (yG ch Ag cap) 71)) :=
 ⟨(Blk.new_ rfl).alloc _,Blk.new_ L1,(L5).alloc L1 _⟩
theorem VcBox.on {w:World} {v:Vw} {A:Option Addr} {n c:Nat} {ch:Chg} {Ag:Option Addr} {cap:Nat} {X X':World} (h:VcBox w v A n c ch Ag cap X) (hb:Below X.heap.size X X'):VcBox w v A n c ch Ag cap X' :=
 ⟨h.v.below hb h.v.lt,h.c.below hb h.c.lt,h.bel.trans (hb.mono h.bel.size)⟩
section
variable {W Hh : Int} {rows : List (List Gl)} {vr vc : Int} {vis : Bool} {A : Option Addr} {n c B : Nat} {rs : List RowM} {w : World} {row col count til : Int} {g : List Gl} {Ag : Option Addr} {cap : Nat}
theorem qkM (rd:RdV w B ⟨W,Hh,rows,vr,vc,vis⟩ A n c rs) (hB:B<=w.heap.size) (qnQ:(rows.length:Int)=Hh) (hh:1<=Hh/\Hh<=60) (hrl : ∀ x∈rs,x.l.length<=1000000000) (rg:Rd w B 3 Ag g.length (qi g)) (hgl:g.length<=1000000000) (hgz : ∀ x∈g,x.text.size<=1000000000) :
  Calls prog 87 #[.agg (vwC ⟨W,Hh,rows,vr,vc,vis⟩ A n c),jH ⟨3,row,col,count,til,g⟩ Ag cap] w (qh (.int .i64 (qan ⟨W,Hh,rows,vr,vc,vis⟩ ⟨3,row,col,count,til,g⟩)) w):=by
 obtain ⟨E,HE⟩ : ∃ E,Hid (qan ⟨W,Hh,rows,vr,vc,vis⟩ ⟨3,row,col,count,til,g⟩=E):=⟨_,Lh rfl⟩
 have hf:qan ⟨W,Hh,rows,vr,vc,vis⟩ ⟨3,row,col,count,til,g⟩=if til≠0 then 1 else if zh ⟨W,Hh,rows,vr,vc,vis⟩ ⟨3,row,col,count,til,g⟩=false then 2 else yK g:=by
  have hb:zS ⟨3,row,col,count,til,g⟩=decide (til=0):=rfl;unfold qan;rw [if_neg (show ¬ ((3:Int)<1∨(4:Int)<3) by decide),hb]
  by_cases h:til=0 <;> simp [h]
 have hf:=Lh hf;have hrr:=Lh (qai (v:=⟨W,Hh,rows,vr,vc,vis⟩) (row:=row) (col:=col) (count:=count) (til:=til) (g:=g));have hHw:IntKind.i64.wrap (Hh-1)=Hh-1:=by rw [Lx];omega
 have hn:=rd.len;dsimp only at hn
 by_cases h1:til=0
 ·subst h1
  cases z1:inB row 0 (Hh-1) with
  | false =>
   have HE:Hid (qan ⟨W,Hh,rows,vr,vc,vis⟩ ⟨3,row,col,count,0,g⟩=2):=Lh (by
    rw [hf.out,if_neg L1,if_pos];rw [hrr.out];simp only [inB,Bool.and_eq_false_iff,decide_eq_false_iff_not] at z1
    exact Lk (by dsimp only;omega))
   clear hf hrr rd hrl rg hgz
   go_enter func87,ntmps87
   go_upto_region 1 with fail
   refine qa (VcBox w ⟨W,Hh,rows,vr,vc,vis⟩ A n c ⟨3,row,col,count,0,g⟩ Ag cap) (VcBox.new w ⟨W,Hh,rows,vr,vc,vis⟩ A n c ⟨3,row,col,count,0,g⟩ Ag cap) ?_;intro X hX;obtain ⟨e0,e1,e2,e3,e4,e5⟩:=qw hX.v;obtain ⟨d0,d1,d2,d3,d4,d5,-⟩:=qV hX.c;have hb:=hX.bel;dsimp only at e0 e1 e2 e3 e4 e5 d0 d1 d2 d3 d4 d5
   go_wp2_with (go_at_call 88;refine (qks _ _ _ _).mono ?_;rintro e wy ⟨rfl,rfl⟩)
   go_ret;exact ⟨by rw [HE.out];rfl,hb⟩
  | true =>
   have hz1:=z1;simp only [inB,Bool.and_eq_true,decide_eq_true_eq] at hz1
   cases z2:inB col 0 264 with
   | false =>
    have HE:Hid (qan ⟨W,Hh,rows,vr,vc,vis⟩ ⟨3,row,col,count,0,g⟩=2):=Lh (by
     rw [hf.out,if_neg L1,if_pos];rw [hrr.out];simp only [inB,Bool.and_eq_false_iff,decide_eq_false_iff_not] at z2
     exact Lk (by dsimp only;omega))
    clear hf hrr rd hrl rg hgz hz1
    go_enter func87,ntmps87
    go_upto_region 1 with fail
    refine qa (VcBox w ⟨W,Hh,rows,vr,vc,vis⟩ A n c ⟨3,row,col,count,0,g⟩ Ag cap) (VcBox.new w ⟨W,Hh,rows,vr,vc,vis⟩ A n c ⟨3,row,col,count,0,g⟩ Ag cap) ?_;intro X hX;obtain ⟨e0,e1,e2,e3,e4,e5⟩:=qw hX.v;obtain ⟨d0,d1,d2,d3,d4,d5,-⟩:=qV hX.c;have hb:=hX.bel;dsimp only at e0 e1 e2 e3 e4 e5 d0 d1 d2 d3 d4 d5
    go_wp2_with (go_at_call 88;refine (qks _ _ _ _).mono ?_;rintro e wy ⟨rfl,rfl⟩)
    go_ret;exact ⟨by rw [HE.out];rfl,hb⟩
   | true =>
    have hz2:=z2;simp only [inB,Bool.and_eq_true,decide_eq_true_eq] at hz2
    by_cases h3:count<0
    ·have HE:Hid (qan ⟨W,Hh,rows,vr,vc,vis⟩ ⟨3,row,col,count,0,g⟩=2):=Lh (by
      rw [hf.out,if_neg L1,if_pos];rw [hrr.out]
      exact Lk (by dsimp only;omega))
     have hd3:decide (count<0)=true:=Ll h3;clear hf hrr rd hrl rg hgz hz1 hz2
     go_enter func87,ntmps87
     go_upto_region 1 with fail
     refine qa (VcBox w ⟨W,Hh,rows,vr,vc,vis⟩ A n c ⟨3,row,col,count,0,g⟩ Ag cap) (VcBox.new w ⟨W,Hh,rows,vr,vc,vis⟩ A n c ⟨3,row,col,count,0,g⟩ Ag cap) ?_;intro X hX;obtain ⟨e0,e1,e2,e3,e4,e5⟩:=qw hX.v;obtain ⟨d0,d1,d2,d3,d4,d5,-⟩:=qV hX.c;have hb:=hX.bel;dsimp only at e0 e1 e2 e3 e4 e5 d0 d1 d2 d3 d4 d5
     go_wp2_with (go_at_call 88;refine (qks _ _ _ _).mono ?_;rintro e wy ⟨rfl,rfl⟩)
     go_ret;exact ⟨by rw [HE.out];rfl,hb⟩
    ·have hd3:decide (count<0)=false:=Lk h3;obtain ⟨k,rfl⟩ : ∃ k:Nat,row=k:=⟨row.toNat,by omega⟩
     have hkr:k<rs.length:=by have:=rd.1.len;omega
     obtain ⟨b,o,rfl,hbB,qnM⟩:=rd.1.at_ hkr;have hkn:(k:Int)<n:=by omega
     have hl1:=hrl _ (Lt hkr);have hD:(rows.getD ((k:Int).toNat) []).length=rs[k].l.length:=by rw [show rows=rls rs from rd.2.1,Int.toNat_natCast,qa4 hkr]
     have hf2:Hid (qan ⟨W,Hh,rows,vr,vc,vis⟩ ⟨3,(k:Int),col,count,0,g⟩=if (count=0∨col+count<=(rs[k].l.length:Int)) then yK g else 2):=Lh (by
      rw [hf.out,if_neg L1,hrr.out];dsimp only;rw [hD]
      by_cases hq:count=0∨col+count<=(rs[k].l.length:Int)
      ·rw [if_pos hq,if_neg];rw [Ll L0]
       decide
      ·rw [if_neg hq,if_pos (Lk L0)])
     have hn9:(n:Int)<=9223372036854775807:=by have h1:=rd.2.2.1;have h2:=rd.2.2.2;unfold maxLen at h2;omega
     clear hf hrr HE;generalize qan ⟨W,Hh,rows,vr,vc,vis⟩ ⟨3,(k:Int),col,count,0,g⟩=E at *
     have hcell':=Lh qnM;clear rd hrl qnM hD;generalize rs[k].l.length=q at *
     generalize rs[k].A=Aq at *
     generalize rs[k].cap=cq at *
     have hqc:IntKind.i64.wrap ((q:Int)-col)=(q:Int)-col:=by rw [Lx];omega
     by_cases hc1:col<=(q:Int)
     ·have b1:decide (col<=(q:Int))=true:=Ll hc1;have b2:decide ((q:Int)<col)=false:=Lk L0
      by_cases hc2:(q:Int)-col<count
      ·have b3:decide ((q:Int)-col<count)=true:=Ll hc2;have HE:Hid (E=2):=Lh (by rw [hf2.out,if_neg L0]);clear hf2 rg hgz hz1 hz2 hc1 hc2 h3
       go_enter func87,ntmps87
       go_upto_region 1 with fail
       refine qa (VcBox w ⟨W,Hh,rows,vr,vc,vis⟩ (some ⟨b,o,none⟩) n c ⟨3,(k:Int),col,count,0,g⟩ Ag cap) (VcBox.new w ⟨W,Hh,rows,vr,vc,vis⟩ (some ⟨b,o,none⟩) n c ⟨3,(k:Int),col,count,0,g⟩ Ag cap) ?_;intro X hX;obtain ⟨e0,e1,e2,e3,e4,e5⟩:=qw hX.v;obtain ⟨d0,d1,d2,d3,d4,d5,-⟩:=qV hX.c;have hb:=hX.bel;dsimp only at e0 e1 e2 e3 e4 e5 d0 d1 d2 d3 d4 d5;have hcl:=(hb.cell (p:=⟨b,o+k,none⟩) L7).trans hcell'.out
       go_wp2_with (go_at_call 88;refine (qks _ _ _ _).mono ?_;rintro e wy ⟨rfl,rfl⟩)
       go_ret;exact ⟨by rw [HE.out];rfl,hb⟩
      ·have b3:decide ((q:Int)-col<count)=false:=Lk hc2;have HE:Hid (E=yK (g.drop 0)):=Lh (by rw [hf2.out,if_pos L0];rfl);clear hf2 hz1 hz2 hc1 hc2 h3
       go_enter func87,ntmps87
       go_upto_region 1 with fail
       refine qa (VcBox w ⟨W,Hh,rows,vr,vc,vis⟩ (some ⟨b,o,none⟩) n c ⟨3,(k:Int),col,count,0,g⟩ Ag cap) (VcBox.new w ⟨W,Hh,rows,vr,vc,vis⟩ (some ⟨b,o,none⟩) n c ⟨3,(k:Int),col,count,0,g⟩ Ag cap) ?_;intro X hX;obtain ⟨e0,e1,e2,e3,e4,e5⟩:=qw hX.v;obtain ⟨d0,d1,d2,d3,d4,d5,-⟩:=qV hX.c;have hb:=hX.bel;dsimp only at e0 e1 e2 e3 e4 e5 d0 d1 d2 d3 d4 d5;have hcl:=(hb.cell (p:=⟨b,o+k,none⟩) L7).trans hcell'.out
       go_wp2_with (go_at_call 88;refine (qks _ _ _ _).mono ?_;rintro e wy ⟨rfl,rfl⟩)
       clear e0 e1 e2 e3 e4 e5 d0 d1 d2 d3 d4 d5 hcl
       go_loopw [6] (fun y wr=>∃ j:Nat,j<=g.length/\y = .int .i64 j/\VcBox w ⟨W,Hh,rows,vr,vc,vis⟩ (some ⟨b,o,none⟩) n c ⟨3,(k:Int),col,count,0,g⟩ Ag cap wr/\Hid (E=yK (g.drop j))) (fun y _=>g.length-(intOf y).toNat)
       case atStart=>exact ⟨0,Nat.zero_le _,rfl,hX,HE⟩
       case round =>
        clear hX hb HE;obtain ⟨j,hj,rfl,hX,HJ⟩:=hrel;obtain ⟨e0,e1,e2,e3,e4,e5⟩:=qw hX.v;obtain ⟨d0,d1,d2,d3,d4,d5,-⟩:=qV hX.c;have hb:=hX.bel;dsimp only at e0 e1 e2 e3 e4 e5 d0 d1 d2 d3 d4 d5
        by_cases hlj:j<g.length
        ·obtain ⟨b',o',rfl,hbB',g0,g1,g2⟩:=jE ((rg.more hB).below hb) hlj rfl;have HVj:=Lh fun w'=>qky g[j] (hgz _ (Lt hlj)) w'
         have HJ2:=HJ.out;rw [qdN hlj] at HJ2;clear hgz rg;generalize g[j]=x at *
         by_cases h0:qJ x=0
         ·rw [if_neg (show ¬ qJ x≠0 by simp [h0])] at HJ2;replace HJ2:=Lh HJ2;rw [h0] at HVj;clear h0;obtain ⟨t,wd,st⟩:=x;dsimp only at *
          go_wp2_with (go_at_call 57;refine (HVj.out _).mono ?_;rintro e w1 ⟨rfl,hb1⟩)
          exact ⟨⟨j+1,by omega,by go_num,hX.on hb1,HJ2⟩,by simp [intOf];omega⟩
         ·rw [if_pos (show qJ x≠0 from h0)] at HJ2;replace HJ2:=Lh HJ2;have hn0:(qJ x != 0)=true:=Ln.2 h0;clear h0;generalize hq:qJ x=K at *
          clear hq;obtain ⟨t,wd,st⟩:=x;dsimp only at *
          go_wp2_with (go_at_call 57;refine (HVj.out _).mono ?_;rintro e w1 ⟨rfl,hb1⟩)
          go_ret;exact ⟨by rw [HJ2.out];rfl,(hX.on hb1).bel⟩
        ·obtain rfl:j=g.length:=by omega
         have HJ2:Hid (E=0):=Lh (by rw [HJ.out,Lv (Ld _)];rfl);clear HJ;go_wp2;go_ret;exact ⟨by rw [HJ2.out];rfl,hb⟩
     ·have b1:decide (col<=(q:Int))=false:=Lk hc1;have b2:decide ((q:Int)<col)=true:=Ll L0
      by_cases hc2:0<count
      ·have b3:decide (0<count)=true:=Ll hc2;have HE:Hid (E=2):=Lh (by rw [hf2.out,if_neg L0]);clear hf2 rg hgz hz1 hz2 hc1 hc2 h3
       go_enter func87,ntmps87
       go_upto_region 1 with fail
       refine qa (VcBox w ⟨W,Hh,rows,vr,vc,vis⟩ (some ⟨b,o,none⟩) n c ⟨3,(k:Int),col,count,0,g⟩ Ag cap) (VcBox.new w ⟨W,Hh,rows,vr,vc,vis⟩ (some ⟨b,o,none⟩) n c ⟨3,(k:Int),col,count,0,g⟩ Ag cap) ?_;intro X hX;obtain ⟨e0,e1,e2,e3,e4,e5⟩:=qw hX.v;obtain ⟨d0,d1,d2,d3,d4,d5,-⟩:=qV hX.c;have hb:=hX.bel;dsimp only at e0 e1 e2 e3 e4 e5 d0 d1 d2 d3 d4 d5;have hcl:=(hb.cell (p:=⟨b,o+k,none⟩) L7).trans hcell'.out
       go_wp2_with (go_at_call 88;refine (qks _ _ _ _).mono ?_;rintro e wy ⟨rfl,rfl⟩)
       go_ret;exact ⟨by rw [HE.out];rfl,hb⟩
      ·have b3:decide (0<count)=false:=Lk hc2;have HE:Hid (E=yK (g.drop 0)):=Lh (by rw [hf2.out,if_pos L0];rfl);clear hf2 hz1 hz2 hc1 hc2 h3
       go_enter func87,ntmps87
       go_upto_region 1 with fail
       refine qa (VcBox w ⟨W,Hh,rows,vr,vc,vis⟩ (some ⟨b,o,none⟩) n c ⟨3,(k:Int),col,count,0,g⟩ Ag cap) (VcBox.new w ⟨W,Hh,rows,vr,vc,vis⟩ (some ⟨b,o,none⟩) n c ⟨3,(k:Int),col,count,0,g⟩ Ag cap) ?_;intro X hX;obtain ⟨e0,e1,e2,e3,e4,e5⟩:=qw hX.v;obtain ⟨d0,d1,d2,d3,d4,d5,-⟩:=qV hX.c;have hb:=hX.bel;dsimp only at e0 e1 e2 e3 e4 e5 d0 d1 d2 d3 d4 d5;have hcl:=(hb.cell (p:=⟨b,o+k,none⟩) L7).trans hcell'.out
       go_wp2_with (go_at_call 88;refine (qks _ _ _ _).mono ?_;rintro e wy ⟨rfl,rfl⟩)
       clear e0 e1 e2 e3 e4 e5 d0 d1 d2 d3 d4 d5 hcl
       go_loopw [6] (fun y wr=>∃ j:Nat,j<=g.length/\y = .int .i64 j/\VcBox w ⟨W,Hh,rows,vr,vc,vis⟩ (some ⟨b,o,none⟩) n c ⟨3,(k:Int),col,count,0,g⟩ Ag cap wr/\Hid (E=yK (g.drop j))) (fun y _=>g.length-(intOf y).toNat)
       case atStart=>exact ⟨0,Nat.zero_le _,rfl,hX,HE⟩
       case round =>
        clear hX hb HE;obtain ⟨j,hj,rfl,hX,HJ⟩:=hrel;obtain ⟨e0,e1,e2,e3,e4,e5⟩:=qw hX.v;obtain ⟨d0,d1,d2,d3,d4,d5,-⟩:=qV hX.c;have hb:=hX.bel;dsimp only at e0 e1 e2 e3 e4 e5 d0 d1 d2 d3 d4 d5
        by_cases hlj:j<g.length
        ·obtain ⟨b',o',rfl,hbB',g0,g1,g2⟩:=jE ((rg.more hB).below hb) hlj rfl;have HVj:=Lh fun w'=>qky g[j] (hgz _ (Lt hlj)) w'
         have HJ2:=HJ.out;rw [qdN hlj] at HJ2;clear hgz rg;generalize g[j]=x at *
         by_cases h0:qJ x=0
         ·rw [if_neg (show ¬ qJ x≠0 by simp [h0])] at HJ2;replace HJ2:=Lh HJ2;rw [h0] at HVj;clear h0;obtain ⟨t,wd,st⟩:=x;dsimp only at *
          go_wp2_with (go_at_call 57;refine (HVj.out _).mono ?_;rintro e w1 ⟨rfl,hb1⟩)
          exact ⟨⟨j+1,by omega,by go_num,hX.on hb1,HJ2⟩,by simp [intOf];omega⟩
         ·rw [if_pos (show qJ x≠0 from h0)] at HJ2;replace HJ2:=Lh HJ2;have hn0:(qJ x != 0)=true:=Ln.2 h0;clear h0;generalize hq:qJ x=K at *
          clear hq;obtain ⟨t,wd,st⟩:=x;dsimp only at *
          go_wp2_with (go_at_call 57;refine (HVj.out _).mono ?_;rintro e w1 ⟨rfl,hb1⟩)
          go_ret;exact ⟨by rw [HJ2.out];rfl,(hX.on hb1).bel⟩
        ·obtain rfl:j=g.length:=by omega
         have HJ2:Hid (E=0):=Lh (by rw [HJ.out,Lv (Ld _)];rfl);clear HJ;go_wp2;go_ret;exact ⟨by rw [HJ2.out];rfl,hb⟩
 ·have HE:Hid (qan ⟨W,Hh,rows,vr,vc,vis⟩ ⟨3,row,col,count,til,g⟩=1):=Lh (by rw [hf.out,if_pos h1]);have hb1:(til != 0)=true:=Ln.2 h1;clear hf hrr rd hrl rg hgz h1
  go_enter func87,ntmps87
  go_upto_region 1 with fail
  refine qa (VcBox w ⟨W,Hh,rows,vr,vc,vis⟩ A n c ⟨3,row,col,count,til,g⟩ Ag cap) (VcBox.new w ⟨W,Hh,rows,vr,vc,vis⟩ A n c ⟨3,row,col,count,til,g⟩ Ag cap) ?_;intro X hX;obtain ⟨e0,e1,e2,e3,e4,e5⟩:=qw hX.v;obtain ⟨d0,d1,d2,d3,d4,d5,-⟩:=qV hX.c;have hb:=hX.bel;dsimp only at e0 e1 e2 e3 e4 e5 d0 d1 d2 d3 d4 d5
  go_wp2_with (go_at_call 88;refine (qks _ _ _ _).mono ?_;rintro e wy ⟨rfl,rfl⟩)
  go_ret;exact ⟨by rw [HE.out];rfl,hb⟩
end
theorem qkt {v:Vw} {c:Chg} (h1:1<=c.kind) (h4:c.kind<=4) (h:zS c=false):qan v c=1:=by
 unfold qan;rw [if_neg L0,if_pos h]
theorem qkv {v:Vw} {c:Chg} (h1:1<=c.kind) (h4:c.kind<=4) (h:zS c=true) (hg:c.glyphs=[]):qan v c=if zh v c=false then 2 else 0:=by
 unfold qan;rw [if_neg L0,if_neg (by rw [h];decide),hg]
 rfl
section
variable {W Hh : Int} {rows : List (List Gl)} {vr vc : Int} {vis : Bool} {A : Option Addr} {n c : Nat} {w : World} {row col count til : Int} {g : List Gl} {Ag : Option Addr} {cap : Nat}
theorem qkR:Calls prog 65 #[.agg (vwC ⟨W,Hh,rows,vr,vc,vis⟩ A n c),jH ⟨1,row,col,count,til,g⟩ Ag cap] w (qh (.int .i64 (qan ⟨W,Hh,rows,vr,vc,vis⟩ ⟨1,row,col,count,til,g⟩)) w):=by
 have hi:inB 1 1 4=true:=rfl
 by_cases hg:g=[]
 ·subst hg
  by_cases a1:til=0
  ·have b1:(til != 0)=false:=by simp [a1]
   by_cases a2:count=0
   ·have b2:(count != 0)=false:=by simp [a2]
    have HE:Hid (qan ⟨W,Hh,rows,vr,vc,vis⟩ ⟨1,row,col,count,til,[]⟩=if zh ⟨W,Hh,rows,vr,vc,vis⟩ ⟨1,row,col,count,til,[]⟩=false then 2 else 0):=Lh (qkv (show (1:Int)<=1 by decide) (show (1:Int)<=4 by decide) (by simp [zS, *]) rfl);have hr:zh ⟨W,Hh,rows,vr,vc,vis⟩ ⟨1,row,col,count,til,[]⟩=vR col row:=by
     rw [Bool.eq_iff_iff];simp [zh,vR];omega
    clear a1 a2
    cases z:vR col row with
    | false =>
     replace HE:=Lh (HE.out.trans (if_pos (hr.trans z)));clear hr
     go_enter func65,ntmps65
     go_upto_region 1 with fail
     refine qa (VcBox w ⟨W,Hh,rows,vr,vc,vis⟩ A n c ⟨1,row,col,count,til,[]⟩ Ag cap) (VcBox.new w ⟨W,Hh,rows,vr,vc,vis⟩ A n c ⟨1,row,col,count,til,[]⟩ Ag cap) ?_;intro X hX;obtain ⟨e0,e1,e2,e3,e4,e5⟩:=qw hX.v;obtain ⟨d0,d1,d2,d3,d4,d5,-⟩:=qV hX.c;have hb:=hX.bel;dsimp only at e0 e1 e2 e3 e4 e5 d0 d1 d2 d3 d4 d5
     go_wp2_with (first | (go_at_call 88;refine (qks _ _ _ _).mono ?_;rintro e wy ⟨rfl,rfl⟩) | (go_at_call 38;refine (q6 _ _ _).mono ?_;rintro e wy ⟨rfl,rfl⟩))
     go_ret;exact ⟨by rw [HE.out];rfl,hb⟩
    | true =>
     replace HE:=Lh (HE.out.trans (if_neg (by rw [(hr.trans z)];decide)));clear hr
     go_enter func65,ntmps65
     go_upto_region 1 with fail
     refine qa (VcBox w ⟨W,Hh,rows,vr,vc,vis⟩ A n c ⟨1,row,col,count,til,[]⟩ Ag cap) (VcBox.new w ⟨W,Hh,rows,vr,vc,vis⟩ A n c ⟨1,row,col,count,til,[]⟩ Ag cap) ?_;intro X hX;obtain ⟨e0,e1,e2,e3,e4,e5⟩:=qw hX.v;obtain ⟨d0,d1,d2,d3,d4,d5,-⟩:=qV hX.c;have hb:=hX.bel;dsimp only at e0 e1 e2 e3 e4 e5 d0 d1 d2 d3 d4 d5
     go_wp2_with (first | (go_at_call 88;refine (qks _ _ _ _).mono ?_;rintro e wy ⟨rfl,rfl⟩) | (go_at_call 38;refine (q6 _ _ _).mono ?_;rintro e wy ⟨rfl,rfl⟩))
     go_ret;exact ⟨by rw [HE.out];rfl,hb⟩
   ·have b2:(count != 0)=true:=Ln.2 a2;have HE:Hid (qan ⟨W,Hh,rows,vr,vc,vis⟩ ⟨1,row,col,count,til,[]⟩=1):=Lh (qkt (show (1:Int)<=1 by decide) (show (1:Int)<=4 by decide) (by simp [zS, *]));clear a1 a2
    go_enter func65,ntmps65
    go_upto_region 1 with fail
    refine qa (VcBox w ⟨W,Hh,rows,vr,vc,vis⟩ A n c ⟨1,row,col,count,til,[]⟩ Ag cap) (VcBox.new w ⟨W,Hh,rows,vr,vc,vis⟩ A n c ⟨1,row,col,count,til,[]⟩ Ag cap) ?_;intro X hX;obtain ⟨e0,e1,e2,e3,e4,e5⟩:=qw hX.v;obtain ⟨d0,d1,d2,d3,d4,d5,-⟩:=qV hX.c;have hb:=hX.bel;dsimp only at e0 e1 e2 e3 e4 e5 d0 d1 d2 d3 d4 d5
    go_wp2_with (first | (go_at_call 88;refine (qks _ _ _ _).mono ?_;rintro e wy ⟨rfl,rfl⟩) | (go_at_call 38;refine (q6 _ _ _).mono ?_;rintro e wy ⟨rfl,rfl⟩))
    go_ret;exact ⟨by rw [HE.out];rfl,hb⟩
  ·have b1:(til != 0)=true:=Ln.2 a1;have HE:Hid (qan ⟨W,Hh,rows,vr,vc,vis⟩ ⟨1,row,col,count,til,[]⟩=1):=Lh (qkt (show (1:Int)<=1 by decide) (show (1:Int)<=4 by decide) (by simp [zS, *]));clear a1
   go_enter func65,ntmps65
   go_upto_region 1 with fail
   refine qa (VcBox w ⟨W,Hh,rows,vr,vc,vis⟩ A n c ⟨1,row,col,count,til,[]⟩ Ag cap) (VcBox.new w ⟨W,Hh,rows,vr,vc,vis⟩ A n c ⟨1,row,col,count,til,[]⟩ Ag cap) ?_;intro X hX;obtain ⟨e0,e1,e2,e3,e4,e5⟩:=qw hX.v;obtain ⟨d0,d1,d2,d3,d4,d5,-⟩:=qV hX.c;have hb:=hX.bel;dsimp only at e0 e1 e2 e3 e4 e5 d0 d1 d2 d3 d4 d5
   go_wp2_with (first | (go_at_call 88;refine (qks _ _ _ _).mono ?_;rintro e wy ⟨rfl,rfl⟩) | (go_at_call 38;refine (q6 _ _ _).mono ?_;rintro e wy ⟨rfl,rfl⟩))
   go_ret;exact ⟨by rw [HE.out];rfl,hb⟩
 ·have HE:Hid (qan ⟨W,Hh,rows,vr,vc,vis⟩ ⟨1,row,col,count,til,g⟩=1):=Lh (qkt (show (1:Int)<=1 by decide) (show (1:Int)<=4 by decide) (by simp [zS, *]));have hg0:0<g.length:=List.length_pos_iff.2 hg;have hg1:(0:Int)<(g.length:Int):=by omega
  clear hg
  go_enter func65,ntmps65
  go_upto_region 1 with fail
  refine qa (VcBox w ⟨W,Hh,rows,vr,vc,vis⟩ A n c ⟨1,row,col,count,til,g⟩ Ag cap) (VcBox.new w ⟨W,Hh,rows,vr,vc,vis⟩ A n c ⟨1,row,col,count,til,g⟩ Ag cap) ?_;intro X hX;obtain ⟨e0,e1,e2,e3,e4,e5⟩:=qw hX.v;obtain ⟨d0,d1,d2,d3,d4,d5,-⟩:=qV hX.c;have hb:=hX.bel;dsimp only at e0 e1 e2 e3 e4 e5 d0 d1 d2 d3 d4 d5
  go_wp2_with (first | (go_at_call 88;refine (qks _ _ _ _).mono ?_;rintro e wy ⟨rfl,rfl⟩) | (go_at_call 38;refine (q6 _ _ _).mono ?_;rintro e wy ⟨rfl,rfl⟩))
  go_ret;exact ⟨by rw [HE.out];rfl,hb⟩
theorem qkV (hh:Hh<=60):Calls prog 65 #[.agg (vwC ⟨W,Hh,rows,vr,vc,vis⟩ A n c),jH ⟨2,row,col,count,til,g⟩ Ag cap] w (qh (.int .i64 (qan ⟨W,Hh,rows,vr,vc,vis⟩ ⟨2,row,col,count,til,g⟩)) w):=by
 have hi:inB 2 1 4=true:=rfl
 by_cases hg:g=[]
 ·subst hg
  by_cases a1:col=0
  ·have b1:(col != 0)=false:=by simp [a1]
   have HE:Hid (qan ⟨W,Hh,rows,vr,vc,vis⟩ ⟨2,row,col,count,til,[]⟩=if zh ⟨W,Hh,rows,vr,vc,vis⟩ ⟨2,row,col,count,til,[]⟩=false then 2 else 0):=Lh (qkv (show (1:Int)<=2 by decide) (show (2:Int)<=4 by decide) (by simp [zS, *]) rfl);clear a1
   by_cases c1:0<=row
   ·have f1:decide (0<=row)=true:=Ll c1
    by_cases c2:row<til
    ·have f2:decide (row<til)=true:=Ll c2
     by_cases c3:til<=Hh
     ·have f3:decide (til<=Hh)=true:=Ll c3
      by_cases c4:count=0
      ·have f4:(count != 0)=false:=by simp [c4]
       have hr:zh ⟨W,Hh,rows,vr,vc,vis⟩ ⟨2,row,col,count,til,[]⟩=false:=by rw [kk];exact Lk (by dsimp only;omega)
       replace HE:=Lh (HE.out.trans (if_pos hr));clear hr c1 c2 c3 c4
       go_enter func65,ntmps65
       go_upto_region 1 with fail
       refine qa (VcBox w ⟨W,Hh,rows,vr,vc,vis⟩ A n c ⟨2,row,col,count,til,[]⟩ Ag cap) (VcBox.new w ⟨W,Hh,rows,vr,vc,vis⟩ A n c ⟨2,row,col,count,til,[]⟩ Ag cap) ?_;intro X hX;obtain ⟨e0,e1,e2,e3,e4,e5⟩:=qw hX.v;obtain ⟨d0,d1,d2,d3,d4,d5,-⟩:=qV hX.c;have hb:=hX.bel;dsimp only at e0 e1 e2 e3 e4 e5 d0 d1 d2 d3 d4 d5
       go_wp2_with (first | (go_at_call 88;refine (qks _ _ _ _).mono ?_;rintro e wy ⟨rfl,rfl⟩) | (go_at_call 38;refine (q6 _ _ _).mono ?_;rintro e wy ⟨rfl,rfl⟩))
       go_ret;exact ⟨by rw [HE.out];rfl,hb⟩
      ·have f4:(count != 0)=true:=Ln.2 c4;have w1:IntKind.i64.wrap (til-row)=til-row:=by rw [Lx];omega
       have w2:IntKind.i64.wrap (-(til-row)) = -(til-row):=by rw [Lx];omega
       by_cases c5:count<til-row
       ·have f5:decide (count<til-row)=true:=Ll c5
        by_cases c6 : -(til-row)<count
        ·have f6:decide (-(til-row)<count)=true:=Ll c6;have hr:zh ⟨W,Hh,rows,vr,vc,vis⟩ ⟨2,row,col,count,til,[]⟩=true:=by rw [kk];exact Ll (by dsimp only;omega)
         replace HE:=Lh (HE.out.trans (if_neg (by rw [hr];decide)));clear hr c1 c2 c3 c4 c5 c6
         go_enter func65,ntmps65
         go_upto_region 1 with fail
         refine qa (VcBox w ⟨W,Hh,rows,vr,vc,vis⟩ A n c ⟨2,row,col,count,til,[]⟩ Ag cap) (VcBox.new w ⟨W,Hh,rows,vr,vc,vis⟩ A n c ⟨2,row,col,count,til,[]⟩ Ag cap) ?_;intro X hX;obtain ⟨e0,e1,e2,e3,e4,e5⟩:=qw hX.v;obtain ⟨d0,d1,d2,d3,d4,d5,-⟩:=qV hX.c;have hb:=hX.bel;dsimp only at e0 e1 e2 e3 e4 e5 d0 d1 d2 d3 d4 d5
         go_wp2_with (first | (go_at_call 88;refine (qks _ _ _ _).mono ?_;rintro e wy ⟨rfl,rfl⟩) | (go_at_call 38;refine (q6 _ _ _).mono ?_;rintro e wy ⟨rfl,rfl⟩))
         go_ret;exact ⟨by rw [HE.out];rfl,hb⟩
        ·have f6:decide (-(til-row)<count)=false:=Lk c6;have hr:zh ⟨W,Hh,rows,vr,vc,vis⟩ ⟨2,row,col,count,til,[]⟩=false:=by rw [kk];exact Lk (by dsimp only;omega)
         replace HE:=Lh (HE.out.trans (if_pos hr));clear hr c1 c2 c3 c4 c5 c6
         go_enter func65,ntmps65
         go_upto_region 1 with fail
         refine qa (VcBox w ⟨W,Hh,rows,vr,vc,vis⟩ A n c ⟨2,row,col,count,til,[]⟩ Ag cap) (VcBox.new w ⟨W,Hh,rows,vr,vc,vis⟩ A n c ⟨2,row,col,count,til,[]⟩ Ag cap) ?_;intro X hX;obtain ⟨e0,e1,e2,e3,e4,e5⟩:=qw hX.v;obtain ⟨d0,d1,d2,d3,d4,d5,-⟩:=qV hX.c;have hb:=hX.bel;dsimp only at e0 e1 e2 e3 e4 e5 d0 d1 d2 d3 d4 d5
         go_wp2_with (first | (go_at_call 88;refine (qks _ _ _ _).mono ?_;rintro e wy ⟨rfl,rfl⟩) | (go_at_call 38;refine (q6 _ _ _).mono ?_;rintro e wy ⟨rfl,rfl⟩))
         go_ret;exact ⟨by rw [HE.out];rfl,hb⟩
       ·have f5:decide (count<til-row)=false:=Lk c5;have hr:zh ⟨W,Hh,rows,vr,vc,vis⟩ ⟨2,row,col,count,til,[]⟩=false:=by rw [kk];exact Lk (by dsimp only;omega)
        replace HE:=Lh (HE.out.trans (if_pos hr));clear hr c1 c2 c3 c4 c5
        go_enter func65,ntmps65
        go_upto_region 1 with fail
        refine qa (VcBox w ⟨W,Hh,rows,vr,vc,vis⟩ A n c ⟨2,row,col,count,til,[]⟩ Ag cap) (VcBox.new w ⟨W,Hh,rows,vr,vc,vis⟩ A n c ⟨2,row,col,count,til,[]⟩ Ag cap) ?_;intro X hX;obtain ⟨e0,e1,e2,e3,e4,e5⟩:=qw hX.v;obtain ⟨d0,d1,d2,d3,d4,d5,-⟩:=qV hX.c;have hb:=hX.bel;dsimp only at e0 e1 e2 e3 e4 e5 d0 d1 d2 d3 d4 d5
        go_wp2_with (first | (go_at_call 88;refine (qks _ _ _ _).mono ?_;rintro e wy ⟨rfl,rfl⟩) | (go_at_call 38;refine (q6 _ _ _).mono ?_;rintro e wy ⟨rfl,rfl⟩))
        go_ret;exact ⟨by rw [HE.out];rfl,hb⟩
     ·have f3:decide (til<=Hh)=false:=Lk c3;have hr:zh ⟨W,Hh,rows,vr,vc,vis⟩ ⟨2,row,col,count,til,[]⟩=false:=by rw [kk];exact Lk (by dsimp only;omega)
      replace HE:=Lh (HE.out.trans (if_pos hr));clear hr c1 c2 c3
      go_enter func65,ntmps65
      go_upto_region 1 with fail
      refine qa (VcBox w ⟨W,Hh,rows,vr,vc,vis⟩ A n c ⟨2,row,col,count,til,[]⟩ Ag cap) (VcBox.new w ⟨W,Hh,rows,vr,vc,vis⟩ A n c ⟨2,row,col,count,til,[]⟩ Ag cap) ?_;intro X hX;obtain ⟨e0,e1,e2,e3,e4,e5⟩:=qw hX.v;obtain ⟨d0,d1,d2,d3,d4,d5,-⟩:=qV hX.c;have hb:=hX.bel;dsimp only at e0 e1 e2 e3 e4 e5 d0 d1 d2 d3 d4 d5
      go_wp2_with (first | (go_at_call 88;refine (qks _ _ _ _).mono ?_;rintro e wy ⟨rfl,rfl⟩) | (go_at_call 38;refine (q6 _ _ _).mono ?_;rintro e wy ⟨rfl,rfl⟩))
      go_ret;exact ⟨by rw [HE.out];rfl,hb⟩
    ·have f2:decide (row<til)=false:=Lk c2;have hr:zh ⟨W,Hh,rows,vr,vc,vis⟩ ⟨2,row,col,count,til,[]⟩=false:=by rw [kk];exact Lk (by dsimp only;omega)
     replace HE:=Lh (HE.out.trans (if_pos hr));clear hr c1 c2
     go_enter func65,ntmps65
     go_upto_region 1 with fail
     refine qa (VcBox w ⟨W,Hh,rows,vr,vc,vis⟩ A n c ⟨2,row,col,count,til,[]⟩ Ag cap) (VcBox.new w ⟨W,Hh,rows,vr,vc,vis⟩ A n c ⟨2,row,col,count,til,[]⟩ Ag cap) ?_;intro X hX;obtain ⟨e0,e1,e2,e3,e4,e5⟩:=qw hX.v;obtain ⟨d0,d1,d2,d3,d4,d5,-⟩:=qV hX.c;have hb:=hX.bel;dsimp only at e0 e1 e2 e3 e4 e5 d0 d1 d2 d3 d4 d5
     go_wp2_with (first | (go_at_call 88;refine (qks _ _ _ _).mono ?_;rintro e wy ⟨rfl,rfl⟩) | (go_at_call 38;refine (q6 _ _ _).mono ?_;rintro e wy ⟨rfl,rfl⟩))
     go_ret;exact ⟨by rw [HE.out];rfl,hb⟩
   ·have f1:decide (0<=row)=false:=Lk c1;have hr:zh ⟨W,Hh,rows,vr,vc,vis⟩ ⟨2,row,col,count,til,[]⟩=false:=by rw [kk];exact Lk (by dsimp only;omega)
    replace HE:=Lh (HE.out.trans (if_pos hr));clear hr c1
    go_enter func65,ntmps65
    go_upto_region 1 with fail
    refine qa (VcBox w ⟨W,Hh,rows,vr,vc,vis⟩ A n c ⟨2,row,col,count,til,[]⟩ Ag cap) (VcBox.new w ⟨W,Hh,rows,vr,vc,vis⟩ A n c ⟨2,row,col,count,til,[]⟩ Ag cap) ?_;intro X hX;obtain ⟨e0,e1,e2,e3,e4,e5⟩:=qw hX.v;obtain ⟨d0,d1,d2,d3,d4,d5,-⟩:=qV hX.c;have hb:=hX.bel;dsimp only at e0 e1 e2 e3 e4 e5 d0 d1 d2 d3 d4 d5
    go_wp2_with (first | (go_at_call 88;refine (qks _ _ _ _).mono ?_;rintro e wy ⟨rfl,rfl⟩) | (go_at_call 38;refine (q6 _ _ _).mono ?_;rintro e wy ⟨rfl,rfl⟩))
    go_ret;exact ⟨by rw [HE.out];rfl,hb⟩
  ·have b1:(col != 0)=true:=Ln.2 a1;have HE:Hid (qan ⟨W,Hh,rows,vr,vc,vis⟩ ⟨2,row,col,count,til,[]⟩=1):=Lh (qkt (show (1:Int)<=2 by decide) (show (2:Int)<=4 by decide) (by simp [zS, *]));clear a1
   go_enter func65,ntmps65
   go_upto_region 1 with fail
   refine qa (VcBox w ⟨W,Hh,rows,vr,vc,vis⟩ A n c ⟨2,row,col,count,til,[]⟩ Ag cap) (VcBox.new w ⟨W,Hh,rows,vr,vc,vis⟩ A n c ⟨2,row,col,count,til,[]⟩ Ag cap) ?_;intro X hX;obtain ⟨e0,e1,e2,e3,e4,e5⟩:=qw hX.v;obtain ⟨d0,d1,d2,d3,d4,d5,-⟩:=qV hX.c;have hb:=hX.bel;dsimp only at e0 e1 e2 e3 e4 e5 d0 d1 d2 d3 d4 d5
   go_wp2_with (first | (go_at_call 88;refine (qks _ _ _ _).mono ?_;rintro e wy ⟨rfl,rfl⟩) | (go_at_call 38;refine (q6 _ _ _).mono ?_;rintro e wy ⟨rfl,rfl⟩))
   go_ret;exact ⟨by rw [HE.out];rfl,hb⟩
 ·have HE:Hid (qan ⟨W,Hh,rows,vr,vc,vis⟩ ⟨2,row,col,count,til,g⟩=1):=Lh (qkt (show (1:Int)<=2 by decide) (show (2:Int)<=4 by decide) (by simp [zS, *]));have hg0:0<g.length:=List.length_pos_iff.2 hg;have hg1:(0:Int)<(g.length:Int):=by omega
  clear hg
  go_enter func65,ntmps65
  go_upto_region 1 with fail
  refine qa (VcBox w ⟨W,Hh,rows,vr,vc,vis⟩ A n c ⟨2,row,col,count,til,g⟩ Ag cap) (VcBox.new w ⟨W,Hh,rows,vr,vc,vis⟩ A n c ⟨2,row,col,count,til,g⟩ Ag cap) ?_;intro X hX;obtain ⟨e0,e1,e2,e3,e4,e5⟩:=qw hX.v;obtain ⟨d0,d1,d2,d3,d4,d5,-⟩:=qV hX.c;have hb:=hX.bel;dsimp only at e0 e1 e2 e3 e4 e5 d0 d1 d2 d3 d4 d5
  go_wp2_with (first | (go_at_call 88;refine (qks _ _ _ _).mono ?_;rintro e wy ⟨rfl,rfl⟩) | (go_at_call 38;refine (q6 _ _ _).mono ?_;rintro e wy ⟨rfl,rfl⟩))
  go_ret;exact ⟨by rw [HE.out];rfl,hb⟩
theorem qkJ (hh:1<=Hh/\Hh<=60) (hw:1<=W/\W<=132):Calls prog 65 #[.agg (vwC ⟨W,Hh,rows,vr,vc,vis⟩ A n c),jH ⟨4,row,col,count,til,g⟩ Ag cap] w (qh (.int .i64 (qan ⟨W,Hh,rows,vr,vc,vis⟩ ⟨4,row,col,count,til,g⟩)) w):=by
 have hi:inB 4 1 4=true:=rfl;have w1:IntKind.i64.wrap (Hh-1)=Hh-1:=by rw [Lx];omega
 have w2:IntKind.i64.wrap (W-1)=W-1:=by rw [Lx];omega
 by_cases hg:g=[]
 ·subst hg
  by_cases a1:til=0
  ·have b1:(til != 0)=false:=by simp [a1]
   have HE:Hid (qan ⟨W,Hh,rows,vr,vc,vis⟩ ⟨4,row,col,count,til,[]⟩=if zh ⟨W,Hh,rows,vr,vc,vis⟩ ⟨4,row,col,count,til,[]⟩=false then 2 else 0):=Lh (qkv (show (1:Int)<=4 by decide) (show (4:Int)<=4 by decide) (by simp [zS, *]) rfl);clear a1
   cases z1:inB row 0 (Hh-1) with
   | false =>
    have hr:zh ⟨W,Hh,rows,vr,vc,vis⟩ ⟨4,row,col,count,til,[]⟩=false:=by rw [qg6];simp [z1]
    replace HE:=Lh (HE.out.trans (if_pos hr));clear hr
    go_enter func65,ntmps65
    go_upto_region 1 with fail
    refine qa (VcBox w ⟨W,Hh,rows,vr,vc,vis⟩ A n c ⟨4,row,col,count,til,[]⟩ Ag cap) (VcBox.new w ⟨W,Hh,rows,vr,vc,vis⟩ A n c ⟨4,row,col,count,til,[]⟩ Ag cap) ?_;intro X hX;obtain ⟨e0,e1,e2,e3,e4,e5⟩:=qw hX.v;obtain ⟨d0,d1,d2,d3,d4,d5,-⟩:=qV hX.c;have hb:=hX.bel;dsimp only at e0 e1 e2 e3 e4 e5 d0 d1 d2 d3 d4 d5
    go_wp2_with (first | (go_at_call 88;refine (qks _ _ _ _).mono ?_;rintro e wy ⟨rfl,rfl⟩) | (go_at_call 38;refine (q6 _ _ _).mono ?_;rintro e wy ⟨rfl,rfl⟩))
    go_ret;exact ⟨by rw [HE.out];rfl,hb⟩
   | true =>
    cases z2:inB col 0 (W-1) with
    | false =>
     have hr:zh ⟨W,Hh,rows,vr,vc,vis⟩ ⟨4,row,col,count,til,[]⟩=false:=by rw [qg6];simp [z2]
     replace HE:=Lh (HE.out.trans (if_pos hr));clear hr
     go_enter func65,ntmps65
     go_upto_region 1 with fail
     refine qa (VcBox w ⟨W,Hh,rows,vr,vc,vis⟩ A n c ⟨4,row,col,count,til,[]⟩ Ag cap) (VcBox.new w ⟨W,Hh,rows,vr,vc,vis⟩ A n c ⟨4,row,col,count,til,[]⟩ Ag cap) ?_;intro X hX;obtain ⟨e0,e1,e2,e3,e4,e5⟩:=qw hX.v;obtain ⟨d0,d1,d2,d3,d4,d5,-⟩:=qV hX.c;have hb:=hX.bel;dsimp only at e0 e1 e2 e3 e4 e5 d0 d1 d2 d3 d4 d5
     go_wp2_with (first | (go_at_call 88;refine (qks _ _ _ _).mono ?_;rintro e wy ⟨rfl,rfl⟩) | (go_at_call 38;refine (q6 _ _ _).mono ?_;rintro e wy ⟨rfl,rfl⟩))
     go_ret;exact ⟨by rw [HE.out];rfl,hb⟩
    | true =>
     cases z3:inB count 0 1 with
     | false =>
      have hr:zh ⟨W,Hh,rows,vr,vc,vis⟩ ⟨4,row,col,count,til,[]⟩=false:=by rw [qg6];simp [z3]
      replace HE:=Lh (HE.out.trans (if_pos hr));clear hr
      go_enter func65,ntmps65
      go_upto_region 1 with fail
      refine qa (VcBox w ⟨W,Hh,rows,vr,vc,vis⟩ A n c ⟨4,row,col,count,til,[]⟩ Ag cap) (VcBox.new w ⟨W,Hh,rows,vr,vc,vis⟩ A n c ⟨4,row,col,count,til,[]⟩ Ag cap) ?_;intro X hX;obtain ⟨e0,e1,e2,e3,e4,e5⟩:=qw hX.v;obtain ⟨d0,d1,d2,d3,d4,d5,-⟩:=qV hX.c;have hb:=hX.bel;dsimp only at e0 e1 e2 e3 e4 e5 d0 d1 d2 d3 d4 d5
      go_wp2_with (first | (go_at_call 88;refine (qks _ _ _ _).mono ?_;rintro e wy ⟨rfl,rfl⟩) | (go_at_call 38;refine (q6 _ _ _).mono ?_;rintro e wy ⟨rfl,rfl⟩))
      go_ret;exact ⟨by rw [HE.out];rfl,hb⟩
     | true =>
      have hr:zh ⟨W,Hh,rows,vr,vc,vis⟩ ⟨4,row,col,count,til,[]⟩=true:=by rw [qg6];simp [z1,z2,z3]
      replace HE:=Lh (HE.out.trans (if_neg (by rw [hr];decide)));clear hr
      go_enter func65,ntmps65
      go_upto_region 1 with fail
      refine qa (VcBox w ⟨W,Hh,rows,vr,vc,vis⟩ A n c ⟨4,row,col,count,til,[]⟩ Ag cap) (VcBox.new w ⟨W,Hh,rows,vr,vc,vis⟩ A n c ⟨4,row,col,count,til,[]⟩ Ag cap) ?_;intro X hX;obtain ⟨e0,e1,e2,e3,e4,e5⟩:=qw hX.v;obtain ⟨d0,d1,d2,d3,d4,d5,-⟩:=qV hX.c;have hb:=hX.bel;dsimp only at e0 e1 e2 e3 e4 e5 d0 d1 d2 d3 d4 d5
      go_wp2_with (first | (go_at_call 88;refine (qks _ _ _ _).mono ?_;rintro e wy ⟨rfl,rfl⟩) | (go_at_call 38;refine (q6 _ _ _).mono ?_;rintro e wy ⟨rfl,rfl⟩))
      go_ret;exact ⟨by rw [HE.out];rfl,hb⟩
  ·have b1:(til != 0)=true:=Ln.2 a1;have HE:Hid (qan ⟨W,Hh,rows,vr,vc,vis⟩ ⟨4,row,col,count,til,[]⟩=1):=Lh (qkt (show (1:Int)<=4 by decide) (show (4:Int)<=4 by decide) (by simp [zS, *]));clear a1
   go_enter func65,ntmps65
   go_upto_region 1 with fail
   refine qa (VcBox w ⟨W,Hh,rows,vr,vc,vis⟩ A n c ⟨4,row,col,count,til,[]⟩ Ag cap) (VcBox.new w ⟨W,Hh,rows,vr,vc,vis⟩ A n c ⟨4,row,col,count,til,[]⟩ Ag cap) ?_;intro X hX;obtain ⟨e0,e1,e2,e3,e4,e5⟩:=qw hX.v;obtain ⟨d0,d1,d2,d3,d4,d5,-⟩:=qV hX.c;have hb:=hX.bel;dsimp only at e0 e1 e2 e3 e4 e5 d0 d1 d2 d3 d4 d5
   go_wp2_with (first | (go_at_call 88;refine (qks _ _ _ _).mono ?_;rintro e wy ⟨rfl,rfl⟩) | (go_at_call 38;refine (q6 _ _ _).mono ?_;rintro e wy ⟨rfl,rfl⟩))
   go_ret;exact ⟨by rw [HE.out];rfl,hb⟩
 ·have HE:Hid (qan ⟨W,Hh,rows,vr,vc,vis⟩ ⟨4,row,col,count,til,g⟩=1):=Lh (qkt (show (1:Int)<=4 by decide) (show (4:Int)<=4 by decide) (by simp [zS, *]));have hg0:0<g.length:=List.length_pos_iff.2 hg;have hg1:(0:Int)<(g.length:Int):=by omega
  clear hg
  go_enter func65,ntmps65
  go_upto_region 1 with fail
  refine qa (VcBox w ⟨W,Hh,rows,vr,vc,vis⟩ A n c ⟨4,row,col,count,til,g⟩ Ag cap) (VcBox.new w ⟨W,Hh,rows,vr,vc,vis⟩ A n c ⟨4,row,col,count,til,g⟩ Ag cap) ?_;intro X hX;obtain ⟨e0,e1,e2,e3,e4,e5⟩:=qw hX.v;obtain ⟨d0,d1,d2,d3,d4,d5,-⟩:=qV hX.c;have hb:=hX.bel;dsimp only at e0 e1 e2 e3 e4 e5 d0 d1 d2 d3 d4 d5
  go_wp2_with (first | (go_at_call 88;refine (qks _ _ _ _).mono ?_;rintro e wy ⟨rfl,rfl⟩) | (go_at_call 38;refine (q6 _ _ _).mono ?_;rintro e wy ⟨rfl,rfl⟩))
  go_ret;exact ⟨by rw [HE.out];rfl,hb⟩
end
theorem rfits19_ (v:Vw) (A:Option Addr) (n c B:Nat) (rs:List RowM) (ch:Chg) (Ag:Option Addr) (cap:Nat) (w:World) (rd:RdV w B v A n c rs) (hB:B<=w.heap.size) (qnQ:(v.rows.length:Int)=v.height) (hs:vR v.width v.height=true) (hrl : ∀ x∈rs,x.l.length<=1000000000) (rg:Rd w B 3 Ag ch.glyphs.length (qi ch.glyphs)) (hgl:ch.glyphs.length<=1000000000) (hgz : ∀ x∈ch.glyphs,x.text.size<=1000000000) :
  Calls prog 65 #[.agg (vwC v A n c),jH ch Ag cap] w (qh (.int .i64 (qan v ch)) w):=by
 obtain ⟨W,Hh,rows,vr,vc,vis⟩:=v;obtain ⟨kind,row,col,count,til,g⟩:=ch;dsimp only at *
 have hz:=jW.1 hs
 by_cases k3:kind=3
 ·subst k3;have HS:Hid (∀ w',Below w.heap.size w w'->Calls prog 87 #[.agg (vwC ⟨W,Hh,rows,vr,vc,vis⟩ A n c),jH ⟨3,row,col,count,til,g⟩ Ag cap] w' (qh (.int .i64 (qan ⟨W,Hh,rows,vr,vc,vis⟩ ⟨3,row,col,count,til,g⟩)) w')):=Lh fun w' hb =>
   qkM ((rd.more hB).below hb) hb.size qnQ ⟨hz.2.2.1,hz.2.2.2⟩ hrl ((rg.more hB).below hb) hgl hgz
  clear rd rg hgz hrl qnQ hs hz
  go_enter func65,ntmps65
  go_upto_region 1 with fail
  refine qa (VcBox w ⟨W,Hh,rows,vr,vc,vis⟩ A n c ⟨3,row,col,count,til,g⟩ Ag cap) (VcBox.new w ⟨W,Hh,rows,vr,vc,vis⟩ A n c ⟨3,row,col,count,til,g⟩ Ag cap) ?_;intro X hX;obtain ⟨e0,e1,e2,e3,e4,e5⟩:=qw hX.v;obtain ⟨d0,d1,d2,d3,d4,d5,-⟩:=qV hX.c;have hb:=hX.bel;dsimp only at e0 e1 e2 e3 e4 e5 d0 d1 d2 d3 d4 d5
  go_wp2_with (go_at_call 87;refine (HS.out _ hb).mono ?_;rintro e w1 ⟨rfl,hb1⟩)
  go_ret;exact ⟨rfl,hb.trans (hb1.mono hb.size)⟩
 ·by_cases k0:kind<1∨4<kind
  ·have hi:inB kind 1 4=false:=by
    unfold inB
    rcases k0 with h | h
    ·rw [Lk L0];rfl
    ·rw [Lk (show ¬ kind<=4 by omega),Bool.and_false]
   have d3:(kind==3)=false:=Lm.2 k3;have HE:Hid (qan ⟨W,Hh,rows,vr,vc,vis⟩ ⟨kind,row,col,count,til,g⟩=9):=Lh (by unfold qan;rw [if_pos k0]);clear rd rg hgz hrl qnQ hs hz k0 k3
   go_enter func65,ntmps65
   go_upto_region 1 with fail
   refine qa (VcBox w ⟨W,Hh,rows,vr,vc,vis⟩ A n c ⟨kind,row,col,count,til,g⟩ Ag cap) (VcBox.new w ⟨W,Hh,rows,vr,vc,vis⟩ A n c ⟨kind,row,col,count,til,g⟩ Ag cap) ?_;intro X hX;obtain ⟨e0,e1,e2,e3,e4,e5⟩:=qw hX.v;obtain ⟨d0,d1,d2,d3,d4,d5,-⟩:=qV hX.c;have hb:=hX.bel;dsimp only at e0 e1 e2 e3 e4 e5 d0 d1 d2 d3 d4 d5
   go_wp2_with (first | (go_at_call 88;refine (qks _ _ _ _).mono ?_;rintro e wy ⟨rfl,rfl⟩) | (go_at_call 38;refine (q6 _ _ _).mono ?_;rintro e wy ⟨rfl,rfl⟩))
   go_ret;exact ⟨by rw [HE.out];rfl,hb⟩
  ·rcases (show kind=1∨kind=2∨kind=4 by omega) with rfl | rfl | rfl
   ·exact qkR
   ·exact qkV hz.2.2.2
   ·exact qkJ ⟨hz.2.2.1,hz.2.2.2⟩ ⟨hz.1,hz.2.1⟩
def NvR (u:Vw) (w:World) (e:Ending) (w':World):Prop:=Below w.heap.size w w'/\∃ A n c rs,e = .returned (.agg (vwC u A n c))/\OwV w.heap.size w' u A n c rs
structure NwS (X0:World) (W H r cl:Int) (vs:Bool) (rs2:List RowM) (A2:Option Addr) (c2:Nat) (X:World):Prop where
 o:OutV X0.heap.size (X0.heap.size+1) W H r cl vs rs2 A2 c2 X
 old:Below X0.heap.size X0 X
section
variable {X0 X X' w1 w4 : World} {v : Vw} {A A2 A4 A6 : Option Addr} {n c c2 c4 c6 : Nat} {W H r cl : Int} {vs : Bool} {rs2 : List RowM} {l : List Gl}
theorem NwS.new (X0:World) (W H r cl:Int) (vs:Bool):NwS X0 W H r cl vs [] none 0 (X0.alloc (.cells #[.int .i64 W,.int .i64 H,.slice none 0 0,.int .i64 r,.int .i64 cl,.bool vs] 24)) :=
 ⟨⟨Blk.new_ rfl,⟨zY _ _ _ _,fun x hx=>(by cases hx),rfl⟩,Nat.lt_succ_self _⟩,L5⟩
theorem NwS.on (h:NwS X0 W H r cl vs rs2 A2 c2 X) (hb:Below X.heap.size X X'):NwS X0 W H r cl vs rs2 A2 c2 X':=⟨h.o.below hb,h.old.trans (hb.mono h.old.size)⟩
theorem NwS.push (h:NwS X0 W H r cl vs rs2 A2 c2 X) (hb1:Below X.heap.size X w1) (ho:w1.ownsRow X.heap.size 61 3 (.slice A6 l.length c6) l.length (qi l))
  (qnB:w4.ownsRow (X0.heap.size+1) 38 1 (.slice A4 (rs2.length+1) c4) (rs2.length+1) (zQ rs2++[.slice A6 l.length c6])) (hgr:w1.grownBy w4 (Value.slice A2 rs2.length c2).ownBlock) (qnw:Below (X0.heap.size+1) w1 w4) :
  NwS X0 W H r cl vs (rs2++[⟨l,A6,c6⟩]) A4 c4 (w4.setCell ⟨X0.heap.size,2,none⟩ (.slice A4 (rs2.length+1) c4)) :=
 ⟨h.o.push h.o.blk.lt hb1 ho qnB hgr,((h.on hb1).old.trans (qnw.mono (Nat.le_succ _))).setCell (p:=⟨X0.heap.size,2,none⟩) (Ld _) _⟩
end
theorem qkK {w:World} {v:Vw} {A:Option Addr} {n c B M:Nat} {rs:List RowM} (rd:RdV w B v A n c rs) (hB:B<=w.heap.size) (hrl : ∀ x∈rs,x.l.length<=M) (k:Nat) :
  ∃ x:RowM,x.l=v.rows.getD k []/\RdG w w.heap.size x/\x.l.length<=M/\(k<n->∃ b o,A=some ⟨b,o,none⟩/\b<w.heap.size/\w.cell? ⟨b,o+k,none⟩=some (.slice x.A x.l.length x.cap))/\(¬ k<n->x=⟨[],none,0⟩):=by
 have hl:=rd.1.len
 by_cases hk:k<n
 ·have hk2:k<rs.length:=by omega
  refine ⟨rs[k],by rw [rd.2.1,qa4 hk2],(rd.1.gl _ (Lt hk2)).more hB,hrl _ (Lt hk2),fun _=>?_,fun h=>absurd hk h⟩;obtain ⟨b,o,h1,h2,h3⟩:=rd.1.at_ hk2;exact ⟨b,o,h1,by omega,h3⟩
 ·refine ⟨⟨[],none,0⟩,?_,⟨Rd.none_,Ld _,Nat.zero_le _⟩,Nat.zero_le _,fun h=>absurd h hk,fun _=>rfl⟩;rw [rd.2.1,List.getD_eq_getElem?_getD,List.getElem?_eq_none (by rw [vJ];omega)]
  rfl
theorem qku {g N:Nat} {W H r cl:Int} {vs:Bool} {rs:List RowM} {A:Option Addr} {c:Nat} {X:World} (h:OutV g N W H r cl vs rs A c X):some g≠(Value.slice A rs.length c).ownBlock:=fun e=>by
 rw [qC] at e;have:=(vB h.own.rows g e.symm).1;have:=h.lt
 omega
theorem qkT (v:Vw) (A:Option Addr) (n c B:Nat) (rs:List RowM) (W H:Int) (w:World) (rd:RdV w B v A n c rs) (hB:B<=w.heap.size) (hW:1<=W/\W<=132) (hH:1<=H/\H<=60) (hrl : ∀ x∈rs,x.l.length<=100000000) :
  Calls prog 89 #[.agg (vwC v A n c),.int .i64 H,.int .i64 W] w (NvR ⟨W,H,(List.range H.toNat).map fun i=>kr W (v.rows.getD i []),min v.row (H-1),min v.col (W-1),v.vis⟩ w):=by
 obtain ⟨H,rfl⟩ : ∃ k:Nat,H=k:=⟨H.toNat,by omega⟩
 have hw1:IntKind.i64.wrap ((H:Int)-1)=H-1:=by rw [Lx];omega
 have hw2:IntKind.i64.wrap (W-1)=W-1:=by rw [Lx];omega
 have hnc:(n:Int)<=9223372036854775807:=by have h1:=rd.2.2.1;have h2:=rd.2.2.2;unfold maxLen at h2;omega
 have qnF:=Lh (qkK rd hB hrl);obtain ⟨vW,vH,rows,vr,vc,vis⟩:=v;dsimp only at *
 rw [Int.toNat_natCast];obtain ⟨M1,hM1⟩ : ∃ M1:Int,Hid (min vr ((H:Int)-1)=M1):=⟨_,Lh rfl⟩
 obtain ⟨M2,hM2⟩ : ∃ M2:Int,Hid (min vc (W-1)=M2):=⟨_,Lh rfl⟩
 rw [hM1.out,hM2.out];clear rd hrl
 go_enter func89,ntmps89
 go_upto_region 1 with fail
 refine qa (fun X=>Blk X w.heap.size 24 (vwC ⟨vW,vH,rows,vr,vc,vis⟩ A n c)/\ZB X (w.heap.size+1)/\Below w.heap.size w X) ⟨(Blk.new_ rfl).alloc _,Blk.new_ L1,(L5).alloc L1 _⟩ ?_;rintro X ⟨hv,hz,hb⟩;obtain ⟨e0,e1,e2,e3,e4,e5⟩:=qw hv;dsimp only at e0 e1 e2 e3 e4 e5
 go_upto_region 5 with fail
 refine qa (NwS X W H vr vc vis [] none 0) (NwS.new X W H vr vc vis) ?_;clear e0 e1 e2 e3 e4 e5;intro Y hS;go_wp2
 go_loopw [8] (fun x wr=>∃ k:Nat,k<=H/\x = .int .i64 k/\∃ rs2 A2 c2,Hid (rls rs2=(List.range k).map fun i=>kr W (rows.getD i []))/\NwS X W H vr vc vis rs2 A2 c2 wr) (fun x _=>H-(intOf x).toNat)
 case atStart=>exact ⟨0,Nat.zero_le _,rfl,[],none,0,Lh rfl,hS⟩
 case round =>
  clear hS;obtain ⟨k,hk,rfl,rs2,A2,c2,hr2,hS⟩:=hrel;obtain ⟨e0,e1,e2,e3,e4,e5⟩:=qw (hv.below hS.old hv.lt);dsimp only at e0 e1 e2 e3 e4 e5;obtain ⟨o0,o1,o2,o3,o4,o5⟩:=qw hS.o.blk;dsimp only at o0 o1 o2 o3 o4 o5;have hgl:=hS.o.blk.lt;have hbw:=hb.trans (hS.old.mono hb.size)
  by_cases hlt:k<H
  ·obtain ⟨x,hxl,hxg,hxn,hx1,hx2⟩:=qnF.out k;obtain ⟨CR,hCR⟩ : ∃ y,y=kr W x.l:=⟨_,rfl⟩
   have HN:Hid (∀ A4 A6 c4 c6 w1 w4,Below wr.heap.size wr w1->w1.ownsRow wr.heap.size 61 3 (.slice A6 CR.length c6) CR.length (qi CR)->w4.ownsRow (X.heap.size+1) 38 1 (.slice A4 (rs2.length+1) c4) (rs2.length+1) (zQ rs2++[.slice A6 CR.length c6])->w1.grownBy w4 (Value.slice A2 rs2.length c2).ownBlock->Below (X.heap.size+1) w1 w4 ->
     ∃ rs3 A3 c3,Hid (rls rs3=(List.range (k+1)).map fun i=>kr W (rows.getD i []))/\NwS X W H vr vc vis rs3 A3 c3 (w4.setCell ⟨X.heap.size,2,none⟩ (.slice A4 (rs2.length+1) c4))):=Lh fun A4 A6 c4 c6 w1 w4 h1 h2 h3 h4 h5=>by
    refine ⟨rs2++[⟨CR,A6,c6⟩],A4,c4,Lh ?_,hS.push h1 h2 h3 h4 h5⟩;rw [List.range_succ,List.map_append,<- hr2.out,List.map_singleton,<- hxl,<- hCR]
    simp [rls]
   have hl2:rs2.length<=60:=by
    have:=congrArg List.length hr2.out;rw [vJ,Lq,List.length_range] at this
    omega
   obtain ⟨F,hF⟩ : ∃ F,F=qaT W x.l:=⟨_,rfl⟩
   have hFl:F<=x.l.length:=hF ▸ qhy W x.l;have hTr:Hid (∀ Y,Below wr.heap.size wr Y->Calls prog 90 #[.slice x.A F x.cap] Y fun e w'=>∃ A6 c6,e = .returned (.slice A6 CR.length c6)/\w'.ownsRow wr.heap.size 61 3 (.slice A6 CR.length c6) CR.length (qi CR)/\Below wr.heap.size wr w'):=Lh fun Y hY=>by
    have hR1:=(((hxg.1.below hbw).more hbw.size).below hY).take hFl;rw [<- kM] at hR1;subst hF hCR;exact (qkD (x.l.take (qaT W x.l)) x.A (qaT W x.l) x.cap wr.heap.size Y L0 (Lj hFl hxg.2.1) hxg.2.2 hR1 hY.size).mono fun e w' ⟨A6,c6,h1,h2,h3⟩=>⟨A6,c6,h1,qt h2 hY.size,hY.trans (h3.mono hY.size)⟩
   have HWd:Hid (∀ q,q<x.l.length->Calls prog 58 #[.slice x.A (q+1) x.cap] wr fun e w'=>e = .returned (.int .i64 (vM (x.l.take (q+1)):Nat))/\w'=wr):=Lh fun q h=>by
    have hR1:=(hxg.1.below hbw).take (k:=q+1) L0;rw [<- kM] at hR1;exact qjp (x.l.take (q+1)) x.A (q+1) x.cap _ wr L0 hR1
   have HF0:Hid (F=0+qaT (W-(vM (x.l.take 0):Nat)) (x.l.drop 0)):=Lh (by rw [List.take_zero,List.drop_zero,Lo,hF];simp [vM,kw]);have hcl0:=hxg.2.1;have hFc:F<=x.cap:=Lj hFl hxg.2.1;have hcl63:(x.cap:Int)<=9223372036854775807:=by have:=hxg.2.2;unfold maxLen at this;omega
   have hWr:=Lh hbw;clear hr2 hxl hxg hCR hF hbw o0 o1 o3 o4 o5
   go_upto_if 26 with fail
   go_cut [9] (fun v9 wx=>v9 = .slice x.A x.l.length x.cap/\wx=wr)
   case first =>
    by_cases hkn:k<n
    ·obtain ⟨b,o,rfl,hbl,qnM⟩:=hx1 hkn;have hcx:=(hWr.out.cell (p:=⟨b,o+k,none⟩) hbl).trans qnM;go_wp2;go_meet;exact ⟨rfl,rfl⟩
    ·obtain rfl:=hx2 hkn;go_wp2;go_meet;exact ⟨rfl,rfl⟩
   case rest =>
    obtain ⟨rfl,rfl⟩:=hcut;clear hx1 hx2 e0 e1 e2 e3 e4 e5 hWr;obtain ⟨l,Al,cl⟩:=x;dsimp only at *
    obtain ⟨wo,rfl⟩ : ∃ y:World,y=wc:=⟨_,rfl⟩
    go_wp2
    go_loopw [10] (fun vn wz=>∃ q:Nat,q<=l.length/\vn = .int .i64 q/\wz=wo/\Hid (F=q+qaT (W-(vM (l.take q):Nat)) (l.drop q))) (fun vn _=>l.length-(intOf vn).toNat)
    case atStart=>exact ⟨0,Nat.zero_le _,rfl,rfl,HF0⟩
    case round =>
     clear HF0;obtain ⟨q,hq,rfl,rfl,HF⟩:=hrel
     by_cases hlq:q<l.length
     ·have hW1:=Lh (HWd.out q hlq);have hrt:=qkm hlq;have HF2:=HF.out;rw [qkF hlq] at HF2;have hqc:(q:Int)+1<=cl:=by omega
      generalize hr1:vM (l.take (q+1))=r1 at *
      replace hr1:=Lh hr1
      by_cases hfit:(r1:Int)<=W
      ·rw [if_neg L0,show W-((vM (l.take q):Nat):Int)-(glW l[q]:Nat)=W-(r1:Nat) by omega] at HF2;have HF3:Hid (F=(q+1)+qaT (W-(r1:Nat)) (l.drop (q+1))):=Lh L0;have hd:decide ((r1:Int)<=W)=true:=Ll hfit;clear HF HF2 hrt
       go_wp2_with (go_at_call 58;refine hW1.out.mono ?_;rintro e w1 ⟨rfl,rfl⟩)
       exact ⟨⟨q+1,by omega,by go_num,by trivial,by rw [hr1.out];exact HF3⟩,by simp [intOf];omega⟩
      ·rw [if_pos L0] at HF2;have hd:decide ((r1:Int)<=W)=false:=Lk hfit;obtain rfl:F=q:=by omega
       clear HF HF2 hrt
       go_upto_region 14 with (go_at_call 58;refine hW1.out.mono ?_;rintro e w1 ⟨rfl,rfl⟩)
       go_region_law (first
        | (go_simp;go_at_call 90;refine (hTr.out _ ql8).mono ?_;rintro e w2 ⟨A6,c6,rfl,o6,b6⟩;have zb:=b6.size;have z2:=(b6.cell (p:=⟨X.heap.size,2,none⟩) hgl).trans o2;have hR6:=qb hS.o.own.rows b6;have hB6:=hS.o.blk.below b6 hgl;have z3 : ∀ o,(w2.alloc o).cell? ⟨X.heap.size,2,none⟩=some (.slice A2 rs2.length c2):=fun o=>(hB6.alloc o).cell 2)
        | (refine jZ rfl _ _ _ rfl elt_row (X.heap.size+1) _ rfl (by first | exact hR6.alloc _ | exact (hR6.alloc _).drew) _ _ rfl (qe (xs:=[.slice A6 _ c6]) (by rfl) rfl) (by rfl) ?_;intro A4 c4 w4 qmC qmy qmG qmI;have hB4:=(hB6.alloc _).grown qmG (qku hS.o);have q4:w4.cell? ⟨X.heap.size,2,none⟩=some (.slice A2 rs2.length c2):=hB4.cell 2;have y4:=hB4.frozen 2))
       all_goals go_wp2
       all_goals exact ⟨⟨k+1,by omega,by go_num,HN.out _ _ _ _ _ _ (b6.alloc b6.size _) (o6.alloc _) qmC qmG qmy⟩,by simp [intOf];omega⟩
     ·obtain rfl:q=l.length:=by omega
      have HF2:=HF.out;rw [Lv (Ld _),qaT] at HF2;obtain rfl:F=l.length:=by omega
      clear HF HF2 HWd
      go_upto_region 14 with fail
      go_region_law (first
       | (go_simp;go_at_call 90;refine (hTr.out _ ql8).mono ?_;rintro e w2 ⟨A6,c6,rfl,o6,b6⟩;have zb:=b6.size;have z2:=(b6.cell (p:=⟨X.heap.size,2,none⟩) hgl).trans o2;have hR6:=qb hS.o.own.rows b6;have hB6:=hS.o.blk.below b6 hgl;have z3 : ∀ o,(w2.alloc o).cell? ⟨X.heap.size,2,none⟩=some (.slice A2 rs2.length c2):=fun o=>(hB6.alloc o).cell 2)
       | (refine jZ rfl _ _ _ rfl elt_row (X.heap.size+1) _ rfl (by first | exact hR6.alloc _ | exact (hR6.alloc _).drew) _ _ rfl (qe (xs:=[.slice A6 _ c6]) (by rfl) rfl) (by rfl) ?_;intro A4 c4 w4 qmC qmy qmG qmI;have hB4:=(hB6.alloc _).grown qmG (qku hS.o);have q4:w4.cell? ⟨X.heap.size,2,none⟩=some (.slice A2 rs2.length c2):=hB4.cell 2;have y4:=hB4.frozen 2))
      all_goals go_wp2
      all_goals exact ⟨⟨k+1,by omega,by go_num,HN.out _ _ _ _ _ _ (b6.alloc b6.size _) (o6.alloc _) qmC qmG qmy⟩,by simp [intOf];omega⟩
  ·obtain rfl:H=k:=by omega
   have f3:=hS.o.blk.frozen 3;have f4:=hS.o.blk.frozen 4;have hM1':=hM1.out;have hM2':=hM2.out;have hg0:X.heap.size<X.heap.size+1:=Nat.lt_succ_self _
   go_upto_region 17 with fail
   refine qa (fun Y=>Blk Y X.heap.size 24 (vwC ⟨W,H,rls rs2,M1,M2,vis⟩ A2 rs2.length c2)/\OwV (X.heap.size+1) Y ⟨W,H,rls rs2,vr,vc,vis⟩ A2 rs2.length c2 rs2/\Below X.heap.size X Y) ⟨(hS.o.blk.set_ 3 _).set_ 4 _,(hS.o.own.far (p:=⟨X.heap.size,3,none⟩) hg0 _).far (p:=⟨X.heap.size,4,none⟩) hg0 _,(hS.old.setCell (p:=⟨X.heap.size,3,none⟩) (Ld _) _).setCell (p:=⟨X.heap.size,4,none⟩) (Ld _) _⟩ ?_;clear hM1' hM2' hM1 hM2 e0 e1 e2 e3 e4 e5 o0 o1 o2 o3 o4 o5 f3 f4 hS hbw;rintro Y ⟨hBY,hO,hY⟩;obtain ⟨o0,o1,o2,o3,o4,o5⟩:=qw hBY;dsimp only at o0 o1 o2 o3 o4 o5;have hlz:=hz.lt;have hz1:=hz.below hY hlz;obtain ⟨z0,z1,z2,z3,z4,z5,y0,y1,y2,y3,y4,y5⟩:=ZB.facts hz1;go_wp2;have hx:=(hO.set6 (g:=w.heap.size+1) L0 (.int .i64 W) (.int .i64 H) (.slice A2 rs2.length c2) (.int .i64 M1) (.int .i64 M2) (.bool vis)).less (N':=w.heap.size) L0;exact bodyPost_ret (results_cell_row rfl _ _ (w.heap.size+1) 24 _ (0,0) _ rfl (ZB.set6 hz1 ⟨W,H,rls rs2,M1,M2,vis⟩ A2 rs2.length c2) underlying24 rfl (by kernel_rfl)) rfl ⟨qap (hb.trans (hY.mono hb.size)) L0 _ _ _ _ _ _,A2,rs2.length,c2,rs2,rfl,hx.rows2 hr2.out.symm⟩
def StR (v:Vw) (A:Option Addr) (n c:Nat) (u:Vw) (w:World) (e:Ending) (w':World):Prop:=Below w.heap.size w w'/\((∃ A' n' c' rs',e = .returned (.agg (vwC u A' n' c'))/\OwV w.heap.size w' u A' n' c' rs')∨(u.rows=v.rows/\e = .returned (.agg (vwC u A n c))))
structure StB (w:World) (v:Vw) (A:Option Addr) (n c:Nat) (ch:Chg) (Ag:Option Addr) (cap:Nat) (X:World):Prop where
 v:Blk X w.heap.size 24 (vwC v A n c)
 c:Blk X (w.heap.size+1) 71 (yG ch Ag cap)
 z:ZB X (w.heap.size+2)
 bel:Below w.heap.size w X
section
variable {w X X' : World} {v : Vw} {A : Option Addr} {n c B : Nat} {ch : Chg} {Ag : Option Addr} {cap : Nat}
theorem StB.new (w:World) (v:Vw) (A:Option Addr) (n c:Nat) (ch:Chg) (Ag:Option Addr) (cap:Nat):StB w v A n c ch Ag cap (((w.alloc (.cells (vwC v A n c) 24)).alloc (.cells (yG ch Ag cap) 71)).alloc (.cells (vwC vw0 none 0 0) 24)) :=
 ⟨((Blk.new_ rfl).alloc _).alloc _,(Blk.new_ L1).alloc _,Blk.new_ L1,((L5).alloc L1 _).alloc (by simp;omega) _⟩
theorem StB.on (h:StB w v A n c ch Ag cap X) (hb:Below B X X') (hB:w.heap.size+2<B):StB w v A n c ch Ag cap X' :=
 ⟨h.v.below hb L0,h.c.below hb L0,h.z.below hb hB,h.bel.trans (hb.mono L0)⟩
end
section
variable {W Hh : Int} {rows : List (List Gl)} {vr vc : Int} {vis : Bool} {A : Option Addr} {n c B : Nat} {rs : List RowM} {w : World} {row col count til : Int} {g : List Gl} {Ag : Option Addr} {cap : Nat}
theorem qkS (rd:RdV w B ⟨W,Hh,rows,vr,vc,vis⟩ A n c rs) (hB:B<=w.heap.size) (hr:zh ⟨W,Hh,rows,vr,vc,vis⟩ ⟨1,row,col,count,til,g⟩=true) (hrl : ∀ x∈rs,x.l.length<=100000000) :
  Calls prog 66 #[.agg (vwC ⟨W,Hh,rows,vr,vc,vis⟩ A n c),jH ⟨1,row,col,count,til,g⟩ Ag cap] w (StR ⟨W,Hh,rows,vr,vc,vis⟩ A n c (jY ⟨W,Hh,rows,vr,vc,vis⟩ ⟨1,row,col,count,til,g⟩) w):=by
 obtain ⟨r1,r2,r3,r4⟩:1<=row/\row<=60/\1<=col/\col<=132:=of_decide_eq_true hr;have HSz:Hid (∀ w',Below w.heap.size w w'->Calls prog 89 #[.agg (vwC ⟨W,Hh,rows,vr,vc,vis⟩ A n c),.int .i64 row,.int .i64 col] w' (NvR (jY ⟨W,Hh,rows,vr,vc,vis⟩ ⟨1,row,col,count,til,g⟩) w')):=Lh fun w' hb =>
  qkT _ A n c w.heap.size rs col row w' ((rd.more hB).below hb) hb.size ⟨r3,r4⟩ ⟨r1,r2⟩ hrl
 generalize jY ⟨W,Hh,rows,vr,vc,vis⟩ ⟨1,row,col,count,til,g⟩=u at *
 obtain ⟨uW,uH,urows,ur,uc,uv⟩:=u;have HS2:Hid (∀ w',Below w.heap.size w w'->Calls prog 89 #[.agg (vwC ⟨W,Hh,rows,vr,vc,vis⟩ A n c),.int .i64 row,.int .i64 col] w' fun e w1=>Below w'.heap.size w' w1/\∃ A1 n1 c1 rs1,e = .returned (.agg #[.int .i64 uW,.int .i64 uH,.slice A1 n1 c1,.int .i64 ur,.int .i64 uc,.bool uv])/\OwV w'.heap.size w1 ⟨uW,uH,urows,ur,uc,uv⟩ A1 n1 c1 rs1):=HSz;clear rd hr hrl r1 r2 r3 r4 HSz
 go_enter func66,ntmps66
 go_upto_region 1 with fail
 refine qa (StB w ⟨W,Hh,rows,vr,vc,vis⟩ A n c ⟨1,row,col,count,til,g⟩ Ag cap) (StB.new w ⟨W,Hh,rows,vr,vc,vis⟩ A n c ⟨1,row,col,count,til,g⟩ Ag cap) ?_;intro X hX;obtain ⟨e0,e1,e2,e3,e4,e5⟩:=qw (StB.v hX);obtain ⟨d0,d1,d2,d3,d4,d5,-⟩:=qV (StB.c hX);dsimp only at e0 e1 e2 e3 e4 e5 d0 d1 d2 d3 d4 d5
 go_wp2_with (go_at_call 89;refine (HS2.out _ hX.bel).mono ?_;rintro e w1 ⟨hb1,A1,n1,c1,rs1,rfl,ho1⟩;have hz1:=hX.z.below hb1 hX.z.lt;obtain ⟨z0,z1,z2,z3,z4,z5,y0,y1,y2,y3,y4,y5⟩:=ZB.facts hz1)
 have hX1:=hX.on hb1 hX.z.lt;exact bodyPost_ret (results_cell_row rfl _ _ (w.heap.size+2) 24 _ (0,0) _ rfl (ZB.set6 hz1 ⟨uW,uH,urows,ur,uc,uv⟩ A1 n1 c1) underlying24 rfl (by kernel_rfl)) rfl ⟨qap hX1.bel L0 _ _ _ _ _ _,.inl ⟨A1,n1,c1,rs1,rfl,(ho1.set6 hX.z.lt _ _ _ _ _ _).less hX.bel.size⟩⟩
theorem qkL :
  Calls prog 66 #[.agg (vwC ⟨W,Hh,rows,vr,vc,vis⟩ A n c),jH ⟨4,row,col,count,til,g⟩ Ag cap] w (StR ⟨W,Hh,rows,vr,vc,vis⟩ A n c ⟨W,Hh,rows,row,col,decide (count=1)⟩ w):=by
 have hbe:(count==1)=decide (count=1):=by rw [Bool.eq_iff_iff];simp
 generalize decide (count=1)=vb at *
 go_enter func66,ntmps66
 go_upto_region 1 with fail
 refine qa (StB w ⟨W,Hh,rows,vr,vc,vis⟩ A n c ⟨4,row,col,count,til,g⟩ Ag cap) (StB.new w ⟨W,Hh,rows,vr,vc,vis⟩ A n c ⟨4,row,col,count,til,g⟩ Ag cap) ?_;intro X hX;obtain ⟨e0,e1,e2,e3,e4,e5⟩:=qw (StB.v hX);obtain ⟨d0,d1,d2,d3,d4,d5,-⟩:=qV (StB.c hX);dsimp only at e0 e1 e2 e3 e4 e5 d0 d1 d2 d3 d4 d5
 go_upto_region 4 with fail
 refine qa (fun Y=>Blk Y X.heap.size 24 (vwC ⟨W,Hh,rows,vr,vc,vis⟩ A n c)/\Below X.heap.size X Y) ⟨Blk.new_ rfl,L5⟩ ?_;rintro Y ⟨hY,hbY⟩;have hlX:=hX.z.lt;have hX1:=hX.on hbY hlX;clear e0 e1 e2 e3 e4 e5 d0 d1 d2 d3 d4 d5;obtain ⟨d0,d1,d2,d3,d4,d5,-⟩:=qV hX1.c;dsimp only at d0 d1 d2 d3 d4 d5;have f3:=hY.frozen 3;have f4:=hY.frozen 4;have f5:=hY.frozen 5;obtain ⟨o0,o1,o2,o3,o4,o5⟩:=qw hY;dsimp only at o0 o1 o2 o3 o4 o5
 go_upto_region 8 with fail
 refine qa (fun Z=>Blk Z X.heap.size 24 (vwC ⟨W,Hh,rows,row,col,vb⟩ A n c)/\Below X.heap.size X Z) ⟨(((hY.set_ 3 _).set_ 4 _).set_ 5 _),((hbY.setCell (p:=⟨X.heap.size,3,none⟩) (Ld _) _).setCell (p:=⟨X.heap.size,4,none⟩) (Ld _) _).setCell (p:=⟨X.heap.size,5,none⟩) (Ld _) _⟩ ?_;clear d0 d1 d2 d3 d4 d5 o0 o1 o2 o3 o4 o5 f3 f4 f5 hX1 hbY hY;clear Y;rintro Z ⟨hZ,hbZ⟩;have hX1:=hX.on hbZ hlX;obtain ⟨o0,o1,o2,o3,o4,o5⟩:=qw hZ;dsimp only at o0 o1 o2 o3 o4 o5;have hz1:=hX1.z;obtain ⟨z0,z1,z2,z3,z4,z5,y0,y1,y2,y3,y4,y5⟩:=ZB.facts hz1;go_wp2;exact bodyPost_ret (results_cell_row rfl _ _ (w.heap.size+2) 24 _ (0,0) _ rfl (ZB.set6 hz1 ⟨W,Hh,rows,row,col,vb⟩ A n c) underlying24 rfl (by kernel_rfl)) rfl ⟨qap hX1.bel L0 _ _ _ _ _ _,.inr ⟨rfl,rfl⟩⟩
end
def TrH (X:World) (W H r cl:Int) (vs:Bool) (rs2:List RowM) (A2:Option Addr) (c2 k:Nat) (f:Nat->List Gl) (wz:World) (l:List Gl) (Ay:Option Addr) (m cy:Nat):Prop :=
 NwS X W H r cl vs rs2 A2 c2 wz/\(∀ Y,Below wz.heap.size wz Y->Calls prog 90 #[.slice Ay m cy] Y fun e w'=>∃ A6 c6,e = .returned (.slice A6 (zI l).length c6)/\w'.ownsRow wz.heap.size 61 3 (.slice A6 (zI l).length c6) (zI l).length (qi (zI l))/\Below wz.heap.size wz w') /\
 ∀ A4 A6 c4 c6 w1 w4,Below wz.heap.size wz w1->w1.ownsRow wz.heap.size 61 3 (.slice A6 (zI l).length c6) (zI l).length (qi (zI l))->w4.ownsRow (X.heap.size+1) 38 1 (.slice A4 (rs2.length+1) c4) (rs2.length+1) (zQ rs2++[.slice A6 (zI l).length c6])->w1.grownBy w4 (Value.slice A2 rs2.length c2).ownBlock->Below (X.heap.size+1) w1 w4 ->
  ∃ rs3 A3 c3,Hid (rls rs3=(List.range (k+1)).map f)/\NwS X W H r cl vs rs3 A3 c3 (w4.setCell ⟨X.heap.size,2,none⟩ (.slice A4 (rs2.length+1) c4))
theorem TrH.mk {X:World} {W H r cl:Int} {vs:Bool} {rs2:List RowM} {A2:Option Addr} {c2 k:Nat} {f:Nat->List Gl} {wz:World} {l:List Gl} {Ay:Option Addr} {m cy:Nat} (hS:NwS X W H r cl vs rs2 A2 c2 wz) (hy:RdG wz wz.heap.size ⟨l,Ay,cy⟩) (hm:m=l.length) (hl:l.length<=1000000000) (hf:f k=zI l) (hr:rls rs2=(List.range k).map f):TrH X W H r cl vs rs2 A2 c2 k f wz l Ay m cy:=by
 subst hm;refine ⟨hS,fun Y hY=>?_,fun A4 A6 c4 c6 w1 w4 h1 h2 h3 h4 h5=>⟨rs2++[⟨zI l,A6,c6⟩],A4,c4,Lh ?_,hS.push h1 h2 h3 h4 h5⟩⟩
 ·exact (qkD l Ay l.length cy wz.heap.size Y hl hy.2.1 hy.2.2 (hy.1.below hY) hY.size).mono fun e w' ⟨A6,c6,h1,h2,h3⟩=>⟨A6,c6,h1,qt h2 hY.size,hY.trans (h3.mono hY.size)⟩
 ·rw [List.range_succ,List.map_append,<- hr,List.map_singleton,hf]
  simp [rls]
section
variable {W Hh : Int} {rows : List (List Gl)} {vr vc : Int} {vis : Bool} {A : Option Addr} {n c B : Nat} {rs : List RowM} {w : World} {row col count til : Int} {g : List Gl} {Ag : Option Addr} {cap : Nat}
theorem qkP (rd:RdV w B ⟨W,Hh,rows,vr,vc,vis⟩ A n c rs) (hB:B<=w.heap.size) (hn:n<=1000) (hr:0<=row/\row<til/\til<=n/\count<til-row/\row-til<count) (hrl : ∀ x∈rs,x.l.length<=100000000) :
  Calls prog 66 #[.agg (vwC ⟨W,Hh,rows,vr,vc,vis⟩ A n c),jH ⟨2,row,col,count,til,g⟩ Ag cap] w (StR ⟨W,Hh,rows,vr,vc,vis⟩ A n c ⟨W,Hh,(List.range n).map fun i=>zI (qkw ⟨W,Hh,rows,vr,vc,vis⟩ ⟨2,row,col,count,til,g⟩ i),vr,vc,vis⟩ w):=by
 have qnF:=Lh (qkK rd hB hrl);have HRS:Hid (∀ k:Nat,qkw ⟨W,Hh,rows,vr,vc,vis⟩ ⟨2,row,col,count,til,g⟩ k=if row<=(k:Int)/\(k:Int)<til then (if row<=(k:Int)+count/\(k:Int)+count<til then rows.getD ((k:Int)+count).toNat [] else []) else rows.getD k []):=Lh fun k=>rfl
 obtain ⟨f,hf⟩ : ∃ f:Nat->List Gl,f=fun i=>zI (qkw ⟨W,Hh,rows,vr,vc,vis⟩ ⟨2,row,col,count,til,g⟩ i):=⟨_,rfl⟩
 have hfk:Hid (∀ k,f k=zI (qkw ⟨W,Hh,rows,vr,vc,vis⟩ ⟨2,row,col,count,til,g⟩ k)):=Lh fun k=>by rw [hf]
 rw [<- hf];clear hf rd hrl;dsimp only at qnF;have hn9:(n:Int)<=9223372036854775807:=by omega
 go_enter func66,ntmps66
 go_upto_region 1 with fail
 refine qa (StB w ⟨W,Hh,rows,vr,vc,vis⟩ A n c ⟨2,row,col,count,til,g⟩ Ag cap) (StB.new w ⟨W,Hh,rows,vr,vc,vis⟩ A n c ⟨2,row,col,count,til,g⟩ Ag cap) ?_;intro X hX;obtain ⟨e0,e1,e2,e3,e4,e5⟩:=qw (StB.v hX);obtain ⟨d0,d1,d2,d3,d4,d5,-⟩:=qV (StB.c hX);dsimp only at e0 e1 e2 e3 e4 e5 d0 d1 d2 d3 d4 d5;have hlX:=hX.z.lt
 go_upto_region 4 with fail
 refine qa (fun Y=>Blk Y X.heap.size 24 (vwC ⟨W,Hh,rows,vr,vc,vis⟩ A n c)/\Below X.heap.size X Y) ⟨Blk.new_ rfl,L5⟩ ?_;rintro Y ⟨hY,hbY⟩;have hX1:=hX.on hbY hlX;clear e0 e1 e2 e3 e4 e5 d0 d1 d2 d3 d4 d5;obtain ⟨e0,e1,e2,e3,e4,e5⟩:=qw (StB.v hX1);obtain ⟨d0,d1,d2,d3,d4,d5,-⟩:=qV (StB.c hX1);dsimp only at e0 e1 e2 e3 e4 e5 d0 d1 d2 d3 d4 d5;have f2:=hY.frozen 2;obtain ⟨o0,o1,o2,o3,o4,o5⟩:=qw hY
 go_upto_region 10 with fail
 refine qa (NwS X W Hh vr vc vis [] none 0) ⟨⟨hY.set_ 2 _,⟨zY _ _ _ _,fun x hx=>(by cases hx),rfl⟩,Nat.lt_succ_self _⟩,hbY.setCell (p:=⟨X.heap.size,2,none⟩) (Ld _) _⟩ ?_;clear e0 e1 e2 e3 e4 e5 d0 d1 d2 d3 d4 d5 o0 o1 o2 o3 o4 o5 f2 hX1 hY hbY;clear Y;intro Y hS;go_wp2
 go_loopw [6] (fun x wr=>∃ k:Nat,k<=n/\x = .int .i64 k/\∃ rs2 A2 c2,Hid (rls rs2=(List.range k).map f)/\NwS X W Hh vr vc vis rs2 A2 c2 wr) (fun x _=>n-(intOf x).toNat)
 case atStart=>exact ⟨0,Nat.zero_le _,rfl,[],none,0,Lh rfl,hS⟩
 case round =>
  clear hS;obtain ⟨k,hk,rfl,rs2,A2,c2,hr2,hS⟩:=hrel;have hX1:=hX.on hS.old hlX;obtain ⟨e0,e1,e2,e3,e4,e5⟩:=qw (StB.v hX1);obtain ⟨d0,d1,d2,d3,d4,d5,-⟩:=qV (StB.c hX1);dsimp only at e0 e1 e2 e3 e4 e5 d0 d1 d2 d3 d4 d5
  by_cases hlt:k<n
  ·obtain ⟨x,hxl,hxg,hxn,hx1,-⟩:=qnF.out k;replace hxl:=Lh hxl;obtain ⟨b,o,rfl,hbl,qnM⟩:=hx1 hlt;have hcx:=(hX1.bel.cell (p:=⟨b,o+k,none⟩) hbl).trans qnM;have hki:(k:Int)<n:=by omega
   have hl2:rs2.length<=1000:=by
    have:=congrArg List.length hr2.out;rw [vJ,Lq,List.length_range] at this
    omega
   have hbw:=hX1.bel;have hRG : ∀ y:RowM,RdG w w.heap.size y->RdG wr wr.heap.size y:=fun y h=>(h.below hbw).more hbw.size
   clear hx1;obtain ⟨bn,hbn⟩ : ∃ b:Bool,Hid (b=decide (row<=(k:Int)/\(k:Int)<til)):=⟨_,Lh rfl⟩
   go_upto_region 14 with fail
   go_cut [61] (fun v wx=>v = .bool bn/\wx=wr)
   case first =>
    by_cases h1:row<=(k:Int)
    ·by_cases h2:(k:Int)<til
     ·have g1:decide (row<=(k:Int))=true:=Ll h1;have g2:decide ((k:Int)<til)=true:=Ll h2;have gd:=Lh (Ll (show row<=(k:Int)/\(k:Int)<til from ⟨h1,h2⟩));clear h1 h2;go_wp2;go_meet;exact ⟨congrArg Value.bool (hbn.out.trans gd.out).symm,rfl⟩
     ·have g1:decide (row<=(k:Int))=true:=Ll h1;have g2:decide ((k:Int)<til)=false:=Lk h2;have gd:=Lh (Lk (show ¬ (row<=(k:Int)/\(k:Int)<til) from fun h=>h2 h.2));clear h1 h2;go_wp2;go_meet;exact ⟨congrArg Value.bool (hbn.out.trans gd.out).symm,rfl⟩
    ·have g1:decide (row<=(k:Int))=false:=Lk h1;have gd:=Lh (Lk (show ¬ (row<=(k:Int)/\(k:Int)<til) from fun h=>h1 h.1));clear h1;go_wp2;go_meet;exact ⟨congrArg Value.bool (hbn.out.trans gd.out).symm,rfl⟩
   case rest =>
    obtain ⟨rfl,rfl⟩:=hcut
    by_cases hin:row<=(k:Int)/\(k:Int)<til
    ·have hw:IntKind.i64.wrap ((k:Int)+count)=(k:Int)+count:=by rw [Lx];omega
     obtain rfl:bn=true:=hbn.out.trans (Ll hin);clear hbn
     by_cases h1:row<=(k:Int)+count
     ·have g1:decide (row<=(k:Int)+count)=true:=Ll h1
      by_cases h2:(k:Int)+count<til
      ·have g2:decide ((k:Int)+count<til)=true:=Ll h2;obtain ⟨m,hm⟩ : ∃ m:Nat,(k:Int)+count=m:=⟨((k:Int)+count).toNat,by omega⟩
       obtain ⟨y,hyl,hyg,hyn,hy1,-⟩:=qnF.out m;replace hyl:=Lh hyl;obtain ⟨b',o',hA,hbl',hcell'⟩:=hy1 L0;obtain ⟨rfl,rfl⟩:b=b'/\o=o':=by injection hA with hA;injection hA with h1 h2;exact ⟨h1,h2⟩
       have hcy:=(hbw.cell (p:=⟨b,o+m,none⟩) hbl').trans hcell';have hT:TrH X W Hh vr vc vis rs2 A2 c2 k f wc y.l y.A y.l.length y.cap:=.mk hS (hRG y hyg) rfl L0 (by rw [hfk.out,HRS.out,if_pos hin,if_pos ⟨h1,h2⟩,hm,Int.toNat_natCast,hyl.out]) hr2.out;have hmi:(m:Int)<n:=by omega
       rw [hm] at hw g1 g2;clear hin h1 h2 hy1 qnM hxl hyl hRG hA;obtain ⟨hS,hTr,hNx⟩:=hT;replace hTr:=Lh hTr;replace hNx:=Lh hNx;obtain ⟨o0,o1,o2,o3,o4,o5⟩:=qw hS.o.blk;dsimp only at o0 o1 o2 o3 o4 o5;have hgl:=hS.o.blk.lt
       go_upto_region 28 with fail
       go_region_law (first
        | (go_simp;go_at_call 90;refine (hTr.out _ ql8).mono ?_;rintro e w2 ⟨A6,c6,rfl,o6,b6⟩;have zb:=b6.size;have z2:=(b6.cell (p:=⟨X.heap.size,2,none⟩) hgl).trans o2;have hR6:=qb hS.o.own.rows b6;have hB6:=hS.o.blk.below b6 hgl;have z3 : ∀ o,(w2.alloc o).cell? ⟨X.heap.size,2,none⟩=some (.slice A2 rs2.length c2):=fun o=>(hB6.alloc o).cell 2)
        | (refine jZ rfl _ _ _ rfl elt_row (X.heap.size+1) _ rfl (by first | exact hR6.alloc _ | exact (hR6.alloc _).drew) _ _ rfl (qe (xs:=[.slice A6 _ c6]) (by rfl) rfl) (by rfl) ?_;intro A4 c4 w4 qmC qmy qmG qmI;have hB4:=(hB6.alloc _).grown qmG (qku hS.o);have q4:w4.cell? ⟨X.heap.size,2,none⟩=some (.slice A2 rs2.length c2):=hB4.cell 2;have y4:=hB4.frozen 2))
       all_goals go_wp2
       all_goals exact ⟨⟨k+1,by omega,by go_num,hNx.out _ _ _ _ _ _ (b6.alloc b6.size _) (o6.alloc _) qmC qmG qmy⟩,by simp [intOf];omega⟩
      ·have g2:decide ((k:Int)+count<til)=false:=Lk h2;have hT:TrH X W Hh vr vc vis rs2 A2 c2 k f wc [] none 0 0:=.mk hS ⟨Rd.none_,Ld _,Nat.zero_le _⟩ rfl (Nat.zero_le _) (by rw [hfk.out,HRS.out,if_pos hin,if_neg (fun h=>h2 h.2)]) hr2.out;clear hin h1 h2 hxl hRG;obtain ⟨hS,hTr,hNx⟩:=hT;replace hTr:=Lh hTr;replace hNx:=Lh hNx;obtain ⟨o0,o1,o2,o3,o4,o5⟩:=qw hS.o.blk;dsimp only at o0 o1 o2 o3 o4 o5;have hgl:=hS.o.blk.lt
       go_upto_region 28 with fail
       go_region_law (first
        | (go_simp;go_at_call 90;refine (hTr.out _ ql8).mono ?_;rintro e w2 ⟨A6,c6,rfl,o6,b6⟩;have zb:=b6.size;have z2:=(b6.cell (p:=⟨X.heap.size,2,none⟩) hgl).trans o2;have hR6:=qb hS.o.own.rows b6;have hB6:=hS.o.blk.below b6 hgl;have z3 : ∀ o,(w2.alloc o).cell? ⟨X.heap.size,2,none⟩=some (.slice A2 rs2.length c2):=fun o=>(hB6.alloc o).cell 2)
        | (refine jZ rfl _ _ _ rfl elt_row (X.heap.size+1) _ rfl (by first | exact hR6.alloc _ | exact (hR6.alloc _).drew) _ _ rfl (qe (xs:=[.slice A6 _ c6]) (by rfl) rfl) (by rfl) ?_;intro A4 c4 w4 qmC qmy qmG qmI;have hB4:=(hB6.alloc _).grown qmG (qku hS.o);have q4:w4.cell? ⟨X.heap.size,2,none⟩=some (.slice A2 rs2.length c2):=hB4.cell 2;have y4:=hB4.frozen 2))
       all_goals go_wp2
       all_goals exact ⟨⟨k+1,by omega,by go_num,hNx.out _ _ _ _ _ _ (b6.alloc b6.size _) (o6.alloc _) qmC qmG qmy⟩,by simp [intOf];omega⟩
     ·have g1:decide (row<=(k:Int)+count)=false:=Lk h1;have hT:TrH X W Hh vr vc vis rs2 A2 c2 k f wc [] none 0 0:=.mk hS ⟨Rd.none_,Ld _,Nat.zero_le _⟩ rfl (Nat.zero_le _) (by rw [hfk.out,HRS.out,if_pos hin,if_neg (fun h=>h1 h.1)]) hr2.out;clear hin h1 hxl hRG;obtain ⟨hS,hTr,hNx⟩:=hT;replace hTr:=Lh hTr;replace hNx:=Lh hNx;obtain ⟨o0,o1,o2,o3,o4,o5⟩:=qw hS.o.blk;dsimp only at o0 o1 o2 o3 o4 o5;have hgl:=hS.o.blk.lt
      go_upto_region 28 with fail
      go_region_law (first
       | (go_simp;go_at_call 90;refine (hTr.out _ ql8).mono ?_;rintro e w2 ⟨A6,c6,rfl,o6,b6⟩;have zb:=b6.size;have z2:=(b6.cell (p:=⟨X.heap.size,2,none⟩) hgl).trans o2;have hR6:=qb hS.o.own.rows b6;have hB6:=hS.o.blk.below b6 hgl;have z3 : ∀ o,(w2.alloc o).cell? ⟨X.heap.size,2,none⟩=some (.slice A2 rs2.length c2):=fun o=>(hB6.alloc o).cell 2)
       | (refine jZ rfl _ _ _ rfl elt_row (X.heap.size+1) _ rfl (by first | exact hR6.alloc _ | exact (hR6.alloc _).drew) _ _ rfl (qe (xs:=[.slice A6 _ c6]) (by rfl) rfl) (by rfl) ?_;intro A4 c4 w4 qmC qmy qmG qmI;have hB4:=(hB6.alloc _).grown qmG (qku hS.o);have q4:w4.cell? ⟨X.heap.size,2,none⟩=some (.slice A2 rs2.length c2):=hB4.cell 2;have y4:=hB4.frozen 2))
      all_goals go_wp2
      all_goals exact ⟨⟨k+1,by omega,by go_num,hNx.out _ _ _ _ _ _ (b6.alloc b6.size _) (o6.alloc _) qmC qmG qmy⟩,by simp [intOf];omega⟩
    ·obtain rfl:bn=false:=hbn.out.trans (Lk hin);clear hbn;have hT:TrH X W Hh vr vc vis rs2 A2 c2 k f wc x.l x.A x.l.length x.cap:=.mk hS (hRG x hxg) rfl L0 (by rw [hfk.out,HRS.out,if_neg hin,hxl.out]) hr2.out;clear hin hxl hRG;obtain ⟨hS,hTr,hNx⟩:=hT;replace hTr:=Lh hTr;replace hNx:=Lh hNx;obtain ⟨o0,o1,o2,o3,o4,o5⟩:=qw hS.o.blk;dsimp only at o0 o1 o2 o3 o4 o5;have hgl:=hS.o.blk.lt
     go_upto_region 28 with fail
     go_region_law (first
      | (go_simp;go_at_call 90;refine (hTr.out _ ql8).mono ?_;rintro e w2 ⟨A6,c6,rfl,o6,b6⟩;have zb:=b6.size;have z2:=(b6.cell (p:=⟨X.heap.size,2,none⟩) hgl).trans o2;have hR6:=qb hS.o.own.rows b6;have hB6:=hS.o.blk.below b6 hgl;have z3 : ∀ o,(w2.alloc o).cell? ⟨X.heap.size,2,none⟩=some (.slice A2 rs2.length c2):=fun o=>(hB6.alloc o).cell 2)
      | (refine jZ rfl _ _ _ rfl elt_row (X.heap.size+1) _ rfl (by first | exact hR6.alloc _ | exact (hR6.alloc _).drew) _ _ rfl (qe (xs:=[.slice A6 _ c6]) (by rfl) rfl) (by rfl) ?_;intro A4 c4 w4 qmC qmy qmG qmI;have hB4:=(hB6.alloc _).grown qmG (qku hS.o);have q4:w4.cell? ⟨X.heap.size,2,none⟩=some (.slice A2 rs2.length c2):=hB4.cell 2;have y4:=hB4.frozen 2))
     all_goals go_wp2
     all_goals exact ⟨⟨k+1,by omega,by go_num,hNx.out _ _ _ _ _ _ (b6.alloc b6.size _) (o6.alloc _) qmC qmG qmy⟩,by simp [intOf];omega⟩
  ·obtain rfl:n=k:=by omega
   have hz1:=hX1.z;obtain ⟨z0,z1,z2,z3,z4,z5,y0,y1,y2,y3,y4,y5⟩:=ZB.facts hz1;obtain ⟨o0,o1,o2,o3,o4,o5⟩:=qw hS.o.blk;dsimp only at o0 o1 o2 o3 o4 o5;have hgl:=hS.o.blk.lt;go_wp2;have hx:=(hS.o.own.set6 (g:=w.heap.size+2) L0 (.int .i64 W) (.int .i64 Hh) (.slice A2 rs2.length c2) (.int .i64 vr) (.int .i64 vc) (.bool vis)).less (N':=w.heap.size) L0;exact bodyPost_ret (results_cell_row rfl _ _ (w.heap.size+2) 24 _ (0,0) _ rfl (ZB.set6 hz1 ⟨W,Hh,rls rs2,vr,vc,vis⟩ A2 rs2.length c2) underlying24 rfl (by kernel_rfl)) rfl ⟨qap hX1.bel L0 _ _ _ _ _ _,.inl ⟨A2,rs2.length,c2,rs2,rfl,hx.rows2 hr2.out.symm⟩⟩
end
end Go.Proofs.YtggegijlfaipfaaGreatDoor
