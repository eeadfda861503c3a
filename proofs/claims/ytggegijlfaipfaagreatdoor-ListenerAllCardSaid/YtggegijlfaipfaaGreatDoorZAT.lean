/- Joined: Ls3, Rl2, Lw8, Ls4. -/
import Derived.Sort.CutIn
import Derived.Shelf.RegionOpen
import Derived.Test.YtggegijlfaipfaaGreatDoorZAS
set_option linter.unusedVariables false
set_option linter.unusedSimpArgs false
set_option linter.unnecessarySimpa false
set_option maxHeartbeats 8000000
namespace Go.Proofs.YtggegijlfaipfaaGreatDoor
open Go.Proofs.Tryz Go.RowKit Go.Shelf
set_option maxRecDepth 20000
attribute [local go_sem] Oper.semAt_some
theorem qm9 {F:Fence} {n:Nat} {P:Program} {c:Code} {Q:Exit->Act->World->Prop} {a:Act} {w:World} (G:World->Prop) (h:G w) (k : ∀ w',G w'->c.wpIn F n P Q a w'):c.wpIn F n P Q a w:=k w h
theorem wpIn_act {F:Fence} {n:Nat} {P:Program} {c:Code} {Q:Exit->Act->World->Prop} {a:Act} {w:World} (G:Act->Prop) (h:G a) (k : ∀ a',G a'->c.wpIn F n P Q a' w):c.wpIn F n P Q a w:=k a h
theorem qng {P:Program} (w:World) (g:Nat) (ty:TypeId) (v:Value) (hc:w.cell? ⟨g,0,none⟩=some v) (hv:P.underlying ty=some (.int .i64)):(loadVar ty ⟨g,0,none⟩).run P w = .ok v w:=by
 have hagg:(isAgg ty).run P w = .ok false w:=by
  unfold isAgg;rw [Sem.run_bind,run_underlying hv w]
  rfl
 simp [loadVar,Sem.run_bind,hagg,go_sem,hc]
theorem qnc {P:Program} {fn:Func} {p q:Tmp} {ty tq:TypeId} (h:fn.results = #[.cell p ty,.cell q tq]) (tmps:Array Value) (w:World) (g gq:Nat) (t:TypeId) (cs:Array Value) (fr:Nat × Nat) (d:TypeDesc) (v:Value)
  (hp:tmps.getD p undef = .pointer (some ⟨g,0,none⟩)) (hg:w.heap[g]? = some (.cells cs t fr))
  (hu:P.underlying ty=some d) (hd:(match d with | .struct _ | .array _ _=>true | _=>false)=true) (hi:(P.info? ty).map (·.size)=some cs.size)
  (hq:tmps.getD q undef = .pointer (some ⟨gq,0,none⟩)) (hc:w.cell? ⟨gq,0,none⟩=some v) (hv:P.underlying tq=some (.int .i64)) :
  (results fn tmps).run P w = .ok (.tuple #[.agg cs,v]) w:=by
 simp only [results,h];have hp':tmps[p]?.getD undef = .pointer (some ⟨g,0,none⟩):=by simpa using hp
 have hq':tmps[q]?.getD undef = .pointer (some ⟨gq,0,none⟩):=by simpa using hq
 simp [Sem.run_bind,Result.andThen,hp',hq',asAddr,run_loadVar_row w g t ty cs fr d hg hu hd hi,qng w gq tq v hc hv]
theorem qa9 {W:World} {g:Nat} {t:TypeId} {cs:Array Value} {row:Option Nat} (h:Blk W g t cs) (hr : ∀ r,row=some r->∃ o:Obj,W.heap[r]? = some o/\o.isCells=false):some g≠row:=fun e=>by
 obtain ⟨o,ho,hc⟩:=hr g e.symm;unfold Blk at h;rw [h] at ho;cases ho;cases hc
theorem qgM {W W':World} {row:Option Nat} {base:Nat} {e:TypeId} {size:Nat} {v:Value} {k:Nat} {xs:List Value} (h:W.ownsRow base e size v k xs) (hg:W.grownBy W' row) (hr : ∀ r,row=some r->∃ o:Obj,W.heap[r]? = some o/\o.isCells=false):W'.ownsRow base e size v k xs:=by
 refine h.kept hg ?_
 rcases h.2 with ⟨rfl,_⟩ | ⟨g,cap,cur,rfl,_,hgb,_⟩
 ·exact .inl rfl
 ·refine .inr fun e'=>?_
  obtain ⟨o,ho,hc⟩:=hr g (by simpa [Value.ownBlock] using e'.symm);rw [hgb] at ho;cases ho;cases hc
theorem OwV.kept {N n c:Nat} {W W':World} {v:Vw} {A:Option Addr} {rs:List RowM} {row:Option Nat} (h:OwV N W v A n c rs) (hg:W.grownBy W' row) (hr : ∀ r,row=some r->∃ o:Obj,W.heap[r]? = some o/\o.isCells=false):OwV N W' v A n c rs :=
 ⟨qgM h.rows hg hr,fun x hx=>qgM (h.gl x hx) hg hr,h.eq⟩
theorem qno {W W':World} (h:Below W.heap.size W W'):KeepsOthers W W':=⟨h.size,fun k o hk _=>(h.block k (Array.getElem?_eq_some_iff.1 hk).1).trans hk⟩
theorem qnd (X:World) (g:Nat) (m:Md) (A:Option Addr) (n c:Nat):KeepsOthers X (zq X g m A n c) :=
 ((((((KeepsOthers.setCell _ _ _).trans (KeepsOthers.setCell _ _ _)).trans (KeepsOthers.setCell _ _ _)).trans (KeepsOthers.setCell _ _ _)).trans (KeepsOthers.setCell _ _ _)).trans (KeepsOthers.setCell _ _ _)).trans (KeepsOthers.setCell _ _ _)
theorem qdt {X:World} {h g:Nat} {t:TypeId} {cs:Array Value} (hb:Blk X h t cs) (hn:h≠g) (m:Md) (A:Option Addr) (n c:Nat):Blk (zq X g m A n c) h t cs :=
 ((((((hb.far (p:=⟨g,0,none⟩) hn _).far (p:=⟨g,1,none⟩) hn _).far (p:=⟨g,2,none⟩) hn _).far (p:=⟨g,3,none⟩) hn _).far (p:=⟨g,4,none⟩) hn _).far (p:=⟨g,5,none⟩) hn _).far (p:=⟨g,6,none⟩) hn _
abbrev errB (X:World) (g:Nat) (e:Int):Prop:=Blk X g 31 #[.int .i64 e]
theorem errB.set {X:World} {g:Nat} {e:Int} (h:errB X g e) (u:Int):errB (X.setCell ⟨g,0,none⟩ (.int .i64 u)) g u:=Blk.set_ h 0 _
structure AllG (w:World) (gR gX gE gO:Nat):Prop where
 r:w.heap.size<=gR
 x:gR<gX
 e:gX<gE
 o:gE<gO
def uttA (x:SpkM):Array Value:=#[.slice x.A x.ws.length x.cap,.slice x.cA x.cn x.cc,.int .i64 x.cl,.int .i64 x.af,.int .i64 x.up]
structure AllI (w:World) (gR gX gE gO:Nat) (M:Md × Int) (W:World):Prop where
 res:Blk W gR 26 (mdC md0 none 0 0)
 rex:errB W gX 0
 err:errB W gE M.2
 out : ∃ A n c N rs,gX<N/\Blk W gO 26 (mdC M.1 A n c)/\OwV N W M.1.view A n c rs
 bel:Below w.heap.size w W
theorem AllI.kept {w W W':World} {gR gX gE gO:Nat} {M:Md × Int} {row:Option Nat} (h:AllI w gR gX gE gO M W) (hg:W.grownBy W' row) (hr : ∀ r,row=some r->w.heap.size<=r/\∃ o:Obj,W.heap[r]? = some o/\o.isCells=false):AllI w gR gX gE gO M W':=by
 have hr' : ∀ r,row=some r->∃ o:Obj,W.heap[r]? = some o/\o.isCells=false:=fun r e=>(hr r e).2
 obtain ⟨A,n,c,N,rs,h1,h2,h3⟩:=h.out;exact ⟨h.res.grown hg (qa9 h.res hr'),Blk.grown h.rex hg (qa9 h.rex hr'),Blk.grown h.err hg (qa9 h.err hr'),⟨A,n,c,N,rs,h1,h2.grown hg (qa9 h2 hr'),h3.kept hg hr'⟩,h.bel.grown hg h.bel.size (fun k e=>(hr k e).1)⟩
theorem AllI.on {w X X':World} {gR gX gE gO:Nat} {M:Md × Int} (h:AllI w gR gX gE gO M X) (hb:Below X.heap.size X X'):AllI w gR gX gE gO M X':=by
 obtain ⟨A,n,c,N,rs,h1,h2,h3⟩:=h.out;exact ⟨Blk.below h.res hb h.res.lt,Blk.below h.rex hb h.rex.lt,Blk.below h.err hb h.err.lt,⟨A,n,c,N,rs,h1,h2.below hb h2.lt,h3.below hb⟩,h.bel.trans (hb.mono h.bel.size)⟩
theorem AllI.put {w X X3:World} {gR gX gE gO n c:Nat} {M1 M2:Md × Int} {A:Option Addr} {rs:List RowM} (h:AllI w gR gX gE gO M1 X) (hw:w.heap.size<=gR) (h1:gR<gX) (h2:gX<gE) (h3:gE<gO) (hb:Below X.heap.size X X3) (ho:OwV X.heap.size X3 M2.1.view A n c rs):AllI w gR gX gE gO M2 ((zq X3 gO M2.1 A n c).setCell ⟨gE,0,none⟩ (.int .i64 M2.2)):=by
 obtain ⟨A1,n1,c1,N,rs1,-,hO,-⟩:=h.out;have hl:=hO.lt
 exact ⟨(qdt (Blk.below h.res hb h.res.lt) L0 _ _ _ _).far (by show gR≠gE;omega) _,(qdt (Blk.below h.rex hb h.rex.lt) L0 _ _ _ _).far (by show gX≠gE;omega) _,errB.set (qdt (Blk.below h.err hb h.err.lt) L0 _ _ _ _) _,
  ⟨A,n,c,X.heap.size,rs,by omega,(qnf (hO.below hb hl) _ _ _ _).far (by show gO≠gE;omega) _,(qiB ho hl).far L7 _⟩,(yX (h.bel.trans (hb.mono h.bel.size)) L0 _ _ _ _).setCell L7 _⟩
theorem AllI.keeps {w X X3:World} {gR gX gE gO n c B:Nat} {M1 M2:Md × Int} {A:Option Addr} (h:AllI w gR gX gE gO M1 X) (hw:w.heap.size<=gR) (h1:gR<gX) (h2:gX<gE) (h3:gE<gO) (hb:Below X.heap.size X X3):KeepsFrom B X ((zq X3 gO M2.1 A n c).setCell ⟨gE,0,none⟩ (.int .i64 M2.2))/\Below w.heap.size X ((zq X3 gO M2.1 A n c).setCell ⟨gE,0,none⟩ (.int .i64 M2.2)) :=
 ⟨(((qno hb).trans (qnd _ _ _ _ _ _)).trans (KeepsOthers.setCell _ _ _)).from _,(yX (hb.mono h.bel.size) L0 _ _ _ _).setCell L7 _⟩
structure AllX (w:World) (gR gX:Nat) (E:Int) (W:World):Prop where
 res:Blk W gR 26 (mdC md0 none 0 0)
 rex:errB W gX E
 bel:Below w.heap.size w W
theorem AllX.kept {w W W':World} {gR gX:Nat} {E:Int} {row:Option Nat} (h:AllX w gR gX E W) (hg:W.grownBy W' row) (hr : ∀ r,row=some r->w.heap.size<=r/\∃ o:Obj,W.heap[r]? = some o/\o.isCells=false):AllX w gR gX E W':=by
 have hr' : ∀ r,row=some r->∃ o:Obj,W.heap[r]? = some o/\o.isCells=false:=fun r e=>(hr r e).2
 exact ⟨h.res.grown hg (qa9 h.res hr'),Blk.grown h.rex hg (qa9 h.rex hr'),h.bel.grown hg h.bel.size (fun k e=>(hr k e).1)⟩
theorem AllX.drew {w X:World} {gR gX:Nat} {E:Int} (h:AllX w gR gX E X):AllX w gR gX E X.drew:=⟨h.res,h.rex,h.bel.drew⟩
theorem AllI.exit {w X:World} {gR gX gE gO B:Nat} {M:Md × Int} (h:AllI w gR gX gE gO M X) (hw:w.heap.size<=gR) (h1:gR<gX) (E:Int):AllX w gR gX E ((zq X gR md0 none 0 0).setCell ⟨gX,0,none⟩ (.int .i64 E))/\KeepsFrom B X ((zq X gR md0 none 0 0).setCell ⟨gX,0,none⟩ (.int .i64 E)) :=
 ⟨⟨(qnf h.res md0 none 0 0).far (by show gR≠gX;omega) _,errB.set (qdt h.rex L0 _ _ _ _) _,(yX h.bel hw _ _ _ _).setCell L7 _⟩,((qnd _ _ _ _ _ _).trans (KeepsOthers.setCell _ _ _)).from _⟩
def MdV (r:Md × Int) (w:World) (e:Ending) (w':World):Prop :=
 Below w.heap.size w w'/\∃ A n c rs,e = .returned (.tuple #[.agg (mdC r.1 A n c),.int .i64 r.2])/\RdV w' w'.heap.size r.1.view A n c rs
structure AllF (w:World) (gR gX:Nat) (M:Md × Int) (A:Option Addr) (n c:Nat) (X:World):Prop where
 res:Blk X gR 26 (mdC M.1 A n c)
 rex:errB X gX M.2
 row : ∃ N rs,OwV N X M.1.view A n c rs
 bel:Below w.heap.size w X
theorem AllF.turn {w X:World} {gR gX n c D:Nat} {M:Md × Int} {A:Option Addr} {o o':Obj} (h:AllF w gR gX M A n c X) (hK:X.heap[D]? = some o) (ho:o.isCells=false) (hD:w.heap.size<=D):AllF w gR gX M A n c (X.putObj D o'):=by
 have hr : ∀ r,some D=some r->∃ o:Obj,X.heap[r]? = some o/\o.isCells=false:=fun r e=>by cases e;exact ⟨o,hK,ho⟩
 have hg:=grownBy_putObj' X D o';obtain ⟨N,rs,h3⟩:=h.row;exact ⟨h.res.grown hg (qa9 h.res hr),Blk.grown h.rex hg (qa9 h.rex hr),⟨N,rs,h3.kept hg hr⟩,h.bel.grown hg h.bel.size (fun k e=>by cases e;exact hD)⟩
theorem AllF.mdv {w X:World} {gR gX n c:Nat} {M:Md × Int} {A:Option Addr} (h:AllF w gR gX M A n c X):MdV M w (.returned (.tuple #[.agg (mdC M.1 A n c),.int .i64 M.2])) X:=by
 obtain ⟨N,rs,h3⟩:=h.row;exact ⟨h.bel,A,n,c,rs,rfl,h3.rdV⟩
theorem AllI.fin {w X:World} {gR gX gE gO:Nat} {M:Md × Int} (h:AllI w gR gX gE gO M X) (hw:w.heap.size<=gR) (h1:gR<gX) : ∃ A n c,Blk X gO 26 (mdC M.1 A n c)/\AllF w gR gX M A n c ((zq X gR M.1 A n c).setCell ⟨gX,0,none⟩ (.int .i64 M.2)):=by
 obtain ⟨A,n,c,N,rs,h2,h3,h4⟩:=h.out;exact ⟨A,n,c,h3,(qnf h.res _ _ _ _).far (by show gR≠gX;omega) _,errB.set (qdt h.rex L0 _ _ _ _) _,⟨N,rs,(qiB h4 L0).far (by show gX<N;omega) _⟩,(yX h.bel hw _ _ _ _).setCell L7 _⟩
theorem AllX.fin {w X:World} {gR gX:Nat} {E:Int} (h:AllX w gR gX E X):AllF w gR gX (md0,E) none 0 0 X:=⟨h.res,h.rex,⟨0,[],OwV.none_ _ _⟩,h.bel⟩
theorem keep_obj {X:World} {D g gX n c:Nat} {o:Obj} {m:Md} {A:Option Addr} {u:Value} (hK:X.heap[D]? = some o) (ho:o.isCells=false):((zq X g m A n c).setCell ⟨gX,0,none⟩ u).heap[D]? = some o:=((qnd X g m A n c).trans (KeepsOthers.setCell _ _ _)).same D _ hK ho
theorem qfj {m:Md} (hp:vu m=true) {W:World} {B n c:Nat} {A:Option Addr} {rs:List RowM} (h:RdV W B m.view A n c rs) : ∀ x∈rs,x.l.length<=132/\∀ g∈x.l,g.text.size<=16:=fun x hx=>by
 unfold vu at hp;exact qd0 (of_decide_eq_true hp).1 x.l (by rw [h.2.1];exact kB hx)
structure AllS (w:World) (m:Md) (A:Option Addr) (n c:Nat) (X:World):Prop where
 box:Blk X w.heap.size 26 (mdC m A n c)
 res:ZM X (w.heap.size+1)
 rex:errB X (w.heap.size+1+1) 0
 bel:Below w.heap.size w X
theorem AllS.new (w:World) (m:Md) (A:Option Addr) (n c:Nat):AllS w m A n c (((w.alloc (.cells (mdC m A n c) 26)).alloc (.cells (mdC md0 none 0 0) 26)).alloc (.cells #[.int .i64 0] 31)) :=
 ⟨((Blk.new_ rfl).alloc _).alloc _,(Blk.new_ L1).alloc _,Blk.new_ L1,((L5).alloc L1 _).alloc (by simp;omega) _⟩
theorem AllS.on {w X X':World} {m:Md} {A:Option Addr} {n c:Nat} (h:AllS w m A n c X) (hb:Below X.heap.size X X'):AllS w m A n c X' :=
 ⟨h.box.below hb h.box.lt,Blk.below h.res hb h.res.lt,Blk.below h.rex hb h.rex.lt,h.bel.trans (hb.mono h.bel.size)⟩
theorem errB.facts {X:World} {g:Nat} {e:Int} (h:errB X g e):X.cell? ⟨g,0,none⟩=some (.int .i64 e)/\X.frozen? ⟨g,0,none⟩=false:=⟨Blk.cell h 0,Blk.frozen h 0⟩
theorem qns (ls:List SpkM):qna ls=(qmO ls).map SpkM.ws:=rfl
def wdS {ls:List SpkM} (pre:List (SpX ls)):List (List ByteArray):=pre.map fun x=>x.1.ws
theorem qnq {ls:List SpkM} (pre:List (SpX ls)):wdS pre=(pre.map (·.1)).map SpkM.ws:=by simp [wdS]
theorem wdS_snoc {ls:List SpkM} (pre:List (SpX ls)) (x:SpX ls):wdS (pre++[x])=wdS pre++[x.1.ws]:=by simp [wdS]
theorem wdS_all {ls:List SpkM} {pre:List (SpX ls)} (h:pre.map (·.1)=qmO ls):wdS pre=qna ls:=by rw [qnq,h];rfl
theorem wdS_pre {ls:List SpkM} {pre:List (SpX ls)} (h:pre.map (·.1) <+: qmO ls) : ∃ T,qna ls=wdS pre++T:=by
 obtain ⟨T,hT⟩:=h;exact ⟨T.map SpkM.ws,by rw [qnq,qns,<- hT,List.map_append]⟩
theorem lall_ (m:Md) (A:Option Addr) (n c:Nat) (rs:List RowM) (ls:List SpkM) (As:Option Addr) (ns cs:Nat) (w:World) (rd:RdV w w.heap.size m.view A n c rs) (hsm : ∀ x∈rs,x.l.length<=140/\∀ g∈x.l,g.text.size<=40)
  (rS:RdS w w.heap.size As ns ls) (hns:ns<=1000) (hW : ∀ x∈ls,x.ws.length<=300/\∀ s∈x.ws,s.size<=200) (hg:Gd w) :
  Calls prog 7 #[.agg (mdC m A n c),.slice As ns cs] w (MdV (allV m (qna ls)) w):=by
 have HP:Hid (∀ X,Below w.heap.size w X->Calls prog 17 #[.agg (mdC m A n c)] X (qh (.bool (vu m)) X)):=Lh fun X hb=>qnr m A n c w.heap.size rs X (rd.below hb) hb.size (fun x hx=>⟨Lj (hsm x hx).1 L2,fun g hg=>Lj ((hsm x hx).2 g hg) L2⟩) (hg.below hb).2.1
 unfold allV
 cases hp:vu m with
 | false =>
  rw [hp] at HP;rw [if_pos rfl];clear rd hsm rS hns hW hg hp;obtain ⟨⟨W,H,rows,r,cl,vs⟩,U⟩:=m;refine (callsIn_wide (n:=9)).1 ?_;refine callsIn_of_wp_marks func7 rfl trivial ?_ rfl;simp only [ntmps7,List.size_toArray,Lp,List.length_nil,Nat.reduceAdd,Nat.reduceSub,Array.replicate_succ,Array.replicate_zero,List.push_toArray,List.append_toArray,Lg,List.cons_append];have hb0:Below w.heap.size w w:=Le _ _
  gi_upto_region 1 with fail
  refine qm9 (AllS w ⟨⟨W,H,rows,r,cl,vs⟩,U⟩ A n c) (AllS.new w _ A n c) ?_;intro X hX;obtain ⟨c0,c1,c2,c3,c4,c5,c6,-,-,-,-,-,-,-⟩:=zd hX.box;dsimp only at c0 c1 c3 c4 c5 c6
  gi_upto_region 2 with (refine ⟨trivial,?_⟩;gi_at_call 17;refine (callsIn_wide.2 (HP.out _ hX.bel)).mono ?_;rintro e w1 ⟨rfl,hb1⟩)
  have hX1:=hX.on hb1;obtain ⟨z0,z1,z2,z3,z4,z5,z6,y0,y1,y2,y3,y4,y5,y6⟩:=ZM.facts hX1.res;obtain ⟨x0,x1⟩:=hX1.rex.facts;have hM:=qnf hX1.res md0 none 0 0;have hne:w.heap.size+1≠w.heap.size+1+1:=by omega
  have hR:=Blk.far hM (p:=⟨w.heap.size+1+1,0,none⟩) hne (.int .i64 1);have hE:=errB.set (qdt hX1.rex (Ne.symm hne) md0 none 0 0) 1;have hbe:=(yX hX1.bel (Nat.le_succ _) md0 none 0 0).setCell (p:=⟨w.heap.size+1+1,0,none⟩) L7 (.int .i64 1)
  gi_wp2
  exact ⟨_,qnc rfl _ _ (w.heap.size+1) (w.heap.size+1+1) 26 _ (0,0) _ (.int .i64 1) rfl hR underlying26 rfl yy rfl hE.facts.1 underlying31,hbe,none,0,0,[],rfl,(OwV.none_ 0 _).rdV⟩
 | true =>
  rw [hp] at HP;rw [if_neg L1];have hv:js m.view=0:=by
   unfold vu at hp;exact (of_decide_eq_true hp).1
  have HAp:Hid (∀ X b,Below w.heap.size w X->Calls prog 18 #[.agg (vwC m.view A n c),.slice (some ⟨b,0,none⟩) 0 0] X fun e X'=>∃ A3 n3 d3 rs3 i3,e = .returned (.tuple #[.agg #[.int .i64 m.view.width,.int .i64 m.view.height,.slice A3 n3 d3,.int .i64 m.view.row,.int .i64 m.view.col,.bool m.view.vis],.int .i64 i3,.int .i64 0])/\OwV X.heap.size X' m.view A3 n3 d3 rs3/\Below X.heap.size X X'):=Lh fun X b hX=>by
   have:=apply_ m.view A n c w.heap.size rs [] (some ⟨b,0,none⟩) 0 0 X (rd.below hX) ⟨⟨rfl,fun h=>absurd h L0⟩,fun x hx=>by cases hx⟩ (Ld 0) hX.size (fun x hx=>by have:=(hsm x hx).1;show x.l.length+0<=100000000;omega) (fun x hx g hg=>Lj ((hsm x hx).2 g hg) L2) (fun x hx=>by cases hx) L0 (hg.below hX).2.1;rw [show zo []=[] from rfl,qnv hv] at this;exact this.mono fun e X' ⟨h1,A3,n3,d3,rs3,i3,h2,h3⟩=>⟨A3,n3,d3,rs3,i3,h2,h3,h1⟩
  have HH:Hid (∀ (M:Md) (A:Option Addr) (n c:Nat) (rs:List RowM) (X:World) (x:SpkM),x∈ls->vu M=true->Below w.heap.size w X->RdV X X.heap.size M.view A n c rs->Calls prog 14 #[.agg (mdC M A n c),.slice x.A x.ws.length x.cap] X fun e X'=>∃ A4 n4 d4 rs4,e = .returned (.tuple #[.agg (mdC (yT M x.ws).1 A4 n4 d4),.int .i64 (yT M x.ws).2])/\OwV X.heap.size X' (yT M x.ws).1.view A4 n4 d4 rs4/\Below X.heap.size X X'):=Lh fun M A n c rs X x hx hpM hX hr=>by
   have hs:=qfj hpM hr;have hw:=hW x hx;have hb:=rS.gl x hx;have hg':=hg.below hX;exact (hear_ M A n c X.heap.size rs x.ws x.A x.ws.length x.cap X hr (Ld _) (fun y hy=>by have:=(hs y hy).1;omega) (fun y hy g hg=>by have:=(hs y hy).2 g hg;omega) ⟨rfl,hb.2.1,hb.2.2.1,(hb.1.below hX).more hX.size,fun s hs=>Lj (hw.2 s hs) L2⟩ L0 (qhS L0) hg'.1 hg'.2.1 hg'.2.2).mono fun e X' ⟨h1,A4,n4,d4,rs4,h2,h3⟩=>⟨A4,n4,d4,rs4,h2,h3,h1⟩
  have HGP:=Lh (qnb hp);have HRS:=Lh rS;clear rd hsm rS hW hg hp hv;obtain ⟨⟨W,H,rows,r,cl,vs⟩,U⟩:=m;dsimp only at HAp;refine (callsIn_wide (n:=9)).1 ?_;refine callsIn_of_wp_marks func7 rfl trivial ?_ rfl;simp only [ntmps7,List.size_toArray,Lp,List.length_nil,Nat.reduceAdd,Nat.reduceSub,Array.replicate_succ,Array.replicate_zero,List.push_toArray,List.append_toArray,Lg,List.cons_append]
  gi_upto_region 1 with fail
  refine qm9 (AllS w ⟨⟨W,H,rows,r,cl,vs⟩,U⟩ A n c) (AllS.new w _ A n c) ?_;intro X hX;obtain ⟨c0,c1,c2,c3,c4,c5,c6,-,-,-,-,-,-,-⟩:=zd hX.box;dsimp only at c0 c1 c3 c4 c5 c6
  gi_upto_region 3 with (refine ⟨trivial,?_⟩;gi_at_call 17;refine (callsIn_wide.2 (HP.out _ hX.bel)).mono ?_;rintro e w1 ⟨rfl,hb1⟩)
  have hX1:=hX.on hb1;clear c0 c1 c2 c3 c4 c5 c6 hX hb1
  gi_upto_region 4 with fail
  refine qm9 (AllS w ⟨⟨W,H,rows,r,cl,vs⟩,U⟩ A n c) (hX1.on L5) ?_;clear hX1;intro Y hY;obtain ⟨c0,c1,c2,c3,c4,c5,c6,-,-,-,-,-,-,-⟩:=zd hY.box;dsimp only at c0 c1 c3 c4 c5 c6
  gi_upto_region 5 with (refine ⟨trivial,?_⟩;gi_at_call 18;refine (callsIn_wide.2 (HAp.out _ _ hY.bel)).mono ?_;rintro e w2 ⟨A3,n3,d3,rs3,i3,rfl,ho3,hb3⟩)
  have hz2:=hb3.size;have hyx:=hY.rex.lt;have hba:Below w2.heap.size w2 ((w2.alloc (.cells #[.int .i64 W,.int .i64 H,.slice A3 n3 d3,.int .i64 r,.int .i64 cl,.bool vs] 24)).alloc (.cells #[.int .i64 0] 31)):=(L5).alloc L1 _;refine qm9 (fun Z=>AllS w ⟨⟨W,H,rows,r,cl,vs⟩,U⟩ A n c Z/\Blk Z w2.heap.size 24 (vwC ⟨W,H,rows,r,cl,vs⟩ A3 n3 d3)/\errB Z (w2.heap.size+1) 0/\OwV Y.heap.size Z ⟨W,H,rows,r,cl,vs⟩ A3 n3 d3 rs3) ⟨(hY.on hb3).on hba,(Blk.new_ rfl).alloc _,Blk.new_ L1,ho3.below hba⟩ ?_;rintro Z ⟨hZ,hVZ,hEZ,hoZ⟩;have hzx:=hEZ.lt;clear c0 c1 c2 c3 c4 c5 c6 ho3 hb3 hba HAp HP hY;obtain ⟨c0,c1,c2,c3,c4,c5,c6,-,-,-,-,-,-,-⟩:=zd hZ.box;dsimp only at c6;clear c0 c1 c2 c3 c4 c5;obtain ⟨v0,v1,v2,v3,v4,v5⟩:=qw hVZ;dsimp only at v0 v1 v3 v4 v5;obtain ⟨x0,x1⟩:=hEZ.facts
  gi_wp2_with (refine ⟨trivial,?_⟩;gi_at_call 19;refine (comp_in Fence.wide _ trivial rfl _ _ _ _).mono ?_;rintro e w3 ⟨rfl,rfl⟩)
  obtain ⟨gE,hgE⟩ : ∃ x,x=w2.heap.size+1:=⟨_,rfl⟩
  obtain ⟨gO,hgO⟩ : ∃ x,x=Z.heap.size:=⟨_,rfl⟩
  obtain ⟨gS,hgS⟩ : ∃ x,x=Z.heap.size+1:=⟨_,rfl⟩
  have hbz:Below Z.heap.size Z ((Z.alloc (.cells #[.int .i64 W,.int .i64 H,.slice A3 n3 d3,.int .i64 r,.int .i64 cl,.bool vs,.int .i64 U] 26)).alloc (.cells #[.slice As ns cs] 27)):=(L5).alloc L1 _;have hZ2:=hZ.on hbz;refine qm9 (fun X=>AllI w (w.heap.size+1) (w.heap.size+1+1) gE gO (⟨⟨W,H,rows,r,cl,vs⟩,U⟩,0) X/\X.cell? ⟨gS,0,none⟩=some (.slice As ns cs)/\gS<X.heap.size) ⟨⟨hZ2.res,hZ2.rex,by rw [hgE];exact Blk.below hEZ hbz hEZ.lt,⟨A3,n3,d3,Y.heap.size,rs3,hyx,by rw [hgO];exact (Blk.new_ rfl).alloc _,hoZ.below hbz⟩,hZ2.bel⟩,by rw [hgS];exact Blk.cell (Blk.new_ L1) 0,by rw [hgS];simp⟩ ?_;rintro W0 ⟨hI0,hS0,hgs⟩;have hG:w.heap.size+1+1<gE/\gE<gO:=by omega
  rw [<- hgS,<- hgE,<- hgO];clear hgE hgO hgS hbz hZ2 hZ hVZ hEZ hoZ c6 v0 v1 v2 v3 v4 v5 x0 x1;refine wpIn_act (fun a'=>∃ u0 u1 u2 u3 u6 u7 u8 u11 u12 u13 u14 u15 u16 u17 u18 u19 u20 u21 u22 u23 u24 u25 u26 u27 u28 u29 u30 u31 u32 u33 u35 u36 u37 u38 u39 u40 u41 u42 u43 u44 u45 u46 u47:Value,a'={ tmps:=#[u0,u1,u2,u3,.pointer (some ⟨w.heap.size+1,0,none⟩),.pointer (some ⟨w.heap.size+1+1,0,none⟩),u6,u7,u8,.pointer (some ⟨gE,0,none⟩),.pointer (some ⟨gO,0,none⟩),u11,u12,u13,u14,u15,u16,u17,u18,u19,u20,u21,u22,u23,u24,u25,u26,u27,u28,u29,u30,u31,u32,u33,.func (.func 33) #[] #[.pointer (some ⟨gS,0,none⟩)],u35,u36,u37,u38,u39,u40,u41,u42,u43,u44,u45,u46,u47],defers:=[] }) ⟨_,_,_,_,_,_,_,_,_,_,_,_,_,_,_,_,_,_,_,_,_,_,_,_,_,_,_,_,_,_,_,_,_,_,_,_,_,_,_,_,_,_,_,rfl⟩ ?_;rintro _ ⟨u0,u1,u2,u3,u6,u7,u8,u11,u12,u13,u14,u15,u16,u17,u18,u19,u20,u21,u22,u23,u24,u25,u26,u27,u28,u29,u30,u31,u32,u33,u35,u36,u37,u38,u39,u40,u41,u42,u43,u44,u45,u46,u47,rfl⟩;have hB0:=hI0.bel.size;refine wpIn_rangeFunc_ownH rfl L0 (gf:=33) (lb:=#[.pointer (some ⟨gS,0,none⟩)]) rfl trivial (enters_of func33 (by kernel_rfl) rfl)
   (qnp Fence.wide _ trivial rfl L0 gS w.heap.size As ns cs ls hns W0 hgs hB0 hS0 (HRS.out.below hI0.bel)) belowK_t (belowK_b hB0) (Le _ _) (fun _=>rfl)
   (fun pre X=>(goH ⟨⟨W,H,rows,r,cl,vs⟩,U⟩ (wdS pre)).2=0/\AllI w (w.heap.size+1) (w.heap.size+1+1) gE gO (goH ⟨⟨W,H,rows,r,cl,vs⟩,U⟩ (wdS pre)) X)
   (fun c pre X=>(c = .ret/\(goH ⟨⟨W,H,rows,r,cl,vs⟩,U⟩ (wdS pre)).2≠0)/\AllX w (w.heap.size+1) (w.heap.size+1+1) (goH ⟨⟨W,H,rows,r,cl,vs⟩,U⟩ (wdS pre)).2 X)
   (fun s X X' row hs hg hr=>⟨hs.1,hs.2.kept hg fun k e=>⟨Lj hB0 (hr k e).1,(hr k e).2⟩⟩)
   (fun _ s X X' row hs hg hr=>⟨hs.1,hs.2.kept hg fun k e=>⟨Lj hB0 (hr k e).1,(hr k e).2⟩⟩)
   ⟨rfl,hI0⟩
   (fun x a' X=>∃ Bx,gO<Bx/\Blk X Bx 43 (uttA x.1)/\a'={ tmps:=#[u0,u1,u2,u3,.pointer (some ⟨w.heap.size+1,0,none⟩),.pointer (some ⟨w.heap.size+1+1,0,none⟩),u6,u7,u8,.pointer (some ⟨gE,0,none⟩),.pointer (some ⟨gO,0,none⟩),.pointer (some ⟨Bx,0,none⟩),u12,u13,u14,u15,u16,u17,u18,u19,u20,u21,u22,u23,u24,u25,u26,u27,u28,u29,u30,u31,u32,u33,.func (.func 33) #[] #[.pointer (some ⟨gS,0,none⟩)],uttV x.1,u36,u37,u38,u39,u40,u41,u42,u43,u44,u45,u46,u47],defers:=[] })
   (fun x a' _ X X' row hs hg hr=>by obtain ⟨Bx,h1,h2,h3⟩:=hs;exact ⟨Bx,h1,h2.grown hg (qa9 h2 fun k e=>(hr k e).2),h3⟩)
   ?assign ?body ?done ?stop
  case assign =>
   rintro l pre ⟨⟨com,ws,xA,xcap,cA,cn,cc,cl,af,up,be,en⟩,hx⟩ X K hI hK;obtain ⟨A1,n1,d1,N1,rs1,hN1,hO1,-⟩:=hI.2.out;dsimp only [uttV]
   gi_wp2
   exact hK _ _ ((KeepsOthers.alloc _ _).from _) ((Le _ _).alloc hI.2.bel.size _) ⟨hI.1,hI.2.kept (World.grownBy_alloc _ _ none) (fun k e=>by cases e)⟩ ⟨X.heap.size,hO1.lt,Blk.new_ rfl,rfl⟩
  case body =>
   rintro l pre ⟨x,hx,hc⟩ a' X _ _ ⟨h0,hI⟩ ⟨Bx,hBx,hBl,rfl⟩ _;have HC:=HH.out (goH ⟨⟨W,H,rows,r,cl,vs⟩,U⟩ (wdS pre)).1;have hpm:=(HGP.out (wdS pre)).1 h0;have hnx:goH ⟨⟨W,H,rows,r,cl,vs⟩,U⟩ (wdS (pre++[⟨x,hx,hc⟩]))=yT (goH ⟨⟨W,H,rows,r,cl,vs⟩,U⟩ (wdS pre)).1 x.ws:=by
    rw [wdS_snoc,goH_snoc];exact if_pos h0
   obtain ⟨A1,n1,d1,N1,rs1,hN1,hO1,ho1⟩:=hI.out;have HC2:=Lh (HC A1 n1 d1 rs1 X x hx hpm hI.bel ho1.rdV);obtain ⟨PX,hPX⟩ : ∃ p,p=pre++[⟨x,hx,hc⟩]:=⟨_,rfl⟩
   rw [<- hPX] at hnx ⊢;clear hPX;generalize goH ⟨⟨W,H,rows,r,cl,vs⟩,U⟩ (wdS pre)=M1 at *
   generalize yT M1.1 x.ws=M3 at *
   have HNX:=Lh hnx;clear hnx hpm HC ho1 hN1;have hput:=fun (X3:World) (A4:Option Addr) (n4 d4:Nat) (rs4:List RowM) (hb:Below X.heap.size X X3) (ho:OwV X.heap.size X3 M3.1.view A4 n4 d4 rs4)=>hI.put (Nat.le_succ _) (Nat.lt_succ_self _) hG.1 hG.2 hb ho
   have hkp:=fun (X3:World) (A4:Option Addr) (n4 d4:Nat) (hb:Below X.heap.size X X3)=>hI.keeps (M2:=M3) (n:=n4) (c:=d4) (A:=A4) (B:=W0.heap.size) (Nat.le_succ _) (Nat.lt_succ_self _) hG.1 hG.2 hb
   obtain ⟨⟨⟨vW,vH,qnK,vr,vy,vv⟩,vU⟩,vE⟩:=M1;obtain ⟨⟨⟨qW,qH,qnI,qr,qy,qv⟩,qU⟩,qE⟩:=M3;obtain rfl:vE=0:=h0;have HC3:Hid (Calls prog 14 #[.agg #[.int .i64 vW,.int .i64 vH,.slice A1 n1 d1,.int .i64 vr,.int .i64 vy,.bool vv,.int .i64 vU],.slice x.A x.ws.length x.cap] X fun e X'=>∃ A4 n4 d4 rs4,e = .returned (.tuple #[.agg #[.int .i64 qW,.int .i64 qH,.slice A4 n4 d4,.int .i64 qr,.int .i64 qy,.bool qv,.int .i64 qU],.int .i64 qE])/\OwV X.heap.size X' ⟨qW,qH,qnI,qr,qy,qv⟩ A4 n4 d4 rs4/\Below X.heap.size X X'):=HC2;clear HC2 HH;obtain ⟨c0,c1,c2,c3,c4,c5,c6,-,-,-,-,-,-,-⟩:=zd hO1;dsimp only at c0 c1 c3 c4 c5 c6;have hlO:=hO1.lt;have hEr:=hI.err;have hlE:=hEr.lt;have u0:X.cell? ⟨Bx,0,none⟩=some (.slice x.A x.ws.length x.cap):=hBl.cell 0;obtain ⟨com,ws,xA,xcap,cA,cn,cc,cl',af,up,be,en⟩:=x;dsimp only at u0 HC3;generalize ws.length=nw at *
   have hn1:gO≠gE:=by omega
   have hn2:gE≠gO:=by omega
   gi_upto_region 11 with (refine ⟨trivial,?_⟩;gi_at_call 14;refine (CallsIn.inRound l (callsIn_wide.2 HC3.out)).mono ?_;rintro e X3 ⟨A4,n4,d4,rs4,rfl,ho4,hb4⟩;have hO3:=hO1.below hb4 hlO;obtain ⟨z0,z1,z2,z3,z4,z5,z6,y0,y1,y2,y3,y4,y5,y6⟩:=zd hO3;obtain ⟨k0,k1⟩:=errB.facts (Blk.below hEr hb4 hlE))
   obtain ⟨q1,q2⟩:=hkp X3 A4 n4 d4 hb4;have hput2:=hput X3 A4 n4 d4 rs4 hb4 ho4;refine qm9 (fun X4=>KeepsFrom W0.heap.size X X4/\Below w.heap.size X X4/\AllI w (w.heap.size+1) (w.heap.size+1+1) gE gO (⟨⟨qW,qH,qnI,qr,qy,qv⟩,qU⟩,qE) X4) ⟨q1,q2,hput2⟩ ?_;clear q1 q2 hput2 z0 z1 z2 z3 z4 z5 z6 y0 y1 y2 y3 y4 y5 y6 k0 k1 c0 c1 c2 c3 c4 c5 c6 hO3 ho4 hb4 hput hkp HC3 hBl u0;rintro X4 ⟨q1,q2,hI4⟩;obtain ⟨k0,k1⟩:=errB.facts hI4.err;dsimp only at k0
   by_cases hqE:qE=0
   ·have hEb:(qE != 0)=false:=by rw [hqE];rfl
    have hres:Hid ((goH ⟨⟨W,H,rows,r,cl,vs⟩,U⟩ (wdS PX)).2=0/\AllI w (w.heap.size+1) (w.heap.size+1+1) gE gO (goH ⟨⟨W,H,rows,r,cl,vs⟩,U⟩ (wdS PX)) X4):=Lh (by rw [HNX.out];exact ⟨hqE,hI4⟩);clear hqE HNX
    gi_wp2
    exact ⟨q1,q2,hres.out⟩
   ·have hEb:(qE != 0)=true:=Ln.2 hqE
    gi_upto_region 12 with fail
    obtain ⟨z0,z1,z2,z3,z4,z5,z6,y0,y1,y2,y3,y4,y5,y6⟩:=ZM.facts hI4.res;obtain ⟨x0,x1⟩:=hI4.rex.facts;obtain ⟨hX5,hk5⟩:=hI4.exit (B:=W0.heap.size) (Nat.le_succ _) (Nat.lt_succ_self _) qE;have hres:Hid (KeepsFrom W0.heap.size X ((zq X4 (w.heap.size+1) md0 none 0 0).setCell ⟨w.heap.size+1+1,0,none⟩ (.int .i64 qE)).drew/\(goH ⟨⟨W,H,rows,r,cl,vs⟩,U⟩ (wdS PX)).2≠0/\AllX w (w.heap.size+1) (w.heap.size+1+1) (goH ⟨⟨W,H,rows,r,cl,vs⟩,U⟩ (wdS PX)).2 ((zq X4 (w.heap.size+1) md0 none 0 0).setCell ⟨w.heap.size+1+1,0,none⟩ (.int .i64 qE)).drew):=Lh (by rw [HNX.out];exact ⟨(q1.trans hk5).trans ((KeepsOthers.drew _).from _),hqE,hX5.drew⟩);have hne1:w.heap.size+1≠gE:=by omega
    have hne2:w.heap.size+1≠w.heap.size+1+1:=by omega
    clear hqE HNX hX5 hk5 hI4 q1 q2;have hmx:prog.follows .mixedOrders=true:=by kernel_rfl
    gi_region_with_o (fail)
    all_goals gi_wp2
    all_goals exact ⟨hres.out.1,⟨rfl,hres.out.2.1⟩,hres.out.2.2⟩
  case done =>
   rintro D ys X hD hys ⟨h0,hI⟩ hK;rw [wdS_all hys] at h0 hI;generalize goH ⟨⟨W,H,rows,r,cl,vs⟩,U⟩ (qna ls)=M at *
   obtain ⟨A1,n1,d1,hO1,hF⟩:=hI.fin (Nat.le_succ _) (Nat.lt_succ_self _);obtain ⟨⟨⟨vW,vH,qnK,vr,vy,vv⟩,vU⟩,vE⟩:=M;obtain rfl:vE=0:=h0;obtain ⟨c0,c1,c2,c3,c4,c5,c6,-,-,-,-,-,-,-⟩:=zd hO1;dsimp only at c0 c1 c3 c4 c5 c6;obtain ⟨z0,z1,z2,z3,z4,z5,z6,y0,y1,y2,y3,y4,y5,y6⟩:=ZM.facts hI.res;obtain ⟨x0,x1⟩:=hI.rex.facts;have hne2:w.heap.size+1≠w.heap.size+1+1:=by omega
   have hK2:=Lh fun (m:Md) (A:Option Addr) (n c:Nat) (u:Value)=>keep_obj (g:=w.heap.size+1) (gX:=w.heap.size+1+1) (m:=m) (A:=A) (n:=n) (c:=c) (u:=u) hK rfl
   have hFF:=Lh hF;clear hF hI HGP HH hK
   gi_wp2
   have hK3:=hK2.out ⟨⟨vW,vH,qnK,vr,vy,vv⟩,vU⟩ A1 n1 d1 (.int .i64 0);have hT:=AllF.turn (o':=.deferred none) hFF.out hK3 rfl (Lj hB0 hD);refine ⟨by simp,.inl ⟨_,_,rfl,run_takeDeferred hK3,?_⟩⟩;exact ⟨_,qnc rfl _ _ (w.heap.size+1) (w.heap.size+1+1) 26 _ (0,0) _ (.int .i64 0) rfl hT.res underlying26 rfl yy rfl hT.rex.facts.1 underlying31,hT.mdv⟩
  case stop =>
   rintro D c pre X hD hpre ⟨⟨rfl,hE⟩,hX⟩ hK;obtain ⟨T,hT⟩:=wdS_pre hpre
   have hst:Hid (goH ⟨⟨W,H,rows,r,cl,vs⟩,U⟩ (qna ls)=(md0,(goH ⟨⟨W,H,rows,r,cl,vs⟩,U⟩ (wdS pre)).2)):=Lh (by
    rw [hT,goH_stay hE]
    exact Prod.ext ((HGP.out _).2 hE) rfl)
   rw [hst.out];generalize (goH ⟨⟨W,H,rows,r,cl,vs⟩,U⟩ (wdS pre)).2=E at *
   have hF:=AllF.turn (o':=.deferred none) hX.fin hK rfl (Lj hB0 hD)
   gi_wp2
   refine ⟨by simp,.inl ⟨_,_,rfl,run_takeDeferred hK,?_⟩⟩;exact ⟨_,qnc rfl _ _ (w.heap.size+1) (w.heap.size+1+1) 26 _ (0,0) _ (.int .i64 E) rfl hF.res underlying26 rfl yy rfl hF.rex.facts.1 underlying31,hF.mdv⟩
end Go.Proofs.YtggegijlfaipfaaGreatDoor
namespace Go.Proofs.YtggegijlfaipfaaGreatDoor
open Go.Proofs.Tryz Go.RowKit
set_option maxRecDepth 20000
section
variable {B N n c g : Nat} {X : World} {v : Vw} {A A' : Option Addr} {rs : List RowM} {m m' : Md}
theorem XV.set7 (h:XV B N X v A n c rs) (h1:B<=g) (h2:g<N) (m:Md) (A':Option Addr) (n' c':Nat):XV B N (zq X g m A' n' c') v A n c rs :=
 ((((((h.far (p:=⟨g,0,none⟩) h1 h2 _).far (p:=⟨g,1,none⟩) h1 h2 _).far (p:=⟨g,2,none⟩) h1 h2 _).far (p:=⟨g,3,none⟩) h1 h2 _).far (p:=⟨g,4,none⟩) h1 h2 _).far (p:=⟨g,5,none⟩) h1 h2 _).far (p:=⟨g,6,none⟩) h1 h2 _
end
def RlL (w:World) (B:Nat) (A0:Option Addr) (n0 c0:Nat) (rs0:List RowM) (ls:List SpkM) (R:Md × Int) (k:Nat) (X:World):Prop :=
 ∃ m A n c rs,Blk X w.heap.size 26 (mdC m A n c)/\XV B (w.heap.size+2) X m.view A n c rs/\SaR (w.heap.size+2) A0 n0 c0 rs0 X m.view A n c rs/\vu m=true/\(∀ x∈rs,x.l.length<=140/\∀ g∈x.l,g.text.size<=40)/\R=goH m (qna (ls.drop k))/\ZM X (w.heap.size+1)/\Below w.heap.size w X
theorem goH_cons (m:Md) (W:List ByteArray) (L:List (List ByteArray)):goH m (W::L)=if (yT m W).2=0 then goH (yT m W).1 L else (md0,(yT m W).2):=by
 unfold goH;rw [List.foldl_cons]
 by_cases h:(yT m W).2=0
 ·rw [if_pos h,show zL (m,0) W=((yT m W).1,0) from by unfold zL;rw [if_pos rfl,<- h]]
 ·rw [if_neg h,show zL (m,0) W=(md0,(yT m W).2) from by unfold zL;rw [if_pos rfl];exact qnk m W h]
  induction L with
  | nil=>rfl
  | cons a t ih=>rw [List.foldl_cons,show zL (md0,(yT m W).2) a=(md0,(yT m W).2) from by unfold zL;rw [if_neg h]];exact ih
theorem qnu {ls:List SpkM} {k:Nat} (h:k<ls.length):qna (ls.drop k)=if ls[k].com=true then ls[k].ws::qna (ls.drop (k+1)) else qna (ls.drop (k+1)):=by
 rw [Ls h];unfold qna;rw [List.filter_cons]
 split <;> simp
theorem rall42_ (m:Md) (A:Option Addr) (n c B:Nat) (rs:List RowM) (ls:List SpkM) (As:Option Addr) (ns cs:Nat) (w:World) (rd:RdV w B m.view A n c rs) (hB:B<=w.heap.size) (hsm : ∀ x∈rs,x.l.length<=140/\∀ g∈x.l,g.text.size<=40)
  (rS:RdS w w.heap.size As ns ls) (hns:ns<=1000) (hcs:ns<=cs) (hW : ∀ x∈ls,x.ws.length<=300/\∀ s∈x.ws,s.size<=200) (ht:Tb w) :
  Calls prog 8 #[.agg (mdC m A n c),.slice As ns cs] w (RhR B A n c rs (allV m (qna ls)) w):=by
 have HP:Hid (∀ w',Below w.heap.size w w'->Calls prog 20 #[.agg (mdC m A n c)] w' (qh (.bool (vu m)) w')):=Lh fun w' hb=>qbM m A n c w.heap.size rs w' ((rd.more hB).below hb) hb.size (fun x hx=>⟨Lj (hsm x hx).1 L2,fun g hg=>Lj ((hsm x hx).2 g hg) L2⟩)
 have hI:Hid (vu m=true->∀ X,HrX w m A n c X->RlL w B A n c rs ls (goH m (qna ls)) 0 X):=Lh fun hp X hX=>⟨m,A,n,c,rs,hX.1,.inl (rd.below (hX.2.2.mono hB)),.inl ⟨rfl,rfl,rfl,rfl⟩,hp,hsm,rfl,hX.2.1,hX.2.2⟩
 unfold allV;have HS:=Lh rS;have HWs:=Lh hW;have HT:=Lh ht;have hnl:ls.length=ns:=rS.len;clear rd rS hW ht hsm;obtain ⟨⟨W,H,rows,r,cl,vs⟩,U⟩:=m;generalize goH ⟨⟨W,H,rows,r,cl,vs⟩,U⟩ (qna ls)=R at *
 generalize vu ⟨⟨W,H,rows,r,cl,vs⟩,U⟩=P at *
 cases P with
 | false =>
  rw [if_pos rfl];clear hI HS HWs HT
  go_enter func8,ntmps8
  go_upto_region 1 with fail
  refine qa (HrX w ⟨⟨W,H,rows,r,cl,vs⟩,U⟩ A n c) ⟨(Blk.new_ rfl).below L5 L1,Blk.new_ L1,(L5).alloc L1 _⟩ ?_;intro X hX;obtain ⟨c0,c1,c2,c3,c4,c5,c6,hl,hb⟩:=hX.facts
  go_upto_region 2 with (go_at_call 20;refine (HP.out _ hb).mono ?_;rintro e w1 ⟨rfl,hb1⟩;have hX1:=hX.on hb1;have qnS:=hX1.2.2)
  have hZ:=hX1.2.1;obtain ⟨z0,z1,z2,z3,z4,z5,z6,y0,y1,y2,y3,y4,y5,y6⟩:=ZM.facts hZ;go_wp2;exact bodyPost_ret (vG rfl _ _ (w.heap.size+1) 26 _ (0,0) _ rfl (ZM.set7 hZ md0 none 0 0) underlying26 rfl yy) rfl ⟨yX hX1.2.2 (Nat.le_succ _) md0 none 0 0,none,0,0,[],rfl,.inr (OwV.none_ _ _),.inr (OwV.none_ _ _)⟩
 | true =>
  rw [if_neg L1];have hI2:=Lh (hI.out rfl);clear hI
  go_enter func8,ntmps8
  go_upto_region 1 with fail
  refine qa (HrX w ⟨⟨W,H,rows,r,cl,vs⟩,U⟩ A n c) ⟨(Blk.new_ rfl).below L5 L1,Blk.new_ L1,(L5).alloc L1 _⟩ ?_;intro X hX;obtain ⟨c0,c1,c2,c3,c4,c5,c6,hl,hb⟩:=hX.facts
  go_upto_region 3 with (go_at_call 20;refine (HP.out _ hb).mono ?_;rintro e w1 ⟨rfl,hb1⟩;have hX1:=hX.on hb1;have qnS:=hX1.2.2)
  have hI0:=hI2.out _ hX1;clear hI2 hX1 hX hb1 qnS c0 c1 c2 c3 c4 c5 c6 hl hb HP;go_wp2
  go_loopw [6] (fun x wr=>∃ k:Nat,k<=ns/\x = .int .i64 k/\RlL w B A n c rs ls R k wr) (fun x _=>ns-(intOf x).toNat)
  case atStart=>exact ⟨0,Nat.zero_le _,rfl,hI0⟩
  case round =>
   clear hI0;obtain ⟨k,hk,rfl,m1,A1,n1,c1,rs1,hM,hx,hsa,hp,hs,hRe,hZ,hb⟩:=hrel;have hzl:=hZ.lt;have hBz:B<=wr.heap.size:=Lj hB hb.size
   by_cases hlt:k<ns
   ·have hkl:k<ls.length:=by omega
    obtain ⟨b,o,rfl,hbl,k0,k1,k2,k3,k4,k5,k6,k7⟩:=((HS.out.below hb).more hb.size).at_ hkl;have hki:(k:Int)<ns:=by omega
    have hkc:(k:Int)<cs:=by omega
    rw [qnu hkl] at hRe
    cases hcm:ls[k].com with
    | false =>
     rw [hcm] at k7;rw [hcm,if_neg L2] at hRe;have hN:RlL w B A n c rs ls R (k+1) wr:=⟨m1,A1,n1,c1,rs1,hM,hx,hsa,hp,hs,hRe,hZ,hb⟩
     clear hRe hx hsa hM hZ hs hp k0 k1 k2 k3 k4 k5 k6;go_wp2;exact ⟨⟨k+1,by omega,by go_num,hN⟩,by simp [intOf];omega⟩
    | true =>
     rw [hcm] at k7;rw [hcm,if_pos rfl,goH_cons] at hRe;have hxm:=Lt hkl;have hw:=HWs.out _ hxm;have HH:Hid (∀ X,Below wr.heap.size wr X->Calls prog 21 #[.agg (mdC m1 A1 n1 c1),.slice ls[k].A ls[k].ws.length ls[k].cap] X fun e X'=>∃ A3 n3 c3 rs3,e = .returned (.tuple #[.agg (mdC (yT m1 ls[k].ws).1 A3 n3 c3),.int .i64 (yT m1 ls[k].ws).2])/\XV B (w.heap.size+2) X' (yT m1 ls[k].ws).1.view A3 n3 c3 rs3/\SaR (w.heap.size+2) A n c rs X' (yT m1 ls[k].ws).1.view A3 n3 c3 rs3/\(∀ g M A' n' c',wr.heap.size<=g->g<X.heap.size->XV B (w.heap.size+2) (zq X' g M A' n' c') (yT m1 ls[k].ws).1.view A3 n3 c3 rs3/\SaR (w.heap.size+2) A n c rs (zq X' g M A' n' c') (yT m1 ls[k].ws).1.view A3 n3 c3 rs3)/\Below X.heap.size X X'/\Below wr.heap.size wr X'):=Lh fun X hX=>by
      have hbX:=hb.trans (hX.mono hb.size);have hg:=HS.out.gl _ hxm;refine (rhear42_ m1 A1 n1 c1 wr.heap.size rs1 ls[k].ws ls[k].A ls[k].ws.length ls[k].cap X ((hx.rdV hBz).below hX) hX.size (fun y hy=>Lj (hs y hy).1 L2) (fun y hy g hg=>Lj ((hs y hy).2 g hg) L2) ⟨rfl,hg.2.1,hg.2.2.1,(hg.1.below hbX).more hbX.size,fun s hs=>Lj (hw.2 s hs) L2⟩ L0 (qhS L0) (HT.out.below hbX)).mono ?_;rintro e X' ⟨h1,A3,n3,c3,rs3,h2,h3,h4⟩;have hXX:Below wr.heap.size wr X':=hX.trans (h1.mono hX.size);have hsz:=hX.size;have key : ∀ Y,Below wr.heap.size wr Y->(∀ {N},w.heap.size+2<=N->N=X.heap.size->OwV N X' (yT m1 ls[k].ws).1.view A3 n3 c3 rs3->OwV N Y (yT m1 ls[k].ws).1.view A3 n3 c3 rs3)->XV B (w.heap.size+2) Y (yT m1 ls[k].ws).1.view A3 n3 c3 rs3/\SaR (w.heap.size+2) A n c rs Y (yT m1 ls[k].ws).1.view A3 n3 c3 rs3:=fun Y hY hO=>by
       rcases h4 with ⟨rfl,rfl,rfl,rfl⟩ | h4
       ·rcases h3 with h3 | h3
        ·have e:=h3.2.1.trans hx.eq.symm;exact ⟨(hx.below hBz hY).rows e,(hsa.below hY).rows2 e⟩
        ·have e:=h3.eq.trans hx.eq.symm;exact ⟨(hx.below hBz hY).rows e,(hsa.below hY).rows2 e⟩
       ·have h7:=(hO L0 rfl h4).less (N':=w.heap.size+2) L0;exact ⟨.inr h7,.inr h7⟩
      have h56:=key X' hXX fun _ _ h=>h
      have h7 : ∀ g M A' n' c',wr.heap.size<=g->g<X.heap.size->XV B (w.heap.size+2) (zq X' g M A' n' c') (yT m1 ls[k].ws).1.view A3 n3 c3 rs3/\SaR (w.heap.size+2) A n c rs (zq X' g M A' n' c') (yT m1 ls[k].ws).1.view A3 n3 c3 rs3:=fun g M A' n' c' hg hgX=>key _ (yX hXX hg _ _ _ _) fun _ hN h=>qiB h L0
      exact ⟨A3,n3,c3,rs3,h2,h56.1,h56.2,h7,h1,hXX⟩
     have hnx:Hid ((yT m1 ls[k].ws).2=0->∀ X A3 n3 c3 rs3,Below wr.heap.size wr X->XV B (w.heap.size+2) X (yT m1 ls[k].ws).1.view A3 n3 c3 rs3->SaR (w.heap.size+2) A n c rs X (yT m1 ls[k].ws).1.view A3 n3 c3 rs3->RlL w B A n c rs ls R (k+1) (zq X w.heap.size (yT m1 ls[k].ws).1 A3 n3 c3)):=Lh fun h0 X A3 n3 c3 rs3 hX h1 h2=>by
      have hpp:=qcL h0;have hps:=qfj hpp (h1.rdV (Lj hBz hX.size));rw [if_pos h0] at hRe;exact ⟨(yT m1 ls[k].ws).1,A3,n3,c3,rs3,qnf (hM.below hX hM.lt) _ _ _ _,h1.set7 hB L0 _ _ _ _,h2.imp id fun h=>qiB h L0,hpp,fun x hx=>⟨Lj (hps x hx).1 L2,fun g hg=>Lj ((hps x hx).2 g hg) L2⟩,hRe,qdt (hZ.below hX hzl) L0 _ _ _ _,yX (hb.trans (hX.mono hb.size)) (Ld _) _ _ _ _⟩
     have hRn:Hid ((yT m1 ls[k].ws).2≠0->R=(md0,(yT m1 ls[k].ws).2)):=Lh fun h0=>by rw [hRe,if_neg h0]
     have hMh:=Lh hM;have hZh:=Lh hZ;have hbh:=Lh hb;have hMl:=hM.lt;clear hRe hx hsa hM hZ hs hp hxm hw HWs HS hcm k1 k2 k3 k4 k5 k6;generalize yT m1 ls[k].ws=Q at *
     generalize ls[k].A=Ak at *
     generalize ls[k].ws.length=nk at *
     generalize ls[k].cap=ck at *
     obtain ⟨⟨⟨qW,qH,qnI,qr,qc,qv⟩,qU⟩,E⟩:=Q;obtain ⟨⟨mW,mH,qnL,mr,mc,mv⟩,mU⟩:=m1;obtain ⟨s_0,s_1,s_2,s_3,s_4,s_5,s_6,-,-,-,-,-,-,-⟩:=zd hMh.out;dsimp only at s_0 s_1 s_3 s_4 s_5 s_6;have HH2:Hid (∀ X,Below wr.heap.size wr X->Calls prog 21 #[.agg #[.int .i64 mW,.int .i64 mH,.slice A1 n1 c1,.int .i64 mr,.int .i64 mc,.bool mv,.int .i64 mU],.slice Ak nk ck] X fun e X'=>∃ A3 n3 c3 rs3,e = .returned (.tuple #[.agg #[.int .i64 qW,.int .i64 qH,.slice A3 n3 c3,.int .i64 qr,.int .i64 qc,.bool qv,.int .i64 qU],.int .i64 E])/\XV B (w.heap.size+2) X' ⟨qW,qH,qnI,qr,qc,qv⟩ A3 n3 c3 rs3/\SaR (w.heap.size+2) A n c rs X' ⟨qW,qH,qnI,qr,qc,qv⟩ A3 n3 c3 rs3/\(∀ g M A' n' c',wr.heap.size<=g->g<X.heap.size->XV B (w.heap.size+2) (zq X' g M A' n' c') ⟨qW,qH,qnI,qr,qc,qv⟩ A3 n3 c3 rs3/\SaR (w.heap.size+2) A n c rs (zq X' g M A' n' c') ⟨qW,qH,qnI,qr,qc,qv⟩ A3 n3 c3 rs3)/\Below X.heap.size X X'/\Below wr.heap.size wr X'):=HH;have HZ5:Hid (∀ (Y w5:World),Y.heap.size=wr.heap.size->Below (Y.alloc (.cells #[.int .i64 0,.int .i64 0,.slice none 0 0,.int .i64 0,.int .i64 0,.bool false,.int .i64 0] 26)).heap.size (Y.alloc (.cells #[.int .i64 0,.int .i64 0,.slice none 0 0,.int .i64 0,.int .i64 0,.bool false,.int .i64 0] 26)) w5->ZM w5 wr.heap.size):=Lh fun Y w5 h hb=>Blk.below (Blk.new_ h) hb (by rw [Li];omega)
     clear HH
     go_upto_region 7 with fail
     go_cut [7,8] (fun v7 v8 wx=>∃ g A3 n3 c3 rs3,v7 = .pointer (some ⟨g,0,none⟩)/\v8 = .int .i64 E/\Blk wx g 26 (mdC ⟨⟨qW,qH,qnI,qr,qc,qv⟩,qU⟩ A3 n3 c3)/\wr.heap.size<=g/\XV B (w.heap.size+2) wx ⟨qW,qH,qnI,qr,qc,qv⟩ A3 n3 c3 rs3/\SaR (w.heap.size+2) A n c rs wx ⟨qW,qH,qnI,qr,qc,qv⟩ A3 n3 c3 rs3/\Below wr.heap.size wr wx)
     case first =>
      go_region_law (go_simp;go_at_call 21;refine (HH2.out _ ql8).mono ?_;rintro e w5 ⟨A5,n5,d5,rs5,rfl,hx5,hs5,h75,hb5,hbw5⟩;(first | (have hzm:=HZ5.out wr _ rfl (jI hb5);obtain ⟨z0,z1,z2,z3,z4,z5,z6,y0,y1,y2,y3,y4,y5,y6⟩:=ZM.facts hzm) | skip))
      all_goals go_wp2
      all_goals go_meet
      all_goals first
       | (have hq:=hzm;clear hq)
       | exact ⟨w5.heap.size,A5,n5,d5,rs5,rfl,rfl,Blk.new_ rfl,hbw5.size,hx5.below (Lj hBz hbw5.size) L5,hs5.below L5,hbw5.alloc hbw5.size _⟩
      all_goals have h1:=h75 wr.heap.size ⟨⟨qW,qH,qnI,qr,qc,qv⟩,qU⟩ A5 n5 d5 (Ld _) (by show wr.heap.size<(World.alloc _ _).heap.size;rw [Li];omega)
      all_goals have h3:=yX hbw5 (Ld _) ⟨⟨qW,qH,qnI,qr,qc,qv⟩,qU⟩ A5 n5 d5
      all_goals exact ⟨wr.heap.size,A5,n5,d5,rs5,rfl,rfl,set7_ hzm _ _ _ _ _ _ _,Ld _,h1.1,h1.2,h3⟩
     case rest =>
      obtain ⟨g,A3,n3,c3,rs3,rfl,rfl,hG,hgl,hx3,hs3,hb3⟩:=hcut;generalize hXw:wc=X at *
      clear hXw HH2 k0 k7 s_0 s_1 s_2 s_3 s_4 s_5 s_6;have hM3:=hMh.out.below hb3 hMl;have hZ3:=hZh.out.below hb3 hzl;obtain ⟨g_0,g_1,g_2,g_3,g_4,g_5,g_6,-,-,-,-,-,-,-⟩:=zd hG;dsimp only at g_0 g_1 g_3 g_4 g_5 g_6
      by_cases hE:E=0
      ·subst hE;have h00:((0:Int) != 0)=false:=rfl;have hN:=hnx.out rfl X A3 n3 c3 rs3 hb3 hx3 hs3;obtain ⟨-,-,-,-,-,-,-,y0,y1,y2,y3,y4,y5,y6⟩:=zd hM3;obtain ⟨t_0,t_1,t_2,t_3,t_4,t_5,t_6,-,-,-,-,-,-,-⟩:=zd hM3;dsimp only at t_0 t_1 t_3 t_4 t_5 t_6;clear hnx hRn hx3 hs3;go_wp2;exact ⟨⟨k+1,by omega,by go_num,hN⟩,by simp [intOf];omega⟩
      ·have hEn:(E != 0)=true:=Ln.2 hE;have hRz:=Lh (hRn.out hE);have hb4:=hbh.out.trans (hb3.mono hb.size);obtain ⟨z0,z1,z2,z3,z4,z5,z6,y0,y1,y2,y3,y4,y5,y6⟩:=ZM.facts hZ3;clear hnx hRn hx3 hs3 hE;go_wp2;exact bodyPost_ret (vG rfl _ _ (w.heap.size+1) 26 _ (0,0) _ rfl (ZM.set7 hZ3 md0 none 0 0) underlying26 rfl yy) rfl (by rw [hRz.out];exact ⟨yX hb4 (Nat.le_succ _) md0 none 0 0,none,0,0,[],rfl,.inr (OwV.none_ _ _),.inr (OwV.none_ _ _)⟩)
   ·obtain rfl:ns=k:=by omega
    have hRz:R=(m1,0):=by rw [hRe,Lv L0];rfl
    replace hRz:=Lh hRz;obtain ⟨⟨mW,mH,qnL,mr,mc,mv⟩,mU⟩:=m1;obtain ⟨s_0,s_1,s_2,s_3,s_4,s_5,s_6,-,-,-,-,-,-,-⟩:=zd hM;dsimp only at s_0 s_1 s_3 s_4 s_5 s_6;obtain ⟨z0,z1,z2,z3,z4,z5,z6,y0,y1,y2,y3,y4,y5,y6⟩:=ZM.facts hZ;have hxo:=hx.set7 (g:=w.heap.size+1) L0 L0 ⟨⟨mW,mH,qnL,mr,mc,mv⟩,mU⟩ A1 n1 c1;have hso:SaR (w.heap.size+2) A n c rs (zq wr (w.heap.size+1) ⟨⟨mW,mH,qnL,mr,mc,mv⟩,mU⟩ A1 n1 c1) ⟨mW,mH,qnL,mr,mc,mv⟩ A1 n1 c1 rs1:=hsa.imp id fun h=>qiB h L0
    have hb7:=yX hb (Nat.le_succ _) ⟨⟨mW,mH,qnL,mr,mc,mv⟩,mU⟩ A1 n1 c1;clear hx hsa hRe;go_wp2;exact bodyPost_ret (vG rfl _ _ (w.heap.size+1) 26 _ (0,0) _ rfl (ZM.set7 hZ ⟨⟨mW,mH,qnL,mr,mc,mv⟩,mU⟩ A1 n1 c1) underlying26 rfl yy) rfl (by rw [hRz.out];exact ⟨hb7,A1,n1,c1,rs1,rfl,hxo.less L0,hso.less L0⟩)
def V2 (w:World) (v:Vw) (A A':Option Addr) (n c c':Nat) (X:World):Prop:=Blk X w.heap.size 24 (vwC v A n c)/\Blk X (w.heap.size+1) 24 (vwC v A' n c')/\Below w.heap.size w X
theorem V2.on {w X X':World} {v:Vw} {A A':Option Addr} {n c c':Nat} (h:V2 w v A A' n c c' X) (hb:Below X.heap.size X X'):V2 w v A A' n c c' X' :=
 ⟨h.1.below hb h.1.lt,h.2.1.below hb h.2.1.lt,h.2.2.trans (hb.mono (Lr h.1.lt))⟩
theorem rsame15_ (v:Vw) (A A':Option Addr) (n c c' B:Nat) (rs rs':List RowM) (w:World) (rd:RdV w B v A n c rs) (rd':RdV w B v A' n c' rs') (hB:B<=w.heap.size) (hm : ∀ x∈rs,x.l.length<=1000000000) :
  Calls prog 24 #[.agg (vwC v A n c),.agg (vwC v A' n c')] w (qh (.bool true) w):=by
 have hn:rs.length=n:=rd.1.len;have hn':rs'.length=n:=rd'.1.len;have hnm:n<=9223372036854775807:=by have h1:=rd.2.2.1;have h2:=rd.2.2.2;unfold maxLen at h2;omega
 have hl : ∀ k (h:k<rs.length) (h':k<rs'.length),rs[k].l=rs'[k].l:=fun k h h'=>by
  have e:rls rs=rls rs':=rd.2.1.symm.trans rd'.2.1;have e1:(rls rs)[k]? = (rls rs')[k]?:=by rw [e]
  unfold rls at e1;rw [List.getElem?_map,List.getElem?_map,List.getElem?_eq_getElem h,List.getElem?_eq_getElem h'] at e1;exact Option.some.inj e1
 have HC:Hid (∀ k,k<n->∀ X,Below w.heap.size w X->∃ b o b' o' B1 B2 m d d',A=some ⟨b,o,none⟩/\A'=some ⟨b',o',none⟩/\X.cell? ⟨b,o+k,none⟩=some (.slice B1 m d)/\X.cell? ⟨b',o'+k,none⟩=some (.slice B2 m d')/\∀ Y,Below w.heap.size w Y->Calls prog 39 #[.slice B1 m d,.slice B2 m d'] Y (qh (.bool true) Y)):=Lh fun k hk X hX=>by
  have h1:k<rs.length:=by omega
  have h2:k<rs'.length:=by omega
  obtain ⟨b,o,e1,-,e2⟩:=((rd.1.more hB).below hX).at_ h1;obtain ⟨b',o',e3,-,e4⟩:=((rd'.1.more hB).below hX).at_ h2;refine ⟨b,o,b',o',rs[k].A,rs'[k].A,rs[k].l.length,rs[k].cap,rs'[k].cap,e1,e3,e2,by rw [hl k h1 h2];exact e4,fun Y hY=>?_⟩;have r1:=((rd.1.gl _ (Lt h1)).1.more hB).below hY;have r2:=((rd'.1.gl _ (Lt h2)).1.more hB).below hY;rw [<- hl k h1 h2] at r2;have:=rsamerow rs[k].l rs[k].l rs[k].A rs'[k].A _ _ rs[k].cap rs'[k].cap w.heap.size Y (hm _ (Lt h1)) r1 r2;rw [Ll rfl] at this;exact this.mono fun _ _ h=>h.gives
 clear rd rd' hl hn hn' hm;obtain ⟨W,H,rows,r,cl,vs⟩:=v;have hvs:(vs != vs)=false:=by cases vs <;> rfl
 have e1:(W != W)=false:=bne_self_eq_false W;have e2:(H != H)=false:=bne_self_eq_false H;have e3:(r != r)=false:=bne_self_eq_false r;have e4:(cl != cl)=false:=bne_self_eq_false cl;have e5:((n:Int) != n)=false:=bne_self_eq_false _
 go_enter func24,ntmps24
 go_upto_region 1 with fail
 refine qa (V2 w ⟨W,H,rows,r,cl,vs⟩ A A' n c c') ⟨(Blk.new_ rfl).below L5 L1,Blk.new_ L1,(L5).alloc L1 _⟩ ?_;intro X hX;obtain ⟨c0,c1,c2,c3,c4,c5⟩:=qw hX.1;obtain ⟨d0,d1,d2,d3,d4,d5⟩:=qw hX.2.1;dsimp only at c0 c1 c3 c4 c5 d0 d1 d3 d4 d5;go_wp2;clear c0 c1 c2 c3 c4 c5 d0 d1 d2 d3 d4 d5
 go_loopw [5] (fun x wr=>∃ k:Nat,k<=n/\x = .int .i64 k/\V2 w ⟨W,H,rows,r,cl,vs⟩ A A' n c c' wr) (fun x _=>n-(intOf x).toNat)
 case atStart=>exact ⟨0,Nat.zero_le _,rfl,hX⟩
 case round =>
  clear hX;obtain ⟨k,hk,rfl,hX⟩:=hrel;obtain ⟨c0,c1,c2,c3,c4,c5⟩:=qw hX.1;obtain ⟨d0,d1,d2,d3,d4,d5⟩:=qw hX.2.1;have hb:=hX.2.2;have hlX:=hX.2.1.lt
  by_cases hlt:k<n
  ·obtain ⟨b,o,b',o',B1,B2,m,g,g',rfl,rfl,k1,k2,hS⟩:=HC.out k hlt _ hb;have hS':=Lh hS;have hki:(k:Int)<n:=by omega
   clear hS c0 c1 c3 c4 c5 d0 d1 d3 d4 d5
   go_upto_region 6 with fail
   go_region_law (go_simp;go_at_call 39;refine (hS'.out _ (by first | exact hb | exact hb.drew)).mono ?_;rintro e w2 ⟨rfl,b2⟩)
   all_goals go_wp2
   all_goals exact ⟨⟨k+1,by omega,by go_num,hX.on (jI (B:=wr.heap.size) b2)⟩,by simp [intOf];omega⟩
  ·obtain rfl:k=n:=by omega
   clear c0 c1 c3 c4 c5 d0 d1 d3 d4 d5;go_wp2;go_ret;exact ⟨rfl,hb⟩
theorem qnl (m:Md) (A A':Option Addr) (n c c' B:Nat) (rs rs':List RowM) (w:World) (rd:RdV w B m.view A n c rs) (rd':RdV w B m.view A' n c' rs') (hB:B<=w.heap.size) (hm : ∀ x∈rs,x.l.length<=1000000000) :
  Calls prog 11 #[.agg (mdC m A n c),.agg (mdC m A' n c')] w (qh (.bool true) w):=by
 have HS:Hid (∀ X,Below w.heap.size w X->Calls prog 24 #[.agg (vwC m.view A n c),.agg (vwC m.view A' n c')] X (qh (.bool true) X)):=Lh fun X hX=>rsame15_ m.view A A' n c c' w.heap.size rs rs' X ((rd.more hB).below hX) ((rd'.more hB).below hX) hX.size hm
 clear rd rd' hm;obtain ⟨⟨W,H,rows,r,cl,vs⟩,U⟩:=m;dsimp only at HS;have e1:(U==U)=true:=Lw U
 go_enter func11,ntmps11
 go_upto_region 1 with fail
 refine qa (fun X=>Blk X w.heap.size 26 (mdC ⟨⟨W,H,rows,r,cl,vs⟩,U⟩ A n c)/\Blk X (w.heap.size+1) 26 (mdC ⟨⟨W,H,rows,r,cl,vs⟩,U⟩ A' n c')/\Below w.heap.size w X) ⟨(Blk.new_ rfl).below L5 L1,Blk.new_ L1,(L5).alloc L1 _⟩ ?_;rintro X ⟨h1,h2,hb⟩;obtain ⟨c0,c1,c2,c3,c4,c5,c6,-,-,-,-,-,-,-⟩:=zd h1;obtain ⟨d0,d1,d2,d3,d4,d5,d6,-,-,-,-,-,-,-⟩:=zd h2;dsimp only at c0 c1 c3 c4 c5 c6 d0 d1 d3 d4 d5 d6
 go_wp2_with (go_at_call 24;refine (HS.out _ hb).mono ?_;rintro e w1 ⟨rfl,hb1⟩)
 go_ret;exact ⟨rfl,hb.trans (hb1.mono hb.size)⟩
def qne (l:List SpkM):Bool:=decide (8<l.length) || l.any fun x=>!qcx 300 200 x.ws
theorem great42_ (l:List SpkM) (A:Option Addr) (n c B:Nat) (w:World) (hm:n<=maxLen) (rd:RdS w B A n l) :
  Calls prog 5 #[.slice A n c] w fun e w'=>e = .returned (.bool (qne l))/\w'=w:=by
 have HN:=Lh rd.len;have hmm:n<=9223372036854775807:=by unfold maxLen at hm;omega
 have HG:Hid (∀ x∈l,Calls prog 13 #[.slice x.A x.ws.length x.cap] w fun e w'=>e = .returned (.bool (!qcx 300 200 x.ws))/\w'=w):=Lh fun x hx =>
  rlong42_ _ _ _ _ B w (Lj (rd.gl x hx).2.1 (rd.gl x hx).2.2.1) (rd.gl x hx).1
 unfold qne;rw [HN.out];clear hm
 by_cases h0:8<n
 ·rw [Ll h0,Bool.true_or];have hi:(8:Int)<(n:Int):=by omega
  go_enter func5,ntmps5
  go_wp2;go_ret;exact ⟨rfl,rfl⟩
 ·rw [Lk h0,Bool.false_or];have hi:(n:Int)<=8:=by omega
  have H0:Hid ((l.any fun x=>!qcx 300 200 x.ws)=((l.drop 0).any fun x=>!qcx 300 200 x.ws)):=Lh rfl;generalize (l.any fun x=>!qcx 300 200 x.ws)=R at *
  clear h0
  go_enter func5,ntmps5
  go_wp2
  go_loop [9] (fun x=>∃ k:Nat,k<=n/\x = .int .i64 k/\Hid (R=((l.drop k).any fun x=>!qcx 300 200 x.ws))) (fun x=>n-(intOf x).toNat)
  case atStart=>exact ⟨0,Nat.zero_le _,rfl,H0⟩
  case round =>
   obtain ⟨k,hk,rfl,HK⟩:=hrel
   by_cases hlt:k<n
   ·have hkl:k<l.length:=by have:=HN.out;omega
    obtain ⟨b,o,rfl,_,c0,-,-,-,-,-,-,-⟩:=rd.at_ hkl;have HD:=Lh (qb4 (fun x:SpkM=>!qcx 300 200 x.ws) hkl);have HGk:=Lh (HG.out _ (Lt hkl));generalize l[k]=g at *
    obtain ⟨com,ws,xA,xcap,cA,cn,cc,cl,af,up,be,en⟩:=g;dsimp only at *
    generalize ws.length=nw at *
    generalize (!qcx 300 200 ws)=gg at *
    cases gg with
    | true =>
     have HR2:Hid (R=true):=Lh (by rw [HK.out,HD.out];rfl);clear HK HD HG
     go_wp2_with (go_at_call 13;refine HGk.out.mono ?_;rintro e w1 ⟨rfl,rfl⟩)
     go_ret;exact ⟨by rw [HR2.out];rfl,rfl⟩
    | false =>
     have HR2:Hid (R=((l.drop (k+1)).any fun x=>!qcx 300 200 x.ws)):=Lh (by rw [HK.out,HD.out];rfl);clear HK HD HG
     go_wp2_with (go_at_call 13;refine HGk.out.mono ?_;rintro e w1 ⟨rfl,rfl⟩)
     exact ⟨⟨k+1,by omega,by go_num,HR2⟩,by simp [intOf];omega⟩
   ·have HR2:Hid (R=false):=Lh (by rw [HK.out,Lv (by have:=HN.out;omega)];rfl);go_wp2;go_ret;exact ⟨by rw [HR2.out];rfl,rfl⟩
theorem qnj {l:List SpkM} (h:qne l=false):l.length<=8/\∀ x∈l,x.ws.length<=300/\∀ s∈x.ws,s.size<=200:=by
 unfold qne at h;rw [Bool.or_eq_false_iff] at h;refine ⟨by have:=of_decide_eq_false h.1;omega,fun x hx=>?_⟩;have h2:=List.any_eq_false.1 h.2 x hx;exact qhm (by simpa using h2)
end Go.Proofs.YtggegijlfaipfaaGreatDoor
