/- Joined: Ur4, Lvg, Lvh, Lvi. -/
import Derived.Test.YtbogmeeijdaijaaGreatDoorZAM
set_option linter.unusedVariables false
set_option linter.unusedSimpArgs false
set_option linter.unnecessarySimpa false
set_option maxHeartbeats 4000000
namespace Go.Proofs.YtbogmeeijdaijaaGreatDoor
open Go.Proofs.Tryz Go.RowKit
set_option maxRecDepth 20000
def Chg.put (c:Chg) (i:Nat) (N:Int):Chg:=match i with
 | 0=>{c with kind:=N}
 | 1=>{c with row:=N}
 | 2=>{c with col:=N}
 | 3=>{c with count:=N}
 | _=>{c with til:=N}
def yG (c:Chg) (A:Option Addr) (cap:Nat):Array Value:=#[.int .i64 c.kind,.int .i64 c.row,.int .i64 c.col,.int .i64 c.count,.int .i64 c.til,.slice A c.glyphs.length cap]
theorem qls (c:Chg) (A:Option Addr) (cap i:Nat) (N:Int) (h:i<5):(yG c A cap).setIfInBounds i (.int .i64 N)=yG (c.put i N) A cap:=by
 match i,h with
 | 0,_=>rfl
 | 1,_=>rfl
 | 2,_=>rfl
 | 3,_=>rfl
 | 4,_=>rfl
theorem qhL (c:Chg) (i:Nat) (N:Int):(c.put i N).glyphs=c.glyphs:=by
 match i with
 | 0=>rfl
 | 1=>rfl
 | 2=>rfl
 | 3=>rfl
 | _+4=>rfl
def CS (w:World) (B:Nat) (r:Option (List ByteArray)) (c:Chg) (Ag:Option Addr) (cap:Nat) (X:World):Prop :=
 ∃ A n cc l bad,r=y7 bad l/\WdR X B l A n cc/\Blk X w.heap.size 72 #[.slice A n cc,.bool bad]/\Blk X (w.heap.size+1) 57 (yG ⟨0,0,0,0,0,[]⟩ none 0)/\Blk X (w.heap.size+2) 72 #[.slice none 0 0,.bool false]/\Blk X (w.heap.size+3) 57 (yG c Ag cap)/\Below w.heap.size w X/\X.ownsRow (w.heap.size+4) 64 3 (.slice Ag c.glyphs.length cap) c.glyphs.length (qi c.glyphs)
theorem vN {X:World} {g:Nat} {t:TypeId} {a b:Value} (h:Blk X g t #[a,b]):X.cell? ⟨g,0,none⟩=some a/\X.cell? ⟨g,1,none⟩=some b/\X.frozen? ⟨g,0,none⟩=false/\X.frozen? ⟨g,1,none⟩=false:=⟨h.cell 0,h.cell 1,h.frozen 0,h.frozen 1⟩
theorem qV {X:World} {g:Nat} {t:TypeId} {c:Chg} {A:Option Addr} {cap:Nat} (h:Blk X g t (yG c A cap)):X.cell? ⟨g,0,none⟩=some (.int .i64 c.kind)/\X.cell? ⟨g,1,none⟩=some (.int .i64 c.row)/\X.cell? ⟨g,2,none⟩=some (.int .i64 c.col)/\X.cell? ⟨g,3,none⟩=some (.int .i64 c.count)/\X.cell? ⟨g,4,none⟩=some (.int .i64 c.til)/\X.cell? ⟨g,5,none⟩=some (.slice A c.glyphs.length cap)/\X.frozen? ⟨g,0,none⟩=false/\X.frozen? ⟨g,1,none⟩=false/\X.frozen? ⟨g,2,none⟩=false/\X.frozen? ⟨g,3,none⟩=false/\X.frozen? ⟨g,4,none⟩=false/\X.frozen? ⟨g,5,none⟩=false :=
 ⟨h.cell 0,h.cell 1,h.cell 2,h.cell 3,h.cell 4,h.cell 5,h.frozen 0,h.frozen 1,h.frozen 2,h.frozen 3,h.frozen 4,h.frozen 5⟩
theorem CS.size {w X:World} {B:Nat} {r:Option (List ByteArray)} {c:Chg} {Ag:Option Addr} {cap:Nat} (h:CS w B r c Ag cap X):w.heap.size+4<=X.heap.size:=by
 obtain ⟨A,n,cc,l,bad,h1,h2,h3,h4,h5,h6,h7,h8⟩:=h;have:=h6.lt
 omega
theorem CS.below {w X Y:World} {B:Nat} {r:Option (List ByteArray)} {c:Chg} {Ag:Option Addr} {cap:Nat} (h:CS w B r c Ag cap X) (hB:B<=w.heap.size) (hb:Below X.heap.size X Y):CS w B r c Ag cap Y:=by
 have hz:=h.size;obtain ⟨A,n,cc,l,bad,h1,h2,h3,h4,h5,h6,h7,h8⟩:=h;exact ⟨A,n,cc,l,bad,h1,h2.below (hb.mono L0),h3.below hb h3.lt,h4.below hb h4.lt,h5.below hb h5.lt,h6.below hb h6.lt,h7.trans (hb.mono L0),qb h8 hb⟩
theorem CS.drew {w X:World} {B:Nat} {r:Option (List ByteArray)} {c:Chg} {Ag:Option Addr} {cap:Nat} (h:CS w B r c Ag cap X) (hB:B<=w.heap.size):CS w B r c Ag cap X.drew:=h.below hB (Le _ _).drew
theorem CS.set_ {w X:World} {B:Nat} {r:Option (List ByteArray)} {c:Chg} {Ag:Option Addr} {cap:Nat} (h:CS w B r c Ag cap X) (hB:B<=w.heap.size) (i:Nat) (N:Int) (hi:i<5):CS w B r (c.put i N) Ag cap (X.setCell ⟨w.heap.size+3,i,none⟩ (.int .i64 N)):=by
 obtain ⟨A,n,cc,l,bad,h1,h2,h3,h4,h5,h6,h7,h8⟩:=h;refine ⟨A,n,cc,l,bad,h1,h2.below ((Le B X).setCell L7 _),h3.far L7 _,h4.far L7 _,h5.far L7 _,?_,h7.setCell L7 _,?_⟩
 ·have:=h6.set_ i (.int .i64 N)
  rwa [qls _ _ _ _ _ hi] at this
 ·rw [qhL];exact zZ h8 L7 _
theorem CS.turn {w X:World} {B:Nat} {r r':Option (List ByteArray)} {c:Chg} {Ag:Option Addr} {cap:Nat} {A:Option Addr} {n cc:Nat} {l:List ByteArray} {bad:Bool} (h:CS w B r c Ag cap X) (hB:B<=w.heap.size) (hW:WdR X B l A n cc) (hr:r'=y7 bad l) :
  CS w B r' c Ag cap ((X.setCell ⟨w.heap.size,0,none⟩ (.slice A n cc)).setCell ⟨w.heap.size,1,none⟩ (.bool bad)):=by
 obtain ⟨A0,n0,cc0,l0,bad0,h1,h2,h3,h4,h5,h6,h7,h8⟩:=h;exact ⟨A,n,cc,l,bad,hr,hW.below (((Le B X).setCell (p:=⟨w.heap.size,0,none⟩) hB _).setCell (p:=⟨w.heap.size,1,none⟩) hB _),vd h3,(h4.far (p:=⟨w.heap.size,0,none⟩) L7 _).far (p:=⟨w.heap.size,1,none⟩) L7 _,(h5.far (p:=⟨w.heap.size,0,none⟩) L7 _).far (p:=⟨w.heap.size,1,none⟩) L7 _,(h6.far (p:=⟨w.heap.size,0,none⟩) L7 _).far (p:=⟨w.heap.size,1,none⟩) L7 _,(h7.setCell (p:=⟨w.heap.size,0,none⟩) (Ld _) _).setCell (p:=⟨w.heap.size,1,none⟩) (Ld _) _,zZ (zZ h8 (p:=⟨w.heap.size,0,none⟩) L7 _) (p:=⟨w.heap.size,1,none⟩) L7 _⟩
theorem CS.spoil {w X:World} {B:Nat} {r:Option (List ByteArray)} {c:Chg} {Ag:Option Addr} {cap:Nat} (h:CS w B r c Ag cap X) (hB:B<=w.heap.size):CS w B none c Ag cap (X.setCell ⟨w.heap.size,1,none⟩ (.bool true)):=by
 obtain ⟨A0,n0,cc0,l0,bad0,h1,h2,h3,h4,h5,h6,h7,h8⟩:=h;refine ⟨A0,n0,cc0,l0,true,rfl,h2.below ((Le B X).setCell (p:=⟨w.heap.size,1,none⟩) hB _),?_,h4.far (p:=⟨w.heap.size,1,none⟩) L7 _,h5.far (p:=⟨w.heap.size,1,none⟩) L7 _,h6.far (p:=⟨w.heap.size,1,none⟩) L7 _,h7.setCell (p:=⟨w.heap.size,1,none⟩) (Ld _) _,zZ h8 (p:=⟨w.heap.size,1,none⟩) L7 _⟩;have:=h3.set_ 1 (.bool true)
 simpa using this
theorem CS.glyphs {w X:World} {B:Nat} {r:Option (List ByteArray)} {c:Chg} {Ag:Option Addr} {cap:Nat} (h:CS w B r c Ag cap X) (hB:B<=w.heap.size) {G:List Gl} {A:Option Addr} {cp:Nat} (ho:X.ownsRow (w.heap.size+4) 64 3 (.slice A G.length cp) G.length (qi G)):CS w B r {c with glyphs:=G} A cp (X.setCell ⟨w.heap.size+3,5,none⟩ (.slice A G.length cp)):=by
 obtain ⟨A0,n,cc,l,bad,h1,h2,h3,h4,h5,h6,h7,h8⟩:=h;refine ⟨A0,n,cc,l,bad,h1,h2.below ((Le B X).setCell L7 _),h3.far L7 _,h4.far L7 _,h5.far L7 _,?_,h7.setCell L7 _,zZ ho L7 _⟩;have:=h6.set_ 5 (.slice A G.length cp);exact this
def CRet (w:World) (B:Nat) (c:Chg) (r:Option (List ByteArray)) (e:Ending) (w':World):Prop:=∃ Ag cap v,e = .returned (.tuple #[.agg (yG c Ag cap),v])/\RV w' B r v/\Below w.heap.size w w'/\w'.ownsRow w.heap.size 64 3 (.slice Ag c.glyphs.length cap) c.glyphs.length (qi c.glyphs)
theorem jg {P:Program} {fn:Func} {p q:Tmp} {ty ty2:TypeId} (h:fn.results = #[.cell p ty,.cell q ty2]) (tmps:Array Value) (w:World) (g g2:Nat) (t t2:TypeId) (cs cs2:Array Value) (fr fr2:Nat × Nat) (d d2:TypeDesc)
  (hp:tmps.getD p undef = .pointer (some ⟨g,0,none⟩)) (hg:w.heap[g]? = some (.cells cs t fr))
  (hu:P.underlying ty=some d) (hd:(match d with | .struct _ | .array _ _=>true | _=>false)=true) (hi:(P.info? ty).map (·.size)=some cs.size)
  (hp2:tmps.getD q undef = .pointer (some ⟨g2,0,none⟩)) (hg2:w.heap[g2]? = some (.cells cs2 t2 fr2))
  (hu2:P.underlying ty2=some d2) (hd2:(match d2 with | .struct _ | .array _ _=>true | _=>false)=true) (hi2:(P.info? ty2).map (·.size)=some cs2.size) :
  (results fn tmps).run P w = .ok (.tuple #[.agg cs,.agg cs2]) w:=by
 simp only [results,h];have hp':tmps[p]?.getD undef = .pointer (some ⟨g,0,none⟩):=by simpa using hp
 have hq':tmps[q]?.getD undef = .pointer (some ⟨g2,0,none⟩):=by simpa using hp2
 simp [Sem.run_bind,Result.andThen,hp',hq',asAddr,run_loadVar_row w g t ty cs fr d hg hu hd hi,run_loadVar_row w g2 t2 ty2 cs2 fr2 d2 hg2 hu2 hd2 hi2]
theorem yo:(prog.info? 57).map (fun x=>x.size)=some 6:=by kernel_rfl
theorem qmh {X:World} {g:Nat} {A:Option Addr} {cap:Nat} {c0 c:Chg} {A0:Option Addr} {cap0:Nat} (h:Blk X g 57 (yG c0 A0 cap0)):Blk ((((((X.setCell ⟨g,0,none⟩ (.int .i64 c.kind)).setCell ⟨g,1,none⟩ (.int .i64 c.row)).setCell ⟨g,2,none⟩ (.int .i64 c.col)).setCell ⟨g,3,none⟩ (.int .i64 c.count)).setCell ⟨g,4,none⟩ (.int .i64 c.til)).setCell ⟨g,5,none⟩ (.slice A c.glyphs.length cap)) g 57 (yG c A cap):=by
 exact (((((h.set_ 0 _).set_ 1 _).set_ 2 _).set_ 3 _).set_ 4 _).set_ 5 _
theorem qhB {X:World} {g k:Nat} (hk:k<=g) (a b c d e f:Value):Below k X ((((((X.setCell ⟨g,0,none⟩ a).setCell ⟨g,1,none⟩ b).setCell ⟨g,2,none⟩ c).setCell ⟨g,3,none⟩ d).setCell ⟨g,4,none⟩ e).setCell ⟨g,5,none⟩ f) :=
 ((((((Le k X).setCell (p:=⟨g,0,none⟩) hk a).setCell (p:=⟨g,1,none⟩) hk b).setCell (p:=⟨g,2,none⟩) hk c).setCell (p:=⟨g,3,none⟩) hk d).setCell (p:=⟨g,4,none⟩) hk e).setCell (p:=⟨g,5,none⟩) hk f
def qc3 (w X:World) (c:Chg) (Ag:Option Addr) (cap:Nat) (A:Option Addr) (n cc:Nat) (bad:Bool):World :=
 (((((((X.setCell ⟨w.heap.size+1,0,none⟩ (.int .i64 c.kind)).setCell ⟨w.heap.size+1,1,none⟩ (.int .i64 c.row)).setCell ⟨w.heap.size+1,2,none⟩ (.int .i64 c.col)).setCell ⟨w.heap.size+1,3,none⟩ (.int .i64 c.count)).setCell ⟨w.heap.size+1,4,none⟩ (.int .i64 c.til)).setCell ⟨w.heap.size+1,5,none⟩ (.slice Ag c.glyphs.length cap)).setCell ⟨w.heap.size+2,0,none⟩ (.slice A n cc)).setCell ⟨w.heap.size+2,1,none⟩ (.bool bad)
theorem fin_ {w X:World} {B:Nat} {c0:Chg} {A0:Option Addr} {cap0:Nat} {x y:Value} {r:Option (List ByteArray)} {c:Chg} {Ag:Option Addr} {cap:Nat} {A:Option Addr} {n cc:Nat} {l:List ByteArray} {bad:Bool} (hB:B<=w.heap.size) (hr:r=y7 bad l) (hW:WdR X B l A n cc) (R2:Blk X (w.heap.size+1) 57 (yG c0 A0 cap0)) (R3:Blk X (w.heap.size+2) 72 #[x,y]) (tx:Below w.heap.size w X) (hO:X.ownsRow (w.heap.size+4) 64 3 (.slice Ag c.glyphs.length cap) c.glyphs.length (qi c.glyphs)) :
  Blk (qc3 w X c Ag cap A n cc bad) (w.heap.size+1) 57 (yG c Ag cap)/\Blk (qc3 w X c Ag cap A n cc bad) (w.heap.size+2) 72 #[.slice A n cc,.bool bad]/\RV (qc3 w X c Ag cap A n cc bad) B r (.agg #[.slice A n cc,.bool bad])/\Below w.heap.size w (qc3 w X c Ag cap A n cc bad)/\(qc3 w X c Ag cap A n cc bad).ownsRow w.heap.size 64 3 (.slice Ag c.glyphs.length cap) c.glyphs.length (qi c.glyphs):=by
 have b6:=fun k (hk:k<=w.heap.size+1)=>qhB (X:=X) hk (.int .i64 c.kind) (.int .i64 c.row) (.int .i64 c.col) (.int .i64 c.count) (.int .i64 c.til) (.slice Ag c.glyphs.length cap)
 have b8 : ∀ k,k<=w.heap.size+1->Below k X (qc3 w X c Ag cap A n cc bad):=fun k hk=>((b6 k hk).setCell (p:=⟨w.heap.size+2,0,none⟩) L7 _).setCell (p:=⟨w.heap.size+2,1,none⟩) L7 _
 refine ⟨?_,?_,⟨A,n,cc,l,bad,rfl,hW.below (b8 B L0),hr⟩,tx.trans (b8 _ L0),qt (base:=w.heap.size+4) ?_ L0⟩
 ·exact ((qmh R2).far (p:=⟨w.heap.size+2,0,none⟩) L7 _).far (p:=⟨w.heap.size+2,1,none⟩) L7 _
 ·have R3':=((((((R3.far (p:=⟨w.heap.size+1,0,none⟩) L7 (.int .i64 c.kind)).far (p:=⟨w.heap.size+1,1,none⟩) L7 (.int .i64 c.row)).far (p:=⟨w.heap.size+1,2,none⟩) L7 (.int .i64 c.col)).far (p:=⟨w.heap.size+1,3,none⟩) L7 (.int .i64 c.count)).far (p:=⟨w.heap.size+1,4,none⟩) L7 (.int .i64 c.til)).far (p:=⟨w.heap.size+1,5,none⟩) L7 (.slice Ag c.glyphs.length cap))
  exact vd R3'
 ·unfold qc3
  iterate 8 refine zZ ?_ (by first | (show w.heap.size+1<_;omega) | (show w.heap.size+2<_;omega)) _
  exact hO
theorem qaV {w X:World} {B:Nat} {c0:Chg} {A0:Option Addr} {cap0:Nat} {x y:Value} {r:Option (List ByteArray)} {c:Chg} {Ag:Option Addr} {cap:Nat} {A:Option Addr} {n cc:Nat} {l:List ByteArray} {bad:Bool} (hB:B<=w.heap.size) (hr:r=y7 bad l) (hW:WdR X B l A n cc) (R2:Blk X (w.heap.size+1) 57 (yG c0 A0 cap0)) (R3:Blk X (w.heap.size+2) 72 #[x,y]) (tx:Below w.heap.size w X) (hO:X.ownsRow (w.heap.size+4) 64 3 (.slice Ag c.glyphs.length cap) c.glyphs.length (qi c.glyphs)) :
  Blk (qc3 w X c Ag cap A n cc bad).drew (w.heap.size+1) 57 (yG c Ag cap)/\Blk (qc3 w X c Ag cap A n cc bad).drew (w.heap.size+2) 72 #[.slice A n cc,.bool bad]/\RV (qc3 w X c Ag cap A n cc bad).drew B r (.agg #[.slice A n cc,.bool bad])/\Below w.heap.size w (qc3 w X c Ag cap A n cc bad).drew/\(qc3 w X c Ag cap A n cc bad).drew.ownsRow w.heap.size 64 3 (.slice Ag c.glyphs.length cap) c.glyphs.length (qi c.glyphs):=by
 obtain ⟨h1,h2,h3,h4,h5⟩:=fin_ hB hr hW R2 R3 tx hO;exact ⟨h1.drew,h2.drew,h3.below (Le _ _).drew,h4.drew,qb h5 (Le _ _).drew⟩
def AftE (X:World) (B:Nat) (x:Int × Option (List ByteArray)) (e:Ending) (w':World):Prop:=∃ A n c l bad,e = .returned (.tuple #[.int .i64 x.1,.agg #[.slice A n c,.bool bad]])/\WdR w' B l A n c/\x.2=y7 bad l/\Below X.heap.size X w'
theorem uaft1 (r:Option (List ByteArray)) (v:Value) (s:ByteArray) (B:Nat) (X:World) (h:RV X B r v) (hB:B<=X.heap.size):Calls prog 59 #[v,.slice (some ⟨X.heap.size,0,none⟩) 1 1] (X.alloc (.cells #[.string s] 9)) (AftE X B (qN (r.bind (skO s)))):=by
 have ha:Below X.heap.size X (X.alloc (.cells #[.string s] 9)):=L5;have hz:(X.alloc (.cells #[.string s] 9)).heap.size=X.heap.size+1:=by simp
 refine (qh6 r v [s] (some ⟨X.heap.size,0,none⟩) 1 1 B _ (h.below (ha.mono hB)) L0 rfl L2 ?_).mono ?_
 ·rw [hz];exact qe (xs:=[.string s]) rfl rfl
 ·rintro e w' ⟨v',rfl,⟨A,n,c,l,bad,rfl,hW,hr⟩,hb⟩;exact ⟨A,n,c,l,bad,rfl,hW,hr,ha.trans (hb.mono L0)⟩
theorem uaft2 (r:Option (List ByteArray)) (v:Value) (s t:ByteArray) (B:Nat) (X:World) (h:RV X B r v) (hB:B<=X.heap.size):Calls prog 59 #[v,.slice (some ⟨X.heap.size,0,none⟩) 2 2] (X.alloc (.cells #[.string s,.string t] 9)) (AftE X B (qN ((r.bind (skO s)).bind (skO t)))):=by
 have ha:Below X.heap.size X (X.alloc (.cells #[.string s,.string t] 9)):=L5;have hz:(X.alloc (.cells #[.string s,.string t] 9)).heap.size=X.heap.size+1:=by simp
 refine (qh6 r v [s,t] (some ⟨X.heap.size,0,none⟩) 2 2 B _ (h.below (ha.mono hB)) L0 rfl L2 ?_).mono ?_
 ·rw [hz];exact qe (xs:=[.string s,.string t]) rfl rfl
 ·rintro e w' ⟨v',rfl,⟨A,n,c,l,bad,rfl,hW,hr⟩,hb⟩;exact ⟨A,n,c,l,bad,rfl,hW,hr,ha.trans (hb.mono L0)⟩
def SkpE (X:World) (B:Nat) (r:Option (List ByteArray)) (e:Ending) (w':World):Prop:=∃ A n c l bad,e = .returned (.agg #[.slice A n c,.bool bad])/\WdR w' B l A n c/\r=y7 bad l/\Below X.heap.size X w'
theorem qev (r:Option (List ByteArray)) (v:Value) (s:ByteArray) (B:Nat) (X:World) (h:RV X B r v) (hB:B<=X.heap.size):Calls prog 60 #[v,.slice (some ⟨X.heap.size,0,none⟩) 1 1] (X.alloc (.cells #[.string s] 9)) (SkpE X B (r.bind (skO s))):=by
 have ha:Below X.heap.size X (X.alloc (.cells #[.string s] 9)):=L5;have hz:(X.alloc (.cells #[.string s] 9)).heap.size=X.heap.size+1:=by simp
 refine (uskip_ r v [s] (some ⟨X.heap.size,0,none⟩) 1 1 B _ (h.below (ha.mono hB)) L0 rfl L2 ?_).mono ?_
 ·rw [hz];exact qe (xs:=[.string s]) rfl rfl
 ·rintro e w' ⟨v',rfl,hv,hb⟩;obtain ⟨A,n,c,l,bad,rfl,hW,hr⟩:=hv.below (hb.mono L0);exact ⟨A,n,c,l,bad,rfl,hW,hr,ha.trans (hb.mono L0)⟩
def AftC (w:World) (B:Nat) (c:Chg) (i:Nat) (x:Int × Option (List ByteArray)) (A':Option Addr) (n' c':Nat) (bad':Bool) (e:Ending) (w1:World):Prop:=∃ A1 n1 cc bad v,e = .returned (.tuple #[.int .i64 x.1,.agg #[.slice A1 n1 cc,.bool bad]]) /\
 w1.cell? ⟨w.heap.size,0,none⟩=some (.slice A' n' c')/\w1.cell? ⟨w.heap.size,1,none⟩=some (.bool bad')/\w1.frozen? ⟨w.heap.size,0,none⟩=false/\w1.frozen? ⟨w.heap.size,1,none⟩=false/\w1.cell? ⟨w.heap.size+3,i,none⟩=some (.int .i64 v)/\w1.frozen? ⟨w.heap.size+3,i,none⟩=false /\
 CS w B x.2 (c.put i x.1) none 0 (((w1.setCell ⟨w.heap.size+3,i,none⟩ (.int .i64 x.1)).setCell ⟨w.heap.size,0,none⟩ (.slice A1 n1 cc)).setCell ⟨w.heap.size,1,none⟩ (.bool bad))
theorem AftC.of {w X w1:World} {B:Nat} {r:Option (List ByteArray)} {c:Chg} {i:Nat} {x:Int × Option (List ByteArray)} {A':Option Addr} {n' c':Nat} {bad':Bool} {e:Ending} (hX:CS w B r c none 0 X) (hB:B<=w.heap.size) (R1:Blk X w.heap.size 72 #[.slice A' n' c',.bool bad']) (R4:Blk X (w.heap.size+3) 57 (yG c none 0)) (hi:i<5) (h:AftE X B x e w1):AftC w B c i x A' n' c' bad' e w1:=by
 obtain ⟨A1,n1,cc1,l1,bad1,rfl,hW1,hr1,hb1⟩:=h;have hY:=hX.below hB hb1;have h2:=vN (R1.below hb1 R1.lt);have K:=R4.below hb1 R4.lt;have h3:=qV K;obtain ⟨v,hv⟩ : ∃ v,w1.cell? ⟨w.heap.size+3,i,none⟩=some (.int .i64 v):=by
  match i,hi with
  | 0,_=>exact ⟨_,h3.1⟩
  | 1,_=>exact ⟨_,h3.2.1⟩
  | 2,_=>exact ⟨_,h3.2.2.1⟩
  | 3,_=>exact ⟨_,h3.2.2.2.1⟩
  | 4,_=>exact ⟨_,h3.2.2.2.2.1⟩
 exact ⟨A1,n1,cc1,bad1,v,rfl,h2.1,h2.2.1,h2.2.2.1,h2.2.2.2,hv,K.frozen i,(hY.set_ hB i x.1 hi).turn hB (hW1.below ((Le B w1).setCell (p:=⟨w.heap.size+3,i,none⟩) L7 (.int .i64 x.1))) hr1⟩
theorem CS.af_ {w X:World} {B:Nat} {r:Option (List ByteArray)} {c:Chg} (hX:CS w B r c none 0 X) (hB:B<=w.heap.size) (s:ByteArray) (i:Nat) (hi:i<5) {x:Int × Option (List ByteArray)} (hx:Hid (x=qN (r.bind (skO s)))) :
  ∃ A' n' c' bad',X.cell? ⟨w.heap.size,0,none⟩=some (.slice A' n' c')/\X.cell? ⟨w.heap.size,1,none⟩=some (.bool bad')/\Calls prog 59 #[.agg #[.slice A' n' c',.bool bad'],.slice (some ⟨X.heap.size,0,none⟩) 1 1] (X.alloc (.cells #[.string s] 9)) (AftC w B c i x A' n' c' bad'):=by
 obtain ⟨A',n',c',l',bad',hr',hW,R1,R2,R3,R4,tx,hO⟩:=id hX;have h1:=vN R1;refine ⟨A',n',c',bad',h1.1,h1.2.1,(uaft1 r _ s B X ⟨A',n',c',l',bad',rfl,hW,hr'⟩ (Lj hB tx.size)).mono ?_⟩;rw [<- hx.out];exact fun e w1 h=>AftC.of hX hB R1 R4 hi h
theorem CS.af2_ {w X:World} {B:Nat} {r:Option (List ByteArray)} {c:Chg} (hX:CS w B r c none 0 X) (hB:B<=w.heap.size) (s t:ByteArray) (i:Nat) (hi:i<5) {x:Int × Option (List ByteArray)} (hx:Hid (x=qN ((r.bind (skO s)).bind (skO t)))) :
  ∃ A' n' c' bad',X.cell? ⟨w.heap.size,0,none⟩=some (.slice A' n' c')/\X.cell? ⟨w.heap.size,1,none⟩=some (.bool bad')/\Calls prog 59 #[.agg #[.slice A' n' c',.bool bad'],.slice (some ⟨X.heap.size,0,none⟩) 2 2] (X.alloc (.cells #[.string s,.string t] 9)) (AftC w B c i x A' n' c' bad'):=by
 obtain ⟨A',n',c',l',bad',hr',hW,R1,R2,R3,R4,tx,hO⟩:=id hX;have h1:=vN R1;refine ⟨A',n',c',bad',h1.1,h1.2.1,(uaft2 r _ s t B X ⟨A',n',c',l',bad',rfl,hW,hr'⟩ (Lj hB tx.size)).mono ?_⟩;rw [<- hx.out];exact fun e w1 h=>AftC.of hX hB R1 R4 hi h
theorem CS.nx_ {w X:World} {B:Nat} {r:Option (List ByteArray)} {c:Chg} (hX:CS w B r c none 0 X) (hB:B<=w.heap.size) (s:ByteArray) :
  ∃ A' n' c' bad',X.cell? ⟨w.heap.size,0,none⟩=some (.slice A' n' c')/\X.cell? ⟨w.heap.size,1,none⟩=some (.bool bad')/\Calls prog 33 #[.agg #[.slice A' n' c',.bool bad'],.string s] X fun e w1=>e = .returned (.bool (qX r s))/\CS w B r c none 0 w1:=by
 obtain ⟨A',n',c',l',bad',hr',hW,R1,R2,R3,R4,tx,hO⟩:=id hX;have h1:=vN R1;refine ⟨A',n',c',bad',h1.1,h1.2.1,(qdo r _ s B X ⟨A',n',c',l',bad',rfl,hW,hr'⟩ (Lj hB tx.size)).mono ?_⟩;rintro e w1 ⟨rfl,hb1⟩;exact ⟨rfl,hX.below hB hb1⟩
def qam (l:List Gl) (m:Nat):List Gl:=l++List.replicate (m-l.length) spG
theorem qdb (l:List Gl) {m:Nat} (h:l.length<=m):(qam l m).length=m:=by
 unfold qam;rw [Lf,List.length_replicate]
 omega
theorem qkE (l:List Gl):qam l l.length=l:=by unfold qam;simp
theorem qkG (l:List Gl) {m:Nat} (h:l.length<=m):qam l (m+1)=qam l m++[spG]:=by
 unfold qam;rw [show m+1-l.length=(m-l.length)+1 by omega,List.replicate_succ',List.append_assoc]
theorem qhu (l gs:List Gl) (col count m:Nat) (hl:l.length<=m) (hc:col<=m) (hm:m<=max l.length col) (h:count=0∨col+count<=l.length):(qam l m).take col++gs++(qam l m).drop (col+count)=zV l col count gs:=by
 have e1:(qam l m).take col=l.take col++List.replicate (col-l.length) spG:=by
  unfold qam;rw [List.take_append,List.take_replicate]
  congr 2
  omega
 have e2:(qam l m).drop (col+count)=l.drop (col+count):=by
  unfold qam;rw [List.drop_append,List.drop_replicate,show m-l.length-(col+count-l.length)=0 by omega,List.replicate_zero,List.append_nil]
 unfold zV;rw [e1,e2]
def qdq:Value->Nat
 | .slice _ n _=>n
 | _=>0
def SpI (base G:Nat) (v:Vw) (rs:List RowM) (A:Option Addr) (cA k:Nat) (l:List Gl) (X0:World) (ch:Array Value) (m:Nat) (A4:Option Addr) (c4:Nat) (X:World):Prop :=
 EDx base G v rs A cA k (qam l m) A4 c4 X/\Blk X X0.heap.size 57 ch/\Dj (some X0.heap.size) (obS A4)/\Below base X0 X/\X0.heap.size+1<=X.heap.size
theorem SpI.next {base G:Nat} {v:Vw} {rs:List RowM} {A:Option Addr} {cA k:Nat} {l:List Gl} {X0:World} {ch:Array Value} {m:Nat} {A4:Option Addr} {c4:Nat} {X w2:World} {o:Obj} (h:SpI base G v rs A cA k l X0 ch m A4 c4 X) (hk:k<rs.length) (hbase:base<=X0.heap.size) (hm:l.length<=m) {A5:Option Addr} {c5:Nat}
  (hown:w2.ownsRow base 64 3 (.slice A5 (m+1) c5) (m+1) (qi (qam l m)++ym spG)) (hbel:Below base (X.alloc o) w2) (hgr:(X.alloc o).grownBy w2 (Value.slice A4 m c4).ownBlock) (hat:(Value.slice A5 (m+1) c5).ownBlock=(Value.slice A4 m c4).ownBlock∨(Value.slice A5 (m+1) c5).ownBlock=some (X.alloc o).heap.size) :
  SpI base G v rs A cA k l X0 ch (m+1) A5 c5 w2:=by
 obtain ⟨hE,hbx,hdx,hbw,hzw⟩:=h;have hz:(X.alloc o).heap.size=X.heap.size+1:=by simp
 have h5:=hgr.size;refine ⟨?_,(hbx.alloc o).grown hgr (fun e=>?_),?_,(hbw.alloc L0 _).trans hbel,by omega⟩
 ·rw [qkG l hm];exact hE.grow hk L0 L5 (by rw [qdb l hm]) hown hgr hat
 ·rw [qC] at e;exact hdx _ rfl e.symm
 ·rw [qC,qC] at hat;exact Dj.new hdx hat fun b hb=>by injection hb with hb;omega
theorem csplice_ {base G B:Nat} {v:Vw} {rs:List RowM} {A:Option Addr} {cA:Nat} {X0:World} (h:ED base G v rs A cA X0) (hbase:base<=X0.heap.size) (hlen:(rs.length:Int)=v.height) (hh:v.height<=1000) (hrl : ∀ x∈rs,x.l.length<=100000000)
  (c:Chg) (Ag:Option Addr) (cap:Nat) (hB:B<=base) (rd:Rd X0 B 3 Ag c.glyphs.length (qi c.glyphs)) (hgl:c.glyphs.length<=100000000) (hk:c.kind=3) (hr:zh v c=true) :
  Calls prog 75 #[.pointer (some ⟨G,0,none⟩),jH c Ag cap] X0 (EdR base G (jY v c) X0):=by
 obtain ⟨W,Hh,rows,vr,vc,vis⟩:=v;obtain ⟨kind,row,col,count,til,g⟩:=c;dsimp only at hlen hh hk hgl rd;subst hk;rw [qai] at hr;dsimp only at hr;obtain ⟨r1,r2,r3,r4,r5,r6⟩:=of_decide_eq_true hr;have hE:=h.eq;dsimp only at hE;obtain ⟨k,rfl⟩ : ∃ k:Nat,row=k:=⟨row.toNat,by omega⟩
 obtain ⟨j,rfl⟩ : ∃ j:Nat,col=j:=⟨col.toNat,by omega⟩
 obtain ⟨q,rfl⟩ : ∃ q:Nat,count=q:=⟨count.toNat,by omega⟩
 have hkl:k<rs.length:=by omega
 rw [Int.toNat_natCast,hE,qa4 hkl] at r6;have hcq:q=0∨j+q<=rs[k].l.length:=by omega
 have hS:jY ⟨W,Hh,rows,vr,vc,vis⟩ ⟨3,(k:Int),(j:Int),(q:Int),til,g⟩=⟨W,Hh,(rls rs).set k (zI (zV rs[k].l j q g)),vr,vc,vis⟩:=by
  unfold jY;rw [if_neg (show ¬ (3:Int)=1 by decide),if_neg (show ¬ (3:Int)=2 by decide),if_pos (show (3:Int)=3 from rfl)];simp only [Int.toNat_natCast];rw [hE,qa4 hkl]
 rw [hS];obtain ⟨G1,cap1,hA,hG1,hG2⟩:=h.rows.form L0;obtain ⟨rfl,rfl⟩:A=some ⟨G1,0,none⟩/\cA=cap1:=by injection hA with h1 _ h2;exact ⟨h1,h2⟩
 have hL:=hrl _ (Lt hkl);have HX:=Lh (EDx.start h hkl);have hcx:=h.rows.cellAt k L0;rw [yF hkl] at hcx;have hGl:=h.blk.lt;have HRd:Hid (∀ w',Below base X0 w'->Rd w' base 3 Ag g.length (qi g)):=Lh fun w' hb=>((rd.more hB).below hb)
 clear hS hr r6 hE hrl hA rd;generalize rs[k].l=l at *
 have hBk:=h.blk;clear h
 go_enter func75,ntmps75
 go_upto_region 1 with fail
 refine qa (fun X=>Blk X X0.heap.size 57 (yG ⟨3,(k:Int),(j:Int),(q:Int),til,g⟩ Ag cap)/\Below X0.heap.size X0 X) ⟨Blk.new _ _ _,L5⟩ ?_;rintro X ⟨hbx,hb⟩;have c1:X.cell? ⟨X0.heap.size,1,none⟩=some (.int .i64 (k:Int)):=hbx.cell 1;obtain ⟨e0,e1,e2,e3,e4,e5⟩:=qw (hBk.below hb hGl);have hcx2:=(hb.cell (p:=⟨G1,k,none⟩) hG2).trans hcx;have hki:(k:Int)<(rs.length:Int):=by omega
 go_quiet (fail)
 have hI:SpI base G ⟨W,Hh,rows,vr,vc,vis⟩ rs (some ⟨G1,0,none⟩) cA k l X0 (yG ⟨3,(k:Int),(j:Int),(q:Int),til,g⟩ Ag cap) l.length rs[k].A rs[k].cap (X.drewN nq):=by
  have h1:=HX.out.below hb;rw [<- qkE l] at h1;exact ⟨h1.below (qf (Le _ _)),hbx.drewN _,Dj.symm (Dj.fresh (N:=X0.heap.size) (fun b hb2=>(vB HX.out.row b hb2).2) (fun b hb2=>by injection hb2 with e;omega)),qf (hb.mono hbase),hbx.lt⟩
 clear hcx hcx2 hbx hb c1 e0 e1 e2 e3 e4 e5 HX hBk;generalize rs[k].A=Al at *
 generalize rs[k].cap=cl at *
 go_wp2
 go_loopw [4] (fun x wr=>∃ (m:Nat) (A4:Option Addr) (c4:Nat),l.length<=m/\m<=max l.length j/\x = .slice A4 m c4/\SpI base G ⟨W,Hh,rows,vr,vc,vis⟩ rs (some ⟨G1,0,none⟩) cA k l X0 (yG ⟨3,(k:Int),(j:Int),(q:Int),til,g⟩ Ag cap) m A4 c4 wr) (fun x _=>j-qdq x)
 case atStart=>exact ⟨l.length,Al,cl,Ld _,by omega,rfl,hI⟩
 case round =>
  clear hI;obtain ⟨m,A4,c4,hm1,hm2,rfl,hx⟩:=hrel;obtain ⟨hE,hbx,hdx,hbw,hzw⟩:=id hx;have c2:wr.cell? ⟨X0.heap.size,2,none⟩=some (.int .i64 (j:Int)):=hbx.cell 2;have hrow:=hE.row;rw [qdb l hm1] at hrow
  by_cases hlt:m<j
  ·go_wp2_with (at_builtin;go_must (refine qg rfl _ _ _ rfl qbz base _ rfl (hrow.alloc _) _ _ rfl (qe (xs:=ym spG) (by rfl) rfl) ?_);intro A5 c5 w5 hown5 hbel5 hgr5 hat5)
   exact ⟨⟨m+1,A5,c5,by omega,by omega,rfl,hx.next hkl hbase hm1 hown5 hbel5 hgr5 hat5⟩,by simp only [qdq];omega⟩
  ·have hcaps:=yd hrow;have hcap2:(c4:Int)<=9223372036854775807:=by have:=hcaps.2;unfold maxLen at this;omega
   obtain ⟨u,hu⟩ : ∃ u,(zQ rs)[k]? = some u:=⟨_,yF hkl⟩
   have hcx:=hE.rows.cellAt k L0;rw [hu] at hcx;have hfx:=hE.rows.frozenAt k;have hG1w:=(vB hE.rows G1 rfl).2;have hGw:=hE.blk.lt;have HCE:Hid (∀ w',Below wr.heap.size wr w'->(w'.cell? ⟨G,2,none⟩=some (.slice (some ⟨G1,0,none⟩) rs.length cA)/\w'.cell? ⟨X0.heap.size,1,none⟩=some (.int .i64 (k:Int))/\w'.cell? ⟨X0.heap.size,2,none⟩=some (.int .i64 (j:Int))/\w'.cell? ⟨X0.heap.size,3,none⟩=some (.int .i64 (q:Int))/\w'.cell? ⟨X0.heap.size,5,none⟩=some (.slice Ag g.length cap))/\w'.cell? ⟨G1,k,none⟩=some u/\w'.frozen? ⟨G1,k,none⟩=false):=Lh fun w' hw =>
    ⟨⟨(hw.cell (p:=⟨G,2,none⟩) hGw).trans (hE.blk.cell 2),(hw.cell (p:=⟨X0.heap.size,1,none⟩) hbx.lt).trans (hbx.cell 1),(hw.cell (p:=⟨X0.heap.size,2,none⟩) hbx.lt).trans (hbx.cell 2),(hw.cell (p:=⟨X0.heap.size,3,none⟩) hbx.lt).trans (hbx.cell 3),(hw.cell (p:=⟨X0.heap.size,5,none⟩) hbx.lt).trans (hbx.cell 5)⟩,(hw.cell (p:=⟨G1,k,none⟩) hG1w).trans hcx,(hw.frozen (p:=⟨G1,k,none⟩) hG1w).trans hfx⟩
   have hsl:(zV l j q g).length<=400000000:=by
    unfold zV;simp only [Lf,Lu,List.length_replicate,List.length_drop]
    omega
   have hjm:j+q<=m:=by omega
   obtain ⟨t,ht⟩ : ∃ t,t=j+q:=⟨_,rfl⟩
   have HConc:Hid (∀ W1,Below wr.heap.size wr W1->Calls prog 100 #[.slice (some ⟨W1.heap.size,0,none⟩) 3 3] (W1.alloc (.cells #[.slice A4 j c4,.slice Ag g.length cap,.slice (if c4=t then A4 else A4.map (·.add (t * 3))) (m-t) (c4-t)] 45)).drew fun e w'=>∃ A5 c5,e = .returned (.slice A5 (zV l j q g).length c5)/\w'.ownsRow wr.heap.size 64 3 (.slice A5 (zV l j q g).length c5) (zV l j q g).length (qi (zV l j q g))/\Below wr.heap.size wr w'):=Lh fun W1 hW=>by
    have hz:=hW.size;have hp:=qhu l g j q m hm1 L0 hm2 hcq;rw [<- ht] at hp;have hR:=(Rd.of_own (qb hrow hW)).below ((Le W1.heap.size W1).alloc (Ld _) (.cells #[.slice A4 j c4,.slice Ag g.length cap,.slice (if c4=t then A4 else A4.map (·.add (t * 3))) (m-t) (c4-t)] 45));have hcat:yA [⟨(qam l m).take j,A4,c4⟩,⟨g,Ag,cap⟩,⟨(qam l m).drop t,if c4=t then A4 else A4.map (·.add (t * 3)),c4-t⟩]=zV l j q g:=by
     rw [<- hp]
     simp [yA,rls]
    have l1:((qam l m).take j).length=j:=by rw [Lu,qdb l hm1];omega
    have l2:((qam l m).drop t).length=m-t:=by rw [List.length_drop,qdb l hm1]
    have hc:=qjO [⟨(qam l m).take j,A4,c4⟩,⟨g,Ag,cap⟩,⟨(qam l m).drop t,if c4=t then A4 else A4.map (·.add (t * 3)),c4-t⟩] (some ⟨W1.heap.size,0,none⟩) 3 3 (W1.heap.size+1) (W1.alloc (.cells #[.slice A4 j c4,.slice Ag g.length cap,.slice (if c4=t then A4 else A4.map (·.add (t * 3))) (m-t) (c4-t)] 45)).drew rfl L0 L1 (by rw [hcat];omega)
     (by
      have:=qe (w:=W1) (xs:=[.slice A4 j c4,.slice Ag g.length cap,.slice (if c4=t then A4 else A4.map (·.add (t * 3))) (m-t) (c4-t)]) (e:=45) (m:=3) (size:=1) rfl rfl;unfold zQ;simp only [List.map_cons,List.map_nil,l1,l2]
      exact this)
     (fun x hx=>by
      simp only [List.mem_cons,List.not_mem_nil,or_false] at hx
      rcases hx with rfl | rfl | rfl
      ·dsimp only;rw [l1,kM];exact (hR.more (Nat.le_succ _)).take L0
      ·exact ((HRd.out _ (hbw.trans (hW.mono L0))).below ((Le _ _).alloc L0 _)).more L0
      ·dsimp only;rw [l2,qbO]
       exact (hR.more (Nat.le_succ _)).cut L0 hcaps.1)
    rw [hcat] at hc;exact hc.mono fun e w' ⟨A5,c5,h1,h2,h3⟩=>⟨A5,c5,h1,qt h2 (by simp;omega),((hW.alloc hz _).drew).trans (h3.mono (by simp;omega))⟩
   have HTr:Hid (∀ W1 A5 c5,Below wr.heap.size wr W1->W1.ownsRow wr.heap.size 64 3 (.slice A5 (zV l j q g).length c5) (zV l j q g).length (qi (zV l j q g))->Calls prog 98 #[.slice A5 (zV l j q g).length c5] W1 fun e w'=>∃ A6 c6,e = .returned (.slice A6 (zI (zV l j q g)).length c6)/\w'.ownsRow wr.heap.size 64 3 (.slice A6 (zI (zV l j q g)).length c6) (zI (zV l j q g)).length (qi (zI (zV l j q g)))/\Below wr.heap.size wr w'):=Lh fun W1 A5 c5 hW ho=>by
    have hcp:=yd ho;exact (vtrim_ _ A5 _ c5 W1.heap.size W1 L0 hcp.1 hcp.2 (Rd.of_own ho) (Ld _)).mono fun e w' ⟨A6,c6,h1,h2,h3⟩=>⟨A6,c6,h1,qt h2 hW.size,hW.trans (h3.mono hW.size)⟩
   generalize zV l j q g=S at *
   have hEh:=Lh hE;have hjc:(j:Int)<=c4:=by omega
   have hjqm:(j:Int)+q<=m:=by omega
   have hmc:(m:Int)<=c4:=by omega
   have hb0:Below wr.heap.size wr wr:=Le _ _;obtain ⟨⟨s1,s2,s3,s4,s5⟩,s6,s7⟩:=HCE.out wr hb0;have hn1:G≠G1:=fun e=>(hE.apart hkl).1 G rfl (by rw [e];rfl)
   have hn2:G1≠G:=Ne.symm hn1;have hn3:X0.heap.size≠G1:=by omega
   have hn4:G1≠X0.heap.size:=by omega
   have hrow2:=hrow.2;clear hlen hh r2;clear hE hbx hx hcx hfx hrow hu hdx HRd hGw hG1w c2 hL hcq hm1 hm2;have q2:IntKind.i64.wrap ((j:Int)+q)=(t:Int):=by rw [Lx];omega
   rcases hrow2 with ⟨hv,hm0⟩ | ⟨b4,cap4,-,hv,-⟩
   ·obtain rfl:A4=none:=by injection hv
    simp only [Option.map_none,ite_self] at HConc;have i3:(t:Int)<=c4:=by omega
    have i4:(t:Int)<=m:=by omega
    have i5:(j:Int)<=t:=by omega
    clear hv hm0 ht hjm hjqm
    go_upto_region 4 with fail
    go_region_held3 (fun w'=>(w'.cell? ⟨G,2,none⟩=some (.slice (some ⟨G1,0,none⟩) rs.length cA)/\w'.cell? ⟨X0.heap.size,1,none⟩=some (.int .i64 (k:Int))/\w'.cell? ⟨X0.heap.size,2,none⟩=some (.int .i64 (j:Int))/\w'.cell? ⟨X0.heap.size,3,none⟩=some (.int .i64 (q:Int))/\w'.cell? ⟨X0.heap.size,5,none⟩=some (.slice Ag g.length cap))) (first | (refine (HCE.out _ ?_).1;(repeat (first | exact Le _ _ | assumption | refine Below.drew ?_ | refine Below.alloc ?_ L6 _ | refine Below.setCell ?_ L6 _));done) | go_keep) (first
     | (go_at_call 100;refine (HConc.out _ ql8).mono ?_;rintro e w1 ⟨A5,c5,rfl,o1,b1⟩)
     | (go_at_call 98;refine (HTr.out _ _ _ b1 o1).mono ?_;rintro e w2 ⟨A6,c6,rfl,o2,b2⟩;obtain ⟨-,t6,t7⟩:=HCE.out w2 b2))
    go_wp2;go_end0;exact ⟨rfl,⟨_,_,_,EDx.put hEh.out hkl (Lj hbase (Lr hzw)) rfl b2 o2⟩,(hbw.trans (b2.mono (Lj hbase (Lr hzw)))).setCell (p:=⟨G1,k,none⟩) hG1 _⟩
   ·obtain ⟨rfl,rfl⟩:A4=some ⟨b4,0,none⟩/\c4=cap4:=by injection hv with h1 _ h2;exact ⟨h1,h2⟩
    clear hv;have i3:(t:Int)<=c4:=by omega
    have i4:(t:Int)<=m:=by omega
    have i5:(j:Int)<=t:=by omega
    by_cases hce:c4=t
    ·obtain rfl:m=t:=by omega
     simp only [if_pos hce,hce,Nat.sub_self] at HConc;subst hce;clear hjc hjqm hmc ht hjm i3 i4
     go_upto_region 4 with fail
     go_region_held3 (fun w'=>(w'.cell? ⟨G,2,none⟩=some (.slice (some ⟨G1,0,none⟩) rs.length cA)/\w'.cell? ⟨X0.heap.size,1,none⟩=some (.int .i64 (k:Int))/\w'.cell? ⟨X0.heap.size,2,none⟩=some (.int .i64 (j:Int))/\w'.cell? ⟨X0.heap.size,3,none⟩=some (.int .i64 (q:Int))/\w'.cell? ⟨X0.heap.size,5,none⟩=some (.slice Ag g.length cap))) (first | (refine (HCE.out _ ?_).1;(repeat (first | exact Le _ _ | assumption | refine Below.drew ?_ | refine Below.alloc ?_ L6 _ | refine Below.setCell ?_ L6 _));done) | go_keep) (first
      | (go_at_call 100;refine (HConc.out _ ql8).mono ?_;rintro e w1 ⟨A5,c5,rfl,o1,b1⟩)
      | (go_at_call 98;refine (HTr.out _ _ _ b1 o1).mono ?_;rintro e w2 ⟨A6,c6,rfl,o2,b2⟩;obtain ⟨-,t6,t7⟩:=HCE.out w2 b2))
     go_wp2;go_end0;exact ⟨rfl,⟨_,_,_,EDx.put hEh.out hkl (Lj hbase (Lr hzw)) rfl b2 o2⟩,(hbw.trans (b2.mono (Lj hbase (Lr hzw)))).setCell (p:=⟨G1,k,none⟩) hG1 _⟩
    ·simp only [if_neg hce,Option.map_some,vl,Lo] at HConc;clear ht hjm hjqm
     go_upto_region 4 with fail
     go_region_held3 (fun w'=>(w'.cell? ⟨G,2,none⟩=some (.slice (some ⟨G1,0,none⟩) rs.length cA)/\w'.cell? ⟨X0.heap.size,1,none⟩=some (.int .i64 (k:Int))/\w'.cell? ⟨X0.heap.size,2,none⟩=some (.int .i64 (j:Int))/\w'.cell? ⟨X0.heap.size,3,none⟩=some (.int .i64 (q:Int))/\w'.cell? ⟨X0.heap.size,5,none⟩=some (.slice Ag g.length cap))) (first | (refine (HCE.out _ ?_).1;(repeat (first | exact Le _ _ | assumption | refine Below.drew ?_ | refine Below.alloc ?_ L6 _ | refine Below.setCell ?_ L6 _));done) | go_keep) (first
      | (go_at_call 100;refine (HConc.out _ ql8).mono ?_;rintro e w1 ⟨A5,c5,rfl,o1,b1⟩)
      | (go_at_call 98;refine (HTr.out _ _ _ b1 o1).mono ?_;rintro e w2 ⟨A6,c6,rfl,o2,b2⟩;obtain ⟨-,t6,t7⟩:=HCE.out w2 b2))
     go_wp2;go_end0;exact ⟨rfl,⟨_,_,_,EDx.put hEh.out hkl (Lj hbase (Lr hzw)) rfl b2 o2⟩,(hbw.trans (b2.mono (Lj hbase (Lr hzw)))).setCell (p:=⟨G1,k,none⟩) hG1 _⟩
section
variable {base G c : Nat} {v : Vw} {rs : List RowM} {A : Option Addr} {X w1 w2 : World}
theorem ED.ob_lt (h:ED base G v rs A c X) : ∀ y∈obR G A rs,∀ b,y=some b->b<X.heap.size:=fun y hy b hb=>by
 subst hb;unfold obR at hy
 rcases List.mem_cons.1 hy with hy | hy
 ·injection hy with hy;have:=h.blk.lt;omega
 ·rcases List.mem_cons.1 hy with hy | hy
  ·exact (vB h.rows b hy.symm).2
  ·obtain ⟨x,hx,e⟩:=List.mem_map.1 hy;exact (vB (h.gl x hx) b e).2
theorem ED.addnil (h:ED base G v rs A c X) (hb1:Below X.heap.size X w1) {A2:Option Addr} {c2 n m:Nat} (hn:n=rs.length+1) (hown:w2.ownsRow base 45 1 (.slice A2 n c2) n (zQ rs++[.slice none 0 0]))
  (hgr:w1.grownBy w2 (Value.slice A m c).ownBlock) (hat:(Value.slice A2 n c2).ownBlock=(Value.slice A m c).ownBlock∨(Value.slice A2 n c2).ownBlock=some w1.heap.size) :
  ED base G ⟨v.width,v.height,rls rs++[[]],v.row,v.col,v.vis⟩ (rs++[qaI]) A2 c2 (w2.setCell ⟨G,2,none⟩ (.slice A2 n c2)):=by
 subst hn;rw [qC] at hgr;rw [qC,qC] at hat;have h1:=h.below hb1;obtain ⟨hd1,hd2⟩:=List.pairwise_cons.1 h.dj;obtain ⟨hd3,hd4⟩:=List.pairwise_cons.1 hd2;have hlt:=h1.ob_lt;have hnew : ∀ y∈obR G A rs,Dj (obS A) y->Dj (obS A2) y:=fun y hy hd=>(Dj.new hd.symm hat (hlt y hy)).symm
 have dG:Dj (some G) (obS A2):=(hnew _ (by simp [obR]) (hd1 _ L1).symm).symm;have len1:(rs++[qaI]).length=rs.length+1:=by simp
 have hblk:=((h1.blk.grown hgr fun e=>hd1 (obS A) L1 G rfl e.symm).set_ 2 (.slice A2 (rs.length+1) c2))
 refine ⟨by rw [len1];exact hblk,?_,fun x hx=>?_,by unfold rls;rw [List.map_append];rfl,h.lo,?_⟩
 ·rw [len1,qeN];exact ownsRow_setCell_other (a:=⟨G,2,none⟩) hown (fun e=>by rw [qC] at e;exact dG G rfl e) _
 ·rcases List.mem_append.1 hx with hx | hx
  ·have hm:=List.mem_map_of_mem (f:=fun x=>obS x.A) hx
   exact ownsRow_setCell_other (a:=⟨G,2,none⟩) ((h1.gl x hx).kept hgr (by rw [qC];exact (hd3 _ hm).symm.ne)) (fun e=>by
    rw [qC] at e
    exact hd1 _ (List.mem_cons_of_mem _ hm) G rfl e) _
  ·rw [List.mem_singleton.1 hx];exact zY _ _ _ _
 ·unfold obR;rw [List.map_append,<- List.cons_append,<- List.cons_append];refine qeX (List.pairwise_cons.2 ⟨fun y hy=>?_,List.pairwise_cons.2 ⟨fun y hy=>hnew y (by unfold obR;exact List.mem_cons_of_mem _ (List.mem_cons_of_mem _ hy)) (hd3 y hy),hd4⟩⟩) (fun y _ j h1 h2=>by cases h2)
  rcases List.mem_cons.1 hy with rfl | hy
  ·exact dG
  ·exact hd1 y (List.mem_cons_of_mem _ hy)
theorem qjd {w:World} {e:TypeId} {n m:Nat} {xs:List Value} (h:w.ownsRow base e 1 (.slice A n c) n xs) (hm:m<=n) (hm0:0<m):w.ownsRow base e 1 (.slice A m c) m (xs.take m):=by
 refine ⟨by rw [Lu,h.1];omega,?_⟩
 rcases h.2 with ⟨_,h0⟩ | ⟨g,cap,cur,h1,h2,h3,h4,h5,h6,h7⟩
 ·omega
 ·injection h1 with e1 _ e2
  subst e1 e2;refine .inr ⟨g,c,cur,rfl,h2,h3,by omega,h5,h6,?_⟩;rw [<- h7,List.take_take]
  congr 1
  omega
theorem ED.cut (h:ED base G v rs A c X) {m:Nat} (hm:m<=rs.length) (hm0:0<m):ED base G ⟨v.width,v.height,(rls rs).take m,v.row,v.col,v.vis⟩ (rs.take m) A c (X.setCell ⟨G,2,none⟩ (.slice A m c)):=by
 obtain ⟨hd1,hd2⟩:=List.pairwise_cons.1 h.dj;have len1:(rs.take m).length=m:=by rw [Lu];omega
 have hblk:=h.blk.set_ 2 (.slice A m c);refine ⟨by rw [len1];exact hblk,?_,fun x hx=>?_,by unfold rls;rw [List.map_take],h.lo,?_⟩
 ·rw [len1];have:=qjd h.rows hm hm0;rw [show (zQ rs).take m=zQ (rs.take m) by unfold zQ;rw [List.map_take]] at this;exact ownsRow_setCell_other (a:=⟨G,2,none⟩) this (fun e=>by rw [qC] at e;exact hd1 (obS A) L1 G rfl e) _
 ·have hx':=List.mem_of_mem_take hx
  exact ownsRow_setCell_other (a:=⟨G,2,none⟩) (h.gl x hx') (fun e=>by
   rw [qC] at e
   exact hd1 _ (List.mem_cons_of_mem _ (List.mem_map_of_mem (f:=fun x=>obS x.A) hx')) G rfl e) _
 ·have:obR G A (rs.take m)=(obR G A rs).take (m+2):=by
   unfold obR;rw [List.take_succ_cons,List.take_succ_cons,List.map_take]
  rw [this];exact h.dj.sublist (List.take_sublist _ _)
end
theorem qkF {l:List Gl} {q:Nat} (h:q<l.length) (w:Int):qaT w (l.drop q)=if w<(glW l[q]:Int) then 0 else qaT (w-glW l[q]) (l.drop (q+1))+1:=by
 rw [Ls h,qaT]
theorem qkm {l:List Gl} {q:Nat} (h:q<l.length):vM (l.take (q+1))=vM (l.take q)+glW l[q]:=by
 unfold vM glW;rw [qcw h,Lu,Lu]
 cases l[q].wide
 ·simp only [Bool.toNat_false,Bool.false_eq_true,if_false];omega
 ·simp only [Bool.toNat_true,if_true];omega
theorem rowW_one (g:Gl):vM [g]=glW g:=by
 unfold vM kw glW
 cases h:g.wide <;> simp [h]
theorem rowW_le (l:List Gl):vM l<=2 * l.length:=by
 unfold vM;have:=qh4 l
 omega
theorem pad_rows (rows:List (List Gl)) (m h:Nat) (hm:rows.length<=m) (hh:h<=m):(rows++List.replicate (m-rows.length) []).take h=(List.range h).map fun i=>rows.getD i []:=by
 refine List.ext_getElem (by rw [Lu,Lf,List.length_replicate,Lq,List.length_range];omega) fun i h1 h2=>?_
 rw [Lq,List.length_range] at h2;rw [List.getElem_take,List.getElem_map,List.getElem_range,List.getElem_append,List.getD_eq_getElem?_getD]
 split
 ·rw [List.getElem?_eq_getElem L3];rfl
 ·rw [List.getElem_replicate,List.getElem?_eq_none L0];rfl
def SzA (base G:Nat) (W H vr vc:Int) (vis:Bool) (rows:List (List Gl)) (X0:World) (m:Nat) (X:World):Prop :=
 rows.length<=m/\∃ rs A c,rs.length=m/\rls rs=rows++List.replicate (m-rows.length) []/\ED base G ⟨W,H,rls rs,vr,vc,vis⟩ rs A c X/\Below base X0 X/\X0.heap.size+1<=X.heap.size
def SzB (base G:Nat) (W H vr vc:Int) (vis:Bool) (R:List (List Gl)) (A:Option Addr) (c:Nat) (X0:World) (k:Nat) (X:World):Prop :=
 ∃ rs,rs.length=R.length/\rls rs=(R.take k).map (kr W)++R.drop k/\ED base G ⟨W,H,rls rs,vr,vc,vis⟩ rs A c X/\Below base X0 X
theorem SzB.next {base G:Nat} {W H vr vc:Int} {vis:Bool} {R:List (List Gl)} {A:Option Addr} {c:Nat} {X0 X w1:World} {k:Nat} {rs:List RowM} (hl:rs.length=R.length) (hr:rls rs=(R.take k).map (kr W)++R.drop k) (hE:ED base G ⟨W,H,rls rs,vr,vc,vis⟩ rs A c X) (hb:Below base X0 X) (hk:k<R.length) (hbase:base<=X.heap.size) {G1:Nat} (hA:A=some ⟨G1,0,none⟩)
  {A6:Option Addr} {c6:Nat} (hb1:Below X.heap.size X w1) (hown:w1.ownsRow X.heap.size 64 3 (.slice A6 (kr W R[k]).length c6) (kr W R[k]).length (qi (kr W R[k]))) :
  SzB base G W H vr vc vis R A c X0 (k+1) (w1.setCell ⟨G1,k,none⟩ (.slice A6 (kr W R[k]).length c6)):=by
 have hk':k<rs.length:=by omega
 have hp:=EDx.put (EDx.start hE hk') hk' hbase hA hb1 hown;have e:rls (rs.set k ⟨kr W R[k],A6,c6⟩)=(R.take (k+1)).map (kr W)++R.drop (k+1):=by
  have l0:((R.take k).map (kr W)).length=k:=by rw [Lq,Lu];omega
  rw [qfd,hr,List.set_append_right _ _ L0,l0,Nat.sub_self,Ls hk,List.set_cons_zero,List.take_succ_eq_append_getElem hk,List.map_append,List.append_assoc]
  rfl
 have hG1:base<=G1:=by
  subst hA;exact (vB hE.rows G1 rfl).1
 refine ⟨rs.set k ⟨kr W R[k],A6,c6⟩,by rw [List.length_set];exact hl,e,?_,(hb.trans (hb1.mono hbase)).setCell (p:=⟨G1,k,none⟩) hG1 _⟩;rw [qfd];exact hp
end Go.Proofs.YtbogmeeijdaijaaGreatDoor
