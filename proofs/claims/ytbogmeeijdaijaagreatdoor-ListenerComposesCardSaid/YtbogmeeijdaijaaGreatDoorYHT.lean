/- Joined: LxC. -/
import Derived.Test.YtbogmeeijdaijaaGreatDoorZAY
import Derived.Test.YtbogmeeijdaijaaGreatDoorYEF
import Derived.Test.YtbogmeeijdaijaaGreatDoorYHS
set_option linter.unusedVariables false
set_option linter.unusedSimpArgs false
set_option linter.unnecessarySimpa false
set_option maxHeartbeats 8000000
namespace Go.Proofs.YtbogmeeijdaijaaGreatDoor
open Go.Proofs.Tryz Go.RowKit
set_option maxRecDepth 20000
theorem qnW {k l:List ChgM} {i j r q z:Int} (h1:wErr k i r q z=0) (h2:wErr l j r q z=0) (hi:0<=i/\i<=255) (hj:0<=j/\j<=255):wErr (k++l) (i+j) r q z=0:=by
 obtain ⟨a1,-,-,a4⟩:=qkN h1;obtain ⟨-,-,-,b4⟩:=qkN h2;unfold wErr;rw [if_neg (by rw [a1];simp;omega),if_neg L0];refine qac.2 fun x hx=>?_
 obtain ⟨y,hy,rfl⟩:=List.mem_map.1 hx
 rcases List.mem_append.1 hy with hy | hy
 ·exact qac.1 a4 _ (List.mem_map_of_mem hy)
 ·exact qac.1 b4 _ (List.mem_map_of_mem hy)
theorem vW {l:List Chg} {n:Int} (S:Setts) (N:Nat) (h0:0<=n) (h1:n<=999999999) (hl:l.length<=N) (h : ∀ c∈l,vj c=0):(qZ l n S).length<=13260 * N+20/\SzW (qZ l n S):=by
 have hf:=qfM S l h;have he:=qkc h0 h1;unfold qZ;rw [Lf];have:13260 * l.length<=13260 * N:=Nat.mul_le_mul_left _ hl;exact ⟨by omega,SzW.app hf.2 he.2⟩
theorem Blk.app {w w':World} {g:Nat} {t:TypeId} {cs:Array Value} {o o':Option Nat} (h:Blk w g t cs) (hgr:w.grownBy w' o) (hne:some g≠o) (hat:o'=o∨o'=some w.heap.size):Blk w' g t cs/\some g≠o' :=
 ⟨h.grown hgr hne,by
  rcases hat with e | e
  ·rw [e];exact hne
  ·rw [e];intro e;have:=h.lt;injection e;omega⟩
theorem nil_ne {g b:Nat} (h:g≠b) (n c:Nat):some g≠(Value.slice (some ⟨b,0,none⟩) n c).ownBlock:=fun e=>by
 rw [qC] at e;exact h (Option.some.inj e)
theorem qn0 {w:World} {base size n c:Nat} {e:TypeId} {A:Option Addr} {xs:List Value} (h:w.ownsRow base e size (.slice A n c) n xs):some w.heap.size≠(Value.slice A n c).ownBlock:=fun e=>by
 rw [qC] at e;have:=(vB h _ e.symm).2
 omega
theorem law_ListenerComposes (w:World) (hg:Gd w/\Tb w) (m:Md) (A:Option Addr) (n c:Nat) (rs:List RowM) (rd:RdV w w.heap.size m.view A n c rs) (Ak:Option Addr) (nk ck:Nat) (k:List ChgM) (hnk:k.length=nk) (hck:nk<=ck) (hmk:ck<=maxLen) (rk:RdC w w.heap.size Ak nk k)
  (Al:Option Addr) (nl cl':Nat) (l:List ChgM) (hnl:l.length=nl) (hcl:nl<=cl') (hml:cl'<=maxLen) (rl:RdC w w.heap.size Al nl l) (i:Int) (wi:(Lit.int .u8 i).wf=true) (j:Int) (wj:(Lit.int .u8 j).wf=true)
  (r1:Int) (d1 sp1:Bool) (q1:Int) (co1:Bool) (k1:Int) (_:(Lit.int .i64 r1).wf=true) (_:(Lit.int .i64 q1).wf=true) (_:(Lit.int .i64 k1).wf=true) :
  Calls prog 4 #[.agg (mdC m A n c),.slice Ak nk ck,.slice Al nl cl',.int .u8 i,.int .u8 j,stV r1 d1 sp1 q1 co1 k1] w (qh (.bool true) w):=by
 subst hnk hnl;obtain ⟨hg,ht⟩:=hg;obtain ⟨hi0,hi1⟩:=wf_u8 wi;obtain ⟨hj0,hj1⟩:=wf_u8 wj;have ei:wrap64 i=i:=by unfold wrap64;omega
 have ej:wrap64 j=j:=by unfold wrap64;omega
 have es:wrap64 (i+j)=i+j:=by unfold wrap64;omega
 have ei':IntKind.i64.wrap i=i:=by rw [Lx];omega
 have ej':IntKind.i64.wrap j=j:=by rw [Lx];omega
 have es':IntKind.i64.wrap (i+j)=i+j:=by rw [Lx];omega
 clear wi wj;have HA:Hid (∀ X,Below w.heap.size w X->Calls prog 7 #[] X fun e X'=>e = .returned (.bool true)/\Below w.heap.size w X'/\Below X.heap.size X X'):=Lh fun X hX=>bothG (awake42_ X (hg.below hX)) hX
 have HG:Hid (∀ X,Below w.heap.size w X->Calls prog 5 #[.agg (vwC m.view A n c)] X fun e X'=>e = .returned (.bool (qaC m.view))/\Below w.heap.size w X'/\Below X.heap.size X X'):=Lh fun X hX=>bothG (qek m.view A n c w.heap.size rs X (rd.below hX) hX.size) hX
 have HK:Hid (∀ X,Below w.heap.size w X->Calls prog 11 #[.slice Ak k.length ck] X fun e X'=>e = .returned (.bool (qci k))/\Below w.heap.size w X'/\Below X.heap.size X X'):=Lh fun X hX=>bothS (qkB k Ak _ ck w.heap.size X L0 (rk.below hX)) hX
 have HL:Hid (∀ X,Below w.heap.size w X->Calls prog 11 #[.slice Al l.length cl'] X fun e X'=>e = .returned (.bool (qci l))/\Below w.heap.size w X'/\Below X.heap.size X X'):=Lh fun X hX=>bothS (qkB l Al _ cl' w.heap.size X L0 (rl.below hX)) hX
 cases hgr:qaC m.view with
 | true =>
  rw [hgr] at HG;clear hg rd hgr ht HK HL rk rl;generalize k.length=nk at *
  generalize l.length=nl at *
  obtain ⟨⟨W,H,rows,r,cl,vs⟩,U⟩:=m;dsimp only at HG
  go_enter func4,ntmps4
  go_upto_region 1 with fail
  refine qa (Bx2 w ⟨⟨W,H,rows,r,cl,vs⟩,U⟩ A n c r1 d1 sp1 q1 co1 k1) (Bx2.new w _ A n c _ _ _ _ _ _) ?_;intro X hX;obtain ⟨c_0,c_1,c_2,c_3,c_4,c_5,c_6,-,-,-,-,-,-,-⟩:=zd hX.m;dsimp only at c_0 c_1 c_3 c_4 c_5 c_6
  go_wp2_with (first | (go_at_call 5;refine (HG.out _ hX.bel).mono ?_;rintro e w1 ⟨rfl,hb1,hx1⟩;have hX1:=hX.on hx1;obtain ⟨s_0,s_1,s_2,s_3,s_4,s_5⟩:=hX1.setts) | (go_at_call 7;refine (HA.out _ L3).mono ?_;rintro e wa ⟨rfl,hba,hxa⟩))
  go_ret;exact ⟨rfl,hba⟩
 | false =>
  rw [hgr] at HG;have hsm : ∀ x∈rs,x.l.length<=140/\∀ g∈x.l,g.text.size<=40:=fun x hx=>qcF hgr x.l (by rw [rd.2.1];exact kB hx)
  cases hgk:qci k with
  | true =>
   rw [hgk] at HK;clear hg rd hgr ht rk rl hgk hsm;generalize k.length=nk at *
   generalize l.length=nl at *
   obtain ⟨⟨W,H,rows,r,cl,vs⟩,U⟩:=m;dsimp only at HG
   go_enter func4,ntmps4
   go_upto_region 1 with fail
   refine qa (Bx2 w ⟨⟨W,H,rows,r,cl,vs⟩,U⟩ A n c r1 d1 sp1 q1 co1 k1) (Bx2.new w _ A n c _ _ _ _ _ _) ?_;intro X hX;obtain ⟨c_0,c_1,c_2,c_3,c_4,c_5,c_6,-,-,-,-,-,-,-⟩:=zd hX.m;dsimp only at c_0 c_1 c_3 c_4 c_5 c_6
   go_wp2_with (first | (go_at_call 5;refine (HG.out _ hX.bel).mono ?_;rintro e w1 ⟨rfl,hb1,hx1⟩;have hX1:=hX.on hx1;obtain ⟨s_0,s_1,s_2,s_3,s_4,s_5⟩:=hX1.setts) | ((fail_if_success have:=w2);go_at_call 11;refine (HK.out _ hX1.bel).mono ?_;rintro e w2 ⟨rfl,hb2,hx2⟩;have hX2:=hX1.on hx2;obtain ⟨t_0,t_1,t_2,t_3,t_4,t_5⟩:=hX2.setts) | (go_at_call 7;refine (HA.out _ L3).mono ?_;rintro e wa ⟨rfl,hba,hxa⟩))
   go_ret;exact ⟨rfl,hba⟩
  | false =>
   rw [hgk] at HK
   cases hgl:qci l with
   | true =>
    rw [hgl] at HL;clear hg rd hgr ht rk rl hgk hgl hsm;generalize k.length=nk at *
    generalize l.length=nl at *
    obtain ⟨⟨W,H,rows,r,cl,vs⟩,U⟩:=m;dsimp only at HG
    go_enter func4,ntmps4
    go_upto_region 1 with fail
    refine qa (Bx2 w ⟨⟨W,H,rows,r,cl,vs⟩,U⟩ A n c r1 d1 sp1 q1 co1 k1) (Bx2.new w _ A n c _ _ _ _ _ _) ?_;intro X hX;obtain ⟨c_0,c_1,c_2,c_3,c_4,c_5,c_6,-,-,-,-,-,-,-⟩:=zd hX.m;dsimp only at c_0 c_1 c_3 c_4 c_5 c_6
    go_wp2_with (first | (go_at_call 5;refine (HG.out _ hX.bel).mono ?_;rintro e w1 ⟨rfl,hb1,hx1⟩;have hX1:=hX.on hx1;obtain ⟨s_0,s_1,s_2,s_3,s_4,s_5⟩:=hX1.setts) | ((fail_if_success have:=w2);go_at_call 11;refine (HK.out _ hX1.bel).mono ?_;rintro e w2 ⟨rfl,hb2,hx2⟩;have hX2:=hX1.on hx2;obtain ⟨t_0,t_1,t_2,t_3,t_4,t_5⟩:=hX2.setts) | (go_at_call 11;refine (HL.out _ hX2.bel).mono ?_;rintro e w3 ⟨rfl,hb3,hx3⟩;have hX3:=hX2.on hx3;obtain ⟨f_0,f_1,f_2,f_3,f_4,f_5⟩:=hX3.setts) | (go_at_call 7;refine (HA.out _ L3).mono ?_;rintro e wa ⟨rfl,hba,hxa⟩))
    go_ret;exact ⟨rfl,hba⟩
   | false =>
    rw [hgl] at HL;obtain ⟨hk30,hsk⟩:=qga hgk;obtain ⟨hl30,hsl⟩:=qga hgl;have hskl:SmC (k++l):=fun x hx=>(List.mem_append.1 hx).elim (hsk x) (hsl x)
    have HVk : ∀ X,Below w.heap.size w X->Calls prog 12 #[.slice Ak k.length ck,.int .i64 i,stV r1 d1 sp1 q1 co1 k1] X (VwR k i r1 q1 k1 ⟨d1,sp1,q1⟩ X):=fun X hX=>qik k Ak _ ck i r1 d1 sp1 q1 co1 k1 X L0 ((rk.below hX).more hX.size) hsk (ht.below hX)
    have HVl : ∀ X,Below w.heap.size w X->Calls prog 12 #[.slice Al l.length cl',.int .i64 j,stV r1 d1 sp1 q1 co1 k1] X (VwR l j r1 q1 k1 ⟨d1,sp1,q1⟩ X):=fun X hX=>qik l Al _ cl' j r1 d1 sp1 q1 co1 k1 X L0 ((rl.below hX).more hX.size) hsl (ht.below hX)
    have HVc : ∀ X,Below w.heap.size w X->∀ A2 c2 base,X.ownsRow base 57 6 (.slice A2 (k.length+l.length) c2) (k.length+l.length) (kq k++kq l)->Calls prog 12 #[.slice A2 (k.length+l.length) c2,.int .i64 (i+j),stV r1 d1 sp1 q1 co1 k1] X (VwR (k++l) (i+j) r1 q1 k1 ⟨d1,sp1,q1⟩ X):=fun X hX A2 c2 base ho=>by
     have hrc:RdC X X.heap.size A2 (k.length+l.length) (k++l):=⟨by rw [qjj];exact Rd.of_own ho,fun x hx=>by
      rcases List.mem_append.1 hx with hx | hx
      ·exact ⟨((rk.gl x hx).1.below hX).more hX.size,(rk.gl x hx).2⟩
      ·exact ⟨((rl.gl x hx).1.below hX).more hX.size,(rl.gl x hx).2⟩⟩
     exact qik (k++l) A2 _ c2 (i+j) r1 d1 sp1 q1 co1 k1 X L0 hrc hskl (ht.below hX)
    have hrk:=Lh rk.rd;have hrl:=Lh rl.rd;have HP:Hid (∀ X,Below w.heap.size w X->Calls prog 13 #[.agg (mdC m A n c)] X fun e X'=>e = .returned (.bool (vu m))/\Below w.heap.size w X'/\Below X.heap.size X X'):=Lh fun X hX=>bothG (qbM m A n c w.heap.size rs X (rd.below hX) hX.size fun x hx=>⟨Lj (hsm x hx).1 L2,fun g hg=>Lj ((hsm x hx).2 g hg) L2⟩) hX
    by_cases h12:(wErr k i r1 q1 k1=0/\wErr l j r1 q1 k1=0)/\vu m=true
    ·obtain ⟨⟨h1,h2⟩,hpr⟩:=h12;have h3:=qnW h1 h2 ⟨hi0,hi1⟩ ⟨hj0,hj1⟩;have hck : ∀ c∈zo k,vj c=0:=qac.1 (qkN h1).2.2.2;have hcl : ∀ c∈zo l,vj c=0:=qac.1 (qkN h2).2.2.2;have eapp:zo (k++l)=zo k++zo l:=by unfold zo;exact List.map_append
     have lk:(zo k).length<=30:=by rw [zo,Lq];exact hk30
     have ll:(zo l).length<=30:=by rw [zo,Lq];exact hl30
     have z1:=vW ⟨d1,sp1,q1⟩ 30 hi0 L0 lk hck;have z2:=vW ⟨d1,sp1,q1⟩ 30 hj0 L0 ll hcl;have z3:=vW (n:=i+j) ⟨d1,sp1,q1⟩ 60 L0 L0 (show (zo k++zo l).length<=60 by rw [Lf];omega) (fun c hc=>(List.mem_append.1 hc).elim (hck c) (hcl c));have ht2:=qnZ hpr ⟨d1,sp1,q1⟩ hck hcl ⟨hi0,by omega⟩ ⟨hj0,by omega⟩;have hbo:=qn1 hpr ⟨d1,sp1,q1⟩ hck hcl ⟨hi0,hi1⟩ ⟨hj0,hj1⟩;have HT1:Hid (∀ X,Below w.heap.size w X->Calls prog 12 #[.slice Ak k.length ck,.int .i64 i,stV r1 d1 sp1 q1 co1 k1] X (WoT (qZ (zo k) i ⟨d1,sp1,q1⟩) w X)):=Lh fun X hX=>(HVk X hX).mono fun e X' h=>h.good h1 hX
     have HT2:Hid (∀ X,Below w.heap.size w X->Calls prog 12 #[.slice Al l.length cl',.int .i64 j,stV r1 d1 sp1 q1 co1 k1] X (WoT (qZ (zo l) j ⟨d1,sp1,q1⟩) w X)):=Lh fun X hX=>(HVl X hX).mono fun e X' h=>h.good h2 hX
     have HT3:Hid (∀ X,Below w.heap.size w X->∀ A2 c2 base,X.ownsRow base 57 6 (.slice A2 (k.length+l.length) c2) (k.length+l.length) (kq k++kq l)->Calls prog 12 #[.slice A2 (k.length+l.length) c2,.int .i64 (i+j),stV r1 d1 sp1 q1 co1 k1] X (WoT (qZ (zo k++zo l) (i+j) ⟨d1,sp1,q1⟩) w X)):=Lh fun X hX A2 c2 base ho=>(HVc X hX A2 c2 base ho).mono fun e X' h=>by
      have:=h.good h3 hX
      rwa [eapp] at this
     have HH : ∀ (M:Md) (Wd:List ByteArray),(Wd.length<=850000/\SzW Wd)->∀ X A1 n1 c1 rs1 Aw cw,Below w.heap.size w X->RdV X X.heap.size M.view A1 n1 c1 rs1->(∀ y∈rs1,y.l.length<=1000/\∀ g∈y.l,g.text.size<=1000)->Rd X X.heap.size 1 Aw Wd.length (sv Wd)->Wd.length<=cw->cw<=maxLen->Calls prog 8 #[.agg (mdC M A1 n1 c1),.slice Aw Wd.length cw] X fun e X'=>(∃ A4 n4 d4,e = .returned (.tuple #[.agg (mdC (yT M Wd).1 A4 n4 d4),.int .i64 (yT M Wd).2])/\∃ rs4,RdV X' X'.heap.size (yT M Wd).1.view A4 n4 d4 rs4)/\Below w.heap.size w X'/\Below X.heap.size X X':=fun M Wd hz X A1 n1 c1 rs1 Aw cw hX hr hs hw hc hm=>by
      have hg':=hg.below hX;exact (hear_ M A1 n1 c1 X.heap.size rs1 Wd Aw Wd.length cw X hr (Ld _) (fun y hy=>(hs y hy).1) (fun y hy g hg=>Lj ((hs y hy).2 g hg) L2) ⟨rfl,hc,hm,hw,hz.2⟩ hz.1 (qhS hz.1) hg'.1 hg'.2.1 hg'.2.2).mono fun e X' ⟨h1,A4,n4,d4,rs4,h2,h3⟩=>⟨⟨A4,n4,d4,h2,rs4,h3.rdV⟩,hX.trans (h1.mono hX.size),h1⟩
     have hsm2 : ∀ y∈rs,y.l.length<=1000/\∀ g∈y.l,g.text.size<=1000:=fun y hy=>⟨by have:=(hsm y hy).1;omega,fun g hg=>by have:=(hsm y hy).2 g hg;omega⟩
     obtain ⟨W1,hW1⟩ : ∃ W,W=qZ (zo k) i ⟨d1,sp1,q1⟩:=⟨_,rfl⟩
     obtain ⟨W2,hW2⟩ : ∃ W,W=qZ (zo l) j ⟨d1,sp1,q1⟩:=⟨_,rfl⟩
     obtain ⟨W3,hW3⟩ : ∃ W,W=qZ (zo k++zo l) (i+j) ⟨d1,sp1,q1⟩:=⟨_,rfl⟩
     rw [<- hW1] at z1 ht2 hbo HT1;rw [<- hW2] at z2 ht2 hbo HT2;rw [<- hW3] at z3 hbo HT3;obtain ⟨R1,hR1⟩ : ∃ R,R=yT m W1:=⟨_,rfl⟩
     rw [<- hR1] at hbo;obtain ⟨R2,hR2⟩ : ∃ R,R=yT R1.1 W2:=⟨_,rfl⟩
     rw [<- hR2] at hbo;have l1:=z1.1;have l2:=z2.1;have l3:=z3.1;have HA0 : ∀ X Aw cw base,Below w.heap.size w X->X.ownsRow base 9 1 (.slice Aw (W1.length+W2.length) cw) (W1.length+W2.length) (sv W1++sv W2)->Calls prog 8 #[.agg (mdC m A n c),.slice Aw (W1.length+W2.length) cw] X fun e X'=>(∃ A4 n4 d4,e = .returned (.tuple #[.agg #[.int .i64 0,.int .i64 0,.slice A4 n4 d4,.int .i64 0,.int .i64 0,.bool false,.int .i64 0],.int .i64 17]))/\Below w.heap.size w X'/\Below X.heap.size X X':=fun X Aw cw base hX ho=>by
      have hr:=Rd.of_own ho;have hp:=qas ho;rw [<- sv_app,<- Lf] at hr;rw [<- Lf] at hp ⊢;have:=HH m (W1++W2) ⟨by rw [Lf];omega,SzW.app z1.2 z2.2⟩ X A n c rs Aw cw hX ((rd.below hX).more hX.size) hsm2 hr hp.1 hp.2;rw [ht2] at this;exact this.mono fun e X' ⟨⟨A4,n4,d4,h1,_⟩,h2⟩=>⟨⟨A4,n4,d4,h1⟩,h2⟩
     have HB0 : ∀ X Aw cw,Below w.heap.size w X->Rd X X.heap.size 1 Aw W1.length (sv W1)->W1.length<=cw->cw<=maxLen->Calls prog 8 #[.agg (mdC m A n c),.slice Aw W1.length cw] X fun e X'=>(∃ A4 n4 d4,e = .returned (.tuple #[.agg (mdC R1.1 A4 n4 d4),.int .i64 R1.2])/\∃ rs4,RdV X' X'.heap.size R1.1.view A4 n4 d4 rs4)/\Below w.heap.size w X'/\Below X.heap.size X X':=fun X Aw cw hX hr hc hm=>by
      have:=HH m W1 ⟨by omega,z1.2⟩ X A n c rs Aw cw hX ((rd.below hX).more hX.size) hsm2 hr hc hm
      rwa [<- hR1] at this
     have HC0:R1.2=0->∀ X A1 n1 c1 Aw cw,Below w.heap.size w X->(∃ rs1,RdV X X.heap.size R1.1.view A1 n1 c1 rs1)->Rd X X.heap.size 1 Aw W2.length (sv W2)->W2.length<=cw->cw<=maxLen->Calls prog 8 #[.agg (mdC R1.1 A1 n1 c1),.slice Aw W2.length cw] X fun e X'=>(∃ A4 n4 d4,e = .returned (.tuple #[.agg (mdC R2.1 A4 n4 d4),.int .i64 R2.2])/\∃ rs4,RdV X' X'.heap.size R2.1.view A4 n4 d4 rs4)/\Below w.heap.size w X'/\Below X.heap.size X X':=fun h0 X A1 n1 c1 Aw cw hX ⟨rs1,h1⟩ hr hc hm=>by
      have hp:vu R1.1=true:=by rw [hR1] at h0 ⊢;exact qcL h0
      have:=HH R1.1 W2 ⟨by omega,z2.2⟩ X A1 n1 c1 rs1 Aw cw hX h1 (fun y hy=>by have:=qfj hp h1 y hy;exact ⟨by omega,fun g hg=>by have:=this.2 g hg;omega⟩) hr hc hm
      rwa [<- hR2] at this
     have HD0:R1.2=0->R2.2=0->∀ X Aw cw,Below w.heap.size w X->Rd X X.heap.size 1 Aw W3.length (sv W3)->W3.length<=cw->cw<=maxLen->Calls prog 8 #[.agg (mdC m A n c),.slice Aw W3.length cw] X fun e X'=>(∃ A4 n4 d4,e = .returned (.tuple #[.agg (mdC R2.1 A4 n4 d4),.int .i64 0])/\∃ rs4,RdV X' X'.heap.size R2.1.view A4 n4 d4 rs4)/\Below w.heap.size w X'/\Below X.heap.size X X':=fun h1 h2 X Aw cw hX hr hc hm=>by
      have:=HH m W3 ⟨by omega,z3.2⟩ X A n c rs Aw cw hX ((rd.below hX).more hX.size) hsm2 hr hc hm
      rwa [hbo h1 h2,h2] at this
     have HS0:R2.2=0->∀ X A1 n1 c1 A2 n2 c2,Below w.heap.size w X->(∃ rs1,RdV X X.heap.size R2.1.view A1 n1 c1 rs1)->(∃ rs2,RdV X X.heap.size R2.1.view A2 n2 c2 rs2)->Calls prog 10 #[.agg (mdC R2.1 A1 n1 c1),.agg (mdC R2.1 A2 n2 c2)] X fun e X'=>e = .returned (.bool true)/\Below w.heap.size w X'/\Below X.heap.size X X':=fun h0 X A1 n1 c1 A2 n2 c2 hX ⟨rs1,h1⟩ ⟨rs2,h2⟩=>by
      obtain rfl:n1=n2:=h1.len.symm.trans h2.len;refine bothG (rsame42_ R2.1 A1 A2 n1 c1 c2 X.heap.size rs1 rs2 X h1 h2 (Ld _) fun x hx=>?_) hX;have hp:vu R2.1=true:=by rw [hR2] at h0 ⊢;exact qcL h0
      have:=(qfj hp h1 x hx).1
      omega
     rw [hpr] at HP;have hkl:k.length<=30:=hk30;clear HH hR1 hR2 hbo ht2 z1 z2 z3 hW1 hW2 hW3 eapp lk ll hck hcl h1 h2 h3 hpr hg rd hgr ht rk rl hgk hgl hsm hsm2 HVk HVl HVc hsk hsl hskl;obtain ⟨⟨W,H,rows,r,cl,vs⟩,U⟩:=m;obtain ⟨⟨⟨xW,xH,xrows,xr,xy,xv⟩,xU⟩,xE⟩:=R1;obtain ⟨⟨⟨zW,zH,zrows,zr,zy,zv⟩,zU⟩,zE⟩:=R2;dsimp only at HG;have HA1:Hid (∀ X,Below w.heap.size w X->∀ Aw cw base,X.ownsRow base 9 1 (.slice Aw (W1.length+W2.length) cw) (W1.length+W2.length) (sv W1++sv W2)->Calls prog 8 #[.agg #[.int .i64 W,.int .i64 H,.slice A n c,.int .i64 r,.int .i64 cl,.bool vs,.int .i64 U],.slice Aw (W1.length+W2.length) cw] X fun e X'=>(∃ A4 n4 d4,e = .returned (.tuple #[.agg #[.int .i64 0,.int .i64 0,.slice A4 n4 d4,.int .i64 0,.int .i64 0,.bool false,.int .i64 0],.int .i64 17]))/\Below w.heap.size w X'/\Below X.heap.size X X'):=Lh fun X hX Aw cw base ho=>HA0 X Aw cw base hX ho
     have HB1:Hid (∀ X Aw cw,Below w.heap.size w X->(Rd X X.heap.size 1 Aw W1.length (sv W1))->W1.length<=cw->cw<=maxLen->Calls prog 8 #[.agg #[.int .i64 W,.int .i64 H,.slice A n c,.int .i64 r,.int .i64 cl,.bool vs,.int .i64 U],.slice Aw W1.length cw] X fun e X'=>(∃ A4 n4 d4,e = .returned (.tuple #[.agg #[.int .i64 xW,.int .i64 xH,.slice A4 n4 d4,.int .i64 xr,.int .i64 xy,.bool xv,.int .i64 xU],.int .i64 xE])/\(∃ rs4,RdV X' X'.heap.size ⟨xW,xH,xrows,xr,xy,xv⟩ A4 n4 d4 rs4))/\Below w.heap.size w X'/\Below X.heap.size X X'):=Lh HB0;have HC1:Hid (xE=0->∀ X A1 n1 c1 Aw cw,Below w.heap.size w X->(∃ rs4,RdV X X.heap.size ⟨xW,xH,xrows,xr,xy,xv⟩ A1 n1 c1 rs4)->(Rd X X.heap.size 1 Aw W2.length (sv W2))->W2.length<=cw->cw<=maxLen->Calls prog 8 #[.agg #[.int .i64 xW,.int .i64 xH,.slice A1 n1 c1,.int .i64 xr,.int .i64 xy,.bool xv,.int .i64 xU],.slice Aw W2.length cw] X fun e X'=>(∃ A4 n4 d4,e = .returned (.tuple #[.agg #[.int .i64 zW,.int .i64 zH,.slice A4 n4 d4,.int .i64 zr,.int .i64 zy,.bool zv,.int .i64 zU],.int .i64 zE])/\(∃ rs4,RdV X' X'.heap.size ⟨zW,zH,zrows,zr,zy,zv⟩ A4 n4 d4 rs4))/\Below w.heap.size w X'/\Below X.heap.size X X'):=Lh HC0;have HD1:Hid (xE=0->zE=0->∀ X Aw cw,Below w.heap.size w X->(Rd X X.heap.size 1 Aw W3.length (sv W3))->W3.length<=cw->cw<=maxLen->Calls prog 8 #[.agg #[.int .i64 W,.int .i64 H,.slice A n c,.int .i64 r,.int .i64 cl,.bool vs,.int .i64 U],.slice Aw W3.length cw] X fun e X'=>(∃ A4 n4 d4,e = .returned (.tuple #[.agg #[.int .i64 zW,.int .i64 zH,.slice A4 n4 d4,.int .i64 zr,.int .i64 zy,.bool zv,.int .i64 zU],.int .i64 0])/\(∃ rs4,RdV X' X'.heap.size ⟨zW,zH,zrows,zr,zy,zv⟩ A4 n4 d4 rs4))/\Below w.heap.size w X'/\Below X.heap.size X X'):=Lh HD0
     have HS1:Hid (zE=0->∀ X A1 n1 c1 A2 n2 c2,Below w.heap.size w X->(∃ rs4,RdV X X.heap.size ⟨zW,zH,zrows,zr,zy,zv⟩ A1 n1 c1 rs4)->(∃ rs4,RdV X X.heap.size ⟨zW,zH,zrows,zr,zy,zv⟩ A2 n2 c2 rs4)->Calls prog 10 #[.agg #[.int .i64 zW,.int .i64 zH,.slice A1 n1 c1,.int .i64 zr,.int .i64 zy,.bool zv,.int .i64 zU],.agg #[.int .i64 zW,.int .i64 zH,.slice A2 n2 c2,.int .i64 zr,.int .i64 zy,.bool zv,.int .i64 zU]] X fun e X'=>e = .returned (.bool true)/\Below w.heap.size w X'/\Below X.heap.size X X'):=Lh HS0;clear HA0 HB0 HC0 HD0 HS0;have h00:((0:Int) != 0)=false:=rfl;have h17:((17:Int) != 17)=false:=rfl;have h0e:((0:Int)==0)=true:=rfl
     go_enter func4,ntmps4
     go_upto_region 1 with fail
     refine qa (Bx2 w ⟨⟨W,H,rows,r,cl,vs⟩,U⟩ A n c r1 d1 sp1 q1 co1 k1) (Bx2.new w _ A n c _ _ _ _ _ _) ?_;intro X hX;obtain ⟨c_0,c_1,c_2,c_3,c_4,c_5,c_6,-,-,-,-,-,-,-⟩:=zd hX.m;dsimp only at c_0 c_1 c_3 c_4 c_5 c_6
     go_upto_region 5 with (first | (go_at_call 5;refine (HG.out _ hX.bel).mono ?_;rintro e w1 ⟨rfl,hb1,hx1⟩;have hX1:=hX.on hx1;obtain ⟨s_0,s_1,s_2,s_3,s_4,s_5⟩:=hX1.setts) | ((fail_if_success have:=w2);go_at_call 11;refine (HK.out _ hX1.bel).mono ?_;rintro e w2 ⟨rfl,hb2,hx2⟩;have hX2:=hX1.on hx2;obtain ⟨t_0,t_1,t_2,t_3,t_4,t_5⟩:=hX2.setts) | (go_at_call 11;refine (HL.out _ hX2.bel).mono ?_;rintro e w3 ⟨rfl,hb3,hx3⟩;have hX3:=hX2.on hx3;obtain ⟨f_0,f_1,f_2,f_3,f_4,f_5⟩:=hX3.setts) | ((fail_if_success have:=w4);go_at_call 12;refine (HT1.out _ hX3.bel).mono ?_;rintro e w4 ⟨⟨A4,c4,rfl,o4⟩,hb4,hx4⟩;have hX4:=hX3.on hx4;obtain ⟨g_0,g_1,g_2,g_3,g_4,g_5⟩:=hX4.setts) | (go_at_call 12;refine (HT2.out _ hX4.bel).mono ?_;rintro e w5 ⟨⟨A5,c5,rfl,o5⟩,hb5,hx5⟩;have hX5:=hX4.on hx5))
     have o4':=qb o4 hx5;have q4:(Rd w5 w5.heap.size 1 A4 W1.length (sv W1)):=Rd.of_own o4';have p4:=qas o4';have q5:(Rd w5 w5.heap.size 1 A5 W2.length (sv W2)):=Rd.of_own o5;have p5:=qas o5;clear o4 o4' o5 HT1 HT2 HG HK HL
     go_cut [17,18] (fun v17 v18 Y=>∃ A6 c6,v17 = .slice A6 W3.length c6/\v18 = .int .i64 0/\((Rd Y Y.heap.size 1 A6 W3.length (sv W3))/\W3.length<=c6/\c6<=maxLen)/\Below w5.heap.size w5 Y)
     case first =>
      clear q4 q5 p4 p5 HA1 HB1 HC1 HD1 HS1;have HSK:Hid (∀ w',Below w5.heap.size w5 w'->StBox w' r1 d1 sp1 q1 co1 k1 (w.heap.size+1)):=Lh fun w' h=>(hX5.on h).setts
      obtain ⟨_,_,_,_,_,_⟩:=HSK.out _ (Le w5.heap.size w5);obtain ⟨_,_,_,_,_,_⟩:=HSK.out _ (Le w5.heap.size w5).drew;have hlt5:w.heap.size+1<w5.heap.size:=hX5.s.lt;clear c_0 c_1 c_2 c_3 c_4 c_5 c_6 s_0 s_1 s_2 s_3 s_4 s_5 t_0 t_1 t_2 t_3 t_4 t_5 f_0 f_1 f_2 f_3 f_4 f_5 g_0 g_1 g_2 g_3 g_4 g_5 hX hX1 hX2 hX3 hX4 hb1 hb2 hb3 hb4 hx1 hx2 hx3 hx4
      try (go_upto_region 5 with fail)
      go_region_law (first
       | ((fail_if_success have:=hown8);refine jZ rfl _ _ _ rfl qmi (w5.heap.size) _ rfl ((by first | exact qx (xs:=[]) rfl rfl (Ld _) L0 | exact qb (qx (xs:=[]) rfl rfl (Ld _) L0) (Le _ _).drew)) _ _ rfl ((hrk.out.below (Below.trans hb5 (Below.mono (ql8:Below w5.heap.size w5 _) hb5.size)))) (vH _) ?_;intro A8 c8 w8 hown8 hbel8 hgr8 hat8;have z8:=hbel8.size;(try simp only [Lo,Lg] at hown8);have t8:Below w5.heap.size w5 w8:=Below.trans ql8 hbel8;have y8:=t8.size;have hlt8:w.heap.size+1<w8.heap.size:=L0;obtain ⟨_,_,_,_,_,_⟩:=HSK.out _ t8)
       | (refine jZ rfl _ _ _ rfl qmi (w5.heap.size) _ rfl (hown8) _ _ rfl ((hrl.out.below (Below.trans hb5 (Below.mono t8 hb5.size)))) (vH _) ?_;intro A9 c9 w9 hown9 hbel9 hgr9 hat9;have z9:=hbel9.size;(try simp only [Lo,Lg] at hown9);have t9:=t8.trans hbel9;have y9:=t9.size;have hlt9:w.heap.size+1<w9.heap.size:=L0;obtain ⟨_,_,_,_,_,_⟩:=HSK.out _ t9)
       | (go_simp;go_at_call 12;refine (HT3.out _ (hb5.trans (t9.mono hb5.size)) _ _ _ hown9).mono ?_;rintro e w10 ⟨⟨A10,c10,rfl,o10⟩,hb10,hx10⟩))
      all_goals
       go_wp2_with fail
       go_meet;exact ⟨A10,c10,rfl,rfl,⟨Rd.of_own o10,qas o10⟩,t9.trans (hx10.mono t9.size)⟩
     case rest =>
      obtain ⟨A6,c6,rfl,rfl,⟨q6,p6⟩,hbY⟩:=hcut;have hX6:=hX5.on hbY;clear c_0 c_1 c_2 c_3 c_4 c_5 c_6 s_0 s_1 s_2 s_3 s_4 s_5 t_0 t_1 t_2 t_3 t_4 t_5 f_0 f_1 f_2 f_3 f_4 f_5 g_0 g_1 g_2 g_3 g_4 g_5 hX hX1 hX2 hX3 hX4 hb1 hb2 hb3 hb4 hx1 hx2 hx3 hx4 hX5 hb5 hx5 HT3 hrk hrl;replace q4:=(q4.below hbY).more hbY.size;replace q5:=(q5.below hbY).more hbY.size;obtain ⟨w6,rfl⟩ : ∃ x:World,x=wc:=⟨_,rfl⟩
      clear hbY;obtain ⟨c_0,c_1,c_2,c_3,c_4,c_5,c_6,-,-,-,-,-,-,-⟩:=zd hX6.m;dsimp only at c_0 c_1 c_3 c_4 c_5 c_6
      go_upto_region 8 with (go_at_call 13;refine (HP.out _ hX6.bel).mono ?_;rintro e w7 ⟨rfl,hb7,hx7⟩)
      have hX7:=hX6.on hx7;replace q4:=(q4.below hx7).more hx7.size;replace q5:=(q5.below hx7).more hx7.size;replace q6:=(q6.below hx7).more hx7.size;clear c_0 c_1 c_2 c_3 c_4 c_5 c_6 hX6 hb7 hx7 HP
      go_cut [20] (fun v Y=>v = .int .i64 17/\Below w7.heap.size w7 Y)
      case first =>
       clear HB1 HC1 HD1 HS1 q6 p6;have hlt7:w.heap.size+1<w7.heap.size:=hX7.s.lt;have HCM:Hid (∀ w',Below w7.heap.size w7 w'->w'.cell? ⟨w.heap.size,0,none⟩=some (.int .i64 W)/\w'.cell? ⟨w.heap.size,1,none⟩=some (.int .i64 H)/\w'.cell? ⟨w.heap.size,2,none⟩=some (.slice A n c)/\w'.cell? ⟨w.heap.size,3,none⟩=some (.int .i64 r)/\w'.cell? ⟨w.heap.size,4,none⟩=some (.int .i64 cl)/\w'.cell? ⟨w.heap.size,5,none⟩=some (.bool vs)/\w'.cell? ⟨w.heap.size,6,none⟩=some (.int .i64 U)):=Lh fun w' h=>by
        have hm:=(hX7.on h).m;exact ⟨hm.cell 0,hm.cell 1,hm.cell 2,hm.cell 3,hm.cell 4,hm.cell 5,hm.cell 6⟩
       go_region_held3 (fun w'=>w'.cell? ⟨w.heap.size,0,none⟩=some (.int .i64 W)/\w'.cell? ⟨w.heap.size,1,none⟩=some (.int .i64 H)/\w'.cell? ⟨w.heap.size,2,none⟩=some (.slice A n c)/\w'.cell? ⟨w.heap.size,3,none⟩=some (.int .i64 r)/\w'.cell? ⟨w.heap.size,4,none⟩=some (.int .i64 cl)/\w'.cell? ⟨w.heap.size,5,none⟩=some (.bool vs)/\w'.cell? ⟨w.heap.size,6,none⟩=some (.int .i64 U)) (first | (refine HCM.out _ ?_;refine Below.setCell ?_ L6 _;(repeat refine Below.setCell ?_ L6 _);with_reducible exact t10) | (refine HCM.out _ ?_;(repeat (first | exact Le _ _ | assumption | refine Below.drew ?_ | refine Below.alloc ?_ L6 _ | refine Below.setCell ?_ L6 _));done) | go_keep) (first
        | ((fail_if_success have:=hown8);refine jZ rfl _ _ _ rfl qp (w7.heap.size) _ rfl ((by first | (with_reducible exact qb (qx (w:=w7) (xs:=[]) (e:=9) rfl L1 (Ld _) L0) (Le _ _).drew) | (with_reducible exact qb (World.ownsRow.alloc (qx (w:=w7) (xs:=[]) (e:=9) rfl L1 (Ld _) L0) _) (Le _ _).drew) | (with_reducible exact qb (qx (w:=w7.alloc _) (xs:=[]) (e:=9) L1 L1 L1 L0) (Le _ _).drew))) _ _ rfl ((q4.below (ql8:Below w7.heap.size w7 _))) ((sv_one _)) ?_;intro A8 c8 w8 hown8 hbel8 hgr8 hat8;have z8:=hbel8.size;have hown7:=hown8;simp only [Lo,Lg] at hown7;have t8:Below w7.heap.size w7 w8:=Below.trans (ql8:Below w7.heap.size w7 _) hbel8;have y8:=t8.size;(first
          | (with_reducible have BN:=Blk.app (Blk.drew ((Blk.new_ (w:=w7) (t:=26) (cs:=#[.int .i64 0,.int .i64 0,.slice none 0 0,.int .i64 0,.int .i64 0,.bool false,.int .i64 0]) (g:=w7.heap.size) rfl).alloc (.cells #[] 9))) hgr8 (nil_ne L0 _ _) hat8;obtain ⟨B8,N8⟩:=BN;obtain ⟨z0,z1,z2,z3,z4,z5,z6,y0,y1,y2,y3,y4,y5,y6⟩:=zd (m:=md0) (A:=none) (n:=0) (c:=0) B8;dsimp only [md0,vw0] at z0 z1 z3 z4 z5 z6)
          | (with_reducible have BN:=Blk.app (Blk.drew (Blk.new_ (w:=w7.alloc (.cells #[] 9)) (t:=26) (cs:=#[.int .i64 0,.int .i64 0,.slice none 0 0,.int .i64 0,.int .i64 0,.bool false,.int .i64 0]) (g:=w7.heap.size+1) L1)) hgr8 (nil_ne L0 _ _) hat8;obtain ⟨B8,N8⟩:=BN;obtain ⟨z0,z1,z2,z3,z4,z5,z6,y0,y1,y2,y3,y4,y5,y6⟩:=zd (m:=md0) (A:=none) (n:=0) (c:=0) B8;dsimp only [md0,vw0] at z0 z1 z3 z4 z5 z6)
          | skip))
        | ((fail_if_success have:=hown9);refine jZ rfl _ _ _ rfl qp (w7.heap.size) _ rfl ((by first | (with_reducible exact hown8) | (with_reducible exact hown7) | (with_reducible exact World.ownsRow.alloc hown7 _) | (with_reducible exact World.ownsRow.alloc hown8 _))) _ _ rfl ((q5.below (ql8:Below w7.heap.size w7 _))) ((sv_one _)) ?_;intro A9 c9 w9 hown9 hbel9 hgr9 hat9;have z9:=hbel9.size;(try simp only [Lo,Lg] at hown9);have t9:Below w7.heap.size w7 w9:=Below.trans (ql8:Below w7.heap.size w7 _) hbel9;have y9:=t9.size;(first
          | (with_reducible have BN:=Blk.app B8 hgr9 N8 hat9;obtain ⟨B9,N9⟩:=BN;obtain ⟨z0,z1,z2,z3,z4,z5,z6,y0,y1,y2,y3,y4,y5,y6⟩:=zd (m:=md0) (A:=none) (n:=0) (c:=0) B9;dsimp only [md0,vw0] at z0 z1 z3 z4 z5 z6)
          | (with_reducible have BN:=Blk.app (Blk.new_ (w:=w8) (t:=26) (cs:=#[.int .i64 0,.int .i64 0,.slice none 0 0,.int .i64 0,.int .i64 0,.bool false,.int .i64 0]) (g:=w8.heap.size) rfl) hgr9 (qn0 hown7) hat9;obtain ⟨B9,N9⟩:=BN;obtain ⟨z0,z1,z2,z3,z4,z5,z6,y0,y1,y2,y3,y4,y5,y6⟩:=zd (m:=md0) (A:=none) (n:=0) (c:=0) B9;dsimp only [md0,vw0] at z0 z1 z3 z4 z5 z6)
          | skip))
        | (go_at_call 8;refine (HA1.out _ (hX7.bel.trans ((ql8:Below w7.heap.size w7 _).mono hX7.bel.size)) _ _ _ (by first | (with_reducible exact hown9) | (with_reducible exact World.ownsRow.alloc hown9 _))).mono ?_;rintro e w10 ⟨⟨A10,n10,d10,rfl⟩,hb10,hx10⟩;have t10:Below w7.heap.size w7 w10:=Below.trans (ql8:Below w7.heap.size w7 _) (hx10.mono (by first | omega | (simp;omega)));have y10:=t10.size;(first
          | (with_reducible have B10:=B9.below hx10 B9.lt;obtain ⟨z0,z1,z2,z3,z4,z5,z6,y0,y1,y2,y3,y4,y5,y6⟩:=zd (m:=md0) (A:=none) (n:=0) (c:=0) B10;dsimp only [md0,vw0] at z0 z1 z3 z4 z5 z6)
          | (with_reducible have B10:=Blk.below (Blk.new_ (w:=w9) (t:=26) (cs:=#[.int .i64 0,.int .i64 0,.slice none 0 0,.int .i64 0,.int .i64 0,.bool false,.int .i64 0]) (g:=w9.heap.size) rfl) hx10 L1;obtain ⟨z0,z1,z2,z3,z4,z5,z6,y0,y1,y2,y3,y4,y5,y6⟩:=zd (m:=md0) (A:=none) (n:=0) (c:=0) B10;dsimp only [md0,vw0] at z0 z1 z3 z4 z5 z6)
          | skip)))
       all_goals
        go_wp2_with fail
        go_meet;refine ⟨rfl,?_⟩
        (repeat refine Below.setCell ?_ L6 _);(first | (with_reducible exact t10) | (refine Below.alloc ?_ L6 _;with_reducible exact t10))
      case rest =>
       obtain ⟨rfl,hbY⟩:=hcut;have hX8:=hX7.on hbY;replace q4:=(q4.below hbY).more hbY.size;replace q5:=(q5.below hbY).more hbY.size;replace q6:=(q6.below hbY).more hbY.size;obtain ⟨w8,rfl⟩ : ∃ x:World,x=wc:=⟨_,rfl⟩
       clear hbY hX7 HA1;obtain ⟨c_0,c_1,c_2,c_3,c_4,c_5,c_6,-,-,-,-,-,-,-⟩:=zd hX8.m;dsimp only at c_0 c_1 c_3 c_4 c_5 c_6
       go_upto_region 12 with (go_at_call 8;refine (HB1.out _ _ _ hX8.bel q4 p4.1 p4.2).mono ?_;rintro e w9 ⟨⟨A9,n9,d9,rfl,hr9⟩,hb9,hx9⟩)
       refine qa (fun Z=>Below w9.heap.size w9 Z/\Blk Z w9.heap.size 26 (mdC ⟨⟨xW,xH,xrows,xr,xy,xv⟩,xU⟩ A9 n9 d9)) ⟨L5,Blk.new_ rfl⟩ ?_;rintro Z ⟨hZ,hBx⟩;have hXZ:=(hX8.on hx9).on hZ;replace q5:=(((q5.below hx9).more hx9.size).below hZ).more hZ.size;replace q6:=(((q6.below hx9).more hx9.size).below hZ).more hZ.size;replace hr9:(∃ rs4,RdV Z Z.heap.size ⟨xW,xH,xrows,xr,xy,xv⟩ A9 n9 d9 rs4):=hr9.imp fun _ h=>(h.below hZ).more hZ.size
       clear c_0 c_1 c_2 c_3 c_4 c_5 c_6 hX8 q4 hb9 hx9 hZ HB1;have hbZ:=hXZ.bel
       by_cases hx0:xE=0
       ·subst hx0;replace HC1:=Lh (HC1.out rfl);replace HD1:=Lh (HD1.out rfl);obtain ⟨x_0,x_1,x_2,x_3,x_4,x_5,x_6,-,-,-,-,-,-,-⟩:=zd hBx;dsimp only at x_0 x_1 x_3 x_4 x_5 x_6
        go_upto_region 15 with (go_at_call 8;refine (HC1.out _ _ _ _ _ _ hbZ hr9 q5 p5.1 p5.2).mono ?_;rintro e w11 ⟨⟨A11,n11,d11,rfl,hr11⟩,hb11,hx11⟩)
        refine qa (fun V=>Below w11.heap.size w11 V/\Blk V w11.heap.size 26 (mdC ⟨⟨zW,zH,zrows,zr,zy,zv⟩,zU⟩ A11 n11 d11)) ⟨L5,Blk.new_ rfl⟩ ?_;rintro V ⟨hV,hBy⟩;have hXV:=(hXZ.on hx11).on hV;replace q6:=(((q6.below hx11).more hx11.size).below hV).more hV.size;replace hr11:(∃ rs4,RdV V V.heap.size ⟨zW,zH,zrows,zr,zy,zv⟩ A11 n11 d11 rs4):=hr11.imp fun _ h=>(h.below hV).more hV.size
        clear x_0 x_1 x_2 x_3 x_4 x_5 x_6 hXZ hBx q5 hb11 hx11 hV HC1 hbZ hr9;have hbV:=hXV.bel
        by_cases hz0:zE=0
        ·subst hz0;replace HD1:=Lh (HD1.out rfl);replace HS1:=Lh (HS1.out rfl);obtain ⟨c_0,c_1,c_2,c_3,c_4,c_5,c_6,-,-,-,-,-,-,-⟩:=zd hXV.m;dsimp only at c_0 c_1 c_3 c_4 c_5 c_6
         go_upto_region 18 with (go_at_call 8;refine (HD1.out _ _ _ hbV q6 p6.1 p6.2).mono ?_;rintro e w13 ⟨⟨A13,n13,d13,rfl,hr13⟩,hb13,hx13⟩)
         refine qa (fun T=>Below w13.heap.size w13 T/\Blk T w13.heap.size 26 (mdC ⟨⟨zW,zH,zrows,zr,zy,zv⟩,zU⟩ A13 n13 d13)) ⟨L5,Blk.new_ rfl⟩ ?_;rintro T ⟨hT,hBz⟩;have hBv:=(hBy.below hx13 hBy.lt).below hT (Ly hBy.lt hx13.size);replace hr11:(∃ rs4,RdV T T.heap.size ⟨zW,zH,zrows,zr,zy,zv⟩ A11 n11 d11 rs4):=hr11.imp fun _ h=>(((h.below hx13).more hx13.size).below hT).more hT.size
         replace hr13:(∃ rs4,RdV T T.heap.size ⟨zW,zH,zrows,zr,zy,zv⟩ A13 n13 d13 rs4):=hr13.imp fun _ h=>(h.below hT).more hT.size
         have hbT:=hb13.trans (hT.mono hb13.size);clear c_0 c_1 c_2 c_3 c_4 c_5 c_6 hXV hBy q6 hb13 hx13 hT HD1 hbV;obtain ⟨x_0,x_1,x_2,x_3,x_4,x_5,x_6,-,-,-,-,-,-,-⟩:=zd hBv;dsimp only at x_0 x_1 x_3 x_4 x_5 x_6;obtain ⟨y_0,y_1,y_2,y_3,y_4,y_5,y_6,-,-,-,-,-,-,-⟩:=zd hBz;dsimp only at y_0 y_1 y_3 y_4 y_5 y_6
         go_wp2_with (first
          | (go_at_call 10;refine (HS1.out _ _ _ _ _ _ _ hbT hr11 hr13).mono ?_;rintro e w15 ⟨rfl,hb15,hx15⟩)
          | (go_at_call 7;refine (HA.out _ L3).mono ?_;rintro e wa ⟨rfl,hba,hxa⟩))
         go_ret;exact ⟨rfl,hba⟩
        ·have hne:(zE != 0)=true:=Ln.2 hz0
         go_wp2_with (go_at_call 7;refine (HA.out _ L3).mono ?_;rintro e wa ⟨rfl,hba,hxa⟩)
         go_ret;exact ⟨rfl,hba⟩
       ·have hne:(xE != 0)=true:=Ln.2 hx0
        go_wp2_with (go_at_call 7;refine (HA.out _ L3).mono ?_;rintro e wa ⟨rfl,hba,hxa⟩)
        go_ret;exact ⟨rfl,hba⟩
    ·have HE1:Hid (∀ X,Below w.heap.size w X->Calls prog 12 #[.slice Ak k.length ck,.int .i64 i,stV r1 d1 sp1 q1 co1 k1] X (WoE (wErr k i r1 q1 k1) w X)):=Lh fun X hX=>(HVk X hX).mono fun e X' h=>h.any hX
     have HE2:Hid (∀ X,Below w.heap.size w X->Calls prog 12 #[.slice Al l.length cl',.int .i64 j,stV r1 d1 sp1 q1 co1 k1] X (WoE (wErr l j r1 q1 k1) w X)):=Lh fun X hX=>(HVl X hX).mono fun e X' h=>h.any hX
     have HE3:Hid (∀ X,Below w.heap.size w X->∀ A2 c2 base,X.ownsRow base 57 6 (.slice A2 (k.length+l.length) c2) (k.length+l.length) (kq k++kq l)->Calls prog 12 #[.slice A2 (k.length+l.length) c2,.int .i64 (i+j),stV r1 d1 sp1 q1 co1 k1] X (WoE (wErr (k++l) (i+j) r1 q1 k1) w X)):=Lh fun X hX A2 c2 base ho=>(HVc X hX A2 c2 base ho).mono fun e X' h=>h.any hX
     have h3:wErr k i r1 q1 k1=0->wErr l j r1 q1 k1=0->wErr (k++l) (i+j) r1 q1 k1=0:=fun h1 h2=>qnW h1 h2 ⟨hi0,hi1⟩ ⟨hj0,hj1⟩
     generalize wErr k i r1 q1 k1=E1 at *
     generalize wErr l j r1 q1 k1=E2 at *
     generalize wErr (k++l) (i+j) r1 q1 k1=E3 at *
     generalize hpr:vu m=bp at *
     clear hg rd hgr ht rk rl hgk hgl hsm HVk HVl HVc hsk hsl hskl hpr;obtain ⟨⟨W,H,rows,r,cl,vs⟩,U⟩:=m;dsimp only at HG
     by_cases h1:E1=0
     ·subst h1;have h00:((0:Int) != 0)=false:=rfl
      by_cases h2':E2=0
      ·subst h2';obtain rfl:bp=false:=Bool.eq_false_iff.2 fun h=>h12 ⟨⟨rfl,rfl⟩,h⟩
       obtain rfl:E3=0:=h3 rfl rfl;clear h12 h3
       go_enter func4,ntmps4
       go_upto_region 1 with fail
       refine qa (Bx2 w ⟨⟨W,H,rows,r,cl,vs⟩,U⟩ A n c r1 d1 sp1 q1 co1 k1) (Bx2.new w _ A n c _ _ _ _ _ _) ?_;intro X hX;obtain ⟨c_0,c_1,c_2,c_3,c_4,c_5,c_6,-,-,-,-,-,-,-⟩:=zd hX.m;dsimp only at c_0 c_1 c_3 c_4 c_5 c_6
       go_upto_region 5 with (first | (go_at_call 5;refine (HG.out _ hX.bel).mono ?_;rintro e w1 ⟨rfl,hb1,hx1⟩;have hX1:=hX.on hx1;obtain ⟨s_0,s_1,s_2,s_3,s_4,s_5⟩:=hX1.setts) | ((fail_if_success have:=w2);go_at_call 11;refine (HK.out _ hX1.bel).mono ?_;rintro e w2 ⟨rfl,hb2,hx2⟩;have hX2:=hX1.on hx2;obtain ⟨t_0,t_1,t_2,t_3,t_4,t_5⟩:=hX2.setts) | (go_at_call 11;refine (HL.out _ hX2.bel).mono ?_;rintro e w3 ⟨rfl,hb3,hx3⟩;have hX3:=hX2.on hx3;obtain ⟨f_0,f_1,f_2,f_3,f_4,f_5⟩:=hX3.setts) | ((fail_if_success have:=w4);go_at_call 12;refine (HE1.out _ hX3.bel).mono ?_;rintro e w4 ⟨⟨A4,n4,c4,rfl⟩,hb4,hx4⟩;have hX4:=hX3.on hx4;obtain ⟨g_0,g_1,g_2,g_3,g_4,g_5⟩:=hX4.setts) | (go_at_call 12;refine (HE2.out _ hX4.bel).mono ?_;rintro e w5 ⟨⟨A5,n5,c5,rfl⟩,hb5,hx5⟩;have hX5:=hX4.on hx5))
       have HSK:Hid (∀ w',Below w5.heap.size w5 w'->StBox w' r1 d1 sp1 q1 co1 k1 (w.heap.size+1)):=Lh fun w' h=>(hX5.on h).setts
       obtain ⟨_,_,_,_,_,_⟩:=HSK.out _ (Le w5.heap.size w5);obtain ⟨_,_,_,_,_,_⟩:=HSK.out _ (Le w5.heap.size w5).drew;have hlt5:w.heap.size+1<w5.heap.size:=hX5.s.lt;clear c_0 c_1 c_2 c_3 c_4 c_5 c_6 s_0 s_1 s_2 s_3 s_4 s_5 t_0 t_1 t_2 t_3 t_4 t_5 f_0 f_1 f_2 f_3 f_4 f_5 g_0 g_1 g_2 g_3 g_4 g_5 hX hX1 hX2 hX3 hX4 hb1 hb2 hb3 hb4 hx1 hx2 hx3 hx4
       try (go_upto_region 5 with fail)
       go_region_law (first
        | ((fail_if_success have:=hown8);refine jZ rfl _ _ _ rfl qmi (w5.heap.size) _ rfl ((by first | exact qx (xs:=[]) rfl rfl (Ld _) L0 | exact qb (qx (xs:=[]) rfl rfl (Ld _) L0) (Le _ _).drew)) _ _ rfl ((hrk.out.below (Below.trans hb5 (Below.mono (ql8:Below w5.heap.size w5 _) hb5.size)))) (vH _) ?_;intro A8 c8 w8 hown8 hbel8 hgr8 hat8;have z8:=hbel8.size;(try simp only [Lo,Lg] at hown8);have t8:Below w5.heap.size w5 w8:=Below.trans ql8 hbel8;have y8:=t8.size;have hlt8:w.heap.size+1<w8.heap.size:=L0;obtain ⟨_,_,_,_,_,_⟩:=HSK.out _ t8)
        | (refine jZ rfl _ _ _ rfl qmi (w5.heap.size) _ rfl (hown8) _ _ rfl ((hrl.out.below (Below.trans hb5 (Below.mono t8 hb5.size)))) (vH _) ?_;intro A9 c9 w9 hown9 hbel9 hgr9 hat9;have z9:=hbel9.size;(try simp only [Lo,Lg] at hown9);have t9:=t8.trans hbel9;have y9:=t9.size;have hlt9:w.heap.size+1<w9.heap.size:=L0;obtain ⟨_,_,_,_,_,_⟩:=HSK.out _ t9)
        | (go_simp;go_at_call 12;refine (HE3.out _ (hb5.trans (t9.mono hb5.size)) _ _ _ hown9).mono ?_;rintro e w10 ⟨⟨A10,n10,c10,rfl⟩,hb10,hx10⟩))
       all_goals (
        have hX10:=hX5.on (t9.trans (hx10.mono t9.size));obtain ⟨m_0,m_1,m_2,m_3,m_4,m_5,m_6,-,-,-,-,-,-,-⟩:=zd hX10.m;dsimp only at m_0 m_1 m_3 m_4 m_5 m_6
        go_wp2_with (first | (go_at_call 13;refine (HP.out _ L3).mono ?_;rintro e wp ⟨rfl,hbp,hxp⟩) | (go_at_call 7;refine (HA.out _ L3).mono ?_;rintro e wa ⟨rfl,hba,hxa⟩))
        go_ret
        exact ⟨rfl,hba⟩)
      have h2:(E2 != 0)=true:=Ln.2 h2';clear h12 h3 h2'
      go_enter func4,ntmps4
      go_upto_region 1 with fail
      refine qa (Bx2 w ⟨⟨W,H,rows,r,cl,vs⟩,U⟩ A n c r1 d1 sp1 q1 co1 k1) (Bx2.new w _ A n c _ _ _ _ _ _) ?_;intro X hX;obtain ⟨c_0,c_1,c_2,c_3,c_4,c_5,c_6,-,-,-,-,-,-,-⟩:=zd hX.m;dsimp only at c_0 c_1 c_3 c_4 c_5 c_6
      go_upto_region 5 with (first | (go_at_call 5;refine (HG.out _ hX.bel).mono ?_;rintro e w1 ⟨rfl,hb1,hx1⟩;have hX1:=hX.on hx1;obtain ⟨s_0,s_1,s_2,s_3,s_4,s_5⟩:=hX1.setts) | ((fail_if_success have:=w2);go_at_call 11;refine (HK.out _ hX1.bel).mono ?_;rintro e w2 ⟨rfl,hb2,hx2⟩;have hX2:=hX1.on hx2;obtain ⟨t_0,t_1,t_2,t_3,t_4,t_5⟩:=hX2.setts) | (go_at_call 11;refine (HL.out _ hX2.bel).mono ?_;rintro e w3 ⟨rfl,hb3,hx3⟩;have hX3:=hX2.on hx3;obtain ⟨f_0,f_1,f_2,f_3,f_4,f_5⟩:=hX3.setts) | ((fail_if_success have:=w4);go_at_call 12;refine (HE1.out _ hX3.bel).mono ?_;rintro e w4 ⟨⟨A4,n4,c4,rfl⟩,hb4,hx4⟩;have hX4:=hX3.on hx4;obtain ⟨g_0,g_1,g_2,g_3,g_4,g_5⟩:=hX4.setts) | (go_at_call 12;refine (HE2.out _ hX4.bel).mono ?_;rintro e w5 ⟨⟨A5,n5,c5,rfl⟩,hb5,hx5⟩;have hX5:=hX4.on hx5))
      have HSK:Hid (∀ w',Below w5.heap.size w5 w'->StBox w' r1 d1 sp1 q1 co1 k1 (w.heap.size+1)):=Lh fun w' h=>(hX5.on h).setts
      obtain ⟨_,_,_,_,_,_⟩:=HSK.out _ (Le w5.heap.size w5);obtain ⟨_,_,_,_,_,_⟩:=HSK.out _ (Le w5.heap.size w5).drew;have hlt5:w.heap.size+1<w5.heap.size:=hX5.s.lt;clear c_0 c_1 c_2 c_3 c_4 c_5 c_6 s_0 s_1 s_2 s_3 s_4 s_5 t_0 t_1 t_2 t_3 t_4 t_5 f_0 f_1 f_2 f_3 f_4 f_5 g_0 g_1 g_2 g_3 g_4 g_5 hX hX1 hX2 hX3 hX4 hb1 hb2 hb3 hb4 hx1 hx2 hx3 hx4
      try (go_upto_region 5 with fail)
      go_region_law (first
       | ((fail_if_success have:=hown8);refine jZ rfl _ _ _ rfl qmi (w5.heap.size) _ rfl ((by first | exact qx (xs:=[]) rfl rfl (Ld _) L0 | exact qb (qx (xs:=[]) rfl rfl (Ld _) L0) (Le _ _).drew)) _ _ rfl ((hrk.out.below (Below.trans hb5 (Below.mono (ql8:Below w5.heap.size w5 _) hb5.size)))) (vH _) ?_;intro A8 c8 w8 hown8 hbel8 hgr8 hat8;have z8:=hbel8.size;(try simp only [Lo,Lg] at hown8);have t8:Below w5.heap.size w5 w8:=Below.trans ql8 hbel8;have y8:=t8.size;have hlt8:w.heap.size+1<w8.heap.size:=L0;obtain ⟨_,_,_,_,_,_⟩:=HSK.out _ t8)
       | (refine jZ rfl _ _ _ rfl qmi (w5.heap.size) _ rfl (hown8) _ _ rfl ((hrl.out.below (Below.trans hb5 (Below.mono t8 hb5.size)))) (vH _) ?_;intro A9 c9 w9 hown9 hbel9 hgr9 hat9;have z9:=hbel9.size;(try simp only [Lo,Lg] at hown9);have t9:=t8.trans hbel9;have y9:=t9.size;have hlt9:w.heap.size+1<w9.heap.size:=L0;obtain ⟨_,_,_,_,_,_⟩:=HSK.out _ t9)
       | (go_simp;go_at_call 12;refine (HE3.out _ (hb5.trans (t9.mono hb5.size)) _ _ _ hown9).mono ?_;rintro e w10 ⟨⟨A10,n10,c10,rfl⟩,hb10,hx10⟩))
      all_goals (
       go_wp2_with (first | (go_at_call 7;refine (HA.out _ L3).mono ?_;rintro e wa ⟨rfl,hba,hxa⟩))
       go_ret
       exact ⟨rfl,hba⟩)
     ·have h2:(E1 != 0)=true:=Ln.2 h1;clear h12 h1 h3
      go_enter func4,ntmps4
      go_upto_region 1 with fail
      refine qa (Bx2 w ⟨⟨W,H,rows,r,cl,vs⟩,U⟩ A n c r1 d1 sp1 q1 co1 k1) (Bx2.new w _ A n c _ _ _ _ _ _) ?_;intro X hX;obtain ⟨c_0,c_1,c_2,c_3,c_4,c_5,c_6,-,-,-,-,-,-,-⟩:=zd hX.m;dsimp only at c_0 c_1 c_3 c_4 c_5 c_6
      go_upto_region 5 with (first | (go_at_call 5;refine (HG.out _ hX.bel).mono ?_;rintro e w1 ⟨rfl,hb1,hx1⟩;have hX1:=hX.on hx1;obtain ⟨s_0,s_1,s_2,s_3,s_4,s_5⟩:=hX1.setts) | ((fail_if_success have:=w2);go_at_call 11;refine (HK.out _ hX1.bel).mono ?_;rintro e w2 ⟨rfl,hb2,hx2⟩;have hX2:=hX1.on hx2;obtain ⟨t_0,t_1,t_2,t_3,t_4,t_5⟩:=hX2.setts) | (go_at_call 11;refine (HL.out _ hX2.bel).mono ?_;rintro e w3 ⟨rfl,hb3,hx3⟩;have hX3:=hX2.on hx3;obtain ⟨f_0,f_1,f_2,f_3,f_4,f_5⟩:=hX3.setts) | ((fail_if_success have:=w4);go_at_call 12;refine (HE1.out _ hX3.bel).mono ?_;rintro e w4 ⟨⟨A4,n4,c4,rfl⟩,hb4,hx4⟩;have hX4:=hX3.on hx4;obtain ⟨g_0,g_1,g_2,g_3,g_4,g_5⟩:=hX4.setts) | (go_at_call 12;refine (HE2.out _ hX4.bel).mono ?_;rintro e w5 ⟨⟨A5,n5,c5,rfl⟩,hb5,hx5⟩;have hX5:=hX4.on hx5))
      have HSK:Hid (∀ w',Below w5.heap.size w5 w'->StBox w' r1 d1 sp1 q1 co1 k1 (w.heap.size+1)):=Lh fun w' h=>(hX5.on h).setts
      obtain ⟨_,_,_,_,_,_⟩:=HSK.out _ (Le w5.heap.size w5);obtain ⟨_,_,_,_,_,_⟩:=HSK.out _ (Le w5.heap.size w5).drew;have hlt5:w.heap.size+1<w5.heap.size:=hX5.s.lt;clear c_0 c_1 c_2 c_3 c_4 c_5 c_6 s_0 s_1 s_2 s_3 s_4 s_5 t_0 t_1 t_2 t_3 t_4 t_5 f_0 f_1 f_2 f_3 f_4 f_5 g_0 g_1 g_2 g_3 g_4 g_5 hX hX1 hX2 hX3 hX4 hb1 hb2 hb3 hb4 hx1 hx2 hx3 hx4
      try (go_upto_region 5 with fail)
      go_region_law (first
       | ((fail_if_success have:=hown8);refine jZ rfl _ _ _ rfl qmi (w5.heap.size) _ rfl ((by first | exact qx (xs:=[]) rfl rfl (Ld _) L0 | exact qb (qx (xs:=[]) rfl rfl (Ld _) L0) (Le _ _).drew)) _ _ rfl ((hrk.out.below (Below.trans hb5 (Below.mono (ql8:Below w5.heap.size w5 _) hb5.size)))) (vH _) ?_;intro A8 c8 w8 hown8 hbel8 hgr8 hat8;have z8:=hbel8.size;(try simp only [Lo,Lg] at hown8);have t8:Below w5.heap.size w5 w8:=Below.trans ql8 hbel8;have y8:=t8.size;have hlt8:w.heap.size+1<w8.heap.size:=L0;obtain ⟨_,_,_,_,_,_⟩:=HSK.out _ t8)
       | (refine jZ rfl _ _ _ rfl qmi (w5.heap.size) _ rfl (hown8) _ _ rfl ((hrl.out.below (Below.trans hb5 (Below.mono t8 hb5.size)))) (vH _) ?_;intro A9 c9 w9 hown9 hbel9 hgr9 hat9;have z9:=hbel9.size;(try simp only [Lo,Lg] at hown9);have t9:=t8.trans hbel9;have y9:=t9.size;have hlt9:w.heap.size+1<w9.heap.size:=L0;obtain ⟨_,_,_,_,_,_⟩:=HSK.out _ t9)
       | (go_simp;go_at_call 12;refine (HE3.out _ (hb5.trans (t9.mono hb5.size)) _ _ _ hown9).mono ?_;rintro e w10 ⟨⟨A10,n10,c10,rfl⟩,hb10,hx10⟩))
      all_goals (
       go_wp2_with (first | (go_at_call 7;refine (HA.out _ L3).mono ?_;rintro e wa ⟨rfl,hba,hxa⟩))
       go_ret
       exact ⟨rfl,hba⟩)
end Go.Proofs.YtbogmeeijdaijaaGreatDoor
