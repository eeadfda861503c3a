/- Joined: Lw8. -/
import Derived.Test.YtbogmeeijdaijaaGreatDoorZAX
set_option linter.unusedVariables false
set_option linter.unusedSimpArgs false
set_option linter.unnecessarySimpa false
set_option maxHeartbeats 4000000
namespace Go.Proofs.YtbogmeeijdaijaaGreatDoor
open Go.Proofs.Tryz Go.RowKit
set_option maxRecDepth 20000
def V2 (w:World) (v:Vw) (A A':Option Addr) (n c c':Nat) (X:World):Prop:=Blk X w.heap.size 24 (vwC v A n c)/\Blk X (w.heap.size+1) 24 (vwC v A' n c')/\Below w.heap.size w X
theorem V2.on {w X X':World} {v:Vw} {A A':Option Addr} {n c c':Nat} (h:V2 w v A A' n c c' X) (hb:Below X.heap.size X X'):V2 w v A A' n c c' X' :=
 ⟨h.1.below hb h.1.lt,h.2.1.below hb h.2.1.lt,h.2.2.trans (hb.mono (Lr h.1.lt))⟩
theorem rsame15_ (v:Vw) (A A':Option Addr) (n c c' B:Nat) (rs rs':List RowM) (w:World) (rd:RdV w B v A n c rs) (rd':RdV w B v A' n c' rs') (hB:B<=w.heap.size) (hm : ∀ x∈rs,x.l.length<=1000000000) :
  Calls prog 23 #[.agg (vwC v A n c),.agg (vwC v A' n c')] w (qh (.bool true) w):=by
 have hn:rs.length=n:=rd.1.len;have hn':rs'.length=n:=rd'.1.len;have hnm:n<=9223372036854775807:=by have h1:=rd.2.2.1;have h2:=rd.2.2.2;unfold maxLen at h2;omega
 have hl : ∀ k (h:k<rs.length) (h':k<rs'.length),rs[k].l=rs'[k].l:=fun k h h'=>by
  have e:rls rs=rls rs':=rd.2.1.symm.trans rd'.2.1;have e1:(rls rs)[k]? = (rls rs')[k]?:=by rw [e]
  unfold rls at e1;rw [List.getElem?_map,List.getElem?_map,List.getElem?_eq_getElem h,List.getElem?_eq_getElem h'] at e1;exact Option.some.inj e1
 have HC:Hid (∀ k,k<n->∀ X,Below w.heap.size w X->∃ b o b' o' B1 B2 m d d',A=some ⟨b,o,none⟩/\A'=some ⟨b',o',none⟩/\X.cell? ⟨b,o+k,none⟩=some (.slice B1 m d)/\X.cell? ⟨b',o'+k,none⟩=some (.slice B2 m d')/\∀ Y,Below w.heap.size w Y->Calls prog 49 #[.slice B1 m d,.slice B2 m d'] Y (qh (.bool true) Y)):=Lh fun k hk X hX=>by
  have h1:k<rs.length:=by omega
  have h2:k<rs'.length:=by omega
  obtain ⟨b,o,e1,-,e2⟩:=((rd.1.more hB).below hX).at_ h1;obtain ⟨b',o',e3,-,e4⟩:=((rd'.1.more hB).below hX).at_ h2;refine ⟨b,o,b',o',rs[k].A,rs'[k].A,rs[k].l.length,rs[k].cap,rs'[k].cap,e1,e3,e2,by rw [hl k h1 h2];exact e4,fun Y hY=>?_⟩;have r1:=((rd.1.gl _ (Lt h1)).1.more hB).below hY;have r2:=((rd'.1.gl _ (Lt h2)).1.more hB).below hY;rw [<- hl k h1 h2] at r2;have:=rsamerow rs[k].l rs[k].l rs[k].A rs'[k].A _ _ rs[k].cap rs'[k].cap w.heap.size Y (hm _ (Lt h1)) r1 r2;rw [Ll rfl] at this;exact this.mono fun _ _ h=>h.gives
 clear rd rd' hl hn hn' hm;obtain ⟨W,H,rows,r,cl,vs⟩:=v;have hvs:(vs != vs)=false:=by cases vs <;> rfl
 have e1:(W != W)=false:=bne_self_eq_false W;have e2:(H != H)=false:=bne_self_eq_false H;have e3:(r != r)=false:=bne_self_eq_false r;have e4:(cl != cl)=false:=bne_self_eq_false cl;have e5:((n:Int) != n)=false:=bne_self_eq_false _
 go_enter func23,ntmps23
 go_upto_region 1 with fail
 refine qa (V2 w ⟨W,H,rows,r,cl,vs⟩ A A' n c c') ⟨(Blk.new_ rfl).below L5 L1,Blk.new_ L1,(L5).alloc L1 _⟩ ?_;intro X hX;obtain ⟨c0,c1,c2,c3,c4,c5⟩:=qw hX.1;obtain ⟨d0,d1,d2,d3,d4,d5⟩:=qw hX.2.1;dsimp only at c0 c1 c3 c4 c5 d0 d1 d3 d4 d5;go_wp2;clear c0 c1 c2 c3 c4 c5 d0 d1 d2 d3 d4 d5
 go_loopw [5] (fun x wr=>∃ k:Nat,k<=n/\x = .int .i64 k/\V2 w ⟨W,H,rows,r,cl,vs⟩ A A' n c c' wr) (fun x _=>n-(intOf x).toNat)
 case atStart=>exact ⟨0,Nat.zero_le _,rfl,hX⟩
 case round =>
  clear hX;obtain ⟨k,hk,rfl,hX⟩:=hrel;obtain ⟨c0,c1,c2,c3,c4,c5⟩:=qw hX.1;obtain ⟨d0,d1,d2,d3,d4,d5⟩:=qw hX.2.1;have hb:=hX.2.2;have hlX:=hX.2.1.lt
  by_cases hlt:k<n
  ·obtain ⟨b,o,b',o',B1,B2,m,g,g',rfl,rfl,k1,k2,hS⟩:=HC.out k hlt _ hb;have hS':=Lh hS;have hki:(k:Int)<n:=by omega
   clear hS c0 c1 c3 c4 c5 d0 d1 d3 d4 d5
   go_upto_region 6 with fail
   go_region_law (go_simp;go_at_call 49;refine (hS'.out _ (by first | exact hb | exact hb.drew)).mono ?_;rintro e w2 ⟨rfl,b2⟩)
   all_goals go_wp2
   all_goals exact ⟨⟨k+1,by omega,by go_num,hX.on (jI (B:=wr.heap.size) b2)⟩,by simp [intOf];omega⟩
  ·obtain rfl:k=n:=by omega
   clear c0 c1 c3 c4 c5 d0 d1 d3 d4 d5;go_wp2;go_ret;exact ⟨rfl,hb⟩
theorem rsame42_ (m:Md) (A A':Option Addr) (n c c' B:Nat) (rs rs':List RowM) (w:World) (rd:RdV w B m.view A n c rs) (rd':RdV w B m.view A' n c' rs') (hB:B<=w.heap.size) (hm : ∀ x∈rs,x.l.length<=1000000000) :
  Calls prog 10 #[.agg (mdC m A n c),.agg (mdC m A' n c')] w (qh (.bool true) w):=by
 have HS:Hid (∀ X,Below w.heap.size w X->Calls prog 23 #[.agg (vwC m.view A n c),.agg (vwC m.view A' n c')] X (qh (.bool true) X)):=Lh fun X hX=>rsame15_ m.view A A' n c c' w.heap.size rs rs' X ((rd.more hB).below hX) ((rd'.more hB).below hX) hX.size hm
 clear rd rd' hm;obtain ⟨⟨W,H,rows,r,cl,vs⟩,U⟩:=m;dsimp only at HS;have e1:(U==U)=true:=Lw U
 go_enter func10,ntmps10
 go_upto_region 1 with fail
 refine qa (fun X=>Blk X w.heap.size 26 (mdC ⟨⟨W,H,rows,r,cl,vs⟩,U⟩ A n c)/\Blk X (w.heap.size+1) 26 (mdC ⟨⟨W,H,rows,r,cl,vs⟩,U⟩ A' n c')/\Below w.heap.size w X) ⟨(Blk.new_ rfl).below L5 L1,Blk.new_ L1,(L5).alloc L1 _⟩ ?_;rintro X ⟨h1,h2,hb⟩;obtain ⟨c0,c1,c2,c3,c4,c5,c6,-,-,-,-,-,-,-⟩:=zd h1;obtain ⟨d0,d1,d2,d3,d4,d5,d6,-,-,-,-,-,-,-⟩:=zd h2;dsimp only at c0 c1 c3 c4 c5 c6 d0 d1 d3 d4 d5 d6
 go_wp2_with (go_at_call 23;refine (HS.out _ hb).mono ?_;rintro e w1 ⟨rfl,hb1⟩)
 go_ret;exact ⟨rfl,hb.trans (hb1.mono hb.size)⟩
end Go.Proofs.YtbogmeeijdaijaaGreatDoor
