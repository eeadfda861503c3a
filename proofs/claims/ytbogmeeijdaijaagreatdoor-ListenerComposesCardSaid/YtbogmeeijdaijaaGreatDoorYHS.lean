/- Joined: LvP, UtM, Um1, Lv1, Lv2, Lv6, Lvo, Ul1, LxP, Ls3, UtP4, LvQ, LxC0. -/
import Derived.Test.YtbogmeeijdaijaaGreatDoorZAV
import Derived.Test.YtbogmeeijdaijaaGreatDoorYEB
set_option linter.unusedVariables false
set_option linter.unusedSimpArgs false
set_option linter.unnecessarySimpa false
set_option maxHeartbeats 8000000
namespace Go.Proofs.YtbogmeeijdaijaaGreatDoor
open Go.Proofs.Tryz Go.RowKit
set_option maxRecDepth 20000
theorem qer : ∀ (l:List Chg) (v:Vw),OnV v->(goV v l).2=0->js (goV v l).1=0
 | [],v,h,e=>by
  unfold goV at e ⊢
  split
  ·next hw=>exact h.zero hw
  ·next hw=>rw [if_neg hw] at e;cases e
 | c::t,v,h,e=>by
  unfold goV at e ⊢
  by_cases hc:qan v c=0
  ·rw [if_neg (by simpa using hc)] at e ⊢;exact qer t _ (h.step hc) e
  ·rw [if_pos hc] at e;exact absurd e hc
theorem qe3 {v:Vw} {l:List Chg} (e:(yx v l).2=0):js (yx v l).1=0:=by
 unfold yx at e ⊢
 split
 ·next h=>rw [if_pos h] at e;cases e
 ·next h=>rw [if_neg h] at e;exact qer l v (.of (by simpa using h)) e
theorem go_app : ∀ (k l:List Chg) (v:Vw),(goV v k).2=0->goV v (k++l)=goV (goV v k).1 l
 | [],l,v,e=>by
  have:(goV v []).1=v:=by
   unfold goV at e ⊢
   split
   ·rfl
   ·next h=>rw [if_neg h] at e;cases e
  rw [this];rfl
 | c::t,l,v,e=>by
  rw [List.cons_append];unfold goV at e
  by_cases hc:qan v c=0
  ·rw [if_neg (by simpa using hc)] at e;have h1:goV v (c::t)=goV (jY v c) t:=by rw [goV,if_neg (by simpa using hc)]
   rw [h1,goV,if_neg (by simpa using hc)];exact go_app t l _ e
  ·rw [if_pos hc] at e;exact absurd e hc
theorem qn2 {v:Vw} {k l:List Chg} (e:(yx v k).2=0):yx v (k++l)=yx (yx v k).1 l:=by
 have hp:=qe3 e
 by_cases h:js v=0
 ·have e1 : ∀ l,yx v l=goV v l:=fun l=>by unfold yx;rw [if_neg (by simpa using h)]
  rw [e1] at e hp;rw [e1,e1,go_app _ _ _ e];unfold yx;rw [if_neg (by simpa using hp)]
 ·unfold yx at e;rw [if_pos h] at e
  cases e
theorem qcL {m:Md} {l:List ByteArray} (e:(yT m l).2=0):vu (yT m l).1=true:=by
 unfold yT at e ⊢
 by_cases hp:vu m=false
 ·rw [if_pos hp] at e;cases e
 ·rw [if_neg hp] at e ⊢
  cases hc:jm l with
  | none=>rw [hc] at e;cases e
  | some x =>
   obtain ⟨cs,n⟩:=x;rw [hc] at e;simp only at e ⊢
   by_cases h1:(yx m.view cs).2=0
   ·rw [if_neg (by simpa using h1)] at e ⊢
    by_cases h2:MaxT<m.upd+n
    ·rw [if_pos h2] at e;cases e
    ·rw [if_neg h2];have hp:vu m=true:=by simpa using hp
     unfold vu at hp ⊢;rw [decide_eq_true_iff] at hp ⊢;have:=(qbv hc).2;exact ⟨qe3 h1,by simp only;omega,by simp only;omega⟩
   ·rw [if_pos h1] at e;exact absurd e h1
theorem vH (l:List ChgM):(kq l).all Value.oneCell'=true:=by
 rw [List.all_eq_true];intro u hu;rw [kq,List.mem_flatMap] at hu;obtain ⟨x,_,hu⟩:=hu;exact List.all_eq_true.1 (qhb x) u hu
theorem qkB (l:List ChgM) (A:Option Addr) (n c B:Nat) (w:World) (hm:n<=maxLen) (rd:RdC w B A n l) :
  Calls prog 11 #[.slice A n c] w fun e w'=>e = .returned (.bool (qci l))/\w'=w:=by
 have HN:=Lh rd.len;have hmm:n<=9223372036854775807:=by unfold maxLen at hm;omega
 have HG:Hid (∀ x∈l,Calls prog 14 #[.slice x.A x.c.glyphs.length x.cap] w fun e w'=>e = .returned (.bool (zA x.c.glyphs))/\w'=w):=Lh fun x hx =>
  qeP _ _ _ _ B w (Lj (rd.gl x hx).2.1 (rd.gl x hx).2.2) (rd.gl x hx).1
 unfold qci;rw [HN.out];clear hm
 by_cases h0:30<n
 ·rw [Ll h0,Bool.true_or];have hi:(30:Int)<(n:Int):=by omega
  go_enter func11,ntmps11
  go_wp2;go_ret;exact ⟨rfl,rfl⟩
 ·rw [Lk h0,Bool.false_or];have hi:(n:Int)<=30:=by omega
  have H0:Hid ((l.any fun x=>zA x.c.glyphs)=((l.drop 0).any fun x=>zA x.c.glyphs)):=Lh rfl;generalize (l.any fun x=>zA x.c.glyphs)=R at *
  clear h0
  go_enter func11,ntmps11
  go_wp2
  go_loop [3] (fun x=>∃ k:Nat,k<=n/\x = .int .i64 k/\Hid (R=((l.drop k).any fun x=>zA x.c.glyphs))) (fun x=>n-(intOf x).toNat)
  case atStart=>exact ⟨0,Nat.zero_le _,rfl,H0⟩
  case round =>
   obtain ⟨k,hk,rfl,HK⟩:=hrel
   by_cases hlt:k<n
   ·have hkl:k<l.length:=by have:=HN.out;omega
    obtain ⟨b,o,rfl,_,-,-,-,-,-,c5⟩:=rd.at_ hkl;have HD:=Lh (qb4 (fun x:ChgM=>zA x.c.glyphs) hkl);have HGk:=Lh (HG.out _ (Lt hkl));generalize l[k]=g at *
    obtain ⟨⟨k1,k2,k3,k4,k5,G⟩,Ag,cg⟩:=g;dsimp only at *
    generalize zA G=gg at *
    cases gg with
    | true =>
     have HR2:Hid (R=true):=Lh (by rw [HK.out,HD.out];rfl);clear HK HD HG
     go_wp2_with (go_at_call 14;refine HGk.out.mono ?_;rintro e w1 ⟨rfl,rfl⟩)
     go_ret;exact ⟨by rw [HR2.out];rfl,rfl⟩
    | false =>
     have HR2:Hid (R=((l.drop (k+1)).any fun x=>zA x.c.glyphs)):=Lh (by rw [HK.out,HD.out];rfl);clear HK HD HG
     go_wp2_with (go_at_call 14;refine HGk.out.mono ?_;rintro e w1 ⟨rfl,rfl⟩)
     exact ⟨⟨k+1,by omega,by go_num,HR2⟩,by simp [intOf];omega⟩
   ·have HR2:Hid (R=false):=Lh (by rw [HK.out,Lv (by have:=HN.out;omega)];rfl);go_wp2;go_ret;exact ⟨by rw [HR2.out];rfl,rfl⟩
theorem qjp (l:List Gl) (A:Option Addr) (n c B:Nat) (w:World) (hm:n<=1000000000) (rd:Rd w B 3 A n (qi l)):Calls prog 48 #[.slice A n c] w fun e w'=>e = .returned (.int .i64 (vM l:Nat))/\w'=w:=by
 have HN:=Lh (jK rd);have HRd:=Lh rd;have HL:Hid (∀ k,kw (l.take k)<=n):=Lh fun k=>by rw [<- HN.out];exact qcf l k
 have HE:Hid (vM l=n+kw (l.take n)):=Lh (by unfold vM;rw [HN.out,List.take_of_length_le (Nat.le_of_eq HN.out)]);generalize vM l=R at *
 clear rd
 go_enter func48,ntmps48
 go_wp2
 go_loop [3,4] (fun v x=>∃ k:Nat,k<=n/\x = .int .i64 k/\v = .int .i64 ((k+kw (l.take k):Nat):Int)) (fun _ x=>n-(intOf x).toNat)
 case atStart=>exact ⟨0,Nat.zero_le _,rfl,rfl⟩
 case round =>
  obtain ⟨k,hk,rfl,rfl⟩:=hrel
  by_cases hlt:k<n
  ·have hkl:k<l.length:=by have:=HN.out;omega
   obtain ⟨b,o,rfl,_,-,g1,-⟩:=jE HRd.out hkl HN.out;have HT:=Lh (qcw hkl);have hW:=HL.out k;generalize kw (l.take k)=W1 at *
   generalize l[k].wide=wd at *
   cases wd
   ·go_wp2;exact ⟨⟨k+1,by omega,by go_num,by rw [HT.out];simp only [Bool.toNat_false];go_num⟩,by simp [intOf];omega⟩
   ·go_wp2;exact ⟨⟨k+1,by omega,by go_num,by rw [HT.out];simp only [Bool.toNat_true];go_num⟩,by simp [intOf];omega⟩
  ·obtain rfl:k=n:=by omega
   go_wp2;go_ret;exact ⟨by rw [HE.out];rfl,rfl⟩
theorem rsize15_ (w0 h0:Int) (w:World):Calls prog 52 #[.int .i64 w0,.int .i64 h0] w fun e w'=>e = .returned (.bool (vR w0 h0))/\w=w':=by
 by_cases h1:1<=w0
 ·by_cases h2:w0<=132
  ·by_cases h3:1<=h0
   ·by_cases h4:h0<=60
    ·go_enter func52,ntmps52
     go_wp2;go_ret;exact ⟨by unfold vR;rw [Ll L0];rfl,rfl⟩
    ·go_enter func52,ntmps52
     go_wp2;go_ret;exact ⟨by unfold vR;rw [Lk L0];rfl,rfl⟩
   ·go_enter func52,ntmps52
    go_wp2;go_ret;exact ⟨by unfold vR;rw [Lk L0];rfl,rfl⟩
  ·go_enter func52,ntmps52
   go_wp2;go_ret;exact ⟨by unfold vR;rw [Lk L0];rfl,rfl⟩
 ·go_enter func52,ntmps52
  go_wp2;go_ret;exact ⟨by unfold vR;rw [Lk L0];rfl,rfl⟩
theorem qjx (g:Gl) (w:World):Calls prog 54 #[glV g] w (qh (.bool (decide (g=spG))) w):=by
 have hq:=eq_gl g spG;have hg:=qa2 g spG .eql;unfold glV spG at hq hg;unfold spG;generalize decide (g=_)=R at *
 obtain ⟨t,wd,st⟩:=g;dsimp only at *
 go_enter func54,ntmps54
 go_wp2;go_ret;exact ⟨rfl,L5⟩
theorem qjk (v:Vw) (A:Option Addr) (n c B:Nat) (rs:List RowM) (w:World) (rd:RdV w B v A n c rs) (hB:B<=w.heap.size) (hz : ∀ x∈rs,x.l.length<=1000000000/\∀ g∈x.l,g.text.size<=1000000000) :
  Calls prog 28 #[.agg (vwC v A n c)] w (qh (.int .i64 (js v)) w):=by
 have HN:=Lh rd.1.len;have hnm:n<=9223372036854775807:=by have h1:=rd.2.2.1;have h2:=rd.2.2.2;unfold maxLen at h2;omega
 have HRL:Hid (v.rows=rls rs):=Lh rd.2.1;have HA:Hid (∀ k (hk:k<rs.length) w',Below w.heap.size w w'->∃ b o,A=some ⟨b,o,none⟩/\b<w.heap.size/\w'.cell? ⟨b,o+k,none⟩=some (.slice rs[k].A rs[k].l.length rs[k].cap)):=Lh fun k hk w' hb=>((rd.1.more hB).below hb).at_ hk
 have HG:Hid (∀ x∈rs,∀ w',Below w.heap.size w w'->Rd w' w.heap.size 3 x.A x.l.length (qi x.l)):=Lh fun x hx w' hb=>(((rd.1.gl x hx).1.more hB).below hb)
 have HX:Hid (∀ x∈rs,x.l.length<=1000000000/\∀ g∈x.l,g.text.size<=1000000000):=Lh hz;have HS:Hid (∀ k,k<rs.length->(rls rs).drop k=(rls rs).getD k []::(rls rs).drop (k+1)):=Lh fun k hk=>by
  rw [Ls (by rw [vJ];exact hk),List.getD_eq_getElem?_getD,List.getElem?_eq_getElem (by rw [vJ];exact hk)]
  rfl
 unfold js;rw [HRL.out,vJ,HN.out];clear rd hz;obtain ⟨W,Hh,rows,row,col,vis⟩:=v;dsimp only at *
 have HV:Hid (∀ x∈rs,∀ g∈x.l,∀ w',Calls prog 53 #[glV g] w' (qh (.int .i64 (qJ g)) w')):=Lh fun x hx g hg w'=>rglyph g ((HX.out x hx).2 g hg) w'
 have HWd:Hid (∀ x∈rs,∀ w',Below w.heap.size w w'->Calls prog 48 #[.slice x.A x.l.length x.cap] w' (qh (.int .i64 (vM x.l:Nat)) w')):=Lh fun x hx w' hb=>(qjp x.l x.A _ x.cap w.heap.size w' (HX.out x hx).1 (HG.out x hx w' hb)).mono fun e w'' ⟨h1,h2⟩=>⟨h1,h2 ▸ Le _ _⟩
 have HSz:=Lh (rsize15_ W Hh)
 by_cases h1:vR W Hh=false
 ·rw [if_pos h1];rw [h1] at HSz;clear h1
  go_enter func28,ntmps28;go_upto_region 1 with fail;refine qa (VwBox w ⟨W,Hh,rows,row,col,vis⟩ A n c) (VwBox.new w ⟨W,Hh,rows,row,col,vis⟩ A n c) ?_;intro X hX;obtain ⟨c0,c1,c2,c3,c4,c5⟩:=hX.cells;have hb:=hX.2;dsimp only at c0 c1 c2 c3 c4 c5
  go_wp2_with (go_at_call 52;refine (HSz.out _).mono ?_;rintro e w1 ⟨rfl,rfl⟩)
  go_ret;exact ⟨rfl,hb⟩
 ·have h1':vR W Hh=true:=by simpa using h1
  rw [if_neg h1];rw [h1'] at HSz;clear h1 h1'
  by_cases h2:(n:Int)=Hh
  ·rw [if_neg (by simpa using h2)];have hne:((n:Int) != Hh)=false:=by simp [h2]
   replace h2:=Lh h2
   by_cases h3:row<0∨Hh<=row∨col<0∨W<=col
   ·rw [if_pos h3]
    by_cases r1:row<0
    ·go_enter func28,ntmps28;go_upto_region 1 with fail;refine qa (VwBox w ⟨W,Hh,rows,row,col,vis⟩ A n c) (VwBox.new w ⟨W,Hh,rows,row,col,vis⟩ A n c) ?_;intro X hX;obtain ⟨c0,c1,c2,c3,c4,c5⟩:=hX.cells;have hb:=hX.2;dsimp only at c0 c1 c2 c3 c4 c5
     go_wp2_with (go_at_call 52;refine (HSz.out _).mono ?_;rintro e w1 ⟨rfl,rfl⟩)
     go_ret;exact ⟨rfl,hb⟩
    ·by_cases r2:Hh<=row
     ·go_enter func28,ntmps28;go_upto_region 1 with fail;refine qa (VwBox w ⟨W,Hh,rows,row,col,vis⟩ A n c) (VwBox.new w ⟨W,Hh,rows,row,col,vis⟩ A n c) ?_;intro X hX;obtain ⟨c0,c1,c2,c3,c4,c5⟩:=hX.cells;have hb:=hX.2;dsimp only at c0 c1 c2 c3 c4 c5
      go_wp2_with (go_at_call 52;refine (HSz.out _).mono ?_;rintro e w1 ⟨rfl,rfl⟩)
      go_ret;exact ⟨rfl,hb⟩
     ·by_cases r3:col<0
      ·go_enter func28,ntmps28;go_upto_region 1 with fail;refine qa (VwBox w ⟨W,Hh,rows,row,col,vis⟩ A n c) (VwBox.new w ⟨W,Hh,rows,row,col,vis⟩ A n c) ?_;intro X hX;obtain ⟨c0,c1,c2,c3,c4,c5⟩:=hX.cells;have hb:=hX.2;dsimp only at c0 c1 c2 c3 c4 c5
       go_wp2_with (go_at_call 52;refine (HSz.out _).mono ?_;rintro e w1 ⟨rfl,rfl⟩)
       go_ret;exact ⟨rfl,hb⟩
      ·have r4:W<=col:=by omega
       go_enter func28,ntmps28;go_upto_region 1 with fail;refine qa (VwBox w ⟨W,Hh,rows,row,col,vis⟩ A n c) (VwBox.new w ⟨W,Hh,rows,row,col,vis⟩ A n c) ?_;intro X hX;obtain ⟨c0,c1,c2,c3,c4,c5⟩:=hX.cells;have hb:=hX.2;dsimp only at c0 c1 c2 c3 c4 c5
       go_wp2_with (go_at_call 52;refine (HSz.out _).mono ?_;rintro e w1 ⟨rfl,rfl⟩)
       go_ret;exact ⟨rfl,hb⟩
   ·rw [if_neg h3];have r1:0<=row:=by omega
    have r2:row<Hh:=by omega
    have r3:0<=col:=by omega
    have r4:col<W:=by omega
    clear h3;have H0:Hid (yh W (rls rs)=yh W ((rls rs).drop 0)):=Lh rfl;generalize yh W (rls rs)=R at *
    go_enter func28,ntmps28;go_upto_region 1 with fail;refine qa (VwBox w ⟨W,Hh,rows,row,col,vis⟩ A n c) (VwBox.new w ⟨W,Hh,rows,row,col,vis⟩ A n c) ?_;intro X hX;obtain ⟨c0,c1,c2,c3,c4,c5⟩:=hX.cells;have hb:=hX.2;dsimp only at c0 c1 c2 c3 c4 c5
    go_wp2_with (go_at_call 52;refine (HSz.out _).mono ?_;rintro e w1 ⟨rfl,rfl⟩)
    go_loopw [3] (fun x wr=>∃ k:Nat,k<=n/\x = .int .i64 k/\VwBox w ⟨W,Hh,rows,row,col,vis⟩ A n c wr/\Hid (R=yh W ((rls rs).drop k))) (fun x _=>n-(intOf x).toNat)
    case atStart=>exact ⟨0,Nat.zero_le _,rfl,hX,H0⟩
    case round =>
     clear hX hb c0 c1 c2 c3 c4 c5 H0 HSz hne r1 r2 r3 r4;obtain ⟨k,hk,rfl,hX,HK⟩:=hrel;obtain ⟨c0,c1,c2,c3,c4,c5⟩:=hX.cells;have hb:=hX.2;have hzX:=hX.lt;dsimp only at c0 c1 c2 c3 c4 c5
     by_cases hlt:k<n
     ·have hkl:k<rs.length:=by have:=HN.out;omega
      obtain ⟨b,o,rfl,hbB,hc⟩:=HA.out k hkl _ hb;have hx:rs[k]∈rs:=Lt hkl;obtain ⟨T,HT⟩ : ∃ T,Hid (T=if W<vM rs[k].l then 12 else if rs[k].l.getLast? = some spG then 1 else yh W ((rls rs).drop (k+1))):=⟨_,Lh rfl⟩
      have HK2:Hid (R=if yK (rs[k].l.drop 0)≠0 then yK (rs[k].l.drop 0) else T):=Lh (by rw [HK.out,HS.out k hkl,qa4 hkl,qdu,HT.out,List.drop_zero]);have hl:=(HX.out _ hx).1;have HGk:=Lh (HG.out _ hx);have HVk:=Lh (HV.out _ hx);have HWk:=Lh (HWd.out _ hx);clear HK HA HG HX HV HWd HS hx;generalize rs[k]=x at *
      obtain ⟨l,Al,cl⟩:=x;dsimp only at *
      go_wp2
      go_loopw [5] (fun y wy=>∃ j:Nat,j<=l.length/\y = .int .i64 j/\VwBox w ⟨W,Hh,rows,row,col,vis⟩ (some ⟨b,o,none⟩) n c wy/\Hid (R=if yK (l.drop j)≠0 then yK (l.drop j) else T)) (fun y _=>l.length-(intOf y).toNat)
      case atStart=>exact ⟨0,Nat.zero_le _,rfl,hX,HK2⟩
      case round=>as_aux_lemma =>
       clear hX hb c0 c1 c2 c3 c4 c5 HK2 hc hzX;obtain ⟨j,hj,rfl,hX,HJ⟩:=hrel;obtain ⟨c0,c1,c2,c3,c4,c5⟩:=hX.cells;have hb:=hX.2;have hzX:=hX.lt;dsimp only at c0 c1 c2 c3 c4 c5
       by_cases hlj:j<l.length
       ·obtain ⟨b',o',rfl,hbB',g0,g1,g2⟩:=jE (HGk.out _ hb) hlj rfl;have HVj:=Lh (HVk.out _ (Lt hlj));have HJ2:=HJ.out;rw [qdN hlj] at HJ2;generalize l[j]=g at *
        by_cases h0:qJ g=0
        ·rw [if_neg (show ¬ qJ g≠0 by simp [h0])] at HJ2;replace HJ2:=Lh HJ2;rw [h0] at HVj;clear h0;obtain ⟨t,wd,st⟩:=g;dsimp only at *
         go_wp2_with (go_at_call 53;refine (HVj.out _).mono ?_;rintro e w1 ⟨rfl,hb1⟩)
         exact ⟨⟨j+1,by omega,by go_num,hX.on hb1,HJ2⟩,by simp [intOf];omega⟩
        ·rw [if_pos (show qJ g≠0 from h0),if_pos h0] at HJ2;replace HJ2:=Lh HJ2;have hn0:(qJ g != 0)=true:=Ln.2 h0;clear h0;generalize hq:qJ g=K at *
         clear hq;obtain ⟨t,wd,st⟩:=g;dsimp only at *
         go_wp2_with (go_at_call 53;refine (HVj.out _).mono ?_;rintro e w1 ⟨rfl,hb1⟩)
         go_ret;exact ⟨by rw [HJ2.out];rfl,(hX.on hb1).2⟩
       ·obtain rfl:j=l.length:=by omega
        have HT2:Hid (R=if W<vM l then 12 else if l.getLast? = some spG then 1 else yh W ((rls rs).drop (k+1))):=Lh (by rw [HJ.out,Lv (Ld _),<- HT.out];rfl);clear HT HJ HVk;have hzz:=Ld wr.heap.size;have N0 : ∀ x:Near wr.heap.size wr,x.w.cell? ⟨w.heap.size,0,none⟩=some (.int .i64 W):=fun x=>(x.h.cell L7).trans c0
        have HWx:Hid (∀ x:Near wr.heap.size wr,Calls prog 48 #[.slice Al l.length cl] x.w (qh (.int .i64 (vM l:Nat)) x.w)):=Lh fun x=>HWk.out _ (hb.trans (x.h.mono L0))
        clear HWk c0 c1 c2 c3 c4 c5;generalize vM l=rw0 at *
        by_cases hw:W<(rw0:Int)
        ·rw [if_pos hw] at HT2;go_wp2;refine qc wr.heap.size ?_;(repeat (go_big_quiet_step ((go_at_call 48;exact Calls.near _ hzz (HWx.out _)))));refine wpQuiet_nil ?_;intro x1;go_wp2;go_ret;exact ⟨by rw [HT2.out];rfl,(hX.on x1.h).2⟩
        ·as_aux_lemma =>
         rw [if_neg hw] at HT2;have hw' : ¬ W<(rw0:Int):=hw;have hd:decide (W<(rw0:Int))=false:=Lk hw;clear hw hw';go_wp2;refine qc wr.heap.size ?_;(repeat (go_big_quiet_step ((go_at_call 48;exact Calls.near _ hzz (HWx.out _)))));refine wpQuiet_nil ?_;intro x1;have hX1:=hX.on x1.h;have hb1:=hX1.2;have hz1:=Ld x1.w.heap.size;clear HWx N0 hd hX hb
         rcases Nat.eq_zero_or_pos l.length with h0 | h0
         ·have HT3:Hid (R=yh W ((rls rs).drop (k+1))):=Lh (by rw [HT2.out,List.length_eq_zero_iff.1 h0];rfl);have hd:decide (0<l.length)=false:=Lk L0;clear HT2 h0;go_wp2;exact ⟨⟨k+1,by omega,by go_num,hX1,HT3⟩,by simp [intOf];omega⟩
         ·obtain ⟨m,hm⟩ : ∃ m,l.length=m+1:=⟨l.length-1,by omega⟩
          have hml:m<l.length:=by omega
          obtain ⟨b',o',rfl,hbB',g0,g1,g2⟩:=jE (HGk.out _ hb1) hml rfl;rw [qh5 hm] at HT2;have HBk:=Lh (qjx l[m]);have hmi:(l.length:Int)=(m:Int)+1:=by omega
          have hd:decide (0<l.length)=true:=Ll h0
          by_cases he:l[m]=spG
          ·rw [if_pos (by rw [he])] at HT2;rw [Ll he] at HBk;clear he h0 HGk;generalize l[m]=g at *
           obtain ⟨t,wd,st⟩:=g;dsimp only at *
           go_wp2_with (go_at_call 54;refine (HBk.out _).mono ?_;rintro e w2 ⟨rfl,hb2⟩)
           go_ret;exact ⟨by rw [HT2.out];rfl,hb1.trans (hb2.mono (by have:=hX1.lt;omega))⟩
          ·rw [if_neg (fun e=>he (by injection e))] at HT2;rw [Lk he] at HBk;clear he h0 HGk;generalize l[m]=g at *
           obtain ⟨t,wd,st⟩:=g;dsimp only at *
           go_wp2_with (go_at_call 54;refine (HBk.out _).mono ?_;rintro e w2 ⟨rfl,hb2⟩)
           exact ⟨⟨k+1,by omega,by go_num,hX1.on hb2,HT2⟩,by simp [intOf];omega⟩
     ·have HK2:Hid (R=0):=Lh (by rw [HK.out,Lv (by rw [vJ];have:=HN.out;omega)];rfl);go_wp2;go_ret;exact ⟨by rw [HK2.out];rfl,hb⟩
  ·rw [if_pos h2];have hne:((n:Int) != Hh)=true:=Ln.2 h2;clear h2
   go_enter func28,ntmps28;go_upto_region 1 with fail;refine qa (VwBox w ⟨W,Hh,rows,row,col,vis⟩ A n c) (VwBox.new w ⟨W,Hh,rows,row,col,vis⟩ A n c) ?_;intro X hX;obtain ⟨c0,c1,c2,c3,c4,c5⟩:=hX.cells;have hb:=hX.2;dsimp only at c0 c1 c2 c3 c4 c5
   go_wp2_with (go_at_call 52;refine (HSz.out _).mono ?_;rintro e w1 ⟨rfl,rfl⟩)
   go_ret;exact ⟨rfl,hb⟩
theorem qbM (m:Md) (A:Option Addr) (n c B:Nat) (rs:List RowM) (w:World) (rd:RdV w B m.view A n c rs) (hB:B<=w.heap.size) (hz : ∀ x∈rs,x.l.length<=1000000000/\∀ g∈x.l,g.text.size<=1000000000) :
  Calls prog 13 #[.agg (mdC m A n c)] w (qh (.bool (vu m)) w):=by
 have HC:Hid (∀ w',Below w.heap.size w w'->Calls prog 28 #[.agg (vwC m.view A n c)] w' (qh (.int .i64 (js m.view)) w')):=Lh fun w' hb=>qjk _ _ _ _ w.heap.size _ _ ((rd.more hB).below hb) hb.size hz
 clear rd hz;obtain ⟨⟨W,H,rows,r,cl,vs⟩,U⟩:=m;dsimp only at HC;rw [qdz];dsimp only;generalize js ⟨W,H,rows,r,cl,vs⟩=V at *
 have h1:(V==0)=decide (V=0):=by rw [Bool.eq_iff_iff];simp
 by_cases hv:V=0
 ·have e1:(V==0)=true:=beq_iff_eq.2 hv;rw [Ll hv];clear h1 hv
  by_cases hu:0<=U
  ·by_cases ht:U<=1099511627776
   ·have hu':decide (0<=U)=true:=Ll hu;have ht':decide (U<=1099511627776)=true:=Ll ht;rw [hu',ht'];clear hu ht
    go_enter func13,ntmps13
    go_upto_region 1 with fail
    refine qa (fun X=>Blk X w.heap.size 26 (mdC ⟨⟨W,H,rows,r,cl,vs⟩,U⟩ A n c)/\Below w.heap.size w X) ⟨Blk.new_ rfl,L5⟩ ?_;rintro X ⟨hM,hb⟩;have c0:X.cell? ⟨w.heap.size,0,none⟩=some (.int .i64 W):=hM.cell 0;have c1:X.cell? ⟨w.heap.size,1,none⟩=some (.int .i64 H):=hM.cell 1;have c2:X.cell? ⟨w.heap.size,2,none⟩=some (.slice A n c):=hM.cell 2;have c3:X.cell? ⟨w.heap.size,3,none⟩=some (.int .i64 r):=hM.cell 3;have c4:X.cell? ⟨w.heap.size,4,none⟩=some (.int .i64 cl):=hM.cell 4;have c5:X.cell? ⟨w.heap.size,5,none⟩=some (.bool vs):=hM.cell 5;have c6:X.cell? ⟨w.heap.size,6,none⟩=some (.int .i64 U):=hM.cell 6;have hl:=hM.lt;clear hM
    go_wp2_with (go_at_call 28;refine (HC.out _ hb).mono ?_;rintro e w1 ⟨rfl,hb1⟩;have d6:=(hb1.cell (p:=⟨w.heap.size,6,none⟩) hl).trans c6)
    go_ret;exact ⟨rfl,hb.trans (hb1.mono hb.size)⟩
   ·have hu':decide (0<=U)=true:=Ll hu;have ht':decide (U<=1099511627776)=false:=Lk ht;rw [hu',ht'];clear hu ht
    go_enter func13,ntmps13
    go_upto_region 1 with fail
    refine qa (fun X=>Blk X w.heap.size 26 (mdC ⟨⟨W,H,rows,r,cl,vs⟩,U⟩ A n c)/\Below w.heap.size w X) ⟨Blk.new_ rfl,L5⟩ ?_;rintro X ⟨hM,hb⟩;have c0:X.cell? ⟨w.heap.size,0,none⟩=some (.int .i64 W):=hM.cell 0;have c1:X.cell? ⟨w.heap.size,1,none⟩=some (.int .i64 H):=hM.cell 1;have c2:X.cell? ⟨w.heap.size,2,none⟩=some (.slice A n c):=hM.cell 2;have c3:X.cell? ⟨w.heap.size,3,none⟩=some (.int .i64 r):=hM.cell 3;have c4:X.cell? ⟨w.heap.size,4,none⟩=some (.int .i64 cl):=hM.cell 4;have c5:X.cell? ⟨w.heap.size,5,none⟩=some (.bool vs):=hM.cell 5;have c6:X.cell? ⟨w.heap.size,6,none⟩=some (.int .i64 U):=hM.cell 6;have hl:=hM.lt;clear hM
    go_wp2_with (go_at_call 28;refine (HC.out _ hb).mono ?_;rintro e w1 ⟨rfl,hb1⟩;have d6:=(hb1.cell (p:=⟨w.heap.size,6,none⟩) hl).trans c6)
    go_ret;exact ⟨rfl,hb.trans (hb1.mono hb.size)⟩
  ·have hu':decide (0<=U)=false:=Lk hu;rw [hu'];clear hu
   go_enter func13,ntmps13
   go_upto_region 1 with fail
   refine qa (fun X=>Blk X w.heap.size 26 (mdC ⟨⟨W,H,rows,r,cl,vs⟩,U⟩ A n c)/\Below w.heap.size w X) ⟨Blk.new_ rfl,L5⟩ ?_;rintro X ⟨hM,hb⟩;have c0:X.cell? ⟨w.heap.size,0,none⟩=some (.int .i64 W):=hM.cell 0;have c1:X.cell? ⟨w.heap.size,1,none⟩=some (.int .i64 H):=hM.cell 1;have c2:X.cell? ⟨w.heap.size,2,none⟩=some (.slice A n c):=hM.cell 2;have c3:X.cell? ⟨w.heap.size,3,none⟩=some (.int .i64 r):=hM.cell 3;have c4:X.cell? ⟨w.heap.size,4,none⟩=some (.int .i64 cl):=hM.cell 4;have c5:X.cell? ⟨w.heap.size,5,none⟩=some (.bool vs):=hM.cell 5;have c6:X.cell? ⟨w.heap.size,6,none⟩=some (.int .i64 U):=hM.cell 6;have hl:=hM.lt;clear hM
   go_wp2_with (go_at_call 28;refine (HC.out _ hb).mono ?_;rintro e w1 ⟨rfl,hb1⟩;have d6:=(hb1.cell (p:=⟨w.heap.size,6,none⟩) hl).trans c6)
   go_ret;exact ⟨rfl,hb.trans (hb1.mono hb.size)⟩
 ·have e1:(V==0)=false:=Lm.2 hv;rw [Lk hv];clear h1 hv
  go_enter func13,ntmps13
  go_upto_region 1 with fail
  refine qa (fun X=>Blk X w.heap.size 26 (mdC ⟨⟨W,H,rows,r,cl,vs⟩,U⟩ A n c)/\Below w.heap.size w X) ⟨Blk.new_ rfl,L5⟩ ?_;rintro X ⟨hM,hb⟩;have c0:X.cell? ⟨w.heap.size,0,none⟩=some (.int .i64 W):=hM.cell 0;have c1:X.cell? ⟨w.heap.size,1,none⟩=some (.int .i64 H):=hM.cell 1;have c2:X.cell? ⟨w.heap.size,2,none⟩=some (.slice A n c):=hM.cell 2;have c3:X.cell? ⟨w.heap.size,3,none⟩=some (.int .i64 r):=hM.cell 3;have c4:X.cell? ⟨w.heap.size,4,none⟩=some (.int .i64 cl):=hM.cell 4;have c5:X.cell? ⟨w.heap.size,5,none⟩=some (.bool vs):=hM.cell 5;have c6:X.cell? ⟨w.heap.size,6,none⟩=some (.int .i64 U):=hM.cell 6;have hl:=hM.lt;clear hM
  go_wp2_with (go_at_call 28;refine (HC.out _ hb).mono ?_;rintro e w1 ⟨rfl,hb1⟩;have d6:=(hb1.cell (p:=⟨w.heap.size,6,none⟩) hl).trans c6)
  go_ret;exact ⟨rfl,hb.trans (hb1.mono hb.size)⟩
theorem bothG {P:Program} {f:FuncId} {args:Array Value} {w X:World} {v:Value} (h:Calls P f args X (qh v X)) (hb:Below w.heap.size w X):Calls P f args X fun e X'=>e = .returned v/\Below w.heap.size w X'/\Below X.heap.size X X' :=
 h.mono fun _ _ ⟨h1,h2⟩=>⟨h1,hb.trans (h2.mono hb.size),h2⟩
theorem bothS {P:Program} {f:FuncId} {args:Array Value} {w X:World} {v:Value} (h:Calls P f args X fun e X'=>e = .returned v/\X'=X) (hb:Below w.heap.size w X):Calls P f args X fun e X'=>e = .returned v/\Below w.heap.size w X'/\Below X.heap.size X X' :=
 h.mono fun _ _ ⟨h1,h2⟩=>by subst h2;exact ⟨h1,hb,Le _ _⟩
theorem qkN {l:List ChgM} {m r q k:Int} (h:wErr l m r q k=0):setE r q k=0/\0<=m/\m<=999999999/\chkAll l=0:=by
 unfold wErr at h
 split at h
 ·cases h
 ·rename_i h1
  split at h
  ·cases h
  ·rw [not_or] at h1;exact ⟨Decidable.not_not.1 h1.1,by omega,by omega,h⟩
theorem qd0 {v:Vw} (h:js v=0) : ∀ l∈v.rows,l.length<=132/\∀ g∈l,g.text.size<=16:=fun l hl=>by
 obtain ⟨h1,-,-,h4⟩:=qbh.1 h;obtain ⟨a,b,-⟩:=h4 l hl;have hs:=jW.1 h1;refine ⟨?_,fun g hg=>(gw_of (qb9.1 a g hg)).2⟩;unfold vM at b
 omega
theorem qcF {v:Vw} (h:qaC v=false) : ∀ l∈v.rows,l.length<=140/\∀ g∈l,g.text.size<=40:=fun l hl=>by
 unfold qaC at h;rw [Bool.or_eq_false_iff] at h;have:=List.any_eq_false.1 h.2 l hl;simp only [zA,Bool.or_eq_true,decide_eq_true_eq,List.any_eq_true,not_or,not_exists,not_and] at this;exact ⟨by omega,fun g hg=>by have:=this.2 g hg;omega⟩
theorem kB {rs:List RowM} {x:RowM} (h:x∈rs):x.l∈rls rs:=List.mem_map_of_mem h
end Go.Proofs.YtbogmeeijdaijaaGreatDoor
namespace Go.Proofs.YtbogmeeijdaijaaGreatDoor
open Go.Proofs.Tryz Go.RowKit Go.Shelf
set_option maxRecDepth 20000
theorem qfj {m:Md} (hp:vu m=true) {W:World} {B n c:Nat} {A:Option Addr} {rs:List RowM} (h:RdV W B m.view A n c rs) : ∀ x∈rs,x.l.length<=132/\∀ g∈x.l,g.text.size<=16:=fun x hx=>by
 unfold vu at hp;exact qd0 (of_decide_eq_true hp).1 x.l (by rw [h.2.1];exact kB hx)
end Go.Proofs.YtbogmeeijdaijaaGreatDoor
namespace Go.Proofs.YtbogmeeijdaijaaGreatDoor
open Go.Proofs.Tryz Go.RowKit
set_option maxRecDepth 20000
def NWs (r:List ByteArray):Prop:=∀ a∈r,∃ j,j<32/\wb j=a
theorem NWs.num (n:Int) (h1 : -999999999<=n) (h2:n<=999999999):NWs (qY n):=fun a ha=>by
 unfold qY at ha;obtain ⟨i,hi,rfl⟩:=List.mem_map.1 ha;exact ⟨i,jT n h1 h2 i hi,rfl⟩
theorem NWs.take {r:List ByteArray} (h:NWs r) (k:Nat):NWs (r.take k):=fun a ha=>h a (List.mem_of_mem_take ha)
theorem NWs.drop {r:List ByteArray} (h:NWs r) (k:Nat):NWs (r.drop k):=fun a ha=>h a (List.mem_of_mem_drop ha)
theorem NWs.hd {r:List ByteArray} (h:NWs r) {s:ByteArray} (hs:NoW s):vT s r=false:=by
 cases r with
 | nil=>rfl
 | cons a t =>
  obtain ⟨j,hj,e⟩:=h a L1;exact vo (fun e'=>hs j hj (e.trans e')) t
theorem NWs.sk {r:List ByteArray} (h:NWs r) {s:ByteArray} (hs:NoW s):skO s r=none:=by
 cases r with
 | nil=>rfl
 | cons a t =>
  obtain ⟨j,hj,e⟩:=h a L1
  show (if a=s then some t else none)=none
  rw [if_neg (fun e'=>hs j hj (e.trans e'))]
theorem NWs.af {r:List ByteArray} (h:NWs r) {s:ByteArray} (hs:NoW s):afO s r=none:=by
 unfold afO;rw [h.sk hs]
 rfl
theorem NWs.kU {r:List ByteArray} (h:NWs r):Proofs.YtbogmeeijdaijaaGreatDoor.kU r=none∨∃ x t,Proofs.YtbogmeeijdaijaaGreatDoor.kU r=some (x,t)/\NWs t:=by
 unfold Proofs.YtbogmeeijdaijaaGreatDoor.kU
 cases prefixL r with
 | none=>exact .inl rfl
 | some x=>exact .inr ⟨x.1,r.drop x.2,rfl,h.drop x.2⟩
def BadU (r:List ByteArray):Prop:=∀ f acc,yR f r acc=none
theorem noW_ctl : ∀ a∈ctlU,NoW a:=by unfold NoW ctlU;decide +kernel
theorem chgL_bad {r:List ByteArray} (h : ∀ s∈ctlU,vT s r=false):qaL r=none:=by
 unfold qaL;rw [h jS (by simp [ctlU]),if_neg L1,h q8 (by simp [ctlU]),if_neg L1,h qI (by simp [ctlU]),if_neg L1,h q7 (by simp [ctlU]),if_neg L1]
theorem bad_of {r:List ByteArray} (h : ∀ s∈ctlU,vT s r=false):BadU r:=fun f acc=>by
 cases f with
 | zero=>rfl
 | succ f =>
  rw [yR,h kZ (by simp [ctlU]),h jN (by simp [ctlU]),if_neg L1,chgL_bad h]
  rfl
theorem NWs.bad {r:List ByteArray} (h:NWs r):BadU r:=bad_of fun s hs=>h.hd (noW_ctl s hs)
theorem qn3 (l:List Chg) (S:Setts) {n:Int} (h0:0<=n) (h1:n<=999999999) (h : ∀ c∈l,vj c=0):Nxt (qZ l n S):=by
 cases l with
 | nil=>unfold qZ;rw [List.flatMap_nil,Lg];exact (qe7 h0 h1).2.2
 | cons d u =>
  have e2:qZ (d::u) n S=phraseL d S++qZ u n S:=by unfold qZ;rw [List.flatMap_cons,List.append_assoc]
  rw [e2];exact (qbD d S (h d L1) _).1
theorem qnY {t:List ByteArray} (h:NoNum t):kU t=none:=by
 unfold kU
 cases hp:prefixL t with
 | none=>rfl
 | some x =>
  obtain ⟨n,k⟩:=x;obtain ⟨h0,h1,_,h3,_⟩:=zF hp;obtain ⟨a,b,hw,_,_⟩:=vp h3;have hN:=NWs.num n a b
  cases t with
  | nil=>simp at h1;omega
  | cons s u =>
   obtain ⟨k,rfl⟩ : ∃ j,k=j+1:=⟨k-1,by omega⟩
   rw [List.take_succ_cons] at hw;have hs:s∈qY n:=by unfold qY;rw [hw];exact List.mem_cons_self
   obtain ⟨j,hj,e⟩:=hN s hs;exact (h s u rfl j hj e).elim
theorem end_more {n:Int} (h0:0<=n) (h1:n<=999999999) {W:List ByteArray} (hW:Nxt W):ki (endW n++W)=none/\(vT kZ (endW n++W)=true∨vT jN (endW n++W)=true)/\Nxt (endW n++W):=by
 have hne:W≠[]:=by obtain ⟨a,u,rfl,_⟩:=hW;simp
 unfold endW
 by_cases hz:n=0
 ·rw [if_pos hz,List.singleton_append];refine ⟨?_,.inl (jD _ _),kZ,W,rfl,by simp [nxtB]⟩;unfold ki;rw [if_pos (jD _ _),if_neg];rw [Lp];intro h;exact hne (List.length_eq_zero_iff.1 L0)
 ·rw [if_neg hz]
  by_cases ho:n=1
  ·rw [if_pos ho,List.singleton_append];refine ⟨?_,.inr (jD _ _),jN,W,rfl,by simp [nxtB]⟩;unfold ki;rw [vo L4,if_neg L1,yL,Option.bind_some,if_neg hne,qnY hW.num]
   rfl
  ·rw [if_neg ho,List.cons_append,List.append_assoc,List.singleton_append];refine ⟨?_,.inr (jD _ _),jN,_,rfl,by simp [nxtB]⟩;unfold ki;rw [vo L4,if_neg L1,yL,Option.bind_some,if_neg L1,qfK L0 h1 (noW_updates.num _),Option.bind_some];simp only;rw [yL,Option.bind_some,if_neg (fun h=>hne h.1)]
theorem j0 (S:Setts) {T:List ByteArray} (hT:Nxt T) (hm:vT kZ T=true∨vT jN T=true) (he:ki T=none) : ∀ (k:List Chg) (f:Nat) (acc:List Chg),(∀ c∈k,vj c=0)->yR f ((k.flatMap fun c=>phraseL c S)++T) acc=none
 | _,0,_,_=>rfl
 | [],f+1,acc,_=>by
  rw [List.flatMap_nil,Lg,yR,if_pos hm,he]
  rfl
 | c::k,f+1,acc,h=>by
  have hc:=h c L1;rw [List.flatMap_cons,List.append_assoc];have hN:Nxt ((k.flatMap fun c=>phraseL c S)++T):=by
   cases k with
   | nil=>exact hT
   | cons d u =>
    rw [List.flatMap_cons,List.append_assoc];exact (qbD d S (h d L1) _).1
  obtain ⟨_,h2,h3⟩:=qbD c S hc ((k.flatMap fun c=>phraseL c S)++T);rw [yR,if_neg (by rw [h2,h3];simp),qhr c S hc _ hN,Option.bind_some];simp only;rw [if_pos hc];exact j0 S hT hm he k f _ fun x hx=>h x (by simp [hx])
theorem qnX (k l:List Chg) (i j:Int) (S:Setts) (hk : ∀ c∈k,vj c=0) (hl : ∀ c∈l,vj c=0) (hi:0<=i/\i<=999999999) (hj:0<=j/\j<=999999999):jm (qZ k i S++qZ l j S)=none:=by
 obtain ⟨h1,h2,h3⟩:=end_more hi.1 hi.2 (qn3 l S hj.1 hj.2 hl);unfold jm;have e:qZ k i S++qZ l j S=(k.flatMap fun c=>phraseL c S)++(endW i++qZ l j S):=by rw [<- List.append_assoc];rfl
 rw [e];exact j0 S h3 h2 h1 k _ _ hk
theorem qnZ {m:Md} (hp:vu m=true) {k l:List Chg} {i j:Int} (S:Setts) (hk : ∀ c∈k,vj c=0) (hl : ∀ c∈l,vj c=0) (hi:0<=i/\i<=999999999) (hj:0<=j/\j<=999999999):yT m (qZ k i S++qZ l j S)=(md0,17):=by
 unfold yT;rw [if_neg (by rw [hp];decide),qnX k l i j S hk hl hi hj]
theorem qn1 {m:Md} (hp:vu m=true) {k l:List Chg} {i j:Int} (S:Setts) (hk : ∀ c∈k,vj c=0) (hl : ∀ c∈l,vj c=0) (hi:0<=i/\i<=255) (hj:0<=j/\j<=255)
  (hx:(yT m (qZ k i S)).2=0) (hy:(yT (yT m (qZ k i S)).1 (qZ l j S)).2=0) :
  yT m (qZ (k++l) (i+j) S)=yT (yT m (qZ k i S)).1 (qZ l j S):=by
 have hpx:=qcL hx;have c1:=qby k i S hi.1 L0 hk;have c2:=qby l j S hj.1 L0 hl;have c3:=qby (k++l) (i+j) S L0 L0 fun c hc=>(List.mem_append.1 hc).elim (hk c) (hl c)
 have hp' : ¬ vu m=false:=by rw [hp];decide
 have e1:yT m (qZ k i S)=(⟨(yx m.view k).1,m.upd+i⟩,0)/\(yx m.view k).2=0:=by
  unfold yT at hx ⊢;rw [if_neg hp',c1] at hx ⊢;dsimp only at hx ⊢
  by_cases h1:(yx m.view k).2=0
  ·rw [if_neg (by simpa using h1)] at hx ⊢
   by_cases h2:MaxT<m.upd+i
   ·rw [if_pos h2] at hx;cases hx
   ·rw [if_neg h2];exact ⟨rfl,h1⟩
  ·rw [if_pos h1] at hx;exact absurd hx h1
 obtain ⟨e1,h1⟩:=e1;rw [e1] at hy hpx ⊢;dsimp only at hy hpx ⊢;have hpx' : ¬ vu ⟨(yx m.view k).1,m.upd+i⟩=false:=by rw [hpx];decide
 unfold yT at hy ⊢;rw [if_neg hpx',c2] at hy;rw [if_neg hp',c3,if_neg hpx',c2];dsimp only at hy ⊢;rw [qn2 h1,show m.upd+(i+j)=m.upd+i+j by omega]
end Go.Proofs.YtbogmeeijdaijaaGreatDoor
