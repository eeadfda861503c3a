/- Joined: LvP, Um1, Lv1, Lv2, Lv3, Lv6, Lvo, Ul1, LxP, Ls3, LxS, Ra0. -/
import Derived.Test.YticbpkghcglgkaaGreatDoorZAV
import Derived.Test.YticbpkghcglgkaaGreatDoorZEB
set_option linter.unusedVariables false
set_option linter.unusedSimpArgs false
set_option linter.unnecessarySimpa false
set_option maxHeartbeats 8000000
namespace Go.Proofs.YticbpkghcglgkaaGreatDoor
open Go.Proofs.Tryz Go.RowKit
set_option maxRecDepth 20000
theorem qer : ∀ (l:List Chg) (v:Vw),OnV v->(goV v l).2=0->js (goV v l).1=0
 | [],v,h,e=>by
  unfold goV at e ⊢
  split
  ·next hw=>exact h.zero hw
  ·next hw=>rw [if_neg hw] at e;cases e
 | c::t,v,h,e=>by
  unfold goV at e ⊢
  by_cases hc:qan v c=0
  ·rw [if_neg (by simpa using hc)] at e ⊢
   exact qer t _ (h.step hc) e
  ·rw [if_pos hc] at e
   exact absurd e hc
theorem qe3 {v:Vw} {l:List Chg} (e:(yx v l).2=0):js (yx v l).1=0:=by
 unfold yx at e ⊢
 split
 ·next h=>rw [if_pos h] at e;cases e
 ·next h=>rw [if_neg h] at e;exact qer l v (.of (by simpa using h)) e
theorem great19_ (l:List ChgM) (A:Option Addr) (n c B:Nat) (w:World) (hm:n<=maxLen) (rd:RdC w B A n l) :
  Calls prog 14 #[.slice A n c] w fun e w'=>e = .returned (.bool (qci l))/\w'=w:=by
 have HN:=Lh rd.len
 have hmm:n<=9223372036854775807:=by unfold maxLen at hm;omega
 have HG:Hid (∀ x∈l,Calls prog 24 #[.slice x.A x.c.glyphs.length x.cap] w fun e w'=>e = .returned (.bool (zA x.c.glyphs))/\w'=w):=Lh fun x hx =>
  qeP _ _ _ _ B w (Lj (rd.gl x hx).2.1 (rd.gl x hx).2.2) (rd.gl x hx).1
 unfold qci
 rw [HN.out]
 clear hm
 by_cases h0:30<n
 ·rw [Ll h0,Bool.true_or]
  have hi:(30:Int)<(n:Int):=by omega
  go_enter func14,ntmps14
  go_wp2
  go_ret
  exact ⟨rfl,rfl⟩
 ·rw [Lk h0,Bool.false_or]
  have hi:(n:Int)<=30:=by omega
  have H0:Hid ((l.any fun x=>zA x.c.glyphs)=((l.drop 0).any fun x=>zA x.c.glyphs)):=Lh rfl
  generalize (l.any fun x=>zA x.c.glyphs)=R at *
  clear h0
  go_enter func14,ntmps14
  go_wp2
  go_loop [3] (fun x=>∃ k:Nat,k<=n/\x = .int .i64 k/\Hid (R=((l.drop k).any fun x=>zA x.c.glyphs))) (fun x=>n-(intOf x).toNat)
  case atStart=>exact ⟨0,Nat.zero_le _,rfl,H0⟩
  case round =>
   obtain ⟨k,hk,rfl,HK⟩:=hrel
   by_cases hlt:k<n
   ·have hkl:k<l.length:=by have:=HN.out;omega
    obtain ⟨b,o,rfl,_,-,-,-,-,-,c5⟩:=rd.at_ hkl
    have HD:=Lh (qb4 (fun x:ChgM=>zA x.c.glyphs) hkl)
    have HGk:=Lh (HG.out _ (Lt hkl))
    generalize l[k]=g at *
    obtain ⟨⟨k1,k2,k3,k4,k5,G⟩,Ag,cg⟩:=g
    dsimp only at *
    generalize zA G=gg at *
    cases gg with
    | true =>
     have HR2:Hid (R=true):=Lh (by rw [HK.out,HD.out];rfl)
     clear HK HD HG
     go_wp2_with (go_at_call 24;refine HGk.out.mono ?_;rintro e w1 ⟨rfl,rfl⟩)
     go_ret
     exact ⟨by rw [HR2.out];rfl,rfl⟩
    | false =>
     have HR2:Hid (R=((l.drop (k+1)).any fun x=>zA x.c.glyphs)):=Lh (by rw [HK.out,HD.out];rfl)
     clear HK HD HG
     go_wp2_with (go_at_call 24;refine HGk.out.mono ?_;rintro e w1 ⟨rfl,rfl⟩)
     exact ⟨⟨k+1,by omega,by go_num,HR2⟩,by simp [intOf];omega⟩
   ·have HR2:Hid (R=false):=Lh (by rw [HK.out,Lv (by have:=HN.out;omega)];rfl)
    go_wp2
    go_ret
    exact ⟨by rw [HR2.out];rfl,rfl⟩
theorem qjp (l:List Gl) (A:Option Addr) (n c B:Nat) (w:World) (hm:n<=1000000000) (rd:Rd w B 3 A n (qi l)):Calls prog 38 #[.slice A n c] w fun e w'=>e = .returned (.int .i64 (vM l:Nat))/\w'=w:=by
 have HN:=Lh (jK rd)
 have HRd:=Lh rd
 have HL:Hid (∀ k,kw (l.take k)<=n):=Lh fun k=>by rw [<- HN.out];exact qcf l k
 have HE:Hid (vM l=n+kw (l.take n)):=Lh (by unfold vM;rw [HN.out,List.take_of_length_le (Nat.le_of_eq HN.out)])
 generalize vM l=R at *
 clear rd
 go_enter func38,ntmps38
 go_wp2
 go_loop [3,4] (fun v x=>∃ k:Nat,k<=n/\x = .int .i64 k/\v = .int .i64 ((k+kw (l.take k):Nat):Int)) (fun _ x=>n-(intOf x).toNat)
 case atStart=>exact ⟨0,Nat.zero_le _,rfl,rfl⟩
 case round =>
  obtain ⟨k,hk,rfl,rfl⟩:=hrel
  by_cases hlt:k<n
  ·have hkl:k<l.length:=by have:=HN.out;omega
   obtain ⟨b,o,rfl,_,-,g1,-⟩:=jE HRd.out hkl HN.out
   have HT:=Lh (qcw hkl)
   have hW:=HL.out k
   generalize kw (l.take k)=W1 at *
   generalize l[k].wide=wd at *
   cases wd
   ·go_wp2
    exact ⟨⟨k+1,by omega,by go_num,by rw [HT.out];simp only [Bool.toNat_false];go_num⟩,by simp [intOf];omega⟩
   ·go_wp2
    exact ⟨⟨k+1,by omega,by go_num,by rw [HT.out];simp only [Bool.toNat_true];go_num⟩,by simp [intOf];omega⟩
  ·obtain rfl:k=n:=by omega
   go_wp2
   go_ret
   exact ⟨by rw [HE.out];rfl,rfl⟩
theorem q6 (w0 h0:Int) (w:World):Calls prog 59 #[.int .i64 w0,.int .i64 h0] w fun e w'=>e = .returned (.bool (vR w0 h0))/\w=w':=by
 by_cases h1:1<=w0
 ·by_cases h2:w0<=132
  ·by_cases h3:1<=h0
   ·by_cases h4:h0<=60
    ·go_enter func59,ntmps59
     go_wp2
     go_ret
     exact ⟨by unfold vR;rw [Ll (by omega)];rfl,rfl⟩
    ·go_enter func59,ntmps59
     go_wp2
     go_ret
     exact ⟨by unfold vR;rw [Lk (by omega)];rfl,rfl⟩
   ·go_enter func59,ntmps59
    go_wp2
    go_ret
    exact ⟨by unfold vR;rw [Lk (by omega)];rfl,rfl⟩
  ·go_enter func59,ntmps59
   go_wp2
   go_ret
   exact ⟨by unfold vR;rw [Lk (by omega)];rfl,rfl⟩
 ·go_enter func59,ntmps59
  go_wp2
  go_ret
  exact ⟨by unfold vR;rw [Lk (by omega)];rfl,rfl⟩
theorem qks (n a b:Int) (w:World):Calls prog 65 #[.int .i64 n,.int .i64 a,.int .i64 b] w fun e w'=>e = .returned (.bool (inB n a b))/\w=w':=by
 unfold inB
 by_cases h1:a<=n
 ·by_cases h2:n<=b
  ·go_enter func65,ntmps65
   go_wp2
   go_ret
   exact ⟨by simp [h1,h2],rfl⟩
  ·go_enter func65,ntmps65
   go_wp2
   go_ret
   exact ⟨by simp [h1,h2],rfl⟩
 ·go_enter func65,ntmps65
  go_wp2
  go_ret
  exact ⟨by rw [Lk (show ¬ a<=n by omega)];rfl,rfl⟩
theorem qjx (g:Gl) (w:World):Calls prog 61 #[glV g] w (qh (.bool (decide (g=spG))) w):=by
 have hq:=eq_gl g spG
 have hg:=qa2 g spG .eql
 unfold glV spG at hq hg
 unfold spG
 generalize decide (g=_)=R at *
 obtain ⟨t,wd,st⟩:=g
 dsimp only at *
 go_enter func61,ntmps61
 go_wp2
 go_ret
 exact ⟨rfl,(Le _ _).alloc (Ld _) _⟩
theorem qkD (l:List Gl) (A:Option Addr) (n c B:Nat) (w:World) (hm:n<=1000000000) (hc:n<=c) (hcm:c<=maxLen) (rd:Rd w B 3 A n (qi l)) (hB:B<=w.heap.size):Calls prog 67 #[.slice A n c] w (ql 86 3 id w (zI l).length (qi (zI l))):=by
 have HN:=Lh (jK rd)
 have HG:Hid (∀ k (hk:k<l.length) w',Below w.heap.size w w'->∃ b o,A=some ⟨b,o,none⟩/\b<w.heap.size/\(w'.cell? ⟨b,(o+k * 3),none⟩=some (.string l[k].text)/\w'.cell? ⟨b,(o+k * 3)+1,none⟩=some (.bool l[k].wide)/\w'.cell? ⟨b,(o+k * 3)+2,none⟩=some (.int .i64 l[k].style))):=Lh fun k hk w' hb=>jE ((rd.more hB).below hb) hk (jK rd)
 have HR:Hid (∀ k,k<=n->Rd w w.heap.size 3 A k (qi (l.take k))):=Lh fun k hk=>by
  rw [kM]
  exact (rd.more hB).take hk
 have HT:Hid (∀ k (hk:k<l.length),zI (l.take (k+1))=if l[k]=spG then zI (l.take k) else l.take (k+1)):=Lh fun k hk=>qjX hk
 have H0:Hid (zI l=zI (l.take n)):=Lh (by rw [List.take_of_length_le (Nat.le_of_eq HN.out)])
 clear rd
 have hcc:(c:Int)<=9223372036854775807:=by unfold maxLen at hcm;omega
 clear hcm
 go_enter func67,ntmps67
 go_wp2
 go_loopw [3] (fun v wr=>∃ k:Nat,k<=n/\v = .int .i64 k/\Below w.heap.size w wr/\Hid (zI l=zI (l.take k))) (fun v _=>(intOf v).toNat)
 case atStart=>exact ⟨n,Ld _,rfl,Le _ _,H0⟩
 case round =>
  clear H0
  obtain ⟨k,hk,rfl,hb,HK⟩:=hrel
  have hzz:=hb.size
  by_cases h0:k=0
  ·have HL:Hid (zI l=l.take k):=Lh (by rw [HK.out,h0];rfl)
   have hk0:decide (0<k)=false:=Lk (by omega)
   clear h0 HG HT
   go_wp2_with (at_builtin;go_must (refine qg rfl _ _ _ rfl qbz (w.heap.size) _ rfl (qx (xs:=[]) (by rfl) rfl hzz (by omega)) _ _ rfl ((HR.out _ hk).below (hb.alloc hzz _)) (by first | rfl | exact qcY _) (by omega) (by omega) (by first | (simp;done) | (simp;omega) | omega) ?_);intro A4 c4 w4 hown4 hbel4 hgr4 hat4;have z4:=hbel4.size;(try simp only [Li] at z4);(try simp only [Lo,Lg] at hown4))
   go_ret
   rw [HL.out,Lu,HN.out,Nat.min_eq_left hk]
   exact ⟨A4,c4,by first | rfl | (rw [Lo];rfl),hown4,(hb.alloc hzz _).trans hbel4⟩
  ·obtain ⟨j,rfl⟩ : ∃ j,k=j+1:=⟨k-1,by omega⟩
   have hjl:j<l.length:=by have:=HN.out;omega
   obtain ⟨b,o,rfl,hbB,g0,g1,g2⟩:=HG.out j hjl _ hb
   have HL:=HK.out
   rw [HT.out j hjl] at HL
   replace HL:=Lh HL
   have HBk:=Lh (qjx l[j])
   generalize l[j]=g at *
   by_cases he:g=spG
   ·rw [if_pos he] at HL
    rw [Ll he] at HBk
    clear he HG HT
    obtain ⟨t,wd,st⟩:=g
    dsimp only at *
    clear h0
    go_wp2_with (go_at_call 61;refine (HBk.out _).mono ?_;rintro e w1 ⟨rfl,hb1⟩)
    exact ⟨⟨j,by omega,by go_num,hb.trans (hb1.mono hb.size),HL⟩,by simp [intOf]⟩
   ·rw [if_neg he] at HL
    rw [Lk he] at HBk
    clear he HG HT
    obtain ⟨t,wd,st⟩:=g
    dsimp only at *
    clear h0
    go_wp2_with (first
     | (go_at_call 61;refine (HBk.out _).mono ?_;rintro e w1 ⟨rfl,hb1⟩;have hb2:=hb.trans (hb1.mono hb.size);have hz2:=hb2.size)
     | (at_builtin;go_must (refine qg rfl _ _ _ rfl qbz (w.heap.size) _ rfl (qx (xs:=[]) (by rfl) rfl hz2 (by omega)) _ _ rfl ((HR.out _ hk).below (hb2.alloc hz2 _)) (by first | rfl | exact qcY _) (by omega) (by omega) (by first | (simp;done) | (simp;omega) | omega) ?_);intro A4 c4 w4 hown4 hbel4 hgr4 hat4;have z4:=hbel4.size;(try simp only [Li] at z4);(try simp only [Lo,Lg] at hown4)))
    go_ret
    rw [HL.out,Lu,HN.out,Nat.min_eq_left hk]
    exact ⟨A4,c4,by first | rfl | (rw [Lo];rfl),hown4,(hb2.alloc hz2 _).trans hbel4⟩
theorem qjk (v:Vw) (A:Option Addr) (n c B:Nat) (rs:List RowM) (w:World) (rd:RdV w B v A n c rs) (hB:B<=w.heap.size) (hz : ∀ x∈rs,x.l.length<=1000000000/\∀ g∈x.l,g.text.size<=1000000000) :
  Calls prog 31 #[.agg (vwC v A n c)] w (qh (.int .i64 (js v)) w):=by
 have HN:=Lh rd.1.len
 have hnm:n<=9223372036854775807:=by have h1:=rd.2.2.1;have h2:=rd.2.2.2;unfold maxLen at h2;omega
 have HRL:Hid (v.rows=rls rs):=Lh rd.2.1
 have HA:Hid (∀ k (hk:k<rs.length) w',Below w.heap.size w w'->∃ b o,A=some ⟨b,o,none⟩/\b<w.heap.size/\w'.cell? ⟨b,o+k,none⟩=some (.slice rs[k].A rs[k].l.length rs[k].cap)):=Lh fun k hk w' hb=>((rd.1.more hB).below hb).at_ hk
 have HG:Hid (∀ x∈rs,∀ w',Below w.heap.size w w'->Rd w' w.heap.size 3 x.A x.l.length (qi x.l)):=Lh fun x hx w' hb=>(((rd.1.gl x hx).1.more hB).below hb)
 have HX:Hid (∀ x∈rs,x.l.length<=1000000000/\∀ g∈x.l,g.text.size<=1000000000):=Lh hz
 have HS:Hid (∀ k,k<rs.length->(rls rs).drop k=(rls rs).getD k []::(rls rs).drop (k+1)):=Lh fun k hk=>by
  rw [Ls (by rw [vJ];exact hk),List.getD_eq_getElem?_getD,List.getElem?_eq_getElem (by rw [vJ];exact hk)]
  rfl
 unfold js
 rw [HRL.out,vJ,HN.out]
 clear rd hz
 obtain ⟨W,Hh,rows,row,col,vis⟩:=v
 dsimp only at *
 have HV:Hid (∀ x∈rs,∀ g∈x.l,∀ w',Calls prog 60 #[glV g] w' (qh (.int .i64 (qJ g)) w')):=Lh fun x hx g hg w'=>qky g ((HX.out x hx).2 g hg) w'
 have HWd:Hid (∀ x∈rs,∀ w',Below w.heap.size w w'->Calls prog 38 #[.slice x.A x.l.length x.cap] w' (qh (.int .i64 (vM x.l:Nat)) w')):=Lh fun x hx w' hb=>(qjp x.l x.A _ x.cap w.heap.size w' (HX.out x hx).1 (HG.out x hx w' hb)).mono fun e w'' ⟨h1,h2⟩=>⟨h1,h2 ▸ Le _ _⟩
 have HSz:=Lh (q6 W Hh)
 by_cases h1:vR W Hh=false
 ·rw [if_pos h1]
  rw [h1] at HSz
  clear h1
  go_enter func31,ntmps31;go_upto_region 1 with fail;refine qa (VwBox w ⟨W,Hh,rows,row,col,vis⟩ A n c) (VwBox.new w ⟨W,Hh,rows,row,col,vis⟩ A n c) ?_;intro X hX;obtain ⟨c0,c1,c2,c3,c4,c5⟩:=hX.cells;have hb:=hX.2;dsimp only at c0 c1 c2 c3 c4 c5
  go_wp2_with (go_at_call 59;refine (HSz.out _).mono ?_;rintro e w1 ⟨rfl,rfl⟩)
  go_ret
  exact ⟨rfl,hb⟩
 ·have h1':vR W Hh=true:=by simpa using h1
  rw [if_neg h1]
  rw [h1'] at HSz
  clear h1 h1'
  by_cases h2:(n:Int)=Hh
  ·rw [if_neg (by simpa using h2)]
   have hne:((n:Int) != Hh)=false:=by simp [h2]
   replace h2:=Lh h2
   by_cases h3:row<0∨Hh<=row∨col<0∨W<=col
   ·rw [if_pos h3]
    by_cases r1:row<0
    ·go_enter func31,ntmps31;go_upto_region 1 with fail;refine qa (VwBox w ⟨W,Hh,rows,row,col,vis⟩ A n c) (VwBox.new w ⟨W,Hh,rows,row,col,vis⟩ A n c) ?_;intro X hX;obtain ⟨c0,c1,c2,c3,c4,c5⟩:=hX.cells;have hb:=hX.2;dsimp only at c0 c1 c2 c3 c4 c5
     go_wp2_with (go_at_call 59;refine (HSz.out _).mono ?_;rintro e w1 ⟨rfl,rfl⟩)
     go_ret
     exact ⟨rfl,hb⟩
    ·by_cases r2:Hh<=row
     ·go_enter func31,ntmps31;go_upto_region 1 with fail;refine qa (VwBox w ⟨W,Hh,rows,row,col,vis⟩ A n c) (VwBox.new w ⟨W,Hh,rows,row,col,vis⟩ A n c) ?_;intro X hX;obtain ⟨c0,c1,c2,c3,c4,c5⟩:=hX.cells;have hb:=hX.2;dsimp only at c0 c1 c2 c3 c4 c5
      go_wp2_with (go_at_call 59;refine (HSz.out _).mono ?_;rintro e w1 ⟨rfl,rfl⟩)
      go_ret
      exact ⟨rfl,hb⟩
     ·by_cases r3:col<0
      ·go_enter func31,ntmps31;go_upto_region 1 with fail;refine qa (VwBox w ⟨W,Hh,rows,row,col,vis⟩ A n c) (VwBox.new w ⟨W,Hh,rows,row,col,vis⟩ A n c) ?_;intro X hX;obtain ⟨c0,c1,c2,c3,c4,c5⟩:=hX.cells;have hb:=hX.2;dsimp only at c0 c1 c2 c3 c4 c5
       go_wp2_with (go_at_call 59;refine (HSz.out _).mono ?_;rintro e w1 ⟨rfl,rfl⟩)
       go_ret
       exact ⟨rfl,hb⟩
      ·have r4:W<=col:=by omega
       go_enter func31,ntmps31;go_upto_region 1 with fail;refine qa (VwBox w ⟨W,Hh,rows,row,col,vis⟩ A n c) (VwBox.new w ⟨W,Hh,rows,row,col,vis⟩ A n c) ?_;intro X hX;obtain ⟨c0,c1,c2,c3,c4,c5⟩:=hX.cells;have hb:=hX.2;dsimp only at c0 c1 c2 c3 c4 c5
       go_wp2_with (go_at_call 59;refine (HSz.out _).mono ?_;rintro e w1 ⟨rfl,rfl⟩)
       go_ret
       exact ⟨rfl,hb⟩
   ·rw [if_neg h3]
    have r1:0<=row:=by omega
    have r2:row<Hh:=by omega
    have r3:0<=col:=by omega
    have r4:col<W:=by omega
    clear h3
    have H0:Hid (yh W (rls rs)=yh W ((rls rs).drop 0)):=Lh rfl
    generalize yh W (rls rs)=R at *
    go_enter func31,ntmps31;go_upto_region 1 with fail;refine qa (VwBox w ⟨W,Hh,rows,row,col,vis⟩ A n c) (VwBox.new w ⟨W,Hh,rows,row,col,vis⟩ A n c) ?_;intro X hX;obtain ⟨c0,c1,c2,c3,c4,c5⟩:=hX.cells;have hb:=hX.2;dsimp only at c0 c1 c2 c3 c4 c5
    go_wp2_with (go_at_call 59;refine (HSz.out _).mono ?_;rintro e w1 ⟨rfl,rfl⟩)
    go_loopw [3] (fun x wr=>∃ k:Nat,k<=n/\x = .int .i64 k/\VwBox w ⟨W,Hh,rows,row,col,vis⟩ A n c wr/\Hid (R=yh W ((rls rs).drop k))) (fun x _=>n-(intOf x).toNat)
    case atStart=>exact ⟨0,Nat.zero_le _,rfl,hX,H0⟩
    case round =>
     clear hX hb c0 c1 c2 c3 c4 c5 H0 HSz hne r1 r2 r3 r4
     obtain ⟨k,hk,rfl,hX,HK⟩:=hrel
     obtain ⟨c0,c1,c2,c3,c4,c5⟩:=hX.cells;have hb:=hX.2;have hzX:=hX.lt;dsimp only at c0 c1 c2 c3 c4 c5
     by_cases hlt:k<n
     ·have hkl:k<rs.length:=by have:=HN.out;omega
      obtain ⟨b,o,rfl,hbB,hc⟩:=HA.out k hkl _ hb
      have hx:rs[k]∈rs:=Lt hkl
      obtain ⟨T,HT⟩ : ∃ T,Hid (T=if W<vM rs[k].l then 12 else if rs[k].l.getLast? = some spG then 1 else yh W ((rls rs).drop (k+1))):=⟨_,Lh rfl⟩
      have HK2:Hid (R=if yK (rs[k].l.drop 0)≠0 then yK (rs[k].l.drop 0) else T):=Lh (by rw [HK.out,HS.out k hkl,qa4 hkl,qdu,HT.out,List.drop_zero])
      have hl:=(HX.out _ hx).1
      have HGk:=Lh (HG.out _ hx)
      have HVk:=Lh (HV.out _ hx)
      have HWk:=Lh (HWd.out _ hx)
      clear HK HA HG HX HV HWd HS hx
      generalize rs[k]=x at *
      obtain ⟨l,Al,cl⟩:=x
      dsimp only at *
      go_wp2
      go_loopw [5] (fun y wy=>∃ j:Nat,j<=l.length/\y = .int .i64 j/\VwBox w ⟨W,Hh,rows,row,col,vis⟩ (some ⟨b,o,none⟩) n c wy/\Hid (R=if yK (l.drop j)≠0 then yK (l.drop j) else T)) (fun y _=>l.length-(intOf y).toNat)
      case atStart=>exact ⟨0,Nat.zero_le _,rfl,hX,HK2⟩
      case round=>as_aux_lemma =>
       clear hX hb c0 c1 c2 c3 c4 c5 HK2 hc hzX
       obtain ⟨j,hj,rfl,hX,HJ⟩:=hrel
       obtain ⟨c0,c1,c2,c3,c4,c5⟩:=hX.cells;have hb:=hX.2;have hzX:=hX.lt;dsimp only at c0 c1 c2 c3 c4 c5
       by_cases hlj:j<l.length
       ·obtain ⟨b',o',rfl,hbB',g0,g1,g2⟩:=jE (HGk.out _ hb) hlj rfl
        have HVj:=Lh (HVk.out _ (Lt hlj))
        have HJ2:=HJ.out
        rw [qdN hlj] at HJ2
        generalize l[j]=g at *
        by_cases h0:qJ g=0
        ·rw [if_neg (show ¬ qJ g≠0 by simp [h0])] at HJ2
         replace HJ2:=Lh HJ2
         rw [h0] at HVj
         clear h0
         obtain ⟨t,wd,st⟩:=g
         dsimp only at *
         go_wp2_with (go_at_call 60;refine (HVj.out _).mono ?_;rintro e w1 ⟨rfl,hb1⟩)
         exact ⟨⟨j+1,by omega,by go_num,hX.on hb1,HJ2⟩,by simp [intOf];omega⟩
        ·rw [if_pos (show qJ g≠0 from h0),if_pos h0] at HJ2
         replace HJ2:=Lh HJ2
         have hn0:(qJ g != 0)=true:=Ln.2 h0
         clear h0
         generalize hq:qJ g=K at *
         clear hq
         obtain ⟨t,wd,st⟩:=g
         dsimp only at *
         go_wp2_with (go_at_call 60;refine (HVj.out _).mono ?_;rintro e w1 ⟨rfl,hb1⟩)
         go_ret
         exact ⟨by rw [HJ2.out];rfl,(hX.on hb1).2⟩
       ·obtain rfl:j=l.length:=by omega
        have HT2:Hid (R=if W<vM l then 12 else if l.getLast? = some spG then 1 else yh W ((rls rs).drop (k+1))):=Lh (by rw [HJ.out,Lv (Ld _),<- HT.out];rfl)
        clear HT HJ HVk
        have hzz:=Ld wr.heap.size
        have N0 : ∀ x:Near wr.heap.size wr,x.w.cell? ⟨w.heap.size,0,none⟩=some (.int .i64 W):=fun x=>(x.h.cell (by show w.heap.size<_;omega)).trans c0
        have HWx:Hid (∀ x:Near wr.heap.size wr,Calls prog 38 #[.slice Al l.length cl] x.w (qh (.int .i64 (vM l:Nat)) x.w)):=Lh fun x=>HWk.out _ (hb.trans (x.h.mono (by omega)))
        clear HWk c0 c1 c2 c3 c4 c5
        generalize vM l=rw0 at *
        by_cases hw:W<(rw0:Int)
        ·rw [if_pos hw] at HT2
         go_wp2
         refine qc wr.heap.size (by kernel_rfl) (by kernel_rfl) ?_;(repeat (go_big_quiet_step ((go_at_call 38;exact Calls.near _ hzz (HWx.out _)))));refine wpQuiet_nil ?_;intro _ hw';obtain ⟨x1,hw''⟩:=hw';subst hw''
         go_wp2
         go_ret
         exact ⟨by rw [HT2.out];rfl,(hX.on x1.h).2⟩
        ·as_aux_lemma =>
         rw [if_neg hw] at HT2
         have hw' : ¬ W<(rw0:Int):=hw
         have hd:decide (W<(rw0:Int))=false:=Lk hw
         clear hw hw'
         go_wp2
         refine qc wr.heap.size (by kernel_rfl) (by kernel_rfl) ?_;(repeat (go_big_quiet_step ((go_at_call 38;exact Calls.near _ hzz (HWx.out _)))));refine wpQuiet_nil ?_;intro _ hw';obtain ⟨x1,hw''⟩:=hw';subst hw''
         have hX1:=hX.on x1.h
         have hb1:=hX1.2
         have hz1:=Ld x1.w.heap.size
         clear HWx N0 hd hX hb
         rcases Nat.eq_zero_or_pos l.length with h0 | h0
         ·have HT3:Hid (R=yh W ((rls rs).drop (k+1))):=Lh (by rw [HT2.out,List.length_eq_zero_iff.1 h0];rfl)
          have hd:decide (0<l.length)=false:=Lk (by omega)
          clear HT2 h0
          go_wp2
          exact ⟨⟨k+1,by omega,by go_num,hX1,HT3⟩,by simp [intOf];omega⟩
         ·obtain ⟨m,hm⟩ : ∃ m,l.length=m+1:=⟨l.length-1,by omega⟩
          have hml:m<l.length:=by omega
          obtain ⟨b',o',rfl,hbB',g0,g1,g2⟩:=jE (HGk.out _ hb1) hml rfl
          rw [qh5 hm] at HT2
          have HBk:=Lh (qjx l[m])
          have hmi:(l.length:Int)=(m:Int)+1:=by omega
          have hd:decide (0<l.length)=true:=Ll h0
          by_cases he:l[m]=spG
          ·rw [if_pos (by rw [he])] at HT2
           rw [Ll he] at HBk
           clear he h0 HGk
           generalize l[m]=g at *
           obtain ⟨t,wd,st⟩:=g
           dsimp only at *
           go_wp2_with (go_at_call 61;refine (HBk.out _).mono ?_;rintro e w2 ⟨rfl,hb2⟩)
           go_ret
           exact ⟨by rw [HT2.out];rfl,hb1.trans (hb2.mono (by have:=hX1.lt;omega))⟩
          ·rw [if_neg (fun e=>he (by injection e))] at HT2
           rw [Lk he] at HBk
           clear he h0 HGk
           generalize l[m]=g at *
           obtain ⟨t,wd,st⟩:=g
           dsimp only at *
           go_wp2_with (go_at_call 61;refine (HBk.out _).mono ?_;rintro e w2 ⟨rfl,hb2⟩)
           exact ⟨⟨k+1,by omega,by go_num,hX1.on hb2,HT2⟩,by simp [intOf];omega⟩
     ·have HK2:Hid (R=0):=Lh (by rw [HK.out,Lv (by rw [vJ];have:=HN.out;omega)];rfl)
      go_wp2
      go_ret
      exact ⟨by rw [HK2.out];rfl,hb⟩
  ·rw [if_pos h2]
   have hne:((n:Int) != Hh)=true:=Ln.2 h2
   clear h2
   go_enter func31,ntmps31;go_upto_region 1 with fail;refine qa (VwBox w ⟨W,Hh,rows,row,col,vis⟩ A n c) (VwBox.new w ⟨W,Hh,rows,row,col,vis⟩ A n c) ?_;intro X hX;obtain ⟨c0,c1,c2,c3,c4,c5⟩:=hX.cells;have hb:=hX.2;dsimp only at c0 c1 c2 c3 c4 c5
   go_wp2_with (go_at_call 59;refine (HSz.out _).mono ?_;rintro e w1 ⟨rfl,rfl⟩)
   go_ret
   exact ⟨rfl,hb⟩
theorem qbM (m:Md) (A:Option Addr) (n c B:Nat) (rs:List RowM) (w:World) (rd:RdV w B m.view A n c rs) (hB:B<=w.heap.size) (hz : ∀ x∈rs,x.l.length<=1000000000/\∀ g∈x.l,g.text.size<=1000000000) :
  Calls prog 15 #[.agg (mdC m A n c)] w (qh (.bool (vu m)) w):=by
 have HC:Hid (∀ w',Below w.heap.size w w'->Calls prog 31 #[.agg (vwC m.view A n c)] w' (qh (.int .i64 (js m.view)) w')):=Lh fun w' hb=>qjk _ _ _ _ w.heap.size _ _ ((rd.more hB).below hb) hb.size hz
 clear rd hz
 obtain ⟨⟨W,H,rows,r,cl,vs⟩,U⟩:=m
 dsimp only at HC
 rw [qdz]
 dsimp only
 generalize js ⟨W,H,rows,r,cl,vs⟩=V at *
 have h1:(V==0)=decide (V=0):=by rw [Bool.eq_iff_iff];simp
 by_cases hv:V=0
 ·have e1:(V==0)=true:=beq_iff_eq.2 hv
  rw [Ll hv]
  clear h1 hv
  by_cases hu:0<=U
  ·by_cases ht:U<=1099511627776
   ·have hu':decide (0<=U)=true:=Ll hu
    have ht':decide (U<=1099511627776)=true:=Ll ht
    rw [hu',ht']
    clear hu ht
    go_enter func15,ntmps15
    go_upto_region 1 with fail
    refine qa (fun X=>Blk X w.heap.size 26 (mdC ⟨⟨W,H,rows,r,cl,vs⟩,U⟩ A n c)/\Below w.heap.size w X) ⟨Blk.new_ rfl,(Le _ _).alloc (Ld _) _⟩ ?_
    rintro X ⟨hM,hb⟩
    have c0:X.cell? ⟨w.heap.size,0,none⟩=some (.int .i64 W):=hM.cell 0
    have c1:X.cell? ⟨w.heap.size,1,none⟩=some (.int .i64 H):=hM.cell 1
    have c2:X.cell? ⟨w.heap.size,2,none⟩=some (.slice A n c):=hM.cell 2
    have c3:X.cell? ⟨w.heap.size,3,none⟩=some (.int .i64 r):=hM.cell 3
    have c4:X.cell? ⟨w.heap.size,4,none⟩=some (.int .i64 cl):=hM.cell 4
    have c5:X.cell? ⟨w.heap.size,5,none⟩=some (.bool vs):=hM.cell 5
    have c6:X.cell? ⟨w.heap.size,6,none⟩=some (.int .i64 U):=hM.cell 6
    have hl:=hM.lt
    clear hM
    go_wp2_with (go_at_call 31;refine (HC.out _ hb).mono ?_;rintro e w1 ⟨rfl,hb1⟩;have d6:=(hb1.cell (p:=⟨w.heap.size,6,none⟩) hl).trans c6)
    go_ret
    exact ⟨rfl,hb.trans (hb1.mono hb.size)⟩
   ·have hu':decide (0<=U)=true:=Ll hu
    have ht':decide (U<=1099511627776)=false:=Lk ht
    rw [hu',ht']
    clear hu ht
    go_enter func15,ntmps15
    go_upto_region 1 with fail
    refine qa (fun X=>Blk X w.heap.size 26 (mdC ⟨⟨W,H,rows,r,cl,vs⟩,U⟩ A n c)/\Below w.heap.size w X) ⟨Blk.new_ rfl,(Le _ _).alloc (Ld _) _⟩ ?_
    rintro X ⟨hM,hb⟩
    have c0:X.cell? ⟨w.heap.size,0,none⟩=some (.int .i64 W):=hM.cell 0
    have c1:X.cell? ⟨w.heap.size,1,none⟩=some (.int .i64 H):=hM.cell 1
    have c2:X.cell? ⟨w.heap.size,2,none⟩=some (.slice A n c):=hM.cell 2
    have c3:X.cell? ⟨w.heap.size,3,none⟩=some (.int .i64 r):=hM.cell 3
    have c4:X.cell? ⟨w.heap.size,4,none⟩=some (.int .i64 cl):=hM.cell 4
    have c5:X.cell? ⟨w.heap.size,5,none⟩=some (.bool vs):=hM.cell 5
    have c6:X.cell? ⟨w.heap.size,6,none⟩=some (.int .i64 U):=hM.cell 6
    have hl:=hM.lt
    clear hM
    go_wp2_with (go_at_call 31;refine (HC.out _ hb).mono ?_;rintro e w1 ⟨rfl,hb1⟩;have d6:=(hb1.cell (p:=⟨w.heap.size,6,none⟩) hl).trans c6)
    go_ret
    exact ⟨rfl,hb.trans (hb1.mono hb.size)⟩
  ·have hu':decide (0<=U)=false:=Lk hu
   rw [hu']
   clear hu
   go_enter func15,ntmps15
   go_upto_region 1 with fail
   refine qa (fun X=>Blk X w.heap.size 26 (mdC ⟨⟨W,H,rows,r,cl,vs⟩,U⟩ A n c)/\Below w.heap.size w X) ⟨Blk.new_ rfl,(Le _ _).alloc (Ld _) _⟩ ?_
   rintro X ⟨hM,hb⟩
   have c0:X.cell? ⟨w.heap.size,0,none⟩=some (.int .i64 W):=hM.cell 0
   have c1:X.cell? ⟨w.heap.size,1,none⟩=some (.int .i64 H):=hM.cell 1
   have c2:X.cell? ⟨w.heap.size,2,none⟩=some (.slice A n c):=hM.cell 2
   have c3:X.cell? ⟨w.heap.size,3,none⟩=some (.int .i64 r):=hM.cell 3
   have c4:X.cell? ⟨w.heap.size,4,none⟩=some (.int .i64 cl):=hM.cell 4
   have c5:X.cell? ⟨w.heap.size,5,none⟩=some (.bool vs):=hM.cell 5
   have c6:X.cell? ⟨w.heap.size,6,none⟩=some (.int .i64 U):=hM.cell 6
   have hl:=hM.lt
   clear hM
   go_wp2_with (go_at_call 31;refine (HC.out _ hb).mono ?_;rintro e w1 ⟨rfl,hb1⟩;have d6:=(hb1.cell (p:=⟨w.heap.size,6,none⟩) hl).trans c6)
   go_ret
   exact ⟨rfl,hb.trans (hb1.mono hb.size)⟩
 ·have e1:(V==0)=false:=Lm.2 hv
  rw [Lk hv]
  clear h1 hv
  go_enter func15,ntmps15
  go_upto_region 1 with fail
  refine qa (fun X=>Blk X w.heap.size 26 (mdC ⟨⟨W,H,rows,r,cl,vs⟩,U⟩ A n c)/\Below w.heap.size w X) ⟨Blk.new_ rfl,(Le _ _).alloc (Ld _) _⟩ ?_
  rintro X ⟨hM,hb⟩
  have c0:X.cell? ⟨w.heap.size,0,none⟩=some (.int .i64 W):=hM.cell 0
  have c1:X.cell? ⟨w.heap.size,1,none⟩=some (.int .i64 H):=hM.cell 1
  have c2:X.cell? ⟨w.heap.size,2,none⟩=some (.slice A n c):=hM.cell 2
  have c3:X.cell? ⟨w.heap.size,3,none⟩=some (.int .i64 r):=hM.cell 3
  have c4:X.cell? ⟨w.heap.size,4,none⟩=some (.int .i64 cl):=hM.cell 4
  have c5:X.cell? ⟨w.heap.size,5,none⟩=some (.bool vs):=hM.cell 5
  have c6:X.cell? ⟨w.heap.size,6,none⟩=some (.int .i64 U):=hM.cell 6
  have hl:=hM.lt
  clear hM
  go_wp2_with (go_at_call 31;refine (HC.out _ hb).mono ?_;rintro e w1 ⟨rfl,hb1⟩;have d6:=(hb1.cell (p:=⟨w.heap.size,6,none⟩) hl).trans c6)
  go_ret
  exact ⟨rfl,hb.trans (hb1.mono hb.size)⟩
theorem bothG {P:Program} {f:FuncId} {args:Array Value} {w X:World} {v:Value} (h:Calls P f args X (qh v X)) (hb:Below w.heap.size w X):Calls P f args X fun e X'=>e = .returned v/\Below w.heap.size w X'/\Below X.heap.size X X' :=
 h.mono fun _ _ ⟨h1,h2⟩=>⟨h1,hb.trans (h2.mono hb.size),h2⟩
theorem bothS {P:Program} {f:FuncId} {args:Array Value} {w X:World} {v:Value} (h:Calls P f args X fun e X'=>e = .returned v/\X'=X) (hb:Below w.heap.size w X):Calls P f args X fun e X'=>e = .returned v/\Below w.heap.size w X'/\Below X.heap.size X X' :=
 h.mono fun _ _ ⟨h1,h2⟩=>by subst h2;exact ⟨h1,hb,Le _ _⟩
theorem wErr_ok {l:List ChgM} {m r q k:Int} (h:qaE l m r q k=0):setE r q k=0/\0<=m/\m<=999999999/\vX l=0:=by
 unfold qaE at h
 split at h
 ·cases h
 ·rename_i h1
  split at h
  ·cases h
  ·rw [not_or] at h1
   exact ⟨Decidable.not_not.1 h1.1,by omega,by omega,h⟩
theorem qd0 {v:Vw} (h:js v=0) : ∀ l∈v.rows,l.length<=132/\∀ g∈l,g.text.size<=16:=fun l hl=>by
 obtain ⟨h1,-,-,h4⟩:=qbh.1 h
 obtain ⟨a,b,-⟩:=h4 l hl
 have hs:=jW.1 h1
 refine ⟨?_,fun g hg=>(gw_of (qb9.1 a g hg)).2⟩
 unfold vM at b
 omega
theorem qcF {v:Vw} (h:qaC v=false) : ∀ l∈v.rows,l.length<=140/\∀ g∈l,g.text.size<=40:=fun l hl=>by
 unfold qaC at h
 rw [Bool.or_eq_false_iff] at h
 have:=List.any_eq_false.1 h.2 l hl
 simp only [zA,Bool.or_eq_true,decide_eq_true_eq,List.any_eq_true,not_or,not_exists,not_and] at this
 exact ⟨by omega,fun g hg=>by have:=this.2 g hg;omega⟩
theorem kB {rs:List RowM} {x:RowM} (h:x∈rs):x.l∈rls rs:=List.mem_map_of_mem h
end Go.Proofs.YticbpkghcglgkaaGreatDoor
namespace Go.Proofs.YticbpkghcglgkaaGreatDoor
open Go.Proofs.Tryz Go.RowKit Go.Shelf
set_option maxRecDepth 20000
theorem qfj {m:Md} (hp:vu m=true) {W:World} {B n c:Nat} {A:Option Addr} {rs:List RowM} (h:RdV W B m.view A n c rs) : ∀ x∈rs,x.l.length<=132/\∀ g∈x.l,g.text.size<=16:=fun x hx=>by
 unfold vu at hp
 exact qd0 (of_decide_eq_true hp).1 x.l (by rw [h.2.1];exact kB hx)
end Go.Proofs.YticbpkghcglgkaaGreatDoor
namespace Go.Proofs.YticbpkghcglgkaaGreatDoor
open Go.Proofs.Tryz Go.RowKit
set_option maxRecDepth 20000
theorem wf_u16 {a:Int} (h:(Lit.int .u16 a).wf=true):0<=a/\a<=65535:=by
 simp [Lit.wf] at h
 have h1:IntKind.u16.min=0:=rfl
 have h2:IntKind.u16.max=65535:=rfl
 omega
def qkw (v:Vw) (c:Chg) (i:Nat):List Gl:=if c.kind=2 then kP v.rows c.row c.til c.count i else if (i:Int)=c.row then zV (v.rows.getD i []) c.col.toNat c.count.toNat c.glyphs else v.rows.getD i []
theorem qkU {v:Vw} {c:Chg} (hk:c.kind=2∨c.kind=3) (hr:zh v c=true) (ht:TrimR v.rows) (hl:(v.rows.length:Int)=v.height) :
  jY v c=⟨v.width,v.height,(List.range v.rows.length).map fun i=>zI (qkw v c i),v.row,v.col,v.vis⟩:=by
 rcases hk with hk | hk
 ·unfold jY
  rw [if_neg (by omega),if_pos hk]
  congr 1
  refine List.map_congr_left fun i _=>?_
  unfold qkw
  rw [if_pos hk]
  unfold kP
  split
  ·split
   ·exact (qjs ht _).symm
   ·rfl
  ·exact (qjs ht _).symm
 ·unfold zh at hr
  rw [if_neg (by omega),if_neg (by omega),if_pos hk,decide_eq_true_iff] at hr
  unfold jY
  rw [if_neg (by omega),if_neg (by omega),if_pos hk]
  congr 1
  refine List.ext_getElem (by simp) fun i h1 h2=>?_
  rw [List.length_set] at h1
  rw [List.getElem_set,List.getElem_map,List.getElem_range]
  unfold qkw
  rw [if_neg (show ¬ c.kind=2 by omega)]
  by_cases h:c.row.toNat=i
  ·rw [if_pos h,if_pos (by omega),h]
  ·rw [if_neg h,if_neg (by omega),qjs ht];simp [h1]
def XV (B N:Nat) (X:World) (v:Vw) (A:Option Addr) (n c:Nat) (rs:List RowM):Prop:=RdV X B v A n c rs∨OwV N X v A n c rs
section
variable {B N B' N' n c : Nat} {X X' : World} {v v' : Vw} {A : Option Addr} {rs : List RowM}
theorem XV.rdV (h:XV B N X v A n c rs) (hB:B<=X.heap.size):RdV X X.heap.size v A n c rs:=h.elim (fun h=>h.more hB) OwV.rdV
theorem XV.below (h:XV B N X v A n c rs) (hB:B<=X.heap.size) (hb:Below X.heap.size X X'):XV B N X' v A n c rs:=h.elim (fun h=>.inl (h.below (hb.mono hB))) fun h=>.inr (h.below hb)
theorem XV.less (h:XV B N X v A n c rs) (hn:N'<=N):XV B N' X v A n c rs:=h.elim .inl fun h=>.inr (h.less hn)
theorem XV.more (h:XV B N X v A n c rs) (hn:B<=B'):XV B' N X v A n c rs:=h.elim (fun h=>.inl (h.more hn)) .inr
theorem XV.far (h:XV B N X v A n c rs) {p:Addr} (h1:B<=p.block) (h2:p.block<N) (u:Value):XV B N (X.setCell p u) v A n c rs :=
 h.elim (fun h=>.inl (h.below ((Le B X).setCell h1 u))) fun h=>.inr (h.far h2 u)
theorem XV.rows (h:XV B N X v A n c rs) (e:v'.rows=v.rows):XV B N X v' A n c rs :=
 h.elim (fun h=>.inl ⟨h.1,by rw [e];exact h.2.1,h.2.2⟩) fun h=>.inr ⟨h.rows,h.gl,by rw [e];exact h.eq⟩
theorem XV.eq (h:XV B N X v A n c rs):v.rows=rls rs:=h.elim (fun h=>h.2.1) OwV.eq
theorem XV.cap (h:XV B N X v A n c rs):n<=c/\c<=maxLen:=h.elim (fun h=>h.2.2) fun h=>yd h.rows
theorem XV.set6 (h:XV B N X v A n c rs) {g:Nat} (h1:B<=g) (h2:g<N) (u0 u1 u2 u3 u4 u5:Value):XV B N ((((((X.setCell ⟨g,0,none⟩ u0).setCell ⟨g,1,none⟩ u1).setCell ⟨g,2,none⟩ u2).setCell ⟨g,3,none⟩ u3).setCell ⟨g,4,none⟩ u4).setCell ⟨g,5,none⟩ u5) v A n c rs :=
 (((((h.far (p:=⟨g,0,none⟩) h1 h2 _).far (p:=⟨g,1,none⟩) h1 h2 _).far (p:=⟨g,2,none⟩) h1 h2 _).far (p:=⟨g,3,none⟩) h1 h2 _).far (p:=⟨g,4,none⟩) h1 h2 _).far (p:=⟨g,5,none⟩) h1 h2 _
end
theorem OwV.set6 {N n c g:Nat} {X:World} {v:Vw} {A:Option Addr} {rs:List RowM} (h:OwV N X v A n c rs) (h2:g<N) (u0 u1 u2 u3 u4 u5:Value):OwV N ((((((X.setCell ⟨g,0,none⟩ u0).setCell ⟨g,1,none⟩ u1).setCell ⟨g,2,none⟩ u2).setCell ⟨g,3,none⟩ u3).setCell ⟨g,4,none⟩ u4).setCell ⟨g,5,none⟩ u5) v A n c rs :=
 (((((h.far (p:=⟨g,0,none⟩) h2 _).far (p:=⟨g,1,none⟩) h2 _).far (p:=⟨g,2,none⟩) h2 _).far (p:=⟨g,3,none⟩) h2 _).far (p:=⟨g,4,none⟩) h2 _).far (p:=⟨g,5,none⟩) h2 _
theorem OwV.rows2 {N n c:Nat} {X:World} {v v':Vw} {A:Option Addr} {rs:List RowM} (h:OwV N X v A n c rs) (e:v'.rows=v.rows):OwV N X v' A n c rs:=⟨h.rows,h.gl,by rw [e];exact h.eq⟩
theorem qkx {W:World} {b b' s s' n n':Nat} {e e':TypeId} {v v':Value} {xs xs':List Value} (h:W.ownsRow b e s v n xs) (h':W.ownsRow b' e' s' v' n' xs') (he:e≠e'):v.ownBlock=none∨v.ownBlock≠v'.ownBlock:=by
 rcases h.2 with ⟨rfl,_⟩ | ⟨g,cap,cur,rfl,_,hgb,_⟩
 ·exact .inl rfl
 ·rcases h'.2 with ⟨rfl,_⟩ | ⟨g',cap',cur',rfl,_,hgb',_⟩
  ·exact .inr (by simp [Value.ownBlock])
  ·refine .inr fun e1=>?_
   obtain rfl:g=g':=by simpa [Value.ownBlock] using e1
   rw [hgb] at hgb'
   simp at hgb'
   exact he hgb'.2
structure OutV (g N:Nat) (W H r cl:Int) (vs:Bool) (rs:List RowM) (A:Option Addr) (c:Nat) (X:World):Prop where
 blk:Blk X g 24 (vwC ⟨W,H,rls rs,r,cl,vs⟩ A rs.length c)
 own:OwV N X ⟨W,H,rls rs,r,cl,vs⟩ A rs.length c rs
 lt:g<N
section
variable {g N c c4 c6 : Nat} {W H r cl : Int} {vs : Bool} {rs : List RowM} {A A4 A6 : Option Addr} {X X' w1 w4 : World} {l : List Gl}
theorem OutV.below (h:OutV g N W H r cl vs rs A c X) (hb:Below X.heap.size X X'):OutV g N W H r cl vs rs A c X':=⟨h.blk.below hb h.blk.lt,h.own.below hb,h.lt⟩
theorem OutV.push (h:OutV g N W H r cl vs rs A c X) (hN:N<=X.heap.size) (hb1:Below X.heap.size X w1) (ho:w1.ownsRow X.heap.size 86 3 (.slice A6 l.length c6) l.length (qi l))
  (hown:w4.ownsRow N 56 1 (.slice A4 (rs.length+1) c4) (rs.length+1) (zQ rs++[.slice A6 l.length c6])) (hgr:w1.grownBy w4 (Value.slice A rs.length c).ownBlock) :
  OutV g N W H r cl vs (rs++[⟨l,A6,c6⟩]) A4 c4 (w4.setCell ⟨g,2,none⟩ (.slice A4 (rs.length+1) c4)):=by
 have h1:=h.below hb1
 have hne:some g≠(Value.slice A rs.length c).ownBlock:=fun e=>by
  rw [qC] at e
  have:=(vB h1.own.rows g e.symm).1
  have:=h.lt
  omega
 have hB:=(h1.blk.grown hgr hne).set_ 2 (.slice A4 (rs.length+1) c4)
 have hO:OwV N w4 ⟨W,H,rls (rs++[(⟨l,A6,c6⟩:RowM)]),r,cl,vs⟩ A4 (rs++[(⟨l,A6,c6⟩:RowM)]).length c4 (rs++[(⟨l,A6,c6⟩:RowM)]):=by
  refine ⟨?_,fun x hx=>?_,rfl⟩
  ·rw [Lf,Lz,show zQ (rs++[(⟨l,A6,c6⟩:RowM)])=zQ rs++[.slice A6 l.length c6] by simp [zQ]]
   exact hown
  ·rcases List.mem_append.1 hx with hx | hx
   ·exact (h1.own.gl x hx).kept hgr (qkx (h1.own.gl x hx) h1.own.rows (by decide))
   ·obtain rfl:=List.mem_singleton.1 hx
    exact (qt ho hN).kept hgr (qkx ho h1.own.rows (by decide))
 exact ⟨by rw [Lf,Lz];exact hB,hO.far (p:=⟨g,2,none⟩) h.lt _,h.lt⟩
end
end Go.Proofs.YticbpkghcglgkaaGreatDoor
