/- Joined: Gl1, Gl2, Kd2, Pc1, Sp0, Sk0, Sy0, Sy1, Wo0, Bk0, Bk1, Bk2, Bk3. -/
import Derived.Test.YticbpkghcglgkaaGreatDoorVAL
import Derived.Test.YticbpkghcglgkaaGreatDoorVAM
import Derived.Test.YticbpkghcglgkaaGreatDoorVDY
set_option linter.unusedVariables false
set_option linter.unusedSimpArgs false
set_option linter.unnecessarySimpa false
set_option maxHeartbeats 4000000
namespace Go.Proofs.YticbpkghcglgkaaGreatDoor
open Go.Proofs.Tryz Go.RowKit
set_option maxRecDepth 20000
theorem qdC (s:ByteArray):(s.toList==[42])=decide (s=⟨#[42]⟩):=by
 have:=jO s ⟨#[42]⟩
 rw [<- this]
 simp [ByteArray.toList_eq]
theorem rglyph (g:Gl) (hs:g.text.size<=1000000000) (w:World):Calls prog 60 #[glV g] w (qh (.int .i64 (qJ g)) w):=by
 have HK:=Lh (rcheck g.text hs)
 have HW:=Lh (rwidthC g.text hs)
 have hq:=qdC g.text
 unfold qJ
 obtain ⟨t,wd,st⟩:=g
 dsimp only at *
 by_cases hc:zB t=0
 ·rw [if_neg (by simp [hc])]
  rw [hc] at HK
  clear hc
  generalize kb t=W at *
  by_cases h1:wd=decide (W=2)
  ·have e1:(wd==(W==2))=true:=by
    cases wd <;> by_cases h:W=2 <;> simp_all
   by_cases h2:st<0
   ·rw [if_pos (.inr (.inl h2))]
    have d2:decide (st<0)=true:=decide_eq_true h2
    clear hq h1
    go_enter func60,ntmps60
    go_upto_region 1 with fail
    refine qa (GlBox w t wd st) (GlBox.new w t wd st _) ?_
    rintro wb hgb
    obtain ⟨c0,_,_,hb0,hz0⟩:=id hgb
    go_upto_region 3 with (go_at_call 94;refine (HK.out _).mono ?_;rintro e w1 ⟨rfl,hbel1⟩;have hg1:=hgb.on hbel1)
    obtain ⟨d0,d1,d2,hb1,hz1⟩:=id hg1
    have N0 : ∀ x:Near w1.heap.size w1,x.w.cell? ⟨w.heap.size,0,none⟩=some (.string t):=fun x=>(x.h.cell (by show w.heap.size<_;omega)).trans d0
    have N1 : ∀ x:Near w1.heap.size w1,x.w.cell? ⟨w.heap.size,1,none⟩=some (.bool wd):=fun x=>(x.h.cell (by show w.heap.size<_;omega)).trans d1
    have N2 : ∀ x:Near w1.heap.size w1,x.w.cell? ⟨w.heap.size,2,none⟩=some (.int .i64 st):=fun x=>(x.h.cell (by show w.heap.size<_;omega)).trans d2
    have hzz:=Nat.le_refl w1.heap.size
    clear d0 d1 d2 hg1 hgb c0
    refine qc w1.heap.size (by kernel_rfl) (by kernel_rfl) ?_;(repeat (go_big_quiet_step ((go_at_call 95;exact Calls.near _ hzz (HW.out _)))));refine wpQuiet_nil ?_;intro _ hw';obtain ⟨x1,hw''⟩:=hw';subst hw''
    go_wp2
    go_ret
    exact ⟨rfl,hb1.trans (x1.h.mono (by omega))⟩
   ·have d2:decide (st<0)=false:=decide_eq_false h2
    by_cases h3:3<st
    ·rw [if_pos (.inr (.inr (.inl h3)))]
     have d3:decide (3<st)=true:=decide_eq_true h3
     clear hq h1
     go_enter func60,ntmps60
     go_upto_region 1 with fail
     refine qa (GlBox w t wd st) (GlBox.new w t wd st _) ?_
     rintro wb hgb
     obtain ⟨c0,_,_,hb0,hz0⟩:=id hgb
     go_upto_region 3 with (go_at_call 94;refine (HK.out _).mono ?_;rintro e w1 ⟨rfl,hbel1⟩;have hg1:=hgb.on hbel1)
     obtain ⟨d0,d1,d2,hb1,hz1⟩:=id hg1
     have N0 : ∀ x:Near w1.heap.size w1,x.w.cell? ⟨w.heap.size,0,none⟩=some (.string t):=fun x=>(x.h.cell (by show w.heap.size<_;omega)).trans d0
     have N1 : ∀ x:Near w1.heap.size w1,x.w.cell? ⟨w.heap.size,1,none⟩=some (.bool wd):=fun x=>(x.h.cell (by show w.heap.size<_;omega)).trans d1
     have N2 : ∀ x:Near w1.heap.size w1,x.w.cell? ⟨w.heap.size,2,none⟩=some (.int .i64 st):=fun x=>(x.h.cell (by show w.heap.size<_;omega)).trans d2
     have hzz:=Nat.le_refl w1.heap.size
     clear d0 d1 d2 hg1 hgb c0
     refine qc w1.heap.size (by kernel_rfl) (by kernel_rfl) ?_;(repeat (go_big_quiet_step ((go_at_call 95;exact Calls.near _ hzz (HW.out _)))));refine wpQuiet_nil ?_;intro _ hw';obtain ⟨x1,hw''⟩:=hw';subst hw''
     go_wp2
     go_ret
     exact ⟨rfl,hb1.trans (x1.h.mono (by omega))⟩
    ·have d3:decide (3<st)=false:=decide_eq_false h3
     by_cases h4:st=3
     ·by_cases h5:t=⟨#[42]⟩
      ·rw [if_neg (by rw [not_or,not_or,not_or];exact ⟨fun h=>h h1,h2,h3,fun h=>h.2 h5⟩)]
       have e5:(t.toList==[42])=true:=by rw [hq];simp [h5]
       have e4:(st==3)=true:=beq_iff_eq.2 h4
       clear hq h1 h5 h4
       go_enter func60,ntmps60
       go_upto_region 1 with fail
       refine qa (GlBox w t wd st) (GlBox.new w t wd st _) ?_
       rintro wb hgb
       obtain ⟨c0,_,_,hb0,hz0⟩:=id hgb
       go_upto_region 3 with (go_at_call 94;refine (HK.out _).mono ?_;rintro e w1 ⟨rfl,hbel1⟩;have hg1:=hgb.on hbel1)
       obtain ⟨d0,d1,d2,hb1,hz1⟩:=id hg1
       have N0 : ∀ x:Near w1.heap.size w1,x.w.cell? ⟨w.heap.size,0,none⟩=some (.string t):=fun x=>(x.h.cell (by show w.heap.size<_;omega)).trans d0
       have N1 : ∀ x:Near w1.heap.size w1,x.w.cell? ⟨w.heap.size,1,none⟩=some (.bool wd):=fun x=>(x.h.cell (by show w.heap.size<_;omega)).trans d1
       have N2 : ∀ x:Near w1.heap.size w1,x.w.cell? ⟨w.heap.size,2,none⟩=some (.int .i64 st):=fun x=>(x.h.cell (by show w.heap.size<_;omega)).trans d2
       have hzz:=Nat.le_refl w1.heap.size
       clear d0 d1 d2 hg1 hgb c0
       refine qc w1.heap.size (by kernel_rfl) (by kernel_rfl) ?_;(repeat (go_big_quiet_step ((go_at_call 95;exact Calls.near _ hzz (HW.out _)))));refine wpQuiet_nil ?_;intro _ hw';obtain ⟨x1,hw''⟩:=hw';subst hw''
       go_wp2
       go_ret
       exact ⟨rfl,hb1.trans (x1.h.mono (by omega))⟩
      ·rw [if_pos (.inr (.inr (.inr ⟨h4,h5⟩)))]
       have e5:(t.toList==[42])=false:=by rw [hq];simp [h5]
       have e4:(st==3)=true:=beq_iff_eq.2 h4
       clear hq h1 h5 h4
       go_enter func60,ntmps60
       go_upto_region 1 with fail
       refine qa (GlBox w t wd st) (GlBox.new w t wd st _) ?_
       rintro wb hgb
       obtain ⟨c0,_,_,hb0,hz0⟩:=id hgb
       go_upto_region 3 with (go_at_call 94;refine (HK.out _).mono ?_;rintro e w1 ⟨rfl,hbel1⟩;have hg1:=hgb.on hbel1)
       obtain ⟨d0,d1,d2,hb1,hz1⟩:=id hg1
       have N0 : ∀ x:Near w1.heap.size w1,x.w.cell? ⟨w.heap.size,0,none⟩=some (.string t):=fun x=>(x.h.cell (by show w.heap.size<_;omega)).trans d0
       have N1 : ∀ x:Near w1.heap.size w1,x.w.cell? ⟨w.heap.size,1,none⟩=some (.bool wd):=fun x=>(x.h.cell (by show w.heap.size<_;omega)).trans d1
       have N2 : ∀ x:Near w1.heap.size w1,x.w.cell? ⟨w.heap.size,2,none⟩=some (.int .i64 st):=fun x=>(x.h.cell (by show w.heap.size<_;omega)).trans d2
       have hzz:=Nat.le_refl w1.heap.size
       clear d0 d1 d2 hg1 hgb c0
       refine qc w1.heap.size (by kernel_rfl) (by kernel_rfl) ?_;(repeat (go_big_quiet_step ((go_at_call 95;exact Calls.near _ hzz (HW.out _)))));refine wpQuiet_nil ?_;intro _ hw';obtain ⟨x1,hw''⟩:=hw';subst hw''
       go_wp2
       go_ret
       exact ⟨rfl,hb1.trans (x1.h.mono (by omega))⟩
     ·rw [if_neg (by rw [not_or,not_or,not_or];exact ⟨fun h=>h h1,h2,h3,fun h=>h4 h.1⟩)]
      have e4:(st==3)=false:=beq_eq_false_iff_ne.2 h4
      clear hq h1
      go_enter func60,ntmps60
      go_upto_region 1 with fail
      refine qa (GlBox w t wd st) (GlBox.new w t wd st _) ?_
      rintro wb hgb
      obtain ⟨c0,_,_,hb0,hz0⟩:=id hgb
      go_upto_region 3 with (go_at_call 94;refine (HK.out _).mono ?_;rintro e w1 ⟨rfl,hbel1⟩;have hg1:=hgb.on hbel1)
      obtain ⟨d0,d1,d2,hb1,hz1⟩:=id hg1
      have N0 : ∀ x:Near w1.heap.size w1,x.w.cell? ⟨w.heap.size,0,none⟩=some (.string t):=fun x=>(x.h.cell (by show w.heap.size<_;omega)).trans d0
      have N1 : ∀ x:Near w1.heap.size w1,x.w.cell? ⟨w.heap.size,1,none⟩=some (.bool wd):=fun x=>(x.h.cell (by show w.heap.size<_;omega)).trans d1
      have N2 : ∀ x:Near w1.heap.size w1,x.w.cell? ⟨w.heap.size,2,none⟩=some (.int .i64 st):=fun x=>(x.h.cell (by show w.heap.size<_;omega)).trans d2
      have hzz:=Nat.le_refl w1.heap.size
      clear d0 d1 d2 hg1 hgb c0
      refine qc w1.heap.size (by kernel_rfl) (by kernel_rfl) ?_;(repeat (go_big_quiet_step ((go_at_call 95;exact Calls.near _ hzz (HW.out _)))));refine wpQuiet_nil ?_;intro _ hw';obtain ⟨x1,hw''⟩:=hw';subst hw''
      go_wp2
      go_ret
      exact ⟨rfl,hb1.trans (x1.h.mono (by omega))⟩
  ·rw [if_pos (.inl h1)]
   have e2:(wd==(W==2))=false:=by
    cases wd <;> by_cases h:W=2 <;> simp_all
   clear hq h1
   go_enter func60,ntmps60
   go_upto_region 1 with fail
   refine qa (GlBox w t wd st) (GlBox.new w t wd st _) ?_
   rintro wb hgb
   obtain ⟨c0,_,_,hb0,hz0⟩:=id hgb
   go_upto_region 3 with (go_at_call 94;refine (HK.out _).mono ?_;rintro e w1 ⟨rfl,hbel1⟩;have hg1:=hgb.on hbel1)
   obtain ⟨d0,d1,d2,hb1,hz1⟩:=id hg1
   have N0 : ∀ x:Near w1.heap.size w1,x.w.cell? ⟨w.heap.size,0,none⟩=some (.string t):=fun x=>(x.h.cell (by show w.heap.size<_;omega)).trans d0
   have N1 : ∀ x:Near w1.heap.size w1,x.w.cell? ⟨w.heap.size,1,none⟩=some (.bool wd):=fun x=>(x.h.cell (by show w.heap.size<_;omega)).trans d1
   have N2 : ∀ x:Near w1.heap.size w1,x.w.cell? ⟨w.heap.size,2,none⟩=some (.int .i64 st):=fun x=>(x.h.cell (by show w.heap.size<_;omega)).trans d2
   have hzz:=Nat.le_refl w1.heap.size
   clear d0 d1 d2 hg1 hgb c0
   refine qc w1.heap.size (by kernel_rfl) (by kernel_rfl) ?_;(repeat (go_big_quiet_step ((go_at_call 95;exact Calls.near _ hzz (HW.out _)))));refine wpQuiet_nil ?_;intro _ hw';obtain ⟨x1,hw''⟩:=hw';subst hw''
   go_wp2
   go_ret
   exact ⟨rfl,hb1.trans (x1.h.mono (by omega))⟩
 ·rw [if_pos hc]
  generalize zB t=K at *
  have hcb:(K != 0)=true:=bne_iff_ne.2 hc
  clear hc hq
  go_enter func60,ntmps60
  go_upto_region 1 with fail
  refine qa (GlBox w t wd st) (GlBox.new w t wd st _) ?_
  rintro wb hgb
  obtain ⟨c0,_,_,hb0,hz0⟩:=id hgb
  go_wp2_with (go_at_call 94;refine (HK.out _).mono ?_;rintro e w1 ⟨rfl,hbel1⟩)
  go_ret
  exact ⟨rfl,hb0.trans (hbel1.mono (by omega))⟩
theorem jK {w:World} {B n:Nat} {A:Option Addr} {l:List Gl} (rd:Rd w B 3 A n (qi l)):l.length=n:=by
 have:=rd.1
 rw [qbi] at this
 omega
theorem rsamerow (l m:List Gl) (A A':Option Addr) (n n' c c' B:Nat) (w:World) (hn:n<=1000000000) (rd:Rd w B 3 A n (qi l)) (rd':Rd w B 3 A' n' (qi m)) :
  Calls prog 39 #[.slice A n c,.slice A' n' c'] w (Quiet (.bool (decide (l=m))) w):=by
 have HN:=Lh (jK rd)
 have HN':=Lh (jK rd')
 by_cases hnn:n=n'
 ·subst hnn
  go_enter func39,ntmps39
  go_wp2
  go_loopw [5] (fun x wr=>∃ k j:Nat,k<=n/\x = .int .i64 k/\wr=w.drewN j/\Hid (∀ i (h1:i<l.length) (h2:i<m.length),i<k->l[i]=m[i])) (fun x _=>n-(intOf x).toNat)
  case atStart=>exact ⟨0,0,Nat.zero_le _,rfl,rfl,Lh fun i _ _ h=>absurd h (Nat.not_lt_zero i)⟩
  case round =>
   obtain ⟨k,j,hk,rfl,rfl,HE⟩:=hrel
   by_cases hlt:k<n
   ·have hk1:k<l.length:=by have:=HN.out;omega
    have hk2:k<m.length:=by have:=HN'.out;omega
    obtain ⟨b,o,rfl,_,g0,g1,g2⟩:=jE rd hk1 HN.out
    obtain ⟨b',o',rfl,_,g0',g1',g2'⟩:=jE rd' hk2 HN'.out
    have hq:=neq_gl l[k] m[k]
    have hg:=qa2 l[k] m[k] .neq
    by_cases he:l[k]=m[k]
    ·have HE2:Hid (∀ i (h1:i<l.length) (h2:i<m.length),i<k+1->l[i]=m[i]):=Lh fun i h1 h2 hi=>by
      rcases Nat.lt_or_ge i k with h | h
      ·exact HE.out i h1 h2 h
      ·obtain rfl:i=k:=by omega
       exact he
     rw [decide_eq_true he] at hq
     clear he
     generalize l[k]=r at *
     generalize m[k]=r' at *
     go_wp2
     go_quiet (fail)
     go_wp2
     exact ⟨⟨k+1,_,by omega,by go_num,rfl,HE2⟩,by simp [intOf];omega⟩
    ·rw [decide_eq_false he] at hq
     have HD:Hid (decide (l=m)=false):=Lh (decide_eq_false fun e=>he (by subst e;rfl))
     clear he
     generalize decide (l=m)=R at *
     generalize l[k]=r at *
     generalize m[k]=r' at *
     go_wp2
     go_quiet (fail)
     go_wp2
     go_ret
     exact ⟨by rw [HD.out];rfl,_,World.drewN_drewN _ _ _⟩
   ·obtain rfl:k=n:=by omega
    have HD:Hid (decide (l=m)=true):=Lh (decide_eq_true (List.ext_getElem (by rw [HN.out,HN'.out]) fun i h1 h2=>HE.out i h1 h2 (by have:=HN.out;omega)))
    generalize decide (l=m)=R at *
    go_wp2
    go_ret
    exact ⟨by rw [HD.out];rfl,_,rfl⟩
 ·have HD:Hid (decide (l=m)=false):=Lh (decide_eq_false fun e=>hnn (by rw [<- HN.out,<- HN'.out,e]))
  have hni:((n:Int) != (n':Int))=true:=by simp;omega
  generalize decide (l=m)=R at *
  go_enter func39,ntmps39
  go_wp2
  go_ret
  exact ⟨by rw [HD.out];rfl,0,rfl⟩
theorem qcv (g:Gl) (t:List Gl) (k:Nat) (st:Int):yZ (g::t) k st=if qd g=k/\g.style=st then yZ t k st+1 else 0:=rfl
theorem rkV_inj {a b:Nat} (ha:a<=3) (hb:b<=3) (h:rkV a=rkV b):a=b:=by
 unfold rkV at h
 have h1:a=0∨a=1∨a=2∨a=3:=by omega
 have h2:b=0∨b=1∨b=2∨b=3:=by omega
 rcases h1 with rfl | rfl | rfl | rfl <;> rcases h2 with rfl | rfl | rfl | rfl <;> first | rfl | (simp at h)
theorem jX (g:Gl):qd g<=3:=by
 unfold qd
 split
 ·unfold vg
  (repeat' split) <;> omega
 ·omega
theorem rrun (l:List Gl) (i k:Nat) (hk3:k<=3) (st:Int) (A:Option Addr) (n c B:Nat) (w:World) (hn:n<=1000000000) (hi:i<=n) (hsz : ∀ g∈l,g.text.size<=1000000000) (rd:Rd w B 3 A n (qi l)) (hB:B<=w.heap.size) :
  Calls prog 117 #[.slice A n c,.int .i64 i,.int .u8 (rkV k),.int .i64 st] w (qh (.int .i64 (yZ (l.drop i) k st:Nat)) w):=by
 have HN:=Lh (jK rd)
 generalize hR:yZ (l.drop i) k st=R at *
 have HF:Hid (R=0+yZ (l.drop (i+0)) k st):=Lh (by rw [<- hR,Nat.zero_add];rfl)
 clear hR
 have HQ:Hid (∀ g:Gl,rkV (qd g)=rkV k->qd g=k):=Lh fun g h=>rkV_inj (jX g) hk3 h
 go_enter func117,ntmps117
 go_wp2
 go_loopw [9] (fun x wr=>∃ j:Nat,i+j<=n/\x = .int .i64 j/\Below w.heap.size w wr/\Hid (R=j+yZ (l.drop (i+j)) k st)) (fun x _=>n-(intOf x).toNat)
 case atStart=>exact ⟨0,hi,rfl,Below.refl _ _,HF⟩
 case round =>
  obtain ⟨j,hj,rfl,hbel,HR⟩:=hrel
  by_cases hlt:i+j<n
  ·have hkl:i+j<l.length:=by have:=HN.out;omega
   obtain ⟨b,o,rfl,hbB,g0,g1,g2⟩:=jE (rd.keep (w':=wr) fun p hp=>hbel.cell (by omega)) hkl HN.out
   have HD:Hid (l.drop (i+j)=l[i+j]::l.drop (i+(j+1))):=Lh (List.drop_eq_getElem_cons hkl)
   have hz:=hsz _ (List.getElem_mem hkl)
   generalize l[i+j]=g at *
   have HT:Hid (qd g=k/\g.style=st->R=(j+1)+yZ (l.drop (i+(j+1))) k st):=Lh fun h=>by rw [HR.out,HD.out,qcv,if_pos h];omega
   have HZ:Hid (¬ (qd g=k/\g.style=st)->R=j):=Lh fun h=>by rw [HR.out,HD.out,qcv,if_neg h];rfl
   have HK:=Lh (qfZ g hz)
   have HQg:=Lh (HQ.out g)
   generalize qd g=q at *
   obtain ⟨t,wd,s⟩:=g
   dsimp only at *
   have N0:=qeW (wb:=wr) (b:=b) (o:=o+(i+j) * 3) (r:=⟨t,wd,s⟩) (B:=wr.heap.size) ⟨g0,g1,g2⟩ (by have:=hbel.size;omega)
   dsimp only at N0
   clear HR HD
   by_cases h1:q=k
   ·subst h1
    by_cases h2:s=st
    ·have HR2:=Lh (HT.out ⟨rfl,h2⟩)
     subst h2
     clear HT HZ
     go_wp2_with (go_at_call 97;refine (HK.out _).mono ?_;rintro e w1 ⟨rfl,hbel1⟩;have g3:=(N0 ⟨w1,hbel1⟩).2.2;dsimp only at g3)
     exact ⟨⟨j+1,by omega,by go_num,hbel.trans (hbel1.mono hbel.size),HR2⟩,by simp [intOf];omega⟩
    ·have HR2:=Lh (HZ.out fun h=>h2 h.2)
     have e2:(s==st)=false:=beq_eq_false_iff_ne.2 h2
     clear HT HZ h2
     go_wp2_with (go_at_call 97;refine (HK.out _).mono ?_;rintro e w1 ⟨rfl,hbel1⟩;have g3:=(N0 ⟨w1,hbel1⟩).2.2;dsimp only at g3)
     go_ret
     exact ⟨by rw [HR2.out];rfl,hbel.trans (hbel1.mono hbel.size)⟩
   ·have HR2:=Lh (HZ.out fun h=>h1 h.1)
    have e1:(rkV q==rkV k)=false:=beq_eq_false_iff_ne.2 (fun h=>h1 (HQg.out h))
    clear HT HZ h1
    go_wp2_with (go_at_call 97;refine (HK.out _).mono ?_;rintro e w1 ⟨rfl,hbel1⟩)
    go_ret
    exact ⟨by rw [HR2.out];rfl,hbel.trans (hbel1.mono hbel.size)⟩
  ·have HR2:Hid (R=j):=Lh (by rw [HR.out,List.drop_of_length_le (by have:=HN.out;omega)];rfl)
   go_wp2
   go_ret
   exact ⟨by rw [HR2.out];rfl,hbel⟩
theorem qjU {t:List Gl} {g:Gl} {j:Nat} (h:j<t.length) (h2:j<131) (e:t[j]=g):yW (t.drop j) g (131-j)=yW (t.drop (j+1)) g (131-(j+1))+1:=by
 rw [List.drop_eq_getElem_cons h,show 131-j=(131-(j+1))+1 by omega,yW,if_pos e]
theorem qkf {t:List Gl} {g:Gl} {j:Nat} (h:t.length<=j∨131<=j∨∃ h:j<t.length,t[j]≠g):yW (t.drop j) g (131-j)=0:=by
 rcases h with h | h | ⟨h,e⟩
 ·rw [List.drop_of_length_le h]
  cases 131-j <;> rfl
 ·rw [show 131-j=0 by omega]
  cases t.drop j <;> rfl
 ·rw [List.drop_eq_getElem_cons h]
  cases 131-j with
  | zero=>rfl
  | succ m=>rw [yW,if_neg e]
theorem kL {g:Gl} {t:List Gl} {rep:Int} (h:qd g=1∨qd g=3):qo (g::t) rep=yZ (g::t) (qd g) g.style:=by
 unfold qo
 exact if_pos h
theorem kW {g:Gl} {t:List Gl} {rep:Int} (h:qd g=2):qo (g::t) rep=if 1<yZ (g::t) 2 g.style then yZ (g::t) 2 g.style else 1+yZ t 1 g.style:=by
 unfold qo
 simp only
 rw [if_neg (by omega),if_pos h]
theorem qdm {g:Gl} {t:List Gl} {rep:Int} (h:qd g=0):qo (g::t) rep=if 0<rep/\rep<=(1+yW t g 131:Nat)/\(qs (qB g.text)).length=1 then 1+yW t g 131 else 1:=by
 unfold qo
 simp only
 rw [if_neg (by omega),if_neg (by omega)]
theorem kH {g:Gl} (h:qd g≠0):g.text.data.toList=[qT g]/\qd g=vg (qT g).toNat:=by
 unfold qd qT at *
 split at h
 ·rename_i c hc
  rw [hc]
  exact ⟨rfl,rfl⟩
 ·exact absurd rfl h
theorem qbI {l:List Gl} (h : ∀ g∈l,qd g≠0) (spell:Bool):vk l spell=kS (l.map qT) spell:=by
 have e1:(l.filter fun g=>qd g==2).length=qbb (l.map qT):=by
  unfold qbb
  rw [List.filter_map,List.length_map]
  congr 1
  apply List.filter_congr
  intro g hg
  rw [(kH (h g hg)).2]
  rfl
 have e2:yH l=(l.map qT).map yp:=by
  unfold yH
  rw [List.map_map]
  rfl
 unfold vk kS qaB
 rw [e1,e2]
theorem kG (l:List Gl) (dig:Bool):jx l dig=yt (l.map qT) dig:=by
 have e1:vC l=jC (l.map qT):=by
  unfold vC jC
  rw [List.map_map]
  rfl
 unfold jx yt qbu
 rw [e1,List.length_map]
theorem jv {g:Gl} {t:List Gl} {sp d:Bool} (h:qd g=1∨qd g=2):qq (g::t) sp d=vk (g::t) sp:=if_pos h
theorem ju {g:Gl} {t:List Gl} {sp d:Bool} (h:qd g=3):qq (g::t) sp d=jx (g::t) d:=by
 unfold qq
 simp only
 rw [if_neg (by omega),if_pos h]
theorem jt {g:Gl} {sp d:Bool} (h:qd g=0):qq [g] sp d=qP g:=by
 unfold qq
 simp only
 rw [if_neg (by omega),if_neg (by omega),if_pos trivial]
theorem jb {g:Gl} {t:List Gl} {sp d:Bool} (h:qd g=0) (ht:t≠[]):qq (g::t) sp d=ja (t.length+1)++[bTimes]++qP g:=by
 unfold qq
 simp only
 rw [if_neg (by omega),if_neg (by omega),if_neg ht]
theorem qaX {g:Gl}:(qP g).length<=1+16 * (qs (qB g.text)).length:=by
 by_cases h:g.text.data.toList=[32]
 ·rw [yC h];simp
 ·rw [jr h]
  have:=qdS (qs (qB g.text))
  omega
theorem rd_up {w w':World} {size n:Nat} {A:Option Addr} {xs:List Value} (h:Rd w w.heap.size size A n xs) (hb:Below w.heap.size w w'):Rd w' w'.heap.size size A n xs:=Rd.more (h.below hb) hb.size
theorem qfy {w:World} {v:Value} {e:TypeId}:Rd (w.alloc (.cells #[v] e)) (w.alloc (.cells #[v] e)).heap.size 1 (some ⟨w.heap.size,0,none⟩) 1 [v]:=Rd.more (qe (xs:=[v]) rfl rfl) (by simp)
end Go.Proofs.YticbpkghcglgkaaGreatDoor
namespace Go.Proofs.YticbpkghcglgkaaGreatDoor
open Go.Proofs.Tryz Go.RowKit
theorem GOK.valid {g:Gl} (h:GOK g):vb g.text=true:=(vL.1 h.1).1
theorem yb : ∀ (l:List Gl) (k:Nat) (st:Int),∀ x∈l.take (yZ l k st),qd x=k/\x.style=st
 | [],_,_,x,h=>by simp at h
 | g::t,k,st,x,h=>by
  rw [qcv] at h
  split at h
  ·rename_i hc
   rw [List.take_succ_cons] at h
   rcases List.mem_cons.1 h with rfl | h
   ·exact hc
   ·exact yb t k st x h
  ·cases h
theorem qb7 {l:List Gl} {g:Gl} {t:List Gl} (hl:l=g::t) (hn:l.length<=1000) (hg : ∀ x∈l,GOK x) (rep:Int):PieceOK (l.take (qo l rep)):=by
 have hpos:=vz (g:=g) (t:=t) rep
 rw [<- hl] at hpos
 have htk : ∀ g' t',l.take (qo l rep)=g'::t'->g'=g:=fun g' t' e=>by
  obtain ⟨m,hm⟩ : ∃ m,qo l rep=m+1:=⟨qo l rep-1,by omega⟩
  rw [hm,hl,List.take_succ_cons] at e
  injection e with e
  exact e.symm
 refine ⟨?_,fun x hx=>(hg x (List.mem_of_mem_take hx)).2,fun g' t' e h=>?_,fun g' t' e h=>?_,fun g' t' e h=>?_⟩
 ·rw [List.length_take];omega
 ·obtain rfl:=htk g' t' e
  intro x hx
  rcases h with h | h
  ·rw [hl,kL (.inl h),h] at hx
   exact .inl (yb _ _ _ x hx).1
  ·rw [hl,kW h] at hx
   split at hx
   ·exact .inr (yb _ _ _ x hx).1
   ·rw [Nat.add_comm,List.take_succ_cons] at hx
    rcases List.mem_cons.1 hx with rfl | hx
    ·exact .inr h
    ·exact .inl (yb _ _ _ x hx).1
 ·obtain rfl:=htk g' t' e
  intro x hx
  rw [hl,kL (.inr h),h] at hx
  exact (yb _ _ _ x hx).1
 ·obtain rfl:=htk g' t' e
  exact (hg g' (by rw [hl];simp)).valid
theorem qkn {g:Gl} (h:GOK g):qP g≠[]:=by
 by_cases h1:g.text.data.toList=[32]
 ·rw [yC h1];simp
 ·rw [jr h1]
  obtain ⟨_,r,t,hL,_⟩:=vL.1 h.1
  have hch:=yD (qB g.text) r (by rw [hL];simp)
  rw [hL]
  have e:za (r::t)=qD (r:Int)++za t:=by simp [za]
  rw [e]
  intro h2
  have h3:=qj1 (ji hch)
  have:=(List.append_eq_nil_iff.1 h2).1
  rw [this] at h3
  simp at h3
theorem numW_ne (n:Nat) (hn:n<=999999999):ja n≠[]:=by
 unfold ja
 intro h
 have h1:=List.map_eq_nil_iff.1 h
 have:=qaa (n:Int)
 rw [h1] at this
 simp at this
 omega
theorem qem {l:List Gl} {g:Gl} {t:List Gl} (hl:l=g::t) (hP:PieceOK l) (hg:GOK g) (sp d:Bool):qq l sp d≠[]:=by
 subst hl
 have hk:=jX g
 by_cases h1:qd g=1∨qd g=2
 ·rw [jv h1]
  unfold vk
  cases sp <;> simp
 ·by_cases h3:qd g=3
  ·rw [ju h3,kG]
   unfold yt
   split
   ·simp
   ·rename_i hc
    refine numW_ne _ ?_
    have hl9:(List.map qT (g::t)).length<=9:=by
     rcases Nat.lt_or_ge 9 (List.map qT (g::t)).length with h | h
     ·exact absurd (.inr (.inl h)) hc
     ·exact h
    have h1:=qc5 (jC (List.map qT (g::t))) (fun x hx=>by
     unfold jC at hx
     obtain ⟨c,hc2,rfl⟩:=List.mem_map.1 hx
     obtain ⟨y,hy,rfl⟩:=List.mem_map.1 hc2
     have h4:=hP.dig g t rfl h3 y hy
     have h5:=(kH (g:=y) (by omega)).2
     rw [h5] at h4
     unfold vg at h4
     (repeat' split at h4) <;> omega)
    have h2:(jC (List.map qT (g::t))).length<=9:=by unfold jC;rw [List.length_map];exact hl9
    have h3:10 ^ (jC (List.map qT (g::t))).length<=10 ^ 9:=Nat.pow_le_pow_right (by omega) h2
    omega
  ·have h0:qd g=0:=by omega
   by_cases ht:t=[]
   ·subst ht
    rw [jt h0]
    exact qkn hg
   ·rw [jb h0 ht]
    simp
theorem qe5 (l:List Nat) : ∀ s∈l.map wb,s.size<=maxLen:=by
 intro s hs
 simp at hs
 obtain ⟨i,_,rfl⟩:=hs
 exact qce i
theorem nb_size (i:Nat):(nb i).size<=maxLen:=by
 unfold nb maxLen
 split <;> decide
theorem qgc (r:Int) : ∀ s∈qD r,s.size<=maxLen:=by
 intro s hs
 unfold qD at hs
 split at hs
 ·simp at hs
  subst hs
  exact nb_size _
 ·split at hs
  ·rcases List.mem_cons.1 hs with rfl | hs
   ·unfold maxLen cB;decide
   ·exact qe5 _ s hs
  ·cases hs
theorem qbW (g:Gl) : ∀ s∈qP g,s.size<=maxLen:=by
 intro s hs
 by_cases h:g.text.data.toList=[32]
 ·rw [yC h,List.mem_singleton] at hs
  subst hs
  unfold maxLen yB;decide
 ·rw [jr h] at hs
  obtain ⟨r,_,hr⟩:=List.mem_flatMap.1 hs
  exact qgc _ s hr
theorem qfp {l:List Gl} {g:Gl} {t:List Gl} (hl:l=g::t) (hP:PieceOK l) (sp d:Bool) : ∀ s∈qq l sp d,s.size<=maxLen:=by
 intro s hs
 have hn:=hP.n
 subst hl
 have hk:=jX g
 have hlow : ∀ T:List UInt8,T.length<=1000->(⟨T.toArray⟩:ByteArray).size<=maxLen:=fun T hT=>by
  show T.toArray.size<=maxLen
  rw [List.size_toArray]
  unfold maxLen
  omega
 by_cases h1:qd g=1∨qd g=2
 ·rw [jv h1] at hs
  unfold vk at hs
  rcases List.mem_append.1 hs with hs | hs
  ·(repeat' split at hs) <;> first | (cases hs;done) | (rw [List.mem_singleton] at hs;subst hs;unfold maxLen;decide)
  ·split at hs
   ·rcases List.mem_append.1 hs with hs | hs
    ·rcases List.mem_cons.1 hs with rfl | hs
     ·unfold maxLen qS;decide
     ·obtain ⟨c,_,rfl⟩:=List.mem_map.1 hs
      unfold maxLen
      show (1:Nat)<=_
      omega
    ·rw [List.mem_singleton] at hs;subst hs;unfold maxLen qaO;decide
   ·rcases List.mem_append.1 hs with hs | hs
    ·split at hs
     ·rw [List.mem_singleton] at hs;subst hs;unfold maxLen vD;decide
     ·cases hs
    ·rw [List.mem_singleton] at hs
     subst hs
     exact hlow _ (by unfold yH;rw [List.length_map];exact hn)
 ·by_cases h3:qd g=3
  ·rw [ju h3,kG] at hs
   unfold yt at hs
   split at hs
   ·rcases List.mem_cons.1 hs with rfl | hs
    ·unfold maxLen vI;decide
    ·obtain ⟨x,_,hx⟩:=List.mem_flatMap.1 hs
     exact qe5 _ s hx
   ·exact qe5 _ s hs
  ·have h0:qd g=0:=by omega
   by_cases ht:t=[]
   ·subst ht
    rw [jt h0] at hs
    exact qbW g s hs
   ·rw [jb h0 ht] at hs
    rcases List.mem_append.1 hs with hs | hs
    ·rcases List.mem_append.1 hs with hs | hs
     ·exact qe5 _ s hs
     ·rw [List.mem_singleton] at hs;subst hs;unfold maxLen bTimes;decide
    ·exact qbW g s hs
theorem qdJ (l:List Nat):(qbu l).length<=16 * l.length:=by
 unfold qbu
 induction l with
 | nil=>simp
 | cons a t ih =>
  have:=kR a
  simp only [List.flatMap_cons,List.length_append,List.length_cons]
  omega
theorem qdV {l:List Gl} {g:Gl} {t:List Gl} (hl:l=g::t) (hP:PieceOK l) (sp d:Bool):(qq l sp d).length<=40000:=by
 have hn:=hP.n
 have hz:=hP.sz
 subst hl
 have hk:=jX g
 have hs1:(qP g).length<=1+16 * 2000:=by
  have h1:=@qaX g
  have h2:=jB g.text
  have h3:=hz g (by simp)
  omega
 by_cases h1:qd g=1∨qd g=2
 ·rw [jv h1]
  unfold vk
  have hlow:(yH (g::t)).length<=1000:=by unfold yH;rw [List.length_map];exact hn
  simp only [List.length_append]
  (repeat' split) <;> simp only [List.length_append,List.length_cons,List.length_nil,List.length_map] <;> omega
 ·by_cases h3:qd g=3
  ·rw [ju h3,kG]
   unfold yt
   split
   ·have:=qdJ (jC (List.map qT (g::t)))
    have h5:(jC (List.map qT (g::t))).length<=1000:=by unfold jC;rw [List.length_map,List.length_map];exact hn
    rw [List.length_cons]
    omega
   ·have:=kR (yj (jC (List.map qT (g::t))))
    omega
  ·have h0:qd g=0:=by omega
   by_cases ht:t=[]
   ·subst ht
    rw [jt h0]
    omega
   ·rw [jb h0 ht]
    have:=kR (t.length+1)
    simp only [List.length_append,List.length_cons,List.length_nil]
    omega
end Go.Proofs.YticbpkghcglgkaaGreatDoor
namespace Go.Proofs.YticbpkghcglgkaaGreatDoor
open Go.Proofs.Tryz Go.RowKit
set_option maxRecDepth 20000
def ky (p:Spk) (g:Gl) (w0:ByteArray):List ByteArray :=
 if g.style≠p.style then [vP g.style.toNat] else if qd g≠0/\p.before≠0 then (if p.silent=true then [] else [zO])
  else if p.out≠[]/\qL w0=true/\qL (p.out.getLastD ⟨#[]⟩)=true then [zO] else []
theorem qfo {p:Spk} {s:Setts} {l:List Gl} {g:Gl} {t:List Gl} (hl:l=g::t):qc4 p s l=⟨p.out++ky p g ((qq l s.spell s.digits).headD ⟨#[]⟩)++qq l s.spell s.digits,g.style,qd g,false⟩:=by
 subst hl
 rfl
end Go.Proofs.YticbpkghcglgkaaGreatDoor
namespace Go.Proofs.YticbpkghcglgkaaGreatDoor
open Go.Proofs.Tryz Go.RowKit
theorem kY (s:Setts) (f:Nat) (q:Spk) (g:Gl) (t:List Gl):qQ s (f+1) q (g::t) =
  if jJ q s (g::t) (qo (g::t) s.rep)=true then qQ s f { q with silent:=true } ((g::t).drop (qo (g::t) s.rep))
  else qQ s f (qc4 q s ((g::t).take (qo (g::t) s.rep))) ((g::t).drop (qo (g::t) s.rep)):=by
 show (if g::t=[] then q else _)=_
 rw [if_neg (by simp)]
theorem qa7 (s:Setts) : ∀ (f f':Nat) (q:Spk) (l:List Gl),l.length<=f->l.length<=f'->qQ s f q l=qQ s f' q l
 | 0,f',q,l,h1,h2=>by
  obtain rfl:l=[]:=List.length_eq_zero_iff.1 (by omega)
  cases f' with
  | zero=>rfl
  | succ f'=>simp [qQ]
 | f+1,0,q,l,h1,h2=>by
  obtain rfl:l=[]:=List.length_eq_zero_iff.1 (by omega)
  simp [qQ]
 | f+1,f'+1,q,l,h1,h2=>by
  cases l with
  | nil=>simp [qQ]
  | cons g t =>
   have hp:=vz (g:=g) (t:=t) s.rep
   have hd:((g::t).drop (qo (g::t) s.rep)).length<=t.length:=by
    rw [List.length_drop,List.length_cons];omega
   rw [List.length_cons] at h1 h2
   rw [kY,kY]
   have e:=fun q'=>qa7 s f f' q' ((g::t).drop (qo (g::t) s.rep)) (by omega) (by omega)
   rw [e,e]
theorem jR (s:Setts) (q:Spk) (g:Gl) (t:List Gl):qQ s (g::t).length q (g::t) =
  if jJ q s (g::t) (qo (g::t) s.rep)=true then qQ s ((g::t).drop (qo (g::t) s.rep)).length { q with silent:=true } ((g::t).drop (qo (g::t) s.rep))
  else qQ s ((g::t).drop (qo (g::t) s.rep)).length (qc4 q s ((g::t).take (qo (g::t) s.rep))) ((g::t).drop (qo (g::t) s.rep)):=by
 have hp:=vz (g:=g) (t:=t) s.rep
 have hd:((g::t).drop (qo (g::t) s.rep)).length<=t.length:=by
  rw [List.length_drop,List.length_cons];omega
 rw [List.length_cons,kY]
 have e:=fun q'=>qa7 s t.length _ q' ((g::t).drop (qo (g::t) s.rep)) hd (Nat.le_refl _)
 rw [e,e]
theorem qfF (p:Spk) (g:Gl) (w0:ByteArray):(ky p g w0).length<=1:=by
 unfold ky
 (repeat' split) <;> simp
theorem qjl (i:Nat):(vP i).size<=maxLen:=by
 unfold vP maxLen
 split <;> decide
theorem qhe (p:Spk) (g:Gl) (w0:ByteArray) : ∀ s∈ky p g w0,s.size<=maxLen:=by
 intro s hs
 unfold ky at hs
 (repeat' split at hs) <;> first
  | (cases hs;done)
  | (rw [List.mem_singleton] at hs;subst hs;first | exact qjl _ | (unfold maxLen;decide))
theorem WoI.skip {S:Setts} {R:List ByteArray} {q:Spk} {g:Gl} {t:List Gl} (h:WoI S R q (g::t)) (hb:jJ q S (g::t) (qo (g::t) S.rep)=true) :
  WoI S R { q with silent:=true } ((g::t).drop (qo (g::t) S.rep)):=by
 obtain ⟨h1,h2,h3,h4⟩:=h
 rw [jR,if_pos hb] at h1
 refine ⟨h1,fun x hx=>h2 x (List.mem_of_mem_drop hx),?_,h4⟩
 show q.out.length+50000 * ((g::t).drop _).length<=_
 rw [List.length_drop]
 omega
theorem WoI.say {S:Setts} {R:List ByteArray} {q:Spk} {g:Gl} {t:List Gl} (h:WoI S R q (g::t)) (hb:jJ q S (g::t) (qo (g::t) S.rep)=false) :
  WoI S R (qc4 q S ((g::t).take (qo (g::t) S.rep))) ((g::t).drop (qo (g::t) S.rep)):=by
 have hl:=h.len
 obtain ⟨h1,h2,h3,h4⟩:=h
 have hp:=vz (g:=g) (t:=t) S.rep
 have hP:=qb7 (l:=g::t) rfl hl (fun x hx=>(h2 x hx).1) S.rep
 obtain ⟨m,hm⟩ : ∃ m,qo (g::t) S.rep=m+1:=⟨qo (g::t) S.rep-1,by omega⟩
 have htk:(g::t).take (qo (g::t) S.rep)=g::t.take m:=by rw [hm,List.take_succ_cons]
 rw [jR,hb,if_neg (by simp)] at h1
 refine ⟨h1,fun x hx=>h2 x (List.mem_of_mem_drop hx),?_,?_⟩
 ·rw [qfo htk]
  have e1:=qfF q g ((qq ((g::t).take (qo (g::t) S.rep)) S.spell S.digits).headD ⟨#[]⟩)
  have e2:=qdV htk hP S.spell S.digits
  simp only [List.length_append,List.length_drop]
  rw [List.length_cons] at h3 ⊢
  omega
 ·rw [qfo htk]
  intro s hs
  simp only [List.mem_append] at hs
  rcases hs with (hs | hs) | hs
  ·exact h4 s hs
  ·exact qhe _ _ _ s hs
  ·exact qfp htk hP _ _ s hs
theorem WoI.start (S:Setts) (l:List Gl) (hl:l.length<=1000) (h : ∀ x∈l,GW x):WoI S (qz l S) ⟨[],0,0,false⟩ l:=by
 refine ⟨rfl,h,?_,by simp⟩
 simp
 omega
theorem WoI.stop {S:Setts} {R:List ByteArray} {q:Spk} (h:WoI S R q []):R=q.out:=by
 have:=h.1
 simpa [qQ] using this
theorem yv {S:Setts} {R:List ByteArray} : ∀ (n:Nat) {q:Spk} {l:List Gl},l.length<=n->WoI S R q l->R.length<=50000000/\∀ s∈R,s.size<=maxLen
 | n,q,[],_,h=>by rw [h.stop];exact ⟨by have:=h.2.2.1;omega,h.2.2.2⟩
 | 0,q,g::t,hn,h=>by simp at hn
 | n+1,q,g::t,hn,h=>by
  have hp:=vz (g:=g) (t:=t) S.rep
  have hd:((g::t).drop (qo (g::t) S.rep)).length<=n:=by
   rw [List.length_drop]
   rw [List.length_cons] at hn ⊢
   omega
  cases hb:jJ q S (g::t) (qo (g::t) S.rep) with
  | true=>exact yv n hd (h.skip hb)
  | false=>exact yv n hd (h.say hb)
end Go.Proofs.YticbpkghcglgkaaGreatDoor
namespace Go.Proofs.YticbpkghcglgkaaGreatDoor
open Go.Proofs.Tryz Go.RowKit
set_option maxRecDepth 20000
theorem y9 {α:Type} (f:Unit->Option α):(none:Option α).orElse f=f ():=rfl
theorem some_or {α:Type} (a:α) (f:Unit->Option α):(some a).orElse f=some a:=rfl
theorem qg5 (i:Nat) (hi:i<4):vY (vP i)=some i:=by
 have : ∀ i:Fin 4,vY (vP i.val)=some i.val:=by decide +kernel
 exact this ⟨i,hi⟩
theorem NoSty.caps:NoSty yi:=⟨by decide +kernel,by decide +kernel⟩
theorem NoSty.word:NoSty vD:=⟨by decide +kernel,by decide +kernel⟩
theorem NoSty.space:NoSty yB:=⟨by decide +kernel,by decide +kernel⟩
theorem NoSty.spelled:NoSty qS:=⟨by decide +kernel,by decide +kernel⟩
theorem yE {a:ByteArray} {t:List ByteArray} {p:Prs} (hw:p.words=a::t) (h:NoSty a):zP p=none:=by
 unfold zP
 rw [hw]
 simp only
 rw [h.1]
 simp only
 rw [if_neg h.2]
theorem qcp {p q:Prs} (h1:zP p=none) (h2:jP p=some q):va p=some q:=by
 unfold va
 rw [h1,y9,h2,some_or]
theorem part_fig {p q:Prs} (h1:zP p=none) (h2:jP p=none) (h3:qaP p=some q):va p=some q:=by
 unfold va
 rw [h1,y9,h2,y9,h3,some_or]
theorem qiI {p q:Prs} (h1:zP p=none) (h2:jP p=none) (h3:qaP p=none) (h4:ko p=some q):va p=some q:=by
 unfold va
 rw [h1,y9,h2,y9,h3,y9,h4,some_or]
theorem part_amt {p:Prs} (h1:zP p=none) (h2:jP p=none) (h3:qaP p=none) (h4:ko p=none):va p=kD p:=by
 unfold va
 rw [h1,y9,h2,y9,h3,y9,h4,y9]
theorem NoLit.word {a:ByteArray} {t:List ByteArray} {p:Prs} (hw:p.words=a::t) (h:NoLit a):jP p=none:=by
 obtain ⟨h1,h2,h3,h4,h5,h6⟩:=h
 unfold jP
 rw [hw]
 simp only
 rw [if_neg h1,if_neg h2]
 rw [yl,if_neg (fun h=>h3 h.1),if_neg (fun h=>by rw [h6 h.1] at h;cases h.2),if_neg h4]
 rfl
theorem NoLit.fig {a:ByteArray} {t:List ByteArray} {p:Prs} (hw:p.words=a::t) (h:NoLit a):qaP p=none:=by
 unfold qaP
 rw [hw]
 simp only
 rw [if_neg fun h'=>h.2.2.2.2.1 h'.1]
theorem NoLit.space:NoLit yB:=⟨by decide +kernel,by decide +kernel,by decide +kernel,by decide +kernel,by decide +kernel,fun _=>by decide +kernel⟩
theorem qbZ {j:Nat} (hj:j<32) (t:List ByteArray):vi (wb j::t)=none:=by
 have : ∀ j:Fin 32,wb j.val≠yB/\qdK (wb j.val)=none/\wb j.val≠cB:=by decide +kernel
 obtain ⟨a,b,c⟩:=this ⟨j,hj⟩
 simp only at a b c
 rw [vi,if_neg a,zM,b]
 simp only
 rw [if_neg c]
theorem qe0 {j:Nat} (hj:j<32) {t:List ByteArray} {p:Prs} (hw:p.words=wb j::t):ko p=none:=by
 unfold ko
 rw [hw,qbZ hj]
theorem qfG {j:Nat} (hj:j<32) {t:List ByteArray} {p:Prs} (hw:p.words=wb j::t):va p=kD p :=
 part_amt (yE hw (NoSty.wb hj)) (NoLit.word hw (NoLit.wb hj)) (NoLit.fig hw (NoLit.wb hj)) (qe0 hj hw)
def qag (p:Prs):Option (List Gl):=ka p.words.length p
theorem litL_pos {l:List ByteArray} {s:ByteArray} {n:Nat} (h:yl l=some (s,n)):0<n:=by
 cases l with
 | nil=>cases h
 | cons a t =>
  rw [yl] at h
  split at h
  ·injection h with h;injection h with _ h;omega
  ·split at h
   ·injection h with h;injection h with _ h;omega
   ·split at h
    ·unfold ya at h
     split at h
     ·cases h
     ·split at h
      ·injection h with h;injection h with _ h;omega
      ·cases h
    ·cases h
theorem qcB {l:List ByteArray} {r:Int} {n:Nat} (h:vi l=some (r,n)):0<n/\n<=l.length/\zC r=true:=by
 cases l with
 | nil=>cases h
 | cons a t =>
  rw [vi] at h
  split at h
  ·injection h with h;injection h with h1 h;subst h1 h;exact ⟨by omega,by simp,by decide⟩
  ·obtain ⟨a,b,c,_⟩:=qaj h
   exact ⟨b,c,a⟩
theorem qar {p:Prs} {s:ByteArray} {k:Nat} (hp:p.words≠[]) (hk:0<k):(kN p s k).words.length<p.words.length:=by
 have:=List.length_pos_iff.2 hp
 show (p.words.drop k).length<_
 rw [List.length_drop]
 omega
theorem qcs {p q:Prs} (h:va p=some q):q.words.length<p.words.length:=by
 unfold va at h
 cases h1:zP p with
 | some q' =>
  rw [h1,some_or] at h
  obtain rfl:q'=q:=by injection h
  unfold zP at h1
  split at h1
  ·cases h1
  ·rename_i a t hw
   rw [hw]
   split at h1
   ·injection h1 with h1;subst h1;simp
   ·split at h1
    ·injection h1 with h1;subst h1;simp
    ·cases h1
 | none =>
  rw [h1,y9] at h
  cases h2:jP p with
  | some q' =>
   rw [h2,some_or] at h
   obtain rfl:q'=q:=by injection h
   unfold jP at h2
   split at h2
   ·cases h2
   ·rename_i a t hw
    have hne:p.words≠[]:=by rw [hw];simp
    split at h2
    ·rw [Option.map_eq_some_iff] at h2
     obtain ⟨⟨s,n⟩,_,rfl⟩:=h2
     exact qar hne (by omega)
    ·split at h2
     ·rw [Option.map_eq_some_iff] at h2
      obtain ⟨⟨s,n⟩,_,rfl⟩:=h2
      exact qar hne (by omega)
     ·rw [Option.map_eq_some_iff] at h2
      obtain ⟨⟨s,n⟩,hl,rfl⟩:=h2
      exact qar hne (litL_pos hl)
  | none =>
   rw [h2,y9] at h
   cases h3:qaP p with
   | some q' =>
    rw [h3,some_or] at h
    obtain rfl:q'=q:=by injection h
    unfold qaP at h3
    split at h3
    ·cases h3
    ·rename_i a t hw
     split at h3
     ·injection h3 with h3
      subst h3
      exact qar (by rw [hw];simp) (by omega)
     ·cases h3
   | none =>
    rw [h3,y9] at h
    cases h4:ko p with
    | some q' =>
     rw [h4,some_or] at h
     obtain rfl:q'=q:=by injection h
     unfold ko at h4
     split at h4
     ·cases h4
     ·rename_i r n hc
      obtain ⟨a,b,_⟩:=qcB hc
      split at h4
      ·injection h4 with h4
       subst h4
       show (p.words.drop n).length<_
       rw [List.length_drop]
       omega
      ·cases h4
    | none =>
     rw [h4,y9] at h
     unfold kD at h
     split at h
     ·cases h
     ·rename_i n k hk
      obtain ⟨a,b,_⟩:=zF hk
      split at h
      ·cases h
      ·split at h
       ·split at h
        ·cases h
        ·rename_i r m hc
         split at h
         ·injection h with h
          subst h
          show (p.words.drop _).length<_
          rw [List.length_drop]
          omega
         ·cases h
       ·injection h with h
        subst h
        exact qar (by rintro e;rw [e] at b;simp at b;omega) a
theorem qdR : ∀ (f f':Nat) (p:Prs),p.words.length<=f->p.words.length<=f'->ka f p=ka f' p
 | 0,f',p,h1,h2=>by
  have e:p.words=[]:=List.length_eq_zero_iff.1 (by omega)
  cases f' with
  | zero=>rfl
  | succ f'=>rw [ka,ka,if_pos e]
 | f+1,0,p,h1,h2=>by
  have e:p.words=[]:=List.length_eq_zero_iff.1 (by omega)
  rw [ka,ka,if_pos e]
 | f+1,f'+1,p,h1,h2=>by
  rw [ka,ka]
  split
  ·rfl
  ·cases hq:va p with
   | none=>rfl
   | some q =>
    have:=qcs hq
    exact qdR f f' q (by omega) (by omega)
theorem jy {p q:Prs} (h:va p=some q):qag p=qag q:=by
 have hl:=qcs h
 unfold qag
 obtain ⟨n,hn⟩ : ∃ n,p.words.length=n+1:=⟨p.words.length-1,by omega⟩
 rw [hn,ka,if_neg (by rintro e;rw [e] at hn;cases hn),h]
 exact qdR _ _ q (by omega) (Nat.le_refl _)
theorem qjR {p:Prs} (hp:p.words=[]):qag p=some p.out:=by
 unfold qag
 rw [hp]
 rfl
theorem qd2 {P:UInt8->Bool} (h : ∀ n:Fin 256,P (UInt8.ofNat n.val)=true) (c:UInt8):P c=true:=by
 have:=h ⟨c.toNat,UInt8.toNat_lt c⟩
 simpa using this
theorem qdn (c:UInt8) (h:vg c.toNat=2):upB (yp c)=c:=by
 have:=qd2 (P:=fun c=>vg c.toNat != 2 || upB (yp c)==c) (by decide +kernel) c
 simp only [Bool.or_eq_true,bne_iff_ne,beq_iff_eq] at this
 exact this.resolve_left fun e=>e h
theorem qiW (c:UInt8) (h:vg c.toNat=1):yp c=c:=by
 have:=qd2 (P:=fun c=>vg c.toNat != 1 || yp c==c) (by decide +kernel) c
 simp only [Bool.or_eq_true,bne_iff_ne,beq_iff_eq] at this
 exact this.resolve_left fun e=>e h
theorem qgY (c:UInt8) (h:vg c.toNat=1∨vg c.toNat=2):97<=(yp c).toNat/\(yp c).toNat<=122:=by
 have:=qd2 (P:=fun c=>!(vg c.toNat==1 || vg c.toNat==2) || (decide (97<=(yp c).toNat)&&decide ((yp c).toNat<=122))) (by decide +kernel) c
 rcases h with h | h <;> simpa [h] using this
theorem qeO {T:List UInt8} (h : ∀ c∈T,vg c.toNat=1):qbb T=0:=by
 unfold qbb
 rw [List.length_eq_zero_iff,List.filter_eq_nil_iff]
 intro c hc
 rw [h c hc]
 decide
theorem caps_all {T:List UInt8} (h : ∀ c∈T,vg c.toNat=2):qbb T=T.length:=by
 unfold qbb
 rw [List.filter_eq_self.2]
 intro c hc
 rw [h c hc]
 decide
theorem caps_one {c:UInt8} {t:List UInt8} (h1:vg c.toNat=2) (h2 : ∀ x∈t,vg x.toNat=1):qbb (c::t)=1:=by
 have:=qeO h2
 unfold qbb at *
 rw [List.filter_cons_of_pos (by rw [h1];decide),List.length_cons,this]
theorem qiG {t:List UInt8} (h : ∀ x∈t,vg x.toNat=1):t.map yp=t:=by
 refine (List.map_congr_left (g:=id) fun c hc=>qiW c (h c hc)).trans (List.map_id _)
theorem qiv {T:List UInt8} (h0:T≠[]) (h : ∀ c∈T,vg c.toNat=1∨vg c.toNat=2):azB ⟨(T.map yp).toArray⟩=true:=by
 unfold azB
 simp only [Bool.and_eq_true,Bool.not_eq_true',List.isEmpty_eq_false_iff,List.all_eq_true,decide_eq_true_eq]
 refine ⟨by simpa using h0,fun c hc=>?_⟩
 obtain ⟨x,hx,rfl⟩:=List.mem_map.1 hc
 exact qgY x (h x hx)
def qcP (L:List UInt8) (sp:Bool):List ByteArray:=if sp=true then qS::(L.map fun c=>(⟨#[c]⟩:ByteArray))++[qaO] else (if jF ⟨L.toArray⟩=true then [vD] else [])++[⟨L.toArray⟩]
theorem qay (T:List UInt8) (sp:Bool):kS T sp=qaB (qbb T)++qcP (T.map yp) sp:=rfl
theorem qc0 (c:UInt8) (h:97<=c.toNat/\c.toNat<=122):jQ ⟨#[c]⟩=true:=by
 unfold jQ azB
 simp only [List.all_cons,List.all_nil,List.isEmpty_cons,Bool.not_false,Bool.true_and,Bool.and_true,Bool.and_eq_true,decide_eq_true_eq]
 exact ⟨h,rfl⟩
theorem qfr {L:List UInt8} (h0:L≠[]) (h : ∀ c∈L,97<=c.toNat/\c.toNat<=122) (R:List ByteArray):ya ((L.map fun c=>(⟨#[c]⟩:ByteArray))++qaO::R)=some (⟨L.toArray⟩,L.length+2):=by
 have e:((L.map fun c=>(⟨#[c]⟩:ByteArray))++qaO::R).takeWhile jQ=L.map fun c=>(⟨#[c]⟩:ByteArray):=by
  rw [List.takeWhile_append_of_pos fun s hs=>by
   obtain ⟨c,hc,rfl⟩:=List.mem_map.1 hs
   exact qc0 c (h c hc)]
  rw [List.takeWhile_cons_of_neg (by decide +kernel),List.append_nil]
 have hl:=List.length_pos_iff.2 h0
 unfold ya
 rw [e,List.length_map,if_neg (by omega),List.getElem?_append_right (by simp),List.length_map,Nat.sub_self]
 simp only [Lb,if_true]
 have e2:(L.map fun c=>(⟨#[c]⟩:ByteArray)).flatMap (fun s=>s.data.toList)=L:=by
  rw [List.flatMap_map]
  show L.flatMap (fun c=>[c])=L
  exact List.flatMap_singleton' L
 rw [e2]
theorem lit_body {L:List UInt8} (h0:L≠[]) (h : ∀ c∈L,97<=c.toNat/\c.toNat<=122) (haz:azB ⟨L.toArray⟩=true) (sp:Bool) (R:List ByteArray):yl (qcP L sp++R)=some (⟨L.toArray⟩,(qcP L sp).length):=by
 unfold qcP
 cases sp with
 | true =>
  rw [if_pos rfl,List.append_assoc,List.cons_append,List.singleton_append,yl,if_neg (fun e=>absurd e.1 (by decide +kernel)),if_neg (fun e=>absurd e.2 (by decide +kernel)),if_pos rfl,qfr h0 h]
  simp
 | false =>
  rw [if_neg (by simp)]
  cases hr:jF ⟨L.toArray⟩ with
  | true =>
   rw [if_pos rfl,List.append_assoc,List.singleton_append,List.singleton_append,yl,List.headD_cons,if_pos ⟨rfl,haz⟩]
   rfl
  | false =>
   rw [if_neg (by simp),List.nil_append,List.singleton_append,yl,if_neg (fun e=>absurd e.1 (qcJ hr (by decide +kernel))),if_pos ⟨haz,hr⟩]
   rfl
theorem qjJ (L:List UInt8) (sp:Bool) : ∃ a t,qcP L sp=a::t/\NoSty a/\a≠bCap/\a≠yi:=by
 unfold qcP
 cases sp with
 | true=>exact ⟨qS,_,rfl,NoSty.spelled,by decide +kernel,by decide +kernel⟩
 | false =>
  rw [if_neg (by simp)]
  cases hr:jF ⟨L.toArray⟩ with
  | true=>exact ⟨vD,_,rfl,NoSty.word,by decide +kernel,by decide +kernel⟩
  | false=>exact ⟨_,_,rfl,NoSty.lit hr,qcJ hr (by decide +kernel),qcJ hr (by decide +kernel)⟩
theorem kV {α:Type} (W R:List α) (k:Nat) (h:W.length=k):(W++R).drop k=R:=by
 subst h
 exact List.drop_left
theorem qfP {L:List UInt8}:(⟨L.toArray⟩:ByteArray).data.toList=L:=rfl
theorem qfa {T:List UInt8} (h:LtrPat T) (sp:Bool) (R:List ByteArray) (O:List Gl) (st:Int) (J:Bool) :
  va ⟨kS T sp++R,O,st,J⟩=some ⟨R,O++vm J st ⟨T.toArray⟩,st,true⟩:=by
 have hk:=h.kind
 have hl0:T.map yp≠[]:=by simpa using h.1
 have hlz : ∀ c∈T.map yp,97<=c.toNat/\c.toNat<=122:=fun c hc=>by
  obtain ⟨x,hx,rfl⟩:=List.mem_map.1 hc
  exact qgY x (hk x hx)
 have haz:=qiv h.1 hk
 obtain ⟨a,t,hb,hs,hc1,hc2⟩:=qjJ (T.map yp) sp
 have hlit:=fun R=>lit_body hl0 hlz haz sp R
 rw [qay]
 rcases h.2 with h1 | ⟨c,tt,rfl,h1,h2⟩ | ⟨h1,h2⟩
 ·rw [qeO h1,show qaB 0=[] from rfl,List.nil_append]
  have e:=hlit R
  rw [qiG h1] at *
  rw [hb] at e ⊢
  refine qcp (yE rfl hs) ?_
  unfold jP
  simp only [List.cons_append]
  rw [if_neg hc1,if_neg hc2,<- List.cons_append,e]
  simp only [Option.map_some,kN]
  rw [kV _ _ _ rfl]
 ·rw [caps_one h1 h2,show qaB 1=[bCap] from rfl]
  refine qcp (yE rfl NoSty.cap) ?_
  unfold jP
  simp only [List.cons_append,List.nil_append]
  rw [if_pos trivial,hlit R]
  simp only [Option.map_some,kN]
  rw [Nat.add_comm,List.drop_succ_cons,kV _ _ _ rfl]
  have e:jn ⟨((c::tt).map yp).toArray⟩ 1=⟨(c::tt).toArray⟩:=by
   unfold jn
   simp only [List.map_cons,List.take_succ_cons,List.take_zero,List.drop_succ_cons,List.drop_zero,List.map_nil,List.cons_append,List.nil_append]
   rw [qdn c h1,qiG h2]
  rw [e]
 ·have hc:qaB (qbb T)=[yi]:=by
   unfold qaB
   rw [caps_all h2,if_neg (by omega),if_pos (by omega)]
  rw [hc]
  refine qcp (yE rfl NoSty.caps) ?_
  unfold jP
  simp only [List.cons_append,List.nil_append]
  rw [if_neg (by decide +kernel),if_pos trivial,hlit R]
  simp only [Option.map_some,kN]
  rw [Nat.add_comm,List.drop_succ_cons,kV _ _ _ rfl]
  have e:jn ⟨(T.map yp).toArray⟩ (⟨(T.map yp).toArray⟩:ByteArray).size=⟨T.toArray⟩:=by
   unfold jn
   have hz:(⟨(T.map yp).toArray⟩:ByteArray).size=(T.map yp).length:=rfl
   rw [hz,qfP,List.take_length,List.drop_length,List.append_nil,List.map_map]
   congr 2
   exact (List.map_congr_left (g:=id) fun c hc=>qdn c (h2 c hc)).trans (List.map_id _)
  rw [e]
theorem qg1 (d:Nat) (hd:d<10):ja d=[wb d]:=by
 have : ∀ d:Fin 10,ja d.val=[wb d.val]:=by decide +kernel
 exact this ⟨d,hd⟩
theorem dgW_wb (d:Nat) (hd:d<10):dgW (wb d)=some d:=by
 have : ∀ d:Fin 10,dgW (wb d.val)=some d.val:=by decide +kernel
 exact this ⟨d,hd⟩
theorem dgW_no {a:ByteArray} (h : ∀ j,j<32->wb j≠a):dgW a=none:=by
 unfold dgW
 rw [List.find?_eq_none]
 intro i hi
 simp at hi
 simpa using h i (by omega)
theorem qgH {D:List Nat} (h : ∀ d∈D,d<10):D.flatMap ja=D.map wb:=by
 induction D with
 | nil=>rfl
 | cons d t ih =>
  rw [List.flatMap_cons,List.map_cons,qg1 d (h d (by simp)),ih fun x hx=>h x (by simp [hx])]
  rfl
theorem dgs_back {D:List Nat} (h : ∀ d∈D,d<10) {R:List ByteArray} (hR:NoNum R):dgsL (D.map wb++R)=D:=by
 have e:(D.map wb++R).takeWhile (fun s=>(dgW s).isSome)=D.map wb:=by
  rw [List.takeWhile_append_of_pos fun s hs=>by
   obtain ⟨d,hd,rfl⟩:=List.mem_map.1 hs
   rw [dgW_wb d (h d hd)]
   rfl]
  have:R.takeWhile (fun s=>(dgW s).isSome)=[]:=by
   cases R with
   | nil=>rfl
   | cons a t=>rw [List.takeWhile_cons_of_neg (by rw [dgW_no (hR a t rfl)];simp)]
  rw [this,List.append_nil]
 unfold dgsL
 rw [e,List.map_map]
 exact (List.map_congr_left (g:=id) fun d hd=>by simp [dgW_wb d (h d hd)]).trans (List.map_id _)
theorem qfD {D:List Nat} (h0:D≠[]) (h : ∀ d∈D,d<10) {R:List ByteArray} (hR:NoNum R) (O:List Gl) (st:Int) (J:Bool) :
  va ⟨(vI::D.flatMap ja)++R,O,st,J⟩=some ⟨R,O++vm J st (zN D),st,true⟩:=by
 rw [qgH h]
 refine part_fig (yE rfl NoSty.digits) ?_ ?_
 ·unfold jP
  simp only [List.cons_append]
  rw [if_neg (by decide +kernel),if_neg (by decide +kernel),yl,if_neg (fun e=>absurd e.1 (by decide +kernel)),if_neg (fun e=>absurd e.2 (by decide +kernel)),if_neg (by decide +kernel)]
  rfl
 ·unfold qaP
  simp only [List.cons_append]
  rw [dgs_back h hR,if_pos ⟨trivial,h0⟩]
  simp only [kN]
  rw [Nat.add_comm,List.drop_succ_cons,kV _ _ _ (by simp)]
theorem qau (n:Nat) (hn:n<=999999999) : ∃ j t,j<32/\ja n=wb j::t:=by
 have h1:0<(qm (n:Int)).length:=by
  rcases qaa (n:Int) with h | h
  ·exact h
  ·omega
 have h2:=jT (n:Int) (by omega) (by omega)
 unfold ja
 cases hw:qm (n:Int) with
 | nil=>rw [hw] at h1;simp at h1
 | cons j t =>
  rw [hw] at h2
  exact ⟨j,t.map wb,h2 j (by simp),rfl⟩
theorem qfR {n:Nat} (hn:n<=999999999) {R:List ByteArray} (hR:NoNum R) (hT:R[0]?≠some bTimes) (O:List Gl) (st:Int) (J:Bool) :
  va ⟨ja n++R,O,st,J⟩=some ⟨R,O++vm J st ⟨(kA n).toArray⟩,st,true⟩:=by
 obtain ⟨j,t,hj,e⟩:=qau n hn
 rw [qfG hj (t:=t++R) (by rw [e];rfl)]
 unfold kD
 simp only
 have hp:=qax (n:Int) (by omega) (by omega) R hR
 have hl:(ja n).length=(qm (n:Int)).length:=by unfold ja;rw [List.length_map]
 rw [show ja n++R=(qm (n:Int)).map wb++R from rfl,hp]
 simp only
 rw [if_neg (by omega),List.getElem?_append_right (by simp),List.length_map,Nat.sub_self,if_neg hT]
 simp only [kN]
 rw [kV _ _ _ (by simp),Int.toNat_natCast]
theorem enc_bytN {rs:List Nat} (h : ∀ r∈rs,qR r):qB (yI rs)=zm rs:=by
 unfold yI
 show List.map UInt8.toNat (List.toArray _).toList=_
 rw [List.map_map]
 refine (List.map_congr_left (g:=id) fun b hb=>?_).trans (List.map_id _)
 have:=qfl h b hb
 simp
 omega
theorem qcl {rs:List Nat} (h : ∀ r∈rs,qR r):qs (qB (yI rs))=rs:=by rw [enc_bytN h,qbP h]
theorem qjS {rs:List Nat} (h : ∀ r∈rs,qR r):vb (yI rs)=true:=(qbR _).1 (by rw [qcl h])
theorem qh1 (r:Nat):yI [r]=kt r:=by
 unfold yI kt zm
 simp only [List.flatMap_cons,List.flatMap_nil,List.append_nil]
theorem enc_snoc (a:List Nat) (m:Nat):yI (a++[m])=yI a++kt m:=by
 apply ByteArray.ext
 rw [ByteArray.data_append]
 apply Array.toList_inj.1
 unfold yI kt zm
 simp
theorem qjM {r:Nat} {pre:List Nat} (h : ∀ x∈r::pre,qR x) (hw:1<=zR (r:Int)) (hm : ∀ x∈pre,inT qM (x:Int)=true) (hl:pre.length<=3):zB (yI (r::pre))=0 :=
 vL.2 ⟨qjS h,r,pre,qcl h,hw,List.all_eq_true.2 hm,hl⟩
theorem qhl {r m:Nat} {pre:List Nat} (h : ∀ x∈r::pre,qR x) (hw:1<=zR (r:Int)) (hm : ∀ x∈pre,inT qM (x:Int)=true) (hl:pre.length<3) (hmm:inT qM (m:Int)=true) :
  ye (yI (r::pre)) (m:Int)=(yI (r::pre++[m]),0):=by
 unfold ye
 rw [if_neg (by rw [qjM h hw hm (by omega)];simp),if_neg (by rw [hmm];simp),qcl h,if_neg (by rw [List.length_cons];omega),Int.toNat_natCast,enc_snoc]
theorem mark_wid {m:Nat} (h:inT qM (m:Int)=true):zR (m:Int)=0:=by
 have hlow : ∀ p∈qM,160<=p.1:=by decide +kernel
 have:160<=(m:Int):=by
  unfold inT at h
  obtain ⟨p,hp,h⟩:=List.any_eq_true.1 h
  simp only [Bool.and_eq_true,decide_eq_true_eq] at h
  have:=hlow p hp
  omega
 unfold zR
 rw [if_neg (by omega),if_pos h]
theorem qds {s:ByteArray}:qL s=true↔∃ j,j<32/\wb j=s:=by
 unfold qL
 rw [List.any_eq_true]
 simp
theorem NoNum.of {a:ByteArray} (h:qL a=false) (t:List ByteArray):NoNum (a::t):=by
 intro x t' e j hj he
 injection e with e _
 subst e
 have:=qds.2 ⟨j,hj,he⟩
 rw [h] at this
 cases this
def ChW (r:Int) (W R:List ByteArray):Prop:=(r=32/\W=[yB])∨(zC r=true/\W=qD r/\(qL (W.getLastD ⟨#[]⟩)=true->NoNum R))
theorem qdk {n:Int} (h1 : -999999999<=n) (h2:n<=999999999) (c:ByteArray):qL ((c::(qm n).map wb).getLastD ⟨#[]⟩)=true:=by
 have hpos:0<(qm n).length:=by
  rcases qaa n with h | h
  ·exact h
  ·omega
 rw [List.getLastD_cons]
 obtain ⟨a,l,hl⟩ : ∃ a l,(qm n).map wb=l++[a]:=by
  have hne:(qm n).map wb≠[]:=by rw [<- List.length_pos_iff,List.length_map];exact hpos
  exact ⟨_,_,(List.dropLast_concat_getLast hne).symm⟩
 rw [hl,List.getLastD_concat]
 have:a∈(qm n).map wb:=by rw [hl];simp
 obtain ⟨j,hj,rfl⟩:=List.mem_map.1 this
 exact qds.2 ⟨j,jT n h1 h2 j hj,rfl⟩
theorem ChW.back {r:Int} {W R:List ByteArray} (h:ChW r W R):vi (W++R)=some (r,W.length):=by
 rcases h with ⟨rfl,rfl⟩ | ⟨hr,rfl,hn⟩
 ·show vi (yB::R)=_
  rw [vi,if_pos rfl]
  rfl
 ·have hnb : ∀ i:Fin 32,nb i.val≠yB:=by decide +kernel
  cases hi:jM r with
  | some i =>
   have e:qD r=[nb i]:=by unfold qD;rw [hi]
   obtain ⟨a,b,_⟩:=jz hi
   rw [e]
   show vi (nb i::R)=_
   rw [vi,if_neg (hnb ⟨i,a⟩),zM,qia i a]
   simp only [List.length_cons,List.length_nil]
   rw [b]
  | none =>
   have e:qD r=cB::(qm r).map wb:=by unfold qD;rw [hi];simp only [hr,if_true]
   obtain ⟨a,b⟩:=kj hr
   have hR:NoNum R:=hn (by rw [e];exact qdk (by omega) (by omega) _)
   have:=qd7 hr hR
   rw [e] at this ⊢
   rw [List.cons_append,vi,if_neg (by decide +kernel),<- List.cons_append]
   exact this
theorem ChW.head {r:Int} {W R:List ByteArray} (h:ChW r W R) : ∃ a t,W=a::t/\NoSty a/\NoLit a/\qL a=false/\a≠bTimes:=by
 have hnb : ∀ i:Fin 32,qL (nb i.val)=false/\nb i.val≠bTimes:=by decide +kernel
 rcases h with ⟨rfl,rfl⟩ | ⟨hr,rfl,hn⟩
 ·exact ⟨_,_,rfl,NoSty.space,NoLit.space,by decide +kernel,by decide +kernel⟩
 ·cases hi:jM r with
  | some i =>
   have e:qD r=[nb i]:=by unfold qD;rw [hi]
   obtain ⟨a,_⟩:=jz hi
   exact ⟨_,_,e,NoSty.nb a,NoLit.nb a,(hnb ⟨i,a⟩).1,(hnb ⟨i,a⟩).2⟩
  | none =>
   have e:qD r=cB::(qm r).map wb:=by unfold qD;rw [hi];simp only [hr,if_true]
   exact ⟨_,_,e,NoSty.cB,NoLit.cB,by decide +kernel,by decide +kernel⟩
theorem qck {r:Int} {W R:List ByteArray} (h:ChW r W R) {O O':List Gl} {st:Int} (ha:vV O st r 1=(true,O')) (J:Bool) :
  va ⟨W++R,O,st,J⟩=some ⟨R,O',st,false⟩:=by
 obtain ⟨a,t,e,h1,h2,_,_⟩:=h.head
 have hw:(⟨W++R,O,st,J⟩:Prs).words=a::(t++R):=by rw [e];rfl
 refine qiI (yE hw h1) (NoLit.word hw h2) (NoLit.fig hw h2) ?_
 unfold ko
 simp only
 rw [h.back]
 simp only
 rw [ha,if_pos rfl,kV _ _ _ rfl]
theorem qgN {O:List Gl} {st:Int} {r n:Nat} (h:1<=zR (r:Int)):vV O st (r:Int) n=(true,O++List.replicate n ⟨kt r,decide (zR (r:Int)=2),st⟩):=by
 unfold vV
 rw [if_neg (by omega),if_neg (by omega),Int.toNat_natCast]
theorem qhQ {n:Nat} (h2:2<=n) (hn:n<=132) {r:Nat} {W R:List ByteArray} (h:ChW (r:Int) W R) (hw:1<=zR (r:Int)) (O:List Gl) (st:Int) (J:Bool) :
  va ⟨ja n++[bTimes]++W++R,O,st,J⟩=some ⟨R,O++List.replicate n ⟨kt r,decide (zR (r:Int)=2),st⟩,st,false⟩:=by
 obtain ⟨j,t,hj,e⟩:=qau n (by omega)
 have hl:(ja n).length=(qm (n:Int)).length:=by unfold ja;rw [List.length_map]
 have hT:NoNum (bTimes::(W++R)):=NoNum.of (by decide +kernel) _
 have ew:ja n++[bTimes]++W++R=ja n++(bTimes::(W++R)):=by simp
 rw [ew,qfG hj (t:=t++(bTimes::(W++R))) (by rw [e];rfl)]
 have hp:=qax (n:Int) (by omega) (by omega) _ hT
 unfold kD
 simp only
 rw [show ja n++(bTimes::(W++R))=(qm (n:Int)).map wb++(bTimes::(W++R)) from rfl,hp]
 simp only
 rw [if_neg (by omega),List.getElem?_append_right (by simp),List.length_map,Nat.sub_self,Lb,if_pos rfl]
 have hd : ∀ k,((qm (n:Int)).map wb++(bTimes::(W++R))).drop ((qm (n:Int)).length+1+k)=(W++R).drop k:=by
  intro k
  rw [Nat.add_assoc,List.drop_append]
  simp [Nat.add_comm 1 k]
 have hd0:=hd 0
 rw [Nat.add_zero,List.drop_zero] at hd0
 rw [hd0,h.back]
 simp only
 rw [Int.toNat_natCast,qgN hw,if_pos ⟨by omega,by omega,rfl⟩,hd,kV _ _ _ rfl]
theorem vq (m:Nat) (t:List Nat):za (m::t)=qD (m:Int)++za t:=by simp [za]
theorem qa0 {A B:List ByteArray} (h:B≠[]) (d:ByteArray):(A++B).getLastD d=B.getLastD d:=by
 obtain ⟨B',b,rfl⟩ : ∃ B' b,B=B'++[b]:=⟨_,_,(List.dropLast_concat_getLast h).symm⟩
 rw [<- List.append_assoc,List.getLastD_concat,List.getLastD_concat]
theorem qdY {r:Nat} (hr:qR r) (hw:1<=zR (r:Int)) (O:List Gl) (st:Int) (wd:Bool) (st0:Int) {R:List ByteArray} : ∀ (t pre:List Nat),(∀ x∈pre,qR x)->(∀ x∈t,qR x)->(∀ x∈pre,inT qM (x:Int)=true)->(∀ x∈t,inT qM (x:Int)=true)->pre.length+t.length<=3 ->
  (t≠[]->qL ((za t).getLastD ⟨#[]⟩)=true->NoNum R)->qag ⟨za t++R,O++[⟨yI (r::pre),wd,st0⟩],st,false⟩=qag ⟨R,O++[⟨yI (r::(pre++t)),wd,st0⟩],st,false⟩
 | [],pre,_,_,_,_,_,_=>by rw [List.append_nil];rfl
 | m::t,pre,h1,h2,h3,h4,h5,h6=>by
  rw [List.length_cons] at h5
  have hm:=h2 m (by simp)
  have hmm:=h4 m (by simp)
  have hne:qD (m:Int)≠[]:=by
   intro e
   have:=qao.1 e
   rw [ji hm] at this
   cases this
  have hc:ChW (m:Int) (qD (m:Int)) (za t++R):=.inr ⟨ji hm,rfl,fun hl=>by
   cases t with
   | nil=>exact h6 (by simp) (by rw [vq,show za []=[] from rfl,List.append_nil];exact hl)
   | cons x t' =>
    rw [vq,List.append_assoc]
    exact NoNum.spell (h2 x (by simp)) _⟩
  have ha:vV (O++[⟨yI (r::pre),wd,st0⟩]) st (m:Int) 1=(true,O++[⟨yI (r::(pre++[m])),wd,st0⟩]):=by
   unfold vV
   rw [mark_wid hmm,if_neg (by omega),if_pos rfl,if_neg (by omega),List.getLast?_append,List.getLast?_singleton,Option.some_or]
   simp only
   rw [qhl (List.forall_mem_cons.2 ⟨hr,h1⟩) hw h3 (by omega) hmm,List.dropLast_concat]
   rfl
  rw [vq,List.append_assoc,jy (qck hc ha false)]
  have:=qdY hr hw O st wd st0 t (pre++[m]) (fun x hx=>by
    rcases List.mem_append.1 hx with hx | hx
    ·exact h1 x hx
    ·rw [List.mem_singleton] at hx;subst hx;exact hm) (fun x hx=>h2 x (by simp [hx])) (fun x hx=>by
    rcases List.mem_append.1 hx with hx | hx
    ·exact h3 x hx
    ·rw [List.mem_singleton] at hx;subst hx;exact hmm) (fun x hx=>h4 x (by simp [hx])) (by rw [List.length_append,List.length_singleton];omega) (fun ht hl=>h6 (by simp) (by
     rw [vq,qa0 _]
     ·exact hl
     ·cases t with
      | nil=>exact absurd rfl ht
      | cons x t' =>
       rw [vq]
       intro e
       have:=qao.1 (List.append_eq_nil_iff.1 e).1
       rw [ji (h2 x (by simp))] at this
       cases this))
  rw [List.append_assoc,List.singleton_append] at this
  exact this
theorem qcK {g:Gl} (h:g.text.data.toList=[32]):qs (qB g.text)=[32]:=by
 unfold qB
 rw [h]
 decide +kernel
theorem qeE {g:Gl} (h:GF g) {r:Nat} {R:List ByteArray} (hc:qs (qB g.text)=[r]) (hR:qL ((qP g).getLastD ⟨#[]⟩)=true->NoNum R):ChW (r:Int) (qP g) R:=by
 by_cases hs:g.text.data.toList=[32]
 ·have:=qcK hs
  rw [hc] at this
  injection this with this
  exact .inl ⟨by rw [this];rfl,yC hs⟩
 ·have hch:=yD (qB g.text)
  rw [hc] at hch
  have e:qP g=qD (r:Int):=by
   rw [jr hs,hc,vq]
   exact List.append_nil _
  exact .inr ⟨ji (hch r (by simp)),e,hR⟩
theorem qfW {g:Gl} (h:GF g) {R:List ByteArray} (hR:qL ((qP g).getLastD ⟨#[]⟩)=true->NoNum R) (O:List Gl) (J:Bool) :
  qag ⟨qP g++R,O,g.style,J⟩=qag ⟨R,O++[g],g.style,false⟩:=by
 obtain ⟨r,t,hc,h1,h2,h3,h4,h5,h6,h7⟩:=h.form
 have hg:g=⟨yI (r::t),decide (zR (r:Int)=2),g.style⟩:=by
  obtain ⟨tx,wd,st⟩:=g
  simp only at h6 h7
  rw [h6,h7]
 have ha:vV O g.style (r:Int) 1=(true,O++[⟨yI [r],decide (zR (r:Int)=2),g.style⟩]):=by rw [qgN h3,qh1];rfl
 cases t with
 | nil =>
  rw [jy (qck (qeE h hc hR) ha J),<- hg]
 | cons m t' =>
  have hs:g.text.data.toList≠[32]:=by
   intro hs
   have:=qcK hs
   rw [hc] at this
   cases this
  have e:qP g=qD (r:Int)++za (m::t'):=by rw [jr hs,hc,vq]
  have hlast:(qP g).getLastD ⟨#[]⟩=(za (m::t')).getLastD ⟨#[]⟩:=by
   rw [e,qa0]
   rw [vq]
   intro e
   have:=qao.1 (List.append_eq_nil_iff.1 e).1
   rw [ji (h2 m (by simp))] at this
   cases this
  rw [hlast] at hR
  have hcw:ChW (r:Int) (qD (r:Int)) (za (m::t')++R):=.inr ⟨ji h1,rfl,fun _=>by
   rw [vq,List.append_assoc]
   exact NoNum.spell (h2 m (by simp)) _⟩
  rw [e,List.append_assoc,jy (qck hcw ha J),qdY h1 h3 O g.style _ g.style (m::t') [] (by simp) h2 (by simp) h4 (by simpa using h5) (fun _=>hR),List.nil_append,<- hg]
theorem numL_pos {a:Nat} (ha:a≠0) (t:List Nat):0<yj (a::t):=by
 have : ∀ (t:List Nat) (n:Nat),0<n->0<t.foldl (fun n d=>10 * n+d) n:=by
  intro t
  induction t with
  | nil=>intro n h;exact h
  | cons d t ih=>intro n h;exact ih _ (by show 0<10 * n+d;omega)
 unfold yj
 exact this t _ (by show 0<10 * 0+a;omega)
theorem qg2 {n:Nat} (h:n<10):kA n=[UInt8.ofNat (48+n)]:=by rw [kA,dif_pos h]
theorem decT_big {n:Nat} (h : ¬ n<10):kA n=kA (n / 10)++[UInt8.ofNat (48+n % 10)]:=by rw [kA,dif_neg h]
theorem qf5 : ∀ (k:Nat) (D:List Nat),D.length=k+1->(∀ d∈D,d<10)->(k=0∨D.headD 1≠0)->kA (yj D)=D.map fun d=>UInt8.ofNat (48+d)
 | 0,D,hl,h,_=>by
  match D,hl with
  | [d],_ =>
   have:yj [d]=d:=by unfold yj;simp
   rw [this,qg2 (h d (by simp))]
   rfl
 | k+1,D,hl,h,h0=>by
  have hne:D≠[]:=by rintro rfl;simp at hl
  obtain ⟨D',d,rfl⟩ : ∃ D' d,D=D'++[d]:=⟨_,_,(List.dropLast_concat_getLast hne).symm⟩
  rw [List.length_append,List.length_singleton] at hl
  have hd:=h d (by simp)
  cases D' with
  | nil=>simp at hl
  | cons a t =>
   have ha:a≠0:=by
    rcases h0 with h0 | h0
    ·omega
    ·exact h0
   have hp:=numL_pos ha t
   have ih:=qf5 k (a::t) (by omega) (fun x hx=>h x (by simp at hx ⊢;rcases hx with hx | hx <;> simp [hx])) (.inr ha)
   rw [qeq,decT_big (by omega),show (10 * yj (a::t)+d) / 10=yj (a::t) by omega,show (10 * yj (a::t)+d) % 10=d by omega,ih,List.map_append]
   rfl
theorem qke (c:UInt8) (h:vg c.toNat≠0∨c=32):kb ⟨#[c]⟩=1:=by
 have:=qd2 (P:=fun c=>(vg c.toNat==0&&c != 32) || decide (kb ⟨#[c]⟩=1)) (by decide +kernel) c
 simp only [Bool.or_eq_true,Bool.and_eq_true,beq_iff_eq,bne_iff_ne,decide_eq_true_eq] at this
 rcases this with ⟨h1,h2⟩ | h1
 ·rcases h with h | h
  ·exact absurd h1 h
  ·exact absurd h h2
 ·exact h1
theorem qh3 {x:Gl} (h:GF x) {c:UInt8} (hc:x.text.data.toList=[c]) (hk:vg c.toNat≠0∨c=32):x=chG x.style c:=by
 obtain ⟨tx,wd,st⟩:=x
 have ht:tx=⟨#[c]⟩:=ByteArray.ext (Array.toList_inj.1 hc)
 subst ht
 have:=h.2
 simp only at this
 rw [qke c hk] at this
 have:wd=false:=by simpa using this
 rw [this]
 rfl
theorem gl_kind {x:Gl} (h:GF x) (hk:qd x≠0):x=chG x.style (qT x):=by
 obtain ⟨h1,h2⟩:=kH hk
 exact qh3 h h1 (.inl (by rw [<- h2];exact hk))
theorem qgX {P:List Gl} {st:Int} (h : ∀ x∈P,GF x) (hk : ∀ x∈P,qd x≠0/\x.style=st):(P.map qT).map (chG st)=P:=by
 rw [List.map_map]
 refine (List.map_congr_left (g:=id) fun x hx=>?_).trans (List.map_id _)
 have:=gl_kind (h x hx) (hk x hx).1
 rw [(hk x hx).2] at this
 exact this.symm
theorem qeT : ∀ (t:List Gl) (g:Gl) (m:Nat),t.take (yW t g m)=List.replicate (yW t g m) g
 | t,g,0=>by cases t <;> simp [yW]
 | [],g,m+1=>by simp [yW]
 | x::t,g,m+1=>by
  rw [yW]
  split
  ·rename_i h
   subst h
   rw [List.take_succ_cons,List.replicate_succ,qeT t x m]
  ·rfl
def pcL (l:List Gl) (rep:Int):List Gl:=l.take (qo l rep)
theorem kn (g:Gl) (t:List Gl) (rep:Int):pcL (g::t) rep=g::t.take (qo (g::t) rep-1):=by
 have:=vz (g:=g) (t:=t) rep
 obtain ⟨m,hm⟩ : ∃ m,qo (g::t) rep=m+1:=⟨qo (g::t) rep-1,by omega⟩
 unfold pcL
 rw [hm,List.take_succ_cons,Nat.add_sub_cancel]
theorem qhk {g:Gl} {t:List Gl} {rep:Int} (h:qd g=1∨qd g=2):LtrPat ((pcL (g::t) rep).map qT)/\∀ x∈pcL (g::t) rep,(qd x=1∨qd x=2)/\x.style=g.style:=by
 have hne:(pcL (g::t) rep).map qT≠[]:=by rw [kn];simp
 have hkb : ∀ x:Gl,qd x≠0->vg (qT x).toNat=qd x:=fun x hx=>(kH hx).2.symm
 rcases h with h | h
 ·have hall : ∀ x∈pcL (g::t) rep,qd x=1/\x.style=g.style:=by
   unfold pcL
   rw [kL (.inl h),h]
   exact yb _ _ _
  refine ⟨⟨hne,.inl fun c hc=>?_⟩,fun x hx=>⟨.inl (hall x hx).1,(hall x hx).2⟩⟩
  obtain ⟨x,hx,rfl⟩:=List.mem_map.1 hc
  rw [hkb x (by have:=(hall x hx).1;omega),(hall x hx).1]
 ·by_cases h1:1<yZ (g::t) 2 g.style
  ·have hall : ∀ x∈pcL (g::t) rep,qd x=2/\x.style=g.style:=by
    unfold pcL
    rw [kW h,if_pos h1]
    exact yb _ _ _
   refine ⟨⟨hne,.inr (.inr ⟨?_,fun c hc=>?_⟩)⟩,fun x hx=>⟨.inr (hall x hx).1,(hall x hx).2⟩⟩
   ·have:=qaz (g::t) 2 g.style
    unfold pcL
    rw [List.length_map,List.length_take,kW h,if_pos h1]
    omega
   ·obtain ⟨x,hx,rfl⟩:=List.mem_map.1 hc
    rw [hkb x (by have:=(hall x hx).1;omega),(hall x hx).1]
  ·have e:pcL (g::t) rep=g::t.take (yZ t 1 g.style):=by
    unfold pcL
    rw [kW h,if_neg h1,Nat.add_comm,List.take_succ_cons]
   have hall:=yb t 1 g.style
   rw [e]
   refine ⟨⟨by simp,.inr (.inl ⟨qT g,(t.take (yZ t 1 g.style)).map qT,rfl,by rw [hkb g (by omega),h],fun c hc=>?_⟩)⟩,fun x hx=>?_⟩
   ·obtain ⟨x,hx,rfl⟩:=List.mem_map.1 hc
    rw [hkb x (by have:=(hall x hx).1;omega),(hall x hx).1]
   ·rcases List.mem_cons.1 hx with rfl | hx
    ·exact ⟨.inr h,rfl⟩
    ·exact ⟨.inl (hall x hx).1,(hall x hx).2⟩
theorem qe1 {g:Gl} {t:List Gl} {rep:Int} (h:qd g=3) : ∀ x∈pcL (g::t) rep,qd x=3/\x.style=g.style:=by
 unfold pcL
 rw [kL (.inr h),h]
 exact yb _ _ _
theorem qfe {g:Gl} {t:List Gl} {rep:Int} (h:qd g=0):pcL (g::t) rep=[g]∨∃ n,2<=n/\n<=132/\pcL (g::t) rep=List.replicate n g/\(qs (qB g.text)).length=1:=by
 have hle:=(qfA t g 131).2
 unfold pcL
 rw [qdm h]
 split
 ·rename_i hc
  rw [Nat.add_comm,List.take_succ_cons,qeT]
  rcases Nat.eq_zero_or_pos (yW t g 131) with h0 | h0
  ·rw [h0]
   exact .inl rfl
  ·exact .inr ⟨yW t g 131+1,by omega,by omega,by rw [List.replicate_succ],hc.2.2⟩
 ·exact .inl rfl
theorem qfS {g:Gl} (h:GF g):qP g≠[]:=by
 by_cases hs:g.text.data.toList=[32]
 ·rw [yC hs];simp
 ·obtain ⟨r,t,hc,h1,_⟩:=h.form
  rw [jr hs,hc,vq]
  intro e
  have:=qao.1 (List.append_eq_nil_iff.1 e).1
  rw [ji h1] at this
  cases this
theorem qiL (a:ByteArray) {t:List ByteArray} (h:t≠[]) (d:ByteArray):(a::t).getLastD d=t.getLastD d:=by
 cases t with
 | nil=>exact absurd rfl h
 | cons b t=>rw [List.getLastD_cons,List.getLastD_cons,List.getLastD_cons]
theorem qeL (n:Nat) (hn:n<=999999999) (A:List ByteArray):qL ((A++ja n).getLastD ⟨#[]⟩)=true:=by
 obtain ⟨j,t,hj,e⟩:=qau n hn
 have:=qdk (n:=(n:Int)) (by omega) (by omega) ⟨#[]⟩
 rw [qa0 (by rw [e];simp)]
 rw [qiL] at this
 ·exact this
 ·show ja n≠[]
  rw [e]
  simp
theorem qjI {D:List Nat} (h0:D≠[]) (h : ∀ d∈D,d<10) (a:ByteArray):qL ((a::D.flatMap ja).getLastD ⟨#[]⟩)=true:=by
 obtain ⟨D',d,rfl⟩ : ∃ D' d,D=D'++[d]:=⟨_,_,(List.dropLast_concat_getLast h0).symm⟩
 rw [List.flatMap_append,<- List.cons_append]
 simp only [List.flatMap_cons,List.flatMap_nil,List.append_nil]
 exact qeL d (by have:=h d (by simp);omega) _
theorem qc8 {P:List Gl} (h : ∀ x∈P,qd x=3) : ∀ d∈jC (P.map qT),d<10:=by
 intro d hd
 unfold jC at hd
 obtain ⟨c,hc,rfl⟩:=List.mem_map.1 hd
 obtain ⟨x,hx,rfl⟩:=List.mem_map.1 hc
 have h1:=(kH (by rw [h x hx];omega)).2
 rw [h x hx] at h1
 unfold vg at h1
 split at h1
 ·omega
 ·split at h1
  ·omega
  ·split at h1
   ·omega
   ·omega
theorem qjQ {P:List Gl} (h : ∀ x∈P,qd x=3):(jC (P.map qT)).map (fun d=>UInt8.ofNat (48+d))=P.map qT:=by
 unfold jC
 rw [List.map_map]
 refine (List.map_congr_left (g:=id) fun c hc=>?_).trans (List.map_id _)
 obtain ⟨x,hx,rfl⟩:=List.mem_map.1 hc
 have h1:=(kH (by rw [h x hx];omega)).2
 rw [h x hx] at h1
 generalize qT x=c at *
 have:=qd2 (P:=fun c=>!(vg c.toNat==3) || (UInt8.ofNat (48+(c.toNat-48))==c)) (by decide +kernel) c
 rw [<- h1] at this
 simpa using this
theorem qiu (J:Bool) (st:Int) (T:List UInt8):vm J st ⟨T.toArray⟩=(if J=true then [chG st 32] else [])++T.map (chG st):=rfl
theorem qhJ {g:Gl} {t:List Gl} {rep:Int} {sp dg:Bool} (hG : ∀ x∈g::t,GF x) {R:List ByteArray} (hT:R[0]?≠some bTimes)
  (hR:qd g=0∨qd g=3->qL ((qq (pcL (g::t) rep) sp dg).getLastD ⟨#[]⟩)=true->NoNum R) (O:List Gl) (J:Bool) :
  qag ⟨qq (pcL (g::t) rep) sp dg++R,O,g.style,J⟩=qag ⟨R,O++(if qd g≠0/\J=true then [chG g.style 32] else [])++pcL (g::t) rep,g.style,decide (qd g≠0)⟩:=by
 have hGP : ∀ x∈pcL (g::t) rep,GF x:=fun x hx=>hG x (List.mem_of_mem_take hx)
 have hcons:=kn g t rep
 have hk3:=jX g
 by_cases h12:qd g=1∨qd g=2
 ·obtain ⟨hp,hall⟩:=qhk (rep:=rep) (t:=t) h12
  have e:qq (pcL (g::t) rep) sp dg=kS ((pcL (g::t) rep).map qT) sp:=by
   rw [<- qbI (fun x hx=>by have:=(hall x hx).1;omega),hcons,jv h12]
  rw [e,jy (qfa hp sp R O g.style J),qiu,qgX hGP (fun x hx=>⟨by have:=(hall x hx).1;omega,(hall x hx).2⟩),decide_eq_true (show qd g≠0 by omega)]
  have:(qd g≠0/\J=true)↔J=true:=⟨fun h=>h.2,fun h=>⟨by omega,h⟩⟩
  simp only [this,List.append_assoc]
 ·by_cases h3:qd g=3
  ·have hall:=qe1 (rep:=rep) (t:=t) h3
   have hk : ∀ x∈pcL (g::t) rep,qd x=3:=fun x hx=>(hall x hx).1
   have e:qq (pcL (g::t) rep) sp dg=yt ((pcL (g::t) rep).map qT) dg:=by
    rw [<- kG,hcons,ju h3]
   have hlt:=qc8 hk
   have hbk:=qjQ hk
   have hne:jC ((pcL (g::t) rep).map qT)≠[]:=by unfold jC;rw [hcons];simp
   have hN:NoNum R:=hR (.inr h3) (by
    rw [e]
    unfold yt
    split
    ·exact qjI hne hlt _
    ·rename_i hc
     rw [not_or,not_or,List.length_map] at hc
     have h1:=qc5 _ hlt
     have h2:(jC ((pcL (g::t) rep).map qT)).length<=9:=by unfold jC;rw [List.length_map,List.length_map];omega
     have h3:10 ^ (jC ((pcL (g::t) rep).map qT)).length<=10 ^ 9:=Nat.pow_le_pow_right (by omega) h2
     exact qeL _ (by omega) [])
   have hfin:va ⟨yt ((pcL (g::t) rep).map qT) dg++R,O,g.style,J⟩=some ⟨R,O++vm J g.style ⟨((pcL (g::t) rep).map qT).toArray⟩,g.style,true⟩:=by
    unfold yt
    split
    ·have:=qfD hne hlt hN O g.style J
     unfold zN at this
     rw [hbk] at this
     exact this
    ·rename_i hc
     rw [not_or,not_or,List.length_map] at hc
     have h1:=qc5 _ hlt
     have h2:(jC ((pcL (g::t) rep).map qT)).length<=9:=by unfold jC;rw [List.length_map,List.length_map];omega
     have h3:10 ^ (jC ((pcL (g::t) rep).map qT)).length<=10 ^ 9:=Nat.pow_le_pow_right (by omega) h2
     have:=qfR (n:=yj (jC ((pcL (g::t) rep).map qT))) (by omega) hN hT O g.style J
     obtain ⟨k,hk'⟩ : ∃ k,(jC ((pcL (g::t) rep).map qT)).length=k+1:=⟨_,(Nat.succ_pred_eq_of_pos (List.length_pos_iff.2 hne)).symm⟩
     rw [qf5 k _ hk' hlt,hbk] at this
     ·exact this
     ·rcases Nat.eq_zero_or_pos k with h0 | h0
      ·exact .inl h0
      ·refine .inr fun hz=>hc.2.2 ⟨?_,hz⟩
       unfold jC at hk'
       rw [List.length_map,List.length_map] at hk'
       omega
   rw [e,jy hfin,qiu,qgX hGP (fun x hx=>⟨by rw [hk x hx];omega,(hall x hx).2⟩),decide_eq_true (show qd g≠0 by omega)]
   have:(qd g≠0/\J=true)↔J=true:=⟨fun h=>h.2,fun h=>⟨by omega,h⟩⟩
   simp only [this,List.append_assoc]
  ·have h0:qd g=0:=by omega
   have hg:=hG g (by simp)
   rw [decide_eq_false (show ¬ qd g≠0 by omega),if_neg (fun h=>h.1 h0),List.append_nil]
   rcases qfe (rep:=rep) (t:=t) h0 with e | ⟨n,h2,hn,e,hc⟩
   ·rw [e] at hR ⊢
    rw [jt h0] at hR ⊢
    exact qfW hg (hR (.inl h0)) O J
   ·obtain ⟨m,rfl⟩ : ∃ m,n=m+2:=⟨n-2,by omega⟩
    have e2:qq (List.replicate (m+2) g) sp dg=ja (m+2)++[bTimes]++qP g:=by
     rw [List.replicate_succ,jb h0 (by simp),List.length_replicate]
    rw [e,e2] at hR
    rw [e,e2]
    obtain ⟨r,t',hc',h1,_,h3',_,_,h6,h7⟩:=hg.form
    rw [hc'] at hc
    obtain rfl:t'=[]:=by simpa using hc
    have hch:ChW (r:Int) (qP g) R:=by
     refine qeE hg hc' fun hl=>hR (.inl h0) ?_
     rw [qa0]
     ·exact hl
     ·exact qfS hg
    have hgg:g=⟨kt r,decide (zR (r:Int)=2),g.style⟩:=by
     obtain ⟨tx,wd,st⟩:=g
     simp only at h6 h7
     rw [h6,h7,qh1]
    rw [jy (qhQ (by omega) hn hch h3' O g.style J),<- hgg]
end Go.Proofs.YticbpkghcglgkaaGreatDoor
