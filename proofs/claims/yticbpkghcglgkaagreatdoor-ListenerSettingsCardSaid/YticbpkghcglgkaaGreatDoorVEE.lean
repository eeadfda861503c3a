/- Joined: PaA, Pa7, Pa8, Pa9, PaB0, PaB1, PaB2, PaB, PaC. -/
import Derived.Test.YticbpkghcglgkaaGreatDoorVED
set_option linter.unusedVariables false
set_option linter.unusedSimpArgs false
set_option linter.unnecessarySimpa false
set_option maxHeartbeats 4000000
namespace Go.Proofs.YticbpkghcglgkaaGreatDoor
open Go.Proofs.Tryz Go.RowKit
set_option maxRecDepth 20000
def styI (o:Option Nat):Int:=match o with
 | some i=>(i:Int)
 | none => -1
theorem sty_at {s:ByteArray} {j:Nat} (hj:j<4) (h : ∀ i,i<j->vP i≠s) (he:vP j=s):vY s=some j:=by
 subst he
 have : ∀ j:Fin 4,vY (vP j.val)=some j.val:=by decide +kernel
 exact this ⟨j,hj⟩
theorem sty_out {s:ByteArray} (h : ∀ i,i<4->vP i≠s):vY s=none:=by
 unfold vY
 rw [List.find?_eq_none]
 intro i hi
 simp at hi
 simpa using h i hi
theorem qjV (s:ByteArray) (w:World) (hSt:Sty w):Calls prog 185 #[.slice (some ⟨6,0,none⟩) 4 4,.string s] w (qh (.int .i64 (styI (vY s))) w):=by
 have HA:Hid (∀ j,j<4->(∀ i,i<j->vP i≠s)->vP j=s->vY s=some j):=Lh fun j h1 h2 h3=>sty_at h1 h2 h3
 have HO:Hid ((∀ i,i<4->vP i≠s)->vY s=none):=Lh sty_out
 have HC:Hid (∀ (j:Nat) (w':World),j<4->Below w.heap.size w w'->w'.cell? ⟨6,j,none⟩=some (.string (vP j))):=Lh fun j w' hj hw=>hSt.below hw (Nat.le_refl _) j hj
 generalize vY s=R at *
 clear hSt
 go_enter func185,ntmps185
 go_wp2
 go_loopw [8] (fun x wr=>∃ j:Nat,j<=4/\x = .int .i64 j/\Below w.heap.size w wr/\Hid (∀ i,i<j->vP i≠s)) (fun x _=>4-(intOf x).toNat)
 case atStart=>exact ⟨0,Nat.zero_le _,rfl,Below.refl _ _,Lh fun i hi=>absurd hi (Nat.not_lt_zero i)⟩
 case round =>
  obtain ⟨j,hj,rfl,hbel,HI⟩:=hrel
  by_cases hlt:j<4
  ·have hc:=HC.out j wr hlt hbel
   have hq:=jO s (vP j)
   have hj0:(j:Int)<4:=by omega
   by_cases he:vP j=s
   ·have hR:=Lh (HA.out j hlt HI.out he)
    rw [decide_eq_true he.symm] at hq
    clear HA HO HI HC he
    generalize vP j=sj at *
    go_wp2
    go_ret
    exact ⟨by rw [hR.out];rfl,hbel⟩
   ·rw [decide_eq_false fun e=>he e.symm] at hq
    have HI2:Hid (∀ i,i<j+1->vP i≠s):=Lh fun i hi=>by
     rcases Nat.lt_or_ge i j with h | h
     ·exact HI.out i h
     ·obtain rfl:i=j:=by omega
      exact he
    clear HA HO HI HC he
    generalize vP j=sj at *
    go_wp2
    exact ⟨⟨j+1,by omega,by go_num,hbel,HI2⟩,by simp [intOf];omega⟩
  ·obtain rfl:j=4:=by omega
   have hR:=Lh (HO.out HI.out)
   clear HA HO HI HC
   go_wp2
   go_ret
   exact ⟨by rw [hR.out];rfl,hbel⟩
theorem styled_ (p:Prs) (g nb:Nat) (w:World) (hSt:Sty w) (h:PaS w g nb p):Calls prog 171 #[.pointer (some ⟨g,0,none⟩)] w (PaR g nb p (zP p) w):=by
 have hgl:=h.lt
 have hzz:w.heap.size<=w.heap.size:=Nat.le_refl _
 have HPS:Hid (∀ x:Near w.heap.size w,PaS x.w g nb p):=Lh fun x=>h.below x.h
 have HN:Hid (∀ x:Near w.heap.size w,Calls prog 186 #[.pointer (some ⟨g,0,none⟩)] x.w (qh (.string (p.words.headD ⟨#[]⟩)) x.w)):=Lh fun x=>next_ p g nb x.w (h.below x.h)
 have HIx:Hid (∀ x:Near w.heap.size w,Calls prog 185 #[.slice (some ⟨6,0,none⟩) 4 4,.string (p.words.headD ⟨#[]⟩)] x.w (qh (.int .i64 (styI (vY (p.words.headD ⟨#[]⟩)))) x.w)):=Lh fun x=>qjV _ x.w (hSt.below x.h (Nat.le_refl _))
 have qj:=qct (a:=p.words.headD ⟨#[]⟩) (b:=zO) (l:=[106,111,105,110,101,100]) rfl
 clear hSt
 cases hw:p.words with
 | nil =>
  have e0:zP p=none:=by unfold zP;rw [hw]
  rw [e0]
  rw [hw] at HN HIx qj
  rw [show styI (vY (([]:List ByteArray).headD ⟨#[]⟩)) = -1 by decide +kernel] at HIx
  rw [show decide (([]:List ByteArray).headD ⟨#[]⟩=zO)=false by decide +kernel] at qj
  clear e0 hw h
  generalize ([]:List ByteArray).headD ⟨#[]⟩=nx at *
  go_enter func171,ntmps171
  go_upto_region 1 with fail
  refine qc w.heap.size (by kernel_rfl) (by kernel_rfl) ?_;(repeat (go_big_quiet_step ((first | (go_at_call 186;exact Calls.near _ hzz (HN.out _)) | (go_at_call 185;exact Calls.near _ hzz (HIx.out _))))));refine wpQuiet_nil ?_;intro _ hw';obtain ⟨x1,hw''⟩:=hw';subst hw''
  go_wp2_with (go_at_call 186;refine (HN.out x1).mono ?_;rintro e w2 ⟨rfl,hb2⟩)
  go_ret
  have hb:=x1.h.trans (hb2.mono x1.h.size)
  exact ⟨hb.mono (Nat.le_of_lt hgl),rfl,(HPS.out x1).below hb2,hb⟩
 | cons a t =>
  have hwl:1<=p.words.length:=by rw [hw];simp
  have hd1:p.words.drop 1=t:=by rw [hw];rfl
  rw [hw,List.headD_cons] at HN HIx qj
  have HTk:Hid (∀ (st:Int) w' (hp:PaS w' g nb ⟨p.words,p.out,st,false⟩) (hb:Below g w w'),Calls prog 187 #[.pointer (some ⟨g,0,none⟩),.int .i64 1] w' fun e w''=>e = .returned (.tuple #[])/\PaS w'' g nb ⟨t,p.out,st,false⟩/\Below g w w''):=Lh fun st w' hp hb=>by
   have:=qaZ hp 1 hwl hb
   rw [show (⟨p.words,p.out,st,false⟩:Prs).words=p.words from rfl,hd1] at this
   exact this
  cases hsi:vY a with
  | some i =>
   have e0:zP p=some ⟨t,p.out,(i:Nat),false⟩:=by unfold zP;rw [hw];simp only;rw [hsi]
   rw [e0]
   rw [hsi] at HIx
   simp only [styI] at HIx
   have i1 : ¬ ((i:Int)<0):=by omega
   have i2:(0:Int)<=i:=by omega
   clear e0 hw hwl hd1 hsi qj
   generalize (i:Int)=I at *
   go_enter func171,ntmps171
   go_upto_region 1 with fail
   refine qc w.heap.size (by kernel_rfl) (by kernel_rfl) ?_;(repeat (go_big_quiet_step ((first | (go_at_call 186;exact Calls.near _ hzz (HN.out _)) | (go_at_call 185;exact Calls.near _ hzz (HIx.out _))))));refine wpQuiet_nil ?_;intro _ hw';obtain ⟨x1,hw''⟩:=hw';subst hw''
   have hp1:=HPS.out x1
   have hb1:=x1.h
   have hgx:=hp1.lt
   obtain ⟨A,n,c,A2,c2,h1,h2,h3,h4,h5⟩:=hp1
   have C3:=h3.cell 3
   have F3:=h3.frozen 3
   have C4:=h3.cell 4
   have F4:=h3.frozen 4
   simp only [jh,La,Lb,Lc] at C3 C4
   have hS:PaS ((x1.w.setCell ⟨g,3,none⟩ (.int .i64 I)).setCell ⟨g,4,none⟩ (.bool false)) g nb ⟨p.words,p.out,I,false⟩ :=
    ⟨A,n,c,A2,c2,h1,h2,by have:=(h3.set_ 3 (.int .i64 I)).set_ 4 (.bool false);simpa [jh] using this,(h4.below ((Below.refl g x1.w).setCell (Nat.le_refl g) _)).below ((Below.refl g _).setCell (Nat.le_refl g) _),zZ (zZ h5 (Nat.lt_succ_self g) _) (Nat.lt_succ_self g) _⟩
   have hB:Below g w ((x1.w.setCell ⟨g,3,none⟩ (.int .i64 I)).setCell ⟨g,4,none⟩ (.bool false)):=((hb1.mono (Nat.le_of_lt hgl)).setCell (Nat.le_refl g) _).setCell (Nat.le_refl g) _
   clear h1 h2 h3 h4 h5
   go_upto_region 7 with fail
   refine qa (fun X=>PaS X g nb ⟨p.words,p.out,I,false⟩/\Below g w X) ⟨hS,hB⟩ ?_
   clear hS hB C3 C4 F3 F4
   rintro X ⟨hS,hB⟩
   go_wp2_with (go_at_call 187;refine (HTk.out _ X hS hB).mono ?_;rintro e w3 ⟨rfl,hp3,hb3⟩)
   go_ret
   exact ⟨hb3,rfl,hp3⟩
  | none =>
   rw [hsi] at HIx
   simp only [styI] at HIx
   by_cases hj:a=zO
   ·have e0:zP p=some ⟨t,p.out,p.style,false⟩:=by unfold zP;rw [hw];simp only;rw [hsi];exact if_pos hj
    rw [e0]
    rw [decide_eq_true hj] at qj
    clear e0 hw hwl hd1 hsi hj
    go_enter func171,ntmps171
    go_upto_region 1 with fail
    refine qc w.heap.size (by kernel_rfl) (by kernel_rfl) ?_;(repeat (go_big_quiet_step ((first | (go_at_call 186;exact Calls.near _ hzz (HN.out _)) | (go_at_call 185;exact Calls.near _ hzz (HIx.out _))))));refine wpQuiet_nil ?_;intro _ hw';obtain ⟨x1,hw''⟩:=hw';subst hw''
    go_upto_region 6 with (go_at_call 186;refine (HN.out x1).mono ?_;rintro e w2 ⟨rfl,hb2⟩)
    have hb1:=x1.h.trans (hb2.mono x1.h.size)
    have hp1:=(HPS.out x1).below hb2
    have hgx:=hp1.lt
    obtain ⟨A,n,c,A2,c2,h1,h2,h3,h4,h5⟩:=hp1
    have C4:=h3.cell 4
    have F4:=h3.frozen 4
    simp only [jh,La,Lb,Lc] at C4
    have hS:PaS (w2.setCell ⟨g,4,none⟩ (.bool false)) g nb ⟨p.words,p.out,p.style,false⟩ :=
     ⟨A,n,c,A2,c2,h1,h2,by have:=h3.set_ 4 (.bool false);simpa [jh] using this,h4.below ((Below.refl g w2).setCell (Nat.le_refl g) _),zZ h5 (Nat.lt_succ_self g) _⟩
    have hB:Below g w (w2.setCell ⟨g,4,none⟩ (.bool false)):=(hb1.mono (Nat.le_of_lt hgl)).setCell (Nat.le_refl g) _
    clear h1 h2 h3 h4 h5
    go_upto_region 7 with fail
    refine qa (fun X=>PaS X g nb ⟨p.words,p.out,p.style,false⟩/\Below g w X) ⟨hS,hB⟩ ?_
    clear hS hB C4 F4
    rintro X ⟨hS,hB⟩
    go_wp2_with (go_at_call 187;refine (HTk.out _ X hS hB).mono ?_;rintro e w3 ⟨rfl,hp3,hb3⟩)
    go_ret
    exact ⟨hb3,rfl,hp3⟩
   ·have e0:zP p=none:=by unfold zP;rw [hw];simp only;rw [hsi];exact if_neg hj
    rw [e0]
    rw [decide_eq_false hj] at qj
    clear e0 hw hwl hd1 hsi hj HTk
    go_enter func171,ntmps171
    go_upto_region 1 with fail
    refine qc w.heap.size (by kernel_rfl) (by kernel_rfl) ?_;(repeat (go_big_quiet_step ((first | (go_at_call 186;exact Calls.near _ hzz (HN.out _)) | (go_at_call 185;exact Calls.near _ hzz (HIx.out _))))));refine wpQuiet_nil ?_;intro _ hw';obtain ⟨x1,hw''⟩:=hw';subst hw''
    go_wp2_with (go_at_call 186;refine (HN.out x1).mono ?_;rintro e w2 ⟨rfl,hb2⟩)
    go_ret
    have hb:=x1.h.trans (hb2.mono x1.h.size)
    exact ⟨hb.mono (Nat.le_of_lt hgl),rfl,(HPS.out x1).below hb2,hb⟩
def chwV:Option (Int × Nat)->Value
 | some (r,n)=>.tuple #[.int .i32 r,.int .i64 n]
 | none=>.tuple #[.int .i32 0,.int .i64 0]
theorem qaH (l:List ByteArray) (A:Option Addr) (n c:Nat) (w:World) (hn:l.length=n) (hc:n<=c) (hm:c<=maxLen) (rd:Rd w w.heap.size 1 A n (sv l)) (hsz : ∀ x∈l,x.size<=maxLen) (hs:Sp w) :
  Calls prog 191 #[.slice A n c] w (qh (chwV (vi l)) w):=by
 cases l with
 | nil =>
  obtain rfl:n=0:=by simpa using hn.symm
  have HU:=Lh (qgt A c w)
  simp only [unsV] at HU
  clear rd hs hsz
  go_enter func191,ntmps191
  go_wp2_with (go_at_call 202;refine HU.out.mono ?_;rintro e w1 ⟨rfl,hb1⟩)
  go_ret2
  exact ⟨rfl,hb1⟩
 | cons a t =>
  have hn1:0<n:=by rw [<- hn];simp
  obtain ⟨b,o,rfl,hb,hca⟩:=rd.at_ hn1
  have ha:w.cell? ⟨b,o,none⟩=some (.string a):=hca
  have q1:=qct (a:=a) (b:=yB) (l:=[115,112,97,99,101]) rfl
  have HU:=Lh (qfi a t b o n c w (by simpa using hn) hc hm rd hsz hs)
  have hi:(0:Int)<n:=by omega
  by_cases hsp:a=yB
  ·rw [decide_eq_true hsp] at q1
   rw [vi,if_pos hsp]
   clear rd hs hsz hca hsp hn hm HU
   go_enter func191,ntmps191
   go_wp2
   go_ret2
   exact ⟨rfl,Below.refl _ _⟩
  ·rw [decide_eq_false hsp] at q1
   rw [vi,if_neg hsp]
   clear rd hs hsz hca hsp hn hm
   cases hu:zM (a::t) with
   | none =>
    rw [hu] at HU
    simp only [unsV] at HU
    clear hu
    go_enter func191,ntmps191
    go_wp2_with (go_at_call 202;refine HU.out.mono ?_;rintro e w1 ⟨rfl,hb1⟩)
    go_ret2
    exact ⟨rfl,hb1⟩
   | some x =>
    obtain ⟨r,k⟩:=x
    rw [hu] at HU
    simp only [unsV] at HU
    clear hu
    go_enter func191,ntmps191
    go_wp2_with (go_at_call 202;refine HU.out.mono ?_;rintro e w1 ⟨rfl,hb1⟩)
    go_ret2
    exact ⟨rfl,hb1⟩
theorem own_cell {w:World} {base size n c G i:Nat} {e:TypeId} {xs:List Value} (h:w.ownsRow base e size (.slice (some ⟨G,0,none⟩) n c) n xs) (hi:i<n * size) (u:Value) :
  (w.setCell ⟨G,i,none⟩ u).ownsRow base e size (.slice (some ⟨G,0,none⟩) n c) n (xs.set i u):=by
 refine ⟨by rw [List.length_set];exact h.1,?_⟩
 rcases h.2 with ⟨h0,_⟩ | ⟨g,cap,cur,hv,h1,h2,h3,h4,h5,h6⟩
 ·cases h0
 ·simp only [Value.slice.injEq,Option.some.injEq,Addr.mk.injEq,and_true,true_and] at hv
  obtain ⟨rfl,rfl⟩:=hv
  refine .inr ⟨G,c,cur.setIfInBounds i u,rfl,h1,?_,h3,h4,by simpa using h5,?_⟩
  ·have hb:Blk w G e cur:=h2
   exact hb.set_ i u
  ·rw [Array.toList_setIfInBounds,List.take_set,h6]
theorem qdT : ∀ (O:List Gl) (k:Nat) (h:k<O.length) (s:ByteArray),(qi O).set (k * 3) (.string s)=qi (O.set k ⟨s,O[k].wide,O[k].style⟩)
 | [],k,h,_=>by cases h
 | x::O,0,_,s=>by
  rw [jf,List.set_cons_zero,jf]
  rfl
 | x::O,k+1,h,s=>by
  have hk:k<O.length:=by simpa using h
  rw [jf,List.set_append_right _ _ (by rw [yU];omega),yU,show (k+1) * 3-3=k * 3 by omega,qdT O k hk s,List.set_cons_succ,jf]
  rfl
theorem set_last {O:List Gl} (k:Nat) (h:k+1=O.length) (x:Gl):O.set k x=O.dropLast++[x]:=by
 have hne:O≠[]:=by rintro rfl;cases h
 obtain ⟨D,y,rfl⟩ : ∃ D y,O=D++[y]:=⟨_,_,(List.dropLast_concat_getLast hne).symm⟩
 rw [List.length_append,List.length_singleton] at h
 rw [List.dropLast_concat,List.set_append_right _ _ (by omega),show k-D.length=0 by omega]
 rfl
theorem own_blk {w:World} {base size n c G:Nat} {e:TypeId} {xs:List Value} (h:w.ownsRow base e size (.slice (some ⟨G,0,none⟩) n c) n xs):base<=G/\n<=c/\c<=maxLen/\∃ cur,Blk w G e cur:=by
 rcases h.2 with ⟨h0,_⟩ | ⟨g,cap,cur,hv,h1,h2,h3,h4,h5,h6⟩
 ·cases h0
 ·simp only [Value.slice.injEq,Option.some.injEq,Addr.mk.injEq,and_true,true_and] at hv
  obtain ⟨rfl,rfl⟩:=hv
  exact ⟨h1,h3,h4,cur,h2⟩
theorem addL_neg {O:List Gl} {st r:Int} {n:Nat} (h:zR r<0):vV O st r n=(false,O):=if_pos h
theorem qjE {O:List Gl} {st r:Int} {n:Nat} (h:zR r=0) (hn:1<n):vV O st r n=(false,O):=by
 unfold vV
 rw [if_neg (by omega),if_pos h,if_pos hn]
theorem qiO {st r:Int} {n:Nat} (h:zR r=0):vV [] st r n=(false,[]):=by
 unfold vV
 rw [if_neg (by omega),if_pos h]
 split <;> rfl
theorem qjh {O:List Gl} {st r:Int} {n:Nat} (h:zR r=0) (hn : ¬ 1<n) (k:Nat) (hk:k+1=O.length):vV O st r n=((ye (O[k]'(by omega)).text r).2==0,O.set k ⟨(ye (O[k]'(by omega)).text r).1,(O[k]'(by omega)).wide,(O[k]'(by omega)).style⟩):=by
 unfold vV
 rw [if_neg (by omega),if_pos h,if_neg hn]
 have hl:O.getLast? = some (O[k]'(by omega)):=by
  rw [List.getLast?_eq_getElem?,show O.length-1=k by omega,List.getElem?_eq_getElem]
 rw [hl]
 simp only
 rw [set_last k hk]
theorem qjZ {O:List Gl} {st:Int} {r n:Nat} (h:1<=zR (r:Int)):vV O st (r:Int) n=(true,O++List.replicate n ⟨kt r,decide (zR (r:Int)=2),st⟩):=by
 unfold vV
 rw [if_neg (by omega),if_neg (by omega),Int.toNat_natCast]
def Apt (w:World) (g:Nat) (w':World):Prop:=∀ F i:Nat,F≠g->F<w.heap.size->(∀ b o s n c,w.cell? ⟨g,2,none⟩=some (.slice (some ⟨b,o,s⟩) n c)->b≠F)->w'.cell? ⟨F,i,none⟩=w.cell? ⟨F,i,none⟩
theorem Apt.of_below {w w':World} {g:Nat} (h:Below w.heap.size w w'):Apt w g w':=fun _ _ _ hF _=>h.cell hF
theorem Kp.apt {w X:World} {g:Nat} (h:Kp w g X):Apt w g X:=fun F i hF hl _=>h.2.2 F i hF hl
theorem add_ (p:Prs) (r:Nat) (hr:qR r) (times:Nat) (ht:times<=132) (ho:p.out.length<=1000000000) (hot : ∀ x∈p.out,x.text.size<=4000000) (g nb:Nat) (w:World) (h:PaS w g nb p) (hu : ∀ w',Below g w w'->U8 w') :
  Calls prog 192 #[.pointer (some ⟨g,0,none⟩),.int .i32 (r:Int),.int .i64 times] w fun e w'=>e = .returned (.bool (vV p.out p.style (r:Int) times).1)/\PaS w' g nb ⟨p.words,(vV p.out p.style (r:Int) times).2,p.style,false⟩/\Below g w w'/\((vV p.out p.style (r:Int) times).1=false->Apt w g w'):=by
 have hgl:=h.lt
 obtain ⟨A,n,c,A2,c2,h1,h2,h3,h4,h5⟩:=h
 obtain ⟨W,O,st,J⟩:=p
 dsimp only at *
 have HF:Hid (∀ O' w',PaT w g nb (.slice A n c) st false O' w'->PaS w' g nb ⟨W,O',st,false⟩/\Below g w w'):=Lh fun O' w' ⟨A',c',a1,a2,a3⟩ =>
  ⟨⟨A,n,c,A',c',h1,h2,a1,h4.below a3,a2⟩,a3⟩
 generalize hv:Value.slice A n c=v at *
 have C4:=h3.cell 4
 have F4:=h3.frozen 4
 simp only [jh,La,Lb,Lc] at C4
 have hPX:PaT w g nb v st false O (w.setCell ⟨g,4,none⟩ (.bool false)):=⟨A2,c2,by have:=h3.set_ 4 (.bool false);simpa [jh] using this,zZ h5 (Nat.lt_succ_self g) _,(Below.refl g w).setCell (Nat.le_refl g) _⟩
 have hKX:Kp w g (w.setCell ⟨g,4,none⟩ (.bool false)):=⟨World.cell?_setCell_other _ _ _ _ (by intro e;injection e with _ e1;cases e1),((Below.refl g w).setCell (Nat.le_refl g) _).size,fun F i hF _=>World.cell?_setCell_other _ _ _ _ (by intro e;injection e with e1;exact hF e1.symm)⟩
 have HW:=Lh (qgZ (r:Int))
 have HU:=Lh hu
 clear h1 h2 h3 h4 h5 hv hu
 by_cases hw0:zR (r:Int)<0
 ·rw [addL_neg hw0]
  generalize zR (r:Int)=WL at *
  generalize (r:Int)=R at *
  go_enter func192,ntmps192
  go_upto_region 2 with fail
  refine qa (fun X=>PaT w g nb v st false O X/\Kp w g X) ⟨hPX,hKX⟩ ?_
  clear hPX hKX C4 F4
  rintro X ⟨hX,hK0⟩
  go_wp2_with (go_at_call 126;refine (HW.out X).mono ?_;rintro e w1 ⟨rfl,hb1⟩)
  go_ret
  have hH:=HF.out O w1 (hX.below hb1)
  exact ⟨rfl,hH.1,hH.2,fun _=>(hK0.below hb1 hgl).apt⟩
 ·by_cases hw1:zR (r:Int)=0
  ·by_cases hmany:1<times
   ·rw [qjE hw1 hmany]
    generalize zR (r:Int)=WL at *
    generalize (r:Int)=R at *
    have i1:(1:Int)<times:=by omega
    go_enter func192,ntmps192
    go_upto_region 2 with fail
    refine qa (fun X=>PaT w g nb v st false O X/\Kp w g X) ⟨hPX,hKX⟩ ?_
    clear hPX hKX C4 F4
    rintro X ⟨hX,hK0⟩
    subst hw1
    go_wp2_with (go_at_call 126;refine (HW.out X).mono ?_;rintro e w1 ⟨rfl,hb1⟩;have hX1:=hX.below hb1;obtain ⟨A3,c3,B3,_,_⟩:=id hX1;have C2:=B3.cell 2;simp only [jh,La,Lb,Lc] at C2)
    go_ret
    have hH:=HF.out O w1 hX1
    exact ⟨rfl,hH.1,hH.2,fun _=>(hK0.below hb1 hgl).apt⟩
   ·cases hO:O with
    | nil =>
     subst hO
     rw [qiO hw1]
     generalize zR (r:Int)=WL at *
     generalize (r:Int)=R at *
     have i1 : ¬ (1:Int)<times:=by omega
     go_enter func192,ntmps192
     go_upto_region 2 with fail
     refine qa (fun X=>PaT w g nb v st false [] X/\Kp w g X) ⟨hPX,hKX⟩ ?_
     clear hPX hKX C4 F4
     rintro X ⟨hX,hK0⟩
     subst hw1
     go_wp2_with (go_at_call 126;refine (HW.out X).mono ?_;rintro e w1 ⟨rfl,hb1⟩;have hX1:=hX.below hb1;obtain ⟨A3,c3,B3,_,_⟩:=id hX1;have C2:=B3.cell 2;simp only [jh,La,Lb,Lc,List.length_nil] at C2)
     go_ret
     have hH:=HF.out [] w1 hX1
     exact ⟨rfl,hH.1,hH.2,fun _=>(hK0.below hb1 hgl).apt⟩
    | cons x O' =>
     have hk : ∃ k,k+1=O.length:=⟨O'.length,by rw [hO];simp⟩
     rw [<- hO]
     clear hO
     obtain ⟨k,hk⟩:=hk
     rw [qjh hw1 hmany k hk]
     have htx:=hot (O[k]'(by omega)) (List.getElem_mem _)
     have hkl:k<O.length:=by omega
     have HCell:Hid (∀ (w':World) (A:Option Addr) (c:Nat),w'.ownsRow (g+1) 86 3 (.slice A O.length c) O.length (qi O)->∃ G,A=some ⟨G,0,none⟩/\w'.cell? ⟨G,k * 3,none⟩=some (.string (O[k]'hkl).text)):=Lh fun w' A c ho=>by
      obtain ⟨b,o,rfl,_,a0,_⟩:=jE (Rd.of_own ho) hkl rfl
      have hz:o=0:=by
       rcases ho.2 with ⟨h0,_⟩ | ⟨g',cap,cur,hv,_⟩
       ·cases h0
       ·simp only [Value.slice.injEq,Option.some.injEq,Addr.mk.injEq,and_true] at hv
        exact hv.1.2
      subst hz
      rw [Nat.zero_add] at a0
      exact ⟨b,rfl,a0⟩
     have HS:Hid (∀ s:ByteArray,qi (O.set k ⟨s,(O[k]'hkl).wide,(O[k]'hkl).style⟩)=(qi O).set (k * 3) (.string s)):=Lh fun s=>(qdT O k hkl s).symm
     have HAt:=Lh (fun w' hu=>attach_ (O[k]'hkl).text (Nat.le_trans htx (by decide)) r hr w' hu)
     have hk3:k * 3<O.length * 3:=by omega
     have hk9:k<=1000000000:=by omega
     have ew:wrap64 (k:Int)=(k:Int):=by unfold wrap64;omega
     generalize (O[k]'hkl)=x at *
     obtain ⟨tx,wd,sx⟩:=x
     dsimp only at *
     generalize ye tx (r:Int)=AT at *
     obtain ⟨S,E⟩:=AT
     simp only [attV] at HAt
     dsimp only
     have HK:=Lh hk
     have HK3:=Lh hk3
     have hnl:O.length=k+1:=hk.symm
     have HLs:Hid ((O.set k ⟨S,wd,sx⟩).length=O.length):=Lh List.length_set
     clear hot hkl htx ho hr hk hk3
     generalize zR (r:Int)=WL at *
     generalize (r:Int)=R at *
     have i1 : ¬ (1:Int)<times:=by omega
     go_enter func192,ntmps192
     go_upto_region 2 with fail
     refine qa (fun X=>PaT w g nb v st false O X/\Kp w g X) ⟨hPX,hKX⟩ ?_
     clear hPX hKX C4 F4
     rintro X ⟨hX,hK0⟩
     subst hw1
     go_upto_region 9 with (go_at_call 126;refine (HW.out X).mono ?_;rintro e w1 ⟨rfl,hb1⟩;obtain ⟨A3,c3,B3,o3,t3⟩:=hX.below hb1;obtain ⟨G,rfl,hcG⟩:=HCell.out _ _ _ o3;have C2:=B3.cell 2;simp only [jh,La,Lb,Lc] at C2;rw [hnl] at C2)
     have hk0:(0:Int)<=k:=by omega
     have hkn:(k:Int)<(k:Int)+1:=by omega
     go_wp2_with (go_at_call 203;refine (HAt.out w1 (HU.out w1 t3)).mono ?_;rintro e w2 ⟨rfl,hb2⟩;have hgl3:=B3.lt;have B4:=B3.below hb2 hgl3;have o4:=qb o3 hb2;have t4:=t3.trans (hb2.mono (Nat.le_of_lt hgl3));obtain ⟨hgG,_,_,cur,BG⟩:=own_blk o4;have FG:=BG.frozen (k * 3);obtain ⟨G',eG,hcG'⟩:=HCell.out _ _ _ o4;obtain rfl:G=G':=(by simpa using eG);have C2':=B4.cell 2;simp only [jh,La,Lb,Lc] at C2';rw [hnl] at C2')
     go_ret
     have hB5:Blk (w2.setCell ⟨G,k * 3,none⟩ (.string S)) g _ _:=Blk.far (p:=⟨G,k * 3,none⟩) B4 (by show g≠G;omega) _
     have o5:=own_cell o4 HK3.out (.string S)
     have t5:Below g w (w2.setCell ⟨G,k * 3,none⟩ (.string S)):=Below.setCell (p:=⟨G,k * 3,none⟩) t4 (by show g<=G;omega) _
     rw [<- HS.out] at o5
     have hH:=HF.out (O.set k ⟨S,wd,sx⟩) _ ⟨some ⟨G,0,none⟩,c3,by rw [HLs.out];exact hB5,by rw [HLs.out];exact o5,t5⟩
     have hK2:=(hK0.below hb1 hgl).below hb2 hgl
     refine ⟨rfl,hH.1,hH.2,fun _ F i hF hl hne=>?_⟩
     have hGF:G≠F:=hne G 0 none _ _ (hK2.1.symm.trans C2')
     exact (World.cell?_setCell_other _ _ _ _ (by intro e;injection e with e1;exact hGF e1)).trans (hK2.2.2 F i hF hl)
  ·have hw2:1<=zR (r:Int):=by omega
   rw [qjZ hw2]
   have HGl:Hid ((⟨kt r,decide (zR (r:Int)=2),st⟩:Gl)=⟨kt r,zR (r:Int)==2,st⟩):=Lh rfl
   rw [HGl.out]
   have HRn:Hid (∀ j,O++List.replicate (j+1) (⟨kt r,zR (r:Int)==2,st⟩:Gl)=(O++List.replicate j ⟨kt r,zR (r:Int)==2,st⟩)++[⟨kt r,zR (r:Int)==2,st⟩]):=Lh fun j=>by rw [List.replicate_succ',List.append_assoc]
   have HLn:Hid (∀ j,j<=times->(O++List.replicate j (⟨kt r,zR (r:Int)==2,st⟩:Gl)).length<=1000000132):=Lh fun j hj=>by rw [List.length_append,List.length_replicate];omega
   have HEnc:Hid (∀ wr:World,Calls prog 204 #[.slice (some ⟨wr.heap.size,0,none⟩) 1 1] (wr.alloc (.cells #[.int .i32 (r:Int)] 21)).drew (qh (.string (kt r)) (wr.alloc (.cells #[.int .i32 (r:Int)] 21)).drew)):=Lh fun wr =>
    qiC r hr _ 1 (wr.heap.size+1) _ (qeI wr r 21) (by show wr.heap.size+1<=(wr.alloc _).heap.size;simp)
   have hz0:(zR (r:Int)==0)=false:=beq_eq_false_iff_ne.2 hw1
   have hn0:decide (zR (r:Int)<0)=false:=decide_eq_false hw0
   clear hr hot hw2 HGl HU hw0 hw1
   generalize hWL:zR (r:Int)=WL at *
   generalize kt r=EB at *
   generalize hGL:(⟨EB,WL==2,st⟩:Gl)=GL at *
   replace hGL:=Lh hGL
   generalize (r:Int)=R at *
   clear hWL
   go_enter func192,ntmps192
   go_upto_region 2 with fail
   refine qa (PaT w g nb v st false O) hPX ?_
   clear hPX C4 F4
   intro X hX
   go_upto_region 12 with (go_at_call 126;refine (HW.out X).mono ?_;rintro e w1 ⟨rfl,hb1⟩;have hX1:=hX.below hb1)
   go_wp2
   go_loopw [56] (fun x wr=>∃ j:Nat,j<=times/\x = .int .i64 j/\PaT w g nb v st false (O++List.replicate j GL) wr) (fun x _=>times-(intOf x).toNat)
   case atStart=>exact ⟨0,Nat.zero_le _,rfl,by rw [List.replicate_zero,List.append_nil];exact hX1⟩
   case round =>
    clear hX hX1 hb1
    obtain ⟨j,hj,rfl,A6,c6,Bx,ox,tx⟩:=hrel
    by_cases hlt:j<times
    ·have hlen:=HLn.out j hj
     have HQl:Hid ((O++List.replicate (j+1) GL).length=(O++List.replicate j GL).length+1):=Lh (by rw [HRn.out j,List.length_append];rfl)
     have HQs:Hid (qi (O++List.replicate (j+1) GL)=qi (O++List.replicate j GL)++ym GL):=Lh (by rw [HRn.out j,kF,qbe])
     clear HRn HLn HF HW
     generalize O++List.replicate j GL=OJ at *
     have C2:=Bx.cell 2
     have C3:=Bx.cell 3
     simp only [jh,La,Lb,Lc] at C2 C3
     have HE:=Lh (HEnc.out wr)
     have o0:=qb (World.ownsRow.alloc ox (.cells #[.int .i32 R] 21)) (Below.refl _ _).drew
     have B0:=(Blk.alloc Bx (.cells #[.int .i32 R] 21)).drew
     have hgr:g<wr.heap.size:=Bx.lt
     have t0:Below g w (wr.alloc (.cells #[.int .i32 R] 21)).drew:=(tx.alloc (Nat.le_of_lt hgr) _).drew
     have hG:=hGL.out
     subst hG
     clear hGL
     go_upto_region 14 with fail
     go_region_law (first
      | (go_simp;go_at_call 204;refine HE.out.mono ?_;rintro e w5 ⟨rfl,hb5⟩;have B5:=B0.below hb5 B0.lt;have z5:g<w5.heap.size:=B5.lt;have o5:=qb o0 hb5;have t5:=t0.trans (hb5.mono (Nat.le_of_lt B0.lt));have c52:=B5.cell 2;have c53:=B5.cell 3;simp only [jh,La,Lb,Lc] at c52 c53)
      | (refine jZ rfl _ _ _ rfl qbz ((g+1)) _ rfl ((o5.alloc _)) _ _ rfl ((qe (xs:=ym ⟨EB,WL==2,st⟩) rfl rfl)) (rfl) (by omega) (by omega) (by first | (simp;done) | (simp;omega) | omega) ?_;intro A4 c4 w4 hown4 hbel4 hgr4 hat4;have z4:=hbel4.size;(try simp only [Nat.zero_add,List.nil_append] at hown4);have B4:=(Blk.alloc B5 (.cells (ym ⟨EB,WL==2,st⟩).toArray 86)).below hbel4 (Nat.lt_succ_self g);have c42:=B4.cell 2;have f42:=B4.frozen 2;simp only [jh,La,Lb,Lc] at c42))
     all_goals go_wp2
     all_goals exact ⟨⟨j+1,by omega,by go_num,PaT.put (Blk.alloc B5 _) (t5.alloc (Nat.le_of_lt B5.lt) _) hown4 hbel4 HQl.out HQs.out⟩,by simp [intOf];omega⟩
    ·obtain rfl:j=times:=by omega
     have HQ:=Lh (HF.out _ wr ⟨A6,c6,Bx,ox,tx⟩)
     clear HF
     go_wp2
     go_ret
     exact ⟨rfl,HQ.out.1,HQ.out.2,fun h=>by cases h⟩
theorem qfT {l:List ByteArray} {r:Int} {n:Nat} (h:vi l=some (r,n)) : ∃ m:Nat,r=(m:Int)/\qR m:=by
 have hc:zC r=true:=by
  cases l with
  | nil=>cases h
  | cons a t =>
   rw [vi] at h
   split at h
   ·injection h with h;injection h with h1 h;subst h1;decide
   ·exact (qaj h).1
 obtain ⟨a,b⟩:=kj hc
 refine ⟨r.toNat,by omega,?_⟩
 have:=(jV r).1 hc
 unfold ks at this
 unfold qR
 omega
theorem qeG {l:List ByteArray} {r:Int} {n:Nat} (h:vi l=some (r,n)):0<n/\n<=l.length:=by
 cases l with
 | nil=>cases h
 | cons a t =>
  rw [vi] at h
  split at h
  ·injection h with h;injection h with h1 h;subst h;exact ⟨by omega,by simp⟩
  ·obtain ⟨_,b,c,_⟩:=qaj h
   exact ⟨b,c⟩
def PaR2 (g nb:Nat) (p:Prs) (o:Option Prs) (w:World) (e:Ending) (w':World):Prop :=
 Below g w w'/\match o with
 | some q=>e = .returned (.bool true)/\PaS w' g nb q
 | none=>e = .returned (.bool false)/\∃ q:Prs,q.words=p.words/\PaS w' g nb q/\(vi p.words=none->q=p)/\Apt w g w'
theorem sign_ (E:World) (p:Prs) (g nb:Nat) (w:World) (hE:PaE E g nb) (hEw:Below g E w) (h:PaS w g nb p) (hk:PaK p):Calls prog 174 #[.pointer (some ⟨g,0,none⟩)] w (PaR2 g nb p (ko p) w):=by
 have hgl:=h.lt
 have HPS:=Lh h
 have hb0:Below w.heap.size w w:=Below.refl _ _
 have hlen:=hk.len
 have hout:p.out.length<=1000000000:=by have h:=hk.2.1;omega
 have hot : ∀ x∈p.out,x.text.size<=4000000:=fun x hx=>by have:=hk.2.2 x hx;omega
 have HAdd:Hid (∀ (r:Nat) (times:Nat),qR r->times<=132->∀ w',Below w.heap.size w w'->Calls prog 192 #[.pointer (some ⟨g,0,none⟩),.int .i32 (r:Int),.int .i64 times] w' fun e w''=>e = .returned (.bool (vV p.out p.style (r:Int) times).1)/\PaS w'' g nb ⟨p.words,(vV p.out p.style (r:Int) times).2,p.style,false⟩/\Below g w w''/\((vV p.out p.style (r:Int) times).1=false->Apt w g w'')):=Lh fun r times hr ht w' hw =>
  (add_ p r hr times ht hout hot g nb w' (h.below hw) fun w'' hb=>hE.u8 ((hEw.trans (hw.mono (Nat.le_of_lt hgl))).trans hb)).mono fun e w'' ⟨h1,h2,h3,h4⟩=>⟨h1,h2,(hw.mono (Nat.le_of_lt hgl)).trans h3,fun hf F i hF hl hne=>(h4 hf F i hF (Nat.lt_of_lt_of_le hl hw.size) fun b o s n c hc=>hne b o s n c ((hw.cell (show g<_ from hgl)).symm.trans hc)).trans (hw.cell hl)⟩
 have hs:=hE.sp hEw
 obtain ⟨A,n,c,A2,c2,h1,h2,h3,h4,h5⟩:=h
 have C1:=h3.cell 1
 simp only [jh,La,Lb,Lc] at C1
 have hn:p.words.length=n:=by have:=h4.1;simp [sv] at this;omega
 have HCh:Hid (∀ w',Below w.heap.size w w'->Calls prog 191 #[.slice A n c] w' fun e w''=>e = .returned (chwV (vi p.words))/\Below w.heap.size w w''):=Lh fun w' hw =>
  (qaH p.words A n c w' hn h1 h2 ((h4.below (hw.mono (Nat.le_of_lt hgl))).more (by have:=hw.size;omega)) hk.sz (hs.below hw (Nat.le_refl _))).mono fun e w'' ⟨h1,h2⟩=>⟨h1,hw.trans (h2.mono hw.size)⟩
 cases hcw:vi p.words with
 | none =>
  have e0:ko p=none:=by unfold ko;rw [hcw]
  rw [e0]
  rw [hcw] at HCh
  simp only [chwV] at HCh
  clear h2 h3 h4 h5 hn hk hlen e0 hs hot hout HAdd
  replace hcw:=Lh hcw
  go_enter func174,ntmps174
  go_wp2_with (go_at_call 191;refine (HCh.out _ (by assumption)).mono ?_;rintro e w1 ⟨rfl,hb1⟩)
  go_ret
  exact ⟨hb1.mono (Nat.le_of_lt hgl),rfl,p,rfl,HPS.out.below hb1,fun _=>rfl,Apt.of_below hb1⟩
 | some x =>
  obtain ⟨r,k⟩:=x
  obtain ⟨m,rfl,hm⟩:=qfT hcw
  obtain ⟨hk0,hkl⟩:=qeG hcw
  have HAd:=Lh (HAdd.out m 1 hm (by omega))
  have e0:ko p=if (vV p.out p.style (m:Int) 1).1=true then some ⟨p.words.drop k,(vV p.out p.style (m:Int) 1).2,p.style,false⟩ else none:=by unfold ko;rw [hcw]
  rw [e0]
  rw [hcw] at HCh
  simp only [chwV] at HCh
  have hcw':vi p.words≠none:=by rw [hcw];simp
  have HTk:=Lh (fun w' (hp:PaS w' g nb ⟨p.words,(vV p.out p.style (m:Int) 1).2,p.style,false⟩) (hb:Below g w w')=>qaZ hp k hkl hb)
  have ek:((k:Int)==0)=false:=beq_eq_false_iff_ne.2 (by omega)
  generalize vV p.out p.style (m:Int) 1=AL at *
  obtain ⟨ok,O'⟩:=AL
  dsimp only at *
  clear h2 h3 h4 h5 hn hk hlen e0 hs hot hout HAdd hcw hk0 hkl hm
  generalize (k:Int)=K at *
  generalize (m:Int)=M at *
  replace hcw':=Lh hcw'
  cases ok with
  | false =>
   rw [if_neg (by simp)]
   go_enter func174,ntmps174
   go_wp2_with (first | (go_at_call 191;refine (HCh.out _ (by assumption)).mono ?_;rintro e w1 ⟨rfl,hb1⟩) | (go_at_call 192;refine (HAd.out _ (by assumption)).mono ?_;rintro e w2 ⟨rfl,hp2,hb2,hap2⟩) | (go_at_call 187;refine (HTk.out _ hp2 hb2).mono ?_;rintro e w3 ⟨rfl,hp3,hb3⟩))
   go_ret
   exact ⟨hb2,rfl,⟨p.words,O',p.style,false⟩,rfl,hp2,fun h=>absurd h hcw'.out,hap2 (by first | trivial | rfl)⟩
  | true =>
   rw [if_pos rfl]
   go_enter func174,ntmps174
   go_wp2_with (first | (go_at_call 191;refine (HCh.out _ (by assumption)).mono ?_;rintro e w1 ⟨rfl,hb1⟩) | (go_at_call 192;refine (HAd.out _ (by assumption)).mono ?_;rintro e w2 ⟨rfl,hp2,hb2,hap2⟩) | (go_at_call 187;refine (HTk.out _ hp2 hb2).mono ?_;rintro e w3 ⟨rfl,hp3,hb3⟩))
   go_ret
   exact ⟨hb3,rfl,hp3⟩
def PaR3 (g nb:Nat) (p:Prs) (o:Option Prs) (w:World) (e:Ending) (w':World):Prop :=
 Below g w w'/\match o with
 | some q=>e = .returned (.bool true)/\PaS w' g nb q
 | none=>e = .returned (.bool false)/\∃ q:Prs,q.words=p.words/\PaS w' g nb q
def szV:Value->Nat
 | .string s=>s.size
 | _=>0
theorem DecI.step {N m:Nat} {S:ByteArray} (h:DecI N m S) (hc:0<m∨S.size=0):DecI N (m / 10) (⟨#[UInt8.ofNat (48+m % 10)]⟩++S):=by
 have hb:(⟨#[UInt8.ofNat (48+m % 10)]⟩++S:ByteArray).data.toList=UInt8.ofNat (48+m % 10)::S.data.toList:=by
  rw [ByteArray.data_append,Array.toList_append]
  rfl
 refine .inr ⟨by rw [ByteArray.size_append];show 1+S.size≠0;omega,?_⟩
 rw [hb]
 have key:(if m / 10=0 then [] else kA (m / 10))++UInt8.ofNat (48+m % 10)::S.data.toList=kA m++S.data.toList:=by
  by_cases h10:m<10
  ·rw [if_pos (by omega),kA,dif_pos h10,Nat.mod_eq_of_lt h10]
   rfl
  ·conv=>rhs;rw [kA]
   rw [dif_neg h10,if_neg (by omega)]
   simp
 rw [key]
 rcases h with ⟨h1,rfl⟩ | ⟨h1,h2⟩
 ·have:S.data.toList=[]:=List.length_eq_zero_iff.1 (by simpa using h1)
  rw [this,List.append_nil]
 ·rw [if_neg (by omega)] at h2
  exact h2
theorem qdf (m:Nat):Utf8.encode (48+((m % 10:Nat):Int))=⟨#[UInt8.ofNat (48+m % 10)]⟩:=qif (m % 10) (by omega)
theorem qcW {S:ByteArray} (h:S.size=0):S.toList.isEmpty=true:=by
 have:S.data.toList=[]:=List.length_eq_zero_iff.1 (by simpa using h)
 rw [ByteArray.toList_eq,this]
 rfl
theorem qgJ (m:Nat) (S:ByteArray) (hc:0<m∨S.size=0):2 * (m / 10)+(if (Utf8.encode (48+((m % 10:Nat):Int))++S).size=0 then 1 else 0)<2 * m+(if S.size=0 then 1 else 0):=by
 have h1:(Utf8.encode (48+((m % 10:Nat):Int))++S).size≠0:=by
  rw [qdf,ByteArray.size_append,show (⟨#[UInt8.ofNat (48+m % 10)]⟩:ByteArray).size=1 from rfl]
  omega
 rw [if_neg h1]
 by_cases hs:S.size=0
 ·rw [if_pos hs];omega
 ·rw [if_neg hs]
  have:=hc.resolve_right hs
  omega
theorem qii (m:Nat):(m:Int).tmod 10=((m % 10:Nat):Int):=by rw [Int.tmod_eq_emod_of_nonneg (by omega)];omega
theorem qib (m:Nat):(m:Int).tdiv 10=((m / 10:Nat):Int):=by rw [Int.tdiv_eq_ediv_of_nonneg (by omega)];omega
theorem enc_sz (m:Nat):(Utf8.encode (48+((m % 10:Nat):Int))).size<=4:=by rw [qdf];exact (by decide:1<=4)
theorem qcc (m:Nat) (hm:m<=999999999):wrap64 (m:Int)=m:=by unfold wrap64;omega
end Go.Proofs.YticbpkghcglgkaaGreatDoor
namespace Go.Proofs.YticbpkghcglgkaaGreatDoor
open Go.Proofs.Tryz Go.RowKit
set_option maxRecDepth 20000
theorem qeQ (p:Prs) (g nb:Nat) (w:World) (h:PaS w g nb p) (hsz : ∀ s∈p.words,s.size<=maxLen) (hlen:p.words.length<=500000) (hp:zi p.words=none):Calls prog 175 #[.pointer (some ⟨g,0,none⟩)] w fun e w'=>Below g w w'/\e = .returned (.bool false)/\PaS w' g nb p:=by
 have hgl:=h.lt
 have HPS:=Lh h
 have hb0:Below w.heap.size w w:=Below.refl _ _
 obtain ⟨A,n,c,A2,c2,h1,h2,h3,h4,h5⟩:=h
 have C1:=h3.cell 1
 simp only [jh,La,Lb,Lc] at C1
 have hn:p.words.length=n:=by have:=h4.1;simp [sv] at this;omega
 have HC1:Hid (∀ w',Below w.heap.size w w'->w'.cell? ⟨g,1,none⟩=some (.slice A n c)):=Lh fun w' hw=>(hw.cell (show g<_ from hgl)).trans C1
 have HPr:Hid (∀ w',Below w.heap.size w w'->Calls prog 107 #[.slice A n c] w' fun e w''=>e = .returned (ve (zi p.words))/\Below w.heap.size w w''):=Lh fun w' hw =>
  (kx p.words A n c w' hn h1 h2 ((h4.below (hw.mono (Nat.le_of_lt hgl))).more (by have:=hw.size;omega)) hsz).mono fun e w'' ⟨h1,h2⟩=>⟨h1,hw.trans (h2.mono hw.size)⟩
 rw [hp] at HPr
 simp only [ve] at HPr
 clear hp h2 h3 h4 h5 hn hlen hsz
 go_enter func175,ntmps175
 go_wp2_with (go_at_call 107;refine (HPr.out _ (by assumption)).mono ?_;rintro e w1 ⟨rfl,hb1⟩;have C1':=HC1.out _ hb1)
 go_ret
 exact ⟨hb1.mono (Nat.le_of_lt hgl),rfl,HPS.out.below hb1⟩
theorem qg9 (E:World) (p:Prs) (g nb:Nat) (w:World) (hE:PaE E g nb) (hEw:Below g E w) (h:PaS w g nb p) (hk:PaK p) (nn:Int) (k:Nat) (hp:zi p.words=some (nn,k)) (hneg:nn<0):Calls prog 175 #[.pointer (some ⟨g,0,none⟩)] w (PaR3 g nb p (kD p) w):=by
 have hgl:=h.lt
 have HPS:=Lh h
 have hb0:Below w.heap.size w w:=Below.refl _ _
 have hlen:=hk.len
 have hout:p.out.length<=1000000000:=by have h:=hk.2.1;omega
 have hot : ∀ x∈p.out,x.text.size<=4000000:=fun x hx=>by have:=hk.2.2 x hx;omega
 have HAdd:Hid (∀ (r:Nat) (times:Nat),qR r->times<=132->∀ w',Below w.heap.size w w'->Calls prog 192 #[.pointer (some ⟨g,0,none⟩),.int .i32 (r:Int),.int .i64 times] w' fun e w''=>e = .returned (.bool (vV p.out p.style (r:Int) times).1)/\PaS w'' g nb ⟨p.words,(vV p.out p.style (r:Int) times).2,p.style,false⟩/\Below g w w''):=Lh fun r times hr ht w' hw =>
  (add_ p r hr times ht hout hot g nb w' (h.below hw) fun w'' hb=>hE.u8 ((hEw.trans (hw.mono (Nat.le_of_lt hgl))).trans hb)).mono fun e w'' ⟨h1,h2,h3,_⟩=>⟨h1,h2,(hw.mono (Nat.le_of_lt hgl)).trans h3⟩
 have hs:=hE.sp hEw
 obtain ⟨A,n,c,A2,c2,h1,h2,h3,h4,h5⟩:=h
 have C1:=h3.cell 1
 simp only [jh,La,Lb,Lc] at C1
 have hn:p.words.length=n:=by have:=h4.1;simp [sv] at this;omega
 have HC1:Hid (∀ w',Below w.heap.size w w'->w'.cell? ⟨g,1,none⟩=some (.slice A n c)):=Lh fun w' hw=>(hw.cell (show g<_ from hgl)).trans C1
 have HPr:Hid (∀ w',Below w.heap.size w w'->Calls prog 107 #[.slice A n c] w' fun e w''=>e = .returned (ve (zi p.words))/\Below w.heap.size w w''):=Lh fun w' hw =>
  (kx p.words A n c w' hn h1 h2 ((h4.below (hw.mono (Nat.le_of_lt hgl))).more (by have:=hw.size;omega)) hk.sz).mono fun e w'' ⟨h1,h2⟩=>⟨h1,hw.trans (h2.mono hw.size)⟩
 have HCh:Hid (∀ (k:Nat) A' N c',k<=n->N=n-k->N<=c'->c'<=maxLen->Rd w g 1 A' N (sv (p.words.drop k))->∀ w',Below w.heap.size w w'->Calls prog 191 #[.slice A' N c'] w' fun e w''=>e = .returned (chwV (vi (p.words.drop k)))/\Below w.heap.size w w''):=Lh fun k A' N c' hkn hN hc hm rd w' hw =>
  (qaH (p.words.drop k) A' N c' w' (by rw [List.length_drop];omega) hc hm ((rd.below (hw.mono (Nat.le_of_lt hgl))).more (by have:=hw.size;omega)) (fun s hs=>hk.sz s (List.mem_of_mem_drop hs)) (hs.below hw (Nat.le_refl _))).mono fun e w'' ⟨h1,h2⟩=>⟨h1,hw.trans (h2.mono hw.size)⟩
 obtain ⟨RES,hRES⟩ : ∃ x,x=kD p:=⟨_,rfl⟩
 rw [<- hRES]
 obtain ⟨hk0,hkl,hk15,hnum,_⟩:=zF hp
 obtain ⟨hn1,hn2,_⟩:=vp hnum
 rw [hp] at HPr
 simp only [ve] at HPr
 have e0:RES=none:=by rw [hRES];unfold kD;rw [hp];simp only;rw [if_pos hneg]
 have i1:decide (nn<0)=true:=decide_eq_true hneg
 subst e0
 clear hRES hp h2 h3 h4 h5 hn hk hlen hs hot hout HAdd HCh hnum hn1 hn2 hneg hk0 hkl hk15
 generalize (k:Int)=K at *
 go_enter func175,ntmps175
 go_wp2_with (go_at_call 107;refine (HPr.out _ (by assumption)).mono ?_;rintro e w1 ⟨rfl,hb1⟩;have C1':=HC1.out _ hb1)
 go_ret
 exact ⟨hb1.mono (Nat.le_of_lt hgl),rfl,p,rfl,HPS.out.below hb1⟩
theorem qhO (E:World) (p:Prs) (g nb:Nat) (w:World) (hE:PaE E g nb) (hEw:Below g E w) (h:PaS w g nb p) (hk:PaK p) (nn:Int) (k:Nat) (hp:zi p.words=some (nn,k)) (hneg : ¬ nn<0) (hT : ¬ p.words[k]? = some bTimes):Calls prog 175 #[.pointer (some ⟨g,0,none⟩)] w (PaR3 g nb p (kD p) w):=by
 have hgl:=h.lt
 have HPS:=Lh h
 have hb0:Below w.heap.size w w:=Below.refl _ _
 have hlen:=hk.len
 have hout:p.out.length<=1000000000:=by have h:=hk.2.1;omega
 have hot : ∀ x∈p.out,x.text.size<=4000000:=fun x hx=>by have:=hk.2.2 x hx;omega
 have HAdd:Hid (∀ (r:Nat) (times:Nat),qR r->times<=132->∀ w',Below w.heap.size w w'->Calls prog 192 #[.pointer (some ⟨g,0,none⟩),.int .i32 (r:Int),.int .i64 times] w' fun e w''=>e = .returned (.bool (vV p.out p.style (r:Int) times).1)/\PaS w'' g nb ⟨p.words,(vV p.out p.style (r:Int) times).2,p.style,false⟩/\Below g w w''):=Lh fun r times hr ht w' hw =>
  (add_ p r hr times ht hout hot g nb w' (h.below hw) fun w'' hb=>hE.u8 ((hEw.trans (hw.mono (Nat.le_of_lt hgl))).trans hb)).mono fun e w'' ⟨h1,h2,h3,_⟩=>⟨h1,h2,(hw.mono (Nat.le_of_lt hgl)).trans h3⟩
 have hs:=hE.sp hEw
 obtain ⟨A,n,c,A2,c2,h1,h2,h3,h4,h5⟩:=h
 have C1:=h3.cell 1
 simp only [jh,La,Lb,Lc] at C1
 have hn:p.words.length=n:=by have:=h4.1;simp [sv] at this;omega
 have HC1:Hid (∀ w',Below w.heap.size w w'->w'.cell? ⟨g,1,none⟩=some (.slice A n c)):=Lh fun w' hw=>(hw.cell (show g<_ from hgl)).trans C1
 have HPr:Hid (∀ w',Below w.heap.size w w'->Calls prog 107 #[.slice A n c] w' fun e w''=>e = .returned (ve (zi p.words))/\Below w.heap.size w w''):=Lh fun w' hw =>
  (kx p.words A n c w' hn h1 h2 ((h4.below (hw.mono (Nat.le_of_lt hgl))).more (by have:=hw.size;omega)) hk.sz).mono fun e w'' ⟨h1,h2⟩=>⟨h1,hw.trans (h2.mono hw.size)⟩
 have HCh:Hid (∀ (k:Nat) A' N c',k<=n->N=n-k->N<=c'->c'<=maxLen->Rd w g 1 A' N (sv (p.words.drop k))->∀ w',Below w.heap.size w w'->Calls prog 191 #[.slice A' N c'] w' fun e w''=>e = .returned (chwV (vi (p.words.drop k)))/\Below w.heap.size w w''):=Lh fun k A' N c' hkn hN hc hm rd w' hw =>
  (qaH (p.words.drop k) A' N c' w' (by rw [List.length_drop];omega) hc hm ((rd.below (hw.mono (Nat.le_of_lt hgl))).more (by have:=hw.size;omega)) (fun s hs=>hk.sz s (List.mem_of_mem_drop hs)) (hs.below hw (Nat.le_refl _))).mono fun e w'' ⟨h1,h2⟩=>⟨h1,hw.trans (h2.mono hw.size)⟩
 obtain ⟨RES,hRES⟩ : ∃ x,x=kD p:=⟨_,rfl⟩
 rw [<- hRES]
 obtain ⟨hk0,hkl,hk15,hnum,_⟩:=zF hp
 obtain ⟨hn1,hn2,_⟩:=vp hnum
 rw [hp] at HPr
 simp only [ve] at HPr
 have i1:decide (nn<0)=false:=decide_eq_false hneg
 obtain ⟨N,hN⟩ : ∃ N:Nat,nn=(N:Int):=⟨nn.toNat,by omega⟩
 subst hN
 have hN9:N<=999999999:=by omega
 have hn0:0<n:=by omega
 obtain ⟨b,o,hA,hbg,-⟩:=h4.2 hn0
 subst hA
 have HCk:Hid (∀ (hkn:k<n) w',Below w.heap.size w w'->w'.cell? ⟨b,o+k,none⟩=some (.string (p.words[k]'(by omega)))):=Lh fun hkn w' hw=>by
  obtain ⟨b',o',e',_,hcd⟩:=h4.at_ hkn
  simp only [Option.some.injEq,Addr.mk.injEq,and_true] at e'
  obtain ⟨rfl,rfl⟩:=e'
  refine (hw.cell (by show b<_;omega)).trans (hcd.trans ?_)
  simp [sv,hn,hkn]
 have e0:RES=some ⟨p.words.drop k,p.out++vm p.joins p.style ⟨(kA N).toArray⟩,p.style,true⟩:=by
  rw [hRES];unfold kD;rw [hp];simp only;rw [if_neg hneg,if_neg hT];rfl
 have HDn:Hid (∀ S:ByteArray,S.size≠0->DecI N 0 S->(⟨(kA N).toArray⟩:ByteArray)=S):=Lh fun S h0 h=>(h.done h0).symm
 have HTxt:Hid (∀ S:ByteArray,S.size<=10->∀ w' (hw:Below w.heap.size w w'),_):=Lh fun S hS w' hw=>qdw HPS.out hout S (by omega) hw
 have HTk:Hid (∀ (S:ByteArray) w' (hp:PaS w' g nb ⟨p.words,p.out++vm p.joins p.style S,p.style,true⟩) (hb:Below g w w'),_):=Lh fun S w' hp hb=>qaZ hp k hkl hb
 clear hRES hp h4 h5 hk hlen hs hot hout HAdd HCh hnum hn1 hn2 hneg
 rcases Nat.lt_or_ge k n with hkn | hkn
 ·have heq:((k:Int)==(n:Int))=false:=beq_eq_false_iff_ne.2 (by omega)
  have hck:=Lh (HCk.out hkn)
  have hne:p.words[k]'(by omega)≠bTimes:=fun e=>hT (by rw [List.getElem?_eq_getElem (by omega),e])
  have qk:=qct (a:=p.words[k]'(by omega)) (b:=bTimes) (l:=[116,105,109,101,115]) rfl
  rw [decide_eq_false hne] at qk
  clear hT hne HCk
  generalize p.words[k]'(by omega)=wk at *
  have hki:(k:Int)<n:=by omega
  have hk0i:(0:Int)<=k:=by omega
  go_enter func175,ntmps175
  go_upto_region 5 with (go_at_call 107;refine (HPr.out _ (by assumption)).mono ?_;rintro e w1 ⟨rfl,hb1⟩;have C1':=HC1.out _ hb1;have ck1:=hck.out _ hb1)
  go_wp2
  go_loopw [6,7] (fun x y wr=>∃ (m:Nat) (S:ByteArray),m<=N/\x = .string S/\y = .int .i64 m/\wr=w1/\Hid (DecI N m S)) (fun x y _=>2 * (intOf y).toNat+(if szV x=0 then 1 else 0))
  case atStart=>exact ⟨N,⟨#[]⟩,Nat.le_refl _,rfl,rfl,rfl,Lh (.inl ⟨rfl,rfl⟩)⟩
  case round =>
   obtain ⟨m,S,hm,rfl,rfl,rfl,HD⟩:=hrel
   by_cases hc:0<m∨S.size=0
   ·have hsz:=HD.out.size hN9
    have hmeas:=Lh (qgJ m S hc)
    have hpos:0<m∨m=0:=by omega
    have hm10:m / 10<=N:=by omega
    have hS0:m=0->S.toList.isEmpty=true:=fun h=>qcW (hc.resolve_left (by omega))
    obtain ⟨M,hM⟩ : ∃ M,M=(m:Int):=⟨_,rfl⟩
    obtain ⟨D,hD⟩ : ∃ D,D=((m % 10:Nat):Int):=⟨_,rfl⟩
    obtain ⟨Q,hQ⟩ : ∃ Q,Q=((m / 10:Nat):Int):=⟨_,rfl⟩
    have i5:0<m->decide (0<M)=true:=fun h=>decide_eq_true (by omega)
    have i6:m=0->decide (0<M)=false:=fun h=>decide_eq_false (by omega)
    have hr:=qii m
    have hq:=qib m
    obtain ⟨hw2,hw3⟩:=qd1 (m % 10) (Nat.mod_lt _ (by decide))
    have HD2:=Lh (HD.out.step hc)
    rw [<- qdf] at HD2
    have hsz2:(Utf8.encode (48+((m % 10:Nat):Int))).size<=4:=enc_sz m
    have hwD:wrap64 D=D:=by rw [hD];exact qcc _ (Nat.le_trans (Nat.mod_le m 10) (Nat.le_trans hm hN9))
    have hwQ:wrap64 Q=Q:=by rw [hQ];exact qcc _ (Nat.le_trans hm10 hN9)
    rw [<- hM,<- hD] at hr
    rw [<- hM,<- hQ] at hq
    rw [<- hD] at hw2 hw3 hsz2 HD2 hmeas
    rw [<- hM]
    replace hM:=Lh hM
    replace hQ:=Lh hQ
    clear hD hc hm HDn HTxt HTk
    rcases hpos with h0 | h0
    ·have i7:=i5 h0
     clear i5 i6 hS0 h0
     go_wp2
     exact ⟨⟨m / 10,_,hm10,rfl,by rw [hwQ,hQ.out],trivial,HD2⟩,by have hh:=hmeas.out;rw [hwQ,hQ.out,hM.out];simp only [intOf,szV,Int.toNat_natCast] at hh ⊢;exact hh⟩
    ·have i7:=i6 h0
     have i8:=hS0 h0
     clear i5 i6 hS0 h0
     go_wp2
     exact ⟨⟨m / 10,_,hm10,rfl,by rw [hwQ,hQ.out],trivial,HD2⟩,by have hh:=hmeas.out;rw [hwQ,hQ.out,hM.out];simp only [intOf,szV,Int.toNat_natCast] at hh ⊢;exact hh⟩
   ·have hS0:S.size≠0:=by omega
    obtain rfl:m=0:=by omega
    have i8:=jp hS0
    have hsz:=HD.out.size hN9
    have e1:=Lh (HDn.out S hS0 HD.out)
    have HTx:=Lh (HTxt.out S hsz)
    have HTkS:=Lh (HTk.out S)
    clear HDn HTxt HTk
    go_wp2_with (first
     | (go_at_call 190;refine (HTx.out _ (by assumption)).mono ?_;rintro e w5 ⟨rfl,hp5,hb5⟩)
     | (go_at_call 187;refine (HTkS.out _ hp5 hb5).mono ?_;rintro e w6 ⟨rfl,hp6,hb6⟩))
    go_ret
    rw [e0,e1.out]
    exact ⟨hb6,rfl,hp6⟩
 ·have heq:((k:Int)==(n:Int))=true:=beq_iff_eq.2 (by omega)
  clear hT HCk
  go_enter func175,ntmps175
  go_upto_region 5 with (go_at_call 107;refine (HPr.out _ (by assumption)).mono ?_;rintro e w1 ⟨rfl,hb1⟩;have C1':=HC1.out _ hb1)
  go_wp2
  go_loopw [6,7] (fun x y wr=>∃ (m:Nat) (S:ByteArray),m<=N/\x = .string S/\y = .int .i64 m/\wr=w1/\Hid (DecI N m S)) (fun x y _=>2 * (intOf y).toNat+(if szV x=0 then 1 else 0))
  case atStart=>exact ⟨N,⟨#[]⟩,Nat.le_refl _,rfl,rfl,rfl,Lh (.inl ⟨rfl,rfl⟩)⟩
  case round =>
   obtain ⟨m,S,hm,rfl,rfl,rfl,HD⟩:=hrel
   by_cases hc:0<m∨S.size=0
   ·have hsz:=HD.out.size hN9
    have hmeas:=Lh (qgJ m S hc)
    have hpos:0<m∨m=0:=by omega
    have hm10:m / 10<=N:=by omega
    have hS0:m=0->S.toList.isEmpty=true:=fun h=>qcW (hc.resolve_left (by omega))
    obtain ⟨M,hM⟩ : ∃ M,M=(m:Int):=⟨_,rfl⟩
    obtain ⟨D,hD⟩ : ∃ D,D=((m % 10:Nat):Int):=⟨_,rfl⟩
    obtain ⟨Q,hQ⟩ : ∃ Q,Q=((m / 10:Nat):Int):=⟨_,rfl⟩
    have i5:0<m->decide (0<M)=true:=fun h=>decide_eq_true (by omega)
    have i6:m=0->decide (0<M)=false:=fun h=>decide_eq_false (by omega)
    have hr:=qii m
    have hq:=qib m
    obtain ⟨hw2,hw3⟩:=qd1 (m % 10) (Nat.mod_lt _ (by decide))
    have HD2:=Lh (HD.out.step hc)
    rw [<- qdf] at HD2
    have hsz2:(Utf8.encode (48+((m % 10:Nat):Int))).size<=4:=enc_sz m
    have hwD:wrap64 D=D:=by rw [hD];exact qcc _ (Nat.le_trans (Nat.mod_le m 10) (Nat.le_trans hm hN9))
    have hwQ:wrap64 Q=Q:=by rw [hQ];exact qcc _ (Nat.le_trans hm10 hN9)
    rw [<- hM,<- hD] at hr
    rw [<- hM,<- hQ] at hq
    rw [<- hD] at hw2 hw3 hsz2 HD2 hmeas
    rw [<- hM]
    replace hM:=Lh hM
    replace hQ:=Lh hQ
    clear hD hc hm HDn HTxt HTk
    rcases hpos with h0 | h0
    ·have i7:=i5 h0
     clear i5 i6 hS0 h0
     go_wp2
     exact ⟨⟨m / 10,_,hm10,rfl,by rw [hwQ,hQ.out],trivial,HD2⟩,by have hh:=hmeas.out;rw [hwQ,hQ.out,hM.out];simp only [intOf,szV,Int.toNat_natCast] at hh ⊢;exact hh⟩
    ·have i7:=i6 h0
     have i8:=hS0 h0
     clear i5 i6 hS0 h0
     go_wp2
     exact ⟨⟨m / 10,_,hm10,rfl,by rw [hwQ,hQ.out],trivial,HD2⟩,by have hh:=hmeas.out;rw [hwQ,hQ.out,hM.out];simp only [intOf,szV,Int.toNat_natCast] at hh ⊢;exact hh⟩
   ·have hS0:S.size≠0:=by omega
    obtain rfl:m=0:=by omega
    have i8:=jp hS0
    have hsz:=HD.out.size hN9
    have e1:=Lh (HDn.out S hS0 HD.out)
    have HTx:=Lh (HTxt.out S hsz)
    have HTkS:=Lh (HTk.out S)
    clear HDn HTxt HTk
    go_wp2_with (first
     | (go_at_call 190;refine (HTx.out _ (by assumption)).mono ?_;rintro e w5 ⟨rfl,hp5,hb5⟩)
     | (go_at_call 187;refine (HTkS.out _ hp5 hb5).mono ?_;rintro e w6 ⟨rfl,hp6,hb6⟩))
    go_ret
    rw [e0,e1.out]
    exact ⟨hb6,rfl,hp6⟩
theorem qe4 (E:World) (p:Prs) (g nb:Nat) (w:World) (hE:PaE E g nb) (hEw:Below g E w) (h:PaS w g nb p) (hk:PaK p) (nn:Int) (k:Nat) (hp:zi p.words=some (nn,k)) (hneg : ¬ nn<0) (hT:p.words[k]? = some bTimes):Calls prog 175 #[.pointer (some ⟨g,0,none⟩)] w (PaR3 g nb p (kD p) w):=by
 have hgl:=h.lt
 have HPS:=Lh h
 have hb0:Below w.heap.size w w:=Below.refl _ _
 have hlen:=hk.len
 have hout:p.out.length<=1000000000:=by have h:=hk.2.1;omega
 have hot : ∀ x∈p.out,x.text.size<=4000000:=fun x hx=>by have:=hk.2.2 x hx;omega
 have HAdd:Hid (∀ (r:Nat) (times:Nat),qR r->times<=132->∀ w',Below w.heap.size w w'->Calls prog 192 #[.pointer (some ⟨g,0,none⟩),.int .i32 (r:Int),.int .i64 times] w' fun e w''=>e = .returned (.bool (vV p.out p.style (r:Int) times).1)/\PaS w'' g nb ⟨p.words,(vV p.out p.style (r:Int) times).2,p.style,false⟩/\Below g w w''):=Lh fun r times hr ht w' hw =>
  (add_ p r hr times ht hout hot g nb w' (h.below hw) fun w'' hb=>hE.u8 ((hEw.trans (hw.mono (Nat.le_of_lt hgl))).trans hb)).mono fun e w'' ⟨h1,h2,h3,_⟩=>⟨h1,h2,(hw.mono (Nat.le_of_lt hgl)).trans h3⟩
 have hs:=hE.sp hEw
 obtain ⟨A,n,c,A2,c2,h1,h2,h3,h4,h5⟩:=h
 have C1:=h3.cell 1
 simp only [jh,La,Lb,Lc] at C1
 have hn:p.words.length=n:=by have:=h4.1;simp [sv] at this;omega
 have HC1:Hid (∀ w',Below w.heap.size w w'->w'.cell? ⟨g,1,none⟩=some (.slice A n c)):=Lh fun w' hw=>(hw.cell (show g<_ from hgl)).trans C1
 have HPr:Hid (∀ w',Below w.heap.size w w'->Calls prog 107 #[.slice A n c] w' fun e w''=>e = .returned (ve (zi p.words))/\Below w.heap.size w w''):=Lh fun w' hw =>
  (kx p.words A n c w' hn h1 h2 ((h4.below (hw.mono (Nat.le_of_lt hgl))).more (by have:=hw.size;omega)) hk.sz).mono fun e w'' ⟨h1,h2⟩=>⟨h1,hw.trans (h2.mono hw.size)⟩
 have HCh:Hid (∀ (k:Nat) A' N c',k<=n->N=n-k->N<=c'->c'<=maxLen->Rd w g 1 A' N (sv (p.words.drop k))->∀ w',Below w.heap.size w w'->Calls prog 191 #[.slice A' N c'] w' fun e w''=>e = .returned (chwV (vi (p.words.drop k)))/\Below w.heap.size w w''):=Lh fun k A' N c' hkn hN hc hm rd w' hw =>
  (qaH (p.words.drop k) A' N c' w' (by rw [List.length_drop];omega) hc hm ((rd.below (hw.mono (Nat.le_of_lt hgl))).more (by have:=hw.size;omega)) (fun s hs=>hk.sz s (List.mem_of_mem_drop hs)) (hs.below hw (Nat.le_refl _))).mono fun e w'' ⟨h1,h2⟩=>⟨h1,hw.trans (h2.mono hw.size)⟩
 obtain ⟨RES,hRES⟩ : ∃ x,x=kD p:=⟨_,rfl⟩
 rw [<- hRES]
 obtain ⟨hk0,hkl,hk15,hnum,_⟩:=zF hp
 obtain ⟨hn1,hn2,_⟩:=vp hnum
 rw [hp] at HPr
 simp only [ve] at HPr
 have i1:decide (nn<0)=false:=decide_eq_false hneg
 obtain ⟨N,hN⟩ : ∃ N:Nat,nn=(N:Int):=⟨nn.toNat,by omega⟩
 subst hN
 have hN9:N<=999999999:=by omega
 have hn0:0<n:=by omega
 obtain ⟨b,o,hA,hbg,-⟩:=h4.2 hn0
 subst hA
 have HCk:Hid (∀ (hkn:k<n) w',Below w.heap.size w w'->w'.cell? ⟨b,o+k,none⟩=some (.string (p.words[k]'(by omega)))):=Lh fun hkn w' hw=>by
  obtain ⟨b',o',e',_,hcd⟩:=h4.at_ hkn
  simp only [Option.some.injEq,Addr.mk.injEq,and_true] at e'
  obtain ⟨rfl,rfl⟩:=e'
  refine (hw.cell (by show b<_;omega)).trans (hcd.trans ?_)
  simp [sv,hn,hkn]
 have hkn:k<n:=by
  rcases Nat.lt_or_ge k p.words.length with h | h
  ·omega
  ·rw [List.getElem?_eq_none h] at hT;cases hT
 have hck:=Lh (HCk.out hkn)
 have hwk:p.words[k]'(by omega)=bTimes:=by
  rw [List.getElem?_eq_getElem (by omega)] at hT
  injection hT
 rw [hwk] at hck
 have qk:(bTimes.toList==[116,105,109,101,115])=true:=by decide +kernel
 have heq:((k:Int)==(n:Int))=false:=beq_eq_false_iff_ne.2 (by omega)
 have hki:(k:Int)<n:=by omega
 have hk0i:(0:Int)<=k:=by omega
 have hkn1:k+1<=n:=by omega
 have i2:(k:Int)+1<=n:=by omega
 have i3:(k:Int)+1<=c:=by omega
 have i1:(0:Int)<=(k:Int)+1:=by omega
 have i4:(k:Int)+1<=16:=by omega
 have hRd:=h4.cut (k:=k+1) hkn1 h1
 rw [show (sv p.words).drop ((k+1) * 1)=sv (p.words.drop (k+1)) by simp [sv]] at hRd
 simp only [Nat.mul_one,Option.map_some,vl] at hRd
 have eT:RES=match vi (p.words.drop (k+1)) with
   | none=>none
   | some (r,m)=>if 2<=(N:Int)/\(N:Int)<=132/\(vV p.out p.style r N).1=true then some ⟨p.words.drop (k+1+m),(vV p.out p.style r N).2,p.style,false⟩ else none:=by
  rw [hRES];unfold kD;rw [hp];simp only;rw [if_neg hneg,if_pos hT,Int.toNat_natCast];cases vi (p.words.drop (k+1)) <;> rfl
 have hc63:c<=9223372036854775807:=by unfold maxLen at h2;omega
 have hln1:(p.words.drop (k+1)).length=p.words.length-(k+1):=List.length_drop
 clear hp h4 h5 hk hs hot hout hnum hn1 hn2 hneg hT HCk hwk hRES
 by_cases hck1:c=k+1
 ·rw [if_pos hck1] at hRd
  have HCx:=Lh (HCh.out (k+1) (some ⟨b,o,none⟩) (n-(k+1)) 0 hkn1 rfl (by omega) (by omega) hRd)
  have hnk:n-(k+1)=0:=by omega
  rw [hnk] at HCx
  have l0:p.words.drop (k+1)=[]:=List.length_eq_zero_iff.1 (by omega)
  rw [l0,show vi []=none from rfl] at HCx eT
  simp only [chwV] at HCx
  simp only at eT
  subst eT
  obtain rfl:n=k+1:=by omega
  subst hck1
  clear HCh hRd hln1 HAdd hlen hn l0 h2 hk15 hkl hk0
  go_enter func175,ntmps175
  go_wp2_with (first | (go_at_call 107;refine (HPr.out _ (by assumption)).mono ?_;rintro e w1 ⟨rfl,hb1⟩;have C1':=HC1.out _ hb1;have ck1:=hck.out _ hb1) | (go_at_call 191;refine (HCx.out _ (by assumption)).mono ?_;rintro e w2 ⟨rfl,hb2⟩))
  go_ret
  exact ⟨hb2.mono (Nat.le_of_lt hgl),rfl,p,rfl,HPS.out.below hb2⟩
 ·rw [if_neg hck1] at hRd
  have HCx:=Lh (HCh.out (k+1) (some ⟨b,o+(k+1),none⟩) (n-(k+1)) (c-(k+1)) hkn1 rfl (by omega) (by omega) hRd)
  cases hcw:vi (p.words.drop (k+1)) with
  | none =>
   rw [hcw] at HCx eT
   simp only [chwV] at HCx
   simp only at eT
   subst eT
   clear HCh hRd hln1 HAdd hlen hn hcw h2 hk15 hkl hk0
   go_enter func175,ntmps175
   go_wp2_with (first | (go_at_call 107;refine (HPr.out _ (by assumption)).mono ?_;rintro e w1 ⟨rfl,hb1⟩;have C1':=HC1.out _ hb1;have ck1:=hck.out _ hb1) | (go_at_call 191;refine (HCx.out _ (by assumption)).mono ?_;rintro e w2 ⟨rfl,hb2⟩))
   go_ret
   exact ⟨hb2.mono (Nat.le_of_lt hgl),rfl,p,rfl,HPS.out.below hb2⟩
  | some x =>
   obtain ⟨r,m⟩:=x
   obtain ⟨rr,rfl,hrr⟩:=qfT hcw
   obtain ⟨hm0,hml⟩:=qeG hcw
   rw [hcw] at HCx eT
   simp only [chwV] at HCx
   simp only at eT
   have em:((m:Int)==0)=false:=beq_eq_false_iff_ne.2 (by omega)
   have hm5:m<=500000:=by omega
   by_cases h2N:N<2
   ·rw [if_neg (by omega)] at eT
    subst eT
    have i7:decide ((N:Int)<2)=true:=decide_eq_true (by omega)
    clear HCh hRd hln1 HAdd hlen hn hcw h2 hm0 hml h2N hN9 hrr hk15 hkl hk0
    generalize (N:Int)=NI at *
    generalize (rr:Int)=RR at *
    go_enter func175,ntmps175
    go_wp2_with (first | (go_at_call 107;refine (HPr.out _ (by assumption)).mono ?_;rintro e w1 ⟨rfl,hb1⟩;have C1':=HC1.out _ hb1;have ck1:=hck.out _ hb1) | (go_at_call 191;refine (HCx.out _ (by assumption)).mono ?_;rintro e w2 ⟨rfl,hb2⟩))
    go_ret
    exact ⟨hb2.mono (Nat.le_of_lt hgl),rfl,p,rfl,HPS.out.below hb2⟩
   ·have i7:decide ((N:Int)<2)=false:=decide_eq_false (by omega)
    by_cases h3N:132<N
    ·rw [if_neg (by omega)] at eT
     subst eT
     have i8:decide (132<(N:Int))=true:=decide_eq_true (by omega)
     clear HCh hRd hln1 HAdd hlen hn hcw h2 hm0 hml h2N h3N hN9 hrr hk15 hkl hk0
     generalize (N:Int)=NI at *
     generalize (rr:Int)=RR at *
     go_enter func175,ntmps175
     go_wp2_with (first | (go_at_call 107;refine (HPr.out _ (by assumption)).mono ?_;rintro e w1 ⟨rfl,hb1⟩;have C1':=HC1.out _ hb1;have ck1:=hck.out _ hb1) | (go_at_call 191;refine (HCx.out _ (by assumption)).mono ?_;rintro e w2 ⟨rfl,hb2⟩))
     go_ret
     exact ⟨hb2.mono (Nat.le_of_lt hgl),rfl,p,rfl,HPS.out.below hb2⟩
    ·have i8:decide (132<(N:Int))=false:=decide_eq_false (by omega)
     have HAd:=Lh (HAdd.out rr N hrr (by omega))
     have hkm:k+1+m<=p.words.length:=by omega
     have HTk:=Lh (fun w' (hp:PaS w' g nb ⟨p.words,(vV p.out p.style (rr:Int) N).2,p.style,false⟩) (hb:Below g w w')=>qaZ hp (k+1+m) hkm hb)
     rw [show (((k+1+m:Nat)):Int)=(k:Int)+1+(m:Int) by omega] at HTk
     generalize vV p.out p.style (rr:Int) N=AL at *
     obtain ⟨ok,O'⟩:=AL
     dsimp only at *
     cases ok with
     | false =>
      rw [if_neg (by simp)] at eT
      subst eT
      clear HCh hRd hln1 HAdd hlen hn hcw h2 hm0 hml h2N h3N hN9 hrr HTk hkm hk15 hkl hk0
      generalize (N:Int)=NI at *
      generalize (rr:Int)=RR at *
      go_enter func175,ntmps175
      go_wp2_with (first | (go_at_call 107;refine (HPr.out _ (by assumption)).mono ?_;rintro e w1 ⟨rfl,hb1⟩;have C1':=HC1.out _ hb1;have ck1:=hck.out _ hb1) | (go_at_call 191;refine (HCx.out _ (by assumption)).mono ?_;rintro e w2 ⟨rfl,hb2⟩) | (go_at_call 192;refine (HAd.out _ (by assumption)).mono ?_;rintro e w3 ⟨rfl,hp3,hb3⟩))
      go_ret
      exact ⟨hb3,rfl,⟨p.words,O',p.style,false⟩,rfl,hp3⟩
     | true =>
      rw [if_pos ⟨by omega,by omega,rfl⟩] at eT
      subst eT
      clear HCh hRd hln1 HAdd hlen hn hcw h2 hm0 hml h2N h3N hN9 hrr hkm hk15 hkl hk0
      generalize (N:Int)=NI at *
      generalize (rr:Int)=RR at *
      go_enter func175,ntmps175
      go_wp2_with (first | (go_at_call 107;refine (HPr.out _ (by assumption)).mono ?_;rintro e w1 ⟨rfl,hb1⟩;have C1':=HC1.out _ hb1;have ck1:=hck.out _ hb1) | (go_at_call 191;refine (HCx.out _ (by assumption)).mono ?_;rintro e w2 ⟨rfl,hb2⟩) | (go_at_call 192;refine (HAd.out _ (by assumption)).mono ?_;rintro e w3 ⟨rfl,hp3,hb3⟩) | (go_at_call 187;refine (HTk.out _ hp3 hb3).mono ?_;rintro e w6 ⟨rfl,hp6,hb6⟩))
      go_ret
      exact ⟨hb6,rfl,hp6⟩
end Go.Proofs.YticbpkghcglgkaaGreatDoor
namespace Go.Proofs.YticbpkghcglgkaaGreatDoor
open Go.Proofs.Tryz Go.RowKit
theorem amount_ (E:World) (p:Prs) (g nb:Nat) (w:World) (hE:PaE E g nb) (hEw:Below g E w) (h:PaS w g nb p) (hk:PaK p):Calls prog 175 #[.pointer (some ⟨g,0,none⟩)] w (PaR3 g nb p (kD p) w):=by
 cases hp:zi p.words with
 | none =>
  have e0:kD p=none:=by unfold kD;rw [hp]
  rw [e0]
  exact (qeQ p g nb w h hk.sz hk.len hp).mono fun e w' ⟨h1,h2,h3⟩=>⟨h1,h2,p,rfl,h3⟩
 | some x =>
  obtain ⟨nn,k⟩:=x
  by_cases hneg:nn<0
  ·exact qg9 E p g nb w hE hEw h hk nn k hp hneg
  ·by_cases hT:p.words[k]? = some bTimes
   ·exact qe4 E p g nb w hE hEw h hk nn k hp hneg hT
   ·exact qhO E p g nb w hE hEw h hk nn k hp hneg hT
end Go.Proofs.YticbpkghcglgkaaGreatDoor
namespace Go.Proofs.YticbpkghcglgkaaGreatDoor
open Go.Proofs.Tryz Go.RowKit
set_option maxRecDepth 20000
theorem qfu {l:List ByteArray} {x:Int × Nat} (h:vi l=some x):zi l=none:=by
 cases hp:zi l with
 | none=>rfl
 | some y =>
  obtain ⟨n,k⟩:=y
  obtain ⟨hk0,hkl,_,hnum,_⟩:=zF hp
  obtain ⟨h1,h2,hw,_⟩:=vp hnum
  cases l with
  | nil=>cases h
  | cons a t =>
   obtain ⟨m,rfl⟩ : ∃ m,k=m+1:=⟨k-1,by omega⟩
   rw [List.take_succ_cons] at hw
   cases hws:qm n with
   | nil=>rw [hws] at hw;cases hw
   | cons j u =>
    rw [hws,List.map_cons] at hw
    injection hw with hw _
    have hj:=jT n h1 h2 j (by rw [hws];simp)
    rw [<- hw,qbZ hj] at h
    cases h
theorem qfz {l:List ByteArray} {s:ByteArray} {n:Nat} (h:yl l=some (s,n)) (hsz : ∀ s∈l,s.size<=1000):s.size+1<=2000 * n/\0<n/\n<=l.length:=by
 cases l with
 | nil=>cases h
 | cons a t =>
  rw [yl] at h
  split at h
  ·rename_i hc
   simp only [Option.some.injEq,Prod.mk.injEq] at h
   obtain ⟨rfl,rfl⟩:=h
   cases t with
   | nil=>exact absurd hc.2 (by decide +kernel)
   | cons d t'=>have:=hsz d (by simp);exact ⟨by rw [List.headD_cons];omega,by omega,by simp⟩
  ·split at h
   ·simp only [Option.some.injEq,Prod.mk.injEq] at h
    obtain ⟨rfl,rfl⟩:=h
    have:=hsz a (by simp)
    exact ⟨by omega,by omega,by simp⟩
   ·split at h
    ·unfold ya at h
     split at h
     ·cases h
     ·split at h
      ·rename_i he
       simp only [Option.some.injEq,Prod.mk.injEq] at h
       obtain ⟨rfl,rfl⟩:=h
       have hk:(t.takeWhile jQ).length<t.length:=by
        rcases Nat.lt_or_ge (t.takeWhile jQ).length t.length with h | h
        ·exact h
        ·rw [List.getElem?_eq_none h] at he;cases he
       have hall : ∀ x∈t.takeWhile jQ,jQ x=true:=fun x hx=>List.all_eq_true.1 (List.all_takeWhile (l:=t) (p:=jQ)) x hx
       have hlen : ∀ T:List ByteArray,(∀ x∈T,jQ x=true)->(T.flatMap fun s=>s.data.toList).length=T.length:=by
        intro T
        induction T with
        | nil=>intro _;rfl
        | cons x T ih =>
         intro hall
         have hx:=hall x (by simp)
         unfold jQ at hx
         rw [Bool.and_eq_true,decide_eq_true_eq] at hx
         rw [List.flatMap_cons,List.length_append,List.length_cons,ih fun y hy=>hall y (by simp [hy])]
         have:x.data.toList.length=x.size:=by simp
         omega
       have hT:=hlen _ hall
       refine ⟨?_,by omega,by rw [List.length_cons];omega⟩
       show (List.toArray _).size+1<=_
       rw [List.size_toArray,hT]
       omega
      ·cases h
    ·cases h
theorem qcM (s:ByteArray) (n:Nat):(jn s n).size=s.size:=by
 unfold jn
 show (List.toArray _).size=_
 rw [List.size_toArray,List.length_append,List.length_map,<- List.length_append,List.take_append_drop]
 simp
theorem dgs_len (t:List ByteArray):(dgsL t).length<=t.length:=by
 unfold dgsL
 rw [List.length_map]
 exact (List.takeWhile_sublist _).length_le
theorem qis : ∀ (k n:Nat),n<10 ^ (k+1)->(kA n).length<=k+1
 | 0,n,h=>by
  rw [kA,dif_pos (by simpa using h)]
  simp
 | k+1,n,h=>by
  rw [kA]
  split
  ·simp
  ·rw [List.length_append,List.length_singleton]
   have:=qis k (n / 10) (by rw [Nat.pow_succ] at h;omega)
   omega
theorem PaK2.part {p q:Prs} (hK:PaK2 p) (h:va p=some q):PaK2 q:=by
 have hK0:=hK
 obtain ⟨⟨hw1,hw2,hw3⟩,hw4⟩:=hK0
 have hdrop : ∀ {W:List ByteArray} {a st j},p.words=a::W->PaK2 ⟨W,p.out,st,j⟩:=by
  intro W a st j e
  rw [e,List.length_cons] at hw2 hw4
  refine ⟨⟨fun x hx=>hw1 x (by rw [e];simp [hx]),?_,fun x hx=>?_⟩,?_⟩
  ·show p.out.length+2000 * W.length<=_
   omega
  ·show _+8 * W.length<=_
   have:=hw3 x hx
   rw [e,List.length_cons] at this
   omega
  ·show W.length<=_
   omega
 unfold va at h
 cases h1:zP p with
 | some q' =>
  rw [h1,some_or] at h
  obtain rfl:q'=q:=by injection h
  unfold zP at h1
  split at h1
  ·cases h1
  ·rename_i a t hw
   split at h1
   ·injection h1 with h1;subst h1;exact hdrop hw
   ·split at h1
    ·injection h1 with h1;subst h1;exact hdrop hw
    ·cases h1
 | none =>
  rw [h1,y9] at h
  cases h2:jP p with
  | some q' =>
   rw [h2,some_or] at h
   obtain rfl:q'=q:=by injection h
   unfold jP at h2
   split at h2
   ·cases h2
   ·rename_i a t hw
    have ht : ∀ s∈t,s.size<=1000:=fun s hs=>hw1 s (by rw [hw];simp [hs])
    have hat : ∀ s∈a::t,s.size<=1000:=fun s hs=>hw1 s (by rw [hw];exact hs)
    split at h2
    ·rw [Option.map_eq_some_iff] at h2
     obtain ⟨⟨s,n⟩,hl,rfl⟩:=h2
     obtain ⟨a1,a2,a3⟩:=qfz hl ht
     exact hK.text (by omega) (by rw [hw,List.length_cons];omega) (by rw [qcM];omega)
    ·split at h2
     ·rw [Option.map_eq_some_iff] at h2
      obtain ⟨⟨s,n⟩,hl,rfl⟩:=h2
      obtain ⟨a1,a2,a3⟩:=qfz hl ht
      exact hK.text (by omega) (by rw [hw,List.length_cons];omega) (by rw [qcM];omega)
     ·rw [Option.map_eq_some_iff] at h2
      obtain ⟨⟨s,n⟩,hl,rfl⟩:=h2
      obtain ⟨a1,a2,a3⟩:=qfz hl hat
      exact hK.text a2 (by rw [hw];exact a3) a1
  | none =>
   rw [h2,y9] at h
   cases h3:qaP p with
   | some q' =>
    rw [h3,some_or] at h
    obtain rfl:q'=q:=by injection h
    unfold qaP at h3
    split at h3
    ·cases h3
    ·rename_i a t hw
     split at h3
     ·injection h3 with h3
      subst h3
      have:=dgs_len t
      refine hK.text (by omega) (by rw [hw,List.length_cons];omega) ?_
      unfold zN
      show (List.toArray _).size+1<=_
      rw [List.size_toArray,List.length_map]
      omega
     ·cases h3
   | none =>
    rw [h3,y9] at h
    cases h4:ko p with
    | some q' =>
     rw [h4,some_or] at h
     obtain rfl:q'=q:=by injection h
     unfold ko at h4
     split at h4
     ·cases h4
     ·rename_i r n hc
      obtain ⟨a,b,_⟩:=qcB hc
      split at h4
      ·rename_i hadd
       injection h4 with h4
       subst h4
       exact hK.add (by omega) a b hadd
      ·cases h4
    | none =>
     rw [h4,y9] at h
     unfold kD at h
     split at h
     ·cases h
     ·rename_i n k hk
      obtain ⟨a,b,_,hnum,_⟩:=zF hk
      obtain ⟨hn1,hn2,_⟩:=vp hnum
      split at h
      ·cases h
      ·split at h
       ·rename_i hT
        split at h
        ·cases h
        ·rename_i r m hc
         obtain ⟨a2,b2,_⟩:=qcB hc
         rw [List.length_drop] at b2
         split at h
         ·rename_i hadd
          injection h with h
          subst h
          exact hK.add (by omega) (by omega) (by omega) hadd.2.2
         ·cases h
       ·injection h with h
        subst h
        refine hK.text a b ?_
        have:=qis 8 n.toNat (by omega)
        show (List.toArray _).size+1<=_
        rw [List.size_toArray]
        omega
end Go.Proofs.YticbpkghcglgkaaGreatDoor
