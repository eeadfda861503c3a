/- Joined: Ch3, Rn5, Rn6, Rn7, Gl1, Wo0, Lv1, Lv2, Lv3, PaB0, Ref1. -/
import Derived.Test.YtbogmeeijdaijaaGreatDoorZAO
import Derived.Test.YtbogmeeijdaijaaGreatDoorZDW
set_option linter.unusedVariables false
set_option linter.unusedSimpArgs false
set_option linter.unnecessarySimpa false
set_option maxHeartbeats 4000000
namespace Go.Proofs.YtbogmeeijdaijaaGreatDoor
open Go.Proofs.Tryz Go.RowKit
set_option maxRecDepth 20000
theorem rin2 (t:List (Int × Int)) (r:Int) (n c B:Nat) (A:Option Addr) (w:World) (hn:t.length=n) (hb:n<=1000) (rd:Rd w B 2 A n (qaN t)) :
  Calls prog 130 #[.slice A n c,.int .i32 r] w (Quiet (.bool (inT t r)) w):=by
 have HF:Hid (inT t r=true↔∃ i,∃ h:i<t.length,t[i].1<=r/\r<=t[i].2):=Lh (qix t r);have HN:=Lh hn;generalize inT t r=R at *
 clear hn
 go_enter func130,ntmps130
 go_wp2
 go_loopw [5] (fun x wr=>∃ a j:Nat,a<=n/\x = .int .i64 a/\wr=w.drewN j/\Hid (∀ i (h:i<t.length),i<a->¬ (t[i].1<=r/\r<=t[i].2))) (fun x _=>n-(intOf x).toNat)
 case atStart=>exact ⟨0,0,Nat.zero_le _,rfl,rfl,Lh fun i h h2=>absurd h2 (Nat.not_lt_zero i)⟩
 case round =>
  obtain ⟨a,j,han,rfl,rfl,HA⟩:=hrel
  by_cases hlt:a<n
  ·have hml:a<t.length:=by have:=HN.out;omega
   obtain ⟨bb,oo,rfl,c1,c2⟩:=qhj rd hml HN.out;have HY:Hid (t[a].1<=r/\r<=t[a].2->R=true):=Lh fun h=>HF.out.2 ⟨a,hml,h⟩
   have HZ:Hid (¬ (t[a].1<=r/\r<=t[a].2)->∀ i (h:i<t.length),i<a+1->¬ (t[i].1<=r/\r<=t[i].2)):=Lh fun h0 i h h2=>by
    rcases Nat.lt_or_ge i a with h1 | h1
    ·exact HA.out i h h1
    ·obtain rfl:i=a:=by omega
     exact h0
   generalize t[a].1=y at *
   generalize t[a].2=z at *
   by_cases h1:y<=r
   ·by_cases h2:r<=z
    ·have HR:=Lh (HY.out ⟨h1,h2⟩);go_wp2;go_ret;exact ⟨by rw [HR.out];rfl,_,rfl⟩
    ·have HR:=Lh (HZ.out fun h=>h2 h.2);clear HY HZ;go_wp2;exact ⟨⟨a+1,_,by omega,by go_num,rfl,HR⟩,by simp [intOf];omega⟩
   ·have HR:=Lh (HZ.out fun h=>h1 h.1);clear HY HZ;go_wp2;exact ⟨⟨a+1,_,by omega,by go_num,rfl,HR⟩,by simp [intOf];omega⟩
  ·have HR:Hid (R=false):=Lh (by
    cases hR:R with
    | false=>rfl
    | true =>
     obtain ⟨i,h,h1⟩:=HF.out.1 hR
     exact absurd h1 (HA.out i h (by have:=HN.out;omega)))
   clear HF;go_wp2;go_ret;exact ⟨by rw [HR.out];rfl,_,rfl⟩
theorem rmarks (w:World):Calls prog 131 #[] w (ql 200 2 id w 7 (qaN qM)):=by
 go_enter func131,ntmps131
 go_wp2;go_ret;exact ⟨_,_,rfl,qx (xs:=qaN qM) rfl rfl (Ld _) L0,L5⟩
theorem rwide (w:World):Calls prog 132 #[] w (ql 200 2 id w 14 (qaN y8)):=by
 go_enter func132,ntmps132
 go_wp2;go_ret;exact ⟨_,_,rfl,qx (xs:=qaN y8) rfl rfl (Ld _) L0,L5⟩
theorem qlD (r:Int) (w:World):Calls prog 113 #[.int .i32 r] w (qh (.bool (inT qM r)) w):=by
 have HF:=Lh (rin2 qM r);generalize inT qM r=R at *
 go_enter func113,ntmps113
 go_wp2_with (first
  | (go_at_call 131;refine (rmarks _).mono ?_;rintro e w1 ⟨A1,c1,rfl,hown1,hbel1⟩)
  | (go_at_call 130;refine (HF.out 7 c1 _ A1 _ rfl L0 (Rd.of_own hown1)).mono ?_;rintro e w3 ⟨rfl,q3,rfl⟩))
 go_ret;exact ⟨rfl,qf hbel1⟩
theorem qlk (r:Int) (w:World):Calls prog 114 #[.int .i32 r] w (qh (.int .i64 (zR r)) w):=by
 have HF:=Lh (rin2 y8 r);have HM:=Lh (qlD r);have H0:=Lh (@qgk r);have H1:=Lh (@qew r);have H2:=Lh (@qen r);generalize zR r=W at *
 by_cases hc:r<32∨(127<=r/\r<=159)
 ·have HW:Hid (W = -1):=Lh (H0.out hc);clear H0 H1 H2 HM HF
  rcases hc with hc | ⟨hc1,hc2⟩
  ·go_enter func114,ntmps114
   go_wp2;go_ret;exact ⟨by rw [HW.out];rfl,by first | exact Le _ _ | exact qf (Le _ _)⟩
  ·have hc3 : ¬ r<32:=by omega
   go_enter func114,ntmps114
   go_wp2;go_ret;exact ⟨by rw [HW.out];rfl,by first | exact Le _ _ | exact qf (Le _ _)⟩
 ·have hd : ¬ r<32/\(127<=r/\¬ r<=159∨¬ 127<=r):=by omega
  generalize inT qM r=M at *
  cases M with
  | true =>
   have HW:Hid (W=0):=Lh (H1.out hc rfl);clear H0 H1 H2 HF hc;obtain ⟨hc0,hd⟩:=hd
   rcases hd with ⟨hc1,hc2⟩ | hc1 <;>
   ·go_enter func114,ntmps114
    go_wp2_with (go_at_call 113;refine (HM.out _).mono ?_;rintro e w1 ⟨rfl,hbel1⟩)
    go_ret;exact ⟨by rw [HW.out];rfl,hbel1⟩
  | false =>
   have HW:Hid (W=if inT y8 r=true then 2 else 1):=Lh (H2.out hc rfl);generalize inT y8 r=V at *
   clear H0 H1 H2 hc;obtain ⟨hc0,hd⟩:=hd
   rcases hd with ⟨hc1,hc2⟩ | hc1 <;> cases V <;>
   ·go_enter func114,ntmps114
    go_wp2_with (first
     | (go_at_call 113;refine (HM.out _).mono ?_;rintro e w1 ⟨rfl,hbel1⟩)
     | (go_at_call 132;refine (rwide _).mono ?_;rintro e w2 ⟨A2,c2,rfl,hown2,hbel2⟩;have t2:=hbel1.trans (hbel2.mono hbel1.size))
     | (go_at_call 130;refine (HF.out 14 c2 _ A2 _ rfl L0 (Rd.of_own hown2)).mono ?_;rintro e w4 ⟨rfl,q4,rfl⟩))
    go_ret;exact ⟨by rw [HW.out];rfl,qf t2⟩
theorem rvalid (s:ByteArray) (hs:s.size<=1000000000) (w:World):Calls prog 112 #[.string s] w (qh (.bool (vb s)) w):=by
 have HD:=Lh (qiF s hs w);have hl:=jB s;have HE:Hid (∀ (A:Option Addr) (c:Nat) (w:World),Rd w w.heap.size 1 A (qs (qB s)).length (chV (qs (qB s)))->Calls prog 129 #[.slice A (qs (qB s)).length c] w (qh (.string (yI (qs (qB s)))) w)):=Lh fun A c w rd=>qlX _ (yD _) A _ c w.heap.size w rfl L0 rd (Ld _)
 have HV:=Lh (qbR s);have HP:Hid (vb s=true->(zJ (qB s) (u0,[])).1.m=0):=Lh qf2;unfold DecP at HD;generalize (zJ (qB s) (u0,[])).1.m=m at *
 generalize vb s=R at *
 generalize yI (qs (qB s))=E at *
 generalize qs (qB s)=L at *
 by_cases hm':m=0
 ·have hm:=Lh hm';clear hm'
  cases R with
  | true =>
   have hq:=Lh (HV.out.2 rfl)
   go_enter func112,ntmps112
   go_upto_region 2 with (go_at_call 126;refine HD.out.mono ?_;rintro e w1 ⟨A1,c1,rest,rfl,hown1,hbel1,hrest⟩;have hre:rest.toList.isEmpty=true:=(by rw [hrest.2 hm.out,ByteArray.toList_eq];rfl))
   clear HV HP HD hm
   go_wp2_with (go_at_call 129;refine (HE.out _ _ _ (Rd.of_own hown1)).mono ?_;rintro e w2 ⟨rfl,hbel2⟩;obtain rfl:=hq.out)
   all_goals go_ret
   all_goals exact ⟨rfl,hbel1.trans (hbel2.mono hbel1.size)⟩
  | false =>
   have hq:E≠s:=fun h=>(by have:=HV.out.1 h;cases this)
   have hq2:(E.toList==s.toList)=false:=by rw [jO];simp [hq]
   go_enter func112,ntmps112
   go_wp2_with (first
    | (go_at_call 126;refine HD.out.mono ?_;rintro e w1 ⟨A1,c1,rest,rfl,hown1,hbel1,hrest⟩;have hre:rest.toList.isEmpty=true:=(by rw [hrest.2 hm.out,ByteArray.toList_eq];rfl))
    | (go_at_call 129;refine (HE.out _ _ _ (Rd.of_own hown1)).mono ?_;rintro e w2 ⟨rfl,hbel2⟩))
   all_goals go_ret
   all_goals exact ⟨rfl,hbel1.trans (hbel2.mono hbel1.size)⟩
 ·have hR:R=false:=by
   cases R with
   | false=>rfl
   | true=>exact absurd (HP.out rfl) hm'
  subst hR
  go_enter func112,ntmps112
  go_wp2_with (go_at_call 126;refine HD.out.mono ?_;rintro e w1 ⟨A1,c1,rest,rfl,hown1,hbel1,hrest⟩;have hne:rest.size≠0:=(fun h=>hm' (hrest.1 (ByteArray.ext (Array.eq_empty_of_size_eq_zero h))));have hne2:=kT hne)
  all_goals go_ret
  all_goals exact ⟨rfl,hbel1⟩
theorem encS_one (r:Nat):yI [r]=kt r:=by
 unfold yI kt
 simp [zm]
theorem chV_new (w:World) (r:Nat) (e:TypeId):Rd (w.alloc (.cells #[.int .i32 (r:Int)] e)) (w.alloc (.cells #[.int .i32 (r:Int)] e)).heap.size 1 (some ⟨w.heap.size,0,none⟩) 1 (chV [r]):=Rd.more (qe (xs:=chV [r]) rfl rfl) L1
theorem qlp (r:Nat) (hr:qR r) (w:World):Calls prog 184 #[.int .i32 (r:Int)] w (qh (.string (kt r)) w):=by
 have HE:Hid (∀ (A:Option Addr) (c:Nat) (w:World),Rd w w.heap.size 1 A 1 (chV [r])->Calls prog 129 #[.slice A 1 c] w (qh (.string (kt r)) w)):=Lh fun A c w rd=>by
  rw [<- encS_one];exact qlX [r] (fun x hx=>by rw [List.mem_singleton] at hx;subst hx;exact hr) A 1 c w.heap.size w rfl L0 rd (Ld _)
 generalize kt r=E at *
 go_enter func184,ntmps184
 go_wp2_with (go_at_call 129;refine (HE.out _ _ _ (chV_new _ r _)).mono ?_;rintro e w1 ⟨rfl,hbel1⟩)
 go_ret;exact ⟨rfl,(L5).trans (hbel1.mono L1)⟩
theorem qad (s:ByteArray) (hs:s.size<=1000000000) (w:World):Calls prog 104 #[.string s] w (ql 21 1 id w (qs (qB s)).length (chV (qs (qB s)))):=by
 have HD:=Lh (qiF s hs w);unfold DecP at HD;generalize (zJ (qB s) (u0,[])).1.m=m at *
 generalize qs (qB s)=L at *
 go_enter func104,ntmps104
 go_wp2_with (go_at_call 126;refine HD.out.mono ?_;rintro e w1 ⟨A1,c1,rest,rfl,hown1,hbel1,hrest⟩)
 go_ret;exact ⟨A1,c1,rfl,hown1,hbel1⟩
theorem qe6 (w:World):Calls prog 89 #[.string ⟨#[]⟩] w (qh (.int .i64 3) w):=by
 go_enter func89,ntmps89
 go_wp2;go_ret;exact ⟨rfl,Le _ _⟩
theorem qhh (s:ByteArray) (hs:s.size<=1000000000) (h0:s.size≠0) (hv:vb s=false) (w:World):Calls prog 89 #[.string s] w (qh (.int .i64 3) w):=by
 have HV:=Lh (rvalid s hs w);rw [hv] at HV;have he:=kT h0;clear hv
 go_enter func89,ntmps89
 go_wp2_with (go_at_call 112;refine HV.out.mono ?_;rintro e w1 ⟨rfl,hbel1⟩)
 go_ret;exact ⟨rfl,hbel1⟩
theorem qlR {r:Int} (h:inT qM r=true):zR r<1:=by
 unfold zR
 split
 ·omega
 ·simp [h]
theorem qgI (s:ByteArray) (hs:s.size<=1000000000) (h0:s.size≠0) (hv:vb s=true) (w:World) (r:Nat) (t:List Nat) (hc:qs (qB s)=r::t) :
  Calls prog 89 #[.string s] w (qh (.int .i64 (if zR (r:Int)<1∨(t.all fun (x:Nat)=>inT qM (x:Int))=false then 9 else if 3<t.length then 5 else 0)) w):=by
 have HV:=Lh (rvalid s hs w);rw [hv] at HV;have he:=kT h0;have HC:=Lh (qad s hs);have hl:=jB s;rw [hc] at HC hl;rw [Lp] at HC hl;have HW:=Lh (qlk (r:Int));have HM:=Lh (qlD (r:Int));have HML:Hid (inT qM (r:Int)=true->zR (r:Int)<1):=Lh qlR;generalize zR (r:Int)=W at *
 obtain ⟨RES,hRES⟩ : ∃ x:Int,x=if W<1∨(t.all fun (x:Nat)=>inT qM (x:Int))=false then 9 else if 3<t.length then 5 else 0:=⟨_,rfl⟩
 rw [<- hRES];have HRES:=Lh hRES;clear hv hc hRES;generalize inT qM (r:Int)=M0 at *
 cases M0 with
 | true =>
  have hw:=HML.out rfl;have HR2:Hid (RES=9):=Lh (by rw [HRES.out,if_pos (.inl hw)]);clear hw HRES HML
  go_enter func89,ntmps89
  go_wp2_with (first
   | (go_at_call 112;refine HV.out.mono ?_;rintro e w1 ⟨rfl,hbel1⟩)
   | (go_at_call 104;refine (HC.out _).mono ?_;rintro e w2 ⟨A2,c2,rfl,hown2,hbel2⟩;have t2:=hbel1.trans (hbel2.mono hbel1.size);obtain ⟨b,o,rfl,_,hcc⟩:=(Rd.of_own hown2).2 L0;have cell0:=hcc 0 _ rfl;simp only [Nat.add_zero] at cell0)
   | (go_at_call 113;refine (HM.out _).mono ?_;rintro e w3 ⟨rfl,hbel3⟩;have t3:=t2.trans (hbel3.mono t2.size)))
  go_ret;exact ⟨by rw [HR2.out];rfl,t3⟩
 | false =>
  by_cases hw:W<1
  ·have HR2:Hid (RES=9):=Lh (by rw [HRES.out,if_pos (.inl hw)]);clear HRES HML
   go_enter func89,ntmps89
   go_wp2_with (first
    | (go_at_call 112;refine HV.out.mono ?_;rintro e w1 ⟨rfl,hbel1⟩)
    | (go_at_call 104;refine (HC.out _).mono ?_;rintro e w2 ⟨A2,c2,rfl,hown2,hbel2⟩;have t2:=hbel1.trans (hbel2.mono hbel1.size);obtain ⟨b,o,rfl,_,hcc⟩:=(Rd.of_own hown2).2 L0;have cell0:=hcc 0 _ rfl;simp only [Nat.add_zero] at cell0)
    | (go_at_call 113;refine (HM.out _).mono ?_;rintro e w3 ⟨rfl,hbel3⟩;have t3:=t2.trans (hbel3.mono t2.size);have cell1:=(hbel3.cell (yY cell0)).trans cell0)
    | (go_at_call 114;refine (HW.out _).mono ?_;rintro e w4 ⟨rfl,hbel4⟩;have t4:=t3.trans (hbel4.mono t3.size)))
   go_ret;exact ⟨by rw [HR2.out];rfl,t4⟩
  ·have HRA:Hid ((t.all fun (x:Nat)=>inT qM (x:Int))=false->RES=9):=Lh fun h=>by rw [HRES.out,if_pos (.inr h)]
   have HRB:Hid ((t.all fun (x:Nat)=>inT qM (x:Int))=true->RES=if 3<t.length then 5 else 0):=Lh fun h=>by rw [HRES.out,if_neg (by rw [not_or];exact ⟨hw,by simp [h]⟩)]
   have HF:Hid ((t.all fun (x:Nat)=>inT qM (x:Int))=((t.drop 0).all fun (x:Nat)=>inT qM (x:Int))):=Lh rfl;generalize (t.all fun (x:Nat)=>inT qM (x:Int))=R at *
   clear HRES HML
   go_enter func89,ntmps89
   go_wp2_with (first
    | (go_at_call 112;refine HV.out.mono ?_;rintro e w1 ⟨rfl,hbel1⟩)
    | (go_at_call 104;refine (HC.out _).mono ?_;rintro e w2 ⟨A2,c2,rfl,hown2,hbel2⟩;have t2:=hbel1.trans (hbel2.mono hbel1.size);have rd2:=Rd.of_own hown2;obtain ⟨b,o,rfl,_,hcc⟩:=rd2.2 L0;have cell0:=hcc 0 _ rfl;simp only [Nat.add_zero] at cell0)
    | (go_at_call 113;refine (HM.out _).mono ?_;rintro e w3 ⟨rfl,hbel3⟩;have t3:=t2.trans (hbel3.mono t2.size);have cell1:=(hbel3.cell (yY cell0)).trans cell0)
    | (go_at_call 114;refine (HW.out _).mono ?_;rintro e w4 ⟨rfl,hbel4⟩;have t4:=t3.trans (hbel4.mono t3.size);have b4:=hbel3.trans (hbel4.mono hbel3.size)))
   go_loopw [4] (fun x wr=>∃ j:Nat,j<=t.length/\x = .int .i64 ((j:Int)+1)/\Below w.heap.size w wr/\Below w2.heap.size w2 wr/\Hid (R=((t.drop j).all fun (x:Nat)=>inT qM (x:Int)))) (fun x _=>t.length+1-(intOf x).toNat)
   case atStart=>exact ⟨0,Nat.zero_le _,rfl,t4,b4,HF⟩
   case round =>
    obtain ⟨j,hj,rfl,hbel,hbel2',HR⟩:=hrel
    by_cases hlt:j<t.length
    ·have hc:wr.cell? ⟨b,o+(j+1),none⟩=some (.int .i32 (t[j]:Int)):=(hbel2'.cell (Ly L3 (Ld _))).trans (hcc (j+1) _ (by simp [chV,hlt]));have HD:Hid (t.drop j=t[j]::t.drop (j+1)):=Lh (Ls hlt);generalize t[j]=x at *
     have HMx:=Lh (qlD (x:Int) wr);have HT:Hid (inT qM (x:Int)=true->R=((t.drop (j+1)).all fun (x:Nat)=>inT qM (x:Int))):=Lh fun h=>by rw [HR.out,HD.out,List.all_cons,h,Bool.true_and]
     have HZ:Hid (inT qM (x:Int)=false->R=false):=Lh fun h=>by rw [HR.out,HD.out,List.all_cons,h,Bool.false_and]
     generalize inT qM (x:Int)=M at *
     clear HR HD
     cases M with
     | true =>
      have HR2:=Lh (HT.out rfl)
      go_wp2_with (go_at_call 113;refine HMx.out.mono ?_;rintro e w5 ⟨rfl,hbel5⟩)
      exact ⟨⟨j+1,by omega,by go_num,hbel.trans (hbel5.mono hbel.size),hbel2'.trans (hbel5.mono hbel2'.size),HR2⟩,by simp [intOf];omega⟩
     | false =>
      have HR2:=Lh (HRA.out (HZ.out rfl))
      go_wp2_with (go_at_call 113;refine HMx.out.mono ?_;rintro e w5 ⟨rfl,hbel5⟩)
      go_ret;exact ⟨by rw [HR2.out];rfl,hbel.trans (hbel5.mono hbel.size)⟩
    ·have HR2:=Lh (HRB.out (by rw [HR.out,Lv L0];rfl));clear HRA HRB HR HF
     by_cases h3:3<t.length
     ·rw [if_pos h3] at HR2;go_wp2;go_ret;exact ⟨by rw [HR2.out];rfl,hbel⟩
     ·rw [if_neg h3] at HR2;go_wp2;go_ret;exact ⟨by rw [HR2.out];rfl,hbel⟩
theorem qlE (s:ByteArray) (hs:s.size<=1000000000) (w:World):Calls prog 89 #[.string s] w (qh (.int .i64 (zB s)) w):=by
 by_cases h0:s.size=0
 ·rw [qaK h0];obtain rfl:s=⟨#[]⟩:=ByteArray.ext (Array.eq_empty_of_size_eq_zero h0);exact qe6 w
 ·unfold zB
  cases hv:vb s with
  | false=>exact qhh s hs h0 hv w
  | true =>
   rw [if_neg L1]
   cases hc:qs (qB s) with
   | nil =>
    exfalso
    rw [vb,decide_eq_true_eq,hc] at hv;have:=congrArg List.length hv;rw [zT] at this;exact h0 this.symm
   | cons r t=>exact qgI s hs h0 hv w r t hc
theorem rwidthC (s:ByteArray) (hs:s.size<=1000000000) (w:World):Calls prog 90 #[.string s] w (qh (.int .i64 (kb s)) w):=by
 have HK:=Lh (qlE s hs w);have HC:=Lh (qad s hs);unfold kb
 by_cases h0:zB s=0
 ·rw [if_pos h0];rw [h0] at HK;obtain ⟨hv,r,t,hL,_⟩:=vL.1 h0;rw [hL] at HC;rw [hL];have HW:=Lh (qlk (r:Int));simp only [List.headD_cons];generalize zR (r:Int)=W at *
  have hlen:0<(r::t).length:=by simp
  have HG:Hid ((chV (r::t))[0]? = some (.int .i32 (r:Int))):=Lh rfl;generalize (r::t)=L at *
  clear h0 hv hL
  go_enter func90,ntmps90
  go_wp2_with (first
   | (go_at_call 89;refine HK.out.mono ?_;rintro e w1 ⟨rfl,hbel1⟩)
   | (go_at_call 104;refine (HC.out _).mono ?_;rintro e w2 ⟨A2,c2,rfl,hown2,hbel2⟩;have t2:=hbel1.trans (hbel2.mono hbel1.size);obtain ⟨b,o,rfl,_,hcc⟩:=(Rd.of_own hown2).2 L0;have cell0:=hcc 0 _ HG.out;simp only [Nat.add_zero] at cell0)
   | (go_at_call 114;refine (HW.out _).mono ?_;rintro e w3 ⟨rfl,hbel3⟩;have t3:=t2.trans (hbel3.mono t2.size)))
  go_ret;exact ⟨rfl,t3⟩
 ·rw [if_neg h0];generalize zB s=K at *
  have hcb:(K != 0)=true:=Ln.2 h0;clear h0
  go_enter func90,ntmps90
  go_wp2_with (go_at_call 89;refine HK.out.mono ?_;rintro e w1 ⟨rfl,hbel1⟩)
  go_ret;exact ⟨rfl,hbel1⟩
theorem rattach (s:ByteArray) (hs:s.size<=1000000000) (r:Nat) (hr:qR r) (w:World) :
  Calls prog 171 #[.string s,.int .i32 (r:Int)] w (qh (attV (ye s (r:Int))) w):=by
 have HK:=Lh (qlE s hs w);have HM:=Lh (qlD (r:Int));unfold ye
 by_cases hc:zB s=0
 ·rw [if_neg (by simp [hc])];rw [hc] at HK;generalize hmk:inT qM (r:Int)=M at *
  cases M with
  | false =>
   rw [if_pos rfl]
   go_enter func171,ntmps171
   go_wp2_with (first
    | (go_at_call 89;refine HK.out.mono ?_;rintro e w1 ⟨rfl,hbel1⟩)
    | (go_at_call 113;refine (HM.out _).mono ?_;rintro e w2 ⟨rfl,hbel2⟩))
   go_ret2;exact ⟨rfl,hbel1.trans (hbel2.mono hbel1.size)⟩
  | true =>
   rw [if_neg L1];have HL:=Lh (qad s hs);have HE:=Lh (qlp r hr);have hpos:(qs (qB s)).length<=4:=by
    obtain ⟨_,r,t,hL,_,_,h3⟩:=vL.1 hc;rw [hL];simp;omega
   have HS:Hid ((kt r).size<=4):=Lh (by
    have:=(qaR r).2
    show (List.toArray _).size<=4
    simpa using this)
   have hto:(r:Int).toNat=r:=rfl;rw [hto];generalize qs (qB s)=L at *
   generalize kt r=E at *
   clear hc hmk
   by_cases h4:4<=L.length
   ·rw [if_pos h4]
    go_enter func171,ntmps171
    go_wp2_with (first
     | (go_at_call 89;refine HK.out.mono ?_;rintro e w1 ⟨rfl,hbel1⟩)
     | (go_at_call 113;refine (HM.out _).mono ?_;rintro e w2 ⟨rfl,hbel2⟩;have t2:=hbel1.trans (hbel2.mono hbel1.size))
     | (go_at_call 104;refine (HL.out _).mono ?_;rintro e w3 ⟨A3,c3,rfl,_,hbel3⟩;have t3:=t2.trans (hbel3.mono t2.size);have zl:((L.length:Int)==4)=true:=beq_iff_eq.2 L0))
    go_ret2;exact ⟨rfl,t3⟩
   ·rw [if_neg h4];have hS:=HS.out
    go_enter func171,ntmps171
    go_wp2_with (first
     | (go_at_call 89;refine HK.out.mono ?_;rintro e w1 ⟨rfl,hbel1⟩)
     | (go_at_call 113;refine (HM.out _).mono ?_;rintro e w2 ⟨rfl,hbel2⟩;have t2:=hbel1.trans (hbel2.mono hbel1.size))
     | (go_at_call 104;refine (HL.out _).mono ?_;rintro e w3 ⟨A3,c3,rfl,_,hbel3⟩;have t3:=t2.trans (hbel3.mono t2.size);have zl:((L.length:Int)==4)=false:=Lm.2 L0)
     | (go_at_call 184;refine (HE.out _).mono ?_;rintro e w4 ⟨rfl,hbel4⟩))
    go_ret2;exact ⟨rfl,t3.trans (hbel4.mono t3.size)⟩
 ·rw [if_pos hc];generalize zB s=K at *
  have hcb:(K != 0)=true:=Ln.2 hc;clear hc
  go_enter func171,ntmps171
  go_wp2_with (go_at_call 89;refine HK.out.mono ?_;rintro e w1 ⟨rfl,hbel1⟩)
  go_ret2;exact ⟨rfl,hbel1⟩
theorem qky (g:Gl) (hs:g.text.size<=1000000000) (w:World):Calls prog 53 #[glV g] w (qh (.int .i64 (qJ g)) w):=by
 have HK:=Lh (qlE g.text hs);have HW:=Lh (rwidthC g.text hs);have hq:=qdC g.text;unfold qJ;obtain ⟨t,wd,st⟩:=g;dsimp only at *
 by_cases hc:zB t=0
 ·rw [if_neg (by simp [hc])];rw [hc] at HK;clear hc;generalize kb t=W at *
  by_cases h1:wd=decide (W=2)
  ·have e1:(wd==(W==2))=true:=by
    cases wd <;> by_cases h:W=2 <;> simp_all
   by_cases h2:st<0
   ·rw [if_pos (.inr (.inl h2))];have d2:decide (st<0)=true:=Ll h2;clear hq h1
    go_enter func53,ntmps53
    go_upto_region 1 with fail
    refine qa (GlBox w t wd st) (GlBox.new w t wd st _) ?_;rintro wb hgb;obtain ⟨c0,_,_,hb0,hz0⟩:=id hgb
    go_upto_region 3 with (go_at_call 89;refine (HK.out _).mono ?_;rintro e w1 ⟨rfl,hbel1⟩;have hg1:=hgb.on hbel1)
    obtain ⟨d0,d1,d2,hb1,hz1⟩:=id hg1;have N0 : ∀ x:Near w1.heap.size w1,x.w.cell? ⟨w.heap.size,0,none⟩=some (.string t):=fun x=>(x.h.cell L7).trans d0
    have N1 : ∀ x:Near w1.heap.size w1,x.w.cell? ⟨w.heap.size,1,none⟩=some (.bool wd):=fun x=>(x.h.cell L7).trans d1
    have N2 : ∀ x:Near w1.heap.size w1,x.w.cell? ⟨w.heap.size,2,none⟩=some (.int .i64 st):=fun x=>(x.h.cell L7).trans d2
    have hzz:=Ld w1.heap.size;clear d0 d1 d2 hg1 hgb c0;refine qc w1.heap.size ?_;(repeat (go_big_quiet_step ((go_at_call 90;exact Calls.near _ hzz (HW.out _)))));refine wpQuiet_nil ?_;intro x1;go_wp2;go_ret;exact ⟨rfl,hb1.trans (x1.h.mono L0)⟩
   ·have d2:decide (st<0)=false:=Lk h2
    by_cases h3:3<st
    ·rw [if_pos (.inr (.inr (.inl h3)))];have d3:decide (3<st)=true:=Ll h3;clear hq h1
     go_enter func53,ntmps53
     go_upto_region 1 with fail
     refine qa (GlBox w t wd st) (GlBox.new w t wd st _) ?_;rintro wb hgb;obtain ⟨c0,_,_,hb0,hz0⟩:=id hgb
     go_upto_region 3 with (go_at_call 89;refine (HK.out _).mono ?_;rintro e w1 ⟨rfl,hbel1⟩;have hg1:=hgb.on hbel1)
     obtain ⟨d0,d1,d2,hb1,hz1⟩:=id hg1;have N0 : ∀ x:Near w1.heap.size w1,x.w.cell? ⟨w.heap.size,0,none⟩=some (.string t):=fun x=>(x.h.cell L7).trans d0
     have N1 : ∀ x:Near w1.heap.size w1,x.w.cell? ⟨w.heap.size,1,none⟩=some (.bool wd):=fun x=>(x.h.cell L7).trans d1
     have N2 : ∀ x:Near w1.heap.size w1,x.w.cell? ⟨w.heap.size,2,none⟩=some (.int .i64 st):=fun x=>(x.h.cell L7).trans d2
     have hzz:=Ld w1.heap.size;clear d0 d1 d2 hg1 hgb c0;refine qc w1.heap.size ?_;(repeat (go_big_quiet_step ((go_at_call 90;exact Calls.near _ hzz (HW.out _)))));refine wpQuiet_nil ?_;intro x1;go_wp2;go_ret;exact ⟨rfl,hb1.trans (x1.h.mono L0)⟩
    ·have d3:decide (3<st)=false:=Lk h3
     by_cases h4:st=3
     ·by_cases h5:t=⟨#[42]⟩
      ·rw [if_neg (by rw [not_or,not_or,not_or];exact ⟨fun h=>h h1,h2,h3,fun h=>h.2 h5⟩)];have e5:(t.toList==[42])=true:=by rw [hq];simp [h5]
       have e4:(st==3)=true:=beq_iff_eq.2 h4;clear hq h1 h5 h4
       go_enter func53,ntmps53
       go_upto_region 1 with fail
       refine qa (GlBox w t wd st) (GlBox.new w t wd st _) ?_;rintro wb hgb;obtain ⟨c0,_,_,hb0,hz0⟩:=id hgb
       go_upto_region 3 with (go_at_call 89;refine (HK.out _).mono ?_;rintro e w1 ⟨rfl,hbel1⟩;have hg1:=hgb.on hbel1)
       obtain ⟨d0,d1,d2,hb1,hz1⟩:=id hg1;have N0 : ∀ x:Near w1.heap.size w1,x.w.cell? ⟨w.heap.size,0,none⟩=some (.string t):=fun x=>(x.h.cell L7).trans d0
       have N1 : ∀ x:Near w1.heap.size w1,x.w.cell? ⟨w.heap.size,1,none⟩=some (.bool wd):=fun x=>(x.h.cell L7).trans d1
       have N2 : ∀ x:Near w1.heap.size w1,x.w.cell? ⟨w.heap.size,2,none⟩=some (.int .i64 st):=fun x=>(x.h.cell L7).trans d2
       have hzz:=Ld w1.heap.size;clear d0 d1 d2 hg1 hgb c0;refine qc w1.heap.size ?_;(repeat (go_big_quiet_step ((go_at_call 90;exact Calls.near _ hzz (HW.out _)))));refine wpQuiet_nil ?_;intro x1;go_wp2;go_ret;exact ⟨rfl,hb1.trans (x1.h.mono L0)⟩
      ·rw [if_pos (.inr (.inr (.inr ⟨h4,h5⟩)))];have e5:(t.toList==[42])=false:=by rw [hq];simp [h5]
       have e4:(st==3)=true:=beq_iff_eq.2 h4;clear hq h1 h5 h4
       go_enter func53,ntmps53
       go_upto_region 1 with fail
       refine qa (GlBox w t wd st) (GlBox.new w t wd st _) ?_;rintro wb hgb;obtain ⟨c0,_,_,hb0,hz0⟩:=id hgb
       go_upto_region 3 with (go_at_call 89;refine (HK.out _).mono ?_;rintro e w1 ⟨rfl,hbel1⟩;have hg1:=hgb.on hbel1)
       obtain ⟨d0,d1,d2,hb1,hz1⟩:=id hg1;have N0 : ∀ x:Near w1.heap.size w1,x.w.cell? ⟨w.heap.size,0,none⟩=some (.string t):=fun x=>(x.h.cell L7).trans d0
       have N1 : ∀ x:Near w1.heap.size w1,x.w.cell? ⟨w.heap.size,1,none⟩=some (.bool wd):=fun x=>(x.h.cell L7).trans d1
       have N2 : ∀ x:Near w1.heap.size w1,x.w.cell? ⟨w.heap.size,2,none⟩=some (.int .i64 st):=fun x=>(x.h.cell L7).trans d2
       have hzz:=Ld w1.heap.size;clear d0 d1 d2 hg1 hgb c0;refine qc w1.heap.size ?_;(repeat (go_big_quiet_step ((go_at_call 90;exact Calls.near _ hzz (HW.out _)))));refine wpQuiet_nil ?_;intro x1;go_wp2;go_ret;exact ⟨rfl,hb1.trans (x1.h.mono L0)⟩
     ·rw [if_neg (by rw [not_or,not_or,not_or];exact ⟨fun h=>h h1,h2,h3,fun h=>h4 h.1⟩)];have e4:(st==3)=false:=Lm.2 h4;clear hq h1
      go_enter func53,ntmps53
      go_upto_region 1 with fail
      refine qa (GlBox w t wd st) (GlBox.new w t wd st _) ?_;rintro wb hgb;obtain ⟨c0,_,_,hb0,hz0⟩:=id hgb
      go_upto_region 3 with (go_at_call 89;refine (HK.out _).mono ?_;rintro e w1 ⟨rfl,hbel1⟩;have hg1:=hgb.on hbel1)
      obtain ⟨d0,d1,d2,hb1,hz1⟩:=id hg1;have N0 : ∀ x:Near w1.heap.size w1,x.w.cell? ⟨w.heap.size,0,none⟩=some (.string t):=fun x=>(x.h.cell L7).trans d0
      have N1 : ∀ x:Near w1.heap.size w1,x.w.cell? ⟨w.heap.size,1,none⟩=some (.bool wd):=fun x=>(x.h.cell L7).trans d1
      have N2 : ∀ x:Near w1.heap.size w1,x.w.cell? ⟨w.heap.size,2,none⟩=some (.int .i64 st):=fun x=>(x.h.cell L7).trans d2
      have hzz:=Ld w1.heap.size;clear d0 d1 d2 hg1 hgb c0;refine qc w1.heap.size ?_;(repeat (go_big_quiet_step ((go_at_call 90;exact Calls.near _ hzz (HW.out _)))));refine wpQuiet_nil ?_;intro x1;go_wp2;go_ret;exact ⟨rfl,hb1.trans (x1.h.mono L0)⟩
  ·rw [if_pos (.inl h1)];have e2:(wd==(W==2))=false:=by
    cases wd <;> by_cases h:W=2 <;> simp_all
   clear hq h1
   go_enter func53,ntmps53
   go_upto_region 1 with fail
   refine qa (GlBox w t wd st) (GlBox.new w t wd st _) ?_;rintro wb hgb;obtain ⟨c0,_,_,hb0,hz0⟩:=id hgb
   go_upto_region 3 with (go_at_call 89;refine (HK.out _).mono ?_;rintro e w1 ⟨rfl,hbel1⟩;have hg1:=hgb.on hbel1)
   obtain ⟨d0,d1,d2,hb1,hz1⟩:=id hg1;have N0 : ∀ x:Near w1.heap.size w1,x.w.cell? ⟨w.heap.size,0,none⟩=some (.string t):=fun x=>(x.h.cell L7).trans d0
   have N1 : ∀ x:Near w1.heap.size w1,x.w.cell? ⟨w.heap.size,1,none⟩=some (.bool wd):=fun x=>(x.h.cell L7).trans d1
   have N2 : ∀ x:Near w1.heap.size w1,x.w.cell? ⟨w.heap.size,2,none⟩=some (.int .i64 st):=fun x=>(x.h.cell L7).trans d2
   have hzz:=Ld w1.heap.size;clear d0 d1 d2 hg1 hgb c0;refine qc w1.heap.size ?_;(repeat (go_big_quiet_step ((go_at_call 90;exact Calls.near _ hzz (HW.out _)))));refine wpQuiet_nil ?_;intro x1;go_wp2;go_ret;exact ⟨rfl,hb1.trans (x1.h.mono L0)⟩
 ·rw [if_pos hc];generalize zB t=K at *
  have hcb:(K != 0)=true:=Ln.2 hc;clear hc hq
  go_enter func53,ntmps53
  go_upto_region 1 with fail
  refine qa (GlBox w t wd st) (GlBox.new w t wd st _) ?_;rintro wb hgb;obtain ⟨c0,_,_,hb0,hz0⟩:=id hgb
  go_wp2_with (go_at_call 89;refine (HK.out _).mono ?_;rintro e w1 ⟨rfl,hbel1⟩)
  go_ret;exact ⟨rfl,hb0.trans (hbel1.mono L0)⟩
theorem kY (s:Setts) (f:Nat) (q:Spk) (g:Gl) (t:List Gl):qQ s (f+1) q (g::t) =
  if jJ q s (g::t) (qo (g::t) s.rep)=true then qQ s f { q with silent:=true } ((g::t).drop (qo (g::t) s.rep))
  else qQ s f (sayL q s ((g::t).take (qo (g::t) s.rep))) ((g::t).drop (qo (g::t) s.rep)):=by
 show (if g::t=[] then q else _)=_
 rw [if_neg L1]
theorem qa7 (s:Setts) : ∀ (f f':Nat) (q:Spk) (l:List Gl),l.length<=f->l.length<=f'->qQ s f q l=qQ s f' q l
 | 0,f',q,l,h1,h2=>by
  obtain rfl:l=[]:=List.length_eq_zero_iff.1 L0
  cases f' with
  | zero=>rfl
  | succ f'=>simp [qQ]
 | f+1,0,q,l,h1,h2=>by
  obtain rfl:l=[]:=List.length_eq_zero_iff.1 L0
  simp [qQ]
 | f+1,f'+1,q,l,h1,h2=>by
  cases l with
  | nil=>simp [qQ]
  | cons g t =>
   have hp:=vz (g:=g) (t:=t) s.rep;have hd:((g::t).drop (qo (g::t) s.rep)).length<=t.length:=by
    rw [List.length_drop,Lp];omega
   rw [Lp] at h1 h2;rw [kY,kY];have e:=fun q'=>qa7 s f f' q' ((g::t).drop (qo (g::t) s.rep)) L0 L0
   rw [e,e]
theorem jR (s:Setts) (q:Spk) (g:Gl) (t:List Gl):qQ s (g::t).length q (g::t) =
  if jJ q s (g::t) (qo (g::t) s.rep)=true then qQ s ((g::t).drop (qo (g::t) s.rep)).length { q with silent:=true } ((g::t).drop (qo (g::t) s.rep))
  else qQ s ((g::t).drop (qo (g::t) s.rep)).length (sayL q s ((g::t).take (qo (g::t) s.rep))) ((g::t).drop (qo (g::t) s.rep)):=by
 have hp:=vz (g:=g) (t:=t) s.rep;have hd:((g::t).drop (qo (g::t) s.rep)).length<=t.length:=by
  rw [List.length_drop,Lp];omega
 rw [Lp,kY];have e:=fun q'=>qa7 s t.length _ q' ((g::t).drop (qo (g::t) s.rep)) hd (Ld _)
 rw [e,e]
theorem WoI.skip {S:Setts} {R:List ByteArray} {q:Spk} {g:Gl} {t:List Gl} (h:WoI S R q (g::t)) (hb:jJ q S (g::t) (qo (g::t) S.rep)=true) :
  WoI S R { q with silent:=true } ((g::t).drop (qo (g::t) S.rep)):=by
 obtain ⟨h1,h2,h3,h4⟩:=h;rw [jR,if_pos hb] at h1;refine ⟨h1,fun x hx=>h2 x (List.mem_of_mem_drop hx),?_,h4⟩
 show q.out.length+50000 * ((g::t).drop _).length<=_
 rw [List.length_drop]
 omega
theorem qjp (l:List Gl) (A:Option Addr) (n c B:Nat) (w:World) (hm:n<=1000000000) (rd:Rd w B 3 A n (qi l)):Calls prog 48 #[.slice A n c] w fun e w'=>e = .returned (.int .i64 (vM l:Nat))/\w'=w:=by
 have HN:=Lh (jK rd);have HRd:=Lh rd;have HL:Hid (∀ k,kw (l.take k)<=n):=Lh fun k=>by rw [<- HN.out];exact qcf l k
 have HE:Hid (vM l=n+kw (l.take n)):=Lh (by unfold vM;rw [HN.out,List.take_of_length_le (Nat.le_of_eq HN.out)]);generalize vM l=R at *
 clear rd
 go_enter func48,ntmps48
 go_wp2
 go_loop [3,4] (fun v x=>∃ k:Nat,k<=n/\x = .int .i64 k/\v = .int .i64 ((k+kw (l.take k):Nat):Int)) (fun _ x=>n-(intOf x).toNat)
 case atStart=>exact ⟨0,Nat.zero_le _,rfl,rfl⟩
 case round =>
  obtain ⟨k,hk,rfl,rfl⟩:=hrel
  by_cases hlt:k<n
  ·have hkl:k<l.length:=by have:=HN.out;omega
   obtain ⟨b,o,rfl,_,-,g1,-⟩:=jE HRd.out hkl HN.out;have HT:=Lh (qcw hkl);have hW:=HL.out k;generalize kw (l.take k)=W1 at *
   generalize l[k].wide=wd at *
   cases wd
   ·go_wp2;exact ⟨⟨k+1,by omega,by go_num,by rw [HT.out];simp only [Bool.toNat_false];go_num⟩,by simp [intOf];omega⟩
   ·go_wp2;exact ⟨⟨k+1,by omega,by go_num,by rw [HT.out];simp only [Bool.toNat_true];go_num⟩,by simp [intOf];omega⟩
  ·obtain rfl:k=n:=by omega
   go_wp2;go_ret;exact ⟨by rw [HE.out];rfl,rfl⟩
theorem q6 (w0 h0:Int) (w:World):Calls prog 52 #[.int .i64 w0,.int .i64 h0] w fun e w'=>e = .returned (.bool (vR w0 h0))/\w=w':=by
 by_cases h1:1<=w0
 ·by_cases h2:w0<=132
  ·by_cases h3:1<=h0
   ·by_cases h4:h0<=60
    ·go_enter func52,ntmps52
     go_wp2;go_ret;exact ⟨by unfold vR;rw [Ll L0];rfl,rfl⟩
    ·go_enter func52,ntmps52
     go_wp2;go_ret;exact ⟨by unfold vR;rw [Lk L0];rfl,rfl⟩
   ·go_enter func52,ntmps52
    go_wp2;go_ret;exact ⟨by unfold vR;rw [Lk L0];rfl,rfl⟩
  ·go_enter func52,ntmps52
   go_wp2;go_ret;exact ⟨by unfold vR;rw [Lk L0];rfl,rfl⟩
 ·go_enter func52,ntmps52
  go_wp2;go_ret;exact ⟨by unfold vR;rw [Lk L0];rfl,rfl⟩
theorem qks (n a b:Int) (w:World):Calls prog 81 #[.int .i64 n,.int .i64 a,.int .i64 b] w fun e w'=>e = .returned (.bool (inB n a b))/\w=w':=by
 unfold inB
 by_cases h1:a<=n
 ·by_cases h2:n<=b
  ·go_enter func81,ntmps81
   go_wp2;go_ret;exact ⟨by simp [h1,h2],rfl⟩
  ·go_enter func81,ntmps81
   go_wp2;go_ret;exact ⟨by simp [h1,h2],rfl⟩
 ·go_enter func81,ntmps81
  go_wp2;go_ret;exact ⟨by rw [Lk (show ¬ a<=n by omega)];rfl,rfl⟩
theorem qjx (g:Gl) (w:World):Calls prog 54 #[glV g] w (qh (.bool (decide (g=spG))) w):=by
 have hq:=eq_gl g spG;have hg:=qa2 g spG .eql;unfold glV spG at hq hg;unfold spG;generalize decide (g=_)=R at *
 obtain ⟨t,wd,st⟩:=g;dsimp only at *
 go_enter func54,ntmps54
 go_wp2;go_ret;exact ⟨rfl,L5⟩
theorem qkD (l:List Gl) (A:Option Addr) (n c B:Nat) (w:World) (hm:n<=1000000000) (hc:n<=c) (hcm:c<=maxLen) (rd:Rd w B 3 A n (qi l)) (hB:B<=w.heap.size):Calls prog 83 #[.slice A n c] w (ql 64 3 id w (zI l).length (qi (zI l))):=by
 have HN:=Lh (jK rd);have HG:Hid (∀ k (hk:k<l.length) w',Below w.heap.size w w'->∃ b o,A=some ⟨b,o,none⟩/\b<w.heap.size/\(w'.cell? ⟨b,(o+k * 3),none⟩=some (.string l[k].text)/\w'.cell? ⟨b,(o+k * 3)+1,none⟩=some (.bool l[k].wide)/\w'.cell? ⟨b,(o+k * 3)+2,none⟩=some (.int .i64 l[k].style))):=Lh fun k hk w' hb=>jE ((rd.more hB).below hb) hk (jK rd)
 have HR:Hid (∀ k,k<=n->Rd w w.heap.size 3 A k (qi (l.take k))):=Lh fun k hk=>by
  rw [kM];exact (rd.more hB).take hk
 have HT:Hid (∀ k (hk:k<l.length),zI (l.take (k+1))=if l[k]=spG then zI (l.take k) else l.take (k+1)):=Lh fun k hk=>qjX hk
 have H0:Hid (zI l=zI (l.take n)):=Lh (by rw [List.take_of_length_le (Nat.le_of_eq HN.out)]);clear rd;have hcc:(c:Int)<=9223372036854775807:=by unfold maxLen at hcm;omega
 clear hcm
 go_enter func83,ntmps83
 go_wp2
 go_loopw [3] (fun v wr=>∃ k:Nat,k<=n/\v = .int .i64 k/\Below w.heap.size w wr/\Hid (zI l=zI (l.take k))) (fun v _=>(intOf v).toNat)
 case atStart=>exact ⟨n,Ld _,rfl,Le _ _,H0⟩
 case round =>
  clear H0;obtain ⟨k,hk,rfl,hb,HK⟩:=hrel;have hzz:=hb.size
  by_cases h0:k=0
  ·have HL:Hid (zI l=l.take k):=Lh (by rw [HK.out,h0];rfl);have hk0:decide (0<k)=false:=Lk L0;clear h0 HG HT
   go_wp2_with (at_builtin;go_must (refine qg rfl _ _ _ rfl qbz (w.heap.size) _ rfl (qx (xs:=[]) (by rfl) rfl hzz L0) _ _ rfl ((HR.out _ hk).below (hb.alloc hzz _)) ?_);intro A4 c4 w4 hown4 hbel4 hgr4 hat4;have z4:=hbel4.size;(try simp only [Li] at z4);(try simp only [Lo,Lg] at hown4))
   go_ret;rw [HL.out,Lu,HN.out,Nat.min_eq_left hk];exact ⟨A4,c4,by first | rfl | (rw [Lo];rfl),hown4,(hb.alloc hzz _).trans hbel4⟩
  ·obtain ⟨j,rfl⟩ : ∃ j,k=j+1:=⟨k-1,by omega⟩
   have hjl:j<l.length:=by have:=HN.out;omega
   obtain ⟨b,o,rfl,hbB,g0,g1,g2⟩:=HG.out j hjl _ hb;have HL:=HK.out;rw [HT.out j hjl] at HL;replace HL:=Lh HL;have HBk:=Lh (qjx l[j]);generalize l[j]=g at *
   by_cases he:g=spG
   ·rw [if_pos he] at HL;rw [Ll he] at HBk;clear he HG HT;obtain ⟨t,wd,st⟩:=g;dsimp only at *
    clear h0
    go_wp2_with (go_at_call 54;refine (HBk.out _).mono ?_;rintro e w1 ⟨rfl,hb1⟩)
    exact ⟨⟨j,by omega,by go_num,hb.trans (hb1.mono hb.size),HL⟩,by simp [intOf]⟩
   ·rw [if_neg he] at HL;rw [Lk he] at HBk;clear he HG HT;obtain ⟨t,wd,st⟩:=g;dsimp only at *
    clear h0
    go_wp2_with (first
     | (go_at_call 54;refine (HBk.out _).mono ?_;rintro e w1 ⟨rfl,hb1⟩;have hb2:=hb.trans (hb1.mono hb.size);have hz2:=hb2.size)
     | (at_builtin;go_must (refine qg rfl _ _ _ rfl qbz (w.heap.size) _ rfl (qx (xs:=[]) (by rfl) rfl hz2 L0) _ _ rfl ((HR.out _ hk).below (hb2.alloc hz2 _)) ?_);intro A4 c4 w4 hown4 hbel4 hgr4 hat4;have z4:=hbel4.size;(try simp only [Li] at z4);(try simp only [Lo,Lg] at hown4)))
    go_ret;rw [HL.out,Lu,HN.out,Nat.min_eq_left hk];exact ⟨A4,c4,by first | rfl | (rw [Lo];rfl),hown4,(hb2.alloc hz2 _).trans hbel4⟩
theorem wrap_k1 (k:Nat) (hk:k<=15):wrap64 ((k:Int)+1)=(k:Int)+1:=by unfold wrap64;omega
theorem wrap_km (k m:Nat) (hk:k<=15) (hm:m<=950000):wrap64 ((k:Int)+1+(m:Int))=(k:Int)+1+(m:Int):=by unfold wrap64;omega
theorem rs4 : ∀ m:Fin 1000,100<=m.val->qG m.val=[m.val / 100,28]++(if m.val % 100=0 then [] else qG (m.val % 100)):=by decide +kernel
theorem qef (m:Nat) (hm:m<100) (w:World) (ht:Tb w) :
  Calls prog 111 #[.int .i64 m] w (ql 9 1 id w (qG m).length (wv (qG m))):=by
 by_cases c1:m<20
 ·have hc:=ht.1 m c1;have HL:=Lh (rs1 ⟨m,c1⟩);simp only at HL;clear ht
  go_enter func111,ntmps111
  go_wp2;go_ret;rw [HL.out];exact ⟨_,_,rfl,qx (xs:=[_]) rfl rfl (Ld _) (by first | omega | (simp only [Lp,List.length_nil];omega)),L5⟩
 have hc2:=ht.2 (m / 10-2) L0;rw [show 20+(m / 10-2)=18+m / 10 from by omega] at hc2
 by_cases c2:m % 10=0
 ·have HL:=Lh (rs2 ⟨m,hm⟩ (by simp;omega) c2);simp only at HL;have c2':((m:Int) % 10==0)=true:=by rw [beq_iff_eq];omega
  clear ht c2;have c1':(20:Int)<=(m:Int):=by omega
  go_enter func111,ntmps111
  go_wp2;go_ret;rw [HL.out];exact ⟨_,_,rfl,qx (xs:=[_]) rfl rfl (Ld _) (by first | omega | (simp only [Lp,List.length_nil];omega)),L5⟩
 ·have HL:=Lh (rs3 ⟨m,hm⟩ (by simp;omega) c2);simp only at HL;have hc1:=ht.1 (m % 10) L0;have c2':((m:Int) % 10==0)=false:=by rw [Lm];omega
  clear ht c2;have b1:(0:Int)<=(m:Int) % 10:=by omega
  have b2:(m:Int) % 10<20:=by omega
  have b3:(0:Int)<=(m:Int) / 10-2:=by omega
  have b4:(m:Int) / 10-2<8:=by omega
  have n1:=World.new_ne w _ hc1;have n2:=World.new_ne w _ hc2
  go_enter func111,ntmps111
  go_wp2;have r1:(m:Int).tdiv 10=m / 10:=Int.tdiv_eq_ediv_of_nonneg L0;have r2:(m:Int).tmod 10=m % 10:=Int.tmod_eq_emod_of_nonneg L0;have r3:IntKind.i64.wrap ((m:Int) / 10)=m / 10:=IntWalk.i64_in _ L0;have r4:IntKind.i64.wrap ((m:Int) / 10-2)=m / 10-2:=IntWalk.i64_in _ L0;have r5:IntKind.i64.wrap ((m:Int) % 10)=m % 10:=IntWalk.i64_in _ L0;have r6:((m:Int) / 10-2).toNat=m / 10-2:=by omega
  have b5:(2:Int)<=(m:Int) / 10:=by omega
  have b6:(m:Int) / 10<10:=by omega
  have b7:(m:Int) / 10<8+2:=by omega
  have r7:((m:Int) % 10).toNat=m % 10:=by omega
  go_region_held3 (fun w'=>w'.cell? ⟨3,m / 10-2,none⟩=some (.string (wb (18+m / 10)))/\w'.cell? ⟨2,m % 10,none⟩=some (.string (wb (m % 10)))) (go_keep) (first | fail)
  clear r1 r2 r3 r4 r5 r6 r7 b7;go_wp2;go_ret;rw [HL.out];exact ⟨_,_,rfl,qx (xs:=[_,_]) rfl rfl (Ld _) (by first | omega | (simp only [Lp,List.length_nil];omega)),by exact ql8⟩
theorem qha (m:Nat) (hm:m<1000) (w:World) (ht:Tb w) :
  Calls prog 111 #[.int .i64 m] w (ql 9 1 id w (qG m).length (wv (qG m))):=by
 by_cases c0:m<100
 ·exact qef m c0 w ht
 have c1:100<=m:=by omega
 have hc:=ht.1 (m / 100) L0;have HL:=Lh (rs4 ⟨m,hm⟩ c1);simp only at HL;have HR:Hid (∀ w,Tb w->Calls prog 111 #[.int .i64 ((m:Int) % 100)] w (ql 9 1 id w (qG (m % 100)).length (wv (qG (m % 100))))):=Lh fun w ht=>by
  have:=qef (m % 100) L0 w ht
  rwa [Int.natCast_emod] at this
 have HT:=Lh ht;have c2:(20:Int)<=(m:Int):=by omega
 by_cases c3:m % 100=0
 ·have c3':((m:Int) % 100 != 0)=false:=by rw [bne_eq_false_iff_eq];omega
  have HL2:Hid (qG m=[m / 100,28]):=Lh (by rw [HL.out,if_pos c3];rfl);clear ht c3 c0
  go_enter func111,ntmps111
  go_wp2_with fail
  go_ret;rw [HL2.out];exact ⟨_,_,rfl,qx (xs:=[_,_]) rfl rfl (Ld _) (by first | omega | (simp only [Lp,List.length_nil];omega)),by exact ql8⟩
 ·have c3':((m:Int) % 100 != 0)=true:=by rw [Ln];omega
  have HL2:Hid (qG m=[m / 100,28]++qG (m % 100)):=Lh (by rw [HL.out,if_neg c3]);have hle:(qG (m % 100)).length<=4:=by
   unfold qG
   split
   ·simp
   ·exact kJ _
  generalize qG (m % 100)=L at *
  clear ht c3 c0
  go_enter func111,ntmps111
  go_wp2_with (first
   | (go_at_call 111;refine (HR.out _ (HT.out.below (by exact L5))).mono ?_;rintro e w1 ⟨A1,c1,rfl,hown1,hbel1⟩;have z1:=hbel1.size;simp only [Li] at z1;have hown0:w1.ownsRow w.heap.size 9 1 (.slice (some ⟨w.heap.size,0,none⟩) 2 2) 2 [.string (wb (m / 100)),.string (wb 28)]:=qb (qx (by rfl) rfl (Ld _) L0) hbel1)
   | (at_builtin;refine qg rfl _ _ _ rfl qp (w.heap.size) _ rfl (hown0) _ _ rfl (Rd.of_own hown1) ?_;intro A2 c2 w2 hown2 hbel2 hgr2 hat2;have z2:=hbel2.size;(try simp only [Li] at z2);(try simp only [Lo,Lg] at hown2)))
  go_ret;rw [HL2.out];have e:([m / 100,28]++L).length=2+L.length:=by simp;omega
  refine ⟨A2,c2,by rw [e];rfl,?_,((L5).trans (hbel1.mono L1)).trans (hbel2.mono L0)⟩;rw [e]
  simpa [wv] using hown2
def zp (n:Nat):List Nat:=if n=0 then [0] else posL n
theorem qd3 (n:Nat) (h:n<1000):zp n=qG n:=by
 unfold zp qG
 by_cases h0:n=0
 ·rw [if_pos h0,if_pos h0]
 ·rw [if_neg h0,if_neg h0,km];have a:n / 1000000=0:=by omega
  have b:n % 1000000 / 1000=0:=by omega
  have c:n % 1000000 % 1000=n:=by omega
  rw [a,b,c]
  simp [yO,qak,show 0<n by omega]
theorem qd6 (n:Nat) (h1:1000<=n) (h2:n<1000000):zp n=qG (n / 1000)++[29]++(if n % 1000=0 then [] else zp (n % 1000)):=by
 have e:(if n % 1000=0 then [] else zp (n % 1000))=qak (n % 1000):=by
  by_cases h0:n % 1000=0
  ·rw [if_pos h0,h0];rfl
  ·rw [if_neg h0,qd3 _ L0,qG,if_neg h0,qak,if_pos L0]
 rw [e,zp,if_neg L0,km,qG,if_neg L0];have a:n / 1000000=0:=by omega
 have b:n % 1000000 / 1000=n / 1000:=by omega
 have c:n % 1000000 % 1000=n % 1000:=by omega
 rw [a,b,c]
 simp [yO,show 0<n / 1000 by omega]
theorem qeZ (n:Nat) (h1:1000000<=n) (h2:n<1000000000):zp n=qG (n / 1000000)++[30]++(if n % 1000000=0 then [] else zp (n % 1000000)):=by
 have e:(if n % 1000000=0 then [] else zp (n % 1000000))=yO (n % 1000000 / 1000) 29++qak (n % 1000000 % 1000):=by
  by_cases h0:n % 1000000=0
  ·rw [if_pos h0,h0];rfl
  ·have a:n % 1000000 / 1000000=0:=by omega
   have b:n % 1000000 % 1000000=n % 1000000:=by omega
   rw [if_neg h0,zp,if_neg h0,km,a,b]
   simp [yO]
 rw [e,zp,if_neg L0,km,qG,if_neg L0,yO,if_pos L0]
 simp
theorem qdh (n:Nat):(zp n).length<=14:=by
 unfold zp
 split
 ·simp
 ·rw [km];have a:=qbm (n / 1000000) 30;have b:=qbm (n % 1000000 / 1000) 29;have c:(qak (n % 1000000 % 1000)).length<=4:=by
   unfold qak
   split
   ·exact kJ _
   ·simp
  simp only [Lf]
  omega
theorem qd5 (n:Nat):(qG n).length<=4:=by
 unfold qG
 split
 ·simp
 ·exact kJ _
end Go.Proofs.YtbogmeeijdaijaaGreatDoor
