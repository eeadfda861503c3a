/- Joined: Pa1, Pa2, Pa3, Pa4, Ur1, Ur2, Pa5. -/
import Derived.Test.YtggegijlfaipfaaGreatDoorZAD
set_option linter.unusedVariables false
set_option linter.unusedSimpArgs false
set_option linter.unnecessarySimpa false
set_option maxHeartbeats 8000000
namespace Go.Proofs.YtggegijlfaipfaaGreatDoor
open Go.Proofs.Tryz Go.RowKit
set_option maxRecDepth 20000
def jh (nb:Nat) (v u:Value) (st:Int) (j:Bool):Array Value:=#[.map (some nb),v,u,.int .i64 st,.bool j]
def PaS (w:World) (g nb:Nat) (p:Prs):Prop :=
 ∃ A n c A2 c2,n<=c/\c<=maxLen/\Blk w g 176 (jh nb (.slice A n c) (.slice A2 p.out.length c2) p.style p.joins)/\Rd w g 1 A n (sv p.words)/\w.ownsRow (g+1) 61 3 (.slice A2 p.out.length c2) p.out.length (qi p.out)
theorem PaS.lt {w:World} {g nb:Nat} {p:Prs} (h:PaS w g nb p):g<w.heap.size:=by
 obtain ⟨A,n,c,A2,c2,_,_,h,_⟩:=h;exact h.lt
theorem PaS.below {w w':World} {g nb:Nat} {p:Prs} (h:PaS w g nb p) (hb:Below w.heap.size w w'):PaS w' g nb p:=by
 have hl:=h.lt;obtain ⟨A,n,c,A2,c2,h1,h2,h3,h4,h5⟩:=h;exact ⟨A,n,c,A2,c2,h1,h2,h3.below hb hl,h4.below (hb.mono (Lr hl)),qb h5 hb⟩
def PaK (p:Prs):Prop:=(∀ s∈p.words,s.size<=1000)/\p.out.length+1100 * p.words.length<=1000000000/\(∀ x∈p.out,x.text.size+8 * p.words.length<=8000000)
theorem PaK.len {p:Prs} (h:PaK p):p.words.length<=950000:=by have:=h.2.1;omega
theorem PaK.sz {p:Prs} (h:PaK p) : ∀ s∈p.words,s.size<=maxLen:=fun s hs=>Lj (h.1 s hs) L2
def PaR (g nb:Nat) (p:Prs) (o:Option Prs) (w:World) (e:Ending) (w':World):Prop :=
 Below g w w'/\match o with
 | some q=>e = .returned (.bool true)/\PaS w' g nb q
 | none=>e = .returned (.bool false)/\PaS w' g nb p/\Below w.heap.size w w'
theorem next_ (p:Prs) (g nb:Nat) (w:World) (h:PaS w g nb p):Calls prog 160 #[.pointer (some ⟨g,0,none⟩)] w (qh (.string (p.words.headD ⟨#[]⟩)) w):=by
 obtain ⟨A,n,c,A2,c2,h1,h2,h3,h4,h5⟩:=h;have C1:=h3.cell 1;simp only [jh,La,Lb,Lc] at C1;obtain ⟨W,O,S,J⟩:=p;dsimp only at *
 cases W with
 | nil =>
  obtain rfl:n=0:=by have:=h4.1;simp [sv] at this;omega
  rw [show ([]:List ByteArray).headD ⟨#[]⟩=⟨#[]⟩ from rfl];clear h1 h2 h3 h4 h5
  go_enter func160,ntmps160
  go_wp2;go_ret;exact ⟨rfl,Le _ _⟩
 | cons s t =>
  have hn:0<n:=by have:=h4.1;simp [sv] at this;omega
  obtain ⟨b,o,rfl,hb,hc⟩:=h4.at_ hn;have hc':w.cell? ⟨b,o,none⟩=some (.string s):=hc;rw [List.headD_cons];clear h1 h2 h3 h4 h5 hc
  go_enter func160,ntmps160
  go_wp2;go_ret;exact ⟨rfl,Le _ _⟩
theorem take_ (p:Prs) (k:Nat) (hk:k<=p.words.length) (g nb:Nat) (w:World) (h:PaS w g nb p) :
  Calls prog 161 #[.pointer (some ⟨g,0,none⟩),.int .i64 k] w fun e w'=>e = .returned (.tuple #[])/\PaS w' g nb ⟨p.words.drop k,p.out,p.style,p.joins⟩/\Below g w w':=by
 obtain ⟨A,n,c,A2,c2,h1,h2,h3,h4,h5⟩:=h;have C1:=h3.cell 1;have F1:=h3.frozen 1;simp only [jh,La,Lb,Lc] at C1;have hn:p.words.length=n:=by have:=h4.1;simp [sv] at this;omega
 have hkn:k<=n:=by omega
 have hc63:c<=9223372036854775807:=by unfold maxLen at h2;omega
 have HF:Hid (∀ A' N C,Rd w g 1 A' N (sv (p.words.drop k))->N<=C->C<=maxLen->PaS (w.setCell ⟨g,1,none⟩ (.slice A' N C)) g nb ⟨p.words.drop k,p.out,p.style,p.joins⟩):=Lh fun A' N C hr hN hC =>
  ⟨A',N,C,A2,c2,hN,hC,by have:=h3.set_ 1 (.slice A' N C);simpa [jh] using this,hr.below (show Below g w (w.setCell ⟨g,1,none⟩ (.slice A' N C)) from (Le g w).setCell (Ld g) _),zZ h5 (Nat.lt_succ_self _) _⟩
 have HRd:Hid (Rd w g 1 (if c=k then A else A.map (·.add (k * 1))) (n-k) (sv (p.words.drop k))):=Lh (by
  have:=h4.cut hkn h1
  rwa [show (sv p.words).drop (k * 1)=sv (p.words.drop k) by simp [sv]] at this)
 have hcm:=h2;clear h2 h3 h4 h5 hn hk
 by_cases hck:c=k
 ·subst hck;rw [if_pos rfl] at HRd;obtain rfl:n=c:=by omega
  rw [Nat.sub_self] at HRd;have HG:=Lh (HF.out _ _ 0 HRd.out L0 L0);clear HF HRd
  go_enter func161,ntmps161
  go_wp2;go_end0;exact ⟨rfl,HG.out,(Le g w).setCell (Ld g) _⟩
 ·rw [if_neg hck] at HRd;have HG:=Lh (HF.out _ _ (c-k) HRd.out L0 L0);clear HF HRd;rw [Nat.mul_one] at HG
  go_enter func161,ntmps161
  go_wp2;go_end0;exact ⟨rfl,HG.out,(Le g w).setCell (Ld g) _⟩
theorem par_put {X w4:World} {g nb n N c0 c4:Nat} {A0 A4:Option Addr} {v:Value} {st:Int} {j:Bool} {ys:List Value}
  (hX:Blk X g 176 (jh nb v (.slice A0 n c0) st j)) (qmC:w4.ownsRow (g+1) 61 3 (.slice A4 N c4) N ys) (qmy:Below (g+1) X w4) :
  Blk (w4.setCell ⟨g,2,none⟩ (.slice A4 N c4)) g 176 (jh nb v (.slice A4 N c4) st j)/\(w4.setCell ⟨g,2,none⟩ (.slice A4 N c4)).ownsRow (g+1) 61 3 (.slice A4 N c4) N ys/\Below g X (w4.setCell ⟨g,2,none⟩ (.slice A4 N c4)):=by
 have hb4:=hX.below qmy (Nat.lt_succ_self g);refine ⟨?_,zZ qmC (Nat.lt_succ_self g) _,(qmy.mono (Nat.le_succ g)).setCell (Ld _) _⟩;have:=hb4.set_ 2 (.slice A4 N c4)
 simpa [jh] using this
def PaT (w:World) (g nb:Nat) (v:Value) (st:Int) (j:Bool) (O:List Gl) (wx:World):Prop :=
 ∃ A c,Blk wx g 176 (jh nb v (.slice A O.length c) st j)/\wx.ownsRow (g+1) 61 3 (.slice A O.length c) O.length (qi O)/\Below g w wx
theorem PaT.put {w X w4:World} {g nb n N c0 c4:Nat} {A0 A4:Option Addr} {v:Value} {st:Int} {j:Bool} {ys:List Value} {O:List Gl}
  (hX:Blk X g 176 (jh nb v (.slice A0 n c0) st j)) (tX:Below g w X) (qmC:w4.ownsRow (g+1) 61 3 (.slice A4 N c4) N ys) (qmy:Below (g+1) X w4) (hN:O.length=N) (hy:qi O=ys) :
  PaT w g nb v st j O (w4.setCell ⟨g,2,none⟩ (.slice A4 N c4)):=by
 subst hN hy;obtain ⟨h1,h2,h3⟩:=par_put hX qmC qmy;exact ⟨A4,c4,h1,h2,tX.trans h3⟩
theorem qeF (s:ByteArray) (j:Nat) (h:j<s.size):s.extract j (j+1)=⟨#[s[j]]⟩:=by
 apply ByteArray.ext
 apply Array.toList_inj.1
 rw [ByteArray.data_extract];simp only [Array.toList_extract,List.extract_eq_take_drop];rw [Nat.add_sub_cancel_left,Ls (by simpa using h)]
 rfl
theorem qjr (O:List Gl) (st:Int) (T:List UInt8) (j:Nat) (h:j<T.length):O++(T.take (j+1)).map (chG st)=(O++(T.take j).map (chG st))++[chG st T[j]]:=by
 rw [(List.take_append_getElem h).symm,List.map_append,<- List.append_assoc]
 rfl
theorem qbe (g:Gl):qi [g]=ym g:=by simp [qi]
theorem text_ (p:Prs) (s:ByteArray) (hs:s.size<=1000000) (ho:p.out.length<=1000000000) (g nb:Nat) (w:World) (h:PaS w g nb p) :
  Calls prog 164 #[.pointer (some ⟨g,0,none⟩),.string s] w fun e w'=>e = .returned (.tuple #[])/\PaS w' g nb ⟨p.words,p.out++vm p.joins p.style s,p.style,true⟩/\Below g w w':=by
 have hgl:=h.lt;obtain ⟨A,n,c,A2,c2,h1,h2,h3,h4,h5⟩:=h;obtain ⟨W,O,st,J⟩:=p;dsimp only at *
 have HF:Hid (∀ w',PaT w g nb (.slice A n c) st true (O++vm J st s) w'->PaS w' g nb ⟨W,O++vm J st s,st,true⟩/\Below g w w'):=Lh fun w' ⟨A',c',a1,a2,a3⟩ =>
  ⟨⟨A,n,c,A',c',h1,h2,a1,h4.below a3,a2⟩,a3⟩
 obtain ⟨O1,hO1⟩ : ∃ x,x=O++(if J=true then [chG st 32] else []):=⟨_,rfl⟩
 have hO1l:O1.length<=O.length+1:=by
  rw [hO1,Lf]
  split <;> simp
 have HE:Hid (O++vm J st s=O1++(s.data.toList.take s.data.toList.length).map (chG st)):=Lh (by rw [hO1,vm,List.take_length,List.append_assoc]);have HT:Hid (∀ j (h:j<s.size),O1++(s.data.toList.take (j+1)).map (chG st)=(O1++(s.data.toList.take j).map (chG st))++[chG st s[j]]):=Lh fun j h=>qjr O1 st _ j (by simpa using h)
 have HX:Hid (∀ j (h:j<s.size),s.extract j (j+1)=⟨#[s[j]]⟩):=Lh (qeF s);have HL:Hid (∀ j,(O1++(s.data.toList.take j).map (chG st)).length<=1000000001+j):=Lh fun j=>by
  rw [Lf,Lq,Lu]
  omega
 have HZ:Hid (s.data.toList.length=s.size):=Lh L1;have H0:Hid (O1=O1++(s.data.toList.take 0).map (chG st)):=Lh L1;generalize O++vm J st s=Q at *
 generalize hv:Value.slice A n c=v at *
 have C2:=h3.cell 2;have C3:=h3.cell 3;have C4:=h3.cell 4;have F2:=h3.frozen 2;simp only [jh,La,Lb,Lc] at C2 C3 C4;have tw:Below g w w:=Le _ _;clear h1 h2 h4 hv
 cases J with
 | false =>
  rw [if_neg L1,List.append_nil] at hO1;have hpa:PaT w g nb v st false O1 w:=by subst hO1;exact ⟨A2,c2,h3,h5,tw⟩
  clear hO1 hO1l
  go_enter func164,ntmps164
  go_upto_block 0 with fail
  go_upto_region 2 with fail
  refine qa (PaT w g nb v st false O1) hpa ?_;clear hpa C2 C3 C4 F2 tw;clear h3 h5;intro wx hpx;go_wp2
  go_loopw [25] (fun x wr=>∃ j:Nat,j<=s.size/\x = .int .i64 j/\PaT w g nb v st false (O1++(s.data.toList.take j).map (chG st)) wr) (fun x _=>s.size-(intOf x).toNat)
  case atStart=>exact ⟨0,Nat.zero_le _,rfl,by rw [<- H0.out];exact hpx⟩
  case round =>
   clear hpx;obtain ⟨j,hj,rfl,A6,c6,Bx,ox,tx⟩:=hrel
   by_cases hlt:j<s.size
   ·have hx:=HX.out j hlt;have HTj:=Lh (HT.out j hlt);have qnQ:=HL.out j;have HQl:Hid ((O1++(s.data.toList.take (j+1)).map (chG st)).length=(O1++(s.data.toList.take j).map (chG st)).length+1):=Lh (by rw [HTj.out,Lf];rfl);have HQs:Hid (qi (O1++(s.data.toList.take (j+1)).map (chG st))=qi (O1++(s.data.toList.take j).map (chG st))++ym (chG st s[j])):=Lh (by rw [HTj.out,kF,qbe]);clear HTj HT HX HE H0 HF HL;generalize O1++(s.data.toList.take j).map (chG st)=OJ at *
    generalize s[j]=cj at *
    have C2:=Bx.cell 2;have C3:=Bx.cell 3;have F2:=Bx.frozen 2;simp only [jh,La,Lb,Lc] at C2 C3;have qnB:=(World.ownsRow.alloc (qb ox (Le wr.heap.size wr).drew) (.cells (ym (chG st cj)).toArray 61))
    have BS:=(Blk.alloc Bx (.cells (ym (chG st cj)).toArray 61)).drew;have hgr:g<wr.heap.size:=Bx.lt;have hwj:IntKind.i64.wrap ((j:Int)+1)=(j:Int)+1:=by rw [Lx];omega
    have hj0:(0:Int)<=(j:Int)+1:=by omega
    have hj1:(j:Int)+1<=s.size:=by omega
    have hj2:(j:Int)<=(j:Int)+1:=by omega
    have hj3:((j:Int)+1).toNat=j+1:=by omega
    have tX:Below g w (wr.alloc (.cells (ym (chG st cj)).toArray 61)).drew:=(tx.alloc (Lr hgr) _).drew
    go_upto_region 5 with fail
    go_region_law (refine jZ rfl _ _ _ rfl qbz ((g+1)) _ rfl (qnB) _ _ rfl ((qe (xs:=ym (chG st cj)) rfl rfl)) (rfl) ?_;intro A4 c4 w4 qmC qmy qmG qmI;have z4:=qmy.size;(try simp only [Lo,Lg] at qmC);have B4:=(Blk.alloc (Blk.drew Bx) (.cells (ym (chG st cj)).toArray 61)).below qmy (Nat.lt_succ_self g);have c42:=B4.cell 2;have f42:=B4.frozen 2;simp only [jh,La,Lb,Lc] at c42)
    all_goals go_wp2
    all_goals exact ⟨⟨j+1,by omega,by go_num,PaT.put BS tX qmC qmy HQl.out HQs.out⟩,by simp [intOf];omega⟩
   ·obtain rfl:j=s.size:=by omega
    have HQ:Hid (Q=O1++(s.data.toList.take s.size).map (chG st)):=Lh (by rw [HE.out,HZ.out]);rw [<- HQ.out] at Bx ox;clear HT HX HE H0 HL HQ;have F4:=Bx.frozen 4;have C4:=Bx.cell 4;simp only [jh,La,Lb,Lc] at C4;go_wp2;go_end0;have h4':=HF.out (wr.setCell ⟨g,4,none⟩ (.bool true)) ⟨A6,c6,by have:=Bx.set_ 4 (.bool true);simpa [jh] using this,zZ ox (Nat.lt_succ_self g) _,tx.setCell (Ld g) _⟩;exact ⟨rfl,h4'.1,h4'.2⟩
 | true =>
  rw [if_pos rfl] at hO1;have hO1l':O1.length=O.length+1:=by rw [hO1];simp
  have hO1s:qi O1=qi O++ym (chG st 32):=by rw [hO1,kF,qbe]
  replace hO1:=Lh hO1
  go_enter func164,ntmps164
  go_upto_block 0 with fail
  go_cut [] (fun wx=>PaT w g nb v st true O1 wx)
  case first =>
   clear HE HT HX HL HZ H0 HF
   go_upto_region 1 with fail
   have qnB:=(World.ownsRow.alloc (qb h5 (Le w.heap.size w).drew) (.cells (ym (chG st 32)).toArray 61))
   have BS:=(Blk.alloc h3 (.cells (ym (chG st 32)).toArray 61)).drew
   go_region_law (refine jZ rfl _ _ _ rfl qbz ((g+1)) _ rfl (qnB) _ _ rfl ((qe (xs:=ym (chG st 32)) rfl rfl)) (rfl) ?_;intro A4 c4 w4 qmC qmy qmG qmI;have z4:=qmy.size;(try simp only [Lo,Lg] at qmC);have B4:=(Blk.alloc (Blk.drew h3) (.cells (ym (chG st 32)).toArray 61)).below qmy (Nat.lt_succ_self g);have c42:=B4.cell 2;have f42:=B4.frozen 2;simp only [jh,La,Lb,Lc] at c42)
   all_goals go_wp2
   all_goals go_meet
   all_goals exact PaT.put BS ((tw.alloc (Lr hgl) _).drew) qmC qmy hO1l' hO1s
  case rest =>
   clear C2 C3 C4 F2 tw;clear h3 h5;have hpx:=hcut;clear hcut;go_wp2
   go_loopw [25] (fun x wr=>∃ j:Nat,j<=s.size/\x = .int .i64 j/\PaT w g nb v st true (O1++(s.data.toList.take j).map (chG st)) wr) (fun x _=>s.size-(intOf x).toNat)
   case atStart=>exact ⟨0,Nat.zero_le _,rfl,by rw [<- H0.out];exact hpx⟩
   case round =>
    clear hpx;obtain ⟨j,hj,rfl,A6,c6,Bx,ox,tx⟩:=hrel
    by_cases hlt:j<s.size
    ·have hx:=HX.out j hlt;have HTj:=Lh (HT.out j hlt);have qnQ:=HL.out j;have HQl:Hid ((O1++(s.data.toList.take (j+1)).map (chG st)).length=(O1++(s.data.toList.take j).map (chG st)).length+1):=Lh (by rw [HTj.out,Lf];rfl);have HQs:Hid (qi (O1++(s.data.toList.take (j+1)).map (chG st))=qi (O1++(s.data.toList.take j).map (chG st))++ym (chG st s[j])):=Lh (by rw [HTj.out,kF,qbe]);clear HTj HT HX HE H0 HF HL;generalize O1++(s.data.toList.take j).map (chG st)=OJ at *
     generalize s[j]=cj at *
     have C2:=Bx.cell 2;have C3:=Bx.cell 3;have F2:=Bx.frozen 2;simp only [jh,La,Lb,Lc] at C2 C3;have qnB:=(World.ownsRow.alloc (qb ox (Le wr.heap.size wr).drew) (.cells (ym (chG st cj)).toArray 61))
     have BS:=(Blk.alloc Bx (.cells (ym (chG st cj)).toArray 61)).drew;have hgr:g<wr.heap.size:=Bx.lt;have hwj:IntKind.i64.wrap ((j:Int)+1)=(j:Int)+1:=by rw [Lx];omega
     have hj0:(0:Int)<=(j:Int)+1:=by omega
     have hj1:(j:Int)+1<=s.size:=by omega
     have hj2:(j:Int)<=(j:Int)+1:=by omega
     have hj3:((j:Int)+1).toNat=j+1:=by omega
     have tX:Below g w (wr.alloc (.cells (ym (chG st cj)).toArray 61)).drew:=(tx.alloc (Lr hgr) _).drew
     go_upto_region 5 with fail
     go_region_law (refine jZ rfl _ _ _ rfl qbz ((g+1)) _ rfl (qnB) _ _ rfl ((qe (xs:=ym (chG st cj)) rfl rfl)) (rfl) ?_;intro A4 c4 w4 qmC qmy qmG qmI;have z4:=qmy.size;(try simp only [Lo,Lg] at qmC);have B4:=(Blk.alloc (Blk.drew Bx) (.cells (ym (chG st cj)).toArray 61)).below qmy (Nat.lt_succ_self g);have c42:=B4.cell 2;have f42:=B4.frozen 2;simp only [jh,La,Lb,Lc] at c42)
     all_goals go_wp2
     all_goals exact ⟨⟨j+1,by omega,by go_num,PaT.put BS tX qmC qmy HQl.out HQs.out⟩,by simp [intOf];omega⟩
    ·obtain rfl:j=s.size:=by omega
     have HQ:Hid (Q=O1++(s.data.toList.take s.size).map (chG st)):=Lh (by rw [HE.out,HZ.out]);rw [<- HQ.out] at Bx ox;clear HT HX HE H0 HL HQ;have F4:=Bx.frozen 4;have C4:=Bx.cell 4;simp only [jh,La,Lb,Lc] at C4;go_wp2;go_end0;have h4':=HF.out (wr.setCell ⟨g,4,none⟩ (.bool true)) ⟨A6,c6,by have:=Bx.set_ 4 (.bool true);simpa [jh] using this,zZ ox (Nat.lt_succ_self g) _,tx.setCell (Ld g) _⟩;exact ⟨rfl,h4'.1,h4'.2⟩
theorem jp {s:ByteArray} (h:s.size≠0):s.toList.isEmpty=false:=by
 rw [ByteArray.toList_eq,List.isEmpty_eq_false_iff];intro e;have:=congrArg List.length e;exact h (by simpa using this)
def azC (c:UInt8):Bool:=decide (97<=c.toNat)&&decide (c.toNat<=122)
theorem qhR (s:ByteArray) (hs:s.size<=1000000000) (w:World):Calls prog 173 #[.string s] w (qh (.bool (azB s)) w):=by
 have HF:Hid (azB s=(!(s.data.toList.isEmpty)&&(s.data.toList.drop 0).all azC)):=Lh rfl;have HS:Hid (∀ j (h:j<s.size),(s.data.toList.drop j).all azC=(azC s[j]&&(s.data.toList.drop (j+1)).all azC)):=Lh fun j h=>by
  rw [Ls (by simpa using h),List.all_cons]
  rfl
 have HE:Hid ((s.data.toList.drop s.size).all azC=true):=Lh (by rw [Lv L1];rfl);have HZ:Hid (s.size=0->s.toList.isEmpty=true/\s.data.toList.isEmpty=true):=Lh fun h=>by
  have:s.data.toList=[]:=List.length_eq_zero_iff.1 (by simpa using h);rw [ByteArray.toList_eq,this];exact ⟨rfl,rfl⟩
 have HY:Hid (s.size≠0->s.toList.isEmpty=false/\s.data.toList.isEmpty=false):=Lh fun h=>by
  refine ⟨jp h,?_⟩;rw [List.isEmpty_eq_false_iff];intro e;have:=congrArg List.length e;exact h (by simpa using this)
 generalize azB s=R at *
 go_enter func173,ntmps173
 go_wp2
 go_loopw [6] (fun x wr=>∃ j:Nat,j<=s.size/\x = .int .i64 j/\Below w.heap.size w wr/\Hid (R=(!(s.data.toList.isEmpty)&&(s.data.toList.drop j).all azC))) (fun x _=>s.size-(intOf x).toNat)
 case atStart=>exact ⟨0,Nat.zero_le _,rfl,Le _ _,HF⟩
 case round =>
  obtain ⟨j,hj,rfl,qnw,HR⟩:=hrel
  by_cases hlt:j<s.size
  ·have HSj:=Lh (HS.out j hlt);have hb:=UInt8.toNat_lt s[j];have hne:=(HY.out L0).2;have HN:Hid (azC s[j]=true->R=(!(s.data.toList.isEmpty)&&(s.data.toList.drop (j+1)).all azC)):=Lh fun h=>by rw [HR.out,HSj.out,h,Bool.true_and]
   have HM:Hid (azC s[j]=false->R=false):=Lh fun h=>by rw [HR.out,HSj.out,h,Bool.false_and,Bool.and_false]
   clear HR HSj HS HE HF HZ HY hne;unfold azC at HN HM;generalize hc:s[j]=c at *
   by_cases h1:c.toNat<97
   ·have i1:decide ((c.toNat:Int)<97)=true:=Ll L0;have HR2:=Lh (HM.out (by rw [Lk L0];rfl));go_wp2;go_ret;exact ⟨by rw [HR2.out];rfl,qnw⟩
   ·have i1:decide ((c.toNat:Int)<97)=false:=Lk L0
    by_cases h2:122<c.toNat
    ·have HR2:=Lh (HM.out (by rw [Ll (show 97<=c.toNat by omega),Lk L0];rfl));go_wp2;go_ret;exact ⟨by rw [HR2.out];rfl,qnw⟩
    ·have HR2:=Lh (HN.out (by rw [Ll (show 97<=c.toNat by omega),Ll (show c.toNat<=122 by omega)];rfl));go_wp2;exact ⟨⟨j+1,by omega,by go_num,qnw,HR2⟩,by simp [intOf];omega⟩
  ·obtain rfl:j=s.size:=by omega
   have HR2:=Lh (HR.out.trans (by rw [HE.out,Bool.and_true]))
   by_cases h0:s.size=0
   ·obtain ⟨e1,e2⟩:=HZ.out h0;go_wp2;go_ret;exact ⟨by rw [HR2.out,e2];rfl,qnw⟩
   ·obtain ⟨e1,e2⟩:=HY.out h0;go_wp2;go_ret;exact ⟨by rw [HR2.out,e2];rfl,qnw⟩
def ql9:Option (ByteArray × Nat)->Value
 | some (s,n)=>.tuple #[.string s,.int .i64 n]
 | none=>.tuple #[.string ⟨#[]⟩,.int .i64 0]
def qaM (t:List ByteArray) (j:Nat):ByteArray:=⟨((t.take j).flatMap fun s=>s.data.toList).toArray⟩
theorem qeD {t:List ByteArray} {j:Nat} (h:j<t.length):qaM t (j+1)=qaM t j++t[j]:=by
 unfold qaM
 apply ByteArray.ext
 rw [ByteArray.data_append]
 apply Array.toList_inj.1
 rw [(List.take_append_getElem h).symm,List.flatMap_append]
 simp
theorem qdr {α:Type} {p:α->Bool} {t:List α} {j:Nat} (hj:j<=t.length) (h : ∀ k (hk:k<t.length),k<j->p t[k]=true) (hs : ∀ hk:j<t.length,p t[j]=false):t.takeWhile p=t.take j:=by
 have e:t=t.take j++t.drop j:=(List.take_append_drop _ _).symm
 conv=>lhs;rw [e]
 rw [List.takeWhile_append_of_pos fun x hx=>by
  obtain ⟨k,hk,rfl⟩:=List.mem_iff_getElem.1 hx;rw [List.getElem_take];rw [Lu] at hk
  exact h k L0 L0]
 rcases Nat.lt_or_ge j t.length with hlt | hge
 ·rw [Ls hlt,List.takeWhile_cons_of_neg (by rw [hs hlt];simp),List.append_nil]
 ·rw [Lv hge]
  simp
theorem qmk {t:List ByteArray} {j:Nat} (hj:j<=t.length) (h : ∀ k (hk:k<t.length),k<j->jQ t[k]=true) (hs : ∀ hk:j<t.length,jQ t[j]=false) :
  ya t=if j=0 then none else if t[j]? = some qaO then some (qaM t j,j+2) else none:=by
 unfold ya;rw [qdr hj h hs,Lu,Nat.min_eq_left hj]
 rfl
theorem qjc {t:List ByteArray} {j:Nat} (hj:j<=t.length) (h : ∀ k (hk:k<t.length),k<j->jQ t[k]=true):(qaM t j).size=j:=by
 induction j with
 | zero=>rfl
 | succ j ih =>
  have h1:=h j L0 L0;unfold jQ at h1;rw [Bool.and_eq_true,decide_eq_true_eq] at h1;rw [qeD L0,ByteArray.size_append,ih L0 fun k hk hkj=>h k hk L0,h1.2]
theorem qct {a b:ByteArray} {l:List UInt8} (hb:b.data.toList=l):(a.toList==l)=decide (a=b):=by rw [<- hb,<- ByteArray.toList_eq,jO]
theorem literal_ (l:List ByteArray) (A:Option Addr) (n c B g nb:Nat) (w:World) (hsz : ∀ s∈l,s.size<=1000) (hl:l.length<=1000000) (rd:Rd w B 1 A n (sv l)) (hB:B<=w.heap.size)
  (hg:g<w.heap.size) (C0:w.cell? ⟨g,0,none⟩=some (.map (some nb))) (hset:SetM w nb 200 jF) :
  Calls prog 162 #[.pointer (some ⟨g,0,none⟩),.slice A n c] w (qh (ql9 (yl l)) w):=by
 have hn:l.length=n:=by have:=rd.1;simp [sv] at this;omega
 have hzz:w.heap.size<=w.heap.size:=Ld _
 cases l with
 | nil =>
  obtain rfl:n=0:=by simpa using hn.symm
  clear rd hset C0
  go_enter func162,ntmps162
  go_wp2;go_ret2;exact ⟨rfl,Le _ _⟩
 | cons a t =>
  have hn1:0<n:=by rw [<- hn];simp
  have ht:t.length+1=n:=by simpa using hn
  obtain ⟨b,o,rfl,hb,hca⟩:=rd.at_ hn1;have ha:w.cell? ⟨b,o,none⟩=some (.string a):=hca;have han : ∀ x:Near w.heap.size w,x.w.cell? ⟨b,o,none⟩=some (.string a):=fun x=>(x.h.cell (by show b<_;omega)).trans ha
  have h0n : ∀ x:Near w.heap.size w,x.w.cell? ⟨g,0,none⟩=some (.map (some nb)):=fun x=>(x.h.cell hg).trans C0
  have hHL : ∀ x:Near w.heap.size w,(Instr.lookup 173 (.map (some nb)) (.string a) false).run prog x.w = .ok (.bool (jF a)) x.w:=fun x=>(hset.below x.h).look a (Lj (hsz a L1) L2)
  have HP:=Lh (qhR a (Lj (hsz a L1) L2));have q1:=qct (a:=a) (b:=vD) (l:=[119,111,114,100]) rfl;have q2:=qct (a:=a) (b:=qS) (l:=[115,112,101,108,108,101,100]) rfl;have haz:=azB a
  by_cases hw:a=vD
  ·rw [Ll hw] at q1;have hne:a≠qS:=by rw [hw];decide +kernel
   rw [Lk hne] at q2;have haz1:azB a=true:=by rw [hw];decide +kernel
   have qnT:jF a=true:=by rw [hw];decide +kernel
   rw [qnT] at hHL;rw [haz1] at HP;have e1:azB (t.headD ⟨#[]⟩)=false->yl (a::t)=none:=fun h=>by
    rw [yl,if_neg (by rw [h];simp),if_neg (by rw [qnT];simp),if_neg hne]
   cases t with
   | nil =>
    obtain rfl:n=1:=by simpa using ht.symm
    rw [e1 L4];clear e1 hne haz1 qnT hset hsz hw hca rd haz
    go_enter func162,ntmps162
    go_upto_region 5 with fail
    refine qc w.heap.size ?_;(repeat (go_big_quiet_step ((go_at_call 173;exact Calls.near _ hzz (HP.out _)))));refine wpQuiet_nil ?_;intro x1;have ha1:=han x1;have hb1:=x1.h;generalize x1.w=w1 at *
    go_wp2;go_ret2;exact ⟨rfl,hb1⟩
   | cons d t' =>
    have hn2:1<n:=by rw [<- ht];simp
    have hcd:=rd.at_ hn2;obtain ⟨b',o',e',_,hcd⟩:=hcd;simp only [Option.some.injEq,Addr.mk.injEq,and_true] at e';obtain ⟨rfl,rfl⟩:=e';have hd:w.cell? ⟨b,o+1,none⟩=some (.string d):=hcd;have HD:=Lh (qhR d (Lj (hsz d L1) L2));rw [List.headD_cons] at e1
    cases hz:azB d with
    | true =>
     have e2:yl (a::d::t')=some (d,2):=by rw [yl,List.headD_cons,if_pos ⟨hw,hz⟩]
     rw [e2];rw [hz] at HD;clear e1 e2 hne haz1 qnT hset hsz hw hca hcd rd haz hz
     go_enter func162,ntmps162
     go_wp2_with (go_at_call 173;refine (HD.out _).mono ?_;rintro e w1 ⟨rfl,qmv⟩;have hd1:=(qmv.cell (p:=⟨b,o+1,none⟩) (by show b<_;omega)).trans hd)
     go_ret2;exact ⟨rfl,qmv⟩
    | false =>
     rw [e1 hz];rw [hz] at HD;clear e1 hne haz1 qnT hset hsz hw hca hcd rd haz hz
     go_enter func162,ntmps162
     go_upto_region 5 with (go_at_call 173;refine (HD.out _).mono ?_;rintro e w1 ⟨rfl,qmv⟩)
     have hzz1:w.heap.size<=w1.heap.size:=qmv.size;have han1 : ∀ x:Near w.heap.size w1,x.w.cell? ⟨b,o,none⟩=some (.string a):=fun x=>han ⟨x.w,qmv.trans x.h⟩
     have h0n1 : ∀ x:Near w.heap.size w1,x.w.cell? ⟨g,0,none⟩=some (.map (some nb)):=fun x=>h0n ⟨x.w,qmv.trans x.h⟩
     have hHL1 : ∀ x:Near w.heap.size w1,(Instr.lookup 173 (.map (some nb)) (.string a) false).run prog x.w = .ok (.bool true) x.w:=fun x=>hHL ⟨x.w,qmv.trans x.h⟩
     refine qc w.heap.size ?_;(repeat (go_big_quiet_step ((go_at_call 173;exact Calls.near _ hzz1 (HP.out _)))));refine wpQuiet_nil ?_;intro x1;have ha1:=han1 x1;have hb1:=qmv.trans x1.h;generalize x1.w=w2 at *
     go_wp2;go_ret2;exact ⟨rfl,hb1⟩
  ·rw [Lk hw] at q1;have e1:yl (a::t)=if azB a=true/\jF a=false then some (a,1) else if a=qS then ya t else none:=if_neg fun h=>hw h.1
   by_cases qmN:azB a=true/\jF a=false
   ·rw [e1,if_pos qmN];rw [qmN.1] at HP;rw [qmN.2] at hHL;clear e1 qmN q2 hset hsz hw hca rd
    go_enter func162,ntmps162
    go_upto_region 5 with fail
    refine qc w.heap.size ?_;(repeat (go_big_quiet_step ((go_at_call 173;exact Calls.near _ hzz (HP.out _)))));refine wpQuiet_nil ?_;intro x1;go_wp2;go_ret2;exact ⟨rfl,x1.h⟩
   ·rw [e1,if_neg qmN];obtain ⟨RES,qmF⟩ : ∃ x,x=if a=qS then ya t else none:=⟨_,rfl⟩
    rw [<- qmF];replace qmF:=Lh qmF;have hcs:azB a=false∨(azB a=true/\jF a=true):=by
     cases h1:azB a with
     | false=>exact .inl rfl
     | true =>
      cases h2:jF a with
      | true=>exact .inr ⟨rfl,rfl⟩
      | false=>exact absurd ⟨h1,h2⟩ qmN
    have hsz':=Lh hsz;clear e1 qmN hset hsz hw hca haz
    go_enter func162,ntmps162
    go_upto_region 5 with fail
    go_cut [30] (fun v wx=>v = .bool false/\Below w.heap.size w wx)
    case first =>
     clear hsz' rd q2
     rcases hcs with hz | ⟨hz,hr⟩
     ·rw [hz] at HP;clear hHL hz;refine qc w.heap.size ?_;(repeat (go_big_quiet_step ((go_at_call 173;exact Calls.near _ hzz (HP.out _)))));refine wpQuiet_nil ?_;intro x1;go_wp2;go_meet;exact ⟨rfl,x1.h⟩
     ·rw [hz] at HP;rw [hr] at hHL;clear hz hr;refine qc w.heap.size ?_;(repeat (go_big_quiet_step ((go_at_call 173;exact Calls.near _ hzz (HP.out _)))));refine wpQuiet_nil ?_;intro x1;go_wp2;go_meet;exact ⟨rfl,x1.h⟩
    case rest =>
     obtain ⟨rfl,hbc⟩:=hcut;clear han h0n hHL HP hcs C0 hg;have ha1:=(hbc.cell (p:=⟨b,o,none⟩) (by show b<_;omega)).trans ha
     by_cases hsp:a=qS
     ·rw [Ll hsp] at q2;replace qmF:=Lh (qmF.out.trans (if_pos hsp));have HLt:Hid (∀ k (hk:k<t.length),t[k].size<=1000):=Lh fun k hk=>hsz'.out _ (List.mem_cons_of_mem _ (Lt hk))
      have HC:Hid (∀ k (hk:k<t.length) w',Below w.heap.size w w'->w'.cell? ⟨b,o+(k+1),none⟩=some (.string t[k])):=Lh fun k hk w' hw=>by
       obtain ⟨b',o',e',_,hcd⟩:=rd.at_ (k:=k+1) L0;simp only [Option.some.injEq,Addr.mk.injEq,and_true] at e';obtain ⟨rfl,rfl⟩:=e';refine (hw.cell (by show b<_;omega)).trans (hcd.trans ?_)
       show (sv (a::t))[k+1]? = _
       simp [sv,hk]
      have HS:Hid (∀ k (hk:k<t.length),qaM t (k+1)=qaM t k++t[k]):=Lh fun k hk=>qeD hk
      have HSt:Hid (∀ j,j<=t.length->(∀ k (hk:k<t.length),k<j->jQ t[k]=true)->(∀ hk:j<t.length,jQ t[j]=false)->ya t=if j=0 then none else if t[j]? = some qaO then some (qaM t j,j+2) else none):=Lh fun j h1 h2 h3=>qmk h1 h2 h3
      have HSz:Hid (∀ j,j<=t.length->(∀ k (hk:k<t.length),k<j->jQ t[k]=true)->(qaM t j).size=j):=Lh fun j h1 h2=>qjc h1 h2
      rw [<- qmF.out] at HSt;clear rd hsz' hsp q1 ha;have hl':t.length<=1000000:=by simp at hl;omega
      have ht':=Lh ht;clear hn hl ht;go_wp2
      go_loopw [7,6] (fun x y wr=>∃ j:Nat,j<=t.length/\x = .int .i64 (j+1:Nat)/\y = .string (qaM t j)/\Below w.heap.size w wr/\Hid (∀ k (hk:k<t.length),k<j->jQ t[k]=true)) (fun x _ _=>n-(intOf x).toNat)
      case atStart=>exact ⟨0,Nat.zero_le _,rfl,rfl,hbc,Lh fun k hk h=>absurd h (Nat.not_lt_zero k)⟩
      case round =>
       clear hbc;obtain ⟨j,hj,rfl,rfl,qnw,HA⟩:=hrel;have hz:=HSz.out j hj HA.out
       by_cases hlt:j<t.length
       ·have hc:=HC.out j hlt wr qnw;have HCn:=Lh (HS.out j hlt);have hxs:=HLt.out j hlt;have HSj:=Lh (HSt.out j hj HA.out);have HAn:Hid (jQ t[j]=true->∀ k (hk:k<t.length),k<j+1->jQ t[k]=true):=Lh fun h k hk hkj=>by
         rcases Nat.lt_or_ge k j with h' | h'
         ·exact HA.out k hk h'
         ·obtain rfl:k=j:=by omega
          exact h
        have HP:=Lh (qhR t[j] (Lj hxs L2));have hqe:=qct (a:=t[j]) (b:=qaO) (l:=[101,110,100]) rfl;have htj:t[j]? = some t[j]:=List.getElem?_eq_getElem hlt;have hjn:j+1<n:=by have:=ht'.out;omega
        by_cases hone:jQ t[j]=true
        ·have HA2:=Lh (HAn.out hone);have ho:=hone;unfold jQ at ho;rw [Bool.and_eq_true,decide_eq_true_eq] at ho;obtain ⟨ho1,ho2⟩:=ho;have hne:t[j]≠qaO:=by rintro e;rw [e] at ho2;cases ho2
         rw [Lk hne] at hqe;rw [ho1] at HP;clear HSj HAn HSt hone hne ho1 HS HSz HC htj;generalize t[j]=x at *
         generalize qaM t j=CJ at *
         go_wp2_with (go_at_call 173;refine (HP.out _).mono ?_;rintro e w1 ⟨rfl,qmv⟩;have hc1:=(qmv.cell (p:=⟨b,o+(j+1),none⟩) (by show b<wr.heap.size;have:=qnw.size;omega)).trans hc)
         exact ⟨⟨j+1,by omega,by go_num,by rw [HCn.out],qnw.trans (qmv.mono qnw.size),HA2⟩,by simp [intOf];omega⟩
        ·have qm8:=Lh (HSj.out (fun _=>by simpa using hone));rw [htj] at qm8
         by_cases hend:t[j]=qaO/\j≠0
         ·have he:(qaM t j).toList.isEmpty=false:=jp L0;have HR2:Hid (RES=some (qaM t j,j+2)):=Lh (by rw [qm8.out,if_neg hend.2,if_pos (by rw [hend.1])]);rw [Ll hend.1] at hqe;clear HSj qm8 HAn HSt hone HS HSz HC htj HP HCn hend;generalize t[j]=x at *
          generalize qaM t j=CJ at *
          go_wp2;go_ret2;exact ⟨by rw [HR2.out];show Ending.returned (.tuple #[.string CJ,.int .i64 ((j:Int)+1+1)]) = .returned (.tuple #[.string CJ,.int .i64 ((j+2:Nat):Int)]);rw [show ((j+2:Nat):Int)=(j:Int)+1+1 by omega],qnw⟩
         ·have HR2:Hid (RES=none):=Lh (by
           rw [qm8.out]
           by_cases h0:j=0
           ·rw [if_pos h0]
           ·rw [if_neg h0,if_neg (fun e=>hend ⟨by injection e,h0⟩)])
          by_cases hxe:t[j]=qaO
          ·have h0:j=0:=Classical.not_not.1 fun h=>hend ⟨hxe,h⟩
           have he:(qaM t j).toList.isEmpty=true:=by rw [h0,ByteArray.toList_eq];rfl
           rw [Ll hxe] at hqe;have hx3:t[j].size=3:=by rw [hxe];rfl
           have hxp:azB t[j]=true:=by rw [hxe];decide +kernel
           rw [hxp] at HP;have hx1:((t[j].size:Int) != 1)=true:=by rw [hx3];rfl
           clear HSj qm8 HAn HSt hone HS HSz HC htj HCn hend hxe hxp h0 hx3;generalize t[j]=x at *
           generalize qaM t j=CJ at *
           go_wp2_with (go_at_call 173;refine (HP.out _).mono ?_;rintro e w1 ⟨rfl,qmv⟩;have hc1:=(qmv.cell (p:=⟨b,o+(j+1),none⟩) (by show b<wr.heap.size;have:=qnw.size;omega)).trans hc)
           go_ret2;exact ⟨by rw [HR2.out];rfl,qnw.trans (qmv.mono qnw.size)⟩
          ·rw [Lk hxe] at hqe;have hone':azB t[j]=false∨(azB t[j]=true/\t[j].size≠1):=by
            cases h1:azB t[j] with
            | false=>exact .inl rfl
            | true =>
             refine .inr ⟨rfl,fun h2=>hone ?_⟩;unfold jQ;rw [h1,Ll h2]
             rfl
           clear HSj qm8 HAn HSt hone HS HSz HC htj HCn hend hxe;generalize t[j]=x at *
           generalize qaM t j=CJ at *
           rcases hone' with hz | ⟨hz,hx1⟩
           ·rw [hz] at HP;clear hz
            go_wp2_with (go_at_call 173;refine (HP.out _).mono ?_;rintro e w1 ⟨rfl,qmv⟩)
            go_ret2;exact ⟨by rw [HR2.out];rfl,qnw.trans (qmv.mono qnw.size)⟩
           ·rw [hz] at HP;have hx1':((x.size:Int) != 1)=true:=Ln.2 L0;clear hz
            go_wp2_with (go_at_call 173;refine (HP.out _).mono ?_;rintro e w1 ⟨rfl,qmv⟩;have hc1:=(qmv.cell (p:=⟨b,o+(j+1),none⟩) (by show b<wr.heap.size;have:=qnw.size;omega)).trans hc)
            go_ret2;exact ⟨by rw [HR2.out];rfl,qnw.trans (qmv.mono qnw.size)⟩
       ·obtain rfl:j=t.length:=by omega
        have hjn : ¬ t.length+1<n:=by have:=ht'.out;omega
        have HR2:Hid (RES=none):=Lh (by
         rw [HSt.out t.length (Ld _) HA.out (fun hk=>absurd hk (Nat.lt_irrefl _))]
         split
         ·rfl
         ·rw [List.getElem?_eq_none (Ld _),if_neg L1])
        clear HSt HS HSz HC HA HLt;generalize qaM t t.length=CJ at *
        go_wp2;go_ret2;exact ⟨by rw [HR2.out];rfl,qnw⟩
     ·rw [Lk hsp] at q2;replace qmF:=Lh (qmF.out.trans (if_neg hsp));clear rd hsz' hsp q1 ha;go_wp2;go_ret2;exact ⟨by rw [qmF.out];rfl,hbc⟩
structure WdR (w:World) (B:Nat) (l:List ByteArray) (A:Option Addr) (n c:Nat):Prop where
 len:l.length=n
 cap:n<=c
 max:c<=maxLen
 rd:Rd w B 1 A n (sv l)
 sz : ∀ s∈l,s.size<=1000
theorem WdR.below {w w':World} {B:Nat} {l:List ByteArray} {A:Option Addr} {n c:Nat} (h:WdR w B l A n c) (hb:Below B w w'):WdR w' B l A n c:=⟨h.len,h.cap,h.max,h.rd.below hb,h.sz⟩
theorem WdR.nil (w:World) (B:Nat):WdR w B [] none 0 0:=⟨rfl,Ld _,Nat.zero_le _,Rd.none_,fun s hs=>by cases hs⟩
theorem WdR.cut {w:World} {B:Nat} {l:List ByteArray} {A:Option Addr} {n c k:Nat} (h:WdR w B l A n c) (hk:k<=n):WdR w B (l.drop k) (if c=k then A else A.map (·.add (k * 1))) (n-k) (c-k):=by
 have hr:=h.rd.cut (k:=k) hk h.cap;rw [show (sv l).drop (k * 1)=sv (l.drop k) by simp [sv]] at hr;have:=h.len;have:=h.cap;have:=h.max;exact ⟨by rw [List.length_drop];omega,by omega,by omega,hr,fun s hs=>h.sz s (List.mem_of_mem_drop hs)⟩
def y7 (bad:Bool) (l:List ByteArray):Option (List ByteArray):=if bad=true then none else some l
def RV (w:World) (B:Nat) (r:Option (List ByteArray)) (v:Value):Prop:=∃ A n c l bad,v = .agg #[.slice A n c,.bool bad]/\WdR w B l A n c/\r=y7 bad l
theorem RV.below {w w':World} {B:Nat} {r:Option (List ByteArray)} {v:Value} (h:RV w B r v) (hb:Below B w w'):RV w' B r v:=by
 obtain ⟨A,n,c,l,bad,h1,h2,h3⟩:=h;exact ⟨A,n,c,l,bad,h1,h2.below hb,h3⟩
theorem RV.bad (w:World) (B:Nat):RV w B none (.agg #[.slice none 0 0,.bool true]):=⟨none,0,0,[],true,rfl,WdR.nil w B,rfl⟩
def qX (r:Option (List ByteArray)) (s:ByteArray):Bool:=match r with
 | some l=>vT s l
 | none=>false
theorem qdo (r:Option (List ByteArray)) (v:Value) (s:ByteArray) (B:Nat) (w:World) (h:RV w B r v) (hB:B<=w.heap.size):Calls prog 40 #[v,.string s] w (qh (.bool (qX r s)) w):=by
 obtain ⟨A,n,c,l,bad,rfl,hW,rfl⟩:=h
 cases bad with
 | true =>
  clear hW
  show Calls _ _ _ _ (qh (.bool false) w)
  go_enter func40,ntmps40
  go_wp2;go_ret;exact ⟨rfl,L5⟩
 | false =>
  show Calls _ _ _ _ (qh (.bool (vT s l)) w)
  cases l with
  | nil =>
   obtain rfl:n=0:=hW.len.symm;clear hW
   show Calls _ _ _ _ (qh (.bool false) w)
   go_enter func40,ntmps40
   go_wp2;go_ret;exact ⟨rfl,L5⟩
  | cons a t =>
   have hn:0<n:=by have:=hW.len;simp at this;omega
   have hi:(0:Int)<n:=by omega
   obtain ⟨b,o,rfl,hb,hca⟩:=hW.rd.at_ hn;have ha:w.cell? ⟨b,o,none⟩=some (.string a):=hca;have hbl:b<w.heap.size:=by omega
   have q:(a.toList==s.toList)=vT s (a::t):=jO a s;generalize vT s (a::t)=R at *
   clear hW hca
   go_enter func40,ntmps40
   go_wp2;go_ret;exact ⟨rfl,L5⟩
def yS:Option (List ByteArray)->List ByteArray->Option (List ByteArray)
 | r,[]=>r
 | r,s::t=>yS (r.bind (skO s)) t
theorem qcS : ∀ ws:List ByteArray,yS none ws=none
 | []=>rfl
 | _::t=>qcS t
theorem qlx {r:Option (List ByteArray)} {s:ByteArray} (h:qX r s=false):r.bind (skO s)=none:=by
 cases r with
 | none=>rfl
 | some l =>
  cases l with
  | nil=>rfl
  | cons a t =>
   have:a≠s:=fun e=>by rw [e] at h;simp [qX,vT] at h
   show (if a=s then some t else none)=none
   rw [if_neg this]
theorem qj9 {bad:Bool} {l:List ByteArray} {s:ByteArray} (h:qX (y7 bad l) s=true):bad=false/\∃ t,l=s::t/\(y7 bad l).bind (skO s)=some t:=by
 cases bad with
 | true=>cases h
 | false =>
  cases l with
  | nil=>cases h
  | cons a t =>
   have e:a=s:=by simpa [qX,y7,vT] using h
   subst e;exact ⟨rfl,t,rfl,yL _ _⟩
theorem zG:(prog.info? 84).map (fun x=>x.size)=some 2:=by kernel_rfl
theorem vd {w:World} {g:Nat} {t:TypeId} {a b a' b':Value} (h:Blk w g t #[a,b]):Blk ((w.setCell ⟨g,0,none⟩ a').setCell ⟨g,1,none⟩ b') g t #[a',b']:=by
 have:=(h.set_ 0 a').set_ 1 b'
 simpa using this
def RX (w:World) (B:Nat) (bad:Bool) (l:List ByteArray) (wx:World):Prop :=
 ∃ A n c,WdR w B l A n c/\Blk wx w.heap.size 84 #[.slice A n c,.bool bad]/\Blk wx (w.heap.size+1) 84 #[.slice none 0 0,.bool false]/\Below w.heap.size w wx
theorem RX.below {w wx wy:World} {B:Nat} {bad:Bool} {l:List ByteArray} (h:RX w B bad l wx) (hb:Below wx.heap.size wx wy):RX w B bad l wy:=by
 obtain ⟨A,n,c,h1,h2,h3,h4⟩:=h;have:=h2.lt;exact ⟨A,n,c,h1,h2.below hb h2.lt,h3.below hb h3.lt,h4.trans (hb.mono L0)⟩
theorem RX.turn {w w1:World} {B:Nat} {bad:Bool} {l:List ByteArray} {A0 A:Option Addr} {n0 c0 n c:Nat} (C1:Blk w1 w.heap.size 84 #[.slice A0 n0 c0,.bool bad]) (C2:Blk w1 (w.heap.size+1) 84 #[.slice none 0 0,.bool false]) (tx:Below w.heap.size w w1) (h:WdR w B l A n c) :
  RX w B bad l (w1.setCell ⟨w.heap.size,0,none⟩ (.slice A n c)):=by
 refine ⟨A,n,c,h,?_,C2.far (p:=⟨w.heap.size,0,none⟩) L7 _,tx.setCell (Ld _) _⟩;have:=C1.set_ 0 (.slice A n c)
 simpa using this
def RRet (w:World) (B:Nat) (r:Option (List ByteArray)) (F:Value->Value) (e:Ending) (w':World):Prop:=∃ v,e = .returned (F v)/\RV w B r v/\Below w.heap.size w w'
theorem uskip_ (r:Option (List ByteArray)) (v:Value) (ws:List ByteArray) (Aw:Option Addr) (nw cw:Nat) (B:Nat) (w:World) (h:RV w B r v) (hB:B<=w.heap.size) (hw:ws.length=nw) (hws:nw<=1000) (rdw:Rd w w.heap.size 1 Aw nw (sv ws)) :
  Calls prog 68 #[v,.slice Aw nw cw] w (RRet w B (yS r ws) id):=by
 obtain ⟨A,n,c,l,bad,rfl,hW,rfl⟩:=h;obtain ⟨R,hR⟩ : ∃ x,x=yS (y7 bad l) ws:=⟨_,rfl⟩
 rw [<- hR];have hX:RX w B bad l ((w.alloc (.cells #[.slice A n c,.bool bad] 84)).alloc (.cells #[.slice none 0 0,.bool false] 84)) :=
  ⟨A,n,c,hW,Blk.alloc (Blk.new w _ _) _,Blk.new_ L1,(L5).alloc L1 _⟩
 have H0:Hid (R=yS (y7 bad l) (ws.drop 0)):=Lh hR;have HRw:=Lh rdw;have HNw:=Lh hw;clear hR hW rdw hw
 go_enter func68,ntmps68
 go_upto_region 1 with fail
 refine qa (RX w B bad l) hX ?_;clear hX;intro X hX;go_wp2
 go_loopw [9] (fun x wr=>∃ (k:Nat) (l':List ByteArray),k<=nw/\x = .int .i64 k/\RX w B bad l' wr/\Hid (R=yS (y7 bad l') (ws.drop k))) (fun x _=>nw-(intOf x).toNat)
 case atStart=>exact ⟨0,l,Nat.zero_le _,rfl,hX,H0⟩
 case round =>
  clear hX H0;obtain ⟨k,l',hk,rfl,hX,HK⟩:=hrel;obtain ⟨A',n',c',hW,B1,B2,tx⟩:=id hX;have z1:=B2.lt;have z0:=B1.lt;have c0:=B1.cell 0;have c1:=B1.cell 1;have d0:=B2.cell 0;have d1:=B2.cell 1;have f0:=B1.frozen 0;have f1:=B1.frozen 1;have g0:=B2.frozen 0;have g1:=B2.frozen 1;simp only [La,Lb,Lc] at c0 c1 d0 d1
  by_cases hlt:k<nw
  ·have hkl:k<ws.length:=by have:=HNw.out;omega
   obtain ⟨bw,ow,rfl,hbw,hcw⟩:=HRw.out.at_ hlt;rw [yM _ _ hkl] at hcw;replace hcw:=(tx.cell (p:=⟨bw,ow+k,none⟩) hbw).trans hcw;have HD:Hid (yS (y7 bad l') (ws.drop k)=yS ((y7 bad l').bind (skO ws[k])) (ws.drop (k+1))):=Lh (by rw [Ls hkl];rfl);have HNx:=Lh (qdo (y7 bad l') (.agg #[.slice A' n' c',.bool bad]) ws[k] B wr ⟨A',n',c',l',bad,rfl,hW.below (tx.mono hB),rfl⟩ (Lj hB tx.size));generalize ws[k]=s at *
   cases hnx:qX (y7 bad l') s with
   | false =>
    have HR2:Hid (R=none):=Lh (by rw [HK.out,HD.out,qlx hnx,qcS]);rw [hnx] at HNx;clear HK HD hnx hW
    go_wp2_with (go_at_call 40;refine HNx.out.mono ?_;rintro e w1 ⟨rfl,hb1⟩;clear c0 c1 d0 d1 f0 f1 g0 g1;have C2:=B2.below hb1 B2.lt;have d0:=C2.cell 0;have d1:=C2.cell 1;have g0:=C2.frozen 0;have g1:=C2.frozen 1;simp only [La,Lb,Lc] at d0 d1)
    have Rr:=vd (a':=.slice none 0 0) (b':=.bool true) C2;exact bodyPost_ret (results_cell_row rfl _ _ (w.heap.size+1) 84 _ (0,0) _ rfl Rr underlying84 rfl zG) rfl ⟨_,rfl,by rw [HR2.out];exact RV.bad w B,((tx.trans (hb1.mono L0)).setCell L7 _).setCell L7 _⟩
   | true =>
    obtain ⟨rfl,t,rfl,ht⟩:=qj9 hnx;have HR2:Hid (R=yS (y7 false t) (ws.drop (k+1))):=Lh (by rw [HK.out,HD.out,ht];rfl);rw [hnx] at HNx;have hn1:1<=n':=by have:=hW.len;simp at this;omega
    have hcut:=hW.cut hn1;have hcap:=hW.cap;have hmax:=hW.max;have i1:(1:Int)<=n':=by omega
    have i2:(1:Int)<=c':=by omega
    have i3:c'<=9223372036854775807:=by unfold maxLen at hmax;omega
    clear HK HD hnx hW ht
    by_cases hc1:c'=1
    ·rw [if_pos hc1] at hcut;subst hc1
     go_wp2_with (go_at_call 40;refine HNx.out.mono ?_;rintro e w1 ⟨rfl,hb1⟩;clear c0 c1 d0 d1 f0 f1 g0 g1;have C1:=B1.below hb1 B1.lt;have C2:=B2.below hb1 B2.lt;have c0:=C1.cell 0;have f0:=C1.frozen 0;simp only [La,Lb,Lc] at c0)
     have hz:n'-1=0:=by omega
     rw [hz] at hcut;exact ⟨⟨k+1,t,by omega,by go_num,RX.turn C1 C2 (tx.trans (hb1.mono L0)) hcut,HR2⟩,by simp [intOf];omega⟩
    ·rw [if_neg hc1] at hcut
     go_wp2_with (go_at_call 40;refine HNx.out.mono ?_;rintro e w1 ⟨rfl,hb1⟩;clear c0 c1 d0 d1 f0 f1 g0 g1;have C1:=B1.below hb1 B1.lt;have C2:=B2.below hb1 B2.lt;have c0:=C1.cell 0;have f0:=C1.frozen 0;simp only [La,Lb,Lc] at c0)
     exact ⟨⟨k+1,t,by omega,by go_num,RX.turn C1 C2 (tx.trans (hb1.mono L0)) hcut,HR2⟩,by simp [intOf];omega⟩
  ·have HR2:Hid (R=y7 bad l'):=Lh (by rw [HK.out,Lv (by have:=HNw.out;omega)];rfl);clear HK HRw;go_wp2;have Rr:=vd (a':=.slice A' n' c') (b':=.bool bad) B2;exact bodyPost_ret (results_cell_row rfl _ _ (w.heap.size+1) 84 _ (0,0) _ rfl Rr underlying84 rfl zG) rfl ⟨_,rfl,⟨A',n',c',l',bad,rfl,hW,HR2.out⟩,(tx.setCell L7 _).setCell L7 _⟩
theorem zn {P:Program} {fn:Func} {p u:Tmp} {ty:TypeId} (h:fn.results = #[.tmp u,.cell p ty]) (tmps:Array Value) (w:World) (g:Nat) (t:TypeId) (cs:Array Value) (fr:Nat × Nat) (d:TypeDesc)
  (hp:tmps.getD p undef = .pointer (some ⟨g,0,none⟩)) (hg:w.heap[g]? = some (.cells cs t fr))
  (hu:P.underlying ty=some d) (hd:(match d with | .struct _ | .array _ _=>true | _=>false)=true) (hi:(P.info? ty).map (·.size)=some cs.size) :
  (results fn tmps).run P w = .ok (.tuple #[tmps.getD u undef,.agg cs]) w:=by
 simp only [results,h];have hp':tmps[p]?.getD undef = .pointer (some ⟨g,0,none⟩):=by simpa using hp
 simp [Sem.run_bind,Result.andThen,hp',asAddr,run_loadVar_row w g t ty cs fr d hg hu hd hi]
def qN (r:Option (List ByteArray)):Int × Option (List ByteArray):=match r.bind kU with
 | some (n,t)=>(n,some t)
 | none=>(0,none)
def NRet (w:World) (B:Nat) (x:Int × Option (List ByteArray)) (e:Ending) (w':World):Prop:=∃ v,e = .returned (.tuple #[.int .i64 x.1,v])/\RV w B x.2 v/\Below w.heap.size w w'
def NRetE (w:World) (B:Nat) (x:Int × Option (List ByteArray)) (e:Ending) (w':World):Prop:=∃ v,e = .returned (.tuple #[.int .i64 x.1,v])/\RV w' B x.2 v/\Below w.heap.size w w'
theorem NRet.e {w w':World} {B:Nat} {x:Int × Option (List ByteArray)} {e:Ending} (hB:B<=w.heap.size) (h:NRet w B x e w'):NRetE w B x e w':=by
 obtain ⟨v,h1,h2,h3⟩:=h;exact ⟨v,h1,h2.below (h3.mono hB),h3⟩
def RRetE (w:World) (B:Nat) (r:Option (List ByteArray)) (F:Value->Value) (e:Ending) (w':World):Prop:=∃ v,e = .returned (F v)/\RV w' B r v/\Below w.heap.size w w'
theorem RRet.e {w w':World} {B:Nat} {r:Option (List ByteArray)} {F:Value->Value} {e:Ending} (hB:B<=w.heap.size) (h:RRet w B r F e w'):RRetE w B r F e w':=by
 obtain ⟨v,h1,h2,h3⟩:=h;exact ⟨v,h1,h2.below (h3.mono hB),h3⟩
theorem qfL (r:Option (List ByteArray)) (v:Value) (B:Nat) (w:World) (h:RV w B r v) (hB:B<=w.heap.size):Calls prog 74 #[v] w (NRet w B (qN r)):=by
 obtain ⟨A,n,c,l,bad,rfl,hW,rfl⟩:=h;obtain ⟨R,hR⟩ : ∃ x,x=qN (y7 bad l):=⟨_,rfl⟩
 rw [<- hR];have hX:RX w B bad l ((w.alloc (.cells #[.slice A n c,.bool bad] 84)).alloc (.cells #[.slice none 0 0,.bool false] 84)) :=
  ⟨A,n,c,hW,Blk.alloc (Blk.new w _ _) _,Blk.new_ L1,(L5).alloc L1 _⟩
 clear hW
 cases hp:prefixL l with
 | none =>
  have HR2:Hid (R=(0,none)):=Lh (by rw [hR];cases bad <;> simp [qN,y7,kU,hp]);clear hR
  cases bad with
  | true =>
   go_enter func74,ntmps74
   go_upto_region 1 with fail
   refine qa (RX w B true l) hX ?_;clear hX;rintro X ⟨A',n',c',hW,B1,B2,tx⟩;have z1:=B2.lt;have z0:=B1.lt;have c0:=B1.cell 0;have c1:=B1.cell 1;have d0:=B2.cell 0;have d1:=B2.cell 1;have f0:=B1.frozen 0;have f1:=B1.frozen 1;have g0:=B2.frozen 0;have g1:=B2.frozen 1;simp only [La,Lb,Lc] at c0 c1 d0 d1;have HPr:=Lh (kx l A' n' c' X hW.len hW.cap hW.max ((hW.rd.below (tx.mono hB)).more (Lj hB tx.size)) (fun s hs=>Lj (hW.sz s hs) L2));rw [hp] at HPr;simp only [ve] at HPr;clear hp hW
   go_wp2_with (go_at_call 93;refine HPr.out.mono ?_;rintro e w1 ⟨rfl,hb1⟩;clear c0 c1 d0 d1 f0 f1 g0 g1;have C1:=B1.below hb1 B1.lt;have C2:=B2.below hb1 B2.lt;have c0:=C1.cell 0;have c1:=C1.cell 1;have d0:=C2.cell 0;have d1:=C2.cell 1;have g0:=C2.frozen 0;have g1:=C2.frozen 1;simp only [La,Lb,Lc] at c0 c1 d0 d1)
   have Rr:=vd (a':=.slice none 0 0) (b':=.bool true) C2;have tz:=((tx.trans (hb1.mono L0)).setCell (p:=⟨w.heap.size+1,0,none⟩) L7 (.slice none 0 0)).setCell (p:=⟨w.heap.size+1,1,none⟩) L7 (.bool true);exact bodyPost_ret (zn rfl _ _ (w.heap.size+1) 84 _ (0,0) _ rfl Rr underlying84 rfl zG) rfl ⟨_,by rw [HR2.out];rfl,by rw [HR2.out];exact RV.bad w B,tz⟩
  | false =>
   go_enter func74,ntmps74
   go_upto_region 1 with fail
   refine qa (RX w B false l) hX ?_;clear hX;rintro X ⟨A',n',c',hW,B1,B2,tx⟩;have z1:=B2.lt;have z0:=B1.lt;have c0:=B1.cell 0;have c1:=B1.cell 1;have d0:=B2.cell 0;have d1:=B2.cell 1;have f0:=B1.frozen 0;have f1:=B1.frozen 1;have g0:=B2.frozen 0;have g1:=B2.frozen 1;simp only [La,Lb,Lc] at c0 c1 d0 d1;have HPr:=Lh (kx l A' n' c' X hW.len hW.cap hW.max ((hW.rd.below (tx.mono hB)).more (Lj hB tx.size)) (fun s hs=>Lj (hW.sz s hs) L2));rw [hp] at HPr;simp only [ve] at HPr;clear hp hW
   go_wp2_with (go_at_call 93;refine HPr.out.mono ?_;rintro e w1 ⟨rfl,hb1⟩;clear c0 c1 d0 d1 f0 f1 g0 g1;have C1:=B1.below hb1 B1.lt;have C2:=B2.below hb1 B2.lt;have c0:=C1.cell 0;have c1:=C1.cell 1;have d0:=C2.cell 0;have d1:=C2.cell 1;have g0:=C2.frozen 0;have g1:=C2.frozen 1;simp only [La,Lb,Lc] at c0 c1 d0 d1)
   have Rr:=vd (a':=.slice none 0 0) (b':=.bool true) C2;have tz:=((tx.trans (hb1.mono L0)).setCell (p:=⟨w.heap.size+1,0,none⟩) L7 (.slice none 0 0)).setCell (p:=⟨w.heap.size+1,1,none⟩) L7 (.bool true);exact bodyPost_ret (zn rfl _ _ (w.heap.size+1) 84 _ (0,0) _ rfl Rr underlying84 rfl zG) rfl ⟨_,by rw [HR2.out];rfl,by rw [HR2.out];exact RV.bad w B,tz⟩
 | some x =>
  obtain ⟨nn,k⟩:=x
  cases bad with
  | true =>
   have HR2:Hid (R=(0,none)):=Lh (by rw [hR];rfl);clear hR
   go_enter func74,ntmps74
   go_upto_region 1 with fail
   refine qa (RX w B true l) hX ?_;clear hX;rintro X ⟨A',n',c',hW,B1,B2,tx⟩;have z1:=B2.lt;have z0:=B1.lt;have c0:=B1.cell 0;have c1:=B1.cell 1;have d0:=B2.cell 0;have d1:=B2.cell 1;have f0:=B1.frozen 0;have f1:=B1.frozen 1;have g0:=B2.frozen 0;have g1:=B2.frozen 1;simp only [La,Lb,Lc] at c0 c1 d0 d1;have HPr:=Lh (kx l A' n' c' X hW.len hW.cap hW.max ((hW.rd.below (tx.mono hB)).more (Lj hB tx.size)) (fun s hs=>Lj (hW.sz s hs) L2));rw [hp] at HPr;simp only [ve] at HPr;clear hp hW
   go_wp2_with (go_at_call 93;refine HPr.out.mono ?_;rintro e w1 ⟨rfl,hb1⟩;clear c0 c1 d0 d1 f0 f1 g0 g1;have C1:=B1.below hb1 B1.lt;have C2:=B2.below hb1 B2.lt;have c0:=C1.cell 0;have c1:=C1.cell 1;have d0:=C2.cell 0;have d1:=C2.cell 1;have g0:=C2.frozen 0;have g1:=C2.frozen 1;simp only [La,Lb,Lc] at c0 c1 d0 d1)
   have Rr:=vd (a':=.slice none 0 0) (b':=.bool true) C2;have tz:=((tx.trans (hb1.mono L0)).setCell (p:=⟨w.heap.size+1,0,none⟩) L7 (.slice none 0 0)).setCell (p:=⟨w.heap.size+1,1,none⟩) L7 (.bool true);exact bodyPost_ret (zn rfl _ _ (w.heap.size+1) 84 _ (0,0) _ rfl Rr underlying84 rfl zG) rfl ⟨_,by rw [HR2.out];rfl,by rw [HR2.out];exact RV.bad w B,tz⟩
  | false =>
   have HR2:Hid (R=(nn,some (l.drop k))):=Lh (by rw [hR];simp [qN,y7,kU,hp]);obtain ⟨hk0,hkl,qm1,_⟩:=zF hp;clear hR
   go_enter func74,ntmps74
   go_upto_region 1 with fail
   refine qa (RX w B false l) hX ?_;clear hX;rintro X ⟨A',n',c',hW,B1,B2,tx⟩;have z1:=B2.lt;have z0:=B1.lt;have c0:=B1.cell 0;have c1:=B1.cell 1;have d0:=B2.cell 0;have d1:=B2.cell 1;have f0:=B1.frozen 0;have f1:=B1.frozen 1;have g0:=B2.frozen 0;have g1:=B2.frozen 1;simp only [La,Lb,Lc] at c0 c1 d0 d1;have HPr:=Lh (kx l A' n' c' X hW.len hW.cap hW.max ((hW.rd.below (tx.mono hB)).more (Lj hB tx.size)) (fun s hs=>Lj (hW.sz s hs) L2));rw [hp] at HPr;simp only [ve] at HPr;have hln:=hW.len;have hcap:=hW.cap;have hmax:=hW.max;have hcut:=hW.cut (k:=k) L0;have i1:(k:Int)<=n':=by omega
   have i2:(k:Int)<=c':=by omega
   have i3:c'<=9223372036854775807:=by unfold maxLen at hmax;omega
   have i0:(0:Int)<=k:=by omega
   clear hp hW
   go_upto_region 4 with (go_at_call 93;refine HPr.out.mono ?_;rintro e w1 ⟨rfl,hb1⟩;clear c0 c1 d0 d1 f0 f1 g0 g1;have C1:=B1.below hb1 B1.lt;have C2:=B2.below hb1 B2.lt;have c0:=C1.cell 0;have c1:=C1.cell 1;have d0:=C2.cell 0;have d1:=C2.cell 1;have g0:=C2.frozen 0;have g1:=C2.frozen 1;simp only [La,Lb,Lc] at c0 c1 d0 d1)
   simp only [Nat.mul_one] at hcut
   by_cases hck:c'=k
   ·rw [if_pos hck] at hcut;subst hck;have hz:n'-c'=0:=by omega
    have hz2:n'=c':=by omega
    subst hz2;rw [Nat.sub_self] at hcut;have Rr:=vd (a':=.slice A' 0 0) (b':=.bool false) C2;have tz:=((tx.trans (hb1.mono L0)).setCell (p:=⟨w.heap.size+1,0,none⟩) L7 (.slice A' 0 0)).setCell (p:=⟨w.heap.size+1,1,none⟩) L7 (.bool false);have Rd:=Rr.drew;have td:=tz.drew;clear hz
    go_region_law (fail)
    all_goals go_wp2
    all_goals exact bodyPost_ret (zn rfl _ _ (w.heap.size+1) 84 _ (0,0) _ rfl Rd underlying84 rfl zG) rfl ⟨_,by rw [HR2.out];rfl,by rw [HR2.out];exact ⟨_,_,_,_,false,rfl,hcut,rfl⟩,td⟩
   ·rw [if_neg hck] at hcut;have Rr:=vd (a':=.slice (A'.map (·.add k)) (n'-k) (c'-k)) (b':=.bool false) C2;have tz:=((tx.trans (hb1.mono L0)).setCell (p:=⟨w.heap.size+1,0,none⟩) L7 (.slice (A'.map (·.add k)) (n'-k) (c'-k))).setCell (p:=⟨w.heap.size+1,1,none⟩) L7 (.bool false);have Rd:=Rr.drew;have td:=tz.drew
    go_region_law (fail)
    all_goals go_wp2
    all_goals exact bodyPost_ret (zn rfl _ _ (w.heap.size+1) 84 _ (0,0) _ rfl Rd underlying84 rfl zG) rfl ⟨_,by rw [HR2.out];rfl,by rw [HR2.out];exact ⟨_,_,_,_,false,rfl,hcut,rfl⟩,td⟩
theorem qh6 (r:Option (List ByteArray)) (v:Value) (ws:List ByteArray) (Aw:Option Addr) (nw cw:Nat) (B:Nat) (w:World) (h:RV w B r v) (hB:B<=w.heap.size) (hw:ws.length=nw) (hws:nw<=1000) (rdw:Rd w w.heap.size 1 Aw nw (sv ws)) :
  Calls prog 67 #[v,.slice Aw nw cw] w (NRetE w B (qN (yS r ws))):=by
 have HS:Hid (∀ w',Below w.heap.size w w'->Calls prog 68 #[v,.slice Aw nw cw] w' (RRet w' B (yS r ws) id)):=Lh fun w' hb=>uskip_ r v ws Aw nw cw B w' (h.below (hb.mono hB)) (Lj hB hb.size) hw hws ((rdw.below hb).more hb.size)
 have HNu:Hid (∀ (v':Value) (w':World),RV w' B (yS r ws) v'->Below w.heap.size w w'->Calls prog 74 #[v'] w' (NRet w' B (qN (yS r ws)))):=Lh fun v' w' hv hb=>qfL _ v' B w' hv (Lj hB hb.size)
 obtain ⟨A,n,c,l,bad,rfl,hW,rfl⟩:=h;generalize yS (y7 bad l) ws=S at *
 generalize qN S=R at *
 clear hW rdw hw;have hX:Blk ((w.alloc (.cells #[.slice A n c,.bool bad] 84)).alloc (.cells #[.slice none 0 0,.bool false] 84)) w.heap.size 84 #[.slice A n c,.bool bad]/\Blk ((w.alloc (.cells #[.slice A n c,.bool bad] 84)).alloc (.cells #[.slice none 0 0,.bool false] 84)) (w.heap.size+1) 84 #[.slice none 0 0,.bool false]/\Below w.heap.size w ((w.alloc (.cells #[.slice A n c,.bool bad] 84)).alloc (.cells #[.slice none 0 0,.bool false] 84)) :=
  ⟨Blk.alloc (Blk.new w _ _) _,Blk.new_ L1,(L5).alloc L1 _⟩
 go_enter func67,ntmps67
 go_upto_region 1 with fail
 refine qa (fun X=>Blk X w.heap.size 84 #[.slice A n c,.bool bad]/\Blk X (w.heap.size+1) 84 #[.slice none 0 0,.bool false]/\Below w.heap.size w X) hX ?_;clear hX;rintro X ⟨B1,B2,tx⟩;have c0:=B1.cell 0;have c1:=B1.cell 1;have d0:=B2.cell 0;have d1:=B2.cell 1;have f0:=B1.frozen 0;have f1:=B1.frozen 1;have g0:=B2.frozen 0;have g1:=B2.frozen 1;simp only [La,Lb,Lc] at c0 c1 d0 d1;have z1:=B2.lt
 go_wp2_with (first
  | (go_at_call 68;refine (HS.out _ tx).mono ?_;rintro e w1 ⟨v1,rfl,hv0,hb1⟩;have hv1:=hv0.below (hb1.mono (Lj hB tx.size));have t1:=tx.trans (hb1.mono L0);have C2:=B2.below hb1 B2.lt)
  | (go_at_call 74;refine (HNu.out _ _ hv1 t1).mono ?_;rintro e w2 ⟨v2,rfl,hv2,hb2⟩;have t2:=t1.trans (hb2.mono t1.size);have D2:=C2.below hb2 C2.lt;clear c0 c1 d0 d1 f0 f1 g0 g1;have d0:=D2.cell 0;have d1:=D2.cell 1;have g0:=D2.frozen 0;have g1:=D2.frozen 1;simp only [La,Lb,Lc] at d0 d1;obtain ⟨A2,n2,c2,l2,bad2,rfl,hW2,hR2⟩:=hv2))
 have Rr:=vd (a':=.slice A2 n2 c2) (b':=.bool bad2) D2;have tz:=(t2.setCell (p:=⟨w.heap.size+1,0,none⟩) L7 (.slice A2 n2 c2)).setCell (p:=⟨w.heap.size+1,1,none⟩) L7 (.bool bad2);exact bodyPost_ret (zn rfl _ _ (w.heap.size+1) 84 _ (0,0) _ rfl Rr underlying84 rfl zG) rfl ⟨_,rfl,⟨_,_,_,_,bad2,rfl,hW2.below (((hb2.mono (Lj hB t1.size)).setCell (p:=⟨w.heap.size+1,0,none⟩) L7 (.slice A2 n2 c2)).setCell (p:=⟨w.heap.size+1,1,none⟩) L7 (.bool bad2)),hR2⟩,tz⟩
theorem qel (c:UInt8):Lib.upperB c=upB c:=by
 unfold Lib.upperB Lib.isLowerB upB;simp only [Bool.and_eq_true,decide_eq_true_eq,UInt8.le_iff_toNat_le]
 rfl
theorem qcA {s:ByteArray} (h:azB s=true):0<s.size/\∀ c∈s.data.toList,97<=c.toNat/\c.toNat<=122:=by
 unfold azB at h;rw [Bool.and_eq_true,List.all_eq_true] at h;refine ⟨?_,fun c hc=>by simpa using h.2 c hc⟩
 rcases Nat.eq_zero_or_pos s.size with h0 | h0
 ·have:s.data.toList=[]:=List.length_eq_zero_iff.1 (by simpa using h0);rw [this] at h
  simp at h
 ·exact h0
theorem qfx {l:List ByteArray} {s:ByteArray} {n:Nat} (h:yl l=some (s,n)) (hsz : ∀ s∈l,s.size<=1000) (hl:l.length<=950000):azB s=true/\s.size<=1000000/\0<n/\n<=l.length:=by
 cases l with
 | nil=>cases h
 | cons a t =>
  rw [yl] at h
  split at h
  ·rename_i hc
   simp only [Option.some.injEq,Prod.mk.injEq] at h;obtain ⟨rfl,rfl⟩:=h
   cases t with
   | nil=>exact absurd hc.2 L4
   | cons d t'=>exact ⟨hc.2,Lj (hsz d L1) L2,by omega,by simp⟩
  ·split at h
   ·rename_i hc
    simp only [Option.some.injEq,Prod.mk.injEq] at h;obtain ⟨rfl,rfl⟩:=h;exact ⟨hc.1,Lj (hsz a L1) L2,by omega,by simp⟩
   ·split at h
    ·unfold ya at h
     split at h
     ·cases h
     ·rename_i h0
      split at h
      ·rename_i he
       simp only [Option.some.injEq,Prod.mk.injEq] at h;obtain ⟨rfl,rfl⟩:=h;have hk:(t.takeWhile jQ).length<t.length:=by
        rcases Nat.lt_or_ge (t.takeWhile jQ).length t.length with h | h
        ·exact h
        ·rw [List.getElem?_eq_none h] at he;cases he
       have hall : ∀ x∈t.takeWhile jQ,jQ x=true:=fun x hx=>List.all_eq_true.1 (List.all_takeWhile (l:=t) (p:=jQ)) x hx
       generalize t.takeWhile jQ=T at *
       have qnQ:(T.flatMap fun s=>s.data.toList).length=T.length:=by
        clear he hk h0
        induction T with
        | nil=>rfl
        | cons x T ih =>
         have hx:=hall x L1;unfold jQ at hx;rw [Bool.and_eq_true,decide_eq_true_eq] at hx;rw [List.flatMap_cons,Lf,Lp,ih fun y hy=>hall y (by simp [hy])];have:x.data.toList.length=x.size:=by simp
         omega
       rw [Lp] at hl ⊢;refine ⟨?_,?_,by omega,by omega⟩
       ·unfold azB;rw [Bool.and_eq_true,List.all_eq_true];refine ⟨?_,fun c hc=>?_⟩
        ·rw [Bool.not_eq_true',List.isEmpty_eq_false_iff];intro e;have e':(T.flatMap fun s=>s.data.toList)=[]:=e;rw [e'] at qnQ;exact h0 qnQ.symm
        ·have hc':c∈T.flatMap fun s=>s.data.toList:=hc
         rw [List.mem_flatMap] at hc';obtain ⟨x,hx,hcx⟩:=hc';have hx1:=hall x hx;unfold jQ at hx1;rw [Bool.and_eq_true] at hx1
         simpa using (qcA hx1.1).2 c hcx
       ·show (List.toArray _).size<=_
        rw [List.size_toArray,qnQ]
        omega
      ·cases h
    ·cases h
theorem qiJ (s:ByteArray):(⟨(Lib.toUpperA s.data.toList).toArray⟩:ByteArray)=jn s s.size:=by
 unfold jn;have hz:s.data.toList.length=s.size:=by simp
 rw [Lib.toUpperA.eq_1,<- hz,List.take_length,List.drop_length,List.append_nil]
 congr 2
 exact List.map_congr_left fun c _=>qel c
theorem qi8 (s:ByteArray) (h:0<s.size):(⟨(Lib.toUpperA (s.extract 0 1).data.toList).toArray⟩:ByteArray)++s.extract 1 s.size=jn s 1:=by
 unfold jn
 apply ByteArray.ext
 rw [ByteArray.data_append]
 apply Array.toList_inj.1
 have hz:s.data.toList.length=s.size:=by simp
 rw [Array.toList_append,ByteArray.data_extract,ByteArray.data_extract,Lib.toUpperA.eq_1];simp only [Array.toList_extract,List.extract_eq_take_drop,List.drop_zero,Nat.sub_zero]
 congr 1
 ·exact List.map_congr_left fun c _=>qel c
 ·rw [List.take_of_length_le];rw [List.length_drop,hz]
  omega
theorem qdX (s:ByteArray) (k:Nat):(jn s k).size=s.size:=by
 unfold jn
 show (List.toArray _).size=_
 rw [List.size_toArray,Lf,Lq,Lu,List.length_drop];have hz:s.data.toList.length=s.size:=by simp
 omega
theorem qjw {p:Prs} (h1:p.words.headD ⟨#[]⟩≠bCap) (h2:p.words.headD ⟨#[]⟩≠yi):jP p=(yl p.words).map fun (s,n)=>kN p s n:=by
 unfold jP
 split
 ·rename_i hw
  rw [hw]
  rfl
 ·rename_i a t hw
  rw [hw] at h1 h2 ⊢;rw [List.headD_cons] at h1 h2;rw [if_neg h1,if_neg h2]
theorem word_ (p:Prs) (g nb:Nat) (w:World) (h:PaS w g nb p) (hset:SetM w nb 200 jF) (hk:PaK p):Calls prog 144 #[.pointer (some ⟨g,0,none⟩)] w (PaR g nb p (jP p) w):=by
 have hgl:=h.lt;have HPS:=Lh h;have hb0:Below w.heap.size w w:=Le _ _;have HN:Hid (∀ w',Below w.heap.size w w'->Calls prog 160 #[.pointer (some ⟨g,0,none⟩)] w' fun e w''=>e = .returned (.string (p.words.headD ⟨#[]⟩))/\Below w.heap.size w w''):=Lh fun w' hw=>(next_ p g nb w' (h.below hw)).mono fun e w'' ⟨h1,h2⟩=>⟨h1,hw.trans (h2.mono hw.size)⟩
 have qmY:Hid (∀ s:ByteArray,s.size<=1000000->∀ w',Below w.heap.size w w'->Calls prog 164 #[.pointer (some ⟨g,0,none⟩),.string s] w' fun e w''=>e = .returned (.tuple #[])/\PaS w'' g nb ⟨p.words,p.out++vm p.joins p.style s,p.style,true⟩/\Below g w w''):=Lh fun s hs w' hw=>(text_ p s hs (by have:=hk.2.1;omega) g nb w' (h.below hw)).mono fun e w'' ⟨h1,h2,h3⟩=>⟨h1,h2,(hw.mono (Lr hgl)).trans h3⟩
 have qmX:Hid (∀ (q:Prs) (k:Nat),k<=q.words.length->∀ w',PaS w' g nb q->Below g w w'->Calls prog 161 #[.pointer (some ⟨g,0,none⟩),.int .i64 k] w' fun e w''=>e = .returned (.tuple #[])/\PaS w'' g nb ⟨q.words.drop k,q.out,q.style,q.joins⟩/\Below g w w''):=Lh fun q k hk w' hw hb=>(take_ q k hk g nb w' hw).mono fun e w'' ⟨h1,h2,h3⟩=>⟨h1,h2,hb.trans h3⟩
 obtain ⟨A,n,c,A2,c2,h1,h2,h3,h4,h5⟩:=h;have C1:=h3.cell 1;have C0:=h3.cell 0;simp only [jh,La,Lb,Lc] at C0 C1;have hn:p.words.length=n:=by have:=h4.1;simp [sv] at this;omega
 have qnQ:=hk.len;have hc63:c<=9223372036854775807:=by unfold maxLen at h2;omega
 have HC1:Hid (∀ w',Below w.heap.size w w'->w'.cell? ⟨g,1,none⟩=some (.slice A n c)):=Lh fun w' hw=>(hw.cell (show g<_ from hgl)).trans C1
 have HLi:Hid (∀ (k:Nat) (l:List ByteArray) A' N c',l=p.words.drop k->k<=n->N=n-k->Rd w g 1 A' N (sv l)->∀ w',Below w.heap.size w w'->Calls prog 162 #[.pointer (some ⟨g,0,none⟩),.slice A' N c'] w' fun e w''=>e = .returned (ql9 (yl l))/\Below w.heap.size w w''):=Lh fun k l A' N c' hl hkn hN rd w' hw =>
  (literal_ l A' N c' g g nb w' (fun s hs=>hk.1 s (by rw [hl] at hs;exact List.mem_of_mem_drop hs)) (by rw [hl,List.length_drop];omega) (rd.below (hw.mono (Lr hgl))) (by have:=hw.size;omega) (by have:=hw.size;omega) ((hw.cell (show g<_ from hgl)).trans C0) (hset.below hw)).mono fun e w'' ⟨h1,h2⟩=>⟨h1,hw.trans (h2.mono hw.size)⟩
 have HUpr:Hid (∀ s:ByteArray,s.size<=1000000->(∀ c∈s.data.toList,c.toNat<128)->∀ w',Below w.heap.size w w'->Calls prog 163 #[.string s] w' fun e w''=>e = .returned (.string ⟨(Lib.toUpperA s.data.toList).toArray⟩)/\Below w.heap.size w w''):=Lh fun s hs hb w' hw =>
  (Tryz.strings_ToUpper_ascii s w' L0 (fun j b hj=>hb b (List.mem_of_getElem? hj))).mono fun e w'' ⟨h1,h2⟩=>⟨h1,hw.trans (h2.mono hw.size)⟩
 have q1:=qct (a:=p.words.headD ⟨#[]⟩) (b:=bCap) (l:=[99,97,112]) rfl;have q2:=qct (a:=p.words.headD ⟨#[]⟩) (b:=yi) (l:=[99,97,112,115]) rfl
 by_cases hcp:p.words.headD ⟨#[]⟩=bCap
 ·have q2':(bCap.toList==[99,97,112,115])=false:=by decide +kernel
  clear q2;rw [Ll hcp] at q1;obtain ⟨W,O,st,J⟩:=p;dsimp only at *
  cases W with
  | nil=>exact absurd hcp L4
  | cons a t =>
   rw [List.headD_cons] at *
   subst hcp;have hn1:0<n:=by rw [<- hn];simp
   have hok:=fun s k (h:yl t=some (s,k))=>qfx h (fun s hs=>hk.1 s (by simp [hs])) (by simp at qnQ;omega)
   obtain ⟨b,o,hA,hbg,-⟩:=h4.2 hn1;subst hA
   have HRd:Hid (Rd w g 1 (if c=1 then some ⟨b,o,none⟩ else some ⟨b,o+1,none⟩) (n-1) (sv t)):=Lh (by
    have:=h4.cut (k:=1) hn1 h1;simp only [Nat.mul_one,Option.map_some,vl] at this
    exact this)
   have e0:jP ⟨bCap::t,O,st,J⟩=(yl t).map fun (s,n)=>kN ⟨bCap::t,O,st,J⟩ (jn s 1) (1+n):=by
    unfold jP;simp only;rw [if_pos trivial]
   have hwl:=hk.2.1
   by_cases hc1:c=1
   ·rw [if_pos hc1] at HRd;have hn0:n-1=0:=by omega
    have ht0:t=[]:=by
     have:=hn
     simp at this
     exact List.length_eq_zero_iff.1 L0
    subst ht0;subst hc1;obtain rfl:n=1:=by omega
    have qmR:=Lh (HLi.out 1 [] (some ⟨b,o,none⟩) 0 0 rfl L0 rfl HRd.out);rw [e0];simp only [yl,ql9,Option.map_none] at qmR ⊢;clear h2 h3 h4 h5 hset hk qnQ hn hok HLi HRd e0 qmX qmY HUpr
    go_enter func144,ntmps144
    go_wp2_with (first | (go_at_call 160;refine (HN.out _ L3).mono ?_;rintro e w1 ⟨rfl,hb1⟩;have C1':=HC1.out _ hb1) | (go_at_call 162;refine (qmR.out _ L3).mono ?_;rintro e w2 ⟨rfl,hb2⟩))
    go_ret;exact ⟨hb2.mono (Lr hgl),rfl,HPS.out.below hb2,hb2⟩
   ·rw [if_neg hc1] at HRd;have qmR:=Lh (HLi.out 1 t (some ⟨b,o+1,none⟩) (n-1) (c-1) rfl hn1 rfl HRd.out);rw [e0]
    cases qmN:yl t with
    | none =>
     rw [qmN] at qmR;simp only [ql9,Option.map_none] at qmR ⊢;clear h2 h3 h4 h5 hset hk qnQ hn hok HLi HRd e0 qmX qmY HUpr qmN
     go_enter func144,ntmps144
     go_wp2_with (first | (go_at_call 160;refine (HN.out _ L3).mono ?_;rintro e w1 ⟨rfl,hb1⟩;have C1':=HC1.out _ hb1) | (go_at_call 162;refine (qmR.out _ L3).mono ?_;rintro e w2 ⟨rfl,hb2⟩))
     go_ret;exact ⟨hb2.mono (Lr hgl),rfl,HPS.out.below hb2,hb2⟩
    | some x =>
     obtain ⟨s,k⟩:=x;rw [qmN] at qmR;simp only [ql9,Option.map_some] at qmR ⊢;obtain ⟨ha,hs,hk0,hkl⟩:=hok s k qmN;obtain ⟨hs0,haz⟩:=qcA ha;have ek:((k:Int)==0)=false:=Lm.2 L0;have ek2:k<=950000:=by simp at qnQ;omega
     have ew:wrap64 (1+(k:Int))=1+(k:Int):=by unfold wrap64;omega
     have hkl2:1+k<=(bCap::t).length:=by rw [Lp,Nat.add_comm];exact Nat.succ_le_succ hkl
     have HTk0:=Lh (qmX.out ⟨bCap::t,O++vm J st (jn s 1),st,true⟩ (1+k) hkl2);clear hkl2;rw [show ((1+k:Nat):Int)=1+(k:Int) by omega] at HTk0;have hX:=qi8 s hs0;have hXs:((⟨(Lib.toUpperA (s.extract 0 1).data.toList).toArray⟩:ByteArray)++s.extract 1 s.size).size<=1000000:=by rw [hX,qdX];exact hs
     have HTx:=Lh (qmY.out _ hXs);rw [<- hX] at HTk0 ⊢
     have HUp:Hid (∀ w',Calls prog 163 #[.string (s.extract 0 1)] w' (qh (.string ⟨(Lib.toUpperA (s.extract 0 1).data.toList).toArray⟩) w')):=Lh fun w'=>Tryz.strings_ToUpper_ascii (s.extract 0 1) w' (by rw [ByteArray.size_extract];omega) (fun j b hj=>by
      have hm:=List.mem_of_getElem? hj;rw [ByteArray.data_extract,Array.toList_extract,List.extract_eq_take_drop,List.drop_zero] at hm;have:=haz b (List.mem_of_mem_take hm)
      omega)
     clear h2 h3 h4 h5 hset hk qnQ hn hok HLi HRd e0 qmX qmY HUpr qmN hX hXs;have hU1:(⟨(Lib.toUpperA (s.extract 0 1).data.toList).toArray⟩:ByteArray).size<=1:=by
      show (List.toArray _).size<=1
      rw [List.size_toArray,Lib.toUpperA.eq_1,Lq];have:(s.extract 0 1).data.toList.length=(s.extract 0 1).size:=by simp
      rw [this,ByteArray.size_extract]
      omega
     have hU2:(s.extract 1 s.size).size<=1000000:=by rw [ByteArray.size_extract];omega
     generalize (⟨(Lib.toUpperA (s.extract 0 1).data.toList).toArray⟩:ByteArray)=U at *
     have HTk:=HTk0;clear HTk0;generalize (k:Int)=K at *
     have i1:(1:Int)<=s.size:=by omega
     show Calls _ _ _ w (PaR g nb _ (some ⟨(bCap::t).drop (1+k),O++vm J st (U++s.extract 1 s.size),st,true⟩) w)
     go_enter func144,ntmps144
     go_upto_region 10 with (first | (go_at_call 160;refine (HN.out _ L3).mono ?_;rintro e w1 ⟨rfl,hb1⟩;have C1':=HC1.out _ hb1) | (go_at_call 162;refine (qmR.out _ L3).mono ?_;rintro e w2 ⟨rfl,hb2⟩))
     have hzz:=hb1.size;have h1N : ∀ x:Near w.heap.size w1,Below w.heap.size w x.w:=fun x=>hb1.trans x.h
     refine qc w.heap.size ?_;(repeat (go_big_quiet_step ((go_at_call 163;exact Calls.near _ hzz (HUp.out _)))));refine wpQuiet_nil ?_;intro x1;have hb9:=h1N x1;clear h1N;generalize x1.w=w9 at *
     go_wp2_with (first
      | (first | (go_at_call 160;refine (HN.out _ L3).mono ?_;rintro e w1 ⟨rfl,hb1⟩;have C1':=HC1.out _ hb1) | (go_at_call 162;refine (qmR.out _ L3).mono ?_;rintro e w2 ⟨rfl,hb2⟩))
      | (go_at_call 163;refine (HUp.out _ L3).mono ?_;rintro e w4 ⟨rfl,hb4⟩)
      | (go_at_call 164;refine (HTx.out _ L3).mono ?_;rintro e w5 ⟨rfl,hp5,hb5⟩)
      | (go_at_call 161;refine (HTk.out _ hp5 hb5).mono ?_;rintro e w6 ⟨rfl,hp6,hb6⟩))
     go_ret;exact ⟨hb6,rfl,hp6⟩
 ·by_cases hcs:p.words.headD ⟨#[]⟩=yi
  ·rw [Lk hcp] at q1;rw [Ll hcs] at q2;obtain ⟨W,O,st,J⟩:=p;dsimp only at *
   cases W with
   | nil=>exact absurd hcs L4
   | cons a t =>
    rw [List.headD_cons] at *
    subst hcs;have hn1:0<n:=by rw [<- hn];simp
    have hok:=fun s k (h:yl t=some (s,k))=>qfx h (fun s hs=>hk.1 s (by simp [hs])) (by simp at qnQ;omega)
    obtain ⟨b,o,hA,hbg,-⟩:=h4.2 hn1;subst hA
    have HRd:Hid (Rd w g 1 (if c=1 then some ⟨b,o,none⟩ else some ⟨b,o+1,none⟩) (n-1) (sv t)):=Lh (by
     have:=h4.cut (k:=1) hn1 h1;simp only [Nat.mul_one,Option.map_some,vl] at this
     exact this)
    have e0:jP ⟨yi::t,O,st,J⟩=(yl t).map fun (s,n)=>kN ⟨yi::t,O,st,J⟩ (jn s s.size) (1+n):=by
     unfold jP;simp only;rw [if_neg L4,if_pos trivial]
    have hwl:=hk.2.1
    by_cases hc1:c=1
    ·rw [if_pos hc1] at HRd;have hn0:n-1=0:=by omega
     have ht0:t=[]:=by
      have:=hn
      simp at this
      exact List.length_eq_zero_iff.1 L0
     subst ht0;subst hc1;obtain rfl:n=1:=by omega
     have qmR:=Lh (HLi.out 1 [] (some ⟨b,o,none⟩) 0 0 rfl L0 rfl HRd.out);rw [e0];simp only [yl,ql9,Option.map_none] at qmR ⊢;clear h2 h3 h4 h5 hset hk qnQ hn hok HLi HRd e0 qmX qmY HUpr
     go_enter func144,ntmps144
     go_wp2_with (first | (go_at_call 160;refine (HN.out _ L3).mono ?_;rintro e w1 ⟨rfl,hb1⟩;have C1':=HC1.out _ hb1) | (go_at_call 162;refine (qmR.out _ L3).mono ?_;rintro e w2 ⟨rfl,hb2⟩))
     go_ret;exact ⟨hb2.mono (Lr hgl),rfl,HPS.out.below hb2,hb2⟩
    ·rw [if_neg hc1] at HRd;have qmR:=Lh (HLi.out 1 t (some ⟨b,o+1,none⟩) (n-1) (c-1) rfl hn1 rfl HRd.out);rw [e0]
     cases qmN:yl t with
     | none =>
      rw [qmN] at qmR;simp only [ql9,Option.map_none] at qmR ⊢;clear h2 h3 h4 h5 hset hk qnQ hn hok HLi HRd e0 qmX qmY HUpr qmN
      go_enter func144,ntmps144
      go_wp2_with (first | (go_at_call 160;refine (HN.out _ L3).mono ?_;rintro e w1 ⟨rfl,hb1⟩;have C1':=HC1.out _ hb1) | (go_at_call 162;refine (qmR.out _ L3).mono ?_;rintro e w2 ⟨rfl,hb2⟩))
      go_ret;exact ⟨hb2.mono (Lr hgl),rfl,HPS.out.below hb2,hb2⟩
     | some x =>
      obtain ⟨s,k⟩:=x;rw [qmN] at qmR;simp only [ql9,Option.map_some] at qmR ⊢;obtain ⟨ha,hs,hk0,hkl⟩:=hok s k qmN;obtain ⟨hs0,haz⟩:=qcA ha;have ek:((k:Int)==0)=false:=Lm.2 L0;have ek2:k<=950000:=by simp at qnQ;omega
      have ew:wrap64 (1+(k:Int))=1+(k:Int):=by unfold wrap64;omega
      have hkl2:1+k<=(yi::t).length:=by rw [Lp,Nat.add_comm];exact Nat.succ_le_succ hkl
      have HTk0:=Lh (qmX.out ⟨yi::t,O++vm J st (jn s s.size),st,true⟩ (1+k) hkl2);clear hkl2;rw [show ((1+k:Nat):Int)=1+(k:Int) by omega] at HTk0;have HTx:=Lh (qmY.out (jn s s.size) (by rw [qdX];exact hs));have HUp:=Lh (HUpr.out s hs (fun c hc=>by have:=haz c hc;omega));rw [qiJ] at HUp;clear h2 h3 h4 h5 hset hk qnQ hn hok HLi HRd e0 qmX qmY HUpr qmN;generalize jn s s.size=U at *
      have HTk:=HTk0;clear HTk0;generalize (k:Int)=K at *
      show Calls _ _ _ w (PaR g nb _ (some ⟨(yi::t).drop (1+k),O++vm J st U,st,true⟩) w)
      go_enter func144,ntmps144
      go_wp2_with (first
       | (first | (go_at_call 160;refine (HN.out _ L3).mono ?_;rintro e w1 ⟨rfl,hb1⟩;have C1':=HC1.out _ hb1) | (go_at_call 162;refine (qmR.out _ L3).mono ?_;rintro e w2 ⟨rfl,hb2⟩))
       | (go_at_call 163;refine (HUp.out _ L3).mono ?_;rintro e w4 ⟨rfl,hb4⟩)
       | (go_at_call 164;refine (HTx.out _ L3).mono ?_;rintro e w5 ⟨rfl,hp5,hb5⟩)
       | (go_at_call 161;refine (HTk.out _ hp5 hb5).mono ?_;rintro e w6 ⟨rfl,hp6,hb6⟩))
      go_ret;exact ⟨hb6,rfl,hp6⟩
  ·rw [Lk hcp] at q1;rw [Lk hcs] at q2;rw [qjw hcp hcs];have qmR:=Lh (HLi.out 0 p.words A n c rfl (Nat.zero_le _) rfl h4);have hok:=fun s k (h:yl p.words=some (s,k))=>qfx h hk.1 qnQ
   clear HLi hcp hcs
   cases qmN:yl p.words with
   | none =>
    rw [qmN] at qmR;simp only [ql9] at qmR;clear h2 h3 h4 h5 hset hk qnQ hn hok qmN;generalize p.words.headD ⟨#[]⟩=nx at *
    go_enter func144,ntmps144
    go_wp2_with (first | (go_at_call 160;refine (HN.out _ L3).mono ?_;rintro e w1 ⟨rfl,hb1⟩;have C1':=HC1.out _ hb1) | (go_at_call 162;refine (qmR.out _ L3).mono ?_;rintro e w2 ⟨rfl,hb2⟩))
    go_ret;exact ⟨hb2.mono (Lr hgl),rfl,HPS.out.below hb2,hb2⟩
   | some x =>
    obtain ⟨s,k⟩:=x;rw [qmN] at qmR;simp only [ql9] at qmR;obtain ⟨ha,hs,hk0,hkl⟩:=hok s k qmN;have HTx:=Lh (qmY.out s hs);have HTk:=Lh (qmX.out ⟨p.words,p.out++vm p.joins p.style s,p.style,true⟩ k hkl);have ek:((k:Int)==0)=false:=Lm.2 L0;have ew:wrap64 (k:Int)=k:=by unfold wrap64;omega
    clear h2 h3 h4 h5 hset hk qnQ hn hok qmN qmX qmY HUpr
    show Calls _ _ _ w (PaR g nb p (some ⟨p.words.drop k,p.out++vm p.joins p.style s,p.style,true⟩) w)
    generalize p.words.headD ⟨#[]⟩=nx at *
    go_enter func144,ntmps144
    go_wp2_with (first
     | (first | (go_at_call 160;refine (HN.out _ L3).mono ?_;rintro e w1 ⟨rfl,hb1⟩;have C1':=HC1.out _ hb1) | (go_at_call 162;refine (qmR.out _ L3).mono ?_;rintro e w2 ⟨rfl,hb2⟩))
     | (go_at_call 163;refine (HUp.out _ L3).mono ?_;rintro e w4 ⟨rfl,hb4⟩)
     | (go_at_call 164;refine (HTx.out _ L3).mono ?_;rintro e w5 ⟨rfl,hp5,hb5⟩)
     | (go_at_call 161;refine (HTk.out _ hp5 hb5).mono ?_;rintro e w6 ⟨rfl,hp6,hb6⟩))
    go_ret;exact ⟨hb6,rfl,hp6⟩
end Go.Proofs.YtggegijlfaipfaaGreatDoor
