/- Joined: Pa4, Ur1, Ur2, Pa5, Pa6. -/
import Derived.Test.YticbpkghcglgkaaGreatDoorVEC
set_option linter.unusedVariables false
set_option linter.unusedSimpArgs false
set_option linter.unnecessarySimpa false
set_option maxHeartbeats 8000000
namespace Go.Proofs.YticbpkghcglgkaaGreatDoor
open Go.Proofs.Tryz Go.RowKit
set_option maxRecDepth 20000
def litV:Option (ByteArray × Nat)->Value
 | some (s,n)=>.tuple #[.string s,.int .i64 n]
 | none=>.tuple #[.string ⟨#[]⟩,.int .i64 0]
def qaM (t:List ByteArray) (j:Nat):ByteArray:=⟨((t.take j).flatMap fun s=>s.data.toList).toArray⟩
theorem qeD {t:List ByteArray} {j:Nat} (h:j<t.length):qaM t (j+1)=qaM t j++t[j]:=by
 unfold qaM
 apply ByteArray.ext
 rw [ByteArray.data_append]
 apply Array.toList_inj.1
 rw [(List.take_append_getElem h).symm,List.flatMap_append]
 simp
theorem qdr {α:Type} {p:α->Bool} {t:List α} {j:Nat} (hj:j<=t.length) (h : ∀ k (hk:k<t.length),k<j->p t[k]=true) (hs : ∀ hk:j<t.length,p t[j]=false):t.takeWhile p=t.take j:=by
 have e:t=t.take j++t.drop j:=(List.take_append_drop _ _).symm
 conv=>lhs;rw [e]
 rw [List.takeWhile_append_of_pos fun x hx=>by
  obtain ⟨k,hk,rfl⟩:=List.mem_iff_getElem.1 hx
  rw [List.getElem_take]
  rw [List.length_take] at hk
  exact h k (by omega) (by omega)]
 rcases Nat.lt_or_ge j t.length with hlt | hge
 ·rw [List.drop_eq_getElem_cons hlt,List.takeWhile_cons_of_neg (by rw [hs hlt];simp),List.append_nil]
 ·rw [List.drop_of_length_le hge]
  simp
theorem sp_stop {t:List ByteArray} {j:Nat} (hj:j<=t.length) (h : ∀ k (hk:k<t.length),k<j->jQ t[k]=true) (hs : ∀ hk:j<t.length,jQ t[j]=false) :
  ya t=if j=0 then none else if t[j]? = some qaO then some (qaM t j,j+2) else none:=by
 unfold ya
 rw [qdr hj h hs,List.length_take,Nat.min_eq_left hj]
 rfl
theorem qjc {t:List ByteArray} {j:Nat} (hj:j<=t.length) (h : ∀ k (hk:k<t.length),k<j->jQ t[k]=true):(qaM t j).size=j:=by
 induction j with
 | zero=>rfl
 | succ j ih =>
  have h1:=h j (by omega) (by omega)
  unfold jQ at h1
  rw [Bool.and_eq_true,decide_eq_true_eq] at h1
  rw [qeD (by omega),ByteArray.size_append,ih (by omega) fun k hk hkj=>h k hk (by omega),h1.2]
theorem qct {a b:ByteArray} {l:List UInt8} (hb:b.data.toList=l):(a.toList==l)=decide (a=b):=by rw [<- hb,<- ByteArray.toList_eq,jO]
theorem literal_ (l:List ByteArray) (A:Option Addr) (n c B g nb:Nat) (w:World) (hsz : ∀ s∈l,s.size<=1000) (hl:l.length<=1000000) (rd:Rd w B 1 A n (sv l)) (hB:B<=w.heap.size)
  (hg:g<w.heap.size) (C0:w.cell? ⟨g,0,none⟩=some (.map (some nb))) (hset:SetM w nb 200 jF) :
  Calls prog 188 #[.pointer (some ⟨g,0,none⟩),.slice A n c] w (qh (litV (yl l)) w):=by
 have hn:l.length=n:=by have:=rd.1;simp [sv] at this;omega
 have hzz:w.heap.size<=w.heap.size:=Nat.le_refl _
 cases l with
 | nil =>
  obtain rfl:n=0:=by simpa using hn.symm
  clear rd hset C0
  go_enter func188,ntmps188
  go_wp2
  go_ret2
  exact ⟨rfl,Below.refl _ _⟩
 | cons a t =>
  have hn1:0<n:=by rw [<- hn];simp
  have ht:t.length+1=n:=by simpa using hn
  obtain ⟨b,o,rfl,hb,hca⟩:=rd.at_ hn1
  have ha:w.cell? ⟨b,o,none⟩=some (.string a):=hca
  have han : ∀ x:Near w.heap.size w,x.w.cell? ⟨b,o,none⟩=some (.string a):=fun x=>(x.h.cell (by show b<_;omega)).trans ha
  have h0n : ∀ x:Near w.heap.size w,x.w.cell? ⟨g,0,none⟩=some (.map (some nb)):=fun x=>(x.h.cell hg).trans C0
  have hHL : ∀ x:Near w.heap.size w,(Instr.lookup 198 (.map (some nb)) (.string a) false).run prog x.w = .ok (.bool (jF a)) x.w:=fun x=>(hset.below x.h).look a (Nat.le_trans (hsz a (by simp)) (by decide))
  have HP:=Lh (qhR a (Nat.le_trans (hsz a (by simp)) (by decide)))
  have q1:=qct (a:=a) (b:=vD) (l:=[119,111,114,100]) rfl
  have q2:=qct (a:=a) (b:=qS) (l:=[115,112,101,108,108,101,100]) rfl
  have haz:=azB a
  by_cases hw:a=vD
  ·rw [decide_eq_true hw] at q1
   have hne:a≠qS:=by rw [hw];decide +kernel
   rw [decide_eq_false hne] at q2
   have haz1:azB a=true:=by rw [hw];decide +kernel
   have hrs1:jF a=true:=by rw [hw];decide +kernel
   rw [hrs1] at hHL
   rw [haz1] at HP
   have e1:azB (t.headD ⟨#[]⟩)=false->yl (a::t)=none:=fun h=>by
    rw [yl,if_neg (by rw [h];simp),if_neg (by rw [hrs1];simp),if_neg hne]
   cases t with
   | nil =>
    obtain rfl:n=1:=by simpa using ht.symm
    rw [e1 (by decide +kernel)]
    clear e1 hne haz1 hrs1 hset hsz hw hca rd haz
    go_enter func188,ntmps188
    go_upto_region 5 with fail
    refine qc w.heap.size (by kernel_rfl) (by kernel_rfl) ?_;(repeat (go_big_quiet_step ((go_at_call 195;exact Calls.near _ hzz (HP.out _)))));refine wpQuiet_nil ?_;intro _ hw';obtain ⟨x1,hw''⟩:=hw';subst hw''
    have ha1:=han x1
    have hb1:=x1.h
    generalize x1.w=w1 at *
    go_wp2
    go_ret2
    exact ⟨rfl,hb1⟩
   | cons d t' =>
    have hn2:1<n:=by rw [<- ht];simp
    have hcd:=rd.at_ hn2
    obtain ⟨b',o',e',_,hcd⟩:=hcd
    simp only [Option.some.injEq,Addr.mk.injEq,and_true] at e'
    obtain ⟨rfl,rfl⟩:=e'
    have hd:w.cell? ⟨b,o+1,none⟩=some (.string d):=hcd
    have HD:=Lh (qhR d (Nat.le_trans (hsz d (by simp)) (by decide)))
    rw [List.headD_cons] at e1
    cases hz:azB d with
    | true =>
     have e2:yl (a::d::t')=some (d,2):=by rw [yl,List.headD_cons,if_pos ⟨hw,hz⟩]
     rw [e2]
     rw [hz] at HD
     clear e1 e2 hne haz1 hrs1 hset hsz hw hca hcd rd haz hz
     go_enter func188,ntmps188
     go_wp2_with (go_at_call 195;refine (HD.out _).mono ?_;rintro e w1 ⟨rfl,hbel1⟩;have hd1:=(hbel1.cell (p:=⟨b,o+1,none⟩) (by show b<_;omega)).trans hd)
     go_ret2
     exact ⟨rfl,hbel1⟩
    | false =>
     rw [e1 hz]
     rw [hz] at HD
     clear e1 hne haz1 hrs1 hset hsz hw hca hcd rd haz hz
     go_enter func188,ntmps188
     go_upto_region 5 with (go_at_call 195;refine (HD.out _).mono ?_;rintro e w1 ⟨rfl,hbel1⟩)
     have hzz1:w.heap.size<=w1.heap.size:=hbel1.size
     have han1 : ∀ x:Near w.heap.size w1,x.w.cell? ⟨b,o,none⟩=some (.string a):=fun x=>han ⟨x.w,hbel1.trans x.h⟩
     have h0n1 : ∀ x:Near w.heap.size w1,x.w.cell? ⟨g,0,none⟩=some (.map (some nb)):=fun x=>h0n ⟨x.w,hbel1.trans x.h⟩
     have hHL1 : ∀ x:Near w.heap.size w1,(Instr.lookup 198 (.map (some nb)) (.string a) false).run prog x.w = .ok (.bool true) x.w:=fun x=>hHL ⟨x.w,hbel1.trans x.h⟩
     refine qc w.heap.size (by kernel_rfl) (by kernel_rfl) ?_;(repeat (go_big_quiet_step ((go_at_call 195;exact Calls.near _ hzz1 (HP.out _)))));refine wpQuiet_nil ?_;intro _ hw';obtain ⟨x1,hw''⟩:=hw';subst hw''
     have ha1:=han1 x1
     have hb1:=hbel1.trans x1.h
     generalize x1.w=w2 at *
     go_wp2
     go_ret2
     exact ⟨rfl,hb1⟩
  ·rw [decide_eq_false hw] at q1
   have e1:yl (a::t)=if azB a=true/\jF a=false then some (a,1) else if a=qS then ya t else none:=if_neg fun h=>hw h.1
   by_cases hlit:azB a=true/\jF a=false
   ·rw [e1,if_pos hlit]
    rw [hlit.1] at HP
    rw [hlit.2] at hHL
    clear e1 hlit q2 hset hsz hw hca rd
    go_enter func188,ntmps188
    go_upto_region 5 with fail
    refine qc w.heap.size (by kernel_rfl) (by kernel_rfl) ?_;(repeat (go_big_quiet_step ((go_at_call 195;exact Calls.near _ hzz (HP.out _)))));refine wpQuiet_nil ?_;intro _ hw';obtain ⟨x1,hw''⟩:=hw';subst hw''
    go_wp2
    go_ret2
    exact ⟨rfl,x1.h⟩
   ·rw [e1,if_neg hlit]
    obtain ⟨RES,hRES⟩ : ∃ x,x=if a=qS then ya t else none:=⟨_,rfl⟩
    rw [<- hRES]
    replace hRES:=Lh hRES
    have hcs:azB a=false∨(azB a=true/\jF a=true):=by
     cases h1:azB a with
     | false=>exact .inl rfl
     | true =>
      cases h2:jF a with
      | true=>exact .inr ⟨rfl,rfl⟩
      | false=>exact absurd ⟨h1,h2⟩ hlit
    have hsz':=Lh hsz
    clear e1 hlit hset hsz hw hca haz
    go_enter func188,ntmps188
    go_upto_region 5 with fail
    go_cut [30] (fun v wx=>v = .bool false/\Below w.heap.size w wx)
    case first =>
     clear hsz' rd q2
     rcases hcs with hz | ⟨hz,hr⟩
     ·rw [hz] at HP
      clear hHL hz
      refine qc w.heap.size (by kernel_rfl) (by kernel_rfl) ?_;(repeat (go_big_quiet_step ((go_at_call 195;exact Calls.near _ hzz (HP.out _)))));refine wpQuiet_nil ?_;intro _ hw';obtain ⟨x1,hw''⟩:=hw';subst hw''
      go_wp2
      go_meet
      exact ⟨rfl,x1.h⟩
     ·rw [hz] at HP
      rw [hr] at hHL
      clear hz hr
      refine qc w.heap.size (by kernel_rfl) (by kernel_rfl) ?_;(repeat (go_big_quiet_step ((go_at_call 195;exact Calls.near _ hzz (HP.out _)))));refine wpQuiet_nil ?_;intro _ hw';obtain ⟨x1,hw''⟩:=hw';subst hw''
      go_wp2
      go_meet
      exact ⟨rfl,x1.h⟩
    case rest =>
     obtain ⟨rfl,hbc⟩:=hcut
     clear han h0n hHL HP hcs C0 hg
     have ha1:=(hbc.cell (p:=⟨b,o,none⟩) (by show b<_;omega)).trans ha
     by_cases hsp:a=qS
     ·rw [decide_eq_true hsp] at q2
      replace hRES:=Lh (hRES.out.trans (if_pos hsp))
      have HLt:Hid (∀ k (hk:k<t.length),t[k].size<=1000):=Lh fun k hk=>hsz'.out _ (List.mem_cons_of_mem _ (List.getElem_mem hk))
      have HC:Hid (∀ k (hk:k<t.length) w',Below w.heap.size w w'->w'.cell? ⟨b,o+(k+1),none⟩=some (.string t[k])):=Lh fun k hk w' hw=>by
       obtain ⟨b',o',e',_,hcd⟩:=rd.at_ (k:=k+1) (by omega)
       simp only [Option.some.injEq,Addr.mk.injEq,and_true] at e'
       obtain ⟨rfl,rfl⟩:=e'
       refine (hw.cell (by show b<_;omega)).trans (hcd.trans ?_)
       show (sv (a::t))[k+1]? = _
       simp [sv,hk]
      have HS:Hid (∀ k (hk:k<t.length),qaM t (k+1)=qaM t k++t[k]):=Lh fun k hk=>qeD hk
      have HSt:Hid (∀ j,j<=t.length->(∀ k (hk:k<t.length),k<j->jQ t[k]=true)->(∀ hk:j<t.length,jQ t[j]=false)->ya t=if j=0 then none else if t[j]? = some qaO then some (qaM t j,j+2) else none):=Lh fun j h1 h2 h3=>sp_stop h1 h2 h3
      have HSz:Hid (∀ j,j<=t.length->(∀ k (hk:k<t.length),k<j->jQ t[k]=true)->(qaM t j).size=j):=Lh fun j h1 h2=>qjc h1 h2
      rw [<- hRES.out] at HSt
      clear rd hsz' hsp q1 ha
      have hl':t.length<=1000000:=by simp at hl;omega
      have ht':=Lh ht
      clear hn hl ht
      go_wp2
      go_loopw [7,6] (fun x y wr=>∃ j:Nat,j<=t.length/\x = .int .i64 (j+1:Nat)/\y = .string (qaM t j)/\Below w.heap.size w wr/\Hid (∀ k (hk:k<t.length),k<j->jQ t[k]=true)) (fun x _ _=>n-(intOf x).toNat)
      case atStart=>exact ⟨0,Nat.zero_le _,rfl,rfl,hbc,Lh fun k hk h=>absurd h (Nat.not_lt_zero k)⟩
      case round =>
       clear hbc
       obtain ⟨j,hj,rfl,rfl,hbel,HA⟩:=hrel
       have hz:=HSz.out j hj HA.out
       by_cases hlt:j<t.length
       ·have hc:=HC.out j hlt wr hbel
        have HCn:=Lh (HS.out j hlt)
        have hxs:=HLt.out j hlt
        have HSj:=Lh (HSt.out j hj HA.out)
        have HAn:Hid (jQ t[j]=true->∀ k (hk:k<t.length),k<j+1->jQ t[k]=true):=Lh fun h k hk hkj=>by
         rcases Nat.lt_or_ge k j with h' | h'
         ·exact HA.out k hk h'
         ·obtain rfl:k=j:=by omega
          exact h
        have HP:=Lh (qhR t[j] (Nat.le_trans hxs (by decide)))
        have hqe:=qct (a:=t[j]) (b:=qaO) (l:=[101,110,100]) rfl
        have htj:t[j]? = some t[j]:=List.getElem?_eq_getElem hlt
        have hjn:j+1<n:=by have:=ht'.out;omega
        by_cases hone:jQ t[j]=true
        ·have HA2:=Lh (HAn.out hone)
         have ho:=hone
         unfold jQ at ho
         rw [Bool.and_eq_true,decide_eq_true_eq] at ho
         obtain ⟨ho1,ho2⟩:=ho
         have hne:t[j]≠qaO:=by rintro e;rw [e] at ho2;cases ho2
         rw [decide_eq_false hne] at hqe
         rw [ho1] at HP
         clear HSj HAn HSt hone hne ho1 HS HSz HC htj
         generalize t[j]=x at *
         generalize qaM t j=CJ at *
         go_wp2_with (go_at_call 195;refine (HP.out _).mono ?_;rintro e w1 ⟨rfl,hbel1⟩;have hc1:=(hbel1.cell (p:=⟨b,o+(j+1),none⟩) (by show b<wr.heap.size;have:=hbel.size;omega)).trans hc)
         exact ⟨⟨j+1,by omega,by go_num,by rw [HCn.out],hbel.trans (hbel1.mono hbel.size),HA2⟩,by simp [intOf];omega⟩
        ·have HSj2:=Lh (HSj.out (fun _=>by simpa using hone))
         rw [htj] at HSj2
         by_cases hend:t[j]=qaO/\j≠0
         ·have he:(qaM t j).toList.isEmpty=false:=jp (by omega)
          have HR2:Hid (RES=some (qaM t j,j+2)):=Lh (by rw [HSj2.out,if_neg hend.2,if_pos (by rw [hend.1])])
          rw [decide_eq_true hend.1] at hqe
          clear HSj HSj2 HAn HSt hone HS HSz HC htj HP HCn hend
          generalize t[j]=x at *
          generalize qaM t j=CJ at *
          go_wp2
          go_ret2
          exact ⟨by rw [HR2.out];show Ending.returned (.tuple #[.string CJ,.int .i64 ((j:Int)+1+1)]) = .returned (.tuple #[.string CJ,.int .i64 ((j+2:Nat):Int)]);rw [show ((j+2:Nat):Int)=(j:Int)+1+1 by omega],hbel⟩
         ·have HR2:Hid (RES=none):=Lh (by
           rw [HSj2.out]
           by_cases h0:j=0
           ·rw [if_pos h0]
           ·rw [if_neg h0,if_neg (fun e=>hend ⟨by injection e,h0⟩)])
          by_cases hxe:t[j]=qaO
          ·have h0:j=0:=Classical.not_not.1 fun h=>hend ⟨hxe,h⟩
           have he:(qaM t j).toList.isEmpty=true:=by rw [h0,ByteArray.toList_eq];rfl
           rw [decide_eq_true hxe] at hqe
           have hx3:t[j].size=3:=by rw [hxe];rfl
           have hxp:azB t[j]=true:=by rw [hxe];decide +kernel
           rw [hxp] at HP
           have hx1:((t[j].size:Int) != 1)=true:=by rw [hx3];rfl
           clear HSj HSj2 HAn HSt hone HS HSz HC htj HCn hend hxe hxp h0 hx3
           generalize t[j]=x at *
           generalize qaM t j=CJ at *
           go_wp2_with (go_at_call 195;refine (HP.out _).mono ?_;rintro e w1 ⟨rfl,hbel1⟩;have hc1:=(hbel1.cell (p:=⟨b,o+(j+1),none⟩) (by show b<wr.heap.size;have:=hbel.size;omega)).trans hc)
           go_ret2
           exact ⟨by rw [HR2.out];rfl,hbel.trans (hbel1.mono hbel.size)⟩
          ·rw [decide_eq_false hxe] at hqe
           have hone':azB t[j]=false∨(azB t[j]=true/\t[j].size≠1):=by
            cases h1:azB t[j] with
            | false=>exact .inl rfl
            | true =>
             refine .inr ⟨rfl,fun h2=>hone ?_⟩
             unfold jQ
             rw [h1,decide_eq_true h2]
             rfl
           clear HSj HSj2 HAn HSt hone HS HSz HC htj HCn hend hxe
           generalize t[j]=x at *
           generalize qaM t j=CJ at *
           rcases hone' with hz | ⟨hz,hx1⟩
           ·rw [hz] at HP
            clear hz
            go_wp2_with (go_at_call 195;refine (HP.out _).mono ?_;rintro e w1 ⟨rfl,hbel1⟩)
            go_ret2
            exact ⟨by rw [HR2.out];rfl,hbel.trans (hbel1.mono hbel.size)⟩
           ·rw [hz] at HP
            have hx1':((x.size:Int) != 1)=true:=bne_iff_ne.2 (by omega)
            clear hz
            go_wp2_with (go_at_call 195;refine (HP.out _).mono ?_;rintro e w1 ⟨rfl,hbel1⟩;have hc1:=(hbel1.cell (p:=⟨b,o+(j+1),none⟩) (by show b<wr.heap.size;have:=hbel.size;omega)).trans hc)
            go_ret2
            exact ⟨by rw [HR2.out];rfl,hbel.trans (hbel1.mono hbel.size)⟩
       ·obtain rfl:j=t.length:=by omega
        have hjn : ¬ t.length+1<n:=by have:=ht'.out;omega
        have HR2:Hid (RES=none):=Lh (by
         rw [HSt.out t.length (Nat.le_refl _) HA.out (fun hk=>absurd hk (Nat.lt_irrefl _))]
         split
         ·rfl
         ·rw [List.getElem?_eq_none (Nat.le_refl _),if_neg (by simp)])
        clear HSt HS HSz HC HA HLt
        generalize qaM t t.length=CJ at *
        go_wp2
        go_ret2
        exact ⟨by rw [HR2.out];rfl,hbel⟩
     ·rw [decide_eq_false hsp] at q2
      replace hRES:=Lh (hRES.out.trans (if_neg hsp))
      clear rd hsz' hsp q1 ha
      go_wp2
      go_ret2
      exact ⟨by rw [hRES.out];rfl,hbc⟩
theorem WdR.cut {w:World} {B:Nat} {l:List ByteArray} {A:Option Addr} {n c k:Nat} (h:WdR w B l A n c) (hk:k<=n):WdR w B (l.drop k) (if c=k then A else A.map (·.add (k * 1))) (n-k) (c-k):=by
 have hr:=h.rd.cut (k:=k) hk h.cap
 rw [show (sv l).drop (k * 1)=sv (l.drop k) by simp [sv]] at hr
 have:=h.len
 have:=h.cap
 have:=h.max
 exact ⟨by rw [List.length_drop];omega,by omega,by omega,hr,fun s hs=>h.sz s (List.mem_of_mem_drop hs)⟩
def qX (r:Option (List ByteArray)) (s:ByteArray):Bool:=match r with
 | some l=>vT s l
 | none=>false
theorem qdo (r:Option (List ByteArray)) (v:Value) (s:ByteArray) (B:Nat) (w:World) (h:RV w B r v) (hB:B<=w.heap.size):Calls prog 46 #[v,.string s] w (qh (.bool (qX r s)) w):=by
 obtain ⟨A,n,c,l,bad,rfl,hW,rfl⟩:=h
 cases bad with
 | true =>
  clear hW
  show Calls _ _ _ _ (qh (.bool false) w)
  go_enter func46,ntmps46
  go_wp2
  go_ret
  exact ⟨rfl,(Below.refl _ _).alloc (Nat.le_refl _) _⟩
 | false =>
  show Calls _ _ _ _ (qh (.bool (vT s l)) w)
  cases l with
  | nil =>
   obtain rfl:n=0:=hW.len.symm
   clear hW
   show Calls _ _ _ _ (qh (.bool false) w)
   go_enter func46,ntmps46
   go_wp2
   go_ret
   exact ⟨rfl,(Below.refl _ _).alloc (Nat.le_refl _) _⟩
  | cons a t =>
   have hn:0<n:=by have:=hW.len;simp at this;omega
   have hi:(0:Int)<n:=by omega
   obtain ⟨b,o,rfl,hb,hca⟩:=hW.rd.at_ hn
   have ha:w.cell? ⟨b,o,none⟩=some (.string a):=hca
   have hbl:b<w.heap.size:=by omega
   have q:(a.toList==s.toList)=vT s (a::t):=jO a s
   generalize vT s (a::t)=R at *
   clear hW hca
   go_enter func46,ntmps46
   go_wp2
   go_ret
   exact ⟨rfl,(Below.refl _ _).alloc (Nat.le_refl _) _⟩
def yS:Option (List ByteArray)->List ByteArray->Option (List ByteArray)
 | r,[]=>r
 | r,s::t=>yS (r.bind (skO s)) t
theorem qcS : ∀ ws:List ByteArray,yS none ws=none
 | []=>rfl
 | _::t=>qcS t
theorem nextB_no {r:Option (List ByteArray)} {s:ByteArray} (h:qX r s=false):r.bind (skO s)=none:=by
 cases r with
 | none=>rfl
 | some l =>
  cases l with
  | nil=>rfl
  | cons a t =>
   have:a≠s:=fun e=>by rw [e] at h;simp [qX,vT] at h
   show (if a=s then some t else none)=none
   rw [if_neg this]
theorem qj9 {bad:Bool} {l:List ByteArray} {s:ByteArray} (h:qX (y7 bad l) s=true):bad=false/\∃ t,l=s::t/\(y7 bad l).bind (skO s)=some t:=by
 cases bad with
 | true=>cases h
 | false =>
  cases l with
  | nil=>cases h
  | cons a t =>
   have e:a=s:=by simpa [qX,y7,vT] using h
   subst e
   exact ⟨rfl,t,rfl,yL _ _⟩
theorem zG:(prog.info? 92).map (fun x=>x.size)=some 2:=by kernel_rfl
theorem vd {w:World} {g:Nat} {t:TypeId} {a b a' b':Value} (h:Blk w g t #[a,b]):Blk ((w.setCell ⟨g,0,none⟩ a').setCell ⟨g,1,none⟩ b') g t #[a',b']:=by
 have:=(h.set_ 0 a').set_ 1 b'
 simpa using this
theorem RX.turn {w w1:World} {B:Nat} {bad:Bool} {l:List ByteArray} {A0 A:Option Addr} {n0 c0 n c:Nat} (C1:Blk w1 w.heap.size 92 #[.slice A0 n0 c0,.bool bad]) (C2:Blk w1 (w.heap.size+1) 92 #[.slice none 0 0,.bool false]) (tx:Below w.heap.size w w1) (h:WdR w B l A n c) :
  RX w B bad l (w1.setCell ⟨w.heap.size,0,none⟩ (.slice A n c)):=by
 refine ⟨A,n,c,h,?_,C2.far (p:=⟨w.heap.size,0,none⟩) (by show w.heap.size+1≠w.heap.size;omega) _,tx.setCell (Nat.le_refl _) _⟩
 have:=C1.set_ 0 (.slice A n c)
 simpa using this
theorem uskip_ (r:Option (List ByteArray)) (v:Value) (ws:List ByteArray) (Aw:Option Addr) (nw cw:Nat) (B:Nat) (w:World) (h:RV w B r v) (hB:B<=w.heap.size) (hw:ws.length=nw) (hws:nw<=1000) (rdw:Rd w w.heap.size 1 Aw nw (sv ws)) :
  Calls prog 74 #[v,.slice Aw nw cw] w (RRet w B (yS r ws) id):=by
 obtain ⟨A,n,c,l,bad,rfl,hW,rfl⟩:=h
 obtain ⟨R,hR⟩ : ∃ x,x=yS (y7 bad l) ws:=⟨_,rfl⟩
 rw [<- hR]
 have hX:RX w B bad l ((w.alloc (.cells #[.slice A n c,.bool bad] 92)).alloc (.cells #[.slice none 0 0,.bool false] 92)) :=
  ⟨A,n,c,hW,Blk.alloc (Blk.new w _ _) _,Blk.new_ (by simp),((Below.refl _ _).alloc (Nat.le_refl _) _).alloc (by simp) _⟩
 have H0:Hid (R=yS (y7 bad l) (ws.drop 0)):=Lh hR
 have HRw:=Lh rdw
 have HNw:=Lh hw
 clear hR hW rdw hw
 go_enter func74,ntmps74
 go_upto_region 1 with fail
 refine qa (RX w B bad l) hX ?_
 clear hX
 intro X hX
 go_wp2
 go_loopw [9] (fun x wr=>∃ (k:Nat) (l':List ByteArray),k<=nw/\x = .int .i64 k/\RX w B bad l' wr/\Hid (R=yS (y7 bad l') (ws.drop k))) (fun x _=>nw-(intOf x).toNat)
 case atStart=>exact ⟨0,l,Nat.zero_le _,rfl,hX,H0⟩
 case round =>
  clear hX H0
  obtain ⟨k,l',hk,rfl,hX,HK⟩:=hrel
  obtain ⟨A',n',c',hW,B1,B2,tx⟩:=id hX
  have z1:=B2.lt
  have z0:=B1.lt
  have c0:=B1.cell 0
  have c1:=B1.cell 1
  have d0:=B2.cell 0
  have d1:=B2.cell 1
  have f0:=B1.frozen 0
  have f1:=B1.frozen 1
  have g0:=B2.frozen 0
  have g1:=B2.frozen 1
  simp only [La,Lb,Lc] at c0 c1 d0 d1
  by_cases hlt:k<nw
  ·have hkl:k<ws.length:=by have:=HNw.out;omega
   obtain ⟨bw,ow,rfl,hbw,hcw⟩:=HRw.out.at_ hlt
   rw [yM _ _ hkl] at hcw
   replace hcw:=(tx.cell (p:=⟨bw,ow+k,none⟩) hbw).trans hcw
   have HD:Hid (yS (y7 bad l') (ws.drop k)=yS ((y7 bad l').bind (skO ws[k])) (ws.drop (k+1))):=Lh (by rw [List.drop_eq_getElem_cons hkl];rfl)
   have HNx:=Lh (qdo (y7 bad l') (.agg #[.slice A' n' c',.bool bad]) ws[k] B wr ⟨A',n',c',l',bad,rfl,hW.below (tx.mono hB),rfl⟩ (Nat.le_trans hB tx.size))
   generalize ws[k]=s at *
   cases hnx:qX (y7 bad l') s with
   | false =>
    have HR2:Hid (R=none):=Lh (by rw [HK.out,HD.out,nextB_no hnx,qcS])
    rw [hnx] at HNx
    clear HK HD hnx hW
    go_wp2_with (go_at_call 46;refine HNx.out.mono ?_;rintro e w1 ⟨rfl,hb1⟩;clear c0 c1 d0 d1 f0 f1 g0 g1;have C2:=B2.below hb1 B2.lt;have d0:=C2.cell 0;have d1:=C2.cell 1;have g0:=C2.frozen 0;have g1:=C2.frozen 1;simp only [La,Lb,Lc] at d0 d1)
    have Rr:=vd (a':=.slice none 0 0) (b':=.bool true) C2
    exact bodyPost_ret (results_cell_row rfl _ _ (w.heap.size+1) 92 _ (0,0) _ rfl Rr underlying92 rfl zG) rfl ⟨_,rfl,by rw [HR2.out];exact RV.bad w B,((tx.trans (hb1.mono (by omega))).setCell (by show w.heap.size<=w.heap.size+1;omega) _).setCell (by show w.heap.size<=w.heap.size+1;omega) _⟩
   | true =>
    obtain ⟨rfl,t,rfl,ht⟩:=qj9 hnx
    have HR2:Hid (R=yS (y7 false t) (ws.drop (k+1))):=Lh (by rw [HK.out,HD.out,ht];rfl)
    rw [hnx] at HNx
    have hn1:1<=n':=by have:=hW.len;simp at this;omega
    have hcut:=hW.cut hn1
    have hcap:=hW.cap
    have hmax:=hW.max
    have i1:(1:Int)<=n':=by omega
    have i2:(1:Int)<=c':=by omega
    have i3:c'<=9223372036854775807:=by unfold maxLen at hmax;omega
    clear HK HD hnx hW ht
    by_cases hc1:c'=1
    ·rw [if_pos hc1] at hcut
     subst hc1
     go_wp2_with (go_at_call 46;refine HNx.out.mono ?_;rintro e w1 ⟨rfl,hb1⟩;clear c0 c1 d0 d1 f0 f1 g0 g1;have C1:=B1.below hb1 B1.lt;have C2:=B2.below hb1 B2.lt;have c0:=C1.cell 0;have f0:=C1.frozen 0;simp only [La,Lb,Lc] at c0)
     have hz:n'-1=0:=by omega
     rw [hz] at hcut
     exact ⟨⟨k+1,t,by omega,by go_num,RX.turn C1 C2 (tx.trans (hb1.mono (by omega))) hcut,HR2⟩,by simp [intOf];omega⟩
    ·rw [if_neg hc1] at hcut
     go_wp2_with (go_at_call 46;refine HNx.out.mono ?_;rintro e w1 ⟨rfl,hb1⟩;clear c0 c1 d0 d1 f0 f1 g0 g1;have C1:=B1.below hb1 B1.lt;have C2:=B2.below hb1 B2.lt;have c0:=C1.cell 0;have f0:=C1.frozen 0;simp only [La,Lb,Lc] at c0)
     exact ⟨⟨k+1,t,by omega,by go_num,RX.turn C1 C2 (tx.trans (hb1.mono (by omega))) hcut,HR2⟩,by simp [intOf];omega⟩
  ·have HR2:Hid (R=y7 bad l'):=Lh (by rw [HK.out,List.drop_of_length_le (by have:=HNw.out;omega)];rfl)
   clear HK HRw
   go_wp2
   have Rr:=vd (a':=.slice A' n' c') (b':=.bool bad) B2
   exact bodyPost_ret (results_cell_row rfl _ _ (w.heap.size+1) 92 _ (0,0) _ rfl Rr underlying92 rfl zG) rfl ⟨_,rfl,⟨A',n',c',l',bad,rfl,hW,HR2.out⟩,(tx.setCell (by show w.heap.size<=w.heap.size+1;omega) _).setCell (by show w.heap.size<=w.heap.size+1;omega) _⟩
theorem zn {P:Program} {fn:Func} {p u:Tmp} {ty:TypeId} (h:fn.results = #[.tmp u,.cell p ty]) (tmps:Array Value) (w:World) (g:Nat) (t:TypeId) (cs:Array Value) (fr:Nat × Nat) (d:TypeDesc)
  (hp:tmps.getD p undef = .pointer (some ⟨g,0,none⟩)) (hg:w.heap[g]? = some (.cells cs t fr))
  (hu:P.underlying ty=some d) (hd:(match d with | .struct _ | .array _ _=>true | _=>false)=true) (hi:(P.info? ty).map (·.size)=some cs.size) :
  (results fn tmps).run P w = .ok (.tuple #[tmps.getD u undef,.agg cs]) w:=by
 simp only [results,h]
 have hp':tmps[p]?.getD undef = .pointer (some ⟨g,0,none⟩):=by simpa using hp
 simp [Sem.run_bind,Result.andThen,hp',asAddr,run_loadVar_row w g t ty cs fr d hg hu hd hi]
theorem qfL (r:Option (List ByteArray)) (v:Value) (B:Nat) (w:World) (h:RV w B r v) (hB:B<=w.heap.size):Calls prog 80 #[v] w (NRet w B (qN r)):=by
 obtain ⟨A,n,c,l,bad,rfl,hW,rfl⟩:=h
 obtain ⟨R,hR⟩ : ∃ x,x=qN (y7 bad l):=⟨_,rfl⟩
 rw [<- hR]
 have hX:RX w B bad l ((w.alloc (.cells #[.slice A n c,.bool bad] 92)).alloc (.cells #[.slice none 0 0,.bool false] 92)) :=
  ⟨A,n,c,hW,Blk.alloc (Blk.new w _ _) _,Blk.new_ (by simp),((Below.refl _ _).alloc (Nat.le_refl _) _).alloc (by simp) _⟩
 clear hW
 cases hp:zi l with
 | none =>
  have HR2:Hid (R=(0,none)):=Lh (by rw [hR];cases bad <;> simp [qN,y7,kU,hp])
  clear hR
  cases bad with
  | true =>
   go_enter func80,ntmps80
   go_upto_region 1 with fail
   refine qa (RX w B true l) hX ?_
   clear hX
   rintro X ⟨A',n',c',hW,B1,B2,tx⟩
   have z1:=B2.lt
   have z0:=B1.lt
   have c0:=B1.cell 0
   have c1:=B1.cell 1
   have d0:=B2.cell 0
   have d1:=B2.cell 1
   have f0:=B1.frozen 0
   have f1:=B1.frozen 1
   have g0:=B2.frozen 0
   have g1:=B2.frozen 1
   simp only [La,Lb,Lc] at c0 c1 d0 d1
   have HPr:=Lh (kx l A' n' c' X hW.len hW.cap hW.max ((hW.rd.below (tx.mono hB)).more (Nat.le_trans hB tx.size)) (fun s hs=>Nat.le_trans (hW.sz s hs) (by decide)))
   rw [hp] at HPr
   simp only [ve] at HPr
   clear hp hW
   go_wp2_with (go_at_call 107;refine HPr.out.mono ?_;rintro e w1 ⟨rfl,hb1⟩;clear c0 c1 d0 d1 f0 f1 g0 g1;have C1:=B1.below hb1 B1.lt;have C2:=B2.below hb1 B2.lt;have c0:=C1.cell 0;have c1:=C1.cell 1;have d0:=C2.cell 0;have d1:=C2.cell 1;have g0:=C2.frozen 0;have g1:=C2.frozen 1;simp only [La,Lb,Lc] at c0 c1 d0 d1)
   have Rr:=vd (a':=.slice none 0 0) (b':=.bool true) C2
   have tz:=((tx.trans (hb1.mono (by omega))).setCell (p:=⟨w.heap.size+1,0,none⟩) (by show w.heap.size<=w.heap.size+1;omega) (.slice none 0 0)).setCell (p:=⟨w.heap.size+1,1,none⟩) (by show w.heap.size<=w.heap.size+1;omega) (.bool true)
   exact bodyPost_ret (zn rfl _ _ (w.heap.size+1) 92 _ (0,0) _ rfl Rr underlying92 rfl zG) rfl ⟨_,by rw [HR2.out];rfl,by rw [HR2.out];exact RV.bad w B,tz⟩
  | false =>
   go_enter func80,ntmps80
   go_upto_region 1 with fail
   refine qa (RX w B false l) hX ?_
   clear hX
   rintro X ⟨A',n',c',hW,B1,B2,tx⟩
   have z1:=B2.lt
   have z0:=B1.lt
   have c0:=B1.cell 0
   have c1:=B1.cell 1
   have d0:=B2.cell 0
   have d1:=B2.cell 1
   have f0:=B1.frozen 0
   have f1:=B1.frozen 1
   have g0:=B2.frozen 0
   have g1:=B2.frozen 1
   simp only [La,Lb,Lc] at c0 c1 d0 d1
   have HPr:=Lh (kx l A' n' c' X hW.len hW.cap hW.max ((hW.rd.below (tx.mono hB)).more (Nat.le_trans hB tx.size)) (fun s hs=>Nat.le_trans (hW.sz s hs) (by decide)))
   rw [hp] at HPr
   simp only [ve] at HPr
   clear hp hW
   go_wp2_with (go_at_call 107;refine HPr.out.mono ?_;rintro e w1 ⟨rfl,hb1⟩;clear c0 c1 d0 d1 f0 f1 g0 g1;have C1:=B1.below hb1 B1.lt;have C2:=B2.below hb1 B2.lt;have c0:=C1.cell 0;have c1:=C1.cell 1;have d0:=C2.cell 0;have d1:=C2.cell 1;have g0:=C2.frozen 0;have g1:=C2.frozen 1;simp only [La,Lb,Lc] at c0 c1 d0 d1)
   have Rr:=vd (a':=.slice none 0 0) (b':=.bool true) C2
   have tz:=((tx.trans (hb1.mono (by omega))).setCell (p:=⟨w.heap.size+1,0,none⟩) (by show w.heap.size<=w.heap.size+1;omega) (.slice none 0 0)).setCell (p:=⟨w.heap.size+1,1,none⟩) (by show w.heap.size<=w.heap.size+1;omega) (.bool true)
   exact bodyPost_ret (zn rfl _ _ (w.heap.size+1) 92 _ (0,0) _ rfl Rr underlying92 rfl zG) rfl ⟨_,by rw [HR2.out];rfl,by rw [HR2.out];exact RV.bad w B,tz⟩
 | some x =>
  obtain ⟨nn,k⟩:=x
  cases bad with
  | true =>
   have HR2:Hid (R=(0,none)):=Lh (by rw [hR];rfl)
   clear hR
   go_enter func80,ntmps80
   go_upto_region 1 with fail
   refine qa (RX w B true l) hX ?_
   clear hX
   rintro X ⟨A',n',c',hW,B1,B2,tx⟩
   have z1:=B2.lt
   have z0:=B1.lt
   have c0:=B1.cell 0
   have c1:=B1.cell 1
   have d0:=B2.cell 0
   have d1:=B2.cell 1
   have f0:=B1.frozen 0
   have f1:=B1.frozen 1
   have g0:=B2.frozen 0
   have g1:=B2.frozen 1
   simp only [La,Lb,Lc] at c0 c1 d0 d1
   have HPr:=Lh (kx l A' n' c' X hW.len hW.cap hW.max ((hW.rd.below (tx.mono hB)).more (Nat.le_trans hB tx.size)) (fun s hs=>Nat.le_trans (hW.sz s hs) (by decide)))
   rw [hp] at HPr
   simp only [ve] at HPr
   clear hp hW
   go_wp2_with (go_at_call 107;refine HPr.out.mono ?_;rintro e w1 ⟨rfl,hb1⟩;clear c0 c1 d0 d1 f0 f1 g0 g1;have C1:=B1.below hb1 B1.lt;have C2:=B2.below hb1 B2.lt;have c0:=C1.cell 0;have c1:=C1.cell 1;have d0:=C2.cell 0;have d1:=C2.cell 1;have g0:=C2.frozen 0;have g1:=C2.frozen 1;simp only [La,Lb,Lc] at c0 c1 d0 d1)
   have Rr:=vd (a':=.slice none 0 0) (b':=.bool true) C2
   have tz:=((tx.trans (hb1.mono (by omega))).setCell (p:=⟨w.heap.size+1,0,none⟩) (by show w.heap.size<=w.heap.size+1;omega) (.slice none 0 0)).setCell (p:=⟨w.heap.size+1,1,none⟩) (by show w.heap.size<=w.heap.size+1;omega) (.bool true)
   exact bodyPost_ret (zn rfl _ _ (w.heap.size+1) 92 _ (0,0) _ rfl Rr underlying92 rfl zG) rfl ⟨_,by rw [HR2.out];rfl,by rw [HR2.out];exact RV.bad w B,tz⟩
  | false =>
   have HR2:Hid (R=(nn,some (l.drop k))):=Lh (by rw [hR];simp [qN,y7,kU,hp])
   obtain ⟨hk0,hkl,hk15,_⟩:=zF hp
   clear hR
   go_enter func80,ntmps80
   go_upto_region 1 with fail
   refine qa (RX w B false l) hX ?_
   clear hX
   rintro X ⟨A',n',c',hW,B1,B2,tx⟩
   have z1:=B2.lt
   have z0:=B1.lt
   have c0:=B1.cell 0
   have c1:=B1.cell 1
   have d0:=B2.cell 0
   have d1:=B2.cell 1
   have f0:=B1.frozen 0
   have f1:=B1.frozen 1
   have g0:=B2.frozen 0
   have g1:=B2.frozen 1
   simp only [La,Lb,Lc] at c0 c1 d0 d1
   have HPr:=Lh (kx l A' n' c' X hW.len hW.cap hW.max ((hW.rd.below (tx.mono hB)).more (Nat.le_trans hB tx.size)) (fun s hs=>Nat.le_trans (hW.sz s hs) (by decide)))
   rw [hp] at HPr
   simp only [ve] at HPr
   have hln:=hW.len
   have hcap:=hW.cap
   have hmax:=hW.max
   have hcut:=hW.cut (k:=k) (by omega)
   have i1:(k:Int)<=n':=by omega
   have i2:(k:Int)<=c':=by omega
   have i3:c'<=9223372036854775807:=by unfold maxLen at hmax;omega
   have i0:(0:Int)<=k:=by omega
   clear hp hW
   go_upto_region 4 with (go_at_call 107;refine HPr.out.mono ?_;rintro e w1 ⟨rfl,hb1⟩;clear c0 c1 d0 d1 f0 f1 g0 g1;have C1:=B1.below hb1 B1.lt;have C2:=B2.below hb1 B2.lt;have c0:=C1.cell 0;have c1:=C1.cell 1;have d0:=C2.cell 0;have d1:=C2.cell 1;have g0:=C2.frozen 0;have g1:=C2.frozen 1;simp only [La,Lb,Lc] at c0 c1 d0 d1)
   simp only [Nat.mul_one] at hcut
   by_cases hck:c'=k
   ·rw [if_pos hck] at hcut
    subst hck
    have hz:n'-c'=0:=by omega
    have hz2:n'=c':=by omega
    subst hz2
    rw [Nat.sub_self] at hcut
    have Rr:=vd (a':=.slice A' 0 0) (b':=.bool false) C2
    have tz:=((tx.trans (hb1.mono (by omega))).setCell (p:=⟨w.heap.size+1,0,none⟩) (by show w.heap.size<=w.heap.size+1;omega) (.slice A' 0 0)).setCell (p:=⟨w.heap.size+1,1,none⟩) (by show w.heap.size<=w.heap.size+1;omega) (.bool false)
    have Rd:=Rr.drew
    have td:=tz.drew
    clear hz
    go_region_law (fail)
    all_goals go_wp2
    all_goals exact bodyPost_ret (zn rfl _ _ (w.heap.size+1) 92 _ (0,0) _ rfl Rd underlying92 rfl zG) rfl ⟨_,by rw [HR2.out];rfl,by rw [HR2.out];exact ⟨_,_,_,_,false,rfl,hcut,rfl⟩,td⟩
   ·rw [if_neg hck] at hcut
    have Rr:=vd (a':=.slice (A'.map (·.add k)) (n'-k) (c'-k)) (b':=.bool false) C2
    have tz:=((tx.trans (hb1.mono (by omega))).setCell (p:=⟨w.heap.size+1,0,none⟩) (by show w.heap.size<=w.heap.size+1;omega) (.slice (A'.map (·.add k)) (n'-k) (c'-k))).setCell (p:=⟨w.heap.size+1,1,none⟩) (by show w.heap.size<=w.heap.size+1;omega) (.bool false)
    have Rd:=Rr.drew
    have td:=tz.drew
    go_region_law (fail)
    all_goals go_wp2
    all_goals exact bodyPost_ret (zn rfl _ _ (w.heap.size+1) 92 _ (0,0) _ rfl Rd underlying92 rfl zG) rfl ⟨_,by rw [HR2.out];rfl,by rw [HR2.out];exact ⟨_,_,_,_,false,rfl,hcut,rfl⟩,td⟩
theorem qh6 (r:Option (List ByteArray)) (v:Value) (ws:List ByteArray) (Aw:Option Addr) (nw cw:Nat) (B:Nat) (w:World) (h:RV w B r v) (hB:B<=w.heap.size) (hw:ws.length=nw) (hws:nw<=1000) (rdw:Rd w w.heap.size 1 Aw nw (sv ws)) :
  Calls prog 73 #[v,.slice Aw nw cw] w (NRetE w B (qN (yS r ws))):=by
 have HS:Hid (∀ w',Below w.heap.size w w'->Calls prog 74 #[v,.slice Aw nw cw] w' (RRet w' B (yS r ws) id)):=Lh fun w' hb=>uskip_ r v ws Aw nw cw B w' (h.below (hb.mono hB)) (Nat.le_trans hB hb.size) hw hws ((rdw.below hb).more hb.size)
 have HNu:Hid (∀ (v':Value) (w':World),RV w' B (yS r ws) v'->Below w.heap.size w w'->Calls prog 80 #[v'] w' (NRet w' B (qN (yS r ws)))):=Lh fun v' w' hv hb=>qfL _ v' B w' hv (Nat.le_trans hB hb.size)
 obtain ⟨A,n,c,l,bad,rfl,hW,rfl⟩:=h
 generalize yS (y7 bad l) ws=S at *
 generalize qN S=R at *
 clear hW rdw hw
 have hX:Blk ((w.alloc (.cells #[.slice A n c,.bool bad] 92)).alloc (.cells #[.slice none 0 0,.bool false] 92)) w.heap.size 92 #[.slice A n c,.bool bad]/\Blk ((w.alloc (.cells #[.slice A n c,.bool bad] 92)).alloc (.cells #[.slice none 0 0,.bool false] 92)) (w.heap.size+1) 92 #[.slice none 0 0,.bool false]/\Below w.heap.size w ((w.alloc (.cells #[.slice A n c,.bool bad] 92)).alloc (.cells #[.slice none 0 0,.bool false] 92)) :=
  ⟨Blk.alloc (Blk.new w _ _) _,Blk.new_ (by simp),((Below.refl _ _).alloc (Nat.le_refl _) _).alloc (by simp) _⟩
 go_enter func73,ntmps73
 go_upto_region 1 with fail
 refine qa (fun X=>Blk X w.heap.size 92 #[.slice A n c,.bool bad]/\Blk X (w.heap.size+1) 92 #[.slice none 0 0,.bool false]/\Below w.heap.size w X) hX ?_
 clear hX
 rintro X ⟨B1,B2,tx⟩
 have c0:=B1.cell 0
 have c1:=B1.cell 1
 have d0:=B2.cell 0
 have d1:=B2.cell 1
 have f0:=B1.frozen 0
 have f1:=B1.frozen 1
 have g0:=B2.frozen 0
 have g1:=B2.frozen 1
 simp only [La,Lb,Lc] at c0 c1 d0 d1
 have z1:=B2.lt
 go_wp2_with (first
  | (go_at_call 74;refine (HS.out _ tx).mono ?_;rintro e w1 ⟨v1,rfl,hv0,hb1⟩;have hv1:=hv0.below (hb1.mono (Nat.le_trans hB tx.size));have t1:=tx.trans (hb1.mono (by omega));have C2:=B2.below hb1 B2.lt)
  | (go_at_call 80;refine (HNu.out _ _ hv1 t1).mono ?_;rintro e w2 ⟨v2,rfl,hv2,hb2⟩;have t2:=t1.trans (hb2.mono t1.size);have D2:=C2.below hb2 C2.lt;clear c0 c1 d0 d1 f0 f1 g0 g1;have d0:=D2.cell 0;have d1:=D2.cell 1;have g0:=D2.frozen 0;have g1:=D2.frozen 1;simp only [La,Lb,Lc] at d0 d1;obtain ⟨A2,n2,c2,l2,bad2,rfl,hW2,hR2⟩:=hv2))
 have Rr:=vd (a':=.slice A2 n2 c2) (b':=.bool bad2) D2
 have tz:=(t2.setCell (p:=⟨w.heap.size+1,0,none⟩) (by show w.heap.size<=w.heap.size+1;omega) (.slice A2 n2 c2)).setCell (p:=⟨w.heap.size+1,1,none⟩) (by show w.heap.size<=w.heap.size+1;omega) (.bool bad2)
 exact bodyPost_ret (zn rfl _ _ (w.heap.size+1) 92 _ (0,0) _ rfl Rr underlying92 rfl zG) rfl ⟨_,rfl,⟨_,_,_,_,bad2,rfl,hW2.below (((hb2.mono (Nat.le_trans hB t1.size)).setCell (p:=⟨w.heap.size+1,0,none⟩) (by show B<=w.heap.size+1;omega) (.slice A2 n2 c2)).setCell (p:=⟨w.heap.size+1,1,none⟩) (by show B<=w.heap.size+1;omega) (.bool bad2)),hR2⟩,tz⟩
theorem qel (c:UInt8):Lib.upperB c=upB c:=by
 unfold Lib.upperB Lib.isLowerB upB
 simp only [Bool.and_eq_true,decide_eq_true_eq,UInt8.le_iff_toNat_le]
 rfl
theorem qcA {s:ByteArray} (h:azB s=true):0<s.size/\∀ c∈s.data.toList,97<=c.toNat/\c.toNat<=122:=by
 unfold azB at h
 rw [Bool.and_eq_true,List.all_eq_true] at h
 refine ⟨?_,fun c hc=>by simpa using h.2 c hc⟩
 rcases Nat.eq_zero_or_pos s.size with h0 | h0
 ·have:s.data.toList=[]:=List.length_eq_zero_iff.1 (by simpa using h0)
  rw [this] at h
  simp at h
 ·exact h0
theorem qfx {l:List ByteArray} {s:ByteArray} {n:Nat} (h:yl l=some (s,n)) (hsz : ∀ s∈l,s.size<=1000) (hl:l.length<=500000):azB s=true/\s.size<=1000000/\0<n/\n<=l.length:=by
 cases l with
 | nil=>cases h
 | cons a t =>
  rw [yl] at h
  split at h
  ·rename_i hc
   simp only [Option.some.injEq,Prod.mk.injEq] at h
   obtain ⟨rfl,rfl⟩:=h
   cases t with
   | nil=>exact absurd hc.2 (by decide +kernel)
   | cons d t'=>exact ⟨hc.2,Nat.le_trans (hsz d (by simp)) (by decide),by omega,by simp⟩
  ·split at h
   ·rename_i hc
    simp only [Option.some.injEq,Prod.mk.injEq] at h
    obtain ⟨rfl,rfl⟩:=h
    exact ⟨hc.1,Nat.le_trans (hsz a (by simp)) (by decide),by omega,by simp⟩
   ·split at h
    ·unfold ya at h
     split at h
     ·cases h
     ·rename_i h0
      split at h
      ·rename_i he
       simp only [Option.some.injEq,Prod.mk.injEq] at h
       obtain ⟨rfl,rfl⟩:=h
       have hk:(t.takeWhile jQ).length<t.length:=by
        rcases Nat.lt_or_ge (t.takeWhile jQ).length t.length with h | h
        ·exact h
        ·rw [List.getElem?_eq_none h] at he;cases he
       have hall : ∀ x∈t.takeWhile jQ,jQ x=true:=fun x hx=>List.all_eq_true.1 (List.all_takeWhile (l:=t) (p:=jQ)) x hx
       generalize t.takeWhile jQ=T at *
       have hlen:(T.flatMap fun s=>s.data.toList).length=T.length:=by
        clear he hk h0
        induction T with
        | nil=>rfl
        | cons x T ih =>
         have hx:=hall x (by simp)
         unfold jQ at hx
         rw [Bool.and_eq_true,decide_eq_true_eq] at hx
         rw [List.flatMap_cons,List.length_append,List.length_cons,ih fun y hy=>hall y (by simp [hy])]
         have:x.data.toList.length=x.size:=by simp
         omega
       rw [List.length_cons] at hl ⊢
       refine ⟨?_,?_,by omega,by omega⟩
       ·unfold azB
        rw [Bool.and_eq_true,List.all_eq_true]
        refine ⟨?_,fun c hc=>?_⟩
        ·rw [Bool.not_eq_true',List.isEmpty_eq_false_iff]
         intro e
         have e':(T.flatMap fun s=>s.data.toList)=[]:=e
         rw [e'] at hlen
         exact h0 hlen.symm
        ·have hc':c∈T.flatMap fun s=>s.data.toList:=hc
         rw [List.mem_flatMap] at hc'
         obtain ⟨x,hx,hcx⟩:=hc'
         have hx1:=hall x hx
         unfold jQ at hx1
         rw [Bool.and_eq_true] at hx1
         simpa using (qcA hx1.1).2 c hcx
       ·show (List.toArray _).size<=_
        rw [List.size_toArray,hlen]
        omega
      ·cases h
    ·cases h
theorem qiJ (s:ByteArray):(⟨(Lib.toUpperA s.data.toList).toArray⟩:ByteArray)=jn s s.size:=by
 unfold jn
 have hz:s.data.toList.length=s.size:=by simp
 rw [Lib.toUpperA.eq_1,<- hz,List.take_length,List.drop_length,List.append_nil]
 congr 2
 exact List.map_congr_left fun c _=>qel c
theorem qi8 (s:ByteArray) (h:0<s.size):(⟨(Lib.toUpperA (s.extract 0 1).data.toList).toArray⟩:ByteArray)++s.extract 1 s.size=jn s 1:=by
 unfold jn
 apply ByteArray.ext
 rw [ByteArray.data_append]
 apply Array.toList_inj.1
 have hz:s.data.toList.length=s.size:=by simp
 rw [Array.toList_append,ByteArray.data_extract,ByteArray.data_extract,Lib.toUpperA.eq_1]
 simp only [Array.toList_extract,List.extract_eq_take_drop,List.drop_zero,Nat.sub_zero]
 congr 1
 ·exact List.map_congr_left fun c _=>qel c
 ·rw [List.take_of_length_le]
  rw [List.length_drop,hz]
  omega
theorem qdX (s:ByteArray) (k:Nat):(jn s k).size=s.size:=by
 unfold jn
 show (List.toArray _).size=_
 rw [List.size_toArray,List.length_append,List.length_map,List.length_take,List.length_drop]
 have hz:s.data.toList.length=s.size:=by simp
 omega
theorem qjw {p:Prs} (h1:p.words.headD ⟨#[]⟩≠bCap) (h2:p.words.headD ⟨#[]⟩≠yi):jP p=(yl p.words).map fun (s,n)=>kN p s n:=by
 unfold jP
 split
 ·rename_i hw
  rw [hw]
  rfl
 ·rename_i a t hw
  rw [hw] at h1 h2 ⊢
  rw [List.headD_cons] at h1 h2
  rw [if_neg h1,if_neg h2]
theorem word_ (p:Prs) (g nb:Nat) (w:World) (h:PaS w g nb p) (hset:SetM w nb 200 jF) (hk:PaK p):Calls prog 172 #[.pointer (some ⟨g,0,none⟩)] w (PaR g nb p (jP p) w):=by
 have hgl:=h.lt
 have HPS:=Lh h
 have hb0:Below w.heap.size w w:=Below.refl _ _
 have HN:Hid (∀ w',Below w.heap.size w w'->Calls prog 186 #[.pointer (some ⟨g,0,none⟩)] w' fun e w''=>e = .returned (.string (p.words.headD ⟨#[]⟩))/\Below w.heap.size w w''):=Lh fun w' hw=>(next_ p g nb w' (h.below hw)).mono fun e w'' ⟨h1,h2⟩=>⟨h1,hw.trans (h2.mono hw.size)⟩
 have HTxt:Hid (∀ s:ByteArray,s.size<=1000000->∀ w',Below w.heap.size w w'->Calls prog 190 #[.pointer (some ⟨g,0,none⟩),.string s] w' fun e w''=>e = .returned (.tuple #[])/\PaS w'' g nb ⟨p.words,p.out++vm p.joins p.style s,p.style,true⟩/\Below g w w''):=Lh fun s hs w' hw=>(text_ p s hs (by have:=hk.2.1;omega) g nb w' (h.below hw)).mono fun e w'' ⟨h1,h2,h3⟩=>⟨h1,h2,(hw.mono (Nat.le_of_lt hgl)).trans h3⟩
 have HTake:Hid (∀ (q:Prs) (k:Nat),k<=q.words.length->∀ w',PaS w' g nb q->Below g w w'->Calls prog 187 #[.pointer (some ⟨g,0,none⟩),.int .i64 k] w' fun e w''=>e = .returned (.tuple #[])/\PaS w'' g nb ⟨q.words.drop k,q.out,q.style,q.joins⟩/\Below g w w''):=Lh fun q k hk w' hw hb=>(take_ q k hk g nb w' hw).mono fun e w'' ⟨h1,h2,h3⟩=>⟨h1,h2,hb.trans h3⟩
 obtain ⟨A,n,c,A2,c2,h1,h2,h3,h4,h5⟩:=h
 have C1:=h3.cell 1
 have C0:=h3.cell 0
 simp only [jh,La,Lb,Lc] at C0 C1
 have hn:p.words.length=n:=by have:=h4.1;simp [sv] at this;omega
 have hlen:=hk.len
 have hc63:c<=9223372036854775807:=by unfold maxLen at h2;omega
 have HC1:Hid (∀ w',Below w.heap.size w w'->w'.cell? ⟨g,1,none⟩=some (.slice A n c)):=Lh fun w' hw=>(hw.cell (show g<_ from hgl)).trans C1
 have HLi:Hid (∀ (k:Nat) (l:List ByteArray) A' N c',l=p.words.drop k->k<=n->N=n-k->Rd w g 1 A' N (sv l)->∀ w',Below w.heap.size w w'->Calls prog 188 #[.pointer (some ⟨g,0,none⟩),.slice A' N c'] w' fun e w''=>e = .returned (litV (yl l))/\Below w.heap.size w w''):=Lh fun k l A' N c' hl hkn hN rd w' hw =>
  (literal_ l A' N c' g g nb w' (fun s hs=>hk.1 s (by rw [hl] at hs;exact List.mem_of_mem_drop hs)) (by rw [hl,List.length_drop];omega) (rd.below (hw.mono (Nat.le_of_lt hgl))) (by have:=hw.size;omega) (by have:=hw.size;omega) ((hw.cell (show g<_ from hgl)).trans C0) (hset.below hw)).mono fun e w'' ⟨h1,h2⟩=>⟨h1,hw.trans (h2.mono hw.size)⟩
 have HUpr:Hid (∀ s:ByteArray,s.size<=1000000->(∀ c∈s.data.toList,c.toNat<128)->∀ w',Below w.heap.size w w'->Calls prog 189 #[.string s] w' fun e w''=>e = .returned (.string ⟨(Lib.toUpperA s.data.toList).toArray⟩)/\Below w.heap.size w w''):=Lh fun s hs hb w' hw =>
  (Tryz.strings_ToUpper_ascii s w' (by omega) (fun j b hj=>hb b (List.mem_of_getElem? hj))).mono fun e w'' ⟨h1,h2⟩=>⟨h1,hw.trans (h2.mono hw.size)⟩
 have q1:=qct (a:=p.words.headD ⟨#[]⟩) (b:=bCap) (l:=[99,97,112]) rfl
 have q2:=qct (a:=p.words.headD ⟨#[]⟩) (b:=yi) (l:=[99,97,112,115]) rfl
 by_cases hcp:p.words.headD ⟨#[]⟩=bCap
 ·have q2':(bCap.toList==[99,97,112,115])=false:=by decide +kernel
  clear q2
  rw [decide_eq_true hcp] at q1
  obtain ⟨W,O,st,J⟩:=p
  dsimp only at *
  cases W with
  | nil=>exact absurd hcp (by decide +kernel)
  | cons a t =>
   rw [List.headD_cons] at *
   subst hcp
   have hn1:0<n:=by rw [<- hn];simp
   have hok:=fun s k (h:yl t=some (s,k))=>qfx h (fun s hs=>hk.1 s (by simp [hs])) (by simp at hlen;omega)
   obtain ⟨b,o,hA,hbg,-⟩:=h4.2 hn1
   subst hA
   have HRd:Hid (Rd w g 1 (if c=1 then some ⟨b,o,none⟩ else some ⟨b,o+1,none⟩) (n-1) (sv t)):=Lh (by
    have:=h4.cut (k:=1) hn1 h1
    simp only [Nat.mul_one,Option.map_some,vl] at this
    exact this)
   have e0:jP ⟨bCap::t,O,st,J⟩=(yl t).map fun (s,n)=>kN ⟨bCap::t,O,st,J⟩ (jn s 1) (1+n):=by
    unfold jP
    simp only
    rw [if_pos trivial]
   have hwl:=hk.2.1
   by_cases hc1:c=1
   ·rw [if_pos hc1] at HRd
    have hn0:n-1=0:=by omega
    have ht0:t=[]:=by
     have:=hn
     simp at this
     exact List.length_eq_zero_iff.1 (by omega)
    subst ht0
    subst hc1
    obtain rfl:n=1:=by omega
    have HLit:=Lh (HLi.out 1 [] (some ⟨b,o,none⟩) 0 0 rfl (by omega) rfl HRd.out)
    rw [e0]
    simp only [yl,litV,Option.map_none] at HLit ⊢
    clear h2 h3 h4 h5 hset hk hlen hn hok HLi HRd e0 HTake HTxt HUpr
    go_enter func172,ntmps172
    go_wp2_with (first | (go_at_call 186;refine (HN.out _ (by assumption)).mono ?_;rintro e w1 ⟨rfl,hb1⟩;have C1':=HC1.out _ hb1) | (go_at_call 188;refine (HLit.out _ (by assumption)).mono ?_;rintro e w2 ⟨rfl,hb2⟩))
    go_ret
    exact ⟨hb2.mono (Nat.le_of_lt hgl),rfl,HPS.out.below hb2,hb2⟩
   ·rw [if_neg hc1] at HRd
    have HLit:=Lh (HLi.out 1 t (some ⟨b,o+1,none⟩) (n-1) (c-1) rfl hn1 rfl HRd.out)
    rw [e0]
    cases hlit:yl t with
    | none =>
     rw [hlit] at HLit
     simp only [litV,Option.map_none] at HLit ⊢
     clear h2 h3 h4 h5 hset hk hlen hn hok HLi HRd e0 HTake HTxt HUpr hlit
     go_enter func172,ntmps172
     go_wp2_with (first | (go_at_call 186;refine (HN.out _ (by assumption)).mono ?_;rintro e w1 ⟨rfl,hb1⟩;have C1':=HC1.out _ hb1) | (go_at_call 188;refine (HLit.out _ (by assumption)).mono ?_;rintro e w2 ⟨rfl,hb2⟩))
     go_ret
     exact ⟨hb2.mono (Nat.le_of_lt hgl),rfl,HPS.out.below hb2,hb2⟩
    | some x =>
     obtain ⟨s,k⟩:=x
     rw [hlit] at HLit
     simp only [litV,Option.map_some] at HLit ⊢
     obtain ⟨ha,hs,hk0,hkl⟩:=hok s k hlit
     obtain ⟨hs0,haz⟩:=qcA ha
     have ek:((k:Int)==0)=false:=beq_eq_false_iff_ne.2 (by omega)
     have ek2:k<=500000:=by simp at hlen;omega
     have ew:wrap64 (1+(k:Int))=1+(k:Int):=by unfold wrap64;omega
     have hkl2:1+k<=(bCap::t).length:=by rw [List.length_cons,Nat.add_comm];exact Nat.succ_le_succ hkl
     have HTk0:=Lh (HTake.out ⟨bCap::t,O++vm J st (jn s 1),st,true⟩ (1+k) hkl2)
     clear hkl2
     rw [show ((1+k:Nat):Int)=1+(k:Int) by omega] at HTk0
     have hX:=qi8 s hs0
     have hXs:((⟨(Lib.toUpperA (s.extract 0 1).data.toList).toArray⟩:ByteArray)++s.extract 1 s.size).size<=1000000:=by rw [hX,qdX];exact hs
     have HTx:=Lh (HTxt.out _ hXs)
     rw [<- hX] at HTk0 ⊢
     have HUp:Hid (∀ w',Calls prog 189 #[.string (s.extract 0 1)] w' (qh (.string ⟨(Lib.toUpperA (s.extract 0 1).data.toList).toArray⟩) w')):=Lh fun w'=>Tryz.strings_ToUpper_ascii (s.extract 0 1) w' (by rw [ByteArray.size_extract];omega) (fun j b hj=>by
      have hm:=List.mem_of_getElem? hj
      rw [ByteArray.data_extract,Array.toList_extract,List.extract_eq_take_drop,List.drop_zero] at hm
      have:=haz b (List.mem_of_mem_take hm)
      omega)
     clear h2 h3 h4 h5 hset hk hlen hn hok HLi HRd e0 HTake HTxt HUpr hlit hX hXs
     have hU1:(⟨(Lib.toUpperA (s.extract 0 1).data.toList).toArray⟩:ByteArray).size<=1:=by
      show (List.toArray _).size<=1
      rw [List.size_toArray,Lib.toUpperA.eq_1,List.length_map]
      have:(s.extract 0 1).data.toList.length=(s.extract 0 1).size:=by simp
      rw [this,ByteArray.size_extract]
      omega
     have hU2:(s.extract 1 s.size).size<=1000000:=by rw [ByteArray.size_extract];omega
     generalize (⟨(Lib.toUpperA (s.extract 0 1).data.toList).toArray⟩:ByteArray)=U at *
     have HTk:=HTk0
     clear HTk0
     generalize (k:Int)=K at *
     have i1:(1:Int)<=s.size:=by omega
     show Calls _ _ _ w (PaR g nb _ (some ⟨(bCap::t).drop (1+k),O++vm J st (U++s.extract 1 s.size),st,true⟩) w)
     go_enter func172,ntmps172
     go_upto_region 10 with (first | (go_at_call 186;refine (HN.out _ (by assumption)).mono ?_;rintro e w1 ⟨rfl,hb1⟩;have C1':=HC1.out _ hb1) | (go_at_call 188;refine (HLit.out _ (by assumption)).mono ?_;rintro e w2 ⟨rfl,hb2⟩))
     have hzz:=hb1.size
     have h1N : ∀ x:Near w.heap.size w1,Below w.heap.size w x.w:=fun x=>hb1.trans x.h
     refine qc w.heap.size (by kernel_rfl) (by kernel_rfl) ?_;(repeat (go_big_quiet_step ((go_at_call 189;exact Calls.near _ hzz (HUp.out _)))));refine wpQuiet_nil ?_;intro _ hw';obtain ⟨x1,hw''⟩:=hw';subst hw''
     have hb9:=h1N x1
     clear h1N
     generalize x1.w=w9 at *
     go_wp2_with (first
      | (first | (go_at_call 186;refine (HN.out _ (by assumption)).mono ?_;rintro e w1 ⟨rfl,hb1⟩;have C1':=HC1.out _ hb1) | (go_at_call 188;refine (HLit.out _ (by assumption)).mono ?_;rintro e w2 ⟨rfl,hb2⟩))
      | (go_at_call 189;refine (HUp.out _ (by assumption)).mono ?_;rintro e w4 ⟨rfl,hb4⟩)
      | (go_at_call 190;refine (HTx.out _ (by assumption)).mono ?_;rintro e w5 ⟨rfl,hp5,hb5⟩)
      | (go_at_call 187;refine (HTk.out _ hp5 hb5).mono ?_;rintro e w6 ⟨rfl,hp6,hb6⟩))
     go_ret
     exact ⟨hb6,rfl,hp6⟩
 ·by_cases hcs:p.words.headD ⟨#[]⟩=yi
  ·rw [decide_eq_false hcp] at q1
   rw [decide_eq_true hcs] at q2
   obtain ⟨W,O,st,J⟩:=p
   dsimp only at *
   cases W with
   | nil=>exact absurd hcs (by decide +kernel)
   | cons a t =>
    rw [List.headD_cons] at *
    subst hcs
    have hn1:0<n:=by rw [<- hn];simp
    have hok:=fun s k (h:yl t=some (s,k))=>qfx h (fun s hs=>hk.1 s (by simp [hs])) (by simp at hlen;omega)
    obtain ⟨b,o,hA,hbg,-⟩:=h4.2 hn1
    subst hA
    have HRd:Hid (Rd w g 1 (if c=1 then some ⟨b,o,none⟩ else some ⟨b,o+1,none⟩) (n-1) (sv t)):=Lh (by
     have:=h4.cut (k:=1) hn1 h1
     simp only [Nat.mul_one,Option.map_some,vl] at this
     exact this)
    have e0:jP ⟨yi::t,O,st,J⟩=(yl t).map fun (s,n)=>kN ⟨yi::t,O,st,J⟩ (jn s s.size) (1+n):=by
     unfold jP
     simp only
     rw [if_neg (by decide +kernel),if_pos trivial]
    have hwl:=hk.2.1
    by_cases hc1:c=1
    ·rw [if_pos hc1] at HRd
     have hn0:n-1=0:=by omega
     have ht0:t=[]:=by
      have:=hn
      simp at this
      exact List.length_eq_zero_iff.1 (by omega)
     subst ht0
     subst hc1
     obtain rfl:n=1:=by omega
     have HLit:=Lh (HLi.out 1 [] (some ⟨b,o,none⟩) 0 0 rfl (by omega) rfl HRd.out)
     rw [e0]
     simp only [yl,litV,Option.map_none] at HLit ⊢
     clear h2 h3 h4 h5 hset hk hlen hn hok HLi HRd e0 HTake HTxt HUpr
     go_enter func172,ntmps172
     go_wp2_with (first | (go_at_call 186;refine (HN.out _ (by assumption)).mono ?_;rintro e w1 ⟨rfl,hb1⟩;have C1':=HC1.out _ hb1) | (go_at_call 188;refine (HLit.out _ (by assumption)).mono ?_;rintro e w2 ⟨rfl,hb2⟩))
     go_ret
     exact ⟨hb2.mono (Nat.le_of_lt hgl),rfl,HPS.out.below hb2,hb2⟩
    ·rw [if_neg hc1] at HRd
     have HLit:=Lh (HLi.out 1 t (some ⟨b,o+1,none⟩) (n-1) (c-1) rfl hn1 rfl HRd.out)
     rw [e0]
     cases hlit:yl t with
     | none =>
      rw [hlit] at HLit
      simp only [litV,Option.map_none] at HLit ⊢
      clear h2 h3 h4 h5 hset hk hlen hn hok HLi HRd e0 HTake HTxt HUpr hlit
      go_enter func172,ntmps172
      go_wp2_with (first | (go_at_call 186;refine (HN.out _ (by assumption)).mono ?_;rintro e w1 ⟨rfl,hb1⟩;have C1':=HC1.out _ hb1) | (go_at_call 188;refine (HLit.out _ (by assumption)).mono ?_;rintro e w2 ⟨rfl,hb2⟩))
      go_ret
      exact ⟨hb2.mono (Nat.le_of_lt hgl),rfl,HPS.out.below hb2,hb2⟩
     | some x =>
      obtain ⟨s,k⟩:=x
      rw [hlit] at HLit
      simp only [litV,Option.map_some] at HLit ⊢
      obtain ⟨ha,hs,hk0,hkl⟩:=hok s k hlit
      obtain ⟨hs0,haz⟩:=qcA ha
      have ek:((k:Int)==0)=false:=beq_eq_false_iff_ne.2 (by omega)
      have ek2:k<=500000:=by simp at hlen;omega
      have ew:wrap64 (1+(k:Int))=1+(k:Int):=by unfold wrap64;omega
      have hkl2:1+k<=(yi::t).length:=by rw [List.length_cons,Nat.add_comm];exact Nat.succ_le_succ hkl
      have HTk0:=Lh (HTake.out ⟨yi::t,O++vm J st (jn s s.size),st,true⟩ (1+k) hkl2)
      clear hkl2
      rw [show ((1+k:Nat):Int)=1+(k:Int) by omega] at HTk0
      have HTx:=Lh (HTxt.out (jn s s.size) (by rw [qdX];exact hs))
      have HUp:=Lh (HUpr.out s hs (fun c hc=>by have:=haz c hc;omega))
      rw [qiJ] at HUp
      clear h2 h3 h4 h5 hset hk hlen hn hok HLi HRd e0 HTake HTxt HUpr hlit
      generalize jn s s.size=U at *
      have HTk:=HTk0
      clear HTk0
      generalize (k:Int)=K at *
      show Calls _ _ _ w (PaR g nb _ (some ⟨(yi::t).drop (1+k),O++vm J st U,st,true⟩) w)
      go_enter func172,ntmps172
      go_wp2_with (first
       | (first | (go_at_call 186;refine (HN.out _ (by assumption)).mono ?_;rintro e w1 ⟨rfl,hb1⟩;have C1':=HC1.out _ hb1) | (go_at_call 188;refine (HLit.out _ (by assumption)).mono ?_;rintro e w2 ⟨rfl,hb2⟩))
       | (go_at_call 189;refine (HUp.out _ (by assumption)).mono ?_;rintro e w4 ⟨rfl,hb4⟩)
       | (go_at_call 190;refine (HTx.out _ (by assumption)).mono ?_;rintro e w5 ⟨rfl,hp5,hb5⟩)
       | (go_at_call 187;refine (HTk.out _ hp5 hb5).mono ?_;rintro e w6 ⟨rfl,hp6,hb6⟩))
      go_ret
      exact ⟨hb6,rfl,hp6⟩
  ·rw [decide_eq_false hcp] at q1
   rw [decide_eq_false hcs] at q2
   rw [qjw hcp hcs]
   have HLit:=Lh (HLi.out 0 p.words A n c rfl (Nat.zero_le _) rfl h4)
   have hok:=fun s k (h:yl p.words=some (s,k))=>qfx h hk.1 hlen
   clear HLi hcp hcs
   cases hlit:yl p.words with
   | none =>
    rw [hlit] at HLit
    simp only [litV] at HLit
    clear h2 h3 h4 h5 hset hk hlen hn hok hlit
    generalize p.words.headD ⟨#[]⟩=nx at *
    go_enter func172,ntmps172
    go_wp2_with (first | (go_at_call 186;refine (HN.out _ (by assumption)).mono ?_;rintro e w1 ⟨rfl,hb1⟩;have C1':=HC1.out _ hb1) | (go_at_call 188;refine (HLit.out _ (by assumption)).mono ?_;rintro e w2 ⟨rfl,hb2⟩))
    go_ret
    exact ⟨hb2.mono (Nat.le_of_lt hgl),rfl,HPS.out.below hb2,hb2⟩
   | some x =>
    obtain ⟨s,k⟩:=x
    rw [hlit] at HLit
    simp only [litV] at HLit
    obtain ⟨ha,hs,hk0,hkl⟩:=hok s k hlit
    have HTx:=Lh (HTxt.out s hs)
    have HTk:=Lh (HTake.out ⟨p.words,p.out++vm p.joins p.style s,p.style,true⟩ k hkl)
    have ek:((k:Int)==0)=false:=beq_eq_false_iff_ne.2 (by omega)
    have ew:wrap64 (k:Int)=k:=by unfold wrap64;omega
    clear h2 h3 h4 h5 hset hk hlen hn hok hlit HTake HTxt HUpr
    show Calls _ _ _ w (PaR g nb p (some ⟨p.words.drop k,p.out++vm p.joins p.style s,p.style,true⟩) w)
    generalize p.words.headD ⟨#[]⟩=nx at *
    go_enter func172,ntmps172
    go_wp2_with (first
     | (first | (go_at_call 186;refine (HN.out _ (by assumption)).mono ?_;rintro e w1 ⟨rfl,hb1⟩;have C1':=HC1.out _ hb1) | (go_at_call 188;refine (HLit.out _ (by assumption)).mono ?_;rintro e w2 ⟨rfl,hb2⟩))
     | (go_at_call 189;refine (HUp.out _ (by assumption)).mono ?_;rintro e w4 ⟨rfl,hb4⟩)
     | (go_at_call 190;refine (HTx.out _ (by assumption)).mono ?_;rintro e w5 ⟨rfl,hp5,hb5⟩)
     | (go_at_call 187;refine (HTk.out _ hp5 hb5).mono ?_;rintro e w6 ⟨rfl,hp6,hb6⟩))
    go_ret
    exact ⟨hb6,rfl,hp6⟩
theorem next_r {p:Prs} {g nb:Nat} {w w':World} (h:PaS w g nb p) (hw:Below w.heap.size w w'):Calls prog 186 #[.pointer (some ⟨g,0,none⟩)] w' fun e w''=>e = .returned (.string (p.words.headD ⟨#[]⟩))/\Below w.heap.size w w'' :=
 (next_ p g nb w' (h.below hw)).mono fun e w'' ⟨h1,h2⟩=>⟨h1,hw.trans (h2.mono hw.size)⟩
theorem qdw {p:Prs} {g nb:Nat} {w w':World} (h:PaS w g nb p) (ho:p.out.length<=1000000000) (s:ByteArray) (hs:s.size<=1000000) (hw:Below w.heap.size w w') :
  Calls prog 190 #[.pointer (some ⟨g,0,none⟩),.string s] w' fun e w''=>e = .returned (.tuple #[])/\PaS w'' g nb ⟨p.words,p.out++vm p.joins p.style s,p.style,true⟩/\Below g w w'' :=
 (text_ p s hs ho g nb w' (h.below hw)).mono fun e w'' ⟨h1,h2,h3⟩=>⟨h1,h2,(hw.mono (Nat.le_of_lt h.lt)).trans h3⟩
theorem qaZ {q:Prs} {g nb:Nat} {w w':World} (hq:PaS w' g nb q) (k:Nat) (hk:k<=q.words.length) (hb:Below g w w') :
  Calls prog 187 #[.pointer (some ⟨g,0,none⟩),.int .i64 k] w' fun e w''=>e = .returned (.tuple #[])/\PaS w'' g nb ⟨q.words.drop k,q.out,q.style,q.joins⟩/\Below g w w'' :=
 (take_ q k hk g nb w' hq).mono fun e w'' ⟨h1,h2,h3⟩=>⟨h1,h2,hb.trans h3⟩
theorem dgW_some {x:ByteArray} {d:Nat} (h:dgW x=some d):d<10/\x=wb d:=by
 unfold dgW at h
 have h1:=List.find?_some h
 have h2:=List.mem_of_find?_eq_some h
 simp at h1 h2
 exact ⟨h2,h1.symm⟩
theorem num_dg {x:ByteArray} {d:Nat} (h:dgW x=some d):d<10/\zc [x]=some (d:Int):=by
 obtain ⟨h1,rfl⟩:=dgW_some h
 have : ∀ d:Fin 10,zc [wb d.val]=some (d.val:Int):=by decide +kernel
 exact ⟨h1,this ⟨d,h1⟩⟩
theorem num_no {x:ByteArray} (h:dgW x=none):zc [x]=none∨∃ n,zc [x]=some n/\(n<0∨9<n):=by
 cases hn:zc [x] with
 | none=>exact .inl rfl
 | some n =>
  refine .inr ⟨n,rfl,?_⟩
  obtain ⟨_,_,a3,_⟩:=vp hn
  rcases Int.lt_or_le n 0 with h0 | h0
  ·exact .inl h0
  ·rcases Int.lt_or_le 9 n with h9 | h9
   ·exact .inr h9
   ·exfalso
    have : ∀ d:Fin 10,(qm ((d.val:Nat):Int)).map wb=[wb d.val]/\dgW (wb d.val)=some d.val:=by decide +kernel
    obtain ⟨b1,b2⟩:=this ⟨n.toNat,by omega⟩
    simp only at b1 b2
    rw [Int.toNat_of_nonneg h0,a3] at b1
    injection b1 with b1
    rw [b1,b2] at h
    cases h
def jo (t:List ByteArray) (j:Nat):List Nat:=(t.take j).map fun s=>(dgW s).getD 0
theorem yg {t:List ByteArray} {j:Nat} (hj:j<=t.length):(zN (jo t j)).size=j:=by
 unfold zN jo
 show (List.toArray _).size=_
 rw [List.size_toArray,List.length_map,List.length_map,List.length_take]
 omega
theorem qjN {t:List ByteArray} {j d:Nat} (h:j<t.length) (hd:dgW t[j]=some d):zN (jo t (j+1))=zN (jo t j)++⟨#[UInt8.ofNat (48+d)]⟩:=by
 unfold zN jo
 apply ByteArray.ext
 rw [ByteArray.data_append]
 apply Array.toList_inj.1
 rw [(List.take_append_getElem h).symm,List.map_append,List.map_append]
 simp [hd]
theorem fig_stop {t:List ByteArray} {j:Nat} (hj:j<=t.length) (h : ∀ k (hk:k<t.length),k<j->(dgW t[k]).isSome=true) (hs : ∀ hk:j<t.length,dgW t[j]=none):dgsL t=jo t j:=by
 unfold dgsL jo
 rw [qdr hj h fun hk=>by rw [hs hk];rfl]
theorem qif (d:Nat) (hd:d<10):Utf8.encode (48+(d:Int))=⟨#[UInt8.ofNat (48+d)]⟩:=by
 have : ∀ d:Fin 10,Utf8.encode (48+((d.val:Nat):Int))=⟨#[UInt8.ofNat (48+d.val)]⟩:=by decide +kernel
 exact this ⟨d,hd⟩
theorem qd1 (d:Nat) (hd:d<10):wrap64 (48+(d:Int))=48+(d:Int)/\IntKind.i32.wrap (48+(d:Int))=48+(d:Int):=by
 refine ⟨by unfold wrap64;omega,by rw [IntKind.wrap_i32];omega⟩
theorem wrap_two (j:Nat) (hj:j<=500000):wrap64 ((j:Int)+1+1)=(j:Int)+1+1:=by unfold wrap64;omega
theorem figures_ (p:Prs) (g nb:Nat) (w:World) (h:PaS w g nb p) (hk:PaK p):Calls prog 173 #[.pointer (some ⟨g,0,none⟩)] w (PaR g nb p (qaP p) w):=by
 have hgl:=h.lt
 have HPS:=Lh h
 have hb0:Below w.heap.size w w:=Below.refl _ _
 have HN:=Lh (fun w' (hw:Below w.heap.size w w')=>next_r h hw)
 obtain ⟨A,n,c,A2,c2,h1,h2,h3,h4,h5⟩:=h
 have C1:=h3.cell 1
 simp only [jh,La,Lb,Lc] at C1
 have hn:p.words.length=n:=by have:=h4.1;simp [sv] at this;omega
 have hlen:=hk.len
 have hc63:c<=9223372036854775807:=by unfold maxLen at h2;omega
 have HC1:Hid (∀ w',Below w.heap.size w w'->w'.cell? ⟨g,1,none⟩=some (.slice A n c)):=Lh fun w' hw=>(hw.cell (show g<_ from hgl)).trans C1
 have q1:=qct (a:=p.words.headD ⟨#[]⟩) (b:=vI) (l:=[100,105,103,105,116,115]) rfl
 obtain ⟨W,O,st,J⟩:=p
 dsimp only at *
 by_cases hd:W.headD ⟨#[]⟩=vI
 ·rw [decide_eq_true hd] at q1
  cases W with
  | nil=>exact absurd hd (by decide +kernel)
  | cons a t =>
   rw [List.headD_cons] at hd q1 HN
   have hn1:0<n:=by rw [<- hn];simp
   obtain ⟨b,o,hA,hbg,-⟩:=h4.2 hn1
   subst hA
   obtain ⟨RES,hRES⟩ : ∃ x,x=qaP ⟨a::t,O,st,J⟩:=⟨_,rfl⟩
   rw [<- hRES]
   have HF:Hid (∀ j,j<=t.length->(∀ k (hk:k<t.length),k<j->(dgW t[k]).isSome=true)->(∀ hk:j<t.length,dgW t[j]=none)->RES=if j=0 then none else some ⟨(a::t).drop (j+1),O++vm J st (zN (jo t j)),st,true⟩):=Lh fun j h1 h2 h3=>by
    rw [hRES]
    unfold qaP
    simp only
    rw [fig_stop h1 h2 h3]
    have hz:(jo t j).length=j:=by unfold jo;rw [List.length_map,List.length_take];omega
    by_cases h0:j=0
    ·rw [if_pos h0,if_neg]
     rintro ⟨_,hne⟩
     exact hne (List.length_eq_zero_iff.1 (by omega))
    ·rw [if_neg h0,if_pos ⟨hd,fun e=>h0 (by rw [e] at hz;exact hz.symm)⟩,hz,Nat.add_comm]
     rfl
   have HS:Hid (∀ j (h:j<t.length) w',Below w.heap.size w w'->Calls prog 130 #[.slice (some ⟨b,o+(j+1),none⟩) 1 (c-(j+1))] w' fun e w''=>e = .returned (kE (zc [t[j]]))/\Below w.heap.size w w''):=Lh fun j hj w' hw=>by
    have hjn:j+1<n:=by rw [<- hn];simpa using hj
    have rdx:Rd w' w'.heap.size 1 (some ⟨b,o+(j+1),none⟩) 1 (sv [t[j]]):=Rd.some_ (by simp [sv]) (by have:=hw.size;omega) fun i u hi=>by
     have:i=0:=by
      have:i<1:=by
       rcases Nat.lt_or_ge i 1 with h | h
       ·exact h
       ·rw [List.getElem?_eq_none (by simpa [sv] using h)] at hi;cases hi
      omega
     subst this
     obtain ⟨b',o',e',_,hcd⟩:=h4.at_ hjn
     simp only [Option.some.injEq,Addr.mk.injEq,and_true] at e'
     obtain ⟨rfl,rfl⟩:=e'
     refine (hw.cell (by show b<_;omega)).trans (hcd.trans ?_)
     simp [sv,hj] at hi ⊢
     exact hi
    exact (qcR [t[j]] _ _ w' rdx (by simp) (by simp) (fun s hs=>by
     rw [List.mem_singleton] at hs
     subst hs
     exact Nat.le_trans (hk.1 _ (List.mem_cons_of_mem _ (List.getElem_mem hj))) (by decide))).mono fun e w'' ⟨h1,h2⟩=>⟨h1,hw.trans (h2.mono hw.size)⟩
   have hol:O.length<=1000000000:=by have h:=hk.2.1;dsimp only at h;omega
   have ht:Hid (t.length+1=n):=Lh (by simpa using hn)
   have hK:=hlen
   have htl:Hid (t.length<=500000):=Lh (by rw [List.length_cons] at hlen;omega)
   clear h2 h3 h4 h5 hk hn hlen hd hRES hK
   have hK:=trivial
   go_enter func173,ntmps173
   go_wp2_with (go_at_call 186;refine (HN.out _ (by assumption)).mono ?_;rintro e w1 ⟨rfl,hb1⟩;have C1':=HC1.out _ hb1)
   clear q1 C1 C1' hb0
   go_loopw [3,4] (fun x y wr=>∃ j:Nat,j<=t.length/\y = .int .i64 (j+1:Nat)/\x = .string (zN (jo t j))/\Below w.heap.size w wr/\Hid (∀ k (hk:k<t.length),k<j->(dgW t[k]).isSome=true)) (fun _ y _=>n-(intOf y).toNat)
   case atStart=>exact ⟨0,Nat.zero_le _,rfl,rfl,hb1,Lh fun k hk h=>absurd h (Nat.not_lt_zero k)⟩
   case round =>
    clear hb1
    obtain ⟨j,hj,rfl,rfl,hbel,HA⟩:=hrel
    have C1':=HC1.out _ hbel
    by_cases hlt:j<t.length
    ·have hjn:j+1<n:=by have:=ht.out;omega
     have HSj:=Lh (HS.out j hlt)
     have hw1:=wrap_two j (Nat.le_trans hj htl.out)
     have i1:(0:Int)<=(j:Int)+1+1:=by omega
     have i2:(j:Int)+1+1<=n:=by omega
     have i3:(j:Int)+1+1<=c:=by omega
     cases hdg:dgW t[j] with
     | some d =>
      obtain ⟨hd10,hnum⟩:=num_dg hdg
      rw [hnum] at HSj
      simp only [kE] at HSj
      have HA2:Hid (∀ k (hk:k<t.length),k<j+1->(dgW t[k]).isSome=true):=Lh fun k hk hkj=>by
       rcases Nat.lt_or_ge k j with h' | h'
       ·exact HA.out k hk h'
       ·obtain rfl:k=j:=by omega
        rw [hdg]
        rfl
      have HDn:=Lh (qjN hlt hdg)
      have henc:=Lh (qif d hd10)
      have i4:decide ((d:Int)<0)=false:=decide_eq_false (by omega)
      have i5:decide (9<(d:Int))=false:=decide_eq_false (by omega)
      obtain ⟨hw2,hw3⟩:=qd1 d hd10
      clear HA HF HS hdg hnum
      have hsz1:(zN (jo t j)).size<=500000:=by rw [yg hj];exact Nat.le_trans hj htl.out
      have hsz2:(Utf8.encode (48+(d:Int))).size<=4:=by rw [henc.out];show 1<=4;omega
      rw [<- henc.out] at HDn
      clear henc hd10
      generalize zN (jo t j)=DS at *
      generalize (d:Int)=m at *
      go_wp2_with (go_at_call 130;refine (HSj.out _ (by assumption)).mono ?_;rintro e w3 ⟨rfl,hb3⟩)
      exact ⟨⟨j+1,by omega,by go_num,by rw [HDn.out],hb3,HA2⟩,by simp only [intOf];omega⟩
     | none =>
      have hstop : ∀ hk:j<t.length,dgW t[j]=none:=fun _=>hdg
      rcases num_no hdg with hnum | ⟨m,hnum,hm⟩
      ·rw [hnum] at HSj
       simp only [kE] at HSj
       by_cases h0:j=0
       ·have he:(zN (jo t j)).toList.isEmpty=true:=by rw [h0,ByteArray.toList_eq];rfl
        have hF2:Hid (RES=none):=Lh (by rw [HF.out j hj HA.out hstop,if_pos h0])
        clear HF HA HS h0
        generalize zN (jo t j)=DS at *
        go_wp2_with (go_at_call 130;refine (HSj.out _ (by assumption)).mono ?_;rintro e w3 ⟨rfl,hb3⟩)
        go_ret
        rw [hF2.out]
        exact ⟨hb3.mono (Nat.le_of_lt hgl),rfl,HPS.out.below hb3,hb3⟩
       ·have he:(zN (jo t j)).toList.isEmpty=false:=jp (by rw [yg hj];exact h0)
        have hF2:Hid (RES=some ⟨(a::t).drop (j+1),O++vm J st (zN (jo t j)),st,true⟩):=Lh (by rw [HF.out j hj HA.out hstop,if_neg h0])
        clear h0
        have hds:(zN (jo t j)).size<=1000000:=by rw [yg hj];exact Nat.le_trans hj (Nat.le_trans htl.out (by decide))
        have HTx:=Lh (fun w' (hw:Below w.heap.size w w')=>qdw HPS.out hol _ hds hw)
        have HTk:=Lh (fun w' (hp:PaS w' g nb ⟨a::t,O++vm J st (zN (jo t j)),st,true⟩) (hb:Below g w w')=>qaZ hp (j+1) (Nat.succ_le_succ hj) hb)
        clear HF HA HS
        generalize zN (jo t j)=DS at *
        go_wp2_with (first
         | (go_at_call 130;refine (HSj.out _ (by assumption)).mono ?_;rintro e w3 ⟨rfl,hb3⟩)
         | (go_at_call 190;refine (HTx.out _ (by assumption)).mono ?_;rintro e w5 ⟨rfl,hp5,hb5⟩)
         | (go_at_call 187;refine (HTk.out _ hp5 hb5).mono ?_;rintro e w6 ⟨rfl,hp6,hb6⟩))
        go_ret
        rw [hF2.out]
        exact ⟨hb6,rfl,hp6⟩
      ·rw [hnum] at HSj
       simp only [kE] at HSj
       rcases hm with hm | hm
       ·have i4:decide (m<0)=true:=decide_eq_true hm
        by_cases h0:j=0
        ·have he:(zN (jo t j)).toList.isEmpty=true:=by rw [h0,ByteArray.toList_eq];rfl
         have hF2:Hid (RES=none):=Lh (by rw [HF.out j hj HA.out hstop,if_pos h0])
         clear HF HA HS h0
         generalize zN (jo t j)=DS at *
         go_wp2_with (go_at_call 130;refine (HSj.out _ (by assumption)).mono ?_;rintro e w3 ⟨rfl,hb3⟩)
         go_ret
         rw [hF2.out]
         exact ⟨hb3.mono (Nat.le_of_lt hgl),rfl,HPS.out.below hb3,hb3⟩
        ·have he:(zN (jo t j)).toList.isEmpty=false:=jp (by rw [yg hj];exact h0)
         have hF2:Hid (RES=some ⟨(a::t).drop (j+1),O++vm J st (zN (jo t j)),st,true⟩):=Lh (by rw [HF.out j hj HA.out hstop,if_neg h0])
         clear h0
         have hds:(zN (jo t j)).size<=1000000:=by rw [yg hj];exact Nat.le_trans hj (Nat.le_trans htl.out (by decide))
         have HTx:=Lh (fun w' (hw:Below w.heap.size w w')=>qdw HPS.out hol _ hds hw)
         have HTk:=Lh (fun w' (hp:PaS w' g nb ⟨a::t,O++vm J st (zN (jo t j)),st,true⟩) (hb:Below g w w')=>qaZ hp (j+1) (Nat.succ_le_succ hj) hb)
         clear HF HA HS
         generalize zN (jo t j)=DS at *
         go_wp2_with (first
          | (go_at_call 130;refine (HSj.out _ (by assumption)).mono ?_;rintro e w3 ⟨rfl,hb3⟩)
          | (go_at_call 190;refine (HTx.out _ (by assumption)).mono ?_;rintro e w5 ⟨rfl,hp5,hb5⟩)
          | (go_at_call 187;refine (HTk.out _ hp5 hb5).mono ?_;rintro e w6 ⟨rfl,hp6,hb6⟩))
         go_ret
         rw [hF2.out]
         exact ⟨hb6,rfl,hp6⟩
       ·have i4:decide (m<0)=false:=decide_eq_false (by omega)
        have i5:decide (9<m)=true:=decide_eq_true hm
        by_cases h0:j=0
        ·have he:(zN (jo t j)).toList.isEmpty=true:=by rw [h0,ByteArray.toList_eq];rfl
         have hF2:Hid (RES=none):=Lh (by rw [HF.out j hj HA.out hstop,if_pos h0])
         clear HF HA HS h0
         generalize zN (jo t j)=DS at *
         go_wp2_with (go_at_call 130;refine (HSj.out _ (by assumption)).mono ?_;rintro e w3 ⟨rfl,hb3⟩)
         go_ret
         rw [hF2.out]
         exact ⟨hb3.mono (Nat.le_of_lt hgl),rfl,HPS.out.below hb3,hb3⟩
        ·have he:(zN (jo t j)).toList.isEmpty=false:=jp (by rw [yg hj];exact h0)
         have hF2:Hid (RES=some ⟨(a::t).drop (j+1),O++vm J st (zN (jo t j)),st,true⟩):=Lh (by rw [HF.out j hj HA.out hstop,if_neg h0])
         clear h0
         have hds:(zN (jo t j)).size<=1000000:=by rw [yg hj];exact Nat.le_trans hj (Nat.le_trans htl.out (by decide))
         have HTx:=Lh (fun w' (hw:Below w.heap.size w w')=>qdw HPS.out hol _ hds hw)
         have HTk:=Lh (fun w' (hp:PaS w' g nb ⟨a::t,O++vm J st (zN (jo t j)),st,true⟩) (hb:Below g w w')=>qaZ hp (j+1) (Nat.succ_le_succ hj) hb)
         clear HF HA HS
         generalize zN (jo t j)=DS at *
         go_wp2_with (first
          | (go_at_call 130;refine (HSj.out _ (by assumption)).mono ?_;rintro e w3 ⟨rfl,hb3⟩)
          | (go_at_call 190;refine (HTx.out _ (by assumption)).mono ?_;rintro e w5 ⟨rfl,hp5,hb5⟩)
          | (go_at_call 187;refine (HTk.out _ hp5 hb5).mono ?_;rintro e w6 ⟨rfl,hp6,hb6⟩))
         go_ret
         rw [hF2.out]
         exact ⟨hb6,rfl,hp6⟩
    ·have hjn : ¬ j+1<n:=by have:=ht.out;omega
     have hstop : ∀ hk:j<t.length,dgW t[j]=none:=fun hk=>absurd hk hlt
     by_cases h0:j=0
     ·have he:(zN (jo t j)).toList.isEmpty=true:=by rw [h0,ByteArray.toList_eq];rfl
      have hF2:Hid (RES=none):=Lh (by rw [HF.out j hj HA.out hstop,if_pos h0])
      clear HF HA HS h0
      generalize zN (jo t j)=DS at *
      go_wp2_with fail
      go_ret
      rw [hF2.out]
      exact ⟨hbel.mono (Nat.le_of_lt hgl),rfl,HPS.out.below hbel,hbel⟩
     ·have he:(zN (jo t j)).toList.isEmpty=false:=jp (by rw [yg hj];exact h0)
      have hF2:Hid (RES=some ⟨(a::t).drop (j+1),O++vm J st (zN (jo t j)),st,true⟩):=Lh (by rw [HF.out j hj HA.out hstop,if_neg h0])
      clear h0
      have hds:(zN (jo t j)).size<=1000000:=by rw [yg hj];exact Nat.le_trans hj (Nat.le_trans htl.out (by decide))
      have HTx:=Lh (fun w' (hw:Below w.heap.size w w')=>qdw HPS.out hol _ hds hw)
      have HTk:=Lh (fun w' (hp:PaS w' g nb ⟨a::t,O++vm J st (zN (jo t j)),st,true⟩) (hb:Below g w w')=>qaZ hp (j+1) (Nat.succ_le_succ hj) hb)
      clear HF HA HS
      generalize zN (jo t j)=DS at *
      go_wp2_with (first
       | fail
       | (go_at_call 190;refine (HTx.out _ (by assumption)).mono ?_;rintro e w5 ⟨rfl,hp5,hb5⟩)
       | (go_at_call 187;refine (HTk.out _ hp5 hb5).mono ?_;rintro e w6 ⟨rfl,hp6,hb6⟩))
      go_ret
      rw [hF2.out]
      exact ⟨hb6,rfl,hp6⟩
 ·rw [decide_eq_false hd] at q1
  have e0:qaP ⟨W,O,st,J⟩=none:=by
   unfold qaP
   split
   ·rfl
   ·rename_i a t hw
    dsimp only at hw
    rw [hw,List.headD_cons] at hd
    rw [if_neg fun h=>hd h.1]
  rw [e0]
  clear h2 h3 h4 h5 hk hn hlen hd e0
  generalize W.headD ⟨#[]⟩=nx at *
  go_enter func173,ntmps173
  go_wp2_with (go_at_call 186;refine (HN.out _ (by assumption)).mono ?_;rintro e w1 ⟨rfl,hb1⟩)
  go_ret
  exact ⟨hb1.mono (Nat.le_of_lt hgl),rfl,HPS.out.below hb1,hb1⟩
end Go.Proofs.YticbpkghcglgkaaGreatDoor
