/- Joined: Vd5, Vc1. -/
import Derived.Test.YtbogmeeijdaijaaGreatDoorZAQ
import Derived.Test.YtbogmeeijdaijaaGreatDoorZEH
set_option linter.unusedVariables false
set_option linter.unusedSimpArgs false
set_option linter.unnecessarySimpa false
set_option maxHeartbeats 4000000
namespace Go.Proofs.YtbogmeeijdaijaaGreatDoor
open Go.Proofs.Tryz Go.RowKit
set_option maxRecDepth 20000
theorem chk_pos {c:Chg} (h:vj c=0):0<=c.row/\0<=c.col/\0<=c.til:=by
 obtain ⟨h1,h2,_,h4⟩:=qdG h;obtain ⟨kind,row,col,count,til,g⟩:=c;unfold je at h2;unfold jk at h4;dsimp only at *
 by_cases k1:kind=1
 ·rw [if_pos k1,decide_eq_true_eq] at h2 h4;exact ⟨by omega,by omega,by omega⟩
 ·rw [if_neg k1] at h2 h4
  by_cases k2:kind=2
  ·rw [if_pos k2,decide_eq_true_eq] at h2 h4;exact ⟨by omega,by omega,by omega⟩
  ·rw [if_neg k2] at h2 h4
   by_cases k3:kind=3
   ·rw [if_pos k3] at h2 h4;rw [decide_eq_true_eq] at h2;rw [Bool.and_eq_true,decide_eq_true_eq] at h4;exact ⟨by omega,by omega,by omega⟩
   ·rw [if_neg k3,decide_eq_true_eq] at h2 h4;exact ⟨by omega,by omega,by omega⟩
def okX (F:Option (Chg × List ByteArray)):Option (Chg × List ByteArray):=F.bind fun x=>if vj x.1=0 then some x else none
def okC (x:Chg × Option (List ByteArray)):Option (Chg × List ByteArray):=okX (x.2.map fun t=>(x.1,t))
theorem zu {F:Option (Chg × List ByteArray)} (h : ∀ x,F=some x->x.1.row<0∨x.1.col<0∨x.1.til<0):okX F=none:=by
 unfold okX
 cases F with
 | none=>rfl
 | some x =>
  have:=h x rfl;rw [Option.bind_some]
  by_cases hc:vj x.1=0
  ·have:=chk_pos hc
   omega
  ·rw [if_neg hc]
theorem qW (l s):qv ((some l).bind (skO s))=match afO s l with
  | some x=>if x.1<0 then (0,none) else (x.1,some x.2)
  | none=>(0,none):=by
 unfold qv afO;simp only [Option.bind_some]
 cases (skO s l).bind kU <;> rfl
theorem qlr (l s t):qv (((some l).bind (skO s)).bind (skO t))=match (skO s l).bind (afO t) with
  | some x=>if x.1<0 then (0,none) else (x.1,some x.2)
  | none=>(0,none):=by
 show qv ((skO s l).bind (skO t))=_
 cases skO s l with
 | none=>rfl
 | some l'=>exact qW l' t
theorem siz_eq (l:List ByteArray):okC (sizV (some l))=okX ((afO jS l).bind fun x=>(afO kv x.2).bind fun y=>(skO jl y.2).map fun t=>((⟨1,x.1,y.1,0,0,[]⟩:Chg),t)):=by
 unfold sizV;rw [qW]
 cases afO jS l with
 | none=>rfl
 | some x =>
  simp only [Option.bind_some]
  by_cases hx:x.1<0
  ·rw [if_pos hx];refine (zu fun z hz=>?_).symm;rw [Option.bind_eq_some_iff] at hz;obtain ⟨y,_,hz⟩:=hz;rw [Option.map_eq_some_iff] at hz;obtain ⟨t,_,rfl⟩:=hz;exact .inl hx
  ·rw [if_neg hx,qW]
   cases afO kv x.2 with
   | none=>rfl
   | some y =>
    simp only [Option.bind_some]
    by_cases hy:y.1<0
    ·rw [if_pos hy];refine (zu fun z hz=>?_).symm;rw [Option.map_eq_some_iff] at hz;obtain ⟨t,_,rfl⟩:=hz;exact .inr (.inl hy)
    ·rw [if_neg hy]
     rfl
theorem up_eq (X Y:Int) (t:List ByteArray):okC (upV X Y (some t))=okX (if vT jj t=true then (afO jj t).bind fun z=>if z.1<0 then none else some ((⟨2,X,0,-z.1,Y,[]⟩:Chg),z.2)
  else (afO bUp t).bind fun z=>if z.1<0 then none else some (⟨2,X,0,z.1,Y,[]⟩,z.2)):=by
 unfold upV
 by_cases hu:vT bUp t=true
 ·rw [if_pos (show qX (some t) bUp=true from hu)];have hd : ¬ vT jj t=true:=by
   cases t with
   | nil=>cases hu
   | cons a u =>
    have e:a=bUp:=by simpa [vT] using hu
    subst e
    show ¬ decide (bUp=jj)=true
    decide
  rw [if_neg hd,qW]
  cases afO bUp t with
  | none=>rfl
  | some z =>
   simp only [Option.bind_some]
   split <;> rfl
 ·rw [if_neg (show ¬ qX (some t) bUp=true from hu),qW]
  by_cases hd:vT jj t=true
  ·rw [if_pos hd]
   cases afO jj t with
   | none=>rfl
   | some z =>
    simp only [Option.bind_some]
    split <;> rfl
  ·rw [if_neg hd];have n1 : ∀ s,¬ vT s t=true->afO s t=none:=fun s h=>by
    have:(some t:Option (List ByteArray)).bind (skO s)=none:=qlx (by show vT s t=false;simpa using h);unfold afO;rw [show skO s t=none from this]
    rfl
   rw [n1 _ hu,n1 _ hd]
   rfl
theorem scr_eq (l:List ByteArray):okC (scrV (some l))=okX (((skO q8 l).bind (afO qI)).bind fun x=>(afO bTo x.2).bind fun y =>
  if vT jj y.2=true then (afO jj y.2).bind fun z=>if z.1<0 then none else some ((⟨2,x.1-1,0,-z.1,y.1,[]⟩:Chg),z.2)
  else (afO bUp y.2).bind fun z=>if z.1<0 then none else some (⟨2,x.1-1,0,z.1,y.1,[]⟩,z.2)):=by
 unfold scrV;rw [qlr]
 cases (skO q8 l).bind (afO qI) with
 | none=>rfl
 | some x =>
  simp only [Option.bind_some]
  have key : ∀ (y:Int × List ByteArray) z,(if vT jj y.2=true then (afO jj y.2).bind fun z=>if z.1<0 then none else some ((⟨2,x.1-1,0,-z.1,y.1,[]⟩:Chg),z.2)
    else (afO bUp y.2).bind fun z=>if z.1<0 then none else some (⟨2,x.1-1,0,z.1,y.1,[]⟩,z.2))=some z->z.1.row=x.1-1/\z.1.til=y.1:=fun y z hz=>by
   split at hz <;>
   ·rw [Option.bind_eq_some_iff] at hz;obtain ⟨q,_,hz⟩:=hz
    split at hz
    ·cases hz
    ·cases hz
     exact ⟨rfl,rfl⟩
  by_cases hx:x.1<0
  ·rw [if_pos hx];refine (zu fun z hz=>?_).symm;rw [Option.bind_eq_some_iff] at hz;obtain ⟨y,_,hz⟩:=hz;have:=(key y z hz).1;exact .inl L0
  ·rw [if_neg hx,qW]
   cases afO bTo x.2 with
   | none=>rfl
   | some y =>
    simp only [Option.bind_some]
    by_cases hy:y.1<0
    ·rw [if_pos hy];refine (zu fun z hz=>?_).symm;have:=(key y z hz).2;exact .inr (.inr L0)
    ·rw [if_neg hy];exact up_eq _ _ _
theorem vis_eq (X Y:Int) (t:List ByteArray):okC (visV X Y (some t))=okX (if vT ze t=true then (skO ze t).map fun u=>((⟨4,X,Y,1,0,[]⟩:Chg),u)
  else (skO zK t).map fun u=>(⟨4,X,Y,0,0,[]⟩,u)):=by
 unfold visV
 by_cases hd:vT ze t=true
 ·rw [if_pos hd,if_pos (show qX (some t) ze=true from hd)]
  rfl
 ·rw [if_neg hd,if_neg (show ¬ qX (some t) ze=true from hd)]
  rfl
theorem cur_eq (l:List ByteArray):okC (curV (some l))=okX (((skO q7 l).bind (afO qI)).bind fun x=>(afO qO x.2).bind fun y =>
  if vT ze y.2=true then (skO ze y.2).map fun t=>((⟨4,x.1-1,y.1-1,1,0,[]⟩:Chg),t)
  else (skO zK y.2).map fun t=>(⟨4,x.1-1,y.1-1,0,0,[]⟩,t)):=by
 unfold curV;rw [qlr]
 cases (skO q7 l).bind (afO qI) with
 | none=>rfl
 | some x =>
  simp only [Option.bind_some]
  have key : ∀ (y:Int × List ByteArray) z,(if vT ze y.2=true then (skO ze y.2).map fun t=>((⟨4,x.1-1,y.1-1,1,0,[]⟩:Chg),t)
    else (skO zK y.2).map fun t=>(⟨4,x.1-1,y.1-1,0,0,[]⟩,t))=some z->z.1.row=x.1-1/\z.1.col=y.1-1:=fun y z hz=>by
   split at hz <;>
   ·rw [Option.map_eq_some_iff] at hz;obtain ⟨q,_,rfl⟩:=hz;exact ⟨rfl,rfl⟩
  by_cases hx:x.1<0
  ·rw [if_pos hx];refine (zu fun z hz=>?_).symm;rw [Option.bind_eq_some_iff] at hz;obtain ⟨y,_,hz⟩:=hz;have:=(key y z hz).1;exact .inl L0
  ·rw [if_neg hx,qW]
   cases afO qO x.2 with
   | none=>rfl
   | some y =>
    simp only [Option.bind_some]
    by_cases hy:y.1<0
    ·rw [if_pos hy];refine (zu fun z hz=>?_).symm;have:=(key y z hz).2;exact .inr (.inl L0)
    ·rw [if_neg hy];exact vis_eq _ _ _
theorem del_eq (X Y:Int) (t:List ByteArray):okC (delV X Y (some t))=okX ((delL t).bind fun z=>(insL z.2).map fun g=>((⟨3,X,Y,z.1,0,g.1⟩:Chg),g.2)):=by
 unfold delV delL
 by_cases hd:vT q9 t=true
 ·rw [if_pos hd,if_pos (show qX (some t) q9=true from hd),qW]
  cases afO q9 t with
  | none=>rfl
  | some x =>
   simp only [Option.bind_some]
   by_cases hx:x.1<0
   ·rw [if_pos hx,if_pos (show x.1<1 by omega)]
    rfl
   ·rw [if_neg hx]
    by_cases h0:x.1=0
    ·rw [if_pos h0,if_pos (show x.1<1 by omega)]
     rfl
    ·rw [if_neg h0,if_neg (show ¬ x.1<1 by omega)];simp only [Option.bind_some];rw [qln,Option.map_map]
     rfl
 ·rw [if_neg hd,if_neg (show ¬ qX (some t) q9=true from hd)];simp only [Option.bind_some];rw [qln,Option.map_map]
  rfl
theorem lin_eq (l:List ByteArray):okC (linV (some l))=okX (qbo l):=by
 unfold linV qbo;rw [qW]
 cases afO qI l with
 | none=>rfl
 | some x =>
  simp only [Option.bind_some];have key : ∀ (y:Int × List ByteArray) z,((delL y.2).bind fun z=>(insL z.2).map fun g=>((⟨3,x.1-1,y.1-1,z.1,0,g.1⟩:Chg),g.2))=some z->z.1.row=x.1-1/\z.1.col=y.1-1:=fun y z hz=>by
   rw [Option.bind_eq_some_iff] at hz;obtain ⟨q,_,hz⟩:=hz;rw [Option.map_eq_some_iff] at hz;obtain ⟨q,_,rfl⟩:=hz;exact ⟨rfl,rfl⟩
  by_cases hx:x.1<0
  ·rw [if_pos hx];refine (zu fun z hz=>?_).symm;rw [Option.bind_eq_some_iff] at hz;obtain ⟨y,_,hz⟩:=hz;have:=(key y z hz).1;exact .inl L0
  ·rw [if_neg hx,qW]
   cases afO qO x.2 with
   | none=>rfl
   | some y =>
    simp only [Option.bind_some]
    by_cases hy:y.1<0
    ·rw [if_pos hy];refine (zu fun z hz=>?_).symm;have:=(key y z hz).2;exact .inr (.inl L0)
    ·rw [if_neg hy];exact del_eq _ _ _
theorem qlV (l:List ByteArray):okC (zU (some l))=okX (qaL l):=by
 unfold qaL zU
 by_cases h1:vT jS l=true
 ·rw [if_pos h1,if_pos (show qX (some l) jS=true from h1)];exact siz_eq l
 ·rw [if_neg h1,if_neg (show ¬ qX (some l) jS=true from h1)]
  by_cases h2:vT q8 l=true
  ·rw [if_pos h2,if_pos (show qX (some l) q8=true from h2)];exact scr_eq l
  ·rw [if_neg h2,if_neg (show ¬ qX (some l) q8=true from h2)]
   by_cases h3:vT qI l=true
   ·rw [if_pos h3,if_pos (show qX (some l) qI=true from h3)];exact lin_eq l
   ·rw [if_neg h3,if_neg (show ¬ qX (some l) qI=true from h3)]
    by_cases h4:vT q7 l=true
    ·rw [if_pos h4,if_pos (show qX (some l) q7=true from h4)];exact cur_eq l
    ·rw [if_neg h4,if_neg (show ¬ qX (some l) q7=true from h4)]
     rfl
def qma (f:Nat) (r:Option (List ByteArray)) (acc:List Chg):Option (List Chg × Int):=r.bind fun l=>yR f l acc
theorem goV_step {f:Nat} {l:List ByteArray} {acc:List Chg} (h1:vT kZ l=false) (h2:vT jN l=false):qma (f+1) (some l) acc=qma f (if vj (zU (some l)).1=0 then (zU (some l)).2 else none) (acc++[(zU (some l)).1]):=by
 have e:qma (f+1) (some l) acc=(okX (qaL l)).bind fun x=>yR f x.2 (acc++[x.1]):=by
  show yR (f+1) l acc=_
  rw [yR,if_neg (by rw [h1,h2];simp),okX]
  cases qaL l with
  | none=>rfl
  | some x =>
   simp only [Option.bind_some]
   split <;> rfl
 rw [e,<- qlV];generalize zU (some l)=q;obtain ⟨c,t⟩:=q;unfold okC okX qma
 cases t with
 | none=>split <;> rfl
 | some t =>
  simp only [Option.map_some,Option.bind_some]
  split <;> rfl
theorem chgQ_len {l t:List ByteArray} (hl:l.length<=1000) (hsz : ∀ s∈l,s.size<=1000) (hc:vj (zU (some l)).1=0) (h:(zU (some l)).2=some t):t.length<l.length:=by
 have e:=qlV l;unfold okC at e;rw [h,Option.map_some] at e;unfold okX at e;rw [Option.bind_some,if_pos hc] at e;obtain ⟨x,hx,h2⟩:=Option.bind_eq_some_iff.1 e.symm
 split at h2
 ·cases h2
  exact (qmp (c:=(zU (some l)).1) hx L0 hsz).1
 ·cases h2
def lenO (r:Option (List ByteArray)):Nat:=match r with
 | some l=>l.length
 | none=>0
def endT (r:Option (List ByteArray)):Int × Option (List ByteArray) :=
 if qX r kZ=true then (0,r.bind (skO kZ))
 else if qX r jN=true/\lenO r=1 then (1,r.bind (skO jN))
 else ((qv (r.bind (skO jN))).1,if (qv (r.bind (skO jN))).1<2 then none else (qv (r.bind (skO jN))).2.bind (skO jG))
def endV (r:Option (List ByteArray)):Option Int:=(endT r).2.bind fun t=>if t=[] then some (endT r).1 else none
theorem endV_nil:endV (some [])=none:=by decide
theorem endV_eq (l:List ByteArray) (h:vT kZ l=true∨vT jN l=true):endV (some l)=ki l:=by
 unfold endV endT ki
 cases l with
 | nil=>rcases h with h | h <;> cases h
 | cons a t =>
  by_cases hm:vT kZ (a::t)=true
  ·rw [if_pos hm,if_pos (show qX (some (a::t)) kZ=true from hm)];have e:a=kZ:=by simpa [vT] using hm
   subst e;simp only [Option.bind_some,yL]
   cases t <;> simp
  ·rw [if_neg hm,if_neg (show ¬ qX (some (a::t)) kZ=true from hm)];have hd:=h.resolve_left hm;have e:a=jN:=by simpa [vT] using hd
   subst e;simp only [Option.bind_some,yL]
   cases t with
   | nil=>rw [if_pos ⟨hd,rfl⟩];rfl
   | cons b u =>
    rw [if_neg (by rintro ⟨_,h⟩;simp [lenO] at h),if_neg (show ¬ (b::u=[]) by simp)];unfold qv;simp only [Option.bind_some]
    cases kU (b::u) with
    | none=>rfl
    | some x =>
     obtain ⟨n,q⟩:=x;simp only [Option.bind_some]
     by_cases hn:n<0
     ·rw [if_pos hn]
      show none=_
      cases skO jG q with
      | none=>rfl
      | some z =>
       show none=if z=[]/\1<n then some n else none
       rw [if_neg (fun h=>by have:=h.2;omega)]
     ·rw [if_neg hn]
      show (Option.bind (if n<2 then none else skO jG q) fun t=>if t=[] then some n else none)=_
      by_cases h2:n<2
      ·rw [if_pos h2]
       cases skO jG q with
       | none=>rfl
       | some z =>
        show none=if z=[]/\1<n then some n else none
        rw [if_neg (fun h=>by have:=h.2;omega)]
      ·rw [if_neg h2]
       cases skO jG q with
       | none=>rfl
       | some z =>
        show (if z=[] then some n else none)=if z=[]/\1<n then some n else none
        by_cases hz:z=[]
        ·rw [if_pos hz,if_pos ⟨hz,by omega⟩]
        ·rw [if_neg hz,if_neg (fun h=>hz h.1)]
theorem goV_end {f:Nat} {r:Option (List ByteArray)} {acc:List Chg} (h : ∀ l,r=some l->l=[]∨vT kZ l=true∨vT jN l=true):qma (f+1) r acc=(endV r).map fun n=>(acc,n):=by
 cases r with
 | none=>rfl
 | some l =>
  rcases h l rfl with rfl | h
  ·rw [endV_nil];rfl
  ·rw [endV_eq l h]
   show yR (f+1) l acc=_
   rw [yR,if_pos h]
theorem qk6 {r:Option (List ByteArray)} (h : ∀ l,r=some l->l.length<=1000/\∀ s∈l,s.size<=1000):SmG (zH r).1:=by
 cases r with
 | none=>exact SmG.nil
 | some l =>
  have e:=qln l
  cases hp:(zH (some l)).2 with
  | none =>
   have:(zH (some l)).1=[]:=by
    unfold zH qkY at hp ⊢
    split
    ·rename_i hn
     rw [if_pos hn] at hp
     cases hq:((some l).bind (skO qK)).bind qae with
     | none=>rfl
     | some x=>rw [hq] at hp;cases hp
    ·rfl
   rw [this];exact SmG.nil
  | some t =>
   rw [hp,Option.map_some] at e;have:=h l rfl;exact (qlU e L0 this.2).2
def OkR (r:Option (List ByteArray)):Prop:=∀ l,r=some l->l.length<=1000/\∀ s∈l,s.size<=1000
theorem OkR.sk {r:Option (List ByteArray)} (h:OkR r) (s:ByteArray):OkR (r.bind (skO s)):=fun t ht=>by
 obtain ⟨l,hl,h2⟩:=Option.bind_eq_some_iff.1 ht;have:=qlJ h2;exact ⟨Lj this.1 (h l hl).1,fun x hx=>(h l hl).2 x (this.2 x hx)⟩
theorem OkR.num {r:Option (List ByteArray)} (h:OkR r):OkR (qv r).2:=fun t ht=>by
 unfold qv at ht
 cases hq:r.bind kU with
 | none=>rw [hq] at ht;cases ht
 | some x =>
  obtain ⟨n,u⟩:=x;rw [hq] at ht;dsimp only at ht
  split at ht
  ·cases ht
  ·cases ht
   obtain ⟨l,hl,h2⟩:=Option.bind_eq_some_iff.1 hq;have:=qlW h2;exact ⟨Lj this.1 (h l hl).1,fun x hx=>(h l hl).2 x (this.2 x hx)⟩
theorem qlK {l:List ByteArray} (h:OkR (some l)):SmG (zU (some l)).1.glyphs:=by
 unfold zU
 split
 ·exact SmG.nil
 ·split
  ·unfold scrV upV
   split <;> exact SmG.nil
  ·split
   ·unfold linV delV;have h2:OkR (qv ((qv ((some l).bind (skO qI))).2.bind (skO qO))).2:=((h.sk _).num.sk _).num
    split
    ·split
     ·exact SmG.nil
     ·exact qk6 (h2.sk _).num
    ·exact qk6 h2
   ·split
    ·unfold curV visV
     split <;> exact SmG.nil
    ·exact SmG.nil
theorem OkR.text {r:Option (List ByteArray)} (h:OkR r):OkR (qkY r).2:=fun t ht=>by
 unfold qkY at ht
 cases hq:r.bind qae with
 | none=>rw [hq] at ht;cases ht
 | some x =>
  obtain ⟨G,u⟩:=x;rw [hq] at ht
  cases ht
  obtain ⟨l,hl,h2⟩:=Option.bind_eq_some_iff.1 hq;unfold qae at h2;obtain ⟨i,_,h3⟩:=Option.bind_eq_some_iff.1 h2
  split at h3
  ·cases h3
   exact ⟨by rw [List.length_drop];have:=(h l hl).1;omega,fun x hx=>(h l hl).2 x (List.mem_of_mem_drop hx)⟩
  ·cases h3
theorem OkR.ins {r:Option (List ByteArray)} (h:OkR r):OkR (zH r).2:=by
 unfold zH
 split
 ·exact (h.sk _).text
 ·exact h
theorem OkR.none_:OkR none:=fun l e=>by cases e
theorem chgQ_ok {l:List ByteArray} (h:OkR (some l)):OkR (zU (some l)).2:=by
 unfold zU
 split
 ·exact ((h.sk _).num.sk _).num.sk _
 ·split
  ·unfold scrV upV;have h2:OkR (qv ((qv (((some l).bind (skO q8)).bind (skO qI))).2.bind (skO bTo))).2:=(((h.sk _).sk _).num.sk _).num
   split <;> exact (h2.sk _).num
  ·split
   ·unfold linV delV;have h2:OkR (qv ((qv ((some l).bind (skO qI))).2.bind (skO qO))).2:=((h.sk _).num.sk _).num
    split
    ·split
     ·exact OkR.none_
     ·exact (h2.sk _).num.ins
    ·exact h2.ins
   ·split
    ·unfold curV visV;have h2:OkR (qv ((qv (((some l).bind (skO q7)).bind (skO qI))).2.bind (skO qO))).2:=(((h.sk _).sk _).num.sk _).num
     split <;> exact h2.sk _
    ·exact OkR.none_
theorem jq (n a b:Int) (w:World):Calls prog 78 #[.int .i64 n,.int .i64 a,.int .i64 b] w fun e w'=>e = .returned (.bool (inB n a b))/\w=w':=by
 unfold inB
 by_cases h1:a<=n
 ·by_cases h2:n<=b
  ·go_enter func78,ntmps78
   go_wp2;go_ret;exact ⟨by simp [h1,h2],rfl⟩
  ·go_enter func78,ntmps78
   go_wp2;go_ret;exact ⟨by simp [h1,h2],rfl⟩
 ·go_enter func78,ntmps78
  go_wp2;go_ret;exact ⟨by rw [Lk (show ¬ a<=n by omega)];rfl,rfl⟩
theorem qhT (row col count til:Int) (g:List Gl) (A:Option Addr) (cap:Nat) (w:World):Calls prog 43 #[jH ⟨1,row,col,count,til,g⟩ A cap] w (qh (.int .i64 (vj ⟨1,row,col,count,til,g⟩)) w):=by
 rw [qiy];obtain ⟨R,hR⟩ : ∃ x,x=jL (inB row 1 60&&inB col 1 132) (decide (count=0)&&decide (til=0)&&decide (g.length=0)) false:=⟨_,rfl⟩
 rw [<- hR];have HR:=Lh hR;clear hR;generalize hz0:inB row 0 59=z0 at *
 cases h1:inB row 1 60 with
 | false=>as_aux_lemma =>
  have HE:Hid (R=2):=Lh (by rw [HR.out];simp [jL,h1]);clear HR
  skip
  go_enter func43,ntmps43
  go_upto_region 1 with fail
  refine qa (ChgBox w ⟨1,row,col,count,til,g⟩ A cap) (ChgBox.new w ⟨1,row,col,count,til,g⟩ A cap _) ?_;rintro X ⟨c0,c1,c2,c3,c4,c5,hb,hzX⟩;dsimp only at c0 c1 c2 c3 c4 c5
  go_wp2_with (go_at_call 78;refine (jq _ _ _ _).mono ?_;rintro e wy ⟨rfl,rfl⟩)
  go_ret;exact ⟨by rw [HE.out];rfl,hb⟩
 | true =>
  cases h2:inB col 1 132 with
  | false=>as_aux_lemma =>
   have HE:Hid (R=2):=Lh (by rw [HR.out];simp [jL,h1,h2]);clear HR
   skip
   go_enter func43,ntmps43
   go_upto_region 1 with fail
   refine qa (ChgBox w ⟨1,row,col,count,til,g⟩ A cap) (ChgBox.new w ⟨1,row,col,count,til,g⟩ A cap _) ?_;rintro X ⟨c0,c1,c2,c3,c4,c5,hb,hzX⟩;dsimp only at c0 c1 c2 c3 c4 c5
   go_wp2_with (go_at_call 78;refine (jq _ _ _ _).mono ?_;rintro e wy ⟨rfl,rfl⟩)
   go_ret;exact ⟨by rw [HE.out];rfl,hb⟩
  | true =>
   by_cases h3:count=0
   ·have k3:(count != 0)=false:=by simp [h3]
    by_cases h4:til=0
    ·have k4:(til != 0)=false:=by simp [h4]
     by_cases h5:g.length=0
     ·as_aux_lemma =>
      have k5 : ¬ (0:Int)<g.length:=by omega
      have HE:Hid (R=0):=Lh (by rw [HR.out];simp [jL,h1,h2,h3,h4,h5]);clear HR;clear h3 h4 h5
      go_enter func43,ntmps43
      go_upto_region 1 with fail
      refine qa (ChgBox w ⟨1,row,col,count,til,g⟩ A cap) (ChgBox.new w ⟨1,row,col,count,til,g⟩ A cap _) ?_;rintro X ⟨c0,c1,c2,c3,c4,c5,hb,hzX⟩;dsimp only at c0 c1 c2 c3 c4 c5
      go_wp2_with (go_at_call 78;refine (jq _ _ _ _).mono ?_;rintro e wy ⟨rfl,rfl⟩)
      go_ret;exact ⟨by rw [HE.out];rfl,hb⟩
     ·as_aux_lemma =>
      have k5:(0:Int)<g.length:=by omega
      have HE:Hid (R=1):=Lh (by rw [HR.out];simp [jL,h1,h2,h3,h4,h5]);clear HR;clear h3 h4 h5
      go_enter func43,ntmps43
      go_upto_region 1 with fail
      refine qa (ChgBox w ⟨1,row,col,count,til,g⟩ A cap) (ChgBox.new w ⟨1,row,col,count,til,g⟩ A cap _) ?_;rintro X ⟨c0,c1,c2,c3,c4,c5,hb,hzX⟩;dsimp only at c0 c1 c2 c3 c4 c5
      go_wp2_with (go_at_call 78;refine (jq _ _ _ _).mono ?_;rintro e wy ⟨rfl,rfl⟩)
      go_ret;exact ⟨by rw [HE.out];rfl,hb⟩
    ·as_aux_lemma =>
     have k4:(til != 0)=true:=Ln.2 h4;have HE:Hid (R=1):=Lh (by rw [HR.out];simp [jL,h1,h2,h3,h4]);clear HR;clear h3 h4
     go_enter func43,ntmps43
     go_upto_region 1 with fail
     refine qa (ChgBox w ⟨1,row,col,count,til,g⟩ A cap) (ChgBox.new w ⟨1,row,col,count,til,g⟩ A cap _) ?_;rintro X ⟨c0,c1,c2,c3,c4,c5,hb,hzX⟩;dsimp only at c0 c1 c2 c3 c4 c5
     go_wp2_with (go_at_call 78;refine (jq _ _ _ _).mono ?_;rintro e wy ⟨rfl,rfl⟩)
     go_ret;exact ⟨by rw [HE.out];rfl,hb⟩
   ·as_aux_lemma =>
    have k3:(count != 0)=true:=Ln.2 h3;have HE:Hid (R=1):=Lh (by rw [HR.out];simp [jL,h1,h2,h3]);clear HR;clear h3
    go_enter func43,ntmps43
    go_upto_region 1 with fail
    refine qa (ChgBox w ⟨1,row,col,count,til,g⟩ A cap) (ChgBox.new w ⟨1,row,col,count,til,g⟩ A cap _) ?_;rintro X ⟨c0,c1,c2,c3,c4,c5,hb,hzX⟩;dsimp only at c0 c1 c2 c3 c4 c5
    go_wp2_with (go_at_call 78;refine (jq _ _ _ _).mono ?_;rintro e wy ⟨rfl,rfl⟩)
    go_ret;exact ⟨by rw [HE.out];rfl,hb⟩
theorem qhF (row col count til:Int) (g:List Gl) (A:Option Addr) (cap:Nat) (w:World):Calls prog 43 #[jH ⟨2,row,col,count,til,g⟩ A cap] w (qh (.int .i64 (vj ⟨2,row,col,count,til,g⟩)) w):=by
 rw [qin];obtain ⟨R,hR⟩ : ∃ x,x=jL (inB row 0 59&&inB til (row+1) 60&&inB count (-60) 60&&decide (count≠0)) (decide (col=0)&&decide (g.length=0)) false:=⟨_,rfl⟩
 rw [<- hR];have HR:=Lh hR;clear hR
 cases h0:inB row 0 59 with
 | false=>as_aux_lemma =>
  have HE:Hid (R=2):=Lh (by rw [HR.out];simp [jL,h0]);clear HR
  skip
  go_enter func43,ntmps43
  go_upto_region 1 with fail
  refine qa (ChgBox w ⟨2,row,col,count,til,g⟩ A cap) (ChgBox.new w ⟨2,row,col,count,til,g⟩ A cap _) ?_;rintro X ⟨c0,c1,c2,c3,c4,c5,hb,hzX⟩;dsimp only at c0 c1 c2 c3 c4 c5
  go_wp2_with (go_at_call 78;refine (jq _ _ _ _).mono ?_;rintro e wy ⟨rfl,rfl⟩)
  go_ret;exact ⟨by rw [HE.out];rfl,hb⟩
 | true =>
  have e0:IntKind.i64.wrap (row+1)=row+1:=by
   unfold inB at h0;simp only [Bool.and_eq_true,decide_eq_true_eq] at h0;rw [Lx];omega
  cases h1:inB til (row+1) 60 with
  | false=>as_aux_lemma =>
   have HE:Hid (R=2):=Lh (by rw [HR.out];simp [jL,h0,h1]);clear HR
   skip
   go_enter func43,ntmps43
   go_upto_region 1 with fail
   refine qa (ChgBox w ⟨2,row,col,count,til,g⟩ A cap) (ChgBox.new w ⟨2,row,col,count,til,g⟩ A cap _) ?_;rintro X ⟨c0,c1,c2,c3,c4,c5,hb,hzX⟩;dsimp only at c0 c1 c2 c3 c4 c5
   go_wp2_with (go_at_call 78;refine (jq _ _ _ _).mono ?_;rintro e wy ⟨rfl,rfl⟩)
   go_ret;exact ⟨by rw [HE.out];rfl,hb⟩
  | true =>
   cases h2:inB count (-60) 60 with
   | false=>as_aux_lemma =>
    have HE:Hid (R=2):=Lh (by rw [HR.out];simp [jL,h0,h1,h2]);clear HR
    skip
    go_enter func43,ntmps43
    go_upto_region 1 with fail
    refine qa (ChgBox w ⟨2,row,col,count,til,g⟩ A cap) (ChgBox.new w ⟨2,row,col,count,til,g⟩ A cap _) ?_;rintro X ⟨c0,c1,c2,c3,c4,c5,hb,hzX⟩;dsimp only at c0 c1 c2 c3 c4 c5
    go_wp2_with (go_at_call 78;refine (jq _ _ _ _).mono ?_;rintro e wy ⟨rfl,rfl⟩)
    go_ret;exact ⟨by rw [HE.out];rfl,hb⟩
   | true =>
    by_cases h3:count=0
    ·as_aux_lemma =>
     have k3:(count==0)=true:=by simp [h3]
     have HE:Hid (R=2):=Lh (by rw [HR.out];simp [jL,h0,h1,h2,h3]);clear HR;clear h3
     go_enter func43,ntmps43
     go_upto_region 1 with fail
     refine qa (ChgBox w ⟨2,row,col,count,til,g⟩ A cap) (ChgBox.new w ⟨2,row,col,count,til,g⟩ A cap _) ?_;rintro X ⟨c0,c1,c2,c3,c4,c5,hb,hzX⟩;dsimp only at c0 c1 c2 c3 c4 c5
     go_wp2_with (go_at_call 78;refine (jq _ _ _ _).mono ?_;rintro e wy ⟨rfl,rfl⟩)
     go_ret;exact ⟨by rw [HE.out];rfl,hb⟩
    ·have k3:(count==0)=false:=Lm.2 h3
     by_cases h4:col=0
     ·have k4:(col != 0)=false:=by simp [h4]
      by_cases h5:g.length=0
      ·as_aux_lemma =>
       have k5 : ¬ (0:Int)<g.length:=by omega
       have HE:Hid (R=0):=Lh (by rw [HR.out];simp [jL,h0,h1,h2,h3,h4,h5]);clear HR;clear h3 h4 h5
       go_enter func43,ntmps43
       go_upto_region 1 with fail
       refine qa (ChgBox w ⟨2,row,col,count,til,g⟩ A cap) (ChgBox.new w ⟨2,row,col,count,til,g⟩ A cap _) ?_;rintro X ⟨c0,c1,c2,c3,c4,c5,hb,hzX⟩;dsimp only at c0 c1 c2 c3 c4 c5
       go_wp2_with (go_at_call 78;refine (jq _ _ _ _).mono ?_;rintro e wy ⟨rfl,rfl⟩)
       go_ret;exact ⟨by rw [HE.out];rfl,hb⟩
      ·as_aux_lemma =>
       have k5:(0:Int)<g.length:=by omega
       have HE:Hid (R=1):=Lh (by rw [HR.out];simp [jL,h0,h1,h2,h3,h4,h5]);clear HR;clear h3 h4 h5
       go_enter func43,ntmps43
       go_upto_region 1 with fail
       refine qa (ChgBox w ⟨2,row,col,count,til,g⟩ A cap) (ChgBox.new w ⟨2,row,col,count,til,g⟩ A cap _) ?_;rintro X ⟨c0,c1,c2,c3,c4,c5,hb,hzX⟩;dsimp only at c0 c1 c2 c3 c4 c5
       go_wp2_with (go_at_call 78;refine (jq _ _ _ _).mono ?_;rintro e wy ⟨rfl,rfl⟩)
       go_ret;exact ⟨by rw [HE.out];rfl,hb⟩
     ·as_aux_lemma =>
      have k4:(col != 0)=true:=Ln.2 h4;have HE:Hid (R=1):=Lh (by rw [HR.out];simp [jL,h0,h1,h2,h3,h4]);clear HR;clear h3 h4
      go_enter func43,ntmps43
      go_upto_region 1 with fail
      refine qa (ChgBox w ⟨2,row,col,count,til,g⟩ A cap) (ChgBox.new w ⟨2,row,col,count,til,g⟩ A cap _) ?_;rintro X ⟨c0,c1,c2,c3,c4,c5,hb,hzX⟩;dsimp only at c0 c1 c2 c3 c4 c5
      go_wp2_with (go_at_call 78;refine (jq _ _ _ _).mono ?_;rintro e wy ⟨rfl,rfl⟩)
      go_ret;exact ⟨by rw [HE.out];rfl,hb⟩
theorem qgO (row col count til:Int) (g:List Gl) (A:Option Addr) (cap:Nat) (w:World):Calls prog 43 #[jH ⟨4,row,col,count,til,g⟩ A cap] w (qh (.int .i64 (vj ⟨4,row,col,count,til,g⟩)) w):=by
 rw [qfB];obtain ⟨R,hR⟩ : ∃ x,x=jL (inB row 0 59&&inB col 0 131&&inB count 0 1) (decide (til=0)&&decide (g.length=0)) false:=⟨_,rfl⟩
 rw [<- hR];have HR:=Lh hR;clear hR
 cases h0:inB row 0 59 with
 | false=>as_aux_lemma =>
  have HE:Hid (R=2):=Lh (by rw [HR.out];simp [jL,h0]);clear HR
  skip
  go_enter func43,ntmps43
  go_upto_region 1 with fail
  refine qa (ChgBox w ⟨4,row,col,count,til,g⟩ A cap) (ChgBox.new w ⟨4,row,col,count,til,g⟩ A cap _) ?_;rintro X ⟨c0,c1,c2,c3,c4,c5,hb,hzX⟩;dsimp only at c0 c1 c2 c3 c4 c5
  go_wp2_with (go_at_call 78;refine (jq _ _ _ _).mono ?_;rintro e wy ⟨rfl,rfl⟩)
  go_ret;exact ⟨by rw [HE.out];rfl,hb⟩
 | true =>
  cases h1:inB col 0 131 with
  | false=>as_aux_lemma =>
   have HE:Hid (R=2):=Lh (by rw [HR.out];simp [jL,h0,h1]);clear HR
   skip
   go_enter func43,ntmps43
   go_upto_region 1 with fail
   refine qa (ChgBox w ⟨4,row,col,count,til,g⟩ A cap) (ChgBox.new w ⟨4,row,col,count,til,g⟩ A cap _) ?_;rintro X ⟨c0,c1,c2,c3,c4,c5,hb,hzX⟩;dsimp only at c0 c1 c2 c3 c4 c5
   go_wp2_with (go_at_call 78;refine (jq _ _ _ _).mono ?_;rintro e wy ⟨rfl,rfl⟩)
   go_ret;exact ⟨by rw [HE.out];rfl,hb⟩
  | true =>
   cases h2:inB count 0 1 with
   | false=>as_aux_lemma =>
    have HE:Hid (R=2):=Lh (by rw [HR.out];simp [jL,h0,h1,h2]);clear HR
    skip
    go_enter func43,ntmps43
    go_upto_region 1 with fail
    refine qa (ChgBox w ⟨4,row,col,count,til,g⟩ A cap) (ChgBox.new w ⟨4,row,col,count,til,g⟩ A cap _) ?_;rintro X ⟨c0,c1,c2,c3,c4,c5,hb,hzX⟩;dsimp only at c0 c1 c2 c3 c4 c5
    go_wp2_with (go_at_call 78;refine (jq _ _ _ _).mono ?_;rintro e wy ⟨rfl,rfl⟩)
    go_ret;exact ⟨by rw [HE.out];rfl,hb⟩
   | true =>
    by_cases h4:til=0
    ·have k4:(til != 0)=false:=by simp [h4]
     by_cases h5:g.length=0
     ·as_aux_lemma =>
      have k5 : ¬ (0:Int)<g.length:=by omega
      have HE:Hid (R=0):=Lh (by rw [HR.out];simp [jL,h0,h1,h2,h4,h5]);clear HR;clear h4 h5
      go_enter func43,ntmps43
      go_upto_region 1 with fail
      refine qa (ChgBox w ⟨4,row,col,count,til,g⟩ A cap) (ChgBox.new w ⟨4,row,col,count,til,g⟩ A cap _) ?_;rintro X ⟨c0,c1,c2,c3,c4,c5,hb,hzX⟩;dsimp only at c0 c1 c2 c3 c4 c5
      go_wp2_with (go_at_call 78;refine (jq _ _ _ _).mono ?_;rintro e wy ⟨rfl,rfl⟩)
      go_ret;exact ⟨by rw [HE.out];rfl,hb⟩
     ·as_aux_lemma =>
      have k5:(0:Int)<g.length:=by omega
      have HE:Hid (R=1):=Lh (by rw [HR.out];simp [jL,h0,h1,h2,h4,h5]);clear HR;clear h4 h5
      go_enter func43,ntmps43
      go_upto_region 1 with fail
      refine qa (ChgBox w ⟨4,row,col,count,til,g⟩ A cap) (ChgBox.new w ⟨4,row,col,count,til,g⟩ A cap _) ?_;rintro X ⟨c0,c1,c2,c3,c4,c5,hb,hzX⟩;dsimp only at c0 c1 c2 c3 c4 c5
      go_wp2_with (go_at_call 78;refine (jq _ _ _ _).mono ?_;rintro e wy ⟨rfl,rfl⟩)
      go_ret;exact ⟨by rw [HE.out];rfl,hb⟩
    ·as_aux_lemma =>
     have k4:(til != 0)=true:=Ln.2 h4;have HE:Hid (R=1):=Lh (by rw [HR.out];simp [jL,h0,h1,h2,h4]);clear HR;clear h4
     go_enter func43,ntmps43
     go_upto_region 1 with fail
     refine qa (ChgBox w ⟨4,row,col,count,til,g⟩ A cap) (ChgBox.new w ⟨4,row,col,count,til,g⟩ A cap _) ?_;rintro X ⟨c0,c1,c2,c3,c4,c5,hb,hzX⟩;dsimp only at c0 c1 c2 c3 c4 c5
     go_wp2_with (go_at_call 78;refine (jq _ _ _ _).mono ?_;rintro e wy ⟨rfl,rfl⟩)
     go_ret;exact ⟨by rw [HE.out];rfl,hb⟩
theorem qfh (row col count til:Int) (g:List Gl) (A:Option Addr) (cap:Nat) (w:World) (B:Nat) (hn:g.length<=1000000000) (rd:Rd w B 3 A g.length (qi g)) (hB:B<=w.heap.size) (hz : ∀ x∈g,x.text.size<=1000000000) :
  Calls prog 43 #[jH ⟨3,row,col,count,til,g⟩ A cap] w (qh (.int .i64 (vj ⟨3,row,col,count,til,g⟩)) w):=by
 rw [qeh];obtain ⟨R,hR⟩ : ∃ x,x=jL (inB row 0 59&&inB col 0 132&&inB count 0 132) (decide (til=0)&&!vA g) (decide (132<g.length)):=⟨_,rfl⟩
 rw [<- hR];have HR:=Lh hR;clear hR
 cases h0:inB row 0 59 with
 | false=>as_aux_lemma =>
  have HE:Hid (R=2):=Lh (by rw [HR.out];simp [jL,h0]);clear HR
  skip
  go_enter func43,ntmps43
  go_upto_region 1 with fail
  refine qa (ChgBox w ⟨3,row,col,count,til,g⟩ A cap) (ChgBox.new w ⟨3,row,col,count,til,g⟩ A cap _) ?_;rintro X ⟨c0,c1,c2,c3,c4,c5,hb,hzX⟩;dsimp only at c0 c1 c2 c3 c4 c5
  go_wp2_with (go_at_call 78;refine (jq _ _ _ _).mono ?_;rintro e wy ⟨rfl,rfl⟩)
  go_ret;exact ⟨by rw [HE.out];rfl,hb⟩
 | true =>
  cases h1:inB col 0 132 with
  | false=>as_aux_lemma =>
   have HE:Hid (R=2):=Lh (by rw [HR.out];simp [jL,h0,h1]);clear HR
   skip
   go_enter func43,ntmps43
   go_upto_region 1 with fail
   refine qa (ChgBox w ⟨3,row,col,count,til,g⟩ A cap) (ChgBox.new w ⟨3,row,col,count,til,g⟩ A cap _) ?_;rintro X ⟨c0,c1,c2,c3,c4,c5,hb,hzX⟩;dsimp only at c0 c1 c2 c3 c4 c5
   go_wp2_with (go_at_call 78;refine (jq _ _ _ _).mono ?_;rintro e wy ⟨rfl,rfl⟩)
   go_ret;exact ⟨by rw [HE.out];rfl,hb⟩
  | true =>
   cases h2:inB count 0 132 with
   | false=>as_aux_lemma =>
    have HE:Hid (R=2):=Lh (by rw [HR.out];simp [jL,h0,h1,h2]);clear HR
    skip
    go_enter func43,ntmps43
    go_upto_region 1 with fail
    refine qa (ChgBox w ⟨3,row,col,count,til,g⟩ A cap) (ChgBox.new w ⟨3,row,col,count,til,g⟩ A cap _) ?_;rintro X ⟨c0,c1,c2,c3,c4,c5,hb,hzX⟩;dsimp only at c0 c1 c2 c3 c4 c5
    go_wp2_with (go_at_call 78;refine (jq _ _ _ _).mono ?_;rintro e wy ⟨rfl,rfl⟩)
    go_ret;exact ⟨by rw [HE.out];rfl,hb⟩
   | true =>
    by_cases h3:132<g.length
    ·as_aux_lemma =>
     have k3:(132:Int)<g.length:=by omega
     have HE:Hid (R=5):=Lh (by rw [HR.out];simp [jL,h0,h1,h2,h3]);clear HR;clear h3
     go_enter func43,ntmps43
     go_upto_region 1 with fail
     refine qa (ChgBox w ⟨3,row,col,count,til,g⟩ A cap) (ChgBox.new w ⟨3,row,col,count,til,g⟩ A cap _) ?_;rintro X ⟨c0,c1,c2,c3,c4,c5,hb,hzX⟩;dsimp only at c0 c1 c2 c3 c4 c5
     go_wp2_with (go_at_call 78;refine (jq _ _ _ _).mono ?_;rintro e wy ⟨rfl,rfl⟩)
     go_ret;exact ⟨by rw [HE.out];rfl,hb⟩
    ·have k3 : ¬ (132:Int)<g.length:=by omega
     by_cases h4:til=0
     ·as_aux_lemma =>
      have HRd:=Lh rd;have HRe:Hid (R=if vA (g.drop 0)=true then 1 else 0):=Lh (by rw [HR.out];simp only [h0,h1,h2,h3,h4,jL,List.drop_zero];cases vA g <;> rfl);have HG:Hid (∀ x∈g,∀ w',Calls prog 53 #[glV x] w' (qh (.int .i64 (qJ x)) w')):=Lh fun x hx w'=>qky x (hz x hx) w'
      clear rd hz HR;have k4:(til != 0)=false:=by simp [h4]
      clear h4
      go_enter func43,ntmps43
      go_upto_region 1 with fail
      refine qa (ChgBox w ⟨3,row,col,count,til,g⟩ A cap) (ChgBox.new w ⟨3,row,col,count,til,g⟩ A cap _) ?_;rintro X ⟨c0,c1,c2,c3,c4,c5,hb,hzX⟩;dsimp only at c0 c1 c2 c3 c4 c5
      go_wp2_with (go_at_call 78;refine (jq _ _ _ _).mono ?_;rintro e wy ⟨rfl,rfl⟩)
      go_loopw [4] (fun x wr=>∃ k:Nat,k<=g.length/\x = .int .i64 k/\ChgBox w ⟨3,row,col,count,til,g⟩ A cap wr/\Hid (R=if vA (g.drop k)=true then 1 else 0)) (fun x _=>g.length-(intOf x).toNat)
      case atStart=>exact ⟨0,Nat.zero_le _,rfl,⟨c0,c1,c2,c3,c4,c5,hb,hzX⟩,HRe⟩
      case round =>
       clear c0 c1 c2 c3 c4 c5 hb hzX;obtain ⟨k,hk,rfl,⟨c0,c1,c2,c3,c4,c5,hb,hzX⟩,HK⟩:=hrel;dsimp only at c0 c1 c2 c3 c4 c5
       by_cases hlt:k<g.length
       ·obtain ⟨b,o,rfl,hbB,g0,g1,g2⟩:=jE (HRd.out.below (hb.mono hB)) hlt rfl;have HD:Hid (vA (g.drop k)=(!qal g[k] || vA (g.drop (k+1)))):=Lh (by rw [Ls hlt];rfl);have HGk:=Lh (HG.out g[k] (Lt hlt));have hvl:qal g[k]=decide (qJ g[k]=0):=rfl;generalize g[k]=y at *
        obtain ⟨t,wd,st⟩:=y;dsimp only at *
        generalize qJ ⟨t,wd,st⟩=K at *
        by_cases hK:K=0
        ·have HR2:Hid (R=if vA (g.drop (k+1))=true then 1 else 0):=Lh (by rw [HK.out,HD.out,hvl,hK];rfl);have hKb:(K != 0)=false:=by simp [hK]
         clear HK HD hvl hK HG HRd
         go_wp2_with (go_at_call 53;refine (HGk.out _).mono ?_;rintro e w1 ⟨rfl,hb1⟩)
         exact ⟨⟨k+1,by omega,by go_num,ChgBox.on ⟨c0,c1,c2,c3,c4,c5,hb,hzX⟩ hb1,HR2⟩,by simp [intOf];omega⟩
        ·have HR2:Hid (R=1):=Lh (by rw [HK.out,HD.out,hvl,Lk hK];rfl);have hKb:(K != 0)=true:=Ln.2 hK;clear HK HD hvl hK HG HRd
         go_wp2_with (go_at_call 53;refine (HGk.out _).mono ?_;rintro e w1 ⟨rfl,hb1⟩)
         go_ret;exact ⟨by rw [HR2.out];rfl,hb.trans (hb1.mono L0)⟩
       ·have HR2:Hid (R=0):=Lh (by rw [HK.out,Lv L0];rfl);go_wp2;go_ret;exact ⟨by rw [HR2.out];rfl,hb⟩
     ·as_aux_lemma =>
      have k4:(til != 0)=true:=Ln.2 h4;have HE:Hid (R=1):=Lh (by rw [HR.out];simp [jL,h0,h1,h2,h3,h4]);clear HR;clear h3 h4
      go_enter func43,ntmps43
      go_upto_region 1 with fail
      refine qa (ChgBox w ⟨3,row,col,count,til,g⟩ A cap) (ChgBox.new w ⟨3,row,col,count,til,g⟩ A cap _) ?_;rintro X ⟨c0,c1,c2,c3,c4,c5,hb,hzX⟩;dsimp only at c0 c1 c2 c3 c4 c5
      go_wp2_with (go_at_call 78;refine (jq _ _ _ _).mono ?_;rintro e wy ⟨rfl,rfl⟩)
      go_ret;exact ⟨by rw [HE.out];rfl,hb⟩
theorem qhC (c:Chg) (A:Option Addr) (cap:Nat) (w:World) (h1:c.kind≠1) (h2:c.kind≠2) (h3:c.kind≠3) (h4:c.kind≠4):Calls prog 43 #[jH c A cap] w (qh (.int .i64 (vj c)) w):=by
 have e:vj c=9:=if_pos L0;rw [e];obtain ⟨kind,row,col,count,til,g⟩:=c;have b1:(kind==1)=false:=Lm.2 h1;have b2:(kind==2)=false:=Lm.2 h2;have b3:(kind==3)=false:=Lm.2 h3;have b4:(kind==4)=false:=Lm.2 h4;clear e h1 h2 h3 h4
 go_enter func43,ntmps43
 go_upto_region 1 with fail
 refine qa (ChgBox w ⟨kind,row,col,count,til,g⟩ A cap) (ChgBox.new w ⟨kind,row,col,count,til,g⟩ A cap _) ?_;rintro X ⟨c0,c1,c2,c3,c4,c5,hb,hzX⟩;dsimp only at c0 c1 c2 c3 c4 c5
 go_wp2_with (go_at_call 78;refine (jq _ _ _ _).mono ?_;rintro e wy ⟨rfl,rfl⟩)
 go_ret;exact ⟨rfl,hb⟩
theorem vchk_ (c:Chg) (A:Option Addr) (cap B:Nat) (w:World) (hn:c.glyphs.length<=1000000000) (rd:Rd w B 3 A c.glyphs.length (qi c.glyphs)) (hB:B<=w.heap.size) (hz : ∀ x∈c.glyphs,x.text.size<=1000000000) :
  Calls prog 43 #[jH c A cap] w (qh (.int .i64 (vj c)) w):=by
 by_cases h1:c.kind=1
 ·obtain ⟨kind,row,col,count,til,g⟩:=c;obtain rfl:kind=1:=h1;exact qhT row col count til g A cap w
 ·by_cases h2:c.kind=2
  ·obtain ⟨kind,row,col,count,til,g⟩:=c;obtain rfl:kind=2:=h2;exact qhF row col count til g A cap w
  ·by_cases h3:c.kind=3
   ·obtain ⟨kind,row,col,count,til,g⟩:=c;obtain rfl:kind=3:=h3;exact qfh row col count til g A cap w B hn rd hB hz
   ·by_cases h4:c.kind=4
    ·obtain ⟨kind,row,col,count,til,g⟩:=c;obtain rfl:kind=4:=h4;exact qgO row col count til g A cap w
    ·exact qhC c A cap w h1 h2 h3 h4
end Go.Proofs.YtbogmeeijdaijaaGreatDoor
