/- Joined: Vd4. -/
import Derived.StillTailTactics
import Derived.Test.YtbogmeeijdaijaaGreatDoorZEG
set_option linter.unusedVariables false
set_option linter.unusedSimpArgs false
set_option linter.unnecessarySimpa false
set_option maxHeartbeats 8000000
namespace Go.Proofs.YtbogmeeijdaijaaGreatDoor
open Go.Proofs.Tryz Go.RowKit
set_option maxRecDepth 20000
def sizV (r:Option (List ByteArray)):Chg × Option (List ByteArray) :=
 (⟨1,(qv (r.bind (skO jS))).1,(qv ((qv (r.bind (skO jS))).2.bind (skO kv))).1,0,0,[]⟩,(qv ((qv (r.bind (skO jS))).2.bind (skO kv))).2.bind (skO jl))
def upV (X Y:Int) (r:Option (List ByteArray)):Chg × Option (List ByteArray) :=
 if qX r bUp=true then (⟨2,X,0,(qv (r.bind (skO bUp))).1,Y,[]⟩,(qv (r.bind (skO bUp))).2) else (⟨2,X,0,-(qv (r.bind (skO jj))).1,Y,[]⟩,(qv (r.bind (skO jj))).2)
def scrV (r:Option (List ByteArray)):Chg × Option (List ByteArray) :=
 upV ((qv ((r.bind (skO q8)).bind (skO qI))).1-1) (qv ((qv ((r.bind (skO q8)).bind (skO qI))).2.bind (skO bTo))).1 (qv ((qv ((r.bind (skO q8)).bind (skO qI))).2.bind (skO bTo))).2
def delV (X Y:Int) (r:Option (List ByteArray)):Chg × Option (List ByteArray) :=
 if qX r q9=true then (if (qv (r.bind (skO q9))).1=0 then (⟨3,X,Y,0,0,[]⟩,none) else (⟨3,X,Y,(qv (r.bind (skO q9))).1,0,(zH (qv (r.bind (skO q9))).2).1⟩,(zH (qv (r.bind (skO q9))).2).2)) else (⟨3,X,Y,0,0,(zH r).1⟩,(zH r).2)
def linV (r:Option (List ByteArray)):Chg × Option (List ByteArray) :=
 delV ((qv (r.bind (skO qI))).1-1) ((qv ((qv (r.bind (skO qI))).2.bind (skO qO))).1-1) (qv ((qv (r.bind (skO qI))).2.bind (skO qO))).2
def visV (X Y:Int) (r:Option (List ByteArray)):Chg × Option (List ByteArray) :=
 if qX r ze=true then (⟨4,X,Y,1,0,[]⟩,r.bind (skO ze)) else (⟨4,X,Y,0,0,[]⟩,r.bind (skO zK))
def curV (r:Option (List ByteArray)):Chg × Option (List ByteArray) :=
 visV ((qv ((r.bind (skO q7)).bind (skO qI))).1-1) ((qv ((qv ((r.bind (skO q7)).bind (skO qI))).2.bind (skO qO))).1-1) (qv ((qv ((r.bind (skO q7)).bind (skO qI))).2.bind (skO qO))).2
def zU (r:Option (List ByteArray)):Chg × Option (List ByteArray) :=
 if qX r jS=true then sizV r
 else if qX r q8=true then scrV r
 else if qX r qI=true then linV r
 else if qX r q7=true then curV r
 else (⟨0,0,0,0,0,[]⟩,none)
theorem qU (q:Option (List ByteArray)):0<=(qv q).1/\(qv q).1<=999999999:=by
 have h:=kd q;unfold qN at h;unfold qv
 cases hq:q.bind kU with
 | none=>exact ⟨Int.le_refl _,by decide⟩
 | some x =>
  obtain ⟨n,t⟩:=x;rw [hq] at h;dsimp only at h ⊢
  split
  ·exact ⟨Int.le_refl _,by decide⟩
  ·exact ⟨by show 0<=n;omega,h.2⟩
def LenVd (r:Option (List ByteArray)):Prop:=∀ l,r=some l->l.length<=1000
theorem LenVd.sk {r:Option (List ByteArray)} (h:LenVd r) (s:ByteArray):LenVd (r.bind (skO s)):=by
 intro l hl
 cases r with
 | none=>cases hl
 | some x =>
  cases x with
  | nil=>cases hl
  | cons a t =>
   have:=h _ rfl;simp only [Option.bind_some,skO] at hl
   split at hl
   ·cases hl
    simp at this
    omega
   ·cases hl
theorem LenVd.num {r:Option (List ByteArray)} (h:LenVd r):LenVd (qv r).2:=by
 intro l hl
 cases r with
 | none=>cases hl
 | some x =>
  have:=h _ rfl;unfold qv at hl;simp only [Option.bind_some,kU] at hl
  cases hp:prefixL x with
  | none=>rw [hp] at hl;cases hl
  | some y =>
   rw [hp] at hl;simp only [Option.map_some] at hl
   split at hl
   ·cases hl
   ·cases hl
    rw [List.length_drop]
    omega
theorem qlc {r:Option (List ByteArray)} {s:ByteArray} (h:qX r s=true):r.bind (skO s)≠none:=by
 cases r with
 | none=>cases h
 | some l =>
  obtain ⟨_,t,_,ht⟩:=qj9 (bad:=false) h;have ht':(some l:Option (List ByteArray)).bind (skO s)=some t:=ht;rw [ht'];exact fun e=>by cases e
section
variable {w X : World} {B : Nat} {r : Option (List ByteArray)} {c : Chg}
theorem TS.num_ (hX:TS w B r c none 0 X) (hB:B<=w.heap.size) (ht:Tb w) (s:ByteArray) (i:Nat) (hi:i<5) {x:Int × Option (List ByteArray)} (hx:Hid (x=qv (r.bind (skO s)))) :
  ∃ A' n' c' bad',X.cell? ⟨w.heap.size,0,none⟩=some (.slice A' n' c')/\X.cell? ⟨w.heap.size,1,none⟩=some (.bool (!bad'))/\Calls prog 45 #[.agg #[.slice A' n' c',.bool (!bad')],.string s] X fun e w1=>∃ A1 n1 cc bad v,e = .returned (.tuple #[.int .i64 x.1,.agg #[.slice A1 n1 cc,.bool (!bad)]]) /\
   w1.cell? ⟨w.heap.size,0,none⟩=some (.slice A' n' c')/\w1.cell? ⟨w.heap.size,1,none⟩=some (.bool (!bad'))/\w1.frozen? ⟨w.heap.size,0,none⟩=false/\w1.frozen? ⟨w.heap.size,1,none⟩=false/\w1.cell? ⟨w.heap.size+3,i,none⟩=some (.int .i64 v)/\w1.frozen? ⟨w.heap.size+3,i,none⟩=false /\
   TS w B x.2 (c.put i x.1) none 0 (((w1.setCell ⟨w.heap.size+3,i,none⟩ (.int .i64 x.1)).setCell ⟨w.heap.size,0,none⟩ (.slice A1 n1 cc)).setCell ⟨w.heap.size,1,none⟩ (.bool (!bad))):=by
 obtain ⟨A',n',c',l',bad',hr',hW,R1,R2,R3,R4,tx,hO⟩:=id hX;have h1:=vN R1;refine ⟨A',n',c',bad',h1.1,h1.2.1,(qk5 r _ s B X ⟨A',n',c',l',bad',rfl,hW,hr'⟩ (Lj hB tx.size) (ht.below tx)).mono ?_⟩;rw [<- hx.out];rintro e w1 ⟨A1,n1,cc1,l1,bad1,rfl,hW1,hr1,hb1⟩;have hY:=hX.below hB hb1;have h2:=vN (R1.below hb1 R1.lt);have K:=R4.below hb1 R4.lt;have h3:=qV K;obtain ⟨v,hv⟩ : ∃ v,w1.cell? ⟨w.heap.size+3,i,none⟩=some (.int .i64 v):=by
  match i,hi with
  | 0,_=>exact ⟨_,h3.1⟩
  | 1,_=>exact ⟨_,h3.2.1⟩
  | 2,_=>exact ⟨_,h3.2.2.1⟩
  | 3,_=>exact ⟨_,h3.2.2.2.1⟩
  | 4,_=>exact ⟨_,h3.2.2.2.2.1⟩
 exact ⟨A1,n1,cc1,bad1,v,rfl,h2.1,h2.2.1,h2.2.2.1,h2.2.2.2,hv,K.frozen i,(hY.set_ hB i x.1 hi).turn hB (hW1.below ((Le B w1).setCell (p:=⟨w.heap.size+3,i,none⟩) L7 (.int .i64 x.1))) hr1⟩
theorem TS.is_ (hX:TS w B r c none 0 X) (hB:B<=w.heap.size) (s:ByteArray) :
  ∃ A' n' c' bad',X.cell? ⟨w.heap.size,0,none⟩=some (.slice A' n' c')/\X.cell? ⟨w.heap.size,1,none⟩=some (.bool (!bad'))/\Calls prog 41 #[.agg #[.slice A' n' c',.bool (!bad')],.string s] X fun e w1=>e = .returned (.bool (qX r s))/\TS w B r c none 0 w1:=by
 obtain ⟨A',n',c',l',bad',hr',hW,R1,R2,R3,R4,tx,hO⟩:=id hX;have h1:=vN R1;refine ⟨A',n',c',bad',h1.1,h1.2.1,(tis_ r _ s B X ⟨A',n',c',l',bad',rfl,hW,hr'⟩ (Lj hB tx.size)).mono ?_⟩;rintro e w1 ⟨rfl,hb1⟩;exact ⟨rfl,hX.below hB hb1⟩
theorem TS.sk_ (hX:TS w B r c none 0 X) (hB:B<=w.heap.size) (s:ByteArray) :
  ∃ A' n' c' bad',X.cell? ⟨w.heap.size,0,none⟩=some (.slice A' n' c')/\X.cell? ⟨w.heap.size,1,none⟩=some (.bool (!bad'))/\Calls prog 44 #[.agg #[.slice A' n' c',.bool (!bad')],.string s] X fun e w1=>∃ A1 n1 cc bad,e = .returned (.agg #[.slice A1 n1 cc,.bool (!bad)]) /\
   w1.cell? ⟨w.heap.size,0,none⟩=some (.slice A' n' c')/\w1.cell? ⟨w.heap.size,1,none⟩=some (.bool (!bad'))/\w1.frozen? ⟨w.heap.size,0,none⟩=false/\w1.frozen? ⟨w.heap.size,1,none⟩=false /\
   TS w B (r.bind (skO s)) c none 0 ((w1.setCell ⟨w.heap.size,0,none⟩ (.slice A1 n1 cc)).setCell ⟨w.heap.size,1,none⟩ (.bool (!bad))):=by
 obtain ⟨A',n',c',l',bad',hr',hW,R1,R2,R3,R4,tx,hO⟩:=id hX;have h1:=vN R1;refine ⟨A',n',c',bad',h1.1,h1.2.1,(j6 r _ s B X ⟨A',n',c',l',bad',rfl,hW,hr'⟩ (Lj hB tx.size)).mono ?_⟩;rintro e w1 ⟨A1,n1,cc1,l1,bad1,rfl,hW1,hr1,hb1⟩;have h2:=vN (R1.below hb1 R1.lt);exact ⟨A1,n1,cc1,bad1,rfl,h2.1,h2.2.1,h2.2.2.1,h2.2.2.2,(hX.below hB hb1).turn hB hW1 hr1⟩
end
theorem qlw (l:List ByteArray) (A:Option Addr) (n c:Nat) (w:World) (B:Nat) (hW:WdR w B l A n c) (hB:B<=w.heap.size) (hl:l.length<=1000) (ht:Tb w) (h1:qX (some l) jS=true) :
  Calls prog 42 #[.agg #[.slice A n c,.bool true]] w (qle w B (sizV (some l)).1 (sizV (some l)).2):=by
 obtain ⟨R,hR⟩ : ∃ x,Hid (x=(sizV (some l))):=⟨_,Lh rfl⟩
 rw [<- hR.out];have HT:=Lh ht;have HL:Hid (LenVd (some l)):=Lh fun _ e=>by cases e;exact hl
 have hX:=TS.start hW hB;have hs1:Hid (true=qX (some l) jS):=Lh h1.symm;clear hW hl ht h1
 go_enter func42,ntmps42
 go_upto_region 3 with fail
 refine qa (TS w B (some l) ⟨0,0,0,0,0,[]⟩ none 0) hX ?_;clear hX;intro X hX;obtain ⟨A',n',c',bad',c0,c1,HN⟩:=TS.is_ hX hB jS;rw [<- hs1.out] at HN;replace HN:=Lh HN
 go_upto_if 7 with (go_at_call 41;refine HN.out.mono ?_;rintro e w1 ⟨rfl,hY⟩)
 refine qa (TS w B (some l) ⟨0,0,0,0,0,[]⟩ none 0) hY ?_;clear hY hX HN c0 c1;intro X hX;obtain ⟨x,hx⟩ : ∃ x,Hid (x=qv ((some l).bind (skO jS))):=⟨_,Lh rfl⟩
 obtain ⟨y,hy⟩ : ∃ y,Hid (y=qv (x.2.bind (skO kv))):=⟨_,Lh rfl⟩
 have HR3:Hid (R.1=⟨1,x.1,y.1,0,0,[]⟩/\R.2=y.2.bind (skO jl)):=Lh (by rw [hR.out,sizV,hy.out,hx.out];exact ⟨rfl,rfl⟩);clear hR hs1 HL;obtain ⟨A',n',c',l',bad',hr',hW,R1,R2,R3,R4,tx,hO⟩:=id hX;obtain ⟨c0,c1,f0,f1⟩:=vN R1;obtain ⟨k0,k1,k2,k3,k4,k5,p0,p1,p2,p3,p4,p5⟩:=qV R4;dsimp only at k0 k1 k2 k3 k4 k5
 go_upto_region 5 with fail
 refine qa (TS w B (some l) ⟨1,0,0,0,0,[]⟩ none 0) (hX.set_ hB 0 1 L2) ?_;clear hX;clear c0 c1 f0 f1 k0 k1 k2 k3 k4 k5 p0 p1 p2 p3 p4 p5 hr' hW R1 R2 R3 R4 tx hO;intro X hX;obtain ⟨A',n',c',bad',c0,c1,HA⟩:=TS.num_ hX hB HT.out jS 1 L2 hx;replace HA:=Lh HA
 go_upto_region 6 with (go_at_call 45;refine HA.out.mono ?_;rintro e w1 ⟨A1,n1,cc1,bad1,v1,rfl,d0,d1,f0,f1,k0,p0,hY⟩)
 refine qa (TS w B x.2 ⟨1,x.1,0,0,0,[]⟩ none 0) hY ?_;clear hY hX HA c0 c1 d0 d1 f0 f1 k0 p0;intro X hX;obtain ⟨A',n',c',bad',c0,c1,HA⟩:=TS.num_ hX hB HT.out kv 2 L2 hy;replace HA:=Lh HA
 go_upto_region 7 with (go_at_call 45;refine HA.out.mono ?_;rintro e w1 ⟨A1,n1,cc1,bad1,v1,rfl,d0,d1,f0,f1,k0,p0,hY⟩)
 refine qa (TS w B y.2 ⟨1,x.1,y.1,0,0,[]⟩ none 0) hY ?_;clear hY hX HA c0 c1 d0 d1 f0 f1 k0 p0;intro X hX;obtain ⟨A',n',c',bad',c0,c1,HK⟩:=TS.sk_ hX hB jl;replace HK:=Lh HK
 go_upto_region 41 with (go_at_call 44;refine HK.out.mono ?_;rintro e w1 ⟨A1,n1,cc1,bad1,rfl,d0,d1,f0,f1,hY⟩)
 refine qa (TS w B ((y.2).bind (skO jl)) ⟨1,x.1,y.1,0,0,[]⟩ none 0) hY ?_;clear hY hX HK c0 c1 d0 d1 f0 f1;intro X hX;obtain ⟨A',n',c',l',bad',hr',hW,R1,R2,R3,R4,tx,hO⟩:=id hX;obtain ⟨c0,c1,f0,f1⟩:=vN R1;obtain ⟨k0,k1,k2,k3,k4,k5,p0,p1,p2,p3,p4,p5⟩:=qV R4;dsimp only at k0 k1 k2 k3 k4 k5;obtain ⟨o0,o1,o2,o3,o4,o5,q0,q1,q2,q3,q4,q5⟩:=qV R2;obtain ⟨m0,m1,v0,v1⟩:=vN R3;dsimp only at o0 o1 o2 o3 o4 o5;have HF:=Lh (qH (c:=⟨1,x.1,y.1,0,0,[]⟩) hB hr' hW R2 R3 tx hO)
 go_region_law (fail)
 all_goals go_wp2
 all_goals rw [HR3.out.1,HR3.out.2]
 all_goals exact bodyPost_ret (jg rfl _ _ (w.heap.size+1) (w.heap.size+2) 57 86 _ _ (0,0) (0,0) _ _ rfl HF.out.1 underlying57 rfl yo rfl HF.out.2.1 underlying86 rfl qr) rfl ⟨_,_,_,_,_,_,bad',rfl,hr',HF.out.2.2.1,HF.out.2.2.2.1,HF.out.2.2.2.2⟩
theorem qly (l:List ByteArray) (A:Option Addr) (n c:Nat) (w:World) (B:Nat) (hW:WdR w B l A n c) (hB:B<=w.heap.size) (hl:l.length<=1000) (ht:Tb w) (h1:qX (some l) jS=false) (h2:qX (some l) q8=true) :
  Calls prog 42 #[.agg #[.slice A n c,.bool true]] w (qle w B (scrV (some l)).1 (scrV (some l)).2):=by
 obtain ⟨R,hR⟩ : ∃ x,Hid (x=(scrV (some l))):=⟨_,Lh rfl⟩
 rw [<- hR.out];have HT:=Lh ht;have HL:Hid (LenVd (some l)):=Lh fun _ e=>by cases e;exact hl
 have hX:=TS.start hW hB;have hs1:Hid (false=qX (some l) jS):=Lh h1.symm;have hs2:Hid (true=qX (some l) q8):=Lh h2.symm;clear hW hl ht h1 h2
 go_enter func42,ntmps42
 go_upto_region 3 with fail
 refine qa (TS w B (some l) ⟨0,0,0,0,0,[]⟩ none 0) hX ?_;clear hX;intro X hX;obtain ⟨A',n',c',bad',c0,c1,HN⟩:=TS.is_ hX hB jS;rw [<- hs1.out] at HN;replace HN:=Lh HN
 go_upto_if 7 with (go_at_call 41;refine HN.out.mono ?_;rintro e w1 ⟨rfl,hY⟩)
 refine qa (TS w B (some l) ⟨0,0,0,0,0,[]⟩ none 0) hY ?_;clear hY hX HN c0 c1;intro X hX;obtain ⟨A',n',c',bad',c0,c1,HN⟩:=TS.is_ hX hB q8;rw [<- hs2.out] at HN;replace HN:=Lh HN
 go_upto_if 25 with (go_at_call 41;refine HN.out.mono ?_;rintro e w1 ⟨rfl,hY⟩)
 refine qa (TS w B (some l) ⟨0,0,0,0,0,[]⟩ none 0) hY ?_;clear hY hX HN c0 c1;intro X hX;obtain ⟨x,hx⟩ : ∃ x,Hid (x=qv (((some l).bind (skO q8)).bind (skO qI))):=⟨_,Lh rfl⟩
 obtain ⟨y,hy⟩ : ∃ y,Hid (y=qv (x.2.bind (skO bTo))):=⟨_,Lh rfl⟩
 have HR2:Hid (R=upV (x.1-1) y.1 y.2):=Lh (by rw [hR.out,hy.out,hx.out];rfl);have hxr:0<=x.1/\x.1<=999999999:=by rw [hx.out];exact qU _
 have e1:IntKind.i64.wrap (x.1-1)=x.1-1:=by rw [Lx];omega
 clear hR hs1 hs2 HL;obtain ⟨A',n',c',l',bad',hr',hW,R1,R2,R3,R4,tx,hO⟩:=id hX;obtain ⟨c0,c1,f0,f1⟩:=vN R1;obtain ⟨k0,k1,k2,k3,k4,k5,p0,p1,p2,p3,p4,p5⟩:=qV R4;dsimp only at k0 k1 k2 k3 k4 k5
 go_upto_region 10 with fail
 refine qa (TS w B (some l) ⟨2,0,0,0,0,[]⟩ none 0) (hX.set_ hB 0 2 L2) ?_;clear hX;clear c0 c1 f0 f1 k0 k1 k2 k3 k4 k5 p0 p1 p2 p3 p4 p5 hr' hW R1 R2 R3 R4 tx hO;intro X hX;obtain ⟨A',n',c',bad',c0,c1,HK⟩:=TS.sk_ hX hB q8;replace HK:=Lh HK
 go_upto_region 11 with (go_at_call 44;refine HK.out.mono ?_;rintro e w1 ⟨A1,n1,cc1,bad1,rfl,d0,d1,f0,f1,hY⟩)
 refine qa (TS w B (((some l)).bind (skO q8)) ⟨2,0,0,0,0,[]⟩ none 0) hY ?_;clear hY hX HK c0 c1 d0 d1 f0 f1;intro X hX;obtain ⟨A',n',c',bad',c0,c1,HA⟩:=TS.num_ hX hB HT.out qI 1 L2 hx;replace HA:=Lh HA
 go_upto_region 12 with (go_at_call 45;refine HA.out.mono ?_;rintro e w1 ⟨A1,n1,cc1,bad1,v1,rfl,d0,d1,f0,f1,k0,p0,hY⟩)
 refine qa (TS w B x.2 ⟨2,x.1,0,0,0,[]⟩ none 0) hY ?_;clear hY hX HA c0 c1 d0 d1 f0 f1 k0 p0;intro X hX;obtain ⟨A',n',c',l',bad',hr',hW,R1,R2,R3,R4,tx,hO⟩:=id hX;obtain ⟨c0,c1,f0,f1⟩:=vN R1;obtain ⟨k0,k1,k2,k3,k4,k5,p0,p1,p2,p3,p4,p5⟩:=qV R4;dsimp only at k0 k1 k2 k3 k4 k5
 go_upto_region 13 with fail
 refine qa (TS w B x.2 ⟨2,x.1-1,0,0,0,[]⟩ none 0) (hX.set_ hB 1 (x.1-1) L2) ?_;clear hX;clear c0 c1 f0 f1 k0 k1 k2 k3 k4 k5 p0 p1 p2 p3 p4 p5 hr' hW R1 R2 R3 R4 tx hO;intro X hX;obtain ⟨A',n',c',bad',c0,c1,HA⟩:=TS.num_ hX hB HT.out bTo 4 L2 hy;replace HA:=Lh HA
 go_upto_region 14 with (go_at_call 45;refine HA.out.mono ?_;rintro e w1 ⟨A1,n1,cc1,bad1,v1,rfl,d0,d1,f0,f1,k0,p0,hY⟩)
 refine qa (TS w B y.2 ⟨2,x.1-1,0,0,y.1,[]⟩ none 0) hY ?_;clear hY hX HA c0 c1 d0 d1 f0 f1 k0 p0;intro X hX;clear hx hy hxr e1;obtain ⟨xn,xr⟩:=x;obtain ⟨yn,yr⟩:=y;simp only at hX HR2;generalize xn-1=Row at *
 obtain ⟨s3,hs3⟩ : ∃ b,Hid (b=qX yr bUp):=⟨_,Lh rfl⟩
 obtain ⟨A',n',c',bad',c0,c1,HN⟩:=TS.is_ hX hB bUp;rw [<- hs3.out] at HN;replace HN:=Lh HN
 go_upto_if 48 with (go_at_call 41;refine HN.out.mono ?_;rintro e w1 ⟨rfl,hY⟩)
 refine qa (TS w B yr ⟨2,Row,0,0,yn,[]⟩ none 0) hY ?_;clear hY hX HN c0 c1;intro X hX
 cases s3 with
 | true =>
  obtain ⟨u,hu⟩ : ∃ u,Hid (u=qv (yr.bind (skO bUp))):=⟨_,Lh rfl⟩
  have HR3:Hid (R.1=⟨2,Row,0,u.1,yn,[]⟩/\R.2=u.2):=Lh (by rw [HR2.out,upV,<- hs3.out,hu.out];exact ⟨rfl,rfl⟩);clear HR2 hs3
  go_upto_region 15 with fail
  obtain ⟨A',n',c',bad',c0,c1,HA⟩:=TS.num_ hX hB HT.out bUp 3 L2 hu;replace HA:=Lh HA
  go_upto_region 41 with (go_at_call 45;refine HA.out.mono ?_;rintro e w1 ⟨A1,n1,cc1,bad1,v1,rfl,d0,d1,f0,f1,k0,p0,hY⟩)
  refine qa (TS w B u.2 ⟨2,Row,0,u.1,yn,[]⟩ none 0) hY ?_;clear hY hX HA c0 c1 d0 d1 f0 f1 k0 p0;intro X hX;obtain ⟨A',n',c',l',bad',hr',hW,R1,R2,R3,R4,tx,hO⟩:=id hX;obtain ⟨c0,c1,f0,f1⟩:=vN R1;obtain ⟨k0,k1,k2,k3,k4,k5,p0,p1,p2,p3,p4,p5⟩:=qV R4;dsimp only at k0 k1 k2 k3 k4 k5;obtain ⟨o0,o1,o2,o3,o4,o5,q0,q1,q2,q3,q4,q5⟩:=qV R2;obtain ⟨m0,m1,v0,v1⟩:=vN R3;dsimp only at o0 o1 o2 o3 o4 o5;have HF:=Lh (qH (c:=⟨2,Row,0,u.1,yn,[]⟩) hB hr' hW R2 R3 tx hO)
  go_region_law (fail)
  all_goals go_wp2
  all_goals rw [HR3.out.1,HR3.out.2]
  all_goals exact bodyPost_ret (jg rfl _ _ (w.heap.size+1) (w.heap.size+2) 57 86 _ _ (0,0) (0,0) _ _ rfl HF.out.1 underlying57 rfl yo rfl HF.out.2.1 underlying86 rfl qr) rfl ⟨_,_,_,_,_,_,bad',rfl,hr',HF.out.2.2.1,HF.out.2.2.2.1,HF.out.2.2.2.2⟩
 | false =>
  obtain ⟨u,hu⟩ : ∃ u,Hid (u=qv (yr.bind (skO jj))):=⟨_,Lh rfl⟩
  have HR3:Hid (R.1=⟨2,Row,0,-u.1,yn,[]⟩/\R.2=u.2):=Lh (by rw [HR2.out,upV,<- hs3.out,hu.out];exact ⟨rfl,rfl⟩);have hur:0<=u.1/\u.1<=999999999:=by rw [hu.out];exact qU _
  have e2:IntKind.i64.wrap (-u.1) = -u.1:=by rw [Lx];omega
  clear HR2 hs3
  go_upto_region 16 with fail
  obtain ⟨A',n',c',bad',c0,c1,HA⟩:=TS.num_ hX hB HT.out jj 3 L2 hu;replace HA:=Lh HA
  go_upto_region 17 with (go_at_call 45;refine HA.out.mono ?_;rintro e w1 ⟨A1,n1,cc1,bad1,v1,rfl,d0,d1,f0,f1,k0,p0,hY⟩)
  refine qa (TS w B u.2 ⟨2,Row,0,u.1,yn,[]⟩ none 0) hY ?_;clear hY hX HA c0 c1 d0 d1 f0 f1 k0 p0;intro X hX;obtain ⟨A',n',c',l',bad',hr',hW,R1,R2,R3,R4,tx,hO⟩:=id hX;obtain ⟨c0,c1,f0,f1⟩:=vN R1;obtain ⟨k0,k1,k2,k3,k4,k5,p0,p1,p2,p3,p4,p5⟩:=qV R4;dsimp only at k0 k1 k2 k3 k4 k5
  go_upto_region 41 with fail
  refine qa (TS w B u.2 ⟨2,Row,0,-u.1,yn,[]⟩ none 0) (hX.set_ hB 3 (-u.1) L2) ?_;clear hX;clear c0 c1 f0 f1 k0 k1 k2 k3 k4 k5 p0 p1 p2 p3 p4 p5 hr' hW R1 R2 R3 R4 tx hO;intro X hX;obtain ⟨A',n',c',l',bad',hr',hW,R1,R2,R3,R4,tx,hO⟩:=id hX;obtain ⟨c0,c1,f0,f1⟩:=vN R1;obtain ⟨k0,k1,k2,k3,k4,k5,p0,p1,p2,p3,p4,p5⟩:=qV R4;dsimp only at k0 k1 k2 k3 k4 k5;obtain ⟨o0,o1,o2,o3,o4,o5,q0,q1,q2,q3,q4,q5⟩:=qV R2;obtain ⟨m0,m1,v0,v1⟩:=vN R3;dsimp only at o0 o1 o2 o3 o4 o5;have HF:=Lh (qH (c:=⟨2,Row,0,-u.1,yn,[]⟩) hB hr' hW R2 R3 tx hO)
  go_region_law (fail)
  all_goals go_wp2
  all_goals rw [HR3.out.1,HR3.out.2]
  all_goals exact bodyPost_ret (jg rfl _ _ (w.heap.size+1) (w.heap.size+2) 57 86 _ _ (0,0) (0,0) _ _ rfl HF.out.1 underlying57 rfl yo rfl HF.out.2.1 underlying86 rfl qr) rfl ⟨_,_,_,_,_,_,bad',rfl,hr',HF.out.2.2.1,HF.out.2.2.2.1,HF.out.2.2.2.2⟩
theorem qlz (l:List ByteArray) (A:Option Addr) (n c:Nat) (w:World) (B:Nat) (hW:WdR w B l A n c) (hB:B<=w.heap.size) (hl:l.length<=1000) (ht:Tb w) (h1:qX (some l) jS=false) (h2:qX (some l) q8=false) (h3:qX (some l) qI=true) :
  Calls prog 42 #[.agg #[.slice A n c,.bool true]] w (qle w B (linV (some l)).1 (linV (some l)).2):=by
 obtain ⟨R,hR⟩ : ∃ x,Hid (x=(linV (some l))):=⟨_,Lh rfl⟩
 rw [<- hR.out];have HT:=Lh ht;have HL:Hid (LenVd (some l)):=Lh fun _ e=>by cases e;exact hl
 have hX:=TS.start hW hB;have hs1:Hid (false=qX (some l) jS):=Lh h1.symm;have hs2:Hid (false=qX (some l) q8):=Lh h2.symm;have hs3:Hid (true=qX (some l) qI):=Lh h3.symm;clear hW hl ht h1 h2 h3
 go_enter func42,ntmps42
 go_upto_region 3 with fail
 refine qa (TS w B (some l) ⟨0,0,0,0,0,[]⟩ none 0) hX ?_;clear hX;intro X hX;obtain ⟨A',n',c',bad',c0,c1,HN⟩:=TS.is_ hX hB jS;rw [<- hs1.out] at HN;replace HN:=Lh HN
 go_upto_if 7 with (go_at_call 41;refine HN.out.mono ?_;rintro e w1 ⟨rfl,hY⟩)
 refine qa (TS w B (some l) ⟨0,0,0,0,0,[]⟩ none 0) hY ?_;clear hY hX HN c0 c1;intro X hX;obtain ⟨A',n',c',bad',c0,c1,HN⟩:=TS.is_ hX hB q8;rw [<- hs2.out] at HN;replace HN:=Lh HN
 go_upto_if 25 with (go_at_call 41;refine HN.out.mono ?_;rintro e w1 ⟨rfl,hY⟩)
 refine qa (TS w B (some l) ⟨0,0,0,0,0,[]⟩ none 0) hY ?_;clear hY hX HN c0 c1;intro X hX;obtain ⟨A',n',c',bad',c0,c1,HN⟩:=TS.is_ hX hB qI;rw [<- hs3.out] at HN;replace HN:=Lh HN
 go_upto_if 65 with (go_at_call 41;refine HN.out.mono ?_;rintro e w1 ⟨rfl,hY⟩)
 refine qa (TS w B (some l) ⟨0,0,0,0,0,[]⟩ none 0) hY ?_;clear hY hX HN c0 c1;intro X hX;obtain ⟨x,hx⟩ : ∃ x,Hid (x=qv ((some l).bind (skO qI))):=⟨_,Lh rfl⟩
 obtain ⟨y,hy⟩ : ∃ y,Hid (y=qv (x.2.bind (skO qO))):=⟨_,Lh rfl⟩
 have HR1:Hid (R=delV (x.1-1) (y.1-1) y.2):=Lh (by rw [hR.out,hy.out,hx.out];rfl);have HLy:Hid (LenVd y.2):=Lh (by rw [hy.out];exact LenVd.num (LenVd.sk (by rw [hx.out];exact LenVd.num (LenVd.sk HL.out _)) _));have hxr:0<=x.1/\x.1<=999999999:=by rw [hx.out];exact qU _
 have hyr:0<=y.1/\y.1<=999999999:=by rw [hy.out];exact qU _
 have e1:IntKind.i64.wrap (x.1-1)=x.1-1:=by rw [Lx];omega
 have e2:IntKind.i64.wrap (y.1-1)=y.1-1:=by rw [Lx];omega
 clear hR hs1 hs2 hs3 HL;obtain ⟨A',n',c',l',bad',hr',hW,R1,R2,R3,R4,tx,hO⟩:=id hX;obtain ⟨c0,c1,f0,f1⟩:=vN R1;obtain ⟨k0,k1,k2,k3,k4,k5,p0,p1,p2,p3,p4,p5⟩:=qV R4;dsimp only at k0 k1 k2 k3 k4 k5
 go_upto_region 20 with fail
 refine qa (TS w B (some l) ⟨3,0,0,0,0,[]⟩ none 0) (hX.set_ hB 0 3 L2) ?_;clear hX;clear c0 c1 f0 f1 k0 k1 k2 k3 k4 k5 p0 p1 p2 p3 p4 p5 hr' hW R1 R2 R3 R4 tx hO;intro X hX;obtain ⟨A',n',c',bad',c0,c1,HA⟩:=TS.num_ hX hB HT.out qI 1 L2 hx;replace HA:=Lh HA
 go_upto_region 21 with (go_at_call 45;refine HA.out.mono ?_;rintro e w1 ⟨A1,n1,cc1,bad1,v1,rfl,d0,d1,f0,f1,k0,p0,hY⟩)
 refine qa (TS w B x.2 ⟨3,x.1,0,0,0,[]⟩ none 0) hY ?_;clear hY hX HA c0 c1 d0 d1 f0 f1 k0 p0;intro X hX;obtain ⟨A',n',c',bad',c0,c1,HA⟩:=TS.num_ hX hB HT.out qO 2 L2 hy;replace HA:=Lh HA
 go_upto_region 22 with (go_at_call 45;refine HA.out.mono ?_;rintro e w1 ⟨A1,n1,cc1,bad1,v1,rfl,d0,d1,f0,f1,k0,p0,hY⟩)
 refine qa (TS w B y.2 ⟨3,x.1,y.1,0,0,[]⟩ none 0) hY ?_;clear hY hX HA c0 c1 d0 d1 f0 f1 k0 p0;intro X hX;obtain ⟨A',n',c',l',bad',hr',hW,R1,R2,R3,R4,tx,hO⟩:=id hX;obtain ⟨c0,c1,f0,f1⟩:=vN R1;obtain ⟨k0,k1,k2,k3,k4,k5,p0,p1,p2,p3,p4,p5⟩:=qV R4;dsimp only at k0 k1 k2 k3 k4 k5
 go_upto_region 24 with fail
 refine qa (TS w B y.2 ⟨3,x.1-1,y.1-1,0,0,[]⟩ none 0) ((hX.set_ hB 1 (x.1-1) L2).set_ hB 2 (y.1-1) L2) ?_;clear hX;clear c0 c1 f0 f1 k0 k1 k2 k3 k4 k5 p0 p1 p2 p3 p4 p5 hr' hW R1 R2 R3 R4 tx hO;intro X hX;clear hx hy hxr hyr e1 e2;obtain ⟨xn,xr⟩:=x;obtain ⟨yn,yr⟩:=y;simp only at hX HR1 HLy;generalize xn-1=Row at *
 generalize yn-1=Col at *
 obtain ⟨s4,hs4⟩ : ∃ b,Hid (b=qX yr q9):=⟨_,Lh rfl⟩
 obtain ⟨A',n',c',bad',c0,c1,HN⟩:=TS.is_ hX hB q9;rw [<- hs4.out] at HN;replace HN:=Lh HN
 go_upto_if 90 with (go_at_call 41;refine HN.out.mono ?_;rintro e w1 ⟨rfl,hY⟩)
 refine qa (TS w B yr ⟨3,Row,Col,0,0,[]⟩ none 0) hY ?_;clear hY hX HN c0 c1;intro X hX
 cases s4 with
 | true =>
  obtain ⟨u,hu⟩ : ∃ u,Hid (u=qv (yr.bind (skO q9))):=⟨_,Lh rfl⟩
  have HR4:Hid (R=if u.1=0 then (⟨3,Row,Col,0,0,[]⟩,none) else (⟨3,Row,Col,u.1,0,(zH u.2).1⟩,(zH u.2).2)):=Lh (by rw [HR1.out,delV,<- hs4.out,hu.out];rfl);have HLz:Hid (LenVd u.2):=Lh (by rw [hu.out];exact LenVd.num (LenVd.sk HLy.out _));clear HR1 hs4 HLy
  go_upto_region 25 with fail
  obtain ⟨A',n',c',bad',c0,c1,HA⟩:=TS.num_ hX hB HT.out q9 3 L2 hu;replace HA:=Lh HA
  go_upto_region 26 with (go_at_call 45;refine HA.out.mono ?_;rintro e w1 ⟨A1,n1,cc1,bad1,v1,rfl,d0,d1,f0,f1,k0,p0,hY⟩)
  refine qa (TS w B u.2 ⟨3,Row,Col,u.1,0,[]⟩ none 0) hY ?_;clear hY hX HA c0 c1 d0 d1 f0 f1 k0 p0;intro X hX;clear hu;obtain ⟨un,ur⟩:=u;simp only at hX HR4 HLz
  by_cases h0:un=0
  ·subst h0;have HR3:Hid (R.1=⟨3,Row,Col,0,0,[]⟩/\R.2=none):=Lh (by rw [HR4.out];exact ⟨rfl,rfl⟩);clear HR4 HLz;obtain ⟨A',n',c',l',bad',hr',hW,R1,R2,R3,R4,tx,hO⟩:=id hX;obtain ⟨c0,c1,f0,f1⟩:=vN R1;obtain ⟨k0,k1,k2,k3,k4,k5,p0,p1,p2,p3,p4,p5⟩:=qV R4;dsimp only at k0 k1 k2 k3 k4 k5;obtain ⟨o0,o1,o2,o3,o4,o5,q0,q1,q2,q3,q4,q5⟩:=qV R2;obtain ⟨m0,m1,v0,v1⟩:=vN R3;dsimp only at o0 o1 o2 o3 o4 o5;go_wp2;have HF:=Lh (fint_ (c:=⟨3,Row,Col,0,0,[]⟩) (r:=none) (bad:=true) (l:=[]) (A:=none) (n:=0) (cc:=0) hB rfl (WdR.nil X B) R2 R3 tx hO);rw [HR3.out.1,HR3.out.2];exact bodyPost_ret (jg rfl _ _ (w.heap.size+1) (w.heap.size+2) 57 86 _ _ (0,0) (0,0) _ _ rfl HF.out.1 underlying57 rfl yo rfl HF.out.2.1 underlying86 rfl qr) rfl ⟨_,_,_,_,_,_,true,rfl,rfl,HF.out.2.2.1,HF.out.2.2.2.1,HF.out.2.2.2.2⟩
  ·have HR2:Hid (R=(⟨3,Row,Col,un,0,(zH ur).1⟩,(zH ur).2)):=Lh (by rw [HR4.out,if_neg h0]);have hub:(un==0)=false:=Lm.2 h0;clear HR4 h0;obtain ⟨A',n',c',l',bad',hr',hW,R1,R2,R3,R4,tx,hO⟩:=id hX;obtain ⟨c0,c1,f0,f1⟩:=vN R1;obtain ⟨k0,k1,k2,k3,k4,k5,p0,p1,p2,p3,p4,p5⟩:=qV R4;dsimp only at k0 k1 k2 k3 k4 k5
   go_upto_region 28 with fail
   refine qa (TS w B ur ⟨3,Row,Col,un,0,[]⟩ none 0) (hX) ?_;clear hX;clear c0 c1 f0 f1 k0 k1 k2 k3 k4 k5 p0 p1 p2 p3 p4 p5 hr' hW R1 R2 R3 R4 tx hO;intro X hX;clear hub;obtain ⟨b2,hb2⟩ : ∃ b,Hid (b=qX ur qK):=⟨_,Lh rfl⟩
   obtain ⟨A',n',c',bad',c0,c1,HN⟩:=TS.is_ hX hB qK;rw [<- hb2.out] at HN;replace HN:=Lh HN
   go_upto_if 103 with (go_at_call 41;refine HN.out.mono ?_;rintro e w1 ⟨rfl,hY⟩)
   refine qa (TS w B ur ⟨3,Row,Col,un,0,[]⟩ none 0) hY ?_;clear hY hX HN c0 c1;intro X hX
   cases b2 with
   | false =>
    have hg2:Hid (zH ur=([],ur)):=Lh (by show (if qX ur qK=true then _ else _)=_;rw [<- hb2.out];rfl);have HR3:Hid (R.1=⟨3,Row,Col,un,0,[]⟩/\R.2=ur):=Lh (by rw [HR2.out,hg2.out];exact ⟨rfl,rfl⟩);clear HR2 hg2 hb2 HLz;obtain ⟨A',n',c',l',bad',hr',hW,R1,R2,R3,R4,tx,hO⟩:=id hX;obtain ⟨c0,c1,f0,f1⟩:=vN R1;obtain ⟨k0,k1,k2,k3,k4,k5,p0,p1,p2,p3,p4,p5⟩:=qV R4;dsimp only at k0 k1 k2 k3 k4 k5
    go_upto_region 41 with fail
    refine qa (TS w B ur ⟨3,Row,Col,un,0,[]⟩ none 0) (hX) ?_;clear hX;clear c0 c1 f0 f1 k0 k1 k2 k3 k4 k5 p0 p1 p2 p3 p4 p5 hr' hW R1 R2 R3 R4 tx hO;intro X hX;obtain ⟨A',n',c',l',bad',hr',hW,R1,R2,R3,R4,tx,hO⟩:=id hX;obtain ⟨c0,c1,f0,f1⟩:=vN R1;obtain ⟨k0,k1,k2,k3,k4,k5,p0,p1,p2,p3,p4,p5⟩:=qV R4;dsimp only at k0 k1 k2 k3 k4 k5;obtain ⟨o0,o1,o2,o3,o4,o5,q0,q1,q2,q3,q4,q5⟩:=qV R2;obtain ⟨m0,m1,v0,v1⟩:=vN R3;dsimp only at o0 o1 o2 o3 o4 o5;have HF:=Lh (qH (c:=⟨3,Row,Col,un,0,[]⟩) hB hr' hW R2 R3 tx hO)
    go_region_law (fail)
    all_goals go_wp2
    all_goals rw [HR3.out.1,HR3.out.2]
    all_goals exact bodyPost_ret (jg rfl _ _ (w.heap.size+1) (w.heap.size+2) 57 86 _ _ (0,0) (0,0) _ _ rfl HF.out.1 underlying57 rfl yo rfl HF.out.2.1 underlying86 rfl qr) rfl ⟨_,_,_,_,_,_,bad',rfl,hr',HF.out.2.2.1,HF.out.2.2.2.1,HF.out.2.2.2.2⟩
   | true =>
    obtain ⟨u2,hu2⟩ : ∃ u,Hid (u=(ur).bind (skO qK)):=⟨_,Lh rfl⟩
    obtain ⟨g,hg⟩ : ∃ g,Hid (g=zH ur):=⟨_,Lh rfl⟩
    have hg2:Hid (g=qkY u2):=Lh (by rw [hg.out,hu2.out];show (if qX ur qK=true then _ else _)=_;rw [<- hb2.out];rfl);have HR3:Hid (R.1=⟨3,Row,Col,un,0,g.1⟩/\R.2=g.2):=Lh (by rw [HR2.out,hg.out];exact ⟨rfl,rfl⟩);have HLu : ∀ l,u2=some l->l.length<=1000:=by rw [hu2.out];exact HLz.out.sk _
    have hun:u2≠none:=by rw [hu2.out];exact qlc hb2.out.symm
    clear HR2 hg hb2 HLz
    go_upto_region 29 with fail
    obtain ⟨A',n',c',l',bad',hr',hW,R1,R2,R3,R4,tx,hO⟩:=id hX;obtain ⟨c0,c1,f0,f1⟩:=vN R1;obtain ⟨k0,k1,k2,k3,k4,k5,p0,p1,p2,p3,p4,p5⟩:=qV R4;dsimp only at k0 k1 k2 k3 k4 k5;have HK:=Lh (j6 ur _ qK B X ⟨A',n',c',l',bad',rfl,hW,hr'⟩ (Lj hB tx.size));rw [<- hu2.out] at HK;have HTx:Hid (∀ (v':Value) (w':World),TV w' B u2 v'->Below w.heap.size w w'->Calls prog 77 #[v'] w' (TxEnd w' B (u2.bind qae))):=Lh fun v' w' hv hb=>ttext_ u2 v' B w' hv (Lj hB hb.size) HLu hun (HT.out.below hb)
    clear HLu hu2 hun
    go_upto_region 41 with (first
     | (go_at_call 44;refine HK.out.mono ?_;rintro e w1 ⟨A1,n1,cc1,l1,bad1,rfl,hW1,hr1,hb1⟩;have tx1:=tx.trans (hb1.mono (by have:=hX.size;omega)))
     | (go_at_call 77;refine (HTx.out _ _ ⟨A1,n1,cc1,l1,bad1,rfl,hW1,hr1⟩ tx1).mono ?_;rintro e w2 ⟨A2,G,c2,A3,n3,c3,l3,bad3,rfl,ho2,hW3,hr3,hb3,hG⟩;have hb4:=hb1.trans (hb3.mono hb1.size);have hY:=hX.below hB hb4;clear c0 c1 f0 f1 k0 k1 k2 k3 k4 k5 p0 p1 p2 p3 p4 p5 hr' hW R1 R2 R3 R4 tx hO;(obtain ⟨A',n',c',l',bad',hr',hW,R1,R2,R3,R4,tx,hO⟩:=id hY;obtain ⟨c0,c1,f0,f1⟩:=vN R1;obtain ⟨k0,k1,k2,k3,k4,k5,p0,p1,p2,p3,p4,p5⟩:=qV R4;dsimp only at k0 k1 k2 k3 k4 k5)))
    have hgg:g=(G,(u2.bind qae).map (·.2)):=by
     rw [hg2.out,qkY,<- hG]
     cases u2.bind qae <;> rfl
    have hz1:=hX.size;have hz2:=hb1.size;refine qa (TS w B g.2 ⟨3,Row,Col,un,0,g.1⟩ A2 c2) (by rw [hgg];exact (hY.glyphs hB (qt ho2 L0)).turn hB (hW3.below ((Le B w2).setCell (p:=⟨w.heap.size+3,5,none⟩) L7 (.slice A2 G.length c2))) hr3) ?_;clear hY hX hW1 hr1 hb1 ho2 hW3 hr3 hb3 hG hgg HTx HK hg2 tx1 hb4 hz1 hz2;clear c0 c1 f0 f1 k0 k1 k2 k3 k4 k5 p0 p1 p2 p3 p4 p5 hr' hW R1 R2 R3 R4 tx hO;intro X hX;obtain ⟨G1,gr⟩:=g;obtain ⟨A',n',c',l',bad',hr',hW,R1,R2,R3,R4,tx,hO⟩:=id hX;obtain ⟨c0,c1,f0,f1⟩:=vN R1;obtain ⟨k0,k1,k2,k3,k4,k5,p0,p1,p2,p3,p4,p5⟩:=qV R4;dsimp only at k0 k1 k2 k3 k4 k5;obtain ⟨o0,o1,o2,o3,o4,o5,q0,q1,q2,q3,q4,q5⟩:=qV R2;obtain ⟨m0,m1,v0,v1⟩:=vN R3;dsimp only at o0 o1 o2 o3 o4 o5;have HF:=Lh (qH (c:=⟨3,Row,Col,un,0,G1⟩) hB hr' hW R2 R3 tx hO)
    go_region_law (fail)
    all_goals go_wp2
    all_goals rw [HR3.out.1,HR3.out.2]
    all_goals exact bodyPost_ret (jg rfl _ _ (w.heap.size+1) (w.heap.size+2) 57 86 _ _ (0,0) (0,0) _ _ rfl HF.out.1 underlying57 rfl yo rfl HF.out.2.1 underlying86 rfl qr) rfl ⟨_,_,_,_,_,_,bad',rfl,hr',HF.out.2.2.1,HF.out.2.2.2.1,HF.out.2.2.2.2⟩
 | false =>
  have HR2:Hid (R=(⟨3,Row,Col,0,0,(zH yr).1⟩,(zH yr).2)):=Lh (by rw [HR1.out,delV,<- hs4.out];rfl);have HLz:=HLy;clear HR1 hs4 HLy;obtain ⟨A',n',c',l',bad',hr',hW,R1,R2,R3,R4,tx,hO⟩:=id hX;obtain ⟨c0,c1,f0,f1⟩:=vN R1;obtain ⟨k0,k1,k2,k3,k4,k5,p0,p1,p2,p3,p4,p5⟩:=qV R4;dsimp only at k0 k1 k2 k3 k4 k5
  go_upto_region 28 with fail
  refine qa (TS w B yr ⟨3,Row,Col,0,0,[]⟩ none 0) (hX) ?_;clear hX;clear c0 c1 f0 f1 k0 k1 k2 k3 k4 k5 p0 p1 p2 p3 p4 p5 hr' hW R1 R2 R3 R4 tx hO;intro X hX;obtain ⟨b2,hb2⟩ : ∃ b,Hid (b=qX yr qK):=⟨_,Lh rfl⟩
  obtain ⟨A',n',c',bad',c0,c1,HN⟩:=TS.is_ hX hB qK;rw [<- hb2.out] at HN;replace HN:=Lh HN
  go_upto_if 103 with (go_at_call 41;refine HN.out.mono ?_;rintro e w1 ⟨rfl,hY⟩)
  refine qa (TS w B yr ⟨3,Row,Col,0,0,[]⟩ none 0) hY ?_;clear hY hX HN c0 c1;intro X hX
  cases b2 with
  | false =>
   have hg2:Hid (zH yr=([],yr)):=Lh (by show (if qX yr qK=true then _ else _)=_;rw [<- hb2.out];rfl);have HR3:Hid (R.1=⟨3,Row,Col,0,0,[]⟩/\R.2=yr):=Lh (by rw [HR2.out,hg2.out];exact ⟨rfl,rfl⟩);clear HR2 hg2 hb2 HLz;obtain ⟨A',n',c',l',bad',hr',hW,R1,R2,R3,R4,tx,hO⟩:=id hX;obtain ⟨c0,c1,f0,f1⟩:=vN R1;obtain ⟨k0,k1,k2,k3,k4,k5,p0,p1,p2,p3,p4,p5⟩:=qV R4;dsimp only at k0 k1 k2 k3 k4 k5
   go_upto_region 41 with fail
   refine qa (TS w B yr ⟨3,Row,Col,0,0,[]⟩ none 0) (hX) ?_;clear hX;clear c0 c1 f0 f1 k0 k1 k2 k3 k4 k5 p0 p1 p2 p3 p4 p5 hr' hW R1 R2 R3 R4 tx hO;intro X hX;obtain ⟨A',n',c',l',bad',hr',hW,R1,R2,R3,R4,tx,hO⟩:=id hX;obtain ⟨c0,c1,f0,f1⟩:=vN R1;obtain ⟨k0,k1,k2,k3,k4,k5,p0,p1,p2,p3,p4,p5⟩:=qV R4;dsimp only at k0 k1 k2 k3 k4 k5;obtain ⟨o0,o1,o2,o3,o4,o5,q0,q1,q2,q3,q4,q5⟩:=qV R2;obtain ⟨m0,m1,v0,v1⟩:=vN R3;dsimp only at o0 o1 o2 o3 o4 o5;have HF:=Lh (qH (c:=⟨3,Row,Col,0,0,[]⟩) hB hr' hW R2 R3 tx hO)
   go_region_law (fail)
   all_goals go_wp2
   all_goals rw [HR3.out.1,HR3.out.2]
   all_goals exact bodyPost_ret (jg rfl _ _ (w.heap.size+1) (w.heap.size+2) 57 86 _ _ (0,0) (0,0) _ _ rfl HF.out.1 underlying57 rfl yo rfl HF.out.2.1 underlying86 rfl qr) rfl ⟨_,_,_,_,_,_,bad',rfl,hr',HF.out.2.2.1,HF.out.2.2.2.1,HF.out.2.2.2.2⟩
  | true =>
   obtain ⟨u2,hu2⟩ : ∃ u,Hid (u=(yr).bind (skO qK)):=⟨_,Lh rfl⟩
   obtain ⟨g,hg⟩ : ∃ g,Hid (g=zH yr):=⟨_,Lh rfl⟩
   have hg2:Hid (g=qkY u2):=Lh (by rw [hg.out,hu2.out];show (if qX yr qK=true then _ else _)=_;rw [<- hb2.out];rfl);have HR3:Hid (R.1=⟨3,Row,Col,0,0,g.1⟩/\R.2=g.2):=Lh (by rw [HR2.out,hg.out];exact ⟨rfl,rfl⟩);have HLu : ∀ l,u2=some l->l.length<=1000:=by rw [hu2.out];exact HLz.out.sk _
   have hun:u2≠none:=by rw [hu2.out];exact qlc hb2.out.symm
   clear HR2 hg hb2 HLz
   go_upto_region 29 with fail
   obtain ⟨A',n',c',l',bad',hr',hW,R1,R2,R3,R4,tx,hO⟩:=id hX;obtain ⟨c0,c1,f0,f1⟩:=vN R1;obtain ⟨k0,k1,k2,k3,k4,k5,p0,p1,p2,p3,p4,p5⟩:=qV R4;dsimp only at k0 k1 k2 k3 k4 k5;have HK:=Lh (j6 yr _ qK B X ⟨A',n',c',l',bad',rfl,hW,hr'⟩ (Lj hB tx.size));rw [<- hu2.out] at HK;have HTx:Hid (∀ (v':Value) (w':World),TV w' B u2 v'->Below w.heap.size w w'->Calls prog 77 #[v'] w' (TxEnd w' B (u2.bind qae))):=Lh fun v' w' hv hb=>ttext_ u2 v' B w' hv (Lj hB hb.size) HLu hun (HT.out.below hb)
   clear HLu hu2 hun
   go_upto_region 41 with (first
    | (go_at_call 44;refine HK.out.mono ?_;rintro e w1 ⟨A1,n1,cc1,l1,bad1,rfl,hW1,hr1,hb1⟩;have tx1:=tx.trans (hb1.mono (by have:=hX.size;omega)))
    | (go_at_call 77;refine (HTx.out _ _ ⟨A1,n1,cc1,l1,bad1,rfl,hW1,hr1⟩ tx1).mono ?_;rintro e w2 ⟨A2,G,c2,A3,n3,c3,l3,bad3,rfl,ho2,hW3,hr3,hb3,hG⟩;have hb4:=hb1.trans (hb3.mono hb1.size);have hY:=hX.below hB hb4;clear c0 c1 f0 f1 k0 k1 k2 k3 k4 k5 p0 p1 p2 p3 p4 p5 hr' hW R1 R2 R3 R4 tx hO;(obtain ⟨A',n',c',l',bad',hr',hW,R1,R2,R3,R4,tx,hO⟩:=id hY;obtain ⟨c0,c1,f0,f1⟩:=vN R1;obtain ⟨k0,k1,k2,k3,k4,k5,p0,p1,p2,p3,p4,p5⟩:=qV R4;dsimp only at k0 k1 k2 k3 k4 k5)))
   have hgg:g=(G,(u2.bind qae).map (·.2)):=by
    rw [hg2.out,qkY,<- hG]
    cases u2.bind qae <;> rfl
   have hz1:=hX.size;have hz2:=hb1.size;refine qa (TS w B g.2 ⟨3,Row,Col,0,0,g.1⟩ A2 c2) (by rw [hgg];exact (hY.glyphs hB (qt ho2 L0)).turn hB (hW3.below ((Le B w2).setCell (p:=⟨w.heap.size+3,5,none⟩) L7 (.slice A2 G.length c2))) hr3) ?_;clear hY hX hW1 hr1 hb1 ho2 hW3 hr3 hb3 hG hgg HTx HK hg2 tx1 hb4 hz1 hz2;clear c0 c1 f0 f1 k0 k1 k2 k3 k4 k5 p0 p1 p2 p3 p4 p5 hr' hW R1 R2 R3 R4 tx hO;intro X hX;obtain ⟨G1,gr⟩:=g;obtain ⟨A',n',c',l',bad',hr',hW,R1,R2,R3,R4,tx,hO⟩:=id hX;obtain ⟨c0,c1,f0,f1⟩:=vN R1;obtain ⟨k0,k1,k2,k3,k4,k5,p0,p1,p2,p3,p4,p5⟩:=qV R4;dsimp only at k0 k1 k2 k3 k4 k5;obtain ⟨o0,o1,o2,o3,o4,o5,q0,q1,q2,q3,q4,q5⟩:=qV R2;obtain ⟨m0,m1,v0,v1⟩:=vN R3;dsimp only at o0 o1 o2 o3 o4 o5;have HF:=Lh (qH (c:=⟨3,Row,Col,0,0,G1⟩) hB hr' hW R2 R3 tx hO)
   go_region_law (fail)
   all_goals go_wp2
   all_goals rw [HR3.out.1,HR3.out.2]
   all_goals exact bodyPost_ret (jg rfl _ _ (w.heap.size+1) (w.heap.size+2) 57 86 _ _ (0,0) (0,0) _ _ rfl HF.out.1 underlying57 rfl yo rfl HF.out.2.1 underlying86 rfl qr) rfl ⟨_,_,_,_,_,_,bad',rfl,hr',HF.out.2.2.1,HF.out.2.2.2.1,HF.out.2.2.2.2⟩
theorem qlt (l:List ByteArray) (A:Option Addr) (n c:Nat) (w:World) (B:Nat) (hW:WdR w B l A n c) (hB:B<=w.heap.size) (hl:l.length<=1000) (ht:Tb w) (h1:qX (some l) jS=false) (h2:qX (some l) q8=false) (h3:qX (some l) qI=false) (h4:qX (some l) q7=true) :
  Calls prog 42 #[.agg #[.slice A n c,.bool true]] w (qle w B (curV (some l)).1 (curV (some l)).2):=by
 obtain ⟨R,hR⟩ : ∃ x,Hid (x=(curV (some l))):=⟨_,Lh rfl⟩
 rw [<- hR.out];have HT:=Lh ht;have HL:Hid (LenVd (some l)):=Lh fun _ e=>by cases e;exact hl
 have hX:=TS.start hW hB;have hs1:Hid (false=qX (some l) jS):=Lh h1.symm;have hs2:Hid (false=qX (some l) q8):=Lh h2.symm;have hs3:Hid (false=qX (some l) qI):=Lh h3.symm;have hs4:Hid (true=qX (some l) q7):=Lh h4.symm;clear hW hl ht h1 h2 h3 h4
 go_enter func42,ntmps42
 go_upto_region 3 with fail
 refine qa (TS w B (some l) ⟨0,0,0,0,0,[]⟩ none 0) hX ?_;clear hX;intro X hX;obtain ⟨A',n',c',bad',c0,c1,HN⟩:=TS.is_ hX hB jS;rw [<- hs1.out] at HN;replace HN:=Lh HN
 go_upto_if 7 with (go_at_call 41;refine HN.out.mono ?_;rintro e w1 ⟨rfl,hY⟩)
 refine qa (TS w B (some l) ⟨0,0,0,0,0,[]⟩ none 0) hY ?_;clear hY hX HN c0 c1;intro X hX;obtain ⟨A',n',c',bad',c0,c1,HN⟩:=TS.is_ hX hB q8;rw [<- hs2.out] at HN;replace HN:=Lh HN
 go_upto_if 25 with (go_at_call 41;refine HN.out.mono ?_;rintro e w1 ⟨rfl,hY⟩)
 refine qa (TS w B (some l) ⟨0,0,0,0,0,[]⟩ none 0) hY ?_;clear hY hX HN c0 c1;intro X hX;obtain ⟨A',n',c',bad',c0,c1,HN⟩:=TS.is_ hX hB qI;rw [<- hs3.out] at HN;replace HN:=Lh HN
 go_upto_if 65 with (go_at_call 41;refine HN.out.mono ?_;rintro e w1 ⟨rfl,hY⟩)
 refine qa (TS w B (some l) ⟨0,0,0,0,0,[]⟩ none 0) hY ?_;clear hY hX HN c0 c1;intro X hX;obtain ⟨A',n',c',bad',c0,c1,HN⟩:=TS.is_ hX hB q7;rw [<- hs4.out] at HN;replace HN:=Lh HN
 go_upto_if 111 with (go_at_call 41;refine HN.out.mono ?_;rintro e w1 ⟨rfl,hY⟩)
 refine qa (TS w B (some l) ⟨0,0,0,0,0,[]⟩ none 0) hY ?_;clear hY hX HN c0 c1;intro X hX;obtain ⟨x,hx⟩ : ∃ x,Hid (x=qv (((some l).bind (skO q7)).bind (skO qI))):=⟨_,Lh rfl⟩
 obtain ⟨y,hy⟩ : ∃ y,Hid (y=qv (x.2.bind (skO qO))):=⟨_,Lh rfl⟩
 have HR2:Hid (R=visV (x.1-1) (y.1-1) y.2):=Lh (by rw [hR.out,hy.out,hx.out];rfl);have hxr:0<=x.1/\x.1<=999999999:=by rw [hx.out];exact qU _
 have hyr:0<=y.1/\y.1<=999999999:=by rw [hy.out];exact qU _
 have e1:IntKind.i64.wrap (x.1-1)=x.1-1:=by rw [Lx];omega
 have e2:IntKind.i64.wrap (y.1-1)=y.1-1:=by rw [Lx];omega
 clear hR hs1 hs2 hs3 hs4 HL;obtain ⟨A',n',c',l',bad',hr',hW,R1,R2,R3,R4,tx,hO⟩:=id hX;obtain ⟨c0,c1,f0,f1⟩:=vN R1;obtain ⟨k0,k1,k2,k3,k4,k5,p0,p1,p2,p3,p4,p5⟩:=qV R4;dsimp only at k0 k1 k2 k3 k4 k5
 go_upto_region 32 with fail
 refine qa (TS w B (some l) ⟨4,0,0,0,0,[]⟩ none 0) (hX.set_ hB 0 4 L2) ?_;clear hX;clear c0 c1 f0 f1 k0 k1 k2 k3 k4 k5 p0 p1 p2 p3 p4 p5 hr' hW R1 R2 R3 R4 tx hO;intro X hX;obtain ⟨A',n',c',bad',c0,c1,HK⟩:=TS.sk_ hX hB q7;replace HK:=Lh HK
 go_upto_region 33 with (go_at_call 44;refine HK.out.mono ?_;rintro e w1 ⟨A1,n1,cc1,bad1,rfl,d0,d1,f0,f1,hY⟩)
 refine qa (TS w B (((some l)).bind (skO q7)) ⟨4,0,0,0,0,[]⟩ none 0) hY ?_;clear hY hX HK c0 c1 d0 d1 f0 f1;intro X hX;obtain ⟨A',n',c',bad',c0,c1,HA⟩:=TS.num_ hX hB HT.out qI 1 L2 hx;replace HA:=Lh HA
 go_upto_region 34 with (go_at_call 45;refine HA.out.mono ?_;rintro e w1 ⟨A1,n1,cc1,bad1,v1,rfl,d0,d1,f0,f1,k0,p0,hY⟩)
 refine qa (TS w B x.2 ⟨4,x.1,0,0,0,[]⟩ none 0) hY ?_;clear hY hX HA c0 c1 d0 d1 f0 f1 k0 p0;intro X hX;obtain ⟨A',n',c',bad',c0,c1,HA⟩:=TS.num_ hX hB HT.out qO 2 L2 hy;replace HA:=Lh HA
 go_upto_region 35 with (go_at_call 45;refine HA.out.mono ?_;rintro e w1 ⟨A1,n1,cc1,bad1,v1,rfl,d0,d1,f0,f1,k0,p0,hY⟩)
 refine qa (TS w B y.2 ⟨4,x.1,y.1,0,0,[]⟩ none 0) hY ?_;clear hY hX HA c0 c1 d0 d1 f0 f1 k0 p0;intro X hX;obtain ⟨A',n',c',l',bad',hr',hW,R1,R2,R3,R4,tx,hO⟩:=id hX;obtain ⟨c0,c1,f0,f1⟩:=vN R1;obtain ⟨k0,k1,k2,k3,k4,k5,p0,p1,p2,p3,p4,p5⟩:=qV R4;dsimp only at k0 k1 k2 k3 k4 k5
 go_upto_region 37 with fail
 refine qa (TS w B y.2 ⟨4,x.1-1,y.1-1,0,0,[]⟩ none 0) ((hX.set_ hB 1 (x.1-1) L2).set_ hB 2 (y.1-1) L2) ?_;clear hX;clear c0 c1 f0 f1 k0 k1 k2 k3 k4 k5 p0 p1 p2 p3 p4 p5 hr' hW R1 R2 R3 R4 tx hO;intro X hX;clear hx hy hxr hyr e1 e2;obtain ⟨xn,xr⟩:=x;obtain ⟨yn,yr⟩:=y;simp only at hX HR2;generalize xn-1=Row at *
 generalize yn-1=Col at *
 obtain ⟨s5,hs5⟩ : ∃ b,Hid (b=qX yr ze):=⟨_,Lh rfl⟩
 obtain ⟨A',n',c',bad',c0,c1,HN⟩:=TS.is_ hX hB ze;rw [<- hs5.out] at HN;replace HN:=Lh HN
 go_upto_if 138 with (go_at_call 41;refine HN.out.mono ?_;rintro e w1 ⟨rfl,hY⟩)
 refine qa (TS w B yr ⟨4,Row,Col,0,0,[]⟩ none 0) hY ?_;clear hY hX HN c0 c1;intro X hX
 cases s5 with
 | true =>
  have HR3:Hid (R.1=⟨4,Row,Col,1,0,[]⟩/\R.2=yr.bind (skO ze)):=Lh (by rw [HR2.out,visV,<- hs5.out];exact ⟨rfl,rfl⟩);clear HR2 hs5;obtain ⟨A',n',c',l',bad',hr',hW,R1,R2,R3,R4,tx,hO⟩:=id hX;obtain ⟨c0,c1,f0,f1⟩:=vN R1;obtain ⟨k0,k1,k2,k3,k4,k5,p0,p1,p2,p3,p4,p5⟩:=qV R4;dsimp only at k0 k1 k2 k3 k4 k5
  go_upto_region 39 with fail
  refine qa (TS w B yr ⟨4,Row,Col,1,0,[]⟩ none 0) (hX.set_ hB 3 1 L2) ?_;clear hX;clear c0 c1 f0 f1 k0 k1 k2 k3 k4 k5 p0 p1 p2 p3 p4 p5 hr' hW R1 R2 R3 R4 tx hO;intro X hX;obtain ⟨A',n',c',bad',c0,c1,HK⟩:=TS.sk_ hX hB ze;replace HK:=Lh HK
  go_upto_region 41 with (go_at_call 44;refine HK.out.mono ?_;rintro e w1 ⟨A1,n1,cc1,bad1,rfl,d0,d1,f0,f1,hY⟩)
  refine qa (TS w B ((yr).bind (skO ze)) ⟨4,Row,Col,1,0,[]⟩ none 0) hY ?_;clear hY hX HK c0 c1 d0 d1 f0 f1;intro X hX;obtain ⟨A',n',c',l',bad',hr',hW,R1,R2,R3,R4,tx,hO⟩:=id hX;obtain ⟨c0,c1,f0,f1⟩:=vN R1;obtain ⟨k0,k1,k2,k3,k4,k5,p0,p1,p2,p3,p4,p5⟩:=qV R4;dsimp only at k0 k1 k2 k3 k4 k5;obtain ⟨o0,o1,o2,o3,o4,o5,q0,q1,q2,q3,q4,q5⟩:=qV R2;obtain ⟨m0,m1,v0,v1⟩:=vN R3;dsimp only at o0 o1 o2 o3 o4 o5;have HF:=Lh (qH (c:=⟨4,Row,Col,1,0,[]⟩) hB hr' hW R2 R3 tx hO)
  go_region_law (fail)
  all_goals go_wp2
  all_goals rw [HR3.out.1,HR3.out.2]
  all_goals exact bodyPost_ret (jg rfl _ _ (w.heap.size+1) (w.heap.size+2) 57 86 _ _ (0,0) (0,0) _ _ rfl HF.out.1 underlying57 rfl yo rfl HF.out.2.1 underlying86 rfl qr) rfl ⟨_,_,_,_,_,_,bad',rfl,hr',HF.out.2.2.1,HF.out.2.2.2.1,HF.out.2.2.2.2⟩
 | false =>
  have HR3:Hid (R.1=⟨4,Row,Col,0,0,[]⟩/\R.2=yr.bind (skO zK)):=Lh (by rw [HR2.out,visV,<- hs5.out];exact ⟨rfl,rfl⟩);clear HR2 hs5
  go_upto_region 40 with fail
  obtain ⟨A',n',c',bad',c0,c1,HK⟩:=TS.sk_ hX hB zK;replace HK:=Lh HK
  go_upto_region 41 with (go_at_call 44;refine HK.out.mono ?_;rintro e w1 ⟨A1,n1,cc1,bad1,rfl,d0,d1,f0,f1,hY⟩)
  refine qa (TS w B ((yr).bind (skO zK)) ⟨4,Row,Col,0,0,[]⟩ none 0) hY ?_;clear hY hX HK c0 c1 d0 d1 f0 f1;intro X hX;obtain ⟨A',n',c',l',bad',hr',hW,R1,R2,R3,R4,tx,hO⟩:=id hX;obtain ⟨c0,c1,f0,f1⟩:=vN R1;obtain ⟨k0,k1,k2,k3,k4,k5,p0,p1,p2,p3,p4,p5⟩:=qV R4;dsimp only at k0 k1 k2 k3 k4 k5;obtain ⟨o0,o1,o2,o3,o4,o5,q0,q1,q2,q3,q4,q5⟩:=qV R2;obtain ⟨m0,m1,v0,v1⟩:=vN R3;dsimp only at o0 o1 o2 o3 o4 o5;have HF:=Lh (qH (c:=⟨4,Row,Col,0,0,[]⟩) hB hr' hW R2 R3 tx hO)
  go_region_law (fail)
  all_goals go_wp2
  all_goals rw [HR3.out.1,HR3.out.2]
  all_goals exact bodyPost_ret (jg rfl _ _ (w.heap.size+1) (w.heap.size+2) 57 86 _ _ (0,0) (0,0) _ _ rfl HF.out.1 underlying57 rfl yo rfl HF.out.2.1 underlying86 rfl qr) rfl ⟨_,_,_,_,_,_,bad',rfl,hr',HF.out.2.2.1,HF.out.2.2.2.1,HF.out.2.2.2.2⟩
theorem qlB (l:List ByteArray) (A:Option Addr) (n c:Nat) (w:World) (B:Nat) (hW:WdR w B l A n c) (hB:B<=w.heap.size) (hl:l.length<=1000) (ht:Tb w) (h1:qX (some l) jS=false) (h2:qX (some l) q8=false) (h3:qX (some l) qI=false) (h4:qX (some l) q7=false) :
  Calls prog 42 #[.agg #[.slice A n c,.bool true]] w (qle w B ((⟨0,0,0,0,0,[]⟩,none):Chg × Option (List ByteArray)).1 ((⟨0,0,0,0,0,[]⟩,none):Chg × Option (List ByteArray)).2):=by
 obtain ⟨R,hR⟩ : ∃ x,Hid (x=((⟨0,0,0,0,0,[]⟩,none):Chg × Option (List ByteArray))):=⟨_,Lh rfl⟩
 rw [<- hR.out];have HT:=Lh ht;have HL:Hid (LenVd (some l)):=Lh fun _ e=>by cases e;exact hl
 have hX:=TS.start hW hB;have hs1:Hid (false=qX (some l) jS):=Lh h1.symm;have hs2:Hid (false=qX (some l) q8):=Lh h2.symm;have hs3:Hid (false=qX (some l) qI):=Lh h3.symm;have hs4:Hid (false=qX (some l) q7):=Lh h4.symm;clear hW hl ht h1 h2 h3 h4
 go_enter func42,ntmps42
 go_upto_region 3 with fail
 refine qa (TS w B (some l) ⟨0,0,0,0,0,[]⟩ none 0) hX ?_;clear hX;intro X hX;obtain ⟨A',n',c',bad',c0,c1,HN⟩:=TS.is_ hX hB jS;rw [<- hs1.out] at HN;replace HN:=Lh HN
 go_upto_if 7 with (go_at_call 41;refine HN.out.mono ?_;rintro e w1 ⟨rfl,hY⟩)
 refine qa (TS w B (some l) ⟨0,0,0,0,0,[]⟩ none 0) hY ?_;clear hY hX HN c0 c1;intro X hX;obtain ⟨A',n',c',bad',c0,c1,HN⟩:=TS.is_ hX hB q8;rw [<- hs2.out] at HN;replace HN:=Lh HN
 go_upto_if 25 with (go_at_call 41;refine HN.out.mono ?_;rintro e w1 ⟨rfl,hY⟩)
 refine qa (TS w B (some l) ⟨0,0,0,0,0,[]⟩ none 0) hY ?_;clear hY hX HN c0 c1;intro X hX;obtain ⟨A',n',c',bad',c0,c1,HN⟩:=TS.is_ hX hB qI;rw [<- hs3.out] at HN;replace HN:=Lh HN
 go_upto_if 65 with (go_at_call 41;refine HN.out.mono ?_;rintro e w1 ⟨rfl,hY⟩)
 refine qa (TS w B (some l) ⟨0,0,0,0,0,[]⟩ none 0) hY ?_;clear hY hX HN c0 c1;intro X hX;obtain ⟨A',n',c',bad',c0,c1,HN⟩:=TS.is_ hX hB q7;rw [<- hs4.out] at HN;replace HN:=Lh HN
 go_upto_if 111 with (go_at_call 41;refine HN.out.mono ?_;rintro e w1 ⟨rfl,hY⟩)
 refine qa (TS w B (some l) ⟨0,0,0,0,0,[]⟩ none 0) hY ?_;clear hY hX HN c0 c1;intro X hX;have HR3:Hid (R.1=⟨0,0,0,0,0,[]⟩/\R.2=none):=Lh (by rw [hR.out];exact ⟨rfl,rfl⟩);clear hR hs1 hs2 hs3 hs4 HL;obtain ⟨A',n',c',l',bad',hr',hW,R1,R2,R3,R4,tx,hO⟩:=id hX;obtain ⟨c0,c1,f0,f1⟩:=vN R1;obtain ⟨k0,k1,k2,k3,k4,k5,p0,p1,p2,p3,p4,p5⟩:=qV R4;dsimp only at k0 k1 k2 k3 k4 k5
 go_upto_region 41 with fail
 refine qa (TS w B none ⟨0,0,0,0,0,[]⟩ none 0) (hX.turn hB (A:=none) (n:=0) (cc:=0) (l:=[]) (bad:=true) (WdR.nil X B) rfl) ?_;clear hX;clear c0 c1 f0 f1 k0 k1 k2 k3 k4 k5 p0 p1 p2 p3 p4 p5 hr' hW R1 R2 R3 R4 tx hO;intro X hX;obtain ⟨A',n',c',l',bad',hr',hW,R1,R2,R3,R4,tx,hO⟩:=id hX;obtain ⟨c0,c1,f0,f1⟩:=vN R1;obtain ⟨k0,k1,k2,k3,k4,k5,p0,p1,p2,p3,p4,p5⟩:=qV R4;dsimp only at k0 k1 k2 k3 k4 k5;obtain ⟨o0,o1,o2,o3,o4,o5,q0,q1,q2,q3,q4,q5⟩:=qV R2;obtain ⟨m0,m1,v0,v1⟩:=vN R3;dsimp only at o0 o1 o2 o3 o4 o5;have HF:=Lh (qH (c:=⟨0,0,0,0,0,[]⟩) hB hr' hW R2 R3 tx hO)
 go_region_law (fail)
 all_goals go_wp2
 all_goals rw [HR3.out.1,HR3.out.2]
 all_goals exact bodyPost_ret (jg rfl _ _ (w.heap.size+1) (w.heap.size+2) 57 86 _ _ (0,0) (0,0) _ _ rfl HF.out.1 underlying57 rfl yo rfl HF.out.2.1 underlying86 rfl qr) rfl ⟨_,_,_,_,_,_,bad',rfl,hr',HF.out.2.2.1,HF.out.2.2.2.1,HF.out.2.2.2.2⟩
theorem tchange_ (l:List ByteArray) (A:Option Addr) (n c:Nat) (w:World) (B:Nat) (hW:WdR w B l A n c) (hB:B<=w.heap.size) (hl:l.length<=1000) (ht:Tb w) :
  Calls prog 42 #[.agg #[.slice A n c,.bool true]] w (qle w B (zU (some l)).1 (zU (some l)).2):=by
 unfold zU
 cases h1:qX (some l) jS with
 | true=>exact qlw l A n c w B hW hB hl ht h1
 | false =>
  cases h2:qX (some l) q8 with
  | true=>exact qly l A n c w B hW hB hl ht h1 h2
  | false =>
   cases h3:qX (some l) qI with
   | true=>exact qlz l A n c w B hW hB hl ht h1 h2 h3
   | false =>
    cases h4:qX (some l) q7 with
    | true=>exact qlt l A n c w B hW hB hl ht h1 h2 h3 h4
    | false=>exact qlB l A n c w B hW hB hl ht h1 h2 h3 h4
end Go.Proofs.YtbogmeeijdaijaaGreatDoor
