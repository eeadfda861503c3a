/- Joined: Sig2, Num1, Num2, Num3, Num4, Mp, Num5, Eq. -/
import Derived.Deep.WholeRow
import Derived.Maps.Own
import Derived.Maps.OwnOps
import Derived.Maps.OwnSet
import Derived.Maps.Views
import Derived.Test.YtbogmeeijdaijaaGreatDoorZAA
set_option linter.unusedVariables false
set_option linter.unusedSimpArgs false
set_option linter.unnecessarySimpa false
set_option maxHeartbeats 4000000
namespace Go.Proofs.YtbogmeeijdaijaaGreatDoor
open Go.Proofs.Tryz Go.RowKit
set_option maxRecDepth 20000
def sIdx (r:Nat):Option Nat :=
 if 33<=r/\r<=47 then some (r-33) else if 58<=r/\r<=64 then some (r-43) else if 91<=r/\r<=96 then some (r-69) else if 123<=r/\r<=126 then some (r-95) else none
def yq (i:Nat):Nat:=if i<15 then 33+i else if i<22 then 43+i else if i<28 then 69+i else 95+i
theorem qjv (i:Nat) (h:i<32):sIdx (yq i)=some i:=by
 have : ∀ i:Fin 32,sIdx (yq i.val)=some i.val:=by decide +kernel
 exact this ⟨i,h⟩
theorem qjb {r i:Nat} (h:sIdx r=some i):i<32/\r=yq i/\33<=r/\r<=126:=by
 unfold sIdx at h;unfold yq
 repeat' split at h
 all_goals first | (injection h with h;subst h;repeat' split) | cases h
 all_goals omega
def jM (r:Int):Option Nat:=if 0<=r then sIdx r.toNat else none
theorem jz {r:Int} {i:Nat} (h:jM r=some i):i<32/\r=(yq i:Int)/\33<=r/\r<=126:=by
 unfold jM at h
 split at h
 ·obtain ⟨a,b,c,d⟩:=qjb h
  omega
 ·cases h
def idxV (r:Int):Int:=match jM r with
 | some i=>i
 | none => -1
theorem qj8 : ∀ r:Fin 94,Lib.indexByte signsB.data.toList (33+r.val).toUInt8=idxV (((33+r.val:Nat)):Int):=by decide +kernel
theorem nb_ne (i j:Nat) (h:i<32) (k:j<32) (hne:i≠j):nb i≠nb j:=by
 have : ∀ i j:Fin 32,i≠j->nb i.val≠nb j.val:=by decide +kernel
 exact this ⟨i,h⟩ ⟨j,k⟩ (by intro e;injection e with e;exact hne e)
theorem index (r:Int) (w:World):Calls prog 204 #[.int .i32 r] w (qh (.int .i64 (idxV r)) w):=by
 by_cases h1:r<33
 ·have hv:idxV r = -1:=by
   unfold idxV jM sIdx
   split
   ·rename_i i h
    split at h
    ·repeat' split at h
     all_goals first | omega | cases h
    ·cases h
   ·rfl
  rw [hv]
  go_enter func204,ntmps204
  go_wp2;go_ret;exact ⟨rfl,Le _ _⟩
 by_cases h2:126<r
 ·have hv:idxV r = -1:=by
   unfold idxV jM sIdx
   split
   ·rename_i i h
    split at h
    ·repeat' split at h
     all_goals first | omega | cases h
    ·cases h
   ·rfl
  rw [hv]
  go_enter func204,ntmps204
  go_wp2;go_ret;exact ⟨rfl,Le _ _⟩
 ·obtain ⟨k,hk⟩ : ∃ k:Nat,r=((33+k:Nat):Int):=⟨(r-33).toNat,by omega⟩
  have hk94:k<94:=by omega
  have HI:Hid (∀ w,Calls prog 211 #[.string signsB,.int .u8 r] w fun e w'=>e = .returned (.int .i64 (idxV r))/\w'=w):=Lh fun w=>by
   have:=Tryz.strings_IndexByte signsB r w;have ht:=qj8 ⟨k,hk94⟩;simp only at ht;rw [show r.toNat=33+k from by omega,ht,<- hk] at this;exact this
  clear hk;generalize idxV r=v at *
  go_enter func204,ntmps204
  go_wp2_with (go_at_call 211;refine (HI.out _).mono ?_;rintro e w1 ⟨rfl,rfl⟩)
  go_ret;exact ⟨rfl,Le _ _⟩
theorem qee {P:Program} {w:World} {t e:TypeId} {n:Nat} {cs:Array Value} {k:IntKind} {i:Int} {v:Value} (hu:P.underlying t=some (.array n e))
  (hs : ∀ w,(sizeOf e).run P w = .ok 1 w) (ha : ∀ w,(isAgg e).run P w = .ok false w) (h0:0<=i) (h1:i<n) (hv:cs[i.toNat]? = some v) :
  (Instr.index t (.agg cs) (.int k i)).run P w = .ok v w:=by
 simp [Instr.index,run_underlying hu,asIntOf,h0,h1,go_sem,hs,ha,part,hv]
theorem qgP (i:Nat) (h:i<32) (w:World):(Instr.index 215 (.agg nmA) (.int .i64 i)).run prog w = .ok (.string (nb i)) w :=
 qee underlying215 Tryz.sizeOf9 Tryz.isAgg9 L0 L0 (by simp [nmA,nmL,h])
theorem qgF (i:Nat) (h:i<32) (w:World):(Instr.index 9 (.string signsB) (.int .i64 i)).run prog w = .ok (.int .u8 (yq i)) w:=by
 have : ∀ i:Fin 32,∀ h:i.val<signsB.size,(signsB[i.val]'h).toNat=yq i.val:=by decide +kernel
 have h2:signsB.size=32:=by decide +kernel
 have h3:=this ⟨i,h⟩ (by simp [h2,h]);simp only at h3;rw [<- h3]
 simp [Instr.index,run_underlying underlying9,asIntOf,h2,h,go_sem]
theorem qg7:signsB.size=32:=by decide +kernel
theorem qhX : ∀ i:Fin 32,∀ h:i.val<signsB.size,(signsB[i.val]'h).toNat=yq i.val:=by decide +kernel
theorem sChar_le : ∀ i:Fin 32,yq i.val<=126:=by decide +kernel
theorem qiU (i:Nat) (hi:i<32) (w:World) (hs:Sp w):Calls prog 202 #[.string (nb i)] w (qh (.tuple #[.int .i32 (yq i),.bool true]) w):=by
 have hc0:=sChar_le ⟨i,hi⟩;simp only at hc0;have hc:(yq i:Int)<=126:=by omega
 clear hc0;have HX:=Lh (qgF i hi);have HN:Hid (∀ j,j<32->((nb j).toList==(nb i).toList)=decide (j=i)):=Lh fun j hj=>by
  rw [jO]
  by_cases e:j=i
  ·rw [e];simp
  ·simp [e,nb_ne j i hj hi e]
 have HI:=Lh qgP;have HS:=Lh hs;clear hs;generalize nb i=s at *
 go_enter func202,ntmps202
 go_wp2_with (go_at_call 174;refine (split _ HS.out).mono ?_;rintro e w1 ⟨rfl,hbel1⟩)
 go_loop [7] (fun x=>∃ k:Nat,k<=i/\x = .int .i64 k) (fun x=>32-(intOf x).toNat)
 case atStart=>exact ⟨0,by omega,rfl⟩
 case round =>
  obtain ⟨k,hk,rfl⟩:=hrel;have hk32:k<32:=by omega
  have hx:=HI.out k hk32 w1;have hb:=HN.out k hk32
  by_cases e:k=i
  ·have hd:((nb k).toList==s.toList)=true:=by rw [hb];simp [e]
   subst e;have hx2:=HX.out w1;clear hb;generalize nb k=u at *
   go_wp2;go_ret2;have hg:wrap32 ((signsB[k]'(by rw [qg7];exact hk32)).toNat:Int)=(yq k:Int):=by
    rw [qhX ⟨k,hk32⟩]
    show wrap32 ((yq k:Nat):Int)=_
    exact IntWalk.wrap32_in _ ⟨by omega,by omega⟩
   exact ⟨congrArg (fun z=>Ending.returned (.tuple #[.int .i32 z,.bool true])) hg,hbel1⟩
  ·have hd:((nb k).toList==s.toList)=false:=by rw [hb];simp [e]
   clear hb;generalize nb k=u at *
   go_wp2;exact ⟨⟨k+1,by omega,by go_num⟩,by simp [intOf];omega⟩
theorem qjY (s:ByteArray) (hn : ∀ i,i<32->nb i≠s) (w:World) (hs:Sp w):Calls prog 202 #[.string s] w (qh (.tuple #[.int .i32 0,.bool false]) w):=by
 have HN:Hid (∀ j,j<32->((nb j).toList==s.toList)=false):=Lh fun j hj=>by
  rw [jO]
  simp [hn j hj]
 have HI:=Lh qgP;have HS:=Lh hs;clear hs hn
 go_enter func202,ntmps202
 go_wp2_with (go_at_call 174;refine (split _ HS.out).mono ?_;rintro e w1 ⟨rfl,hbel1⟩)
 go_loop [7] (fun x=>∃ k:Nat,k<=32/\x = .int .i64 k) (fun x=>32-(intOf x).toNat)
 case atStart=>exact ⟨0,by omega,rfl⟩
 case round =>
  obtain ⟨k,hk,rfl⟩:=hrel
  by_cases hk32:k<32
  ·have hx:=HI.out k hk32 w1;have hd:=HN.out k hk32;generalize nb k=u at *
   go_wp2;exact ⟨⟨k+1,by omega,by go_num⟩,by simp [intOf];omega⟩
  ·go_wp2;go_ret2;exact ⟨rfl,hbel1⟩
set_option maxRecDepth 100000 in
theorem names (w:World) (hs:Sp w):Calls prog 160 #[] w fun e w'=>∃ A c,e = .returned (.slice A 32 c)/\Rd w' w'.heap.size 1 A 32 nmL/\Below w.heap.size w w':=by
 have HS:=Lh hs;clear hs
 go_enter func160,ntmps160
 go_wp2_with (first
  | (go_at_call 174;refine (split _ HS.out).mono ?_;rintro e w1 ⟨rfl,hbel1⟩)
  | (refine wpList_store_row rfl 215 _ _ rfl w1.heap.size nmA rfl rfl 215 _ (by exact heap_alloc_new w1 _) qc6 (by rfl) qij ?_))
 go_ret;refine ⟨_,_,rfl,?_,?_⟩
 ·rw [World.setRow_alloc_new];refine (qe rfl nmL_len).more ?_;rw [Li];exact Ld _
 ·rw [World.setRow_alloc_new];exact hbel1.alloc hbel1.size _
def ks (n:Int):Prop:=0<=n/\n<=55295∨57344<=n/\n<=1114111
theorem char_t (n:Int) (h:ks n) (w:World):Calls prog 203 #[.int .i64 n] w (qh (.bool true) w):=by
 unfold ks at h
 by_cases h1:0<=n/\n<=55295
 ·obtain ⟨a,b⟩:=h1;clear h
  go_enter func203,ntmps203
  go_wp2;go_ret;exact ⟨rfl,Le _ _⟩
 ·have a:57344<=n:=by omega
  have b:n<=1114111:=by omega
  have c : ¬ n<=55295:=by omega
  clear h h1
  go_enter func203,ntmps203
  go_wp2;go_ret;exact ⟨rfl,Le _ _⟩
theorem char_f (n:Int) (h : ¬ ks n) (w:World):Calls prog 203 #[.int .i64 n] w (qh (.bool false) w):=by
 unfold ks at h
 by_cases h1:n<0
 ·clear h
  go_enter func203,ntmps203
  go_wp2
  all_goals
   go_ret;exact ⟨by simp <;> omega,Le _ _⟩
 ·by_cases h2:n<57344
  ·have a:55295<n:=by omega
   clear h
   go_enter func203,ntmps203
   go_wp2
   all_goals
    go_ret;exact ⟨by simp <;> omega,Le _ _⟩
  ·have a:1114111<n:=by omega
   clear h
   go_enter func203,ntmps203
   go_wp2
   all_goals
    go_ret;exact ⟨by simp <;> omega,Le _ _⟩
def wb:Nat->ByteArray
 | 0=>⟨#[122,101,114,111]⟩ | 1=>⟨#[111,110,101]⟩ | 2=>⟨#[116,119,111]⟩ | 3=>⟨#[116,104,114,101,101]⟩ | 4=>⟨#[102,111,117,114]⟩ | 5=>⟨#[102,105,118,101]⟩
 | 6=>⟨#[115,105,120]⟩ | 7=>⟨#[115,101,118,101,110]⟩ | 8=>⟨#[101,105,103,104,116]⟩ | 9=>⟨#[110,105,110,101]⟩ | 10=>⟨#[116,101,110]⟩ | 11=>⟨#[101,108,101,118,101,110]⟩
 | 12=>⟨#[116,119,101,108,118,101]⟩ | 13=>⟨#[116,104,105,114,116,101,101,110]⟩ | 14=>⟨#[102,111,117,114,116,101,101,110]⟩ | 15=>⟨#[102,105,102,116,101,101,110]⟩
 | 16=>⟨#[115,105,120,116,101,101,110]⟩ | 17=>⟨#[115,101,118,101,110,116,101,101,110]⟩ | 18=>⟨#[101,105,103,104,116,101,101,110]⟩ | 19=>⟨#[110,105,110,101,116,101,101,110]⟩
 | 20=>⟨#[116,119,101,110,116,121]⟩ | 21=>⟨#[116,104,105,114,116,121]⟩ | 22=>⟨#[102,111,114,116,121]⟩ | 23=>⟨#[102,105,102,116,121]⟩ | 24=>⟨#[115,105,120,116,121]⟩
 | 25=>⟨#[115,101,118,101,110,116,121]⟩ | 26=>⟨#[101,105,103,104,116,121]⟩ | 27=>⟨#[110,105,110,101,116,121]⟩ | 28=>⟨#[104,117,110,100,114,101,100]⟩
 | 29=>⟨#[116,104,111,117,115,97,110,100]⟩ | 30=>⟨#[109,105,108,108,105,111,110]⟩ | _=>⟨#[109,105,110,117,115]⟩
def wv (l:List Nat):List Value:=l.map fun i=>.string (wb i)
def qb6:Array Value:=((List.range 32).map fun i=>Value.string (wb i)).toArray
theorem qjo:qb6 = #[Value.string (wb 0),.string (wb 1),.string (wb 2),.string (wb 3),.string (wb 4),.string (wb 5),.string (wb 6),.string (wb 7),.string (wb 8),.string (wb 9),.string (wb 10),.string (wb 11),.string (wb 12),.string (wb 13),.string (wb 14),.string (wb 15),.string (wb 16),.string (wb 17),.string (wb 18),.string (wb 19),.string (wb 20),.string (wb 21),.string (wb 22),.string (wb 23),.string (wb 24),.string (wb 25),.string (wb 26),.string (wb 27),.string (wb 28),.string (wb 29),.string (wb 30),.string (wb 31)]:=rfl
theorem wv_one (l:List Nat):(wv l).all Value.oneCell'=true:=by
 rw [List.all_eq_true];intro u hu
 simp [wv] at hu
 obtain ⟨i,_,rfl⟩:=hu
 rfl
theorem qj2 (l k:List Nat):wv (l++k)=wv l++wv k:=by simp [wv]
theorem voc (w:World):Calls prog 166 #[] w fun e w'=>e = .returned (.slice (some ⟨w.heap.size,0,none⟩) 32 32)/\w.alloc (.cells qb6 9)=w':=by
 rw [qjo]
 go_enter func166,ntmps166
 go_wp2;go_ret;exact ⟨rfl,rfl⟩
theorem qb2 (w:World) (i:Nat) (h:i<32):(w.alloc (.cells qb6 9)).cell? ⟨w.heap.size,i,none⟩=some (.string (wb i)):=by
 rw [qu]
 simp [qb6,h]
def yQ (m:Nat):List Nat:=(if 100<=m then [m / 100,28] else [])
def yz (m:Nat):List Nat:=(if 20<=m then [18+m / 10] else [])
def kO (m:Nat):List Nat:=(if 0<m then [m] else [])
def zj (m:Nat):List Nat :=
 let k:=if 100<=m then m % 100 else m
 yQ m++yz k++kO (if 20<=k then k % 10 else k)
theorem kJ (m:Nat):(zj m).length<=4:=by
 unfold zj yQ yz kO;simp only [Lf]
 repeat' split
 all_goals simp
theorem small (m:Nat) (hm:m<1000) (w:World) :
  Calls prog 168 #[.int .i64 m] w (ql 9 1 id w (zj m).length (wv (zj m))):=by
 go_enter func168,ntmps168
 go_upto_if 7 with (go_at_call 166;refine (voc _).mono ?_;rintro e w' ⟨rfl,rfl⟩)
 go_cut [0,4] (fun s0 s4 wx=>s0 = .int .i64 ((if 100<=m then m % 100 else m:Nat):Int)/\Ow wx (w.heap.size+1) 9 1 s4 (yQ m).length (wv (yQ m))/\Below (w.heap.size+1) (w.alloc (.cells qb6 9)) wx)
 case first =>
  have h1:=qb2 w (m/100) L0
  by_cases c:100<=m
  ·go_wp2_with (at_builtin;refine qg rfl _ _ _ rfl qp (w.heap.size+1) _ rfl (zY _ _ _ _) _ _ rfl ((qe L1 rfl)) ?_;intro A1 c1 w1 hown1 hbel1 hgr1 hat1;have z1:=hbel1.size;(try simp only [Li] at z1);(try simp only [Lo,Lg] at hown1))
   go_meet;exact ⟨by simp [c],⟨A1,c1,by simp [yQ,c],by simpa [yQ,c,wv,wb] using hown1⟩,(Below.alloc (Le _ _) L1 _).trans hbel1⟩
  ·go_wp2_with fail
   go_meet;exact ⟨by simp [c],⟨none,0,by simp [yQ,c],by simpa [yQ,c,wv,wb] using zY _ _ _ _⟩,Le _ _⟩
 case rest =>
  obtain ⟨wa,rfl⟩ : ∃ x:World,x=wc:=⟨_,rfl⟩
  obtain ⟨rfl,⟨A,c,rfl,hown⟩,hbel⟩:=hcut;have hk:(if 100<=m then m % 100 else m)<100:=by split <;> omega
  have HL:Hid (zj m=yQ m++yz (if 100<=m then m % 100 else m)++kO (if 20<=(if 100<=m then m % 100 else m) then (if 100<=m then m % 100 else m) % 10 else (if 100<=m then m % 100 else m))):=Lh rfl;have hR2:(yQ m).length<=2:=by unfold yQ;split <;> simp
  generalize (if 100<=m then m % 100 else m)=k at hk HL ⊢;generalize yQ m=R at hR2 hown HL ⊢;have hz:=hbel.size;rw [Li] at hz;have h2:20<=k->wa.cell? ⟨w.heap.size,18+k / 10,none⟩=some (.string (wb (18+k / 10))):=fun _=>(hbel.cell (p:=⟨w.heap.size,18+k/10,none⟩) L1).trans (qb2 w (18+k/10) L0)
  go_upto_if 19 with fail
  go_cut [0,4] (fun s0 s4 wx=>s0 = .int .i64 ((if 20<=k then k % 10 else k:Nat):Int)/\Ow wx (w.heap.size+1) 9 1 s4 (R++yz k).length (wv (R++yz k))/\Below (w.heap.size+1) wa wx)
  case first =>
   by_cases c20:20<=k
   ·have h2':=h2 c20
    go_wp2_with (at_builtin;refine qg rfl _ _ _ rfl qp (w.heap.size+1) _ rfl (hown.alloc _) _ _ rfl ((qe L1 rfl)) ?_;intro A1 c1 w1 hown1 hbel1 hgr1 hat1;have z1:=hbel1.size;(try simp only [Li] at z1);(try simp only [Lo,Lg] at hown1))
    go_meet;exact ⟨by simp [c20],⟨A1,c1,by simp [yz,c20],by simpa [yz,c20,wv] using hown1⟩,((Le _ _).alloc L0 _).trans hbel1⟩
   ·go_wp2_with fail
    go_meet;exact ⟨by simp [c20],⟨A,c,by simp [yz,c20],by simpa [yz,c20,wv] using hown⟩,Le _ _⟩
  case rest =>
   obtain ⟨rfl,⟨A',c',rfl,hown'⟩,hbel'⟩:=hcut;have hk':(if 20<=k then k % 10 else k)<20:=by split <;> omega
   have hR3:(R++yz k).length<=3:=by unfold yz;split <;> simp <;> omega
   have hz':=hbel'.size;have hbx:=hbel.trans hbel';clear hown h2;generalize (if 20<=k then k % 10 else k)=j at hk' HL ⊢;generalize R++yz k=R' at hR3 hown' HL ⊢;have h3:wc.cell? ⟨w.heap.size,j,none⟩=some (.string (wb j)):=(hbx.cell (p:=⟨w.heap.size,j,none⟩) L1).trans (qb2 w j L0);have hb0:Below w.heap.size w wc:=(L5).trans (hbx.mono L0)
   by_cases c0:0<j
   ·go_wp2_with (at_builtin;refine qg rfl _ _ _ rfl qp (w.heap.size+1) _ rfl (hown'.alloc _) _ _ rfl ((qe L1 rfl)) ?_;intro A1 c1 w1 hown1 hbel1 hgr1 hat1;have z1:=hbel1.size;(try simp only [Li] at z1);(try simp only [Lo,Lg] at hown1))
    go_ret;rw [HL.out];refine ⟨A1,c1,by simp [kO,c0],qt (base:=w.heap.size+1) (by simpa [kO,c0,wv] using hown1) L0,(hb0.alloc L0 _).trans (hbel1.mono L0)⟩
   ·go_wp2_with fail
    go_ret;rw [HL.out];refine ⟨A',c',by simp [kO,c0],qt (base:=w.heap.size+1) (by simpa [kO,c0,wv] using hown') L0,hb0⟩
def qbn (k s wn:Nat) (word:List Value) (B bn bl base n:Nat) (xs:List Value) (w:World) (e:Ending) (w':World):Prop :=
 e = .returned (.tuple #[]) /\
   ∃ A' c',Blk w' bn 3 #[.int .i64 ((k % s:Nat):Int)]/\Blk w' bl 27 #[.slice A' (n+(if 0<k / s then (zj (k / s)).length+wn else 0)) c'] /\
    w'.ownsRow base 9 1 (.slice A' (n+(if 0<k / s then (zj (k / s)).length+wn else 0)) c') (n+(if 0<k / s then (zj (k / s)).length+wn else 0)) (xs++(if 0<k / s then wv (zj (k / s))++word else []))/\Below B w w'
theorem group (k s:Nat) (hs:0<s) (hn:k<s * 1000) (hk:k<1000000000) (W:Option Addr) (wn wc:Nat) (word:List Value) (B bn bl base:Nat) (A:Option Addr) (n c:Nat) (xs:List Value) (w:World)
  (hw1:word.all Value.oneCell'=true) (hdis : ∀ b o,W=some ⟨b,o,none⟩->(Value.slice A n c).ownBlock≠some b) (hwn:wn<=1) (h5:base<=w.heap.size) (hnn:n<=20)
  (hW:Rd w w.heap.size 1 W wn word) (hbn:Blk w bn 3 #[.int .i64 k]) (hbl:Blk w bl 27 #[.slice A n c]) (hne:bn≠bl) (h1:B<=bn) (h2:B<=bl) (h3:bn<base) (h4:bl<base)
  (hown:w.ownsRow base 9 1 (.slice A n c) n xs) :
  Calls prog 167 #[.int .i64 s,.slice W wn wc,.pointer (some ⟨bn,0,none⟩),.pointer (some ⟨bl,0,none⟩)] w (qbn k s wn word B bn bl base n xs w):=by
 have hq:k / s<1000:=Nat.div_lt_of_lt_mul hn;have cn:=hbn.cell 0;have cl:=hbl.cell 0;have fn:=hbn.frozen 0;have fl:=hbl.frozen 0
 simp at cn cl
 by_cases h0:0<k / s
 ·have HC : ∀ w:World,Calls prog 168 #[.int .i64 ((k:Int) / (s:Int))] w (ql 9 1 id w (zj (k / s)).length (wv (zj (k / s)))):=fun w=>by
   have:=small (k / s) hq w
   rwa [Int.natCast_ediv] at this
  have hL:=kJ (k / s)
  have HP:Hid (∀ e w',qbn k s wn word B bn bl base n xs w e w'=(e = .returned (.tuple #[])/\∃ A' c',Blk w' bn 3 #[.int .i64 ((k % s:Nat):Int)]/\Blk w' bl 27 #[.slice A' (n+((zj (k / s)).length+wn)) c'] /\
    w'.ownsRow base 9 1 (.slice A' (n+((zj (k / s)).length+wn)) c') (n+((zj (k / s)).length+wn)) (xs++(wv (zj (k / s))++word))/\Below B w w')):=Lh fun e w'=>by
   unfold qbn;rw [if_pos h0,if_pos h0]
  generalize zj (k / s)=L at *
  have HC':=Lh HC;clear HC
  go_enter func167,ntmps167
  go_wp2_with fail
  go_region_law (first
    | (go_simp;go_at_call 168;refine (HC'.out _).mono ?_;rintro e w1 ⟨A1,c1,rfl,hown1,hbel1⟩;have z1:w.heap.size<=w1.heap.size:=hbel1.size;have hW1:Rd w1 w.heap.size 1 W wn word:=Rd.below (w:=w.drew) hW hbel1;have B1:=Blk.below (w:=w.drew) hbl hbel1 hbl.lt;have b1c:=B1.cell 0;simp at b1c)
    | (refine jZ rfl _ _ _ rfl qp (base) _ rfl (hown2) _ _ rfl ((hW1.grown hgr2 z1 hdis)) (hw1) ?_;intro A3 c3 w3 hown3 hbel3 hgr3 hat3;have z3:=hbel3.size;(try simp only [Lo,Lg] at hown3);have B3:=B2.below hbel3 h4;have b3c:=B3.cell 0;have b3f:=B3.frozen 0;simp at b3c)
    | (refine jZ rfl _ _ _ rfl qp (base) _ rfl (qb (w:=w.drew) hown hbel1) _ _ rfl ((Rd.of_own hown1)) ((wv_one _)) ?_;intro A2 c2 w2 hown2 hbel2 hgr2 hat2;have z2:=hbel2.size;(try simp only [Lo,Lg] at hown2);have B2:=B1.below hbel2 h4;have b2c:=B2.cell 0;simp at b2c))
  all_goals
   have hbn3:Blk w3 bn 3 #[.int .i64 k]:=((Blk.below (w:=w.drew) hbn hbel1 hbn.lt).below (hbel2.trans hbel3) h3)
   have hbn4:=hbn3.far (p:=⟨bl,0,none⟩) hne (.slice A3 (n+L.length+wn) c3);have d1:=hbn4.cell 0;have d2:=hbn4.frozen 0
   simp at d1
   have hb0:Below B w w3:=(jI (Below.mono hbel1 (by have:=hbl.lt;show B<=w.heap.size;omega))).trans ((hbel2.trans hbel3).mono L0);go_wp2;go_end0;rw [HP.out];refine ⟨rfl,A3,c3,by simpa using hbn4.set_ 0 (.int .i64 (k % s)),by simpa [Nat.add_assoc] using (B3.set_ 0 (.slice A3 (n+L.length+wn) c3)).far (p:=⟨bn,0,none⟩) (Ne.symm hne) _,?_,(hb0.setCell h2 _).setCell h1 _⟩;have hx:=ownsRow_setCell_below (ownsRow_setCell_below hown3 (a:=⟨bl,0,none⟩) h4 (.slice A3 (n+L.length+wn) c3)) (a:=⟨bn,0,none⟩) h3 (.int .i64 (k % s))
   simpa [Nat.add_assoc] using hx
 ·have e0:k / s=0:=Nat.eq_zero_of_not_pos h0;have e1:k % s=k:=by have:=Nat.div_add_mod k s;rw [e0] at this;simpa using this
  have e0':(k:Int) / (s:Int)=0:=by rw [<- Int.natCast_ediv,e0];rfl
  have e1':(k:Int) % (s:Int)=k:=by rw [<- Int.natCast_emod,e1]
  have E1:=Lh e1';clear e1'
  go_enter func167,ntmps167
  go_wp2;go_end0;unfold qbn;rw [if_neg h0,if_neg h0,e1];exact ⟨rfl,A,c,by simpa using hbn,by simpa using hbl,by simpa using hown,Le _ _⟩
def yO (q x:Nat):List Nat:=if 0<q then zj q++[x] else []
def qak (q:Nat):List Nat:=if 0<q then zj q else []
def posL (k:Nat):List Nat:=yO (k / 1000000) 30++yO (k % 1000000 / 1000) 29++qak (k % 1000000 % 1000)
def qm (n:Int):List Nat:=if n=0 then [0] else (if n<0 then [31] else [])++posL n.natAbs
theorem qf1 (q x:Nat):((if 0<q then (zj q).length+1 else 0)=(yO q x).length)/\((if 0<q then wv (zj q)++[.string (wb x)] else [])=wv (yO q x)):=by
 unfold yO
 split <;> simp [wv]
theorem segE_two (q:Nat):((if 0<q / 1 then (zj (q / 1)).length+0 else 0)=(qak q).length)/\((if 0<q / 1 then wv (zj (q / 1))++[] else [])=wv (qak q)):=by
 unfold qak;rw [Nat.div_one]
 split <;> simp [wv]
theorem qbm (q x:Nat):(yO q x).length<=5:=by
 have:=kJ q;unfold yO
 split <;> simp <;> omega
theorem km (m:Nat):posL m=yO (m / 1000000) 30++yO (m % 1000000 / 1000) 29++qak (m % 1000000 % 1000):=rfl
theorem qeC {B:Nat} {w w1:World} {o:Obj} (h:Below B (w.alloc o) w1):w.heap.size+1<=w1.heap.size:=by
 have:=h.size
 rwa [Li] at this
abbrev yP (v:Value):Value:=.tuple #[v,.int .i64 0]
theorem qf7 (n:Int) (h:n < -999999999∨999999999<n) (w:World) :
  Calls prog 140 #[.int .i64 n] w (qh (.tuple #[.slice none 0 0,.int .i64 2]) w):=by
 rcases h with h | h
 ·go_enter func140,ntmps140
  go_wp2;go_ret2;exact ⟨rfl,L5⟩
 ·have h' : ¬ n < -999999999:=by omega
  go_enter func140,ntmps140
  go_wp2;go_ret2;exact ⟨rfl,L5⟩
theorem qg3 (w:World) :
  Calls prog 140 #[.int .i64 0] w (ql 9 1 yP w 1 (wv [0])):=by
 go_enter func140,ntmps140
 go_wp2;go_ret2;refine ⟨_,_,rfl,?_,(L5).alloc L1 _⟩;exact qx (xs:=[_]) L1 rfl L0 L0
theorem qfN (n:Int) (h0:n≠0) (h1 : -999999999<=n) (h2:n<=999999999) (w:World) :
  Calls prog 140 #[.int .i64 n] w (ql 9 1 yP w (qm n).length (wv (qm n))):=by
 have h3:(n==0)=false:=by simp [h0]
 have hN:=Lh h0;clear h0
 go_enter func140,ntmps140
 go_upto_if 16 with fail
 go_cut [] (fun wx=>∃ (A:Option Addr) (c:Nat),Blk wx w.heap.size 3 #[.int .i64 (n.natAbs:Int)]/\Blk wx (w.heap.size+1) 27 #[.slice A (if n<0 then [31] else []).length c] /\
  wx.ownsRow (w.heap.size+2) 9 1 (.slice A (if n<0 then [31] else []).length c) (if n<0 then [31] else []).length (wv (if n<0 then [31] else []))/\Below w.heap.size w wx)
 case first =>
  by_cases hn:n<0
  ·go_wp2_with fail
   go_region_law (refine jZ rfl _ _ _ rfl qp (w.heap.size+2) _ rfl (zY _ _ _ _) _ _ rfl ((qe L1 rfl)) (rfl) ?_;intro A1 c1 w1 hown1 hbel1 hgr1 hat1;have z1:=hbel1.size;(try simp only [Lo,Lg] at hown1);have B0:Blk w1 w.heap.size 3 #[.int .i64 n]:=Blk.below (by exact ((Blk.new_ rfl).alloc _).alloc _) hbel1 L0;have B1:Blk w1 (w.heap.size+1) 27 #[.slice none 0 0]:=Blk.below (by exact (Blk.new_ L1).alloc _) hbel1 L0;have d0:=B0.cell 0;have d1:=B1.cell 0;have f0:=B0.frozen 0;have f1:=B1.frozen 0;simp at d0 d1)
   all_goals
    go_wp2_with fail
    go_meet;rw [if_pos hn];have e0:((n.natAbs:Nat):Int) = -n:=by omega
    rw [e0];have hw:IntKind.i64.wrap (-n) = -n:=IntWalk.i64_in _ L0;simp only [hw];have hb0:Below w.heap.size w w1:=by
     refine Below.trans (b:=_) ?_ (hbel1.mono L0);exact ql8
    refine ⟨A1,c1,?_,?_,?_,?_⟩
    ·first
      | (simpa using (B0.far (p:=⟨w.heap.size+1,0,none⟩) L1 _).set_ 0 (.int .i64 (-n)))
      | (simpa using (B0.set_ 0 (.int .i64 (-n))).far (p:=⟨w.heap.size+1,0,none⟩) L1 _)
    ·first
      | (simpa using (B1.far (p:=⟨w.heap.size,0,none⟩) L1 _).set_ 0 (.slice A1 1 c1))
      | (simpa using (B1.set_ 0 (.slice A1 1 c1)).far (p:=⟨w.heap.size,0,none⟩) L1 _)
    ·exact ownsRow_setCell_below (ownsRow_setCell_below hown1 L1 _) L1 _
    ·exact (hb0.setCell L1 _).setCell L1 _
  ·go_wp2_with fail
   go_meet;rw [if_neg L0];have e0:((n.natAbs:Nat):Int)=n:=by omega
   rw [e0];exact ⟨none,0,(Blk.new_ rfl).alloc _,Blk.new_ L1,zY _ _ _ _,(L5).alloc L1 _⟩
 case rest =>
  obtain ⟨A,c,hB0,hB1,hown,hbel⟩:=hcut;obtain ⟨wa,rfl⟩ : ∃ x:World,x=wc:=⟨_,rfl⟩
  have hW:Hid (qm n=(if n<0 then [31] else [])++posL n.natAbs):=Lh (by unfold qm;rw [if_neg hN.out]);have hm:n.natAbs<=999999999:=by omega
  have hl:(if n<0 then [31] else []:List Nat).length<=1:=by split <;> simp
  generalize (if n<0 then [31] else []:List Nat)=l0 at *
  generalize n.natAbs=m at *
  have z0:=hB1.lt
  go_wp2_with fail
  refine (group m 1000000 L0 L0 L0 _ 1 1 [.string (wb 30)] w.heap.size _ _ (w.heap.size+2) A l0.length c (wv l0) _ rfl ?_ L0 L6 L0 (qe rfl rfl |>.more L6) (hB0.alloc _) (hB1.alloc _) L0 L0 L0 L0 L0 (hown.alloc _)).mono ?_
  ·intro b o e
   injection e with e
   injection e with e1
   subst e1;intro e2;exact absurd (hown.lt _ e2).2 L0
  rintro e w1 ⟨rfl,A1,c1,hB01,hB11,hown1,hbel1⟩;have hG1:((if 0<m / 1000000 then (zj (m / 1000000)).length+1 else 0)=(yO (m / 1000000) 30).length)/\((if 0<m / 1000000 then wv (zj (m / 1000000))++[.string (wb 30)] else [])=wv (yO (m / 1000000) 30)):=qf1 _ _;rw [hG1.1] at hB11 hown1;rw [hG1.2] at hown1;have hq1:=qbm (m / 1000000) 30;have hP:=Lh (km m);generalize yO (m / 1000000) 30=l1 at *
  clear hG1;have hm1:m % 1000000<1000000:=by omega
  generalize m % 1000000=m1 at *
  have z1:wa.heap.size+1<=w1.heap.size:=qeC hbel1;clear hown hB0 hB1
  go_wp2_with fail
  refine (group m1 1000 L0 L0 L0 _ 1 1 [.string (wb 29)] w.heap.size _ _ (w.heap.size+2) A1 (l0.length+l1.length) c1 (wv l0++wv l1) _ rfl ?_ L0 L6 L0 (qe rfl rfl |>.more L6) (hB01.alloc _) (hB11.alloc _) L0 L0 L0 L0 L0 (hown1.alloc _)).mono ?_
  ·intro b o e
   injection e with e
   injection e with e1
   subst e1;intro e2;exact absurd (hown1.lt _ e2).2 L0
  rintro e w2 ⟨rfl,A2,c2,hB02,hB12,hown2,hbel2⟩;have hG2:((if 0<m1 / 1000 then (zj (m1 / 1000)).length+1 else 0)=(yO (m1 / 1000) 29).length)/\((if 0<m1 / 1000 then wv (zj (m1 / 1000))++[.string (wb 29)] else [])=wv (yO (m1 / 1000) 29)):=qf1 _ _;rw [hG2.1] at hB12 hown2;rw [hG2.2] at hown2;have hq2:=qbm (m1 / 1000) 29;generalize yO (m1 / 1000) 29=l2 at *
  clear hG2;have hm2:m1 % 1000<1000:=by omega
  generalize m1 % 1000=m2 at *
  have z2:w1.heap.size+1<=w2.heap.size:=qeC hbel2;clear hown1 hB01 hB11
  go_wp2_with fail
  refine (group m2 1 L0 L0 L0 _ 0 0 [] w.heap.size _ _ (w.heap.size+2) A2 (l0.length+l1.length+l2.length) c2 (wv l0++wv l1++wv l2) _ rfl ?_ L0 L6 L0 Rd.none_ hB02 hB12 L0 L0 L0 L0 L0 hown2).mono ?_
  ·intro b o e
   cases e
  rintro e w3 ⟨rfl,A3,c3,hB03,hB13,hown3,hbel3⟩;have hG3:((if 0<m2 / 1 then (zj (m2 / 1)).length+0 else 0)=(qak m2).length)/\((if 0<m2 / 1 then wv (zj (m2 / 1))++[] else [])=wv (qak m2)):=segE_two _;rw [hG3.1] at hB13 hown3;rw [hG3.2] at hown3;have d3:=hB13.cell 0
  simp at d3
  go_wp2_with fail
  go_ret2;rw [hW.out,hP.out];refine ⟨A3,c3,by simp [yP,Nat.add_assoc],?_,((hbel.alloc L6 _).trans hbel1).trans ((((Le _ _).alloc L6 _).trans hbel2).trans hbel3)⟩;have:=qt (base':=w.heap.size) hown3 L0
  simpa [qj2,Nat.add_assoc] using this
theorem qgW (n:Int) (h1 : -999999999<=n) (h2:n<=999999999) (w:World) :
  Calls prog 140 #[.int .i64 n] w (ql 9 1 yP w (qm n).length (wv (qm n))):=by
 by_cases h0:n=0
 ·subst h0;exact qg3 w
 ·exact qfN n h0 h1 h2 w
theorem ke (n:Int):(qm n).length<=15:=by
 unfold qm
 split
 ·simp
 ·have a:=qbm (n.natAbs / 1000000) 30;have b:=qbm (n.natAbs % 1000000 / 1000) 29;have c:(qak (n.natAbs % 1000000 % 1000)).length<=4:=by
   unfold qak
   split
   ·exact kJ _
   ·simp
  rw [Lf,km,Lf,Lf];have d:(if n<0 then [31] else []:List Nat).length<=1:=by split <;> simp
  omega
theorem wv_sv (l:List Nat):wv l=sv (l.map wb):=by simp [wv,sv]
end Go.Proofs.YtbogmeeijdaijaaGreatDoor
namespace Go.Proofs.YtbogmeeijdaijaaGreatDoor
open Go.Proofs.Tryz Go.RowKit Go.WideMaps
section
variable {P : Program} {K E : TypeId}
def MapI (P:Program) (K E:TypeId) (w:World) (b n:Nat) (f:ByteArray->Option Int):Prop :=
 ∃ D:DataW Unit,w.ownsMap P K (plainElem P E) b n D/\Maps.IsMap D/\∀ s:ByteArray,Maps.has D (.string s.data.toList)=(f s).isSome/\∀ v,f s=some v->∀ z,D.atKey (.string s.data.toList) z = .lit (.int .i64 v)
theorem MapI.lt {w:World} {b n:Nat} {f:ByteArray->Option Int} (h:MapI P K E w b n f):b<w.heap.size:=by
 obtain ⟨D,h1,_⟩:=h;exact h1.lt
theorem MapI.keep {w w':World} {b n:Nat} {f:ByteArray->Option Int} (h:MapI P K E w b n f) (hb:w'.heap[b]? = w.heap[b]?):MapI P K E w' b n f:=by
 obtain ⟨D,⟨es,clock,h0,h1⟩,h2⟩:=h;exact ⟨D,⟨es,clock,hb.trans h0,h1⟩,h2⟩
theorem MapI.made {w:World} {b:Nat} (hb:w.heap.size=b):MapI P K E (w.alloc (.map #[] 0)) b 0 fun _=>none:=by
 subst hb;exact ⟨.map [],World.ownsMap_made _ _ _ _,Maps.isMap_empty,fun s=>⟨by simp [Maps.has],fun v h=>by cases h⟩⟩
theorem MapI.ext {w:World} {b n:Nat} {f g:ByteArray->Option Int} (h:MapI P K E w b n f) (hfg : ∀ s,f s=g s):MapI P K E w b n g:=by
 obtain rfl:f=g:=funext hfg;exact h
theorem qgL {s t:ByteArray} (h:s.data.toList=t.data.toList):s=t:=by
 cases s;cases t
 simp only at h;rw [Array.toList_inj.1 h]
theorem qeg {w:World} {ops:Array Oper} {rest:List Oper} {o:Oper} {a:Act} {Q:Exit->Act->World->Prop} (hg:o.guard=none) (m x:Operand) (t:TypeId) (hop:o.op = .lookup t m x true)
  (hK:P.underlying K=some .string) (ht:P.underlying t=some (.map K E)) (he:P.underlying E=some (.int .i64)) (hz : ∀ w:World,(zeroValue E).run P w = .ok (.int .i64 0) w)
  {b n:Nat} {f:ByteArray->Option Int} (hm:a.eval m = .map (some b)) (hown:MapI P K E w b n f) {s:ByteArray} (hx:a.eval x = .string s) (hs:s.size<=maxLen)
  (h:wpList P ops Q rest (a.put o.dst (.tuple #[.int .i64 ((f s).getD 0),.bool (f s).isSome])) w):wpList P ops Q (o::rest) a w:=by
 obtain ⟨D,h1,h2,h3⟩:=hown;refine wpList_lookup_own_ok_int w hg m x t hop K E .i64 (Maps.string_keyed hK) ht he (hz w) b n D hm h1 _ _ hx (keyOf_string_mk hK hs) fun c hc _=>?_
 rw [(h3 s).1];have e:c=(f s).getD 0:=by
  cases hf:f s with
  | some v =>
   have:=(h3 s).2 v hf (.lit (.int .i64 0));rw [this] at hc
   injection hc with hc
   injection hc with _ hc
   exact hc.symm
  | none =>
   have:=(h3 s).1;rw [hf] at this;have h4:=Maps.atKey_of_not_has this (.lit (.int .i64 0));rw [h4] at hc
   injection hc with hc
   injection hc with _ hc
   exact hc.symm
 rw [e];exact h
theorem qbH {w:World} {ops:Array Oper} {rest:List Oper} {o:Oper} {a:Act} {Q:Exit->Act->World->Prop} (hg:o.guard=none) (m x v:Operand) (t:TypeId) (hop:o.op = .mapUpdate t m x v)
  (hK:P.underlying K=some .string) (ht:P.underlying t=some (.map K E)) (he:P.underlying E=some (.int .i64))
  {b n:Nat} {f:ByteArray->Option Int} (hm:a.eval m = .map (some b)) (hown:MapI P K E w b n f) {s:ByteArray} (hx:a.eval x = .string s) (hs:s.size<=maxLen) {z:Int} (hv:a.eval v = .int .i64 z) (hw:(Lit.int .i64 z).wf=true) (hn:n<maxLen)
  (h : ∀ w',MapI P K E w' b (n+1) (fun k=>if k=s then some z else f k)->w.grownBy w' (some b)->wpList P ops Q rest (a.put o.dst undef) w'):wpList P ops Q (o::rest) a w:=by
 obtain ⟨D,h1,h2,h3⟩:=hown;refine wpList_mapUpdate_own w hg m x v t hop K E (Maps.string_keyed hK) ht _ b n D hm h1 hn _ _ _ hx hv (keyOf_string_mk hK hs) _ [] (plainElem_int he hw) fun w' h4 h5=>h w' ⟨_,h4,h2.put _ _,fun k=>?_⟩ h5
 by_cases hk:k=s
 ·subst hk;simp only [if_true];exact ⟨Maps.has_put_same h2 (by simp [WideAt.IsKeyLit]) _,fun v hv z=>by injection hv with hv;subst hv;exact Maps.atKey_put_same h2 (by simp [WideAt.IsKeyLit]) _ _⟩
 ·simp only [if_neg hk];have hne:Lit.string k.data.toList≠Lit.string s.data.toList:=by
   intro e
   injection e with e
   exact hk (qgL e)
  refine ⟨(Maps.has_put_other hne _).trans (h3 k).1,fun v hv z=>?_⟩;rw [Maps.atKey_put_other hne];exact (h3 k).2 v hv z
end
def qbt (i:Nat):Int:=if 20<i then 10 * ((i:Int)-18) else i
def qbS:Nat->ByteArray->Option Int
 | 0,_=>none
 | k+1,s=>if s=wb k then some (qbt k) else qbS k s
theorem qce (i:Nat):(wb i).size<=maxLen:=by
 unfold wb maxLen
 split <;> decide
theorem qid (w:World):(zeroValue 3).run prog w = .ok (.int .i64 0) w:=by kernel_rfl
theorem values (w:World):Calls prog 139 #[] w fun e w'=>∃ b,e = .returned (.map (some b))/\MapI prog 9 3 w' b 56 (qbS 28)/\Below w.heap.size w w'/\w.heap.size<=b:=by
 have hmm:=@run_makeMap prog
 go_enter func139,ntmps139
 go_wp2_with (first | (go_at_call 166;refine (voc _).mono ?_;rintro e w' ⟨rfl,rfl⟩))
 go_loopw [8] (fun i wr=>∃ k:Nat,k<=28/\i = .int .i64 k/\MapI prog 9 3 wr w.heap.size (2 * k) (qbS k)/\Below w.heap.size w wr/\∀ i,i<28->wr.cell? ⟨w.heap.size+1,i,none⟩=some (.string (wb i))) (fun i _=>28-(intOf i).toNat)
 case atStart =>
  refine ⟨0,by omega,rfl,(MapI.made rfl).keep ?_,(L5).alloc L1 _,fun i hi=>?_⟩
  ·exact Below.heap_alloc _ _ _ L1
  ·have:=qb2 (w.alloc (.map #[] 0)) i L0
   rwa [Li] at this
 case round =>
  obtain ⟨k,hk,rfl,hmap,hbel,hcell⟩:=hrel;have HC:=Lh hcell;clear hcell;have hz:=hmap.lt
  by_cases hlt:k<28
  ·have hc:=HC.out k hlt
   by_cases h20:20<k
   ·go_wp2_with (first | (at_mapUpdate;have tok1:=hmap;refine qbH rfl _ _ _ _ rfl underlying9 underlying186 underlying3 rfl hmap rfl (qce _) rfl (WalkArith.wf_i64 L0) (by unfold maxLen;omega) ?_;intro w1 hm1 hg1;have hz1:=hg1.size;clear hmap) | (at_mapUpdate;refine qbH rfl _ _ _ _ rfl underlying9 underlying186 underlying3 rfl hm1 rfl (qce _) rfl (WalkArith.wf_i64 L0) (by unfold maxLen;omega) ?_;intro w2 hm2 hg2;clear hm1))
    refine ⟨⟨k+1,by omega,by go_num,?_,(hbel.grown hg1 hbel.size (fun _ e=>by injection e with e;omega)).grown hg2 (Lj hbel.size hz1) (fun _ e=>by injection e with e;omega),fun i hi=>?_⟩,by simp [intOf];omega⟩
    ·refine MapI.ext (g:=qbS (k+1)) hm2 fun s=>?_
     rw [qbS];unfold qbt;rw [if_pos h20]
     by_cases hs:s=wb k
     ·simp [hs]
     ·simp [hs]
    ·exact hg2.cell (hg1.cell (HC.out i hi) L1) L1
   ·go_wp2_with (first | (at_mapUpdate;refine qbH rfl _ _ _ _ rfl underlying9 underlying186 underlying3 rfl hmap rfl (qce _) rfl (WalkArith.wf_i64 L0) (by unfold maxLen;omega) ?_;intro w1 hm1 hg1;clear hmap))
    refine ⟨⟨k+1,by omega,by go_num,?_,hbel.grown hg1 hbel.size (fun _ e=>by injection e with e;omega),fun i hi=>?_⟩,by simp [intOf];omega⟩
    ·obtain ⟨D,a,b⟩:=hm1;refine MapI.ext (g:=qbS (k+1)) ⟨D,a.mono L0,b⟩ fun s=>?_
     rw [qbS];unfold qbt;rw [if_neg h20]
    ·exact hg1.cell (HC.out i hi) L1
  ·obtain rfl:k=28:=by omega
   go_wp2;go_ret;exact ⟨_,rfl,hmap,hbel,Ld _⟩
end Go.Proofs.YtbogmeeijdaijaaGreatDoor
namespace Go.Proofs.YtbogmeeijdaijaaGreatDoor
open Go.Proofs.Tryz Go.RowKit
set_option maxRecDepth 20000
theorem qaQ (l m:List ByteArray) (h:l.length=m.length) (hk : ∀ i (h1:i<l.length) (h2:i<m.length),l[i]=m[i]):l=m:=List.ext_getElem h hk
theorem same (l m:List ByteArray) (A A':Option Addr) (c c' B:Nat) (w:World) (hl:Rd w B 1 A l.length (sv l)) (hm:Rd w B 1 A' m.length (sv m)) (hb:l.length<=140737488355328) (hb':m.length<=140737488355328) :
  Calls prog 125 #[.slice A l.length c,.slice A' m.length c'] w (Quiet (.bool (decide (l=m))) w):=by
 by_cases hlen:l.length=m.length
 ·have e1:((l.length:Int)==(m.length:Int))=true:=by simp [hlen]
  have e2:((l.length:Int) != (m.length:Int))=false:=by simp [hlen]
  have HL:=Lh hlen;clear hlen
  go_enter func125,ntmps125
  go_wp2
  go_loopw [5] (fun i wr=>∃ k j:Nat,k<=l.length/\i = .int .i64 k/\wr=w.drewN j/\∀ i (h1:i<l.length) (h2:i<m.length),i<k->l[i]=m[i]) (fun i _=>l.length-(intOf i).toNat)
  case atStart=>exact ⟨0,0,Nat.zero_le _,rfl,rfl,fun _ _ _ h=>absurd h L0⟩
  case round =>
   obtain ⟨k,j,hk,rfl,rfl,hall⟩:=hrel;have HA:=Lh hall;clear hall
   by_cases hlt:k<l.length
   ·have hkm:k<m.length:=by have:=HL.out;omega
    obtain ⟨b,o,rfl,hbB,hc⟩:=hl.at_ hlt;obtain ⟨b',o',rfl,hbB',hc'⟩:=hm.at_ hkm;rw [yM _ _ hlt] at hc;rw [yM _ _ hkm] at hc';go_wp2
    go_quiet (fail)
    go_wp2
    ·rename_i hne
     rw [jO] at hne;go_ret;refine ⟨?_,j+nq,by simp [World.drewN_drewN]⟩;have:l≠m:=by rintro rfl;simp at hne
     simp [this]
    ·rename_i hne
     rw [jO] at hne;have hek:l[k]=m[k]:=by simpa using hne
     have hA2:=HA.out;refine ⟨⟨k+1,_,by omega,by go_num,rfl,fun i h1 h2 h3=>?_⟩,by simp [intOf];omega⟩
     rcases Nat.lt_or_ge i k with h | h
     ·exact hA2 i h1 h2 h
     ·obtain rfl:i=k:=by omega
      exact hek
   ·go_wp2;go_ret;have:l=m:=qaQ l m HL.out (fun i h1 h2=>HA.out i h1 h2 L0);exact ⟨by simp [this],_,rfl⟩
 ·have e2:((l.length:Int) != (m.length:Int))=true:=by simp;omega
  go_enter func125,ntmps125
  go_wp2;go_ret;have:l≠m:=by rintro rfl;exact hlen rfl
  exact ⟨by simp [this],0,rfl⟩
theorem equal (l m:List ByteArray) (A A':Option Addr) (c c' B:Nat) (w:World) (hl:Rd w B 1 A l.length (sv l)) (hm:Rd w B 1 A' m.length (sv m)) (hb:l.length<=140737488355328) (hb':m.length<=140737488355328) :
  Calls prog 141 #[.slice A l.length c,.slice A' m.length c'] w (Quiet (.bool (decide (l=m))) w):=by
 by_cases hlen:l.length=m.length
 ·have e1:((l.length:Int)==(m.length:Int))=true:=by simp [hlen]
  have e2:((l.length:Int) != (m.length:Int))=false:=by simp [hlen]
  have HL:=Lh hlen;clear hlen
  go_enter func141,ntmps141
  go_wp2
  go_loopw [13] (fun i wr=>∃ k j:Nat,k<=l.length/\i = .int .i64 k/\wr=w.drewN j/\∀ i (h1:i<l.length) (h2:i<m.length),i<k->l[i]=m[i]) (fun i _=>l.length-(intOf i).toNat)
  case atStart=>exact ⟨0,0,Nat.zero_le _,rfl,rfl,fun _ _ _ h=>absurd h L0⟩
  case round =>
   obtain ⟨k,j,hk,rfl,rfl,hall⟩:=hrel;have HA:=Lh hall;clear hall
   by_cases hlt:k<l.length
   ·have hkm:k<m.length:=by have:=HL.out;omega
    obtain ⟨b,o,rfl,hbB,hc⟩:=hl.at_ hlt;obtain ⟨b',o',rfl,hbB',hc'⟩:=hm.at_ hkm;rw [yM _ _ hlt] at hc;rw [yM _ _ hkm] at hc';go_wp2
    go_quiet (fail)
    go_wp2
    ·rename_i hne
     rw [jO] at hne;go_ret;refine ⟨?_,j+nq,by simp [World.drewN_drewN]⟩;have:l≠m:=by rintro rfl;simp at hne
     simp [this]
    ·rename_i hne
     rw [jO] at hne;have hek:l[k]=m[k]:=by simpa using hne
     have hA2:=HA.out;refine ⟨⟨k+1,_,by omega,by go_num,rfl,fun i h1 h2 h3=>?_⟩,by simp [intOf];omega⟩
     rcases Nat.lt_or_ge i k with h | h
     ·exact hA2 i h1 h2 h
     ·obtain rfl:i=k:=by omega
      exact hek
   ·go_wp2;go_ret;have:l=m:=qaQ l m HL.out (fun i h1 h2=>HA.out i h1 h2 L0);exact ⟨by simp [this],_,rfl⟩
 ·have e2:((l.length:Int) != (m.length:Int))=true:=by simp;omega
  go_enter func141,ntmps141
  go_wp2;go_ret;have:l≠m:=by rintro rfl;exact hlen rfl
  exact ⟨by simp [this],0,rfl⟩
theorem Quiet.t {v v':Value} {w w':World} {en:Ending} (h:Quiet v w en w') (e:v=v'):Quiet v' w en w':=e ▸ h
theorem equal_t (l m:List ByteArray) (h:l=m) (A A':Option Addr) (n n' c c' B B':Nat) (w:World) (hn:l.length=n) (hn':m.length=n') (hl:Rd w B 1 A n (sv l)) (hm:Rd w B' 1 A' n' (sv m)) (hb:n<=140737488355328) (hb':n'<=140737488355328) :
  Calls prog 141 #[.slice A n c,.slice A' n' c'] w (Quiet (.bool true) w):=by
 subst hn hn';exact (equal l m A A' c c' (max B B') w (hl.more (Nat.le_max_left _ _)) (hm.more (Nat.le_max_right _ _)) hb hb').mono fun _ _ x=>x.t (by simp [h])
theorem equal_f (l m:List ByteArray) (h:l≠m) (A A':Option Addr) (n n' c c' B B':Nat) (w:World) (hn:l.length=n) (hn':m.length=n') (hl:Rd w B 1 A n (sv l)) (hm:Rd w B' 1 A' n' (sv m)) (hb:n<=140737488355328) (hb':n'<=140737488355328) :
  Calls prog 141 #[.slice A n c,.slice A' n' c'] w (Quiet (.bool false) w):=by
 subst hn hn';exact (equal l m A A' c c' (max B B') w (hl.more (Nat.le_max_left _ _)) (hm.more (Nat.le_max_right _ _)) hb hb').mono fun _ _ x=>x.t (by simp [h])
end Go.Proofs.YtbogmeeijdaijaaGreatDoor
