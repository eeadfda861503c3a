/- Joined: Ut2, Wd1, Lib, Sig1, Sig2. -/
import Derived.Lib.ValidLaws
import Derived.Shelf.Strings.Builder1
import Derived.Shelf.Strings.Builder2
import Derived.Shelf.Strings.OnBuilder
import Derived.Shelf.Small.Utf8
import Derived.Shelf.Small.Strs
import Derived.Shelf.Strings.BuilderF
import Derived.Shelf.Strings.BuilderK
import Derived.Shelf.Strings.BuilderRune
import Derived.Shelf.Utf8.AppendRunePlain
import Derived.Shelf.Strings.Search1
import Derived.Shelf.Strings.Fields
import Derived.Shelf.LaysM
import Derived.Shelf.Strings.SplitShaped
import Derived.Shelf.Unicode.Latin
import Derived.Shelf.Unicode.Decode
import Derived.Shelf.Unicode.DecodeSlow
import Derived.Shelf.Unicode.DecodeAny
import Derived.Shelf.Unicode.Is16White
import Derived.Shelf.Unicode.IsSpaceAny
import Derived.Shelf.Unicode.CaseLookup
import Derived.Shelf.Unicode.CaseConvert
import Derived.Shelf.Unicode.CaseTo
import Derived.Shelf.Unicode.CaseLaid
import Derived.Shelf.Strings.MapAny
import Derived.Shelf.Strings.CaseAny
import Derived.Shelf.Unicode.Is16Any
import Derived.Shelf.Unicode.Is32Any
import Derived.Shelf.Unicode.ExclAny
import Derived.Test.YticbpkghcglgkaaGreatDoorProg
import Derived.Laws.CopyOwn
import Derived.Laws.Tables
import Derived.Laws.ResultCell
import Derived.Lib.LaidTab
import Derived.Deep.WholeRow
import Derived.Test.YticbpkghcglgkaaGreatDoorVAA
set_option linter.unusedVariables false
set_option linter.unusedSimpArgs false
set_option linter.unnecessarySimpa false
set_option maxHeartbeats 1000000
namespace Go.Proofs.YticbpkghcglgkaaGreatDoor
def qB (s:ByteArray):List Nat:=s.data.toList.map UInt8.toNat
theorem zT (s:ByteArray):(qB s).length=s.size:=by simp [qB]
structure Gl where
 text:ByteArray
 wide:Bool
 style:Int
instance:Inhabited Gl:=⟨⟨⟨#[]⟩,false,0⟩⟩
theorem Gl.ext_iff' {a b:Gl}:a=b↔(a.text.data.toList=b.text.data.toList/\a.wide=b.wide/\a.style=b.style):=by
 constructor
 ·rintro rfl;simp
 ·rintro ⟨h1,h2,h3⟩
  obtain ⟨⟨⟨x⟩⟩,_,_⟩:=a
  obtain ⟨⟨⟨y⟩⟩,_,_⟩:=b
  simp only at h1 h2 h3
  subst h1 h2 h3
  rfl
instance:DecidableEq Gl:=fun _ _=>decidable_of_iff _ Gl.ext_iff'.symm
def vg (c:Nat):Nat:=if 97<=c/\c<=122 then 1 else if 65<=c/\c<=90 then 2 else if 48<=c/\c<=57 then 3 else 0
def qd (g:Gl):Nat:=match g.text.data.toList with
 | [c]=>vg c.toNat
 | _=>0
def yZ:List Gl->Nat->Int->Nat
 | [],_,_=>0
 | g::t,k,st=>if qd g=k/\g.style=st then yZ t k st+1 else 0
def yW:List Gl->Gl->Nat->Nat
 | _,_,0=>0
 | [],_,_+1=>0
 | x::t,g,m+1=>if x=g then yW t g m+1 else 0
def qo (l:List Gl) (rep:Int):Nat:=match l with
 | []=>0
 | g::t =>
  if qd g=1∨qd g=3 then yZ (g::t) (qd g) g.style
  else if qd g=2 then (if 1<yZ (g::t) 2 g.style then yZ (g::t) 2 g.style else 1+yZ t 1 g.style)
  else if 0<rep/\rep<=(1+yW t g 131:Nat)/\(qs (qB g.text)).length=1 then 1+yW t g 131 else 1
end Go.Proofs.YticbpkghcglgkaaGreatDoor
namespace Go.Proofs
open Go.Shelf
def Tryz.lays157_ren:Go.Shelf.Ren:=⟨fun | 157=>25 | 229=>43 | 199=>44 | 261=>70 | 311=>101 | 312=>102 | n=>n,fun | 9=>9 | 31=>27 | 3=>3 | 5=>5 | 4=>4 | 119=>87 | 0=>0 | 40=>89 | 152=>120 | 21=>21 | 154=>122 | 51=>123 | 141=>125 | 196=>148 | 193=>145 | 198=>150 | 49=>37 | 194=>146 | 201=>153 | 226=>174 | 46=>175 | 227=>176 | n=>n,fun | 0=>0 | 6=>1 | n=>n⟩
theorem Tryz.lays157:Go.Proofs.Lays.n157 Tryz.prog Tryz.lays157_ren:={
 mixed:=by kernel_rfl
 f157:=Tryz.func25.trans (congrArg some (by kernel_rfl))
 f199:=Tryz.func44.trans (congrArg some (by kernel_rfl))
 f229:=Tryz.func43.trans (congrArg some (by kernel_rfl))
 f261:=Tryz.func70.trans (congrArg some (by kernel_rfl))
 f311:=Tryz.func101.trans (congrArg some (by kernel_rfl))
 f312:=Tryz.func102.trans (congrArg some (by kernel_rfl))
 t0:=Tryz.underlying0
 a0:=Tryz.isAgg0
 z0:=Tryz.sizeOf0
 v0:=Tryz.zeroValue0
 t3:=Tryz.underlying3
 a3:=Tryz.isAgg3
 z3:=Tryz.sizeOf3
 v3:=Tryz.zeroValue3
 t4:=Tryz.underlying4
 a4:=Tryz.isAgg4
 z4:=Tryz.sizeOf4
 v4:=Tryz.zeroValue4
 t5:=Tryz.underlying5
 a5:=Tryz.isAgg5
 z5:=Tryz.sizeOf5
 v5:=Tryz.zeroValue5
 t9:=Tryz.underlying9
 a9:=Tryz.isAgg9
 z9:=Tryz.sizeOf9
 v9:=Tryz.zeroValue9
 t21:=Tryz.underlying21
 a21:=Tryz.isAgg21
 z21:=Tryz.sizeOf21
 v21:=Tryz.zeroValue21
 t31:=Tryz.underlying27
 a31:=Tryz.isAgg27
 z31:=Tryz.sizeOf27
 v31:=Tryz.zeroValue27
 t40:=Tryz.underlying89
 a40:=Tryz.isAgg89
 z40:=Tryz.sizeOf89
 v40:=Tryz.zeroValue89
 t46:=Tryz.underlying175
 a46:=Tryz.isAgg175
 z46:=Tryz.sizeOf175
 v46:=Tryz.zeroValue175
 t49:=Tryz.underlying37
 a49:=Tryz.isAgg37
 z49:=Tryz.sizeOf37
 v49:=Tryz.zeroValue37
 t51:=Tryz.underlying123
 a51:=Tryz.isAgg123
 z51:=Tryz.sizeOf123
 v51:=Tryz.zeroValue123
 t119:=Tryz.underlying87
 a119:=Tryz.isAgg87
 z119:=Tryz.sizeOf87
 t141:=Tryz.underlying125
 a141:=Tryz.isAgg125
 z141:=Tryz.sizeOf125
 v141:=Tryz.zeroValue125
 t152:=Tryz.underlying120
 a152:=Tryz.isAgg120
 z152:=Tryz.sizeOf120
 v152:=Tryz.zeroValue120
 t154:=Tryz.underlying122
 a154:=Tryz.isAgg122
 z154:=Tryz.sizeOf122
 v154:=Tryz.zeroValue122
 t193:=Tryz.underlying145
 a193:=Tryz.isAgg145
 z193:=Tryz.sizeOf145
 v193:=Tryz.zeroValue145
 t194:=Tryz.underlying146
 a194:=Tryz.isAgg146
 z194:=Tryz.sizeOf146
 v194:=Tryz.zeroValue146
 t196:=Tryz.underlying148
 a196:=Tryz.isAgg148
 z196:=Tryz.sizeOf148
 v196:=Tryz.zeroValue148
 t198:=Tryz.underlying150
 a198:=Tryz.isAgg150
 z198:=Tryz.sizeOf150
 v198:=Tryz.zeroValue150
 t201:=Tryz.underlying153
 a201:=Tryz.isAgg153
 z201:=Tryz.sizeOf153
 v201:=Tryz.zeroValue153
 t226:=Tryz.underlying174
 a226:=Tryz.isAgg174
 z226:=Tryz.sizeOf174
 v226:=Tryz.zeroValue174
 t227:=Tryz.underlying176
 a227:=Tryz.isAgg176
 z227:=Tryz.sizeOf176
 v227:=Tryz.zeroValue176
 g0:=by kernel_rfl
 g6:=by kernel_rfl }
open Go.RowKit Go.Lib in
theorem Tryz.strings_Fields (s : ByteArray) (w : World) (hs : s.size < 4294967281) (hascii : ∀ (j : Nat) b, s.data.toList[j]? = some b -> b.toNat < 128) (htab : Lib.TabIs Tryz.prog w "strings.asciiSpace" .u8 Lib.asciiSpaceTab) :
  Calls Tryz.prog 25 #[.string s] w fun e w' =>
   e = .returned (.slice (some ⟨w.heap.size,0,none⟩) (Lib.fields s.data.toList).length (Lib.fields s.data.toList).length)/\w'=w.alloc (.cells ((Lib.fields s.data.toList).map fun l=>Value.string ⟨l.toArray⟩).toArray 9):=Any.strings_Fields Tryz.lays157 (by kernel_rfl) (by kernel_rfl) s w hs hascii htab
end Go.Proofs
namespace Go.Proofs.YticbpkghcglgkaaGreatDoor
open Go.Proofs.Tryz Go.RowKit
def nb:Nat->ByteArray
 | 0=>⟨#[98,97,110,103]⟩
 | 1=>⟨#[113,117,111,116,101]⟩
 | 2=>⟨#[104,97,115,104]⟩
 | 3=>⟨#[100,111,108,108,97,114]⟩
 | 4=>⟨#[112,101,114,99,101,110,116]⟩
 | 5=>⟨#[97,109,112,101,114,115,97,110,100]⟩
 | 6=>⟨#[97,112,111,115,116,114,111,112,104,101]⟩
 | 7=>⟨#[111,112,101,110]⟩
 | 8=>⟨#[99,108,111,115,101]⟩
 | 9=>⟨#[115,116,97,114]⟩
 | 10=>⟨#[112,108,117,115]⟩
 | 11=>⟨#[99,111,109,109,97]⟩
 | 12=>⟨#[100,97,115,104]⟩
 | 13=>⟨#[100,111,116]⟩
 | 14=>⟨#[115,108,97,115,104]⟩
 | 15=>⟨#[99,111,108,111,110]⟩
 | 16=>⟨#[115,101,109,105,99,111,108,111,110]⟩
 | 17=>⟨#[108,101,115,115]⟩
 | 18=>⟨#[101,113,117,97,108,115]⟩
 | 19=>⟨#[103,114,101,97,116,101,114]⟩
 | 20=>⟨#[113,117,101,115,116,105,111,110]⟩
 | 21=>⟨#[97,116]⟩
 | 22=>⟨#[98,114,97,99,107,101,116]⟩
 | 23=>⟨#[98,97,99,107,115,108,97,115,104]⟩
 | 24=>⟨#[117,110,98,114,97,99,107,101,116]⟩
 | 25=>⟨#[99,97,114,101,116]⟩
 | 26=>⟨#[117,110,100,101,114,115,99,111,114,101]⟩
 | 27=>⟨#[98,97,99,107,113,117,111,116,101]⟩
 | 28=>⟨#[98,114,97,99,101]⟩
 | 29=>⟨#[98,97,114]⟩
 | 30=>⟨#[117,110,98,114,97,99,101]⟩
 | _=>⟨#[116,105,108,100,101]⟩
def namesB:ByteArray:=⟨#[98,97,110,103,32,113,117,111,116,101,32,104,97,115,104,32,100,111,108,108,97,114,32,112,101,114,99,101,110,116,32,97,109,112,101,114,115,97,110,100,32,97,112,111,115,116,114,111,112,104,101,32,111,112,101,110,32,99,108,111,115,101,32,115,116,97,114,32,112,108,117,115,32,99,111,109,109,97,32,100,97,115,104,32,100,111,116,32,115,108,97,115,104,32,99,111,108,111,110,32,115,101,109,105,99,111,108,111,110,32,108,101,115,115,32,101,113,117,97,108,115,32,103,114,101,97,116,101,114,32,113,117,101,115,116,105,111,110,32,97,116,32,98,114,97,99,107,101,116,32,98,97,99,107,115,108,97,115,104,32,117,110,98,114,97,99,107,101,116,32,99,97,114,101,116,32,117,110,100,101,114,115,99,111,114,101,32,98,97,99,107,113,117,111,116,101,32,98,114,97,99,101,32,98,97,114,32,117,110,98,114,97,99,101,32,116,105,108,100,101,32]⟩
def nmL:List Value:=(List.range 32).map fun i=>.string (nb i)
def nmA:Array Value:=nmL.toArray
set_option maxRecDepth 100000 in
theorem qja:Lib.fields namesB.data.toList=(List.range 32).map fun i=>(nb i).data.toList:=by decide +kernel
theorem qdF (l:List UInt8) (h:l.all (fun b=>decide (b.toNat<128))=true) : ∀ (j:Nat) b,l[j]? = some b->b.toNat<128:=by
 intro j b hb
 have:=List.all_eq_true.1 h b (List.mem_of_getElem? hb)
 simpa using this
theorem nm_all:(namesB.data.toList.all fun b=>decide (b.toNat<128))=true:=by decide +kernel
theorem nm_ascii : ∀ (j:Nat) b,namesB.data.toList[j]? = some b->b.toNat<128:=qdF _ nm_all
theorem nm_size0:namesB.size<=1000:=by decide +kernel
theorem nm_size:namesB.size<4294967281:=Nat.lt_of_le_of_lt nm_size0 (by omega)
def Sp (w : World) : Prop := Lib.TabIs prog w "strings.asciiSpace" .u8 Lib.asciiSpaceTab
theorem gSpace : prog.globalNamed "strings.asciiSpace" = some 0 := by kernel_rfl
theorem Sp.below {w w':World} {B:Nat} (h:Sp w) (hb:Below B w w') (hB:w.heap.size<=B):Sp w':=by
 have hl:0<w.heap.size:=by
  have hc:=h.cell gSpace 0 (by decide +kernel)
  rcases Nat.lt_or_ge 0 w.heap.size with hl | hl
  ·exact hl
  ·unfold World.cell? at hc
   rw [Array.getElem?_eq_none hl] at hc
   cases hc
 exact var?_below hb gSpace (by omega) h
theorem Sp.drew {w:World} (h:Sp w):Sp w.drew:=h
theorem qc6:(prog.info? 231).map (·.size)=some 32:=by kernel_rfl
theorem qij:nmA.all (·.oneCell')=true:=by
 rw [Array.all_eq_true_iff_forall_mem]
 intro v hv
 simp [nmA,nmL] at hv
 obtain ⟨i,_,rfl⟩:=hv
 rfl
theorem nmL_one : ∀ v∈nmL,v.oneCell'=true:=by
 intro v hv
 simp [nmL] at hv
 obtain ⟨i,_,rfl⟩:=hv
 rfl
theorem infoStr:(prog.info? 9).map (·.size)=some 1:=by kernel_rfl
theorem qg8 (z:List Value) (h:z.length=32):splice z 0 nmL=nmL:=by
 unfold splice
 simp [nmL,h]
theorem nm_cells {w:World} {b j:Nat} {v:Value} (hb:w.heap.size=b) (hv:nmL[j]? = some v):(w.alloc (.cells nmA 9)).cell? ((⟨b,0,none⟩:Addr).add j)=some v:=by
 subst hb
 rw [vl,Nat.zero_add,qu]
 simpa [nmA] using hv
set_option maxRecDepth 100000 in
theorem split (w:World) (hs:Sp w):Calls prog 184 #[] w (qh (.agg nmA) w):=by
 have HF:Hid (∀ w,Sp w->Calls prog 25 #[.string namesB] w fun e w'=>e = .returned (.slice (some ⟨w.heap.size,0,none⟩) 32 32)/\w'=w.alloc (.cells nmA 9)):=Lh fun w hs=>by
  have:=Tryz.strings_Fields namesB w nm_size nm_ascii hs
  rw [qja] at this
  exact this
 have HS:=Lh hs
 clear hs
 go_enter func184,ntmps184
 go_wp2_with fail
 go_region_law (first
  | (go_simp;go_at_call 25;refine (HF.out _ (HS.out.below (B:=w.heap.size) (by (repeat (first | exact Below.refl _ _ | assumption | refine Below.drew ?_ | refine Below.alloc ?_ (by first | (simp;done) | (simp;omega) | omega) _ | refine Below.setCell ?_ (by first | (simp;done) | (simp;omega) | omega) _))) (Nat.le_refl _))).mono ?_;rintro e w1 ⟨rfl,rfl⟩)
  | (refine step_copy_splice rfl _ _ 27 27 rfl 9 underlying27 infoStr (some ⟨w.heap.size+1,0,none⟩) (some ⟨w.heap.size+1+1,0,none⟩) 32 32 32 32 rfl rfl (w.heap.size+1) 0 _ 231 (by exact (Blk.new_ (by simp)).alloc _) nmL rfl (fun _=>⟨rfl,_,rfl,fun j v hv=>by exact nm_cells (by simp) hv⟩) (by simp [nmL]) nmL_one (w.heap.size+1) _ (Below.refl _ _) (Nat.le_refl _) ?_;intro w2 hcell hbel2))
 have hc1:w2.heap[w.heap.size+1]? = some (.cells nmA 231):=by
  have:=hcell.out
  rw [qg8 _ (by rfl)] at this
  exact this
 have hb2:Below w.heap.size w w2:=by
  refine Below.trans (b:=_) ?_ (hbel2.mono (by omega))
  (repeat (first | exact Below.refl _ _ | assumption | refine Below.drew ?_ | refine Below.alloc ?_ (by first | (simp;done) | (simp;omega) | omega) _ | refine Below.setCell ?_ (by first | (simp;done) | (simp;omega) | omega) _))
 have hc0:w2.heap[w.heap.size]? = some (.cells (List.replicate 32 (Value.string ⟨#[]⟩)).toArray 231):=by
  refine (hbel2.block _ (by omega)).trans ?_
  exact ((Blk.new_ rfl).alloc _).alloc _
 clear hcell
 have HC1:=Lh hc1
 have HC0:=Lh hc0
 clear hc1 hc0
 go_wp2_with (first
  | (refine wpList_load_row rfl 231 _ rfl (w.heap.size+1) rfl 231 nmA (0,0) _ HC1.out underlying231 rfl qc6 ?_)
  | (refine wpList_store_row rfl 231 _ _ rfl w.heap.size nmA rfl rfl 231 _ HC0.out qc6 rfl qij ?_))
 have hfin:(w2.setRow w.heap.size nmA).heap[w.heap.size]? = some (.cells nmA 231):=by
  simp [World.setRow,Array.getElem?_modify,HC0.out]
 refine bodyPost_ret (results_cell_row rfl _ _ w.heap.size 231 nmA (0,0) _ rfl hfin underlying231 rfl qc6) rfl ⟨rfl,below_setRow hb2 (Nat.le_refl _) _⟩
end Go.Proofs.YticbpkghcglgkaaGreatDoor
namespace Go.Proofs.YticbpkghcglgkaaGreatDoor
open Go.Proofs.Tryz Go.RowKit
set_option maxRecDepth 10000
def sIdx (r:Nat):Option Nat :=
 if 33<=r/\r<=47 then some (r-33) else if 58<=r/\r<=64 then some (r-43) else if 91<=r/\r<=96 then some (r-69) else if 123<=r/\r<=126 then some (r-95) else none
def yq (i:Nat):Nat:=if i<15 then 33+i else if i<22 then 43+i else if i<28 then 69+i else 95+i
theorem qjb {r i:Nat} (h:sIdx r=some i):i<32/\r=yq i/\33<=r/\r<=126:=by
 unfold sIdx at h
 unfold yq
 repeat' split at h
 all_goals first | (injection h with h;subst h;repeat' split) | cases h
 all_goals omega
def jM (r:Int):Option Nat:=if 0<=r then sIdx r.toNat else none
theorem jz {r:Int} {i:Nat} (h:jM r=some i):i<32/\r=(yq i:Int)/\33<=r/\r<=126:=by
 unfold jM at h
 split at h
 ·obtain ⟨a,b,c,d⟩:=qjb h
  omega
 ·cases h
def ks (n:Int):Prop:=0<=n/\n<=55295∨57344<=n/\n<=1114111
end Go.Proofs.YticbpkghcglgkaaGreatDoor
