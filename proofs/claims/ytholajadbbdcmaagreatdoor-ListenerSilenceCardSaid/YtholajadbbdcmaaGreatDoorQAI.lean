/- Joined texts: Lib2, Lt1. -/
import Derived.Lib.Explode
import Derived.Test.YtholajadbbdcmaaGreatDoorQAA
import Derived.Test.YtholajadbbdcmaaGreatDoorQAC
import Derived.Test.YtholajadbbdcmaaGreatDoorQAE
import Derived.Test.YtholajadbbdcmaaGreatDoorQAG
import Derived.Test.YtholajadbbdcmaaGreatDoorQAH
set_option linter.unusedVariables false
set_option linter.unusedSimpArgs false
set_option linter.unnecessarySimpa false
namespace Go.Proofs
open Go.Shelf
def Tryz.lays158_ren : Go.Shelf.Ren := ⟨fun | 158 => 192 | 165 => 199 | 166 => 200 | 167 => 201 | 169 => 202 | 230 => 203 | 203 => 204 | 240 => 208 | 241 => 209 | 197 => 210 | 118 => 211 | 168 => 212 | 270 => 213 | 262 => 214 | 276 => 220 | 277 => 221 | 260 => 222 | 242 => 219 | 313 => 223 | 278 => 225 | 274 => 226 | 275 => 227 | n => n, fun | 9 => 9 | 4 => 4 | 3 => 3 | 5 => 5 | 72 => 246 | 0 => 0 | 76 => 249 | 75 => 248 | 107 => 253 | 70 => 244 | 20 => 20 | 37 => 195 | 127 => 258 | 21 => 21 | 105 => 211 | 164 => 267 | 162 => 271 | 203 => 263 | 119 => 90 | 46 => 178 | 139 => 223 | 138 => 222 | 51 => 126 | 160 => 273 | 208 => 279 | 206 => 277 | 80 => 238 | n => n, fun | 13 => 7 | 3 => 4 | 4 => 5 | n => n⟩
theorem Tryz.lays158 : Go.Proofs.Lays.n158 Tryz.prog Tryz.lays158_ren := {
 mixed := by kernel_rfl
 f118 := Tryz.func211.trans (congrArg some (by kernel_rfl))
 f158 := Tryz.func192.trans (congrArg some (by kernel_rfl))
 f165 := Tryz.func199.trans (congrArg some (by kernel_rfl))
 f166 := Tryz.func200.trans (congrArg some (by kernel_rfl))
 f167 := Tryz.func201.trans (congrArg some (by kernel_rfl))
 f168 := Tryz.func212.trans (congrArg some (by kernel_rfl))
 f169 := Tryz.func202.trans (congrArg some (by kernel_rfl))
 f197 := Tryz.func210.trans (congrArg some (by kernel_rfl))
 f203 := Tryz.func204.trans (congrArg some (by kernel_rfl))
 f230 := Tryz.func203.trans (congrArg some (by kernel_rfl))
 f240 := Tryz.func208.trans (congrArg some (by kernel_rfl))
 f241 := Tryz.func209.trans (congrArg some (by kernel_rfl))
 f242 := Tryz.func219.trans (congrArg some (by kernel_rfl))
 f260 := Tryz.func222.trans (congrArg some (by kernel_rfl))
 f262 := Tryz.func214.trans (congrArg some (by kernel_rfl))
 f270 := Tryz.func213.trans (congrArg some (by kernel_rfl))
 f274 := Tryz.func226.trans (congrArg some (by kernel_rfl))
 f275 := Tryz.func227.trans (congrArg some (by kernel_rfl))
 f276 := Tryz.func220.trans (congrArg some (by kernel_rfl))
 f277 := Tryz.func221.trans (congrArg some (by kernel_rfl))
 f278 := Tryz.func225.trans (congrArg some (by kernel_rfl))
 f313 := Tryz.func223.trans (congrArg some (by kernel_rfl))
 t0 := Tryz.underlying0
 a0 := Tryz.isAgg0
 z0 := Tryz.sizeOf0
 v0 := Tryz.zeroValue0
 t3 := Tryz.underlying3
 a3 := Tryz.isAgg3
 z3 := Tryz.sizeOf3
 v3 := Tryz.zeroValue3
 t4 := Tryz.underlying4
 a4 := Tryz.isAgg4
 z4 := Tryz.sizeOf4
 v4 := Tryz.zeroValue4
 t5 := Tryz.underlying5
 a5 := Tryz.isAgg5
 z5 := Tryz.sizeOf5
 v5 := Tryz.zeroValue5
 t9 := Tryz.underlying9
 a9 := Tryz.isAgg9
 z9 := Tryz.sizeOf9
 v9 := Tryz.zeroValue9
 t20 := Tryz.underlying20
 a20 := Tryz.isAgg20
 z20 := Tryz.sizeOf20
 v20 := Tryz.zeroValue20
 t21 := Tryz.underlying21
 a21 := Tryz.isAgg21
 z21 := Tryz.sizeOf21
 v21 := Tryz.zeroValue21
 t37 := Tryz.underlying195
 a37 := Tryz.isAgg195
 z37 := Tryz.sizeOf195
 v37 := Tryz.zeroValue195
 t46 := Tryz.underlying178
 a46 := Tryz.isAgg178
 z46 := Tryz.sizeOf178
 v46 := Tryz.zeroValue178
 t51 := Tryz.underlying126
 a51 := Tryz.isAgg126
 z51 := Tryz.sizeOf126
 v51 := Tryz.zeroValue126
 t70 := Tryz.underlying244
 a70 := Tryz.isAgg244
 z70 := Tryz.sizeOf244
 v70 := Tryz.zeroValue244
 t72 := Tryz.underlying246
 a72 := Tryz.isAgg246
 z72 := Tryz.sizeOf246
 v72 := Tryz.zeroValue246
 t75 := Tryz.underlying248
 a75 := Tryz.isAgg248
 z75 := Tryz.sizeOf248
 v75 := Tryz.zeroValue248
 t76 := Tryz.underlying249
 a76 := Tryz.isAgg249
 z76 := Tryz.sizeOf249
 v76 := Tryz.zeroValue249
 t105 := Tryz.underlying211
 a105 := Tryz.isAgg211
 z105 := Tryz.sizeOf211
 v105 := Tryz.zeroValue211
 t107 := Tryz.underlying253
 a107 := Tryz.isAgg253
 z107 := Tryz.sizeOf253
 v107 := Tryz.zeroValue253
 t119 := Tryz.underlying90
 a119 := Tryz.isAgg90
 z119 := Tryz.sizeOf90
 t127 := Tryz.underlying258
 a127 := Tryz.isAgg258
 z127 := Tryz.sizeOf258
 v127 := Tryz.zeroValue258
 t138 := Tryz.underlying222
 a138 := Tryz.isAgg222
 z138 := Tryz.sizeOf222
 v138 := Tryz.zeroValue222
 t139 := Tryz.underlying223
 a139 := Tryz.isAgg223
 z139 := Tryz.sizeOf223
 v139 := Tryz.zeroValue223
 t160 := Tryz.underlying273
 a160 := Tryz.isAgg273
 z160 := Tryz.sizeOf273
 v160 := Tryz.zeroValue273
 t162 := Tryz.underlying271
 a162 := Tryz.isAgg271
 z162 := Tryz.sizeOf271
 v162 := Tryz.zeroValue271
 t164 := Tryz.underlying267
 a164 := Tryz.isAgg267
 z164 := Tryz.sizeOf267
 v164 := Tryz.zeroValue267
 t203 := Tryz.underlying263
 a203 := Tryz.isAgg263
 z203 := Tryz.sizeOf263
 v203 := Tryz.zeroValue263
 t206 := Tryz.underlying277
 a206 := Tryz.isAgg277
 z206 := Tryz.sizeOf277
 v206 := Tryz.zeroValue277
 t208 := Tryz.underlying279
 a208 := Tryz.isAgg279
 z208 := Tryz.sizeOf279
 v208 := Tryz.zeroValue279
 g3 := by kernel_rfl
 g4 := by kernel_rfl
 g13 := by kernel_rfl }
def Tryz.lays242_ren : Go.Shelf.Ren := ⟨fun | 242 => 219 | 278 => 225 | n => n, fun | 37 => 195 | 21 => 21 | 51 => 126 | 4 => 4 | 5 => 5 | 46 => 178 | n => n, fun | n => n⟩
theorem Tryz.lays242 : Go.Proofs.Lays.n242 Tryz.prog Tryz.lays242_ren := {
 mixed := by kernel_rfl
 f242 := Tryz.func219.trans (congrArg some (by kernel_rfl))
 f278 := Tryz.func225.trans (congrArg some (by kernel_rfl))
 t4 := Tryz.underlying4
 a4 := Tryz.isAgg4
 z4 := Tryz.sizeOf4
 v4 := Tryz.zeroValue4
 t5 := Tryz.underlying5
 a5 := Tryz.isAgg5
 z5 := Tryz.sizeOf5
 v5 := Tryz.zeroValue5
 t21 := Tryz.underlying21
 a21 := Tryz.isAgg21
 z21 := Tryz.sizeOf21
 v21 := Tryz.zeroValue21
 t37 := Tryz.underlying195
 a37 := Tryz.isAgg195
 z37 := Tryz.sizeOf195
 v37 := Tryz.zeroValue195
 t46 := Tryz.underlying178
 a46 := Tryz.isAgg178
 z46 := Tryz.sizeOf178
 v46 := Tryz.zeroValue178
 t51 := Tryz.underlying126
 a51 := Tryz.isAgg126
 z51 := Tryz.sizeOf126
 v51 := Tryz.zeroValue126 }
theorem Tryz.Builder_Extra_158 : Builder.Extra Tryz.prog Tryz.lays158_ren := {
 sizeBuilder := by kernel_rfl
 liesBuilder := by kernel_rfl
 t5 := Tryz.underlying5
 a5 := Tryz.isAgg5
 z5 := Tryz.sizeOf5
 v5 := Tryz.zeroValue5
 infoByte := by kernel_rfl
 cellsByte := by kernel_rfl
 sizeByte := by kernel_rfl
 neB5 := by decide }
open Go.RowKit in
theorem Tryz.strings_ToUpper_ascii (s : ByteArray) (w : World) (hs : s.size ≤ 140737488355328) (hascii : ∀ (j : Nat) (b : UInt8), s.data.toList[j]? = some b → b.toNat < 128) :
  Calls Tryz.prog 192 #[.string s] w fun e w' => e = .returned (.string ⟨(Lib.toUpperA s.data.toList).toArray⟩) ∧ Below w.heap.size w w' := Any.strings_ToUpper_ascii Tryz.lays158 Tryz.Builder_Extra_158 s w hs hascii
open Go.RowKit in
theorem Tryz.utf8_AppendRune_plain (B : Nat) (v : Value) (n : Nat) (xs : List Value) (r : Int) (hr0 : -2147483648 ≤ r) (hr1 : r ≤ 2147483647) (w : World) (hown : w.ownsRow B 5 1 v n xs) (hlen : n + 4 ≤ 140737488355328) (hBw : B ≤ w.heap.size) :
  Calls Tryz.prog 219 #[v, .int .i32 r] w fun e w' => ∃ v', e = .returned v' ∧ w'.ownsRow B 5 1 v' (n + (Lib.runeCells r).length) (xs ++ Lib.runeCells r) ∧ ∃ o, (w.alloc o).grownBy w' v.ownBlock := Any.utf8_AppendRune_plain Tryz.lays242 (by kernel_rfl) B v n xs r hr0 hr1 w hown hlen hBw
end Go.Proofs
namespace Go.Proofs.YtholajadbbdcmaaGreatDoor
open Go.RowKit
set_option maxRecDepth 20000
def StBox (w : World) (r : Int) (d s : Bool) (p : Int) (c : Bool) (k : Int) (g : Nat) : Prop :=
 w.cell? ⟨g, 0, none⟩ = some (.int .i64 r) ∧ w.cell? ⟨g, 1, none⟩ = some (.bool d) ∧ w.cell? ⟨g, 2, none⟩ = some (.bool s) ∧ w.cell? ⟨g, 3, none⟩ = some (.int .i64 p) ∧ w.cell? ⟨g, 4, none⟩ = some (.bool c) ∧ w.cell? ⟨g, 5, none⟩ = some (.int .i64 k)
theorem StBox.new (w : World) (r : Int) (d s : Bool) (p : Int) (c : Bool) (k : Int) (t : TypeId) : StBox (w.alloc (.cells #[.int .i64 r, .bool d, .bool s, .int .i64 p, .bool c, .int .i64 k] t)) r d s p c k w.heap.size :=
 ⟨cell_built w _ _ 0, cell_built w _ _ 1, cell_built w _ _ 2, cell_built w _ _ 3, cell_built w _ _ 4, cell_built w _ _ 5⟩
theorem StBox.below {w w' : World} {B g : Nat} {r : Int} {d s : Bool} {p : Int} {c : Bool} {k : Int} (h : StBox w r d s p c k g) (hb : Below B w w') (hg : g < B) : StBox w' r d s p c k g := by
 obtain ⟨h0, h1, h2, h3, h4, h5⟩ := h
 exact ⟨(hb.cell hg).trans h0, (hb.cell hg).trans h1, (hb.cell hg).trans h2, (hb.cell hg).trans h3, (hb.cell hg).trans h4, (hb.cell hg).trans h5⟩
end Go.Proofs.YtholajadbbdcmaaGreatDoor
