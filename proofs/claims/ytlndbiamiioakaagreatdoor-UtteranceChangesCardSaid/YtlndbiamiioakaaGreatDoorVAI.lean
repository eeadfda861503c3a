/- Joined: Lib2, Lt1. -/
import Derived.Lib.Explode
import Derived.Test.YtlndbiamiioakaaGreatDoorVAH
set_option linter.unusedVariables false
set_option linter.unusedSimpArgs false
set_option linter.unnecessarySimpa false
set_option maxHeartbeats 4000000
namespace Go.Proofs
open Go.Shelf
def Tryz.lays158_ren : Go.Shelf.Ren := ⟨fun | 158 => 132 | 165 => 142 | 166 => 143 | 167 => 144 | 169 => 145 | 230 => 146 | 203 => 153 | 240 => 158 | 241 => 159 | 197 => 160 | 118 => 161 | 168 => 162 | 270 => 163 | 262 => 164 | 276 => 174 | 277 => 175 | 260 => 176 | 242 => 173 | 313 => 177 | 278 => 182 | 274 => 183 | 275 => 184 | n => n, fun | 9 => 9 | 4 => 4 | 3 => 3 | 5 => 5 | 72 => 169 | 0 => 0 | 76 => 172 | 75 => 171 | 107 => 176 | 70 => 167 | 20 => 20 | 37 => 118 | 127 => 191 | 21 => 21 | 105 => 119 | 164 => 212 | 162 => 216 | 203 => 209 | 119 => 135 | 46 => 139 | 139 => 138 | 138 => 137 | 51 => 184 | 160 => 220 | 208 => 227 | 206 => 225 | 80 => 160 | n => n, fun | 13 => 7 | 3 => 3 | 4 => 4 | n => n⟩
theorem Tryz.lays158 : Go.Proofs.Lays.n158 Tryz.prog Tryz.lays158_ren := {
 mixed := by kernel_rfl
 f118 := Tryz.func161.trans (congrArg some (by kernel_rfl))
 f158 := Tryz.func132.trans (congrArg some (by kernel_rfl))
 f165 := Tryz.func142.trans (congrArg some (by kernel_rfl))
 f166 := Tryz.func143.trans (congrArg some (by kernel_rfl))
 f167 := Tryz.func144.trans (congrArg some (by kernel_rfl))
 f168 := Tryz.func162.trans (congrArg some (by kernel_rfl))
 f169 := Tryz.func145.trans (congrArg some (by kernel_rfl))
 f197 := Tryz.func160.trans (congrArg some (by kernel_rfl))
 f203 := Tryz.func153.trans (congrArg some (by kernel_rfl))
 f230 := Tryz.func146.trans (congrArg some (by kernel_rfl))
 f240 := Tryz.func158.trans (congrArg some (by kernel_rfl))
 f241 := Tryz.func159.trans (congrArg some (by kernel_rfl))
 f242 := Tryz.func173.trans (congrArg some (by kernel_rfl))
 f260 := Tryz.func176.trans (congrArg some (by kernel_rfl))
 f262 := Tryz.func164.trans (congrArg some (by kernel_rfl))
 f270 := Tryz.func163.trans (congrArg some (by kernel_rfl))
 f274 := Tryz.func183.trans (congrArg some (by kernel_rfl))
 f275 := Tryz.func184.trans (congrArg some (by kernel_rfl))
 f276 := Tryz.func174.trans (congrArg some (by kernel_rfl))
 f277 := Tryz.func175.trans (congrArg some (by kernel_rfl))
 f278 := Tryz.func182.trans (congrArg some (by kernel_rfl))
 f313 := Tryz.func177.trans (congrArg some (by kernel_rfl))
 t0 := Tryz.underlying0
 a0 := Tryz.isAgg0
 z0 := Tryz.sizeOf0
 v0 := Tryz.zeroValue0
 t3 := Tryz.underlying3
 a3 := Tryz.isAgg3
 z3 := Tryz.sizeOf3
 v3 := Tryz.zeroValue3
 t4 := Tryz.underlying4
 a4 := Tryz.isAgg4
 z4 := Tryz.sizeOf4
 v4 := Tryz.zeroValue4
 t5 := Tryz.underlying5
 a5 := Tryz.isAgg5
 z5 := Tryz.sizeOf5
 v5 := Tryz.zeroValue5
 t9 := Tryz.underlying9
 a9 := Tryz.isAgg9
 z9 := Tryz.sizeOf9
 v9 := Tryz.zeroValue9
 t20 := Tryz.underlying20
 a20 := Tryz.isAgg20
 z20 := Tryz.sizeOf20
 v20 := Tryz.zeroValue20
 t21 := Tryz.underlying21
 a21 := Tryz.isAgg21
 z21 := Tryz.sizeOf21
 v21 := Tryz.zeroValue21
 t37 := Tryz.underlying118
 a37 := Tryz.isAgg118
 z37 := Tryz.sizeOf118
 v37 := Tryz.zeroValue118
 t46 := Tryz.underlying139
 a46 := Tryz.isAgg139
 z46 := Tryz.sizeOf139
 v46 := Tryz.zeroValue139
 t51 := Tryz.underlying184
 a51 := Tryz.isAgg184
 z51 := Tryz.sizeOf184
 v51 := Tryz.zeroValue184
 t70 := Tryz.underlying167
 a70 := Tryz.isAgg167
 z70 := Tryz.sizeOf167
 v70 := Tryz.zeroValue167
 t72 := Tryz.underlying169
 a72 := Tryz.isAgg169
 z72 := Tryz.sizeOf169
 v72 := Tryz.zeroValue169
 t75 := Tryz.underlying171
 a75 := Tryz.isAgg171
 z75 := Tryz.sizeOf171
 v75 := Tryz.zeroValue171
 t76 := Tryz.underlying172
 a76 := Tryz.isAgg172
 z76 := Tryz.sizeOf172
 v76 := Tryz.zeroValue172
 t105 := Tryz.underlying119
 a105 := Tryz.isAgg119
 z105 := Tryz.sizeOf119
 v105 := Tryz.zeroValue119
 t107 := Tryz.underlying176
 a107 := Tryz.isAgg176
 z107 := Tryz.sizeOf176
 v107 := Tryz.zeroValue176
 t119 := Tryz.underlying135
 a119 := Tryz.isAgg135
 z119 := Tryz.sizeOf135
 t127 := Tryz.underlying191
 a127 := Tryz.isAgg191
 z127 := Tryz.sizeOf191
 v127 := Tryz.zeroValue191
 t138 := Tryz.underlying137
 a138 := Tryz.isAgg137
 z138 := Tryz.sizeOf137
 v138 := Tryz.zeroValue137
 t139 := Tryz.underlying138
 a139 := Tryz.isAgg138
 z139 := Tryz.sizeOf138
 v139 := Tryz.zeroValue138
 t160 := Tryz.underlying220
 a160 := Tryz.isAgg220
 z160 := Tryz.sizeOf220
 v160 := Tryz.zeroValue220
 t162 := Tryz.underlying216
 a162 := Tryz.isAgg216
 z162 := Tryz.sizeOf216
 v162 := Tryz.zeroValue216
 t164 := Tryz.underlying212
 a164 := Tryz.isAgg212
 z164 := Tryz.sizeOf212
 v164 := Tryz.zeroValue212
 t203 := Tryz.underlying209
 a203 := Tryz.isAgg209
 z203 := Tryz.sizeOf209
 v203 := Tryz.zeroValue209
 t206 := Tryz.underlying225
 a206 := Tryz.isAgg225
 z206 := Tryz.sizeOf225
 v206 := Tryz.zeroValue225
 t208 := Tryz.underlying227
 a208 := Tryz.isAgg227
 z208 := Tryz.sizeOf227
 v208 := Tryz.zeroValue227
 g3 := by kernel_rfl
 g4 := by kernel_rfl
 g13 := by kernel_rfl }
def Tryz.lays159_ren : Go.Shelf.Ren := ⟨fun | 159 => 120 | 165 => 142 | 166 => 143 | 167 => 144 | 169 => 145 | 230 => 146 | 204 => 147 | 240 => 158 | 241 => 159 | 197 => 160 | 118 => 161 | 168 => 162 | 270 => 163 | 262 => 164 | 276 => 174 | 277 => 175 | 260 => 176 | 242 => 173 | 313 => 177 | 278 => 182 | 274 => 183 | 275 => 184 | n => n, fun | 9 => 9 | 4 => 4 | 3 => 3 | 5 => 5 | 72 => 169 | 0 => 0 | 76 => 172 | 75 => 171 | 107 => 176 | 70 => 167 | 20 => 20 | 37 => 118 | 127 => 191 | 21 => 21 | 105 => 119 | 164 => 212 | 162 => 216 | 203 => 209 | 119 => 135 | 46 => 139 | 139 => 138 | 138 => 137 | 51 => 184 | 160 => 220 | 208 => 227 | 206 => 225 | 80 => 160 | n => n, fun | 13 => 7 | 3 => 3 | 4 => 4 | n => n⟩
theorem Tryz.lays159 : Go.Proofs.Lays.n159 Tryz.prog Tryz.lays159_ren := {
 mixed := by kernel_rfl
 f118 := Tryz.func161.trans (congrArg some (by kernel_rfl))
 f159 := Tryz.func120.trans (congrArg some (by kernel_rfl))
 f165 := Tryz.func142.trans (congrArg some (by kernel_rfl))
 f166 := Tryz.func143.trans (congrArg some (by kernel_rfl))
 f167 := Tryz.func144.trans (congrArg some (by kernel_rfl))
 f168 := Tryz.func162.trans (congrArg some (by kernel_rfl))
 f169 := Tryz.func145.trans (congrArg some (by kernel_rfl))
 f197 := Tryz.func160.trans (congrArg some (by kernel_rfl))
 f204 := Tryz.func147.trans (congrArg some (by kernel_rfl))
 f230 := Tryz.func146.trans (congrArg some (by kernel_rfl))
 f240 := Tryz.func158.trans (congrArg some (by kernel_rfl))
 f241 := Tryz.func159.trans (congrArg some (by kernel_rfl))
 f242 := Tryz.func173.trans (congrArg some (by kernel_rfl))
 f260 := Tryz.func176.trans (congrArg some (by kernel_rfl))
 f262 := Tryz.func164.trans (congrArg some (by kernel_rfl))
 f270 := Tryz.func163.trans (congrArg some (by kernel_rfl))
 f274 := Tryz.func183.trans (congrArg some (by kernel_rfl))
 f275 := Tryz.func184.trans (congrArg some (by kernel_rfl))
 f276 := Tryz.func174.trans (congrArg some (by kernel_rfl))
 f277 := Tryz.func175.trans (congrArg some (by kernel_rfl))
 f278 := Tryz.func182.trans (congrArg some (by kernel_rfl))
 f313 := Tryz.func177.trans (congrArg some (by kernel_rfl))
 t0 := Tryz.underlying0
 a0 := Tryz.isAgg0
 z0 := Tryz.sizeOf0
 v0 := Tryz.zeroValue0
 t3 := Tryz.underlying3
 a3 := Tryz.isAgg3
 z3 := Tryz.sizeOf3
 v3 := Tryz.zeroValue3
 t4 := Tryz.underlying4
 a4 := Tryz.isAgg4
 z4 := Tryz.sizeOf4
 v4 := Tryz.zeroValue4
 t5 := Tryz.underlying5
 a5 := Tryz.isAgg5
 z5 := Tryz.sizeOf5
 v5 := Tryz.zeroValue5
 t9 := Tryz.underlying9
 a9 := Tryz.isAgg9
 z9 := Tryz.sizeOf9
 v9 := Tryz.zeroValue9
 t20 := Tryz.underlying20
 a20 := Tryz.isAgg20
 z20 := Tryz.sizeOf20
 v20 := Tryz.zeroValue20
 t21 := Tryz.underlying21
 a21 := Tryz.isAgg21
 z21 := Tryz.sizeOf21
 v21 := Tryz.zeroValue21
 t37 := Tryz.underlying118
 a37 := Tryz.isAgg118
 z37 := Tryz.sizeOf118
 v37 := Tryz.zeroValue118
 t46 := Tryz.underlying139
 a46 := Tryz.isAgg139
 z46 := Tryz.sizeOf139
 v46 := Tryz.zeroValue139
 t51 := Tryz.underlying184
 a51 := Tryz.isAgg184
 z51 := Tryz.sizeOf184
 v51 := Tryz.zeroValue184
 t70 := Tryz.underlying167
 a70 := Tryz.isAgg167
 z70 := Tryz.sizeOf167
 v70 := Tryz.zeroValue167
 t72 := Tryz.underlying169
 a72 := Tryz.isAgg169
 z72 := Tryz.sizeOf169
 v72 := Tryz.zeroValue169
 t75 := Tryz.underlying171
 a75 := Tryz.isAgg171
 z75 := Tryz.sizeOf171
 v75 := Tryz.zeroValue171
 t76 := Tryz.underlying172
 a76 := Tryz.isAgg172
 z76 := Tryz.sizeOf172
 v76 := Tryz.zeroValue172
 t105 := Tryz.underlying119
 a105 := Tryz.isAgg119
 z105 := Tryz.sizeOf119
 v105 := Tryz.zeroValue119
 t107 := Tryz.underlying176
 a107 := Tryz.isAgg176
 z107 := Tryz.sizeOf176
 v107 := Tryz.zeroValue176
 t119 := Tryz.underlying135
 a119 := Tryz.isAgg135
 z119 := Tryz.sizeOf135
 t127 := Tryz.underlying191
 a127 := Tryz.isAgg191
 z127 := Tryz.sizeOf191
 v127 := Tryz.zeroValue191
 t138 := Tryz.underlying137
 a138 := Tryz.isAgg137
 z138 := Tryz.sizeOf137
 v138 := Tryz.zeroValue137
 t139 := Tryz.underlying138
 a139 := Tryz.isAgg138
 z139 := Tryz.sizeOf138
 v139 := Tryz.zeroValue138
 t160 := Tryz.underlying220
 a160 := Tryz.isAgg220
 z160 := Tryz.sizeOf220
 v160 := Tryz.zeroValue220
 t162 := Tryz.underlying216
 a162 := Tryz.isAgg216
 z162 := Tryz.sizeOf216
 v162 := Tryz.zeroValue216
 t164 := Tryz.underlying212
 a164 := Tryz.isAgg212
 z164 := Tryz.sizeOf212
 v164 := Tryz.zeroValue212
 t203 := Tryz.underlying209
 a203 := Tryz.isAgg209
 z203 := Tryz.sizeOf209
 v203 := Tryz.zeroValue209
 t206 := Tryz.underlying225
 a206 := Tryz.isAgg225
 z206 := Tryz.sizeOf225
 v206 := Tryz.zeroValue225
 t208 := Tryz.underlying227
 a208 := Tryz.isAgg227
 z208 := Tryz.sizeOf227
 v208 := Tryz.zeroValue227
 g3 := by kernel_rfl
 g4 := by kernel_rfl
 g13 := by kernel_rfl }
def Tryz.lays242_ren : Go.Shelf.Ren := ⟨fun | 242 => 173 | 278 => 182 | n => n, fun | 37 => 118 | 21 => 21 | 51 => 184 | 4 => 4 | 5 => 5 | 46 => 139 | n => n, fun | n => n⟩
theorem Tryz.lays242 : Go.Proofs.Lays.n242 Tryz.prog Tryz.lays242_ren := {
 mixed := by kernel_rfl
 f242 := Tryz.func173.trans (congrArg some (by kernel_rfl))
 f278 := Tryz.func182.trans (congrArg some (by kernel_rfl))
 t4 := Tryz.underlying4
 a4 := Tryz.isAgg4
 z4 := Tryz.sizeOf4
 v4 := Tryz.zeroValue4
 t5 := Tryz.underlying5
 a5 := Tryz.isAgg5
 z5 := Tryz.sizeOf5
 v5 := Tryz.zeroValue5
 t21 := Tryz.underlying21
 a21 := Tryz.isAgg21
 z21 := Tryz.sizeOf21
 v21 := Tryz.zeroValue21
 t37 := Tryz.underlying118
 a37 := Tryz.isAgg118
 z37 := Tryz.sizeOf118
 v37 := Tryz.zeroValue118
 t46 := Tryz.underlying139
 a46 := Tryz.isAgg139
 z46 := Tryz.sizeOf139
 v46 := Tryz.zeroValue139
 t51 := Tryz.underlying184
 a51 := Tryz.isAgg184
 z51 := Tryz.sizeOf184
 v51 := Tryz.zeroValue184 }
def Tryz.lays146_ren : Go.Shelf.Ren := ⟨fun | 146 => 121 | 221 => 148 | 268 => 165 | 138 => 166 | 143 => 167 | 195 => 178 | 197 => 160 | 218 => 179 | 219 => 180 | 260 => 176 | 217 => 185 | 225 => 186 | 224 => 187 | 267 => 188 | 266 => 189 | 314 => 190 | n => n, fun | 9 => 9 | 31 => 22 | 3 => 3 | 4 => 4 | 0 => 0 | 105 => 119 | 21 => 21 | 5 => 5 | 46 => 139 | 119 => 135 | 139 => 138 | 138 => 137 | 146 => 228 | 51 => 184 | n => n, fun | 1 => 8 | 3 => 3 | 4 => 4 | n => n⟩
theorem Tryz.lays146 : Go.Proofs.Lays.n146 Tryz.prog Tryz.lays146_ren := {
 mixed := by kernel_rfl
 f138 := Tryz.func166.trans (congrArg some (by kernel_rfl))
 f143 := Tryz.func167.trans (congrArg some (by kernel_rfl))
 f146 := Tryz.func121.trans (congrArg some (by kernel_rfl))
 f195 := Tryz.func178.trans (congrArg some (by kernel_rfl))
 f197 := Tryz.func160.trans (congrArg some (by kernel_rfl))
 f217 := Tryz.func185.trans (congrArg some (by kernel_rfl))
 f218 := Tryz.func179.trans (congrArg some (by kernel_rfl))
 f219 := Tryz.func180.trans (congrArg some (by kernel_rfl))
 f221 := Tryz.func148.trans (congrArg some (by kernel_rfl))
 f224 := Tryz.func187.trans (congrArg some (by kernel_rfl))
 f225 := Tryz.func186.trans (congrArg some (by kernel_rfl))
 f260 := Tryz.func176.trans (congrArg some (by kernel_rfl))
 f266 := Tryz.func189.trans (congrArg some (by kernel_rfl))
 f267 := Tryz.func188.trans (congrArg some (by kernel_rfl))
 f268 := Tryz.func165.trans (congrArg some (by kernel_rfl))
 f314 := Tryz.func190.trans (congrArg some (by kernel_rfl))
 t0 := Tryz.underlying0
 a0 := Tryz.isAgg0
 z0 := Tryz.sizeOf0
 v0 := Tryz.zeroValue0
 t3 := Tryz.underlying3
 a3 := Tryz.isAgg3
 z3 := Tryz.sizeOf3
 v3 := Tryz.zeroValue3
 t4 := Tryz.underlying4
 a4 := Tryz.isAgg4
 z4 := Tryz.sizeOf4
 v4 := Tryz.zeroValue4
 t5 := Tryz.underlying5
 a5 := Tryz.isAgg5
 z5 := Tryz.sizeOf5
 v5 := Tryz.zeroValue5
 t9 := Tryz.underlying9
 a9 := Tryz.isAgg9
 z9 := Tryz.sizeOf9
 v9 := Tryz.zeroValue9
 t21 := Tryz.underlying21
 a21 := Tryz.isAgg21
 z21 := Tryz.sizeOf21
 v21 := Tryz.zeroValue21
 t31 := Tryz.underlying22
 a31 := Tryz.isAgg22
 z31 := Tryz.sizeOf22
 v31 := Tryz.zeroValue22
 t46 := Tryz.underlying139
 a46 := Tryz.isAgg139
 z46 := Tryz.sizeOf139
 v46 := Tryz.zeroValue139
 t51 := Tryz.underlying184
 a51 := Tryz.isAgg184
 z51 := Tryz.sizeOf184
 v51 := Tryz.zeroValue184
 t105 := Tryz.underlying119
 a105 := Tryz.isAgg119
 z105 := Tryz.sizeOf119
 v105 := Tryz.zeroValue119
 t119 := Tryz.underlying135
 a119 := Tryz.isAgg135
 z119 := Tryz.sizeOf135
 t138 := Tryz.underlying137
 a138 := Tryz.isAgg137
 z138 := Tryz.sizeOf137
 v138 := Tryz.zeroValue137
 t139 := Tryz.underlying138
 a139 := Tryz.isAgg138
 z139 := Tryz.sizeOf138
 v139 := Tryz.zeroValue138
 t146 := Tryz.underlying228
 a146 := Tryz.isAgg228
 z146 := Tryz.sizeOf228
 v146 := Tryz.zeroValue228
 g1 := by kernel_rfl
 g3 := by kernel_rfl
 g4 := by kernel_rfl }
theorem Tryz.Builder_Extra_158 : Builder.Extra Tryz.prog Tryz.lays158_ren := {
 sizeBuilder := by kernel_rfl
 liesBuilder := by kernel_rfl
 t5 := Tryz.underlying5
 a5 := Tryz.isAgg5
 z5 := Tryz.sizeOf5
 v5 := Tryz.zeroValue5
 infoByte := by kernel_rfl
 cellsByte := by kernel_rfl
 sizeByte := by kernel_rfl
 neB5 := by decide }
open Go.RowKit in
theorem Tryz.strings_ToUpper_ascii (s : ByteArray) (w : World) (hs : s.size <= 140737488355328) (hascii : ∀ (j : Nat) (b : UInt8), s.data.toList[j]? = some b -> b.toNat < 128) :
  Calls Tryz.prog 132 #[.string s] w fun e w' => e = .returned (.string ⟨(Lib.toUpperA s.data.toList).toArray⟩) /\ Below w.heap.size w w' := Any.strings_ToUpper_ascii Tryz.lays158 Tryz.Builder_Extra_158 s w hs hascii
theorem Tryz.Builder_Extra_159 : Builder.Extra Tryz.prog Tryz.lays159_ren := {
 sizeBuilder := by kernel_rfl
 liesBuilder := by kernel_rfl
 t5 := Tryz.underlying5
 a5 := Tryz.isAgg5
 z5 := Tryz.sizeOf5
 v5 := Tryz.zeroValue5
 infoByte := by kernel_rfl
 cellsByte := by kernel_rfl
 sizeByte := by kernel_rfl
 neB5 := by decide }
open Go.RowKit in
theorem Tryz.strings_ToLower_ascii (s : ByteArray) (w : World) (hs : s.size <= 140737488355328) (hascii : ∀ (j : Nat) (b : UInt8), s.data.toList[j]? = some b -> b.toNat < 128) :
  Calls Tryz.prog 120 #[.string s] w fun e w' => e = .returned (.string ⟨(Lib.toLowerA s.data.toList).toArray⟩) /\ Below w.heap.size w w' := Any.strings_ToLower_ascii Tryz.lays159 Tryz.Builder_Extra_159 s w hs hascii
open Go.RowKit in
theorem Tryz.utf8_AppendRune_plain (B : Nat) (v : Value) (n : Nat) (xs : List Value) (r : Int) (hr0 : -2147483648 <= r) (hr1 : r <= 2147483647) (w : World) (hown : w.ownsRow B 5 1 v n xs) (hlen : n + 4 <= 140737488355328) (hBw : B <= w.heap.size) :
  Calls Tryz.prog 173 #[v, .int .i32 r] w fun e w' => ∃ v', e = .returned v' /\ w'.ownsRow B 5 1 v' (n + (Lib.runeCells r).length) (xs ++ Lib.runeCells r) /\ ∃ o, (w.alloc o).grownBy w' v.ownBlock := Any.utf8_AppendRune_plain Tryz.lays242 (by kernel_rfl) B v n xs r hr0 hr1 w hown hlen hBw
open Go.RowKit Go.Lib in
theorem Tryz.strings_Split_chars (s sep : ByteArray) (w : World) (h0 : sep.size = 0) (hs : s.size < 4294967281) (hascii : ∀ (j : Nat) b, s.data.toList[j]? = some b -> b.toNat < 128) :
  Calls Tryz.prog 121 #[.string s, .string sep] w fun e w' =>
   e = .returned (.slice (some ⟨(w.iter s s.size).heap.size, 0, none⟩) s.size s.size) /\ w' = (w.iter s s.size).alloc (.cells ((Lib.charsB s).map Value.string).toArray 9) := Any.strings_Split_chars Tryz.lays146 (by kernel_rfl) s sep w h0 hs hascii
end Go.Proofs
namespace Go.Proofs.YtlndbiamiioakaaGreatDoor
open Go.Proofs.Tryz Go.RowKit
set_option maxRecDepth 20000
theorem qeE (n : Nat) (hn : n <= 999999999) (w : World) : Calls prog 100 #[.int .i64 n] w (ql 9 1 id w (jm n).length (sv (jm n))) := by
 have HW : Hid (∀ w, Calls prog 24 #[.int .i64 n] w (ql 9 1 jI w (jm n).length (sv (jm n)))) := Lh fun w => by
  have h := ka (n : Int) (by omega) (by omega) w
  rw [qcf] at h
  unfold jm
  rw [List.length_map]
  exact h
 generalize jm n = L at *
 unfold jI at HW
 go_enter func100, ntmps100
 go_wp2_with (go_at_call 24; refine (HW.out _).mono ?_; rintro e w1 ⟨A1, c1, rfl, hown1, qh7⟩)
 go_ret
 exact ⟨A1, c1, rfl, hown1, qh7⟩
def yq (T : List UInt8) : Nat := (T.filter fun c => vV c.toNat == 2).length
def qa1 (n : Nat) : List ByteArray := if n = 1 then [bCap] else if 1 < n then [vL] else []
def kf (T : List UInt8) (spell : Bool) : List ByteArray :=
 qa1 (yq T) ++ (if spell = true then zB :: ((T.map yX).map fun c => (⟨#[c]⟩ : ByteArray)) ++ [ko] else (if vD ⟨(T.map yX).toArray⟩ = true then [vw] else []) ++ [⟨(T.map yX).toArray⟩])
theorem qhS (c : UInt8) : Lib.lowerB c = yX c := by
 unfold Lib.lowerB Lib.isUpperB yX
 simp only [Bool.and_eq_true, decide_eq_true_eq, UInt8.le_iff_toNat_le]
 rfl
theorem qhO (T : List UInt8) : Lib.charsB ⟨T.toArray⟩ = T.map fun c => (⟨#[c]⟩ : ByteArray) := by
 rw [Lib.charsB.eq_1, Lib.charsUpTo.eq_1]
 have hs : (⟨T.toArray⟩ : ByteArray).size = T.length := by show T.toArray.size = _; simp
 apply List.ext_getElem
 ·simp [hs]
 ·intro i h1 h2
  simp only [List.getElem_map, List.getElem_range]
  have hi : i < T.length := by simpa using h2
  apply ByteArray.ext
  apply Array.toList_inj.1
  rw [ByteArray.data_extract]
  simp only [Array.toList_extract, List.extract_eq_take_drop]
  simp
  rw [List.drop_eq_getElem_cons hi]
  rfl
theorem low_same (c : UInt8) : c.toNat = (yX c).toNat ↔ vV c.toNat ≠ 2 := by
 unfold yX vV
 have hb := UInt8.toNat_lt c
 split
 ·have e : (c + 32).toNat = c.toNat + 32 := by
   rw [UInt8.toNat_add]
   show (c.toNat + 32) % 256 = _
   omega
  rw [e]
  (repeat' split) <;> omega
 ·(repeat' split) <;> omega
theorem qfR {T : List UInt8} {k : Nat} (h : k < T.length) : yq (T.take (k + 1)) = yq (T.take k) + if vV T[k].toNat = 2 then 1 else 0 := by
 have e : T.take (k + 1) = T.take k ++ [T[k]] := (List.take_append_getElem h).symm
 unfold yq
 rw [e, List.filter_append, List.length_append]
 by_cases h2 : vV T[k].toNat = 2 <;> simp [h2]
theorem capsT_le (T : List UInt8) : yq T <= T.length := List.length_filter_le _ _
abbrev stV (rate : Int) (digits spell : Bool) (rep : Int) (con : Bool) (cells : Int) : Value := .agg #[.int .i64 rate, .bool digits, .bool spell, .int .i64 rep, .bool con, .int .i64 cells]
def StBox (w : World) (r : Int) (d s : Bool) (p : Int) (c : Bool) (k : Int) (g : Nat) : Prop :=
 w.cell? ⟨g, 0, none⟩ = some (.int .i64 r) /\ w.cell? ⟨g, 1, none⟩ = some (.bool d) /\ w.cell? ⟨g, 2, none⟩ = some (.bool s) /\ w.cell? ⟨g, 3, none⟩ = some (.int .i64 p) /\ w.cell? ⟨g, 4, none⟩ = some (.bool c) /\ w.cell? ⟨g, 5, none⟩ = some (.int .i64 k)
theorem StBox.new (w : World) (r : Int) (d s : Bool) (p : Int) (c : Bool) (k : Int) (t : TypeId) : StBox (w.alloc (.cells #[.int .i64 r, .bool d, .bool s, .int .i64 p, .bool c, .int .i64 k] t)) r d s p c k w.heap.size :=
 ⟨qF w _ _ 0, qF w _ _ 1, qF w _ _ 2, qF w _ _ 3, qF w _ _ 4, qF w _ _ 5⟩
theorem StBox.below {w w' : World} {B g : Nat} {r : Int} {d s : Bool} {p : Int} {c : Bool} {k : Int} (h : StBox w r d s p c k g) (hb : Below B w w') (hg : g < B) : StBox w' r d s p c k g := by
 obtain ⟨h0, h1, h2, h3, h4, h5⟩ := h
 exact ⟨(hb.cell hg).trans h0, (hb.cell hg).trans h1, (hb.cell hg).trans h2, (hb.cell hg).trans h3, (hb.cell hg).trans h4, (hb.cell hg).trans h5⟩
theorem letters_ (X : ByteArray) (T : List UInt8) (hXT : X.data.toList = T) (hT : ∀ c ∈ T, c.toNat < 128) (hl : T.length <= 1000000) (r : Int) (d sp : Bool) (p : Int) (con : Bool) (k : Int) (w : World) (hs : Sp w) :
  Calls prog 96 #[.string X, stV r d sp p con k] w (ql 9 1 id w (kf T sp).length (sv (kf T sp))) := by
 have hsz : X.size = T.length := by rw [<- hXT]; simp
 have hlow : Lib.toLowerA T = T.map yX := by
  rw [Lib.toLowerA.eq_1]
  exact List.map_congr_left fun c _ => qhS c
 obtain ⟨Y, hY⟩ : ∃ Y : ByteArray, Y = ⟨(T.map yX).toArray⟩ := ⟨_, rfl⟩
 have qiH : Hid (∀ w, Calls prog 120 #[.string X] w (qg (.string Y) w)) := Lh fun w => by
  have h := Tryz.strings_ToLower_ascii X w (by omega) (fun j b hb => hT b (by rw [<- hXT]; exact List.mem_of_getElem? hb))
  rw [hXT, hlow, <- hY] at h
  exact h
 have hszY : Y.size = T.length := by rw [hY]; show (List.toArray _).size = _; simp
 have HS := Lh hs
 have HC0 : Hid (yq (T.take 0) = 0) := Lh rfl
 have HCS : Hid (∀ k (h : k < T.length), yq (T.take (k + 1)) = yq (T.take k) + if vV T[k].toNat = 2 then 1 else 0) := Lh fun k h => qfR h
 have HCL : Hid (∀ k, yq (T.take k) <= k) := Lh fun k => Nat.le_trans (capsT_le _) (by rw [List.length_take]; omega)
 have HTA : Hid (T.take T.length = T) := Lh List.take_length
 have HSame : Hid (∀ c : UInt8, c.toNat = (yX c).toNat ↔ vV c.toNat ≠ 2) := Lh low_same
 have HXk : Hid (∀ (k : Nat) (h : k < T.length) (h2 : k < X.size), X[k] = T[k]) := Lh fun k h h2 => by subst hXT; rfl
 have HYk : Hid (∀ (k : Nat) (h : k < T.length) (h2 : k < Y.size), Y[k] = yX T[k]) := Lh fun k h h2 => by
  subst hY
  show (List.toArray (T.map yX))[k]'_ = _
  simp
 have HR : Hid (∀ w, Sp w -> Calls prog 122 #[.string Y] w (qg (.bool (vD Y)) w)) := Lh fun w hs => qhG Y (by unfold maxLen; omega) w hs
 have HCh : Hid (∀ w, Calls prog 121 #[.string Y, .string ⟨#[]⟩] w (ql 9 1 id w T.length (sv ((T.map yX).map fun c => (⟨#[c]⟩ : ByteArray))))) := Lh fun w => by
  have hlo : ∀ c : UInt8, c.toNat < 128 -> (yX c).toNat < 128 := fun c hc => by
   unfold yX
   split
   ·rw [UInt8.toNat_add]
    show (c.toNat + 32) % 256 < 128
    omega
   ·exact hc
  have h := Tryz.strings_Split_chars Y ⟨#[]⟩ w rfl (by omega) (fun j b hb => by
   rw [hY] at hb
   have hm : b ∈ T.map yX := List.mem_of_getElem? hb
   obtain ⟨c, hc, rfl⟩ := List.mem_map.1 hm
   exact hlo c (hT c hc))
  refine h.mono ?_
  rintro e w' ⟨rfl, rfl⟩
  have hch : Lib.charsB Y = (T.map yX).map fun c => (⟨#[c]⟩ : ByteArray) := by rw [hY]; exact qhO _
  have hit : (w.iter Y Y.size).heap.size = w.heap.size + 1 := by rw [World.iter.eq_1]; simp
  rw [hszY] at hit ⊢
  refine ⟨_, _, rfl, ?_, ?_⟩
  ·rw [hch]
   exact qR (xs := sv _) rfl (by simp [sv]) (by omega) (by omega)
  ·refine Below.alloc ?_ (by omega) _
   rw [World.iter.eq_1]
   exact (Below.refl _ _).alloc (Nat.le_refl _) _
 have HLen : Hid (((T.map yX).map fun c => (⟨#[c]⟩ : ByteArray)).length = T.length) := Lh (by simp)
 unfold kf
 rw [<- hY]
 generalize ((T.map yX).map fun c => (⟨#[c]⟩ : ByteArray)) = CH at *
 generalize vD Y = RB at *
 obtain ⟨RES, qih⟩ : ∃ x, x = qa1 (yq T) ++ (if sp = true then zB :: CH ++ [ko] else (if RB = true then [vw] else []) ++ [Y]) := ⟨_, rfl⟩
 rw [<- qih]
 replace qih := Lh qih
 clear hs hlow hXT hT hY
 go_enter func96, ntmps96
 go_upto_region 2 with fail
 refine qc (fun wx => StBox wx r d sp p con k w.heap.size /\ Below w.heap.size w wx /\ w.heap.size + 1 <= wx.heap.size) ⟨StBox.new w r d sp p con k _, (Below.refl _ _).alloc (Nat.le_refl _) _, by simp⟩ ?_
 rintro wb ⟨hst, hb0, hz0⟩
 go_wp2_with (go_at_call 120; refine (qiH.out _).mono ?_; rintro e w1 ⟨rfl, qh7⟩)
 have hst1 := hst.below qh7 hz0
 have hb1 := hb0.trans (qh7.mono (by omega))
 have hz1 := Nat.le_trans hz0 qh7.size
 go_loopw [7, 13] (fun v x wr => ∃ j q : Nat, j <= T.length /\ x = .int .i64 j /\ v = .int .i64 (yq (T.take j) : Nat) /\ wr = w1.drewN q) (fun _ x _ => T.length - (intOf x).toNat)
 case atStart => exact ⟨0, 0, Nat.zero_le _, rfl, by rw [HC0.out]; rfl, rfl⟩
 case round =>
  obtain ⟨j, q, hj, rfl, rfl, rfl⟩ := hrel
  have hcl := HCL.out j
  by_cases hlt : j < T.length
  ·have hx := HXk.out j hlt (by rw [hsz]; exact hlt)
   have hy := HYk.out j hlt (by rw [hszY]; exact hlt)
   have hS := HSame.out T[j]
   have hcs := HCS.out j hlt
   have hjx : j < X.size := by rw [hsz]; exact hlt
   have hjy : j < Y.size := by rw [hszY]; exact hlt
   by_cases h2 : vV T[j].toNat = 2
   ·rw [if_pos h2] at hcs
    have hne : ((X[j].toNat : Int) == (Y[j].toNat : Int)) = false := beq_eq_false_iff_ne.2 (fun e => hS.1 (by rw [hx, hy] at e; omega) h2)
    replace hcs := Lh hcs
    clear hS hx hy h2
    generalize yq (T.take j) = C at *
    go_wp2
    go_quiet (fail)
    go_wp2
    exact ⟨⟨j + 1, _, by omega, by go_num, by rw [hcs.out]; go_num, rfl⟩, by simp [intOf]; omega⟩
   ·rw [if_neg h2] at hcs
    have hne : ((X[j].toNat : Int) == (Y[j].toNat : Int)) = true := beq_iff_eq.2 (by rw [hx, hy]; have := hS.2 h2; omega)
    replace hcs := Lh hcs
    clear hS hx hy h2
    generalize yq (T.take j) = C at *
    go_wp2
    go_quiet (fail)
    go_wp2
    exact ⟨⟨j + 1, _, by omega, by go_num, by rw [hcs.out, Nat.add_zero], rfl⟩, by simp [intOf]; omega⟩
  ·obtain rfl : j = T.length := by omega
   rw [HTA.out] at hcl ⊢
   have hst2 : StBox (w1.drewN q) r d sp p con k w.heap.size := hst1
   have hb2 : Below w.heap.size w (w1.drewN q) := qb hb1
   have hz2 : w.heap.size + 1 <= (w1.drewN q).heap.size := hz1
   generalize w1.drewN q = wd at *
   generalize yq T = C at *
   go_upto_block 2 with fail
   go_cut [5] (fun v wx => ∃ A c, v = .slice A (qa1 C).length c /\ wx.ownsRow (w.heap.size + 1) 9 1 (.slice A (qa1 C).length c) (qa1 C).length (sv (qa1 C)) /\ Below (w.heap.size + 1) wd wx)
   case first =>
    by_cases c1 : C = 1
    ·subst c1
     go_wp2_with (at_builtin; go_must (refine qh rfl _ _ _ rfl qx ((w.heap.size + 1)) _ rfl (zh _ _ _ _) _ _ rfl ((qe (by rfl) rfl)) (by first | rfl | exact qN _ | exact qO _) (by omega) (by omega) (by first | (simp; done) | (simp; omega) | omega) ?_); intro A4 c4 w4 qie qia qii qik; have z4 := qia.size; (try simp only [World.size_alloc] at z4); (try simp only [Nat.zero_add, List.nil_append] at qie))
     go_meet
     exact ⟨A4, c4, rfl, qie, ((Below.refl _ _).alloc hz2 _).trans qia⟩
    ·have e1 : ((C : Int) == 1) = false := beq_eq_false_iff_ne.2 (by omega)
     by_cases c2 : 1 < C
     ·have e2 : qa1 C = [vL] := by unfold qa1; rw [if_neg c1, if_pos c2]
      replace e2 := Lh e2
      clear c1
      go_wp2_with (at_builtin; go_must (refine qh rfl _ _ _ rfl qx ((w.heap.size + 1)) _ rfl (zh _ _ _ _) _ _ rfl ((qe (by rfl) rfl)) (by first | rfl | exact qN _ | exact qO _) (by omega) (by omega) (by first | (simp; done) | (simp; omega) | omega) ?_); intro A4 c4 w4 qie qia qii qik; have z4 := qia.size; (try simp only [World.size_alloc] at z4); (try simp only [Nat.zero_add, List.nil_append] at qie))
      go_meet
      rw [e2.out]
      exact ⟨A4, c4, rfl, qie, ((Below.refl _ _).alloc hz2 _).trans qia⟩
     ·have e2 : qa1 C = [] := by unfold qa1; rw [if_neg c1, if_neg c2]
      replace e2 := Lh e2
      clear c1
      go_wp2
      go_meet
      rw [e2.out]
      exact ⟨none, 0, rfl, zh _ _ _ _, Below.refl _ _⟩
   case rest =>
    obtain ⟨A, c, rfl, hown, hbx⟩ := hcut
    have hst3 := hst2.below hbx (Nat.lt_succ_self _)
    have hb3 := hb2.trans (hbx.mono (Nat.le_succ _))
    have hz3 := Nat.le_trans hz2 hbx.size
    have hpl : (qa1 C).length <= 1 := by
     unfold qa1
     split
     ·simp
     ·split <;> simp
    have hCl := HLen.out
    generalize qa1 C = P at *
    obtain ⟨s0, s1, s2, s3, s4, s5⟩ := hst3
    clear s0 s1 s3 s4 s5 hst hst1 hst2 HCS HCL HTA HSame HXk HYk HC0 hb0 hb1 hb2 hbx qh7 hz0 hz1 hz2
    have HSx := Lh (HS.out.below hb3 (Nat.le_refl _))
    cases sp with
    | true =>
     have HR2 : Hid (RES = P ++ (zB :: CH ++ [ko])) := Lh (by rw [qih.out, if_pos rfl])
     clear qih HR qiH
     go_wp2_with (first
      | (go_at_call 121; refine (HCh.out _).mono ?_; rintro e w5 ⟨A5, c5, rfl, hown5, qib⟩; have z5 := qib.size)
      | ((fail_if_success have := qie); (at_builtin; go_must (refine qh rfl _ _ _ rfl qx ((w.heap.size + 1)) _ rfl ((hown.alloc _)) _ _ rfl ((qe (by rfl) rfl)) (by first | rfl | exact qN _ | exact qO _) (by omega) (by omega) (by first | (simp; done) | (simp; omega) | omega) ?_); intro A4 c4 w4 qie qia qii qik; have z4 := qia.size; (try simp only [World.size_alloc] at z4); (try simp only [Nat.zero_add, List.nil_append] at qie)))
      | ((fail_if_success have := hown6); (at_builtin; go_must (refine qh rfl _ _ _ rfl qx ((w.heap.size + 1)) _ rfl ((qa qie qib)) _ _ rfl ((Rd.of_own hown5)) (by first | rfl | exact qN _ | exact qO _) (by omega) (by omega) (by first | (simp; done) | (simp; omega) | omega) ?_); intro A6 c6 w6 hown6 qic hgr6 hat6; have z6 := qic.size; (try simp only [World.size_alloc] at z6); (try simp only [Nat.zero_add, List.nil_append] at hown6)))
      | (at_builtin; go_must (refine qh rfl _ _ _ rfl qx ((w.heap.size + 1)) _ rfl ((hown6.alloc _)) _ _ rfl ((qe (by rfl) rfl)) (by first | rfl | exact qN _ | exact qO _) (by omega) (by omega) (by first | (simp; done) | (simp; omega) | omega) ?_); intro A7 c7 w7 qif qid hgr7 hat7; have z7 := qid.size; (try simp only [World.size_alloc] at z7); (try simp only [Nat.zero_add, List.nil_append] at qif)))
     go_ret
     have el : RES.length = P.length + 1 + T.length + 1 := by rw [HR2.out]; simp; omega
     have es : sv RES = sv P ++ [Value.string zB] ++ sv CH ++ [Value.string ko] := by rw [HR2.out]; simp [sv]
     rw [el, es]
     exact ⟨A7, c7, rfl, qq qif (Nat.le_succ _), ((((hb3.alloc (by omega) _).trans (qia.mono (by omega))).trans (qib.mono (by omega))).trans (qic.mono (by omega))).alloc (by omega) _ |>.trans (qid.mono (by omega))⟩
    | false =>
     have HRw := Lh (HR.out _ HSx.out)
     clear HR qiH HCh
     cases RB with
     | true =>
      have HR2 : Hid (RES = P ++ [vw] ++ [Y]) := Lh (by rw [qih.out, if_neg (by simp), if_pos rfl]; simp)
      clear qih
      go_wp2_with (first
       | (go_at_call 122; refine HRw.out.mono ?_; rintro e w5 ⟨rfl, qib⟩; have z5 := qib.size)
       | ((fail_if_success have := qie); (at_builtin; go_must (refine qh rfl _ _ _ rfl qx ((w.heap.size + 1)) _ rfl (((qa hown qib).alloc _)) _ _ rfl ((qe (by rfl) rfl)) (by first | rfl | exact qN _ | exact qO _) (by omega) (by omega) (by first | (simp; done) | (simp; omega) | omega) ?_); intro A4 c4 w4 qie qia qii qik; have z4 := qia.size; (try simp only [World.size_alloc] at z4); (try simp only [Nat.zero_add, List.nil_append] at qie)))
       | (at_builtin; go_must (refine qh rfl _ _ _ rfl qx ((w.heap.size + 1)) _ rfl ((qie.alloc _)) _ _ rfl ((qe (by rfl) rfl)) (by first | rfl | exact qN _ | exact qO _) (by omega) (by omega) (by first | (simp; done) | (simp; omega) | omega) ?_); intro A6 c6 w6 hown6 qic hgr6 hat6; have z6 := qic.size; (try simp only [World.size_alloc] at z6); (try simp only [Nat.zero_add, List.nil_append] at hown6)))
      go_ret
      have el : RES.length = P.length + 1 + 1 := by rw [HR2.out]; simp
      have es : sv RES = sv P ++ [Value.string vw] ++ [Value.string Y] := by rw [HR2.out]; simp [sv]
      rw [el, es]
      exact ⟨A6, c6, rfl, qq hown6 (Nat.le_succ _), (((((hb3.trans (qib.mono (by omega))).alloc (by omega) _).trans (qia.mono (by omega))).alloc (by omega) _).trans (qic.mono (by omega)))⟩
     | false =>
      have HR2 : Hid (RES = P ++ [Y]) := Lh (by rw [qih.out, if_neg (by simp), if_neg (by simp)]; simp)
      clear qih
      go_wp2_with (first
       | (go_at_call 122; refine HRw.out.mono ?_; rintro e w5 ⟨rfl, qib⟩; have z5 := qib.size)
       | (at_builtin; go_must (refine qh rfl _ _ _ rfl qx ((w.heap.size + 1)) _ rfl (((qa hown qib).alloc _)) _ _ rfl ((qe (by rfl) rfl)) (by first | rfl | exact qN _ | exact qO _) (by omega) (by omega) (by first | (simp; done) | (simp; omega) | omega) ?_); intro A4 c4 w4 qie qia qii qik; have z4 := qia.size; (try simp only [World.size_alloc] at z4); (try simp only [Nat.zero_add, List.nil_append] at qie)))
      go_ret
      have el : RES.length = P.length + 1 := by rw [HR2.out]; simp
      have es : sv RES = sv P ++ [Value.string Y] := by rw [HR2.out]; simp [sv]
      rw [el, es]
      exact ⟨A4, c4, rfl, qq qie (Nat.le_succ _), (((hb3.trans (qib.mono (by omega))).alloc (by omega) _).trans (qia.mono (by omega)))⟩
end Go.Proofs.YtlndbiamiioakaaGreatDoor
