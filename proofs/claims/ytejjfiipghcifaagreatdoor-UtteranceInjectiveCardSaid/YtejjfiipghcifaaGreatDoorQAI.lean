/- Joined texts: Lib2. -/
import Derived.Shelf.Strings.Builder1
import Derived.Shelf.Strings.Builder2
import Derived.Shelf.Strings.OnBuilder
import Derived.Shelf.Small.Utf8
import Derived.Shelf.Small.Strs
import Derived.Shelf.Strings.BuilderF
import Derived.Shelf.Strings.BuilderK
import Derived.Shelf.Strings.BuilderRune
import Derived.Shelf.Utf8.AppendRunePlain
import Derived.Shelf.Strings.Search1
import Derived.Shelf.Strings.Search2
import Derived.Shelf.Strings.Search3
import Derived.Shelf.Strings.Count
import Derived.Shelf.LaysM
import Derived.Shelf.Strings.Shaped
import Derived.Shelf.Strings.Split
import Derived.Shelf.Strings.Fields
import Derived.Shelf.Strings.SplitShaped
import Derived.Shelf.Unicode.Latin
import Derived.Shelf.Unicode.Decode
import Derived.Shelf.Strings.RuneCount
import Derived.Shelf.Strings.Explode
import Derived.Shelf.Unicode.DecodeSlow
import Derived.Shelf.Unicode.DecodeAny
import Derived.Shelf.Unicode.Is16White
import Derived.Shelf.Unicode.IsSpaceAny
import Derived.Shelf.Unicode.CaseLookup
import Derived.Shelf.Unicode.CaseConvert
import Derived.Shelf.Unicode.CaseTo
import Derived.Shelf.Unicode.CaseLaid
import Derived.Shelf.Strings.MapAny
import Derived.Shelf.Strings.CaseAny
import Derived.Shelf.Unicode.Is16Any
import Derived.Shelf.Unicode.Is32Any
import Derived.Shelf.Unicode.ExclAny
import Derived.Test.YtejjfiipghcifaaGreatDoorProg
set_option linter.unusedVariables false
set_option linter.unusedSimpArgs false
set_option linter.unnecessarySimpa false
namespace Go.Proofs
open Go.Shelf
def Tryz.lays158_ren : Go.Shelf.Ren := ⟨fun | 158 => 172 | 165 => 156 | 166 => 157 | 167 => 158 | 169 => 159 | 230 => 160 | 203 => 191 | 240 => 178 | 241 => 179 | 197 => 180 | 118 => 181 | 168 => 182 | 270 => 183 | 262 => 184 | 276 => 195 | 277 => 196 | 260 => 197 | 242 => 198 | 313 => 199 | 278 => 208 | 274 => 209 | 275 => 210 | n => n, fun | 9 => 9 | 4 => 4 | 3 => 3 | 5 => 5 | 72 => 172 | 0 => 0 | 76 => 176 | 75 => 175 | 107 => 181 | 70 => 170 | 20 => 20 | 37 => 126 | 127 => 193 | 21 => 21 | 105 => 141 | 164 => 210 | 162 => 216 | 203 => 214 | 119 => 146 | 46 => 150 | 139 => 149 | 138 => 148 | 51 => 203 | 160 => 230 | 208 => 239 | 206 => 237 | 80 => 179 | n => n, fun | 13 => 7 | 3 => 3 | 4 => 4 | n => n⟩
theorem Tryz.lays158 : Go.Proofs.Lays.n158 Tryz.prog Tryz.lays158_ren := {
 mixed := by kernel_rfl
 f118 := Tryz.func181.trans (congrArg some (by kernel_rfl))
 f158 := Tryz.func172.trans (congrArg some (by kernel_rfl))
 f165 := Tryz.func156.trans (congrArg some (by kernel_rfl))
 f166 := Tryz.func157.trans (congrArg some (by kernel_rfl))
 f167 := Tryz.func158.trans (congrArg some (by kernel_rfl))
 f168 := Tryz.func182.trans (congrArg some (by kernel_rfl))
 f169 := Tryz.func159.trans (congrArg some (by kernel_rfl))
 f197 := Tryz.func180.trans (congrArg some (by kernel_rfl))
 f203 := Tryz.func191.trans (congrArg some (by kernel_rfl))
 f230 := Tryz.func160.trans (congrArg some (by kernel_rfl))
 f240 := Tryz.func178.trans (congrArg some (by kernel_rfl))
 f241 := Tryz.func179.trans (congrArg some (by kernel_rfl))
 f242 := Tryz.func198.trans (congrArg some (by kernel_rfl))
 f260 := Tryz.func197.trans (congrArg some (by kernel_rfl))
 f262 := Tryz.func184.trans (congrArg some (by kernel_rfl))
 f270 := Tryz.func183.trans (congrArg some (by kernel_rfl))
 f274 := Tryz.func209.trans (congrArg some (by kernel_rfl))
 f275 := Tryz.func210.trans (congrArg some (by kernel_rfl))
 f276 := Tryz.func195.trans (congrArg some (by kernel_rfl))
 f277 := Tryz.func196.trans (congrArg some (by kernel_rfl))
 f278 := Tryz.func208.trans (congrArg some (by kernel_rfl))
 f313 := Tryz.func199.trans (congrArg some (by kernel_rfl))
 t0 := Tryz.underlying0
 a0 := Tryz.isAgg0
 z0 := Tryz.sizeOf0
 v0 := Tryz.zeroValue0
 t3 := Tryz.underlying3
 a3 := Tryz.isAgg3
 z3 := Tryz.sizeOf3
 v3 := Tryz.zeroValue3
 t4 := Tryz.underlying4
 a4 := Tryz.isAgg4
 z4 := Tryz.sizeOf4
 v4 := Tryz.zeroValue4
 t5 := Tryz.underlying5
 a5 := Tryz.isAgg5
 z5 := Tryz.sizeOf5
 v5 := Tryz.zeroValue5
 t9 := Tryz.underlying9
 a9 := Tryz.isAgg9
 z9 := Tryz.sizeOf9
 v9 := Tryz.zeroValue9
 t20 := Tryz.underlying20
 a20 := Tryz.isAgg20
 z20 := Tryz.sizeOf20
 v20 := Tryz.zeroValue20
 t21 := Tryz.underlying21
 a21 := Tryz.isAgg21
 z21 := Tryz.sizeOf21
 v21 := Tryz.zeroValue21
 t37 := Tryz.underlying126
 a37 := Tryz.isAgg126
 z37 := Tryz.sizeOf126
 v37 := Tryz.zeroValue126
 t46 := Tryz.underlying150
 a46 := Tryz.isAgg150
 z46 := Tryz.sizeOf150
 v46 := Tryz.zeroValue150
 t51 := Tryz.underlying203
 a51 := Tryz.isAgg203
 z51 := Tryz.sizeOf203
 v51 := Tryz.zeroValue203
 t70 := Tryz.underlying170
 a70 := Tryz.isAgg170
 z70 := Tryz.sizeOf170
 v70 := Tryz.zeroValue170
 t72 := Tryz.underlying172
 a72 := Tryz.isAgg172
 z72 := Tryz.sizeOf172
 v72 := Tryz.zeroValue172
 t75 := Tryz.underlying175
 a75 := Tryz.isAgg175
 z75 := Tryz.sizeOf175
 v75 := Tryz.zeroValue175
 t76 := Tryz.underlying176
 a76 := Tryz.isAgg176
 z76 := Tryz.sizeOf176
 v76 := Tryz.zeroValue176
 t105 := Tryz.underlying141
 a105 := Tryz.isAgg141
 z105 := Tryz.sizeOf141
 v105 := Tryz.zeroValue141
 t107 := Tryz.underlying181
 a107 := Tryz.isAgg181
 z107 := Tryz.sizeOf181
 v107 := Tryz.zeroValue181
 t119 := Tryz.underlying146
 a119 := Tryz.isAgg146
 z119 := Tryz.sizeOf146
 t127 := Tryz.underlying193
 a127 := Tryz.isAgg193
 z127 := Tryz.sizeOf193
 v127 := Tryz.zeroValue193
 t138 := Tryz.underlying148
 a138 := Tryz.isAgg148
 z138 := Tryz.sizeOf148
 v138 := Tryz.zeroValue148
 t139 := Tryz.underlying149
 a139 := Tryz.isAgg149
 z139 := Tryz.sizeOf149
 v139 := Tryz.zeroValue149
 t160 := Tryz.underlying230
 a160 := Tryz.isAgg230
 z160 := Tryz.sizeOf230
 v160 := Tryz.zeroValue230
 t162 := Tryz.underlying216
 a162 := Tryz.isAgg216
 z162 := Tryz.sizeOf216
 v162 := Tryz.zeroValue216
 t164 := Tryz.underlying210
 a164 := Tryz.isAgg210
 z164 := Tryz.sizeOf210
 v164 := Tryz.zeroValue210
 t203 := Tryz.underlying214
 a203 := Tryz.isAgg214
 z203 := Tryz.sizeOf214
 v203 := Tryz.zeroValue214
 t206 := Tryz.underlying237
 a206 := Tryz.isAgg237
 z206 := Tryz.sizeOf237
 v206 := Tryz.zeroValue237
 t208 := Tryz.underlying239
 a208 := Tryz.isAgg239
 z208 := Tryz.sizeOf239
 v208 := Tryz.zeroValue239
 g3 := by kernel_rfl
 g4 := by kernel_rfl
 g13 := by kernel_rfl }
def Tryz.lays159_ren : Go.Shelf.Ren := ⟨fun | 159 => 133 | 165 => 156 | 166 => 157 | 167 => 158 | 169 => 159 | 230 => 160 | 204 => 161 | 240 => 178 | 241 => 179 | 197 => 180 | 118 => 181 | 168 => 182 | 270 => 183 | 262 => 184 | 276 => 195 | 277 => 196 | 260 => 197 | 242 => 198 | 313 => 199 | 278 => 208 | 274 => 209 | 275 => 210 | n => n, fun | 9 => 9 | 4 => 4 | 3 => 3 | 5 => 5 | 72 => 172 | 0 => 0 | 76 => 176 | 75 => 175 | 107 => 181 | 70 => 170 | 20 => 20 | 37 => 126 | 127 => 193 | 21 => 21 | 105 => 141 | 164 => 210 | 162 => 216 | 203 => 214 | 119 => 146 | 46 => 150 | 139 => 149 | 138 => 148 | 51 => 203 | 160 => 230 | 208 => 239 | 206 => 237 | 80 => 179 | n => n, fun | 13 => 7 | 3 => 3 | 4 => 4 | n => n⟩
theorem Tryz.lays159 : Go.Proofs.Lays.n159 Tryz.prog Tryz.lays159_ren := {
 mixed := by kernel_rfl
 f118 := Tryz.func181.trans (congrArg some (by kernel_rfl))
 f159 := Tryz.func133.trans (congrArg some (by kernel_rfl))
 f165 := Tryz.func156.trans (congrArg some (by kernel_rfl))
 f166 := Tryz.func157.trans (congrArg some (by kernel_rfl))
 f167 := Tryz.func158.trans (congrArg some (by kernel_rfl))
 f168 := Tryz.func182.trans (congrArg some (by kernel_rfl))
 f169 := Tryz.func159.trans (congrArg some (by kernel_rfl))
 f197 := Tryz.func180.trans (congrArg some (by kernel_rfl))
 f204 := Tryz.func161.trans (congrArg some (by kernel_rfl))
 f230 := Tryz.func160.trans (congrArg some (by kernel_rfl))
 f240 := Tryz.func178.trans (congrArg some (by kernel_rfl))
 f241 := Tryz.func179.trans (congrArg some (by kernel_rfl))
 f242 := Tryz.func198.trans (congrArg some (by kernel_rfl))
 f260 := Tryz.func197.trans (congrArg some (by kernel_rfl))
 f262 := Tryz.func184.trans (congrArg some (by kernel_rfl))
 f270 := Tryz.func183.trans (congrArg some (by kernel_rfl))
 f274 := Tryz.func209.trans (congrArg some (by kernel_rfl))
 f275 := Tryz.func210.trans (congrArg some (by kernel_rfl))
 f276 := Tryz.func195.trans (congrArg some (by kernel_rfl))
 f277 := Tryz.func196.trans (congrArg some (by kernel_rfl))
 f278 := Tryz.func208.trans (congrArg some (by kernel_rfl))
 f313 := Tryz.func199.trans (congrArg some (by kernel_rfl))
 t0 := Tryz.underlying0
 a0 := Tryz.isAgg0
 z0 := Tryz.sizeOf0
 v0 := Tryz.zeroValue0
 t3 := Tryz.underlying3
 a3 := Tryz.isAgg3
 z3 := Tryz.sizeOf3
 v3 := Tryz.zeroValue3
 t4 := Tryz.underlying4
 a4 := Tryz.isAgg4
 z4 := Tryz.sizeOf4
 v4 := Tryz.zeroValue4
 t5 := Tryz.underlying5
 a5 := Tryz.isAgg5
 z5 := Tryz.sizeOf5
 v5 := Tryz.zeroValue5
 t9 := Tryz.underlying9
 a9 := Tryz.isAgg9
 z9 := Tryz.sizeOf9
 v9 := Tryz.zeroValue9
 t20 := Tryz.underlying20
 a20 := Tryz.isAgg20
 z20 := Tryz.sizeOf20
 v20 := Tryz.zeroValue20
 t21 := Tryz.underlying21
 a21 := Tryz.isAgg21
 z21 := Tryz.sizeOf21
 v21 := Tryz.zeroValue21
 t37 := Tryz.underlying126
 a37 := Tryz.isAgg126
 z37 := Tryz.sizeOf126
 v37 := Tryz.zeroValue126
 t46 := Tryz.underlying150
 a46 := Tryz.isAgg150
 z46 := Tryz.sizeOf150
 v46 := Tryz.zeroValue150
 t51 := Tryz.underlying203
 a51 := Tryz.isAgg203
 z51 := Tryz.sizeOf203
 v51 := Tryz.zeroValue203
 t70 := Tryz.underlying170
 a70 := Tryz.isAgg170
 z70 := Tryz.sizeOf170
 v70 := Tryz.zeroValue170
 t72 := Tryz.underlying172
 a72 := Tryz.isAgg172
 z72 := Tryz.sizeOf172
 v72 := Tryz.zeroValue172
 t75 := Tryz.underlying175
 a75 := Tryz.isAgg175
 z75 := Tryz.sizeOf175
 v75 := Tryz.zeroValue175
 t76 := Tryz.underlying176
 a76 := Tryz.isAgg176
 z76 := Tryz.sizeOf176
 v76 := Tryz.zeroValue176
 t105 := Tryz.underlying141
 a105 := Tryz.isAgg141
 z105 := Tryz.sizeOf141
 v105 := Tryz.zeroValue141
 t107 := Tryz.underlying181
 a107 := Tryz.isAgg181
 z107 := Tryz.sizeOf181
 v107 := Tryz.zeroValue181
 t119 := Tryz.underlying146
 a119 := Tryz.isAgg146
 z119 := Tryz.sizeOf146
 t127 := Tryz.underlying193
 a127 := Tryz.isAgg193
 z127 := Tryz.sizeOf193
 v127 := Tryz.zeroValue193
 t138 := Tryz.underlying148
 a138 := Tryz.isAgg148
 z138 := Tryz.sizeOf148
 v138 := Tryz.zeroValue148
 t139 := Tryz.underlying149
 a139 := Tryz.isAgg149
 z139 := Tryz.sizeOf149
 v139 := Tryz.zeroValue149
 t160 := Tryz.underlying230
 a160 := Tryz.isAgg230
 z160 := Tryz.sizeOf230
 v160 := Tryz.zeroValue230
 t162 := Tryz.underlying216
 a162 := Tryz.isAgg216
 z162 := Tryz.sizeOf216
 v162 := Tryz.zeroValue216
 t164 := Tryz.underlying210
 a164 := Tryz.isAgg210
 z164 := Tryz.sizeOf210
 v164 := Tryz.zeroValue210
 t203 := Tryz.underlying214
 a203 := Tryz.isAgg214
 z203 := Tryz.sizeOf214
 v203 := Tryz.zeroValue214
 t206 := Tryz.underlying237
 a206 := Tryz.isAgg237
 z206 := Tryz.sizeOf237
 v206 := Tryz.zeroValue237
 t208 := Tryz.underlying239
 a208 := Tryz.isAgg239
 z208 := Tryz.sizeOf239
 v208 := Tryz.zeroValue239
 g3 := by kernel_rfl
 g4 := by kernel_rfl
 g13 := by kernel_rfl }
def Tryz.lays242_ren : Go.Shelf.Ren := ⟨fun | 242 => 198 | 278 => 208 | n => n, fun | 37 => 126 | 21 => 21 | 51 => 203 | 4 => 4 | 5 => 5 | 46 => 150 | n => n, fun | n => n⟩
theorem Tryz.lays242 : Go.Proofs.Lays.n242 Tryz.prog Tryz.lays242_ren := {
 mixed := by kernel_rfl
 f242 := Tryz.func198.trans (congrArg some (by kernel_rfl))
 f278 := Tryz.func208.trans (congrArg some (by kernel_rfl))
 t4 := Tryz.underlying4
 a4 := Tryz.isAgg4
 z4 := Tryz.sizeOf4
 v4 := Tryz.zeroValue4
 t5 := Tryz.underlying5
 a5 := Tryz.isAgg5
 z5 := Tryz.sizeOf5
 v5 := Tryz.zeroValue5
 t21 := Tryz.underlying21
 a21 := Tryz.isAgg21
 z21 := Tryz.sizeOf21
 v21 := Tryz.zeroValue21
 t37 := Tryz.underlying126
 a37 := Tryz.isAgg126
 z37 := Tryz.sizeOf126
 v37 := Tryz.zeroValue126
 t46 := Tryz.underlying150
 a46 := Tryz.isAgg150
 z46 := Tryz.sizeOf150
 v46 := Tryz.zeroValue150
 t51 := Tryz.underlying203
 a51 := Tryz.isAgg203
 z51 := Tryz.sizeOf203
 v51 := Tryz.zeroValue203 }
def Tryz.lays146_ren : Go.Shelf.Ren := ⟨fun | 146 => 134 | 221 => 162 | 268 => 185 | 138 => 186 | 143 => 187 | 195 => 200 | 197 => 180 | 218 => 201 | 219 => 202 | 260 => 197 | 217 => 211 | 225 => 212 | 224 => 213 | 267 => 214 | 266 => 215 | 314 => 216 | n => n, fun | 9 => 9 | 31 => 27 | 3 => 3 | 4 => 4 | 0 => 0 | 105 => 141 | 21 => 21 | 5 => 5 | 46 => 150 | 119 => 146 | 139 => 149 | 138 => 148 | 146 => 240 | 51 => 203 | n => n, fun | 1 => 8 | 3 => 3 | 4 => 4 | n => n⟩
theorem Tryz.lays146 : Go.Proofs.Lays.n146 Tryz.prog Tryz.lays146_ren := {
 mixed := by kernel_rfl
 f138 := Tryz.func186.trans (congrArg some (by kernel_rfl))
 f143 := Tryz.func187.trans (congrArg some (by kernel_rfl))
 f146 := Tryz.func134.trans (congrArg some (by kernel_rfl))
 f195 := Tryz.func200.trans (congrArg some (by kernel_rfl))
 f197 := Tryz.func180.trans (congrArg some (by kernel_rfl))
 f217 := Tryz.func211.trans (congrArg some (by kernel_rfl))
 f218 := Tryz.func201.trans (congrArg some (by kernel_rfl))
 f219 := Tryz.func202.trans (congrArg some (by kernel_rfl))
 f221 := Tryz.func162.trans (congrArg some (by kernel_rfl))
 f224 := Tryz.func213.trans (congrArg some (by kernel_rfl))
 f225 := Tryz.func212.trans (congrArg some (by kernel_rfl))
 f260 := Tryz.func197.trans (congrArg some (by kernel_rfl))
 f266 := Tryz.func215.trans (congrArg some (by kernel_rfl))
 f267 := Tryz.func214.trans (congrArg some (by kernel_rfl))
 f268 := Tryz.func185.trans (congrArg some (by kernel_rfl))
 f314 := Tryz.func216.trans (congrArg some (by kernel_rfl))
 t0 := Tryz.underlying0
 a0 := Tryz.isAgg0
 z0 := Tryz.sizeOf0
 v0 := Tryz.zeroValue0
 t3 := Tryz.underlying3
 a3 := Tryz.isAgg3
 z3 := Tryz.sizeOf3
 v3 := Tryz.zeroValue3
 t4 := Tryz.underlying4
 a4 := Tryz.isAgg4
 z4 := Tryz.sizeOf4
 v4 := Tryz.zeroValue4
 t5 := Tryz.underlying5
 a5 := Tryz.isAgg5
 z5 := Tryz.sizeOf5
 v5 := Tryz.zeroValue5
 t9 := Tryz.underlying9
 a9 := Tryz.isAgg9
 z9 := Tryz.sizeOf9
 v9 := Tryz.zeroValue9
 t21 := Tryz.underlying21
 a21 := Tryz.isAgg21
 z21 := Tryz.sizeOf21
 v21 := Tryz.zeroValue21
 t31 := Tryz.underlying27
 a31 := Tryz.isAgg27
 z31 := Tryz.sizeOf27
 v31 := Tryz.zeroValue27
 t46 := Tryz.underlying150
 a46 := Tryz.isAgg150
 z46 := Tryz.sizeOf150
 v46 := Tryz.zeroValue150
 t51 := Tryz.underlying203
 a51 := Tryz.isAgg203
 z51 := Tryz.sizeOf203
 v51 := Tryz.zeroValue203
 t105 := Tryz.underlying141
 a105 := Tryz.isAgg141
 z105 := Tryz.sizeOf141
 v105 := Tryz.zeroValue141
 t119 := Tryz.underlying146
 a119 := Tryz.isAgg146
 z119 := Tryz.sizeOf146
 t138 := Tryz.underlying148
 a138 := Tryz.isAgg148
 z138 := Tryz.sizeOf148
 v138 := Tryz.zeroValue148
 t139 := Tryz.underlying149
 a139 := Tryz.isAgg149
 z139 := Tryz.sizeOf149
 v139 := Tryz.zeroValue149
 t146 := Tryz.underlying240
 a146 := Tryz.isAgg240
 z146 := Tryz.sizeOf240
 v146 := Tryz.zeroValue240
 g1 := by kernel_rfl
 g3 := by kernel_rfl
 g4 := by kernel_rfl }
theorem Tryz.Builder_Extra_158 : Builder.Extra Tryz.prog Tryz.lays158_ren := {
 sizeBuilder := by kernel_rfl
 liesBuilder := by kernel_rfl
 t5 := Tryz.underlying5
 a5 := Tryz.isAgg5
 z5 := Tryz.sizeOf5
 v5 := Tryz.zeroValue5
 infoByte := by kernel_rfl
 cellsByte := by kernel_rfl
 sizeByte := by kernel_rfl
 neB5 := by decide }
open Go.RowKit in
theorem Tryz.strings_ToUpper_ascii (s : ByteArray) (w : World) (hs : s.size ≤ 140737488355328) (hascii : ∀ (j : Nat) (b : UInt8), s.data.toList[j]? = some b → b.toNat < 128) :
  Calls Tryz.prog 172 #[.string s] w fun e w' => e = .returned (.string ⟨(Lib.toUpperA s.data.toList).toArray⟩) ∧ Below w.heap.size w w' := Any.strings_ToUpper_ascii Tryz.lays158 Tryz.Builder_Extra_158 s w hs hascii
theorem Tryz.Builder_Extra_159 : Builder.Extra Tryz.prog Tryz.lays159_ren := {
 sizeBuilder := by kernel_rfl
 liesBuilder := by kernel_rfl
 t5 := Tryz.underlying5
 a5 := Tryz.isAgg5
 z5 := Tryz.sizeOf5
 v5 := Tryz.zeroValue5
 infoByte := by kernel_rfl
 cellsByte := by kernel_rfl
 sizeByte := by kernel_rfl
 neB5 := by decide }
open Go.RowKit in
theorem Tryz.strings_ToLower_ascii (s : ByteArray) (w : World) (hs : s.size ≤ 140737488355328) (hascii : ∀ (j : Nat) (b : UInt8), s.data.toList[j]? = some b → b.toNat < 128) :
  Calls Tryz.prog 133 #[.string s] w fun e w' => e = .returned (.string ⟨(Lib.toLowerA s.data.toList).toArray⟩) ∧ Below w.heap.size w w' := Any.strings_ToLower_ascii Tryz.lays159 Tryz.Builder_Extra_159 s w hs hascii
open Go.RowKit in
theorem Tryz.utf8_AppendRune_plain (B : Nat) (v : Value) (n : Nat) (xs : List Value) (r : Int) (hr0 : -2147483648 ≤ r) (hr1 : r ≤ 2147483647) (w : World) (hown : w.ownsRow B 5 1 v n xs) (hlen : n + 4 ≤ 140737488355328) (hBw : B ≤ w.heap.size) :
  Calls Tryz.prog 198 #[v, .int .i32 r] w fun e w' => ∃ v', e = .returned v' ∧ w'.ownsRow B 5 1 v' (n + (Lib.runeCells r).length) (xs ++ Lib.runeCells r) ∧ ∃ o, (w.alloc o).grownBy w' v.ownBlock := Any.utf8_AppendRune_plain Tryz.lays242 (by kernel_rfl) B v n xs r hr0 hr1 w hown hlen hBw
open Go.RowKit Go.Lib in
theorem Tryz.strings_Split_chars (s sep : ByteArray) (w : World) (h0 : sep.size = 0) (hs : s.size < 4294967281) (hascii : ∀ (j : Nat) b, s.data.toList[j]? = some b → b.toNat < 128) :
  Calls Tryz.prog 134 #[.string s, .string sep] w fun e w' =>
   e = .returned (.slice (some ⟨(w.iter s s.size).heap.size, 0, none⟩) s.size s.size) ∧ w' = (w.iter s s.size).alloc (.cells ((Lib.charsB s).map Value.string).toArray 9) := Any.strings_Split_chars Tryz.lays146 (by kernel_rfl) s sep w h0 hs hascii
end Go.Proofs
