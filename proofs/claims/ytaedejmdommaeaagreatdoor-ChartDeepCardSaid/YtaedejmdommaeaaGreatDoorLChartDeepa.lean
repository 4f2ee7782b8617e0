import Derived.Shelf.Strings.Builder1
import Derived.Shelf.Strings.Builder2
import Derived.Shelf.Small.Strs
import Derived.Shelf.Strings.BuilderF
import Derived.Shelf.Strings.BuilderK
import Derived.Shelf.Strings.Builder2Cap
import Derived.Shelf.Strconv.Itoa0
import Derived.Shelf.Strconv.Itoa1
import Derived.Shelf.LaysM
import Derived.Shelf.Strconv.Itoa2
import Derived.Shelf.Strconv.Itoa3
import Derived.Shelf.Strconv.Itoa4
import Derived.Shelf.Strconv.ParseIntEmpty
import Derived.Shelf.Strconv.Clone
import Derived.Shelf.Strconv.SyntaxError
import Derived.Shelf.LaysC
import Derived.Shelf.Strconv.ToError
import Derived.Shelf.Strconv.Lower
import Derived.Shelf.Strconv.ParseUint10
import Derived.Shelf.Strconv.ParseUint10Empty
import Derived.Shelf.Strconv.ParseUint10Any
import Derived.Shelf.Strconv.ParseInt10
import Derived.Shelf.Strconv.RangeError
import Derived.Shelf.Strconv.ToErrorRange
import Derived.Shelf.Strconv.ParseUintEmpty
import Derived.Shelf.Strconv.ParseUint10b64
import Derived.Shelf.Strconv.ParseUint10b32
import Derived.Shelf.Strconv.ParseUint10b16
import Derived.Shelf.Strconv.ParseUint10b8
import Derived.Shelf.Strconv.ParseUint10At
import Derived.Shelf.Strconv.ParseInt10At64
import Derived.Shelf.Strconv.ParseInt10At32
import Derived.Shelf.Strconv.ParseInt10At16
import Derived.Shelf.Strconv.ParseInt10At8
import Derived.Shelf.Strconv.ParseInt10All
import Derived.Shelf.Strconv.ParseIntPublic10
import Derived.Shelf.Strings.Search1
import Derived.Shelf.Strings.Search2
import Derived.Shelf.Strings.Search3
import Derived.Shelf.Strings.Shaped
import Derived.Shelf.Strings.Prefix
import Derived.Shelf.Bits.Mul64
import Derived.Shelf.Strings.Repeat
import Derived.Lib.ItoaMem
import Derived.Stop.LaidErr
import Derived.Shelf.Vars
import Derived.MakeChecks
import Derived.LaidHandle
import Derived.ChangeSame
import Derived.ChangeVars
import Derived.JoinedOf
import Derived.RowKit
import Derived.HandedShaped
import Derived.LaidMore
import Derived.LaidLaws
import Derived.Lay
import Derived.Lib.ParseIntB
import Derived.Test.YtaedejmdommaeaaGreatDoorProg
import Derived.Test.YtaedejmdommaeaaGreatDoorRows
import Derived.Test.YtaedejmdommaeaaGreatDoorSc
set_option linter.unusedVariables false
set_option linter.unusedSimpArgs false
/-
 DERIVED:THE SHELF's CONTRACTS AT THIS DUMP,IN PLAIN WORDS (tools/lay-plain.mjs out of 'XAcL.lean',which tools/lay-shelf.mjs wrote):THE SAME DECLARATIONS UNDER THE SAME NAMES: 'import', 'namespace', 'open', 'def', 'theorem' AND NOTHING ELSE:no command of the shelf's:FOR A HAND-IN. Each laying:the table of numbers ('.._ren') and one theorem,a field a fact of the dump's own or the kernel's comparison; each contract:ONE APPLICATION.
-/
namespace Go.Proofs
open Go.Shelf
def Tryz.Oe:Go.Shelf.Ren:=⟨fun | 137=>96 | 217=>128 | 266=>153 | n=>n,fun | 9=>9 | 5=>5 | 3=>3 | n=>n,fun | n=>n⟩
theorem Tryz.Od:Go.Proofs.Lays.n137 Tryz.prog Tryz.Oe:= {
 mixed:=by kernel_rfl
 f137:=Tryz.func96.trans (congrArg some (by kernel_rfl))
 f217:=Tryz.func128.trans (congrArg some (by kernel_rfl))
 f266:=Tryz.func153.trans (congrArg some (by kernel_rfl))
 t3:=Tryz.underlying3
 a3:=Tryz.isAgg3
 z3:=Tryz.sizeOf3
 v3:=Tryz.zeroValue3
 t5:=Tryz.underlying5
 a5:=Tryz.isAgg5
 z5:=Tryz.sizeOf5
 v5:=Tryz.zeroValue5
 t9:=Tryz.underlying9
 a9:=Tryz.isAgg9
 z9:=Tryz.sizeOf9
 v9:=Tryz.zeroValue9 }
open Go.RowKit in
theorem Tryz.strings_IndexByte (s:ByteArray) (c:Int) (w:World):
 Calls Tryz.prog 96 #[.string s, .int .u8 c] w fun e w'=>e= .returned (.int .i64 (Lib.indexByte s.data.toList c.toNat.toUInt8))∧w'=w:=Any.strings_IndexByte Tryz.Od s c w
def Tryz.Og:Go.Shelf.Ren:=⟨fun | 144=>130 | 143=>156 | 219=>173 | 217=>128 | 225=>185 | 224=>186 | 267=>187 | 266=>153 | 314=>197 | n=>n,fun | 9=>9 | 4=>4 | 3=>3 | 5=>5 | 46=>167 | 146=>189 | 51=>185 | n=>n,fun | 1=>1 | n=>n⟩
theorem Tryz.Of:Go.Proofs.Lays.n144 Tryz.prog Tryz.Og:= {
 mixed:=by kernel_rfl
 f143:=Tryz.func156.trans (congrArg some (by kernel_rfl))
 f144:=Tryz.func130.trans (congrArg some (by kernel_rfl))
 f217:=Tryz.func128.trans (congrArg some (by kernel_rfl))
 f219:=Tryz.func173.trans (congrArg some (by kernel_rfl))
 f224:=Tryz.func186.trans (congrArg some (by kernel_rfl))
 f225:=Tryz.func185.trans (congrArg some (by kernel_rfl))
 f266:=Tryz.func153.trans (congrArg some (by kernel_rfl))
 f267:=Tryz.func187.trans (congrArg some (by kernel_rfl))
 f314:=Tryz.func197.trans (congrArg some (by kernel_rfl))
 t3:=Tryz.underlying3
 a3:=Tryz.isAgg3
 z3:=Tryz.sizeOf3
 v3:=Tryz.zeroValue3
 t4:=Tryz.underlying4
 a4:=Tryz.isAgg4
 z4:=Tryz.sizeOf4
 v4:=Tryz.zeroValue4
 t5:=Tryz.underlying5
 a5:=Tryz.isAgg5
 z5:=Tryz.sizeOf5
 v5:=Tryz.zeroValue5
 t9:=Tryz.underlying9
 a9:=Tryz.isAgg9
 z9:=Tryz.sizeOf9
 v9:=Tryz.zeroValue9
 t46:=Tryz.underlying167
 a46:=Tryz.isAgg167
 z46:=Tryz.sizeOf167
 v46:=Tryz.zeroValue167
 t51:=Tryz.underlying185
 a51:=Tryz.isAgg185
 z51:=Tryz.sizeOf185
 v51:=Tryz.zeroValue185
 t146:=Tryz.underlying189
 a146:=Tryz.isAgg189
 z146:=Tryz.sizeOf189
 v146:=Tryz.zeroValue189
 g1:=by kernel_rfl }
open Go.RowKit Go.Lib in
theorem Tryz.strings_Contains (s sub:ByteArray) (m:Int) (w:World) (hs:s.size<4294967281) (hm:w.cell? ⟨1,0,none⟩=some (.int .i64 m)):
 Calls Tryz.prog 130 #[.string s, .string sub] w fun e w'=>e= .returned (.bool (Lib.contains s.data.toList sub.data.toList))∧w'=w:=Any.strings_Contains Tryz.Of s sub m w hs hm
def Tryz.Oj:Go.Shelf.Ren:=⟨fun | 174=>129 | 247=>154 | 245=>155 | 287=>168 | 279=>169 | 280=>170 | 281=>171 | 282=>172 | 321=>181 | 322=>182 | 316=>183 | 171=>39 | 205=>184 | 243=>82 | 246=>83 | 283=>116 | 284=>117 | 285=>118 | 286=>119 | 129=>138 | 317=>137 | 318=>139 | 319=>140 | 320=>141 | 337=>162 | 338=>163 | n=>n,fun | 9=>9 | 3=>3 | 2=>2 | 75=>87 | 85=>177 | 4=>4 | 167=>210 | 5=>5 | 53=>162 | 175=>211 | 46=>167 | 168=>213 | 37=>36 | 0=>0 | 210=>237 | 21=>21 | 127=>133 | 145=>250 | 143=>248 | 171=>161 | 173=>165 | 212=>184 | 51=>185 | 20=>20 | 213=>186 | 232=>229 | 233=>230 | 80=>77 | n=>n,fun | 15=>4 | 16=>5 | 17=>0 | 18=>2 | 19=>3 | n=>n⟩
theorem Tryz.A1:Go.Proofs.LaysC.n174 Tryz.prog Tryz.Oj:= {
 mixed:=by kernel_rfl
 f129:=Tryz.func138.trans (congrArg some (by kernel_rfl))
 f171:=Tryz.func39.trans (congrArg some (by kernel_rfl))
 f174:=Tryz.func129.trans (congrArg some (by kernel_rfl))
 f205:=Tryz.func184.trans (congrArg some (by kernel_rfl))
 f243:=Tryz.func82.trans (congrArg some (by kernel_rfl))
 f245:=Tryz.func155.trans (congrArg some (by kernel_rfl))
 f246:=Tryz.func83.trans (congrArg some (by kernel_rfl))
 f247:=Tryz.func154.trans (congrArg some (by kernel_rfl))
 f279:=Tryz.func169.trans (congrArg some (by kernel_rfl))
 f280:=Tryz.func170.trans (congrArg some (by kernel_rfl))
 f281:=Tryz.func171.trans (congrArg some (by kernel_rfl))
 f282:=Tryz.func172.trans (congrArg some (by kernel_rfl))
 f283:=Tryz.func116.trans (congrArg some (by kernel_rfl))
 f284:=Tryz.func117.trans (congrArg some (by kernel_rfl))
 f285:=Tryz.func118.trans (congrArg some (by kernel_rfl))
 f286:=Tryz.func119.trans (congrArg some (by kernel_rfl))
 f287:=Tryz.func168.trans (congrArg some (by kernel_rfl))
 f316:=Tryz.func183.trans (congrArg some (by kernel_rfl))
 f317:=Tryz.func137.trans (congrArg some (by kernel_rfl))
 f318:=Tryz.func139.trans (congrArg some (by kernel_rfl))
 f319:=Tryz.func140.trans (congrArg some (by kernel_rfl))
 f320:=Tryz.func141.trans (congrArg some (by kernel_rfl))
 f321:=Tryz.func181.trans (congrArg some (by kernel_rfl))
 f322:=Tryz.func182.trans (congrArg some (by kernel_rfl))
 f337:=Tryz.func162.trans (congrArg some (by kernel_rfl))
 f338:=Tryz.func163.trans (congrArg some (by kernel_rfl))
 t0:=Tryz.underlying0
 a0:=Tryz.isAgg0
 z0:=Tryz.sizeOf0
 v0:=Tryz.zeroValue0
 t2:=Tryz.underlying2
 a2:=Tryz.isAgg2
 z2:=Tryz.sizeOf2
 v2:=Tryz.zeroValue2
 t3:=Tryz.underlying3
 a3:=Tryz.isAgg3
 z3:=Tryz.sizeOf3
 v3:=Tryz.zeroValue3
 t4:=Tryz.underlying4
 a4:=Tryz.isAgg4
 z4:=Tryz.sizeOf4
 v4:=Tryz.zeroValue4
 t5:=Tryz.underlying5
 a5:=Tryz.isAgg5
 z5:=Tryz.sizeOf5
 v5:=Tryz.zeroValue5
 t9:=Tryz.underlying9
 a9:=Tryz.isAgg9
 z9:=Tryz.sizeOf9
 v9:=Tryz.zeroValue9
 t20:=Tryz.underlying20
 a20:=Tryz.isAgg20
 z20:=Tryz.sizeOf20
 v20:=Tryz.zeroValue20
 t21:=Tryz.underlying21
 a21:=Tryz.isAgg21
 z21:=Tryz.sizeOf21
 v21:=Tryz.zeroValue21
 t37:=Tryz.underlying36
 a37:=Tryz.isAgg36
 z37:=Tryz.sizeOf36
 v37:=Tryz.zeroValue36
 t46:=Tryz.underlying167
 a46:=Tryz.isAgg167
 z46:=Tryz.sizeOf167
 v46:=Tryz.zeroValue167
 t51:=Tryz.underlying185
 a51:=Tryz.isAgg185
 z51:=Tryz.sizeOf185
 v51:=Tryz.zeroValue185
 t53:=Tryz.underlying162
 a53:=Tryz.isAgg162
 z53:=Tryz.sizeOf162
 v53:=Tryz.zeroValue162
 t75:=Tryz.underlying87
 a75:=Tryz.isAgg87
 z75:=Tryz.sizeOf87
 v75:=Tryz.zeroValue87
 t85:=Tryz.underlying177
 a85:=Tryz.isAgg177
 z85:=Tryz.sizeOf177
 v85:=Tryz.zeroValue177
 t127:=Tryz.underlying133
 a127:=Tryz.isAgg133
 z127:=Tryz.sizeOf133
 v127:=Tryz.zeroValue133
 t143:=Tryz.underlying248
 a143:=Tryz.isAgg248
 z143:=Tryz.sizeOf248
 v143:=Tryz.zeroValue248
 t145:=Tryz.underlying250
 a145:=Tryz.isAgg250
 z145:=Tryz.sizeOf250
 v145:=Tryz.zeroValue250
 t167:=Tryz.underlying210
 a167:=Tryz.isAgg210
 z167:=Tryz.sizeOf210
 v167:=Tryz.zeroValue210
 t168:=Tryz.underlying213
 a168:=Tryz.isAgg213
 z168:=Tryz.sizeOf213
 v168:=Tryz.zeroValue213
 t171:=Tryz.underlying161
 a171:=Tryz.isAgg161
 z171:=Tryz.sizeOf161
 v171:=Tryz.zeroValue161
 t173:=Tryz.underlying165
 a173:=Tryz.isAgg165
 z173:=Tryz.sizeOf165
 v173:=Tryz.zeroValue165
 t175:=Tryz.underlying211
 a175:=Tryz.isAgg211
 z175:=Tryz.sizeOf211
 v175:=Tryz.zeroValue211
 t210:=Tryz.underlying237
 a210:=Tryz.isAgg237
 z210:=Tryz.sizeOf237
 v210:=Tryz.zeroValue237
 t212:=Tryz.underlying184
 a212:=Tryz.isAgg184
 z212:=Tryz.sizeOf184
 v212:=Tryz.zeroValue184
 t213:=Tryz.underlying186
 a213:=Tryz.isAgg186
 z213:=Tryz.sizeOf186
 t232:=Tryz.underlying229
 a232:=Tryz.isAgg229
 z232:=Tryz.sizeOf229
 v232:=Tryz.zeroValue229
 t233:=Tryz.underlying230
 a233:=Tryz.isAgg230
 z233:=Tryz.sizeOf230
 v233:=Tryz.zeroValue230
 g15:=by kernel_rfl
 g16:=by kernel_rfl
 g17:=by kernel_rfl
 g18:=by kernel_rfl
 g19:=by kernel_rfl
 t80:=Tryz.underlying77
 a80:=Tryz.isAgg77
 z80:=Tryz.sizeOf77
 v80:=Tryz.zeroValue77
 i0:=by kernel_rfl
 i2:=by kernel_rfl
 i3:=by kernel_rfl
 i4:=by kernel_rfl
 i5:=by kernel_rfl
 i9:=by kernel_rfl
 i20:=by kernel_rfl
 i21:=by kernel_rfl
 i37:=by kernel_rfl
 i46:=by kernel_rfl
 i51:=by kernel_rfl
 i53:=by kernel_rfl
 i75:=by kernel_rfl
 i80:=by kernel_rfl
 i85:=by kernel_rfl
 i127:=by kernel_rfl
 i143:=by kernel_rfl
 i145:=by kernel_rfl
 i167:=by kernel_rfl
 i168:=by kernel_rfl
 i171:=by kernel_rfl
 i173:=by kernel_rfl
 i175:=by kernel_rfl
 i210:=by kernel_rfl
 i212:=by kernel_rfl
 i232:=by kernel_rfl
 i233:=by kernel_rfl
 m15:=by kernel_rfl
 m16:=by kernel_rfl
 m17:=by kernel_rfl
 m18:=by kernel_rfl
 m19:=by kernel_rfl
 c0:=by kernel_rfl
 c2:=by kernel_rfl
 c3:=by kernel_rfl
 c4:=by kernel_rfl
 c5:=by kernel_rfl
 c9:=by kernel_rfl
 c20:=by kernel_rfl
 c21:=by kernel_rfl
 c37:=by kernel_rfl
 c46:=by kernel_rfl
 c51:=by kernel_rfl
 c53:=by kernel_rfl
 c75:=by kernel_rfl
 c80:=by kernel_rfl
 c85:=by kernel_rfl
 c127:=by kernel_rfl
 c143:=by kernel_rfl
 c145:=by kernel_rfl
 c167:=by kernel_rfl
 c168:=by kernel_rfl
 c171:=by kernel_rfl
 c173:=by kernel_rfl
 c175:=by kernel_rfl
 c210:=by kernel_rfl
 c212:=by kernel_rfl
 c213:=by kernel_rfl
 c232:=by kernel_rfl
 c233:=by kernel_rfl }
open Go.RowKit in
theorem Tryz.strconv_ParseInt_10_at64_ok (s:ByteArray) (hmax:s.size≤9223372036854775806) (v:Int) (h:Lib.parseIntB 64 s.data.toList= .ok v) (w:World):
 Calls Tryz.prog 129 #[.string s, .int .i64 10, .int .i64 64] w fun e w'=>e= .returned (.tuple #[.int .i64 v, .nilIface])∧(w'=w∨ ∃ t,w'=Lib.bytesWorld w 5 t):=Any.strconv_ParseInt_10_at64_ok Tryz.A1 s hmax v h w
open Go.RowKit in
theorem Tryz.strconv_ParseInt_10_at64_range (s:ByteArray) (hlim:s.size≤281474976710656) (h:Lib.parseIntB 64 s.data.toList= .range) (ev:Value) (w:World) (hv:w.cell? ⟨5,0,none⟩=some ev) (hev:ev= .nilIface∨ ∃ te pe,ev= .iface te pe):
 Calls Tryz.prog 129 #[.string s, .int .i64 10, .int .i64 64] w fun e w'=> ∃ N,e= .returned (.tuple #[.int .i64 (Lib.intSat 64 s.data.toList), .iface 213 (.pointer (some ⟨N,0,none⟩))])∧w.heap.size≤N∧w'.heap[N]? =some (.cells #[.string ⟨#[80,97,114,115,101,73,110,116]⟩, .string s,ev] 237 (0,0))∧Below w.heap.size w w':=Any.strconv_ParseInt_10_at64_range Tryz.A1 s hlim h ev w hv hev
def Tryz.Oo:Go.Shelf.Ren:=⟨fun | 173=>40 | 246=>83 | 283=>116 | 284=>117 | 285=>118 | 286=>119 | 129=>138 | 317=>137 | 318=>139 | 319=>140 | 320=>141 | 337=>162 | 338=>163 | n=>n,fun | 2=>2 | 3=>3 | 9=>9 | 4=>4 | 171=>161 | 0=>0 | 53=>162 | 37=>36 | 5=>5 | 173=>165 | 212=>184 | 51=>185 | 20=>20 | 213=>186 | 46=>167 | 232=>229 | 233=>230 | n=>n,fun | 17=>0 | 18=>2 | 19=>3 | n=>n⟩
theorem Tryz.On:Go.Proofs.LaysM.n173 Tryz.prog Tryz.Oo:= {
 mixed:=by kernel_rfl
 f129:=Tryz.func138.trans (congrArg some (by kernel_rfl))
 f173:=Tryz.func40.trans (congrArg some (by kernel_rfl))
 f246:=Tryz.func83.trans (congrArg some (by kernel_rfl))
 f283:=Tryz.func116.trans (congrArg some (by kernel_rfl))
 f284:=Tryz.func117.trans (congrArg some (by kernel_rfl))
 f285:=Tryz.func118.trans (congrArg some (by kernel_rfl))
 f286:=Tryz.func119.trans (congrArg some (by kernel_rfl))
 f317:=Tryz.func137.trans (congrArg some (by kernel_rfl))
 f318:=Tryz.func139.trans (congrArg some (by kernel_rfl))
 f319:=Tryz.func140.trans (congrArg some (by kernel_rfl))
 f320:=Tryz.func141.trans (congrArg some (by kernel_rfl))
 f337:=Tryz.func162.trans (congrArg some (by kernel_rfl))
 f338:=Tryz.func163.trans (congrArg some (by kernel_rfl))
 t0:=Tryz.underlying0
 a0:=Tryz.isAgg0
 z0:=Tryz.sizeOf0
 v0:=Tryz.zeroValue0
 t2:=Tryz.underlying2
 a2:=Tryz.isAgg2
 z2:=Tryz.sizeOf2
 v2:=Tryz.zeroValue2
 t3:=Tryz.underlying3
 a3:=Tryz.isAgg3
 z3:=Tryz.sizeOf3
 v3:=Tryz.zeroValue3
 t4:=Tryz.underlying4
 a4:=Tryz.isAgg4
 z4:=Tryz.sizeOf4
 v4:=Tryz.zeroValue4
 t5:=Tryz.underlying5
 a5:=Tryz.isAgg5
 z5:=Tryz.sizeOf5
 v5:=Tryz.zeroValue5
 t9:=Tryz.underlying9
 a9:=Tryz.isAgg9
 z9:=Tryz.sizeOf9
 v9:=Tryz.zeroValue9
 t20:=Tryz.underlying20
 a20:=Tryz.isAgg20
 z20:=Tryz.sizeOf20
 v20:=Tryz.zeroValue20
 t37:=Tryz.underlying36
 a37:=Tryz.isAgg36
 z37:=Tryz.sizeOf36
 v37:=Tryz.zeroValue36
 t46:=Tryz.underlying167
 a46:=Tryz.isAgg167
 z46:=Tryz.sizeOf167
 v46:=Tryz.zeroValue167
 t51:=Tryz.underlying185
 a51:=Tryz.isAgg185
 z51:=Tryz.sizeOf185
 v51:=Tryz.zeroValue185
 t53:=Tryz.underlying162
 a53:=Tryz.isAgg162
 z53:=Tryz.sizeOf162
 v53:=Tryz.zeroValue162
 t171:=Tryz.underlying161
 a171:=Tryz.isAgg161
 z171:=Tryz.sizeOf161
 v171:=Tryz.zeroValue161
 t173:=Tryz.underlying165
 a173:=Tryz.isAgg165
 z173:=Tryz.sizeOf165
 v173:=Tryz.zeroValue165
 t212:=Tryz.underlying184
 a212:=Tryz.isAgg184
 z212:=Tryz.sizeOf184
 v212:=Tryz.zeroValue184
 t213:=Tryz.underlying186
 a213:=Tryz.isAgg186
 z213:=Tryz.sizeOf186
 t232:=Tryz.underlying229
 a232:=Tryz.isAgg229
 z232:=Tryz.sizeOf229
 v232:=Tryz.zeroValue229
 t233:=Tryz.underlying230
 a233:=Tryz.isAgg230
 z233:=Tryz.sizeOf230
 v233:=Tryz.zeroValue230
 g17:=by kernel_rfl
 g18:=by kernel_rfl
 g19:=by kernel_rfl
 i0:=by kernel_rfl
 i2:=by kernel_rfl
 i3:=by kernel_rfl
 i4:=by kernel_rfl
 i5:=by kernel_rfl
 i9:=by kernel_rfl
 i20:=by kernel_rfl
 i37:=by kernel_rfl
 i46:=by kernel_rfl
 i51:=by kernel_rfl
 i53:=by kernel_rfl
 i171:=by kernel_rfl
 i173:=by kernel_rfl
 i212:=by kernel_rfl
 i232:=by kernel_rfl
 i233:=by kernel_rfl
 m17:=by kernel_rfl
 m18:=by kernel_rfl
 m19:=by kernel_rfl }
open Go.RowKit Go.Sort Go.Lib in
theorem Tryz.strconv_FormatInt_10 (n:Int) (h0: -9223372036854775808≤n) (h1:n≤9223372036854775807) (w:World) (htab:Lib.TabIs Tryz.prog w "internal/strconv.uint64pow10" .u64 Lib.pow10Tab):
 Calls Tryz.prog 40 #[.int .i64 n, .int .i64 10] w fun e w'=>e= .returned (.string ⟨(Lib.itoa n).toArray⟩)∧ ∃ k os,w'=grow (w.drewN k) os:=Any.strconv_FormatInt_10 Tryz.On n h0 h1 w htab
def Tryz.A0:Go.Shelf.Ren:=⟨fun | 169=>42 | n=>n,fun | 70=>83 | 9=>9 | 0=>0 | 72=>85 | 37=>36 | 127=>133 | 3=>3 | 5=>5 | n=>n,fun | n=>n⟩
theorem Tryz.Oi:Go.Proofs.Lays.n169 Tryz.prog Tryz.A0:= {
 mixed:=by kernel_rfl
 f169:=Tryz.func42.trans (congrArg some (by kernel_rfl))
 t0:=Tryz.underlying0
 a0:=Tryz.isAgg0
 z0:=Tryz.sizeOf0
 v0:=Tryz.zeroValue0
 t3:=Tryz.underlying3
 a3:=Tryz.isAgg3
 z3:=Tryz.sizeOf3
 v3:=Tryz.zeroValue3
 t9:=Tryz.underlying9
 a9:=Tryz.isAgg9
 z9:=Tryz.sizeOf9
 v9:=Tryz.zeroValue9
 t37:=Tryz.underlying36
 a37:=Tryz.isAgg36
 z37:=Tryz.sizeOf36
 v37:=Tryz.zeroValue36
 t70:=Tryz.underlying83
 a70:=Tryz.isAgg83
 z70:=Tryz.sizeOf83
 v70:=Tryz.zeroValue83
 t72:=Tryz.underlying85
 a72:=Tryz.isAgg85
 z72:=Tryz.sizeOf85
 v72:=Tryz.zeroValue85
 t127:=Tryz.underlying133
 a127:=Tryz.isAgg133
 z127:=Tryz.sizeOf133
 v127:=Tryz.zeroValue133 }
theorem Tryz.IT:Builder.Extra Tryz.prog Tryz.A0:= {
 sizeBuilder:=by kernel_rfl
 liesBuilder:=by kernel_rfl
 t5:=Tryz.underlying5
 a5:=Tryz.isAgg5
 z5:=Tryz.sizeOf5
 v5:=Tryz.zeroValue5
 infoByte:=by kernel_rfl
 cellsByte:=by kernel_rfl
 sizeByte:=by kernel_rfl
 neB5:=by decide }
open Go.RowKit in
def Tryz.FU:Go.Shelf.Ren:=⟨fun | 105=>84 | 212=>120 | 99=>121 | 165=>122 | 166=>38 | 170=>123 | 169=>42 | 263=>142 | 264=>143 | 206=>144 | 240=>81 | 241=>145 | 276=>115 | 277=>164 | n=>n,fun | 9=>9 | 3=>3 | 4=>4 | 20=>20 | 0=>0 | 46=>167 | 109=>168 | 5=>5 | 72=>85 | 76=>88 | 51=>185 | 146=>189 | 53=>162 | 148=>191 | 70=>83 | 37=>36 | 75=>87 | 127=>133 | 164=>159 | 80=>77 | n=>n,fun | n=>n⟩
theorem Tryz.Oc:Go.Proofs.Lays.n105 Tryz.prog Tryz.FU:= {
 mixed:=by kernel_rfl
 f99:=Tryz.func121.trans (congrArg some (by kernel_rfl))
 f105:=Tryz.func84.trans (congrArg some (by kernel_rfl))
 f165:=Tryz.func122.trans (congrArg some (by kernel_rfl))
 f166:=Tryz.func38.trans (congrArg some (by kernel_rfl))
 f169:=Tryz.func42.trans (congrArg some (by kernel_rfl))
 f170:=Tryz.func123.trans (congrArg some (by kernel_rfl))
 f206:=Tryz.func144.trans (congrArg some (by kernel_rfl))
 f212:=Tryz.func120.trans (congrArg some (by kernel_rfl))
 f240:=Tryz.func81.trans (congrArg some (by kernel_rfl))
 f241:=Tryz.func145.trans (congrArg some (by kernel_rfl))
 f263:=Tryz.func142.trans (congrArg some (by kernel_rfl))
 f264:=Tryz.func143.trans (congrArg some (by kernel_rfl))
 f276:=Tryz.func115.trans (congrArg some (by kernel_rfl))
 f277:=Tryz.func164.trans (congrArg some (by kernel_rfl))
 t0:=Tryz.underlying0
 a0:=Tryz.isAgg0
 z0:=Tryz.sizeOf0
 v0:=Tryz.zeroValue0
 t3:=Tryz.underlying3
 a3:=Tryz.isAgg3
 z3:=Tryz.sizeOf3
 v3:=Tryz.zeroValue3
 t4:=Tryz.underlying4
 a4:=Tryz.isAgg4
 z4:=Tryz.sizeOf4
 v4:=Tryz.zeroValue4
 t5:=Tryz.underlying5
 a5:=Tryz.isAgg5
 z5:=Tryz.sizeOf5
 v5:=Tryz.zeroValue5
 t9:=Tryz.underlying9
 a9:=Tryz.isAgg9
 z9:=Tryz.sizeOf9
 v9:=Tryz.zeroValue9
 t20:=Tryz.underlying20
 a20:=Tryz.isAgg20
 z20:=Tryz.sizeOf20
 v20:=Tryz.zeroValue20
 t37:=Tryz.underlying36
 a37:=Tryz.isAgg36
 z37:=Tryz.sizeOf36
 v37:=Tryz.zeroValue36
 t46:=Tryz.underlying167
 a46:=Tryz.isAgg167
 z46:=Tryz.sizeOf167
 v46:=Tryz.zeroValue167
 t51:=Tryz.underlying185
 a51:=Tryz.isAgg185
 z51:=Tryz.sizeOf185
 v51:=Tryz.zeroValue185
 t53:=Tryz.underlying162
 a53:=Tryz.isAgg162
 z53:=Tryz.sizeOf162
 v53:=Tryz.zeroValue162
 t70:=Tryz.underlying83
 a70:=Tryz.isAgg83
 z70:=Tryz.sizeOf83
 v70:=Tryz.zeroValue83
 t72:=Tryz.underlying85
 a72:=Tryz.isAgg85
 z72:=Tryz.sizeOf85
 v72:=Tryz.zeroValue85
 t75:=Tryz.underlying87
 a75:=Tryz.isAgg87
 z75:=Tryz.sizeOf87
 v75:=Tryz.zeroValue87
 t76:=Tryz.underlying88
 a76:=Tryz.isAgg88
 z76:=Tryz.sizeOf88
 v76:=Tryz.zeroValue88
 t109:=Tryz.underlying168
 a109:=Tryz.isAgg168
 z109:=Tryz.sizeOf168
 v109:=Tryz.zeroValue168
 t127:=Tryz.underlying133
 a127:=Tryz.isAgg133
 z127:=Tryz.sizeOf133
 v127:=Tryz.zeroValue133
 t146:=Tryz.underlying189
 a146:=Tryz.isAgg189
 z146:=Tryz.sizeOf189
 v146:=Tryz.zeroValue189
 t148:=Tryz.underlying191
 a148:=Tryz.isAgg191
 z148:=Tryz.sizeOf191
 v148:=Tryz.zeroValue191
 t164:=Tryz.underlying159
 a164:=Tryz.isAgg159
 z164:=Tryz.sizeOf159
 v164:=Tryz.zeroValue159 }
theorem Tryz.IP:Builder.Extra Tryz.prog Tryz.FU:= {
 sizeBuilder:=by kernel_rfl
 liesBuilder:=by kernel_rfl
 t5:=Tryz.underlying5
 a5:=Tryz.isAgg5
 z5:=Tryz.sizeOf5
 v5:=Tryz.zeroValue5
 infoByte:=by kernel_rfl
 cellsByte:=by kernel_rfl
 sizeByte:=by kernel_rfl
 neB5:=by decide }
open Go.RowKit Go.Lib in
theorem Tryz.strings_Repeat (s:ByteArray) (c:Nat) (w:World) (hc:c≤9223372036854775807) (hlen:s.size*c≤140737488355328):
 Calls Tryz.prog 84 #[.string s, .int .i64 c] w fun e w'=>e= .returned (.string ⟨(Lib.repeatL s.data.toList c).toArray⟩)∧Below w.heap.size w w':=Any.strings_Repeat Tryz.Oc Tryz.IP s c w hc hlen
def Tryz.Om:Go.Shelf.Ren:=⟨fun | 171=>39 | 243=>82 | 246=>83 | 283=>116 | 284=>117 | 285=>118 | 286=>119 | 129=>138 | 317=>137 | 318=>139 | 319=>140 | 320=>141 | 337=>162 | 338=>163 | n=>n,fun | 3=>3 | 9=>9 | 2=>2 | 4=>4 | 171=>161 | 0=>0 | 53=>162 | 37=>36 | 5=>5 | 173=>165 | 212=>184 | 51=>185 | 20=>20 | 213=>186 | 46=>167 | 232=>229 | 233=>230 | n=>n,fun | 17=>0 | 18=>2 | 19=>3 | n=>n⟩
theorem Tryz.Ol:Go.Proofs.LaysM.n171 Tryz.prog Tryz.Om:= {
 mixed:=by kernel_rfl
 f129:=Tryz.func138.trans (congrArg some (by kernel_rfl))
 f171:=Tryz.func39.trans (congrArg some (by kernel_rfl))
 f243:=Tryz.func82.trans (congrArg some (by kernel_rfl))
 f246:=Tryz.func83.trans (congrArg some (by kernel_rfl))
 f283:=Tryz.func116.trans (congrArg some (by kernel_rfl))
 f284:=Tryz.func117.trans (congrArg some (by kernel_rfl))
 f285:=Tryz.func118.trans (congrArg some (by kernel_rfl))
 f286:=Tryz.func119.trans (congrArg some (by kernel_rfl))
 f317:=Tryz.func137.trans (congrArg some (by kernel_rfl))
 f318:=Tryz.func139.trans (congrArg some (by kernel_rfl))
 f319:=Tryz.func140.trans (congrArg some (by kernel_rfl))
 f320:=Tryz.func141.trans (congrArg some (by kernel_rfl))
 f337:=Tryz.func162.trans (congrArg some (by kernel_rfl))
 f338:=Tryz.func163.trans (congrArg some (by kernel_rfl))
 t0:=Tryz.underlying0
 a0:=Tryz.isAgg0
 z0:=Tryz.sizeOf0
 v0:=Tryz.zeroValue0
 t2:=Tryz.underlying2
 a2:=Tryz.isAgg2
 z2:=Tryz.sizeOf2
 v2:=Tryz.zeroValue2
 t3:=Tryz.underlying3
 a3:=Tryz.isAgg3
 z3:=Tryz.sizeOf3
 v3:=Tryz.zeroValue3
 t4:=Tryz.underlying4
 a4:=Tryz.isAgg4
 z4:=Tryz.sizeOf4
 v4:=Tryz.zeroValue4
 t5:=Tryz.underlying5
 a5:=Tryz.isAgg5
 z5:=Tryz.sizeOf5
 v5:=Tryz.zeroValue5
 t9:=Tryz.underlying9
 a9:=Tryz.isAgg9
 z9:=Tryz.sizeOf9
 v9:=Tryz.zeroValue9
 t20:=Tryz.underlying20
 a20:=Tryz.isAgg20
 z20:=Tryz.sizeOf20
 v20:=Tryz.zeroValue20
 t37:=Tryz.underlying36
 a37:=Tryz.isAgg36
 z37:=Tryz.sizeOf36
 v37:=Tryz.zeroValue36
 t46:=Tryz.underlying167
 a46:=Tryz.isAgg167
 z46:=Tryz.sizeOf167
 v46:=Tryz.zeroValue167
 t51:=Tryz.underlying185
 a51:=Tryz.isAgg185
 z51:=Tryz.sizeOf185
 v51:=Tryz.zeroValue185
 t53:=Tryz.underlying162
 a53:=Tryz.isAgg162
 z53:=Tryz.sizeOf162
 v53:=Tryz.zeroValue162
 t171:=Tryz.underlying161
 a171:=Tryz.isAgg161
 z171:=Tryz.sizeOf161
 v171:=Tryz.zeroValue161
 t173:=Tryz.underlying165
 a173:=Tryz.isAgg165
 z173:=Tryz.sizeOf165
 v173:=Tryz.zeroValue165
 t212:=Tryz.underlying184
 a212:=Tryz.isAgg184
 z212:=Tryz.sizeOf184
 v212:=Tryz.zeroValue184
 t213:=Tryz.underlying186
 a213:=Tryz.isAgg186
 z213:=Tryz.sizeOf186
 t232:=Tryz.underlying229
 a232:=Tryz.isAgg229
 z232:=Tryz.sizeOf229
 v232:=Tryz.zeroValue229
 t233:=Tryz.underlying230
 a233:=Tryz.isAgg230
 z233:=Tryz.sizeOf230
 v233:=Tryz.zeroValue230
 g17:=by kernel_rfl
 g18:=by kernel_rfl
 g19:=by kernel_rfl
 i0:=by kernel_rfl
 i2:=by kernel_rfl
 i3:=by kernel_rfl
 i4:=by kernel_rfl
 i5:=by kernel_rfl
 i9:=by kernel_rfl
 i20:=by kernel_rfl
 i37:=by kernel_rfl
 i46:=by kernel_rfl
 i51:=by kernel_rfl
 i53:=by kernel_rfl
 i171:=by kernel_rfl
 i173:=by kernel_rfl
 i212:=by kernel_rfl
 i232:=by kernel_rfl
 i233:=by kernel_rfl
 m17:=by kernel_rfl
 m18:=by kernel_rfl
 m19:=by kernel_rfl }
open Go.RowKit Go.Sort Go.Lib in
theorem Tryz.strconv_Itoa (n:Int) (h0: -9223372036854775808≤n) (h1:n≤9223372036854775807) (w:World) (htab:Lib.TabIs Tryz.prog w "internal/strconv.uint64pow10" .u64 Lib.pow10Tab):
 Calls Tryz.prog 39 #[.int .i64 n] w fun e w'=>e= .returned (.string ⟨(Lib.itoa n).toArray⟩)∧ ∃ k os,w'=grow (w.drewN k) os:=Any.strconv_Itoa Tryz.Ol n h0 h1 w htab
end Go.Proofs
namespace Go.Proofs
open Go.Shelf
def Tryz.AZ:Go.Shelf.Ren:=⟨fun | 166=>38 | 240=>81 | 276=>115 | n=>n,fun | 0=>0 | 3=>3 | 4=>4 | 5=>5 | 9=>9 | 20=>20 | 31=>100 | 37=>36 | 70=>83 | 72=>85 | 75=>87 | 76=>88 | 80=>77 | 127=>133 | 164=>159 | n=>n,fun | n=>n⟩
theorem Tryz.Oh:Go.Proofs.Lays.n166 Tryz.prog Tryz.AZ:= {
 mixed:=by kernel_rfl
 f166:=Tryz.func38.trans (congrArg some (by kernel_rfl))
 f240:=Tryz.func81.trans (congrArg some (by kernel_rfl))
 f276:=Tryz.func115.trans (congrArg some (by kernel_rfl))
 t0:=Tryz.underlying0
 a0:=Tryz.isAgg0
 z0:=Tryz.sizeOf0
 v0:=Tryz.zeroValue0
 t3:=Tryz.underlying3
 a3:=Tryz.isAgg3
 z3:=Tryz.sizeOf3
 v3:=Tryz.zeroValue3
 t4:=Tryz.underlying4
 a4:=Tryz.isAgg4
 z4:=Tryz.sizeOf4
 v4:=Tryz.zeroValue4
 t9:=Tryz.underlying9
 a9:=Tryz.isAgg9
 z9:=Tryz.sizeOf9
 v9:=Tryz.zeroValue9
 t20:=Tryz.underlying20
 a20:=Tryz.isAgg20
 z20:=Tryz.sizeOf20
 v20:=Tryz.zeroValue20
 t37:=Tryz.underlying36
 a37:=Tryz.isAgg36
 z37:=Tryz.sizeOf36
 v37:=Tryz.zeroValue36
 t70:=Tryz.underlying83
 a70:=Tryz.isAgg83
 z70:=Tryz.sizeOf83
 v70:=Tryz.zeroValue83
 t72:=Tryz.underlying85
 a72:=Tryz.isAgg85
 z72:=Tryz.sizeOf85
 v72:=Tryz.zeroValue85
 t75:=Tryz.underlying87
 a75:=Tryz.isAgg87
 z75:=Tryz.sizeOf87
 v75:=Tryz.zeroValue87
 t164:=Tryz.underlying159
 a164:=Tryz.isAgg159
 z164:=Tryz.sizeOf159
 v164:=Tryz.zeroValue159 }
theorem Tryz.IQ:Builder.Extra Tryz.prog Tryz.AZ:= {
 sizeBuilder:=by kernel_rfl
 liesBuilder:=by kernel_rfl
 t5:=Tryz.underlying5
 a5:=Tryz.isAgg5
 z5:=Tryz.sizeOf5
 v5:=Tryz.zeroValue5
 infoByte:=by kernel_rfl
 cellsByte:=by kernel_rfl
 sizeByte:=by kernel_rfl
 neB5:=by decide }
def Tryz.xo:Go.Shelf.Ren:=⟨fun | 167=>147 | 240=>81 | 276=>115 | n=>n,fun | 0=>0 | 3=>3 | 4=>4 | 5=>5 | 9=>9 | 20=>20 | 31=>100 | 37=>36 | 70=>83 | 72=>85 | 75=>87 | 76=>88 | 80=>77 | 127=>133 | 164=>159 | n=>n,fun | n=>n⟩
theorem Tryz.FV:Go.Proofs.Lays.n167 Tryz.prog Tryz.xo:= {
 mixed:=by kernel_rfl
 f167:=Tryz.func147.trans (congrArg some (by kernel_rfl))
 f240:=Tryz.func81.trans (congrArg some (by kernel_rfl))
 f276:=Tryz.func115.trans (congrArg some (by kernel_rfl))
 t0:=Tryz.underlying0
 a0:=Tryz.isAgg0
 z0:=Tryz.sizeOf0
 v0:=Tryz.zeroValue0
 t4:=Tryz.underlying4
 a4:=Tryz.isAgg4
 z4:=Tryz.sizeOf4
 v4:=Tryz.zeroValue4
 t5:=Tryz.underlying5
 a5:=Tryz.isAgg5
 z5:=Tryz.sizeOf5
 v5:=Tryz.zeroValue5
 t9:=Tryz.underlying9
 a9:=Tryz.isAgg9
 z9:=Tryz.sizeOf9
 v9:=Tryz.zeroValue9
 t20:=Tryz.underlying20
 a20:=Tryz.isAgg20
 z20:=Tryz.sizeOf20
 v20:=Tryz.zeroValue20
 t37:=Tryz.underlying36
 a37:=Tryz.isAgg36
 z37:=Tryz.sizeOf36
 v37:=Tryz.zeroValue36
 t70:=Tryz.underlying83
 a70:=Tryz.isAgg83
 z70:=Tryz.sizeOf83
 v70:=Tryz.zeroValue83
 t72:=Tryz.underlying85
 a72:=Tryz.isAgg85
 z72:=Tryz.sizeOf85
 v72:=Tryz.zeroValue85
 t75:=Tryz.underlying87
 a75:=Tryz.isAgg87
 z75:=Tryz.sizeOf87
 v75:=Tryz.zeroValue87
 t164:=Tryz.underlying159
 a164:=Tryz.isAgg159
 z164:=Tryz.sizeOf159
 v164:=Tryz.zeroValue159 }
theorem Tryz.CJ:Builder.Extra Tryz.prog Tryz.xo:= {
 sizeBuilder:=by kernel_rfl
 liesBuilder:=by kernel_rfl
 t5:=Tryz.underlying5
 a5:=Tryz.isAgg5
 z5:=Tryz.sizeOf5
 v5:=Tryz.zeroValue5
 infoByte:=by kernel_rfl
 cellsByte:=by kernel_rfl
 sizeByte:=by kernel_rfl
 neB5:=by decide }
end Go.Proofs
set_option maxRecDepth 100000
namespace Go.Sy.Ex
open Go.Sy Go.Proofs
noncomputable section
structure ak where
 Kind:Int
 At:Int
 End:Int
 Text:List UInt8
 N:Int
 deriving DecidableEq
def ak.z:ak:=⟨0,0,0,[],0⟩
structure aQ where
 Code:Int
 At:Int
 deriving DecidableEq
def aQ.z:aQ:=⟨0,0⟩
structure bB where
 Name:List UInt8
 N:Int
 At:Int
 deriving DecidableEq
def bB.z:bB:=⟨[],0,0⟩
structure ah where
 Kind:Int
 N:Int
 Name:List UInt8
 Kids:List ah
 At:Int
def ah.z:ah:=⟨0,0,[],[],0⟩
structure aJ where
 Kind:Int
 Name:List UInt8
 Event:List UInt8
 X:List ah
 N:Int
 oh:List aJ
 lu:List aJ
 At:Int
def aJ.z:aJ:=⟨0,[],[],[],0,[],[],0⟩
structure bC where
 Event:List UInt8
 Guard:List ah
 Target:List UInt8
 vG:List aJ
 At:Int
def bC.z:bC:=⟨[],[],[],[],0⟩
structure aR where
 Kind:Int
 Name:List UInt8
 Entry:List aJ
 Exit:List aJ
 Trans:List bC
 Kids:List aR
 At:Int
def aR.z:aR:=⟨0,[],[],[],[],[],0⟩
structure c_ where
 Name:List UInt8
 Steps:Int
 Fuel:Int
 Vars:List bB
 CO:List bB
 CU:List bB
 CS:List aR
 At:Int
def c_.z:c_:=⟨[],0,0,[],[],[],[],0⟩
structure aY where
 L:List ak
 At:Int
 aI:aQ
 deriving DecidableEq
def aY.z:aY:=⟨[],0,aQ.z⟩
structure ay where
 Row:aY
 deriving DecidableEq
def ay.z:ay:=⟨aY.z⟩
structure aT where
 Row:aY
 a_:Int
 deriving DecidableEq
def aT.z:aT:=⟨aY.z,0⟩
structure aG where
 Row:aY
 a_:Int
 deriving DecidableEq
def aG.z:aG:=⟨aY.z,0⟩
structure gE where
 l:List ak
 aj:Int
 bad:aQ
 deriving DecidableEq
def gE.z:gE:=⟨[],0,aQ.z⟩
structure aS where
 l:List ak
 aj:Int
 a_:Int
 bad:aQ
 deriving DecidableEq
def aS.z:aS:=⟨[],0,0,aQ.z⟩
def C:Nat→Type
 | 0=>ak
 | 1=>aQ
 | 2=>List UInt8×List UInt8×List UInt8×List UInt8×List UInt8×List UInt8×List UInt8
 | 3=>c_
 | 4=>bB
 | 5=>aR
 | 6=>aJ
 | 7=>ah
 | 8=>bC
 | 9=>aY
 | 10=>ay
 | 11=>aT
 | 12=>aG
 | 13=>Unit
 | 14=>List UInt8×List UInt8×List UInt8×List UInt8×List UInt8×List UInt8×List UInt8×List UInt8×List UInt8×List UInt8×List UInt8×List UInt8×List UInt8
 | 15=>gE
 | 16=>List UInt8×List UInt8×List UInt8×List UInt8×List UInt8×List UInt8×List UInt8×List UInt8×List UInt8×List UInt8×List UInt8×List UInt8×List UInt8×List UInt8×List UInt8×List UInt8×List UInt8×List UInt8×List UInt8×List UInt8×List UInt8×List UInt8×List UInt8×List UInt8×List UInt8×List UInt8×List UInt8×List UInt8×List UInt8×List UInt8×List UInt8×List UInt8×List UInt8×List UInt8×List UInt8
 | 17=>aS
 | 18=>List UInt8×List UInt8
 | _+19=>Unit
def F:Nat→List Ty
 | 0=> [.int .i64, .int .i64, .int .i64, .str, .int .i64]
 | 1=> [.int .i64, .int .i64]
 | 2=> [.str, .str, .str, .str, .str, .str, .str]
 | 3=> [.str, .int .i64, .int .i64, .sl (.st 4), .sl (.st 4), .sl (.st 4), .sl (.st 5), .int .i64]
 | 4=> [.str, .int .i64, .int .i64]
 | 5=> [.int .i64, .str, .sl (.st 6), .sl (.st 6), .sl (.st 8), .sl (.st 5), .int .i64]
 | 6=> [.int .i64, .str, .str, .sl (.st 7), .int .i64, .sl (.st 6), .sl (.st 6), .int .i64]
 | 7=> [.int .i64, .int .i64, .str, .sl (.st 7), .int .i64]
 | 8=> [.str, .sl (.st 7), .str, .sl (.st 6), .int .i64]
 | 9=> [.sl (.st 0), .int .i64, .int .i64, .int .i64]
 | 10=> [.sl (.st 0), .int .i64, .int .i64, .int .i64]
 | 11=> [.sl (.st 0), .int .i64, .int .i64, .int .i64, .int .i64]
 | 12=> [.sl (.st 0), .int .i64, .int .i64, .int .i64, .int .i64]
 | 13=> []
 | 14=> [.str, .str, .str, .str, .str, .str, .str, .str, .str, .str, .str, .str, .str]
 | 15=> [.sl (.st 0), .int .i64, .int .i64, .int .i64]
 | 16=> [.str, .str, .str, .str, .str, .str, .str, .str, .str, .str, .str, .str, .str, .str, .str, .str, .str, .str, .str, .str, .str, .str, .str, .str, .str, .str, .str, .str, .str, .str, .str, .str, .str, .str, .str]
 | 17=> [.sl (.st 0), .int .i64, .int .i64, .int .i64, .int .i64]
 | 18=> [.str, .str]
 | _+19=> []
def ex:(t:Nat)→C t→an C (F t)
 | 0,(x:ak)=>(x.Kind,x.At,x.End,x.Text,x.N)
 | 1,(x:aQ)=>(x.Code,x.At)
 | 2,(x:List UInt8×List UInt8×List UInt8×List UInt8×List UInt8×List UInt8×List UInt8)=>(x.1,x.2.1,x.2.2.1,x.2.2.2.1,x.2.2.2.2.1,x.2.2.2.2.2.1,x.2.2.2.2.2.2)
 | 3,(x:c_)=>(x.Name,x.Steps,x.Fuel,x.Vars,x.CO,x.CU,x.CS,x.At)
 | 4,(x:bB)=>(x.Name,x.N,x.At)
 | 5,(x:aR)=>(x.Kind,x.Name,x.Entry,x.Exit,x.Trans,x.Kids,x.At)
 | 6,(x:aJ)=>(x.Kind,x.Name,x.Event,x.X,x.N,x.oh,x.lu,x.At)
 | 7,(x:ah)=>(x.Kind,x.N,x.Name,x.Kids,x.At)
 | 8,(x:bC)=>(x.Event,x.Guard,x.Target,x.vG,x.At)
 | 9,(x:aY)=>(x.L,x.At,x.aI.Code,x.aI.At)
 | 10,(x:ay)=>(x.Row.L,x.Row.At,x.Row.aI.Code,x.Row.aI.At)
 | 11,(x:aT)=>(x.Row.L,x.Row.At,x.Row.aI.Code,x.Row.aI.At,x.a_)
 | 12,(x:aG)=>(x.Row.L,x.Row.At,x.Row.aI.Code,x.Row.aI.At,x.a_)
 | 13,_=>()
 | 14,(x:List UInt8×List UInt8×List UInt8×List UInt8×List UInt8×List UInt8×List UInt8×List UInt8×List UInt8×List UInt8×List UInt8×List UInt8×List UInt8)=>(x.1,x.2.1,x.2.2.1,x.2.2.2.1,x.2.2.2.2.1,x.2.2.2.2.2.1,x.2.2.2.2.2.2.1,x.2.2.2.2.2.2.2.1,x.2.2.2.2.2.2.2.2.1,x.2.2.2.2.2.2.2.2.2.1,x.2.2.2.2.2.2.2.2.2.2.1,x.2.2.2.2.2.2.2.2.2.2.2.1,x.2.2.2.2.2.2.2.2.2.2.2.2)
 | 15,(x:gE)=>(x.l,x.aj,x.bad.Code,x.bad.At)
 | 16,(x:List UInt8×List UInt8×List UInt8×List UInt8×List UInt8×List UInt8×List UInt8×List UInt8×List UInt8×List UInt8×List UInt8×List UInt8×List UInt8×List UInt8×List UInt8×List UInt8×List UInt8×List UInt8×List UInt8×List UInt8×List UInt8×List UInt8×List UInt8×List UInt8×List UInt8×List UInt8×List UInt8×List UInt8×List UInt8×List UInt8×List UInt8×List UInt8×List UInt8×List UInt8×List UInt8)=>(x.1,x.2.1,x.2.2.1,x.2.2.2.1,x.2.2.2.2.1,x.2.2.2.2.2.1,x.2.2.2.2.2.2.1,x.2.2.2.2.2.2.2.1,x.2.2.2.2.2.2.2.2.1,x.2.2.2.2.2.2.2.2.2.1,x.2.2.2.2.2.2.2.2.2.2.1,x.2.2.2.2.2.2.2.2.2.2.2.1,x.2.2.2.2.2.2.2.2.2.2.2.2.1,x.2.2.2.2.2.2.2.2.2.2.2.2.2.1,x.2.2.2.2.2.2.2.2.2.2.2.2.2.2.1,x.2.2.2.2.2.2.2.2.2.2.2.2.2.2.2.1,x.2.2.2.2.2.2.2.2.2.2.2.2.2.2.2.2.1,x.2.2.2.2.2.2.2.2.2.2.2.2.2.2.2.2.2.1,x.2.2.2.2.2.2.2.2.2.2.2.2.2.2.2.2.2.2.1,x.2.2.2.2.2.2.2.2.2.2.2.2.2.2.2.2.2.2.2.1,x.2.2.2.2.2.2.2.2.2.2.2.2.2.2.2.2.2.2.2.2.1,x.2.2.2.2.2.2.2.2.2.2.2.2.2.2.2.2.2.2.2.2.2.1,x.2.2.2.2.2.2.2.2.2.2.2.2.2.2.2.2.2.2.2.2.2.2.1,x.2.2.2.2.2.2.2.2.2.2.2.2.2.2.2.2.2.2.2.2.2.2.2.1,x.2.2.2.2.2.2.2.2.2.2.2.2.2.2.2.2.2.2.2.2.2.2.2.2.1,x.2.2.2.2.2.2.2.2.2.2.2.2.2.2.2.2.2.2.2.2.2.2.2.2.2.1,x.2.2.2.2.2.2.2.2.2.2.2.2.2.2.2.2.2.2.2.2.2.2.2.2.2.2.1,x.2.2.2.2.2.2.2.2.2.2.2.2.2.2.2.2.2.2.2.2.2.2.2.2.2.2.2.1,x.2.2.2.2.2.2.2.2.2.2.2.2.2.2.2.2.2.2.2.2.2.2.2.2.2.2.2.2.1,x.2.2.2.2.2.2.2.2.2.2.2.2.2.2.2.2.2.2.2.2.2.2.2.2.2.2.2.2.2.1,x.2.2.2.2.2.2.2.2.2.2.2.2.2.2.2.2.2.2.2.2.2.2.2.2.2.2.2.2.2.2.1,x.2.2.2.2.2.2.2.2.2.2.2.2.2.2.2.2.2.2.2.2.2.2.2.2.2.2.2.2.2.2.2.1,x.2.2.2.2.2.2.2.2.2.2.2.2.2.2.2.2.2.2.2.2.2.2.2.2.2.2.2.2.2.2.2.2.1,x.2.2.2.2.2.2.2.2.2.2.2.2.2.2.2.2.2.2.2.2.2.2.2.2.2.2.2.2.2.2.2.2.2.1,x.2.2.2.2.2.2.2.2.2.2.2.2.2.2.2.2.2.2.2.2.2.2.2.2.2.2.2.2.2.2.2.2.2.2)
 | 17,(x:aS)=>(x.l,x.aj,x.a_,x.bad.Code,x.bad.At)
 | 18,(x:List UInt8×List UInt8)=>(x.1,x.2)
 | _+19,_=>()
def im:(t:Nat)→an C (F t)→C t
 | 0,(a0,a1,a2,a3,a4)=>ak.mk a0 a1 a2 a3 a4
 | 1,(a0,a1)=>aQ.mk a0 a1
 | 2,(a0,a1,a2,a3,a4,a5,a6)=>(a0,a1,a2,a3,a4,a5,a6)
 | 3,(a0,a1,a2,a3,a4,a5,a6,a7)=>c_.mk a0 a1 a2 a3 a4 a5 a6 a7
 | 4,(a0,a1,a2)=>bB.mk a0 a1 a2
 | 5,(a0,a1,a2,a3,a4,a5,a6)=>aR.mk a0 a1 a2 a3 a4 a5 a6
 | 6,(a0,a1,a2,a3,a4,a5,a6,a7)=>aJ.mk a0 a1 a2 a3 a4 a5 a6 a7
 | 7,(a0,a1,a2,a3,a4)=>ah.mk a0 a1 a2 a3 a4
 | 8,(a0,a1,a2,a3,a4)=>bC.mk a0 a1 a2 a3 a4
 | 9,(a0,a1,a2,a3)=>aY.mk a0 a1 (aQ.mk a2 a3)
 | 10,(a0,a1,a2,a3)=>ay.mk (aY.mk a0 a1 (aQ.mk a2 a3))
 | 11,(a0,a1,a2,a3,a4)=>aT.mk (aY.mk a0 a1 (aQ.mk a2 a3)) a4
 | 12,(a0,a1,a2,a3,a4)=>aG.mk (aY.mk a0 a1 (aQ.mk a2 a3)) a4
 | 13,_=>()
 | 14,(a0,a1,a2,a3,a4,a5,a6,a7,a8,a9,yV,yW,a12)=>(a0,a1,a2,a3,a4,a5,a6,a7,a8,a9,yV,yW,a12)
 | 15,(a0,a1,a2,a3)=>gE.mk a0 a1 (aQ.mk a2 a3)
 | 16,(a0,a1,a2,a3,a4,a5,a6,a7,a8,a9,yV,yW,a12,I9,I_,Ja,Jb,Jc,Jd,Je,a20,a21,Jf,Jg,a24,Jh,Ji,Jj,a28,Jk,Jl,a31,a32,Jm,Jn)=>(a0,a1,a2,a3,a4,a5,a6,a7,a8,a9,yV,yW,a12,I9,I_,Ja,Jb,Jc,Jd,Je,a20,a21,Jf,Jg,a24,Jh,Ji,Jj,a28,Jk,Jl,a31,a32,Jm,Jn)
 | 17,(a0,a1,a2,a3,a4)=>aS.mk a0 a1 a2 (aQ.mk a3 a4)
 | 18,(a0,a1)=>(a0,a1)
 | _+19,_=>()
def gu:Nat→List (Nat×Ty)
 | 0=> [(0, .int .i64),(1, .int .i64),(2, .int .i64),(3, .str),(4, .int .i64)]
 | 1=> [(0, .int .i64),(1, .int .i64)]
 | 2=>kS (.str) 7 0
 | 3=> [(0, .str),(1, .int .i64),(2, .int .i64),(3, .sl (.st 4)),(4, .sl (.st 4)),(5, .sl (.st 4)),(6, .sl (.st 5)),(7, .int .i64)]
 | 4=> [(0, .str),(1, .int .i64),(2, .int .i64)]
 | 5=> [(0, .int .i64),(1, .str),(2, .sl (.st 6)),(3, .sl (.st 6)),(4, .sl (.st 8)),(5, .sl (.st 5)),(6, .int .i64)]
 | 6=> [(0, .int .i64),(1, .str),(2, .str),(3, .sl (.st 7)),(4, .int .i64),(5, .sl (.st 6)),(6, .sl (.st 6)),(7, .int .i64)]
 | 7=> [(0, .int .i64),(1, .int .i64),(2, .str),(3, .sl (.st 7)),(4, .int .i64)]
 | 8=> [(0, .str),(1, .sl (.st 7)),(2, .str),(3, .sl (.st 6)),(4, .int .i64)]
 | 9=> [(0, .sl (.st 0)),(1, .int .i64),(2, .st 1)]
 | 10=> [(0, .st 9)]
 | 11=> [(0, .st 9),(4, .int .i64)]
 | 12=> [(0, .st 9),(4, .int .i64)]
 | 13=> []
 | 14=>kS (.str) 13 0
 | 15=> [(0, .sl (.st 0)),(1, .int .i64),(2, .st 1)]
 | 16=>kS (.str) 35 0
 | 17=> [(0, .sl (.st 0)),(1, .int .i64),(2, .int .i64),(3, .st 1)]
 | 18=>kS (.str) 2 0
 | _+19=> []
def z:(t:Nat)→C t
 | 0=>ak.z
 | 1=>aQ.z
 | 2=>([],[],[],[],[],[],[])
 | 3=>c_.z
 | 4=>bB.z
 | 5=>aR.z
 | 6=>aJ.z
 | 7=>ah.z
 | 8=>bC.z
 | 9=>aY.z
 | 10=>ay.z
 | 11=>aT.z
 | 12=>aG.z
 | 13=>()
 | 14=>([],[],[],[],[],[],[],[],[],[],[],[],[])
 | 15=>gE.z
 | 16=>([],[],[],[],[],[],[],[],[],[],[],[],[],[],[],[],[],[],[],[],[],[],[],[],[],[],[],[],[],[],[],[],[],[],[])
 | 17=>aS.z
 | 18=>([],[])
 | _+19=>()
def Cx:List (Nat×Ty):= [(2, .int .i64),(3, .int .i64),(4, .bool),(5, .int .u8),(9, .str),(22, .sl (.int .i64)),(25, .sl (.st 4)),(26, .sl (.st 5)),(28, .st 3),(29, .int .i64),(31, .st 1),(36, .sl (.int .u8)),(37, .st 18),(39, .sl (.st 0)),(54, .sl (.st 6)),(55, .sl (.st 8)),(57, .st 5),(59, .sl (.st 7)),(61, .st 8),(64, .st 0),(69, .st 9),(71, .st 10),(75, .st 15),(92, .st 4),(137, .st 7),(145, .st 2),(154, .st 6),(179, .st 16),(218, .st 11),(221, .st 12),(228, .st 17),(231, .st 14)]
def JO:List (Nat×(Nat×Ty)):= [(37,2, .str),(145,7, .str),(179,35, .str),(231,13, .str)]
def zI:List (Nat×Unit):= [(31,())]
def AM:List (Nat×Unit):= [(87,())]
def Bw:List (Nat×Unit):= []
def RD:List (Nat×Unit):= []
abbrev S:aP:=⟨C,F,ex,im,fun u f=>(gu u)[f]?,z,look Cx,fun t=>(look Bw t).isSome,look JO,fun t=>(look zI t).isSome,fun t=>(look AM t).isSome,[((1,0),fun v=> ∃ m,v= .int .i64 m),((5,0),fun v=>v= .nilIface∨ ∃ t p,v= .iface t p),((4,0),fun v=>v= .nilIface∨ ∃ t p,v= .iface t p)],[(0,fun ob=> ∃ t f,ob= .cells (Go.Lib.pow10Tab.map fun z=>Value.int .u64 z).toArray t f)],some (85,5),fun t=>(look RD t).isSome⟩
def Kh:List (Nat×Nat):= [(22,8),(25,32),(26,128),(36,1),(39,48),(54,128),(55,88),(59,64)]
def ai (t:Nat):Nat:=(look Kh t).getD 1
theorem Ck:cz S:=⟨fun | 0=>rfl | 1=>rfl | 2=>rfl | 3=>rfl | 4=>rfl | 5=>rfl | 6=>rfl | 7=>rfl | 8=>rfl | 9=>rfl | 10=>rfl | 11=>rfl | 12=>rfl | 13=>rfl | 14=>rfl | 15=>rfl | 16=>rfl | 17=>rfl | 18=>rfl | _+19=>rfl,fun | 0,_=>rfl | 1,_=>rfl | 2,_=>rfl | 3,_=>rfl | 4,_=>rfl | 5,_=>rfl | 6,_=>rfl | 7,_=>rfl | 8,_=>rfl | 9,_=>rfl | 10,_=>rfl | 11,_=>rfl | 12,_=>rfl | 13,_=>rfl | 14,_=>rfl | 15,_=>rfl | 16,_=>rfl | 17,_=>rfl | 18,_=>rfl | _+19,_=>rfl⟩
theorem R5:bP Tryz.prog S ai 2 (.int .i64):=rX rfl (by kernel_rfl) (by kernel_rfl) (by kernel_rfl)
theorem Sf:bP Tryz.prog S ai 3 (.int .i64):=rX rfl (by kernel_rfl) (by kernel_rfl) (by kernel_rfl)
theorem Sl:bP Tryz.prog S ai 4 (.bool):=SH rfl (by kernel_rfl) (by kernel_rfl) (by kernel_rfl)
theorem Sm:bP Tryz.prog S ai 5 (.int .u8):=rX rfl (by kernel_rfl) (by kernel_rfl) (by kernel_rfl)
theorem Sz:bP Tryz.prog S ai 9 (.str):=Ib rfl (by kernel_rfl) (by kernel_rfl) (by kernel_rfl)
theorem R8:bP Tryz.prog S ai 22 (.sl (.int .i64)):=mE rfl (by kernel_rfl) (by kernel_rfl) Tryz.underlying22 rfl rfl (by kernel_rfl) (by kernel_rfl)
theorem Sb:bP Tryz.prog S ai 25 (.sl (.st 4)):=mE rfl (by kernel_rfl) (by kernel_rfl) Tryz.underlying25 rfl rfl (by kernel_rfl) (by kernel_rfl)
theorem Sc:bP Tryz.prog S ai 26 (.sl (.st 5)):=mE rfl (by kernel_rfl) (by kernel_rfl) Tryz.underlying26 rfl rfl (by kernel_rfl) (by kernel_rfl)
theorem Sd:bP Tryz.prog S ai 28 (.st 3):=gY (l:=gu 3) rfl (by kernel_rfl) rfl (by kernel_rfl) (by kernel_rfl) rfl (by kernel_rfl) Tryz.underlying28 (by kernel_rfl) (fun _=>rfl) rfl
theorem Se:bP Tryz.prog S ai 29 (.int .i64):=rX rfl (by kernel_rfl) (by kernel_rfl) (by kernel_rfl)
theorem Sh:bP Tryz.prog S ai 31 (.st 1):=gY (l:=gu 1) rfl (by kernel_rfl) rfl (by kernel_rfl) (by kernel_rfl) rfl (by kernel_rfl) Tryz.underlying31 (by kernel_rfl) (fun _=>rfl) rfl
theorem Si:bP Tryz.prog S ai 36 (.sl (.int .u8)):=mE rfl (by kernel_rfl) (by kernel_rfl) Tryz.underlying36 rfl rfl (by kernel_rfl) (by kernel_rfl)
theorem Sj:bP Tryz.prog S ai 37 (.st 18):=yL rfl (by kernel_rfl) rfl (by kernel_rfl) (by kernel_rfl) rfl (by kernel_rfl) Tryz.underlying37 rfl rfl rfl (by kernel_rfl) (fun _=>rfl) rfl
theorem Sk:bP Tryz.prog S ai 39 (.sl (.st 0)):=mE rfl (by kernel_rfl) (by kernel_rfl) Tryz.underlying39 rfl rfl (by kernel_rfl) (by kernel_rfl)
theorem Sn:bP Tryz.prog S ai 54 (.sl (.st 6)):=mE rfl (by kernel_rfl) (by kernel_rfl) Tryz.underlying54 rfl rfl (by kernel_rfl) (by kernel_rfl)
theorem So:bP Tryz.prog S ai 55 (.sl (.st 8)):=mE rfl (by kernel_rfl) (by kernel_rfl) Tryz.underlying55 rfl rfl (by kernel_rfl) (by kernel_rfl)
theorem Sp:bP Tryz.prog S ai 57 (.st 5):=gY (l:=gu 5) rfl (by kernel_rfl) rfl (by kernel_rfl) (by kernel_rfl) rfl (by kernel_rfl) Tryz.underlying57 (by kernel_rfl) (fun _=>rfl) rfl
theorem Sr:bP Tryz.prog S ai 59 (.sl (.st 7)):=mE rfl (by kernel_rfl) (by kernel_rfl) Tryz.underlying59 rfl rfl (by kernel_rfl) (by kernel_rfl)
theorem Ss:bP Tryz.prog S ai 61 (.st 8):=gY (l:=gu 8) rfl (by kernel_rfl) rfl (by kernel_rfl) (by kernel_rfl) rfl (by kernel_rfl) Tryz.underlying61 (by kernel_rfl) (fun _=>rfl) rfl
theorem Su:bP Tryz.prog S ai 64 (.st 0):=gY (l:=gu 0) rfl (by kernel_rfl) rfl (by kernel_rfl) (by kernel_rfl) rfl (by kernel_rfl) Tryz.underlying64 (by kernel_rfl) (fun _=>rfl) rfl
theorem Sv:bP Tryz.prog S ai 69 (.st 9):=gY (l:=gu 9) rfl (by kernel_rfl) rfl (by kernel_rfl) (by kernel_rfl) rfl (by kernel_rfl) Tryz.underlying69 (by kernel_rfl) (fun _=>rfl) rfl
theorem Sw:bP Tryz.prog S ai 71 (.st 10):=gY (l:=gu 10) rfl (by kernel_rfl) rfl (by kernel_rfl) (by kernel_rfl) rfl (by kernel_rfl) Tryz.underlying71 (by kernel_rfl) (fun _=>rfl) rfl
theorem Sx:bP Tryz.prog S ai 75 (.st 15):=gY (l:=gu 15) rfl (by kernel_rfl) rfl (by kernel_rfl) (by kernel_rfl) rfl (by kernel_rfl) Tryz.underlying75 (by kernel_rfl) (fun _=>rfl) rfl
theorem SB:bP Tryz.prog S ai 92 (.st 4):=gY (l:=gu 4) rfl (by kernel_rfl) rfl (by kernel_rfl) (by kernel_rfl) rfl (by kernel_rfl) Tryz.underlying92 (by kernel_rfl) (fun _=>rfl) rfl
theorem R1:bP Tryz.prog S ai 137 (.st 7):=gY (l:=gu 7) rfl (by kernel_rfl) rfl (by kernel_rfl) (by kernel_rfl) rfl (by kernel_rfl) Tryz.underlying137 (by kernel_rfl) (fun _=>rfl) rfl
theorem R2:bP Tryz.prog S ai 145 (.st 2):=yL rfl (by kernel_rfl) rfl (by kernel_rfl) (by kernel_rfl) rfl (by kernel_rfl) Tryz.underlying145 rfl rfl rfl (by kernel_rfl) (fun _=>rfl) rfl
theorem R3:bP Tryz.prog S ai 154 (.st 6):=gY (l:=gu 6) rfl (by kernel_rfl) rfl (by kernel_rfl) (by kernel_rfl) rfl (by kernel_rfl) Tryz.underlying154 (by kernel_rfl) (fun _=>rfl) rfl
theorem R4:bP Tryz.prog S ai 179 (.st 16):=yL rfl (by kernel_rfl) rfl (by kernel_rfl) (by kernel_rfl) rfl (by kernel_rfl) Tryz.underlying179 rfl rfl rfl (by kernel_rfl) (fun _=>rfl) rfl
theorem R7:bP Tryz.prog S ai 218 (.st 11):=gY (l:=gu 11) rfl (by kernel_rfl) rfl (by kernel_rfl) (by kernel_rfl) rfl (by kernel_rfl) Tryz.underlying218 (by kernel_rfl) (fun _=>rfl) rfl
theorem R9:bP Tryz.prog S ai 221 (.st 12):=gY (l:=gu 12) rfl (by kernel_rfl) rfl (by kernel_rfl) (by kernel_rfl) rfl (by kernel_rfl) Tryz.underlying221 (by kernel_rfl) (fun _=>rfl) rfl
theorem R_:bP Tryz.prog S ai 228 (.st 17):=gY (l:=gu 17) rfl (by kernel_rfl) rfl (by kernel_rfl) (by kernel_rfl) rfl (by kernel_rfl) Tryz.underlying228 (by kernel_rfl) (fun _=>rfl) rfl
theorem Sa:bP Tryz.prog S ai 231 (.st 14):=yL rfl (by kernel_rfl) rfl (by kernel_rfl) (by kernel_rfl) rfl (by kernel_rfl) Tryz.underlying231 rfl rfl rfl (by kernel_rfl) (fun _=>rfl) rfl
theorem Bv:aU Tryz.prog S ai:=⟨Ck,fun t T h0=>by
 have h:=kH (show look Cx t=some T from h0)
 simp only [Cx,List.mem_cons,Prod.mk.injEq,List.not_mem_nil,or_false] at h
 rcases h with ⟨rfl,rfl⟩ | ⟨rfl,rfl⟩ | ⟨rfl,rfl⟩ | ⟨rfl,rfl⟩ | ⟨rfl,rfl⟩ | ⟨rfl,rfl⟩ | ⟨rfl,rfl⟩ | ⟨rfl,rfl⟩ | ⟨rfl,rfl⟩ | ⟨rfl,rfl⟩ | ⟨rfl,rfl⟩ | ⟨rfl,rfl⟩ | ⟨rfl,rfl⟩ | ⟨rfl,rfl⟩ | ⟨rfl,rfl⟩ | ⟨rfl,rfl⟩ | ⟨rfl,rfl⟩ | ⟨rfl,rfl⟩ | ⟨rfl,rfl⟩ | ⟨rfl,rfl⟩ | ⟨rfl,rfl⟩ | ⟨rfl,rfl⟩ | ⟨rfl,rfl⟩ | ⟨rfl,rfl⟩ | ⟨rfl,rfl⟩ | ⟨rfl,rfl⟩ | ⟨rfl,rfl⟩ | ⟨rfl,rfl⟩ | ⟨rfl,rfl⟩ | ⟨rfl,rfl⟩ | ⟨rfl,rfl⟩ | ⟨rfl,rfl⟩
 · exact R5
 · exact Sf
 · exact Sl
 · exact Sm
 · exact Sz
 · exact R8
 · exact Sb
 · exact Sc
 · exact Sd
 · exact Se
 · exact Sh
 · exact Si
 · exact Sj
 · exact Sk
 · exact Sn
 · exact So
 · exact Sp
 · exact Sr
 · exact Ss
 · exact Su
 · exact Sv
 · exact Sw
 · exact Sx
 · exact SB
 · exact R1
 · exact R2
 · exact R3
 · exact R4
 · exact R7
 · exact R9
 · exact R_
 · exact Sa,fun t h=>by
 have h2: ∃ u,look Bw t=some u:=Option.isSome_iff_exists.1 h
 obtain ⟨u,h2⟩:=h2
 have h:=kH h2
 simp [Bw] at h,fun t h=>by
 have h2: ∃ u,look zI t=some u:=Option.isSome_iff_exists.1 h
 obtain ⟨u,h2⟩:=h2
 have h:=kH h2
 simp only [zI,List.mem_cons,Prod.mk.injEq,List.not_mem_nil,or_false] at h
 rcases h with ⟨rfl,_⟩
 · exact ⟨1,rfl,⟨_,Tryz.underlying31,zG (by kernel_rfl)⟩,by kernel_rfl,by kernel_rfl⟩,fun t h=>by
 have h2: ∃ u,look AM t=some u:=Option.isSome_iff_exists.1 h
 obtain ⟨u,h2⟩:=h2
 have h:=kH h2
 simp only [AM,List.mem_cons,Prod.mk.injEq,List.not_mem_nil,or_false] at h
 rcases h with ⟨rfl,_⟩
 · exact ⟨_,Tryz.underlying87⟩,Ke (by kernel_rfl) (by decide)⟩
theorem pk:aU Tryz.prog S ai∧Tryz.prog.follows .mixedOrders=true:=⟨Bv,by kernel_rfl⟩
abbrev q0:Sy.K:= .val (.data .str)
abbrev q1:Sy.K:= .val (.data (.int .i64))
abbrev q2:Sy.K:= .val (.data (.int .u8))
abbrev q3:Sy.K:= .val (.data .bool)
abbrev q4:Sy.K:= .ro (.st 2)
abbrev q5:Sy.K:= .val (.data (.st 0))
abbrev q6:Sy.K:= .obj [.data (.int .i64), .data (.int .i64), .data (.int .i64), .data .str, .data (.int .i64)]
abbrev q7:Sy.K:= .val (.aW (.st 0))
abbrev q8:Sy.K:= .val (.data (.st 1))
abbrev q9:Sy.K:= .obj [.data (.int .i64), .data (.int .i64)]
abbrev eV:Sy.K:= .obj [.data (.st 10)]
abbrev PD:Sy.K:= .val (.data (.st 4))
abbrev Gy:Sy.K:= .val (.aW (.st 4))
abbrev kL:Sy.K:= .obj [.data (.sl (.st 0)), .data (.int .i64), .data (.int .i64), .data (.int .i64)]
abbrev gi:Sy.K:= .obj [.data (.st 11)]
abbrev iq:Sy.K:= .obj [.data (.st 12)]
abbrev qY:Sy.K:= .val (.data (.st 7))
abbrev By:Sy.K:= .obj [.data (.sl (.st 0)), .data (.int .i64), .data (.int .i64), .data (.int .i64), .data (.int .i64)]
abbrev PE:Sy.K:= .obj [.data (.int .i64), .data (.int .i64), .data .str, .aM (.st 7), .data (.int .i64)]
abbrev Bz:Sy.K:= .obj [.data (.int .i64), .data (.int .i64), .data .str, .data (.sl (.st 7)), .data (.int .i64)]
abbrev BA:Sy.K:= .val (.data (.sl (.st 0)))
abbrev uL:Sy.K:= .val (.data (.sl (.st 7)))
abbrev xE:Sy.K:= .val (.data (.st 6))
abbrev xF:Sy.K:= .val (.aW (.st 6))
abbrev Gz:Sy.K:= .val (.data (.st 8))
abbrev qZ:Sy.K:= .obj [.data .str, .aM (.st 7), .data .str, .aM (.st 6), .data (.int .i64)]
abbrev uM:Sy.K:= .obj [.data (.int .i64), .data .str, .data (.sl (.st 6)), .data (.sl (.st 6)), .aW (.st 8), .data (.sl (.st 5)), .data (.int .i64)]
abbrev GA:Sy.K:= .val (.aW (.st 5))
abbrev xG:Sy.K:= .val (.data (.st 3))
abbrev GB:Sy.K:= .obj [.data .str, .data (.int .i64), .data (.int .i64), .aM (.st 4), .aM (.st 4), .aM (.st 4), .aM (.st 5), .data (.int .i64)]
abbrev PF:Sy.K:= .val (.data (.st 14))
abbrev BB:Sy.K:= .val (.data (.sl (.int .i64)))
abbrev eW:Sy.K:= .aV
abbrev PG:Sy.K:= .obj [.data (.int .i64), .data .str, .data .str, .data (.sl (.st 7)), .data (.int .i64), .data (.sl (.st 6)), .data (.sl (.st 6)), .data (.int .i64)]
abbrev BC:Sy.K:= .val (.data (.sl (.st 6)))
abbrev PI:Sy.K:= .obj [.data .str, .data (.sl (.st 7)), .data .str, .data (.sl (.st 6)), .data (.int .i64)]
abbrev PJ:Sy.K:= .val (.data (.st 5))
abbrev PK:Sy.K:= .obj [.data (.int .i64), .data .str, .data (.sl (.st 6)), .data (.sl (.st 6)), .data (.sl (.st 8)), .data (.sl (.st 5)), .data (.int .i64)]
abbrev PL:Sy.K:= .val (.data (.sl (.st 8)))
abbrev GC:Sy.K:= .val (.data (.sl (.st 5)))
abbrev BD:Sy.K:= .obj [.data .str, .data (.int .i64), .data (.int .i64), .data (.sl (.st 4)), .data (.sl (.st 4)), .data (.sl (.st 4)), .data (.sl (.st 5)), .data (.int .i64)]
abbrev BE:Sy.K:= .val (.data (.sl (.st 4)))
abbrev GD:Sy.K:= .val (.data (.sl (.int .u8)))
abbrev BF:Sy.K:= .err
def bz (e:Ty):Nat:=if e= .int .u8 then 1 else 1
def jv:List (Nat×Ty):= [(3, .int .i64),(5, .int .u8),(9, .str),(36, .sl (.int .u8))]
def C9:List (Nat×(Nat×Ty)):= []
abbrev SA:aP:=S.vu (look jv) (fun _=>false) (look C9) (fun _=>false)
theorem SC:bP Tryz.prog SA ai 3 (.int .i64):=rX rfl (by kernel_rfl) (by kernel_rfl) (by kernel_rfl)
theorem SE:bP Tryz.prog SA ai 5 (.int .u8):=rX rfl (by kernel_rfl) (by kernel_rfl) (by kernel_rfl)
theorem SF:bP Tryz.prog SA ai 9 (.str):=Ib rfl (by kernel_rfl) (by kernel_rfl) (by kernel_rfl)
theorem SD:bP Tryz.prog SA ai 36 (.sl (.int .u8)):=mE rfl (by kernel_rfl) (by kernel_rfl) Tryz.underlying36 rfl rfl (by kernel_rfl) (by kernel_rfl)
theorem Rm:cz SA:=⟨Ck.flat,Ck.qx⟩
theorem Pz:aU Tryz.prog SA ai:=⟨Rm,fun t e h0=>by
 have h:=kH (show look jv t=some (e) from h0)
 simp only [jv,List.mem_cons,Prod.mk.injEq,List.not_mem_nil,or_false] at h
 rcases h with ⟨rfl,h⟩ | ⟨rfl,h⟩ | ⟨rfl,h⟩ | ⟨rfl,h⟩
 · subst h; exact SC
 · subst h; exact SE
 · subst h; exact SF
 · subst h; exact SD,fun t h=>(nomatch h),fun t h=>(nomatch h),Bv.nu,Bv.bt⟩
theorem hbz: ∀ t e,SA.ty t=some (.sl e)→ai t=bz e:=fun t e h0=>by
 have h:=kH (show look jv t=some (.sl e) from h0)
 simp only [jv,List.mem_cons,Prod.mk.injEq,List.not_mem_nil,or_false] at h
 rcases h with ⟨rfl,h⟩ | ⟨rfl,h⟩ | ⟨rfl,h⟩ | ⟨rfl,h⟩
 · exact (nomatch h)
 · exact (nomatch h)
 · exact (nomatch h)
 · cases h; decide
theorem Rz:yS SA:=⟨fun t e h0=>by
 have h:=kH (show look jv t=some (.sl e) from h0)
 simp only [jv,List.mem_cons,Prod.mk.injEq,List.not_mem_nil,or_false] at h
 rcases h with ⟨rfl,h⟩ | ⟨rfl,h⟩ | ⟨rfl,h⟩ | ⟨rfl,h⟩
 · exact (nomatch h)
 · exact (nomatch h)
 · exact (nomatch h)
 · cases h; decide,fun t h0=>by
 have h:=kH (show look jv t=some (.pt) from h0)
 simp only [jv,List.mem_cons,Prod.mk.injEq,List.not_mem_nil,or_false] at h
 rcases h with ⟨rfl,h⟩ | ⟨rfl,h⟩ | ⟨rfl,h⟩ | ⟨rfl,h⟩
 · exact (nomatch h)
 · exact (nomatch h)
 · exact (nomatch h)
 · exact (nomatch h)⟩
theorem RG:yT Tryz.prog SA:=fun t e h0=>by
 have h:=kH (show look jv t=some (.st e) from h0)
 simp only [jv,List.mem_cons,Prod.mk.injEq,List.not_mem_nil,or_false] at h
 rcases h with ⟨rfl,h⟩ | ⟨rfl,h⟩ | ⟨rfl,h⟩ | ⟨rfl,h⟩
 · exact (nomatch h)
 · exact (nomatch h)
 · exact (nomatch h)
 · exact (nomatch h)
abbrev Cb:List UInt8:= [45,62]
abbrev mc:List UInt8:= [61,61]
abbrev l_:List UInt8:= [33,61]
abbrev mj:List UInt8:= [60,61]
abbrev mg:List UInt8:= [62,61]
abbrev l9:List UInt8:= [38,38]
abbrev mb:List UInt8:= [124,124]
abbrev jr:List UInt8:= [123,125,40,41,91,93,59,44,46,58,61,60,62,43,45,42,47,37,33,36]
abbrev Ca:List UInt8:= [99,104,97,114,116,32,99,32,115,116,101,112,115,32,50,32,102,117,101,108,32,57,123,115,116,97,116,101,32,97,123,111,110,32,101,45,62,97,59,125,125]
abbrev yy:List UInt8:= [32,9,10,13]
abbrev Hj:List UInt8:= [45,62,32,61,61,32,33,61,32,60,61,32,62,61,32,38,38,32,124,124]
abbrev kU:List UInt8:= [99,104,97,114,116]
abbrev yz:List UInt8:= [115,121,115,116,101,109]
abbrev ye:List UInt8:= [97,103,101]
abbrev kY:List UInt8:= [115,116,101,112,115]
abbrev kV:List UInt8:= [102,117,101,108]
abbrev rN:List UInt8:= [118,97,114]
abbrev rK:List UInt8:= [112,111,114,116]
abbrev rM:List UInt8:= [116,105,109,101,114]
abbrev eM:List UInt8:= [115,116,97,116,101]
abbrev fP:List UInt8:= [112,97,114,97,108,108,101,108]
abbrev nW:List UInt8:= [104,105,115,116,111,114,121]
abbrev nT:List UInt8:= [100,101,101,112]
abbrev rE:List UInt8:= [101,110,116,114,121]
abbrev rF:List UInt8:= [101,120,105,116]
abbrev mm:List UInt8:= [111,110]
abbrev nS:List UInt8:= [97,117,116,111]
abbrev ve:List UInt8:= [114,97,105,115,101]
abbrev vf:List UInt8:= [115,101,110,100]
abbrev u_:List UInt8:= [97,114,109]
abbrev vb:List UInt8:= [99,97,110,99,101,108]
abbrev rG:List UInt8:= [105,102]
abbrev vc:List UInt8:= [101,108,115,101]
abbrev rI:List UInt8:= [108,111,111,112]
abbrev iD:List UInt8:= [105,110]
abbrev yt:List UInt8:= [105,110,115,116]
abbrev yx:List UInt8:= [113,117,97,110,116,117,109]
abbrev yp:List UInt8:= [101,120,116]
abbrev yw:List UInt8:= [112,114,105,111]
abbrev yj:List UInt8:= [99,104,97,110]
abbrev yf:List UInt8:= [99,97,112]
abbrev yh:List UInt8:= [99,101,114,116]
abbrev yu:List UInt8:= [105,110,115,116,115]
abbrev yl:List UInt8:= [99,104,97,110,115]
abbrev yg:List UInt8:= [99,101,108,108]
abbrev Cc:List UInt8:= [111,102,102]
abbrev fq:List UInt8:= [123]
abbrev Hf:List UInt8:= [61]
abbrev fu:List UInt8:= [45]
abbrev cD:List UInt8:= [59]
abbrev cw:List UInt8:= [125]
abbrev kT:List UInt8:= [33]
abbrev nU:List UInt8:= [36]
abbrev cH:List UInt8:= [40]
abbrev cx:List UInt8:= [41]
abbrev mh:List UInt8:= [60]
abbrev me:List UInt8:= [62]
abbrev mq:List UInt8:= [43]
abbrev mw:List UInt8:= [42]
abbrev mu:List UInt8:= [47]
abbrev mo:List UInt8:= [37]
abbrev Rg:List UInt8:= [91]
abbrev Cf:List UInt8:= [93]
abbrev B_:List UInt8:= [99,104,97,114,116,32,99,32,115,116,101,112,115,32,50,32,102,117,101,108,32,57,32,123,32,115,116,97,116,101,32,97,32,123,32,111,110,32,101,32,45,62,32,59,32,125,32,125]
abbrev pW:List UInt8:= [99,104,97,114,116,32]
abbrev rL:List UInt8:= [32,115,116,101,112,115,32]
abbrev yq:List UInt8:= [32,102,117,101,108,32]
abbrev Cg:List UInt8:= [32,123,10]
abbrev vg:List UInt8:= [32,32,118,97,114,32]
abbrev jq:List UInt8:= [32,61,32]
abbrev kX:List UInt8:= [59,10]
abbrev Cd:List UInt8:= [32,32,112,111,114,116,32]
abbrev Ci:List UInt8:= [32,32,116,105,109,101,114,32]
abbrev eF:List UInt8:= [32,32]
abbrev Hi:List UInt8:= [115,116,97,116,101,32]
abbrev Rh:List UInt8:= [112,97,114,97,108,108,101,108,32]
abbrev Rd:List UInt8:= [104,105,115,116,111,114,121,32]
abbrev Rc:List UInt8:= [100,101,101,112,32]
abbrev Ri:List UInt8:= [32,123,125,10]
abbrev yo:List UInt8:= [101,110,116,114,121,32]
abbrev Rf:List UInt8:= [123,125]
abbrev Re:List UInt8:= [123,10]
abbrev pX:List UInt8:= [105,110,40]
abbrev bY:List UInt8:= [32]
abbrev nX:List UInt8:= [114,97,105,115,101,32]
abbrev jo:List UInt8:= [115,101,110,100,32]
abbrev nR:List UInt8:= [97,114,109,32]
abbrev rD:List UInt8:= [99,97,110,99,101,108,32]
abbrev rH:List UInt8:= [105,102,32]
abbrev He:List UInt8:= [32,101,108,115,101,32]
abbrev rJ:List UInt8:= [108,111,111,112,32]
abbrev kW:List UInt8:= [10]
abbrev nV:List UInt8:= [101,120,105,116,32]
abbrev Hg:List UInt8:= [111,110,32]
abbrev Ch:List UInt8:= [32,91]
abbrev Hh:List UInt8:= [32,45,62,32]
abbrev Ce:List UInt8:= [125,10]
abbrev G_:List UInt8:= [99,104,97,114,116,32,99,32,115,116,101,112,115,32,50,32,102,117,101,108,32,57,32,123,10,32,32,115,116,97,116,101,32,97,32,123,10,32,32,32,32,111,110,32,101,32,45,62,32,97,59,10,32,32,125,10,125,10]
abbrev ym:List UInt8:= [99,104,97,114,116,32,99,32,115,116,101,112,115,32,50,32,102,117,101,108,32,50,32,123]
abbrev gF:List UInt8:= [32,115]
abbrev nY:List UInt8:= [32,123]
abbrev JT:List UInt8×List UInt8×List UInt8×List UInt8×List UInt8×List UInt8×List UInt8×List UInt8×List UInt8×List UInt8×List UInt8×List UInt8×List UInt8:=(mb,l9,mh,mj,me,mg,mc,l_,mq,fu,mw,mu,mo)
abbrev Db:List UInt8×List UInt8×List UInt8×List UInt8×List UInt8×List UInt8×List UInt8×List UInt8×List UInt8×List UInt8×List UInt8×List UInt8×List UInt8×List UInt8×List UInt8×List UInt8×List UInt8×List UInt8×List UInt8×List UInt8×List UInt8×List UInt8×List UInt8×List UInt8×List UInt8×List UInt8×List UInt8×List UInt8×List UInt8×List UInt8×List UInt8×List UInt8×List UInt8×List UInt8×List UInt8:=(yz,ye,kU,kY,kV,rN,rK,rM,eM,fP,nW,nT,rE,rF,mm,nS,ve,vf,u_,vb,rG,vc,rI,iD,yt,yx,yp,yw,yj,yf,yh,yu,yl,yg,Cc)
abbrev gW:List (List UInt8):= [eM,fP]
end
end Go.Sy.Ex
namespace Go.Sy.Ex
open Go.Sy Go.Proofs
theorem L_ {w:World} {M:St} (h:gp S w M):(∃ m,w.cell? ⟨1,0,none⟩=some (.int .i64 m)):=by
 obtain ⟨_,_,v0,c0,m,rfl⟩:=h.1 (((1,0),fun v=> ∃ m,v= .int .i64 m)) (by simp)
 exact ⟨m,c0⟩
theorem Mc {w:World} {M:St} (h:gp S w M):(∃ e,w.cell? ⟨5,0,none⟩=some e∧(e= .nilIface∨ ∃ t p,e= .iface t p)):=by
 obtain ⟨_,_,v1,c1,p1⟩:=h.1 (((5,0),fun v=>v= .nilIface∨ ∃ t p,v= .iface t p)) (by simp)
 exact ⟨v1,c1,p1⟩
theorem Md {w:World} {M:St} (h:gp S w M):(∃ e,w.cell? ⟨4,0,none⟩=some e∧(e= .nilIface∨ ∃ t p,e= .iface t p)):=by
 obtain ⟨_,_,v1,c1,p1⟩:=h.1 (((4,0),fun v=>v= .nilIface∨ ∃ t p,v= .iface t p)) (by simp)
 exact ⟨v1,c1,p1⟩
theorem EL {w:World} {M:St} (h:gp S w M):Lib.TabIs Tryz.prog w "internal/strconv.uint64pow10" .u64 Lib.pow10Tab:=by
 obtain ⟨_,_,ob,c3,t,f,rfl⟩:=h.2 ((0,fun ob=> ∃ t f,ob= .cells (Go.Lib.pow10Tab.map fun z=>Value.int .u64 z).toArray t f)) (by simp)
 unfold Lib.TabIs World.var?
 rw [show Tryz.prog.globalNamed "internal/strconv.uint64pow10" =some 0 from by kernel_rfl]
 show (match w.heap[0]? with | some (.cells cs _ _)=>some cs | _=>none)=_
 rw [c3]
theorem wo {w w':World} {M:St} (h:RowKit.Below w.heap.size w w'):aX w w' M:=by
 obtain ⟨a,b,c,d,e⟩:=h
 exact ⟨a,b,c,d,fun k hk _=>e k hk,fun k o hk _=>cell_of_heap (e k hk),fun k o hk hs=>by rw [cell_of_heap (e k hk)]; exact hs,fun k o hk _=>wR (e k hk)⟩
theorem HG (l:List UInt8):(⟨l.toArray⟩:ByteArray).size=l.length:=by show l.toArray.size=_; simp
theorem Dj (w:World) (k:Nat) (os:Array Obj):RowKit.Below w.heap.size w (Go.Sort.grow (w.drewN k) os):=
 ⟨rfl,rfl,rfl,by simp [Go.Sort.grow,World.drewN],fun j hj=>by simp [Go.Sort.grow,World.drewN,Array.getElem?_append,hj]⟩
theorem Cu {w:World} {s M:St} (hM:fS M) (r:List UInt8):bM Tryz.prog S w s M [.val (.data .str)] r [.string ⟨r.toArray⟩]:=
 ⟨_,_,_,_,rS M,rfl,⟨⟨hM,1,rfl⟩,rfl⟩,fun _ _ h=>h,rfl⟩
noncomputable def nE (s:List UInt8) (c:Int):Option Int:=some (Lib.indexByte s c.toNat.toUInt8)
theorem Gr:aC Tryz.prog S ⟨96,[.val (.data .str), .val (.data (.int .u8))],[.val (.data (.int .i64))],fun x=>nE x.1 x.2⟩:=by
 refine ⟨⟨Tryz.f96,Tryz.func96,by kernel_rfl,by kernel_rfl⟩,fun w s M (x:List UInt8×Int) args r hx hs hG hr=> ?_⟩
 obtain ⟨x,y⟩:=x
 obtain ⟨M1,M2,v,rr,_,rfl,⟨⟨_,n,h1⟩,h2⟩,M3,M4,v',pT,_,rfl,⟨⟨_,n',h3⟩,h4⟩,_,rfl⟩:=hx
 have hv:=kq (w:=w) (s:=s) ⟨h2,n,h1⟩
 have dh:=jz (w:=w) (s:=s) ⟨h4,n',h3⟩
 subst hv dh
 cases hr
 refine (Tryz.strings_IndexByte _ _ w).mono ?_
 rintro e w' ⟨rfl,rfl⟩
 exact ⟨[.int .i64 _],fun _ _=>False,fun _ _=>False,rfl,aX.refl _ _,⟨_,_,_,_,Be,rfl,⟨⟨fun _ _ h=>h,1,rfl⟩,rfl⟩,fun _ _ h=>h,rfl⟩,fun _ _ h=>h.elim,fun _ _ h=>h.elim⟩
noncomputable def qU (s sub:List UInt8):Option Bool:=if s.length<4294967281 then some (Lib.contains s sub) else none
theorem Pg:aC Tryz.prog S ⟨130,[.val (.data .str), .val (.data .str)],[.val (.data .bool)],fun x=>qU x.1 x.2⟩:=by
 refine ⟨⟨Tryz.f130,Tryz.func130,by kernel_rfl,by kernel_rfl⟩,fun w s M (x:List UInt8×List UInt8) args r hx hs hG hr=> ?_⟩
 obtain ⟨x,y⟩:=x
 obtain ⟨M1,M2,v,rr,_,rfl,⟨⟨_,n,h1⟩,h2⟩,M3,M4,v',pT,_,rfl,⟨⟨_,n',h3⟩,h4⟩,_,rfl⟩:=hx
 have hv:=kq (w:=w) (s:=s) ⟨h2,n,h1⟩
 have dh:=kq (w:=w) (s:=s) ⟨h4,n',h3⟩
 subst hv dh
 obtain ⟨m,hm⟩:=L_ hG
 replace hr:qU x y=some r:=hr
 unfold qU at hr
 split at hr
 · rename_i hl
   cases hr
   refine (Tryz.strings_Contains ⟨x.toArray⟩ ⟨y.toArray⟩ m w (Nat.lt_of_le_of_lt (Nat.le_of_eq (HG _)) hl) hm).mono ?_
   rintro e w' ⟨rfl,rfl⟩
   exact ⟨[.bool _],fun _ _=>False,fun _ _=>False,rfl,aX.refl _ _,⟨_,_,_,_,Be,rfl,⟨⟨fun _ _ h=>h,1,rfl⟩,rfl⟩,fun _ _ h=>h,rfl⟩,fun _ _ h=>h.elim,fun _ _ h=>h.elim⟩
 · cases hr
noncomputable def nF (s:List UInt8) (b z:Int):Option (Int×Bool):=if s.length≤281474976710656∧b=10∧z=64 then some (match Lib.parseIntB 64 s with
 | .ok v=>(v,true)
 | .range=>(Lib.intSat 64 s,false)
 | _=>(0,false)) else none
theorem NU {w:World} {s M:St} (hM:fS M) (v:Int) (b:Bool) (e:Value) (he:sD b e):bM Tryz.prog S w s M [.val (.data (.int .i64)), .err] (v,b) [.int .i64 v,e]:=
 ⟨_,_,_,_,rS M,rfl,⟨⟨hM,1,rfl⟩,rfl⟩,_,_,_,_,Be,rfl,⟨fun _ _ h=>h,he⟩,fun _ _ h=>h,rfl⟩
theorem Ph:aC Tryz.prog S ⟨129,[.val (.data .str), .val (.data (.int .i64)), .val (.data (.int .i64))],[.val (.data (.int .i64)), .err],fun x=>nF x.1 x.2.1 x.2.2⟩:=by
 refine ⟨⟨Tryz.f129,Tryz.func129,by kernel_rfl,by kernel_rfl⟩,fun w s M (x:List UInt8×Int×Int) args r hx hs hG hr=> ?_⟩
 obtain ⟨x,y,z⟩:=x
 obtain ⟨M1,M2,v,rr,_,rfl,⟨⟨_,n,h1⟩,h2⟩,M3,M4,v',pT,_,rfl,⟨⟨_,n',h3⟩,h4⟩,M5,M6,v'',Th,_,rfl,⟨⟨_,O1,h5⟩,h6⟩,_,rfl⟩:=hx
 have hv:=kq (w:=w) (s:=s) ⟨h2,n,h1⟩
 have dh:=jz (w:=w) (s:=s) ⟨h4,n',h3⟩
 have NC:=jz (w:=w) (s:=s) ⟨h6,O1,h5⟩
 subst hv dh NC
 obtain ⟨e1,c1,k1⟩:=Mc hG
 obtain ⟨e0,c0,k0⟩:=Md hG
 replace hr:nF x y z=some r:=hr
 unfold nF at hr
 split at hr
 · rename_i hl
   obtain ⟨hl,rfl,rfl⟩:=hl
   have hsz:(⟨x.toArray⟩:ByteArray).size≤281474976710656:=Nat.le_trans (Nat.le_of_eq (HG x)) hl
   have Ak: ∀ (r0:Int×Bool) (e:Value) (w':World),sD r0.2 e→RowKit.Below w.heap.size w w'→ ∃ us s' M',Ending.returned (Value.tuple #[.int .i64 r0.1,e])= .returned (jj us)∧aX w w' M∧bM Tryz.prog S w' s' M' [.val (.data (.int .i64)), .err] r0 (us++ [])∧
    (∀ b o,s' b o→b<w'.heap.size∧ ¬ M' b o∧(s b o∨M b o∨w.heap.size≤b))∧ ∀ b o,M' b o→M b o∨w.heap.size≤b:=fun r0 e w' he hb=>
    ⟨[.int .i64 r0.1,e],fun _ _=>False,fun _ _=>False,rfl,wo hb,NU (fun _ _ h=>h) _ _ _ he,fun _ _ h=>h.elim,fun _ _ h=>h.elim⟩
   cases hp:Lib.parseIntB 64 x with
   | ok v=>
    rw [hp] at hr
    cases hr
    refine (Tryz.strconv_ParseInt_10_at64_ok ⟨x.toArray⟩ (by omega) v hp w).mono ?_
    rintro e w' ⟨rfl,hw⟩
    refine Ak (v,true) .nilIface w' rfl ?_
    rcases hw with rfl | ⟨t,rfl⟩
    · exact RowKit.Below.refl _ _
    · exact ⟨rfl,rfl,rfl,by rw [Lib.bytesWorld_size]; omega,fun j hj=>Lib.bytesWorld_at_old w 5 t j hj⟩
   | range=>
    rw [hp] at hr
    cases hr
    refine (Tryz.strconv_ParseInt_10_at64_range ⟨x.toArray⟩ hsz hp e1 w c1 k1).mono ?_
    rintro e w' ⟨N,rfl,_,_,hb⟩
    exact Ak (_,false) _ w' ⟨_,_,rfl⟩ hb
   | _=>
    rw [hp] at hr
    cases hr
    refine (Any.strconv_ParseInt_10_at64_syntax Tryz.A1 ⟨x.toArray⟩ hsz hp e0 w c0 k0).mono ?_
    rintro e w' ⟨N,rfl,_,_,hb⟩
    exact Ak (0,false) _ w' ⟨_,_,rfl⟩ hb
 · cases hr
noncomputable def pI (n b:Int):Option (List UInt8):=if b=10∧ -9223372036854775808≤n∧n≤9223372036854775807 then some (Lib.itoa n) else none
theorem Gq:aC Tryz.prog S ⟨40,[.val (.data (.int .i64)), .val (.data (.int .i64))],[.val (.data .str)],fun x=>pI x.1 x.2⟩:=by
 refine ⟨⟨Tryz.f40,Tryz.func40,by kernel_rfl,by kernel_rfl⟩,fun w s M (x:Int×Int) args r hx hs hG hr=> ?_⟩
 obtain ⟨x,y⟩:=x
 obtain ⟨M1,M2,v,rr,_,rfl,⟨⟨_,n,h1⟩,h2⟩,M3,M4,v',pT,_,rfl,⟨⟨_,n',h3⟩,h4⟩,_,rfl⟩:=hx
 have hv:=jz (w:=w) (s:=s) ⟨h2,n,h1⟩
 have dh:=jz (w:=w) (s:=s) ⟨h4,n',h3⟩
 subst hv dh
 have ht:=EL hG
 replace hr:pI x y=some r:=hr
 unfold pI at hr
 split at hr
 · rename_i hl
   obtain ⟨rfl,hl⟩:=hl
   cases hr
   refine (Tryz.strconv_FormatInt_10 x hl.1 hl.2 w ht).mono ?_
   rintro e w' ⟨rfl,k,os,rfl⟩
   exact ⟨[.string _],fun _ _=>False,fun _ _=>False,rfl,wo (Dj w k os),Cu (fun _ _ h=>h) _,fun _ _ h=>h.elim,fun _ _ h=>h.elim⟩
 · cases hr
noncomputable def iZ (n:Int):Option (List UInt8):=if -9223372036854775808≤n∧n≤9223372036854775807 then some (Lib.itoa n) else none
theorem Gs:aC Tryz.prog S ⟨39,[.val (.data (.int .i64))],[.val (.data .str)],fun x=>iZ x⟩:=by
 refine ⟨⟨Tryz.f39,Tryz.func39,by kernel_rfl,by kernel_rfl⟩,fun w s M (x:Int) args r hx hs hG hr=> ?_⟩
 obtain ⟨M1,M2,v,rr,_,rfl,⟨⟨_,n,h1⟩,h2⟩,_,rfl⟩:=hx
 have hv:=jz (w:=w) (s:=s) ⟨h2,n,h1⟩
 subst hv
 have ht:=EL hG
 replace hr:iZ x=some r:=hr
 unfold iZ at hr
 split at hr
 · rename_i hl
   cases hr
   refine (Tryz.strconv_Itoa x hl.1 hl.2 w ht).mono ?_
   rintro e w' ⟨rfl,k,os,rfl⟩
   exact ⟨[.string _],fun _ _=>False,fun _ _=>False,rfl,wo (Dj w k os),Cu (fun _ _ h=>h) _,fun _ _ h=>h.elim,fun _ _ h=>h.elim⟩
 · cases hr
noncomputable def i_ (s:List UInt8) (c:Int):Option (List UInt8):=if 0≤c∧c≤9223372036854775807∧s.length*c.toNat≤140737488355328 then some (Lib.repeatL s c.toNat) else none
theorem Bm:aC Tryz.prog S ⟨84,[.val (.data .str), .val (.data (.int .i64))],[.val (.data .str)],fun x=>i_ x.1 x.2⟩:=by
 refine ⟨⟨Tryz.f84,Tryz.func84,by kernel_rfl,by kernel_rfl⟩,fun w s M (x:List UInt8×Int) args r hx hs hG hr=> ?_⟩
 obtain ⟨x,y⟩:=x
 obtain ⟨M1,M2,v,rr,_,rfl,⟨⟨_,n,h1⟩,h2⟩,M3,M4,v',pT,_,rfl,⟨⟨_,n',h3⟩,h4⟩,_,rfl⟩:=hx
 have hv:=kq (w:=w) (s:=s) ⟨h2,n,h1⟩
 have dh:=jz (w:=w) (s:=s) ⟨h4,n',h3⟩
 subst hv dh
 replace hr:i_ x y=some r:=hr
 unfold i_ at hr
 split at hr
 · rename_i hl
   obtain ⟨h0,h1',lK⟩:=hl
   cases hr
   have hc:=Tryz.strings_Repeat ⟨x.toArray⟩ y.toNat w (by omega) lK
   rw [Int.toNat_of_nonneg h0] at hc
   refine hc.mono ?_
   rintro e w' ⟨rfl,hb⟩
   exact ⟨[.string _],fun _ _=>False,fun _ _=>False,rfl,wo hb,Cu (fun _ _ h=>h) _,fun _ _ h=>h.elim,fun _ _ h=>h.elim⟩
 · cases hr
theorem qV:aC Tryz.prog S ⟨38,[.aV, .val (.data .str)],[.val (.data (.int .i64)), .err],fun x=>br x.1 x.2⟩:=
 J5 (ρ:=Tryz.AZ) Tryz.Oh Tryz.IQ rfl ⟨Tryz.f38,Tryz.func38,by kernel_rfl,by kernel_rfl⟩
theorem Gt:aC Tryz.prog S ⟨147,[.aV, .val (.data (.int .u8))],[.err],fun x=>eO x.1 x.2⟩:=
 J2 (ρ:=Tryz.xo) Tryz.FV Tryz.CJ rfl ⟨Tryz.f147,Tryz.func147,by kernel_rfl,by kernel_rfl⟩
theorem Pj:sG Tryz.prog S ⟨147,[.aV, .val (.data (.int .u8))],[.err],fun x=>eO x.1 x.2⟩:=
 J3 (ρ:=Tryz.xo) Tryz.FV Tryz.CJ rfl ⟨Tryz.f147,Tryz.func147,by kernel_rfl,by kernel_rfl⟩
noncomputable def sO (x:List UInt8):Option (List UInt8×List UInt8):=some (x,x)
theorem Bn:aC Tryz.prog S ⟨42,[.aV],[.val (.data .str)],fun x=>sO x⟩:=
 J4 (ρ:=Tryz.A0) Tryz.Oi Tryz.IT rfl ⟨Tryz.f42,Tryz.func42,by kernel_rfl,by kernel_rfl⟩
end Go.Sy.Ex
set_option maxRecDepth 100000
namespace Go.Sy.Ex
open Go.Sy Go.Proofs
noncomputable section
abbrev D1:Entry S:=⟨96,[q0,q2],[q1],fun x=>nE x.1 x.2⟩
abbrev Ln:Entry S:=⟨129,[q0,q1,q1],[q1,BF],fun x=>nF x.1 x.2.1 x.2.2⟩
abbrev Lo:Entry S:=⟨130,[q0,q0],[q3],fun x=>qU x.1 x.2⟩
abbrev zC:Entry S:=⟨147,[eW,q2],[BF],fun x=>eO x.1 x.2⟩
abbrev D0:Entry S:=⟨40,[q1,q1],[q0],fun x=>pI x.1 x.2⟩
abbrev qv:Entry S:=⟨38,[eW,q0],[q1,BF],fun x=>br x.1 x.2⟩
abbrev zE:Entry S:=⟨42,[eW],[q0],fun x=>sO x⟩
abbrev DZ:Entry S:=⟨39,[q1],[q0],fun x=>iZ x⟩
abbrev zF:Entry S:=⟨84,[q0,q1],[q0],fun x=>i_ x.1 x.2⟩
abbrev OH:=(List UInt8)→Int→Option Int
abbrev F4 (f:OH):Entry S:=⟨52,[q0,q1],[q1],fun x=>f x.1 x.2⟩
mutual
def kG:Nat→(List UInt8)→Int→Option Int
 | 0,_,_=>none
 | k+1,text,aj=>if aj<(text.length:Int) then
  if 0≤aj then
  if aj<(text.length:Int) then
  (nE yy ((text.getD aj.toNat 0).toNat:Int)).bind fun r1=>
  if 0≤r1 then
  kG k text (au (aj+1)) else
  if 0≤aj then
  if aj<(text.length:Int) then
  if ((text.getD aj.toNat 0).toNat:Int)=35 then
  nB k text aj else
  some aj else none else none else none else none else
  some aj
def nB:Nat→(List UInt8)→Int→Option Int
 | 0,_,_=>none
 | k+1,text,aj=>if aj<(text.length:Int) then
  if 0≤aj then
  if aj<(text.length:Int) then
  if ((text.getD aj.toNat 0).toNat:Int)≠10 then
  nB k text (au (aj+1)) else
  kG k text aj else none else none else
  kG k text aj
end
def F3 (k:Nat) (text:List UInt8) (aj:Int):Option Int:=kG k text aj
def uE  (text:List UInt8) (aj:Int):Option Int:=cC (fun k (x:List UInt8×Int)=>F3 k x.1 x.2) (text,aj)
theorem OG:aC Tryz.prog S (F4 (uE)):=iF (fun k x=>F3 k x.1 x.2) (fun _=>rfl) fun k=>
 fF pk [D1] ⟨Gr,trivial⟩ Tryz.func52 [] k (fun k=> [(0,⟨[0,1],[q0,q1],fun x=>kG k x.1 x.2,false⟩),(2,⟨[0,1],[q0,q1],fun x=>nB k x.1 x.2,false⟩)]) ⟨fun _=>rfl,fun _=>rfl,trivial⟩ (fun _=>by kernel_rfl) (fun _=>by kernel_rfl) (by kernel_rfl)
abbrev OA:=Int→Option (Bool×Bool)
abbrev A8 (f:OA):Entry S:=⟨97,[q2],[q3,q3],fun x=>f x⟩
def nA  (c:Int):Option (Bool×Bool):=if 48≤c then
 if c≤57 then
 some (true,true) else
 if 97≤c then
 if c≤122 then
 if c≤122 then
 some (true,false) else
 some (false,false) else
 if 65≤c then
 if c≤90 then
 if c≤90 then
 some (true,false) else
 some (false,false) else
 if c=95 then
 some (true,false) else
 some (false,false) else
 if c=95 then
 some (true,false) else
 some (false,false) else
 if 65≤c then
 if c≤90 then
 if c≤90 then
 some (true,false) else
 some (false,false) else
 if c=95 then
 some (true,false) else
 some (false,false) else
 if c=95 then
 some (true,false) else
 some (false,false) else
 if 97≤c then
 if c≤122 then
 if c≤122 then
 some (true,false) else
 some (false,false) else
 if 65≤c then
 if c≤90 then
 if c≤90 then
 some (true,false) else
 some (false,false) else
 if c=95 then
 some (true,false) else
 some (false,false) else
 if c=95 then
 some (true,false) else
 some (false,false) else
 if 65≤c then
 if c≤90 then
 if c≤90 then
 some (true,false) else
 some (false,false) else
 if c=95 then
 some (true,false) else
 some (false,false) else
 if c=95 then
 some (true,false) else
 some (false,false)
theorem F0:aC Tryz.prog S (A8 (nA)):=
 bu pk [] trivial Tryz.func97 (by kernel_rfl) (fun _=>by kernel_rfl) (by kernel_rfl)
abbrev Oz:=(List UInt8)→Int→Option Int
abbrev FZ (f:Oz):Entry S:=⟨98,[q0,q1],[q1],fun x=>f x.1 x.2⟩
def pH:Nat→(List UInt8)→Int→Bool→Option Int
 | 0,_,_,_=>none
 | k+1,text,aj,number=>if aj<(text.length:Int) then
  if 0≤aj then
  if aj<(text.length:Int) then
  (nA ((text.getD aj.toNat 0).toNat:Int)).bind fun r2=>
  bif !r2.1 then
  some aj else
  bif number then
  bif !r2.2 then
  some aj else
  pH k text (au (aj+1)) number else
  pH k text (au (aj+1)) number else none else none else
  some aj
def A7 (k:Nat) (text:List UInt8) (aj:Int):Option Int:=if 0≤aj then
 if aj<(text.length:Int) then
 (nA ((text.getD aj.toNat 0).toNat:Int)).bind fun r1=>
 pH k text aj r1.2 else none else none
def uB  (text:List UInt8) (aj:Int):Option Int:=cC (fun k (x:List UInt8×Int)=>A7 k x.1 x.2) (text,aj)
theorem Oy:aC Tryz.prog S (FZ (uB)):=iF (fun k x=>A7 k x.1 x.2) (fun _=>rfl) fun k=>
 fF pk [A8 nA] ⟨F0,trivial⟩ Tryz.func98 [] k (fun k=> [(0,⟨[0,1,6],[q0,q1,q3],fun x=>pH k x.1 x.2.1 x.2.2,false⟩)]) ⟨fun _=>rfl,trivial⟩ (fun _=>by kernel_rfl) (fun _=>by kernel_rfl) (by kernel_rfl)
abbrev OC:=(List UInt8)→Option (Int×Int)
abbrev F1 (f:OC):Entry S:=⟨99,[q0],[q1,q1],fun x=>f x⟩
def uC  (s:List UInt8):Option (Int×Int):=if 1<(s.length:Int) then
 if (0:Int)≤0 then
 if 0<(s.length:Int) then
 if ((s.getD (0:Int).toNat 0).toNat:Int)=48 then
 some (0,11) else
 (nF s 10 64).bind fun r1=>
 bif !r1.2 then
 some (0,16) else
 some (r1.1,0) else none else none else
 (nF s 10 64).bind fun r2=>
 bif !r2.2 then
 some (0,16) else
 some (r2.1,0)
theorem OB:aC Tryz.prog S (F1 (uC)):=
 bu pk [Ln] ⟨Ph,trivial⟩ Tryz.func99 (by kernel_rfl) (fun _=>by kernel_rfl) (by kernel_rfl)
abbrev OF:=(List UInt8)→Int→Option Int
abbrev F2 (f:OF):Entry S:=⟨100,[q0,q1],[q1],fun x=>f x.1 x.2⟩
def uD  (text:List UInt8) (aj:Int):Option Int:=if (au (aj+1))<(text.length:Int) then
 if 0≤(au (aj+1)) then
 if (au (aj+1))<(text.length:Int) then
 if ((text.getD (au (aj+1)).toNat 0).toNat:Int)≠32 then
 if 0≤(au (aj+2)) then
 if (au (aj+2))≤(text.length:Int) then
 if 0≤aj then
 if aj≤(au (aj+2)) then
 (qU Hj (cut text aj (au (aj+2)))).bind fun r1=>
 bif r1 then
 some (au (aj+2)) else
 if 0≤aj then
 if aj<(text.length:Int) then
 (nE jr ((text.getD aj.toNat 0).toNat:Int)).bind fun r2=>
 if 0≤r2 then
 some (au (aj+1)) else
 some aj else none else none else none else none else none else none else
 if 0≤aj then
 if aj<(text.length:Int) then
 (nE jr ((text.getD aj.toNat 0).toNat:Int)).bind fun r3=>
 if 0≤r3 then
 some (au (aj+1)) else
 some aj else none else none else none else none else
 if 0≤aj then
 if aj<(text.length:Int) then
 (nE jr ((text.getD aj.toNat 0).toNat:Int)).bind fun r4=>
 if 0≤r4 then
 some (au (aj+1)) else
 some aj else none else none
theorem OD:aC Tryz.prog S (F2 (uD)):=
 bu pk [Lo,D1] ⟨Pg,Gr,trivial⟩ Tryz.func100 (by kernel_rfl) (fun _=>by kernel_rfl) (by kernel_rfl)
abbrev OJ:=(List UInt8)→Int→Option (ak×Int)
abbrev F5 (f:OJ):Entry S:=⟨53,[q0,q1],[q5,q1],fun x=>f x.1 x.2⟩
def uF  (text:List UInt8) (aj:Int):Option (ak×Int):=if 0≤aj then
 if aj<(text.length:Int) then
 (nA ((text.getD aj.toNat 0).toNat:Int)).bind fun r1=>
 bif r1.2 then
 (uB text aj).bind fun r2=>
 if 0≤r2 then
 if r2≤(text.length:Int) then
 if 0≤aj then
 if aj≤r2 then
 (uC (cut text aj r2)).bind fun r3=>
 if r3.2≠0 then
 some (ak.mk 0 0 0 [] 0,r3.2) else
 if 0≤r2 then
 if r2≤(text.length:Int) then
 if 0≤aj then
 if aj≤r2 then
 some (ak.mk 2 aj r2 (cut text aj r2) r3.1,0) else none else none else none else none else none else none else none else none else
 bif r1.1 then
 (uB text aj).bind fun r4=>
 if 24<(au (r4 - aj)) then
 some (ak.mk 0 0 0 [] 0,13) else
 if 0≤r4 then
 if r4≤(text.length:Int) then
 if 0≤aj then
 if aj≤r4 then
 some (ak.mk 1 aj r4 (cut text aj r4) 0,0) else none else none else none else none else
 (uD text aj).bind fun r5=>
 if r5=aj then
 some (ak.mk 0 0 0 [] 0,10) else
 if 0≤r5 then
 if r5≤(text.length:Int) then
 if 0≤aj then
 if aj≤r5 then
 some (ak.mk 3 aj r5 (cut text aj r5) 0,0) else none else none else none else none else none else none
theorem OI:aC Tryz.prog S (F5 (uF)):=
 bu pk [A8 nA,FZ uB,F1 uC,F2 uD] ⟨F0,Oy,OB,OD,trivial⟩ Tryz.func53 (by kernel_rfl) (fun _=>by kernel_rfl) (by kernel_rfl)
abbrev Ow:=(List UInt8)→Option (List ak×aQ)
abbrev FY (f:Ow):Entry S:=⟨22,[q0],[q7,q8],fun x=>f x⟩
def pG:Nat→(List UInt8)→Int→Int→(List ak)→Int→Option (List ak×aQ)
 | 0,_,_,_,_,_=>none
 | k+1,text,SZ,SY,l,aj=>if aj<(text.length:Int) then
  (uF text aj).bind fun r2=>
  if r2.2≠0 then
  some ([],aQ.mk r2.2 aj) else
  if (l.length+ [r2.1].length)*48≤140737488355328 then
  (uE text r2.1.End).bind fun r3=>
  pG k text SZ SY (l++ [r2.1]) r3 else none else
  if (l.length+ [ak.mk 4 aj aj [] 0].length)*48≤140737488355328 then
  some (l++ [ak.mk 4 aj aj [] 0],aQ.mk 0 0) else none
def A5 (k:Nat) (text:List UInt8):Option (List ak×aQ):=if 16384<(text.length:Int) then
 some ([],aQ.mk 13 16384) else
 (uE text 0).bind fun r1=>
 pG k text 0 0 [] r1
def xq  (text:List UInt8):Option (List ak×aQ):=cC (fun k (x:List UInt8)=>A5 k x) text
theorem Ov:aC Tryz.prog S (FY (xq)):=iF (fun k x=>A5 k x) (fun _=>rfl) fun k=>
 fF pk [F4 uE,F5 uF] ⟨OG,OI,trivial⟩ Tryz.func22 [] k (fun k=> [(0,⟨[0,3,4,5],[q0,q9,q7,q1],fun x=>pG k x.1 x.2.1.1 x.2.1.2 x.2.2.1 x.2.2.2,false⟩)]) ⟨fun _=>rfl,trivial⟩ (fun _=>by kernel_rfl) (fun _=>by kernel_rfl) (by kernel_rfl)
abbrev Ql:=ay→Option (Bool×ay)
abbrev uT (f:Ql):Entry S:=⟨27,[eV],[q3],fun x=>f x⟩
def jc  (r_:ay):Option (Bool×ay):=some (decide (r_.Row.aI.Code=0),r_)
theorem xR:aC Tryz.prog S (uT (jc)):=
 bu pk [] trivial Tryz.func27 (by kernel_rfl) (fun _=>by kernel_rfl) (by kernel_rfl)
abbrev P_:=ay→Option (ak×ay)
abbrev l5 (f:P_):Entry S:=⟨58,[eV],[q5],fun x=>f x⟩
def eB  (r_:ay):Option (ak×ay):=(jc r_).bind fun r1=>
 bif !r1.1 then
 some (ak.mk 4 0 0 [] 0,r1.2) else
 if r1.2.Row.At<0 then
 some (ak.mk 4 0 0 [] 0,r1.2) else
 if (r1.2.Row.L.length:Int)≤r1.2.Row.At then
 some (ak.mk 4 0 0 [] 0,r1.2) else
 if 0≤r1.2.Row.At then
 if r1.2.Row.At<(r1.2.Row.L.length:Int) then
 some (r1.2.Row.L.getD r1.2.Row.At.toNat ak.z,r1.2) else none else none
theorem nL:aC Tryz.prog S (l5 (eB)):=
 bu pk [uT jc] ⟨xR,trivial⟩ Tryz.func58 (by kernel_rfl) (fun _=>by kernel_rfl) (by kernel_rfl)
abbrev P7:=ay→(List UInt8)→Option (Bool×ay)
abbrev uQ (f:P7):Entry S:=⟨103,[eV,q0],[q3],fun x=>f x.1 x.2⟩
def eX  (r_:ay) (s:List UInt8):Option (Bool×ay):=(eB r_).bind fun r1=>
 if r1.1.Kind=3 then
 some (decide (r1.1.Text=s),r1.2) else
 if r1.1.Kind=1 then
 some (decide (r1.1.Text=s),r1.2) else
 some (false,r1.2)
theorem xN:aC Tryz.prog S (uQ (eX)):=
 bu pk [l5 eB] ⟨nL,trivial⟩ Tryz.func103 (by kernel_rfl) (fun _=>by kernel_rfl) (by kernel_rfl)
abbrev Qo:=ay→(List UInt8)→Option (Bool×ay)
abbrev ry (f:Qo):Entry S:=⟨62,[eV,q0],[q3],fun x=>f x.1 x.2⟩
def eC  (r_:ay) (s:List UInt8):Option (Bool×ay):=(eX r_ s).bind fun r1=>
 bif r1.1 then
 some (r1.1,ay.mk (aY.mk r1.2.Row.L (au (r1.2.Row.At+1)) r1.2.Row.aI)) else
 some (r1.1,r1.2)
theorem uV:aC Tryz.prog S (ry (eC)):=
 bu pk [uQ eX] ⟨xN,trivial⟩ Tryz.func62 (by kernel_rfl) (fun _=>by kernel_rfl) (by kernel_rfl)
abbrev PZ:=ay→Int→Int→Option ay
abbrev xK (f:PZ):Entry S:=⟨105,[eV,q1,q1],[],fun x=>f x.1 x.2.1 x.2.2⟩
def iw  (r_:ay) (code:Int) (aj:Int):Option ay:=(jc r_).bind fun r1=>
 bif r1.1 then
 some (ay.mk (aY.mk r1.2.Row.L r1.2.Row.At (aQ.mk code aj))) else
 some r1.2
theorem BK:aC Tryz.prog S (xK (iw)):=
 bu pk [uT jc] ⟨xR,trivial⟩ Tryz.func105 (by kernel_rfl) (fun _=>by kernel_rfl) (by kernel_rfl)
abbrev Qw:=ay→Option ay
abbrev xV (f:Qw):Entry S:=⟨101,[eV],[],fun x=>f x⟩
def j6  (r_:ay):Option ay:=(eB r_).bind fun r1=>
 if r1.1.Kind=4 then
 (iw r1.2 12 r1.1.At).bind fun r2=>
 some r2 else
 (iw r1.2 11 r1.1.At).bind fun r3=>
 some r3
theorem BT:aC Tryz.prog S (xV (j6)):=
 bu pk [l5 eB,xK iw] ⟨nL,BK,trivial⟩ Tryz.func101 (by kernel_rfl) (fun _=>by kernel_rfl) (by kernel_rfl)
abbrev Qt:=ay→(List UInt8)→Option ay
abbrev rz (f:Qt):Entry S:=⟨59,[eV,q0],[],fun x=>f x.1 x.2⟩
def dj  (r_:ay) (s:List UInt8):Option ay:=(eC r_ s).bind fun r1=>
 bif !r1.1 then
 (j6 r1.2).bind fun r2=>
 some r2 else
 some r1.2
theorem uX:aC Tryz.prog S (rz (dj)):=
 bu pk [ry eC,xV j6] ⟨uV,BT,trivial⟩ Tryz.func59 (by kernel_rfl) (fun _=>by kernel_rfl) (by kernel_rfl)
abbrev Ox:=(List UInt8)→Option Bool
abbrev xu (f:Ox):Entry S:=⟨131,[q0],[q3],fun x=>f x⟩
def lT  (s:List UInt8):Option Bool:=if s=yz then
 if s=yz then
 some true else
 some false else
 if s=ye then
 if s=ye then
 some true else
 some false else
 if s=kU then
 if s=kU then
 some true else
 some false else
 if s=kY then
 if s=kY then
 some true else
 some false else
 if s=kV then
 if s=kV then
 some true else
 some false else
 if s=rN then
 if s=rN then
 some true else
 some false else
 if s=rK then
 if s=rK then
 some true else
 some false else
 if s=rM then
 if s=rM then
 some true else
 some false else
 if s=eM then
 if s=eM then
 some true else
 some false else
 if s=fP then
 if s=fP then
 some true else
 some false else
 if s=nW then
 if s=nW then
 some true else
 some false else
 if s=nT then
 if s=nT then
 some true else
 some false else
 if s=rE then
 if s=rE then
 some true else
 some false else
 if s=rF then
 if s=rF then
 some true else
 some false else
 if s=mm then
 if s=mm then
 some true else
 some false else
 if s=nS then
 if s=nS then
 some true else
 some false else
 if s=ve then
 if s=ve then
 some true else
 some false else
 if s=vf then
 if s=vf then
 some true else
 some false else
 if s=u_ then
 if s=u_ then
 some true else
 some false else
 if s=vb then
 if s=vb then
 some true else
 some false else
 if s=rG then
 if s=rG then
 some true else
 some false else
 if s=vc then
 if s=vc then
 some true else
 some false else
 if s=rI then
 if s=rI then
 some true else
 some false else
 if s=iD then
 if s=iD then
 some true else
 some false else
 if s=yt then
 if s=yt then
 some true else
 some false else
 if s=yx then
 if s=yx then
 some true else
 some false else
 if s=yp then
 if s=yp then
 some true else
 some false else
 if s=yw then
 if s=yw then
 some true else
 some false else
 if s=yj then
 if s=yj then
 some true else
 some false else
 if s=yf then
 if s=yf then
 some true else
 some false else
 if s=yh then
 if s=yh then
 some true else
 some false else
 if s=yu then
 if s=yu then
 some true else
 some false else
 if s=yl then
 if s=yl then
 some true else
 some false else
 if s=yg then
 if s=yg then
 some true else
 some false else
 if s=Cc then
 some true else
 some false
theorem A6:aC Tryz.prog S (xu (lT)):=
 bu pk [] trivial Tryz.func131 (by kernel_rfl) (fun _=>by kernel_rfl) (by kernel_rfl)
abbrev P3:=ay→Option (Bool×ay)
abbrev GL (f:P3):Entry S:=⟨102,[eV],[q3],fun x=>f x⟩
def uP  (r_:ay):Option (Bool×ay):=(eB r_).bind fun r1=>
 if r1.1.Kind=1 then
 (lT r1.1.Text).bind fun r2=>
 some (!r2,r1.2) else
 some (false,r1.2)
theorem P2:aC Tryz.prog S (GL (uP)):=
 bu pk [l5 eB,xu lT] ⟨nL,A6,trivial⟩ Tryz.func102 (by kernel_rfl) (fun _=>by kernel_rfl) (by kernel_rfl)
abbrev Qd:=ay→Option (List UInt8×ay)
abbrev uS (f:Qd):Entry S:=⟨60,[eV],[q0],fun x=>f x⟩
def gT  (r_:ay):Option (List UInt8×ay):=(uP r_).bind fun r1=>
 bif !r1.1 then
 (j6 r1.2).bind fun r2=>
 some ([],r2) else
 if 0≤(au ((au (r1.2.Row.At+1)) - 1)) then
 if (au ((au (r1.2.Row.At+1)) - 1))<(r1.2.Row.L.length:Int) then
 some ((r1.2.Row.L.getD (au ((au (r1.2.Row.At+1)) - 1)).toNat ak.z).Text,ay.mk (aY.mk r1.2.Row.L (au (r1.2.Row.At+1)) r1.2.Row.aI)) else none else none
theorem xP:aC Tryz.prog S (uS (gT)):=
 bu pk [GL uP,xV j6] ⟨P2,BT,trivial⟩ Tryz.func60 (by kernel_rfl) (fun _=>by kernel_rfl) (by kernel_rfl)
abbrev Qh:=ay→Option (Int×ay)
abbrev GP (f:Qh):Entry S:=⟨61,[eV],[q1],fun x=>f x⟩
def pN  (r_:ay):Option (Int×ay):=(eB r_).bind fun r1=>
 if r1.1.Kind≠2 then
 (j6 r1.2).bind fun r2=>
 some (0,r2) else
 some (r1.1.N,ay.mk (aY.mk r1.2.Row.L (au (r1.2.Row.At+1)) r1.2.Row.aI))
theorem Qg:aC Tryz.prog S (GP (pN)):=
 bu pk [l5 eB,xV j6] ⟨nL,BT,trivial⟩ Tryz.func61 (by kernel_rfl) (fun _=>by kernel_rfl) (by kernel_rfl)
abbrev KI:=ay→Option (bB×ay)
abbrev zq (f:KI):Entry S:=⟨63,[eV],[PD],fun x=>f x⟩
def sV  (r_:ay):Option (bB×ay):=(eB r_).bind fun r1=>
 (gT r1.2).bind fun r2=>
 some (bB.mk r2.1 0 r1.1.At,r2.2)
theorem DC:aC Tryz.prog S (zq (sV)):=
 bu pk [l5 eB,uS gT] ⟨nL,xP,trivial⟩ Tryz.func63 (by kernel_rfl) (fun _=>by kernel_rfl) (by kernel_rfl)
abbrev KK:=ay→(List UInt8)→Option (List bB×ay)
abbrev DE (f:KK):Entry S:=⟨64,[eV,q0],[Gy],fun x=>f x.1 x.2⟩
def sX:Nat→(List ak)→Int→Int→Int→(List UInt8)→(List bB)→Option (List bB×ay)
 | 0,_,_,_,_,_,_=>none
 | k+1,dJ,dG,dI,dH,word,l=>(eC (ay.mk (aY.mk dJ dG (aQ.mk dI dH))) word).bind fun r1=>
  bif r1.1 then
  (sV r1.2).bind fun r2=>
  if (l.length+ [r2.1].length)*32≤140737488355328 then
  (dj r2.2 cD).bind fun r3=>
  sX k r3.Row.L r3.Row.At r3.Row.aI.Code r3.Row.aI.At word (l++ [r2.1]) else none else
  some (l,r1.2)
def DD (k:Nat) (r_:ay) (word:List UInt8):Option (List bB×ay):=sX k r_.Row.L r_.Row.At r_.Row.aI.Code r_.Row.aI.At word []
def sW  (r_:ay) (word:List UInt8):Option (List bB×ay):=cC (fun k (x:ay×List UInt8)=>DD k x.1 x.2) (r_,word)
theorem KJ:aC Tryz.prog S (DE (sW)):=iF (fun k x=>DD k x.1 x.2) (fun _=>rfl) fun k=>
 fF pk [ry eC,zq sV,rz dj] ⟨uV,DC,uX,trivial⟩ Tryz.func64 [] k (fun k=> [(0,⟨[0,1,5],[kL,q0,Gy],fun x=>sX k x.1.1 x.1.2.1 x.1.2.2.1 x.1.2.2.2 x.2.1 x.2.2,false⟩)]) ⟨fun _=>rfl,trivial⟩ (fun _=>by kernel_rfl) (fun _=>by kernel_rfl) (by kernel_rfl)
abbrev KB:=ay→Option (Int×ay)
abbrev Dx (f:KB):Entry S:=⟨104,[eV],[q1],fun x=>f x⟩
def jI  (r_:ay):Option (Int×ay):=(eX r_ eM).bind fun r1=>
 bif r1.1 then
 some (1,r1.2) else
 (eX r1.2 fP).bind fun r2=>
 bif r2.1 then
 some (2,r2.2) else
 (eX r2.2 nW).bind fun r3=>
 bif r3.1 then
 some (3,r3.2) else
 (eX r3.2 nT).bind fun r4=>
 bif r4.1 then
 some (4,r4.2) else
 some (0,r4.2)
theorem KA:aC Tryz.prog S (Dx (jI)):=
 bu pk [uQ eX] ⟨xN,trivial⟩ Tryz.func104 (by kernel_rfl) (fun _=>by kernel_rfl) (by kernel_rfl)
abbrev Qm:=aT→Option (Bool×aT)
abbrev ru (f:Qm):Entry S:=⟨27,[gi],[q3],fun x=>f x⟩
def j5  (r_:aT):Option (Bool×aT):=some (decide (r_.Row.aI.Code=0),r_)
theorem uU:aC Tryz.prog S (ru (j5)):=
 bu pk [] trivial Tryz.func27 (by kernel_rfl) (fun _=>by kernel_rfl) (by kernel_rfl)
abbrev Qa:=aT→Option (ak×aT)
abbrev pM (f:Qa):Entry S:=⟨58,[gi],[q5],fun x=>f x⟩
def iy  (r_:aT):Option (ak×aT):=(j5 r_).bind fun r1=>
 bif !r1.1 then
 some (ak.mk 4 0 0 [] 0,r1.2) else
 if r1.2.Row.At<0 then
 some (ak.mk 4 0 0 [] 0,r1.2) else
 if (r1.2.Row.L.length:Int)≤r1.2.Row.At then
 some (ak.mk 4 0 0 [] 0,r1.2) else
 if 0≤r1.2.Row.At then
 if r1.2.Row.At<(r1.2.Row.L.length:Int) then
 some (r1.2.Row.L.getD r1.2.Row.At.toNat ak.z,r1.2) else none else none
theorem rq:aC Tryz.prog S (pM (iy)):=
 bu pk [ru j5] ⟨uU,trivial⟩ Tryz.func58 (by kernel_rfl) (fun _=>by kernel_rfl) (by kernel_rfl)
abbrev P8:=aT→(List UInt8)→Option (Bool×aT)
abbrev uR (f:P8):Entry S:=⟨103,[gi,q0],[q3],fun x=>f x.1 x.2⟩
def kM  (r_:aT) (s:List UInt8):Option (Bool×aT):=(iy r_).bind fun r1=>
 if r1.1.Kind=3 then
 some (decide (r1.1.Text=s),r1.2) else
 if r1.1.Kind=1 then
 some (decide (r1.1.Text=s),r1.2) else
 some (false,r1.2)
theorem xO:aC Tryz.prog S (uR (kM)):=
 bu pk [pM iy] ⟨rq,trivial⟩ Tryz.func103 (by kernel_rfl) (fun _=>by kernel_rfl) (by kernel_rfl)
abbrev P0:=aT→Int→Int→Option aT
abbrev xL (f:P0):Entry S:=⟨105,[gi,q1,q1],[],fun x=>f x.1 x.2.1 x.2.2⟩
def nK  (r_:aT) (code:Int) (aj:Int):Option aT:=(j5 r_).bind fun r1=>
 bif r1.1 then
 some (aT.mk (aY.mk r1.2.Row.L r1.2.Row.At (aQ.mk code aj)) r1.2.a_) else
 some r1.2
theorem BL:aC Tryz.prog S (xL (nK)):=
 bu pk [ru j5] ⟨uU,trivial⟩ Tryz.func105 (by kernel_rfl) (fun _=>by kernel_rfl) (by kernel_rfl)
abbrev Qq:=aT→(List UInt8)→Option (Bool×aT)
abbrev uW (f:Qq):Entry S:=⟨62,[gi,q0],[q3],fun x=>f x.1 x.2⟩
def iz  (r_:aT) (s:List UInt8):Option (Bool×aT):=(kM r_ s).bind fun r1=>
 bif r1.1 then
 some (r1.1,aT.mk (aY.mk r1.2.Row.L (au (r1.2.Row.At+1)) r1.2.Row.aI) r1.2.a_) else
 some (r1.1,r1.2)
theorem xS:aC Tryz.prog S (uW (iz)):=
 bu pk [uR kM] ⟨xO,trivial⟩ Tryz.func62 (by kernel_rfl) (fun _=>by kernel_rfl) (by kernel_rfl)
abbrev Qx:=aT→Option aT
abbrev uZ (f:Qx):Entry S:=⟨101,[gi],[],fun x=>f x⟩
def kP  (r_:aT):Option aT:=(iy r_).bind fun r1=>
 if r1.1.Kind=4 then
 (nK r1.2 12 r1.1.At).bind fun r2=>
 some r2 else
 (nK r1.2 11 r1.1.At).bind fun r3=>
 some r3
theorem xW:aC Tryz.prog S (uZ (kP)):=
 bu pk [pM iy,xL nK] ⟨rq,BL,trivial⟩ Tryz.func101 (by kernel_rfl) (fun _=>by kernel_rfl) (by kernel_rfl)
abbrev Qu:=aT→(List UInt8)→Option aT
abbrev uY (f:Qu):Entry S:=⟨59,[gi,q0],[],fun x=>f x.1 x.2⟩
def fO  (r_:aT) (s:List UInt8):Option aT:=(iz r_ s).bind fun r1=>
 bif !r1.1 then
 (kP r1.2).bind fun r2=>
 some r2 else
 some r1.2
theorem xT:aC Tryz.prog S (uY (fO)):=
 bu pk [uW iz,uZ kP] ⟨xS,xW,trivial⟩ Tryz.func59 (by kernel_rfl) (fun _=>by kernel_rfl) (by kernel_rfl)
abbrev P4:=aT→Option (Bool×aT)
abbrev BN (f:P4):Entry S:=⟨102,[gi],[q3],fun x=>f x⟩
def uO  (r_:aT):Option (Bool×aT):=(iy r_).bind fun r1=>
 if r1.1.Kind=1 then
 (lT r1.1.Text).bind fun r2=>
 some (!r2,r1.2) else
 some (false,r1.2)
theorem GM:aC Tryz.prog S (BN (uO)):=
 bu pk [pM iy,xu lT] ⟨rq,A6,trivial⟩ Tryz.func102 (by kernel_rfl) (fun _=>by kernel_rfl) (by kernel_rfl)
abbrev Qf:=aT→Option (List UInt8×aT)
abbrev GO (f:Qf):Entry S:=⟨60,[gi],[q0],fun x=>f x⟩
def nM  (r_:aT):Option (List UInt8×aT):=(uO r_).bind fun r1=>
 bif !r1.1 then
 (kP r1.2).bind fun r2=>
 some ([],r2) else
 if 0≤(au ((au (r1.2.Row.At+1)) - 1)) then
 if (au ((au (r1.2.Row.At+1)) - 1))<(r1.2.Row.L.length:Int) then
 some ((r1.2.Row.L.getD (au ((au (r1.2.Row.At+1)) - 1)).toNat ak.z).Text,aT.mk (aY.mk r1.2.Row.L (au (r1.2.Row.At+1)) r1.2.Row.aI) r1.2.a_) else none else none
theorem Qe:aC Tryz.prog S (GO (nM)):=
 bu pk [BN uO,uZ kP] ⟨GM,xW,trivial⟩ Tryz.func60 (by kernel_rfl) (fun _=>by kernel_rfl) (by kernel_rfl)
abbrev Qk:=aG→Option (Bool×aG)
abbrev xQ (f:Qk):Entry S:=⟨27,[iq],[q3],fun x=>f x⟩
def kN  (r_:aG):Option (Bool×aG):=some (decide (r_.Row.aI.Code=0),r_)
theorem BQ:aC Tryz.prog S (xQ (kN)):=
 bu pk [] trivial Tryz.func27 (by kernel_rfl) (fun _=>by kernel_rfl) (by kernel_rfl)
abbrev P9:=aG→Option (ak×aG)
abbrev pL (f:P9):Entry S:=⟨58,[iq],[q5],fun x=>f x⟩
def fN  (r_:aG):Option (ak×aG):=(kN r_).bind fun r1=>
 bif !r1.1 then
 some (ak.mk 4 0 0 [] 0,r1.2) else
 if r1.2.Row.At<0 then
 some (ak.mk 4 0 0 [] 0,r1.2) else
 if (r1.2.Row.L.length:Int)≤r1.2.Row.At then
 some (ak.mk 4 0 0 [] 0,r1.2) else
 if 0≤r1.2.Row.At then
 if r1.2.Row.At<(r1.2.Row.L.length:Int) then
 some (r1.2.Row.L.getD r1.2.Row.At.toNat ak.z,r1.2) else none else none
theorem rm:aC Tryz.prog S (pL (fN)):=
 bu pk [xQ kN] ⟨BQ,trivial⟩ Tryz.func58 (by kernel_rfl) (fun _=>by kernel_rfl) (by kernel_rfl)
abbrev P5:=aG→(List UInt8)→Option (Bool×aG)
abbrev xM (f:P5):Entry S:=⟨103,[iq,q0],[q3],fun x=>f x.1 x.2⟩
def jb  (r_:aG) (s:List UInt8):Option (Bool×aG):=(fN r_).bind fun r1=>
 if r1.1.Kind=3 then
 some (decide (r1.1.Text=s),r1.2) else
 if r1.1.Kind=1 then
 some (decide (r1.1.Text=s),r1.2) else
 some (false,r1.2)
theorem BO:aC Tryz.prog S (xM (jb)):=
 bu pk [pL fN] ⟨rm,trivial⟩ Tryz.func103 (by kernel_rfl) (fun _=>by kernel_rfl) (by kernel_rfl)
abbrev PY:=aG→Int→Int→Option aG
abbrev BJ (f:PY):Entry S:=⟨105,[iq,q1,q1],[],fun x=>f x.1 x.2.1 x.2.2⟩
def j0  (r_:aG) (code:Int) (aj:Int):Option aG:=(kN r_).bind fun r1=>
 bif r1.1 then
 some (aG.mk (aY.mk r1.2.Row.L r1.2.Row.At (aQ.mk code aj)) r1.2.a_) else
 some r1.2
theorem GJ:aC Tryz.prog S (BJ (j0)):=
 bu pk [xQ kN] ⟨BQ,trivial⟩ Tryz.func105 (by kernel_rfl) (fun _=>by kernel_rfl) (by kernel_rfl)
abbrev LD:=aG→Int→Option (Bool×aG)
abbrev zO (f:LD):Entry S:=⟨203,[iq,q1],[q3],fun x=>f x.1 x.2⟩
def gP  (r_:aG) (aj:Int):Option (Bool×aG):=if r_.a_=12 then
 (j0 r_ 14 aj).bind fun r1=>
 some (false,r1) else
 some (true,aG.mk (aY.mk r_.Row.L (au (r_.Row.At+1)) r_.Row.aI) (au (r_.a_+1)))
theorem En:aC Tryz.prog S (zO (gP)):=
 bu pk [BJ j0] ⟨GJ,trivial⟩ Tryz.func203 (by kernel_rfl) (fun _=>by kernel_rfl) (by kernel_rfl)
abbrev Qn:=aG→(List UInt8)→Option (Bool×aG)
abbrev BR (f:Qn):Entry S:=⟨62,[iq,q0],[q3],fun x=>f x.1 x.2⟩
def kO  (r_:aG) (s:List UInt8):Option (Bool×aG):=(jb r_ s).bind fun r1=>
 bif r1.1 then
 some (r1.1,aG.mk (aY.mk r1.2.Row.L (au (r1.2.Row.At+1)) r1.2.Row.aI) r1.2.a_) else
 some (r1.1,r1.2)
theorem GR:aC Tryz.prog S (BR (kO)):=
 bu pk [xM jb] ⟨BO,trivial⟩ Tryz.func62 (by kernel_rfl) (fun _=>by kernel_rfl) (by kernel_rfl)
abbrev P1:=aG→Option (Bool×aG)
abbrev BM (f:P1):Entry S:=⟨102,[iq],[q3],fun x=>f x⟩
def lZ  (r_:aG):Option (Bool×aG):=(fN r_).bind fun r1=>
 if r1.1.Kind=1 then
 (lT r1.1.Text).bind fun r2=>
 some (!r2,r1.2) else
 some (false,r1.2)
theorem GK:aC Tryz.prog S (BM (lZ)):=
 bu pk [pL fN,xu lT] ⟨rm,A6,trivial⟩ Tryz.func102 (by kernel_rfl) (fun _=>by kernel_rfl) (by kernel_rfl)
abbrev Qv:=aG→Option aG
abbrev xU (f:Qv):Entry S:=⟨101,[iq],[],fun x=>f x⟩
def jd  (r_:aG):Option aG:=(fN r_).bind fun r1=>
 if r1.1.Kind=4 then
 (j0 r1.2 12 r1.1.At).bind fun r2=>
 some r2 else
 (j0 r1.2 11 r1.1.At).bind fun r3=>
 some r3
theorem BS:aC Tryz.prog S (xU (jd)):=
 bu pk [pL fN,BJ j0] ⟨rm,GJ,trivial⟩ Tryz.func101 (by kernel_rfl) (fun _=>by kernel_rfl) (by kernel_rfl)
abbrev Qc:=aG→Option (List UInt8×aG)
abbrev GN (f:Qc):Entry S:=⟨60,[iq],[q0],fun x=>f x⟩
def j4  (r_:aG):Option (List UInt8×aG):=(lZ r_).bind fun r1=>
 bif !r1.1 then
 (jd r1.2).bind fun r2=>
 some ([],r2) else
 if 0≤(au ((au (r1.2.Row.At+1)) - 1)) then
 if (au ((au (r1.2.Row.At+1)) - 1))<(r1.2.Row.L.length:Int) then
 some ((r1.2.Row.L.getD (au ((au (r1.2.Row.At+1)) - 1)).toNat ak.z).Text,aG.mk (aY.mk r1.2.Row.L (au (r1.2.Row.At+1)) r1.2.Row.aI) r1.2.a_) else none else none
theorem Qb:aC Tryz.prog S (GN (j4)):=
 bu pk [BM lZ,xU jd] ⟨GK,BS,trivial⟩ Tryz.func60 (by kernel_rfl) (fun _=>by kernel_rfl) (by kernel_rfl)
abbrev Qs:=aG→(List UInt8)→Option aG
abbrev GS (f:Qs):Entry S:=⟨59,[iq,q0],[],fun x=>f x.1 x.2⟩
def gC  (r_:aG) (s:List UInt8):Option aG:=(kO r_ s).bind fun r1=>
 bif !r1.1 then
 (jd r1.2).bind fun r2=>
 some r2 else
 some r1.2
theorem Qr:aC Tryz.prog S (GS (gC)):=
 bu pk [BR kO,xU jd] ⟨GR,BS,trivial⟩ Tryz.func59 (by kernel_rfl) (fun _=>by kernel_rfl) (by kernel_rfl)
abbrev jN:=aG→Int→Option (ah×aG)
abbrev lI (f:jN):Entry S:=⟨175,[iq,q1],[qY],fun x=>f x.1 x.2⟩
abbrev LI:=aG→Option (ah×aG)
abbrev Eo (f:LI):Entry S:=⟨202,[iq],[qY],fun x=>f x⟩
def jO (b9:jN)  (r_:aG):Option (ah×aG):=(fN r_).bind fun r1=>
 if r1.1.Kind=2 then
 some (ah.mk 1 r1.1.N [] [] r1.1.At,aG.mk (aY.mk r1.2.Row.L (au (r1.2.Row.At+1)) r1.2.Row.aI) r1.2.a_) else
 (kO r1.2 nU).bind fun r2=>
 bif r2.1 then
 some (ah.mk 3 0 [] [] r1.1.At,r2.2) else
 (lZ r2.2).bind fun r3=>
 bif r3.1 then
 (j4 r3.2).bind fun r4=>
 some (ah.mk 2 0 r4.1 [] r1.1.At,r4.2) else
 (kO r3.2 iD).bind fun r5=>
 bif r5.1 then
 (gC r5.2 cH).bind fun r6=>
 (j4 r6).bind fun r7=>
 (gC r7.2 cx).bind fun r8=>
 some (ah.mk 4 0 r7.1 [] r1.1.At,r8) else
 (jb r5.2 cH).bind fun r9=>
 bif !r9.1 then
 (jd r9.2).bind fun bf=>
 some (ah.mk 0 0 [] [] 0,bf) else
 (gP r9.2 r1.1.At).bind fun cl=>
 bif !cl.1 then
 some (ah.mk 0 0 [] [] 0,cl.2) else
 (b9 cl.2 1).bind fun bA=>
 (gC bA.2 cx).bind fun cu=>
 some (ah.mk bA.1.Kind bA.1.N bA.1.Name bA.1.Kids bA.1.At,aG.mk cu.Row (au (cu.a_ - 1)))
theorem LH (b9:jN) (nj:aC Tryz.prog S (lI b9)):aC Tryz.prog S (Eo (jO b9)):=
 bu pk [pL fN,BR kO,BM lZ,GN j4,GS gC,xM jb,xU jd,zO gP,lI b9] ⟨rm,GR,GK,Qb,Qr,BO,BS,En,nj,trivial⟩ Tryz.func202 (by kernel_rfl) (fun _=>by kernel_rfl) (by kernel_rfl)
abbrev zQ:=aG→Option (ah×aG)
abbrev tA (f:zQ):Entry S:=⟨189,[iq],[qY],fun x=>f x⟩
def wL (rO:zQ) (b9:jN) (k:Nat) (r_:aG):Option (ah×aG):=(fN r_).bind fun r1=>
 (jb r1.2 fu).bind fun r2=>
 bif r2.1 then
 (gP r2.2 r1.1.At).bind fun r3=>
 bif !r3.1 then
 some (ah.mk 0 0 [] [] 0,r3.2) else
 (rO r3.2).bind fun r4=>
 some (ah.mk 5 0 [] [ah.mk r4.1.Kind r4.1.N r4.1.Name r4.1.Kids r4.1.At] r1.1.At,aG.mk r4.2.Row (au (r4.2.a_ - 1))) else
 (jb r2.2 kT).bind fun r5=>
 bif r5.1 then
 (gP r5.2 r1.1.At).bind fun r6=>
 bif !r6.1 then
 some (ah.mk 0 0 [] [] 0,r6.2) else
 (rO r6.2).bind fun r7=>
 some (ah.mk 6 0 [] [ah.mk r7.1.Kind r7.1.N r7.1.Name r7.1.Kids r7.1.At] r1.1.At,aG.mk r7.2.Row (au (r7.2.a_ - 1))) else
 (jO b9 r5.2).bind fun r8=>
 some (ah.mk r8.1.Kind r8.1.N r8.1.Name r8.1.Kids r8.1.At,r8.2)
def hO (b9:jN):Nat→aG→Option (ah×aG)
 | 0,_=>none
 | k+1,x0=>wL (hO b9 k) b9 k x0
def oE (b9:jN)  (r_:aG):Option (ah×aG):=cC (fun k (x:aG)=>hO b9 k x) r_
theorem LK (rO:zQ) (b9:jN) (k:Nat) (Mr:aC Tryz.prog S (tA rO)) (nj:aC Tryz.prog S (lI b9)):aC Tryz.prog S (tA (wL rO b9 k)):=
 bu pk [pL fN,xM jb,zO gP,tA rO,Eo (jO b9)] ⟨rm,BO,En,Mr,LH b9 nj,trivial⟩ Tryz.func189 (by kernel_rfl) (fun _=>by kernel_rfl) (by kernel_rfl)
theorem LJ (b9:jN) (nj:aC Tryz.prog S (lI b9)):aC Tryz.prog S (tA (oE b9)):=pY (fun k x=>hO b9 k x) (fun _=>rfl) Tryz.func189 (by kernel_rfl) (fun _=>rfl) fun k h=>LK (hO b9 k) b9 k h nj
abbrev LL:=(List UInt8)→Option (Int×Int)
abbrev zR (f:LL):Entry S:=⟨180,[q0],[q1,q1],fun x=>f x⟩
def oF  (text:List UInt8):Option (Int×Int):=if text=mb then
 some (19,1) else
 if text=l9 then
 some (18,2) else
 if text=mh then
 some (12,3) else
 if text=mj then
 some (13,3) else
 if text=me then
 some (14,3) else
 if text=mg then
 some (15,3) else
 if text=mc then
 some (16,3) else
 if text=l_ then
 some (17,3) else
 if text=mq then
 some (10,4) else
 if text=fu then
 some (11,4) else
 if text=mw then
 some (7,5) else
 if text=mu then
 some (8,5) else
 if text=mo then
 some (9,5) else
 some (0,0)
theorem Ep:aC Tryz.prog S (zR (oF)):=
 bu pk [] trivial Tryz.func180 (by kernel_rfl) (fun _=>by kernel_rfl) (by kernel_rfl)
def lJ (b9:jN):Nat→(List ak)→Int→Int→Int→Int→Int→Int→Int→(List UInt8)→(List ah)→Int→Int→Int→(List UInt8)→(List ah)→Int→Option (ah×aG)
 | 0,_,_,_,_,_,_,_,_,_,_,_,_,_,_,_,_=>none
 | k+1,dJ,dG,dI,dH,iu,level,vB,vC,vD,vA,vz,eu,eR,eS,cU,eP=>(fN (aG.mk (aY.mk dJ dG (aQ.mk dI dH)) iu)).bind fun r3=>
  (oF r3.1.Text).bind fun r4=>
  if r3.1.Kind≠3 then
  some (ah.mk eu eR eS cU eP,r3.2) else
  if r4.2≠level then
  some (ah.mk eu eR eS cU eP,r3.2) else
  (b9 (aG.mk (aY.mk r3.2.Row.L (au (r3.2.Row.At+1)) r3.2.Row.aI) r3.2.a_) (au (level+1))).bind fun r5=>
  if level=3 then
  some (ah.mk r4.1 0 [] [ah.mk eu eR eS cU eP,ah.mk r5.1.Kind r5.1.N r5.1.Name r5.1.Kids r5.1.At] r3.1.At,r5.2) else
  lJ b9 k r5.2.Row.L r5.2.Row.At r5.2.Row.aI.Code r5.2.Row.aI.At r5.2.a_ level vB vC vD vA vz r4.1 0 [] [ah.mk eu eR eS cU eP,ah.mk r5.1.Kind r5.1.N r5.1.Name r5.1.Kids r5.1.At] r3.1.At
def nh (b9:jN) (k:Nat) (r_:aG) (level:Int):Option (ah×aG):=if level=6 then
 (oE b9 r_).bind fun r1=>
 some (ah.mk r1.1.Kind r1.1.N r1.1.Name r1.1.Kids r1.1.At,r1.2) else
 (b9 r_ (au (level+1))).bind fun r2=>
 lJ b9 k r2.2.Row.L r2.2.Row.At r2.2.Row.aI.Code r2.2.Row.aI.At r2.2.a_ level 0 0 [] [] 0 r2.1.Kind r2.1.N r2.1.Name r2.1.Kids r2.1.At
def dN:Nat→aG→Int→Option (ah×aG)
 | 0,_,_=>none
 | k+1,x0,x1=>nh (dN k) k x0 x1
def zP  (r_:aG) (level:Int):Option (ah×aG):=cC (fun k (x:aG×Int)=>dN k x.1 x.2) (r_,level)
theorem LG (b9:jN) (k:Nat) (nj:aC Tryz.prog S (lI b9)):aC Tryz.prog S (lI (nh b9 k)):=
 fF pk [tA (oE b9),lI b9,pL fN,zR oF] ⟨LJ b9 nj,nj,rm,Ep,trivial⟩ Tryz.func175 [] k (fun k=> [(0,⟨[0,1,4,5],[By,q1,PE,Bz],fun x=>lJ b9 k x.1.1 x.1.2.1 x.1.2.2.1 x.1.2.2.2.1 x.1.2.2.2.2 x.2.1 x.2.2.1.1 x.2.2.1.2.1 x.2.2.1.2.2.1 x.2.2.1.2.2.2.1 x.2.2.1.2.2.2.2 x.2.2.2.1 x.2.2.2.2.1 x.2.2.2.2.2.1 x.2.2.2.2.2.2.1 x.2.2.2.2.2.2.2,false⟩)]) ⟨fun _=>rfl,trivial⟩ (fun _=>by kernel_rfl) (fun _=>by kernel_rfl) (by kernel_rfl)
theorem LF:aC Tryz.prog S (lI (zP)):=pY (fun k x=>dN k x.1 x.2) (fun _=>rfl) Tryz.func175 (by kernel_rfl) (fun _=>rfl) fun k h=>LG (dN k) k h
abbrev Lw:=(List ak)→Int→Option (ah×Int×aQ)
abbrev zJ (f:Lw):Entry S:=⟨159,[BA,q1],[qY,q1,q8],fun x=>f x.1 x.2⟩
def tu  (l:List ak) (aj:Int):Option (ah×Int×aQ):=(zP (aG.mk (aY.mk l aj (aQ.mk 0 0)) 0) 1).bind fun r1=>
 (kN r1.2).bind fun r2=>
 bif !r2.1 then
 some (ah.mk 0 0 [] [] 0,0,r2.2.Row.aI) else
 some (ah.mk r1.1.Kind r1.1.N r1.1.Name r1.1.Kids r1.1.At,r2.2.Row.At,aQ.mk 0 0)
theorem Eh:aC Tryz.prog S (zJ (tu)):=
 bu pk [lI zP,xQ kN] ⟨LF,BQ,trivial⟩ Tryz.func159 (by kernel_rfl) (fun _=>by kernel_rfl) (by kernel_rfl)
abbrev JA:=aT→Option (List ah×aT)
abbrev za (f:JA):Entry S:=⟨198,[gi],[uL],fun x=>f x⟩
def sJ  (r_:aT):Option (List ah×aT):=(j5 r_).bind fun r1=>
 bif !r1.1 then
 some ([],r1.2) else
 (tu r1.2.Row.L r1.2.Row.At).bind fun r2=>
 (nK r1.2 r2.2.2.Code r2.2.2.At).bind fun r3=>
 some ([ah.mk r2.1.Kind r2.1.N r2.1.Name r2.1.Kids r2.1.At],aT.mk (aY.mk r3.Row.L r2.2.1 r3.Row.aI) r3.a_)
theorem C5:aC Tryz.prog S (za (sJ)):=
 bu pk [ru j5,zJ tu,xL nK] ⟨uU,Eh,BL,trivial⟩ Tryz.func198 (by kernel_rfl) (fun _=>by kernel_rfl) (by kernel_rfl)
abbrev JB:=aT→Option (List ah×aT)
abbrev vO (f:JB):Entry S:=⟨200,[gi],[uL],fun x=>f x⟩
def ow  (r_:aT):Option (List ah×aT):=(fO r_ cH).bind fun r1=>
 (sJ r1).bind fun r2=>
 (fO r2.2 cx).bind fun r3=>
 some (r2.1,r3)
theorem zb:aC Tryz.prog S (vO (ow)):=
 bu pk [uY fO,za sJ] ⟨xT,C5,trivial⟩ Tryz.func200 (by kernel_rfl) (fun _=>by kernel_rfl) (by kernel_rfl)
abbrev JD:=aT→Option (List ah×aT)
abbrev C6 (f:JD):Entry S:=⟨199,[gi],[uL],fun x=>f x⟩
def vP  (r_:aT):Option (List ah×aT):=(kM r_ cH).bind fun r1=>
 bif !r1.1 then
 some ([],r1.2) else
 (ow r1.2).bind fun r2=>
 some (r2.1,r2.2)
theorem JC:aC Tryz.prog S (C6 (vP)):=
 bu pk [uR kM,vO ow] ⟨xO,zb,trivial⟩ Tryz.func199 (by kernel_rfl) (fun _=>by kernel_rfl) (by kernel_rfl)
abbrev Qj:=aT→Option (Int×aT)
abbrev GQ (f:Qj):Entry S:=⟨61,[gi],[q1],fun x=>f x⟩
def BP  (r_:aT):Option (Int×aT):=(iy r_).bind fun r1=>
 if r1.1.Kind≠2 then
 (kP r1.2).bind fun r2=>
 some (0,r2) else
 some (r1.1.N,aT.mk (aY.mk r1.2.Row.L (au (r1.2.Row.At+1)) r1.2.Row.aI) r1.2.a_)
theorem Qi:aC Tryz.prog S (GQ (BP)):=
 bu pk [pM iy,uZ kP] ⟨rq,xW,trivial⟩ Tryz.func61 (by kernel_rfl) (fun _=>by kernel_rfl) (by kernel_rfl)
abbrev lz:=aT→Option (List aJ×aT)
abbrev ov (f:lz):Entry S:=⟨174,[gi],[xF],fun x=>f x⟩
abbrev JF:=aT→aJ→Option (aJ×aT)
abbrev C7 (f:JF):Entry S:=⟨201,[gi,xE],[xE],fun x=>f x.1 x.2⟩
def vQ (cK:lz)  (r_:aT) (a:aJ):Option (aJ×aT):=(iz r_ rI).bind fun r1=>
 bif r1.1 then
 (BP r1.2).bind fun r2=>
 (cK r2.2).bind fun r3=>
 some (aJ.mk 7 a.Name a.Event a.X r2.1 r3.1 a.lu a.At,r3.2) else
 (fO r1.2 rG).bind fun r4=>
 (ow r4).bind fun r5=>
 (cK r5.2).bind fun r6=>
 (iz r6.2 vc).bind fun r7=>
 bif r7.1 then
 (cK r7.2).bind fun r8=>
 some (aJ.mk 6 a.Name a.Event r5.1 a.N r6.1 r8.1 a.At,r8.2) else
 some (aJ.mk 6 a.Name a.Event r5.1 a.N r6.1 a.lu a.At,r7.2)
theorem JE (cK:lz) (tJ:aC Tryz.prog S (ov cK)):aC Tryz.prog S (C7 (vQ cK)):=
 bu pk [uW iz,GQ BP,ov cK,uY fO,vO ow] ⟨xS,Qi,tJ,xT,zb,trivial⟩ Tryz.func201 (by kernel_rfl) (fun _=>by kernel_rfl) (by kernel_rfl)
abbrev Jx:=aT→Option (aJ×aT)
abbrev C3 (f:Jx):Entry S:=⟨188,[gi],[xE],fun x=>f x⟩
def y8 (cK:lz)  (r_:aT):Option (aJ×aT):=(iy r_).bind fun r1=>
 (uO r1.2).bind fun r2=>
 bif r2.1 then
 (nM r2.2).bind fun r3=>
 (fO r3.2 Hf).bind fun r4=>
 (sJ r4).bind fun r5=>
 (fO r5.2 cD).bind fun r6=>
 some (aJ.mk 1 r3.1 [] r5.1 0 [] [] r1.1.At,r6) else
 (iz r2.2 ve).bind fun r7=>
 bif r7.1 then
 (nM r7.2).bind fun r8=>
 (vP r8.2).bind fun r9=>
 (fO r9.2 cD).bind fun bf=>
 some (aJ.mk 2 [] r8.1 r9.1 0 [] [] r1.1.At,bf) else
 (iz r7.2 vf).bind fun cl=>
 bif cl.1 then
 (nM cl.2).bind fun bA=>
 (nM bA.2).bind fun cu=>
 (vP cu.2).bind fun fM=>
 (fO fM.2 cD).bind fun dW=>
 some (aJ.mk 3 bA.1 cu.1 fM.1 0 [] [] r1.1.At,dW) else
 (iz cl.2 u_).bind fun r16=>
 bif r16.1 then
 (nM r16.2).bind fun lX=>
 (ow lX.2).bind fun lY=>
 (fO lY.2 cD).bind fun nH=>
 some (aJ.mk 4 lX.1 [] lY.1 0 [] [] r1.1.At,nH) else
 (iz r16.2 vb).bind fun nI=>
 bif nI.1 then
 (nM nI.2).bind fun pJ=>
 (fO pJ.2 cD).bind fun uN=>
 some (aJ.mk 5 pJ.1 [] [] 0 [] [] r1.1.At,uN) else
 (kM nI.2 rG).bind fun ja=>
 bif ja.1 then
 bif ja.1 then
 (vQ cK ja.2 (aJ.mk 0 [] [] [] 0 [] [] r1.1.At)).bind fun ir=>
 some (aJ.mk ir.1.Kind ir.1.Name ir.1.Event ir.1.X ir.1.N ir.1.oh ir.1.lu ir.1.At,ir.2) else
 (kP ja.2).bind fun q_=>
 (fO q_ cD).bind fun BG=>
 some (aJ.mk 0 [] [] [] 0 [] [] r1.1.At,BG) else
 (kM ja.2 rI).bind fun ri=>
 bif ri.1 then
 (vQ cK ri.2 (aJ.mk 0 [] [] [] 0 [] [] r1.1.At)).bind fun jZ=>
 some (aJ.mk jZ.1.Kind jZ.1.Name jZ.1.Event jZ.1.X jZ.1.N jZ.1.oh jZ.1.lu jZ.1.At,jZ.2) else
 (kP ri.2).bind fun xH=>
 (fO xH cD).bind fun xI=>
 some (aJ.mk 0 [] [] [] 0 [] [] r1.1.At,xI)
theorem Jw (cK:lz) (tJ:aC Tryz.prog S (ov cK)):aC Tryz.prog S (C3 (y8 cK)):=
 bu pk [pM iy,BN uO,GO nM,uY fO,za sJ,uW iz,C6 vP,vO ow,uR kM,C7 (vQ cK),uZ kP] ⟨rq,GM,Qe,xT,C5,xS,JC,zb,xO,JE cK tJ,xW,trivial⟩ Tryz.func188 (by kernel_rfl) (fun _=>by kernel_rfl) (by kernel_rfl)
def y_ (cK:lz):Nat→(List ak)→Int→Int→Int→Int→(List aJ)→Option (List aJ×aT)
 | 0,_,_,_,_,_,_=>none
 | k+1,dJ,dG,dI,dH,iu,l=>(j5 (aT.mk (aY.mk dJ dG (aQ.mk dI dH)) iu)).bind fun r5=>
  bif r5.1 then
  (iz r5.2 cw).bind fun r6=>
  bif !r6.1 then
  (y8 cK r6.2).bind fun r7=>
  if (l.length+ [r7.1].length)*128≤140737488355328 then
  y_ cK k r7.2.Row.L r7.2.Row.At r7.2.Row.aI.Code r7.2.Row.aI.At r7.2.a_ (l++ [r7.1]) else none else
  some (l,aT.mk r6.2.Row (au (r6.2.a_ - 1))) else
  some (l,aT.mk r5.2.Row (au (r5.2.a_ - 1)))
def vM (cK:lz):Nat→(List ak)→Int→Int→Int→Int→Option (List aJ×aT)
 | 0,_,_,_,_,_=>none
 | k+1,dJ,dG,dI,dH,iu=>(fO (aT.mk (aY.mk dJ dG (aQ.mk dI dH)) iu) fq).bind fun r4=>
  y_ cK k r4.Row.L r4.Row.At r4.Row.aI.Code r4.Row.aI.At (au (r4.a_+1)) []
def C4 (cK:lz) (k:Nat) (r_:aT):Option (List aJ×aT):=(kM r_ fq).bind fun r1=>
 bif r1.1 then
 if r1.2.a_=4 then
 (iy r1.2).bind fun r2=>
 (nK r2.2 14 r2.1.At).bind fun r3=>
 vM cK k r3.Row.L r3.Row.At r3.Row.aI.Code r3.Row.aI.At r3.a_ else
 vM cK k r1.2.Row.L r1.2.Row.At r1.2.Row.aI.Code r1.2.Row.aI.At r1.2.a_ else
 vM cK k r1.2.Row.L r1.2.Row.At r1.2.Row.aI.Code r1.2.Row.aI.At r1.2.a_
def vN:Nat→aT→Option (List aJ×aT)
 | 0,_=>none
 | k+1,x0=>C4 (vN k) k x0
def y9  (r_:aT):Option (List aJ×aT):=cC (fun k (x:aT)=>vN k x) r_
theorem Jz (cK:lz) (k:Nat) (tJ:aC Tryz.prog S (ov cK)):aC Tryz.prog S (ov (C4 cK k)):=
 fF pk [uR kM,pM iy,xL nK,uY fO,ru j5,uW iz,C3 (y8 cK)] ⟨xO,rq,BL,xT,uU,xS,Jw cK tJ,trivial⟩ Tryz.func174 [1] k (fun k=> [(1,⟨[0],[By],fun x=>vM cK k x.1 x.2.1 x.2.2.1 x.2.2.2.1 x.2.2.2.2,false⟩),(0,⟨[0,3],[By,xF],fun x=>y_ cK k x.1.1 x.1.2.1 x.1.2.2.1 x.1.2.2.2.1 x.1.2.2.2.2 x.2,false⟩)]) ⟨fun _=>rfl,fun _=>rfl,trivial⟩ (fun _=>by kernel_rfl) (fun _=>by kernel_rfl) (by kernel_rfl)
theorem Jy:aC Tryz.prog S (ov (y9)):=pY (fun k x=>vN k x) (fun _=>rfl) Tryz.func174 (by kernel_rfl) (fun _=>rfl) fun k h=>Jz (vN k) k h
abbrev Jq:=(List ak)→Int→Option (List aJ×Int×aQ)
abbrev CX (f:Jq):Entry S:=⟨157,[BA,q1],[xF,q1,q8],fun x=>f x.1 x.2⟩
def yY  (l:List ak) (aj:Int):Option (List aJ×Int×aQ):=(y9 (aT.mk (aY.mk l aj (aQ.mk 0 0)) 0)).bind fun r1=>
 (j5 r1.2).bind fun r2=>
 bif !r2.1 then
 some ([],0,r2.2.Row.aI) else
 some (r1.1,r2.2.Row.At,aQ.mk 0 0)
theorem Jp:aC Tryz.prog S (CX (yY)):=
 bu pk [ov y9,ru j5] ⟨Jy,uU,trivial⟩ Tryz.func157 (by kernel_rfl) (fun _=>by kernel_rfl) (by kernel_rfl)
abbrev KH:=ay→Int→aQ→Option ay
abbrev zp (f:KH):Entry S:=⟨158,[eV,q1,q8],[],fun x=>f x.1 x.2.1 x.2.2⟩
def sU  (r_:ay) (aj:Int) (f:aQ):Option ay:=(iw r_ f.Code f.At).bind fun r1=>
 some (ay.mk (aY.mk r1.Row.L aj r1.Row.aI))
theorem DB:aC Tryz.prog S (zp (sU)):=
 bu pk [xK iw] ⟨BK,trivial⟩ Tryz.func158 (by kernel_rfl) (fun _=>by kernel_rfl) (by kernel_rfl)
abbrev KC:=ay→Option (List aJ×ay)
abbrev zo (f:KC):Entry S:=⟨132,[eV],[xF],fun x=>f x⟩
def ql  (r_:ay):Option (List aJ×ay):=(jc r_).bind fun r1=>
 bif !r1.1 then
 some ([],r1.2) else
 (yY r1.2.Row.L r1.2.Row.At).bind fun r2=>
 (sU r1.2 r2.2.1 r2.2.2).bind fun r3=>
 some (r2.1,r3)
theorem Dy:aC Tryz.prog S (zo (ql)):=
 bu pk [uT jc,CX yY,zp sU] ⟨xR,Jp,DB,trivial⟩ Tryz.func132 (by kernel_rfl) (fun _=>by kernel_rfl) (by kernel_rfl)
abbrev KO:=ay→Option (bC×ay)
abbrev DG (f:KO):Entry S:=⟨133,[eV],[Gz],fun x=>f x⟩
def s6:Nat→(List ak)→Int→Int→Int→(List UInt8)→(List ah)→(List UInt8)→(List aJ)→Int→(List UInt8)→(List ah)→(List UInt8)→(List aJ)→Int→Option (bC×ay)
 | 0,_,_,_,_,_,_,_,_,_,_,_,_,_,_=>none
 | k+1,dJ,dG,dI,dH,sn,sr,su,sj,mJ,k6,mA,ju,iI,kZ=>(eX (ay.mk (aY.mk dJ dG (aQ.mk dI dH))) fq).bind fun cl=>
  bif cl.1 then
  (ql cl.2).bind fun bA=>
  some (bC.mk k6 mA ju bA.1 kZ,bA.2) else
  (dj cl.2 cD).bind fun cu=>
  some (bC.mk k6 mA ju iI kZ,cu)
def sZ:Nat→(List ak)→Int→Int→Int→(List UInt8)→(List ah)→(List UInt8)→(List aJ)→Int→(List UInt8)→(List ah)→(List UInt8)→(List aJ)→Int→Option (bC×ay)
 | 0,_,_,_,_,_,_,_,_,_,_,_,_,_,_=>none
 | k+1,dJ,dG,dI,dH,sn,sr,su,sj,mJ,k6,mA,ju,iI,kZ=>(eC (ay.mk (aY.mk dJ dG (aQ.mk dI dH))) Cb).bind fun r9=>
  bif r9.1 then
  (gT r9.2).bind fun bf=>
  s6 k bf.2.Row.L bf.2.Row.At bf.2.Row.aI.Code bf.2.Row.aI.At sn sr su sj mJ k6 mA bf.1 iI kZ else
  s6 k r9.2.Row.L r9.2.Row.At r9.2.Row.aI.Code r9.2.Row.aI.At sn sr su sj mJ k6 mA ju iI kZ
def sY:Nat→(List ak)→Int→Int→Int→(List UInt8)→(List ah)→(List UInt8)→(List aJ)→Int→(List UInt8)→(List ah)→(List UInt8)→(List aJ)→Int→Option (bC×ay)
 | 0,_,_,_,_,_,_,_,_,_,_,_,_,_,_=>none
 | k+1,dJ,dG,dI,dH,sn,sr,su,sj,mJ,k6,mA,ju,iI,kZ=>(eC (ay.mk (aY.mk dJ dG (aQ.mk dI dH))) Rg).bind fun r5=>
  bif r5.1 then
  (tu r5.2.Row.L r5.2.Row.At).bind fun r6=>
  (sU r5.2 r6.2.1 r6.2.2).bind fun r7=>
  (dj r7 Cf).bind fun r8=>
  sZ k r8.Row.L r8.Row.At r8.Row.aI.Code r8.Row.aI.At sn sr su sj mJ k6 [ah.mk r6.1.Kind r6.1.N r6.1.Name r6.1.Kids r6.1.At] ju iI kZ else
  sZ k r5.2.Row.L r5.2.Row.At r5.2.Row.aI.Code r5.2.Row.aI.At sn sr su sj mJ k6 mA ju iI kZ
def qq (k:Nat) (r_:ay):Option (bC×ay):=(eB r_).bind fun r1=>
 (eC r1.2 mm).bind fun r2=>
 bif r2.1 then
 (gT r2.2).bind fun r3=>
 sY k r3.2.Row.L r3.2.Row.At r3.2.Row.aI.Code r3.2.Row.aI.At [] [] [] [] 0 r3.1 [] [] [] r1.1.At else
 (dj r2.2 nS).bind fun r4=>
 sY k r4.Row.L r4.Row.At r4.Row.aI.Code r4.Row.aI.At [] [] [] [] 0 [] [] [] [] r1.1.At
def oD  (r_:ay):Option (bC×ay):=cC (fun k (x:ay)=>qq k x) r_
theorem KN:aC Tryz.prog S (DG (oD)):=iF (fun k x=>qq k x) (fun _=>rfl) fun k=>
 fF pk [l5 eB,ry eC,uS gT,rz dj,zJ tu,zp sU,uQ eX,zo ql] ⟨nL,uV,xP,uX,Eh,DB,xN,Dy,trivial⟩ Tryz.func133 [2,4,9] k (fun k=> [(1,⟨[0,2,3],[kL,qZ,qZ],fun x=>sY k x.1.1 x.1.2.1 x.1.2.2.1 x.1.2.2.2 x.2.1.1 x.2.1.2.1 x.2.1.2.2.1 x.2.1.2.2.2.1 x.2.1.2.2.2.2 x.2.2.1 x.2.2.2.1 x.2.2.2.2.1 x.2.2.2.2.2.1 x.2.2.2.2.2.2,false⟩),(3,⟨[0,2,3],[kL,qZ,qZ],fun x=>sZ k x.1.1 x.1.2.1 x.1.2.2.1 x.1.2.2.2 x.2.1.1 x.2.1.2.1 x.2.1.2.2.1 x.2.1.2.2.2.1 x.2.1.2.2.2.2 x.2.2.1 x.2.2.2.1 x.2.2.2.2.1 x.2.2.2.2.2.1 x.2.2.2.2.2.2,false⟩),(5,⟨[0,2,3],[kL,qZ,qZ],fun x=>s6 k x.1.1 x.1.2.1 x.1.2.2.1 x.1.2.2.2 x.2.1.1 x.2.1.2.1 x.2.1.2.2.1 x.2.1.2.2.2.1 x.2.1.2.2.2.2 x.2.2.1 x.2.2.2.1 x.2.2.2.2.1 x.2.2.2.2.2.1 x.2.2.2.2.2.2,false⟩)]) ⟨fun _=>rfl,fun _=>rfl,fun _=>rfl,trivial⟩ (fun _=>by kernel_rfl) (fun _=>by kernel_rfl) (by kernel_rfl)
abbrev jJ:=ay→Int→Option (List aR×ay)
abbrev qp (f:jJ):Entry S:=⟨65,[eV,q1],[GA],fun x=>f x.1 x.2⟩
abbrev KG:=ay→(Int×List UInt8×List aJ×List aJ×List bC×List aR×Int)→Int→Option (ay×(Int×List UInt8×List aJ×List aJ×List bC×List aR×Int))
abbrev DA (f:KG):Entry S:=⟨106,[eV,uM,q1],[],fun x=>f x.1 x.2.1 x.2.2⟩
mutual
def m_ (bZ:jJ):Nat→(List ak)→Int→Int→Int→Int→(List UInt8)→(List aJ)→(List aJ)→(List bC)→(List aR)→Int→Int→Option (ay×(Int×List UInt8×List aJ×List aJ×List bC×List aR×Int))
 | 0,_,_,_,_,_,_,_,_,_,_,_,_=>none
 | k+1,dJ,dG,dI,dH,jm,jn,jl,j8,iC,iB,jk,deep=>(eX (ay.mk (aY.mk dJ dG (aQ.mk dI dH))) mm).bind fun r6=>
  bif r6.1 then
  sS bZ k r6.2.Row.L r6.2.Row.At r6.2.Row.aI.Code r6.2.Row.aI.At jm jn jl j8 iC iB jk deep else
  (eX r6.2 nS).bind fun r7=>
  bif r7.1 then
  sS bZ k r7.2.Row.L r7.2.Row.At r7.2.Row.aI.Code r7.2.Row.aI.At jm jn jl j8 iC iB jk deep else
  (bZ r7.2 (au (deep+1))).bind fun r8=>
  (dj r8.2 cw).bind fun r9=>
  some (r9,(jm,jn,jl,j8,iC,r8.1,jk))
def sS (bZ:jJ):Nat→(List ak)→Int→Int→Int→Int→(List UInt8)→(List aJ)→(List aJ)→(List bC)→(List aR)→Int→Int→Option (ay×(Int×List UInt8×List aJ×List aJ×List bC×List aR×Int))
 | 0,_,_,_,_,_,_,_,_,_,_,_,_=>none
 | k+1,dJ,dG,dI,dH,jm,jn,jl,j8,iC,iB,jk,deep=>(oD (ay.mk (aY.mk dJ dG (aQ.mk dI dH)))).bind fun bf=>
  if (iC.length+ [bf.1].length)*88≤140737488355328 then
  m_ bZ k bf.2.Row.L bf.2.Row.At bf.2.Row.aI.Code bf.2.Row.aI.At jm jn jl j8 (iC++ [bf.1]) iB jk deep else none
end
def qo (bZ:jJ):Nat→(List ak)→Int→Int→Int→Int→(List UInt8)→(List aJ)→(List aJ)→(List bC)→(List aR)→Int→Int→Option (ay×(Int×List UInt8×List aJ×List aJ×List bC×List aR×Int))
 | 0,_,_,_,_,_,_,_,_,_,_,_,_=>none
 | k+1,dJ,dG,dI,dH,jm,jn,jl,j8,iC,iB,jk,deep=>m_ bZ k dJ dG dI dH jm jn jl j8 iC iB jk deep
def qn (bZ:jJ):Nat→(List ak)→Int→Int→Int→Int→(List UInt8)→(List aJ)→(List aJ)→(List bC)→(List aR)→Int→Int→Option (ay×(Int×List UInt8×List aJ×List aJ×List bC×List aR×Int))
 | 0,_,_,_,_,_,_,_,_,_,_,_,_=>none
 | k+1,dJ,dG,dI,dH,jm,jn,jl,j8,iC,iB,jk,deep=>(eC (ay.mk (aY.mk dJ dG (aQ.mk dI dH))) rF).bind fun r4=>
  bif r4.1 then
  (ql r4.2).bind fun r5=>
  qo bZ k r5.2.Row.L r5.2.Row.At r5.2.Row.aI.Code r5.2.Row.aI.At jm jn jl r5.1 iC iB jk deep else
  qo bZ k r4.2.Row.L r4.2.Row.At r4.2.Row.aI.Code r4.2.Row.aI.At jm jn jl j8 iC iB jk deep
def mZ (bZ:jJ) (k:Nat) (r_:ay) (s:Int×List UInt8×List aJ×List aJ×List bC×List aR×Int) (deep:Int):Option (ay×(Int×List UInt8×List aJ×List aJ×List bC×List aR×Int)):=(dj r_ fq).bind fun r1=>
 (eC r1 rE).bind fun r2=>
 bif r2.1 then
 (ql r2.2).bind fun r3=>
 qn bZ k r3.2.Row.L r3.2.Row.At r3.2.Row.aI.Code r3.2.Row.aI.At s.1 s.2.1 r3.1 s.2.2.2.1 s.2.2.2.2.1 s.2.2.2.2.2.1 s.2.2.2.2.2.2 deep else
 qn bZ k r2.2.Row.L r2.2.Row.At r2.2.Row.aI.Code r2.2.Row.aI.At s.1 s.2.1 s.2.2.1 s.2.2.2.1 s.2.2.2.2.1 s.2.2.2.2.2.1 s.2.2.2.2.2.2 deep
def mY (bZ:jJ)  (r_:ay) (s:Int×List UInt8×List aJ×List aJ×List bC×List aR×Int) (deep:Int):Option (ay×(Int×List UInt8×List aJ×List aJ×List bC×List aR×Int)):=cC (fun k (x:ay×(Int×List UInt8×List aJ×List aJ×List bC×List aR×Int)×Int)=>mZ bZ k x.1 x.2.1 x.2.2) (r_,s,deep)
theorem KF (bZ:jJ) (Ad:aC Tryz.prog S (qp bZ)):aC Tryz.prog S (DA (mY bZ)):=iF (fun k x=>mZ bZ k x.1 x.2.1 x.2.2) (fun _=>rfl) fun k=>
 fF pk [rz dj,ry eC,zo ql,uQ eX,qp bZ,DG oD] ⟨uX,uV,Dy,xN,Ad,KN,trivial⟩ Tryz.func106 [1,3,6] k (fun k=> [(1,⟨[0,1,2],[kL,uM,q1],fun x=>qn bZ k x.1.1 x.1.2.1 x.1.2.2.1 x.1.2.2.2 x.2.1.1 x.2.1.2.1 x.2.1.2.2.1 x.2.1.2.2.2.1 x.2.1.2.2.2.2.1 x.2.1.2.2.2.2.2.1 x.2.1.2.2.2.2.2.2 x.2.2,false⟩),(3,⟨[0,1,2],[kL,uM,q1],fun x=>qo bZ k x.1.1 x.1.2.1 x.1.2.2.1 x.1.2.2.2 x.2.1.1 x.2.1.2.1 x.2.1.2.2.1 x.2.1.2.2.2.1 x.2.1.2.2.2.2.1 x.2.1.2.2.2.2.2.1 x.2.1.2.2.2.2.2.2 x.2.2,false⟩),(0,⟨[0,1,2],[kL,uM,q1],fun x=>m_ bZ k x.1.1 x.1.2.1 x.1.2.2.1 x.1.2.2.2 x.2.1.1 x.2.1.2.1 x.2.1.2.2.1 x.2.1.2.2.2.1 x.2.1.2.2.2.2.1 x.2.1.2.2.2.2.2.1 x.2.1.2.2.2.2.2.2 x.2.2,false⟩),(5,⟨[0,1,2],[kL,uM,q1],fun x=>sS bZ k x.1.1 x.1.2.1 x.1.2.2.1 x.1.2.2.2 x.2.1.1 x.2.1.2.1 x.2.1.2.2.1 x.2.1.2.2.2.1 x.2.1.2.2.2.2.1 x.2.1.2.2.2.2.2.1 x.2.1.2.2.2.2.2.2 x.2.2,false⟩)]) ⟨fun _=>rfl,fun _=>rfl,fun _=>rfl,fun _=>rfl,trivial⟩ (fun _=>by kernel_rfl) (fun _=>by kernel_rfl) (by kernel_rfl)
def fV (bZ:jJ):Nat→(List ak)→Int→Int→Int→Int→(List aR)→Int→Option (List aR×ay)
 | 0,_,_,_,_,_,_,_=>none
 | k+1,dJ,dG,dI,dH,deep,l,kind=>if kind≠0 then
  (eB (ay.mk (aY.mk dJ dG (aQ.mk dI dH)))).bind fun r2=>
  if 12<deep then
  (iw r2.2 14 r2.1.At).bind fun r3=>
  some ([],r3) else
  (gT (ay.mk (aY.mk r2.2.Row.L (au (r2.2.Row.At+1)) r2.2.Row.aI))).bind fun r4=>
  if kind=1 then
  (mY bZ r4.2 (kind,r4.1,[],[],[],[],r2.1.At) deep).bind fun r5=>
  if (l.length+ [aR.mk r5.2.1 r5.2.2.1 r5.2.2.2.1 r5.2.2.2.2.1 r5.2.2.2.2.2.1 r5.2.2.2.2.2.2.1 r5.2.2.2.2.2.2.2].length)*128≤140737488355328 then
  (jI r5.1).bind fun r6=>
  fV bZ k r6.2.Row.L r6.2.Row.At r6.2.Row.aI.Code r6.2.Row.aI.At deep (l++ [aR.mk r5.2.1 r5.2.2.1 r5.2.2.2.1 r5.2.2.2.2.1 r5.2.2.2.2.2.1 r5.2.2.2.2.2.2.1 r5.2.2.2.2.2.2.2]) r6.1 else none else
  if kind=2 then
  (mY bZ r4.2 (kind,r4.1,[],[],[],[],r2.1.At) deep).bind fun r7=>
  if (l.length+ [aR.mk r7.2.1 r7.2.2.1 r7.2.2.2.1 r7.2.2.2.2.1 r7.2.2.2.2.2.1 r7.2.2.2.2.2.2.1 r7.2.2.2.2.2.2.2].length)*128≤140737488355328 then
  (jI r7.1).bind fun r8=>
  fV bZ k r8.2.Row.L r8.2.Row.At r8.2.Row.aI.Code r8.2.Row.aI.At deep (l++ [aR.mk r7.2.1 r7.2.2.1 r7.2.2.2.1 r7.2.2.2.2.1 r7.2.2.2.2.2.1 r7.2.2.2.2.2.2.1 r7.2.2.2.2.2.2.2]) r8.1 else none else
  (dj r4.2 cD).bind fun r9=>
  if (l.length+ [aR.mk kind r4.1 [] [] [] [] r2.1.At].length)*128≤140737488355328 then
  (jI r9).bind fun bf=>
  fV bZ k bf.2.Row.L bf.2.Row.At bf.2.Row.aI.Code bf.2.Row.aI.At deep (l++ [aR.mk kind r4.1 [] [] [] [] r2.1.At]) bf.1 else none else
  some (l,ay.mk (aY.mk dJ dG (aQ.mk dI dH)))
def fU (bZ:jJ) (k:Nat) (r_:ay) (deep:Int):Option (List aR×ay):=(jI r_).bind fun r1=>
 fV bZ k r1.2.Row.L r1.2.Row.At r1.2.Row.aI.Code r1.2.Row.aI.At deep [] r1.1
def dM:Nat→ay→Int→Option (List aR×ay)
 | 0,_,_=>none
 | k+1,x0,x1=>fU (dM k) k x0 x1
def oC  (r_:ay) (deep:Int):Option (List aR×ay):=cC (fun k (x:ay×Int)=>dM k x.1 x.2) (r_,deep)
theorem KM (bZ:jJ) (k:Nat) (Ad:aC Tryz.prog S (qp bZ)):aC Tryz.prog S (qp (fU bZ k)):=
 fF pk [Dx jI,l5 eB,xK iw,uS gT,DA (mY bZ),rz dj] ⟨KA,nL,BK,xP,KF bZ Ad,uX,trivial⟩ Tryz.func65 [] k (fun k=> [(0,⟨[0,1,5,6],[kL,q1,GA,q1],fun x=>fV bZ k x.1.1 x.1.2.1 x.1.2.2.1 x.1.2.2.2 x.2.1 x.2.2.1 x.2.2.2,false⟩)]) ⟨fun _=>rfl,trivial⟩ (fun _=>by kernel_rfl) (fun _=>by kernel_rfl) (by kernel_rfl)
theorem KL:aC Tryz.prog S (qp (oC)):=pY (fun k x=>dM k x.1 x.2) (fun _=>rfl) Tryz.func65 (by kernel_rfl) (fun _=>rfl) fun k h=>KM (dM k) k h
abbrev KE:=ay→Option (c_×ay)
abbrev Dz (f:KE):Entry S:=⟨26,[eV],[xG],fun x=>f x⟩
def oB:Nat→(List ak)→Int→Int→Int→(List UInt8)→Int→Int→(List bB)→(List bB)→(List bB)→(List aR)→Int→(List UInt8)→Int→Int→(List bB)→(List bB)→(List bB)→(List aR)→Int→Option (c_×ay)
 | 0,_,_,_,_,_,_,_,_,_,_,_,_,_,_,_,_,_,_,_,_=>none
 | k+1,dJ,dG,dI,dH,IC,IF,IB,II,ID,IG,IE,mJ,jE,jF,jD,g_,iL,iN,iM,jC=>(eC (ay.mk (aY.mk dJ dG (aQ.mk dI dH))) rN).bind fun r9=>
  bif r9.1 then
  (sV r9.2).bind fun bf=>
  (dj bf.2 Hf).bind fun cl=>
  (eC cl fu).bind fun bA=>
  (pN bA.2).bind fun cu=>
  bif bA.1 then
  (dj cu.2 cD).bind fun fM=>
  if (g_.length+ [bB.mk bf.1.Name (au (0 - cu.1)) bf.1.At].length)*32≤140737488355328 then
  oB k fM.Row.L fM.Row.At fM.Row.aI.Code fM.Row.aI.At IC IF IB II ID IG IE mJ jE jF jD (g_++ [bB.mk bf.1.Name (au (0 - cu.1)) bf.1.At]) iL iN iM jC else none else
  (dj cu.2 cD).bind fun dW=>
  if (g_.length+ [bB.mk bf.1.Name cu.1 bf.1.At].length)*32≤140737488355328 then
  oB k dW.Row.L dW.Row.At dW.Row.aI.Code dW.Row.aI.At IC IF IB II ID IG IE mJ jE jF jD (g_++ [bB.mk bf.1.Name cu.1 bf.1.At]) iL iN iM jC else none else
  (sW r9.2 rK).bind fun r16=>
  (sW r16.2 rM).bind fun lX=>
  (oC lX.2 1).bind fun lY=>
  (dj lY.2 cw).bind fun nH=>
  some (c_.mk jE jF jD g_ r16.1 lX.1 lY.1 jC,nH)
def mX (k:Nat) (r_:ay):Option (c_×ay):=(eB r_).bind fun r1=>
 (dj r1.2 kU).bind fun r2=>
 (gT r2).bind fun r3=>
 (dj r3.2 kY).bind fun r4=>
 (pN r4).bind fun r5=>
 (dj r5.2 kV).bind fun r6=>
 (pN r6).bind fun r7=>
 (dj r7.2 fq).bind fun r8=>
 oB k r8.Row.L r8.Row.At r8.Row.aI.Code r8.Row.aI.At [] 0 0 [] [] [] [] 0 r3.1 r5.1 r7.1 [] [] [] [] r1.1.At
def qm  (r_:ay):Option (c_×ay):=cC (fun k (x:ay)=>mX k x) r_
theorem KD:aC Tryz.prog S (Dz (qm)):=iF (fun k x=>mX k x) (fun _=>rfl) fun k=>
 fF pk [l5 eB,rz dj,uS gT,GP pN,ry eC,zq sV,DE sW,qp oC] ⟨nL,uX,xP,Qg,uV,DC,KJ,KL,trivial⟩ Tryz.func26 [] k (fun k=> [(0,⟨[0,2,3],[kL,GB,GB],fun x=>oB k x.1.1 x.1.2.1 x.1.2.2.1 x.1.2.2.2 x.2.1.1 x.2.1.2.1 x.2.1.2.2.1 x.2.1.2.2.2.1 x.2.1.2.2.2.2.1 x.2.1.2.2.2.2.2.1 x.2.1.2.2.2.2.2.2.1 x.2.1.2.2.2.2.2.2.2 x.2.2.1 x.2.2.2.1 x.2.2.2.2.1 x.2.2.2.2.2.1 x.2.2.2.2.2.2.1 x.2.2.2.2.2.2.2.1 x.2.2.2.2.2.2.2.2.1 x.2.2.2.2.2.2.2.2.2,false⟩)]) ⟨fun _=>rfl,trivial⟩ (fun _=>by kernel_rfl) (fun _=>by kernel_rfl) (by kernel_rfl)
abbrev Kx:=(List ak)→Int→Option (c_×Int×aQ)
abbrev Du (f:Kx):Entry S:=⟨14,[BA,q1],[xG,q1,q8],fun x=>f x.1 x.2⟩
def jH  (l:List ak) (aj:Int):Option (c_×Int×aQ):=(qm (ay.mk (aY.mk l aj (aQ.mk 0 0)))).bind fun r1=>
 (jc r1.2).bind fun r2=>
 bif !r2.1 then
 some (c_.mk [] 0 0 [] [] [] [] 0,0,r2.2.Row.aI) else
 some (r1.1,r2.2.Row.At,aQ.mk 0 0)
theorem Kw:aC Tryz.prog S (Du (jH)):=
 bu pk [Dz qm,uT jc] ⟨KD,xR,trivial⟩ Tryz.func14 (by kernel_rfl) (fun _=>by kernel_rfl) (by kernel_rfl)
abbrev N_:=(List UInt8)→Option (c_×aQ×Bool)
abbrev AY (f:N_):Entry S:=⟨10,[q0],[xG,q8,q3],fun x=>f x⟩
def ij  (s:List UInt8):Option (c_×aQ×Bool):=(xq s).bind fun r1=>
 if r1.2.Code≠0 then
 some (c_.mk [] 0 0 [] [] [] [] 0,r1.2,false) else
 (jH r1.1 0).bind fun r2=>
 if r2.2.2.Code=0 then
 some (r2.1,r2.2.2,decide (r2.2.1=(au ((r1.1.length:Int) - 1)))) else
 some (r2.1,r2.2.2,false)
theorem FT:aC Tryz.prog S (AY (ij)):=
 bu pk [FY xq,Du jH] ⟨Ov,Kw,trivial⟩ Tryz.func10 (by kernel_rfl) (fun _=>by kernel_rfl) (by kernel_rfl)
abbrev KU:=Int→Option (List UInt8)
abbrev DI (f:KU):Entry S:=⟨85,[q1],[q0],fun x=>f x⟩
def wk  (kind:Int):Option (List UInt8):=if kind=1 then
 some Hi else
 if kind=2 then
 some Rh else
 if kind=3 then
 some Rd else
 some Rc
theorem KT:aC Tryz.prog S (DI (wk)):=
 bu pk [] trivial Tryz.func85 (by kernel_rfl) (fun _=>by kernel_rfl) (by kernel_rfl)
abbrev Lz:=Int→Option (List UInt8×Int)
abbrev zL (f:Lz):Entry S:=⟨167,[q1],[q0,q1],fun x=>f x⟩
def zM:Nat→Int→(List UInt8×List UInt8×List UInt8×List UInt8×List UInt8×List UInt8×List UInt8×List UInt8×List UInt8×List UInt8×List UInt8×List UInt8×List UInt8)→Int→Option (List UInt8×Int)
 | 0,_,_,_=>none
 | k+1,kind,x8,x9=>if x9<13 then
  if 0≤x9 then
  if x9<([x8.1,x8.2.1,x8.2.2.1,x8.2.2.2.1,x8.2.2.2.2.1,x8.2.2.2.2.2.1,x8.2.2.2.2.2.2.1,x8.2.2.2.2.2.2.2.1,x8.2.2.2.2.2.2.2.2.1,x8.2.2.2.2.2.2.2.2.2.1,x8.2.2.2.2.2.2.2.2.2.2.1,x8.2.2.2.2.2.2.2.2.2.2.2.1,x8.2.2.2.2.2.2.2.2.2.2.2.2].length:Int) then
  (oF ([x8.1,x8.2.1,x8.2.2.1,x8.2.2.2.1,x8.2.2.2.2.1,x8.2.2.2.2.2.1,x8.2.2.2.2.2.2.1,x8.2.2.2.2.2.2.2.1,x8.2.2.2.2.2.2.2.2.1,x8.2.2.2.2.2.2.2.2.2.1,x8.2.2.2.2.2.2.2.2.2.2.1,x8.2.2.2.2.2.2.2.2.2.2.2.1,x8.2.2.2.2.2.2.2.2.2.2.2.2].getD x9.toNat [])).bind fun r1=>
  if r1.1=kind then
  some ([x8.1,x8.2.1,x8.2.2.1,x8.2.2.2.1,x8.2.2.2.2.1,x8.2.2.2.2.2.1,x8.2.2.2.2.2.2.1,x8.2.2.2.2.2.2.2.1,x8.2.2.2.2.2.2.2.2.1,x8.2.2.2.2.2.2.2.2.2.1,x8.2.2.2.2.2.2.2.2.2.2.1,x8.2.2.2.2.2.2.2.2.2.2.2.1,x8.2.2.2.2.2.2.2.2.2.2.2.2].getD x9.toNat [],r1.2) else
  zM k kind x8 (au (x9+1)) else none else none else
  some ([],0)
def Ej (k:Nat) (kind:Int):Option (List UInt8×Int):=zM k kind JT 0
def qy  (kind:Int):Option (List UInt8×Int):=cC (fun k (x:Int)=>Ej k x) kind
theorem Ek:aC Tryz.prog S (zL (qy)):=iF (fun k x=>Ej k x) (fun _=>rfl) fun k=>
 fF pk [zR oF] ⟨Ep,trivial⟩ Tryz.func167 [] k (fun k=> [(0,⟨[0,8,9],[q1,PF,q1],fun x=>zM k x.1 x.2.1 x.2.2,false⟩)]) ⟨fun _=>rfl,trivial⟩ (fun _=>by kernel_rfl) (fun _=>by kernel_rfl) (by kernel_rfl)
abbrev LA:=Int→Option Int
abbrev zN (f:LA):Entry S:=⟨165,[q1],[q1],fun x=>f x⟩
def tw  (kind:Int):Option Int:=if kind=5 then
 some 6 else
 if kind=6 then
 some 6 else
 (qy kind).bind fun r1=>
 if 0<r1.2 then
 some r1.2 else
 some 7
theorem El:aC Tryz.prog S (zN (tw)):=
 bu pk [zL qy] ⟨Ek,trivial⟩ Tryz.func165 (by kernel_rfl) (fun _=>by kernel_rfl) (by kernel_rfl)
abbrev LC:=Int→Option (List Int)
abbrev Em (f:LC):Entry S:=⟨166,[q1],[BB],fun x=>f x⟩
def fY  (kind:Int):Option (List Int):=(tw kind).bind fun r1=>
 if r1=7 then
 some [] else
 if r1=6 then
 some [6] else
 if r1=3 then
 some [4,4] else
 some [r1,au (r1+1)]
theorem LB:aC Tryz.prog S (Em (fY)):=
 bu pk [zN tw] ⟨El,trivial⟩ Tryz.func166 (by kernel_rfl) (fun _=>by kernel_rfl) (by kernel_rfl)
abbrev tC:=(List UInt8)→ah→Int→Option (List UInt8)
abbrev tB (f:tC):Entry S:=⟨148,[eW,qY,q1],[],fun x=>f x.1 x.2.1 x.2.2⟩
def kA (cQ:tC):Nat→(List UInt8)→Int→Int→(List UInt8)→(List ah)→Int→(List Int)→Int→Int→Option (List UInt8)
 | 0,_,_,_,_,_,_,_,_,_=>none
 | k+1,b,eu,eR,eS,cU,eP,ke,p_,cL=>if cL<p_ then
  if 0≤cL then
  if cL<(ke.length:Int) then
  if (cU.length:Int)≤cL then
  (eO b 41).bind fun PM=>
  some PM.2 else
  if 0<cL then
  (qy eu).bind fun r32=>
  if bY.length+r32.1.length≤9223372036854775807 then
  if (bY++r32.1).length+bY.length≤9223372036854775807 then
  (br b ((bY++r32.1)++bY)).bind fun PN=>
  if 0≤cL then
  if cL<(cU.length:Int) then
  (cQ PN.2.2 (cU.getD cL.toNat ah.z) (ke.getD cL.toNat 0)).bind fun PO=>
  kA cQ k PO eu eR eS cU eP ke p_ (au (cL+1)) else none else none else none else none else
  if 0≤cL then
  if cL<(cU.length:Int) then
  (cQ b (cU.getD cL.toNat ah.z) (ke.getD cL.toNat 0)).bind fun PS=>
  kA cQ k PS eu eR eS cU eP ke p_ (au (cL+1)) else none else none else none else none else
  (eO b 41).bind fun PT=>
  some PT.2
def kB (cQ:tC):Nat→(List UInt8)→Int→Int→(List UInt8)→(List ah)→Int→(List Int)→Int→Int→Option (List UInt8)
 | 0,_,_,_,_,_,_,_,_,_=>none
 | k+1,b,eu,eR,eS,cU,eP,ke,p_,cL=>if cL<p_ then
  if 0≤cL then
  if cL<(ke.length:Int) then
  if (cU.length:Int)≤cL then
  some b else
  if 0<cL then
  (qy eu).bind fun BH=>
  if bY.length+BH.1.length≤9223372036854775807 then
  if (bY++BH.1).length+bY.length≤9223372036854775807 then
  (br b ((bY++BH.1)++bY)).bind fun PU=>
  if 0≤cL then
  if cL<(cU.length:Int) then
  (cQ PU.2.2 (cU.getD cL.toNat ah.z) (ke.getD cL.toNat 0)).bind fun PV=>
  kB cQ k PV eu eR eS cU eP ke p_ (au (cL+1)) else none else none else none else none else
  if 0≤cL then
  if cL<(cU.length:Int) then
  (cQ b (cU.getD cL.toNat ah.z) (ke.getD cL.toNat 0)).bind fun PW=>
  kB cQ k PW eu eR eS cU eP ke p_ (au (cL+1)) else none else none else none else none else
  some b
def Er (cQ:tC) (k:Nat) (b:List UInt8) (e:ah) (asked:Int):Option (List UInt8):=(tw e.Kind).bind fun r1=>
 if r1<asked then
 (eO b 40).bind fun r2=>
 if e.Kind=1 then
 (pI e.N 10).bind fun r3=>
 (br r2.2 r3).bind fun r4=>
 (fY e.Kind).bind fun r5=>
 kA cQ k r4.2.2 e.Kind e.N e.Name e.Kids e.At r5 (r5.length:Int) 0 else
 if e.Kind=3 then
 (eO r2.2 36).bind fun r6=>
 (fY e.Kind).bind fun r7=>
 kA cQ k r6.2 e.Kind e.N e.Name e.Kids e.At r7 (r7.length:Int) 0 else
 if e.Kind=2 then
 (br r2.2 e.Name).bind fun r8=>
 (fY e.Kind).bind fun r9=>
 kA cQ k r8.2.2 e.Kind e.N e.Name e.Kids e.At r9 (r9.length:Int) 0 else
 if e.Kind=4 then
 if pX.length+e.Name.length≤9223372036854775807 then
 if (pX++e.Name).length+cx.length≤9223372036854775807 then
 (br r2.2 ((pX++e.Name)++cx)).bind fun bf=>
 (fY e.Kind).bind fun cl=>
 kA cQ k bf.2.2 e.Kind e.N e.Name e.Kids e.At cl (cl.length:Int) 0 else none else none else
 if e.Kind=5 then
 (eO r2.2 45).bind fun bA=>
 (fY e.Kind).bind fun cu=>
 kA cQ k bA.2 e.Kind e.N e.Name e.Kids e.At cu (cu.length:Int) 0 else
 if e.Kind=6 then
 (eO r2.2 33).bind fun fM=>
 (fY e.Kind).bind fun dW=>
 kA cQ k fM.2 e.Kind e.N e.Name e.Kids e.At dW (dW.length:Int) 0 else
 (fY e.Kind).bind fun r16=>
 kA cQ k r2.2 e.Kind e.N e.Name e.Kids e.At r16 (r16.length:Int) 0 else
 if e.Kind=1 then
 (pI e.N 10).bind fun lX=>
 (br b lX).bind fun lY=>
 (fY e.Kind).bind fun nH=>
 kB cQ k lY.2.2 e.Kind e.N e.Name e.Kids e.At nH (nH.length:Int) 0 else
 if e.Kind=3 then
 (eO b 36).bind fun nI=>
 (fY e.Kind).bind fun pJ=>
 kB cQ k nI.2 e.Kind e.N e.Name e.Kids e.At pJ (pJ.length:Int) 0 else
 if e.Kind=2 then
 (br b e.Name).bind fun uN=>
 (fY e.Kind).bind fun ja=>
 kB cQ k uN.2.2 e.Kind e.N e.Name e.Kids e.At ja (ja.length:Int) 0 else
 if e.Kind=4 then
 if pX.length+e.Name.length≤9223372036854775807 then
 if (pX++e.Name).length+cx.length≤9223372036854775807 then
 (br b ((pX++e.Name)++cx)).bind fun ir=>
 (fY e.Kind).bind fun q_=>
 kB cQ k ir.2.2 e.Kind e.N e.Name e.Kids e.At q_ (q_.length:Int) 0 else none else none else
 if e.Kind=5 then
 (eO b 45).bind fun BG=>
 (fY e.Kind).bind fun ri=>
 kB cQ k BG.2 e.Kind e.N e.Name e.Kids e.At ri (ri.length:Int) 0 else
 if e.Kind=6 then
 (eO b 33).bind fun jZ=>
 (fY e.Kind).bind fun xH=>
 kB cQ k jZ.2 e.Kind e.N e.Name e.Kids e.At xH (xH.length:Int) 0 else
 (fY e.Kind).bind fun xI=>
 kB cQ k b e.Kind e.N e.Name e.Kids e.At xI (xI.length:Int) 0
def wM:Nat→(List UInt8)→ah→Int→Option (List UInt8)
 | 0,_,_,_=>none
 | k+1,x0,x1,x2=>Er (wM k) k x0 x1 x2
def zS  (b:List UInt8) (e:ah) (asked:Int):Option (List UInt8):=cC (fun k (x:List UInt8×ah×Int)=>wM k x.1 x.2.1 x.2.2) (b,e,asked)
theorem LN (cQ:tC) (k:Nat) (Ms:aC Tryz.prog S (tB cQ)):aC Tryz.prog S (tB (Er cQ k)):=
 EA pk ⟨[zN tw,zC,D0,qv,Em fY,zL qy,tB cQ],[],false,false,some (147,[.tmp 0, .const (.int .u8 41)]),[zC]⟩ ⟨El,Gt,Gq,qV,LB,Ek,Ms,trivial⟩ (all_cons Pj all_nil) (all_nil) Tryz.func148 [] k (fun k=> [(0,⟨[0,4,55,56,57],[eW,Bz,BB,q1,q1],fun x=>kA cQ k x.1 x.2.1.1 x.2.1.2.1 x.2.1.2.2.1 x.2.1.2.2.2.1 x.2.1.2.2.2.2 x.2.2.1 x.2.2.2.1 x.2.2.2.2,true⟩),(0,⟨[0,4,55,56,57],[eW,Bz,BB,q1,q1],fun x=>kB cQ k x.1 x.2.1.1 x.2.1.2.1 x.2.1.2.2.1 x.2.1.2.2.2.1 x.2.1.2.2.2.2 x.2.2.1 x.2.2.2.1 x.2.2.2.2,false⟩)]) ⟨fun _=>rfl,fun _=>rfl,trivial⟩ (fun _=>by kernel_rfl) (fun _=>by kernel_rfl) (by kernel_rfl)
theorem LM:aC Tryz.prog S (tB (zS)):=pY (fun k x=>wM k x.1 x.2.1 x.2.2) (fun _=>rfl) Tryz.func148 (by kernel_rfl) (fun _=>rfl) fun k h=>LN (wM k) k h
abbrev Ly:=ah→Option (List UInt8)
abbrev zK (f:Ly):Entry S:=⟨125,[qY],[q0],fun x=>f x⟩
def tv  (e:ah):Option (List UInt8):=(zS [] (ah.mk e.Kind e.N e.Name e.Kids e.At) 1).bind fun r1=>
 (sO r1).bind fun r2=>
 some r2.1
theorem Ei:aC Tryz.prog S (zK (tv)):=
 bu pk [tB zS,zE] ⟨LM,Bn,trivial⟩ Tryz.func125 (by kernel_rfl) (fun _=>by kernel_rfl) (by kernel_rfl)
abbrev mR:=(List UInt8)→(List aJ)→Int→Option (List UInt8)
abbrev qf (f:mR):Entry S:=⟨124,[eW,BC,q1],[],fun x=>f x.1 x.2.1 x.2.2⟩
abbrev Jv:=(List UInt8)→aJ→Int→Option (List UInt8)
abbrev C2 (f:Jv):Entry S:=⟨146,[eW,xE,q1],[],fun x=>f x.1 x.2.1 x.2.2⟩
def y7 (dm:mR):Nat→(List UInt8)→Int→Int→(List UInt8)→(List UInt8)→(List ah)→Int→(List aJ)→(List aJ)→Int→(List UInt8)→(List ah)→Int→Int→Option (List UInt8)
 | 0,_,_,_,_,_,_,_,_,_,_,_,_,_,_=>none
 | k+1,b,bF,gq,cq,fE,CV,yX,sI,sH,Jo,x,p7,Ix,mH=>if mH<Ix then
  if 0≤mH then
  if mH<(p7.length:Int) then
  (tv (ah.mk ((p7.getD mH.toNat ah.z).Kind) ((p7.getD mH.toNat ah.z).N) ((p7.getD mH.toNat ah.z).Name) ((p7.getD mH.toNat ah.z).Kids) ((p7.getD mH.toNat ah.z).At))).bind fun r1=>
  y7 dm k b bF gq cq fE CV yX sI sH Jo r1 p7 Ix (au (mH+1)) else none else none else
  if 0<(CV.length:Int) then
  if cH.length+x.length≤9223372036854775807 then
  if (cH++x).length+cx.length≤9223372036854775807 then
  if gq=1 then
  if cq.length+jq.length≤9223372036854775807 then
  if (cq++jq).length+x.length≤9223372036854775807 then
  if ((cq++jq)++x).length+cD.length≤9223372036854775807 then
  (br b (((cq++jq)++x)++cD)).bind fun r2=>
  some r2.2.2 else none else none else none else
  if gq=2 then
  if nX.length+fE.length≤9223372036854775807 then
  if (nX++fE).length+((cH++x)++cx).length≤9223372036854775807 then
  if ((nX++fE)++((cH++x)++cx)).length+cD.length≤9223372036854775807 then
  (br b (((nX++fE)++((cH++x)++cx))++cD)).bind fun r3=>
  some r3.2.2 else none else none else none else
  if gq=3 then
  if jo.length+cq.length≤9223372036854775807 then
  if (jo++cq).length+bY.length≤9223372036854775807 then
  if ((jo++cq)++bY).length+fE.length≤9223372036854775807 then
  if (((jo++cq)++bY)++fE).length+((cH++x)++cx).length≤9223372036854775807 then
  if ((((jo++cq)++bY)++fE)++((cH++x)++cx)).length+cD.length≤9223372036854775807 then
  (br b (((((jo++cq)++bY)++fE)++((cH++x)++cx))++cD)).bind fun r4=>
  some r4.2.2 else none else none else none else none else none else
  if gq=4 then
  if nR.length+cq.length≤9223372036854775807 then
  if (nR++cq).length+((cH++x)++cx).length≤9223372036854775807 then
  if ((nR++cq)++((cH++x)++cx)).length+cD.length≤9223372036854775807 then
  (br b (((nR++cq)++((cH++x)++cx))++cD)).bind fun r5=>
  some r5.2.2 else none else none else none else
  if gq=5 then
  if rD.length+cq.length≤9223372036854775807 then
  if (rD++cq).length+cD.length≤9223372036854775807 then
  (br b ((rD++cq)++cD)).bind fun r6=>
  some r6.2.2 else none else none else
  if gq=6 then
  if rH.length+((cH++x)++cx).length≤9223372036854775807 then
  if (rH++((cH++x)++cx)).length+bY.length≤9223372036854775807 then
  (br b ((rH++((cH++x)++cx))++bY)).bind fun r7=>
  (dm r7.2.2 sI bF).bind fun r8=>
  if 0<(sH.length:Int) then
  (br r8 He).bind fun r9=>
  (dm r9.2.2 sH bF).bind fun bf=>
  some bf else
  some r8 else none else none else
  if gq=7 then
  (iZ yX).bind fun cl=>
  if rJ.length+cl.length≤9223372036854775807 then
  if (rJ++cl).length+bY.length≤9223372036854775807 then
  (br b ((rJ++cl)++bY)).bind fun bA=>
  (dm bA.2.2 sI bF).bind fun cu=>
  some cu else none else none else
  some b else none else none else
  if gq=1 then
  if cq.length+jq.length≤9223372036854775807 then
  if (cq++jq).length+x.length≤9223372036854775807 then
  if ((cq++jq)++x).length+cD.length≤9223372036854775807 then
  (br b (((cq++jq)++x)++cD)).bind fun fM=>
  some fM.2.2 else none else none else none else
  if gq=2 then
  if nX.length+fE.length≤9223372036854775807 then
  if (nX++fE).length+([]:List UInt8).length≤9223372036854775807 then
  if ((nX++fE)++ []).length+cD.length≤9223372036854775807 then
  (br b (((nX++fE)++ [])++cD)).bind fun dW=>
  some dW.2.2 else none else none else none else
  if gq=3 then
  if jo.length+cq.length≤9223372036854775807 then
  if (jo++cq).length+bY.length≤9223372036854775807 then
  if ((jo++cq)++bY).length+fE.length≤9223372036854775807 then
  if (((jo++cq)++bY)++fE).length+([]:List UInt8).length≤9223372036854775807 then
  if ((((jo++cq)++bY)++fE)++ []).length+cD.length≤9223372036854775807 then
  (br b (((((jo++cq)++bY)++fE)++ [])++cD)).bind fun r16=>
  some r16.2.2 else none else none else none else none else none else
  if gq=4 then
  if nR.length+cq.length≤9223372036854775807 then
  if (nR++cq).length+([]:List UInt8).length≤9223372036854775807 then
  if ((nR++cq)++ []).length+cD.length≤9223372036854775807 then
  (br b (((nR++cq)++ [])++cD)).bind fun lX=>
  some lX.2.2 else none else none else none else
  if gq=5 then
  if rD.length+cq.length≤9223372036854775807 then
  if (rD++cq).length+cD.length≤9223372036854775807 then
  (br b ((rD++cq)++cD)).bind fun lY=>
  some lY.2.2 else none else none else
  if gq=6 then
  if rH.length+([]:List UInt8).length≤9223372036854775807 then
  if (rH++ []).length+bY.length≤9223372036854775807 then
  (br b ((rH++ [])++bY)).bind fun nH=>
  (dm nH.2.2 sI bF).bind fun nI=>
  if 0<(sH.length:Int) then
  (br nI He).bind fun pJ=>
  (dm pJ.2.2 sH bF).bind fun uN=>
  some uN else
  some nI else none else none else
  if gq=7 then
  (iZ yX).bind fun ja=>
  if rJ.length+ja.length≤9223372036854775807 then
  if (rJ++ja).length+bY.length≤9223372036854775807 then
  (br b ((rJ++ja)++bY)).bind fun ir=>
  (dm ir.2.2 sI bF).bind fun q_=>
  some q_ else none else none else
  some b
def C0 (dm:mR) (k:Nat) (b:List UInt8) (a:aJ) (bF:Int):Option (List UInt8):=y7 dm k b bF a.Kind a.Name a.Event a.X a.N a.oh a.lu a.At [] a.X (a.X.length:Int) 0
def y6 (dm:mR)  (b:List UInt8) (a:aJ) (bF:Int):Option (List UInt8):=cC (fun k (x:List UInt8×aJ×Int)=>C0 dm k x.1 x.2.1 x.2.2) (b,a,bF)
theorem Ju (dm:mR) (Ac:aC Tryz.prog S (qf dm)):aC Tryz.prog S (C2 (y6 dm)):=iF (fun k x=>C0 dm k x.1 x.2.1 x.2.2) (fun _=>rfl) fun k=>
 fF pk [zK tv,qv,qf dm,DZ] ⟨Ei,qV,Ac,Gs,trivial⟩ Tryz.func146 [] k (fun k=> [(0,⟨[0,2,4,6,11,12,13],[eW,q1,PG,q0,uL,q1,q1],fun x=>y7 dm k x.1 x.2.1 x.2.2.1.1 x.2.2.1.2.1 x.2.2.1.2.2.1 x.2.2.1.2.2.2.1 x.2.2.1.2.2.2.2.1 x.2.2.1.2.2.2.2.2.1 x.2.2.1.2.2.2.2.2.2.1 x.2.2.1.2.2.2.2.2.2.2 x.2.2.2.1 x.2.2.2.2.1 x.2.2.2.2.2.1 x.2.2.2.2.2.2,false⟩)]) ⟨fun _=>rfl,trivial⟩ (fun _=>by kernel_rfl) (fun _=>by kernel_rfl) (by kernel_rfl)
def y5 (dm:mR):Nat→(List UInt8)→Int→(List aJ)→Int→Int→Option (List UInt8)
 | 0,_,_,_,_,_=>none
 | k+1,b,bF,lg,Iy,jx=>if jx<Iy then
  if 0≤jx then
  if jx<(lg.length:Int) then
  (i_ eF (au (bF+1))).bind fun r3=>
  (br b r3).bind fun r4=>
  (y6 dm r4.2.2 (aJ.mk ((lg.getD jx.toNat aJ.z).Kind) ((lg.getD jx.toNat aJ.z).Name) ((lg.getD jx.toNat aJ.z).Event) ((lg.getD jx.toNat aJ.z).X) ((lg.getD jx.toNat aJ.z).N) ((lg.getD jx.toNat aJ.z).oh) ((lg.getD jx.toNat aJ.z).lu) ((lg.getD jx.toNat aJ.z).At)) (au (bF+1))).bind fun r5=>
  (eO r5 10).bind fun r6=>
  y5 dm k r6.2 bF lg Iy (au (jx+1)) else none else none else
  (i_ eF bF).bind fun r7=>
  if r7.length+cw.length≤9223372036854775807 then
  (br b (r7++cw)).bind fun r8=>
  some r8.2.2 else none
def CZ (dm:mR) (k:Nat) (b:List UInt8) (l:List aJ) (bF:Int):Option (List UInt8):=if (l.length:Int)=0 then
 (br b Rf).bind fun r1=>
 some r1.2.2 else
 (br b Re).bind fun r2=>
 y5 dm k r2.2.2 bF l (l.length:Int) 0
def vL:Nat→(List UInt8)→(List aJ)→Int→Option (List UInt8)
 | 0,_,_,_=>none
 | k+1,x0,x1,x2=>CZ (vL k) k x0 x1 x2
def y4  (b:List UInt8) (l:List aJ) (bF:Int):Option (List UInt8):=cC (fun k (x:List UInt8×List aJ×Int)=>vL k x.1 x.2.1 x.2.2) (b,l,bF)
theorem Jt (dm:mR) (k:Nat) (Ac:aC Tryz.prog S (qf dm)):aC Tryz.prog S (qf (CZ dm k)):=
 fF pk [qv,zF,C2 (y6 dm),zC] ⟨qV,Bm,Ju dm Ac,Gt,trivial⟩ Tryz.func124 [] k (fun k=> [(0,⟨[0,2,15,16,17],[eW,q1,BC,q1,q1],fun x=>y5 dm k x.1 x.2.1 x.2.2.1 x.2.2.2.1 x.2.2.2.2,false⟩)]) ⟨fun _=>rfl,trivial⟩ (fun _=>by kernel_rfl) (fun _=>by kernel_rfl) (by kernel_rfl)
theorem Js:aC Tryz.prog S (qf (y4)):=pY (fun k x=>vL k x.1 x.2.1 x.2.2) (fun _=>rfl) Tryz.func124 (by kernel_rfl) (fun _=>rfl) fun k h=>Jt (vL k) k h
abbrev Jr:=(List aJ)→Int→Option (List UInt8)
abbrev yZ (f:Jr):Entry S:=⟨86,[BC,q1],[q0],fun x=>f x.1 x.2⟩
def mQ  (l:List aJ) (bF:Int):Option (List UInt8):=(y4 [] l (max bF 0)).bind fun r1=>(sO r1).bind fun r2=>some r2.1
theorem CY:aC Tryz.prog S (yZ (mQ)):=
 bu pk [qf y4,zE] ⟨Js,Bn,trivial⟩ Tryz.func86 (by kernel_rfl) (fun _=>by kernel_rfl) (by kernel_rfl)
abbrev KS:=(List UInt8)→bC→Int→Option (List UInt8)
abbrev DH (f:KS):Entry S:=⟨87,[eW,Gz,q1],[],fun x=>f x.1 x.2.1 x.2.2⟩
def s_:Nat→(List UInt8)→Int→(List UInt8)→(List ah)→(List UInt8)→(List aJ)→Int→(List ah)→Int→Int→Option (List UInt8)
 | 0,_,_,_,_,_,_,_,_,_,_=>none
 | k+1,b,bF,k6,mA,ju,iI,kZ,p8,Iz,mI=>if mI<Iz then
  if 0≤mI then
  if mI<(p8.length:Int) then
  (tv (ah.mk ((p8.getD mI.toNat ah.z).Kind) ((p8.getD mI.toNat ah.z).N) ((p8.getD mI.toNat ah.z).Name) ((p8.getD mI.toNat ah.z).Kids) ((p8.getD mI.toNat ah.z).At))).bind fun r5=>
  if Ch.length+r5.length≤9223372036854775807 then
  if (Ch++r5).length+Cf.length≤9223372036854775807 then
  (br b ((Ch++r5)++Cf)).bind fun r6=>
  s_ k r6.2.2 bF k6 mA ju iI kZ p8 Iz (au (mI+1)) else none else none else none else none else
  if ju≠ [] then
  if Hh.length+ju.length≤9223372036854775807 then
  (br b (Hh++ju)).bind fun r7=>
  if (iI.length:Int)=0 then
  (br r7.2.2 kX).bind fun r8=>
  some r8.2.2 else
  (mQ iI bF).bind fun r9=>
  if bY.length+r9.length≤9223372036854775807 then
  if (bY++r9).length+kW.length≤9223372036854775807 then
  (br r7.2.2 ((bY++r9)++kW)).bind fun bf=>
  some bf.2.2 else none else none else none else
  if (iI.length:Int)=0 then
  (br b kX).bind fun cl=>
  some cl.2.2 else
  (mQ iI bF).bind fun bA=>
  if bY.length+bA.length≤9223372036854775807 then
  if (bY++bA).length+kW.length≤9223372036854775807 then
  (br b ((bY++bA)++kW)).bind fun cu=>
  some cu.2.2 else none else none
def wj (k:Nat) (b:List UInt8) (t:bC) (bF:Int):Option (List UInt8):=(i_ eF bF).bind fun r1=>
 (br b r1).bind fun r2=>
 if t.Event= [] then
 (br r2.2.2 nS).bind fun r3=>
 s_ k r3.2.2 bF t.Event t.Guard t.Target t.vG t.At t.Guard (t.Guard.length:Int) 0 else
 if Hg.length+t.Event.length≤9223372036854775807 then
 (br r2.2.2 (Hg++t.Event)).bind fun r4=>
 s_ k r4.2.2 bF t.Event t.Guard t.Target t.vG t.At t.Guard (t.Guard.length:Int) 0 else none
def wh  (b:List UInt8) (t:bC) (bF:Int):Option (List UInt8):=cC (fun k (x:List UInt8×bC×Int)=>wj k x.1 x.2.1 x.2.2) (b,t,bF)
theorem KR:aC Tryz.prog S (DH (wh)):=iF (fun k x=>wj k x.1 x.2.1 x.2.2) (fun _=>rfl) fun k=>
 fF pk [zF,qv,zK tv,yZ mQ] ⟨Bm,qV,Ei,CY,trivial⟩ Tryz.func87 [] k (fun k=> [(0,⟨[0,2,4,23,24,25],[eW,q1,PI,uL,q1,q1],fun x=>s_ k x.1 x.2.1 x.2.2.1.1 x.2.2.1.2.1 x.2.2.1.2.2.1 x.2.2.1.2.2.2.1 x.2.2.1.2.2.2.2 x.2.2.2.1 x.2.2.2.2.1 x.2.2.2.2.2,false⟩)]) ⟨fun _=>rfl,trivial⟩ (fun _=>by kernel_rfl) (fun _=>by kernel_rfl) (by kernel_rfl)
abbrev s9:=(List UInt8)→aR→Int→Option (List UInt8)
abbrev s8 (f:s9):Entry S:=⟨41,[eW,PJ,q1],[],fun x=>f x.1 x.2.1 x.2.2⟩
def wg (gk:s9):Nat→(List UInt8)→Int→(List UInt8)→(List aR)→Int→Int→Option (List UInt8)
 | 0,_,_,_,_,_,_=>none
 | k+1,b,bF,qk,mG,Iw,j_=>if j_<Iw then
  if 0≤j_ then
  if j_<(mG.length:Int) then
  (gk b (aR.mk ((mG.getD j_.toNat aR.z).Kind) ((mG.getD j_.toNat aR.z).Name) ((mG.getD j_.toNat aR.z).Entry) ((mG.getD j_.toNat aR.z).Exit) ((mG.getD j_.toNat aR.z).Trans) ((mG.getD j_.toNat aR.z).Kids) ((mG.getD j_.toNat aR.z).At)) (au (bF+1))).bind fun dW=>
  wg gk k dW bF qk mG Iw (au (j_+1)) else none else none else
  if qk.length+Ce.length≤9223372036854775807 then
  (br b (qk++Ce)).bind fun r16=>
  some r16.2.2 else none
def nc (gk:s9):Nat→(List UInt8)→Int→Int→(List UInt8)→(List aJ)→(List aJ)→(List bC)→(List aR)→Int→(List UInt8)→(List bC)→Int→Int→Option (List UInt8)
 | 0,_,_,_,_,_,_,_,_,_,_,_,_,_=>none
 | k+1,b,bF,jm,jn,jl,j8,iC,iB,jk,qk,CG,IM,vF=>if vF<IM then
  if 0≤vF then
  if vF<(CG.length:Int) then
  (wh b (CG.getD vF.toNat bC.z) (au (bF+1))).bind fun fM=>
  nc gk k fM bF jm jn jl j8 iC iB jk qk CG IM (au (vF+1)) else none else none else
  wg gk k b bF qk iB (iB.length:Int) 0
def we (gk:s9) (k:Nat) (b:List UInt8) (s:aR) (bF:Int):Option (List UInt8):=(i_ eF bF).bind fun r1=>
 (wk s.Kind).bind fun r2=>
 if r1.length+r2.length≤9223372036854775807 then
 if (r1++r2).length+s.Name.length≤9223372036854775807 then
 (br b ((r1++r2)++s.Name)).bind fun r3=>
 if s.Kind=3 then
 (br r3.2.2 kX).bind fun r4=>
 some r4.2.2 else
 if s.Kind=4 then
 (br r3.2.2 kX).bind fun r5=>
 some r5.2.2 else
 if (au ((au ((au ((s.Entry.length:Int)+(s.Exit.length:Int)))+(s.Trans.length:Int)))+(s.Kids.length:Int)))=0 then
 (br r3.2.2 Ri).bind fun r6=>
 some r6.2.2 else
 (br r3.2.2 Cg).bind fun r7=>
 if 0<(s.Entry.length:Int) then
 if r1.length+eF.length≤9223372036854775807 then
 if (r1++eF).length+yo.length≤9223372036854775807 then
 (mQ s.Entry (au (bF+1))).bind fun r8=>
 if ((r1++eF)++yo).length+r8.length≤9223372036854775807 then
 if (((r1++eF)++yo)++r8).length+kW.length≤9223372036854775807 then
 (br r7.2.2 ((((r1++eF)++yo)++r8)++kW)).bind fun r9=>
 if 0<(s.Exit.length:Int) then
 if r1.length+eF.length≤9223372036854775807 then
 if (r1++eF).length+nV.length≤9223372036854775807 then
 (mQ s.Exit (au (bF+1))).bind fun bf=>
 if ((r1++eF)++nV).length+bf.length≤9223372036854775807 then
 if (((r1++eF)++nV)++bf).length+kW.length≤9223372036854775807 then
 (br r9.2.2 ((((r1++eF)++nV)++bf)++kW)).bind fun cl=>
 nc gk k cl.2.2 bF s.Kind s.Name s.Entry s.Exit s.Trans s.Kids s.At r1 s.Trans (s.Trans.length:Int) 0 else none else none else none else none else
 nc gk k r9.2.2 bF s.Kind s.Name s.Entry s.Exit s.Trans s.Kids s.At r1 s.Trans (s.Trans.length:Int) 0 else none else none else none else none else
 if 0<(s.Exit.length:Int) then
 if r1.length+eF.length≤9223372036854775807 then
 if (r1++eF).length+nV.length≤9223372036854775807 then
 (mQ s.Exit (au (bF+1))).bind fun bA=>
 if ((r1++eF)++nV).length+bA.length≤9223372036854775807 then
 if (((r1++eF)++nV)++bA).length+kW.length≤9223372036854775807 then
 (br r7.2.2 ((((r1++eF)++nV)++bA)++kW)).bind fun cu=>
 nc gk k cu.2.2 bF s.Kind s.Name s.Entry s.Exit s.Trans s.Kids s.At r1 s.Trans (s.Trans.length:Int) 0 else none else none else none else none else
 nc gk k r7.2.2 bF s.Kind s.Name s.Entry s.Exit s.Trans s.Kids s.At r1 s.Trans (s.Trans.length:Int) 0 else none else none
def s7:Nat→(List UInt8)→aR→Int→Option (List UInt8)
 | 0,_,_,_=>none
 | k+1,x0,x1,x2=>we (s7 k) k x0 x1 x2
def v_  (b:List UInt8) (s:aR) (bF:Int):Option (List UInt8):=cC (fun k (x:List UInt8×aR×Int)=>s7 k x.1 x.2.1 x.2.2) (b,s,bF)
theorem KQ (gk:s9) (k:Nat) (Mq:aC Tryz.prog S (s8 gk)):aC Tryz.prog S (s8 (we gk k)):=
 fF pk [zF,DI wk,qv,yZ mQ,DH wh,s8 gk] ⟨Bm,KT,qV,CY,KR,Mq,trivial⟩ Tryz.func41 [] k (fun k=> [(0,⟨[0,2,4,6,88,89,90],[eW,q1,PK,q0,PL,q1,q1],fun x=>nc gk k x.1 x.2.1 x.2.2.1.1 x.2.2.1.2.1 x.2.2.1.2.2.1 x.2.2.1.2.2.2.1 x.2.2.1.2.2.2.2.1 x.2.2.1.2.2.2.2.2.1 x.2.2.1.2.2.2.2.2.2 x.2.2.2.1 x.2.2.2.2.1 x.2.2.2.2.2.1 x.2.2.2.2.2.2,false⟩),(2,⟨[0,2,6,101,102,103],[eW,q1,q0,GC,q1,q1],fun x=>wg gk k x.1 x.2.1 x.2.2.1 x.2.2.2.1 x.2.2.2.2.1 x.2.2.2.2.2,false⟩)]) ⟨fun _=>rfl,fun _=>rfl,trivial⟩ (fun _=>by kernel_rfl) (fun _=>by kernel_rfl) (by kernel_rfl)
theorem KP:aC Tryz.prog S (s8 (v_)):=pY (fun k x=>s7 k x.1 x.2.1 x.2.2) (fun _=>rfl) Tryz.func41 (by kernel_rfl) (fun _=>rfl) fun k h=>KQ (s7 k) k h
abbrev Kz:=c_→Option (List UInt8)
abbrev Dv (f:Kz):Entry S:=⟨19,[xG],[q0],fun x=>f x⟩
def sR:Nat→(List UInt8)→(List aR)→Int→Int→Option (List UInt8)
 | 0,_,_,_,_=>none
 | k+1,b,mK,IL,kf=>if kf<IL then
  if 0≤kf then
  if kf<(mK.length:Int) then
  (v_ b (aR.mk ((mK.getD kf.toNat aR.z).Kind) ((mK.getD kf.toNat aR.z).Name) ((mK.getD kf.toNat aR.z).Entry) ((mK.getD kf.toNat aR.z).Exit) ((mK.getD kf.toNat aR.z).Trans) ((mK.getD kf.toNat aR.z).Kids) ((mK.getD kf.toNat aR.z).At)) 1).bind fun r8=>
  sR k r8 mK IL (au (kf+1)) else none else none else
  (br b Ce).bind fun r9=>
  (sO r9.2.2).bind fun bf=>
  some bf.1
def v8:Nat→(List UInt8)→Int→Int→(List bB)→(List bB)→(List bB)→(List aR)→Int→(List UInt8)→(List bB)→Int→Int→Option (List UInt8)
 | 0,_,_,_,_,_,_,_,_,_,_,_,_=>none
 | k+1,jE,jF,jD,g_,iL,iN,iM,jC,b,vE,IK,qa=>if qa<IK then
  if 0≤qa then
  if qa<(vE.length:Int) then
  if Ci.length+((vE.getD qa.toNat bB.z).Name).length≤9223372036854775807 then
  if (Ci++((vE.getD qa.toNat bB.z).Name)).length+kX.length≤9223372036854775807 then
  (br b ((Ci++((vE.getD qa.toNat bB.z).Name))++kX)).bind fun r7=>
  v8 k jE jF jD g_ iL iN iM jC r7.2.2 vE IK (au (qa+1)) else none else none else none else none else
  sR k b iM (iM.length:Int) 0
def v7:Nat→(List UInt8)→Int→Int→(List bB)→(List bB)→(List bB)→(List aR)→Int→(List UInt8)→(List bB)→Int→Int→Option (List UInt8)
 | 0,_,_,_,_,_,_,_,_,_,_,_,_=>none
 | k+1,jE,jF,jD,g_,iL,iN,iM,jC,b,vv,IJ,p9=>if p9<IJ then
  if 0≤p9 then
  if p9<(vv.length:Int) then
  if Cd.length+((vv.getD p9.toNat bB.z).Name).length≤9223372036854775807 then
  if (Cd++((vv.getD p9.toNat bB.z).Name)).length+kX.length≤9223372036854775807 then
  (br b ((Cd++((vv.getD p9.toNat bB.z).Name))++kX)).bind fun r6=>
  v7 k jE jF jD g_ iL iN iM jC r6.2.2 vv IJ (au (p9+1)) else none else none else none else none else
  v8 k jE jF jD g_ iL iN iM jC b iN (iN.length:Int) 0
def vZ:Nat→(List UInt8)→Int→Int→(List bB)→(List bB)→(List bB)→(List aR)→Int→(List UInt8)→(List bB)→Int→Int→Option (List UInt8)
 | 0,_,_,_,_,_,_,_,_,_,_,_,_=>none
 | k+1,jE,jF,jD,g_,iL,iN,iM,jC,b,n9,IA,lp=>if lp<IA then
  if 0≤lp then
  if lp<(n9.length:Int) then
  if vg.length+((n9.getD lp.toNat bB.z).Name).length≤9223372036854775807 then
  if (vg++((n9.getD lp.toNat bB.z).Name)).length+jq.length≤9223372036854775807 then
  (pI ((n9.getD lp.toNat bB.z).N) 10).bind fun r4=>
  if ((vg++((n9.getD lp.toNat bB.z).Name))++jq).length+r4.length≤9223372036854775807 then
  if (((vg++((n9.getD lp.toNat bB.z).Name))++jq)++r4).length+kX.length≤9223372036854775807 then
  (br b ((((vg++((n9.getD lp.toNat bB.z).Name))++jq)++r4)++kX)).bind fun r5=>
  vZ k jE jF jD g_ iL iN iM jC r5.2.2 n9 IA (au (lp+1)) else none else none else none else none else none else none else
  v7 k jE jF jD g_ iL iN iM jC b iL (iL.length:Int) 0
def vY (k:Nat) (c:c_):Option (List UInt8):=if pW.length+c.Name.length≤9223372036854775807 then
 if (pW++c.Name).length+rL.length≤9223372036854775807 then
 (iZ c.Steps).bind fun r1=>
 if ((pW++c.Name)++rL).length+r1.length≤9223372036854775807 then
 if (((pW++c.Name)++rL)++r1).length+yq.length≤9223372036854775807 then
 (iZ c.Fuel).bind fun r2=>
 if ((((pW++c.Name)++rL)++r1)++yq).length+r2.length≤9223372036854775807 then
 if (((((pW++c.Name)++rL)++r1)++yq)++r2).length+Cg.length≤9223372036854775807 then
 (br [] ((((((pW++c.Name)++rL)++r1)++yq)++r2)++Cg)).bind fun r3=>
 vZ k c.Name c.Steps c.Fuel c.Vars c.CO c.CU c.CS c.At r3.2.2 c.Vars (c.Vars.length:Int) 0 else none else none else none else none else none else none
def vX  (c:c_):Option (List UInt8):=cC (fun k (x:c_)=>vY k x) c
theorem Ky:aC Tryz.prog S (Dv (vX)):=iF (fun k x=>vY k x) (fun _=>rfl) fun k=>
 fF pk [DZ,qv,D0,s8 v_,zE] ⟨Gs,qV,Gq,KP,Bn,trivial⟩ Tryz.func19 [] k (fun k=> [(0,⟨[1,3,28,29,30],[BD,eW,BE,q1,q1],fun x=>vZ k x.1.1 x.1.2.1 x.1.2.2.1 x.1.2.2.2.1 x.1.2.2.2.2.1 x.1.2.2.2.2.2.1 x.1.2.2.2.2.2.2.1 x.1.2.2.2.2.2.2.2 x.2.1 x.2.2.1 x.2.2.2.1 x.2.2.2.2,false⟩),(2,⟨[1,3,46,47,48],[BD,eW,BE,q1,q1],fun x=>v7 k x.1.1 x.1.2.1 x.1.2.2.1 x.1.2.2.2.1 x.1.2.2.2.2.1 x.1.2.2.2.2.2.1 x.1.2.2.2.2.2.2.1 x.1.2.2.2.2.2.2.2 x.2.1 x.2.2.1 x.2.2.2.1 x.2.2.2.2,false⟩),(4,⟨[1,3,59,60,61],[BD,eW,BE,q1,q1],fun x=>v8 k x.1.1 x.1.2.1 x.1.2.2.1 x.1.2.2.2.1 x.1.2.2.2.2.1 x.1.2.2.2.2.2.1 x.1.2.2.2.2.2.2.1 x.1.2.2.2.2.2.2.2 x.2.1 x.2.2.1 x.2.2.2.1 x.2.2.2.2,false⟩),(6,⟨[3,72,73,74],[eW,GC,q1,q1],fun x=>sR k x.1 x.2.1 x.2.2.1 x.2.2.2,false⟩)]) ⟨fun _=>rfl,fun _=>rfl,fun _=>rfl,fun _=>rfl,trivial⟩ (fun _=>by kernel_rfl) (fun _=>by kernel_rfl) (by kernel_rfl)
abbrev N9:=Option Bool
abbrev FR (f:N9):Entry S:=⟨8,[],[q3],fun x=>f⟩
def pF:Option Bool:=(ij Ca).bind fun r1=>
 (ij B_).bind fun r2=>
 bif r1.2.2 then
 bif !r2.2.2 then
 if r2.2.1.Code=11 then
 if r2.2.1.At=43 then
 (vX r1.1).bind fun r3=>
 some (decide (r3=G_)) else
 some false else
 some false else
 some false else
 some false
theorem N8:aC Tryz.prog S (FR (pF)):=
 bu pk [AY ij,Dv vX] ⟨FT,Ky,trivial⟩ Tryz.func8 (by kernel_rfl) (fun _=>by kernel_rfl) (by kernel_rfl)
def xY  (l:List ak) (aj:Int) (s:List UInt8):Option Bool:=if aj<(l.length:Int) then
 if 0≤aj then
 if aj<(l.length:Int) then
 if ((l.getD aj.toNat ak.z).Kind)=3 then
 if 0≤aj then
 if aj<(l.length:Int) then
 some (decide (((l.getD aj.toNat ak.z).Text)=s)) else none else none else
 if 0≤aj then
 if aj<(l.length:Int) then
 if ((l.getD aj.toNat ak.z).Kind)=1 then
 if 0≤aj then
 if aj<(l.length:Int) then
 some (decide (((l.getD aj.toNat ak.z).Text)=s)) else none else none else
 some false else none else none else none else none else
 some false
def xX  (l:List ak) (aj:Int):Option aQ:=if 0≤aj then
 if aj<(l.length:Int) then
 if ((l.getD aj.toNat ak.z).Kind)=4 then
 if 0≤aj then
 if aj<(l.length:Int) then
 some (aQ.mk 12 ((l.getD aj.toNat ak.z).At)) else none else none else
 if 0≤aj then
 if aj<(l.length:Int) then
 some (aQ.mk 11 ((l.getD aj.toNat ak.z).At)) else none else none else none else none
def u0:Nat→(List UInt8)→(List UInt8×List UInt8×List UInt8×List UInt8×List UInt8×List UInt8×List UInt8×List UInt8×List UInt8×List UInt8×List UInt8×List UInt8×List UInt8×List UInt8×List UInt8×List UInt8×List UInt8×List UInt8×List UInt8×List UInt8×List UInt8×List UInt8×List UInt8×List UInt8×List UInt8×List UInt8×List UInt8×List UInt8×List UInt8×List UInt8×List UInt8×List UInt8×List UInt8×List UInt8×List UInt8)→Int→Option Bool
 | 0,_,_,_=>none
 | k+1,s,words,i=>if i<35 then
  if 0≤i then
  if i<([words.1,words.2.1,words.2.2.1,words.2.2.2.1,words.2.2.2.2.1,words.2.2.2.2.2.1,words.2.2.2.2.2.2.1,words.2.2.2.2.2.2.2.1,words.2.2.2.2.2.2.2.2.1,words.2.2.2.2.2.2.2.2.2.1,words.2.2.2.2.2.2.2.2.2.2.1,words.2.2.2.2.2.2.2.2.2.2.2.1,words.2.2.2.2.2.2.2.2.2.2.2.2.1,words.2.2.2.2.2.2.2.2.2.2.2.2.2.1,words.2.2.2.2.2.2.2.2.2.2.2.2.2.2.1,words.2.2.2.2.2.2.2.2.2.2.2.2.2.2.2.1,words.2.2.2.2.2.2.2.2.2.2.2.2.2.2.2.2.1,words.2.2.2.2.2.2.2.2.2.2.2.2.2.2.2.2.2.1,words.2.2.2.2.2.2.2.2.2.2.2.2.2.2.2.2.2.2.1,words.2.2.2.2.2.2.2.2.2.2.2.2.2.2.2.2.2.2.2.1,words.2.2.2.2.2.2.2.2.2.2.2.2.2.2.2.2.2.2.2.2.1,words.2.2.2.2.2.2.2.2.2.2.2.2.2.2.2.2.2.2.2.2.2.1,words.2.2.2.2.2.2.2.2.2.2.2.2.2.2.2.2.2.2.2.2.2.2.1,words.2.2.2.2.2.2.2.2.2.2.2.2.2.2.2.2.2.2.2.2.2.2.2.1,words.2.2.2.2.2.2.2.2.2.2.2.2.2.2.2.2.2.2.2.2.2.2.2.2.1,words.2.2.2.2.2.2.2.2.2.2.2.2.2.2.2.2.2.2.2.2.2.2.2.2.2.1,words.2.2.2.2.2.2.2.2.2.2.2.2.2.2.2.2.2.2.2.2.2.2.2.2.2.2.1,words.2.2.2.2.2.2.2.2.2.2.2.2.2.2.2.2.2.2.2.2.2.2.2.2.2.2.2.1,words.2.2.2.2.2.2.2.2.2.2.2.2.2.2.2.2.2.2.2.2.2.2.2.2.2.2.2.2.1,words.2.2.2.2.2.2.2.2.2.2.2.2.2.2.2.2.2.2.2.2.2.2.2.2.2.2.2.2.2.1,words.2.2.2.2.2.2.2.2.2.2.2.2.2.2.2.2.2.2.2.2.2.2.2.2.2.2.2.2.2.2.1,words.2.2.2.2.2.2.2.2.2.2.2.2.2.2.2.2.2.2.2.2.2.2.2.2.2.2.2.2.2.2.2.1,words.2.2.2.2.2.2.2.2.2.2.2.2.2.2.2.2.2.2.2.2.2.2.2.2.2.2.2.2.2.2.2.2.1,words.2.2.2.2.2.2.2.2.2.2.2.2.2.2.2.2.2.2.2.2.2.2.2.2.2.2.2.2.2.2.2.2.2.1,words.2.2.2.2.2.2.2.2.2.2.2.2.2.2.2.2.2.2.2.2.2.2.2.2.2.2.2.2.2.2.2.2.2.2].length:Int) then
  if ([words.1,words.2.1,words.2.2.1,words.2.2.2.1,words.2.2.2.2.1,words.2.2.2.2.2.1,words.2.2.2.2.2.2.1,words.2.2.2.2.2.2.2.1,words.2.2.2.2.2.2.2.2.1,words.2.2.2.2.2.2.2.2.2.1,words.2.2.2.2.2.2.2.2.2.2.1,words.2.2.2.2.2.2.2.2.2.2.2.1,words.2.2.2.2.2.2.2.2.2.2.2.2.1,words.2.2.2.2.2.2.2.2.2.2.2.2.2.1,words.2.2.2.2.2.2.2.2.2.2.2.2.2.2.1,words.2.2.2.2.2.2.2.2.2.2.2.2.2.2.2.1,words.2.2.2.2.2.2.2.2.2.2.2.2.2.2.2.2.1,words.2.2.2.2.2.2.2.2.2.2.2.2.2.2.2.2.2.1,words.2.2.2.2.2.2.2.2.2.2.2.2.2.2.2.2.2.2.1,words.2.2.2.2.2.2.2.2.2.2.2.2.2.2.2.2.2.2.2.1,words.2.2.2.2.2.2.2.2.2.2.2.2.2.2.2.2.2.2.2.2.1,words.2.2.2.2.2.2.2.2.2.2.2.2.2.2.2.2.2.2.2.2.2.1,words.2.2.2.2.2.2.2.2.2.2.2.2.2.2.2.2.2.2.2.2.2.2.1,words.2.2.2.2.2.2.2.2.2.2.2.2.2.2.2.2.2.2.2.2.2.2.2.1,words.2.2.2.2.2.2.2.2.2.2.2.2.2.2.2.2.2.2.2.2.2.2.2.2.1,words.2.2.2.2.2.2.2.2.2.2.2.2.2.2.2.2.2.2.2.2.2.2.2.2.2.1,words.2.2.2.2.2.2.2.2.2.2.2.2.2.2.2.2.2.2.2.2.2.2.2.2.2.2.1,words.2.2.2.2.2.2.2.2.2.2.2.2.2.2.2.2.2.2.2.2.2.2.2.2.2.2.2.1,words.2.2.2.2.2.2.2.2.2.2.2.2.2.2.2.2.2.2.2.2.2.2.2.2.2.2.2.2.1,words.2.2.2.2.2.2.2.2.2.2.2.2.2.2.2.2.2.2.2.2.2.2.2.2.2.2.2.2.2.1,words.2.2.2.2.2.2.2.2.2.2.2.2.2.2.2.2.2.2.2.2.2.2.2.2.2.2.2.2.2.2.1,words.2.2.2.2.2.2.2.2.2.2.2.2.2.2.2.2.2.2.2.2.2.2.2.2.2.2.2.2.2.2.2.1,words.2.2.2.2.2.2.2.2.2.2.2.2.2.2.2.2.2.2.2.2.2.2.2.2.2.2.2.2.2.2.2.2.1,words.2.2.2.2.2.2.2.2.2.2.2.2.2.2.2.2.2.2.2.2.2.2.2.2.2.2.2.2.2.2.2.2.2.1,words.2.2.2.2.2.2.2.2.2.2.2.2.2.2.2.2.2.2.2.2.2.2.2.2.2.2.2.2.2.2.2.2.2.2].getD i.toNat [])=s then
  some true else
  u0 k s words (au (i+1)) else none else none else
  some false
def Qz (k:Nat) (s:List UInt8):Option Bool:=u0 k s Db 0
def GU  (s:List UInt8):Option Bool:=cC (fun k (x:List UInt8)=>Qz k x) s
def pO  (l:List ak) (aj:Int):Option Bool:=if aj<(l.length:Int) then
 if 0≤aj then
 if aj<(l.length:Int) then
 if ((l.getD aj.toNat ak.z).Kind)=1 then
 if 0≤aj then
 if aj<(l.length:Int) then
 (GU ((l.getD aj.toNat ak.z).Text)).bind fun r1=>
 some (!r1) else none else none else
 some false else none else none else
 some false
def nO  (r_:aS) (s:List UInt8):Option (Bool×aS):=(xY r_.l r_.aj s).bind fun r1=>some (r1,r_)
def rA  (r_:aS):Option (ah×aS):=if r_.bad.Code=0 then
 (xX r_.l r_.aj).bind fun r1=>
 some (ah.mk 0 0 [] [] 0,aS.mk r_.l r_.aj r_.a_ r1) else
 some (ah.mk 0 0 [] [] 0,r_)
def gU  (r_:aS) (s:List UInt8):Option aS:=if r_.bad.Code≠0 then
 some r_ else
 (nO r_ s).bind fun r1=>
 bif !r1.1 then
 (rA r1.2).bind fun r2=>
 some r2.2 else
 some (aS.mk r1.2.l (au (r1.2.aj+1)) r1.2.a_ r1.2.bad)
def iA  (r_:aS):Option (Bool×aS):=if r_.a_=12 then
 if 0≤r_.aj then
 if r_.aj<(r_.l.length:Int) then
 some (false,aS.mk r_.l r_.aj r_.a_ (aQ.mk 14 ((r_.l.getD r_.aj.toNat ak.z).At))) else none else none else
 some (true,aS.mk r_.l (au (r_.aj+1)) (au (r_.a_+1)) r_.bad)
abbrev pQ:=aS→Int→Option (ah×aS)
def je (eN:pQ)  (r_:aS):Option (ah×aS):=if 0≤r_.aj then
 if r_.aj<(r_.l.length:Int) then
 if ((r_.l.getD r_.aj.toNat ak.z).Kind)=2 then
 some (ah.mk 1 ((r_.l.getD r_.aj.toNat ak.z).N) [] [] ((r_.l.getD r_.aj.toNat ak.z).At),aS.mk r_.l (au (r_.aj+1)) r_.a_ r_.bad) else
 (nO r_ nU).bind fun r1=>
 bif r1.1 then
 some (ah.mk 3 0 [] [] ((r_.l.getD r_.aj.toNat ak.z).At),aS.mk r1.2.l (au (r1.2.aj+1)) r1.2.a_ r1.2.bad) else
 (nO r1.2 iD).bind fun r2=>
 bif r2.1 then
 (gU (aS.mk r2.2.l (au (r2.2.aj+1)) r2.2.a_ r2.2.bad) cH).bind fun r3=>
 if r3.bad.Code≠0 then
 some (ah.mk 0 0 [] [] 0,r3) else
 (pO r3.l r3.aj).bind fun r4=>
 bif !r4 then
 (rA r3).bind fun r5=>
 some (ah.mk r5.1.Kind r5.1.N r5.1.Name r5.1.Kids r5.1.At,r5.2) else
 if 0≤r3.aj then
 if r3.aj<(r3.l.length:Int) then
 (gU (aS.mk r3.l (au (r3.aj+1)) r3.a_ r3.bad) cx).bind fun r6=>
 some (ah.mk 4 0 ((r3.l.getD r3.aj.toNat ak.z).Text) [] ((r_.l.getD r_.aj.toNat ak.z).At),r6) else none else none else
 (nO r2.2 cH).bind fun r7=>
 bif r7.1 then
 (iA r7.2).bind fun r8=>
 bif !r8.1 then
 some (ah.mk 0 0 [] [] 0,r8.2) else
 (eN r8.2 1).bind fun r9=>
 (gU r9.2 cx).bind fun bf=>
 some (ah.mk r9.1.Kind r9.1.N r9.1.Name r9.1.Kids r9.1.At,aS.mk bf.l bf.aj (au (bf.a_ - 1)) bf.bad) else
 (pO r7.2.l r7.2.aj).bind fun cl=>
 bif cl then
 some (ah.mk 2 0 ((r_.l.getD r_.aj.toNat ak.z).Text) [] ((r_.l.getD r_.aj.toNat ak.z).At),aS.mk r7.2.l (au (r7.2.aj+1)) r7.2.a_ r7.2.bad) else
 (rA r7.2).bind fun bA=>
 some (ah.mk bA.1.Kind bA.1.N bA.1.Name bA.1.Kids bA.1.At,bA.2) else none else none
abbrev QA:=aS→Option (ah×aS)
def BW (yB:QA) (eN:pQ) (k:Nat) (r_:aS):Option (ah×aS):=(nO r_ fu).bind fun r1=>
 bif r1.1 then
 (nO r1.2 kT).bind fun r2=>
 bif r2.1 then
 if (6:Int)=0 then
 (je eN r2.2).bind fun r3=>
 some (ah.mk r3.1.Kind r3.1.N r3.1.Name r3.1.Kids r3.1.At,r3.2) else
 if 0≤r2.2.aj then
 if r2.2.aj<(r2.2.l.length:Int) then
 (iA r2.2).bind fun r4=>
 bif !r4.1 then
 some (ah.mk 0 0 [] [] 0,r4.2) else
 (yB r4.2).bind fun r5=>
 some (ah.mk 6 0 [] [ah.mk r5.1.Kind r5.1.N r5.1.Name r5.1.Kids r5.1.At] ((r2.2.l.getD r2.2.aj.toNat ak.z).At),aS.mk r5.2.l r5.2.aj (au (r5.2.a_ - 1)) r5.2.bad) else none else none else
 if (5:Int)=0 then
 (je eN r2.2).bind fun r6=>
 some (ah.mk r6.1.Kind r6.1.N r6.1.Name r6.1.Kids r6.1.At,r6.2) else
 if 0≤r2.2.aj then
 if r2.2.aj<(r2.2.l.length:Int) then
 (iA r2.2).bind fun r7=>
 bif !r7.1 then
 some (ah.mk 0 0 [] [] 0,r7.2) else
 (yB r7.2).bind fun r8=>
 some (ah.mk 5 0 [] [ah.mk r8.1.Kind r8.1.N r8.1.Name r8.1.Kids r8.1.At] ((r2.2.l.getD r2.2.aj.toNat ak.z).At),aS.mk r8.2.l r8.2.aj (au (r8.2.a_ - 1)) r8.2.bad) else none else none else
 (nO r1.2 kT).bind fun r9=>
 bif r9.1 then
 if (6:Int)=0 then
 (je eN r9.2).bind fun bf=>
 some (ah.mk bf.1.Kind bf.1.N bf.1.Name bf.1.Kids bf.1.At,bf.2) else
 if 0≤r9.2.aj then
 if r9.2.aj<(r9.2.l.length:Int) then
 (iA r9.2).bind fun cl=>
 bif !cl.1 then
 some (ah.mk 0 0 [] [] 0,cl.2) else
 (yB cl.2).bind fun bA=>
 some (ah.mk 6 0 [] [ah.mk bA.1.Kind bA.1.N bA.1.Name bA.1.Kids bA.1.At] ((r9.2.l.getD r9.2.aj.toNat ak.z).At),aS.mk bA.2.l bA.2.aj (au (bA.2.a_ - 1)) bA.2.bad) else none else none else
 if (0:Int)=0 then
 (je eN r9.2).bind fun cu=>
 some (ah.mk cu.1.Kind cu.1.N cu.1.Name cu.1.Kids cu.1.At,cu.2) else
 if 0≤r9.2.aj then
 if r9.2.aj<(r9.2.l.length:Int) then
 (iA r9.2).bind fun fM=>
 bif !fM.1 then
 some (ah.mk 0 0 [] [] 0,fM.2) else
 (yB fM.2).bind fun dW=>
 some (ah.mk 0 0 [] [ah.mk dW.1.Kind dW.1.N dW.1.Name dW.1.Kids dW.1.At] ((r9.2.l.getD r9.2.aj.toNat ak.z).At),aS.mk dW.2.l dW.2.aj (au (dW.2.a_ - 1)) dW.2.bad) else none else none
def kQ (eN:pQ):Nat→aS→Option (ah×aS)
 | 0,_=>none
 | k+1,x0=>BW (kQ eN k) eN k x0
def xZ (eN:pQ)  (r_:aS):Option (ah×aS):=cC (fun k (x:aS)=>kQ eN k x) r_
def gD  (level:Int) (own:Int) (kind:Int):Option Int:=if level=own then some kind else some 0
def BU  (level:Int) (s:List UInt8):Option Int:=if s=mb then
 (gD level 1 19).bind fun r1=>
 some r1 else
 if s=l9 then
 (gD level 2 18).bind fun r2=>
 some r2 else
 if s=mh then
 (gD level 3 12).bind fun r3=>
 some r3 else
 if s=mj then
 (gD level 3 13).bind fun r4=>
 some r4 else
 if s=me then
 (gD level 3 14).bind fun r5=>
 some r5 else
 if s=mg then
 (gD level 3 15).bind fun r6=>
 some r6 else
 if s=mc then
 (gD level 3 16).bind fun r7=>
 some r7 else
 if s=l_ then
 (gD level 3 17).bind fun r8=>
 some r8 else
 if s=mq then
 (gD level 4 10).bind fun r9=>
 some r9 else
 if s=fu then
 (gD level 4 11).bind fun bf=>
 some bf else
 if s=mw then
 (gD level 5 7).bind fun cl=>
 some cl else
 if s=mu then
 (gD level 5 8).bind fun bA=>
 some bA else
 if s=mo then
 (gD level 5 9).bind fun cu=>
 some cu else
 some 0
mutual
def nN (eN:pQ):Nat→(List ak)→Int→Int→Int→Int→Int→Int→Int→(List UInt8)→(List ah)→Int→Int→Int→(List UInt8)→(List ah)→Int→Option (ah×aS)
 | 0,_,_,_,_,_,_,_,_,_,_,_,_,_,_,_,_=>none
 | k+1,gB,ff,iu,nJ,pK,level,vB,vC,vD,vA,vz,eu,eR,eS,cU,eP=>if nJ=0 then
  if ff<(gB.length:Int) then
  if 0≤ff then
  if ff<(gB.length:Int) then
  if ((gB.getD ff.toNat ak.z).Kind)=3 then
  BV eN k gB ff iu nJ pK level vB vC vD vA vz eu eR eS cU eP else
  some (ah.mk eu eR eS cU eP,aS.mk gB ff iu (aQ.mk nJ pK)) else none else none else
  some (ah.mk eu eR eS cU eP,aS.mk gB ff iu (aQ.mk nJ pK)) else
  some (ah.mk eu eR eS cU eP,aS.mk gB ff iu (aQ.mk nJ pK))
def BV (eN:pQ):Nat→(List ak)→Int→Int→Int→Int→Int→Int→Int→(List UInt8)→(List ah)→Int→Int→Int→(List UInt8)→(List ah)→Int→Option (ah×aS)
 | 0,_,_,_,_,_,_,_,_,_,_,_,_,_,_,_,_=>none
 | k+1,gB,ff,iu,nJ,pK,level,vB,vC,vD,vA,vz,eu,eR,eS,cU,eP=>if 0≤ff then
  if ff<(gB.length:Int) then
  (BU level ((gB.getD ff.toNat ak.z).Text)).bind fun r3=>
  if r3=0 then
  some (ah.mk eu eR eS cU eP,aS.mk gB ff iu (aQ.mk nJ pK)) else
  if 0≤ff then
  if ff<(gB.length:Int) then
  (eN (aS.mk gB (au (ff+1)) iu (aQ.mk nJ pK)) (au (level+1))).bind fun r4=>
  if level=3 then
  some (ah.mk r3 0 [] [ah.mk eu eR eS cU eP,ah.mk r4.1.Kind r4.1.N r4.1.Name r4.1.Kids r4.1.At] ((gB.getD ff.toNat ak.z).At),r4.2) else
  nN eN k r4.2.l r4.2.aj r4.2.a_ r4.2.bad.Code r4.2.bad.At level vB vC vD vA vz r3 0 [] [ah.mk eu eR eS cU eP,ah.mk r4.1.Kind r4.1.N r4.1.Name r4.1.Kids r4.1.At] ((gB.getD ff.toNat ak.z).At) else none else none else none else none
end
def pP (eN:pQ) (k:Nat) (r_:aS) (level:Int):Option (ah×aS):=if level=6 then
 (xZ eN r_).bind fun r1=>
 some (ah.mk r1.1.Kind r1.1.N r1.1.Name r1.1.Kids r1.1.At,r1.2) else
 (eN r_ (au (level+1))).bind fun r2=>
 nN eN k r2.2.l r2.2.aj r2.2.a_ r2.2.bad.Code r2.2.bad.At level 0 0 [] [] 0 r2.1.Kind r2.1.N r2.1.Name r2.1.Kids r2.1.At
def fh:Nat→aS→Int→Option (ah×aS)
 | 0,_,_=>none
 | k+1,x0,x1=>pP (fh k) k x0 x1
abbrev N7:=(List Int)→Option Bool
abbrev N5 (f:N7):Entry S:=⟨4,[GD],[q3],fun x=>f x⟩
def nv:Nat→(List Int)→(List UInt8)→(List UInt8)→Int→Int→Option Bool
 | 0,_,_,_,_,_=>none
 | k+1,kinds,t,sg,aj,i=>if i<(kinds.length:Int) then
  if i=12 then
  if 0≤i then
  if i<(kinds.length:Int) then
  if ¬ (2:Int)=0 then
  if 0≤((kinds.getD i.toNat 0).tmod 2) then
  if ((kinds.getD i.toNat 0).tmod 2)<(gW.length:Int) then
  if t.length+(gW.getD ((kinds.getD i.toNat 0).tmod 2).toNat []).length≤9223372036854775807 then
  if (t++(gW.getD ((kinds.getD i.toNat 0).tmod 2).toNat [])).length+gF.length≤9223372036854775807 then
  if ((t++(gW.getD ((kinds.getD i.toNat 0).tmod 2).toNat []))++gF).length+(bytesOf [jw (au (97+i))]).length≤9223372036854775807 then
  if (((t++(gW.getD ((kinds.getD i.toNat 0).tmod 2).toNat []))++gF)++(bytesOf [jw (au (97+i))])).length+nY.length≤9223372036854775807 then
  if cw.length+sg.length≤9223372036854775807 then
  nv k kinds ((((t++(gW.getD ((kinds.getD i.toNat 0).tmod 2).toNat []))++gF)++(bytesOf [jw (au (97+i))]))++nY) (cw++sg) (t.length:Int) (au (i+1)) else none else none else none else none else none else none else none else none else none else none else
  if 0≤i then
  if i<(kinds.length:Int) then
  if ¬ (2:Int)=0 then
  if 0≤((kinds.getD i.toNat 0).tmod 2) then
  if ((kinds.getD i.toNat 0).tmod 2)<(gW.length:Int) then
  if t.length+(gW.getD ((kinds.getD i.toNat 0).tmod 2).toNat []).length≤9223372036854775807 then
  if (t++(gW.getD ((kinds.getD i.toNat 0).tmod 2).toNat [])).length+gF.length≤9223372036854775807 then
  if ((t++(gW.getD ((kinds.getD i.toNat 0).tmod 2).toNat []))++gF).length+(bytesOf [jw (au (97+i))]).length≤9223372036854775807 then
  if (((t++(gW.getD ((kinds.getD i.toNat 0).tmod 2).toNat []))++gF)++(bytesOf [jw (au (97+i))])).length+nY.length≤9223372036854775807 then
  if cw.length+sg.length≤9223372036854775807 then
  nv k kinds ((((t++(gW.getD ((kinds.getD i.toNat 0).tmod 2).toNat []))++gF)++(bytesOf [jw (au (97+i))]))++nY) (cw++sg) aj (au (i+1)) else none else none else none else none else none else none else none else none else none else none else
  if t.length+sg.length≤9223372036854775807 then
  (ij (t++sg)).bind fun r2=>
  if 12<(kinds.length:Int) then
  if r2.2.1.Code=14∧r2.2.1.At=aj then
  (pF).bind fun r3=>
  some r3 else
  some false else
  bif r2.2.2 then
  (pF).bind fun r4=>
  some r4 else
  some false else none
def xm (k:Nat) (kinds:List Int):Option Bool:=if 26<(kinds.length:Int) then
 (pF).bind fun r1=>
 some r1 else
 nv k kinds ym cw 0 0
def AX  (kinds:List Int):Option Bool:=cC (fun k (x:List Int)=>xm k x) kinds
theorem N6:aC Tryz.prog S (N5 (AX)):=iF (fun k x=>xm k x) (fun _=>rfl) fun k=>
 fF pk [FR pF,AY ij] ⟨N8,FT,trivial⟩ Tryz.func4 [] k (fun k=> [(0,⟨[0,3,4,5,6],[GD,q0,q0,q1,q1],fun x=>nv k x.1 x.2.1 x.2.2.1 x.2.2.2.1 x.2.2.2.2,false⟩)]) ⟨fun _=>rfl,trivial⟩ (fun _=>by kernel_rfl) (fun _=>by kernel_rfl) (by kernel_rfl)
end
end Go.Sy.Ex
namespace Go.Sy.Ex
open Go Go.Sy Go.Proofs Go.Proofs.YtaedejmdommaeaaGreatDoor
abbrev L7:List (String×DataW Unit):= [("math/bits.deBruijn32tab",Rows.laid_math_bits_deBruijn32tab),("math/bits.deBruijn64tab",Rows.laid_math_bits_deBruijn64tab),("internal/strconv.uint64pow10",Rows.laid_internal_strconv_uint64pow10),("strconv.ErrRange",Rows.laid_strconv_ErrRange),("strconv.ErrSyntax",Rows.laid_strconv_ErrSyntax)]
theorem EI:Tryz.prog.globalNamed "strconv.ErrRange" =some 5:=by kernel_rfl
theorem EJ:Tryz.prog.globalNamed "strconv.ErrSyntax" =some 4:=by kernel_rfl
theorem RN:(Tryz.prog.globals[5]?).map (·.type)=some 87:=by kernel_rfl
theorem RO:(Tryz.prog.globals[4]?).map (·.type)=some 87:=by kernel_rfl
theorem star: "*" ++ "errors.errorString" = "*errors.errorString" :=by decide
theorem GZ (u:TypeId) (h:Tryz.prog.typeName? 3 u=some "*errors.errorString"):u=248:=
 typeName_ptr_named (nm:= "errors.errorString") (by rw [star]; kernel_rfl) (by kernel_rfl) (by decide) u (by rw [star]; exact h)
theorem EK:Tryz.prog.globalNamed "internal/strconv.uint64pow10" =some 0:=by kernel_rfl
theorem RP:(Tryz.prog.globals[0]?).map (·.type)=some 184:=by kernel_rfl
theorem OW {W:World} (h:W.ShapedOpen Tryz.prog): ∃ m,W.cell? ⟨1,0,none⟩=some (.int .i64 m):=
 cell_of_shapedOpen_int (t:=3) (zero:= #[.int .i64 0]) h (of_decide_eq_true (by kernel_rfl)) (by kernel_rfl) rfl (by kernel_rfl) (by kernel_rfl) Tryz.underlying3
theorem L9 {W:World} {M:St} (hM:fS M) (hL:laidMetH Tryz.prog L7 W) (hsh:W.ShapedOpen Tryz.prog):gp S W M:=by
 rw [MakeChecks.laidMetH_plain _ _ _ (by kernel_rfl)] at hL
 have hT:Lib.TabIs Tryz.prog W "internal/strconv.uint64pow10" .u64 Lib.pow10Tab:=Lib.tabIs_of_head EK RP Tryz.underlying184 Tryz.underlying162 (by kernel_rfl) (by kernel_rfl) hL.tail.tail
 obtain ⟨a0,s0,hv0, -, -, -⟩:=laid_sentinel hL.tail.tail.tail EI RN Tryz.underlying87 GZ Tryz.underlying248 Tryz.underlying250 rfl rfl Tryz.underlying9 (by kernel_rfl) (by kernel_rfl)
 have c1:=World.var?_cell EI hv0 0
 obtain ⟨a1,s1,hv1, -, -, -⟩:=laid_sentinel hL.tail.tail.tail.tail EJ RO Tryz.underlying87 GZ Tryz.underlying248 Tryz.underlying250 rfl rfl Tryz.underlying9 (by kernel_rfl) (by kernel_rfl)
 have c0:=World.var?_cell EJ hv1 0
 obtain ⟨m,c3⟩:=OW hsh
 refine ⟨fun g hg=> ?_,fun g hg=> ?_⟩
 · simp only [List.mem_cons,List.not_mem_nil,or_false] at hg
   rcases hg with rfl | rfl | rfl
   · exact ⟨World.block_lt_of_cell? _ _ c3,hM _ _,_,c3,m,rfl⟩
   · exact ⟨World.block_lt_of_cell? _ _ (by simpa using c1),hM _ _,_,by simpa using c1, .inr ⟨_,_,rfl⟩⟩
   · exact ⟨World.block_lt_of_cell? _ _ (by simpa using c0),hM _ _,_,by simpa using c0, .inr ⟨_,_,rfl⟩⟩
 · simp only [List.mem_cons,List.not_mem_nil,or_false] at hg
   subst hg
   unfold Lib.TabIs World.var? at hT
   rw [EK] at hT
   simp only [Option.bind_some] at hT
   split at hT
   · rename_i cs t f hb
     cases hT
     exact ⟨(Array.getElem?_eq_some_iff.1 hb).1,fun o=>hM _ _,_,hb,t,f,rfl⟩
   · cases hT
end Go.Sy.Ex
namespace Go.Sy.Ex
open Go Go.Sy Go.Proofs Go.Proofs.YtaedejmdommaeaaGreatDoor Go.ChangeShapes Go.WideShapes Go.RowKit
theorem QG {H:Type} {enc:TypeId×Value→H} {a:Assume} {C:Checked} {os:Os} {f:FuncId} {fn:Func} {s:ChangeSpec} {conds:List PathCond} {apart fresh handsOn again:Bool} {X:World→Array Value→Prop}
 (hX: ∀ (w w':World) (args:Array Value),w.heap=w'.heap→X w args→X w' args)
 (own:ownKnob C.prog.godebug=none) (started:os.Started) (noInit:C.prog.inits.idxOf? f=none) (hfn:C.prog.funcs[f]? =some fn)
 (witness: ∃ (w:World) (tape:Tape) (i:Input),w.os=os∧(w.forCall tape i).Shaped C.prog∧i.vars= []∧Input.okWide C.prog (w.forCall tape i) .any w.heap.size f i∧
  ((s.pre enc C.prog fn conds apart (w.forCall tape i).memory i.args∧X (w.forCall tape i).memory i.args)∧sizedMet enc C.prog fn (OpenSpec.ofChange s) apart (w.forCall tape i).memory i.args)∧a.holds C.prog (lone (Frame.enter C.prog f i.args .normal) [] (w.forCall tape i)))
 (contract: ∀ (W:World) (base:Nat) (args:Array Value) (ds gs:List (DataW H)) (before:List MemPlace),
  (∀ (j:Nat) t v,fn.params[j]? =some t→args[j]? =some v→Value.okWide C.prog W .any base t v)→
  DataW.Whole enc C.prog fn.params.toList s.vars apart W args.toList ds gs before→
  conds.all (PathCond.test C.prog ⟨fn.params.toList,ds,s.plain.varTypes C.prog,gs⟩)=true→
  (DataW.weightsEach C.prog (fn.params.toList++s.plain.varTypes C.prog) (ds++gs)).all (· ≤reachBytes)=true→X W args→W.ShapedOpen C.prog→
  a.holds C.prog (lone (Frame.enter C.prog f args .normal) [] W)→
  Calls C.prog f args W fun e W'=> ∃ v,e= .returned v∧s.post enc C.prog fn apart fresh handsOn again W args v W'):
 ReturnsInHanded a C os f .any (fun w args=>(s.pre enc C.prog fn conds apart w args∧X w args)∧sizedMet enc C.prog fn (OpenSpec.ofChange s) apart w args) (s.post enc C.prog fn apart fresh handsOn again):=by
 refine returnsInHanded_of_calls own started noInit witness ?_
 intro w tape i _ hsh _ hok hpre hholds
 obtain ⟨_,_,_,fn',MS,_,_,_,_,hval⟩:=hok
 have e:fn'=fn:=Option.some.inj (MS.symm.trans hfn)
 subst e
 obtain ⟨⟨⟨ds,gs,before,hw,hc⟩,hx⟩,hz⟩:=hpre
 have hw':=DataW.Whole.of_heap (w':=w.forCall tape i) (by rfl) hw
 refine (contract (w.forCall tape i) w.heap.size i.args ds gs before hval hw' hc (hz.weights hw) (hX _ _ _ (by rfl) hx) hsh hholds).mono fun e W' ⟨v,he,hp⟩=> ?_
 subst he
 exact ChangeSpec.post_blind hp
set_option maxRecDepth 100000 in
theorem Lj (os:Os) (args:Array Value):laidMetH Tryz.prog L7 ((World.laidAll Tryz.prog os L7).forCall (fun _ _=>0) ⟨#[],args,[]⟩).memory:=by
 rw [MakeChecks.laidMetH_plain _ _ _ (by kernel_rfl)]
 exact laidMet_laidAll _ (by kernel_rfl) (by kernel_rfl)
end Go.Sy.Ex
namespace Go.Sy.Ex
open Go.Sy
theorem Ih (b:UInt8):((b.toNat:Nat):Int).toNat.toUInt8=b:=by
 rw [Int.toNat_natCast]; exact UInt8.ofNat_toNat
theorem J1 (b:UInt8):(0≤Lib.indexByte yy b)↔((b.toNat:Int)=32∨(b.toNat:Int)=9∨(b.toNat:Int)=10∨(b.toNat:Int)=13):=by
 have h: ∀ n,n<256→((0≤Lib.indexByte yy (Nat.toUInt8 n))↔(((Nat.toUInt8 n).toNat:Int)=32∨((Nat.toUInt8 n).toNat:Int)=9∨((Nat.toUInt8 n).toNat:Int)=10∨((Nat.toUInt8 n).toNat:Int)=13)):=by decide+kernel
 have :=h b.toNat b.toNat_lt
 rwa [show Nat.toUInt8 b.toNat=b from UInt8.ofNat_toNat] at this
def isDigit (c:Int):Bool:=decide (48≤c∧c≤57)
def pq (c:Int):Bool:=decide ((97≤c∧c≤122)∨(65≤c∧c≤90)∨c=95)
theorem AV (c:Int):nA c=some (pq c||isDigit c,isDigit c):=by
 have fin: ∀ a b:Bool,((a=true)↔((97≤c∧c≤122)∨(65≤c∧c≤90)∨c=95)∨(48≤c∧c≤57))→((b=true)↔(48≤c∧c≤57))→some (a,b)=some (pq c||isDigit c,isDigit c):=by
  intro a b ha hb
  have e1:a=(pq c||isDigit c):=by
   rw [Bool.eq_iff_iff,ha]; simp [pq,isDigit]
  have e2:b=isDigit c:=by
   rw [Bool.eq_iff_iff,hb]; simp [isDigit]
  rw [e1,e2]
 unfold nA
 repeat' split
 all_goals
  refine fin _ _ ?_ ?_
  · constructor
    · intro h; first | omega | (cases h)
    · intro h; first | rfl | (exfalso; omega)
  · constructor
    · intro h; first | omega | (cases h)
    · intro h; first | rfl | (exfalso; omega)
def cm:Bool→List UInt8→Nat→Nat
 | _,[],n=>n
 | true,b::t,n=>if b=10 then cm false t (n+1) else cm true t (n+1)
 | false,b::t,n=>if b=32∨b=9∨b=10∨b=13 then cm false t (n+1) else if b=35 then cm true t (n+1) else n
theorem yE: ∀ (t:List UInt8) (r:Bool) (n:Nat),n≤cm r t n∧cm r t n≤n+t.length:=by
 intro t
 induction t with
 | nil=>intro r n; cases r <;> exact ⟨Nat.le_refl _,Nat.le_refl _⟩
 | cons b t ih=>
  intro r n
  have h1:=ih true (n+1)
  have h2:=ih false (n+1)
  cases r
  · simp only [cm,List.length_cons]
    split
    · omega
    · split
      · omega
      · omega
  · simp only [cm,List.length_cons]
    split <;> omega
theorem p5 (b:UInt8) (n:Nat) (hn:n<256):((b.toNat:Int)=(n:Int))↔b=Nat.toUInt8 n:=by
 constructor
 · intro h
   refine UInt8.toNat_inj.1 ?_
   have :(Nat.toUInt8 n).toNat=n:=by
    show n % 256=n
    omega
   omega
 · rintro rfl
   have :(Nat.toUInt8 n).toNat=n:=by
    show n % 256=n
    omega
   omega
theorem Ry (t:List UInt8) (hl:t.length<200000000000000): ∀ m n,n+m=t.length→(∀ k,3*m+1≤k→kG k t ((n:Nat):Int)=some ((cm false (t.drop n) n:Nat):Int))∧ ∀ k,3*m+2≤k→nB k t ((n:Nat):Int)=some ((cm true (t.drop n) n:Nat):Int):=by
 intro m
 induction m with
 | zero=>
  intro n h
  have hd:t.drop n= []:=List.drop_eq_nil_of_le (by omega)
  have h0: ∀ k,1≤k→kG k t ((n:Nat):Int)=some ((cm false (t.drop n) n:Nat):Int):=by
   intro k hk
   obtain ⟨k,rfl⟩: ∃ j,k=j+1:=⟨k - 1,by omega⟩
   simp only [kG]
   rw [if_neg (by omega),hd]; rfl
  refine ⟨fun k hk=>h0 k (by omega),fun k hk=> ?_⟩
  obtain ⟨k,rfl⟩: ∃ j,k=j+1:=⟨k - 1,by omega⟩
  simp only [nB]
  rw [if_neg (by omega),h0 k (by omega),hd]; rfl
 | succ m ih=>
  intro n h
  have hlt:n<t.length:=by omega
  obtain ⟨i0,i1⟩:=ih (n+1) (by omega)
  have e:au ((n:Int)+1)=((n+1:Nat):Int):=by rw [dr (by omega) (by omega)]; omega
  have hd:t.drop n=t[n]::t.drop (n+1):=List.drop_eq_getElem_cons hlt
  have zi:((t[n].toNat:Nat):Int)=10↔t[n]=10:=p5 t[n] 10 (by decide)
  have Kl:((t[n].toNat:Nat):Int)=32↔t[n]=32:=p5 t[n] 32 (by decide)
  have c9:((t[n].toNat:Nat):Int)=9↔t[n]=9:=p5 t[n] 9 (by decide)
  have Kk:((t[n].toNat:Nat):Int)=13↔t[n]=13:=p5 t[n] 13 (by decide)
  have Dp:((t[n].toNat:Nat):Int)=35↔t[n]=35:=p5 t[n] 35 (by decide)
  have h0: ∀ k,3*(m+1)+1≤k→kG k t ((n:Nat):Int)=some ((cm false (t.drop n) n:Nat):Int):=by
   intro k hk
   obtain ⟨k,rfl⟩: ∃ j,k=j+1:=⟨k - 1,by omega⟩
   have g1:(n:Int)<(t.length:Int):=by omega
   have g0:0≤(n:Int):=by omega
   have l1:t[n]=35→nB k t ((n:Nat):Int)=some ((cm true (t.drop (n+1)) (n+1):Nat):Int):=by
    intro hb
    obtain ⟨k,rfl⟩: ∃ j,k=j+1:=⟨k - 1,by omega⟩
    simp only [nB]
    rw [if_pos g1,if_pos g0,if_pos g1,Int.toNat_natCast,hY _ hlt,if_pos (by rw [hb]; decide),e]
    exact i1 k (by omega)
   simp only [kG,nE,af,Ih]
   simp only [g0,g1,if_true,Int.toNat_natCast,hY _ hlt,e]
   rw [hd,i0 k (by omega)]
   simp only [cm]
   have hb:=J1 t[n]
   rw [Kl,c9,zi,Kk] at hb
   by_cases hx:0≤Lib.indexByte yy t[n]
   · rw [if_pos hx,if_pos (hb.1 hx)]
   · rw [if_neg hx,if_neg (fun q=>hx (hb.2 q))]
     by_cases sN:t[n]=35
     · rw [if_pos (Dp.2 sN),if_pos sN,l1 sN]
     · rw [if_neg (fun q=>sN (Dp.1 q)),if_neg sN]
  refine ⟨h0,fun k hk=> ?_⟩
  obtain ⟨k,rfl⟩: ∃ j,k=j+1:=⟨k - 1,by omega⟩
  simp only [nB]
  rw [if_pos (by omega),if_pos (by omega),if_pos (by omega),Int.toNat_natCast,hY _ hlt,e]
  by_cases sM:t[n]=10
  · rw [if_neg (fun q=>q (zi.2 sM)),h0 k (by omega),hd]
    simp only [cm]
    rw [if_pos (.inr (.inr (.inl sM))),if_pos sM]
  · rw [if_pos (fun q=>sM (zi.1 q)),i1 k (by omega),hd]
    simp only [cm]
    rw [if_neg sM]
def dg (b:UInt8):Bool:=isDigit (b.toNat:Int)
def lt (b:UInt8):Bool:=pq (b.toNat:Int)
def nm (b:UInt8):Bool:=lt b||dg b
def dw (p:UInt8→Bool) (t:List UInt8) (n:Nat):Nat:=n+((t.drop n).takeWhile p).length
theorem QU {p:UInt8→Bool} {t:List UInt8} {n:Nat} (h:t.length≤n):dw p t n=n:=by
 unfold dw; rw [List.drop_eq_nil_of_le h]; rfl
theorem B4 {p:UInt8→Bool} {t:List UInt8} {n:Nat} (h:n<t.length) (hp:p t[n]=true):dw p t n=dw p t (n+1):=by
 unfold dw; rw [List.drop_eq_getElem_cons h,List.takeWhile_cons_of_pos hp]; simp only [List.length_cons]; omega
theorem QO {p:UInt8→Bool} {t:List UInt8} {n:Nat} (h:n<t.length) (hp:p t[n]=false):dw p t n=n:=by
 unfold dw; rw [List.drop_eq_getElem_cons h,List.takeWhile_cons_of_neg (by simp [hp])]; rfl
theorem vn (p:UInt8→Bool): ∀ l:List UInt8,(l.takeWhile p).length≤l.length:=fun l=>by
 induction l with
 | nil=>exact Nat.le_refl _
 | cons a l ih=>rw [List.takeWhile_cons]; split <;> simp <;> omega
theorem rC (p:UInt8→Bool) (t:List UInt8) (n:Nat) (h:n≤t.length):n≤dw p t n∧dw p t n≤t.length:=by
 unfold dw
 have :=vn p (t.drop n)
 rw [List.length_drop] at this
 omega
theorem wC (p:UInt8→Bool) (t:List UInt8) (n:Nat):cut t ((n:Nat):Int) ((dw p t n:Nat):Int)=(t.drop n).takeWhile p:=by
 unfold cut dw
 rw [Int.toNat_natCast,Int.toNat_natCast,List.drop_take,Nat.add_sub_cancel_left]
 generalize t.drop n=l
 induction l with
 | nil=>rfl
 | cons a l ih => rw [List.takeWhile_cons]; split
                  · rw [List.length_cons,List.take_succ_cons,ih]
                  · rfl
theorem Ls (t:List UInt8) (f:Bool) (hl:t.length<200000000000000): ∀ m n,n+m=t.length→ ∀ k,m+1≤k→pH k t ((n:Nat):Int) f=some ((dw (fun b=>bif f then dg b else nm b) t n:Nat):Int):=by
 intro m
 induction m with
 | zero=>
  intro n h k hk
  obtain ⟨k,rfl⟩: ∃ j,k=j+1:=⟨k - 1,by omega⟩
  simp only [pH]
  rw [if_neg (by omega),QU (by omega)]
 | succ m ih=>
  intro n h k hk
  obtain ⟨k,rfl⟩: ∃ j,k=j+1:=⟨k - 1,by omega⟩
  have hlt:n<t.length:=by omega
  have e:au ((n:Int)+1)=((n+1:Nat):Int):=by rw [dr (by omega) (by omega)]; omega
  simp only [pH,AV,af]
  rw [if_pos (by omega),if_pos (by omega),if_pos (by omega),Int.toNat_natCast,hY _ hlt,e,ih (n+1) (by omega) k (by omega)]
  have key: ∀ a b:Bool,lt t[n]=a→dg t[n]=b→(bif !(a||b) then some ((n:Nat):Int) else bif f then bif !b then some ((n:Nat):Int) else some ((dw (fun b=>bif f then dg b else nm b) t (n+1):Nat):Int) else some ((dw (fun b=>bif f then dg b else nm b) t (n+1):Nat):Int))=some ((dw (fun b=>bif f then dg b else nm b) t n:Nat):Int):=by
   intro a b ha hb
   cases f <;> cases a <;> cases b <;> simp only [Bool.or_self,Bool.not_true,Bool.not_false,Bool.or_true,Bool.true_or,Bool.or_false,Bool.false_or,cond_true,cond_false]
   all_goals
    first
     | (rw [QO hlt ?_]; simp [nm,ha,hb]; done)
     | (rw [B4 hlt ?_]; simp [nm,ha,hb]; done)
  exact key _ _ rfl rfl
theorem Lr (t:List UInt8) (n:Nat) (hl:t.length<200000000000000) (h:n<t.length):uB t ((n:Nat):Int)=some ((dw (fun b=>bif dg t[n] then dg b else nm b) t n:Nat):Int):=by
 refine cX (t.length - n+1) fun k hk=> ?_
 simp only [A7,AV,af]
 rw [if_pos (by omega),if_pos (by omega),Int.toNat_natCast,hY _ h]
 exact Ls t _ hl (t.length - n) n (by omega) k (by omega)
def si (acc:Nat):List UInt8→Option Nat
 | []=>some acc
 | c::r=>if (9223372036854775807 - (c.toNat - 48)) / 10<acc then none else si (10*acc+(c.toNat - 48)) r
theorem wH (b:UInt8):dg b=true↔48≤b.toNat∧b.toNat≤57:=by
 unfold dg isDigit
 rw [decide_eq_true_eq]
 omega
theorem JZ: ∀ (l:List UInt8) (acc:Nat),(∀ c ∈ l,dg c=true)→9223372036854775808≤acc→Lib.parseUintM (2 ^ 64 - 1) acc l= .range∨ ∃ u,9223372036854775808≤u∧Lib.parseUintM (2 ^ 64 - 1) acc l= .ok u:=by
 intro l acc hd ha
 cases l with
 | nil=>exact .inr ⟨acc,ha,rfl⟩
 | cons c r=>
  refine .inl ?_
  have :=(wH c).1 (hd c (by simp))
  unfold Lib.parseUintM
  rw [if_pos this,if_pos (by omega)]
theorem SN: ∀ (l:List UInt8) (acc:Nat),(∀ c ∈ l,dg c=true)→acc<9223372036854775808→
 (∀ v,si acc l=some v→v<9223372036854775808∧Lib.parseUintM (2 ^ 64 - 1) acc l= .ok v)∧(si acc l=none→Lib.parseUintM (2 ^ 64 - 1) acc l= .range∨ ∃ u,9223372036854775808≤u∧Lib.parseUintM (2 ^ 64 - 1) acc l= .ok u):=by
 intro l
 induction l with
 | nil=>intro acc _ ha; exact ⟨fun v h=>by cases h; exact ⟨ha,rfl⟩,fun h=>by cases h⟩
 | cons c r ih=>
  intro acc hd ha
  have hc:=(wH c).1 (hd c (by simp))
  have hr: ∀ c ∈ r,dg c=true:=fun x hx=>hd x (by simp [hx])
  unfold si Lib.parseUintM
  rw [if_pos hc]
  by_cases h:(9223372036854775807 - (c.toNat - 48)) / 10<acc
  · rw [if_pos h]
    refine ⟨fun v h=>by (cases h),fun _=> ?_⟩
    by_cases h1:1844674407370955162≤acc
    · rw [if_pos h1]; exact .inl rfl
    · rw [if_neg h1]
      by_cases h2:2 ^ 64 - 1<acc*10+(c.toNat - 48)
      · rw [if_pos h2]; exact .inl rfl
      · rw [if_neg h2]
        exact JZ r _ hr (by omega)
  · rw [if_neg h,if_neg (by omega),if_neg (by omega),show acc*10+(c.toNat - 48)=10*acc+(c.toNat - 48) by omega]
    exact ih _ hr (by omega)
def lW (l:List UInt8):Int×Int:=if 1<l.length∧l.getD 0 0=48 then (0,11) else match si 0 l with | some v=>((v:Int),0) | none=>(0,16)
def numOf (l:List UInt8):Int×Int:=
 if (1<l.length∧l.getD 0 0=48) then (0,11) else match Lib.parseIntB 64 l with
  | .ok v=>(v,0)
  | _=>(0,16)
theorem O_ (l:List UInt8) (hl:l.length≤281474976710656):uC l=some (numOf l):=by
 have key:((nF l 10 64).bind fun r1=>bif !r1.2 then some ((0:Int),(16:Int)) else some (r1.1,0))=some (match Lib.parseIntB 64 l with
  | .ok v=>(v,0)
  | _=>(0,16)):=by
  unfold nF
  rw [if_pos ⟨hl,rfl,rfl⟩,af]
  cases Lib.parseIntB 64 l <;> rfl
 have h0:(((l.getD (0:Int).toNat 0).toNat:Nat):Int)=48↔l.getD 0 0=48:=p5 _ 48 (by decide)
 unfold uC numOf
 by_cases h1:1<l.length
 · rw [if_pos (by omega),if_pos (by omega),if_pos (by omega)]
   by_cases h2:l.getD 0 0=48
   · rw [if_pos (h0.2 h2),if_pos ⟨h1,h2⟩]
   · rw [if_neg (fun q=>h2 (h0.1 q)),if_neg (fun q=>h2 q.2),key]
 · rw [if_neg (by omega),if_neg (fun q=>h1 q.1),key]
theorem Gh (l:List UInt8) (h0:l≠ []) (hd: ∀ c ∈ l,dg c=true):numOf l=lW l:=by
 unfold numOf lW
 by_cases h:1<l.length∧l.getD 0 0=48
 · rw [if_pos h,if_pos h]
 · rw [if_neg h,if_neg h]
   obtain ⟨c,r,rfl⟩: ∃ c r,l=c::r:=by cases l with
    | nil=>exact absurd rfl h0
    | cons c r=>exact ⟨c,r,rfl⟩
   have hc:=(wH c).1 (hd c (by simp))
   obtain ⟨v1,v2⟩:=SN (c::r) 0 hd (by omega)
   have e:(∀ u,Lib.parseUintM (2 ^ 64 - 1) 0 (c::r)= .ok u→Lib.parseIntB 64 (c::r)=if 9223372036854775808≤u then .range else .ok (u:Int))∧(Lib.parseUintM (2 ^ 64 - 1) 0 (c::r)= .range→Lib.parseIntB 64 (c::r)= .range):=by
    unfold Lib.parseIntB Lib.parseUintB
    simp only []
    rw [if_neg (show ¬ (c.toNat=43∨c.toNat=45) by omega),if_neg (by simp)]
    constructor
    · intro u hu
      rw [hu]
      simp only [show ¬ c.toNat=45 by omega,not_false_eq_true,true_and,false_and,if_false]
    · intro hu
      rw [hu]
   cases hv:si 0 (c::r) with
   | some v=>
    obtain ⟨a,b⟩:=v1 v hv
    rw [e.1 v b,if_neg (by omega)]
   | none=>
    rcases v2 hv with b | ⟨u,a,b⟩
    · rw [e.2 b]
    · rw [e.1 u b,if_pos a]
def gA:List (List UInt8):= [[45,62],[61,61],[33,61],[60,61],[62,61],[38,38],[124,124]]
def dK:List UInt8→Nat
 | []=>0
 | [b]=>if b ∈ jr then 1 else 0
 | b::c::_=>if [b,c] ∈ gA then 2 else if b ∈ jr then 1 else 0
theorem NR (l:List UInt8) (c:UInt8):0≤Lib.indexByte l c↔c ∈ l:=by
 induction l with
 | nil=>simp [Lib.indexByte]
 | cons b l ih=>
  unfold Lib.indexByte
  have hge:=Lib.indexByte_ge l c
  by_cases h:b=c
  · subst h; simp
  · rw [if_neg (by simpa using h)]
    rw [List.mem_cons]
    by_cases h1:Lib.indexByte l c= -1
    · rw [if_pos (by simp [h1])]
      constructor
      · intro x; omega
      · rintro (rfl | x)
        · exact absurd rfl h
        · have :=ih.2 x; omega
    · rw [if_neg (by simpa using h1)]
      constructor
      · intro x; exact .inr (ih.1 (by omega))
      · rintro (rfl | x)
        · exact absurd rfl h
        · have :=ih.2 x; omega
theorem contains_iff (s sub:List UInt8):Lib.contains s sub=true↔ ∃ i,i≤s.length∧Lib.occAt s sub i=true:=by
 unfold Lib.contains
 rw [decide_eq_true_eq]
 rcases Lib.index_spec s sub with ⟨h1,h2⟩ | ⟨i,h1,h2,h3,_⟩
 · constructor
   · intro h; omega
   · rintro ⟨i,hi,h⟩; rw [h2 i hi] at h; cases h
 · exact ⟨fun _=>⟨i,h2,h3⟩,fun _=>by omega⟩
theorem Pk (b c:UInt8) (hb:b≠32) (hc:c≠32):Lib.contains Hj [b,c]=decide ([b,c] ∈ gA):=by
 rw [Bool.eq_iff_iff,contains_iff,decide_eq_true_eq]
 constructor
 · rintro ⟨i,hi,h⟩
   have hi':i=0∨i=1∨i=2∨i=3∨i=4∨i=5∨i=6∨i=7∨i=8∨i=9∨i=10∨i=11∨i=12∨i=13∨i=14∨i=15∨i=16∨i=17∨i=18∨i=19∨i=20:=by
    have :i≤20:=hi
    omega
   clear hi
   rcases hi' with rfl | rfl | rfl | rfl | rfl | rfl | rfl | rfl | rfl | rfl | rfl | rfl | rfl | rfl | rfl | rfl | rfl | rfl | rfl | rfl | rfl
   all_goals
    simp only [Lib.occAt,List.drop_succ_cons,List.drop_zero,List.drop_nil,List.isPrefixOf,Bool.and_true,Bool.and_eq_true,beq_iff_eq,Bool.and_false,Bool.false_eq_true,and_false] at h
   all_goals
    first
     | exact absurd h.1 hb
     | exact absurd h.2 hc
     | (obtain ⟨rfl,rfl⟩:=h; decide)
 · intro h
   simp only [gA,List.mem_cons,List.cons.injEq,and_true,List.not_mem_nil,or_false] at h
   rcases h with ⟨rfl,rfl⟩ | ⟨rfl,rfl⟩ | ⟨rfl,rfl⟩ | ⟨rfl,rfl⟩ | ⟨rfl,rfl⟩ | ⟨rfl,rfl⟩ | ⟨rfl,rfl⟩
   · exact ⟨0,by decide,by decide⟩
   · exact ⟨3,by decide,by decide⟩
   · exact ⟨6,by decide,by decide⟩
   · exact ⟨9,by decide,by decide⟩
   · exact ⟨12,by decide,by decide⟩
   · exact ⟨15,by decide,by decide⟩
   · exact ⟨18,by decide,by decide⟩
theorem K9 (t:List UInt8) (n:Nat) (h:n+1<t.length):cut t ((n:Nat):Int) ((n+2:Nat):Int)= [t[n],t[n+1]]:=by
 unfold cut
 rw [Int.toNat_natCast,Int.toNat_natCast,List.drop_take,Nat.add_sub_cancel_left,List.drop_eq_getElem_cons (by omega:n<t.length),List.drop_eq_getElem_cons h]
 rfl
theorem Rs (t:List UInt8) (n:Nat) (h:n+1<t.length):dK (t.drop n)=if [t[n],t[n+1]] ∈ gA then 2 else if t[n] ∈ jr then 1 else 0:=by
 rw [List.drop_eq_getElem_cons (by omega:n<t.length),List.drop_eq_getElem_cons h]; rfl
theorem Rr (t:List UInt8) (n:Nat) (h:n+1=t.length):dK (t.drop n)=if t[n] ∈ jr then 1 else 0:=by
 rw [List.drop_eq_getElem_cons (by omega:n<t.length),List.drop_eq_nil_of_le (by omega)]; rfl
theorem O7 (b:UInt8): [b,(32:UInt8)] ∉ gA:=by
 simp only [gA,List.mem_cons,List.cons.injEq,and_true,List.not_mem_nil,or_false]
 rintro (⟨_,h⟩ | ⟨_,h⟩ | ⟨_,h⟩ | ⟨_,h⟩ | ⟨_,h⟩ | ⟨_,h⟩ | ⟨_,h⟩) <;> revert h <;> decide
theorem SJ (b:UInt8):b.toNat.toUInt8=b:=UInt8.ofNat_toNat
theorem OR (t:List UInt8) (n:Nat) (hl:t.length<200000000000000) (h:n<t.length) (hb:t[n]≠32):uD t ((n:Nat):Int)=some ((n+dK (t.drop n):Nat):Int):=by
 have e1:au ((n:Int)+1)=((n+1:Nat):Int):=by rw [dr (by omega) (by omega)]; omega
 have e2:au ((n:Int)+2)=((n+2:Nat):Int):=by rw [dr (by omega) (by omega)]; omega
 unfold uD
 simp only [nE,qU,af,Ih,e1,e2,Int.toNat_natCast,hY _ h,NR,SJ]
 have hone:(if t[n] ∈ jr then some ((n+1:Nat):Int) else some ((n:Nat):Int))=some ((n+(if t[n] ∈ jr then 1 else 0):Nat):Int):=by
  split <;> rfl
 by_cases h1:n+1<t.length
 · rw [if_pos (by omega),if_pos (by omega),if_pos (by omega),hY _ h1,Rs t n h1]
   by_cases hc:t[n+1]=32
   · rw [if_neg (by rw [hc]; decide),if_pos (by omega),if_pos (by omega),hc,if_neg (O7 _),hone]
   · have fI:((t[n+1].toNat:Nat):Int)≠32:=fun q=>hc ((p5 _ 32 (by decide)).1 q)
     rw [if_pos fI,if_pos (by omega),if_pos (by omega),if_pos (by omega),if_pos (by omega),K9 t n h1,if_pos (by decide),af,Pk _ _ hb hc]
     by_cases hp: [t[n],t[n+1]] ∈ gA
     · rw [if_pos hp,decide_eq_true hp]; rfl
     · rw [if_neg hp,decide_eq_false hp,cond_false,if_pos (by omega),if_pos (by omega),hone]
 · rw [if_neg (by omega),if_pos (by omega),if_pos (by omega),Rr t n (by omega),hone]
def eo (t:List UInt8) (n:Nat):ak×Int:=
 if dg (t.getD n 0) then
  (let r:=lW ((t.drop n).takeWhile dg)
   if r.2≠0 then (ak.mk 0 0 0 [] 0,r.2) else (ak.mk 2 n (dw dg t n:Nat) ((t.drop n).takeWhile dg) r.1,0))
 else if lt (t.getD n 0) then
  (if n+24<dw nm t n then (ak.mk 0 0 0 [] 0,13) else (ak.mk 1 n (dw nm t n:Nat) ((t.drop n).takeWhile nm) 0,0))
 else if dK (t.drop n)=0 then (ak.mk 0 0 0 [] 0,10)
 else (ak.mk 3 n (n+dK (t.drop n):Nat) ((t.drop n).take (dK (t.drop n))) 0,0)
theorem vh (t:List UInt8):dK t≤t.length:=by
 unfold dK
 split
 · exact Nat.le_refl _
 · split <;> simp
 · split
   · simp
   · split <;> simp
theorem DR (t:List UInt8) (n j:Nat):cut t ((n:Nat):Int) ((n+j:Nat):Int)=(t.drop n).take j:=by
 unfold cut
 rw [Int.toNat_natCast,Int.toNat_natCast,List.drop_take,Nat.add_sub_cancel_left]
theorem H8 (p:UInt8→Bool): ∀ l:List UInt8, ∀ c ∈ l.takeWhile p,p c=true:=by
 intro l
 induction l with
 | nil=>intro c hc; cases hc
 | cons a l ih=>
  intro c hc
  rw [List.takeWhile_cons] at hc
  split at hc
  · rcases List.mem_cons.1 hc with rfl | h
    · assumption
    · exact ih c h
  · cases hc
theorem O9 (t:List UInt8) (n:Nat) (h:n<t.length) (hd:dg t[n]=true):numOf ((t.drop n).takeWhile dg)=lW ((t.drop n).takeWhile dg):=by
 refine Gh _ ?_ ?_
 · rw [List.drop_eq_getElem_cons h,List.takeWhile_cons_of_pos hd]; exact List.cons_ne_nil _ _
 · intro c hc; exact H8 _ _ c hc
theorem OS (t:List UInt8) (n:Nat) (hl:t.length<200000000000000) (h:n<t.length) (hb:t[n]≠32):uF t ((n:Nat):Int)=some (eo t n):=by
 unfold uF eo
 simp only [AV,af,Int.toNat_natCast,hY _ h,Lr t n hl h,OR t n hl h hb]
 have g0:(0:Int)≤(n:Int):=by omega
 have g1:(n:Int)<(t.length:Int):=by omega
 rw [if_pos g0,if_pos g1]
 have MI:isDigit ((t[n].toNat:Nat):Int)=dg t[n]:=rfl
 have hlt:pq ((t[n].toNat:Nat):Int)=lt t[n]:=rfl
 rw [MI,hlt]
 cases hd:dg t[n] with
 | true=>
  have r:=rC dg t n (by omega)
  simp only [cond_true,if_true]
  rw [show (fun b=>dg b)=dg from rfl,if_pos (by omega),if_pos (by omega),if_pos (by omega),if_pos (by omega)]
  have hc:cut t ((n:Nat):Int) ((dw dg t n:Nat):Int)=(t.drop n).takeWhile dg:=wC dg t n
  have hlen:((t.drop n).takeWhile dg).length≤281474976710656:=by
   have :=vn dg (t.drop n); rw [List.length_drop] at this; omega
  rw [hc,O_ _ hlen,af,O9 t n h hd]
  by_cases hz:(lW ((t.drop n).takeWhile dg)).2≠0
  · rw [if_pos hz,if_pos hz]
  · rw [if_neg hz,if_neg hz,if_pos (by omega),if_pos (by omega),if_pos (by omega),if_pos (by omega)]
 | false=>
  simp only [cond_false,Bool.or_false,if_false,Bool.false_eq_true]
  cases hL:lt t[n] with
  | true=>
   have r:=rC nm t n (by omega)
   have hc:cut t ((n:Nat):Int) ((dw nm t n:Nat):Int)=(t.drop n).takeWhile nm:=wC nm t n
   simp only [cond_true,if_true]
   rw [show (fun b=>nm b)=nm from rfl,hc,dr (by omega) (by omega)]
   by_cases tI:n+24<dw nm t n
   · rw [if_pos (by omega),if_pos tI]
   · rw [if_neg (by omega),if_neg tI,if_pos (by omega),if_pos (by omega),if_pos (by omega),if_pos (by omega)]
  | false=>
   simp only [cond_false,if_false,Bool.false_eq_true]
   have hs:=vh (t.drop n)
   rw [List.length_drop] at hs
   rw [DR]
   by_cases hz:dK (t.drop n)=0
   · rw [if_pos (by omega),if_pos hz]
   · rw [if_neg (by omega),if_neg hz,if_pos (by omega),if_pos (by omega),if_pos (by omega),if_pos (by omega)]
theorem Li (b:UInt8) (h:lt b=true):dg b=false:=by
 unfold lt pq at h
 unfold dg isDigit
 rw [decide_eq_true_eq] at h
 rw [decide_eq_false_iff_not]
 omega
theorem F9 (t:List UInt8) (n:Nat) (hl:t.length<200000000000000) (h:n≤t.length):uE t ((n:Nat):Int)=some ((cm false (t.drop n) n:Nat):Int):=
 cX (3*(t.length - n)+1) fun k hk=>(Ry t hl (t.length - n) n (by omega)).1 k hk
theorem Rw: ∀ (u:List UInt8) (r:Bool) (n j:Nat),cm r u n=n+j→j<u.length→u.getD j 0≠32:=by
 intro u
 induction u with
 | nil=>intro r n j _ h; simp at h
 | cons b u ih=>
  intro r n j hj h
  have go: ∀ r',cm r' u (n+1)=n+j→(b::u).getD j 0≠32:=by
   intro r' h'
   have :=(yE u r' (n+1)).1
   obtain ⟨j,rfl⟩: ∃ i,j=i+1:=⟨j - 1,by omega⟩
   rw [List.getD_cons_succ]
   refine ih r' (n+1) j (by omega) (by simpa using h)
  cases r with
  | true=>
   simp only [cm] at hj
   split at hj
   · exact go _ hj
   · exact go _ hj
  | false=>
   simp only [cm] at hj
   split at hj
   · exact go _ hj
   · split at hj
     · exact go _ hj
     · rename_i h1 h2
       obtain rfl:j=0:=by omega
       intro q
       exact h1 (.inl q)
theorem HT (t:List UInt8) (n:Nat) (h:n<t.length) (hz:(eo t n).2=0): ∃ e:Nat,(eo t n).1.End=(e:Int)∧n<e∧e≤t.length∧(eo t n).1.At=(n:Int)∧(eo t n).1.Text=cut t ((n:Nat):Int) ((e:Nat):Int)∧(eo t n).1.Kind≠4:=by
 revert hz
 unfold eo
 rw [hY _ h]
 by_cases hD:dg t[n]=true
 · rw [if_pos hD]
   simp only []
   split
   · intro hz; rename_i q; exact absurd hz q
   · intro _
     refine ⟨dw dg t n,rfl, ?_,(rC dg t n (by omega)).2,rfl,(wC dg t n).symm,fun q=>absurd (show (2:Int)=4 from q) (by decide)⟩
     rw [B4 h hD]; exact (rC dg t (n+1) (by omega)).1
 · rw [if_neg hD]
   by_cases hL:lt t[n]=true
   · rw [if_pos hL]
     split
     · intro hz; exact absurd hz (by decide)
     · intro _
       refine ⟨dw nm t n,rfl, ?_,(rC nm t n (by omega)).2,rfl,(wC nm t n).symm,fun q=>absurd (show (1:Int)=4 from q) (by decide)⟩
       rw [B4 h (by simp [nm,hL])]; exact (rC nm t (n+1) (by omega)).1
   · rw [if_neg hL]
     have hs:=vh (t.drop n)
     rw [List.length_drop] at hs
     split
     · intro hz; exact absurd hz (by decide)
     · intro _
       exact ⟨n+dK (t.drop n),rfl,by omega,by omega,rfl,(DR t n _).symm,fun q=>absurd (show (3:Int)=4 from q) (by decide)⟩
def lA:Nat→List UInt8→List ak→Nat→List ak×aQ
 | 0,_,_,_=>([],aQ.mk 0 0)
 | k+1,t,l,n=>if n<t.length then
  (if (eo t n).2≠0 then ([],aQ.mk (eo t n).2 n) else lA k t (l++ [(eo t n).1]) (cm false (t.drop (eo t n).1.End.toNat) (eo t n).1.End.toNat))
  else (l++ [ak.mk 4 n n [] 0],aQ.mk 0 0)
def mS (t:List UInt8):List ak×aQ:=
 if 16384<t.length then ([],aQ.mk 13 16384) else lA (t.length+1) t [] (cm false t 0)
theorem EE (t:List UInt8) (n:Nat) (h:n≤t.length) (hs:cm false (t.drop n) n<t.length):t[cm false (t.drop n) n]≠32:=by
 have h1:=(yE (t.drop n) false n).1
 have :=Rw (t.drop n) false n (cm false (t.drop n) n - n) (by omega) (by rw [List.length_drop]; omega)
 rw [hY _ (by rw [List.length_drop]; omega),List.getElem_drop] at this
 have e:n+(cm false (t.drop n) n - n)=cm false (t.drop n) n:=by omega
 simpa only [e] using this
theorem JI (t:List UInt8) (hl:t.length≤16384): ∀ m n,t.length≤n+m→n≤t.length→(∀ h:n<t.length,t[n]≠32)→ ∀ l:List ak,l.length≤n→ ∀ k k',m+1≤k→m+1≤k'→
 pG k t 0 0 l ((n:Nat):Int)=some (lA k' t l n):=by
 intro m
 induction m with
 | zero=>
  intro n h hn _ l Nb k k' hk hk'
  obtain ⟨k,rfl⟩: ∃ j,k=j+1:=⟨k - 1,by omega⟩
  obtain ⟨k',rfl⟩: ∃ j,k'=j+1:=⟨k' - 1,by omega⟩
  simp only [pG,lA,List.length_cons,List.length_nil]
  rw [if_neg (by omega),if_pos (by omega),if_neg (by omega)]
 | succ m ih=>
  intro n h hn hb l Nb k k' hk hk'
  obtain ⟨k,rfl⟩: ∃ j,k=j+1:=⟨k - 1,by omega⟩
  obtain ⟨k',rfl⟩: ∃ j,k'=j+1:=⟨k' - 1,by omega⟩
  by_cases hlt:n<t.length
  · have hi:(n:Int)<(t.length:Int):=by omega
    have MB:(l.length+(0+1))*48≤140737488355328:=by omega
    simp only [pG,lA,List.length_cons,List.length_nil,hi,hlt,if_true,OS t n (by omega) hlt (hb hlt),af,MB]
    by_cases hz:(eo t n).2=0
    · simp only [hz,ne_eq,not_true_eq_false,if_false]
      obtain ⟨e,he,h1,h2,_⟩:=HT t n hlt hz
      simp only [he,F9 t e (by omega) h2,af,Int.toNat_natCast]
      have hg:=yE (t.drop e) false e
      rw [List.length_drop] at hg
      exact ih _ (by omega) (by omega) (fun hh=>EE t e h2 hh) _ (by rw [List.length_append,List.length_singleton]; omega) k k' (by omega) (by omega)
    · simp only [hz,ne_eq,not_false_eq_true,if_true]
  · simp only [pG,lA,List.length_cons,List.length_nil]
    rw [if_neg (by omega),if_pos (by omega),if_neg hlt]
theorem xh (t:List UInt8):xq t=some (mS t):=by
 refine cX (t.length+1) fun k hk=> ?_
 unfold A5 mS
 by_cases hl:16384<t.length
 · rw [if_pos (by omega),if_pos hl]
 · have hg:=yE t false 0
   rw [if_neg (by omega),if_neg hl,show (0:Int)=((0:Nat):Int) from rfl,F9 t 0 (by omega) (Nat.zero_le _),af]
   exact (JI t (by omega) t.length _ (by omega) (by rw [List.drop_zero]; omega) (fun hh=>EE t 0 (Nat.zero_le _) hh) [] (Nat.zero_le _) k _ (by omega) (by omega))
abbrev ld:List (List UInt8):= [yz,ye,kU,kY,kV,rN,rK,rM,eM,fP,nW,nT,rE,rF,mm,nS,ve,vf,u_,vb,rG,vc,rI,iD,yt,yx,yp,yw,yj,yf,yh,yu,yl,yg,Cc]
def fm (s:List UInt8):Bool:=decide (s ∈ ld)
theorem SR:ld.length=35:=rfl
theorem F8 (s:List UInt8):lT s=some (fm s):=by
 unfold lT
 by_cases hr:fm s=true
 · rw [hr]
   have hm:s ∈ ld:=of_decide_eq_true hr
   simp only [ld,List.mem_cons,List.not_mem_nil,or_false] at hm
   rcases hm with rfl | rfl | rfl | rfl | rfl | rfl | rfl | rfl | rfl | rfl | rfl | rfl | rfl | rfl | rfl | rfl | rfl | rfl | rfl | rfl | rfl | rfl | rfl | rfl | rfl | rfl | rfl | rfl | rfl | rfl | rfl | rfl | rfl | rfl | rfl <;> decide+kernel
 · have hr':fm s=false:=by simpa using hr
   have hm:s ∉ ld:=of_decide_eq_false hr'
   rw [hr']
   simp only [ld,List.mem_cons,List.not_mem_nil,or_false,not_or] at hm
   simp only [hm,if_false]
def jW (s:List UInt8):Bool:=decide (s≠ []∧s.length≤24)&& !fm s&&lt (s.getD 0 0)&&s.all nm
theorem O8 {b:UInt8} (h:lt b=true∨dg b=true): ¬ (b=32∨b=9∨b=10∨b=13)∧b≠35:=by
 refine ⟨?_, ?_⟩
 · rintro (rfl | rfl | rfl | rfl) <;> rcases h with h | h <;> exact absurd h (by decide)
 · rintro rfl; rcases h with h | h <;> exact absurd h (by decide)
end Go.Sy.Ex
namespace Go.Sy.Ex
open Go.Sy
abbrev Tk:=Int×List UInt8×Int
def strip (t:ak):Tk:=(t.Kind,t.Text,t.N)
def iX (b:UInt8):Bool:=decide (b=32∨b=9∨b=10∨b=13)
def eg (u:List UInt8):List UInt8:=u.dropWhile iX
def kE:List UInt8→Option (Tk×Nat)
 | []=>none
 | b::u=>if dg b then
  (let r:=lW ((b::u).takeWhile dg)
   if r.2≠0 then none else some ((2,(b::u).takeWhile dg,r.1),((b::u).takeWhile dg).length))
  else if lt b then (if 24<((b::u).takeWhile nm).length then none else some ((1,(b::u).takeWhile nm,0),((b::u).takeWhile nm).length))
  else if dK (b::u)=0 then none
  else some ((3,(b::u).take (dK (b::u)),0),dK (b::u))
theorem qG (b : UInt8) (u : List UInt8) : kE (b :: u) = if dg b then
      (let r:=lW ((b::u).takeWhile dg)
       if r.2≠0 then none else some ((2,(b::u).takeWhile dg,r.1),((b::u).takeWhile dg).length))
 else if lt b then (if 24<((b::u).takeWhile nm).length then none else some ((1,(b::u).takeWhile nm,0),((b::u).takeWhile nm).length))
 else if dK (b::u)=0 then none
 else some ((3,(b::u).take (dK (b::u)),0),dK (b::u)):=rfl
inductive eG:Nat→List UInt8→List ak→Prop
 | nil {n:Nat} {u:List UInt8} :eg u= []→eG n u []
 | cons {n:Nat} {u v:List UInt8} {tk:Tk} {m:Nat} {L:List ak} :eg u=v→v≠ []→kE v=some (tk,m)→
  eG (n+(u.length - v.length)+m) (v.drop m) L→eG n u (⟨tk.1,(n+(u.length - v.length):Nat),(n+(u.length - v.length)+m:Nat),tk.2.1,tk.2.2⟩::L)
theorem ML (t:List UInt8) (n:Nat) (h:n<t.length):kE (t.drop n)=if (eo t n).2≠0 then none else some (strip (eo t n).1,((eo t n).1.End - n).toNat):=by
 have hd:t.drop n=t[n]::t.drop (n+1):=List.drop_eq_getElem_cons h
 unfold eo
 rw [hY _ h]
 conv=>lhs; rw [hd]
 rw [qG, ← hd]
 by_cases hD:dg t[n]=true
 · rw [if_pos hD,if_pos hD]
   simp only []
   by_cases hz:(lW ((t.drop n).takeWhile dg)).2≠0
   · simp only [hz,ne_eq,not_false_eq_true,if_true]
   · simp only [hz,if_false,strip,ne_eq,not_true_eq_false]
     congr 2
     unfold dw
     omega
 · rw [if_neg hD,if_neg hD]
   by_cases hL:lt t[n]=true
   · rw [if_pos hL,if_pos hL]
     unfold dw
     by_cases tI:24<((t.drop n).takeWhile nm).length
     · have :n+24<n+((t.drop n).takeWhile nm).length:=by omega
       simp only [tI,this,if_true,ne_eq]
       rw [if_pos (by decide)]
     · have : ¬ n+24<n+((t.drop n).takeWhile nm).length:=by omega
       simp only [tI,this,if_false,ne_eq,not_true_eq_false,strip]
       congr 2
       omega
   · rw [if_neg hL,if_neg hL]
     by_cases hs:dK (t.drop n)=0
     · simp only [hs,if_true,ne_eq]
       rw [if_pos (by decide)]
     · simp only [hs,if_false,ne_eq,not_true_eq_false,strip]
       congr 2
       omega
theorem MK {v:List UInt8} {tk:Tk} {m:Nat} (h:kE v=some (tk,m)):1≤m∧m≤v.length:=by
 cases v with
 | nil=>cases h
 | cons b u=>
  rw [qG] at h
  by_cases hD:dg b=true
  · rw [if_pos hD] at h
    simp only [] at h
    split at h
    · cases h
    · cases h
      have :=vn dg (b::u)
      rw [List.takeWhile_cons_of_pos hD] at this ⊢
      exact ⟨by simp,this⟩
  · rw [if_neg hD] at h
    by_cases hL:lt b=true
    · rw [if_pos hL] at h
      split at h
      · cases h
      · cases h
        have :=vn nm (b::u)
        rw [List.takeWhile_cons_of_pos (by simp [nm,hL])] at this ⊢
        exact ⟨by simp,this⟩
    · rw [if_neg hL] at h
      split at h
      · cases h
      · rename_i hs
        cases h
        exact ⟨by omega,vh _⟩
theorem yD (u:List UInt8): ∃ p,u=p++eg u∧p.all iX=true:=by
 induction u with
 | nil=>exact ⟨[],rfl,rfl⟩
 | cons b u ih=>
  unfold eg
  by_cases hb:iX b=true
  · rw [List.dropWhile_cons_of_pos hb]
    obtain ⟨p,h1,h2⟩:=ih
    exact ⟨b::p,by rw [List.cons_append]; congr 1,by simp [hb,h2]⟩
  · rw [List.dropWhile_cons_of_neg hb]
    exact ⟨[],rfl,rfl⟩
theorem Cm: ∀ (p u:List UInt8) (n:Nat),p.all iX=true→cm false (p++u) n=cm false u (n+p.length)
 | [],u,n,_=>rfl
 | b::p,u,n,h=>by
  simp only [List.all_cons,Bool.and_eq_true] at h
  have hb:b=32∨b=9∨b=10∨b=13:=of_decide_eq_true h.1
  rw [List.cons_append]
  simp only [cm]
  rw [if_pos hb,Cm p u (n+1) h.2,List.length_cons,Nat.add_assoc,Nat.add_comm 1]
theorem Rx {b:UInt8} {u:List UInt8} {n:Nat} (h1:iX b=false) (h2:b≠35):cm false (b::u) n=n:=by
 have hb: ¬ (b=32∨b=9∨b=10∨b=13):=of_decide_eq_false h1
 simp only [cm]
 rw [if_neg hb,if_neg h2]
theorem MN {u:List UInt8} :kE (35::u)=none:=by
 rw [qG,if_neg (by decide),if_neg (by decide),if_pos]
 cases u with
 | nil=>rfl
 | cons c u=>
  show (if [35,c] ∈ gA then 2 else if (35:UInt8) ∈ jr then 1 else 0)=0
  rw [if_neg,if_neg (by decide)]
  simp only [gA,List.mem_cons,List.cons.injEq,and_true,List.not_mem_nil,or_false]
  rintro (⟨h,_⟩ | ⟨h,_⟩ | ⟨h,_⟩ | ⟨h,_⟩ | ⟨h,_⟩ | ⟨h,_⟩ | ⟨h,_⟩) <;> revert h <;> decide
theorem Rv {u:List UInt8} {b:UInt8} {v:List UInt8} (h:eg u=b::v):iX b=false:=by
 induction u with
 | nil=>cases h
 | cons c u ih=>
  unfold eg at h
  by_cases hc:iX c=true
  · rw [List.dropWhile_cons_of_pos hc] at h; exact ih h
  · rw [List.dropWhile_cons_of_neg hc] at h
    cases h
    simpa using hc
theorem Px {t:List UInt8} {n:Nat} {u:List UInt8} {L:List ak} (h:eG n u L):t.drop n=u→n≤t.length→ ∀ k l,t.length≤n+k→
 lA (k+1) t l (cm false (t.drop n) n)=(l++L++ [ak.mk 4 t.length t.length [] 0],aQ.mk 0 0):=by
 induction h with
 | @nil n u hs=>
  intro hu hn k l hk
  obtain ⟨p,h1,h2⟩:=yD u
  rw [hs,List.append_nil] at h1
  subst h1
  have hl:u.length=t.length - n:=by rw [← hu,List.length_drop]
  have :cm false (t.drop n) n=t.length:=by
   rw [hu]
   have :=Cm u [] n h2
   rw [List.append_nil] at this
   rw [this]
   show n+u.length=_
   omega
  rw [this]
  simp only [lA]
  rw [if_neg (by omega),List.append_nil]
 | @cons n u v tk m L hs hv hh hp ih=>
  intro hu hn k l hk
  obtain ⟨p,h1,h2⟩:=yD u
  rw [hs] at h1
  have hl:u.length=t.length - n:=by rw [← hu,List.length_drop]
  have Nc:u.length=p.length+v.length:=by rw [h1,List.length_append]
  obtain ⟨b,v',rfl⟩: ∃ b v',v=b::v':=by
   cases v with
   | nil=>exact absurd rfl hv
   | cons b v'=>exact ⟨b,v',rfl⟩
  have hb:=Rv hs
  have hne:b≠35:=fun e=>by subst e; rw [MN] at hh; cases hh
  have hq:u.length - (b::v').length=p.length:=by omega
  simp only [hq] at ih ⊢
  have hpos:cm false (t.drop n) n=n+p.length:=by
   rw [hu,h1,Cm p _ n h2,Rx hb hne]
  have hlt:n+p.length<t.length:=by simp only [List.length_cons] at Nc; omega
  have E7:t.drop (n+p.length)=b::v':=by
   rw [← List.drop_drop,hu,h1]
   simp
  have qM:=ML t (n+p.length) hlt
  rw [E7,hh] at qM
  have hz:(eo t (n+p.length)).2=0:=by
   by_cases hz:(eo t (n+p.length)).2=0
   · exact hz
   · rw [if_pos hz] at qM; cases qM
  rw [if_neg (by simp [hz])] at qM
  obtain ⟨e,he,h3,h4,cF,ue,_⟩:=HT t (n+p.length) hlt hz
  simp only [Option.some.injEq,Prod.mk.injEq] at qM
  obtain ⟨htk,hm⟩:=qM
  rw [he] at hm
  have hme:e=n+p.length+m:=by omega
  have NB:(eo t (n+p.length)).1=⟨tk.1,(n+p.length:Nat),(n+p.length+m:Nat),tk.2.1,tk.2.2⟩:=by
   rw [htk]
   unfold strip
   generalize eo t (n+p.length)=x at *
   obtain ⟨⟨a1,a2,a3,a4,a5⟩,a6⟩:=x
   dsimp only at *
   rw [cF,he,hme]
  obtain ⟨k,rfl⟩: ∃ j,k=j+1:=⟨k - 1,by omega⟩
  rw [hpos]
  conv=>lhs; unfold lA
  rw [if_pos hlt,if_neg (by simp [hz]),NB]
  dsimp only
  rw [Int.toNat_natCast]
  have :=ih (by rw [← E7,List.drop_drop]) (by omega) k (l++ [⟨tk.1,(n+p.length:Nat),(n+p.length+m:Nat),tk.2.1,tk.2.2⟩]) (by omega)
  rw [this]
  simp [List.append_assoc]
theorem Gw {t:List UInt8} {L:List ak} (h:eG 0 t L) (hl:t.length≤16384):mS t=(L++ [ak.mk 4 t.length t.length [] 0],aQ.mk 0 0):=by
 unfold mS
 rw [if_neg (by omega)]
 have :=Px (t:=t) h rfl (Nat.zero_le _) t.length [] (by omega)
 rw [List.drop_zero,List.nil_append] at this
 exact this
def iE (a b:List UInt8):Bool:=match a.getLast?,b.head? with
 | some x,some y=> !(nm x&&nm y)&& !decide ([x,y] ∈ gA)
 | _,_=>true
theorem HS {p:UInt8→Bool} : ∀ (v b:List UInt8),(v.takeWhile p).length<v.length∨(∀ y,b.head?=some y→p y=false)→(v++b).takeWhile p=v.takeWhile p
 | [],b,h=>by
  rcases h with h | h
  · simp at h
  · cases b with
    | nil=>rfl
    | cons y b=>rw [List.nil_append,List.takeWhile_cons_of_neg (by simp [h y rfl])]; rfl
 | x::v,b,h=>by
  rw [List.cons_append]
  by_cases hx:p x=true
  · rw [List.takeWhile_cons_of_pos hx,List.takeWhile_cons_of_pos hx] at *
    rw [HS v b (h.imp (fun h=>by simpa using h) id)]
  · rw [List.takeWhile_cons_of_neg hx,List.takeWhile_cons_of_neg hx]
theorem R0 {p:UInt8→Bool} {v:List UInt8} (h: ¬ (v.takeWhile p).length<v.length): ∀ x,v.getLast?=some x→p x=true:=by
 have :v.takeWhile p=v:=by
  have hle:=vn p v
  have hpre:v.takeWhile p <+: v:=List.takeWhile_prefix p
  exact hpre.eq_of_length (by omega)
 intro x hx
 have hm:x ∈ v:=List.mem_of_getLast? hx
 rw [← this] at hm
 exact H8 p v x hm
theorem MJ {v b:List UInt8} {tk:Tk} {m:Nat} (h:kE v=some (tk,m)) (hs:m<v.length∨iE v b=true):kE (v++b)=some (tk,m):=by
 cases v with
 | nil=>cases h
 | cons c u=>
  have hno: ∀ (p:UInt8→Bool),(∀ x,p x=true→nm x=true)→p c=true→(m=((c::u).takeWhile p).length)→((c::u)++b).takeWhile p=(c::u).takeWhile p:=by
   intro p hp hc hm
   refine HS _ _ ?_
   by_cases hlt:((c::u).takeWhile p).length<(c::u).length
   · exact .inl hlt
   · refine .inr fun y hy=> ?_
     rcases hs with hs | hs
     · omega
     · obtain ⟨x,hx⟩: ∃ x,(c::u).getLast?=some x:=⟨_,List.getLast?_eq_some_getLast (by simp)⟩
       have hpx:=hp x (R0 hlt x hx)
       unfold iE at hs
       rw [hx,hy] at hs
       dsimp only at hs
       rw [Bool.and_eq_true,hpx] at hs
       cases hq:p y with
       | false=>rfl
       | true=>rw [hp y hq] at hs; cases hs.1
  rw [List.cons_append]
  rw [qG] at h ⊢
  by_cases hD:dg c=true
  · rw [if_pos hD] at h ⊢
    simp only [] at h ⊢
    have hm:m=((c::u).takeWhile dg).length:=by
     split at h
     · cases h
     · cases h; rfl
    have :=hno dg (fun x hx=>by simp [nm,hx]) hD hm
    rw [List.cons_append] at this
    rw [this]
    exact h
  · rw [if_neg hD] at h ⊢
    by_cases hL:lt c=true
    · rw [if_pos hL] at h ⊢
      have hm:m=((c::u).takeWhile nm).length:=by
       split at h
       · cases h
       · cases h; rfl
      have :=hno nm (fun x hx=>hx) (by simp [nm,hL]) hm
      rw [List.cons_append] at this
      rw [this]
      exact h
    · rw [if_neg hL] at h ⊢
      have hm:m=dK (c::u)∧dK (c::u)≠0:=by
       split at h
       · cases h
       · rename_i hz; cases h; exact ⟨rfl,hz⟩
      have hsame:dK (c::(u++b))=dK (c::u):=by
       cases u with
       | cons d u=>rfl
       | nil=>
        cases b with
        | nil=>rfl
        | cons y b=>
         show (if [c,y] ∈ gA then 2 else if c ∈ jr then 1 else 0)=if c ∈ jr then 1 else 0
         rw [if_neg]
         rcases hs with hs | hs
         · have :dK [c]≤1:=vh [c]
           have h1:m=dK [c]:=hm.1
           have h2:dK [c]≠0:=hm.2
           simp only [List.length_cons,List.length_nil] at hs
           omega
         · unfold iE at hs
           simp only [List.getLast?_singleton,List.head?_cons,Bool.and_eq_true,Bool.not_eq_true',decide_eq_false_iff_not] at hs
           exact hs.2
      have o9:(c::(u++b)).take (dK (c::u))=(c::u).take (dK (c::u)):=by
       rw [← List.cons_append,List.take_append_of_le_length (vh _)]
      rw [hsame,o9]
      exact h
theorem Hr {p v b:List UInt8} (hv:v≠ []):iE (p++v) b=iE v b:=by
 unfold iE
 rw [List.getLast?_append]
 obtain ⟨x,hx⟩: ∃ x,v.getLast?=some x:=⟨_,List.getLast?_eq_some_getLast hv⟩
 rw [hx]; rfl
theorem Ru {u b:List UInt8} (h:eg u≠ []):eg (u++b)=eg u++b:=by
 unfold eg at *
 induction u with
 | nil=>exact absurd rfl h
 | cons c u ih=>
  rw [List.cons_append]
  by_cases hc:iX c=true
  · rw [List.dropWhile_cons_of_pos hc] at h ⊢
    rw [List.dropWhile_cons_of_pos hc]
    exact ih h
  · rw [List.dropWhile_cons_of_neg hc,List.dropWhile_cons_of_neg hc]; rfl
theorem Hx {u b:List UInt8} (h:eg u= []):eg (u++b)=eg b:=by
 unfold eg at *
 induction u with
 | nil=>rfl
 | cons c u ih=>
  rw [List.cons_append]
  by_cases hc:iX c=true
  · rw [List.dropWhile_cons_of_pos hc] at h ⊢
    exact ih h
  · rw [List.dropWhile_cons_of_neg hc] at h; cases h
theorem eG.shift {n n':Nat} {a p:List UInt8} {L:List ak} (hp:eg p= []) (h:eG (n+p.length) a L):eG n (p++a) L:=by
 generalize hn:n+p.length=q at h
 cases h with
 | nil hs=>exact .nil (by rw [Hx hp]; exact hs)
 | @cons _ _ v tk m L hs hv hh hl=>
  obtain ⟨p',h1,_⟩:=yD a
  rw [hs] at h1
  have hlen:a.length=p'.length+v.length:=by rw [h1,List.length_append]
  have e:n+((p++a).length - v.length)=q+(a.length - v.length):=by rw [List.length_append]; omega
  have :=eG.cons (n:=n) (u:=p++a) (by rw [Hx hp]; exact hs) hv hh (by rw [e]; exact hl)
  rw [e] at this
  exact this
theorem eG.append {n:Nat} {a:List UInt8} {La:List ak} (ha:eG n a La): ∀ {b:List UInt8} {Lb:List ak},eG (n+a.length) b Lb→iE a b=true→eG n (a++b) (La++Lb):=by
 induction ha with
 | @nil n u hs=>intro b Lb hb _; exact eG.shift (n':=0) hs hb
 | @cons n u v tk m L hs hv hh hp ih=>
  intro b Lb hb hsep
  obtain ⟨p,h1,_⟩:=yD u
  rw [hs] at h1
  have hml:=MK hh
  have hlen:u.length=p.length+v.length:=by rw [h1,List.length_append]
  have Aw:iE v b=true:=by rw [h1,Hr hv] at hsep; exact hsep
  have MV:=MJ hh (b:=b) (.inr Aw)
  have Fi:(u++b).length - (v++b).length=u.length - v.length:=by simp only [List.length_append]; omega
  have Nw:eG (n+(u.length - v.length)+m) (v.drop m++b) (L++Lb):=by
   refine ih ?_ ?_
   · rw [List.length_drop,show n+(u.length - v.length)+m+(v.length - m)=n+u.length from by omega]
     exact hb
   · by_cases hd:v.drop m= []
     · rw [hd]; rfl
     · have :v=v.take m++v.drop m:=(List.take_append_drop m v).symm
       rw [this,Hr hd] at Aw
       exact Aw
  have :=eG.cons (n:=n) (u:=u++b) (v:=v++b) (by rw [← hs]; exact Ru (by rw [hs]; exact hv)) (by simp [hv]) MV (L:=L++Lb) (by
   rw [Fi,List.drop_append_of_le_length hml.2]
   exact Nw)
  rw [Fi] at this
  exact this
def Lx (s:List UInt8) (K:List Tk):Prop:= ∀ n, ∃ L,eG n s L∧L.map strip=K
theorem Lx.append {a b:List UInt8} {Ka Kb:List Tk} (ha:Lx a Ka) (hb:Lx b Kb) (hs:iE a b=true):Lx (a++b) (Ka++Kb):=fun n=>by
 obtain ⟨La,h1,h2⟩:=ha n
 obtain ⟨Lb,h3,h4⟩:=hb (n+a.length)
 exact ⟨La++Lb,h1.append h3 hs,by rw [List.map_append,h2,h4]⟩
theorem Lx.all {t:List UInt8} {K:List Tk} (h:Lx t K) (hl:t.length≤16384): ∃ l,mS t=(l,aQ.mk 0 0)∧l.map strip=K++ [(4,[],0)]:=by
 obtain ⟨L,h1,h2⟩:=h 0
 exact ⟨_,Gw h1 hl,by rw [List.map_append,h2]; rfl⟩
def qR:Nat→List UInt8→Option (List Tk)
 | 0,_=>none
 | k+1,u=>match eg u with
  | []=>some []
  | b::v=>match kE (b::v) with
   | some (tk,m)=>match qR k ((b::v).drop m) with
    | some K=>some (tk::K)
    | none=>none
   | none=>none
theorem nw: ∀ (k:Nat) {u:List UInt8} {K:List Tk},qR k u=some K→Lx u K
 | 0,_,_,h=>by cases h
 | k+1,u,K,h=>fun n=>by
  simp only [qR] at h
  cases hs:eg u with
  | nil=>rw [hs] at h; cases h; exact ⟨[], .nil hs,rfl⟩
  | cons b v=>
   rw [hs] at h
   dsimp only at h
   cases hh:kE (b::v) with
   | none=>rw [hh] at h; cases h
   | some p=>
    obtain ⟨tk,m⟩:=p
    rw [hh] at h
    dsimp only at h
    cases hr:qR k ((b::v).drop m) with
    | none=>rw [hr] at h; cases h
    | some K'=>
     rw [hr] at h
     cases h
     obtain ⟨L,h1,h2⟩:=nw k hr (n+(u.length - (b::v).length)+m)
     exact ⟨_, .cons hs (by simp) hh h1,by rw [List.map_cons,h2]; rfl⟩
end Go.Sy.Ex
namespace Go.Sy.Ex
open Go.Sy
theorem tn (d:Nat) (h:d<10):(UInt8.ofNat (48+d)).toNat=48+d:=by
 have : ∀ d,d<10→(UInt8.ofNat (48+d)).toNat=48+d:=by decide+kernel
 exact this d h
theorem lG {u:Nat} (h:u<10):Lib.decDigits u= [UInt8.ofNat (48+u)]:=by rw [Lib.decDigits,dif_pos h]
theorem wE {u:Nat} (h: ¬ u<10):Lib.decDigits u=Lib.decDigits (u / 10)++ [UInt8.ofNat (48+u % 10)]:=by rw [Lib.decDigits,dif_neg h]
theorem DU: ∀ (n u:Nat),u≤n→ ∀ c ∈ Lib.decDigits u,48≤c.toNat∧c.toNat≤57:=by
 intro n
 induction n with
 | zero=>
  intro u h c hc
  have :u=0:=by omega
  subst this
  rw [lG (by decide),List.mem_singleton] at hc
  subst hc; decide
 | succ n ih=>
  intro u h c hc
  by_cases hs:u<10
  · rw [lG hs,List.mem_singleton] at hc
    subst hc; rw [tn u hs]; omega
  · rw [wE hs,List.mem_append,List.mem_singleton] at hc
    rcases hc with hc | rfl
    · exact ih (u / 10) (by omega) c hc
    · rw [tn _ (by omega)]; omega
theorem wF: ∀ u,Lib.decDigits u≠ []:=fun u=>by
 by_cases hs:u<10
 · rw [lG hs]; simp
 · rw [wE hs]; simp
theorem Po: ∀ (l:List UInt8) (acc a:Nat) (c:UInt8),Lib.parseUintM (2 ^ 64 - 1) acc l= .ok a→Lib.parseUintM (2 ^ 64 - 1) acc (l++ [c])=Lib.parseUintM (2 ^ 64 - 1) a [c]:=by
 intro l
 induction l with
 | nil=>intro acc a c h; cases h; rfl
 | cons b l ih=>
  intro acc a c h
  rw [List.cons_append]
  unfold Lib.parseUintM at h ⊢
  split at h
  · rename_i hb
    rw [if_pos hb]
    split at h
    · cases h
    · rename_i h1
      rw [if_neg h1]
      split at h
      · cases h
      · rename_i h2
        rw [if_neg h2]
        have :=ih _ _ c h
        rw [this]
        rfl
  · cases h
theorem Gu: ∀ (n u:Nat),u≤n→u≤9223372036854775808→Lib.parseUintM (2 ^ 64 - 1) 0 (Lib.decDigits u)= .ok u:=by
 intro n
 induction n with
 | zero=>
  intro u h hu
  have :u=0:=by omega
  subst this
  rw [lG (by decide)]
  rfl
 | succ n ih=>
  intro u h hu
  by_cases hs:u<10
  · rw [lG hs]
    unfold Lib.parseUintM
    rw [tn u hs,if_pos (by omega),if_neg (by omega),if_neg (by omega)]
    unfold Lib.parseUintM
    congr 1; omega
  · rw [wE hs,Po _ _ _ _ (ih (u / 10) (by omega) (by omega))]
    unfold Lib.parseUintM
    rw [tn _ (by omega),if_pos (by omega),if_neg (by omega),if_neg (by omega)]
    unfold Lib.parseUintM
    congr 1; omega
theorem Pq (v:Int) (h0: -9223372036854775808≤v) (h1:v≤9223372036854775807):Lib.parseIntB 64 (Lib.itoa v)= .ok v:=by
 unfold Lib.itoa
 by_cases hv:v<0
 · rw [if_pos hv]
   have hu:v.natAbs≤9223372036854775808:=by omega
   unfold Lib.parseIntB Lib.parseUintB
   simp only []
   have hif:(if (45:UInt8).toNat=43∨(45:UInt8).toNat=45 then Lib.decDigits v.natAbs else 45::Lib.decDigits v.natAbs)=Lib.decDigits v.natAbs:=if_pos (.inr rfl)
   rw [hif,if_neg (wF _),Gu _ _ (Nat.le_refl _) hu]
   have h45:(45:UInt8).toNat=45:=rfl
   simp only [h45,not_true_eq_false,false_and,if_false,true_and,if_true]
   rw [if_neg (by omega)]
   congr 1; omega
 · rw [if_neg hv]
   have hu:v.toNat≤9223372036854775807:=by omega
   have hne:=wF v.toNat
   obtain ⟨c,r,wW⟩: ∃ c r,Lib.decDigits v.toNat=c::r:=by
    cases hd:Lib.decDigits v.toNat with
    | nil=>exact absurd hd hne
    | cons c r=>exact ⟨c,r,rfl⟩
   have hc:=DU _ _ (Nat.le_refl v.toNat) c (by rw [wW]; simp)
   have hp:=Gu _ _ (Nat.le_refl v.toNat) (by omega)
   rw [wW] at hp ⊢
   unfold Lib.parseIntB Lib.parseUintB
   simp only []
   rw [if_neg (show ¬ (c.toNat=43∨c.toNat=45) by omega),if_neg (by simp),hp]
   simp only [show ¬ c.toNat=45 by omega,not_false_eq_true,true_and,false_and,if_false]
   rw [if_neg (by omega)]
   congr 1; omega
theorem DV: ∀ (n u:Nat),u≤n→1≤u→(Lib.decDigits u).getD 0 0≠48
 | 0,u,h,h1=>by omega
 | n+1,u,h,h1=>by
  by_cases h10:u<10
  · rw [lG h10]
    show UInt8.ofNat (48+u)≠48
    intro e
    have :=tn u h10
    rw [e] at this
    have h48:(48:UInt8).toNat=48:=rfl
    omega
  · rw [wE h10]
    have :=DV n (u / 10) (by omega) (by omega)
    have hne:=wF (u / 10)
    cases hd:Lib.decDigits (u / 10) with
    | nil=>exact absurd hd hne
    | cons c l=>rw [hd] at this; exact this
theorem ux {n:Int} (h:0≤n):Lib.itoa n=Lib.decDigits n.toNat:=by unfold Lib.itoa; rw [if_neg (by omega)]
theorem xg {n:Int} (h:0≤n): ∀ c ∈ Lib.itoa n,dg c=true:=fun c hc=>by
 rw [ux h] at hc
 exact (wH c).2 (DU n.toNat n.toNat (Nat.le_refl _) c hc)
theorem AU {n:Int} (h:0≤n):Lib.itoa n≠ []:=by rw [ux h]; exact wF _
theorem N3 {n:Int} (h:0≤n) (h1:n≤9223372036854775807):lW (Lib.itoa n)=(n,0):=by
 rw [← Gh _ (AU h) (xg h)]
 unfold numOf
 rw [if_neg,Pq n (by omega) h1]
 rintro ⟨h2,h3⟩
 rw [ux h] at h2 h3
 by_cases h0:n.toNat<10
 · rw [lG h0] at h2; simp at h2
 · exact DV n.toNat n.toNat (Nat.le_refl _) (by omega) h3
theorem H9 (p:UInt8→Bool) (l:List UInt8) (h: ∀ c ∈ l,p c=true):l.takeWhile p=l:=by
 induction l with
 | nil=>rfl
 | cons a l ih=>rw [List.takeWhile_cons_of_pos (h a (by simp)),ih fun c hc=>h c (by simp [hc])]
theorem O4 {b:UInt8} (h:nm b=true):iX b=false:=by
 have :=(O8 (b:=b) (by simpa [nm] using h)).1
 exact decide_eq_false this
theorem Hy {s:List UInt8} (h: ∀ c ∈ s,nm c=true):eg s=s:=by
 cases s with
 | nil=>rfl
 | cons a l=>unfold eg; rw [List.dropWhile_cons_of_neg (by simp [O4 (h a (by simp))])]
theorem Lx.one {s:List UInt8} {tk:Tk} (h0:s≠ []) (hs:eg s=s) (hh:kE s=some (tk,s.length)):Lx s [tk]:=fun n=>by
 have :=eG.cons (n:=n) (L:= []) hs h0 hh (by rw [List.drop_length]; exact .nil rfl)
 exact ⟨_,this,rfl⟩
theorem Lx.num {n:Int} (h:0≤n) (h1:n≤9223372036854775807):Lx (Lib.itoa n) [(2,Lib.itoa n,n)]:=by
 refine Lx.one (AU h) (Hy fun c hc=>by simp [nm,xg h c hc]) ?_
 have ud:=H9 dg _ (xg h)
 have hn:=N3 h h1
 cases hi:Lib.itoa n with
 | nil=>exact absurd hi (AU h)
 | cons a l=>
  rw [hi] at ud hn
  rw [qG,if_pos (xg h a (by rw [hi]; simp)),ud,hn]
  rfl
theorem O3 {s:List UInt8} (h:jW s=true):s≠ []∧s.length≤24∧fm s=false∧lt (s.getD 0 0)=true∧ ∀ c ∈ s,nm c=true:=by
 unfold jW at h
 simp only [Bool.and_eq_true,decide_eq_true_eq,Bool.not_eq_true',List.all_eq_true] at h
 obtain ⟨⟨⟨⟨h1,h2⟩,h3⟩,h4⟩,h5⟩:=h
 exact ⟨h1,h2,h3,h4,h5⟩
theorem Lx.word {s:List UInt8} (h0:s≠ []) (h1:s.length≤24) (h2:lt (s.getD 0 0)=true) (h3: ∀ c ∈ s,nm c=true):Lx s [(1,s,0)]:=by
 refine Lx.one h0 (Hy h3) ?_
 have ud:=H9 nm _ h3
 cases hs:s with
 | nil=>exact absurd hs h0
 | cons a l=>
  rw [hs] at ud h2 h1
  have h2:lt a=true:=h2
  rw [qG,if_neg (by rw [Li _ h2]; simp),if_pos h2,ud,if_neg (by omega)]
theorem Lx.name {s:List UInt8} (h:jW s=true):Lx s [(1,s,0)]:=by
 obtain ⟨h1,h2,_,h4,h5⟩:=O3 h
 exact Lx.word h1 h2 h4 h5
end Go.Sy.Ex
namespace Go.Sy.Ex
open Go.Sy
inductive T where
 | num (n:Int) | var (s:List UInt8) | arg | uw (s:List UInt8) | un (k:Int) (t:T) | bin (k:Int) (a b:T)
def T.kind:T→Int
 | .num _=>1 | .var _=>2 | .arg=>3 | .uw _=>4 | .un k _=>k | .bin k _ _=>k
def lvl (k:Int):Int:=if k=19 then 1 else if k=18 then 2 else if 12≤k∧k≤17 then 3 else if k=10∨k=11 then 4 else if 7≤k∧k≤9 then 5 else if k=5∨k=6 then 6 else 7
def xw (k:Int):Int:=if lvl k=3 then 4 else lvl k
def x6 (k:Int):Int:=if lvl k=3 then 4 else lvl k+1
abbrev rR:List (List UInt8×Int×Int):= [(mb,19,1),(l9,18,2),(mh,12,3),(mj,13,3),(me,14,3),(mg,15,3),(mc,16,3),(l_,17,3),(mq,10,4),(fu,11,4),(mw,7,5),(mu,8,5),(mo,9,5)]
def vp (k:Int):List UInt8:=match rR.find? (fun p=>p.2.1 == k) with
 | some p=>p.1
 | none=> []
def b_ (s:List UInt8):Int×Int:=match rR.find? (fun p=>p.1 == s) with
 | some p=>p.2
 | none=>(0,0)
theorem sign_eq (s:List UInt8):oF s=some (b_ s):=by
 unfold oF b_ rR
 by_cases oO:s=mb
 · subst oO; decide+kernel
 rw [if_neg oO,List.find?_cons,show (mb == s)=false from beq_false_of_ne (Ne.symm oO)]
 dsimp only
 by_cases oM:s=l9
 · subst oM; decide+kernel
 rw [if_neg oM,List.find?_cons,show (l9 == s)=false from beq_false_of_ne (Ne.symm oM)]
 dsimp only
 by_cases oS:s=mh
 · subst oS; decide+kernel
 rw [if_neg oS,List.find?_cons,show (mh == s)=false from beq_false_of_ne (Ne.symm oS)]
 dsimp only
 by_cases oT:s=mj
 · subst oT; decide+kernel
 rw [if_neg oT,List.find?_cons,show (mj == s)=false from beq_false_of_ne (Ne.symm oT)]
 dsimp only
 by_cases oQ:s=me
 · subst oQ; decide+kernel
 rw [if_neg oQ,List.find?_cons,show (me == s)=false from beq_false_of_ne (Ne.symm oQ)]
 dsimp only
 by_cases oR:s=mg
 · subst oR; decide+kernel
 rw [if_neg oR,List.find?_cons,show (mg == s)=false from beq_false_of_ne (Ne.symm oR)]
 dsimp only
 by_cases oP:s=mc
 · subst oP; decide+kernel
 rw [if_neg oP,List.find?_cons,show (mc == s)=false from beq_false_of_ne (Ne.symm oP)]
 dsimp only
 by_cases oN:s=l_
 · subst oN; decide+kernel
 rw [if_neg oN,List.find?_cons,show (l_ == s)=false from beq_false_of_ne (Ne.symm oN)]
 dsimp only
 by_cases oW:s=mq
 · subst oW; decide+kernel
 rw [if_neg oW,List.find?_cons,show (mq == s)=false from beq_false_of_ne (Ne.symm oW)]
 dsimp only
 by_cases oU:s=fu
 · subst oU; decide+kernel
 rw [if_neg oU,List.find?_cons,show (fu == s)=false from beq_false_of_ne (Ne.symm oU)]
 dsimp only
 by_cases oY:s=mw
 · subst oY; decide+kernel
 rw [if_neg oY,List.find?_cons,show (mw == s)=false from beq_false_of_ne (Ne.symm oY)]
 dsimp only
 by_cases oX:s=mu
 · subst oX; decide+kernel
 rw [if_neg oX,List.find?_cons,show (mu == s)=false from beq_false_of_ne (Ne.symm oX)]
 dsimp only
 by_cases oV:s=mo
 · subst oV; decide+kernel
 rw [if_neg oV,List.find?_cons,show (mo == s)=false from beq_false_of_ne (Ne.symm oV)]
 dsimp only
 rfl
def Is:T→ah→Prop
 | .num n,e=>e.Kind=1∧e.N=n∧e.Name= []∧e.Kids= []
 | .var s,e=>e.Kind=2∧e.N=0∧e.Name=s∧e.Kids= []
 | .arg,e=>e.Kind=3∧e.N=0∧e.Name= []∧e.Kids= []
 | .uw s,e=>e.Kind=4∧e.N=0∧e.Name=s∧e.Kids= []
 | .un k t,e=>e.Kind=k∧e.N=0∧e.Name= []∧ ∃ x,e.Kids= [x]∧Is t x
 | .bin k a b,e=>e.Kind=k∧e.N=0∧e.Name= []∧ ∃ x y,e.Kids= [x,y]∧Is a x∧Is b y
theorem eta (e:ah):ah.mk e.Kind e.N e.Name e.Kids e.At=e:=by cases e; rfl
theorem Is.kind {t:T} {e:ah} (h:Is t e):e.Kind=t.kind:=by cases t <;> exact h.1
def T.ok:T→Prop
 | .num n=>0≤n∧n≤9223372036854775807
 | .var s=>jW s=true
 | .arg=>True
 | .uw s=>jW s=true
 | .un k t=>(k=5∨k=6)∧t.ok
 | .bin k a b=>(7≤k∧k≤19)∧a.ok∧b.ok
def par (c:Prop) [Decidable c] (s:List UInt8):List UInt8:=if c then 40::s++ [41] else s
def pr:T→Int→List UInt8
 | .num n,a=>par (7<a) (Lib.itoa n)
 | .var s,a=>par (7<a) s
 | .arg,a=>par (7<a) [36]
 | .uw s,a=>par (7<a) (pX++s++cx)
 | .un k t,a=>par (6<a) ((if k=5 then 45 else 33)::pr t 6)
 | .bin k x y,a=>par (lvl k<a) (pr x (xw k)++(bY++vp k++bY)++pr y (x6 k))
def T.sz:T→Nat
 | .un _ t=>t.sz+1
 | .bin _ a b=>a.sz+b.sz+1
 | _=>1
end Go.Sy.Ex
namespace Go.Sy.Ex
open Go.Sy
end Go.Sy.Ex
namespace Go.Sy.Ex
open Go.Sy
def st (l:List ak) (i o:Nat):aG:=⟨⟨l,(i:Int),⟨0,0⟩⟩,(o:Int)⟩
def aa (l:List ak) (i:Nat):ak:=l.getD i ak.z
def aK (t:ak) (s:List UInt8):Bool:=decide ((t.Kind=3∨t.Kind=1)∧t.Text=s)
section
variable {l:List ak} {i o:Nat}
theorem xD:kN (st l i o)=some (true,st l i o):=rfl
theorem nC (hi:i<l.length):fN (st l i o)=some (aa l i,st l i o):=by
 unfold fN
 rw [xD,af]
 have h1: ¬ ((i:Nat):Int)<0:=by omega
 have h2: ¬ (l.length:Int)≤((i:Nat):Int):=by omega
 have h3:0≤((i:Nat):Int):=by omega
 have h4:((i:Nat):Int)<(l.length:Int):=by omega
 simp only [Bool.not_true,cond_false,st,Int.toNat_natCast,h1,h2,h3,h4,if_true,if_false]; rfl
theorem xe (hi:i<l.length) (s:List UInt8):jb (st l i o) s=some (aK (aa l i) s,st l i o):=by
 unfold jb aK
 rw [nC hi,af]
 dsimp only
 by_cases h3:(aa l i).Kind=3
 · rw [if_pos h3]; congr 2; rw [decide_eq_decide]; simp [h3]
 · rw [if_neg h3]
   by_cases h1:(aa l i).Kind=1
   · rw [if_pos h1]; congr 2; rw [decide_eq_decide]; simp [h1]
   · rw [if_neg h1]
     congr 2
     symm
     rw [decide_eq_false_iff_not]
     rintro ⟨h | h,_⟩ <;> contradiction
theorem gz (hi:i<l.length) (hl:l.length≤100000):au (((i:Nat):Int)+1)=((i+1:Nat):Int):=by rw [dr (by omega) (by omega)]; omega
theorem yI (hi:i<l.length) (hl:l.length≤100000) (s:List UInt8):kO (st l i o) s=some (aK (aa l i) s,if aK (aa l i) s=true then st l (i+1) o else st l i o):=by
 unfold kO
 rw [xe hi,af]
 dsimp only
 cases h:aK (aa l i) s with
 | true=>
  rw [cond_true,if_pos rfl]
  show some (true,(⟨⟨l,au (((i:Nat):Int)+1),⟨0,0⟩⟩,(o:Int)⟩:aG))=_
  rw [gz hi hl]; rfl
 | false=>rw [cond_false,if_neg (by simp)]
theorem yN (hi:i<l.length) (hl:l.length≤100000) {s:List UInt8} (h:aK (aa l i) s=true):gC (st l i o) s=some (st l (i+1) o):=by
 unfold gC
 rw [yI hi hl,af,h]; rfl
theorem AT (hi:i<l.length):lZ (st l i o)=some (decide ((aa l i).Kind=1)&& !fm (aa l i).Text,st l i o):=by
 unfold lZ
 rw [nC hi,af]
 dsimp only
 by_cases h1:(aa l i).Kind=1
 · rw [if_pos h1,F8,af,decide_eq_true h1]; rfl
 · rw [if_neg h1,decide_eq_false h1]; rfl
theorem Gb (hi:i<l.length) (hl:l.length≤100000) (h1:(aa l i).Kind=1) (h2:fm (aa l i).Text=false):j4 (st l i o)=some ((aa l i).Text,st l (i+1) o):=by
 unfold j4
 rw [AT hi,af]
 dsimp only
 rw [decide_eq_true h1,h2]
 show (if 0≤au (au (((i:Nat):Int)+1) - 1) then if au (au (((i:Nat):Int)+1) - 1)<(l.length:Int) then some ((l.getD (au (au (((i:Nat):Int)+1) - 1)).toNat ak.z).Text,(⟨⟨l,au (((i:Nat):Int)+1),⟨0,0⟩⟩,(o:Int)⟩:aG)) else none else none)=_
 rw [gz hi hl,show au (((i+1:Nat):Int) - 1)=((i:Nat):Int) from by rw [dr (by omega) (by omega)]; omega,if_pos (by omega),if_pos (by omega),Int.toNat_natCast]
 rfl
theorem tj (hi:i<l.length) (hl:l.length≤100000) (ho:o<12) (a:Int):gP (st l i o) a=some (true,st l (i+1) (o+1)):=by
 unfold gP
 show (if ((o:Nat):Int)=12 then _ else some (true,(⟨⟨l,au (((i:Nat):Int)+1),⟨0,0⟩⟩,au (((o:Nat):Int)+1)⟩:aG)))=_
 rw [if_neg (by omega),gz hi hl,show au (((o:Nat):Int)+1)=((o+1:Nat):Int) from by rw [dr (by omega) (by omega)]; omega]
 rfl
end
def Seq (l:List ak) (i:Nat):List Tk→Prop
 | []=>True
 | k::K=>i<l.length∧strip (aa l i)=k∧Seq l (i+1) K
theorem Seq.append {l:List ak} : ∀ {i:Nat} {K K':List Tk},Seq l i (K++K')↔Seq l i K∧Seq l (i+K.length) K'
 | i,[],K'=>by simp [Seq]
 | i,k::K,K'=>by
  rw [List.cons_append]
  simp only [Seq,List.length_cons]
  rw [Seq.append,show i+1+K.length=i+(K.length+1) from by omega]
  constructor
  · rintro ⟨a,b,c,d⟩; exact ⟨⟨a,b,c⟩,d⟩
  · rintro ⟨⟨a,b,c⟩,d⟩; exact ⟨a,b,c,d⟩
def nG (c:Prop) [Decidable c] (K:List Tk):List Tk:=if c then (3,cH,0)::K++ [(3,cx,0)] else K
def toks:T→Int→List Tk
 | .num n,a=>nG (7<a) [(2,Lib.itoa n,n)]
 | .var s,a=>nG (7<a) [(1,s,0)]
 | .arg,a=>nG (7<a) [(3,nU,0)]
 | .uw s,a=>nG (7<a) [(1,iD,0),(3,cH,0),(1,s,0),(3,cx,0)]
 | .un k t,a=>nG (6<a) ((3,if k=5 then fu else kT,0)::toks t 6)
 | .bin k x y,a=>nG (lvl k<a) (toks x (xw k)++(3,vp k,0)::toks y (x6 k))
def Bo (c:Prop) [Decidable c] (n:Nat):Nat:=if c then n+1 else n
def kK:T→Int→Nat
 | .un k t,a=>Bo (6<a) (kK t 6+1)
 | .bin k x y,a=>Bo (lvl k<a) (max (kK x (xw k)) (kK y (x6 k)))
 | _,a=>Bo (7<a) 0
def mz (t:ak):Int:=if t.Kind=3 then (b_ t.Text).2 else 0
def P (t:T) (K:List Tk) (n:Nat) (m:Int):Prop:= ∀ (l:List ak) (i o:Nat),l.length≤100000→Seq l i K→i+K.length<l.length→o+n≤12→mz (aa l (i+K.length))<m→
 ∃ e Z,Is t e∧ ∀ k,Z≤k→dN k (st l i o) m=some (e,st l (i+K.length) o)
def Sg (t:T) (K:List Tk) (n:Nat):Prop:= ∀ (l:List ak) (i o:Nat),l.length≤100000→Seq l i K→i+K.length<l.length→o+n≤12→
 ∃ e Z Z2,Is t e∧ ∀ k,Z≤k→ ∀ k2,Z2≤k2→hO (dN k) k2 (st l i o)=some (e,st l (i+K.length) o)
noncomputable def loop (k k':Nat) (l:List ak) (i o:Nat) (m:Int) (e:ah):Option (ah×aG):=
 lJ (dN k) k' l ((i:Nat):Int) 0 0 ((o:Nat):Int) m 0 0 [] [] 0 e.Kind e.N e.Name e.Kids e.At
def Qp (t:T) (K:List Tk) (n:Nat) (m:Int):Prop:= ∀ (l:List ak) (i o:Nat),l.length≤100000→Seq l i K→i+K.length<l.length→o+n≤12→mz (aa l (i+K.length))≤m→
 ∃ e Z j,Is t e∧j<Z∧ ∀ k,Z≤k→dN (k+1) (st l i o) m=loop k (k - j) l (i+K.length) o m e
theorem Br (k:Nat) (l:List ak) (i o:Nat) {m:Int} (hm:1≤m) (d_:m≤5) {e:ah} {i':Nat} (h:dN k (st l i o) (m+1)=some (e,st l i' o)):
 dN (k+1) (st l i o) m=loop k k l i' o m e:=by
 show nh (dN k) k (st l i o) m=_
 unfold nh
 rw [if_neg (by omega),dr (by omega) (by omega),h,af]
 rfl
theorem F7 (k k':Nat) (l:List ak) (i o:Nat) {m:Int} (hm:1≤m) (hi:i<l.length) (hs:mz (aa l i)≠m) (e:ah) (hk:1≤k'):loop k k' l i o m e=some (e,st l i o):=by
 obtain ⟨k',rfl⟩: ∃ j,k'=j+1:=⟨k' - 1,by omega⟩
 unfold loop
 simp only [lJ]
 rw [show (aG.mk (aY.mk l ((i:Nat):Int) (aQ.mk 0 0)) ((o:Nat):Int))=st l i o from rfl,nC hi,af,sign_eq,af,eta]
 dsimp only
 unfold mz at hs
 by_cases h3:(aa l i).Kind=3
 · rw [if_pos h3] at hs
   rw [if_neg (by simpa using h3),if_pos hs]
 · rw [if_pos h3]
end Go.Sy.Ex
namespace Go.Sy.Ex
open Go.Sy
theorem Bp (k:Nat) (s:aG):dN (k+1) s 6=(oE (dN k) s).bind fun r1=>some (ah.mk r1.1.Kind r1.1.N r1.1.Name r1.1.Kids r1.1.At,r1.2):=by
 show nh (dN k) k s 6=_
 unfold nh
 rw [if_pos rfl]
theorem P6 {t:T} {K:List Tk} {n:Nat} (h:Sg t K n):P t K n 6:=fun l i o hl hs hi ho _=>by
 obtain ⟨e,Z,Z2,he,hr⟩:=h l i o hl hs hi ho
 refine ⟨e,Z+1,he,fun k hk=> ?_⟩
 obtain ⟨k,rfl⟩: ∃ j,k=j+1:=⟨k - 1,by omega⟩
 rw [Bp,show oE (dN k) (st l i o)=some (e,st l (i+K.length) o) from cX Z2 fun j hj=>hr k (by omega) j hj,af,eta]
theorem I3 {t:T} {K:List Tk} {n:Nat} {m:Int} (h1:1≤m) (h:Qp t K n m):P t K n m:=fun l i o hl hs hi ho hv=>by
 obtain ⟨e,Z,j,he,hj,hr⟩:=h l i o hl hs hi ho (by omega)
 refine ⟨e,Z+1,he,fun k hk=> ?_⟩
 obtain ⟨k,rfl⟩: ∃ j,k=j+1:=⟨k - 1,by omega⟩
 rw [hr k (by omega)]
 exact F7 k _ l _ o h1 hi (by omega) e (by omega)
theorem I0 {t:T} {K:List Tk} {n:Nat} {m:Int} (h1:1≤m) (h5:m≤5) (h:P t K n (m+1)):Qp t K n m:=fun l i o hl hs hi ho hv=>by
 obtain ⟨e,Z,he,hr⟩:=h l i o hl hs hi ho (by omega)
 exact ⟨e,Z+1,0,he,by omega,fun k hk=>by rw [Br k l i o h1 h5 (hr k (by omega)),Nat.sub_zero]⟩
theorem IZ {t:T} {K:List Tk} {n:Nat} {m:Int} (h1:1≤m) (h5:m≤5) (h:P t K n (m+1)):P t K n m:=I3 h1 (I0 h1 h5 h)
def vH (t:T):Prop:=Sg t (toks t 6) (kK t 6)∧(∀ m:Int,1≤m→m≤6→P t (toks t m) (kK t m) m)∧ ∀ m:Int,1≤m→m≤5→m≠3→Qp t (toks t m) (kK t m) m
theorem down {t:T} {K:List Tk} {n:Nat} (h6:P t K n 6): ∀ (j:Nat) (m:Int),m=6 - (j:Int)→1≤m→P t K n m
 | 0, m, hm, _ => by have : m = 6 := by omega
                     subst this; exact h6
 | j+1,m,hm,hl=>IZ (by omega) (by omega) (down h6 j (m+1) (by omega) (by omega))
theorem Sg.at {t:T} {K:List Tk} {n:Nat} (h:Sg t K n) (m:Int) (h1:1≤m) (h6:m≤6):P t K n m:=down (P6 h) (6 - m).toNat m (by omega) h1
end Go.Sy.Ex
namespace Go.Sy.Ex
open Go.Sy
def h2 (y:UInt8):Bool:= !decide (y=61∨y=62∨y=38∨y=124)
def h1 (x:UInt8):Bool:= !decide (x=45∨x=61∨x=33∨x=60∨x=62∨x=38∨x=124)
theorem Pn (x y:UInt8) (h:h2 y=true): [x,y] ∉ gA:=by
 unfold h2 at h
 simp only [Bool.not_eq_true',decide_eq_false_iff_not,not_or] at h
 simp [gA,h]
theorem Pm (x y:UInt8) (h:h1 x=true): [x,y] ∉ gA:=by
 unfold h1 at h
 simp only [Bool.not_eq_true',decide_eq_false_iff_not,not_or] at h
 simp [gA,h]
theorem Rn {a b:List UInt8} (h: ∀ y,b.head?=some y→nm y=false∧h2 y=true):iE a b=true:=by
 unfold iE
 split
 · rename_i x y hx hy
   obtain ⟨e1,e2⟩:=h y hy
   rw [e1,Bool.and_false,decide_eq_false (Pn x y e2)]; rfl
 · rfl
theorem yC {a b:List UInt8} (h: ∀ x,a.getLast?=some x→nm x=false∧h1 x=true):iE a b=true:=by
 unfold iE
 split
 · rename_i x y hx hy
   obtain ⟨e1,e2⟩:=h x hx
   rw [e1,Bool.false_and,decide_eq_false (Pm x y e2)]; rfl
 · rfl
theorem Lx.par {c:Prop} [Decidable c] {s:List UInt8} {K:List Tk} (h:Lx s K):Lx (Ex.par c s) (nG c K):=by
 unfold Ex.par nG
 split
 · refine Lx.append (a:=40::s) (Lx.append (a:= [40]) (b:=s) (Ka:= [(3,cH,0)]) (nw 2 (by decide)) h (yC fun x hx=>by cases hx; decide)) (Kb:= [(3,cx,0)]) (nw 2 (by decide)) (Rn fun x hx=>by cases hx; decide)
 · exact h
theorem Lx.vp {k:Int} (h:7≤k∧k≤19):Lx (bY++vp k++bY) [(3,Ex.vp k,0)]:=by
 have hk:k=7∨k=8∨k=9∨k=10∨k=11∨k=12∨k=13∨k=14∨k=15∨k=16∨k=17∨k=18∨k=19:=by omega
 rcases hk with rfl | rfl | rfl | rfl | rfl | rfl | rfl | rfl | rfl | rfl | rfl | rfl | rfl <;> exact nw 3 (by decide)
end Go.Sy.Ex
namespace Go.Sy.Ex
open Go.Sy
theorem QN (s:List UInt8): ∀ m n,n+m=35→ ∀ k,m+1≤k→u0 k s Db ((n:Nat):Int)=some (decide (s ∈ ld.drop n)):=by
 intro m
 induction m with
 | zero=>
  intro n h k hk
  obtain ⟨k,rfl⟩: ∃ j,k=j+1:=⟨k - 1,by omega⟩
  obtain rfl:n=35:=by omega
  simp only [u0]
  rw [if_neg (by omega)]
  rfl
 | succ m ih=>
  intro n h k hk
  obtain ⟨k,rfl⟩: ∃ j,k=j+1:=⟨k - 1,by omega⟩
  have hlt:n<ld.length:=by rw [SR]; omega
  have e:au ((n:Int)+1)=((n+1:Nat):Int):=by rw [dr (by omega) (by omega)]; omega
  have hlen:(n:Int)<(ld.length:Int):=by omega
  simp only [u0]
  rw [if_pos (by omega),if_pos (by omega),if_pos hlen,e,ih (n+1) (by omega) k (by omega),List.drop_eq_getElem_cons hlt]
  by_cases hx:ld.getD (((n:Nat):Int).toNat) []=s
  · rw [if_pos hx]
    rw [Int.toNat_natCast,hY _ hlt] at hx
    rw [hx]
    simp
  · rw [if_neg hx]
    rw [Int.toNat_natCast,hY _ hlt] at hx
    congr 1
    rw [decide_eq_decide,List.mem_cons]
    exact ⟨.inr,fun q=>q.elim (fun q=>absurd q.symm hx) id⟩
theorem QM (s:List UInt8):GU s=some (fm s):=cX 36 fun k hk=>QN s 35 0 rfl k hk
end Go.Sy.Ex
namespace Go.Sy.Ex
open Go.Sy
def Fw:Nat→ah→Prop
 | 0,_=>False
 | n+1,e=>(e.Kids.length≤n+2∧e.Kids.length≤10000000000000)∧e.Name.length≤199999999999999∧(-9223372036854775808≤e.N∧e.N≤9223372036854775807)∧ ∀ x ∈ e.Kids,Fw n x
def Tr (e:ah):Prop:= ∃ t,Is t e∧t.ok
def inr:T→Nat
 | .un k t=>kK t 6
 | .bin k x y=>max (kK x (xw k)) (kK y (x6 k))
 | _=>0
end Go.Sy.Ex
namespace Go.Sy.Ex
open Go.Sy
theorem NZ:Lib.itoa 2= [50]:=by rw [ux (by decide),show (2:Int).toNat=2 from rfl,lG (by decide)]; rfl
theorem Fw.up: ∀ {n m:Nat} {e:ah},Fw n e→n≤m→Fw m e
 | 0,_,_,h,_=>h.elim
 | n+1,0,_,_,h=>by omega
 | n+1,m+1,e,⟨h1,h2,h3,h4⟩,h=>⟨by omega,h2,h3,fun x hx=>Fw.up (h4 x hx) (by omega)⟩
end Go.Sy.Ex
namespace Go.Sy.Ex
open Go.Sy
theorem nx {n:Nat} (h:n<100000000000000):au ((n:Int)+1)=((n+1:Nat):Int):=by rw [dr (by omega) (by omega)]; omega
end Go.Sy.Ex
namespace Go.Sy.Ex
open Go.Sy
end Go.Sy.Ex
namespace Go.Sy.Ex
open Go.Sy
end Go.Sy.Ex
namespace Go.Sy.Ex
open Go.Sy
end Go.Sy.Ex
namespace Go.Sy.Ex
open Go.Sy
end Go.Sy.Ex
namespace Go.Sy.Ex
open Go.Sy
def rs (l:List ak) (i o:Nat):aS:=⟨l,(i:Int),(o:Int),⟨0,0⟩⟩
def er (t:ak):aQ:=if t.Kind=4 then ⟨12,t.At⟩ else ⟨11,t.At⟩
theorem lC (t:ak):(er t).Code≠0:=by unfold er; split <;> (dsimp only; decide)
section
variable {l:List ak} {i o:Nat}
theorem nP (hi:i<l.length) (s:List UInt8):nO (rs l i o) s=some (aK (aa l i) s,rs l i o):=by
 have h:xY l ((i:Nat):Int) s=some (aK (aa l i) s):=by
  unfold xY aK
  have e:l.getD ((i:Nat):Int).toNat ak.z=aa l i:=by rw [Int.toNat_natCast]; rfl
  rw [e]
  have a1:((i:Nat):Int)<(l.length:Int):=by omega
  have a2:0≤((i:Nat):Int):=by omega
  simp only [a1,a2,if_true]
  by_cases h3:(aa l i).Kind=3
  · rw [if_pos h3]; congr 1; rw [decide_eq_decide]; simp [h3]
  · rw [if_neg h3]
    by_cases h1:(aa l i).Kind=1
    · rw [if_pos h1]; congr 1; rw [decide_eq_decide]; simp [h1]
    · rw [if_neg h1]; congr 1; symm; rw [decide_eq_false_iff_not]; rintro ⟨h | h,_⟩ <;> contradiction
 show (xY l ((i:Nat):Int) s).bind _=_
 rw [h,af]
theorem PX (hi:i<l.length):xX l ((i:Nat):Int)=some (er (aa l i)):=by
 unfold xX er
 have e:l.getD ((i:Nat):Int).toNat ak.z=aa l i:=by rw [Int.toNat_natCast]; rfl
 rw [e]
 have a1:((i:Nat):Int)<(l.length:Int):=by omega
 have a2:0≤((i:Nat):Int):=by omega
 simp only [a1,a2,if_true]
 split <;> rfl
theorem B9 (hi:i<l.length):rA (rs l i o)=some (ah.mk 0 0 [] [] 0,aS.mk l (i:Int) (o:Int) (er (aa l i))):=by
 unfold rA
 rw [if_pos (by rfl)]
 show (xX l ((i:Nat):Int)).bind _=_
 rw [PX hi,af]; rfl
theorem CF (hi:i<l.length):jd (st l i o)=some (aG.mk (aY.mk l (i:Int) (er (aa l i))) (o:Int)):=by
 unfold jd
 rw [nC hi,af]
 dsimp only
 unfold er
 by_cases h4:(aa l i).Kind=4
 · rw [if_pos h4,if_pos h4]
   unfold j0
   rw [xD,af]
   rfl
 · rw [if_neg h4,if_neg h4]
   unfold j0
   rw [xD,af]
   rfl
theorem CB (hi:i<l.length) (hl:l.length≤100000) {s:List UInt8} (h:aK (aa l i) s=false):gC (st l i o) s=some (aG.mk (aY.mk l (i:Int) (er (aa l i))) (o:Int)):=by
 unfold gC
 rw [yI hi hl,af,h]
 dsimp only [Bool.not_false,cond_true]
 rw [if_neg (by decide),CF hi,af]
 rfl
theorem yd (hi:i<l.length) (hl:l.length≤100000) {s:List UInt8} (h:aK (aa l i) s=true):gU (rs l i o) s=some (rs l (i+1) o):=by
 unfold gU
 rw [if_neg (by intro q; exact q rfl),nP hi,af,h]
 show some (aS.mk l (au ((i:Int)+1)) (o:Int) ⟨0,0⟩)=_
 rw [gz hi hl]; rfl
theorem B8 (hi:i<l.length) {s:List UInt8} (h:aK (aa l i) s=false):gU (rs l i o) s=some (aS.mk l (i:Int) (o:Int) (er (aa l i))):=by
 unfold gU
 rw [if_neg (by intro q; exact q rfl),nP hi,af,h]
 dsimp only [Bool.not_false,cond_true]
 rw [B9 hi,af]
 rfl
theorem BZ (hi:i<l.length):pO l ((i:Nat):Int)=some (decide ((aa l i).Kind=1)&& !fm (aa l i).Text):=by
 unfold pO
 have e:l.getD ((i:Nat):Int).toNat ak.z=aa l i:=by rw [Int.toNat_natCast]; rfl
 rw [e]
 have a1:((i:Nat):Int)<(l.length:Int):=by omega
 have a2:0≤((i:Nat):Int):=by omega
 simp only [a1,a2,if_true]
 by_cases h1:(aa l i).Kind=1
 · rw [if_pos h1,QM,af,decide_eq_true h1,Bool.true_and]
 · rw [if_neg h1,decide_eq_false h1,Bool.false_and]
theorem u6 (hi:i<l.length) (hl:l.length≤100000) (ho:o<12):iA (rs l i o)=some (true,rs l (i+1) (o+1)):=by
 unfold iA
 rw [if_neg (by show ¬ ((o:Nat):Int)=12; omega)]
 show some (true,aS.mk l (au ((i:Int)+1)) (au ((o:Int)+1)) ⟨0,0⟩)=_
 rw [gz hi hl,show au (((o:Nat):Int)+1)=((o+1:Nat):Int) from by rw [dr (by omega) (by omega)]; omega]
 rfl
theorem GV (hi:i<l.length):iA (rs l i 12)=some (false,aS.mk l (i:Int) 12 ⟨14,(aa l i).At⟩):=by
 unfold iA
 rw [if_pos (by rfl),if_pos (by show (0:Int)≤(i:Int); omega),if_pos (by show ((i:Nat):Int)<(l.length:Int); omega)]
 show some (false,aS.mk l (i:Int) 12 ⟨14,(l.getD ((i:Nat):Int).toNat ak.z).At⟩)=_
 rw [Int.toNat_natCast]; rfl
theorem DY (a:Int):gP (st l i 12) a=some (false,aG.mk (aY.mk l (i:Int) ⟨14,a⟩) 12):=by
 unfold gP
 rw [if_pos (by rfl)]
 unfold j0
 rw [xD,af]
 rfl
end
section
variable {s:aG} (h:s.Row.aI.Code≠0)
include h
theorem Gj:kN s=some (false,s):=by unfold kN; rw [decide_eq_false h]
theorem uG:fN s=some (ak.mk 4 0 0 [] 0,s):=by
 unfold fN; rw [Gj h,af]; rfl
theorem NX (x:List UInt8):jb s x=some (false,s):=by
 unfold jb; rw [uG h,af]; rfl
theorem RU (x:List UInt8):kO s x=some (false,s):=by
 unfold kO; rw [NX h,af]; rfl
theorem LS (c a:Int):j0 s c a=some s:=by
 unfold j0; rw [Gj h,af]; rfl
theorem Iv:jd s=some s:=by
 unfold jd; rw [uG h,af]
 dsimp only
 rw [if_pos rfl,LS h,af]
theorem CA (x:List UInt8):gC s x=some s:=by
 unfold gC; rw [RU h,af]
 dsimp only [Bool.not_false,cond_true]
 rw [Iv h,af]
 rfl
theorem NY:lZ s=some (false,s):=by
 unfold lZ; rw [uG h,af]; rfl
theorem O2:j4 s=some ([],s):=by
 unfold j4; rw [NY h,af]
 dsimp only [Bool.not_false,cond_true]
 rw [Iv h,af]
 rfl
end
theorem Rb {s:aS} (h:s.bad.Code≠0) (x:List UInt8):gU s x=some s:=by unfold gU; rw [if_pos h]
theorem Ee (s:aG):aG.mk (aY.mk s.Row.L s.Row.At (aQ.mk s.Row.aI.Code s.Row.aI.At)) s.a_=s:=by cases s; rename_i r o; cases r; rename_i l a f; cases f; rfl
theorem GX (s:aS):aS.mk s.l s.aj s.a_ (aQ.mk s.bad.Code s.bad.At)=s:=by cases s; rename_i l a o f; cases f; rfl
def Fe:Nat→ah→Prop
 | 0,_=>False
 | n+1,e=>e.Kids.length≤2∧ ∀ x ∈ e.Kids,Fe n x
def Fd (e:ah):Prop:= ∃ n,Fe n e
theorem Fe.up: ∀ {n m:Nat} {e:ah},Fe n e→n≤m→Fe m e
 | 0,_,_,h,_=>h.elim
 | n+1,0,_,_,h=>by omega
 | n+1,m+1,e,⟨h1,h4⟩,h=>⟨h1,fun x hx=>Fe.up (h4 x hx) (by omega)⟩
theorem Fd.leaf {e:ah} (h:e.Kids= []):Fd e:=⟨1,by rw [h]; decide,by rw [h]; intro x hx; cases hx⟩
theorem Fd.one {e x:ah} (h:e.Kids= [x]) (hx:Fd x):Fd e:=by
 obtain ⟨n,hn⟩:=hx
 exact ⟨n+1,by rw [h]; simp,by rw [h]; intro y hy; rw [List.mem_singleton] at hy; subst hy; exact hn⟩
theorem Fd.two {e x y:ah} (h:e.Kids= [x,y]) (hx:Fd x) (hy:Fd y):Fd e:=by
 obtain ⟨n,hn⟩:=hx
 obtain ⟨m,hm⟩:=hy
 refine ⟨max n m+1,by rw [h]; simp, ?_⟩
 rw [h]; intro z hz
 simp only [List.mem_cons,List.not_mem_nil,or_false] at hz
 rcases hz with rfl | rfl
 · exact hn.up (by omega)
 · exact hm.up (by omega)
def Out (l:List ak) (i o:Nat) (f:Nat→Nat→Option (ah×aG)) (g:Nat→Nat→Option (ah×aS)):Prop:=
 (∃ e i' Z,i≤i'∧i'<l.length∧Fd e∧(∀ k,Z≤k→ ∀ k2,Z≤k2→f k k2=some (e,st l i' o))∧ ∀ k,Z≤k→ ∀ k2,Z≤k2→g k k2=some (e,rs l i' o))∨
 (∃ e s e' s' Z,s.Row.aI.Code≠0∧s'.bad=s.Row.aI∧(∀ k,Z≤k→ ∀ k2,Z≤k2→f k k2=some (e,s))∧ ∀ k,Z≤k→ ∀ k2,Z≤k2→g k k2=some (e',s'))
def R (l:List ak) (m:Int) (i o:Nat):Prop:=Out l (i+1) o (fun k _=>dN k (st l i o) m) (fun k _=>fh k (rs l i o) m)
def SG (l:List ak) (i o:Nat):Prop:=Out l (i+1) o (fun k k2=>hO (dN k) k2 (st l i o)) (fun k k2=>kQ (fh k) k2 (rs l i o))
structure Ok (l:List ak):Prop where
 len:l.length≤100000
 word: ∀ i,(aa l i).Kind=1→(aa l i).Text≠cH
 more: ∀ i,i<l.length→(aa l i).Kind≠4→i+1<l.length
theorem gr {l:List ak} {i0 o:Nat} {f:Nat→Nat→Option (ah×aG)} {g:Nat→Nat→Option (ah×aS)} {e:ah} {s:aG} {e':ah} {s':aS} (Z:Nat) (h1:s.Row.aI.Code≠0) (h2:s'.bad=s.Row.aI) (hf: ∀ k,Z≤k→ ∀ k2,Z≤k2→f k k2=some (e,s)) (hg: ∀ k,Z≤k→ ∀ k2,Z≤k2→g k k2=some (e',s')):Out l i0 o f g:= .inr ⟨e,s,e',s',Z,h1,h2,hf,hg⟩
section
variable {l:List ak} (H:Ok l)
include H
theorem PR {i o:Nat} (hi:i<l.length) (ho:o≤12) (IH: ∀ j o',i<j→j<l.length→o'≤12→R l 1 j o'):
 Out l (i+1) o (fun k _=>jO (dN k) (st l i o)) (fun k _=>je (fh k) (rs l i o)):=by
 have hl:=H.len
 have more:=fun h4=>H.more i hi h4
 have a1:((i:Nat):Int)<(l.length:Int):=by omega
 have a2:0≤((i:Nat):Int):=by omega
 have et:l.getD ((i:Nat):Int).toNat ak.z=aa l i:=by rw [Int.toNat_natCast]; rfl
 have Ti: ∀ i' o',aS.mk l ((i':Nat):Int) ((o':Nat):Int) ⟨0,0⟩=rs l i' o':=fun _ _=>rfl
 have f0: ∀ self,jO self (st l i o)=(if (aa l i).Kind=2 then
  some (ah.mk 1 (aa l i).N [] [] (aa l i).At,st l (i+1) o) else
  bif aK (aa l i) nU then some (ah.mk 3 0 [] [] (aa l i).At,st l (i+1) o) else
  bif decide ((aa l i).Kind=1)&& !fm (aa l i).Text then some (ah.mk 2 0 (aa l i).Text [] (aa l i).At,st l (i+1) o) else
  bif aK (aa l i) iD then
  (gC (st l (i+1) o) cH).bind fun r6=>
  (j4 r6).bind fun r7=>
  (gC r7.2 cx).bind fun r8=>
  some (ah.mk 4 0 r7.1 [] (aa l i).At,r8) else
  bif !aK (aa l i) cH then
  (jd (st l i o)).bind fun bf=>
  some (ah.mk 0 0 [] [] 0,bf) else
  (gP (st l i o) (aa l i).At).bind fun cl=>
  bif !cl.1 then
  some (ah.mk 0 0 [] [] 0,cl.2) else
  (self cl.2 1).bind fun bA=>
  (gC bA.2 cx).bind fun cu=>
  some (ah.mk bA.1.Kind bA.1.N bA.1.Name bA.1.Kids bA.1.At,aG.mk cu.Row (au (cu.a_ - 1)))):=fun self=>by
  unfold jO
  rw [nC hi,af]
  dsimp only
  by_cases k2:(aa l i).Kind=2
  · rw [if_pos k2,if_pos k2]
    show some (_,(⟨⟨l,au (((i:Nat):Int)+1),⟨0,0⟩⟩,(o:Int)⟩:aG))=_
    rw [gz hi hl]; rfl
  rw [if_neg k2,if_neg k2,yI hi hl,af]
  dsimp only
  cases aK (aa l i) nU with
  | true=>rfl
  | false=>
   rw [cond_false,cond_false,if_neg (by decide),AT hi,af]
   dsimp only
   cases hn:(decide ((aa l i).Kind=1)&& !fm (aa l i).Text) with
   | true=>
    rw [Bool.and_eq_true,decide_eq_true_eq,Bool.not_eq_true'] at hn
    rw [cond_true,cond_true,Gb hi hl hn.1 hn.2,af]
   | false=>
    rw [cond_false,cond_false,yI hi hl,af]
    dsimp only
    cases aK (aa l i) iD with
    | true=>rfl
    | false=>
     rw [cond_false,cond_false,if_neg (by decide),xe hi,af]
 have g0: ∀ self,je self (rs l i o)=(if (aa l i).Kind=2 then
  some (ah.mk 1 (aa l i).N [] [] (aa l i).At,rs l (i+1) o) else
  bif aK (aa l i) nU then some (ah.mk 3 0 [] [] (aa l i).At,rs l (i+1) o) else
  bif aK (aa l i) iD then
  (gU (rs l (i+1) o) cH).bind fun r3=>
  if r3.bad.Code≠0 then
  some (ah.mk 0 0 [] [] 0,r3) else
  (pO r3.l r3.aj).bind fun r4=>
  bif !r4 then
  (rA r3).bind fun r5=>
  some (ah.mk r5.1.Kind r5.1.N r5.1.Name r5.1.Kids r5.1.At,r5.2) else
  if 0≤r3.aj then
  if r3.aj<(r3.l.length:Int) then
  (gU (aS.mk r3.l (au (r3.aj+1)) r3.a_ r3.bad) cx).bind fun r6=>
  some (ah.mk 4 0 ((r3.l.getD r3.aj.toNat ak.z).Text) [] (aa l i).At,r6) else none else none else
  bif aK (aa l i) cH then
  (iA (rs l i o)).bind fun r8=>
  bif !r8.1 then
  some (ah.mk 0 0 [] [] 0,r8.2) else
  (self r8.2 1).bind fun r9=>
  (gU r9.2 cx).bind fun bf=>
  some (ah.mk r9.1.Kind r9.1.N r9.1.Name r9.1.Kids r9.1.At,aS.mk bf.l bf.aj (au (bf.a_ - 1)) bf.bad) else
  bif decide ((aa l i).Kind=1)&& !fm (aa l i).Text then
  some (ah.mk 2 0 (aa l i).Text [] (aa l i).At,rs l (i+1) o) else
  some (ah.mk 0 0 [] [] 0,aS.mk l (i:Int) (o:Int) (er (aa l i)))):=fun self=>by
  unfold je
  have xC:aS.mk l (au ((i:Int)+1)) (o:Int) ⟨0,0⟩=rs l (i+1) o:=by rw [gz hi hl]; rfl
  have q1:(rs l i o).aj=(i:Int):=rfl
  have q2:(rs l i o).l=l:=rfl
  have q3:(rs l i o).a_=(o:Int):=rfl
  have q4:(rs l i o).bad=⟨0,0⟩:=rfl
  rw [q1,q2,q3,q4,et,xC,if_pos a2,if_pos a1,nP hi,af]
  by_cases k2:(aa l i).Kind=2
  · rw [if_pos k2,if_pos k2]
  rw [if_neg k2,if_neg k2]
  dsimp only
  rw [q1,q2,q3,q4,xC]
  cases aK (aa l i) nU with
  | true=>rfl
  | false=>
   rw [cond_false,cond_false,nP hi,af]
   dsimp only
   rw [q1,q2,q3,q4,xC]
   cases aK (aa l i) iD with
   | true=>rfl
   | false=>
    rw [cond_false,cond_false,nP hi,af]
    dsimp only
    cases aK (aa l i) cH with
    | true=>rfl
    | false=>
     rw [cond_false,cond_false,q1,q2,q3,q4,xC,BZ hi,af,B9 hi,af]
 by_cases k2:(aa l i).Kind=2
 · refine .inl ⟨ah.mk 1 (aa l i).N [] [] (aa l i).At,i+1,0,Nat.le_refl _,more (by omega),Fd.leaf rfl,fun k _ _ _=> ?_,fun k _ _ _=> ?_⟩
   · (try dsimp only); rw [f0,if_pos k2]
   · (try dsimp only); rw [g0,if_pos k2]
 cases hd:aK (aa l i) nU with
 | true=>
  have hk:=(of_decide_eq_true hd).1
  refine .inl ⟨ah.mk 3 0 [] [] (aa l i).At,i+1,0,Nat.le_refl _,more (by omega),Fd.leaf rfl,fun k _ _ _=> ?_,fun k _ _ _=> ?_⟩
  · (try dsimp only); rw [f0,if_neg k2,hd,cond_true]
  · (try dsimp only); rw [g0,if_neg k2,hd,cond_true]
 | false=>
  cases hn:(decide ((aa l i).Kind=1)&& !fm (aa l i).Text) with
  | true=>
   have hn':=hn
   rw [Bool.and_eq_true,decide_eq_true_eq,Bool.not_eq_true'] at hn'
   have n1:aK (aa l i) iD=false:=by
    unfold aK; rw [decide_eq_false_iff_not]; rintro ⟨_,q⟩; rw [q] at hn'; exact absurd hn'.2 (by decide)
   have n2:aK (aa l i) cH=false:=by
    unfold aK; rw [decide_eq_false_iff_not]; rintro ⟨_,q⟩; exact H.word i hn'.1 q
   refine .inl ⟨ah.mk 2 0 (aa l i).Text [] (aa l i).At,i+1,0,Nat.le_refl _,more (by omega),Fd.leaf rfl,fun k _ _ _=> ?_,fun k _ _ _=> ?_⟩
   · (try dsimp only); rw [f0,if_neg k2,hd,cond_false,hn,cond_true]
   · (try dsimp only); rw [g0,if_neg k2,hd,cond_false,n1,cond_false,n2,cond_false,hn,cond_true]
  | false=>
   cases hin:aK (aa l i) iD with
   | true=>
    have hk:=(of_decide_eq_true hin).1
    have hm:=more (by omega)
    cases ia:aK (aa l (i+1)) cH with
    | false=>
     refine gr 0 (e:=ah.mk 4 0 [] [] (aa l i).At) (s:=aG.mk (aY.mk l ((i+1:Nat):Int) (er (aa l (i+1)))) (o:Int)) (e':=ah.mk 0 0 [] [] 0) (s':=aS.mk l ((i+1:Nat):Int) (o:Int) (er (aa l (i+1)))) (lC _) rfl (fun k _ _ _=> ?_) (fun k _ _ _=> ?_)
     · (try dsimp only); rw [f0,if_neg k2,hd,cond_false,hn,cond_false,hin,cond_true,CB hm hl ia,af,O2 (lC _),af]
       dsimp only
       rw [CA (lC _),af]
     · (try dsimp only); rw [g0,if_neg k2,hd,cond_false,hin,cond_true,B8 hm ia,af,if_pos (lC _)]
    | true=>
     have hk':=(of_decide_eq_true ia).1
     have hm2:=H.more (i+1) hm (by omega)
     have b1:(rs l (i+1) o).bad.Code=0:=rfl
     have b2:(rs l (i+1) o).l=l:=rfl
     have b3:(rs l (i+1) o).aj=((i+1:Nat):Int):=rfl
     cases hnm:(decide ((aa l (i+1+1)).Kind=1)&& !fm (aa l (i+1+1)).Text) with
     | false=>
      refine gr 0 (e:=ah.mk 4 0 [] [] (aa l i).At) (s:=aG.mk (aY.mk l ((i+1+1:Nat):Int) (er (aa l (i+1+1)))) (o:Int)) (e':=ah.mk 0 0 [] [] 0) (s':=aS.mk l ((i+1+1:Nat):Int) (o:Int) (er (aa l (i+1+1)))) (lC _) rfl (fun k _ _ _=> ?_) (fun k _ _ _=> ?_)
      · (try dsimp only); rw [f0,if_neg k2,hd,cond_false,hn,cond_false,hin,cond_true,yN hm hl ia,af]
        have hname:j4 (st l (i+1+1) o)=some ([],aG.mk (aY.mk l ((i+1+1:Nat):Int) (er (aa l (i+1+1)))) (o:Int)):=by
         unfold j4
         rw [AT hm2,af,hnm]
         dsimp only [Bool.not_false,cond_true]
         rw [CF hm2,af]
         rfl
        rw [hname,af]
        dsimp only
        rw [CA (lC _),af]
      · (try dsimp only); rw [g0,if_neg k2,hd,cond_false,hin,cond_true,yd hm hl ia,af,if_neg (by intro q; exact q rfl)]
        show (pO l ((i+1+1:Nat):Int)).bind _=_
        rw [BZ hm2,hnm,af]
        rw [Bool.not_false,cond_true]
        rw [B9 hm2,af]
     | true=>
      have Aq:=hnm
      rw [Bool.and_eq_true,decide_eq_true_eq,Bool.not_eq_true'] at Aq
      have e9:=H.more (i+1+1) hm2 (by omega)
      have oI: ∀ self,jO self (st l i o)=(gC (st l (i+1+1+1) o) cx).bind fun r8=>some (ah.mk 4 0 (aa l (i+1+1)).Text [] (aa l i).At,r8):=fun self=>by
       rw [f0,if_neg k2,hd,cond_false,hn,cond_false,hin,cond_true,yN hm hl ia,af,Gb hm2 hl Aq.1 Aq.2,af]
      have oK: ∀ self,je self (rs l i o)=(gU (rs l (i+1+1+1) o) cx).bind fun r6=>some (ah.mk 4 0 (aa l (i+1+1)).Text [] (aa l i).At,r6):=fun self=>by
       rw [g0,if_neg k2,hd,cond_false,hin,cond_true,yd hm hl ia,af,if_neg (by intro q; exact q rfl)]
       show (pO l ((i+1+1:Nat):Int)).bind _=_
       rw [BZ hm2,hnm,af]
       rw [Bool.not_true,cond_false]
       rw [if_pos (by show (0:Int)≤((i+1+1:Nat):Int); omega),if_pos (by show ((i+1+1:Nat):Int)<(l.length:Int); omega)]
       show (gU (aS.mk l (au (((i+1+1:Nat):Int)+1)) (o:Int) ⟨0,0⟩) cx).bind _=_
       rw [gz hm2 hl]
       rfl
      cases jT:aK (aa l (i+1+1+1)) cx with
      | false=>
       refine gr 0 (e:=ah.mk 4 0 (aa l (i+1+1)).Text [] (aa l i).At) (s:=aG.mk (aY.mk l ((i+1+1+1:Nat):Int) (er (aa l (i+1+1+1)))) (o:Int)) (e':=ah.mk 4 0 (aa l (i+1+1)).Text [] (aa l i).At) (s':=aS.mk l ((i+1+1+1:Nat):Int) (o:Int) (er (aa l (i+1+1+1)))) (lC _) rfl (fun k _ _ _=> ?_) (fun k _ _ _=> ?_)
       · (try dsimp only); rw [oI,CB e9 hl jT,af]
       · (try dsimp only); rw [oK,B8 e9 jT,af]
      | true=>
       have MZ:=(of_decide_eq_true jT).1
       refine .inl ⟨ah.mk 4 0 (aa l (i+1+1)).Text [] (aa l i).At,i+1+1+1+1,0,by omega,H.more _ e9 (by omega),Fd.leaf rfl,fun k _ _ _=> ?_,fun k _ _ _=> ?_⟩
       · (try dsimp only); rw [oI,yN e9 hl jT,af]
       · (try dsimp only); rw [oK,yd e9 hl jT,af]
   | false=>
    cases ia:aK (aa l i) cH with
    | false=>
     refine gr 0 (e:=ah.mk 0 0 [] [] 0) (s:=aG.mk (aY.mk l (i:Int) (er (aa l i))) (o:Int)) (e':=ah.mk 0 0 [] [] 0) (s':=aS.mk l (i:Int) (o:Int) (er (aa l i))) (lC _) rfl (fun k _ _ _=> ?_) (fun k _ _ _=> ?_)
     · (try dsimp only); rw [f0,if_neg k2,hd,cond_false,hn,cond_false,hin,cond_false,ia,Bool.not_false,cond_true,CF hi,af]
     · (try dsimp only); rw [g0,if_neg k2,hd,cond_false,hin,cond_false,ia,cond_false,hn,cond_false]
    | true=>
     have hk:=(of_decide_eq_true ia).1
     have hm:=more (by omega)
     have oI: ∀ self,jO self (st l i o)=_:=fun self=>by
      rw [f0,if_neg k2,hd,cond_false,hn,cond_false,hin,cond_false,ia,Bool.not_true,cond_false]
     have oK: ∀ self,je self (rs l i o)=_:=fun self=>by
      rw [g0,if_neg k2,hd,cond_false,hin,cond_false,ia,cond_true]
     by_cases h12:o=12
     · subst h12
       refine gr 0 (e:=ah.mk 0 0 [] [] 0) (s:=aG.mk (aY.mk l (i:Int) ⟨14,(aa l i).At⟩) 12) (e':=ah.mk 0 0 [] [] 0) (s':=aS.mk l (i:Int) 12 ⟨14,(aa l i).At⟩) (by show (14:Int)≠0; decide) rfl (fun k _ _ _=> ?_) (fun k _ _ _=> ?_)
       · (try dsimp only); rw [oI,DY,af]; rfl
       · (try dsimp only); rw [oK,GV hi,af]; rfl
     · have hw:au (((o+1:Nat):Int) - 1)=(o:Int):=by rw [dr (by omega) (by omega)]; omega
       rcases IH (i+1) (o+1) (by omega) hm (by omega) with ⟨e,i',Z,h1,h2,h3,hf,hg⟩ | ⟨e,s,e',s',Z,h1,h2,hf,hg⟩
       · cases jT:aK (aa l i') cx with
         | false=>
          refine gr Z (e:=e) (s:=aG.mk (aY.mk l ((i':Nat):Int) (er (aa l i'))) (au (((o+1:Nat):Int) - 1))) (e':=e) (s':=aS.mk l ((i':Nat):Int) (au (((o+1:Nat):Int) - 1)) (er (aa l i'))) (lC _) rfl (fun k hk _ hk2=> ?_) (fun k hk _ hk2=> ?_)
          · have hf':=hf k hk _ hk2
            dsimp only at hf' ⊢; rw [oI,tj hi hl (by omega),af]
            dsimp only [Bool.not_true,cond_false]
            rw [hf',af,CB h2 hl jT,af,eta]
            rfl
          · have hg':=hg k hk _ hk2
            dsimp only at hg' ⊢; rw [oK,u6 hi hl (by omega),af]
            dsimp only [Bool.not_true,cond_false]
            rw [hg',af,B8 h2 jT,af,eta]
            rfl
         | true=>
          have MZ:=(of_decide_eq_true jT).1
          refine .inl ⟨e,i'+1,Z,by omega,H.more _ h2 (by omega),h3,fun k hk _ hk2=> ?_,fun k hk _ hk2=> ?_⟩
          · have hf':=hf k hk _ hk2
            dsimp only at hf' ⊢; rw [oI,tj hi hl (by omega),af]
            dsimp only [Bool.not_true,cond_false]
            rw [hf',af,yN h2 hl jT,af,eta]
            show some (e,(⟨⟨l,((i'+1:Nat):Int),⟨0,0⟩⟩,au (((o+1:Nat):Int) - 1)⟩:aG))=_
            rw [hw]; rfl
          · have hg':=hg k hk _ hk2
            dsimp only at hg' ⊢; rw [oK,u6 hi hl (by omega),af]
            dsimp only [Bool.not_true,cond_false]
            rw [hg',af,yd h2 hl jT,af,eta]
            show some (e,(⟨l,((i'+1:Nat):Int),au (((o+1:Nat):Int) - 1),⟨0,0⟩⟩:aS))=_
            rw [hw]; rfl
       · refine gr Z (e:=e) (s:=aG.mk s.Row (au (s.a_ - 1))) (e':=e') (s':=aS.mk s'.l s'.aj (au (s'.a_ - 1)) s'.bad) h1 h2 (fun k hk _ hk2=> ?_) (fun k hk _ hk2=> ?_)
         · have hf':=hf k hk _ hk2
           dsimp only at hf' ⊢; rw [oI,tj hi hl (by omega),af]
           dsimp only [Bool.not_true,cond_false]
           rw [hf',af,CA h1,af,eta]
           rfl
         · have hg':=hg k hk _ hk2
           dsimp only at hg' ⊢; rw [oK,u6 hi hl (by omega),af]
           dsimp only [Bool.not_true,cond_false]
           rw [hg',af,Rb (by rw [h2]; exact h1),af,eta]
           rfl
theorem I7 {i o:Nat} (hi:i<l.length) (ho:o≤12) (IH: ∀ j o',i<j→j<l.length→o'≤12→R l 1 j o') (IS: ∀ j o',i<j→j<l.length→o'≤12→SG l j o'):SG l i o:=by
 have hl:=H.len
 have a1:((i:Nat):Int)<(l.length:Int):=by omega
 have a2:0≤((i:Nat):Int):=by omega
 have et:l.getD ((i:Nat):Int).toNat ak.z=aa l i:=by rw [Int.toNat_natCast]; rfl
 have q1:(rs l i o).aj=(i:Int):=rfl
 have q2:(rs l i o).l=l:=rfl
 have fb: ∀ self k2,hO self (k2+1) (st l i o)=(bif aK (aa l i) fu then
  (gP (st l i o) (aa l i).At).bind fun r3=>
  bif !r3.1 then
  some (ah.mk 0 0 [] [] 0,r3.2) else
  (hO self k2 r3.2).bind fun r4=>
  some (ah.mk 5 0 [] [ah.mk r4.1.Kind r4.1.N r4.1.Name r4.1.Kids r4.1.At] (aa l i).At,aG.mk r4.2.Row (au (r4.2.a_ - 1))) else
  bif aK (aa l i) kT then
  (gP (st l i o) (aa l i).At).bind fun r3=>
  bif !r3.1 then
  some (ah.mk 0 0 [] [] 0,r3.2) else
  (hO self k2 r3.2).bind fun r4=>
  some (ah.mk 6 0 [] [ah.mk r4.1.Kind r4.1.N r4.1.Name r4.1.Kids r4.1.At] (aa l i).At,aG.mk r4.2.Row (au (r4.2.a_ - 1))) else
  jO self (st l i o)):=fun self k2=>by
  show wL (hO self k2) self k2 (st l i o)=_
  unfold wL
  rw [nC hi,af]
  dsimp only
  rw [xe hi,af]
  dsimp only
  cases aK (aa l i) fu with
  | true=>rfl
  | false=>
   rw [cond_false,cond_false,xe hi,af]
   dsimp only
   cases aK (aa l i) kT with
   | true=>rfl
   | false=>
    rw [cond_false,cond_false]
    cases jO self (st l i o) with
    | none=>rfl
    | some r=>rw [af,eta]
 have gb: ∀ self k2,kQ self (k2+1) (rs l i o)=(bif aK (aa l i) fu then
  (iA (rs l i o)).bind fun r3=>
  bif !r3.1 then
  some (ah.mk 0 0 [] [] 0,r3.2) else
  (kQ self k2 r3.2).bind fun r4=>
  some (ah.mk 5 0 [] [ah.mk r4.1.Kind r4.1.N r4.1.Name r4.1.Kids r4.1.At] (aa l i).At,aS.mk r4.2.l r4.2.aj (au (r4.2.a_ - 1)) r4.2.bad) else
  bif aK (aa l i) kT then
  (iA (rs l i o)).bind fun r3=>
  bif !r3.1 then
  some (ah.mk 0 0 [] [] 0,r3.2) else
  (kQ self k2 r3.2).bind fun r4=>
  some (ah.mk 6 0 [] [ah.mk r4.1.Kind r4.1.N r4.1.Name r4.1.Kids r4.1.At] (aa l i).At,aS.mk r4.2.l r4.2.aj (au (r4.2.a_ - 1)) r4.2.bad) else
  je self (rs l i o)):=fun self k2=>by
  show BW (kQ self k2) self k2 (rs l i o)=_
  unfold BW
  rw [nP hi,af]
  dsimp only
  cases hm:aK (aa l i) fu with
  | true=>
   have hb:aK (aa l i) kT=false:=by
    have :=(of_decide_eq_true hm).2
    unfold aK; rw [decide_eq_false_iff_not]; rintro ⟨_,q⟩; rw [this] at q; cases q
   rw [cond_true,cond_true,nP hi,af]
   dsimp only
   rw [hb,cond_false,if_neg (by decide),q1,q2,et,if_pos a2,if_pos a1]
  | false=>
   rw [cond_false,cond_false,nP hi,af]
   dsimp only
   cases aK (aa l i) kT with
   | true=>
    rw [cond_true,cond_true,if_neg (by decide),q1,q2,et,if_pos a2,if_pos a1]
   | false=>
    rw [cond_false,cond_false,if_pos rfl]
    cases je self (rs l i o) with
    | none=>rfl
    | some r=>rw [af,eta]
 have Hv: ∀ K:Int,((aa l i).Kind=3∨(aa l i).Kind=1)→
  (∀ self k2,hO self (k2+1) (st l i o)=(gP (st l i o) (aa l i).At).bind fun r3=>
   bif !r3.1 then
   some (ah.mk 0 0 [] [] 0,r3.2) else
   (hO self k2 r3.2).bind fun r4=>
   some (ah.mk K 0 [] [ah.mk r4.1.Kind r4.1.N r4.1.Name r4.1.Kids r4.1.At] (aa l i).At,aG.mk r4.2.Row (au (r4.2.a_ - 1))))→
  (∀ self k2,kQ self (k2+1) (rs l i o)=(iA (rs l i o)).bind fun r3=>
   bif !r3.1 then
   some (ah.mk 0 0 [] [] 0,r3.2) else
   (kQ self k2 r3.2).bind fun r4=>
   some (ah.mk K 0 [] [ah.mk r4.1.Kind r4.1.N r4.1.Name r4.1.Kids r4.1.At] (aa l i).At,aS.mk r4.2.l r4.2.aj (au (r4.2.a_ - 1)) r4.2.bad))→SG l i o:=fun K hk fb gb=>by
  have hm:=H.more i hi (by omega)
  by_cases h12:o=12
  · subst h12
    refine gr 1 (e:=ah.mk 0 0 [] [] 0) (s:=aG.mk (aY.mk l (i:Int) ⟨14,(aa l i).At⟩) 12) (e':=ah.mk 0 0 [] [] 0) (s':=aS.mk l (i:Int) 12 ⟨14,(aa l i).At⟩) (by show (14:Int)≠0; decide) rfl (fun k hk k2 hk2=> ?_) (fun k hk k2 hk2=> ?_)
    · obtain ⟨k2,rfl⟩: ∃ j,k2=j+1:=⟨k2 - 1,by omega⟩
      rw [fb,DY,af]; rfl
    · obtain ⟨k2,rfl⟩: ∃ j,k2=j+1:=⟨k2 - 1,by omega⟩
      rw [gb,GV hi,af]; rfl
  · have hw:au (((o+1:Nat):Int) - 1)=(o:Int):=by rw [dr (by omega) (by omega)]; omega
    rcases IS (i+1) (o+1) (by omega) hm (by omega) with ⟨e,i',Z,h1,h2,h3,hf,hg⟩ | ⟨e,s,e',s',Z,h1,h2,hf,hg⟩
    · refine .inl ⟨ah.mk K 0 [] [e] (aa l i).At,i',Z+1,by omega,h2,Fd.one rfl h3,fun k hk k2 hk2=> ?_,fun k hk k2 hk2=> ?_⟩
      · obtain ⟨k2,rfl⟩: ∃ j,k2=j+1:=⟨k2 - 1,by omega⟩
        have hf':=hf k (by omega) k2 (by omega)
        dsimp only at hf' ⊢
        rw [fb,tj hi hl (by omega),af]
        dsimp only [Bool.not_true,cond_false]
        rw [hf',af,eta]
        show some (_,(⟨⟨l,((i':Nat):Int),⟨0,0⟩⟩,au (((o+1:Nat):Int) - 1)⟩:aG))=_
        rw [hw]; rfl
      · obtain ⟨k2,rfl⟩: ∃ j,k2=j+1:=⟨k2 - 1,by omega⟩
        have hg':=hg k (by omega) k2 (by omega)
        dsimp only at hg' ⊢
        rw [gb,u6 hi hl (by omega),af]
        dsimp only [Bool.not_true,cond_false]
        rw [hg',af,eta]
        show some (_,(⟨l,((i':Nat):Int),au (((o+1:Nat):Int) - 1),⟨0,0⟩⟩:aS))=_
        rw [hw]; rfl
    · refine gr (Z+1) (e:=ah.mk K 0 [] [e] (aa l i).At) (s:=aG.mk s.Row (au (s.a_ - 1))) (e':=ah.mk K 0 [] [e'] (aa l i).At) (s':=aS.mk s'.l s'.aj (au (s'.a_ - 1)) s'.bad) h1 h2 (fun k hk k2 hk2=> ?_) (fun k hk k2 hk2=> ?_)
      · obtain ⟨k2,rfl⟩: ∃ j,k2=j+1:=⟨k2 - 1,by omega⟩
        have hf':=hf k (by omega) k2 (by omega)
        dsimp only at hf' ⊢
        rw [fb,tj hi hl (by omega),af]
        dsimp only [Bool.not_true,cond_false]
        rw [hf',af,eta]
        rfl
      · obtain ⟨k2,rfl⟩: ∃ j,k2=j+1:=⟨k2 - 1,by omega⟩
        have hg':=hg k (by omega) k2 (by omega)
        dsimp only at hg' ⊢
        rw [gb,u6 hi hl (by omega),af]
        dsimp only [Bool.not_true,cond_false]
        rw [hg',af,eta]
        rfl
 cases hm:aK (aa l i) fu with
 | true=>exact Hv 5 (of_decide_eq_true hm).1 (fun self k2=>by rw [fb,hm,cond_true]) (fun self k2=>by rw [gb,hm,cond_true])
 | false=>
  cases hb:aK (aa l i) kT with
  | true=>exact Hv 6 (of_decide_eq_true hb).1 (fun self k2=>by rw [fb,hm,cond_false,hb,cond_true]) (fun self k2=>by rw [gb,hm,cond_false,hb,cond_true])
  | false=>
   have fc: ∀ self k2,hO self (k2+1) (st l i o)=jO self (st l i o):=fun self k2=>by rw [fb,hm,cond_false,hb,cond_false]
   have gc: ∀ self k2,kQ self (k2+1) (rs l i o)=je self (rs l i o):=fun self k2=>by rw [gb,hm,cond_false,hb,cond_false]
   rcases PR H hi ho IH with ⟨e,i',Z,h1,h2,h3,hf,hg⟩ | ⟨e,s,e',s',Z,h1,h2,hf,hg⟩
   · refine .inl ⟨e,i',Z+1,h1,h2,h3,fun k hk k2 hk2=> ?_,fun k hk k2 hk2=> ?_⟩
     · obtain ⟨k2,rfl⟩: ∃ j,k2=j+1:=⟨k2 - 1,by omega⟩
       dsimp only; rw [fc]; exact hf k (by omega) k (by omega)
     · obtain ⟨k2,rfl⟩: ∃ j,k2=j+1:=⟨k2 - 1,by omega⟩
       dsimp only; rw [gc]; exact hg k (by omega) k (by omega)
   · refine gr (e:=e) (s:=s) (e':=e') (s':=s') (Z+1) h1 h2 (fun k hk k2 hk2=> ?_) (fun k hk k2 hk2=> ?_)
     · obtain ⟨k2,rfl⟩: ∃ j,k2=j+1:=⟨k2 - 1,by omega⟩
       rw [fc]; exact hf k (by omega) k (by omega)
     · obtain ⟨k2,rfl⟩: ∃ j,k2=j+1:=⟨k2 - 1,by omega⟩
       rw [gc]; exact hg k (by omega) k (by omega)
omit H in
theorem R6 {i o:Nat} (h:SG l i o):R l 6 i o:=by
 have p6: ∀ k,fh (k+1) (rs l i o) 6=(xZ (fh k) (rs l i o)).bind fun r1=>some (ah.mk r1.1.Kind r1.1.N r1.1.Name r1.1.Kids r1.1.At,r1.2):=fun k=>by
  show pP (fh k) k _ 6=_
  unfold pP
  rw [if_pos rfl]
 rcases h with ⟨e,i',Z,h1,h2,h3,hf,hg⟩ | ⟨e,s,e',s',Z,h1,h2,hf,hg⟩
 · refine .inl ⟨e,i',Z+1,h1,h2,h3,fun k hk k2 hk2=> ?_,fun k hk k2 hk2=> ?_⟩
   · obtain ⟨k,rfl⟩: ∃ j,k=j+1:=⟨k - 1,by omega⟩
     dsimp only
     rw [Bp,show oE (dN k) (st l i o)=some (e,st l i' o) from cX Z fun j hj=>hf k (by omega) j hj,af,eta]
   · obtain ⟨k,rfl⟩: ∃ j,k=j+1:=⟨k - 1,by omega⟩
     dsimp only
     rw [p6,show xZ (fh k) (rs l i o)=some (e,rs l i' o) from cX Z fun j hj=>hg k (by omega) j hj,af,eta]
 · refine gr (e:=e) (s:=s) (e':=e') (s':=s') (Z+1) h1 h2 (fun k hk k2 hk2=> ?_) (fun k hk k2 hk2=> ?_)
   · obtain ⟨k,rfl⟩: ∃ j,k=j+1:=⟨k - 1,by omega⟩
     rw [Bp,show oE (dN k) (st l i o)=some (e,s) from cX Z fun j hj=>hf k (by omega) j hj,af,eta]
   · obtain ⟨k,rfl⟩: ∃ j,k=j+1:=⟨k - 1,by omega⟩
     rw [p6,show xZ (fh k) (rs l i o)=some (e',s') from cX Z fun j hj=>hg k (by omega) j hj,af,eta]
end
theorem FK {m:Int} (hm:1≤m) (d_:m≤5) (s:List UInt8):BU m s=some (if (b_ s).2=m then (b_ s).1 else 0):=by
 have cF: ∀ own kd:Int,(gD m own kd).bind (fun r=>some r)=some (if own=m then kd else 0):=fun own kd=>by
  unfold gD
  by_cases h:m=own
  · rw [if_pos h,af,if_pos h.symm]
  · rw [if_neg h,af,if_neg (fun q=>h q.symm)]
 unfold BU
 simp only [cF]
 by_cases oO:s=mb
 · subst oO
   rw [show b_ mb=(19,1) from by decide]
   simp
 rw [if_neg oO]
 by_cases oM:s=l9
 · subst oM
   rw [show b_ l9=(18,2) from by decide]
   simp
 rw [if_neg oM]
 by_cases oS:s=mh
 · subst oS
   rw [show b_ mh=(12,3) from by decide]
   simp
 rw [if_neg oS]
 by_cases oT:s=mj
 · subst oT
   rw [show b_ mj=(13,3) from by decide]
   simp
 rw [if_neg oT]
 by_cases oQ:s=me
 · subst oQ
   rw [show b_ me=(14,3) from by decide]
   simp
 rw [if_neg oQ]
 by_cases oR:s=mg
 · subst oR
   rw [show b_ mg=(15,3) from by decide]
   simp
 rw [if_neg oR]
 by_cases oP:s=mc
 · subst oP
   rw [show b_ mc=(16,3) from by decide]
   simp
 rw [if_neg oP]
 by_cases oN:s=l_
 · subst oN
   rw [show b_ l_=(17,3) from by decide]
   simp
 rw [if_neg oN]
 by_cases oW:s=mq
 · subst oW
   rw [show b_ mq=(10,4) from by decide]
   simp
 rw [if_neg oW]
 by_cases oU:s=fu
 · subst oU
   rw [show b_ fu=(11,4) from by decide]
   simp
 rw [if_neg oU]
 by_cases oY:s=mw
 · subst oY
   rw [show b_ mw=(7,5) from by decide]
   simp
 rw [if_neg oY]
 by_cases oX:s=mu
 · subst oX
   rw [show b_ mu=(8,5) from by decide]
   simp
 rw [if_neg oX]
 by_cases oV:s=mo
 · subst oV
   rw [show b_ mo=(9,5) from by decide]
   simp
 rw [if_neg oV]
 rw [show b_ s=(0,0) from by
  unfold b_ rR
  simp only [List.find?_cons,List.find?_nil,show (mb == s)=false from beq_false_of_ne (Ne.symm oO),show (l9 == s)=false from beq_false_of_ne (Ne.symm oM),show (mh == s)=false from beq_false_of_ne (Ne.symm oS),show (mj == s)=false from beq_false_of_ne (Ne.symm oT),show (me == s)=false from beq_false_of_ne (Ne.symm oQ),show (mg == s)=false from beq_false_of_ne (Ne.symm oR),show (mc == s)=false from beq_false_of_ne (Ne.symm oP),show (l_ == s)=false from beq_false_of_ne (Ne.symm oN),show (mq == s)=false from beq_false_of_ne (Ne.symm oW),show (fu == s)=false from beq_false_of_ne (Ne.symm oU),show (mw == s)=false from beq_false_of_ne (Ne.symm oY),show (mu == s)=false from beq_false_of_ne (Ne.symm oX),show (mo == s)=false from beq_false_of_ne (Ne.symm oV)]]
 rw [if_neg (by show ¬ (0:Int)=m; omega)]
theorem Rq {s:List UInt8} (h:(b_ s).2≠0):(b_ s).1≠0:=by
 unfold b_ at h ⊢
 cases hf:rR.find? (fun p=>p.1 == s) with
 | none=>rw [hf] at h; exact absurd rfl h
 | some p=>
  have hm:=List.mem_of_find?_eq_some hf
  simp only [rR,List.mem_cons,List.not_mem_nil,or_false] at hm
  dsimp only
  rcases hm with rfl | rfl | rfl | rfl | rfl | rfl | rfl | rfl | rfl | rfl | rfl | rfl | rfl <;> decide
noncomputable def nQ (k k':Nat) (l:List ak) (i o:Nat) (m:Int) (e:ah):Option (ah×aS):=
 nN (fh k) k' l ((i:Nat):Int) ((o:Nat):Int) 0 0 m 0 0 [] [] 0 e.Kind e.N e.Name e.Kids e.At
theorem G4 (k:Nat) {l:List ak} {i o:Nat} {m:Int} (hm:1≤m) (d_:m≤5) {e:ah} {i':Nat} (h:fh k (rs l i o) (m+1)=some (e,rs l i' o)):
 fh (k+1) (rs l i o) m=nQ k k l i' o m e:=by
 show pP (fh k) k (rs l i o) m=_
 unfold pP
 rw [if_neg (by omega),dr (by omega) (by omega),h,af]
 rfl
theorem QK (k:Nat) {l:List ak} {i o:Nat} {m:Int} (hm:1≤m) (d_:m≤5) {e:ah} {s:aS} (hs:s.bad.Code≠0) (hk:1≤k) (h:fh k (rs l i o) (m+1)=some (e,s)):
 fh (k+1) (rs l i o) m=some (e,s):=by
 show pP (fh k) k (rs l i o) m=_
 unfold pP
 rw [if_neg (by omega),dr (by omega) (by omega),h,af]
 obtain ⟨k',rfl⟩: ∃ j,k=j+1:=⟨k - 1,by omega⟩
 rw [nN.eq_2,if_neg hs,GX,eta]
theorem Pt {k:Nat} {l:List ak} {i o:Nat} {m:Int} (h1:1≤m) (h5:m≤5) {e:ah} {s:aG} (hs:s.Row.aI.Code≠0) (hk:1≤k) (h:dN k (st l i o) (m+1)=some (e,s)):dN (k+1) (st l i o) m=some (e,s):=by
 show nh (dN k) k (st l i o) m=_
 unfold nh
 rw [if_neg (by omega),dr (by omega) (by omega),h,af]
 obtain ⟨k',rfl⟩: ∃ j,k=j+1:=⟨k - 1,by omega⟩
 simp only [lJ]
 rw [Ee,uG hs,af,sign_eq,af]
 dsimp only
 rw [if_pos (by decide),eta]
theorem OP (k k':Nat) {l:List ak} (hl:l.length≤100000) (i o:Nat) {m:Int} (hm:1≤m) (d_:m≤5) (hi:i<l.length) (h3:(aa l i).Kind=3) (hg:(b_ (aa l i).Text).2=m) (e:ah) {y:ah} {s:aG} (hs:s.Row.aI.Code≠0)
 (hy:dN k (st l (i+1) o) (m+1)=some (y,s)):
 loop k (k'+2) l i o m e=some (ah.mk (b_ (aa l i).Text).1 0 [] [e,y] (aa l i).At,s):=by
 unfold loop
 rw [lJ.eq_2]
 rw [show (aG.mk (aY.mk l ((i:Nat):Int) (aQ.mk 0 0)) ((o:Nat):Int))=st l i o from rfl,nC hi,af,sign_eq,af,eta]
 dsimp only
 rw [if_neg (by simp [h3]),if_neg (by simp [hg])]
 rw [show (aG.mk (aY.mk (st l i o).Row.L (au ((st l i o).Row.At+1)) (st l i o).Row.aI) (st l i o).a_)=st l (i+1) o from by
  show (⟨⟨l,au (((i:Nat):Int)+1),⟨0,0⟩⟩,(o:Int)⟩:aG)=_
  rw [gz hi hl]; rfl]
 rw [dr (by omega) (by omega),hy,af]
 simp only [eta]
 by_cases e9:m=3
 · rw [if_pos e9]
 · rw [if_neg e9,lJ.eq_2,Ee,uG hs,af,sign_eq,af]
   dsimp only
   rw [if_pos (by decide)]
theorem QH (k k':Nat) {l:List ak} (i o:Nat) {m:Int} (hm:1≤m) (d_:m≤5) (hi:i<l.length) (hs:mz (aa l i)≠m) (e:ah):nQ k (k'+2) l i o m e=some (e,rs l i o):=by
 unfold nQ
 have et:l.getD ((i:Nat):Int).toNat ak.z=aa l i:=by rw [Int.toNat_natCast]; rfl
 rw [nN.eq_2,if_pos rfl,if_pos (by omega),if_pos (by omega),if_pos (by omega),et,eta]
 unfold mz at hs
 by_cases h3:(aa l i).Kind=3
 · rw [if_pos h3] at hs
   rw [if_pos h3,BV.eq_2,if_pos (by omega),if_pos (by omega),et,FK hm d_,af,if_neg hs,if_pos rfl,eta]
   rfl
 · rw [if_neg h3]; rfl
theorem GY (k k':Nat) {l:List ak} (hl:l.length≤100000) (i o:Nat) {m:Int} (hm:1≤m) (d_:m≤5) (hi:i<l.length) (h3:(aa l i).Kind=3) (hg:(b_ (aa l i).Text).2=m) (e:ah) {y:ah} {s:aS}
 (hy:fh k (rs l (i+1) o) (m+1)=some (y,s)):
 nQ k (k'+2) l i o m e=if m=3 then some (ah.mk (b_ (aa l i).Text).1 0 [] [e,y] (aa l i).At,s) else
  nN (fh k) k' s.l s.aj s.a_ s.bad.Code s.bad.At m 0 0 [] [] 0 (b_ (aa l i).Text).1 0 [] [e,y] (aa l i).At:=by
 unfold nQ
 have et:l.getD ((i:Nat):Int).toNat ak.z=aa l i:=by rw [Int.toNat_natCast]; rfl
 rw [nN.eq_2,if_pos rfl,if_pos (by omega),if_pos (by omega),if_pos (by omega),et,if_pos h3,BV.eq_2,if_pos (by omega),if_pos (by omega),et,FK hm d_,af,if_pos hg]
 rw [if_neg (Rq (by omega)),if_pos (by omega),if_pos (by omega),gz hi hl,dr (by omega) (by omega)]
 rw [show aS.mk l ((i+1:Nat):Int) ((o:Nat):Int) (aQ.mk 0 0)=rs l (i+1) o from rfl,hy,af]
 simp only [eta]
theorem LP {l:List ak} (H:Ok l) {i o:Nat} {m:Int} (hm:1≤m) (d_:m≤5) (ho:o≤12) (IH: ∀ j,i<j→j<l.length→R l (m+1) j o):
 ∀ (r i':Nat) (e:ah),l.length≤i'+r→i≤i'→i'<l.length→Fd e→Out l i' o (fun k k2=>loop k k2 l i' o m e) (fun k k2=>nQ k k2 l i' o m e)
 | 0,i',e,hr,_,hi,_=>by omega
 | r+1,i',e,hr,h0,hi,o7=>by
  by_cases hs:mz (aa l i')=m
  case neg=>
   refine .inl ⟨e,i',2,Nat.le_refl _,hi,o7,fun k hk k2 hk2=> ?_,fun k hk k2 hk2=> ?_⟩
   · exact F7 k k2 l i' o hm hi hs e (by omega)
   · obtain ⟨k2,rfl⟩: ∃ j,k2=j+2:=⟨k2 - 2,by omega⟩
     exact QH k k2 i' o hm d_ hi hs e
  have h3:(aa l i').Kind=3:=by
   unfold mz at hs
   by_cases h3:(aa l i').Kind=3
   · exact h3
   · rw [if_neg h3] at hs; omega
  have hg:(b_ (aa l i').Text).2=m:=by unfold mz at hs; rwa [if_pos h3] at hs
  have w7:=H.more i' hi (by omega)
  rcases IH (i'+1) (by omega) w7 with ⟨y,qP,Z,h1,h2,Ff,hf,hg'⟩ | ⟨y,s,y',s',Z,h1,h2,hf,hg'⟩
  · have hstep: ∀ k k2,Z≤k→loop k (k2+1) l i' o m e=if m=3 then some (ah.mk (b_ (aa l i').Text).1 0 [] [e,y] (aa l i').At,st l qP o) else loop k k2 l qP o m (ah.mk (b_ (aa l i').Text).1 0 [] [e,y] (aa l i').At):=fun k k2 hk=>by
     have hy:=hf k hk k hk
     dsimp only at hy
     have ht:strip (aa l i')=(3,(aa l i').Text,(aa l i').N):=by unfold strip; rw [h3]
     unfold loop
     rw [lJ.eq_2]
     rw [show (aG.mk (aY.mk l ((i':Nat):Int) (aQ.mk 0 0)) ((o:Nat):Int))=st l i' o from rfl,nC hi,af,sign_eq,af,eta]
     dsimp only
     rw [if_neg (by simp [h3]),if_neg (by simp [hg])]
     rw [show (aG.mk (aY.mk (st l i' o).Row.L (au ((st l i' o).Row.At+1)) (st l i' o).Row.aI) (st l i' o).a_)=st l (i'+1) o from by
      show (⟨⟨l,au (((i':Nat):Int)+1),⟨0,0⟩⟩,(o:Int)⟩:aG)=_
      rw [gz hi H.len]; rfl]
     rw [dr (by omega) (by omega),hy,af]
     simp only [eta]
     rfl
    have B3: ∀ k k2,Z≤k→nQ k (k2+2) l i' o m e=if m=3 then some (ah.mk (b_ (aa l i').Text).1 0 [] [e,y] (aa l i').At,rs l qP o) else nQ k k2 l qP o m (ah.mk (b_ (aa l i').Text).1 0 [] [e,y] (aa l i').At):=fun k k2 hk=>
     GY k k2 H.len i' o hm d_ hi h3 hg e (hg' k hk k hk)
    by_cases e9:m=3
    · refine .inl ⟨ah.mk (b_ (aa l i').Text).1 0 [] [e,y] (aa l i').At,qP,Z+2,by omega,h2,Fd.two rfl o7 Ff,fun k hk k2 hk2=> ?_,fun k hk k2 hk2=> ?_⟩
      · obtain ⟨k2,rfl⟩: ∃ j,k2=j+1:=⟨k2 - 1,by omega⟩
        dsimp only; rw [hstep k k2 (by omega),if_pos e9]
      · obtain ⟨k2,rfl⟩: ∃ j,k2=j+2:=⟨k2 - 2,by omega⟩
        dsimp only; rw [B3 k k2 (by omega),if_pos e9]
    · rcases LP H hm d_ ho IH r qP (ah.mk (b_ (aa l i').Text).1 0 [] [e,y] (aa l i').At) (by omega) (by omega) h2 (Fd.two rfl o7 Ff) with ⟨e2,j,Z2,j1,j2,j3,jf,jg⟩ | ⟨e2,s,zD,s',Z2,j1,j2,jf,jg⟩
      · refine .inl ⟨e2,j,Z+Z2+2,by omega,j2,j3,fun k hk k2 hk2=> ?_,fun k hk k2 hk2=> ?_⟩
        · obtain ⟨k2,rfl⟩: ∃ j,k2=j+1:=⟨k2 - 1,by omega⟩
          dsimp only; rw [hstep k k2 (by omega),if_neg e9]; exact jf k (by omega) k2 (by omega)
        · obtain ⟨k2,rfl⟩: ∃ j,k2=j+2:=⟨k2 - 2,by omega⟩
          dsimp only; rw [B3 k k2 (by omega),if_neg e9]; exact jg k (by omega) k2 (by omega)
      · refine gr (e:=e2) (s:=s) (e':=zD) (s':=s') (Z+Z2+2) j1 j2 (fun k hk k2 hk2=> ?_) (fun k hk k2 hk2=> ?_)
        · obtain ⟨k2,rfl⟩: ∃ j,k2=j+1:=⟨k2 - 1,by omega⟩
          rw [hstep k k2 (by omega),if_neg e9]; exact jf k (by omega) k2 (by omega)
        · obtain ⟨k2,rfl⟩: ∃ j,k2=j+2:=⟨k2 - 2,by omega⟩
          rw [B3 k k2 (by omega),if_neg e9]; exact jg k (by omega) k2 (by omega)
  · refine gr (e:=ah.mk (b_ (aa l i').Text).1 0 [] [e,y] (aa l i').At) (s:=s) (e':=ah.mk (b_ (aa l i').Text).1 0 [] [e,y'] (aa l i').At) (s':=s') (Z+3) h1 h2 (fun k hk k2 hk2=> ?_) (fun k hk k2 hk2=> ?_)
    · obtain ⟨k2,rfl⟩: ∃ j,k2=j+2:=⟨k2 - 2,by omega⟩
      exact OP k k2 H.len i' o hm d_ hi h3 hg e h1 (hf k (by omega) k (by omega))
    · obtain ⟨k2,rfl⟩: ∃ j,k2=j+3:=⟨k2 - 3,by omega⟩
      rw [GY k (k2+1) H.len i' o hm d_ hi h3 hg e (hg' k (by omega) k (by omega))]
      by_cases e9:m=3
      · rw [if_pos e9]
      · rw [if_neg e9,nN.eq_2,if_neg (by rw [h2]; exact h1),GX]
theorem I4 {l:List ak} (H:Ok l) {i o:Nat} {m:Int} (hm:1≤m) (d_:m≤5) (hi:i<l.length) (ho:o≤12) (IH: ∀ j,i<j→j<l.length→R l (m+1) j o) (h:R l (m+1) i o):R l m i o:=by
 rcases h with ⟨e,i',Z,h1,h2,o7,hf,hg⟩ | ⟨e,s,e',s',Z,h1,h2,hf,hg⟩
 · rcases LP H hm d_ ho IH l.length i' e (by omega) (by omega) h2 o7 with ⟨e2,j,Z2,j1,j2,j3,jf,jg⟩ | ⟨e2,s,zD,s',Z2,j1,j2,jf,jg⟩
   · refine .inl ⟨e2,j,Z+Z2+1,by omega,j2,j3,fun k hk k2 hk2=> ?_,fun k hk k2 hk2=> ?_⟩
     · obtain ⟨k,rfl⟩: ∃ j,k=j+1:=⟨k - 1,by omega⟩
       dsimp only; rw [Br k l i o hm d_ (hf k (by omega) k (by omega))]; exact jf k (by omega) k (by omega)
     · obtain ⟨k,rfl⟩: ∃ j,k=j+1:=⟨k - 1,by omega⟩
       dsimp only; rw [G4 k hm d_ (hg k (by omega) k (by omega))]; exact jg k (by omega) k (by omega)
   · refine gr (e:=e2) (s:=s) (e':=zD) (s':=s') (Z+Z2+1) j1 j2 (fun k hk k2 hk2=> ?_) (fun k hk k2 hk2=> ?_)
     · obtain ⟨k,rfl⟩: ∃ j,k=j+1:=⟨k - 1,by omega⟩
       rw [Br k l i o hm d_ (hf k (by omega) k (by omega))]; exact jf k (by omega) k (by omega)
     · obtain ⟨k,rfl⟩: ∃ j,k=j+1:=⟨k - 1,by omega⟩
       rw [G4 k hm d_ (hg k (by omega) k (by omega))]; exact jg k (by omega) k (by omega)
 · refine gr (e:=e) (s:=s) (e':=e') (s':=s') (Z+2) h1 h2 (fun k hk k2 hk2=> ?_) (fun k hk k2 hk2=> ?_)
   · obtain ⟨k,rfl⟩: ∃ j,k=j+1:=⟨k - 1,by omega⟩
     exact Pt hm d_ h1 (by omega) (hf k (by omega) k (by omega))
   · obtain ⟨k,rfl⟩: ∃ j,k=j+1:=⟨k - 1,by omega⟩
     exact QK k hm d_ (by rw [h2]; exact h1) (by omega) (hg k (by omega) k (by omega))
theorem both {l:List ak} (H:Ok l): ∀ (n i o:Nat),l.length≤i+n→i<l.length→o≤12→SG l i o∧ ∀ (j:Nat) (m:Int),m=6 - (j:Int)→1≤m→R l m i o
 | 0,i,o,hn,hi,_=>by omega
 | n+1,i,o,hn,hi,ho=>by
  have IH: ∀ j o',i<j→j<l.length→o'≤12→SG l j o'∧ ∀ (q:Nat) (m:Int),m=6 - (q:Int)→1≤m→R l m j o':=fun j o' h1 h2 h3=>both H n j o' (by omega) h2 h3
  have hS:=I7 H hi ho (fun j o' h1 h2 h3=>(IH j o' h1 h2 h3).2 5 1 rfl (by decide)) (fun j o' h1 h2 h3=>(IH j o' h1 h2 h3).1)
  refine ⟨hS,fun j=> ?_⟩
  induction j with
  | zero=>
   intro m hm h1
   have :m=6:=by omega
   subst this
   exact R6 hS
  | succ j ih=>
   intro m hm h1
   exact I4 H h1 (by omega) hi ho (fun q h2 h3=>(IH q o h2 h3 ho).2 j (m+1) (by omega) (by omega)) (ih (m+1) (by omega) (by omega))
end Go.Sy.Ex
namespace Go.Sy.Ex
open Go.Sy
end Go.Sy.Ex
namespace Go.Sy.Ex
open Go.Sy
section
variable {l:List ak} {i o:Nat}
end
structure H where
 kind:Int
 name:List UInt8
 ev:List UInt8
 x:Option T
 n:Int
inductive B where
 | nil | cons (h:H) (th el rest:B)
def S0 (x:Option T):Prop:=match x with
 | none=>True
 | some t=>t.ok∧kK t 1≤12
def H.ok (h:H) (th el:B):Prop:=S0 h.x∧
 ((h.kind=1∧jW h.name=true∧h.ev= []∧h.x≠none∧h.n=0∧th= .nil∧el= .nil)∨
  (h.kind=2∧h.name= []∧jW h.ev=true∧h.n=0∧th= .nil∧el= .nil)∨
  (h.kind=3∧jW h.name=true∧jW h.ev=true∧h.n=0∧th= .nil∧el= .nil)∨
  (h.kind=4∧jW h.name=true∧h.ev= []∧h.x≠none∧h.n=0∧th= .nil∧el= .nil)∨
  (h.kind=5∧jW h.name=true∧h.ev= []∧h.x=none∧h.n=0∧th= .nil∧el= .nil)∨
  (h.kind=6∧h.name= []∧h.ev= []∧h.x≠none∧h.n=0)∨
  (h.kind=7∧h.name= []∧h.ev= []∧h.x=none∧0≤h.n∧h.n≤9223372036854775807∧el= .nil))
def B.ok:B→Prop
 | .nil=>True
 | .cons h th el rest=>h.ok th el∧th.ok∧el.ok∧rest.ok
def B.isNil:B→Bool
 | .nil=>true
 | _=>false
end Go.Sy.Ex
namespace Go.Sy.Ex
open Go.Sy
end Go.Sy.Ex
namespace Go.Sy.Ex
open Go.Sy
end Go.Sy.Ex
namespace Go.Sy.Ex
open Go.Sy
def B.sz:B→Nat
 | .nil=>1
 | .cons _ th el rest=>th.sz+el.sz+rest.sz+1
end Go.Sy.Ex
namespace Go.Sy.Ex
open Go.Sy
end Go.Sy.Ex
namespace Go.Sy.Ex
open Go.Sy
abbrev b1:B:= .cons ⟨2,[],[101],some (.num 1),0⟩ .nil .nil (.cons ⟨7,[],[],none,2⟩ .nil .nil .nil)
def bd (t:ak):aQ:=if t.Kind=4 then ⟨12,t.At⟩ else ⟨11,t.At⟩
theorem JX (t:ak):(bd t).Code≠0:=by unfold bd; split <;> (dsimp only; decide)
section
variable {s:aT} (h:s.Row.aI.Code≠0)
include h
end
end Go.Sy.Ex
namespace Go.Sy.Ex
open Go.Sy
def ou (X:List ah):Prop:=X.length≤1∧ ∀ e ∈ X,Fd e
theorem ou.nil:ou []:=⟨Nat.zero_le _,fun e h=>by cases h⟩
theorem ou.one {e:ah} (h:Fd e):ou [e]:=⟨Nat.le_refl _,fun x hx=>by rw [List.mem_singleton] at hx; subst hx; exact h⟩
end Go.Sy.Ex
namespace Go.Sy.Ex
open Go.Sy
end Go.Sy.Ex
namespace Go.Sy.Ex
open Go.Sy
def Fl:Nat→List aJ→Prop
 | 0,_=>False
 | n+1,l=>l.length≤100000∧ ∀ a ∈ l,ou a.X∧Fl n a.oh∧Fl n a.lu
def FL (l:List aJ):Prop:= ∃ n,Fl n l
theorem Fl.up: ∀ {n m:Nat} {l:List aJ},Fl n l→n≤m→Fl m l
 | 0,_,_,h,_=>h.elim
 | n+1,0,_,_,h=>by omega
 | n+1,m+1,l,⟨h1,h2⟩,h=>⟨h1,fun a ha=>⟨(h2 a ha).1,Fl.up (h2 a ha).2.1 (by omega),Fl.up (h2 a ha).2.2 (by omega)⟩⟩
theorem FL.nil:FL []:=⟨1,Nat.zero_le _,fun a ha=>by cases ha⟩
def AF (a:aJ):Prop:=ou a.X∧FL a.oh∧FL a.lu
theorem FL.push {l:List aJ} {a:aJ} (h:FL l) (ha:AF a) (hl:l.length<100000):FL (l++ [a]):=by
 obtain ⟨n,hn⟩:=h
 obtain ⟨hx,⟨m,hm⟩,⟨p,hp⟩⟩:=ha
 cases n with
 | zero=>exact hn.elim
 | succ n=>
  refine ⟨max n (max m p)+1,by rw [List.length_append,List.length_singleton]; omega,fun b hb=> ?_⟩
  rw [List.mem_append,List.mem_singleton] at hb
  rcases hb with hb | rfl
  · exact ⟨(hn.2 b hb).1,Fl.up (hn.2 b hb).2.1 (by omega),Fl.up (hn.2 b hb).2.2 (by omega)⟩
  · exact ⟨hx,Fl.up hm (by omega),Fl.up hp (by omega)⟩
end Go.Sy.Ex
namespace Go.Sy.Ex
open Go.Sy
end Go.Sy.Ex
namespace Go.Sy.Ex
open Go.Sy
end Go.Sy.Ex
namespace Go.Sy.Ex
open Go.Sy
def ct (l:List ak) (i:Nat):ay:=⟨⟨l,(i:Int),⟨0,0⟩⟩⟩
def rt (l:List ak) (i:Nat):gE:=⟨l,(i:Int),⟨0,0⟩⟩
def cb (l:List ak) (i:Nat):ay:=⟨⟨l,(i:Int),bd (aa l i)⟩⟩
def rb (l:List ak) (i:Nat):gE:=⟨l,(i:Int),bd (aa l i)⟩
def lV (t:ak):Bool:=decide (t.Kind=1)&& !fm t.Text
section
variable {l:List ak} {i:Nat}
theorem fX:ay.mk (aY.mk (ct l i).Row.L (ct l i).Row.At (aQ.mk (ct l i).Row.aI.Code (ct l i).Row.aI.At))=ct l i:=rfl
theorem td:jc (ct l i)=some (true,ct l i):=rfl
theorem gL (hi:i<l.length):eB (ct l i)=some (aa l i,ct l i):=by
 unfold eB
 rw [td,af]
 have h1: ¬ ((i:Nat):Int)<0:=by omega
 have h2: ¬ (l.length:Int)≤((i:Nat):Int):=by omega
 have h3:0≤((i:Nat):Int):=by omega
 have h4:((i:Nat):Int)<(l.length:Int):=by omega
 simp only [Bool.not_true,cond_false,ct,Int.toNat_natCast,h1,h2,h3,h4,if_true,if_false]; rfl
theorem wu (hi:i<l.length) (s:List UInt8):eX (ct l i) s=some (aK (aa l i) s,ct l i):=by
 unfold eX aK
 rw [gL hi,af]
 dsimp only
 by_cases h3:(aa l i).Kind=3
 · rw [if_pos h3]; congr 2; rw [decide_eq_decide]; simp [h3]
 · rw [if_neg h3]
   by_cases h1:(aa l i).Kind=1
   · rw [if_pos h1]; congr 2; rw [decide_eq_decide]; simp [h1]
   · rw [if_neg h1]
     congr 2
     symm
     rw [decide_eq_false_iff_not]
     rintro ⟨h | h,_⟩ <;> contradiction
theorem zw (hi:i<l.length) (hl:l.length≤100000) (s:List UInt8):eC (ct l i) s=some (aK (aa l i) s,bif aK (aa l i) s then ct l (i+1) else ct l i):=by
 unfold eC
 rw [wu hi,af]
 dsimp only
 cases h:aK (aa l i) s with
 | true=>
  rw [cond_true,cond_true]
  show some (true,(⟨⟨l,au (((i:Nat):Int)+1),⟨0,0⟩⟩⟩:ay))=_
  rw [gz hi hl]; rfl
 | false=>rfl
theorem Lc (hi:i<l.length):j6 (ct l i)=some (cb l i):=by
 unfold j6
 rw [gL hi,af]
 dsimp only
 unfold cb bd
 by_cases h4:(aa l i).Kind=4
 · rw [if_pos h4,if_pos h4]
   unfold iw
   rw [td,af]
   rfl
 · rw [if_neg h4,if_neg h4]
   unfold iw
   rw [td,af]
   rfl
theorem gM (hi:i<l.length) (hl:l.length≤100000) {s:List UInt8} (h:aK (aa l i) s=true):dj (ct l i) s=some (ct l (i+1)):=by
 unfold dj
 rw [zw hi hl,af,h]; rfl
theorem DJ (hi:i<l.length):uP (ct l i)=some (lV (aa l i),ct l i):=by
 unfold uP lV
 rw [gL hi,af]
 dsimp only
 by_cases h1:(aa l i).Kind=1
 · rw [if_pos h1,F8,af,decide_eq_true h1]; rfl
 · rw [if_neg h1,decide_eq_false h1]; rfl
theorem lF (hi:i<l.length) (hl:l.length≤100000) (h:lV (aa l i)=true):gT (ct l i)=some ((aa l i).Text,ct l (i+1)):=by
 unfold gT
 rw [DJ hi,af,h]
 show (if 0≤au (au (((i:Nat):Int)+1) - 1) then if au (au (((i:Nat):Int)+1) - 1)<(l.length:Int) then some ((l.getD (au (au (((i:Nat):Int)+1) - 1)).toNat ak.z).Text,(⟨⟨l,au (((i:Nat):Int)+1),⟨0,0⟩⟩⟩:ay)) else none else none)=_
 rw [gz hi hl,show au (((i+1:Nat):Int) - 1)=((i:Nat):Int) from by rw [dr (by omega) (by omega)]; omega,if_pos (by omega),if_pos (by omega),Int.toNat_natCast]
 rfl
theorem KZ (hi:i<l.length) (h:lV (aa l i)=false):gT (ct l i)=some ([],cb l i):=by
 unfold gT
 rw [DJ hi,af,h,Bool.not_false,cond_true,Lc hi,af]
theorem wz (hi:i<l.length) (hl:l.length≤100000) (h:(aa l i).Kind=2):pN (ct l i)=some ((aa l i).N,ct l (i+1)):=by
 unfold pN
 rw [gL hi,af,if_neg (fun q=>q h)]
 show some ((aa l i).N,(⟨⟨l,au (((i:Nat):Int)+1),⟨0,0⟩⟩⟩:ay))=_
 rw [gz hi hl]; rfl
end
section
variable {s:ay} (h:s.Row.aI.Code≠0)
include h
theorem wA:jc s=some (false,s):=by unfold jc; rw [decide_eq_false h]
theorem DK:eB s=some (ak.mk 4 0 0 [] 0,s):=by unfold eB; rw [wA h,af]; rfl
theorem wq (x:List UInt8):eX s x=some (false,s):=by unfold eX; rw [DK h,af]; rfl
theorem K8 (x:List UInt8):eC s x=some (false,s):=by unfold eC; rw [wq h,af]; rfl
theorem Kr (c a:Int):iw s c a=some s:=by unfold iw; rw [wA h,af]; rfl
theorem K_:j6 s=some s:=by
 unfold j6; rw [DK h,af]
 dsimp only
 rw [if_pos rfl,Kr h,af]
theorem tf (x:List UInt8):dj s x=some s:=by
 unfold dj; rw [K8 h,af,Bool.not_false,cond_true]
 dsimp only
 rw [K_ h,af]
end
section
variable {r:gE} (h:r.bad.Code≠0)
include h
end
end Go.Sy.Ex
