import Derived.Shelf.Strings.Builder1
import Derived.Shelf.Strings.Builder2
import Derived.Shelf.Small.Strs
import Derived.Shelf.Strings.BuilderF
import Derived.Shelf.Strings.BuilderK
import Derived.Shelf.Strings.Builder2Cap
import Derived.Shelf.Strconv.Itoa0
import Derived.Shelf.Strconv.Itoa1
import Derived.Shelf.LaysM
import Derived.Shelf.Strconv.Itoa2
import Derived.Shelf.Strconv.Itoa3
import Derived.Shelf.Strconv.Itoa4
import Derived.Shelf.Strconv.ParseIntEmpty
import Derived.Shelf.Strconv.Clone
import Derived.Shelf.Strconv.SyntaxError
import Derived.Shelf.LaysC
import Derived.Shelf.Strconv.ToError
import Derived.Shelf.Strconv.Lower
import Derived.Shelf.Strconv.ParseUint10
import Derived.Shelf.Strconv.ParseUint10Empty
import Derived.Shelf.Strconv.ParseUint10Any
import Derived.Shelf.Strconv.ParseInt10
import Derived.Shelf.Strconv.RangeError
import Derived.Shelf.Strconv.ToErrorRange
import Derived.Shelf.Strconv.ParseUintEmpty
import Derived.Shelf.Strconv.ParseUint10b64
import Derived.Shelf.Strconv.ParseUint10b32
import Derived.Shelf.Strconv.ParseUint10b16
import Derived.Shelf.Strconv.ParseUint10b8
import Derived.Shelf.Strconv.ParseUint10At
import Derived.Shelf.Strconv.ParseInt10At64
import Derived.Shelf.Strconv.ParseInt10At32
import Derived.Shelf.Strconv.ParseInt10At16
import Derived.Shelf.Strconv.ParseInt10At8
import Derived.Shelf.Strconv.ParseInt10All
import Derived.Shelf.Strconv.ParseIntPublic10
import Derived.Shelf.Strings.Search1
import Derived.Shelf.Strings.Search2
import Derived.Shelf.Strings.Search3
import Derived.Shelf.Strings.Shaped
import Derived.Shelf.Strings.Prefix
import Derived.Shelf.Bits.Mul64
import Derived.Shelf.Strings.Repeat
import Derived.Lib.ItoaMem
import Derived.Stop.LaidErr
import Derived.Shelf.Vars
import Derived.MakeChecks
import Derived.LaidHandle
import Derived.ChangeSame
import Derived.ChangeVars
import Derived.JoinedOf
import Derived.RowKit
import Derived.HandedShaped
import Derived.LaidMore
import Derived.LaidLaws
import Derived.Lay
import Derived.Test.YtaedejmdommaeaaGreatDoorProg
import Derived.Test.YtaedejmdommaeaaGreatDoorRows
import Derived.Test.YtaedejmdommaeaaGreatDoorSc
set_option linter.unusedVariables false
set_option linter.unusedSimpArgs false
/-
 DERIVED:THE SHELF's CONTRACTS AT THIS DUMP,IN PLAIN WORDS (tools/lay-plain.mjs out of 'XAcL.lean',which tools/lay-shelf.mjs wrote):THE SAME DECLARATIONS UNDER THE SAME NAMES: 'import', 'namespace', 'open', 'def', 'theorem' AND NOTHING ELSE:no command of the shelf's:FOR A HAND-IN. Each laying:the table of numbers ('.._ren') and one theorem,a field a fact of the dump's own or the kernel's comparison; each contract:ONE APPLICATION.
-/
namespace Go.Proofs
open Go.Shelf
def Tryz.Wh:Go.Shelf.Ren:=⟨fun | 137=>96 | 217=>128 | 266=>153 | n=>n,fun | 9=>9 | 5=>5 | 3=>3 | n=>n,fun | n=>n⟩
theorem Tryz.Wg:Go.Proofs.Lays.n137 Tryz.prog Tryz.Wh:= {
 mixed:=by kernel_rfl
 f137:=Tryz.func96.trans (congrArg some (by kernel_rfl))
 f217:=Tryz.func128.trans (congrArg some (by kernel_rfl))
 f266:=Tryz.func153.trans (congrArg some (by kernel_rfl))
 t3:=Tryz.underlying3
 a3:=Tryz.isAgg3
 z3:=Tryz.sizeOf3
 v3:=Tryz.zeroValue3
 t5:=Tryz.underlying5
 a5:=Tryz.isAgg5
 z5:=Tryz.sizeOf5
 v5:=Tryz.zeroValue5
 t9:=Tryz.underlying9
 a9:=Tryz.isAgg9
 z9:=Tryz.sizeOf9
 v9:=Tryz.zeroValue9 }
open Go.RowKit in
theorem Tryz.strings_IndexByte (s:ByteArray) (c:Int) (w:World):
 Calls Tryz.prog 96 #[.string s, .int .u8 c] w fun e w'=>e= .returned (.int .i64 (Lib.indexByte s.data.toList c.toNat.toUInt8))∧w'=w:=Any.strings_IndexByte Tryz.Wg s c w
def Tryz.Wj:Go.Shelf.Ren:=⟨fun | 144=>130 | 143=>156 | 219=>173 | 217=>128 | 225=>185 | 224=>186 | 267=>187 | 266=>153 | 314=>197 | n=>n,fun | 9=>9 | 4=>4 | 3=>3 | 5=>5 | 46=>167 | 146=>189 | 51=>185 | n=>n,fun | 1=>1 | n=>n⟩
theorem Tryz.Wi:Go.Proofs.Lays.n144 Tryz.prog Tryz.Wj:= {
 mixed:=by kernel_rfl
 f143:=Tryz.func156.trans (congrArg some (by kernel_rfl))
 f144:=Tryz.func130.trans (congrArg some (by kernel_rfl))
 f217:=Tryz.func128.trans (congrArg some (by kernel_rfl))
 f219:=Tryz.func173.trans (congrArg some (by kernel_rfl))
 f224:=Tryz.func186.trans (congrArg some (by kernel_rfl))
 f225:=Tryz.func185.trans (congrArg some (by kernel_rfl))
 f266:=Tryz.func153.trans (congrArg some (by kernel_rfl))
 f267:=Tryz.func187.trans (congrArg some (by kernel_rfl))
 f314:=Tryz.func197.trans (congrArg some (by kernel_rfl))
 t3:=Tryz.underlying3
 a3:=Tryz.isAgg3
 z3:=Tryz.sizeOf3
 v3:=Tryz.zeroValue3
 t4:=Tryz.underlying4
 a4:=Tryz.isAgg4
 z4:=Tryz.sizeOf4
 v4:=Tryz.zeroValue4
 t5:=Tryz.underlying5
 a5:=Tryz.isAgg5
 z5:=Tryz.sizeOf5
 v5:=Tryz.zeroValue5
 t9:=Tryz.underlying9
 a9:=Tryz.isAgg9
 z9:=Tryz.sizeOf9
 v9:=Tryz.zeroValue9
 t46:=Tryz.underlying167
 a46:=Tryz.isAgg167
 z46:=Tryz.sizeOf167
 v46:=Tryz.zeroValue167
 t51:=Tryz.underlying185
 a51:=Tryz.isAgg185
 z51:=Tryz.sizeOf185
 v51:=Tryz.zeroValue185
 t146:=Tryz.underlying189
 a146:=Tryz.isAgg189
 z146:=Tryz.sizeOf189
 v146:=Tryz.zeroValue189
 g1:=by kernel_rfl }
open Go.RowKit Go.Lib in
theorem Tryz.strings_Contains (s sub:ByteArray) (m:Int) (w:World) (hs:s.size<4294967281) (hm:w.cell? ⟨1,0,none⟩=some (.int .i64 m)):
 Calls Tryz.prog 130 #[.string s, .string sub] w fun e w'=>e= .returned (.bool (Lib.contains s.data.toList sub.data.toList))∧w'=w:=Any.strings_Contains Tryz.Wi s sub m w hs hm
def Tryz.Wm:Go.Shelf.Ren:=⟨fun | 174=>129 | 247=>154 | 245=>155 | 287=>168 | 279=>169 | 280=>170 | 281=>171 | 282=>172 | 321=>181 | 322=>182 | 316=>183 | 171=>39 | 205=>184 | 243=>82 | 246=>83 | 283=>116 | 284=>117 | 285=>118 | 286=>119 | 129=>138 | 317=>137 | 318=>139 | 319=>140 | 320=>141 | 337=>162 | 338=>163 | n=>n,fun | 9=>9 | 3=>3 | 2=>2 | 75=>87 | 85=>177 | 4=>4 | 167=>210 | 5=>5 | 53=>162 | 175=>211 | 46=>167 | 168=>213 | 37=>36 | 0=>0 | 210=>237 | 21=>21 | 127=>133 | 145=>250 | 143=>248 | 171=>161 | 173=>165 | 212=>184 | 51=>185 | 20=>20 | 213=>186 | 232=>229 | 233=>230 | 80=>77 | n=>n,fun | 15=>4 | 16=>5 | 17=>0 | 18=>2 | 19=>3 | n=>n⟩
theorem Tryz.Gj:Go.Proofs.LaysC.n174 Tryz.prog Tryz.Wm:= {
 mixed:=by kernel_rfl
 f129:=Tryz.func138.trans (congrArg some (by kernel_rfl))
 f171:=Tryz.func39.trans (congrArg some (by kernel_rfl))
 f174:=Tryz.func129.trans (congrArg some (by kernel_rfl))
 f205:=Tryz.func184.trans (congrArg some (by kernel_rfl))
 f243:=Tryz.func82.trans (congrArg some (by kernel_rfl))
 f245:=Tryz.func155.trans (congrArg some (by kernel_rfl))
 f246:=Tryz.func83.trans (congrArg some (by kernel_rfl))
 f247:=Tryz.func154.trans (congrArg some (by kernel_rfl))
 f279:=Tryz.func169.trans (congrArg some (by kernel_rfl))
 f280:=Tryz.func170.trans (congrArg some (by kernel_rfl))
 f281:=Tryz.func171.trans (congrArg some (by kernel_rfl))
 f282:=Tryz.func172.trans (congrArg some (by kernel_rfl))
 f283:=Tryz.func116.trans (congrArg some (by kernel_rfl))
 f284:=Tryz.func117.trans (congrArg some (by kernel_rfl))
 f285:=Tryz.func118.trans (congrArg some (by kernel_rfl))
 f286:=Tryz.func119.trans (congrArg some (by kernel_rfl))
 f287:=Tryz.func168.trans (congrArg some (by kernel_rfl))
 f316:=Tryz.func183.trans (congrArg some (by kernel_rfl))
 f317:=Tryz.func137.trans (congrArg some (by kernel_rfl))
 f318:=Tryz.func139.trans (congrArg some (by kernel_rfl))
 f319:=Tryz.func140.trans (congrArg some (by kernel_rfl))
 f320:=Tryz.func141.trans (congrArg some (by kernel_rfl))
 f321:=Tryz.func181.trans (congrArg some (by kernel_rfl))
 f322:=Tryz.func182.trans (congrArg some (by kernel_rfl))
 f337:=Tryz.func162.trans (congrArg some (by kernel_rfl))
 f338:=Tryz.func163.trans (congrArg some (by kernel_rfl))
 t0:=Tryz.underlying0
 a0:=Tryz.isAgg0
 z0:=Tryz.sizeOf0
 v0:=Tryz.zeroValue0
 t2:=Tryz.underlying2
 a2:=Tryz.isAgg2
 z2:=Tryz.sizeOf2
 v2:=Tryz.zeroValue2
 t3:=Tryz.underlying3
 a3:=Tryz.isAgg3
 z3:=Tryz.sizeOf3
 v3:=Tryz.zeroValue3
 t4:=Tryz.underlying4
 a4:=Tryz.isAgg4
 z4:=Tryz.sizeOf4
 v4:=Tryz.zeroValue4
 t5:=Tryz.underlying5
 a5:=Tryz.isAgg5
 z5:=Tryz.sizeOf5
 v5:=Tryz.zeroValue5
 t9:=Tryz.underlying9
 a9:=Tryz.isAgg9
 z9:=Tryz.sizeOf9
 v9:=Tryz.zeroValue9
 t20:=Tryz.underlying20
 a20:=Tryz.isAgg20
 z20:=Tryz.sizeOf20
 v20:=Tryz.zeroValue20
 t21:=Tryz.underlying21
 a21:=Tryz.isAgg21
 z21:=Tryz.sizeOf21
 v21:=Tryz.zeroValue21
 t37:=Tryz.underlying36
 a37:=Tryz.isAgg36
 z37:=Tryz.sizeOf36
 v37:=Tryz.zeroValue36
 t46:=Tryz.underlying167
 a46:=Tryz.isAgg167
 z46:=Tryz.sizeOf167
 v46:=Tryz.zeroValue167
 t51:=Tryz.underlying185
 a51:=Tryz.isAgg185
 z51:=Tryz.sizeOf185
 v51:=Tryz.zeroValue185
 t53:=Tryz.underlying162
 a53:=Tryz.isAgg162
 z53:=Tryz.sizeOf162
 v53:=Tryz.zeroValue162
 t75:=Tryz.underlying87
 a75:=Tryz.isAgg87
 z75:=Tryz.sizeOf87
 v75:=Tryz.zeroValue87
 t85:=Tryz.underlying177
 a85:=Tryz.isAgg177
 z85:=Tryz.sizeOf177
 v85:=Tryz.zeroValue177
 t127:=Tryz.underlying133
 a127:=Tryz.isAgg133
 z127:=Tryz.sizeOf133
 v127:=Tryz.zeroValue133
 t143:=Tryz.underlying248
 a143:=Tryz.isAgg248
 z143:=Tryz.sizeOf248
 v143:=Tryz.zeroValue248
 t145:=Tryz.underlying250
 a145:=Tryz.isAgg250
 z145:=Tryz.sizeOf250
 v145:=Tryz.zeroValue250
 t167:=Tryz.underlying210
 a167:=Tryz.isAgg210
 z167:=Tryz.sizeOf210
 v167:=Tryz.zeroValue210
 t168:=Tryz.underlying213
 a168:=Tryz.isAgg213
 z168:=Tryz.sizeOf213
 v168:=Tryz.zeroValue213
 t171:=Tryz.underlying161
 a171:=Tryz.isAgg161
 z171:=Tryz.sizeOf161
 v171:=Tryz.zeroValue161
 t173:=Tryz.underlying165
 a173:=Tryz.isAgg165
 z173:=Tryz.sizeOf165
 v173:=Tryz.zeroValue165
 t175:=Tryz.underlying211
 a175:=Tryz.isAgg211
 z175:=Tryz.sizeOf211
 v175:=Tryz.zeroValue211
 t210:=Tryz.underlying237
 a210:=Tryz.isAgg237
 z210:=Tryz.sizeOf237
 v210:=Tryz.zeroValue237
 t212:=Tryz.underlying184
 a212:=Tryz.isAgg184
 z212:=Tryz.sizeOf184
 v212:=Tryz.zeroValue184
 t213:=Tryz.underlying186
 a213:=Tryz.isAgg186
 z213:=Tryz.sizeOf186
 t232:=Tryz.underlying229
 a232:=Tryz.isAgg229
 z232:=Tryz.sizeOf229
 v232:=Tryz.zeroValue229
 t233:=Tryz.underlying230
 a233:=Tryz.isAgg230
 z233:=Tryz.sizeOf230
 v233:=Tryz.zeroValue230
 g15:=by kernel_rfl
 g16:=by kernel_rfl
 g17:=by kernel_rfl
 g18:=by kernel_rfl
 g19:=by kernel_rfl
 t80:=Tryz.underlying77
 a80:=Tryz.isAgg77
 z80:=Tryz.sizeOf77
 v80:=Tryz.zeroValue77
 i0:=by kernel_rfl
 i2:=by kernel_rfl
 i3:=by kernel_rfl
 i4:=by kernel_rfl
 i5:=by kernel_rfl
 i9:=by kernel_rfl
 i20:=by kernel_rfl
 i21:=by kernel_rfl
 i37:=by kernel_rfl
 i46:=by kernel_rfl
 i51:=by kernel_rfl
 i53:=by kernel_rfl
 i75:=by kernel_rfl
 i80:=by kernel_rfl
 i85:=by kernel_rfl
 i127:=by kernel_rfl
 i143:=by kernel_rfl
 i145:=by kernel_rfl
 i167:=by kernel_rfl
 i168:=by kernel_rfl
 i171:=by kernel_rfl
 i173:=by kernel_rfl
 i175:=by kernel_rfl
 i210:=by kernel_rfl
 i212:=by kernel_rfl
 i232:=by kernel_rfl
 i233:=by kernel_rfl
 m15:=by kernel_rfl
 m16:=by kernel_rfl
 m17:=by kernel_rfl
 m18:=by kernel_rfl
 m19:=by kernel_rfl
 c0:=by kernel_rfl
 c2:=by kernel_rfl
 c3:=by kernel_rfl
 c4:=by kernel_rfl
 c5:=by kernel_rfl
 c9:=by kernel_rfl
 c20:=by kernel_rfl
 c21:=by kernel_rfl
 c37:=by kernel_rfl
 c46:=by kernel_rfl
 c51:=by kernel_rfl
 c53:=by kernel_rfl
 c75:=by kernel_rfl
 c80:=by kernel_rfl
 c85:=by kernel_rfl
 c127:=by kernel_rfl
 c143:=by kernel_rfl
 c145:=by kernel_rfl
 c167:=by kernel_rfl
 c168:=by kernel_rfl
 c171:=by kernel_rfl
 c173:=by kernel_rfl
 c175:=by kernel_rfl
 c210:=by kernel_rfl
 c212:=by kernel_rfl
 c213:=by kernel_rfl
 c232:=by kernel_rfl
 c233:=by kernel_rfl }
open Go.RowKit in
theorem Tryz.strconv_ParseInt_10_at64_ok (s:ByteArray) (hmax:s.size≤9223372036854775806) (v:Int) (h:Lib.parseIntB 64 s.data.toList= .ok v) (w:World):
 Calls Tryz.prog 129 #[.string s, .int .i64 10, .int .i64 64] w fun e w'=>e= .returned (.tuple #[.int .i64 v, .nilIface])∧(w'=w∨ ∃ t,w'=Lib.bytesWorld w 5 t):=Any.strconv_ParseInt_10_at64_ok Tryz.Gj s hmax v h w
open Go.RowKit in
theorem Tryz.strconv_ParseInt_10_at64_range (s:ByteArray) (hlim:s.size≤281474976710656) (h:Lib.parseIntB 64 s.data.toList= .range) (ev:Value) (w:World) (hv:w.cell? ⟨5,0,none⟩=some ev) (hev:ev= .nilIface∨ ∃ te pe,ev= .iface te pe):
 Calls Tryz.prog 129 #[.string s, .int .i64 10, .int .i64 64] w fun e w'=> ∃ N,e= .returned (.tuple #[.int .i64 (Lib.intSat 64 s.data.toList), .iface 213 (.pointer (some ⟨N,0,none⟩))])∧w.heap.size≤N∧w'.heap[N]? =some (.cells #[.string ⟨#[80,97,114,115,101,73,110,116]⟩, .string s,ev] 237 (0,0))∧Below w.heap.size w w':=Any.strconv_ParseInt_10_at64_range Tryz.Gj s hlim h ev w hv hev
def Tryz.Wq:Go.Shelf.Ren:=⟨fun | 173=>40 | 246=>83 | 283=>116 | 284=>117 | 285=>118 | 286=>119 | 129=>138 | 317=>137 | 318=>139 | 319=>140 | 320=>141 | 337=>162 | 338=>163 | n=>n,fun | 2=>2 | 3=>3 | 9=>9 | 4=>4 | 171=>161 | 0=>0 | 53=>162 | 37=>36 | 5=>5 | 173=>165 | 212=>184 | 51=>185 | 20=>20 | 213=>186 | 46=>167 | 232=>229 | 233=>230 | n=>n,fun | 17=>0 | 18=>2 | 19=>3 | n=>n⟩
theorem Tryz.Wp:Go.Proofs.LaysM.n173 Tryz.prog Tryz.Wq:= {
 mixed:=by kernel_rfl
 f129:=Tryz.func138.trans (congrArg some (by kernel_rfl))
 f173:=Tryz.func40.trans (congrArg some (by kernel_rfl))
 f246:=Tryz.func83.trans (congrArg some (by kernel_rfl))
 f283:=Tryz.func116.trans (congrArg some (by kernel_rfl))
 f284:=Tryz.func117.trans (congrArg some (by kernel_rfl))
 f285:=Tryz.func118.trans (congrArg some (by kernel_rfl))
 f286:=Tryz.func119.trans (congrArg some (by kernel_rfl))
 f317:=Tryz.func137.trans (congrArg some (by kernel_rfl))
 f318:=Tryz.func139.trans (congrArg some (by kernel_rfl))
 f319:=Tryz.func140.trans (congrArg some (by kernel_rfl))
 f320:=Tryz.func141.trans (congrArg some (by kernel_rfl))
 f337:=Tryz.func162.trans (congrArg some (by kernel_rfl))
 f338:=Tryz.func163.trans (congrArg some (by kernel_rfl))
 t0:=Tryz.underlying0
 a0:=Tryz.isAgg0
 z0:=Tryz.sizeOf0
 v0:=Tryz.zeroValue0
 t2:=Tryz.underlying2
 a2:=Tryz.isAgg2
 z2:=Tryz.sizeOf2
 v2:=Tryz.zeroValue2
 t3:=Tryz.underlying3
 a3:=Tryz.isAgg3
 z3:=Tryz.sizeOf3
 v3:=Tryz.zeroValue3
 t4:=Tryz.underlying4
 a4:=Tryz.isAgg4
 z4:=Tryz.sizeOf4
 v4:=Tryz.zeroValue4
 t5:=Tryz.underlying5
 a5:=Tryz.isAgg5
 z5:=Tryz.sizeOf5
 v5:=Tryz.zeroValue5
 t9:=Tryz.underlying9
 a9:=Tryz.isAgg9
 z9:=Tryz.sizeOf9
 v9:=Tryz.zeroValue9
 t20:=Tryz.underlying20
 a20:=Tryz.isAgg20
 z20:=Tryz.sizeOf20
 v20:=Tryz.zeroValue20
 t37:=Tryz.underlying36
 a37:=Tryz.isAgg36
 z37:=Tryz.sizeOf36
 v37:=Tryz.zeroValue36
 t46:=Tryz.underlying167
 a46:=Tryz.isAgg167
 z46:=Tryz.sizeOf167
 v46:=Tryz.zeroValue167
 t51:=Tryz.underlying185
 a51:=Tryz.isAgg185
 z51:=Tryz.sizeOf185
 v51:=Tryz.zeroValue185
 t53:=Tryz.underlying162
 a53:=Tryz.isAgg162
 z53:=Tryz.sizeOf162
 v53:=Tryz.zeroValue162
 t171:=Tryz.underlying161
 a171:=Tryz.isAgg161
 z171:=Tryz.sizeOf161
 v171:=Tryz.zeroValue161
 t173:=Tryz.underlying165
 a173:=Tryz.isAgg165
 z173:=Tryz.sizeOf165
 v173:=Tryz.zeroValue165
 t212:=Tryz.underlying184
 a212:=Tryz.isAgg184
 z212:=Tryz.sizeOf184
 v212:=Tryz.zeroValue184
 t213:=Tryz.underlying186
 a213:=Tryz.isAgg186
 z213:=Tryz.sizeOf186
 t232:=Tryz.underlying229
 a232:=Tryz.isAgg229
 z232:=Tryz.sizeOf229
 v232:=Tryz.zeroValue229
 t233:=Tryz.underlying230
 a233:=Tryz.isAgg230
 z233:=Tryz.sizeOf230
 v233:=Tryz.zeroValue230
 g17:=by kernel_rfl
 g18:=by kernel_rfl
 g19:=by kernel_rfl
 i0:=by kernel_rfl
 i2:=by kernel_rfl
 i3:=by kernel_rfl
 i4:=by kernel_rfl
 i5:=by kernel_rfl
 i9:=by kernel_rfl
 i20:=by kernel_rfl
 i37:=by kernel_rfl
 i46:=by kernel_rfl
 i51:=by kernel_rfl
 i53:=by kernel_rfl
 i171:=by kernel_rfl
 i173:=by kernel_rfl
 i212:=by kernel_rfl
 i232:=by kernel_rfl
 i233:=by kernel_rfl
 m17:=by kernel_rfl
 m18:=by kernel_rfl
 m19:=by kernel_rfl }
open Go.RowKit Go.Sort Go.Lib in
theorem Tryz.strconv_FormatInt_10 (n:Int) (h0: -9223372036854775808≤n) (h1:n≤9223372036854775807) (w:World) (htab:Lib.TabIs Tryz.prog w "internal/strconv.uint64pow10" .u64 Lib.pow10Tab):
 Calls Tryz.prog 40 #[.int .i64 n, .int .i64 10] w fun e w'=>e= .returned (.string ⟨(Lib.itoa n).toArray⟩)∧ ∃ k os,w'=grow (w.drewN k) os:=Any.strconv_FormatInt_10 Tryz.Wp n h0 h1 w htab
def Tryz.Gi:Go.Shelf.Ren:=⟨fun | 169=>42 | n=>n,fun | 70=>83 | 9=>9 | 0=>0 | 72=>85 | 37=>36 | 127=>133 | 3=>3 | 5=>5 | n=>n,fun | n=>n⟩
theorem Tryz.Wl:Go.Proofs.Lays.n169 Tryz.prog Tryz.Gi:= {
 mixed:=by kernel_rfl
 f169:=Tryz.func42.trans (congrArg some (by kernel_rfl))
 t0:=Tryz.underlying0
 a0:=Tryz.isAgg0
 z0:=Tryz.sizeOf0
 v0:=Tryz.zeroValue0
 t3:=Tryz.underlying3
 a3:=Tryz.isAgg3
 z3:=Tryz.sizeOf3
 v3:=Tryz.zeroValue3
 t9:=Tryz.underlying9
 a9:=Tryz.isAgg9
 z9:=Tryz.sizeOf9
 v9:=Tryz.zeroValue9
 t37:=Tryz.underlying36
 a37:=Tryz.isAgg36
 z37:=Tryz.sizeOf36
 v37:=Tryz.zeroValue36
 t70:=Tryz.underlying83
 a70:=Tryz.isAgg83
 z70:=Tryz.sizeOf83
 v70:=Tryz.zeroValue83
 t72:=Tryz.underlying85
 a72:=Tryz.isAgg85
 z72:=Tryz.sizeOf85
 v72:=Tryz.zeroValue85
 t127:=Tryz.underlying133
 a127:=Tryz.isAgg133
 z127:=Tryz.sizeOf133
 v127:=Tryz.zeroValue133 }
theorem Tryz.P5:Builder.Extra Tryz.prog Tryz.Gi:= {
 sizeBuilder:=by kernel_rfl
 liesBuilder:=by kernel_rfl
 t5:=Tryz.underlying5
 a5:=Tryz.isAgg5
 z5:=Tryz.sizeOf5
 v5:=Tryz.zeroValue5
 infoByte:=by kernel_rfl
 cellsByte:=by kernel_rfl
 sizeByte:=by kernel_rfl
 neB5:=by decide }
open Go.RowKit in
def Tryz.Mi:Go.Shelf.Ren:=⟨fun | 105=>84 | 212=>120 | 99=>121 | 165=>122 | 166=>38 | 170=>123 | 169=>42 | 263=>142 | 264=>143 | 206=>144 | 240=>81 | 241=>145 | 276=>115 | 277=>164 | n=>n,fun | 9=>9 | 3=>3 | 4=>4 | 20=>20 | 0=>0 | 46=>167 | 109=>168 | 5=>5 | 72=>85 | 76=>88 | 51=>185 | 146=>189 | 53=>162 | 148=>191 | 70=>83 | 37=>36 | 75=>87 | 127=>133 | 164=>159 | 80=>77 | n=>n,fun | n=>n⟩
theorem Tryz.We:Go.Proofs.Lays.n105 Tryz.prog Tryz.Mi:= {
 mixed:=by kernel_rfl
 f99:=Tryz.func121.trans (congrArg some (by kernel_rfl))
 f105:=Tryz.func84.trans (congrArg some (by kernel_rfl))
 f165:=Tryz.func122.trans (congrArg some (by kernel_rfl))
 f166:=Tryz.func38.trans (congrArg some (by kernel_rfl))
 f169:=Tryz.func42.trans (congrArg some (by kernel_rfl))
 f170:=Tryz.func123.trans (congrArg some (by kernel_rfl))
 f206:=Tryz.func144.trans (congrArg some (by kernel_rfl))
 f212:=Tryz.func120.trans (congrArg some (by kernel_rfl))
 f240:=Tryz.func81.trans (congrArg some (by kernel_rfl))
 f241:=Tryz.func145.trans (congrArg some (by kernel_rfl))
 f263:=Tryz.func142.trans (congrArg some (by kernel_rfl))
 f264:=Tryz.func143.trans (congrArg some (by kernel_rfl))
 f276:=Tryz.func115.trans (congrArg some (by kernel_rfl))
 f277:=Tryz.func164.trans (congrArg some (by kernel_rfl))
 t0:=Tryz.underlying0
 a0:=Tryz.isAgg0
 z0:=Tryz.sizeOf0
 v0:=Tryz.zeroValue0
 t3:=Tryz.underlying3
 a3:=Tryz.isAgg3
 z3:=Tryz.sizeOf3
 v3:=Tryz.zeroValue3
 t4:=Tryz.underlying4
 a4:=Tryz.isAgg4
 z4:=Tryz.sizeOf4
 v4:=Tryz.zeroValue4
 t5:=Tryz.underlying5
 a5:=Tryz.isAgg5
 z5:=Tryz.sizeOf5
 v5:=Tryz.zeroValue5
 t9:=Tryz.underlying9
 a9:=Tryz.isAgg9
 z9:=Tryz.sizeOf9
 v9:=Tryz.zeroValue9
 t20:=Tryz.underlying20
 a20:=Tryz.isAgg20
 z20:=Tryz.sizeOf20
 v20:=Tryz.zeroValue20
 t37:=Tryz.underlying36
 a37:=Tryz.isAgg36
 z37:=Tryz.sizeOf36
 v37:=Tryz.zeroValue36
 t46:=Tryz.underlying167
 a46:=Tryz.isAgg167
 z46:=Tryz.sizeOf167
 v46:=Tryz.zeroValue167
 t51:=Tryz.underlying185
 a51:=Tryz.isAgg185
 z51:=Tryz.sizeOf185
 v51:=Tryz.zeroValue185
 t53:=Tryz.underlying162
 a53:=Tryz.isAgg162
 z53:=Tryz.sizeOf162
 v53:=Tryz.zeroValue162
 t70:=Tryz.underlying83
 a70:=Tryz.isAgg83
 z70:=Tryz.sizeOf83
 v70:=Tryz.zeroValue83
 t72:=Tryz.underlying85
 a72:=Tryz.isAgg85
 z72:=Tryz.sizeOf85
 v72:=Tryz.zeroValue85
 t75:=Tryz.underlying87
 a75:=Tryz.isAgg87
 z75:=Tryz.sizeOf87
 v75:=Tryz.zeroValue87
 t76:=Tryz.underlying88
 a76:=Tryz.isAgg88
 z76:=Tryz.sizeOf88
 v76:=Tryz.zeroValue88
 t109:=Tryz.underlying168
 a109:=Tryz.isAgg168
 z109:=Tryz.sizeOf168
 v109:=Tryz.zeroValue168
 t127:=Tryz.underlying133
 a127:=Tryz.isAgg133
 z127:=Tryz.sizeOf133
 v127:=Tryz.zeroValue133
 t146:=Tryz.underlying189
 a146:=Tryz.isAgg189
 z146:=Tryz.sizeOf189
 v146:=Tryz.zeroValue189
 t148:=Tryz.underlying191
 a148:=Tryz.isAgg191
 z148:=Tryz.sizeOf191
 v148:=Tryz.zeroValue191
 t164:=Tryz.underlying159
 a164:=Tryz.isAgg159
 z164:=Tryz.sizeOf159
 v164:=Tryz.zeroValue159 }
theorem Tryz.P3:Builder.Extra Tryz.prog Tryz.Mi:= {
 sizeBuilder:=by kernel_rfl
 liesBuilder:=by kernel_rfl
 t5:=Tryz.underlying5
 a5:=Tryz.isAgg5
 z5:=Tryz.sizeOf5
 v5:=Tryz.zeroValue5
 infoByte:=by kernel_rfl
 cellsByte:=by kernel_rfl
 sizeByte:=by kernel_rfl
 neB5:=by decide }
open Go.RowKit Go.Lib in
theorem Tryz.strings_Repeat (s:ByteArray) (c:Nat) (w:World) (hc:c≤9223372036854775807) (hlen:s.size*c≤140737488355328):
 Calls Tryz.prog 84 #[.string s, .int .i64 c] w fun e w'=>e= .returned (.string ⟨(Lib.repeatL s.data.toList c).toArray⟩)∧Below w.heap.size w w':=Any.strings_Repeat Tryz.We Tryz.P3 s c w hc hlen
def Tryz.Wo:Go.Shelf.Ren:=⟨fun | 171=>39 | 243=>82 | 246=>83 | 283=>116 | 284=>117 | 285=>118 | 286=>119 | 129=>138 | 317=>137 | 318=>139 | 319=>140 | 320=>141 | 337=>162 | 338=>163 | n=>n,fun | 3=>3 | 9=>9 | 2=>2 | 4=>4 | 171=>161 | 0=>0 | 53=>162 | 37=>36 | 5=>5 | 173=>165 | 212=>184 | 51=>185 | 20=>20 | 213=>186 | 46=>167 | 232=>229 | 233=>230 | n=>n,fun | 17=>0 | 18=>2 | 19=>3 | n=>n⟩
theorem Tryz.Wn:Go.Proofs.LaysM.n171 Tryz.prog Tryz.Wo:= {
 mixed:=by kernel_rfl
 f129:=Tryz.func138.trans (congrArg some (by kernel_rfl))
 f171:=Tryz.func39.trans (congrArg some (by kernel_rfl))
 f243:=Tryz.func82.trans (congrArg some (by kernel_rfl))
 f246:=Tryz.func83.trans (congrArg some (by kernel_rfl))
 f283:=Tryz.func116.trans (congrArg some (by kernel_rfl))
 f284:=Tryz.func117.trans (congrArg some (by kernel_rfl))
 f285:=Tryz.func118.trans (congrArg some (by kernel_rfl))
 f286:=Tryz.func119.trans (congrArg some (by kernel_rfl))
 f317:=Tryz.func137.trans (congrArg some (by kernel_rfl))
 f318:=Tryz.func139.trans (congrArg some (by kernel_rfl))
 f319:=Tryz.func140.trans (congrArg some (by kernel_rfl))
 f320:=Tryz.func141.trans (congrArg some (by kernel_rfl))
 f337:=Tryz.func162.trans (congrArg some (by kernel_rfl))
 f338:=Tryz.func163.trans (congrArg some (by kernel_rfl))
 t0:=Tryz.underlying0
 a0:=Tryz.isAgg0
 z0:=Tryz.sizeOf0
 v0:=Tryz.zeroValue0
 t2:=Tryz.underlying2
 a2:=Tryz.isAgg2
 z2:=Tryz.sizeOf2
 v2:=Tryz.zeroValue2
 t3:=Tryz.underlying3
 a3:=Tryz.isAgg3
 z3:=Tryz.sizeOf3
 v3:=Tryz.zeroValue3
 t4:=Tryz.underlying4
 a4:=Tryz.isAgg4
 z4:=Tryz.sizeOf4
 v4:=Tryz.zeroValue4
 t5:=Tryz.underlying5
 a5:=Tryz.isAgg5
 z5:=Tryz.sizeOf5
 v5:=Tryz.zeroValue5
 t9:=Tryz.underlying9
 a9:=Tryz.isAgg9
 z9:=Tryz.sizeOf9
 v9:=Tryz.zeroValue9
 t20:=Tryz.underlying20
 a20:=Tryz.isAgg20
 z20:=Tryz.sizeOf20
 v20:=Tryz.zeroValue20
 t37:=Tryz.underlying36
 a37:=Tryz.isAgg36
 z37:=Tryz.sizeOf36
 v37:=Tryz.zeroValue36
 t46:=Tryz.underlying167
 a46:=Tryz.isAgg167
 z46:=Tryz.sizeOf167
 v46:=Tryz.zeroValue167
 t51:=Tryz.underlying185
 a51:=Tryz.isAgg185
 z51:=Tryz.sizeOf185
 v51:=Tryz.zeroValue185
 t53:=Tryz.underlying162
 a53:=Tryz.isAgg162
 z53:=Tryz.sizeOf162
 v53:=Tryz.zeroValue162
 t171:=Tryz.underlying161
 a171:=Tryz.isAgg161
 z171:=Tryz.sizeOf161
 v171:=Tryz.zeroValue161
 t173:=Tryz.underlying165
 a173:=Tryz.isAgg165
 z173:=Tryz.sizeOf165
 v173:=Tryz.zeroValue165
 t212:=Tryz.underlying184
 a212:=Tryz.isAgg184
 z212:=Tryz.sizeOf184
 v212:=Tryz.zeroValue184
 t213:=Tryz.underlying186
 a213:=Tryz.isAgg186
 z213:=Tryz.sizeOf186
 t232:=Tryz.underlying229
 a232:=Tryz.isAgg229
 z232:=Tryz.sizeOf229
 v232:=Tryz.zeroValue229
 t233:=Tryz.underlying230
 a233:=Tryz.isAgg230
 z233:=Tryz.sizeOf230
 v233:=Tryz.zeroValue230
 g17:=by kernel_rfl
 g18:=by kernel_rfl
 g19:=by kernel_rfl
 i0:=by kernel_rfl
 i2:=by kernel_rfl
 i3:=by kernel_rfl
 i4:=by kernel_rfl
 i5:=by kernel_rfl
 i9:=by kernel_rfl
 i20:=by kernel_rfl
 i37:=by kernel_rfl
 i46:=by kernel_rfl
 i51:=by kernel_rfl
 i53:=by kernel_rfl
 i171:=by kernel_rfl
 i173:=by kernel_rfl
 i212:=by kernel_rfl
 i232:=by kernel_rfl
 i233:=by kernel_rfl
 m17:=by kernel_rfl
 m18:=by kernel_rfl
 m19:=by kernel_rfl }
open Go.RowKit Go.Sort Go.Lib in
theorem Tryz.strconv_Itoa (n:Int) (h0: -9223372036854775808≤n) (h1:n≤9223372036854775807) (w:World) (htab:Lib.TabIs Tryz.prog w "internal/strconv.uint64pow10" .u64 Lib.pow10Tab):
 Calls Tryz.prog 39 #[.int .i64 n] w fun e w'=>e= .returned (.string ⟨(Lib.itoa n).toArray⟩)∧ ∃ k os,w'=grow (w.drewN k) os:=Any.strconv_Itoa Tryz.Wn n h0 h1 w htab
end Go.Proofs
namespace Go.Proofs
open Go.Shelf
def Tryz.Gh:Go.Shelf.Ren:=⟨fun | 166=>38 | 240=>81 | 276=>115 | n=>n,fun | 0=>0 | 3=>3 | 4=>4 | 5=>5 | 9=>9 | 20=>20 | 31=>100 | 37=>36 | 70=>83 | 72=>85 | 75=>87 | 76=>88 | 80=>77 | 127=>133 | 164=>159 | n=>n,fun | n=>n⟩
theorem Tryz.Wk:Go.Proofs.Lays.n166 Tryz.prog Tryz.Gh:= {
 mixed:=by kernel_rfl
 f166:=Tryz.func38.trans (congrArg some (by kernel_rfl))
 f240:=Tryz.func81.trans (congrArg some (by kernel_rfl))
 f276:=Tryz.func115.trans (congrArg some (by kernel_rfl))
 t0:=Tryz.underlying0
 a0:=Tryz.isAgg0
 z0:=Tryz.sizeOf0
 v0:=Tryz.zeroValue0
 t3:=Tryz.underlying3
 a3:=Tryz.isAgg3
 z3:=Tryz.sizeOf3
 v3:=Tryz.zeroValue3
 t4:=Tryz.underlying4
 a4:=Tryz.isAgg4
 z4:=Tryz.sizeOf4
 v4:=Tryz.zeroValue4
 t9:=Tryz.underlying9
 a9:=Tryz.isAgg9
 z9:=Tryz.sizeOf9
 v9:=Tryz.zeroValue9
 t20:=Tryz.underlying20
 a20:=Tryz.isAgg20
 z20:=Tryz.sizeOf20
 v20:=Tryz.zeroValue20
 t37:=Tryz.underlying36
 a37:=Tryz.isAgg36
 z37:=Tryz.sizeOf36
 v37:=Tryz.zeroValue36
 t70:=Tryz.underlying83
 a70:=Tryz.isAgg83
 z70:=Tryz.sizeOf83
 v70:=Tryz.zeroValue83
 t72:=Tryz.underlying85
 a72:=Tryz.isAgg85
 z72:=Tryz.sizeOf85
 v72:=Tryz.zeroValue85
 t75:=Tryz.underlying87
 a75:=Tryz.isAgg87
 z75:=Tryz.sizeOf87
 v75:=Tryz.zeroValue87
 t164:=Tryz.underlying159
 a164:=Tryz.isAgg159
 z164:=Tryz.sizeOf159
 v164:=Tryz.zeroValue159 }
theorem Tryz.P4:Builder.Extra Tryz.prog Tryz.Gh:= {
 sizeBuilder:=by kernel_rfl
 liesBuilder:=by kernel_rfl
 t5:=Tryz.underlying5
 a5:=Tryz.isAgg5
 z5:=Tryz.sizeOf5
 v5:=Tryz.zeroValue5
 infoByte:=by kernel_rfl
 cellsByte:=by kernel_rfl
 sizeByte:=by kernel_rfl
 neB5:=by decide }
def Tryz.BJ:Go.Shelf.Ren:=⟨fun | 167=>147 | 240=>81 | 276=>115 | n=>n,fun | 0=>0 | 3=>3 | 4=>4 | 5=>5 | 9=>9 | 20=>20 | 31=>100 | 37=>36 | 70=>83 | 72=>85 | 75=>87 | 76=>88 | 80=>77 | 127=>133 | 164=>159 | n=>n,fun | n=>n⟩
theorem Tryz.Mj:Go.Proofs.Lays.n167 Tryz.prog Tryz.BJ:= {
 mixed:=by kernel_rfl
 f167:=Tryz.func147.trans (congrArg some (by kernel_rfl))
 f240:=Tryz.func81.trans (congrArg some (by kernel_rfl))
 f276:=Tryz.func115.trans (congrArg some (by kernel_rfl))
 t0:=Tryz.underlying0
 a0:=Tryz.isAgg0
 z0:=Tryz.sizeOf0
 v0:=Tryz.zeroValue0
 t4:=Tryz.underlying4
 a4:=Tryz.isAgg4
 z4:=Tryz.sizeOf4
 v4:=Tryz.zeroValue4
 t5:=Tryz.underlying5
 a5:=Tryz.isAgg5
 z5:=Tryz.sizeOf5
 v5:=Tryz.zeroValue5
 t9:=Tryz.underlying9
 a9:=Tryz.isAgg9
 z9:=Tryz.sizeOf9
 v9:=Tryz.zeroValue9
 t20:=Tryz.underlying20
 a20:=Tryz.isAgg20
 z20:=Tryz.sizeOf20
 v20:=Tryz.zeroValue20
 t37:=Tryz.underlying36
 a37:=Tryz.isAgg36
 z37:=Tryz.sizeOf36
 v37:=Tryz.zeroValue36
 t70:=Tryz.underlying83
 a70:=Tryz.isAgg83
 z70:=Tryz.sizeOf83
 v70:=Tryz.zeroValue83
 t72:=Tryz.underlying85
 a72:=Tryz.isAgg85
 z72:=Tryz.sizeOf85
 v72:=Tryz.zeroValue85
 t75:=Tryz.underlying87
 a75:=Tryz.isAgg87
 z75:=Tryz.sizeOf87
 v75:=Tryz.zeroValue87
 t164:=Tryz.underlying159
 a164:=Tryz.isAgg159
 z164:=Tryz.sizeOf159
 v164:=Tryz.zeroValue159 }
theorem Tryz.IB:Builder.Extra Tryz.prog Tryz.BJ:= {
 sizeBuilder:=by kernel_rfl
 liesBuilder:=by kernel_rfl
 t5:=Tryz.underlying5
 a5:=Tryz.isAgg5
 z5:=Tryz.sizeOf5
 v5:=Tryz.zeroValue5
 infoByte:=by kernel_rfl
 cellsByte:=by kernel_rfl
 sizeByte:=by kernel_rfl
 neB5:=by decide }
end Go.Proofs
set_option maxRecDepth 100000
namespace Go.Sy.Ex
open Go.Sy Go.Proofs
noncomputable section
structure ai where
 Kind:Int
 At:Int
 End:Int
 Text:List UInt8
 N:Int
 deriving DecidableEq
def ai.z:ai:=⟨0,0,0,[],0⟩
structure aF where
 Code:Int
 At:Int
 deriving DecidableEq
def aF.z:aF:=⟨0,0⟩
structure aJ where
 Name:List UInt8
 N:Int
 At:Int
 deriving DecidableEq
def aJ.z:aJ:=⟨[],0,0⟩
structure ak where
 Kind:Int
 N:Int
 Name:List UInt8
 Kids:List ak
 At:Int
def ak.z:ak:=⟨0,0,[],[],0⟩
structure aj where
 Kind:Int
 Name:List UInt8
 Event:List UInt8
 X:List ak
 N:Int
 eU:List aj
 eB:List aj
 At:Int
def aj.z:aj:=⟨0,[],[],[],0,[],[],0⟩
structure aK where
 Event:List UInt8
 Guard:List ak
 Target:List UInt8
 oO:List aj
 At:Int
def aK.z:aK:=⟨[],[],[],[],0⟩
structure ax where
 Kind:Int
 Name:List UInt8
 Entry:List aj
 Exit:List aj
 Trans:List aK
 Kids:List ax
 At:Int
def ax.z:ax:=⟨0,[],[],[],[],[],0⟩
structure b7 where
 Name:List UInt8
 Steps:Int
 Fuel:Int
 Vars:List aJ
 sP:List aJ
 sS:List aJ
 mh:List ax
 At:Int
def b7.z:b7:=⟨[],0,0,[],[],[],[],0⟩
structure aV where
 L:List ai
 At:Int
 aE:aF
 deriving DecidableEq
def aV.z:aV:=⟨[],0,aF.z⟩
structure aA where
 Row:aV
 deriving DecidableEq
def aA.z:aA:=⟨aV.z⟩
structure aH where
 Row:aV
 bl:Int
 deriving DecidableEq
def aH.z:aH:=⟨aV.z,0⟩
structure aP where
 Row:aV
 bl:Int
 deriving DecidableEq
def aP.z:aP:=⟨aV.z,0⟩
structure aB where
 l:List ai
 ah:Int
 bad:aF
 deriving DecidableEq
def aB.z:aB:=⟨[],0,aF.z⟩
structure aU where
 l:List ai
 ah:Int
 bl:Int
 bad:aF
 deriving DecidableEq
def aU.z:aU:=⟨[],0,0,aF.z⟩
def C:Nat→Type
 | 0=>ai
 | 1=>aF
 | 2=>List UInt8×List UInt8×List UInt8×List UInt8×List UInt8×List UInt8×List UInt8
 | 3=>b7
 | 4=>aJ
 | 5=>ax
 | 6=>aj
 | 7=>ak
 | 8=>aK
 | 9=>aV
 | 10=>aA
 | 11=>aH
 | 12=>aP
 | 13=>Unit
 | 14=>List UInt8×List UInt8×List UInt8×List UInt8×List UInt8×List UInt8×List UInt8×List UInt8×List UInt8×List UInt8×List UInt8×List UInt8×List UInt8
 | 15=>aB
 | 16=>List UInt8×List UInt8×List UInt8×List UInt8×List UInt8×List UInt8×List UInt8×List UInt8×List UInt8×List UInt8×List UInt8×List UInt8×List UInt8×List UInt8×List UInt8×List UInt8×List UInt8×List UInt8×List UInt8×List UInt8×List UInt8×List UInt8×List UInt8×List UInt8×List UInt8×List UInt8×List UInt8×List UInt8×List UInt8×List UInt8×List UInt8×List UInt8×List UInt8×List UInt8×List UInt8
 | 17=>aU
 | _+18=>Unit
def F:Nat→List Ty
 | 0=> [.int .i64, .int .i64, .int .i64, .str, .int .i64]
 | 1=> [.int .i64, .int .i64]
 | 2=> [.str, .str, .str, .str, .str, .str, .str]
 | 3=> [.str, .int .i64, .int .i64, .sl (.st 4), .sl (.st 4), .sl (.st 4), .sl (.st 5), .int .i64]
 | 4=> [.str, .int .i64, .int .i64]
 | 5=> [.int .i64, .str, .sl (.st 6), .sl (.st 6), .sl (.st 8), .sl (.st 5), .int .i64]
 | 6=> [.int .i64, .str, .str, .sl (.st 7), .int .i64, .sl (.st 6), .sl (.st 6), .int .i64]
 | 7=> [.int .i64, .int .i64, .str, .sl (.st 7), .int .i64]
 | 8=> [.str, .sl (.st 7), .str, .sl (.st 6), .int .i64]
 | 9=> [.sl (.st 0), .int .i64, .int .i64, .int .i64]
 | 10=> [.sl (.st 0), .int .i64, .int .i64, .int .i64]
 | 11=> [.sl (.st 0), .int .i64, .int .i64, .int .i64, .int .i64]
 | 12=> [.sl (.st 0), .int .i64, .int .i64, .int .i64, .int .i64]
 | 13=> []
 | 14=> [.str, .str, .str, .str, .str, .str, .str, .str, .str, .str, .str, .str, .str]
 | 15=> [.sl (.st 0), .int .i64, .int .i64, .int .i64]
 | 16=> [.str, .str, .str, .str, .str, .str, .str, .str, .str, .str, .str, .str, .str, .str, .str, .str, .str, .str, .str, .str, .str, .str, .str, .str, .str, .str, .str, .str, .str, .str, .str, .str, .str, .str, .str]
 | 17=> [.sl (.st 0), .int .i64, .int .i64, .int .i64, .int .i64]
 | _+18=> []
def ex:(t:Nat)→C t→ay C (F t)
 | 0,(x:ai)=>(x.Kind,x.At,x.End,x.Text,x.N)
 | 1,(x:aF)=>(x.Code,x.At)
 | 2,(x:List UInt8×List UInt8×List UInt8×List UInt8×List UInt8×List UInt8×List UInt8)=>(x.1,x.2.1,x.2.2.1,x.2.2.2.1,x.2.2.2.2.1,x.2.2.2.2.2.1,x.2.2.2.2.2.2)
 | 3,(x:b7)=>(x.Name,x.Steps,x.Fuel,x.Vars,x.sP,x.sS,x.mh,x.At)
 | 4,(x:aJ)=>(x.Name,x.N,x.At)
 | 5,(x:ax)=>(x.Kind,x.Name,x.Entry,x.Exit,x.Trans,x.Kids,x.At)
 | 6,(x:aj)=>(x.Kind,x.Name,x.Event,x.X,x.N,x.eU,x.eB,x.At)
 | 7,(x:ak)=>(x.Kind,x.N,x.Name,x.Kids,x.At)
 | 8,(x:aK)=>(x.Event,x.Guard,x.Target,x.oO,x.At)
 | 9,(x:aV)=>(x.L,x.At,x.aE.Code,x.aE.At)
 | 10,(x:aA)=>(x.Row.L,x.Row.At,x.Row.aE.Code,x.Row.aE.At)
 | 11,(x:aH)=>(x.Row.L,x.Row.At,x.Row.aE.Code,x.Row.aE.At,x.bl)
 | 12,(x:aP)=>(x.Row.L,x.Row.At,x.Row.aE.Code,x.Row.aE.At,x.bl)
 | 13,_=>()
 | 14,(x:List UInt8×List UInt8×List UInt8×List UInt8×List UInt8×List UInt8×List UInt8×List UInt8×List UInt8×List UInt8×List UInt8×List UInt8×List UInt8)=>(x.1,x.2.1,x.2.2.1,x.2.2.2.1,x.2.2.2.2.1,x.2.2.2.2.2.1,x.2.2.2.2.2.2.1,x.2.2.2.2.2.2.2.1,x.2.2.2.2.2.2.2.2.1,x.2.2.2.2.2.2.2.2.2.1,x.2.2.2.2.2.2.2.2.2.2.1,x.2.2.2.2.2.2.2.2.2.2.2.1,x.2.2.2.2.2.2.2.2.2.2.2.2)
 | 15,(x:aB)=>(x.l,x.ah,x.bad.Code,x.bad.At)
 | 16,(x:List UInt8×List UInt8×List UInt8×List UInt8×List UInt8×List UInt8×List UInt8×List UInt8×List UInt8×List UInt8×List UInt8×List UInt8×List UInt8×List UInt8×List UInt8×List UInt8×List UInt8×List UInt8×List UInt8×List UInt8×List UInt8×List UInt8×List UInt8×List UInt8×List UInt8×List UInt8×List UInt8×List UInt8×List UInt8×List UInt8×List UInt8×List UInt8×List UInt8×List UInt8×List UInt8)=>(x.1,x.2.1,x.2.2.1,x.2.2.2.1,x.2.2.2.2.1,x.2.2.2.2.2.1,x.2.2.2.2.2.2.1,x.2.2.2.2.2.2.2.1,x.2.2.2.2.2.2.2.2.1,x.2.2.2.2.2.2.2.2.2.1,x.2.2.2.2.2.2.2.2.2.2.1,x.2.2.2.2.2.2.2.2.2.2.2.1,x.2.2.2.2.2.2.2.2.2.2.2.2.1,x.2.2.2.2.2.2.2.2.2.2.2.2.2.1,x.2.2.2.2.2.2.2.2.2.2.2.2.2.2.1,x.2.2.2.2.2.2.2.2.2.2.2.2.2.2.2.1,x.2.2.2.2.2.2.2.2.2.2.2.2.2.2.2.2.1,x.2.2.2.2.2.2.2.2.2.2.2.2.2.2.2.2.2.1,x.2.2.2.2.2.2.2.2.2.2.2.2.2.2.2.2.2.2.1,x.2.2.2.2.2.2.2.2.2.2.2.2.2.2.2.2.2.2.2.1,x.2.2.2.2.2.2.2.2.2.2.2.2.2.2.2.2.2.2.2.2.1,x.2.2.2.2.2.2.2.2.2.2.2.2.2.2.2.2.2.2.2.2.2.1,x.2.2.2.2.2.2.2.2.2.2.2.2.2.2.2.2.2.2.2.2.2.2.1,x.2.2.2.2.2.2.2.2.2.2.2.2.2.2.2.2.2.2.2.2.2.2.2.1,x.2.2.2.2.2.2.2.2.2.2.2.2.2.2.2.2.2.2.2.2.2.2.2.2.1,x.2.2.2.2.2.2.2.2.2.2.2.2.2.2.2.2.2.2.2.2.2.2.2.2.2.1,x.2.2.2.2.2.2.2.2.2.2.2.2.2.2.2.2.2.2.2.2.2.2.2.2.2.2.1,x.2.2.2.2.2.2.2.2.2.2.2.2.2.2.2.2.2.2.2.2.2.2.2.2.2.2.2.1,x.2.2.2.2.2.2.2.2.2.2.2.2.2.2.2.2.2.2.2.2.2.2.2.2.2.2.2.2.1,x.2.2.2.2.2.2.2.2.2.2.2.2.2.2.2.2.2.2.2.2.2.2.2.2.2.2.2.2.2.1,x.2.2.2.2.2.2.2.2.2.2.2.2.2.2.2.2.2.2.2.2.2.2.2.2.2.2.2.2.2.2.1,x.2.2.2.2.2.2.2.2.2.2.2.2.2.2.2.2.2.2.2.2.2.2.2.2.2.2.2.2.2.2.2.1,x.2.2.2.2.2.2.2.2.2.2.2.2.2.2.2.2.2.2.2.2.2.2.2.2.2.2.2.2.2.2.2.2.1,x.2.2.2.2.2.2.2.2.2.2.2.2.2.2.2.2.2.2.2.2.2.2.2.2.2.2.2.2.2.2.2.2.2.1,x.2.2.2.2.2.2.2.2.2.2.2.2.2.2.2.2.2.2.2.2.2.2.2.2.2.2.2.2.2.2.2.2.2.2)
 | 17,(x:aU)=>(x.l,x.ah,x.bl,x.bad.Code,x.bad.At)
 | _+18,_=>()
def im:(t:Nat)→ay C (F t)→C t
 | 0,(a0,a1,a2,a3,a4)=>ai.mk a0 a1 a2 a3 a4
 | 1,(a0,a1)=>aF.mk a0 a1
 | 2,(a0,a1,a2,a3,a4,a5,a6)=>(a0,a1,a2,a3,a4,a5,a6)
 | 3,(a0,a1,a2,a3,a4,a5,a6,a7)=>b7.mk a0 a1 a2 a3 a4 a5 a6 a7
 | 4,(a0,a1,a2)=>aJ.mk a0 a1 a2
 | 5,(a0,a1,a2,a3,a4,a5,a6)=>ax.mk a0 a1 a2 a3 a4 a5 a6
 | 6,(a0,a1,a2,a3,a4,a5,a6,a7)=>aj.mk a0 a1 a2 a3 a4 a5 a6 a7
 | 7,(a0,a1,a2,a3,a4)=>ak.mk a0 a1 a2 a3 a4
 | 8,(a0,a1,a2,a3,a4)=>aK.mk a0 a1 a2 a3 a4
 | 9,(a0,a1,a2,a3)=>aV.mk a0 a1 (aF.mk a2 a3)
 | 10,(a0,a1,a2,a3)=>aA.mk (aV.mk a0 a1 (aF.mk a2 a3))
 | 11,(a0,a1,a2,a3,a4)=>aH.mk (aV.mk a0 a1 (aF.mk a2 a3)) a4
 | 12,(a0,a1,a2,a3,a4)=>aP.mk (aV.mk a0 a1 (aF.mk a2 a3)) a4
 | 13,_=>()
 | 14,(a0,a1,a2,a3,a4,a5,a6,a7,a8,a9,DR,DS,a12)=>(a0,a1,a2,a3,a4,a5,a6,a7,a8,a9,DR,DS,a12)
 | 15,(a0,a1,a2,a3)=>aB.mk a0 a1 (aF.mk a2 a3)
 | 16,(a0,a1,a2,a3,a4,a5,a6,a7,a8,a9,DR,DS,a12,Qq,Qr,Qs,Qt,Qu,Qv,Qw,a20,a21,Qx,Qy,a24,Qz,QA,QB,a28,QD,QE,a31,a32,QF,QG)=>(a0,a1,a2,a3,a4,a5,a6,a7,a8,a9,DR,DS,a12,Qq,Qr,Qs,Qt,Qu,Qv,Qw,a20,a21,Qx,Qy,a24,Qz,QA,QB,a28,QD,QE,a31,a32,QF,QG)
 | 17,(a0,a1,a2,a3,a4)=>aU.mk a0 a1 a2 (aF.mk a3 a4)
 | _+18,_=>()
def jv:Nat→List (Nat×Ty)
 | 0=> [(0, .int .i64),(1, .int .i64),(2, .int .i64),(3, .str),(4, .int .i64)]
 | 1=> [(0, .int .i64),(1, .int .i64)]
 | 2=>qc (.str) 7 0
 | 3=> [(0, .str),(1, .int .i64),(2, .int .i64),(3, .sl (.st 4)),(4, .sl (.st 4)),(5, .sl (.st 4)),(6, .sl (.st 5)),(7, .int .i64)]
 | 4=> [(0, .str),(1, .int .i64),(2, .int .i64)]
 | 5=> [(0, .int .i64),(1, .str),(2, .sl (.st 6)),(3, .sl (.st 6)),(4, .sl (.st 8)),(5, .sl (.st 5)),(6, .int .i64)]
 | 6=> [(0, .int .i64),(1, .str),(2, .str),(3, .sl (.st 7)),(4, .int .i64),(5, .sl (.st 6)),(6, .sl (.st 6)),(7, .int .i64)]
 | 7=> [(0, .int .i64),(1, .int .i64),(2, .str),(3, .sl (.st 7)),(4, .int .i64)]
 | 8=> [(0, .str),(1, .sl (.st 7)),(2, .str),(3, .sl (.st 6)),(4, .int .i64)]
 | 9=> [(0, .sl (.st 0)),(1, .int .i64),(2, .st 1)]
 | 10=> [(0, .st 9)]
 | 11=> [(0, .st 9),(4, .int .i64)]
 | 12=> [(0, .st 9),(4, .int .i64)]
 | 13=> []
 | 14=>qc (.str) 13 0
 | 15=> [(0, .sl (.st 0)),(1, .int .i64),(2, .st 1)]
 | 16=>qc (.str) 35 0
 | 17=> [(0, .sl (.st 0)),(1, .int .i64),(2, .int .i64),(3, .st 1)]
 | _+18=> []
def z:(t:Nat)→C t
 | 0=>ai.z
 | 1=>aF.z
 | 2=>([],[],[],[],[],[],[])
 | 3=>b7.z
 | 4=>aJ.z
 | 5=>ax.z
 | 6=>aj.z
 | 7=>ak.z
 | 8=>aK.z
 | 9=>aV.z
 | 10=>aA.z
 | 11=>aH.z
 | 12=>aP.z
 | 13=>()
 | 14=>([],[],[],[],[],[],[],[],[],[],[],[],[])
 | 15=>aB.z
 | 16=>([],[],[],[],[],[],[],[],[],[],[],[],[],[],[],[],[],[],[],[],[],[],[],[],[],[],[],[],[],[],[],[],[],[],[])
 | 17=>aU.z
 | _+18=>()
def Il:List (Nat×Ty):= [(2, .int .i64),(3, .int .i64),(4, .bool),(5, .int .u8),(9, .str),(22, .sl (.int .i64)),(25, .sl (.st 4)),(26, .sl (.st 5)),(28, .st 3),(29, .int .i64),(31, .st 1),(39, .sl (.st 0)),(54, .sl (.st 6)),(55, .sl (.st 8)),(57, .st 5),(59, .sl (.st 7)),(61, .st 8),(64, .st 0),(69, .st 9),(71, .st 10),(75, .st 15),(92, .st 4),(137, .st 7),(145, .st 2),(154, .st 6),(179, .st 16),(218, .st 11),(221, .st 12),(228, .st 17),(231, .st 14)]
def Ro:List (Nat×(Nat×Ty)):= [(145,7, .str),(179,35, .str),(231,13, .str)]
def ET:List (Nat×Unit):= [(31,())]
def F6:List (Nat×Unit):= [(87,())]
def GS:List (Nat×Unit):= []
def spT:List (Nat×Unit):= []
abbrev S:bg:=⟨C,F,ex,im,fun u f=>(jv u)[f]?,z,look Il,fun t=>(look GS t).isSome,look Ro,fun t=>(look ET t).isSome,fun t=>(look F6 t).isSome,[((1,0),fun v=> ∃ m,v= .int .i64 m),((5,0),fun v=>v= .nilIface∨ ∃ t p,v= .iface t p),((4,0),fun v=>v= .nilIface∨ ∃ t p,v= .iface t p)],[(0,fun ob=> ∃ t f,ob= .cells (Go.Lib.pow10Tab.map fun z=>Value.int .u64 z).toArray t f)],some (85,5),fun t=>(look spT t).isSome⟩
def R0:List (Nat×Nat):= [(22,8),(25,32),(26,128),(39,48),(54,128),(55,88),(59,64)]
def au (t:Nat):Nat:=(look R0 t).getD 1
theorem HY:dm S:=⟨fun | 0=>rfl | 1=>rfl | 2=>rfl | 3=>rfl | 4=>rfl | 5=>rfl | 6=>rfl | 7=>rfl | 8=>rfl | 9=>rfl | 10=>rfl | 11=>rfl | 12=>rfl | 13=>rfl | 14=>rfl | 15=>rfl | 16=>rfl | 17=>rfl | _+18=>rfl,fun | 0,_=>rfl | 1,_=>rfl | 2,_=>rfl | 3,_=>rfl | 4,_=>rfl | 5,_=>rfl | 6,_=>rfl | 7,_=>rfl | 8,_=>rfl | 9,_=>rfl | 10,_=>rfl | 11,_=>rfl | 12,_=>rfl | 13,_=>rfl | 14,_=>rfl | 15,_=>rfl | 16,_=>rfl | 17,_=>rfl | _+18,_=>rfl⟩
theorem ty2:cB Tryz.prog S au 2 (.int .i64):=Aj rfl (by kernel_rfl) (by kernel_rfl) (by kernel_rfl)
theorem ty3:cB Tryz.prog S au 3 (.int .i64):=Aj rfl (by kernel_rfl) (by kernel_rfl) (by kernel_rfl)
theorem ty4:cB Tryz.prog S au 4 (.bool):=abW rfl (by kernel_rfl) (by kernel_rfl) (by kernel_rfl)
theorem ty5:cB Tryz.prog S au 5 (.int .u8):=Aj rfl (by kernel_rfl) (by kernel_rfl) (by kernel_rfl)
theorem ty9:cB Tryz.prog S au 9 (.str):=Pr rfl (by kernel_rfl) (by kernel_rfl) (by kernel_rfl)
theorem abw:cB Tryz.prog S au 22 (.sl (.int .i64)):=uS rfl (by kernel_rfl) (by kernel_rfl) Tryz.underlying22 rfl rfl (by kernel_rfl) (by kernel_rfl)
theorem abA:cB Tryz.prog S au 25 (.sl (.st 4)):=uS rfl (by kernel_rfl) (by kernel_rfl) Tryz.underlying25 rfl rfl (by kernel_rfl) (by kernel_rfl)
theorem abB:cB Tryz.prog S au 26 (.sl (.st 5)):=uS rfl (by kernel_rfl) (by kernel_rfl) Tryz.underlying26 rfl rfl (by kernel_rfl) (by kernel_rfl)
theorem abC:cB Tryz.prog S au 28 (.st 3):=j_ (l:=jv 3) rfl (by kernel_rfl) rfl (by kernel_rfl) (by kernel_rfl) rfl (by kernel_rfl) Tryz.underlying28 (by kernel_rfl) (fun _=>rfl) rfl
theorem abD:cB Tryz.prog S au 29 (.int .i64):=Aj rfl (by kernel_rfl) (by kernel_rfl) (by kernel_rfl)
theorem abF:cB Tryz.prog S au 31 (.st 1):=j_ (l:=jv 1) rfl (by kernel_rfl) rfl (by kernel_rfl) (by kernel_rfl) rfl (by kernel_rfl) Tryz.underlying31 (by kernel_rfl) (fun _=>rfl) rfl
theorem abG:cB Tryz.prog S au 39 (.sl (.st 0)):=uS rfl (by kernel_rfl) (by kernel_rfl) Tryz.underlying39 rfl rfl (by kernel_rfl) (by kernel_rfl)
theorem abJ:cB Tryz.prog S au 54 (.sl (.st 6)):=uS rfl (by kernel_rfl) (by kernel_rfl) Tryz.underlying54 rfl rfl (by kernel_rfl) (by kernel_rfl)
theorem abK:cB Tryz.prog S au 55 (.sl (.st 8)):=uS rfl (by kernel_rfl) (by kernel_rfl) Tryz.underlying55 rfl rfl (by kernel_rfl) (by kernel_rfl)
theorem abL:cB Tryz.prog S au 57 (.st 5):=j_ (l:=jv 5) rfl (by kernel_rfl) rfl (by kernel_rfl) (by kernel_rfl) rfl (by kernel_rfl) Tryz.underlying57 (by kernel_rfl) (fun _=>rfl) rfl
theorem abM:cB Tryz.prog S au 59 (.sl (.st 7)):=uS rfl (by kernel_rfl) (by kernel_rfl) Tryz.underlying59 rfl rfl (by kernel_rfl) (by kernel_rfl)
theorem abN:cB Tryz.prog S au 61 (.st 8):=j_ (l:=jv 8) rfl (by kernel_rfl) rfl (by kernel_rfl) (by kernel_rfl) rfl (by kernel_rfl) Tryz.underlying61 (by kernel_rfl) (fun _=>rfl) rfl
theorem abO:cB Tryz.prog S au 64 (.st 0):=j_ (l:=jv 0) rfl (by kernel_rfl) rfl (by kernel_rfl) (by kernel_rfl) rfl (by kernel_rfl) Tryz.underlying64 (by kernel_rfl) (fun _=>rfl) rfl
theorem abP:cB Tryz.prog S au 69 (.st 9):=j_ (l:=jv 9) rfl (by kernel_rfl) rfl (by kernel_rfl) (by kernel_rfl) rfl (by kernel_rfl) Tryz.underlying69 (by kernel_rfl) (fun _=>rfl) rfl
theorem abQ:cB Tryz.prog S au 71 (.st 10):=j_ (l:=jv 10) rfl (by kernel_rfl) rfl (by kernel_rfl) (by kernel_rfl) rfl (by kernel_rfl) Tryz.underlying71 (by kernel_rfl) (fun _=>rfl) rfl
theorem abR:cB Tryz.prog S au 75 (.st 15):=j_ (l:=jv 15) rfl (by kernel_rfl) rfl (by kernel_rfl) (by kernel_rfl) rfl (by kernel_rfl) Tryz.underlying75 (by kernel_rfl) (fun _=>rfl) rfl
theorem abT:cB Tryz.prog S au 92 (.st 4):=j_ (l:=jv 4) rfl (by kernel_rfl) rfl (by kernel_rfl) (by kernel_rfl) rfl (by kernel_rfl) Tryz.underlying92 (by kernel_rfl) (fun _=>rfl) rfl
theorem abp:cB Tryz.prog S au 137 (.st 7):=j_ (l:=jv 7) rfl (by kernel_rfl) rfl (by kernel_rfl) (by kernel_rfl) rfl (by kernel_rfl) Tryz.underlying137 (by kernel_rfl) (fun _=>rfl) rfl
theorem abq:cB Tryz.prog S au 145 (.st 2):=Ik rfl (by kernel_rfl) rfl (by kernel_rfl) (by kernel_rfl) rfl (by kernel_rfl) Tryz.underlying145 rfl rfl rfl (by kernel_rfl) (fun _=>rfl) rfl
theorem abr:cB Tryz.prog S au 154 (.st 6):=j_ (l:=jv 6) rfl (by kernel_rfl) rfl (by kernel_rfl) (by kernel_rfl) rfl (by kernel_rfl) Tryz.underlying154 (by kernel_rfl) (fun _=>rfl) rfl
theorem abt:cB Tryz.prog S au 179 (.st 16):=Ik rfl (by kernel_rfl) rfl (by kernel_rfl) (by kernel_rfl) rfl (by kernel_rfl) Tryz.underlying179 rfl rfl rfl (by kernel_rfl) (fun _=>rfl) rfl
theorem abv:cB Tryz.prog S au 218 (.st 11):=j_ (l:=jv 11) rfl (by kernel_rfl) rfl (by kernel_rfl) (by kernel_rfl) rfl (by kernel_rfl) Tryz.underlying218 (by kernel_rfl) (fun _=>rfl) rfl
theorem abx:cB Tryz.prog S au 221 (.st 12):=j_ (l:=jv 12) rfl (by kernel_rfl) rfl (by kernel_rfl) (by kernel_rfl) rfl (by kernel_rfl) Tryz.underlying221 (by kernel_rfl) (fun _=>rfl) rfl
theorem aby:cB Tryz.prog S au 228 (.st 17):=j_ (l:=jv 17) rfl (by kernel_rfl) rfl (by kernel_rfl) (by kernel_rfl) rfl (by kernel_rfl) Tryz.underlying228 (by kernel_rfl) (fun _=>rfl) rfl
theorem abz:cB Tryz.prog S au 231 (.st 14):=Ik rfl (by kernel_rfl) rfl (by kernel_rfl) (by kernel_rfl) rfl (by kernel_rfl) Tryz.underlying231 rfl rfl rfl (by kernel_rfl) (fun _=>rfl) rfl
theorem GR:bf Tryz.prog S au:=⟨HY,fun t T h0=>by
 have h:=n3 (show look Il t=some T from h0)
 simp only [Il,List.mem_cons,Prod.mk.injEq,List.not_mem_nil,or_false] at h
 rcases h with ⟨rfl,rfl⟩ | ⟨rfl,rfl⟩ | ⟨rfl,rfl⟩ | ⟨rfl,rfl⟩ | ⟨rfl,rfl⟩ | ⟨rfl,rfl⟩ | ⟨rfl,rfl⟩ | ⟨rfl,rfl⟩ | ⟨rfl,rfl⟩ | ⟨rfl,rfl⟩ | ⟨rfl,rfl⟩ | ⟨rfl,rfl⟩ | ⟨rfl,rfl⟩ | ⟨rfl,rfl⟩ | ⟨rfl,rfl⟩ | ⟨rfl,rfl⟩ | ⟨rfl,rfl⟩ | ⟨rfl,rfl⟩ | ⟨rfl,rfl⟩ | ⟨rfl,rfl⟩ | ⟨rfl,rfl⟩ | ⟨rfl,rfl⟩ | ⟨rfl,rfl⟩ | ⟨rfl,rfl⟩ | ⟨rfl,rfl⟩ | ⟨rfl,rfl⟩ | ⟨rfl,rfl⟩ | ⟨rfl,rfl⟩ | ⟨rfl,rfl⟩ | ⟨rfl,rfl⟩
 · exact ty2
 · exact ty3
 · exact ty4
 · exact ty5
 · exact ty9
 · exact abw
 · exact abA
 · exact abB
 · exact abC
 · exact abD
 · exact abF
 · exact abG
 · exact abJ
 · exact abK
 · exact abL
 · exact abM
 · exact abN
 · exact abO
 · exact abP
 · exact abQ
 · exact abR
 · exact abT
 · exact abp
 · exact abq
 · exact abr
 · exact abt
 · exact abv
 · exact abx
 · exact aby
 · exact abz,fun t h=>by
 have h2: ∃ u,look GS t=some u:=Option.isSome_iff_exists.1 h
 obtain ⟨u,h2⟩:=h2
 have h:=n3 h2
 simp [GS] at h,fun t h=>by
 have h2: ∃ u,look ET t=some u:=Option.isSome_iff_exists.1 h
 obtain ⟨u,h2⟩:=h2
 have h:=n3 h2
 simp only [ET,List.mem_cons,Prod.mk.injEq,List.not_mem_nil,or_false] at h
 rcases h with ⟨rfl,_⟩
 · exact ⟨1,rfl,⟨_,Tryz.underlying31,ER (by kernel_rfl)⟩,by kernel_rfl,by kernel_rfl⟩,fun t h=>by
 have h2: ∃ u,look F6 t=some u:=Option.isSome_iff_exists.1 h
 obtain ⟨u,h2⟩:=h2
 have h:=n3 h2
 simp only [F6,List.mem_cons,Prod.mk.injEq,List.not_mem_nil,or_false] at h
 rcases h with ⟨rfl,_⟩
 · exact ⟨_,Tryz.underlying87⟩,RX (by kernel_rfl) (by decide)⟩
theorem pk:bf Tryz.prog S au∧Tryz.prog.follows .mixedOrders=true:=⟨GR,by kernel_rfl⟩
abbrev q0:Sy.K:= .val (.data .str)
abbrev q1:Sy.K:= .val (.data (.int .i64))
abbrev q2:Sy.K:= .val (.data (.int .u8))
abbrev q3:Sy.K:= .val (.data .bool)
abbrev q4:Sy.K:= .ro (.st 2)
abbrev q5:Sy.K:= .val (.data (.st 0))
abbrev q6:Sy.K:= .obj [.data (.int .i64), .data (.int .i64), .data (.int .i64), .data .str, .data (.int .i64)]
abbrev q7:Sy.K:= .val (.bk (.st 0))
abbrev q8:Sy.K:= .val (.data (.st 1))
abbrev q9:Sy.K:= .obj [.data (.int .i64), .data (.int .i64)]
abbrev gT:Sy.K:= .obj [.data (.st 10)]
abbrev GU:Sy.K:= .val (.data (.st 4))
abbrev BZ:Sy.K:= .val (.bk (.st 4))
abbrev fh:Sy.K:= .obj [.data (.sl (.st 0)), .data (.int .i64), .data (.int .i64), .data (.int .i64)]
abbrev ji:Sy.K:= .obj [.data (.st 11)]
abbrev kz:Sy.K:= .obj [.data (.st 12)]
abbrev jA:Sy.K:= .val (.data (.st 7))
abbrev zw:Sy.K:= .obj [.data (.sl (.st 0)), .data (.int .i64), .data (.int .i64), .data (.int .i64), .data (.int .i64)]
abbrev GV:Sy.K:= .obj [.data (.int .i64), .data (.int .i64), .data .str, .aS (.st 7), .data (.int .i64)]
abbrev um:Sy.K:= .obj [.data (.int .i64), .data (.int .i64), .data .str, .data (.sl (.st 7)), .data (.int .i64)]
abbrev gv:Sy.K:= .val (.data (.sl (.st 0)))
abbrev jj:Sy.K:= .val (.data (.sl (.st 7)))
abbrev n9:Sy.K:= .val (.data (.st 6))
abbrev rI:Sy.K:= .val (.bk (.st 6))
abbrev zx:Sy.K:= .val (.data (.st 8))
abbrev n_:Sy.K:= .obj [.data .str, .aS (.st 7), .data .str, .aS (.st 6), .data (.int .i64)]
abbrev zy:Sy.K:= .obj [.data (.int .i64), .data .str, .data (.sl (.st 6)), .data (.sl (.st 6)), .bk (.st 8), .data (.sl (.st 5)), .data (.int .i64)]
abbrev vY:Sy.K:= .val (.bk (.st 5))
abbrev pP:Sy.K:= .val (.data (.st 3))
abbrev MY:Sy.K:= .obj [.data .str, .data (.int .i64), .data (.int .i64), .aS (.st 4), .aS (.st 4), .aS (.st 4), .aS (.st 5), .data (.int .i64)]
abbrev XE:Sy.K:= .val (.data (.st 14))
abbrev GW:Sy.K:= .val (.data (.sl (.int .i64)))
abbrev gU:Sy.K:= .bh
abbrev MZ:Sy.K:= .obj [.data (.int .i64), .data .str, .data .str, .data (.sl (.st 7)), .data (.int .i64), .data (.sl (.st 6)), .data (.sl (.st 6)), .data (.int .i64)]
abbrev kA:Sy.K:= .val (.data (.sl (.st 6)))
abbrev XF:Sy.K:= .obj [.data .str, .data (.sl (.st 7)), .data .str, .data (.sl (.st 6)), .data (.int .i64)]
abbrev zz:Sy.K:= .val (.data (.st 5))
abbrev XG:Sy.K:= .obj [.data (.int .i64), .data .str, .data (.sl (.st 6)), .data (.sl (.st 6)), .data (.sl (.st 8)), .data (.sl (.st 5)), .data (.int .i64)]
abbrev pQ:Sy.K:= .val (.data (.sl (.st 8)))
abbrev lE:Sy.K:= .val (.data (.sl (.st 5)))
abbrev GX:Sy.K:= .obj [.data .str, .data (.int .i64), .data (.int .i64), .data (.sl (.st 4)), .data (.sl (.st 4)), .data (.sl (.st 4)), .data (.sl (.st 5)), .data (.int .i64)]
abbrev kB:Sy.K:= .val (.data (.sl (.st 4)))
abbrev lF:Sy.K:= .obj [.data (.st 15)]
abbrev XH:Sy.K:= .ro (.st 16)
abbrev uo:Sy.K:= .obj [.data (.st 17)]
abbrev XI:Sy.K:= .obj [.data (.int .i64), .data .str, .data .str, .aS (.st 7), .data (.int .i64), .aS (.st 6), .aS (.st 6), .data (.int .i64)]
abbrev M7:Sy.K:= .obj [.data .str, .data (.sl (.st 7)), .data .str, .aS (.st 6), .data (.int .i64)]
abbrev vZ:Sy.K:= .obj [.data (.int .i64), .data .str, .aS (.st 6), .aS (.st 6), .aS (.st 8), .aS (.st 5), .data (.int .i64)]
abbrev XJ:Sy.K:= .obj [.data (.int .i64), .data .str, .data (.sl (.st 6)), .aS (.st 6), .aS (.st 8), .aS (.st 5), .data (.int .i64)]
abbrev GY:Sy.K:= .obj [.data (.int .i64), .data .str, .data (.sl (.st 6)), .data (.sl (.st 6)), .aS (.st 8), .aS (.st 5), .data (.int .i64)]
abbrev M8:Sy.K:= .fn [.st 4, .st 4] [.bool]
abbrev M9:Sy.K:= .fn [.st 7, .st 7] [.bool]
abbrev M_:Sy.K:= .fn [.st 6, .st 6] [.bool]
abbrev Na:Sy.K:= .fn [.st 8, .st 8] [.bool]
abbrev Nb:Sy.K:= .fn [.st 5, .st 5] [.bool]
abbrev GZ:Sy.K:= .err
def bz (e:Ty):Nat:=1
def l8:List (Nat×Ty):= [(3, .int .i64),(9, .str)]
def Jb:List (Nat×(Nat×Ty)):= []
abbrev SA:bg:=S.An (look l8) (fun _=>false) (look Jb) (fun _=>false)
theorem abU:cB Tryz.prog SA au 3 (.int .i64):=Aj rfl (by kernel_rfl) (by kernel_rfl) (by kernel_rfl)
theorem abV:cB Tryz.prog SA au 9 (.str):=Pr rfl (by kernel_rfl) (by kernel_rfl) (by kernel_rfl)
theorem aaE:dm SA:=⟨HY.flat,HY.vq⟩
theorem XA:bf Tryz.prog SA au:=⟨aaE,fun t e h0=>by
 have h:=n3 (show look l8 t=some (e) from h0)
 simp only [l8,List.mem_cons,Prod.mk.injEq,List.not_mem_nil,or_false] at h
 rcases h with ⟨rfl,h⟩ | ⟨rfl,h⟩
 · subst h; exact abU
 · subst h; exact abV,fun t h=>(nomatch h),fun t h=>(nomatch h),GR.ru,GR.bt⟩
theorem hbz: ∀ t e,SA.ty t=some (.sl e)→au t=bz e:=fun t e h0=>by
 have h:=n3 (show look l8 t=some (.sl e) from h0)
 simp only [l8,List.mem_cons,Prod.mk.injEq,List.not_mem_nil,or_false] at h
 rcases h with ⟨rfl,h⟩ | ⟨rfl,h⟩
 · exact (nomatch h)
 · exact (nomatch h)
theorem aaO:DK SA:=⟨fun t e h0=>by
 have h:=n3 (show look l8 t=some (.sl e) from h0)
 simp only [l8,List.mem_cons,Prod.mk.injEq,List.not_mem_nil,or_false] at h
 rcases h with ⟨rfl,h⟩ | ⟨rfl,h⟩
 · exact (nomatch h)
 · exact (nomatch h),fun t h0=>by
 have h:=n3 (show look l8 t=some (.pt) from h0)
 simp only [l8,List.mem_cons,Prod.mk.injEq,List.not_mem_nil,or_false] at h
 rcases h with ⟨rfl,h⟩ | ⟨rfl,h⟩
 · exact (nomatch h)
 · exact (nomatch h)⟩
theorem aa3:DM Tryz.prog SA:=fun t e h0=>by
 have h:=n3 (show look l8 t=some (.st e) from h0)
 simp only [l8,List.mem_cons,Prod.mk.injEq,List.not_mem_nil,or_false] at h
 rcases h with ⟨rfl,h⟩ | ⟨rfl,h⟩
 · exact (nomatch h)
 · exact (nomatch h)
abbrev fI:List UInt8:= [45,62]
abbrev gC:List UInt8:= [61,61]
abbrev gA:List UInt8:= [33,61]
abbrev gE:List UInt8:= [60,61]
abbrev gD:List UInt8:= [62,61]
abbrev gz:List UInt8:= [38,38]
abbrev gB:List UInt8:= [124,124]
abbrev ir:List UInt8:= [123,125,40,41,91,93,59,44,46,58,61,60,62,43,45,42,47,37,33,36]
abbrev HQ:List UInt8:= [99,104,97,114,116,32,99,32,115,116,101,112,115,32,50,32,102,117,101,108,32,57,123,115,116,97,116,101,32,97,123,111,110,32,101,45,62,97,59,125,125]
abbrev C7:List UInt8:= [32,9,10,13]
abbrev OH:List UInt8:= [45,62,32,61,61,32,33,61,32,60,61,32,62,61,32,38,38,32,124,124]
abbrev ng:List UInt8:= [99,104,97,114,116]
abbrev C8:List UInt8:= [115,121,115,116,101,109]
abbrev CT:List UInt8:= [97,103,101]
abbrev nj:List UInt8:= [115,116,101,112,115]
abbrev nh:List UInt8:= [102,117,101,108]
abbrev iN:List UInt8:= [118,97,114]
abbrev ql:List UInt8:= [112,111,114,116]
abbrev qo:List UInt8:= [116,105,109,101,114]
abbrev fS:List UInt8:= [115,116,97,116,101]
abbrev gF:List UInt8:= [112,97,114,97,108,108,101,108]
abbrev fQ:List UInt8:= [104,105,115,116,111,114,121]
abbrev eY:List UInt8:= [100,101,101,112]
abbrev oA:List UInt8:= [101,110,116,114,121]
abbrev oC:List UInt8:= [101,120,105,116]
abbrev eT:List UInt8:= [111,110]
abbrev gW:List UInt8:= [97,117,116,111]
abbrev lU:List UInt8:= [114,97,105,115,101]
abbrev lW:List UInt8:= [115,101,110,100]
abbrev lT:List UInt8:= [97,114,109]
abbrev nc:List UInt8:= [99,97,110,99,101,108]
abbrev j7:List UInt8:= [105,102]
abbrev qg:List UInt8:= [101,108,115,101]
abbrev jJ:List UInt8:= [108,111,111,112]
abbrev kJ:List UInt8:= [105,110]
abbrev C3:List UInt8:= [105,110,115,116]
abbrev C6:List UInt8:= [113,117,97,110,116,117,109]
abbrev C0:List UInt8:= [101,120,116]
abbrev C5:List UInt8:= [112,114,105,111]
abbrev CX:List UInt8:= [99,104,97,110]
abbrev CU:List UInt8:= [99,97,112]
abbrev CW:List UInt8:= [99,101,114,116]
abbrev C4:List UInt8:= [105,110,115,116,115]
abbrev CY:List UInt8:= [99,104,97,110,115]
abbrev CV:List UInt8:= [99,101,108,108]
abbrev HR:List UInt8:= [111,102,102]
abbrev eS:List UInt8:= [123]
abbrev oB:List UInt8:= [61]
abbrev fR:List UInt8:= [45]
abbrev bw:List UInt8:= [59]
abbrev gG:List UInt8:= [125]
abbrev oz:List UInt8:= [33]
abbrev su:List UInt8:= [36]
abbrev cQ:List UInt8:= [40]
abbrev cD:List UInt8:= [41]
abbrev qi:List UInt8:= [60]
abbrev qh:List UInt8:= [62]
abbrev qk:List UInt8:= [43]
abbrev qn:List UInt8:= [42]
abbrev qm:List UInt8:= [47]
abbrev qj:List UInt8:= [37]
abbrev ni:List UInt8:= [91]
abbrev lV:List UInt8:= [93]
abbrev HP:List UInt8:= [99,104,97,114,116,32,99,32,115,116,101,112,115,32,50,32,102,117,101,108,32,57,32,123,32,115,116,97,116,101,32,97,32,123,32,111,110,32,101,32,45,62,32,59,32,125,32,125]
abbrev uP:List UInt8:= [99,104,97,114,116,32]
abbrev w9:List UInt8:= [32,115,116,101,112,115,32]
abbrev C2:List UInt8:= [32,102,117,101,108,32]
abbrev HU:List UInt8:= [32,123,10]
abbrev z_:List UInt8:= [32,32,118,97,114,32]
abbrev lY:List UInt8:= [32,61,32]
abbrev oE:List UInt8:= [59,10]
abbrev HS:List UInt8:= [32,32,112,111,114,116,32]
abbrev HW:List UInt8:= [32,32,116,105,109,101,114,32]
abbrev gh:List UInt8:= [32,32]
abbrev OG:List UInt8:= [115,116,97,116,101,32]
abbrev aaA:List UInt8:= [112,97,114,97,108,108,101,108,32]
abbrev aax:List UInt8:= [104,105,115,116,111,114,121,32]
abbrev aaw:List UInt8:= [100,101,101,112,32]
abbrev aaB:List UInt8:= [32,123,125,10]
abbrev CZ:List UInt8:= [101,110,116,114,121,32]
abbrev aaz:List UInt8:= [123,125]
abbrev aay:List UInt8:= [123,10]
abbrev uQ:List UInt8:= [105,110,40]
abbrev cH:List UInt8:= [32]
abbrev sy:List UInt8:= [114,97,105,115,101,32]
abbrev lX:List UInt8:= [115,101,110,100,32]
abbrev sr:List UInt8:= [97,114,109,32]
abbrev w6:List UInt8:= [99,97,110,99,101,108,32]
abbrev w7:List UInt8:= [105,102,32]
abbrev OC:List UInt8:= [32,101,108,115,101,32]
abbrev w8:List UInt8:= [108,111,111,112,32]
abbrev oD:List UInt8:= [10]
abbrev sx:List UInt8:= [101,120,105,116,32]
abbrev OD:List UInt8:= [111,110,32]
abbrev HV:List UInt8:= [32,91]
abbrev OF:List UInt8:= [32,45,62,32]
abbrev HT:List UInt8:= [125,10]
abbrev OB:List UInt8:= [99,104,97,114,116,32,99,32,115,116,101,112,115,32,50,32,102,117,101,108,32,57,32,123,10,32,32,115,116,97,116,101,32,97,32,123,10,32,32,32,32,111,110,32,101,32,45,62,32,97,59,10,32,32,125,10,125,10]
abbrev D8:List UInt8×List UInt8×List UInt8×List UInt8×List UInt8×List UInt8×List UInt8:=(fI,gC,gA,gE,gD,gz,gB)
abbrev Ru:List UInt8×List UInt8×List UInt8×List UInt8×List UInt8×List UInt8×List UInt8×List UInt8×List UInt8×List UInt8×List UInt8×List UInt8×List UInt8:=(gB,gz,qi,gE,qh,gD,gC,gA,qk,fR,qn,qm,qj)
abbrev Je:List UInt8×List UInt8×List UInt8×List UInt8×List UInt8×List UInt8×List UInt8×List UInt8×List UInt8×List UInt8×List UInt8×List UInt8×List UInt8×List UInt8×List UInt8×List UInt8×List UInt8×List UInt8×List UInt8×List UInt8×List UInt8×List UInt8×List UInt8×List UInt8×List UInt8×List UInt8×List UInt8×List UInt8×List UInt8×List UInt8×List UInt8×List UInt8×List UInt8×List UInt8×List UInt8:=(C8,CT,ng,nj,nh,iN,ql,qo,fS,gF,fQ,eY,oA,oC,eT,gW,lU,lW,lT,nc,j7,qg,jJ,kJ,C3,C6,C0,C5,CX,CU,CW,C4,CY,CV,HR)
end
end Go.Sy.Ex
namespace Go.Sy.Ex
open Go.Sy Go.Proofs
theorem Uc {w:World} {M:St} (h:js S w M):(∃ m,w.cell? ⟨1,0,none⟩=some (.int .i64 m)):=by
 obtain ⟨_,_,v0,c0,m,rfl⟩:=h.1 (((1,0),fun v=> ∃ m,v= .int .i64 m)) (by simp)
 exact ⟨m,c0⟩
theorem Ud {w:World} {M:St} (h:js S w M):(∃ e,w.cell? ⟨5,0,none⟩=some e∧(e= .nilIface∨ ∃ t p,e= .iface t p)):=by
 obtain ⟨_,_,v1,c1,p1⟩:=h.1 (((5,0),fun v=>v= .nilIface∨ ∃ t p,v= .iface t p)) (by simp)
 exact ⟨v1,c1,p1⟩
theorem Ue {w:World} {M:St} (h:js S w M):(∃ e,w.cell? ⟨4,0,none⟩=some e∧(e= .nilIface∨ ∃ t p,e= .iface t p)):=by
 obtain ⟨_,_,v1,c1,p1⟩:=h.1 (((4,0),fun v=>v= .nilIface∨ ∃ t p,v= .iface t p)) (by simp)
 exact ⟨v1,c1,p1⟩
theorem KY {w:World} {M:St} (h:js S w M):Lib.TabIs Tryz.prog w "internal/strconv.uint64pow10" .u64 Lib.pow10Tab:=by
 obtain ⟨_,_,ob,c3,t,f,rfl⟩:=h.2 ((0,fun ob=> ∃ t f,ob= .cells (Go.Lib.pow10Tab.map fun z=>Value.int .u64 z).toArray t f)) (by simp)
 unfold Lib.TabIs World.var?
 rw [show Tryz.prog.globalNamed "internal/strconv.uint64pow10" =some 0 from by kernel_rfl]
 show (match w.heap[0]? with | some (.cells cs _ _)=>some cs | _=>none)=_
 rw [c3]
theorem A3 {w w':World} {M:St} (h:RowKit.Below w.heap.size w w'):bq w w' M:=by
 obtain ⟨a,b,c,d,e⟩:=h
 exact ⟨a,b,c,d,fun k hk _=>e k hk,fun k o hk _=>cell_of_heap (e k hk),fun k o hk hs=>by rw [cell_of_heap (e k hk)]; exact hs,fun k o hk _=>Bk (e k hk)⟩
theorem O5 (l:List UInt8):(⟨l.toArray⟩:ByteArray).size=l.length:=by show l.toArray.size=_; simp
theorem Jm (w:World) (k:Nat) (os:Array Obj):RowKit.Below w.heap.size w (Go.Sort.grow (w.drewN k) os):=
 ⟨rfl,rfl,rfl,by simp [Go.Sort.grow,World.drewN],fun j hj=>by simp [Go.Sort.grow,World.drewN,Array.getElem?_append,hj]⟩
theorem Ih {w:World} {s M:St} (hM:iT M) (r:List UInt8):b_ Tryz.prog S w s M [.val (.data .str)] r [.string ⟨r.toArray⟩]:=
 ⟨_,_,_,_,xp M,rfl,⟨⟨hM,1,rfl⟩,rfl⟩,fun _ _ h=>h,rfl⟩
noncomputable def rF (s:List UInt8) (c:Int):Option Int:=some (Lib.indexByte s c.toNat.toUInt8)
theorem MR:av Tryz.prog S ⟨96,[.val (.data .str), .val (.data (.int .u8))],[.val (.data (.int .i64))],fun x=>rF x.1 x.2⟩:=by
 refine ⟨⟨Tryz.f96,Tryz.func96,by kernel_rfl,by kernel_rfl⟩,fun w s M (x:List UInt8×Int) args r hx hs hG hr=> ?_⟩
 obtain ⟨x,y⟩:=x
 obtain ⟨M1,M2,v,rr,_,rfl,⟨⟨_,n,h1⟩,h2⟩,M3,M4,v',uL,_,rfl,⟨⟨_,n',h3⟩,h4⟩,_,rfl⟩:=hx
 have hv:=nF (w:=w) (s:=s) ⟨h2,n,h1⟩
 have ec:=me (w:=w) (s:=s) ⟨h4,n',h3⟩
 subst hv ec
 cases hr
 refine (Tryz.strings_IndexByte _ _ w).mono ?_
 rintro e w' ⟨rfl,rfl⟩
 exact ⟨[.int .i64 _],fun _ _=>False,fun _ _=>False,rfl,bq.refl _ _,⟨_,_,_,_,Gy,rfl,⟨⟨fun _ _ h=>h,1,rfl⟩,rfl⟩,fun _ _ h=>h,rfl⟩,fun _ _ h=>h.elim,fun _ _ h=>h.elim⟩
noncomputable def vU (s sub:List UInt8):Option Bool:=if s.length<4294967281 then some (Lib.contains s sub) else none
theorem Xk:av Tryz.prog S ⟨130,[.val (.data .str), .val (.data .str)],[.val (.data .bool)],fun x=>vU x.1 x.2⟩:=by
 refine ⟨⟨Tryz.f130,Tryz.func130,by kernel_rfl,by kernel_rfl⟩,fun w s M (x:List UInt8×List UInt8) args r hx hs hG hr=> ?_⟩
 obtain ⟨x,y⟩:=x
 obtain ⟨M1,M2,v,rr,_,rfl,⟨⟨_,n,h1⟩,h2⟩,M3,M4,v',uL,_,rfl,⟨⟨_,n',h3⟩,h4⟩,_,rfl⟩:=hx
 have hv:=nF (w:=w) (s:=s) ⟨h2,n,h1⟩
 have ec:=nF (w:=w) (s:=s) ⟨h4,n',h3⟩
 subst hv ec
 obtain ⟨m,hm⟩:=Uc hG
 replace hr:vU x y=some r:=hr
 unfold vU at hr
 split at hr
 · rename_i hl
   cases hr
   refine (Tryz.strings_Contains ⟨x.toArray⟩ ⟨y.toArray⟩ m w (Nat.lt_of_le_of_lt (Nat.le_of_eq (O5 _)) hl) hm).mono ?_
   rintro e w' ⟨rfl,rfl⟩
   exact ⟨[.bool _],fun _ _=>False,fun _ _=>False,rfl,bq.refl _ _,⟨_,_,_,_,Gy,rfl,⟨⟨fun _ _ h=>h,1,rfl⟩,rfl⟩,fun _ _ h=>h,rfl⟩,fun _ _ h=>h.elim,fun _ _ h=>h.elim⟩
 · cases hr
noncomputable def rG (s:List UInt8) (b z:Int):Option (Int×Bool):=if s.length≤281474976710656∧b=10∧z=64 then some (match Lib.parseIntB 64 s with
 | .ok v=>(v,true)
 | .range=>(Lib.intSat 64 s,false)
 | _=>(0,false)) else none
theorem VV {w:World} {s M:St} (hM:iT M) (v:Int) (b:Bool) (e:Value) (he:xI b e):b_ Tryz.prog S w s M [.val (.data (.int .i64)), .err] (v,b) [.int .i64 v,e]:=
 ⟨_,_,_,_,xp M,rfl,⟨⟨hM,1,rfl⟩,rfl⟩,_,_,_,_,Gy,rfl,⟨fun _ _ h=>h,he⟩,fun _ _ h=>h,rfl⟩
theorem Xl:av Tryz.prog S ⟨129,[.val (.data .str), .val (.data (.int .i64)), .val (.data (.int .i64))],[.val (.data (.int .i64)), .err],fun x=>rG x.1 x.2.1 x.2.2⟩:=by
 refine ⟨⟨Tryz.f129,Tryz.func129,by kernel_rfl,by kernel_rfl⟩,fun w s M (x:List UInt8×Int×Int) args r hx hs hG hr=> ?_⟩
 obtain ⟨x,y,z⟩:=x
 obtain ⟨M1,M2,v,rr,_,rfl,⟨⟨_,n,h1⟩,h2⟩,M3,M4,v',uL,_,rfl,⟨⟨_,n',h3⟩,h4⟩,M5,M6,v'',acB,_,rfl,⟨⟨_,W2,h5⟩,h6⟩,_,rfl⟩:=hx
 have hv:=nF (w:=w) (s:=s) ⟨h2,n,h1⟩
 have ec:=me (w:=w) (s:=s) ⟨h4,n',h3⟩
 have VE:=me (w:=w) (s:=s) ⟨h6,W2,h5⟩
 subst hv ec VE
 obtain ⟨e1,c1,k1⟩:=Ud hG
 obtain ⟨e0,c0,k0⟩:=Ue hG
 replace hr:rG x y z=some r:=hr
 unfold rG at hr
 split at hr
 · rename_i hl
   obtain ⟨hl,rfl,rfl⟩:=hl
   have hsz:(⟨x.toArray⟩:ByteArray).size≤281474976710656:=Nat.le_trans (Nat.le_of_eq (O5 x)) hl
   have FE: ∀ (r0:Int×Bool) (e:Value) (w':World),xI r0.2 e→RowKit.Below w.heap.size w w'→ ∃ us s' M',Ending.returned (Value.tuple #[.int .i64 r0.1,e])= .returned (lS us)∧bq w w' M∧b_ Tryz.prog S w' s' M' [.val (.data (.int .i64)), .err] r0 (us++ [])∧
    (∀ b o,s' b o→b<w'.heap.size∧ ¬ M' b o∧(s b o∨M b o∨w.heap.size≤b))∧ ∀ b o,M' b o→M b o∨w.heap.size≤b:=fun r0 e w' he hb=>
    ⟨[.int .i64 r0.1,e],fun _ _=>False,fun _ _=>False,rfl,A3 hb,VV (fun _ _ h=>h) _ _ _ he,fun _ _ h=>h.elim,fun _ _ h=>h.elim⟩
   cases hp:Lib.parseIntB 64 x with
   | ok v=>
    rw [hp] at hr
    cases hr
    refine (Tryz.strconv_ParseInt_10_at64_ok ⟨x.toArray⟩ (by omega) v hp w).mono ?_
    rintro e w' ⟨rfl,hw⟩
    refine FE (v,true) .nilIface w' rfl ?_
    rcases hw with rfl | ⟨t,rfl⟩
    · exact RowKit.Below.refl _ _
    · exact ⟨rfl,rfl,rfl,by rw [Lib.bytesWorld_size]; omega,fun j hj=>Lib.bytesWorld_at_old w 5 t j hj⟩
   | range=>
    rw [hp] at hr
    cases hr
    refine (Tryz.strconv_ParseInt_10_at64_range ⟨x.toArray⟩ hsz hp e1 w c1 k1).mono ?_
    rintro e w' ⟨N,rfl,_,_,hb⟩
    exact FE (_,false) _ w' ⟨_,_,rfl⟩ hb
   | _=>
    rw [hp] at hr
    cases hr
    refine (Any.strconv_ParseInt_10_at64_syntax Tryz.Gj ⟨x.toArray⟩ hsz hp e0 w c0 k0).mono ?_
    rintro e w' ⟨N,rfl,_,_,hb⟩
    exact FE (0,false) _ w' ⟨_,_,rfl⟩ hb
 · cases hr
noncomputable def uk (n b:Int):Option (List UInt8):=if b=10∧ -9223372036854775808≤n∧n≤9223372036854775807 then some (Lib.itoa n) else none
theorem MQ:av Tryz.prog S ⟨40,[.val (.data (.int .i64)), .val (.data (.int .i64))],[.val (.data .str)],fun x=>uk x.1 x.2⟩:=by
 refine ⟨⟨Tryz.f40,Tryz.func40,by kernel_rfl,by kernel_rfl⟩,fun w s M (x:Int×Int) args r hx hs hG hr=> ?_⟩
 obtain ⟨x,y⟩:=x
 obtain ⟨M1,M2,v,rr,_,rfl,⟨⟨_,n,h1⟩,h2⟩,M3,M4,v',uL,_,rfl,⟨⟨_,n',h3⟩,h4⟩,_,rfl⟩:=hx
 have hv:=me (w:=w) (s:=s) ⟨h2,n,h1⟩
 have ec:=me (w:=w) (s:=s) ⟨h4,n',h3⟩
 subst hv ec
 have ht:=KY hG
 replace hr:uk x y=some r:=hr
 unfold uk at hr
 split at hr
 · rename_i hl
   obtain ⟨rfl,hl⟩:=hl
   cases hr
   refine (Tryz.strconv_FormatInt_10 x hl.1 hl.2 w ht).mono ?_
   rintro e w' ⟨rfl,k,os,rfl⟩
   exact ⟨[.string _],fun _ _=>False,fun _ _=>False,rfl,A3 (Jm w k os),Ih (fun _ _ h=>h) _,fun _ _ h=>h.elim,fun _ _ h=>h.elim⟩
 · cases hr
noncomputable def lC (n:Int):Option (List UInt8):=if -9223372036854775808≤n∧n≤9223372036854775807 then some (Lib.itoa n) else none
theorem MS:av Tryz.prog S ⟨39,[.val (.data (.int .i64))],[.val (.data .str)],fun x=>lC x⟩:=by
 refine ⟨⟨Tryz.f39,Tryz.func39,by kernel_rfl,by kernel_rfl⟩,fun w s M (x:Int) args r hx hs hG hr=> ?_⟩
 obtain ⟨M1,M2,v,rr,_,rfl,⟨⟨_,n,h1⟩,h2⟩,_,rfl⟩:=hx
 have hv:=me (w:=w) (s:=s) ⟨h2,n,h1⟩
 subst hv
 have ht:=KY hG
 replace hr:lC x=some r:=hr
 unfold lC at hr
 split at hr
 · rename_i hl
   cases hr
   refine (Tryz.strconv_Itoa x hl.1 hl.2 w ht).mono ?_
   rintro e w' ⟨rfl,k,os,rfl⟩
   exact ⟨[.string _],fun _ _=>False,fun _ _=>False,rfl,A3 (Jm w k os),Ih (fun _ _ h=>h) _,fun _ _ h=>h.elim,fun _ _ h=>h.elim⟩
 · cases hr
noncomputable def lD (s:List UInt8) (c:Int):Option (List UInt8):=if 0≤c∧c≤9223372036854775807∧s.length*c.toNat≤140737488355328 then some (Lib.repeatL s c.toNat) else none
theorem GI:av Tryz.prog S ⟨84,[.val (.data .str), .val (.data (.int .i64))],[.val (.data .str)],fun x=>lD x.1 x.2⟩:=by
 refine ⟨⟨Tryz.f84,Tryz.func84,by kernel_rfl,by kernel_rfl⟩,fun w s M (x:List UInt8×Int) args r hx hs hG hr=> ?_⟩
 obtain ⟨x,y⟩:=x
 obtain ⟨M1,M2,v,rr,_,rfl,⟨⟨_,n,h1⟩,h2⟩,M3,M4,v',uL,_,rfl,⟨⟨_,n',h3⟩,h4⟩,_,rfl⟩:=hx
 have hv:=nF (w:=w) (s:=s) ⟨h2,n,h1⟩
 have ec:=me (w:=w) (s:=s) ⟨h4,n',h3⟩
 subst hv ec
 replace hr:lD x y=some r:=hr
 unfold lD at hr
 split at hr
 · rename_i hl
   obtain ⟨h0,h1',pq⟩:=hl
   cases hr
   have hc:=Tryz.strings_Repeat ⟨x.toArray⟩ y.toNat w (by omega) pq
   rw [Int.toNat_of_nonneg h0] at hc
   refine hc.mono ?_
   rintro e w' ⟨rfl,hb⟩
   exact ⟨[.string _],fun _ _=>False,fun _ _=>False,rfl,A3 hb,Ih (fun _ _ h=>h) _,fun _ _ h=>h.elim,fun _ _ h=>h.elim⟩
 · cases hr
theorem vV:av Tryz.prog S ⟨38,[.bh, .val (.data .str)],[.val (.data (.int .i64)), .err],fun x=>bJ x.1 x.2⟩:=
 RO (ρ:=Tryz.Gh) Tryz.Wk Tryz.P4 rfl ⟨Tryz.f38,Tryz.func38,by kernel_rfl,by kernel_rfl⟩
theorem MT:av Tryz.prog S ⟨147,[.bh, .val (.data (.int .u8))],[.err],fun x=>gN x.1 x.2⟩:=
 RL (ρ:=Tryz.BJ) Tryz.Mj Tryz.IB rfl ⟨Tryz.f147,Tryz.func147,by kernel_rfl,by kernel_rfl⟩
theorem Xm:xL Tryz.prog S ⟨147,[.bh, .val (.data (.int .u8))],[.err],fun x=>gN x.1 x.2⟩:=
 RM (ρ:=Tryz.BJ) Tryz.Mj Tryz.IB rfl ⟨Tryz.f147,Tryz.func147,by kernel_rfl,by kernel_rfl⟩
noncomputable def xU (x:List UInt8):Option (List UInt8×List UInt8):=some (x,x)
theorem GJ:av Tryz.prog S ⟨42,[.bh],[.val (.data .str)],fun x=>xU x⟩:=
 RN (ρ:=Tryz.Gi) Tryz.Wl Tryz.P5 rfl ⟨Tryz.f42,Tryz.func42,by kernel_rfl,by kernel_rfl⟩
end Go.Sy.Ex
set_option maxRecDepth 100000
namespace Go.Sy.Ex
open Go.Sy Go.Proofs
noncomputable section
abbrev J_:Entry S:=⟨96,[q0,q2],[q1],fun x=>rF x.1 x.2⟩
abbrev Ti:Entry S:=⟨129,[q0,q1,q1],[q1,GZ],fun x=>rG x.1 x.2.1 x.2.2⟩
abbrev Tj:Entry S:=⟨130,[q0,q0],[q3],fun x=>vU x.1 x.2⟩
abbrev EM:Entry S:=⟨147,[gU,q2],[GZ],fun x=>gN x.1 x.2⟩
abbrev J9:Entry S:=⟨40,[q1,q1],[q0],fun x=>uk x.1 x.2⟩
abbrev vo:Entry S:=⟨38,[gU,q0],[q1,GZ],fun x=>bJ x.1 x.2⟩
abbrev EO:Entry S:=⟨42,[gU],[q0],fun x=>xU x⟩
abbrev J8:Entry S:=⟨39,[q1],[q0],fun x=>lC x⟩
abbrev EP:Entry S:=⟨84,[q0,q1],[q0],fun x=>lD x.1 x.2⟩
abbrev YV:=(List UInt8)→Int→Option Int
abbrev NG (f:YV):Entry S:=⟨24,[q0,q1],[q1],fun x=>f x.1 x.2⟩
mutual
def kF:Nat→(List UInt8)→Int→Option Int
 | 0,_,_=>none
 | k+1,s,i=>if i<(s.length:Int) then
  if 0≤i then
  if i<(s.length:Int) then
  if ((s.getD i.toNat 0).toNat:Int)=32 then
  kF k s (an (i+1)) else
  if 0≤i then
  if i<(s.length:Int) then
  if ((s.getD i.toNat 0).toNat:Int)=9 then
  kF k s (an (i+1)) else
  if 0≤i then
  if i<(s.length:Int) then
  if ((s.getD i.toNat 0).toNat:Int)=10 then
  kF k s (an (i+1)) else
  if 0≤i then
  if i<(s.length:Int) then
  if ((s.getD i.toNat 0).toNat:Int)=13 then
  kF k s (an (i+1)) else
  if 0≤i then
  if i<(s.length:Int) then
  if ((s.getD i.toNat 0).toNat:Int)=35 then
  rQ k s i else
  some i else none else none else none else none else none else none else none else none else none else none else
  some i
def rQ:Nat→(List UInt8)→Int→Option Int
 | 0,_,_=>none
 | k+1,s,i=>if i<(s.length:Int) then
  if 0≤i then
  if i<(s.length:Int) then
  if ((s.getD i.toNat 0).toNat:Int)≠10 then
  rQ k s (an (i+1)) else
  kF k s i else none else none else
  kF k s i
end
def NF (k:Nat) (s:List UInt8) (i:Int):Option Int:=kF k s i
def zL  (s:List UInt8) (i:Int):Option Int:=bu (fun k (x:List UInt8×Int)=>NF k x.1 x.2) (s,i)
theorem YU:av Tryz.prog S (NG (zL)):=dF (fun k x=>NF k x.1 x.2) (fun _=>rfl) fun k=>
 cu pk [] trivial Tryz.func24 [] k (fun k=> [(0,⟨[0,1],[q0,q1],fun x=>kF k x.1 x.2,false⟩),(2,⟨[0,1],[q0,q1],fun x=>rQ k x.1 x.2,false⟩)]) ⟨fun _=>rfl,fun _=>rfl,trivial⟩ (fun _=>by kernel_rfl) (fun _=>by kernel_rfl) (by kernel_rfl)
abbrev YP:=Int→Option Bool
abbrev NB (f:YP):Entry S:=⟨54,[q2],[q3],fun x=>f x⟩
def wz  (x:Int):Option Bool:=if 97≤x then
 if x≤122 then
 some true else
 if 65≤x then
 if x≤90 then
 some true else
 some (decide (x=95)) else
 some (decide (x=95)) else
 if 65≤x then
 if x≤90 then
 some true else
 some (decide (x=95)) else
 some (decide (x=95))
theorem YO:av Tryz.prog S (NB (wz)):=
 aZ pk [] trivial Tryz.func54 (by kernel_rfl) (fun _=>by kernel_rfl) (by kernel_rfl)
abbrev YN:=Int→Option Bool
abbrev NA (f:YN):Entry S:=⟨55,[q2],[q3],fun x=>f x⟩
def ux  (x:Int):Option Bool:=if 48≤x then some (decide (x≤57)) else some false
theorem YM:av Tryz.prog S (NA (ux)):=
 aZ pk [] trivial Tryz.func55 (by kernel_rfl) (fun _=>by kernel_rfl) (by kernel_rfl)
abbrev YT:=(List UInt8)→Int→Option Int
abbrev ND (f:YT):Entry S:=⟨57,[q0,q1],[q1],fun x=>f x.1 x.2⟩
def uz:Nat→(List UInt8)→Int→(List UInt8)→Int→Option Int
 | 0,_,_,_,_=>none
 | k+1,s,i,one,k_=>if k_<(one.length:Int) then
  if 0≤i then
  if i<(s.length:Int) then
  if 0≤k_ then
  if k_<(one.length:Int) then
  if ((s.getD i.toNat 0).toNat:Int)=((one.getD k_.toNat 0).toNat:Int) then
  some 1 else
  uz k s i one (an (k_+1)) else none else none else none else none else
  some 0
def wB:Nat→(List UInt8)→Int→(List UInt8×List UInt8×List UInt8×List UInt8×List UInt8×List UInt8×List UInt8)→Int→Option Int
 | 0,_,_,_,_=>none
 | k+1,s,i,two,k_=>if k_<7 then
  if (an (i+1))<(s.length:Int) then
  if 0≤(an (i+2)) then
  if (an (i+2))≤(s.length:Int) then
  if 0≤i then
  if i≤(an (i+2)) then
  if 0≤k_ then
  if k_<([two.1,two.2.1,two.2.2.1,two.2.2.2.1,two.2.2.2.2.1,two.2.2.2.2.2.1,two.2.2.2.2.2.2].length:Int) then
  if (cut s i (an (i+2)))=([two.1,two.2.1,two.2.2.1,two.2.2.2.1,two.2.2.2.2.1,two.2.2.2.2.2.1,two.2.2.2.2.2.2].getD k_.toNat []) then
  some 2 else
  wB k s i two (an (k_+1)) else none else none else none else none else none else none else
  wB k s i two (an (k_+1)) else
  uz k s i ir 0
def Cp (k:Nat) (s:List UInt8) (i:Int):Option Int:=wB k s i D8 0
def Co  (s:List UInt8) (i:Int):Option Int:=bu (fun k (x:List UInt8×Int)=>Cp k x.1 x.2) (s,i)
theorem YS:av Tryz.prog S (ND (Co)):=dF (fun k x=>Cp k x.1 x.2) (fun _=>rfl) fun k=>
 cu pk [] trivial Tryz.func57 [] k (fun k=> [(0,⟨[0,1,5,6],[q0,q1,q4,q1],fun x=>wB k x.1 x.2.1 x.2.2.1 x.2.2.2,false⟩),(2,⟨[0,1,7,8],[q0,q1,q0,q1],fun x=>uz k x.1 x.2.1 x.2.2.1 x.2.2.2,false⟩)]) ⟨fun _=>rfl,fun _=>rfl,trivial⟩ (fun _=>by kernel_rfl) (fun _=>by kernel_rfl) (by kernel_rfl)
abbrev YX:=(List UInt8)→Option (Int×Bool)
abbrev NI (f:YX):Entry S:=⟨56,[q0],[q1,q3],fun x=>f x⟩
def wC:Nat→(List UInt8)→Int→Int→Option (Int×Bool)
 | 0,_,_,_=>none
 | k+1,s,n,i=>if i<(s.length:Int) then
  if 0≤i then
  if i<(s.length:Int) then
  if ¬ (10:Int)=0 then
  if (an ((an (9223372036854775807 - (an (Dz (((s.getD i.toNat 0).toNat:Int) - 48))))).tdiv 10))<n then
  some (0,false) else
  wC k s (an ((an (10*n))+(an (Dz (((s.getD i.toNat 0).toNat:Int) - 48))))) (an (i+1)) else none else none else none else
  some (n,true)
def NH (k:Nat) (s:List UInt8):Option (Int×Bool):=wC k s 0 0
def om  (s:List UInt8):Option (Int×Bool):=bu (fun k (x:List UInt8)=>NH k x) s
theorem YW:av Tryz.prog S (NI (om)):=dF (fun k x=>NH k x) (fun _=>rfl) fun k=>
 cu pk [] trivial Tryz.func56 [] k (fun k=> [(0,⟨[0,4,5],[q0,q1,q1],fun x=>wC k x.1 x.2.1 x.2.2,false⟩)]) ⟨fun _=>rfl,trivial⟩ (fun _=>by kernel_rfl) (fun _=>by kernel_rfl) (by kernel_rfl)
abbrev YR:=(List UInt8)→Int→Option (ai×Int)
abbrev NC (f:YR):Entry S:=⟨25,[q0,q1],[q5,q1],fun x=>f x.1 x.2⟩
def uy:Nat→(List UInt8)→Int→Int→Int→Int→(List UInt8)→Int→Int→Int→Int→Int→(List UInt8)→Int→Option (ai×Int)
 | 0,_,_,_,_,_,_,_,_,_,_,_,_,_=>none
 | k+1,s,i,fA,fy,DA,DB,nu,j,Dn,dQ,Dm,Dp,xq=>if j<(s.length:Int) then
  if 0≤j then
  if j<(s.length:Int) then
  (wz ((s.getD j.toNat 0).toNat:Int)).bind fun r4=>
  bif r4 then
  uy k s i fA fy DA DB nu (an (j+1)) Dn dQ Dm Dp xq else
  if 0≤j then
  if j<(s.length:Int) then
  (ux ((s.getD j.toNat 0).toNat:Int)).bind fun r5=>
  bif r5 then
  uy k s i fA fy DA DB nu (an (j+1)) Dn dQ Dm Dp xq else
  if 24<(an (j - i)) then
  some (ai.mk 0 0 0 [] 0,13) else
  if 0≤j then
  if j≤(s.length:Int) then
  if 0≤i then
  if i≤j then
  some (ai.mk 1 dQ j (cut s i j) xq,0) else none else none else none else none else none else none else none else none else
  if 24<(an (j - i)) then
  some (ai.mk 0 0 0 [] 0,13) else
  if 0≤j then
  if j≤(s.length:Int) then
  if 0≤i then
  if i≤j then
  some (ai.mk 1 dQ j (cut s i j) xq,0) else none else none else none else none
def wA:Nat→(List UInt8)→Int→Int→Int→Int→(List UInt8)→Int→Int→Int→Int→Int→(List UInt8)→Int→Option (ai×Int)
 | 0,_,_,_,_,_,_,_,_,_,_,_,_,_=>none
 | k+1,s,i,fA,fy,DA,DB,nu,j,Dn,dQ,Dm,Dp,xq=>if j<(s.length:Int) then
  if 0≤j then
  if j<(s.length:Int) then
  (ux ((s.getD j.toNat 0).toNat:Int)).bind fun r6=>
  bif r6 then
  wA k s i fA fy DA DB nu (an (j+1)) Dn dQ Dm Dp xq else
  if 1<(an (j - i)) then
  if 0≤i then
  if i<(s.length:Int) then
  if ((s.getD i.toNat 0).toNat:Int)=48 then
  some (ai.mk 0 0 0 [] 0,11) else
  if 0≤j then
  if j≤(s.length:Int) then
  if 0≤i then
  if i≤j then
  (om (cut s i j)).bind fun r7=>
  bif !r7.2 then
  some (ai.mk 0 0 0 [] 0,16) else
  if 0≤j then
  if j≤(s.length:Int) then
  if 0≤i then
  if i≤j then
  some (ai.mk 2 dQ j (cut s i j) r7.1,0) else none else none else none else none else none else none else none else none else none else none else
  if 0≤j then
  if j≤(s.length:Int) then
  if 0≤i then
  if i≤j then
  (om (cut s i j)).bind fun r8=>
  bif !r8.2 then
  some (ai.mk 0 0 0 [] 0,16) else
  if 0≤j then
  if j≤(s.length:Int) then
  if 0≤i then
  if i≤j then
  some (ai.mk 2 dQ j (cut s i j) r8.1,0) else none else none else none else none else none else none else none else none else none else none else
  if 1<(an (j - i)) then
  if 0≤i then
  if i<(s.length:Int) then
  if ((s.getD i.toNat 0).toNat:Int)=48 then
  some (ai.mk 0 0 0 [] 0,11) else
  if 0≤j then
  if j≤(s.length:Int) then
  if 0≤i then
  if i≤j then
  (om (cut s i j)).bind fun r9=>
  bif !r9.2 then
  some (ai.mk 0 0 0 [] 0,16) else
  if 0≤j then
  if j≤(s.length:Int) then
  if 0≤i then
  if i≤j then
  some (ai.mk 2 dQ j (cut s i j) r9.1,0) else none else none else none else none else none else none else none else none else none else none else
  if 0≤j then
  if j≤(s.length:Int) then
  if 0≤i then
  if i≤j then
  (om (cut s i j)).bind fun aT=>
  bif !aT.2 then
  some (ai.mk 0 0 0 [] 0,16) else
  if 0≤j then
  if j≤(s.length:Int) then
  if 0≤i then
  if i≤j then
  some (ai.mk 2 dQ j (cut s i j) aT.1,0) else none else none else none else none else none else none else none else none
def Hp (k:Nat) (s:List UInt8) (i:Int):Option (ai×Int):=if 0≤i then
 if i<(s.length:Int) then
 (wz ((s.getD i.toNat 0).toNat:Int)).bind fun r1=>
 bif r1 then
 uy k s i 0 0 0 [] 0 i 0 i 0 [] 0 else
 if 0≤i then
 if i<(s.length:Int) then
 (ux ((s.getD i.toNat 0).toNat:Int)).bind fun r2=>
 bif r2 then
 wA k s i 0 0 0 [] 0 i 0 i 0 [] 0 else
 (Co s i).bind fun r3=>
 if r3=0 then
 some (ai.mk 0 0 0 [] 0,10) else
 if 0≤(an (i+r3)) then
 if (an (i+r3))≤(s.length:Int) then
 if 0≤i then
 if i≤(an (i+r3)) then
 some (ai.mk 3 i (an (i+r3)) (cut s i (an (i+r3))) 0,0) else none else none else none else none else none else none else none else none
def Cn  (s:List UInt8) (i:Int):Option (ai×Int):=bu (fun k (x:List UInt8×Int)=>Hp k x.1 x.2) (s,i)
theorem YQ:av Tryz.prog S (NC (Cn)):=dF (fun k x=>Hp k x.1 x.2) (fun _=>rfl) fun k=>
 cu pk [NB wz,NA ux,ND Co,NI om] ⟨YO,YM,YS,YW,trivial⟩ Tryz.func25 [] k (fun k=> [(0,⟨[0,1,4,6,7],[q0,q1,q6,q1,q6],fun x=>uy k x.1 x.2.1 x.2.2.1.1 x.2.2.1.2.1 x.2.2.1.2.2.1 x.2.2.1.2.2.2.1 x.2.2.1.2.2.2.2 x.2.2.2.1 x.2.2.2.2.1 x.2.2.2.2.2.1 x.2.2.2.2.2.2.1 x.2.2.2.2.2.2.2.1 x.2.2.2.2.2.2.2.2,false⟩),(2,⟨[0,1,4,6,7],[q0,q1,q6,q1,q6],fun x=>wA k x.1 x.2.1 x.2.2.1.1 x.2.2.1.2.1 x.2.2.1.2.2.1 x.2.2.1.2.2.2.1 x.2.2.1.2.2.2.2 x.2.2.2.1 x.2.2.2.2.1 x.2.2.2.2.2.1 x.2.2.2.2.2.2.1 x.2.2.2.2.2.2.2.1 x.2.2.2.2.2.2.2.2,false⟩)]) ⟨fun _=>rfl,fun _=>rfl,trivial⟩ (fun _=>by kernel_rfl) (fun _=>by kernel_rfl) (by kernel_rfl)
abbrev YF:=(List UInt8)→Option (List ai×aF)
abbrev Nx (f:YF):Entry S:=⟨12,[q0],[q7,q8],fun x=>f x⟩
def uw:Nat→(List UInt8)→Int→Int→(List ai)→Int→Option (List ai×aF)
 | 0,_,_,_,_,_=>none
 | k+1,s,Iw,Iv,out,i=>if i<(s.length:Int) then
  (Cn s i).bind fun r2=>
  if r2.2≠0 then
  some ([],aF.mk r2.2 i) else
  if (out.length+ [r2.1].length)*48≤140737488355328 then
  (zL s r2.1.End).bind fun r3=>
  uw k s Iw Iv (out++ [r2.1]) r3 else none else
  if (out.length+ [ai.mk 4 (s.length:Int) (s.length:Int) [] 0].length)*48≤140737488355328 then
  some (out++ [ai.mk 4 (s.length:Int) (s.length:Int) [] 0],aF.mk 0 0) else none
def Hj (k:Nat) (s:List UInt8):Option (List ai×aF):=if 16384<(s.length:Int) then
 some ([],aF.mk 13 16384) else
 (zL s 0).bind fun r1=>
 uw k s 0 0 [] r1
def Cj  (s:List UInt8):Option (List ai×aF):=bu (fun k (x:List UInt8)=>Hj k x) s
theorem YE:av Tryz.prog S (Nx (Cj)):=dF (fun k x=>Hj k x) (fun _=>rfl) fun k=>
 cu pk [NG zL,NC Cn] ⟨YU,YQ,trivial⟩ Tryz.func12 [] k (fun k=> [(0,⟨[0,3,4,5],[q0,q9,q7,q1],fun x=>uw k x.1 x.2.1.1 x.2.1.2 x.2.2.1 x.2.2.2,false⟩)]) ⟨fun _=>rfl,trivial⟩ (fun _=>by kernel_rfl) (fun _=>by kernel_rfl) (by kernel_rfl)
abbrev WG:=(List UInt8)→Int→Option Int
abbrev Mt (f:WG):Entry S:=⟨52,[q0,q1],[q1],fun x=>f x.1 x.2⟩
mutual
def nZ:Nat→(List UInt8)→Int→Option Int
 | 0,_,_=>none
 | k+1,text,ah=>if ah<(text.length:Int) then
  if 0≤ah then
  if ah<(text.length:Int) then
  (rF C7 ((text.getD ah.toNat 0).toNat:Int)).bind fun r1=>
  if 0≤r1 then
  nZ k text (an (ah+1)) else
  if 0≤ah then
  if ah<(text.length:Int) then
  if ((text.getD ah.toNat 0).toNat:Int)=35 then
  rB k text ah else
  some ah else none else none else none else none else
  some ah
def rB:Nat→(List UInt8)→Int→Option Int
 | 0,_,_=>none
 | k+1,text,ah=>if ah<(text.length:Int) then
  if 0≤ah then
  if ah<(text.length:Int) then
  if ((text.getD ah.toNat 0).toNat:Int)≠10 then
  rB k text (an (ah+1)) else
  nZ k text ah else none else none else
  nZ k text ah
end
def Ms (k:Nat) (text:List UInt8) (ah:Int):Option Int:=nZ k text ah
def zk  (text:List UInt8) (ah:Int):Option Int:=bu (fun k (x:List UInt8×Int)=>Ms k x.1 x.2) (text,ah)
theorem WE:av Tryz.prog S (Mt (zk)):=dF (fun k x=>Ms k x.1 x.2) (fun _=>rfl) fun k=>
 cu pk [J_] ⟨MR,trivial⟩ Tryz.func52 [] k (fun k=> [(0,⟨[0,1],[q0,q1],fun x=>nZ k x.1 x.2,false⟩),(2,⟨[0,1],[q0,q1],fun x=>rB k x.1 x.2,false⟩)]) ⟨fun _=>rfl,fun _=>rfl,trivial⟩ (fun _=>by kernel_rfl) (fun _=>by kernel_rfl) (by kernel_rfl)
abbrev Wz:=Int→Option (Bool×Bool)
abbrev Gr (f:Wz):Entry S:=⟨97,[q2],[q3,q3],fun x=>f x⟩
def rz  (c:Int):Option (Bool×Bool):=if 48≤c then
 if c≤57 then
 some (true,true) else
 if 97≤c then
 if c≤122 then
 if c≤122 then
 some (true,false) else
 some (false,false) else
 if 65≤c then
 if c≤90 then
 if c≤90 then
 some (true,false) else
 some (false,false) else
 if c=95 then
 some (true,false) else
 some (false,false) else
 if c=95 then
 some (true,false) else
 some (false,false) else
 if 65≤c then
 if c≤90 then
 if c≤90 then
 some (true,false) else
 some (false,false) else
 if c=95 then
 some (true,false) else
 some (false,false) else
 if c=95 then
 some (true,false) else
 some (false,false) else
 if 97≤c then
 if c≤122 then
 if c≤122 then
 some (true,false) else
 some (false,false) else
 if 65≤c then
 if c≤90 then
 if c≤90 then
 some (true,false) else
 some (false,false) else
 if c=95 then
 some (true,false) else
 some (false,false) else
 if c=95 then
 some (true,false) else
 some (false,false) else
 if 65≤c then
 if c≤90 then
 if c≤90 then
 some (true,false) else
 some (false,false) else
 if c=95 then
 some (true,false) else
 some (false,false) else
 if c=95 then
 some (true,false) else
 some (false,false)
theorem Mp:av Tryz.prog S (Gr (rz)):=
 aZ pk [] trivial Tryz.func97 (by kernel_rfl) (fun _=>by kernel_rfl) (by kernel_rfl)
abbrev Wy:=(List UInt8)→Int→Option Int
abbrev Mo (f:Wy):Entry S:=⟨98,[q0,q1],[q1],fun x=>f x.1 x.2⟩
def uh:Nat→(List UInt8)→Int→Bool→Option Int
 | 0,_,_,_=>none
 | k+1,text,ah,number=>if ah<(text.length:Int) then
  if 0≤ah then
  if ah<(text.length:Int) then
  (rz ((text.getD ah.toNat 0).toNat:Int)).bind fun r2=>
  bif !r2.1 then
  some ah else
  bif number then
  bif !r2.2 then
  some ah else
  uh k text (an (ah+1)) number else
  uh k text (an (ah+1)) number else none else none else
  some ah
def Gq (k:Nat) (text:List UInt8) (ah:Int):Option Int:=if 0≤ah then
 if ah<(text.length:Int) then
 (rz ((text.getD ah.toNat 0).toNat:Int)).bind fun r1=>
 uh k text ah r1.2 else none else none
def zh  (text:List UInt8) (ah:Int):Option Int:=bu (fun k (x:List UInt8×Int)=>Gq k x.1 x.2) (text,ah)
theorem Wx:av Tryz.prog S (Mo (zh)):=dF (fun k x=>Gq k x.1 x.2) (fun _=>rfl) fun k=>
 cu pk [Gr rz] ⟨Mp,trivial⟩ Tryz.func98 [] k (fun k=> [(0,⟨[0,1,6],[q0,q1,q3],fun x=>uh k x.1 x.2.1 x.2.2,false⟩)]) ⟨fun _=>rfl,trivial⟩ (fun _=>by kernel_rfl) (fun _=>by kernel_rfl) (by kernel_rfl)
abbrev WB:=(List UInt8)→Option (Int×Int)
abbrev Mq (f:WB):Entry S:=⟨99,[q0],[q1,q1],fun x=>f x⟩
def zi  (s:List UInt8):Option (Int×Int):=if 1<(s.length:Int) then
 if (0:Int)≤0 then
 if 0<(s.length:Int) then
 if ((s.getD (0:Int).toNat 0).toNat:Int)=48 then
 some (0,11) else
 (rG s 10 64).bind fun r1=>
 bif !r1.2 then
 some (0,16) else
 some (r1.1,0) else none else none else
 (rG s 10 64).bind fun r2=>
 bif !r2.2 then
 some (0,16) else
 some (r2.1,0)
theorem WA:av Tryz.prog S (Mq (zi)):=
 aZ pk [Ti] ⟨Xl,trivial⟩ Tryz.func99 (by kernel_rfl) (fun _=>by kernel_rfl) (by kernel_rfl)
abbrev WD:=(List UInt8)→Int→Option Int
abbrev Mr (f:WD):Entry S:=⟨100,[q0,q1],[q1],fun x=>f x.1 x.2⟩
def zj  (text:List UInt8) (ah:Int):Option Int:=if (an (ah+1))<(text.length:Int) then
 if 0≤(an (ah+1)) then
 if (an (ah+1))<(text.length:Int) then
 if ((text.getD (an (ah+1)).toNat 0).toNat:Int)≠32 then
 if 0≤(an (ah+2)) then
 if (an (ah+2))≤(text.length:Int) then
 if 0≤ah then
 if ah≤(an (ah+2)) then
 (vU OH (cut text ah (an (ah+2)))).bind fun r1=>
 bif r1 then
 some (an (ah+2)) else
 if 0≤ah then
 if ah<(text.length:Int) then
 (rF ir ((text.getD ah.toNat 0).toNat:Int)).bind fun r2=>
 if 0≤r2 then
 some (an (ah+1)) else
 some ah else none else none else none else none else none else none else
 if 0≤ah then
 if ah<(text.length:Int) then
 (rF ir ((text.getD ah.toNat 0).toNat:Int)).bind fun r3=>
 if 0≤r3 then
 some (an (ah+1)) else
 some ah else none else none else none else none else
 if 0≤ah then
 if ah<(text.length:Int) then
 (rF ir ((text.getD ah.toNat 0).toNat:Int)).bind fun r4=>
 if 0≤r4 then
 some (an (ah+1)) else
 some ah else none else none
theorem WC:av Tryz.prog S (Mr (zj)):=
 aZ pk [Tj,J_] ⟨Xk,MR,trivial⟩ Tryz.func100 (by kernel_rfl) (fun _=>by kernel_rfl) (by kernel_rfl)
abbrev WI:=(List UInt8)→Int→Option (ai×Int)
abbrev Mu (f:WI):Entry S:=⟨53,[q0,q1],[q5,q1],fun x=>f x.1 x.2⟩
def zl  (text:List UInt8) (ah:Int):Option (ai×Int):=if 0≤ah then
 if ah<(text.length:Int) then
 (rz ((text.getD ah.toNat 0).toNat:Int)).bind fun r1=>
 bif r1.2 then
 (zh text ah).bind fun r2=>
 if 0≤r2 then
 if r2≤(text.length:Int) then
 if 0≤ah then
 if ah≤r2 then
 (zi (cut text ah r2)).bind fun r3=>
 if r3.2≠0 then
 some (ai.mk 0 0 0 [] 0,r3.2) else
 if 0≤r2 then
 if r2≤(text.length:Int) then
 if 0≤ah then
 if ah≤r2 then
 some (ai.mk 2 ah r2 (cut text ah r2) r3.1,0) else none else none else none else none else none else none else none else none else
 bif r1.1 then
 (zh text ah).bind fun r4=>
 if 24<(an (r4 - ah)) then
 some (ai.mk 0 0 0 [] 0,13) else
 if 0≤r4 then
 if r4≤(text.length:Int) then
 if 0≤ah then
 if ah≤r4 then
 some (ai.mk 1 ah r4 (cut text ah r4) 0,0) else none else none else none else none else
 (zj text ah).bind fun r5=>
 if r5=ah then
 some (ai.mk 0 0 0 [] 0,10) else
 if 0≤r5 then
 if r5≤(text.length:Int) then
 if 0≤ah then
 if ah≤r5 then
 some (ai.mk 3 ah r5 (cut text ah r5) 0,0) else none else none else none else none else none else none
theorem WH:av Tryz.prog S (Mu (zl)):=
 aZ pk [Gr rz,Mo zh,Mq zi,Mr zj] ⟨Mp,Wx,WA,WC,trivial⟩ Tryz.func53 (by kernel_rfl) (fun _=>by kernel_rfl) (by kernel_rfl)
abbrev Wv:=(List UInt8)→Option (List ai×aF)
abbrev Mn (f:Wv):Entry S:=⟨22,[q0],[q7,q8],fun x=>f x⟩
def ug:Nat→(List UInt8)→Int→Int→(List ai)→Int→Option (List ai×aF)
 | 0,_,_,_,_,_=>none
 | k+1,text,Iw,Iv,l,ah=>if ah<(text.length:Int) then
  (zl text ah).bind fun r2=>
  if r2.2≠0 then
  some ([],aF.mk r2.2 ah) else
  if (l.length+ [r2.1].length)*48≤140737488355328 then
  (zk text r2.1.End).bind fun r3=>
  ug k text Iw Iv (l++ [r2.1]) r3 else none else
  if (l.length+ [ai.mk 4 ah ah [] 0].length)*48≤140737488355328 then
  some (l++ [ai.mk 4 ah ah [] 0],aF.mk 0 0) else none
def Gn (k:Nat) (text:List UInt8):Option (List ai×aF):=if 16384<(text.length:Int) then
 some ([],aF.mk 13 16384) else
 (zk text 0).bind fun r1=>
 ug k text 0 0 [] r1
def BN  (text:List UInt8):Option (List ai×aF):=bu (fun k (x:List UInt8)=>Gn k x) text
theorem Wu:av Tryz.prog S (Mn (BN)):=dF (fun k x=>Gn k x) (fun _=>rfl) fun k=>
 cu pk [Mt zk,Mu zl] ⟨WE,WH,trivial⟩ Tryz.func22 [] k (fun k=> [(0,⟨[0,3,4,5],[q0,q9,q7,q1],fun x=>ug k x.1 x.2.1.1 x.2.1.2 x.2.2.1 x.2.2.2,false⟩)]) ⟨fun _=>rfl,trivial⟩ (fun _=>by kernel_rfl) (fun _=>by kernel_rfl) (by kernel_rfl)
abbrev Yp:=aA→Option (Bool×aA)
abbrev zD (f:Yp):Entry S:=⟨27,[gT],[q3],fun x=>f x⟩
def lK  (r_:aA):Option (Bool×aA):=some (decide (r_.Row.aE.Code=0),r_)
theorem Cd:av Tryz.prog S (zD (lK)):=
 aZ pk [] trivial Tryz.func27 (by kernel_rfl) (fun _=>by kernel_rfl) (by kernel_rfl)
abbrev Yd:=aA→Option (ai×aA)
abbrev pU (f:Yd):Entry S:=⟨58,[gT],[q5],fun x=>f x⟩
def fF  (r_:aA):Option (ai×aA):=(lK r_).bind fun r1=>
 bif !r1.1 then
 some (ai.mk 4 0 0 [] 0,r1.2) else
 if r1.2.Row.At<0 then
 some (ai.mk 4 0 0 [] 0,r1.2) else
 if (r1.2.Row.L.length:Int)≤r1.2.Row.At then
 some (ai.mk 4 0 0 [] 0,r1.2) else
 if 0≤r1.2.Row.At then
 if r1.2.Row.At<(r1.2.Row.L.length:Int) then
 some (r1.2.Row.L.getD r1.2.Row.At.toNat ai.z,r1.2) else none else none
theorem rL:av Tryz.prog S (pU (fF)):=
 aZ pk [zD lK] ⟨Cd,trivial⟩ Tryz.func58 (by kernel_rfl) (fun _=>by kernel_rfl) (by kernel_rfl)
abbrev Ya:=aA→(List UInt8)→Option (Bool×aA)
abbrev zA (f:Ya):Entry S:=⟨103,[gT,q0],[q3],fun x=>f x.1 x.2⟩
def fm  (r_:aA) (s:List UInt8):Option (Bool×aA):=(fF r_).bind fun r1=>
 if r1.1.Kind=3 then
 some (decide (r1.1.Text=s),r1.2) else
 if r1.1.Kind=1 then
 some (decide (r1.1.Text=s),r1.2) else
 some (false,r1.2)
theorem B_:av Tryz.prog S (zA (fm)):=
 aZ pk [pU fF] ⟨rL,trivial⟩ Tryz.func103 (by kernel_rfl) (fun _=>by kernel_rfl) (by kernel_rfl)
abbrev Ys:=aA→(List UInt8)→Option (Bool×aA)
abbrev wo (f:Ys):Entry S:=⟨62,[gT,q0],[q3],fun x=>f x.1 x.2⟩
def c_  (r_:aA) (s:List UInt8):Option (Bool×aA):=(fm r_ s).bind fun r1=>
 bif r1.1 then
 some (r1.1,aA.mk (aV.mk r1.2.Row.L (an (r1.2.Row.At+1)) r1.2.Row.aE)) else
 some (r1.1,r1.2)
theorem zF:av Tryz.prog S (wo (c_)):=
 aZ pk [zA fm] ⟨B_,trivial⟩ Tryz.func62 (by kernel_rfl) (fun _=>by kernel_rfl) (by kernel_rfl)
abbrev X4:=aA→Int→Int→Option aA
abbrev B7 (f:X4):Entry S:=⟨105,[gT,q1,q1],[],fun x=>f x.1 x.2.1 x.2.2⟩
def jE  (r_:aA) (code:Int) (ah:Int):Option aA:=(lK r_).bind fun r1=>
 bif r1.1 then
 some (aA.mk (aV.mk r1.2.Row.L r1.2.Row.At (aF.mk code ah))) else
 some r1.2
theorem G7:av Tryz.prog S (B7 (jE)):=
 aZ pk [zD lK] ⟨Cd,trivial⟩ Tryz.func105 (by kernel_rfl) (fun _=>by kernel_rfl) (by kernel_rfl)
abbrev Yz:=aA→Option aA
abbrev Ch (f:Yz):Entry S:=⟨101,[gT],[],fun x=>f x⟩
def mZ  (r_:aA):Option aA:=(fF r_).bind fun r1=>
 if r1.1.Kind=4 then
 (jE r1.2 12 r1.1.At).bind fun r2=>
 some r2 else
 (jE r1.2 11 r1.1.At).bind fun r3=>
 some r3
theorem Hi:av Tryz.prog S (Ch (mZ)):=
 aZ pk [pU fF,B7 jE] ⟨rL,G7,trivial⟩ Tryz.func101 (by kernel_rfl) (fun _=>by kernel_rfl) (by kernel_rfl)
abbrev Yw:=aA→(List UInt8)→Option aA
abbrev wq (f:Yw):Entry S:=⟨59,[gT,q0],[],fun x=>f x.1 x.2⟩
def cj  (r_:aA) (s:List UInt8):Option aA:=(c_ r_ s).bind fun r1=>
 bif !r1.1 then
 (mZ r1.2).bind fun r2=>
 some r2 else
 some r1.2
theorem zH:av Tryz.prog S (wq (cj)):=
 aZ pk [wo c_,Ch mZ] ⟨zF,Hi,trivial⟩ Tryz.func59 (by kernel_rfl) (fun _=>by kernel_rfl) (by kernel_rfl)
abbrev Ww:=(List UInt8)→Option Bool
abbrev BO (f:Ww):Entry S:=⟨131,[q0],[q3],fun x=>f x⟩
def pN  (s:List UInt8):Option Bool:=if s=C8 then
 if s=C8 then
 some true else
 some false else
 if s=CT then
 if s=CT then
 some true else
 some false else
 if s=ng then
 if s=ng then
 some true else
 some false else
 if s=nj then
 if s=nj then
 some true else
 some false else
 if s=nh then
 if s=nh then
 some true else
 some false else
 if s=iN then
 if s=iN then
 some true else
 some false else
 if s=ql then
 if s=ql then
 some true else
 some false else
 if s=qo then
 if s=qo then
 some true else
 some false else
 if s=fS then
 if s=fS then
 some true else
 some false else
 if s=gF then
 if s=gF then
 some true else
 some false else
 if s=fQ then
 if s=fQ then
 some true else
 some false else
 if s=eY then
 if s=eY then
 some true else
 some false else
 if s=oA then
 if s=oA then
 some true else
 some false else
 if s=oC then
 if s=oC then
 some true else
 some false else
 if s=eT then
 if s=eT then
 some true else
 some false else
 if s=gW then
 if s=gW then
 some true else
 some false else
 if s=lU then
 if s=lU then
 some true else
 some false else
 if s=lW then
 if s=lW then
 some true else
 some false else
 if s=lT then
 if s=lT then
 some true else
 some false else
 if s=nc then
 if s=nc then
 some true else
 some false else
 if s=j7 then
 if s=j7 then
 some true else
 some false else
 if s=qg then
 if s=qg then
 some true else
 some false else
 if s=jJ then
 if s=jJ then
 some true else
 some false else
 if s=kJ then
 if s=kJ then
 some true else
 some false else
 if s=C3 then
 if s=C3 then
 some true else
 some false else
 if s=C6 then
 if s=C6 then
 some true else
 some false else
 if s=C0 then
 if s=C0 then
 some true else
 some false else
 if s=C5 then
 if s=C5 then
 some true else
 some false else
 if s=CX then
 if s=CX then
 some true else
 some false else
 if s=CU then
 if s=CU then
 some true else
 some false else
 if s=CW then
 if s=CW then
 some true else
 some false else
 if s=C4 then
 if s=C4 then
 some true else
 some false else
 if s=CY then
 if s=CY then
 some true else
 some false else
 if s=CV then
 if s=CV then
 some true else
 some false else
 if s=HR then
 some true else
 some false
theorem Gp:av Tryz.prog S (BO (pN)):=
 aZ pk [] trivial Tryz.func131 (by kernel_rfl) (fun _=>by kernel_rfl) (by kernel_rfl)
abbrev X8:=aA→Option (Bool×aA)
abbrev No (f:X8):Entry S:=⟨102,[gT],[q3],fun x=>f x⟩
def ur  (r_:aA):Option (Bool×aA):=(fF r_).bind fun r1=>
 if r1.1.Kind=1 then
 (pN r1.1.Text).bind fun r2=>
 some (!r2,r1.2) else
 some (false,r1.2)
theorem X7:av Tryz.prog S (No (ur)):=
 aZ pk [pU fF,BO pN] ⟨rL,Gp,trivial⟩ Tryz.func102 (by kernel_rfl) (fun _=>by kernel_rfl) (by kernel_rfl)
abbrev Yh:=aA→Option (List UInt8×aA)
abbrev zC (f:Yh):Entry S:=⟨60,[gT],[q0],fun x=>f x⟩
def eN  (r_:aA):Option (List UInt8×aA):=(ur r_).bind fun r1=>
 bif !r1.1 then
 (mZ r1.2).bind fun r2=>
 some ([],r2) else
 if 0≤(an ((an (r1.2.Row.At+1)) - 1)) then
 if (an ((an (r1.2.Row.At+1)) - 1))<(r1.2.Row.L.length:Int) then
 some ((r1.2.Row.L.getD (an ((an (r1.2.Row.At+1)) - 1)).toNat ai.z).Text,aA.mk (aV.mk r1.2.Row.L (an (r1.2.Row.At+1)) r1.2.Row.aE)) else none else none
theorem Cb:av Tryz.prog S (zC (eN)):=
 aZ pk [No ur,Ch mZ] ⟨X7,Hi,trivial⟩ Tryz.func60 (by kernel_rfl) (fun _=>by kernel_rfl) (by kernel_rfl)
abbrev Yl:=aA→Option (Int×aA)
abbrev Ns (f:Yl):Entry S:=⟨61,[gT],[q1],fun x=>f x⟩
def jF  (r_:aA):Option (Int×aA):=(fF r_).bind fun r1=>
 if r1.1.Kind≠2 then
 (mZ r1.2).bind fun r2=>
 some (0,r2) else
 some (r1.1.N,aA.mk (aV.mk r1.2.Row.L (an (r1.2.Row.At+1)) r1.2.Row.aE))
theorem Yk:av Tryz.prog S (Ns (jF)):=
 aZ pk [pU fF,Ch mZ] ⟨rL,Hi,trivial⟩ Tryz.func61 (by kernel_rfl) (fun _=>by kernel_rfl) (by kernel_rfl)
abbrev SE:=aA→Option (aJ×aA)
abbrev Es (f:SE):Entry S:=⟨63,[gT],[GU],fun x=>f x⟩
def tu  (r_:aA):Option (aJ×aA):=(fF r_).bind fun r1=>
 (eN r1.2).bind fun r2=>
 some (aJ.mk r2.1 0 r1.1.At,r2.2)
theorem JJ:av Tryz.prog S (Es (tu)):=
 aZ pk [pU fF,zC eN] ⟨rL,Cb,trivial⟩ Tryz.func63 (by kernel_rfl) (fun _=>by kernel_rfl) (by kernel_rfl)
abbrev SH:=aA→(List UInt8)→Option (List aJ×aA)
abbrev JK (f:SH):Entry S:=⟨64,[gT,q0],[BZ],fun x=>f x.1 x.2⟩
def o5:Nat→(List ai)→Int→Int→Int→(List UInt8)→(List aJ)→Option (List aJ×aA)
 | 0,_,_,_,_,_,_=>none
 | k+1,eM,eJ,eL,eK,word,l=>(c_ (aA.mk (aV.mk eM eJ (aF.mk eL eK))) word).bind fun r1=>
  bif r1.1 then
  (tu r1.2).bind fun r2=>
  if (l.length+ [r2.1].length)*32≤140737488355328 then
  (cj r2.2 bw).bind fun r3=>
  o5 k r3.Row.L r3.Row.At r3.Row.aE.Code r3.Row.aE.At word (l++ [r2.1]) else none else
  some (l,r1.2)
def Et (k:Nat) (r_:aA) (word:List UInt8):Option (List aJ×aA):=o5 k r_.Row.L r_.Row.At r_.Row.aE.Code r_.Row.aE.At word []
def oZ  (r_:aA) (word:List UInt8):Option (List aJ×aA):=bu (fun k (x:aA×List UInt8)=>Et k x.1 x.2) (r_,word)
theorem SF:av Tryz.prog S (JK (oZ)):=dF (fun k x=>Et k x.1 x.2) (fun _=>rfl) fun k=>
 cu pk [wo c_,Es tu,wq cj] ⟨zF,JJ,zH,trivial⟩ Tryz.func64 [] k (fun k=> [(0,⟨[0,1,5],[fh,q0,BZ],fun x=>o5 k x.1.1 x.1.2.1 x.1.2.2.1 x.1.2.2.2 x.2.1 x.2.2,false⟩)]) ⟨fun _=>rfl,trivial⟩ (fun _=>by kernel_rfl) (fun _=>by kernel_rfl) (by kernel_rfl)
abbrev Sv:=aA→Option (Int×aA)
abbrev JE (f:Sv):Entry S:=⟨104,[gT],[q1],fun x=>f x⟩
def hY  (r_:aA):Option (Int×aA):=(fm r_ fS).bind fun r1=>
 bif r1.1 then
 some (1,r1.2) else
 (fm r1.2 gF).bind fun r2=>
 bif r2.1 then
 some (2,r2.2) else
 (fm r2.2 fQ).bind fun r3=>
 bif r3.1 then
 some (3,r3.2) else
 (fm r3.2 eY).bind fun r4=>
 bif r4.1 then
 some (4,r4.2) else
 some (0,r4.2)
theorem Su:av Tryz.prog S (JE (hY)):=
 aZ pk [zA fm] ⟨B_,trivial⟩ Tryz.func104 (by kernel_rfl) (fun _=>by kernel_rfl) (by kernel_rfl)
abbrev Yq:=aH→Option (Bool×aH)
abbrev wk (f:Yq):Entry S:=⟨27,[ji],[q3],fun x=>f x⟩
def jZ  (r_:aH):Option (Bool×aH):=some (decide (r_.Row.aE.Code=0),r_)
theorem zE:av Tryz.prog S (wk (jZ)):=
 aZ pk [] trivial Tryz.func27 (by kernel_rfl) (fun _=>by kernel_rfl) (by kernel_rfl)
abbrev Ye:=aH→Option (ai×aH)
abbrev uv (f:Ye):Entry S:=⟨58,[ji],[q5],fun x=>f x⟩
def iJ  (r_:aH):Option (ai×aH):=(jZ r_).bind fun r1=>
 bif !r1.1 then
 some (ai.mk 4 0 0 [] 0,r1.2) else
 if r1.2.Row.At<0 then
 some (ai.mk 4 0 0 [] 0,r1.2) else
 if (r1.2.Row.L.length:Int)≤r1.2.Row.At then
 some (ai.mk 4 0 0 [] 0,r1.2) else
 if 0≤r1.2.Row.At then
 if r1.2.Row.At<(r1.2.Row.L.length:Int) then
 some (r1.2.Row.L.getD r1.2.Row.At.toNat ai.z,r1.2) else none else none
theorem wj:av Tryz.prog S (uv (iJ)):=
 aZ pk [wk jZ] ⟨zE,trivial⟩ Tryz.func58 (by kernel_rfl) (fun _=>by kernel_rfl) (by kernel_rfl)
abbrev Yb:=aH→(List UInt8)→Option (Bool×aH)
abbrev zB (f:Yb):Entry S:=⟨103,[ji,q0],[q3],fun x=>f x.1 x.2⟩
def jY  (r_:aH) (s:List UInt8):Option (Bool×aH):=(iJ r_).bind fun r1=>
 if r1.1.Kind=3 then
 some (decide (r1.1.Text=s),r1.2) else
 if r1.1.Kind=1 then
 some (decide (r1.1.Text=s),r1.2) else
 some (false,r1.2)
theorem Ca:av Tryz.prog S (zB (jY)):=
 aZ pk [uv iJ] ⟨wj,trivial⟩ Tryz.func103 (by kernel_rfl) (fun _=>by kernel_rfl) (by kernel_rfl)
abbrev X5:=aH→Int→Int→Option aH
abbrev B8 (f:X5):Entry S:=⟨105,[ji,q1,q1],[],fun x=>f x.1 x.2.1 x.2.2⟩
def gV  (r_:aH) (code:Int) (ah:Int):Option aH:=(jZ r_).bind fun r1=>
 bif r1.1 then
 some (aH.mk (aV.mk r1.2.Row.L r1.2.Row.At (aF.mk code ah)) r1.2.bl) else
 some r1.2
theorem G8:av Tryz.prog S (B8 (gV)):=
 aZ pk [wk jZ] ⟨zE,trivial⟩ Tryz.func105 (by kernel_rfl) (fun _=>by kernel_rfl) (by kernel_rfl)
abbrev Yt:=aH→(List UInt8)→Option (Bool×aH)
abbrev zG (f:Yt):Entry S:=⟨62,[ji,q0],[q3],fun x=>f x.1 x.2⟩
def ij  (r_:aH) (s:List UInt8):Option (Bool×aH):=(jY r_ s).bind fun r1=>
 bif r1.1 then
 some (r1.1,aH.mk (aV.mk r1.2.Row.L (an (r1.2.Row.At+1)) r1.2.Row.aE) r1.2.bl) else
 some (r1.1,r1.2)
theorem Ce:av Tryz.prog S (zG (ij)):=
 aZ pk [zB jY] ⟨Ca,trivial⟩ Tryz.func62 (by kernel_rfl) (fun _=>by kernel_rfl) (by kernel_rfl)
abbrev YA:=aH→Option aH
abbrev zJ (f:YA):Entry S:=⟨101,[ji],[],fun x=>f x⟩
def iL  (r_:aH):Option aH:=(iJ r_).bind fun r1=>
 if r1.1.Kind=4 then
 (gV r1.2 12 r1.1.At).bind fun r2=>
 some r2 else
 (gV r1.2 11 r1.1.At).bind fun r3=>
 some r3
theorem Ci:av Tryz.prog S (zJ (iL)):=
 aZ pk [uv iJ,B8 gV] ⟨wj,G8,trivial⟩ Tryz.func101 (by kernel_rfl) (fun _=>by kernel_rfl) (by kernel_rfl)
abbrev Yx:=aH→(List UInt8)→Option aH
abbrev zI (f:Yx):Entry S:=⟨59,[ji,q0],[],fun x=>f x.1 x.2⟩
def dx  (r_:aH) (s:List UInt8):Option aH:=(ij r_ s).bind fun r1=>
 bif !r1.1 then
 (iL r1.2).bind fun r2=>
 some r2 else
 some r1.2
theorem Cf:av Tryz.prog S (zI (dx)):=
 aZ pk [zG ij,zJ iL] ⟨Ce,Ci,trivial⟩ Tryz.func59 (by kernel_rfl) (fun _=>by kernel_rfl) (by kernel_rfl)
abbrev X9:=aH→Option (Bool×aH)
abbrev G_ (f:X9):Entry S:=⟨102,[ji],[q3],fun x=>f x⟩
def pS  (r_:aH):Option (Bool×aH):=(iJ r_).bind fun r1=>
 if r1.1.Kind=1 then
 (pN r1.1.Text).bind fun r2=>
 some (!r2,r1.2) else
 some (false,r1.2)
theorem Np:av Tryz.prog S (G_ (pS)):=
 aZ pk [uv iJ,BO pN] ⟨wj,Gp,trivial⟩ Tryz.func102 (by kernel_rfl) (fun _=>by kernel_rfl) (by kernel_rfl)
abbrev Yj:=aH→Option (List UInt8×aH)
abbrev Nr (f:Yj):Entry S:=⟨60,[ji],[q0],fun x=>f x⟩
def gw  (r_:aH):Option (List UInt8×aH):=(pS r_).bind fun r1=>
 bif !r1.1 then
 (iL r1.2).bind fun r2=>
 some ([],r2) else
 if 0≤(an ((an (r1.2.Row.At+1)) - 1)) then
 if (an ((an (r1.2.Row.At+1)) - 1))<(r1.2.Row.L.length:Int) then
 some ((r1.2.Row.L.getD (an ((an (r1.2.Row.At+1)) - 1)).toNat ai.z).Text,aH.mk (aV.mk r1.2.Row.L (an (r1.2.Row.At+1)) r1.2.Row.aE) r1.2.bl) else none else none
theorem Yi:av Tryz.prog S (Nr (gw)):=
 aZ pk [G_ pS,zJ iL] ⟨Np,Ci,trivial⟩ Tryz.func60 (by kernel_rfl) (fun _=>by kernel_rfl) (by kernel_rfl)
abbrev Yo:=aP→Option (Bool×aP)
abbrev Cc (f:Yo):Entry S:=⟨27,[kz],[q3],fun x=>f x⟩
def og  (r_:aP):Option (Bool×aP):=some (decide (r_.Row.aE.Code=0),r_)
theorem Hf:av Tryz.prog S (Cc (og)):=
 aZ pk [] trivial Tryz.func27 (by kernel_rfl) (fun _=>by kernel_rfl) (by kernel_rfl)
abbrev Yc:=aP→Option (ai×aP)
abbrev uu (f:Yc):Entry S:=⟨58,[kz],[q5],fun x=>f x⟩
def iK  (r_:aP):Option (ai×aP):=(og r_).bind fun r1=>
 bif !r1.1 then
 some (ai.mk 4 0 0 [] 0,r1.2) else
 if r1.2.Row.At<0 then
 some (ai.mk 4 0 0 [] 0,r1.2) else
 if (r1.2.Row.L.length:Int)≤r1.2.Row.At then
 some (ai.mk 4 0 0 [] 0,r1.2) else
 if 0≤r1.2.Row.At then
 if r1.2.Row.At<(r1.2.Row.L.length:Int) then
 some (r1.2.Row.L.getD r1.2.Row.At.toNat ai.z,r1.2) else none else none
theorem wh:av Tryz.prog S (uu (iK)):=
 aZ pk [Cc og] ⟨Hf,trivial⟩ Tryz.func58 (by kernel_rfl) (fun _=>by kernel_rfl) (by kernel_rfl)
abbrev X_:=aP→(List UInt8)→Option (Bool×aP)
abbrev B9 (f:X_):Entry S:=⟨103,[kz,q0],[q3],fun x=>f x.1 x.2⟩
def lJ  (r_:aP) (s:List UInt8):Option (Bool×aP):=(iK r_).bind fun r1=>
 if r1.1.Kind=3 then
 some (decide (r1.1.Text=s),r1.2) else
 if r1.1.Kind=1 then
 some (decide (r1.1.Text=s),r1.2) else
 some (false,r1.2)
theorem He:av Tryz.prog S (B9 (lJ)):=
 aZ pk [uu iK] ⟨wh,trivial⟩ Tryz.func103 (by kernel_rfl) (fun _=>by kernel_rfl) (by kernel_rfl)
abbrev X3:=aP→Int→Int→Option aP
abbrev G6 (f:X3):Entry S:=⟨105,[kz,q1,q1],[],fun x=>f x.1 x.2.1 x.2.2⟩
def mX  (r_:aP) (code:Int) (ah:Int):Option aP:=(og r_).bind fun r1=>
 bif r1.1 then
 some (aP.mk (aV.mk r1.2.Row.L r1.2.Row.At (aF.mk code ah)) r1.2.bl) else
 some r1.2
theorem Nl:av Tryz.prog S (G6 (mX)):=
 aZ pk [Cc og] ⟨Hf,trivial⟩ Tryz.func105 (by kernel_rfl) (fun _=>by kernel_rfl) (by kernel_rfl)
abbrev TI:=aP→Int→Option (Bool×aP)
abbrev E2 (f:TI):Entry S:=⟨203,[kz,q1],[q3],fun x=>f x.1 x.2⟩
def jU  (r_:aP) (ah:Int):Option (Bool×aP):=if r_.bl=12 then
 (mX r_ 14 ah).bind fun r1=>
 some (false,r1) else
 some (true,aP.mk (aV.mk r_.Row.L (an (r_.Row.At+1)) r_.Row.aE) (an (r_.bl+1)))
theorem KD:av Tryz.prog S (E2 (jU)):=
 aZ pk [G6 mX] ⟨Nl,trivial⟩ Tryz.func203 (by kernel_rfl) (fun _=>by kernel_rfl) (by kernel_rfl)
abbrev Yr:=aP→(List UInt8)→Option (Bool×aP)
abbrev Hg (f:Yr):Entry S:=⟨62,[kz,q0],[q3],fun x=>f x.1 x.2⟩
def oh  (r_:aP) (s:List UInt8):Option (Bool×aP):=(lJ r_ s).bind fun r1=>
 bif r1.1 then
 some (r1.1,aP.mk (aV.mk r1.2.Row.L (an (r1.2.Row.At+1)) r1.2.Row.aE) r1.2.bl) else
 some (r1.1,r1.2)
theorem Nu:av Tryz.prog S (Hg (oh)):=
 aZ pk [B9 lJ] ⟨He,trivial⟩ Tryz.func62 (by kernel_rfl) (fun _=>by kernel_rfl) (by kernel_rfl)
abbrev X6:=aP→Option (Bool×aP)
abbrev G9 (f:X6):Entry S:=⟨102,[kz],[q3],fun x=>f x⟩
def pT  (r_:aP):Option (Bool×aP):=(iK r_).bind fun r1=>
 if r1.1.Kind=1 then
 (pN r1.1.Text).bind fun r2=>
 some (!r2,r1.2) else
 some (false,r1.2)
theorem Nn:av Tryz.prog S (G9 (pT)):=
 aZ pk [uu iK,BO pN] ⟨wh,Gp,trivial⟩ Tryz.func102 (by kernel_rfl) (fun _=>by kernel_rfl) (by kernel_rfl)
abbrev Yy:=aP→Option aP
abbrev Cg (f:Yy):Entry S:=⟨101,[kz],[],fun x=>f x⟩
def lM  (r_:aP):Option aP:=(iK r_).bind fun r1=>
 if r1.1.Kind=4 then
 (mX r1.2 12 r1.1.At).bind fun r2=>
 some r2 else
 (mX r1.2 11 r1.1.At).bind fun r3=>
 some r3
theorem Hh:av Tryz.prog S (Cg (lM)):=
 aZ pk [uu iK,G6 mX] ⟨wh,Nl,trivial⟩ Tryz.func101 (by kernel_rfl) (fun _=>by kernel_rfl) (by kernel_rfl)
abbrev Yg:=aP→Option (List UInt8×aP)
abbrev Nq (f:Yg):Entry S:=⟨60,[kz],[q0],fun x=>f x⟩
def mY  (r_:aP):Option (List UInt8×aP):=(pT r_).bind fun r1=>
 bif !r1.1 then
 (lM r1.2).bind fun r2=>
 some ([],r2) else
 if 0≤(an ((an (r1.2.Row.At+1)) - 1)) then
 if (an ((an (r1.2.Row.At+1)) - 1))<(r1.2.Row.L.length:Int) then
 some ((r1.2.Row.L.getD (an ((an (r1.2.Row.At+1)) - 1)).toNat ai.z).Text,aP.mk (aV.mk r1.2.Row.L (an (r1.2.Row.At+1)) r1.2.Row.aE) r1.2.bl) else none else none
theorem Yf:av Tryz.prog S (Nq (mY)):=
 aZ pk [G9 pT,Cg lM] ⟨Nn,Hh,trivial⟩ Tryz.func60 (by kernel_rfl) (fun _=>by kernel_rfl) (by kernel_rfl)
abbrev Yv:=aP→(List UInt8)→Option aP
abbrev Nv (f:Yv):Entry S:=⟨59,[kz,q0],[],fun x=>f x.1 x.2⟩
def jG  (r_:aP) (s:List UInt8):Option aP:=(oh r_ s).bind fun r1=>
 bif !r1.1 then
 (lM r1.2).bind fun r2=>
 some r2 else
 some r1.2
theorem Yu:av Tryz.prog S (Nv (jG)):=
 aZ pk [Hg oh,Cg lM] ⟨Nu,Hh,trivial⟩ Tryz.func59 (by kernel_rfl) (fun _=>by kernel_rfl) (by kernel_rfl)
abbrev mH:=aP→Int→Option (ak×aP)
abbrev o_ (f:mH):Entry S:=⟨175,[kz,q1],[jA],fun x=>f x.1 x.2⟩
abbrev TM:=aP→Option (ak×aP)
abbrev KE (f:TM):Entry S:=⟨202,[kz],[jA],fun x=>f x⟩
def mI (cT:mH)  (r_:aP):Option (ak×aP):=(iK r_).bind fun r1=>
 if r1.1.Kind=2 then
 some (ak.mk 1 r1.1.N [] [] r1.1.At,aP.mk (aV.mk r1.2.Row.L (an (r1.2.Row.At+1)) r1.2.Row.aE) r1.2.bl) else
 (oh r1.2 su).bind fun r2=>
 bif r2.1 then
 some (ak.mk 3 0 [] [] r1.1.At,r2.2) else
 (pT r2.2).bind fun r3=>
 bif r3.1 then
 (mY r3.2).bind fun r4=>
 some (ak.mk 2 0 r4.1 [] r1.1.At,r4.2) else
 (oh r3.2 kJ).bind fun r5=>
 bif r5.1 then
 (jG r5.2 cQ).bind fun r6=>
 (mY r6).bind fun r7=>
 (jG r7.2 cD).bind fun r8=>
 some (ak.mk 4 0 r7.1 [] r1.1.At,r8) else
 (lJ r5.2 cQ).bind fun r9=>
 bif !r9.1 then
 (lM r9.2).bind fun aT=>
 some (ak.mk 0 0 [] [] 0,aT) else
 (jU r9.2 r1.1.At).bind fun bC=>
 bif !bC.1 then
 some (ak.mk 0 0 [] [] 0,bC.2) else
 (cT bC.2 1).bind fun bp=>
 (jG bp.2 cD).bind fun bL=>
 some (ak.mk bp.1.Kind bp.1.N bp.1.Name bp.1.Kids bp.1.At,aP.mk bL.Row (an (bL.bl - 1)))
theorem TL (cT:mH) (q_:av Tryz.prog S (o_ cT)):av Tryz.prog S (KE (mI cT)):=
 aZ pk [uu iK,Hg oh,G9 pT,Nq mY,Nv jG,B9 lJ,Cg lM,E2 jU,o_ cT] ⟨wh,Nu,Nn,Yf,Yu,He,Hh,KD,q_,trivial⟩ Tryz.func202 (by kernel_rfl) (fun _=>by kernel_rfl) (by kernel_rfl)
abbrev E3:=aP→Option (ak×aP)
abbrev yw (f:E3):Entry S:=⟨189,[kz],[jA],fun x=>f x⟩
def Bc (w_:E3) (cT:mH) (k:Nat) (r_:aP):Option (ak×aP):=(iK r_).bind fun r1=>
 (lJ r1.2 fR).bind fun r2=>
 bif r2.1 then
 (jU r2.2 r1.1.At).bind fun r3=>
 bif !r3.1 then
 some (ak.mk 0 0 [] [] 0,r3.2) else
 (w_ r3.2).bind fun r4=>
 some (ak.mk 5 0 [] [ak.mk r4.1.Kind r4.1.N r4.1.Name r4.1.Kids r4.1.At] r1.1.At,aP.mk r4.2.Row (an (r4.2.bl - 1))) else
 (lJ r2.2 oz).bind fun r5=>
 bif r5.1 then
 (jU r5.2 r1.1.At).bind fun r6=>
 bif !r6.1 then
 some (ak.mk 0 0 [] [] 0,r6.2) else
 (w_ r6.2).bind fun r7=>
 some (ak.mk 6 0 [] [ak.mk r7.1.Kind r7.1.N r7.1.Name r7.1.Kids r7.1.At] r1.1.At,aP.mk r7.2.Row (an (r7.2.bl - 1))) else
 (mI cT r5.2).bind fun r8=>
 some (ak.mk r8.1.Kind r8.1.N r8.1.Name r8.1.Kids r8.1.At,r8.2)
def kn (cT:mH):Nat→aP→Option (ak×aP)
 | 0,_=>none
 | k+1,x0=>Bc (kn cT k) cT k x0
def tA (cT:mH)  (r_:aP):Option (ak×aP):=bu (fun k (x:aP)=>kn cT k x) r_
theorem TO (w_:E3) (cT:mH) (k:Nat) (Ut:av Tryz.prog S (yw w_)) (q_:av Tryz.prog S (o_ cT)):av Tryz.prog S (yw (Bc w_ cT k)):=
 aZ pk [uu iK,B9 lJ,E2 jU,yw w_,KE (mI cT)] ⟨wh,He,KD,Ut,TL cT q_,trivial⟩ Tryz.func189 (by kernel_rfl) (fun _=>by kernel_rfl) (by kernel_rfl)
theorem TN (cT:mH) (q_:av Tryz.prog S (o_ cT)):av Tryz.prog S (yw (tA cT)):=iO (fun k x=>kn cT k x) (fun _=>rfl) Tryz.func189 (by kernel_rfl) (fun _=>rfl) fun k h=>TO (kn cT k) cT k h q_
abbrev TP:=(List UInt8)→Option (Int×Int)
abbrev E4 (f:TP):Entry S:=⟨180,[q0],[q1,q1],fun x=>f x⟩
def tB  (text:List UInt8):Option (Int×Int):=if text=gB then
 some (19,1) else
 if text=gz then
 some (18,2) else
 if text=qi then
 some (12,3) else
 if text=gE then
 some (13,3) else
 if text=qh then
 some (14,3) else
 if text=gD then
 some (15,3) else
 if text=gC then
 some (16,3) else
 if text=gA then
 some (17,3) else
 if text=qk then
 some (10,4) else
 if text=fR then
 some (11,4) else
 if text=qn then
 some (7,5) else
 if text=qm then
 some (8,5) else
 if text=qj then
 some (9,5) else
 some (0,0)
theorem KF:av Tryz.prog S (E4 (tB)):=
 aZ pk [] trivial Tryz.func180 (by kernel_rfl) (fun _=>by kernel_rfl) (by kernel_rfl)
def pg (cT:mH):Nat→(List ai)→Int→Int→Int→Int→Int→Int→Int→(List UInt8)→(List ak)→Int→Int→Int→(List UInt8)→(List ak)→Int→Option (ak×aP)
 | 0,_,_,_,_,_,_,_,_,_,_,_,_,_,_,_,_=>none
 | k+1,eM,eJ,eL,eK,kE,level,fA,nu,gZ,iu,fy,fV,gQ,gR,dV,gP=>(iK (aP.mk (aV.mk eM eJ (aF.mk eL eK)) kE)).bind fun r3=>
  (tB r3.1.Text).bind fun r4=>
  if r3.1.Kind≠3 then
  some (ak.mk fV gQ gR dV gP,r3.2) else
  if r4.2≠level then
  some (ak.mk fV gQ gR dV gP,r3.2) else
  (cT (aP.mk (aV.mk r3.2.Row.L (an (r3.2.Row.At+1)) r3.2.Row.aE) r3.2.bl) (an (level+1))).bind fun r5=>
  if level=3 then
  some (ak.mk r4.1 0 [] [ak.mk fV gQ gR dV gP,ak.mk r5.1.Kind r5.1.N r5.1.Name r5.1.Kids r5.1.At] r3.1.At,r5.2) else
  pg cT k r5.2.Row.L r5.2.Row.At r5.2.Row.aE.Code r5.2.Row.aE.At r5.2.bl level fA nu gZ iu fy r4.1 0 [] [ak.mk fV gQ gR dV gP,ak.mk r5.1.Kind r5.1.N r5.1.Name r5.1.Kids r5.1.At] r3.1.At
def qY (cT:mH) (k:Nat) (r_:aP) (level:Int):Option (ak×aP):=if level=6 then
 (tA cT r_).bind fun r1=>
 some (ak.mk r1.1.Kind r1.1.N r1.1.Name r1.1.Kids r1.1.At,r1.2) else
 (cT r_ (an (level+1))).bind fun r2=>
 pg cT k r2.2.Row.L r2.2.Row.At r2.2.Row.aE.Code r2.2.Row.aE.At r2.2.bl level 0 0 [] [] 0 r2.1.Kind r2.1.N r2.1.Name r2.1.Kids r2.1.At
def e_:Nat→aP→Int→Option (ak×aP)
 | 0,_,_=>none
 | k+1,x0,x1=>qY (e_ k) k x0 x1
def yu  (r_:aP) (level:Int):Option (ak×aP):=bu (fun k (x:aP×Int)=>e_ k x.1 x.2) (r_,level)
theorem TK (cT:mH) (k:Nat) (q_:av Tryz.prog S (o_ cT)):av Tryz.prog S (o_ (qY cT k)):=
 cu pk [yw (tA cT),o_ cT,uu iK,E4 tB] ⟨TN cT q_,q_,wh,KF,trivial⟩ Tryz.func175 [] k (fun k=> [(0,⟨[0,1,4,5],[zw,q1,GV,um],fun x=>pg cT k x.1.1 x.1.2.1 x.1.2.2.1 x.1.2.2.2.1 x.1.2.2.2.2 x.2.1 x.2.2.1.1 x.2.2.1.2.1 x.2.2.1.2.2.1 x.2.2.1.2.2.2.1 x.2.2.1.2.2.2.2 x.2.2.2.1 x.2.2.2.2.1 x.2.2.2.2.2.1 x.2.2.2.2.2.2.1 x.2.2.2.2.2.2.2,false⟩)]) ⟨fun _=>rfl,trivial⟩ (fun _=>by kernel_rfl) (fun _=>by kernel_rfl) (by kernel_rfl)
theorem TJ:av Tryz.prog S (o_ (yu)):=iO (fun k x=>e_ k x.1 x.2) (fun _=>rfl) Tryz.func175 (by kernel_rfl) (fun _=>rfl) fun k h=>TK (e_ k) k h
abbrev TB:=(List ai)→Int→Option (ak×Int×aF)
abbrev EV (f:TB):Entry S:=⟨159,[gv,q1],[jA,q1,q8],fun x=>f x.1 x.2⟩
def mG  (l:List ai) (ah:Int):Option (ak×Int×aF):=(yu (aP.mk (aV.mk l ah (aF.mk 0 0)) 0) 1).bind fun r1=>
 (og r1.2).bind fun r2=>
 bif !r2.1 then
 some (ak.mk 0 0 [] [] 0,0,r2.2.Row.aE) else
 some (ak.mk r1.1.Kind r1.1.N r1.1.Name r1.1.Kids r1.1.At,r2.2.Row.At,aF.mk 0 0)
theorem Kw:av Tryz.prog S (EV (mG)):=
 aZ pk [o_ yu,Cc og] ⟨TJ,Hf,trivial⟩ Tryz.func159 (by kernel_rfl) (fun _=>by kernel_rfl) (by kernel_rfl)
abbrev Q4:=aH→Option (List ak×aH)
abbrev DZ (f:Q4):Entry S:=⟨198,[ji],[jj],fun x=>f x⟩
def ke  (r_:aH):Option (List ak×aH):=(jZ r_).bind fun r1=>
 bif !r1.1 then
 some ([],r1.2) else
 (mG r1.2.Row.L r1.2.Row.At).bind fun r2=>
 (gV r1.2 r2.2.2.Code r2.2.2.At).bind fun r3=>
 some ([ak.mk r2.1.Kind r2.1.N r2.1.Name r2.1.Kids r2.1.At],aH.mk (aV.mk r3.Row.L r2.2.1 r3.Row.aE) r3.bl)
theorem I4:av Tryz.prog S (DZ (ke)):=
 aZ pk [wk jZ,EV mG,B8 gV] ⟨zE,Kw,G8,trivial⟩ Tryz.func198 (by kernel_rfl) (fun _=>by kernel_rfl) (by kernel_rfl)
abbrev Q5:=aH→Option (List ak×aH)
abbrev AB (f:Q5):Entry S:=⟨200,[ji],[jj],fun x=>f x⟩
def jt  (r_:aH):Option (List ak×aH):=(dx r_ cQ).bind fun r1=>
 (ke r1).bind fun r2=>
 (dx r2.2 cD).bind fun r3=>
 some (r2.1,r3)
theorem D0:av Tryz.prog S (AB (jt)):=
 aZ pk [zI dx,DZ ke] ⟨Cf,I4,trivial⟩ Tryz.func200 (by kernel_rfl) (fun _=>by kernel_rfl) (by kernel_rfl)
abbrev Q7:=aH→Option (List ak×aH)
abbrev I5 (f:Q7):Entry S:=⟨199,[ji],[jj],fun x=>f x⟩
def nH  (r_:aH):Option (List ak×aH):=(jY r_ cQ).bind fun r1=>
 bif !r1.1 then
 some ([],r1.2) else
 (jt r1.2).bind fun r2=>
 some (r2.1,r2.2)
theorem Q6:av Tryz.prog S (I5 (nH)):=
 aZ pk [zB jY,AB jt] ⟨Ca,D0,trivial⟩ Tryz.func199 (by kernel_rfl) (fun _=>by kernel_rfl) (by kernel_rfl)
abbrev Yn:=aH→Option (Int×aH)
abbrev Nt (f:Yn):Entry S:=⟨61,[ji],[q1],fun x=>f x⟩
def rM  (r_:aH):Option (Int×aH):=(iJ r_).bind fun r1=>
 if r1.1.Kind≠2 then
 (iL r1.2).bind fun r2=>
 some (0,r2) else
 some (r1.1.N,aH.mk (aV.mk r1.2.Row.L (an (r1.2.Row.At+1)) r1.2.Row.aE) r1.2.bl)
theorem Ym:av Tryz.prog S (Nt (rM)):=
 aZ pk [uv iJ,zJ iL] ⟨wj,Ci,trivial⟩ Tryz.func61 (by kernel_rfl) (fun _=>by kernel_rfl) (by kernel_rfl)
abbrev oQ:=aH→Option (List aj×aH)
abbrev s9 (f:oQ):Entry S:=⟨174,[ji],[rI],fun x=>f x⟩
abbrev Q9:=aH→aj→Option (aj×aH)
abbrev I6 (f:Q9):Entry S:=⟨201,[ji,n9],[n9],fun x=>f x.1 x.2⟩
def s_ (dI:oQ)  (r_:aH) (a:aj):Option (aj×aH):=(ij r_ jJ).bind fun r1=>
 bif r1.1 then
 (rM r1.2).bind fun r2=>
 (dI r2.2).bind fun r3=>
 some (aj.mk 7 a.Name a.Event a.X r2.1 r3.1 a.eB a.At,r3.2) else
 (dx r1.2 j7).bind fun r4=>
 (jt r4).bind fun r5=>
 (dI r5.2).bind fun r6=>
 (ij r6.2 qg).bind fun r7=>
 bif r7.1 then
 (dI r7.2).bind fun r8=>
 some (aj.mk 6 a.Name a.Event r5.1 a.N r6.1 r8.1 a.At,r8.2) else
 some (aj.mk 6 a.Name a.Event r5.1 a.N r6.1 a.eB a.At,r7.2)
theorem Q8 (dI:oQ) (yF:av Tryz.prog S (s9 dI)):av Tryz.prog S (I6 (s_ dI)):=
 aZ pk [zG ij,Nt rM,s9 dI,zI dx,AB jt] ⟨Ce,Ym,yF,Cf,D0,trivial⟩ Tryz.func201 (by kernel_rfl) (fun _=>by kernel_rfl) (by kernel_rfl)
abbrev Q0:=aH→Option (aj×aH)
abbrev I3 (f:Q0):Entry S:=⟨188,[ji],[n9],fun x=>f x⟩
def iV (dI:oQ)  (r_:aH):Option (aj×aH):=(iJ r_).bind fun r1=>
 (pS r1.2).bind fun r2=>
 bif r2.1 then
 (gw r2.2).bind fun r3=>
 (dx r3.2 oB).bind fun r4=>
 (ke r4).bind fun r5=>
 (dx r5.2 bw).bind fun r6=>
 some (aj.mk 1 r3.1 [] r5.1 0 [] [] r1.1.At,r6) else
 (ij r2.2 lU).bind fun r7=>
 bif r7.1 then
 (gw r7.2).bind fun r8=>
 (nH r8.2).bind fun r9=>
 (dx r9.2 bw).bind fun aT=>
 some (aj.mk 2 [] r8.1 r9.1 0 [] [] r1.1.At,aT) else
 (ij r7.2 lW).bind fun bC=>
 bif bC.1 then
 (gw bC.2).bind fun bp=>
 (gw bp.2).bind fun bL=>
 (nH bL.2).bind fun bE=>
 (dx bE.2 bw).bind fun ep=>
 some (aj.mk 3 bp.1 bL.1 bE.1 0 [] [] r1.1.At,ep) else
 (ij bC.2 lT).bind fun r16=>
 bif r16.1 then
 (gw r16.2).bind fun jB=>
 (jt jB.2).bind fun jC=>
 (dx jC.2 bw).bind fun lG=>
 some (aj.mk 4 jB.1 [] jC.1 0 [] [] r1.1.At,lG) else
 (ij r16.2 nc).bind fun rJ=>
 bif rJ.1 then
 (gw rJ.2).bind fun oa=>
 (dx oa.2 bw).bind fun uq=>
 some (aj.mk 5 oa.1 [] [] 0 [] [] r1.1.At,uq) else
 (jY rJ.2 j7).bind fun lH=>
 bif lH.1 then
 bif lH.1 then
 (s_ dI lH.2 (aj.mk 0 [] [] [] 0 [] [] r1.1.At)).bind fun kC=>
 some (aj.mk kC.1.Kind kC.1.Name kC.1.Event kC.1.X kC.1.N kC.1.eU kC.1.eB kC.1.At,kC.2) else
 (iL lH.2).bind fun v7=>
 (dx v7 bw).bind fun G0=>
 some (aj.mk 0 [] [] [] 0 [] [] r1.1.At,G0) else
 (jY lH.2 jJ).bind fun v8=>
 bif v8.1 then
 (s_ dI v8.2 (aj.mk 0 [] [] [] 0 [] [] r1.1.At)).bind fun mT=>
 some (aj.mk mT.1.Kind mT.1.Name mT.1.Event mT.1.X mT.1.N mT.1.eU mT.1.eB mT.1.At,mT.2) else
 (iL v8.2).bind fun v_=>
 (dx v_ bw).bind fun we=>
 some (aj.mk 0 [] [] [] 0 [] [] r1.1.At,we)
theorem QZ (dI:oQ) (yF:av Tryz.prog S (s9 dI)):av Tryz.prog S (I3 (iV dI)):=
 aZ pk [uv iJ,G_ pS,Nr gw,zI dx,DZ ke,zG ij,I5 nH,AB jt,zB jY,I6 (s_ dI),zJ iL] ⟨wj,Np,Yi,Cf,I4,Ce,Q6,D0,Ca,Q8 dI yF,Ci,trivial⟩ Tryz.func188 (by kernel_rfl) (fun _=>by kernel_rfl) (by kernel_rfl)
def jP (dI:oQ):Nat→(List ai)→Int→Int→Int→Int→(List aj)→Option (List aj×aH)
 | 0,_,_,_,_,_,_=>none
 | k+1,eM,eJ,eL,eK,kE,l=>(jZ (aH.mk (aV.mk eM eJ (aF.mk eL eK)) kE)).bind fun r5=>
  bif r5.1 then
  (ij r5.2 gG).bind fun r6=>
  bif !r6.1 then
  (iV dI r6.2).bind fun r7=>
  if (l.length+ [r7.1].length)*128≤140737488355328 then
  jP dI k r7.2.Row.L r7.2.Row.At r7.2.Row.aE.Code r7.2.Row.aE.At r7.2.bl (l++ [r7.1]) else none else
  some (l,aH.mk r6.2.Row (an (r6.2.bl - 1))) else
  some (l,aH.mk r5.2.Row (an (r5.2.bl - 1)))
def qI (dI:oQ):Nat→(List ai)→Int→Int→Int→Int→Option (List aj×aH)
 | 0,_,_,_,_,_=>none
 | k+1,eM,eJ,eL,eK,kE=>(dx (aH.mk (aV.mk eM eJ (aF.mk eL eK)) kE) eS).bind fun r4=>
  jP dI k r4.Row.L r4.Row.At r4.Row.aE.Code r4.Row.aE.At (an (r4.bl+1)) []
def nG (dI:oQ) (k:Nat) (r_:aH):Option (List aj×aH):=(jY r_ eS).bind fun r1=>
 bif r1.1 then
 if r1.2.bl=4 then
 (iJ r1.2).bind fun r2=>
 (gV r2.2 14 r2.1.At).bind fun r3=>
 qI dI k r3.Row.L r3.Row.At r3.Row.aE.Code r3.Row.aE.At r3.bl else
 qI dI k r1.2.Row.L r1.2.Row.At r1.2.Row.aE.Code r1.2.Row.aE.At r1.2.bl else
 qI dI k r1.2.Row.L r1.2.Row.At r1.2.Row.aE.Code r1.2.Row.aE.At r1.2.bl
def e9:Nat→aH→Option (List aj×aH)
 | 0,_=>none
 | k+1,x0=>nG (e9 k) k x0
def xP  (r_:aH):Option (List aj×aH):=bu (fun k (x:aH)=>e9 k x) r_
theorem Q3 (dI:oQ) (k:Nat) (yF:av Tryz.prog S (s9 dI)):av Tryz.prog S (s9 (nG dI k)):=
 cu pk [zB jY,uv iJ,B8 gV,zI dx,wk jZ,zG ij,I3 (iV dI)] ⟨Ca,wj,G8,Cf,zE,Ce,QZ dI yF,trivial⟩ Tryz.func174 [1] k (fun k=> [(1,⟨[0],[zw],fun x=>qI dI k x.1 x.2.1 x.2.2.1 x.2.2.2.1 x.2.2.2.2,false⟩),(0,⟨[0,3],[zw,rI],fun x=>jP dI k x.1.1 x.1.2.1 x.1.2.2.1 x.1.2.2.2.1 x.1.2.2.2.2 x.2,false⟩)]) ⟨fun _=>rfl,fun _=>rfl,trivial⟩ (fun _=>by kernel_rfl) (fun _=>by kernel_rfl) (by kernel_rfl)
theorem Q1:av Tryz.prog S (s9 (xP)):=iO (fun k x=>e9 k x) (fun _=>rfl) Tryz.func174 (by kernel_rfl) (fun _=>rfl) fun k h=>Q3 (e9 k) k h
abbrev QI:=(List ai)→Int→Option (List aj×Int×aF)
abbrev IV (f:QI):Entry S:=⟨157,[gv,q1],[rI,q1,q8],fun x=>f x.1 x.2⟩
def sZ  (l:List ai) (ah:Int):Option (List aj×Int×aF):=(xP (aH.mk (aV.mk l ah (aF.mk 0 0)) 0)).bind fun r1=>
 (jZ r1.2).bind fun r2=>
 bif !r2.1 then
 some ([],0,r2.2.Row.aE) else
 some (r1.1,r2.2.Row.At,aF.mk 0 0)
theorem QH:av Tryz.prog S (IV (sZ)):=
 aZ pk [s9 xP,wk jZ] ⟨Q1,zE,trivial⟩ Tryz.func157 (by kernel_rfl) (fun _=>by kernel_rfl) (by kernel_rfl)
abbrev SD:=aA→Int→aF→Option aA
abbrev Er (f:SD):Entry S:=⟨158,[gT,q1,q8],[],fun x=>f x.1 x.2.1 x.2.2⟩
def mC  (r_:aA) (ah:Int) (f:aF):Option aA:=(jE r_ f.Code f.At).bind fun r1=>
 some (aA.mk (aV.mk r1.Row.L ah r1.Row.aE))
theorem JI:av Tryz.prog S (Er (mC)):=
 aZ pk [B7 jE] ⟨G7,trivial⟩ Tryz.func158 (by kernel_rfl) (fun _=>by kernel_rfl) (by kernel_rfl)
abbrev Sw:=aA→Option (List aj×aA)
abbrev Ep (f:Sw):Entry S:=⟨132,[gT],[rI],fun x=>f x⟩
def k9  (r_:aA):Option (List aj×aA):=(lK r_).bind fun r1=>
 bif !r1.1 then
 some ([],r1.2) else
 (sZ r1.2.Row.L r1.2.Row.At).bind fun r2=>
 (mC r1.2 r2.2.1 r2.2.2).bind fun r3=>
 some (r2.1,r3)
theorem JF:av Tryz.prog S (Ep (k9)):=
 aZ pk [zD lK,IV sZ,Er mC] ⟨Cd,QH,JI,trivial⟩ Tryz.func132 (by kernel_rfl) (fun _=>by kernel_rfl) (by kernel_rfl)
abbrev SM:=aA→Option (aK×aA)
abbrev JL (f:SM):Entry S:=⟨133,[gT],[zx],fun x=>f x⟩
def qS:Nat→(List ai)→Int→Int→Int→(List UInt8)→(List ak)→(List UInt8)→(List aj)→Int→(List UInt8)→(List ak)→(List UInt8)→(List aj)→Int→Option (aK×aA)
 | 0,_,_,_,_,_,_,_,_,_,_,_,_,_,_=>none
 | k+1,eM,eJ,eL,eK,kR,kS,kT,kQ,jr,gX,iP,gJ,gi,dQ=>(fm (aA.mk (aV.mk eM eJ (aF.mk eL eK))) eS).bind fun bC=>
  bif bC.1 then
  (k9 bC.2).bind fun bp=>
  some (aK.mk gX iP gJ bp.1 dQ,bp.2) else
  (cj bC.2 bw).bind fun bL=>
  some (aK.mk gX iP gJ gi dQ,bL)
def qR:Nat→(List ai)→Int→Int→Int→(List UInt8)→(List ak)→(List UInt8)→(List aj)→Int→(List UInt8)→(List ak)→(List UInt8)→(List aj)→Int→Option (aK×aA)
 | 0,_,_,_,_,_,_,_,_,_,_,_,_,_,_=>none
 | k+1,eM,eJ,eL,eK,kR,kS,kT,kQ,jr,gX,iP,gJ,gi,dQ=>(c_ (aA.mk (aV.mk eM eJ (aF.mk eL eK))) fI).bind fun r9=>
  bif r9.1 then
  (eN r9.2).bind fun aT=>
  qS k aT.2.Row.L aT.2.Row.At aT.2.Row.aE.Code aT.2.Row.aE.At kR kS kT kQ jr gX iP aT.1 gi dQ else
  qS k r9.2.Row.L r9.2.Row.At r9.2.Row.aE.Code r9.2.Row.aE.At kR kS kT kQ jr gX iP gJ gi dQ
def qQ:Nat→(List ai)→Int→Int→Int→(List UInt8)→(List ak)→(List UInt8)→(List aj)→Int→(List UInt8)→(List ak)→(List UInt8)→(List aj)→Int→Option (aK×aA)
 | 0,_,_,_,_,_,_,_,_,_,_,_,_,_,_=>none
 | k+1,eM,eJ,eL,eK,kR,kS,kT,kQ,jr,gX,iP,gJ,gi,dQ=>(c_ (aA.mk (aV.mk eM eJ (aF.mk eL eK))) ni).bind fun r5=>
  bif r5.1 then
  (mG r5.2.Row.L r5.2.Row.At).bind fun r6=>
  (mC r5.2 r6.2.1 r6.2.2).bind fun r7=>
  (cj r7 lV).bind fun r8=>
  qR k r8.Row.L r8.Row.At r8.Row.aE.Code r8.Row.aE.At kR kS kT kQ jr gX [ak.mk r6.1.Kind r6.1.N r6.1.Name r6.1.Kids r6.1.At] gJ gi dQ else
  qR k r5.2.Row.L r5.2.Row.At r5.2.Row.aE.Code r5.2.Row.aE.At kR kS kT kQ jr gX iP gJ gi dQ
def o6 (k:Nat) (r_:aA):Option (aK×aA):=(fF r_).bind fun r1=>
 (c_ r1.2 eT).bind fun r2=>
 bif r2.1 then
 (eN r2.2).bind fun r3=>
 qQ k r3.2.Row.L r3.2.Row.At r3.2.Row.aE.Code r3.2.Row.aE.At [] [] [] [] 0 r3.1 [] [] [] r1.1.At else
 (cj r2.2 gW).bind fun r4=>
 qQ k r4.Row.L r4.Row.At r4.Row.aE.Code r4.Row.aE.At [] [] [] [] 0 [] [] [] [] r1.1.At
def mD  (r_:aA):Option (aK×aA):=bu (fun k (x:aA)=>o6 k x) r_
theorem SL:av Tryz.prog S (JL (mD)):=dF (fun k x=>o6 k x) (fun _=>rfl) fun k=>
 cu pk [pU fF,wo c_,zC eN,wq cj,EV mG,Er mC,zA fm,Ep k9] ⟨rL,zF,Cb,zH,Kw,JI,B_,JF,trivial⟩ Tryz.func133 [2,4,9] k (fun k=> [(1,⟨[0,2,3],[fh,n_,n_],fun x=>qQ k x.1.1 x.1.2.1 x.1.2.2.1 x.1.2.2.2 x.2.1.1 x.2.1.2.1 x.2.1.2.2.1 x.2.1.2.2.2.1 x.2.1.2.2.2.2 x.2.2.1 x.2.2.2.1 x.2.2.2.2.1 x.2.2.2.2.2.1 x.2.2.2.2.2.2,false⟩),(3,⟨[0,2,3],[fh,n_,n_],fun x=>qR k x.1.1 x.1.2.1 x.1.2.2.1 x.1.2.2.2 x.2.1.1 x.2.1.2.1 x.2.1.2.2.1 x.2.1.2.2.2.1 x.2.1.2.2.2.2 x.2.2.1 x.2.2.2.1 x.2.2.2.2.1 x.2.2.2.2.2.1 x.2.2.2.2.2.2,false⟩),(5,⟨[0,2,3],[fh,n_,n_],fun x=>qS k x.1.1 x.1.2.1 x.1.2.2.1 x.1.2.2.2 x.2.1.1 x.2.1.2.1 x.2.1.2.2.1 x.2.1.2.2.2.1 x.2.1.2.2.2.2 x.2.2.1 x.2.2.2.1 x.2.2.2.2.1 x.2.2.2.2.2.1 x.2.2.2.2.2.2,false⟩)]) ⟨fun _=>rfl,fun _=>rfl,fun _=>rfl,trivial⟩ (fun _=>by kernel_rfl) (fun _=>by kernel_rfl) (by kernel_rfl)
abbrev iY:=aA→Int→Option (List ax×aA)
abbrev vj (f:iY):Entry S:=⟨65,[gT,q1],[vY],fun x=>f x.1 x.2⟩
abbrev SC:=aA→(Int×List UInt8×List aj×List aj×List aK×List ax×Int)→Int→Option (aA×(Int×List UInt8×List aj×List aj×List aK×List ax×Int))
abbrev JH (f:SC):Entry S:=⟨106,[gT,zy,q1],[],fun x=>f x.1 x.2.1 x.2.2⟩
mutual
def ki (cI:iY):Nat→(List ai)→Int→Int→Int→Int→(List UInt8)→(List aj)→(List aj)→(List aK)→(List ax)→Int→Int→Option (aA×(Int×List UInt8×List aj×List aj×List aK×List ax×Int))
 | 0,_,_,_,_,_,_,_,_,_,_,_,_=>none
 | k+1,eM,eJ,eL,eK,eR,fu,eX,fq,eu,eP,eO,deep=>(fm (aA.mk (aV.mk eM eJ (aF.mk eL eK))) eT).bind fun r6=>
  bif r6.1 then
  qO cI k r6.2.Row.L r6.2.Row.At r6.2.Row.aE.Code r6.2.Row.aE.At eR fu eX fq eu eP eO deep else
  (fm r6.2 gW).bind fun r7=>
  bif r7.1 then
  qO cI k r7.2.Row.L r7.2.Row.At r7.2.Row.aE.Code r7.2.Row.aE.At eR fu eX fq eu eP eO deep else
  (cI r7.2 (an (deep+1))).bind fun r8=>
  (cj r8.2 gG).bind fun r9=>
  some (r9,(eR,fu,eX,fq,eu,r8.1,eO))
def qO (cI:iY):Nat→(List ai)→Int→Int→Int→Int→(List UInt8)→(List aj)→(List aj)→(List aK)→(List ax)→Int→Int→Option (aA×(Int×List UInt8×List aj×List aj×List aK×List ax×Int))
 | 0,_,_,_,_,_,_,_,_,_,_,_,_=>none
 | k+1,eM,eJ,eL,eK,eR,fu,eX,fq,eu,eP,eO,deep=>(mD (aA.mk (aV.mk eM eJ (aF.mk eL eK)))).bind fun aT=>
  if (eu.length+ [aT.1].length)*88≤140737488355328 then
  ki cI k aT.2.Row.L aT.2.Row.At aT.2.Row.aE.Code aT.2.Row.aE.At eR fu eX fq (eu++ [aT.1]) eP eO deep else none
end
def x6 (cI:iY):Nat→(List ai)→Int→Int→Int→Int→(List UInt8)→(List aj)→(List aj)→(List aK)→(List ax)→Int→Int→Option (aA×(Int×List UInt8×List aj×List aj×List aK×List ax×Int))
 | 0,_,_,_,_,_,_,_,_,_,_,_,_=>none
 | k+1,eM,eJ,eL,eK,eR,fu,eX,fq,eu,eP,eO,deep=>ki cI k eM eJ eL eK eR fu eX fq eu eP eO deep
def tr (cI:iY):Nat→(List ai)→Int→Int→Int→Int→(List UInt8)→(List aj)→(List aj)→(List aK)→(List ax)→Int→Int→Option (aA×(Int×List UInt8×List aj×List aj×List aK×List ax×Int))
 | 0,_,_,_,_,_,_,_,_,_,_,_,_=>none
 | k+1,eM,eJ,eL,eK,eR,fu,eX,fq,eu,eP,eO,deep=>(c_ (aA.mk (aV.mk eM eJ (aF.mk eL eK))) oC).bind fun r4=>
  bif r4.1 then
  (k9 r4.2).bind fun r5=>
  x6 cI k r5.2.Row.L r5.2.Row.At r5.2.Row.aE.Code r5.2.Row.aE.At eR fu eX r5.1 eu eP eO deep else
  x6 cI k r4.2.Row.L r4.2.Row.At r4.2.Row.aE.Code r4.2.Row.aE.At eR fu eX fq eu eP eO deep
def nM (cI:iY) (k:Nat) (r_:aA) (s:Int×List UInt8×List aj×List aj×List aK×List ax×Int) (deep:Int):Option (aA×(Int×List UInt8×List aj×List aj×List aK×List ax×Int)):=(cj r_ eS).bind fun r1=>
 (c_ r1 oA).bind fun r2=>
 bif r2.1 then
 (k9 r2.2).bind fun r3=>
 tr cI k r3.2.Row.L r3.2.Row.At r3.2.Row.aE.Code r3.2.Row.aE.At s.1 s.2.1 r3.1 s.2.2.2.1 s.2.2.2.2.1 s.2.2.2.2.2.1 s.2.2.2.2.2.2 deep else
 tr cI k r2.2.Row.L r2.2.Row.At r2.2.Row.aE.Code r2.2.Row.aE.At s.1 s.2.1 s.2.2.1 s.2.2.2.1 s.2.2.2.2.1 s.2.2.2.2.2.1 s.2.2.2.2.2.2 deep
def oY (cI:iY)  (r_:aA) (s:Int×List UInt8×List aj×List aj×List aK×List ax×Int) (deep:Int):Option (aA×(Int×List UInt8×List aj×List aj×List aK×List ax×Int)):=bu (fun k (x:aA×(Int×List UInt8×List aj×List aj×List aK×List ax×Int)×Int)=>nM cI k x.1 x.2.1 x.2.2) (r_,s,deep)
theorem SB (cI:iY) (Fs:av Tryz.prog S (vj cI)):av Tryz.prog S (JH (oY cI)):=dF (fun k x=>nM cI k x.1 x.2.1 x.2.2) (fun _=>rfl) fun k=>
 cu pk [wq cj,wo c_,Ep k9,zA fm,vj cI,JL mD] ⟨zH,zF,JF,B_,Fs,SL,trivial⟩ Tryz.func106 [1,3,6] k (fun k=> [(1,⟨[0,1,2],[fh,zy,q1],fun x=>tr cI k x.1.1 x.1.2.1 x.1.2.2.1 x.1.2.2.2 x.2.1.1 x.2.1.2.1 x.2.1.2.2.1 x.2.1.2.2.2.1 x.2.1.2.2.2.2.1 x.2.1.2.2.2.2.2.1 x.2.1.2.2.2.2.2.2 x.2.2,false⟩),(3,⟨[0,1,2],[fh,zy,q1],fun x=>x6 cI k x.1.1 x.1.2.1 x.1.2.2.1 x.1.2.2.2 x.2.1.1 x.2.1.2.1 x.2.1.2.2.1 x.2.1.2.2.2.1 x.2.1.2.2.2.2.1 x.2.1.2.2.2.2.2.1 x.2.1.2.2.2.2.2.2 x.2.2,false⟩),(0,⟨[0,1,2],[fh,zy,q1],fun x=>ki cI k x.1.1 x.1.2.1 x.1.2.2.1 x.1.2.2.2 x.2.1.1 x.2.1.2.1 x.2.1.2.2.1 x.2.1.2.2.2.1 x.2.1.2.2.2.2.1 x.2.1.2.2.2.2.2.1 x.2.1.2.2.2.2.2.2 x.2.2,false⟩),(5,⟨[0,1,2],[fh,zy,q1],fun x=>qO cI k x.1.1 x.1.2.1 x.1.2.2.1 x.1.2.2.2 x.2.1.1 x.2.1.2.1 x.2.1.2.2.1 x.2.1.2.2.2.1 x.2.1.2.2.2.2.1 x.2.1.2.2.2.2.2.1 x.2.1.2.2.2.2.2.2 x.2.2,false⟩)]) ⟨fun _=>rfl,fun _=>rfl,fun _=>rfl,fun _=>rfl,trivial⟩ (fun _=>by kernel_rfl) (fun _=>by kernel_rfl) (by kernel_rfl)
def iX (cI:iY):Nat→(List ai)→Int→Int→Int→Int→(List ax)→Int→Option (List ax×aA)
 | 0,_,_,_,_,_,_,_=>none
 | k+1,eM,eJ,eL,eK,deep,l,kind=>if kind≠0 then
  (fF (aA.mk (aV.mk eM eJ (aF.mk eL eK)))).bind fun r2=>
  if 12<deep then
  (jE r2.2 14 r2.1.At).bind fun r3=>
  some ([],r3) else
  (eN (aA.mk (aV.mk r2.2.Row.L (an (r2.2.Row.At+1)) r2.2.Row.aE))).bind fun r4=>
  if kind=1 then
  (oY cI r4.2 (kind,r4.1,[],[],[],[],r2.1.At) deep).bind fun r5=>
  if (l.length+ [ax.mk r5.2.1 r5.2.2.1 r5.2.2.2.1 r5.2.2.2.2.1 r5.2.2.2.2.2.1 r5.2.2.2.2.2.2.1 r5.2.2.2.2.2.2.2].length)*128≤140737488355328 then
  (hY r5.1).bind fun r6=>
  iX cI k r6.2.Row.L r6.2.Row.At r6.2.Row.aE.Code r6.2.Row.aE.At deep (l++ [ax.mk r5.2.1 r5.2.2.1 r5.2.2.2.1 r5.2.2.2.2.1 r5.2.2.2.2.2.1 r5.2.2.2.2.2.2.1 r5.2.2.2.2.2.2.2]) r6.1 else none else
  if kind=2 then
  (oY cI r4.2 (kind,r4.1,[],[],[],[],r2.1.At) deep).bind fun r7=>
  if (l.length+ [ax.mk r7.2.1 r7.2.2.1 r7.2.2.2.1 r7.2.2.2.2.1 r7.2.2.2.2.2.1 r7.2.2.2.2.2.2.1 r7.2.2.2.2.2.2.2].length)*128≤140737488355328 then
  (hY r7.1).bind fun r8=>
  iX cI k r8.2.Row.L r8.2.Row.At r8.2.Row.aE.Code r8.2.Row.aE.At deep (l++ [ax.mk r7.2.1 r7.2.2.1 r7.2.2.2.1 r7.2.2.2.2.1 r7.2.2.2.2.2.1 r7.2.2.2.2.2.2.1 r7.2.2.2.2.2.2.2]) r8.1 else none else
  (cj r4.2 bw).bind fun r9=>
  if (l.length+ [ax.mk kind r4.1 [] [] [] [] r2.1.At].length)*128≤140737488355328 then
  (hY r9).bind fun aT=>
  iX cI k aT.2.Row.L aT.2.Row.At aT.2.Row.aE.Code aT.2.Row.aE.At deep (l++ [ax.mk kind r4.1 [] [] [] [] r2.1.At]) aT.1 else none else
  some (l,aA.mk (aV.mk eM eJ (aF.mk eL eK)))
def ld (cI:iY) (k:Nat) (r_:aA) (deep:Int):Option (List ax×aA):=(hY r_).bind fun r1=>
 iX cI k r1.2.Row.L r1.2.Row.At r1.2.Row.aE.Code r1.2.Row.aE.At deep [] r1.1
def cJ:Nat→aA→Int→Option (List ax×aA)
 | 0,_,_=>none
 | k+1,x0,x1=>ld (cJ k) k x0 x1
def qP  (r_:aA) (deep:Int):Option (List ax×aA):=bu (fun k (x:aA×Int)=>cJ k x.1 x.2) (r_,deep)
theorem SK (cI:iY) (k:Nat) (Fs:av Tryz.prog S (vj cI)):av Tryz.prog S (vj (ld cI k)):=
 cu pk [JE hY,pU fF,B7 jE,zC eN,JH (oY cI),wq cj] ⟨Su,rL,G7,Cb,SB cI Fs,zH,trivial⟩ Tryz.func65 [] k (fun k=> [(0,⟨[0,1,5,6],[fh,q1,vY,q1],fun x=>iX cI k x.1.1 x.1.2.1 x.1.2.2.1 x.1.2.2.2 x.2.1 x.2.2.1 x.2.2.2,false⟩)]) ⟨fun _=>rfl,trivial⟩ (fun _=>by kernel_rfl) (fun _=>by kernel_rfl) (by kernel_rfl)
theorem SJ:av Tryz.prog S (vj (qP)):=iO (fun k x=>cJ k x.1 x.2) (fun _=>rfl) Tryz.func65 (by kernel_rfl) (fun _=>rfl) fun k h=>SK (cJ k) k h
abbrev Sz:=aA→Option (b7×aA)
abbrev JG (f:Sz):Entry S:=⟨26,[gT],[pP],fun x=>f x⟩
def nL:Nat→(List ai)→Int→Int→Int→(List UInt8)→Int→Int→(List aJ)→(List aJ)→(List aJ)→(List ax)→Int→(List UInt8)→Int→Int→(List aJ)→(List aJ)→(List aJ)→(List ax)→Int→Option (b7×aA)
 | 0,_,_,_,_,_,_,_,_,_,_,_,_,_,_,_,_,_,_,_,_=>none
 | k+1,eM,eJ,eL,eK,PO,PU,PN,PW,PS,PV,PT,jr,mw,mz,mu,kg,kX,kZ,kY,mq=>(c_ (aA.mk (aV.mk eM eJ (aF.mk eL eK))) iN).bind fun r9=>
  bif r9.1 then
  (tu r9.2).bind fun aT=>
  (cj aT.2 oB).bind fun bC=>
  (c_ bC fR).bind fun bp=>
  (jF bp.2).bind fun bL=>
  bif bp.1 then
  (cj bL.2 bw).bind fun bE=>
  if (kg.length+ [aJ.mk aT.1.Name (an (0 - bL.1)) aT.1.At].length)*32≤140737488355328 then
  nL k bE.Row.L bE.Row.At bE.Row.aE.Code bE.Row.aE.At PO PU PN PW PS PV PT jr mw mz mu (kg++ [aJ.mk aT.1.Name (an (0 - bL.1)) aT.1.At]) kX kZ kY mq else none else
  (cj bL.2 bw).bind fun ep=>
  if (kg.length+ [aJ.mk aT.1.Name bL.1 aT.1.At].length)*32≤140737488355328 then
  nL k ep.Row.L ep.Row.At ep.Row.aE.Code ep.Row.aE.At PO PU PN PW PS PV PT jr mw mz mu (kg++ [aJ.mk aT.1.Name bL.1 aT.1.At]) kX kZ kY mq else none else
  (oZ r9.2 ql).bind fun r16=>
  (oZ r16.2 qo).bind fun jB=>
  (qP jB.2 1).bind fun jC=>
  (cj jC.2 gG).bind fun lG=>
  some (b7.mk mw mz mu kg r16.1 jB.1 jC.1 mq,lG)
def oX (k:Nat) (r_:aA):Option (b7×aA):=(fF r_).bind fun r1=>
 (cj r1.2 ng).bind fun r2=>
 (eN r2).bind fun r3=>
 (cj r3.2 nj).bind fun r4=>
 (jF r4).bind fun r5=>
 (cj r5.2 nh).bind fun r6=>
 (jF r6).bind fun r7=>
 (cj r7.2 eS).bind fun r8=>
 nL k r8.Row.L r8.Row.At r8.Row.aE.Code r8.Row.aE.At [] 0 0 [] [] [] [] 0 r3.1 r5.1 r7.1 [] [] [] [] r1.1.At
def vi  (r_:aA):Option (b7×aA):=bu (fun k (x:aA)=>oX k x) r_
theorem Sx:av Tryz.prog S (JG (vi)):=dF (fun k x=>oX k x) (fun _=>rfl) fun k=>
 cu pk [pU fF,wq cj,zC eN,Ns jF,wo c_,Es tu,JK oZ,vj qP] ⟨rL,zH,Cb,Yk,zF,JJ,SF,SJ,trivial⟩ Tryz.func26 [] k (fun k=> [(0,⟨[0,2,3],[fh,MY,MY],fun x=>nL k x.1.1 x.1.2.1 x.1.2.2.1 x.1.2.2.2 x.2.1.1 x.2.1.2.1 x.2.1.2.2.1 x.2.1.2.2.2.1 x.2.1.2.2.2.2.1 x.2.1.2.2.2.2.2.1 x.2.1.2.2.2.2.2.2.1 x.2.1.2.2.2.2.2.2.2 x.2.2.1 x.2.2.2.1 x.2.2.2.2.1 x.2.2.2.2.2.1 x.2.2.2.2.2.2.1 x.2.2.2.2.2.2.2.1 x.2.2.2.2.2.2.2.2.1 x.2.2.2.2.2.2.2.2.2,false⟩)]) ⟨fun _=>rfl,trivial⟩ (fun _=>by kernel_rfl) (fun _=>by kernel_rfl) (by kernel_rfl)
abbrev Se:=(List ai)→Int→Option (b7×Int×aF)
abbrev Eo (f:Se):Entry S:=⟨14,[gv,q1],[pP,q1,q8],fun x=>f x.1 x.2⟩
def k8  (l:List ai) (ah:Int):Option (b7×Int×aF):=(vi (aA.mk (aV.mk l ah (aF.mk 0 0)))).bind fun r1=>
 (lK r1.2).bind fun r2=>
 bif !r2.1 then
 some (b7.mk [] 0 0 [] [] [] [] 0,0,r2.2.Row.aE) else
 some (r1.1,r2.2.Row.At,aF.mk 0 0)
theorem JA:av Tryz.prog S (Eo (k8)):=
 aZ pk [JG vi,zD lK] ⟨Sx,Cd,trivial⟩ Tryz.func14 (by kernel_rfl) (fun _=>by kernel_rfl) (by kernel_rfl)
abbrev Wa:=(List UInt8)→Option (b7×aF×Bool)
abbrev Mh (f:Wa):Entry S:=⟨10,[q0],[pP,q8,q3],fun x=>f x⟩
def ry  (s:List UInt8):Option (b7×aF×Bool):=(BN s).bind fun r1=>
 if r1.2.Code≠0 then
 some (b7.mk [] 0 0 [] [] [] [] 0,r1.2,false) else
 (k8 r1.1 0).bind fun r2=>
 if r2.2.2.Code=0 then
 some (r2.1,r2.2.2,decide (r2.2.1=(an ((r1.1.length:Int) - 1)))) else
 some (r2.1,r2.2.2,false)
theorem V_:av Tryz.prog S (Mh (ry)):=
 aZ pk [Mn BN,Eo k8] ⟨Wu,JA,trivial⟩ Tryz.func10 (by kernel_rfl) (fun _=>by kernel_rfl) (by kernel_rfl)
abbrev SY:=Int→Option (List UInt8)
abbrev JN (f:SY):Entry S:=⟨85,[q1],[q0],fun x=>f x⟩
def A2  (kind:Int):Option (List UInt8):=if kind=1 then
 some OG else
 if kind=2 then
 some aaA else
 if kind=3 then
 some aax else
 some aaw
theorem SX:av Tryz.prog S (JN (A2)):=
 aZ pk [] trivial Tryz.func85 (by kernel_rfl) (fun _=>by kernel_rfl) (by kernel_rfl)
abbrev TE:=Int→Option (List UInt8×Int)
abbrev EZ (f:TE):Entry S:=⟨167,[q1],[q0,q1],fun x=>f x⟩
def E0:Nat→Int→(List UInt8×List UInt8×List UInt8×List UInt8×List UInt8×List UInt8×List UInt8×List UInt8×List UInt8×List UInt8×List UInt8×List UInt8×List UInt8)→Int→Option (List UInt8×Int)
 | 0,_,_,_=>none
 | k+1,kind,x8,x9=>if x9<13 then
  if 0≤x9 then
  if x9<([x8.1,x8.2.1,x8.2.2.1,x8.2.2.2.1,x8.2.2.2.2.1,x8.2.2.2.2.2.1,x8.2.2.2.2.2.2.1,x8.2.2.2.2.2.2.2.1,x8.2.2.2.2.2.2.2.2.1,x8.2.2.2.2.2.2.2.2.2.1,x8.2.2.2.2.2.2.2.2.2.2.1,x8.2.2.2.2.2.2.2.2.2.2.2.1,x8.2.2.2.2.2.2.2.2.2.2.2.2].length:Int) then
  (tB ([x8.1,x8.2.1,x8.2.2.1,x8.2.2.2.1,x8.2.2.2.2.1,x8.2.2.2.2.2.1,x8.2.2.2.2.2.2.1,x8.2.2.2.2.2.2.2.1,x8.2.2.2.2.2.2.2.2.1,x8.2.2.2.2.2.2.2.2.2.1,x8.2.2.2.2.2.2.2.2.2.2.1,x8.2.2.2.2.2.2.2.2.2.2.2.1,x8.2.2.2.2.2.2.2.2.2.2.2.2].getD x9.toNat [])).bind fun r1=>
  if r1.1=kind then
  some ([x8.1,x8.2.1,x8.2.2.1,x8.2.2.2.1,x8.2.2.2.2.1,x8.2.2.2.2.2.1,x8.2.2.2.2.2.2.1,x8.2.2.2.2.2.2.2.1,x8.2.2.2.2.2.2.2.2.1,x8.2.2.2.2.2.2.2.2.2.1,x8.2.2.2.2.2.2.2.2.2.2.1,x8.2.2.2.2.2.2.2.2.2.2.2.1,x8.2.2.2.2.2.2.2.2.2.2.2.2].getD x9.toNat [],r1.2) else
  E0 k kind x8 (an (x9+1)) else none else none else
  some ([],0)
def Kz (k:Nat) (kind:Int):Option (List UInt8×Int):=E0 k kind Ru 0
def vu  (kind:Int):Option (List UInt8×Int):=bu (fun k (x:Int)=>Kz k x) kind
theorem KA:av Tryz.prog S (EZ (vu)):=dF (fun k x=>Kz k x) (fun _=>rfl) fun k=>
 cu pk [E4 tB] ⟨KF,trivial⟩ Tryz.func167 [] k (fun k=> [(0,⟨[0,8,9],[q1,XE,q1],fun x=>E0 k x.1 x.2.1 x.2.2,false⟩)]) ⟨fun _=>rfl,trivial⟩ (fun _=>by kernel_rfl) (fun _=>by kernel_rfl) (by kernel_rfl)
abbrev TF:=Int→Option Int
abbrev E1 (f:TF):Entry S:=⟨165,[q1],[q1],fun x=>f x⟩
def yt  (kind:Int):Option Int:=if kind=5 then
 some 6 else
 if kind=6 then
 some 6 else
 (vu kind).bind fun r1=>
 if 0<r1.2 then
 some r1.2 else
 some 7
theorem KB:av Tryz.prog S (E1 (yt)):=
 aZ pk [EZ vu] ⟨KA,trivial⟩ Tryz.func165 (by kernel_rfl) (fun _=>by kernel_rfl) (by kernel_rfl)
abbrev TH:=Int→Option (List Int)
abbrev KC (f:TH):Entry S:=⟨166,[q1],[GW],fun x=>f x⟩
def ja  (kind:Int):Option (List Int):=(yt kind).bind fun r1=>
 if r1=7 then
 some [] else
 if r1=6 then
 some [6] else
 if r1=3 then
 some [4,4] else
 some [r1,an (r1+1)]
theorem TG:av Tryz.prog S (KC (ja)):=
 aZ pk [E1 yt] ⟨KB,trivial⟩ Tryz.func166 (by kernel_rfl) (fun _=>by kernel_rfl) (by kernel_rfl)
abbrev yy:=(List UInt8)→ak→Int→Option (List UInt8)
abbrev yx (f:yy):Entry S:=⟨148,[gU,jA,q1],[],fun x=>f x.1 x.2.1 x.2.2⟩
def nR (dO:yy):Nat→(List UInt8)→Int→Int→(List UInt8)→(List ak)→Int→(List Int)→Int→Int→Option (List UInt8)
 | 0,_,_,_,_,_,_,_,_,_=>none
 | k+1,b,fV,gQ,gR,dV,gP,nv,uW,dJ=>if dJ<uW then
  if 0≤dJ then
  if dJ<(nv.length:Int) then
  if (dV.length:Int)≤dJ then
  (gN b 41).bind fun XK=>
  some XK.2 else
  if 0<dJ then
  (vu fV).bind fun r32=>
  if cH.length+r32.1.length≤9223372036854775807 then
  if (cH++r32.1).length+cH.length≤9223372036854775807 then
  (bJ b ((cH++r32.1)++cH)).bind fun XL=>
  if 0≤dJ then
  if dJ<(dV.length:Int) then
  (dO XL.2.2 (dV.getD dJ.toNat ak.z) (nv.getD dJ.toNat 0)).bind fun XM=>
  nR dO k XM fV gQ gR dV gP nv uW (an (dJ+1)) else none else none else none else none else
  if 0≤dJ then
  if dJ<(dV.length:Int) then
  (dO b (dV.getD dJ.toNat ak.z) (nv.getD dJ.toNat 0)).bind fun XN=>
  nR dO k XN fV gQ gR dV gP nv uW (an (dJ+1)) else none else none else none else none else
  (gN b 41).bind fun XO=>
  some XO.2
def nS (dO:yy):Nat→(List UInt8)→Int→Int→(List UInt8)→(List ak)→Int→(List Int)→Int→Int→Option (List UInt8)
 | 0,_,_,_,_,_,_,_,_,_=>none
 | k+1,b,fV,gQ,gR,dV,gP,nv,uW,dJ=>if dJ<uW then
  if 0≤dJ then
  if dJ<(nv.length:Int) then
  if (dV.length:Int)≤dJ then
  some b else
  if 0<dJ then
  (vu fV).bind fun G1=>
  if cH.length+G1.1.length≤9223372036854775807 then
  if (cH++G1.1).length+cH.length≤9223372036854775807 then
  (bJ b ((cH++G1.1)++cH)).bind fun XP=>
  if 0≤dJ then
  if dJ<(dV.length:Int) then
  (dO XP.2.2 (dV.getD dJ.toNat ak.z) (nv.getD dJ.toNat 0)).bind fun XQ=>
  nS dO k XQ fV gQ gR dV gP nv uW (an (dJ+1)) else none else none else none else none else
  if 0≤dJ then
  if dJ<(dV.length:Int) then
  (dO b (dV.getD dJ.toNat ak.z) (nv.getD dJ.toNat 0)).bind fun XR=>
  nS dO k XR fV gQ gR dV gP nv uW (an (dJ+1)) else none else none else none else none else
  some b
def KH (dO:yy) (k:Nat) (b:List UInt8) (e:ak) (asked:Int):Option (List UInt8):=(yt e.Kind).bind fun r1=>
 if r1<asked then
 (gN b 40).bind fun r2=>
 if e.Kind=1 then
 (uk e.N 10).bind fun r3=>
 (bJ r2.2 r3).bind fun r4=>
 (ja e.Kind).bind fun r5=>
 nR dO k r4.2.2 e.Kind e.N e.Name e.Kids e.At r5 (r5.length:Int) 0 else
 if e.Kind=3 then
 (gN r2.2 36).bind fun r6=>
 (ja e.Kind).bind fun r7=>
 nR dO k r6.2 e.Kind e.N e.Name e.Kids e.At r7 (r7.length:Int) 0 else
 if e.Kind=2 then
 (bJ r2.2 e.Name).bind fun r8=>
 (ja e.Kind).bind fun r9=>
 nR dO k r8.2.2 e.Kind e.N e.Name e.Kids e.At r9 (r9.length:Int) 0 else
 if e.Kind=4 then
 if uQ.length+e.Name.length≤9223372036854775807 then
 if (uQ++e.Name).length+cD.length≤9223372036854775807 then
 (bJ r2.2 ((uQ++e.Name)++cD)).bind fun aT=>
 (ja e.Kind).bind fun bC=>
 nR dO k aT.2.2 e.Kind e.N e.Name e.Kids e.At bC (bC.length:Int) 0 else none else none else
 if e.Kind=5 then
 (gN r2.2 45).bind fun bp=>
 (ja e.Kind).bind fun bL=>
 nR dO k bp.2 e.Kind e.N e.Name e.Kids e.At bL (bL.length:Int) 0 else
 if e.Kind=6 then
 (gN r2.2 33).bind fun bE=>
 (ja e.Kind).bind fun ep=>
 nR dO k bE.2 e.Kind e.N e.Name e.Kids e.At ep (ep.length:Int) 0 else
 (ja e.Kind).bind fun r16=>
 nR dO k r2.2 e.Kind e.N e.Name e.Kids e.At r16 (r16.length:Int) 0 else
 if e.Kind=1 then
 (uk e.N 10).bind fun jB=>
 (bJ b jB).bind fun jC=>
 (ja e.Kind).bind fun lG=>
 nS dO k jC.2.2 e.Kind e.N e.Name e.Kids e.At lG (lG.length:Int) 0 else
 if e.Kind=3 then
 (gN b 36).bind fun rJ=>
 (ja e.Kind).bind fun oa=>
 nS dO k rJ.2 e.Kind e.N e.Name e.Kids e.At oa (oa.length:Int) 0 else
 if e.Kind=2 then
 (bJ b e.Name).bind fun uq=>
 (ja e.Kind).bind fun lH=>
 nS dO k uq.2.2 e.Kind e.N e.Name e.Kids e.At lH (lH.length:Int) 0 else
 if e.Kind=4 then
 if uQ.length+e.Name.length≤9223372036854775807 then
 if (uQ++e.Name).length+cD.length≤9223372036854775807 then
 (bJ b ((uQ++e.Name)++cD)).bind fun kC=>
 (ja e.Kind).bind fun v7=>
 nS dO k kC.2.2 e.Kind e.N e.Name e.Kids e.At v7 (v7.length:Int) 0 else none else none else
 if e.Kind=5 then
 (gN b 45).bind fun G0=>
 (ja e.Kind).bind fun v8=>
 nS dO k G0.2 e.Kind e.N e.Name e.Kids e.At v8 (v8.length:Int) 0 else
 if e.Kind=6 then
 (gN b 33).bind fun mT=>
 (ja e.Kind).bind fun v_=>
 nS dO k mT.2 e.Kind e.N e.Name e.Kids e.At v_ (v_.length:Int) 0 else
 (ja e.Kind).bind fun we=>
 nS dO k b e.Kind e.N e.Name e.Kids e.At we (we.length:Int) 0
def Be:Nat→(List UInt8)→ak→Int→Option (List UInt8)
 | 0,_,_,_=>none
 | k+1,x0,x1,x2=>KH (Be k) k x0 x1 x2
def E5  (b:List UInt8) (e:ak) (asked:Int):Option (List UInt8):=bu (fun k (x:List UInt8×ak×Int)=>Be k x.1 x.2.1 x.2.2) (b,e,asked)
theorem TR (dO:yy) (k:Nat) (Uu:av Tryz.prog S (yx dO)):av Tryz.prog S (yx (KH dO k)):=
 pn pk ⟨[E1 yt,EM,J9,vo,KC ja,EZ vu,yx dO],[],false,false,some (147,[.tmp 0, .const (.int .u8 41)]),[EM]⟩ ⟨KB,MT,MQ,vV,TG,KA,Uu,trivial⟩ (all_cons Xm all_nil) (all_nil) Tryz.func148 [] k (fun k=> [(0,⟨[0,4,55,56,57],[gU,um,GW,q1,q1],fun x=>nR dO k x.1 x.2.1.1 x.2.1.2.1 x.2.1.2.2.1 x.2.1.2.2.2.1 x.2.1.2.2.2.2 x.2.2.1 x.2.2.2.1 x.2.2.2.2,true⟩),(0,⟨[0,4,55,56,57],[gU,um,GW,q1,q1],fun x=>nS dO k x.1 x.2.1.1 x.2.1.2.1 x.2.1.2.2.1 x.2.1.2.2.2.1 x.2.1.2.2.2.2 x.2.2.1 x.2.2.2.1 x.2.2.2.2,false⟩)]) ⟨fun _=>rfl,fun _=>rfl,trivial⟩ (fun _=>by kernel_rfl) (fun _=>by kernel_rfl) (by kernel_rfl)
theorem TQ:av Tryz.prog S (yx (E5)):=iO (fun k x=>Be k x.1 x.2.1 x.2.2) (fun _=>rfl) Tryz.func148 (by kernel_rfl) (fun _=>rfl) fun k h=>TR (Be k) k h
abbrev TC:=ak→Option (List UInt8)
abbrev EW (f:TC):Entry S:=⟨125,[jA],[q0],fun x=>f x⟩
def yq  (e:ak):Option (List UInt8):=(E5 [] (ak.mk e.Kind e.N e.Name e.Kids e.At) 1).bind fun r1=>
 (xU r1).bind fun r2=>
 some r2.1
theorem Kx:av Tryz.prog S (EW (yq)):=
 aZ pk [yx E5,EO] ⟨TQ,GJ,trivial⟩ Tryz.func125 (by kernel_rfl) (fun _=>by kernel_rfl) (by kernel_rfl)
abbrev qH:=(List UInt8)→(List aj)→Int→Option (List UInt8)
abbrev u7 (f:qH):Entry S:=⟨124,[gU,kA,q1],[],fun x=>f x.1 x.2.1 x.2.2⟩
abbrev QY:=(List UInt8)→aj→Int→Option (List UInt8)
abbrev I0 (f:QY):Entry S:=⟨146,[gU,n9,q1],[],fun x=>f x.1 x.2.1 x.2.2⟩
def DY (ew:qH):Nat→(List UInt8)→Int→Int→(List UInt8)→(List UInt8)→(List ak)→Int→(List aj)→(List aj)→Int→(List UInt8)→(List ak)→Int→Int→Option (List UInt8)
 | 0,_,_,_,_,_,_,_,_,_,_,_,_,_,_=>none
 | k+1,b,bT,gL,cC,gK,Ay,sX,sY,sW,xM,x,uT,PK,qz=>if qz<PK then
  if 0≤qz then
  if qz<(uT.length:Int) then
  (yq (ak.mk ((uT.getD qz.toNat ak.z).Kind) ((uT.getD qz.toNat ak.z).N) ((uT.getD qz.toNat ak.z).Name) ((uT.getD qz.toNat ak.z).Kids) ((uT.getD qz.toNat ak.z).At))).bind fun r1=>
  DY ew k b bT gL cC gK Ay sX sY sW xM r1 uT PK (an (qz+1)) else none else none else
  if 0<(Ay.length:Int) then
  if cQ.length+x.length≤9223372036854775807 then
  if (cQ++x).length+cD.length≤9223372036854775807 then
  if gL=1 then
  if cC.length+lY.length≤9223372036854775807 then
  if (cC++lY).length+x.length≤9223372036854775807 then
  if ((cC++lY)++x).length+bw.length≤9223372036854775807 then
  (bJ b (((cC++lY)++x)++bw)).bind fun r2=>
  some r2.2.2 else none else none else none else
  if gL=2 then
  if sy.length+gK.length≤9223372036854775807 then
  if (sy++gK).length+((cQ++x)++cD).length≤9223372036854775807 then
  if ((sy++gK)++((cQ++x)++cD)).length+bw.length≤9223372036854775807 then
  (bJ b (((sy++gK)++((cQ++x)++cD))++bw)).bind fun r3=>
  some r3.2.2 else none else none else none else
  if gL=3 then
  if lX.length+cC.length≤9223372036854775807 then
  if (lX++cC).length+cH.length≤9223372036854775807 then
  if ((lX++cC)++cH).length+gK.length≤9223372036854775807 then
  if (((lX++cC)++cH)++gK).length+((cQ++x)++cD).length≤9223372036854775807 then
  if ((((lX++cC)++cH)++gK)++((cQ++x)++cD)).length+bw.length≤9223372036854775807 then
  (bJ b (((((lX++cC)++cH)++gK)++((cQ++x)++cD))++bw)).bind fun r4=>
  some r4.2.2 else none else none else none else none else none else
  if gL=4 then
  if sr.length+cC.length≤9223372036854775807 then
  if (sr++cC).length+((cQ++x)++cD).length≤9223372036854775807 then
  if ((sr++cC)++((cQ++x)++cD)).length+bw.length≤9223372036854775807 then
  (bJ b (((sr++cC)++((cQ++x)++cD))++bw)).bind fun r5=>
  some r5.2.2 else none else none else none else
  if gL=5 then
  if w6.length+cC.length≤9223372036854775807 then
  if (w6++cC).length+bw.length≤9223372036854775807 then
  (bJ b ((w6++cC)++bw)).bind fun r6=>
  some r6.2.2 else none else none else
  if gL=6 then
  if w7.length+((cQ++x)++cD).length≤9223372036854775807 then
  if (w7++((cQ++x)++cD)).length+cH.length≤9223372036854775807 then
  (bJ b ((w7++((cQ++x)++cD))++cH)).bind fun r7=>
  (ew r7.2.2 sY bT).bind fun r8=>
  if 0<(sW.length:Int) then
  (bJ r8 OC).bind fun r9=>
  (ew r9.2.2 sW bT).bind fun aT=>
  some aT else
  some r8 else none else none else
  if gL=7 then
  (lC sX).bind fun bC=>
  if w8.length+bC.length≤9223372036854775807 then
  if (w8++bC).length+cH.length≤9223372036854775807 then
  (bJ b ((w8++bC)++cH)).bind fun bp=>
  (ew bp.2.2 sY bT).bind fun bL=>
  some bL else none else none else
  some b else none else none else
  if gL=1 then
  if cC.length+lY.length≤9223372036854775807 then
  if (cC++lY).length+x.length≤9223372036854775807 then
  if ((cC++lY)++x).length+bw.length≤9223372036854775807 then
  (bJ b (((cC++lY)++x)++bw)).bind fun bE=>
  some bE.2.2 else none else none else none else
  if gL=2 then
  if sy.length+gK.length≤9223372036854775807 then
  if (sy++gK).length+([]:List UInt8).length≤9223372036854775807 then
  if ((sy++gK)++ []).length+bw.length≤9223372036854775807 then
  (bJ b (((sy++gK)++ [])++bw)).bind fun ep=>
  some ep.2.2 else none else none else none else
  if gL=3 then
  if lX.length+cC.length≤9223372036854775807 then
  if (lX++cC).length+cH.length≤9223372036854775807 then
  if ((lX++cC)++cH).length+gK.length≤9223372036854775807 then
  if (((lX++cC)++cH)++gK).length+([]:List UInt8).length≤9223372036854775807 then
  if ((((lX++cC)++cH)++gK)++ []).length+bw.length≤9223372036854775807 then
  (bJ b (((((lX++cC)++cH)++gK)++ [])++bw)).bind fun r16=>
  some r16.2.2 else none else none else none else none else none else
  if gL=4 then
  if sr.length+cC.length≤9223372036854775807 then
  if (sr++cC).length+([]:List UInt8).length≤9223372036854775807 then
  if ((sr++cC)++ []).length+bw.length≤9223372036854775807 then
  (bJ b (((sr++cC)++ [])++bw)).bind fun jB=>
  some jB.2.2 else none else none else none else
  if gL=5 then
  if w6.length+cC.length≤9223372036854775807 then
  if (w6++cC).length+bw.length≤9223372036854775807 then
  (bJ b ((w6++cC)++bw)).bind fun jC=>
  some jC.2.2 else none else none else
  if gL=6 then
  if w7.length+([]:List UInt8).length≤9223372036854775807 then
  if (w7++ []).length+cH.length≤9223372036854775807 then
  (bJ b ((w7++ [])++cH)).bind fun lG=>
  (ew lG.2.2 sY bT).bind fun rJ=>
  if 0<(sW.length:Int) then
  (bJ rJ OC).bind fun oa=>
  (ew oa.2.2 sW bT).bind fun uq=>
  some uq else
  some rJ else none else none else
  if gL=7 then
  (lC sX).bind fun lH=>
  if w8.length+lH.length≤9223372036854775807 then
  if (w8++lH).length+cH.length≤9223372036854775807 then
  (bJ b ((w8++lH)++cH)).bind fun kC=>
  (ew kC.2.2 sY bT).bind fun v7=>
  some v7 else none else none else
  some b
def IZ (ew:qH) (k:Nat) (b:List UInt8) (a:aj) (bT:Int):Option (List UInt8):=DY ew k b bT a.Kind a.Name a.Event a.X a.N a.eU a.eB a.At [] a.X (a.X.length:Int) 0
def DX (ew:qH)  (b:List UInt8) (a:aj) (bT:Int):Option (List UInt8):=bu (fun k (x:List UInt8×aj×Int)=>IZ ew k x.1 x.2.1 x.2.2) (b,a,bT)
theorem QX (ew:qH) (Fq:av Tryz.prog S (u7 ew)):av Tryz.prog S (I0 (DX ew)):=dF (fun k x=>IZ ew k x.1 x.2.1 x.2.2) (fun _=>rfl) fun k=>
 cu pk [EW yq,vo,u7 ew,J8] ⟨Kx,vV,Fq,MS,trivial⟩ Tryz.func146 [] k (fun k=> [(0,⟨[0,2,4,6,11,12,13],[gU,q1,MZ,q0,jj,q1,q1],fun x=>DY ew k x.1 x.2.1 x.2.2.1.1 x.2.2.1.2.1 x.2.2.1.2.2.1 x.2.2.1.2.2.2.1 x.2.2.1.2.2.2.2.1 x.2.2.1.2.2.2.2.2.1 x.2.2.1.2.2.2.2.2.2.1 x.2.2.1.2.2.2.2.2.2.2 x.2.2.2.1 x.2.2.2.2.1 x.2.2.2.2.2.1 x.2.2.2.2.2.2,false⟩)]) ⟨fun _=>rfl,trivial⟩ (fun _=>by kernel_rfl) (fun _=>by kernel_rfl) (by kernel_rfl)
def DV (ew:qH):Nat→(List UInt8)→Int→(List aj)→Int→Int→Option (List UInt8)
 | 0,_,_,_,_,_=>none
 | k+1,b,bT,b6,iR,a_=>if a_<iR then
  if 0≤a_ then
  if a_<(b6.length:Int) then
  (lD gh (an (bT+1))).bind fun r3=>
  (bJ b r3).bind fun r4=>
  (DX ew r4.2.2 (aj.mk ((b6.getD a_.toNat aj.z).Kind) ((b6.getD a_.toNat aj.z).Name) ((b6.getD a_.toNat aj.z).Event) ((b6.getD a_.toNat aj.z).X) ((b6.getD a_.toNat aj.z).N) ((b6.getD a_.toNat aj.z).eU) ((b6.getD a_.toNat aj.z).eB) ((b6.getD a_.toNat aj.z).At)) (an (bT+1))).bind fun r5=>
  (gN r5 10).bind fun r6=>
  DV ew k r6.2 bT b6 iR (an (a_+1)) else none else none else
  (lD gh bT).bind fun r7=>
  if r7.length+gG.length≤9223372036854775807 then
  (bJ b (r7++gG)).bind fun r8=>
  some r8.2.2 else none
def IY (ew:qH) (k:Nat) (b:List UInt8) (l:List aj) (bT:Int):Option (List UInt8):=if (l.length:Int)=0 then
 (bJ b aaz).bind fun r1=>
 some r1.2.2 else
 (bJ b aay).bind fun r2=>
 DV ew k r2.2.2 bT l (l.length:Int) 0
def AA:Nat→(List UInt8)→(List aj)→Int→Option (List UInt8)
 | 0,_,_,_=>none
 | k+1,x0,x1,x2=>IY (AA k) k x0 x1 x2
def DU  (b:List UInt8) (l:List aj) (bT:Int):Option (List UInt8):=bu (fun k (x:List UInt8×List aj×Int)=>AA k x.1 x.2.1 x.2.2) (b,l,bT)
theorem QW (ew:qH) (k:Nat) (Fq:av Tryz.prog S (u7 ew)):av Tryz.prog S (u7 (IY ew k)):=
 cu pk [vo,EP,I0 (DX ew),EM] ⟨vV,GI,QX ew Fq,MT,trivial⟩ Tryz.func124 [] k (fun k=> [(0,⟨[0,2,15,16,17],[gU,q1,kA,q1,q1],fun x=>DV ew k x.1 x.2.1 x.2.2.1 x.2.2.2.1 x.2.2.2.2,false⟩)]) ⟨fun _=>rfl,trivial⟩ (fun _=>by kernel_rfl) (fun _=>by kernel_rfl) (by kernel_rfl)
theorem QV:av Tryz.prog S (u7 (DU)):=iO (fun k x=>AA k x.1 x.2.1 x.2.2) (fun _=>rfl) Tryz.func124 (by kernel_rfl) (fun _=>rfl) fun k h=>QW (AA k) k h
abbrev QJ:=(List aj)→Int→Option (List UInt8)
abbrev DT (f:QJ):Entry S:=⟨86,[kA,q1],[q0],fun x=>f x.1 x.2⟩
def qG  (l:List aj) (bT:Int):Option (List UInt8):=(DU [] l (max bT 0)).bind fun r1=>(xU r1).bind fun r2=>some r2.1
theorem IW:av Tryz.prog S (DT (qG)):=
 aZ pk [u7 DU,EO] ⟨QV,GJ,trivial⟩ Tryz.func86 (by kernel_rfl) (fun _=>by kernel_rfl) (by kernel_rfl)
abbrev SW:=(List UInt8)→aK→Int→Option (List UInt8)
abbrev JM (f:SW):Entry S:=⟨87,[gU,zx,q1],[],fun x=>f x.1 x.2.1 x.2.2⟩
def yf:Nat→(List UInt8)→Int→(List UInt8)→(List ak)→(List UInt8)→(List aj)→Int→(List ak)→Int→Int→Option (List UInt8)
 | 0,_,_,_,_,_,_,_,_,_,_=>none
 | k+1,b,bT,gX,iP,gJ,gi,dQ,uU,PL,qA=>if qA<PL then
  if 0≤qA then
  if qA<(uU.length:Int) then
  (yq (ak.mk ((uU.getD qA.toNat ak.z).Kind) ((uU.getD qA.toNat ak.z).N) ((uU.getD qA.toNat ak.z).Name) ((uU.getD qA.toNat ak.z).Kids) ((uU.getD qA.toNat ak.z).At))).bind fun r5=>
  if HV.length+r5.length≤9223372036854775807 then
  if (HV++r5).length+lV.length≤9223372036854775807 then
  (bJ b ((HV++r5)++lV)).bind fun r6=>
  yf k r6.2.2 bT gX iP gJ gi dQ uU PL (an (qA+1)) else none else none else none else none else
  if gJ≠ [] then
  if OF.length+gJ.length≤9223372036854775807 then
  (bJ b (OF++gJ)).bind fun r7=>
  if (gi.length:Int)=0 then
  (bJ r7.2.2 oE).bind fun r8=>
  some r8.2.2 else
  (qG gi bT).bind fun r9=>
  if cH.length+r9.length≤9223372036854775807 then
  if (cH++r9).length+oD.length≤9223372036854775807 then
  (bJ r7.2.2 ((cH++r9)++oD)).bind fun aT=>
  some aT.2.2 else none else none else none else
  if (gi.length:Int)=0 then
  (bJ b oE).bind fun bC=>
  some bC.2.2 else
  (qG gi bT).bind fun bp=>
  if cH.length+bp.length≤9223372036854775807 then
  if (cH++bp).length+oD.length≤9223372036854775807 then
  (bJ b ((cH++bp)++oD)).bind fun bL=>
  some bL.2.2 else none else none
def A1 (k:Nat) (b:List UInt8) (t:aK) (bT:Int):Option (List UInt8):=(lD gh bT).bind fun r1=>
 (bJ b r1).bind fun r2=>
 if t.Event= [] then
 (bJ r2.2.2 gW).bind fun r3=>
 yf k r3.2.2 bT t.Event t.Guard t.Target t.oO t.At t.Guard (t.Guard.length:Int) 0 else
 if OD.length+t.Event.length≤9223372036854775807 then
 (bJ r2.2.2 (OD++t.Event)).bind fun r4=>
 yf k r4.2.2 bT t.Event t.Guard t.Target t.oO t.At t.Guard (t.Guard.length:Int) 0 else none
def A0  (b:List UInt8) (t:aK) (bT:Int):Option (List UInt8):=bu (fun k (x:List UInt8×aK×Int)=>A1 k x.1 x.2.1 x.2.2) (b,t,bT)
theorem SV:av Tryz.prog S (JM (A0)):=dF (fun k x=>A1 k x.1 x.2.1 x.2.2) (fun _=>rfl) fun k=>
 cu pk [EP,vo,EW yq,DT qG] ⟨GI,vV,Kx,IW,trivial⟩ Tryz.func87 [] k (fun k=> [(0,⟨[0,2,4,23,24,25],[gU,q1,XF,jj,q1,q1],fun x=>yf k x.1 x.2.1 x.2.2.1.1 x.2.2.1.2.1 x.2.2.1.2.2.1 x.2.2.1.2.2.2.1 x.2.2.1.2.2.2.2 x.2.2.2.1 x.2.2.2.2.1 x.2.2.2.2.2,false⟩)]) ⟨fun _=>rfl,trivial⟩ (fun _=>by kernel_rfl) (fun _=>by kernel_rfl) (by kernel_rfl)
abbrev yc:=(List UInt8)→ax→Int→Option (List UInt8)
abbrev x_ (f:yc):Entry S:=⟨41,[gU,zz,q1],[],fun x=>f x.1 x.2.1 x.2.2⟩
def AX (jo:yc):Nat→(List UInt8)→Int→(List UInt8)→(List ax)→Int→Int→Option (List UInt8)
 | 0,_,_,_,_,_,_=>none
 | k+1,b,bT,vh,qy,PJ,nr=>if nr<PJ then
  if 0≤nr then
  if nr<(qy.length:Int) then
  (jo b (ax.mk ((qy.getD nr.toNat ax.z).Kind) ((qy.getD nr.toNat ax.z).Name) ((qy.getD nr.toNat ax.z).Entry) ((qy.getD nr.toNat ax.z).Exit) ((qy.getD nr.toNat ax.z).Trans) ((qy.getD nr.toNat ax.z).Kids) ((qy.getD nr.toNat ax.z).At)) (an (bT+1))).bind fun ep=>
  AX jo k ep bT vh qy PJ (an (nr+1)) else none else none else
  if vh.length+HT.length≤9223372036854775807 then
  (bJ b (vh++HT)).bind fun r16=>
  some r16.2.2 else none
def qT (jo:yc):Nat→(List UInt8)→Int→Int→(List UInt8)→(List aj)→(List aj)→(List aK)→(List ax)→Int→(List UInt8)→(List aK)→Int→Int→Option (List UInt8)
 | 0,_,_,_,_,_,_,_,_,_,_,_,_,_=>none
 | k+1,b,bT,eR,fu,eX,fq,eu,eP,eO,vh,Ix,P0,Aq=>if Aq<P0 then
  if 0≤Aq then
  if Aq<(Ix.length:Int) then
  (A0 b (Ix.getD Aq.toNat aK.z) (an (bT+1))).bind fun bE=>
  qT jo k bE bT eR fu eX fq eu eP eO vh Ix P0 (an (Aq+1)) else none else none else
  AX jo k b bT vh eP (eP.length:Int) 0
def AW (jo:yc) (k:Nat) (b:List UInt8) (s:ax) (bT:Int):Option (List UInt8):=(lD gh bT).bind fun r1=>
 (A2 s.Kind).bind fun r2=>
 if r1.length+r2.length≤9223372036854775807 then
 if (r1++r2).length+s.Name.length≤9223372036854775807 then
 (bJ b ((r1++r2)++s.Name)).bind fun r3=>
 if s.Kind=3 then
 (bJ r3.2.2 oE).bind fun r4=>
 some r4.2.2 else
 if s.Kind=4 then
 (bJ r3.2.2 oE).bind fun r5=>
 some r5.2.2 else
 if (an ((an ((an ((s.Entry.length:Int)+(s.Exit.length:Int)))+(s.Trans.length:Int)))+(s.Kids.length:Int)))=0 then
 (bJ r3.2.2 aaB).bind fun r6=>
 some r6.2.2 else
 (bJ r3.2.2 HU).bind fun r7=>
 if 0<(s.Entry.length:Int) then
 if r1.length+gh.length≤9223372036854775807 then
 if (r1++gh).length+CZ.length≤9223372036854775807 then
 (qG s.Entry (an (bT+1))).bind fun r8=>
 if ((r1++gh)++CZ).length+r8.length≤9223372036854775807 then
 if (((r1++gh)++CZ)++r8).length+oD.length≤9223372036854775807 then
 (bJ r7.2.2 ((((r1++gh)++CZ)++r8)++oD)).bind fun r9=>
 if 0<(s.Exit.length:Int) then
 if r1.length+gh.length≤9223372036854775807 then
 if (r1++gh).length+sx.length≤9223372036854775807 then
 (qG s.Exit (an (bT+1))).bind fun aT=>
 if ((r1++gh)++sx).length+aT.length≤9223372036854775807 then
 if (((r1++gh)++sx)++aT).length+oD.length≤9223372036854775807 then
 (bJ r9.2.2 ((((r1++gh)++sx)++aT)++oD)).bind fun bC=>
 qT jo k bC.2.2 bT s.Kind s.Name s.Entry s.Exit s.Trans s.Kids s.At r1 s.Trans (s.Trans.length:Int) 0 else none else none else none else none else
 qT jo k r9.2.2 bT s.Kind s.Name s.Entry s.Exit s.Trans s.Kids s.At r1 s.Trans (s.Trans.length:Int) 0 else none else none else none else none else
 if 0<(s.Exit.length:Int) then
 if r1.length+gh.length≤9223372036854775807 then
 if (r1++gh).length+sx.length≤9223372036854775807 then
 (qG s.Exit (an (bT+1))).bind fun bp=>
 if ((r1++gh)++sx).length+bp.length≤9223372036854775807 then
 if (((r1++gh)++sx)++bp).length+oD.length≤9223372036854775807 then
 (bJ r7.2.2 ((((r1++gh)++sx)++bp)++oD)).bind fun bL=>
 qT jo k bL.2.2 bT s.Kind s.Name s.Entry s.Exit s.Trans s.Kids s.At r1 s.Trans (s.Trans.length:Int) 0 else none else none else none else none else
 qT jo k r7.2.2 bT s.Kind s.Name s.Entry s.Exit s.Trans s.Kids s.At r1 s.Trans (s.Trans.length:Int) 0 else none else none
def x7:Nat→(List UInt8)→ax→Int→Option (List UInt8)
 | 0,_,_,_=>none
 | k+1,x0,x1,x2=>AW (x7 k) k x0 x1 x2
def AV  (b:List UInt8) (s:ax) (bT:Int):Option (List UInt8):=bu (fun k (x:List UInt8×ax×Int)=>x7 k x.1 x.2.1 x.2.2) (b,s,bT)
theorem SO (jo:yc) (k:Nat) (Ur:av Tryz.prog S (x_ jo)):av Tryz.prog S (x_ (AW jo k)):=
 cu pk [EP,JN A2,vo,DT qG,JM A0,x_ jo] ⟨GI,SX,vV,IW,SV,Ur,trivial⟩ Tryz.func41 [] k (fun k=> [(0,⟨[0,2,4,6,88,89,90],[gU,q1,XG,q0,pQ,q1,q1],fun x=>qT jo k x.1 x.2.1 x.2.2.1.1 x.2.2.1.2.1 x.2.2.1.2.2.1 x.2.2.1.2.2.2.1 x.2.2.1.2.2.2.2.1 x.2.2.1.2.2.2.2.2.1 x.2.2.1.2.2.2.2.2.2 x.2.2.2.1 x.2.2.2.2.1 x.2.2.2.2.2.1 x.2.2.2.2.2.2,false⟩),(2,⟨[0,2,6,101,102,103],[gU,q1,q0,lE,q1,q1],fun x=>AX jo k x.1 x.2.1 x.2.2.1 x.2.2.2.1 x.2.2.2.2.1 x.2.2.2.2.2,false⟩)]) ⟨fun _=>rfl,fun _=>rfl,trivial⟩ (fun _=>by kernel_rfl) (fun _=>by kernel_rfl) (by kernel_rfl)
theorem SN:av Tryz.prog S (x_ (AV)):=iO (fun k x=>x7 k x.1 x.2.1 x.2.2) (fun _=>rfl) Tryz.func41 (by kernel_rfl) (fun _=>rfl) fun k h=>SO (x7 k) k h
abbrev Sh:=b7→Option (List UInt8)
abbrev JB (f:Sh):Entry S:=⟨19,[pP],[q0],fun x=>f x⟩
def xY:Nat→(List UInt8)→(List ax)→Int→Int→Option (List UInt8)
 | 0,_,_,_,_=>none
 | k+1,b,qB,PZ,nw=>if nw<PZ then
  if 0≤nw then
  if nw<(qB.length:Int) then
  (AV b (ax.mk ((qB.getD nw.toNat ax.z).Kind) ((qB.getD nw.toNat ax.z).Name) ((qB.getD nw.toNat ax.z).Entry) ((qB.getD nw.toNat ax.z).Exit) ((qB.getD nw.toNat ax.z).Trans) ((qB.getD nw.toNat ax.z).Kids) ((qB.getD nw.toNat ax.z).At)) 1).bind fun r8=>
  xY k r8 qB PZ (an (nw+1)) else none else none else
  (bJ b HT).bind fun r9=>
  (xU r9.2.2).bind fun aT=>
  some aT.1
def AU:Nat→(List UInt8)→Int→Int→(List aJ)→(List aJ)→(List aJ)→(List ax)→Int→(List UInt8)→(List aJ)→Int→Int→Option (List UInt8)
 | 0,_,_,_,_,_,_,_,_,_,_,_,_=>none
 | k+1,mw,mz,mu,kg,kX,kZ,kY,mq,b,Ap,PY,uX=>if uX<PY then
  if 0≤uX then
  if uX<(Ap.length:Int) then
  if HW.length+((Ap.getD uX.toNat aJ.z).Name).length≤9223372036854775807 then
  if (HW++((Ap.getD uX.toNat aJ.z).Name)).length+oE.length≤9223372036854775807 then
  (bJ b ((HW++((Ap.getD uX.toNat aJ.z).Name))++oE)).bind fun r7=>
  AU k mw mz mu kg kX kZ kY mq r7.2.2 Ap PY (an (uX+1)) else none else none else none else none else
  xY k b kY (kY.length:Int) 0
def AT:Nat→(List UInt8)→Int→Int→(List aJ)→(List aJ)→(List aJ)→(List ax)→Int→(List UInt8)→(List aJ)→Int→Int→Option (List UInt8)
 | 0,_,_,_,_,_,_,_,_,_,_,_,_=>none
 | k+1,mw,mz,mu,kg,kX,kZ,kY,mq,b,Ao,PX,uV=>if uV<PX then
  if 0≤uV then
  if uV<(Ao.length:Int) then
  if HS.length+((Ao.getD uV.toNat aJ.z).Name).length≤9223372036854775807 then
  if (HS++((Ao.getD uV.toNat aJ.z).Name)).length+oE.length≤9223372036854775807 then
  (bJ b ((HS++((Ao.getD uV.toNat aJ.z).Name))++oE)).bind fun r6=>
  AT k mw mz mu kg kX kZ kY mq r6.2.2 Ao PX (an (uV+1)) else none else none else none else none else
  AU k mw mz mu kg kX kZ kY mq b kZ (kZ.length:Int) 0
def AS:Nat→(List UInt8)→Int→Int→(List aJ)→(List aJ)→(List aJ)→(List ax)→Int→(List UInt8)→(List aJ)→Int→Int→Option (List UInt8)
 | 0,_,_,_,_,_,_,_,_,_,_,_,_=>none
 | k+1,mw,mz,mu,kg,kX,kZ,kY,mq,b,sJ,PM,oN=>if oN<PM then
  if 0≤oN then
  if oN<(sJ.length:Int) then
  if z_.length+((sJ.getD oN.toNat aJ.z).Name).length≤9223372036854775807 then
  if (z_++((sJ.getD oN.toNat aJ.z).Name)).length+lY.length≤9223372036854775807 then
  (uk ((sJ.getD oN.toNat aJ.z).N) 10).bind fun r4=>
  if ((z_++((sJ.getD oN.toNat aJ.z).Name))++lY).length+r4.length≤9223372036854775807 then
  if (((z_++((sJ.getD oN.toNat aJ.z).Name))++lY)++r4).length+oE.length≤9223372036854775807 then
  (bJ b ((((z_++((sJ.getD oN.toNat aJ.z).Name))++lY)++r4)++oE)).bind fun r5=>
  AS k mw mz mu kg kX kZ kY mq r5.2.2 sJ PM (an (oN+1)) else none else none else none else none else none else none else
  AT k mw mz mu kg kX kZ kY mq b kX (kX.length:Int) 0
def AR (k:Nat) (c:b7):Option (List UInt8):=if uP.length+c.Name.length≤9223372036854775807 then
 if (uP++c.Name).length+w9.length≤9223372036854775807 then
 (lC c.Steps).bind fun r1=>
 if ((uP++c.Name)++w9).length+r1.length≤9223372036854775807 then
 if (((uP++c.Name)++w9)++r1).length+C2.length≤9223372036854775807 then
 (lC c.Fuel).bind fun r2=>
 if ((((uP++c.Name)++w9)++r1)++C2).length+r2.length≤9223372036854775807 then
 if (((((uP++c.Name)++w9)++r1)++C2)++r2).length+HU.length≤9223372036854775807 then
 (bJ [] ((((((uP++c.Name)++w9)++r1)++C2)++r2)++HU)).bind fun r3=>
 AS k c.Name c.Steps c.Fuel c.Vars c.sP c.sS c.mh c.At r3.2.2 c.Vars (c.Vars.length:Int) 0 else none else none else none else none else none else none
def AQ  (c:b7):Option (List UInt8):=bu (fun k (x:b7)=>AR k x) c
theorem Sf:av Tryz.prog S (JB (AQ)):=dF (fun k x=>AR k x) (fun _=>rfl) fun k=>
 cu pk [J8,vo,J9,x_ AV,EO] ⟨MS,vV,MQ,SN,GJ,trivial⟩ Tryz.func19 [] k (fun k=> [(0,⟨[1,3,28,29,30],[GX,gU,kB,q1,q1],fun x=>AS k x.1.1 x.1.2.1 x.1.2.2.1 x.1.2.2.2.1 x.1.2.2.2.2.1 x.1.2.2.2.2.2.1 x.1.2.2.2.2.2.2.1 x.1.2.2.2.2.2.2.2 x.2.1 x.2.2.1 x.2.2.2.1 x.2.2.2.2,false⟩),(2,⟨[1,3,46,47,48],[GX,gU,kB,q1,q1],fun x=>AT k x.1.1 x.1.2.1 x.1.2.2.1 x.1.2.2.2.1 x.1.2.2.2.2.1 x.1.2.2.2.2.2.1 x.1.2.2.2.2.2.2.1 x.1.2.2.2.2.2.2.2 x.2.1 x.2.2.1 x.2.2.2.1 x.2.2.2.2,false⟩),(4,⟨[1,3,59,60,61],[GX,gU,kB,q1,q1],fun x=>AU k x.1.1 x.1.2.1 x.1.2.2.1 x.1.2.2.2.1 x.1.2.2.2.2.1 x.1.2.2.2.2.2.1 x.1.2.2.2.2.2.2.1 x.1.2.2.2.2.2.2.2 x.2.1 x.2.2.1 x.2.2.2.1 x.2.2.2.2,false⟩),(6,⟨[3,72,73,74],[gU,lE,q1,q1],fun x=>xY k x.1 x.2.1 x.2.2.1 x.2.2.2,false⟩)]) ⟨fun _=>rfl,fun _=>rfl,fun _=>rfl,fun _=>rfl,trivial⟩ (fun _=>by kernel_rfl) (fun _=>by kernel_rfl) (by kernel_rfl)
abbrev V9:=Option Bool
abbrev Mg (f:V9):Entry S:=⟨8,[],[q3],fun x=>f⟩
def uf:Option Bool:=(ry HQ).bind fun r1=>
 (ry HP).bind fun r2=>
 bif r1.2.2 then
 bif !r2.2.2 then
 if r2.2.1.Code=11 then
 if r2.2.1.At=43 then
 (AQ r1.1).bind fun r3=>
 some (decide (r3=OB)) else
 some false else
 some false else
 some false else
 some false
theorem V8:av Tryz.prog S (Mg (uf)):=
 aZ pk [Mh ry,JB AQ] ⟨V_,Sf,trivial⟩ Tryz.func8 (by kernel_rfl) (fun _=>by kernel_rfl) (by kernel_rfl)
abbrev YD:=Int→Int→Option Int
abbrev Nw (f:YD):Entry S:=⟨13,[q1,q1],[q1],fun x=>f x.1 x.2⟩
def zK  (v:Int) (n:Int):Option Int:=if ¬ n=0 then
 if (v.tmod n)<0 then
 some (an ((v.tmod n)+n)) else
 some (v.tmod n) else none
theorem YC:av Tryz.prog S (Nw (zK)):=
 aZ pk [] trivial Tryz.func13 (by kernel_rfl) (fun _=>by kernel_rfl) (by kernel_rfl)
abbrev ZM:=aB→Option (Bool×aB)
abbrev sj (f:ZM):Entry S:=⟨33,[lF],[q3],fun x=>f x⟩
def dh  (r_:aB):Option (Bool×aB):=some (decide (r_.bad.Code=0),r_)
theorem uE:av Tryz.prog S (sj (dh)):=
 aZ pk [] trivial Tryz.func33 (by kernel_rfl) (fun _=>by kernel_rfl) (by kernel_rfl)
abbrev YH:=(List ai)→Int→(List UInt8)→Option Bool
abbrev pW (f:YH):Entry S:=⟨66,[gv,q1,q0],[q3],fun x=>f x.1 x.2.1 x.2.2⟩
def dB  (l:List ai) (ah:Int) (s:List UInt8):Option Bool:=if ah<(l.length:Int) then
 if 0≤ah then
 if ah<(l.length:Int) then
 if ((l.getD ah.toNat ai.z).Kind)=3 then
 if 0≤ah then
 if ah<(l.length:Int) then
 some (decide (((l.getD ah.toNat ai.z).Text)=s)) else none else none else
 if 0≤ah then
 if ah<(l.length:Int) then
 if ((l.getD ah.toNat ai.z).Kind)=1 then
 if 0≤ah then
 if ah<(l.length:Int) then
 some (decide (((l.getD ah.toNat ai.z).Text)=s)) else none else none else
 some false else none else none else none else none else
 some false
theorem rP:av Tryz.prog S (pW (dB)):=
 aZ pk [] trivial Tryz.func66 (by kernel_rfl) (fun _=>by kernel_rfl) (by kernel_rfl)
abbrev YG:=(List ai)→Int→Option aF
abbrev pV (f:YG):Entry S:=⟨67,[gv,q1],[q8],fun x=>f x.1 x.2⟩
def fG  (l:List ai) (ah:Int):Option aF:=if 0≤ah then
 if ah<(l.length:Int) then
 if ((l.getD ah.toNat ai.z).Kind)=4 then
 if 0≤ah then
 if ah<(l.length:Int) then
 some (aF.mk 12 ((l.getD ah.toNat ai.z).At)) else none else none else
 if 0≤ah then
 if ah<(l.length:Int) then
 some (aF.mk 11 ((l.getD ah.toNat ai.z).At)) else none else none else none else none
theorem rO:av Tryz.prog S (pV (fG)):=
 aZ pk [] trivial Tryz.func67 (by kernel_rfl) (fun _=>by kernel_rfl) (by kernel_rfl)
abbrev ZT:=aB→(List UInt8)→Option aB
abbrev uH (f:ZT):Entry S:=⟨28,[lF,q0],[],fun x=>f x.1 x.2⟩
def bV  (r_:aB) (s:List UInt8):Option aB:=(dh r_).bind fun r1=>
 bif r1.1 then
 (dB r1.2.l r1.2.ah s).bind fun r2=>
 bif !r2 then
 (fG r1.2.l r1.2.ah).bind fun r3=>
 (dh (aB.mk r1.2.l r1.2.ah r3)).bind fun r4=>
 bif r4.1 then
 some (aB.mk r4.2.l (an (r4.2.ah+1)) r4.2.bad) else
 some r4.2 else
 (dh r1.2).bind fun r5=>
 bif r5.1 then
 some (aB.mk r5.2.l (an (r5.2.ah+1)) r5.2.bad) else
 some r5.2 else
 (dh r1.2).bind fun r6=>
 bif r6.1 then
 some (aB.mk r6.2.l (an (r6.2.ah+1)) r6.2.bad) else
 some r6.2
theorem wV:av Tryz.prog S (uH (bV)):=
 aZ pk [sj dh,pW dB,pV fG] ⟨uE,rP,rO,trivial⟩ Tryz.func28 (by kernel_rfl) (fun _=>by kernel_rfl) (by kernel_rfl)
abbrev YK:=(List UInt8)→Option Bool
abbrev Nz (f:YK):Entry S:=⟨107,[q0],[q3],fun x=>f x⟩
def wu:Nat→(List UInt8)→(List UInt8×List UInt8×List UInt8×List UInt8×List UInt8×List UInt8×List UInt8×List UInt8×List UInt8×List UInt8×List UInt8×List UInt8×List UInt8×List UInt8×List UInt8×List UInt8×List UInt8×List UInt8×List UInt8×List UInt8×List UInt8×List UInt8×List UInt8×List UInt8×List UInt8×List UInt8×List UInt8×List UInt8×List UInt8×List UInt8×List UInt8×List UInt8×List UInt8×List UInt8×List UInt8)→Int→Option Bool
 | 0,_,_,_=>none
 | k+1,s,words,i=>if i<35 then
  if 0≤i then
  if i<([words.1,words.2.1,words.2.2.1,words.2.2.2.1,words.2.2.2.2.1,words.2.2.2.2.2.1,words.2.2.2.2.2.2.1,words.2.2.2.2.2.2.2.1,words.2.2.2.2.2.2.2.2.1,words.2.2.2.2.2.2.2.2.2.1,words.2.2.2.2.2.2.2.2.2.2.1,words.2.2.2.2.2.2.2.2.2.2.2.1,words.2.2.2.2.2.2.2.2.2.2.2.2.1,words.2.2.2.2.2.2.2.2.2.2.2.2.2.1,words.2.2.2.2.2.2.2.2.2.2.2.2.2.2.1,words.2.2.2.2.2.2.2.2.2.2.2.2.2.2.2.1,words.2.2.2.2.2.2.2.2.2.2.2.2.2.2.2.2.1,words.2.2.2.2.2.2.2.2.2.2.2.2.2.2.2.2.2.1,words.2.2.2.2.2.2.2.2.2.2.2.2.2.2.2.2.2.2.1,words.2.2.2.2.2.2.2.2.2.2.2.2.2.2.2.2.2.2.2.1,words.2.2.2.2.2.2.2.2.2.2.2.2.2.2.2.2.2.2.2.2.1,words.2.2.2.2.2.2.2.2.2.2.2.2.2.2.2.2.2.2.2.2.2.1,words.2.2.2.2.2.2.2.2.2.2.2.2.2.2.2.2.2.2.2.2.2.2.1,words.2.2.2.2.2.2.2.2.2.2.2.2.2.2.2.2.2.2.2.2.2.2.2.1,words.2.2.2.2.2.2.2.2.2.2.2.2.2.2.2.2.2.2.2.2.2.2.2.2.1,words.2.2.2.2.2.2.2.2.2.2.2.2.2.2.2.2.2.2.2.2.2.2.2.2.2.1,words.2.2.2.2.2.2.2.2.2.2.2.2.2.2.2.2.2.2.2.2.2.2.2.2.2.2.1,words.2.2.2.2.2.2.2.2.2.2.2.2.2.2.2.2.2.2.2.2.2.2.2.2.2.2.2.1,words.2.2.2.2.2.2.2.2.2.2.2.2.2.2.2.2.2.2.2.2.2.2.2.2.2.2.2.2.1,words.2.2.2.2.2.2.2.2.2.2.2.2.2.2.2.2.2.2.2.2.2.2.2.2.2.2.2.2.2.1,words.2.2.2.2.2.2.2.2.2.2.2.2.2.2.2.2.2.2.2.2.2.2.2.2.2.2.2.2.2.2.1,words.2.2.2.2.2.2.2.2.2.2.2.2.2.2.2.2.2.2.2.2.2.2.2.2.2.2.2.2.2.2.2.1,words.2.2.2.2.2.2.2.2.2.2.2.2.2.2.2.2.2.2.2.2.2.2.2.2.2.2.2.2.2.2.2.2.1,words.2.2.2.2.2.2.2.2.2.2.2.2.2.2.2.2.2.2.2.2.2.2.2.2.2.2.2.2.2.2.2.2.2.1,words.2.2.2.2.2.2.2.2.2.2.2.2.2.2.2.2.2.2.2.2.2.2.2.2.2.2.2.2.2.2.2.2.2.2].length:Int) then
  if ([words.1,words.2.1,words.2.2.1,words.2.2.2.1,words.2.2.2.2.1,words.2.2.2.2.2.1,words.2.2.2.2.2.2.1,words.2.2.2.2.2.2.2.1,words.2.2.2.2.2.2.2.2.1,words.2.2.2.2.2.2.2.2.2.1,words.2.2.2.2.2.2.2.2.2.2.1,words.2.2.2.2.2.2.2.2.2.2.2.1,words.2.2.2.2.2.2.2.2.2.2.2.2.1,words.2.2.2.2.2.2.2.2.2.2.2.2.2.1,words.2.2.2.2.2.2.2.2.2.2.2.2.2.2.1,words.2.2.2.2.2.2.2.2.2.2.2.2.2.2.2.1,words.2.2.2.2.2.2.2.2.2.2.2.2.2.2.2.2.1,words.2.2.2.2.2.2.2.2.2.2.2.2.2.2.2.2.2.1,words.2.2.2.2.2.2.2.2.2.2.2.2.2.2.2.2.2.2.1,words.2.2.2.2.2.2.2.2.2.2.2.2.2.2.2.2.2.2.2.1,words.2.2.2.2.2.2.2.2.2.2.2.2.2.2.2.2.2.2.2.2.1,words.2.2.2.2.2.2.2.2.2.2.2.2.2.2.2.2.2.2.2.2.2.1,words.2.2.2.2.2.2.2.2.2.2.2.2.2.2.2.2.2.2.2.2.2.2.1,words.2.2.2.2.2.2.2.2.2.2.2.2.2.2.2.2.2.2.2.2.2.2.2.1,words.2.2.2.2.2.2.2.2.2.2.2.2.2.2.2.2.2.2.2.2.2.2.2.2.1,words.2.2.2.2.2.2.2.2.2.2.2.2.2.2.2.2.2.2.2.2.2.2.2.2.2.1,words.2.2.2.2.2.2.2.2.2.2.2.2.2.2.2.2.2.2.2.2.2.2.2.2.2.2.1,words.2.2.2.2.2.2.2.2.2.2.2.2.2.2.2.2.2.2.2.2.2.2.2.2.2.2.2.1,words.2.2.2.2.2.2.2.2.2.2.2.2.2.2.2.2.2.2.2.2.2.2.2.2.2.2.2.2.1,words.2.2.2.2.2.2.2.2.2.2.2.2.2.2.2.2.2.2.2.2.2.2.2.2.2.2.2.2.2.1,words.2.2.2.2.2.2.2.2.2.2.2.2.2.2.2.2.2.2.2.2.2.2.2.2.2.2.2.2.2.2.1,words.2.2.2.2.2.2.2.2.2.2.2.2.2.2.2.2.2.2.2.2.2.2.2.2.2.2.2.2.2.2.2.1,words.2.2.2.2.2.2.2.2.2.2.2.2.2.2.2.2.2.2.2.2.2.2.2.2.2.2.2.2.2.2.2.2.1,words.2.2.2.2.2.2.2.2.2.2.2.2.2.2.2.2.2.2.2.2.2.2.2.2.2.2.2.2.2.2.2.2.2.1,words.2.2.2.2.2.2.2.2.2.2.2.2.2.2.2.2.2.2.2.2.2.2.2.2.2.2.2.2.2.2.2.2.2.2].getD i.toNat [])=s then
  some true else
  wu k s words (an (i+1)) else none else none else
  some false
def Ny (k:Nat) (s:List UInt8):Option Bool:=wu k s Je 0
def Cl  (s:List UInt8):Option Bool:=bu (fun k (x:List UInt8)=>Ny k x) s
theorem YJ:av Tryz.prog S (Nz (Cl)):=dF (fun k x=>Ny k x) (fun _=>rfl) fun k=>
 cu pk [] trivial Tryz.func107 [] k (fun k=> [(0,⟨[0,3,4],[q0,XH,q1],fun x=>wu k x.1 x.2.1 x.2.2,false⟩)]) ⟨fun _=>rfl,trivial⟩ (fun _=>by kernel_rfl) (fun _=>by kernel_rfl) (by kernel_rfl)
abbrev YI:=(List ai)→Int→Option Bool
abbrev Ck (f:YI):Entry S:=⟨68,[gv,q1],[q3],fun x=>f x.1 x.2⟩
def jH  (l:List ai) (ah:Int):Option Bool:=if ah<(l.length:Int) then
 if 0≤ah then
 if ah<(l.length:Int) then
 if ((l.getD ah.toNat ai.z).Kind)=1 then
 if 0≤ah then
 if ah<(l.length:Int) then
 (Cl ((l.getD ah.toNat ai.z).Text)).bind fun r1=>
 some (!r1) else none else none else
 some false else none else none else
 some false
theorem Hl:av Tryz.prog S (Ck (jH)):=
 aZ pk [Nz Cl] ⟨YJ,trivial⟩ Tryz.func68 (by kernel_rfl) (fun _=>by kernel_rfl) (by kernel_rfl)
abbrev ZI:=aB→Option (List UInt8×aB)
abbrev wN (f:ZI):Entry S:=⟨29,[lF],[q0],fun x=>f x⟩
def uC:Nat→(List ai)→Int→Int→Int→Option (List UInt8×aB)
 | 0,_,_,_,_=>none
 | k+1,bY,bN,cP,c8=>(dh (aB.mk bY bN (aF.mk cP c8))).bind fun r4=>
  bif !r4.1 then
  some ([],r4.2) else
  if 0≤(an ((an (r4.2.ah+1)) - 1)) then
  if (an ((an (r4.2.ah+1)) - 1))<(r4.2.l.length:Int) then
  some ((r4.2.l.getD (an ((an (r4.2.ah+1)) - 1)).toNat ai.z).Text,aB.mk r4.2.l (an (r4.2.ah+1)) r4.2.bad) else none else none
def sg (k:Nat) (r_:aB):Option (List UInt8×aB):=(dh r_).bind fun r1=>
 bif r1.1 then
 (jH r1.2.l r1.2.ah).bind fun r2=>
 bif !r2 then
 (fG r1.2.l r1.2.ah).bind fun r3=>
 uC k r1.2.l r1.2.ah r3.Code r3.At else
 uC k r1.2.l r1.2.ah r1.2.bad.Code r1.2.bad.At else
 uC k r1.2.l r1.2.ah r1.2.bad.Code r1.2.bad.At
def eW  (r_:aB):Option (List UInt8×aB):=bu (fun k (x:aB)=>sg k x) r_
theorem zU:av Tryz.prog S (wN (eW)):=dF (fun k x=>sg k x) (fun _=>rfl) fun k=>
 cu pk [sj dh,Ck jH,pV fG] ⟨uE,Hl,rO,trivial⟩ Tryz.func29 [1] k (fun k=> [(1,⟨[0],[fh],fun x=>uC k x.1 x.2.1 x.2.2.1 x.2.2.2,false⟩)]) ⟨fun _=>rfl,trivial⟩ (fun _=>by kernel_rfl) (fun _=>by kernel_rfl) (by kernel_rfl)
abbrev ZL:=aB→Option (Int×aB)
abbrev HA (f:ZL):Entry S:=⟨30,[lF],[q1],fun x=>f x⟩
def uD:Nat→(List ai)→Int→Int→Int→Option (Int×aB)
 | 0,_,_,_,_=>none
 | k+1,bY,bN,cP,c8=>(dh (aB.mk bY bN (aF.mk cP c8))).bind fun r3=>
  bif !r3.1 then
  some (0,r3.2) else
  if 0≤(an ((an (r3.2.ah+1)) - 1)) then
  if (an ((an (r3.2.ah+1)) - 1))<(r3.2.l.length:Int) then
  some ((r3.2.l.getD (an ((an (r3.2.ah+1)) - 1)).toNat ai.z).N,aB.mk r3.2.l (an (r3.2.ah+1)) r3.2.bad) else none else none
def si (k:Nat) (r_:aB):Option (Int×aB):=(dh r_).bind fun r1=>
 bif r1.1 then
 if 0≤r1.2.ah then
 if r1.2.ah<(r1.2.l.length:Int) then
 if ((r1.2.l.getD r1.2.ah.toNat ai.z).Kind)≠2 then
 (fG r1.2.l r1.2.ah).bind fun r2=>
 uD k r1.2.l r1.2.ah r2.Code r2.At else
 uD k r1.2.l r1.2.ah r1.2.bad.Code r1.2.bad.At else none else none else
 uD k r1.2.l r1.2.ah r1.2.bad.Code r1.2.bad.At
def j5  (r_:aB):Option (Int×aB):=bu (fun k (x:aB)=>si k x) r_
theorem N6:av Tryz.prog S (HA (j5)):=dF (fun k x=>si k x) (fun _=>rfl) fun k=>
 cu pk [sj dh,pV fG] ⟨uE,rO,trivial⟩ Tryz.func30 [1] k (fun k=> [(1,⟨[0],[fh],fun x=>uD k x.1 x.2.1 x.2.2.1 x.2.2.2,false⟩)]) ⟨fun _=>rfl,trivial⟩ (fun _=>by kernel_rfl) (fun _=>by kernel_rfl) (by kernel_rfl)
abbrev ZH:=aB→(List UInt8)→Option (Bool×aB)
abbrev wM (f:ZH):Entry S:=⟨69,[lF,q0],[q3],fun x=>f x.1 x.2⟩
def bO  (r_:aB) (s:List UInt8):Option (Bool×aB):=(dh r_).bind fun r1=>
 bif r1.1 then
 (dB r1.2.l r1.2.ah s).bind fun r2=>
 some (r2,r1.2) else
 some (false,r1.2)
theorem zT:av Tryz.prog S (wM (bO)):=
 aZ pk [sj dh,pW dB] ⟨uE,rP,trivial⟩ Tryz.func69 (by kernel_rfl) (fun _=>by kernel_rfl) (by kernel_rfl)
abbrev ZK:=aB→(List UInt8)→Option (List aJ×aB)
abbrev N5 (f:ZK):Entry S:=⟨31,[lF,q0],[BZ],fun x=>f x.1 x.2⟩
def j4:Nat→(List ai)→Int→Int→Int→(List UInt8)→(List aJ)→Option (List aJ×aB)
 | 0,_,_,_,_,_,_=>none
 | k+1,bY,bN,cP,c8,word,out=>(bO (aB.mk bY bN (aF.mk cP c8)) word).bind fun r1=>
  bif r1.1 then
  if 0≤(an (r1.2.ah+1)) then
  if (an (r1.2.ah+1))<(r1.2.l.length:Int) then
  (eW (aB.mk r1.2.l (an (r1.2.ah+1)) r1.2.bad)).bind fun r2=>
  if word=iN then
  (bV r2.2 oB).bind fun r3=>
  (bO r3 fR).bind fun r4=>
  bif r4.1 then
  (j5 (aB.mk r4.2.l (an (r4.2.ah+1)) r4.2.bad)).bind fun r5=>
  bif r4.1 then
  (bV r5.2 bw).bind fun r6=>
  if (out.length+ [aJ.mk r2.1 (an (0 - r5.1)) ((r1.2.l.getD (an (r1.2.ah+1)).toNat ai.z).At)].length)*32≤140737488355328 then
  j4 k r6.l r6.ah r6.bad.Code r6.bad.At word (out++ [aJ.mk r2.1 (an (0 - r5.1)) ((r1.2.l.getD (an (r1.2.ah+1)).toNat ai.z).At)]) else none else
  (bV r5.2 bw).bind fun r7=>
  if (out.length+ [aJ.mk r2.1 r5.1 ((r1.2.l.getD (an (r1.2.ah+1)).toNat ai.z).At)].length)*32≤140737488355328 then
  j4 k r7.l r7.ah r7.bad.Code r7.bad.At word (out++ [aJ.mk r2.1 r5.1 ((r1.2.l.getD (an (r1.2.ah+1)).toNat ai.z).At)]) else none else
  (j5 r4.2).bind fun r8=>
  bif r4.1 then
  (bV r8.2 bw).bind fun r9=>
  if (out.length+ [aJ.mk r2.1 (an (0 - r8.1)) ((r1.2.l.getD (an (r1.2.ah+1)).toNat ai.z).At)].length)*32≤140737488355328 then
  j4 k r9.l r9.ah r9.bad.Code r9.bad.At word (out++ [aJ.mk r2.1 (an (0 - r8.1)) ((r1.2.l.getD (an (r1.2.ah+1)).toNat ai.z).At)]) else none else
  (bV r8.2 bw).bind fun aT=>
  if (out.length+ [aJ.mk r2.1 r8.1 ((r1.2.l.getD (an (r1.2.ah+1)).toNat ai.z).At)].length)*32≤140737488355328 then
  j4 k aT.l aT.ah aT.bad.Code aT.bad.At word (out++ [aJ.mk r2.1 r8.1 ((r1.2.l.getD (an (r1.2.ah+1)).toNat ai.z).At)]) else none else
  (bV r2.2 bw).bind fun bC=>
  if (out.length+ [aJ.mk r2.1 0 ((r1.2.l.getD (an (r1.2.ah+1)).toNat ai.z).At)].length)*32≤140737488355328 then
  j4 k bC.l bC.ah bC.bad.Code bC.bad.At word (out++ [aJ.mk r2.1 0 ((r1.2.l.getD (an (r1.2.ah+1)).toNat ai.z).At)]) else none else none else none else
  some (out,r1.2)
def Hz (k:Nat) (r_:aB) (word:List UInt8):Option (List aJ×aB):=j4 k r_.l r_.ah r_.bad.Code r_.bad.At word []
def ow  (r_:aB) (word:List UInt8):Option (List aJ×aB):=bu (fun k (x:aB×List UInt8)=>Hz k x.1 x.2) (r_,word)
theorem ZJ:av Tryz.prog S (N5 (ow)):=dF (fun k x=>Hz k x.1 x.2) (fun _=>rfl) fun k=>
 cu pk [wM bO,wN eW,uH bV,HA j5] ⟨zT,zU,wV,N6,trivial⟩ Tryz.func31 [] k (fun k=> [(0,⟨[0,1,5],[fh,q0,BZ],fun x=>j4 k x.1.1 x.1.2.1 x.1.2.2.1 x.1.2.2.2 x.2.1 x.2.2,false⟩)]) ⟨fun _=>rfl,trivial⟩ (fun _=>by kernel_rfl) (fun _=>by kernel_rfl) (by kernel_rfl)
abbrev ZG:=aB→Option (ax×aB)
abbrev N4 (f:ZG):Entry S:=⟨70,[lF],[zz],fun x=>f x⟩
def rZ  (r_:aB):Option (ax×aB):=if 0≤r_.ah then
 if r_.ah<(r_.l.length:Int) then
 (bO r_ eY).bind fun r1=>
 bif r1.1 then
 (eW (aB.mk r1.2.l (an (r1.2.ah+1)) r1.2.bad)).bind fun r2=>
 (bV r2.2 bw).bind fun r3=>
 some (ax.mk 4 r2.1 [] [] [] [] ((r_.l.getD r_.ah.toNat ai.z).At),r3) else
 (eW (aB.mk r1.2.l (an (r1.2.ah+1)) r1.2.bad)).bind fun r4=>
 (bV r4.2 bw).bind fun r5=>
 some (ax.mk 3 r4.1 [] [] [] [] ((r_.l.getD r_.ah.toNat ai.z).At),r5) else none else none
theorem ZF:av Tryz.prog S (N4 (rZ)):=
 aZ pk [wM bO,wN eW,uH bV] ⟨zT,zU,wV,trivial⟩ Tryz.func70 (by kernel_rfl) (fun _=>by kernel_rfl) (by kernel_rfl)
abbrev YL:=(List ai)→Int→(List UInt8)→Option (Int×aF)
abbrev Cm (f:YL):Entry S:=⟨194,[gv,q1,q0],[q1,q8],fun x=>f x.1 x.2.1 x.2.2⟩
def jI  (l:List ai) (ah:Int) (s:List UInt8):Option (Int×aF):=(dB l ah s).bind fun r1=>
 bif !r1 then
 (fG l ah).bind fun r2=>
 some (0,r2) else
 some (an (ah+1),aF.mk 0 0)
theorem Ho:av Tryz.prog S (Cm (jI)):=
 aZ pk [pW dB,pV fG] ⟨rP,rO,trivial⟩ Tryz.func194 (by kernel_rfl) (fun _=>by kernel_rfl) (by kernel_rfl)
abbrev Y9:=aU→(List UInt8)→Option (Bool×aU)
abbrev Cx (f:Y9):Entry S:=⟨204,[uo,q0],[q3],fun x=>f x.1 x.2⟩
def kG  (r_:aU) (s:List UInt8):Option (Bool×aU):=(dB r_.l r_.ah s).bind fun r1=>some (r1,r_)
theorem Ht:av Tryz.prog S (Cx (kG)):=
 aZ pk [pW dB] ⟨rP,trivial⟩ Tryz.func204 (by kernel_rfl) (fun _=>by kernel_rfl) (by kernel_rfl)
abbrev Zf:=aU→Option (ak×aU)
abbrev Hv (f:Zf):Entry S:=⟨209,[uo],[jA],fun x=>f x⟩
def pZ  (r_:aU):Option (ak×aU):=if r_.bad.Code=0 then
 (fG r_.l r_.ah).bind fun r1=>
 some (ak.mk 0 0 [] [] 0,aU.mk r_.l r_.ah r_.bl r1) else
 some (ak.mk 0 0 [] [] 0,r_)
theorem NP:av Tryz.prog S (Hv (pZ)):=
 aZ pk [pV fG] ⟨rO,trivial⟩ Tryz.func209 (by kernel_rfl) (fun _=>by kernel_rfl) (by kernel_rfl)
abbrev Ze:=aU→(List UInt8)→Option aU
abbrev NO (f:Ze):Entry S:=⟨208,[uo,q0],[],fun x=>f x.1 x.2⟩
def jm  (r_:aU) (s:List UInt8):Option aU:=if r_.bad.Code≠0 then
 some r_ else
 (kG r_ s).bind fun r1=>
 bif !r1.1 then
 (pZ r1.2).bind fun r2=>
 some r2.2 else
 some (aU.mk r1.2.l (an (r1.2.ah+1)) r1.2.bl r1.2.bad)
theorem Zd:av Tryz.prog S (NO (jm)):=
 aZ pk [Cx kG,Hv pZ] ⟨Ht,NP,trivial⟩ Tryz.func208 (by kernel_rfl) (fun _=>by kernel_rfl) (by kernel_rfl)
abbrev Y8:=aU→Option (Bool×aU)
abbrev Hs (f:Y8):Entry S:=⟨206,[uo],[q3],fun x=>f x⟩
def jl  (r_:aU):Option (Bool×aU):=if r_.bl=12 then
 if 0≤r_.ah then
 if r_.ah<(r_.l.length:Int) then
 some (false,aU.mk r_.l r_.ah r_.bl (aF.mk 14 ((r_.l.getD r_.ah.toNat ai.z).At))) else none else none else
 some (true,aU.mk r_.l (an (r_.ah+1)) (an (r_.bl+1)) r_.bad)
theorem NM:av Tryz.prog S (Hs (jl)):=
 aZ pk [] trivial Tryz.func206 (by kernel_rfl) (fun _=>by kernel_rfl) (by kernel_rfl)
abbrev lN:=aU→Int→Option (ak×aU)
abbrev pX (f:lN):Entry S:=⟨179,[uo,q1],[jA],fun x=>f x.1 x.2⟩
abbrev Za:=aU→Option (ak×aU)
abbrev NN (f:Za):Entry S:=⟨205,[uo],[jA],fun x=>f x⟩
def j0 (cm:lN)  (r_:aU):Option (ak×aU):=if 0≤r_.ah then
 if r_.ah<(r_.l.length:Int) then
 if ((r_.l.getD r_.ah.toNat ai.z).Kind)=2 then
 some (ak.mk 1 ((r_.l.getD r_.ah.toNat ai.z).N) [] [] ((r_.l.getD r_.ah.toNat ai.z).At),aU.mk r_.l (an (r_.ah+1)) r_.bl r_.bad) else
 (kG r_ su).bind fun r1=>
 bif r1.1 then
 some (ak.mk 3 0 [] [] ((r_.l.getD r_.ah.toNat ai.z).At),aU.mk r1.2.l (an (r1.2.ah+1)) r1.2.bl r1.2.bad) else
 (kG r1.2 kJ).bind fun r2=>
 bif r2.1 then
 (jm (aU.mk r2.2.l (an (r2.2.ah+1)) r2.2.bl r2.2.bad) cQ).bind fun r3=>
 if r3.bad.Code≠0 then
 some (ak.mk 0 0 [] [] 0,r3) else
 (jH r3.l r3.ah).bind fun r4=>
 bif !r4 then
 (pZ r3).bind fun r5=>
 some (ak.mk r5.1.Kind r5.1.N r5.1.Name r5.1.Kids r5.1.At,r5.2) else
 if 0≤r3.ah then
 if r3.ah<(r3.l.length:Int) then
 (jm (aU.mk r3.l (an (r3.ah+1)) r3.bl r3.bad) cD).bind fun r6=>
 some (ak.mk 4 0 ((r3.l.getD r3.ah.toNat ai.z).Text) [] ((r_.l.getD r_.ah.toNat ai.z).At),r6) else none else none else
 (kG r2.2 cQ).bind fun r7=>
 bif r7.1 then
 (jl r7.2).bind fun r8=>
 bif !r8.1 then
 some (ak.mk 0 0 [] [] 0,r8.2) else
 (cm r8.2 1).bind fun r9=>
 (jm r9.2 cD).bind fun aT=>
 some (ak.mk r9.1.Kind r9.1.N r9.1.Name r9.1.Kids r9.1.At,aU.mk aT.l aT.ah (an (aT.bl - 1)) aT.bad) else
 (jH r7.2.l r7.2.ah).bind fun bC=>
 bif bC then
 some (ak.mk 2 0 ((r_.l.getD r_.ah.toNat ai.z).Text) [] ((r_.l.getD r_.ah.toNat ai.z).At),aU.mk r7.2.l (an (r7.2.ah+1)) r7.2.bl r7.2.bad) else
 (pZ r7.2).bind fun bp=>
 some (ak.mk bp.1.Kind bp.1.N bp.1.Name bp.1.Kids bp.1.At,bp.2) else none else none
theorem Y_ (cm:lN) (ri:av Tryz.prog S (pX cm)):av Tryz.prog S (NN (j0 cm)):=
 aZ pk [Cx kG,NO jm,Ck jH,Hv pZ,Hs jl,pX cm] ⟨Ht,Zd,Hl,NP,NM,ri,trivial⟩ Tryz.func205 (by kernel_rfl) (fun _=>by kernel_rfl) (by kernel_rfl)
abbrev Hu:=aU→Option (ak×aU)
abbrev zP (f:Hu):Entry S:=⟨195,[uo],[jA],fun x=>f x⟩
def Cy (sA:Hu) (cm:lN) (k:Nat) (r_:aU):Option (ak×aU):=(kG r_ fR).bind fun r1=>
 bif r1.1 then
 (kG r1.2 oz).bind fun r2=>
 bif r2.1 then
 if (6:Int)=0 then
 (j0 cm r2.2).bind fun r3=>
 some (ak.mk r3.1.Kind r3.1.N r3.1.Name r3.1.Kids r3.1.At,r3.2) else
 if 0≤r2.2.ah then
 if r2.2.ah<(r2.2.l.length:Int) then
 (jl r2.2).bind fun r4=>
 bif !r4.1 then
 some (ak.mk 0 0 [] [] 0,r4.2) else
 (sA r4.2).bind fun r5=>
 some (ak.mk 6 0 [] [ak.mk r5.1.Kind r5.1.N r5.1.Name r5.1.Kids r5.1.At] ((r2.2.l.getD r2.2.ah.toNat ai.z).At),aU.mk r5.2.l r5.2.ah (an (r5.2.bl - 1)) r5.2.bad) else none else none else
 if (5:Int)=0 then
 (j0 cm r2.2).bind fun r6=>
 some (ak.mk r6.1.Kind r6.1.N r6.1.Name r6.1.Kids r6.1.At,r6.2) else
 if 0≤r2.2.ah then
 if r2.2.ah<(r2.2.l.length:Int) then
 (jl r2.2).bind fun r7=>
 bif !r7.1 then
 some (ak.mk 0 0 [] [] 0,r7.2) else
 (sA r7.2).bind fun r8=>
 some (ak.mk 5 0 [] [ak.mk r8.1.Kind r8.1.N r8.1.Name r8.1.Kids r8.1.At] ((r2.2.l.getD r2.2.ah.toNat ai.z).At),aU.mk r8.2.l r8.2.ah (an (r8.2.bl - 1)) r8.2.bad) else none else none else
 (kG r1.2 oz).bind fun r9=>
 bif r9.1 then
 if (6:Int)=0 then
 (j0 cm r9.2).bind fun aT=>
 some (ak.mk aT.1.Kind aT.1.N aT.1.Name aT.1.Kids aT.1.At,aT.2) else
 if 0≤r9.2.ah then
 if r9.2.ah<(r9.2.l.length:Int) then
 (jl r9.2).bind fun bC=>
 bif !bC.1 then
 some (ak.mk 0 0 [] [] 0,bC.2) else
 (sA bC.2).bind fun bp=>
 some (ak.mk 6 0 [] [ak.mk bp.1.Kind bp.1.N bp.1.Name bp.1.Kids bp.1.At] ((r9.2.l.getD r9.2.ah.toNat ai.z).At),aU.mk bp.2.l bp.2.ah (an (bp.2.bl - 1)) bp.2.bad) else none else none else
 if (0:Int)=0 then
 (j0 cm r9.2).bind fun bL=>
 some (ak.mk bL.1.Kind bL.1.N bL.1.Name bL.1.Kids bL.1.At,bL.2) else
 if 0≤r9.2.ah then
 if r9.2.ah<(r9.2.l.length:Int) then
 (jl r9.2).bind fun bE=>
 bif !bE.1 then
 some (ak.mk 0 0 [] [] 0,bE.2) else
 (sA bE.2).bind fun ep=>
 some (ak.mk 0 0 [] [ak.mk ep.1.Kind ep.1.N ep.1.Name ep.1.Kids ep.1.At] ((r9.2.l.getD r9.2.ah.toNat ai.z).At),aU.mk ep.2.l ep.2.ah (an (ep.2.bl - 1)) ep.2.bad) else none else none
def lO (cm:lN):Nat→aU→Option (ak×aU)
 | 0,_=>none
 | k+1,x0=>Cy (lO cm k) cm k x0
def wG (cm:lN)  (r_:aU):Option (ak×aU):=bu (fun k (x:aU)=>lO cm k x) r_
theorem Zc (sA:Hu) (cm:lN) (k:Nat) (Uw:av Tryz.prog S (zP sA)) (ri:av Tryz.prog S (pX cm)):av Tryz.prog S (zP (Cy sA cm k)):=
 aZ pk [Cx kG,NN (j0 cm),Hs jl,zP sA] ⟨Ht,Y_ cm ri,NM,Uw,trivial⟩ Tryz.func195 (by kernel_rfl) (fun _=>by kernel_rfl) (by kernel_rfl)
theorem Zb (cm:lN) (ri:av Tryz.prog S (pX cm)):av Tryz.prog S (zP (wG cm)):=iO (fun k x=>lO cm k x) (fun _=>rfl) Tryz.func195 (by kernel_rfl) (fun _=>rfl) fun k h=>Zc (lO cm k) cm k h ri
abbrev Y3:=Int→Int→Int→Option Int
abbrev NK (f:Y3):Entry S:=⟨207,[q1,q1,q1],[q1],fun x=>f x.1 x.2.1 x.2.2⟩
def iM  (level:Int) (own:Int) (kind:Int):Option Int:=if level=own then some kind else some 0
theorem Y2:av Tryz.prog S (NK (iM)):=
 aZ pk [] trivial Tryz.func207 (by kernel_rfl) (fun _=>by kernel_rfl) (by kernel_rfl)
abbrev Y5:=Int→(List UInt8)→Option Int
abbrev NL (f:Y5):Entry S:=⟨196,[q1,q0],[q1],fun x=>f x.1 x.2⟩
def zN  (level:Int) (s:List UInt8):Option Int:=if s=gB then
 (iM level 1 19).bind fun r1=>
 some r1 else
 if s=gz then
 (iM level 2 18).bind fun r2=>
 some r2 else
 if s=qi then
 (iM level 3 12).bind fun r3=>
 some r3 else
 if s=gE then
 (iM level 3 13).bind fun r4=>
 some r4 else
 if s=qh then
 (iM level 3 14).bind fun r5=>
 some r5 else
 if s=gD then
 (iM level 3 15).bind fun r6=>
 some r6 else
 if s=gC then
 (iM level 3 16).bind fun r7=>
 some r7 else
 if s=gA then
 (iM level 3 17).bind fun r8=>
 some r8 else
 if s=qk then
 (iM level 4 10).bind fun r9=>
 some r9 else
 if s=fR then
 (iM level 4 11).bind fun aT=>
 some aT else
 if s=qn then
 (iM level 5 7).bind fun bC=>
 some bC else
 if s=qm then
 (iM level 5 8).bind fun bp=>
 some bp else
 if s=qj then
 (iM level 5 9).bind fun bL=>
 some bL else
 some 0
theorem Y4:av Tryz.prog S (NL (zN)):=
 aZ pk [NK iM] ⟨Y2,trivial⟩ Tryz.func196 (by kernel_rfl) (fun _=>by kernel_rfl) (by kernel_rfl)
mutual
def pY (cm:lN):Nat→(List ai)→Int→Int→Int→Int→Int→Int→Int→(List UInt8)→(List ak)→Int→Int→Int→(List UInt8)→(List ak)→Int→Option (ak×aU)
 | 0,_,_,_,_,_,_,_,_,_,_,_,_,_,_,_,_=>none
 | k+1,bY,bN,kE,cP,c8,level,fA,nu,gZ,iu,fy,fV,gQ,gR,dV,gP=>if cP=0 then
  if bN<(bY.length:Int) then
  if 0≤bN then
  if bN<(bY.length:Int) then
  if ((bY.getD bN.toNat ai.z).Kind)=3 then
  Cw cm k bY bN kE cP c8 level fA nu gZ iu fy fV gQ gR dV gP else
  some (ak.mk fV gQ gR dV gP,aU.mk bY bN kE (aF.mk cP c8)) else none else none else
  some (ak.mk fV gQ gR dV gP,aU.mk bY bN kE (aF.mk cP c8)) else
  some (ak.mk fV gQ gR dV gP,aU.mk bY bN kE (aF.mk cP c8))
def Cw (cm:lN):Nat→(List ai)→Int→Int→Int→Int→Int→Int→Int→(List UInt8)→(List ak)→Int→Int→Int→(List UInt8)→(List ak)→Int→Option (ak×aU)
 | 0,_,_,_,_,_,_,_,_,_,_,_,_,_,_,_,_=>none
 | k+1,bY,bN,kE,cP,c8,level,fA,nu,gZ,iu,fy,fV,gQ,gR,dV,gP=>if 0≤bN then
  if bN<(bY.length:Int) then
  (zN level ((bY.getD bN.toNat ai.z).Text)).bind fun r3=>
  if r3=0 then
  some (ak.mk fV gQ gR dV gP,aU.mk bY bN kE (aF.mk cP c8)) else
  if 0≤bN then
  if bN<(bY.length:Int) then
  (cm (aU.mk bY (an (bN+1)) kE (aF.mk cP c8)) (an (level+1))).bind fun r4=>
  if level=3 then
  some (ak.mk r3 0 [] [ak.mk fV gQ gR dV gP,ak.mk r4.1.Kind r4.1.N r4.1.Name r4.1.Kids r4.1.At] ((bY.getD bN.toNat ai.z).At),r4.2) else
  pY cm k r4.2.l r4.2.ah r4.2.bl r4.2.bad.Code r4.2.bad.At level fA nu gZ iu fy r3 0 [] [ak.mk fV gQ gR dV gP,ak.mk r4.1.Kind r4.1.N r4.1.Name r4.1.Kids r4.1.At] ((bY.getD bN.toNat ai.z).At) else none else none else none else none
end
def rT (cm:lN) (k:Nat) (r_:aU) (level:Int):Option (ak×aU):=if level=6 then
 (wG cm r_).bind fun r1=>
 some (ak.mk r1.1.Kind r1.1.N r1.1.Name r1.1.Kids r1.1.At,r1.2) else
 (cm r_ (an (level+1))).bind fun r2=>
 pY cm k r2.2.l r2.2.ah r2.2.bl r2.2.bad.Code r2.2.bad.At level 0 0 [] [] 0 r2.1.Kind r2.1.N r2.1.Name r2.1.Kids r2.1.At
def f_:Nat→aU→Int→Option (ak×aU)
 | 0,_,_=>none
 | k+1,x0,x1=>rT (f_ k) k x0 x1
def zO  (r_:aU) (level:Int):Option (ak×aU):=bu (fun k (x:aU×Int)=>f_ k x.1 x.2) (r_,level)
theorem Y7 (cm:lN) (k:Nat) (ri:av Tryz.prog S (pX cm)):av Tryz.prog S (pX (rT cm k)):=
 cu pk [zP (wG cm),pX cm,NL zN] ⟨Zb cm ri,ri,Y4,trivial⟩ Tryz.func179 [6] k (fun k=> [(0,⟨[0,1,4,5],[zw,q1,GV,um],fun x=>pY cm k x.1.1 x.1.2.1 x.1.2.2.1 x.1.2.2.2.1 x.1.2.2.2.2 x.2.1 x.2.2.1.1 x.2.2.1.2.1 x.2.2.1.2.2.1 x.2.2.1.2.2.2.1 x.2.2.1.2.2.2.2 x.2.2.2.1 x.2.2.2.2.1 x.2.2.2.2.2.1 x.2.2.2.2.2.2.1 x.2.2.2.2.2.2.2,false⟩),(1,⟨[0,1,4,5],[zw,q1,GV,um],fun x=>Cw cm k x.1.1 x.1.2.1 x.1.2.2.1 x.1.2.2.2.1 x.1.2.2.2.2 x.2.1 x.2.2.1.1 x.2.2.1.2.1 x.2.2.1.2.2.1 x.2.2.1.2.2.2.1 x.2.2.1.2.2.2.2 x.2.2.2.1 x.2.2.2.2.1 x.2.2.2.2.2.1 x.2.2.2.2.2.2.1 x.2.2.2.2.2.2.2,false⟩)]) ⟨fun _=>rfl,fun _=>rfl,trivial⟩ (fun _=>by kernel_rfl) (fun _=>by kernel_rfl) (by kernel_rfl)
theorem Y6:av Tryz.prog S (pX (zO)):=iO (fun k x=>f_ k x.1 x.2) (fun _=>rfl) Tryz.func179 (by kernel_rfl) (fun _=>rfl) fun k h=>Y7 (f_ k) k h
abbrev YZ:=(List ai)→Int→Option (ak×Int×aF)
abbrev Cr (f:YZ):Entry S:=⟨161,[gv,q1],[jA,q1,q8],fun x=>f x.1 x.2⟩
def jk  (l:List ai) (ah:Int):Option (ak×Int×aF):=(zO (aU.mk l ah 0 (aF.mk 0 0)) 1).bind fun r1=>
 if r1.2.bad.Code≠0 then
 some (ak.mk 0 0 [] [] 0,0,r1.2.bad) else
 some (ak.mk r1.1.Kind r1.1.N r1.1.Name r1.1.Kids r1.1.At,r1.2.ah,aF.mk 0 0)
theorem Hr:av Tryz.prog S (Cr (jk)):=
 aZ pk [pX zO] ⟨Y6,trivial⟩ Tryz.func161 (by kernel_rfl) (fun _=>by kernel_rfl) (by kernel_rfl)
abbrev Zl:=(List ai)→Int→Option (List ak×Int×aF)
abbrev CB (f:Zl):Entry S:=⟨190,[gv,q1],[jj,q1,q8],fun x=>f x.1 x.2⟩
def kH  (l:List ai) (ah:Int):Option (List ak×Int×aF):=(jI l ah cQ).bind fun r1=>
 if r1.2.Code≠0 then
 some ([],0,r1.2) else
 (jk l r1.1).bind fun r2=>
 if r2.2.2.Code≠0 then
 some ([],0,r2.2.2) else
 (jI l r2.2.1 cD).bind fun r3=>
 some ([ak.mk r2.1.Kind r2.1.N r2.1.Name r2.1.Kids r2.1.At],r3.1,r3.2)
theorem Hw:av Tryz.prog S (CB (kH)):=
 aZ pk [Cm jI,Cr jk] ⟨Ho,Hr,trivial⟩ Tryz.func190 (by kernel_rfl) (fun _=>by kernel_rfl) (by kernel_rfl)
abbrev Zq:=(List ai)→Int→Option (List UInt8×Int×aF)
abbrev Hx (f:Zq):Entry S:=⟨191,[gv,q1],[q0,q1,q8],fun x=>f x.1 x.2⟩
def gy  (l:List ai) (ah:Int):Option (List UInt8×Int×aF):=(jH l ah).bind fun r1=>
 bif !r1 then
 (fG l ah).bind fun r2=>
 some ([],0,r2) else
 if 0≤ah then
 if ah<(l.length:Int) then
 some ((l.getD ah.toNat ai.z).Text,an (ah+1),aF.mk 0 0) else none else none
theorem NU:av Tryz.prog S (Hx (gy)):=
 aZ pk [Ck jH,pV fG] ⟨Hl,rO,trivial⟩ Tryz.func191 (by kernel_rfl) (fun _=>by kernel_rfl) (by kernel_rfl)
abbrev Zp:=(List ai)→Int→Option (List ak×Int×aF)
abbrev NT (f:Zp):Entry S:=⟨192,[gv,q1],[jj,q1,q8],fun x=>f x.1 x.2⟩
def p7  (l:List ai) (ah:Int):Option (List ak×Int×aF):=(dB l ah cQ).bind fun r1=>
 bif !r1 then
 some ([],ah,aF.mk 0 0) else
 (kH l ah).bind fun r2=>
 some (r2.1,r2.2.1,r2.2.2)
theorem Zo:av Tryz.prog S (NT (p7)):=
 aZ pk [pW dB,CB kH] ⟨rP,Hw,trivial⟩ Tryz.func192 (by kernel_rfl) (fun _=>by kernel_rfl) (by kernel_rfl)
abbrev Zv:=(List ai)→Int→Option (aj×Int×aF)
abbrev NW (f:Zv):Entry S:=⟨193,[gv,q1],[n9,q1,q8],fun x=>f x.1 x.2⟩
def p8  (l:List ai) (ah:Int):Option (aj×Int×aF):=if 0≤ah then
 if ah<(l.length:Int) then
 (gy l ah).bind fun r1=>
 if r1.2.2.Code≠0 then
 some (aj.mk 1 [] [] [] 0 [] [] ((l.getD ah.toNat ai.z).At),0,r1.2.2) else
 (jI l r1.2.1 oB).bind fun r2=>
 if r2.2.Code≠0 then
 some (aj.mk 1 r1.1 [] [] 0 [] [] ((l.getD ah.toNat ai.z).At),0,r2.2) else
 (jk l r2.1).bind fun r3=>
 some (aj.mk 1 r1.1 [] [ak.mk r3.1.Kind r3.1.N r3.1.Name r3.1.Kids r3.1.At] 0 [] [] ((l.getD ah.toNat ai.z).At),r3.2.1,r3.2.2) else none else none
theorem Zu:av Tryz.prog S (NW (p8)):=
 aZ pk [Hx gy,Cm jI,Cr jk] ⟨NU,Ho,Hr,trivial⟩ Tryz.func193 (by kernel_rfl) (fun _=>by kernel_rfl) (by kernel_rfl)
abbrev Zx:=(List ai)→Int→Option (aj×Int×aF)
abbrev NX (f:Zx):Entry S:=⟨178,[gv,q1],[n9,q1,q8],fun x=>f x.1 x.2⟩
def kI:Nat→(List ai)→Int→Int→(List UInt8)→(List UInt8)→(List ak)→Int→(List aj)→(List aj)→Int→Int→Int→Int→(List UInt8)→(List UInt8)→(List ak)→Int→(List aj)→(List aj)→Int→Int→Int→Option (aj×Int×aF)
 | 0,_,_,_,_,_,_,_,_,_,_,_,_,_,_,_,_,_,_,_,_,_,_=>none
 | k+1,l,ah,fA,gZ,acG,acI,nu,acH,acF,fy,acK,acJ,gL,cC,gK,Ay,sX,sY,sW,xM,Jj,RF=>if Jj≠0 then
  some (aj.mk 0 [] [] [] 0 [] [] 0,0,aF.mk Jj RF) else
  (jI l ah bw).bind fun ep=>
  some (aj.mk gL cC gK Ay sX sY sW xM,ep.1,ep.2)
def CC (k:Nat) (l:List ai) (ah:Int):Option (aj×Int×aF):=if 0≤ah then
 if ah<(l.length:Int) then
 (dB l ah lU).bind fun r1=>
 bif r1 then
 (gy l (an (ah+1))).bind fun r2=>
 if r2.2.2.Code=0 then
 (p7 l r2.2.1).bind fun r3=>
 kI k l r3.2.1 0 [] [] [] 0 [] [] 0 0 0 2 [] r2.1 r3.1 0 [] [] ((l.getD ah.toNat ai.z).At) r3.2.2.Code r3.2.2.At else
 kI k l r2.2.1 0 [] [] [] 0 [] [] 0 0 0 2 [] r2.1 [] 0 [] [] ((l.getD ah.toNat ai.z).At) r2.2.2.Code r2.2.2.At else
 (dB l ah lW).bind fun r4=>
 bif r4 then
 (gy l (an (ah+1))).bind fun r5=>
 if r5.2.2.Code=0 then
 (gy l r5.2.1).bind fun r6=>
 if r6.2.2.Code=0 then
 (p7 l r6.2.1).bind fun r7=>
 kI k l r7.2.1 0 [] [] [] 0 [] [] 0 0 0 3 r5.1 r6.1 r7.1 0 [] [] ((l.getD ah.toNat ai.z).At) r7.2.2.Code r7.2.2.At else
 kI k l r6.2.1 0 [] [] [] 0 [] [] 0 0 0 3 r5.1 r6.1 [] 0 [] [] ((l.getD ah.toNat ai.z).At) r6.2.2.Code r6.2.2.At else
 if r5.2.2.Code=0 then
 (p7 l r5.2.1).bind fun r8=>
 kI k l r8.2.1 0 [] [] [] 0 [] [] 0 0 0 3 r5.1 [] r8.1 0 [] [] ((l.getD ah.toNat ai.z).At) r8.2.2.Code r8.2.2.At else
 kI k l r5.2.1 0 [] [] [] 0 [] [] 0 0 0 3 r5.1 [] [] 0 [] [] ((l.getD ah.toNat ai.z).At) r5.2.2.Code r5.2.2.At else
 (dB l ah lT).bind fun r9=>
 bif r9 then
 (gy l (an (ah+1))).bind fun aT=>
 if aT.2.2.Code=0 then
 (kH l aT.2.1).bind fun bC=>
 kI k l bC.2.1 0 [] [] [] 0 [] [] 0 0 0 4 aT.1 [] bC.1 0 [] [] ((l.getD ah.toNat ai.z).At) bC.2.2.Code bC.2.2.At else
 kI k l aT.2.1 0 [] [] [] 0 [] [] 0 0 0 4 aT.1 [] [] 0 [] [] ((l.getD ah.toNat ai.z).At) aT.2.2.Code aT.2.2.At else
 (dB l ah nc).bind fun bp=>
 bif bp then
 (gy l (an (ah+1))).bind fun bL=>
 kI k l bL.2.1 0 [] [] [] 0 [] [] 0 0 0 5 bL.1 [] [] 0 [] [] ((l.getD ah.toNat ai.z).At) bL.2.2.Code bL.2.2.At else
 (p8 l ah).bind fun bE=>
 kI k l bE.2.1 0 [] [] [] 0 [] [] 0 0 0 bE.1.Kind bE.1.Name bE.1.Event bE.1.X bE.1.N bE.1.eU bE.1.eB bE.1.At bE.2.2.Code bE.2.2.At else none else none
def p9  (l:List ai) (ah:Int):Option (aj×Int×aF):=bu (fun k (x:List ai×Int)=>CC k x.1 x.2) (l,ah)
theorem Zw:av Tryz.prog S (NX (p9)):=dF (fun k x=>CC k x.1 x.2) (fun _=>rfl) fun k=>
 cu pk [pW dB,Hx gy,NT p7,CB kH,NW p8,Cm jI] ⟨rP,NU,Zo,Hw,Zu,Ho,trivial⟩ Tryz.func178 [3] k (fun k=> [(1,⟨[0,1,4,6,7,8],[gv,q1,XI,q9,MZ,q9],fun x=>kI k x.1 x.2.1 x.2.2.1.1 x.2.2.1.2.1 x.2.2.1.2.2.1 x.2.2.1.2.2.2.1 x.2.2.1.2.2.2.2.1 x.2.2.1.2.2.2.2.2.1 x.2.2.1.2.2.2.2.2.2.1 x.2.2.1.2.2.2.2.2.2.2 x.2.2.2.1.1 x.2.2.2.1.2 x.2.2.2.2.1.1 x.2.2.2.2.1.2.1 x.2.2.2.2.1.2.2.1 x.2.2.2.2.1.2.2.2.1 x.2.2.2.2.1.2.2.2.2.1 x.2.2.2.2.1.2.2.2.2.2.1 x.2.2.2.2.1.2.2.2.2.2.2.1 x.2.2.2.2.1.2.2.2.2.2.2.2 x.2.2.2.2.2.1 x.2.2.2.2.2.2,false⟩)]) ⟨fun _=>rfl,trivial⟩ (fun _=>by kernel_rfl) (fun _=>by kernel_rfl) (by kernel_rfl)
abbrev rY:=(List ai)→Int→Int→Option (List aj×Int×aF)
abbrev rW (f:rY):Entry S:=⟨160,[gv,q1,q1],[rI,q1,q8],fun x=>f x.1 x.2.1 x.2.2⟩
abbrev Zn:=(List ai)→Int→Int→Option (aj×Int×aF)
abbrev NS (f:Zn):Entry S:=⟨176,[gv,q1,q1],[n9,q1,q8],fun x=>f x.1 x.2.1 x.2.2⟩
def zQ (ey:rY)  (l:List ai) (ah:Int) (deep:Int):Option (aj×Int×aF):=if 0≤ah then
 if ah<(l.length:Int) then
 (kH l (an (ah+1))).bind fun r1=>
 if r1.2.2.Code≠0 then
 some (aj.mk 6 [] [] [] 0 [] [] ((l.getD ah.toNat ai.z).At),0,r1.2.2) else
 (ey l r1.2.1 deep).bind fun r2=>
 if r2.2.2.Code=0 then
 (dB l r2.2.1 qg).bind fun r3=>
 bif r3 then
 (ey l (an (r2.2.1+1)) deep).bind fun r4=>
 some (aj.mk 6 [] [] r1.1 0 r2.1 r4.1 ((l.getD ah.toNat ai.z).At),r4.2.1,r4.2.2) else
 some (aj.mk 6 [] [] r1.1 0 r2.1 [] ((l.getD ah.toNat ai.z).At),r2.2.1,r2.2.2) else
 some (aj.mk 6 [] [] r1.1 0 r2.1 [] ((l.getD ah.toNat ai.z).At),r2.2.1,r2.2.2) else none else none
theorem Zm (ey:rY) (vD:av Tryz.prog S (rW ey)):av Tryz.prog S (NS (zQ ey)):=
 aZ pk [CB kH,rW ey,pW dB] ⟨Hw,vD,rP,trivial⟩ Tryz.func176 (by kernel_rfl) (fun _=>by kernel_rfl) (by kernel_rfl)
abbrev Zt:=(List ai)→Int→Int→Option (aj×Int×aF)
abbrev NV (f:Zt):Entry S:=⟨177,[gv,q1,q1],[n9,q1,q8],fun x=>f x.1 x.2.1 x.2.2⟩
def zR (ey:rY)  (l:List ai) (ah:Int) (deep:Int):Option (aj×Int×aF):=if 0≤ah then
 if ah<(l.length:Int) then
 if 0≤(an (ah+1)) then
 if (an (ah+1))<(l.length:Int) then
 if ((l.getD (an (ah+1)).toNat ai.z).Kind)≠2 then
 (fG l (an (ah+1))).bind fun r1=>
 some (aj.mk 7 [] [] [] 0 [] [] ((l.getD ah.toNat ai.z).At),0,r1) else
 if 0≤(an (ah+1)) then
 if (an (ah+1))<(l.length:Int) then
 (ey l (an ((an (ah+1))+1)) deep).bind fun r2=>
 some (aj.mk 7 [] [] [] ((l.getD (an (ah+1)).toNat ai.z).N) r2.1 [] ((l.getD ah.toNat ai.z).At),r2.2.1,r2.2.2) else none else none else none else none else none else none
theorem Zr (ey:rY) (vD:av Tryz.prog S (rW ey)):av Tryz.prog S (NV (zR ey)):=
 aZ pk [pV fG,rW ey] ⟨rO,vD,trivial⟩ Tryz.func177 (by kernel_rfl) (fun _=>by kernel_rfl) (by kernel_rfl)
def lP (ey:rY):Nat→(List ai)→Int→Int→Int→Int→(List aj)→Option (List aj×Int×aF)
 | 0,_,_,_,_,_,_=>none
 | k+1,l,ah,deep,Iz,Iy,out=>(dB l ah gG).bind fun r3=>
  bif !r3 then
  (dB l ah j7).bind fun r4=>
  bif r4 then
  (zQ ey l ah (an (deep+1))).bind fun r5=>
  if r5.2.2.Code≠0 then
  some ([],0,r5.2.2) else
  if (out.length+ [aj.mk r5.1.Kind r5.1.Name r5.1.Event r5.1.X r5.1.N r5.1.eU r5.1.eB r5.1.At].length)*128≤140737488355328 then
  lP ey k l r5.2.1 deep Iz Iy (out++ [aj.mk r5.1.Kind r5.1.Name r5.1.Event r5.1.X r5.1.N r5.1.eU r5.1.eB r5.1.At]) else none else
  (dB l ah jJ).bind fun r6=>
  bif r6 then
  (zR ey l ah (an (deep+1))).bind fun r7=>
  if r7.2.2.Code≠0 then
  some ([],0,r7.2.2) else
  if (out.length+ [aj.mk r7.1.Kind r7.1.Name r7.1.Event r7.1.X r7.1.N r7.1.eU r7.1.eB r7.1.At].length)*128≤140737488355328 then
  lP ey k l r7.2.1 deep Iz Iy (out++ [aj.mk r7.1.Kind r7.1.Name r7.1.Event r7.1.X r7.1.N r7.1.eU r7.1.eB r7.1.At]) else none else
  (p9 l ah).bind fun r8=>
  if r8.2.2.Code≠0 then
  some ([],0,r8.2.2) else
  if (out.length+ [aj.mk r8.1.Kind r8.1.Name r8.1.Event r8.1.X r8.1.N r8.1.eU r8.1.eB r8.1.At].length)*128≤140737488355328 then
  lP ey k l r8.2.1 deep Iz Iy (out++ [aj.mk r8.1.Kind r8.1.Name r8.1.Event r8.1.X r8.1.N r8.1.eU r8.1.eB r8.1.At]) else none else
  some (out,an (ah+1),aF.mk 0 0)
def ov (ey:rY) (k:Nat) (l:List ai) (ah:Int) (deep:Int):Option (List aj×Int×aF):=(dB l ah eS).bind fun r1=>
 bif !r1 then
 (fG l ah).bind fun r2=>
 some ([],0,r2) else
 if deep=4 then
 if 0≤ah then
 if ah<(l.length:Int) then
 some ([],0,aF.mk 14 ((l.getD ah.toNat ai.z).At)) else none else none else
 lP ey k l (an (ah+1)) deep 0 0 []
def ga:Nat→(List ai)→Int→Int→Option (List aj×Int×aF)
 | 0,_,_,_=>none
 | k+1,x0,x1,x2=>ov (ga k) k x0 x1 x2
def wJ  (l:List ai) (ah:Int) (deep:Int):Option (List aj×Int×aF):=bu (fun k (x:List ai×Int×Int)=>ga k x.1 x.2.1 x.2.2) (l,ah,deep)
theorem Zk (ey:rY) (k:Nat) (vD:av Tryz.prog S (rW ey)):av Tryz.prog S (rW (ov ey k)):=
 cu pk [pW dB,pV fG,NS (zQ ey),NV (zR ey),NX p9] ⟨rP,rO,Zm ey vD,Zr ey vD,Zw,trivial⟩ Tryz.func160 [] k (fun k=> [(0,⟨[0,1,2,8,9],[gv,q1,q1,q9,rI],fun x=>lP ey k x.1 x.2.1 x.2.2.1 x.2.2.2.1.1 x.2.2.2.1.2 x.2.2.2.2,false⟩)]) ⟨fun _=>rfl,trivial⟩ (fun _=>by kernel_rfl) (fun _=>by kernel_rfl) (by kernel_rfl)
theorem Zj:av Tryz.prog S (rW (wJ)):=iO (fun k x=>ga k x.1 x.2.1 x.2.2) (fun _=>rfl) Tryz.func160 (by kernel_rfl) (fun _=>rfl) fun k h=>Zk (ga k) k h
abbrev Zh:=(List ai)→Int→Option (List aj×Int×aF)
abbrev NQ (f:Zh):Entry S:=⟨134,[gv,q1],[rI,q1,q8],fun x=>f x.1 x.2⟩
def ou  (l:List ai) (ah:Int):Option (List aj×Int×aF):=(wJ l ah 0).bind fun r1=>some (r1.1,r1.2.1,r1.2.2)
theorem Zg:av Tryz.prog S (NQ (ou)):=
 aZ pk [rW wJ] ⟨Zj,trivial⟩ Tryz.func134 (by kernel_rfl) (fun _=>by kernel_rfl) (by kernel_rfl)
abbrev ZC:=aB→Option (List aj×aB)
abbrev Hy (f:ZC):Entry S:=⟨108,[lF],[rI],fun x=>f x⟩
def jn  (r_:aB):Option (List aj×aB):=(dh r_).bind fun r1=>
 bif !r1.1 then
 some ([],r1.2) else
 (ou r1.2.l r1.2.ah).bind fun r2=>
 (dh (aB.mk r1.2.l r1.2.ah r2.2.2)).bind fun r3=>
 bif r3.1 then
 some (r2.1,aB.mk r3.2.l r2.2.1 r3.2.bad) else
 some (r2.1,r3.2)
theorem N0:av Tryz.prog S (Hy (jn)):=
 aZ pk [sj dh,NQ ou] ⟨uE,Zg,trivial⟩ Tryz.func108 (by kernel_rfl) (fun _=>by kernel_rfl) (by kernel_rfl)
abbrev ZE:=aB→Option (List ak×aB)
abbrev N3 (f:ZE):Entry S:=⟨135,[lF],[jj],fun x=>f x⟩
def wL  (r_:aB):Option (List ak×aB):=(bV r_ ni).bind fun r1=>
 (dh r1).bind fun r2=>
 bif !r2.1 then
 some ([],r2.2) else
 (jk r2.2.l r2.2.ah).bind fun r3=>
 (dh (aB.mk r2.2.l r2.2.ah r3.2.2)).bind fun r4=>
 bif r4.1 then
 (bV (aB.mk r4.2.l r3.2.1 r4.2.bad) lV).bind fun r5=>
 some ([ak.mk r3.1.Kind r3.1.N r3.1.Name r3.1.Kids r3.1.At],r5) else
 (bV r4.2 lV).bind fun r6=>
 some ([ak.mk r3.1.Kind r3.1.N r3.1.Name r3.1.Kids r3.1.At],r6)
theorem ZD:av Tryz.prog S (N3 (wL)):=
 aZ pk [uH bV,sj dh,Cr jk] ⟨wV,uE,Hr,trivial⟩ Tryz.func135 (by kernel_rfl) (fun _=>by kernel_rfl) (by kernel_rfl)
abbrev ZS:=aB→Option (aK×aB)
abbrev N8 (f:ZS):Entry S:=⟨109,[lF],[zx],fun x=>f x⟩
def wU:Nat→(List ai)→Int→Int→Int→(List UInt8)→(List ak)→(List UInt8)→(List aj)→Int→(List UInt8)→(List ak)→(List UInt8)→(List aj)→Int→Option (aK×aB)
 | 0,_,_,_,_,_,_,_,_,_,_,_,_,_,_=>none
 | k+1,bY,bN,cP,c8,kR,kS,kT,kQ,jr,gX,iP,gJ,gi,dQ=>(bO (aB.mk bY bN (aF.mk cP c8)) bw).bind fun r8=>
  bif r8.1 then
  some (aK.mk gX iP gJ gi dQ,aB.mk r8.2.l (an (r8.2.ah+1)) r8.2.bad) else
  (jn r8.2).bind fun r9=>
  some (aK.mk gX iP gJ r9.1 dQ,r9.2)
def wT:Nat→(List ai)→Int→Int→Int→(List UInt8)→(List ak)→(List UInt8)→(List aj)→Int→(List UInt8)→(List ak)→(List UInt8)→(List aj)→Int→Option (aK×aB)
 | 0,_,_,_,_,_,_,_,_,_,_,_,_,_,_=>none
 | k+1,bY,bN,cP,c8,kR,kS,kT,kQ,jr,gX,iP,gJ,gi,dQ=>(bO (aB.mk bY bN (aF.mk cP c8)) fI).bind fun r6=>
  bif r6.1 then
  (eW (aB.mk r6.2.l (an (r6.2.ah+1)) r6.2.bad)).bind fun r7=>
  wU k r7.2.l r7.2.ah r7.2.bad.Code r7.2.bad.At kR kS kT kQ jr gX iP r7.1 gi dQ else
  wU k r6.2.l r6.2.ah r6.2.bad.Code r6.2.bad.At kR kS kT kQ jr gX iP gJ gi dQ
def uG:Nat→(List ai)→Int→Int→Int→(List UInt8)→(List ak)→(List UInt8)→(List aj)→Int→(List UInt8)→(List ak)→(List UInt8)→(List aj)→Int→Option (aK×aB)
 | 0,_,_,_,_,_,_,_,_,_,_,_,_,_,_=>none
 | k+1,bY,bN,cP,c8,kR,kS,kT,kQ,jr,gX,iP,gJ,gi,dQ=>(bO (aB.mk bY bN (aF.mk cP c8)) ni).bind fun r4=>
  bif r4.1 then
  (wL r4.2).bind fun r5=>
  wT k r5.2.l r5.2.ah r5.2.bad.Code r5.2.bad.At kR kS kT kQ jr gX r5.1 gJ gi dQ else
  wT k r4.2.l r4.2.ah r4.2.bad.Code r4.2.bad.At kR kS kT kQ jr gX iP gJ gi dQ
def zZ (k:Nat) (r_:aB):Option (aK×aB):=if 0≤r_.ah then
 if r_.ah<(r_.l.length:Int) then
 (bO r_ gW).bind fun r1=>
 bif r1.1 then
 uG k r1.2.l (an (r1.2.ah+1)) r1.2.bad.Code r1.2.bad.At [] [] [] [] 0 [] [] [] [] ((r_.l.getD r_.ah.toNat ai.z).At) else
 (bV r1.2 eT).bind fun r2=>
 (eW r2).bind fun r3=>
 uG k r3.2.l r3.2.ah r3.2.bad.Code r3.2.bad.At [] [] [] [] 0 r3.1 [] [] [] ((r_.l.getD r_.ah.toNat ai.z).At) else none else none
def wS  (r_:aB):Option (aK×aB):=bu (fun k (x:aB)=>zZ k x) r_
theorem ZR:av Tryz.prog S (N8 (wS)):=dF (fun k x=>zZ k x) (fun _=>rfl) fun k=>
 cu pk [wM bO,uH bV,wN eW,N3 wL,Hy jn] ⟨zT,wV,zU,ZD,N0,trivial⟩ Tryz.func109 [2,5,7] k (fun k=> [(1,⟨[0,2,3],[fh,n_,n_],fun x=>uG k x.1.1 x.1.2.1 x.1.2.2.1 x.1.2.2.2 x.2.1.1 x.2.1.2.1 x.2.1.2.2.1 x.2.1.2.2.2.1 x.2.1.2.2.2.2 x.2.2.1 x.2.2.2.1 x.2.2.2.2.1 x.2.2.2.2.2.1 x.2.2.2.2.2.2,false⟩),(3,⟨[0,2,3],[fh,n_,M7],fun x=>wT k x.1.1 x.1.2.1 x.1.2.2.1 x.1.2.2.2 x.2.1.1 x.2.1.2.1 x.2.1.2.2.1 x.2.1.2.2.2.1 x.2.1.2.2.2.2 x.2.2.1 x.2.2.2.1 x.2.2.2.2.1 x.2.2.2.2.2.1 x.2.2.2.2.2.2,false⟩),(5,⟨[0,2,3],[fh,n_,M7],fun x=>wU k x.1.1 x.1.2.1 x.1.2.2.1 x.1.2.2.2 x.2.1.1 x.2.1.2.1 x.2.1.2.2.1 x.2.1.2.2.2.1 x.2.1.2.2.2.2 x.2.2.1 x.2.2.2.1 x.2.2.2.2.1 x.2.2.2.2.2.1 x.2.2.2.2.2.2,false⟩)]) ⟨fun _=>rfl,fun _=>rfl,fun _=>rfl,trivial⟩ (fun _=>by kernel_rfl) (fun _=>by kernel_rfl) (by kernel_rfl)
abbrev iq:=aB→Int→Option (List ax×aB)
abbrev wR (f:iq):Entry S:=⟨32,[lF,q1],[vY],fun x=>f x.1 x.2⟩
abbrev ZO:=aB→Int→Option (ax×aB)
abbrev N7 (f:ZO):Entry S:=⟨71,[lF,q1],[zz],fun x=>f x.1 x.2⟩
mutual
def uF (bR:iq):Nat→(List ai)→Int→Int→Int→Int→Int→(List UInt8)→(List aj)→(List aj)→(List aK)→(List ax)→Int→Int→(List UInt8)→(List aj)→(List aj)→(List aK)→(List ax)→Int→Option (ax×aB)
 | 0,_,_,_,_,_,_,_,_,_,_,_,_,_,_,_,_,_,_,_=>none
 | k+1,bY,bN,cP,c8,deep,fA,gZ,l9,l_,mb,iu,fy,eR,fu,eX,fq,eu,eP,eO=>(bO (aB.mk bY bN (aF.mk cP c8)) eT).bind fun r8=>
  bif r8.1 then
  zX bR k r8.2.l r8.2.ah r8.2.bad.Code r8.2.bad.At deep fA gZ l9 l_ mb iu fy eR fu eX fq eu eP eO else
  (bO r8.2 gW).bind fun r9=>
  bif r9.1 then
  zX bR k r9.2.l r9.2.ah r9.2.bad.Code r9.2.bad.At deep fA gZ l9 l_ mb iu fy eR fu eX fq eu eP eO else
  (bR r9.2 (an (deep+1))).bind fun aT=>
  (bV aT.2 gG).bind fun bC=>
  some (ax.mk eR fu eX fq eu aT.1 eO,bC)
def zX (bR:iq):Nat→(List ai)→Int→Int→Int→Int→Int→(List UInt8)→(List aj)→(List aj)→(List aK)→(List ax)→Int→Int→(List UInt8)→(List aj)→(List aj)→(List aK)→(List ax)→Int→Option (ax×aB)
 | 0,_,_,_,_,_,_,_,_,_,_,_,_,_,_,_,_,_,_,_=>none
 | k+1,bY,bN,cP,c8,deep,fA,gZ,l9,l_,mb,iu,fy,eR,fu,eX,fq,eu,eP,eO=>(wS (aB.mk bY bN (aF.mk cP c8))).bind fun bp=>
  if (eu.length+ [bp.1].length)*88≤140737488355328 then
  uF bR k bp.2.l bp.2.ah bp.2.bad.Code bp.2.bad.At deep fA gZ l9 l_ mb iu fy eR fu eX fq (eu++ [bp.1]) eP eO else none
end
def HB (bR:iq):Nat→(List ai)→Int→Int→Int→Int→Int→(List UInt8)→(List aj)→(List aj)→(List aK)→(List ax)→Int→Int→(List UInt8)→(List aj)→(List aj)→(List aK)→(List ax)→Int→Option (ax×aB)
 | 0,_,_,_,_,_,_,_,_,_,_,_,_,_,_,_,_,_,_,_=>none
 | k+1,bY,bN,cP,c8,deep,fA,gZ,l9,l_,mb,iu,fy,eR,fu,eX,fq,eu,eP,eO=>uF bR k bY bN cP c8 deep fA gZ l9 l_ mb iu fy eR fu eX fq eu eP eO
def zW (bR:iq):Nat→(List ai)→Int→Int→Int→Int→Int→(List UInt8)→(List aj)→(List aj)→(List aK)→(List ax)→Int→Int→(List UInt8)→(List aj)→(List aj)→(List aK)→(List ax)→Int→Option (ax×aB)
 | 0,_,_,_,_,_,_,_,_,_,_,_,_,_,_,_,_,_,_,_=>none
 | k+1,bY,bN,cP,c8,deep,fA,gZ,l9,l_,mb,iu,fy,eR,fu,eX,fq,eu,eP,eO=>(bO (aB.mk bY bN (aF.mk cP c8)) oC).bind fun r6=>
  bif r6.1 then
  (jn (aB.mk r6.2.l (an (r6.2.ah+1)) r6.2.bad)).bind fun r7=>
  HB bR k r7.2.l r7.2.ah r7.2.bad.Code r7.2.bad.At deep fA gZ l9 l_ mb iu fy eR fu eX r7.1 eu eP eO else
  HB bR k r6.2.l r6.2.ah r6.2.bad.Code r6.2.bad.At deep fA gZ l9 l_ mb iu fy eR fu eX fq eu eP eO
def zV (bR:iq):Nat→(List ai)→Int→Int→Int→Int→Int→(List UInt8)→(List aj)→(List aj)→(List aK)→(List ax)→Int→Int→(List UInt8)→(List aj)→(List aj)→(List aK)→(List ax)→Int→Option (ax×aB)
 | 0,_,_,_,_,_,_,_,_,_,_,_,_,_,_,_,_,_,_,_=>none
 | k+1,bY,bN,cP,c8,deep,fA,gZ,l9,l_,mb,iu,fy,eR,fu,eX,fq,eu,eP,eO=>(eW (aB.mk bY (an (bN+1)) (aF.mk cP c8))).bind fun r2=>
  (bV r2.2 eS).bind fun r3=>
  (bO r3 oA).bind fun r4=>
  bif r4.1 then
  (jn (aB.mk r4.2.l (an (r4.2.ah+1)) r4.2.bad)).bind fun r5=>
  zW bR k r5.2.l r5.2.ah r5.2.bad.Code r5.2.bad.At deep fA gZ l9 l_ mb iu fy eR r2.1 r5.1 fq eu eP eO else
  zW bR k r4.2.l r4.2.ah r4.2.bad.Code r4.2.bad.At deep fA gZ l9 l_ mb iu fy eR r2.1 eX fq eu eP eO
def wP (bR:iq) (k:Nat) (r_:aB) (deep:Int):Option (ax×aB):=if 0≤r_.ah then
 if r_.ah<(r_.l.length:Int) then
 (bO r_ gF).bind fun r1=>
 bif r1.1 then
 zV bR k r1.2.l r1.2.ah r1.2.bad.Code r1.2.bad.At deep 0 [] [] [] [] [] 0 2 [] [] [] [] [] ((r_.l.getD r_.ah.toNat ai.z).At) else
 zV bR k r1.2.l r1.2.ah r1.2.bad.Code r1.2.bad.At deep 0 [] [] [] [] [] 0 1 [] [] [] [] [] ((r_.l.getD r_.ah.toNat ai.z).At) else none else none
def wO (bR:iq)  (r_:aB) (deep:Int):Option (ax×aB):=bu (fun k (x:aB×Int)=>wP bR k x.1 x.2) (r_,deep)
theorem ZN (bR:iq) (Fv:av Tryz.prog S (wR bR)):av Tryz.prog S (N7 (wO bR)):=dF (fun k x=>wP bR k x.1 x.2) (fun _=>rfl) fun k=>
 cu pk [wM bO,wN eW,uH bV,Hy jn,wR bR,N8 wS] ⟨zT,zU,wV,N0,Fv,ZR,trivial⟩ Tryz.func71 [2,7,10,14] k (fun k=> [(1,⟨[0,1,4,5],[fh,q1,vZ,vZ],fun x=>zV bR k x.1.1 x.1.2.1 x.1.2.2.1 x.1.2.2.2 x.2.1 x.2.2.1.1 x.2.2.1.2.1 x.2.2.1.2.2.1 x.2.2.1.2.2.2.1 x.2.2.1.2.2.2.2.1 x.2.2.1.2.2.2.2.2.1 x.2.2.1.2.2.2.2.2.2 x.2.2.2.1 x.2.2.2.2.1 x.2.2.2.2.2.1 x.2.2.2.2.2.2.1 x.2.2.2.2.2.2.2.1 x.2.2.2.2.2.2.2.2.1 x.2.2.2.2.2.2.2.2.2,false⟩),(3,⟨[0,1,4,5],[fh,q1,vZ,XJ],fun x=>zW bR k x.1.1 x.1.2.1 x.1.2.2.1 x.1.2.2.2 x.2.1 x.2.2.1.1 x.2.2.1.2.1 x.2.2.1.2.2.1 x.2.2.1.2.2.2.1 x.2.2.1.2.2.2.2.1 x.2.2.1.2.2.2.2.2.1 x.2.2.1.2.2.2.2.2.2 x.2.2.2.1 x.2.2.2.2.1 x.2.2.2.2.2.1 x.2.2.2.2.2.2.1 x.2.2.2.2.2.2.2.1 x.2.2.2.2.2.2.2.2.1 x.2.2.2.2.2.2.2.2.2,false⟩),(5,⟨[0,1,4,5],[fh,q1,vZ,GY],fun x=>HB bR k x.1.1 x.1.2.1 x.1.2.2.1 x.1.2.2.2 x.2.1 x.2.2.1.1 x.2.2.1.2.1 x.2.2.1.2.2.1 x.2.2.1.2.2.2.1 x.2.2.1.2.2.2.2.1 x.2.2.1.2.2.2.2.2.1 x.2.2.1.2.2.2.2.2.2 x.2.2.2.1 x.2.2.2.2.1 x.2.2.2.2.2.1 x.2.2.2.2.2.2.1 x.2.2.2.2.2.2.2.1 x.2.2.2.2.2.2.2.2.1 x.2.2.2.2.2.2.2.2.2,false⟩),(0,⟨[0,1,4,5],[fh,q1,vZ,GY],fun x=>uF bR k x.1.1 x.1.2.1 x.1.2.2.1 x.1.2.2.2 x.2.1 x.2.2.1.1 x.2.2.1.2.1 x.2.2.1.2.2.1 x.2.2.1.2.2.2.1 x.2.2.1.2.2.2.2.1 x.2.2.1.2.2.2.2.2.1 x.2.2.1.2.2.2.2.2.2 x.2.2.2.1 x.2.2.2.2.1 x.2.2.2.2.2.1 x.2.2.2.2.2.2.1 x.2.2.2.2.2.2.2.1 x.2.2.2.2.2.2.2.2.1 x.2.2.2.2.2.2.2.2.2,false⟩),(7,⟨[0,1,4,5],[fh,q1,vZ,GY],fun x=>zX bR k x.1.1 x.1.2.1 x.1.2.2.1 x.1.2.2.2 x.2.1 x.2.2.1.1 x.2.2.1.2.1 x.2.2.1.2.2.1 x.2.2.1.2.2.2.1 x.2.2.1.2.2.2.2.1 x.2.2.1.2.2.2.2.2.1 x.2.2.1.2.2.2.2.2.2 x.2.2.2.1 x.2.2.2.2.1 x.2.2.2.2.2.1 x.2.2.2.2.2.2.1 x.2.2.2.2.2.2.2.1 x.2.2.2.2.2.2.2.2.1 x.2.2.2.2.2.2.2.2.2,false⟩)]) ⟨fun _=>rfl,fun _=>rfl,fun _=>rfl,fun _=>rfl,fun _=>rfl,trivial⟩ (fun _=>by kernel_rfl) (fun _=>by kernel_rfl) (by kernel_rfl)
mutual
def ox (bR:iq):Nat→(List ai)→Int→Int→Int→Int→(List ax)→Option (List ax×aB)
 | 0,_,_,_,_,_,_=>none
 | k+1,bY,bN,cP,c8,deep,out=>(bO (aB.mk bY bN (aF.mk cP c8)) fS).bind fun r1=>
  bif r1.1 then
  p_ bR k r1.2.l r1.2.ah r1.2.bad.Code r1.2.bad.At deep out else
  (bO r1.2 gF).bind fun r2=>
  bif r2.1 then
  p_ bR k r2.2.l r2.2.ah r2.2.bad.Code r2.2.bad.At deep out else
  (bO r2.2 fQ).bind fun r3=>
  bif r3.1 then
  p_ bR k r3.2.l r3.2.ah r3.2.bad.Code r3.2.bad.At deep out else
  (bO r3.2 eY).bind fun r4=>
  bif r4.1 then
  p_ bR k r4.2.l r4.2.ah r4.2.bad.Code r4.2.bad.At deep out else
  some (out,r4.2)
def p_ (bR:iq):Nat→(List ai)→Int→Int→Int→Int→(List ax)→Option (List ax×aB)
 | 0,_,_,_,_,_,_=>none
 | k+1,bY,bN,cP,c8,deep,out=>if 12<deep then
  if 0≤bN then
  if bN<(bY.length:Int) then
  some ([],aB.mk bY bN (aF.mk 14 ((bY.getD bN.toNat ai.z).At))) else none else none else
  (bO (aB.mk bY bN (aF.mk cP c8)) fQ).bind fun r5=>
  bif r5.1 then
  zY bR k r5.2.l r5.2.ah r5.2.bad.Code r5.2.bad.At deep out true else
  (bO r5.2 eY).bind fun r6=>
  zY bR k r6.2.l r6.2.ah r6.2.bad.Code r6.2.bad.At deep out r6.1
def zY (bR:iq):Nat→(List ai)→Int→Int→Int→Int→(List ax)→Bool→Option (List ax×aB)
 | 0,_,_,_,_,_,_,_=>none
 | k+1,bY,bN,cP,c8,deep,out,x42=>bif x42 then
  (rZ (aB.mk bY bN (aF.mk cP c8))).bind fun r7=>
  if (out.length+ [r7.1].length)*128≤140737488355328 then
  ox bR k r7.2.l r7.2.ah r7.2.bad.Code r7.2.bad.At deep (out++ [r7.1]) else none else
  (wO bR (aB.mk bY bN (aF.mk cP c8)) deep).bind fun r8=>
  if (out.length+ [r8.1].length)*128≤140737488355328 then
  ox bR k r8.2.l r8.2.ah r8.2.bad.Code r8.2.bad.At deep (out++ [r8.1]) else none
end
def CD (bR:iq) (k:Nat) (r_:aB) (deep:Int):Option (List ax×aB):=ox bR k r_.l r_.ah r_.bad.Code r_.bad.At deep []
def dD:Nat→aB→Int→Option (List ax×aB)
 | 0,_,_=>none
 | k+1,x0,x1=>CD (dD k) k x0 x1
def wQ  (r_:aB) (deep:Int):Option (List ax×aB):=bu (fun k (x:aB×Int)=>dD k x.1 x.2) (r_,deep)
theorem ZQ (bR:iq) (k:Nat) (Fv:av Tryz.prog S (wR bR)):av Tryz.prog S (wR (CD bR k)):=
 cu pk [wM bO,N4 rZ,N7 (wO bR)] ⟨zT,ZF,ZN bR Fv,trivial⟩ Tryz.func32 [3,9] k (fun k=> [(0,⟨[0,1,5],[fh,q1,vY],fun x=>ox bR k x.1.1 x.1.2.1 x.1.2.2.1 x.1.2.2.2 x.2.1 x.2.2,false⟩),(1,⟨[0,1,5],[fh,q1,vY],fun x=>p_ bR k x.1.1 x.1.2.1 x.1.2.2.1 x.1.2.2.2 x.2.1 x.2.2,false⟩),(3,⟨[0,1,5,42],[fh,q1,vY,q3],fun x=>zY bR k x.1.1 x.1.2.1 x.1.2.2.1 x.1.2.2.2 x.2.1 x.2.2.1 x.2.2.2,false⟩)]) ⟨fun _=>rfl,fun _=>rfl,fun _=>rfl,trivial⟩ (fun _=>by kernel_rfl) (fun _=>by kernel_rfl) (by kernel_rfl)
theorem ZP:av Tryz.prog S (wR (wQ)):=iO (fun k x=>dD k x.1 x.2) (fun _=>rfl) Tryz.func32 (by kernel_rfl) (fun _=>rfl) fun k h=>ZQ (dD k) k h
abbrev Zz:=(List ai)→Int→Option (b7×Int×aF)
abbrev NY (f:Zz):Entry S:=⟨15,[gv,q1],[pP,q1,q8],fun x=>f x.1 x.2⟩
def wK  (l:List ai) (ah:Int):Option (b7×Int×aF):=if 0≤ah then
 if ah<(l.length:Int) then
 (bV (aB.mk l ah (aF.mk 0 0)) ng).bind fun r1=>
 (eW r1).bind fun r2=>
 (bV r2.2 nj).bind fun r3=>
 (j5 r3).bind fun r4=>
 (bV r4.2 nh).bind fun r5=>
 (j5 r5).bind fun r6=>
 (bV r6.2 eS).bind fun r7=>
 (ow r7 iN).bind fun r8=>
 (ow r8.2 ql).bind fun r9=>
 (ow r9.2 qo).bind fun aT=>
 (wQ aT.2 1).bind fun bC=>
 (bV bC.2 gG).bind fun bp=>
 (dh bp).bind fun bL=>
 bif !bL.1 then
 some (b7.mk [] 0 0 [] [] [] [] 0,0,bL.2.bad) else
 some (b7.mk r2.1 r4.1 r6.1 r8.1 r9.1 aT.1 bC.1 ((l.getD ah.toNat ai.z).At),bL.2.ah,aF.mk 0 0) else none else none
theorem Zy:av Tryz.prog S (NY (wK)):=
 aZ pk [uH bV,wN eW,HA j5,N5 ow,wR wQ,sj dh] ⟨wV,zU,N6,ZJ,ZP,uE,trivial⟩ Tryz.func15 (by kernel_rfl) (fun _=>by kernel_rfl) (by kernel_rfl)
abbrev Sp:=aJ→aJ→Option Bool
abbrev Sn (f:Sp):Entry S:=⟨73,[GU,GU],[q3],fun x=>f x.1 x.2⟩
def x5  (x:aJ) (y:aJ):Option Bool:=if x.Name=y.Name then some (decide (x.N=y.N)) else some false
theorem So:av Tryz.prog S (Sn (x5)):=
 aZ pk [] trivial Tryz.func73 (by kernel_rfl) (fun _=>by kernel_rfl) (by kernel_rfl)
abbrev aaV:=(List aJ)→(List aJ)→((aJ×aJ)→Option Bool)→Option Bool
abbrev OX (f:aaV):Entry S:=⟨72,[kB,kB,M8],[q3],fun x=>f x.1 x.2.1 x.2.2⟩
def xl:Nat→(List aJ)→((aJ×aJ)→Option Bool)→(List aJ)→Int→Int→Option Bool
 | 0,_,_,_,_,_=>none
 | k+1,s2,eq,b6,iR,a_=>if a_<iR then
  if 0≤a_ then
  if a_<(b6.length:Int) then
  if 0≤a_ then
  if a_<(s2.length:Int) then
  (eq (b6.getD a_.toNat aJ.z,s2.getD a_.toNat aJ.z)).bind fun r1=>
  bif !r1 then
  some false else
  xl k s2 eq b6 iR (an (a_+1)) else none else none else none else none else
  some true
def Df (k:Nat) (s1:List aJ) (s2:List aJ) (eq:(aJ×aJ)→Option Bool):Option Bool:=if (s1.length:Int)≠(s2.length:Int) then
 some false else
 xl k s2 eq s1 (s1.length:Int) 0
def De  (s1:List aJ) (s2:List aJ) (eq:(aJ×aJ)→Option Bool):Option Bool:=bu (fun k (x:List aJ×List aJ×((aJ×aJ)→Option Bool))=>Df k x.1 x.2.1 x.2.2) (s1,s2,eq)
theorem aaU:av Tryz.prog S (OX (De)):=dF (fun k x=>Df k x.1 x.2.1 x.2.2) (fun _=>rfl) fun k=>
 cu pk [] trivial Tryz.func72 [] k (fun k=> [(0,⟨[1,2,15,16,17],[kB,M8,kB,q1,q1],fun x=>xl k x.1 x.2.1 x.2.2.1 x.2.2.2.1 x.2.2.2.2,false⟩)]) ⟨fun _=>rfl,trivial⟩ (fun _=>by kernel_rfl) (fun _=>by kernel_rfl) (by kernel_rfl)
abbrev Ss:=(List aJ)→(List aJ)→Option Bool
abbrev JD (f:Ss):Entry S:=⟨34,[kB,kB],[q3],fun x=>f x.1 x.2⟩
def tq  (a:List aJ) (b:List aJ):Option Bool:=(De a b (fun y=>x5 y.1 y.2)).bind fun r1=>
 some r1
theorem Sr:av Tryz.prog S (JD (tq)):=
 pn pk ⟨[OX De],[⟨73,[.st 4, .st 4],[],[.bool],fun x c=>x5 x.1 x.2⟩],false,false,none,[]⟩ ⟨aaU,trivial⟩ (all_nil) (all_cons (eZ.of (a:= [.st 4, .st 4]) (c:= []) (r:= [.bool]) So (fun _ _ z h=>⟨z,h,rfl⟩)) all_nil) Tryz.func34 [] 0 (fun k=> []) trivial (fun _=>by kernel_rfl) (fun _=>by kernel_rfl) (by kernel_rfl)
abbrev aaT:=(List ak)→(List ak)→((ak×ak)→Option Bool)→Option Bool
abbrev Dd (f:aaT):Entry S:=⟨112,[jj,jj,M9],[q3],fun x=>f x.1 x.2.1 x.2.2⟩
def xk:Nat→(List ak)→((ak×ak)→Option Bool)→(List ak)→Int→Int→Option Bool
 | 0,_,_,_,_,_=>none
 | k+1,s2,eq,b6,iR,a_=>if a_<iR then
  if 0≤a_ then
  if a_<(b6.length:Int) then
  if 0≤a_ then
  if a_<(s2.length:Int) then
  (eq (ak.mk ((b6.getD a_.toNat ak.z).Kind) ((b6.getD a_.toNat ak.z).N) ((b6.getD a_.toNat ak.z).Name) ((b6.getD a_.toNat ak.z).Kids) ((b6.getD a_.toNat ak.z).At),ak.mk ((s2.getD a_.toNat ak.z).Kind) ((s2.getD a_.toNat ak.z).N) ((s2.getD a_.toNat ak.z).Name) ((s2.getD a_.toNat ak.z).Kids) ((s2.getD a_.toNat ak.z).At))).bind fun r1=>
  bif !r1 then
  some false else
  xk k s2 eq b6 iR (an (a_+1)) else none else none else none else none else
  some true
def Dc (k:Nat) (s1:List ak) (s2:List ak) (eq:(ak×ak)→Option Bool):Option Bool:=if (s1.length:Int)≠(s2.length:Int) then
 some false else
 xk k s2 eq s1 (s1.length:Int) 0
def sC  (s1:List ak) (s2:List ak) (eq:(ak×ak)→Option Bool):Option Bool:=bu (fun k (x:List ak×List ak×((ak×ak)→Option Bool))=>Dc k x.1 x.2.1 x.2.2) (s1,s2,eq)
theorem H_:av Tryz.prog S (Dd (sC)):=dF (fun k x=>Dc k x.1 x.2.1 x.2.2) (fun _=>rfl) fun k=>
 cu pk [] trivial Tryz.func112 [] k (fun k=> [(0,⟨[1,2,15,16,17],[jj,M9,jj,q1,q1],fun x=>xk k x.1 x.2.1 x.2.2.1 x.2.2.2.1 x.2.2.2.2,false⟩)]) ⟨fun _=>rfl,trivial⟩ (fun _=>by kernel_rfl) (fun _=>by kernel_rfl) (by kernel_rfl)
abbrev EY:=ak→ak→Option Bool
abbrev EX (f:EY):Entry S:=⟨113,[jA,jA],[q3],fun x=>f x.1 x.2⟩
def Bb (Aa:EY) (k:Nat) (a:ak) (b:ak):Option Bool:=if a.Kind=b.Kind then
 if a.N=b.N then
 if a.Name=b.Name then
 (sC a.Kids b.Kids (fun y=>Aa y.1 y.2)).bind fun r1=>
 some r1 else
 some false else
 some false else
 some false
def vt:Nat→ak→ak→Option Bool
 | 0,_,_=>none
 | k+1,x0,x1=>Bb (vt k) k x0 x1
def qX  (a:ak) (b:ak):Option Bool:=bu (fun k (x:ak×ak)=>vt k x.1 x.2) (a,b)
theorem TD (Aa:EY) (k:Nat) (Us:av Tryz.prog S (EX Aa)):av Tryz.prog S (EX (Bb Aa k)):=
 pn pk ⟨[Dd sC],[⟨113,[.st 7, .st 7],[],[.bool],fun x c=>Aa x.1 x.2⟩],false,false,none,[]⟩ ⟨H_,trivial⟩ (all_nil) (all_cons (eZ.of (a:= [.st 7, .st 7]) (c:= []) (r:= [.bool]) Us (fun _ _ z h=>⟨z,h,rfl⟩)) all_nil) Tryz.func113 [] k (fun k=> []) trivial (fun _=>by kernel_rfl) (fun _=>by kernel_rfl) (by kernel_rfl)
theorem Ky:av Tryz.prog S (EX (qX)):=iO (fun k x=>vt k x.1 x.2) (fun _=>rfl) Tryz.func113 (by kernel_rfl) (fun _=>rfl) fun k h=>TD (vt k) k h
abbrev xO:=(List aj)→(List aj)→Option Bool
abbrev s8 (f:xO):Entry S:=⟨76,[kA,kA],[q3],fun x=>f x.1 x.2⟩
abbrev QO:=aj→aj→Option Bool
abbrev QK (f:QO):Entry S:=⟨111,[n9,n9],[q3],fun x=>f x.1 x.2⟩
def xN (kK:xO)  (x:aj) (y:aj):Option Bool:=if x.Kind=y.Kind then
 if x.Name=y.Name then
 if x.Event=y.Event then
 if x.N=y.N then
 (sC x.X y.X (fun y=>qX y.1 y.2)).bind fun r1=>
 bif r1 then
 (kK x.eU y.eU).bind fun r2=>
 bif r2 then
 (kK x.eB y.eB).bind fun r3=>
 some r3 else
 some false else
 some false else
 some false else
 some false else
 some false else
 some false
theorem QM (kK:xO) (Fp:av Tryz.prog S (s8 kK)):av Tryz.prog S (QK (xN kK)):=
 pn pk ⟨[Dd sC,s8 kK],[⟨113,[.st 7, .st 7],[],[.bool],fun x c=>qX x.1 x.2⟩],false,false,none,[]⟩ ⟨H_,Fp,trivial⟩ (all_nil) (all_cons (eZ.of (a:= [.st 7, .st 7]) (c:= []) (r:= [.bool]) Ky (fun _ _ z h=>⟨z,h,rfl⟩)) all_nil) Tryz.func111 [] 0 (fun k=> []) trivial (fun _=>by kernel_rfl) (fun _=>by kernel_rfl) (by kernel_rfl)
abbrev aaS:=(List aj)→(List aj)→((aj×aj)→Option Bool)→Option Bool
abbrev OW (f:aaS):Entry S:=⟨110,[kA,kA,M_],[q3],fun x=>f x.1 x.2.1 x.2.2⟩
def xj:Nat→(List aj)→((aj×aj)→Option Bool)→(List aj)→Int→Int→Option Bool
 | 0,_,_,_,_,_=>none
 | k+1,s2,eq,b6,iR,a_=>if a_<iR then
  if 0≤a_ then
  if a_<(b6.length:Int) then
  if 0≤a_ then
  if a_<(s2.length:Int) then
  (eq (aj.mk ((b6.getD a_.toNat aj.z).Kind) ((b6.getD a_.toNat aj.z).Name) ((b6.getD a_.toNat aj.z).Event) ((b6.getD a_.toNat aj.z).X) ((b6.getD a_.toNat aj.z).N) ((b6.getD a_.toNat aj.z).eU) ((b6.getD a_.toNat aj.z).eB) ((b6.getD a_.toNat aj.z).At),aj.mk ((s2.getD a_.toNat aj.z).Kind) ((s2.getD a_.toNat aj.z).Name) ((s2.getD a_.toNat aj.z).Event) ((s2.getD a_.toNat aj.z).X) ((s2.getD a_.toNat aj.z).N) ((s2.getD a_.toNat aj.z).eU) ((s2.getD a_.toNat aj.z).eB) ((s2.getD a_.toNat aj.z).At))).bind fun r1=>
  bif !r1 then
  some false else
  xj k s2 eq b6 iR (an (a_+1)) else none else none else none else none else
  some true
def Db (k:Nat) (s1:List aj) (s2:List aj) (eq:(aj×aj)→Option Bool):Option Bool:=if (s1.length:Int)≠(s2.length:Int) then
 some false else
 xj k s2 eq s1 (s1.length:Int) 0
def Da  (s1:List aj) (s2:List aj) (eq:(aj×aj)→Option Bool):Option Bool:=bu (fun k (x:List aj×List aj×((aj×aj)→Option Bool))=>Db k x.1 x.2.1 x.2.2) (s1,s2,eq)
theorem aaR:av Tryz.prog S (OW (Da)):=dF (fun k x=>Db k x.1 x.2.1 x.2.2) (fun _=>rfl) fun k=>
 cu pk [] trivial Tryz.func110 [] k (fun k=> [(0,⟨[1,2,15,16,17],[kA,M_,kA,q1,q1],fun x=>xj k x.1 x.2.1 x.2.2.1 x.2.2.2.1 x.2.2.2.2,false⟩)]) ⟨fun _=>rfl,trivial⟩ (fun _=>by kernel_rfl) (fun _=>by kernel_rfl) (by kernel_rfl)
def Az (kK:xO) (k:Nat) (a:List aj) (b:List aj):Option Bool:=(Da a b (fun y=>xN kK y.1 y.2)).bind fun r1=>
 some r1
def s7:Nat→(List aj)→(List aj)→Option Bool
 | 0,_,_=>none
 | k+1,x0,x1=>Az (s7 k) k x0 x1
def s6  (a:List aj) (b:List aj):Option Bool:=bu (fun k (x:List aj×List aj)=>s7 k x.1 x.2) (a,b)
theorem QU (kK:xO) (k:Nat) (Fp:av Tryz.prog S (s8 kK)):av Tryz.prog S (s8 (Az kK k)):=
 pn pk ⟨[OW Da],[⟨111,[.st 6, .st 6],[],[.bool],fun x c=>xN kK x.1 x.2⟩],false,false,none,[]⟩ ⟨aaR,trivial⟩ (all_nil) (all_cons (eZ.of (a:= [.st 6, .st 6]) (c:= []) (r:= [.bool]) (QM kK Fp) (fun _ _ z h=>⟨z,h,rfl⟩)) all_nil) Tryz.func76 [] k (fun k=> []) trivial (fun _=>by kernel_rfl) (fun _=>by kernel_rfl) (by kernel_rfl)
theorem IX:av Tryz.prog S (s8 (s6)):=iO (fun k x=>s7 k x.1 x.2) (fun _=>rfl) Tryz.func76 (by kernel_rfl) (fun _=>rfl) fun k h=>QU (s7 k) k h
abbrev Sm:=aK→aK→Option Bool
abbrev Sk (f:Sm):Entry S:=⟨78,[zx,zx],[q3],fun x=>f x.1 x.2⟩
def x4  (x:aK) (y:aK):Option Bool:=if x.Event=y.Event then
 if x.Target=y.Target then
 (sC x.Guard y.Guard (fun y=>qX y.1 y.2)).bind fun r1=>
 bif r1 then
 (s6 x.oO y.oO).bind fun r2=>
 some r2 else
 some false else
 some false else
 some false
theorem Sl:av Tryz.prog S (Sk (x4)):=
 pn pk ⟨[Dd sC,s8 s6],[⟨113,[.st 7, .st 7],[],[.bool],fun x c=>qX x.1 x.2⟩],false,false,none,[]⟩ ⟨H_,IX,trivial⟩ (all_nil) (all_cons (eZ.of (a:= [.st 7, .st 7]) (c:= []) (r:= [.bool]) Ky (fun _ _ z h=>⟨z,h,rfl⟩)) all_nil) Tryz.func78 [] 0 (fun k=> []) trivial (fun _=>by kernel_rfl) (fun _=>by kernel_rfl) (by kernel_rfl)
abbrev aaZ:=(List aK)→(List aK)→((aK×aK)→Option Bool)→Option Bool
abbrev OZ (f:aaZ):Entry S:=⟨77,[pQ,pQ,Na],[q3],fun x=>f x.1 x.2.1 x.2.2⟩
def xo:Nat→(List aK)→((aK×aK)→Option Bool)→(List aK)→Int→Int→Option Bool
 | 0,_,_,_,_,_=>none
 | k+1,s2,eq,b6,iR,a_=>if a_<iR then
  if 0≤a_ then
  if a_<(b6.length:Int) then
  if 0≤a_ then
  if a_<(s2.length:Int) then
  (eq (b6.getD a_.toNat aK.z,s2.getD a_.toNat aK.z)).bind fun r1=>
  bif !r1 then
  some false else
  xo k s2 eq b6 iR (an (a_+1)) else none else none else none else none else
  some true
def Dj (k:Nat) (s1:List aK) (s2:List aK) (eq:(aK×aK)→Option Bool):Option Bool:=if (s1.length:Int)≠(s2.length:Int) then
 some false else
 xo k s2 eq s1 (s1.length:Int) 0
def Di  (s1:List aK) (s2:List aK) (eq:(aK×aK)→Option Bool):Option Bool:=bu (fun k (x:List aK×List aK×((aK×aK)→Option Bool))=>Dj k x.1 x.2.1 x.2.2) (s1,s2,eq)
theorem aaY:av Tryz.prog S (OZ (Di)):=dF (fun k x=>Dj k x.1 x.2.1 x.2.2) (fun _=>rfl) fun k=>
 cu pk [] trivial Tryz.func77 [] k (fun k=> [(0,⟨[1,2,15,16,17],[pQ,Na,pQ,q1,q1],fun x=>xo k x.1 x.2.1 x.2.2.1 x.2.2.2.1 x.2.2.2.2,false⟩)]) ⟨fun _=>rfl,trivial⟩ (fun _=>by kernel_rfl) (fun _=>by kernel_rfl) (by kernel_rfl)
abbrev ye:=(List ax)→(List ax)→Option Bool
abbrev vk (f:ye):Entry S:=⟨35,[lE,lE],[q3],fun x=>f x.1 x.2⟩
abbrev SR:=ax→ax→Option Bool
abbrev SP (f:SR):Entry S:=⟨75,[zz,zz],[q3],fun x=>f x.1 x.2⟩
def yd (lZ:ye)  (x:ax) (y:ax):Option Bool:=if x.Kind=y.Kind then
 if x.Name=y.Name then
 (s6 x.Entry y.Entry).bind fun r1=>
 bif r1 then
 (s6 x.Exit y.Exit).bind fun r2=>
 bif r2 then
 (Di x.Trans y.Trans (fun y=>x4 y.1 y.2)).bind fun r3=>
 bif r3 then
 (lZ x.Kids y.Kids).bind fun r4=>
 some r4 else
 some false else
 some false else
 some false else
 some false else
 some false
theorem SQ (lZ:ye) (Ft:av Tryz.prog S (vk lZ)):av Tryz.prog S (SP (yd lZ)):=
 pn pk ⟨[s8 s6,OZ Di,vk lZ],[⟨78,[.st 8, .st 8],[],[.bool],fun x c=>x4 x.1 x.2⟩],false,false,none,[]⟩ ⟨IX,aaY,Ft,trivial⟩ (all_nil) (all_cons (eZ.of (a:= [.st 8, .st 8]) (c:= []) (r:= [.bool]) Sl (fun _ _ z h=>⟨z,h,rfl⟩)) all_nil) Tryz.func75 [] 0 (fun k=> []) trivial (fun _=>by kernel_rfl) (fun _=>by kernel_rfl) (by kernel_rfl)
abbrev aaX:=(List ax)→(List ax)→((ax×ax)→Option Bool)→Option Bool
abbrev OY (f:aaX):Entry S:=⟨74,[lE,lE,Nb],[q3],fun x=>f x.1 x.2.1 x.2.2⟩
def xm:Nat→(List ax)→((ax×ax)→Option Bool)→(List ax)→Int→Int→Option Bool
 | 0,_,_,_,_,_=>none
 | k+1,s2,eq,b6,iR,a_=>if a_<iR then
  if 0≤a_ then
  if a_<(b6.length:Int) then
  if 0≤a_ then
  if a_<(s2.length:Int) then
  (eq (ax.mk ((b6.getD a_.toNat ax.z).Kind) ((b6.getD a_.toNat ax.z).Name) ((b6.getD a_.toNat ax.z).Entry) ((b6.getD a_.toNat ax.z).Exit) ((b6.getD a_.toNat ax.z).Trans) ((b6.getD a_.toNat ax.z).Kids) ((b6.getD a_.toNat ax.z).At),ax.mk ((s2.getD a_.toNat ax.z).Kind) ((s2.getD a_.toNat ax.z).Name) ((s2.getD a_.toNat ax.z).Entry) ((s2.getD a_.toNat ax.z).Exit) ((s2.getD a_.toNat ax.z).Trans) ((s2.getD a_.toNat ax.z).Kids) ((s2.getD a_.toNat ax.z).At))).bind fun r1=>
  bif !r1 then
  some false else
  xm k s2 eq b6 iR (an (a_+1)) else none else none else none else none else
  some true
def Dh (k:Nat) (s1:List ax) (s2:List ax) (eq:(ax×ax)→Option Bool):Option Bool:=if (s1.length:Int)≠(s2.length:Int) then
 some false else
 xm k s2 eq s1 (s1.length:Int) 0
def Dg  (s1:List ax) (s2:List ax) (eq:(ax×ax)→Option Bool):Option Bool:=bu (fun k (x:List ax×List ax×((ax×ax)→Option Bool))=>Dh k x.1 x.2.1 x.2.2) (s1,s2,eq)
theorem aaW:av Tryz.prog S (OY (Dg)):=dF (fun k x=>Dh k x.1 x.2.1 x.2.2) (fun _=>rfl) fun k=>
 cu pk [] trivial Tryz.func74 [] k (fun k=> [(0,⟨[1,2,15,16,17],[lE,Nb,lE,q1,q1],fun x=>xm k x.1 x.2.1 x.2.2.1 x.2.2.2.1 x.2.2.2.2,false⟩)]) ⟨fun _=>rfl,trivial⟩ (fun _=>by kernel_rfl) (fun _=>by kernel_rfl) (by kernel_rfl)
def AZ (lZ:ye) (k:Nat) (a:List ax) (b:List ax):Option Bool:=(Dg a b (fun y=>yd lZ y.1 y.2)).bind fun r1=>
 some r1
def tv:Nat→(List ax)→(List ax)→Option Bool
 | 0,_,_=>none
 | k+1,x0,x1=>AZ (tv k) k x0 x1
def AY  (a:List ax) (b:List ax):Option Bool:=bu (fun k (x:List ax×List ax)=>tv k x.1 x.2) (a,b)
theorem SU (lZ:ye) (k:Nat) (Ft:av Tryz.prog S (vk lZ)):av Tryz.prog S (vk (AZ lZ k)):=
 pn pk ⟨[OY Dg],[⟨75,[.st 5, .st 5],[],[.bool],fun x c=>yd lZ x.1 x.2⟩],false,false,none,[]⟩ ⟨aaW,trivial⟩ (all_nil) (all_cons (eZ.of (a:= [.st 5, .st 5]) (c:= []) (r:= [.bool]) (SQ lZ Ft) (fun _ _ z h=>⟨z,h,rfl⟩)) all_nil) Tryz.func35 [] k (fun k=> []) trivial (fun _=>by kernel_rfl) (fun _=>by kernel_rfl) (by kernel_rfl)
theorem SS:av Tryz.prog S (vk (AY)):=iO (fun k x=>tv k x.1 x.2) (fun _=>rfl) Tryz.func35 (by kernel_rfl) (fun _=>rfl) fun k h=>SU (tv k) k h
abbrev Sj:=b7→b7→Option Bool
abbrev JC (f:Sj):Entry S:=⟨16,[pP,pP],[q3],fun x=>f x.1 x.2⟩
def xZ  (a:b7) (b:b7):Option Bool:=if a.Name=b.Name then
 if a.Steps=b.Steps then
 if a.Fuel=b.Fuel then
 (tq a.Vars b.Vars).bind fun r1=>
 bif r1 then
 (tq a.sP b.sP).bind fun r2=>
 bif r2 then
 (tq a.sS b.sS).bind fun r3=>
 bif r3 then
 (AY a.mh b.mh).bind fun r4=>
 some r4 else
 some false else
 some false else
 some false else
 some false else
 some false else
 some false
theorem Si:av Tryz.prog S (JC (xZ)):=
 aZ pk [JD tq,vk AY] ⟨Sr,SS,trivial⟩ Tryz.func16 (by kernel_rfl) (fun _=>by kernel_rfl) (by kernel_rfl)
abbrev ZV:=(List aJ)→(List aJ)→Option Bool
abbrev N9 (f:ZV):Entry S:=⟨36,[kB,kB],[q3],fun x=>f x.1 x.2⟩
def wX:Nat→(List aJ)→(List aJ)→Int→Option Bool
 | 0,_,_,_=>none
 | k+1,a,b,i=>if i<(a.length:Int) then
  if 0≤i then
  if i<(a.length:Int) then
  if 0≤i then
  if i<(b.length:Int) then
  if ((a.getD i.toNat aJ.z).Name)≠((b.getD i.toNat aJ.z).Name) then
  some false else
  if 0≤i then
  if i<(a.length:Int) then
  if 0≤i then
  if i<(b.length:Int) then
  if ((a.getD i.toNat aJ.z).N)≠((b.getD i.toNat aJ.z).N) then
  some false else
  wX k a b (an (i+1)) else none else none else none else none else none else none else none else none else
  some true
def CE (k:Nat) (a:List aJ) (b:List aJ):Option Bool:=if (a.length:Int)≠(b.length:Int) then some false else wX k a b 0
def wW  (a:List aJ) (b:List aJ):Option Bool:=bu (fun k (x:List aJ×List aJ)=>CE k x.1 x.2) (a,b)
theorem ZU:av Tryz.prog S (N9 (wW)):=dF (fun k x=>CE k x.1 x.2) (fun _=>rfl) fun k=>
 cu pk [] trivial Tryz.func36 [] k (fun k=> [(0,⟨[0,1,5],[kB,kB,q1],fun x=>wX k x.1 x.2.1 x.2.2,false⟩)]) ⟨fun _=>rfl,trivial⟩ (fun _=>by kernel_rfl) (fun _=>by kernel_rfl) (by kernel_rfl)
abbrev Cu:=ak→ak→Option Bool
abbrev zM (f:Cu):Entry S:=⟨136,[jA,jA],[q3],fun x=>f x.1 x.2⟩
def wF (qp:Cu):Nat→Int→Int→(List UInt8)→(List ak)→Int→Int→Int→(List UInt8)→(List ak)→Int→Int→Option Bool
 | 0,_,_,_,_,_,_,_,_,_,_,_=>none
 | k+1,gL,sX,cC,Ax,xM,RC,RD,RE,Ed,RA,i=>if i<(Ax.length:Int) then
  if 0≤i then
  if i<(Ax.length:Int) then
  if 0≤i then
  if i<(Ed.length:Int) then
  (qp (Ax.getD i.toNat ak.z) (Ed.getD i.toNat ak.z)).bind fun r1=>
  bif !r1 then
  some false else
  wF qp k gL sX cC Ax xM RC RD RE Ed RA (an (i+1)) else none else none else none else none else
  some true
def Ct (qp:Cu) (k:Nat) (a:ak) (b:ak):Option Bool:=if a.Kind≠b.Kind then
 some false else
 if a.N≠b.N then
 some false else
 if a.Name≠b.Name then
 some false else
 if (a.Kids.length:Int)≠(b.Kids.length:Int) then
 some false else
 wF qp k a.Kind a.N a.Name a.Kids a.At b.Kind b.N b.Name b.Kids b.At 0
def uA:Nat→ak→ak→Option Bool
 | 0,_,_=>none
 | k+1,x0,x1=>Ct (uA k) k x0 x1
def Cs  (a:ak) (b:ak):Option Bool:=bu (fun k (x:ak×ak)=>uA k x.1 x.2) (a,b)
theorem Y1 (qp:Cu) (k:Nat) (Uv:av Tryz.prog S (zM qp)):av Tryz.prog S (zM (Ct qp k)):=
 cu pk [zM qp] ⟨Uv,trivial⟩ Tryz.func136 [] k (fun k=> [(0,⟨[2,3,5],[um,um,q1],fun x=>wF qp k x.1.1 x.1.2.1 x.1.2.2.1 x.1.2.2.2.1 x.1.2.2.2.2 x.2.1.1 x.2.1.2.1 x.2.1.2.2.1 x.2.1.2.2.2.1 x.2.1.2.2.2.2 x.2.2,false⟩)]) ⟨fun _=>rfl,trivial⟩ (fun _=>by kernel_rfl) (fun _=>by kernel_rfl) (by kernel_rfl)
theorem Y0:av Tryz.prog S (zM (Cs)):=iO (fun k x=>uA k x.1 x.2) (fun _=>rfl) Tryz.func136 (by kernel_rfl) (fun _=>rfl) fun k h=>Y1 (uA k) k h
abbrev YY:=(List ak)→(List ak)→Option Bool
abbrev Hq (f:YY):Entry S:=⟨114,[jj,jj],[q3],fun x=>f x.1 x.2⟩
def wE:Nat→(List ak)→(List ak)→Int→Option Bool
 | 0,_,_,_=>none
 | k+1,a,b,i=>if i<(a.length:Int) then
  if 0≤i then
  if i<(a.length:Int) then
  if 0≤i then
  if i<(b.length:Int) then
  (Cs (a.getD i.toNat ak.z) (b.getD i.toNat ak.z)).bind fun r1=>
  bif !r1 then
  some false else
  wE k a b (an (i+1)) else none else none else none else none else
  some true
def Cq (k:Nat) (a:List ak) (b:List ak):Option Bool:=if (a.length:Int)≠(b.length:Int) then some false else wE k a b 0
def wD  (a:List ak) (b:List ak):Option Bool:=bu (fun k (x:List ak×List ak)=>Cq k x.1 x.2) (a,b)
theorem NJ:av Tryz.prog S (Hq (wD)):=dF (fun k x=>Cq k x.1 x.2) (fun _=>rfl) fun k=>
 cu pk [zM Cs] ⟨Y0,trivial⟩ Tryz.func114 [] k (fun k=> [(0,⟨[0,1,5],[jj,jj,q1],fun x=>wE k x.1 x.2.1 x.2.2,false⟩)]) ⟨fun _=>rfl,trivial⟩ (fun _=>by kernel_rfl) (fun _=>by kernel_rfl) (by kernel_rfl)
abbrev CA:=(List aj)→(List aj)→Option Bool
abbrev wH (f:CA):Entry S:=⟨79,[kA,kA],[q3],fun x=>f x.1 x.2⟩
def wI (oF:CA):Nat→(List aj)→(List aj)→Int→Option Bool
 | 0,_,_,_=>none
 | k+1,a,b,i=>if i<(a.length:Int) then
  if 0≤i then
  if i<(a.length:Int) then
  if 0≤i then
  if i<(b.length:Int) then
  if ((a.getD i.toNat aj.z).Kind)≠((b.getD i.toNat aj.z).Kind) then
  some false else
  if ((a.getD i.toNat aj.z).Name)≠((b.getD i.toNat aj.z).Name) then
  some false else
  if ((a.getD i.toNat aj.z).Event)≠((b.getD i.toNat aj.z).Event) then
  some false else
  if ((a.getD i.toNat aj.z).N)≠((b.getD i.toNat aj.z).N) then
  some false else
  (wD ((a.getD i.toNat aj.z).X) ((b.getD i.toNat aj.z).X)).bind fun r1=>
  bif !r1 then
  some false else
  (oF ((a.getD i.toNat aj.z).eU) ((b.getD i.toNat aj.z).eU)).bind fun r2=>
  bif !r2 then
  some false else
  (oF ((a.getD i.toNat aj.z).eB) ((b.getD i.toNat aj.z).eB)).bind fun r3=>
  bif !r3 then
  some false else
  wI oF k a b (an (i+1)) else none else none else none else none else
  some true
def Cz (oF:CA) (k:Nat) (a:List aj) (b:List aj):Option Bool:=if (a.length:Int)≠(b.length:Int) then
 some false else
 wI oF k a b 0
def uB:Nat→(List aj)→(List aj)→Option Bool
 | 0,_,_=>none
 | k+1,x0,x1=>Cz (uB k) k x0 x1
def rU  (a:List aj) (b:List aj):Option Bool:=bu (fun k (x:List aj×List aj)=>uB k x.1 x.2) (a,b)
theorem Zi (oF:CA) (k:Nat) (Ux:av Tryz.prog S (wH oF)):av Tryz.prog S (wH (Cz oF k)):=
 cu pk [Hq wD,wH oF] ⟨NJ,Ux,trivial⟩ Tryz.func79 [] k (fun k=> [(0,⟨[0,1,5],[kA,kA,q1],fun x=>wI oF k x.1 x.2.1 x.2.2,false⟩)]) ⟨fun _=>rfl,trivial⟩ (fun _=>by kernel_rfl) (fun _=>by kernel_rfl) (by kernel_rfl)
theorem NR:av Tryz.prog S (wH (rU)):=iO (fun k x=>uB k x.1 x.2) (fun _=>rfl) Tryz.func79 (by kernel_rfl) (fun _=>rfl) fun k h=>Zi (uB k) k h
abbrev ZZ:=(List aK)→(List aK)→Option Bool
abbrev N_ (f:ZZ):Entry S:=⟨80,[pQ,pQ],[q3],fun x=>f x.1 x.2⟩
def wZ:Nat→(List aK)→(List aK)→Int→Option Bool
 | 0,_,_,_=>none
 | k+1,a,b,i=>if i<(a.length:Int) then
  if 0≤i then
  if i<(a.length:Int) then
  if 0≤i then
  if i<(b.length:Int) then
  if ((a.getD i.toNat aK.z).Event)≠((b.getD i.toNat aK.z).Event) then
  some false else
  if 0≤i then
  if i<(a.length:Int) then
  if 0≤i then
  if i<(b.length:Int) then
  if ((a.getD i.toNat aK.z).Target)≠((b.getD i.toNat aK.z).Target) then
  some false else
  if 0≤i then
  if i<(a.length:Int) then
  if 0≤i then
  if i<(b.length:Int) then
  (wD ((a.getD i.toNat aK.z).Guard) ((b.getD i.toNat aK.z).Guard)).bind fun r1=>
  bif !r1 then
  some false else
  if 0≤i then
  if i<(a.length:Int) then
  if 0≤i then
  if i<(b.length:Int) then
  (rU ((a.getD i.toNat aK.z).oO) ((b.getD i.toNat aK.z).oO)).bind fun r2=>
  bif !r2 then
  some false else
  wZ k a b (an (i+1)) else none else none else none else none else none else none else none else none else none else none else none else none else none else none else none else none else
  some true
def CL (k:Nat) (a:List aK) (b:List aK):Option Bool:=if (a.length:Int)≠(b.length:Int) then some false else wZ k a b 0
def CJ  (a:List aK) (b:List aK):Option Bool:=bu (fun k (x:List aK×List aK)=>CL k x.1 x.2) (a,b)
theorem ZY:av Tryz.prog S (N_ (CJ)):=dF (fun k x=>CL k x.1 x.2) (fun _=>rfl) fun k=>
 cu pk [Hq wD,wH rU] ⟨NJ,NR,trivial⟩ Tryz.func80 [] k (fun k=> [(0,⟨[0,1,5],[pQ,pQ,q1],fun x=>wZ k x.1 x.2.1 x.2.2,false⟩)]) ⟨fun _=>rfl,trivial⟩ (fun _=>by kernel_rfl) (fun _=>by kernel_rfl) (by kernel_rfl)
abbrev CI:=(List ax)→(List ax)→Option Bool
abbrev z6 (f:CI):Entry S:=⟨37,[lE,lE],[q3],fun x=>f x.1 x.2⟩
def wY (qq:CI):Nat→(List ax)→(List ax)→Int→Option Bool
 | 0,_,_,_=>none
 | k+1,a,b,i=>if i<(a.length:Int) then
  if 0≤i then
  if i<(a.length:Int) then
  if 0≤i then
  if i<(b.length:Int) then
  if ((a.getD i.toNat ax.z).Kind)≠((b.getD i.toNat ax.z).Kind) then
  some false else
  if ((a.getD i.toNat ax.z).Name)≠((b.getD i.toNat ax.z).Name) then
  some false else
  (rU ((a.getD i.toNat ax.z).Entry) ((b.getD i.toNat ax.z).Entry)).bind fun r1=>
  bif !r1 then
  some false else
  (rU ((a.getD i.toNat ax.z).Exit) ((b.getD i.toNat ax.z).Exit)).bind fun r2=>
  bif !r2 then
  some false else
  (CJ ((a.getD i.toNat ax.z).Trans) ((b.getD i.toNat ax.z).Trans)).bind fun r3=>
  bif !r3 then
  some false else
  (qq ((a.getD i.toNat ax.z).Kids) ((b.getD i.toNat ax.z).Kids)).bind fun r4=>
  bif !r4 then
  some false else
  wY qq k a b (an (i+1)) else none else none else none else none else
  some true
def CG (qq:CI) (k:Nat) (a:List ax) (b:List ax):Option Bool:=if (a.length:Int)≠(b.length:Int) then
 some false else
 wY qq k a b 0
def uI:Nat→(List ax)→(List ax)→Option Bool
 | 0,_,_=>none
 | k+1,x0,x1=>CG (uI k) k x0 x1
def CF  (a:List ax) (b:List ax):Option Bool:=bu (fun k (x:List ax×List ax)=>uI k x.1 x.2) (a,b)
theorem ZX (qq:CI) (k:Nat) (Uy:av Tryz.prog S (z6 qq)):av Tryz.prog S (z6 (CG qq k)):=
 cu pk [wH rU,N_ CJ,z6 qq] ⟨NR,ZY,Uy,trivial⟩ Tryz.func37 [] k (fun k=> [(0,⟨[0,1,5],[lE,lE,q1],fun x=>wY qq k x.1 x.2.1 x.2.2,false⟩)]) ⟨fun _=>rfl,trivial⟩ (fun _=>by kernel_rfl) (fun _=>by kernel_rfl) (by kernel_rfl)
theorem ZW:av Tryz.prog S (z6 (CF)):=iO (fun k x=>uI k x.1 x.2) (fun _=>rfl) Tryz.func37 (by kernel_rfl) (fun _=>rfl) fun k h=>ZX (uI k) k h
abbrev ZB:=b7→b7→Option Bool
abbrev NZ (f:ZB):Entry S:=⟨17,[pP,pP],[q3],fun x=>f x.1 x.2⟩
def zS  (a:b7) (b:b7):Option Bool:=if a.Name=b.Name then
 if a.Steps=b.Steps then
 if a.Fuel=b.Fuel then
 (wW a.Vars b.Vars).bind fun r1=>
 bif r1 then
 (wW a.sP b.sP).bind fun r2=>
 bif r2 then
 (wW a.sS b.sS).bind fun r3=>
 bif r3 then
 (CF a.mh b.mh).bind fun r4=>
 some r4 else
 some false else
 some false else
 some false else
 some false else
 some false else
 some false
theorem ZA:av Tryz.prog S (NZ (zS)):=
 aZ pk [N9 wW,z6 CF] ⟨ZU,ZW,trivial⟩ Tryz.func17 (by kernel_rfl) (fun _=>by kernel_rfl) (by kernel_rfl)
abbrev V7:=(List UInt8)→Int→Option Bool
abbrev V5 (f:V7):Entry S:=⟨5,[q0,q1],[q3],fun x=>f x.1 x.2⟩
def BI  (s:List UInt8) (ah:Int):Option Bool:=(Cj s).bind fun r1=>
 if r1.2.Code≠0 then
 (uf).bind fun r2=>
 some r2 else
 if 3000<(s.length:Int) then
 (uf).bind fun r3=>
 some r3 else
 (zK ah (r1.1.length:Int)).bind fun r4=>
 (k8 r1.1 r4).bind fun r5=>
 (wK r1.1 r4).bind fun r6=>
 if r5.2.1=r6.2.1 then
 if r5.2.2.Code=r6.2.2.Code∧r5.2.2.At=r6.2.2.At then
 (xZ r5.1 r6.1).bind fun r7=>
 bif r7 then
 (zS r5.1 r6.1).bind fun r8=>
 bif r8 then
 (uf).bind fun r9=>
 some r9 else
 some false else
 some false else
 some false else
 some false
theorem V6:av Tryz.prog S (V5 (BI)):=
 aZ pk [Nx Cj,Mg uf,Nw zK,Eo k8,NY wK,JC xZ,NZ zS] ⟨YE,V8,YC,JA,Zy,Si,ZA,trivial⟩ Tryz.func5 (by kernel_rfl) (fun _=>by kernel_rfl) (by kernel_rfl)
end
end Go.Sy.Ex
namespace Go.Sy.Ex
open Go Go.Sy Go.Proofs Go.Proofs.YtaedejmdommaeaaGreatDoor
abbrev L7:List (String×DataW Unit):= [("math/bits.deBruijn32tab",Rows.laid_math_bits_deBruijn32tab),("math/bits.deBruijn64tab",Rows.laid_math_bits_deBruijn64tab),("internal/strconv.uint64pow10",Rows.laid_internal_strconv_uint64pow10),("strconv.ErrRange",Rows.laid_strconv_ErrRange),("strconv.ErrSyntax",Rows.laid_strconv_ErrSyntax)]
theorem KV:Tryz.prog.globalNamed "strconv.ErrRange" =some 5:=by kernel_rfl
theorem KW:Tryz.prog.globalNamed "strconv.ErrSyntax" =some 4:=by kernel_rfl
theorem tER:(Tryz.prog.globals[5]?).map (·.type)=some 87:=by kernel_rfl
theorem tES:(Tryz.prog.globals[4]?).map (·.type)=some 87:=by kernel_rfl
theorem star: "*" ++ "errors.errorString" = "*errors.errorString" :=by decide
theorem Og (u:TypeId) (h:Tryz.prog.typeName? 3 u=some "*errors.errorString"):u=248:=
 typeName_ptr_named (nm:= "errors.errorString") (by rw [star]; kernel_rfl) (by kernel_rfl) (by decide) u (by rw [star]; exact h)
theorem KX:Tryz.prog.globalNamed "internal/strconv.uint64pow10" =some 0:=by kernel_rfl
theorem tPT:(Tryz.prog.globals[0]?).map (·.type)=some 184:=by kernel_rfl
theorem WX {W:World} (h:W.ShapedOpen Tryz.prog): ∃ m,W.cell? ⟨1,0,none⟩=some (.int .i64 m):=
 cell_of_shapedOpen_int (t:=3) (zero:= #[.int .i64 0]) h (of_decide_eq_true (by kernel_rfl)) (by kernel_rfl) rfl (by kernel_rfl) (by kernel_rfl) Tryz.underlying3
theorem Ub {W:World} {M:St} (hM:iT M) (hL:laidMetH Tryz.prog L7 W) (hsh:W.ShapedOpen Tryz.prog):js S W M:=by
 rw [MakeChecks.laidMetH_plain _ _ _ (by kernel_rfl)] at hL
 have hT:Lib.TabIs Tryz.prog W "internal/strconv.uint64pow10" .u64 Lib.pow10Tab:=Lib.tabIs_of_head KX tPT Tryz.underlying184 Tryz.underlying162 (by kernel_rfl) (by kernel_rfl) hL.tail.tail
 obtain ⟨a0,s0,hv0, -, -, -⟩:=laid_sentinel hL.tail.tail.tail KV tER Tryz.underlying87 Og Tryz.underlying248 Tryz.underlying250 rfl rfl Tryz.underlying9 (by kernel_rfl) (by kernel_rfl)
 have c1:=World.var?_cell KV hv0 0
 obtain ⟨a1,s1,hv1, -, -, -⟩:=laid_sentinel hL.tail.tail.tail.tail KW tES Tryz.underlying87 Og Tryz.underlying248 Tryz.underlying250 rfl rfl Tryz.underlying9 (by kernel_rfl) (by kernel_rfl)
 have c0:=World.var?_cell KW hv1 0
 obtain ⟨m,c3⟩:=WX hsh
 refine ⟨fun g hg=> ?_,fun g hg=> ?_⟩
 · simp only [List.mem_cons,List.not_mem_nil,or_false] at hg
   rcases hg with rfl | rfl | rfl
   · exact ⟨World.block_lt_of_cell? _ _ c3,hM _ _,_,c3,m,rfl⟩
   · exact ⟨World.block_lt_of_cell? _ _ (by simpa using c1),hM _ _,_,by simpa using c1, .inr ⟨_,_,rfl⟩⟩
   · exact ⟨World.block_lt_of_cell? _ _ (by simpa using c0),hM _ _,_,by simpa using c0, .inr ⟨_,_,rfl⟩⟩
 · simp only [List.mem_cons,List.not_mem_nil,or_false] at hg
   subst hg
   unfold Lib.TabIs World.var? at hT
   rw [KX] at hT
   simp only [Option.bind_some] at hT
   split at hT
   · rename_i cs t f hb
     cases hT
     exact ⟨(Array.getElem?_eq_some_iff.1 hb).1,fun o=>hM _ _,_,hb,t,f,rfl⟩
   · cases hT
end Go.Sy.Ex
namespace Go.Sy.Ex
open Go Go.Sy Go.Proofs Go.Proofs.YtaedejmdommaeaaGreatDoor Go.ChangeShapes Go.WideShapes Go.RowKit
theorem Z6 {H:Type} {enc:TypeId×Value→H} {a:Assume} {C:Checked} {os:Os} {f:FuncId} {fn:Func} {s:ChangeSpec} {conds:List PathCond} {apart fresh handsOn again:Bool} {X:World→Array Value→Prop}
 (hX: ∀ (w w':World) (args:Array Value),w.heap=w'.heap→X w args→X w' args)
 (own:ownKnob C.prog.godebug=none) (started:os.Started) (noInit:C.prog.inits.idxOf? f=none) (hfn:C.prog.funcs[f]? =some fn)
 (witness: ∃ (w:World) (tape:Tape) (i:Input),w.os=os∧(w.forCall tape i).Shaped C.prog∧i.vars= []∧Input.okWide C.prog (w.forCall tape i) .any w.heap.size f i∧
  ((s.pre enc C.prog fn conds apart (w.forCall tape i).memory i.args∧X (w.forCall tape i).memory i.args)∧sizedMet enc C.prog fn (OpenSpec.ofChange s) apart (w.forCall tape i).memory i.args)∧a.holds C.prog (lone (Frame.enter C.prog f i.args .normal) [] (w.forCall tape i)))
 (contract: ∀ (W:World) (base:Nat) (args:Array Value) (ds gs:List (DataW H)) (before:List MemPlace),
  (∀ (j:Nat) t v,fn.params[j]? =some t→args[j]? =some v→Value.okWide C.prog W .any base t v)→
  DataW.Whole enc C.prog fn.params.toList s.vars apart W args.toList ds gs before→
  conds.all (PathCond.test C.prog ⟨fn.params.toList,ds,s.plain.varTypes C.prog,gs⟩)=true→
  (DataW.weightsEach C.prog (fn.params.toList++s.plain.varTypes C.prog) (ds++gs)).all (· ≤reachBytes)=true→X W args→W.ShapedOpen C.prog→
  a.holds C.prog (lone (Frame.enter C.prog f args .normal) [] W)→
  Calls C.prog f args W fun e W'=> ∃ v,e= .returned v∧s.post enc C.prog fn apart fresh handsOn again W args v W'):
 ReturnsInHanded a C os f .any (fun w args=>(s.pre enc C.prog fn conds apart w args∧X w args)∧sizedMet enc C.prog fn (OpenSpec.ofChange s) apart w args) (s.post enc C.prog fn apart fresh handsOn again):=by
 refine returnsInHanded_of_calls own started noInit witness ?_
 intro w tape i _ hsh _ hok hpre hholds
 obtain ⟨_,_,_,fn',UX,_,_,_,_,hval⟩:=hok
 have e:fn'=fn:=Option.some.inj (UX.symm.trans hfn)
 subst e
 obtain ⟨⟨⟨ds,gs,before,hw,hc⟩,hx⟩,hz⟩:=hpre
 have hw':=DataW.Whole.of_heap (w':=w.forCall tape i) (by rfl) hw
 refine (contract (w.forCall tape i) w.heap.size i.args ds gs before hval hw' hc (hz.weights hw) (hX _ _ _ (by rfl) hx) hsh hholds).mono fun e W' ⟨v,he,hp⟩=> ?_
 subst he
 exact ChangeSpec.post_blind hp
set_option maxRecDepth 100000 in
theorem Te (os:Os) (args:Array Value):laidMetH Tryz.prog L7 ((World.laidAll Tryz.prog os L7).forCall (fun _ _=>0) ⟨#[],args,[]⟩).memory:=by
 rw [MakeChecks.laidMetH_plain _ _ _ (by kernel_rfl)]
 exact laidMet_laidAll _ (by kernel_rfl) (by kernel_rfl)
end Go.Sy.Ex
namespace Go.Sy.Ex
open Go.Sy
theorem Pw (b:UInt8):((b.toNat:Nat):Int).toNat.toUInt8=b:=by
 rw [Int.toNat_natCast]; exact UInt8.ofNat_toNat
theorem RJ (b:UInt8):(0≤Lib.indexByte C7 b)↔((b.toNat:Int)=32∨(b.toNat:Int)=9∨(b.toNat:Int)=10∨(b.toNat:Int)=13):=by
 have h: ∀ n,n<256→((0≤Lib.indexByte C7 (Nat.toUInt8 n))↔(((Nat.toUInt8 n).toNat:Int)=32∨((Nat.toUInt8 n).toNat:Int)=9∨((Nat.toUInt8 n).toNat:Int)=10∨((Nat.toUInt8 n).toNat:Int)=13)):=by decide+kernel
 have :=h b.toNat b.toNat_lt
 rwa [show Nat.toUInt8 b.toNat=b from UInt8.ofNat_toNat] at this
def isDigit (c:Int):Bool:=decide (48≤c∧c≤57)
def kq (c:Int):Bool:=decide ((97≤c∧c≤122)∨(65≤c∧c≤90)∨c=95)
theorem Gf (c:Int):rz c=some (kq c||isDigit c,isDigit c):=by
 have fin: ∀ a b:Bool,((a=true)↔((97≤c∧c≤122)∨(65≤c∧c≤90)∨c=95)∨(48≤c∧c≤57))→((b=true)↔(48≤c∧c≤57))→some (a,b)=some (kq c||isDigit c,isDigit c):=by
  intro a b ha hb
  have e1:a=(kq c||isDigit c):=by
   rw [Bool.eq_iff_iff,ha]; simp [kq,isDigit]
  have e2:b=isDigit c:=by
   rw [Bool.eq_iff_iff,hb]; simp [isDigit]
  rw [e1,e2]
 unfold rz
 repeat' split
 all_goals
  refine fin _ _ ?_ ?_
  · constructor
    · intro h; first | omega | (cases h)
    · intro h; first | rfl | (exfalso; omega)
  · constructor
    · intro h; first | omega | (cases h)
    · intro h; first | rfl | (exfalso; omega)
def b8:Bool→List UInt8→Nat→Nat
 | _,[],n=>n
 | true,b::t,n=>if b=10 then b8 false t (n+1) else b8 true t (n+1)
 | false,b::t,n=>if b=32∨b=9∨b=10∨b=13 then b8 false t (n+1) else if b=35 then b8 true t (n+1) else n
theorem sB: ∀ (t:List UInt8) (r:Bool) (n:Nat),n≤b8 r t n∧b8 r t n≤n+t.length:=by
 intro t
 induction t with
 | nil=>intro r n; cases r <;> exact ⟨Nat.le_refl _,Nat.le_refl _⟩
 | cons b t ih=>
  intro r n
  have h1:=ih true (n+1)
  have h2:=ih false (n+1)
  cases r
  · simp only [b8,List.length_cons]
    split
    · omega
    · split
      · omega
      · omega
  · simp only [b8,List.length_cons]
    split <;> omega
theorem kO (b:UInt8) (n:Nat) (hn:n<256):((b.toNat:Int)=(n:Int))↔b=Nat.toUInt8 n:=by
 constructor
 · intro h
   refine UInt8.toNat_inj.1 ?_
   have :(Nat.toUInt8 n).toNat=n:=by
    show n % 256=n
    omega
   omega
 · rintro rfl
   have :(Nat.toUInt8 n).toNat=n:=by
    show n % 256=n
    omega
   omega
theorem aaN (t:List UInt8) (hl:t.length<200000000000000): ∀ m n,n+m=t.length→(∀ k,3*m+1≤k→nZ k t ((n:Nat):Int)=some ((b8 false (t.drop n) n:Nat):Int))∧ ∀ k,3*m+2≤k→rB k t ((n:Nat):Int)=some ((b8 true (t.drop n) n:Nat):Int):=by
 intro m
 induction m with
 | zero=>
  intro n h
  have hd:t.drop n= []:=List.drop_eq_nil_of_le (by omega)
  have h0: ∀ k,1≤k→nZ k t ((n:Nat):Int)=some ((b8 false (t.drop n) n:Nat):Int):=by
   intro k hk
   obtain ⟨k,rfl⟩: ∃ j,k=j+1:=⟨k - 1,by omega⟩
   simp only [nZ]
   rw [if_neg (by omega),hd]; rfl
  refine ⟨fun k hk=>h0 k (by omega),fun k hk=> ?_⟩
  obtain ⟨k,rfl⟩: ∃ j,k=j+1:=⟨k - 1,by omega⟩
  simp only [rB]
  rw [if_neg (by omega),h0 k (by omega),hd]; rfl
 | succ m ih=>
  intro n h
  have hlt:n<t.length:=by omega
  obtain ⟨i0,i1⟩:=ih (n+1) (by omega)
  have e:an ((n:Int)+1)=((n+1:Nat):Int):=by rw [bP (by omega) (by omega)]; omega
  have hd:t.drop n=t[n]::t.drop (n+1):=List.drop_eq_getElem_cons hlt
  have qK:((t[n].toNat:Nat):Int)=10↔t[n]=10:=kO t[n] 10 (by decide)
  have AP:((t[n].toNat:Nat):Int)=32↔t[n]=32:=kO t[n] 32 (by decide)
  have c9:((t[n].toNat:Nat):Int)=9↔t[n]=9:=kO t[n] 9 (by decide)
  have AO:((t[n].toNat:Nat):Int)=13↔t[n]=13:=kO t[n] 13 (by decide)
  have xV:((t[n].toNat:Nat):Int)=35↔t[n]=35:=kO t[n] 35 (by decide)
  have h0: ∀ k,3*(m+1)+1≤k→nZ k t ((n:Nat):Int)=some ((b8 false (t.drop n) n:Nat):Int):=by
   intro k hk
   obtain ⟨k,rfl⟩: ∃ j,k=j+1:=⟨k - 1,by omega⟩
   have g1:(n:Int)<(t.length:Int):=by omega
   have g0:0≤(n:Int):=by omega
   have l1:t[n]=35→rB k t ((n:Nat):Int)=some ((b8 true (t.drop (n+1)) (n+1):Nat):Int):=by
    intro hb
    obtain ⟨k,rfl⟩: ∃ j,k=j+1:=⟨k - 1,by omega⟩
    simp only [rB]
    rw [if_pos g1,if_pos g0,if_pos g1,Int.toNat_natCast,cK _ hlt,if_pos (by rw [hb]; decide),e]
    exact i1 k (by omega)
   simp only [nZ,rF,aa,Pw]
   simp only [g0,g1,if_true,Int.toNat_natCast,cK _ hlt,e]
   rw [hd,i0 k (by omega)]
   simp only [b8]
   have hb:=RJ t[n]
   rw [AP,c9,qK,AO] at hb
   by_cases hx:0≤Lib.indexByte C7 t[n]
   · rw [if_pos hx,if_pos (hb.1 hx)]
   · rw [if_neg hx,if_neg (fun q=>hx (hb.2 q))]
     by_cases mj:t[n]=35
     · rw [if_pos (xV.2 mj),if_pos mj,l1 mj]
     · rw [if_neg (fun q=>mj (xV.1 q)),if_neg mj]
  refine ⟨h0,fun k hk=> ?_⟩
  obtain ⟨k,rfl⟩: ∃ j,k=j+1:=⟨k - 1,by omega⟩
  simp only [rB]
  rw [if_pos (by omega),if_pos (by omega),if_pos (by omega),Int.toNat_natCast,cK _ hlt,e]
  by_cases iW:t[n]=10
  · rw [if_neg (fun q=>q (qK.2 iW)),h0 k (by omega),hd]
    simp only [b8]
    rw [if_pos (.inr (.inr (.inl iW))),if_pos iW]
  · rw [if_pos (fun q=>iW (qK.1 q)),i1 k (by omega),hd]
    simp only [b8]
    rw [if_neg iW]
def dg (b:UInt8):Bool:=isDigit (b.toNat:Int)
def lt (b:UInt8):Bool:=kq (b.toNat:Int)
def nm (b:UInt8):Bool:=lt b||dg b
def dz (p:UInt8→Bool) (t:List UInt8) (n:Nat):Nat:=n+((t.drop n).takeWhile p).length
theorem HH {p:UInt8→Bool} {t:List UInt8} {n:Nat} (h:t.length≤n):dz p t n=n:=by
 unfold dz; rw [List.drop_eq_nil_of_le h]; rfl
theorem w5 {p:UInt8→Bool} {t:List UInt8} {n:Nat} (h:n<t.length) (hp:p t[n]=true):dz p t n=dz p t (n+1):=by
 unfold dz; rw [List.drop_eq_getElem_cons h,List.takeWhile_cons_of_pos hp]; simp only [List.length_cons]; omega
theorem HG {p:UInt8→Bool} {t:List UInt8} {n:Nat} (h:n<t.length) (hp:p t[n]=false):dz p t n=n:=by
 unfold dz; rw [List.drop_eq_getElem_cons h,List.takeWhile_cons_of_neg (by simp [hp])]; rfl
theorem xw (p:UInt8→Bool): ∀ l:List UInt8,(l.takeWhile p).length≤l.length:=fun l=>by
 induction l with
 | nil=>exact Nat.le_refl _
 | cons a l ih=>rw [List.takeWhile_cons]; split <;> simp <;> omega
theorem uM (p:UInt8→Bool) (t:List UInt8) (n:Nat) (h:n≤t.length):n≤dz p t n∧dz p t n≤t.length:=by
 unfold dz
 have :=xw p (t.drop n)
 rw [List.length_drop] at this
 omega
theorem vm (p:UInt8→Bool) (t:List UInt8) (n:Nat):cut t ((n:Nat):Int) ((dz p t n:Nat):Int)=(t.drop n).takeWhile p:=by
 unfold cut dz
 rw [Int.toNat_natCast,Int.toNat_natCast,List.drop_take,Nat.add_sub_cancel_left]
 generalize t.drop n=l
 induction l with
 | nil=>rfl
 | cons a l ih => rw [List.takeWhile_cons]; split
                  · rw [List.length_cons,List.take_succ_cons,ih]
                  · rfl
theorem Tp (t:List UInt8) (f:Bool) (hl:t.length<200000000000000): ∀ m n,n+m=t.length→ ∀ k,m+1≤k→uh k t ((n:Nat):Int) f=some ((dz (fun b=>bif f then dg b else nm b) t n:Nat):Int):=by
 intro m
 induction m with
 | zero=>
  intro n h k hk
  obtain ⟨k,rfl⟩: ∃ j,k=j+1:=⟨k - 1,by omega⟩
  simp only [uh]
  rw [if_neg (by omega),HH (by omega)]
 | succ m ih=>
  intro n h k hk
  obtain ⟨k,rfl⟩: ∃ j,k=j+1:=⟨k - 1,by omega⟩
  have hlt:n<t.length:=by omega
  have e:an ((n:Int)+1)=((n+1:Nat):Int):=by rw [bP (by omega) (by omega)]; omega
  simp only [uh,Gf,aa]
  rw [if_pos (by omega),if_pos (by omega),if_pos (by omega),Int.toNat_natCast,cK _ hlt,e,ih (n+1) (by omega) k (by omega)]
  have key: ∀ a b:Bool,lt t[n]=a→dg t[n]=b→(bif !(a||b) then some ((n:Nat):Int) else bif f then bif !b then some ((n:Nat):Int) else some ((dz (fun b=>bif f then dg b else nm b) t (n+1):Nat):Int) else some ((dz (fun b=>bif f then dg b else nm b) t (n+1):Nat):Int))=some ((dz (fun b=>bif f then dg b else nm b) t n:Nat):Int):=by
   intro a b ha hb
   cases f <;> cases a <;> cases b <;> simp only [Bool.or_self,Bool.not_true,Bool.not_false,Bool.or_true,Bool.true_or,Bool.or_false,Bool.false_or,cond_true,cond_false]
   all_goals
    first
     | (rw [HG hlt ?_]; simp [nm,ha,hb]; done)
     | (rw [w5 hlt ?_]; simp [nm,ha,hb]; done)
  exact key _ _ rfl rfl
theorem To (t:List UInt8) (n:Nat) (hl:t.length<200000000000000) (h:n<t.length):zh t ((n:Nat):Int)=some ((dz (fun b=>bif dg t[n] then dg b else nm b) t n:Nat):Int):=by
 refine bn (t.length - n+1) fun k hk=> ?_
 simp only [Gq,Gf,aa]
 rw [if_pos (by omega),if_pos (by omega),Int.toNat_natCast,cK _ h]
 exact Tp t _ hl (t.length - n) n (by omega) k (by omega)
def oJ (acc:Nat):List UInt8→Option Nat
 | []=>some acc
 | c::r=>if (9223372036854775807 - (c.toNat - 48)) / 10<acc then none else oJ (10*acc+(c.toNat - 48)) r
theorem yl (b:UInt8):dg b=true↔48≤b.toNat∧b.toNat≤57:=by
 unfold dg isDigit
 rw [decide_eq_true_eq]
 omega
theorem RH: ∀ (l:List UInt8) (acc:Nat),(∀ c ∈ l,dg c=true)→9223372036854775808≤acc→Lib.parseUintM (2 ^ 64 - 1) acc l= .range∨ ∃ u,9223372036854775808≤u∧Lib.parseUintM (2 ^ 64 - 1) acc l= .ok u:=by
 intro l acc hd ha
 cases l with
 | nil=>exact .inr ⟨acc,ha,rfl⟩
 | cons c r=>
  refine .inl ?_
  have :=(yl c).1 (hd c (by simp))
  unfold Lib.parseUintM
  rw [if_pos this,if_pos (by omega)]
theorem ab2: ∀ (l:List UInt8) (acc:Nat),(∀ c ∈ l,dg c=true)→acc<9223372036854775808→
 (∀ v,oJ acc l=some v→v<9223372036854775808∧Lib.parseUintM (2 ^ 64 - 1) acc l= .ok v)∧(oJ acc l=none→Lib.parseUintM (2 ^ 64 - 1) acc l= .range∨ ∃ u,9223372036854775808≤u∧Lib.parseUintM (2 ^ 64 - 1) acc l= .ok u):=by
 intro l
 induction l with
 | nil=>intro acc _ ha; exact ⟨fun v h=>by cases h; exact ⟨ha,rfl⟩,fun h=>by cases h⟩
 | cons c r ih=>
  intro acc hd ha
  have hc:=(yl c).1 (hd c (by simp))
  have hr: ∀ c ∈ r,dg c=true:=fun x hx=>hd x (by simp [hx])
  unfold oJ Lib.parseUintM
  rw [if_pos hc]
  by_cases h:(9223372036854775807 - (c.toNat - 48)) / 10<acc
  · rw [if_pos h]
    refine ⟨fun v h=>by (cases h),fun _=> ?_⟩
    by_cases h1:1844674407370955162≤acc
    · rw [if_pos h1]; exact .inl rfl
    · rw [if_neg h1]
      by_cases h2:2 ^ 64 - 1<acc*10+(c.toNat - 48)
      · rw [if_pos h2]; exact .inl rfl
      · rw [if_neg h2]
        exact RH r _ hr (by omega)
  · rw [if_neg h,if_neg (by omega),if_neg (by omega),show acc*10+(c.toNat - 48)=10*acc+(c.toNat - 48) by omega]
    exact ih _ hr (by omega)
def n7 (l:List UInt8):Int×Int:=if 1<l.length∧l.getD 0 0=48 then (0,11) else match oJ 0 l with | some v=>((v:Int),0) | none=>(0,16)
def numOf (l:List UInt8):Int×Int:=
 if (1<l.length∧l.getD 0 0=48) then (0,11) else match Lib.parseIntB 64 l with
  | .ok v=>(v,0)
  | _=>(0,16)
theorem Xa (l:List UInt8) (hl:l.length≤281474976710656):zi l=some (numOf l):=by
 have key:((rG l 10 64).bind fun r1=>bif !r1.2 then some ((0:Int),(16:Int)) else some (r1.1,0))=some (match Lib.parseIntB 64 l with
  | .ok v=>(v,0)
  | _=>(0,16)):=by
  unfold rG
  rw [if_pos ⟨hl,rfl,rfl⟩,aa]
  cases Lib.parseIntB 64 l <;> rfl
 have h0:(((l.getD (0:Int).toNat 0).toNat:Nat):Int)=48↔l.getD 0 0=48:=kO _ 48 (by decide)
 unfold zi numOf
 by_cases h1:1<l.length
 · rw [if_pos (by omega),if_pos (by omega),if_pos (by omega)]
   by_cases h2:l.getD 0 0=48
   · rw [if_pos (h0.2 h2),if_pos ⟨h1,h2⟩]
   · rw [if_neg (fun q=>h2 (h0.1 q)),if_neg (fun q=>h2 q.2),key]
 · rw [if_neg (by omega),if_neg (fun q=>h1 q.1),key]
theorem MI (l:List UInt8) (h0:l≠ []) (hd: ∀ c ∈ l,dg c=true):numOf l=n7 l:=by
 unfold numOf n7
 by_cases h:1<l.length∧l.getD 0 0=48
 · rw [if_pos h,if_pos h]
 · rw [if_neg h,if_neg h]
   obtain ⟨c,r,rfl⟩: ∃ c r,l=c::r:=by cases l with
    | nil=>exact absurd rfl h0
    | cons c r=>exact ⟨c,r,rfl⟩
   have hc:=(yl c).1 (hd c (by simp))
   obtain ⟨v1,v2⟩:=ab2 (c::r) 0 hd (by omega)
   have e:(∀ u,Lib.parseUintM (2 ^ 64 - 1) 0 (c::r)= .ok u→Lib.parseIntB 64 (c::r)=if 9223372036854775808≤u then .range else .ok (u:Int))∧(Lib.parseUintM (2 ^ 64 - 1) 0 (c::r)= .range→Lib.parseIntB 64 (c::r)= .range):=by
    unfold Lib.parseIntB Lib.parseUintB
    simp only []
    rw [if_neg (show ¬ (c.toNat=43∨c.toNat=45) by omega),if_neg (by simp)]
    constructor
    · intro u hu
      rw [hu]
      simp only [show ¬ c.toNat=45 by omega,not_false_eq_true,true_and,false_and,if_false]
    · intro hu
      rw [hu]
   cases hv:oJ 0 (c::r) with
   | some v=>
    obtain ⟨a,b⟩:=v1 v hv
    rw [e.1 v b,if_neg (by omega)]
   | none=>
    rcases v2 hv with b | ⟨u,a,b⟩
    · rw [e.2 b]
    · rw [e.1 u b,if_pos a]
def iI:List (List UInt8):= [[45,62],[61,61],[33,61],[60,61],[62,61],[38,38],[124,124]]
def dP:List UInt8→Nat
 | []=>0
 | [b]=>if b ∈ ir then 1 else 0
 | b::c::_=>if [b,c] ∈ iI then 2 else if b ∈ ir then 1 else 0
theorem VT (l:List UInt8) (c:UInt8):0≤Lib.indexByte l c↔c ∈ l:=by
 induction l with
 | nil=>simp [Lib.indexByte]
 | cons b l ih=>
  unfold Lib.indexByte
  have hge:=Lib.indexByte_ge l c
  by_cases h:b=c
  · subst h; simp
  · rw [if_neg (by simpa using h)]
    rw [List.mem_cons]
    by_cases h1:Lib.indexByte l c= -1
    · rw [if_pos (by simp [h1])]
      constructor
      · intro x; omega
      · rintro (rfl | x)
        · exact absurd rfl h
        · have :=ih.2 x; omega
    · rw [if_neg (by simpa using h1)]
      constructor
      · intro x; exact .inr (ih.1 (by omega))
      · rintro (rfl | x)
        · exact absurd rfl h
        · have :=ih.2 x; omega
theorem contains_iff (s sub:List UInt8):Lib.contains s sub=true↔ ∃ i,i≤s.length∧Lib.occAt s sub i=true:=by
 unfold Lib.contains
 rw [decide_eq_true_eq]
 rcases Lib.index_spec s sub with ⟨h1,h2⟩ | ⟨i,h1,h2,h3,_⟩
 · constructor
   · intro h; omega
   · rintro ⟨i,hi,h⟩; rw [h2 i hi] at h; cases h
 · exact ⟨fun _=>⟨i,h2,h3⟩,fun _=>by omega⟩
theorem Xn (b c:UInt8) (hb:b≠32) (hc:c≠32):Lib.contains OH [b,c]=decide ([b,c] ∈ iI):=by
 rw [Bool.eq_iff_iff,contains_iff,decide_eq_true_eq]
 constructor
 · rintro ⟨i,hi,h⟩
   have hi':i=0∨i=1∨i=2∨i=3∨i=4∨i=5∨i=6∨i=7∨i=8∨i=9∨i=10∨i=11∨i=12∨i=13∨i=14∨i=15∨i=16∨i=17∨i=18∨i=19∨i=20:=by
    have :i≤20:=hi
    omega
   clear hi
   rcases hi' with rfl | rfl | rfl | rfl | rfl | rfl | rfl | rfl | rfl | rfl | rfl | rfl | rfl | rfl | rfl | rfl | rfl | rfl | rfl | rfl | rfl
   all_goals
    simp only [Lib.occAt,List.drop_succ_cons,List.drop_zero,List.drop_nil,List.isPrefixOf,Bool.and_true,Bool.and_eq_true,beq_iff_eq,Bool.and_false,Bool.false_eq_true,and_false] at h
   all_goals
    first
     | exact absurd h.1 hb
     | exact absurd h.2 hc
     | (obtain ⟨rfl,rfl⟩:=h; decide)
 · intro h
   simp only [iI,List.mem_cons,List.cons.injEq,and_true,List.not_mem_nil,or_false] at h
   rcases h with ⟨rfl,rfl⟩ | ⟨rfl,rfl⟩ | ⟨rfl,rfl⟩ | ⟨rfl,rfl⟩ | ⟨rfl,rfl⟩ | ⟨rfl,rfl⟩ | ⟨rfl,rfl⟩
   · exact ⟨0,by decide,by decide⟩
   · exact ⟨3,by decide,by decide⟩
   · exact ⟨6,by decide,by decide⟩
   · exact ⟨9,by decide,by decide⟩
   · exact ⟨12,by decide,by decide⟩
   · exact ⟨15,by decide,by decide⟩
   · exact ⟨18,by decide,by decide⟩
theorem JZ (t:List UInt8) (n:Nat) (h:n+1<t.length):cut t ((n:Nat):Int) ((n+2:Nat):Int)= [t[n],t[n+1]]:=by
 unfold cut
 rw [Int.toNat_natCast,Int.toNat_natCast,List.drop_take,Nat.add_sub_cancel_left,List.drop_eq_getElem_cons (by omega:n<t.length),List.drop_eq_getElem_cons h]
 rfl
theorem OS (t:List UInt8) (n:Nat) (h:n+1<t.length):dP (t.drop n)=if [t[n],t[n+1]] ∈ iI then 2 else if t[n] ∈ ir then 1 else 0:=by
 rw [List.drop_eq_getElem_cons (by omega:n<t.length),List.drop_eq_getElem_cons h]; rfl
theorem OR (t:List UInt8) (n:Nat) (h:n+1=t.length):dP (t.drop n)=if t[n] ∈ ir then 1 else 0:=by
 rw [List.drop_eq_getElem_cons (by omega:n<t.length),List.drop_eq_nil_of_le (by omega)]; rfl
theorem W8 (b:UInt8): [b,(32:UInt8)] ∉ iI:=by
 simp only [iI,List.mem_cons,List.cons.injEq,and_true,List.not_mem_nil,or_false]
 rintro (⟨_,h⟩ | ⟨_,h⟩ | ⟨_,h⟩ | ⟨_,h⟩ | ⟨_,h⟩ | ⟨_,h⟩ | ⟨_,h⟩) <;> revert h <;> decide
theorem abY (b:UInt8):b.toNat.toUInt8=b:=UInt8.ofNat_toNat
theorem WS (t:List UInt8) (n:Nat) (hl:t.length<200000000000000) (h:n<t.length) (hb:t[n]≠32):zj t ((n:Nat):Int)=some ((n+dP (t.drop n):Nat):Int):=by
 have e1:an ((n:Int)+1)=((n+1:Nat):Int):=by rw [bP (by omega) (by omega)]; omega
 have e2:an ((n:Int)+2)=((n+2:Nat):Int):=by rw [bP (by omega) (by omega)]; omega
 unfold zj
 simp only [rF,vU,aa,Pw,e1,e2,Int.toNat_natCast,cK _ h,VT,abY]
 have hone:(if t[n] ∈ ir then some ((n+1:Nat):Int) else some ((n:Nat):Int))=some ((n+(if t[n] ∈ ir then 1 else 0):Nat):Int):=by
  split <;> rfl
 by_cases h1:n+1<t.length
 · rw [if_pos (by omega),if_pos (by omega),if_pos (by omega),cK _ h1,OS t n h1]
   by_cases hc:t[n+1]=32
   · rw [if_neg (by rw [hc]; decide),if_pos (by omega),if_pos (by omega),hc,if_neg (W8 _),hone]
   · have iF:((t[n+1].toNat:Nat):Int)≠32:=fun q=>hc ((kO _ 32 (by decide)).1 q)
     rw [if_pos iF,if_pos (by omega),if_pos (by omega),if_pos (by omega),if_pos (by omega),JZ t n h1,if_pos (by decide),aa,Xn _ _ hb hc]
     by_cases hp: [t[n],t[n+1]] ∈ iI
     · rw [if_pos hp,decide_eq_true hp]; rfl
     · rw [if_neg hp,decide_eq_false hp,cond_false,if_pos (by omega),if_pos (by omega),hone]
 · rw [if_neg (by omega),if_pos (by omega),if_pos (by omega),OR t n (by omega),hone]
def eA (t:List UInt8) (n:Nat):ai×Int:=
 if dg (t.getD n 0) then
  (let r:=n7 ((t.drop n).takeWhile dg)
   if r.2≠0 then (ai.mk 0 0 0 [] 0,r.2) else (ai.mk 2 n (dz dg t n:Nat) ((t.drop n).takeWhile dg) r.1,0))
 else if lt (t.getD n 0) then
  (if n+24<dz nm t n then (ai.mk 0 0 0 [] 0,13) else (ai.mk 1 n (dz nm t n:Nat) ((t.drop n).takeWhile nm) 0,0))
 else if dP (t.drop n)=0 then (ai.mk 0 0 0 [] 0,10)
 else (ai.mk 3 n (n+dP (t.drop n):Nat) ((t.drop n).take (dP (t.drop n))) 0,0)
theorem xg (t:List UInt8):dP t≤t.length:=by
 unfold dP
 split
 · exact Nat.le_refl _
 · split <;> simp
 · split
   · simp
   · split <;> simp
theorem EE (t:List UInt8) (n j:Nat):cut t ((n:Nat):Int) ((n+j:Nat):Int)=(t.drop n).take j:=by
 unfold cut
 rw [Int.toNat_natCast,Int.toNat_natCast,List.drop_take,Nat.add_sub_cancel_left]
theorem Du (p:UInt8→Bool): ∀ l:List UInt8, ∀ c ∈ l.takeWhile p,p c=true:=by
 intro l
 induction l with
 | nil=>intro c hc; cases hc
 | cons a l ih=>
  intro c hc
  rw [List.takeWhile_cons] at hc
  split at hc
  · rcases List.mem_cons.1 hc with rfl | h
    · assumption
    · exact ih c h
  · cases hc
theorem W_ (t:List UInt8) (n:Nat) (h:n<t.length) (hd:dg t[n]=true):numOf ((t.drop n).takeWhile dg)=n7 ((t.drop n).takeWhile dg):=by
 refine MI _ ?_ ?_
 · rw [List.drop_eq_getElem_cons h,List.takeWhile_cons_of_pos hd]; exact List.cons_ne_nil _ _
 · intro c hc; exact Du _ _ c hc
theorem WT (t:List UInt8) (n:Nat) (hl:t.length<200000000000000) (h:n<t.length) (hb:t[n]≠32):zl t ((n:Nat):Int)=some (eA t n):=by
 unfold zl eA
 simp only [Gf,aa,Int.toNat_natCast,cK _ h,To t n hl h,WS t n hl h hb]
 have g0:(0:Int)≤(n:Int):=by omega
 have g1:(n:Int)<(t.length:Int):=by omega
 rw [if_pos g0,if_pos g1]
 have tX:isDigit ((t[n].toNat:Nat):Int)=dg t[n]:=rfl
 have hlt:kq ((t[n].toNat:Nat):Int)=lt t[n]:=rfl
 rw [tX,hlt]
 cases hd:dg t[n] with
 | true=>
  have r:=uM dg t n (by omega)
  simp only [cond_true,if_true]
  rw [show (fun b=>dg b)=dg from rfl,if_pos (by omega),if_pos (by omega),if_pos (by omega),if_pos (by omega)]
  have hc:cut t ((n:Nat):Int) ((dz dg t n:Nat):Int)=(t.drop n).takeWhile dg:=vm dg t n
  have hlen:((t.drop n).takeWhile dg).length≤281474976710656:=by
   have :=xw dg (t.drop n); rw [List.length_drop] at this; omega
  rw [hc,Xa _ hlen,aa,W_ t n h hd]
  by_cases hz:(n7 ((t.drop n).takeWhile dg)).2≠0
  · rw [if_pos hz,if_pos hz]
  · rw [if_neg hz,if_neg hz,if_pos (by omega),if_pos (by omega),if_pos (by omega),if_pos (by omega)]
 | false=>
  simp only [cond_false,Bool.or_false,if_false,Bool.false_eq_true]
  cases hL:lt t[n] with
  | true=>
   have r:=uM nm t n (by omega)
   have hc:cut t ((n:Nat):Int) ((dz nm t n:Nat):Int)=(t.drop n).takeWhile nm:=vm nm t n
   simp only [cond_true,if_true]
   rw [show (fun b=>nm b)=nm from rfl,hc,bP (by omega) (by omega)]
   by_cases mL:n+24<dz nm t n
   · rw [if_pos (by omega),if_pos mL]
   · rw [if_neg (by omega),if_neg mL,if_pos (by omega),if_pos (by omega),if_pos (by omega),if_pos (by omega)]
  | false=>
   simp only [cond_false,if_false,Bool.false_eq_true]
   have hs:=xg (t.drop n)
   rw [List.length_drop] at hs
   rw [EE]
   by_cases hz:dP (t.drop n)=0
   · rw [if_pos (by omega),if_pos hz]
   · rw [if_neg (by omega),if_neg hz,if_pos (by omega),if_pos (by omega),if_pos (by omega),if_pos (by omega)]
theorem J7 (b:UInt8) (h:lt b=true):dg b=false:=by
 unfold lt kq at h
 unfold dg isDigit
 rw [decide_eq_true_eq] at h
 rw [decide_eq_false_iff_not]
 omega
theorem My (t:List UInt8) (n:Nat) (hl:t.length<200000000000000) (h:n≤t.length):zk t ((n:Nat):Int)=some ((b8 false (t.drop n) n:Nat):Int):=
 bn (3*(t.length - n)+1) fun k hk=>(aaN t hl (t.length - n) n (by omega)).1 k hk
theorem aaL: ∀ (u:List UInt8) (r:Bool) (n j:Nat),b8 r u n=n+j→j<u.length→u.getD j 0≠32:=by
 intro u
 induction u with
 | nil=>intro r n j _ h; simp at h
 | cons b u ih=>
  intro r n j hj h
  have go: ∀ r',b8 r' u (n+1)=n+j→(b::u).getD j 0≠32:=by
   intro r' h'
   have :=(sB u r' (n+1)).1
   obtain ⟨j,rfl⟩: ∃ i,j=i+1:=⟨j - 1,by omega⟩
   rw [List.getD_cons_succ]
   refine ih r' (n+1) j (by omega) (by simpa using h)
  cases r with
  | true=>
   simp only [b8] at hj
   split at hj
   · exact go _ hj
   · exact go _ hj
  | false=>
   simp only [b8] at hj
   split at hj
   · exact go _ hj
   · split at hj
     · exact go _ hj
     · rename_i h1 h2
       obtain rfl:j=0:=by omega
       intro q
       exact h1 (.inl q)
theorem Dt (t:List UInt8) (n:Nat) (h:n<t.length) (hz:(eA t n).2=0): ∃ e:Nat,(eA t n).1.End=(e:Int)∧n<e∧e≤t.length∧(eA t n).1.At=(n:Int)∧(eA t n).1.Text=cut t ((n:Nat):Int) ((e:Nat):Int)∧(eA t n).1.Kind≠4:=by
 revert hz
 unfold eA
 rw [cK _ h]
 by_cases hD:dg t[n]=true
 · rw [if_pos hD]
   simp only []
   split
   · intro hz; rename_i q; exact absurd hz q
   · intro _
     refine ⟨dz dg t n,rfl, ?_,(uM dg t n (by omega)).2,rfl,(vm dg t n).symm,fun q=>absurd (show (2:Int)=4 from q) (by decide)⟩
     rw [w5 h hD]; exact (uM dg t (n+1) (by omega)).1
 · rw [if_neg hD]
   by_cases hL:lt t[n]=true
   · rw [if_pos hL]
     split
     · intro hz; exact absurd hz (by decide)
     · intro _
       refine ⟨dz nm t n,rfl, ?_,(uM nm t n (by omega)).2,rfl,(vm nm t n).symm,fun q=>absurd (show (1:Int)=4 from q) (by decide)⟩
       rw [w5 h (by simp [nm,hL])]; exact (uM nm t (n+1) (by omega)).1
   · rw [if_neg hL]
     have hs:=xg (t.drop n)
     rw [List.length_drop] at hs
     split
     · intro hz; exact absurd hz (by decide)
     · intro _
       exact ⟨n+dP (t.drop n),rfl,by omega,by omega,rfl,(EE t n _).symm,fun q=>absurd (show (3:Int)=4 from q) (by decide)⟩
def gM:Nat→List UInt8→List ai→Nat→List ai×aF
 | 0,_,_,_=>([],aF.mk 0 0)
 | k+1,t,l,n=>if n<t.length then
  (if (eA t n).2≠0 then ([],aF.mk (eA t n).2 n) else gM k t (l++ [(eA t n).1]) (b8 false (t.drop (eA t n).1.End.toNat) (eA t n).1.End.toNat))
  else (l++ [ai.mk 4 n n [] 0],aF.mk 0 0)
def hO (t:List UInt8):List ai×aF:=
 if 16384<t.length then ([],aF.mk 13 16384) else gM (t.length+1) t [] (b8 false t 0)
theorem Bh (t:List UInt8) (n:Nat) (h:n≤t.length) (hs:b8 false (t.drop n) n<t.length):t[b8 false (t.drop n) n]≠32:=by
 have h1:=(sB (t.drop n) false n).1
 have :=aaL (t.drop n) false n (b8 false (t.drop n) n - n) (by omega) (by rw [List.length_drop]; omega)
 rw [cK _ (by rw [List.length_drop]; omega),List.getElem_drop] at this
 have e:n+(b8 false (t.drop n) n - n)=b8 false (t.drop n) n:=by omega
 simpa only [e] using this
theorem Rg (t:List UInt8) (hl:t.length≤16384): ∀ m n,t.length≤n+m→n≤t.length→(∀ h:n<t.length,t[n]≠32)→ ∀ l:List ai,l.length≤n→ ∀ k k',m+1≤k→m+1≤k'→
 ug k t 0 0 l ((n:Nat):Int)=some (gM k' t l n):=by
 intro m
 induction m with
 | zero=>
  intro n h hn _ l FK k k' hk hk'
  obtain ⟨k,rfl⟩: ∃ j,k=j+1:=⟨k - 1,by omega⟩
  obtain ⟨k',rfl⟩: ∃ j,k'=j+1:=⟨k' - 1,by omega⟩
  simp only [ug,gM,List.length_cons,List.length_nil]
  rw [if_neg (by omega),if_pos (by omega),if_neg (by omega)]
 | succ m ih=>
  intro n h hn hb l FK k k' hk hk'
  obtain ⟨k,rfl⟩: ∃ j,k=j+1:=⟨k - 1,by omega⟩
  obtain ⟨k',rfl⟩: ∃ j,k'=j+1:=⟨k' - 1,by omega⟩
  by_cases hlt:n<t.length
  · have hi:(n:Int)<(t.length:Int):=by omega
    have Fz:(l.length+(0+1))*48≤140737488355328:=by omega
    simp only [ug,gM,List.length_cons,List.length_nil,hi,hlt,if_true,WT t n (by omega) hlt (hb hlt),aa,Fz]
    by_cases hz:(eA t n).2=0
    · simp only [hz,ne_eq,not_true_eq_false,if_false]
      obtain ⟨e,he,h1,h2,_⟩:=Dt t n hlt hz
      simp only [he,My t e (by omega) h2,aa,Int.toNat_natCast]
      have hg:=sB (t.drop e) false e
      rw [List.length_drop] at hg
      exact ih _ (by omega) (by omega) (fun hh=>Bh t e h2 hh) _ (by rw [List.length_append,List.length_singleton]; omega) k k' (by omega) (by omega)
    · simp only [hz,ne_eq,not_false_eq_true,if_true]
  · simp only [ug,gM,List.length_cons,List.length_nil]
    rw [if_neg (by omega),if_pos (by omega),if_neg hlt]
theorem Md (t:List UInt8):BN t=some (hO t):=by
 refine bn (t.length+1) fun k hk=> ?_
 unfold Gn hO
 by_cases hl:16384<t.length
 · rw [if_pos (by omega),if_pos hl]
 · have hg:=sB t false 0
   rw [if_neg (by omega),if_neg hl,show (0:Int)=((0:Nat):Int) from rfl,My t 0 (by omega) (Nat.zero_le _),aa]
   exact (Rg t (by omega) t.length _ (by omega) (by rw [List.drop_zero]; omega) (fun hh=>Bh t 0 (Nat.zero_le _) hh) [] (Nat.zero_le _) k _ (by omega) (by omega))
theorem Rf (t:List UInt8): ∀ k l n,(gM k t l n).1.length≤l.length+k:=by
 intro k
 induction k with
 | zero=>intro l n; simp [gM]
 | succ k ih=>
  intro l n
  simp only [gM]
  split
  · split
    · simp
    · refine Nat.le_trans (ih _ _) ?_
      simp; omega
  · simp
theorem I9 (t:List UInt8):(hO t).1.length≤16385:=by
 unfold hO
 split
 · simp
 · have :=Rf t (t.length+1) [] (b8 false t 0)
   simp at this
   omega
abbrev oL:List (List UInt8):= [C8,CT,ng,nj,nh,iN,ql,qo,fS,gF,fQ,eY,oA,oC,eT,gW,lU,lW,lT,nc,j7,qg,jJ,kJ,C3,C6,C0,C5,CX,CU,CW,C4,CY,CV,HR]
def er (s:List UInt8):Bool:=decide (s ∈ oL)
theorem ab5:oL.length=35:=rfl
theorem Gt (s:List UInt8):pN s=some (er s):=by
 unfold pN
 by_cases hr:er s=true
 · rw [hr]
   have hm:s ∈ oL:=of_decide_eq_true hr
   simp only [oL,List.mem_cons,List.not_mem_nil,or_false] at hm
   rcases hm with rfl | rfl | rfl | rfl | rfl | rfl | rfl | rfl | rfl | rfl | rfl | rfl | rfl | rfl | rfl | rfl | rfl | rfl | rfl | rfl | rfl | rfl | rfl | rfl | rfl | rfl | rfl | rfl | rfl | rfl | rfl | rfl | rfl | rfl | rfl <;> decide+kernel
 · have hr':er s=false:=by simpa using hr
   have hm:s ∉ oL:=of_decide_eq_false hr'
   rw [hr']
   simp only [oL,List.mem_cons,List.not_mem_nil,or_false,not_or] at hm
   simp only [hm,if_false]
def mP (s:List UInt8):Bool:=decide (s≠ []∧s.length≤24)&& !er s&&lt (s.getD 0 0)&&s.all nm
theorem W9 {b:UInt8} (h:lt b=true∨dg b=true): ¬ (b=32∨b=9∨b=10∨b=13)∧b≠35:=by
 refine ⟨?_, ?_⟩
 · rintro (rfl | rfl | rfl | rfl) <;> rcases h with h | h <;> exact absurd h (by decide)
 · rintro rfl; rcases h with h | h <;> exact absurd h (by decide)
end Go.Sy.Ex
namespace Go.Sy.Ex
open Go.Sy
abbrev Tk:=Int×List UInt8×Int
def strip (t:ai):Tk:=(t.Kind,t.Text,t.N)
def nX (b:UInt8):Bool:=decide (b=32∨b=9∨b=10∨b=13)
def gH (u:List UInt8):List UInt8:=u.dropWhile nX
def nW:List UInt8→Option (Tk×Nat)
 | []=>none
 | b::u=>if dg b then
  (let r:=n7 ((b::u).takeWhile dg)
   if r.2≠0 then none else some ((2,(b::u).takeWhile dg,r.1),((b::u).takeWhile dg).length))
  else if lt b then (if 24<((b::u).takeWhile nm).length then none else some ((1,(b::u).takeWhile nm,0),((b::u).takeWhile nm).length))
  else if dP (b::u)=0 then none
  else some ((3,(b::u).take (dP (b::u)),0),dP (b::u))
theorem vG (b : UInt8) (u : List UInt8) : nW (b :: u) = if dg b then
      (let r:=n7 ((b::u).takeWhile dg)
       if r.2≠0 then none else some ((2,(b::u).takeWhile dg,r.1),((b::u).takeWhile dg).length))
 else if lt b then (if 24<((b::u).takeWhile nm).length then none else some ((1,(b::u).takeWhile nm,0),((b::u).takeWhile nm).length))
 else if dP (b::u)=0 then none
 else some ((3,(b::u).take (dP (b::u)),0),dP (b::u)):=rfl
inductive g_:Nat→List UInt8→List ai→Prop
 | nil {n:Nat} {u:List UInt8} :gH u= []→g_ n u []
 | cons {n:Nat} {u v:List UInt8} {tk:Tk} {m:Nat} {L:List ai} :gH u=v→v≠ []→nW v=some (tk,m)→
  g_ (n+(u.length - v.length)+m) (v.drop m) L→g_ n u (⟨tk.1,(n+(u.length - v.length):Nat),(n+(u.length - v.length)+m:Nat),tk.2.1,tk.2.2⟩::L)
theorem UP (t:List UInt8) (n:Nat) (h:n<t.length):nW (t.drop n)=if (eA t n).2≠0 then none else some (strip (eA t n).1,((eA t n).1.End - n).toNat):=by
 have hd:t.drop n=t[n]::t.drop (n+1):=List.drop_eq_getElem_cons h
 unfold eA
 rw [cK _ h]
 conv=>lhs; rw [hd]
 rw [vG, ← hd]
 by_cases hD:dg t[n]=true
 · rw [if_pos hD,if_pos hD]
   simp only []
   by_cases hz:(n7 ((t.drop n).takeWhile dg)).2≠0
   · simp only [hz,ne_eq,not_false_eq_true,if_true]
   · simp only [hz,if_false,strip,ne_eq,not_true_eq_false]
     congr 2
     unfold dz
     omega
 · rw [if_neg hD,if_neg hD]
   by_cases hL:lt t[n]=true
   · rw [if_pos hL,if_pos hL]
     unfold dz
     by_cases mL:24<((t.drop n).takeWhile nm).length
     · have :n+24<n+((t.drop n).takeWhile nm).length:=by omega
       simp only [mL,this,if_true,ne_eq]
       rw [if_pos (by decide)]
     · have : ¬ n+24<n+((t.drop n).takeWhile nm).length:=by omega
       simp only [mL,this,if_false,ne_eq,not_true_eq_false,strip]
       congr 2
       omega
   · rw [if_neg hL,if_neg hL]
     by_cases hs:dP (t.drop n)=0
     · simp only [hs,if_true,ne_eq]
       rw [if_pos (by decide)]
     · simp only [hs,if_false,ne_eq,not_true_eq_false,strip]
       congr 2
       omega
theorem UO {v:List UInt8} {tk:Tk} {m:Nat} (h:nW v=some (tk,m)):1≤m∧m≤v.length:=by
 cases v with
 | nil=>cases h
 | cons b u=>
  rw [vG] at h
  by_cases hD:dg b=true
  · rw [if_pos hD] at h
    simp only [] at h
    split at h
    · cases h
    · cases h
      have :=xw dg (b::u)
      rw [List.takeWhile_cons_of_pos hD] at this ⊢
      exact ⟨by simp,this⟩
  · rw [if_neg hD] at h
    by_cases hL:lt b=true
    · rw [if_pos hL] at h
      split at h
      · cases h
      · cases h
        have :=xw nm (b::u)
        rw [List.takeWhile_cons_of_pos (by simp [nm,hL])] at this ⊢
        exact ⟨by simp,this⟩
    · rw [if_neg hL] at h
      split at h
      · cases h
      · rename_i hs
        cases h
        exact ⟨by omega,xg _⟩
theorem C_ (u:List UInt8): ∃ p,u=p++gH u∧p.all nX=true:=by
 induction u with
 | nil=>exact ⟨[],rfl,rfl⟩
 | cons b u ih=>
  unfold gH
  by_cases hb:nX b=true
  · rw [List.dropWhile_cons_of_pos hb]
    obtain ⟨p,h1,h2⟩:=ih
    exact ⟨b::p,by rw [List.cons_append]; congr 1,by simp [hb,h2]⟩
  · rw [List.dropWhile_cons_of_neg hb]
    exact ⟨[],rfl,rfl⟩
theorem H6: ∀ (p u:List UInt8) (n:Nat),p.all nX=true→b8 false (p++u) n=b8 false u (n+p.length)
 | [],u,n,_=>rfl
 | b::p,u,n,h=>by
  simp only [List.all_cons,Bool.and_eq_true] at h
  have hb:b=32∨b=9∨b=10∨b=13:=of_decide_eq_true h.1
  rw [List.cons_append]
  simp only [b8]
  rw [if_pos hb,H6 p u (n+1) h.2,List.length_cons,Nat.add_assoc,Nat.add_comm 1]
theorem aaM {b:UInt8} {u:List UInt8} {n:Nat} (h1:nX b=false) (h2:b≠35):b8 false (b::u) n=n:=by
 have hb: ¬ (b=32∨b=9∨b=10∨b=13):=of_decide_eq_false h1
 simp only [b8]
 rw [if_neg hb,if_neg h2]
theorem UQ {u:List UInt8} :nW (35::u)=none:=by
 rw [vG,if_neg (by decide),if_neg (by decide),if_pos]
 cases u with
 | nil=>rfl
 | cons c u=>
  show (if [35,c] ∈ iI then 2 else if (35:UInt8) ∈ ir then 1 else 0)=0
  rw [if_neg,if_neg (by decide)]
  simp only [iI,List.mem_cons,List.cons.injEq,and_true,List.not_mem_nil,or_false]
  rintro (⟨h,_⟩ | ⟨h,_⟩ | ⟨h,_⟩ | ⟨h,_⟩ | ⟨h,_⟩ | ⟨h,_⟩ | ⟨h,_⟩) <;> revert h <;> decide
theorem aaK {u:List UInt8} {b:UInt8} {v:List UInt8} (h:gH u=b::v):nX b=false:=by
 induction u with
 | nil=>cases h
 | cons c u ih=>
  unfold gH at h
  by_cases hc:nX c=true
  · rw [List.dropWhile_cons_of_pos hc] at h; exact ih h
  · rw [List.dropWhile_cons_of_neg hc] at h
    cases h
    simpa using hc
theorem Xy {t:List UInt8} {n:Nat} {u:List UInt8} {L:List ai} (h:g_ n u L):t.drop n=u→n≤t.length→ ∀ k l,t.length≤n+k→
 gM (k+1) t l (b8 false (t.drop n) n)=(l++L++ [ai.mk 4 t.length t.length [] 0],aF.mk 0 0):=by
 induction h with
 | @nil n u hs=>
  intro hu hn k l hk
  obtain ⟨p,h1,h2⟩:=C_ u
  rw [hs,List.append_nil] at h1
  subst h1
  have hl:u.length=t.length - n:=by rw [← hu,List.length_drop]
  have :b8 false (t.drop n) n=t.length:=by
   rw [hu]
   have :=H6 u [] n h2
   rw [List.append_nil] at this
   rw [this]
   show n+u.length=_
   omega
  rw [this]
  simp only [gM]
  rw [if_neg (by omega),List.append_nil]
 | @cons n u v tk m L hs hv hh hp ih=>
  intro hu hn k l hk
  obtain ⟨p,h1,h2⟩:=C_ u
  rw [hs] at h1
  have hl:u.length=t.length - n:=by rw [← hu,List.length_drop]
  have Va:u.length=p.length+v.length:=by rw [h1,List.length_append]
  obtain ⟨b,v',rfl⟩: ∃ b v',v=b::v':=by
   cases v with
   | nil=>exact absurd rfl hv
   | cons b v'=>exact ⟨b,v',rfl⟩
  have hb:=aaK hs
  have hne:b≠35:=fun e=>by subst e; rw [UQ] at hh; cases hh
  have hq:u.length - (b::v').length=p.length:=by omega
  simp only [hq] at ih ⊢
  have hpos:b8 false (t.drop n) n=n+p.length:=by
   rw [hu,h1,H6 p _ n h2,aaM hb hne]
  have hlt:n+p.length<t.length:=by simp only [List.length_cons] at Va; omega
  have Lr:t.drop (n+p.length)=b::v':=by
   rw [← List.drop_drop,hu,h1]
   simp
  have vL:=UP t (n+p.length) hlt
  rw [Lr,hh] at vL
  have hz:(eA t (n+p.length)).2=0:=by
   by_cases hz:(eA t (n+p.length)).2=0
   · exact hz
   · rw [if_pos hz] at vL; cases vL
  rw [if_neg (by simp [hz])] at vL
  obtain ⟨e,he,h3,h4,cZ,y4,_⟩:=Dt t (n+p.length) hlt hz
  simp only [Option.some.injEq,Prod.mk.injEq] at vL
  obtain ⟨htk,hm⟩:=vL
  rw [he] at hm
  have hme:e=n+p.length+m:=by omega
  have VB:(eA t (n+p.length)).1=⟨tk.1,(n+p.length:Nat),(n+p.length+m:Nat),tk.2.1,tk.2.2⟩:=by
   rw [htk]
   unfold strip
   generalize eA t (n+p.length)=x at *
   obtain ⟨⟨a1,a2,a3,a4,a5⟩,a6⟩:=x
   dsimp only at *
   rw [cZ,he,hme]
  obtain ⟨k,rfl⟩: ∃ j,k=j+1:=⟨k - 1,by omega⟩
  rw [hpos]
  conv=>lhs; unfold gM
  rw [if_pos hlt,if_neg (by simp [hz]),VB]
  dsimp only
  rw [Int.toNat_natCast]
  have :=ih (by rw [← Lr,List.drop_drop]) (by omega) k (l++ [⟨tk.1,(n+p.length:Nat),(n+p.length+m:Nat),tk.2.1,tk.2.2⟩]) (by omega)
  rw [this]
  simp [List.append_assoc]
theorem Xz {t:List UInt8} {L:List ai} (h:g_ 0 t L) (hl:t.length≤16384):hO t=(L++ [ai.mk 4 t.length t.length [] 0],aF.mk 0 0):=by
 unfold hO
 rw [if_neg (by omega)]
 have :=Xy (t:=t) h rfl (Nat.zero_le _) t.length [] (by omega)
 rw [List.drop_zero,List.nil_append] at this
 exact this
def kL (a b:List UInt8):Bool:=match a.getLast?,b.head? with
 | some x,some y=> !(nm x&&nm y)&& !decide ([x,y] ∈ iI)
 | _,_=>true
theorem Pf {p:UInt8→Bool} : ∀ (v b:List UInt8),(v.takeWhile p).length<v.length∨(∀ y,b.head?=some y→p y=false)→(v++b).takeWhile p=v.takeWhile p
 | [],b,h=>by
  rcases h with h | h
  · simp at h
  · cases b with
    | nil=>rfl
    | cons y b=>rw [List.nil_append,List.takeWhile_cons_of_neg (by simp [h y rfl])]; rfl
 | x::v,b,h=>by
  rw [List.cons_append]
  by_cases hx:p x=true
  · rw [List.takeWhile_cons_of_pos hx,List.takeWhile_cons_of_pos hx] at *
    rw [Pf v b (h.imp (fun h=>by simpa using h) id)]
  · rw [List.takeWhile_cons_of_neg hx,List.takeWhile_cons_of_neg hx]
theorem abo {p:UInt8→Bool} {v:List UInt8} (h: ¬ (v.takeWhile p).length<v.length): ∀ x,v.getLast?=some x→p x=true:=by
 have :v.takeWhile p=v:=by
  have hle:=xw p v
  have hpre:v.takeWhile p <+: v:=List.takeWhile_prefix p
  exact hpre.eq_of_length (by omega)
 intro x hx
 have hm:x ∈ v:=List.mem_of_getLast? hx
 rw [← this] at hm
 exact Du p v x hm
theorem UN {v b:List UInt8} {tk:Tk} {m:Nat} (h:nW v=some (tk,m)) (hs:m<v.length∨kL v b=true):nW (v++b)=some (tk,m):=by
 cases v with
 | nil=>cases h
 | cons c u=>
  have hno: ∀ (p:UInt8→Bool),(∀ x,p x=true→nm x=true)→p c=true→(m=((c::u).takeWhile p).length)→((c::u)++b).takeWhile p=(c::u).takeWhile p:=by
   intro p hp hc hm
   refine Pf _ _ ?_
   by_cases hlt:((c::u).takeWhile p).length<(c::u).length
   · exact .inl hlt
   · refine .inr fun y hy=> ?_
     rcases hs with hs | hs
     · omega
     · obtain ⟨x,hx⟩: ∃ x,(c::u).getLast?=some x:=⟨_,List.getLast?_eq_some_getLast (by simp)⟩
       have hpx:=hp x (abo hlt x hx)
       unfold kL at hs
       rw [hx,hy] at hs
       dsimp only at hs
       rw [Bool.and_eq_true,hpx] at hs
       cases hq:p y with
       | false=>rfl
       | true=>rw [hp y hq] at hs; cases hs.1
  rw [List.cons_append]
  rw [vG] at h ⊢
  by_cases hD:dg c=true
  · rw [if_pos hD] at h ⊢
    simp only [] at h ⊢
    have hm:m=((c::u).takeWhile dg).length:=by
     split at h
     · cases h
     · cases h; rfl
    have :=hno dg (fun x hx=>by simp [nm,hx]) hD hm
    rw [List.cons_append] at this
    rw [this]
    exact h
  · rw [if_neg hD] at h ⊢
    by_cases hL:lt c=true
    · rw [if_pos hL] at h ⊢
      have hm:m=((c::u).takeWhile nm).length:=by
       split at h
       · cases h
       · cases h; rfl
      have :=hno nm (fun x hx=>hx) (by simp [nm,hL]) hm
      rw [List.cons_append] at this
      rw [this]
      exact h
    · rw [if_neg hL] at h ⊢
      have hm:m=dP (c::u)∧dP (c::u)≠0:=by
       split at h
       · cases h
       · rename_i hz; cases h; exact ⟨rfl,hz⟩
      have hsame:dP (c::(u++b))=dP (c::u):=by
       cases u with
       | cons d u=>rfl
       | nil=>
        cases b with
        | nil=>rfl
        | cons y b=>
         show (if [c,y] ∈ iI then 2 else if c ∈ ir then 1 else 0)=if c ∈ ir then 1 else 0
         rw [if_neg]
         rcases hs with hs | hs
         · have :dP [c]≤1:=xg [c]
           have h1:m=dP [c]:=hm.1
           have h2:dP [c]≠0:=hm.2
           simp only [List.length_cons,List.length_nil] at hs
           omega
         · unfold kL at hs
           simp only [List.getLast?_singleton,List.head?_cons,Bool.and_eq_true,Bool.not_eq_true',decide_eq_false_iff_not] at hs
           exact hs.2
      have tZ:(c::(u++b)).take (dP (c::u))=(c::u).take (dP (c::u)):=by
       rw [← List.cons_append,List.take_append_of_le_length (xg _)]
      rw [hsame,tZ]
      exact h
theorem OL {p v b:List UInt8} (hv:v≠ []):kL (p++v) b=kL v b:=by
 unfold kL
 rw [List.getLast?_append]
 obtain ⟨x,hx⟩: ∃ x,v.getLast?=some x:=⟨_,List.getLast?_eq_some_getLast hv⟩
 rw [hx]; rfl
theorem aaJ {u b:List UInt8} (h:gH u≠ []):gH (u++b)=gH u++b:=by
 unfold gH at *
 induction u with
 | nil=>exact absurd rfl h
 | cons c u ih=>
  rw [List.cons_append]
  by_cases hc:nX c=true
  · rw [List.dropWhile_cons_of_pos hc] at h ⊢
    rw [List.dropWhile_cons_of_pos hc]
    exact ih h
  · rw [List.dropWhile_cons_of_neg hc,List.dropWhile_cons_of_neg hc]; rfl
theorem OU {u b:List UInt8} (h:gH u= []):gH (u++b)=gH b:=by
 unfold gH at *
 induction u with
 | nil=>rfl
 | cons c u ih=>
  rw [List.cons_append]
  by_cases hc:nX c=true
  · rw [List.dropWhile_cons_of_pos hc] at h ⊢
    exact ih h
  · rw [List.dropWhile_cons_of_neg hc] at h; cases h
theorem g_.shift {n n':Nat} {a p:List UInt8} {L:List ai} (hp:gH p= []) (h:g_ (n+p.length) a L):g_ n (p++a) L:=by
 generalize hn:n+p.length=q at h
 cases h with
 | nil hs=>exact .nil (by rw [OU hp]; exact hs)
 | @cons _ _ v tk m L hs hv hh hl=>
  obtain ⟨p',h1,_⟩:=C_ a
  rw [hs] at h1
  have hlen:a.length=p'.length+v.length:=by rw [h1,List.length_append]
  have e:n+((p++a).length - v.length)=q+(a.length - v.length):=by rw [List.length_append]; omega
  have :=g_.cons (n:=n) (u:=p++a) (by rw [OU hp]; exact hs) hv hh (by rw [e]; exact hl)
  rw [e] at this
  exact this
theorem g_.append {n:Nat} {a:List UInt8} {La:List ai} (ha:g_ n a La): ∀ {b:List UInt8} {Lb:List ai},g_ (n+a.length) b Lb→kL a b=true→g_ n (a++b) (La++Lb):=by
 induction ha with
 | @nil n u hs=>intro b Lb hb _; exact g_.shift (n':=0) hs hb
 | @cons n u v tk m L hs hv hh hp ih=>
  intro b Lb hb hsep
  obtain ⟨p,h1,_⟩:=C_ u
  rw [hs] at h1
  have hml:=UO hh
  have hlen:u.length=p.length+v.length:=by rw [h1,List.length_append]
  have FR:kL v b=true:=by rw [h1,OL hv] at hsep; exact hsep
  have U0:=UN hh (b:=b) (.inr FR)
  have LD:(u++b).length - (v++b).length=u.length - v.length:=by simp only [List.length_append]; omega
  have Vv:g_ (n+(u.length - v.length)+m) (v.drop m++b) (L++Lb):=by
   refine ih ?_ ?_
   · rw [List.length_drop,show n+(u.length - v.length)+m+(v.length - m)=n+u.length from by omega]
     exact hb
   · by_cases hd:v.drop m= []
     · rw [hd]; rfl
     · have :v=v.take m++v.drop m:=(List.take_append_drop m v).symm
       rw [this,OL hd] at FR
       exact FR
  have :=g_.cons (n:=n) (u:=u++b) (v:=v++b) (by rw [← hs]; exact aaJ (by rw [hs]; exact hv)) (by simp [hv]) U0 (L:=L++Lb) (by
   rw [LD,List.drop_append_of_le_length hml.2]
   exact Vv)
  rw [LD] at this
  exact this
def Lx (s:List UInt8) (K:List Tk):Prop:= ∀ n, ∃ L,g_ n s L∧L.map strip=K
theorem Lx.append {a b:List UInt8} {Ka Kb:List Tk} (ha:Lx a Ka) (hb:Lx b Kb) (hs:kL a b=true):Lx (a++b) (Ka++Kb):=fun n=>by
 obtain ⟨La,h1,h2⟩:=ha n
 obtain ⟨Lb,h3,h4⟩:=hb (n+a.length)
 exact ⟨La++Lb,h1.append h3 hs,by rw [List.map_append,h2,h4]⟩
theorem Lx.all {t:List UInt8} {K:List Tk} (h:Lx t K) (hl:t.length≤16384): ∃ l,hO t=(l,aF.mk 0 0)∧l.map strip=K++ [(4,[],0)]:=by
 obtain ⟨L,h1,h2⟩:=h 0
 exact ⟨_,Xz h1 hl,by rw [List.map_append,h2]; rfl⟩
def BL:Nat→List UInt8→Option (List Tk)
 | 0,_=>none
 | k+1,u=>match gH u with
  | []=>some []
  | b::v=>match nW (b::v) with
   | some (tk,m)=>match BL k ((b::v).drop m) with
    | some K=>some (tk::K)
    | none=>none
   | none=>none
theorem BM: ∀ (k:Nat) {u:List UInt8} {K:List Tk},BL k u=some K→Lx u K
 | 0,_,_,h=>by cases h
 | k+1,u,K,h=>fun n=>by
  simp only [BL] at h
  cases hs:gH u with
  | nil=>rw [hs] at h; cases h; exact ⟨[], .nil hs,rfl⟩
  | cons b v=>
   rw [hs] at h
   dsimp only at h
   cases hh:nW (b::v) with
   | none=>rw [hh] at h; cases h
   | some p=>
    obtain ⟨tk,m⟩:=p
    rw [hh] at h
    dsimp only at h
    cases hr:BL k ((b::v).drop m) with
    | none=>rw [hr] at h; cases h
    | some K'=>
     rw [hr] at h
     cases h
     obtain ⟨L,h1,h2⟩:=BM k hr (n+(u.length - (b::v).length)+m)
     exact ⟨_, .cons hs (by simp) hh h1,by rw [List.map_cons,h2]; rfl⟩
end Go.Sy.Ex
